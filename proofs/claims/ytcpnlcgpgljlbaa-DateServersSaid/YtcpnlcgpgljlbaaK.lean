/- The walk of the law DateClocks: it returns true. -/
import Derived.Test.YtcpnlcgpgljlbaaJ
import Derived.Deep.DeepCutAuto
namespace Go.Proofs.Ytcpnlcgpgljlbaa
open Go.RowKit
set_option linter.unusedVariables false

/-- The slice with address A and length len holds these ops, below block B. -/
def Ops (w : World) (B : Nat) (A : Option Addr) (len : Nat) (o : Nat → Bool × Int × Int × Int × Int) : Prop :=
  ∀ i, i < len → ∃ b off, A = some ⟨b, off, none⟩ ∧ b < B ∧ w.cell? ⟨b, off + i * 5, none⟩ = some (.bool (o i).1) ∧ w.cell? ⟨b, off + i * 5 + 1, none⟩ = some (.int .i64 (o i).2.1) ∧
    w.cell? ⟨b, off + i * 5 + 2, none⟩ = some (.int .i64 (o i).2.2.1) ∧ w.cell? ⟨b, off + i * 5 + 3, none⟩ = some (.int .i64 (o i).2.2.2.1) ∧ w.cell? ⟨b, off + i * 5 + 4, none⟩ = some (.int .i64 (o i).2.2.2.2)
theorem Ops.below {w w' : World} {B : Nat} {A : Option Addr} {len : Nat} {o} (h : Ops w B A len o) (hb : Below B w w') : Ops w' B A len o := by
  intro i hi
  obtain ⟨b, off, h1, h2, h3, h4, h5, h6, h7⟩ := h i hi
  exact ⟨b, off, h1, h2, (hb.cell h2).trans h3, (hb.cell h2).trans h4, (hb.cell h2).trans h5, (hb.cell h2).trans h6, (hb.cell h2).trans h7⟩

theorem new_P (n : Int) (w : World) (B : Nat) (hB : B ≤ w.heap.size) : Calls Try.prog 25 #[.int .i64 n] w fun e w' => ∃ p st, e = .returned p ∧ (st = none ↔ ¬ (1 ≤ n ∧ n ≤ 8)) ∧ (∀ x, st = some x → x = (n, 0, -1, 0)) ∧ At w' B 57 p st ∧ Below w.heap.size w w' := by
  by_cases h : 1 ≤ n ∧ n ≤ 8
  · refine (new_yes n w h.1 h.2).mono ?_
    rintro e w' ⟨rfl, rfl⟩
    exact ⟨_, some (n, 0, -1, 0), rfl, by simp [h], by simp, ⟨_, rfl, hB, Blk.new _ _ _, h.1, h.2, by omega, by omega, by omega, by omega⟩, (Below.refl _ _).alloc (Nat.le_refl _) _⟩
  · refine (new_no n w (by omega)).mono ?_
    rintro e w' ⟨rfl, rfl⟩
    exact ⟨_, none, rfl, by simp [h], by simp, rfl, Below.refl _ _⟩
theorem rnew_P (n : Int) (w : World) (B : Nat) (hB : B ≤ w.heap.size) : Calls Try.prog 26 #[.int .i64 n] w fun e w' => ∃ p st, e = .returned p ∧ (st = none ↔ ¬ (1 ≤ n ∧ n ≤ 8)) ∧ (∀ x, st = some x → x = (n, 0, -1, 0)) ∧ At w' B 64 p st ∧ Below w.heap.size w w' := by
  by_cases h : 1 ≤ n ∧ n ≤ 8
  · refine (rnew_yes n w h.1 h.2).mono ?_
    rintro e w' ⟨rfl, rfl⟩
    exact ⟨_, some (n, 0, -1, 0), rfl, by simp [h], by simp, ⟨_, rfl, hB, Blk.new _ _ _, h.1, h.2, by omega, by omega, by omega, by omega⟩, (Below.refl _ _).alloc (Nat.le_refl _) _⟩
  · refine (rnew_no n w (by omega)).mono ?_
    rintro e w' ⟨rfl, rfl⟩
    exact ⟨_, none, rfl, by simp [h], by simp, rfl, Below.refl _ _⟩

theorem At.ptr {w : World} {B t : Nat} {p : Value} {st} (h : At w B t p st) : ∃ a, p = .pointer a ∧ a.isNone = st.isNone := by
  unfold At at h
  split at h
  · exact ⟨none, h, rfl⟩
  · obtain ⟨b, h1, _⟩ := h
    exact ⟨_, h1, rfl⟩
theorem st_same {n : Int} {st st' : Option (Int × Int × Int × Int)} (h1 : st = none ↔ ¬ (1 ≤ n ∧ n ≤ 8)) (h2 : ∀ x, st = some x → x = (n, 0, -1, 0)) (k1 : st' = none ↔ ¬ (1 ≤ n ∧ n ≤ 8)) (k2 : ∀ x, st' = some x → x = (n, 0, -1, 0)) : st' = st := by
  cases st with
  | none => exact k1.2 (h1.1 rfl)
  | some x =>
    cases st' with
    | none => exact absurd (h1.2 (k1.1 rfl)) (by simp)
    | some y => rw [h2 x rfl, k2 y rfl]
theorem nine {w : World} {a b e : Nat} {x0 x1 x2 y0 y1 y2 z0 z1 z2 z3 z4 : Value} (h1 : Blk w a 39 #[x0, x1, x2]) (h2 : Blk w b 39 #[y0, y1, y2]) (h3 : Blk w e 41 #[z0, z1, z2, z3, z4]) :
    w.cell? ⟨a, 0, none⟩ = some x0 ∧ w.cell? ⟨a, 1, none⟩ = some x1 ∧ w.cell? ⟨a, 2, none⟩ = some x2 ∧ w.cell? ⟨b, 0, none⟩ = some y0 ∧ w.cell? ⟨b, 1, none⟩ = some y1 ∧ w.cell? ⟨b, 2, none⟩ = some y2 ∧ w.cell? ⟨e, 2, none⟩ = some z2 ∧ w.cell? ⟨e, 3, none⟩ = some z3 ∧ w.cell? ⟨e, 4, none⟩ = some z4 :=
  ⟨h1.cell 0, h1.cell 1, h1.cell 2, h2.cell 0, h2.cell 1, h2.cell 2, h3.cell 2, h3.cell 3, h3.cell 4⟩
abbrev st3 (r : Int × Int × Int × Int) : Array Value := #[.int .i64 r.1, .int .i64 r.2.1, .int .i64 r.2.2.1]
theorem eql_nil (t e : TypeId) (ht : Try.prog.underlying t = some (.pointer e)) (a : Option Addr) (w : World) : (binOp .eql t (.pointer a) (.pointer none)).run Try.prog w = .ok (.bool a.isNone) w := by
  cases a <;> simp [go_sem, ht]
set_option maxRecDepth 100000 in
set_option maxHeartbeats 2000000 in
theorem clocks_walk (server : Int) (A : Option Addr) (len cap : Nat) (o : Nat → Bool × Int × Int × Int × Int) (w : World) (hs : I64 server) (hm : len ≤ 9223372036854775807) (ho : Ops w w.heap.size A len o) :
    Calls Try.prog 6 #[.int .i64 server, .slice A len cap] w fun e w' => e = .returned (.bool true) ∧ Below w.heap.size w w' := by
  obtain ⟨hs1, hs2⟩ := hs
  obtain ⟨t1, t2⟩ := (⟨(tdm server 9 (by omega)).2.1, (tdm server 9 (by omega)).2.2.1⟩ : -9 < server.tmod 9 ∧ server.tmod 9 < 9)
  have em : (server.tmod 9 + 9) % 9 = server.tmod 9 % 9 := by omega
  have EM := Lib.hid em
  clear em
  go_enter Try.func6, Try.ntmps6
  go_wp2_with fail
  refine (sanity_any _).mono ?_
  rintro e w1 ⟨rfl, hb1⟩
  have HO := Lib.hid ho
  clear ho
  go_wp2_with fail
  rw [EM.out]
  have G1 : Below w.heap.size w w1 := hb1
  have z1 := hb1.size
  have S2 := Blk.new w1 3 #[.int .i64 server, .int .i64 (server.tmod 9 % 9)]
  have G2 := G1.alloc z1 (.cells #[.int .i64 server, .int .i64 (server.tmod 9 % 9)] 3)
  clear hb1 G1
  generalize w1.alloc (.cells #[.int .i64 server, .int .i64 (server.tmod 9 % 9)] 3) = w2 at *
  generalize w1.heap.size = g at *
  go_loopw [25] (fun i wr => ∃ k : Nat, k ≤ 2 ∧ i = .int .i64 k ∧ Blk wr g 3 #[.int .i64 server, .int .i64 (server.tmod 9 % 9)] ∧ Below w.heap.size w wr) (fun i _ => 2 - (intOf i).toNat)
  case atStart => exact ⟨0, by omega, rfl, S2, G2⟩
  case round =>
    clear S2 G2
    obtain ⟨k, hk, rfl, S, G⟩ := hrel
    by_cases hlt : k < 2
    · have hx : ∃ x : Int, wr.cell? ⟨g, k, none⟩ = some (.int .i64 x) := by
        match k, hlt with
        | 0, _ => exact ⟨_, S.cell 0⟩
        | 1, _ => exact ⟨_, S.cell 1⟩
      obtain ⟨x, hx⟩ := hx
      have zr := G.size
      go_upto_region 5 with (fail)
      go_cut [8, 9] (fun p q wc => ∃ (a b : Option Addr) (st : Option (Int × Int × Int × Int)), p = .pointer a ∧ q = .pointer b ∧ b.isNone = a.isNone ∧ At wc w.heap.size 57 p st ∧ At wc w.heap.size 64 q st ∧ Below wr.heap.size wr wc)
      case first =>
        go_wp2_with fail
        refine (new_P x _ w.heap.size zr).mono ?_
        rintro e u1 ⟨p, st, rfl, h1, h2, hA, hS⟩
        go_wp2_with fail
        refine (rnew_P x _ w.heap.size (Nat.le_trans zr hS.size)).mono ?_
        rintro e u2 ⟨q, st', rfl, k1, k2, hA', hS'⟩
        have HH := Lib.hid (And.intro (And.intro h1 h2) (And.intro (And.intro k1 k2) (And.intro hA (And.intro hA' (And.intro hS hS')))))
        clear h1 h2 k1 k2 hA hA' hS hS'
        go_wp2_with fail
        go_meet
        obtain ⟨⟨h1, h2⟩, ⟨k1, k2⟩, hA, hA', hS, hS'⟩ := HH.out
        obtain rfl := st_same h1 h2 k1 k2
        obtain ⟨a, ha, ha'⟩ := hA.ptr
        obtain ⟨b, hb, hb'⟩ := hA'.ptr
        exact ⟨a, b, st', ha, hb, hb'.trans ha'.symm, hA.below hS', hA', hS.trans (hS'.mono hS.size)⟩
      case rest =>
        obtain ⟨a, b, st, rfl, rfl, hab, hA, hA', hS⟩ := hcut
        have en1 := eql_nil 34 _ Try.underlying34 a
        have en2 := eql_nil 36 _ Try.underlying36 b
        go_wp2_with fail
        have G2 : Below w.heap.size w wc := G.trans (hS.mono zr)
        have S2 := S.below hS S.lt
        have HAB := Lib.hid hab
        clear S G hS hx hab
        go_loopw [10] (fun i wr => ∃ (k2 : Nat) (st : Option (Int × Int × Int × Int)), k2 ≤ len ∧ k2 ≤ 30 ∧ i = .int .i64 k2 ∧ At wr w.heap.size 57 (.pointer a) st ∧ At wr w.heap.size 64 (.pointer b) st ∧ Blk wr g 3 #[.int .i64 server, .int .i64 (server.tmod 9 % 9)] ∧ Below w.heap.size w wr) (fun i _ => 30 - (intOf i).toNat)
        case atStart => exact ⟨0, st, by omega, by omega, rfl, hA, hA', S2, G2⟩
        case round =>
          clear hA hA' S2 G2 st
          obtain ⟨k2, st, h1, h2, rfl, hA, hA', S2, G2⟩ := hrel
          by_cases hin : k2 < len ∧ k2 < 30
          · obtain ⟨hin1, hin2⟩ := hin
            obtain ⟨ba, off, rfl, hba, o0, o1, o2, o3, o4⟩ := (HO.out.below G2) k2 hin1
            generalize o k2 = oo at *
            have z2 := G2.size
            have HA := Lib.hid (And.intro hA (And.intro hA' (And.intro S2 G2)))
            clear hA hA' S2 G2
            go_upto_region 11 with (fail)
            go_cut [57, 58, 59] (fun p n i wc => ∃ q : Nat, p = .slice (some ⟨q, 0, none⟩) 2 2 ∧ n = .int .i64 2 ∧ i = .int .i64 0 ∧
              Blk wc q 41 #[.bool oo.1, .int .i64 (oo.2.1.tmod 40), .int .i64 (oo.2.2.1.tmod 40), .int .i64 (oo.2.2.2.1.tmod 9), .int .i64 (oo.2.2.2.2.tmod 9), .bool oo.1, .int .i64 oo.2.1, .int .i64 oo.2.2.1, .int .i64 oo.2.2.2.1, .int .i64 oo.2.2.2.2] ∧ Below wr.heap.size wr wc)
            case first =>
              go_region_held3 (fun w' => w'.cell? ⟨ba, off + k2 * 5, none⟩ = some (.bool oo.1) ∧ w'.cell? ⟨ba, off + k2 * 5 + 1, none⟩ = some (.int .i64 oo.2.1) ∧ w'.cell? ⟨ba, off + k2 * 5 + 2, none⟩ = some (.int .i64 oo.2.2.1) ∧ w'.cell? ⟨ba, off + k2 * 5 + 3, none⟩ = some (.int .i64 oo.2.2.2.1) ∧ w'.cell? ⟨ba, off + k2 * 5 + 4, none⟩ = some (.int .i64 oo.2.2.2.2))
                (first | (simp [*, go_sem]; done) | (refine ⟨?_, ?_, ?_, ?_, ?_⟩ <;> (rw [hb.cell (by simp; try omega)]; (simp [*, go_sem]; done))) | (refine ⟨?_, ?_, ?_, ?_, ?_⟩ <;> (rw [World.cell?_alloc_lt _ _ _ (by simp; omega)]; (simp [*, go_sem]; done))))
                (first | (go_at_call 27; refine (small_any _ _ _ _ _ _).mono ?_; rintro e w' ⟨rfl, hb⟩; have hz := hb.size; simp at hz))
              all_goals
                go_wp2_with fail
                go_meet
                exact ⟨_, rfl, rfl, rfl, Blk.new _ _ _, ((Below.refl _ _).drew.trans hb).alloc hz _⟩
            case rest =>
              obtain ⟨q, rfl, rfl, rfl, E, hbE⟩ := hcut
              obtain ⟨hA, hA', S2, G2⟩ := HA.out
              have A3 := hA.below hbE
              have A3' := hA'.below hbE
              have S3 := S2.below hbE S2.lt
              have G3 := G2.trans (hbE.mono z2)
              clear hA hA' S2 G2 HA hbE z2
              have HE := Lib.hid (And.intro A3 (And.intro A3' (And.intro S3 (And.intro G3 E))))
              clear A3 A3' S3 G3 E
              go_wp2_with fail
              obtain ⟨A3, A3', S3, G3, E⟩ := HE.out
              clear HE
              go_loopw [59] (fun i wr => ∃ (j : Nat) (st : Option (Int × Int × Int × Int)), j ≤ 2 ∧ i = .int .i64 j ∧ At wr w.heap.size 57 (.pointer a) st ∧ At wr w.heap.size 64 (.pointer b) st ∧ Blk wr g 3 #[.int .i64 server, .int .i64 (server.tmod 9 % 9)] ∧ Below w.heap.size w wr ∧
                Blk wr q 41 #[.bool oo.1, .int .i64 (oo.2.1.tmod 40), .int .i64 (oo.2.2.1.tmod 40), .int .i64 (oo.2.2.2.1.tmod 9), .int .i64 (oo.2.2.2.2.tmod 9), .bool oo.1, .int .i64 oo.2.1, .int .i64 oo.2.2.1, .int .i64 oo.2.2.2.1, .int .i64 oo.2.2.2.2]) (fun i _ => 2 - (intOf i).toNat)
              case atStart => exact ⟨0, st, by omega, rfl, A3, A3', S3, G3, E⟩
              case round =>
                clear A3 A3' S3 G3 E st
                obtain ⟨j, st, hj, rfl, hA, hA', S4, G4, E⟩ := hrel
                by_cases hj2 : j < 2
                · have hc : ∃ (h : Bool) (n d c s : Int), wr.cell? ⟨q, j * 5, none⟩ = some (.bool h) ∧ wr.cell? ⟨q, j * 5 + 1, none⟩ = some (.int .i64 n) ∧ wr.cell? ⟨q, j * 5 + 2, none⟩ = some (.int .i64 d) ∧ wr.cell? ⟨q, j * 5 + 3, none⟩ = some (.int .i64 c) ∧ wr.cell? ⟨q, j * 5 + 4, none⟩ = some (.int .i64 s) := by
                    match j, hj2 with
                    | 0, _ => exact ⟨_, _, _, _, _, E.cell 0, E.cell 1, E.cell 2, E.cell 3, E.cell 4⟩
                    | 1, _ => exact ⟨_, _, _, _, _, E.cell 5, E.cell 6, E.cell 7, E.cell 8, E.cell 9⟩
                  obtain ⟨h, n, d, c, s, c0, c1, c2, c3, c4⟩ := hc
                  have z4 := G4.size
                  have R5 := Blk.new wr 41 #[.bool h, .int .i64 n, .int .i64 d, .int .i64 c, .int .i64 s]
                  have hb5 : Below wr.heap.size wr (wr.alloc (.cells #[.bool h, .int .i64 n, .int .i64 d, .int .i64 c, .int .i64 s] 41)) := (Below.refl _ _).alloc (Nat.le_refl _) _
                  have A5 := hA.below hb5
                  have A5' := hA'.below hb5
                  have S5 := S4.below hb5 S4.lt
                  have E5 := E.below hb5 E.lt
                  have G5 := G4.trans (hb5.mono z4)
                  have HH := Lib.hid (And.intro R5 (And.intro A5 (And.intro A5' (And.intro S5 (And.intro E5 G5)))))
                  clear R5 hb5 A5 A5' S5 E5 G5 hA hA' S4 G4 E
                  go_upto_region 14 with (fail)
                  obtain ⟨R5, A5, A5', S5, E5, G5⟩ := HH.out
                  clear HH c0 c1 c2 c3 c4
                  generalize wr.alloc (.cells #[.bool h, .int .i64 n, .int .i64 d, .int .i64 c, .int .i64 s] 41) = w5 at *
                  generalize wr.heap.size = r at *
                  obtain ⟨r0, r1, r2, r3, r4⟩ := R5.five
                  cases h
                  · go_wp2_with fail
                    refine (now_P n _ A5).mono ?_
                    rintro e u6 ⟨rfl, A6, hS6⟩
                    have A6' := A5'.step hS6 (by simp)
                    have S6 := S5.step hS6 (by simp)
                    have E6 := E5.step hS6 (by simp)
                    have R6 := R5.step hS6 (by simp)
                    have G6 := G5.trans (hS6.below G5.size)
                    clear r0 r1 r2 r3 r4 A5 A5' S5 E5 R5 G5 hS6
                    have ba6 : Below u6.heap.size u6 (u6.alloc (.cells (st3 (nowR st n)) 39)) := (Below.refl _ _).alloc (Nat.le_refl _) _
                    have T6 : Blk (u6.alloc (.cells (st3 (nowR st n)) 39)) u6.heap.size 39 (st3 (nowR st n)) := Blk.new u6 39 (st3 (nowR st n))
                    have B6 := (A6.below ba6)
                    have B6' := (A6'.below ba6)
                    have S8 := S6.below ba6 S6.lt
                    have E8 := E6.below ba6 E6.lt
                    have R8 := R6.below ba6 R6.lt
                    have G8 := G6.trans (ba6.mono G6.size)
                    have HH := Lib.hid (And.intro T6 (And.intro B6 (And.intro B6' (And.intro S8 (And.intro E8 (And.intro R8 G8))))))
                    clear ba6 T6 B6 B6' S8 E8 R8 G8 A6 A6' S6 E6 G6
                    go_upto_region 18 with (fail)
                    obtain ⟨T6, B6, B6', S8, E8, R8, G8⟩ := HH.out
                    clear HH R6
                    generalize u6.alloc (.cells (st3 (nowR st n)) 39) = w8 at *
                    generalize u6.heap.size = p6 at *
                    obtain ⟨r0, r1, r2, r3, r4⟩ := R8.five
                    go_wp2_with fail
                    refine (rnow_P n _ B6').mono ?_
                    rintro e u9 ⟨rfl, A9', hS9⟩
                    have A9 := B6.step hS9 (by simp)
                    have T9 := T6.step hS9 (by simp)
                    have S9 := S8.step hS9 (by simp)
                    have E9 := E8.step hS9 (by simp)
                    have R9 := R8.step hS9 (by simp)
                    have G9 := G8.trans (hS9.below G8.size)
                    clear r0 r1 r2 r3 r4 T6 B6 B6' S8 E8 R8 G8 hS9
                    have ba9 : Below u9.heap.size u9 (u9.alloc (.cells (st3 (nowR st n)) 39)) := (Below.refl _ _).alloc (Nat.le_refl _) _
                    have U9 : Blk (u9.alloc (.cells (st3 (nowR st n)) 39)) u9.heap.size 39 (st3 (nowR st n)) := Blk.new u9 39 (st3 (nowR st n))
                    have HH := Lib.hid (And.intro U9 (And.intro (T9.below ba9 T9.lt) (And.intro (A9.below ba9) (And.intro (A9'.below ba9) (And.intro (S9.below ba9 S9.lt) (And.intro (E9.below ba9 E9.lt) (And.intro (R9.below ba9 R9.lt) (G9.trans (ba9.mono G9.size)))))))))
                    clear ba9 U9 T9 A9 A9' S9 E9 R9 G9
                    go_upto_region 19 with (fail)
                    obtain ⟨U9, T9, A9, A9', S9, E9, R9, G9⟩ := HH.out
                    clear HH
                    generalize u9.alloc (.cells (st3 (nowR st n)) 39) = w9 at *
                    generalize u9.heap.size = p9 at *
                    have z9 := G9.size
                    have l1 := R9.lt
                    have l2 := T9.lt
                    have l3 := U9.lt
                    obtain ⟨r0, r1, r2, r3, r4⟩ := R9.five
                    obtain ⟨x0, x1, x2⟩ := T9.three
                    obtain ⟨y0, y1, y2⟩ := U9.three
                    generalize nowR st n = nr at *
                    obtain ⟨n0, n1, n2, n3⟩ := nr
                    simp only at x0 x1 x2 y0 y1 y2
                    go_region_held3 (fun w' => w'.cell? ⟨p6, 0, none⟩ = some (.int .i64 n0) ∧ w'.cell? ⟨p6, 1, none⟩ = some (.int .i64 n1) ∧ w'.cell? ⟨p6, 2, none⟩ = some (.int .i64 n2) ∧ w'.cell? ⟨p9, 0, none⟩ = some (.int .i64 n0) ∧ w'.cell? ⟨p9, 1, none⟩ = some (.int .i64 n1) ∧ w'.cell? ⟨p9, 2, none⟩ = some (.int .i64 n2) ∧ w'.cell? ⟨r, 2, none⟩ = some (.int .i64 d) ∧ w'.cell? ⟨r, 3, none⟩ = some (.int .i64 c) ∧ w'.cell? ⟨r, 4, none⟩ = some (.int .i64 s))
                      (first | (simp [*, go_sem]; done) | exact rr)
                      (first
                        | (go_at_call 32; refine (less_any _ _ _ _ _ _ _).mono ?_; rintro e w' ⟨rfl, hb1⟩; have T1 := T9.drew.below hb1 l2; have U1 := U9.drew.below hb1 l3; have R1 := R9.drew.below hb1 l1; have rr := nine T1 U1 R1)
                        | (go_at_call 33; refine (less_ref _ _ _ _ _ _ _).mono ?_; rintro e w'' ⟨rfl, hb2⟩; have rr := nine (T1.below hb2 T1.lt) (U1.below hb2 U1.lt) (R1.below hb2 R1.lt)))
                    have A10 := (A9.drew.below hb1).below hb2
                    have A10' := (A9'.drew.below hb1).below hb2
                    have S10 := (S9.drew.below hb1 S9.lt).below hb2 (S9.drew.below hb1 S9.lt).lt
                    have E10 := (E9.drew.below hb1 E9.lt).below hb2 (E9.drew.below hb1 E9.lt).lt
                    have G10 := (G9.drew.trans (hb1.mono z9)).trans (hb2.mono (G9.drew.trans (hb1.mono z9)).size)
                    have HH := Lib.hid (And.intro A10 (And.intro A10' (And.intro S10 (And.intro E10 G10))))
                    clear rr T1 U1 R1 A10 A10' S10 E10 G10 hb1 hb2 A9 A9' S9 E9 R9 G9 T9 U9 x0 x1 x2 y0 y1 y2 r0 r1 r2 r3 r4
                    go_wp2_with fail
                    obtain ⟨A7, A7', S7, E7, G7⟩ := HH.out
                    go_roundw
                    case rel => exact ⟨j + 1, _, by omega, by go_num, A7, A7', S7, G7, E7⟩
                    case measure => simp [intOf]; omega
                  · have hr : _ := R5.lt
                    have hz := G5.size
                    go_upto_region 15 with (fail)
                    go_region_held3 (fun w' => w'.cell? ⟨r, 1, none⟩ = some (.int .i64 n) ∧ w'.cell? ⟨r, 2, none⟩ = some (.int .i64 d) ∧ w'.cell? ⟨r, 3, none⟩ = some (.int .i64 c) ∧ w'.cell? ⟨r, 4, none⟩ = some (.int .i64 s))
                      (first | (simp [*, go_sem]; done) | exact ⟨rr.2.1, rr.2.2.1, rr.2.2.2.1, rr.2.2.2.2⟩)
                      (first
                        | (go_at_call 28; refine (hear_P d c s n _ A5.drew).mono ?_; rintro e w' ⟨rfl, hA1, hS1⟩; have rr := (R5.drew.step hS1 (by simp)).five)
                        | (go_at_call 29; refine (rhear_P d c s n _ (A5'.drew.step hS1 (by simp))).mono ?_; rintro e w'' ⟨rfl, hA2, hS2⟩; have rr := ((R5.drew.step hS1 (by simp)).step hS2 (by simp)).five))
                    have A7 := hA1.step hS2 (by simp)
                    have S7 := (S5.drew.step hS1 (by simp)).step hS2 (by simp)
                    have E7 := (E5.drew.step hS1 (by simp)).step hS2 (by simp)
                    have G6 := G5.drew.trans (hS1.below hz)
                    have G7 := G6.trans (hS2.below G6.size)
                    have HH := Lib.hid (And.intro A7 (And.intro hA2 (And.intro S7 (And.intro E7 G7))))
                    clear rr A7 hA2 S7 E7 G7 G6 hS1 hS2 hA1 A5 A5' S5 E5 R5 G5 r0 r1 r2 r3 r4
                    go_wp2_with fail
                    obtain ⟨A7, A7', S7, E7, G7⟩ := HH.out
                    go_roundw
                    case rel => exact ⟨j + 1, _, by omega, by go_num, A7, A7', S7, G7, E7⟩
                    case measure => simp [intOf]; omega
                · obtain rfl : j = 2 := by omega
                  have HH := Lib.hid (And.intro hA (And.intro hA' (And.intro S4 G4)))
                  clear hA hA' S4 G4 E
                  go_wp2_with fail
                  obtain ⟨A7, A7', S7, G7⟩ := HH.out
                  go_roundw
                  case rel => exact ⟨k2 + 1, st, by omega, by omega, by go_num, A7, A7', S7, G7⟩
                  case measure => simp [intOf]; omega
          · have HH := Lib.hid (And.intro S2 G2)
            clear hA hA' S2 G2
            by_cases hl : k2 < len
            · obtain rfl : k2 = 30 := by omega
              clear hin
              go_wp2_with fail
              obtain ⟨S7, G7⟩ := HH.out
              go_roundw
              case rel => exact ⟨k + 1, by omega, by go_num, S7, G7⟩
              case measure => simp [intOf]; omega
            · have hl' : len ≤ k2 := by omega
              clear hin hl
              go_wp2_with fail
              obtain ⟨S7, G7⟩ := HH.out
              go_roundw
              case rel => exact ⟨k + 1, by omega, by go_num, S7, G7⟩
              case measure => simp [intOf]; omega
    · obtain rfl : k = 2 := by omega
      have GG := Lib.hid G
      clear S G
      go_wp2_with fail
      go_ret
      exact ⟨rfl, GG.out⟩
end Go.Proofs.Ytcpnlcgpgljlbaa
