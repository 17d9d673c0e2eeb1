/- The walk of the law DateRises: it returns true. -/
import Derived.Test.YtcpnlcgpgljlbaaK
namespace Go.Proofs.Ytcpnlcgpgljlbaa
open Go.RowKit
set_option linter.unusedVariables false

theorem below_op (w : World) (B : Nat) (cs : Array Value) (t : Nat) (h : B ≤ w.heap.size) : Below B w (w.alloc (.cells cs t)) := (Below.refl _ _).alloc h _

theorem st_set {w : World} {b : Nat} {d c s : Int} (h : Blk w b 39 #[.int .i64 d, .int .i64 c, .int .i64 s]) (d' c' s' : Int) :
    Blk (((w.setCell ⟨b, 0, none⟩ (.int .i64 d')).setCell ⟨b, 1, none⟩ (.int .i64 c')).setCell ⟨b, 2, none⟩ (.int .i64 s')) b 39 #[.int .i64 d', .int .i64 c', .int .i64 s'] := by
  have := ((h.set_ 0 (.int .i64 d')).set_ 1 (.int .i64 c')).set_ 2 (.int .i64 s')
  simpa using this
theorem st_below {B b : Nat} {W w : World} (h : Below B W w) (hb : B ≤ b) (x y z : Value) : Below B W (((w.setCell ⟨b, 0, none⟩ x).setCell ⟨b, 1, none⟩ y).setCell ⟨b, 2, none⟩ z) := by
  have e1 := h.setCell (p := ⟨b, 0, none⟩) hb x
  have e2 := e1.setCell (p := ⟨b, 1, none⟩) hb y
  exact e2.setCell (p := ⟨b, 2, none⟩) hb z
theorem now_step (b : Nat) (sv d c s n day : Int) (k : Nat) (w : World) (C : Blk w b 57 (ck sv d c s)) (hs : 1 ≤ sv) (hn : 0 ≤ n) (hn2 : n < 40) (d1 : 0 ≤ day) (d2 : day ≤ 40) (d3 : 0 ≤ d) (d4 : d ≤ day + 5) (d5 : -1 ≤ c) (d6 : c ≤ 8 + k) (k2 : k ≤ 30) :
    Calls Try.prog 30 #[.pointer (some ⟨b, 0, none⟩), .int .i64 n] w fun e w' => ∃ rd rc : Int, e = .returned (.tuple #[.agg #[.int .i64 rd, .int .i64 rc, .int .i64 sv], .int .i64 0]) ∧
      n ≤ rd ∧ rd ≤ max day n + 5 ∧ lessB d c s rd rc sv = true ∧ lessB rd rc sv d c s = false ∧ 0 ≤ rd ∧ -1 ≤ rc ∧ rc ≤ 9 + k ∧ Blk w' b 57 (ck sv rd rc sv) ∧ w.grownBy w' (some b) := by
  have hr : rightB n = true := by simp [rightB]; omega
  by_cases hl : n ≤ d
  · refine (now_late b sv d c s n w C hs hr hl d5 (by omega)).mono ?_
    rintro e w' ⟨rfl, h1, h2⟩
    exact ⟨d, c + 1, rfl, hl, by omega, by simp [lessB]; omega, by simp [lessB]; omega, d3, by omega, by omega, h1, h2⟩
  · refine (now_new b sv d c s n w C hs hr (by omega)).mono ?_
    rintro e w' ⟨rfl, h1, h2⟩
    exact ⟨n, 0, rfl, by omega, by omega, by simp [lessB]; omega, by simp [lessB]; omega, by omega, by omega, by omega, h1, h2⟩

theorem hear_step (B b : Nat) (sv d c s n d' c' s' : Int) (w : World) (C : Blk w b 57 (ck sv d c s)) (h1 : 1 ≤ sv) (h2 : sv ≤ 8) (h3 : 0 ≤ d) (h4 : d ≤ 100000) (h5 : -1 ≤ c) (h6 : c ≤ 1073741824) (hB : B ≤ b) :
    Calls Try.prog 28 #[.pointer (some ⟨b, 0, none⟩), .agg #[.int .i64 d', .int .i64 c', .int .i64 s'], .int .i64 n] w fun e w' => ∃ x d2 c2 s2 : Int, e = .returned (.int .i64 x) ∧ Blk w' b 57 (ck sv d2 c2 s2) ∧ Step (· = 57) B w w' ∧
      ((x ≠ 0 ∧ d = d2 ∧ c = c2 ∧ s = s2) ∨ (x = 0 ∧ 0 ≤ n ∧ 0 ≤ d' ∧ d' - n ≤ 5 ∧ 0 ≤ c' ∧ ((lessB d c s d' c' s' = true ∧ d' = d2 ∧ c' = c2 ∧ s' = s2) ∨ (lessB d c s d' c' s' = false ∧ d = d2 ∧ c = c2 ∧ s = s2)))) := by
  have hA : At w B 57 (.pointer (some ⟨b, 0, none⟩)) (some (sv, d, c, s)) := ⟨b, rfl, hB, C, h1, h2, h3, h4, h5, h6⟩
  refine (hear_P d' c' s' n w hA).mono ?_
  rintro e w' ⟨rfl, hA', hS⟩
  by_cases hR : hearR (some (sv, d, c, s)) d' c' s' n = 0
  · have hcond : ¬ (rightB n = false ∨ rightB d' = false ∨ 5 < d' - n) ∧ ¬ (c' < 0 ∨ 1073741824 < c' ∨ s' < 1 ∨ 8 < s') := by
      have hR' : (if rightB n = false ∨ rightB d' = false ∨ 5 < d' - n then (23 : Int) else if c' < 0 ∨ 1073741824 < c' ∨ s' < 1 ∨ 8 < s' then 3 else 0) = 0 := hR
      split at hR'
      · omega
      · split at hR'
        · omega
        · exact ⟨‹_›, ‹_›⟩
    obtain ⟨g1, g2⟩ := hcond
    have r1 := right_bd (n := n) (by cases hh : rightB n with | true => rfl | false => exact absurd (.inl hh) g1)
    have r2 := right_bd (n := d') (by cases hh : rightB d' with | true => rfl | false => exact absurd (.inr (.inl hh)) g1)
    by_cases hl : lessB d c s d' c' s' = true
    · have hs : hearS (some (sv, d, c, s)) d' c' s' n = some (sv, d', c', s') := by simp only [hearS, hR, hl, and_self, if_true]
      rw [hs] at hA'
      obtain ⟨b', hp, _, hk, _⟩ := hA'
      simp only [Value.pointer.injEq, Option.some.injEq, Addr.mk.injEq, and_true] at hp
      subst hp
      exact ⟨_, _, _, _, rfl, hk, hS, .inr ⟨hR, r1.1, r2.1, by omega, by omega, .inl ⟨hl, rfl, rfl, rfl⟩⟩⟩
    · have hs : hearS (some (sv, d, c, s)) d' c' s' n = some (sv, d, c, s) := by simp [hearS, hl]
      rw [hs] at hA'
      obtain ⟨b', hp, _, hk, _⟩ := hA'
      simp only [Value.pointer.injEq, Option.some.injEq, Addr.mk.injEq, and_true] at hp
      subst hp
      exact ⟨_, _, _, _, rfl, hk, hS, .inr ⟨hR, r1.1, r2.1, by omega, by omega, .inr ⟨by simpa using hl, rfl, rfl, rfl⟩⟩⟩
  · have hs : hearS (some (sv, d, c, s)) d' c' s' n = some (sv, d, c, s) := by simp [hearS, hR]
    rw [hs] at hA'
    obtain ⟨b', hp, _, hk, _⟩ := hA'
    simp only [Value.pointer.injEq, Option.some.injEq, Addr.mk.injEq, and_true] at hp
    subst hp
    exact ⟨_, _, _, _, rfl, hk, hS, .inl ⟨hR, rfl, rfl, rfl⟩⟩

set_option maxRecDepth 100000 in
set_option maxHeartbeats 4000000 in
theorem rises_walk (server : Int) (A : Option Addr) (len cap : Nat) (o : Nat → Bool × Int × Int × Int × Int) (w : World) (hs1 : 0 ≤ server) (hs2 : server ≤ 255) (hm : len ≤ 9223372036854775807) (ho : Ops w w.heap.size A len o) :
    Calls Try.prog 7 #[.int .u8 server, .slice A len cap] w fun e w' => e = .returned (.bool true) ∧ Below w.heap.size w w' := by
  have HO := Lib.hid ho
  clear ho
  go_enter Try.func7, Try.ntmps7
  go_wp2_with fail
  refine (sanity_any _).mono ?_
  rintro e w1 ⟨rfl, hb1⟩
  have z1 := hb1.size
  go_wp2_with fail
  refine (new_yes _ _ (by omega) (by omega)).mono ?_
  rintro e w2 ⟨rfl, rfl⟩
  go_wp2_with fail
  have C1 := (Blk.new w1 57 (ck (1 + server % 8) 0 (-1) 0)).alloc (.cells #[.int .i64 0, .int .i64 (-1), .int .i64 0] 39)
  have L1 : Blk _ (w1.heap.size + 1) 39 #[.int .i64 0, .int .i64 (-1), .int .i64 0] := Blk.new_at (w := w1.alloc (.cells (ck (1 + server % 8) 0 (-1) 0) 57)) (by simp)
  have G1 := (hb1.alloc z1 (.cells (ck (1 + server % 8) 0 (-1) 0) 57)).alloc (by simp; omega) (.cells #[.int .i64 0, .int .i64 (-1), .int .i64 0] 39)
  have hB : w.heap.size ≤ w1.heap.size := z1
  have hsv : 1 ≤ 1 + server % 8 ∧ 1 + server % 8 ≤ 8 := by omega
  generalize hq : 1 + server % 8 = sv at *
  have HQ := Lib.hid hq
  clear hb1 z1 hq
  generalize (w1.alloc (.cells (ck sv 0 (-1) 0) 57)).alloc (.cells #[.int .i64 0, .int .i64 (-1), .int .i64 0] 39) = w2 at *
  have hne : w1.heap.size ≠ w1.heap.size + 1 := by omega
  have hgB : w.heap.size ≤ w1.heap.size + 1 := by omega
  generalize hg : w1.heap.size + 1 = g at *
  clear hg
  generalize w1.heap.size = b at *
  go_loopw [7, 9] (fun x i wr => ∃ (k : Nat) (day d c s : Int), k ≤ len ∧ k ≤ 30 ∧ i = .int .i64 k ∧ x = .int .i64 day ∧ 0 ≤ day ∧ day ≤ 40 ∧ 0 ≤ d ∧ d ≤ day + 5 ∧ -1 ≤ c ∧ c ≤ 8 + k ∧ 
      Blk wr b 57 (ck sv d c s) ∧ Blk wr g 39 #[.int .i64 d, .int .i64 c, .int .i64 s] ∧ Below w.heap.size w wr) (fun _ i _ => 30 - (intOf i).toNat)
  case atStart => exact ⟨0, 0, 0, -1, 0, by omega, by omega, rfl, rfl, by omega, by omega, by omega, by omega, by omega, by omega, C1, L1, G1⟩
  case round =>
    clear C1 L1 G1
    obtain ⟨k, day, d, c, s, k1, k2, rfl, rfl, d1, d2, d3, d4, d5, d6, C, L, G⟩ := hrel
    by_cases hin : k < len ∧ k < 30
    · obtain ⟨hin1, hin2⟩ := hin
      obtain ⟨ba, off, rfl, hba, o0, o1, o2, o3, o4⟩ := (HO.out.below G) k hin1
      generalize o k = oo at *
      have z2 := G.size
      have HA := Lib.hid (And.intro C (And.intro L G))
      clear C L G
      go_wp2_with fail
      refine (small_any _ _ _ _ _ _).mono ?_
      rintro e u ⟨rfl, hbu⟩
      obtain ⟨C, L, G⟩ := HA.out
      have C1 := C.below hbu C.lt
      have L1 := L.below hbu L.lt
      have G1 := G.trans (hbu.mono z2)
      clear C L G hbu HA o0 o1 o2 o3 o4
      have bn := (tdm oo.2.1 40 (by omega)).2
      have bd := (tdm oo.2.2.1 40 (by omega)).2
      have bc := (tdm oo.2.2.2.1 9 (by omega)).2
      have bs := (tdm oo.2.2.2.2 9 (by omega)).2
      generalize oo.2.1.tmod 40 = n' at *
      generalize oo.2.2.1.tmod 40 = d' at *
      generalize oo.2.2.2.1.tmod 9 = c' at *
      generalize oo.2.2.2.2.tmod 9 = s' at *
      generalize oo.1 = h at *
      obtain ⟨bn1, bn2, bn⟩ := bn
      obtain ⟨bd1, bd2, bd⟩ := bd
      obtain ⟨bc1, bc2, bc⟩ := bc
      obtain ⟨bs1, bs2, bs⟩ := bs
      clear bn bd bc bs
      have bu := below_op u u.heap.size #[.bool h, .int .i64 n', .int .i64 d', .int .i64 c', .int .i64 s'] 41 (Nat.le_refl _)
      have R := Blk.new u 41 #[.bool h, .int .i64 n', .int .i64 d', .int .i64 c', .int .i64 s']
      have HA := Lib.hid (And.intro R (And.intro (C1.below bu C1.lt) (And.intro (L1.below bu L1.lt) (G1.trans (bu.mono G1.size)))))
      clear R bu C1 L1 G1
      go_upto_region 11 with (fail)
      obtain ⟨R, C, L, G⟩ := HA.out
      clear HA
      generalize u.alloc (.cells #[.bool h, .int .i64 n', .int .i64 d', .int .i64 c', .int .i64 s'] 41) = w3 at *
      generalize u.heap.size = r at *
      obtain ⟨r0, r1, r2, r3, r4⟩ := R.five
      have z3 := G.size
      cases h
      · by_cases hn : n' < 0
        · have hnd : rightB n' = false := by simp [rightB]; omega
          go_wp2_with fail
          refine (now_bad b sv d c s n' _ C hsv.1 hnd).mono ?_
          rintro e w4 ⟨rfl, hb4⟩
          have R' := R.below hb4 R.lt
          have HA := Lib.hid (And.intro (C.below hb4 C.lt) (And.intro (L.below hb4 L.lt) (G.trans (hb4.mono z3))))
          have hr4 := R'.lt
          obtain ⟨r0, r1, r2, r3, r4⟩ := R'.five
          clear hb4 R R' C L G
          go_wp2_with fail
          obtain ⟨C, L, G⟩ := HA.out
          go_roundw
          case rel => exact ⟨k + 1, day, d, c, s, by omega, by omega, by go_num, rfl, d1, d2, d3, d4, d5, by omega, C.alloc _, L.alloc _, G.alloc G.size _⟩
          case measure => simp [intOf]; omega
        · have hn0 : 0 ≤ n' := by omega
          have hnd : rightB n' = true := by simp [rightB]; omega
          clear hn
          go_wp2_with fail
          refine (now_step b sv d c s n' day k w3 C hsv.1 hn0 (by omega) d1 d2 d3 d4 d5 d6 k2).mono ?_
          rintro e w4 ⟨rd, rc, rfl, q1, q2, q3, q4, q5, q6, q7, C4, g4⟩
          have R4 := R.grown g4 (by have := Blk.ne_ R C (by decide); simpa using this)
          have L4 := L.grown g4 (by have := Blk.ne_ L C (by decide); simpa using this)
          have hwb : w.heap.size ≤ b := hB
          have G4 : Below w.heap.size w w4 := G.grown g4 z3 (fun kk hkk => by injection hkk with hkk; omega)
          have bu := below_op w4 w4.heap.size #[.int .i64 rd, .int .i64 rc, .int .i64 sv] 39 (Nat.le_refl _)
          have S4 := Blk.new w4 39 #[.int .i64 rd, .int .i64 rc, .int .i64 sv]
          have HA := Lib.hid (And.intro S4 (And.intro (R4.below bu R4.lt) (And.intro (C4.below bu C4.lt) (And.intro (L4.below bu L4.lt) (G4.trans (bu.mono G4.size))))))
          clear g4 R C L G R4 L4 G4 bu S4 C4 r0 r1 r2 r3 r4
          go_upto_region 17 with (fail)
          obtain ⟨S, R, C, L, G⟩ := HA.out
          clear HA
          generalize w4.alloc (.cells #[.int .i64 rd, .int .i64 rc, .int .i64 sv] 39) = w5 at *
          generalize w4.heap.size = p at *
          have rr := R.five
          have ss := S.three
          have ll := L.three
          have hq := HQ.out
          have hmax : (day < n' ∧ rd ≤ n' + 5) ∨ (n' ≤ day ∧ rd ≤ day + 5) := by omega
          clear q2
          rcases hmax with ⟨hmx, q2⟩ | ⟨hmx, q2⟩
          all_goals
            go_wp2_with fail
            refine (less_any _ _ _ _ _ _ _).mono ?_
            rintro e w6 ⟨rfl, hb6⟩
            have S1 := S.below hb6 S.lt
            have R1 := R.below hb6 R.lt
            have C1 := C.below hb6 C.lt
            have L1 := L.below hb6 L.lt
            have G1 := G.trans (hb6.mono G.size)
            have rr := R1.five
            have ss := S1.three
            have ll := L1.three
            go_wp2_with fail
            refine (less_any _ _ _ _ _ _ _).mono ?_
            rintro e w7 ⟨rfl, hb7⟩
            have S2 := S1.below hb7 S1.lt
            have R2 := R1.below hb7 R1.lt
            have C2 := C1.below hb7 C1.lt
            have L2 := L1.below hb7 L1.lt
            have G2 := G1.trans (hb7.mono G1.size)
            clear rr ss ll
            have rr := R2.five
            have ss := S2.three
            have ll := L2.three
            have lf := L2.frozen
            have HA := Lib.hid (And.intro C2 (And.intro L2 G2))
            clear hb6 hb7 S R C L G S1 R1 C1 L1 G1 S2 R2 C2 L2 G2
            go_wp2_with fail
            obtain ⟨C, L, G⟩ := HA.out
            go_roundw
            case rel => exact ⟨k + 1, _, rd, rc, sv, by omega, by omega, by go_num, rfl, by omega, by omega, q5, by omega, q6, by omega, (((C.far (p := ⟨g, 0, none⟩) hne _).far (p := ⟨g, 1, none⟩) hne _).far (p := ⟨g, 2, none⟩) hne _), st_set L rd rc sv, st_below G hgB _ _ _⟩
            case measure => simp [intOf]; omega
      · go_wp2_with fail
        refine (hear_step w.heap.size b sv d c s n' d' c' s' w3 C hsv.1 hsv.2 (by omega) (by omega) (by omega) (by omega) hB).mono ?_
        rintro e w4 ⟨x, d2', c2', s2', rfl, C4, hS, hx⟩
        have R4 := R.step hS (by simp)
        have L4 := L.step hS (by simp)
        have G4 := G.trans (hS.below z3)
        clear R C L G hS r0 r1 r2 r3 r4
        rcases hx with ⟨hx, rfl, rfl, rfl⟩ | ⟨rfl, hn0, hd0, hdn, hc0, hx⟩
        · have hxx : (x != 0) = true := by simp [hx]
          clear hx
          have HA := Lib.hid (And.intro C4 (And.intro L4 G4))
          clear R4 C4 L4 G4
          go_wp2_with fail
          obtain ⟨C, L, G⟩ := HA.out
          go_roundw
          case rel => exact ⟨k + 1, day, _, _, _, by omega, by omega, by go_num, rfl, d1, d2, d3, d4, d5, by omega, C, L, G⟩
          case measure => simp [intOf]; omega
        · have hmax : day < n' ∨ n' ≤ day := by omega
          obtain ⟨r0, r1, r2, r3, r4⟩ := R4.five
          have ll := L4.three
          have HX := Lib.hid hx
          clear hx
          rcases hmax with hmx | hmx
          all_goals
            go_wp2_with fail
            refine (less_any _ _ _ _ _ _ _).mono ?_
            rintro e w5 ⟨rfl, hb5⟩
            have C5 := C4.below hb5 C4.lt
            have L5 := L4.below hb5 L4.lt
            have R5 := R4.below hb5 R4.lt
            have G5 := G4.trans (hb5.mono G4.size)
            clear hb5 R4 C4 L4 G4 r0 r1 r2 r3 r4 ll
            have rr := R5.five
            have ll := L5.three
            have lf := L5.frozen
            have HA := Lib.hid (And.intro C5 (And.intro L5 G5))
            clear R5 C5 L5 G5
            have hx := HX.out
            rcases hx with ⟨hl, rfl, rfl, rfl⟩ | ⟨hl, rfl, rfl, rfl⟩
            · go_wp2_with fail
              obtain ⟨C, L, G⟩ := HA.out
              go_roundw
              case rel => exact ⟨k + 1, _, _, _, _, by omega, by omega, by go_num, rfl, by omega, by omega, hd0, by omega, by omega, by omega, (((C.far (p := ⟨g, 0, none⟩) hne _).far (p := ⟨g, 1, none⟩) hne _).far (p := ⟨g, 2, none⟩) hne _), st_set L _ _ _, st_below G hgB _ _ _⟩
              case measure => simp [intOf]; omega
            · go_wp2_with fail
              obtain ⟨C, L, G⟩ := HA.out
              go_roundw
              case rel => exact ⟨k + 1, _, _, _, _, by omega, by omega, by go_num, rfl, by omega, by omega, d3, by omega, d5, by omega, C, L, G⟩
              case measure => simp [intOf]; omega
    · have GG := Lib.hid G
      clear C L G
      by_cases hl : k < len
      · obtain rfl : k = 30 := by omega
        clear hin
        go_wp2_with fail
        go_ret
        exact ⟨rfl, GG.out⟩
      · have hl' : len ≤ k := by omega
        clear hin hl
        go_wp2_with fail
        go_ret
        exact ⟨rfl, GG.out⟩
end Go.Proofs.Ytcpnlcgpgljlbaa
