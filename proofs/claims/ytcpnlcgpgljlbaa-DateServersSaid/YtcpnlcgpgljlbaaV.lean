/- The walk of the law DateServers: it returns true. -/
import Derived.Test.YtcpnlcgpgljlbaaU
import Derived.Deep.DeepCutAuto
namespace Go.Proofs.Ytcpnlcgpgljlbaa
open Go.RowKit
set_option linter.unusedVariables false

/-- The slice with address A and length len holds these steps, below block B. -/
def Stps (w : World) (B : Nat) (A : Option Addr) (len : Nat) (o : Nat → Bool × Int × Bool) : Prop :=
  ∀ i, i < len → ∃ b off, A = some ⟨b, off, none⟩ ∧ b < B ∧ w.cell? ⟨b, off + i * 3, none⟩ = some (.bool (o i).1) ∧ w.cell? ⟨b, off + i * 3 + 1, none⟩ = some (.int .u8 (o i).2.1) ∧
    w.cell? ⟨b, off + i * 3 + 2, none⟩ = some (.bool (o i).2.2) ∧ 0 ≤ (o i).2.1 ∧ (o i).2.1 ≤ 255
theorem Stps.below {w w' : World} {B : Nat} {A : Option Addr} {len : Nat} {o} (h : Stps w B A len o) (hb : Below B w w') : Stps w' B A len o := by
  intro i hi
  obtain ⟨b, off, h1, h2, h3, h4, h5, h6⟩ := h i hi
  exact ⟨b, off, h1, h2, (hb.cell h2).trans h3, (hb.cell h2).trans h4, (hb.cell h2).trans h5, h6⟩

/-- No stamp of the server sv in l is later than (d, c). -/
def Upto (l : List (Int × Int × Int)) (sv d c : Int) : Prop := ∀ r ∈ l, r.2.2 = sv → r.1 < d ∨ (r.1 = d ∧ r.2.1 ≤ c)
theorem MapAt.grown {w w' : World} {m : Nat} {l} {row : Option Nat} (h : MapAt w m l) (hg : w.grownBy w' row) (hne : some m ≠ row) : MapAt w' m l := by
  obtain ⟨es, clock, hb, he⟩ := h
  have hlt : m < w.heap.size := (Array.getElem?_eq_some_iff.1 hb).1
  exact ⟨es, clock, (hg.block m hlt hne).trans hb, he⟩
theorem MapAt.lt {w : World} {m : Nat} {l} (h : MapAt w m l) : m < w.heap.size := by
  obtain ⟨es, clock, hb, he⟩ := h
  exact (Array.getElem?_eq_some_iff.1 hb).1
theorem MapAt.ne_blk {w : World} {m g t : Nat} {l} {cs : Array Value} (h : MapAt w m l) (hk : Blk w g t cs) : m ≠ g := by
  rintro rfl
  obtain ⟨es, clock, hb, he⟩ := h
  unfold Blk at hk
  rw [hk] at hb
  cases hb

/-- The law's own memory at the head of a round: two clocks, the array that points to them, the map of what was seen. -/
structure Mem (w0 w : World) (b1 b2 a m : Nat) (d1 c1 s1 d2 c2 s2 : Int) (l : List (Int × Int × Int)) : Prop where
  one : Blk w b1 57 (ck 1 d1 c1 s1)
  two : Blk w b2 57 (ck 2 d2 c2 s2)
  arr : Blk w a 51 #[.pointer (some ⟨b1, 0, none⟩), .pointer (some ⟨b2, 0, none⟩)]
  map : MapAt w m l
  low : Below w0.heap.size w0 w
/-- The same, the clock that is read first in this round, and the other one. -/
structure Mem2 (w0 w : World) (bo bt a m : Nat) (p1 p2 : Value) (vo vt d1 c1 s1 d2 c2 s2 : Int) (l : List (Int × Int × Int)) : Prop where
  own : Blk w bo 57 (ck vo d1 c1 s1)
  oth : Blk w bt 57 (ck vt d2 c2 s2)
  arr : Blk w a 51 #[p1, p2]
  map : MapAt w m l
  low : Below w0.heap.size w0 w
theorem Mem2.below {w0 w w' : World} {bo bt a m : Nat} {p1 p2 : Value} {vo vt d1 c1 s1 d2 c2 s2 : Int} {l} (h : Mem2 w0 w bo bt a m p1 p2 vo vt d1 c1 s1 d2 c2 s2 l) (hb : Below w.heap.size w w') : Mem2 w0 w' bo bt a m p1 p2 vo vt d1 c1 s1 d2 c2 s2 l :=
  ⟨h.own.below hb h.own.lt, h.oth.below hb h.oth.lt, h.arr.below hb h.arr.lt, h.map.grown (row := none) ⟨hb.os, hb.tape, hb.output, hb.size, fun k hk _ => hb.block k hk⟩ (by simp), h.low.trans (hb.mono h.low.size)⟩

theorem now_next (b : Nat) (sv d c s n : Int) (N : Int) (w : World) (C : Blk w b 57 (ck sv d c s)) (hs : 1 ≤ sv) (hn : 0 ≤ n) (hn2 : n < 20) (d3 : 0 ≤ d) (d4 : d < 20) (d5 : -1 ≤ c) (d6 : c ≤ N) (hN : N ≤ 1000) (hN0 : 0 ≤ N) :
    Calls Try.prog 30 #[.pointer (some ⟨b, 0, none⟩), .int .i64 n] w fun e w' => ∃ rd rc : Int, e = .returned (.tuple #[.agg #[.int .i64 rd, .int .i64 rc, .int .i64 sv], .int .i64 0]) ∧
      n ≤ rd ∧ 0 ≤ rd ∧ rd < 20 ∧ 0 ≤ rc ∧ rc ≤ N + 1 ∧ (d < rd ∨ (d = rd ∧ c < rc)) ∧ Blk w' b 57 (ck sv rd rc sv) ∧ w.grownBy w' (some b) := by
  have hr : rightB n = true := by simp [rightB]; omega
  by_cases hl : n ≤ d
  · refine (now_late b sv d c s n w C hs hr hl d5 (by omega)).mono ?_
    rintro e w' ⟨rfl, h1, h2⟩
    exact ⟨d, c + 1, rfl, hl, d3, d4, by omega, by omega, by omega, h1, h2⟩
  · refine (now_new b sv d c s n w C hs hr (by omega)).mono ?_
    rintro e w' ⟨rfl, h1, h2⟩
    exact ⟨n, 0, rfl, by omega, hn, hn2, by omega, by omega, by omega, h1, h2⟩
theorem hear_ok (b : Nat) (sv d c s rd rc vo x : Int) (N : Int) (w : World) (C : Blk w b 57 (ck sv d c s)) (hs : 1 ≤ sv) (hx : 0 ≤ x) (hx2 : x < 20) (h1 : 0 ≤ rd) (h2 : rd < 20) (h3 : rd - x ≤ 5) (h4 : 0 ≤ rc) (h5 : rc ≤ N) (hN : N ≤ 1000) (h6 : 1 ≤ vo) (h7 : vo ≤ 8) (d3 : 0 ≤ d) (d4 : d < 20) (d5 : -1 ≤ c) (d6 : c ≤ N) :
    Calls Try.prog 28 #[.pointer (some ⟨b, 0, none⟩), .agg #[.int .i64 rd, .int .i64 rc, .int .i64 vo], .int .i64 x] w fun e w' => ∃ d2 c2 s2 : Int, e = .returned (.int .i64 0) ∧
      0 ≤ d2 ∧ d2 < 20 ∧ -1 ≤ c2 ∧ c2 ≤ N ∧ (rd < d2 ∨ (rd = d2 ∧ rc ≤ c2)) ∧ (d < d2 ∨ (d = d2 ∧ c ≤ c2)) ∧ Blk w' b 57 (ck sv d2 c2 s2) ∧ w.grownBy w' (some b) := by
  have hr : rightB x = true := by simp [rightB]; omega
  have hr2 : rightB rd = true := by simp [rightB]; omega
  by_cases hl : lessB d c s rd rc vo = true
  · refine (hear_take b sv d c s rd rc vo x w C hs hr hr2 h3 h4 (by omega) h6 h7 hl).mono ?_
    rintro e w' ⟨rfl, k1, k2⟩
    simp only [lessB, decide_eq_true_eq] at hl
    exact ⟨rd, rc, vo, rfl, h1, h2, by omega, h5, by omega, by omega, k1, k2⟩
  · have hl' : lessB d c s rd rc vo = false := by simpa using hl
    refine (hear_keep b sv d c s rd rc vo x w C hs hr hr2 h3 h4 (by omega) h6 h7 hl').mono ?_
    rintro e w' ⟨rfl, k1⟩
    simp only [lessB, decide_eq_true_eq] at hl
    exact ⟨d, c, s, rfl, d3, d4, d5, d6, by omega, by omega, C.below k1 C.lt, only_of_below k1 _⟩
theorem not_seen {l : List (Int × Int × Int)} {sv d c rd rc : Int} (h : Upto l sv d c) (hlt : d < rd ∨ (d = rd ∧ c < rc)) : (rd, rc, sv) ∉ l := fun hm => by
  have := h _ hm rfl
  simp only at this
  omega
theorem upto_more {l : List (Int × Int × Int)} {sv d c d2 c2 : Int} (h : Upto l sv d c) (hle : d < d2 ∨ (d = d2 ∧ c ≤ c2)) : Upto l sv d2 c2 := fun r hr hs => by
  have := h r hr hs
  omega
theorem upto_snoc {l : List (Int × Int × Int)} {sv d c : Int} {r : Int × Int × Int} (h : Upto l sv d c) (hr : r.2.2 = sv → r.1 < d ∨ (r.1 = d ∧ r.2.1 ≤ c)) : Upto (l ++ [r]) sv d c := fun q hq hs => by
  rcases List.mem_append.1 hq with hq | hq
  · exact h q hq hs
  · simp only [List.mem_singleton] at hq
    subst hq
    exact hr hs

set_option maxRecDepth 100000 in
set_option maxHeartbeats 4000000 in
theorem servers_walk (A : Option Addr) (len cap : Nat) (o : Nat → Bool × Int × Bool) (w : World) (hm : len ≤ 9223372036854775807) (ho : Stps w w.heap.size A len o) :
    Calls Try.prog 8 #[.slice A len cap] w fun e w' => e = .returned (.bool true) ∧ Below w.heap.size w w' := by
  have HO := Lib.hid ho
  clear ho
  have hmm := @run_makeMap Try.prog
  go_enter Try.func8, Try.ntmps8
  go_wp2_with fail
  refine (sanity_any _).mono ?_
  rintro e w1 ⟨rfl, hb1⟩
  have z1 := hb1.size
  go_wp2_with fail
  refine (new_yes _ _ (by omega) (by omega)).mono ?_
  rintro e w2 ⟨rfl, rfl⟩
  go_wp2_with fail
  refine (new_yes _ _ (by omega) (by omega)).mono ?_
  rintro e w3 ⟨rfl, rfl⟩
  go_wp2_with fail
  have hpa := (((hb1.alloc z1 (.cells (ck 1 0 (-1) 0) 57)).alloc (by simp; omega) (.cells (ck 2 0 (-1) 0) 57)).alloc (by simp; omega) (.cells #[.pointer (some ⟨w1.heap.size, 0, none⟩), .pointer (some ⟨w1.heap.size + 1, 0, none⟩)] 51)).alloc (by simp; omega) (.map #[] 0)
  have C1 := ((((Blk.new w1 57 (ck 1 0 (-1) 0)).alloc (.cells (ck 2 0 (-1) 0) 57)).alloc (.cells #[.pointer (some ⟨w1.heap.size, 0, none⟩), .pointer (some ⟨w1.heap.size + 1, 0, none⟩)] 51)).alloc (.map #[] 0))
  have C2 : Blk _ (w1.heap.size + 1) 57 (ck 2 0 (-1) 0) := ((Blk.new_at (w := w1.alloc (.cells (ck 1 0 (-1) 0) 57)) (t := 57) (cs := ck 2 0 (-1) 0) (g := w1.heap.size + 1) (by simp)).alloc (.cells #[.pointer (some ⟨w1.heap.size, 0, none⟩), .pointer (some ⟨w1.heap.size + 1, 0, none⟩)] 51)).alloc (.map #[] 0)
  have P1 : Blk _ (w1.heap.size + 1 + 1) 51 #[.pointer (some ⟨w1.heap.size, 0, none⟩), .pointer (some ⟨w1.heap.size + 1, 0, none⟩)] :=
    (Blk.new_at (w := (w1.alloc (.cells (ck 1 0 (-1) 0) 57)).alloc (.cells (ck 2 0 (-1) 0) 57)) (t := 51) (cs := #[.pointer (some ⟨w1.heap.size, 0, none⟩), .pointer (some ⟨w1.heap.size + 1, 0, none⟩)]) (g := w1.heap.size + 1 + 1) (by simp)).alloc (.map #[] 0)
  have M1 : MapAt (((((w1.alloc (.cells (ck 1 0 (-1) 0) 57)).alloc (.cells (ck 2 0 (-1) 0) 57)).alloc (.cells #[.pointer (some ⟨w1.heap.size, 0, none⟩), .pointer (some ⟨w1.heap.size + 1, 0, none⟩)] 51)).alloc (.map #[] 0))) (w1.heap.size + 1 + 1 + 1) [] := by
    refine ⟨#[], 0, ?_, rfl⟩
    have := heap_alloc_new ((((w1.alloc (.cells (ck 1 0 (-1) 0) 57)).alloc (.cells (ck 2 0 (-1) 0) 57)).alloc (.cells #[.pointer (some ⟨w1.heap.size, 0, none⟩), .pointer (some ⟨w1.heap.size + 1, 0, none⟩)] 51))) (.map #[] 0)
    rwa [show ((((w1.alloc (.cells (ck 1 0 (-1) 0) 57)).alloc (.cells (ck 2 0 (-1) 0) 57)).alloc (.cells #[.pointer (some ⟨w1.heap.size, 0, none⟩), .pointer (some ⟨w1.heap.size + 1, 0, none⟩)] 51))).heap.size = w1.heap.size + 1 + 1 + 1 from by simp] at this
  generalize ((((w1.alloc (.cells (ck 1 0 (-1) 0) 57)).alloc (.cells (ck 2 0 (-1) 0) 57)).alloc (.cells #[.pointer (some ⟨w1.heap.size, 0, none⟩), .pointer (some ⟨w1.heap.size + 1, 0, none⟩)] 51)).alloc (.map #[] 0)) = w4 at *
  have hB1 : w.heap.size ≤ w1.heap.size := z1
  have hB2 : w.heap.size ≤ w1.heap.size + 1 := by omega
  have hBm : w.heap.size ≤ w1.heap.size + 1 + 1 + 1 := by omega
  have hne : w1.heap.size ≠ w1.heap.size + 1 := by omega
  clear hb1 z1
  generalize w1.heap.size + 1 + 1 + 1 = m at *
  generalize w1.heap.size + 1 + 1 = a at *
  generalize hbb : w1.heap.size + 1 = b2 at *
  clear hbb
  generalize w1.heap.size = b1 at *
  go_loopw [6] (fun i wr => ∃ (k : Nat) (d1 c1 s1 d2 c2 s2 : Int) (l : List (Int × Int × Int)), k ≤ len ∧ k ≤ 30 ∧ i = .int .i64 k ∧ 0 ≤ d1 ∧ d1 < 20 ∧ -1 ≤ c1 ∧ c1 ≤ 2 * k ∧ 0 ≤ d2 ∧ d2 < 20 ∧ -1 ≤ c2 ∧ c2 ≤ 2 * k ∧
      Upto l 1 d1 c1 ∧ Upto l 2 d2 c2 ∧ Mem w wr b1 b2 a m d1 c1 s1 d2 c2 s2 l) (fun i _ => 30 - (intOf i).toNat)
  case atStart => exact ⟨0, 0, -1, 0, 0, -1, 0, [], by omega, by omega, rfl, by omega, by omega, by omega, by omega, by omega, by omega, by omega, by omega, (fun r hr => by simp at hr), (fun r hr => by simp at hr), ⟨C1, C2, P1, M1, hpa⟩⟩
  case round =>
    clear C1 C2 P1 M1 hpa
    obtain ⟨k, d1, c1, s1, d2, c2, s2, l, k1, k2, rfl, e1, e2, e3, e4, e5, e6, e7, e8, u1, u2, hM⟩ := hrel
    by_cases hin : k < len ∧ k < 30
    · obtain ⟨hin1, hin2⟩ := hin
      obtain ⟨ba, off, rfl, hba, o0, o1, o2, ob1, ob2⟩ := (HO.out.below hM.low) k hin1
      generalize o k = oo at *
      obtain ⟨sec, dy, told⟩ := oo
      simp only at o0 o1 o2 ob1 ob2
      have p0 := hM.arr.cell 0
      have p1 := hM.arr.cell 1
      simp only [List.getElem?_toArray, List.getElem?_cons_zero, List.getElem?_cons_succ] at p0 p1
      have z2 := hM.low.size
      have HM := Lib.hid (And.intro u1 (And.intro u2 hM))
      clear u1 u2 hM
      go_upto_region 9 with (fail)
      go_quiet (fail)
      go_upto_if 45 with (fail)
      go_cut [7, 8] (fun p q wc => ∃ (bo bt : Nat) (vo vt do_ co so dt ct st : Int), p = .pointer (some ⟨bo, 0, none⟩) ∧ q = .pointer (some ⟨bt, 0, none⟩) ∧ (∃ n, wc = wr.drewN n) ∧
        ((bo = b1 ∧ bt = b2 ∧ vo = 1 ∧ vt = 2 ∧ do_ = d1 ∧ co = c1 ∧ so = s1 ∧ dt = d2 ∧ ct = c2 ∧ st = s2) ∨ (bo = b2 ∧ bt = b1 ∧ vo = 2 ∧ vt = 1 ∧ do_ = d2 ∧ co = c2 ∧ so = s2 ∧ dt = d1 ∧ ct = c1 ∧ st = s1)))
      case first =>
        cases sec
        · go_wp2_with fail
          go_meet
          exact ⟨b1, b2, 1, 2, d1, c1, s1, d2, c2, s2, rfl, rfl, ⟨_, rfl⟩, .inl ⟨rfl, rfl, rfl, rfl, rfl, rfl, rfl, rfl, rfl, rfl⟩⟩
        · go_wp2_with fail
          go_quiet (fail)
          go_wp2_with fail
          go_meet
          exact ⟨b2, b1, 2, 1, d2, c2, s2, d1, c1, s1, rfl, rfl, ⟨_, by simp; rfl⟩, .inr ⟨rfl, rfl, rfl, rfl, rfl, rfl, rfl, rfl, rfl, rfl⟩⟩
      case rest =>
        obtain ⟨bo, bt, vo, vt, do_, co, so, dt, ct, st, rfl, rfl, ⟨nd, rfl⟩, hor⟩ := hcut
        have hs : 1 ≤ vo ∧ vo ≤ 8 ∧ 1 ≤ vt ∧ vt ≤ 8 ∧ vo ≠ vt ∧ bo ≠ bt ∧ w.heap.size ≤ bo ∧ w.heap.size ≤ bt ∧ 0 ≤ do_ ∧ do_ < 20 ∧ -1 ≤ co ∧ co ≤ 2 * k ∧ 0 ≤ dt ∧ dt < 20 ∧ -1 ≤ ct ∧ ct ≤ 2 * k := by
          rcases hor with ⟨rfl, rfl, rfl, rfl, rfl, rfl, rfl, rfl, rfl, rfl⟩ | ⟨rfl, rfl, rfl, rfl, rfl, rfl, rfl, rfl, rfl, rfl⟩ <;> omega
        obtain ⟨v1, v2, v3, v4, v5, v6, v7, v8, f1, f2, f3, f4, f5, f6, f7, f8⟩ := hs
        have hU : Upto l vo do_ co ∧ Upto l vt dt ct ∧ Mem2 w (wr.drewN nd) bo bt a m (.pointer (some ⟨b1, 0, none⟩)) (.pointer (some ⟨b2, 0, none⟩)) vo vt do_ co so dt ct st l := by
          obtain ⟨u1, u2, hM⟩ := HM.out
          rcases hor with ⟨rfl, rfl, rfl, rfl, rfl, rfl, rfl, rfl, rfl, rfl⟩ | ⟨rfl, rfl, rfl, rfl, rfl, rfl, rfl, rfl, rfl, rfl⟩
          · exact ⟨u1, u2, ⟨hM.one, hM.two, hM.arr, hM.map, below_drewN hM.low _⟩⟩
          · exact ⟨u2, u1, ⟨hM.two, hM.one, hM.arr, hM.map, below_drewN hM.low _⟩⟩
        obtain ⟨u1, u2, hM⟩ := hU
        have q0 : (wr.drewN nd).cell? ⟨ba, off + k * 3, none⟩ = some (.bool sec) := o0
        have q1 : (wr.drewN nd).cell? ⟨ba, off + k * 3 + 1, none⟩ = some (.int .u8 dy) := o1
        have q2 : (wr.drewN nd).cell? ⟨ba, off + k * 3 + 2, none⟩ = some (.bool told) := o2
        clear o0 o1 o2 p0 p1 HM
        have HOR := Lib.hid (And.intro hor (And.intro u1 (And.intro u2 hM)))
        clear hor u1 u2 hM
        have hday : ∃ day : Int, dy % 20 = day ∧ 0 ≤ day ∧ day < 20 := ⟨_, rfl, by omega, by omega⟩
        obtain ⟨day, hdy, dy1, dy2⟩ := hday
        generalize wr.drewN nd = w5 at *
        go_wp2_with fail
        obtain ⟨hor, u1, u2, hM⟩ := HOR.out
        clear HOR
        refine (now_next bo vo do_ co so day (2 * k) w5 hM.own v1 dy1 dy2 f1 f2 f3 f4 (by omega) (by omega)).mono ?_
        rintro e w6 ⟨rd, rc, rfl, g1, g2, g3, g4, g5, g6, C6, hg6⟩
        have T6 := hM.oth.grown hg6 (by simpa using v6.symm)
        have A6 := hM.arr.grown hg6 (by have := Blk.ne_ hM.arr hM.own (by decide); simpa using this)
        have M6 := hM.map.grown hg6 (by have := hM.map.ne_blk hM.own; simpa using this)
        have L6 := hM.low.grown hg6 hM.low.size (fun kk hkk => by injection hkk with hkk; omega)
        have hS : Mem2 w w6 bo bt a m (.pointer (some ⟨b1, 0, none⟩)) (.pointer (some ⟨b2, 0, none⟩)) vo vt rd rc vo dt ct st l := ⟨C6, T6, A6, M6, L6⟩
        have hn := not_seen u1 g6
        have u1' : Upto l vo rd rc := upto_more u1 (by omega)
        have r2 : w6.cell? ⟨ba, off + k * 3 + 2, none⟩ = some (.bool told) := by
          have h5 := hM.low.size
          have := hg6.block ba (by omega) (by simp; omega)
          rw [← q2]
          exact World.cell?_of_block (w := w5) this
        clear C6 T6 A6 M6 L6 hg6 hM q0 q1 q2 u1 g6
        have hba6 : ba < w6.heap.size := by have := hS.low.size; omega
        have bu := below_op w6 w6.heap.size #[.int .i64 rd, .int .i64 rc, .int .i64 vo] 39 (Nat.le_refl _)
        have S7 := Blk.new w6 39 #[.int .i64 rd, .int .i64 rc, .int .i64 vo]
        have hS7 := hS.below bu
        have r7 : (w6.alloc (.cells #[.int .i64 rd, .int .i64 rc, .int .i64 vo] 39)).cell? ⟨ba, off + k * 3 + 2, none⟩ = some (.bool told) := (bu.cell hba6).trans r2
        have HH := Lib.hid (And.intro S7 (And.intro hS7 (And.intro r7 (And.intro hor (And.intro u1' u2)))))
        clear S7 hS7 r7 r2 bu hS hor u1' u2
        go_upto_region 14 with (fail)
        obtain ⟨S7, hS7, r7, hor, u1, u2⟩ := HH.out
        clear HH
        generalize w6.alloc (.cells #[.int .i64 rd, .int .i64 rc, .int .i64 vo] 39) = w7 at *
        generalize w6.heap.size = p at *
        have ss := S7.three
        have hlk := run_lookup52 m (rd, rc, vo) l w7 hS7.map
        rw [show decide ((rd, rc, vo) ∈ l) = false from by simp [hn]] at hlk
        have hlk1 : (Instr.lookup 52 (.map (some m)) (.agg #[.int .i64 rd, .int .i64 rc, .int .i64 vo]) false).run Try.prog w7 = .ok (.bool false) w7 := hlk
        obtain ⟨w8, hup, M8, g8⟩ := run_update52 m (rd, rc, vo) l w7 hS7.map hn
        have hup1 : (Instr.mapUpdate 52 (.map (some m)) (.agg #[.int .i64 rd, .int .i64 rc, .int .i64 vo]) (.bool true)).run Try.prog w7 = .ok () w8 := hup
        have hS8 : Mem2 w w8 bo bt a m (.pointer (some ⟨b1, 0, none⟩)) (.pointer (some ⟨b2, 0, none⟩)) vo vt rd rc vo dt ct st (l ++ [(rd, rc, vo)]) :=
          ⟨hS7.own.grown g8 (by have := hS7.map.ne_blk hS7.own; simpa using this.symm), hS7.oth.grown g8 (by have := hS7.map.ne_blk hS7.oth; simpa using this.symm), hS7.arr.grown g8 (by have := hS7.map.ne_blk hS7.arr; simpa using this.symm), M8, hS7.low.grown g8 hS7.low.size (fun kk hkk => by injection hkk with hkk; omega)⟩
        have S8 := S7.grown g8 (by have := hS7.map.ne_blk S7; simpa using this.symm)
        have r8 : w8.cell? ⟨ba, off + k * 3 + 2, none⟩ = some (.bool told) := by
          have h5 := hS7.low.size
          rw [← r7]
          exact World.cell?_of_block (w := w7) (g8.block ba (by omega) (by simp; omega))
        have u1b : Upto (l ++ [(rd, rc, vo)]) vo rd rc := upto_snoc u1 (fun _ => .inr ⟨rfl, by simp⟩)
        have u2b : Upto (l ++ [(rd, rc, vo)]) vt dt ct := upto_snoc u2 (fun h => absurd h v5)
        have HH := Lib.hid (And.intro S8 (And.intro hS8 (And.intro hor (And.intro u1b u2b))))
        clear hlk hup M8 g8 hS7 S7 u1 u2 hn r7 hor u1b u2b hS8 S8
        cases told
        · go_wp2_with fail
          obtain ⟨S8, hS8, hor, u1, u2⟩ := HH.out
          go_roundw
          case rel =>
            rcases hor with ⟨rfl, rfl, rfl, rfl, rfl, rfl, rfl, rfl, rfl, rfl⟩ | ⟨rfl, rfl, rfl, rfl, rfl, rfl, rfl, rfl, rfl, rfl⟩
            · exact ⟨k + 1, rd, rc, _, dt, ct, st, _, by omega, by omega, by go_num, g2, g3, by omega, by omega, f5, f6, f7, by omega, u1, u2, ⟨hS8.own, hS8.oth, hS8.arr, hS8.map, hS8.low⟩⟩
            · exact ⟨k + 1, dt, ct, st, rd, rc, _, _, by omega, by omega, by go_num, f5, f6, f7, by omega, g2, g3, by omega, by omega, u2, u1, ⟨hS8.oth, hS8.own, hS8.arr, hS8.map, hS8.low⟩⟩
          case measure => simp [intOf]; omega
        · go_upto_region 18 with (fail)
          obtain ⟨S8, hS8, hor, u1, u2⟩ := HH.out
          clear HH hlk1 hup1 ss r8
          have ss := S8.three
          have hmax : day < rd - 5 ∨ rd - 5 ≤ day := by omega
          rcases hmax with hmx | hmx
          all_goals
            go_wp2_with fail
            refine (hear_ok bt vt dt ct st rd rc vo _ (2 * k + 1) w8 hS8.oth v3 (by omega) (by omega) g2 g3 (by omega) g4 (by omega) (by omega) v1 v2 f5 f6 f7 (by omega)).mono ?_
            rintro e w9 ⟨d9, c9, s9, rfl, x1, x2, x3, x4, x5, x6, C9, g9⟩
            have O9 := hS8.own.grown g9 (by simpa using v6)
            have A9 := hS8.arr.grown g9 (by have := Blk.ne_ hS8.arr hS8.oth (by decide); simpa using this)
            have M9 := hS8.map.grown g9 (by have := hS8.map.ne_blk hS8.oth; simpa using this)
            have L9 := hS8.low.grown g9 hS8.low.size (fun kk hkk => by injection hkk with hkk; omega)
            have S9 := S8.grown g9 (by have := Blk.ne_ S8 hS8.oth (by decide); simpa using this)
            have hS9 : Mem2 w w9 bo bt a m (.pointer (some ⟨b1, 0, none⟩)) (.pointer (some ⟨b2, 0, none⟩)) vo vt rd rc vo d9 c9 s9 (l ++ [(rd, rc, vo)]) := ⟨O9, C9, A9, M9, L9⟩
            have u29 := upto_more u2 x6
            clear S8 hS8 u2 C9 g9 O9 A9 M9 L9 ss x6
            go_wp2_with fail
            refine (now_next bt vt d9 c9 s9 0 (2 * k + 1) w9 hS9.oth v3 (by omega) (by omega) x1 x2 x3 x4 (by omega) (by omega)).mono ?_
            rintro e w10 ⟨rd2, rc2, rfl, y1, y2, y3, y4, y5, y6, C10, g10⟩
            have O10 := hS9.own.grown g10 (by simpa using v6)
            have A10 := hS9.arr.grown g10 (by have := Blk.ne_ hS9.arr hS9.oth (by decide); simpa using this)
            have M10 := hS9.map.grown g10 (by have := hS9.map.ne_blk hS9.oth; simpa using this)
            have L10 := hS9.low.grown g10 hS9.low.size (fun kk hkk => by injection hkk with hkk; omega)
            have S10 := S9.grown g10 (by have := Blk.ne_ S9 hS9.oth (by decide); simpa using this)
            have hS10 : Mem2 w w10 bo bt a m (.pointer (some ⟨b1, 0, none⟩)) (.pointer (some ⟨b2, 0, none⟩)) vo vt rd rc vo rd2 rc2 vt (l ++ [(rd, rc, vo)]) := ⟨O10, C10, A10, M10, L10⟩
            have hn2 := not_seen u29 y6
            have u210 : Upto (l ++ [(rd, rc, vo)]) vt rd2 rc2 := upto_more u29 (by omega)
            have hless : lessB rd rc vo rd2 rc2 vt = true := by simp only [lessB, decide_eq_true_eq]; omega
            clear C10 g10 O10 A10 M10 L10 S9 hS9 u29 x5 y6
            have bu := below_op w10 w10.heap.size #[.int .i64 rd2, .int .i64 rc2, .int .i64 vt] 39 (Nat.le_refl _)
            have T11 := Blk.new w10 39 #[.int .i64 rd2, .int .i64 rc2, .int .i64 vt]
            have S11 := S10.below bu S10.lt
            have hS11 := hS10.below bu
            have HH := Lib.hid (And.intro T11 (And.intro S11 (And.intro hS11 (And.intro hor (And.intro u1 (And.intro u210 hn2))))))
            clear bu T11 S11 hS11 hor u1 u210 S10 hS10 hn2
            go_upto_region 21 with (fail)
            obtain ⟨T11, S11, hS11, hor, u1, u2, hn2⟩ := HH.out
            clear HH
            generalize w10.alloc (.cells #[.int .i64 rd2, .int .i64 rc2, .int .i64 vt] 39) = w11 at *
            generalize w10.heap.size = p2 at *
            have ss := S11.three
            have tt := T11.three
            go_wp2_with fail
            refine (less_any _ _ _ _ _ _ _).mono ?_
            rintro e w12 ⟨rfl, hb12⟩
            have T12 := T11.below hb12 T11.lt
            have hS12 := hS11.below hb12
            clear T11 S11 hS11 hb12 ss tt
            have tt := T12.three
            have hlk := run_lookup52 m (rd2, rc2, vt) _ w12 hS12.map
            rw [show decide ((rd2, rc2, vt) ∈ l ++ [(rd, rc, vo)]) = false from by simpa using hn2] at hlk
            have hlk1 : (Instr.lookup 52 (.map (some m)) (.agg #[.int .i64 rd2, .int .i64 rc2, .int .i64 vt]) false).run Try.prog w12 = .ok (.bool false) w12 := hlk
            obtain ⟨w13, hup, M13, g13⟩ := run_update52 m (rd2, rc2, vt) _ w12 hS12.map hn2
            have hup1 : (Instr.mapUpdate 52 (.map (some m)) (.agg #[.int .i64 rd2, .int .i64 rc2, .int .i64 vt]) (.bool true)).run Try.prog w12 = .ok () w13 := hup
            have hS13 : Mem2 w w13 bo bt a m (.pointer (some ⟨b1, 0, none⟩)) (.pointer (some ⟨b2, 0, none⟩)) vo vt rd rc vo rd2 rc2 vt ((l ++ [(rd, rc, vo)]) ++ [(rd2, rc2, vt)]) :=
              ⟨hS12.own.grown g13 (by have := hS12.map.ne_blk hS12.own; simpa using this.symm), hS12.oth.grown g13 (by have := hS12.map.ne_blk hS12.oth; simpa using this.symm), hS12.arr.grown g13 (by have := hS12.map.ne_blk hS12.arr; simpa using this.symm), M13, hS12.low.grown g13 hS12.low.size (fun kk hkk => by injection hkk with hkk; omega)⟩
            have u1b : Upto ((l ++ [(rd, rc, vo)]) ++ [(rd2, rc2, vt)]) vo rd rc := upto_snoc u1 (fun h => absurd h.symm v5)
            have u2b : Upto ((l ++ [(rd, rc, vo)]) ++ [(rd2, rc2, vt)]) vt rd2 rc2 := upto_snoc u2 (fun _ => .inr ⟨rfl, by simp⟩)
            have HH := Lib.hid (And.intro hS13 (And.intro hor (And.intro u1b u2b)))
            clear hlk hup M13 g13 hS12 T12 u1 u2 hn2 hor u1b u2b hS13
            go_wp2_with fail
            obtain ⟨hS8, hor, u1, u2⟩ := HH.out
            go_roundw
            case rel =>
              rcases hor with ⟨rfl, rfl, rfl, rfl, rfl, rfl, rfl, rfl, rfl, rfl⟩ | ⟨rfl, rfl, rfl, rfl, rfl, rfl, rfl, rfl, rfl, rfl⟩
              · exact ⟨k + 1, rd, rc, _, rd2, rc2, _, _, by omega, by omega, by go_num, g2, g3, by omega, by omega, y2, y3, by omega, by omega, u1, u2, ⟨hS8.own, hS8.oth, hS8.arr, hS8.map, hS8.low⟩⟩
              · exact ⟨k + 1, rd2, rc2, _, rd, rc, _, _, by omega, by omega, by go_num, y2, y3, by omega, by omega, g2, g3, by omega, by omega, u2, u1, ⟨hS8.oth, hS8.own, hS8.arr, hS8.map, hS8.low⟩⟩
            case measure => simp [intOf]; omega
    · have GG := Lib.hid hM.low
      clear hM u1 u2
      by_cases hl : k < len
      · obtain rfl : k = 30 := by omega
        clear hin
        go_wp2_with fail
        go_ret
        exact ⟨rfl, GG.out⟩
      · have hl' : len ≤ k := by omega
        clear hin hl
        go_wp2_with fail
        go_ret
        exact ⟨rfl, GG.out⟩
end Go.Proofs.Ytcpnlcgpgljlbaa
