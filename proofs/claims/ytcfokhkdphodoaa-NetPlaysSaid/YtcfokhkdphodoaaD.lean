/- Ytcfokhkdphodoaa: YtcfokhkdphodoaaD. -/
import Derived.Test.YtcfokhkdphodoaaC
namespace Go.Proofs.Ytcfokhkdphodoaa
open Go.Proofs.Ytcfokhkdphodoaa.Am
namespace Nt
abbrev pv (p : Pc) : Value := .agg #[.int .i64 p.1, .int .i64 p.2.1, .string p.2.2]
abbrev Tm := List (Pc × Int)
abbrev kvOf (m : Tm) : List (Value × AV) := m.map fun x => (pv x.1, int x.2)
/-- Parcels that can be keys. -/
def Kp (p : Pc) : Prop := (-9223372036854775808 ≤ p.1 ∧ p.1 ≤ 9223372036854775807) ∧ (-9223372036854775808 ≤ p.2.1 ∧ p.2.1 ≤ 9223372036854775807) ∧ p.2.2.size ≤ maxLen
theorem wf_i64 {n : Int} (h : -9223372036854775808 ≤ n ∧ n ≤ 9223372036854775807) : (Lit.int .i64 n).wf = true := by
  simp only [Lit.wf, Bool.and_eq_true, decide_eq_true_eq]
  exact h
theorem lits_int (d : Nat) {n : Int} (h : -9223372036854775808 ≤ n ∧ n ≤ 9223372036854775807) : Try.prog.keyLits (d + 1) 3 [.int .i64 n] = some [.int .i64 n] := by
  have hu : Try.prog.underlying 3 = some (.int .i64) := TT.Ok.int T_ok (t := 3) rfl rfl
  simp only [Program.keyLits, hu, wf_i64 h]
  simp
theorem lits_str (d : Nat) {s : ByteArray} (h : s.size ≤ maxLen) : Try.prog.keyLits (d + 1) 9 [.string s] = some [.string s.data.toList] := by
  have hu : Try.prog.underlying 9 = some .string := TT.Ok.str T_ok (t := 9) rfl rfl
  simp only [Program.keyLits, hu, if_pos h]
theorem key_one {p : Pc} (h : Kp p) : keyB Try.prog 33 (pv p) = true := by
  obtain ⟨fs, hu, hl⟩ := TT.Ok.struct T_ok (t := 33) rfl rfl
  have hcell : Try.prog.cellsOf 33 = 3 := TT.Ok.cellsOf T_ok (t := 33) rfl
  have hc3 : Try.prog.cellsOf 3 = 1 := TT.Ok.cellsOf T_ok (t := 3) rfl
  have hc9 : Try.prog.cellsOf 9 = 1 := TT.Ok.cellsOf T_ok (t := 9) rfl
  have hb : noBlank Try.prog 33 = true := ((T_ok.at_ (t := 33) rfl).2.2.1 rfl).2.2
  have hk : Try.prog.keyType 33 = true := by kernel_rfl
  have hd : ∃ d, Try.prog.types.size = d + 1 := ⟨Try.prog.types.size - 1, by
    have h0 : decide (0 < Try.prog.types.size) = true := by kernel_rfl
    have h1 := of_decide_eq_true h0
    omega⟩
  obtain ⟨d, hd⟩ := hd
  unfold noBlank at hb
  rw [hu] at hb
  simp only at hb
  have hb2 : fs.all (fun f => f.name != "_") = true := by rw [← Array.all_toList]; exact hb
  unfold keyB keyOf
  simp only [hu, hk, Value.formed, hcell, hd]
  unfold Program.keyLits
  simp only [hu, hcell, hb2, Value.cells]
  have h3 : ∃ a b c, fs.toList = [a, b, c] ∧ (a.offset = 0 ∧ a.type = 3) ∧ (b.offset = 1 ∧ b.type = 3) ∧ c.offset = 2 ∧ c.type = 9 := by
    generalize fs.toList = l at hl
    rcases l with _ | ⟨a, _ | ⟨b, _ | ⟨c, _ | ⟨d, l⟩⟩⟩⟩
    all_goals simp at hl
    exact ⟨a, b, c, rfl, hl.1, hl.2.1, hl.2.2⟩
  obtain ⟨a, b, c, e, ⟨a1, a2⟩, ⟨b1, b2⟩, c1, c2⟩ := h3
  rw [e]
  have q1 := lits_int d h.1
  have q2 := lits_int d h.2.1
  have q3 := lits_str d h.2.2
  simp [List.mapM_cons, a1, a2, b1, b2, c1, c2, hc3, hc9, q1, q2, q3]
theorem key_ok {p : Pc} {m : Tm} (h : Kp p) (hm : ∀ x ∈ m, Kp x.1) : (keyB Try.prog 33 (pv p) && (kvOf m).all fun x => keyB Try.prog 33 x.1) = true := by
  rw [key_one h, Bool.true_and, List.all_map]
  exact List.all_eq_true.2 fun x hx => key_one (hm x hx)
theorem pv_inj {p q : Pc} (h : pv p = pv q) : p = q := by
  obtain ⟨a, b, c⟩ := p
  obtain ⟨a', b', c'⟩ := q
  simp at h
  simp [h]
open Classical in
/-- How often a parcel waits. -/
noncomputable def cnt (p : Pc) : List Pc → Nat
  | [] => 0
  | q :: l => cnt p l + if q = p then 1 else 0
theorem cnt_append (p : Pc) (l m : List Pc) : cnt p (l ++ m) = cnt p l + cnt p m := by
  induction l with
  | nil => simp [cnt]
  | cons q l ih => simp only [List.cons_append, cnt, ih]; omega
theorem cnt_self (p : Pc) : cnt p [p] = 1 := by simp [cnt]
theorem cnt_other {p q : Pc} (h : q ≠ p) : cnt p [q] = 0 := by simp [cnt, h]
theorem cnt_zero {p : Pc} : ∀ {l : List Pc}, p ∉ l → cnt p l = 0
  | [], _ => rfl
  | q :: l, h => by
    have h1 : p ∉ l := fun hh => h (List.mem_cons_of_mem _ hh)
    have h2 : q ≠ p := fun hh => h (by rw [hh]; exact List.mem_cons_self ..)
    simp only [cnt, cnt_zero h1, if_neg h2]
theorem cnt_le (p : Pc) : ∀ l : List Pc, cnt p l ≤ l.length
  | [] => Nat.le_refl _
  | q :: l => by
    have := cnt_le p l
    simp only [cnt, List.length_cons]
    split <;> omega
/-- The map knows how often each parcel waits. -/
structure Inv (m : Tm) (ps : List Pc) : Prop where
  nd : (m.map Prod.fst).Nodup
  ct : ∀ (i : Nat) (p : Pc) (c : Int), m[i]? = some (p, c) → c = (cnt p ps : Nat)
  mem : ∀ p ∈ ps, p ∈ m.map Prod.fst
theorem Inv.nil : Inv [] [] := ⟨by simp, fun i p c h => by simp at h, fun p h => by cases h⟩
theorem Inv.pos {m : Tm} {ps : List Pc} (h : Inv m ps) (p : Pc) : (∃ i : Nat, m[i]? = some (p, ((cnt p ps : Nat) : Int))) ∨ (p ∉ m.map Prod.fst ∧ cnt p ps = 0) := by
  by_cases hp : p ∈ m.map Prod.fst
  · obtain ⟨⟨q, c⟩, hq, rfl⟩ := List.mem_map.1 hp
    obtain ⟨i, hi⟩ := List.getElem?_of_mem hq
    have := h.ct i _ _ hi
    subst this
    exact .inl ⟨i, hi⟩
  · exact .inr ⟨hp, cnt_zero fun hh => hp (h.mem p hh)⟩
theorem find_some {m : Tm} {i : Nat} {p : Pc} {c : Int} (h : m[i]? = some (p, c)) : findOk (kvOf m) (pv p) (some i) := ⟨int c, by rw [List.getElem?_map, h]; rfl⟩
theorem find_none {m : Tm} {p : Pc} (h : p ∉ m.map Prod.fst) : findOk (kvOf m) (pv p) none := by
  intro x hx
  obtain ⟨y, hy, rfl⟩ := List.mem_map.1 hx
  intro e
  exact h (List.mem_map.2 ⟨y, hy, pv_inj e⟩)
theorem kvAt_some {m : Tm} {i : Nat} {p : Pc} {c : Int} (h : m[i]? = some (p, c)) : int c = kvAt (kvOf m) i := by
  unfold kvAt
  rw [List.getD_eq_getElem?_getD, List.getElem?_map, h]; rfl
theorem set_kv {m : Tm} {i : Nat} {p : Pc} {c : Int} (h : m[i]? = some (p, c)) (d : Int) : (kvOf m).set (i : Int).toNat (((kvOf m).getD (i : Int).toNat (undef, .unk)).1, int d) = kvOf (m.set i (p, d)) := by
  rw [Int.toNat_natCast, List.getD_eq_getElem?_getD, List.getElem?_map, h]
  exact (List.map_set (f := fun x : Pc × Int => (pv x.1, int x.2)) (l := m) (i := i) (a := (p, d))).symm
theorem set_new (m : Tm) (p : Pc) (d e : Int) : (kvOf m ++ [(pv p, int e)]).set (m.length : Int).toNat (((kvOf m ++ [(pv p, int e)]).getD (m.length : Int).toNat (undef, .unk)).1, int d) = kvOf (m ++ [(p, d)]) := by
  have hl : (kvOf m).length = m.length := List.length_map _
  rw [Int.toNat_natCast, List.getD_eq_getElem?_getD, List.getElem?_append_right (by omega), hl, Nat.sub_self, List.set_append_right _ _ (by omega), hl, Nat.sub_self]
  exact (List.map_append (f := fun x : Pc × Int => (pv x.1, int x.2)) (l₁ := m) (l₂ := [(p, d)])).symm
theorem pure_kv (m : Tm) (ok : Nat → Bool) : ((kvOf m).all fun x => x.2.names ok) = true := by
  rw [List.all_map]
  exact List.all_eq_true.2 fun x _ => rfl
theorem ren_kv (m : Tm) (ρ : Nat → Nat) (ck : Nat) : (Blk.map ck (kvOf m)).ren ρ = .map ck (kvOf m) := by
  simp [Blk.ren, AV.ren]
theorem nd_set {m : Tm} {i : Nat} {p : Pc} {c d : Int} (h : m[i]? = some (p, c)) : (m.set i (p, d)).map Prod.fst = m.map Prod.fst := by
  rw [List.map_set]
  apply List.ext_getElem?
  intro j
  rw [List.getElem?_set]
  split
  · rename_i e; subst e
    rw [List.getElem?_map, h]
    split
    · rfl
    · rename_i hl; exact absurd (by have := (List.getElem?_eq_some_iff.1 h).1; simpa using this) hl
  · rfl
theorem Inv.set {m : Tm} {ps ps' : List Pc} {i : Nat} {p : Pc} {c d : Int} (h : Inv m ps) (hi : m[i]? = some (p, c)) (hd : d = (cnt p ps' : Nat)) (hne : ∀ q, q ≠ p → cnt q ps' = cnt q ps) (hm : ∀ q ∈ ps', q ∈ ps ∨ q = p) : Inv (m.set i (p, d)) ps' := by
  refine ⟨by rw [nd_set hi]; exact h.nd, fun j q e hj => ?_, fun q hq => ?_⟩
  · rw [List.getElem?_set] at hj
    split at hj
    · split at hj
      · injection hj with hj; injection hj with h1 h2; subst h1 h2; exact hd
      · cases hj
    · rename_i hij
      have hq : q ≠ p := by
        rintro rfl
        have hl1 := (List.getElem?_eq_some_iff.1 hi).1
        have hl2 := (List.getElem?_eq_some_iff.1 hj).1
        have a1 := (List.getElem?_eq_some_iff.1 hi).2
        have a2 := (List.getElem?_eq_some_iff.1 hj).2
        have n := List.pairwise_iff_getElem.1 h.nd
        rcases Nat.lt_or_gt_of_ne hij with hlt | hlt
        · exact n i j (by simpa using hl1) (by simpa using hl2) hlt (by simp [a1, a2])
        · exact n j i (by simpa using hl2) (by simpa using hl1) hlt (by simp [a1, a2])
      rw [hne q hq]; exact h.ct j q e hj
  · rw [nd_set hi]
    rcases hm q hq with h1 | rfl
    · exact h.mem q h1
    · exact List.mem_map.2 ⟨_, List.mem_of_getElem? hi, rfl⟩
theorem Inv.send {m : Tm} {ps : List Pc} {p : Pc} (h : Inv m ps) {i : Nat} {c : Int} (hi : m[i]? = some (p, c)) : Inv (m.set i (p, c + 1)) (ps ++ [p]) := by
  have := h.ct i p c hi
  refine h.set hi ?_ (fun q hq => ?_) fun q hq => ?_
  · rw [cnt_append, cnt_self, this]; simp
  · rw [cnt_append, cnt_other (Ne.symm hq)]; omega
  · simpa using hq
theorem Inv.add {m : Tm} {ps : List Pc} {p : Pc} (h : Inv m ps) (hp : p ∉ m.map Prod.fst) (h0 : cnt p ps = 0) : Inv (m ++ [(p, 1)]) (ps ++ [p]) := by
  refine ⟨?_, fun i q c hi => ?_, fun q hq => ?_⟩
  · rw [List.map_append]
    refine List.nodup_append.2 ⟨h.nd, by simp, fun a ha b hb => ?_⟩
    simp at hb; subst hb
    rintro rfl; exact hp ha
  · rw [cnt_append]
    by_cases hlt : i < m.length
    · rw [List.getElem?_append_left hlt] at hi
      have hq : q ≠ p := by
        rintro rfl
        exact hp (List.mem_map.2 ⟨_, List.mem_of_getElem? hi, rfl⟩)
      rw [cnt_other (Ne.symm hq)]
      have := h.ct i q c hi
      simp [this]
    · rw [List.getElem?_append_right (by omega)] at hi
      have : i - m.length = 0 := by
        have := (List.getElem?_eq_some_iff.1 hi).1
        simp at this; omega
      rw [this] at hi
      simp at hi
      obtain ⟨rfl, rfl⟩ := hi
      rw [cnt_self, h0]; rfl
  · rw [List.map_append]
    rcases List.mem_append.1 hq with h1 | h1
    · exact List.mem_append_left _ (h.mem q h1)
    · simp at h1; subst h1; simp
open Classical in
theorem count_erase {ps : List Pc} {k : Nat} {p : Pc} (hk : k < ps.length) (hp : ps.getD k p0 = p) (q : Pc) : cnt q ps = cnt q (ps.eraseIdx k) + if p = q then 1 else 0 := by
  have e : ps = ps.take k ++ ([p] ++ ps.drop (k + 1)) := by
    rw [List.getD_eq_getElem?_getD, List.getElem?_eq_getElem hk] at hp
    simp only [Option.getD_some] at hp
    rw [← hp, List.singleton_append, List.getElem_cons_drop, List.take_append_drop]
  rw [List.eraseIdx_eq_take_drop_succ]
  conv => lhs; rw [e]
  rw [cnt_append, cnt_append, cnt_append]
  simp only [cnt]
  omega
theorem Inv.take {m : Tm} {ps : List Pc} {p : Pc} {k : Nat} (h : Inv m ps) (hk : k < ps.length) (hp : ps.getD k p0 = p) : ∃ (i : Nat) (c : Int), m[i]? = some (p, c) ∧ 1 ≤ c ∧ Inv (m.set i (p, c - 1)) (ps.eraseIdx k) := by
  have hc := count_erase hk hp
  have h1 := hc p
  rw [if_pos rfl] at h1
  rcases h.pos p with ⟨i, hi⟩ | ⟨_, h0⟩
  · refine ⟨i, _, hi, by omega, h.set hi (by omega) (fun q hq => ?_) fun q hq => .inl (List.mem_of_mem_eraseIdx hq)⟩
    have := hc q
    rw [if_neg (Ne.symm hq)] at this
    omega
  · omega
theorem get_set {m : Tm} {i : Nat} {p : Pc} {c : Int} (h : m[i]? = some (p, c)) (d : Int) : (m.set i (p, d))[i]? = some (p, d) := by
  rw [List.getElem?_set_self (List.getElem?_eq_some_iff.1 h).1]
end Nt
end Go.Proofs.Ytcfokhkdphodoaa
