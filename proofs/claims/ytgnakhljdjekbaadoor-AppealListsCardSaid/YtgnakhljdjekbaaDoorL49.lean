/- appealD: parts of the proof, DappealDJF DappealDJG DappealDJH DappealDLE. -/
import Derived.Test.YtgnakhljdjekbaaDoorL48
set_option linter.all false
namespace Go.Proofs.YtgnakhljdjekbaaDoor
open Go.Proofs.YtgnakhljdjekbaaDoor.Am
set_option maxRecDepth 100000
namespace En
/-! ### Numbers that are drawn -/
abbrev dty : TypeId := 59
abbrev drawB (fl : Fl) (xs : List Int) (at_ : Nat) : Blk := .row 2 dty [.agg [.ro fl 1 (xs.map int), int at_]]
def dv (xs : List Int) (at_ : Nat) (most : Int) : Int := if at_ < xs.length then ((xs.getD at_ 0).tmod most + most).tmod most else 0
def da (xs : List Int) (at_ : Nat) : Nat := if at_ < xs.length then at_ + 1 else at_
theorem dv_range (xs : List Int) (at_ : Nat) {most : Int} (h : 0 < most) : 0 ≤ dv xs at_ most ∧ dv xs at_ most < most := by
  unfold dv
  split
  · have h1 := tmod_bound (xs.getD at_ 0) h
    rw [Int.tmod_eq_emod_of_nonneg (by omega)]
    exact ⟨Int.emod_nonneg _ (by omega), Int.emod_lt_of_pos _ h⟩
  · omega
theorem da_le {xs : List Int} {at_ : Nat} (h : at_ ≤ xs.length) : da xs at_ ≤ xs.length := by
  unfold da; split <;> omega
theorem Mod_f (x m : Int) (h : 0 < m ∧ m ≤ 1000000) : AFun Tryd.prog 22 0 [int x, int m] [] (int ((x.tmod m + m).tmod m)) [] := by
  refine AFun.of_W T_ok mixed Tryd.func22 rfl (Nat.le_of_ble_eq_true rfl) rfl ?_
  have hnz : (m != 0) = true := by simp; omega
  have hb := tmod_bound x h.1
  ((repeat ((conv => whnf); (first | (refine As.pre ?_; first | refine As.mk rfl ?_ | refine As.mk hnz ?_) | (refine LetI.pre ?_; first | refine LetI.wrap (by omega) (by omega) ?_ | refine LetI.mk _ rfl ?_) | (refine Ck.pre ?_; first | refine Ck.mk rfl ?_)))); (try (conv => whnf)))
  exact ⟨.inl rfl, ⟨_, rfl, rfl⟩, trivial⟩
theorem Next_f (fl : Fl) (xs : List Int) (at_ : Nat) (most : Int) (hl : xs.length ≤ 9223372036854775807) (ha : at_ ≤ xs.length) (hm : 0 < most ∧ most ≤ 1000000) :
    AFun Tryd.prog 17 1 [.ptr 0 2 0 0, int most] [(0, drawB fl xs at_)] (int (dv xs at_ most)) [(0, drawB fl xs (da xs at_))] := by
  refine AFun.of_W T_ok mixed Tryd.func17 rfl (Nat.le_of_ble_eq_true rfl) rfl ?_
  have hml : (xs.map int).length = xs.length := List.length_map _
  have hnz : (most != 0) = true := by simp; omega
  unfold dv da
  by_cases hlt : at_ < xs.length
  · rw [if_pos hlt, if_pos hlt]
    have hld : int (xs.getD at_ 0) = (xs.map int).getD at_ (.sc undef) := mapD 0 hlt
    have hld2 : int (xs.getD at_ 0) = (xs.map int).getD ((at_ : Int) + 1 - 1).toNat (.sc undef) := by rw [show ((at_ : Int) + 1 - 1).toNat = at_ by omega]; exact hld
    generalize xs.getD at_ 0 = x at hld hld2 ⊢
    have hM := Mod_f x most hm
    ((repeat ((conv => whnf); (first | (refine LetN.pre ?_; first | ((conv => arg 1; whnf); refine LetN.mk ?_)) | (refine As.pre ?_; first | refine As.mk rfl ?_ | (refine As.mk ?_ ?_; · ((repeat' (refine andT ?_ ?_)) <;> (first | rfl | assumption | exact decide_eq_true (by omega) | exact decide_eq_true (by dsimp only; omega) | exact decide_eq_true (by simp; omega) | (simp; done))))) | (refine LetV.pre ?_; first | refine LetV.mk (t := 39) _ hld2 ?_ | refine LetV.mk (.sc (.int _ _)) rfl ?_ | refine LetV.mk (.ro _ _ _) rfl ?_) | (refine LetI.pre ?_; first | refine LetI.wrap (by omega) (by omega) ?_ | refine LetI.mk _ rfl ?_) | (refine LetB.pre ?_; first | refine LetB.decf (by omega) ?_) | (refine Br.pre ?_; first | refine Br.ff rfl ?_) | (refine Ck.pre ?_; first | refine Ck.drawn (by kernel_rfl) ?_ | refine Ck.mk rfl ?_) | (refine LetL.pre ?_; first | refine LetL.mk [_] rfl ?_) | (refine CallN.pre ?_; first | refine CallN.pure hM rfl rfl ?_)))); (try (conv => whnf)))



    exact ⟨.inl rfl, ⟨_, rfl, rfl⟩, rfl, trivial⟩
  · rw [if_neg hlt, if_neg hlt]
    ((repeat ((conv => whnf); (first | (refine As.pre ?_; first | refine As.mk rfl ?_) | (refine LetV.pre ?_; first | refine LetV.mk (.sc (.int _ _)) rfl ?_ | refine LetV.mk (.ro _ _ _) rfl ?_) | (refine LetI.pre ?_; first | refine LetI.mk _ rfl ?_) | (refine LetB.pre ?_; first | refine LetB.dect (by omega) ?_) | (refine Br.pre ?_; first | refine Br.tt rfl ?_) | (refine Ck.pre ?_; first | refine Ck.drawn (by kernel_rfl) ?_ | refine Ck.mk rfl ?_)))); (try (conv => whnf)))
    exact ⟨.inl rfl, ⟨_, rfl, rfl⟩, rfl, trivial⟩
def codesL : List ByteArray := [⟨#[65, 49]⟩, ⟨#[66, 49]⟩, ⟨#[66, 50]⟩, ⟨#[67, 49]⟩, ⟨#[68, 49]⟩, ⟨#[69, 57]⟩]
theorem Codes_f : AFun Tryd.prog 18 0 [] [] (.ro ⟨true, true⟩ 1 (codesL.map str)) [] := AFun.of_ev T_ok mixed 20 (by kernel_rfl)
abbrev iA (x : Fl × List Int) : AV := .ro x.1 1 (x.2.map int)
abbrev L0 : Fl × List Int := ({}, [])
theorem codes_get (n : Int) (h : 0 ≤ n ∧ n < 6) : ∃ s : ByteArray, s.size ≤ 2 ∧ str s = (codesL.map str).getD n.toNat (.sc undef) := by
  obtain ⟨m, rfl⟩ : ∃ m : Nat, n = m := ⟨n.toNat, by omega⟩
  have : m = 0 ∨ m = 1 ∨ m = 2 ∨ m = 3 ∨ m = 4 ∨ m = 5 := by omega
  rcases this with rfl | rfl | rfl | rfl | rfl | rfl <;> exact ⟨_, by decide, rfl⟩
theorem made_next (fl : Fl) (xs : List Int) (hl : xs.length ≤ 9223372036854775807) (at_ : Nat) (most : Int) (ha : at_ ≤ xs.length) (hm : 0 < most ∧ most ≤ 1000000) : ∃ v a, (0 ≤ v ∧ v < most) ∧ a ≤ xs.length ∧
    AFun Tryd.prog 17 1 [.ptr 0 2 0 0, int most] [(0, drawB fl xs at_)] (int v) [(0, drawB fl xs a)] :=
  ⟨_, _, dv_range xs at_ hm.1, da_le ha, Next_f fl xs at_ most hl ha hm⟩
theorem AFun.of_SE {P : Program} {T : TT} (hT : T.Ok P) {p : Nat} (hm : P.follows .mixedOrders = true) {f : FuncId} {fn : Func} {c : Code} {vs : List AV} {H : AH} {α : Type} {I : α → Prop} {v : α → AV} {H' : α → AH} (hf : P.funcs[f]? = some fn) (hb : fn.body = some c) (hn : vs.length ≤ fn.ntmps) (hB : H.all (fun x => decide (x.1 < p)) = true)
    (h : V P T p fn.ntmps c ⟨argFr vs 0, H, p⟩ (fun e s => ∃ x, I x ∧ FinS T fn p (v x) (H' x) e s)) : ∃ x, I x ∧ AFun P f p vs H (v x) (H' x) := by
  obtain ⟨e, s', h1, _, x, hI, s2, hw, he, ⟨rv, hr, hv⟩, hH⟩ := V_sound hT hm c _ _ h (HB.of_all hB)
  exact ⟨x, hI, (AFun.of_body hT hf hb hn he (h1.post hw) hr hv rfl).forget hH.get⟩
end En
end Go.Proofs.YtgnakhljdjekbaaDoor
namespace Go.Proofs.YtgnakhljdjekbaaDoor
open Go.Proofs.YtgnakhljdjekbaaDoor.Am
set_option maxRecDepth 100000
namespace En
/-! ### Made entries (of the chapter 10) -/
def onP (l : List E) (id : Int) : Int := match l.find? (fun e => decide (e.id = id)) with
  | some e => e.on_
  | none => 0
theorem onP_drop {l : List E} {k : Nat} (id : Int) (h : k < l.length) : onP (l.drop k) id = if (l.getD k e0).id = id then (l.getD k e0).on_ else onP (l.drop (k + 1)) id := by
  rw [List.drop_eq_getElem_cons h, onP, List.find?_cons, List.getD_eq_getElem?_getD, List.getElem?_eq_getElem h]
  simp only [Option.getD_some]
  by_cases hc : l[k].id = id
  · rw [decide_eq_true hc, if_pos hc]
  · rw [decide_eq_false hc, if_neg hc]; rfl
theorem ld_en {l : List E} {k : Nat} (h : k < l.length) : en (l.getD k e0) = (l.map en).getD k (.sc undef) := mapD e0 h
set_option maxRecDepth 100000 in
theorem on_f (l : List E) (id : Int) (fl : Fl) (hl : l.length ≤ 1000) : AFun Tryd.prog 21 0 [.ro fl 15 (l.map en), int id] [] (int (onP l id)) [] := by
  refine AFun.of_W T_ok mixed Tryd.func21 rfl (Nat.le_of_ble_eq_true rfl) rfl ?_
  have hm : (l.map en).length = l.length := List.length_map _
  ((repeat ((conv => whnf); (first | (refine As.pre ?_; first | refine As.mk rfl ?_) | (refine Ck.pre ?_; first | refine Ck.mk rfl ?_)))); (try (conv => whnf)))
  refine LoopN.weak (s1 := ⟨[(0, .ro fl 15 (l.map en)), (1, int id), (5, int (0 : Nat))], [], 0⟩) (SW.fr0 (Nat.le_refl _) rfl ⟨.refl _, .refl _, .refl _, trivial⟩) ?_
  refine LoopN.ind T_ok mixed (S := fun k : Nat => ⟨[(0, .ro fl 15 (l.map en)), (1, int id), (5, int k)], [], 0⟩) (fun k => l.length - k) (fun k => k ≤ l.length ∧ onP l id = onP (l.drop k) id) (fun _ => rfl) (fun k hk ih => ?_) 0 ⟨Nat.zero_le _, rfl⟩
  obtain ⟨h1, h2⟩ := hk
  by_cases hlt : k < l.length
  case neg =>
    rw [List.drop_eq_nil_of_le (by omega)] at h2
    rw [h2]
    clear ih
    ((repeat ((conv => whnf); (first | (refine As.pre ?_; first | refine As.mk rfl ?_) | (refine LetI.pre ?_; first | refine LetI.mk _ rfl ?_) | (refine LetB.pre ?_; first | refine LetB.decf (by omega) ?_) | (refine Br.pre ?_; first | refine Br.ff rfl ?_) | (refine Ck.pre ?_; first | refine Ck.mk rfl ?_)))); (try (conv => whnf)))
    exact ⟨.inl rfl, ⟨_, rfl, rfl⟩, trivial⟩
  have hld := ld_en hlt
  rw [onP_drop id hlt] at h2
  generalize l.getD k e0 = e at hld h2
  by_cases hc : e.id = id
  · rw [if_pos hc] at h2
    rw [h2]
    clear ih
    ((repeat ((conv => whnf); (first | (refine As.pre ?_; first | refine As.mk rfl ?_ | (refine As.mk ?_ ?_; · ((repeat' (refine andT ?_ ?_)) <;> (first | rfl | assumption | exact decide_eq_true (by omega) | exact decide_eq_true (by dsimp only; omega) | exact decide_eq_true (by simp; omega) | (simp; done))))) | (refine LetV.pre ?_; first | refine LetV.mk (t := 44) _ hld ?_ | refine LetV.mk (.sc (.int _ _)) rfl ?_) | (refine LetI.pre ?_; first | refine LetI.mk _ rfl ?_) | (refine LetB.pre ?_; first | refine LetB.dect (by omega) ?_) | (refine Br.pre ?_; first | refine Br.tt rfl ?_) | (refine Ck.pre ?_; first | refine Ck.mk rfl ?_)))); (try (conv => whnf)))
    exact ⟨.inl rfl, ⟨_, rfl, rfl⟩, trivial⟩
  · rw [if_neg hc] at h2
    have hnx := ih (k + 1) ⟨by omega, h2⟩ (by omega)
    clear ih
    ((repeat ((conv => whnf); (first | (refine As.pre ?_; first | refine As.mk rfl ?_ | (refine As.mk ?_ ?_; · ((repeat' (refine andT ?_ ?_)) <;> (first | rfl | assumption | exact decide_eq_true (by omega) | exact decide_eq_true (by dsimp only; omega) | exact decide_eq_true (by simp; omega) | (simp; done))))) | (refine LetV.pre ?_; first | refine LetV.mk (t := 44) _ hld ?_ | refine LetV.mk (.sc (.int _ _)) rfl ?_) | (refine LetI.pre ?_; first | refine LetI.wrap (by omega) (by omega) ?_ | refine LetI.mk _ rfl ?_) | (refine LetB.pre ?_; first | refine LetB.dect (by omega) ?_ | refine LetB.decf (by omega) ?_) | (refine Br.pre ?_; first | refine Br.tt rfl ?_ | refine Br.ff rfl ?_) | (refine Ck.pre ?_; first | refine Ck.mk rfl ?_)))); (try (conv => whnf)))
    refine LoopN.weak ?_ hnx
    exact SW.fr0 (Nat.le_refl _) rfl ⟨.refl _, .refl _, VLe2.int (by omega), trivial⟩
abbrev pkS (l : List E) (fl : Fl) (st kd n : Int) : Nat × List Int → AS
  | (k, ids) => ⟨[(0, .ro fl 15 (l.map en)), (1, int st), (2, int kd), (3, int n), (9, .slm {} 0 1 0 ids.length), (10, int k)], [(0, .row 1 3 (ids.map int))], 1⟩
theorem room_int {n : Nat} (h : n ≤ 1000000) : room n 8 = true := by
  simp only [room, Bool.and_eq_true, decide_eq_true_eq]
  exact ⟨by omega, rfl⟩
theorem pure_int : ∀ l : List Int, AV.namesL (fun _ => false) (l.map int) = true
  | [] => rfl
  | p :: l => by simp only [List.map_cons, AV.namesL, pure_int l]; rfl
theorem app_intL (l : List Int) (e : Int) (n : Nat) (h : n = l.length) : (l ++ [e]).map int = (l.map int).take n ++ [int e] := by rw [List.take_of_length_le (by simp [h]), List.map_append]; rfl
set_option maxHeartbeats 1600000 in
set_option maxRecDepth 100000 in
/-- The Id of one of the entries of a student and a kind, or 0. -/
theorem pick_f (l : List E) (st kd n : Int) (fl : Fl) (hl : l.length ≤ 1000) (hn : 0 ≤ n) : ∃ r : Int, (r = 0 ∧ (∀ e ∈ l, ¬(e.student = st ∧ e.kind = kd)) ∨ ∃ e ∈ l, e.student = st ∧ e.kind = kd ∧ e.id = r) ∧
    AFun Tryd.prog 20 0 [.ro fl 15 (l.map en), int st, int kd, int n] [] (int r) [] := by
  refine AFun.of_SE T_ok mixed (H' := fun _ => []) (v := fun r : Int => int r) Tryd.func20 rfl (Nat.le_of_ble_eq_true rfl) rfl ?_
  have hm : (l.map en).length = l.length := List.length_map _
  ((repeat ((conv => whnf); (first | (refine As.pre ?_; first | refine As.mk rfl ?_) | (refine Ck.pre ?_; first | refine Ck.mk rfl ?_)))); (try (conv => whnf)))
  refine LoopN.weak (s1 := pkS l fl st kd n (0, [])) ?sw1 ?_
  case sw1 => exact SW.mk id rfl rfl rfl ⟨.refl _, .refl _, .refl _, .refl _, VLe2.nilslm, .refl _, trivial⟩ (haveV.nil (Nat.le_of_ble_eq_true rfl) trivial)
  refine LoopN.ind T_ok mixed (S := pkS l fl st kd n) (fun i => l.length - i.1) (fun i => i.1 ≤ l.length ∧ i.2.length ≤ i.1 ∧ (∀ r ∈ i.2, ∃ e ∈ l, e.student = st ∧ e.kind = kd ∧ e.id = r) ∧ (i.2 = [] → ∀ e ∈ l.take i.1, ¬(e.student = st ∧ e.kind = kd))) (fun _ => rfl) (fun i hi ih => ?_) (0, []) ⟨Nat.zero_le _, Nat.zero_le _, fun _ h => absurd h List.not_mem_nil, fun _ _ h => absurd h List.not_mem_nil⟩
  obtain ⟨k, ids⟩ := i
  obtain ⟨h1, h2, h3, h4⟩ := hi
  simp only at h1 h2 h3 h4
  have hmi : (ids.map int).length = ids.length := List.length_map _
  by_cases hlt : k < l.length
  case neg =>
    clear ih
    rw [List.take_of_length_le (by omega)] at h4
    by_cases h0 : ids.length = 0
    · have hnil : ids = [] := List.eq_nil_of_length_eq_zero h0
      subst hnil
      ((repeat ((conv => whnf); (first | (refine As.pre ?_; first | refine As.mk rfl ?_) | (refine LetI.pre ?_; first | refine LetI.mk _ rfl ?_) | (refine LetB.pre ?_; first | refine LetB.tt rfl ?_ | refine LetB.decf (by omega) ?_) | (refine Br.pre ?_; first | refine Br.tt rfl ?_ | refine Br.ff rfl ?_) | (refine Ck.pre ?_; first | refine Ck.mk rfl ?_)))); (try (conv => whnf)))
      exact ⟨0, .inl ⟨rfl, h4 rfl⟩, ⟨[(8, int 0)], [], 1⟩, SW.mk id rfl rfl rfl ⟨.refl _, trivial⟩ trivial, .inl rfl, ⟨_, rfl, rfl⟩, trivial⟩
    obtain ⟨j, hj, hjj⟩ : ∃ j : Nat, j < ids.length ∧ (j : Int) = n.tmod (ids.length : Int) := by
      have a1 := Int.tmod_nonneg (ids.length : Int) hn
      have a2 := Int.tmod_lt_of_pos n (b := (ids.length : Int)) (by omega)
      exact ⟨(n.tmod (ids.length : Int)).toNat, by omega, by omega⟩
    have hnz : ((ids.length : Int) != 0) = true := bne_iff_ne.2 (by omega)
    have hv : int (ids.getD j 0) = Am.part false 1 0 1 ((ids.map int).getD (0 + j) (.sc undef)) := by
      rw [Nat.zero_add, ← mapD (f := int) (0 : Int) hj]; rfl
    have hv2 : int (ids.getD j 0) = (ids.map int).getD (0 + j) (.sc undef) := by rw [Nat.zero_add]; exact mapD 0 hj
    have hr := h3 (ids.getD j 0) (by rw [List.getD_eq_getElem?_getD, List.getElem?_eq_getElem hj]; exact List.getElem_mem _)
    generalize ids.getD j 0 = r at hv hv2 hr
    clear h3 h4
    ((repeat ((conv => whnf); (first | (refine As.pre ?_; first | refine As.mk rfl ?_ | refine As.mk hnz ?_ | (refine As.mk ?_ ?_; · ((repeat' (refine andT ?_ ?_)) <;> (first | rfl | assumption | exact decide_eq_true (by omega) | exact decide_eq_true (by dsimp only; omega) | exact decide_eq_true (by simp; omega) | (simp; done))))) | (refine LetV.pre ?_; first | refine LetV.mk (t := 3) _ hv ?_) | (refine LetI.pre ?_; first | refine LetI.mk (o := some .rem) (j : Int) hjj ?_ | refine LetI.mk _ rfl ?_) | (refine LetB.pre ?_; first | refine LetB.decf (by omega) ?_) | (refine Br.pre ?_; first | refine Br.ff rfl ?_) | (refine Ck.pre ?_; first | refine Ck.mk rfl ?_)))); (try (conv => whnf)))




    exact ⟨r, .inr hr, ⟨[(8, int r)], [], 1⟩, SW.mk id rfl rfl rfl ⟨.refl _, trivial⟩ trivial, .inl rfl, ⟨_, rfl, rfl⟩, trivial⟩
  have hld := ld_en hlt
  have hmem := getD_mem' hlt
  have htk : ∀ x, x ∈ l.take (k + 1) → x ∈ l.take k ∨ x = l.getD k e0 := fun x hx => by
    rw [List.take_succ_eq_append_getElem hlt] at hx
    rcases List.mem_append.1 hx with h | h
    · exact .inl h
    · rw [List.mem_singleton.1 h, List.getD_eq_getElem?_getD, List.getElem?_eq_getElem hlt]; exact .inr rfl
  generalize l.getD k e0 = e at hld hmem htk
  by_cases hs : e.student = st
  · by_cases hk : e.kind = kd
    · have hr := room_int (n := ids.length + 1) (by omega)
      have happ := app_intL ids e.id ids.length rfl
      have hnx := ih (k + 1, ids ++ [e.id]) ⟨by omega, by simp; omega, fun r hr => by
        rcases List.mem_append.1 hr with h | h
        · exact h3 r h
        · exact ⟨e, hmem, hs, hk, (List.mem_singleton.1 h).symm⟩, fun h => by simp at h⟩ (by show l.length - (k + 1) < l.length - k; omega)
      clear ih h3 h4 htk
      ((repeat ((conv => whnf); (first | (refine LetN.pre ?_; first | ((conv => arg 1; whnf); refine LetN.mk ?_)) | (refine As.pre ?_; first | refine As.mk rfl ?_ | (refine As.mk ?_ ?_; · ((repeat' (refine andT ?_ ?_)) <;> (first | rfl | assumption | exact decide_eq_true (by omega) | exact decide_eq_true (by dsimp only; omega) | exact decide_eq_true (by simp; omega) | (simp; done))))) | (refine LetV.pre ?_; first | refine LetV.mk (t := 44) _ hld ?_ | refine LetV.mk (.sc (.int _ _)) rfl ?_) | (refine LetI.pre ?_; first | refine LetI.wrap (by omega) (by omega) ?_ | refine LetI.mk _ rfl ?_) | (refine LetB.pre ?_; first | refine LetB.dect (by omega) ?_) | (refine Gd.pre ?_; first | refine Gd.run rfl ?_) | (refine Br.pre ?_; first | refine Br.tt rfl ?_) | (refine Ck.pre ?_; first | refine Ck.mk rfl ?_) | (refine LetL.pre ?_; first | refine LetL.mk (ty := 3) _ happ ?_)))); (try (conv => whnf)))


      refine LoopN.weak ?sw2 hnx
      case sw2 => exact SW.mk (fun _ => 1) rfl rfl (namesAll.row (pure_int _) rfl) ⟨.refl _, .refl _, .refl _, .refl _, VLe2.slm_of (by simp), VLe2.int (by omega), trivial⟩ (haveV.row (pure_int _) rfl trivial)
    · have hnx := ih (k + 1, ids) ⟨by omega, by show ids.length ≤ k + 1; omega, h3, fun h x hx hh => by
        rcases htk x hx with hc | hc
        · exact h4 h x hc hh
        · rw [hc] at hh; exact hk hh.2⟩ (by show l.length - (k + 1) < l.length - k; omega)
      clear ih h3 h4 htk
      ((repeat ((conv => whnf); (first | (refine As.pre ?_; first | refine As.mk rfl ?_ | (refine As.mk ?_ ?_; · ((repeat' (refine andT ?_ ?_)) <;> (first | rfl | assumption | exact decide_eq_true (by omega) | exact decide_eq_true (by dsimp only; omega) | exact decide_eq_true (by simp; omega) | (simp; done))))) | (refine LetV.pre ?_; first | refine LetV.mk (t := 44) _ hld ?_ | refine LetV.mk (.sc (.int _ _)) rfl ?_) | (refine LetI.pre ?_; first | refine LetI.wrap (by omega) (by omega) ?_ | refine LetI.mk _ rfl ?_) | (refine LetB.pre ?_; first | refine LetB.dect (by omega) ?_ | refine LetB.decf (by omega) ?_) | (refine Gd.pre ?_; first | refine Gd.run rfl ?_) | (refine Br.pre ?_; first | refine Br.tt rfl ?_ | refine Br.ff rfl ?_) | (refine Ck.pre ?_; first | refine Ck.mk rfl ?_)))); (try (conv => whnf)))
      refine LoopN.weak ?sw3 hnx
      case sw3 => exact SW.mk id rfl rfl (namesAll.row (pure_int _) rfl) ⟨.refl _, .refl _, .refl _, .refl _, .refl _, VLe2.int (by omega), trivial⟩ (haveV.row (pure_int _) rfl trivial)
  · have hnx := ih (k + 1, ids) ⟨by omega, by show ids.length ≤ k + 1; omega, h3, fun h x hx hh => by
      rcases htk x hx with hc | hc
      · exact h4 h x hc hh
      · rw [hc] at hh; exact hs hh.1⟩ (by show l.length - (k + 1) < l.length - k; omega)
    clear ih h3 h4 htk
    ((repeat ((conv => whnf); (first | (refine As.pre ?_; first | refine As.mk rfl ?_ | (refine As.mk ?_ ?_; · ((repeat' (refine andT ?_ ?_)) <;> (first | rfl | assumption | exact decide_eq_true (by omega) | exact decide_eq_true (by dsimp only; omega) | exact decide_eq_true (by simp; omega) | (simp; done))))) | (refine LetV.pre ?_; first | refine LetV.mk (t := 44) _ hld ?_ | refine LetV.mk (.sc (.int _ _)) rfl ?_) | (refine LetI.pre ?_; first | refine LetI.wrap (by omega) (by omega) ?_ | refine LetI.mk _ rfl ?_) | (refine LetB.pre ?_; first | refine LetB.dect (by omega) ?_ | refine LetB.decf (by omega) ?_) | (refine Gd.pre ?_; first | refine Gd.pass rfl ?_) | (refine Br.pre ?_; first | refine Br.tt rfl ?_ | refine Br.ff rfl ?_) | (refine Ck.pre ?_; first | refine Ck.mk rfl ?_)))); (try (conv => whnf)))
    refine LoopN.weak ?sw4 hnx
    case sw4 => exact SW.mk id rfl rfl (namesAll.row (pure_int _) rfl) ⟨.refl _, .refl _, .refl _, .refl _, .refl _, VLe2.int (by omega), trivial⟩ (haveV.row (pure_int _) rfl trivial)
end En
end Go.Proofs.YtgnakhljdjekbaaDoor
namespace Go.Proofs.YtgnakhljdjekbaaDoor
open Go.Proofs.YtgnakhljdjekbaaDoor.Am
set_option maxRecDepth 100000
namespace En
def refsK (k : Int) : Prop := k = 4 ∨ k = 5 ∨ k = 6 ∨ k = 9
instance (k : Int) : Decidable (refsK k) := by unfold refsK; infer_instance
def tgtM (k : Int) : Int := if k = 6 then 5 else if k = 9 then 8 else 3
/-- What is known of a made entry. -/
structure EOk (sc day : Int) (e : E) : Prop where
  school : e.school = sc
  student : 1 ≤ e.student ∧ e.student ≤ 3
  kind : 1 ≤ e.kind ∧ e.kind ≤ 9
  day : 0 ≤ e.day ∧ e.day ≤ day
  on : 0 ≤ e.on_ ∧ e.on_ ≤ e.day
  course : e.course.size ≤ 2
  credits : 0 ≤ e.credits ∧ e.credits ≤ 10
  grade : 0 ≤ e.grade ∧ e.grade ≤ 100
  programme : 0 ≤ e.programme ∧ e.programme ≤ 2
  version : 0 ≤ e.version ∧ e.version ≤ 3
  frm : 0 ≤ e.frm ∧ e.frm ≤ 3
  key : e.key = 0
  mark : e.mark = ⟨#[]⟩
  k3 : e.kind = 3 → 5 ≤ e.credits ∧ (sc = 2 → 1 ≤ e.grade ∧ e.grade ≤ 5) ∧ (sc = 3 → e.grade ≤ 20)
  ref0 : ¬refsK e.kind → e.ref = 0
theorem EOk.mono {sc day day' : Int} {e : E} (h : EOk sc day e) (hd : day ≤ day') : EOk sc day' e := { h with day := ⟨h.day.1, by have := h.day.2; omega⟩ }
/-- What is known of made entries. -/
structure M10 (sc day : Int) (out : List E) : Prop where
  ids : ∀ i, i < out.length → (out.getD i e0).id = i + 1
  ok : ∀ e ∈ out, EOk sc day e
  days : out.Pairwise fun a b => a.day ≤ b.day
  refs : ∀ i, i < out.length → refsK (out.getD i e0).kind → ∃ j, j < i ∧ (out.getD j e0).id = (out.getD i e0).ref ∧ (out.getD j e0).student = (out.getD i e0).student ∧ (out.getD j e0).kind = tgtM (out.getD i e0).kind ∧ (out.getD j e0).on_ ≤ (out.getD i e0).on_
theorem M10.nil (sc : Int) : M10 sc 0 [] := ⟨fun i h => by simp at h, fun e h => by simp at h, List.Pairwise.nil, fun i h => by simp at h⟩
theorem M10.mono {sc day day' : Int} {out : List E} (h : M10 sc day out) (hd : day ≤ day') : M10 sc day' out := ⟨h.ids, fun e he => (h.ok e he).mono hd, h.days, h.refs⟩
theorem M10.add {sc day day' : Int} {out : List E} {e : E} (h : M10 sc day out) (he : EOk sc day' e) (hd : day ≤ day') (hid : e.id = out.length + 1) (hday : e.day = day') (hr : refsK e.kind → ∃ x ∈ out, x.student = e.student ∧ x.kind = tgtM e.kind ∧ x.id = e.ref ∧ x.on_ ≤ e.on_) : M10 sc day' (out ++ [e]) := by
  have at1 : ∀ i, i < out.length → (out ++ [e]).getD i e0 = out.getD i e0 := fun i hi => getD_app1 hi
  have at2 : (out ++ [e]).getD out.length e0 = e := getD_app2 (i := 0) rfl
  refine ⟨fun i hi => ?_, fun x hx => ?_, ?_, fun i hi hk => ?_⟩
  · rw [List.length_append, List.length_singleton] at hi
    by_cases h1 : i < out.length
    · rw [at1 i h1]; exact h.ids i h1
    · have : i = out.length := by omega
      subst this
      rw [at2]; exact hid
  · rcases List.mem_append.1 hx with h1 | h1
    · exact (h.ok x h1).mono hd
    · rw [List.mem_singleton.1 h1]; exact he
  · refine List.pairwise_append.2 ⟨h.days, List.pairwise_singleton _ _, fun a ha b hb => ?_⟩
    rw [List.mem_singleton.1 hb, hday]
    have := (h.ok a ha).day.2
    omega
  · rw [List.length_append, List.length_singleton] at hi
    by_cases h1 : i < out.length
    · rw [at1 i h1] at hk ⊢
      obtain ⟨j, j1, j2⟩ := h.refs i h1 hk
      refine ⟨j, j1, ?_⟩
      rw [at1 j (by omega)]
      exact j2
    · have : i = out.length := by omega
      subst this
      rw [at2] at hk ⊢
      obtain ⟨x, hx, x1, x2, x3, x4⟩ := hr hk
      obtain ⟨j, hj, rfl⟩ := List.getElem_of_mem hx
      have hg : out.getD j e0 = out[j] := by rw [List.getD_eq_getElem?_getD, List.getElem?_eq_getElem hj]; rfl
      exact ⟨j, hj, by rw [at1 j hj, hg]; exact ⟨x3, x1, x2, x4⟩⟩
theorem M10.onP {sc day : Int} {out : List E} (h : M10 sc day out) (id : Int) (hd : 0 ≤ day) : 0 ≤ onP out id ∧ onP out id ≤ day := by
  unfold En.onP
  split
  · rename_i e he
    have := h.ok e (List.mem_of_find?_eq_some he)
    have h1 := this.on
    have h2 := this.day
    omega
  · omega
theorem M10.onP_at {sc day : Int} {out : List E} (h : M10 sc day out) {x : E} (hx : x ∈ out) : En.onP out x.id = x.on_ := by
  unfold En.onP
  cases hf : out.find? (fun e => decide (e.id = x.id)) with
  | none => have := List.find?_eq_none.1 hf x hx; simp at this
  | some e =>
    have h1 := List.find?_some hf
    have h2 := List.mem_of_find?_eq_some hf
    have h1 : e.id = x.id := of_decide_eq_true h1
    obtain ⟨i, hi, rfl⟩ := List.getElem_of_mem h2
    obtain ⟨j, hj, rfl⟩ := List.getElem_of_mem hx
    have a := h.ids i hi
    have b := h.ids j hj
    rw [List.getD_eq_getElem?_getD, List.getElem?_eq_getElem hi] at a
    rw [List.getD_eq_getElem?_getD, List.getElem?_eq_getElem hj] at b
    simp only [Option.getD_some] at a b
    have : i = j := by omega
    subst this; rfl
theorem kinds_get (n : Int) (h : 0 ≤ n ∧ n < 15) : ∃ c : Int, (1 ≤ c ∧ c ≤ 9) ∧ int c = ([int 1, int 3, int 3, int 3, int 3, int 3, int 4, int 5, int 6, int 7, int 8, int 9, int 2, int 3, int 8] : List AV).getD n.toNat (.sc undef) := by
  obtain ⟨m, rfl⟩ : ∃ m : Nat, n = m := ⟨n.toNat, by omega⟩
  have : m = 0 ∨ m = 1 ∨ m = 2 ∨ m = 3 ∨ m = 4 ∨ m = 5 ∨ m = 6 ∨ m = 7 ∨ m = 8 ∨ m = 9 ∨ m = 10 ∨ m = 11 ∨ m = 12 ∨ m = 13 ∨ m = 14 := by omega
  rcases this with rfl | rfl | rfl | rfl | rfl | rfl | rfl | rfl | rfl | rfl | rfl | rfl | rfl | rfl | rfl <;> exact ⟨_, by decide, rfl⟩
theorem cred_get3 (n : Int) (h : 0 ≤ n ∧ n < 3) : ∃ c : Int, (5 ≤ c ∧ c ≤ 10) ∧ int c = ([int 5, int 6, int 10] : List AV).getD n.toNat (.sc undef) := by
  obtain ⟨m, rfl⟩ : ∃ m : Nat, n = m := ⟨n.toNat, by omega⟩
  have : m = 0 ∨ m = 1 ∨ m = 2 := by omega
  rcases this with rfl | rfl | rfl <;> exact ⟨_, by decide, rfl⟩
abbrev mtS (sc : Int) (fl : Fl) (xs : List Int) (many : Int) : Nat × Int × Nat × List E → AS
  | (k, day, at_, out) => ⟨[(1, int sc), (5, .ptr 0 2 0 0), (6, .slm {} 1 15 0 out.length), (7, int day), (8, int many), (9, int k)], [(0, drawB fl xs at_), (1, .row 15 ety (out.map en))], 2⟩
abbrev mtE (sc : Int) (fl : Fl) (xs : List Int) (many : Int) (k : Nat) (day : Int) (at_ : Nat) (out : List E) (early n : Int) (e : E) : AS :=
  ⟨[(1, int sc), (5, .ptr 0 2 0 0), (6, .slm {} 1 15 0 out.length), (7, int day), (8, int many), (9, int k), (10, .ptr 2 15 0 0), (11, int early), (12, int n)], [(0, drawB fl xs at_), (1, .row 15 ety (out.map en)), (2, .row 15 ety [en e])], 3⟩
abbrev mtB (sc : Int) (fl : Fl) (xs : List Int) (many : Int) (k : Nat) (day : Int) (at_ : Nat) (out : List E) (early n : Int) (e : E) (b : Bool) : AS :=
  ⟨[(1, int sc), (5, .ptr 0 2 0 0), (6, .slm {} 1 15 0 out.length), (7, int day), (8, int many), (9, int k), (10, .ptr 2 15 0 0), (11, int early), (12, int n), (13, bool b)], [(0, drawB fl xs at_), (1, .row 15 ety (out.map en)), (2, .row 15 ety [en e])], 3⟩
set_option maxHeartbeats 6400000 in
set_option maxRecDepth 100000 in
theorem Made10_s (xs : List Int) (fl : Fl) (hx : xs.length ≤ 9223372036854775807) (sc : Int) (hsc : 1 ≤ sc ∧ sc ≤ 3) : ∃ l : List E, (l.length ≤ 24 ∧ M10 sc 600 l) ∧
    AFun Tryd.prog 9 0 [.ro fl 1 (xs.map int), int sc] [] (.slm {} 0 15 0 l.length) [(0, .row 15 ety (l.map en))] := by
  refine AFun.of_SE T_ok mixed (v := fun l : List E => .slm {} 0 15 0 l.length) (H' := fun l : List E => [(0, .row 15 ety (l.map en))]) Tryd.func9 rfl (Nat.le_of_ble_eq_true rfl) rfl ?_
  obtain ⟨v0, a0, r0, q0, N0⟩ := made_next fl xs hx 0 25 (Nat.zero_le _) (by omega)
  ((repeat ((conv => whnf); (first | (refine LetN.pre ?_; first | ((conv => arg 1; whnf); refine LetN.mk ?_)) | (refine As.pre ?_; first | refine As.mk rfl ?_) | (refine Ck.pre ?_; first | refine Ck.mk rfl ?_) | (refine LetL.pre ?_; first | refine LetL.mk [_] rfl ?_) | (refine CallN.pre ?_; first | refine CallN.own (fun _ => 0) N0 (CallOk.mk' rfl rfl rfl (namesAll.row rfl rfl) rfl (namesAll.row rfl rfl) (haveAll.row rfl rfl trivial)) ?_)))); (try (conv => whnf)))


  refine LoopN.weak (s1 := mtS sc fl xs v0 (0, 0, a0, [])) ?sw1 ?_
  case sw1 => exact SW.mk id rfl rfl rfl ⟨.refl _, .refl _, VLe2.nilslm, .refl _, .refl _, .refl _, trivial⟩ (haveV.row rfl rfl (haveV.nil (Nat.le_of_ble_eq_true rfl) trivial))
  refine LoopN.indS (S := mtS sc fl xs v0) (fun i => 24 - i.1) (fun i => (i.1 : Int) ≤ v0 ∧ (0 ≤ i.2.1 ∧ i.2.1 ≤ 24 * (i.1 : Int)) ∧ i.2.2.1 ≤ xs.length ∧ i.2.2.2.length = i.1 ∧ M10 sc i.2.1 i.2.2.2) (fun i hi ih => ?_) (0, 0, a0, []) ⟨by show (0 : Int) ≤ v0; omega, ⟨by show (0 : Int) ≤ 0; omega, by show (0 : Int) ≤ 24 * 0; omega⟩, q0, rfl, M10.nil sc⟩
  clear q0 N0
  clear a0
  obtain ⟨k, day, at_, out⟩ := i
  obtain ⟨h1, h2, h3, h4, hM⟩ := hi
  simp only at h1 h2 h3 h4 hM
  have hml : (out.map en).length = out.length := List.length_map _
  by_cases hlt : (k : Int) < v0
  case neg =>
    clear ih
    refine VS.of_V T_ok mixed rfl ?_
    ((repeat ((conv => whnf); (first | (refine As.pre ?_; first | refine As.mk rfl ?_) | (refine LetB.pre ?_; first | refine LetB.decf (by omega) ?_) | (refine Br.pre ?_; first | refine Br.ff rfl ?_) | (refine Ck.pre ?_; first | refine Ck.mk rfl ?_)))); (try (conv => whnf)))
    exact ⟨out, ⟨by omega, hM.mono (by omega)⟩, ⟨[(4, .slm {} 0 15 0 out.length)], [(0, .row 15 ety (out.map en))], 1⟩, SW.mk (fun _ => 1) rfl rfl (namesAll.row (pure_en _) rfl) ⟨.refl _, trivial⟩ (haveV.row (pure_en _) rfl trivial), .inl rfl, ⟨_, rfl, rfl⟩, rfl, trivial⟩
  obtain ⟨v1, a1, r1, q1, N1⟩ := made_next fl xs hx at_ 25 h3 (by omega)
  obtain ⟨v2, a2, r2, q2, N2⟩ := made_next fl xs hx a1 3 q1 (by omega)
  obtain ⟨v3, a3, r3, q3, N3⟩ := made_next fl xs hx a2 15 q2 (by omega)
  obtain ⟨v4, a4, r4, q4, N4⟩ := made_next fl xs hx a3 3 q3 (by omega)
  obtain ⟨v5, a5, r5, q5, N5⟩ := made_next fl xs hx a4 120 q4 (by omega)
  obtain ⟨n, a6, r6, q6, N6⟩ := made_next fl xs hx a5 30 q5 (by omega)
  obtain ⟨kd, hkd, hkv⟩ := kinds_get v3 r3
  have hmul : 0 ≤ v4 * v5 ∧ v4 * v5 ≤ 238 := by
    have : v4 = 0 ∨ v4 = 1 ∨ v4 = 2 := by omega
    rcases this with rfl | rfl | rfl <;> omega
  obtain ⟨early, hearly⟩ : ∃ early, early = v4 * v5 := ⟨_, rfl⟩
  have hew : early = IntKind.i64.wrap (v4 * v5) := by rw [wrap_id (by omega) (by omega)]; exact hearly
  refine VS.cut T_ok mixed rfl ?_
  ((repeat ((conv => whnf); (first | (refine As.pre ?_; first | refine As.mk rfl ?_) | (refine LetB.pre ?_; first | refine LetB.dect (by omega) ?_) | (refine Br.pre ?_; first | refine Br.tt rfl ?_) | (refine Ck.pre ?_; first | refine Ck.mk rfl ?_)))); (try (conv => whnf)))
  refine VS.seq (VS.block ?_)
  refine VS.cut T_ok mixed rfl ?_
  ((repeat ((conv => whnf); (first | (refine LetN.pre ?_; first | ((conv => arg 1; whnf); refine LetN.mk ?_)) | (refine As.pre ?_; first | refine As.mk rfl ?_) | (refine LetI.pre ?_; first | refine LetI.wrap (by omega) (by omega) ?_) | (refine Ck.pre ?_; first | refine Ck.mk rfl ?_) | (refine LetL.pre ?_; first | refine LetL.mk [_] rfl ?_) | (refine CallN.pre ?_; first | refine CallN.own (fun _ => 0) N1 (CallOk.mk' rfl rfl rfl (namesAll.row rfl rfl) rfl (namesAll.row rfl rfl) (haveAll.row rfl rfl trivial)) ?_)))); (try (conv => whnf)))


  refine VS.cut T_ok mixed rfl ?_
  ((repeat ((conv => whnf); (first | (refine LetN.pre ?_; first | ((conv => arg 1; whnf); refine LetN.mk ?_)) | (refine As.pre ?_; first | refine As.mk rfl ?_) | (refine LetI.pre ?_; first | refine LetI.wrap (by omega) (by omega) ?_) | (refine Ck.pre ?_; first | refine Ck.mk rfl ?_) | (refine LetL.pre ?_; first | refine LetL.mk (ty := ety) [.agg [_, _, _, _, _, _, _, _, _, _, _, _, _, _, _]] rfl ?_ | refine LetL.mk [_] rfl ?_) | (refine CallN.pre ?_; first | refine CallN.own (fun _ => 0) N2 (CallOk.mk' rfl rfl rfl (namesAll.row rfl rfl) rfl (namesAll.row rfl rfl) (haveAll.row rfl rfl trivial)) ?_)))); (try (conv => whnf)))


  refine VS.cut T_ok mixed rfl ?_
  ((repeat ((conv => whnf); (first | (refine LetN.pre ?_; first | ((conv => arg 1; whnf); refine LetN.mk ?_)) | (refine As.pre ?_; first | refine As.mk rfl ?_ | (refine As.mk ?_ ?_; · ((repeat' (refine andT ?_ ?_)) <;> (first | rfl | assumption | exact decide_eq_true (by omega) | exact decide_eq_true (by dsimp only; omega) | exact decide_eq_true (by simp; omega) | (simp; done))))) | (refine LetV.pre ?_; first | refine LetV.mk (t := 39) _ hkv ?_ | refine LetV.mk (.sc (.int _ _)) rfl ?_) | (refine Ck.pre ?_; first | refine Ck.mk rfl ?_) | (refine LetL.pre ?_; first | refine LetL.mk (ty := ety) [.agg [_, _, _, _, _, _, _, _, _, _, _, _, _, _, _]] rfl ?_ | refine LetL.mk [_] rfl ?_) | (refine CallN.pre ?_; first | refine CallN.own (fun _ => 0) N3 (CallOk.mk' rfl rfl rfl (namesAll.row rfl rfl) rfl (namesAll.row rfl rfl) (haveAll.row rfl rfl trivial)) ?_)))); (try (conv => whnf)))



  refine VS.cut T_ok mixed rfl ?_
  ((repeat ((conv => whnf); (first | (refine LetN.pre ?_; first | ((conv => arg 1; whnf); refine LetN.mk ?_)) | (refine As.pre ?_; first | refine As.mk rfl ?_) | (refine LetI.pre ?_; first | refine LetI.mk (o := some .mul) early hew ?_) | (refine Ck.pre ?_; first | refine Ck.mk rfl ?_) | (refine LetL.pre ?_; first | refine LetL.mk [_] rfl ?_) | (refine CallN.pre ?_; first | refine CallN.own (fun _ => 0) N4 (CallOk.mk' rfl rfl rfl (namesAll.row rfl rfl) rfl (namesAll.row rfl rfl) (haveAll.row rfl rfl trivial)) ?_ | refine CallN.own (fun _ => 0) N5 (CallOk.mk' rfl rfl rfl (namesAll.row rfl rfl) rfl (namesAll.row rfl rfl) (haveAll.row rfl rfl trivial)) ?_)))); (try (conv => whnf)))




  refine VS.cut T_ok mixed rfl ?_
  ((repeat ((conv => whnf); (first | (refine LetN.pre ?_; first | ((conv => arg 1; whnf); refine LetN.mk ?_)) | (refine As.pre ?_; first | refine As.mk rfl ?_) | (refine Ck.pre ?_; first | refine Ck.mk rfl ?_) | (refine LetL.pre ?_; first | refine LetL.mk [_] rfl ?_) | (refine CallN.pre ?_; first | refine CallN.own (fun _ => 0) N6 (CallOk.mk' rfl rfl rfl (namesAll.row rfl rfl) rfl (namesAll.row rfl rfl) (haveAll.row rfl rfl trivial)) ?_)))); (try (conv => whnf)))


  obtain ⟨day', hday'⟩ : ∃ day', day' = day + v1 := ⟨_, rfl⟩
  rw [← hday']
  refine VS.weak (s1 := mtE sc fl xs v0 k day' a6 out early n ⟨(k : Int) + 1, sc, 1 + v2, kd, day', 0, ⟨#[]⟩, 0, 0, 0, 0, 0, 0, 0, ⟨#[]⟩⟩) ?swa ?_
  case swa => exact SW.mk id rfl rfl (namesAll.row rfl (namesAll.row (pure_en _) (namesAll.row rfl rfl))) ⟨.refl _, .refl _, .refl _, .refl _, .refl _, .refl _, .refl _, .refl _, .refl _, trivial⟩ (haveV.row rfl rfl (haveV.row (pure_en _) rfl (haveV.row rfl rfl trivial)))
  clear N1 N2 N3 N4 N5 N6 hkv hew q1 q2 q3 q4 q5
  obtain ⟨st, hst⟩ : ∃ st : Int, st = 1 + v2 := ⟨_, rfl⟩
  rw [← hst]
  have hst3 : 1 ≤ st ∧ st ≤ 3 := by omega
  have b2 := tmod_bound n (m := 2) (by omega)
  have p2 := tmod_pos 2 r6.1
  have b3 := tmod_bound n (m := 3) (by omega)
  have p3 := tmod_pos 3 r6.1
  have b6 := tmod_bound n (m := 6) (by omega)
  have p6 := tmod_pos 6 r6.1
  have c3 := tmod_bound sc (m := 3) (by omega)
  have cp3 := tmod_pos 3 (a := sc) (by omega)
  refine VS.joinN (fun y : Int × Int × Int × Int => mtE sc fl xs v0 k day' a6 out early n ⟨(k : Int) + 1, sc, st, kd, day', 0, ⟨#[]⟩, 0, 0, y.1, y.2.2.2, y.2.1, y.2.2.1, 0, ⟨#[]⟩⟩) (fun y => (refsK kd → (y.1 = 0 ∨ ∃ x ∈ out, x.student = st ∧ x.kind = tgtM kd ∧ x.id = y.1)) ∧ (¬refsK kd → y.1 = 0) ∧ (0 ≤ y.2.1 ∧ y.2.1 ≤ 2) ∧ (0 ≤ y.2.2.1 ∧ y.2.2.1 ≤ 3) ∧ 0 ≤ y.2.2.2 ∧ y.2.2.2 ≤ 3) ?_ ?_
  · clear ih
    refine VS.of_V T_ok mixed rfl ?_
    obtain h | h | h | h | h | h | h | h | h : kd = 1 ∨ kd = 2 ∨ kd = 3 ∨ kd = 4 ∨ kd = 5 ∨ kd = 6 ∨ kd = 7 ∨ kd = 8 ∨ kd = 9 := by omega
    · subst h
      ((repeat ((conv => whnf); (first | (refine LetN.pre ?_; first | ((conv => arg 1; whnf); refine LetN.mk ?_)) | (refine As.pre ?_; first | refine As.mk rfl ?_) | (refine LetV.pre ?_; first | refine LetV.mk (.sc (.int _ _)) rfl ?_) | (refine LetI.pre ?_; first | refine LetI.wrap (by omega) (by omega) ?_ | refine LetI.mk _ rfl ?_) | (refine LetB.pre ?_; first | refine LetB.tt rfl ?_ | refine LetB.ff rfl ?_) | (refine Br.pre ?_; first | refine Br.tt rfl ?_ | refine Br.ff rfl ?_) | (refine Ck.pre ?_; first | refine Ck.mk rfl ?_) | (refine LetL.pre ?_; first | refine LetL.mk (ty := ety) [.agg [_, _, _, _, _, _, _, _, _, _, _, _, _, _, _]] rfl ?_)))); (try (conv => whnf)))

      exact ⟨rfl, (0, 1 + n.tmod 2, 0, 0), ⟨fun h => absurd h (by decide), fun _ => rfl, by dsimp only; omega, by dsimp only; omega, by dsimp only; omega⟩, SW.mk id rfl rfl (namesAll.row rfl (namesAll.row (pure_en _) (namesAll.row rfl rfl))) ⟨.refl _, .refl _, .refl _, .refl _, .refl _, .refl _, .refl _, .refl _, .refl _, trivial⟩ (haveV.row rfl rfl (haveV.row (pure_en _) rfl (haveV.row rfl rfl trivial)))⟩
    · subst h
      ((repeat ((conv => whnf); (first | (refine LetN.pre ?_; first | ((conv => arg 1; whnf); refine LetN.mk ?_)) | (refine As.pre ?_; first | refine As.mk rfl ?_) | (refine LetV.pre ?_; first | refine LetV.mk (.sc (.int _ _)) rfl ?_) | (refine LetI.pre ?_; first | refine LetI.wrap (by omega) (by omega) ?_ | refine LetI.mk _ rfl ?_) | (refine LetB.pre ?_; first | refine LetB.tt rfl ?_ | refine LetB.ff rfl ?_) | (refine Br.pre ?_; first | refine Br.tt rfl ?_ | refine Br.ff rfl ?_) | (refine Ck.pre ?_; first | refine Ck.mk rfl ?_) | (refine LetL.pre ?_; first | refine LetL.mk (ty := ety) [.agg [_, _, _, _, _, _, _, _, _, _, _, _, _, _, _]] rfl ?_)))); (try (conv => whnf)))

      exact ⟨rfl, (0, 1 + n.tmod 2, 1 + n.tmod 3, 0), ⟨fun h => absurd h (by decide), fun _ => rfl, by dsimp only; omega, by dsimp only; omega, by dsimp only; omega⟩, SW.mk id rfl rfl (namesAll.row rfl (namesAll.row (pure_en _) (namesAll.row rfl rfl))) ⟨.refl _, .refl _, .refl _, .refl _, .refl _, .refl _, .refl _, .refl _, .refl _, trivial⟩ (haveV.row rfl rfl (haveV.row (pure_en _) rfl (haveV.row rfl rfl trivial)))⟩
    · subst h
      ((repeat ((conv => whnf); (first | (refine As.pre ?_; first | refine As.mk rfl ?_) | (refine LetV.pre ?_; first | refine LetV.mk (.sc (.int _ _)) rfl ?_) | (refine LetB.pre ?_; first | refine LetB.ff rfl ?_) | (refine Br.pre ?_; first | refine Br.ff rfl ?_) | (refine Ck.pre ?_; first | refine Ck.mk rfl ?_)))); (try (conv => whnf)))

      exact ⟨rfl, (0, 0, 0, 0), ⟨fun h => absurd h (by decide), fun _ => rfl, by dsimp only; omega, by dsimp only; omega, by dsimp only; omega⟩, SW.mk id rfl rfl (namesAll.row rfl (namesAll.row (pure_en _) (namesAll.row rfl rfl))) ⟨.refl _, .refl _, .refl _, .refl _, .refl _, .refl _, .refl _, .refl _, .refl _, trivial⟩ (haveV.row rfl rfl (haveV.row (pure_en _) rfl (haveV.row rfl rfl trivial)))⟩
    · subst h
      obtain ⟨r, hr, hp⟩ := pick_f out st 3 n {} (by omega) r6.1
      ((repeat ((conv => whnf); (first | (refine LetN.pre ?_; first | ((conv => arg 1; whnf); refine LetN.mk ?_)) | (refine As.pre ?_; first | refine As.mk rfl ?_) | (refine LetV.pre ?_; first | refine LetV.mk (.sc (.int _ _)) rfl ?_) | (refine LetB.pre ?_; first | refine LetB.tt rfl ?_) | (refine Br.pre ?_; first | refine Br.tt rfl ?_) | (refine Ck.pre ?_; first | refine Ck.mk rfl ?_) | (refine LetL.pre ?_; first | refine LetL.mk (ty := ety) [.agg [_, _, _, _, _, _, _, _, _, _, _, _, _, _, _]] rfl ?_) | (refine CallN.pre ?_; first | refine CallN.lend hp rfl (.full rfl (pure_en _) hml.symm (.same rfl (.same rfl (.same rfl .nil)))) ?_)))); (try (conv => whnf)))


      exact ⟨rfl, (r, 0, 0, 0), ⟨fun _ => hr.imp (fun h => h.1) id, fun h => absurd (by decide) h, by dsimp only; omega, by dsimp only; omega, by dsimp only; omega⟩, SW.mk id rfl rfl (namesAll.row rfl (namesAll.row (pure_en _) (namesAll.row rfl rfl))) ⟨.refl _, .refl _, .refl _, .refl _, .refl _, .refl _, .refl _, .refl _, .refl _, trivial⟩ (haveV.row rfl rfl (haveV.row (pure_en _) rfl (haveV.row rfl rfl trivial)))⟩
    · subst h
      obtain ⟨r, hr, hp⟩ := pick_f out st 3 n {} (by omega) r6.1
      ((repeat ((conv => whnf); (first | (refine LetN.pre ?_; first | ((conv => arg 1; whnf); refine LetN.mk ?_)) | (refine As.pre ?_; first | refine As.mk rfl ?_) | (refine LetV.pre ?_; first | refine LetV.mk (.sc (.int _ _)) rfl ?_) | (refine LetB.pre ?_; first | refine LetB.tt rfl ?_ | refine LetB.ff rfl ?_) | (refine Br.pre ?_; first | refine Br.tt rfl ?_ | refine Br.ff rfl ?_) | (refine Ck.pre ?_; first | refine Ck.mk rfl ?_) | (refine LetL.pre ?_; first | refine LetL.mk (ty := ety) [.agg [_, _, _, _, _, _, _, _, _, _, _, _, _, _, _]] rfl ?_) | (refine CallN.pre ?_; first | refine CallN.lend hp rfl (.full rfl (pure_en _) hml.symm (.same rfl (.same rfl (.same rfl .nil)))) ?_)))); (try (conv => whnf)))


      exact ⟨rfl, (r, 0, 0, 0), ⟨fun _ => hr.imp (fun h => h.1) id, fun h => absurd (by decide) h, by dsimp only; omega, by dsimp only; omega, by dsimp only; omega⟩, SW.mk id rfl rfl (namesAll.row rfl (namesAll.row (pure_en _) (namesAll.row rfl rfl))) ⟨.refl _, .refl _, .refl _, .refl _, .refl _, .refl _, .refl _, .refl _, .refl _, trivial⟩ (haveV.row rfl rfl (haveV.row (pure_en _) rfl (haveV.row rfl rfl trivial)))⟩
    · subst h
      obtain ⟨r, hr, hp⟩ := pick_f out st 5 n {} (by omega) r6.1
      ((repeat ((conv => whnf); (first | (refine LetN.pre ?_; first | ((conv => arg 1; whnf); refine LetN.mk ?_)) | (refine As.pre ?_; first | refine As.mk rfl ?_) | (refine LetV.pre ?_; first | refine LetV.mk (.sc (.int _ _)) rfl ?_) | (refine LetB.pre ?_; first | refine LetB.tt rfl ?_ | refine LetB.ff rfl ?_) | (refine Br.pre ?_; first | refine Br.tt rfl ?_ | refine Br.ff rfl ?_) | (refine Ck.pre ?_; first | refine Ck.mk rfl ?_) | (refine LetL.pre ?_; first | refine LetL.mk (ty := ety) [.agg [_, _, _, _, _, _, _, _, _, _, _, _, _, _, _]] rfl ?_) | (refine CallN.pre ?_; first | refine CallN.lend hp rfl (.full rfl (pure_en _) hml.symm (.same rfl (.same rfl (.same rfl .nil)))) ?_)))); (try (conv => whnf)))


      exact ⟨rfl, (r, 0, 0, 0), ⟨fun _ => hr.imp (fun h => h.1) id, fun h => absurd (by decide) h, by dsimp only; omega, by dsimp only; omega, by dsimp only; omega⟩, SW.mk id rfl rfl (namesAll.row rfl (namesAll.row (pure_en _) (namesAll.row rfl rfl))) ⟨.refl _, .refl _, .refl _, .refl _, .refl _, .refl _, .refl _, .refl _, .refl _, trivial⟩ (haveV.row rfl rfl (haveV.row (pure_en _) rfl (haveV.row rfl rfl trivial)))⟩
    · subst h
      ((repeat ((conv => whnf); (first | (refine LetN.pre ?_; first | ((conv => arg 1; whnf); refine LetN.mk ?_)) | (refine As.pre ?_; first | refine As.mk rfl ?_) | (refine LetV.pre ?_; first | refine LetV.mk (.sc (.int _ _)) rfl ?_) | (refine LetI.pre ?_; first | refine LetI.wrap (by omega) (by omega) ?_ | refine LetI.mk _ rfl ?_) | (refine LetB.pre ?_; first | refine LetB.tt rfl ?_ | refine LetB.ff rfl ?_) | (refine Br.pre ?_; first | refine Br.tt rfl ?_ | refine Br.ff rfl ?_) | (refine Ck.pre ?_; first | refine Ck.mk rfl ?_) | (refine LetL.pre ?_; first | refine LetL.mk (ty := ety) [.agg [_, _, _, _, _, _, _, _, _, _, _, _, _, _, _]] rfl ?_)))); (try (conv => whnf)))

      exact ⟨rfl, (0, 0, 0, 1 + sc.tmod 3), ⟨fun h => absurd h (by decide), fun _ => rfl, by dsimp only; omega, by dsimp only; omega, by dsimp only; omega⟩, SW.mk id rfl rfl (namesAll.row rfl (namesAll.row (pure_en _) (namesAll.row rfl rfl))) ⟨.refl _, .refl _, .refl _, .refl _, .refl _, .refl _, .refl _, .refl _, .refl _, trivial⟩ (haveV.row rfl rfl (haveV.row (pure_en _) rfl (haveV.row rfl rfl trivial)))⟩
    · subst h
      ((repeat ((conv => whnf); (first | (refine LetN.pre ?_; first | ((conv => arg 1; whnf); refine LetN.mk ?_)) | (refine As.pre ?_; first | refine As.mk rfl ?_) | (refine LetV.pre ?_; first | refine LetV.mk (.sc (.int _ _)) rfl ?_) | (refine LetI.pre ?_; first | refine LetI.wrap (by omega) (by omega) ?_ | refine LetI.mk _ rfl ?_) | (refine LetB.pre ?_; first | refine LetB.tt rfl ?_ | refine LetB.ff rfl ?_) | (refine Br.pre ?_; first | refine Br.tt rfl ?_ | refine Br.ff rfl ?_) | (refine Ck.pre ?_; first | refine Ck.mk rfl ?_) | (refine LetL.pre ?_; first | refine LetL.mk (ty := ety) [.agg [_, _, _, _, _, _, _, _, _, _, _, _, _, _, _]] rfl ?_)))); (try (conv => whnf)))

      exact ⟨rfl, (0, 1 + n.tmod 2, 0, 0), ⟨fun h => absurd h (by decide), fun _ => rfl, by dsimp only; omega, by dsimp only; omega, by dsimp only; omega⟩, SW.mk id rfl rfl (namesAll.row rfl (namesAll.row (pure_en _) (namesAll.row rfl rfl))) ⟨.refl _, .refl _, .refl _, .refl _, .refl _, .refl _, .refl _, .refl _, .refl _, trivial⟩ (haveV.row rfl rfl (haveV.row (pure_en _) rfl (haveV.row rfl rfl trivial)))⟩
    · subst h
      obtain ⟨r, hr, hp⟩ := pick_f out st 8 n {} (by omega) r6.1
      ((repeat ((conv => whnf); (first | (refine LetN.pre ?_; first | ((conv => arg 1; whnf); refine LetN.mk ?_)) | (refine As.pre ?_; first | refine As.mk rfl ?_) | (refine LetV.pre ?_; first | refine LetV.mk (.sc (.int _ _)) rfl ?_) | (refine LetB.pre ?_; first | refine LetB.tt rfl ?_ | refine LetB.ff rfl ?_) | (refine Br.pre ?_; first | refine Br.tt rfl ?_ | refine Br.ff rfl ?_) | (refine Ck.pre ?_; first | refine Ck.mk rfl ?_) | (refine LetL.pre ?_; first | refine LetL.mk (ty := ety) [.agg [_, _, _, _, _, _, _, _, _, _, _, _, _, _, _]] rfl ?_) | (refine CallN.pre ?_; first | refine CallN.lend hp rfl (.full rfl (pure_en _) hml.symm (.same rfl (.same rfl (.same rfl .nil)))) ?_)))); (try (conv => whnf)))


      exact ⟨rfl, (r, 0, 0, 0), ⟨fun _ => hr.imp (fun h => h.1) id, fun h => absurd (by decide) h, by dsimp only; omega, by dsimp only; omega, by dsimp only; omega⟩, SW.mk id rfl rfl (namesAll.row rfl (namesAll.row (pure_en _) (namesAll.row rfl rfl))) ⟨.refl _, .refl _, .refl _, .refl _, .refl _, .refl _, .refl _, .refl _, .refl _, trivial⟩ (haveV.row rfl rfl (haveV.row (pure_en _) rfl (haveV.row rfl rfl trivial)))⟩
  intro y hy
  obtain ⟨y1, y2, y3, y4, y5⟩ := hy
  refine VS.joinN (fun _ : Unit => mtB sc fl xs v0 k day' a6 out early n ⟨(k : Int) + 1, sc, st, kd, day', 0, ⟨#[]⟩, 0, 0, y.1, y.2.2.2, y.2.1, y.2.2.1, 0, ⟨#[]⟩⟩ (decide (refsK kd))) (fun _ => True) ?_ ?_
  · clear ih y1 y2
    refine VS.of_V T_ok mixed rfl ?_
    obtain h | h | h | h | h | h | h | h | h : kd = 1 ∨ kd = 2 ∨ kd = 3 ∨ kd = 4 ∨ kd = 5 ∨ kd = 6 ∨ kd = 7 ∨ kd = 8 ∨ kd = 9 := by omega
    · subst h
      ((repeat ((conv => whnf); (first | (refine As.pre ?_; first | refine As.mk rfl ?_) | (refine LetV.pre ?_; first | refine LetV.mk (.sc (.int _ _)) rfl ?_) | (refine LetB.pre ?_; first | refine LetB.ff rfl ?_) | (refine Gd.pre ?_; first | refine Gd.run rfl ?_) | (refine Ck.pre ?_; first | refine Ck.mk rfl ?_)))); (try (conv => whnf)))
      exact ⟨rfl, (), trivial, SW.mk id rfl rfl (namesAll.row rfl (namesAll.row (pure_en _) (namesAll.row rfl rfl))) ⟨.refl _, .refl _, .refl _, .refl _, .refl _, .refl _, .refl _, .refl _, .refl _, .refl _, trivial⟩ (haveV.row rfl rfl (haveV.row (pure_en _) rfl (haveV.row rfl rfl trivial)))⟩
    · subst h
      ((repeat ((conv => whnf); (first | (refine As.pre ?_; first | refine As.mk rfl ?_) | (refine LetV.pre ?_; first | refine LetV.mk (.sc (.int _ _)) rfl ?_) | (refine LetB.pre ?_; first | refine LetB.ff rfl ?_) | (refine Gd.pre ?_; first | refine Gd.run rfl ?_) | (refine Ck.pre ?_; first | refine Ck.mk rfl ?_)))); (try (conv => whnf)))
      exact ⟨rfl, (), trivial, SW.mk id rfl rfl (namesAll.row rfl (namesAll.row (pure_en _) (namesAll.row rfl rfl))) ⟨.refl _, .refl _, .refl _, .refl _, .refl _, .refl _, .refl _, .refl _, .refl _, .refl _, trivial⟩ (haveV.row rfl rfl (haveV.row (pure_en _) rfl (haveV.row rfl rfl trivial)))⟩
    · subst h
      ((repeat ((conv => whnf); (first | (refine As.pre ?_; first | refine As.mk rfl ?_) | (refine LetV.pre ?_; first | refine LetV.mk (.sc (.int _ _)) rfl ?_) | (refine LetB.pre ?_; first | refine LetB.ff rfl ?_) | (refine Gd.pre ?_; first | refine Gd.run rfl ?_) | (refine Ck.pre ?_; first | refine Ck.mk rfl ?_)))); (try (conv => whnf)))
      exact ⟨rfl, (), trivial, SW.mk id rfl rfl (namesAll.row rfl (namesAll.row (pure_en _) (namesAll.row rfl rfl))) ⟨.refl _, .refl _, .refl _, .refl _, .refl _, .refl _, .refl _, .refl _, .refl _, .refl _, trivial⟩ (haveV.row rfl rfl (haveV.row (pure_en _) rfl (haveV.row rfl rfl trivial)))⟩
    · subst h
      ((repeat ((conv => whnf); (first | (refine As.pre ?_; first | refine As.mk rfl ?_) | (refine LetV.pre ?_; first | refine LetV.mk (.sc (.int _ _)) rfl ?_) | (refine LetB.pre ?_; first | refine LetB.tt rfl ?_) | (refine Gd.pre ?_; first | refine Gd.pass rfl ?_) | (refine Ck.pre ?_; first | refine Ck.mk rfl ?_)))); (try (conv => whnf)))
      exact ⟨rfl, (), trivial, SW.mk id rfl rfl (namesAll.row rfl (namesAll.row (pure_en _) (namesAll.row rfl rfl))) ⟨.refl _, .refl _, .refl _, .refl _, .refl _, .refl _, .refl _, .refl _, .refl _, .refl _, trivial⟩ (haveV.row rfl rfl (haveV.row (pure_en _) rfl (haveV.row rfl rfl trivial)))⟩
    · subst h
      ((repeat ((conv => whnf); (first | (refine As.pre ?_; first | refine As.mk rfl ?_) | (refine LetV.pre ?_; first | refine LetV.mk (.sc (.int _ _)) rfl ?_) | (refine LetB.pre ?_; first | refine LetB.tt rfl ?_ | refine LetB.ff rfl ?_) | (refine Gd.pre ?_; first | refine Gd.run rfl ?_ | refine Gd.pass rfl ?_) | (refine Ck.pre ?_; first | refine Ck.mk rfl ?_)))); (try (conv => whnf)))
      exact ⟨rfl, (), trivial, SW.mk id rfl rfl (namesAll.row rfl (namesAll.row (pure_en _) (namesAll.row rfl rfl))) ⟨.refl _, .refl _, .refl _, .refl _, .refl _, .refl _, .refl _, .refl _, .refl _, .refl _, trivial⟩ (haveV.row rfl rfl (haveV.row (pure_en _) rfl (haveV.row rfl rfl trivial)))⟩
    · subst h
      ((repeat ((conv => whnf); (first | (refine As.pre ?_; first | refine As.mk rfl ?_) | (refine LetV.pre ?_; first | refine LetV.mk (.sc (.int _ _)) rfl ?_) | (refine LetB.pre ?_; first | refine LetB.tt rfl ?_ | refine LetB.ff rfl ?_) | (refine Gd.pre ?_; first | refine Gd.run rfl ?_ | refine Gd.pass rfl ?_) | (refine Ck.pre ?_; first | refine Ck.mk rfl ?_)))); (try (conv => whnf)))
      exact ⟨rfl, (), trivial, SW.mk id rfl rfl (namesAll.row rfl (namesAll.row (pure_en _) (namesAll.row rfl rfl))) ⟨.refl _, .refl _, .refl _, .refl _, .refl _, .refl _, .refl _, .refl _, .refl _, .refl _, trivial⟩ (haveV.row rfl rfl (haveV.row (pure_en _) rfl (haveV.row rfl rfl trivial)))⟩
    · subst h
      ((repeat ((conv => whnf); (first | (refine As.pre ?_; first | refine As.mk rfl ?_) | (refine LetV.pre ?_; first | refine LetV.mk (.sc (.int _ _)) rfl ?_) | (refine LetB.pre ?_; first | refine LetB.ff rfl ?_) | (refine Gd.pre ?_; first | refine Gd.run rfl ?_) | (refine Ck.pre ?_; first | refine Ck.mk rfl ?_)))); (try (conv => whnf)))
      exact ⟨rfl, (), trivial, SW.mk id rfl rfl (namesAll.row rfl (namesAll.row (pure_en _) (namesAll.row rfl rfl))) ⟨.refl _, .refl _, .refl _, .refl _, .refl _, .refl _, .refl _, .refl _, .refl _, .refl _, trivial⟩ (haveV.row rfl rfl (haveV.row (pure_en _) rfl (haveV.row rfl rfl trivial)))⟩
    · subst h
      ((repeat ((conv => whnf); (first | (refine As.pre ?_; first | refine As.mk rfl ?_) | (refine LetV.pre ?_; first | refine LetV.mk (.sc (.int _ _)) rfl ?_) | (refine LetB.pre ?_; first | refine LetB.ff rfl ?_) | (refine Gd.pre ?_; first | refine Gd.run rfl ?_) | (refine Ck.pre ?_; first | refine Ck.mk rfl ?_)))); (try (conv => whnf)))
      exact ⟨rfl, (), trivial, SW.mk id rfl rfl (namesAll.row rfl (namesAll.row (pure_en _) (namesAll.row rfl rfl))) ⟨.refl _, .refl _, .refl _, .refl _, .refl _, .refl _, .refl _, .refl _, .refl _, .refl _, trivial⟩ (haveV.row rfl rfl (haveV.row (pure_en _) rfl (haveV.row rfl rfl trivial)))⟩
    · subst h
      ((repeat ((conv => whnf); (first | (refine As.pre ?_; first | refine As.mk rfl ?_) | (refine LetV.pre ?_; first | refine LetV.mk (.sc (.int _ _)) rfl ?_) | (refine LetB.pre ?_; first | refine LetB.tt rfl ?_ | refine LetB.ff rfl ?_) | (refine Gd.pre ?_; first | refine Gd.run rfl ?_) | (refine Ck.pre ?_; first | refine Ck.mk rfl ?_)))); (try (conv => whnf)))
      exact ⟨rfl, (), trivial, SW.mk id rfl rfl (namesAll.row rfl (namesAll.row (pure_en _) (namesAll.row rfl rfl))) ⟨.refl _, .refl _, .refl _, .refl _, .refl _, .refl _, .refl _, .refl _, .refl _, .refl _, trivial⟩ (haveV.row rfl rfl (haveV.row (pure_en _) rfl (haveV.row rfl rfl trivial)))⟩
  intro _ _
  refine VS.joinN (fun kd' : Int => mtE sc fl xs v0 k day' a6 out early n ⟨(k : Int) + 1, sc, st, kd', day', 0, ⟨#[]⟩, 0, 0, y.1, y.2.2.2, y.2.1, y.2.2.1, 0, ⟨#[]⟩⟩) (fun kd' => (1 ≤ kd' ∧ kd' ≤ 9) ∧ (refsK kd' → ∃ x ∈ out, x.student = st ∧ x.kind = tgtM kd' ∧ x.id = y.1) ∧ (¬refsK kd' → y.1 = 0)) ?_ ?_
  · clear ih
    refine VS.of_V T_ok mixed rfl ?_
    by_cases hk : refsK kd
    · rw [decide_eq_true hk]
      by_cases hy0 : y.1 = 0
      · ((repeat ((conv => whnf); (first | (refine LetN.pre ?_; first | ((conv => arg 1; whnf); refine LetN.mk ?_)) | (refine As.pre ?_; first | refine As.mk rfl ?_) | (refine LetV.pre ?_; first | refine LetV.mk (.sc (.int _ _)) rfl ?_) | (refine LetB.pre ?_; first | refine LetB.dect (by omega) ?_) | (refine Gd.pre ?_; first | refine Gd.run rfl ?_) | (refine Br.pre ?_; first | refine Br.tt rfl ?_) | (refine Ck.pre ?_; first | refine Ck.mk rfl ?_) | (refine LetL.pre ?_; first | refine LetL.mk (ty := ety) [.agg [_, _, _, _, _, _, _, _, _, _, _, _, _, _, _]] rfl ?_)))); (try (conv => whnf)))

        exact ⟨rfl, 3, ⟨by decide, fun h => absurd h (by decide), fun _ => hy0⟩, SW.mk id rfl rfl (namesAll.row rfl (namesAll.row (pure_en _) (namesAll.row rfl rfl))) ⟨.refl _, .refl _, .refl _, .refl _, .refl _, .refl _, .refl _, .refl _, .refl _, trivial⟩ (haveV.row rfl rfl (haveV.row (pure_en _) rfl (haveV.row rfl rfl trivial)))⟩
      · ((repeat ((conv => whnf); (first | (refine As.pre ?_; first | refine As.mk rfl ?_) | (refine LetV.pre ?_; first | refine LetV.mk (.sc (.int _ _)) rfl ?_) | (refine LetB.pre ?_; first | refine LetB.decf (by omega) ?_) | (refine Gd.pre ?_; first | refine Gd.run rfl ?_) | (refine Br.pre ?_; first | refine Br.ff rfl ?_) | (refine Ck.pre ?_; first | refine Ck.mk rfl ?_)))); (try (conv => whnf)))
        exact ⟨rfl, kd, ⟨hkd, fun h => (y1 h).resolve_left hy0, fun h => absurd hk h⟩, SW.mk id rfl rfl (namesAll.row rfl (namesAll.row (pure_en _) (namesAll.row rfl rfl))) ⟨.refl _, .refl _, .refl _, .refl _, .refl _, .refl _, .refl _, .refl _, .refl _, trivial⟩ (haveV.row rfl rfl (haveV.row (pure_en _) rfl (haveV.row rfl rfl trivial)))⟩
    · rw [decide_eq_false hk]
      ((repeat ((conv => whnf); (first | (refine As.pre ?_; first | refine As.mk rfl ?_) | (refine Gd.pre ?_; first | refine Gd.pass rfl ?_) | (refine Br.pre ?_; first | refine Br.ff rfl ?_) | (refine Ck.pre ?_; first | refine Ck.mk rfl ?_)))); (try (conv => whnf)))
      exact ⟨rfl, kd, ⟨hkd, fun h => absurd h hk, y2⟩, SW.mk id rfl rfl (namesAll.row rfl (namesAll.row (pure_en _) (namesAll.row rfl rfl))) ⟨.refl _, .refl _, .refl _, .refl _, .refl _, .refl _, .refl _, .refl _, .refl _, trivial⟩ (haveV.row rfl rfl (haveV.row (pure_en _) rfl (haveV.row rfl rfl trivial)))⟩
  clear y1 y2 hkd kd r3
  intro kd hkk
  obtain ⟨hkd, y1, y2⟩ := hkk
  have hcl : (codesL.map str).length = 6 := rfl
  obtain ⟨co, hco, hcov⟩ := codes_get (n.tmod 6) (by omega)
  obtain ⟨cr, hcr, hcrv⟩ := cred_get3 (n.tmod 3) (by omega)
  refine VS.joinN (fun z : ByteArray × Int => mtE sc fl xs v0 k day' a6 out early n ⟨(k : Int) + 1, sc, st, kd, day', 0, z.1, z.2, 0, y.1, y.2.2.2, y.2.1, y.2.2.1, 0, ⟨#[]⟩⟩) (fun z => z.1.size ≤ 2 ∧ (0 ≤ z.2 ∧ z.2 ≤ 10) ∧ (kd = 3 → 5 ≤ z.2)) ?_ ?_
  · clear ih
    refine VS.of_V T_ok mixed rfl ?_
    by_cases h3 : kd = 3
    · ((repeat ((conv => whnf); (first | (refine LetN.pre ?_; first | ((conv => arg 1; whnf); refine LetN.mk ?_)) | (refine As.pre ?_; first | refine As.mk rfl ?_ | (refine As.mk ?_ ?_; · ((repeat' (refine andT ?_ ?_)) <;> (first | rfl | assumption | exact decide_eq_true (by omega) | exact decide_eq_true (by dsimp only; omega) | exact decide_eq_true (by simp; omega) | (simp; done))))) | (refine LetV.pre ?_; first | refine LetV.mk (t := 61) _ hcov ?_ | refine LetV.mk (t := 39) _ hcrv ?_ | refine LetV.mk (.sc (.int _ _)) rfl ?_ | refine LetV.mk (.sc _) rfl ?_) | (refine LetI.pre ?_; first | refine LetI.mk _ rfl ?_) | (refine LetB.pre ?_; first | refine LetB.dect (by omega) ?_) | (refine Br.pre ?_; first | refine Br.tt rfl ?_) | (refine Ck.pre ?_; first | refine Ck.mk rfl ?_) | (refine LetL.pre ?_; first | refine LetL.mk (ty := ety) [.agg [_, _, _, _, _, _, _, _, _, _, _, _, _, _, _]] rfl ?_) | (refine CallN.pre ?_; first | refine CallN.pure Codes_f rfl rfl ?_)))); (try (conv => whnf)))




      exact ⟨rfl, (co, cr), ⟨hco, by dsimp only; omega, fun _ => by dsimp only; omega⟩, SW.mk id rfl rfl (namesAll.row rfl (namesAll.row (pure_en _) (namesAll.row rfl rfl))) ⟨.refl _, .refl _, .refl _, .refl _, .refl _, .refl _, .refl _, .refl _, .refl _, trivial⟩ (haveV.row rfl rfl (haveV.row (pure_en _) rfl (haveV.row rfl rfl trivial)))⟩
    · ((repeat ((conv => whnf); (first | (refine As.pre ?_; first | refine As.mk rfl ?_) | (refine LetV.pre ?_; first | refine LetV.mk (.sc (.int _ _)) rfl ?_) | (refine LetB.pre ?_; first | refine LetB.decf (by omega) ?_) | (refine Br.pre ?_; first | refine Br.ff rfl ?_) | (refine Ck.pre ?_; first | refine Ck.mk rfl ?_)))); (try (conv => whnf)))
      exact ⟨rfl, (⟨#[]⟩, 0), ⟨by decide, by decide, fun h => absurd h h3⟩, SW.mk id rfl rfl (namesAll.row rfl (namesAll.row (pure_en _) (namesAll.row rfl rfl))) ⟨.refl _, .refl _, .refl _, .refl _, .refl _, .refl _, .refl _, .refl _, .refl _, trivial⟩ (haveV.row rfl rfl (haveV.row (pure_en _) rfl (haveV.row rfl rfl trivial)))⟩
  clear hcov hcrv hco hcr co cr
  intro z hz
  obtain ⟨z1, z2, z3⟩ := hz
  obtain ⟨v7, a7, r7, q7, N7⟩ := made_next fl xs hx a6 21 q6 (by omega)
  have d5 := tmod_bound v7 (m := 5) (by omega)
  have dp5 := tmod_pos 5 r7.1
  have hquo : v7 = (5 * v7).tdiv 5 := by
    rw [Int.tdiv_eq_ediv_of_nonneg (by omega)]; omega
  have hquw : v7 = IntKind.i64.wrap ((5 * v7).tdiv 5) := by rw [← hquo, wrap_id (by omega) (by omega)]
  refine VS.joinN (fun u : Nat × Int => mtE sc fl xs v0 k day' u.1 out early n ⟨(k : Int) + 1, sc, st, kd, day', 0, z.1, z.2, u.2, y.1, y.2.2.2, y.2.1, y.2.2.1, 0, ⟨#[]⟩⟩) (fun u => u.1 ≤ xs.length ∧ (0 ≤ u.2 ∧ u.2 ≤ 100) ∧ (kd = 3 → (sc = 2 → 1 ≤ u.2 ∧ u.2 ≤ 5) ∧ (sc = 3 → u.2 ≤ 20))) ?_ ?_
  · clear ih
    refine VS.of_V T_ok mixed rfl ?_
    by_cases h34 : kd = 3 ∨ kd = 4
    · obtain hs | hs | hs : sc = 1 ∨ sc = 2 ∨ sc = 3 := by omega
      · subst hs
        rcases h34 with h | h
        · subst h
          ((repeat ((conv => whnf); (first | (refine LetN.pre ?_; first | ((conv => arg 1; whnf); refine LetN.mk ?_)) | (refine As.pre ?_; first | refine As.mk rfl ?_) | (refine LetV.pre ?_; first | refine LetV.mk (.sc (.int _ _)) rfl ?_) | (refine LetI.pre ?_; first | refine LetI.wrap (by omega) (by omega) ?_) | (refine LetB.pre ?_; first | refine LetB.tt rfl ?_ | refine LetB.ff rfl ?_) | (refine Gd.pre ?_; first | refine Gd.pass rfl ?_) | (refine Br.pre ?_; first | refine Br.tt rfl ?_ | refine Br.ff rfl ?_) | (refine Ck.pre ?_; first | refine Ck.mk rfl ?_) | (refine LetL.pre ?_; first | refine LetL.mk (ty := ety) [.agg [_, _, _, _, _, _, _, _, _, _, _, _, _, _, _]] rfl ?_ | refine LetL.mk [_] rfl ?_) | (refine CallN.pre ?_; first | refine CallN.own (fun _ => 0) N7 (CallOk.mk' rfl rfl rfl (namesAll.row rfl rfl) rfl (namesAll.row rfl rfl) (haveAll.row rfl rfl trivial)) ?_)))); (try (conv => whnf)))




          exact ⟨rfl, (a7, 5 * v7), ⟨q7, by dsimp only; omega, fun _ => ⟨fun h => by dsimp only; omega, fun h => by dsimp only; omega⟩⟩, SW.mk id rfl rfl (namesAll.row rfl (namesAll.row (pure_en _) (namesAll.row rfl rfl))) ⟨.refl _, .refl _, .refl _, .refl _, .refl _, .refl _, .refl _, .refl _, .refl _, trivial⟩ (haveV.row rfl rfl (haveV.row (pure_en _) rfl (haveV.row rfl rfl trivial)))⟩
        · subst h
          ((repeat ((conv => whnf); (first | (refine LetN.pre ?_; first | ((conv => arg 1; whnf); refine LetN.mk ?_)) | (refine As.pre ?_; first | refine As.mk rfl ?_) | (refine LetV.pre ?_; first | refine LetV.mk (.sc (.int _ _)) rfl ?_) | (refine LetI.pre ?_; first | refine LetI.wrap (by omega) (by omega) ?_) | (refine LetB.pre ?_; first | refine LetB.tt rfl ?_ | refine LetB.ff rfl ?_) | (refine Gd.pre ?_; first | refine Gd.run rfl ?_) | (refine Br.pre ?_; first | refine Br.tt rfl ?_ | refine Br.ff rfl ?_) | (refine Ck.pre ?_; first | refine Ck.mk rfl ?_) | (refine LetL.pre ?_; first | refine LetL.mk (ty := ety) [.agg [_, _, _, _, _, _, _, _, _, _, _, _, _, _, _]] rfl ?_ | refine LetL.mk [_] rfl ?_) | (refine CallN.pre ?_; first | refine CallN.own (fun _ => 0) N7 (CallOk.mk' rfl rfl rfl (namesAll.row rfl rfl) rfl (namesAll.row rfl rfl) (haveAll.row rfl rfl trivial)) ?_)))); (try (conv => whnf)))




          exact ⟨rfl, (a7, 5 * v7), ⟨q7, by dsimp only; omega, fun _ => ⟨fun h => by dsimp only; omega, fun h => by dsimp only; omega⟩⟩, SW.mk id rfl rfl (namesAll.row rfl (namesAll.row (pure_en _) (namesAll.row rfl rfl))) ⟨.refl _, .refl _, .refl _, .refl _, .refl _, .refl _, .refl _, .refl _, .refl _, trivial⟩ (haveV.row rfl rfl (haveV.row (pure_en _) rfl (haveV.row rfl rfl trivial)))⟩
      · subst hs
        rcases h34 with h | h
        · subst h
          ((repeat ((conv => whnf); (first | (refine LetN.pre ?_; first | ((conv => arg 1; whnf); refine LetN.mk ?_)) | (refine As.pre ?_; first | refine As.mk rfl ?_) | (refine LetV.pre ?_; first | refine LetV.mk (.sc (.int _ _)) rfl ?_) | (refine LetI.pre ?_; first | refine LetI.mk (o := some .quo) v7 hquw ?_ | refine LetI.wrap (by omega) (by omega) ?_ | refine LetI.mk _ rfl ?_) | (refine LetB.pre ?_; first | refine LetB.tt rfl ?_) | (refine Gd.pre ?_; first | refine Gd.pass rfl ?_) | (refine Br.pre ?_; first | refine Br.tt rfl ?_) | (refine Ck.pre ?_; first | refine Ck.mk rfl ?_) | (refine LetL.pre ?_; first | refine LetL.mk (ty := ety) [.agg [_, _, _, _, _, _, _, _, _, _, _, _, _, _, _]] rfl ?_ | refine LetL.mk [_] rfl ?_) | (refine CallN.pre ?_; first | refine CallN.own (fun _ => 0) N7 (CallOk.mk' rfl rfl rfl (namesAll.row rfl rfl) rfl (namesAll.row rfl rfl) (haveAll.row rfl rfl trivial)) ?_)))); (try (conv => whnf)))




          exact ⟨rfl, (a7, 1 + v7.tmod 5), ⟨q7, by dsimp only; omega, fun _ => ⟨fun h => by dsimp only; omega, fun h => by dsimp only; omega⟩⟩, SW.mk id rfl rfl (namesAll.row rfl (namesAll.row (pure_en _) (namesAll.row rfl rfl))) ⟨.refl _, .refl _, .refl _, .refl _, .refl _, .refl _, .refl _, .refl _, .refl _, trivial⟩ (haveV.row rfl rfl (haveV.row (pure_en _) rfl (haveV.row rfl rfl trivial)))⟩
        · subst h
          ((repeat ((conv => whnf); (first | (refine LetN.pre ?_; first | ((conv => arg 1; whnf); refine LetN.mk ?_)) | (refine As.pre ?_; first | refine As.mk rfl ?_) | (refine LetV.pre ?_; first | refine LetV.mk (.sc (.int _ _)) rfl ?_) | (refine LetI.pre ?_; first | refine LetI.mk (o := some .quo) v7 hquw ?_ | refine LetI.wrap (by omega) (by omega) ?_ | refine LetI.mk _ rfl ?_) | (refine LetB.pre ?_; first | refine LetB.tt rfl ?_ | refine LetB.ff rfl ?_) | (refine Gd.pre ?_; first | refine Gd.run rfl ?_) | (refine Br.pre ?_; first | refine Br.tt rfl ?_) | (refine Ck.pre ?_; first | refine Ck.mk rfl ?_) | (refine LetL.pre ?_; first | refine LetL.mk (ty := ety) [.agg [_, _, _, _, _, _, _, _, _, _, _, _, _, _, _]] rfl ?_ | refine LetL.mk [_] rfl ?_) | (refine CallN.pre ?_; first | refine CallN.own (fun _ => 0) N7 (CallOk.mk' rfl rfl rfl (namesAll.row rfl rfl) rfl (namesAll.row rfl rfl) (haveAll.row rfl rfl trivial)) ?_)))); (try (conv => whnf)))




          exact ⟨rfl, (a7, 1 + v7.tmod 5), ⟨q7, by dsimp only; omega, fun _ => ⟨fun h => by dsimp only; omega, fun h => by dsimp only; omega⟩⟩, SW.mk id rfl rfl (namesAll.row rfl (namesAll.row (pure_en _) (namesAll.row rfl rfl))) ⟨.refl _, .refl _, .refl _, .refl _, .refl _, .refl _, .refl _, .refl _, .refl _, trivial⟩ (haveV.row rfl rfl (haveV.row (pure_en _) rfl (haveV.row rfl rfl trivial)))⟩
      · subst hs
        rcases h34 with h | h
        · subst h
          ((repeat ((conv => whnf); (first | (refine LetN.pre ?_; first | ((conv => arg 1; whnf); refine LetN.mk ?_)) | (refine As.pre ?_; first | refine As.mk rfl ?_) | (refine LetV.pre ?_; first | refine LetV.mk (.sc (.int _ _)) rfl ?_) | (refine LetI.pre ?_; first | refine LetI.mk (o := some .quo) v7 hquw ?_ | refine LetI.wrap (by omega) (by omega) ?_) | (refine LetB.pre ?_; first | refine LetB.tt rfl ?_ | refine LetB.ff rfl ?_) | (refine Gd.pre ?_; first | refine Gd.pass rfl ?_) | (refine Br.pre ?_; first | refine Br.tt rfl ?_ | refine Br.ff rfl ?_) | (refine Ck.pre ?_; first | refine Ck.mk rfl ?_) | (refine LetL.pre ?_; first | refine LetL.mk (ty := ety) [.agg [_, _, _, _, _, _, _, _, _, _, _, _, _, _, _]] rfl ?_ | refine LetL.mk [_] rfl ?_) | (refine CallN.pre ?_; first | refine CallN.own (fun _ => 0) N7 (CallOk.mk' rfl rfl rfl (namesAll.row rfl rfl) rfl (namesAll.row rfl rfl) (haveAll.row rfl rfl trivial)) ?_)))); (try (conv => whnf)))




          exact ⟨rfl, (a7, v7), ⟨q7, by dsimp only; omega, fun _ => ⟨fun h => by dsimp only; omega, fun h => by dsimp only; omega⟩⟩, SW.mk id rfl rfl (namesAll.row rfl (namesAll.row (pure_en _) (namesAll.row rfl rfl))) ⟨.refl _, .refl _, .refl _, .refl _, .refl _, .refl _, .refl _, .refl _, .refl _, trivial⟩ (haveV.row rfl rfl (haveV.row (pure_en _) rfl (haveV.row rfl rfl trivial)))⟩
        · subst h
          ((repeat ((conv => whnf); (first | (refine LetN.pre ?_; first | ((conv => arg 1; whnf); refine LetN.mk ?_)) | (refine As.pre ?_; first | refine As.mk rfl ?_) | (refine LetV.pre ?_; first | refine LetV.mk (.sc (.int _ _)) rfl ?_) | (refine LetI.pre ?_; first | refine LetI.mk (o := some .quo) v7 hquw ?_ | refine LetI.wrap (by omega) (by omega) ?_) | (refine LetB.pre ?_; first | refine LetB.tt rfl ?_ | refine LetB.ff rfl ?_) | (refine Gd.pre ?_; first | refine Gd.run rfl ?_) | (refine Br.pre ?_; first | refine Br.tt rfl ?_ | refine Br.ff rfl ?_) | (refine Ck.pre ?_; first | refine Ck.mk rfl ?_) | (refine LetL.pre ?_; first | refine LetL.mk (ty := ety) [.agg [_, _, _, _, _, _, _, _, _, _, _, _, _, _, _]] rfl ?_ | refine LetL.mk [_] rfl ?_) | (refine CallN.pre ?_; first | refine CallN.own (fun _ => 0) N7 (CallOk.mk' rfl rfl rfl (namesAll.row rfl rfl) rfl (namesAll.row rfl rfl) (haveAll.row rfl rfl trivial)) ?_)))); (try (conv => whnf)))




          exact ⟨rfl, (a7, v7), ⟨q7, by dsimp only; omega, fun _ => ⟨fun h => by dsimp only; omega, fun h => by dsimp only; omega⟩⟩, SW.mk id rfl rfl (namesAll.row rfl (namesAll.row (pure_en _) (namesAll.row rfl rfl))) ⟨.refl _, .refl _, .refl _, .refl _, .refl _, .refl _, .refl _, .refl _, .refl _, trivial⟩ (haveV.row rfl rfl (haveV.row (pure_en _) rfl (haveV.row rfl rfl trivial)))⟩
    · have h3 : ¬kd = 3 := fun h => h34 (.inl h)
      have h4 : ¬kd = 4 := fun h => h34 (.inr h)
      ((repeat ((conv => whnf); (first | (refine As.pre ?_; first | refine As.mk rfl ?_) | (refine LetV.pre ?_; first | refine LetV.mk (.sc (.int _ _)) rfl ?_) | (refine LetB.pre ?_; first | refine LetB.decf (by omega) ?_) | (refine Gd.pre ?_; first | refine Gd.run rfl ?_) | (refine Br.pre ?_; first | refine Br.ff rfl ?_) | (refine Ck.pre ?_; first | refine Ck.mk rfl ?_)))); (try (conv => whnf)))
      exact ⟨rfl, (a6, 0), ⟨q6, by dsimp only; omega, fun h => absurd h h3⟩, SW.mk id rfl rfl (namesAll.row rfl (namesAll.row (pure_en _) (namesAll.row rfl rfl))) ⟨.refl _, .refl _, .refl _, .refl _, .refl _, .refl _, .refl _, .refl _, .refl _, trivial⟩ (haveV.row rfl rfl (haveV.row (pure_en _) rfl (haveV.row rfl rfl trivial)))⟩
  clear N7 q7 r7 d5 dp5 hquo hquw
  clear a7 v7
  intro u hu
  obtain ⟨u1, u2, u3⟩ := hu
  have hO := on_f out y.1 {} (by omega)
  have hOb := hM.onP y.1 h2.1
  have hOat : ∀ x ∈ out, x.id = y.1 → En.onP out y.1 = x.on_ := fun x hx h => by rw [← h]; exact hM.onP_at hx
  generalize En.onP out y.1 = ov at hO hOb hOat
  refine VS.cut T_ok mixed rfl ?_
  ((repeat ((conv => whnf); (first | (refine LetN.pre ?_; first | ((conv => arg 1; whnf); refine LetN.mk ?_)) | (refine As.pre ?_; first | refine As.mk rfl ?_) | (refine LetV.pre ?_; first | refine LetV.mk (.sc (.int _ _)) rfl ?_) | (refine LetI.pre ?_; first | refine LetI.wrap (by omega) (by omega) ?_ | refine LetI.mk _ rfl ?_) | (refine Ck.pre ?_; first | refine Ck.mk rfl ?_) | (refine LetL.pre ?_; first | refine LetL.mk (ty := ety) [.agg [_, _, _, _, _, _, _, _, _, _, _, _, _, _, _]] rfl ?_) | (refine CallN.pre ?_; first | refine CallN.lend hO rfl (.full rfl (pure_en _) hml.symm (.same rfl .nil)) ?_)))); (try (conv => whnf)))


  refine VS.weak (s1 := mtE sc fl xs v0 k day' u.1 out early n ⟨(k : Int) + 1, sc, st, kd, day', max (max 0 ov) (day' - early), z.1, z.2, u.2, y.1, y.2.2.2, y.2.1, y.2.2.1, 0, ⟨#[]⟩⟩) ?swb ?_
  case swb => exact SW.mk id rfl rfl (namesAll.row rfl (namesAll.row (pure_en _) (namesAll.row rfl rfl))) ⟨.refl _, .refl _, .refl _, .refl _, .refl _, .refl _, .refl _, .refl _, .refl _, trivial⟩ (haveV.row rfl rfl (haveV.row (pure_en _) rfl (haveV.row rfl rfl trivial)))
  have hon : 0 ≤ max (max 0 ov) (day' - early) ∧ max (max 0 ov) (day' - early) ≤ day' ∧ ov ≤ max (max 0 ov) (day' - early) := by omega
  obtain ⟨e, he⟩ : ∃ e : E, e = ⟨(k : Int) + 1, sc, st, kd, day', max (max 0 ov) (day' - early), z.1, z.2, u.2, y.1, y.2.2.2, y.2.1, y.2.2.1, 0, ⟨#[]⟩⟩ := ⟨_, rfl⟩
  rw [← he]
  have hM2 : M10 sc day' (out ++ [e]) := by
    refine hM.add ?_ (by omega) (by rw [he]; dsimp only; omega) (by rw [he]) fun hk => ?_
    · rw [he]
      exact ⟨rfl, hst3, hkd, by dsimp only; omega, by dsimp only; omega, z1, z2, u2, y3, y4, y5, rfl, rfl, fun h => ⟨z3 h, u3 h⟩, y2⟩
    · rw [he] at hk ⊢
      obtain ⟨x, x1, x2, x3, x4⟩ := y1 hk
      exact ⟨x, x1, x2, x3, x4, by dsimp only; rw [← hOat x x1 x4]; exact hon.2.2⟩
  have hnx := ih (k + 1, day', u.1, out ++ [e]) ⟨by dsimp only; omega, by dsimp only; omega, u1, by simp [h4], hM2⟩ (by show 24 - (k + 1) < 24 - k; omega)
  clear ih hM2 hM hO hOat y1 y2 he
  have hr := room_en (n := out.length + 1) (by omega)
  refine VS.of_V T_ok mixed rfl ?_
  ((repeat ((conv => whnf); (first | (refine LetN.pre ?_; first | ((conv => arg 1; whnf); refine LetN.mk ?_)) | (refine As.pre ?_; first | refine As.mk rfl ?_ | (refine As.mk ?_ ?_; · ((repeat' (refine andT ?_ ?_)) <;> (first | rfl | assumption | exact decide_eq_true (by omega) | exact decide_eq_true (by dsimp only; omega) | exact decide_eq_true (by simp; omega) | (simp; done))))) | (refine LetV.pre ?_; first | refine LetV.mk (.agg _) rfl ?_) | (refine Ck.pre ?_; first | refine Ck.mk rfl ?_) | (refine LetL.pre ?_; first | refine LetL.mk (ty := ety) _ (app_en out e _ rfl) ?_)))); (try (conv => whnf)))
  refine VS.of_V T_ok mixed rfl ?_
  ((repeat ((conv => whnf); (first | (refine As.pre ?_; first | refine As.mk rfl ?_) | (refine LetI.pre ?_; first | refine LetI.wrap (by omega) (by omega) ?_) | (refine Ck.pre ?_; first | refine Ck.mk rfl ?_)))); (try (conv => whnf)))
  refine LoopN.weak ?swc hnx
  case swc => exact SW.mk (fun i => if i = 1 then 3 else i) rfl rfl (namesAll.row rfl (namesAll.row (pure_en _) rfl)) ⟨.refl _, .refl _, VLe2.slm_of (by simp), .refl _, .refl _, VLe2.int (by omega), trivial⟩ (haveV.row rfl rfl (haveV.row (pure_en _) rfl trivial))
theorem Made10_f (xs : List Int) (fl : Fl) (hx : xs.length ≤ 9223372036854775807) (sc : Int) (hsc : 1 ≤ sc ∧ sc ≤ 3) : ∃ l : List E, (l.length ≤ 24 ∧ M10 sc 600 l) ∧ AFun Tryd.prog 9 0 [.ro fl 1 (xs.map int), int sc] [] (.ro {} 15 (l.map en)) [] := by
  obtain ⟨l, h, hM⟩ := Made10_s xs fl hx sc hsc
  exact ⟨l, h, AFun.frz1 (H := []) hM rfl (pure_en _) (by simp)⟩
end En
end Go.Proofs.YtgnakhljdjekbaaDoor
namespace Go.Proofs.YtgnakhljdjekbaaDoor
open Go.Proofs.YtgnakhljdjekbaaDoor.Am
set_option maxRecDepth 100000
namespace En
/-! ### Entries with a change -/
/-- What made entries and their changes keep to. -/
structure bE (e : E) : Prop where
  school : -1000 ≤ e.school ∧ e.school ≤ 1000
  id : -1000000000 ≤ e.id ∧ e.id ≤ 1000000000
  day : -1 ≤ e.day ∧ e.day ≤ 200000
  on : -1 ≤ e.on_ ∧ e.on_ ≤ 200001
abbrev od (e : E) (a b : Int) (e' : E) : Prop := AFun Tryd.prog 10 0 [en e, .agg [int a, int b]] [] (en e') []
theorem od0 (n : Int) (h : 0 ≤ n ∧ n < 4) : ∃ c : Int, (0 ≤ c ∧ c ≤ 900000) ∧ int c = ([int 0, int 1, int 899999, int 900000] : List AV).getD n.toNat (.sc undef) := by
  obtain ⟨m, rfl⟩ : ∃ m : Nat, n = m := ⟨n.toNat, by omega⟩
  have : m = 0 ∨ m = 1 ∨ m = 2 ∨ m = 3 := by omega
  rcases this with rfl | rfl | rfl | rfl <;> exact ⟨_, by omega, rfl⟩
theorem od2 (n : Int) (h : 0 ≤ n ∧ n < 4) : ∃ c : Int, (0 ≤ c ∧ c ≤ 1000000) ∧ int c = ([int 0, int 999999, int 1000000, int 2] : List AV).getD n.toNat (.sc undef) := by
  obtain ⟨m, rfl⟩ : ∃ m : Nat, n = m := ⟨n.toNat, by omega⟩
  have : m = 0 ∨ m = 1 ∨ m = 2 ∨ m = 3 := by omega
  rcases this with rfl | rfl | rfl | rfl <;> exact ⟨_, by omega, rfl⟩
theorem od4 (n : Int) (h : 0 ≤ n ∧ n < 4) : ∃ c : Int, (-1 ≤ c ∧ c ≤ 100001) ∧ int c = ([int (-1), int 0, int 100000, int 100001] : List AV).getD n.toNat (.sc undef) := by
  obtain ⟨m, rfl⟩ : ∃ m : Nat, n = m := ⟨n.toNat, by omega⟩
  have : m = 0 ∨ m = 1 ∨ m = 2 ∨ m = 3 := by omega
  rcases this with rfl | rfl | rfl | rfl <;> exact ⟨_, by omega, rfl⟩
theorem od5 (d : Int) (n : Int) (h : 0 ≤ n ∧ n < 4) (hd : -1 ≤ d ∧ d ≤ 200000) : ∃ c : Int, (-1 ≤ c ∧ c ≤ 200001) ∧ int c = ([int (-1), int 0, int d, int (d + 1)] : List AV).getD n.toNat (.sc undef) := by
  obtain ⟨m, rfl⟩ : ∃ m : Nat, n = m := ⟨n.toNat, by omega⟩
  have : m = 0 ∨ m = 1 ∨ m = 2 ∨ m = 3 := by omega
  rcases this with rfl | rfl | rfl | rfl <;> exact ⟨_, by omega, rfl⟩
theorem od6 (n : Int) (h : 0 ≤ n ∧ n < 5) : ∃ c : ByteArray, str c = ([str ⟨#[]⟩, str ⟨#[65, 49]⟩, str ⟨#[66, 50]⟩, str ⟨#[97]⟩, str ⟨#[65, 66, 67, 68, 69, 70, 71, 72, 73]⟩] : List AV).getD n.toNat (.sc undef) := by
  obtain ⟨m, rfl⟩ : ∃ m : Nat, n = m := ⟨n.toNat, by omega⟩
  have : m = 0 ∨ m = 1 ∨ m = 2 ∨ m = 3 ∨ m = 4 := by omega
  rcases this with rfl | rfl | rfl | rfl | rfl <;> exact ⟨_, rfl⟩
theorem od7 (n : Int) (h : 0 ≤ n ∧ n < 4) : ∃ c : Int, (0 ≤ c ∧ c ≤ 61) ∧ int c = ([int 0, int 1, int 60, int 61] : List AV).getD n.toNat (.sc undef) := by
  obtain ⟨m, rfl⟩ : ∃ m : Nat, n = m := ⟨n.toNat, by omega⟩
  have : m = 0 ∨ m = 1 ∨ m = 2 ∨ m = 3 := by omega
  rcases this with rfl | rfl | rfl | rfl <;> exact ⟨_, by omega, rfl⟩
theorem od8 (k : Int) (n : Int) (h : 0 ≤ n ∧ n < 6) (hk : 0 ≤ k ∧ k < 40) : ∃ c : Int, (-1001 ≤ c ∧ c ≤ 1001) ∧ int c = ([int 0, int (-1000), int (-1001), int 1000, int 1001, int (5 * k)] : List AV).getD n.toNat (.sc undef) := by
  obtain ⟨m, rfl⟩ : ∃ m : Nat, n = m := ⟨n.toNat, by omega⟩
  have : m = 0 ∨ m = 1 ∨ m = 2 ∨ m = 3 ∨ m = 4 ∨ m = 5 := by omega
  rcases this with rfl | rfl | rfl | rfl | rfl | rfl <;> exact ⟨_, by omega, rfl⟩
theorem od9 (i k : Int) (n : Int) (h : 0 ≤ n ∧ n < 6) : ∃ c : Int, int c = ([int 0, int i, int 1, int 899999, int 900000, int k] : List AV).getD n.toNat (.sc undef) := by
  obtain ⟨m, rfl⟩ : ∃ m : Nat, n = m := ⟨n.toNat, by omega⟩
  have : m = 0 ∨ m = 1 ∨ m = 2 ∨ m = 3 ∨ m = 4 ∨ m = 5 := by omega
  rcases this with rfl | rfl | rfl | rfl | rfl | rfl <;> exact ⟨_, rfl⟩
theorem od14 (n : Int) (h : 0 ≤ n ∧ n < 4) : ∃ c : ByteArray, str c = ([str ⟨#[]⟩, str ⟨#[109, 97, 114, 107]⟩, str ⟨#[48, 58]⟩, str ⟨#[49, 50, 51, 52, 53, 54, 55, 56]⟩] : List AV).getD n.toNat (.sc undef) := by
  obtain ⟨m, rfl⟩ : ∃ m : Nat, n = m := ⟨n.toNat, by omega⟩
  have : m = 0 ∨ m = 1 ∨ m = 2 ∨ m = 3 := by omega
  rcases this with rfl | rfl | rfl | rfl <;> exact ⟨_, rfl⟩
set_option maxRecDepth 100000 in
theorem odd_0 (e : E) (a b n : Int) (hb : bE e) (h : 0 ≤ n ∧ n < 40) (hn : (b.tmod 40 + 40).tmod 40 = n) (hm : (a.tmod 15 + 15).tmod 15 = 0) : ∃ e', bE e' ∧ od e a b e' := by
  obtain ⟨r, hr, hr0⟩ : ∃ r : Int, r = n.tmod 4 ∧ 0 ≤ r ∧ r < 4 := ⟨_, rfl, by have := tmod_bound n (m := 4) (by omega); have := tmod_pos 4 (a := n) h.1; omega⟩
  obtain ⟨c, hc, hv⟩ := od0 r hr0
  have hd3 : 0 ≤ n.tdiv 4 ∧ n.tdiv 4 < 40 := (by rw [Int.tdiv_eq_ediv_of_nonneg h.1]; omega)
  refine ⟨{ e with id := c + n.tdiv 4 }, ⟨hb.school, by dsimp only; omega, hb.day, hb.on⟩, ?_⟩
  have hd := hb.day
  refine AFun.of_W T_ok mixed Tryd.func10 rfl (Nat.le_of_ble_eq_true rfl) rfl ?_
  have hM1 := Mod_f b 40 (by omega)
  have hM2 := Mod_f a 15 (by omega)
  rw [hn] at hM1
  rw [hm] at hM2
  ((repeat ((conv => whnf); (first | (refine LetN.pre ?_; first | ((conv => arg 1; whnf); refine LetN.mk ?_)) | (refine As.pre ?_; first | refine As.mk rfl ?_ | (refine As.mk ?_ ?_; · ((repeat' (refine andT ?_ ?_)) <;> (first | rfl | assumption | exact decide_eq_true (by omega) | exact decide_eq_true (by dsimp only; omega) | exact decide_eq_true (by simp; omega) | (simp; done))))) | (refine LetV.pre ?_; first | refine LetV.mk (t := 39) _ hv ?_ | refine LetV.mk (.sc (.int _ _)) rfl ?_ | refine LetV.mk (.agg _) rfl ?_) | (refine LetI.pre ?_; first | refine LetI.mk (o := some .rem) r hr ?_ | refine LetI.wrap (by omega) (by omega) ?_) | (refine LetB.pre ?_; first | refine LetB.tt rfl ?_) | (refine Br.pre ?_; first | refine Br.tt rfl ?_) | (refine Ck.pre ?_; first | refine Ck.mk rfl ?_) | (refine LetL.pre ?_; first | refine LetL.mk (ty := ety) [.agg [_, _, _, _, _, _, _, _, _, _, _, _, _, _, _]] rfl ?_) | (refine CallN.pre ?_; first | refine CallN.pure hM1 rfl rfl ?_ | refine CallN.pure hM2 rfl rfl ?_)))); (try (conv => whnf)))





  exact ⟨.inl rfl, ⟨_, rfl, rfl⟩, trivial⟩
set_option maxRecDepth 100000 in
theorem odd_1 (e : E) (a b n : Int) (hb : bE e) (h : 0 ≤ n ∧ n < 40) (hn : (b.tmod 40 + 40).tmod 40 = n) (hm : (a.tmod 15 + 15).tmod 15 = 1) : ∃ e', bE e' ∧ od e a b e' := by
  obtain ⟨r, hr, hr0⟩ : ∃ r : Int, r = n.tmod 11 ∧ 0 ≤ r ∧ r < 11 := ⟨_, rfl, by have := tmod_bound n (m := 11) (by omega); have := tmod_pos 11 (a := n) h.1; omega⟩
  refine ⟨{ e with school := r - 1 }, ⟨by dsimp only; omega, hb.id, hb.day, hb.on⟩, ?_⟩
  have hd := hb.day
  refine AFun.of_W T_ok mixed Tryd.func10 rfl (Nat.le_of_ble_eq_true rfl) rfl ?_
  have hM1 := Mod_f b 40 (by omega)
  have hM2 := Mod_f a 15 (by omega)
  rw [hn] at hM1
  rw [hm] at hM2
  ((repeat ((conv => whnf); (first | (refine LetN.pre ?_; first | ((conv => arg 1; whnf); refine LetN.mk ?_)) | (refine As.pre ?_; first | refine As.mk rfl ?_) | (refine LetV.pre ?_; first | refine LetV.mk (.sc (.int _ _)) rfl ?_ | refine LetV.mk (.agg _) rfl ?_) | (refine LetI.pre ?_; first | refine LetI.mk (o := some .rem) r hr ?_ | refine LetI.wrap (by omega) (by omega) ?_) | (refine LetB.pre ?_; first | refine LetB.tt rfl ?_ | refine LetB.ff rfl ?_) | (refine Br.pre ?_; first | refine Br.tt rfl ?_ | refine Br.ff rfl ?_) | (refine Ck.pre ?_; first | refine Ck.mk rfl ?_) | (refine LetL.pre ?_; first | refine LetL.mk (ty := ety) [.agg [_, _, _, _, _, _, _, _, _, _, _, _, _, _, _]] rfl ?_) | (refine CallN.pre ?_; first | refine CallN.pure hM1 rfl rfl ?_ | refine CallN.pure hM2 rfl rfl ?_)))); (try (conv => whnf)))




  exact ⟨.inl rfl, ⟨_, rfl, rfl⟩, trivial⟩
set_option maxRecDepth 100000 in
theorem odd_2 (e : E) (a b n : Int) (hb : bE e) (h : 0 ≤ n ∧ n < 40) (hn : (b.tmod 40 + 40).tmod 40 = n) (hm : (a.tmod 15 + 15).tmod 15 = 2) : ∃ e', bE e' ∧ od e a b e' := by
  obtain ⟨r, hr, hr0⟩ : ∃ r : Int, r = n.tmod 4 ∧ 0 ≤ r ∧ r < 4 := ⟨_, rfl, by have := tmod_bound n (m := 4) (by omega); have := tmod_pos 4 (a := n) h.1; omega⟩
  obtain ⟨c, hc, hv⟩ := od2 r hr0
  refine ⟨{ e with student := c }, ⟨hb.school, hb.id, hb.day, hb.on⟩, ?_⟩
  have hd := hb.day
  refine AFun.of_W T_ok mixed Tryd.func10 rfl (Nat.le_of_ble_eq_true rfl) rfl ?_
  have hM1 := Mod_f b 40 (by omega)
  have hM2 := Mod_f a 15 (by omega)
  rw [hn] at hM1
  rw [hm] at hM2
  ((repeat ((conv => whnf); (first | (refine LetN.pre ?_; first | ((conv => arg 1; whnf); refine LetN.mk ?_)) | (refine As.pre ?_; first | refine As.mk rfl ?_ | (refine As.mk ?_ ?_; · ((repeat' (refine andT ?_ ?_)) <;> (first | rfl | assumption | exact decide_eq_true (by omega) | exact decide_eq_true (by dsimp only; omega) | exact decide_eq_true (by simp; omega) | (simp; done))))) | (refine LetV.pre ?_; first | refine LetV.mk (t := 39) _ hv ?_ | refine LetV.mk (.sc (.int _ _)) rfl ?_ | refine LetV.mk (.agg _) rfl ?_) | (refine LetI.pre ?_; first | refine LetI.mk (o := some .rem) r hr ?_) | (refine LetB.pre ?_; first | refine LetB.tt rfl ?_ | refine LetB.ff rfl ?_) | (refine Br.pre ?_; first | refine Br.tt rfl ?_ | refine Br.ff rfl ?_) | (refine Ck.pre ?_; first | refine Ck.mk rfl ?_) | (refine LetL.pre ?_; first | refine LetL.mk (ty := ety) [.agg [_, _, _, _, _, _, _, _, _, _, _, _, _, _, _]] rfl ?_) | (refine CallN.pre ?_; first | refine CallN.pure hM1 rfl rfl ?_ | refine CallN.pure hM2 rfl rfl ?_)))); (try (conv => whnf)))





  exact ⟨.inl rfl, ⟨_, rfl, rfl⟩, trivial⟩
set_option maxRecDepth 100000 in
theorem odd_3 (e : E) (a b n : Int) (hb : bE e) (h : 0 ≤ n ∧ n < 40) (hn : (b.tmod 40 + 40).tmod 40 = n) (hm : (a.tmod 15 + 15).tmod 15 = 3) : ∃ e', bE e' ∧ od e a b e' := by
  obtain ⟨r, hr, hr0⟩ : ∃ r : Int, r = n.tmod 12 ∧ 0 ≤ r ∧ r < 12 := ⟨_, rfl, by have := tmod_bound n (m := 12) (by omega); have := tmod_pos 12 (a := n) h.1; omega⟩
  refine ⟨{ e with kind := r }, ⟨hb.school, hb.id, hb.day, hb.on⟩, ?_⟩
  have hd := hb.day
  refine AFun.of_W T_ok mixed Tryd.func10 rfl (Nat.le_of_ble_eq_true rfl) rfl ?_
  have hM1 := Mod_f b 40 (by omega)
  have hM2 := Mod_f a 15 (by omega)
  rw [hn] at hM1
  rw [hm] at hM2
  ((repeat ((conv => whnf); (first | (refine LetN.pre ?_; first | ((conv => arg 1; whnf); refine LetN.mk ?_)) | (refine As.pre ?_; first | refine As.mk rfl ?_) | (refine LetV.pre ?_; first | refine LetV.mk (.sc (.int _ _)) rfl ?_ | refine LetV.mk (.agg _) rfl ?_) | (refine LetI.pre ?_; first | refine LetI.mk (o := some .rem) r hr ?_) | (refine LetB.pre ?_; first | refine LetB.tt rfl ?_ | refine LetB.ff rfl ?_) | (refine Br.pre ?_; first | refine Br.tt rfl ?_ | refine Br.ff rfl ?_) | (refine Ck.pre ?_; first | refine Ck.mk rfl ?_) | (refine LetL.pre ?_; first | refine LetL.mk (ty := ety) [.agg [_, _, _, _, _, _, _, _, _, _, _, _, _, _, _]] rfl ?_) | (refine CallN.pre ?_; first | refine CallN.pure hM1 rfl rfl ?_ | refine CallN.pure hM2 rfl rfl ?_)))); (try (conv => whnf)))




  exact ⟨.inl rfl, ⟨_, rfl, rfl⟩, trivial⟩
set_option maxRecDepth 100000 in
theorem odd_4 (e : E) (a b n : Int) (hb : bE e) (h : 0 ≤ n ∧ n < 40) (hn : (b.tmod 40 + 40).tmod 40 = n) (hm : (a.tmod 15 + 15).tmod 15 = 4) : ∃ e', bE e' ∧ od e a b e' := by
  obtain ⟨r, hr, hr0⟩ : ∃ r : Int, r = n.tmod 4 ∧ 0 ≤ r ∧ r < 4 := ⟨_, rfl, by have := tmod_bound n (m := 4) (by omega); have := tmod_pos 4 (a := n) h.1; omega⟩
  obtain ⟨c, hc, hv⟩ := od4 r hr0
  refine ⟨{ e with day := c }, ⟨hb.school, hb.id, by dsimp only; omega, hb.on⟩, ?_⟩
  have hd := hb.day
  refine AFun.of_W T_ok mixed Tryd.func10 rfl (Nat.le_of_ble_eq_true rfl) rfl ?_
  have hM1 := Mod_f b 40 (by omega)
  have hM2 := Mod_f a 15 (by omega)
  rw [hn] at hM1
  rw [hm] at hM2
  ((repeat ((conv => whnf); (first | (refine LetN.pre ?_; first | ((conv => arg 1; whnf); refine LetN.mk ?_)) | (refine As.pre ?_; first | refine As.mk rfl ?_ | (refine As.mk ?_ ?_; · ((repeat' (refine andT ?_ ?_)) <;> (first | rfl | assumption | exact decide_eq_true (by omega) | exact decide_eq_true (by dsimp only; omega) | exact decide_eq_true (by simp; omega) | (simp; done))))) | (refine LetV.pre ?_; first | refine LetV.mk (t := 39) _ hv ?_ | refine LetV.mk (.sc (.int _ _)) rfl ?_ | refine LetV.mk (.agg _) rfl ?_) | (refine LetI.pre ?_; first | refine LetI.mk (o := some .rem) r hr ?_) | (refine LetB.pre ?_; first | refine LetB.tt rfl ?_ | refine LetB.ff rfl ?_) | (refine Br.pre ?_; first | refine Br.tt rfl ?_ | refine Br.ff rfl ?_) | (refine Ck.pre ?_; first | refine Ck.mk rfl ?_) | (refine LetL.pre ?_; first | refine LetL.mk (ty := ety) [.agg [_, _, _, _, _, _, _, _, _, _, _, _, _, _, _]] rfl ?_) | (refine CallN.pre ?_; first | refine CallN.pure hM1 rfl rfl ?_ | refine CallN.pure hM2 rfl rfl ?_)))); (try (conv => whnf)))





  exact ⟨.inl rfl, ⟨_, rfl, rfl⟩, trivial⟩
set_option maxRecDepth 100000 in
theorem odd_5 (e : E) (a b n : Int) (hb : bE e) (h : 0 ≤ n ∧ n < 40) (hn : (b.tmod 40 + 40).tmod 40 = n) (hm : (a.tmod 15 + 15).tmod 15 = 5) : ∃ e', bE e' ∧ od e a b e' := by
  obtain ⟨r, hr, hr0⟩ : ∃ r : Int, r = n.tmod 4 ∧ 0 ≤ r ∧ r < 4 := ⟨_, rfl, by have := tmod_bound n (m := 4) (by omega); have := tmod_pos 4 (a := n) h.1; omega⟩
  obtain ⟨c, hc, hv⟩ := od5 e.day r hr0 hb.day
  refine ⟨{ e with on_ := c }, ⟨hb.school, hb.id, hb.day, by dsimp only; omega⟩, ?_⟩
  have hd := hb.day
  refine AFun.of_W T_ok mixed Tryd.func10 rfl (Nat.le_of_ble_eq_true rfl) rfl ?_
  have hM1 := Mod_f b 40 (by omega)
  have hM2 := Mod_f a 15 (by omega)
  rw [hn] at hM1
  rw [hm] at hM2
  ((repeat ((conv => whnf); (first | (refine LetN.pre ?_; first | ((conv => arg 1; whnf); refine LetN.mk ?_)) | (refine As.pre ?_; first | refine As.mk rfl ?_ | (refine As.mk ?_ ?_; · ((repeat' (refine andT ?_ ?_)) <;> (first | rfl | assumption | exact decide_eq_true (by omega) | exact decide_eq_true (by dsimp only; omega) | exact decide_eq_true (by simp; omega) | (simp; done))))) | (refine LetV.pre ?_; first | refine LetV.mk (t := 39) _ hv ?_ | refine LetV.mk (.sc (.int _ _)) rfl ?_ | refine LetV.mk (.agg _) rfl ?_) | (refine LetI.pre ?_; first | refine LetI.mk (o := some .rem) r hr ?_ | refine LetI.wrap (by omega) (by omega) ?_) | (refine LetB.pre ?_; first | refine LetB.tt rfl ?_ | refine LetB.ff rfl ?_) | (refine Br.pre ?_; first | refine Br.tt rfl ?_ | refine Br.ff rfl ?_) | (refine Ck.pre ?_; first | refine Ck.mk rfl ?_) | (refine LetL.pre ?_; first | refine LetL.mk (ty := ety) [.agg [_, _, _, _, _, _, _, _, _, _, _, _, _, _, _]] rfl ?_) | (refine CallN.pre ?_; first | refine CallN.pure hM1 rfl rfl ?_ | refine CallN.pure hM2 rfl rfl ?_)))); (try (conv => whnf)))





  exact ⟨.inl rfl, ⟨_, rfl, rfl⟩, trivial⟩
set_option maxRecDepth 100000 in
theorem odd_6 (e : E) (a b n : Int) (hb : bE e) (h : 0 ≤ n ∧ n < 40) (hn : (b.tmod 40 + 40).tmod 40 = n) (hm : (a.tmod 15 + 15).tmod 15 = 6) : ∃ e', bE e' ∧ od e a b e' := by
  obtain ⟨r, hr, hr0⟩ : ∃ r : Int, r = n.tmod 5 ∧ 0 ≤ r ∧ r < 5 := ⟨_, rfl, by have := tmod_bound n (m := 5) (by omega); have := tmod_pos 5 (a := n) h.1; omega⟩
  obtain ⟨c, hv⟩ := od6 r hr0
  refine ⟨{ e with course := c }, ⟨hb.school, hb.id, hb.day, hb.on⟩, ?_⟩
  have hd := hb.day
  refine AFun.of_W T_ok mixed Tryd.func10 rfl (Nat.le_of_ble_eq_true rfl) rfl ?_
  have hM1 := Mod_f b 40 (by omega)
  have hM2 := Mod_f a 15 (by omega)
  rw [hn] at hM1
  rw [hm] at hM2
  ((repeat ((conv => whnf); (first | (refine LetN.pre ?_; first | ((conv => arg 1; whnf); refine LetN.mk ?_)) | (refine As.pre ?_; first | refine As.mk rfl ?_ | (refine As.mk ?_ ?_; · ((repeat' (refine andT ?_ ?_)) <;> (first | rfl | assumption | exact decide_eq_true (by omega) | exact decide_eq_true (by dsimp only; omega) | exact decide_eq_true (by simp; omega) | (simp; done))))) | (refine LetV.pre ?_; first | refine LetV.mk (t := 61) _ hv ?_ | refine LetV.mk (.sc (.int _ _)) rfl ?_ | refine LetV.mk (.sc _) rfl ?_ | refine LetV.mk (.agg _) rfl ?_) | (refine LetI.pre ?_; first | refine LetI.mk (o := some .rem) r hr ?_) | (refine LetB.pre ?_; first | refine LetB.tt rfl ?_ | refine LetB.ff rfl ?_) | (refine Br.pre ?_; first | refine Br.tt rfl ?_ | refine Br.ff rfl ?_) | (refine Ck.pre ?_; first | refine Ck.mk rfl ?_) | (refine LetL.pre ?_; first | refine LetL.mk (ty := ety) [.agg [_, _, _, _, _, _, _, _, _, _, _, _, _, _, _]] rfl ?_) | (refine CallN.pre ?_; first | refine CallN.pure hM1 rfl rfl ?_ | refine CallN.pure hM2 rfl rfl ?_)))); (try (conv => whnf)))





  exact ⟨.inl rfl, ⟨_, rfl, rfl⟩, trivial⟩
set_option maxRecDepth 100000 in
theorem odd_7 (e : E) (a b n : Int) (hb : bE e) (h : 0 ≤ n ∧ n < 40) (hn : (b.tmod 40 + 40).tmod 40 = n) (hm : (a.tmod 15 + 15).tmod 15 = 7) : ∃ e', bE e' ∧ od e a b e' := by
  obtain ⟨r, hr, hr0⟩ : ∃ r : Int, r = n.tmod 4 ∧ 0 ≤ r ∧ r < 4 := ⟨_, rfl, by have := tmod_bound n (m := 4) (by omega); have := tmod_pos 4 (a := n) h.1; omega⟩
  obtain ⟨c, hc, hv⟩ := od7 r hr0
  refine ⟨{ e with credits := c }, ⟨hb.school, hb.id, hb.day, hb.on⟩, ?_⟩
  have hd := hb.day
  refine AFun.of_W T_ok mixed Tryd.func10 rfl (Nat.le_of_ble_eq_true rfl) rfl ?_
  have hM1 := Mod_f b 40 (by omega)
  have hM2 := Mod_f a 15 (by omega)
  rw [hn] at hM1
  rw [hm] at hM2
  ((repeat ((conv => whnf); (first | (refine LetN.pre ?_; first | ((conv => arg 1; whnf); refine LetN.mk ?_)) | (refine As.pre ?_; first | refine As.mk rfl ?_ | (refine As.mk ?_ ?_; · ((repeat' (refine andT ?_ ?_)) <;> (first | rfl | assumption | exact decide_eq_true (by omega) | exact decide_eq_true (by dsimp only; omega) | exact decide_eq_true (by simp; omega) | (simp; done))))) | (refine LetV.pre ?_; first | refine LetV.mk (t := 39) _ hv ?_ | refine LetV.mk (.sc (.int _ _)) rfl ?_ | refine LetV.mk (.agg _) rfl ?_) | (refine LetI.pre ?_; first | refine LetI.mk (o := some .rem) r hr ?_) | (refine LetB.pre ?_; first | refine LetB.tt rfl ?_ | refine LetB.ff rfl ?_) | (refine Br.pre ?_; first | refine Br.tt rfl ?_ | refine Br.ff rfl ?_) | (refine Ck.pre ?_; first | refine Ck.mk rfl ?_) | (refine LetL.pre ?_; first | refine LetL.mk (ty := ety) [.agg [_, _, _, _, _, _, _, _, _, _, _, _, _, _, _]] rfl ?_) | (refine CallN.pre ?_; first | refine CallN.pure hM1 rfl rfl ?_ | refine CallN.pure hM2 rfl rfl ?_)))); (try (conv => whnf)))





  exact ⟨.inl rfl, ⟨_, rfl, rfl⟩, trivial⟩
set_option maxRecDepth 100000 in
theorem odd_8 (e : E) (a b n : Int) (hb : bE e) (h : 0 ≤ n ∧ n < 40) (hn : (b.tmod 40 + 40).tmod 40 = n) (hm : (a.tmod 15 + 15).tmod 15 = 8) : ∃ e', bE e' ∧ od e a b e' := by
  obtain ⟨r, hr, hr0⟩ : ∃ r : Int, r = n.tmod 6 ∧ 0 ≤ r ∧ r < 6 := ⟨_, rfl, by have := tmod_bound n (m := 6) (by omega); have := tmod_pos 6 (a := n) h.1; omega⟩
  obtain ⟨c, hc, hv⟩ := od8 n r hr0 h
  refine ⟨{ e with grade := c }, ⟨hb.school, hb.id, hb.day, hb.on⟩, ?_⟩
  have hd := hb.day
  refine AFun.of_W T_ok mixed Tryd.func10 rfl (Nat.le_of_ble_eq_true rfl) rfl ?_
  have hM1 := Mod_f b 40 (by omega)
  have hM2 := Mod_f a 15 (by omega)
  rw [hn] at hM1
  rw [hm] at hM2
  ((repeat ((conv => whnf); (first | (refine LetN.pre ?_; first | ((conv => arg 1; whnf); refine LetN.mk ?_)) | (refine As.pre ?_; first | refine As.mk rfl ?_ | (refine As.mk ?_ ?_; · ((repeat' (refine andT ?_ ?_)) <;> (first | rfl | assumption | exact decide_eq_true (by omega) | exact decide_eq_true (by dsimp only; omega) | exact decide_eq_true (by simp; omega) | (simp; done))))) | (refine LetV.pre ?_; first | refine LetV.mk (t := 39) _ hv ?_ | refine LetV.mk (.sc (.int _ _)) rfl ?_ | refine LetV.mk (.agg _) rfl ?_) | (refine LetI.pre ?_; first | refine LetI.mk (o := some .rem) r hr ?_ | refine LetI.wrap (by omega) (by omega) ?_) | (refine LetB.pre ?_; first | refine LetB.tt rfl ?_ | refine LetB.ff rfl ?_) | (refine Br.pre ?_; first | refine Br.tt rfl ?_ | refine Br.ff rfl ?_) | (refine Ck.pre ?_; first | refine Ck.mk rfl ?_) | (refine LetL.pre ?_; first | refine LetL.mk (ty := ety) [.agg [_, _, _, _, _, _, _, _, _, _, _, _, _, _, _]] rfl ?_) | (refine CallN.pre ?_; first | refine CallN.pure hM1 rfl rfl ?_ | refine CallN.pure hM2 rfl rfl ?_)))); (try (conv => whnf)))





  exact ⟨.inl rfl, ⟨_, rfl, rfl⟩, trivial⟩
set_option maxRecDepth 100000 in
theorem odd_9 (e : E) (a b n : Int) (hb : bE e) (h : 0 ≤ n ∧ n < 40) (hn : (b.tmod 40 + 40).tmod 40 = n) (hm : (a.tmod 15 + 15).tmod 15 = 9) : ∃ e', bE e' ∧ od e a b e' := by
  obtain ⟨r, hr, hr0⟩ : ∃ r : Int, r = n.tmod 6 ∧ 0 ≤ r ∧ r < 6 := ⟨_, rfl, by have := tmod_bound n (m := 6) (by omega); have := tmod_pos 6 (a := n) h.1; omega⟩
  obtain ⟨c, hv⟩ := od9 e.id n r hr0
  refine ⟨{ e with ref := c }, ⟨hb.school, hb.id, hb.day, hb.on⟩, ?_⟩
  have hd := hb.day
  refine AFun.of_W T_ok mixed Tryd.func10 rfl (Nat.le_of_ble_eq_true rfl) rfl ?_
  have hM1 := Mod_f b 40 (by omega)
  have hM2 := Mod_f a 15 (by omega)
  rw [hn] at hM1
  rw [hm] at hM2
  ((repeat ((conv => whnf); (first | (refine LetN.pre ?_; first | ((conv => arg 1; whnf); refine LetN.mk ?_)) | (refine As.pre ?_; first | refine As.mk rfl ?_ | (refine As.mk ?_ ?_; · ((repeat' (refine andT ?_ ?_)) <;> (first | rfl | assumption | exact decide_eq_true (by omega) | exact decide_eq_true (by dsimp only; omega) | exact decide_eq_true (by simp; omega) | (simp; done))))) | (refine LetV.pre ?_; first | refine LetV.mk (t := 39) _ hv ?_ | refine LetV.mk (.sc (.int _ _)) rfl ?_ | refine LetV.mk (.agg _) rfl ?_) | (refine LetI.pre ?_; first | refine LetI.mk (o := some .rem) r hr ?_) | (refine LetB.pre ?_; first | refine LetB.tt rfl ?_ | refine LetB.ff rfl ?_) | (refine Br.pre ?_; first | refine Br.tt rfl ?_ | refine Br.ff rfl ?_) | (refine Ck.pre ?_; first | refine Ck.mk rfl ?_) | (refine LetL.pre ?_; first | refine LetL.mk (ty := ety) [.agg [_, _, _, _, _, _, _, _, _, _, _, _, _, _, _]] rfl ?_) | (refine CallN.pre ?_; first | refine CallN.pure hM1 rfl rfl ?_ | refine CallN.pure hM2 rfl rfl ?_)))); (try (conv => whnf)))





  exact ⟨.inl rfl, ⟨_, rfl, rfl⟩, trivial⟩
set_option maxRecDepth 100000 in
theorem odd_10 (e : E) (a b n : Int) (hb : bE e) (h : 0 ≤ n ∧ n < 40) (hn : (b.tmod 40 + 40).tmod 40 = n) (hm : (a.tmod 15 + 15).tmod 15 = 10) : ∃ e', bE e' ∧ od e a b e' := by
  obtain ⟨r, hr, hr0⟩ : ∃ r : Int, r = n.tmod 10 ∧ 0 ≤ r ∧ r < 10 := ⟨_, rfl, by have := tmod_bound n (m := 10) (by omega); have := tmod_pos 10 (a := n) h.1; omega⟩
  refine ⟨{ e with frm := r }, ⟨hb.school, hb.id, hb.day, hb.on⟩, ?_⟩
  have hd := hb.day
  refine AFun.of_W T_ok mixed Tryd.func10 rfl (Nat.le_of_ble_eq_true rfl) rfl ?_
  have hM1 := Mod_f b 40 (by omega)
  have hM2 := Mod_f a 15 (by omega)
  rw [hn] at hM1
  rw [hm] at hM2
  ((repeat ((conv => whnf); (first | (refine LetN.pre ?_; first | ((conv => arg 1; whnf); refine LetN.mk ?_)) | (refine As.pre ?_; first | refine As.mk rfl ?_) | (refine LetV.pre ?_; first | refine LetV.mk (.sc (.int _ _)) rfl ?_ | refine LetV.mk (.agg _) rfl ?_) | (refine LetI.pre ?_; first | refine LetI.mk (o := some .rem) r hr ?_) | (refine LetB.pre ?_; first | refine LetB.tt rfl ?_ | refine LetB.ff rfl ?_) | (refine Br.pre ?_; first | refine Br.tt rfl ?_ | refine Br.ff rfl ?_) | (refine Ck.pre ?_; first | refine Ck.mk rfl ?_) | (refine LetL.pre ?_; first | refine LetL.mk (ty := ety) [.agg [_, _, _, _, _, _, _, _, _, _, _, _, _, _, _]] rfl ?_) | (refine CallN.pre ?_; first | refine CallN.pure hM1 rfl rfl ?_ | refine CallN.pure hM2 rfl rfl ?_)))); (try (conv => whnf)))




  exact ⟨.inl rfl, ⟨_, rfl, rfl⟩, trivial⟩
set_option maxRecDepth 100000 in
theorem odd_11 (e : E) (a b n : Int) (hb : bE e) (h : 0 ≤ n ∧ n < 40) (hn : (b.tmod 40 + 40).tmod 40 = n) (hm : (a.tmod 15 + 15).tmod 15 = 11) : ∃ e', bE e' ∧ od e a b e' := by
  obtain ⟨r, hr, hr0⟩ : ∃ r : Int, r = n.tmod 4 ∧ 0 ≤ r ∧ r < 4 := ⟨_, rfl, by have := tmod_bound n (m := 4) (by omega); have := tmod_pos 4 (a := n) h.1; omega⟩
  refine ⟨{ e with programme := r - 1 }, ⟨hb.school, hb.id, hb.day, hb.on⟩, ?_⟩
  have hd := hb.day
  refine AFun.of_W T_ok mixed Tryd.func10 rfl (Nat.le_of_ble_eq_true rfl) rfl ?_
  have hM1 := Mod_f b 40 (by omega)
  have hM2 := Mod_f a 15 (by omega)
  rw [hn] at hM1
  rw [hm] at hM2
  ((repeat ((conv => whnf); (first | (refine LetN.pre ?_; first | ((conv => arg 1; whnf); refine LetN.mk ?_)) | (refine As.pre ?_; first | refine As.mk rfl ?_) | (refine LetV.pre ?_; first | refine LetV.mk (.sc (.int _ _)) rfl ?_ | refine LetV.mk (.agg _) rfl ?_) | (refine LetI.pre ?_; first | refine LetI.mk (o := some .rem) r hr ?_ | refine LetI.wrap (by omega) (by omega) ?_) | (refine LetB.pre ?_; first | refine LetB.tt rfl ?_ | refine LetB.ff rfl ?_) | (refine Br.pre ?_; first | refine Br.tt rfl ?_ | refine Br.ff rfl ?_) | (refine Ck.pre ?_; first | refine Ck.mk rfl ?_) | (refine LetL.pre ?_; first | refine LetL.mk (ty := ety) [.agg [_, _, _, _, _, _, _, _, _, _, _, _, _, _, _]] rfl ?_) | (refine CallN.pre ?_; first | refine CallN.pure hM1 rfl rfl ?_ | refine CallN.pure hM2 rfl rfl ?_)))); (try (conv => whnf)))




  exact ⟨.inl rfl, ⟨_, rfl, rfl⟩, trivial⟩
set_option maxRecDepth 100000 in
theorem odd_12 (e : E) (a b n : Int) (hb : bE e) (h : 0 ≤ n ∧ n < 40) (hn : (b.tmod 40 + 40).tmod 40 = n) (hm : (a.tmod 15 + 15).tmod 15 = 12) : ∃ e', bE e' ∧ od e a b e' := by
  obtain ⟨r, hr, hr0⟩ : ∃ r : Int, r = n.tmod 4 ∧ 0 ≤ r ∧ r < 4 := ⟨_, rfl, by have := tmod_bound n (m := 4) (by omega); have := tmod_pos 4 (a := n) h.1; omega⟩
  refine ⟨{ e with version := r - 1 }, ⟨hb.school, hb.id, hb.day, hb.on⟩, ?_⟩
  have hd := hb.day
  refine AFun.of_W T_ok mixed Tryd.func10 rfl (Nat.le_of_ble_eq_true rfl) rfl ?_
  have hM1 := Mod_f b 40 (by omega)
  have hM2 := Mod_f a 15 (by omega)
  rw [hn] at hM1
  rw [hm] at hM2
  ((repeat ((conv => whnf); (first | (refine LetN.pre ?_; first | ((conv => arg 1; whnf); refine LetN.mk ?_)) | (refine As.pre ?_; first | refine As.mk rfl ?_) | (refine LetV.pre ?_; first | refine LetV.mk (.sc (.int _ _)) rfl ?_ | refine LetV.mk (.agg _) rfl ?_) | (refine LetI.pre ?_; first | refine LetI.mk (o := some .rem) r hr ?_ | refine LetI.wrap (by omega) (by omega) ?_) | (refine LetB.pre ?_; first | refine LetB.tt rfl ?_ | refine LetB.ff rfl ?_) | (refine Br.pre ?_; first | refine Br.tt rfl ?_ | refine Br.ff rfl ?_) | (refine Ck.pre ?_; first | refine Ck.mk rfl ?_) | (refine LetL.pre ?_; first | refine LetL.mk (ty := ety) [.agg [_, _, _, _, _, _, _, _, _, _, _, _, _, _, _]] rfl ?_) | (refine CallN.pre ?_; first | refine CallN.pure hM1 rfl rfl ?_ | refine CallN.pure hM2 rfl rfl ?_)))); (try (conv => whnf)))




  exact ⟨.inl rfl, ⟨_, rfl, rfl⟩, trivial⟩
set_option maxRecDepth 100000 in
theorem odd_13 (e : E) (a b n : Int) (hb : bE e) (h : 0 ≤ n ∧ n < 40) (hn : (b.tmod 40 + 40).tmod 40 = n) (hm : (a.tmod 15 + 15).tmod 15 = 13) : ∃ e', bE e' ∧ od e a b e' := by
  refine ⟨{ e with key := n - 3 }, ⟨hb.school, hb.id, hb.day, hb.on⟩, ?_⟩
  have hd := hb.day
  refine AFun.of_W T_ok mixed Tryd.func10 rfl (Nat.le_of_ble_eq_true rfl) rfl ?_
  have hM1 := Mod_f b 40 (by omega)
  have hM2 := Mod_f a 15 (by omega)
  rw [hn] at hM1
  rw [hm] at hM2
  ((repeat ((conv => whnf); (first | (refine LetN.pre ?_; first | ((conv => arg 1; whnf); refine LetN.mk ?_)) | (refine As.pre ?_; first | refine As.mk rfl ?_) | (refine LetV.pre ?_; first | refine LetV.mk (.sc (.int _ _)) rfl ?_ | refine LetV.mk (.agg _) rfl ?_) | (refine LetI.pre ?_; first | refine LetI.wrap (by omega) (by omega) ?_) | (refine LetB.pre ?_; first | refine LetB.tt rfl ?_ | refine LetB.ff rfl ?_) | (refine Br.pre ?_; first | refine Br.tt rfl ?_ | refine Br.ff rfl ?_) | (refine Ck.pre ?_; first | refine Ck.mk rfl ?_) | (refine LetL.pre ?_; first | refine LetL.mk (ty := ety) [.agg [_, _, _, _, _, _, _, _, _, _, _, _, _, _, _]] rfl ?_) | (refine CallN.pre ?_; first | refine CallN.pure hM1 rfl rfl ?_ | refine CallN.pure hM2 rfl rfl ?_)))); (try (conv => whnf)))



  exact ⟨.inl rfl, ⟨_, rfl, rfl⟩, trivial⟩
set_option maxRecDepth 100000 in
theorem odd_14 (e : E) (a b n : Int) (hb : bE e) (h : 0 ≤ n ∧ n < 40) (hn : (b.tmod 40 + 40).tmod 40 = n) (hm : (a.tmod 15 + 15).tmod 15 = 14) : ∃ e', bE e' ∧ od e a b e' := by
  obtain ⟨r, hr, hr0⟩ : ∃ r : Int, r = n.tmod 4 ∧ 0 ≤ r ∧ r < 4 := ⟨_, rfl, by have := tmod_bound n (m := 4) (by omega); have := tmod_pos 4 (a := n) h.1; omega⟩
  obtain ⟨c, hv⟩ := od14 r hr0
  refine ⟨{ e with mark := c }, ⟨hb.school, hb.id, hb.day, hb.on⟩, ?_⟩
  have hd := hb.day
  refine AFun.of_W T_ok mixed Tryd.func10 rfl (Nat.le_of_ble_eq_true rfl) rfl ?_
  have hM1 := Mod_f b 40 (by omega)
  have hM2 := Mod_f a 15 (by omega)
  rw [hn] at hM1
  rw [hm] at hM2
  ((repeat ((conv => whnf); (first | (refine LetN.pre ?_; first | ((conv => arg 1; whnf); refine LetN.mk ?_)) | (refine As.pre ?_; first | refine As.mk rfl ?_ | (refine As.mk ?_ ?_; · ((repeat' (refine andT ?_ ?_)) <;> (first | rfl | assumption | exact decide_eq_true (by omega) | exact decide_eq_true (by dsimp only; omega) | exact decide_eq_true (by simp; omega) | (simp; done))))) | (refine LetV.pre ?_; first | refine LetV.mk (t := 61) _ hv ?_ | refine LetV.mk (.sc (.int _ _)) rfl ?_ | refine LetV.mk (.sc _) rfl ?_ | refine LetV.mk (.agg _) rfl ?_) | (refine LetI.pre ?_; first | refine LetI.mk (o := some .rem) r hr ?_) | (refine LetB.pre ?_; first | refine LetB.tt rfl ?_ | refine LetB.ff rfl ?_) | (refine Br.pre ?_; first | refine Br.tt rfl ?_ | refine Br.ff rfl ?_) | (refine Ck.pre ?_; first | refine Ck.mk rfl ?_) | (refine LetL.pre ?_; first | refine LetL.mk (ty := ety) [.agg [_, _, _, _, _, _, _, _, _, _, _, _, _, _, _]] rfl ?_) | (refine CallN.pre ?_; first | refine CallN.pure hM1 rfl rfl ?_ | refine CallN.pure hM2 rfl rfl ?_)))); (try (conv => whnf)))





  exact ⟨.inl rfl, ⟨_, rfl, rfl⟩, trivial⟩
theorem Odd10_f (e : E) (a b : Int) (hb : bE e) : ∃ e', bE e' ∧ od e a b e' := by
  have b1 := tmod_bound b (m := 40) (by omega)
  have p1 := tmod_pos 40 (a := b.tmod 40 + 40) (by omega)
  have b2 := tmod_bound a (m := 15) (by omega)
  have p2 := tmod_pos 15 (a := a.tmod 15 + 15) (by omega)
  have b3 := tmod_bound (b.tmod 40 + 40) (m := 40) (by omega)
  have b4 := tmod_bound (a.tmod 15 + 15) (m := 15) (by omega)
  obtain ⟨m, hm⟩ : ∃ m : Int, m = (a.tmod 15 + 15).tmod 15 := ⟨_, rfl⟩
  have hn : 0 ≤ (b.tmod 40 + 40).tmod 40 ∧ (b.tmod 40 + 40).tmod 40 < 40 := by omega
  have : m = 0 ∨ m = 1 ∨ m = 2 ∨ m = 3 ∨ m = 4 ∨ m = 5 ∨ m = 6 ∨ m = 7 ∨ m = 8 ∨ m = 9 ∨ m = 10 ∨ m = 11 ∨ m = 12 ∨ m = 13 ∨ m = 14 := by omega
  rcases this with rfl | rfl | rfl | rfl | rfl | rfl | rfl | rfl | rfl | rfl | rfl | rfl | rfl | rfl | rfl
  · exact odd_0 e a b _ hb hn rfl hm.symm
  · exact odd_1 e a b _ hb hn rfl hm.symm
  · exact odd_2 e a b _ hb hn rfl hm.symm
  · exact odd_3 e a b _ hb hn rfl hm.symm
  · exact odd_4 e a b _ hb hn rfl hm.symm
  · exact odd_5 e a b _ hb hn rfl hm.symm
  · exact odd_6 e a b _ hb hn rfl hm.symm
  · exact odd_7 e a b _ hb hn rfl hm.symm
  · exact odd_8 e a b _ hb hn rfl hm.symm
  · exact odd_9 e a b _ hb hn rfl hm.symm
  · exact odd_10 e a b _ hb hn rfl hm.symm
  · exact odd_11 e a b _ hb hn rfl hm.symm
  · exact odd_12 e a b _ hb hn rfl hm.symm
  · exact odd_13 e a b _ hb hn rfl hm.symm
  · exact odd_14 e a b _ hb hn rfl hm.symm
end En
end Go.Proofs.YtgnakhljdjekbaaDoor
