/- earn: parts of the proof, DearnFE DearnHA DearnHB DearnSA DearnJF DearnJG DearnJH DearnHC. -/
import Derived.Test.YtiefcppgbnfbfaaL40
import Derived.Test.YtiefcppgbnfbfaaL33
import Derived.Test.YtiefcppgbnfbfaaAmFZ
set_option linter.all false
namespace Go.Proofs.Ytiefcppgbnfbfaa
open Go.Proofs.Ytiefcppgbnfbfaa.Am
set_option maxRecDepth 100000
namespace En
/-! ### The stable sort of a list of less than 40 entries -/
def eqv {α : Type} (lt : α → α → Bool) (a x : α) : Bool := !lt a x && !lt x a
theorem eq_cls {α : Type} {lt : α → α → Bool} (ho : Ord lt) : ∀ (X Y : List α), Sorted lt X → Sorted lt Y → (∀ a, X.filter (eqv lt a) = Y.filter (eqv lt a)) → X = Y := by
  have irr : ∀ x, eqv lt x x = true := fun x => by
    have : lt x x = false := by
      cases h : lt x x with
      | false => rfl
      | true => have := ho.asym _ _ h; rw [h] at this; cases this
    simp [eqv, this]
  intro X
  induction X with
  | nil =>
    intro Y _ _ h
    cases Y with
    | nil => rfl
    | cons y Y => have := h y; rw [List.filter_cons, irr] at this; simp at this
  | cons x X ih =>
    intro Y hX hY h
    cases Y with
    | nil => have := h x; rw [List.filter_cons, irr] at this; simp at this
    | cons y Y =>
      obtain ⟨hX1, hX2⟩ := List.pairwise_cons.1 hX
      obtain ⟨hY1, hY2⟩ := List.pairwise_cons.1 hY
      have mx : x ∈ y :: Y := by
        have : x ∈ (x :: X).filter (eqv lt x) := List.mem_filter.2 ⟨List.mem_cons_self .., irr x⟩
        rw [h x] at this
        exact (List.mem_filter.1 this).1
      have my : y ∈ x :: X := by
        have : y ∈ (y :: Y).filter (eqv lt y) := List.mem_filter.2 ⟨List.mem_cons_self .., irr y⟩
        rw [← h y] at this
        exact (List.mem_filter.1 this).1
      have hxy : x = y := by
        rcases List.mem_cons.1 mx with k | k
        · exact k
        rcases List.mem_cons.1 my with k' | k'
        · exact k'.symm
        have h1 := hY1 x k
        have h2 := hX1 y k'
        have h0 := h x
        rw [List.filter_cons, List.filter_cons, irr, show eqv lt x y = true by simp [eqv, h1, h2]] at h0
        simp only [if_true, List.cons.injEq] at h0
        exact h0.1
      subst hxy
      congr 1
      refine ih Y hX2 hY2 fun a => ?_
      have h1 := h a
      rw [List.filter_cons, List.filter_cons] at h1
      split at h1
      · exact (List.cons.inj h1).2
      · exact h1
theorem S_cls {α : Type} {lt : α → α → Bool} (ho : Ord lt) (a : α) (l : List α) : sortS lt (l.filter (eqv lt a)) = l.filter (eqv lt a) := by
  have key : ∀ m : List α, (∀ x ∈ m, eqv lt a x = true) → Sorted lt m := by
    intro m
    induction m with
    | nil => intro _; exact List.Pairwise.nil
    | cons x m ih =>
      intro h
      refine List.pairwise_cons.2 ⟨fun y hy => ?_, ih fun y hy => h y (List.mem_cons_of_mem _ hy)⟩
      have h1 := h x (List.mem_cons_self ..)
      have h2 := h y (List.mem_cons_of_mem _ hy)
      simp only [eqv, Bool.and_eq_true, Bool.not_eq_true'] at h1 h2
      exact ho.trans _ _ _ h2.2 h1.1
  exact S_id (key _ fun x hx => (List.mem_filter.1 hx).2)
theorem S_two {α : Type} {lt : α → α → Bool} (ho : Ord lt) (A B : List α) : sortS lt (sortS lt A ++ sortS lt B) = sortS lt (A ++ B) := by
  refine eq_cls ho _ _ (S_sorted ho _) (S_sorted ho _) fun a => ?_
  rw [S_filter ho, S_filter ho, List.filter_append, List.filter_append, S_filter ho, S_filter ho, S_cls ho, S_cls ho, ← List.filter_append, S_cls ho]
theorem rowOk1 (l l' : List E) (vs : List AV) (v : AV) (hv : AV.namesL (fun i => decide (i < 1)) vs = true) (hv2 : v.names (fun i => decide (i < 1) || [0].contains i) = true) (he : AV.renL id vs = vs) : CallOk 1 id vs [(0, .row 15 ety (l.map en))] v [(0, .row 15 ety (l'.map en))] [(0, .row 15 ety (l.map en))] vs :=
  CallOk.mk' rfl he.symm hv (namesAll.row (pure_en _) rfl) hv2 (namesAll.row (pure_en _) rfl) (haveAll.row (pure_en _) rfl trivial)
set_option maxRecDepth 100000 in
theorem stable_f (o : Bool) (l : List E) (fl : Fl) (hl : l.length < 40) : AFun Try.prog 102 1 [.slm fl 0 15 0 l.length, int l.length, cmpV o] [(0, .row 15 ety (l.map en))] (.tup []) [(0, .row 15 ety ((srt o l).map en))] := by
  refine AFun.of_S T_ok mixed Try.func102 rfl (Nat.le_of_ble_eq_true rfl) rfl ?_
  rw [srt_S]
  by_cases hs : l.length < 20
  · have hi := insertion_r o [] l [] l l.length 0 l.length fl (by simp) rfl (by simp) rfl (by omega)
    rw [List.nil_append, List.append_nil] at hi
    have ok := rowOkE l (sortS (ltE o) l) [.slm fl 0 15 0 l.length, int (0 : Nat), int l.length, cmpV o] (.tup []) rfl rfl rfl
    generalize sortS (ltE o) l = R at hi ok ⊢
    ((repeat ((conv => whnf); (first | (refine As.pre ?_; first | refine As.mk rfl ?_) | (refine Ck.pre ?_; first | refine Ck.mk rfl ?_)))); (try (conv => whnf)))
    refine LoopN.round T_ok mixed rfl ?_
    ((repeat ((conv => whnf); (first | (refine LetN.pre ?_; first | ((conv => arg 1; whnf); refine LetN.mk ?_)) | (refine As.pre ?_; first | refine As.mk rfl ?_) | (refine LetB.pre ?_; first | refine LetB.decf (by omega) ?_) | (refine Br.pre ?_; first | refine Br.ff rfl ?_) | (refine Ck.pre ?_; first | refine Ck.mk rfl ?_) | (refine LetL.pre ?_; first | refine LetL.mk (ty := ety) _ (renL_none (pure_en _)).symm ?_) | (refine CallN.pre ?_; first | refine CallN.own id hi ok ?_)))); (try (conv => whnf)))


    refine LoopN.round T_ok mixed rfl ?_
    ((repeat ((conv => whnf); (first | (refine As.pre ?_; first | refine As.mk rfl ?_) | (refine LetB.pre ?_; first | refine LetB.decf (by omega) ?_) | (refine Br.pre ?_; first | refine Br.ff rfl ?_) | (refine Ck.pre ?_; first | refine Ck.mk rfl ?_)))); (try (conv => whnf)))
    exact ⟨⟨[], [(0, .row 15 ety (R.map en))], 1⟩, SW.mk id rfl rfl (namesAll.row (pure_en _) rfl) trivial (haveV.row (pure_en _) (by rfl) trivial), .inr rfl, ⟨_, rfl, rfl⟩, rfl, trivial⟩
  have e : l = l.take 20 ++ l.drop 20 := (List.take_append_drop _ _).symm
  have l1 : (l.take 20).length = 20 := by rw [List.length_take]; omega
  have l2 : (l.drop 20).length = l.length - 20 := List.length_drop
  obtain ⟨N, hN⟩ : ∃ N, N = l.length := ⟨_, rfl⟩
  rw [← hN] at l2 hl hs ⊢
  generalize l.take 20 = A at e l1
  generalize l.drop 20 = B at e l2
  have s1 : (sortS (ltE o) A).length = 20 := by rw [(S_perm _ _).length_eq, l1]
  have s2 : (sortS (ltE o) B).length = N - 20 := by rw [(S_perm _ _).length_eq, l2]
  have h1 := insertion_r o [] A B l N 0 20 fl (by rw [e]; rfl) rfl (by rw [l1]) hN (by omega)
  rw [List.nil_append] at h1
  have h2 := insertion_r o (sortS (ltE o) A) B [] (sortS (ltE o) A ++ B) N 20 N fl (by simp) s1.symm (by omega) (by simp; omega) (by omega)
  rw [List.append_nil] at h2
  have ok1 := rowOkE l (sortS (ltE o) A ++ B) [.slm fl 0 15 0 N, int (0 : Nat), int (20 : Nat), cmpV o] (.tup []) rfl rfl rfl
  have ok2 := rowOkE (sortS (ltE o) A ++ B) (sortS (ltE o) A ++ sortS (ltE o) B) [.slm fl 0 15 0 N, int (20 : Nat), int N, cmpV o] (.tup []) rfl rfl rfl
  by_cases h20 : N = 20
  · have hB : B = [] := List.eq_nil_of_length_eq_zero (by omega)
    have hR : sortS (ltE o) l = sortS (ltE o) A ++ sortS (ltE o) B := by rw [e, hB, List.append_nil]; exact (List.append_nil _).symm
    rw [hR]
    ((repeat ((conv => whnf); (first | (refine As.pre ?_; first | refine As.mk rfl ?_) | (refine Ck.pre ?_; first | refine Ck.mk rfl ?_)))); (try (conv => whnf)))
    refine LoopN.round T_ok mixed rfl ?_
    ((repeat ((conv => whnf); (first | (refine LetN.pre ?_; first | ((conv => arg 1; whnf); refine LetN.mk ?_)) | (refine As.pre ?_; first | refine As.mk rfl ?_) | (refine LetI.pre ?_; first | refine LetI.wrap (by omega) (by omega) ?_) | (refine LetB.pre ?_; first | refine LetB.dect (by omega) ?_) | (refine Br.pre ?_; first | refine Br.tt rfl ?_) | (refine Ck.pre ?_; first | refine Ck.mk rfl ?_) | (refine LetL.pre ?_; first | refine LetL.mk (ty := ety) _ (renL_none (pure_en _)).symm ?_) | (refine CallN.pre ?_; first | refine CallN.own id h1 ok1 ?_)))); (try (conv => whnf)))


    refine LoopN.round T_ok mixed rfl ?_
    ((repeat ((conv => whnf); (first | (refine LetN.pre ?_; first | ((conv => arg 1; whnf); refine LetN.mk ?_)) | (refine As.pre ?_; first | refine As.mk rfl ?_) | (refine LetB.pre ?_; first | refine LetB.decf (by omega) ?_) | (refine Br.pre ?_; first | refine Br.ff rfl ?_) | (refine Ck.pre ?_; first | refine Ck.mk rfl ?_) | (refine LetL.pre ?_; first | refine LetL.mk (ty := ety) _ (renL_none (pure_en _)).symm ?_) | (refine CallN.pre ?_; first | refine CallN.own id h2 ok2 ?_)))); (try (conv => whnf)))


    refine LoopN.round T_ok mixed rfl ?_
    ((repeat ((conv => whnf); (first | (refine As.pre ?_; first | refine As.mk rfl ?_) | (refine LetB.pre ?_; first | refine LetB.decf (by omega) ?_) | (refine Br.pre ?_; first | refine Br.ff rfl ?_) | (refine Ck.pre ?_; first | refine Ck.mk rfl ?_)))); (try (conv => whnf)))
    exact ⟨⟨[], erow (sortS (ltE o) A ++ sortS (ltE o) B), 1⟩, SW.mk id rfl rfl (namesAll.row (pure_en _) rfl) trivial (haveV.row (pure_en _) (by rfl) trivial), .inr rfl, ⟨_, rfl, rfl⟩, rfl, trivial⟩
  have h3 := symMerge_f o N [] (sortS (ltE o) A) (sortS (ltE o) B) [] (sortS (ltE o) A ++ sortS (ltE o) B) N 0 20 N fl (by omega) (by simp) (by omega) (by omega) (S_sorted (ord_E o) _) (S_sorted (ord_E o) _) rfl (by omega) (by omega) (by simp; omega) (by omega)
  rw [S_two (ord_E o), ← e, List.nil_append, List.append_nil] at h3
  have ok3 := rowOkE (sortS (ltE o) A ++ sortS (ltE o) B) (sortS (ltE o) l) [.slm fl 0 15 0 N, int (0 : Nat), int (20 : Nat), int N, cmpV o] (.tup []) rfl rfl rfl
  generalize sortS (ltE o) l = R at h3 ok3 ⊢
  ((repeat ((conv => whnf); (first | (refine As.pre ?_; first | refine As.mk rfl ?_) | (refine Ck.pre ?_; first | refine Ck.mk rfl ?_)))); (try (conv => whnf)))
  refine LoopN.round T_ok mixed rfl ?_
  ((repeat ((conv => whnf); (first | (refine LetN.pre ?_; first | ((conv => arg 1; whnf); refine LetN.mk ?_)) | (refine As.pre ?_; first | refine As.mk rfl ?_) | (refine LetI.pre ?_; first | refine LetI.wrap (by omega) (by omega) ?_) | (refine LetB.pre ?_; first | refine LetB.dect (by omega) ?_) | (refine Br.pre ?_; first | refine Br.tt rfl ?_) | (refine Ck.pre ?_; first | refine Ck.mk rfl ?_) | (refine LetL.pre ?_; first | refine LetL.mk (ty := ety) _ (renL_none (pure_en _)).symm ?_) | (refine CallN.pre ?_; first | refine CallN.own id h1 ok1 ?_)))); (try (conv => whnf)))


  refine LoopN.round T_ok mixed rfl ?_
  ((repeat ((conv => whnf); (first | (refine LetN.pre ?_; first | ((conv => arg 1; whnf); refine LetN.mk ?_)) | (refine As.pre ?_; first | refine As.mk rfl ?_) | (refine LetB.pre ?_; first | refine LetB.decf (by omega) ?_) | (refine Br.pre ?_; first | refine Br.ff rfl ?_) | (refine Ck.pre ?_; first | refine Ck.mk rfl ?_) | (refine LetL.pre ?_; first | refine LetL.mk (ty := ety) _ (renL_none (pure_en _)).symm ?_) | (refine CallN.pre ?_; first | refine CallN.own id h2 ok2 ?_)))); (try (conv => whnf)))


  refine LoopN.round T_ok mixed rfl ?_
  ((repeat ((conv => whnf); (first | (refine As.pre ?_; first | refine As.mk rfl ?_) | (refine LetI.pre ?_; first | refine LetI.wrap (by omega) (by omega) ?_) | (refine LetB.pre ?_; first | refine LetB.dect (by omega) ?_) | (refine Br.pre ?_; first | refine Br.tt rfl ?_) | (refine Ck.pre ?_; first | refine Ck.mk rfl ?_)))); (try (conv => whnf)))
  refine LoopN.round T_ok mixed rfl ?_
  ((repeat ((conv => whnf); (first | (refine LetN.pre ?_; first | ((conv => arg 1; whnf); refine LetN.mk ?_)) | (refine As.pre ?_; first | refine As.mk rfl ?_) | (refine LetI.pre ?_; first | refine LetI.wrap (by omega) (by omega) ?_) | (refine LetB.pre ?_; first | refine LetB.dect (by omega) ?_ | refine LetB.decf (by omega) ?_) | (refine Br.pre ?_; first | refine Br.tt rfl ?_ | refine Br.ff rfl ?_) | (refine Ck.pre ?_; first | refine Ck.mk rfl ?_) | (refine LetL.pre ?_; first | refine LetL.mk (ty := ety) _ (renL_none (pure_en _)).symm ?_) | (refine CallN.pre ?_; first | refine CallN.own id h3 ok3 ?_)))); (try (conv => whnf)))


  refine LoopN.round T_ok mixed rfl ?_
  ((repeat ((conv => whnf); (first | (refine As.pre ?_; first | refine As.mk rfl ?_) | (refine LetB.pre ?_; first | refine LetB.decf (by omega) ?_) | (refine Br.pre ?_; first | refine Br.ff rfl ?_) | (refine Ck.pre ?_; first | refine Ck.mk rfl ?_)))); (try (conv => whnf)))
  exact ⟨⟨[], erow R, 1⟩, SW.mk id rfl rfl (namesAll.row (pure_en _) rfl) trivial (haveV.row (pure_en _) (by rfl) trivial), .inr rfl, ⟨_, rfl, rfl⟩, rfl, trivial⟩
theorem sortStable_f (o : Bool) (l : List E) (fl : Fl) (hl : l.length < 40) : AFun Try.prog 85 1 [.slm fl 0 15 0 l.length, cmpV o] [(0, .row 15 ety (l.map en))] (.tup []) [(0, .row 15 ety ((srt o l).map en))] := by
  refine AFun.of_W T_ok mixed Try.func85 rfl (Nat.le_of_ble_eq_true rfl) rfl ?_
  have hi := stable_f o l fl hl
  have ok := rowOk1 l (srt o l) [.slm fl 0 15 0 l.length, int l.length, cmpV o] (.tup []) rfl rfl rfl
  generalize srt o l = R at hi ok ⊢
  ((repeat ((conv => whnf); (first | (refine LetN.pre ?_; first | ((conv => arg 1; whnf); refine LetN.mk ?_)) | (refine As.pre ?_; first | refine As.mk rfl ?_) | (refine LetI.pre ?_; first | refine LetI.mk _ rfl ?_) | (refine Ck.pre ?_; first | refine Ck.mk rfl ?_) | (refine LetL.pre ?_; first | refine LetL.mk (ty := ety) _ (renL_none (pure_en _)).symm ?_) | (refine CallN.pre ?_; first | refine CallN.own id hi ok ?_)))); (try (conv => whnf)))


  exact ⟨.inr rfl, ⟨_, rfl, rfl⟩, rfl, trivial⟩
theorem sorted_f (o : Bool) (l : List E) (fl : Fl) (hl : l.length < 40) : AFun Try.prog 62 1 [.slm fl 0 15 0 l.length, .agg [bool o]] [(0, .row 15 ety (l.map en))] (.slm fl 0 15 0 l.length) [(0, .row 15 ety ((srt o l).map en))] := by
  refine AFun.of_W T_ok mixed Try.func62 rfl (Nat.le_of_ble_eq_true rfl) rfl ?_
  have hi := sortStable_f o l fl hl
  have hnR : ∀ R : List E, CallOk 1 id [.slm fl 0 15 0 l.length, cmpV o] [(0, .row 15 ety (l.map en))] (.tup []) [(0, .row 15 ety (R.map en))] [(0, .row 15 ety (l.map en)), (1, .row 1 109 [.agg [bool o]])] [.slm fl 0 15 0 l.length, cmpV o] := fun R =>
    CallOk.mk' rfl rfl rfl (namesAll.row (pure_en _) rfl) rfl (namesAll.row (pure_en _) rfl) (haveAll.row (pure_en _) rfl trivial)
  generalize srt o l = R at hi ⊢
  have ok := hnR R
  ((repeat ((conv => whnf); (first | (refine LetN.pre ?_; first | ((conv => arg 1; whnf); refine LetN.mk ?_)) | (refine As.pre ?_; first | refine As.mk rfl ?_) | (refine LetV.pre ?_; first | refine LetV.mk (.agg _) rfl ?_) | (refine Ck.pre ?_; first | refine Ck.mk rfl ?_) | (refine LetL.pre ?_; first | refine LetL.mk (ty := ety) _ (renL_none (pure_en _)).symm ?_) | (refine CallN.pre ?_; first | refine CallN.own id hi ok ?_)))); (try (conv => whnf)))


  exact ⟨.inl rfl, ⟨_, rfl, rfl⟩, rfl, trivial⟩
end En
end Go.Proofs.Ytiefcppgbnfbfaa
namespace Go.Proofs.Ytiefcppgbnfbfaa
open Go.Proofs.Ytiefcppgbnfbfaa.Am
set_option maxRecDepth 100000
namespace En
theorem oks1 {a : Cd} (h : a.Ok) : ∀ c ∈ [a], c.Ok := by simpa using h
theorem oks2 {a b : Cd} (h : a.Ok) (k : b.Ok) : ∀ c ∈ [a, b], c.Ok := by
  intro c hc
  simp at hc
  rcases hc with rfl | rfl <;> assumption
theorem oks3 {a b d : Cd} (h : a.Ok) (k : b.Ok) (l : d.Ok) : ∀ c ∈ [a, b, d], c.Ok := by
  intro c hc
  simp at hc
  rcases hc with rfl | rfl | rfl <;> assumption
/-- A finding is lifted. -/
def liftedP (l : List E) (f a o : Int) : Bool := l.any fun e => decide (e.kind = 6) && decide (e.ref = f) && decide (e.day ≤ a ∧ e.on_ ≤ o)
theorem lifted_len (l : List E) (f a o : Int) : liftedP l f a o = decide (((((chos l [cOf 6, cTo f, cCounts a o]).map en).length : Int)) > 0) := by
  rw [Bool.eq_iff_iff, decide_eq_true_eq, List.length_map]
  have : ((chos l [cOf 6, cTo f, cCounts a o]).length : Int) > 0 ↔ 0 < (chos l [cOf 6, cTo f, cCounts a o]).length := by omega
  rw [this, List.length_pos_iff_exists_mem]
  simp [liftedP, chos, and_assoc]
theorem Lifted_f (l : List E) (f a o : Int) (fl : Fl) (hl : l.length ≤ 100000) : AFun Try.prog 67 0 [.ro fl 15 (l.map en), int f, int a, int o] [] (bool (liftedP l f a o)) [] := by
  refine AFun.of_W T_ok mixed Try.func67 rfl (Nat.le_of_ble_eq_true rfl) rfl ?_
  have hc := fun fl' => chosen_f l [cOf 6, cTo f, cCounts a o] (oks3 (cOf_ok 6) (cTo_ok f) (cCounts_ok a o)) fl fl' hl (by simp)
  have hb := lifted_len l f a o
  generalize liftedP l f a o = b at hb ⊢
  generalize chos l [cOf 6, cTo f, cCounts a o] = C at hc hb
  ((repeat ((conv => whnf); (first | (refine As.pre ?_; first | refine As.mk rfl ?_) | (refine LetI.pre ?_; first | refine LetI.mk _ rfl ?_) | (refine LetB.pre ?_; first | refine LetB.mk _ hb ?_) | (refine Ck.pre ?_; first | refine Ck.mk rfl ?_) | (refine CallN.pre ?_; first | refine CallN.pure (of_f _) rfl rfl ?_ | refine CallN.pure (to_f _) rfl rfl ?_ | refine CallN.pure (counts_f _ _) rfl rfl ?_ | refine CallN.pure (hc _) rfl rfl ?_)))); (try (conv => whnf)))





  exact ⟨.inl rfl, ⟨_, rfl, rfl⟩, trivial⟩
theorem take_map_succ {α β : Type} (g : α → β) {l : List α} {k : Nat} (h : k < l.length) (d : α) : (l.take (k + 1)).map g = (l.take k).map g ++ [g (l.getD k d)] := by
  rw [List.take_succ_eq_append_getElem h, List.map_append, List.getD_eq_getElem?_getD, List.getElem?_eq_getElem h]; rfl
end En
end Go.Proofs.Ytiefcppgbnfbfaa
namespace Go.Proofs.Ytiefcppgbnfbfaa
open Go.Proofs.Ytiefcppgbnfbfaa.Am
set_option maxRecDepth 100000
namespace En
/-- A standing. -/
structure St where
  entry : Int
  by_ : Int
  grade : Int
  void : Bool
abbrev stA (s : St) : AV := .agg [int s.entry, int s.by_, int s.grade, bool s.void]
abbrev sty : TypeId := 80
theorem pure_st : ∀ l : List St, AV.namesL (fun _ => false) (l.map stA) = true
  | [] => rfl
  | p :: l => by simp only [List.map_cons, AV.namesL, pure_st l]; rfl
theorem plain_st : ∀ l : List St, AV.plainL (l.map stA) = true
  | [] => rfl
  | p :: l => by simp only [List.map_cons, AV.plainL, plain_st l]; rfl
theorem app_st (l : List St) (e : St) (n : Nat) (h : n = l.length) : (l ++ [e]).map stA = (l.map stA).take n ++ [stA e] := by rw [List.take_of_length_le (by simp [h]), List.map_append]; rfl
theorem room_st {n : Nat} (h : n ≤ 1000000) : room n 32 = true := by
  simp only [room, Bool.and_eq_true, decide_eq_true_eq]
  exact ⟨by omega, rfl⟩
/-- The latest correction: by which entry, its grade, its day, whether there is one. -/
def stepC (x : Int × Int × Int × Bool) (c : E) : Int × Int × Int × Bool := if x.2.2.2 = false ∨ x.2.2.1 < c.day ∨ (c.day = x.2.2.1 ∧ x.1 < c.id) then (c.id, c.grade, c.day, true) else x
def corr (R : List E) (g : E) : Int × Int × Int × Bool := (chos R [cOf 4, cTo g.id]).foldl stepC (0, g.grade, 0, false)
def voidP (R : List E) (a o : Int) (g : E) : Bool := (chos R [cOf 5, cTo g.id]).any fun f => !liftedP R f.id a o
def stand (R : List E) (a o : Int) (g : E) : St := ⟨g.id, (corr R g).1, (corr R g).2.1, voidP R a o g⟩
def atR (l : List E) (a o : Int) : List E := srt false (chos l [cCounts a o])
def atP (l : List E) (a o : Int) : List St := (chos (atR l a o) [cOf 3]).map (stand (atR l a o) a o)
theorem foldl_drop {α β : Type} (f : β → α → β) {l : List α} {k : Nat} (h : k < l.length) (d : α) (x : β) : (l.drop k).foldl f x = (l.drop (k + 1)).foldl f (f x (l.getD k d)) := by
  rw [List.drop_eq_getElem_cons h, List.foldl_cons, List.getD_eq_getElem?_getD, List.getElem?_eq_getElem h]; rfl
theorem any_drop {α : Type} (f : α → Bool) {l : List α} {k : Nat} (h : k < l.length) (d : α) : (l.drop k).any f = (f (l.getD k d) || (l.drop (k + 1)).any f) := by
  rw [List.drop_eq_getElem_cons h, List.any_cons, List.getD_eq_getElem?_getD, List.getElem?_eq_getElem h]; rfl
abbrev atS (R G : List E) (a o : Int) : Nat × List St → AS
  | (k, out) => ⟨[(0, .slm {} 0 15 0 R.length), (1, int a), (2, int o), (6, .slm {} 2 4 0 out.length), (27, .slm {} 1 15 0 G.length), (28, int G.length), (29, int k)], [(0, .row 15 ety (R.map en)), (1, .row 15 ety (G.map en)), (2, .row 4 sty (out.map stA))], 3⟩
abbrev atA (R G C : List E) (a o : Int) (k : Nat) (out : List St) (g : E) : Nat × Int × Int × Int × Bool → AS
  | (i, b, gr, d, s) => ⟨[(0, .slm {} 0 15 0 R.length), (1, int a), (2, int o), (6, .slm {} 2 4 0 out.length), (27, .slm {} 1 15 0 G.length), (28, int G.length), (29, int k), (8, .ptr 3 15 0 0), (9, .ptr 4 4 0 0), (10, int d), (11, bool s), (44, .slm {} 5 15 0 C.length), (45, int C.length), (46, int i)],
      [(0, .row 15 ety (R.map en)), (1, .row 15 ety (G.map en)), (2, .row 4 sty (out.map stA)), (3, .row 15 ety [en g]), (4, .row 4 sty [stA ⟨g.id, b, gr, false⟩]), (5, .row 15 ety (C.map en))], 6⟩
abbrev atB (R G C : List E) (a o : Int) (k : Nat) (out : List St) (g : E) (b gr : Int) : Nat × Bool → AS
  | (i, v) => ⟨[(0, .slm {} 0 15 0 R.length), (1, int a), (2, int o), (6, .slm {} 2 4 0 out.length), (27, .slm {} 1 15 0 G.length), (28, int G.length), (29, int k), (9, .ptr 4 4 0 0), (86, .slm {} 5 15 0 C.length), (87, int C.length), (88, int i)],
      [(0, .row 15 ety (R.map en)), (1, .row 15 ety (G.map en)), (2, .row 4 sty (out.map stA)), (4, .row 4 sty [stA ⟨g.id, b, gr, v⟩]), (5, .row 15 ety (C.map en))], 6⟩
theorem atNames (R G : List E) (out : List St) (ok : Nat → Bool) (H : AH) (h : namesAll ok H = true) : namesAll ok ((0, .row 15 ety (R.map en)) :: (1, .row 15 ety (G.map en)) :: (2, .row 4 sty (out.map stA)) :: H) = true :=
  namesAll.row (pure_en _) (namesAll.row (pure_en _) (namesAll.row (pure_st _) h))
set_option maxHeartbeats 1600000 in
set_option maxRecDepth 100000 in
theorem At_s (l : List E) (a o : Int) (fl : Fl) (hl : l.length < 40) : AFun Try.prog 39 0 [.ro fl 15 (l.map en), int a, int o] [] (.slm {} 0 4 0 (atP l a o).length) [(0, .row 4 sty ((atP l a o).map stA))] := by
  refine AFun.of_S T_ok mixed Try.func39 rfl (Nat.le_of_ble_eq_true rfl) rfl ?_
  have hc := fun fl' => chosen_s l [cCounts a o] (oks1 (cCounts_ok a o)) fl fl' (by omega) (by simp)
  have hl2 : (chos l [cCounts a o]).length ≤ l.length := List.length_filter_le _ _
  rw [atP, atR]
  generalize chos l [cCounts a o] = D at hc hl2 ⊢
  have hs := sorted_f false D {} (by omega)
  have hrl : D.length = (srt false D).length := (srt_length ..).symm
  generalize srt false D = R at hs hrl ⊢
  have hrl2 : D.length = (R.map en).length := by rw [List.length_map, hrl]
  have hc2 := fun fl' => chosen_s R [cOf 3] (oks1 (cOf_ok 3)) {} fl' (by omega) (by simp)
  have hl3 : (chos R [cOf 3]).length ≤ R.length := List.length_filter_le _ _
  generalize chos R [cOf 3] = G at hc2 hl3 ⊢
  ((repeat ((conv => whnf); (first | (refine LetN.pre ?_; first | ((conv => arg 1; whnf); refine LetN.mk ?_)) | (refine As.pre ?_; first | refine As.mk rfl ?_) | (refine LetI.pre ?_; first | refine LetI.mk _ rfl ?_) | (refine Ck.pre ?_; first | refine Ck.mk rfl ?_) | (refine LetL.pre ?_; first | refine LetL.mk (ty := ety) _ (renL_none (pure_en _)).symm ?_ | refine LetL.mk _ rfl ?_) | (refine CallN.pre ?_; first | refine CallN.pure (of_f _) rfl rfl ?_ | refine CallN.pure (counts_f _ _) rfl rfl ?_ | refine CallN.lendOwn 0 (hc _) (.same rfl (.same rfl .nil)) rfl rfl rfl (plain_en _) ?_ | refine CallN.own (fun _ => 0) hs (CallOk.mk' rfl rfl rfl (namesAll.row (pure_en _) rfl) rfl (namesAll.row (pure_en _) rfl) (haveAll.row (pure_en _) rfl trivial)) ?_ | refine CallN.lendOwn 1 (hc2 _) (.full rfl (pure_en _) hrl2 (.same rfl .nil)) rfl rfl rfl (plain_en _) ?_)))); (try (conv => whnf)))






  refine LoopN.weak (s1 := atS R G a o (0, [])) ?sw1 ?_
  case sw1 => exact SW.mk id rfl rfl (atNames _ _ _ _ _ rfl) ⟨VLe2.slm_of hrl.symm, .refl _, .refl _, VLe2.nilslm, .refl _, .refl _, .refl _, trivial⟩ (haveV.row (pure_en _) rfl (haveV.row (pure_en _) rfl (haveV.nil (Nat.le_refl _) trivial)))
  refine LoopN.ind T_ok mixed (S := atS R G a o) (fun i => G.length - i.1) (fun i => i.1 ≤ G.length ∧ i.2 = (G.take i.1).map (stand R a o)) (fun _ => rfl) (fun i hi ih => ?_) (0, []) ⟨Nat.zero_le _, rfl⟩
  obtain ⟨k, out⟩ := i
  obtain ⟨h1, h2⟩ := hi
  simp only at h1 h2 ih
  by_cases hlt : k < G.length
  case neg =>
    have hk : k = G.length := by omega
    subst hk
    rw [List.take_length] at h2
    rw [← h2]
    clear ih
    ((repeat ((conv => whnf); (first | (refine As.pre ?_; first | refine As.mk rfl ?_) | (refine LetB.pre ?_; first | refine LetB.decf (by omega) ?_) | (refine Br.pre ?_; first | refine Br.ff rfl ?_) | (refine Ck.pre ?_; first | refine Ck.mk rfl ?_)))); (try (conv => whnf)))
    exact ⟨⟨[(6, .slm {} 0 4 0 out.length)], [(0, .row 4 sty (out.map stA))], 3⟩, SW.mk (fun _ => 2) rfl rfl (namesAll.row (pure_st _) rfl) ⟨.refl _, trivial⟩ (haveV.row (pure_st _) rfl trivial), .inl rfl, ⟨_, rfl, rfl⟩, rfl, trivial⟩
  have hld : en (G.getD k e0) = Am.part true 15 0 15 ((G.map en).getD (0 + k) (.sc undef)) := getD_en hlt
  have hq := take_map_succ (stand R a o) hlt e0
  rw [← h2] at hq
  have hol : out.length = k := by rw [h2]; simp; omega
  clear h2
  generalize G.getD k e0 = g at hld hq
  have hcC := fun fl' => chosen_s R [cOf 4, cTo g.id] (oks2 (cOf_ok 4) (cTo_ok g.id)) {} fl' (by omega) (by simp)
  have hlC : (chos R [cOf 4, cTo g.id]).length ≤ R.length := List.length_filter_le _ _
  have hcF := fun fl' => chosen_s R [cOf 5, cTo g.id] (oks2 (cOf_ok 5) (cTo_ok g.id)) {} fl' (by omega) (by simp)
  have hlF : (chos R [cOf 5, cTo g.id]).length ≤ R.length := List.length_filter_le _ _
  have hst : stand R a o g = ⟨g.id, ((chos R [cOf 4, cTo g.id]).foldl stepC (0, g.grade, 0, false)).1, ((chos R [cOf 4, cTo g.id]).foldl stepC (0, g.grade, 0, false)).2.1, (chos R [cOf 5, cTo g.id]).any fun f => !liftedP R f.id a o⟩ := rfl
  generalize chos R [cOf 4, cTo g.id] = C at hcC hlC hst
  generalize chos R [cOf 5, cTo g.id] = F at hcF hlF hst
  have hRR : R.length = (R.map en).length := by rw [List.length_map]
  ((repeat ((conv => whnf); (first | (refine LetN.pre ?_; first | ((conv => arg 1; whnf); refine LetN.mk ?_)) | (refine As.pre ?_; first | refine As.mk rfl ?_ | (refine As.mk ?_ ?_; · ((repeat' (refine andT ?_ ?_)) <;> (first | rfl | assumption | exact decide_eq_true (by omega) | exact decide_eq_true (by dsimp only; omega) | exact decide_eq_true (by simp; omega) | (simp; done))))) | (refine LetV.pre ?_; first | refine LetV.mk (t := ety) _ hld ?_ | refine LetV.mk (.sc (.int _ _)) rfl ?_) | (refine LetI.pre ?_; first | refine LetI.mk _ rfl ?_) | (refine LetB.pre ?_; first | refine LetB.dect (by omega) ?_) | (refine Br.pre ?_; first | refine Br.tt rfl ?_) | (refine Ck.pre ?_; first | refine Ck.drawn (by kernel_rfl) ?_ | refine Ck.mk rfl ?_) | (refine LetL.pre ?_; first | refine LetL.mk [_] rfl ?_ | refine LetL.mk _ rfl ?_) | (refine CallN.pre ?_; first | refine CallN.pure (of_f _) rfl rfl ?_ | refine CallN.pure (to_f _) rfl rfl ?_ | refine CallN.lendOwn 5 (hcC _) (.full rfl (pure_en _) hRR (.same rfl .nil)) rfl rfl rfl (plain_en _) ?_)))); (try (conv => whnf)))




  refine LoopN.weak (s1 := atA R G C a o k out g (0, 0, g.grade, 0, false)) ?sw2 ?_
  case sw2 => exact SW.mk id rfl rfl (atNames _ _ _ _ _ (namesAll.row rfl (namesAll.row rfl (namesAll.row (pure_en _) rfl)))) ⟨.refl _, .refl _, .refl _, .refl _, .refl _, .refl _, .refl _, .refl _, .refl _, .refl _, .refl _, .refl _, .refl _, .refl _, trivial⟩ (haveV.row (pure_en _) rfl (haveV.row (pure_en _) rfl (haveV.row (pure_st _) rfl (haveV.row rfl rfl (haveV.row rfl rfl (haveV.row (pure_en _) rfl trivial))))))
  generalize hX : C.foldl stepC (0, g.grade, 0, false) = X at hst
  refine LoopN.ind T_ok mixed (S := atA R G C a o k out g) (fun i => C.length - i.1) (fun i => i.1 ≤ C.length ∧ X = (C.drop i.1).foldl stepC i.2) (fun _ => rfl) (fun i hi ihA => ?_) (0, 0, g.grade, 0, false) ⟨Nat.zero_le _, hX.symm⟩
  obtain ⟨i, b, gr, d, s⟩ := i
  obtain ⟨g1, g2⟩ := hi
  simp only at g1 g2 ihA
  by_cases hiC : i < C.length
  case pos =>
    have hldc : en (C.getD i e0) = Am.part true 15 0 15 ((C.map en).getD (0 + i) (.sc undef)) := getD_en hiC
    rw [foldl_drop stepC hiC e0] at g2
    generalize C.getD i e0 = c at hldc g2
    have next : ∀ (b' gr' d' : Int) (s' : Bool), stepC (b, gr, d, s) c = (b', gr', d', s') → LoopN Try.prog 0 Try.f39.ntmps _ (atA R G C a o k out g (i + 1, b', gr', d', s')) _ := fun b' gr' d' s' hs' => ihA (i + 1, b', gr', d', s') ⟨by omega, by rw [← hs']; exact g2⟩ (by omega)
    clear ihA ih hc hc2 hcC hcF hs
    have fin : ∀ (b' gr' d' : Int) (s' : Bool), namesAll (fun i => decide (i < 0) || (List.map Prod.fst (atA R G C a o k out g (i, b', gr', d', s')).H).contains i) (atA R G C a o k out g (i, b', gr', d', s')).H = true := fun b' gr' d' s' => atNames _ _ _ _ _ (namesAll.row rfl (namesAll.row rfl (namesAll.row (pure_en _) rfl)))
    cases s with
    | false =>
      ((repeat ((conv => whnf); (first | (refine LetN.pre ?_; first | ((conv => arg 1; whnf); refine LetN.mk ?_)) | (refine As.pre ?_; first | refine As.mk rfl ?_ | (refine As.mk ?_ ?_; · ((repeat' (refine andT ?_ ?_)) <;> (first | rfl | assumption | exact decide_eq_true (by omega) | exact decide_eq_true (by dsimp only; omega) | exact decide_eq_true (by simp; omega) | (simp; done))))) | (refine LetV.pre ?_; first | refine LetV.mk (t := ety) _ hldc ?_ | refine LetV.mk (.sc (.int _ _)) rfl ?_) | (refine LetI.pre ?_; first | refine LetI.wrap (by omega) (by omega) ?_) | (refine LetB.pre ?_; first | refine LetB.dect (by omega) ?_) | (refine Gd.pre ?_; first | refine Gd.pass rfl ?_) | (refine Br.pre ?_; first | refine Br.tt rfl ?_) | (refine Ck.pre ?_; first | refine Ck.drawn (by kernel_rfl) ?_ | refine Ck.mk rfl ?_) | (refine LetL.pre ?_; first | refine LetL.mk [_] rfl ?_)))); (try (conv => whnf)))
      refine LoopN.weak ?sw3 (next c.id c.grade c.day true (if_pos (.inl rfl)))
      case sw3 => exact SW.mk id rfl rfl (atNames _ _ _ _ _ (namesAll.row rfl (namesAll.row rfl (namesAll.row (pure_en _) rfl)))) ⟨.refl _, .refl _, .refl _, .refl _, .refl _, .refl _, .refl _, .refl _, .refl _, .refl _, .refl _, .refl _, .refl _, VLe2.int (by omega), trivial⟩ (haveV.row (pure_en _) rfl (haveV.row (pure_en _) rfl (haveV.row (pure_st _) rfl (haveV.row rfl rfl (haveV.row rfl rfl (haveV.row (pure_en _) rfl trivial))))))
    | true =>
      by_cases q1 : d < c.day
      · ((repeat ((conv => whnf); (first | (refine LetN.pre ?_; first | ((conv => arg 1; whnf); refine LetN.mk ?_)) | (refine As.pre ?_; first | refine As.mk rfl ?_ | (refine As.mk ?_ ?_; · ((repeat' (refine andT ?_ ?_)) <;> (first | rfl | assumption | exact decide_eq_true (by omega) | exact decide_eq_true (by dsimp only; omega) | exact decide_eq_true (by simp; omega) | (simp; done))))) | (refine LetV.pre ?_; first | refine LetV.mk (t := ety) _ hldc ?_ | refine LetV.mk (.sc (.int _ _)) rfl ?_) | (refine LetI.pre ?_; first | refine LetI.wrap (by omega) (by omega) ?_) | (refine LetB.pre ?_; first | refine LetB.dect (by omega) ?_) | (refine Gd.pre ?_; first | refine Gd.run rfl ?_ | refine Gd.pass rfl ?_) | (refine Br.pre ?_; first | refine Br.tt rfl ?_) | (refine Ck.pre ?_; first | refine Ck.drawn (by kernel_rfl) ?_ | refine Ck.mk rfl ?_) | (refine LetL.pre ?_; first | refine LetL.mk [_] rfl ?_)))); (try (conv => whnf)))
        refine LoopN.weak ?sw4 (next c.id c.grade c.day true (if_pos (.inr (.inl q1))))
        case sw4 => exact SW.mk id rfl rfl (atNames _ _ _ _ _ (namesAll.row rfl (namesAll.row rfl (namesAll.row (pure_en _) rfl)))) ⟨.refl _, .refl _, .refl _, .refl _, .refl _, .refl _, .refl _, .refl _, .refl _, .refl _, .refl _, .refl _, .refl _, VLe2.int (by omega), trivial⟩ (haveV.row (pure_en _) rfl (haveV.row (pure_en _) rfl (haveV.row (pure_st _) rfl (haveV.row rfl rfl (haveV.row rfl rfl (haveV.row (pure_en _) rfl trivial))))))
      · by_cases q2 : c.day = d
        · by_cases q3 : b < c.id
          · ((repeat ((conv => whnf); (first | (refine LetN.pre ?_; first | ((conv => arg 1; whnf); refine LetN.mk ?_)) | (refine As.pre ?_; first | refine As.mk rfl ?_ | (refine As.mk ?_ ?_; · ((repeat' (refine andT ?_ ?_)) <;> (first | rfl | assumption | exact decide_eq_true (by omega) | exact decide_eq_true (by dsimp only; omega) | exact decide_eq_true (by simp; omega) | (simp; done))))) | (refine LetV.pre ?_; first | refine LetV.mk (t := ety) _ hldc ?_ | refine LetV.mk (.sc (.int _ _)) rfl ?_) | (refine LetI.pre ?_; first | refine LetI.wrap (by omega) (by omega) ?_) | (refine LetB.pre ?_; first | refine LetB.dect (by omega) ?_ | refine LetB.decf (by omega) ?_) | (refine Gd.pre ?_; first | refine Gd.run rfl ?_) | (refine Br.pre ?_; first | refine Br.tt rfl ?_) | (refine Ck.pre ?_; first | refine Ck.drawn (by kernel_rfl) ?_ | refine Ck.mk rfl ?_) | (refine LetL.pre ?_; first | refine LetL.mk [_] rfl ?_)))); (try (conv => whnf)))
            refine LoopN.weak ?sw5 (next c.id c.grade c.day true (if_pos (.inr (.inr ⟨q2, q3⟩))))
            case sw5 => exact SW.mk id rfl rfl (atNames _ _ _ _ _ (namesAll.row rfl (namesAll.row rfl (namesAll.row (pure_en _) rfl)))) ⟨.refl _, .refl _, .refl _, .refl _, .refl _, .refl _, .refl _, .refl _, .refl _, .refl _, .refl _, .refl _, .refl _, VLe2.int (by omega), trivial⟩ (haveV.row (pure_en _) rfl (haveV.row (pure_en _) rfl (haveV.row (pure_st _) rfl (haveV.row rfl rfl (haveV.row rfl rfl (haveV.row (pure_en _) rfl trivial))))))
          · ((repeat ((conv => whnf); (first | (refine LetN.pre ?_; first | ((conv => arg 1; whnf); refine LetN.mk ?_)) | (refine As.pre ?_; first | refine As.mk rfl ?_ | (refine As.mk ?_ ?_; · ((repeat' (refine andT ?_ ?_)) <;> (first | rfl | assumption | exact decide_eq_true (by omega) | exact decide_eq_true (by dsimp only; omega) | exact decide_eq_true (by simp; omega) | (simp; done))))) | (refine LetV.pre ?_; first | refine LetV.mk (t := ety) _ hldc ?_ | refine LetV.mk (.sc (.int _ _)) rfl ?_) | (refine LetI.pre ?_; first | refine LetI.wrap (by omega) (by omega) ?_) | (refine LetB.pre ?_; first | refine LetB.dect (by omega) ?_ | refine LetB.decf (by omega) ?_) | (refine Gd.pre ?_; first | refine Gd.run rfl ?_) | (refine Br.pre ?_; first | refine Br.tt rfl ?_ | refine Br.ff rfl ?_) | (refine Ck.pre ?_; first | refine Ck.mk rfl ?_) | (refine LetL.pre ?_; first | refine LetL.mk [_] rfl ?_)))); (try (conv => whnf)))
            refine LoopN.weak ?sw6 (next b gr d true (if_neg (by rintro (h | h | h) <;> simp at h <;> omega)))
            case sw6 => exact SW.mk id rfl rfl (atNames _ _ _ _ _ (namesAll.row rfl (namesAll.row rfl (namesAll.row (pure_en _) rfl)))) ⟨.refl _, .refl _, .refl _, .refl _, .refl _, .refl _, .refl _, .refl _, .refl _, .refl _, .refl _, .refl _, .refl _, VLe2.int (by omega), trivial⟩ (haveV.row (pure_en _) rfl (haveV.row (pure_en _) rfl (haveV.row (pure_st _) rfl (haveV.row rfl rfl (haveV.row rfl rfl (haveV.row (pure_en _) rfl trivial))))))
        · ((repeat ((conv => whnf); (first | (refine LetN.pre ?_; first | ((conv => arg 1; whnf); refine LetN.mk ?_)) | (refine As.pre ?_; first | refine As.mk rfl ?_ | (refine As.mk ?_ ?_; · ((repeat' (refine andT ?_ ?_)) <;> (first | rfl | assumption | exact decide_eq_true (by omega) | exact decide_eq_true (by dsimp only; omega) | exact decide_eq_true (by simp; omega) | (simp; done))))) | (refine LetV.pre ?_; first | refine LetV.mk (t := ety) _ hldc ?_ | refine LetV.mk (.sc (.int _ _)) rfl ?_) | (refine LetI.pre ?_; first | refine LetI.wrap (by omega) (by omega) ?_) | (refine LetB.pre ?_; first | refine LetB.dect (by omega) ?_ | refine LetB.decf (by omega) ?_) | (refine Gd.pre ?_; first | refine Gd.run rfl ?_ | refine Gd.pass rfl ?_) | (refine Br.pre ?_; first | refine Br.tt rfl ?_ | refine Br.ff rfl ?_) | (refine Ck.pre ?_; first | refine Ck.mk rfl ?_) | (refine LetL.pre ?_; first | refine LetL.mk [_] rfl ?_)))); (try (conv => whnf)))
          refine LoopN.weak ?sw7 (next b gr d true (if_neg (by rintro (h | h | h) <;> simp at h <;> omega)))
          case sw7 => exact SW.mk id rfl rfl (atNames _ _ _ _ _ (namesAll.row rfl (namesAll.row rfl (namesAll.row (pure_en _) rfl)))) ⟨.refl _, .refl _, .refl _, .refl _, .refl _, .refl _, .refl _, .refl _, .refl _, .refl _, .refl _, .refl _, .refl _, VLe2.int (by omega), trivial⟩ (haveV.row (pure_en _) rfl (haveV.row (pure_en _) rfl (haveV.row (pure_st _) rfl (haveV.row rfl rfl (haveV.row rfl rfl (haveV.row (pure_en _) rfl trivial))))))
  case neg =>
    clear ihA
    rw [List.drop_eq_nil_of_le (by omega), List.foldl_nil] at g2
    rw [g2] at hst
    simp only at hst
    ((repeat ((conv => whnf); (first | (refine LetN.pre ?_; first | ((conv => arg 1; whnf); refine LetN.mk ?_)) | (refine As.pre ?_; first | refine As.mk rfl ?_) | (refine LetV.pre ?_; first | refine LetV.mk (.sc (.int _ _)) rfl ?_) | (refine LetI.pre ?_; first | refine LetI.mk _ rfl ?_) | (refine LetB.pre ?_; first | refine LetB.decf (by omega) ?_) | (refine Br.pre ?_; first | refine Br.ff rfl ?_) | (refine Ck.pre ?_; first | refine Ck.drawn (by kernel_rfl) ?_ | refine Ck.mk rfl ?_) | (refine LetL.pre ?_; first | refine LetL.mk _ rfl ?_) | (refine CallN.pre ?_; first | refine CallN.pure (of_f _) rfl rfl ?_ | refine CallN.pure (to_f _) rfl rfl ?_ | refine CallN.lendOwn 6 (hcF _) (.full rfl (pure_en _) hRR (.same rfl .nil)) rfl rfl rfl (plain_en _) ?_)))); (try (conv => whnf)))



    refine LoopN.weak (s1 := atB R G F a o k out g b gr (0, false)) ?sw8 ?_
    case sw8 => exact SW.mk (fun i => if i = 5 then 6 else i) rfl rfl (atNames _ _ _ _ _ (namesAll.row rfl (namesAll.row (pure_en _) rfl))) ⟨.refl _, .refl _, .refl _, .refl _, .refl _, .refl _, .refl _, .refl _, .refl _, .refl _, .refl _, trivial⟩ (haveV.row (pure_en _) rfl (haveV.row (pure_en _) rfl (haveV.row (pure_st _) rfl (haveV.row rfl rfl (haveV.row (pure_en _) rfl trivial)))))
    generalize hY : (F.any fun f => !liftedP R f.id a o) = Y at hst
    refine LoopN.ind T_ok mixed (S := atB R G F a o k out g b gr) (fun i => F.length - i.1) (fun i => i.1 ≤ F.length ∧ Y = (i.2 || (F.drop i.1).any fun f => !liftedP R f.id a o)) (fun _ => rfl) (fun i hi ihB => ?_) (0, false) ⟨Nat.zero_le _, by rw [← hY]; rfl⟩
    obtain ⟨i, v⟩ := i
    obtain ⟨g3, g4⟩ := hi
    simp only at g3 g4 ihB
    by_cases hiF : i < F.length
    case pos =>
      have hldf : en (F.getD i e0) = Am.part true 15 0 15 ((F.map en).getD (0 + i) (.sc undef)) := getD_en hiF
      rw [any_drop _ hiF e0] at g4
      generalize F.getD i e0 = f at hldf g4
      have hL := Lifted_f R f.id a o {} (by omega)
      generalize liftedP R f.id a o = u at hL g4
      have hgo : Y = ((v || !u) || (F.drop (i + 1)).any fun f => !liftedP R f.id a o) := by rw [g4, Bool.or_assoc]
      clear g4 ih hc hc2 hcC hcF hs
      cases v with
      | true =>
        ((repeat ((conv => whnf); (first | (refine LetN.pre ?_; first | ((conv => arg 1; whnf); refine LetN.mk ?_)) | (refine As.pre ?_; first | refine As.mk rfl ?_ | (refine As.mk ?_ ?_; · ((repeat' (refine andT ?_ ?_)) <;> (first | rfl | assumption | exact decide_eq_true (by omega) | exact decide_eq_true (by dsimp only; omega) | exact decide_eq_true (by simp; omega) | (simp; done))))) | (refine LetV.pre ?_; first | refine LetV.mk (t := ety) _ hldf ?_ | refine LetV.mk (.sc (.bool _)) rfl ?_) | (refine LetI.pre ?_; first | refine LetI.wrap (by omega) (by omega) ?_) | (refine LetB.pre ?_; first | refine LetB.dect (by omega) ?_) | (refine Gd.pre ?_; first | refine Gd.pass rfl ?_) | (refine Br.pre ?_; first | refine Br.tt rfl ?_) | (refine Ck.pre ?_; first | refine Ck.mk rfl ?_) | (refine LetL.pre ?_; first | refine LetL.mk [_] rfl ?_)))); (try (conv => whnf)))
        refine LoopN.weak ?sw9 (ihB (i + 1, true) ⟨by omega, hgo⟩ (by omega))
        case sw9 => exact SW.mk id rfl rfl (atNames _ _ _ _ _ (namesAll.row rfl (namesAll.row (pure_en _) rfl))) ⟨.refl _, .refl _, .refl _, .refl _, .refl _, .refl _, .refl _, .refl _, .refl _, .refl _, VLe2.int (by omega), trivial⟩ (haveV.row (pure_en _) rfl (haveV.row (pure_en _) rfl (haveV.row (pure_st _) rfl (haveV.row rfl rfl (haveV.row (pure_en _) rfl trivial)))))
      | false =>
        ((repeat ((conv => whnf); (first | (refine LetN.pre ?_; first | ((conv => arg 1; whnf); refine LetN.mk ?_)) | (refine As.pre ?_; first | refine As.mk rfl ?_ | (refine As.mk ?_ ?_; · ((repeat' (refine andT ?_ ?_)) <;> (first | rfl | assumption | exact decide_eq_true (by omega) | exact decide_eq_true (by dsimp only; omega) | exact decide_eq_true (by simp; omega) | (simp; done))))) | (refine LetV.pre ?_; first | refine LetV.mk (t := ety) _ hldf ?_ | refine LetV.mk (.sc (.int _ _)) rfl ?_ | refine LetV.mk (.sc (.bool _)) rfl ?_) | (refine LetI.pre ?_; first | refine LetI.wrap (by omega) (by omega) ?_) | (refine LetB.pre ?_; first | refine LetB.dect (by omega) ?_) | (refine Gd.pre ?_; first | refine Gd.run rfl ?_) | (refine Br.pre ?_; first | refine Br.tt rfl ?_) | (refine Ck.pre ?_; first | refine Ck.mk rfl ?_) | (refine LetL.pre ?_; first | refine LetL.mk [_] rfl ?_) | (refine CallN.pre ?_; first | refine CallN.lend hL rfl (.full rfl (pure_en _) hRR (.same rfl (.same rfl (.same rfl .nil)))) ?_)))); (try (conv => whnf)))


        refine LoopN.weak ?sw10 (ihB (i + 1, !u) ⟨by omega, hgo⟩ (by omega))
        case sw10 => exact SW.mk id rfl rfl (atNames _ _ _ _ _ (namesAll.row rfl (namesAll.row (pure_en _) rfl))) ⟨.refl _, .refl _, .refl _, .refl _, .refl _, .refl _, .refl _, .refl _, .refl _, .refl _, VLe2.int (by omega), trivial⟩ (haveV.row (pure_en _) rfl (haveV.row (pure_en _) rfl (haveV.row (pure_st _) rfl (haveV.row rfl rfl (haveV.row (pure_en _) rfl trivial)))))
    case neg =>
      clear ihB
      rw [List.drop_eq_nil_of_le (by omega), List.any_nil, Bool.or_false] at g4
      rw [g4] at hst
      rw [hst] at hq
      have hr := room_st (n := out.length + 1) (by omega)
      have hol2 : (out.map stA).length = out.length := List.length_map _
      ((repeat ((conv => whnf); (first | (refine LetN.pre ?_; first | ((conv => arg 1; whnf); refine LetN.mk ?_)) | (refine As.pre ?_; first | refine As.mk rfl ?_ | (refine As.mk ?_ ?_; · ((repeat' (refine andT ?_ ?_)) <;> (first | rfl | assumption | exact decide_eq_true (by omega) | exact decide_eq_true (by dsimp only; omega) | exact decide_eq_true (by simp; omega) | (simp; done))))) | (refine LetV.pre ?_; first | refine LetV.mk (.agg _) rfl ?_) | (refine LetI.pre ?_; first | refine LetI.wrap (by omega) (by omega) ?_) | (refine LetB.pre ?_; first | refine LetB.decf (by omega) ?_) | (refine Br.pre ?_; first | refine Br.ff rfl ?_) | (refine Ck.pre ?_; first | refine Ck.mk rfl ?_) | (refine LetL.pre ?_; first | refine LetL.mk (ty := sty) _ (app_st out ⟨g.id, b, gr, v⟩ _ rfl) ?_)))); (try (conv => whnf)))

      refine LoopN.weak ?sw11 (ih (k + 1, out ++ [⟨g.id, b, gr, v⟩]) ⟨by omega, hq.symm⟩ (by omega))
      case sw11 => exact SW.mk (fun i => if i = 2 then 6 else i) rfl rfl (atNames _ _ _ _ _ rfl) ⟨.refl _, .refl _, .refl _, VLe2.slm_of (by simp), .refl _, .refl _, VLe2.int (by omega), trivial⟩ (haveV.row (pure_en _) rfl (haveV.row (pure_en _) rfl (haveV.row (pure_st _) rfl trivial)))
theorem At_f (l : List E) (a o : Int) (fl : Fl) (hl : l.length < 40) : AFun Try.prog 39 0 [.ro fl 15 (l.map en), int a, int o] [] (.ro {} 4 ((atP l a o).map stA)) [] :=
  AFun.frz1 (H := []) (At_s l a o fl hl) rfl (pure_st _) (by simp)
end En
end Go.Proofs.Ytiefcppgbnfbfaa
namespace Go.Proofs.Ytiefcppgbnfbfaa
open Go.Proofs.Ytiefcppgbnfbfaa.Am
set_option maxRecDepth 100000
namespace Sc
abbrev int (a : Int) : AV := .sc (.int .i64 a)
abbrev bool (b : Bool) : AV := .sc (.bool b)
abbrev Scl := Int × Int × Int
abbrev scA (s : Scl) : AV := .agg [int s.1, int s.2.1, int s.2.2]
def lim (n a b : Int) : Int := max (min a b) (min n (max a b))
theorem lim_spec (n a b : Int) : lim n a b = max (min a b) (min n (max a b)) := rfl
theorem limited_f (n a b : Int) : AFun Try.prog 72 0 [int n, int a, int b] [] (int (lim n a b)) [] := by
  refine AFun.of_W T_ok mixed Try.func72 rfl (Nat.le_of_ble_eq_true rfl) rfl ?_
  ((repeat ((conv => whnf); (first | (refine As.pre ?_; first | refine As.mk rfl ?_) | (refine LetI.pre ?_; first | refine LetI.mk _ rfl ?_) | (refine Ck.pre ?_; first | refine Ck.mk rfl ?_)))); (try (conv => whnf)))
  refine ⟨.inl rfl, ⟨_, rfl, congrArg int ?_⟩, trivial⟩
  simp only [lim, Bool.false_eq_true, if_false, if_true]
  repeat' split
  all_goals omega
theorem near_f (n m : Int) (hm : 0 ≤ m ∧ m ≤ 100000) : AFun Try.prog 74 0 [int n, int m] [] (bool (decide (-m ≤ n ∧ n ≤ m))) [] := by
  refine AFun.of_W T_ok mixed Try.func74 rfl (Nat.le_of_ble_eq_true rfl) rfl ?_
  repeat' ((conv => whnf); (first | (refine As.pre ?_; first | refine As.mk rfl ?_) | (refine LetI.pre ?_; first | refine LetI.wrap (by omega) (by omega) ?_) | (refine LetB.pre ?_; first | (refine LetB.dec (fun _ => ?_) (fun _ => ?_))) | (refine Gd.pre ?_; first | refine Gd.run rfl ?_ | refine Gd.pass rfl ?_) | (refine Ck.pre ?_; first | refine Ck.mk rfl ?_)))
  all_goals (refine ⟨by first | exact .inl rfl | exact .inr rfl, ⟨_, rfl, congrArg (fun b => Go.Proofs.Ytiefcppgbnfbfaa.Am.AV.sc (Go.Value.bool b)) (by first | exact (decide_eq_true (by omega)).symm | exact (decide_eq_false (by omega)).symm | exact Bool.eq_iff_iff.2 (by simp only [decide_eq_true_eq, decide_eq_false_iff_not]; omega) | rfl)⟩, trivial⟩)
/-- A scale is right. -/
abbrev okS (s : Scl) : Prop := (-1000 ≤ s.1 ∧ s.1 ≤ 1000) ∧ (-1000 ≤ s.2.1 ∧ s.2.1 ≤ 1000) ∧ s.1 ≠ s.2.1 ∧ min s.1 s.2.1 ≤ s.2.2 ∧ s.2.2 ≤ max s.1 s.2.1
def chk (s : Scl) : Int := if okS s then 0 else 10
theorem chk_spec (s : Scl) : (chk s = 0 ∧ okS s) ∨ (chk s = 10 ∧ ¬ okS s) := by
  unfold chk; split
  · exact .inl ⟨rfl, by assumption⟩
  · exact .inr ⟨rfl, by assumption⟩
theorem Check_f (s : Scl) : AFun Try.prog 104 0 [scA s] [] (int (chk s)) [] := by
  refine AFun.of_W T_ok mixed Try.func104 rfl (Nat.le_of_ble_eq_true rfl) rfl ?_
  have h0 := chk_spec s
  have h1 := lim_spec s.1 (-1000) 1000
  have h2 := lim_spec s.2.1 (-1000) 1000
  have h3 := lim_spec s.2.2 s.1 s.2.1
  ((repeat ((conv => whnf); (first | (refine LetN.pre ?_; first | ((conv => arg 1; whnf); refine LetN.mk ?_)) | (refine As.pre ?_; first | refine As.mk rfl ?_) | (refine LetV.pre ?_; first | refine LetV.mk (.sc (.int _ _)) rfl ?_) | (refine LetI.pre ?_; first | refine LetI.mk _ rfl ?_) | (refine Ck.pre ?_; first | refine Ck.mk rfl ?_)))); (try (conv => whnf)))
  refine LoopN.round T_ok mixed rfl ?_
  repeat' ((conv => whnf); (first | (refine As.pre ?_; first | refine As.mk rfl ?_) | (refine LetV.pre ?_; first | refine LetV.mk (.sc (.int _ _)) rfl ?_) | (refine LetI.pre ?_; first | refine LetI.wrap (by omega) (by omega) ?_) | (refine LetB.pre ?_; first | refine LetB.tt rfl ?_ | refine LetB.ff rfl ?_ | (refine LetB.dec (fun _ => ?_) (fun _ => ?_)) | (refine LetB.bne (fun _ => ?_) (fun _ => ?_))) | (refine Gd.pre ?_; first | refine Gd.run rfl ?_ | refine Gd.pass rfl ?_) | (refine Br.pre ?_; first | refine Br.tt rfl ?_ | refine Br.ff rfl ?_) | (refine Ck.pre ?_; first | refine Ck.drawn (by kernel_rfl) ?_ | refine Ck.mk rfl ?_) | (refine CallN.pre ?_; first | refine CallN.pure (limited_f _ _ _) rfl rfl ?_) | (refine LoopN.round T_ok mixed rfl ?_)))
  all_goals (refine ⟨by first | exact .inl rfl | exact .inr rfl, ⟨_, rfl, congrArg (fun b => Go.Proofs.Ytiefcppgbnfbfaa.Am.AV.sc (Go.Value.int .i64 b)) (by first | omega | rfl)⟩, trivial⟩)
theorem refCheck_f (s : Scl) : AFun Try.prog 99 0 [scA s] [] (int (chk s)) [] := by
  refine AFun.of_W T_ok mixed Try.func99 rfl (Nat.le_of_ble_eq_true rfl) rfl ?_
  have h0 := chk_spec s
  repeat' ((conv => whnf); (first | (refine LetN.pre ?_; first | ((conv => arg 1; whnf); refine LetN.mk ?_)) | (refine As.pre ?_; first | refine As.mk rfl ?_) | (refine LetV.pre ?_; first | refine LetV.mk (.sc (.int _ _)) rfl ?_) | (refine LetI.pre ?_; first | refine LetI.mk _ rfl ?_) | (refine LetB.pre ?_; first | (refine LetB.dec (fun _ => ?_) (fun _ => ?_))) | (refine Gd.pre ?_; first | refine Gd.run rfl ?_ | refine Gd.pass rfl ?_) | (refine Br.pre ?_; first | refine Br.tt rfl ?_ | refine Br.ff rfl ?_) | (refine Ck.pre ?_; first | refine Ck.mk rfl ?_) | (refine CallN.pre ?_; first | refine CallN.dec (near_f _ 1000 (by omega)) rfl (fun _ => ?_) (fun _ => ?_))))
  all_goals (refine ⟨by first | exact .inl rfl | exact .inr rfl, ⟨_, rfl, congrArg (fun b => Go.Proofs.Ytiefcppgbnfbfaa.Am.AV.sc (Go.Value.int .i64 b)) (by first | omega | rfl)⟩, trivial⟩)
/-- A grade lies on a scale. -/
abbrev onS (s : Scl) (g : Int) : Prop := okS s ∧ min s.1 s.2.1 ≤ g ∧ g ≤ max s.1 s.2.1
abbrev rgt (s : Scl) (g : Int) : Bool := decide (onS s g)
theorem Right_f (s : Scl) (g : Int) : AFun Try.prog 92 0 [scA s, int g] [] (bool (rgt s g)) [] := by
  refine AFun.of_W T_ok mixed Try.func92 rfl (Nat.le_of_ble_eq_true rfl) rfl ?_
  have h0 := chk_spec s
  have h1 := lim_spec g s.1 s.2.1
  repeat' ((conv => whnf); (first | (refine LetN.pre ?_; first | ((conv => arg 1; whnf); refine LetN.mk ?_)) | (refine As.pre ?_; first | refine As.mk rfl ?_) | (refine LetV.pre ?_; first | refine LetV.mk (.sc (.int _ _)) rfl ?_ | refine LetV.mk (.agg _) rfl ?_) | (refine LetB.pre ?_; first | (refine LetB.dec (fun _ => ?_) (fun _ => ?_))) | (refine Gd.pre ?_; first | refine Gd.run rfl ?_ | refine Gd.pass rfl ?_) | (refine Ck.pre ?_; first | refine Ck.mk rfl ?_) | (refine CallN.pre ?_; first | refine CallN.pure (Check_f s) rfl rfl ?_ | refine CallN.pure (limited_f _ _ _) rfl rfl ?_)))
  all_goals (refine ⟨by first | exact .inl rfl | exact .inr rfl, ⟨_, rfl, congrArg (fun b => Go.Proofs.Ytiefcppgbnfbfaa.Am.AV.sc (Go.Value.bool b)) (by first | exact (decide_eq_true (by omega)).symm | exact (decide_eq_false (by omega)).symm | exact Bool.eq_iff_iff.2 (by simp only [decide_eq_true_eq, decide_eq_false_iff_not]; omega) | rfl)⟩, trivial⟩)
theorem refRight_f (s : Scl) (g : Int) : AFun Try.prog 80 0 [scA s, int g] [] (bool (rgt s g)) [] := by
  refine AFun.of_W T_ok mixed Try.func80 rfl (Nat.le_of_ble_eq_true rfl) rfl ?_
  have h0 := chk_spec s
  repeat' ((conv => whnf); (first | (refine LetN.pre ?_; first | ((conv => arg 1; whnf); refine LetN.mk ?_)) | (refine As.pre ?_; first | refine As.mk rfl ?_) | (refine LetV.pre ?_; first | refine LetV.mk (.sc (.int _ _)) rfl ?_ | refine LetV.mk (.agg _) rfl ?_) | (refine LetI.pre ?_; first | refine LetI.mk _ rfl ?_) | (refine LetB.pre ?_; first | (refine LetB.dec (fun _ => ?_) (fun _ => ?_))) | (refine Gd.pre ?_; first | refine Gd.run rfl ?_ | refine Gd.pass rfl ?_) | (refine Ck.pre ?_; first | refine Ck.mk rfl ?_) | (refine CallN.pre ?_; first | refine CallN.pure (refCheck_f s) rfl rfl ?_)))
  all_goals (refine ⟨by first | exact .inl rfl | exact .inr rfl, ⟨_, rfl, congrArg (fun b => Go.Proofs.Ytiefcppgbnfbfaa.Am.AV.sc (Go.Value.bool b)) (by first | exact (decide_eq_true (by omega)).symm | exact (decide_eq_false (by omega)).symm | exact Bool.eq_iff_iff.2 (by simp only [decide_eq_true_eq, decide_eq_false_iff_not]; omega) | rfl)⟩, trivial⟩)
/-- A grade reaches another. -/
abbrev rea (s : Scl) (g m : Int) : Prop := onS s g ∧ (g = m ∨ (m < g ↔ s.1 < s.2.1))
theorem Reaches_f (s : Scl) (g m : Int) : AFun Try.prog 68 0 [scA s, int g, int m] [] (bool (decide (rea s g m))) [] := by
  refine AFun.of_W T_ok mixed Try.func68 rfl (Nat.le_of_ble_eq_true rfl) rfl ?_
  repeat' ((conv => whnf); (first | (refine LetN.pre ?_; first | ((conv => arg 1; whnf); refine LetN.mk ?_)) | (refine As.pre ?_; first | refine As.mk rfl ?_) | (refine LetV.pre ?_; first | refine LetV.mk (.sc (.int _ _)) rfl ?_ | refine LetV.mk (.agg _) rfl ?_) | (refine LetB.pre ?_; first | refine LetB.tt rfl ?_ | refine LetB.ff rfl ?_ | (refine LetB.dec (fun _ => ?_) (fun _ => ?_))) | (refine Gd.pre ?_; first | refine Gd.run rfl ?_ | refine Gd.pass rfl ?_) | (refine Ck.pre ?_; first | refine Ck.mk rfl ?_) | (refine CallN.pre ?_; first | refine CallN.dec (Right_f s _) rfl (fun _ => ?_) (fun _ => ?_))))
  all_goals (refine ⟨by first | exact .inl rfl | exact .inr rfl, ⟨_, rfl, congrArg (fun b => Go.Proofs.Ytiefcppgbnfbfaa.Am.AV.sc (Go.Value.bool b)) (by first | exact (decide_eq_true (by omega)).symm | exact (decide_eq_false (by omega)).symm | exact Bool.eq_iff_iff.2 (by simp only [decide_eq_true_eq, decide_eq_false_iff_not]; omega) | rfl)⟩, trivial⟩)
theorem refReaches_f (s : Scl) (g m : Int) : AFun Try.prog 52 0 [scA s, int g, int m] [] (bool (decide (rea s g m))) [] := by
  refine AFun.of_W T_ok mixed Try.func52 rfl (Nat.le_of_ble_eq_true rfl) rfl ?_
  repeat' ((conv => whnf); (first | (refine LetN.pre ?_; first | ((conv => arg 1; whnf); refine LetN.mk ?_)) | (refine As.pre ?_; first | refine As.mk rfl ?_) | (refine LetV.pre ?_; first | refine LetV.mk (.sc (.int _ _)) rfl ?_ | refine LetV.mk (.agg _) rfl ?_) | (refine LetB.pre ?_; first | (refine LetB.dec (fun _ => ?_) (fun _ => ?_))) | (refine Br.pre ?_; first | refine Br.tt rfl ?_ | refine Br.ff rfl ?_) | (refine Ck.pre ?_; first | refine Ck.mk rfl ?_) | (refine CallN.pre ?_; first | refine CallN.dec (refRight_f s _) rfl (fun _ => ?_) (fun _ => ?_))))
  all_goals (refine ⟨by first | exact .inl rfl | exact .inr rfl, ⟨_, rfl, congrArg (fun b => Go.Proofs.Ytiefcppgbnfbfaa.Am.AV.sc (Go.Value.bool b)) (by first | exact (decide_eq_true (by omega)).symm | exact (decide_eq_false (by omega)).symm | exact Bool.eq_iff_iff.2 (by simp only [decide_eq_true_eq, decide_eq_false_iff_not]; omega) | rfl)⟩, trivial⟩)
theorem Passed_f (s : Scl) (g : Int) : AFun Try.prog 40 0 [scA s, int g] [] (bool (decide (rea s g s.2.2))) [] := by
  refine AFun.of_W T_ok mixed Try.func40 rfl (Nat.le_of_ble_eq_true rfl) rfl ?_
  repeat' ((conv => whnf); (first | (refine LetN.pre ?_; first | ((conv => arg 1; whnf); refine LetN.mk ?_)) | (refine As.pre ?_; first | refine As.mk rfl ?_) | (refine LetV.pre ?_; first | refine LetV.mk (.sc (.int _ _)) rfl ?_ | refine LetV.mk (.agg _) rfl ?_) | (refine Ck.pre ?_; first | refine Ck.mk rfl ?_) | (refine CallN.pre ?_; first | refine CallN.pure (Reaches_f s _ _) rfl rfl ?_)))
  all_goals (refine ⟨by first | exact .inl rfl | exact .inr rfl, ⟨_, rfl, congrArg (fun b => Go.Proofs.Ytiefcppgbnfbfaa.Am.AV.sc (Go.Value.bool b)) (by first | exact (decide_eq_true (by omega)).symm | exact (decide_eq_false (by omega)).symm | exact Bool.eq_iff_iff.2 (by simp only [decide_eq_true_eq, decide_eq_false_iff_not]; omega) | rfl)⟩, trivial⟩)
theorem refPassed_f (s : Scl) (g : Int) : AFun Try.prog 22 0 [scA s, int g] [] (bool (decide (rea s g s.2.2))) [] := by
  refine AFun.of_W T_ok mixed Try.func22 rfl (Nat.le_of_ble_eq_true rfl) rfl ?_
  repeat' ((conv => whnf); (first | (refine LetN.pre ?_; first | ((conv => arg 1; whnf); refine LetN.mk ?_)) | (refine As.pre ?_; first | refine As.mk rfl ?_) | (refine LetV.pre ?_; first | refine LetV.mk (.sc (.int _ _)) rfl ?_ | refine LetV.mk (.agg _) rfl ?_) | (refine Ck.pre ?_; first | refine Ck.mk rfl ?_) | (refine CallN.pre ?_; first | refine CallN.pure (refReaches_f s _ _) rfl rfl ?_)))
  all_goals (refine ⟨by first | exact .inl rfl | exact .inr rfl, ⟨_, rfl, congrArg (fun b => Go.Proofs.Ytiefcppgbnfbfaa.Am.AV.sc (Go.Value.bool b)) (by first | exact (decide_eq_true (by omega)).symm | exact (decide_eq_false (by omega)).symm | exact Bool.eq_iff_iff.2 (by simp only [decide_eq_true_eq, decide_eq_false_iff_not]; omega) | rfl)⟩, trivial⟩)
end Sc
end Go.Proofs.Ytiefcppgbnfbfaa
namespace Go.Proofs.Ytiefcppgbnfbfaa
open Go.Proofs.Ytiefcppgbnfbfaa.Am
set_option maxRecDepth 100000
namespace En
/-! ### Numbers that are drawn -/
abbrev dty : TypeId := 89
abbrev drawB (fl : Fl) (xs : List Int) (at_ : Nat) : Blk := .row 2 dty [.agg [.ro fl 1 (xs.map int), int at_]]
def dv (xs : List Int) (at_ : Nat) (most : Int) : Int := if at_ < xs.length then ((xs.getD at_ 0).tmod most + most).tmod most else 0
def da (xs : List Int) (at_ : Nat) : Nat := if at_ < xs.length then at_ + 1 else at_
theorem dv_range (xs : List Int) (at_ : Nat) {most : Int} (h : 0 < most) : 0 ≤ dv xs at_ most ∧ dv xs at_ most < most := by
  unfold dv
  split
  · have h1 := tmod_bound (xs.getD at_ 0) h
    rw [Int.tmod_eq_emod_of_nonneg (by omega)]
    exact ⟨Int.emod_nonneg _ (by omega), Int.emod_lt_of_pos _ h⟩
  · omega
theorem da_le {xs : List Int} {at_ : Nat} (h : at_ ≤ xs.length) : da xs at_ ≤ xs.length := by
  unfold da; split <;> omega
theorem Mod_f (x m : Int) (h : 0 < m ∧ m ≤ 1000000) : AFun Try.prog 37 0 [int x, int m] [] (int ((x.tmod m + m).tmod m)) [] := by
  refine AFun.of_W T_ok mixed Try.func37 rfl (Nat.le_of_ble_eq_true rfl) rfl ?_
  have hnz : (m != 0) = true := by simp; omega
  have hb := tmod_bound x h.1
  ((repeat ((conv => whnf); (first | (refine As.pre ?_; first | refine As.mk rfl ?_ | refine As.mk hnz ?_) | (refine LetI.pre ?_; first | refine LetI.wrap (by omega) (by omega) ?_ | refine LetI.mk _ rfl ?_) | (refine Ck.pre ?_; first | refine Ck.mk rfl ?_)))); (try (conv => whnf)))
  exact ⟨.inl rfl, ⟨_, rfl, rfl⟩, trivial⟩
theorem Next_f (fl : Fl) (xs : List Int) (at_ : Nat) (most : Int) (hl : xs.length ≤ 9223372036854775807) (ha : at_ ≤ xs.length) (hm : 0 < most ∧ most ≤ 1000000) :
    AFun Try.prog 47 1 [.ptr 0 2 0 0, int most] [(0, drawB fl xs at_)] (int (dv xs at_ most)) [(0, drawB fl xs (da xs at_))] := by
  refine AFun.of_W T_ok mixed Try.func47 rfl (Nat.le_of_ble_eq_true rfl) rfl ?_
  have hml : (xs.map int).length = xs.length := List.length_map _
  have hnz : (most != 0) = true := by simp; omega
  unfold dv da
  by_cases hlt : at_ < xs.length
  · rw [if_pos hlt, if_pos hlt]
    have hld : int (xs.getD at_ 0) = (xs.map int).getD at_ (.sc undef) := mapD 0 hlt
    have hld2 : int (xs.getD at_ 0) = (xs.map int).getD ((at_ : Int) + 1 - 1).toNat (.sc undef) := by rw [show ((at_ : Int) + 1 - 1).toNat = at_ by omega]; exact hld
    generalize xs.getD at_ 0 = x at hld hld2 ⊢
    have hM := Mod_f x most hm
    ((repeat ((conv => whnf); (first | (refine LetN.pre ?_; first | ((conv => arg 1; whnf); refine LetN.mk ?_)) | (refine As.pre ?_; first | refine As.mk rfl ?_ | (refine As.mk ?_ ?_; · ((repeat' (refine andT ?_ ?_)) <;> (first | rfl | assumption | exact decide_eq_true (by omega) | exact decide_eq_true (by dsimp only; omega) | exact decide_eq_true (by simp; omega) | (simp; done))))) | (refine LetV.pre ?_; first | refine LetV.mk (t := 22) _ hld2 ?_ | refine LetV.mk (.sc (.int _ _)) rfl ?_ | refine LetV.mk (.ro _ _ _) rfl ?_) | (refine LetI.pre ?_; first | refine LetI.wrap (by omega) (by omega) ?_ | refine LetI.mk _ rfl ?_) | (refine LetB.pre ?_; first | refine LetB.decf (by omega) ?_) | (refine Br.pre ?_; first | refine Br.ff rfl ?_) | (refine Ck.pre ?_; first | refine Ck.drawn (by kernel_rfl) ?_ | refine Ck.mk rfl ?_) | (refine LetL.pre ?_; first | refine LetL.mk [_] rfl ?_) | (refine CallN.pre ?_; first | refine CallN.pure hM rfl rfl ?_)))); (try (conv => whnf)))



    exact ⟨.inl rfl, ⟨_, rfl, rfl⟩, rfl, trivial⟩
  · rw [if_neg hlt, if_neg hlt]
    ((repeat ((conv => whnf); (first | (refine As.pre ?_; first | refine As.mk rfl ?_) | (refine LetV.pre ?_; first | refine LetV.mk (.sc (.int _ _)) rfl ?_ | refine LetV.mk (.ro _ _ _) rfl ?_) | (refine LetI.pre ?_; first | refine LetI.mk _ rfl ?_) | (refine LetB.pre ?_; first | refine LetB.dect (by omega) ?_) | (refine Br.pre ?_; first | refine Br.tt rfl ?_) | (refine Ck.pre ?_; first | refine Ck.drawn (by kernel_rfl) ?_ | refine Ck.mk rfl ?_)))); (try (conv => whnf)))
    exact ⟨.inl rfl, ⟨_, rfl, rfl⟩, rfl, trivial⟩
def codesL : List ByteArray := [⟨#[65, 49]⟩, ⟨#[66, 49]⟩, ⟨#[66, 50]⟩, ⟨#[67, 49]⟩, ⟨#[68, 49]⟩, ⟨#[69, 57]⟩]
theorem Codes_f : AFun Try.prog 46 0 [] [] (.ro ⟨true, true⟩ 1 (codesL.map str)) [] := AFun.of_ev T_ok mixed 20 (by kernel_rfl)
abbrev iA (x : Fl × List Int) : AV := .ro x.1 1 (x.2.map int)
abbrev L0 : Fl × List Int := ({}, [])
theorem codes_get (n : Int) (h : 0 ≤ n ∧ n < 6) : ∃ s : ByteArray, s.size ≤ 2 ∧ str s = (codesL.map str).getD n.toNat (.sc undef) := by
  obtain ⟨m, rfl⟩ : ∃ m : Nat, n = m := ⟨n.toNat, by omega⟩
  have : m = 0 ∨ m = 1 ∨ m = 2 ∨ m = 3 ∨ m = 4 ∨ m = 5 := by omega
  rcases this with rfl | rfl | rfl | rfl | rfl | rfl <;> exact ⟨_, by decide, rfl⟩
theorem made_next (fl : Fl) (xs : List Int) (hl : xs.length ≤ 9223372036854775807) (at_ : Nat) (most : Int) (ha : at_ ≤ xs.length) (hm : 0 < most ∧ most ≤ 1000000) : ∃ v a, (0 ≤ v ∧ v < most) ∧ a ≤ xs.length ∧
    AFun Try.prog 47 1 [.ptr 0 2 0 0, int most] [(0, drawB fl xs at_)] (int v) [(0, drawB fl xs a)] :=
  ⟨_, _, dv_range xs at_ hm.1, da_le ha, Next_f fl xs at_ most hl ha hm⟩
theorem AFun.of_SE {P : Program} {T : TT} (hT : T.Ok P) {p : Nat} (hm : P.follows .mixedOrders = true) {f : FuncId} {fn : Func} {c : Code} {vs : List AV} {H : AH} {α : Type} {I : α → Prop} {v : α → AV} {H' : α → AH} (hf : P.funcs[f]? = some fn) (hb : fn.body = some c) (hn : vs.length ≤ fn.ntmps) (hB : H.all (fun x => decide (x.1 < p)) = true)
    (h : V P T p fn.ntmps c ⟨argFr vs 0, H, p⟩ (fun e s => ∃ x, I x ∧ FinS T fn p (v x) (H' x) e s)) : ∃ x, I x ∧ AFun P f p vs H (v x) (H' x) := by
  obtain ⟨e, s', h1, _, x, hI, s2, hw, he, ⟨rv, hr, hv⟩, hH⟩ := V_sound hT hm c _ _ h (HB.of_all hB)
  exact ⟨x, hI, (AFun.of_body hT hf hb hn he (h1.post hw) hr hv rfl).forget hH.get⟩
end En
end Go.Proofs.Ytiefcppgbnfbfaa
namespace Go.Proofs.Ytiefcppgbnfbfaa
open Go.Proofs.Ytiefcppgbnfbfaa.Am
set_option maxRecDepth 100000
namespace En
/-! ### Made entries (of the chapter 10) -/
def onP (l : List E) (id : Int) : Int := match l.find? (fun e => decide (e.id = id)) with
  | some e => e.on_
  | none => 0
theorem onP_drop {l : List E} {k : Nat} (id : Int) (h : k < l.length) : onP (l.drop k) id = if (l.getD k e0).id = id then (l.getD k e0).on_ else onP (l.drop (k + 1)) id := by
  rw [List.drop_eq_getElem_cons h, onP, List.find?_cons, List.getD_eq_getElem?_getD, List.getElem?_eq_getElem h]
  simp only [Option.getD_some]
  by_cases hc : l[k].id = id
  · rw [decide_eq_true hc, if_pos hc]
  · rw [decide_eq_false hc, if_neg hc]; rfl
theorem ld_en {l : List E} {k : Nat} (h : k < l.length) : en (l.getD k e0) = (l.map en).getD k (.sc undef) := mapD e0 h
set_option maxRecDepth 100000 in
theorem on_f (l : List E) (id : Int) (fl : Fl) (hl : l.length ≤ 1000) : AFun Try.prog 60 0 [.ro fl 15 (l.map en), int id] [] (int (onP l id)) [] := by
  refine AFun.of_W T_ok mixed Try.func60 rfl (Nat.le_of_ble_eq_true rfl) rfl ?_
  have hm : (l.map en).length = l.length := List.length_map _
  ((repeat ((conv => whnf); (first | (refine As.pre ?_; first | refine As.mk rfl ?_) | (refine Ck.pre ?_; first | refine Ck.mk rfl ?_)))); (try (conv => whnf)))
  refine LoopN.weak (s1 := ⟨[(0, .ro fl 15 (l.map en)), (1, int id), (5, int (0 : Nat))], [], 0⟩) (SW.fr0 (Nat.le_refl _) rfl ⟨.refl _, .refl _, .refl _, trivial⟩) ?_
  refine LoopN.ind T_ok mixed (S := fun k : Nat => ⟨[(0, .ro fl 15 (l.map en)), (1, int id), (5, int k)], [], 0⟩) (fun k => l.length - k) (fun k => k ≤ l.length ∧ onP l id = onP (l.drop k) id) (fun _ => rfl) (fun k hk ih => ?_) 0 ⟨Nat.zero_le _, rfl⟩
  obtain ⟨h1, h2⟩ := hk
  by_cases hlt : k < l.length
  case neg =>
    rw [List.drop_eq_nil_of_le (by omega)] at h2
    rw [h2]
    clear ih
    ((repeat ((conv => whnf); (first | (refine As.pre ?_; first | refine As.mk rfl ?_) | (refine LetI.pre ?_; first | refine LetI.mk _ rfl ?_) | (refine LetB.pre ?_; first | refine LetB.decf (by omega) ?_) | (refine Br.pre ?_; first | refine Br.ff rfl ?_) | (refine Ck.pre ?_; first | refine Ck.mk rfl ?_)))); (try (conv => whnf)))
    exact ⟨.inl rfl, ⟨_, rfl, rfl⟩, trivial⟩
  have hld := ld_en hlt
  rw [onP_drop id hlt] at h2
  generalize l.getD k e0 = e at hld h2
  by_cases hc : e.id = id
  · rw [if_pos hc] at h2
    rw [h2]
    clear ih
    ((repeat ((conv => whnf); (first | (refine As.pre ?_; first | refine As.mk rfl ?_ | (refine As.mk ?_ ?_; · ((repeat' (refine andT ?_ ?_)) <;> (first | rfl | assumption | exact decide_eq_true (by omega) | exact decide_eq_true (by dsimp only; omega) | exact decide_eq_true (by simp; omega) | (simp; done))))) | (refine LetV.pre ?_; first | refine LetV.mk (t := 30) _ hld ?_ | refine LetV.mk (.sc (.int _ _)) rfl ?_) | (refine LetI.pre ?_; first | refine LetI.mk _ rfl ?_) | (refine LetB.pre ?_; first | refine LetB.dect (by omega) ?_) | (refine Br.pre ?_; first | refine Br.tt rfl ?_) | (refine Ck.pre ?_; first | refine Ck.mk rfl ?_)))); (try (conv => whnf)))
    exact ⟨.inl rfl, ⟨_, rfl, rfl⟩, trivial⟩
  · rw [if_neg hc] at h2
    have hnx := ih (k + 1) ⟨by omega, h2⟩ (by omega)
    clear ih
    ((repeat ((conv => whnf); (first | (refine As.pre ?_; first | refine As.mk rfl ?_ | (refine As.mk ?_ ?_; · ((repeat' (refine andT ?_ ?_)) <;> (first | rfl | assumption | exact decide_eq_true (by omega) | exact decide_eq_true (by dsimp only; omega) | exact decide_eq_true (by simp; omega) | (simp; done))))) | (refine LetV.pre ?_; first | refine LetV.mk (t := 30) _ hld ?_ | refine LetV.mk (.sc (.int _ _)) rfl ?_) | (refine LetI.pre ?_; first | refine LetI.wrap (by omega) (by omega) ?_ | refine LetI.mk _ rfl ?_) | (refine LetB.pre ?_; first | refine LetB.dect (by omega) ?_ | refine LetB.decf (by omega) ?_) | (refine Br.pre ?_; first | refine Br.tt rfl ?_ | refine Br.ff rfl ?_) | (refine Ck.pre ?_; first | refine Ck.mk rfl ?_)))); (try (conv => whnf)))
    refine LoopN.weak ?_ hnx
    exact SW.fr0 (Nat.le_refl _) rfl ⟨.refl _, .refl _, VLe2.int (by omega), trivial⟩
abbrev pkS (l : List E) (fl : Fl) (st kd n : Int) : Nat × List Int → AS
  | (k, ids) => ⟨[(0, .ro fl 15 (l.map en)), (1, int st), (2, int kd), (3, int n), (9, .slm {} 0 1 0 ids.length), (10, int k)], [(0, .row 1 3 (ids.map int))], 1⟩
theorem room_int {n : Nat} (h : n ≤ 1000000) : room n 8 = true := by
  simp only [room, Bool.and_eq_true, decide_eq_true_eq]
  exact ⟨by omega, rfl⟩
theorem pure_int : ∀ l : List Int, AV.namesL (fun _ => false) (l.map int) = true
  | [] => rfl
  | p :: l => by simp only [List.map_cons, AV.namesL, pure_int l]; rfl
theorem app_intL (l : List Int) (e : Int) (n : Nat) (h : n = l.length) : (l ++ [e]).map int = (l.map int).take n ++ [int e] := by rw [List.take_of_length_le (by simp [h]), List.map_append]; rfl
set_option maxHeartbeats 1600000 in
set_option maxRecDepth 100000 in
/-- The Id of one of the entries of a student and a kind, or 0. -/
theorem pick_f (l : List E) (st kd n : Int) (fl : Fl) (hl : l.length ≤ 1000) (hn : 0 ≤ n) : ∃ r : Int, (r = 0 ∧ (∀ e ∈ l, ¬(e.student = st ∧ e.kind = kd)) ∨ ∃ e ∈ l, e.student = st ∧ e.kind = kd ∧ e.id = r) ∧
    AFun Try.prog 59 0 [.ro fl 15 (l.map en), int st, int kd, int n] [] (int r) [] := by
  refine AFun.of_SE T_ok mixed (H' := fun _ => []) (v := fun r : Int => int r) Try.func59 rfl (Nat.le_of_ble_eq_true rfl) rfl ?_
  have hm : (l.map en).length = l.length := List.length_map _
  ((repeat ((conv => whnf); (first | (refine As.pre ?_; first | refine As.mk rfl ?_) | (refine Ck.pre ?_; first | refine Ck.mk rfl ?_)))); (try (conv => whnf)))
  refine LoopN.weak (s1 := pkS l fl st kd n (0, [])) ?sw1 ?_
  case sw1 => exact SW.mk id rfl rfl rfl ⟨.refl _, .refl _, .refl _, .refl _, VLe2.nilslm, .refl _, trivial⟩ (haveV.nil (Nat.le_of_ble_eq_true rfl) trivial)
  refine LoopN.ind T_ok mixed (S := pkS l fl st kd n) (fun i => l.length - i.1) (fun i => i.1 ≤ l.length ∧ i.2.length ≤ i.1 ∧ (∀ r ∈ i.2, ∃ e ∈ l, e.student = st ∧ e.kind = kd ∧ e.id = r) ∧ (i.2 = [] → ∀ e ∈ l.take i.1, ¬(e.student = st ∧ e.kind = kd))) (fun _ => rfl) (fun i hi ih => ?_) (0, []) ⟨Nat.zero_le _, Nat.zero_le _, fun _ h => absurd h List.not_mem_nil, fun _ _ h => absurd h List.not_mem_nil⟩
  obtain ⟨k, ids⟩ := i
  obtain ⟨h1, h2, h3, h4⟩ := hi
  simp only at h1 h2 h3 h4
  have hmi : (ids.map int).length = ids.length := List.length_map _
  by_cases hlt : k < l.length
  case neg =>
    clear ih
    rw [List.take_of_length_le (by omega)] at h4
    by_cases h0 : ids.length = 0
    · have hnil : ids = [] := List.eq_nil_of_length_eq_zero h0
      subst hnil
      ((repeat ((conv => whnf); (first | (refine As.pre ?_; first | refine As.mk rfl ?_) | (refine LetI.pre ?_; first | refine LetI.mk _ rfl ?_) | (refine LetB.pre ?_; first | refine LetB.tt rfl ?_ | refine LetB.decf (by omega) ?_) | (refine Br.pre ?_; first | refine Br.tt rfl ?_ | refine Br.ff rfl ?_) | (refine Ck.pre ?_; first | refine Ck.mk rfl ?_)))); (try (conv => whnf)))
      exact ⟨0, .inl ⟨rfl, h4 rfl⟩, ⟨[(8, int 0)], [], 1⟩, SW.mk id rfl rfl rfl ⟨.refl _, trivial⟩ trivial, .inl rfl, ⟨_, rfl, rfl⟩, trivial⟩
    obtain ⟨j, hj, hjj⟩ : ∃ j : Nat, j < ids.length ∧ (j : Int) = n.tmod (ids.length : Int) := by
      have a1 := Int.tmod_nonneg (ids.length : Int) hn
      have a2 := Int.tmod_lt_of_pos n (b := (ids.length : Int)) (by omega)
      exact ⟨(n.tmod (ids.length : Int)).toNat, by omega, by omega⟩
    have hnz : ((ids.length : Int) != 0) = true := bne_iff_ne.2 (by omega)
    have hv : int (ids.getD j 0) = Am.part false 1 0 1 ((ids.map int).getD (0 + j) (.sc undef)) := by
      rw [Nat.zero_add, ← mapD (f := int) (0 : Int) hj]; rfl
    have hv2 : int (ids.getD j 0) = (ids.map int).getD (0 + j) (.sc undef) := by rw [Nat.zero_add]; exact mapD 0 hj
    have hr := h3 (ids.getD j 0) (by rw [List.getD_eq_getElem?_getD, List.getElem?_eq_getElem hj]; exact List.getElem_mem _)
    generalize ids.getD j 0 = r at hv hv2 hr
    clear h3 h4
    ((repeat ((conv => whnf); (first | (refine As.pre ?_; first | refine As.mk rfl ?_ | refine As.mk hnz ?_ | (refine As.mk ?_ ?_; · ((repeat' (refine andT ?_ ?_)) <;> (first | rfl | assumption | exact decide_eq_true (by omega) | exact decide_eq_true (by dsimp only; omega) | exact decide_eq_true (by simp; omega) | (simp; done))))) | (refine LetV.pre ?_; first | refine LetV.mk (t := 3) _ hv ?_) | (refine LetI.pre ?_; first | refine LetI.mk (o := some .rem) (j : Int) hjj ?_ | refine LetI.mk _ rfl ?_) | (refine LetB.pre ?_; first | refine LetB.decf (by omega) ?_) | (refine Br.pre ?_; first | refine Br.ff rfl ?_) | (refine Ck.pre ?_; first | refine Ck.mk rfl ?_)))); (try (conv => whnf)))




    exact ⟨r, .inr hr, ⟨[(8, int r)], [], 1⟩, SW.mk id rfl rfl rfl ⟨.refl _, trivial⟩ trivial, .inl rfl, ⟨_, rfl, rfl⟩, trivial⟩
  have hld := ld_en hlt
  have hmem := getD_mem' hlt
  have htk : ∀ x, x ∈ l.take (k + 1) → x ∈ l.take k ∨ x = l.getD k e0 := fun x hx => by
    rw [List.take_succ_eq_append_getElem hlt] at hx
    rcases List.mem_append.1 hx with h | h
    · exact .inl h
    · rw [List.mem_singleton.1 h, List.getD_eq_getElem?_getD, List.getElem?_eq_getElem hlt]; exact .inr rfl
  generalize l.getD k e0 = e at hld hmem htk
  by_cases hs : e.student = st
  · by_cases hk : e.kind = kd
    · have hr := room_int (n := ids.length + 1) (by omega)
      have happ := app_intL ids e.id ids.length rfl
      have hnx := ih (k + 1, ids ++ [e.id]) ⟨by omega, by simp; omega, fun r hr => by
        rcases List.mem_append.1 hr with h | h
        · exact h3 r h
        · exact ⟨e, hmem, hs, hk, (List.mem_singleton.1 h).symm⟩, fun h => by simp at h⟩ (by show l.length - (k + 1) < l.length - k; omega)
      clear ih h3 h4 htk
      ((repeat ((conv => whnf); (first | (refine LetN.pre ?_; first | ((conv => arg 1; whnf); refine LetN.mk ?_)) | (refine As.pre ?_; first | refine As.mk rfl ?_ | (refine As.mk ?_ ?_; · ((repeat' (refine andT ?_ ?_)) <;> (first | rfl | assumption | exact decide_eq_true (by omega) | exact decide_eq_true (by dsimp only; omega) | exact decide_eq_true (by simp; omega) | (simp; done))))) | (refine LetV.pre ?_; first | refine LetV.mk (t := 30) _ hld ?_ | refine LetV.mk (.sc (.int _ _)) rfl ?_) | (refine LetI.pre ?_; first | refine LetI.wrap (by omega) (by omega) ?_ | refine LetI.mk _ rfl ?_) | (refine LetB.pre ?_; first | refine LetB.dect (by omega) ?_) | (refine Gd.pre ?_; first | refine Gd.run rfl ?_) | (refine Br.pre ?_; first | refine Br.tt rfl ?_) | (refine Ck.pre ?_; first | refine Ck.mk rfl ?_) | (refine LetL.pre ?_; first | refine LetL.mk (ty := 3) _ happ ?_)))); (try (conv => whnf)))


      refine LoopN.weak ?sw2 hnx
      case sw2 => exact SW.mk (fun _ => 1) rfl rfl (namesAll.row (pure_int _) rfl) ⟨.refl _, .refl _, .refl _, .refl _, VLe2.slm_of (by simp), VLe2.int (by omega), trivial⟩ (haveV.row (pure_int _) rfl trivial)
    · have hnx := ih (k + 1, ids) ⟨by omega, by show ids.length ≤ k + 1; omega, h3, fun h x hx hh => by
        rcases htk x hx with hc | hc
        · exact h4 h x hc hh
        · rw [hc] at hh; exact hk hh.2⟩ (by show l.length - (k + 1) < l.length - k; omega)
      clear ih h3 h4 htk
      ((repeat ((conv => whnf); (first | (refine As.pre ?_; first | refine As.mk rfl ?_ | (refine As.mk ?_ ?_; · ((repeat' (refine andT ?_ ?_)) <;> (first | rfl | assumption | exact decide_eq_true (by omega) | exact decide_eq_true (by dsimp only; omega) | exact decide_eq_true (by simp; omega) | (simp; done))))) | (refine LetV.pre ?_; first | refine LetV.mk (t := 30) _ hld ?_ | refine LetV.mk (.sc (.int _ _)) rfl ?_) | (refine LetI.pre ?_; first | refine LetI.wrap (by omega) (by omega) ?_ | refine LetI.mk _ rfl ?_) | (refine LetB.pre ?_; first | refine LetB.dect (by omega) ?_ | refine LetB.decf (by omega) ?_) | (refine Gd.pre ?_; first | refine Gd.run rfl ?_) | (refine Br.pre ?_; first | refine Br.tt rfl ?_ | refine Br.ff rfl ?_) | (refine Ck.pre ?_; first | refine Ck.mk rfl ?_)))); (try (conv => whnf)))
      refine LoopN.weak ?sw3 hnx
      case sw3 => exact SW.mk id rfl rfl (namesAll.row (pure_int _) rfl) ⟨.refl _, .refl _, .refl _, .refl _, .refl _, VLe2.int (by omega), trivial⟩ (haveV.row (pure_int _) rfl trivial)
  · have hnx := ih (k + 1, ids) ⟨by omega, by show ids.length ≤ k + 1; omega, h3, fun h x hx hh => by
      rcases htk x hx with hc | hc
      · exact h4 h x hc hh
      · rw [hc] at hh; exact hs hh.1⟩ (by show l.length - (k + 1) < l.length - k; omega)
    clear ih h3 h4 htk
    ((repeat ((conv => whnf); (first | (refine As.pre ?_; first | refine As.mk rfl ?_ | (refine As.mk ?_ ?_; · ((repeat' (refine andT ?_ ?_)) <;> (first | rfl | assumption | exact decide_eq_true (by omega) | exact decide_eq_true (by dsimp only; omega) | exact decide_eq_true (by simp; omega) | (simp; done))))) | (refine LetV.pre ?_; first | refine LetV.mk (t := 30) _ hld ?_ | refine LetV.mk (.sc (.int _ _)) rfl ?_) | (refine LetI.pre ?_; first | refine LetI.wrap (by omega) (by omega) ?_ | refine LetI.mk _ rfl ?_) | (refine LetB.pre ?_; first | refine LetB.dect (by omega) ?_ | refine LetB.decf (by omega) ?_) | (refine Gd.pre ?_; first | refine Gd.pass rfl ?_) | (refine Br.pre ?_; first | refine Br.tt rfl ?_ | refine Br.ff rfl ?_) | (refine Ck.pre ?_; first | refine Ck.mk rfl ?_)))); (try (conv => whnf)))
    refine LoopN.weak ?sw4 hnx
    case sw4 => exact SW.mk id rfl rfl (namesAll.row (pure_int _) rfl) ⟨.refl _, .refl _, .refl _, .refl _, .refl _, VLe2.int (by omega), trivial⟩ (haveV.row (pure_int _) rfl trivial)
end En
end Go.Proofs.Ytiefcppgbnfbfaa
namespace Go.Proofs.Ytiefcppgbnfbfaa
open Go.Proofs.Ytiefcppgbnfbfaa.Am
set_option maxRecDepth 100000
namespace En
def refsK (k : Int) : Prop := k = 4 ∨ k = 5 ∨ k = 6 ∨ k = 9
instance (k : Int) : Decidable (refsK k) := by unfold refsK; infer_instance
def tgt (k : Int) : Int := if k = 6 then 5 else if k = 9 then 8 else 3
/-- What is known of a made entry. -/
structure EOk (sc day : Int) (e : E) : Prop where
  school : e.school = sc
  student : 1 ≤ e.student ∧ e.student ≤ 3
  kind : 1 ≤ e.kind ∧ e.kind ≤ 9
  day : 0 ≤ e.day ∧ e.day ≤ day
  on : 0 ≤ e.on_ ∧ e.on_ ≤ e.day
  course : e.course.size ≤ 2
  credits : 0 ≤ e.credits ∧ e.credits ≤ 10
  grade : 0 ≤ e.grade ∧ e.grade ≤ 100
  programme : 0 ≤ e.programme ∧ e.programme ≤ 2
  version : 0 ≤ e.version ∧ e.version ≤ 3
  frm : 0 ≤ e.frm ∧ e.frm ≤ 3
  key : e.key = 0
  mark : e.mark = ⟨#[]⟩
  k3 : e.kind = 3 → 5 ≤ e.credits ∧ (sc = 2 → 1 ≤ e.grade ∧ e.grade ≤ 5) ∧ (sc = 3 → e.grade ≤ 20)
  ref0 : ¬refsK e.kind → e.ref = 0
theorem EOk.mono {sc day day' : Int} {e : E} (h : EOk sc day e) (hd : day ≤ day') : EOk sc day' e := { h with day := ⟨h.day.1, by have := h.day.2; omega⟩ }
/-- What is known of made entries. -/
structure M10 (sc day : Int) (out : List E) : Prop where
  ids : ∀ i, i < out.length → (out.getD i e0).id = i + 1
  ok : ∀ e ∈ out, EOk sc day e
  days : out.Pairwise fun a b => a.day ≤ b.day
  refs : ∀ i, i < out.length → refsK (out.getD i e0).kind → ∃ j, j < i ∧ (out.getD j e0).id = (out.getD i e0).ref ∧ (out.getD j e0).student = (out.getD i e0).student ∧ (out.getD j e0).kind = tgt (out.getD i e0).kind ∧ (out.getD j e0).on_ ≤ (out.getD i e0).on_
theorem M10.nil (sc : Int) : M10 sc 0 [] := ⟨fun i h => by simp at h, fun e h => by simp at h, List.Pairwise.nil, fun i h => by simp at h⟩
theorem M10.mono {sc day day' : Int} {out : List E} (h : M10 sc day out) (hd : day ≤ day') : M10 sc day' out := ⟨h.ids, fun e he => (h.ok e he).mono hd, h.days, h.refs⟩
theorem M10.add {sc day day' : Int} {out : List E} {e : E} (h : M10 sc day out) (he : EOk sc day' e) (hd : day ≤ day') (hid : e.id = out.length + 1) (hday : e.day = day') (hr : refsK e.kind → ∃ x ∈ out, x.student = e.student ∧ x.kind = tgt e.kind ∧ x.id = e.ref ∧ x.on_ ≤ e.on_) : M10 sc day' (out ++ [e]) := by
  have at1 : ∀ i, i < out.length → (out ++ [e]).getD i e0 = out.getD i e0 := fun i hi => getD_app1 hi
  have at2 : (out ++ [e]).getD out.length e0 = e := getD_app2 (i := 0) rfl
  refine ⟨fun i hi => ?_, fun x hx => ?_, ?_, fun i hi hk => ?_⟩
  · rw [List.length_append, List.length_singleton] at hi
    by_cases h1 : i < out.length
    · rw [at1 i h1]; exact h.ids i h1
    · have : i = out.length := by omega
      subst this
      rw [at2]; exact hid
  · rcases List.mem_append.1 hx with h1 | h1
    · exact (h.ok x h1).mono hd
    · rw [List.mem_singleton.1 h1]; exact he
  · refine List.pairwise_append.2 ⟨h.days, List.pairwise_singleton _ _, fun a ha b hb => ?_⟩
    rw [List.mem_singleton.1 hb, hday]
    have := (h.ok a ha).day.2
    omega
  · rw [List.length_append, List.length_singleton] at hi
    by_cases h1 : i < out.length
    · rw [at1 i h1] at hk ⊢
      obtain ⟨j, j1, j2⟩ := h.refs i h1 hk
      refine ⟨j, j1, ?_⟩
      rw [at1 j (by omega)]
      exact j2
    · have : i = out.length := by omega
      subst this
      rw [at2] at hk ⊢
      obtain ⟨x, hx, x1, x2, x3, x4⟩ := hr hk
      obtain ⟨j, hj, rfl⟩ := List.getElem_of_mem hx
      have hg : out.getD j e0 = out[j] := by rw [List.getD_eq_getElem?_getD, List.getElem?_eq_getElem hj]; rfl
      exact ⟨j, hj, by rw [at1 j hj, hg]; exact ⟨x3, x1, x2, x4⟩⟩
theorem M10.onP {sc day : Int} {out : List E} (h : M10 sc day out) (id : Int) (hd : 0 ≤ day) : 0 ≤ onP out id ∧ onP out id ≤ day := by
  unfold En.onP
  split
  · rename_i e he
    have := h.ok e (List.mem_of_find?_eq_some he)
    have h1 := this.on
    have h2 := this.day
    omega
  · omega
theorem M10.onP_at {sc day : Int} {out : List E} (h : M10 sc day out) {x : E} (hx : x ∈ out) : En.onP out x.id = x.on_ := by
  unfold En.onP
  cases hf : out.find? (fun e => decide (e.id = x.id)) with
  | none => have := List.find?_eq_none.1 hf x hx; simp at this
  | some e =>
    have h1 := List.find?_some hf
    have h2 := List.mem_of_find?_eq_some hf
    have h1 : e.id = x.id := of_decide_eq_true h1
    obtain ⟨i, hi, rfl⟩ := List.getElem_of_mem h2
    obtain ⟨j, hj, rfl⟩ := List.getElem_of_mem hx
    have a := h.ids i hi
    have b := h.ids j hj
    rw [List.getD_eq_getElem?_getD, List.getElem?_eq_getElem hi] at a
    rw [List.getD_eq_getElem?_getD, List.getElem?_eq_getElem hj] at b
    simp only [Option.getD_some] at a b
    have : i = j := by omega
    subst this; rfl
theorem kinds_get (n : Int) (h : 0 ≤ n ∧ n < 15) : ∃ c : Int, (1 ≤ c ∧ c ≤ 9) ∧ int c = ([int 1, int 3, int 3, int 3, int 3, int 3, int 4, int 5, int 6, int 7, int 8, int 9, int 2, int 3, int 8] : List AV).getD n.toNat (.sc undef) := by
  obtain ⟨m, rfl⟩ : ∃ m : Nat, n = m := ⟨n.toNat, by omega⟩
  have : m = 0 ∨ m = 1 ∨ m = 2 ∨ m = 3 ∨ m = 4 ∨ m = 5 ∨ m = 6 ∨ m = 7 ∨ m = 8 ∨ m = 9 ∨ m = 10 ∨ m = 11 ∨ m = 12 ∨ m = 13 ∨ m = 14 := by omega
  rcases this with rfl | rfl | rfl | rfl | rfl | rfl | rfl | rfl | rfl | rfl | rfl | rfl | rfl | rfl | rfl <;> exact ⟨_, by decide, rfl⟩
theorem cred_get3 (n : Int) (h : 0 ≤ n ∧ n < 3) : ∃ c : Int, (5 ≤ c ∧ c ≤ 10) ∧ int c = ([int 5, int 6, int 10] : List AV).getD n.toNat (.sc undef) := by
  obtain ⟨m, rfl⟩ : ∃ m : Nat, n = m := ⟨n.toNat, by omega⟩
  have : m = 0 ∨ m = 1 ∨ m = 2 := by omega
  rcases this with rfl | rfl | rfl <;> exact ⟨_, by decide, rfl⟩
abbrev mtS (sc : Int) (fl : Fl) (xs : List Int) (many : Int) : Nat × Int × Nat × List E → AS
  | (k, day, at_, out) => ⟨[(1, int sc), (5, .ptr 0 2 0 0), (6, .slm {} 1 15 0 out.length), (7, int day), (8, int many), (9, int k)], [(0, drawB fl xs at_), (1, .row 15 ety (out.map en))], 2⟩
abbrev mtE (sc : Int) (fl : Fl) (xs : List Int) (many : Int) (k : Nat) (day : Int) (at_ : Nat) (out : List E) (early n : Int) (e : E) : AS :=
  ⟨[(1, int sc), (5, .ptr 0 2 0 0), (6, .slm {} 1 15 0 out.length), (7, int day), (8, int many), (9, int k), (10, .ptr 2 15 0 0), (11, int early), (12, int n)], [(0, drawB fl xs at_), (1, .row 15 ety (out.map en)), (2, .row 15 ety [en e])], 3⟩
abbrev mtB (sc : Int) (fl : Fl) (xs : List Int) (many : Int) (k : Nat) (day : Int) (at_ : Nat) (out : List E) (early n : Int) (e : E) (b : Bool) : AS :=
  ⟨[(1, int sc), (5, .ptr 0 2 0 0), (6, .slm {} 1 15 0 out.length), (7, int day), (8, int many), (9, int k), (10, .ptr 2 15 0 0), (11, int early), (12, int n), (13, bool b)], [(0, drawB fl xs at_), (1, .row 15 ety (out.map en)), (2, .row 15 ety [en e])], 3⟩
set_option maxHeartbeats 6400000 in
set_option maxRecDepth 100000 in
theorem Made10_s (xs : List Int) (fl : Fl) (hx : xs.length ≤ 9223372036854775807) (sc : Int) (hsc : 1 ≤ sc ∧ sc ≤ 3) : ∃ l : List E, (l.length ≤ 24 ∧ M10 sc 600 l) ∧
    AFun Try.prog 35 0 [.ro fl 1 (xs.map int), int sc] [] (.slm {} 0 15 0 l.length) [(0, .row 15 ety (l.map en))] := by
  refine AFun.of_SE T_ok mixed (v := fun l : List E => .slm {} 0 15 0 l.length) (H' := fun l : List E => [(0, .row 15 ety (l.map en))]) Try.func35 rfl (Nat.le_of_ble_eq_true rfl) rfl ?_
  obtain ⟨v0, a0, r0, q0, N0⟩ := made_next fl xs hx 0 25 (Nat.zero_le _) (by omega)
  ((repeat ((conv => whnf); (first | (refine LetN.pre ?_; first | ((conv => arg 1; whnf); refine LetN.mk ?_)) | (refine As.pre ?_; first | refine As.mk rfl ?_) | (refine Ck.pre ?_; first | refine Ck.mk rfl ?_) | (refine LetL.pre ?_; first | refine LetL.mk [_] rfl ?_) | (refine CallN.pre ?_; first | refine CallN.own (fun _ => 0) N0 (CallOk.mk' rfl rfl rfl (namesAll.row rfl rfl) rfl (namesAll.row rfl rfl) (haveAll.row rfl rfl trivial)) ?_)))); (try (conv => whnf)))


  refine LoopN.weak (s1 := mtS sc fl xs v0 (0, 0, a0, [])) ?sw1 ?_
  case sw1 => exact SW.mk id rfl rfl rfl ⟨.refl _, .refl _, VLe2.nilslm, .refl _, .refl _, .refl _, trivial⟩ (haveV.row rfl rfl (haveV.nil (Nat.le_of_ble_eq_true rfl) trivial))
  refine LoopN.indS (S := mtS sc fl xs v0) (fun i => 24 - i.1) (fun i => (i.1 : Int) ≤ v0 ∧ (0 ≤ i.2.1 ∧ i.2.1 ≤ 24 * (i.1 : Int)) ∧ i.2.2.1 ≤ xs.length ∧ i.2.2.2.length = i.1 ∧ M10 sc i.2.1 i.2.2.2) (fun i hi ih => ?_) (0, 0, a0, []) ⟨by show (0 : Int) ≤ v0; omega, ⟨by show (0 : Int) ≤ 0; omega, by show (0 : Int) ≤ 24 * 0; omega⟩, q0, rfl, M10.nil sc⟩
  clear q0 N0
  clear a0
  obtain ⟨k, day, at_, out⟩ := i
  obtain ⟨h1, h2, h3, h4, hM⟩ := hi
  simp only at h1 h2 h3 h4 hM
  have hml : (out.map en).length = out.length := List.length_map _
  by_cases hlt : (k : Int) < v0
  case neg =>
    clear ih
    refine VS.of_V T_ok mixed rfl ?_
    ((repeat ((conv => whnf); (first | (refine As.pre ?_; first | refine As.mk rfl ?_) | (refine LetB.pre ?_; first | refine LetB.decf (by omega) ?_) | (refine Br.pre ?_; first | refine Br.ff rfl ?_) | (refine Ck.pre ?_; first | refine Ck.mk rfl ?_)))); (try (conv => whnf)))
    exact ⟨out, ⟨by omega, hM.mono (by omega)⟩, ⟨[(4, .slm {} 0 15 0 out.length)], [(0, .row 15 ety (out.map en))], 1⟩, SW.mk (fun _ => 1) rfl rfl (namesAll.row (pure_en _) rfl) ⟨.refl _, trivial⟩ (haveV.row (pure_en _) rfl trivial), .inl rfl, ⟨_, rfl, rfl⟩, rfl, trivial⟩
  obtain ⟨v1, a1, r1, q1, N1⟩ := made_next fl xs hx at_ 25 h3 (by omega)
  obtain ⟨v2, a2, r2, q2, N2⟩ := made_next fl xs hx a1 3 q1 (by omega)
  obtain ⟨v3, a3, r3, q3, N3⟩ := made_next fl xs hx a2 15 q2 (by omega)
  obtain ⟨v4, a4, r4, q4, N4⟩ := made_next fl xs hx a3 3 q3 (by omega)
  obtain ⟨v5, a5, r5, q5, N5⟩ := made_next fl xs hx a4 120 q4 (by omega)
  obtain ⟨n, a6, r6, q6, N6⟩ := made_next fl xs hx a5 30 q5 (by omega)
  obtain ⟨kd, hkd, hkv⟩ := kinds_get v3 r3
  have hmul : 0 ≤ v4 * v5 ∧ v4 * v5 ≤ 238 := by
    have : v4 = 0 ∨ v4 = 1 ∨ v4 = 2 := by omega
    rcases this with rfl | rfl | rfl <;> omega
  obtain ⟨early, hearly⟩ : ∃ early, early = v4 * v5 := ⟨_, rfl⟩
  have hew : early = IntKind.i64.wrap (v4 * v5) := by rw [wrap_id (by omega) (by omega)]; exact hearly
  refine VS.cut T_ok mixed rfl ?_
  ((repeat ((conv => whnf); (first | (refine As.pre ?_; first | refine As.mk rfl ?_) | (refine LetB.pre ?_; first | refine LetB.dect (by omega) ?_) | (refine Br.pre ?_; first | refine Br.tt rfl ?_) | (refine Ck.pre ?_; first | refine Ck.mk rfl ?_)))); (try (conv => whnf)))
  refine VS.seq (VS.block ?_)
  refine VS.cut T_ok mixed rfl ?_
  ((repeat ((conv => whnf); (first | (refine LetN.pre ?_; first | ((conv => arg 1; whnf); refine LetN.mk ?_)) | (refine As.pre ?_; first | refine As.mk rfl ?_) | (refine LetI.pre ?_; first | refine LetI.wrap (by omega) (by omega) ?_) | (refine Ck.pre ?_; first | refine Ck.mk rfl ?_) | (refine LetL.pre ?_; first | refine LetL.mk [_] rfl ?_) | (refine CallN.pre ?_; first | refine CallN.own (fun _ => 0) N1 (CallOk.mk' rfl rfl rfl (namesAll.row rfl rfl) rfl (namesAll.row rfl rfl) (haveAll.row rfl rfl trivial)) ?_)))); (try (conv => whnf)))


  refine VS.cut T_ok mixed rfl ?_
  ((repeat ((conv => whnf); (first | (refine LetN.pre ?_; first | ((conv => arg 1; whnf); refine LetN.mk ?_)) | (refine As.pre ?_; first | refine As.mk rfl ?_) | (refine LetI.pre ?_; first | refine LetI.wrap (by omega) (by omega) ?_) | (refine Ck.pre ?_; first | refine Ck.mk rfl ?_) | (refine LetL.pre ?_; first | refine LetL.mk (ty := ety) [.agg [_, _, _, _, _, _, _, _, _, _, _, _, _, _, _]] rfl ?_ | refine LetL.mk [_] rfl ?_) | (refine CallN.pre ?_; first | refine CallN.own (fun _ => 0) N2 (CallOk.mk' rfl rfl rfl (namesAll.row rfl rfl) rfl (namesAll.row rfl rfl) (haveAll.row rfl rfl trivial)) ?_)))); (try (conv => whnf)))


  refine VS.cut T_ok mixed rfl ?_
  ((repeat ((conv => whnf); (first | (refine LetN.pre ?_; first | ((conv => arg 1; whnf); refine LetN.mk ?_)) | (refine As.pre ?_; first | refine As.mk rfl ?_ | (refine As.mk ?_ ?_; · ((repeat' (refine andT ?_ ?_)) <;> (first | rfl | assumption | exact decide_eq_true (by omega) | exact decide_eq_true (by dsimp only; omega) | exact decide_eq_true (by simp; omega) | (simp; done))))) | (refine LetV.pre ?_; first | refine LetV.mk (t := 22) _ hkv ?_ | refine LetV.mk (.sc (.int _ _)) rfl ?_) | (refine Ck.pre ?_; first | refine Ck.mk rfl ?_) | (refine LetL.pre ?_; first | refine LetL.mk (ty := ety) [.agg [_, _, _, _, _, _, _, _, _, _, _, _, _, _, _]] rfl ?_ | refine LetL.mk [_] rfl ?_) | (refine CallN.pre ?_; first | refine CallN.own (fun _ => 0) N3 (CallOk.mk' rfl rfl rfl (namesAll.row rfl rfl) rfl (namesAll.row rfl rfl) (haveAll.row rfl rfl trivial)) ?_)))); (try (conv => whnf)))



  refine VS.cut T_ok mixed rfl ?_
  ((repeat ((conv => whnf); (first | (refine LetN.pre ?_; first | ((conv => arg 1; whnf); refine LetN.mk ?_)) | (refine As.pre ?_; first | refine As.mk rfl ?_) | (refine LetI.pre ?_; first | refine LetI.mk (o := some .mul) early hew ?_) | (refine Ck.pre ?_; first | refine Ck.mk rfl ?_) | (refine LetL.pre ?_; first | refine LetL.mk [_] rfl ?_) | (refine CallN.pre ?_; first | refine CallN.own (fun _ => 0) N4 (CallOk.mk' rfl rfl rfl (namesAll.row rfl rfl) rfl (namesAll.row rfl rfl) (haveAll.row rfl rfl trivial)) ?_ | refine CallN.own (fun _ => 0) N5 (CallOk.mk' rfl rfl rfl (namesAll.row rfl rfl) rfl (namesAll.row rfl rfl) (haveAll.row rfl rfl trivial)) ?_)))); (try (conv => whnf)))




  refine VS.cut T_ok mixed rfl ?_
  ((repeat ((conv => whnf); (first | (refine LetN.pre ?_; first | ((conv => arg 1; whnf); refine LetN.mk ?_)) | (refine As.pre ?_; first | refine As.mk rfl ?_) | (refine Ck.pre ?_; first | refine Ck.mk rfl ?_) | (refine LetL.pre ?_; first | refine LetL.mk [_] rfl ?_) | (refine CallN.pre ?_; first | refine CallN.own (fun _ => 0) N6 (CallOk.mk' rfl rfl rfl (namesAll.row rfl rfl) rfl (namesAll.row rfl rfl) (haveAll.row rfl rfl trivial)) ?_)))); (try (conv => whnf)))


  obtain ⟨day', hday'⟩ : ∃ day', day' = day + v1 := ⟨_, rfl⟩
  rw [← hday']
  refine VS.weak (s1 := mtE sc fl xs v0 k day' a6 out early n ⟨(k : Int) + 1, sc, 1 + v2, kd, day', 0, ⟨#[]⟩, 0, 0, 0, 0, 0, 0, 0, ⟨#[]⟩⟩) ?swa ?_
  case swa => exact SW.mk id rfl rfl (namesAll.row rfl (namesAll.row (pure_en _) (namesAll.row rfl rfl))) ⟨.refl _, .refl _, .refl _, .refl _, .refl _, .refl _, .refl _, .refl _, .refl _, trivial⟩ (haveV.row rfl rfl (haveV.row (pure_en _) rfl (haveV.row rfl rfl trivial)))
  clear N1 N2 N3 N4 N5 N6 hkv hew q1 q2 q3 q4 q5
  obtain ⟨st, hst⟩ : ∃ st : Int, st = 1 + v2 := ⟨_, rfl⟩
  rw [← hst]
  have hst3 : 1 ≤ st ∧ st ≤ 3 := by omega
  have b2 := tmod_bound n (m := 2) (by omega)
  have p2 := tmod_pos 2 r6.1
  have b3 := tmod_bound n (m := 3) (by omega)
  have p3 := tmod_pos 3 r6.1
  have b6 := tmod_bound n (m := 6) (by omega)
  have p6 := tmod_pos 6 r6.1
  have c3 := tmod_bound sc (m := 3) (by omega)
  have cp3 := tmod_pos 3 (a := sc) (by omega)
  refine VS.joinN (fun y : Int × Int × Int × Int => mtE sc fl xs v0 k day' a6 out early n ⟨(k : Int) + 1, sc, st, kd, day', 0, ⟨#[]⟩, 0, 0, y.1, y.2.2.2, y.2.1, y.2.2.1, 0, ⟨#[]⟩⟩) (fun y => (refsK kd → (y.1 = 0 ∨ ∃ x ∈ out, x.student = st ∧ x.kind = tgt kd ∧ x.id = y.1)) ∧ (¬refsK kd → y.1 = 0) ∧ (0 ≤ y.2.1 ∧ y.2.1 ≤ 2) ∧ (0 ≤ y.2.2.1 ∧ y.2.2.1 ≤ 3) ∧ 0 ≤ y.2.2.2 ∧ y.2.2.2 ≤ 3) ?_ ?_
  · clear ih
    refine VS.of_V T_ok mixed rfl ?_
    obtain h | h | h | h | h | h | h | h | h : kd = 1 ∨ kd = 2 ∨ kd = 3 ∨ kd = 4 ∨ kd = 5 ∨ kd = 6 ∨ kd = 7 ∨ kd = 8 ∨ kd = 9 := by omega
    · subst h
      ((repeat ((conv => whnf); (first | (refine LetN.pre ?_; first | ((conv => arg 1; whnf); refine LetN.mk ?_)) | (refine As.pre ?_; first | refine As.mk rfl ?_) | (refine LetV.pre ?_; first | refine LetV.mk (.sc (.int _ _)) rfl ?_) | (refine LetI.pre ?_; first | refine LetI.wrap (by omega) (by omega) ?_ | refine LetI.mk _ rfl ?_) | (refine LetB.pre ?_; first | refine LetB.tt rfl ?_ | refine LetB.ff rfl ?_) | (refine Br.pre ?_; first | refine Br.tt rfl ?_ | refine Br.ff rfl ?_) | (refine Ck.pre ?_; first | refine Ck.mk rfl ?_) | (refine LetL.pre ?_; first | refine LetL.mk (ty := ety) [.agg [_, _, _, _, _, _, _, _, _, _, _, _, _, _, _]] rfl ?_)))); (try (conv => whnf)))

      exact ⟨rfl, (0, 1 + n.tmod 2, 0, 0), ⟨fun h => absurd h (by decide), fun _ => rfl, by dsimp only; omega, by dsimp only; omega, by dsimp only; omega⟩, SW.mk id rfl rfl (namesAll.row rfl (namesAll.row (pure_en _) (namesAll.row rfl rfl))) ⟨.refl _, .refl _, .refl _, .refl _, .refl _, .refl _, .refl _, .refl _, .refl _, trivial⟩ (haveV.row rfl rfl (haveV.row (pure_en _) rfl (haveV.row rfl rfl trivial)))⟩
    · subst h
      ((repeat ((conv => whnf); (first | (refine LetN.pre ?_; first | ((conv => arg 1; whnf); refine LetN.mk ?_)) | (refine As.pre ?_; first | refine As.mk rfl ?_) | (refine LetV.pre ?_; first | refine LetV.mk (.sc (.int _ _)) rfl ?_) | (refine LetI.pre ?_; first | refine LetI.wrap (by omega) (by omega) ?_ | refine LetI.mk _ rfl ?_) | (refine LetB.pre ?_; first | refine LetB.tt rfl ?_ | refine LetB.ff rfl ?_) | (refine Br.pre ?_; first | refine Br.tt rfl ?_ | refine Br.ff rfl ?_) | (refine Ck.pre ?_; first | refine Ck.mk rfl ?_) | (refine LetL.pre ?_; first | refine LetL.mk (ty := ety) [.agg [_, _, _, _, _, _, _, _, _, _, _, _, _, _, _]] rfl ?_)))); (try (conv => whnf)))

      exact ⟨rfl, (0, 1 + n.tmod 2, 1 + n.tmod 3, 0), ⟨fun h => absurd h (by decide), fun _ => rfl, by dsimp only; omega, by dsimp only; omega, by dsimp only; omega⟩, SW.mk id rfl rfl (namesAll.row rfl (namesAll.row (pure_en _) (namesAll.row rfl rfl))) ⟨.refl _, .refl _, .refl _, .refl _, .refl _, .refl _, .refl _, .refl _, .refl _, trivial⟩ (haveV.row rfl rfl (haveV.row (pure_en _) rfl (haveV.row rfl rfl trivial)))⟩
    · subst h
      ((repeat ((conv => whnf); (first | (refine As.pre ?_; first | refine As.mk rfl ?_) | (refine LetV.pre ?_; first | refine LetV.mk (.sc (.int _ _)) rfl ?_) | (refine LetB.pre ?_; first | refine LetB.ff rfl ?_) | (refine Br.pre ?_; first | refine Br.ff rfl ?_) | (refine Ck.pre ?_; first | refine Ck.mk rfl ?_)))); (try (conv => whnf)))

      exact ⟨rfl, (0, 0, 0, 0), ⟨fun h => absurd h (by decide), fun _ => rfl, by dsimp only; omega, by dsimp only; omega, by dsimp only; omega⟩, SW.mk id rfl rfl (namesAll.row rfl (namesAll.row (pure_en _) (namesAll.row rfl rfl))) ⟨.refl _, .refl _, .refl _, .refl _, .refl _, .refl _, .refl _, .refl _, .refl _, trivial⟩ (haveV.row rfl rfl (haveV.row (pure_en _) rfl (haveV.row rfl rfl trivial)))⟩
    · subst h
      obtain ⟨r, hr, hp⟩ := pick_f out st 3 n {} (by omega) r6.1
      ((repeat ((conv => whnf); (first | (refine LetN.pre ?_; first | ((conv => arg 1; whnf); refine LetN.mk ?_)) | (refine As.pre ?_; first | refine As.mk rfl ?_) | (refine LetV.pre ?_; first | refine LetV.mk (.sc (.int _ _)) rfl ?_) | (refine LetB.pre ?_; first | refine LetB.tt rfl ?_) | (refine Br.pre ?_; first | refine Br.tt rfl ?_) | (refine Ck.pre ?_; first | refine Ck.mk rfl ?_) | (refine LetL.pre ?_; first | refine LetL.mk (ty := ety) [.agg [_, _, _, _, _, _, _, _, _, _, _, _, _, _, _]] rfl ?_) | (refine CallN.pre ?_; first | refine CallN.lend hp rfl (.full rfl (pure_en _) hml.symm (.same rfl (.same rfl (.same rfl .nil)))) ?_)))); (try (conv => whnf)))


      exact ⟨rfl, (r, 0, 0, 0), ⟨fun _ => hr.imp (fun h => h.1) id, fun h => absurd (by decide) h, by dsimp only; omega, by dsimp only; omega, by dsimp only; omega⟩, SW.mk id rfl rfl (namesAll.row rfl (namesAll.row (pure_en _) (namesAll.row rfl rfl))) ⟨.refl _, .refl _, .refl _, .refl _, .refl _, .refl _, .refl _, .refl _, .refl _, trivial⟩ (haveV.row rfl rfl (haveV.row (pure_en _) rfl (haveV.row rfl rfl trivial)))⟩
    · subst h
      obtain ⟨r, hr, hp⟩ := pick_f out st 3 n {} (by omega) r6.1
      ((repeat ((conv => whnf); (first | (refine LetN.pre ?_; first | ((conv => arg 1; whnf); refine LetN.mk ?_)) | (refine As.pre ?_; first | refine As.mk rfl ?_) | (refine LetV.pre ?_; first | refine LetV.mk (.sc (.int _ _)) rfl ?_) | (refine LetB.pre ?_; first | refine LetB.tt rfl ?_ | refine LetB.ff rfl ?_) | (refine Br.pre ?_; first | refine Br.tt rfl ?_ | refine Br.ff rfl ?_) | (refine Ck.pre ?_; first | refine Ck.mk rfl ?_) | (refine LetL.pre ?_; first | refine LetL.mk (ty := ety) [.agg [_, _, _, _, _, _, _, _, _, _, _, _, _, _, _]] rfl ?_) | (refine CallN.pre ?_; first | refine CallN.lend hp rfl (.full rfl (pure_en _) hml.symm (.same rfl (.same rfl (.same rfl .nil)))) ?_)))); (try (conv => whnf)))


      exact ⟨rfl, (r, 0, 0, 0), ⟨fun _ => hr.imp (fun h => h.1) id, fun h => absurd (by decide) h, by dsimp only; omega, by dsimp only; omega, by dsimp only; omega⟩, SW.mk id rfl rfl (namesAll.row rfl (namesAll.row (pure_en _) (namesAll.row rfl rfl))) ⟨.refl _, .refl _, .refl _, .refl _, .refl _, .refl _, .refl _, .refl _, .refl _, trivial⟩ (haveV.row rfl rfl (haveV.row (pure_en _) rfl (haveV.row rfl rfl trivial)))⟩
    · subst h
      obtain ⟨r, hr, hp⟩ := pick_f out st 5 n {} (by omega) r6.1
      ((repeat ((conv => whnf); (first | (refine LetN.pre ?_; first | ((conv => arg 1; whnf); refine LetN.mk ?_)) | (refine As.pre ?_; first | refine As.mk rfl ?_) | (refine LetV.pre ?_; first | refine LetV.mk (.sc (.int _ _)) rfl ?_) | (refine LetB.pre ?_; first | refine LetB.tt rfl ?_ | refine LetB.ff rfl ?_) | (refine Br.pre ?_; first | refine Br.tt rfl ?_ | refine Br.ff rfl ?_) | (refine Ck.pre ?_; first | refine Ck.mk rfl ?_) | (refine LetL.pre ?_; first | refine LetL.mk (ty := ety) [.agg [_, _, _, _, _, _, _, _, _, _, _, _, _, _, _]] rfl ?_) | (refine CallN.pre ?_; first | refine CallN.lend hp rfl (.full rfl (pure_en _) hml.symm (.same rfl (.same rfl (.same rfl .nil)))) ?_)))); (try (conv => whnf)))


      exact ⟨rfl, (r, 0, 0, 0), ⟨fun _ => hr.imp (fun h => h.1) id, fun h => absurd (by decide) h, by dsimp only; omega, by dsimp only; omega, by dsimp only; omega⟩, SW.mk id rfl rfl (namesAll.row rfl (namesAll.row (pure_en _) (namesAll.row rfl rfl))) ⟨.refl _, .refl _, .refl _, .refl _, .refl _, .refl _, .refl _, .refl _, .refl _, trivial⟩ (haveV.row rfl rfl (haveV.row (pure_en _) rfl (haveV.row rfl rfl trivial)))⟩
    · subst h
      ((repeat ((conv => whnf); (first | (refine LetN.pre ?_; first | ((conv => arg 1; whnf); refine LetN.mk ?_)) | (refine As.pre ?_; first | refine As.mk rfl ?_) | (refine LetV.pre ?_; first | refine LetV.mk (.sc (.int _ _)) rfl ?_) | (refine LetI.pre ?_; first | refine LetI.wrap (by omega) (by omega) ?_ | refine LetI.mk _ rfl ?_) | (refine LetB.pre ?_; first | refine LetB.tt rfl ?_ | refine LetB.ff rfl ?_) | (refine Br.pre ?_; first | refine Br.tt rfl ?_ | refine Br.ff rfl ?_) | (refine Ck.pre ?_; first | refine Ck.mk rfl ?_) | (refine LetL.pre ?_; first | refine LetL.mk (ty := ety) [.agg [_, _, _, _, _, _, _, _, _, _, _, _, _, _, _]] rfl ?_)))); (try (conv => whnf)))

      exact ⟨rfl, (0, 0, 0, 1 + sc.tmod 3), ⟨fun h => absurd h (by decide), fun _ => rfl, by dsimp only; omega, by dsimp only; omega, by dsimp only; omega⟩, SW.mk id rfl rfl (namesAll.row rfl (namesAll.row (pure_en _) (namesAll.row rfl rfl))) ⟨.refl _, .refl _, .refl _, .refl _, .refl _, .refl _, .refl _, .refl _, .refl _, trivial⟩ (haveV.row rfl rfl (haveV.row (pure_en _) rfl (haveV.row rfl rfl trivial)))⟩
    · subst h
      ((repeat ((conv => whnf); (first | (refine LetN.pre ?_; first | ((conv => arg 1; whnf); refine LetN.mk ?_)) | (refine As.pre ?_; first | refine As.mk rfl ?_) | (refine LetV.pre ?_; first | refine LetV.mk (.sc (.int _ _)) rfl ?_) | (refine LetI.pre ?_; first | refine LetI.wrap (by omega) (by omega) ?_ | refine LetI.mk _ rfl ?_) | (refine LetB.pre ?_; first | refine LetB.tt rfl ?_ | refine LetB.ff rfl ?_) | (refine Br.pre ?_; first | refine Br.tt rfl ?_ | refine Br.ff rfl ?_) | (refine Ck.pre ?_; first | refine Ck.mk rfl ?_) | (refine LetL.pre ?_; first | refine LetL.mk (ty := ety) [.agg [_, _, _, _, _, _, _, _, _, _, _, _, _, _, _]] rfl ?_)))); (try (conv => whnf)))

      exact ⟨rfl, (0, 1 + n.tmod 2, 0, 0), ⟨fun h => absurd h (by decide), fun _ => rfl, by dsimp only; omega, by dsimp only; omega, by dsimp only; omega⟩, SW.mk id rfl rfl (namesAll.row rfl (namesAll.row (pure_en _) (namesAll.row rfl rfl))) ⟨.refl _, .refl _, .refl _, .refl _, .refl _, .refl _, .refl _, .refl _, .refl _, trivial⟩ (haveV.row rfl rfl (haveV.row (pure_en _) rfl (haveV.row rfl rfl trivial)))⟩
    · subst h
      obtain ⟨r, hr, hp⟩ := pick_f out st 8 n {} (by omega) r6.1
      ((repeat ((conv => whnf); (first | (refine LetN.pre ?_; first | ((conv => arg 1; whnf); refine LetN.mk ?_)) | (refine As.pre ?_; first | refine As.mk rfl ?_) | (refine LetV.pre ?_; first | refine LetV.mk (.sc (.int _ _)) rfl ?_) | (refine LetB.pre ?_; first | refine LetB.tt rfl ?_ | refine LetB.ff rfl ?_) | (refine Br.pre ?_; first | refine Br.tt rfl ?_ | refine Br.ff rfl ?_) | (refine Ck.pre ?_; first | refine Ck.mk rfl ?_) | (refine LetL.pre ?_; first | refine LetL.mk (ty := ety) [.agg [_, _, _, _, _, _, _, _, _, _, _, _, _, _, _]] rfl ?_) | (refine CallN.pre ?_; first | refine CallN.lend hp rfl (.full rfl (pure_en _) hml.symm (.same rfl (.same rfl (.same rfl .nil)))) ?_)))); (try (conv => whnf)))


      exact ⟨rfl, (r, 0, 0, 0), ⟨fun _ => hr.imp (fun h => h.1) id, fun h => absurd (by decide) h, by dsimp only; omega, by dsimp only; omega, by dsimp only; omega⟩, SW.mk id rfl rfl (namesAll.row rfl (namesAll.row (pure_en _) (namesAll.row rfl rfl))) ⟨.refl _, .refl _, .refl _, .refl _, .refl _, .refl _, .refl _, .refl _, .refl _, trivial⟩ (haveV.row rfl rfl (haveV.row (pure_en _) rfl (haveV.row rfl rfl trivial)))⟩
  intro y hy
  obtain ⟨y1, y2, y3, y4, y5⟩ := hy
  refine VS.joinN (fun _ : Unit => mtB sc fl xs v0 k day' a6 out early n ⟨(k : Int) + 1, sc, st, kd, day', 0, ⟨#[]⟩, 0, 0, y.1, y.2.2.2, y.2.1, y.2.2.1, 0, ⟨#[]⟩⟩ (decide (refsK kd))) (fun _ => True) ?_ ?_
  · clear ih y1 y2
    refine VS.of_V T_ok mixed rfl ?_
    obtain h | h | h | h | h | h | h | h | h : kd = 1 ∨ kd = 2 ∨ kd = 3 ∨ kd = 4 ∨ kd = 5 ∨ kd = 6 ∨ kd = 7 ∨ kd = 8 ∨ kd = 9 := by omega
    · subst h
      ((repeat ((conv => whnf); (first | (refine As.pre ?_; first | refine As.mk rfl ?_) | (refine LetV.pre ?_; first | refine LetV.mk (.sc (.int _ _)) rfl ?_) | (refine LetB.pre ?_; first | refine LetB.ff rfl ?_) | (refine Gd.pre ?_; first | refine Gd.run rfl ?_) | (refine Ck.pre ?_; first | refine Ck.mk rfl ?_)))); (try (conv => whnf)))
      exact ⟨rfl, (), trivial, SW.mk id rfl rfl (namesAll.row rfl (namesAll.row (pure_en _) (namesAll.row rfl rfl))) ⟨.refl _, .refl _, .refl _, .refl _, .refl _, .refl _, .refl _, .refl _, .refl _, .refl _, trivial⟩ (haveV.row rfl rfl (haveV.row (pure_en _) rfl (haveV.row rfl rfl trivial)))⟩
    · subst h
      ((repeat ((conv => whnf); (first | (refine As.pre ?_; first | refine As.mk rfl ?_) | (refine LetV.pre ?_; first | refine LetV.mk (.sc (.int _ _)) rfl ?_) | (refine LetB.pre ?_; first | refine LetB.ff rfl ?_) | (refine Gd.pre ?_; first | refine Gd.run rfl ?_) | (refine Ck.pre ?_; first | refine Ck.mk rfl ?_)))); (try (conv => whnf)))
      exact ⟨rfl, (), trivial, SW.mk id rfl rfl (namesAll.row rfl (namesAll.row (pure_en _) (namesAll.row rfl rfl))) ⟨.refl _, .refl _, .refl _, .refl _, .refl _, .refl _, .refl _, .refl _, .refl _, .refl _, trivial⟩ (haveV.row rfl rfl (haveV.row (pure_en _) rfl (haveV.row rfl rfl trivial)))⟩
    · subst h
      ((repeat ((conv => whnf); (first | (refine As.pre ?_; first | refine As.mk rfl ?_) | (refine LetV.pre ?_; first | refine LetV.mk (.sc (.int _ _)) rfl ?_) | (refine LetB.pre ?_; first | refine LetB.ff rfl ?_) | (refine Gd.pre ?_; first | refine Gd.run rfl ?_) | (refine Ck.pre ?_; first | refine Ck.mk rfl ?_)))); (try (conv => whnf)))
      exact ⟨rfl, (), trivial, SW.mk id rfl rfl (namesAll.row rfl (namesAll.row (pure_en _) (namesAll.row rfl rfl))) ⟨.refl _, .refl _, .refl _, .refl _, .refl _, .refl _, .refl _, .refl _, .refl _, .refl _, trivial⟩ (haveV.row rfl rfl (haveV.row (pure_en _) rfl (haveV.row rfl rfl trivial)))⟩
    · subst h
      ((repeat ((conv => whnf); (first | (refine As.pre ?_; first | refine As.mk rfl ?_) | (refine LetV.pre ?_; first | refine LetV.mk (.sc (.int _ _)) rfl ?_) | (refine LetB.pre ?_; first | refine LetB.tt rfl ?_) | (refine Gd.pre ?_; first | refine Gd.pass rfl ?_) | (refine Ck.pre ?_; first | refine Ck.mk rfl ?_)))); (try (conv => whnf)))
      exact ⟨rfl, (), trivial, SW.mk id rfl rfl (namesAll.row rfl (namesAll.row (pure_en _) (namesAll.row rfl rfl))) ⟨.refl _, .refl _, .refl _, .refl _, .refl _, .refl _, .refl _, .refl _, .refl _, .refl _, trivial⟩ (haveV.row rfl rfl (haveV.row (pure_en _) rfl (haveV.row rfl rfl trivial)))⟩
    · subst h
      ((repeat ((conv => whnf); (first | (refine As.pre ?_; first | refine As.mk rfl ?_) | (refine LetV.pre ?_; first | refine LetV.mk (.sc (.int _ _)) rfl ?_) | (refine LetB.pre ?_; first | refine LetB.tt rfl ?_ | refine LetB.ff rfl ?_) | (refine Gd.pre ?_; first | refine Gd.run rfl ?_ | refine Gd.pass rfl ?_) | (refine Ck.pre ?_; first | refine Ck.mk rfl ?_)))); (try (conv => whnf)))
      exact ⟨rfl, (), trivial, SW.mk id rfl rfl (namesAll.row rfl (namesAll.row (pure_en _) (namesAll.row rfl rfl))) ⟨.refl _, .refl _, .refl _, .refl _, .refl _, .refl _, .refl _, .refl _, .refl _, .refl _, trivial⟩ (haveV.row rfl rfl (haveV.row (pure_en _) rfl (haveV.row rfl rfl trivial)))⟩
    · subst h
      ((repeat ((conv => whnf); (first | (refine As.pre ?_; first | refine As.mk rfl ?_) | (refine LetV.pre ?_; first | refine LetV.mk (.sc (.int _ _)) rfl ?_) | (refine LetB.pre ?_; first | refine LetB.tt rfl ?_ | refine LetB.ff rfl ?_) | (refine Gd.pre ?_; first | refine Gd.run rfl ?_ | refine Gd.pass rfl ?_) | (refine Ck.pre ?_; first | refine Ck.mk rfl ?_)))); (try (conv => whnf)))
      exact ⟨rfl, (), trivial, SW.mk id rfl rfl (namesAll.row rfl (namesAll.row (pure_en _) (namesAll.row rfl rfl))) ⟨.refl _, .refl _, .refl _, .refl _, .refl _, .refl _, .refl _, .refl _, .refl _, .refl _, trivial⟩ (haveV.row rfl rfl (haveV.row (pure_en _) rfl (haveV.row rfl rfl trivial)))⟩
    · subst h
      ((repeat ((conv => whnf); (first | (refine As.pre ?_; first | refine As.mk rfl ?_) | (refine LetV.pre ?_; first | refine LetV.mk (.sc (.int _ _)) rfl ?_) | (refine LetB.pre ?_; first | refine LetB.ff rfl ?_) | (refine Gd.pre ?_; first | refine Gd.run rfl ?_) | (refine Ck.pre ?_; first | refine Ck.mk rfl ?_)))); (try (conv => whnf)))
      exact ⟨rfl, (), trivial, SW.mk id rfl rfl (namesAll.row rfl (namesAll.row (pure_en _) (namesAll.row rfl rfl))) ⟨.refl _, .refl _, .refl _, .refl _, .refl _, .refl _, .refl _, .refl _, .refl _, .refl _, trivial⟩ (haveV.row rfl rfl (haveV.row (pure_en _) rfl (haveV.row rfl rfl trivial)))⟩
    · subst h
      ((repeat ((conv => whnf); (first | (refine As.pre ?_; first | refine As.mk rfl ?_) | (refine LetV.pre ?_; first | refine LetV.mk (.sc (.int _ _)) rfl ?_) | (refine LetB.pre ?_; first | refine LetB.ff rfl ?_) | (refine Gd.pre ?_; first | refine Gd.run rfl ?_) | (refine Ck.pre ?_; first | refine Ck.mk rfl ?_)))); (try (conv => whnf)))
      exact ⟨rfl, (), trivial, SW.mk id rfl rfl (namesAll.row rfl (namesAll.row (pure_en _) (namesAll.row rfl rfl))) ⟨.refl _, .refl _, .refl _, .refl _, .refl _, .refl _, .refl _, .refl _, .refl _, .refl _, trivial⟩ (haveV.row rfl rfl (haveV.row (pure_en _) rfl (haveV.row rfl rfl trivial)))⟩
    · subst h
      ((repeat ((conv => whnf); (first | (refine As.pre ?_; first | refine As.mk rfl ?_) | (refine LetV.pre ?_; first | refine LetV.mk (.sc (.int _ _)) rfl ?_) | (refine LetB.pre ?_; first | refine LetB.tt rfl ?_ | refine LetB.ff rfl ?_) | (refine Gd.pre ?_; first | refine Gd.run rfl ?_) | (refine Ck.pre ?_; first | refine Ck.mk rfl ?_)))); (try (conv => whnf)))
      exact ⟨rfl, (), trivial, SW.mk id rfl rfl (namesAll.row rfl (namesAll.row (pure_en _) (namesAll.row rfl rfl))) ⟨.refl _, .refl _, .refl _, .refl _, .refl _, .refl _, .refl _, .refl _, .refl _, .refl _, trivial⟩ (haveV.row rfl rfl (haveV.row (pure_en _) rfl (haveV.row rfl rfl trivial)))⟩
  intro _ _
  refine VS.joinN (fun kd' : Int => mtE sc fl xs v0 k day' a6 out early n ⟨(k : Int) + 1, sc, st, kd', day', 0, ⟨#[]⟩, 0, 0, y.1, y.2.2.2, y.2.1, y.2.2.1, 0, ⟨#[]⟩⟩) (fun kd' => (1 ≤ kd' ∧ kd' ≤ 9) ∧ (refsK kd' → ∃ x ∈ out, x.student = st ∧ x.kind = tgt kd' ∧ x.id = y.1) ∧ (¬refsK kd' → y.1 = 0)) ?_ ?_
  · clear ih
    refine VS.of_V T_ok mixed rfl ?_
    by_cases hk : refsK kd
    · rw [decide_eq_true hk]
      by_cases hy0 : y.1 = 0
      · ((repeat ((conv => whnf); (first | (refine LetN.pre ?_; first | ((conv => arg 1; whnf); refine LetN.mk ?_)) | (refine As.pre ?_; first | refine As.mk rfl ?_) | (refine LetV.pre ?_; first | refine LetV.mk (.sc (.int _ _)) rfl ?_) | (refine LetB.pre ?_; first | refine LetB.dect (by omega) ?_) | (refine Gd.pre ?_; first | refine Gd.run rfl ?_) | (refine Br.pre ?_; first | refine Br.tt rfl ?_) | (refine Ck.pre ?_; first | refine Ck.mk rfl ?_) | (refine LetL.pre ?_; first | refine LetL.mk (ty := ety) [.agg [_, _, _, _, _, _, _, _, _, _, _, _, _, _, _]] rfl ?_)))); (try (conv => whnf)))

        exact ⟨rfl, 3, ⟨by decide, fun h => absurd h (by decide), fun _ => hy0⟩, SW.mk id rfl rfl (namesAll.row rfl (namesAll.row (pure_en _) (namesAll.row rfl rfl))) ⟨.refl _, .refl _, .refl _, .refl _, .refl _, .refl _, .refl _, .refl _, .refl _, trivial⟩ (haveV.row rfl rfl (haveV.row (pure_en _) rfl (haveV.row rfl rfl trivial)))⟩
      · ((repeat ((conv => whnf); (first | (refine As.pre ?_; first | refine As.mk rfl ?_) | (refine LetV.pre ?_; first | refine LetV.mk (.sc (.int _ _)) rfl ?_) | (refine LetB.pre ?_; first | refine LetB.decf (by omega) ?_) | (refine Gd.pre ?_; first | refine Gd.run rfl ?_) | (refine Br.pre ?_; first | refine Br.ff rfl ?_) | (refine Ck.pre ?_; first | refine Ck.mk rfl ?_)))); (try (conv => whnf)))
        exact ⟨rfl, kd, ⟨hkd, fun h => (y1 h).resolve_left hy0, fun h => absurd hk h⟩, SW.mk id rfl rfl (namesAll.row rfl (namesAll.row (pure_en _) (namesAll.row rfl rfl))) ⟨.refl _, .refl _, .refl _, .refl _, .refl _, .refl _, .refl _, .refl _, .refl _, trivial⟩ (haveV.row rfl rfl (haveV.row (pure_en _) rfl (haveV.row rfl rfl trivial)))⟩
    · rw [decide_eq_false hk]
      ((repeat ((conv => whnf); (first | (refine As.pre ?_; first | refine As.mk rfl ?_) | (refine Gd.pre ?_; first | refine Gd.pass rfl ?_) | (refine Br.pre ?_; first | refine Br.ff rfl ?_) | (refine Ck.pre ?_; first | refine Ck.mk rfl ?_)))); (try (conv => whnf)))
      exact ⟨rfl, kd, ⟨hkd, fun h => absurd h hk, y2⟩, SW.mk id rfl rfl (namesAll.row rfl (namesAll.row (pure_en _) (namesAll.row rfl rfl))) ⟨.refl _, .refl _, .refl _, .refl _, .refl _, .refl _, .refl _, .refl _, .refl _, trivial⟩ (haveV.row rfl rfl (haveV.row (pure_en _) rfl (haveV.row rfl rfl trivial)))⟩
  clear y1 y2 hkd kd r3
  intro kd hkk
  obtain ⟨hkd, y1, y2⟩ := hkk
  have hcl : (codesL.map str).length = 6 := rfl
  obtain ⟨co, hco, hcov⟩ := codes_get (n.tmod 6) (by omega)
  obtain ⟨cr, hcr, hcrv⟩ := cred_get3 (n.tmod 3) (by omega)
  refine VS.joinN (fun z : ByteArray × Int => mtE sc fl xs v0 k day' a6 out early n ⟨(k : Int) + 1, sc, st, kd, day', 0, z.1, z.2, 0, y.1, y.2.2.2, y.2.1, y.2.2.1, 0, ⟨#[]⟩⟩) (fun z => z.1.size ≤ 2 ∧ (0 ≤ z.2 ∧ z.2 ≤ 10) ∧ (kd = 3 → 5 ≤ z.2)) ?_ ?_
  · clear ih
    refine VS.of_V T_ok mixed rfl ?_
    by_cases h3 : kd = 3
    · ((repeat ((conv => whnf); (first | (refine LetN.pre ?_; first | ((conv => arg 1; whnf); refine LetN.mk ?_)) | (refine As.pre ?_; first | refine As.mk rfl ?_ | (refine As.mk ?_ ?_; · ((repeat' (refine andT ?_ ?_)) <;> (first | rfl | assumption | exact decide_eq_true (by omega) | exact decide_eq_true (by dsimp only; omega) | exact decide_eq_true (by simp; omega) | (simp; done))))) | (refine LetV.pre ?_; first | refine LetV.mk (t := 72) _ hcov ?_ | refine LetV.mk (t := 22) _ hcrv ?_ | refine LetV.mk (.sc (.int _ _)) rfl ?_ | refine LetV.mk (.sc _) rfl ?_) | (refine LetI.pre ?_; first | refine LetI.mk _ rfl ?_) | (refine LetB.pre ?_; first | refine LetB.dect (by omega) ?_) | (refine Br.pre ?_; first | refine Br.tt rfl ?_) | (refine Ck.pre ?_; first | refine Ck.mk rfl ?_) | (refine LetL.pre ?_; first | refine LetL.mk (ty := ety) [.agg [_, _, _, _, _, _, _, _, _, _, _, _, _, _, _]] rfl ?_) | (refine CallN.pre ?_; first | refine CallN.pure Codes_f rfl rfl ?_)))); (try (conv => whnf)))




      exact ⟨rfl, (co, cr), ⟨hco, by dsimp only; omega, fun _ => by dsimp only; omega⟩, SW.mk id rfl rfl (namesAll.row rfl (namesAll.row (pure_en _) (namesAll.row rfl rfl))) ⟨.refl _, .refl _, .refl _, .refl _, .refl _, .refl _, .refl _, .refl _, .refl _, trivial⟩ (haveV.row rfl rfl (haveV.row (pure_en _) rfl (haveV.row rfl rfl trivial)))⟩
    · ((repeat ((conv => whnf); (first | (refine As.pre ?_; first | refine As.mk rfl ?_) | (refine LetV.pre ?_; first | refine LetV.mk (.sc (.int _ _)) rfl ?_) | (refine LetB.pre ?_; first | refine LetB.decf (by omega) ?_) | (refine Br.pre ?_; first | refine Br.ff rfl ?_) | (refine Ck.pre ?_; first | refine Ck.mk rfl ?_)))); (try (conv => whnf)))
      exact ⟨rfl, (⟨#[]⟩, 0), ⟨by decide, by decide, fun h => absurd h h3⟩, SW.mk id rfl rfl (namesAll.row rfl (namesAll.row (pure_en _) (namesAll.row rfl rfl))) ⟨.refl _, .refl _, .refl _, .refl _, .refl _, .refl _, .refl _, .refl _, .refl _, trivial⟩ (haveV.row rfl rfl (haveV.row (pure_en _) rfl (haveV.row rfl rfl trivial)))⟩
  clear hcov hcrv hco hcr co cr
  intro z hz
  obtain ⟨z1, z2, z3⟩ := hz
  obtain ⟨v7, a7, r7, q7, N7⟩ := made_next fl xs hx a6 21 q6 (by omega)
  have d5 := tmod_bound v7 (m := 5) (by omega)
  have dp5 := tmod_pos 5 r7.1
  have hquo : v7 = (5 * v7).tdiv 5 := by
    rw [Int.tdiv_eq_ediv_of_nonneg (by omega)]; omega
  have hquw : v7 = IntKind.i64.wrap ((5 * v7).tdiv 5) := by rw [← hquo, wrap_id (by omega) (by omega)]
  refine VS.joinN (fun u : Nat × Int => mtE sc fl xs v0 k day' u.1 out early n ⟨(k : Int) + 1, sc, st, kd, day', 0, z.1, z.2, u.2, y.1, y.2.2.2, y.2.1, y.2.2.1, 0, ⟨#[]⟩⟩) (fun u => u.1 ≤ xs.length ∧ (0 ≤ u.2 ∧ u.2 ≤ 100) ∧ (kd = 3 → (sc = 2 → 1 ≤ u.2 ∧ u.2 ≤ 5) ∧ (sc = 3 → u.2 ≤ 20))) ?_ ?_
  · clear ih
    refine VS.of_V T_ok mixed rfl ?_
    by_cases h34 : kd = 3 ∨ kd = 4
    · obtain hs | hs | hs : sc = 1 ∨ sc = 2 ∨ sc = 3 := by omega
      · subst hs
        rcases h34 with h | h
        · subst h
          ((repeat ((conv => whnf); (first | (refine LetN.pre ?_; first | ((conv => arg 1; whnf); refine LetN.mk ?_)) | (refine As.pre ?_; first | refine As.mk rfl ?_) | (refine LetV.pre ?_; first | refine LetV.mk (.sc (.int _ _)) rfl ?_) | (refine LetI.pre ?_; first | refine LetI.wrap (by omega) (by omega) ?_) | (refine LetB.pre ?_; first | refine LetB.tt rfl ?_ | refine LetB.ff rfl ?_) | (refine Gd.pre ?_; first | refine Gd.pass rfl ?_) | (refine Br.pre ?_; first | refine Br.tt rfl ?_ | refine Br.ff rfl ?_) | (refine Ck.pre ?_; first | refine Ck.mk rfl ?_) | (refine LetL.pre ?_; first | refine LetL.mk (ty := ety) [.agg [_, _, _, _, _, _, _, _, _, _, _, _, _, _, _]] rfl ?_ | refine LetL.mk [_] rfl ?_) | (refine CallN.pre ?_; first | refine CallN.own (fun _ => 0) N7 (CallOk.mk' rfl rfl rfl (namesAll.row rfl rfl) rfl (namesAll.row rfl rfl) (haveAll.row rfl rfl trivial)) ?_)))); (try (conv => whnf)))




          exact ⟨rfl, (a7, 5 * v7), ⟨q7, by dsimp only; omega, fun _ => ⟨fun h => by dsimp only; omega, fun h => by dsimp only; omega⟩⟩, SW.mk id rfl rfl (namesAll.row rfl (namesAll.row (pure_en _) (namesAll.row rfl rfl))) ⟨.refl _, .refl _, .refl _, .refl _, .refl _, .refl _, .refl _, .refl _, .refl _, trivial⟩ (haveV.row rfl rfl (haveV.row (pure_en _) rfl (haveV.row rfl rfl trivial)))⟩
        · subst h
          ((repeat ((conv => whnf); (first | (refine LetN.pre ?_; first | ((conv => arg 1; whnf); refine LetN.mk ?_)) | (refine As.pre ?_; first | refine As.mk rfl ?_) | (refine LetV.pre ?_; first | refine LetV.mk (.sc (.int _ _)) rfl ?_) | (refine LetI.pre ?_; first | refine LetI.wrap (by omega) (by omega) ?_) | (refine LetB.pre ?_; first | refine LetB.tt rfl ?_ | refine LetB.ff rfl ?_) | (refine Gd.pre ?_; first | refine Gd.run rfl ?_) | (refine Br.pre ?_; first | refine Br.tt rfl ?_ | refine Br.ff rfl ?_) | (refine Ck.pre ?_; first | refine Ck.mk rfl ?_) | (refine LetL.pre ?_; first | refine LetL.mk (ty := ety) [.agg [_, _, _, _, _, _, _, _, _, _, _, _, _, _, _]] rfl ?_ | refine LetL.mk [_] rfl ?_) | (refine CallN.pre ?_; first | refine CallN.own (fun _ => 0) N7 (CallOk.mk' rfl rfl rfl (namesAll.row rfl rfl) rfl (namesAll.row rfl rfl) (haveAll.row rfl rfl trivial)) ?_)))); (try (conv => whnf)))




          exact ⟨rfl, (a7, 5 * v7), ⟨q7, by dsimp only; omega, fun _ => ⟨fun h => by dsimp only; omega, fun h => by dsimp only; omega⟩⟩, SW.mk id rfl rfl (namesAll.row rfl (namesAll.row (pure_en _) (namesAll.row rfl rfl))) ⟨.refl _, .refl _, .refl _, .refl _, .refl _, .refl _, .refl _, .refl _, .refl _, trivial⟩ (haveV.row rfl rfl (haveV.row (pure_en _) rfl (haveV.row rfl rfl trivial)))⟩
      · subst hs
        rcases h34 with h | h
        · subst h
          ((repeat ((conv => whnf); (first | (refine LetN.pre ?_; first | ((conv => arg 1; whnf); refine LetN.mk ?_)) | (refine As.pre ?_; first | refine As.mk rfl ?_) | (refine LetV.pre ?_; first | refine LetV.mk (.sc (.int _ _)) rfl ?_) | (refine LetI.pre ?_; first | refine LetI.mk (o := some .quo) v7 hquw ?_ | refine LetI.wrap (by omega) (by omega) ?_ | refine LetI.mk _ rfl ?_) | (refine LetB.pre ?_; first | refine LetB.tt rfl ?_) | (refine Gd.pre ?_; first | refine Gd.pass rfl ?_) | (refine Br.pre ?_; first | refine Br.tt rfl ?_) | (refine Ck.pre ?_; first | refine Ck.mk rfl ?_) | (refine LetL.pre ?_; first | refine LetL.mk (ty := ety) [.agg [_, _, _, _, _, _, _, _, _, _, _, _, _, _, _]] rfl ?_ | refine LetL.mk [_] rfl ?_) | (refine CallN.pre ?_; first | refine CallN.own (fun _ => 0) N7 (CallOk.mk' rfl rfl rfl (namesAll.row rfl rfl) rfl (namesAll.row rfl rfl) (haveAll.row rfl rfl trivial)) ?_)))); (try (conv => whnf)))




          exact ⟨rfl, (a7, 1 + v7.tmod 5), ⟨q7, by dsimp only; omega, fun _ => ⟨fun h => by dsimp only; omega, fun h => by dsimp only; omega⟩⟩, SW.mk id rfl rfl (namesAll.row rfl (namesAll.row (pure_en _) (namesAll.row rfl rfl))) ⟨.refl _, .refl _, .refl _, .refl _, .refl _, .refl _, .refl _, .refl _, .refl _, trivial⟩ (haveV.row rfl rfl (haveV.row (pure_en _) rfl (haveV.row rfl rfl trivial)))⟩
        · subst h
          ((repeat ((conv => whnf); (first | (refine LetN.pre ?_; first | ((conv => arg 1; whnf); refine LetN.mk ?_)) | (refine As.pre ?_; first | refine As.mk rfl ?_) | (refine LetV.pre ?_; first | refine LetV.mk (.sc (.int _ _)) rfl ?_) | (refine LetI.pre ?_; first | refine LetI.mk (o := some .quo) v7 hquw ?_ | refine LetI.wrap (by omega) (by omega) ?_ | refine LetI.mk _ rfl ?_) | (refine LetB.pre ?_; first | refine LetB.tt rfl ?_ | refine LetB.ff rfl ?_) | (refine Gd.pre ?_; first | refine Gd.run rfl ?_) | (refine Br.pre ?_; first | refine Br.tt rfl ?_) | (refine Ck.pre ?_; first | refine Ck.mk rfl ?_) | (refine LetL.pre ?_; first | refine LetL.mk (ty := ety) [.agg [_, _, _, _, _, _, _, _, _, _, _, _, _, _, _]] rfl ?_ | refine LetL.mk [_] rfl ?_) | (refine CallN.pre ?_; first | refine CallN.own (fun _ => 0) N7 (CallOk.mk' rfl rfl rfl (namesAll.row rfl rfl) rfl (namesAll.row rfl rfl) (haveAll.row rfl rfl trivial)) ?_)))); (try (conv => whnf)))




          exact ⟨rfl, (a7, 1 + v7.tmod 5), ⟨q7, by dsimp only; omega, fun _ => ⟨fun h => by dsimp only; omega, fun h => by dsimp only; omega⟩⟩, SW.mk id rfl rfl (namesAll.row rfl (namesAll.row (pure_en _) (namesAll.row rfl rfl))) ⟨.refl _, .refl _, .refl _, .refl _, .refl _, .refl _, .refl _, .refl _, .refl _, trivial⟩ (haveV.row rfl rfl (haveV.row (pure_en _) rfl (haveV.row rfl rfl trivial)))⟩
      · subst hs
        rcases h34 with h | h
        · subst h
          ((repeat ((conv => whnf); (first | (refine LetN.pre ?_; first | ((conv => arg 1; whnf); refine LetN.mk ?_)) | (refine As.pre ?_; first | refine As.mk rfl ?_) | (refine LetV.pre ?_; first | refine LetV.mk (.sc (.int _ _)) rfl ?_) | (refine LetI.pre ?_; first | refine LetI.mk (o := some .quo) v7 hquw ?_ | refine LetI.wrap (by omega) (by omega) ?_) | (refine LetB.pre ?_; first | refine LetB.tt rfl ?_ | refine LetB.ff rfl ?_) | (refine Gd.pre ?_; first | refine Gd.pass rfl ?_) | (refine Br.pre ?_; first | refine Br.tt rfl ?_ | refine Br.ff rfl ?_) | (refine Ck.pre ?_; first | refine Ck.mk rfl ?_) | (refine LetL.pre ?_; first | refine LetL.mk (ty := ety) [.agg [_, _, _, _, _, _, _, _, _, _, _, _, _, _, _]] rfl ?_ | refine LetL.mk [_] rfl ?_) | (refine CallN.pre ?_; first | refine CallN.own (fun _ => 0) N7 (CallOk.mk' rfl rfl rfl (namesAll.row rfl rfl) rfl (namesAll.row rfl rfl) (haveAll.row rfl rfl trivial)) ?_)))); (try (conv => whnf)))




          exact ⟨rfl, (a7, v7), ⟨q7, by dsimp only; omega, fun _ => ⟨fun h => by dsimp only; omega, fun h => by dsimp only; omega⟩⟩, SW.mk id rfl rfl (namesAll.row rfl (namesAll.row (pure_en _) (namesAll.row rfl rfl))) ⟨.refl _, .refl _, .refl _, .refl _, .refl _, .refl _, .refl _, .refl _, .refl _, trivial⟩ (haveV.row rfl rfl (haveV.row (pure_en _) rfl (haveV.row rfl rfl trivial)))⟩
        · subst h
          ((repeat ((conv => whnf); (first | (refine LetN.pre ?_; first | ((conv => arg 1; whnf); refine LetN.mk ?_)) | (refine As.pre ?_; first | refine As.mk rfl ?_) | (refine LetV.pre ?_; first | refine LetV.mk (.sc (.int _ _)) rfl ?_) | (refine LetI.pre ?_; first | refine LetI.mk (o := some .quo) v7 hquw ?_ | refine LetI.wrap (by omega) (by omega) ?_) | (refine LetB.pre ?_; first | refine LetB.tt rfl ?_ | refine LetB.ff rfl ?_) | (refine Gd.pre ?_; first | refine Gd.run rfl ?_) | (refine Br.pre ?_; first | refine Br.tt rfl ?_ | refine Br.ff rfl ?_) | (refine Ck.pre ?_; first | refine Ck.mk rfl ?_) | (refine LetL.pre ?_; first | refine LetL.mk (ty := ety) [.agg [_, _, _, _, _, _, _, _, _, _, _, _, _, _, _]] rfl ?_ | refine LetL.mk [_] rfl ?_) | (refine CallN.pre ?_; first | refine CallN.own (fun _ => 0) N7 (CallOk.mk' rfl rfl rfl (namesAll.row rfl rfl) rfl (namesAll.row rfl rfl) (haveAll.row rfl rfl trivial)) ?_)))); (try (conv => whnf)))




          exact ⟨rfl, (a7, v7), ⟨q7, by dsimp only; omega, fun _ => ⟨fun h => by dsimp only; omega, fun h => by dsimp only; omega⟩⟩, SW.mk id rfl rfl (namesAll.row rfl (namesAll.row (pure_en _) (namesAll.row rfl rfl))) ⟨.refl _, .refl _, .refl _, .refl _, .refl _, .refl _, .refl _, .refl _, .refl _, trivial⟩ (haveV.row rfl rfl (haveV.row (pure_en _) rfl (haveV.row rfl rfl trivial)))⟩
    · have h3 : ¬kd = 3 := fun h => h34 (.inl h)
      have h4 : ¬kd = 4 := fun h => h34 (.inr h)
      ((repeat ((conv => whnf); (first | (refine As.pre ?_; first | refine As.mk rfl ?_) | (refine LetV.pre ?_; first | refine LetV.mk (.sc (.int _ _)) rfl ?_) | (refine LetB.pre ?_; first | refine LetB.decf (by omega) ?_) | (refine Gd.pre ?_; first | refine Gd.run rfl ?_) | (refine Br.pre ?_; first | refine Br.ff rfl ?_) | (refine Ck.pre ?_; first | refine Ck.mk rfl ?_)))); (try (conv => whnf)))
      exact ⟨rfl, (a6, 0), ⟨q6, by dsimp only; omega, fun h => absurd h h3⟩, SW.mk id rfl rfl (namesAll.row rfl (namesAll.row (pure_en _) (namesAll.row rfl rfl))) ⟨.refl _, .refl _, .refl _, .refl _, .refl _, .refl _, .refl _, .refl _, .refl _, trivial⟩ (haveV.row rfl rfl (haveV.row (pure_en _) rfl (haveV.row rfl rfl trivial)))⟩
  clear N7 q7 r7 d5 dp5 hquo hquw
  clear a7 v7
  intro u hu
  obtain ⟨u1, u2, u3⟩ := hu
  have hO := on_f out y.1 {} (by omega)
  have hOb := hM.onP y.1 h2.1
  have hOat : ∀ x ∈ out, x.id = y.1 → En.onP out y.1 = x.on_ := fun x hx h => by rw [← h]; exact hM.onP_at hx
  generalize En.onP out y.1 = ov at hO hOb hOat
  refine VS.cut T_ok mixed rfl ?_
  ((repeat ((conv => whnf); (first | (refine LetN.pre ?_; first | ((conv => arg 1; whnf); refine LetN.mk ?_)) | (refine As.pre ?_; first | refine As.mk rfl ?_) | (refine LetV.pre ?_; first | refine LetV.mk (.sc (.int _ _)) rfl ?_) | (refine LetI.pre ?_; first | refine LetI.wrap (by omega) (by omega) ?_ | refine LetI.mk _ rfl ?_) | (refine Ck.pre ?_; first | refine Ck.mk rfl ?_) | (refine LetL.pre ?_; first | refine LetL.mk (ty := ety) [.agg [_, _, _, _, _, _, _, _, _, _, _, _, _, _, _]] rfl ?_) | (refine CallN.pre ?_; first | refine CallN.lend hO rfl (.full rfl (pure_en _) hml.symm (.same rfl .nil)) ?_)))); (try (conv => whnf)))


  refine VS.weak (s1 := mtE sc fl xs v0 k day' u.1 out early n ⟨(k : Int) + 1, sc, st, kd, day', max (max 0 ov) (day' - early), z.1, z.2, u.2, y.1, y.2.2.2, y.2.1, y.2.2.1, 0, ⟨#[]⟩⟩) ?swb ?_
  case swb => exact SW.mk id rfl rfl (namesAll.row rfl (namesAll.row (pure_en _) (namesAll.row rfl rfl))) ⟨.refl _, .refl _, .refl _, .refl _, .refl _, .refl _, .refl _, .refl _, .refl _, trivial⟩ (haveV.row rfl rfl (haveV.row (pure_en _) rfl (haveV.row rfl rfl trivial)))
  have hon : 0 ≤ max (max 0 ov) (day' - early) ∧ max (max 0 ov) (day' - early) ≤ day' ∧ ov ≤ max (max 0 ov) (day' - early) := by omega
  obtain ⟨e, he⟩ : ∃ e : E, e = ⟨(k : Int) + 1, sc, st, kd, day', max (max 0 ov) (day' - early), z.1, z.2, u.2, y.1, y.2.2.2, y.2.1, y.2.2.1, 0, ⟨#[]⟩⟩ := ⟨_, rfl⟩
  rw [← he]
  have hM2 : M10 sc day' (out ++ [e]) := by
    refine hM.add ?_ (by omega) (by rw [he]; dsimp only; omega) (by rw [he]) fun hk => ?_
    · rw [he]
      exact ⟨rfl, hst3, hkd, by dsimp only; omega, by dsimp only; omega, z1, z2, u2, y3, y4, y5, rfl, rfl, fun h => ⟨z3 h, u3 h⟩, y2⟩
    · rw [he] at hk ⊢
      obtain ⟨x, x1, x2, x3, x4⟩ := y1 hk
      exact ⟨x, x1, x2, x3, x4, by dsimp only; rw [← hOat x x1 x4]; exact hon.2.2⟩
  have hnx := ih (k + 1, day', u.1, out ++ [e]) ⟨by dsimp only; omega, by dsimp only; omega, u1, by simp [h4], hM2⟩ (by show 24 - (k + 1) < 24 - k; omega)
  clear ih hM2 hM hO hOat y1 y2 he
  have hr := room_en (n := out.length + 1) (by omega)
  refine VS.of_V T_ok mixed rfl ?_
  ((repeat ((conv => whnf); (first | (refine LetN.pre ?_; first | ((conv => arg 1; whnf); refine LetN.mk ?_)) | (refine As.pre ?_; first | refine As.mk rfl ?_ | (refine As.mk ?_ ?_; · ((repeat' (refine andT ?_ ?_)) <;> (first | rfl | assumption | exact decide_eq_true (by omega) | exact decide_eq_true (by dsimp only; omega) | exact decide_eq_true (by simp; omega) | (simp; done))))) | (refine LetV.pre ?_; first | refine LetV.mk (.agg _) rfl ?_) | (refine Ck.pre ?_; first | refine Ck.mk rfl ?_) | (refine LetL.pre ?_; first | refine LetL.mk (ty := ety) _ (app_en out e _ rfl) ?_)))); (try (conv => whnf)))
  refine VS.of_V T_ok mixed rfl ?_
  ((repeat ((conv => whnf); (first | (refine As.pre ?_; first | refine As.mk rfl ?_) | (refine LetI.pre ?_; first | refine LetI.wrap (by omega) (by omega) ?_) | (refine Ck.pre ?_; first | refine Ck.mk rfl ?_)))); (try (conv => whnf)))
  refine LoopN.weak ?swc hnx
  case swc => exact SW.mk (fun i => if i = 1 then 3 else i) rfl rfl (namesAll.row rfl (namesAll.row (pure_en _) rfl)) ⟨.refl _, .refl _, VLe2.slm_of (by simp), .refl _, .refl _, VLe2.int (by omega), trivial⟩ (haveV.row rfl rfl (haveV.row (pure_en _) rfl trivial))
theorem Made10_f (xs : List Int) (fl : Fl) (hx : xs.length ≤ 9223372036854775807) (sc : Int) (hsc : 1 ≤ sc ∧ sc ≤ 3) : ∃ l : List E, (l.length ≤ 24 ∧ M10 sc 600 l) ∧ AFun Try.prog 35 0 [.ro fl 1 (xs.map int), int sc] [] (.ro {} 15 (l.map en)) [] := by
  obtain ⟨l, h, hM⟩ := Made10_s xs fl hx sc hsc
  exact ⟨l, h, AFun.frz1 (H := []) hM rfl (pure_en _) (by simp)⟩
end En
end Go.Proofs.Ytiefcppgbnfbfaa
namespace Go.Proofs.Ytiefcppgbnfbfaa
open Go.Proofs.Ytiefcppgbnfbfaa.Am
set_option maxRecDepth 100000
namespace En
/-! ### The grades, by their Ids -/
def putM : List (Int × E) → E → List (Int × E)
  | [], e => [(e.id, e)]
  | x :: m, e => if x.1 = e.id then (e.id, e) :: m else x :: putM m e
def ixM : List (Int × E) → Int → Option Nat
  | [], _ => none
  | x :: m, k => if x.1 = k then some 0 else (ixM m k).map (· + 1)
abbrev kvM (m : List (Int × E)) : List (Value × AV) := m.map fun x => (.int .i64 x.1, en x.2)
theorem ix_none : ∀ {m : List (Int × E)} {k : Int}, ixM m k = none → ∀ x ∈ m, x.1 ≠ k
  | [], k, _, x, hx => absurd hx List.not_mem_nil
  | y :: m, k, h, x, hx => by
    unfold ixM at h
    by_cases hy : y.1 = k
    · rw [if_pos hy] at h; cases h
    · rw [if_neg hy] at h
      rcases List.mem_cons.1 hx with e | e
      · rw [e]; exact hy
      · exact ix_none (Option.map_eq_none_iff.1 h) x e
theorem ix_some : ∀ {m : List (Int × E)} {k : Int} {i : Nat}, ixM m k = some i → ∃ e, m[i]? = some (k, e)
  | [], k, i, h => by cases h
  | y :: m, k, i, h => by
    unfold ixM at h
    by_cases hy : y.1 = k
    · rw [if_pos hy] at h; injection h with h; subst h; exact ⟨y.2, by rw [← hy]; rfl⟩
    · rw [if_neg hy] at h
      obtain ⟨j, hj, rfl⟩ := Option.map_eq_some_iff.1 h
      obtain ⟨e, he⟩ := ix_some hj
      exact ⟨e, by simpa using he⟩
theorem find_none {m : List (Int × E)} {k : Int} (h : ixM m k = none) : findOk (kvM m) (.int .i64 k) none := by
  intro x hx
  obtain ⟨y, hy, rfl⟩ := List.mem_map.1 hx
  intro e
  simp only [Value.int.injEq, true_and] at e
  exact ix_none h y hy e
theorem find_some {m : List (Int × E)} {k : Int} {i : Nat} (h : ixM m k = some i) : findOk (kvM m) (.int .i64 k) (some i) := by
  obtain ⟨e, he⟩ := ix_some h
  exact ⟨en e, by rw [List.getElem?_map, he]; rfl⟩
theorem put_none : ∀ {m : List (Int × E)} {e : E}, ixM m e.id = none → putM m e = m ++ [(e.id, e)]
  | [], e, _ => rfl
  | y :: m, e, h => by
    unfold ixM at h
    by_cases hy : y.1 = e.id
    · rw [if_pos hy] at h; cases h
    · rw [if_neg hy] at h
      rw [putM, if_neg hy, put_none (Option.map_eq_none_iff.1 h)]; rfl
theorem put_some : ∀ {m : List (Int × E)} {e : E} {i : Nat}, ixM m e.id = some i → putM m e = m.set i (e.id, e)
  | [], e, i, h => by cases h
  | y :: m, e, i, h => by
    unfold ixM at h
    by_cases hy : y.1 = e.id
    · rw [if_pos hy] at h; injection h with h; subst h; rw [putM, if_pos hy]; rfl
    · rw [if_neg hy] at h
      obtain ⟨j, hj, rfl⟩ := Option.map_eq_some_iff.1 h
      rw [putM, if_neg hy, put_some hj]; rfl
theorem kvM_pure : ∀ m : List (Int × E), kvPure (kvM m) = true
  | [] => rfl
  | x :: m => kvM_pure m
theorem kvM_solid : ∀ m : List (Int × E), ((kvM m).all fun x => x.2.solid) = true
  | [] => rfl
  | x :: m => kvM_solid m
theorem solid_en : ∀ l : List E, AV.solidL (l.map en) = true
  | [] => rfl
  | p :: l => by simp only [List.map_cons, AV.solidL, solid_en l]; rfl
theorem kvM_put_none {m : List (Int × E)} {e : E} (h : ixM m e.id = none) : kvM (putM m e) = kvM m ++ [(.int .i64 e.id, en e)] := by
  rw [put_none h, kvM, List.map_append]; rfl
theorem kvM_put_some {m : List (Int × E)} {e : E} {i : Nat} (h : ixM m e.id = some i) : kvM (putM m e) = (kvM m).set i (.int .i64 e.id, en e) := by
  rw [put_some h, kvM, List.map_set]
/-- The grades of a list, put in from its end on. -/
def mB : List E → List (Int × E)
  | [] => []
  | e :: l => if e.kind = 3 then putM (mB l) e else mB l
theorem mB_drop {l : List E} {k : Nat} (h : k < l.length) : mB (l.drop k) = if (l.getD k e0).kind = 3 then putM (mB (l.drop (k + 1))) (l.getD k e0) else mB (l.drop (k + 1)) := by
  rw [List.drop_eq_getElem_cons h, List.getD_eq_getElem?_getD, List.getElem?_eq_getElem h]; rfl
/-- The keys of a map are numbers that a word holds. -/
abbrev okI (n : Int) : Prop := -9223372036854775808 ≤ n ∧ n ≤ 9223372036854775807
theorem getD_memE {l : List E} {k : Nat} (h : k < l.length) : l.getD k e0 ∈ l := by
  rw [List.getD_eq_getElem?_getD, List.getElem?_eq_getElem h]; exact List.getElem_mem _
theorem key_intE {n : Int} (h : okI n) : keyB Try.prog 3 (.int .i64 n) = true := by
  have hu : Try.prog.underlying 3 = some (.int .i64) := TT.Ok.int T_ok (t := 3) rfl rfl
  have hw : (Lit.int .i64 n).wf = true := by
    simp only [Lit.wf, Bool.and_eq_true, decide_eq_true_eq]
    exact h
  unfold keyB keyOf
  simp [hu, mapKey, hw]
theorem keys_M {m : List (Int × E)} (h : ∀ x ∈ m, okI x.1) {n : Int} (hn : okI n) : (keyB Try.prog 3 (.int .i64 n) && (kvM m).all fun x => keyB Try.prog 3 x.1) = true := by
  rw [key_intE hn, Bool.true_and]
  refine List.all_eq_true.2 fun x hx => ?_
  obtain ⟨y, hy, rfl⟩ := List.mem_map.1 hx
  exact key_intE (h y hy)
theorem mem_put {m : List (Int × E)} {e : E} : ∀ x ∈ putM m e, x = (e.id, e) ∨ x ∈ m := by
  induction m with
  | nil => intro x hx; simp only [putM, List.mem_singleton] at hx; exact .inl hx
  | cons y m ih =>
    intro x hx
    unfold putM at hx
    split at hx
    · rcases List.mem_cons.1 hx with h | h
      · exact .inl h
      · exact .inr (List.mem_cons_of_mem _ h)
    · rcases List.mem_cons.1 hx with h | h
      · exact .inr (h ▸ List.mem_cons_self ..)
      · exact (ih x h).imp id (List.mem_cons_of_mem _)
theorem mem_mB : ∀ {l : List E}, ∀ x ∈ mB l, ∃ e ∈ l, x = (e.id, e)
  | [], x, hx => absurd hx List.not_mem_nil
  | e :: l, x, hx => by
    unfold mB at hx
    split at hx
    · rcases mem_put x hx with h | h
      · exact ⟨e, List.mem_cons_self .., h⟩
      · obtain ⟨y, hy, h⟩ := mem_mB x h; exact ⟨y, List.mem_cons_of_mem _ hy, h⟩
    · obtain ⟨y, hy, h⟩ := mem_mB x hx; exact ⟨y, List.mem_cons_of_mem _ hy, h⟩
theorem mB_keys {l : List E} (h : ∀ e ∈ l, okI e.id) : ∀ x ∈ mB l, okI x.1 := by
  intro x hx
  obtain ⟨e, he, rfl⟩ := mem_mB x hx
  exact h e he
/-- The grade with an Id. -/
def gradeM (m : List (Int × E)) (k : Int) : E := match ixM m k with
  | some i => (m.getD i (0, e0)).2
  | none => e0
/-! ### Backward -/
theorem Backward_f (l : List E) (fl : Fl) : AFun Try.prog 38 0 [.ro fl 15 (l.map en)] [] (.clo 61 [.rp (.ro fl 15 (l.map en)) 0]) [] := by
  have h : AFun Try.prog 38 0 [.ro fl 15 (l.map en)] [] (.clo 61 [.ptr 0 1 0 0]) [(0, .row 1 30 [.ro fl 15 (l.map en)])] := by
    refine AFun.of_W T_ok mixed Try.func38 rfl (Nat.le_of_ble_eq_true rfl) rfl ?_
    ((repeat ((conv => whnf); (first | (refine LetN.pre ?_; first | ((conv => arg 1; whnf); refine LetN.mk ?_)) | (refine As.pre ?_; first | refine As.mk rfl ?_) | (refine Ck.pre ?_; first | refine Ck.mk rfl ?_)))); (try (conv => whnf)))
    exact ⟨.inl rfl, ⟨_, rfl, rfl⟩, rfl, trivial⟩
  exact AFun.frz [0] h rfl rfl rfl
abbrev bkH (m : List (Int × E)) : AH := [(0, .map m.length (kvM m)), (1, .row 1 73 [.mp 0])]
abbrev bkS (l : List E) (fl : Fl) (y : AV) : Nat → AS
  | j => ⟨[(0, y), (1, .rp (.ro fl 15 (l.map en)) 0), (3, int ((j : Int) - 1))], bkH (mB (l.drop j)), 2⟩
set_option maxRecDepth 100000 in
theorem Back1_f (l : List E) (fl : Fl) (hl : l.length ≤ 1000) (lp : Nat) (rc : Loop) (hps : rc.params.size = 2) (ks : List Nat)
    (hy : ∀ j, j < l.length → AFunC (CY Try.prog lp rc) 2 [.yl lp rc ks [.ptr 1 1 0 0], int j, en (l.getD j e0)] (bkH (mB (l.drop (j + 1)))) (bool true) (bkH (mB (l.drop j)))) :
    AFun Try.prog 61 2 [.yl lp rc ks [.ptr 1 1 0 0], .rp (.ro fl 15 (l.map en)) 0] (bkH []) (.tup []) (bkH (mB l)) := by
  refine AFun.of_S T_ok mixed Try.func61 rfl (Nat.le_of_ble_eq_true rfl) rfl ?_
  have hml : (l.map en).length = l.length := List.length_map _
  have hbn : ∀ (m : List (Int × E)) (ok : Nat → Bool), ok 0 = true → namesAll ok (bkH m) = true := fun m ok h => namesAll.map (kvM_pure _) (by simp only [namesAll, Blk.names, AV.namesL, AV.names, h]; rfl)
  ((repeat ((conv => whnf); (first | (refine As.pre ?_; first | refine As.mk rfl ?_) | (refine LetV.pre ?_; first | refine LetV.mk (.ro _ _ _) rfl ?_) | (refine LetI.pre ?_; first | refine LetI.wrap (by omega) (by omega) ?_ | refine LetI.mk _ rfl ?_) | (refine Ck.pre ?_; first | refine Ck.mk rfl ?_)))); (try (conv => whnf)))
  refine LoopN.weak (s1 := bkS l fl (.yl lp rc ks [.ptr 1 1 0 0]) l.length) ?sw1 ?_
  case sw1 => exact SW.mk id rfl rfl (hbn _ _ rfl) ⟨.refl _, .refl _, VLe2.int (by rw [hml]), trivial⟩ (haveV.map (kvM_pure _) (by rw [List.drop_length]; rfl) (haveV.one rfl trivial))
  refine LoopN.ind T_ok mixed (S := bkS l fl (.yl lp rc ks [.ptr 1 1 0 0])) (fun j => j) (fun j => j ≤ l.length) (fun _ => rfl) (fun j hj ih => ?_) l.length (Nat.le_refl _)
  cases j with
  | zero =>
    clear ih hy
    ((repeat ((conv => whnf); (first | (refine As.pre ?_; first | refine As.mk rfl ?_) | (refine LetB.pre ?_; first | refine LetB.ff rfl ?_) | (refine Br.pre ?_; first | refine Br.ff rfl ?_) | (refine Ck.pre ?_; first | refine Ck.mk rfl ?_)))); (try (conv => whnf)))
    exact ⟨⟨[], bkH (mB l), 2⟩, SW.mk id rfl rfl (hbn _ _ rfl) trivial (haveV.map (kvM_pure _) rfl (haveV.one rfl trivial)), .inr rfl, ⟨_, rfl, rfl⟩, rfl, rfl, trivial⟩
  | succ i =>
    have hi : i < l.length := by omega
    have hld : en (l.getD i e0) = (l.map en).getD i (.sc undef) := mapD e0 hi
    have hyi := hy i hi
    have next := ih i (by omega) (by omega)
    clear ih hy
    have e1 : bkS l fl (.yl lp rc ks [.ptr 1 1 0 0]) (i + 1) = ⟨[(0, .yl lp rc ks [.ptr 1 1 0 0]), (1, .rp (.ro fl 15 (l.map en)) 0), (3, int (i : Int))], bkH (mB (l.drop (i + 1))), 2⟩ := by
      have e : (((i + 1 : Nat) : Int) - 1) = (i : Int) := by omega
      show (⟨[(0, _), (1, _), (3, int (((i + 1 : Nat) : Int) - 1))], _, _⟩ : AS) = _
      rw [e]
    rw [e1]
    clear e1
    generalize mB (l.drop (i + 1)) = m at hyi
    generalize hm' : mB (l.drop i) = m' at hyi
    generalize l.getD i e0 = e at hld hyi
    ((repeat ((conv => whnf); (first | (refine LetN.pre ?_; first | ((conv => arg 1; whnf); refine LetN.mk ?_)) | (refine As.pre ?_; first | refine As.mk rfl ?_ | (refine As.mk ?_ ?_; · ((repeat' (refine andT ?_ ?_)) <;> (first | rfl | assumption | exact decide_eq_true (by omega) | exact decide_eq_true (by dsimp only; omega) | exact decide_eq_true (by simp; omega) | (simp; done))))) | (refine LetV.pre ?_; first | refine LetV.mk (t := 30) _ hld ?_ | refine LetV.mk (.agg _) rfl ?_ | refine LetV.mk (.ro _ _ _) rfl ?_) | (refine LetI.pre ?_; first | refine LetI.wrap (by omega) (by omega) ?_) | (refine LetB.pre ?_; first | refine LetB.tt rfl ?_) | (refine Br.pre ?_; first | refine Br.tt rfl ?_ | refine Br.ff rfl ?_) | (refine Ck.pre ?_; first | refine Ck.mk rfl ?_) | (refine LetL.pre ?_; first | refine LetL.mk [_] rfl ?_) | ((refine YieldN.own id hyi (by rw [hps]; rfl) (CallOk.mk' rfl rfl rfl (hbn _ _ rfl) rfl (hbn _ _ rfl) (haveAll.map (kvM_pure _) rfl ⟨rfl, trivial⟩)) ?_))))); (try (conv => whnf)))


    refine LoopN.weak ?sw2 next
    case sw2 => exact SW.mk id rfl rfl (hbn _ _ rfl) ⟨.refl _, .refl _, VLe2.int rfl, trivial⟩ (haveV.map (kvM_pure _) (by show some (Blk.map _ _) = _; rw [kv_ren (kvM_pure _), hm']) (haveV.one rfl trivial))
end En
end Go.Proofs.Ytiefcppgbnfbfaa
