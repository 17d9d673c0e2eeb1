/- stand: parts of the proof, DstandFE DstandHA DstandHB DstandLA DstandLB DstandLC DstandLD DstandSA DstandJF DstandJG. -/
import Derived.Test.YtnegdmjmllmclaaL40
import Derived.Test.YtnegdmjmllmclaaL33
import Derived.Test.YtnegdmjmllmclaaAmFZ
set_option linter.all false
namespace Go.Proofs.Ytnegdmjmllmclaa
open Go.Proofs.Ytnegdmjmllmclaa.Am
set_option maxRecDepth 100000
namespace En
/-! ### The stable sort of a list of less than 40 entries -/
def eqv {α : Type} (lt : α → α → Bool) (a x : α) : Bool := !lt a x && !lt x a
theorem eq_cls {α : Type} {lt : α → α → Bool} (ho : Ord lt) : ∀ (X Y : List α), Sorted lt X → Sorted lt Y → (∀ a, X.filter (eqv lt a) = Y.filter (eqv lt a)) → X = Y := by
  have irr : ∀ x, eqv lt x x = true := fun x => by
    have : lt x x = false := by
      cases h : lt x x with
      | false => rfl
      | true => have := ho.asym _ _ h; rw [h] at this; cases this
    simp [eqv, this]
  intro X
  induction X with
  | nil =>
    intro Y _ _ h
    cases Y with
    | nil => rfl
    | cons y Y => have := h y; rw [List.filter_cons, irr] at this; simp at this
  | cons x X ih =>
    intro Y hX hY h
    cases Y with
    | nil => have := h x; rw [List.filter_cons, irr] at this; simp at this
    | cons y Y =>
      obtain ⟨hX1, hX2⟩ := List.pairwise_cons.1 hX
      obtain ⟨hY1, hY2⟩ := List.pairwise_cons.1 hY
      have mx : x ∈ y :: Y := by
        have : x ∈ (x :: X).filter (eqv lt x) := List.mem_filter.2 ⟨List.mem_cons_self .., irr x⟩
        rw [h x] at this
        exact (List.mem_filter.1 this).1
      have my : y ∈ x :: X := by
        have : y ∈ (y :: Y).filter (eqv lt y) := List.mem_filter.2 ⟨List.mem_cons_self .., irr y⟩
        rw [← h y] at this
        exact (List.mem_filter.1 this).1
      have hxy : x = y := by
        rcases List.mem_cons.1 mx with k | k
        · exact k
        rcases List.mem_cons.1 my with k' | k'
        · exact k'.symm
        have h1 := hY1 x k
        have h2 := hX1 y k'
        have h0 := h x
        rw [List.filter_cons, List.filter_cons, irr, show eqv lt x y = true by simp [eqv, h1, h2]] at h0
        simp only [if_true, List.cons.injEq] at h0
        exact h0.1
      subst hxy
      congr 1
      refine ih Y hX2 hY2 fun a => ?_
      have h1 := h a
      rw [List.filter_cons, List.filter_cons] at h1
      split at h1
      · exact (List.cons.inj h1).2
      · exact h1
theorem S_cls {α : Type} {lt : α → α → Bool} (ho : Ord lt) (a : α) (l : List α) : sortS lt (l.filter (eqv lt a)) = l.filter (eqv lt a) := by
  have key : ∀ m : List α, (∀ x ∈ m, eqv lt a x = true) → Sorted lt m := by
    intro m
    induction m with
    | nil => intro _; exact List.Pairwise.nil
    | cons x m ih =>
      intro h
      refine List.pairwise_cons.2 ⟨fun y hy => ?_, ih fun y hy => h y (List.mem_cons_of_mem _ hy)⟩
      have h1 := h x (List.mem_cons_self ..)
      have h2 := h y (List.mem_cons_of_mem _ hy)
      simp only [eqv, Bool.and_eq_true, Bool.not_eq_true'] at h1 h2
      exact ho.trans _ _ _ h2.2 h1.1
  exact S_id (key _ fun x hx => (List.mem_filter.1 hx).2)
theorem S_two {α : Type} {lt : α → α → Bool} (ho : Ord lt) (A B : List α) : sortS lt (sortS lt A ++ sortS lt B) = sortS lt (A ++ B) := by
  refine eq_cls ho _ _ (S_sorted ho _) (S_sorted ho _) fun a => ?_
  rw [S_filter ho, S_filter ho, List.filter_append, List.filter_append, S_filter ho, S_filter ho, S_cls ho, S_cls ho, ← List.filter_append, S_cls ho]
theorem rowOk1 (l l' : List E) (vs : List AV) (v : AV) (hv : AV.namesL (fun i => decide (i < 1)) vs = true) (hv2 : v.names (fun i => decide (i < 1) || [0].contains i) = true) (he : AV.renL id vs = vs) : CallOk 1 id vs [(0, .row 15 ety (l.map en))] v [(0, .row 15 ety (l'.map en))] [(0, .row 15 ety (l.map en))] vs :=
  CallOk.mk' rfl he.symm hv (namesAll.row (pure_en _) rfl) hv2 (namesAll.row (pure_en _) rfl) (haveAll.row (pure_en _) rfl trivial)
set_option maxRecDepth 100000 in
theorem stable_f (o : Bool) (l : List E) (fl : Fl) (hl : l.length < 40) : AFun Try.prog 83 1 [.slm fl 0 15 0 l.length, int l.length, cmpV o] [(0, .row 15 ety (l.map en))] (.tup []) [(0, .row 15 ety ((srt o l).map en))] := by
  refine AFun.of_S T_ok mixed Try.func83 rfl (Nat.le_of_ble_eq_true rfl) rfl ?_
  rw [srt_S]
  by_cases hs : l.length < 20
  · have hi := insertion_r o [] l [] l l.length 0 l.length fl (by simp) rfl (by simp) rfl (by omega)
    rw [List.nil_append, List.append_nil] at hi
    have ok := rowOkE l (sortS (ltE o) l) [.slm fl 0 15 0 l.length, int (0 : Nat), int l.length, cmpV o] (.tup []) rfl rfl rfl
    generalize sortS (ltE o) l = R at hi ok ⊢
    ((repeat ((conv => whnf); (first | (refine As.pre ?_; first | refine As.mk rfl ?_) | (refine Ck.pre ?_; first | refine Ck.mk rfl ?_)))); (try (conv => whnf)))
    refine LoopN.round T_ok mixed rfl ?_
    ((repeat ((conv => whnf); (first | (refine LetN.pre ?_; first | ((conv => arg 1; whnf); refine LetN.mk ?_)) | (refine As.pre ?_; first | refine As.mk rfl ?_) | (refine LetB.pre ?_; first | refine LetB.decf (by omega) ?_) | (refine Br.pre ?_; first | refine Br.ff rfl ?_) | (refine Ck.pre ?_; first | refine Ck.mk rfl ?_) | (refine LetL.pre ?_; first | refine LetL.mk (ty := ety) _ (renL_none (pure_en _)).symm ?_) | (refine CallN.pre ?_; first | refine CallN.own id hi ok ?_)))); (try (conv => whnf)))


    refine LoopN.round T_ok mixed rfl ?_
    ((repeat ((conv => whnf); (first | (refine As.pre ?_; first | refine As.mk rfl ?_) | (refine LetB.pre ?_; first | refine LetB.decf (by omega) ?_) | (refine Br.pre ?_; first | refine Br.ff rfl ?_) | (refine Ck.pre ?_; first | refine Ck.mk rfl ?_)))); (try (conv => whnf)))
    exact ⟨⟨[], [(0, .row 15 ety (R.map en))], 1⟩, SW.mk id rfl rfl (namesAll.row (pure_en _) rfl) trivial (haveV.row (pure_en _) (by rfl) trivial), .inr rfl, ⟨_, rfl, rfl⟩, rfl, trivial⟩
  have e : l = l.take 20 ++ l.drop 20 := (List.take_append_drop _ _).symm
  have l1 : (l.take 20).length = 20 := by rw [List.length_take]; omega
  have l2 : (l.drop 20).length = l.length - 20 := List.length_drop
  obtain ⟨N, hN⟩ : ∃ N, N = l.length := ⟨_, rfl⟩
  rw [← hN] at l2 hl hs ⊢
  generalize l.take 20 = A at e l1
  generalize l.drop 20 = B at e l2
  have s1 : (sortS (ltE o) A).length = 20 := by rw [(S_perm _ _).length_eq, l1]
  have s2 : (sortS (ltE o) B).length = N - 20 := by rw [(S_perm _ _).length_eq, l2]
  have h1 := insertion_r o [] A B l N 0 20 fl (by rw [e]; rfl) rfl (by rw [l1]) hN (by omega)
  rw [List.nil_append] at h1
  have h2 := insertion_r o (sortS (ltE o) A) B [] (sortS (ltE o) A ++ B) N 20 N fl (by simp) s1.symm (by omega) (by simp; omega) (by omega)
  rw [List.append_nil] at h2
  have ok1 := rowOkE l (sortS (ltE o) A ++ B) [.slm fl 0 15 0 N, int (0 : Nat), int (20 : Nat), cmpV o] (.tup []) rfl rfl rfl
  have ok2 := rowOkE (sortS (ltE o) A ++ B) (sortS (ltE o) A ++ sortS (ltE o) B) [.slm fl 0 15 0 N, int (20 : Nat), int N, cmpV o] (.tup []) rfl rfl rfl
  by_cases h20 : N = 20
  · have hB : B = [] := List.eq_nil_of_length_eq_zero (by omega)
    have hR : sortS (ltE o) l = sortS (ltE o) A ++ sortS (ltE o) B := by rw [e, hB, List.append_nil]; exact (List.append_nil _).symm
    rw [hR]
    ((repeat ((conv => whnf); (first | (refine As.pre ?_; first | refine As.mk rfl ?_) | (refine Ck.pre ?_; first | refine Ck.mk rfl ?_)))); (try (conv => whnf)))
    refine LoopN.round T_ok mixed rfl ?_
    ((repeat ((conv => whnf); (first | (refine LetN.pre ?_; first | ((conv => arg 1; whnf); refine LetN.mk ?_)) | (refine As.pre ?_; first | refine As.mk rfl ?_) | (refine LetI.pre ?_; first | refine LetI.wrap (by omega) (by omega) ?_) | (refine LetB.pre ?_; first | refine LetB.dect (by omega) ?_) | (refine Br.pre ?_; first | refine Br.tt rfl ?_) | (refine Ck.pre ?_; first | refine Ck.mk rfl ?_) | (refine LetL.pre ?_; first | refine LetL.mk (ty := ety) _ (renL_none (pure_en _)).symm ?_) | (refine CallN.pre ?_; first | refine CallN.own id h1 ok1 ?_)))); (try (conv => whnf)))


    refine LoopN.round T_ok mixed rfl ?_
    ((repeat ((conv => whnf); (first | (refine LetN.pre ?_; first | ((conv => arg 1; whnf); refine LetN.mk ?_)) | (refine As.pre ?_; first | refine As.mk rfl ?_) | (refine LetB.pre ?_; first | refine LetB.decf (by omega) ?_) | (refine Br.pre ?_; first | refine Br.ff rfl ?_) | (refine Ck.pre ?_; first | refine Ck.mk rfl ?_) | (refine LetL.pre ?_; first | refine LetL.mk (ty := ety) _ (renL_none (pure_en _)).symm ?_) | (refine CallN.pre ?_; first | refine CallN.own id h2 ok2 ?_)))); (try (conv => whnf)))


    refine LoopN.round T_ok mixed rfl ?_
    ((repeat ((conv => whnf); (first | (refine As.pre ?_; first | refine As.mk rfl ?_) | (refine LetB.pre ?_; first | refine LetB.decf (by omega) ?_) | (refine Br.pre ?_; first | refine Br.ff rfl ?_) | (refine Ck.pre ?_; first | refine Ck.mk rfl ?_)))); (try (conv => whnf)))
    exact ⟨⟨[], erow (sortS (ltE o) A ++ sortS (ltE o) B), 1⟩, SW.mk id rfl rfl (namesAll.row (pure_en _) rfl) trivial (haveV.row (pure_en _) (by rfl) trivial), .inr rfl, ⟨_, rfl, rfl⟩, rfl, trivial⟩
  have h3 := symMerge_f o N [] (sortS (ltE o) A) (sortS (ltE o) B) [] (sortS (ltE o) A ++ sortS (ltE o) B) N 0 20 N fl (by omega) (by simp) (by omega) (by omega) (S_sorted (ord_E o) _) (S_sorted (ord_E o) _) rfl (by omega) (by omega) (by simp; omega) (by omega)
  rw [S_two (ord_E o), ← e, List.nil_append, List.append_nil] at h3
  have ok3 := rowOkE (sortS (ltE o) A ++ sortS (ltE o) B) (sortS (ltE o) l) [.slm fl 0 15 0 N, int (0 : Nat), int (20 : Nat), int N, cmpV o] (.tup []) rfl rfl rfl
  generalize sortS (ltE o) l = R at h3 ok3 ⊢
  ((repeat ((conv => whnf); (first | (refine As.pre ?_; first | refine As.mk rfl ?_) | (refine Ck.pre ?_; first | refine Ck.mk rfl ?_)))); (try (conv => whnf)))
  refine LoopN.round T_ok mixed rfl ?_
  ((repeat ((conv => whnf); (first | (refine LetN.pre ?_; first | ((conv => arg 1; whnf); refine LetN.mk ?_)) | (refine As.pre ?_; first | refine As.mk rfl ?_) | (refine LetI.pre ?_; first | refine LetI.wrap (by omega) (by omega) ?_) | (refine LetB.pre ?_; first | refine LetB.dect (by omega) ?_) | (refine Br.pre ?_; first | refine Br.tt rfl ?_) | (refine Ck.pre ?_; first | refine Ck.mk rfl ?_) | (refine LetL.pre ?_; first | refine LetL.mk (ty := ety) _ (renL_none (pure_en _)).symm ?_) | (refine CallN.pre ?_; first | refine CallN.own id h1 ok1 ?_)))); (try (conv => whnf)))


  refine LoopN.round T_ok mixed rfl ?_
  ((repeat ((conv => whnf); (first | (refine LetN.pre ?_; first | ((conv => arg 1; whnf); refine LetN.mk ?_)) | (refine As.pre ?_; first | refine As.mk rfl ?_) | (refine LetB.pre ?_; first | refine LetB.decf (by omega) ?_) | (refine Br.pre ?_; first | refine Br.ff rfl ?_) | (refine Ck.pre ?_; first | refine Ck.mk rfl ?_) | (refine LetL.pre ?_; first | refine LetL.mk (ty := ety) _ (renL_none (pure_en _)).symm ?_) | (refine CallN.pre ?_; first | refine CallN.own id h2 ok2 ?_)))); (try (conv => whnf)))


  refine LoopN.round T_ok mixed rfl ?_
  ((repeat ((conv => whnf); (first | (refine As.pre ?_; first | refine As.mk rfl ?_) | (refine LetI.pre ?_; first | refine LetI.wrap (by omega) (by omega) ?_) | (refine LetB.pre ?_; first | refine LetB.dect (by omega) ?_) | (refine Br.pre ?_; first | refine Br.tt rfl ?_) | (refine Ck.pre ?_; first | refine Ck.mk rfl ?_)))); (try (conv => whnf)))
  refine LoopN.round T_ok mixed rfl ?_
  ((repeat ((conv => whnf); (first | (refine LetN.pre ?_; first | ((conv => arg 1; whnf); refine LetN.mk ?_)) | (refine As.pre ?_; first | refine As.mk rfl ?_) | (refine LetI.pre ?_; first | refine LetI.wrap (by omega) (by omega) ?_) | (refine LetB.pre ?_; first | refine LetB.dect (by omega) ?_ | refine LetB.decf (by omega) ?_) | (refine Br.pre ?_; first | refine Br.tt rfl ?_ | refine Br.ff rfl ?_) | (refine Ck.pre ?_; first | refine Ck.mk rfl ?_) | (refine LetL.pre ?_; first | refine LetL.mk (ty := ety) _ (renL_none (pure_en _)).symm ?_) | (refine CallN.pre ?_; first | refine CallN.own id h3 ok3 ?_)))); (try (conv => whnf)))


  refine LoopN.round T_ok mixed rfl ?_
  ((repeat ((conv => whnf); (first | (refine As.pre ?_; first | refine As.mk rfl ?_) | (refine LetB.pre ?_; first | refine LetB.decf (by omega) ?_) | (refine Br.pre ?_; first | refine Br.ff rfl ?_) | (refine Ck.pre ?_; first | refine Ck.mk rfl ?_)))); (try (conv => whnf)))
  exact ⟨⟨[], erow R, 1⟩, SW.mk id rfl rfl (namesAll.row (pure_en _) rfl) trivial (haveV.row (pure_en _) (by rfl) trivial), .inr rfl, ⟨_, rfl, rfl⟩, rfl, trivial⟩
theorem sortStable_f (o : Bool) (l : List E) (fl : Fl) (hl : l.length < 40) : AFun Try.prog 67 1 [.slm fl 0 15 0 l.length, cmpV o] [(0, .row 15 ety (l.map en))] (.tup []) [(0, .row 15 ety ((srt o l).map en))] := by
  refine AFun.of_W T_ok mixed Try.func67 rfl (Nat.le_of_ble_eq_true rfl) rfl ?_
  have hi := stable_f o l fl hl
  have ok := rowOk1 l (srt o l) [.slm fl 0 15 0 l.length, int l.length, cmpV o] (.tup []) rfl rfl rfl
  generalize srt o l = R at hi ok ⊢
  ((repeat ((conv => whnf); (first | (refine LetN.pre ?_; first | ((conv => arg 1; whnf); refine LetN.mk ?_)) | (refine As.pre ?_; first | refine As.mk rfl ?_) | (refine LetI.pre ?_; first | refine LetI.mk _ rfl ?_) | (refine Ck.pre ?_; first | refine Ck.mk rfl ?_) | (refine LetL.pre ?_; first | refine LetL.mk (ty := ety) _ (renL_none (pure_en _)).symm ?_) | (refine CallN.pre ?_; first | refine CallN.own id hi ok ?_)))); (try (conv => whnf)))


  exact ⟨.inr rfl, ⟨_, rfl, rfl⟩, rfl, trivial⟩
theorem sorted_f (o : Bool) (l : List E) (fl : Fl) (hl : l.length < 40) : AFun Try.prog 40 1 [.slm fl 0 15 0 l.length, .agg [bool o]] [(0, .row 15 ety (l.map en))] (.slm fl 0 15 0 l.length) [(0, .row 15 ety ((srt o l).map en))] := by
  refine AFun.of_W T_ok mixed Try.func40 rfl (Nat.le_of_ble_eq_true rfl) rfl ?_
  have hi := sortStable_f o l fl hl
  have hnR : ∀ R : List E, CallOk 1 id [.slm fl 0 15 0 l.length, cmpV o] [(0, .row 15 ety (l.map en))] (.tup []) [(0, .row 15 ety (R.map en))] [(0, .row 15 ety (l.map en)), (1, .row 1 90 [.agg [bool o]])] [.slm fl 0 15 0 l.length, cmpV o] := fun R =>
    CallOk.mk' rfl rfl rfl (namesAll.row (pure_en _) rfl) rfl (namesAll.row (pure_en _) rfl) (haveAll.row (pure_en _) rfl trivial)
  generalize srt o l = R at hi ⊢
  have ok := hnR R
  ((repeat ((conv => whnf); (first | (refine LetN.pre ?_; first | ((conv => arg 1; whnf); refine LetN.mk ?_)) | (refine As.pre ?_; first | refine As.mk rfl ?_) | (refine LetV.pre ?_; first | refine LetV.mk (.agg _) rfl ?_) | (refine Ck.pre ?_; first | refine Ck.mk rfl ?_) | (refine LetL.pre ?_; first | refine LetL.mk (ty := ety) _ (renL_none (pure_en _)).symm ?_) | (refine CallN.pre ?_; first | refine CallN.own id hi ok ?_)))); (try (conv => whnf)))


  exact ⟨.inl rfl, ⟨_, rfl, rfl⟩, rfl, trivial⟩
end En
end Go.Proofs.Ytnegdmjmllmclaa
namespace Go.Proofs.Ytnegdmjmllmclaa
open Go.Proofs.Ytnegdmjmllmclaa.Am
set_option maxRecDepth 100000
namespace En
theorem oks1 {a : Cd} (h : a.Ok) : ∀ c ∈ [a], c.Ok := by simpa using h
theorem oks2 {a b : Cd} (h : a.Ok) (k : b.Ok) : ∀ c ∈ [a, b], c.Ok := by
  intro c hc
  simp at hc
  rcases hc with rfl | rfl <;> assumption
theorem oks3 {a b d : Cd} (h : a.Ok) (k : b.Ok) (l : d.Ok) : ∀ c ∈ [a, b, d], c.Ok := by
  intro c hc
  simp at hc
  rcases hc with rfl | rfl | rfl <;> assumption
/-- A finding is lifted. -/
def liftedP (l : List E) (f a o : Int) : Bool := l.any fun e => decide (e.kind = 6) && decide (e.ref = f) && decide (e.day ≤ a ∧ e.on_ ≤ o)
theorem lifted_len (l : List E) (f a o : Int) : liftedP l f a o = decide (((((chos l [cOf 6, cTo f, cCounts a o]).map en).length : Int)) > 0) := by
  rw [Bool.eq_iff_iff, decide_eq_true_eq, List.length_map]
  have : ((chos l [cOf 6, cTo f, cCounts a o]).length : Int) > 0 ↔ 0 < (chos l [cOf 6, cTo f, cCounts a o]).length := by omega
  rw [this, List.length_pos_iff_exists_mem]
  simp [liftedP, chos, and_assoc]
theorem Lifted_f (l : List E) (f a o : Int) (fl : Fl) (hl : l.length ≤ 100000) : AFun Try.prog 45 0 [.ro fl 15 (l.map en), int f, int a, int o] [] (bool (liftedP l f a o)) [] := by
  refine AFun.of_W T_ok mixed Try.func45 rfl (Nat.le_of_ble_eq_true rfl) rfl ?_
  have hc := fun fl' => chosen_f l [cOf 6, cTo f, cCounts a o] (oks3 (cOf_ok 6) (cTo_ok f) (cCounts_ok a o)) fl fl' hl (by simp)
  have hb := lifted_len l f a o
  generalize liftedP l f a o = b at hb ⊢
  generalize chos l [cOf 6, cTo f, cCounts a o] = C at hc hb
  ((repeat ((conv => whnf); (first | (refine As.pre ?_; first | refine As.mk rfl ?_) | (refine LetI.pre ?_; first | refine LetI.mk _ rfl ?_) | (refine LetB.pre ?_; first | refine LetB.mk _ hb ?_) | (refine Ck.pre ?_; first | refine Ck.mk rfl ?_) | (refine CallN.pre ?_; first | refine CallN.pure (of_f _) rfl rfl ?_ | refine CallN.pure (to_f _) rfl rfl ?_ | refine CallN.pure (counts_f _ _) rfl rfl ?_ | refine CallN.pure (hc _) rfl rfl ?_)))); (try (conv => whnf)))





  exact ⟨.inl rfl, ⟨_, rfl, rfl⟩, trivial⟩
theorem take_map_succ {α β : Type} (g : α → β) {l : List α} {k : Nat} (h : k < l.length) (d : α) : (l.take (k + 1)).map g = (l.take k).map g ++ [g (l.getD k d)] := by
  rw [List.take_succ_eq_append_getElem h, List.map_append, List.getD_eq_getElem?_getD, List.getElem?_eq_getElem h]; rfl
end En
end Go.Proofs.Ytnegdmjmllmclaa
namespace Go.Proofs.Ytnegdmjmllmclaa
open Go.Proofs.Ytnegdmjmllmclaa.Am
set_option maxRecDepth 100000
namespace En
/-- A standing. -/
structure St where
  entry : Int
  by_ : Int
  grade : Int
  void : Bool
abbrev stA (s : St) : AV := .agg [int s.entry, int s.by_, int s.grade, bool s.void]
abbrev sty : TypeId := 59
theorem pure_st : ∀ l : List St, AV.namesL (fun _ => false) (l.map stA) = true
  | [] => rfl
  | p :: l => by simp only [List.map_cons, AV.namesL, pure_st l]; rfl
theorem plain_st : ∀ l : List St, AV.plainL (l.map stA) = true
  | [] => rfl
  | p :: l => by simp only [List.map_cons, AV.plainL, plain_st l]; rfl
theorem app_st (l : List St) (e : St) (n : Nat) (h : n = l.length) : (l ++ [e]).map stA = (l.map stA).take n ++ [stA e] := by rw [List.take_of_length_le (by simp [h]), List.map_append]; rfl
theorem room_st {n : Nat} (h : n ≤ 1000000) : room n 32 = true := by
  simp only [room, Bool.and_eq_true, decide_eq_true_eq]
  exact ⟨by omega, rfl⟩
/-- The latest correction: by which entry, its grade, its day, whether there is one. -/
def stepC (x : Int × Int × Int × Bool) (c : E) : Int × Int × Int × Bool := if x.2.2.2 = false ∨ x.2.2.1 < c.day ∨ (c.day = x.2.2.1 ∧ x.1 < c.id) then (c.id, c.grade, c.day, true) else x
def corr (R : List E) (g : E) : Int × Int × Int × Bool := (chos R [cOf 4, cTo g.id]).foldl stepC (0, g.grade, 0, false)
def voidP (R : List E) (a o : Int) (g : E) : Bool := (chos R [cOf 5, cTo g.id]).any fun f => !liftedP R f.id a o
def stand (R : List E) (a o : Int) (g : E) : St := ⟨g.id, (corr R g).1, (corr R g).2.1, voidP R a o g⟩
def atR (l : List E) (a o : Int) : List E := srt false (chos l [cCounts a o])
def atP (l : List E) (a o : Int) : List St := (chos (atR l a o) [cOf 3]).map (stand (atR l a o) a o)
theorem foldl_drop {α β : Type} (f : β → α → β) {l : List α} {k : Nat} (h : k < l.length) (d : α) (x : β) : (l.drop k).foldl f x = (l.drop (k + 1)).foldl f (f x (l.getD k d)) := by
  rw [List.drop_eq_getElem_cons h, List.foldl_cons, List.getD_eq_getElem?_getD, List.getElem?_eq_getElem h]; rfl
theorem any_drop {α : Type} (f : α → Bool) {l : List α} {k : Nat} (h : k < l.length) (d : α) : (l.drop k).any f = (f (l.getD k d) || (l.drop (k + 1)).any f) := by
  rw [List.drop_eq_getElem_cons h, List.any_cons, List.getD_eq_getElem?_getD, List.getElem?_eq_getElem h]; rfl
abbrev atS (R G : List E) (a o : Int) : Nat × List St → AS
  | (k, out) => ⟨[(0, .slm {} 0 15 0 R.length), (1, int a), (2, int o), (6, .slm {} 2 4 0 out.length), (27, .slm {} 1 15 0 G.length), (28, int G.length), (29, int k)], [(0, .row 15 ety (R.map en)), (1, .row 15 ety (G.map en)), (2, .row 4 sty (out.map stA))], 3⟩
abbrev atA (R G C : List E) (a o : Int) (k : Nat) (out : List St) (g : E) : Nat × Int × Int × Int × Bool → AS
  | (i, b, gr, d, s) => ⟨[(0, .slm {} 0 15 0 R.length), (1, int a), (2, int o), (6, .slm {} 2 4 0 out.length), (27, .slm {} 1 15 0 G.length), (28, int G.length), (29, int k), (8, .ptr 3 15 0 0), (9, .ptr 4 4 0 0), (10, int d), (11, bool s), (44, .slm {} 5 15 0 C.length), (45, int C.length), (46, int i)],
      [(0, .row 15 ety (R.map en)), (1, .row 15 ety (G.map en)), (2, .row 4 sty (out.map stA)), (3, .row 15 ety [en g]), (4, .row 4 sty [stA ⟨g.id, b, gr, false⟩]), (5, .row 15 ety (C.map en))], 6⟩
abbrev atB (R G C : List E) (a o : Int) (k : Nat) (out : List St) (g : E) (b gr : Int) : Nat × Bool → AS
  | (i, v) => ⟨[(0, .slm {} 0 15 0 R.length), (1, int a), (2, int o), (6, .slm {} 2 4 0 out.length), (27, .slm {} 1 15 0 G.length), (28, int G.length), (29, int k), (9, .ptr 4 4 0 0), (86, .slm {} 5 15 0 C.length), (87, int C.length), (88, int i)],
      [(0, .row 15 ety (R.map en)), (1, .row 15 ety (G.map en)), (2, .row 4 sty (out.map stA)), (4, .row 4 sty [stA ⟨g.id, b, gr, v⟩]), (5, .row 15 ety (C.map en))], 6⟩
theorem atNames (R G : List E) (out : List St) (ok : Nat → Bool) (H : AH) (h : namesAll ok H = true) : namesAll ok ((0, .row 15 ety (R.map en)) :: (1, .row 15 ety (G.map en)) :: (2, .row 4 sty (out.map stA)) :: H) = true :=
  namesAll.row (pure_en _) (namesAll.row (pure_en _) (namesAll.row (pure_st _) h))
set_option maxHeartbeats 1600000 in
set_option maxRecDepth 100000 in
theorem At_s (l : List E) (a o : Int) (fl : Fl) (hl : l.length < 40) : AFun Try.prog 22 0 [.ro fl 15 (l.map en), int a, int o] [] (.slm {} 0 4 0 (atP l a o).length) [(0, .row 4 sty ((atP l a o).map stA))] := by
  refine AFun.of_S T_ok mixed Try.func22 rfl (Nat.le_of_ble_eq_true rfl) rfl ?_
  have hc := fun fl' => chosen_s l [cCounts a o] (oks1 (cCounts_ok a o)) fl fl' (by omega) (by simp)
  have hl2 : (chos l [cCounts a o]).length ≤ l.length := List.length_filter_le _ _
  rw [atP, atR]
  generalize chos l [cCounts a o] = D at hc hl2 ⊢
  have hs := sorted_f false D {} (by omega)
  have hrl : D.length = (srt false D).length := (srt_length ..).symm
  generalize srt false D = R at hs hrl ⊢
  have hrl2 : D.length = (R.map en).length := by rw [List.length_map, hrl]
  have hc2 := fun fl' => chosen_s R [cOf 3] (oks1 (cOf_ok 3)) {} fl' (by omega) (by simp)
  have hl3 : (chos R [cOf 3]).length ≤ R.length := List.length_filter_le _ _
  generalize chos R [cOf 3] = G at hc2 hl3 ⊢
  ((repeat ((conv => whnf); (first | (refine LetN.pre ?_; first | ((conv => arg 1; whnf); refine LetN.mk ?_)) | (refine As.pre ?_; first | refine As.mk rfl ?_) | (refine LetI.pre ?_; first | refine LetI.mk _ rfl ?_) | (refine Ck.pre ?_; first | refine Ck.mk rfl ?_) | (refine LetL.pre ?_; first | refine LetL.mk (ty := ety) _ (renL_none (pure_en _)).symm ?_ | refine LetL.mk _ rfl ?_) | (refine CallN.pre ?_; first | refine CallN.pure (of_f _) rfl rfl ?_ | refine CallN.pure (counts_f _ _) rfl rfl ?_ | refine CallN.lendOwn 0 (hc _) (.same rfl (.same rfl .nil)) rfl rfl rfl (plain_en _) ?_ | refine CallN.own (fun _ => 0) hs (CallOk.mk' rfl rfl rfl (namesAll.row (pure_en _) rfl) rfl (namesAll.row (pure_en _) rfl) (haveAll.row (pure_en _) rfl trivial)) ?_ | refine CallN.lendOwn 1 (hc2 _) (.full rfl (pure_en _) hrl2 (.same rfl .nil)) rfl rfl rfl (plain_en _) ?_)))); (try (conv => whnf)))






  refine LoopN.weak (s1 := atS R G a o (0, [])) ?sw1 ?_
  case sw1 => exact SW.mk id rfl rfl (atNames _ _ _ _ _ rfl) ⟨VLe2.slm_of hrl.symm, .refl _, .refl _, VLe2.nilslm, .refl _, .refl _, .refl _, trivial⟩ (haveV.row (pure_en _) rfl (haveV.row (pure_en _) rfl (haveV.nil (Nat.le_refl _) trivial)))
  refine LoopN.ind T_ok mixed (S := atS R G a o) (fun i => G.length - i.1) (fun i => i.1 ≤ G.length ∧ i.2 = (G.take i.1).map (stand R a o)) (fun _ => rfl) (fun i hi ih => ?_) (0, []) ⟨Nat.zero_le _, rfl⟩
  obtain ⟨k, out⟩ := i
  obtain ⟨h1, h2⟩ := hi
  simp only at h1 h2 ih
  by_cases hlt : k < G.length
  case neg =>
    have hk : k = G.length := by omega
    subst hk
    rw [List.take_length] at h2
    rw [← h2]
    clear ih
    ((repeat ((conv => whnf); (first | (refine As.pre ?_; first | refine As.mk rfl ?_) | (refine LetB.pre ?_; first | refine LetB.decf (by omega) ?_) | (refine Br.pre ?_; first | refine Br.ff rfl ?_) | (refine Ck.pre ?_; first | refine Ck.mk rfl ?_)))); (try (conv => whnf)))
    exact ⟨⟨[(6, .slm {} 0 4 0 out.length)], [(0, .row 4 sty (out.map stA))], 3⟩, SW.mk (fun _ => 2) rfl rfl (namesAll.row (pure_st _) rfl) ⟨.refl _, trivial⟩ (haveV.row (pure_st _) rfl trivial), .inl rfl, ⟨_, rfl, rfl⟩, rfl, trivial⟩
  have hld : en (G.getD k e0) = Am.part true 15 0 15 ((G.map en).getD (0 + k) (.sc undef)) := getD_en hlt
  have hq := take_map_succ (stand R a o) hlt e0
  rw [← h2] at hq
  have hol : out.length = k := by rw [h2]; simp; omega
  clear h2
  generalize G.getD k e0 = g at hld hq
  have hcC := fun fl' => chosen_s R [cOf 4, cTo g.id] (oks2 (cOf_ok 4) (cTo_ok g.id)) {} fl' (by omega) (by simp)
  have hlC : (chos R [cOf 4, cTo g.id]).length ≤ R.length := List.length_filter_le _ _
  have hcF := fun fl' => chosen_s R [cOf 5, cTo g.id] (oks2 (cOf_ok 5) (cTo_ok g.id)) {} fl' (by omega) (by simp)
  have hlF : (chos R [cOf 5, cTo g.id]).length ≤ R.length := List.length_filter_le _ _
  have hst : stand R a o g = ⟨g.id, ((chos R [cOf 4, cTo g.id]).foldl stepC (0, g.grade, 0, false)).1, ((chos R [cOf 4, cTo g.id]).foldl stepC (0, g.grade, 0, false)).2.1, (chos R [cOf 5, cTo g.id]).any fun f => !liftedP R f.id a o⟩ := rfl
  generalize chos R [cOf 4, cTo g.id] = C at hcC hlC hst
  generalize chos R [cOf 5, cTo g.id] = F at hcF hlF hst
  have hRR : R.length = (R.map en).length := by rw [List.length_map]
  ((repeat ((conv => whnf); (first | (refine LetN.pre ?_; first | ((conv => arg 1; whnf); refine LetN.mk ?_)) | (refine As.pre ?_; first | refine As.mk rfl ?_ | (refine As.mk ?_ ?_; · ((repeat' (refine andT ?_ ?_)) <;> (first | rfl | assumption | exact decide_eq_true (by omega) | exact decide_eq_true (by dsimp only; omega) | exact decide_eq_true (by simp; omega) | (simp; done))))) | (refine LetV.pre ?_; first | refine LetV.mk (t := ety) _ hld ?_ | refine LetV.mk (.sc (.int _ _)) rfl ?_) | (refine LetI.pre ?_; first | refine LetI.mk _ rfl ?_) | (refine LetB.pre ?_; first | refine LetB.dect (by omega) ?_) | (refine Br.pre ?_; first | refine Br.tt rfl ?_) | (refine Ck.pre ?_; first | refine Ck.drawn (by kernel_rfl) ?_ | refine Ck.mk rfl ?_) | (refine LetL.pre ?_; first | refine LetL.mk [_] rfl ?_ | refine LetL.mk _ rfl ?_) | (refine CallN.pre ?_; first | refine CallN.pure (of_f _) rfl rfl ?_ | refine CallN.pure (to_f _) rfl rfl ?_ | refine CallN.lendOwn 5 (hcC _) (.full rfl (pure_en _) hRR (.same rfl .nil)) rfl rfl rfl (plain_en _) ?_)))); (try (conv => whnf)))




  refine LoopN.weak (s1 := atA R G C a o k out g (0, 0, g.grade, 0, false)) ?sw2 ?_
  case sw2 => exact SW.mk id rfl rfl (atNames _ _ _ _ _ (namesAll.row rfl (namesAll.row rfl (namesAll.row (pure_en _) rfl)))) ⟨.refl _, .refl _, .refl _, .refl _, .refl _, .refl _, .refl _, .refl _, .refl _, .refl _, .refl _, .refl _, .refl _, .refl _, trivial⟩ (haveV.row (pure_en _) rfl (haveV.row (pure_en _) rfl (haveV.row (pure_st _) rfl (haveV.row rfl rfl (haveV.row rfl rfl (haveV.row (pure_en _) rfl trivial))))))
  generalize hX : C.foldl stepC (0, g.grade, 0, false) = X at hst
  refine LoopN.ind T_ok mixed (S := atA R G C a o k out g) (fun i => C.length - i.1) (fun i => i.1 ≤ C.length ∧ X = (C.drop i.1).foldl stepC i.2) (fun _ => rfl) (fun i hi ihA => ?_) (0, 0, g.grade, 0, false) ⟨Nat.zero_le _, hX.symm⟩
  obtain ⟨i, b, gr, d, s⟩ := i
  obtain ⟨g1, g2⟩ := hi
  simp only at g1 g2 ihA
  by_cases hiC : i < C.length
  case pos =>
    have hldc : en (C.getD i e0) = Am.part true 15 0 15 ((C.map en).getD (0 + i) (.sc undef)) := getD_en hiC
    rw [foldl_drop stepC hiC e0] at g2
    generalize C.getD i e0 = c at hldc g2
    have next : ∀ (b' gr' d' : Int) (s' : Bool), stepC (b, gr, d, s) c = (b', gr', d', s') → LoopN Try.prog 0 Try.f22.ntmps _ (atA R G C a o k out g (i + 1, b', gr', d', s')) _ := fun b' gr' d' s' hs' => ihA (i + 1, b', gr', d', s') ⟨by omega, by rw [← hs']; exact g2⟩ (by omega)
    clear ihA ih hc hc2 hcC hcF hs
    have fin : ∀ (b' gr' d' : Int) (s' : Bool), namesAll (fun i => decide (i < 0) || (List.map Prod.fst (atA R G C a o k out g (i, b', gr', d', s')).H).contains i) (atA R G C a o k out g (i, b', gr', d', s')).H = true := fun b' gr' d' s' => atNames _ _ _ _ _ (namesAll.row rfl (namesAll.row rfl (namesAll.row (pure_en _) rfl)))
    cases s with
    | false =>
      ((repeat ((conv => whnf); (first | (refine LetN.pre ?_; first | ((conv => arg 1; whnf); refine LetN.mk ?_)) | (refine As.pre ?_; first | refine As.mk rfl ?_ | (refine As.mk ?_ ?_; · ((repeat' (refine andT ?_ ?_)) <;> (first | rfl | assumption | exact decide_eq_true (by omega) | exact decide_eq_true (by dsimp only; omega) | exact decide_eq_true (by simp; omega) | (simp; done))))) | (refine LetV.pre ?_; first | refine LetV.mk (t := ety) _ hldc ?_ | refine LetV.mk (.sc (.int _ _)) rfl ?_) | (refine LetI.pre ?_; first | refine LetI.wrap (by omega) (by omega) ?_) | (refine LetB.pre ?_; first | refine LetB.dect (by omega) ?_) | (refine Gd.pre ?_; first | refine Gd.pass rfl ?_) | (refine Br.pre ?_; first | refine Br.tt rfl ?_) | (refine Ck.pre ?_; first | refine Ck.drawn (by kernel_rfl) ?_ | refine Ck.mk rfl ?_) | (refine LetL.pre ?_; first | refine LetL.mk [_] rfl ?_)))); (try (conv => whnf)))
      refine LoopN.weak ?sw3 (next c.id c.grade c.day true (if_pos (.inl rfl)))
      case sw3 => exact SW.mk id rfl rfl (atNames _ _ _ _ _ (namesAll.row rfl (namesAll.row rfl (namesAll.row (pure_en _) rfl)))) ⟨.refl _, .refl _, .refl _, .refl _, .refl _, .refl _, .refl _, .refl _, .refl _, .refl _, .refl _, .refl _, .refl _, VLe2.int (by omega), trivial⟩ (haveV.row (pure_en _) rfl (haveV.row (pure_en _) rfl (haveV.row (pure_st _) rfl (haveV.row rfl rfl (haveV.row rfl rfl (haveV.row (pure_en _) rfl trivial))))))
    | true =>
      by_cases q1 : d < c.day
      · ((repeat ((conv => whnf); (first | (refine LetN.pre ?_; first | ((conv => arg 1; whnf); refine LetN.mk ?_)) | (refine As.pre ?_; first | refine As.mk rfl ?_ | (refine As.mk ?_ ?_; · ((repeat' (refine andT ?_ ?_)) <;> (first | rfl | assumption | exact decide_eq_true (by omega) | exact decide_eq_true (by dsimp only; omega) | exact decide_eq_true (by simp; omega) | (simp; done))))) | (refine LetV.pre ?_; first | refine LetV.mk (t := ety) _ hldc ?_ | refine LetV.mk (.sc (.int _ _)) rfl ?_) | (refine LetI.pre ?_; first | refine LetI.wrap (by omega) (by omega) ?_) | (refine LetB.pre ?_; first | refine LetB.dect (by omega) ?_) | (refine Gd.pre ?_; first | refine Gd.run rfl ?_ | refine Gd.pass rfl ?_) | (refine Br.pre ?_; first | refine Br.tt rfl ?_) | (refine Ck.pre ?_; first | refine Ck.drawn (by kernel_rfl) ?_ | refine Ck.mk rfl ?_) | (refine LetL.pre ?_; first | refine LetL.mk [_] rfl ?_)))); (try (conv => whnf)))
        refine LoopN.weak ?sw4 (next c.id c.grade c.day true (if_pos (.inr (.inl q1))))
        case sw4 => exact SW.mk id rfl rfl (atNames _ _ _ _ _ (namesAll.row rfl (namesAll.row rfl (namesAll.row (pure_en _) rfl)))) ⟨.refl _, .refl _, .refl _, .refl _, .refl _, .refl _, .refl _, .refl _, .refl _, .refl _, .refl _, .refl _, .refl _, VLe2.int (by omega), trivial⟩ (haveV.row (pure_en _) rfl (haveV.row (pure_en _) rfl (haveV.row (pure_st _) rfl (haveV.row rfl rfl (haveV.row rfl rfl (haveV.row (pure_en _) rfl trivial))))))
      · by_cases q2 : c.day = d
        · by_cases q3 : b < c.id
          · ((repeat ((conv => whnf); (first | (refine LetN.pre ?_; first | ((conv => arg 1; whnf); refine LetN.mk ?_)) | (refine As.pre ?_; first | refine As.mk rfl ?_ | (refine As.mk ?_ ?_; · ((repeat' (refine andT ?_ ?_)) <;> (first | rfl | assumption | exact decide_eq_true (by omega) | exact decide_eq_true (by dsimp only; omega) | exact decide_eq_true (by simp; omega) | (simp; done))))) | (refine LetV.pre ?_; first | refine LetV.mk (t := ety) _ hldc ?_ | refine LetV.mk (.sc (.int _ _)) rfl ?_) | (refine LetI.pre ?_; first | refine LetI.wrap (by omega) (by omega) ?_) | (refine LetB.pre ?_; first | refine LetB.dect (by omega) ?_ | refine LetB.decf (by omega) ?_) | (refine Gd.pre ?_; first | refine Gd.run rfl ?_) | (refine Br.pre ?_; first | refine Br.tt rfl ?_) | (refine Ck.pre ?_; first | refine Ck.drawn (by kernel_rfl) ?_ | refine Ck.mk rfl ?_) | (refine LetL.pre ?_; first | refine LetL.mk [_] rfl ?_)))); (try (conv => whnf)))
            refine LoopN.weak ?sw5 (next c.id c.grade c.day true (if_pos (.inr (.inr ⟨q2, q3⟩))))
            case sw5 => exact SW.mk id rfl rfl (atNames _ _ _ _ _ (namesAll.row rfl (namesAll.row rfl (namesAll.row (pure_en _) rfl)))) ⟨.refl _, .refl _, .refl _, .refl _, .refl _, .refl _, .refl _, .refl _, .refl _, .refl _, .refl _, .refl _, .refl _, VLe2.int (by omega), trivial⟩ (haveV.row (pure_en _) rfl (haveV.row (pure_en _) rfl (haveV.row (pure_st _) rfl (haveV.row rfl rfl (haveV.row rfl rfl (haveV.row (pure_en _) rfl trivial))))))
          · ((repeat ((conv => whnf); (first | (refine LetN.pre ?_; first | ((conv => arg 1; whnf); refine LetN.mk ?_)) | (refine As.pre ?_; first | refine As.mk rfl ?_ | (refine As.mk ?_ ?_; · ((repeat' (refine andT ?_ ?_)) <;> (first | rfl | assumption | exact decide_eq_true (by omega) | exact decide_eq_true (by dsimp only; omega) | exact decide_eq_true (by simp; omega) | (simp; done))))) | (refine LetV.pre ?_; first | refine LetV.mk (t := ety) _ hldc ?_ | refine LetV.mk (.sc (.int _ _)) rfl ?_) | (refine LetI.pre ?_; first | refine LetI.wrap (by omega) (by omega) ?_) | (refine LetB.pre ?_; first | refine LetB.dect (by omega) ?_ | refine LetB.decf (by omega) ?_) | (refine Gd.pre ?_; first | refine Gd.run rfl ?_) | (refine Br.pre ?_; first | refine Br.tt rfl ?_ | refine Br.ff rfl ?_) | (refine Ck.pre ?_; first | refine Ck.mk rfl ?_) | (refine LetL.pre ?_; first | refine LetL.mk [_] rfl ?_)))); (try (conv => whnf)))
            refine LoopN.weak ?sw6 (next b gr d true (if_neg (by rintro (h | h | h) <;> simp at h <;> omega)))
            case sw6 => exact SW.mk id rfl rfl (atNames _ _ _ _ _ (namesAll.row rfl (namesAll.row rfl (namesAll.row (pure_en _) rfl)))) ⟨.refl _, .refl _, .refl _, .refl _, .refl _, .refl _, .refl _, .refl _, .refl _, .refl _, .refl _, .refl _, .refl _, VLe2.int (by omega), trivial⟩ (haveV.row (pure_en _) rfl (haveV.row (pure_en _) rfl (haveV.row (pure_st _) rfl (haveV.row rfl rfl (haveV.row rfl rfl (haveV.row (pure_en _) rfl trivial))))))
        · ((repeat ((conv => whnf); (first | (refine LetN.pre ?_; first | ((conv => arg 1; whnf); refine LetN.mk ?_)) | (refine As.pre ?_; first | refine As.mk rfl ?_ | (refine As.mk ?_ ?_; · ((repeat' (refine andT ?_ ?_)) <;> (first | rfl | assumption | exact decide_eq_true (by omega) | exact decide_eq_true (by dsimp only; omega) | exact decide_eq_true (by simp; omega) | (simp; done))))) | (refine LetV.pre ?_; first | refine LetV.mk (t := ety) _ hldc ?_ | refine LetV.mk (.sc (.int _ _)) rfl ?_) | (refine LetI.pre ?_; first | refine LetI.wrap (by omega) (by omega) ?_) | (refine LetB.pre ?_; first | refine LetB.dect (by omega) ?_ | refine LetB.decf (by omega) ?_) | (refine Gd.pre ?_; first | refine Gd.run rfl ?_ | refine Gd.pass rfl ?_) | (refine Br.pre ?_; first | refine Br.tt rfl ?_ | refine Br.ff rfl ?_) | (refine Ck.pre ?_; first | refine Ck.mk rfl ?_) | (refine LetL.pre ?_; first | refine LetL.mk [_] rfl ?_)))); (try (conv => whnf)))
          refine LoopN.weak ?sw7 (next b gr d true (if_neg (by rintro (h | h | h) <;> simp at h <;> omega)))
          case sw7 => exact SW.mk id rfl rfl (atNames _ _ _ _ _ (namesAll.row rfl (namesAll.row rfl (namesAll.row (pure_en _) rfl)))) ⟨.refl _, .refl _, .refl _, .refl _, .refl _, .refl _, .refl _, .refl _, .refl _, .refl _, .refl _, .refl _, .refl _, VLe2.int (by omega), trivial⟩ (haveV.row (pure_en _) rfl (haveV.row (pure_en _) rfl (haveV.row (pure_st _) rfl (haveV.row rfl rfl (haveV.row rfl rfl (haveV.row (pure_en _) rfl trivial))))))
  case neg =>
    clear ihA
    rw [List.drop_eq_nil_of_le (by omega), List.foldl_nil] at g2
    rw [g2] at hst
    simp only at hst
    ((repeat ((conv => whnf); (first | (refine LetN.pre ?_; first | ((conv => arg 1; whnf); refine LetN.mk ?_)) | (refine As.pre ?_; first | refine As.mk rfl ?_) | (refine LetV.pre ?_; first | refine LetV.mk (.sc (.int _ _)) rfl ?_) | (refine LetI.pre ?_; first | refine LetI.mk _ rfl ?_) | (refine LetB.pre ?_; first | refine LetB.decf (by omega) ?_) | (refine Br.pre ?_; first | refine Br.ff rfl ?_) | (refine Ck.pre ?_; first | refine Ck.drawn (by kernel_rfl) ?_ | refine Ck.mk rfl ?_) | (refine LetL.pre ?_; first | refine LetL.mk _ rfl ?_) | (refine CallN.pre ?_; first | refine CallN.pure (of_f _) rfl rfl ?_ | refine CallN.pure (to_f _) rfl rfl ?_ | refine CallN.lendOwn 6 (hcF _) (.full rfl (pure_en _) hRR (.same rfl .nil)) rfl rfl rfl (plain_en _) ?_)))); (try (conv => whnf)))



    refine LoopN.weak (s1 := atB R G F a o k out g b gr (0, false)) ?sw8 ?_
    case sw8 => exact SW.mk (fun i => if i = 5 then 6 else i) rfl rfl (atNames _ _ _ _ _ (namesAll.row rfl (namesAll.row (pure_en _) rfl))) ⟨.refl _, .refl _, .refl _, .refl _, .refl _, .refl _, .refl _, .refl _, .refl _, .refl _, .refl _, trivial⟩ (haveV.row (pure_en _) rfl (haveV.row (pure_en _) rfl (haveV.row (pure_st _) rfl (haveV.row rfl rfl (haveV.row (pure_en _) rfl trivial)))))
    generalize hY : (F.any fun f => !liftedP R f.id a o) = Y at hst
    refine LoopN.ind T_ok mixed (S := atB R G F a o k out g b gr) (fun i => F.length - i.1) (fun i => i.1 ≤ F.length ∧ Y = (i.2 || (F.drop i.1).any fun f => !liftedP R f.id a o)) (fun _ => rfl) (fun i hi ihB => ?_) (0, false) ⟨Nat.zero_le _, by rw [← hY]; rfl⟩
    obtain ⟨i, v⟩ := i
    obtain ⟨g3, g4⟩ := hi
    simp only at g3 g4 ihB
    by_cases hiF : i < F.length
    case pos =>
      have hldf : en (F.getD i e0) = Am.part true 15 0 15 ((F.map en).getD (0 + i) (.sc undef)) := getD_en hiF
      rw [any_drop _ hiF e0] at g4
      generalize F.getD i e0 = f at hldf g4
      have hL := Lifted_f R f.id a o {} (by omega)
      generalize liftedP R f.id a o = u at hL g4
      have hgo : Y = ((v || !u) || (F.drop (i + 1)).any fun f => !liftedP R f.id a o) := by rw [g4, Bool.or_assoc]
      clear g4 ih hc hc2 hcC hcF hs
      cases v with
      | true =>
        ((repeat ((conv => whnf); (first | (refine LetN.pre ?_; first | ((conv => arg 1; whnf); refine LetN.mk ?_)) | (refine As.pre ?_; first | refine As.mk rfl ?_ | (refine As.mk ?_ ?_; · ((repeat' (refine andT ?_ ?_)) <;> (first | rfl | assumption | exact decide_eq_true (by omega) | exact decide_eq_true (by dsimp only; omega) | exact decide_eq_true (by simp; omega) | (simp; done))))) | (refine LetV.pre ?_; first | refine LetV.mk (t := ety) _ hldf ?_ | refine LetV.mk (.sc (.bool _)) rfl ?_) | (refine LetI.pre ?_; first | refine LetI.wrap (by omega) (by omega) ?_) | (refine LetB.pre ?_; first | refine LetB.dect (by omega) ?_) | (refine Gd.pre ?_; first | refine Gd.pass rfl ?_) | (refine Br.pre ?_; first | refine Br.tt rfl ?_) | (refine Ck.pre ?_; first | refine Ck.mk rfl ?_) | (refine LetL.pre ?_; first | refine LetL.mk [_] rfl ?_)))); (try (conv => whnf)))
        refine LoopN.weak ?sw9 (ihB (i + 1, true) ⟨by omega, hgo⟩ (by omega))
        case sw9 => exact SW.mk id rfl rfl (atNames _ _ _ _ _ (namesAll.row rfl (namesAll.row (pure_en _) rfl))) ⟨.refl _, .refl _, .refl _, .refl _, .refl _, .refl _, .refl _, .refl _, .refl _, .refl _, VLe2.int (by omega), trivial⟩ (haveV.row (pure_en _) rfl (haveV.row (pure_en _) rfl (haveV.row (pure_st _) rfl (haveV.row rfl rfl (haveV.row (pure_en _) rfl trivial)))))
      | false =>
        ((repeat ((conv => whnf); (first | (refine LetN.pre ?_; first | ((conv => arg 1; whnf); refine LetN.mk ?_)) | (refine As.pre ?_; first | refine As.mk rfl ?_ | (refine As.mk ?_ ?_; · ((repeat' (refine andT ?_ ?_)) <;> (first | rfl | assumption | exact decide_eq_true (by omega) | exact decide_eq_true (by dsimp only; omega) | exact decide_eq_true (by simp; omega) | (simp; done))))) | (refine LetV.pre ?_; first | refine LetV.mk (t := ety) _ hldf ?_ | refine LetV.mk (.sc (.int _ _)) rfl ?_ | refine LetV.mk (.sc (.bool _)) rfl ?_) | (refine LetI.pre ?_; first | refine LetI.wrap (by omega) (by omega) ?_) | (refine LetB.pre ?_; first | refine LetB.dect (by omega) ?_) | (refine Gd.pre ?_; first | refine Gd.run rfl ?_) | (refine Br.pre ?_; first | refine Br.tt rfl ?_) | (refine Ck.pre ?_; first | refine Ck.mk rfl ?_) | (refine LetL.pre ?_; first | refine LetL.mk [_] rfl ?_) | (refine CallN.pre ?_; first | refine CallN.lend hL rfl (.full rfl (pure_en _) hRR (.same rfl (.same rfl (.same rfl .nil)))) ?_)))); (try (conv => whnf)))


        refine LoopN.weak ?sw10 (ihB (i + 1, !u) ⟨by omega, hgo⟩ (by omega))
        case sw10 => exact SW.mk id rfl rfl (atNames _ _ _ _ _ (namesAll.row rfl (namesAll.row (pure_en _) rfl))) ⟨.refl _, .refl _, .refl _, .refl _, .refl _, .refl _, .refl _, .refl _, .refl _, .refl _, VLe2.int (by omega), trivial⟩ (haveV.row (pure_en _) rfl (haveV.row (pure_en _) rfl (haveV.row (pure_st _) rfl (haveV.row rfl rfl (haveV.row (pure_en _) rfl trivial)))))
    case neg =>
      clear ihB
      rw [List.drop_eq_nil_of_le (by omega), List.any_nil, Bool.or_false] at g4
      rw [g4] at hst
      rw [hst] at hq
      have hr := room_st (n := out.length + 1) (by omega)
      have hol2 : (out.map stA).length = out.length := List.length_map _
      ((repeat ((conv => whnf); (first | (refine LetN.pre ?_; first | ((conv => arg 1; whnf); refine LetN.mk ?_)) | (refine As.pre ?_; first | refine As.mk rfl ?_ | (refine As.mk ?_ ?_; · ((repeat' (refine andT ?_ ?_)) <;> (first | rfl | assumption | exact decide_eq_true (by omega) | exact decide_eq_true (by dsimp only; omega) | exact decide_eq_true (by simp; omega) | (simp; done))))) | (refine LetV.pre ?_; first | refine LetV.mk (.agg _) rfl ?_) | (refine LetI.pre ?_; first | refine LetI.wrap (by omega) (by omega) ?_) | (refine LetB.pre ?_; first | refine LetB.decf (by omega) ?_) | (refine Br.pre ?_; first | refine Br.ff rfl ?_) | (refine Ck.pre ?_; first | refine Ck.mk rfl ?_) | (refine LetL.pre ?_; first | refine LetL.mk (ty := sty) _ (app_st out ⟨g.id, b, gr, v⟩ _ rfl) ?_)))); (try (conv => whnf)))

      refine LoopN.weak ?sw11 (ih (k + 1, out ++ [⟨g.id, b, gr, v⟩]) ⟨by omega, hq.symm⟩ (by omega))
      case sw11 => exact SW.mk (fun i => if i = 2 then 6 else i) rfl rfl (atNames _ _ _ _ _ rfl) ⟨.refl _, .refl _, .refl _, VLe2.slm_of (by simp), .refl _, .refl _, VLe2.int (by omega), trivial⟩ (haveV.row (pure_en _) rfl (haveV.row (pure_en _) rfl (haveV.row (pure_st _) rfl trivial)))
theorem At_f (l : List E) (a o : Int) (fl : Fl) (hl : l.length < 40) : AFun Try.prog 22 0 [.ro fl 15 (l.map en), int a, int o] [] (.ro {} 4 ((atP l a o).map stA)) [] :=
  AFun.frz1 (H := []) (At_s l a o fl hl) rfl (pure_st _) (by simp)
end En
end Go.Proofs.Ytnegdmjmllmclaa
namespace Go.Proofs.Ytnegdmjmllmclaa
open Go.Proofs.Ytnegdmjmllmclaa.Am
set_option maxRecDepth 100000
namespace En
/-- Where an element is put in: behind the last one that isn't greater. -/
def posB {α : Type} (gt : α → Bool) (d : α) (out : List α) : Nat → Nat
  | 0 => 0
  | k + 1 => if gt (out.getD k d) then posB gt d out k else k + 1
theorem posB_le {α : Type} (gt : α → Bool) (d : α) (out : List α) : ∀ k, posB gt d out k ≤ k
  | 0 => Nat.le_refl _
  | k + 1 => by
    unfold posB
    split
    · have := posB_le gt d out k; omega
    · exact Nat.le_refl _
def putB {α : Type} (gt : α → Bool) (d : α) (out : List α) (e : α) : List α := out.take (posB gt d out out.length) ++ e :: out.drop (posB gt d out out.length)
def insId (out : List E) (e : E) : List E := putB (fun x => decide (e.id < x.id)) e0 out e
theorem insId_length (out : List E) (e : E) : (insId out e).length = out.length + 1 := by
  have := posB_le (fun x => decide (e.id < x.id)) e0 out out.length
  simp only [insId, putB, List.length_append, List.length_take, List.length_cons, List.length_drop]
  omega
def cntQ (kd a o : Int) (e : E) : Bool := decide (e.kind = kd ∧ e.day ≤ a ∧ e.on_ ≤ o)
/-- The entries of a kind that count, in the order of their Ids. -/
def countP (l : List E) (kd a o : Int) : List E := (l.filter (cntQ kd a o)).foldl insId []
theorem foldl_ins_length {α : Type} (f : List α → α → List α) (h : ∀ out e, (f out e).length = out.length + 1) : ∀ (l out : List α), (l.foldl f out).length = out.length + l.length
  | [], out => rfl
  | x :: l, out => by rw [List.foldl_cons, foldl_ins_length f h l, h]; simp; omega
theorem countP_length (l : List E) (kd a o : Int) : (countP l kd a o).length ≤ l.length := by
  rw [countP, foldl_ins_length insId insId_length]
  simpa using List.length_filter_le (cntQ kd a o) l
theorem foldl_filter_drop {α β : Type} (q : α → Bool) (f : β → α → β) {l : List α} {k : Nat} (h : k < l.length) (d : α) (x : β) : ((l.drop k).filter q).foldl f x = if q (l.getD k d) then ((l.drop (k + 1)).filter q).foldl f (f x (l.getD k d)) else ((l.drop (k + 1)).filter q).foldl f x := by
  rw [List.drop_eq_getElem_cons h, List.getD_eq_getElem?_getD, List.getElem?_eq_getElem h]
  simp only [Option.getD_some, List.filter_cons]
  split <;> rfl
theorem getD_id {l : List E} {k : Nat} (h : k < l.length) : int (l.getD k e0).id = Am.part false 1 0 15 ((l.map en).getD (0 + k) (.sc undef)) := by
  rw [Nat.zero_add, List.getD_eq_getElem?_getD, List.getD_eq_getElem?_getD, List.getElem?_map, List.getElem?_eq_getElem h]; rfl
theorem copy_row (out : List E) (p x y z w : Nat) (hx : x = p + 1) (hw : w = p) (hy : y = out.length - p) (hz : z = out.length + 1 - p) (hp : p ≤ out.length) :
    ((out ++ [e0]).take (p + 1) ++ out.drop p).map en = splice ((out ++ [e0]).map en) x (((((out ++ [e0]).map en).drop w).take z).take y) := by
  subst hx hw hy hz
  have hM : ((((out ++ [e0]).map en).drop w).take (out.length + 1 - w)).take (out.length - w) = (out.drop w).map en := by
    rw [List.take_take, Nat.min_eq_left (by omega), ← List.map_drop, ← List.map_take, List.drop_append_of_le_length hp, List.take_append_of_le_length (by simp), List.take_of_length_le (by simp)]
  rw [hM]
  unfold splice
  rw [List.drop_eq_nil_of_le (i := w + 1 + _) (by simp; omega), List.append_nil, List.map_append, List.map_take]
theorem set_row (out : List E) (p : Nat) (e : E) (hp : p ≤ out.length) : (out.take p ++ e :: out.drop p).map en = (((out ++ [e0]).take (p + 1) ++ out.drop p).map en).set (0 + p) (en e) := by
  rw [Nat.zero_add, ← List.map_set]
  congr 1
  have hlt : p < (out ++ [e0]).length := by simp; omega
  rw [List.take_succ_eq_append_getElem hlt, List.append_assoc, List.take_append_of_le_length hp, List.set_append_right _ _ (by simp; omega), List.length_take, Nat.min_eq_left hp, Nat.sub_self]
  rfl
abbrev couS (l : List E) (fl : Fl) (kd a o : Int) : Nat × List E → AS
  | (k, out) => ⟨[(0, .ro fl 15 (l.map en)), (1, int kd), (2, int a), (3, int o), (9, .slm {} 0 15 0 out.length), (10, int k)], [(0, .row 15 ety (out.map en))], 1⟩
abbrev couI (l : List E) (fl : Fl) (kd a o : Int) (k : Nat) (out : List E) (e : E) : Nat → AS
  | at_ => ⟨[(0, .ro fl 15 (l.map en)), (1, int kd), (2, int a), (3, int o), (9, .slm {} 0 15 0 out.length), (10, int k), (11, .ptr 1 15 0 0), (12, int at_)], [(0, .row 15 ety (out.map en)), (1, .row 15 ety [en e])], 2⟩
set_option maxRecDepth 100000 in
theorem counting_s (l : List E) (kd a o : Int) (fl : Fl) (hl : l.length ≤ 100000) : AFun Try.prog 77 0 [.ro fl 15 (l.map en), int kd, int a, int o] [] (.slm {} 0 15 0 (countP l kd a o).length) [(0, .row 15 ety ((countP l kd a o).map en))] := by
  refine AFun.of_S T_ok mixed Try.func77 rfl (Nat.le_of_ble_eq_true rfl) rfl ?_
  unfold countP
  generalize hR : (l.filter (cntQ kd a o)).foldl insId [] = R
  ((repeat ((conv => whnf); (first | (refine As.pre ?_; first | refine As.mk rfl ?_) | (refine Ck.pre ?_; first | refine Ck.mk rfl ?_)))); (try (conv => whnf)))
  refine LoopN.weak (s1 := couS l fl kd a o (0, [])) ?sw1 ?_
  case sw1 => exact SW.mk (fun _ => 0) rfl rfl rfl ⟨.refl _, .refl _, .refl _, .refl _, VLe2.nilslm, .refl _, trivial⟩ (haveV.nil (Nat.le_refl _) trivial)
  refine LoopN.ind T_ok mixed (S := couS l fl kd a o) (fun i => l.length - i.1) (fun i => i.1 ≤ l.length ∧ i.2.length ≤ i.1 ∧ R = ((l.drop i.1).filter (cntQ kd a o)).foldl insId i.2) (fun _ => rfl) (fun i hi ih => ?_) (0, []) ⟨Nat.zero_le _, Nat.zero_le _, hR.symm⟩
  obtain ⟨k, out⟩ := i
  obtain ⟨h1, h0, h2⟩ := hi
  simp only at h0 h1 h2 ih
  have hcl : (l.map en).length = l.length := List.length_map _
  by_cases hlt : k < l.length
  case neg =>
    rw [List.drop_eq_nil_of_le (by omega)] at h2
    simp only [List.filter_nil, List.foldl_nil] at h2
    rw [h2]
    clear ih
    ((repeat ((conv => whnf); (first | (refine As.pre ?_; first | refine As.mk rfl ?_) | (refine LetI.pre ?_; first | refine LetI.mk _ rfl ?_) | (refine LetB.pre ?_; first | refine LetB.decf (by omega) ?_) | (refine Br.pre ?_; first | refine Br.ff rfl ?_) | (refine Ck.pre ?_; first | refine Ck.mk rfl ?_)))); (try (conv => whnf)))
    exact ⟨⟨[(8, .slm {} 0 15 0 out.length)], [(0, .row 15 ety (out.map en))], 1⟩, SW.mk id rfl rfl (namesAll.row (pure_en _) rfl) ⟨.refl _, trivial⟩ (haveV.row (pure_en _) rfl trivial), .inl rfl, ⟨_, rfl, rfl⟩, rfl, trivial⟩
  have hld : en (l.getD k e0) = (l.map en).getD k (.sc undef) := mapD e0 hlt
  rw [foldl_filter_drop _ _ hlt e0] at h2
  generalize l.getD k e0 = e at hld h2
  by_cases hq : e.kind = kd ∧ e.day ≤ a ∧ e.on_ ≤ o
  case neg =>
    rw [if_neg (by simpa [cntQ] using hq)] at h2
    have next := ih (k + 1, out) ⟨by omega, by show out.length ≤ k + 1; omega, h2⟩ (by show l.length - (k + 1) < l.length - k; omega)
    clear ih
    by_cases c1 : e.kind = kd
    · by_cases c2 : e.day ≤ a
      · have c3 : ¬ e.on_ ≤ o := fun h => hq ⟨c1, c2, h⟩
        ((repeat ((conv => whnf); (first | (refine LetN.pre ?_; first | ((conv => arg 1; whnf); refine LetN.mk ?_)) | (refine As.pre ?_; first | refine As.mk rfl ?_ | (refine As.mk ?_ ?_; · ((repeat' (refine andT ?_ ?_)) <;> (first | rfl | assumption | exact decide_eq_true (by omega) | exact decide_eq_true (by dsimp only; omega) | exact decide_eq_true (by simp; omega) | (simp; done))))) | (refine LetV.pre ?_; first | refine LetV.mk (t := 27) _ hld ?_ | refine LetV.mk (.sc (.int _ _)) rfl ?_ | refine LetV.mk (.agg _) rfl ?_) | (refine LetI.pre ?_; first | refine LetI.wrap (by omega) (by omega) ?_ | refine LetI.mk _ rfl ?_) | (refine LetB.pre ?_; first | refine LetB.dect (by omega) ?_ | refine LetB.decf (by omega) ?_ | refine LetB.bnef (by omega) ?_) | (refine Gd.pre ?_; first | refine Gd.run rfl ?_) | (refine Br.pre ?_; first | refine Br.tt rfl ?_) | (refine Ck.pre ?_; first | refine Ck.mk rfl ?_) | (refine LetL.pre ?_; first | refine LetL.mk [_] rfl ?_)))); (try (conv => whnf)))
        refine LoopN.weak ?sw2 next
        case sw2 => exact SW.mk id rfl rfl (namesAll.row (pure_en _) rfl) ⟨.refl _, .refl _, .refl _, .refl _, .refl _, VLe2.int (by omega), trivial⟩ (haveV.row (pure_en _) rfl trivial)
      · ((repeat ((conv => whnf); (first | (refine LetN.pre ?_; first | ((conv => arg 1; whnf); refine LetN.mk ?_)) | (refine As.pre ?_; first | refine As.mk rfl ?_ | (refine As.mk ?_ ?_; · ((repeat' (refine andT ?_ ?_)) <;> (first | rfl | assumption | exact decide_eq_true (by omega) | exact decide_eq_true (by dsimp only; omega) | exact decide_eq_true (by simp; omega) | (simp; done))))) | (refine LetV.pre ?_; first | refine LetV.mk (t := 27) _ hld ?_ | refine LetV.mk (.sc (.int _ _)) rfl ?_ | refine LetV.mk (.agg _) rfl ?_) | (refine LetI.pre ?_; first | refine LetI.wrap (by omega) (by omega) ?_ | refine LetI.mk _ rfl ?_) | (refine LetB.pre ?_; first | refine LetB.dect (by omega) ?_ | refine LetB.bnef (by omega) ?_) | (refine Gd.pre ?_; first | refine Gd.run rfl ?_ | refine Gd.pass rfl ?_) | (refine Br.pre ?_; first | refine Br.tt rfl ?_) | (refine Ck.pre ?_; first | refine Ck.mk rfl ?_) | (refine LetL.pre ?_; first | refine LetL.mk [_] rfl ?_)))); (try (conv => whnf)))
        refine LoopN.weak ?sw3 next
        case sw3 => exact SW.mk id rfl rfl (namesAll.row (pure_en _) rfl) ⟨.refl _, .refl _, .refl _, .refl _, .refl _, VLe2.int (by omega), trivial⟩ (haveV.row (pure_en _) rfl trivial)
    · ((repeat ((conv => whnf); (first | (refine LetN.pre ?_; first | ((conv => arg 1; whnf); refine LetN.mk ?_)) | (refine As.pre ?_; first | refine As.mk rfl ?_ | (refine As.mk ?_ ?_; · ((repeat' (refine andT ?_ ?_)) <;> (first | rfl | assumption | exact decide_eq_true (by omega) | exact decide_eq_true (by dsimp only; omega) | exact decide_eq_true (by simp; omega) | (simp; done))))) | (refine LetV.pre ?_; first | refine LetV.mk (t := 27) _ hld ?_ | refine LetV.mk (.sc (.int _ _)) rfl ?_ | refine LetV.mk (.agg _) rfl ?_) | (refine LetI.pre ?_; first | refine LetI.wrap (by omega) (by omega) ?_ | refine LetI.mk _ rfl ?_) | (refine LetB.pre ?_; first | refine LetB.dect (by omega) ?_ | refine LetB.bnet (by omega) ?_) | (refine Gd.pre ?_; first | refine Gd.pass rfl ?_) | (refine Br.pre ?_; first | refine Br.tt rfl ?_) | (refine Ck.pre ?_; first | refine Ck.mk rfl ?_) | (refine LetL.pre ?_; first | refine LetL.mk [_] rfl ?_)))); (try (conv => whnf)))
      refine LoopN.weak ?sw4 next
      case sw4 => exact SW.mk id rfl rfl (namesAll.row (pure_en _) rfl) ⟨.refl _, .refl _, .refl _, .refl _, .refl _, VLe2.int (by omega), trivial⟩ (haveV.row (pure_en _) rfl trivial)
  case pos =>
    rw [if_pos (by simpa [cntQ] using hq)] at h2
    have hil := insId_length out e
    have next := ih (k + 1, insId out e) ⟨by omega, by show (insId out e).length ≤ k + 1; omega, h2⟩ (by show l.length - (k + 1) < l.length - k; omega)
    rw [insId, putB] at next
    have hple := posB_le (fun x => decide (e.id < x.id)) e0 out out.length
    generalize hp : posB (fun x => decide (e.id < x.id)) e0 out out.length = p at next hple
    clear ih h2 hil hR
    obtain ⟨c1, c2, c3⟩ := hq
    ((repeat ((conv => whnf); (first | (refine LetN.pre ?_; first | ((conv => arg 1; whnf); refine LetN.mk ?_)) | (refine As.pre ?_; first | refine As.mk rfl ?_ | (refine As.mk ?_ ?_; · ((repeat' (refine andT ?_ ?_)) <;> (first | rfl | assumption | exact decide_eq_true (by omega) | exact decide_eq_true (by dsimp only; omega) | exact decide_eq_true (by simp; omega) | (simp; done))))) | (refine LetV.pre ?_; first | refine LetV.mk (t := 27) _ hld ?_ | refine LetV.mk (.sc (.int _ _)) rfl ?_ | refine LetV.mk (.agg _) rfl ?_) | (refine LetI.pre ?_; first | refine LetI.mk _ rfl ?_) | (refine LetB.pre ?_; first | refine LetB.dect (by omega) ?_ | refine LetB.decf (by omega) ?_ | refine LetB.bnef (by omega) ?_) | (refine Gd.pre ?_; first | refine Gd.run rfl ?_) | (refine Br.pre ?_; first | refine Br.tt rfl ?_ | refine Br.ff rfl ?_) | (refine Ck.pre ?_; first | refine Ck.mk rfl ?_) | (refine LetL.pre ?_; first | refine LetL.mk [_] rfl ?_)))); (try (conv => whnf)))
    refine LoopN.weak (s1 := couI l fl kd a o k out e out.length) ?sw5 ?_
    case sw5 => exact SW.mk id rfl rfl (namesAll.row (pure_en _) (namesAll.row rfl rfl)) ⟨.refl _, .refl _, .refl _, .refl _, .refl _, .refl _, .refl _, .refl _, trivial⟩ (haveV.row (pure_en _) rfl (haveV.row rfl rfl trivial))
    refine LoopN.ind T_ok mixed (S := couI l fl kd a o k out e) (fun i => i) (fun i => i ≤ out.length ∧ p = posB (fun x => decide (e.id < x.id)) e0 out i) (fun _ => rfl) (fun i hi ih2 => ?_) out.length ⟨Nat.le_refl _, hp.symm⟩
    obtain ⟨g1, g2⟩ := hi
    have hom : (out.map en).length = out.length := List.length_map _
    have hr := room_en (n := out.length + 1) (by omega)
    cases i with
    | zero =>
      clear ih2
      rw [posB] at g2
      subst g2
      ((repeat ((conv => whnf); (first | (refine LetN.pre ?_; first | ((conv => arg 1; whnf); refine LetN.mk ?_)) | (refine As.pre ?_; first | refine As.mk rfl ?_ | (refine As.mk ?_ ?_; · ((repeat' (refine andT ?_ ?_)) <;> (first | rfl | exact stor_en _ _ _ | exact decide_eq_true (by simp; omega) | (simp; done))))) | (refine LetV.pre ?_; first | refine LetV.mk (.agg _) rfl ?_ | refine LetV.mk (.slm _ _ _ _ _) rfl ?_) | (refine LetI.pre ?_; first | refine LetI.wrap (by omega) (by omega) ?_ | refine LetI.mk _ rfl ?_) | (refine LetB.pre ?_; first | refine LetB.ff rfl ?_) | (refine Gd.pre ?_; first | refine Gd.pass rfl ?_) | (refine Br.pre ?_; first | refine Br.ff rfl ?_) | (refine Ck.pre ?_; first | refine Ck.drawn (by kernel_rfl) ?_ | refine Ck.mk rfl ?_) | (refine LetL.pre ?_; first | refine LetL.mk (ty := ety) _ (app_en out e0 _ rfl) ?_ | (refine LetL.mk (ty := ety) _ (copy_row out (0) _ _ _ _ ?_ ?_ ?_ ?_ hple) ?_; iterate 4 (· (first | (simp; done) | (simp; omega)))) | refine LetL.mk (ty := ety) _ (set_row out (0) e hple) ?_)))); (try (conv => whnf)))




      refine LoopN.weak ?sw6 next
      case sw6 => exact SW.mk (fun _ => 2) rfl rfl (namesAll.row (pure_en _) rfl) ⟨.refl _, .refl _, .refl _, .refl _, VLe2.slm_of (by first | (simp; done) | (simp; omega)), VLe2.int (by omega), trivial⟩ (haveV.row (pure_en _) rfl trivial)
    | succ j =>
      rw [posB] at g2
      have hld1 : en (out.getD j e0) = Am.part true 15 0 15 ((out.map en).getD (0 + j) (.sc undef)) := getD_en (by omega)
      have hidv : int (out.getD j e0).id = Am.part false 1 0 15 ((out.map en).getD (0 + j) (.sc undef)) := getD_id (by omega)
      have hsub : (j : Int) = IntKind.i64.wrap (((j + 1 : Nat) : Int) - 1) := by
        rw [wrap_id (by omega) (by omega)]; omega
      generalize out.getD j e0 = b at hld1 hidv g2
      by_cases hg : e.id < b.id
      · simp only [hg, decide_true, if_true] at g2
        have next2 := ih2 j ⟨by omega, g2⟩ (by show j < j + 1; omega)
        clear ih2 next
        ((repeat ((conv => whnf); (first | (refine As.pre ?_; first | refine As.mk rfl ?_ | (refine As.mk ?_ ?_; · ((repeat' (refine andT ?_ ?_)) <;> (first | rfl | assumption | exact decide_eq_true (by omega) | exact decide_eq_true (by dsimp only; omega) | exact decide_eq_true (by simp; omega) | (simp; done))))) | (refine LetV.pre ?_; first | refine LetV.mk (t := 3) _ hidv ?_ | refine LetV.mk (.sc (.int _ _)) rfl ?_) | (refine LetI.pre ?_; first | refine LetI.mk (o := some .sub) (j : Int) hsub ?_) | (refine LetB.pre ?_; first | refine LetB.dect (by omega) ?_) | (refine Gd.pre ?_; first | refine Gd.run rfl ?_) | (refine Br.pre ?_; first | refine Br.tt rfl ?_) | (refine Ck.pre ?_; first | refine Ck.drawn (by kernel_rfl) ?_ | refine Ck.mk rfl ?_)))); (try (conv => whnf)))


        refine LoopN.weak ?sw7 next2
        case sw7 => exact SW.mk id rfl rfl (namesAll.row (pure_en _) (namesAll.row rfl rfl)) ⟨.refl _, .refl _, .refl _, .refl _, .refl _, .refl _, .refl _, .refl _, trivial⟩ (haveV.row (pure_en _) rfl (haveV.row rfl rfl trivial))
      · simp only [hg, decide_false, Bool.false_eq_true, if_false] at g2
        subst g2
        clear ih2
        ((repeat ((conv => whnf); (first | (refine LetN.pre ?_; first | ((conv => arg 1; whnf); refine LetN.mk ?_)) | (refine As.pre ?_; first | refine As.mk rfl ?_ | (refine As.mk ?_ ?_; · ((repeat' (refine andT ?_ ?_)) <;> (first | rfl | exact stor_en _ _ _ | exact decide_eq_true (by simp; omega) | (simp; done))))) | (refine LetV.pre ?_; first | refine LetV.mk (t := 3) _ hidv ?_ | refine LetV.mk (.sc (.int _ _)) rfl ?_ | refine LetV.mk (.agg _) rfl ?_ | refine LetV.mk (.slm _ _ _ _ _) rfl ?_) | (refine LetI.pre ?_; first | refine LetI.mk (o := some .sub) (j : Int) hsub ?_ | refine LetI.wrap (by omega) (by omega) ?_ | refine LetI.mk _ rfl ?_) | (refine LetB.pre ?_; first | refine LetB.dect (by omega) ?_ | refine LetB.decf (by omega) ?_) | (refine Gd.pre ?_; first | refine Gd.run rfl ?_) | (refine Br.pre ?_; first | refine Br.ff rfl ?_) | (refine Ck.pre ?_; first | refine Ck.drawn (by kernel_rfl) ?_ | refine Ck.mk rfl ?_) | (refine LetL.pre ?_; first | refine LetL.mk (ty := ety) _ (app_en out e0 _ rfl) ?_ | (refine LetL.mk (ty := ety) _ (copy_row out (j + 1) _ _ _ _ ?_ ?_ ?_ ?_ hple) ?_; iterate 4 (· (first | (simp; done) | (simp; omega)))) | refine LetL.mk (ty := ety) _ (set_row out (j + 1) e hple) ?_)))); (try (conv => whnf)))






        refine LoopN.weak ?sw8 next
        case sw8 => exact SW.mk (fun _ => 2) rfl rfl (namesAll.row (pure_en _) rfl) ⟨.refl _, .refl _, .refl _, .refl _, VLe2.slm_of (by first | (simp; done) | (simp; omega)), VLe2.int (by omega), trivial⟩ (haveV.row (pure_en _) rfl trivial)
theorem counting_f (l : List E) (kd a o : Int) (fl : Fl) (hl : l.length ≤ 100000) : AFun Try.prog 77 0 [.ro fl 15 (l.map en), int kd, int a, int o] [] (.ro {} 15 ((countP l kd a o).map en)) [] :=
  AFun.frz1 (H := []) (counting_s l kd a o fl hl) rfl (pure_en _) (by simp)
end En
end Go.Proofs.Ytnegdmjmllmclaa
namespace Go.Proofs.Ytnegdmjmllmclaa
open Go.Proofs.Ytnegdmjmllmclaa.Am
set_option maxRecDepth 100000
namespace En
/-! ### Lifted -/
def rLiftedP (l : List E) (f a o : Int) : Bool := (countP l 6 a o).any fun e => decide (e.ref = f)
theorem rLifted_f (l : List E) (f a o : Int) (fl : Fl) (hl : l.length ≤ 100000) : AFun Try.prog 78 0 [.ro fl 15 (l.map en), int f, int a, int o] [] (bool (rLiftedP l f a o)) [] := by
  refine AFun.of_W T_ok mixed Try.func78 rfl (Nat.le_of_ble_eq_true rfl) rfl ?_
  have hc := counting_f l 6 a o fl hl
  have hcl := countP_length l 6 a o
  unfold rLiftedP
  generalize countP l 6 a o = C at hc hcl ⊢
  generalize hR : (C.any fun e => decide (e.ref = f)) = R
  ((repeat ((conv => whnf); (first | (refine As.pre ?_; first | refine As.mk rfl ?_) | (refine Ck.pre ?_; first | refine Ck.mk rfl ?_) | (refine CallN.pre ?_; first | refine CallN.pure hc rfl rfl ?_)))); (try (conv => whnf)))
  refine LoopN.weak (s1 := ⟨[(1, int f), (9, .ro {} 15 (C.map en)), (10, int (0 : Nat))], [], 0⟩) (SW.fr0 (Nat.le_refl _) rfl ⟨.refl _, .refl _, .refl _, trivial⟩) ?_
  refine LoopN.ind T_ok mixed (S := fun k : Nat => ⟨[(1, int f), (9, .ro {} 15 (C.map en)), (10, int k)], [], 0⟩) (fun k => C.length - k) (fun k => k ≤ C.length ∧ R = (C.drop k).any fun e => decide (e.ref = f)) (fun _ => rfl) (fun k hk ih => ?_) 0 ⟨Nat.zero_le _, hR.symm⟩
  obtain ⟨h1, h2⟩ := hk
  have hm : (C.map en).length = C.length := List.length_map _
  by_cases hlt : k < C.length
  case neg =>
    rw [List.drop_eq_nil_of_le (by omega)] at h2
    rw [h2]
    clear ih
    ((repeat ((conv => whnf); (first | (refine As.pre ?_; first | refine As.mk rfl ?_) | (refine LetI.pre ?_; first | refine LetI.mk _ rfl ?_) | (refine LetB.pre ?_; first | refine LetB.decf (by omega) ?_) | (refine Br.pre ?_; first | refine Br.ff rfl ?_) | (refine Ck.pre ?_; first | refine Ck.mk rfl ?_)))); (try (conv => whnf)))
    exact ⟨.inl rfl, ⟨_, rfl, rfl⟩, trivial⟩
  have hld : en (C.getD k e0) = (C.map en).getD k (.sc undef) := mapD e0 hlt
  rw [any_drop _ hlt e0] at h2
  generalize C.getD k e0 = e at hld h2
  by_cases he : e.ref = f
  · rw [decide_eq_true he, Bool.true_or] at h2
    rw [h2]
    clear ih
    ((repeat ((conv => whnf); (first | (refine As.pre ?_; first | refine As.mk rfl ?_ | (refine As.mk ?_ ?_; · ((repeat' (refine andT ?_ ?_)) <;> (first | rfl | assumption | exact decide_eq_true (by omega) | exact decide_eq_true (by dsimp only; omega) | exact decide_eq_true (by simp; omega) | (simp; done))))) | (refine LetV.pre ?_; first | refine LetV.mk (t := 27) _ hld ?_ | refine LetV.mk (.sc (.int _ _)) rfl ?_) | (refine LetI.pre ?_; first | refine LetI.mk _ rfl ?_) | (refine LetB.pre ?_; first | refine LetB.dect (by omega) ?_) | (refine Br.pre ?_; first | refine Br.tt rfl ?_) | (refine Ck.pre ?_; first | refine Ck.mk rfl ?_)))); (try (conv => whnf)))
    exact ⟨.inl rfl, ⟨_, rfl, rfl⟩, trivial⟩
  · rw [decide_eq_false he, Bool.false_or] at h2
    ((repeat ((conv => whnf); (first | (refine As.pre ?_; first | refine As.mk rfl ?_ | (refine As.mk ?_ ?_; · ((repeat' (refine andT ?_ ?_)) <;> (first | rfl | assumption | exact decide_eq_true (by omega) | exact decide_eq_true (by dsimp only; omega) | exact decide_eq_true (by simp; omega) | (simp; done))))) | (refine LetV.pre ?_; first | refine LetV.mk (t := 27) _ hld ?_ | refine LetV.mk (.sc (.int _ _)) rfl ?_) | (refine LetI.pre ?_; first | refine LetI.wrap (by omega) (by omega) ?_ | refine LetI.mk _ rfl ?_) | (refine LetB.pre ?_; first | refine LetB.dect (by omega) ?_ | refine LetB.decf (by omega) ?_) | (refine Br.pre ?_; first | refine Br.tt rfl ?_ | refine Br.ff rfl ?_) | (refine Ck.pre ?_; first | refine Ck.mk rfl ?_)))); (try (conv => whnf)))
    refine LoopN.weak ?_ (ih (k + 1) ⟨by omega, h2⟩ (by omega))
    exact SW.fr0 (Nat.le_refl _) rfl ⟨.refl _, .refl _, VLe2.int (by omega), trivial⟩
end En
end Go.Proofs.Ytnegdmjmllmclaa
namespace Go.Proofs.Ytnegdmjmllmclaa
open Go.Proofs.Ytnegdmjmllmclaa.Am
set_option maxRecDepth 100000
namespace En
def stepR (g : E) (x : Int × Int × Int × Bool) (c : E) : Int × Int × Int × Bool := if c.ref = g.id then stepC x c else x
def rstand (l C F : List E) (a o : Int) (g : E) : St := ⟨g.id, (C.foldl (stepR g) (0, g.grade, 0, false)).1, (C.foldl (stepR g) (0, g.grade, 0, false)).2.1, F.any fun f => decide (f.ref = g.id) && !rLiftedP l f.id a o⟩
def rAtP (l : List E) (a o : Int) : List St := (countP l 3 a o).map (rstand l (countP l 4 a o) (countP l 5 a o) a o)
abbrev ratS (l G C F : List E) (fl : Fl) (a o : Int) : Nat × List St → AS
  | (k, out) => ⟨[(0, .ro fl 15 (l.map en)), (1, int a), (2, int o), (7, .ro {} 15 (G.map en)), (8, .ro {} 15 (C.map en)), (9, .ro {} 15 (F.map en)), (10, .slm {} 0 4 0 out.length), (11, int k)], [(0, .row 4 sty (out.map stA))], 1⟩
abbrev ratA (l G C F : List E) (fl : Fl) (a o : Int) (k : Nat) (out : List St) (g : E) : Nat × Int × Int × Int × Bool → AS
  | (i, b, gr, d, s) => ⟨[(0, .ro fl 15 (l.map en)), (1, int a), (2, int o), (7, .ro {} 15 (G.map en)), (8, .ro {} 15 (C.map en)), (9, .ro {} 15 (F.map en)), (10, .slm {} 0 4 0 out.length), (11, int k), (12, .ptr 1 15 0 0), (13, .ptr 2 4 0 0), (14, int d), (15, bool s), (16, int i)],
      [(0, .row 4 sty (out.map stA)), (1, .row 15 ety [en g]), (2, .row 4 sty [stA ⟨g.id, b, gr, false⟩])], 3⟩
abbrev ratB (l G C F : List E) (fl : Fl) (a o : Int) (k : Nat) (out : List St) (g : E) (b gr : Int) : Nat × Bool → AS
  | (i, v) => ⟨[(0, .ro fl 15 (l.map en)), (1, int a), (2, int o), (7, .ro {} 15 (G.map en)), (8, .ro {} 15 (C.map en)), (9, .ro {} 15 (F.map en)), (10, .slm {} 0 4 0 out.length), (11, int k), (12, .ptr 1 15 0 0), (13, .ptr 2 4 0 0), (18, int i)],
      [(0, .row 4 sty (out.map stA)), (1, .row 15 ety [en g]), (2, .row 4 sty [stA ⟨g.id, b, gr, v⟩])], 3⟩
theorem ratNames (g : E) (s : St) (out : List St) (ok : Nat → Bool) : namesAll ok [(0, .row 4 sty (out.map stA)), (1, .row 15 ety [en g]), (2, .row 4 sty [stA s])] = true :=
  namesAll.row (pure_st _) (namesAll.row rfl (namesAll.row rfl rfl))
set_option maxHeartbeats 1600000 in
set_option maxRecDepth 100000 in
theorem rAt_s (l : List E) (a o : Int) (fl : Fl) (hl : l.length ≤ 100000) : AFun Try.prog 61 0 [.ro fl 15 (l.map en), int a, int o] [] (.slm {} 0 4 0 (rAtP l a o).length) [(0, .row 4 sty ((rAtP l a o).map stA))] := by
  refine AFun.of_S T_ok mixed Try.func61 rfl (Nat.le_of_ble_eq_true rfl) rfl ?_
  have hc3 := counting_f l 3 a o fl hl
  have hl3 := countP_length l 3 a o
  have hc4 := counting_f l 4 a o fl hl
  have hl4 := countP_length l 4 a o
  have hc5 := counting_f l 5 a o fl hl
  have hl5 := countP_length l 5 a o
  rw [rAtP]
  generalize countP l 3 a o = G at hc3 hl3 ⊢
  generalize countP l 4 a o = C at hc4 hl4 ⊢
  generalize countP l 5 a o = F at hc5 hl5 ⊢
  ((repeat ((conv => whnf); (first | (refine As.pre ?_; first | refine As.mk rfl ?_) | (refine Ck.pre ?_; first | refine Ck.mk rfl ?_) | (refine CallN.pre ?_; first | refine CallN.pure hc3 rfl rfl ?_ | refine CallN.pure hc4 rfl rfl ?_ | refine CallN.pure hc5 rfl rfl ?_)))); (try (conv => whnf)))



  clear hc3 hc4 hc5
  refine LoopN.weak (s1 := ratS l G C F fl a o (0, [])) ?sw1 ?_
  case sw1 => exact SW.mk id rfl rfl rfl ⟨.refl _, .refl _, .refl _, .refl _, .refl _, .refl _, VLe2.nilslm, .refl _, trivial⟩ (haveV.nil (Nat.le_refl _) trivial)
  refine LoopN.ind T_ok mixed (S := ratS l G C F fl a o) (fun i => G.length - i.1) (fun i => i.1 ≤ G.length ∧ i.2 = (G.take i.1).map (rstand l C F a o)) (fun _ => rfl) (fun i hi ih => ?_) (0, []) ⟨Nat.zero_le _, rfl⟩
  obtain ⟨k, out⟩ := i
  obtain ⟨h1, h2⟩ := hi
  simp only at h1 h2 ih
  have hGl : (G.map en).length = G.length := List.length_map _
  have hCl : (C.map en).length = C.length := List.length_map _
  have hFl : (F.map en).length = F.length := List.length_map _
  by_cases hlt : k < G.length
  case neg =>
    have hk : k = G.length := by omega
    subst hk
    rw [List.take_length] at h2
    rw [← h2]
    clear ih
    ((repeat ((conv => whnf); (first | (refine As.pre ?_; first | refine As.mk rfl ?_) | (refine LetI.pre ?_; first | refine LetI.mk _ rfl ?_) | (refine LetB.pre ?_; first | refine LetB.decf (by omega) ?_) | (refine Br.pre ?_; first | refine Br.ff rfl ?_) | (refine Ck.pre ?_; first | refine Ck.mk rfl ?_)))); (try (conv => whnf)))
    exact ⟨⟨[(6, .slm {} 0 4 0 out.length)], [(0, .row 4 sty (out.map stA))], 3⟩, SW.mk id rfl rfl (namesAll.row (pure_st _) rfl) ⟨.refl _, trivial⟩ (haveV.row (pure_st _) rfl trivial), .inl rfl, ⟨_, rfl, rfl⟩, rfl, trivial⟩
  have hld : en (G.getD k e0) = (G.map en).getD k (.sc undef) := mapD e0 hlt
  have hq := take_map_succ (rstand l C F a o) hlt e0
  rw [← h2] at hq
  have hol : out.length = k := by rw [h2]; simp; omega
  clear h2
  generalize G.getD k e0 = g at hld hq
  have hst : rstand l C F a o g = ⟨g.id, (C.foldl (stepR g) (0, g.grade, 0, false)).1, (C.foldl (stepR g) (0, g.grade, 0, false)).2.1, F.any fun f => decide (f.ref = g.id) && !rLiftedP l f.id a o⟩ := rfl
  ((repeat ((conv => whnf); (first | (refine LetN.pre ?_; first | ((conv => arg 1; whnf); refine LetN.mk ?_)) | (refine As.pre ?_; first | refine As.mk rfl ?_ | (refine As.mk ?_ ?_; · ((repeat' (refine andT ?_ ?_)) <;> (first | rfl | assumption | exact decide_eq_true (by omega) | exact decide_eq_true (by dsimp only; omega) | exact decide_eq_true (by simp; omega) | (simp; done))))) | (refine LetV.pre ?_; first | refine LetV.mk (t := 27) _ hld ?_ | refine LetV.mk (.sc (.int _ _)) rfl ?_ | refine LetV.mk (.agg _) rfl ?_) | (refine LetI.pre ?_; first | refine LetI.mk _ rfl ?_) | (refine LetB.pre ?_; first | refine LetB.dect (by omega) ?_) | (refine Br.pre ?_; first | refine Br.tt rfl ?_) | (refine Ck.pre ?_; first | refine Ck.mk rfl ?_) | (refine LetL.pre ?_; first | refine LetL.mk [_] rfl ?_)))); (try (conv => whnf)))
  refine LoopN.weak (s1 := ratA l G C F fl a o k out g (0, 0, g.grade, 0, false)) ?sw2 ?_
  case sw2 => exact SW.mk id rfl rfl (ratNames ..) ⟨.refl _, .refl _, .refl _, .refl _, .refl _, .refl _, .refl _, .refl _, .refl _, .refl _, .refl _, .refl _, .refl _, trivial⟩ (haveV.row (pure_st _) rfl (haveV.row rfl rfl (haveV.row rfl rfl trivial)))
  generalize hX : C.foldl (stepR g) (0, g.grade, 0, false) = X at hst
  refine LoopN.ind T_ok mixed (S := ratA l G C F fl a o k out g) (fun i => C.length - i.1) (fun i => i.1 ≤ C.length ∧ X = (C.drop i.1).foldl (stepR g) i.2) (fun _ => rfl) (fun i hi ihA => ?_) (0, 0, g.grade, 0, false) ⟨Nat.zero_le _, hX.symm⟩
  obtain ⟨i, b, gr, d, s⟩ := i
  obtain ⟨g1, g2⟩ := hi
  simp only at g1 g2 ihA
  by_cases hiC : i < C.length
  case pos =>
    have hldc : en (C.getD i e0) = (C.map en).getD i (.sc undef) := mapD e0 hiC
    rw [foldl_drop _ hiC e0] at g2
    generalize C.getD i e0 = c at hldc g2
    have next : ∀ (b' gr' d' : Int) (s' : Bool), stepR g (b, gr, d, s) c = (b', gr', d', s') → LoopN Try.prog 0 Try.f61.ntmps _ (ratA l G C F fl a o k out g (i + 1, b', gr', d', s')) _ := fun b' gr' d' s' hs' => ihA (i + 1, b', gr', d', s') ⟨by omega, by rw [← hs']; exact g2⟩ (by omega)
    clear ihA ih
    have swk : ∀ (b' gr' d' : Int) (s' : Bool), namesAll (fun i => decide (i < 0) || (List.map Prod.fst (ratA l G C F fl a o k out g (i, b', gr', d', s')).H).contains i) (ratA l G C F fl a o k out g (i, b', gr', d', s')).H = true := fun _ _ _ _ => ratNames ..
    by_cases q0 : c.ref = g.id
    case neg =>
      ((repeat ((conv => whnf); (first | (refine LetN.pre ?_; first | ((conv => arg 1; whnf); refine LetN.mk ?_)) | (refine As.pre ?_; first | refine As.mk rfl ?_ | (refine As.mk ?_ ?_; · ((repeat' (refine andT ?_ ?_)) <;> (first | rfl | assumption | exact decide_eq_true (by omega) | exact decide_eq_true (by dsimp only; omega) | exact decide_eq_true (by simp; omega) | (simp; done))))) | (refine LetV.pre ?_; first | refine LetV.mk (t := 27) _ hldc ?_ | refine LetV.mk (.sc (.int _ _)) rfl ?_ | refine LetV.mk (.agg _) rfl ?_) | (refine LetI.pre ?_; first | refine LetI.wrap (by omega) (by omega) ?_ | refine LetI.mk _ rfl ?_) | (refine LetB.pre ?_; first | refine LetB.dect (by omega) ?_ | refine LetB.decf (by omega) ?_) | (refine Gd.pre ?_; first | refine Gd.pass rfl ?_) | (refine Br.pre ?_; first | refine Br.tt rfl ?_ | refine Br.ff rfl ?_) | (refine Ck.pre ?_; first | refine Ck.mk rfl ?_) | (refine LetL.pre ?_; first | refine LetL.mk [_] rfl ?_)))); (try (conv => whnf)))
      refine LoopN.weak ?sw3 (next b gr d s (if_neg q0))
      case sw3 => exact SW.mk id rfl rfl (ratNames ..) ⟨.refl _, .refl _, .refl _, .refl _, .refl _, .refl _, .refl _, .refl _, .refl _, .refl _, .refl _, .refl _, VLe2.int (by omega), trivial⟩ (haveV.row (pure_st _) rfl (haveV.row rfl rfl (haveV.row rfl rfl trivial)))
    cases s with
    | false =>
      ((repeat ((conv => whnf); (first | (refine LetN.pre ?_; first | ((conv => arg 1; whnf); refine LetN.mk ?_)) | (refine As.pre ?_; first | refine As.mk rfl ?_ | (refine As.mk ?_ ?_; · ((repeat' (refine andT ?_ ?_)) <;> (first | rfl | assumption | exact decide_eq_true (by omega) | exact decide_eq_true (by dsimp only; omega) | exact decide_eq_true (by simp; omega) | (simp; done))))) | (refine LetV.pre ?_; first | refine LetV.mk (t := 27) _ hldc ?_ | refine LetV.mk (.sc (.int _ _)) rfl ?_ | refine LetV.mk (.agg _) rfl ?_) | (refine LetI.pre ?_; first | refine LetI.wrap (by omega) (by omega) ?_ | refine LetI.mk _ rfl ?_) | (refine LetB.pre ?_; first | refine LetB.dect (by omega) ?_) | (refine Gd.pre ?_; first | refine Gd.run rfl ?_ | refine Gd.pass rfl ?_) | (refine Br.pre ?_; first | refine Br.tt rfl ?_) | (refine Ck.pre ?_; first | refine Ck.mk rfl ?_) | (refine LetL.pre ?_; first | refine LetL.mk [_] rfl ?_)))); (try (conv => whnf)))
      refine LoopN.weak ?sw4 (next c.id c.grade c.day true ((if_pos q0).trans (if_pos (.inl rfl))))
      case sw4 => exact SW.mk id rfl rfl (ratNames ..) ⟨.refl _, .refl _, .refl _, .refl _, .refl _, .refl _, .refl _, .refl _, .refl _, .refl _, .refl _, .refl _, VLe2.int (by omega), trivial⟩ (haveV.row (pure_st _) rfl (haveV.row rfl rfl (haveV.row rfl rfl trivial)))
    | true =>
      by_cases q1 : d < c.day
      · ((repeat ((conv => whnf); (first | (refine LetN.pre ?_; first | ((conv => arg 1; whnf); refine LetN.mk ?_)) | (refine As.pre ?_; first | refine As.mk rfl ?_ | (refine As.mk ?_ ?_; · ((repeat' (refine andT ?_ ?_)) <;> (first | rfl | assumption | exact decide_eq_true (by omega) | exact decide_eq_true (by dsimp only; omega) | exact decide_eq_true (by simp; omega) | (simp; done))))) | (refine LetV.pre ?_; first | refine LetV.mk (t := 27) _ hldc ?_ | refine LetV.mk (.sc (.int _ _)) rfl ?_ | refine LetV.mk (.agg _) rfl ?_) | (refine LetI.pre ?_; first | refine LetI.wrap (by omega) (by omega) ?_ | refine LetI.mk _ rfl ?_) | (refine LetB.pre ?_; first | refine LetB.dect (by omega) ?_) | (refine Gd.pre ?_; first | refine Gd.run rfl ?_ | refine Gd.pass rfl ?_) | (refine Br.pre ?_; first | refine Br.tt rfl ?_) | (refine Ck.pre ?_; first | refine Ck.mk rfl ?_) | (refine LetL.pre ?_; first | refine LetL.mk [_] rfl ?_)))); (try (conv => whnf)))
        refine LoopN.weak ?sw5 (next c.id c.grade c.day true ((if_pos q0).trans (if_pos (.inr (.inl q1)))))
        case sw5 => exact SW.mk id rfl rfl (ratNames ..) ⟨.refl _, .refl _, .refl _, .refl _, .refl _, .refl _, .refl _, .refl _, .refl _, .refl _, .refl _, .refl _, VLe2.int (by omega), trivial⟩ (haveV.row (pure_st _) rfl (haveV.row rfl rfl (haveV.row rfl rfl trivial)))
      · by_cases q2 : c.day = d
        · by_cases q3 : b < c.id
          · ((repeat ((conv => whnf); (first | (refine LetN.pre ?_; first | ((conv => arg 1; whnf); refine LetN.mk ?_)) | (refine As.pre ?_; first | refine As.mk rfl ?_ | (refine As.mk ?_ ?_; · ((repeat' (refine andT ?_ ?_)) <;> (first | rfl | assumption | exact decide_eq_true (by omega) | exact decide_eq_true (by dsimp only; omega) | exact decide_eq_true (by simp; omega) | (simp; done))))) | (refine LetV.pre ?_; first | refine LetV.mk (t := 27) _ hldc ?_ | refine LetV.mk (.sc (.int _ _)) rfl ?_ | refine LetV.mk (.agg _) rfl ?_) | (refine LetI.pre ?_; first | refine LetI.wrap (by omega) (by omega) ?_ | refine LetI.mk _ rfl ?_) | (refine LetB.pre ?_; first | refine LetB.dect (by omega) ?_ | refine LetB.decf (by omega) ?_) | (refine Gd.pre ?_; first | refine Gd.run rfl ?_) | (refine Br.pre ?_; first | refine Br.tt rfl ?_) | (refine Ck.pre ?_; first | refine Ck.mk rfl ?_) | (refine LetL.pre ?_; first | refine LetL.mk [_] rfl ?_)))); (try (conv => whnf)))
            refine LoopN.weak ?sw6 (next c.id c.grade c.day true ((if_pos q0).trans (if_pos (.inr (.inr ⟨q2, q3⟩)))))
            case sw6 => exact SW.mk id rfl rfl (ratNames ..) ⟨.refl _, .refl _, .refl _, .refl _, .refl _, .refl _, .refl _, .refl _, .refl _, .refl _, .refl _, .refl _, VLe2.int (by omega), trivial⟩ (haveV.row (pure_st _) rfl (haveV.row rfl rfl (haveV.row rfl rfl trivial)))
          · ((repeat ((conv => whnf); (first | (refine LetN.pre ?_; first | ((conv => arg 1; whnf); refine LetN.mk ?_)) | (refine As.pre ?_; first | refine As.mk rfl ?_ | (refine As.mk ?_ ?_; · ((repeat' (refine andT ?_ ?_)) <;> (first | rfl | assumption | exact decide_eq_true (by omega) | exact decide_eq_true (by dsimp only; omega) | exact decide_eq_true (by simp; omega) | (simp; done))))) | (refine LetV.pre ?_; first | refine LetV.mk (t := 27) _ hldc ?_ | refine LetV.mk (.sc (.int _ _)) rfl ?_ | refine LetV.mk (.agg _) rfl ?_) | (refine LetI.pre ?_; first | refine LetI.wrap (by omega) (by omega) ?_ | refine LetI.mk _ rfl ?_) | (refine LetB.pre ?_; first | refine LetB.dect (by omega) ?_ | refine LetB.decf (by omega) ?_) | (refine Gd.pre ?_; first | refine Gd.run rfl ?_) | (refine Br.pre ?_; first | refine Br.tt rfl ?_ | refine Br.ff rfl ?_) | (refine Ck.pre ?_; first | refine Ck.mk rfl ?_) | (refine LetL.pre ?_; first | refine LetL.mk [_] rfl ?_)))); (try (conv => whnf)))
            refine LoopN.weak ?sw7 (next b gr d true ((if_pos q0).trans (if_neg (by rintro (h | h | h) <;> simp at h <;> omega))))
            case sw7 => exact SW.mk id rfl rfl (ratNames ..) ⟨.refl _, .refl _, .refl _, .refl _, .refl _, .refl _, .refl _, .refl _, .refl _, .refl _, .refl _, .refl _, VLe2.int (by omega), trivial⟩ (haveV.row (pure_st _) rfl (haveV.row rfl rfl (haveV.row rfl rfl trivial)))
        · ((repeat ((conv => whnf); (first | (refine LetN.pre ?_; first | ((conv => arg 1; whnf); refine LetN.mk ?_)) | (refine As.pre ?_; first | refine As.mk rfl ?_ | (refine As.mk ?_ ?_; · ((repeat' (refine andT ?_ ?_)) <;> (first | rfl | assumption | exact decide_eq_true (by omega) | exact decide_eq_true (by dsimp only; omega) | exact decide_eq_true (by simp; omega) | (simp; done))))) | (refine LetV.pre ?_; first | refine LetV.mk (t := 27) _ hldc ?_ | refine LetV.mk (.sc (.int _ _)) rfl ?_ | refine LetV.mk (.agg _) rfl ?_) | (refine LetI.pre ?_; first | refine LetI.wrap (by omega) (by omega) ?_ | refine LetI.mk _ rfl ?_) | (refine LetB.pre ?_; first | refine LetB.dect (by omega) ?_ | refine LetB.decf (by omega) ?_) | (refine Gd.pre ?_; first | refine Gd.run rfl ?_ | refine Gd.pass rfl ?_) | (refine Br.pre ?_; first | refine Br.tt rfl ?_ | refine Br.ff rfl ?_) | (refine Ck.pre ?_; first | refine Ck.mk rfl ?_) | (refine LetL.pre ?_; first | refine LetL.mk [_] rfl ?_)))); (try (conv => whnf)))
          refine LoopN.weak ?sw8 (next b gr d true ((if_pos q0).trans (if_neg (by rintro (h | h | h) <;> simp at h <;> omega))))
          case sw8 => exact SW.mk id rfl rfl (ratNames ..) ⟨.refl _, .refl _, .refl _, .refl _, .refl _, .refl _, .refl _, .refl _, .refl _, .refl _, .refl _, .refl _, VLe2.int (by omega), trivial⟩ (haveV.row (pure_st _) rfl (haveV.row rfl rfl (haveV.row rfl rfl trivial)))
  case neg =>
    clear ihA
    rw [List.drop_eq_nil_of_le (by omega), List.foldl_nil] at g2
    rw [g2] at hst
    simp only at hst
    ((repeat ((conv => whnf); (first | (refine As.pre ?_; first | refine As.mk rfl ?_) | (refine LetI.pre ?_; first | refine LetI.mk _ rfl ?_) | (refine LetB.pre ?_; first | refine LetB.decf (by omega) ?_) | (refine Br.pre ?_; first | refine Br.ff rfl ?_) | (refine Ck.pre ?_; first | refine Ck.mk rfl ?_)))); (try (conv => whnf)))
    refine LoopN.weak (s1 := ratB l G C F fl a o k out g b gr (0, false)) ?sw9 ?_
    case sw9 => exact SW.mk id rfl rfl (ratNames ..) ⟨.refl _, .refl _, .refl _, .refl _, .refl _, .refl _, .refl _, .refl _, .refl _, .refl _, .refl _, trivial⟩ (haveV.row (pure_st _) rfl (haveV.row rfl rfl (haveV.row rfl rfl trivial)))
    generalize hY : (F.any fun f => decide (f.ref = g.id) && !rLiftedP l f.id a o) = Y at hst
    refine LoopN.ind T_ok mixed (S := ratB l G C F fl a o k out g b gr) (fun i => F.length - i.1) (fun i => i.1 ≤ F.length ∧ Y = (i.2 || (F.drop i.1).any fun f => decide (f.ref = g.id) && !rLiftedP l f.id a o)) (fun _ => rfl) (fun i hi ihB => ?_) (0, false) ⟨Nat.zero_le _, by rw [← hY]; rfl⟩
    obtain ⟨i, v⟩ := i
    obtain ⟨g3, g4⟩ := hi
    simp only at g3 g4 ihB
    by_cases hiF : i < F.length
    case pos =>
      have hldf : en (F.getD i e0) = (F.map en).getD i (.sc undef) := mapD e0 hiF
      rw [any_drop _ hiF e0, ← Bool.or_assoc] at g4
      generalize F.getD i e0 = f at hldf g4
      have hL := rLifted_f l f.id a o fl hl
      generalize rLiftedP l f.id a o = u at hL g4
      have next := ihB (i + 1, v || (decide (f.ref = g.id) && !u)) ⟨by omega, g4⟩ (by show F.length - (i + 1) < F.length - i; omega)
      clear g4 ih ihB
      by_cases q0 : f.ref = g.id
      case neg =>
        rw [decide_eq_false q0, Bool.false_and, Bool.or_false] at next
        ((repeat ((conv => whnf); (first | (refine As.pre ?_; first | refine As.mk rfl ?_ | (refine As.mk ?_ ?_; · ((repeat' (refine andT ?_ ?_)) <;> (first | rfl | assumption | exact decide_eq_true (by omega) | exact decide_eq_true (by dsimp only; omega) | exact decide_eq_true (by simp; omega) | (simp; done))))) | (refine LetV.pre ?_; first | refine LetV.mk (t := 27) _ hldf ?_ | refine LetV.mk (.sc (.int _ _)) rfl ?_) | (refine LetI.pre ?_; first | refine LetI.wrap (by omega) (by omega) ?_ | refine LetI.mk _ rfl ?_) | (refine LetB.pre ?_; first | refine LetB.dect (by omega) ?_ | refine LetB.decf (by omega) ?_) | (refine Gd.pre ?_; first | refine Gd.pass rfl ?_) | (refine Br.pre ?_; first | refine Br.tt rfl ?_ | refine Br.ff rfl ?_) | (refine Ck.pre ?_; first | refine Ck.drawn (by kernel_rfl) ?_ | refine Ck.mk rfl ?_)))); (try (conv => whnf)))
        refine LoopN.weak ?sw10 next
        case sw10 => exact SW.mk id rfl rfl (ratNames ..) ⟨.refl _, .refl _, .refl _, .refl _, .refl _, .refl _, .refl _, .refl _, .refl _, .refl _, VLe2.int (by omega), trivial⟩ (haveV.row (pure_st _) rfl (haveV.row rfl rfl (haveV.row rfl rfl trivial)))
      rw [decide_eq_true q0, Bool.true_and] at next
      cases u with
      | true =>
        rw [Bool.not_true, Bool.or_false] at next
        ((repeat ((conv => whnf); (first | (refine As.pre ?_; first | refine As.mk rfl ?_ | (refine As.mk ?_ ?_; · ((repeat' (refine andT ?_ ?_)) <;> (first | rfl | assumption | exact decide_eq_true (by omega) | exact decide_eq_true (by dsimp only; omega) | exact decide_eq_true (by simp; omega) | (simp; done))))) | (refine LetV.pre ?_; first | refine LetV.mk (t := 27) _ hldf ?_ | refine LetV.mk (.sc (.int _ _)) rfl ?_) | (refine LetI.pre ?_; first | refine LetI.wrap (by omega) (by omega) ?_ | refine LetI.mk _ rfl ?_) | (refine LetB.pre ?_; first | refine LetB.dect (by omega) ?_) | (refine Gd.pre ?_; first | refine Gd.run rfl ?_) | (refine Br.pre ?_; first | refine Br.tt rfl ?_ | refine Br.ff rfl ?_) | (refine Ck.pre ?_; first | refine Ck.drawn (by kernel_rfl) ?_ | refine Ck.mk rfl ?_) | (refine CallN.pre ?_; first | refine CallN.pure hL rfl rfl ?_)))); (try (conv => whnf)))


        refine LoopN.weak ?sw11 next
        case sw11 => exact SW.mk id rfl rfl (ratNames ..) ⟨.refl _, .refl _, .refl _, .refl _, .refl _, .refl _, .refl _, .refl _, .refl _, .refl _, VLe2.int (by omega), trivial⟩ (haveV.row (pure_st _) rfl (haveV.row rfl rfl (haveV.row rfl rfl trivial)))
      | false =>
        rw [Bool.not_false, Bool.or_true] at next
        ((repeat ((conv => whnf); (first | (refine LetN.pre ?_; first | ((conv => arg 1; whnf); refine LetN.mk ?_)) | (refine As.pre ?_; first | refine As.mk rfl ?_ | (refine As.mk ?_ ?_; · ((repeat' (refine andT ?_ ?_)) <;> (first | rfl | assumption | exact decide_eq_true (by omega) | exact decide_eq_true (by dsimp only; omega) | exact decide_eq_true (by simp; omega) | (simp; done))))) | (refine LetV.pre ?_; first | refine LetV.mk (t := 27) _ hldf ?_ | refine LetV.mk (.sc (.int _ _)) rfl ?_) | (refine LetI.pre ?_; first | refine LetI.wrap (by omega) (by omega) ?_ | refine LetI.mk _ rfl ?_) | (refine LetB.pre ?_; first | refine LetB.dect (by omega) ?_) | (refine Gd.pre ?_; first | refine Gd.run rfl ?_) | (refine Br.pre ?_; first | refine Br.tt rfl ?_) | (refine Ck.pre ?_; first | refine Ck.drawn (by kernel_rfl) ?_ | refine Ck.mk rfl ?_) | (refine LetL.pre ?_; first | refine LetL.mk [_] rfl ?_) | (refine CallN.pre ?_; first | refine CallN.pure hL rfl rfl ?_)))); (try (conv => whnf)))


        refine LoopN.weak ?sw12 next
        case sw12 => exact SW.mk id rfl rfl (ratNames ..) ⟨.refl _, .refl _, .refl _, .refl _, .refl _, .refl _, .refl _, .refl _, .refl _, .refl _, VLe2.int (by omega), trivial⟩ (haveV.row (pure_st _) rfl (haveV.row rfl rfl (haveV.row rfl rfl trivial)))
    case neg =>
      clear ihB
      rw [List.drop_eq_nil_of_le (by omega), List.any_nil, Bool.or_false] at g4
      rw [g4] at hst
      rw [hst] at hq
      have hr := room_st (n := out.length + 1) (by omega)
      have hol2 : (out.map stA).length = out.length := List.length_map _
      ((repeat ((conv => whnf); (first | (refine LetN.pre ?_; first | ((conv => arg 1; whnf); refine LetN.mk ?_)) | (refine As.pre ?_; first | refine As.mk rfl ?_ | (refine As.mk ?_ ?_; · ((repeat' (refine andT ?_ ?_)) <;> (first | rfl | assumption | exact decide_eq_true (by omega) | exact decide_eq_true (by dsimp only; omega) | exact decide_eq_true (by simp; omega) | (simp; done))))) | (refine LetV.pre ?_; first | refine LetV.mk (.agg _) rfl ?_) | (refine LetI.pre ?_; first | refine LetI.wrap (by omega) (by omega) ?_ | refine LetI.mk _ rfl ?_) | (refine LetB.pre ?_; first | refine LetB.decf (by omega) ?_) | (refine Br.pre ?_; first | refine Br.ff rfl ?_) | (refine Ck.pre ?_; first | refine Ck.mk rfl ?_) | (refine LetL.pre ?_; first | refine LetL.mk (ty := sty) _ (app_st out ⟨g.id, b, gr, v⟩ _ rfl) ?_)))); (try (conv => whnf)))

      refine LoopN.weak ?sw13 (ih (k + 1, out ++ [⟨g.id, b, gr, v⟩]) ⟨by omega, hq.symm⟩ (by omega))
      case sw13 => exact SW.mk (fun _ => 3) rfl rfl (namesAll.row (pure_st _) rfl) ⟨.refl _, .refl _, .refl _, .refl _, .refl _, .refl _, VLe2.slm_of (by simp), VLe2.int (by omega), trivial⟩ (haveV.row (pure_st _) rfl trivial)
theorem rAt_f (l : List E) (a o : Int) (fl : Fl) (hl : l.length ≤ 100000) : AFun Try.prog 61 0 [.ro fl 15 (l.map en), int a, int o] [] (.ro {} 4 ((rAtP l a o).map stA)) [] :=
  AFun.frz1 (H := []) (rAt_s l a o fl hl) rfl (pure_st _) (by simp)
end En
end Go.Proofs.Ytnegdmjmllmclaa
namespace Go.Proofs.Ytnegdmjmllmclaa
open Go.Proofs.Ytnegdmjmllmclaa.Am
set_option maxRecDepth 100000
namespace En
/-! ### Stable sorting, and what the reference does -/
theorem posB_app {α : Type} (gt : α → Bool) (d : α) (A B : List α) : ∀ k, k ≤ A.length → posB gt d (A ++ B) k = posB gt d A k
  | 0, _ => rfl
  | k + 1, h => by
    have e : (A ++ B).getD k d = A.getD k d := by
      rw [List.getD_eq_getElem?_getD, List.getD_eq_getElem?_getD, List.getElem?_append_left (by omega)]
    rw [posB, posB, e, posB_app gt d A B k (by omega)]
theorem putB_rev {α : Type} (gt : α → Bool) (d e : α) : ∀ R : List α, putB gt d R.reverse e = (R.dropWhile gt).reverse ++ e :: (R.takeWhile gt).reverse
  | [] => rfl
  | x :: R => by
    have ih := putB_rev gt d e R
    have hl : R.reverse.length = R.length := List.length_reverse
    have hg : (R.reverse ++ [x]).getD R.length d = x := by
      rw [List.getD_eq_getElem?_getD, List.getElem?_append_right (by omega), hl, Nat.sub_self]; rfl
    rw [putB, hl] at ih
    rw [List.reverse_cons, putB, List.length_append, hl]
    show List.take (posB gt d (R.reverse ++ [x]) (R.length + 1)) _ ++ e :: List.drop (posB gt d (R.reverse ++ [x]) (R.length + 1)) _ = _
    rw [posB, hg]
    cases hx : gt x with
    | false =>
      simp only [Bool.false_eq_true, if_false]
      rw [List.take_of_length_le (by simp), List.drop_eq_nil_of_le (by simp), List.dropWhile_cons, List.takeWhile_cons]
      simp [hx]
    | true =>
      simp only [if_true]
      have hp : posB gt d (R.reverse ++ [x]) R.length = posB gt d R.reverse R.length := posB_app _ _ _ _ _ (by omega)
      have hle := posB_le gt d R.reverse R.length
      rw [hp, List.take_append_of_le_length (by omega), List.drop_append_of_le_length (by omega), List.dropWhile_cons, List.takeWhile_cons]
      simp only [hx, if_true, List.reverse_cons]
      rw [← List.cons_append, ← List.append_assoc, ih]
      simp
theorem putB_ins {α : Type} (gt : α → Bool) (d e : α) (A : List α) : putB gt d A e = insEnd gt e A := by
  have := putB_rev gt d e A.reverse
  rw [List.reverse_reverse] at this
  exact this
theorem countP_S (l : List E) (kd a o : Int) : countP l kd a o = sortS (ltE false) (l.filter (cntQ kd a o)) := by
  unfold countP sortS
  refine foldl_congr (fun b e => ?_) _ _
  rw [insId, putB_ins]
  congr 1
  funext x
  exact (ltE_id e x).symm
/-! ### Both sides of the force layer say the same -/
theorem mem_countP {l : List E} {kd a o : Int} {x : E} : x ∈ countP l kd a o ↔ x ∈ l ∧ x.kind = kd ∧ x.day ≤ a ∧ x.on_ ≤ o := by
  rw [countP_S, (S_perm _ _).mem_iff, List.mem_filter, cntQ, decide_eq_true_eq]
theorem any_iff {α : Type} {l l' : List α} {p q : α → Bool} (h : ∀ x, (x ∈ l ∧ p x = true) ↔ (x ∈ l' ∧ q x = true)) : l.any p = l'.any q := by
  rw [Bool.eq_iff_iff, List.any_eq_true, List.any_eq_true]
  exact ⟨fun ⟨x, a, b⟩ => ⟨x, (h x).1 ⟨a, b⟩⟩, fun ⟨x, a, b⟩ => ⟨x, (h x).2 ⟨a, b⟩⟩⟩
theorem lift_eq (l : List E) (f a o : Int) : rLiftedP l f a o = liftedP l f a o := by
  refine any_iff fun x => ?_
  rw [mem_countP]
  simp only [Bool.and_eq_true, decide_eq_true_eq]
  exact ⟨fun h => ⟨h.1.1, ⟨h.1.2.1, h.2⟩, h.1.2.2⟩, fun h => ⟨⟨h.1, h.2.1.1, h.2.2⟩, h.2.1.2⟩⟩
theorem chos1 (R : List E) (c : Cd) : chos R [c] = R.filter c.p := by
  simp [chos]
theorem chos2 (R : List E) (c d : Cd) : chos R [c, d] = (R.filter c.p).filter d.p := by
  rw [List.filter_filter]
  refine List.filter_congr fun x _ => ?_
  simp [Bool.and_comm]
theorem atR_kind (l : List E) (k a o : Int) : chos (atR l a o) [cOf k] = countP l k a o := by
  rw [chos1, atR, srt_S, S_filter (ord_E false), countP_S, chos1, List.filter_filter]
  congr 1
  refine List.filter_congr fun x _ => ?_
  rw [Bool.eq_iff_iff]
  simp only [cntQ, Bool.and_eq_true, decide_eq_true_eq]
theorem atR_kind' (l : List E) (k a o : Int) : (atR l a o).filter (cOf k).p = countP l k a o := by
  rw [← chos1, atR_kind]
theorem mem_atR {l : List E} {a o : Int} {x : E} : x ∈ atR l a o ↔ x ∈ l ∧ x.day ≤ a ∧ x.on_ ≤ o := by
  rw [atR, srt_S, (S_perm _ _).mem_iff, chos1, List.mem_filter, decide_eq_true_eq]
theorem atR_lifted (l : List E) (f a o : Int) : liftedP (atR l a o) f a o = liftedP l f a o := by
  refine any_iff fun x => ?_
  rw [mem_atR]
  simp only [Bool.and_eq_true, decide_eq_true_eq]
  exact ⟨fun h => ⟨h.1.1, h.2⟩, fun h => ⟨⟨h.1, h.2.2⟩, h.2⟩⟩
theorem corr_eq (l : List E) (a o : Int) (g : E) : corr (atR l a o) g = (countP l 4 a o).foldl (stepR g) (0, g.grade, 0, false) := by
  rw [corr, chos2, atR_kind', List.foldl_filter]
  refine foldl_congr (fun b x => ?_) _ _
  simp only [stepR, decide_eq_true_eq]
theorem void_eq (l : List E) (a o : Int) (g : E) : voidP (atR l a o) a o g = (countP l 5 a o).any fun f => decide (f.ref = g.id) && !rLiftedP l f.id a o := by
  rw [voidP, chos2, atR_kind', List.any_filter]
  congr 1
  funext x
  rw [atR_lifted, lift_eq]
theorem stand_eq (l : List E) (a o : Int) (g : E) : stand (atR l a o) a o g = rstand l (countP l 4 a o) (countP l 5 a o) a o g := by
  rw [stand, rstand, corr_eq, void_eq]
theorem at_eq (l : List E) (a o : Int) : atP l a o = rAtP l a o := by
  rw [atP, rAtP, atR_kind]
  refine List.map_congr_left fun x _ => stand_eq ..
end En
end Go.Proofs.Ytnegdmjmllmclaa
namespace Go.Proofs.Ytnegdmjmllmclaa
open Go.Proofs.Ytnegdmjmllmclaa.Am
set_option maxRecDepth 100000
namespace Sc
abbrev int (a : Int) : AV := .sc (.int .i64 a)
abbrev bool (b : Bool) : AV := .sc (.bool b)
abbrev Scl := Int × Int × Int
abbrev scA (s : Scl) : AV := .agg [int s.1, int s.2.1, int s.2.2]
def lim (n a b : Int) : Int := max (min a b) (min n (max a b))
theorem lim_spec (n a b : Int) : lim n a b = max (min a b) (min n (max a b)) := rfl
theorem limited_f (n a b : Int) : AFun Try.prog 47 0 [int n, int a, int b] [] (int (lim n a b)) [] := by
  refine AFun.of_W T_ok mixed Try.func47 rfl (Nat.le_of_ble_eq_true rfl) rfl ?_
  ((repeat ((conv => whnf); (first | (refine As.pre ?_; first | refine As.mk rfl ?_) | (refine LetI.pre ?_; first | refine LetI.mk _ rfl ?_) | (refine Ck.pre ?_; first | refine Ck.mk rfl ?_)))); (try (conv => whnf)))
  refine ⟨.inl rfl, ⟨_, rfl, congrArg int ?_⟩, trivial⟩
  simp only [lim, Bool.false_eq_true, if_false, if_true]
  repeat' split
  all_goals omega
theorem near_f (n m : Int) (hm : 0 ≤ m ∧ m ≤ 100000) : AFun Try.prog 64 0 [int n, int m] [] (bool (decide (-m ≤ n ∧ n ≤ m))) [] := by
  refine AFun.of_W T_ok mixed Try.func64 rfl (Nat.le_of_ble_eq_true rfl) rfl ?_
  repeat' ((conv => whnf); (first | (refine As.pre ?_; first | refine As.mk rfl ?_) | (refine LetI.pre ?_; first | refine LetI.wrap (by omega) (by omega) ?_) | (refine LetB.pre ?_; first | (refine LetB.dec (fun _ => ?_) (fun _ => ?_))) | (refine Gd.pre ?_; first | refine Gd.run rfl ?_ | refine Gd.pass rfl ?_) | (refine Ck.pre ?_; first | refine Ck.mk rfl ?_)))
  all_goals (refine ⟨by first | exact .inl rfl | exact .inr rfl, ⟨_, rfl, congrArg (fun b => Go.Proofs.Ytnegdmjmllmclaa.Am.AV.sc (Go.Value.bool b)) (by first | exact (decide_eq_true (by omega)).symm | exact (decide_eq_false (by omega)).symm | exact Bool.eq_iff_iff.2 (by simp only [decide_eq_true_eq, decide_eq_false_iff_not]; omega) | rfl)⟩, trivial⟩)
/-- A scale is right. -/
abbrev okS (s : Scl) : Prop := (-1000 ≤ s.1 ∧ s.1 ≤ 1000) ∧ (-1000 ≤ s.2.1 ∧ s.2.1 ≤ 1000) ∧ s.1 ≠ s.2.1 ∧ min s.1 s.2.1 ≤ s.2.2 ∧ s.2.2 ≤ max s.1 s.2.1
def chk (s : Scl) : Int := if okS s then 0 else 10
theorem chk_spec (s : Scl) : (chk s = 0 ∧ okS s) ∨ (chk s = 10 ∧ ¬ okS s) := by
  unfold chk; split
  · exact .inl ⟨rfl, by assumption⟩
  · exact .inr ⟨rfl, by assumption⟩
theorem Check_f (s : Scl) : AFun Try.prog 88 0 [scA s] [] (int (chk s)) [] := by
  refine AFun.of_W T_ok mixed Try.func88 rfl (Nat.le_of_ble_eq_true rfl) rfl ?_
  have h0 := chk_spec s
  have h1 := lim_spec s.1 (-1000) 1000
  have h2 := lim_spec s.2.1 (-1000) 1000
  have h3 := lim_spec s.2.2 s.1 s.2.1
  ((repeat ((conv => whnf); (first | (refine LetN.pre ?_; first | ((conv => arg 1; whnf); refine LetN.mk ?_)) | (refine As.pre ?_; first | refine As.mk rfl ?_) | (refine LetV.pre ?_; first | refine LetV.mk (.sc (.int _ _)) rfl ?_) | (refine LetI.pre ?_; first | refine LetI.mk _ rfl ?_) | (refine Ck.pre ?_; first | refine Ck.mk rfl ?_)))); (try (conv => whnf)))
  refine LoopN.round T_ok mixed rfl ?_
  repeat' ((conv => whnf); (first | (refine As.pre ?_; first | refine As.mk rfl ?_) | (refine LetV.pre ?_; first | refine LetV.mk (.sc (.int _ _)) rfl ?_) | (refine LetI.pre ?_; first | refine LetI.wrap (by omega) (by omega) ?_) | (refine LetB.pre ?_; first | refine LetB.tt rfl ?_ | refine LetB.ff rfl ?_ | (refine LetB.dec (fun _ => ?_) (fun _ => ?_)) | (refine LetB.bne (fun _ => ?_) (fun _ => ?_))) | (refine Gd.pre ?_; first | refine Gd.run rfl ?_ | refine Gd.pass rfl ?_) | (refine Br.pre ?_; first | refine Br.tt rfl ?_ | refine Br.ff rfl ?_) | (refine Ck.pre ?_; first | refine Ck.drawn (by kernel_rfl) ?_ | refine Ck.mk rfl ?_) | (refine CallN.pre ?_; first | refine CallN.pure (limited_f _ _ _) rfl rfl ?_) | (refine LoopN.round T_ok mixed rfl ?_)))
  all_goals (refine ⟨by first | exact .inl rfl | exact .inr rfl, ⟨_, rfl, congrArg (fun b => Go.Proofs.Ytnegdmjmllmclaa.Am.AV.sc (Go.Value.int .i64 b)) (by first | omega | rfl)⟩, trivial⟩)
theorem refCheck_f (s : Scl) : AFun Try.prog 92 0 [scA s] [] (int (chk s)) [] := by
  refine AFun.of_W T_ok mixed Try.func92 rfl (Nat.le_of_ble_eq_true rfl) rfl ?_
  have h0 := chk_spec s
  repeat' ((conv => whnf); (first | (refine LetN.pre ?_; first | ((conv => arg 1; whnf); refine LetN.mk ?_)) | (refine As.pre ?_; first | refine As.mk rfl ?_) | (refine LetV.pre ?_; first | refine LetV.mk (.sc (.int _ _)) rfl ?_) | (refine LetI.pre ?_; first | refine LetI.mk _ rfl ?_) | (refine LetB.pre ?_; first | (refine LetB.dec (fun _ => ?_) (fun _ => ?_))) | (refine Gd.pre ?_; first | refine Gd.run rfl ?_ | refine Gd.pass rfl ?_) | (refine Br.pre ?_; first | refine Br.tt rfl ?_ | refine Br.ff rfl ?_) | (refine Ck.pre ?_; first | refine Ck.mk rfl ?_) | (refine CallN.pre ?_; first | refine CallN.dec (near_f _ 1000 (by omega)) rfl (fun _ => ?_) (fun _ => ?_))))
  all_goals (refine ⟨by first | exact .inl rfl | exact .inr rfl, ⟨_, rfl, congrArg (fun b => Go.Proofs.Ytnegdmjmllmclaa.Am.AV.sc (Go.Value.int .i64 b)) (by first | omega | rfl)⟩, trivial⟩)
/-- A grade lies on a scale. -/
abbrev onS (s : Scl) (g : Int) : Prop := okS s ∧ min s.1 s.2.1 ≤ g ∧ g ≤ max s.1 s.2.1
abbrev rgt (s : Scl) (g : Int) : Bool := decide (onS s g)
theorem Right_f (s : Scl) (g : Int) : AFun Try.prog 82 0 [scA s, int g] [] (bool (rgt s g)) [] := by
  refine AFun.of_W T_ok mixed Try.func82 rfl (Nat.le_of_ble_eq_true rfl) rfl ?_
  have h0 := chk_spec s
  have h1 := lim_spec g s.1 s.2.1
  repeat' ((conv => whnf); (first | (refine LetN.pre ?_; first | ((conv => arg 1; whnf); refine LetN.mk ?_)) | (refine As.pre ?_; first | refine As.mk rfl ?_) | (refine LetV.pre ?_; first | refine LetV.mk (.sc (.int _ _)) rfl ?_ | refine LetV.mk (.agg _) rfl ?_) | (refine LetB.pre ?_; first | (refine LetB.dec (fun _ => ?_) (fun _ => ?_))) | (refine Gd.pre ?_; first | refine Gd.run rfl ?_ | refine Gd.pass rfl ?_) | (refine Ck.pre ?_; first | refine Ck.mk rfl ?_) | (refine CallN.pre ?_; first | refine CallN.pure (Check_f s) rfl rfl ?_ | refine CallN.pure (limited_f _ _ _) rfl rfl ?_)))
  all_goals (refine ⟨by first | exact .inl rfl | exact .inr rfl, ⟨_, rfl, congrArg (fun b => Go.Proofs.Ytnegdmjmllmclaa.Am.AV.sc (Go.Value.bool b)) (by first | exact (decide_eq_true (by omega)).symm | exact (decide_eq_false (by omega)).symm | exact Bool.eq_iff_iff.2 (by simp only [decide_eq_true_eq, decide_eq_false_iff_not]; omega) | rfl)⟩, trivial⟩)
theorem refRight_f (s : Scl) (g : Int) : AFun Try.prog 87 0 [scA s, int g] [] (bool (rgt s g)) [] := by
  refine AFun.of_W T_ok mixed Try.func87 rfl (Nat.le_of_ble_eq_true rfl) rfl ?_
  have h0 := chk_spec s
  repeat' ((conv => whnf); (first | (refine LetN.pre ?_; first | ((conv => arg 1; whnf); refine LetN.mk ?_)) | (refine As.pre ?_; first | refine As.mk rfl ?_) | (refine LetV.pre ?_; first | refine LetV.mk (.sc (.int _ _)) rfl ?_ | refine LetV.mk (.agg _) rfl ?_) | (refine LetI.pre ?_; first | refine LetI.mk _ rfl ?_) | (refine LetB.pre ?_; first | (refine LetB.dec (fun _ => ?_) (fun _ => ?_))) | (refine Gd.pre ?_; first | refine Gd.run rfl ?_ | refine Gd.pass rfl ?_) | (refine Ck.pre ?_; first | refine Ck.mk rfl ?_) | (refine CallN.pre ?_; first | refine CallN.pure (refCheck_f s) rfl rfl ?_)))
  all_goals (refine ⟨by first | exact .inl rfl | exact .inr rfl, ⟨_, rfl, congrArg (fun b => Go.Proofs.Ytnegdmjmllmclaa.Am.AV.sc (Go.Value.bool b)) (by first | exact (decide_eq_true (by omega)).symm | exact (decide_eq_false (by omega)).symm | exact Bool.eq_iff_iff.2 (by simp only [decide_eq_true_eq, decide_eq_false_iff_not]; omega) | rfl)⟩, trivial⟩)
/-- A grade reaches another. -/
abbrev rea (s : Scl) (g m : Int) : Prop := onS s g ∧ (g = m ∨ (m < g ↔ s.1 < s.2.1))
theorem Reaches_f (s : Scl) (g m : Int) : AFun Try.prog 66 0 [scA s, int g, int m] [] (bool (decide (rea s g m))) [] := by
  refine AFun.of_W T_ok mixed Try.func66 rfl (Nat.le_of_ble_eq_true rfl) rfl ?_
  repeat' ((conv => whnf); (first | (refine LetN.pre ?_; first | ((conv => arg 1; whnf); refine LetN.mk ?_)) | (refine As.pre ?_; first | refine As.mk rfl ?_) | (refine LetV.pre ?_; first | refine LetV.mk (.sc (.int _ _)) rfl ?_ | refine LetV.mk (.agg _) rfl ?_) | (refine LetB.pre ?_; first | refine LetB.tt rfl ?_ | refine LetB.ff rfl ?_ | (refine LetB.dec (fun _ => ?_) (fun _ => ?_))) | (refine Gd.pre ?_; first | refine Gd.run rfl ?_ | refine Gd.pass rfl ?_) | (refine Ck.pre ?_; first | refine Ck.mk rfl ?_) | (refine CallN.pre ?_; first | refine CallN.dec (Right_f s _) rfl (fun _ => ?_) (fun _ => ?_))))
  all_goals (refine ⟨by first | exact .inl rfl | exact .inr rfl, ⟨_, rfl, congrArg (fun b => Go.Proofs.Ytnegdmjmllmclaa.Am.AV.sc (Go.Value.bool b)) (by first | exact (decide_eq_true (by omega)).symm | exact (decide_eq_false (by omega)).symm | exact Bool.eq_iff_iff.2 (by simp only [decide_eq_true_eq, decide_eq_false_iff_not]; omega) | rfl)⟩, trivial⟩)
theorem refReaches_f (s : Scl) (g m : Int) : AFun Try.prog 79 0 [scA s, int g, int m] [] (bool (decide (rea s g m))) [] := by
  refine AFun.of_W T_ok mixed Try.func79 rfl (Nat.le_of_ble_eq_true rfl) rfl ?_
  repeat' ((conv => whnf); (first | (refine LetN.pre ?_; first | ((conv => arg 1; whnf); refine LetN.mk ?_)) | (refine As.pre ?_; first | refine As.mk rfl ?_) | (refine LetV.pre ?_; first | refine LetV.mk (.sc (.int _ _)) rfl ?_ | refine LetV.mk (.agg _) rfl ?_) | (refine LetB.pre ?_; first | (refine LetB.dec (fun _ => ?_) (fun _ => ?_))) | (refine Br.pre ?_; first | refine Br.tt rfl ?_ | refine Br.ff rfl ?_) | (refine Ck.pre ?_; first | refine Ck.mk rfl ?_) | (refine CallN.pre ?_; first | refine CallN.dec (refRight_f s _) rfl (fun _ => ?_) (fun _ => ?_))))
  all_goals (refine ⟨by first | exact .inl rfl | exact .inr rfl, ⟨_, rfl, congrArg (fun b => Go.Proofs.Ytnegdmjmllmclaa.Am.AV.sc (Go.Value.bool b)) (by first | exact (decide_eq_true (by omega)).symm | exact (decide_eq_false (by omega)).symm | exact Bool.eq_iff_iff.2 (by simp only [decide_eq_true_eq, decide_eq_false_iff_not]; omega) | rfl)⟩, trivial⟩)
theorem Passed_f (s : Scl) (g : Int) : AFun Try.prog 39 0 [scA s, int g] [] (bool (decide (rea s g s.2.2))) [] := by
  refine AFun.of_W T_ok mixed Try.func39 rfl (Nat.le_of_ble_eq_true rfl) rfl ?_
  repeat' ((conv => whnf); (first | (refine LetN.pre ?_; first | ((conv => arg 1; whnf); refine LetN.mk ?_)) | (refine As.pre ?_; first | refine As.mk rfl ?_) | (refine LetV.pre ?_; first | refine LetV.mk (.sc (.int _ _)) rfl ?_ | refine LetV.mk (.agg _) rfl ?_) | (refine Ck.pre ?_; first | refine Ck.mk rfl ?_) | (refine CallN.pre ?_; first | refine CallN.pure (Reaches_f s _ _) rfl rfl ?_)))
  all_goals (refine ⟨by first | exact .inl rfl | exact .inr rfl, ⟨_, rfl, congrArg (fun b => Go.Proofs.Ytnegdmjmllmclaa.Am.AV.sc (Go.Value.bool b)) (by first | exact (decide_eq_true (by omega)).symm | exact (decide_eq_false (by omega)).symm | exact Bool.eq_iff_iff.2 (by simp only [decide_eq_true_eq, decide_eq_false_iff_not]; omega) | rfl)⟩, trivial⟩)
theorem refPassed_f (s : Scl) (g : Int) : AFun Try.prog 63 0 [scA s, int g] [] (bool (decide (rea s g s.2.2))) [] := by
  refine AFun.of_W T_ok mixed Try.func63 rfl (Nat.le_of_ble_eq_true rfl) rfl ?_
  repeat' ((conv => whnf); (first | (refine LetN.pre ?_; first | ((conv => arg 1; whnf); refine LetN.mk ?_)) | (refine As.pre ?_; first | refine As.mk rfl ?_) | (refine LetV.pre ?_; first | refine LetV.mk (.sc (.int _ _)) rfl ?_ | refine LetV.mk (.agg _) rfl ?_) | (refine Ck.pre ?_; first | refine Ck.mk rfl ?_) | (refine CallN.pre ?_; first | refine CallN.pure (refReaches_f s _ _) rfl rfl ?_)))
  all_goals (refine ⟨by first | exact .inl rfl | exact .inr rfl, ⟨_, rfl, congrArg (fun b => Go.Proofs.Ytnegdmjmllmclaa.Am.AV.sc (Go.Value.bool b)) (by first | exact (decide_eq_true (by omega)).symm | exact (decide_eq_false (by omega)).symm | exact Bool.eq_iff_iff.2 (by simp only [decide_eq_true_eq, decide_eq_false_iff_not]; omega) | rfl)⟩, trivial⟩)
end Sc
end Go.Proofs.Ytnegdmjmllmclaa
namespace Go.Proofs.Ytnegdmjmllmclaa
open Go.Proofs.Ytnegdmjmllmclaa.Am
set_option maxRecDepth 100000
namespace En
/-! ### Numbers that are drawn -/
abbrev dty : TypeId := 98
abbrev drawB (fl : Fl) (xs : List Int) (at_ : Nat) : Blk := .row 2 dty [.agg [.ro fl 1 (xs.map int), int at_]]
def dv (xs : List Int) (at_ : Nat) (most : Int) : Int := if at_ < xs.length then ((xs.getD at_ 0).tmod most + most).tmod most else 0
def da (xs : List Int) (at_ : Nat) : Nat := if at_ < xs.length then at_ + 1 else at_
theorem dv_range (xs : List Int) (at_ : Nat) {most : Int} (h : 0 < most) : 0 ≤ dv xs at_ most ∧ dv xs at_ most < most := by
  unfold dv
  split
  · have h1 := tmod_bound (xs.getD at_ 0) h
    rw [Int.tmod_eq_emod_of_nonneg (by omega)]
    exact ⟨Int.emod_nonneg _ (by omega), Int.emod_lt_of_pos _ h⟩
  · omega
theorem da_le {xs : List Int} {at_ : Nat} (h : at_ ≤ xs.length) : da xs at_ ≤ xs.length := by
  unfold da; split <;> omega
theorem Mod_f (x m : Int) (h : 0 < m ∧ m ≤ 1000000) : AFun Try.prog 11 0 [int x, int m] [] (int ((x.tmod m + m).tmod m)) [] := by
  refine AFun.of_W T_ok mixed Try.func11 rfl (Nat.le_of_ble_eq_true rfl) rfl ?_
  have hnz : (m != 0) = true := by simp; omega
  have hb := tmod_bound x h.1
  ((repeat ((conv => whnf); (first | (refine As.pre ?_; first | refine As.mk rfl ?_ | refine As.mk hnz ?_) | (refine LetI.pre ?_; first | refine LetI.wrap (by omega) (by omega) ?_ | refine LetI.mk _ rfl ?_) | (refine Ck.pre ?_; first | refine Ck.mk rfl ?_)))); (try (conv => whnf)))
  exact ⟨.inl rfl, ⟨_, rfl, rfl⟩, trivial⟩
theorem Next_f (fl : Fl) (xs : List Int) (at_ : Nat) (most : Int) (hl : xs.length ≤ 9223372036854775807) (ha : at_ ≤ xs.length) (hm : 0 < most ∧ most ≤ 1000000) :
    AFun Try.prog 50 1 [.ptr 0 2 0 0, int most] [(0, drawB fl xs at_)] (int (dv xs at_ most)) [(0, drawB fl xs (da xs at_))] := by
  refine AFun.of_W T_ok mixed Try.func50 rfl (Nat.le_of_ble_eq_true rfl) rfl ?_
  have hml : (xs.map int).length = xs.length := List.length_map _
  have hnz : (most != 0) = true := by simp; omega
  unfold dv da
  by_cases hlt : at_ < xs.length
  · rw [if_pos hlt, if_pos hlt]
    have hld : int (xs.getD at_ 0) = (xs.map int).getD at_ (.sc undef) := mapD 0 hlt
    have hld2 : int (xs.getD at_ 0) = (xs.map int).getD ((at_ : Int) + 1 - 1).toNat (.sc undef) := by rw [show ((at_ : Int) + 1 - 1).toNat = at_ by omega]; exact hld
    generalize xs.getD at_ 0 = x at hld hld2 ⊢
    have hM := Mod_f x most hm
    ((repeat ((conv => whnf); (first | (refine LetN.pre ?_; first | ((conv => arg 1; whnf); refine LetN.mk ?_)) | (refine As.pre ?_; first | refine As.mk rfl ?_ | (refine As.mk ?_ ?_; · ((repeat' (refine andT ?_ ?_)) <;> (first | rfl | assumption | exact decide_eq_true (by omega) | exact decide_eq_true (by dsimp only; omega) | exact decide_eq_true (by simp; omega) | (simp; done))))) | (refine LetV.pre ?_; first | refine LetV.mk (t := 22) _ hld2 ?_ | refine LetV.mk (.sc (.int _ _)) rfl ?_ | refine LetV.mk (.ro _ _ _) rfl ?_) | (refine LetI.pre ?_; first | refine LetI.wrap (by omega) (by omega) ?_ | refine LetI.mk _ rfl ?_) | (refine LetB.pre ?_; first | refine LetB.decf (by omega) ?_) | (refine Br.pre ?_; first | refine Br.ff rfl ?_) | (refine Ck.pre ?_; first | refine Ck.drawn (by kernel_rfl) ?_ | refine Ck.mk rfl ?_) | (refine LetL.pre ?_; first | refine LetL.mk [_] rfl ?_) | (refine CallN.pre ?_; first | refine CallN.pure hM rfl rfl ?_)))); (try (conv => whnf)))



    exact ⟨.inl rfl, ⟨_, rfl, rfl⟩, rfl, trivial⟩
  · rw [if_neg hlt, if_neg hlt]
    ((repeat ((conv => whnf); (first | (refine As.pre ?_; first | refine As.mk rfl ?_) | (refine LetV.pre ?_; first | refine LetV.mk (.sc (.int _ _)) rfl ?_ | refine LetV.mk (.ro _ _ _) rfl ?_) | (refine LetI.pre ?_; first | refine LetI.mk _ rfl ?_) | (refine LetB.pre ?_; first | refine LetB.dect (by omega) ?_) | (refine Br.pre ?_; first | refine Br.tt rfl ?_) | (refine Ck.pre ?_; first | refine Ck.drawn (by kernel_rfl) ?_ | refine Ck.mk rfl ?_)))); (try (conv => whnf)))
    exact ⟨.inl rfl, ⟨_, rfl, rfl⟩, rfl, trivial⟩
def codesL : List ByteArray := [⟨#[65, 49]⟩, ⟨#[66, 49]⟩, ⟨#[66, 50]⟩, ⟨#[67, 49]⟩, ⟨#[68, 49]⟩, ⟨#[69, 57]⟩]
theorem Codes_f : AFun Try.prog 52 0 [] [] (.ro ⟨true, true⟩ 1 (codesL.map str)) [] := AFun.of_ev T_ok mixed 20 (by kernel_rfl)
abbrev iA (x : Fl × List Int) : AV := .ro x.1 1 (x.2.map int)
abbrev L0 : Fl × List Int := ({}, [])
theorem codes_get (n : Int) (h : 0 ≤ n ∧ n < 6) : ∃ s : ByteArray, s.size ≤ 2 ∧ str s = (codesL.map str).getD n.toNat (.sc undef) := by
  obtain ⟨m, rfl⟩ : ∃ m : Nat, n = m := ⟨n.toNat, by omega⟩
  have : m = 0 ∨ m = 1 ∨ m = 2 ∨ m = 3 ∨ m = 4 ∨ m = 5 := by omega
  rcases this with rfl | rfl | rfl | rfl | rfl | rfl <;> exact ⟨_, by decide, rfl⟩
theorem made_next (fl : Fl) (xs : List Int) (hl : xs.length ≤ 9223372036854775807) (at_ : Nat) (most : Int) (ha : at_ ≤ xs.length) (hm : 0 < most ∧ most ≤ 1000000) : ∃ v a, (0 ≤ v ∧ v < most) ∧ a ≤ xs.length ∧
    AFun Try.prog 50 1 [.ptr 0 2 0 0, int most] [(0, drawB fl xs at_)] (int v) [(0, drawB fl xs a)] :=
  ⟨_, _, dv_range xs at_ hm.1, da_le ha, Next_f fl xs at_ most hl ha hm⟩
theorem AFun.of_SE {P : Program} {T : TT} (hT : T.Ok P) {p : Nat} (hm : P.follows .mixedOrders = true) {f : FuncId} {fn : Func} {c : Code} {vs : List AV} {H : AH} {α : Type} {I : α → Prop} {v : α → AV} {H' : α → AH} (hf : P.funcs[f]? = some fn) (hb : fn.body = some c) (hn : vs.length ≤ fn.ntmps) (hB : H.all (fun x => decide (x.1 < p)) = true)
    (h : V P T p fn.ntmps c ⟨argFr vs 0, H, p⟩ (fun e s => ∃ x, I x ∧ FinS T fn p (v x) (H' x) e s)) : ∃ x, I x ∧ AFun P f p vs H (v x) (H' x) := by
  obtain ⟨e, s', h1, _, x, hI, s2, hw, he, ⟨rv, hr, hv⟩, hH⟩ := V_sound hT hm c _ _ h (HB.of_all hB)
  exact ⟨x, hI, (AFun.of_body hT hf hb hn he (h1.post hw) hr hv rfl).forget hH.get⟩
end En
end Go.Proofs.Ytnegdmjmllmclaa
namespace Go.Proofs.Ytnegdmjmllmclaa
open Go.Proofs.Ytnegdmjmllmclaa.Am
set_option maxRecDepth 100000
namespace En
/-! ### Made entries (of the chapter 10) -/
def onP (l : List E) (id : Int) : Int := match l.find? (fun e => decide (e.id = id)) with
  | some e => e.on_
  | none => 0
theorem onP_drop {l : List E} {k : Nat} (id : Int) (h : k < l.length) : onP (l.drop k) id = if (l.getD k e0).id = id then (l.getD k e0).on_ else onP (l.drop (k + 1)) id := by
  rw [List.drop_eq_getElem_cons h, onP, List.find?_cons, List.getD_eq_getElem?_getD, List.getElem?_eq_getElem h]
  simp only [Option.getD_some]
  by_cases hc : l[k].id = id
  · rw [decide_eq_true hc, if_pos hc]
  · rw [decide_eq_false hc, if_neg hc]; rfl
theorem ld_en {l : List E} {k : Nat} (h : k < l.length) : en (l.getD k e0) = (l.map en).getD k (.sc undef) := mapD e0 h
set_option maxRecDepth 100000 in
theorem on_f (l : List E) (id : Int) (fl : Fl) (hl : l.length ≤ 1000) : AFun Try.prog 53 0 [.ro fl 15 (l.map en), int id] [] (int (onP l id)) [] := by
  refine AFun.of_W T_ok mixed Try.func53 rfl (Nat.le_of_ble_eq_true rfl) rfl ?_
  have hm : (l.map en).length = l.length := List.length_map _
  ((repeat ((conv => whnf); (first | (refine As.pre ?_; first | refine As.mk rfl ?_) | (refine Ck.pre ?_; first | refine Ck.mk rfl ?_)))); (try (conv => whnf)))
  refine LoopN.weak (s1 := ⟨[(0, .ro fl 15 (l.map en)), (1, int id), (5, int (0 : Nat))], [], 0⟩) (SW.fr0 (Nat.le_refl _) rfl ⟨.refl _, .refl _, .refl _, trivial⟩) ?_
  refine LoopN.ind T_ok mixed (S := fun k : Nat => ⟨[(0, .ro fl 15 (l.map en)), (1, int id), (5, int k)], [], 0⟩) (fun k => l.length - k) (fun k => k ≤ l.length ∧ onP l id = onP (l.drop k) id) (fun _ => rfl) (fun k hk ih => ?_) 0 ⟨Nat.zero_le _, rfl⟩
  obtain ⟨h1, h2⟩ := hk
  by_cases hlt : k < l.length
  case neg =>
    rw [List.drop_eq_nil_of_le (by omega)] at h2
    rw [h2]
    clear ih
    ((repeat ((conv => whnf); (first | (refine As.pre ?_; first | refine As.mk rfl ?_) | (refine LetI.pre ?_; first | refine LetI.mk _ rfl ?_) | (refine LetB.pre ?_; first | refine LetB.decf (by omega) ?_) | (refine Br.pre ?_; first | refine Br.ff rfl ?_) | (refine Ck.pre ?_; first | refine Ck.mk rfl ?_)))); (try (conv => whnf)))
    exact ⟨.inl rfl, ⟨_, rfl, rfl⟩, trivial⟩
  have hld := ld_en hlt
  rw [onP_drop id hlt] at h2
  generalize l.getD k e0 = e at hld h2
  by_cases hc : e.id = id
  · rw [if_pos hc] at h2
    rw [h2]
    clear ih
    ((repeat ((conv => whnf); (first | (refine As.pre ?_; first | refine As.mk rfl ?_ | (refine As.mk ?_ ?_; · ((repeat' (refine andT ?_ ?_)) <;> (first | rfl | assumption | exact decide_eq_true (by omega) | exact decide_eq_true (by dsimp only; omega) | exact decide_eq_true (by simp; omega) | (simp; done))))) | (refine LetV.pre ?_; first | refine LetV.mk (t := 27) _ hld ?_ | refine LetV.mk (.sc (.int _ _)) rfl ?_) | (refine LetI.pre ?_; first | refine LetI.mk _ rfl ?_) | (refine LetB.pre ?_; first | refine LetB.dect (by omega) ?_) | (refine Br.pre ?_; first | refine Br.tt rfl ?_) | (refine Ck.pre ?_; first | refine Ck.mk rfl ?_)))); (try (conv => whnf)))
    exact ⟨.inl rfl, ⟨_, rfl, rfl⟩, trivial⟩
  · rw [if_neg hc] at h2
    have hnx := ih (k + 1) ⟨by omega, h2⟩ (by omega)
    clear ih
    ((repeat ((conv => whnf); (first | (refine As.pre ?_; first | refine As.mk rfl ?_ | (refine As.mk ?_ ?_; · ((repeat' (refine andT ?_ ?_)) <;> (first | rfl | assumption | exact decide_eq_true (by omega) | exact decide_eq_true (by dsimp only; omega) | exact decide_eq_true (by simp; omega) | (simp; done))))) | (refine LetV.pre ?_; first | refine LetV.mk (t := 27) _ hld ?_ | refine LetV.mk (.sc (.int _ _)) rfl ?_) | (refine LetI.pre ?_; first | refine LetI.wrap (by omega) (by omega) ?_ | refine LetI.mk _ rfl ?_) | (refine LetB.pre ?_; first | refine LetB.dect (by omega) ?_ | refine LetB.decf (by omega) ?_) | (refine Br.pre ?_; first | refine Br.tt rfl ?_ | refine Br.ff rfl ?_) | (refine Ck.pre ?_; first | refine Ck.mk rfl ?_)))); (try (conv => whnf)))
    refine LoopN.weak ?_ hnx
    exact SW.fr0 (Nat.le_refl _) rfl ⟨.refl _, .refl _, VLe2.int (by omega), trivial⟩
abbrev pkS (l : List E) (fl : Fl) (st kd n : Int) : Nat × List Int → AS
  | (k, ids) => ⟨[(0, .ro fl 15 (l.map en)), (1, int st), (2, int kd), (3, int n), (9, .slm {} 0 1 0 ids.length), (10, int k)], [(0, .row 1 3 (ids.map int))], 1⟩
theorem room_int {n : Nat} (h : n ≤ 1000000) : room n 8 = true := by
  simp only [room, Bool.and_eq_true, decide_eq_true_eq]
  exact ⟨by omega, rfl⟩
theorem pure_int : ∀ l : List Int, AV.namesL (fun _ => false) (l.map int) = true
  | [] => rfl
  | p :: l => by simp only [List.map_cons, AV.namesL, pure_int l]; rfl
theorem app_intL (l : List Int) (e : Int) (n : Nat) (h : n = l.length) : (l ++ [e]).map int = (l.map int).take n ++ [int e] := by rw [List.take_of_length_le (by simp [h]), List.map_append]; rfl
set_option maxHeartbeats 1600000 in
set_option maxRecDepth 100000 in
/-- The Id of one of the entries of a student and a kind, or 0. -/
theorem pick_f (l : List E) (st kd n : Int) (fl : Fl) (hl : l.length ≤ 1000) (hn : 0 ≤ n) : ∃ r : Int, (r = 0 ∧ (∀ e ∈ l, ¬(e.student = st ∧ e.kind = kd)) ∨ ∃ e ∈ l, e.student = st ∧ e.kind = kd ∧ e.id = r) ∧
    AFun Try.prog 51 0 [.ro fl 15 (l.map en), int st, int kd, int n] [] (int r) [] := by
  refine AFun.of_SE T_ok mixed (H' := fun _ => []) (v := fun r : Int => int r) Try.func51 rfl (Nat.le_of_ble_eq_true rfl) rfl ?_
  have hm : (l.map en).length = l.length := List.length_map _
  ((repeat ((conv => whnf); (first | (refine As.pre ?_; first | refine As.mk rfl ?_) | (refine Ck.pre ?_; first | refine Ck.mk rfl ?_)))); (try (conv => whnf)))
  refine LoopN.weak (s1 := pkS l fl st kd n (0, [])) ?sw1 ?_
  case sw1 => exact SW.mk id rfl rfl rfl ⟨.refl _, .refl _, .refl _, .refl _, VLe2.nilslm, .refl _, trivial⟩ (haveV.nil (Nat.le_of_ble_eq_true rfl) trivial)
  refine LoopN.ind T_ok mixed (S := pkS l fl st kd n) (fun i => l.length - i.1) (fun i => i.1 ≤ l.length ∧ i.2.length ≤ i.1 ∧ (∀ r ∈ i.2, ∃ e ∈ l, e.student = st ∧ e.kind = kd ∧ e.id = r) ∧ (i.2 = [] → ∀ e ∈ l.take i.1, ¬(e.student = st ∧ e.kind = kd))) (fun _ => rfl) (fun i hi ih => ?_) (0, []) ⟨Nat.zero_le _, Nat.zero_le _, fun _ h => absurd h List.not_mem_nil, fun _ _ h => absurd h List.not_mem_nil⟩
  obtain ⟨k, ids⟩ := i
  obtain ⟨h1, h2, h3, h4⟩ := hi
  simp only at h1 h2 h3 h4
  have hmi : (ids.map int).length = ids.length := List.length_map _
  by_cases hlt : k < l.length
  case neg =>
    clear ih
    rw [List.take_of_length_le (by omega)] at h4
    by_cases h0 : ids.length = 0
    · have hnil : ids = [] := List.eq_nil_of_length_eq_zero h0
      subst hnil
      ((repeat ((conv => whnf); (first | (refine As.pre ?_; first | refine As.mk rfl ?_) | (refine LetI.pre ?_; first | refine LetI.mk _ rfl ?_) | (refine LetB.pre ?_; first | refine LetB.tt rfl ?_ | refine LetB.decf (by omega) ?_) | (refine Br.pre ?_; first | refine Br.tt rfl ?_ | refine Br.ff rfl ?_) | (refine Ck.pre ?_; first | refine Ck.mk rfl ?_)))); (try (conv => whnf)))
      exact ⟨0, .inl ⟨rfl, h4 rfl⟩, ⟨[(8, int 0)], [], 1⟩, SW.mk id rfl rfl rfl ⟨.refl _, trivial⟩ trivial, .inl rfl, ⟨_, rfl, rfl⟩, trivial⟩
    obtain ⟨j, hj, hjj⟩ : ∃ j : Nat, j < ids.length ∧ (j : Int) = n.tmod (ids.length : Int) := by
      have a1 := Int.tmod_nonneg (ids.length : Int) hn
      have a2 := Int.tmod_lt_of_pos n (b := (ids.length : Int)) (by omega)
      exact ⟨(n.tmod (ids.length : Int)).toNat, by omega, by omega⟩
    have hnz : ((ids.length : Int) != 0) = true := bne_iff_ne.2 (by omega)
    have hv : int (ids.getD j 0) = Am.part false 1 0 1 ((ids.map int).getD (0 + j) (.sc undef)) := by
      rw [Nat.zero_add, ← mapD (f := int) (0 : Int) hj]; rfl
    have hv2 : int (ids.getD j 0) = (ids.map int).getD (0 + j) (.sc undef) := by rw [Nat.zero_add]; exact mapD 0 hj
    have hr := h3 (ids.getD j 0) (by rw [List.getD_eq_getElem?_getD, List.getElem?_eq_getElem hj]; exact List.getElem_mem _)
    generalize ids.getD j 0 = r at hv hv2 hr
    clear h3 h4
    ((repeat ((conv => whnf); (first | (refine As.pre ?_; first | refine As.mk rfl ?_ | refine As.mk hnz ?_ | (refine As.mk ?_ ?_; · ((repeat' (refine andT ?_ ?_)) <;> (first | rfl | assumption | exact decide_eq_true (by omega) | exact decide_eq_true (by dsimp only; omega) | exact decide_eq_true (by simp; omega) | (simp; done))))) | (refine LetV.pre ?_; first | refine LetV.mk (t := 3) _ hv ?_) | (refine LetI.pre ?_; first | refine LetI.mk (o := some .rem) (j : Int) hjj ?_ | refine LetI.mk _ rfl ?_) | (refine LetB.pre ?_; first | refine LetB.decf (by omega) ?_) | (refine Br.pre ?_; first | refine Br.ff rfl ?_) | (refine Ck.pre ?_; first | refine Ck.mk rfl ?_)))); (try (conv => whnf)))




    exact ⟨r, .inr hr, ⟨[(8, int r)], [], 1⟩, SW.mk id rfl rfl rfl ⟨.refl _, trivial⟩ trivial, .inl rfl, ⟨_, rfl, rfl⟩, trivial⟩
  have hld := ld_en hlt
  have hmem := getD_mem' hlt
  have htk : ∀ x, x ∈ l.take (k + 1) → x ∈ l.take k ∨ x = l.getD k e0 := fun x hx => by
    rw [List.take_succ_eq_append_getElem hlt] at hx
    rcases List.mem_append.1 hx with h | h
    · exact .inl h
    · rw [List.mem_singleton.1 h, List.getD_eq_getElem?_getD, List.getElem?_eq_getElem hlt]; exact .inr rfl
  generalize l.getD k e0 = e at hld hmem htk
  by_cases hs : e.student = st
  · by_cases hk : e.kind = kd
    · have hr := room_int (n := ids.length + 1) (by omega)
      have happ := app_intL ids e.id ids.length rfl
      have hnx := ih (k + 1, ids ++ [e.id]) ⟨by omega, by simp; omega, fun r hr => by
        rcases List.mem_append.1 hr with h | h
        · exact h3 r h
        · exact ⟨e, hmem, hs, hk, (List.mem_singleton.1 h).symm⟩, fun h => by simp at h⟩ (by show l.length - (k + 1) < l.length - k; omega)
      clear ih h3 h4 htk
      ((repeat ((conv => whnf); (first | (refine LetN.pre ?_; first | ((conv => arg 1; whnf); refine LetN.mk ?_)) | (refine As.pre ?_; first | refine As.mk rfl ?_ | (refine As.mk ?_ ?_; · ((repeat' (refine andT ?_ ?_)) <;> (first | rfl | assumption | exact decide_eq_true (by omega) | exact decide_eq_true (by dsimp only; omega) | exact decide_eq_true (by simp; omega) | (simp; done))))) | (refine LetV.pre ?_; first | refine LetV.mk (t := 27) _ hld ?_ | refine LetV.mk (.sc (.int _ _)) rfl ?_) | (refine LetI.pre ?_; first | refine LetI.wrap (by omega) (by omega) ?_ | refine LetI.mk _ rfl ?_) | (refine LetB.pre ?_; first | refine LetB.dect (by omega) ?_) | (refine Gd.pre ?_; first | refine Gd.run rfl ?_) | (refine Br.pre ?_; first | refine Br.tt rfl ?_) | (refine Ck.pre ?_; first | refine Ck.mk rfl ?_) | (refine LetL.pre ?_; first | refine LetL.mk (ty := 3) _ happ ?_)))); (try (conv => whnf)))


      refine LoopN.weak ?sw2 hnx
      case sw2 => exact SW.mk (fun _ => 1) rfl rfl (namesAll.row (pure_int _) rfl) ⟨.refl _, .refl _, .refl _, .refl _, VLe2.slm_of (by simp), VLe2.int (by omega), trivial⟩ (haveV.row (pure_int _) rfl trivial)
    · have hnx := ih (k + 1, ids) ⟨by omega, by show ids.length ≤ k + 1; omega, h3, fun h x hx hh => by
        rcases htk x hx with hc | hc
        · exact h4 h x hc hh
        · rw [hc] at hh; exact hk hh.2⟩ (by show l.length - (k + 1) < l.length - k; omega)
      clear ih h3 h4 htk
      ((repeat ((conv => whnf); (first | (refine As.pre ?_; first | refine As.mk rfl ?_ | (refine As.mk ?_ ?_; · ((repeat' (refine andT ?_ ?_)) <;> (first | rfl | assumption | exact decide_eq_true (by omega) | exact decide_eq_true (by dsimp only; omega) | exact decide_eq_true (by simp; omega) | (simp; done))))) | (refine LetV.pre ?_; first | refine LetV.mk (t := 27) _ hld ?_ | refine LetV.mk (.sc (.int _ _)) rfl ?_) | (refine LetI.pre ?_; first | refine LetI.wrap (by omega) (by omega) ?_ | refine LetI.mk _ rfl ?_) | (refine LetB.pre ?_; first | refine LetB.dect (by omega) ?_ | refine LetB.decf (by omega) ?_) | (refine Gd.pre ?_; first | refine Gd.run rfl ?_) | (refine Br.pre ?_; first | refine Br.tt rfl ?_ | refine Br.ff rfl ?_) | (refine Ck.pre ?_; first | refine Ck.mk rfl ?_)))); (try (conv => whnf)))
      refine LoopN.weak ?sw3 hnx
      case sw3 => exact SW.mk id rfl rfl (namesAll.row (pure_int _) rfl) ⟨.refl _, .refl _, .refl _, .refl _, .refl _, VLe2.int (by omega), trivial⟩ (haveV.row (pure_int _) rfl trivial)
  · have hnx := ih (k + 1, ids) ⟨by omega, by show ids.length ≤ k + 1; omega, h3, fun h x hx hh => by
      rcases htk x hx with hc | hc
      · exact h4 h x hc hh
      · rw [hc] at hh; exact hs hh.1⟩ (by show l.length - (k + 1) < l.length - k; omega)
    clear ih h3 h4 htk
    ((repeat ((conv => whnf); (first | (refine As.pre ?_; first | refine As.mk rfl ?_ | (refine As.mk ?_ ?_; · ((repeat' (refine andT ?_ ?_)) <;> (first | rfl | assumption | exact decide_eq_true (by omega) | exact decide_eq_true (by dsimp only; omega) | exact decide_eq_true (by simp; omega) | (simp; done))))) | (refine LetV.pre ?_; first | refine LetV.mk (t := 27) _ hld ?_ | refine LetV.mk (.sc (.int _ _)) rfl ?_) | (refine LetI.pre ?_; first | refine LetI.wrap (by omega) (by omega) ?_ | refine LetI.mk _ rfl ?_) | (refine LetB.pre ?_; first | refine LetB.dect (by omega) ?_ | refine LetB.decf (by omega) ?_) | (refine Gd.pre ?_; first | refine Gd.pass rfl ?_) | (refine Br.pre ?_; first | refine Br.tt rfl ?_ | refine Br.ff rfl ?_) | (refine Ck.pre ?_; first | refine Ck.mk rfl ?_)))); (try (conv => whnf)))
    refine LoopN.weak ?sw4 hnx
    case sw4 => exact SW.mk id rfl rfl (namesAll.row (pure_int _) rfl) ⟨.refl _, .refl _, .refl _, .refl _, .refl _, VLe2.int (by omega), trivial⟩ (haveV.row (pure_int _) rfl trivial)
end En
end Go.Proofs.Ytnegdmjmllmclaa
