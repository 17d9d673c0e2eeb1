/- appealZD: parts of the proof, DappealZDFE DappealZDFF DappealZDFG DappealZDFH DappealZDFI DappealZDFJ DappealZDFK DappealZDFL DappealZDFM DappealZDFN DappealZDFO DappealZDFP. -/
import Derived.Test.YtgnakhljdjekbaaGreatDoorL42
import Derived.Shelf.GgClosure.StringsIndexFunc
set_option linter.all false
namespace Go.Proofs.YtgnakhljdjekbaaGreatDoor
open Go.Proofs.YtgnakhljdjekbaaGreatDoor.Am
set_option maxRecDepth 100000
namespace En
/-! ### The stable sort of a list of less than 40 entries -/
def eqv {α : Type} (lt : α → α → Bool) (a x : α) : Bool := !lt a x && !lt x a
theorem eq_cls {α : Type} {lt : α → α → Bool} (ho : Ord lt) : ∀ (X Y : List α), Sorted lt X → Sorted lt Y → (∀ a, X.filter (eqv lt a) = Y.filter (eqv lt a)) → X = Y := by
  have irr : ∀ x, eqv lt x x = true := fun x => by
    have : lt x x = false := by
      cases h : lt x x with
      | false => rfl
      | true => have := ho.asym _ _ h; rw [h] at this; cases this
    simp [eqv, this]
  intro X
  induction X with
  | nil =>
    intro Y _ _ h
    cases Y with
    | nil => rfl
    | cons y Y => have := h y; rw [List.filter_cons, irr] at this; simp at this
  | cons x X ih =>
    intro Y hX hY h
    cases Y with
    | nil => have := h x; rw [List.filter_cons, irr] at this; simp at this
    | cons y Y =>
      obtain ⟨hX1, hX2⟩ := List.pairwise_cons.1 hX
      obtain ⟨hY1, hY2⟩ := List.pairwise_cons.1 hY
      have mx : x ∈ y :: Y := by
        have : x ∈ (x :: X).filter (eqv lt x) := List.mem_filter.2 ⟨List.mem_cons_self .., irr x⟩
        rw [h x] at this
        exact (List.mem_filter.1 this).1
      have my : y ∈ x :: X := by
        have : y ∈ (y :: Y).filter (eqv lt y) := List.mem_filter.2 ⟨List.mem_cons_self .., irr y⟩
        rw [← h y] at this
        exact (List.mem_filter.1 this).1
      have hxy : x = y := by
        rcases List.mem_cons.1 mx with k | k
        · exact k
        rcases List.mem_cons.1 my with k' | k'
        · exact k'.symm
        have h1 := hY1 x k
        have h2 := hX1 y k'
        have h0 := h x
        rw [List.filter_cons, List.filter_cons, irr, show eqv lt x y = true by simp [eqv, h1, h2]] at h0
        simp only [if_true, List.cons.injEq] at h0
        exact h0.1
      subst hxy
      congr 1
      refine ih Y hX2 hY2 fun a => ?_
      have h1 := h a
      rw [List.filter_cons, List.filter_cons] at h1
      split at h1
      · exact (List.cons.inj h1).2
      · exact h1
theorem S_cls {α : Type} {lt : α → α → Bool} (ho : Ord lt) (a : α) (l : List α) : sortS lt (l.filter (eqv lt a)) = l.filter (eqv lt a) := by
  have key : ∀ m : List α, (∀ x ∈ m, eqv lt a x = true) → Sorted lt m := by
    intro m
    induction m with
    | nil => intro _; exact List.Pairwise.nil
    | cons x m ih =>
      intro h
      refine List.pairwise_cons.2 ⟨fun y hy => ?_, ih fun y hy => h y (List.mem_cons_of_mem _ hy)⟩
      have h1 := h x (List.mem_cons_self ..)
      have h2 := h y (List.mem_cons_of_mem _ hy)
      simp only [eqv, Bool.and_eq_true, Bool.not_eq_true'] at h1 h2
      exact ho.trans _ _ _ h2.2 h1.1
  exact S_id (key _ fun x hx => (List.mem_filter.1 hx).2)
theorem S_two {α : Type} {lt : α → α → Bool} (ho : Ord lt) (A B : List α) : sortS lt (sortS lt A ++ sortS lt B) = sortS lt (A ++ B) := by
  refine eq_cls ho _ _ (S_sorted ho _) (S_sorted ho _) fun a => ?_
  rw [S_filter ho, S_filter ho, List.filter_append, List.filter_append, S_filter ho, S_filter ho, S_cls ho, S_cls ho, ← List.filter_append, S_cls ho]
theorem rowOk1 (l l' : List E) (vs : List AV) (v : AV) (hv : AV.namesL (fun i => decide (i < 1)) vs = true) (hv2 : v.names (fun i => decide (i < 1) || [0].contains i) = true) (he : AV.renL id vs = vs) : CallOk 1 id vs [(0, .row 15 ety (l.map en))] v [(0, .row 15 ety (l'.map en))] [(0, .row 15 ety (l.map en))] vs :=
  CallOk.mk' rfl he.symm hv (namesAll.row (pure_en _) rfl) hv2 (namesAll.row (pure_en _) rfl) (haveAll.row (pure_en _) rfl trivial)
set_option maxRecDepth 100000 in
theorem stable_f (o : Bool) (l : List E) (fl : Fl) (hl : l.length < 40) : AFun Tryz.prog 90 1 [.slm fl 0 15 0 l.length, int l.length, cmpV o] [(0, .row 15 ety (l.map en))] (.tup []) [(0, .row 15 ety ((srt o l).map en))] := by
  refine AFun.of_S T_ok mixed Tryz.func90 rfl (Nat.le_of_ble_eq_true rfl) rfl ?_
  rw [srt_S]
  by_cases hs : l.length < 20
  · have hi := insertion_r o [] l [] l l.length 0 l.length fl (by simp) rfl (by simp) rfl (by omega)
    rw [List.nil_append, List.append_nil] at hi
    have ok := rowOkE l (sortS (ltE o) l) [.slm fl 0 15 0 l.length, int (0 : Nat), int l.length, cmpV o] (.tup []) rfl rfl rfl
    generalize sortS (ltE o) l = R at hi ok ⊢
    ((repeat ((conv => whnf); (first | (refine As.pre ?_; first | refine As.mk rfl ?_) | (refine Ck.pre ?_; first | refine Ck.mk rfl ?_)))); (try (conv => whnf)))
    refine LoopN.round T_ok mixed rfl ?_
    ((repeat ((conv => whnf); (first | (refine LetN.pre ?_; first | ((conv => arg 1; whnf); refine LetN.mk ?_)) | (refine As.pre ?_; first | refine As.mk rfl ?_) | (refine LetB.pre ?_; first | refine LetB.decf (by omega) ?_) | (refine Br.pre ?_; first | refine Br.ff rfl ?_) | (refine Ck.pre ?_; first | refine Ck.mk rfl ?_) | (refine LetL.pre ?_; first | refine LetL.mk (ty := ety) _ (renL_none (pure_en _)).symm ?_) | (refine CallN.pre ?_; first | refine CallN.own id hi ok ?_)))); (try (conv => whnf)))


    refine LoopN.round T_ok mixed rfl ?_
    ((repeat ((conv => whnf); (first | (refine As.pre ?_; first | refine As.mk rfl ?_) | (refine LetB.pre ?_; first | refine LetB.decf (by omega) ?_) | (refine Br.pre ?_; first | refine Br.ff rfl ?_) | (refine Ck.pre ?_; first | refine Ck.mk rfl ?_)))); (try (conv => whnf)))
    exact ⟨⟨[], [(0, .row 15 ety (R.map en))], 1⟩, SW.mk id rfl rfl (namesAll.row (pure_en _) rfl) trivial (haveV.row (pure_en _) (by rfl) trivial), .inr rfl, ⟨_, rfl, rfl⟩, rfl, trivial⟩
  have e : l = l.take 20 ++ l.drop 20 := (List.take_append_drop _ _).symm
  have l1 : (l.take 20).length = 20 := by rw [List.length_take]; omega
  have l2 : (l.drop 20).length = l.length - 20 := List.length_drop
  obtain ⟨N, hN⟩ : ∃ N, N = l.length := ⟨_, rfl⟩
  rw [← hN] at l2 hl hs ⊢
  generalize l.take 20 = A at e l1
  generalize l.drop 20 = B at e l2
  have s1 : (sortS (ltE o) A).length = 20 := by rw [(S_perm _ _).length_eq, l1]
  have s2 : (sortS (ltE o) B).length = N - 20 := by rw [(S_perm _ _).length_eq, l2]
  have h1 := insertion_r o [] A B l N 0 20 fl (by rw [e]; rfl) rfl (by rw [l1]) hN (by omega)
  rw [List.nil_append] at h1
  have h2 := insertion_r o (sortS (ltE o) A) B [] (sortS (ltE o) A ++ B) N 20 N fl (by simp) s1.symm (by omega) (by simp; omega) (by omega)
  rw [List.append_nil] at h2
  have ok1 := rowOkE l (sortS (ltE o) A ++ B) [.slm fl 0 15 0 N, int (0 : Nat), int (20 : Nat), cmpV o] (.tup []) rfl rfl rfl
  have ok2 := rowOkE (sortS (ltE o) A ++ B) (sortS (ltE o) A ++ sortS (ltE o) B) [.slm fl 0 15 0 N, int (20 : Nat), int N, cmpV o] (.tup []) rfl rfl rfl
  by_cases h20 : N = 20
  · have hB : B = [] := List.eq_nil_of_length_eq_zero (by omega)
    have hR : sortS (ltE o) l = sortS (ltE o) A ++ sortS (ltE o) B := by rw [e, hB, List.append_nil]; exact (List.append_nil _).symm
    rw [hR]
    ((repeat ((conv => whnf); (first | (refine As.pre ?_; first | refine As.mk rfl ?_) | (refine Ck.pre ?_; first | refine Ck.mk rfl ?_)))); (try (conv => whnf)))
    refine LoopN.round T_ok mixed rfl ?_
    ((repeat ((conv => whnf); (first | (refine LetN.pre ?_; first | ((conv => arg 1; whnf); refine LetN.mk ?_)) | (refine As.pre ?_; first | refine As.mk rfl ?_) | (refine LetI.pre ?_; first | refine LetI.wrap (by omega) (by omega) ?_) | (refine LetB.pre ?_; first | refine LetB.dect (by omega) ?_) | (refine Br.pre ?_; first | refine Br.tt rfl ?_) | (refine Ck.pre ?_; first | refine Ck.mk rfl ?_) | (refine LetL.pre ?_; first | refine LetL.mk (ty := ety) _ (renL_none (pure_en _)).symm ?_) | (refine CallN.pre ?_; first | refine CallN.own id h1 ok1 ?_)))); (try (conv => whnf)))


    refine LoopN.round T_ok mixed rfl ?_
    ((repeat ((conv => whnf); (first | (refine LetN.pre ?_; first | ((conv => arg 1; whnf); refine LetN.mk ?_)) | (refine As.pre ?_; first | refine As.mk rfl ?_) | (refine LetB.pre ?_; first | refine LetB.decf (by omega) ?_) | (refine Br.pre ?_; first | refine Br.ff rfl ?_) | (refine Ck.pre ?_; first | refine Ck.mk rfl ?_) | (refine LetL.pre ?_; first | refine LetL.mk (ty := ety) _ (renL_none (pure_en _)).symm ?_) | (refine CallN.pre ?_; first | refine CallN.own id h2 ok2 ?_)))); (try (conv => whnf)))


    refine LoopN.round T_ok mixed rfl ?_
    ((repeat ((conv => whnf); (first | (refine As.pre ?_; first | refine As.mk rfl ?_) | (refine LetB.pre ?_; first | refine LetB.decf (by omega) ?_) | (refine Br.pre ?_; first | refine Br.ff rfl ?_) | (refine Ck.pre ?_; first | refine Ck.mk rfl ?_)))); (try (conv => whnf)))
    exact ⟨⟨[], erow (sortS (ltE o) A ++ sortS (ltE o) B), 1⟩, SW.mk id rfl rfl (namesAll.row (pure_en _) rfl) trivial (haveV.row (pure_en _) (by rfl) trivial), .inr rfl, ⟨_, rfl, rfl⟩, rfl, trivial⟩
  have h3 := symMerge_f o N [] (sortS (ltE o) A) (sortS (ltE o) B) [] (sortS (ltE o) A ++ sortS (ltE o) B) N 0 20 N fl (by omega) (by simp) (by omega) (by omega) (S_sorted (ord_E o) _) (S_sorted (ord_E o) _) rfl (by omega) (by omega) (by simp; omega) (by omega)
  rw [S_two (ord_E o), ← e, List.nil_append, List.append_nil] at h3
  have ok3 := rowOkE (sortS (ltE o) A ++ sortS (ltE o) B) (sortS (ltE o) l) [.slm fl 0 15 0 N, int (0 : Nat), int (20 : Nat), int N, cmpV o] (.tup []) rfl rfl rfl
  generalize sortS (ltE o) l = R at h3 ok3 ⊢
  ((repeat ((conv => whnf); (first | (refine As.pre ?_; first | refine As.mk rfl ?_) | (refine Ck.pre ?_; first | refine Ck.mk rfl ?_)))); (try (conv => whnf)))
  refine LoopN.round T_ok mixed rfl ?_
  ((repeat ((conv => whnf); (first | (refine LetN.pre ?_; first | ((conv => arg 1; whnf); refine LetN.mk ?_)) | (refine As.pre ?_; first | refine As.mk rfl ?_) | (refine LetI.pre ?_; first | refine LetI.wrap (by omega) (by omega) ?_) | (refine LetB.pre ?_; first | refine LetB.dect (by omega) ?_) | (refine Br.pre ?_; first | refine Br.tt rfl ?_) | (refine Ck.pre ?_; first | refine Ck.mk rfl ?_) | (refine LetL.pre ?_; first | refine LetL.mk (ty := ety) _ (renL_none (pure_en _)).symm ?_) | (refine CallN.pre ?_; first | refine CallN.own id h1 ok1 ?_)))); (try (conv => whnf)))


  refine LoopN.round T_ok mixed rfl ?_
  ((repeat ((conv => whnf); (first | (refine LetN.pre ?_; first | ((conv => arg 1; whnf); refine LetN.mk ?_)) | (refine As.pre ?_; first | refine As.mk rfl ?_) | (refine LetB.pre ?_; first | refine LetB.decf (by omega) ?_) | (refine Br.pre ?_; first | refine Br.ff rfl ?_) | (refine Ck.pre ?_; first | refine Ck.mk rfl ?_) | (refine LetL.pre ?_; first | refine LetL.mk (ty := ety) _ (renL_none (pure_en _)).symm ?_) | (refine CallN.pre ?_; first | refine CallN.own id h2 ok2 ?_)))); (try (conv => whnf)))


  refine LoopN.round T_ok mixed rfl ?_
  ((repeat ((conv => whnf); (first | (refine As.pre ?_; first | refine As.mk rfl ?_) | (refine LetI.pre ?_; first | refine LetI.wrap (by omega) (by omega) ?_) | (refine LetB.pre ?_; first | refine LetB.dect (by omega) ?_) | (refine Br.pre ?_; first | refine Br.tt rfl ?_) | (refine Ck.pre ?_; first | refine Ck.mk rfl ?_)))); (try (conv => whnf)))
  refine LoopN.round T_ok mixed rfl ?_
  ((repeat ((conv => whnf); (first | (refine LetN.pre ?_; first | ((conv => arg 1; whnf); refine LetN.mk ?_)) | (refine As.pre ?_; first | refine As.mk rfl ?_) | (refine LetI.pre ?_; first | refine LetI.wrap (by omega) (by omega) ?_) | (refine LetB.pre ?_; first | refine LetB.dect (by omega) ?_ | refine LetB.decf (by omega) ?_) | (refine Br.pre ?_; first | refine Br.tt rfl ?_ | refine Br.ff rfl ?_) | (refine Ck.pre ?_; first | refine Ck.mk rfl ?_) | (refine LetL.pre ?_; first | refine LetL.mk (ty := ety) _ (renL_none (pure_en _)).symm ?_) | (refine CallN.pre ?_; first | refine CallN.own id h3 ok3 ?_)))); (try (conv => whnf)))


  refine LoopN.round T_ok mixed rfl ?_
  ((repeat ((conv => whnf); (first | (refine As.pre ?_; first | refine As.mk rfl ?_) | (refine LetB.pre ?_; first | refine LetB.decf (by omega) ?_) | (refine Br.pre ?_; first | refine Br.ff rfl ?_) | (refine Ck.pre ?_; first | refine Ck.mk rfl ?_)))); (try (conv => whnf)))
  exact ⟨⟨[], erow R, 1⟩, SW.mk id rfl rfl (namesAll.row (pure_en _) rfl) trivial (haveV.row (pure_en _) (by rfl) trivial), .inr rfl, ⟨_, rfl, rfl⟩, rfl, trivial⟩
theorem sortStable_f (o : Bool) (l : List E) (fl : Fl) (hl : l.length < 40) : AFun Tryz.prog 68 1 [.slm fl 0 15 0 l.length, cmpV o] [(0, .row 15 ety (l.map en))] (.tup []) [(0, .row 15 ety ((srt o l).map en))] := by
  refine AFun.of_W T_ok mixed Tryz.func68 rfl (Nat.le_of_ble_eq_true rfl) rfl ?_
  have hi := stable_f o l fl hl
  have ok := rowOk1 l (srt o l) [.slm fl 0 15 0 l.length, int l.length, cmpV o] (.tup []) rfl rfl rfl
  generalize srt o l = R at hi ok ⊢
  ((repeat ((conv => whnf); (first | (refine LetN.pre ?_; first | ((conv => arg 1; whnf); refine LetN.mk ?_)) | (refine As.pre ?_; first | refine As.mk rfl ?_) | (refine LetI.pre ?_; first | refine LetI.mk _ rfl ?_) | (refine Ck.pre ?_; first | refine Ck.mk rfl ?_) | (refine LetL.pre ?_; first | refine LetL.mk (ty := ety) _ (renL_none (pure_en _)).symm ?_) | (refine CallN.pre ?_; first | refine CallN.own id hi ok ?_)))); (try (conv => whnf)))


  exact ⟨.inr rfl, ⟨_, rfl, rfl⟩, rfl, trivial⟩
theorem sorted_f (o : Bool) (l : List E) (fl : Fl) (hl : l.length < 40) : AFun Tryz.prog 43 1 [.slm fl 0 15 0 l.length, .agg [bool o]] [(0, .row 15 ety (l.map en))] (.slm fl 0 15 0 l.length) [(0, .row 15 ety ((srt o l).map en))] := by
  refine AFun.of_W T_ok mixed Tryz.func43 rfl (Nat.le_of_ble_eq_true rfl) rfl ?_
  have hi := sortStable_f o l fl hl
  have hnR : ∀ R : List E, CallOk 1 id [.slm fl 0 15 0 l.length, cmpV o] [(0, .row 15 ety (l.map en))] (.tup []) [(0, .row 15 ety (R.map en))] [(0, .row 15 ety (l.map en)), (1, .row 1 89 [.agg [bool o]])] [.slm fl 0 15 0 l.length, cmpV o] := fun R =>
    CallOk.mk' rfl rfl rfl (namesAll.row (pure_en _) rfl) rfl (namesAll.row (pure_en _) rfl) (haveAll.row (pure_en _) rfl trivial)
  generalize srt o l = R at hi ⊢
  have ok := hnR R
  ((repeat ((conv => whnf); (first | (refine LetN.pre ?_; first | ((conv => arg 1; whnf); refine LetN.mk ?_)) | (refine As.pre ?_; first | refine As.mk rfl ?_) | (refine LetV.pre ?_; first | refine LetV.mk (.agg _) rfl ?_) | (refine Ck.pre ?_; first | refine Ck.mk rfl ?_) | (refine LetL.pre ?_; first | refine LetL.mk (ty := ety) _ (renL_none (pure_en _)).symm ?_) | (refine CallN.pre ?_; first | refine CallN.own id hi ok ?_)))); (try (conv => whnf)))


  exact ⟨.inl rfl, ⟨_, rfl, rfl⟩, rfl, trivial⟩
end En
end Go.Proofs.YtgnakhljdjekbaaGreatDoor
namespace Go.Proofs.YtgnakhljdjekbaaGreatDoor
open Go.Proofs.YtgnakhljdjekbaaGreatDoor.Am
set_option maxRecDepth 100000
namespace En
theorem oks1 {a : Cd} (h : a.Ok) : ∀ c ∈ [a], c.Ok := by simpa using h
theorem oks2 {a b : Cd} (h : a.Ok) (k : b.Ok) : ∀ c ∈ [a, b], c.Ok := by
  intro c hc
  simp at hc
  rcases hc with rfl | rfl <;> assumption
theorem oks3 {a b d : Cd} (h : a.Ok) (k : b.Ok) (l : d.Ok) : ∀ c ∈ [a, b, d], c.Ok := by
  intro c hc
  simp at hc
  rcases hc with rfl | rfl | rfl <;> assumption
/-- A finding is lifted. -/
def liftedP (l : List E) (f a o : Int) : Bool := l.any fun e => decide (e.kind = 6) && decide (e.ref = f) && decide (e.day ≤ a ∧ e.on_ ≤ o)
theorem lifted_len (l : List E) (f a o : Int) : liftedP l f a o = decide (((((chos l [cOf 6, cTo f, cCounts a o]).map en).length : Int)) > 0) := by
  rw [Bool.eq_iff_iff, decide_eq_true_eq, List.length_map]
  have : ((chos l [cOf 6, cTo f, cCounts a o]).length : Int) > 0 ↔ 0 < (chos l [cOf 6, cTo f, cCounts a o]).length := by omega
  rw [this, List.length_pos_iff_exists_mem]
  simp [liftedP, chos, and_assoc]
theorem Lifted_f (l : List E) (f a o : Int) (fl : Fl) (hl : l.length ≤ 100000) : AFun Tryz.prog 48 0 [.ro fl 15 (l.map en), int f, int a, int o] [] (bool (liftedP l f a o)) [] := by
  refine AFun.of_W T_ok mixed Tryz.func48 rfl (Nat.le_of_ble_eq_true rfl) rfl ?_
  have hc := fun fl' => chosen_f l [cOf 6, cTo f, cCounts a o] (oks3 (cOf_ok 6) (cTo_ok f) (cCounts_ok a o)) fl fl' hl (by simp)
  have hb := lifted_len l f a o
  generalize liftedP l f a o = b at hb ⊢
  generalize chos l [cOf 6, cTo f, cCounts a o] = C at hc hb
  ((repeat ((conv => whnf); (first | (refine LetN.pre ?_; first | ((conv => arg 1; whnf); refine LetN.mk ?_)) | (refine As.pre ?_; first | refine As.mk rfl ?_ | (refine As.mk ?_ ?_; · decide +kernel) | refine As.mk (andT (nor_self _) rfl) ?_ | refine As.mk (andT (nor_self _) (or_t _)) ?_ | refine As.mk (andT (or_t _) (or_nself _)) ?_ | refine As.mk (andT (or_t _) (or_t _)) ?_ | refine As.mk (andT (nor_self _) (andT (nor_self _) rfl)) ?_ | (refine As.mk ?_ ?_; · ((repeat' (refine andT ?_ ?_)) <;> (first | rfl | assumption | exact decide_eq_true (by omega) | exact decide_eq_true (by dsimp only; omega) | exact decide_eq_true (by simp; omega) | (simp; done))))) | (refine LetV.pre ?_; first | refine LetV.mk (.sc (.int _ _)) rfl ?_ | refine LetV.mk (.sc (.bool _)) rfl ?_ | refine LetV.mk (.sc _) rfl ?_ | refine LetV.mk (.agg _) rfl ?_ | refine LetV.mk (.slm _ _ _ _ _) rfl ?_ | refine LetV.mk (.ro _ _ _) rfl ?_ | refine LetV.mk (.ptr _ _ _ _) rfl ?_ | refine LetV.mk (.clo _ _ _) rfl ?_ | refine LetV.mk (.rp _ _) rfl ?_) | (refine LetI.pre ?_; first | refine LetI.wrap (by omega) (by omega) ?_ | refine LetI.mk _ rfl ?_) | (refine LetB.pre ?_; first | refine LetB.tt rfl ?_ | refine LetB.ff rfl ?_ | refine LetB.tt (by assumption) ?_ | refine LetB.ff (by assumption) ?_ | refine LetB.mk _ hb ?_ | refine LetB.dect (by omega) ?_ | refine LetB.decf (by omega) ?_ | refine LetB.beqt (by omega) ?_ | refine LetB.beqf (by omega) ?_ | refine LetB.bnet (by omega) ?_ | refine LetB.bnef (by omega) ?_ | refine LetB.mk _ rfl ?_) | (refine Gd.pre ?_; first | refine Gd.run rfl ?_ | refine Gd.pass rfl ?_ | refine Gd.run (by assumption) ?_ | refine Gd.pass (by assumption) ?_ | (refine Gd.run ?_ ?_; · decide +kernel) | (refine Gd.pass ?_ ?_; · decide +kernel) | refine Gd.both ?_) | (refine Br.pre ?_; first | refine Br.tt rfl ?_ | refine Br.ff rfl ?_ | refine Br.tt (by assumption) ?_ | refine Br.ff (by assumption) ?_ | (refine Br.tt ?_ ?_; · decide +kernel) | (refine Br.ff ?_ ?_; · decide +kernel)) | (refine Ck.pre ?_; first | refine Ck.drawn (by kernel_rfl) ?_ | refine Ck.mk rfl ?_) | (refine LetL.pre ?_; first | refine LetL.mk [_] rfl ?_ | refine LetL.mk _ rfl ?_) | (refine CallN.pre ?_; first | refine CallN.pure (of_f _) rfl rfl ?_ | refine CallN.pure (to_f _) rfl rfl ?_ | refine CallN.pure (counts_f _ _) rfl rfl ?_ | refine CallN.pure (hc _) rfl rfl ?_) | refine forceAs.pass ?_ | refine forceEs.pass ?_ | refine forceC.pass ?_))); (try (conv => whnf)))





  exact ⟨.inl rfl, ⟨_, rfl, rfl⟩, trivial⟩
abbrev knownP (l : List E) (a : Int) : List E := l.filter fun e => decide (e.day ≤ a)
/-- An award is not ended. -/
def endedP (l : List E) (e : E) : Bool := !(l.any fun x => decide (x.kind = 9) && decide (x.ref = e.id))
theorem ended_len (l : List E) (e : E) : endedP l e = ((((chos l [cOf 9, cTo e.id]).map en).length : Int) == 0) := by
  rw [Bool.eq_iff_iff, beq_iff_eq, List.length_map]
  have : ((chos l [cOf 9, cTo e.id]).length : Int) = 0 ↔ (chos l [cOf 9, cTo e.id]).length = 0 := by omega
  rw [this, List.length_eq_zero_iff]
  simp [endedP, chos, List.filter_eq_nil_iff]
/-- A choice. -/
structure Ch where
  pr : Int
  ver : Int
  beg : Int
  on_ : Int
abbrev chA (c : Ch) : AV := .agg [int c.pr, int c.ver, int c.beg, int c.on_]
theorem pure_ch : ∀ l : List Ch, AV.namesL (fun _ => false) (l.map chA) = true
  | [] => rfl
  | p :: l => by simp only [List.map_cons, AV.namesL, pure_ch l]; rfl
theorem plain_ch : ∀ l : List Ch, AV.plainL (l.map chA) = true
  | [] => rfl
  | p :: l => by simp only [List.map_cons, AV.plainL, plain_ch l]; rfl
theorem app_ch (l : List Ch) (e : Ch) (n : Nat) (h : n = l.length) : (l ++ [e]).map chA = (l.map chA).take n ++ [chA e] := by rw [List.take_of_length_le (by simp [h]), List.map_append]; rfl
theorem take_map_succ {α β : Type} (g : α → β) {l : List α} {k : Nat} (h : k < l.length) (d : α) : (l.take (k + 1)).map g = (l.take k).map g ++ [g (l.getD k d)] := by
  rw [List.take_succ_eq_append_getElem h, List.map_append, List.getD_eq_getElem?_getD, List.getElem?_eq_getElem h]; rfl
theorem room_ch {n : Nat} (h : n ≤ 1000000) : room n 32 = true := by
  simp only [room, Bool.and_eq_true, decide_eq_true_eq]
  exact ⟨by omega, rfl⟩
abbrev enrolV (x : Int × List Ch × Bool) : AV := .tup [int x.1, .ro {} 4 (x.2.1.map chA), bool x.2.2]
end En
end Go.Proofs.YtgnakhljdjekbaaGreatDoor
namespace Go.Proofs.YtgnakhljdjekbaaGreatDoor
open Go.Proofs.YtgnakhljdjekbaaGreatDoor.Am
set_option maxRecDepth 100000
namespace En
/-- A standing. -/
structure St where
  entry : Int
  by_ : Int
  grade : Int
  void : Bool
abbrev stA (s : St) : AV := .agg [int s.entry, int s.by_, int s.grade, bool s.void]
abbrev sty : TypeId := 63
theorem pure_st : ∀ l : List St, AV.namesL (fun _ => false) (l.map stA) = true
  | [] => rfl
  | p :: l => by simp only [List.map_cons, AV.namesL, pure_st l]; rfl
theorem plain_st : ∀ l : List St, AV.plainL (l.map stA) = true
  | [] => rfl
  | p :: l => by simp only [List.map_cons, AV.plainL, plain_st l]; rfl
theorem app_st (l : List St) (e : St) (n : Nat) (h : n = l.length) : (l ++ [e]).map stA = (l.map stA).take n ++ [stA e] := by rw [List.take_of_length_le (by simp [h]), List.map_append]; rfl
theorem room_st {n : Nat} (h : n ≤ 1000000) : room n 32 = true := by
  simp only [room, Bool.and_eq_true, decide_eq_true_eq]
  exact ⟨by omega, rfl⟩
/-- The latest correction: by which entry, its grade, its day, whether there is one. -/
def stepC (x : Int × Int × Int × Bool) (c : E) : Int × Int × Int × Bool := if x.2.2.2 = false ∨ x.2.2.1 < c.day ∨ (c.day = x.2.2.1 ∧ x.1 < c.id) then (c.id, c.grade, c.day, true) else x
def corr (R : List E) (g : E) : Int × Int × Int × Bool := (chos R [cOf 4, cTo g.id]).foldl stepC (0, g.grade, 0, false)
def voidP (R : List E) (a o : Int) (g : E) : Bool := (chos R [cOf 5, cTo g.id]).any fun f => !liftedP R f.id a o
def stand (R : List E) (a o : Int) (g : E) : St := ⟨g.id, (corr R g).1, (corr R g).2.1, voidP R a o g⟩
def atR (l : List E) (a o : Int) : List E := srt false (chos l [cCounts a o])
def atP (l : List E) (a o : Int) : List St := (chos (atR l a o) [cOf 3]).map (stand (atR l a o) a o)
theorem foldl_drop {α β : Type} (f : β → α → β) {l : List α} {k : Nat} (h : k < l.length) (d : α) (x : β) : (l.drop k).foldl f x = (l.drop (k + 1)).foldl f (f x (l.getD k d)) := by
  rw [List.drop_eq_getElem_cons h, List.foldl_cons, List.getD_eq_getElem?_getD, List.getElem?_eq_getElem h]; rfl
theorem any_drop {α : Type} (f : α → Bool) {l : List α} {k : Nat} (h : k < l.length) (d : α) : (l.drop k).any f = (f (l.getD k d) || (l.drop (k + 1)).any f) := by
  rw [List.drop_eq_getElem_cons h, List.any_cons, List.getD_eq_getElem?_getD, List.getElem?_eq_getElem h]; rfl
abbrev atS (R G : List E) (a o : Int) : Nat × List St → AS
  | (k, out) => ⟨[(0, .slm {} 0 15 0 R.length), (1, int a), (2, int o), (6, .slm {} 2 4 0 out.length), (27, .slm {} 1 15 0 G.length), (28, int G.length), (29, int k)], [(0, .row 15 ety (R.map en)), (1, .row 15 ety (G.map en)), (2, .row 4 sty (out.map stA))], 3⟩
abbrev atA (R G C : List E) (a o : Int) (k : Nat) (out : List St) (g : E) : Nat × Int × Int × Int × Bool → AS
  | (i, b, gr, d, s) => ⟨[(0, .slm {} 0 15 0 R.length), (1, int a), (2, int o), (6, .slm {} 2 4 0 out.length), (27, .slm {} 1 15 0 G.length), (28, int G.length), (29, int k), (8, .ptr 3 15 0 0), (9, .ptr 4 4 0 0), (10, int d), (11, bool s), (44, .slm {} 5 15 0 C.length), (45, int C.length), (46, int i)],
      [(0, .row 15 ety (R.map en)), (1, .row 15 ety (G.map en)), (2, .row 4 sty (out.map stA)), (3, .row 15 ety [en g]), (4, .row 4 sty [stA ⟨g.id, b, gr, false⟩]), (5, .row 15 ety (C.map en))], 6⟩
abbrev atB (R G C : List E) (a o : Int) (k : Nat) (out : List St) (g : E) (b gr : Int) : Nat × Bool → AS
  | (i, v) => ⟨[(0, .slm {} 0 15 0 R.length), (1, int a), (2, int o), (6, .slm {} 2 4 0 out.length), (27, .slm {} 1 15 0 G.length), (28, int G.length), (29, int k), (9, .ptr 4 4 0 0), (86, .slm {} 5 15 0 C.length), (87, int C.length), (88, int i)],
      [(0, .row 15 ety (R.map en)), (1, .row 15 ety (G.map en)), (2, .row 4 sty (out.map stA)), (4, .row 4 sty [stA ⟨g.id, b, gr, v⟩]), (5, .row 15 ety (C.map en))], 6⟩
theorem atNames (R G : List E) (out : List St) (ok : Nat → Bool) (H : AH) (h : namesAll ok H = true) : namesAll ok ((0, .row 15 ety (R.map en)) :: (1, .row 15 ety (G.map en)) :: (2, .row 4 sty (out.map stA)) :: H) = true :=
  namesAll.row (pure_en _) (namesAll.row (pure_en _) (namesAll.row (pure_st _) h))
set_option maxHeartbeats 1600000 in
set_option maxRecDepth 100000 in
theorem At_s (l : List E) (a o : Int) (fl : Fl) (hl : l.length < 40) : AFun Tryz.prog 24 0 [.ro fl 15 (l.map en), int a, int o] [] (.slm {} 0 4 0 (atP l a o).length) [(0, .row 4 sty ((atP l a o).map stA))] := by
  refine AFun.of_S T_ok mixed Tryz.func24 rfl (Nat.le_of_ble_eq_true rfl) rfl ?_
  have hc := fun fl' => chosen_s l [cCounts a o] (oks1 (cCounts_ok a o)) fl fl' (by omega) (by simp)
  have hl2 : (chos l [cCounts a o]).length ≤ l.length := List.length_filter_le _ _
  rw [atP, atR]
  generalize chos l [cCounts a o] = D at hc hl2 ⊢
  have hs := sorted_f false D {} (by omega)
  have hrl : D.length = (srt false D).length := (srt_length ..).symm
  generalize srt false D = R at hs hrl ⊢
  have hrl2 : D.length = (R.map en).length := by rw [List.length_map, hrl]
  have hc2 := fun fl' => chosen_s R [cOf 3] (oks1 (cOf_ok 3)) {} fl' (by omega) (by simp)
  have hl3 : (chos R [cOf 3]).length ≤ R.length := List.length_filter_le _ _
  generalize chos R [cOf 3] = G at hc2 hl3 ⊢
  ((repeat ((conv => whnf); (first | (refine LetN.pre ?_; first | ((conv => arg 1; whnf); refine LetN.mk ?_)) | (refine As.pre ?_; first | refine As.mk rfl ?_) | (refine LetI.pre ?_; first | refine LetI.mk _ rfl ?_) | (refine Ck.pre ?_; first | refine Ck.mk rfl ?_) | (refine LetL.pre ?_; first | refine LetL.mk (ty := ety) _ (renL_none (pure_en _)).symm ?_ | refine LetL.mk _ rfl ?_) | (refine CallN.pre ?_; first | refine CallN.pure (of_f _) rfl rfl ?_ | refine CallN.pure (counts_f _ _) rfl rfl ?_ | refine CallN.lendOwn 0 (hc _) (.same rfl (.same rfl .nil)) rfl rfl rfl (plain_en _) ?_ | refine CallN.own (fun _ => 0) hs (CallOk.mk' rfl rfl rfl (namesAll.row (pure_en _) rfl) rfl (namesAll.row (pure_en _) rfl) (haveAll.row (pure_en _) rfl trivial)) ?_ | refine CallN.lendOwn 1 (hc2 _) (.full rfl (pure_en _) hrl2 (.same rfl .nil)) rfl rfl rfl (plain_en _) ?_)))); (try (conv => whnf)))






  refine LoopN.weak (s1 := atS R G a o (0, [])) ?sw1 ?_
  case sw1 => exact SW.mk id rfl rfl (atNames _ _ _ _ _ rfl) ⟨VLe2.slm_of hrl.symm, .refl _, .refl _, VLe2.nilslm, .refl _, .refl _, .refl _, trivial⟩ (haveV.row (pure_en _) rfl (haveV.row (pure_en _) rfl (haveV.nil (Nat.le_refl _) trivial)))
  refine LoopN.ind T_ok mixed (S := atS R G a o) (fun i => G.length - i.1) (fun i => i.1 ≤ G.length ∧ i.2 = (G.take i.1).map (stand R a o)) (fun _ => rfl) (fun i hi ih => ?_) (0, []) ⟨Nat.zero_le _, rfl⟩
  obtain ⟨k, out⟩ := i
  obtain ⟨h1, h2⟩ := hi
  simp only at h1 h2 ih
  by_cases hlt : k < G.length
  case neg =>
    have hk : k = G.length := by omega
    subst hk
    rw [List.take_length] at h2
    rw [← h2]
    clear ih
    ((repeat ((conv => whnf); (first | (refine As.pre ?_; first | refine As.mk rfl ?_) | (refine LetB.pre ?_; first | refine LetB.decf (by omega) ?_) | (refine Br.pre ?_; first | refine Br.ff rfl ?_) | (refine Ck.pre ?_; first | refine Ck.mk rfl ?_)))); (try (conv => whnf)))
    exact ⟨⟨[(6, .slm {} 0 4 0 out.length)], [(0, .row 4 sty (out.map stA))], 3⟩, SW.mk (fun _ => 2) rfl rfl (namesAll.row (pure_st _) rfl) ⟨.refl _, trivial⟩ (haveV.row (pure_st _) rfl trivial), .inl rfl, ⟨_, rfl, rfl⟩, rfl, trivial⟩
  have hld : en (G.getD k e0) = Am.part true 15 0 15 ((G.map en).getD (0 + k) (.sc undef)) := getD_en hlt
  have hq := take_map_succ (stand R a o) hlt e0
  rw [← h2] at hq
  have hol : out.length = k := by rw [h2]; simp; omega
  clear h2
  generalize G.getD k e0 = g at hld hq
  have hcC := fun fl' => chosen_s R [cOf 4, cTo g.id] (oks2 (cOf_ok 4) (cTo_ok g.id)) {} fl' (by omega) (by simp)
  have hlC : (chos R [cOf 4, cTo g.id]).length ≤ R.length := List.length_filter_le _ _
  have hcF := fun fl' => chosen_s R [cOf 5, cTo g.id] (oks2 (cOf_ok 5) (cTo_ok g.id)) {} fl' (by omega) (by simp)
  have hlF : (chos R [cOf 5, cTo g.id]).length ≤ R.length := List.length_filter_le _ _
  have hst : stand R a o g = ⟨g.id, ((chos R [cOf 4, cTo g.id]).foldl stepC (0, g.grade, 0, false)).1, ((chos R [cOf 4, cTo g.id]).foldl stepC (0, g.grade, 0, false)).2.1, (chos R [cOf 5, cTo g.id]).any fun f => !liftedP R f.id a o⟩ := rfl
  generalize chos R [cOf 4, cTo g.id] = C at hcC hlC hst
  generalize chos R [cOf 5, cTo g.id] = F at hcF hlF hst
  have hRR : R.length = (R.map en).length := by rw [List.length_map]
  ((repeat ((conv => whnf); (first | (refine LetN.pre ?_; first | ((conv => arg 1; whnf); refine LetN.mk ?_)) | (refine As.pre ?_; first | refine As.mk rfl ?_ | (refine As.mk ?_ ?_; · ((repeat' (refine andT ?_ ?_)) <;> (first | rfl | assumption | exact decide_eq_true (by omega) | exact decide_eq_true (by dsimp only; omega) | exact decide_eq_true (by simp; omega) | (simp; done))))) | (refine LetV.pre ?_; first | refine LetV.mk (t := ety) _ hld ?_ | refine LetV.mk (.sc (.int _ _)) rfl ?_) | (refine LetI.pre ?_; first | refine LetI.mk _ rfl ?_) | (refine LetB.pre ?_; first | refine LetB.dect (by omega) ?_) | (refine Br.pre ?_; first | refine Br.tt rfl ?_) | (refine Ck.pre ?_; first | refine Ck.drawn (by kernel_rfl) ?_ | refine Ck.mk rfl ?_) | (refine LetL.pre ?_; first | refine LetL.mk [_] rfl ?_ | refine LetL.mk _ rfl ?_) | (refine CallN.pre ?_; first | refine CallN.pure (of_f _) rfl rfl ?_ | refine CallN.pure (to_f _) rfl rfl ?_ | refine CallN.lendOwn 5 (hcC _) (.full rfl (pure_en _) hRR (.same rfl .nil)) rfl rfl rfl (plain_en _) ?_)))); (try (conv => whnf)))




  refine LoopN.weak (s1 := atA R G C a o k out g (0, 0, g.grade, 0, false)) ?sw2 ?_
  case sw2 => exact SW.mk id rfl rfl (atNames _ _ _ _ _ (namesAll.row rfl (namesAll.row rfl (namesAll.row (pure_en _) rfl)))) ⟨.refl _, .refl _, .refl _, .refl _, .refl _, .refl _, .refl _, .refl _, .refl _, .refl _, .refl _, .refl _, .refl _, .refl _, trivial⟩ (haveV.row (pure_en _) rfl (haveV.row (pure_en _) rfl (haveV.row (pure_st _) rfl (haveV.row rfl rfl (haveV.row rfl rfl (haveV.row (pure_en _) rfl trivial))))))
  generalize hX : C.foldl stepC (0, g.grade, 0, false) = X at hst
  refine LoopN.ind T_ok mixed (S := atA R G C a o k out g) (fun i => C.length - i.1) (fun i => i.1 ≤ C.length ∧ X = (C.drop i.1).foldl stepC i.2) (fun _ => rfl) (fun i hi ihA => ?_) (0, 0, g.grade, 0, false) ⟨Nat.zero_le _, hX.symm⟩
  obtain ⟨i, b, gr, d, s⟩ := i
  obtain ⟨g1, g2⟩ := hi
  simp only at g1 g2 ihA
  by_cases hiC : i < C.length
  case pos =>
    have hldc : en (C.getD i e0) = Am.part true 15 0 15 ((C.map en).getD (0 + i) (.sc undef)) := getD_en hiC
    rw [foldl_drop stepC hiC e0] at g2
    generalize C.getD i e0 = c at hldc g2
    have next : ∀ (b' gr' d' : Int) (s' : Bool), stepC (b, gr, d, s) c = (b', gr', d', s') → LoopN Tryz.prog 0 Tryz.f24.ntmps _ (atA R G C a o k out g (i + 1, b', gr', d', s')) _ := fun b' gr' d' s' hs' => ihA (i + 1, b', gr', d', s') ⟨by omega, by rw [← hs']; exact g2⟩ (by omega)
    clear ihA ih hc hc2 hcC hcF hs
    have fin : ∀ (b' gr' d' : Int) (s' : Bool), namesAll (fun i => decide (i < 0) || (List.map Prod.fst (atA R G C a o k out g (i, b', gr', d', s')).H).contains i) (atA R G C a o k out g (i, b', gr', d', s')).H = true := fun b' gr' d' s' => atNames _ _ _ _ _ (namesAll.row rfl (namesAll.row rfl (namesAll.row (pure_en _) rfl)))
    cases s with
    | false =>
      ((repeat ((conv => whnf); (first | (refine LetN.pre ?_; first | ((conv => arg 1; whnf); refine LetN.mk ?_)) | (refine As.pre ?_; first | refine As.mk rfl ?_ | (refine As.mk ?_ ?_; · ((repeat' (refine andT ?_ ?_)) <;> (first | rfl | assumption | exact decide_eq_true (by omega) | exact decide_eq_true (by dsimp only; omega) | exact decide_eq_true (by simp; omega) | (simp; done))))) | (refine LetV.pre ?_; first | refine LetV.mk (t := ety) _ hldc ?_ | refine LetV.mk (.sc (.int _ _)) rfl ?_) | (refine LetI.pre ?_; first | refine LetI.wrap (by omega) (by omega) ?_) | (refine LetB.pre ?_; first | refine LetB.dect (by omega) ?_) | (refine Gd.pre ?_; first | refine Gd.pass rfl ?_) | (refine Br.pre ?_; first | refine Br.tt rfl ?_) | (refine Ck.pre ?_; first | refine Ck.drawn (by kernel_rfl) ?_ | refine Ck.mk rfl ?_) | (refine LetL.pre ?_; first | refine LetL.mk [_] rfl ?_)))); (try (conv => whnf)))
      refine LoopN.weak ?sw3 (next c.id c.grade c.day true (if_pos (.inl rfl)))
      case sw3 => exact SW.mk id rfl rfl (atNames _ _ _ _ _ (namesAll.row rfl (namesAll.row rfl (namesAll.row (pure_en _) rfl)))) ⟨.refl _, .refl _, .refl _, .refl _, .refl _, .refl _, .refl _, .refl _, .refl _, .refl _, .refl _, .refl _, .refl _, VLe2.int (by omega), trivial⟩ (haveV.row (pure_en _) rfl (haveV.row (pure_en _) rfl (haveV.row (pure_st _) rfl (haveV.row rfl rfl (haveV.row rfl rfl (haveV.row (pure_en _) rfl trivial))))))
    | true =>
      by_cases q1 : d < c.day
      · ((repeat ((conv => whnf); (first | (refine LetN.pre ?_; first | ((conv => arg 1; whnf); refine LetN.mk ?_)) | (refine As.pre ?_; first | refine As.mk rfl ?_ | (refine As.mk ?_ ?_; · ((repeat' (refine andT ?_ ?_)) <;> (first | rfl | assumption | exact decide_eq_true (by omega) | exact decide_eq_true (by dsimp only; omega) | exact decide_eq_true (by simp; omega) | (simp; done))))) | (refine LetV.pre ?_; first | refine LetV.mk (t := ety) _ hldc ?_ | refine LetV.mk (.sc (.int _ _)) rfl ?_) | (refine LetI.pre ?_; first | refine LetI.wrap (by omega) (by omega) ?_) | (refine LetB.pre ?_; first | refine LetB.dect (by omega) ?_) | (refine Gd.pre ?_; first | refine Gd.run rfl ?_ | refine Gd.pass rfl ?_) | (refine Br.pre ?_; first | refine Br.tt rfl ?_) | (refine Ck.pre ?_; first | refine Ck.drawn (by kernel_rfl) ?_ | refine Ck.mk rfl ?_) | (refine LetL.pre ?_; first | refine LetL.mk [_] rfl ?_)))); (try (conv => whnf)))
        refine LoopN.weak ?sw4 (next c.id c.grade c.day true (if_pos (.inr (.inl q1))))
        case sw4 => exact SW.mk id rfl rfl (atNames _ _ _ _ _ (namesAll.row rfl (namesAll.row rfl (namesAll.row (pure_en _) rfl)))) ⟨.refl _, .refl _, .refl _, .refl _, .refl _, .refl _, .refl _, .refl _, .refl _, .refl _, .refl _, .refl _, .refl _, VLe2.int (by omega), trivial⟩ (haveV.row (pure_en _) rfl (haveV.row (pure_en _) rfl (haveV.row (pure_st _) rfl (haveV.row rfl rfl (haveV.row rfl rfl (haveV.row (pure_en _) rfl trivial))))))
      · by_cases q2 : c.day = d
        · by_cases q3 : b < c.id
          · ((repeat ((conv => whnf); (first | (refine LetN.pre ?_; first | ((conv => arg 1; whnf); refine LetN.mk ?_)) | (refine As.pre ?_; first | refine As.mk rfl ?_ | (refine As.mk ?_ ?_; · ((repeat' (refine andT ?_ ?_)) <;> (first | rfl | assumption | exact decide_eq_true (by omega) | exact decide_eq_true (by dsimp only; omega) | exact decide_eq_true (by simp; omega) | (simp; done))))) | (refine LetV.pre ?_; first | refine LetV.mk (t := ety) _ hldc ?_ | refine LetV.mk (.sc (.int _ _)) rfl ?_) | (refine LetI.pre ?_; first | refine LetI.wrap (by omega) (by omega) ?_) | (refine LetB.pre ?_; first | refine LetB.dect (by omega) ?_ | refine LetB.decf (by omega) ?_) | (refine Gd.pre ?_; first | refine Gd.run rfl ?_) | (refine Br.pre ?_; first | refine Br.tt rfl ?_) | (refine Ck.pre ?_; first | refine Ck.drawn (by kernel_rfl) ?_ | refine Ck.mk rfl ?_) | (refine LetL.pre ?_; first | refine LetL.mk [_] rfl ?_)))); (try (conv => whnf)))
            refine LoopN.weak ?sw5 (next c.id c.grade c.day true (if_pos (.inr (.inr ⟨q2, q3⟩))))
            case sw5 => exact SW.mk id rfl rfl (atNames _ _ _ _ _ (namesAll.row rfl (namesAll.row rfl (namesAll.row (pure_en _) rfl)))) ⟨.refl _, .refl _, .refl _, .refl _, .refl _, .refl _, .refl _, .refl _, .refl _, .refl _, .refl _, .refl _, .refl _, VLe2.int (by omega), trivial⟩ (haveV.row (pure_en _) rfl (haveV.row (pure_en _) rfl (haveV.row (pure_st _) rfl (haveV.row rfl rfl (haveV.row rfl rfl (haveV.row (pure_en _) rfl trivial))))))
          · ((repeat ((conv => whnf); (first | (refine LetN.pre ?_; first | ((conv => arg 1; whnf); refine LetN.mk ?_)) | (refine As.pre ?_; first | refine As.mk rfl ?_ | (refine As.mk ?_ ?_; · ((repeat' (refine andT ?_ ?_)) <;> (first | rfl | assumption | exact decide_eq_true (by omega) | exact decide_eq_true (by dsimp only; omega) | exact decide_eq_true (by simp; omega) | (simp; done))))) | (refine LetV.pre ?_; first | refine LetV.mk (t := ety) _ hldc ?_ | refine LetV.mk (.sc (.int _ _)) rfl ?_) | (refine LetI.pre ?_; first | refine LetI.wrap (by omega) (by omega) ?_) | (refine LetB.pre ?_; first | refine LetB.dect (by omega) ?_ | refine LetB.decf (by omega) ?_) | (refine Gd.pre ?_; first | refine Gd.run rfl ?_) | (refine Br.pre ?_; first | refine Br.tt rfl ?_ | refine Br.ff rfl ?_) | (refine Ck.pre ?_; first | refine Ck.mk rfl ?_) | (refine LetL.pre ?_; first | refine LetL.mk [_] rfl ?_)))); (try (conv => whnf)))
            refine LoopN.weak ?sw6 (next b gr d true (if_neg (by rintro (h | h | h) <;> simp at h <;> omega)))
            case sw6 => exact SW.mk id rfl rfl (atNames _ _ _ _ _ (namesAll.row rfl (namesAll.row rfl (namesAll.row (pure_en _) rfl)))) ⟨.refl _, .refl _, .refl _, .refl _, .refl _, .refl _, .refl _, .refl _, .refl _, .refl _, .refl _, .refl _, .refl _, VLe2.int (by omega), trivial⟩ (haveV.row (pure_en _) rfl (haveV.row (pure_en _) rfl (haveV.row (pure_st _) rfl (haveV.row rfl rfl (haveV.row rfl rfl (haveV.row (pure_en _) rfl trivial))))))
        · ((repeat ((conv => whnf); (first | (refine LetN.pre ?_; first | ((conv => arg 1; whnf); refine LetN.mk ?_)) | (refine As.pre ?_; first | refine As.mk rfl ?_ | (refine As.mk ?_ ?_; · ((repeat' (refine andT ?_ ?_)) <;> (first | rfl | assumption | exact decide_eq_true (by omega) | exact decide_eq_true (by dsimp only; omega) | exact decide_eq_true (by simp; omega) | (simp; done))))) | (refine LetV.pre ?_; first | refine LetV.mk (t := ety) _ hldc ?_ | refine LetV.mk (.sc (.int _ _)) rfl ?_) | (refine LetI.pre ?_; first | refine LetI.wrap (by omega) (by omega) ?_) | (refine LetB.pre ?_; first | refine LetB.dect (by omega) ?_ | refine LetB.decf (by omega) ?_) | (refine Gd.pre ?_; first | refine Gd.run rfl ?_ | refine Gd.pass rfl ?_) | (refine Br.pre ?_; first | refine Br.tt rfl ?_ | refine Br.ff rfl ?_) | (refine Ck.pre ?_; first | refine Ck.mk rfl ?_) | (refine LetL.pre ?_; first | refine LetL.mk [_] rfl ?_)))); (try (conv => whnf)))
          refine LoopN.weak ?sw7 (next b gr d true (if_neg (by rintro (h | h | h) <;> simp at h <;> omega)))
          case sw7 => exact SW.mk id rfl rfl (atNames _ _ _ _ _ (namesAll.row rfl (namesAll.row rfl (namesAll.row (pure_en _) rfl)))) ⟨.refl _, .refl _, .refl _, .refl _, .refl _, .refl _, .refl _, .refl _, .refl _, .refl _, .refl _, .refl _, .refl _, VLe2.int (by omega), trivial⟩ (haveV.row (pure_en _) rfl (haveV.row (pure_en _) rfl (haveV.row (pure_st _) rfl (haveV.row rfl rfl (haveV.row rfl rfl (haveV.row (pure_en _) rfl trivial))))))
  case neg =>
    clear ihA
    rw [List.drop_eq_nil_of_le (by omega), List.foldl_nil] at g2
    rw [g2] at hst
    simp only at hst
    ((repeat ((conv => whnf); (first | (refine LetN.pre ?_; first | ((conv => arg 1; whnf); refine LetN.mk ?_)) | (refine As.pre ?_; first | refine As.mk rfl ?_) | (refine LetV.pre ?_; first | refine LetV.mk (.sc (.int _ _)) rfl ?_) | (refine LetI.pre ?_; first | refine LetI.mk _ rfl ?_) | (refine LetB.pre ?_; first | refine LetB.decf (by omega) ?_) | (refine Br.pre ?_; first | refine Br.ff rfl ?_) | (refine Ck.pre ?_; first | refine Ck.drawn (by kernel_rfl) ?_ | refine Ck.mk rfl ?_) | (refine LetL.pre ?_; first | refine LetL.mk _ rfl ?_) | (refine CallN.pre ?_; first | refine CallN.pure (of_f _) rfl rfl ?_ | refine CallN.pure (to_f _) rfl rfl ?_ | refine CallN.lendOwn 6 (hcF _) (.full rfl (pure_en _) hRR (.same rfl .nil)) rfl rfl rfl (plain_en _) ?_)))); (try (conv => whnf)))



    refine LoopN.weak (s1 := atB R G F a o k out g b gr (0, false)) ?sw8 ?_
    case sw8 => exact SW.mk (fun i => if i = 5 then 6 else i) rfl rfl (atNames _ _ _ _ _ (namesAll.row rfl (namesAll.row (pure_en _) rfl))) ⟨.refl _, .refl _, .refl _, .refl _, .refl _, .refl _, .refl _, .refl _, .refl _, .refl _, .refl _, trivial⟩ (haveV.row (pure_en _) rfl (haveV.row (pure_en _) rfl (haveV.row (pure_st _) rfl (haveV.row rfl rfl (haveV.row (pure_en _) rfl trivial)))))
    generalize hY : (F.any fun f => !liftedP R f.id a o) = Y at hst
    refine LoopN.ind T_ok mixed (S := atB R G F a o k out g b gr) (fun i => F.length - i.1) (fun i => i.1 ≤ F.length ∧ Y = (i.2 || (F.drop i.1).any fun f => !liftedP R f.id a o)) (fun _ => rfl) (fun i hi ihB => ?_) (0, false) ⟨Nat.zero_le _, by rw [← hY]; rfl⟩
    obtain ⟨i, v⟩ := i
    obtain ⟨g3, g4⟩ := hi
    simp only at g3 g4 ihB
    by_cases hiF : i < F.length
    case pos =>
      have hldf : en (F.getD i e0) = Am.part true 15 0 15 ((F.map en).getD (0 + i) (.sc undef)) := getD_en hiF
      rw [any_drop _ hiF e0] at g4
      generalize F.getD i e0 = f at hldf g4
      have hL := Lifted_f R f.id a o {} (by omega)
      generalize liftedP R f.id a o = u at hL g4
      have hgo : Y = ((v || !u) || (F.drop (i + 1)).any fun f => !liftedP R f.id a o) := by rw [g4, Bool.or_assoc]
      clear g4 ih hc hc2 hcC hcF hs
      cases v with
      | true =>
        ((repeat ((conv => whnf); (first | (refine LetN.pre ?_; first | ((conv => arg 1; whnf); refine LetN.mk ?_)) | (refine As.pre ?_; first | refine As.mk rfl ?_ | (refine As.mk ?_ ?_; · ((repeat' (refine andT ?_ ?_)) <;> (first | rfl | assumption | exact decide_eq_true (by omega) | exact decide_eq_true (by dsimp only; omega) | exact decide_eq_true (by simp; omega) | (simp; done))))) | (refine LetV.pre ?_; first | refine LetV.mk (t := ety) _ hldf ?_ | refine LetV.mk (.sc (.bool _)) rfl ?_) | (refine LetI.pre ?_; first | refine LetI.wrap (by omega) (by omega) ?_) | (refine LetB.pre ?_; first | refine LetB.dect (by omega) ?_) | (refine Gd.pre ?_; first | refine Gd.pass rfl ?_) | (refine Br.pre ?_; first | refine Br.tt rfl ?_) | (refine Ck.pre ?_; first | refine Ck.mk rfl ?_) | (refine LetL.pre ?_; first | refine LetL.mk [_] rfl ?_)))); (try (conv => whnf)))
        refine LoopN.weak ?sw9 (ihB (i + 1, true) ⟨by omega, hgo⟩ (by omega))
        case sw9 => exact SW.mk id rfl rfl (atNames _ _ _ _ _ (namesAll.row rfl (namesAll.row (pure_en _) rfl))) ⟨.refl _, .refl _, .refl _, .refl _, .refl _, .refl _, .refl _, .refl _, .refl _, .refl _, VLe2.int (by omega), trivial⟩ (haveV.row (pure_en _) rfl (haveV.row (pure_en _) rfl (haveV.row (pure_st _) rfl (haveV.row rfl rfl (haveV.row (pure_en _) rfl trivial)))))
      | false =>
        ((repeat ((conv => whnf); (first | (refine LetN.pre ?_; first | ((conv => arg 1; whnf); refine LetN.mk ?_)) | (refine As.pre ?_; first | refine As.mk rfl ?_ | (refine As.mk ?_ ?_; · ((repeat' (refine andT ?_ ?_)) <;> (first | rfl | assumption | exact decide_eq_true (by omega) | exact decide_eq_true (by dsimp only; omega) | exact decide_eq_true (by simp; omega) | (simp; done))))) | (refine LetV.pre ?_; first | refine LetV.mk (t := ety) _ hldf ?_ | refine LetV.mk (.sc (.int _ _)) rfl ?_ | refine LetV.mk (.sc (.bool _)) rfl ?_) | (refine LetI.pre ?_; first | refine LetI.wrap (by omega) (by omega) ?_) | (refine LetB.pre ?_; first | refine LetB.dect (by omega) ?_) | (refine Gd.pre ?_; first | refine Gd.run rfl ?_) | (refine Br.pre ?_; first | refine Br.tt rfl ?_) | (refine Ck.pre ?_; first | refine Ck.mk rfl ?_) | (refine LetL.pre ?_; first | refine LetL.mk [_] rfl ?_) | (refine CallN.pre ?_; first | refine CallN.lend hL rfl (.full rfl (pure_en _) hRR (.same rfl (.same rfl (.same rfl .nil)))) ?_)))); (try (conv => whnf)))


        refine LoopN.weak ?sw10 (ihB (i + 1, !u) ⟨by omega, hgo⟩ (by omega))
        case sw10 => exact SW.mk id rfl rfl (atNames _ _ _ _ _ (namesAll.row rfl (namesAll.row (pure_en _) rfl))) ⟨.refl _, .refl _, .refl _, .refl _, .refl _, .refl _, .refl _, .refl _, .refl _, .refl _, VLe2.int (by omega), trivial⟩ (haveV.row (pure_en _) rfl (haveV.row (pure_en _) rfl (haveV.row (pure_st _) rfl (haveV.row rfl rfl (haveV.row (pure_en _) rfl trivial)))))
    case neg =>
      clear ihB
      rw [List.drop_eq_nil_of_le (by omega), List.any_nil, Bool.or_false] at g4
      rw [g4] at hst
      rw [hst] at hq
      have hr := room_st (n := out.length + 1) (by omega)
      have hol2 : (out.map stA).length = out.length := List.length_map _
      ((repeat ((conv => whnf); (first | (refine LetN.pre ?_; first | ((conv => arg 1; whnf); refine LetN.mk ?_)) | (refine As.pre ?_; first | refine As.mk rfl ?_ | (refine As.mk ?_ ?_; · ((repeat' (refine andT ?_ ?_)) <;> (first | rfl | assumption | exact decide_eq_true (by omega) | exact decide_eq_true (by dsimp only; omega) | exact decide_eq_true (by simp; omega) | (simp; done))))) | (refine LetV.pre ?_; first | refine LetV.mk (.agg _) rfl ?_) | (refine LetI.pre ?_; first | refine LetI.wrap (by omega) (by omega) ?_) | (refine LetB.pre ?_; first | refine LetB.decf (by omega) ?_) | (refine Br.pre ?_; first | refine Br.ff rfl ?_) | (refine Ck.pre ?_; first | refine Ck.mk rfl ?_) | (refine LetL.pre ?_; first | refine LetL.mk (ty := sty) _ (app_st out ⟨g.id, b, gr, v⟩ _ rfl) ?_)))); (try (conv => whnf)))

      refine LoopN.weak ?sw11 (ih (k + 1, out ++ [⟨g.id, b, gr, v⟩]) ⟨by omega, hq.symm⟩ (by omega))
      case sw11 => exact SW.mk (fun i => if i = 2 then 6 else i) rfl rfl (atNames _ _ _ _ _ rfl) ⟨.refl _, .refl _, .refl _, VLe2.slm_of (by simp), .refl _, .refl _, VLe2.int (by omega), trivial⟩ (haveV.row (pure_en _) rfl (haveV.row (pure_en _) rfl (haveV.row (pure_st _) rfl trivial)))
theorem At_f (l : List E) (a o : Int) (fl : Fl) (hl : l.length < 40) : AFun Tryz.prog 24 0 [.ro fl 15 (l.map en), int a, int o] [] (.ro {} 4 ((atP l a o).map stA)) [] :=
  AFun.frz1 (H := []) (At_s l a o fl hl) rfl (pure_st _) (by simp)
end En
end Go.Proofs.YtgnakhljdjekbaaGreatDoor
namespace Go.Proofs.YtgnakhljdjekbaaGreatDoor
open Go.Proofs.YtgnakhljdjekbaaGreatDoor.Am
set_option maxRecDepth 100000
namespace En
/-- Where an element is put in: behind the last one that isn't greater. -/
def posB {α : Type} (gt : α → Bool) (d : α) (out : List α) : Nat → Nat
  | 0 => 0
  | k + 1 => if gt (out.getD k d) then posB gt d out k else k + 1
theorem posB_le {α : Type} (gt : α → Bool) (d : α) (out : List α) : ∀ k, posB gt d out k ≤ k
  | 0 => Nat.le_refl _
  | k + 1 => by
    unfold posB
    split
    · have := posB_le gt d out k; omega
    · exact Nat.le_refl _
def putB {α : Type} (gt : α → Bool) (d : α) (out : List α) (e : α) : List α := out.take (posB gt d out out.length) ++ e :: out.drop (posB gt d out out.length)
def insId (out : List E) (e : E) : List E := putB (fun x => decide (e.id < x.id)) e0 out e
theorem insId_length (out : List E) (e : E) : (insId out e).length = out.length + 1 := by
  have := posB_le (fun x => decide (e.id < x.id)) e0 out out.length
  simp only [insId, putB, List.length_append, List.length_take, List.length_cons, List.length_drop]
  omega
def cntQ (kd a o : Int) (e : E) : Bool := decide (e.kind = kd ∧ e.day ≤ a ∧ e.on_ ≤ o)
/-- The entries of a kind that count, in the order of their Ids. -/
def countP (l : List E) (kd a o : Int) : List E := (l.filter (cntQ kd a o)).foldl insId []
theorem foldl_ins_length {α : Type} (f : List α → α → List α) (h : ∀ out e, (f out e).length = out.length + 1) : ∀ (l out : List α), (l.foldl f out).length = out.length + l.length
  | [], out => rfl
  | x :: l, out => by rw [List.foldl_cons, foldl_ins_length f h l, h]; simp; omega
theorem countP_length (l : List E) (kd a o : Int) : (countP l kd a o).length ≤ l.length := by
  rw [countP, foldl_ins_length insId insId_length]
  simpa using List.length_filter_le (cntQ kd a o) l
theorem foldl_filter_drop {α β : Type} (q : α → Bool) (f : β → α → β) {l : List α} {k : Nat} (h : k < l.length) (d : α) (x : β) : ((l.drop k).filter q).foldl f x = if q (l.getD k d) then ((l.drop (k + 1)).filter q).foldl f (f x (l.getD k d)) else ((l.drop (k + 1)).filter q).foldl f x := by
  rw [List.drop_eq_getElem_cons h, List.getD_eq_getElem?_getD, List.getElem?_eq_getElem h]
  simp only [Option.getD_some, List.filter_cons]
  split <;> rfl
theorem getD_id {l : List E} {k : Nat} (h : k < l.length) : int (l.getD k e0).id = Am.part false 1 0 15 ((l.map en).getD (0 + k) (.sc undef)) := by
  rw [Nat.zero_add, List.getD_eq_getElem?_getD, List.getD_eq_getElem?_getD, List.getElem?_map, List.getElem?_eq_getElem h]; rfl
theorem copy_row (out : List E) (p x y z w : Nat) (hx : x = p + 1) (hw : w = p) (hy : y = out.length - p) (hz : z = out.length + 1 - p) (hp : p ≤ out.length) :
    ((out ++ [e0]).take (p + 1) ++ out.drop p).map en = splice ((out ++ [e0]).map en) x (((((out ++ [e0]).map en).drop w).take z).take y) := by
  subst hx hw hy hz
  have hM : ((((out ++ [e0]).map en).drop w).take (out.length + 1 - w)).take (out.length - w) = (out.drop w).map en := by
    rw [List.take_take, Nat.min_eq_left (by omega), ← List.map_drop, ← List.map_take, List.drop_append_of_le_length hp, List.take_append_of_le_length (by simp), List.take_of_length_le (by simp)]
  rw [hM]
  unfold splice
  rw [List.drop_eq_nil_of_le (i := w + 1 + _) (by simp; omega), List.append_nil, List.map_append, List.map_take]
theorem set_row (out : List E) (p : Nat) (e : E) (hp : p ≤ out.length) : (out.take p ++ e :: out.drop p).map en = (((out ++ [e0]).take (p + 1) ++ out.drop p).map en).set (0 + p) (en e) := by
  rw [Nat.zero_add, ← List.map_set]
  congr 1
  have hlt : p < (out ++ [e0]).length := by simp; omega
  rw [List.take_succ_eq_append_getElem hlt, List.append_assoc, List.take_append_of_le_length hp, List.set_append_right _ _ (by simp; omega), List.length_take, Nat.min_eq_left hp, Nat.sub_self]
  rfl
abbrev couS (l : List E) (fl : Fl) (kd a o : Int) : Nat × List E → AS
  | (k, out) => ⟨[(0, .ro fl 15 (l.map en)), (1, int kd), (2, int a), (3, int o), (9, .slm {} 0 15 0 out.length), (10, int k)], [(0, .row 15 ety (out.map en))], 1⟩
abbrev couI (l : List E) (fl : Fl) (kd a o : Int) (k : Nat) (out : List E) (e : E) : Nat → AS
  | at_ => ⟨[(0, .ro fl 15 (l.map en)), (1, int kd), (2, int a), (3, int o), (9, .slm {} 0 15 0 out.length), (10, int k), (11, .ptr 1 15 0 0), (12, int at_)], [(0, .row 15 ety (out.map en)), (1, .row 15 ety [en e])], 2⟩
end En
end Go.Proofs.YtgnakhljdjekbaaGreatDoor
namespace Go.Proofs.YtgnakhljdjekbaaGreatDoor
open Go.Proofs.YtgnakhljdjekbaaGreatDoor.Am
set_option maxRecDepth 100000
namespace En
/-! ### Lifted -/
def rLiftedP (l : List E) (f a o : Int) : Bool := (countP l 6 a o).any fun e => decide (e.ref = f)
/-! ### Known -/
abbrev rknS (l : List E) (fl : Fl) (a : Int) : Nat × List E → AS
  | (k, out) => ⟨[(0, .ro fl 15 (l.map en)), (1, int a), (5, .slm {} 0 15 0 out.length), (6, int k)], [(0, .row 15 ety (out.map en))], 1⟩
/-! ### Awards -/
def rAwardsP (l : List E) (a o : Int) : List E := (countP l 8 a o).filter fun e => !((countP l 9 a o).any fun x => decide (x.ref = e.id))
abbrev rawS (A B : List E) : Nat × List E → AS
  | (k, out) => ⟨[(7, .ro {} 15 (A.map en)), (8, .ro {} 15 (B.map en)), (9, .slm {} 0 15 0 out.length), (10, int k)], [(0, .row 15 ety (out.map en))], 1⟩
abbrev rawI (A B : List E) (k : Nat) (out : List E) : Nat × Bool → AS
  | (i, v) => ⟨[(7, .ro {} 15 (A.map en)), (8, .ro {} 15 (B.map en)), (9, .slm {} 0 15 0 out.length), (10, int k), (11, bool v), (12, int i)], [(0, .row 15 ety (out.map en))], 1⟩
end En
end Go.Proofs.YtgnakhljdjekbaaGreatDoor
namespace Go.Proofs.YtgnakhljdjekbaaGreatDoor
open Go.Proofs.YtgnakhljdjekbaaGreatDoor.Am
set_option maxRecDepth 100000
namespace En
def stepR (g : E) (x : Int × Int × Int × Bool) (c : E) : Int × Int × Int × Bool := if c.ref = g.id then stepC x c else x
def rstand (l C F : List E) (a o : Int) (g : E) : St := ⟨g.id, (C.foldl (stepR g) (0, g.grade, 0, false)).1, (C.foldl (stepR g) (0, g.grade, 0, false)).2.1, F.any fun f => decide (f.ref = g.id) && !rLiftedP l f.id a o⟩
def rAtP (l : List E) (a o : Int) : List St := (countP l 3 a o).map (rstand l (countP l 4 a o) (countP l 5 a o) a o)
abbrev ratS (l G C F : List E) (fl : Fl) (a o : Int) : Nat × List St → AS
  | (k, out) => ⟨[(0, .ro fl 15 (l.map en)), (1, int a), (2, int o), (7, .ro {} 15 (G.map en)), (8, .ro {} 15 (C.map en)), (9, .ro {} 15 (F.map en)), (10, .slm {} 0 4 0 out.length), (11, int k)], [(0, .row 4 sty (out.map stA))], 1⟩
abbrev ratA (l G C F : List E) (fl : Fl) (a o : Int) (k : Nat) (out : List St) (g : E) : Nat × Int × Int × Int × Bool → AS
  | (i, b, gr, d, s) => ⟨[(0, .ro fl 15 (l.map en)), (1, int a), (2, int o), (7, .ro {} 15 (G.map en)), (8, .ro {} 15 (C.map en)), (9, .ro {} 15 (F.map en)), (10, .slm {} 0 4 0 out.length), (11, int k), (12, .ptr 1 15 0 0), (13, .ptr 2 4 0 0), (14, int d), (15, bool s), (16, int i)],
      [(0, .row 4 sty (out.map stA)), (1, .row 15 ety [en g]), (2, .row 4 sty [stA ⟨g.id, b, gr, false⟩])], 3⟩
abbrev ratB (l G C F : List E) (fl : Fl) (a o : Int) (k : Nat) (out : List St) (g : E) (b gr : Int) : Nat × Bool → AS
  | (i, v) => ⟨[(0, .ro fl 15 (l.map en)), (1, int a), (2, int o), (7, .ro {} 15 (G.map en)), (8, .ro {} 15 (C.map en)), (9, .ro {} 15 (F.map en)), (10, .slm {} 0 4 0 out.length), (11, int k), (12, .ptr 1 15 0 0), (13, .ptr 2 4 0 0), (18, int i)],
      [(0, .row 4 sty (out.map stA)), (1, .row 15 ety [en g]), (2, .row 4 sty [stA ⟨g.id, b, gr, v⟩])], 3⟩
theorem ratNames (g : E) (s : St) (out : List St) (ok : Nat → Bool) : namesAll ok [(0, .row 4 sty (out.map stA)), (1, .row 15 ety [en g]), (2, .row 4 sty [stA s])] = true :=
  namesAll.row (pure_st _) (namesAll.row rfl (namesAll.row rfl rfl))
end En
end Go.Proofs.YtgnakhljdjekbaaGreatDoor
namespace Go.Proofs.YtgnakhljdjekbaaGreatDoor
open Go.Proofs.YtgnakhljdjekbaaGreatDoor.Am
set_option maxRecDepth 100000
namespace En
theorem copyG {α : Type} (f : α → AV) (d : α) (out : List α) (p x y z w : Nat) (hx : x = p + 1) (hw : w = p) (hy : y = out.length - p) (hz : z = out.length + 1 - p) (hp : p ≤ out.length) :
    ((out ++ [d]).take (p + 1) ++ out.drop p).map f = splice ((out ++ [d]).map f) x (((((out ++ [d]).map f).drop w).take z).take y) := by
  subst hx hw hy hz
  have hM : ((((out ++ [d]).map f).drop w).take (out.length + 1 - w)).take (out.length - w) = (out.drop w).map f := by
    rw [List.take_take, Nat.min_eq_left (by omega), ← List.map_drop, ← List.map_take, List.drop_append_of_le_length hp, List.take_append_of_le_length (by simp), List.take_of_length_le (by simp)]
  rw [hM]
  unfold splice
  rw [List.drop_eq_nil_of_le (i := w + 1 + _) (by simp; omega), List.append_nil, List.map_append, List.map_take]
theorem setG {α : Type} (f : α → AV) (d : α) (out : List α) (p : Nat) (e : α) (hp : p ≤ out.length) : (out.take p ++ e :: out.drop p).map f = (((out ++ [d]).take (p + 1) ++ out.drop p).map f).set (0 + p) (f e) := by
  rw [Nat.zero_add, ← List.map_set]
  congr 1
  have hlt : p < (out ++ [d]).length := by simp; omega
  rw [List.take_succ_eq_append_getElem hlt, List.append_assoc, List.take_append_of_le_length hp, List.set_append_right _ _ (by simp; omega), List.length_take, Nat.min_eq_left hp, Nat.sub_self]
  rfl
def c0 : Ch := ⟨0, 0, 0, 0⟩
theorem getD_on {l : List Ch} {k : Nat} (h : k < l.length) : int (l.getD k c0).on_ = Am.part false 1 3 4 ((l.map chA).getD (0 + k) (.sc undef)) := by
  rw [Nat.zero_add, List.getD_eq_getElem?_getD, List.getD_eq_getElem?_getD, List.getElem?_map, List.getElem?_eq_getElem h]; rfl
theorem stor_ch (l : List Ch) (i j : Nat) : storables (((l.map chA).drop i).take j) = true := by
  refine List.all_eq_true.2 fun e he => ?_
  obtain ⟨p, _, rfl⟩ := List.mem_map.1 (List.mem_of_mem_drop (List.mem_of_mem_take he))
  rfl
def insCh (out : List Ch) (c : Ch) : List Ch := putB (fun x => decide (c.on_ < x.on_)) c0 out c
theorem insCh_length (out : List Ch) (c : Ch) : (insCh out c).length = out.length + 1 := by
  have := posB_le (fun x => decide (c.on_ < x.on_)) c0 out out.length
  simp only [insCh, putB, List.length_append, List.length_take, List.length_cons, List.length_drop]
  omega
def enQ (st pr : Int) (e : E) : Bool := decide (e.student = st ∧ e.programme = pr)
/-- The earliest enrolment. -/
def stepB (st pr : Int) (x : Int × Bool) (e : E) : Int × Bool := if (e.student = st ∧ e.programme = pr) ∧ (x.2 = false ∨ e.on_ < x.1) then (e.on_, true) else x
def rBegin (l : List E) (st pr a o : Int) : Int × Bool := (countP l 1 a o).foldl (stepB st pr) (0, false)
def rChoices (l : List E) (st pr b a o : Int) : List Ch := ((countP l 2 a o).filter (enQ st pr)).foldl (fun out e => insCh out ⟨pr, e.version, b, e.on_⟩) []
def rEnrolP (l : List E) (st pr a o : Int) : Int × List Ch × Bool := if (rBegin l st pr a o).2 then ((rBegin l st pr a o).1, rChoices l st pr (rBegin l st pr a o).1 a o, true) else (0, [], false)
abbrev renS (l A : List E) (fl : Fl) (st pr a o : Int) : Nat × Int × Bool → AS
  | (k, b, s) => ⟨[(0, .ro fl 15 (l.map en)), (1, int st), (2, int pr), (3, int a), (4, int o), (13, .ro {} 15 (A.map en)), (14, int b), (15, bool s), (16, int k)], [], 0⟩
end En
end Go.Proofs.YtgnakhljdjekbaaGreatDoor
namespace Go.Proofs.YtgnakhljdjekbaaGreatDoor
open Go.Proofs.YtgnakhljdjekbaaGreatDoor.Am
set_option maxRecDepth 100000
namespace En
/-- What == says of two entries. -/
def enB (a b : E) : Bool := (a.id == b.id) && ((a.school == b.school) && ((a.student == b.student) && ((a.kind == b.kind) && ((a.day == b.day) && ((a.on_ == b.on_) && ((a.course.toList == b.course.toList) && ((a.credits == b.credits) && ((a.grade == b.grade) && ((a.ref == b.ref) && ((a.frm == b.frm) && ((a.programme == b.programme) && ((a.version == b.version) && ((a.key == b.key) && ((a.mark.toList == b.mark.toList) && true))))))))))))))
def stB (a b : St) : Bool := (a.entry == b.entry) && ((a.by_ == b.by_) && ((a.grade == b.grade) && ((a.void == b.void) && true)))
def chB (a b : Ch) : Bool := (a.pr == b.pr) && ((a.ver == b.ver) && ((a.beg == b.beg) && ((a.on_ == b.on_) && true)))
theorem enB_self (a : E) : enB a a = true := by simp [enB]
theorem stB_self (a : St) : stB a a = true := by simp [stB]
theorem chB_self (a : Ch) : chB a a = true := by simp [chB]
def s0 : St := ⟨0, 0, 0, false⟩
theorem Same_f (l : List St) (f1 f2 : Fl) (hl : l.length ≤ 100000) : AFun Tryz.prog 25 0 [.ro f1 4 (l.map stA), .ro f2 4 (l.map stA)] [] (bool true) [] := by
  refine AFun.of_W T_ok mixed Tryz.func25 rfl (Nat.le_of_ble_eq_true rfl) rfl ?_
  have hm : (l.map stA).length = l.length := List.length_map _
  ((repeat ((conv => whnf); (first | (refine LetN.pre ?_; first | ((conv => arg 1; whnf); refine LetN.mk ?_)) | (refine As.pre ?_; first | refine As.mk rfl ?_ | (refine As.mk ?_ ?_; · decide +kernel) | refine As.mk (andT (nor_self _) rfl) ?_ | refine As.mk (andT (nor_self _) (or_t _)) ?_ | refine As.mk (andT (or_t _) (or_nself _)) ?_ | refine As.mk (andT (or_t _) (or_t _)) ?_ | refine As.mk (andT (nor_self _) (andT (nor_self _) rfl)) ?_ | (refine As.mk ?_ ?_; · ((repeat' (refine andT ?_ ?_)) <;> (first | rfl | assumption | exact decide_eq_true (by omega) | exact decide_eq_true (by dsimp only; omega) | exact decide_eq_true (by simp; omega) | (simp; done))))) | (refine LetV.pre ?_; first | refine LetV.mk (.sc (.int _ _)) rfl ?_ | refine LetV.mk (.sc (.bool _)) rfl ?_ | refine LetV.mk (.sc _) rfl ?_ | refine LetV.mk (.agg _) rfl ?_ | refine LetV.mk (.slm _ _ _ _ _) rfl ?_ | refine LetV.mk (.ro _ _ _) rfl ?_ | refine LetV.mk (.ptr _ _ _ _) rfl ?_ | refine LetV.mk (.clo _ _ _) rfl ?_ | refine LetV.mk (.rp _ _) rfl ?_) | (refine LetI.pre ?_; first | refine LetI.wrap (by omega) (by omega) ?_ | refine LetI.mk _ rfl ?_) | (refine LetB.pre ?_; first | refine LetB.tt rfl ?_ | refine LetB.ff rfl ?_ | refine LetB.tt (by assumption) ?_ | refine LetB.ff (by assumption) ?_ | refine LetB.dect (by omega) ?_ | refine LetB.decf (by omega) ?_ | refine LetB.beqt (by omega) ?_ | refine LetB.beqf (by omega) ?_ | refine LetB.bnet (by omega) ?_ | refine LetB.bnef (by omega) ?_ | refine LetB.mk _ rfl ?_) | (refine Gd.pre ?_; first | refine Gd.run rfl ?_ | refine Gd.pass rfl ?_ | refine Gd.run (by assumption) ?_ | refine Gd.pass (by assumption) ?_ | (refine Gd.run ?_ ?_; · decide +kernel) | (refine Gd.pass ?_ ?_; · decide +kernel) | refine Gd.both ?_) | (refine Br.pre ?_; first | refine Br.tt rfl ?_ | refine Br.ff rfl ?_ | refine Br.tt (by assumption) ?_ | refine Br.ff (by assumption) ?_ | (refine Br.tt ?_ ?_; · decide +kernel) | (refine Br.ff ?_ ?_; · decide +kernel)) | (refine Ck.pre ?_; first | refine Ck.drawn (by kernel_rfl) ?_ | refine Ck.mk rfl ?_) | (refine LetL.pre ?_; first | refine LetL.mk [_] rfl ?_ | refine LetL.mk _ rfl ?_) | refine forceAs.pass ?_ | refine forceEs.pass ?_ | refine forceC.pass ?_))); (try (conv => whnf)))
  refine LoopN.weak (s1 := ⟨[(0, .ro f1 4 (l.map stA)), (1, .ro f2 4 (l.map stA)), (5, int (0 : Nat))], [], 0⟩) (SW.fr0 (Nat.le_refl _) rfl ⟨.refl _, .refl _, .refl _, trivial⟩) ?_
  refine LoopN.ind T_ok mixed (S := fun k : Nat => ⟨[(0, .ro f1 4 (l.map stA)), (1, .ro f2 4 (l.map stA)), (5, int k)], [], 0⟩) (fun k => l.length - k) (fun k => k ≤ l.length) (fun _ => rfl) (fun k hk ih => ?_) 0 (Nat.zero_le _)
  by_cases hlt : k < l.length
  case neg =>
    clear ih
    ((repeat ((conv => whnf); (first | (refine LetN.pre ?_; first | ((conv => arg 1; whnf); refine LetN.mk ?_)) | (refine As.pre ?_; first | refine As.mk rfl ?_ | (refine As.mk ?_ ?_; · decide +kernel) | refine As.mk (andT (nor_self _) rfl) ?_ | refine As.mk (andT (nor_self _) (or_t _)) ?_ | refine As.mk (andT (or_t _) (or_nself _)) ?_ | refine As.mk (andT (or_t _) (or_t _)) ?_ | refine As.mk (andT (nor_self _) (andT (nor_self _) rfl)) ?_ | (refine As.mk ?_ ?_; · ((repeat' (refine andT ?_ ?_)) <;> (first | rfl | assumption | exact decide_eq_true (by omega) | exact decide_eq_true (by dsimp only; omega) | exact decide_eq_true (by simp; omega) | (simp; done))))) | (refine LetV.pre ?_; first | refine LetV.mk (.sc (.int _ _)) rfl ?_ | refine LetV.mk (.sc (.bool _)) rfl ?_ | refine LetV.mk (.sc _) rfl ?_ | refine LetV.mk (.agg _) rfl ?_ | refine LetV.mk (.slm _ _ _ _ _) rfl ?_ | refine LetV.mk (.ro _ _ _) rfl ?_ | refine LetV.mk (.ptr _ _ _ _) rfl ?_ | refine LetV.mk (.clo _ _ _) rfl ?_ | refine LetV.mk (.rp _ _) rfl ?_) | (refine LetI.pre ?_; first | refine LetI.wrap (by omega) (by omega) ?_ | refine LetI.mk _ rfl ?_) | (refine LetB.pre ?_; first | refine LetB.tt rfl ?_ | refine LetB.ff rfl ?_ | refine LetB.tt (by assumption) ?_ | refine LetB.ff (by assumption) ?_ | refine LetB.dect (by omega) ?_ | refine LetB.decf (by omega) ?_ | refine LetB.beqt (by omega) ?_ | refine LetB.beqf (by omega) ?_ | refine LetB.bnet (by omega) ?_ | refine LetB.bnef (by omega) ?_ | refine LetB.mk _ rfl ?_) | (refine Gd.pre ?_; first | refine Gd.run rfl ?_ | refine Gd.pass rfl ?_ | refine Gd.run (by assumption) ?_ | refine Gd.pass (by assumption) ?_ | (refine Gd.run ?_ ?_; · decide +kernel) | (refine Gd.pass ?_ ?_; · decide +kernel) | refine Gd.both ?_) | (refine Br.pre ?_; first | refine Br.tt rfl ?_ | refine Br.ff rfl ?_ | refine Br.tt (by assumption) ?_ | refine Br.ff (by assumption) ?_ | (refine Br.tt ?_ ?_; · decide +kernel) | (refine Br.ff ?_ ?_; · decide +kernel)) | (refine Ck.pre ?_; first | refine Ck.drawn (by kernel_rfl) ?_ | refine Ck.mk rfl ?_) | (refine LetL.pre ?_; first | refine LetL.mk [_] rfl ?_ | refine LetL.mk _ rfl ?_) | refine forceAs.pass ?_ | refine forceEs.pass ?_ | refine forceC.pass ?_))); (try (conv => whnf)))
    exact ⟨.inl rfl, ⟨_, rfl, rfl⟩, trivial⟩
  have hld : stA (l.getD k s0) = (l.map stA).getD k (.sc undef) := mapD s0 hlt
  generalize l.getD k s0 = e at hld
  have he : (!stB e e) = false := by rw [stB_self]; rfl
  ((repeat ((conv => whnf); (first | (refine LetN.pre ?_; first | ((conv => arg 1; whnf); refine LetN.mk ?_)) | (refine As.pre ?_; first | refine As.mk rfl ?_ | (refine As.mk ?_ ?_; · decide +kernel) | refine As.mk (andT (nor_self _) rfl) ?_ | refine As.mk (andT (nor_self _) (or_t _)) ?_ | refine As.mk (andT (or_t _) (or_nself _)) ?_ | refine As.mk (andT (or_t _) (or_t _)) ?_ | refine As.mk (andT (nor_self _) (andT (nor_self _) rfl)) ?_ | (refine As.mk ?_ ?_; · ((repeat' (refine andT ?_ ?_)) <;> (first | rfl | assumption | exact decide_eq_true (by omega) | exact decide_eq_true (by dsimp only; omega) | exact decide_eq_true (by simp; omega) | (simp; done))))) | (refine LetV.pre ?_; first | refine LetV.mk (t := 59) _ hld ?_ | refine LetV.mk (.sc (.int _ _)) rfl ?_ | refine LetV.mk (.sc (.bool _)) rfl ?_ | refine LetV.mk (.sc _) rfl ?_ | refine LetV.mk (.agg _) rfl ?_ | refine LetV.mk (.slm _ _ _ _ _) rfl ?_ | refine LetV.mk (.ro _ _ _) rfl ?_ | refine LetV.mk (.ptr _ _ _ _) rfl ?_ | refine LetV.mk (.clo _ _ _) rfl ?_ | refine LetV.mk (.rp _ _) rfl ?_) | (refine LetI.pre ?_; first | refine LetI.wrap (by omega) (by omega) ?_ | refine LetI.mk _ rfl ?_) | (refine LetB.pre ?_; first | refine LetB.tt rfl ?_ | refine LetB.ff rfl ?_ | refine LetB.tt (by assumption) ?_ | refine LetB.ff (by assumption) ?_ | refine LetB.dect (by omega) ?_ | refine LetB.decf (by omega) ?_ | refine LetB.beqt (by omega) ?_ | refine LetB.beqf (by omega) ?_ | refine LetB.bnet (by omega) ?_ | refine LetB.bnef (by omega) ?_ | refine LetB.mk _ rfl ?_) | (refine Gd.pre ?_; first | refine Gd.run rfl ?_ | refine Gd.pass rfl ?_ | refine Gd.run (by assumption) ?_ | refine Gd.pass (by assumption) ?_ | (refine Gd.run ?_ ?_; · decide +kernel) | (refine Gd.pass ?_ ?_; · decide +kernel) | refine Gd.both ?_) | (refine Br.pre ?_; first | refine Br.tt rfl ?_ | refine Br.ff rfl ?_ | refine Br.tt (by assumption) ?_ | refine Br.ff (by assumption) ?_ | (refine Br.tt ?_ ?_; · decide +kernel) | (refine Br.ff ?_ ?_; · decide +kernel)) | (refine Ck.pre ?_; first | refine Ck.drawn (by kernel_rfl) ?_ | refine Ck.mk rfl ?_) | (refine LetL.pre ?_; first | refine LetL.mk [_] rfl ?_ | refine LetL.mk _ rfl ?_) | refine forceAs.pass ?_ | refine forceEs.pass ?_ | refine forceC.pass ?_))); (try (conv => whnf)))
  refine LoopN.weak ?_ (ih (k + 1) (by omega) (by omega))
  exact SW.fr0 (Nat.le_refl _) rfl ⟨.refl _, .refl _, VLe2.int (by omega), trivial⟩
end En
end Go.Proofs.YtgnakhljdjekbaaGreatDoor
namespace Go.Proofs.YtgnakhljdjekbaaGreatDoor
open Go.Proofs.YtgnakhljdjekbaaGreatDoor.Am
set_option maxRecDepth 100000
namespace En
/-- A rune that no code has. -/
def wrongR (c : Nat) : Bool := decide ((c < 65 ∨ 90 < c) ∧ (c < 48 ∨ 57 < c))
theorem wrong_calls (w : World) : Go.Proofs.PredAt Tryz.prog 132 #[] Go.Proofs.encR wrongR w := by
  intro W x _
  show Calls Tryz.prog 132 #[.int .i32 (x : Int)] W _
  unfold wrongR
  go_enter Tryz.func132, Tryz.ntmps132
  go_wp2
  all_goals
    go_ret
    refine ⟨?_, 0, rfl⟩
  all_goals
    refine congrArg (fun b => Ending.returned (.bool b)) (Bool.eq_iff_iff.2 ?_)
    simp only [Bool.and_eq_true, Bool.or_eq_true, decide_eq_true_eq, Bool.false_eq_true, false_iff, true_iff]
    try omega
def lays : Go.Shelf.Ren := ⟨fun n => match n with | 315 => 143 | n => n, fun t => match t with | 0 => 0 | 3 => 3 | 4 => 4 | 9 => 9 | 21 => 21 | 40 => 166 | t => t, fun g => g⟩
theorem lays_ok : Go.Proofs.Lays.n315 Tryz.prog lays where
  mixed := mixed
  f315 := by kernel_rfl
  t0 := by kernel_rfl
  a0 := fun w => TT.Ok.isAgg T_ok (t := 0) rfl w
  z0 := fun w => TT.Ok.sizeOf T_ok (t := 0) rfl w
  v0 := fun w => TT.Ok.zero T_ok (t := 0) rfl w
  t3 := by kernel_rfl
  a3 := fun w => TT.Ok.isAgg T_ok (t := 3) rfl w
  z3 := fun w => TT.Ok.sizeOf T_ok (t := 3) rfl w
  v3 := fun w => TT.Ok.zero T_ok (t := 3) rfl w
  t4 := by kernel_rfl
  a4 := fun w => TT.Ok.isAgg T_ok (t := 4) rfl w
  z4 := fun w => TT.Ok.sizeOf T_ok (t := 4) rfl w
  v4 := fun w => TT.Ok.zero T_ok (t := 4) rfl w
  t9 := by kernel_rfl
  a9 := fun w => TT.Ok.isAgg T_ok (t := 9) rfl w
  z9 := fun w => TT.Ok.sizeOf T_ok (t := 9) rfl w
  v9 := fun w => TT.Ok.zero T_ok (t := 9) rfl w
  t21 := by kernel_rfl
  a21 := fun w => TT.Ok.isAgg T_ok (t := 21) rfl w
  z21 := fun w => TT.Ok.sizeOf T_ok (t := 21) rfl w
  v21 := fun w => TT.Ok.zero T_ok (t := 21) rfl w
  t40 := by kernel_rfl
  a40 := fun w => TT.Ok.isAgg T_ok (t := 166) rfl w
  z40 := fun w => TT.Ok.sizeOf T_ok (t := 166) rfl w
  v40 := fun w => TT.Ok.zero T_ok (t := 166) rfl w
theorem indexFunc_f (s : ByteArray) : AFun Tryz.prog 143 0 [str s, .clo 132 [], bool true] [] (int (Go.Lib.idxFunc wrongR true s)) [] := by
  intro w g xs hl hx hH _
  obtain ⟨a, b, c, rfl⟩ : ∃ a b c, xs = #[a, b, c] := by
    rcases xs with ⟨l⟩
    rcases l with _ | ⟨a, _ | ⟨b, _ | ⟨c, _ | ⟨d, l⟩⟩⟩⟩
    all_goals simp at hl
    exact ⟨a, b, c, rfl⟩
  have h0 := (hx 0 _ a rfl rfl).sc_inv
  have h1 := hx 1 _ b rfl rfl
  have h2 := (hx 2 _ c rfl rfl).sc_inv
  subst h0 h2
  cases h1 with
  | clo hk hc hv =>
    rename_i fs xs
    have e1 : fs = #[] := Array.eq_empty_of_size_eq_zero hk
    subst e1
    simp at hc
    have e2 : xs = #[] := Array.eq_empty_of_size_eq_zero hc.symm
    subst e2
    have := Go.Proofs.Any.strings_indexFunc lays_ok 132 #[] (fun args w => callFunc_run (by kernel_rfl) args w) wrongR true s w (wrong_calls w)
    refine this.mono fun e w' ⟨he, hb⟩ => ⟨_, g, he, ?_, .sc _ rfl, ?_⟩
    · exact ⟨fun _ _ => rfl, fun b h => ⟨h, hb.block b (hH.lt b h)⟩, fun b cs ty fz h => ⟨cs, (hb.block b (heap_lt h)).trans h, rfl⟩, ⟨hb.os, hb.tape, hb.output, hb.size, fun b hlt _ => hb.block b hlt⟩, fun id B b E h => (by cases h), fun b h _ => .inl h⟩
    · exact ⟨fun id B h => (by cases h), fun i j b E E' A B h => (by cases h), fun i b E B h => (by cases h), fun b h => Nat.lt_of_lt_of_le (hH.lt b h) hb.size, hH.gl.mono fun b h => ⟨h, hb.block b (hH.lt b h)⟩⟩
end En
end Go.Proofs.YtgnakhljdjekbaaGreatDoor
namespace Go.Proofs.YtgnakhljdjekbaaGreatDoor
open Go.Proofs.YtgnakhljdjekbaaGreatDoor.Am
set_option maxRecDepth 100000
namespace En
theorem decode_low {s : ByteArray} {i : Nat} (h : (s.get! i).toNat < 128) : Utf8.decode s i = ((s.get! i).toNat, 1) := by
  unfold Utf8.decode
  simp only [Nat.add_zero]
  rw [if_pos h]
theorem decode_high {s : ByteArray} {i : Nat} (h : 128 ≤ (s.get! i).toNat) : 128 ≤ (Utf8.decode s i).1 := by
  unfold Utf8.decode
  simp only [Nat.add_zero]
  rw [if_neg (by omega)]
  split
  · split
    · assumption
    · decide
  · split
    · split
      · rename_i h1
        simp only [Bool.and_eq_true, decide_eq_true_eq] at h1
        exact Nat.le_trans (by omega) h1.1
      · decide
    · split
      · split
        · rename_i h1
          simp only [Bool.and_eq_true, decide_eq_true_eq] at h1
          exact Nat.le_trans (by omega) h1.1
        · decide
      · decide
theorem wrong_high {c : Nat} (h : 128 ≤ c) : wrongR c = true := by
  unfold wrongR
  rw [decide_eq_true_eq]; omega
theorem idx_code (s : ByteArray) : ∀ (f pos : Nat), s.size ≤ pos + f → (Go.Lib.idxFuncFrom wrongR true s f pos < 0 ↔ ∀ i, pos ≤ i → i < s.size → wrongR (s.get! i).toNat = false)
  | 0, pos, h => by
    simp only [Go.Lib.idxFuncFrom]
    exact ⟨fun _ i h1 h2 => by omega, fun _ => by omega⟩
  | f + 1, pos, h => by
    unfold Go.Lib.idxFuncFrom
    split
    · rename_i hp
      by_cases hw : wrongR (s.get! pos).toNat = true
      · have : wrongR (Utf8.decode s pos).1 = true := by
          by_cases hl : (s.get! pos).toNat < 128
          · rw [decode_low hl]; exact hw
          · exact wrong_high (decode_high (by omega))
        rw [if_pos this]
        refine ⟨fun h => by omega, fun h => ?_⟩
        have := h pos (Nat.le_refl _) hp
        rw [hw] at this; cases this
      · have hl : (s.get! pos).toNat < 128 := by
          rcases Nat.lt_or_ge (s.get! pos).toNat 128 with h | h
          · exact h
          · exact absurd (wrong_high h) hw
        rw [decode_low hl]
        simp only
        rw [if_neg hw, idx_code s f (pos + 1) (by omega)]
        refine ⟨fun h i h1 h2 => ?_, fun h i h1 h2 => h i (by omega) h2⟩
        by_cases hi : i = pos
        · subst hi; simpa using hw
        · exact h i (by omega) h2
    · exact ⟨fun _ i h1 h2 => by omega, fun _ => by omega⟩
/-- The byte at i. -/
abbrev byt (s : ByteArray) (i : Nat) : Nat := (s.data.toList.getD i 0).toNat
theorem byt_eq (s : ByteArray) (i : Nat) : (s.get! i).toNat = byt s i := by
  obtain ⟨d⟩ := s
  show (d[i]!).toNat = (d.toList.getD i 0).toNat
  rw [List.getD_eq_getElem?_getD, Array.getElem?_toList, getElem!_def]
  cases d[i]? <;> rfl
/-- A string is a code. -/
def okCode (s : ByteArray) : Prop := (1 ≤ s.size ∧ s.size ≤ 8) ∧ ∀ i, i < s.size → wrongR (byt s i) = false
theorem nilStr (s : ByteArray) : (s.toList == (⟨#[]⟩ : ByteArray).toList) = decide (s.size = 0) := by
  rw [Bool.eq_iff_iff, beq_iff_eq, decide_eq_true_eq, ByteArray.toList_eq, ByteArray.toList_eq]
  show s.data.toList = [] ↔ s.data.size = 0
  rw [← Array.length_toList]
  exact List.length_eq_zero_iff.symm
theorem IndexFunc_f (s : ByteArray) : AFun Tryz.prog 133 0 [str s, .clo 132 []] [] (int (Go.Lib.idxFunc wrongR true s)) [] := by
  refine AFun.of_W T_ok mixed Tryz.func133 rfl (Nat.le_of_ble_eq_true rfl) rfl ?_
  ((repeat ((conv => whnf); (first | (refine As.pre ?_; first | refine As.mk rfl ?_) | (refine Ck.pre ?_; first | refine Ck.mk rfl ?_) | (refine CallN.pre ?_; first | refine CallN.pure (indexFunc_f s) rfl rfl ?_)))); (try (conv => whnf)))
  exact ⟨.inl rfl, ⟨_, rfl, rfl⟩, trivial⟩
open Classical in
theorem Code_f (s : ByteArray) : AFun Tryz.prog 106 0 [str s] [] (bool (decide (okCode s))) [] := by
  refine AFun.of_W T_ok mixed Tryz.func106 rfl (Nat.le_of_ble_eq_true rfl) rfl ?_
  have hi := IndexFunc_f s
  have hx := idx_code s s.size 0 (by omega)
  rw [show Go.Lib.idxFuncFrom wrongR true s s.size 0 = Go.Lib.idxFunc wrongR true s from rfl] at hx
  generalize Go.Lib.idxFunc wrongR true s = r at hi hx
  have hn := nilStr s
  by_cases h0 : s.size = 0
  · have hb : (!(s.toList == (⟨#[]⟩ : ByteArray).toList)) = false := by rw [hn, decide_eq_true h0]; rfl
    ((repeat ((conv => whnf); (first | (refine As.pre ?_; first | refine As.mk rfl ?_) | (refine LetB.pre ?_; first | refine LetB.ff (by assumption) ?_) | (refine Gd.pre ?_; first | refine Gd.pass rfl ?_) | (refine Ck.pre ?_; first | refine Ck.mk rfl ?_)))); (try (conv => whnf)))
    exact ⟨.inl rfl, ⟨_, rfl, congrArg bool (decide_eq_false fun h => by have := h.1.1; omega).symm⟩, trivial⟩
  · have hb : (!(s.toList == (⟨#[]⟩ : ByteArray).toList)) = true := by rw [hn, decide_eq_false h0]; rfl
    by_cases h8 : s.size ≤ 8
    · by_cases hr : r < 0
      · ((repeat ((conv => whnf); (first | (refine As.pre ?_; first | refine As.mk rfl ?_) | (refine LetI.pre ?_; first | refine LetI.mk _ rfl ?_) | (refine LetB.pre ?_; first | refine LetB.tt (by assumption) ?_ | refine LetB.dect (by omega) ?_) | (refine Gd.pre ?_; first | refine Gd.run rfl ?_) | (refine Ck.pre ?_; first | refine Ck.mk rfl ?_) | (refine CallN.pre ?_; first | refine CallN.pure hi rfl rfl ?_)))); (try (conv => whnf)))
        exact ⟨.inl rfl, ⟨_, rfl, congrArg bool (decide_eq_true ⟨⟨by omega, h8⟩, fun i h => by rw [← byt_eq]; exact hx.1 hr i (Nat.zero_le _) h⟩).symm⟩, trivial⟩
      · ((repeat ((conv => whnf); (first | (refine As.pre ?_; first | refine As.mk rfl ?_) | (refine LetI.pre ?_; first | refine LetI.mk _ rfl ?_) | (refine LetB.pre ?_; first | refine LetB.tt (by assumption) ?_ | refine LetB.dect (by omega) ?_ | refine LetB.decf (by omega) ?_) | (refine Gd.pre ?_; first | refine Gd.run rfl ?_) | (refine Ck.pre ?_; first | refine Ck.mk rfl ?_) | (refine CallN.pre ?_; first | refine CallN.pure hi rfl rfl ?_)))); (try (conv => whnf)))
        exact ⟨.inl rfl, ⟨_, rfl, congrArg bool (decide_eq_false fun h => hr (hx.2 fun i _ hi => by rw [byt_eq]; exact h.2 i hi)).symm⟩, trivial⟩
    · ((repeat ((conv => whnf); (first | (refine As.pre ?_; first | refine As.mk rfl ?_) | (refine LetI.pre ?_; first | refine LetI.mk _ rfl ?_) | (refine LetB.pre ?_; first | refine LetB.tt (by assumption) ?_ | refine LetB.decf (by omega) ?_) | (refine Gd.pre ?_; first | refine Gd.run rfl ?_ | refine Gd.pass rfl ?_) | (refine Ck.pre ?_; first | refine Ck.mk rfl ?_)))); (try (conv => whnf)))
      exact ⟨.inl rfl, ⟨_, rfl, congrArg bool (decide_eq_false fun h => h8 h.1.2).symm⟩, trivial⟩
open Classical in
theorem rCode_f (s : ByteArray) (hs : s.size ≤ 9223372036854775806) : AFun Tryz.prog 134 0 [str s] [] (bool (decide (okCode s))) [] := by
  refine AFun.of_W T_ok mixed Tryz.func134 rfl (Nat.le_of_ble_eq_true rfl) rfl ?_
  ((repeat ((conv => whnf); (first | (refine As.pre ?_; first | refine As.mk rfl ?_) | (refine Ck.pre ?_; first | refine Ck.mk rfl ?_)))); (try (conv => whnf)))
  refine LoopN.weak (s1 := ⟨[(0, str s), (3, int (0 : Nat))], [], 0⟩) (SW.fr0 (Nat.le_refl _) rfl ⟨.refl _, .refl _, trivial⟩) ?_
  refine LoopN.ind T_ok mixed (S := fun k : Nat => ⟨[(0, str s), (3, int k)], [], 0⟩) (fun k => s.size - k) (fun k => k ≤ s.size ∧ ∀ i, i < k → wrongR (byt s i) = false) (fun _ => rfl) (fun k hk ih => ?_) 0 ⟨Nat.zero_le _, fun i h => absurd h (by omega)⟩
  obtain ⟨h1, h2⟩ := hk
  by_cases hlt : k < s.size
  case neg =>
    have hk : k = s.size := by omega
    subst hk
    clear ih
    have e : okCode s ↔ (1 ≤ s.size ∧ s.size ≤ 8) := ⟨fun h => h.1, fun h => ⟨h, h2⟩⟩
    by_cases a1 : 1 ≤ s.size
    · by_cases a2 : s.size ≤ 8
      · ((repeat ((conv => whnf); (first | (refine As.pre ?_; first | refine As.mk rfl ?_) | (refine LetI.pre ?_; first | refine LetI.mk _ rfl ?_) | (refine LetB.pre ?_; first | refine LetB.dect (by omega) ?_ | refine LetB.decf (by omega) ?_) | (refine Gd.pre ?_; first | refine Gd.run rfl ?_) | (refine Br.pre ?_; first | refine Br.ff rfl ?_) | (refine Ck.pre ?_; first | refine Ck.mk rfl ?_)))); (try (conv => whnf)))
        exact ⟨.inl rfl, ⟨_, rfl, congrArg bool (decide_eq_true (e.2 ⟨a1, a2⟩)).symm⟩, trivial⟩
      · ((repeat ((conv => whnf); (first | (refine As.pre ?_; first | refine As.mk rfl ?_) | (refine LetI.pre ?_; first | refine LetI.mk _ rfl ?_) | (refine LetB.pre ?_; first | refine LetB.dect (by omega) ?_ | refine LetB.decf (by omega) ?_) | (refine Gd.pre ?_; first | refine Gd.run rfl ?_) | (refine Br.pre ?_; first | refine Br.ff rfl ?_) | (refine Ck.pre ?_; first | refine Ck.mk rfl ?_)))); (try (conv => whnf)))
        exact ⟨.inl rfl, ⟨_, rfl, congrArg bool (decide_eq_false fun h => a2 (e.1 h).2).symm⟩, trivial⟩
    · ((repeat ((conv => whnf); (first | (refine As.pre ?_; first | refine As.mk rfl ?_) | (refine LetI.pre ?_; first | refine LetI.mk _ rfl ?_) | (refine LetB.pre ?_; first | refine LetB.decf (by omega) ?_) | (refine Gd.pre ?_; first | refine Gd.pass rfl ?_) | (refine Br.pre ?_; first | refine Br.ff rfl ?_) | (refine Ck.pre ?_; first | refine Ck.mk rfl ?_)))); (try (conv => whnf)))
      exact ⟨.inl rfl, ⟨_, rfl, congrArg bool (decide_eq_false fun h => a1 (e.1 h).1).symm⟩, trivial⟩
  have hbb : (byt s k : Int) = ((s.data.toList.getD (k : Int).toNat 0).toNat : Int) := rfl
  have hb2 : byt s k < 256 := UInt8.toNat_lt _
  generalize hb : byt s k = b at hbb hb2
  by_cases hw : wrongR b = true
  · have hno : ¬ okCode s := fun h => by have := h.2 k hlt; rw [hb, hw] at this; cases this
    rw [decide_eq_false hno]
    clear ih
    have hw2 : (b < 65 ∨ 90 < b) ∧ (b < 48 ∨ 57 < b) := of_decide_eq_true hw
    repeat' ((conv => whnf); (first | (refine As.pre ?_; first | refine As.mk rfl ?_ | (refine As.mk ?_ ?_; · ((repeat' (refine andT ?_ ?_)) <;> (first | rfl | assumption | exact decide_eq_true (by omega) | exact decide_eq_true (by dsimp only; omega) | exact decide_eq_true (by simp; omega) | (simp; done))))) | (refine LetV.pre ?_; first | refine LetV.mk (t := 9) (.sc (.int .u8 (b : Int))) (congrArg (fun x : Int => AV.sc (.int .u8 x)) hbb) ?_) | (refine LetI.pre ?_; first | refine LetI.mk _ rfl ?_) | (refine LetB.pre ?_; first | refine LetB.dect (by omega) ?_ | refine LetB.decf (by omega) ?_ | (refine LetB.dec (fun _ => ?_) (fun _ => ?_))) | (refine Gd.pre ?_; first | refine Gd.run rfl ?_ | refine Gd.pass rfl ?_) | (refine Br.pre ?_; first | refine Br.tt rfl ?_) | (refine Ck.pre ?_; first | refine Ck.mk rfl ?_)))
    all_goals first
      | exact ⟨.inl rfl, ⟨_, rfl, rfl⟩, trivial⟩
      | (exfalso; omega)
  · have hw3 : wrongR b = false := by simpa using hw
    have hw2 : ¬ ((b < 65 ∨ 90 < b) ∧ (b < 48 ∨ 57 < b)) := of_decide_eq_false hw3
    have next := ih (k + 1) ⟨by omega, fun i hi => by
      by_cases hik : i = k
      · rw [hik, hb]; exact hw3
      · exact h2 i (by omega)⟩ (by omega)
    clear ih
    repeat' ((conv => whnf); (first | (refine As.pre ?_; first | refine As.mk rfl ?_ | (refine As.mk ?_ ?_; · ((repeat' (refine andT ?_ ?_)) <;> (first | rfl | assumption | exact decide_eq_true (by omega) | exact decide_eq_true (by dsimp only; omega) | exact decide_eq_true (by simp; omega) | (simp; done))))) | (refine LetV.pre ?_; first | refine LetV.mk (t := 9) (.sc (.int .u8 (b : Int))) (congrArg (fun x : Int => AV.sc (.int .u8 x)) hbb) ?_) | (refine LetI.pre ?_; first | refine LetI.wrap (by omega) (by omega) ?_ | refine LetI.mk _ rfl ?_) | (refine LetB.pre ?_; first | refine LetB.dect (by omega) ?_ | refine LetB.decf (by omega) ?_ | (refine LetB.dec (fun _ => ?_) (fun _ => ?_))) | (refine Gd.pre ?_; first | refine Gd.run rfl ?_ | refine Gd.pass rfl ?_) | (refine Br.pre ?_; first | refine Br.tt rfl ?_ | refine Br.ff rfl ?_) | (refine Ck.pre ?_; first | refine Ck.mk rfl ?_)))
    all_goals first
      | (refine LoopN.weak ?_ next; exact SW.fr0 (Nat.le_refl _) rfl ⟨.refl _, VLe2.int (by omega), trivial⟩)
      | (exfalso; omega)
end En
end Go.Proofs.YtgnakhljdjekbaaGreatDoor
namespace Go.Proofs.YtgnakhljdjekbaaGreatDoor
open Go.Proofs.YtgnakhljdjekbaaGreatDoor.Am
set_option maxRecDepth 100000
namespace En
open Classical
theorem beyond_f (n a b : Int) : AFun Tryz.prog 102 0 [int n, int a, int b] [] (bool (decide (n < a ∨ b < n))) [] := by
  refine AFun.of_W T_ok mixed Tryz.func102 rfl (Nat.le_of_ble_eq_true rfl) rfl ?_
  repeat' ((conv => whnf); (first | (refine As.pre ?_; first | refine As.mk rfl ?_) | (refine LetB.pre ?_; first | (refine LetB.dec (fun _ => ?_) (fun _ => ?_))) | (refine Gd.pre ?_; first | refine Gd.run rfl ?_ | refine Gd.pass rfl ?_) | (refine Ck.pre ?_; first | refine Ck.mk rfl ?_)))
  all_goals (refine ⟨by first | exact .inl rfl | exact .inr rfl, ⟨_, rfl, congrArg (fun b => Go.Proofs.YtgnakhljdjekbaaGreatDoor.Am.AV.sc (Go.Value.bool b)) (by first | exact (decide_eq_true (by omega)).symm | exact (decide_eq_false (by omega)).symm | exact Bool.eq_iff_iff.2 (by simp only [decide_eq_true_eq, decide_eq_false_iff_not]; omega) | rfl)⟩, trivial⟩)
def hasK (k : Int) : Int := if k = 1 ∨ k = 8 then 32 else if k = 2 then 96 else if k = 3 then 7 else if k = 4 then 12 else if k = 5 ∨ k = 6 ∨ k = 9 then 8 else if k = 7 then 16 else 0
theorem has_f (k : Int) : AFun Tryz.prog 104 0 [int k] [] (int (hasK k)) [] := by
  refine AFun.of_W T_ok mixed Tryz.func104 rfl (Nat.le_of_ble_eq_true rfl) rfl ?_
  unfold hasK
  repeat' ((conv => whnf); (first | (refine As.pre ?_; first | refine As.mk rfl ?_) | (refine LetB.pre ?_; first | (refine LetB.dec (fun _ => ?_) (fun _ => ?_))) | (refine Br.pre ?_; first | refine Br.tt rfl ?_ | refine Br.ff rfl ?_) | (refine Ck.pre ?_; first | refine Ck.mk rfl ?_)))
  all_goals
    refine ⟨.inl rfl, ⟨_, rfl, congrArg int ?_⟩, trivial⟩
    repeat' split
    all_goals first | rfl | (exfalso; omega)
def orB (acc : Int) (k : Nat) (b : Bool) : Int := bif b then IntKind.i64.wrap ((BitVec.ofInt 64 acc) ||| (BitVec.ofInt 64 (IntKind.i64.wrap (1 * 2 ^ (min (k : Int).toNat 64))))).toNat else acc
def fillA : List Bool → Nat → Int → Int
  | [], _, acc => acc
  | b :: l, k, acc => fillA l (k + 1) (orB acc k b)
def fillB (e : E) : List Bool := [!(e.course.toList == (⟨#[]⟩ : ByteArray).toList), e.credits != 0, e.grade != 0, e.ref != 0, e.frm != 0, e.programme != 0, e.version != 0]
theorem fill_drop {l : List Bool} {k : Nat} (h : k < l.length) (acc : Int) : fillA (l.drop k) k acc = fillA (l.drop (k + 1)) (k + 1) (orB acc k (l.getD k false)) := by
  rw [List.drop_eq_getElem_cons h, List.getD_eq_getElem?_getD, List.getElem?_eq_getElem h]; rfl
theorem filled_f (e : E) : AFun Tryz.prog 103 0 [en e] [] (int (fillA (fillB e) 0 0)) [] := by
  refine AFun.of_W T_ok mixed Tryz.func103 rfl (Nat.le_of_ble_eq_true rfl) rfl ?_
  ((repeat ((conv => whnf); (first | (refine LetN.pre ?_; first | ((conv => arg 1; whnf); refine LetN.mk ?_)) | (refine As.pre ?_; first | refine As.mk rfl ?_) | (refine LetV.pre ?_; first | refine LetV.mk (.sc (.int _ _)) rfl ?_ | refine LetV.mk (.sc _) rfl ?_) | (refine LetI.pre ?_; first | refine LetI.mk _ rfl ?_) | (refine LetB.pre ?_; first | refine LetB.mk _ rfl ?_) | (refine Ck.pre ?_; first | refine Ck.mk rfl ?_)))); (try (conv => whnf)))
  have hlen : (fillB e).length = 7 := rfl
  refine LoopN.weak (s1 := ⟨[(3, int 0), (27, .ro {} 1 ((fillB e).map bool)), (28, int (fillB e).length), (29, int (0 : Nat))], [], 1⟩) (SW.mk id rfl rfl rfl ⟨.refl _, VLe2.ro_of rfl, .refl _, .refl _, trivial⟩ trivial) ?_
  generalize fillB e = bs at hlen ⊢
  generalize hR : fillA bs 0 0 = R
  refine LoopN.ind T_ok mixed (S := fun i : Nat × Int => ⟨[(3, int i.2), (27, .ro {} 1 (bs.map bool)), (28, int bs.length), (29, int i.1)], [], 1⟩) (fun i => bs.length - i.1) (fun i => i.1 ≤ bs.length ∧ R = fillA (bs.drop i.1) i.1 i.2) (fun _ => rfl) (fun i hi ih => ?_) (0, 0) ⟨Nat.zero_le _, hR.symm⟩
  obtain ⟨k, acc⟩ := i
  obtain ⟨h1, h2⟩ := hi
  simp only at h1 h2 ih ⊢
  have hm : (bs.map bool).length = bs.length := List.length_map _
  by_cases hlt : k < bs.length
  case neg =>
    rw [List.drop_eq_nil_of_le (by omega)] at h2
    rw [h2]
    clear ih
    ((repeat ((conv => whnf); (first | (refine As.pre ?_; first | refine As.mk rfl ?_) | (refine LetB.pre ?_; first | refine LetB.decf (by omega) ?_) | (refine Br.pre ?_; first | refine Br.ff rfl ?_) | (refine Ck.pre ?_; first | refine Ck.mk rfl ?_)))); (try (conv => whnf)))
    exact ⟨.inl rfl, ⟨_, rfl, rfl⟩, trivial⟩
  have hld : bool (bs.getD k false) = (bs.map bool).getD k (.sc undef) := mapD false hlt
  rw [fill_drop hlt] at h2
  generalize bs.getD k false = b at hld h2
  have next := ih (k + 1, orB acc k b) ⟨by omega, h2⟩ (by show bs.length - (k + 1) < bs.length - k; omega)
  clear ih
  cases b with
  | true =>
    ((repeat ((conv => whnf); (first | (refine As.pre ?_; first | refine As.mk rfl ?_ | (refine As.mk ?_ ?_; · ((repeat' (refine andT ?_ ?_)) <;> (first | rfl | assumption | exact decide_eq_true (by omega) | exact decide_eq_true (by dsimp only; omega) | exact decide_eq_true (by simp; omega) | (simp; done))))) | (refine LetV.pre ?_; first | refine LetV.mk (t := 165) _ hld ?_ | refine LetV.mk (.sc (.bool _)) rfl ?_) | (refine LetI.pre ?_; first | refine LetI.wrap (by omega) (by omega) ?_ | refine LetI.mk _ rfl ?_) | (refine LetB.pre ?_; first | refine LetB.dect (by omega) ?_) | (refine Br.pre ?_; first | refine Br.tt rfl ?_) | (refine Ck.pre ?_; first | refine Ck.mk rfl ?_)))); (try (conv => whnf)))
    refine LoopN.weak ?_ next
    exact SW.mk id rfl rfl rfl ⟨.refl _, .refl _, .refl _, VLe2.int (by omega), trivial⟩ trivial
  | false =>
    ((repeat ((conv => whnf); (first | (refine As.pre ?_; first | refine As.mk rfl ?_ | (refine As.mk ?_ ?_; · ((repeat' (refine andT ?_ ?_)) <;> (first | rfl | assumption | exact decide_eq_true (by omega) | exact decide_eq_true (by dsimp only; omega) | exact decide_eq_true (by simp; omega) | (simp; done))))) | (refine LetV.pre ?_; first | refine LetV.mk (t := 165) _ hld ?_ | refine LetV.mk (.sc (.bool _)) rfl ?_) | (refine LetI.pre ?_; first | refine LetI.wrap (by omega) (by omega) ?_) | (refine LetB.pre ?_; first | refine LetB.dect (by omega) ?_) | (refine Br.pre ?_; first | refine Br.tt rfl ?_ | refine Br.ff rfl ?_) | (refine Ck.pre ?_; first | refine Ck.mk rfl ?_)))); (try (conv => whnf)))
    refine LoopN.weak ?_ next
    exact SW.mk id rfl rfl rfl ⟨.refl _, .refl _, .refl _, VLe2.int (by omega), trivial⟩ trivial
theorem ck1_f (e : E) : AFun Tryz.prog 105 0 [.rp (en e) 0] [] (bool (!decide (okCode e.course))) [] := by
  refine AFun.of_W T_ok mixed Tryz.func105 rfl (Nat.le_of_ble_eq_true rfl) rfl ?_
  ((repeat ((conv => whnf); (first | (refine As.pre ?_; first | refine As.mk rfl ?_) | (refine LetV.pre ?_; first | refine LetV.mk (.sc _) rfl ?_) | (refine Ck.pre ?_; first | refine Ck.mk rfl ?_) | (refine CallN.pre ?_; first | refine CallN.pure (Code_f _) rfl rfl ?_)))); (try (conv => whnf)))
  exact ⟨.inl rfl, ⟨_, rfl, rfl⟩, trivial⟩
theorem ck2_f (e : E) : AFun Tryz.prog 107 0 [.rp (en e) 0] [] (bool (decide (e.credits < 1 ∨ 60 < e.credits))) [] := by
  refine AFun.of_W T_ok mixed Tryz.func107 rfl (Nat.le_of_ble_eq_true rfl) rfl ?_
  ((repeat ((conv => whnf); (first | (refine As.pre ?_; first | refine As.mk rfl ?_) | (refine LetV.pre ?_; first | refine LetV.mk (.sc (.int _ _)) rfl ?_) | (refine Ck.pre ?_; first | refine Ck.mk rfl ?_) | (refine CallN.pre ?_; first | refine CallN.pure (beyond_f _ _ _) rfl rfl ?_)))); (try (conv => whnf)))
  exact ⟨.inl rfl, ⟨_, rfl, rfl⟩, trivial⟩
theorem ck3_f (e : E) : AFun Tryz.prog 108 0 [.rp (en e) 0] [] (bool (decide (e.grade < -1000 ∨ 1000 < e.grade))) [] := by
  refine AFun.of_W T_ok mixed Tryz.func108 rfl (Nat.le_of_ble_eq_true rfl) rfl ?_
  ((repeat ((conv => whnf); (first | (refine As.pre ?_; first | refine As.mk rfl ?_) | (refine LetV.pre ?_; first | refine LetV.mk (.sc (.int _ _)) rfl ?_) | (refine Ck.pre ?_; first | refine Ck.mk rfl ?_) | (refine CallN.pre ?_; first | refine CallN.pure (beyond_f _ _ _) rfl rfl ?_)))); (try (conv => whnf)))
  exact ⟨.inl rfl, ⟨_, rfl, rfl⟩, trivial⟩
theorem ck4_f (e : E) : AFun Tryz.prog 109 0 [.rp (en e) 0] [] (bool (decide (e.programme < 1))) [] := by
  refine AFun.of_W T_ok mixed Tryz.func109 rfl (Nat.le_of_ble_eq_true rfl) rfl ?_
  ((repeat ((conv => whnf); (first | (refine As.pre ?_; first | refine As.mk rfl ?_) | (refine LetV.pre ?_; first | refine LetV.mk (.sc (.int _ _)) rfl ?_) | (refine LetB.pre ?_; first | refine LetB.mk _ rfl ?_) | (refine Ck.pre ?_; first | refine Ck.mk rfl ?_)))); (try (conv => whnf)))
  exact ⟨.inl rfl, ⟨_, rfl, rfl⟩, trivial⟩
theorem ck5_f (e : E) : AFun Tryz.prog 110 0 [.rp (en e) 0] [] (bool (decide (e.version < 1))) [] := by
  refine AFun.of_W T_ok mixed Tryz.func110 rfl (Nat.le_of_ble_eq_true rfl) rfl ?_
  ((repeat ((conv => whnf); (first | (refine As.pre ?_; first | refine As.mk rfl ?_) | (refine LetV.pre ?_; first | refine LetV.mk (.sc (.int _ _)) rfl ?_) | (refine LetB.pre ?_; first | refine LetB.mk _ rfl ?_) | (refine Ck.pre ?_; first | refine Ck.mk rfl ?_)))); (try (conv => whnf)))
  exact ⟨.inl rfl, ⟨_, rfl, rfl⟩, trivial⟩
theorem ck6_f (e : E) : AFun Tryz.prog 111 0 [.rp (en e) 0] [] (bool (decide ((e.frm < 1 ∨ 8 < e.frm) ∨ e.frm = e.school))) [] := by
  refine AFun.of_W T_ok mixed Tryz.func111 rfl (Nat.le_of_ble_eq_true rfl) rfl ?_
  repeat' ((conv => whnf); (first | (refine As.pre ?_; first | refine As.mk rfl ?_) | (refine LetV.pre ?_; first | refine LetV.mk (.sc (.int _ _)) rfl ?_) | (refine LetB.pre ?_; first | (refine LetB.dec (fun _ => ?_) (fun _ => ?_))) | (refine Gd.pre ?_; first | refine Gd.run rfl ?_ | refine Gd.pass rfl ?_) | (refine Ck.pre ?_; first | refine Ck.mk rfl ?_) | (refine CallN.pre ?_; first | refine CallN.dec (beyond_f _ _ _) rfl (fun _ => ?_) (fun _ => ?_))))
  all_goals (refine ⟨by first | exact .inl rfl | exact .inr rfl, ⟨_, rfl, congrArg (fun b => Go.Proofs.YtgnakhljdjekbaaGreatDoor.Am.AV.sc (Go.Value.bool b)) (by first | exact (decide_eq_true (by omega)).symm | exact (decide_eq_false (by omega)).symm | exact Bool.eq_iff_iff.2 (by simp only [decide_eq_true_eq, decide_eq_false_iff_not]; omega) | rfl)⟩, trivial⟩)
theorem ck7_f (e : E) : AFun Tryz.prog 112 0 [.rp (en e) 0] [] (bool (decide ((e.ref < 1 ∨ 899999 < e.ref) ∨ e.ref = e.id))) [] := by
  refine AFun.of_W T_ok mixed Tryz.func112 rfl (Nat.le_of_ble_eq_true rfl) rfl ?_
  repeat' ((conv => whnf); (first | (refine As.pre ?_; first | refine As.mk rfl ?_) | (refine LetV.pre ?_; first | refine LetV.mk (.sc (.int _ _)) rfl ?_) | (refine LetB.pre ?_; first | (refine LetB.dec (fun _ => ?_) (fun _ => ?_))) | (refine Gd.pre ?_; first | refine Gd.run rfl ?_ | refine Gd.pass rfl ?_) | (refine Ck.pre ?_; first | refine Ck.mk rfl ?_) | (refine CallN.pre ?_; first | refine CallN.dec (beyond_f _ _ _) rfl (fun _ => ?_) (fun _ => ?_))))
  all_goals (refine ⟨by first | exact .inl rfl | exact .inr rfl, ⟨_, rfl, congrArg (fun b => Go.Proofs.YtgnakhljdjekbaaGreatDoor.Am.AV.sc (Go.Value.bool b)) (by first | exact (decide_eq_true (by omega)).symm | exact (decide_eq_false (by omega)).symm | exact Bool.eq_iff_iff.2 (by simp only [decide_eq_true_eq, decide_eq_false_iff_not]; omega) | rfl)⟩, trivial⟩)
end En
end Go.Proofs.YtgnakhljdjekbaaGreatDoor
namespace Go.Proofs.YtgnakhljdjekbaaGreatDoor
open Go.Proofs.YtgnakhljdjekbaaGreatDoor.Am
set_option maxRecDepth 100000
namespace En
open Classical
/-- The error of the fields that a kind has. -/
def fldE (oc : Bool) (e : E) : Int :=
  if e.kind = 3 then (if oc = false then 12 else if e.credits < 1 ∨ 60 < e.credits then 3 else if e.grade < -1000 ∨ 1000 < e.grade then 3 else 0)
  else if e.kind = 1 ∨ e.kind = 8 then (if e.programme < 1 then 3 else 0)
  else if e.kind = 2 then (if e.programme < 1 ∨ e.version < 1 then 3 else 0)
  else if e.kind = 7 then (if (e.frm < 1 ∨ 8 < e.frm) ∨ e.frm = e.school then 3 else 0)
  else if e.kind = 4 then (if e.grade < -1000 ∨ 1000 < e.grade then 3 else if (e.ref < 1 ∨ 899999 < e.ref) ∨ e.ref = e.id then 21 else 0)
  else (if (e.ref < 1 ∨ 899999 < e.ref) ∨ e.ref = e.id then 21 else 0)
/-- No field but those of its kind is filled. -/
def onlyF (k : Int) : List Bool → Bool
  | [c, cr, g, r, f, p, v] =>
    if k = 1 ∨ k = 8 then !(c || cr || g || r || f || v)
    else if k = 2 then !(c || cr || g || r || f)
    else if k = 3 then !(r || f || p || v)
    else if k = 4 then !(c || cr || f || p || v)
    else if k = 7 then !(c || cr || g || r || p || v)
    else !(c || cr || g || f || p || v)
  | _ => false
def entX (oc on : Bool) (e : E) : Int :=
  if (e.id < 1 ∨ 899999 < e.id) ∨ (e.school < 1 ∨ 8 < e.school) ∨ (e.student < 1 ∨ 999999 < e.student) then 1
  else if (e.kind < 1 ∨ 9 < e.kind) ∨ on = false then 20
  else if (e.day < 0 ∨ 100000 < e.day) ∨ (e.on_ < 0 ∨ e.day < e.on_) then 23
  else fldE oc e
noncomputable def entE (e : E) : Int := entX (decide (okCode e.course)) (onlyF e.kind (fillB e)) e
theorem mask (k : Int) (hk : k = 1 ∨ k = 2 ∨ k = 3 ∨ k = 4 ∨ k = 5 ∨ k = 6 ∨ k = 7 ∨ k = 8 ∨ k = 9) : ∀ c cr g r f p v : Bool, (IntKind.i64.wrap ((BitVec.ofInt 64 (fillA [c, cr, g, r, f, p, v] 0 0)) &&& ~~~(BitVec.ofInt 64 (hasK k))).toNat != 0) = !(onlyF k [c, cr, g, r, f, p, v]) := by
  rcases hk with rfl | rfl | rfl | rfl | rfl | rfl | rfl | rfl | rfl <;> decide +kernel
theorem maskE (e : E) (hk : e.kind = 1 ∨ e.kind = 2 ∨ e.kind = 3 ∨ e.kind = 4 ∨ e.kind = 5 ∨ e.kind = 6 ∨ e.kind = 7 ∨ e.kind = 8 ∨ e.kind = 9) : (IntKind.i64.wrap ((BitVec.ofInt 64 (fillA (fillB e) 0 0)) &&& ~~~(BitVec.ofInt 64 (hasK e.kind))).toNat != 0) = !(onlyF e.kind (fillB e)) := mask _ hk ..
/-! ### The rules -/
theorem entX_arg {oc on : Bool} {e : E} (h : (e.id < 1 ∨ 899999 < e.id) ∨ (e.school < 1 ∨ 8 < e.school) ∨ (e.student < 1 ∨ 999999 < e.student)) : entX oc on e = 1 := if_pos h
theorem entX_kind {oc on : Bool} {e : E} (h : ¬ ((e.id < 1 ∨ 899999 < e.id) ∨ (e.school < 1 ∨ 8 < e.school) ∨ (e.student < 1 ∨ 999999 < e.student))) (k : (e.kind < 1 ∨ 9 < e.kind) ∨ on = false) : entX oc on e = 20 := (if_neg h).trans (if_pos k)
theorem entX_date {oc on : Bool} {e : E} (h : ¬ ((e.id < 1 ∨ 899999 < e.id) ∨ (e.school < 1 ∨ 8 < e.school) ∨ (e.student < 1 ∨ 999999 < e.student))) (k : ¬ (e.kind < 1 ∨ 9 < e.kind)) (o : on = true) (d : (e.day < 0 ∨ 100000 < e.day) ∨ (e.on_ < 0 ∨ e.day < e.on_)) : entX oc on e = 23 :=
  (if_neg h).trans ((if_neg (by rintro (h | h); exact k h; rw [o] at h; cases h)).trans (if_pos d))
theorem entX_fld {oc on : Bool} {e : E} (h : ¬ ((e.id < 1 ∨ 899999 < e.id) ∨ (e.school < 1 ∨ 8 < e.school) ∨ (e.student < 1 ∨ 999999 < e.student))) (k : ¬ (e.kind < 1 ∨ 9 < e.kind)) (o : on = true) (d : ¬ ((e.day < 0 ∨ 100000 < e.day) ∨ (e.on_ < 0 ∨ e.day < e.on_))) : entX oc on e = fldE oc e :=
  (if_neg h).trans ((if_neg (by rintro (h | h); exact k h; rw [o] at h; cases h)).trans (if_neg d))
structure Rule where
  f : Int
  fn : Nat
  w : Bool
  err : Int
abbrev ruleA (r : Rule) : AV := .agg [int r.f, .clo r.fn [.ptr 0 15 0 0], int r.err]
abbrev rty : TypeId := 148
def mk2 (hv f : Int) : Bool := IntKind.i64.wrap ((BitVec.ofInt 64 hv) &&& (BitVec.ofInt 64 f)).toNat != 0
def ruleE (hv : Int) : List Rule → Int
  | [] => 0
  | r :: l => if mk2 hv r.f && r.w then r.err else ruleE hv l
structure Rule.Ok (e : E) (r : Rule) : Prop where
  run : AFun Tryz.prog r.fn 0 [.rp (en e) 0] [] (bool r.w) []
  call : callable Tryz.prog r.fn = true
noncomputable def rulesOf (e : E) : List Rule := [⟨1, 105, !decide (okCode e.course), 12⟩, ⟨2, 107, decide (e.credits < 1 ∨ 60 < e.credits), 3⟩, ⟨4, 108, decide (e.grade < -1000 ∨ 1000 < e.grade), 3⟩, ⟨32, 109, decide (e.programme < 1), 3⟩,
  ⟨64, 110, decide (e.version < 1), 3⟩, ⟨16, 111, decide ((e.frm < 1 ∨ 8 < e.frm) ∨ e.frm = e.school), 3⟩, ⟨8, 112, decide ((e.ref < 1 ∨ 899999 < e.ref) ∨ e.ref = e.id), 21⟩]
theorem rulesOf_ok (e : E) : ∀ r ∈ rulesOf e, r.Ok e := by
  intro r hr
  simp only [rulesOf, List.mem_cons, List.not_mem_nil, or_false] at hr
  rcases hr with rfl | rfl | rfl | rfl | rfl | rfl | rfl
  · exact ⟨ck1_f e, by kernel_rfl⟩
  · exact ⟨ck2_f e, by kernel_rfl⟩
  · exact ⟨ck3_f e, by kernel_rfl⟩
  · exact ⟨ck4_f e, by kernel_rfl⟩
  · exact ⟨ck5_f e, by kernel_rfl⟩
  · exact ⟨ck6_f e, by kernel_rfl⟩
  · exact ⟨ck7_f e, by kernel_rfl⟩
theorem ruleE_fld (e : E) (hk : e.kind = 1 ∨ e.kind = 2 ∨ e.kind = 3 ∨ e.kind = 4 ∨ e.kind = 5 ∨ e.kind = 6 ∨ e.kind = 7 ∨ e.kind = 8 ∨ e.kind = 9) : ruleE (hasK e.kind) (rulesOf e) = fldE (decide (okCode e.course)) e := by
  have key : ∀ c cr g p v f r : Bool, ∀ k : Int, (k = 1 ∨ k = 2 ∨ k = 3 ∨ k = 4 ∨ k = 5 ∨ k = 6 ∨ k = 7 ∨ k = 8 ∨ k = 9) →
      ruleE (hasK k) [⟨1, 0, !c, 12⟩, ⟨2, 0, cr, 3⟩, ⟨4, 0, g, 3⟩, ⟨32, 0, p, 3⟩, ⟨64, 0, v, 3⟩, ⟨16, 0, f, 3⟩, ⟨8, 0, r, 21⟩] =
      if k = 3 then (if c = false then 12 else if cr = true then 3 else if g = true then 3 else 0)
      else if k = 1 ∨ k = 8 then (if p = true then 3 else 0)
      else if k = 2 then (if p = true ∨ v = true then 3 else 0)
      else if k = 7 then (if f = true then 3 else 0)
      else if k = 4 then (if g = true then 3 else if r = true then 21 else 0)
      else (if r = true then 21 else 0) := by
    intro c cr g p v f r k hk
    rcases hk with rfl | rfl | rfl | rfl | rfl | rfl | rfl | rfl | rfl <;> revert c cr g p v f r <;> decide +kernel
  have := key (decide (okCode e.course)) (decide (e.credits < 1 ∨ 60 < e.credits)) (decide (e.grade < -1000 ∨ 1000 < e.grade)) (decide (e.programme < 1)) (decide (e.version < 1)) (decide ((e.frm < 1 ∨ 8 < e.frm) ∨ e.frm = e.school)) (decide ((e.ref < 1 ∨ 899999 < e.ref) ∨ e.ref = e.id)) e.kind hk
  simp only [decide_eq_true_eq] at this
  exact this
abbrev chkS (e : E) (rs : List Rule) (k : Nat) : AS := ⟨[(1, .ptr 0 15 0 0), (51, .slm {} 1 3 0 rs.length), (52, int rs.length), (53, int k)], [(0, .row 15 ety [en e]), (1, .row 3 rty (rs.map ruleA))], 2⟩
theorem rule_names (rs : List Rule) (ok : Nat → Bool) (h : ok 0 = true) : AV.namesL ok (rs.map ruleA) = true := by
  rw [namesL_all, List.all_map]
  refine List.all_eq_true.2 fun r _ => ?_
  simp only [Function.comp_def, AV.names, AV.namesL, h]; rfl
theorem chkNames (e : E) (rs : List Rule) (ok : Nat → Bool) (h : ok 0 = true) : namesAll ok [(0, .row 15 ety [en e]), (1, .row 3 rty (rs.map ruleA))] = true := by
  simp only [namesAll, Blk.names, rule_names rs ok h]; rfl
theorem rule_ren (rs : List Rule) : AV.renL id (rs.map ruleA) = rs.map ruleA := by
  rw [renL_map, List.map_map]; rfl
theorem getD_rule {l : List Rule} {k : Nat} (d : Rule) (h : k < l.length) : ruleA (l.getD k d) = Am.part true 3 0 3 ((l.map ruleA).getD (0 + k) (.sc undef)) := by
  rw [Nat.zero_add, List.getD_eq_getElem?_getD, List.getD_eq_getElem?_getD, List.getElem?_map, List.getElem?_eq_getElem h]; rfl
set_option maxHeartbeats 1600000 in
set_option maxRecDepth 100000 in
theorem Check_f (e : E) : AFun Tryz.prog 84 0 [en e] [] (int (entE e)) [] := by
  have hfl := filled_f e
  have hh := has_f e.kind
  have hm := maskE e
  have hru := ruleE_fld e
  have hrk := rulesOf_ok e
  have hrl : (rulesOf e).length = 7 := rfl
  have hra : (rulesOf e).map ruleA = [.agg [int 1, .clo 105 [.ptr 0 15 0 0], int 12], .agg [int 2, .clo 107 [.ptr 0 15 0 0], int 3], .agg [int 4, .clo 108 [.ptr 0 15 0 0], int 3], .agg [int 32, .clo 109 [.ptr 0 15 0 0], int 3],
    .agg [int 64, .clo 110 [.ptr 0 15 0 0], int 3], .agg [int 16, .clo 111 [.ptr 0 15 0 0], int 3], .agg [int 8, .clo 112 [.ptr 0 15 0 0], int 21]] := rfl
  unfold entE
  generalize onlyF e.kind (fillB e) = on at hm ⊢
  generalize fillA (fillB e) 0 0 = fl at hm hfl
  generalize decide (okCode e.course) = oc at hru ⊢
  generalize hasK e.kind = hv at hm hh hru
  generalize rulesOf e = rs at hru hrk hrl hra
  refine AFun.of_W T_ok mixed Tryz.func84 rfl (Nat.le_of_ble_eq_true rfl) rfl ?_
  by_cases a1 : e.id < 1 ∨ 899999 < e.id
  case pos =>
    ((repeat ((conv => whnf); (first | (refine LetN.pre ?_; first | ((conv => arg 1; whnf); refine LetN.mk ?_)) | (refine As.pre ?_; first | refine As.mk rfl ?_) | (refine LetV.pre ?_; first | refine LetV.mk (.sc (.int _ _)) rfl ?_) | (refine Br.pre ?_; first | refine Br.tt rfl ?_) | (refine Ck.pre ?_; first | refine Ck.mk rfl ?_) | (refine CallN.pre ?_; first | refine CallN.dect (beyond_f _ _ _) rfl (by assumption) ?_)))); (try (conv => whnf)))




    exact ⟨.inl rfl, ⟨_, rfl, congrArg int (entX_arg (.inl a1)).symm⟩, trivial⟩
  by_cases a2 : e.school < 1 ∨ 8 < e.school
  case pos =>
    ((repeat ((conv => whnf); (first | (refine LetN.pre ?_; first | ((conv => arg 1; whnf); refine LetN.mk ?_)) | (refine As.pre ?_; first | refine As.mk rfl ?_) | (refine LetV.pre ?_; first | refine LetV.mk (.sc (.int _ _)) rfl ?_) | (refine Br.pre ?_; first | refine Br.tt rfl ?_ | refine Br.ff rfl ?_) | (refine Ck.pre ?_; first | refine Ck.mk rfl ?_) | (refine CallN.pre ?_; first | refine CallN.dect (beyond_f _ _ _) rfl (by assumption) ?_ | refine CallN.decf (beyond_f _ _ _) rfl (by assumption) ?_)))); (try (conv => whnf)))




    exact ⟨.inl rfl, ⟨_, rfl, congrArg int (entX_arg (.inr (.inl a2))).symm⟩, trivial⟩
  by_cases a3 : e.student < 1 ∨ 999999 < e.student
  case pos =>
    ((repeat ((conv => whnf); (first | (refine LetN.pre ?_; first | ((conv => arg 1; whnf); refine LetN.mk ?_)) | (refine As.pre ?_; first | refine As.mk rfl ?_) | (refine LetV.pre ?_; first | refine LetV.mk (.sc (.int _ _)) rfl ?_) | (refine Br.pre ?_; first | refine Br.tt rfl ?_ | refine Br.ff rfl ?_) | (refine Ck.pre ?_; first | refine Ck.mk rfl ?_) | (refine CallN.pre ?_; first | refine CallN.dect (beyond_f _ _ _) rfl (by assumption) ?_ | refine CallN.decf (beyond_f _ _ _) rfl (by assumption) ?_)))); (try (conv => whnf)))




    exact ⟨.inl rfl, ⟨_, rfl, congrArg int (entX_arg (.inr (.inr a3))).symm⟩, trivial⟩
  have hA : ¬ ((e.id < 1 ∨ 899999 < e.id) ∨ (e.school < 1 ∨ 8 < e.school) ∨ (e.student < 1 ∨ 999999 < e.student)) := by rintro (h | h | h) <;> contradiction
  by_cases a4 : e.kind < 1 ∨ 9 < e.kind
  case pos =>
    ((repeat ((conv => whnf); (first | (refine LetN.pre ?_; first | ((conv => arg 1; whnf); refine LetN.mk ?_)) | (refine As.pre ?_; first | refine As.mk rfl ?_) | (refine LetV.pre ?_; first | refine LetV.mk (.sc (.int _ _)) rfl ?_) | (refine Br.pre ?_; first | refine Br.tt rfl ?_ | refine Br.ff rfl ?_) | (refine Ck.pre ?_; first | refine Ck.mk rfl ?_) | (refine CallN.pre ?_; first | refine CallN.dect (beyond_f _ _ _) rfl (by assumption) ?_ | refine CallN.decf (beyond_f _ _ _) rfl (by assumption) ?_)))); (try (conv => whnf)))




    exact ⟨.inl rfl, ⟨_, rfl, congrArg int (entX_kind hA (.inl a4)).symm⟩, trivial⟩
  have hp := PLift.up (hm (by omega))
  replace hru := hru (by omega)
  clear hm
  cases on <;> simp only [Bool.not_true, Bool.not_false] at hp
  case false =>
    ((repeat ((conv => whnf); (first | (refine LetN.pre ?_; first | ((conv => arg 1; whnf); refine LetN.mk ?_)) | (refine As.pre ?_; first | refine As.mk rfl ?_) | (refine LetV.pre ?_; first | refine LetV.mk (.sc (.int _ _)) rfl ?_ | refine LetV.mk (.agg _) rfl ?_) | (refine LetI.pre ?_; first | refine LetI.mk _ rfl ?_) | (refine LetB.pre ?_; first | refine LetB.tt hp.down ?_) | (refine Br.pre ?_; first | refine Br.tt rfl ?_ | refine Br.ff rfl ?_) | (refine Ck.pre ?_; first | refine Ck.drawn (by kernel_rfl) ?_ | refine Ck.mk rfl ?_) | (refine CallN.pre ?_; first | refine CallN.pure hfl rfl rfl ?_ | refine CallN.pure hh rfl rfl ?_ | refine CallN.decf (beyond_f _ _ _) rfl (by assumption) ?_)))); (try (conv => whnf)))






    exact ⟨.inl rfl, ⟨_, rfl, congrArg int (entX_kind hA (.inr rfl)).symm⟩, trivial⟩
  by_cases d1 : e.day < 0 ∨ 100000 < e.day
  case pos =>
    ((repeat ((conv => whnf); (first | (refine LetN.pre ?_; first | ((conv => arg 1; whnf); refine LetN.mk ?_)) | (refine As.pre ?_; first | refine As.mk rfl ?_) | (refine LetV.pre ?_; first | refine LetV.mk (.sc (.int _ _)) rfl ?_ | refine LetV.mk (.agg _) rfl ?_) | (refine LetI.pre ?_; first | refine LetI.mk _ rfl ?_) | (refine LetB.pre ?_; first | refine LetB.ff hp.down ?_) | (refine Br.pre ?_; first | refine Br.tt rfl ?_ | refine Br.ff rfl ?_) | (refine Ck.pre ?_; first | refine Ck.drawn (by kernel_rfl) ?_ | refine Ck.mk rfl ?_) | (refine CallN.pre ?_; first | refine CallN.pure hfl rfl rfl ?_ | refine CallN.pure hh rfl rfl ?_ | refine CallN.dect (beyond_f _ _ _) rfl (by assumption) ?_ | refine CallN.decf (beyond_f _ _ _) rfl (by assumption) ?_)))); (try (conv => whnf)))






    exact ⟨.inl rfl, ⟨_, rfl, congrArg int (entX_date hA a4 rfl (.inl d1)).symm⟩, trivial⟩
  by_cases d2 : e.on_ < 0 ∨ e.day < e.on_
  case pos =>
    ((repeat ((conv => whnf); (first | (refine LetN.pre ?_; first | ((conv => arg 1; whnf); refine LetN.mk ?_)) | (refine As.pre ?_; first | refine As.mk rfl ?_) | (refine LetV.pre ?_; first | refine LetV.mk (.sc (.int _ _)) rfl ?_ | refine LetV.mk (.agg _) rfl ?_) | (refine LetI.pre ?_; first | refine LetI.mk _ rfl ?_) | (refine LetB.pre ?_; first | refine LetB.ff hp.down ?_) | (refine Br.pre ?_; first | refine Br.tt rfl ?_ | refine Br.ff rfl ?_) | (refine Ck.pre ?_; first | refine Ck.drawn (by kernel_rfl) ?_ | refine Ck.mk rfl ?_) | (refine CallN.pre ?_; first | refine CallN.pure hfl rfl rfl ?_ | refine CallN.pure hh rfl rfl ?_ | refine CallN.dect (beyond_f _ _ _) rfl (by assumption) ?_ | refine CallN.decf (beyond_f _ _ _) rfl (by assumption) ?_)))); (try (conv => whnf)))






    exact ⟨.inl rfl, ⟨_, rfl, congrArg int (entX_date hA a4 rfl (.inr d2)).symm⟩, trivial⟩
  have hD : ¬ ((e.day < 0 ∨ 100000 < e.day) ∨ (e.on_ < 0 ∨ e.day < e.on_)) := by rintro (h | h) <;> contradiction
  rw [entX_fld hA a4 rfl hD, ← hru]
  ((repeat ((conv => whnf); (first | (refine LetN.pre ?_; first | ((conv => arg 1; whnf); refine LetN.mk ?_)) | (refine As.pre ?_; first | refine As.mk rfl ?_) | (refine LetV.pre ?_; first | refine LetV.mk (.sc (.int _ _)) rfl ?_ | refine LetV.mk (.agg _) rfl ?_) | (refine LetI.pre ?_; first | refine LetI.mk _ rfl ?_) | (refine LetB.pre ?_; first | refine LetB.ff hp.down ?_) | (refine Br.pre ?_; first | refine Br.ff rfl ?_) | (refine Ck.pre ?_; first | refine Ck.drawn (by kernel_rfl) ?_ | refine Ck.mk rfl ?_) | (refine CallN.pre ?_; first | refine CallN.pure hfl rfl rfl ?_ | refine CallN.pure hh rfl rfl ?_ | refine CallN.decf (beyond_f _ _ _) rfl (by assumption) ?_)))); (try (conv => whnf)))






  refine LoopN.weak (s1 := chkS e rs 0) ?sw1 ?_
  case sw1 => exact SW.mk id rfl rfl (chkNames e rs _ rfl) ⟨.refl _, VLe2.slm_of hrl, VLe2.int (by rw [hrl]), .refl _, trivial⟩ (haveV.row rfl rfl (haveV.one (by rw [Blk.ren, rule_ren, hra] <;> rfl) trivial))
  generalize hX : ruleE hv rs = X
  have hrm : (rs.map ruleA).length = rs.length := List.length_map _
  clear hra hp hfl hru
  refine LoopN.ind T_ok mixed (S := chkS e rs) (fun k => rs.length - k) (fun k => k ≤ rs.length ∧ X = ruleE hv (rs.drop k)) (fun _ => rfl) (fun k hi ih => ?_) 0 ⟨Nat.zero_le _, hX.symm⟩
  obtain ⟨g1, g2⟩ := hi
  by_cases hlt : k < rs.length
  case neg =>
    rw [List.drop_eq_nil_of_le (by omega)] at g2
    rw [g2]
    clear ih
    ((repeat ((conv => whnf); (first | (refine As.pre ?_; first | refine As.mk rfl ?_) | (refine LetB.pre ?_; first | refine LetB.decf (by omega) ?_) | (refine Br.pre ?_; first | refine Br.ff rfl ?_) | (refine Ck.pre ?_; first | refine Ck.mk rfl ?_)))); (try (conv => whnf)))
    exact ⟨.inl rfl, ⟨_, rfl, rfl⟩, trivial⟩
  have hld : ruleA (rs.getD k ⟨0, 0, false, 0⟩) = Am.part true 3 0 3 ((rs.map ruleA).getD (0 + k) (.sc undef)) := getD_rule _ hlt
  have hin : rs.getD k ⟨0, 0, false, 0⟩ ∈ rs := by
    rw [List.getD_eq_getElem?_getD, List.getElem?_eq_getElem hlt]
    exact List.getElem_mem _
  rw [List.drop_eq_getElem_cons hlt, show rs[k] = rs.getD k ⟨0, 0, false, 0⟩ by rw [List.getD_eq_getElem?_getD, List.getElem?_eq_getElem hlt]; rfl, ruleE] at g2
  obtain ⟨hr, hcl⟩ := hrk _ hin
  generalize rs.getD k ⟨0, 0, false, 0⟩ = r at hld g2 hr hcl
  have hmk : (IntKind.i64.wrap ((BitVec.ofInt 64 hv) &&& (BitVec.ofInt 64 r.f)).toNat != 0) = mk2 hv r.f := rfl
  have next : X = ruleE hv (rs.drop (k + 1)) → LoopN Tryz.prog 0 Tryz.f84.ntmps _ (chkS e rs (k + 1)) _ := fun h => ih (k + 1) ⟨by omega, h⟩ (by omega)
  clear ih hrk
  cases hb : mk2 hv r.f with
  | false =>
    rw [hb] at hmk g2
    have hp := PLift.up hmk
    clear hmk
    ((repeat ((conv => whnf); (first | (refine LetN.pre ?_; first | ((conv => arg 1; whnf); refine LetN.mk ?_)) | (refine As.pre ?_; first | refine As.mk rfl ?_ | (refine As.mk ?_ ?_; · ((repeat' (refine andT ?_ ?_)) <;> (first | rfl | assumption | exact decide_eq_true (by omega) | exact decide_eq_true (by dsimp only; omega) | exact decide_eq_true (by simp; omega) | (simp; done))))) | (refine LetV.pre ?_; first | refine LetV.mk (t := rty) _ hld ?_ | refine LetV.mk (.sc (.int _ _)) rfl ?_) | (refine LetI.pre ?_; first | refine LetI.wrap (by omega) (by omega) ?_ | refine LetI.mk _ rfl ?_) | (refine LetB.pre ?_; first | refine LetB.ff (by assumption) ?_ | refine LetB.dect (by omega) ?_) | (refine Gd.pre ?_; first | refine Gd.pass rfl ?_) | (refine Br.pre ?_; first | refine Br.tt rfl ?_ | refine Br.ff rfl ?_) | (refine Ck.pre ?_; first | refine Ck.drawn (by kernel_rfl) ?_ | refine Ck.mk rfl ?_) | (refine LetL.pre ?_; first | refine LetL.mk [_] rfl ?_) | (refine CallN.pre ?_; first | refine CallN.pure hh rfl rfl ?_)))); (try (conv => whnf)))



    refine LoopN.weak ?sw2 (next g2)
    case sw2 => exact SW.mk id rfl rfl (chkNames e rs _ rfl) ⟨.refl _, .refl _, .refl _, VLe2.int (by omega), trivial⟩ (haveV.row rfl rfl (haveV.one (by rw [Blk.ren, rule_ren]; rfl) trivial))
  | true =>
    rw [hb] at hmk g2
    have hp := PLift.up hmk
    clear hmk
    cases hw : r.w with
    | false =>
      rw [hw] at hr g2
      ((repeat ((conv => whnf); (first | (refine LetN.pre ?_; first | ((conv => arg 1; whnf); refine LetN.mk ?_)) | (refine As.pre ?_; first | refine As.mk rfl ?_ | (refine As.mk ?_ ?_; · ((repeat' (refine andT ?_ ?_)) <;> (first | rfl | assumption | exact decide_eq_true (by omega) | exact decide_eq_true (by dsimp only; omega) | exact decide_eq_true (by simp; omega) | (simp; done))))) | (refine LetV.pre ?_; first | refine LetV.mk (t := rty) _ hld ?_ | refine LetV.mk (.sc (.int _ _)) rfl ?_ | refine LetV.mk (.clo _ _ _) rfl ?_) | (refine LetI.pre ?_; first | refine LetI.wrap (by omega) (by omega) ?_ | refine LetI.mk _ rfl ?_) | (refine LetB.pre ?_; first | refine LetB.tt (by assumption) ?_ | refine LetB.dect (by omega) ?_) | (refine Gd.pre ?_; first | refine Gd.run rfl ?_) | (refine Br.pre ?_; first | refine Br.tt rfl ?_ | refine Br.ff rfl ?_) | (refine Ck.pre ?_; first | refine Ck.drawn (by kernel_rfl) ?_ | refine Ck.mk rfl ?_ | refine Ck.mk hcl ?_) | (refine LetL.pre ?_; first | refine LetL.mk [_] rfl ?_) | (refine CallN.pre ?_; first | refine CallN.pure hh rfl rfl ?_ | refine CallN.lend hr rfl (.ptr rfl rfl rfl .nil) ?_)))); (try (conv => whnf)))





      refine LoopN.weak ?sw3 (next g2)
      case sw3 => exact SW.mk id rfl rfl (chkNames e rs _ rfl) ⟨.refl _, .refl _, .refl _, VLe2.int (by omega), trivial⟩ (haveV.row rfl rfl (haveV.one (by rw [Blk.ren, rule_ren]; rfl) trivial))
    | true =>
      rw [hw] at hr g2
      simp only [Bool.and_self, if_true] at g2
      rw [g2]
      ((repeat ((conv => whnf); (first | (refine LetN.pre ?_; first | ((conv => arg 1; whnf); refine LetN.mk ?_)) | (refine As.pre ?_; first | refine As.mk rfl ?_ | (refine As.mk ?_ ?_; · ((repeat' (refine andT ?_ ?_)) <;> (first | rfl | assumption | exact decide_eq_true (by omega) | exact decide_eq_true (by dsimp only; omega) | exact decide_eq_true (by simp; omega) | (simp; done))))) | (refine LetV.pre ?_; first | refine LetV.mk (t := rty) _ hld ?_ | refine LetV.mk (.sc (.int _ _)) rfl ?_ | refine LetV.mk (.clo _ _ _) rfl ?_) | (refine LetI.pre ?_; first | refine LetI.mk _ rfl ?_) | (refine LetB.pre ?_; first | refine LetB.tt (by assumption) ?_ | refine LetB.dect (by omega) ?_) | (refine Gd.pre ?_; first | refine Gd.run rfl ?_) | (refine Br.pre ?_; first | refine Br.tt rfl ?_) | (refine Ck.pre ?_; first | refine Ck.drawn (by kernel_rfl) ?_ | refine Ck.mk rfl ?_ | refine Ck.mk hcl ?_) | (refine LetL.pre ?_; first | refine LetL.mk [_] rfl ?_) | (refine CallN.pre ?_; first | refine CallN.pure hh rfl rfl ?_ | refine CallN.lend hr rfl (.ptr rfl rfl rfl .nil) ?_)))); (try (conv => whnf)))





      exact ⟨.inl rfl, ⟨_, rfl, rfl⟩, trivial⟩
end En
end Go.Proofs.YtgnakhljdjekbaaGreatDoor
