/- force: parts of the proof, DforceGL DforceGM DforceGB DforceGN DforceGO. -/
import Derived.Test.YtjnohedknlibmaaL40
set_option linter.all false
namespace Go.Proofs.Ytjnohedknlibmaa
open Go.Proofs.Ytjnohedknlibmaa.Am
namespace En
/-! ### One more entry -/
theorem cnt_snoc (A : List E) (e : E) (kd a o : Int) : countP (A ++ [e]) kd a o = if cntQ kd a o e then insEnd (ltE false e) e (countP A kd a o) else countP A kd a o := by
  rw [countP_S, countP_S, List.filter_append, List.filter_cons, List.filter_nil]
  cases cntQ kd a o e with
  | true => simp only [if_true]; exact S_snoc _ _ _
  | false => simp
theorem cnt_same {A : List E} {e : E} {kd a o : Int} (h : ¬ (e.kind = kd ∧ e.day ≤ a ∧ e.on_ ≤ o)) : countP (A ++ [e]) kd a o = countP A kd a o := by
  rw [cnt_snoc, cntQ, decide_eq_false h]; rfl
theorem lift_snoc {A : List E} {e : E} {f a o : Int} (h : ¬ (e.kind = 6 ∧ e.ref = f ∧ e.day ≤ a ∧ e.on_ ≤ o)) : rLiftedP (A ++ [e]) f a o = rLiftedP A f a o := by
  rw [lift_eq, lift_eq, liftedP, List.any_append, ← liftedP]
  have : (decide (e.kind = 6) && decide (e.ref = f) && decide (e.day ≤ a ∧ e.on_ ≤ o)) = false := by
    rw [Bool.eq_false_iff]
    intro k
    simp only [Bool.and_eq_true, decide_eq_true_eq] at k
    exact h ⟨k.1.1, k.1.2, k.2⟩
  simp only [List.any_cons, List.any_nil, Bool.or_false, this]
theorem any_congr2 {α : Type} {p q : α → Bool} : ∀ {l : List α}, (∀ x ∈ l, p x = q x) → l.any p = l.any q
  | [], _ => rfl
  | x :: l, h => by rw [List.any_cons, List.any_cons, h x (List.mem_cons_self ..), any_congr2 fun y hy => h y (List.mem_cons_of_mem _ hy)]
theorem foldl_mem {α β : Type} {f g : β → α → β} : ∀ {l : List α} (b : β), (∀ x ∈ l, ∀ b, f b x = g b x) → l.foldl f b = l.foldl g b
  | [], _, _ => rfl
  | x :: l, b, h => by rw [List.foldl_cons, List.foldl_cons, h x (List.mem_cons_self ..), foldl_mem _ fun y hy => h y (List.mem_cons_of_mem _ hy)]
theorem at_none {A : List E} {e : E} {a o : Int} (h : ¬ (e.day ≤ a ∧ e.on_ ≤ o)) : rAtP (A ++ [e]) a o = rAtP A a o := by
  rw [rAtP, rAtP, cnt_same (fun k => h k.2), cnt_same (fun k => h k.2), cnt_same (fun k => h k.2)]
  refine List.map_congr_left fun g _ => ?_
  simp only [rstand, lift_snoc (e := e) (A := A) (a := a) (o := o) (fun k => h k.2.2)]
abbrev gStep (e : E) (g : Int) (x : E) : Int := bif (bif (e.kind == 6) then (x.id == e.ref) else false) then x.ref else g
def gradeOf (A : List E) (e : E) : Int := A.foldl (gStep e) e.ref
theorem grade_none {e : E} : ∀ (A : List E) (g : Int), (∀ x ∈ A, ¬ (e.kind = 6 ∧ x.id = e.ref)) → A.foldl (gStep e) g = g
  | [], _, _ => rfl
  | x :: A, g, h => by
    have : gStep e g x = g := by
      have h1 := h x (List.mem_cons_self ..)
      unfold gStep
      cases hk : (e.kind == 6) with
      | false => rfl
      | true =>
        cases hr : (x.id == e.ref) with
        | false => rfl
        | true => exact absurd ⟨beq_iff_eq.1 hk, beq_iff_eq.1 hr⟩ h1
    rw [List.foldl_cons, this, grade_none A g fun y hy => h y (List.mem_cons_of_mem _ hy)]
theorem grade_some {e : E} (he : e.kind = 6) : ∀ (A : List E) (g : Int), (∃ x ∈ A, x.id = e.ref) → ∃ x ∈ A, x.id = e.ref ∧ A.foldl (gStep e) g = x.ref
  | [], _, ⟨x, hx, _⟩ => absurd hx List.not_mem_nil
  | x :: A, g, h => by
    by_cases hA : ∃ y ∈ A, y.id = e.ref
    · obtain ⟨y, hy, h1, h2⟩ := grade_some he A (gStep e g x) hA
      exact ⟨y, List.mem_cons_of_mem _ hy, h1, h2⟩
    · obtain ⟨y, hy, h1⟩ := h
      have hx : x.id = e.ref := by
        rcases List.mem_cons.1 hy with k | k
        · rw [← k]; exact h1
        · exact absurd ⟨y, k, h1⟩ hA
      refine ⟨x, List.mem_cons_self .., hx, ?_⟩
      rw [List.foldl_cons, grade_none A _ fun y hy k => hA ⟨y, hy, k.2⟩]
      unfold gStep
      rw [beq_iff_eq.2 he, beq_iff_eq.2 hx]; rfl
/-- What is known of a right list with one more entry. -/
structure Snoc (A : List E) (e : E) : Prop where
  pid : (A ++ [e]).Pairwise fun x y => x.id ≠ y.id
  ref : ∀ x ∈ A ++ [e], tgt x.kind ≠ 0 → ∃ y ∈ A, y.id = x.ref ∧ y.kind = tgt x.kind
theorem Snoc.ne {A : List E} {e : E} (h : Snoc A e) {x : E} (hx : x ∈ A) : x.id ≠ e.id := (List.pairwise_append.1 h.pid).2.2 x hx e (List.mem_cons_self ..)
theorem Snoc.eq {A : List E} {e : E} (h : Snoc A e) {x y : E} (hx : x ∈ A) (hy : y ∈ A) (k : x.id = y.id) : x = y := by
  have hp := (List.pairwise_append.1 h.pid).1
  obtain ⟨i, hi, rfl⟩ := mem_getD hx
  obtain ⟨j, hj, rfl⟩ := mem_getD hy
  rcases Nat.lt_trichotomy i j with q | q | q
  · exact absurd k (getD_pair e0 hp q hj)
  · rw [q]
  · exact absurd k.symm (getD_pair e0 hp q hi)
theorem chk_snoc {l : List E} (h : chkE l = 0) (hl : l.length ≤ 1000) {k : Nat} (hk : k < l.length) : Snoc (l.take k) (l.getD k e0) := by
  have hsn : l.take (k + 1) = l.take k ++ [l.getD k e0] := by
    rw [List.take_succ_eq_append_getElem hk, List.getD_eq_getElem?_getD, List.getElem?_eq_getElem hk]; rfl
  refine ⟨by rw [← hsn]; exact (chk_pid h hl).sublist (List.take_sublist _ _), fun x hx ht => ?_⟩
  rw [← hsn] at hx
  obtain ⟨i, hi, rfl⟩ := mem_getD hx
  rw [List.length_take] at hi
  rw [getD_take (by omega)] at ht ⊢
  obtain ⟨y, hy, h1, h2, _⟩ := chk_ref h hl (by omega) ht
  refine ⟨y, ?_, h1, h2⟩
  have : (l.take k).take i = l.take i := by rw [List.take_take, Nat.min_eq_left (by omega)]
  rw [← this] at hy
  exact List.mem_of_mem_take hy
theorem rst_snoc {A : List E} {e : E} {C F : List E} {a o : Int} {g : E} (h : ∀ f ∈ F, f.ref = g.id → rLiftedP (A ++ [e]) f.id a o = rLiftedP A f.id a o) : rstand (A ++ [e]) C F a o g = rstand A C F a o g := by
  unfold rstand
  congr 1
  refine any_congr2 fun f hf => ?_
  by_cases hr : f.ref = g.id
  · rw [h f hf hr]
  · rw [decide_eq_false hr, Bool.false_and, Bool.false_and]
theorem ins_foldl {e : E} {C : List E} (hC : Sorted (ltE false) C) {g : E} (h : e.ref ≠ g.id) (x : Int × Int × Int × Bool) : (insEnd (ltE false e) e C).foldl (stepR g) x = C.foldl (stepR g) x := by
  have key : ∀ l : List E, l.foldl (stepR g) x = (l.filter fun c => decide (c.ref = g.id)).foldl stepC x := by
    intro l
    rw [List.foldl_filter]
    refine foldl_congr (fun b c => ?_) _ _
    simp only [stepR, decide_eq_true_eq]
  rw [key, key, ins_filter (ord_E false) hC, decide_eq_false h]; rfl
theorem ins_any (gt : E → Bool) (e : E) (F : List E) (p : E → Bool) : (insEnd gt e F).any p = (p e || F.any p) := by
  rw [Bool.eq_iff_iff, Bool.or_eq_true, List.any_eq_true, List.any_eq_true]
  constructor
  · rintro ⟨x, hx, hp⟩
    rcases List.mem_cons.1 ((ins_perm _ _ _).mem_iff.1 hx) with k | k
    · exact .inl (k ▸ hp)
    · exact .inr ⟨x, k, hp⟩
  · rintro (k | ⟨x, hx, hp⟩)
    · exact ⟨e, (ins_perm _ _ _).mem_iff.2 (List.mem_cons_self ..), k⟩
    · exact ⟨x, (ins_perm _ _ _).mem_iff.2 (List.mem_cons_of_mem _ hx), hp⟩
theorem cnt_sorted (l : List E) (k a o : Int) : Sorted (ltE false) (countP l k a o) := by rw [countP_S]; exact S_sorted (ord_E false) _
/-- Another entry than a grade changes at most the standing of its grade. -/
theorem st_other {A : List E} {e : E} (hs : Snoc A e) {a o : Int} (hc : e.day ≤ a ∧ e.on_ ≤ o) (h3 : e.kind ≠ 3) {g : E} (hg : g.id ≠ gradeOf A e) :
    rstand (A ++ [e]) (countP (A ++ [e]) 4 a o) (countP (A ++ [e]) 5 a o) a o g = rstand A (countP A 4 a o) (countP A 5 a o) a o g := by
  by_cases h6 : e.kind = 6
  · rw [cnt_same (by omega), cnt_same (by omega)]
    obtain ⟨f, hf, hfi, hfk⟩ := hs.ref e (by simp) (by rw [h6]; decide)
    rw [h6] at hfk
    obtain ⟨x, hx, hxi, hxr⟩ := grade_some h6 A e.ref ⟨f, hf, hfi⟩
    rw [gradeOf, hxr] at hg
    refine rst_snoc fun y hy hyr => lift_snoc fun k => hg ?_
    have hyA := (mem_countP.1 hy).1
    rw [hs.eq hx hyA (by rw [hxi, k.2.1]), hyr]
  have hgr : gradeOf A e = e.ref := grade_none A _ fun x _ k => h6 k.1
  rw [hgr] at hg
  rw [rst_snoc fun f _ _ => lift_snoc fun k => h6 k.1]
  by_cases h4 : e.kind = 4
  · have h5 : countP (A ++ [e]) 5 a o = countP A 5 a o := cnt_same (by omega)
    rw [h5, cnt_snoc, cntQ, decide_eq_true ⟨h4, hc⟩, if_pos rfl, rstand, ins_foldl (cnt_sorted ..) (Ne.symm hg)]; rfl
  · rw [cnt_same (kd := 4) (by omega)]
    by_cases h5 : e.kind = 5
    · rw [cnt_snoc, cntQ, decide_eq_true ⟨h5, hc⟩, if_pos rfl, rstand, ins_any, decide_eq_false (Ne.symm hg), Bool.false_and, Bool.false_or]; rfl
    · rw [cnt_same (kd := 5) (by omega)]
/-- A grade changes no other standing, and stands as it is. -/
theorem st_grade {A : List E} {e : E} (h3 : e.kind = 3) {a o : Int} (g : E) :
    rstand (A ++ [e]) (countP (A ++ [e]) 4 a o) (countP (A ++ [e]) 5 a o) a o g = rstand A (countP A 4 a o) (countP A 5 a o) a o g := by
  rw [cnt_same (kd := 4) (by omega), cnt_same (kd := 5) (by omega)]
  exact rst_snoc fun f _ _ => lift_snoc fun k => by omega
theorem st_new {A : List E} {e : E} (hs : Snoc A e) (a o : Int) : rstand A (countP A 4 a o) (countP A 5 a o) a o e = ⟨e.id, 0, e.grade, false⟩ := by
  have hne : ∀ x ∈ A, tgt x.kind ≠ 0 → x.ref ≠ e.id := by
    intro x hx ht k
    obtain ⟨y, hy, h1, _⟩ := hs.ref x (by simp [hx]) ht
    exact hs.ne hy (h1.trans k)
  have h4 : (countP A 4 a o).foldl (stepR e) (0, e.grade, 0, false) = (0, e.grade, 0, false) := by
    have hst : ∀ x ∈ countP A 4 a o, ∀ b, stepR e b x = (fun b (_ : E) => b) b x := fun x hx b => if_neg (by
      have := mem_countP.1 hx
      exact hne x this.1 (by rw [this.2.1]; decide))
    rw [foldl_mem _ hst]
    generalize countP A 4 a o = l
    generalize ((0 : Int), e.grade, (0 : Int), false) = b
    induction l with
    | nil => rfl
    | cons x l ih => rw [List.foldl_cons]; exact ih
  have h5 : ((countP A 5 a o).any fun f => decide (f.ref = e.id) && !rLiftedP A f.id a o) = false := by
    rw [List.any_eq_false]
    intro x hx k
    have := mem_countP.1 hx
    simp only [Bool.and_eq_true, decide_eq_true_eq] at k
    exact hne x this.1 (by rw [this.2.1]; decide) k.1
  rw [rstand, h4, h5]
theorem getD_map {α β : Type} (f : α → β) (d : α) (d' : β) {l : List α} {i : Nat} (h : i < l.length) : (l.map f).getD i d' = f (l.getD i d) := by
  rw [List.getD_eq_getElem?_getD, List.getD_eq_getElem?_getD, List.getElem?_map, List.getElem?_eq_getElem h]; rfl
theorem getD_left {α : Type} {P Q : List α} {i : Nat} {d : α} (h : i < P.length) : (P ++ Q).getD i d = P.getD i d := by
  rw [List.getD_eq_getElem?_getD, List.getElem?_append_left h, ← List.getD_eq_getElem?_getD]
theorem getD_right {α : Type} {P Q : List α} {i : Nat} {d : α} (h : P.length ≤ i) : (P ++ Q).getD i d = Q.getD (i - P.length) d := by
  rw [List.getD_eq_getElem?_getD, List.getElem?_append_right h, ← List.getD_eq_getElem?_getD]
/-- How the standings with one more entry go along those without it. -/
theorem one_plain {A : List E} {e : E} (hs : Snoc A e) {a o : Int} (hc : e.day ≤ a ∧ e.on_ ≤ o) : ∃ nn : Nat → Nat, nn 0 = 0 ∧ nn (rAtP (A ++ [e]) a o).length = (rAtP A a o).length ∧ ∀ i, i < (rAtP (A ++ [e]) a o).length →
    (((rAtP (A ++ [e]) a o).getD i s0 = ⟨e.id, 0, e.grade, false⟩ ∧ e.kind = 3 ∧ nn (i + 1) = nn i) ∨
     (nn i < (rAtP A a o).length ∧ ¬ (((rAtP (A ++ [e]) a o).getD i s0).entry = e.id ∧ e.kind = 3) ∧ ((rAtP (A ++ [e]) a o).getD i s0).entry = ((rAtP A a o).getD (nn i) s0).entry ∧
      ((rAtP (A ++ [e]) a o).getD i s0 = (rAtP A a o).getD (nn i) s0 ∨ (e.kind ≠ 3 ∧ ((rAtP (A ++ [e]) a o).getD i s0).entry = gradeOf A e)) ∧ nn (i + 1) = nn i + 1)) := by
  by_cases h3 : e.kind = 3
  · obtain ⟨P, Q, hPQ, p1, p2⟩ := ins_split (ord_E false) (cnt_sorted A 3 a o) e
    have hB : rAtP (A ++ [e]) a o = (P ++ e :: Q).map (rstand A (countP A 4 a o) (countP A 5 a o) a o) := by
      rw [rAtP, cnt_snoc A e 3, cntQ, decide_eq_true ⟨h3, hc⟩, if_pos rfl, hPQ, ins_of p1 p2]
      exact List.map_congr_left fun g _ => st_grade h3 g
    have hA : rAtP A a o = (P ++ Q).map (rstand A (countP A 4 a o) (countP A 5 a o) a o) := by rw [rAtP, hPQ]
    have hnew := st_new hs a o
    have hin : ∀ x ∈ P ++ Q, x.id ≠ e.id := fun x hx => hs.ne (mem_countP.1 (hPQ ▸ hx)).1
    have hst : ∀ x, (rstand A (countP A 4 a o) (countP A 5 a o) a o x).entry = x.id := fun x => rfl
    rw [hA, hB]
    generalize rstand A (countP A 4 a o) (countP A 5 a o) a o = st at hnew hst
    refine ⟨fun i => if i ≤ P.length then i else i - 1, if_pos (Nat.zero_le _), ?_, fun i hi => ?_⟩
    · simp only [List.length_map, List.length_append, List.length_cons]
      rw [if_neg (by omega)]; omega
    simp only [List.length_map, List.length_append, List.length_cons] at hi
    by_cases hip : i = P.length
    · left
      refine ⟨?_, h3, ?_⟩
      · rw [getD_map st e0 s0 (by simp; omega), getD_right (by omega), hip, Nat.sub_self]
        exact hnew
      · simp only [hip]
        rw [if_neg (by omega), if_pos (Nat.le_refl _)]; rfl
    · right
      have hnn : (if i ≤ P.length then i else i - 1) < (P ++ Q).length := by simp only [List.length_append]; split <;> omega
      have hxe : (P ++ e :: Q).getD i e0 = (P ++ Q).getD (if i ≤ P.length then i else i - 1) e0 := by
        by_cases hlt : i < P.length
        · rw [if_pos (by omega), getD_left hlt, getD_left hlt]
        · rw [if_neg (by omega), getD_right (by omega), getD_right (by omega)]
          have : i - P.length = (i - 1 - P.length) + 1 := by omega
          rw [this]; rfl
      have hmem : (P ++ Q).getD (if i ≤ P.length then i else i - 1) e0 ∈ P ++ Q := getD_mem hnn
      have hEq : ((P ++ e :: Q).map st).getD i s0 = ((P ++ Q).map st).getD (if i ≤ P.length then i else i - 1) s0 := by
        rw [getD_map st e0 s0 (by simp; omega), getD_map st e0 s0 hnn, hxe]
      refine ⟨by rw [List.length_map]; exact hnn, fun k => ?_, by rw [hEq], .inl hEq, ?_⟩
      · rw [hEq, getD_map st e0 s0 hnn, hst] at k
        exact hin _ hmem k.1
      · show (if i + 1 ≤ P.length then i + 1 else i + 1 - 1) = (if i ≤ P.length then i else i - 1) + 1
        split <;> split <;> omega
  · have hG : countP (A ++ [e]) 3 a o = countP A 3 a o := cnt_same (by omega)
    have hlen : (rAtP (A ++ [e]) a o).length = (rAtP A a o).length := by rw [rAtP, rAtP, List.length_map, List.length_map, hG]
    refine ⟨id, rfl, hlen, fun i hi => .inr ?_⟩
    rw [hlen] at hi
    refine ⟨hi, fun k => h3 k.2, ?_, ?_, rfl⟩
    · rw [rAtP, rAtP, hG]
      rw [rAtP, List.length_map] at hi
      rw [getD_map _ e0 s0 hi, show id i = i from rfl, getD_map _ e0 s0 hi]; rfl
    · rw [rAtP, rAtP, hG]
      rw [rAtP, List.length_map] at hi
      rw [getD_map _ e0 s0 hi, show id i = i from rfl, getD_map _ e0 s0 hi]
      by_cases hg : ((countP A 3 a o).getD i e0).id = gradeOf A e
      · right; exact ⟨h3, hg⟩
      · left; exact st_other hs hc h3 hg
end En
end Go.Proofs.Ytjnohedknlibmaa
namespace Go.Proofs.Ytjnohedknlibmaa
open Go.Proofs.Ytjnohedknlibmaa.Am
namespace En
/-! ### ForceOne -/
abbrev u8' (v : Int) : AV := .sc (.int .u8 v)
theorem take_snoc {l : List E} {k : Nat} (hk : k < l.length) : l.take (k + 1) = l.take k ++ [l.getD k e0] := by
  rw [List.take_succ_eq_append_getElem hk, List.getD_eq_getElem?_getD, List.getElem?_eq_getElem hk]; rfl
theorem rAtP_length (l : List E) (a o : Int) : (rAtP l a o).length ≤ l.length := by rw [← at_eq]; exact atP_length ..
abbrev oneI (l : List E) (A B : List St) (k : Nat) (e : E) : Nat × Int → AS
  | (j, g) => ⟨[(7, bool true), (8, .ro {} 15 (l.map en)), (12, int k), (13, .ptr 2 15 0 0), (14, .ro {} 4 (A.map stA)), (15, .ro {} 4 (B.map stA)), (16, int g), (17, int j)], [(2, .row 15 ety [en e])], 3⟩
abbrev oneJ (A B : List St) (e : E) (gr : Int) : Nat × Nat → AS
  | (j, n) => ⟨[(7, bool true), (13, .ptr 2 15 0 0), (14, .ro {} 4 (A.map stA)), (15, .ro {} 4 (B.map stA)), (16, int gr), (18, int n), (19, int j)], [(2, .row 15 ety [en e])], 3⟩
set_option maxHeartbeats 1600000 in
set_option maxRecDepth 100000 in
theorem fone (L : List (Fl × List Int)) (fl : Fl) (q : Int × Int × Int) (hxs : ∀ x ∈ L, x.2.length ≤ 9223372036854775807) (last : Int) (hla : 0 ≤ last ∧ last ≤ 255) (w : Int × Int) (hw1 : 0 ≤ w.1 ∧ w.1 ≤ 65535) (hw2 : 0 ≤ w.2 ∧ w.2 ≤ 65535) :
    AFun Try.prog 3 0 [.agg [.ro fl 1 (L.map iA), int q.1, int q.2.1, int q.2.2], u8' last, .agg [u16 w.1, u16 w.2]] [] (bool true) [] := by
  obtain ⟨l, l', h1, h2, hM⟩ := made_f L fl q hxs
  have hlen := h1.len
  obtain ⟨a, ha⟩ : ∃ a, a = w.1.tmod 1000 := ⟨_, rfl⟩
  obtain ⟨o, ho⟩ : ∃ o, o = w.2.tmod 1000 := ⟨_, rfl⟩
  have hml : (l.map en).length = l.length := List.length_map _
  refine AFun.of_W T_ok mixed Try.func3 rfl (Nat.le_of_ble_eq_true rfl) rfl ?_
  by_cases h0 : l.length = 0
  case pos =>
    ((repeat ((conv => whnf); (first | (refine LetN.pre ?_; first | ((conv => arg 1; whnf); refine LetN.mk ?_)) | (refine As.pre ?_; first | refine As.mk rfl ?_) | (refine LetV.pre ?_; first | refine LetV.mk (.agg _) rfl ?_) | (refine LetI.pre ?_; first | refine LetI.mk _ rfl ?_) | (refine LetB.pre ?_; first | refine LetB.dect (by omega) ?_) | (refine Br.pre ?_; first | refine Br.tt rfl ?_) | (refine Ck.pre ?_; first | refine Ck.mk rfl ?_) | (refine CallN.pre ?_; first | refine CallN.pure sanity_f rfl rfl ?_ | refine CallN.pure hM rfl rfl ?_)))); (try (conv => whnf)))


    exact ⟨.inl rfl, ⟨_, rfl, rfl⟩, trivial⟩
  have hnz : (((l.map en).length : Int) != 0) = true := bne_iff_ne.2 (by omega)
  obtain ⟨k, hk, hkk⟩ : ∃ k : Nat, k < l.length ∧ ((k : Nat) : Int) = last.tmod (((l.map en).length : Nat) : Int) := by
    rw [hml]
    have h1 := Int.tmod_nonneg (l.length : Int) hla.1
    have h2 := Int.tmod_lt_of_pos last (b := (l.length : Int)) (by omega)
    exact ⟨(last.tmod (l.length : Int)).toNat, by omega, by omega⟩
  have hadd : ((k + 1 : Nat) : Int) = IntKind.i64.wrap ((k : Int) + 1) := by rw [wrap_id (by omega) (by omega)]; omega
  have t1 := (take_en2 l k).symm
  have t2 := (take_en2 l (k + 1)).symm
  have c1 := fun fl => At_f (l.take k) a o fl (by have := List.length_take_le' k l; omega)
  have c2 := fun fl => At_f (l.take (k + 1)) a o fl (by have := List.length_take_le' (k + 1) l; omega)
  rw [at_eq] at c1 c2
  have hA := rAtP_length (l.take k) a o
  have hB := rAtP_length (l.take (k + 1)) a o
  have hA2 := List.length_take_le' k l
  have hB2 := List.length_take_le' (k + 1) l
  have hld : en (l.getD k e0) = (l.map en).getD k (.sc undef) := mapD e0 hk
  have hsn := chk_snoc h1.chk (by omega) hk
  have hts := take_snoc hk
  have hgr : gradeOf (l.take k) (l.getD k e0) = (l.take k).foldl (gStep (l.getD k e0)) (l.getD k e0).ref := rfl
  rw [hts] at c2 hB
  by_cases hc : (l.getD k e0).day ≤ a ∧ (l.getD k e0).on_ ≤ o
  case neg =>
    rw [at_none hc] at c2 hB
    have hS := Same_f (rAtP (l.take k) a o) {} {} (by omega)
    rw [← hts] at c2
    generalize rAtP (l.take k) a o = A at c1 c2 hS
    clear hsn hts hgr
    generalize l.getD k e0 = e at hld hc
    by_cases hd : e.day ≤ a
    · ((repeat ((conv => whnf); (first | (refine LetN.pre ?_; first | ((conv => arg 1; whnf); refine LetN.mk ?_)) | (refine As.pre ?_; first | refine As.mk rfl ?_ | refine As.mk hnz ?_ | (refine As.mk ?_ ?_; · ((repeat' (refine andT ?_ ?_)) <;> (first | rfl | assumption | exact decide_eq_true (by omega) | exact decide_eq_true (by dsimp only; omega) | exact decide_eq_true (by simp; omega) | (simp; done))))) | (refine LetV.pre ?_; first | refine LetV.mk (t := 29) _ hld ?_ | refine LetV.mk (t := 29) (.ro _ 15 ((l.take k).map en)) (congrArg (AV.ro _ 15) t1) ?_ | refine LetV.mk (t := 29) (.ro _ 15 ((l.take (k + 1)).map en)) (congrArg (AV.ro _ 15) t2) ?_ | refine LetV.mk (.sc (.int _ _)) rfl ?_ | refine LetV.mk (.agg _) rfl ?_) | (refine LetI.pre ?_; first | refine LetI.mk (o := some .rem) a ha ?_ | refine LetI.mk (o := some .rem) o ho ?_ | refine LetI.mk (o := some .rem) ((k : Nat) : Int) hkk ?_ | refine LetI.mk (o := some .add) ((k + 1 : Nat) : Int) hadd ?_ | refine LetI.wrap (by omega) (by omega) ?_ | refine LetI.mk _ rfl ?_) | (refine LetB.pre ?_; first | refine LetB.dect (by omega) ?_ | refine LetB.decf (by omega) ?_) | (refine Gd.pre ?_; first | refine Gd.run rfl ?_) | (refine Br.pre ?_; first | refine Br.tt rfl ?_ | refine Br.ff rfl ?_) | (refine Ck.pre ?_; first | refine Ck.drawn (by kernel_rfl) ?_ | refine Ck.mk rfl ?_) | (refine LetL.pre ?_; first | refine LetL.mk [_] rfl ?_) | (refine CallN.pre ?_; first | refine CallN.pure sanity_f rfl rfl ?_ | refine CallN.pure hM rfl rfl ?_ | refine CallN.pure (c1 _) rfl rfl ?_ | refine CallN.pure (c2 _) rfl rfl ?_ | refine CallN.pure hS rfl rfl ?_)))); (try (conv => whnf)))













      exact ⟨.inl rfl, ⟨_, rfl, rfl⟩, trivial⟩
    · ((repeat ((conv => whnf); (first | (refine LetN.pre ?_; first | ((conv => arg 1; whnf); refine LetN.mk ?_)) | (refine As.pre ?_; first | refine As.mk rfl ?_ | refine As.mk hnz ?_ | (refine As.mk ?_ ?_; · ((repeat' (refine andT ?_ ?_)) <;> (first | rfl | assumption | exact decide_eq_true (by omega) | exact decide_eq_true (by dsimp only; omega) | exact decide_eq_true (by simp; omega) | (simp; done))))) | (refine LetV.pre ?_; first | refine LetV.mk (t := 29) _ hld ?_ | refine LetV.mk (t := 29) (.ro _ 15 ((l.take k).map en)) (congrArg (AV.ro _ 15) t1) ?_ | refine LetV.mk (t := 29) (.ro _ 15 ((l.take (k + 1)).map en)) (congrArg (AV.ro _ 15) t2) ?_ | refine LetV.mk (.sc (.int _ _)) rfl ?_ | refine LetV.mk (.agg _) rfl ?_) | (refine LetI.pre ?_; first | refine LetI.mk (o := some .rem) a ha ?_ | refine LetI.mk (o := some .rem) o ho ?_ | refine LetI.mk (o := some .rem) ((k : Nat) : Int) hkk ?_ | refine LetI.mk (o := some .add) ((k + 1 : Nat) : Int) hadd ?_ | refine LetI.wrap (by omega) (by omega) ?_ | refine LetI.mk _ rfl ?_) | (refine LetB.pre ?_; first | refine LetB.dect (by omega) ?_ | refine LetB.decf (by omega) ?_) | (refine Gd.pre ?_; first | refine Gd.run rfl ?_ | refine Gd.pass rfl ?_) | (refine Br.pre ?_; first | refine Br.tt rfl ?_ | refine Br.ff rfl ?_) | (refine Ck.pre ?_; first | refine Ck.drawn (by kernel_rfl) ?_ | refine Ck.mk rfl ?_) | (refine LetL.pre ?_; first | refine LetL.mk [_] rfl ?_) | (refine CallN.pre ?_; first | refine CallN.pure sanity_f rfl rfl ?_ | refine CallN.pure hM rfl rfl ?_ | refine CallN.pure (c1 _) rfl rfl ?_ | refine CallN.pure (c2 _) rfl rfl ?_ | refine CallN.pure hS rfl rfl ?_)))); (try (conv => whnf)))













      exact ⟨.inl rfl, ⟨_, rfl, rfl⟩, trivial⟩
  obtain ⟨nn, hn0, hn1, hp⟩ := one_plain hsn hc
  rw [← hts] at c2
  have c2 : ∀ fl, AFun Try.prog 11 0 [.ro fl 15 ((l.take (k + 1)).map en), int a, int o] [] (.ro {} 4 ((rAtP (l.take k ++ [l.getD k e0]) a o).map stA)) [] := by rw [← hts]; exact c2
  have hB3 : (rAtP (l.take k ++ [l.getD k e0]) a o).length ≤ 100 := by rw [← hts]; have := rAtP_length (l.take (k + 1)) a o; omega
  have hA3 : (rAtP (l.take k) a o).length ≤ 100 := by omega
  have hgets : ∀ j, j < k → (l.take k).getD j e0 = l.getD j e0 := fun j hj => getD_take hj
  have hkl : (l.take k).length = k := by rw [List.length_take]; omega
  generalize rAtP (l.take k ++ [l.getD k e0]) a o = B at c2 hn1 hp hB3
  generalize rAtP (l.take k) a o = A at c1 hn1 hp hA3
  clear hsn hts hA hB hA2 hB2
  generalize hG : gradeOf (l.take k) (l.getD k e0) = G at hgr hp
  clear hG
  generalize l.getD k e0 = e at hld hc hgr hp
  obtain ⟨hd, hon⟩ := hc
  ((repeat ((conv => whnf); (first | (refine LetN.pre ?_; first | ((conv => arg 1; whnf); refine LetN.mk ?_)) | (refine As.pre ?_; first | refine As.mk rfl ?_ | refine As.mk hnz ?_ | (refine As.mk ?_ ?_; · ((repeat' (refine andT ?_ ?_)) <;> (first | rfl | assumption | exact decide_eq_true (by omega) | exact decide_eq_true (by dsimp only; omega) | exact decide_eq_true (by simp; omega) | (simp; done))))) | (refine LetV.pre ?_; first | refine LetV.mk (t := 29) _ hld ?_ | refine LetV.mk (t := 29) (.ro _ 15 ((l.take k).map en)) (congrArg (AV.ro _ 15) t1) ?_ | refine LetV.mk (t := 29) (.ro _ 15 ((l.take (k + 1)).map en)) (congrArg (AV.ro _ 15) t2) ?_ | refine LetV.mk (.sc (.int _ _)) rfl ?_ | refine LetV.mk (.agg _) rfl ?_) | (refine LetI.pre ?_; first | refine LetI.mk (o := some .rem) a ha ?_ | refine LetI.mk (o := some .rem) o ho ?_ | refine LetI.mk (o := some .rem) ((k : Nat) : Int) hkk ?_ | refine LetI.mk (o := some .add) ((k + 1 : Nat) : Int) hadd ?_ | refine LetI.wrap (by omega) (by omega) ?_ | refine LetI.mk _ rfl ?_) | (refine LetB.pre ?_; first | refine LetB.decf (by omega) ?_) | (refine Gd.pre ?_; first | refine Gd.run rfl ?_) | (refine Br.pre ?_; first | refine Br.ff rfl ?_) | (refine Ck.pre ?_; first | refine Ck.drawn (by kernel_rfl) ?_ | refine Ck.mk rfl ?_) | (refine LetL.pre ?_; first | refine LetL.mk [_] rfl ?_) | (refine CallN.pre ?_; first | refine CallN.pure sanity_f rfl rfl ?_ | refine CallN.pure hM rfl rfl ?_ | refine CallN.pure (c1 _) rfl rfl ?_ | refine CallN.pure (c2 _) rfl rfl ?_)))); (try (conv => whnf)))












  clear hM c1 c2 t1 t2 hld hadd hkk ha ho hnz h1 h2 hxs
  refine LoopN.weak (s1 := oneI l A B k e (0, e.ref)) (SW.mk id rfl rfl rfl ⟨.refl _, .refl _, .refl _, .refl _, .refl _, .refl _, .refl _, .refl _, trivial⟩ (haveV.row rfl rfl trivial)) ?_
  refine LoopN.ind T_ok mixed (S := oneI l A B k e) (fun i => k - i.1) (fun i => i.1 ≤ k ∧ G = ((l.take k).drop i.1).foldl (gStep e) i.2) (fun _ => rfl) (fun i hi ih => ?_) (0, e.ref) ⟨Nat.zero_le _, hgr⟩
  obtain ⟨j, g⟩ := i
  obtain ⟨u1, u2⟩ := hi
  simp only at u1 u2 ih
  by_cases hj : j < k
  case pos =>
    have hlx : en (l.getD j e0) = (l.map en).getD j (.sc undef) := mapD e0 (by omega)
    rw [foldl_drop _ (by omega) e0, hgets j hj] at u2
    generalize l.getD j e0 = x at hlx u2
    have next : ∀ g', gStep e g x = g' → _ := fun g' h => ih (j + 1, g') ⟨by omega, by rw [← h]; exact u2⟩ (by show k - (j + 1) < k - j; omega)
    clear ih u2 hp hgr
    cases h6 : (e.kind == 6) with
    | false =>
      ((repeat ((conv => whnf); (first | (refine As.pre ?_; first | refine As.mk rfl ?_) | (refine LetV.pre ?_; first | refine LetV.mk (.sc (.int _ _)) rfl ?_) | (refine LetI.pre ?_; first | refine LetI.wrap (by omega) (by omega) ?_) | (refine LetB.pre ?_; first | refine LetB.ff (by assumption) ?_ | refine LetB.dect (by omega) ?_) | (refine Gd.pre ?_; first | refine Gd.pass rfl ?_) | (refine Br.pre ?_; first | refine Br.tt rfl ?_ | refine Br.ff rfl ?_) | (refine Ck.pre ?_; first | refine Ck.drawn (by kernel_rfl) ?_ | refine Ck.mk rfl ?_)))); (try (conv => whnf)))
      refine LoopN.weak ?_ (next g (by simp [gStep, h6]))
      exact SW.mk id rfl rfl rfl ⟨.refl _, .refl _, .refl _, .refl _, .refl _, .refl _, .refl _, VLe2.int (by omega), trivial⟩ (haveV.row rfl rfl trivial)
    | true =>
    cases hr : (x.id == e.ref) with
    | false =>
      ((repeat ((conv => whnf); (first | (refine As.pre ?_; first | refine As.mk rfl ?_ | (refine As.mk ?_ ?_; · ((repeat' (refine andT ?_ ?_)) <;> (first | rfl | assumption | exact decide_eq_true (by omega) | exact decide_eq_true (by dsimp only; omega) | exact decide_eq_true (by simp; omega) | (simp; done))))) | (refine LetV.pre ?_; first | refine LetV.mk (t := 29) _ hlx ?_ | refine LetV.mk (.sc (.int _ _)) rfl ?_) | (refine LetI.pre ?_; first | refine LetI.wrap (by omega) (by omega) ?_) | (refine LetB.pre ?_; first | refine LetB.tt (by assumption) ?_ | refine LetB.ff (by assumption) ?_ | refine LetB.dect (by omega) ?_) | (refine Gd.pre ?_; first | refine Gd.run rfl ?_) | (refine Br.pre ?_; first | refine Br.tt rfl ?_ | refine Br.ff rfl ?_) | (refine Ck.pre ?_; first | refine Ck.drawn (by kernel_rfl) ?_ | refine Ck.mk rfl ?_)))); (try (conv => whnf)))
      refine LoopN.weak ?_ (next g (by simp [gStep, h6, hr]))
      exact SW.mk id rfl rfl rfl ⟨.refl _, .refl _, .refl _, .refl _, .refl _, .refl _, .refl _, VLe2.int (by omega), trivial⟩ (haveV.row rfl rfl trivial)
    | true =>
      ((repeat ((conv => whnf); (first | (refine As.pre ?_; first | refine As.mk rfl ?_ | (refine As.mk ?_ ?_; · ((repeat' (refine andT ?_ ?_)) <;> (first | rfl | assumption | exact decide_eq_true (by omega) | exact decide_eq_true (by dsimp only; omega) | exact decide_eq_true (by simp; omega) | (simp; done))))) | (refine LetV.pre ?_; first | refine LetV.mk (t := 29) _ hlx ?_ | refine LetV.mk (.sc (.int _ _)) rfl ?_) | (refine LetI.pre ?_; first | refine LetI.wrap (by omega) (by omega) ?_) | (refine LetB.pre ?_; first | refine LetB.tt (by assumption) ?_ | refine LetB.dect (by omega) ?_) | (refine Gd.pre ?_; first | refine Gd.run rfl ?_) | (refine Br.pre ?_; first | refine Br.tt rfl ?_) | (refine Ck.pre ?_; first | refine Ck.drawn (by kernel_rfl) ?_ | refine Ck.mk rfl ?_)))); (try (conv => whnf)))
      refine LoopN.weak ?_ (next x.ref (by simp [gStep, h6, hr]))
      exact SW.mk id rfl rfl rfl ⟨.refl _, .refl _, .refl _, .refl _, .refl _, .refl _, .refl _, VLe2.int (by omega), trivial⟩ (haveV.row rfl rfl trivial)
  clear ih
  rw [List.drop_eq_nil_of_le (by omega), List.foldl_nil] at u2
  subst u2
  obtain ⟨gr, hgr3, hgr4, hq⟩ : ∃ gr : Int, (e.kind = 3 → gr = e.id) ∧ (e.kind ≠ 3 → gr = G) ∧ ∀ i, i < B.length → ((B.getD i s0 = ⟨e.id, 0, e.grade, false⟩ ∧ e.kind = 3 ∧ nn (i + 1) = nn i) ∨
     (nn i < A.length ∧ ¬ ((B.getD i s0).entry = e.id ∧ e.kind = 3) ∧ (B.getD i s0).entry = (A.getD (nn i) s0).entry ∧ (B.getD i s0 = A.getD (nn i) s0 ∨ (B.getD i s0).entry = gr) ∧ nn (i + 1) = nn i + 1)) := by
    by_cases h3 : e.kind = 3
    · refine ⟨e.id, fun _ => rfl, fun k => absurd h3 k, fun i hi => (hp i hi).imp_right fun h => ⟨h.1, h.2.1, h.2.2.1, .inl ?_, h.2.2.2.2⟩⟩
      exact h.2.2.2.1.elim id fun k => absurd h3 k.1
    · exact ⟨G, fun k => absurd k h3, fun _ => rfl, fun i hi => (hp i hi).imp_right fun h => ⟨h.1, h.2.1, h.2.2.1, h.2.2.2.1.imp_right And.right, h.2.2.2.2⟩⟩
  clear hp
  by_cases h3 : e.kind = 3
  · ((repeat ((conv => whnf); (first | (refine As.pre ?_; first | refine As.mk rfl ?_) | (refine LetV.pre ?_; first | refine LetV.mk (.sc (.int _ _)) rfl ?_) | (refine LetB.pre ?_; first | refine LetB.dect (by omega) ?_ | refine LetB.decf (by omega) ?_) | (refine Br.pre ?_; first | refine Br.tt rfl ?_ | refine Br.ff rfl ?_) | (refine Ck.pre ?_; first | refine Ck.mk rfl ?_)))); (try (conv => whnf)))
    refine LoopN.weak (s1 := oneJ A B e gr (0, 0)) (SW.mk id rfl rfl rfl ⟨.refl _, .refl _, .refl _, .refl _, VLe2.int (hgr3 h3), VLe2.int rfl, .refl _, trivial⟩ (haveV.row rfl rfl trivial)) ?_
    refine LoopN.ind T_ok mixed (S := oneJ A B e gr) (fun i => B.length - i.1) (fun i => i.1 ≤ B.length ∧ i.2 = nn i.1) (fun _ => rfl) (fun i hi ih => ?_) (0, 0) ⟨Nat.zero_le _, hn0.symm⟩
    obtain ⟨i, n⟩ := i
    obtain ⟨hi, hni⟩ := hi
    simp only at hi hni ih
    have hml2 : (A.map stA).length = A.length := List.length_map _
    have hmb2 : (B.map stA).length = B.length := List.length_map _
    by_cases hib : i < B.length
    case neg =>
      clear ih hq
      have hie : i = B.length := by omega
      have hfin : (((n : Nat) : Int) == ((A.map stA).length : Int)) = true := by rw [hni, hie, hn1, hml2]; simp
      ((repeat ((conv => whnf); (first | (refine As.pre ?_; first | refine As.mk rfl ?_) | (refine LetI.pre ?_; first | refine LetI.mk _ rfl ?_) | (refine LetB.pre ?_; first | refine LetB.tt (by assumption) ?_ | refine LetB.decf (by omega) ?_) | (refine Gd.pre ?_; first | refine Gd.run rfl ?_) | (refine Br.pre ?_; first | refine Br.ff rfl ?_) | (refine Ck.pre ?_; first | refine Ck.mk rfl ?_)))); (try (conv => whnf)))
      exact ⟨.inl rfl, ⟨_, rfl, rfl⟩, trivial⟩
    have hlb : stA (B.getD i s0) = (B.map stA).getD i (.sc undef) := mapD s0 hib
    have hq := hq i hib
    rw [← hni] at hq
    rcases hq with ⟨q1, q2, q3⟩ | ⟨q1, q2, q3, q4, q5⟩
    · rw [q1] at hlb
      have hlb : AV.agg [int e.id, int 0, int e.grade, bool false] = (B.map stA).getD i (.sc undef) := hlb
      have next := ih (i + 1, n) ⟨by omega, q3.symm⟩ (by show B.length - (i + 1) < B.length - i; omega)
      clear ih
      have he : (!stB ⟨e.id, 0, e.grade, false⟩ ⟨e.id, 0, e.grade, false⟩) = false := by rw [stB_self]; rfl
      ((repeat ((conv => whnf); (first | (refine As.pre ?_; first | refine As.mk rfl ?_ | (refine As.mk ?_ ?_; · ((repeat' (refine andT ?_ ?_)) <;> (first | rfl | assumption | exact decide_eq_true (by omega) | exact decide_eq_true (by dsimp only; omega) | exact decide_eq_true (by simp; omega) | (simp; done))))) | (refine LetV.pre ?_; first | refine LetV.mk (t := 34) _ hlb ?_ | refine LetV.mk (.sc (.int _ _)) rfl ?_ | refine LetV.mk (.agg _) rfl ?_) | (refine LetI.pre ?_; first | refine LetI.wrap (by omega) (by omega) ?_ | refine LetI.mk _ rfl ?_) | (refine LetB.pre ?_; first | refine LetB.ff (by assumption) ?_ | refine LetB.dect (by omega) ?_) | (refine Gd.pre ?_; first | refine Gd.run rfl ?_) | (refine Br.pre ?_; first | refine Br.tt rfl ?_ | refine Br.ff rfl ?_) | (refine Ck.pre ?_; first | refine Ck.drawn (by kernel_rfl) ?_ | refine Ck.mk rfl ?_)))); (try (conv => whnf)))
      refine LoopN.weak ?_ next
      exact SW.mk id rfl rfl rfl ⟨.refl _, .refl _, .refl _, .refl _, .refl _, .refl _, VLe2.int (by omega), trivial⟩ (haveV.row rfl rfl trivial)
    have hly : stA (A.getD n s0) = (A.map stA).getD n (.sc undef) := mapD s0 q1
    have next := ih (i + 1, n + 1) ⟨by omega, q5.symm⟩ (by show B.length - (i + 1) < B.length - i; omega)
    clear ih
    generalize B.getD i s0 = x at hlb q2 q3 q4
    generalize A.getD n s0 = y at hly q3 q4
    have hnn : n ≤ 100 := by omega
    have hxx : (!stB x y) = true → x.entry = gr := fun h => q4.elim (fun k => by rw [k, stB_self] at h; cases h) id
    clear q4 q5
    cases hb : (!stB x y) with
    | false =>
      clear hxx
      by_cases hxe : x.entry = e.id
      · exact absurd ⟨hxe, h3⟩ q2
      · ((repeat ((conv => whnf); (first | (refine As.pre ?_; first | refine As.mk rfl ?_ | (refine As.mk ?_ ?_; · ((repeat' (refine andT ?_ ?_)) <;> (first | rfl | assumption | exact decide_eq_true (by omega) | exact decide_eq_true (by dsimp only; omega) | exact decide_eq_true (by simp; omega) | (simp; done))))) | (refine LetV.pre ?_; first | refine LetV.mk (t := 34) _ hlb ?_ | refine LetV.mk (t := 34) _ hly ?_ | refine LetV.mk (.sc (.int _ _)) rfl ?_ | refine LetV.mk (.agg _) rfl ?_) | (refine LetI.pre ?_; first | refine LetI.wrap (by omega) (by omega) ?_ | refine LetI.mk _ rfl ?_) | (refine LetB.pre ?_; first | refine LetB.ff (by assumption) ?_ | refine LetB.dect (by omega) ?_ | refine LetB.decf (by omega) ?_ | refine LetB.bnef (by omega) ?_) | (refine Gd.pre ?_; first | refine Gd.run rfl ?_ | refine Gd.pass rfl ?_) | (refine Br.pre ?_; first | refine Br.tt rfl ?_ | refine Br.ff rfl ?_) | (refine Ck.pre ?_; first | refine Ck.drawn (by kernel_rfl) ?_ | refine Ck.mk rfl ?_)))); (try (conv => whnf)))


        refine LoopN.weak ?_ next
        exact SW.mk id rfl rfl rfl ⟨.refl _, .refl _, .refl _, .refl _, .refl _, VLe2.int (by omega), VLe2.int (by omega), trivial⟩ (haveV.row rfl rfl trivial)
    | true => exact absurd ⟨(hxx hb).trans (hgr3 h3), h3⟩ q2
  · ((repeat ((conv => whnf); (first | (refine As.pre ?_; first | refine As.mk rfl ?_) | (refine LetV.pre ?_; first | refine LetV.mk (.sc (.int _ _)) rfl ?_) | (refine LetB.pre ?_; first | refine LetB.decf (by omega) ?_) | (refine Br.pre ?_; first | refine Br.ff rfl ?_) | (refine Ck.pre ?_; first | refine Ck.mk rfl ?_)))); (try (conv => whnf)))
    refine LoopN.weak (s1 := oneJ A B e gr (0, 0)) (SW.mk id rfl rfl rfl ⟨.refl _, .refl _, .refl _, .refl _, VLe2.int (hgr4 h3), VLe2.int rfl, .refl _, trivial⟩ (haveV.row rfl rfl trivial)) ?_
    refine LoopN.ind T_ok mixed (S := oneJ A B e gr) (fun i => B.length - i.1) (fun i => i.1 ≤ B.length ∧ i.2 = nn i.1) (fun _ => rfl) (fun i hi ih => ?_) (0, 0) ⟨Nat.zero_le _, hn0.symm⟩
    obtain ⟨i, n⟩ := i
    obtain ⟨hi, hni⟩ := hi
    simp only at hi hni ih
    have hml2 : (A.map stA).length = A.length := List.length_map _
    have hmb2 : (B.map stA).length = B.length := List.length_map _
    by_cases hib : i < B.length
    case neg =>
      clear ih hq
      have hie : i = B.length := by omega
      have hfin : (((n : Nat) : Int) == ((A.map stA).length : Int)) = true := by rw [hni, hie, hn1, hml2]; simp
      ((repeat ((conv => whnf); (first | (refine As.pre ?_; first | refine As.mk rfl ?_) | (refine LetI.pre ?_; first | refine LetI.mk _ rfl ?_) | (refine LetB.pre ?_; first | refine LetB.tt (by assumption) ?_ | refine LetB.decf (by omega) ?_) | (refine Gd.pre ?_; first | refine Gd.run rfl ?_) | (refine Br.pre ?_; first | refine Br.ff rfl ?_) | (refine Ck.pre ?_; first | refine Ck.mk rfl ?_)))); (try (conv => whnf)))
      exact ⟨.inl rfl, ⟨_, rfl, rfl⟩, trivial⟩
    have hlb : stA (B.getD i s0) = (B.map stA).getD i (.sc undef) := mapD s0 hib
    have hq := hq i hib
    rw [← hni] at hq
    rcases hq with ⟨q1, q2, q3⟩ | ⟨q1, q2, q3, q4, q5⟩
    · exact absurd q2 h3
    have hly : stA (A.getD n s0) = (A.map stA).getD n (.sc undef) := mapD s0 q1
    have next := ih (i + 1, n + 1) ⟨by omega, q5.symm⟩ (by show B.length - (i + 1) < B.length - i; omega)
    clear ih
    generalize B.getD i s0 = x at hlb q2 q3 q4
    generalize A.getD n s0 = y at hly q3 q4
    have hnn : n ≤ 100 := by omega
    have hxx : (!stB x y) = true → x.entry = gr := fun h => q4.elim (fun k => by rw [k, stB_self] at h; cases h) id
    clear q4 q5
    cases hb : (!stB x y) with
    | false =>
      clear hxx
      by_cases hxe : x.entry = e.id
      · ((repeat ((conv => whnf); (first | (refine As.pre ?_; first | refine As.mk rfl ?_ | (refine As.mk ?_ ?_; · ((repeat' (refine andT ?_ ?_)) <;> (first | rfl | assumption | exact decide_eq_true (by omega) | exact decide_eq_true (by dsimp only; omega) | exact decide_eq_true (by simp; omega) | (simp; done))))) | (refine LetV.pre ?_; first | refine LetV.mk (t := 34) _ hlb ?_ | refine LetV.mk (t := 34) _ hly ?_ | refine LetV.mk (.sc (.int _ _)) rfl ?_ | refine LetV.mk (.agg _) rfl ?_) | (refine LetI.pre ?_; first | refine LetI.wrap (by omega) (by omega) ?_ | refine LetI.mk _ rfl ?_) | (refine LetB.pre ?_; first | refine LetB.ff (by assumption) ?_ | refine LetB.dect (by omega) ?_ | refine LetB.decf (by omega) ?_ | refine LetB.bnef (by omega) ?_) | (refine Gd.pre ?_; first | refine Gd.run rfl ?_ | refine Gd.pass rfl ?_) | (refine Br.pre ?_; first | refine Br.tt rfl ?_ | refine Br.ff rfl ?_) | (refine Ck.pre ?_; first | refine Ck.drawn (by kernel_rfl) ?_ | refine Ck.mk rfl ?_)))); (try (conv => whnf)))


        refine LoopN.weak ?_ next
        exact SW.mk id rfl rfl rfl ⟨.refl _, .refl _, .refl _, .refl _, .refl _, VLe2.int (by omega), VLe2.int (by omega), trivial⟩ (haveV.row rfl rfl trivial)
      · ((repeat ((conv => whnf); (first | (refine As.pre ?_; first | refine As.mk rfl ?_ | (refine As.mk ?_ ?_; · ((repeat' (refine andT ?_ ?_)) <;> (first | rfl | assumption | exact decide_eq_true (by omega) | exact decide_eq_true (by dsimp only; omega) | exact decide_eq_true (by simp; omega) | (simp; done))))) | (refine LetV.pre ?_; first | refine LetV.mk (t := 34) _ hlb ?_ | refine LetV.mk (t := 34) _ hly ?_ | refine LetV.mk (.sc (.int _ _)) rfl ?_ | refine LetV.mk (.agg _) rfl ?_) | (refine LetI.pre ?_; first | refine LetI.wrap (by omega) (by omega) ?_ | refine LetI.mk _ rfl ?_) | (refine LetB.pre ?_; first | refine LetB.ff (by assumption) ?_ | refine LetB.dect (by omega) ?_ | refine LetB.decf (by omega) ?_ | refine LetB.bnef (by omega) ?_) | (refine Gd.pre ?_; first | refine Gd.run rfl ?_ | refine Gd.pass rfl ?_) | (refine Br.pre ?_; first | refine Br.tt rfl ?_ | refine Br.ff rfl ?_) | (refine Ck.pre ?_; first | refine Ck.drawn (by kernel_rfl) ?_ | refine Ck.mk rfl ?_)))); (try (conv => whnf)))


        refine LoopN.weak ?_ next
        exact SW.mk id rfl rfl rfl ⟨.refl _, .refl _, .refl _, .refl _, .refl _, VLe2.int (by omega), VLe2.int (by omega), trivial⟩ (haveV.row rfl rfl trivial)
    | true =>
      have hxg := hxx hb
      clear hxx
      by_cases hxe : x.entry = e.id
      · ((repeat ((conv => whnf); (first | (refine As.pre ?_; first | refine As.mk rfl ?_ | (refine As.mk ?_ ?_; · ((repeat' (refine andT ?_ ?_)) <;> (first | rfl | assumption | exact decide_eq_true (by omega) | exact decide_eq_true (by dsimp only; omega) | exact decide_eq_true (by simp; omega) | (simp; done))))) | (refine LetV.pre ?_; first | refine LetV.mk (t := 34) _ hlb ?_ | refine LetV.mk (t := 34) _ hly ?_ | refine LetV.mk (.sc (.int _ _)) rfl ?_ | refine LetV.mk (.agg _) rfl ?_) | (refine LetI.pre ?_; first | refine LetI.wrap (by omega) (by omega) ?_ | refine LetI.mk _ rfl ?_) | (refine LetB.pre ?_; first | refine LetB.tt (by assumption) ?_ | refine LetB.dect (by omega) ?_ | refine LetB.decf (by omega) ?_ | refine LetB.bnef (by omega) ?_) | (refine Gd.pre ?_; first | refine Gd.run rfl ?_) | (refine Br.pre ?_; first | refine Br.tt rfl ?_ | refine Br.ff rfl ?_) | (refine Ck.pre ?_; first | refine Ck.drawn (by kernel_rfl) ?_ | refine Ck.mk rfl ?_)))); (try (conv => whnf)))


        refine LoopN.weak ?_ next
        exact SW.mk id rfl rfl rfl ⟨.refl _, .refl _, .refl _, .refl _, .refl _, VLe2.int (by omega), VLe2.int (by omega), trivial⟩ (haveV.row rfl rfl trivial)
      · ((repeat ((conv => whnf); (first | (refine As.pre ?_; first | refine As.mk rfl ?_ | (refine As.mk ?_ ?_; · ((repeat' (refine andT ?_ ?_)) <;> (first | rfl | assumption | exact decide_eq_true (by omega) | exact decide_eq_true (by dsimp only; omega) | exact decide_eq_true (by simp; omega) | (simp; done))))) | (refine LetV.pre ?_; first | refine LetV.mk (t := 34) _ hlb ?_ | refine LetV.mk (t := 34) _ hly ?_ | refine LetV.mk (.sc (.int _ _)) rfl ?_ | refine LetV.mk (.agg _) rfl ?_) | (refine LetI.pre ?_; first | refine LetI.wrap (by omega) (by omega) ?_ | refine LetI.mk _ rfl ?_) | (refine LetB.pre ?_; first | refine LetB.tt (by assumption) ?_ | refine LetB.dect (by omega) ?_ | refine LetB.decf (by omega) ?_ | refine LetB.bnef (by omega) ?_) | (refine Gd.pre ?_; first | refine Gd.run rfl ?_ | refine Gd.pass rfl ?_) | (refine Br.pre ?_; first | refine Br.tt rfl ?_ | refine Br.ff rfl ?_) | (refine Ck.pre ?_; first | refine Ck.drawn (by kernel_rfl) ?_ | refine Ck.mk rfl ?_)))); (try (conv => whnf)))


        refine LoopN.weak ?_ next
        exact SW.mk id rfl rfl rfl ⟨.refl _, .refl _, .refl _, .refl _, .refl _, VLe2.int (by omega), VLe2.int (by omega), trivial⟩ (haveV.row rfl rfl trivial)
theorem fone_row (x : List (List Int) × Int × Int × Int) (hxs : ∀ l ∈ x.1, l.length ≤ 9223372036854775807) (last : Int) (hla : 0 ≤ last ∧ last ≤ 255) (w : Int × Int) (hw1 : 0 ≤ w.1 ∧ w.1 ≤ 65535) (hw2 : 0 ≤ w.2 ∧ w.2 ≤ 65535) :
    AFun Try.prog 3 0 [.agg [.ro {} 1 (x.1.map fun l => .ro {} 1 (l.map int)), int x.2.1, int x.2.2.1, int x.2.2.2], u8' last, .agg [u16 w.1, u16 w.2]] [] (bool true) [] := by
  have h := fone (x.1.map fun l => (({} : Fl), l)) {} x.2 (fun y hy => by
    obtain ⟨l, hl, rfl⟩ := List.mem_map.1 hy
    exact hxs l hl) last hla w hw1 hw2
  rw [List.map_map] at h
  exact h
end En
end Go.Proofs.Ytjnohedknlibmaa
namespace Go.Proofs.Ytjnohedknlibmaa
open Go.Proofs.Ytjnohedknlibmaa.Am
namespace En
/-! ### ForceRefuses -/
theorem Check_nil : AFun Try.prog 13 0 [.sc (.slice none 0 0)] [] (int 0) [] := by
  refine AFun.of_W T_ok mixed Try.func13 rfl (Nat.le_of_ble_eq_true rfl) rfl ?_
  ((repeat ((conv => whnf); (first | (refine As.pre ?_; first | refine As.mk rfl ?_) | (refine LetI.pre ?_; first | refine LetI.mk _ rfl ?_) | (refine LetB.pre ?_; first | refine LetB.ff rfl ?_) | (refine Br.pre ?_; first | refine Br.ff rfl ?_) | (refine Ck.pre ?_; first | refine Ck.mk rfl ?_)))); (try (conv => whnf)))
  refine LoopN.round T_ok mixed rfl ?_
  ((repeat ((conv => whnf); (first | (refine As.pre ?_; first | refine As.mk rfl ?_) | (refine LetB.pre ?_; first | refine LetB.ff rfl ?_) | (refine Br.pre ?_; first | refine Br.ff rfl ?_) | (refine Ck.pre ?_; first | refine Ck.mk rfl ?_)))); (try (conv => whnf)))
  exact ⟨.inl rfl, ⟨_, rfl, rfl⟩, trivial⟩
theorem made_any {l : List E} (hm : MadeOk 14 l) {v : Int} (h : 800000 < v) : l.any (fun x => decide (x.id = v)) = false := by
  rw [List.any_eq_false]
  intro x hx
  have := hm.id x hx
  simp; omega
theorem made_first {l : List E} (hm : MadeOk 14 l) (hl : 0 < l.length) : (l.getD 0 e0).school = 1 := hm.school _ (getD_mem hl)
theorem ref_rest {l : List E} (hm : MadeOk 14 l) (hl : 0 < l.length) {e : E} (he : entE e = 0) (h1 : e.school = 1) (h2 : 800000 < e.id) (h3 : e.day = (l.getD (l.length - 1) e0).day) (h4 : e.kind = 5) :
    oneE l e = if fidx (cRef e 3).p l 0 < 0 then 21 else if e.on_ < (l.getD (fidx (cRef e 3).p l 0).toNat e0).on_ then 23 else 0 := by
  rw [one_rest he (fun h => h.2 (by rw [made_first hm hl, h1])) (made_any hm h2) (fun h => absurd h.2 (by omega)), h4]
  rfl
theorem ref_none {l : List E} (hm : MadeOk 14 l) (hl : 0 < l.length) {e : E} (he : entE e = 0) (h1 : e.school = 1) (h2 : 800000 < e.id) (h3 : e.day = (l.getD (l.length - 1) e0).day) (h4 : e.kind = 5) (h5 : ∀ x ∈ l, ¬ (x.id = e.ref ∧ x.kind = 3 ∧ x.student = e.student)) : oneE l e = 21 := by
  rw [ref_rest hm hl he h1 h2 h3 h4, fidx_none l 0 (fun x hx => decide_eq_false (h5 x hx))]; rfl
theorem ref_late {l : List E} (hm : MadeOk 14 l) {e : E} (he : entE e = 0) (h1 : e.school = 1) (h2 : 800000 < e.id) (h3 : e.day = (l.getD (l.length - 1) e0).day) (h4 : e.kind = 5) {k : Nat} (hk : k < l.length) (h5 : (l.getD k e0).id = e.ref ∧ (l.getD k e0).kind = 3 ∧ (l.getD k e0).student = e.student) (h6 : e.on_ < (l.getD k e0).on_) : oneE l e = 23 := by
  have hl := hm.len
  have hf : fidx (cRef e 3).p l 0 = ((0 + k : Nat) : Int) := fidx_some l 0 k hk (decide_eq_true h5) (fun j hj => decide_eq_false fun h => chk_ids hm.chk (by omega) hj hk (h.1.trans h5.1.symm))
  rw [ref_rest hm (by omega) he h1 h2 h3 h4, hf, if_neg (by omega), show (((0 + k : Nat) : Int)).toNat = k by omega, if_pos h6]
theorem chkM {l : List E} (hm : MadeOk 14 l) (e : E) : chkE (l ++ [e]) = oneE l e := chkE_app hm.chk (by have := hm.len; omega) e
end En
end Go.Proofs.Ytjnohedknlibmaa
namespace Go.Proofs.Ytjnohedknlibmaa
open Go.Proofs.Ytjnohedknlibmaa.Am
namespace En
/-! ### A finding and its lift -/
abbrev fnd (g : E) (d : Int) : E := ⟨800001, 1, g.student, 5, d, g.on_, ⟨#[]⟩, 0, 0, g.id, 0, 0, 0, 0, ⟨#[]⟩⟩
abbrev lft (g : E) (d : Int) : E := ⟨800002, 1, g.student, 6, d, g.on_, ⟨#[]⟩, 0, 0, 800001, 0, 0, 0, 0, ⟨#[]⟩⟩
theorem ent_ref {e : E} (h1 : 1 ≤ e.id ∧ e.id ≤ 899999) (h2 : 1 ≤ e.school ∧ e.school ≤ 8) (h3 : 1 ≤ e.student ∧ e.student ≤ 999999) (h4 : e.kind = 5 ∨ e.kind = 6) (h5 : 0 ≤ e.day ∧ e.day ≤ 100000) (h6 : 0 ≤ e.on_ ∧ e.on_ ≤ e.day)
    (h7 : (1 ≤ e.ref ∧ e.ref ≤ 899999) ∧ e.ref ≠ e.id) (c : e.course = ⟨#[]⟩) (h8 : e.credits = 0) (h9 : e.grade = 0) (h10 : e.frm = 0) (h11 : e.programme = 0) (h12 : e.version = 0) : entE e = 0 := by
  refine ent_of fun oc => ?_
  have ho : onlyF e.kind (fillB e) = true := by
    unfold fillB
    rw [c, h8, h9, h10, h11, h12]
    rcases h4 with h | h <;> rw [h] <;> simp [onlyF]
  rw [entX_fld (by omega) (by omega) ho (by omega)]
  unfold fldE
  rw [if_neg (by omega), if_neg (by omega), if_neg (by omega), if_neg (by omega), if_neg (by omega), if_neg (by omega)]
theorem fnd_one {l : List E} (hm : MadeOk 14 l) {g : E} (hg : g ∈ l) (h3 : g.kind = 3) {d : Int} (hd : ∀ x ∈ l, x.day ≤ d) (hd2 : d ≤ 100000) : oneE l (fnd g d) = 0 := by
  have hl := hm.len
  have r := ent_zero (chk_ent hm.chk (by omega) hg)
  have hgd := hd g hg
  have hgi := hm.id g hg
  have he : entE (fnd g d) = 0 := ent_ref ⟨by show (1 : Int) ≤ 800001; omega, by show (800001 : Int) ≤ 899999; omega⟩ ⟨by show (1 : Int) ≤ 1; omega, by show (1 : Int) ≤ 8; omega⟩ r.2.2.1 (.inl rfl) ⟨by show 0 ≤ d; omega, hd2⟩ ⟨by show 0 ≤ g.on_; omega, by show g.on_ ≤ d; omega⟩
    ⟨⟨by show 1 ≤ g.id; omega, by show g.id ≤ 899999; omega⟩, by show g.id ≠ 800001; omega⟩ rfl rfl rfl rfl rfl rfl
  obtain ⟨k, hk, rfl⟩ := mem_getD hg
  rw [one_rest he (fun h => h.2 (made_first hm (by omega))) (made_any hm (by show (800000 : Int) < 800001; omega)) (fun h => by
    have := hd (l.getD (l.length - 1) e0) (getD_mem (by omega))
    have h2 : d < (l.getD (l.length - 1) e0).day := h.2
    omega)]
  rw [if_neg (by show tgt 5 ≠ 0; decide)]
  have hf : fidx (cRef (fnd (l.getD k e0) d) (tgt (fnd (l.getD k e0) d).kind)).p l 0 = ((0 + k : Nat) : Int) :=
    fidx_some l 0 k hk (decide_eq_true ⟨rfl, h3, rfl⟩) fun j hj => decide_eq_false fun h => chk_ids hm.chk (by omega) hj hk h.1
  rw [hf, if_neg (by omega), show (((0 + k : Nat) : Int)).toNat = k by omega, if_neg (by show ¬ (l.getD k e0).on_ < (l.getD k e0).on_; omega)]
theorem lft_one {l : List E} (hm : MadeOk 14 l) {g : E} (hg : g ∈ l) {d d' : Int} (hd : ∀ x ∈ l, x.day ≤ d) (hdd : d ≤ d') (hd2 : d' ≤ 100000) : oneE (l ++ [fnd g d]) (lft g d') = 0 := by
  have hl := hm.len
  have r := ent_zero (chk_ent hm.chk (by omega) hg)
  have hgd := hd g hg
  have hgi := hm.id g hg
  have he : entE (lft g d') = 0 := ent_ref ⟨by show (1 : Int) ≤ 800002; omega, by show (800002 : Int) ≤ 899999; omega⟩ ⟨by show (1 : Int) ≤ 1; omega, by show (1 : Int) ≤ 8; omega⟩ r.2.2.1 (.inr rfl) ⟨by show 0 ≤ d'; omega, hd2⟩ ⟨by show 0 ≤ g.on_; omega, by show g.on_ ≤ d'; omega⟩
    ⟨⟨by show (1 : Int) ≤ 800001; omega, by show (800001 : Int) ≤ 899999; omega⟩, by show (800001 : Int) ≠ 800002; omega⟩ rfl rfl rfl rfl rfl rfl
  have hl0 : 0 < l.length := List.length_pos_of_mem hg
  have hlast : (l ++ [fnd g d]).getD l.length e0 = fnd g d := by rw [getD_right (Nat.le_refl _), Nat.sub_self]; rfl
  rw [one_rest he (fun h => h.2 (by rw [getD_left hl0]; exact made_first hm hl0)) (by
      rw [List.any_append, made_any hm (by show (800000 : Int) < 800002; omega)]
      rfl) (fun h => by
    have h2 := h.2
    rw [List.length_append, show l.length + [fnd g d].length - 1 = l.length from rfl, hlast] at h2
    have h2 : d' < d := h2
    omega)]
  rw [if_neg (by show tgt 6 ≠ 0; decide)]
  have hf : fidx (cRef (lft g d') (tgt (lft g d').kind)).p (l ++ [fnd g d]) 0 = ((0 + l.length : Nat) : Int) :=
    fidx_some _ 0 l.length (by simp) (by rw [hlast]; exact decide_eq_true ⟨rfl, rfl, rfl⟩) fun j hj => decide_eq_false fun h => by
      have h1 := h.1
      rw [getD_left hj] at h1
      have := hm.id _ (getD_mem hj)
      have h1 : (l.getD j e0).id = 800001 := h1
      omega
  rw [hf, if_neg (by omega), show (((0 + l.length : Nat) : Int)).toNat = l.length by omega, hlast, if_neg (by show ¬ g.on_ < g.on_; omega)]
theorem lifts_chk {l : List E} (hm : MadeOk 14 l) {g : E} (hg : g ∈ l) (h3 : g.kind = 3) {d d' : Int} (hd : ∀ x ∈ l, x.day ≤ d) (hdd : d ≤ d') (hd2 : d' ≤ 100000) : chkE (l ++ [fnd g d, lft g d']) = 0 := by
  have hl := hm.len
  have h1 : chkE (l ++ [fnd g d]) = 0 := (chkE_app hm.chk (by omega) _).trans (fnd_one hm hg h3 hd (by omega))
  have := chkE_app h1 (by simp; omega) (lft g d')
  rw [List.append_assoc] at this
  exact this.trans (lft_one hm hg hd hdd hd2)
theorem ref_small {l : List E} (hm : MadeOk 14 l) {x : E} (hx : x ∈ l) (ht : tgt x.kind ≠ 0) : x.ref ≤ 14 := by
  have hl := hm.len
  obtain ⟨y, hy, h1, _⟩ := chk_refm hm.chk (by omega) hx ht
  have := hm.id y hy
  omega
theorem lifts_in {l : List E} {g : E} {d d' o : Int} (ho : g.on_ ≤ o) : liftedP (l ++ [fnd g d, lft g d']) 800001 d' o = true := by
  rw [liftedP, List.any_append, Bool.or_eq_true]
  right
  simp [ho]
theorem lifts_not {l : List E} (hm : MadeOk 14 l) {g : E} {d d' a o : Int} (ha : a < d') : liftedP (l ++ [fnd g d, lft g d']) 800001 a o = false := by
  rw [liftedP, List.any_append, Bool.or_eq_false_iff]
  constructor
  · rw [List.any_eq_false]
    intro x hx k
    simp only [Bool.and_eq_true, decide_eq_true_eq] at k
    have := ref_small hm hx (by rw [k.1.1]; decide)
    omega
  · simp; omega
theorem lifts_old {l : List E} {g : E} {d d' a o f : Int} (hf : f ≤ 14) : rLiftedP (l ++ [fnd g d] ++ [lft g d']) f a o = rLiftedP l f a o := by
  rw [lift_snoc (fun k => by have h : (800001 : Int) = f := k.2.1; omega), lift_snoc (fun k => by have h : (5 : Int) = 6 := k.1; omega)]
theorem cnt_late {l : List E} {k a o a' o' : Int} (h : ∀ x ∈ l, x.day ≤ a ∧ x.on_ ≤ o) (h' : ∀ x ∈ l, x.day ≤ a' ∧ x.on_ ≤ o') : countP l k a o = countP l k a' o' := by
  rw [countP_S, countP_S]
  congr 1
  refine List.filter_congr fun x hx => ?_
  rw [cntQ, cntQ, Bool.eq_iff_iff, decide_eq_true_eq, decide_eq_true_eq]
  exact ⟨fun q => ⟨q.1, h' x hx⟩, fun q => ⟨q.1, h x hx⟩⟩
theorem lift_late {l : List E} {f a o a' o' : Int} (h : ∀ x ∈ l, x.day ≤ a ∧ x.on_ ≤ o) (h' : ∀ x ∈ l, x.day ≤ a' ∧ x.on_ ≤ o') : rLiftedP l f a o = rLiftedP l f a' o' := by
  rw [rLiftedP, rLiftedP, cnt_late h h']
abbrev stV (g : Int) (s : St) : St := ⟨s.entry, s.by_, s.grade, s.void || (s.entry == g)⟩
theorem lifts_at {l : List E} (hm : MadeOk 14 l) {g : E} {d d' a o : Int} (hl : ∀ x ∈ l, x.day ≤ a ∧ x.on_ ≤ o) (hd : d ≤ a) (ho : g.on_ ≤ o) :
    rAtP (l ++ [fnd g d, lft g d']) a o = if d' ≤ a then rAtP l a o else (rAtP l a o).map (stV g.id) := by
  have hall : l ++ [fnd g d, lft g d'] = l ++ [fnd g d] ++ [lft g d'] := by rw [List.append_assoc]; rfl
  have h3 : ∀ k, k ≠ 5 → k ≠ 6 → countP (l ++ [fnd g d] ++ [lft g d']) k a o = countP l k a o := by
    intro k h5 h6
    rw [cnt_same (fun q => h6 q.1.symm), cnt_same (fun q => h5 q.1.symm)]
  have h5 : countP (l ++ [fnd g d] ++ [lft g d']) 5 a o = insEnd (ltE false (fnd g d)) (fnd g d) (countP l 5 a o) := by
    rw [cnt_same (fun q => by have h : (6 : Int) = 5 := q.1; omega), cnt_snoc, cntQ, decide_eq_true ⟨rfl, hd, ho⟩, if_pos rfl]
  have key : ∀ x ∈ countP l 3 a o, rstand (l ++ [fnd g d, lft g d']) (countP (l ++ [fnd g d, lft g d']) 4 a o) (countP (l ++ [fnd g d, lft g d']) 5 a o) a o x =
      ⟨x.id, ((countP l 4 a o).foldl (stepR x) (0, x.grade, 0, false)).1, ((countP l 4 a o).foldl (stepR x) (0, x.grade, 0, false)).2.1, (decide (g.id = x.id) && !(liftedP (l ++ [fnd g d, lft g d']) 800001 a o)) || ((countP l 5 a o).any fun f => decide (f.ref = x.id) && !rLiftedP l f.id a o)⟩ := by
    intro x _
    rw [rstand, hall, h3 4 (by omega) (by omega), h5, ins_any, ← lift_eq]
    congr 2
    refine any_congr2 fun y hy => ?_
    rw [lifts_old]
    have := hm.id y (mem_countP.1 hy).1
    omega
  rw [rAtP]
  have h33 : countP (l ++ [fnd g d, lft g d']) 3 a o = countP l 3 a o := by rw [hall]; exact h3 3 (by omega) (by omega)
  rw [h33]
  by_cases hda : d' ≤ a
  · rw [if_pos hda, rAtP]
    refine List.map_congr_left fun x hx => ?_
    rw [key x hx]
    have : liftedP (l ++ [fnd g d, lft g d']) 800001 a o = true := by
      rw [liftedP, List.any_append, Bool.or_eq_true]
      right
      simp [ho, hda]
    rw [this, Bool.not_true, Bool.and_false, Bool.false_or]; rfl
  · rw [if_neg hda, rAtP, List.map_map]
    refine List.map_congr_left fun x hx => ?_
    rw [key x hx, lifts_not hm (by omega), Bool.not_false, Bool.and_true, Bool.or_comm]
    have : decide (g.id = x.id) = (x.id == g.id) := by
      rw [Bool.eq_iff_iff, decide_eq_true_eq, beq_iff_eq]; exact eq_comm
    rw [this]; rfl
/-- The latest day. -/
def dayM (l : List E) : Int := l.foldl (fun d x => max d x.day) 0
theorem dayM_le : ∀ (l : List E) (d : Int), d ≤ l.foldl (fun d x => max d x.day) d ∧ ∀ x ∈ l, x.day ≤ l.foldl (fun d x => max d x.day) d
  | [], d => ⟨Int.le_refl _, fun x h => absurd h List.not_mem_nil⟩
  | y :: l, d => by
    have h := dayM_le l (max d y.day)
    rw [List.foldl_cons]
    refine ⟨by have := h.1; omega, fun x hx => ?_⟩
    rcases List.mem_cons.1 hx with k | k
    · rw [k]; have := h.1; omega
    · exact h.2 x k
theorem dayM_max {b : Int} : ∀ (l : List E) (d : Int), d ≤ b → (∀ x ∈ l, x.day ≤ b) → l.foldl (fun d x => max d x.day) d ≤ b
  | [], d, h, _ => h
  | y :: l, d, h, k => by
    rw [List.foldl_cons]
    refine dayM_max l _ ?_ fun x hx => k x (List.mem_cons_of_mem _ hx)
    have := k y (List.mem_cons_self ..)
    omega
end En
end Go.Proofs.Ytjnohedknlibmaa
namespace Go.Proofs.Ytjnohedknlibmaa
open Go.Proofs.Ytjnohedknlibmaa.Am
namespace En
/-! ### ForceLifts -/
abbrev a2ty : TypeId := 40
abbrev lfS (l : List E) (wh : Int) (v : Int × Int) : Nat × Int × List E → AS
  | (j, d, out) => ⟨[(1, u8' wh), (5, .ptr 1 2 0 0), (7, bool true), (8, .ro {} 15 (l.map en)), (10, .slm {} 2 15 0 out.length), (11, int d), (12, int j)], [(1, .row 2 a2ty [.agg [u8' v.1, u8' v.2]]), (2, .row 15 ety (out.map en))], 3⟩
abbrev lfT (X V : List St) (g : E) (i : Nat) : AS := ⟨[(7, bool true), (13, .ptr 3 15 0 0), (19, .ro {} 4 (X.map stA)), (20, .slm {} 5 4 0 V.length), (22, int i)], [(3, .row 15 ety [en g]), (5, .row 4 sty (V.map stA))], 6⟩
theorem at_late {l : List E} {a o a' o' : Int} (h : ∀ x ∈ l, x.day ≤ a ∧ x.on_ ≤ o) (h' : ∀ x ∈ l, x.day ≤ a' ∧ x.on_ ≤ o') : rAtP l a o = rAtP l a' o' := by
  rw [rAtP, rAtP, cnt_late (k := 3) h h', cnt_late (k := 4) h h', cnt_late (k := 5) h h']
  refine List.map_congr_left fun x _ => ?_
  unfold rstand
  congr 1
  refine any_congr2 fun y _ => ?_
  rw [lift_late h h']
theorem getD_st {l : List St} {k : Nat} (h : k < l.length) : stA (l.getD k s0) = Am.part true 4 0 4 ((l.map stA).getD (0 + k) (.sc undef)) := by
  rw [Nat.zero_add, List.getD_eq_getElem?_getD, List.getD_eq_getElem?_getD, List.getElem?_map, List.getElem?_eq_getElem h]; rfl
theorem app_en3 (l : List E) (e f : E) (n : Nat) (h : n = l.length) : (l ++ [e, f]).map en = (l.map en).take n ++ [en e, en f] := by
  rw [List.take_of_length_le (by simp [h]), List.map_append]; rfl
set_option maxHeartbeats 1600000 in
set_option maxRecDepth 100000 in
theorem flifts (L : List (Fl × List Int)) (fl : Fl) (q : Int × Int × Int) (hxs : ∀ x ∈ L, x.2.length ≤ 9223372036854775807) (which : Int) (hwh : 0 ≤ which ∧ which ≤ 255) (v : Int × Int) (hv1 : 0 ≤ v.1 ∧ v.1 ≤ 255) (hv2 : 0 ≤ v.2 ∧ v.2 ≤ 255) :
    AFun Try.prog 4 0 [.agg [.ro fl 1 (L.map iA), int q.1, int q.2.1, int q.2.2], u8' which, .agg [u8' v.1, u8' v.2]] [] (bool true) [] := by
  obtain ⟨l, l', h1, h2, hM⟩ := made_f L fl q hxs
  have hlen := h1.len
  have hml : (l.map en).length = l.length := List.length_map _
  refine AFun.of_W T_ok mixed Try.func4 rfl (Nat.le_of_ble_eq_true rfl) rfl ?_
  ((repeat ((conv => whnf); (first | (refine LetN.pre ?_; first | ((conv => arg 1; whnf); refine LetN.mk ?_)) | (refine As.pre ?_; first | refine As.mk rfl ?_) | (refine LetV.pre ?_; first | refine LetV.mk (.agg _) rfl ?_) | (refine Ck.pre ?_; first | refine Ck.mk rfl ?_) | (refine CallN.pre ?_; first | refine CallN.pure sanity_f rfl rfl ?_ | refine CallN.pure hM rfl rfl ?_)))); (try (conv => whnf)))


  clear hM
  have hr14 : ∀ n : Nat, n ≤ 14 → room (n + 1) 136 = true := fun n h => room_en (by omega)
  refine LoopN.weak (s1 := lfS l which v (0, 0, [])) (SW.mk id rfl rfl rfl ⟨.refl _, .refl _, .refl _, .refl _, VLe2.nilslm, .refl _, .refl _, trivial⟩ (haveV.row rfl rfl (haveV.nil (Nat.le_refl _) trivial))) ?_
  refine LoopN.ind T_ok mixed (S := lfS l which v) (fun i => l.length - i.1) (fun i => i.1 ≤ l.length ∧ i.2.1 = (l.take i.1).foldl (fun d x => max d x.day) 0 ∧ i.2.2 = (l.take i.1).filter fun e => decide (e.kind = 3)) (fun _ => rfl) (fun i hi ih => ?_) (0, 0, []) ⟨Nat.zero_le _, rfl, rfl⟩
  obtain ⟨j, D, out⟩ := i
  obtain ⟨g1, g2, g3⟩ := hi
  simp only at g1 g2 g3 ih
  by_cases hlt : j < l.length
  case pos =>
    have hld : en (l.getD j e0) = (l.map en).getD j (.sc undef) := mapD e0 hlt
    have hq := filt_succ (q := fun e : E => decide (e.kind = 3)) hlt e0
    have hol : out.length ≤ 14 := by
      rw [g3]
      have := List.length_filter_le (fun e : E => decide (e.kind = 3)) (l.take j)
      simp only [List.length_take] at this
      omega
    have hd : (l.take (j + 1)).foldl (fun d x => max d x.day) 0 = max D (l.getD j e0).day := by rw [take_snoc hlt, List.foldl_append, ← g2]; rfl
    rw [← g3] at hq
    clear g2 g3 h1 h2 hxs
    generalize l.getD j e0 = e at hld hq hd
    have hr := hr14 out.length hol
    have hol2 : (out.map en).length = out.length := List.length_map _
    by_cases hk : e.kind = 3
    · simp only [hk, decide_true, if_true] at hq
      have next := ih (j + 1, max D e.day, out ++ [e]) ⟨by omega, hd.symm, hq.symm⟩ (by show l.length - (j + 1) < l.length - j; omega)
      clear ih
      ((repeat ((conv => whnf); (first | (refine LetN.pre ?_; first | ((conv => arg 1; whnf); refine LetN.mk ?_)) | (refine As.pre ?_; first | refine As.mk rfl ?_ | (refine As.mk ?_ ?_; · ((repeat' (refine andT ?_ ?_)) <;> (first | rfl | assumption | exact decide_eq_true (by omega) | exact decide_eq_true (by dsimp only; omega) | exact decide_eq_true (by simp; omega) | (simp; done))))) | (refine LetV.pre ?_; first | refine LetV.mk (t := 29) _ hld ?_ | refine LetV.mk (.sc (.int _ _)) rfl ?_ | refine LetV.mk (.agg _) rfl ?_) | (refine LetI.pre ?_; first | refine LetI.wrap (by omega) (by omega) ?_ | refine LetI.mk _ rfl ?_) | (refine LetB.pre ?_; first | refine LetB.dect (by omega) ?_) | (refine Br.pre ?_; first | refine Br.tt rfl ?_) | (refine Ck.pre ?_; first | refine Ck.mk rfl ?_) | (refine LetL.pre ?_; first | refine LetL.mk (ty := ety) _ (app_en out e _ rfl) ?_)))); (try (conv => whnf)))


      refine LoopN.weak ?_ next
      exact SW.mk (fun i => if i = 2 then 3 else i) rfl rfl (namesAll.row rfl (namesAll.row (pure_en _) rfl)) ⟨.refl _, .refl _, .refl _, .refl _, VLe2.slm_of (by simp), .refl _, VLe2.int (by omega), trivial⟩ (haveV.row rfl rfl (haveV.row (pure_en _) rfl trivial))
    · simp only [hk, decide_false, Bool.false_eq_true, if_false, List.append_nil] at hq
      have next := ih (j + 1, max D e.day, out) ⟨by omega, hd.symm, hq.symm⟩ (by show l.length - (j + 1) < l.length - j; omega)
      clear ih
      ((repeat ((conv => whnf); (first | (refine As.pre ?_; first | refine As.mk rfl ?_ | (refine As.mk ?_ ?_; · ((repeat' (refine andT ?_ ?_)) <;> (first | rfl | assumption | exact decide_eq_true (by omega) | exact decide_eq_true (by dsimp only; omega) | exact decide_eq_true (by simp; omega) | (simp; done))))) | (refine LetV.pre ?_; first | refine LetV.mk (t := 29) _ hld ?_ | refine LetV.mk (.sc (.int _ _)) rfl ?_) | (refine LetI.pre ?_; first | refine LetI.wrap (by omega) (by omega) ?_ | refine LetI.mk _ rfl ?_) | (refine LetB.pre ?_; first | refine LetB.dect (by omega) ?_ | refine LetB.decf (by omega) ?_) | (refine Br.pre ?_; first | refine Br.tt rfl ?_ | refine Br.ff rfl ?_) | (refine Ck.pre ?_; first | refine Ck.mk rfl ?_)))); (try (conv => whnf)))

      refine LoopN.weak ?_ next
      exact SW.mk id rfl rfl (namesAll.row rfl (namesAll.row (pure_en _) rfl)) ⟨.refl _, .refl _, .refl _, .refl _, .refl _, .refl _, VLe2.int (by omega), trivial⟩ (haveV.row rfl rfl (haveV.row (pure_en _) rfl trivial))
  clear ih
  rw [List.take_of_length_le (by omega)] at g2 g3
  by_cases ho0 : out.length = 0
  case pos =>
    clear g3 g2 h1 h2 hxs
    ((repeat ((conv => whnf); (first | (refine As.pre ?_; first | refine As.mk rfl ?_) | (refine LetI.pre ?_; first | refine LetI.mk _ rfl ?_) | (refine LetB.pre ?_; first | refine LetB.dect (by omega) ?_ | refine LetB.decf (by omega) ?_) | (refine Br.pre ?_; first | refine Br.tt rfl ?_ | refine Br.ff rfl ?_) | (refine Ck.pre ?_; first | refine Ck.mk rfl ?_)))); (try (conv => whnf)))
    exact ⟨.inl rfl, ⟨_, rfl, rfl⟩, trivial⟩
  have hD1 : ∀ x ∈ l, x.day ≤ D := by rw [g2]; exact (dayM_le l 0).2
  have hD0 : 0 ≤ D := by rw [g2]; exact (dayM_le l 0).1
  have hD2 : D ≤ 900 := by rw [g2]; exact dayM_max l 0 (by omega) fun x hx => by have := h1.day x hx; omega
  have hon : ∀ x ∈ l, x.on_ ≤ x.day := fun x hx => (ent_zero (chk_ent h1.chk (by omega) hx)).2.2.2.2.2.2
  have hmem : ∀ x ∈ out, x ∈ l ∧ x.kind = 3 := by
    intro x hx
    rw [g3] at hx
    exact ⟨(List.mem_filter.1 hx).1, of_decide_eq_true (List.mem_filter.1 hx).2⟩
  have hol : out.length ≤ 14 := by
    rw [g3]
    have := List.length_filter_le (fun e : E => decide (e.kind = 3)) l
    omega
  clear g2 g3
  obtain ⟨i, hi, hii⟩ : ∃ i : Nat, i < out.length ∧ ((i : Nat) : Int) = which.tmod ((out.length : Nat) : Int) := by
    have h1 := Int.tmod_nonneg (out.length : Int) hwh.1
    have h2 := Int.tmod_lt_of_pos which (b := (out.length : Int)) (by omega)
    exact ⟨(which.tmod (out.length : Int)).toNat, by omega, by omega⟩
  have hnz : ((out.length : Int) != 0) = true := bne_iff_ne.2 (by omega)
  have hld : en (out.getD i e0) = Am.part true 15 0 15 ((out.map en).getD (0 + i) (.sc undef)) := getD_en hi
  obtain ⟨hgl, hg3⟩ := hmem _ (getD_mem hi)
  have hol2 : (out.map en).length = out.length := List.length_map _
  generalize out.getD i e0 = g at hld hgl hg3
  obtain ⟨p, hp⟩ : ∃ p, p = v.1.tmod 50 := ⟨_, rfl⟩
  obtain ⟨r, hr⟩ : ∃ r, r = v.2.tmod 50 := ⟨_, rfl⟩
  have hp2 : 0 ≤ p ∧ p < 50 := by rw [hp]; exact ⟨Int.tmod_nonneg _ hv1.1, Int.tmod_lt_of_pos _ (by omega)⟩
  have hr2 : 0 ≤ r ∧ r < 50 := by rw [hr]; exact ⟨Int.tmod_nonneg _ hv2.1, Int.tmod_lt_of_pos _ (by omega)⟩
  have hgo := hon g hgl
  have hgd := hD1 g hgl
  have c1 := fun fl => Check_l (l ++ [fnd g (D + p), lft g (D + p + 1 + r)]) fl
  rw [lifts_chk h1 hgl hg3 (fun x hx => by have := hD1 x hx; omega) (by omega) (by omega)] at c1
  have hal : (l ++ [fnd g (D + p), lft g (D + p + 1 + r)]).length ≤ 16 := by simp; omega
  have c2 := fun fl => Lifted_f (l ++ [fnd g (D + p), lft g (D + p + 1 + r)]) 800001 (D + p + 1 + r) g.on_ fl (by omega)
  rw [lifts_in (Int.le_refl _)] at c2
  have c3 := fun fl => Lifted_f (l ++ [fnd g (D + p), lft g (D + p + 1 + r)]) 800001 (D + p + 1 + r - 1) (D + p + 1 + r) fl (by omega)
  rw [lifts_not h1 (by omega)] at c3
  have a1 := fun fl => At_f l (D + p + 1 + r) (D + p + 1 + r) fl (by omega)
  have a2 := fun fl => At_s (l ++ [fnd g (D + p), lft g (D + p + 1 + r)]) (D + p + 1 + r - 1) (D + p + 1 + r) fl (by omega)
  have a3 := fun fl => At_s (l ++ [fnd g (D + p), lft g (D + p + 1 + r)]) (D + p + 1 + r) (D + p + 1 + r) fl (by omega)
  have hx1 : ∀ x ∈ l, x.day ≤ D + p + 1 + r ∧ x.on_ ≤ D + p + 1 + r := fun x hx => by
    have := hD1 x hx
    have := hon x hx
    omega
  have hx2 : ∀ x ∈ l, x.day ≤ D + p + 1 + r - 1 ∧ x.on_ ≤ D + p + 1 + r := fun x hx => by
    have := hD1 x hx
    have := hon x hx
    omega
  rw [at_eq, lifts_at h1 hx2 (by omega) (by omega), if_neg (by omega), at_late hx2 hx1] at a2
  rw [at_eq, lifts_at h1 hx1 (by omega) (by omega), if_pos (Int.le_refl _)] at a3
  rw [at_eq] at a1
  have hS := fun fl => Same_f (rAtP l (D + p + 1 + r) (D + p + 1 + r)) {} fl (by have := rAtP_length l (D + p + 1 + r) (D + p + 1 + r); omega)
  have hXl := rAtP_length l (D + p + 1 + r) (D + p + 1 + r)
  generalize rAtP l (D + p + 1 + r) (D + p + 1 + r) = X at a1 a2 a3 hS hXl
  have hv := app_en3 l (fnd g (D + p)) (lft g (D + p + 1 + r))
  obtain ⟨all, hall⟩ : ∃ all, all = l ++ [fnd g (D + p), lft g (D + p + 1 + r)] := ⟨_, rfl⟩
  rw [← hall] at c1 c2 c3 a2 a3 hv hal
  have hlall : l.length + 2 = all.length := by rw [hall]; simp
  have hst := stor_all l
  have hsta := stor_all all
  have hro := room_en (n := l.length) (by omega)
  have hro2 := room_en (n := l.length + 2) (by omega)
  have hVX : (((X.map (stV g.id)).length : Int) != ((X.map stA).length : Int)) = false := by simp
  clear hx1 hx2 hD1 hon hmem h1 h2 hxs hall hgl
  clear g1
  ((repeat ((conv => whnf); (first | (refine LetN.pre ?_; first | ((conv => arg 1; whnf); refine LetN.mk ?_)) | (refine As.pre ?_; first | refine As.mk rfl ?_ | refine As.mk hnz ?_ | (refine As.mk ?_ ?_; · ((repeat' (refine andT ?_ ?_)) <;> (first | rfl | assumption | exact stor_en _ _ _ | exact stor_all _ | exact decide_eq_true (by simp; omega) | (simp; done) | (simp [room]; omega))))) | (refine LetV.pre ?_; first | refine LetV.mk (t := ety) _ hld ?_ | refine LetV.mk (.sc (.int _ _)) rfl ?_ | refine LetV.mk (.agg _) rfl ?_) | (refine LetI.pre ?_; first | refine LetI.mk (o := some .rem) ((i : Nat) : Int) hii ?_ | refine LetI.mk (o := some .rem) p hp ?_ | refine LetI.mk (o := some .rem) r hr ?_ | refine LetI.wrap (by omega) (by omega) ?_ | refine LetI.mk _ rfl ?_) | (refine LetB.pre ?_; first | refine LetB.ff rfl ?_ | refine LetB.ff (by assumption) ?_ | refine LetB.decf (by omega) ?_) | (refine Gd.pre ?_; first | refine Gd.run rfl ?_) | (refine Br.pre ?_; first | refine Br.ff rfl ?_) | (refine Ck.pre ?_; first | refine Ck.drawn (by kernel_rfl) ?_ | refine Ck.mk rfl ?_) | (refine LetL.pre ?_; first | refine LetL.mk (ty := ety) (l.map en) rfl ?_ | refine LetL.mk (ty := ety) _ (hv _ (by first | rfl | (simp; done))) ?_ | refine LetL.mk [_] rfl ?_ | refine LetL.mk _ rfl ?_) | (refine CallN.pre ?_; first | refine CallN.lend (c1 _) rfl (.full rfl (pure_en _) (by first | exact hlall | (simp; omega)) .nil) ?_ | refine CallN.lend (c2 _) rfl (.full rfl (pure_en _) (by first | exact hlall | (simp; omega)) (.same rfl (.same rfl (.same rfl .nil)))) ?_ | refine CallN.lend (c3 _) rfl (.full rfl (pure_en _) (by first | exact hlall | (simp; omega)) (.same rfl (.same rfl (.same rfl .nil)))) ?_ | refine CallN.pure (a1 _) rfl rfl ?_ | refine CallN.lendOwn 9 (a2 _) (.full rfl (pure_en _) (by first | exact hlall | (simp; omega)) (.same rfl (.same rfl .nil))) rfl rfl rfl (plain_st _) ?_ | refine CallN.lendOwn 10 (a3 _) (.full rfl (pure_en _) (by first | exact hlall | (simp; omega)) (.same rfl (.same rfl .nil))) rfl rfl rfl (plain_st _) ?_ | refine CallN.lend (hS _) rfl (.same rfl (.full rfl (pure_st _) (by first | rfl | (simp; done)) .nil)) ?_)))); (try (conv => whnf)))















  clear a1 a2 a3 c1 c2 c3 hS hv
  have hmx : (X.map stA).length = X.length := List.length_map _
  have hVl : (X.map (stV g.id)).length = X.length := List.length_map _
  have hmv : ((X.map (stV g.id)).map stA).length = X.length := by rw [List.length_map, List.length_map]
  have hgV : ∀ i, i < X.length → (X.map (stV g.id)).getD i s0 = stV g.id (X.getD i s0) := fun i hi => getD_map _ s0 s0 hi
  refine LoopN.weak (s1 := lfT X (X.map (stV g.id)) g 0) ?sw9 ?_
  case sw9 => exact SW.mk (fun i => if i = 5 then 9 else i) rfl rfl (namesAll.row rfl (namesAll.row (pure_st _) rfl)) ⟨.refl _, .refl _, .refl _, .refl _, .refl _, trivial⟩ (haveV.row rfl rfl (haveV.row (pure_st _) rfl trivial))
  generalize X.map (stV g.id) = V at hVl hmv hgV
  refine LoopN.ind T_ok mixed (S := lfT X V g) (fun i => V.length - i) (fun i => i ≤ V.length) (fun _ => rfl) (fun k hk ih => ?_) 0 (Nat.zero_le _)
  by_cases hkl : k < V.length
  case neg =>
    clear ih
    ((repeat ((conv => whnf); (first | (refine As.pre ?_; first | refine As.mk rfl ?_) | (refine LetI.pre ?_; first | refine LetI.mk _ rfl ?_) | (refine LetB.pre ?_; first | refine LetB.decf (by omega) ?_) | (refine Br.pre ?_; first | refine Br.ff rfl ?_) | (refine Ck.pre ?_; first | refine Ck.mk rfl ?_)))); (try (conv => whnf)))
    exact ⟨.inl rfl, ⟨_, rfl, rfl⟩, trivial⟩
  have next := ih (k + 1) (by omega) (by omega)
  clear ih
  have hlx : stA (X.getD k s0) = (X.map stA).getD k (.sc undef) := mapD s0 (by omega)
  have hlv : stA (V.getD k s0) = Am.part true 4 0 4 ((V.map stA).getD (0 + k) (.sc undef)) := getD_st hkl
  rw [hgV k (by omega)] at hlv
  generalize X.getD k s0 = s at hlx hlv
  obtain ⟨s1, s2, s3, s4⟩ := s
  clear hgV
  cases s4 with
  | true =>
    have hlv : AV.agg [int s1, int s2, int s3, bool true] = Am.part true 4 0 4 ((V.map stA).getD (0 + k) (.sc undef)) := hlv
    have hlx : AV.agg [int s1, int s2, int s3, bool true] = (X.map stA).getD k (.sc undef) := hlx
    have he : (!((s1 == s1) && ((s2 == s2) && ((s3 == s3) && ((true == true) && true))))) = false := by simp
    ((repeat ((conv => whnf); (first | (refine LetN.pre ?_; first | ((conv => arg 1; whnf); refine LetN.mk ?_)) | (refine As.pre ?_; first | refine As.mk rfl ?_ | (refine As.mk ?_ ?_; · ((repeat' (refine andT ?_ ?_)) <;> (first | rfl | assumption | exact decide_eq_true (by omega) | exact decide_eq_true (by dsimp only; omega) | exact decide_eq_true (by simp; omega) | (simp; done))))) | (refine LetV.pre ?_; first | refine LetV.mk (t := 34) _ hlx ?_ | refine LetV.mk (t := sty) _ hlv ?_ | refine LetV.mk (.sc (.bool _)) rfl ?_ | refine LetV.mk (.agg _) rfl ?_) | (refine LetI.pre ?_; first | refine LetI.wrap (by omega) (by omega) ?_ | refine LetI.mk _ rfl ?_) | (refine LetB.pre ?_; first | refine LetB.ff (by assumption) ?_ | refine LetB.dect (by omega) ?_) | (refine Gd.pre ?_; first | refine Gd.pass rfl ?_) | (refine Br.pre ?_; first | refine Br.tt rfl ?_ | refine Br.ff rfl ?_) | (refine Ck.pre ?_; first | refine Ck.drawn (by kernel_rfl) ?_ | refine Ck.mk rfl ?_) | (refine LetL.pre ?_; first | refine LetL.mk [_] rfl ?_)))); (try (conv => whnf)))


    refine LoopN.weak ?_ next
    exact SW.mk id rfl rfl (namesAll.row rfl (namesAll.row (pure_st _) rfl)) ⟨.refl _, .refl _, .refl _, .refl _, VLe2.int (by omega), trivial⟩ (haveV.row rfl rfl (haveV.row (pure_st _) rfl trivial))
  | false =>
    have hlx : AV.agg [int s1, int s2, int s3, bool false] = (X.map stA).getD k (.sc undef) := hlx
    cases hg1 : (s1 == g.id) with
    | true =>
      have hlv : AV.agg [int s1, int s2, int s3, bool true] = Am.part true 4 0 4 ((V.map stA).getD (0 + k) (.sc undef)) := by rw [← hlv]; simp [stV, hg1]
      have he : (!((s1 == s1) && ((s2 == s2) && ((s3 == s3) && ((true == true) && true))))) = false := by simp
      ((repeat ((conv => whnf); (first | (refine LetN.pre ?_; first | ((conv => arg 1; whnf); refine LetN.mk ?_)) | (refine As.pre ?_; first | refine As.mk rfl ?_ | (refine As.mk ?_ ?_; · ((repeat' (refine andT ?_ ?_)) <;> (first | rfl | assumption | exact decide_eq_true (by omega) | exact decide_eq_true (by dsimp only; omega) | exact decide_eq_true (by simp; omega) | (simp; done))))) | (refine LetV.pre ?_; first | refine LetV.mk (t := 34) _ hlx ?_ | refine LetV.mk (t := sty) _ hlv ?_ | refine LetV.mk (.sc (.int _ _)) rfl ?_ | refine LetV.mk (.sc (.bool _)) rfl ?_ | refine LetV.mk (.agg _) rfl ?_) | (refine LetI.pre ?_; first | refine LetI.wrap (by omega) (by omega) ?_ | refine LetI.mk _ rfl ?_) | (refine LetB.pre ?_; first | refine LetB.tt (by assumption) ?_ | refine LetB.ff (by assumption) ?_ | refine LetB.dect (by omega) ?_) | (refine Gd.pre ?_; first | refine Gd.run rfl ?_) | (refine Br.pre ?_; first | refine Br.tt rfl ?_ | refine Br.ff rfl ?_) | (refine Ck.pre ?_; first | refine Ck.drawn (by kernel_rfl) ?_ | refine Ck.mk rfl ?_) | (refine LetL.pre ?_; first | refine LetL.mk [_] rfl ?_)))); (try (conv => whnf)))


      refine LoopN.weak ?_ next
      exact SW.mk id rfl rfl (namesAll.row rfl (namesAll.row (pure_st _) rfl)) ⟨.refl _, .refl _, .refl _, .refl _, VLe2.int (by omega), trivial⟩ (haveV.row rfl rfl (haveV.row (pure_st _) rfl trivial))
    | false =>
      have hlv : AV.agg [int s1, int s2, int s3, bool false] = Am.part true 4 0 4 ((V.map stA).getD (0 + k) (.sc undef)) := by rw [← hlv]; simp [stV, hg1]
      have he : (!((s1 == s1) && ((s2 == s2) && ((s3 == s3) && ((false == false) && true))))) = false := by simp
      ((repeat ((conv => whnf); (first | (refine LetN.pre ?_; first | ((conv => arg 1; whnf); refine LetN.mk ?_)) | (refine As.pre ?_; first | refine As.mk rfl ?_ | (refine As.mk ?_ ?_; · ((repeat' (refine andT ?_ ?_)) <;> (first | rfl | assumption | exact decide_eq_true (by omega) | exact decide_eq_true (by dsimp only; omega) | exact decide_eq_true (by simp; omega) | (simp; done))))) | (refine LetV.pre ?_; first | refine LetV.mk (t := 34) _ hlx ?_ | refine LetV.mk (t := sty) _ hlv ?_ | refine LetV.mk (.sc (.int _ _)) rfl ?_ | refine LetV.mk (.sc (.bool _)) rfl ?_ | refine LetV.mk (.agg _) rfl ?_) | (refine LetI.pre ?_; first | refine LetI.wrap (by omega) (by omega) ?_ | refine LetI.mk _ rfl ?_) | (refine LetB.pre ?_; first | refine LetB.ff (by assumption) ?_ | refine LetB.dect (by omega) ?_) | (refine Gd.pre ?_; first | refine Gd.run rfl ?_) | (refine Br.pre ?_; first | refine Br.tt rfl ?_ | refine Br.ff rfl ?_) | (refine Ck.pre ?_; first | refine Ck.drawn (by kernel_rfl) ?_ | refine Ck.mk rfl ?_) | (refine LetL.pre ?_; first | refine LetL.mk [_] rfl ?_)))); (try (conv => whnf)))


      refine LoopN.weak ?_ next
      exact SW.mk id rfl rfl (namesAll.row rfl (namesAll.row (pure_st _) rfl)) ⟨.refl _, .refl _, .refl _, .refl _, VLe2.int (by omega), trivial⟩ (haveV.row rfl rfl (haveV.row (pure_st _) rfl trivial))
theorem flifts_row (x : List (List Int) × Int × Int × Int) (hxs : ∀ l ∈ x.1, l.length ≤ 9223372036854775807) (which : Int) (hwh : 0 ≤ which ∧ which ≤ 255) (v : Int × Int) (hv1 : 0 ≤ v.1 ∧ v.1 ≤ 255) (hv2 : 0 ≤ v.2 ∧ v.2 ≤ 255) :
    AFun Try.prog 4 0 [.agg [.ro {} 1 (x.1.map fun l => .ro {} 1 (l.map int)), int x.2.1, int x.2.2.1, int x.2.2.2], u8' which, .agg [u8' v.1, u8' v.2]] [] (bool true) [] := by
  have h := flifts (x.1.map fun l => (({} : Fl), l)) {} x.2 (fun y hy => by
    obtain ⟨l, hl, rfl⟩ := List.mem_map.1 hy
    exact hxs l hl) which hwh v hv1 hv2
  rw [List.map_map] at h
  exact h
end En
end Go.Proofs.Ytjnohedknlibmaa
