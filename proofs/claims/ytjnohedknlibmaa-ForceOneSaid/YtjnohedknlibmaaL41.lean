/- force: parts of the proof, DforceGL DforceGM. -/
import Derived.Test.YtjnohedknlibmaaL40
set_option linter.all false
namespace Go.Proofs.Ytjnohedknlibmaa
open Go.Proofs.Ytjnohedknlibmaa.Am
namespace En
/-! ### One more entry -/
theorem cnt_snoc (A : List E) (e : E) (kd a o : Int) : countP (A ++ [e]) kd a o = if cntQ kd a o e then insEnd (ltE false e) e (countP A kd a o) else countP A kd a o := by
  rw [countP_S, countP_S, List.filter_append, List.filter_cons, List.filter_nil]
  cases cntQ kd a o e with
  | true => simp only [if_true]; exact S_snoc _ _ _
  | false => simp
theorem cnt_same {A : List E} {e : E} {kd a o : Int} (h : ¬ (e.kind = kd ∧ e.day ≤ a ∧ e.on_ ≤ o)) : countP (A ++ [e]) kd a o = countP A kd a o := by
  rw [cnt_snoc, cntQ, decide_eq_false h]; rfl
theorem lift_snoc {A : List E} {e : E} {f a o : Int} (h : ¬ (e.kind = 6 ∧ e.ref = f ∧ e.day ≤ a ∧ e.on_ ≤ o)) : rLiftedP (A ++ [e]) f a o = rLiftedP A f a o := by
  rw [lift_eq, lift_eq, liftedP, List.any_append, ← liftedP]
  have : (decide (e.kind = 6) && decide (e.ref = f) && decide (e.day ≤ a ∧ e.on_ ≤ o)) = false := by
    rw [Bool.eq_false_iff]
    intro k
    simp only [Bool.and_eq_true, decide_eq_true_eq] at k
    exact h ⟨k.1.1, k.1.2, k.2⟩
  simp only [List.any_cons, List.any_nil, Bool.or_false, this]
theorem any_congr2 {α : Type} {p q : α → Bool} : ∀ {l : List α}, (∀ x ∈ l, p x = q x) → l.any p = l.any q
  | [], _ => rfl
  | x :: l, h => by rw [List.any_cons, List.any_cons, h x (List.mem_cons_self ..), any_congr2 fun y hy => h y (List.mem_cons_of_mem _ hy)]
theorem foldl_mem {α β : Type} {f g : β → α → β} : ∀ {l : List α} (b : β), (∀ x ∈ l, ∀ b, f b x = g b x) → l.foldl f b = l.foldl g b
  | [], _, _ => rfl
  | x :: l, b, h => by rw [List.foldl_cons, List.foldl_cons, h x (List.mem_cons_self ..), foldl_mem _ fun y hy => h y (List.mem_cons_of_mem _ hy)]
theorem at_none {A : List E} {e : E} {a o : Int} (h : ¬ (e.day ≤ a ∧ e.on_ ≤ o)) : rAtP (A ++ [e]) a o = rAtP A a o := by
  rw [rAtP, rAtP, cnt_same (fun k => h k.2), cnt_same (fun k => h k.2), cnt_same (fun k => h k.2)]
  refine List.map_congr_left fun g _ => ?_
  simp only [rstand, lift_snoc (e := e) (A := A) (a := a) (o := o) (fun k => h k.2.2)]
abbrev gStep (e : E) (g : Int) (x : E) : Int := bif (bif (e.kind == 6) then (x.id == e.ref) else false) then x.ref else g
def gradeOf (A : List E) (e : E) : Int := A.foldl (gStep e) e.ref
theorem grade_none {e : E} : ∀ (A : List E) (g : Int), (∀ x ∈ A, ¬ (e.kind = 6 ∧ x.id = e.ref)) → A.foldl (gStep e) g = g
  | [], _, _ => rfl
  | x :: A, g, h => by
    have : gStep e g x = g := by
      have h1 := h x (List.mem_cons_self ..)
      unfold gStep
      cases hk : (e.kind == 6) with
      | false => rfl
      | true =>
        cases hr : (x.id == e.ref) with
        | false => rfl
        | true => exact absurd ⟨beq_iff_eq.1 hk, beq_iff_eq.1 hr⟩ h1
    rw [List.foldl_cons, this, grade_none A g fun y hy => h y (List.mem_cons_of_mem _ hy)]
theorem grade_some {e : E} (he : e.kind = 6) : ∀ (A : List E) (g : Int), (∃ x ∈ A, x.id = e.ref) → ∃ x ∈ A, x.id = e.ref ∧ A.foldl (gStep e) g = x.ref
  | [], _, ⟨x, hx, _⟩ => absurd hx List.not_mem_nil
  | x :: A, g, h => by
    by_cases hA : ∃ y ∈ A, y.id = e.ref
    · obtain ⟨y, hy, h1, h2⟩ := grade_some he A (gStep e g x) hA
      exact ⟨y, List.mem_cons_of_mem _ hy, h1, h2⟩
    · obtain ⟨y, hy, h1⟩ := h
      have hx : x.id = e.ref := by
        rcases List.mem_cons.1 hy with k | k
        · rw [← k]; exact h1
        · exact absurd ⟨y, k, h1⟩ hA
      refine ⟨x, List.mem_cons_self .., hx, ?_⟩
      rw [List.foldl_cons, grade_none A _ fun y hy k => hA ⟨y, hy, k.2⟩]
      unfold gStep
      rw [beq_iff_eq.2 he, beq_iff_eq.2 hx]; rfl
/-- What is known of a right list with one more entry. -/
structure Snoc (A : List E) (e : E) : Prop where
  pid : (A ++ [e]).Pairwise fun x y => x.id ≠ y.id
  ref : ∀ x ∈ A ++ [e], tgt x.kind ≠ 0 → ∃ y ∈ A, y.id = x.ref ∧ y.kind = tgt x.kind
theorem Snoc.ne {A : List E} {e : E} (h : Snoc A e) {x : E} (hx : x ∈ A) : x.id ≠ e.id := (List.pairwise_append.1 h.pid).2.2 x hx e (List.mem_cons_self ..)
theorem Snoc.eq {A : List E} {e : E} (h : Snoc A e) {x y : E} (hx : x ∈ A) (hy : y ∈ A) (k : x.id = y.id) : x = y := by
  have hp := (List.pairwise_append.1 h.pid).1
  obtain ⟨i, hi, rfl⟩ := mem_getD hx
  obtain ⟨j, hj, rfl⟩ := mem_getD hy
  rcases Nat.lt_trichotomy i j with q | q | q
  · exact absurd k (getD_pair e0 hp q hj)
  · rw [q]
  · exact absurd k.symm (getD_pair e0 hp q hi)
theorem chk_snoc {l : List E} (h : chkE l = 0) (hl : l.length ≤ 1000) {k : Nat} (hk : k < l.length) : Snoc (l.take k) (l.getD k e0) := by
  have hsn : l.take (k + 1) = l.take k ++ [l.getD k e0] := by
    rw [List.take_succ_eq_append_getElem hk, List.getD_eq_getElem?_getD, List.getElem?_eq_getElem hk]; rfl
  refine ⟨by rw [← hsn]; exact (chk_pid h hl).sublist (List.take_sublist _ _), fun x hx ht => ?_⟩
  rw [← hsn] at hx
  obtain ⟨i, hi, rfl⟩ := mem_getD hx
  rw [List.length_take] at hi
  rw [getD_take (by omega)] at ht ⊢
  obtain ⟨y, hy, h1, h2, _⟩ := chk_ref h hl (by omega) ht
  refine ⟨y, ?_, h1, h2⟩
  have : (l.take k).take i = l.take i := by rw [List.take_take, Nat.min_eq_left (by omega)]
  rw [← this] at hy
  exact List.mem_of_mem_take hy
theorem rst_snoc {A : List E} {e : E} {C F : List E} {a o : Int} {g : E} (h : ∀ f ∈ F, f.ref = g.id → rLiftedP (A ++ [e]) f.id a o = rLiftedP A f.id a o) : rstand (A ++ [e]) C F a o g = rstand A C F a o g := by
  unfold rstand
  congr 1
  refine any_congr2 fun f hf => ?_
  by_cases hr : f.ref = g.id
  · rw [h f hf hr]
  · rw [decide_eq_false hr, Bool.false_and, Bool.false_and]
theorem ins_foldl {e : E} {C : List E} (hC : Sorted (ltE false) C) {g : E} (h : e.ref ≠ g.id) (x : Int × Int × Int × Bool) : (insEnd (ltE false e) e C).foldl (stepR g) x = C.foldl (stepR g) x := by
  have key : ∀ l : List E, l.foldl (stepR g) x = (l.filter fun c => decide (c.ref = g.id)).foldl stepC x := by
    intro l
    rw [List.foldl_filter]
    refine foldl_congr (fun b c => ?_) _ _
    simp only [stepR, decide_eq_true_eq]
  rw [key, key, ins_filter (ord_E false) hC, decide_eq_false h]; rfl
theorem ins_any (gt : E → Bool) (e : E) (F : List E) (p : E → Bool) : (insEnd gt e F).any p = (p e || F.any p) := by
  rw [Bool.eq_iff_iff, Bool.or_eq_true, List.any_eq_true, List.any_eq_true]
  constructor
  · rintro ⟨x, hx, hp⟩
    rcases List.mem_cons.1 ((ins_perm _ _ _).mem_iff.1 hx) with k | k
    · exact .inl (k ▸ hp)
    · exact .inr ⟨x, k, hp⟩
  · rintro (k | ⟨x, hx, hp⟩)
    · exact ⟨e, (ins_perm _ _ _).mem_iff.2 (List.mem_cons_self ..), k⟩
    · exact ⟨x, (ins_perm _ _ _).mem_iff.2 (List.mem_cons_of_mem _ hx), hp⟩
theorem cnt_sorted (l : List E) (k a o : Int) : Sorted (ltE false) (countP l k a o) := by rw [countP_S]; exact S_sorted (ord_E false) _
/-- Another entry than a grade changes at most the standing of its grade. -/
theorem st_other {A : List E} {e : E} (hs : Snoc A e) {a o : Int} (hc : e.day ≤ a ∧ e.on_ ≤ o) (h3 : e.kind ≠ 3) {g : E} (hg : g.id ≠ gradeOf A e) :
    rstand (A ++ [e]) (countP (A ++ [e]) 4 a o) (countP (A ++ [e]) 5 a o) a o g = rstand A (countP A 4 a o) (countP A 5 a o) a o g := by
  by_cases h6 : e.kind = 6
  · rw [cnt_same (by omega), cnt_same (by omega)]
    obtain ⟨f, hf, hfi, hfk⟩ := hs.ref e (by simp) (by rw [h6]; decide)
    rw [h6] at hfk
    obtain ⟨x, hx, hxi, hxr⟩ := grade_some h6 A e.ref ⟨f, hf, hfi⟩
    rw [gradeOf, hxr] at hg
    refine rst_snoc fun y hy hyr => lift_snoc fun k => hg ?_
    have hyA := (mem_countP.1 hy).1
    rw [hs.eq hx hyA (by rw [hxi, k.2.1]), hyr]
  have hgr : gradeOf A e = e.ref := grade_none A _ fun x _ k => h6 k.1
  rw [hgr] at hg
  rw [rst_snoc fun f _ _ => lift_snoc fun k => h6 k.1]
  by_cases h4 : e.kind = 4
  · have h5 : countP (A ++ [e]) 5 a o = countP A 5 a o := cnt_same (by omega)
    rw [h5, cnt_snoc, cntQ, decide_eq_true ⟨h4, hc⟩, if_pos rfl, rstand, ins_foldl (cnt_sorted ..) (Ne.symm hg)]; rfl
  · rw [cnt_same (kd := 4) (by omega)]
    by_cases h5 : e.kind = 5
    · rw [cnt_snoc, cntQ, decide_eq_true ⟨h5, hc⟩, if_pos rfl, rstand, ins_any, decide_eq_false (Ne.symm hg), Bool.false_and, Bool.false_or]; rfl
    · rw [cnt_same (kd := 5) (by omega)]
/-- A grade changes no other standing, and stands as it is. -/
theorem st_grade {A : List E} {e : E} (h3 : e.kind = 3) {a o : Int} (g : E) :
    rstand (A ++ [e]) (countP (A ++ [e]) 4 a o) (countP (A ++ [e]) 5 a o) a o g = rstand A (countP A 4 a o) (countP A 5 a o) a o g := by
  rw [cnt_same (kd := 4) (by omega), cnt_same (kd := 5) (by omega)]
  exact rst_snoc fun f _ _ => lift_snoc fun k => by omega
theorem st_new {A : List E} {e : E} (hs : Snoc A e) (a o : Int) : rstand A (countP A 4 a o) (countP A 5 a o) a o e = ⟨e.id, 0, e.grade, false⟩ := by
  have hne : ∀ x ∈ A, tgt x.kind ≠ 0 → x.ref ≠ e.id := by
    intro x hx ht k
    obtain ⟨y, hy, h1, _⟩ := hs.ref x (by simp [hx]) ht
    exact hs.ne hy (h1.trans k)
  have h4 : (countP A 4 a o).foldl (stepR e) (0, e.grade, 0, false) = (0, e.grade, 0, false) := by
    have hst : ∀ x ∈ countP A 4 a o, ∀ b, stepR e b x = (fun b (_ : E) => b) b x := fun x hx b => if_neg (by
      have := mem_countP.1 hx
      exact hne x this.1 (by rw [this.2.1]; decide))
    rw [foldl_mem _ hst]
    generalize countP A 4 a o = l
    generalize ((0 : Int), e.grade, (0 : Int), false) = b
    induction l with
    | nil => rfl
    | cons x l ih => rw [List.foldl_cons]; exact ih
  have h5 : ((countP A 5 a o).any fun f => decide (f.ref = e.id) && !rLiftedP A f.id a o) = false := by
    rw [List.any_eq_false]
    intro x hx k
    have := mem_countP.1 hx
    simp only [Bool.and_eq_true, decide_eq_true_eq] at k
    exact hne x this.1 (by rw [this.2.1]; decide) k.1
  rw [rstand, h4, h5]
theorem getD_map {α β : Type} (f : α → β) (d : α) (d' : β) {l : List α} {i : Nat} (h : i < l.length) : (l.map f).getD i d' = f (l.getD i d) := by
  rw [List.getD_eq_getElem?_getD, List.getD_eq_getElem?_getD, List.getElem?_map, List.getElem?_eq_getElem h]; rfl
theorem getD_left {α : Type} {P Q : List α} {i : Nat} {d : α} (h : i < P.length) : (P ++ Q).getD i d = P.getD i d := by
  rw [List.getD_eq_getElem?_getD, List.getElem?_append_left h, ← List.getD_eq_getElem?_getD]
theorem getD_right {α : Type} {P Q : List α} {i : Nat} {d : α} (h : P.length ≤ i) : (P ++ Q).getD i d = Q.getD (i - P.length) d := by
  rw [List.getD_eq_getElem?_getD, List.getElem?_append_right h, ← List.getD_eq_getElem?_getD]
/-- How the standings with one more entry go along those without it. -/
theorem one_plain {A : List E} {e : E} (hs : Snoc A e) {a o : Int} (hc : e.day ≤ a ∧ e.on_ ≤ o) : ∃ nn : Nat → Nat, nn 0 = 0 ∧ nn (rAtP (A ++ [e]) a o).length = (rAtP A a o).length ∧ ∀ i, i < (rAtP (A ++ [e]) a o).length →
    (((rAtP (A ++ [e]) a o).getD i s0 = ⟨e.id, 0, e.grade, false⟩ ∧ e.kind = 3 ∧ nn (i + 1) = nn i) ∨
     (nn i < (rAtP A a o).length ∧ ¬ (((rAtP (A ++ [e]) a o).getD i s0).entry = e.id ∧ e.kind = 3) ∧ ((rAtP (A ++ [e]) a o).getD i s0).entry = ((rAtP A a o).getD (nn i) s0).entry ∧
      ((rAtP (A ++ [e]) a o).getD i s0 = (rAtP A a o).getD (nn i) s0 ∨ (e.kind ≠ 3 ∧ ((rAtP (A ++ [e]) a o).getD i s0).entry = gradeOf A e)) ∧ nn (i + 1) = nn i + 1)) := by
  by_cases h3 : e.kind = 3
  · obtain ⟨P, Q, hPQ, p1, p2⟩ := ins_split (ord_E false) (cnt_sorted A 3 a o) e
    have hB : rAtP (A ++ [e]) a o = (P ++ e :: Q).map (rstand A (countP A 4 a o) (countP A 5 a o) a o) := by
      rw [rAtP, cnt_snoc A e 3, cntQ, decide_eq_true ⟨h3, hc⟩, if_pos rfl, hPQ, ins_of p1 p2]
      exact List.map_congr_left fun g _ => st_grade h3 g
    have hA : rAtP A a o = (P ++ Q).map (rstand A (countP A 4 a o) (countP A 5 a o) a o) := by rw [rAtP, hPQ]
    have hnew := st_new hs a o
    have hin : ∀ x ∈ P ++ Q, x.id ≠ e.id := fun x hx => hs.ne (mem_countP.1 (hPQ ▸ hx)).1
    have hst : ∀ x, (rstand A (countP A 4 a o) (countP A 5 a o) a o x).entry = x.id := fun x => rfl
    rw [hA, hB]
    generalize rstand A (countP A 4 a o) (countP A 5 a o) a o = st at hnew hst
    refine ⟨fun i => if i ≤ P.length then i else i - 1, if_pos (Nat.zero_le _), ?_, fun i hi => ?_⟩
    · simp only [List.length_map, List.length_append, List.length_cons]
      rw [if_neg (by omega)]; omega
    simp only [List.length_map, List.length_append, List.length_cons] at hi
    by_cases hip : i = P.length
    · left
      refine ⟨?_, h3, ?_⟩
      · rw [getD_map st e0 s0 (by simp; omega), getD_right (by omega), hip, Nat.sub_self]
        exact hnew
      · simp only [hip]
        rw [if_neg (by omega), if_pos (Nat.le_refl _)]; rfl
    · right
      have hnn : (if i ≤ P.length then i else i - 1) < (P ++ Q).length := by simp only [List.length_append]; split <;> omega
      have hxe : (P ++ e :: Q).getD i e0 = (P ++ Q).getD (if i ≤ P.length then i else i - 1) e0 := by
        by_cases hlt : i < P.length
        · rw [if_pos (by omega), getD_left hlt, getD_left hlt]
        · rw [if_neg (by omega), getD_right (by omega), getD_right (by omega)]
          have : i - P.length = (i - 1 - P.length) + 1 := by omega
          rw [this]; rfl
      have hmem : (P ++ Q).getD (if i ≤ P.length then i else i - 1) e0 ∈ P ++ Q := getD_mem hnn
      have hEq : ((P ++ e :: Q).map st).getD i s0 = ((P ++ Q).map st).getD (if i ≤ P.length then i else i - 1) s0 := by
        rw [getD_map st e0 s0 (by simp; omega), getD_map st e0 s0 hnn, hxe]
      refine ⟨by rw [List.length_map]; exact hnn, fun k => ?_, by rw [hEq], .inl hEq, ?_⟩
      · rw [hEq, getD_map st e0 s0 hnn, hst] at k
        exact hin _ hmem k.1
      · show (if i + 1 ≤ P.length then i + 1 else i + 1 - 1) = (if i ≤ P.length then i else i - 1) + 1
        split <;> split <;> omega
  · have hG : countP (A ++ [e]) 3 a o = countP A 3 a o := cnt_same (by omega)
    have hlen : (rAtP (A ++ [e]) a o).length = (rAtP A a o).length := by rw [rAtP, rAtP, List.length_map, List.length_map, hG]
    refine ⟨id, rfl, hlen, fun i hi => .inr ?_⟩
    rw [hlen] at hi
    refine ⟨hi, fun k => h3 k.2, ?_, ?_, rfl⟩
    · rw [rAtP, rAtP, hG]
      rw [rAtP, List.length_map] at hi
      rw [getD_map _ e0 s0 hi, show id i = i from rfl, getD_map _ e0 s0 hi]; rfl
    · rw [rAtP, rAtP, hG]
      rw [rAtP, List.length_map] at hi
      rw [getD_map _ e0 s0 hi, show id i = i from rfl, getD_map _ e0 s0 hi]
      by_cases hg : ((countP A 3 a o).getD i e0).id = gradeOf A e
      · right; exact ⟨h3, hg⟩
      · left; exact st_other hs hc h3 hg
end En
end Go.Proofs.Ytjnohedknlibmaa
namespace Go.Proofs.Ytjnohedknlibmaa
open Go.Proofs.Ytjnohedknlibmaa.Am
namespace En
/-! ### ForceOne -/
abbrev u8' (v : Int) : AV := .sc (.int .u8 v)
theorem take_snoc {l : List E} {k : Nat} (hk : k < l.length) : l.take (k + 1) = l.take k ++ [l.getD k e0] := by
  rw [List.take_succ_eq_append_getElem hk, List.getD_eq_getElem?_getD, List.getElem?_eq_getElem hk]; rfl
theorem rAtP_length (l : List E) (a o : Int) : (rAtP l a o).length ≤ l.length := by rw [← at_eq]; exact atP_length ..
abbrev oneI (l : List E) (A B : List St) (k : Nat) (e : E) : Nat × Int → AS
  | (j, g) => ⟨[(7, bool true), (8, .ro {} 15 (l.map en)), (12, int k), (13, .ptr 2 15 0 0), (14, .ro {} 4 (A.map stA)), (15, .ro {} 4 (B.map stA)), (16, int g), (17, int j)], [(2, .row 15 ety [en e])], 3⟩
abbrev oneJ (A B : List St) (e : E) (gr : Int) : Nat × Nat → AS
  | (j, n) => ⟨[(7, bool true), (13, .ptr 2 15 0 0), (14, .ro {} 4 (A.map stA)), (15, .ro {} 4 (B.map stA)), (16, int gr), (18, int n), (19, int j)], [(2, .row 15 ety [en e])], 3⟩
set_option maxHeartbeats 1600000 in
set_option maxRecDepth 100000 in
theorem fone (L : List (Fl × List Int)) (fl : Fl) (q : Int × Int × Int) (hxs : ∀ x ∈ L, x.2.length ≤ 9223372036854775807) (last : Int) (hla : 0 ≤ last ∧ last ≤ 255) (w : Int × Int) (hw1 : 0 ≤ w.1 ∧ w.1 ≤ 65535) (hw2 : 0 ≤ w.2 ∧ w.2 ≤ 65535) :
    AFun Try.prog 3 0 [.agg [.ro fl 1 (L.map iA), int q.1, int q.2.1, int q.2.2], u8' last, .agg [u16 w.1, u16 w.2]] [] (bool true) [] := by
  obtain ⟨l, l', h1, h2, hM⟩ := made_f L fl q hxs
  have hlen := h1.len
  obtain ⟨a, ha⟩ : ∃ a, a = w.1.tmod 1000 := ⟨_, rfl⟩
  obtain ⟨o, ho⟩ : ∃ o, o = w.2.tmod 1000 := ⟨_, rfl⟩
  have hml : (l.map en).length = l.length := List.length_map _
  refine AFun.of_W T_ok mixed Try.func3 rfl (Nat.le_of_ble_eq_true rfl) rfl ?_
  by_cases h0 : l.length = 0
  case pos =>
    ((repeat ((conv => whnf); (first | (refine LetN.pre ?_; first | ((conv => arg 1; whnf); refine LetN.mk ?_)) | (refine As.pre ?_; first | refine As.mk rfl ?_) | (refine LetV.pre ?_; first | refine LetV.mk (.agg _) rfl ?_) | (refine LetI.pre ?_; first | refine LetI.mk _ rfl ?_) | (refine LetB.pre ?_; first | refine LetB.dect (by omega) ?_) | (refine Br.pre ?_; first | refine Br.tt rfl ?_) | (refine Ck.pre ?_; first | refine Ck.mk rfl ?_) | (refine CallN.pre ?_; first | refine CallN.pure sanity_f rfl rfl ?_ | refine CallN.pure hM rfl rfl ?_)))); (try (conv => whnf)))


    exact ⟨.inl rfl, ⟨_, rfl, rfl⟩, trivial⟩
  have hnz : (((l.map en).length : Int) != 0) = true := bne_iff_ne.2 (by omega)
  obtain ⟨k, hk, hkk⟩ : ∃ k : Nat, k < l.length ∧ ((k : Nat) : Int) = last.tmod (((l.map en).length : Nat) : Int) := by
    rw [hml]
    have h1 := Int.tmod_nonneg (l.length : Int) hla.1
    have h2 := Int.tmod_lt_of_pos last (b := (l.length : Int)) (by omega)
    exact ⟨(last.tmod (l.length : Int)).toNat, by omega, by omega⟩
  have hadd : ((k + 1 : Nat) : Int) = IntKind.i64.wrap ((k : Int) + 1) := by rw [wrap_id (by omega) (by omega)]; omega
  have t1 := (take_en2 l k).symm
  have t2 := (take_en2 l (k + 1)).symm
  have c1 := fun fl => At_f (l.take k) a o fl (by have := List.length_take_le' k l; omega)
  have c2 := fun fl => At_f (l.take (k + 1)) a o fl (by have := List.length_take_le' (k + 1) l; omega)
  rw [at_eq] at c1 c2
  have hA := rAtP_length (l.take k) a o
  have hB := rAtP_length (l.take (k + 1)) a o
  have hA2 := List.length_take_le' k l
  have hB2 := List.length_take_le' (k + 1) l
  have hld : en (l.getD k e0) = (l.map en).getD k (.sc undef) := mapD e0 hk
  have hsn := chk_snoc h1.chk (by omega) hk
  have hts := take_snoc hk
  have hgr : gradeOf (l.take k) (l.getD k e0) = (l.take k).foldl (gStep (l.getD k e0)) (l.getD k e0).ref := rfl
  rw [hts] at c2 hB
  by_cases hc : (l.getD k e0).day ≤ a ∧ (l.getD k e0).on_ ≤ o
  case neg =>
    rw [at_none hc] at c2 hB
    have hS := Same_f (rAtP (l.take k) a o) {} {} (by omega)
    rw [← hts] at c2
    generalize rAtP (l.take k) a o = A at c1 c2 hS
    clear hsn hts hgr
    generalize l.getD k e0 = e at hld hc
    by_cases hd : e.day ≤ a
    · ((repeat ((conv => whnf); (first | (refine LetN.pre ?_; first | ((conv => arg 1; whnf); refine LetN.mk ?_)) | (refine As.pre ?_; first | refine As.mk rfl ?_ | refine As.mk hnz ?_ | (refine As.mk ?_ ?_; · ((repeat' (refine andT ?_ ?_)) <;> (first | rfl | assumption | exact decide_eq_true (by omega) | exact decide_eq_true (by dsimp only; omega) | exact decide_eq_true (by simp; omega) | (simp; done))))) | (refine LetV.pre ?_; first | refine LetV.mk (t := 29) _ hld ?_ | refine LetV.mk (t := 29) (.ro _ 15 ((l.take k).map en)) (congrArg (AV.ro _ 15) t1) ?_ | refine LetV.mk (t := 29) (.ro _ 15 ((l.take (k + 1)).map en)) (congrArg (AV.ro _ 15) t2) ?_ | refine LetV.mk (.sc (.int _ _)) rfl ?_ | refine LetV.mk (.agg _) rfl ?_) | (refine LetI.pre ?_; first | refine LetI.mk (o := some .rem) a ha ?_ | refine LetI.mk (o := some .rem) o ho ?_ | refine LetI.mk (o := some .rem) ((k : Nat) : Int) hkk ?_ | refine LetI.mk (o := some .add) ((k + 1 : Nat) : Int) hadd ?_ | refine LetI.wrap (by omega) (by omega) ?_ | refine LetI.mk _ rfl ?_) | (refine LetB.pre ?_; first | refine LetB.dect (by omega) ?_ | refine LetB.decf (by omega) ?_) | (refine Gd.pre ?_; first | refine Gd.run rfl ?_) | (refine Br.pre ?_; first | refine Br.tt rfl ?_ | refine Br.ff rfl ?_) | (refine Ck.pre ?_; first | refine Ck.drawn (by kernel_rfl) ?_ | refine Ck.mk rfl ?_) | (refine LetL.pre ?_; first | refine LetL.mk [_] rfl ?_) | (refine CallN.pre ?_; first | refine CallN.pure sanity_f rfl rfl ?_ | refine CallN.pure hM rfl rfl ?_ | refine CallN.pure (c1 _) rfl rfl ?_ | refine CallN.pure (c2 _) rfl rfl ?_ | refine CallN.pure hS rfl rfl ?_)))); (try (conv => whnf)))













      exact ⟨.inl rfl, ⟨_, rfl, rfl⟩, trivial⟩
    · ((repeat ((conv => whnf); (first | (refine LetN.pre ?_; first | ((conv => arg 1; whnf); refine LetN.mk ?_)) | (refine As.pre ?_; first | refine As.mk rfl ?_ | refine As.mk hnz ?_ | (refine As.mk ?_ ?_; · ((repeat' (refine andT ?_ ?_)) <;> (first | rfl | assumption | exact decide_eq_true (by omega) | exact decide_eq_true (by dsimp only; omega) | exact decide_eq_true (by simp; omega) | (simp; done))))) | (refine LetV.pre ?_; first | refine LetV.mk (t := 29) _ hld ?_ | refine LetV.mk (t := 29) (.ro _ 15 ((l.take k).map en)) (congrArg (AV.ro _ 15) t1) ?_ | refine LetV.mk (t := 29) (.ro _ 15 ((l.take (k + 1)).map en)) (congrArg (AV.ro _ 15) t2) ?_ | refine LetV.mk (.sc (.int _ _)) rfl ?_ | refine LetV.mk (.agg _) rfl ?_) | (refine LetI.pre ?_; first | refine LetI.mk (o := some .rem) a ha ?_ | refine LetI.mk (o := some .rem) o ho ?_ | refine LetI.mk (o := some .rem) ((k : Nat) : Int) hkk ?_ | refine LetI.mk (o := some .add) ((k + 1 : Nat) : Int) hadd ?_ | refine LetI.wrap (by omega) (by omega) ?_ | refine LetI.mk _ rfl ?_) | (refine LetB.pre ?_; first | refine LetB.dect (by omega) ?_ | refine LetB.decf (by omega) ?_) | (refine Gd.pre ?_; first | refine Gd.run rfl ?_ | refine Gd.pass rfl ?_) | (refine Br.pre ?_; first | refine Br.tt rfl ?_ | refine Br.ff rfl ?_) | (refine Ck.pre ?_; first | refine Ck.drawn (by kernel_rfl) ?_ | refine Ck.mk rfl ?_) | (refine LetL.pre ?_; first | refine LetL.mk [_] rfl ?_) | (refine CallN.pre ?_; first | refine CallN.pure sanity_f rfl rfl ?_ | refine CallN.pure hM rfl rfl ?_ | refine CallN.pure (c1 _) rfl rfl ?_ | refine CallN.pure (c2 _) rfl rfl ?_ | refine CallN.pure hS rfl rfl ?_)))); (try (conv => whnf)))













      exact ⟨.inl rfl, ⟨_, rfl, rfl⟩, trivial⟩
  obtain ⟨nn, hn0, hn1, hp⟩ := one_plain hsn hc
  rw [← hts] at c2
  have c2 : ∀ fl, AFun Try.prog 11 0 [.ro fl 15 ((l.take (k + 1)).map en), int a, int o] [] (.ro {} 4 ((rAtP (l.take k ++ [l.getD k e0]) a o).map stA)) [] := by rw [← hts]; exact c2
  have hB3 : (rAtP (l.take k ++ [l.getD k e0]) a o).length ≤ 100 := by rw [← hts]; have := rAtP_length (l.take (k + 1)) a o; omega
  have hA3 : (rAtP (l.take k) a o).length ≤ 100 := by omega
  have hgets : ∀ j, j < k → (l.take k).getD j e0 = l.getD j e0 := fun j hj => getD_take hj
  have hkl : (l.take k).length = k := by rw [List.length_take]; omega
  generalize rAtP (l.take k ++ [l.getD k e0]) a o = B at c2 hn1 hp hB3
  generalize rAtP (l.take k) a o = A at c1 hn1 hp hA3
  clear hsn hts hA hB hA2 hB2
  generalize hG : gradeOf (l.take k) (l.getD k e0) = G at hgr hp
  clear hG
  generalize l.getD k e0 = e at hld hc hgr hp
  obtain ⟨hd, hon⟩ := hc
  ((repeat ((conv => whnf); (first | (refine LetN.pre ?_; first | ((conv => arg 1; whnf); refine LetN.mk ?_)) | (refine As.pre ?_; first | refine As.mk rfl ?_ | refine As.mk hnz ?_ | (refine As.mk ?_ ?_; · ((repeat' (refine andT ?_ ?_)) <;> (first | rfl | assumption | exact decide_eq_true (by omega) | exact decide_eq_true (by dsimp only; omega) | exact decide_eq_true (by simp; omega) | (simp; done))))) | (refine LetV.pre ?_; first | refine LetV.mk (t := 29) _ hld ?_ | refine LetV.mk (t := 29) (.ro _ 15 ((l.take k).map en)) (congrArg (AV.ro _ 15) t1) ?_ | refine LetV.mk (t := 29) (.ro _ 15 ((l.take (k + 1)).map en)) (congrArg (AV.ro _ 15) t2) ?_ | refine LetV.mk (.sc (.int _ _)) rfl ?_ | refine LetV.mk (.agg _) rfl ?_) | (refine LetI.pre ?_; first | refine LetI.mk (o := some .rem) a ha ?_ | refine LetI.mk (o := some .rem) o ho ?_ | refine LetI.mk (o := some .rem) ((k : Nat) : Int) hkk ?_ | refine LetI.mk (o := some .add) ((k + 1 : Nat) : Int) hadd ?_ | refine LetI.wrap (by omega) (by omega) ?_ | refine LetI.mk _ rfl ?_) | (refine LetB.pre ?_; first | refine LetB.decf (by omega) ?_) | (refine Gd.pre ?_; first | refine Gd.run rfl ?_) | (refine Br.pre ?_; first | refine Br.ff rfl ?_) | (refine Ck.pre ?_; first | refine Ck.drawn (by kernel_rfl) ?_ | refine Ck.mk rfl ?_) | (refine LetL.pre ?_; first | refine LetL.mk [_] rfl ?_) | (refine CallN.pre ?_; first | refine CallN.pure sanity_f rfl rfl ?_ | refine CallN.pure hM rfl rfl ?_ | refine CallN.pure (c1 _) rfl rfl ?_ | refine CallN.pure (c2 _) rfl rfl ?_)))); (try (conv => whnf)))












  clear hM c1 c2 t1 t2 hld hadd hkk ha ho hnz h1 h2 hxs
  refine LoopN.weak (s1 := oneI l A B k e (0, e.ref)) (SW.mk id rfl rfl rfl ⟨.refl _, .refl _, .refl _, .refl _, .refl _, .refl _, .refl _, .refl _, trivial⟩ (haveV.row rfl rfl trivial)) ?_
  refine LoopN.ind T_ok mixed (S := oneI l A B k e) (fun i => k - i.1) (fun i => i.1 ≤ k ∧ G = ((l.take k).drop i.1).foldl (gStep e) i.2) (fun _ => rfl) (fun i hi ih => ?_) (0, e.ref) ⟨Nat.zero_le _, hgr⟩
  obtain ⟨j, g⟩ := i
  obtain ⟨u1, u2⟩ := hi
  simp only at u1 u2 ih
  by_cases hj : j < k
  case pos =>
    have hlx : en (l.getD j e0) = (l.map en).getD j (.sc undef) := mapD e0 (by omega)
    rw [foldl_drop _ (by omega) e0, hgets j hj] at u2
    generalize l.getD j e0 = x at hlx u2
    have next : ∀ g', gStep e g x = g' → _ := fun g' h => ih (j + 1, g') ⟨by omega, by rw [← h]; exact u2⟩ (by show k - (j + 1) < k - j; omega)
    clear ih u2 hp hgr
    cases h6 : (e.kind == 6) with
    | false =>
      ((repeat ((conv => whnf); (first | (refine As.pre ?_; first | refine As.mk rfl ?_) | (refine LetV.pre ?_; first | refine LetV.mk (.sc (.int _ _)) rfl ?_) | (refine LetI.pre ?_; first | refine LetI.wrap (by omega) (by omega) ?_) | (refine LetB.pre ?_; first | refine LetB.ff (by assumption) ?_ | refine LetB.dect (by omega) ?_) | (refine Gd.pre ?_; first | refine Gd.pass rfl ?_) | (refine Br.pre ?_; first | refine Br.tt rfl ?_ | refine Br.ff rfl ?_) | (refine Ck.pre ?_; first | refine Ck.drawn (by kernel_rfl) ?_ | refine Ck.mk rfl ?_)))); (try (conv => whnf)))
      refine LoopN.weak ?_ (next g (by simp [gStep, h6]))
      exact SW.mk id rfl rfl rfl ⟨.refl _, .refl _, .refl _, .refl _, .refl _, .refl _, .refl _, VLe2.int (by omega), trivial⟩ (haveV.row rfl rfl trivial)
    | true =>
    cases hr : (x.id == e.ref) with
    | false =>
      ((repeat ((conv => whnf); (first | (refine As.pre ?_; first | refine As.mk rfl ?_ | (refine As.mk ?_ ?_; · ((repeat' (refine andT ?_ ?_)) <;> (first | rfl | assumption | exact decide_eq_true (by omega) | exact decide_eq_true (by dsimp only; omega) | exact decide_eq_true (by simp; omega) | (simp; done))))) | (refine LetV.pre ?_; first | refine LetV.mk (t := 29) _ hlx ?_ | refine LetV.mk (.sc (.int _ _)) rfl ?_) | (refine LetI.pre ?_; first | refine LetI.wrap (by omega) (by omega) ?_) | (refine LetB.pre ?_; first | refine LetB.tt (by assumption) ?_ | refine LetB.ff (by assumption) ?_ | refine LetB.dect (by omega) ?_) | (refine Gd.pre ?_; first | refine Gd.run rfl ?_) | (refine Br.pre ?_; first | refine Br.tt rfl ?_ | refine Br.ff rfl ?_) | (refine Ck.pre ?_; first | refine Ck.drawn (by kernel_rfl) ?_ | refine Ck.mk rfl ?_)))); (try (conv => whnf)))
      refine LoopN.weak ?_ (next g (by simp [gStep, h6, hr]))
      exact SW.mk id rfl rfl rfl ⟨.refl _, .refl _, .refl _, .refl _, .refl _, .refl _, .refl _, VLe2.int (by omega), trivial⟩ (haveV.row rfl rfl trivial)
    | true =>
      ((repeat ((conv => whnf); (first | (refine As.pre ?_; first | refine As.mk rfl ?_ | (refine As.mk ?_ ?_; · ((repeat' (refine andT ?_ ?_)) <;> (first | rfl | assumption | exact decide_eq_true (by omega) | exact decide_eq_true (by dsimp only; omega) | exact decide_eq_true (by simp; omega) | (simp; done))))) | (refine LetV.pre ?_; first | refine LetV.mk (t := 29) _ hlx ?_ | refine LetV.mk (.sc (.int _ _)) rfl ?_) | (refine LetI.pre ?_; first | refine LetI.wrap (by omega) (by omega) ?_) | (refine LetB.pre ?_; first | refine LetB.tt (by assumption) ?_ | refine LetB.dect (by omega) ?_) | (refine Gd.pre ?_; first | refine Gd.run rfl ?_) | (refine Br.pre ?_; first | refine Br.tt rfl ?_) | (refine Ck.pre ?_; first | refine Ck.drawn (by kernel_rfl) ?_ | refine Ck.mk rfl ?_)))); (try (conv => whnf)))
      refine LoopN.weak ?_ (next x.ref (by simp [gStep, h6, hr]))
      exact SW.mk id rfl rfl rfl ⟨.refl _, .refl _, .refl _, .refl _, .refl _, .refl _, .refl _, VLe2.int (by omega), trivial⟩ (haveV.row rfl rfl trivial)
  clear ih
  rw [List.drop_eq_nil_of_le (by omega), List.foldl_nil] at u2
  subst u2
  obtain ⟨gr, hgr3, hgr4, hq⟩ : ∃ gr : Int, (e.kind = 3 → gr = e.id) ∧ (e.kind ≠ 3 → gr = G) ∧ ∀ i, i < B.length → ((B.getD i s0 = ⟨e.id, 0, e.grade, false⟩ ∧ e.kind = 3 ∧ nn (i + 1) = nn i) ∨
     (nn i < A.length ∧ ¬ ((B.getD i s0).entry = e.id ∧ e.kind = 3) ∧ (B.getD i s0).entry = (A.getD (nn i) s0).entry ∧ (B.getD i s0 = A.getD (nn i) s0 ∨ (B.getD i s0).entry = gr) ∧ nn (i + 1) = nn i + 1)) := by
    by_cases h3 : e.kind = 3
    · refine ⟨e.id, fun _ => rfl, fun k => absurd h3 k, fun i hi => (hp i hi).imp_right fun h => ⟨h.1, h.2.1, h.2.2.1, .inl ?_, h.2.2.2.2⟩⟩
      exact h.2.2.2.1.elim id fun k => absurd h3 k.1
    · exact ⟨G, fun k => absurd k h3, fun _ => rfl, fun i hi => (hp i hi).imp_right fun h => ⟨h.1, h.2.1, h.2.2.1, h.2.2.2.1.imp_right And.right, h.2.2.2.2⟩⟩
  clear hp
  by_cases h3 : e.kind = 3
  · ((repeat ((conv => whnf); (first | (refine As.pre ?_; first | refine As.mk rfl ?_) | (refine LetV.pre ?_; first | refine LetV.mk (.sc (.int _ _)) rfl ?_) | (refine LetB.pre ?_; first | refine LetB.dect (by omega) ?_ | refine LetB.decf (by omega) ?_) | (refine Br.pre ?_; first | refine Br.tt rfl ?_ | refine Br.ff rfl ?_) | (refine Ck.pre ?_; first | refine Ck.mk rfl ?_)))); (try (conv => whnf)))
    refine LoopN.weak (s1 := oneJ A B e gr (0, 0)) (SW.mk id rfl rfl rfl ⟨.refl _, .refl _, .refl _, .refl _, VLe2.int (hgr3 h3), VLe2.int rfl, .refl _, trivial⟩ (haveV.row rfl rfl trivial)) ?_
    refine LoopN.ind T_ok mixed (S := oneJ A B e gr) (fun i => B.length - i.1) (fun i => i.1 ≤ B.length ∧ i.2 = nn i.1) (fun _ => rfl) (fun i hi ih => ?_) (0, 0) ⟨Nat.zero_le _, hn0.symm⟩
    obtain ⟨i, n⟩ := i
    obtain ⟨hi, hni⟩ := hi
    simp only at hi hni ih
    have hml2 : (A.map stA).length = A.length := List.length_map _
    have hmb2 : (B.map stA).length = B.length := List.length_map _
    by_cases hib : i < B.length
    case neg =>
      clear ih hq
      have hie : i = B.length := by omega
      have hfin : (((n : Nat) : Int) == ((A.map stA).length : Int)) = true := by rw [hni, hie, hn1, hml2]; simp
      ((repeat ((conv => whnf); (first | (refine As.pre ?_; first | refine As.mk rfl ?_) | (refine LetI.pre ?_; first | refine LetI.mk _ rfl ?_) | (refine LetB.pre ?_; first | refine LetB.tt (by assumption) ?_ | refine LetB.decf (by omega) ?_) | (refine Gd.pre ?_; first | refine Gd.run rfl ?_) | (refine Br.pre ?_; first | refine Br.ff rfl ?_) | (refine Ck.pre ?_; first | refine Ck.mk rfl ?_)))); (try (conv => whnf)))
      exact ⟨.inl rfl, ⟨_, rfl, rfl⟩, trivial⟩
    have hlb : stA (B.getD i s0) = (B.map stA).getD i (.sc undef) := mapD s0 hib
    have hq := hq i hib
    rw [← hni] at hq
    rcases hq with ⟨q1, q2, q3⟩ | ⟨q1, q2, q3, q4, q5⟩
    · rw [q1] at hlb
      have hlb : AV.agg [int e.id, int 0, int e.grade, bool false] = (B.map stA).getD i (.sc undef) := hlb
      have next := ih (i + 1, n) ⟨by omega, q3.symm⟩ (by show B.length - (i + 1) < B.length - i; omega)
      clear ih
      have he : (!stB ⟨e.id, 0, e.grade, false⟩ ⟨e.id, 0, e.grade, false⟩) = false := by rw [stB_self]; rfl
      ((repeat ((conv => whnf); (first | (refine As.pre ?_; first | refine As.mk rfl ?_ | (refine As.mk ?_ ?_; · ((repeat' (refine andT ?_ ?_)) <;> (first | rfl | assumption | exact decide_eq_true (by omega) | exact decide_eq_true (by dsimp only; omega) | exact decide_eq_true (by simp; omega) | (simp; done))))) | (refine LetV.pre ?_; first | refine LetV.mk (t := 34) _ hlb ?_ | refine LetV.mk (.sc (.int _ _)) rfl ?_ | refine LetV.mk (.agg _) rfl ?_) | (refine LetI.pre ?_; first | refine LetI.wrap (by omega) (by omega) ?_ | refine LetI.mk _ rfl ?_) | (refine LetB.pre ?_; first | refine LetB.ff (by assumption) ?_ | refine LetB.dect (by omega) ?_) | (refine Gd.pre ?_; first | refine Gd.run rfl ?_) | (refine Br.pre ?_; first | refine Br.tt rfl ?_ | refine Br.ff rfl ?_) | (refine Ck.pre ?_; first | refine Ck.drawn (by kernel_rfl) ?_ | refine Ck.mk rfl ?_)))); (try (conv => whnf)))
      refine LoopN.weak ?_ next
      exact SW.mk id rfl rfl rfl ⟨.refl _, .refl _, .refl _, .refl _, .refl _, .refl _, VLe2.int (by omega), trivial⟩ (haveV.row rfl rfl trivial)
    have hly : stA (A.getD n s0) = (A.map stA).getD n (.sc undef) := mapD s0 q1
    have next := ih (i + 1, n + 1) ⟨by omega, q5.symm⟩ (by show B.length - (i + 1) < B.length - i; omega)
    clear ih
    generalize B.getD i s0 = x at hlb q2 q3 q4
    generalize A.getD n s0 = y at hly q3 q4
    have hnn : n ≤ 100 := by omega
    have hxx : (!stB x y) = true → x.entry = gr := fun h => q4.elim (fun k => by rw [k, stB_self] at h; cases h) id
    clear q4 q5
    cases hb : (!stB x y) with
    | false =>
      clear hxx
      by_cases hxe : x.entry = e.id
      · exact absurd ⟨hxe, h3⟩ q2
      · ((repeat ((conv => whnf); (first | (refine As.pre ?_; first | refine As.mk rfl ?_ | (refine As.mk ?_ ?_; · ((repeat' (refine andT ?_ ?_)) <;> (first | rfl | assumption | exact decide_eq_true (by omega) | exact decide_eq_true (by dsimp only; omega) | exact decide_eq_true (by simp; omega) | (simp; done))))) | (refine LetV.pre ?_; first | refine LetV.mk (t := 34) _ hlb ?_ | refine LetV.mk (t := 34) _ hly ?_ | refine LetV.mk (.sc (.int _ _)) rfl ?_ | refine LetV.mk (.agg _) rfl ?_) | (refine LetI.pre ?_; first | refine LetI.wrap (by omega) (by omega) ?_ | refine LetI.mk _ rfl ?_) | (refine LetB.pre ?_; first | refine LetB.ff (by assumption) ?_ | refine LetB.dect (by omega) ?_ | refine LetB.decf (by omega) ?_ | refine LetB.bnef (by omega) ?_) | (refine Gd.pre ?_; first | refine Gd.run rfl ?_ | refine Gd.pass rfl ?_) | (refine Br.pre ?_; first | refine Br.tt rfl ?_ | refine Br.ff rfl ?_) | (refine Ck.pre ?_; first | refine Ck.drawn (by kernel_rfl) ?_ | refine Ck.mk rfl ?_)))); (try (conv => whnf)))


        refine LoopN.weak ?_ next
        exact SW.mk id rfl rfl rfl ⟨.refl _, .refl _, .refl _, .refl _, .refl _, VLe2.int (by omega), VLe2.int (by omega), trivial⟩ (haveV.row rfl rfl trivial)
    | true => exact absurd ⟨(hxx hb).trans (hgr3 h3), h3⟩ q2
  · ((repeat ((conv => whnf); (first | (refine As.pre ?_; first | refine As.mk rfl ?_) | (refine LetV.pre ?_; first | refine LetV.mk (.sc (.int _ _)) rfl ?_) | (refine LetB.pre ?_; first | refine LetB.decf (by omega) ?_) | (refine Br.pre ?_; first | refine Br.ff rfl ?_) | (refine Ck.pre ?_; first | refine Ck.mk rfl ?_)))); (try (conv => whnf)))
    refine LoopN.weak (s1 := oneJ A B e gr (0, 0)) (SW.mk id rfl rfl rfl ⟨.refl _, .refl _, .refl _, .refl _, VLe2.int (hgr4 h3), VLe2.int rfl, .refl _, trivial⟩ (haveV.row rfl rfl trivial)) ?_
    refine LoopN.ind T_ok mixed (S := oneJ A B e gr) (fun i => B.length - i.1) (fun i => i.1 ≤ B.length ∧ i.2 = nn i.1) (fun _ => rfl) (fun i hi ih => ?_) (0, 0) ⟨Nat.zero_le _, hn0.symm⟩
    obtain ⟨i, n⟩ := i
    obtain ⟨hi, hni⟩ := hi
    simp only at hi hni ih
    have hml2 : (A.map stA).length = A.length := List.length_map _
    have hmb2 : (B.map stA).length = B.length := List.length_map _
    by_cases hib : i < B.length
    case neg =>
      clear ih hq
      have hie : i = B.length := by omega
      have hfin : (((n : Nat) : Int) == ((A.map stA).length : Int)) = true := by rw [hni, hie, hn1, hml2]; simp
      ((repeat ((conv => whnf); (first | (refine As.pre ?_; first | refine As.mk rfl ?_) | (refine LetI.pre ?_; first | refine LetI.mk _ rfl ?_) | (refine LetB.pre ?_; first | refine LetB.tt (by assumption) ?_ | refine LetB.decf (by omega) ?_) | (refine Gd.pre ?_; first | refine Gd.run rfl ?_) | (refine Br.pre ?_; first | refine Br.ff rfl ?_) | (refine Ck.pre ?_; first | refine Ck.mk rfl ?_)))); (try (conv => whnf)))
      exact ⟨.inl rfl, ⟨_, rfl, rfl⟩, trivial⟩
    have hlb : stA (B.getD i s0) = (B.map stA).getD i (.sc undef) := mapD s0 hib
    have hq := hq i hib
    rw [← hni] at hq
    rcases hq with ⟨q1, q2, q3⟩ | ⟨q1, q2, q3, q4, q5⟩
    · exact absurd q2 h3
    have hly : stA (A.getD n s0) = (A.map stA).getD n (.sc undef) := mapD s0 q1
    have next := ih (i + 1, n + 1) ⟨by omega, q5.symm⟩ (by show B.length - (i + 1) < B.length - i; omega)
    clear ih
    generalize B.getD i s0 = x at hlb q2 q3 q4
    generalize A.getD n s0 = y at hly q3 q4
    have hnn : n ≤ 100 := by omega
    have hxx : (!stB x y) = true → x.entry = gr := fun h => q4.elim (fun k => by rw [k, stB_self] at h; cases h) id
    clear q4 q5
    cases hb : (!stB x y) with
    | false =>
      clear hxx
      by_cases hxe : x.entry = e.id
      · ((repeat ((conv => whnf); (first | (refine As.pre ?_; first | refine As.mk rfl ?_ | (refine As.mk ?_ ?_; · ((repeat' (refine andT ?_ ?_)) <;> (first | rfl | assumption | exact decide_eq_true (by omega) | exact decide_eq_true (by dsimp only; omega) | exact decide_eq_true (by simp; omega) | (simp; done))))) | (refine LetV.pre ?_; first | refine LetV.mk (t := 34) _ hlb ?_ | refine LetV.mk (t := 34) _ hly ?_ | refine LetV.mk (.sc (.int _ _)) rfl ?_ | refine LetV.mk (.agg _) rfl ?_) | (refine LetI.pre ?_; first | refine LetI.wrap (by omega) (by omega) ?_ | refine LetI.mk _ rfl ?_) | (refine LetB.pre ?_; first | refine LetB.ff (by assumption) ?_ | refine LetB.dect (by omega) ?_ | refine LetB.decf (by omega) ?_ | refine LetB.bnef (by omega) ?_) | (refine Gd.pre ?_; first | refine Gd.run rfl ?_ | refine Gd.pass rfl ?_) | (refine Br.pre ?_; first | refine Br.tt rfl ?_ | refine Br.ff rfl ?_) | (refine Ck.pre ?_; first | refine Ck.drawn (by kernel_rfl) ?_ | refine Ck.mk rfl ?_)))); (try (conv => whnf)))


        refine LoopN.weak ?_ next
        exact SW.mk id rfl rfl rfl ⟨.refl _, .refl _, .refl _, .refl _, .refl _, VLe2.int (by omega), VLe2.int (by omega), trivial⟩ (haveV.row rfl rfl trivial)
      · ((repeat ((conv => whnf); (first | (refine As.pre ?_; first | refine As.mk rfl ?_ | (refine As.mk ?_ ?_; · ((repeat' (refine andT ?_ ?_)) <;> (first | rfl | assumption | exact decide_eq_true (by omega) | exact decide_eq_true (by dsimp only; omega) | exact decide_eq_true (by simp; omega) | (simp; done))))) | (refine LetV.pre ?_; first | refine LetV.mk (t := 34) _ hlb ?_ | refine LetV.mk (t := 34) _ hly ?_ | refine LetV.mk (.sc (.int _ _)) rfl ?_ | refine LetV.mk (.agg _) rfl ?_) | (refine LetI.pre ?_; first | refine LetI.wrap (by omega) (by omega) ?_ | refine LetI.mk _ rfl ?_) | (refine LetB.pre ?_; first | refine LetB.ff (by assumption) ?_ | refine LetB.dect (by omega) ?_ | refine LetB.decf (by omega) ?_ | refine LetB.bnef (by omega) ?_) | (refine Gd.pre ?_; first | refine Gd.run rfl ?_ | refine Gd.pass rfl ?_) | (refine Br.pre ?_; first | refine Br.tt rfl ?_ | refine Br.ff rfl ?_) | (refine Ck.pre ?_; first | refine Ck.drawn (by kernel_rfl) ?_ | refine Ck.mk rfl ?_)))); (try (conv => whnf)))


        refine LoopN.weak ?_ next
        exact SW.mk id rfl rfl rfl ⟨.refl _, .refl _, .refl _, .refl _, .refl _, VLe2.int (by omega), VLe2.int (by omega), trivial⟩ (haveV.row rfl rfl trivial)
    | true =>
      have hxg := hxx hb
      clear hxx
      by_cases hxe : x.entry = e.id
      · ((repeat ((conv => whnf); (first | (refine As.pre ?_; first | refine As.mk rfl ?_ | (refine As.mk ?_ ?_; · ((repeat' (refine andT ?_ ?_)) <;> (first | rfl | assumption | exact decide_eq_true (by omega) | exact decide_eq_true (by dsimp only; omega) | exact decide_eq_true (by simp; omega) | (simp; done))))) | (refine LetV.pre ?_; first | refine LetV.mk (t := 34) _ hlb ?_ | refine LetV.mk (t := 34) _ hly ?_ | refine LetV.mk (.sc (.int _ _)) rfl ?_ | refine LetV.mk (.agg _) rfl ?_) | (refine LetI.pre ?_; first | refine LetI.wrap (by omega) (by omega) ?_ | refine LetI.mk _ rfl ?_) | (refine LetB.pre ?_; first | refine LetB.tt (by assumption) ?_ | refine LetB.dect (by omega) ?_ | refine LetB.decf (by omega) ?_ | refine LetB.bnef (by omega) ?_) | (refine Gd.pre ?_; first | refine Gd.run rfl ?_) | (refine Br.pre ?_; first | refine Br.tt rfl ?_ | refine Br.ff rfl ?_) | (refine Ck.pre ?_; first | refine Ck.drawn (by kernel_rfl) ?_ | refine Ck.mk rfl ?_)))); (try (conv => whnf)))


        refine LoopN.weak ?_ next
        exact SW.mk id rfl rfl rfl ⟨.refl _, .refl _, .refl _, .refl _, .refl _, VLe2.int (by omega), VLe2.int (by omega), trivial⟩ (haveV.row rfl rfl trivial)
      · ((repeat ((conv => whnf); (first | (refine As.pre ?_; first | refine As.mk rfl ?_ | (refine As.mk ?_ ?_; · ((repeat' (refine andT ?_ ?_)) <;> (first | rfl | assumption | exact decide_eq_true (by omega) | exact decide_eq_true (by dsimp only; omega) | exact decide_eq_true (by simp; omega) | (simp; done))))) | (refine LetV.pre ?_; first | refine LetV.mk (t := 34) _ hlb ?_ | refine LetV.mk (t := 34) _ hly ?_ | refine LetV.mk (.sc (.int _ _)) rfl ?_ | refine LetV.mk (.agg _) rfl ?_) | (refine LetI.pre ?_; first | refine LetI.wrap (by omega) (by omega) ?_ | refine LetI.mk _ rfl ?_) | (refine LetB.pre ?_; first | refine LetB.tt (by assumption) ?_ | refine LetB.dect (by omega) ?_ | refine LetB.decf (by omega) ?_ | refine LetB.bnef (by omega) ?_) | (refine Gd.pre ?_; first | refine Gd.run rfl ?_ | refine Gd.pass rfl ?_) | (refine Br.pre ?_; first | refine Br.tt rfl ?_ | refine Br.ff rfl ?_) | (refine Ck.pre ?_; first | refine Ck.drawn (by kernel_rfl) ?_ | refine Ck.mk rfl ?_)))); (try (conv => whnf)))


        refine LoopN.weak ?_ next
        exact SW.mk id rfl rfl rfl ⟨.refl _, .refl _, .refl _, .refl _, .refl _, VLe2.int (by omega), VLe2.int (by omega), trivial⟩ (haveV.row rfl rfl trivial)
theorem fone_row (x : List (List Int) × Int × Int × Int) (hxs : ∀ l ∈ x.1, l.length ≤ 9223372036854775807) (last : Int) (hla : 0 ≤ last ∧ last ≤ 255) (w : Int × Int) (hw1 : 0 ≤ w.1 ∧ w.1 ≤ 65535) (hw2 : 0 ≤ w.2 ∧ w.2 ≤ 65535) :
    AFun Try.prog 3 0 [.agg [.ro {} 1 (x.1.map fun l => .ro {} 1 (l.map int)), int x.2.1, int x.2.2.1, int x.2.2.2], u8' last, .agg [u16 w.1, u16 w.2]] [] (bool true) [] := by
  have h := fone (x.1.map fun l => (({} : Fl), l)) {} x.2 (fun y hy => by
    obtain ⟨l, hl, rfl⟩ := List.mem_map.1 hy
    exact hxs l hl) last hla w hw1 hw2
  rw [List.map_map] at h
  exact h
end En
end Go.Proofs.Ytjnohedknlibmaa
