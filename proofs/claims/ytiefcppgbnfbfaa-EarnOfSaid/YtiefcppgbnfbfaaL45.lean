/- earn: parts of the proof, DearnHT DearnJI DearnJJ DearnLI. -/
import Derived.Test.YtiefcppgbnfbfaaL44
import Derived.Test.YtiefcppgbnfbfaaL41
import Derived.Test.YtiefcppgbnfbfaaL43
set_option linter.all false
namespace Go.Proofs.Ytiefcppgbnfbfaa
open Go.Proofs.Ytiefcppgbnfbfaa.Am
set_option maxRecDepth 100000
namespace En
/-! ### EarnFree -/
theorem cmn_iff (xs ys : List Int) : cmn xs ys = true ↔ ∃ x, x ∈ xs ∧ x ∈ ys := by
  unfold cmn hasI
  simp
theorem cmn_symm (xs ys : List Int) : cmn xs ys = cmn ys xs := by
  rw [Bool.eq_iff_iff, cmn_iff, cmn_iff]
  exact ⟨fun ⟨x, a, b⟩ => ⟨x, b, a⟩, fun ⟨x, a, b⟩ => ⟨x, b, a⟩⟩
theorem apP_iff (a b : Ac) : apP a b = true ↔ ¬(a.school = b.school ∧ a.code = b.code) ∧ ((0 < a.bundle ∧ a.bundle = b.bundle ∧ a.path = b.path) ∨ cmn a.src b.src = false) := by
  unfold apP
  simp only [Bool.and_eq_true, Bool.or_eq_true, Bool.not_eq_true', Bool.and_eq_false_iff, decide_eq_true_eq, decide_eq_false_iff_not, and_assoc, Decidable.not_and_iff_not_or_not]
theorem apP_symm (a b : Ac) : apP a b = apP b a := by
  rw [Bool.eq_iff_iff, apP_iff, apP_iff, cmn_symm a.src]
  refine and_congr (not_congr ⟨fun h => ⟨h.1.symm, h.2.symm⟩, fun h => ⟨h.1.symm, h.2.symm⟩⟩) (or_congr_left ⟨fun h => ⟨h.2.1 ▸ h.1, h.2.1.symm, h.2.2.symm⟩, fun h => ⟨h.2.1 ▸ h.1, h.2.1.symm, h.2.2.symm⟩⟩)
theorem apP_self (a : Ac) : apP a a = false := by
  rw [← Bool.not_eq_true, apP_iff]
  exact fun h => h.1 ⟨rfl, rfl⟩
/-- Two numbers of two achievements do not clash. -/
def oneQ (a b : Ac) (x y : Int) : Bool := decide (x ≠ y) || (decide (0 < a.bundle) && decide (a.bundle = b.bundle))
def srcQ (a b : Ac) : Bool := a.src.all fun x => b.src.all (oneQ a b x)
def pairF (a b : Ac) : Bool := srcQ a b && !(decide (a.school = b.school) && decide (a.code = b.code))
theorem okC_path {a b : Ac} (ha : okC a) (hb : okC b) (h0 : 0 < a.bundle) (h : a.bundle = b.bundle) : a.path = b.path := by
  rcases ha.1 with ⟨h1, _⟩ | ⟨_, h1⟩
  · omega
  · rcases hb.1 with ⟨h2, _⟩ | ⟨_, h2⟩
    · omega
    · rw [h1, h2, h]
theorem pairF_eq {a b : Ac} (ha : okC a) (hb : okC b) : pairF a b = apP b a := by
  rw [apP_symm b a, Bool.eq_iff_iff, apP_iff]
  unfold pairF srcQ oneQ
  simp only [Bool.and_eq_true, Bool.or_eq_true, Bool.not_eq_true', Bool.and_eq_false_iff, decide_eq_true_eq, decide_eq_false_iff_not, List.all_eq_true]
  constructor
  · rintro ⟨h1, h2⟩
    refine ⟨fun h => h2.elim (fun k => k h.1) fun k => k h.2, ?_⟩
    by_cases hq : 0 < a.bundle ∧ a.bundle = b.bundle
    · exact .inl ⟨hq.1, hq.2, okC_path ha hb hq.1 hq.2⟩
    · refine .inr ?_
      rw [← Bool.not_eq_true, cmn_iff]
      rintro ⟨x, hx, hy⟩
      rcases h1 x hx x hy with h | h
      · exact h rfl
      · exact hq h
  · rintro ⟨h1, h2⟩
    refine ⟨fun x hx y hy => ?_, by by_cases h : a.school = b.school; exact .inr fun k => h1 ⟨h, k⟩; exact .inl h⟩
    rcases h2 with h | h
    · exact .inr ⟨h.1, h.2.1⟩
    · refine .inl fun e => ?_
      subst e
      rw [← Bool.not_eq_true, cmn_iff] at h
      exact h ⟨x, hx, hy⟩
/-- Whether a list is free, as the law reckons it. -/
abbrev rowF (all : List Ac) (k : Nat) : Bool := (all.take k).all (pairF (all.getD k ac0))
theorem free_all {all : List Ac} (h : ∀ a ∈ all, okC a) : (List.range all.length).all (rowF all) = frP all := by
  rw [← free_eq, frR]
  rw [Bool.eq_iff_iff, List.all_eq_true, List.all_eq_true]
  refine forall_congr' fun k => imp_congr_right fun hk => ?_
  have hk : k < all.length := by simpa using hk
  rw [List.all_eq_true, List.all_eq_true]
  refine forall_congr' fun b => imp_congr_right fun hb => ?_
  rw [pairF_eq (h _ (getD_mem hk)) (h _ (List.mem_of_mem_take hb))]
theorem free_sub {all part : List Ac} (h : part.Sublist all) (hf : frP all = true) : frP part = true := by
  rw [frP_iff] at hf ⊢
  exact hf.sublist h
abbrev u8 (v : Int) : AV := .sc (.int .u8 v)
abbrev frO (o : Int) (all : List Ac) : Nat × List Ac × Bool → AS
  | (k, part, f) => ⟨[(1, u8 o), (5, bool true), (6, .slm {} 0 8 0 all.length), (7, .slm {} 1 8 0 part.length), (8, bool f), (20, .slm {} 0 8 0 all.length), (21, int all.length), (22, int k)], [(0, .row 8 aty (all.map acA)), (1, .row 8 aty (part.map acA))], 2⟩
abbrev frC (o : Int) (all : List Ac) (k : Nat) (a : Ac) (f : Bool) (part : List Ac) : AS :=
  ⟨[(1, u8 o), (5, bool true), (6, .slm {} 0 8 0 all.length), (7, .slm {} 1 8 0 part.length), (8, bool f), (9, int k), (10, .ptr 2 8 0 0), (20, .slm {} 0 8 0 all.length), (21, int all.length), (22, int k)], [(0, .row 8 aty (all.map acA)), (1, .row 8 aty (part.map acA)), (2, .row 8 aty [acA a])], 3⟩
abbrev frI (o : Int) (all part : List Ac) (k : Nat) (a : Ac) : Nat × Bool → AS
  | (i, f) => ⟨[(1, u8 o), (5, bool true), (6, .slm {} 0 8 0 all.length), (7, .slm {} 1 8 0 part.length), (8, bool f), (10, .ptr 2 8 0 0), (20, .slm {} 0 8 0 all.length), (21, int all.length), (22, int k), (41, .slm {} 0 8 0 k), (42, int k), (43, int i)], [(0, .row 8 aty (all.map acA)), (1, .row 8 aty (part.map acA)), (2, .row 8 aty [acA a])], 3⟩
abbrev frE (o : Int) (all part : List Ac) (k : Nat) (a : Ac) (i : Nat) (b : Ac) (f : Bool) : AS :=
  ⟨[(1, u8 o), (5, bool true), (6, .slm {} 0 8 0 all.length), (7, .slm {} 1 8 0 part.length), (8, bool f), (10, .ptr 2 8 0 0), (12, .ptr 3 8 0 0), (20, .slm {} 0 8 0 all.length), (21, int all.length), (22, int k), (41, .slm {} 0 8 0 k), (42, int k), (43, int i)], [(0, .row 8 aty (all.map acA)), (1, .row 8 aty (part.map acA)), (2, .row 8 aty [acA a]), (3, .row 8 aty [acA b])], 4⟩
abbrev frX (o : Int) (all part : List Ac) (k : Nat) (a : Ac) (i : Nat) (b : Ac) : Nat × Bool → AS
  | (x, f) => ⟨[(1, u8 o), (5, bool true), (6, .slm {} 0 8 0 all.length), (7, .slm {} 1 8 0 part.length), (8, bool f), (10, .ptr 2 8 0 0), (12, .ptr 3 8 0 0), (20, .slm {} 0 8 0 all.length), (21, int all.length), (22, int k), (41, .slm {} 0 8 0 k), (42, int k), (43, int i), (55, ro1 {} a.src), (56, int a.src.length), (57, int x)], [(0, .row 8 aty (all.map acA)), (1, .row 8 aty (part.map acA)), (2, .row 8 aty [acA a]), (3, .row 8 aty [acA b])], 4⟩
abbrev frY (o : Int) (all part : List Ac) (k : Nat) (a : Ac) (i : Nat) (b : Ac) (x : Nat) (xv : Int) : Nat × Bool → AS
  | (y, f) => ⟨[(1, u8 o), (5, bool true), (6, .slm {} 0 8 0 all.length), (7, .slm {} 1 8 0 part.length), (8, bool f), (10, .ptr 2 8 0 0), (12, .ptr 3 8 0 0), (14, int xv), (20, .slm {} 0 8 0 all.length), (21, int all.length), (22, int k), (41, .slm {} 0 8 0 k), (42, int k), (43, int i), (55, ro1 {} a.src), (56, int a.src.length), (57, int x), (62, ro1 {} b.src), (63, int b.src.length), (64, int y)], [(0, .row 8 aty (all.map acA)), (1, .row 8 aty (part.map acA)), (2, .row 8 aty [acA a]), (3, .row 8 aty [acA b])], 4⟩
theorem acs_names2 (all part : List Ac) (ok : Nat → Bool) (H : AH) (h : namesAll ok H = true) : namesAll ok ((0, .row 8 aty (all.map acA)) :: (1, .row 8 aty (part.map acA)) :: H) = true := namesAll.row (pure_ac _) (namesAll.row (pure_ac _) h)
theorem sub_next {all part : List Ac} {k : Nat} (hk : k < all.length) (h : part.Sublist (all.take k)) : part.Sublist (all.take (k + 1)) ∧ (part ++ [all.getD k ac0]).Sublist (all.take (k + 1)) := by
  rw [List.take_succ_eq_append_getElem hk]
  refine ⟨h.trans (List.sublist_append_left _ _), ?_⟩
  rw [List.getD_eq_getElem?_getD, List.getElem?_eq_getElem hk]
  exact h.append (List.Sublist.refl _)
set_option maxHeartbeats 1600000 in
set_option maxRecDepth 100000 in
theorem efree (L : List (Fl × List Int)) (fl : Fl) (hL : L.length ≤ 9223372036854775807) (hxs : ∀ x ∈ L, x.2.length ≤ 9223372036854775807) (o : Int) (ho : 0 ≤ o ∧ o ≤ 255) : AFun Try.prog 4 0 [.ro fl 1 (L.map iA), u8 o] [] (bool true) [] := by
  obtain ⟨all, ⟨hm1, hm2⟩, hM⟩ := Made_c L fl hL hxs
  refine AFun.of_W T_ok mixed Try.func4 rfl (Nat.le_of_ble_eq_true rfl) rfl ?_
  have hall : ∀ a ∈ all, okA a := fun a ha => by
    obtain ⟨h1, h2⟩ := hm2 a ha
    refine ⟨by omega, ?_⟩
    rcases h1 with ⟨_, h⟩ | ⟨_, h⟩ <;> rw [h] <;> simp
  have hma : (all.map acA).length = all.length := List.length_map _
  have hfin := free_all hm2
  ((repeat ((conv => whnf); (first | (refine LetN.pre ?_; first | ((conv => arg 1; whnf); refine LetN.mk ?_)) | (refine As.pre ?_; first | refine As.mk rfl ?_) | (refine LetI.pre ?_; first | refine LetI.mk _ rfl ?_) | (refine Ck.pre ?_; first | refine Ck.mk rfl ?_) | (refine LetL.pre ?_; first | refine LetL.mk (ty := aty) _ (renL_none (pure_ac _)).symm ?_) | (refine CallN.pre ?_; first | refine CallN.pure sanity_f rfl rfl ?_ | refine CallN.own (fun _ => 0) hM (CallOk.mk' rfl rfl rfl rfl rfl (namesAll.row (pure_ac _) rfl) trivial) ?_)))); (try (conv => whnf)))



  refine LoopN.weak (s1 := frO o all (0, [], true)) ?sw1 ?_
  case sw1 => exact SW.mk id rfl rfl (acs_names2 _ _ _ _ rfl) ⟨.refl _, .refl _, .refl _, VLe2.nilslm, .refl _, .refl _, .refl _, .refl _, trivial⟩ (haveV.row (pure_ac _) rfl (haveV.nil (Nat.le_of_ble_eq_true rfl) trivial))
  clear hM hm2
  obtain ⟨R, hR⟩ : ∃ R, R = frP all := ⟨_, rfl⟩
  rw [← hR] at hfin
  refine LoopN.indS (S := frO o all) (fun i => all.length - i.1) (fun i => i.1 ≤ all.length ∧ i.2.1.Sublist (all.take i.1) ∧ R = (i.2.2 && ((List.range all.length).drop i.1).all (rowF all))) (fun i hi ih => ?_) (0, [], true) ⟨Nat.zero_le _, List.nil_sublist _, hfin.symm⟩
  obtain ⟨k, part, f⟩ := i
  obtain ⟨g1, g2, g3⟩ := hi
  simp only at g1 g2 g3 ih
  have hpl : part.length ≤ 8 := by
    have := g2.length_le
    rw [List.length_take] at this
    omega
  have hmp : (part.map acA).length = part.length := List.length_map _
  by_cases hlt : k < all.length
  case neg =>
    clear ih
    rw [List.drop_eq_nil_of_le (by simp; omega), List.all_nil, Bool.and_true] at g3
    rw [List.take_of_length_le (by omega)] at g2
    have f1 := Free_f all {} (by omega) hall
    have f2 := Free_f part {} (by omega) (fun b hb => hall b (g2.subset hb))
    rw [← hR, g3] at f1
    refine VS.of_V T_ok mixed rfl ?_
    cases f with
    | true =>
      rw [free_sub g2 (by rw [← hR, g3])] at f2
      ((repeat ((conv => whnf); (first | (refine As.pre ?_; first | refine As.mk rfl ?_) | (refine LetB.pre ?_; first | refine LetB.tt rfl ?_ | refine LetB.decf (by omega) ?_) | (refine Gd.pre ?_; first | refine Gd.run rfl ?_) | (refine Br.pre ?_; first | refine Br.ff rfl ?_) | (refine Ck.pre ?_; first | refine Ck.mk rfl ?_) | (refine CallN.pre ?_; first | refine CallN.lend f1 rfl (.full rfl (pure_ac _) hma.symm .nil) ?_ | refine CallN.lend f2 rfl (.full rfl (pure_ac _) hmp.symm .nil) ?_)))); (try (conv => whnf)))


      exact ⟨.inl rfl, ⟨_, rfl, rfl⟩, trivial⟩
    | false =>
      ((repeat ((conv => whnf); (first | (refine As.pre ?_; first | refine As.mk rfl ?_) | (refine LetB.pre ?_; first | refine LetB.tt rfl ?_ | refine LetB.decf (by omega) ?_) | (refine Gd.pre ?_; first | refine Gd.run rfl ?_ | refine Gd.pass rfl ?_) | (refine Br.pre ?_; first | refine Br.ff rfl ?_) | (refine Ck.pre ?_; first | refine Ck.mk rfl ?_) | (refine CallN.pre ?_; first | refine CallN.lend f1 rfl (.full rfl (pure_ac _) hma.symm .nil) ?_)))); (try (conv => whnf)))

      exact ⟨.inl rfl, ⟨_, rfl, rfl⟩, trivial⟩
  have hld := row_ac hlt
  have ha := hall _ (getD_mem hlt)
  obtain ⟨g4, g5⟩ := sub_next hlt g2
  rw [all_rdrop _ hlt] at g3
  have hrow : rowF all k = ((all.take k).drop 0).all (pairF (all.getD k ac0)) := rfl
  generalize rowF all k = Z at g3 hrow
  generalize all.getD k ac0 = a at hld ha g5 hrow
  have hself := Apart_f a a ha ha
  rw [apP_self] at hself
  have hr := room_ach (n := part.length + 1) (by omega)
  have happ := app_ac part a part.length rfl
  have hpl1 : (part ++ [a]).length = part.length + 1 := by simp
  refine VS.cut T_ok mixed rfl ?_
  ((repeat ((conv => whnf); (first | (refine As.pre ?_; first | refine As.mk rfl ?_) | (refine LetB.pre ?_; first | refine LetB.dect (by omega) ?_) | (refine Ck.pre ?_; first | refine Ck.mk rfl ?_)))); (try (conv => whnf)))
  refine VS.cut T_ok mixed rfl ?_
  ((repeat ((conv => whnf); (first | (refine Br.pre ?_; first | refine Br.tt rfl ?_) | (refine Ck.pre ?_; first | refine Ck.mk rfl ?_)))); (try (conv => whnf)))
  refine VS.seq (VS.block ?_)
  refine VS.cut T_ok mixed rfl ?_
  ((repeat ((conv => whnf); (first | (refine LetN.pre ?_; first | ((conv => arg 1; whnf); refine LetN.mk ?_)) | (refine As.pre ?_; first | refine As.mk rfl ?_ | (refine As.mk ?_ ?_; · ((repeat' (refine andT ?_ ?_)) <;> (first | rfl | assumption | exact decide_eq_true (by omega) | exact decide_eq_true (by dsimp only; omega) | exact decide_eq_true (by simp; omega) | (simp; done))))) | (refine LetV.pre ?_; first | refine LetV.mk (t := aty) _ hld ?_) | (refine Ck.pre ?_; first | refine Ck.mk rfl ?_) | (refine LetL.pre ?_; first | refine LetL.mk [_] rfl ?_)))); (try (conv => whnf)))
  refine VS.join (frC o all k a f) (fun part' => part'.Sublist (all.take (k + 1)) ∧ part'.length ≤ 9) ?_ ?_
  · refine VS.cut T_ok mixed rfl ?_
    ((repeat ((conv => whnf); (first | (refine As.pre ?_; first | refine As.mk rfl ?_) | (refine LetI.pre ?_; first | refine LetI.mk _ rfl ?_) | (refine LetB.pre ?_; first | refine LetB.mk _ rfl ?_) | (refine Ck.pre ?_; first | refine Ck.mk rfl ?_)))); (try (conv => whnf)))
    refine VS.condB rfl rfl (fun _ => ?_) (fun _ => ?_)
    · refine VS.of_V T_ok mixed rfl ?_
      ((repeat ((conv => whnf); (first | (refine LetN.pre ?_; first | ((conv => arg 1; whnf); refine LetN.mk ?_)) | (refine As.pre ?_; first | refine As.mk rfl ?_ | (refine As.mk ?_ ?_; · ((repeat' (refine andT ?_ ?_)) <;> (first | rfl | assumption | exact decide_eq_true (by omega) | exact decide_eq_true (by dsimp only; omega) | exact decide_eq_true (by simp; omega) | (simp; done))))) | (refine LetV.pre ?_; first | refine LetV.mk (.agg _) rfl ?_) | (refine Ck.pre ?_; first | refine Ck.mk rfl ?_) | (refine LetL.pre ?_; first | refine LetL.mk (ty := aty) _ happ ?_)))); (try (conv => whnf)))
      refine ⟨part ++ [a], ⟨g5, by omega⟩, ?_⟩
      exact SW.mk (fun i => if i = 1 then 3 else i) rfl rfl (acs_names2 _ _ _ _ rfl) ⟨.refl _, .refl _, .refl _, VLe2.slm_of hpl1, .refl _, .refl _, .refl _, .refl _, .refl _, .refl _, trivial⟩ (haveV.row (pure_ac _) rfl (haveV.row (pure_ac _) rfl (haveV.row rfl rfl trivial)))
    · refine VS.skip ⟨part, ⟨g4, by omega⟩, ?_⟩
      exact SW.mk id rfl rfl (acs_names2 _ _ _ _ rfl) ⟨.refl _, .refl _, .refl _, .refl _, .refl _, .refl _, .refl _, .refl _, .refl _, .refl _, trivial⟩ (haveV.row (pure_ac _) rfl (haveV.row (pure_ac _) rfl (haveV.row rfl rfl trivial)))
  clear g2 g4 g5 happ hpl1 hmp hr hpl hld part
  intro part hpart
  obtain ⟨hp1, hp2⟩ := hpart
  obtain ⟨R2, hR2⟩ : ∃ R2, R2 = (f && Z) := ⟨_, rfl⟩
  rw [← Bool.and_assoc, ← hR2] at g3
  rw [hrow] at hR2
  refine VS.seq ?_
  refine VS.cut T_ok mixed rfl ?_
  ((repeat ((conv => whnf); (first | (refine As.pre ?_; first | refine As.mk rfl ?_) | (refine LetV.pre ?_; first | refine LetV.mk (.agg _) rfl ?_) | (refine Ck.pre ?_; first | refine Ck.mk rfl ?_) | (refine CallN.pre ?_; first | refine CallN.pure hself rfl rfl ?_)))); (try (conv => whnf)))
  refine VS.condF rfl rfl (VS.skip ?_)
  refine VS.cut T_ok mixed rfl ?_
  ((repeat ((conv => whnf); (first | (refine As.pre ?_; first | refine As.mk rfl ?_ | (refine As.mk ?_ ?_; · ((repeat' (refine andT ?_ ?_)) <;> (first | rfl | assumption | exact decide_eq_true (by omega) | exact decide_eq_true (by dsimp only; omega) | exact decide_eq_true (by simp; omega) | (simp; done))))) | (refine LetV.pre ?_; first | refine LetV.mk (.slm _ _ _ _ _) rfl ?_) | (refine LetI.pre ?_; first | refine LetI.mk _ rfl ?_) | (refine Ck.pre ?_; first | refine Ck.mk rfl ?_)))); (try (conv => whnf)))
  refine VS.endN (fun f => frO o all (k, part, f)) (fun f => f = R2) ?_ ?_
  case refine_2 =>
    intro f' s1 hf hw
    subst hf
    refine VS.weak hw ?_
    refine VS.of_V T_ok mixed rfl ?_
    ((repeat ((conv => whnf); (first | (refine As.pre ?_; first | refine As.mk rfl ?_) | (refine LetI.pre ?_; first | refine LetI.wrap (by omega) (by omega) ?_) | (refine Ck.pre ?_; first | refine Ck.mk rfl ?_)))); (try (conv => whnf)))
    refine LoopN.weak ?sw3 (ih (k + 1, part, f') ⟨by omega, hp1, g3⟩ (by show all.length - (k + 1) < all.length - k; omega))
    case sw3 => exact SW.mk id rfl rfl (acs_names2 _ _ _ _ rfl) ⟨.refl _, .refl _, .refl _, .refl _, .refl _, .refl _, .refl _, VLe2.int (by omega), trivial⟩ (haveV.row (pure_ac _) rfl (haveV.row (pure_ac _) rfl trivial))
  clear ih g3 hself hp1
  refine VS.block (VS.loop ?_)
  refine LoopN.weak (s1 := frI o all part k a (0, f)) ?sw2 ?_
  case sw2 => exact SW.mk id rfl rfl (acs_names2 _ _ _ _ rfl) ⟨.refl _, .refl _, .refl _, .refl _, .refl _, .refl _, .refl _, .refl _, .refl _, VLe2.slm_of (by simp), VLe2.int (by simp), .refl _, trivial⟩ (haveV.row (pure_ac _) rfl (haveV.row (pure_ac _) rfl (haveV.row rfl rfl trivial)))
  refine LoopN.indS (S := frI o all part k a) (fun i => k - i.1) (fun i => i.1 ≤ k ∧ R2 = (i.2 && ((all.take k).drop i.1).all (pairF a))) (fun i hi ihI => ?_) (0, f) ⟨Nat.zero_le _, hR2⟩
  clear hR2 hrow f Z
  obtain ⟨i, f⟩ := i
  obtain ⟨u1, u2⟩ := hi
  simp only at u1 u2
  have hlk : (all.take k).length = k := by rw [List.length_take]; omega
  by_cases hli : i < k
  case neg =>
    clear ihI
    rw [List.drop_eq_nil_of_le (by omega), List.all_nil, Bool.and_true] at u2
    refine VS.of_V T_ok mixed rfl ?_
    ((repeat ((conv => whnf); (first | (refine As.pre ?_; first | refine As.mk rfl ?_) | (refine LetB.pre ?_; first | refine LetB.decf (by omega) ?_) | (refine Br.pre ?_; first | refine Br.ff rfl ?_) | (refine Ck.pre ?_; first | refine Ck.mk rfl ?_)))); (try (conv => whnf)))
    exact ⟨rfl, f, u2.symm, SW.mk id rfl rfl (acs_names2 _ _ _ _ rfl) ⟨.refl _, .refl _, .refl _, .refl _, .refl _, .refl _, .refl _, .refl _, trivial⟩ (haveV.row (pure_ac _) rfl (haveV.row (pure_ac _) rfl trivial))⟩
  have hld := row_ac (show i < all.length by omega)
  have hb := hall _ (getD_mem (show i < all.length by omega))
  have hgt : (all.take k).getD i ac0 = all.getD i ac0 := by
    rw [List.getD_eq_getElem?_getD, List.getD_eq_getElem?_getD, List.getElem?_take_of_lt hli]
  rw [all_drop _ (by omega) ac0, hgt] at u2
  generalize all.getD i ac0 = b at hld hb u2
  have hA1 := Apart_f a b ha hb
  have hA2 := Apart_f b a hb ha
  rw [apP_symm b a] at hA2
  generalize apP a b = m at hA1 hA2
  have hmx : (a.src.map int).length = a.src.length := List.length_map _
  have hmy : (b.src.map int).length = b.src.length := List.length_map _
  have hpf : pairF a b = (srcQ a b && !(decide (a.school = b.school) && decide (a.code = b.code))) := rfl
  obtain ⟨R3, hR3⟩ : ∃ R3, R3 = (f && srcQ a b) := ⟨_, rfl⟩
  rw [hpf, ← Bool.and_assoc, ← Bool.and_assoc, ← hR3] at u2
  clear hpf
  refine VS.cut T_ok mixed rfl ?_
  ((repeat ((conv => whnf); (first | (refine As.pre ?_; first | refine As.mk rfl ?_) | (refine LetB.pre ?_; first | refine LetB.dect (by omega) ?_) | (refine Ck.pre ?_; first | refine Ck.mk rfl ?_)))); (try (conv => whnf)))
  refine VS.cut T_ok mixed rfl ?_
  ((repeat ((conv => whnf); (first | (refine Br.pre ?_; first | refine Br.tt rfl ?_) | (refine Ck.pre ?_; first | refine Ck.mk rfl ?_)))); (try (conv => whnf)))
  refine VS.seq (VS.block ?_)
  refine VS.cut T_ok mixed rfl ?_
  ((repeat ((conv => whnf); (first | (refine LetN.pre ?_; first | ((conv => arg 1; whnf); refine LetN.mk ?_)) | (refine As.pre ?_; first | refine As.mk rfl ?_ | (refine As.mk ?_ ?_; · ((repeat' (refine andT ?_ ?_)) <;> (first | rfl | assumption | exact decide_eq_true (by omega) | exact decide_eq_true (by dsimp only; omega) | exact decide_eq_true (by simp; omega) | (simp; done))))) | (refine LetV.pre ?_; first | refine LetV.mk (t := aty) _ hld ?_) | (refine Ck.pre ?_; first | refine Ck.mk rfl ?_) | (refine LetL.pre ?_; first | refine LetL.mk [_] rfl ?_)))); (try (conv => whnf)))
  refine VS.seq ?_
  refine VS.cut T_ok mixed rfl ?_
  ((repeat ((conv => whnf); (first | (refine As.pre ?_; first | refine As.mk rfl ?_) | (refine LetV.pre ?_; first | refine LetV.mk (.agg _) rfl ?_) | (refine LetB.pre ?_; first | refine LetB.ff (nself _) ?_) | (refine Ck.pre ?_; first | refine Ck.drawn (by kernel_rfl) ?_ | refine Ck.mk rfl ?_) | (refine CallN.pre ?_; first | refine CallN.pure hA1 rfl rfl ?_ | refine CallN.pure hA2 rfl rfl ?_)))); (try (conv => whnf)))



  refine VS.condF rfl rfl (VS.skip ?_)
  refine VS.joinN (fun f => frE o all part k a i b f) (fun f => f = R3) ?_ ?_
  case refine_2 =>
    intro f' hf
    subst hf
    have hc := toL_eq a.code b.code
    have hce : (a.school == b.school && (a.code.toList == b.code.toList && true)) = (decide (a.school = b.school) && decide (a.code = b.code)) := by
      rw [hc, Bool.and_true]; rfl
    obtain ⟨C, hC⟩ : ∃ C, C = (decide (a.school = b.school) && decide (a.code = b.code)) := ⟨_, rfl⟩
    rw [← hC] at u2 hce
    clear hC hR3 hA1 hA2 hld
    have hnx := ihI (i + 1, f' && !C) ⟨by omega, u2⟩ (by show k - (i + 1) < k - i; omega)
    clear ihI u2
    refine VS.of_V T_ok mixed rfl ?_
    cases f' with
    | false =>
      ((repeat ((conv => whnf); (first | (refine As.pre ?_; first | refine As.mk rfl ?_) | (refine Gd.pre ?_; first | refine Gd.pass rfl ?_) | (refine Ck.pre ?_; first | refine Ck.mk rfl ?_)))); (try (conv => whnf)))
      refine VS.of_V T_ok mixed rfl ?_
      ((repeat ((conv => whnf); (first | (refine As.pre ?_; first | refine As.mk rfl ?_) | (refine LetI.pre ?_; first | refine LetI.wrap (by omega) (by omega) ?_) | (refine Ck.pre ?_; first | refine Ck.mk rfl ?_)))); (try (conv => whnf)))
      refine LoopN.weak ?sw5 hnx
      case sw5 => exact SW.mk id rfl rfl (acs_names2 _ _ _ _ rfl) ⟨.refl _, .refl _, .refl _, .refl _, .refl _, .refl _, .refl _, .refl _, .refl _, .refl _, .refl _, VLe2.int (by omega), trivial⟩ (haveV.row (pure_ac _) rfl (haveV.row (pure_ac _) rfl (haveV.row rfl rfl trivial)))
    | true =>
      cases C with
      | true =>
        have hce2 : (!(a.school == b.school && (a.code.toList == b.code.toList && true))) = false := by rw [hce]; rfl
        ((repeat ((conv => whnf); (first | (refine As.pre ?_; first | refine As.mk rfl ?_) | (refine LetV.pre ?_; first | refine LetV.mk (.agg _) rfl ?_) | (refine LetB.pre ?_; first | refine LetB.ff (by assumption) ?_) | (refine Gd.pre ?_; first | refine Gd.run rfl ?_) | (refine Ck.pre ?_; first | refine Ck.mk rfl ?_)))); (try (conv => whnf)))
        refine VS.of_V T_ok mixed rfl ?_
        ((repeat ((conv => whnf); (first | (refine As.pre ?_; first | refine As.mk rfl ?_) | (refine LetI.pre ?_; first | refine LetI.wrap (by omega) (by omega) ?_) | (refine Ck.pre ?_; first | refine Ck.mk rfl ?_)))); (try (conv => whnf)))
        refine LoopN.weak ?sw6 hnx
        case sw6 => exact SW.mk id rfl rfl (acs_names2 _ _ _ _ rfl) ⟨.refl _, .refl _, .refl _, .refl _, .refl _, .refl _, .refl _, .refl _, .refl _, .refl _, .refl _, VLe2.int (by omega), trivial⟩ (haveV.row (pure_ac _) rfl (haveV.row (pure_ac _) rfl (haveV.row rfl rfl trivial)))
      | false =>
        have hce2 : (!(a.school == b.school && (a.code.toList == b.code.toList && true))) = true := by rw [hce]; rfl
        ((repeat ((conv => whnf); (first | (refine As.pre ?_; first | refine As.mk rfl ?_) | (refine LetV.pre ?_; first | refine LetV.mk (.agg _) rfl ?_) | (refine LetB.pre ?_; first | refine LetB.tt (by assumption) ?_) | (refine Gd.pre ?_; first | refine Gd.run rfl ?_) | (refine Ck.pre ?_; first | refine Ck.mk rfl ?_)))); (try (conv => whnf)))
        refine VS.of_V T_ok mixed rfl ?_
        ((repeat ((conv => whnf); (first | (refine As.pre ?_; first | refine As.mk rfl ?_) | (refine LetI.pre ?_; first | refine LetI.wrap (by omega) (by omega) ?_) | (refine Ck.pre ?_; first | refine Ck.mk rfl ?_)))); (try (conv => whnf)))
        refine LoopN.weak ?sw7 hnx
        case sw7 => exact SW.mk id rfl rfl (acs_names2 _ _ _ _ rfl) ⟨.refl _, .refl _, .refl _, .refl _, .refl _, .refl _, .refl _, .refl _, .refl _, .refl _, .refl _, VLe2.int (by omega), trivial⟩ (haveV.row (pure_ac _) rfl (haveV.row (pure_ac _) rfl (haveV.row rfl rfl trivial)))
  clear ihI u2 hA1 hA2 hld
  refine VS.cut T_ok mixed rfl ?_
  ((repeat ((conv => whnf); (first | (refine As.pre ?_; first | refine As.mk rfl ?_) | (refine LetV.pre ?_; first | refine LetV.mk (.ro _ _ _) rfl ?_) | (refine LetI.pre ?_; first | refine LetI.mk _ rfl ?_) | (refine Ck.pre ?_; first | refine Ck.mk rfl ?_)))); (try (conv => whnf)))
  refine VS.block (VS.loop ?_)
  refine LoopN.weak (s1 := frX o all part k a i b (0, f)) ?sw4 ?_
  case sw4 => exact SW.mk id rfl rfl (acs_names2 _ _ _ _ rfl) ⟨.refl _, .refl _, .refl _, .refl _, .refl _, .refl _, .refl _, .refl _, .refl _, .refl _, .refl _, .refl _, .refl _, .refl _, VLe2.int (by rw [List.length_map]), .refl _, trivial⟩ (haveV.row (pure_ac _) rfl (haveV.row (pure_ac _) rfl (haveV.row rfl rfl (haveV.row rfl rfl trivial))))
  refine LoopN.indS (S := frX o all part k a i b) (fun i => a.src.length - i.1) (fun i => i.1 ≤ a.src.length ∧ R3 = (i.2 && (a.src.drop i.1).all fun x => b.src.all (oneQ a b x))) (fun x hx ihX => ?_) (0, f) ⟨Nat.zero_le _, hR3⟩
  clear hR3 f
  obtain ⟨x, f⟩ := x
  obtain ⟨w1, w2⟩ := hx
  simp only at w1 w2
  by_cases hlx : x < a.src.length
  case neg =>
    clear ihX
    rw [List.drop_eq_nil_of_le (by omega), List.all_nil, Bool.and_true] at w2
    refine VS.of_V T_ok mixed rfl ?_
    ((repeat ((conv => whnf); (first | (refine As.pre ?_; first | refine As.mk rfl ?_) | (refine LetB.pre ?_; first | refine LetB.decf (by omega) ?_) | (refine Br.pre ?_; first | refine Br.ff rfl ?_) | (refine Ck.pre ?_; first | refine Ck.mk rfl ?_)))); (try (conv => whnf)))
    exact ⟨rfl, f, w2.symm, SW.mk id rfl rfl (acs_names2 _ _ _ _ rfl) ⟨.refl _, .refl _, .refl _, .refl _, .refl _, .refl _, .refl _, .refl _, .refl _, .refl _, .refl _, .refl _, .refl _, trivial⟩ (haveV.row (pure_ac _) rfl (haveV.row (pure_ac _) rfl (haveV.row rfl rfl (haveV.row rfl rfl trivial))))⟩
  have hlv := getD_int hlx
  rw [all_drop _ hlx 0] at w2
  generalize a.src.getD x 0 = xv at hlv w2
  obtain ⟨R4, hR4⟩ : ∃ R4, R4 = (f && b.src.all (oneQ a b xv)) := ⟨_, rfl⟩
  rw [← Bool.and_assoc, ← hR4] at w2
  refine VS.cut T_ok mixed rfl ?_
  ((repeat ((conv => whnf); (first | (refine As.pre ?_; first | refine As.mk rfl ?_) | (refine LetB.pre ?_; first | refine LetB.dect (by omega) ?_) | (refine Ck.pre ?_; first | refine Ck.mk rfl ?_)))); (try (conv => whnf)))
  refine VS.cut T_ok mixed rfl ?_
  ((repeat ((conv => whnf); (first | (refine Br.pre ?_; first | refine Br.tt rfl ?_) | (refine Ck.pre ?_; first | refine Ck.mk rfl ?_)))); (try (conv => whnf)))
  refine VS.seq (VS.block ?_)
  refine VS.cut T_ok mixed rfl ?_
  ((repeat ((conv => whnf); (first | (refine As.pre ?_; first | refine As.mk rfl ?_ | (refine As.mk ?_ ?_; · ((repeat' (refine andT ?_ ?_)) <;> (first | rfl | assumption | exact decide_eq_true (by omega) | exact decide_eq_true (by dsimp only; omega) | exact decide_eq_true (by simp; omega) | (simp; done))))) | (refine LetV.pre ?_; first | refine LetV.mk (t := 22) _ hlv ?_ | refine LetV.mk (.sc (.int _ _)) rfl ?_) | (refine Ck.pre ?_; first | refine Ck.mk rfl ?_)))); (try (conv => whnf)))
  refine VS.cut T_ok mixed rfl ?_
  ((repeat ((conv => whnf); (first | (refine As.pre ?_; first | refine As.mk rfl ?_) | (refine LetV.pre ?_; first | refine LetV.mk (.ro _ _ _) rfl ?_) | (refine LetI.pre ?_; first | refine LetI.mk _ rfl ?_) | (refine Ck.pre ?_; first | refine Ck.mk rfl ?_)))); (try (conv => whnf)))
  clear hlv
  refine VS.endN (fun f => frX o all part k a i b (x, f)) (fun f => f = R4) ?_ ?_
  case refine_2 =>
    intro f' s1 hf hw
    subst hf
    refine VS.weak hw ?_
    refine VS.of_V T_ok mixed rfl ?_
    ((repeat ((conv => whnf); (first | (refine As.pre ?_; first | refine As.mk rfl ?_) | (refine LetI.pre ?_; first | refine LetI.wrap (by omega) (by omega) ?_) | (refine Ck.pre ?_; first | refine Ck.mk rfl ?_)))); (try (conv => whnf)))
    refine LoopN.weak ?sw9 (ihX (x + 1, f') ⟨by omega, w2⟩ (by show a.src.length - (x + 1) < a.src.length - x; omega))
    case sw9 => exact SW.mk id rfl rfl (acs_names2 _ _ _ _ rfl) ⟨.refl _, .refl _, .refl _, .refl _, .refl _, .refl _, .refl _, .refl _, .refl _, .refl _, .refl _, .refl _, .refl _, .refl _, .refl _, VLe2.int (by omega), trivial⟩ (haveV.row (pure_ac _) rfl (haveV.row (pure_ac _) rfl (haveV.row rfl rfl (haveV.row rfl rfl trivial))))
  clear ihX w2
  refine VS.block (VS.loop ?_)
  refine LoopN.weak (s1 := frY o all part k a i b x xv (0, f)) ?sw8 ?_
  case sw8 => exact SW.mk id rfl rfl (acs_names2 _ _ _ _ rfl) ⟨.refl _, .refl _, .refl _, .refl _, .refl _, .refl _, .refl _, .refl _, .refl _, .refl _, .refl _, .refl _, .refl _, .refl _, .refl _, .refl _, .refl _, .refl _, VLe2.int (by rw [List.length_map]), .refl _, trivial⟩ (haveV.row (pure_ac _) rfl (haveV.row (pure_ac _) rfl (haveV.row rfl rfl (haveV.row rfl rfl trivial))))
  refine LoopN.ind T_ok mixed (S := frY o all part k a i b x xv) (fun i => b.src.length - i.1) (fun i => i.1 ≤ b.src.length ∧ R4 = (i.2 && (b.src.drop i.1).all (oneQ a b xv))) (fun _ => rfl) (fun y hy ihY => ?_) (0, f) ⟨Nat.zero_le _, hR4⟩
  clear hR4 f
  obtain ⟨y, f⟩ := y
  obtain ⟨z1, z2⟩ := hy
  simp only at z1 z2
  by_cases hly : y < b.src.length
  case neg =>
    clear ihY
    rw [List.drop_eq_nil_of_le (by omega), List.all_nil, Bool.and_true] at z2
    ((repeat ((conv => whnf); (first | (refine As.pre ?_; first | refine As.mk rfl ?_) | (refine LetB.pre ?_; first | refine LetB.decf (by omega) ?_) | (refine Br.pre ?_; first | refine Br.ff rfl ?_) | (refine Ck.pre ?_; first | refine Ck.mk rfl ?_)))); (try (conv => whnf)))
    exact ⟨rfl, f, z2.symm, SW.mk id rfl rfl (acs_names2 _ _ _ _ rfl) ⟨.refl _, .refl _, .refl _, .refl _, .refl _, .refl _, .refl _, .refl _, .refl _, .refl _, .refl _, .refl _, .refl _, .refl _, .refl _, .refl _, trivial⟩ (haveV.row (pure_ac _) rfl (haveV.row (pure_ac _) rfl (haveV.row rfl rfl (haveV.row rfl rfl trivial))))⟩
  have hlv := getD_int hly
  rw [all_drop _ hly 0] at z2
  generalize b.src.getD y 0 = yv at hlv z2
  have hnx := ihY (y + 1, f && oneQ a b xv yv) ⟨by omega, by rw [z2, Bool.and_assoc]⟩ (by show b.src.length - (y + 1) < b.src.length - y; omega)
  clear ihY z2
  cases f with
  | false =>
    rw [Bool.false_and] at hnx
    ((repeat ((conv => whnf); (first | (refine As.pre ?_; first | refine As.mk rfl ?_ | (refine As.mk ?_ ?_; · ((repeat' (refine andT ?_ ?_)) <;> (first | rfl | assumption | exact decide_eq_true (by omega) | exact decide_eq_true (by dsimp only; omega) | exact decide_eq_true (by simp; omega) | (simp; done))))) | (refine LetV.pre ?_; first | refine LetV.mk (t := 22) _ hlv ?_ | refine LetV.mk (.sc (.int _ _)) rfl ?_) | (refine LetI.pre ?_; first | refine LetI.wrap (by omega) (by omega) ?_) | (refine LetB.pre ?_; first | refine LetB.dect (by omega) ?_) | (refine Gd.pre ?_; first | refine Gd.pass rfl ?_) | (refine Br.pre ?_; first | refine Br.tt rfl ?_) | (refine Ck.pre ?_; first | refine Ck.mk rfl ?_)))); (try (conv => whnf)))
    refine LoopN.weak ?swA hnx
    case swA => exact SW.mk id rfl rfl (acs_names2 _ _ _ _ rfl) ⟨.refl _, .refl _, .refl _, .refl _, .refl _, .refl _, .refl _, .refl _, .refl _, .refl _, .refl _, .refl _, .refl _, .refl _, .refl _, .refl _, .refl _, .refl _, .refl _, VLe2.int (by omega), trivial⟩ (haveV.row (pure_ac _) rfl (haveV.row (pure_ac _) rfl (haveV.row rfl rfl (haveV.row rfl rfl trivial))))
  | true =>
    rw [Bool.true_and] at hnx
    by_cases hxy : xv = yv
    case neg =>
      rw [show oneQ a b xv yv = true by simp [oneQ, hxy]] at hnx
      ((repeat ((conv => whnf); (first | (refine As.pre ?_; first | refine As.mk rfl ?_ | (refine As.mk ?_ ?_; · ((repeat' (refine andT ?_ ?_)) <;> (first | rfl | assumption | exact decide_eq_true (by omega) | exact decide_eq_true (by dsimp only; omega) | exact decide_eq_true (by simp; omega) | (simp; done))))) | (refine LetV.pre ?_; first | refine LetV.mk (t := 22) _ hlv ?_ | refine LetV.mk (.sc (.int _ _)) rfl ?_) | (refine LetI.pre ?_; first | refine LetI.wrap (by omega) (by omega) ?_) | (refine LetB.pre ?_; first | refine LetB.dect (by omega) ?_ | refine LetB.bnet (by omega) ?_) | (refine Gd.pre ?_; first | refine Gd.run rfl ?_ | refine Gd.pass rfl ?_) | (refine Br.pre ?_; first | refine Br.tt rfl ?_) | (refine Ck.pre ?_; first | refine Ck.mk rfl ?_)))); (try (conv => whnf)))
      refine LoopN.weak ?swB hnx
      case swB => exact SW.mk id rfl rfl (acs_names2 _ _ _ _ rfl) ⟨.refl _, .refl _, .refl _, .refl _, .refl _, .refl _, .refl _, .refl _, .refl _, .refl _, .refl _, .refl _, .refl _, .refl _, .refl _, .refl _, .refl _, .refl _, .refl _, VLe2.int (by omega), trivial⟩ (haveV.row (pure_ac _) rfl (haveV.row (pure_ac _) rfl (haveV.row rfl rfl (haveV.row rfl rfl trivial))))
    case pos =>
      by_cases hb0 : 0 < a.bundle
      case neg =>
        rw [show oneQ a b xv yv = false by simp [oneQ, hxy, hb0]] at hnx
        ((repeat ((conv => whnf); (first | (refine As.pre ?_; first | refine As.mk rfl ?_ | (refine As.mk ?_ ?_; · ((repeat' (refine andT ?_ ?_)) <;> (first | rfl | assumption | exact decide_eq_true (by omega) | exact decide_eq_true (by dsimp only; omega) | exact decide_eq_true (by simp; omega) | (simp; done))))) | (refine LetV.pre ?_; first | refine LetV.mk (t := 22) _ hlv ?_ | refine LetV.mk (.sc (.int _ _)) rfl ?_) | (refine LetI.pre ?_; first | refine LetI.wrap (by omega) (by omega) ?_) | (refine LetB.pre ?_; first | refine LetB.dect (by omega) ?_ | refine LetB.decf (by omega) ?_ | refine LetB.bnef (by omega) ?_) | (refine Gd.pre ?_; first | refine Gd.run rfl ?_ | refine Gd.pass rfl ?_) | (refine Br.pre ?_; first | refine Br.tt rfl ?_) | (refine Ck.pre ?_; first | refine Ck.mk rfl ?_)))); (try (conv => whnf)))
        refine LoopN.weak ?swC hnx
        case swC => exact SW.mk id rfl rfl (acs_names2 _ _ _ _ rfl) ⟨.refl _, .refl _, .refl _, .refl _, .refl _, .refl _, .refl _, .refl _, .refl _, .refl _, .refl _, .refl _, .refl _, .refl _, .refl _, .refl _, .refl _, .refl _, .refl _, VLe2.int (by omega), trivial⟩ (haveV.row (pure_ac _) rfl (haveV.row (pure_ac _) rfl (haveV.row rfl rfl (haveV.row rfl rfl trivial))))
      case pos =>
        by_cases hbe : a.bundle = b.bundle
        case neg =>
          rw [show oneQ a b xv yv = false by simp [oneQ, hxy, hbe]] at hnx
          ((repeat ((conv => whnf); (first | (refine As.pre ?_; first | refine As.mk rfl ?_ | (refine As.mk ?_ ?_; · ((repeat' (refine andT ?_ ?_)) <;> (first | rfl | assumption | exact decide_eq_true (by omega) | exact decide_eq_true (by dsimp only; omega) | exact decide_eq_true (by simp; omega) | (simp; done))))) | (refine LetV.pre ?_; first | refine LetV.mk (t := 22) _ hlv ?_ | refine LetV.mk (.sc (.int _ _)) rfl ?_) | (refine LetI.pre ?_; first | refine LetI.wrap (by omega) (by omega) ?_) | (refine LetB.pre ?_; first | refine LetB.dect (by omega) ?_ | refine LetB.decf (by omega) ?_ | refine LetB.bnef (by omega) ?_) | (refine Gd.pre ?_; first | refine Gd.run rfl ?_) | (refine Br.pre ?_; first | refine Br.tt rfl ?_) | (refine Ck.pre ?_; first | refine Ck.mk rfl ?_)))); (try (conv => whnf)))
          refine LoopN.weak ?swD hnx
          case swD => exact SW.mk id rfl rfl (acs_names2 _ _ _ _ rfl) ⟨.refl _, .refl _, .refl _, .refl _, .refl _, .refl _, .refl _, .refl _, .refl _, .refl _, .refl _, .refl _, .refl _, .refl _, .refl _, .refl _, .refl _, .refl _, .refl _, VLe2.int (by omega), trivial⟩ (haveV.row (pure_ac _) rfl (haveV.row (pure_ac _) rfl (haveV.row rfl rfl (haveV.row rfl rfl trivial))))
        case pos =>
          rw [show oneQ a b xv yv = true by unfold oneQ; rw [decide_eq_true hb0, decide_eq_true hbe]; simp] at hnx
          ((repeat ((conv => whnf); (first | (refine As.pre ?_; first | refine As.mk rfl ?_ | (refine As.mk ?_ ?_; · ((repeat' (refine andT ?_ ?_)) <;> (first | rfl | assumption | exact decide_eq_true (by omega) | exact decide_eq_true (by dsimp only; omega) | exact decide_eq_true (by simp; omega) | (simp; done))))) | (refine LetV.pre ?_; first | refine LetV.mk (t := 22) _ hlv ?_ | refine LetV.mk (.sc (.int _ _)) rfl ?_) | (refine LetI.pre ?_; first | refine LetI.wrap (by omega) (by omega) ?_) | (refine LetB.pre ?_; first | refine LetB.dect (by omega) ?_ | refine LetB.bnef (by omega) ?_) | (refine Gd.pre ?_; first | refine Gd.run rfl ?_) | (refine Br.pre ?_; first | refine Br.tt rfl ?_) | (refine Ck.pre ?_; first | refine Ck.mk rfl ?_)))); (try (conv => whnf)))
          refine LoopN.weak ?swE hnx
          case swE => exact SW.mk id rfl rfl (acs_names2 _ _ _ _ rfl) ⟨.refl _, .refl _, .refl _, .refl _, .refl _, .refl _, .refl _, .refl _, .refl _, .refl _, .refl _, .refl _, .refl _, .refl _, .refl _, .refl _, .refl _, .refl _, .refl _, VLe2.int (by omega), trivial⟩ (haveV.row (pure_ac _) rfl (haveV.row (pure_ac _) rfl (haveV.row rfl rfl (haveV.row rfl rfl trivial))))
theorem efree_row (x : List (List Int)) (hL : x.length ≤ 9223372036854775807) (hxs : ∀ l ∈ x, l.length ≤ 9223372036854775807) (o : Int) (ho : 0 ≤ o ∧ o ≤ 255) : AFun Try.prog 4 0 [.ro {} 1 (x.map fun l => .ro {} 1 (l.map int)), u8 o] [] (bool true) [] := by
  have h := efree (x.map fun l => (({} : Fl), l)) {} (by rw [List.length_map]; exact hL) (fun y hy => by
    obtain ⟨l, hl, rfl⟩ := List.mem_map.1 hy
    exact hxs l hl) o ho
  rw [List.map_map] at h
  exact h
end En
end Go.Proofs.Ytiefcppgbnfbfaa
namespace Go.Proofs.Ytiefcppgbnfbfaa
open Go.Proofs.Ytiefcppgbnfbfaa.Am
set_option maxRecDepth 100000
namespace En
/-! ### Entries in the order of their Ids -/
def Ids (l : List E) : Prop := ∀ i, i < l.length → (l.getD i e0).id = i + 1
theorem M10.toIds {sc day : Int} {l : List E} (h : M10 sc day l) : Ids l := h.ids
theorem Ids.at_ {l : List E} (h : Ids l) {i : Nat} (hi : i < l.length) : l[i].id = i + 1 := by
  have := h i hi
  rwa [List.getD_eq_getElem?_getD, List.getElem?_eq_getElem hi] at this
theorem Ids.lt {l : List E} (h : Ids l) : l.Pairwise fun a b => a.id < b.id := by
  rw [List.pairwise_iff_getElem]
  intro i j hi hj hij
  rw [h.at_ hi, h.at_ hj]; omega
theorem Ids.app {l : List E} {e : E} (h : Ids l) (he : e.id = l.length + 1) : Ids (l ++ [e]) := fun i hi => by
  rw [List.length_append, List.length_singleton] at hi
  by_cases h1 : i < l.length
  · rw [getD_app1 h1]; exact h i h1
  · have : i = l.length := by omega
    subst this
    rw [show (l ++ [e]).getD l.length e0 = e from getD_app2 (i := 0) rfl]; exact he
theorem Ids.eq {l : List E} (h : Ids l) {a b : E} (ha : a ∈ l) (hb : b ∈ l) (e : a.id = b.id) : a = b := by
  obtain ⟨i, hi, rfl⟩ := List.getElem_of_mem ha
  obtain ⟨j, hj, rfl⟩ := List.getElem_of_mem hb
  rw [h.at_ hi, h.at_ hj] at e
  have : i = j := by omega
  subst this; rfl
theorem Ids.range {l : List E} (h : Ids l) {a : E} (ha : a ∈ l) : 1 ≤ a.id ∧ a.id ≤ l.length := by
  obtain ⟨i, hi, rfl⟩ := List.getElem_of_mem ha
  rw [h.at_ hi]; omega
abbrev up (l : List E) : Prop := l.Pairwise fun a b => a.id < b.id
theorem srt_up {l : List E} (h : up l) : srt false l = l := by
  rw [srt_S]
  refine S_id (h.imp fun {a b} hab => ?_)
  rw [ltE_id, decide_eq_false_iff_not]; omega
theorem up_filter {l : List E} (h : up l) (p : E → Bool) : up (l.filter p) := List.Pairwise.filter p h
/-- What counts. -/
abbrev cntB (a o : Int) (e : E) : Bool := decide (e.day ≤ a ∧ e.on_ ≤ o)
theorem atR_up {l : List E} (h : up l) (a o : Int) : atR l a o = l.filter (cntB a o) := by
  rw [atR, srt_up]
  · refine List.filter_congr fun x _ => ?_
    simp
  · exact up_filter h _
/-- The grades that count. -/
abbrev grB (a o : Int) (e : E) : Bool := decide (e.kind = 3 ∧ e.day ≤ a ∧ e.on_ ≤ o)
abbrev stS (l : List E) (a o : Int) (g : E) : St := stand (atR l a o) a o g
theorem atP_up {l : List E} (h : up l) (a o : Int) : atP l a o = (l.filter (grB a o)).map (stS l a o) := by
  have e : chos (atR l a o) [cOf 3] = l.filter (grB a o) := by
    rw [atR_up h]
    show (l.filter (cntB a o)).filter _ = _
    rw [List.filter_filter]
    refine List.filter_congr fun x _ => ?_
    rw [Bool.eq_iff_iff]
    simp
  rw [atP, e]
theorem atP_len {l : List E} (a o : Int) : (atP l a o).length ≤ l.length := by
  have h1 : (chos (atR l a o) [cOf 3]).length ≤ _ := List.length_filter_le _ _
  have h2 : (chos l [cCounts a o]).length ≤ _ := List.length_filter_le _ _
  have h3 : (atR l a o).length = _ := srt_length false _
  have h4 : (atP l a o).length = _ := List.length_map _
  omega
/-! ### Scales of made entries -/
def sclOf (sc : Int) : Int × Int × Int := if sc = 2 then (5, 1, 3) else if sc = 3 then (0, 20, 10) else (0, 100, 50)
theorem SclOf_f (sc : Int) (h : 1 ≤ sc ∧ sc ≤ 3) : AFun Try.prog 36 0 [int sc] [] (Sc.scA (sclOf sc)) [] := by
  refine AFun.of_W T_ok mixed Try.func36 rfl (Nat.le_of_ble_eq_true rfl) rfl ?_
  obtain rfl | rfl | rfl : sc = 1 ∨ sc = 2 ∨ sc = 3 := by omega
  all_goals
    ((repeat ((conv => whnf); (first | (refine LetN.pre ?_; first | ((conv => arg 1; whnf); refine LetN.mk ?_)) | (refine As.pre ?_; first | refine As.mk rfl ?_) | (refine LetB.pre ?_; first | refine LetB.tt rfl ?_ | refine LetB.ff rfl ?_) | (refine Br.pre ?_; first | refine Br.tt rfl ?_ | refine Br.ff rfl ?_) | (refine Ck.pre ?_; first | refine Ck.mk rfl ?_) | (refine LetL.pre ?_; first | refine LetL.mk [_] rfl ?_)))); (try (conv => whnf)))
    exact ⟨.inl rfl, ⟨_, rfl, rfl⟩, trivial⟩
end En
end Go.Proofs.Ytiefcppgbnfbfaa
namespace Go.Proofs.Ytiefcppgbnfbfaa
open Go.Proofs.Ytiefcppgbnfbfaa.Am
set_option maxRecDepth 100000
namespace En
/-! ### What is earned, of entries in the order of their Ids -/
theorem ix_put : ∀ (m : List (Int × E)) (e : E) (k : Int), ixM m k ≠ none → ixM (putM m e) k ≠ none
  | [], e, k, h => absurd rfl h
  | x :: m, e, k, h => by
    unfold ixM at h
    rw [putM]
    by_cases hx : x.1 = e.id
    · rw [if_pos hx, ixM]
      by_cases hk : x.1 = k
      · rw [if_pos (by rw [← hx]; exact hk)]; simp
      · rw [if_neg hk] at h
        rw [if_neg (by rw [← hx]; exact hk)]; exact h
    · rw [if_neg hx, ixM]
      by_cases hk : x.1 = k
      · rw [if_pos hk]; simp
      · rw [if_neg hk] at h ⊢
        have := ix_put m e k (fun n => h (by rw [n]; rfl))
        exact fun n => this (Option.map_eq_none_iff.1 n)
theorem ix_put_self : ∀ (m : List (Int × E)) (e : E), ixM (putM m e) e.id ≠ none
  | [], e => by simp [putM, ixM]
  | x :: m, e => by
    rw [putM]
    by_cases hx : x.1 = e.id
    · rw [if_pos hx, ixM, if_pos rfl]; simp
    · rw [if_neg hx, ixM, if_neg hx]
      exact fun n => ix_put_self m e (Option.map_eq_none_iff.1 n)
theorem ix_mB {l : List E} {g : E} (hg : g ∈ l) (hk : g.kind = 3) : ixM (mB l) g.id ≠ none := by
  induction l with
  | nil => exact absurd hg List.not_mem_nil
  | cons e l ih =>
    rw [mB]
    by_cases he : e.kind = 3
    · rw [if_pos he]
      rcases List.mem_cons.1 hg with h | h
      · rw [h]; exact ix_put_self _ _
      · exact ix_put _ _ _ (ih h)
    · rw [if_neg he]
      rcases List.mem_cons.1 hg with h | h
      · rw [← h] at he; exact absurd hk he
      · exact ih h
theorem grade_at {l : List E} (h : Ids l) {g : E} (hg : g ∈ l) (hk : g.kind = 3) : gradeM (mB l) g.id = g := by
  cases hi : ixM (mB l) g.id with
  | none => exact absurd hi (ix_mB hg hk)
  | some i =>
    obtain ⟨e, he⟩ := ix_some hi
    obtain ⟨x, hx, e2⟩ := mem_mB _ (List.mem_of_getElem? he)
    injection e2 with e3 e4
    unfold gradeM
    rw [hi]
    show ((mB l).getD i (0, e0)).2 = g
    rw [List.getD_eq_getElem?_getD, he]
    show e = g
    rw [e4]
    exact (h.eq hx hg e3.symm)
/-- A grade that passes, of a student. -/
def kpB (l : List E) (s : Sc.Scl) (st a o : Int) (g : E) : Bool := !((stS l a o g).void || (g.student != st || !decide (Sc.rea s (stS l a o g).grade s.2.2)))
def fgP (l : List E) (s : Sc.Scl) (st a o : Int) : List E := (l.filter (grB a o)).filter (kpB l s st a o)
abbrev srcG (g : E) : Int := 1000000 * g.school + g.id
def owC (g : E) (gr : Int) : Ac := ⟨g.school, g.course, g.credits, gr, g.on_, [srcG g], 0, []⟩
def ofC (l : List E) (s : Sc.Scl) (st a o : Int) : List Ac := (fgP l s st a o).map fun g => owC g (stS l a o g).grade
theorem of_eq {l : List E} (h : Ids l) (s : Sc.Scl) (st a o : Int) : (ofP l s st a o).map Ach.ac = ofC l s st a o := by
  have hm : ∀ g ∈ l.filter (grB a o), gradeM (mB l) (stS l a o g).entry = g := fun g hg => by
    obtain ⟨h1, h2⟩ := List.mem_filter.1 hg
    exact grade_at h h1 (of_decide_eq_true h2).1
  rw [ofP, atP_up h.lt, List.filter_map, List.map_map, List.map_map, ofC, fgP]
  have e : (l.filter (grB a o)).filter (keepA (mB l) s st ∘ stS l a o) = (l.filter (grB a o)).filter (kpB l s st a o) := by
    refine List.filter_congr fun g hg => ?_
    show keepA (mB l) s st (stS l a o g) = _
    unfold keepA
    rw [hm g hg]; rfl
  rw [e]
  refine List.map_congr_left fun g hg => ?_
  show (ownA (gradeM (mB l) (stS l a o g).entry) (stS l a o g).grade).ac = _
  rw [hm g (List.mem_filter.1 hg).1]; rfl
theorem mem_fg {l : List E} {s : Sc.Scl} {st a o : Int} {g : E} (h : g ∈ fgP l s st a o) : g ∈ l ∧ g.kind = 3 ∧ g.day ≤ a ∧ g.on_ ≤ o ∧ g.student = st ∧ Sc.rea s (stS l a o g).grade s.2.2 := by
  obtain ⟨h1, h2⟩ := List.mem_filter.1 h
  obtain ⟨h3, h4⟩ := List.mem_filter.1 h1
  have h5 := of_decide_eq_true h4
  unfold kpB at h2
  simp only [Bool.not_eq_true', Bool.or_eq_false_iff, bne_eq_false_iff_eq, decide_eq_false_iff_not, Decidable.not_not, Bool.not_eq_false'] at h2
  simp only [decide_eq_true_eq] at h2
  exact ⟨h3, h5.1, h5.2.1, h5.2.2, h2.2.1, h2.2.2⟩
theorem fg_up {l : List E} (h : Ids l) (s : Sc.Scl) (st a o : Int) : up (fgP l s st a o) := up_filter (up_filter h.lt _) _
theorem fg_len (l : List E) (s : Sc.Scl) (st a o : Int) : (fgP l s st a o).length ≤ l.length := Nat.le_trans (List.length_filter_le _ _) (List.length_filter_le _ _)
/-- The numbers of entries are small. -/
abbrev okL (l : List E) : Prop := ∀ e ∈ l, okB e
theorem OfC_f (l : List E) (s : Sc.Scl) (st a o : Int) (hl : l.length < 40) (h : Ids l) (hb : okL l) : AFun Try.prog 12 0 [.ro {} 15 (l.map en), Sc.scA s, int st, int a, int o] [] (.ro {} 8 ((ofC l s st a o).map acA)) [] := by
  have := (Of_f l s st a o {} hl hb).res (acs_le _ _)
  rwa [of_eq h] at this
theorem M10.okL {sc day : Int} {l : List E} (h : M10 sc day l) (hsc : 1 ≤ sc ∧ sc ≤ 3) (hl : l.length ≤ 1000) : okL l := fun e he => by
  have h1 := h.toIds.range he
  have h2 := (h.ok e he).school
  exact ⟨by omega, by omega⟩
/-! ### The case -/
abbrev u8' (v : Int) : AV := .sc (.int .u8 v)
abbrev u16 (v : Int) : AV := .sc (.int .u16 v)
set_option maxRecDepth 100000 in
theorem made_f (xs : List Int) (fl : Fl) (hx : xs.length ≤ 9223372036854775807) (q : Int × Int × Int) (h1 : 0 ≤ q.1 ∧ q.1 ≤ 255) (h2 : 0 ≤ q.2.1 ∧ q.2.1 ≤ 65535) (h3 : 0 ≤ q.2.2 ∧ q.2.2 ≤ 65535) :
    ∃ (sc : Int) (l : List E) (a o : Int), (1 ≤ sc ∧ sc ≤ 3) ∧ (l.length ≤ 24 ∧ M10 sc 600 l) ∧ (0 ≤ a ∧ a < 700) ∧ (0 ≤ o ∧ o < 700) ∧
    AFun Try.prog 10 0 [.agg [.ro fl 1 (xs.map int), u8' q.1, u16 q.2.1, u16 q.2.2]] [] (.tup [.ro {} 15 (l.map en), Sc.scA (sclOf sc), int a, int o]) [] := by
  have b1 := tmod_bound q.1 (m := 3) (by omega)
  have p1 := tmod_pos 3 h1.1
  have b2 := tmod_bound q.2.1 (m := 700) (by omega)
  have p2 := tmod_pos 700 h2.1
  have b3 := tmod_bound q.2.2 (m := 700) (by omega)
  have p3 := tmod_pos 700 h3.1
  have hsc : 1 ≤ 1 + q.1.tmod 3 ∧ 1 + q.1.tmod 3 ≤ 3 := by omega
  obtain ⟨l, hl, hM⟩ := Made10_f xs fl hx (1 + q.1.tmod 3) hsc
  refine ⟨1 + q.1.tmod 3, l, q.2.1.tmod 700, q.2.2.tmod 700, hsc, hl, by omega, by omega, ?_⟩
  have hO := SclOf_f _ hsc
  generalize sclOf (1 + q.1.tmod 3) = s at hO ⊢
  refine AFun.of_W T_ok mixed Try.func10 rfl (Nat.le_of_ble_eq_true rfl) rfl ?_
  have w1 : q.1 = IntKind.i64.wrap q.1 := (wrap_id (by omega) (by omega)).symm
  have w2 : q.2.1 = IntKind.i64.wrap q.2.1 := (wrap_id (by omega) (by omega)).symm
  have w3 : q.2.2 = IntKind.i64.wrap q.2.2 := (wrap_id (by omega) (by omega)).symm
  ((repeat ((conv => whnf); (first | (refine LetN.pre ?_; first | ((conv => arg 1; whnf); refine LetN.mk ?_)) | (refine As.pre ?_; first | refine As.mk rfl ?_) | (refine LetV.pre ?_; first | refine LetV.mk (.sc (.int _ _)) rfl ?_ | refine LetV.mk (.ro _ _ _) rfl ?_) | (refine LetI.pre ?_; first | refine LetI.mk (o := none) q.1 w1 ?_ | refine LetI.mk (o := none) q.2.1 w2 ?_ | refine LetI.mk (o := none) q.2.2 w3 ?_ | refine LetI.wrap (by omega) (by omega) ?_ | refine LetI.mk _ rfl ?_) | (refine Ck.pre ?_; first | refine Ck.drawn (by kernel_rfl) ?_ | refine Ck.mk rfl ?_) | (refine LetL.pre ?_; first | refine LetL.mk [_] rfl ?_) | (refine CallN.pre ?_; first | refine CallN.pure hM rfl rfl ?_ | refine CallN.pure hO rfl rfl ?_)))); (try (conv => whnf)))





  exact ⟨.inl rfl, ⟨_, rfl, rfl⟩, trivial⟩
end En
end Go.Proofs.Ytiefcppgbnfbfaa
namespace Go.Proofs.Ytiefcppgbnfbfaa
open Go.Proofs.Ytiefcppgbnfbfaa.Am
set_option maxRecDepth 100000
namespace En
/-! ### EarnOf -/
abbrev ofA (l : List E) (s : Sc.Scl) (st a o : Int) : List Ac := (ofP l s st a o).map Ach.ac
theorem OfA_f (l : List E) (s : Sc.Scl) (st a o : Int) (hl : l.length < 40) (hb : ∀ e ∈ l, okB e) : AFun Try.prog 12 0 [.ro {} 15 (l.map en), Sc.scA s, int st, int a, int o] [] (.ro {} 8 ((ofA l s st a o).map acA)) [] := (Of_f l s st a o {} hl hb).res (acs_le _ _)
theorem refOfA_f (l : List E) (s : Sc.Scl) (st a o : Int) (hl : l.length < 40) (hb : ∀ e ∈ l, okB e) : AFun Try.prog 13 0 [.ro {} 15 (l.map en), Sc.scA s, int st, int a, int o] [] (.ro {} 8 ((ofA l s st a o).map acA)) [] := (refOf_f l s st a o {} (by omega) hb).res (acs_le _ _)
theorem ofA_len (l : List E) (s : Sc.Scl) (st a o : Int) : (ofA l s st a o).length ≤ l.length := by
  rw [List.length_map, ofP, List.length_map]
  exact Nat.le_trans (List.length_filter_le _ _) (atP_len ..)
theorem ofA_ok (l : List E) (s : Sc.Scl) (st a o : Int) : ∀ x ∈ ofA l s st a o, okA x := fun x hx => by
  obtain ⟨y, hy, rfl⟩ := List.mem_map.1 hx
  obtain ⟨z, _, rfl⟩ := List.mem_map.1 hy
  exact ⟨by show 1 ≤ 1000; omega, by show 0 ≤ 1000; omega⟩
theorem M10.bE {sc day : Int} {l : List E} (h : M10 sc day l) (hsc : 1 ≤ sc ∧ sc ≤ 3) (hl : l.length ≤ 1000) (hd : day ≤ 600) : ∀ e ∈ l, En.bE e := fun e he => by
  have h1 := h.toIds.range he
  have h2 := h.ok e he
  have h3 := h2.school
  have h4 := h2.day
  have h5 := h2.on
  exact ⟨by omega, by omega, by omega, by omega⟩
theorem bE.okB {e : E} (h : bE e) : En.okB e := ⟨h.school, h.id⟩
theorem set_en {l : List E} {j : Nat} (e : E) : (l.set j e).map en = (l.map en).set (0 + j) (en e) := by rw [Nat.zero_add, List.map_set]
theorem hso_en (L : List E) : storables (L.map en) = true := by have h := stor_en L 0 L.length; rw [List.drop_zero, List.take_of_length_le (by simp)] at h; exact h
abbrev q6 (q r : Int × Int × Int) : AV := .agg [int q.1, int q.2.1, int q.2.2, int r.1, int r.2.1, int r.2.2]
abbrev d2 (d : Int × Int) : AV := .agg [int d.1, int d.2]
abbrev eoH (q r : Int × Int × Int) (d : Int × Int) (s : Sc.Scl) : AH := [(0, .row 6 27 [q6 q r]), (1, .row 2 28 [d2 d]), (2, .row 3 32 [Sc.scA s])]
theorem eoHN (q r : Int × Int × Int) (d : Int × Int) (s : Sc.Scl) (O : List E) (ok : Nat → Bool) : namesAll ok (eoH q r d s ++ [(3, .row 15 ety (O.map en))]) = true := namesAll.row rfl (namesAll.row rfl (namesAll.row rfl (namesAll.row (pure_en _) rfl)))
abbrev eoA (q r : Int × Int × Int) (d : Int × Int) (s : Sc.Scl) (l O : List E) (a o : Int) : AS := ⟨[(4, .ptr 0 6 0 0), (5, .ptr 1 2 0 0), (7, bool true), (8, .ro {} 15 (l.map en)), (9, .ptr 2 3 0 0), (10, int a), (11, int o), (12, .slm {} 3 15 0 O.length)], eoH q r d s ++ [(3, .row 15 ety (O.map en))], 4⟩
abbrev eoL (q r : Int × Int × Int) (d : Int × Int) (s : Sc.Scl) (l : List E) (a o : Int) : Nat × List E → AS
  | (k, O) => ⟨[(5, .ptr 1 2 0 0), (7, bool true), (8, .ro {} 15 (l.map en)), (9, .ptr 2 3 0 0), (10, int a), (11, int o), (12, .slm {} 3 15 0 O.length), (38, q6 q r), (39, int k)], eoH q r d s ++ [(3, .row 15 ety (O.map en))], 4⟩
abbrev eoB (q r : Int × Int × Int) (d : Int × Int) (s : Sc.Scl) (l : List E) (a o : Int) (O : List E) : AS := ⟨[(5, .ptr 1 2 0 0), (7, bool true), (8, .ro {} 15 (l.map en)), (9, .ptr 2 3 0 0), (10, int a), (11, int o), (12, .slm {} 3 15 0 O.length)], eoH q r d s ++ [(3, .row 15 ety (O.map en))], 4⟩
abbrev eoC (q r : Int × Int × Int) (d : Int × Int) (s : Sc.Scl) (l : List E) (a o : Int) (O : List E) : AS := ⟨[(5, .ptr 1 2 0 0), (7, bool true), (8, .ro {} 15 (l.map en)), (9, .ptr 2 3 0 0), (10, int a), (11, int o), (12, .ro {} 15 (O.map en))], eoH q r d s, 4⟩
theorem eo_frz {x z : Nat} (q r : Int × Int × Int) (d : Int × Int) (s : Sc.Scl) (l : List E) (a o : Int) (O : List E) : SW x z (eoB q r d s l a o O) (eoC q r d s l a o O) := by
  have h := SW.frz (p := x) (n := z) (s := eoB q r d s l a o O) [3] ?_ ?_ ?_
  · have e : (⟨frFrz (eoB q r d s l a o O).H [3].contains (eoB q r d s l a o O).fr, AH.frz (eoB q r d s l a o O).H (eoB q r d s l a o O).H [3].contains, (eoB q r d s l a o O).nx⟩ : AS) = eoC q r d s l a o O := by
      refine congr (congr (congrArg AS.mk ?_) ?_) rfl
      · simp [frFrz, AV.frz, AH.get]
        exact List.take_of_length_le (by simp)
      · rfl
    exact e ▸ h
  · simp [rowsOk, AH.get, pure_en]
  · rfl
  · simp [frFrzOk, AV.frzOk, AH.get]
abbrev eoD (q r : Int × Int × Int) (d : Int × Int) (s : Sc.Scl) (l : List E) (a o : Int) (O : List E) (i : Nat) : AS := ⟨[(5, .ptr 1 2 0 0), (7, bool true), (9, .ptr 2 3 0 0), (10, int a), (11, int o), (69, .ro {} 1 [.ro {} 15 (l.map en), .ro {} 15 (O.map en)]), (70, int 2), (71, int i)], eoH q r d s, 3⟩
abbrev eoE (q r : Int × Int × Int) (d : Int × Int) (s : Sc.Scl) (l : List E) (a o : Int) (O : List E) (i : Nat) (y : List E) : AS := ⟨[(5, .ptr 1 2 0 0), (7, bool true), (9, .ptr 2 3 0 0), (10, int a), (11, int o), (69, .ro {} 1 [.ro {} 15 (l.map en), .ro {} 15 (O.map en)]), (70, int 2), (71, int i), (17, .ro {} 15 (y.map en))], eoH q r d s, 3⟩
abbrev eoF (q r : Int × Int × Int) (d : Int × Int) (s : Sc.Scl) (l : List E) (a o : Int) (O : List E) (i : Nat) (y : List E) (st : Nat) : AS := ⟨[(5, .ptr 1 2 0 0), (7, bool true), (9, .ptr 2 3 0 0), (10, int a), (11, int o), (69, .ro {} 1 [.ro {} 15 (l.map en), .ro {} 15 (O.map en)]), (70, int 2), (71, int i), (17, .ro {} 15 (y.map en)), (18, int st)], eoH q r d s, 3⟩
abbrev eoG (q r : Int × Int × Int) (d : Int × Int) (s : Sc.Scl) (l : List E) (a o : Int) (O : List E) (i : Nat) (y : List E) (st j : Nat) : AS := ⟨[(5, .ptr 1 2 0 0), (7, bool true), (9, .ptr 2 3 0 0), (10, int a), (11, int o), (69, .ro {} 1 [.ro {} 15 (l.map en), .ro {} 15 (O.map en)]), (70, int 2), (71, int i), (17, .ro {} 15 (y.map en)), (18, int st), (84, .ro {} 2 [.agg [int a, int o], .agg [int 700, int 700], d2 d]), (85, int 3), (86, int j)], eoH q r d s, 3⟩
theorem eoV {q r : Int × Int × Int} {d : Int × Int} {s : Sc.Scl} {H : AH} {n : Nat} (h0 : AH.get H 0 = some (.row 6 27 [q6 q r])) (h1 : AH.get H 1 = some (.row 2 28 [d2 d])) (h2 : AH.get H 2 = some (.row 3 32 [Sc.scA s])) : haveV id H n (eoH q r d s) := haveV.row rfl h0 (haveV.row rfl h1 (haveV.row rfl h2 trivial))
set_option maxHeartbeats 3200000 in
set_option maxRecDepth 100000 in
theorem eof (xs : List Int) (fl : Fl) (hx : xs.length ≤ 9223372036854775807) (c : Int × Int × Int) (h1 : 0 ≤ c.1 ∧ c.1 ≤ 255) (h2 : 0 ≤ c.2.1 ∧ c.2.1 ≤ 65535) (h3 : 0 ≤ c.2.2 ∧ c.2.2 ≤ 65535) (q r : Int × Int × Int) (d : Int × Int) :
    AFun Try.prog 3 0 [.agg [.ro fl 1 (xs.map int), u8' c.1, u16 c.2.1, u16 c.2.2], q6 q r, d2 d] [] (bool true) [] := by
  obtain ⟨sc, l, a, o, hsc, ⟨hl, hM⟩, ha, ho, hC⟩ := made_f xs fl hx c h1 h2 h3
  clear h1 h2 h3
  generalize sclOf sc = s at hC
  have hml : (l.map en).length = l.length := List.length_map _
  have hbl := hM.bE hsc (by omega) (by omega)
  have hsl := hso_en l
  have r1 := room_en (n := 0 + (l.map en).length) (by omega)
  have a0 : l.map en = List.take 0 ([] : List AV) ++ l.map en := rfl
  refine AFun.of_VS T_ok Try.func3 rfl (Nat.le_of_ble_eq_true rfl) ?_
  refine VS.cut T_ok mixed rfl ?_
  ((repeat ((conv => whnf); (first | (refine LetN.pre ?_; first | ((conv => arg 1; whnf); refine LetN.mk ?_)) | (refine As.pre ?_; first | refine As.mk rfl ?_) | (refine Ck.pre ?_; first | refine Ck.mk rfl ?_)))); (try (conv => whnf)))


  refine VS.cut T_ok mixed rfl ?_
  ((repeat ((conv => whnf); (first | (refine As.pre ?_; first | refine As.mk rfl ?_) | (refine Ck.pre ?_; first | refine Ck.mk rfl ?_) | (refine CallN.pre ?_; first | refine CallN.pure sanity_f rfl rfl ?_)))); (try (conv => whnf)))
  refine VS.cut T_ok mixed rfl ?_
  ((repeat ((conv => whnf); (first | (refine LetN.pre ?_; first | ((conv => arg 1; whnf); refine LetN.mk ?_)) | (refine As.pre ?_; first | refine As.mk rfl ?_) | (refine LetV.pre ?_; first | refine LetV.mk (.agg _) rfl ?_) | (refine Ck.pre ?_; first | refine Ck.mk rfl ?_) | (refine LetL.pre ?_; first | refine LetL.mk (ty := 32) [.agg [_, _, _]] rfl ?_) | (refine CallN.pre ?_; first | refine CallN.pure hC rfl rfl ?_)))); (try (conv => whnf)))
  refine VS.cut T_ok mixed rfl ?_
  ((repeat ((conv => whnf); (first | (refine LetN.pre ?_; first | ((conv => arg 1; whnf); refine LetN.mk ?_)) | (refine As.pre ?_; first | refine As.mk rfl ?_ | (refine As.mk ?_ ?_; · ((repeat' (refine andT ?_ ?_)) <;> (first | rfl | assumption | exact decide_eq_true (by omega) | exact decide_eq_true (by dsimp only; omega) | exact decide_eq_true (by simp; omega) | (simp; done))))) | (refine Ck.pre ?_; first | refine Ck.mk rfl ?_) | (refine LetL.pre ?_; first | refine LetL.mk (ty := ety) _ a0 ?_)))); (try (conv => whnf)))

  clear hC
  refine VS.weak (s1 := eoA q r d s l l a o) ?sw0 ?_
  case sw0 => exact SW.mk (fun i => if i = 3 then 5 else if i < 3 then i + 1 else i + 6) rfl rfl (eoHN ..) ⟨.refl _, .refl _, .refl _, .refl _, .refl _, .refl _, .refl _, VLe2.slm_of (by rw [hml]; omega), trivial⟩ (haveV.row rfl rfl (haveV.row rfl rfl (haveV.row rfl rfl (haveV.row (pure_en _) rfl trivial))))
  clear r1 a0 hsl
  refine VS.joinN (eoB q r d s l a o) (fun O => O.length ≤ 24 ∧ ∀ e ∈ O, bE e) ?_ ?_
  case refine_1 =>
    refine VS.of_V T_ok mixed rfl ?_
    ((repeat ((conv => whnf); (first | (refine As.pre ?_; first | refine As.mk rfl ?_) | (refine LetV.pre ?_; first | refine LetV.mk (.agg _) rfl ?_) | (refine Ck.pre ?_; first | refine Ck.mk rfl ?_)))); (try (conv => whnf)))

    refine LoopN.weak (s1 := eoL q r d s l a o (0, l)) ?sw1 ?_
    case sw1 => exact SW.mk id rfl rfl (eoHN ..) ⟨.refl _, .refl _, .refl _, .refl _, .refl _, .refl _, .refl _, .refl _, .refl _, trivial⟩ (haveV.row rfl rfl (haveV.row rfl rfl (haveV.row rfl rfl (haveV.row (pure_en _) rfl trivial))))
    refine LoopN.ind T_ok mixed (S := eoL q r d s l a o) (fun i => 2 - i.1) (fun i => i.1 ≤ 2 ∧ i.2.length ≤ 24 ∧ ∀ e ∈ i.2, bE e) (fun _ => rfl) (fun i hi ih => ?_) (0, l) ⟨Nat.zero_le _, hl, hbl⟩
    obtain ⟨k, O⟩ := i
    obtain ⟨g0, g1, g2⟩ := hi
    dsimp only at g0 g1 g2
    clear hbl hM hml hl
    by_cases hk : k < 2
    case neg =>
      have : k = 2 := by omega
      subst this
      clear ih
      ((repeat ((conv => whnf); (first | (refine As.pre ?_; first | refine As.mk rfl ?_) | (refine LetB.pre ?_; first | refine LetB.ff rfl ?_) | (refine Br.pre ?_; first | refine Br.ff rfl ?_) | (refine Ck.pre ?_; first | refine Ck.mk rfl ?_)))); (try (conv => whnf)))
      exact ⟨rfl, O, ⟨g1, g2⟩, SW.mk id rfl rfl (eoHN ..) ⟨.refl _, .refl _, .refl _, .refl _, .refl _, .refl _, .refl _, trivial⟩ (haveV.row rfl rfl (haveV.row rfl rfl (haveV.row rfl rfl (haveV.row (pure_en _) rfl trivial))))⟩
    obtain ⟨x, hx⟩ : ∃ x : Int × Int × Int, x = if k = 0 then q else r := ⟨_, rfl⟩
    by_cases h0 : O = []
    · subst h0
      have hnx := ih (k + 1, []) ⟨hk, g1, g2⟩ (by show 2 - (k + 1) < 2 - k; omega)
      clear ih
      have hkc : k = 0 ∨ k = 1 := by omega
      rcases hkc with rfl | rfl
      all_goals
        ((repeat ((conv => whnf); (first | (refine LetN.pre ?_; first | ((conv => arg 1; whnf); refine LetN.mk ?_)) | (refine As.pre ?_; first | refine As.mk rfl ?_) | (refine LetV.pre ?_; first | refine LetV.mk (.agg _) rfl ?_) | (refine LetI.pre ?_; first | refine LetI.wrap (by omega) (by omega) ?_ | refine LetI.mk _ rfl ?_) | (refine LetB.pre ?_; first | refine LetB.tt rfl ?_ | refine LetB.ff rfl ?_) | (refine Br.pre ?_; first | refine Br.tt rfl ?_ | refine Br.ff rfl ?_) | (refine Ck.pre ?_; first | refine Ck.mk rfl ?_) | (refine LetL.pre ?_; first | refine LetL.mk (ty := 26) [.agg [_, _, _]] rfl ?_)))); (try (conv => whnf)))

        refine LoopN.weak ?sw2 hnx
        case sw2 => exact SW.mk id rfl rfl (eoHN ..) ⟨.refl _, .refl _, .refl _, .refl _, .refl _, .refl _, .refl _, .refl _, VLe2.int (by omega), trivial⟩ (haveV.row rfl rfl (haveV.row rfl rfl (haveV.row rfl rfl (haveV.row (pure_en _) rfl trivial))))
    have hpos : 0 < O.length := List.length_pos_iff.2 h0
    obtain ⟨u, hu⟩ : ∃ u : Int, u = IntKind.u64.wrap x.2.2 := ⟨_, rfl⟩
    have hub : 0 ≤ u := by rw [hu]; exact Int.emod_nonneg _ (by decide)
    have hn : (O.length : Int) = IntKind.u64.wrap (O.length : Int) := u64_id (by omega)
    obtain ⟨j, hj, hjj⟩ : ∃ j : Nat, j < O.length ∧ (j : Int) = u.tmod (O.length : Int) := by
      have h1 := Int.tmod_nonneg (O.length : Int) hub
      have h2 := Int.tmod_lt_of_pos u (b := (O.length : Int)) (by omega)
      exact ⟨(u.tmod (O.length : Int)).toNat, by omega, by omega⟩
    have hnz : ((O.length : Int) != 0) = true := bne_iff_ne.2 (by omega)
    have hwj : (j : Int) = IntKind.i64.wrap (j : Int) := (wrap_id (by omega) (by omega)).symm
    have hmo : (O.map en).length = O.length := List.length_map _
    obtain ⟨e', he', hO⟩ := Odd10_f (O.getD j e0) x.1 x.2.1 (g2 _ (getD_mem' hj))
    have hnx := ih (k + 1, O.set j e') ⟨hk, by simpa using g1, fun e he => by
      rcases List.mem_or_eq_of_mem_set he with h | h
      · exact g2 e h
      · rw [h]; exact he'⟩ (by show 2 - (k + 1) < 2 - k; omega)
    clear ih
    have hv : en (O.getD j e0) = Am.part true 15 0 15 ((O.map en).getD (0 + j) (.sc undef)) := getD_en hj
    have hset := set_en (l := O) (j := j) e'
    have hls : (O.set j e').length = O.length := List.length_set
    unfold od at hO
    generalize O.getD j e0 = e at hv hO
    have hkc : k = 0 ∨ k = 1 := by omega
    rcases hkc with rfl | rfl
    all_goals
      first | rw [if_pos rfl] at hx | rw [if_neg (by decide)] at hx
      subst hx
      ((repeat ((conv => whnf); (first | (refine LetN.pre ?_; first | ((conv => arg 1; whnf); refine LetN.mk ?_)) | (refine As.pre ?_; first | refine As.mk rfl ?_ | refine As.mk hnz ?_ | (refine As.mk ?_ ?_; · ((repeat' (refine andT ?_ ?_)) <;> (first | rfl | assumption | exact decide_eq_true (by omega) | exact decide_eq_true (by dsimp only; omega) | exact decide_eq_true (by simp; omega) | (simp; done))))) | (refine LetV.pre ?_; first | refine LetV.mk (t := ety) _ hv ?_ | refine LetV.mk (.sc (.int _ _)) rfl ?_ | refine LetV.mk (.agg _) rfl ?_) | (refine LetI.pre ?_; first | refine LetI.mk (o := none) u hu ?_ | refine LetI.mk (o := none) (O.length : Int) hn ?_ | refine LetI.mk (o := some .rem) (j : Int) hjj ?_ | refine LetI.mk (o := none) (j : Int) hwj ?_ | refine LetI.wrap (by omega) (by omega) ?_ | refine LetI.mk _ rfl ?_) | (refine LetB.pre ?_; first | refine LetB.tt rfl ?_ | refine LetB.dect (by omega) ?_) | (refine Br.pre ?_; first | refine Br.tt rfl ?_) | (refine Ck.pre ?_; first | refine Ck.drawn (by kernel_rfl) ?_ | refine Ck.mk rfl ?_) | (refine LetL.pre ?_; first | refine LetL.mk (ty := 26) [.agg [_, _, _]] rfl ?_ | refine LetL.mk (ty := ety) _ hset ?_) | (refine CallN.pre ?_; first | refine CallN.pure hO rfl rfl ?_)))); (try (conv => whnf)))









      refine LoopN.weak ?sw3 hnx
      case sw3 => exact SW.mk id rfl rfl (eoHN ..) ⟨.refl _, .refl _, .refl _, .refl _, .refl _, .refl _, VLe2.slm_of hls, .refl _, VLe2.int (by omega), trivial⟩ (haveV.row rfl rfl (haveV.row rfl rfl (haveV.row rfl rfl (haveV.row (pure_en _) rfl trivial))))
  intro O ⟨hO1, hO2⟩
  refine VS.weak (eo_frz q r d s l a o O) ?_
  have hy1 : l.length < 40 ∧ ∀ e ∈ l, okB e := ⟨by omega, fun e he => (hbl e he).okB⟩
  have hy2 : O.length < 40 ∧ ∀ e ∈ O, okB e := ⟨by omega, fun e he => (hO2 e he).okB⟩
  clear hO1 hO2 hbl hM hml hl
  refine VS.joinN (fun _ : Unit => (⟨[(7, bool true)], [], 0⟩ : AS)) (fun _ => True) ?_ ?_
  case refine_2 =>
    intro _ _
    refine VS.of_V T_ok mixed rfl ?_
    ((repeat ((conv => whnf); (first | (refine As.pre ?_; first | refine As.mk rfl ?_) | (refine Ck.pre ?_; first | refine Ck.mk rfl ?_)))); (try (conv => whnf)))
    exact ⟨⟨[(6, bool true)], [], 0⟩, SW.fr0 (Nat.le_refl _) rfl ⟨.refl _, trivial⟩, .inl rfl, ⟨_, rfl, rfl⟩, trivial⟩
  refine VS.cut T_ok mixed rfl ?_
  ((repeat ((conv => whnf); (first | (refine As.pre ?_; first | refine As.mk rfl ?_) | (refine LetI.pre ?_; first | refine LetI.mk _ rfl ?_) | (refine Ck.pre ?_; first | refine Ck.mk rfl ?_)))); (try (conv => whnf)))
  refine VS.block (VS.loop ?_)
  refine LoopN.weak (s1 := eoD q r d s l a o O 0) ?sw4 ?_
  case sw4 => exact SW.mk id rfl rfl rfl ⟨.refl _, .refl _, .refl _, .refl _, .refl _, VLe2.ro_of rfl, .refl _, .refl _, trivial⟩ (eoV rfl rfl rfl)
  refine LoopN.indS (S := eoD q r d s l a o O) (fun i => 2 - i) (fun i => i ≤ 2) (fun i hi ih => ?_) 0 (Nat.zero_le _)
  by_cases hi2 : i < 2
  case neg =>
    clear ih
    refine VS.of_V T_ok mixed rfl ?_
    ((repeat ((conv => whnf); (first | (refine As.pre ?_; first | refine As.mk rfl ?_) | (refine LetB.pre ?_; first | refine LetB.decf (by omega) ?_) | (refine Br.pre ?_; first | refine Br.ff rfl ?_) | (refine Ck.pre ?_; first | refine Ck.mk rfl ?_)))); (try (conv => whnf)))
    exact ⟨rfl, (), trivial, SW.fr0 (Nat.zero_le _) rfl ⟨.refl _, trivial⟩⟩
  have hnx := ih (i + 1) hi2 (by omega)
  clear ih
  obtain ⟨y, hy, hyv⟩ : ∃ y : List E, (y.length < 40 ∧ ∀ e ∈ y, okB e) ∧ AV.ro {} 15 (y.map en) = ([.ro {} 15 (l.map en), .ro {} 15 (O.map en)] : List AV).getD i (.sc undef) := by
    have : i = 0 ∨ i = 1 := by omega
    rcases this with rfl | rfl
    · exact ⟨l, hy1, rfl⟩
    · exact ⟨O, hy2, rfl⟩
  clear hy1 hy2
  refine VS.cut T_ok mixed rfl ?_
  ((repeat ((conv => whnf); (first | (refine As.pre ?_; first | refine As.mk rfl ?_) | (refine LetB.pre ?_; first | refine LetB.dect (by omega) ?_) | (refine Ck.pre ?_; first | refine Ck.mk rfl ?_)))); (try (conv => whnf)))
  refine VS.cut T_ok mixed rfl ?_
  ((repeat ((conv => whnf); (first | (refine Br.pre ?_; first | refine Br.tt rfl ?_) | (refine Ck.pre ?_; first | refine Ck.mk rfl ?_)))); (try (conv => whnf)))
  refine VS.joinN (fun _ : Unit => eoD q r d s l a o O i) (fun _ => True) ?_ ?_
  case refine_2 =>
    intro _ _
    refine VS.of_V T_ok mixed rfl ?_
    ((repeat ((conv => whnf); (first | (refine As.pre ?_; first | refine As.mk rfl ?_) | (refine LetI.pre ?_; first | refine LetI.wrap (by omega) (by omega) ?_) | (refine Ck.pre ?_; first | refine Ck.mk rfl ?_)))); (try (conv => whnf)))
    refine LoopN.weak ?sw5 hnx
    case sw5 => exact SW.mk id rfl rfl rfl ⟨.refl _, .refl _, .refl _, .refl _, .refl _, .refl _, .refl _, VLe2.int (by omega), trivial⟩ (eoV rfl rfl rfl)
  clear hnx
  refine VS.block ?_
  refine VS.cut T_ok mixed rfl ?_
  ((repeat ((conv => whnf); (first | (refine As.pre ?_; first | refine As.mk rfl ?_ | (refine As.mk ?_ ?_; · ((repeat' (refine andT ?_ ?_)) <;> (first | rfl | assumption | exact decide_eq_true (by omega) | exact decide_eq_true (by dsimp only; omega) | exact decide_eq_true (by simp; omega) | (simp; done))))) | (refine LetV.pre ?_; first | refine LetV.mk (t := 39) _ hyv ?_ | refine LetV.mk (.ro _ _ _) rfl ?_) | (refine Ck.pre ?_; first | refine Ck.mk rfl ?_)))); (try (conv => whnf)))
  refine VS.weak (s1 := eoE q r d s l a o O i y) ?sw6 ?_
  case sw6 => exact SW.mk id rfl rfl rfl ⟨.refl _, .refl _, .refl _, .refl _, .refl _, .refl _, .refl _, .refl _, .refl _, trivial⟩ (eoV rfl rfl rfl)
  clear hyv
  refine VS.cut T_ok mixed rfl ?_
  ((repeat ((conv => whnf); (first | (refine As.pre ?_; first | refine As.mk rfl ?_) | (refine Ck.pre ?_; first | refine Ck.mk rfl ?_)))); (try (conv => whnf)))
  refine VS.block (VS.loop ?_)
  refine LoopN.weak (s1 := eoF q r d s l a o O i y 0) ?sw7 ?_
  case sw7 => exact SW.mk id rfl rfl rfl ⟨.refl _, .refl _, .refl _, .refl _, .refl _, .refl _, .refl _, .refl _, .refl _, .refl _, trivial⟩ (eoV rfl rfl rfl)
  refine LoopN.indS (S := eoF q r d s l a o O i y) (fun st => 4 - st) (fun st => st ≤ 4) (fun st hst ih => ?_) 0 (Nat.zero_le _)
  by_cases hs4 : st < 4
  case neg =>
    clear ih
    refine VS.of_V T_ok mixed rfl ?_
    ((repeat ((conv => whnf); (first | (refine As.pre ?_; first | refine As.mk rfl ?_) | (refine LetB.pre ?_; first | refine LetB.decf (by omega) ?_) | (refine Br.pre ?_; first | refine Br.ff rfl ?_) | (refine Ck.pre ?_; first | refine Ck.mk rfl ?_)))); (try (conv => whnf)))
    exact ⟨rfl, (), trivial, SW.mk id rfl rfl rfl ⟨.refl _, .refl _, .refl _, .refl _, .refl _, .refl _, .refl _, .refl _, trivial⟩ (eoV rfl rfl rfl)⟩
  have hnx := ih (st + 1) hs4 (by omega)
  clear ih
  refine VS.cut T_ok mixed rfl ?_
  ((repeat ((conv => whnf); (first | (refine As.pre ?_; first | refine As.mk rfl ?_) | (refine LetB.pre ?_; first | refine LetB.dect (by omega) ?_) | (refine Br.pre ?_; first | refine Br.tt rfl ?_) | (refine Ck.pre ?_; first | refine Ck.mk rfl ?_)))); (try (conv => whnf)))
  refine VS.joinN (fun _ : Unit => eoF q r d s l a o O i y st) (fun _ => True) ?_ ?_
  case refine_2 =>
    intro _ _
    refine VS.of_V T_ok mixed rfl ?_
    ((repeat ((conv => whnf); (first | (refine As.pre ?_; first | refine As.mk rfl ?_) | (refine LetI.pre ?_; first | refine LetI.wrap (by omega) (by omega) ?_) | (refine Ck.pre ?_; first | refine Ck.mk rfl ?_)))); (try (conv => whnf)))
    refine LoopN.weak ?sw8 hnx
    case sw8 => exact SW.mk id rfl rfl rfl ⟨.refl _, .refl _, .refl _, .refl _, .refl _, .refl _, .refl _, .refl _, .refl _, VLe2.int (by omega), trivial⟩ (eoV rfl rfl rfl)
  clear hnx
  refine VS.block ?_
  refine VS.cut T_ok mixed rfl ?_
  ((repeat ((conv => whnf); (first | (refine As.pre ?_; first | refine As.mk rfl ?_) | (refine LetV.pre ?_; first | refine LetV.mk (.agg _) rfl ?_) | (refine LetI.pre ?_; first | refine LetI.mk _ rfl ?_) | (refine Ck.pre ?_; first | refine Ck.mk rfl ?_)))); (try (conv => whnf)))
  refine VS.block (VS.loop ?_)
  refine LoopN.weak (s1 := eoG q r d s l a o O i y st 0) ?sw9 ?_
  case sw9 => exact SW.mk id rfl rfl rfl ⟨.refl _, .refl _, .refl _, .refl _, .refl _, .refl _, .refl _, .refl _, .refl _, .refl _, VLe2.ro_of rfl, .refl _, .refl _, trivial⟩ (eoV rfl rfl rfl)
  refine LoopN.indS (S := eoG q r d s l a o O i y st) (fun j => 3 - j) (fun j => j ≤ 3) (fun j hj ih => ?_) 0 (Nat.zero_le _)
  by_cases hj3 : j < 3
  case neg =>
    clear ih
    refine VS.of_V T_ok mixed rfl ?_
    ((repeat ((conv => whnf); (first | (refine As.pre ?_; first | refine As.mk rfl ?_) | (refine LetB.pre ?_; first | refine LetB.decf (by omega) ?_) | (refine Br.pre ?_; first | refine Br.ff rfl ?_) | (refine Ck.pre ?_; first | refine Ck.mk rfl ?_)))); (try (conv => whnf)))
    exact ⟨rfl, (), trivial, SW.mk id rfl rfl rfl ⟨.refl _, .refl _, .refl _, .refl _, .refl _, .refl _, .refl _, .refl _, .refl _, .refl _, trivial⟩ (eoV rfl rfl rfl)⟩
  have hnx := ih (j + 1) hj3 (by omega)
  clear ih
  obtain ⟨v, hv⟩ : ∃ v : Int × Int, d2 v = ([.agg [int a, int o], .agg [int 700, int 700], d2 d] : List AV).getD j (.sc undef) := by
    have : j = 0 ∨ j = 1 ∨ j = 2 := by omega
    rcases this with rfl | rfl | rfl
    · exact ⟨(a, o), rfl⟩
    · exact ⟨(700, 700), rfl⟩
    · exact ⟨d, rfl⟩
  have O1 := OfA_f y s st v.1 v.2 hy.1 hy.2
  have O2 := refOfA_f y s st v.1 v.2 hy.1 hy.2
  have hlA := ofA_len y s st v.1 v.2
  have hoA := ofA_ok y s st v.1 v.2
  generalize ofA y s st v.1 v.2 = A at O1 O2 hlA hoA
  have P1 := SameAll_f A hoA (by omega)
  have P2 := CreditsA_f A (by omega)
  have P3 := refCreditsA_f A (by omega)
  have P4 := MeanA_f A (by omega)
  have P5 := refMeanA_f A (by omega)
  generalize meanA A = mm at P4 P5
  obtain ⟨⟨n, dd⟩, ok⟩ := mm
  generalize sumC A = su at P2 P3
  dsimp only [mnV] at P4 P5
  clear hoA hlA hy
  have hok : (ok != ok) = false := by simp
  have hsu : (su != su) = false := by simp
  have hne : (!(n == n && (dd == dd && true))) = false := by simp
  refine VS.of_V T_ok mixed rfl ?_
  ((repeat ((conv => whnf); (first | (refine LetN.pre ?_; first | ((conv => arg 1; whnf); refine LetN.mk ?_)) | (refine As.pre ?_; first | refine As.mk rfl ?_ | (refine As.mk ?_ ?_; · ((repeat' (refine andT ?_ ?_)) <;> (first | rfl | assumption | exact decide_eq_true (by omega) | exact decide_eq_true (by dsimp only; omega) | exact decide_eq_true (by simp; omega) | (simp; done))))) | (refine LetV.pre ?_; first | refine LetV.mk (t := 40) _ hv ?_ | refine LetV.mk (.sc (.int _ _)) rfl ?_ | refine LetV.mk (.agg _) rfl ?_) | (refine LetI.pre ?_; first | refine LetI.wrap (by omega) (by omega) ?_) | (refine LetB.pre ?_; first | refine LetB.ff (by assumption) ?_ | refine LetB.dect (by omega) ?_) | (refine Gd.pre ?_; first | refine Gd.run rfl ?_) | (refine Br.pre ?_; first | refine Br.tt rfl ?_ | refine Br.ff rfl ?_) | (refine Ck.pre ?_; first | refine Ck.drawn (by kernel_rfl) ?_ | refine Ck.mk rfl ?_) | (refine LetL.pre ?_; first | refine LetL.mk (ty := 28) [.agg [_, _]] rfl ?_ | refine LetL.mk (ty := 44) [.agg [_, _]] rfl ?_) | (refine CallN.pre ?_; first | refine CallN.pure O1 rfl rfl ?_ | refine CallN.pure O2 rfl rfl ?_ | refine CallN.pure P1 rfl rfl ?_ | refine CallN.pure P2 rfl rfl ?_ | refine CallN.pure P3 rfl rfl ?_ | refine CallN.pure P4 rfl rfl ?_ | refine CallN.pure P5 rfl rfl ?_)))); (try (conv => whnf)))













  refine LoopN.weak ?swa hnx
  case swa => exact SW.mk id rfl rfl rfl ⟨.refl _, .refl _, .refl _, .refl _, .refl _, .refl _, .refl _, .refl _, .refl _, .refl _, .refl _, .refl _, VLe2.int (by omega), trivial⟩ (eoV rfl rfl rfl)
theorem eof_row (x : List Int × Int × Int × Int) (hx : x.1.length ≤ 9223372036854775807) (h1 : 0 ≤ x.2.1 ∧ x.2.1 ≤ 255) (h2 : 0 ≤ x.2.2.1 ∧ x.2.2.1 ≤ 65535) (h3 : 0 ≤ x.2.2.2 ∧ x.2.2.2 ≤ 65535) (q : (Int × Int × Int) × (Int × Int × Int)) (d : Int × Int) :
    AFun Try.prog 3 0 [.agg [.ro {} 1 (x.1.map int), u8' x.2.1, u16 x.2.2.1, u16 x.2.2.2], q6 q.1 q.2, d2 d] [] (bool true) [] := eof x.1 {} hx x.2 h1 h2 h3 q.1 q.2 d
end En
end Go.Proofs.Ytiefcppgbnfbfaa
