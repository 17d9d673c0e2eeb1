/- earn: parts of the proof, DearnHI DearnHJ DearnHK DearnHL DearnLG DearnSM DearnLH. -/
import Derived.Test.YtiefcppgbnfbfaaL42
import Derived.Lib.Strings
import Derived.Lib.Slices
import Derived.Lib.Walk
import Derived.Lib.Bytealg
import Derived.Test.YtiefcppgbnfbfaaL41
set_option linter.all false
namespace Go.Proofs.Ytiefcppgbnfbfaa
open Go.Proofs.Ytiefcppgbnfbfaa.Am
set_option maxRecDepth 100000
namespace En
/-! ### Free -/
abbrev ac0 : Ac := ⟨0, ⟨#[]⟩, 0, 0, 0, [], 0, []⟩
abbrev oksA (l : List Ac) : Prop := ∀ a ∈ l, okA a
def frP : List Ac → Bool
  | [] => true
  | a :: l => !(l.any fun b => !apP a b) && frP l
theorem getD_ac {l : List Ac} {k : Nat} (h : k < l.length) : acA (l.getD k ac0) = (l.map acA).getD k (.sc undef) := mapD ac0 h
theorem getD_mem {l : List Ac} {k : Nat} (h : k < l.length) : l.getD k ac0 ∈ l := by
  rw [List.getD_eq_getElem?_getD, List.getElem?_eq_getElem h]; exact List.getElem_mem _
theorem Free1_f (a b : Ac) (ha : okA a) (hb : okA b) : AFun Try.prog 50 0 [acA b, .rp (acA a) 0] [] (bool (!apP a b)) [] := by
  refine AFun.of_W T_ok mixed Try.func50 rfl (Nat.le_of_ble_eq_true rfl) rfl ?_
  have h := Apart_f a b ha hb
  generalize apP a b = m at h ⊢
  ((repeat ((conv => whnf); (first | (refine LetN.pre ?_; first | ((conv => arg 1; whnf); refine LetN.mk ?_)) | (refine As.pre ?_; first | refine As.mk rfl ?_) | (refine LetV.pre ?_; first | refine LetV.mk (.agg _) rfl ?_) | (refine Ck.pre ?_; first | refine Ck.mk rfl ?_) | (refine CallN.pre ?_; first | refine CallN.pure h rfl rfl ?_)))); (try (conv => whnf)))
  exact ⟨.inl rfl, ⟨_, rfl, rfl⟩, trivial⟩
abbrev clV (a : Ac) : AV := .clo 50 [.rp (acA a) 0]
set_option maxRecDepth 100000 in
theorem IndexA_f (l : List Ac) (a : Ac) (fl : Fl) (hl : l.length ≤ 1000) (ho : oksA l) (ha : okA a) : AFun Try.prog 79 0 [.ro fl 8 (l.map acA), clV a] [] (int (fidx (fun b => !apP a b) l 0)) [] := by
  refine AFun.of_W T_ok mixed Try.func79 rfl (Nat.le_of_ble_eq_true rfl) rfl ?_
  have hm : (l.map acA).length = l.length := List.length_map _
  ((repeat ((conv => whnf); (first | (refine As.pre ?_; first | refine As.mk rfl ?_) | (refine LetI.pre ?_; first | refine LetI.mk _ rfl ?_) | (refine Ck.pre ?_; first | refine Ck.mk rfl ?_)))); (try (conv => whnf)))
  refine LoopN.weak (s1 := ⟨[(0, .ro fl 8 (l.map acA)), (1, clV a), (7, int l.length), (8, int (0 : Nat))], [], 0⟩) (SW.fr0 (Nat.le_refl _) rfl ⟨.refl _, .refl _, VLe2.int (by rw [List.length_map]), .refl _, trivial⟩) ?_
  refine LoopN.ind T_ok mixed (S := fun k : Nat => ⟨[(0, .ro fl 8 (l.map acA)), (1, clV a), (7, int l.length), (8, int k)], [], 0⟩) (fun k => l.length - k) (fun k => k ≤ l.length ∧ fidx (fun b => !apP a b) l 0 = fidx (fun b => !apP a b) (l.drop k) k) (fun _ => rfl) (fun k hk ih => ?_) 0 ⟨Nat.zero_le _, rfl⟩
  obtain ⟨h1, h2⟩ := hk
  by_cases hlt : k < l.length
  case neg =>
    rw [fidx_end hlt] at h2
    rw [h2]
    clear ih
    ((repeat ((conv => whnf); (first | (refine As.pre ?_; first | refine As.mk rfl ?_) | (refine LetB.pre ?_; first | refine LetB.decf (by omega) ?_) | (refine Br.pre ?_; first | refine Br.ff rfl ?_) | (refine Ck.pre ?_; first | refine Ck.mk rfl ?_)))); (try (conv => whnf)))
    exact ⟨.inl rfl, ⟨_, rfl, rfl⟩, trivial⟩
  case pos =>
    have hld := getD_ac hlt
    have hb := ho _ (getD_mem hlt)
    rw [fidx_drop hlt ac0] at h2
    generalize l.getD k ac0 = b at hld h2 hb
    have hF := Free1_f a b ha hb
    generalize apP a b = m at h2 hF
    cases m with
    | true =>
      rw [if_neg (by decide)] at h2
      ((repeat ((conv => whnf); (first | (refine As.pre ?_; first | refine As.mk rfl ?_ | (refine As.mk ?_ ?_; · ((repeat' (refine andT ?_ ?_)) <;> (first | rfl | assumption | exact decide_eq_true (by omega) | exact decide_eq_true (by dsimp only; omega) | exact decide_eq_true (by simp; omega) | (simp; done))))) | (refine LetV.pre ?_; first | refine LetV.mk (t := 41) _ hld ?_ | refine LetV.mk (.agg _) rfl ?_) | (refine LetI.pre ?_; first | refine LetI.wrap (by omega) (by omega) ?_) | (refine LetB.pre ?_; first | refine LetB.dect (by omega) ?_) | (refine Br.pre ?_; first | refine Br.tt rfl ?_ | refine Br.ff rfl ?_) | (refine Ck.pre ?_; first | refine Ck.mk rfl ?_) | (refine CallN.pre ?_; first | refine CallN.pure hF rfl rfl ?_)))); (try (conv => whnf)))
      refine LoopN.weak ?_ (ih (k + 1) ⟨by omega, h2⟩ (by omega))
      exact SW.fr0 (Nat.le_refl _) rfl ⟨.refl _, .refl _, .refl _, VLe2.int (by omega), trivial⟩
    | false =>
      rw [if_pos (by decide)] at h2
      rw [h2]
      clear ih h2
      ((repeat ((conv => whnf); (first | (refine As.pre ?_; first | refine As.mk rfl ?_ | (refine As.mk ?_ ?_; · ((repeat' (refine andT ?_ ?_)) <;> (first | rfl | assumption | exact decide_eq_true (by omega) | exact decide_eq_true (by dsimp only; omega) | exact decide_eq_true (by simp; omega) | (simp; done))))) | (refine LetV.pre ?_; first | refine LetV.mk (t := 41) _ hld ?_ | refine LetV.mk (.agg _) rfl ?_) | (refine LetB.pre ?_; first | refine LetB.dect (by omega) ?_) | (refine Br.pre ?_; first | refine Br.tt rfl ?_) | (refine Ck.pre ?_; first | refine Ck.mk rfl ?_) | (refine CallN.pre ?_; first | refine CallN.pure hF rfl rfl ?_)))); (try (conv => whnf)))
      exact ⟨.inl rfl, ⟨_, rfl, rfl⟩, trivial⟩
theorem ContainsA_f (l : List Ac) (a : Ac) (fl : Fl) (hl : l.length ≤ 1000) (ho : oksA l) (ha : okA a) : AFun Try.prog 51 0 [.ro fl 8 (l.map acA), clV a] [] (bool (l.any fun b => !apP a b)) [] := by
  refine AFun.of_W T_ok mixed Try.func51 rfl (Nat.le_of_ble_eq_true rfl) rfl ?_
  have h := IndexA_f l a fl hl ho ha
  rw [← ge_any]
  generalize fidx (fun b => !apP a b) l 0 = i at h ⊢
  ((repeat ((conv => whnf); (first | (refine As.pre ?_; first | refine As.mk rfl ?_) | (refine LetB.pre ?_; first | refine LetB.mk _ rfl ?_) | (refine Ck.pre ?_; first | refine Ck.mk rfl ?_) | (refine CallN.pre ?_; first | refine CallN.pure h rfl rfl ?_)))); (try (conv => whnf)))
  exact ⟨.inl rfl, ⟨_, rfl, rfl⟩, trivial⟩
theorem frP_drop {l : List Ac} {k : Nat} (h : k < l.length) : frP (l.drop k) = (!((l.drop (k + 1)).any fun b => !apP (l.getD k ac0) b) && frP (l.drop (k + 1))) := by
  rw [List.drop_eq_getElem_cons h, List.getD_eq_getElem?_getD, List.getElem?_eq_getElem h]; rfl
set_option maxRecDepth 100000 in
theorem Free_f (l : List Ac) (fl : Fl) (hl : l.length ≤ 1000) (ho : oksA l) : AFun Try.prog 21 0 [.ro fl 8 (l.map acA)] [] (bool (frP l)) [] := by
  refine AFun.of_W T_ok mixed Try.func21 rfl (Nat.le_of_ble_eq_true rfl) rfl ?_
  have hm : (l.map acA).length = l.length := List.length_map _
  ((repeat ((conv => whnf); (first | (refine As.pre ?_; first | refine As.mk rfl ?_) | (refine LetI.pre ?_; first | refine LetI.mk _ rfl ?_) | (refine Ck.pre ?_; first | refine Ck.mk rfl ?_)))); (try (conv => whnf)))
  refine LoopN.weak (s1 := ⟨[(0, .ro fl 8 (l.map acA)), (6, .ro fl 8 (l.map acA)), (7, int l.length), (8, int (0 : Nat))], [], 0⟩) (SW.fr0 (Nat.le_refl _) rfl ⟨.refl _, .refl _, VLe2.int (by rw [List.length_map]), .refl _, trivial⟩) ?_
  refine LoopN.ind T_ok mixed (S := fun k : Nat => ⟨[(0, .ro fl 8 (l.map acA)), (6, .ro fl 8 (l.map acA)), (7, int l.length), (8, int k)], [], 0⟩) (fun k => l.length - k) (fun k => k ≤ l.length ∧ frP l = frP (l.drop k)) (fun _ => rfl) (fun k hk ih => ?_) 0 ⟨Nat.zero_le _, rfl⟩
  obtain ⟨h1, h2⟩ := hk
  by_cases hlt : k < l.length
  case neg =>
    rw [List.drop_eq_nil_of_le (by omega), frP] at h2
    rw [h2]
    clear ih
    ((repeat ((conv => whnf); (first | (refine As.pre ?_; first | refine As.mk rfl ?_) | (refine LetB.pre ?_; first | refine LetB.decf (by omega) ?_) | (refine Br.pre ?_; first | refine Br.ff rfl ?_) | (refine Ck.pre ?_; first | refine Ck.mk rfl ?_)))); (try (conv => whnf)))
    exact ⟨.inl rfl, ⟨_, rfl, rfl⟩, trivial⟩
  case pos =>
    have hld := getD_ac hlt
    have ha := ho _ (getD_mem hlt)
    rw [frP_drop hlt] at h2
    generalize l.getD k ac0 = a at hld h2 ha
    have hC := ContainsA_f (l.drop (k + 1)) a ⟨false, fl.nn⟩ (by simp; omega) (fun b hb => ho b (List.mem_of_mem_drop hb)) ha
    generalize ((l.drop (k + 1)).any fun b => !apP a b) = m at h2 hC
    have hdr : AV.ro ⟨false, fl.nn⟩ 8 ((l.drop (k + 1)).map acA) = .ro ⟨false, fl.nn⟩ 8 (List.take (((l.map acA).length : Int).toNat - ((k : Int) + 1).toNat) (List.drop ((k : Int) + 1).toNat (l.map acA))) := by
      have e : ((k : Int) + 1).toNat = k + 1 := by omega
      rw [e, List.map_drop, List.take_of_length_le]
      simp only [List.length_drop, Int.toNat_natCast]; omega
    cases m with
    | true =>
      rw [Bool.not_true, Bool.false_and] at h2
      rw [h2]
      clear ih h2
      ((repeat ((conv => whnf); (first | (refine LetN.pre ?_; first | ((conv => arg 1; whnf); refine LetN.mk ?_)) | (refine As.pre ?_; first | refine As.mk rfl ?_ | (refine As.mk ?_ ?_; · ((repeat' (refine andT ?_ ?_)) <;> (first | rfl | assumption | exact decide_eq_true (by omega) | exact decide_eq_true (by dsimp only; omega) | exact decide_eq_true (by simp; omega) | (simp; done))))) | (refine LetV.pre ?_; first | refine LetV.mk (t := 41) _ hld ?_ | refine LetV.mk (t := 41) _ hdr ?_ | refine LetV.mk (.agg _) rfl ?_) | (refine LetI.pre ?_; first | refine LetI.wrap (by omega) (by omega) ?_) | (refine LetB.pre ?_; first | refine LetB.dect (by omega) ?_) | (refine Br.pre ?_; first | refine Br.tt rfl ?_) | (refine Ck.pre ?_; first | refine Ck.mk rfl ?_) | (refine LetL.pre ?_; first | refine LetL.mk [_] rfl ?_) | (refine CallN.pre ?_; first | refine CallN.lend hC rfl (.same rfl (.clo (.ptr rfl rfl rfl .nil) .nil)) ?_)))); (try (conv => whnf)))
      exact ⟨.inl rfl, ⟨_, rfl, rfl⟩, trivial⟩
    | false =>
      rw [Bool.not_false, Bool.true_and] at h2
      ((repeat ((conv => whnf); (first | (refine LetN.pre ?_; first | ((conv => arg 1; whnf); refine LetN.mk ?_)) | (refine As.pre ?_; first | refine As.mk rfl ?_ | (refine As.mk ?_ ?_; · ((repeat' (refine andT ?_ ?_)) <;> (first | rfl | assumption | exact decide_eq_true (by omega) | exact decide_eq_true (by dsimp only; omega) | exact decide_eq_true (by simp; omega) | (simp; done))))) | (refine LetV.pre ?_; first | refine LetV.mk (t := 41) _ hld ?_ | refine LetV.mk (t := 41) _ hdr ?_ | refine LetV.mk (.agg _) rfl ?_) | (refine LetI.pre ?_; first | refine LetI.wrap (by omega) (by omega) ?_) | (refine LetB.pre ?_; first | refine LetB.dect (by omega) ?_) | (refine Br.pre ?_; first | refine Br.tt rfl ?_ | refine Br.ff rfl ?_) | (refine Ck.pre ?_; first | refine Ck.mk rfl ?_) | (refine LetL.pre ?_; first | refine LetL.mk [_] rfl ?_) | (refine CallN.pre ?_; first | refine CallN.lend hC rfl (.same rfl (.clo (.ptr rfl rfl rfl .nil) .nil)) ?_)))); (try (conv => whnf)))
      refine LoopN.weak ?_ (ih (k + 1) ⟨by omega, h2⟩ (by omega))
      exact SW.fr0 (Nat.le_refl _) rfl ⟨.refl _, .refl _, .refl _, VLe2.int (by omega), trivial⟩
/-! ### The reference's -/
abbrev pairA (l : List Ac) (k : Nat) : Bool := (l.take k).all fun a => apP a (l.getD k ac0)
def frR (l : List Ac) : Bool := (List.range l.length).all (pairA l)
theorem all_drop {α : Type} (f : α → Bool) {l : List α} {k : Nat} (h : k < l.length) (d : α) : (l.drop k).all f = (f (l.getD k d) && (l.drop (k + 1)).all f) := by
  rw [List.drop_eq_getElem_cons h, List.all_cons, List.getD_eq_getElem?_getD, List.getElem?_eq_getElem h]; rfl
theorem all_rdrop (f : Nat → Bool) {n k : Nat} (h : k < n) : ((List.range n).drop k).all f = (f k && ((List.range n).drop (k + 1)).all f) := by
  rw [all_drop f (by simpa using h) 0, List.getD_eq_getElem?_getD, List.getElem?_eq_getElem (by simpa using h), List.getElem_range]; rfl
set_option maxRecDepth 100000 in
theorem refFree_f (l : List Ac) (fl : Fl) (hl : l.length ≤ 1000) (ho : oksA l) : AFun Try.prog 32 0 [.ro fl 8 (l.map acA)] [] (bool (frR l)) [] := by
  refine AFun.of_W T_ok mixed Try.func32 rfl (Nat.le_of_ble_eq_true rfl) rfl ?_
  have hm : (l.map acA).length = l.length := List.length_map _
  ((repeat ((conv => whnf); (first | (refine As.pre ?_; first | refine As.mk rfl ?_) | (refine Ck.pre ?_; first | refine Ck.mk rfl ?_)))); (try (conv => whnf)))
  refine LoopN.weak (s1 := ⟨[(0, .ro fl 8 (l.map acA)), (3, int (0 : Nat))], [], 0⟩) (SW.fr0 (Nat.le_refl _) rfl ⟨.refl _, .refl _, trivial⟩) ?_
  refine LoopN.ind T_ok mixed (S := fun k : Nat => ⟨[(0, .ro fl 8 (l.map acA)), (3, int k)], [], 0⟩) (fun k => l.length - k) (fun k => k ≤ l.length ∧ frR l = ((List.range l.length).drop k).all (pairA l)) (fun _ => rfl) (fun k hk ih => ?_) 0 ⟨Nat.zero_le _, rfl⟩
  obtain ⟨h1, h2⟩ := hk
  by_cases hlt : k < l.length
  case neg =>
    rw [List.drop_eq_nil_of_le (by simp; omega), List.all_nil] at h2
    rw [h2]
    clear ih
    ((repeat ((conv => whnf); (first | (refine As.pre ?_; first | refine As.mk rfl ?_) | (refine LetI.pre ?_; first | refine LetI.mk _ rfl ?_) | (refine LetB.pre ?_; first | refine LetB.decf (by omega) ?_) | (refine Br.pre ?_; first | refine Br.ff rfl ?_) | (refine Ck.pre ?_; first | refine Ck.mk rfl ?_)))); (try (conv => whnf)))
    exact ⟨.inl rfl, ⟨_, rfl, rfl⟩, trivial⟩
  case pos =>
    have hld := getD_ac hlt
    have ha := ho _ (getD_mem hlt)
    rw [all_rdrop _ hlt] at h2
    have hpr : pairA l k = ((l.take k).drop 0).all fun b => apP b (l.getD k ac0) := rfl
    have hgt : ∀ i, i < k → (l.take k).getD i ac0 = l.getD i ac0 := fun i hi => by
      rw [List.getD_eq_getElem?_getD, List.getD_eq_getElem?_getD, List.getElem?_take_of_lt hi]
    have hlk : (l.take k).length = k := by rw [List.length_take]; omega
    generalize l.getD k ac0 = a at hld ha hpr
    generalize pairA l k = pr at h2 hpr
    ((repeat ((conv => whnf); (first | (refine As.pre ?_; first | refine As.mk rfl ?_) | (refine LetI.pre ?_; first | refine LetI.mk _ rfl ?_) | (refine LetB.pre ?_; first | refine LetB.dect (by omega) ?_) | (refine Br.pre ?_; first | refine Br.tt rfl ?_) | (refine Ck.pre ?_; first | refine Ck.mk rfl ?_)))); (try (conv => whnf)))
    refine LoopN.weak (s1 := ⟨[(0, .ro fl 8 (l.map acA)), (3, int k), (4, int (0 : Nat))], [], 0⟩) (SW.fr0 (Nat.le_refl _) rfl ⟨.refl _, .refl _, .refl _, trivial⟩) ?_
    refine LoopN.ind T_ok mixed (S := fun i : Nat => ⟨[(0, .ro fl 8 (l.map acA)), (3, int k), (4, int i)], [], 0⟩) (fun i => k - i) (fun i => i ≤ k ∧ pr = ((l.take k).drop i).all fun b => apP b a) (fun _ => rfl) (fun i hi ihi => ?_) 0 ⟨Nat.zero_le _, hpr⟩
    obtain ⟨g1, g2⟩ := hi
    by_cases hli : i < k
    case neg =>
      rw [List.drop_eq_nil_of_le (by omega), List.all_nil] at g2
      rw [g2, Bool.true_and] at h2
      clear ihi
      ((repeat ((conv => whnf); (first | (refine As.pre ?_; first | refine As.mk rfl ?_) | (refine LetI.pre ?_; first | refine LetI.wrap (by omega) (by omega) ?_) | (refine LetB.pre ?_; first | refine LetB.decf (by omega) ?_) | (refine Br.pre ?_; first | refine Br.ff rfl ?_) | (refine Ck.pre ?_; first | refine Ck.mk rfl ?_)))); (try (conv => whnf)))
      refine LoopN.weak ?_ (ih (k + 1) ⟨by omega, h2⟩ (by omega))
      exact SW.fr0 (Nat.le_refl _) rfl ⟨.refl _, VLe2.int (by omega), trivial⟩
    case pos =>
      have hlb := getD_ac (show i < l.length by omega)
      have hb := ho _ (getD_mem (show i < l.length by omega))
      rw [all_drop _ (by omega) ac0, hgt i hli] at g2
      generalize l.getD i ac0 = b at hlb hb g2
      have hA := refApart_f b a hb ha
      generalize apP b a = m at hA g2
      cases m with
      | true =>
        rw [Bool.true_and] at g2
        clear ih
        ((repeat ((conv => whnf); (first | (refine As.pre ?_; first | refine As.mk rfl ?_ | (refine As.mk ?_ ?_; · ((repeat' (refine andT ?_ ?_)) <;> (first | rfl | assumption | exact decide_eq_true (by omega) | exact decide_eq_true (by dsimp only; omega) | exact decide_eq_true (by simp; omega) | (simp; done))))) | (refine LetV.pre ?_; first | refine LetV.mk (t := 41) _ hlb ?_ | refine LetV.mk (t := 41) _ hld ?_ | refine LetV.mk (.agg _) rfl ?_) | (refine LetI.pre ?_; first | refine LetI.wrap (by omega) (by omega) ?_) | (refine LetB.pre ?_; first | refine LetB.dect (by omega) ?_) | (refine Br.pre ?_; first | refine Br.tt rfl ?_ | refine Br.ff rfl ?_) | (refine Ck.pre ?_; first | refine Ck.drawn (by kernel_rfl) ?_ | refine Ck.mk rfl ?_) | (refine CallN.pre ?_; first | refine CallN.pure hA rfl rfl ?_)))); (try (conv => whnf)))
        refine LoopN.weak ?_ (ihi (i + 1) ⟨by omega, g2⟩ (by omega))
        exact SW.fr0 (Nat.le_refl _) rfl ⟨.refl _, .refl _, VLe2.int (by omega), trivial⟩
      | false =>
        rw [Bool.false_and] at g2
        rw [g2, Bool.false_and] at h2
        rw [h2]
        clear ih ihi h2 g2
        ((repeat ((conv => whnf); (first | (refine As.pre ?_; first | refine As.mk rfl ?_ | (refine As.mk ?_ ?_; · ((repeat' (refine andT ?_ ?_)) <;> (first | rfl | assumption | exact decide_eq_true (by omega) | exact decide_eq_true (by dsimp only; omega) | exact decide_eq_true (by simp; omega) | (simp; done))))) | (refine LetV.pre ?_; first | refine LetV.mk (t := 41) _ hlb ?_ | refine LetV.mk (t := 41) _ hld ?_ | refine LetV.mk (.agg _) rfl ?_) | (refine LetB.pre ?_; first | refine LetB.dect (by omega) ?_) | (refine Br.pre ?_; first | refine Br.tt rfl ?_) | (refine Ck.pre ?_; first | refine Ck.drawn (by kernel_rfl) ?_ | refine Ck.mk rfl ?_) | (refine CallN.pre ?_; first | refine CallN.pure hA rfl rfl ?_)))); (try (conv => whnf)))
        exact ⟨.inl rfl, ⟨_, rfl, rfl⟩, trivial⟩
end En
end Go.Proofs.Ytiefcppgbnfbfaa
namespace Go.Proofs.Ytiefcppgbnfbfaa
open Go.Proofs.Ytiefcppgbnfbfaa.Am
set_option maxRecDepth 100000
namespace En
/-! ### The order of strings -/
abbrev cmpS (a b : ByteArray) : Int := Go.Lib.compareBytes a.data.toList b.data.toList
set_option maxHeartbeats 1000000 in
set_option maxRecDepth 100000 in
theorem CompareString_c (a b : ByteArray) (w : World) : Calls Try.prog 101 #[.string a, .string b] w fun e w' => e = .returned (.int .i64 (cmpS a b)) ∧ w' = w := by
  go_enter Try.func101, Try.ntmps101
  go_wp2
  rw [run_callFunc_extern Try.func105 (by kernel_rfl) (by kernel_rfl) (by kernel_rfl) (e := Extern.BytealgCompare.compare) (by kernel_rfl), Lib.run_compareString]
  simp only [Result.andThen]
  rw [Oper.upon_value]
  go_wp2
  go_ret
  exact ⟨rfl, rfl⟩
theorem CompareString_f (a b : ByteArray) : AFun Try.prog 101 0 [str a, str b] [] (int (cmpS a b)) [] := by
  intro w g xs hl hx hH _
  obtain ⟨x, y, rfl⟩ : ∃ x y, xs = #[x, y] := by
    rcases xs with ⟨l⟩
    rcases l with _ | ⟨a, _ | ⟨b, _ | ⟨d, l⟩⟩⟩
    all_goals simp at hl
    exact ⟨a, b, rfl⟩
  have h0 := (hx 0 _ x rfl rfl).sc_inv
  have h1 := (hx 1 _ y rfl rfl).sc_inv
  subst h0 h1
  refine (CompareString_c a b w).mono ?_
  rintro e w' ⟨rfl, rfl⟩
  exact ⟨_, g, rfl, AdvP.refl .., .sc _ rfl, hH⟩
theorem CompareT_f (a b : ByteArray) : AFun Try.prog 83 0 [str a, str b] [] (int (cmpS a b)) [] := by
  refine AFun.of_W T_ok mixed Try.func83 rfl (Nat.le_of_ble_eq_true rfl) rfl ?_
  have h := CompareString_f a b
  ((repeat ((conv => whnf); (first | (refine As.pre ?_; first | refine As.mk rfl ?_) | (refine Ck.pre ?_; first | refine Ck.mk rfl ?_) | (refine CallN.pre ?_; first | refine CallN.pure h rfl rfl ?_)))); (try (conv => whnf)))
  exact ⟨.inl rfl, ⟨_, rfl, rfl⟩, trivial⟩
end En
end Go.Proofs.Ytiefcppgbnfbfaa
namespace Go.Proofs.Ytiefcppgbnfbfaa
open Go.Proofs.Ytiefcppgbnfbfaa.Am
set_option maxRecDepth 100000
namespace En
/-! ### The order of lists -/
def cmpLs : List Int → List Int → Int
  | [], [] => 0
  | [], _ :: _ => -1
  | _ :: _, [] => 1
  | x :: xs, y :: ys => if cmpI x y = 0 then cmpLs xs ys else cmpI x y
theorem cmpLs_drop {xs ys : List Int} {k : Nat} (h1 : k < xs.length) (h2 : k < ys.length) : cmpLs (xs.drop k) (ys.drop k) = if cmpI (xs.getD k 0) (ys.getD k 0) = 0 then cmpLs (xs.drop (k + 1)) (ys.drop (k + 1)) else cmpI (xs.getD k 0) (ys.getD k 0) := by
  rw [List.drop_eq_getElem_cons h1, List.drop_eq_getElem_cons h2, List.getD_eq_getElem?_getD, List.getD_eq_getElem?_getD, List.getElem?_eq_getElem h1, List.getElem?_eq_getElem h2]; rfl
theorem cmpLs_gt {xs ys : List Int} {k : Nat} (h1 : k < xs.length) (h2 : ¬ k < ys.length) : cmpLs (xs.drop k) (ys.drop k) = 1 := by
  rw [List.drop_eq_getElem_cons h1, show ys.drop k = [] from List.drop_eq_nil_of_le (by omega)]; rfl
theorem cmpLs_lt {xs ys : List Int} {k : Nat} (h1 : ¬ k < xs.length) (h2 : k < ys.length) : cmpLs (xs.drop k) (ys.drop k) = -1 := by
  rw [List.drop_eq_getElem_cons h2, show xs.drop k = [] from List.drop_eq_nil_of_le (by omega)]; rfl
theorem cmpLs_eq {xs ys : List Int} {k : Nat} (h1 : ¬ k < xs.length) (h2 : ¬ k < ys.length) : cmpLs (xs.drop k) (ys.drop k) = 0 := by
  rw [show ys.drop k = [] from List.drop_eq_nil_of_le (by omega), show xs.drop k = [] from List.drop_eq_nil_of_le (by omega)]; rfl
theorem cmpI_lt {a b : Int} (h : a < b) : cmpI a b = -1 := if_pos h
theorem cmpI_gt {a b : Int} (h : b < a) : cmpI a b = 1 := (if_neg (by omega)).trans (if_pos h)
theorem cmpI_eq {a b : Int} (h : a = b) : cmpI a b = 0 := (if_neg (by omega)).trans (if_neg (by omega))
set_option maxRecDepth 100000 in
theorem CompareL_f (xs ys : List Int) (fl fl' : Fl) (hx : xs.length ≤ 1000) (hy : ys.length ≤ 1000) : AFun Try.prog 84 0 [ro1 fl xs, ro1 fl' ys] [] (int (cmpLs xs ys)) [] := by
  refine AFun.of_W T_ok mixed Try.func84 rfl (Nat.le_of_ble_eq_true rfl) rfl ?_
  have hmx : (xs.map int).length = xs.length := List.length_map _
  have hmy : (ys.map int).length = ys.length := List.length_map _
  ((repeat ((conv => whnf); (first | (refine As.pre ?_; first | refine As.mk rfl ?_) | (refine LetI.pre ?_; first | refine LetI.mk _ rfl ?_) | (refine Ck.pre ?_; first | refine Ck.mk rfl ?_)))); (try (conv => whnf)))
  refine LoopN.weak (s1 := ⟨[(0, ro1 fl xs), (1, ro1 fl' ys), (9, ro1 fl xs), (10, int xs.length), (11, int (0 : Nat))], [], 0⟩) (SW.fr0 (Nat.le_refl _) rfl ⟨.refl _, .refl _, .refl _, VLe2.int (by rw [List.length_map]), .refl _, trivial⟩) ?_
  refine LoopN.ind T_ok mixed (S := fun k : Nat => ⟨[(0, ro1 fl xs), (1, ro1 fl' ys), (9, ro1 fl xs), (10, int xs.length), (11, int k)], [], 0⟩) (fun k => xs.length - k) (fun k => k ≤ xs.length ∧ k ≤ ys.length ∧ cmpLs xs ys = cmpLs (xs.drop k) (ys.drop k)) (fun _ => rfl) (fun k hk ih => ?_) 0 ⟨Nat.zero_le _, Nat.zero_le _, rfl⟩
  obtain ⟨h1, h0, h2⟩ := hk
  by_cases hlt : k < xs.length
  case neg =>
    by_cases hly : k < ys.length
    · rw [cmpLs_lt hlt hly] at h2
      rw [h2]
      clear ih
      ((repeat ((conv => whnf); (first | (refine As.pre ?_; first | refine As.mk rfl ?_) | (refine LetI.pre ?_; first | refine LetI.mk _ rfl ?_) | (refine LetB.pre ?_; first | refine LetB.dect (by omega) ?_ | refine LetB.decf (by omega) ?_) | (refine Br.pre ?_; first | refine Br.tt rfl ?_ | refine Br.ff rfl ?_) | (refine Ck.pre ?_; first | refine Ck.mk rfl ?_)))); (try (conv => whnf)))
      exact ⟨.inl rfl, ⟨_, rfl, rfl⟩, trivial⟩
    · rw [cmpLs_eq hlt hly] at h2
      rw [h2]
      clear ih
      ((repeat ((conv => whnf); (first | (refine As.pre ?_; first | refine As.mk rfl ?_) | (refine LetI.pre ?_; first | refine LetI.mk _ rfl ?_) | (refine LetB.pre ?_; first | refine LetB.decf (by omega) ?_) | (refine Br.pre ?_; first | refine Br.ff rfl ?_) | (refine Ck.pre ?_; first | refine Ck.mk rfl ?_)))); (try (conv => whnf)))
      exact ⟨.inl rfl, ⟨_, rfl, rfl⟩, trivial⟩
  case pos =>
    have hlx := getD_int hlt
    by_cases hly : k < ys.length
    case neg =>
      rw [cmpLs_gt hlt hly] at h2
      rw [h2]
      clear ih
      generalize xs.getD k 0 = x at hlx
      ((repeat ((conv => whnf); (first | (refine As.pre ?_; first | refine As.mk rfl ?_ | (refine As.mk ?_ ?_; · ((repeat' (refine andT ?_ ?_)) <;> (first | rfl | assumption | exact decide_eq_true (by omega) | exact decide_eq_true (by dsimp only; omega) | exact decide_eq_true (by simp; omega) | (simp; done))))) | (refine LetV.pre ?_; first | refine LetV.mk (t := 22) _ hlx ?_ | refine LetV.mk (.sc (.int _ _)) rfl ?_) | (refine LetI.pre ?_; first | refine LetI.mk _ rfl ?_) | (refine LetB.pre ?_; first | refine LetB.dect (by omega) ?_) | (refine Br.pre ?_; first | refine Br.tt rfl ?_) | (refine Ck.pre ?_; first | refine Ck.mk rfl ?_)))); (try (conv => whnf)))
      exact ⟨.inl rfl, ⟨_, rfl, rfl⟩, trivial⟩
    have hlv := getD_int hly
    rw [cmpLs_drop hlt hly] at h2
    generalize xs.getD k 0 = x at hlx h2
    generalize ys.getD k 0 = y at hlv h2
    have hC := Compare_f x y
    generalize cmpI x y = c at hC h2
    by_cases hc : c = 0
    · rw [if_pos hc] at h2
      ((repeat ((conv => whnf); (first | (refine As.pre ?_; first | refine As.mk rfl ?_ | (refine As.mk ?_ ?_; · ((repeat' (refine andT ?_ ?_)) <;> (first | rfl | assumption | exact decide_eq_true (by omega) | exact decide_eq_true (by dsimp only; omega) | exact decide_eq_true (by simp; omega) | (simp; done))))) | (refine LetV.pre ?_; first | refine LetV.mk (t := 22) _ hlx ?_ | refine LetV.mk (t := 22) _ hlv ?_ | refine LetV.mk (.sc (.int _ _)) rfl ?_) | (refine LetI.pre ?_; first | refine LetI.wrap (by omega) (by omega) ?_ | refine LetI.mk _ rfl ?_) | (refine LetB.pre ?_; first | refine LetB.dect (by omega) ?_ | refine LetB.decf (by omega) ?_ | refine LetB.bnef (by omega) ?_) | (refine Br.pre ?_; first | refine Br.tt rfl ?_ | refine Br.ff rfl ?_) | (refine Ck.pre ?_; first | refine Ck.mk rfl ?_) | (refine CallN.pre ?_; first | refine CallN.pure hC rfl rfl ?_)))); (try (conv => whnf)))
      refine LoopN.weak ?_ (ih (k + 1) ⟨by omega, by omega, h2⟩ (by omega))
      exact SW.fr0 (Nat.le_refl _) rfl ⟨.refl _, .refl _, .refl _, .refl _, VLe2.int (by omega), trivial⟩
    · rw [if_neg hc] at h2
      rw [h2]
      clear ih
      ((repeat ((conv => whnf); (first | (refine As.pre ?_; first | refine As.mk rfl ?_ | (refine As.mk ?_ ?_; · ((repeat' (refine andT ?_ ?_)) <;> (first | rfl | assumption | exact decide_eq_true (by omega) | exact decide_eq_true (by dsimp only; omega) | exact decide_eq_true (by simp; omega) | (simp; done))))) | (refine LetV.pre ?_; first | refine LetV.mk (t := 22) _ hlx ?_ | refine LetV.mk (t := 22) _ hlv ?_ | refine LetV.mk (.sc (.int _ _)) rfl ?_) | (refine LetI.pre ?_; first | refine LetI.mk _ rfl ?_) | (refine LetB.pre ?_; first | refine LetB.dect (by omega) ?_ | refine LetB.decf (by omega) ?_ | refine LetB.bnet (by omega) ?_) | (refine Br.pre ?_; first | refine Br.tt rfl ?_ | refine Br.ff rfl ?_) | (refine Ck.pre ?_; first | refine Ck.mk rfl ?_) | (refine CallN.pre ?_; first | refine CallN.pure hC rfl rfl ?_)))); (try (conv => whnf)))
      exact ⟨.inl rfl, ⟨_, rfl, rfl⟩, trivial⟩
set_option maxRecDepth 100000 in
theorem refCompareL_f (xs ys : List Int) (fl fl' : Fl) (hx : xs.length ≤ 1000) (hy : ys.length ≤ 1000) : AFun Try.prog 57 0 [ro1 fl xs, ro1 fl' ys] [] (int (cmpLs xs ys)) [] := by
  refine AFun.of_W T_ok mixed Try.func57 rfl (Nat.le_of_ble_eq_true rfl) rfl ?_
  have hmx : (xs.map int).length = xs.length := List.length_map _
  have hmy : (ys.map int).length = ys.length := List.length_map _
  ((repeat ((conv => whnf); (first | (refine As.pre ?_; first | refine As.mk rfl ?_) | (refine Ck.pre ?_; first | refine Ck.mk rfl ?_)))); (try (conv => whnf)))
  refine LoopN.weak (s1 := ⟨[(0, ro1 fl xs), (1, ro1 fl' ys), (5, int (0 : Nat))], [], 0⟩) (SW.fr0 (Nat.le_refl _) rfl ⟨.refl _, .refl _, .refl _, trivial⟩) ?_
  refine LoopN.ind T_ok mixed (S := fun k : Nat => ⟨[(0, ro1 fl xs), (1, ro1 fl' ys), (5, int k)], [], 0⟩) (fun k => xs.length - k) (fun k => k ≤ xs.length ∧ k ≤ ys.length ∧ cmpLs xs ys = cmpLs (xs.drop k) (ys.drop k)) (fun _ => rfl) (fun k hk ih => ?_) 0 ⟨Nat.zero_le _, Nat.zero_le _, rfl⟩
  obtain ⟨h1, h0, h2⟩ := hk
  by_cases hlt : k < xs.length
  case neg =>
    by_cases hly : k < ys.length
    · rw [cmpLs_lt hlt hly] at h2
      rw [h2]
      clear ih
      ((repeat ((conv => whnf); (first | (refine As.pre ?_; first | refine As.mk rfl ?_) | (refine LetI.pre ?_; first | refine LetI.mk _ rfl ?_) | (refine LetB.pre ?_; first | refine LetB.dect (by omega) ?_ | refine LetB.decf (by omega) ?_) | (refine Gd.pre ?_; first | refine Gd.pass rfl ?_) | (refine Br.pre ?_; first | refine Br.tt rfl ?_ | refine Br.ff rfl ?_) | (refine Ck.pre ?_; first | refine Ck.mk rfl ?_)))); (try (conv => whnf)))
      exact ⟨.inl rfl, ⟨_, rfl, rfl⟩, trivial⟩
    · rw [cmpLs_eq hlt hly] at h2
      rw [h2]
      clear ih
      ((repeat ((conv => whnf); (first | (refine As.pre ?_; first | refine As.mk rfl ?_) | (refine LetI.pre ?_; first | refine LetI.mk _ rfl ?_) | (refine LetB.pre ?_; first | refine LetB.decf (by omega) ?_) | (refine Gd.pre ?_; first | refine Gd.pass rfl ?_) | (refine Br.pre ?_; first | refine Br.ff rfl ?_) | (refine Ck.pre ?_; first | refine Ck.mk rfl ?_)))); (try (conv => whnf)))
      exact ⟨.inl rfl, ⟨_, rfl, rfl⟩, trivial⟩
  case pos =>
    have hlx := getD_int hlt
    by_cases hly : k < ys.length
    case neg =>
      rw [cmpLs_gt hlt hly] at h2
      rw [h2]
      clear ih
      generalize xs.getD k 0 = x at hlx
      ((repeat ((conv => whnf); (first | (refine As.pre ?_; first | refine As.mk rfl ?_) | (refine LetI.pre ?_; first | refine LetI.mk _ rfl ?_) | (refine LetB.pre ?_; first | refine LetB.dect (by omega) ?_ | refine LetB.decf (by omega) ?_) | (refine Gd.pre ?_; first | refine Gd.run rfl ?_) | (refine Br.pre ?_; first | refine Br.tt rfl ?_ | refine Br.ff rfl ?_) | (refine Ck.pre ?_; first | refine Ck.mk rfl ?_)))); (try (conv => whnf)))
      exact ⟨.inl rfl, ⟨_, rfl, rfl⟩, trivial⟩
    have hlv := getD_int hly
    rw [cmpLs_drop hlt hly] at h2
    generalize xs.getD k 0 = x at hlx h2
    generalize ys.getD k 0 = y at hlv h2
    by_cases hc : x < y
    · rw [cmpI_lt hc, if_neg (by decide)] at h2
      rw [h2]
      clear ih
      ((repeat ((conv => whnf); (first | (refine As.pre ?_; first | refine As.mk rfl ?_ | (refine As.mk ?_ ?_; · ((repeat' (refine andT ?_ ?_)) <;> (first | rfl | assumption | exact decide_eq_true (by omega) | exact decide_eq_true (by dsimp only; omega) | exact decide_eq_true (by simp; omega) | (simp; done))))) | (refine LetV.pre ?_; first | refine LetV.mk (t := 22) _ hlx ?_ | refine LetV.mk (t := 22) _ hlv ?_ | refine LetV.mk (.sc (.int _ _)) rfl ?_) | (refine LetI.pre ?_; first | refine LetI.mk _ rfl ?_) | (refine LetB.pre ?_; first | refine LetB.dect (by omega) ?_) | (refine Gd.pre ?_; first | refine Gd.run rfl ?_) | (refine Br.pre ?_; first | refine Br.tt rfl ?_) | (refine Ck.pre ?_; first | refine Ck.drawn (by kernel_rfl) ?_ | refine Ck.mk rfl ?_)))); (try (conv => whnf)))
      exact ⟨.inl rfl, ⟨_, rfl, rfl⟩, trivial⟩
    · by_cases hd : y < x
      · rw [cmpI_gt hd, if_neg (by decide)] at h2
        rw [h2]
        clear ih
        ((repeat ((conv => whnf); (first | (refine As.pre ?_; first | refine As.mk rfl ?_ | (refine As.mk ?_ ?_; · ((repeat' (refine andT ?_ ?_)) <;> (first | rfl | assumption | exact decide_eq_true (by omega) | exact decide_eq_true (by dsimp only; omega) | exact decide_eq_true (by simp; omega) | (simp; done))))) | (refine LetV.pre ?_; first | refine LetV.mk (t := 22) _ hlx ?_ | refine LetV.mk (t := 22) _ hlv ?_ | refine LetV.mk (.sc (.int _ _)) rfl ?_) | (refine LetI.pre ?_; first | refine LetI.mk _ rfl ?_) | (refine LetB.pre ?_; first | refine LetB.dect (by omega) ?_ | refine LetB.decf (by omega) ?_) | (refine Gd.pre ?_; first | refine Gd.run rfl ?_) | (refine Br.pre ?_; first | refine Br.tt rfl ?_ | refine Br.ff rfl ?_) | (refine Ck.pre ?_; first | refine Ck.drawn (by kernel_rfl) ?_ | refine Ck.mk rfl ?_)))); (try (conv => whnf)))
        exact ⟨.inl rfl, ⟨_, rfl, rfl⟩, trivial⟩
      · rw [cmpI_eq (by omega), if_pos rfl] at h2
        ((repeat ((conv => whnf); (first | (refine As.pre ?_; first | refine As.mk rfl ?_ | (refine As.mk ?_ ?_; · ((repeat' (refine andT ?_ ?_)) <;> (first | rfl | assumption | exact decide_eq_true (by omega) | exact decide_eq_true (by dsimp only; omega) | exact decide_eq_true (by simp; omega) | (simp; done))))) | (refine LetV.pre ?_; first | refine LetV.mk (t := 22) _ hlx ?_ | refine LetV.mk (t := 22) _ hlv ?_ | refine LetV.mk (.sc (.int _ _)) rfl ?_) | (refine LetI.pre ?_; first | refine LetI.wrap (by omega) (by omega) ?_ | refine LetI.mk _ rfl ?_) | (refine LetB.pre ?_; first | refine LetB.dect (by omega) ?_ | refine LetB.decf (by omega) ?_) | (refine Gd.pre ?_; first | refine Gd.run rfl ?_) | (refine Br.pre ?_; first | refine Br.tt rfl ?_ | refine Br.ff rfl ?_) | (refine Ck.pre ?_; first | refine Ck.drawn (by kernel_rfl) ?_ | refine Ck.mk rfl ?_)))); (try (conv => whnf)))
        refine LoopN.weak ?_ (ih (k + 1) ⟨by omega, by omega, h2⟩ (by omega))
        exact SW.fr0 (Nat.le_refl _) rfl ⟨.refl _, .refl _, VLe2.int (by omega), trivial⟩
end En
end Go.Proofs.Ytiefcppgbnfbfaa
namespace Go.Proofs.Ytiefcppgbnfbfaa
open Go.Proofs.Ytiefcppgbnfbfaa.Am
set_option maxRecDepth 100000
namespace En
/-! ### The order of achievements -/
abbrev cmpsA (a b : Ac) : List Int := [cmpI a.school b.school, cmpS a.code b.code, cmpI a.day b.day, cmpLs a.src b.src, cmpLs a.path b.path, cmpI a.bundle b.bundle, cmpI a.credits b.credits, cmpI a.grade b.grade]
def cmpA (a b : Ac) : Int := firstNZ (cmpsA a b)
theorem Or8_f (a b c d e f g h : Int) (fl : Fl) : AFun Try.prog 81 0 [.ro fl 1 [int a, int b, int c, int d, int e, int f, int g, int h]] [] (int (firstNZ [a, b, c, d, e, f, g, h])) [] := Or_f [a, b, c, d, e, f, g, h] fl (by simp)
set_option maxHeartbeats 1600000 in
set_option maxRecDepth 100000 in
theorem compareA_f (a b : Ac) (ha : okA a) (hb : okA b) : AFun Try.prog 56 0 [acA a, acA b] [] (int (cmpA a b)) [] := by
  refine AFun.of_W T_ok mixed Try.func56 rfl (Nat.le_of_ble_eq_true rfl) rfl ?_
  have c1 := CompareT_f a.code b.code
  have c2 := CompareL_f a.src b.src {} {} ha.1 hb.1
  have c3 := CompareL_f a.path b.path {} {} ha.2 hb.2
  unfold cmpA cmpsA
  generalize cmpS a.code b.code = s at c1 ⊢
  generalize cmpLs a.src b.src = x at c2 ⊢
  generalize cmpLs a.path b.path = y at c3 ⊢
  have hO := Or8_f (cmpI a.school b.school) s (cmpI a.day b.day) x y (cmpI a.bundle b.bundle) (cmpI a.credits b.credits) (cmpI a.grade b.grade) ⟨true, true⟩
  ((repeat ((conv => whnf); (first | (refine LetN.pre ?_; first | ((conv => arg 1; whnf); refine LetN.mk ?_)) | (refine As.pre ?_; first | refine As.mk rfl ?_) | (refine LetV.pre ?_; first | refine LetV.mk (.sc (.int _ _)) rfl ?_ | refine LetV.mk (.sc _) rfl ?_ | refine LetV.mk (.ro _ _ _) rfl ?_) | (refine Ck.pre ?_; first | refine Ck.drawn (by kernel_rfl) ?_ | refine Ck.mk rfl ?_) | (refine CallN.pre ?_; first | refine CallN.pure c1 rfl rfl ?_ | refine CallN.pure c2 rfl rfl ?_ | refine CallN.pure c3 rfl rfl ?_ | refine CallN.pure (Compare_f _ _) rfl rfl ?_ | refine CallN.pure hO rfl rfl ?_)))); (try (conv => whnf)))
  exact ⟨.inl rfl, ⟨_, rfl, rfl⟩, trivial⟩
theorem SameA_f (a b : Ac) (ha : okA a) (hb : okA b) : AFun Try.prog 28 0 [acA a, acA b] [] (bool (decide (cmpA a b = 0))) [] := by
  refine AFun.of_W T_ok mixed Try.func28 rfl (Nat.le_of_ble_eq_true rfl) rfl ?_
  have h := compareA_f a b ha hb
  generalize cmpA a b = c at h ⊢
  ((repeat ((conv => whnf); (first | (refine LetN.pre ?_; first | ((conv => arg 1; whnf); refine LetN.mk ?_)) | (refine As.pre ?_; first | refine As.mk rfl ?_) | (refine LetV.pre ?_; first | refine LetV.mk (.agg _) rfl ?_) | (refine LetB.pre ?_; first | refine LetB.mk _ rfl ?_) | (refine Ck.pre ?_; first | refine Ck.mk rfl ?_) | (refine CallN.pre ?_; first | refine CallN.pure h rfl rfl ?_)))); (try (conv => whnf)))
  exact ⟨.inl rfl, ⟨_, rfl, rfl⟩, trivial⟩
theorem LessA_f (a b : Ac) (ha : okA a) (hb : okA b) : AFun Try.prog 30 0 [acA a, acA b] [] (bool (decide (cmpA a b < 0))) [] := by
  refine AFun.of_W T_ok mixed Try.func30 rfl (Nat.le_of_ble_eq_true rfl) rfl ?_
  have h := compareA_f a b ha hb
  generalize cmpA a b = c at h ⊢
  ((repeat ((conv => whnf); (first | (refine LetN.pre ?_; first | ((conv => arg 1; whnf); refine LetN.mk ?_)) | (refine As.pre ?_; first | refine As.mk rfl ?_) | (refine LetV.pre ?_; first | refine LetV.mk (.agg _) rfl ?_) | (refine LetB.pre ?_; first | refine LetB.mk _ rfl ?_) | (refine Ck.pre ?_; first | refine Ck.mk rfl ?_) | (refine CallN.pre ?_; first | refine CallN.pure h rfl rfl ?_)))); (try (conv => whnf)))
  exact ⟨.inl rfl, ⟨_, rfl, rfl⟩, trivial⟩
/-! ### The reference's -/
def sameR (a b : Ac) : Bool := decide (a.src = b.src) && decide (a.path = b.path) && (decide (a.school = b.school) && decide (a.code = b.code)) && decide (a.credits = b.credits) && decide (a.grade = b.grade) && decide (a.day = b.day) && decide (a.bundle = b.bundle)
set_option maxHeartbeats 1600000 in
set_option maxRecDepth 100000 in
theorem refSameA_f (a b : Ac) (ha : okA a) (hb : okA b) : AFun Try.prog 29 0 [acA a, acA b] [] (bool (sameR a b)) [] := by
  refine AFun.of_W T_ok mixed Try.func29 rfl (Nat.le_of_ble_eq_true rfl) rfl ?_
  have hS := SameInts_f a.src b.src {} {} ha.1 hb.1
  have hP := SameInts_f a.path b.path {} {} ha.2 hb.2
  have hc := toL_eq a.code b.code
  unfold sameR
  generalize decide (a.src = b.src) = qs at hS ⊢
  generalize decide (a.path = b.path) = qp at hP ⊢
  generalize decide (a.code = b.code) = c at hc ⊢
  cases qs with
  | false =>
    cases qp <;> (((repeat ((conv => whnf); (first | (refine LetN.pre ?_; first | ((conv => arg 1; whnf); refine LetN.mk ?_)) | (refine As.pre ?_; first | refine As.mk rfl ?_) | (refine LetV.pre ?_; first | refine LetV.mk (.ro _ _ _) rfl ?_) | (refine Gd.pre ?_; first | refine Gd.pass rfl ?_) | (refine Ck.pre ?_; first | refine Ck.mk rfl ?_) | (refine CallN.pre ?_; first | refine CallN.pure hS rfl rfl ?_ | refine CallN.pure hP rfl rfl ?_)))); (try (conv => whnf))); exact ⟨.inl rfl, ⟨_, rfl, rfl⟩, trivial⟩)
  | true =>
    cases qp with
    | false =>
      ((repeat ((conv => whnf); (first | (refine LetN.pre ?_; first | ((conv => arg 1; whnf); refine LetN.mk ?_)) | (refine As.pre ?_; first | refine As.mk rfl ?_) | (refine LetV.pre ?_; first | refine LetV.mk (.ro _ _ _) rfl ?_) | (refine Gd.pre ?_; first | refine Gd.run rfl ?_ | refine Gd.pass rfl ?_) | (refine Ck.pre ?_; first | refine Ck.mk rfl ?_) | (refine CallN.pre ?_; first | refine CallN.pure hS rfl rfl ?_ | refine CallN.pure hP rfl rfl ?_)))); (try (conv => whnf)))
      exact ⟨.inl rfl, ⟨_, rfl, rfl⟩, trivial⟩
    | true =>
      by_cases hs : a.school = b.school
      case neg =>
        have hq : (a.school == b.school && (a.code.toList == b.code.toList && true)) = false := by simp [hs]
        rw [decide_eq_false hs]
        ((repeat ((conv => whnf); (first | (refine LetN.pre ?_; first | ((conv => arg 1; whnf); refine LetN.mk ?_)) | (refine As.pre ?_; first | refine As.mk rfl ?_) | (refine LetV.pre ?_; first | refine LetV.mk (.agg _) rfl ?_ | refine LetV.mk (.ro _ _ _) rfl ?_) | (refine LetB.pre ?_; first | refine LetB.ff (by assumption) ?_) | (refine Gd.pre ?_; first | refine Gd.run rfl ?_ | refine Gd.pass rfl ?_) | (refine Ck.pre ?_; first | refine Ck.mk rfl ?_) | (refine CallN.pre ?_; first | refine CallN.pure hS rfl rfl ?_ | refine CallN.pure hP rfl rfl ?_)))); (try (conv => whnf)))
        exact ⟨.inl rfl, ⟨_, rfl, rfl⟩, trivial⟩
      rw [decide_eq_true hs]
      cases c with
      | false =>
        have hq : (a.school == b.school && (a.code.toList == b.code.toList && true)) = false := by rw [hc]; simp
        ((repeat ((conv => whnf); (first | (refine LetN.pre ?_; first | ((conv => arg 1; whnf); refine LetN.mk ?_)) | (refine As.pre ?_; first | refine As.mk rfl ?_) | (refine LetV.pre ?_; first | refine LetV.mk (.agg _) rfl ?_ | refine LetV.mk (.ro _ _ _) rfl ?_) | (refine LetB.pre ?_; first | refine LetB.ff (by assumption) ?_) | (refine Gd.pre ?_; first | refine Gd.run rfl ?_ | refine Gd.pass rfl ?_) | (refine Ck.pre ?_; first | refine Ck.mk rfl ?_) | (refine CallN.pre ?_; first | refine CallN.pure hS rfl rfl ?_ | refine CallN.pure hP rfl rfl ?_)))); (try (conv => whnf)))
        exact ⟨.inl rfl, ⟨_, rfl, rfl⟩, trivial⟩
      | true =>
        have hq : (a.school == b.school && (a.code.toList == b.code.toList && true)) = true := by rw [hc]; simp [hs]
        by_cases hcredits : a.credits = b.credits
        case neg =>
          rw [decide_eq_false hcredits]
          ((repeat ((conv => whnf); (first | (refine LetN.pre ?_; first | ((conv => arg 1; whnf); refine LetN.mk ?_)) | (refine As.pre ?_; first | refine As.mk rfl ?_) | (refine LetV.pre ?_; first | refine LetV.mk (.sc (.int _ _)) rfl ?_ | refine LetV.mk (.agg _) rfl ?_ | refine LetV.mk (.ro _ _ _) rfl ?_) | (refine LetB.pre ?_; first | refine LetB.tt (by assumption) ?_ | refine LetB.decf (by omega) ?_) | (refine Gd.pre ?_; first | refine Gd.run rfl ?_ | refine Gd.pass rfl ?_) | (refine Ck.pre ?_; first | refine Ck.mk rfl ?_) | (refine CallN.pre ?_; first | refine CallN.pure hS rfl rfl ?_ | refine CallN.pure hP rfl rfl ?_)))); (try (conv => whnf)))
          exact ⟨.inl rfl, ⟨_, rfl, rfl⟩, trivial⟩
        rw [decide_eq_true hcredits]
        by_cases hgrade : a.grade = b.grade
        case neg =>
          rw [decide_eq_false hgrade]
          ((repeat ((conv => whnf); (first | (refine LetN.pre ?_; first | ((conv => arg 1; whnf); refine LetN.mk ?_)) | (refine As.pre ?_; first | refine As.mk rfl ?_) | (refine LetV.pre ?_; first | refine LetV.mk (.sc (.int _ _)) rfl ?_ | refine LetV.mk (.agg _) rfl ?_ | refine LetV.mk (.ro _ _ _) rfl ?_) | (refine LetB.pre ?_; first | refine LetB.tt (by assumption) ?_ | refine LetB.dect (by omega) ?_ | refine LetB.decf (by omega) ?_) | (refine Gd.pre ?_; first | refine Gd.run rfl ?_ | refine Gd.pass rfl ?_) | (refine Ck.pre ?_; first | refine Ck.mk rfl ?_) | (refine CallN.pre ?_; first | refine CallN.pure hS rfl rfl ?_ | refine CallN.pure hP rfl rfl ?_)))); (try (conv => whnf)))
          exact ⟨.inl rfl, ⟨_, rfl, rfl⟩, trivial⟩
        rw [decide_eq_true hgrade]
        by_cases hday : a.day = b.day
        case neg =>
          rw [decide_eq_false hday]
          ((repeat ((conv => whnf); (first | (refine LetN.pre ?_; first | ((conv => arg 1; whnf); refine LetN.mk ?_)) | (refine As.pre ?_; first | refine As.mk rfl ?_) | (refine LetV.pre ?_; first | refine LetV.mk (.sc (.int _ _)) rfl ?_ | refine LetV.mk (.agg _) rfl ?_ | refine LetV.mk (.ro _ _ _) rfl ?_) | (refine LetB.pre ?_; first | refine LetB.tt (by assumption) ?_ | refine LetB.dect (by omega) ?_ | refine LetB.decf (by omega) ?_) | (refine Gd.pre ?_; first | refine Gd.run rfl ?_ | refine Gd.pass rfl ?_) | (refine Ck.pre ?_; first | refine Ck.mk rfl ?_) | (refine CallN.pre ?_; first | refine CallN.pure hS rfl rfl ?_ | refine CallN.pure hP rfl rfl ?_)))); (try (conv => whnf)))
          exact ⟨.inl rfl, ⟨_, rfl, rfl⟩, trivial⟩
        rw [decide_eq_true hday]
        by_cases hbundle : a.bundle = b.bundle
        case neg =>
          rw [decide_eq_false hbundle]
          ((repeat ((conv => whnf); (first | (refine LetN.pre ?_; first | ((conv => arg 1; whnf); refine LetN.mk ?_)) | (refine As.pre ?_; first | refine As.mk rfl ?_) | (refine LetV.pre ?_; first | refine LetV.mk (.sc (.int _ _)) rfl ?_ | refine LetV.mk (.agg _) rfl ?_ | refine LetV.mk (.ro _ _ _) rfl ?_) | (refine LetB.pre ?_; first | refine LetB.tt (by assumption) ?_ | refine LetB.dect (by omega) ?_ | refine LetB.decf (by omega) ?_) | (refine Gd.pre ?_; first | refine Gd.run rfl ?_) | (refine Ck.pre ?_; first | refine Ck.mk rfl ?_) | (refine CallN.pre ?_; first | refine CallN.pure hS rfl rfl ?_ | refine CallN.pure hP rfl rfl ?_)))); (try (conv => whnf)))
          exact ⟨.inl rfl, ⟨_, rfl, rfl⟩, trivial⟩
        rw [decide_eq_true hbundle]
        ((repeat ((conv => whnf); (first | (refine LetN.pre ?_; first | ((conv => arg 1; whnf); refine LetN.mk ?_)) | (refine As.pre ?_; first | refine As.mk rfl ?_) | (refine LetV.pre ?_; first | refine LetV.mk (.sc (.int _ _)) rfl ?_ | refine LetV.mk (.agg _) rfl ?_ | refine LetV.mk (.ro _ _ _) rfl ?_) | (refine LetB.pre ?_; first | refine LetB.tt (by assumption) ?_ | refine LetB.dect (by omega) ?_) | (refine Gd.pre ?_; first | refine Gd.run rfl ?_) | (refine Ck.pre ?_; first | refine Ck.mk rfl ?_) | (refine CallN.pre ?_; first | refine CallN.pure hS rfl rfl ?_ | refine CallN.pure hP rfl rfl ?_)))); (try (conv => whnf)))
        exact ⟨.inl rfl, ⟨_, rfl, rfl⟩, trivial⟩
end En
end Go.Proofs.Ytiefcppgbnfbfaa
namespace Go.Proofs.Ytiefcppgbnfbfaa
open Go.Proofs.Ytiefcppgbnfbfaa.Am
set_option maxRecDepth 100000
namespace En
/-! ### The reference's achievements -/
abbrev g12S (l : List E) (fl : Fl) (id : Int) (j : Nat) : AS := ⟨[(0, .ro fl 15 (l.map en)), (1, int id), (4, .ptr 0 15 0 0), (5, bool false), (6, int (j : Nat))], [(0, .row 15 ety [en e0])], 1⟩
set_option maxRecDepth 100000 in
theorem grade12_f (l : List E) (id : Int) (fl : Fl) (hl : l.length ≤ 1000) : AFun Try.prog 42 0 [.ro fl 15 (l.map en), int id] [] (.tup [en (fstG l id), bool (fstB l id)]) [] := by
  refine AFun.of_W T_ok mixed Try.func42 rfl (Nat.le_of_ble_eq_true rfl) rfl ?_
  have hml : (l.map en).length = l.length := List.length_map _
  unfold fstG fstB
  generalize hR : l.find? (qG id) = R
  ((repeat ((conv => whnf); (first | (refine LetN.pre ?_; first | ((conv => arg 1; whnf); refine LetN.mk ?_)) | (refine As.pre ?_; first | refine As.mk rfl ?_) | (refine Ck.pre ?_; first | refine Ck.mk rfl ?_)))); (try (conv => whnf)))
  refine LoopN.weak (s1 := g12S l fl id 0) ?sw0 ?_
  case sw0 => exact SW.mk _root_.id rfl rfl rfl ⟨.refl _, .refl _, .refl _, .refl _, .refl _, trivial⟩ (haveV.row rfl rfl trivial)
  refine LoopN.ind T_ok mixed (S := g12S l fl id) (fun j => l.length - j) (fun j => j ≤ l.length ∧ (l.drop j).find? (qG id) = R) (fun _ => rfl) (fun j hj ih => ?_) 0 ⟨Nat.zero_le _, hR⟩
  obtain ⟨h1, h2⟩ := hj
  by_cases hlt : j < l.length
  case neg =>
    clear ih
    rw [List.drop_eq_nil_of_le (by omega)] at h2
    subst h2
    ((repeat ((conv => whnf); (first | (refine LetN.pre ?_; first | ((conv => arg 1; whnf); refine LetN.mk ?_)) | (refine As.pre ?_; first | refine As.mk rfl ?_) | (refine LetI.pre ?_; first | refine LetI.mk _ rfl ?_) | (refine LetB.pre ?_; first | refine LetB.decf (by omega) ?_) | (refine Br.pre ?_; first | refine Br.ff rfl ?_) | (refine Ck.pre ?_; first | refine Ck.mk rfl ?_) | (refine LetL.pre ?_; first | refine LetL.mk [_] rfl ?_)))); (try (conv => whnf)))
    exact ⟨.inl rfl, ⟨_, rfl, rfl⟩, trivial⟩
  have hld := ld_en hlt
  rw [find_drop _ hlt] at h2
  generalize l.getD j e0 = e at hld h2
  by_cases c1 : e.kind = 3
  · by_cases c2 : e.id = id
    · rw [qG, decide_eq_true c1, decide_eq_true c2, Bool.and_self, if_pos rfl] at h2
      subst h2
      clear ih
      ((repeat ((conv => whnf); (first | (refine LetN.pre ?_; first | ((conv => arg 1; whnf); refine LetN.mk ?_)) | (refine As.pre ?_; first | refine As.mk rfl ?_ | (refine As.mk ?_ ?_; · ((repeat' (refine andT ?_ ?_)) <;> (first | rfl | assumption | exact decide_eq_true (by omega) | exact decide_eq_true (by dsimp only; omega) | exact decide_eq_true (by simp; omega) | (simp; done))))) | (refine LetV.pre ?_; first | refine LetV.mk (t := 30) _ hld ?_ | refine LetV.mk (.sc (.int _ _)) rfl ?_ | refine LetV.mk (.agg _) rfl ?_) | (refine LetI.pre ?_; first | refine LetI.mk _ rfl ?_) | (refine LetB.pre ?_; first | refine LetB.dect (by omega) ?_) | (refine Gd.pre ?_; first | refine Gd.run rfl ?_) | (refine Br.pre ?_; first | refine Br.tt rfl ?_) | (refine Ck.pre ?_; first | refine Ck.mk rfl ?_) | (refine LetL.pre ?_; first | refine LetL.mk [_] rfl ?_)))); (try (conv => whnf)))
      exact ⟨.inl rfl, ⟨_, rfl, rfl⟩, trivial⟩
    · rw [qG, decide_eq_false c2, Bool.and_false, if_neg Bool.false_ne_true] at h2
      have hnx := ih (j + 1) ⟨hlt, h2⟩ (by omega)
      clear ih
      ((repeat ((conv => whnf); (first | (refine As.pre ?_; first | refine As.mk rfl ?_ | (refine As.mk ?_ ?_; · ((repeat' (refine andT ?_ ?_)) <;> (first | rfl | assumption | exact decide_eq_true (by omega) | exact decide_eq_true (by dsimp only; omega) | exact decide_eq_true (by simp; omega) | (simp; done))))) | (refine LetV.pre ?_; first | refine LetV.mk (t := 30) _ hld ?_ | refine LetV.mk (.sc (.int _ _)) rfl ?_) | (refine LetI.pre ?_; first | refine LetI.wrap (by omega) (by omega) ?_ | refine LetI.mk _ rfl ?_) | (refine LetB.pre ?_; first | refine LetB.dect (by omega) ?_ | refine LetB.decf (by omega) ?_) | (refine Gd.pre ?_; first | refine Gd.run rfl ?_) | (refine Br.pre ?_; first | refine Br.tt rfl ?_ | refine Br.ff rfl ?_) | (refine Ck.pre ?_; first | refine Ck.mk rfl ?_)))); (try (conv => whnf)))
      refine LoopN.weak ?sw1 hnx
      case sw1 => exact SW.mk _root_.id rfl rfl rfl ⟨.refl _, .refl _, .refl _, .refl _, VLe2.int (by omega), trivial⟩ (haveV.row rfl rfl trivial)
  · rw [qG, decide_eq_false c1, Bool.false_and, if_neg Bool.false_ne_true] at h2
    have hnx := ih (j + 1) ⟨hlt, h2⟩ (by omega)
    clear ih
    ((repeat ((conv => whnf); (first | (refine As.pre ?_; first | refine As.mk rfl ?_ | (refine As.mk ?_ ?_; · ((repeat' (refine andT ?_ ?_)) <;> (first | rfl | assumption | exact decide_eq_true (by omega) | exact decide_eq_true (by dsimp only; omega) | exact decide_eq_true (by simp; omega) | (simp; done))))) | (refine LetV.pre ?_; first | refine LetV.mk (t := 30) _ hld ?_ | refine LetV.mk (.sc (.int _ _)) rfl ?_) | (refine LetI.pre ?_; first | refine LetI.wrap (by omega) (by omega) ?_ | refine LetI.mk _ rfl ?_) | (refine LetB.pre ?_; first | refine LetB.dect (by omega) ?_ | refine LetB.decf (by omega) ?_) | (refine Gd.pre ?_; first | refine Gd.pass rfl ?_) | (refine Br.pre ?_; first | refine Br.tt rfl ?_ | refine Br.ff rfl ?_) | (refine Ck.pre ?_; first | refine Ck.mk rfl ?_)))); (try (conv => whnf)))
    refine LoopN.weak ?sw2 hnx
    case sw2 => exact SW.mk _root_.id rfl rfl rfl ⟨.refl _, .refl _, .refl _, .refl _, VLe2.int (by omega), trivial⟩ (haveV.row rfl rfl trivial)
theorem Source_f (e : E) (h : okB e) : AFun Try.prog 43 0 [en e] [] (int (1000000 * e.school + e.id)) [] := by
  refine AFun.of_W T_ok mixed Try.func43 rfl (Nat.le_of_ble_eq_true rfl) rfl ?_
  obtain ⟨h1, h2⟩ := h
  ((repeat ((conv => whnf); (first | (refine LetN.pre ?_; first | ((conv => arg 1; whnf); refine LetN.mk ?_)) | (refine As.pre ?_; first | refine As.mk rfl ?_) | (refine LetV.pre ?_; first | refine LetV.mk (.sc (.int _ _)) rfl ?_) | (refine LetI.pre ?_; first | refine LetI.wrap (by omega) (by omega) ?_) | (refine Ck.pre ?_; first | refine Ck.mk rfl ?_)))); (try (conv => whnf)))
  exact ⟨.inl rfl, ⟨_, rfl, rfl⟩, trivial⟩
abbrev r12S (l : List E) (fl : Fl) (s : Sc.Scl) (st : Int) (A : List St) : Nat × List Ach → AS
  | (k, out) => ⟨[(0, .ro fl 15 (l.map en)), (2, int st), (6, .ptr 0 3 0 0), (11, .slm {} 1 8 0 out.length), (12, .ro {} 4 (A.map stA)), (13, int k)], [(0, .row 3 32 [Sc.scA s]), (1, .row 8 aty (out.map achA))], 2⟩
set_option maxHeartbeats 1600000 in
set_option maxRecDepth 100000 in
theorem refOf_s (l : List E) (s : Sc.Scl) (st a o : Int) (fl : Fl) (hl : l.length ≤ 1000) (hb : ∀ e ∈ l, okB e) : AFun Try.prog 13 0 [.ro fl 15 (l.map en), Sc.scA s, int st, int a, int o] [] (.slm {} 0 8 0 (ofP l s st a o).length) [(0, .row 8 aty ((ofP l s st a o).map achA))] := by
  refine AFun.of_S T_ok mixed Try.func13 rfl (Nat.le_of_ble_eq_true rfl) rfl ?_
  have hA := rAt_f l a o fl (by omega)
  rw [← at_eq] at hA
  have hG := fun id => grade12_f l id fl hl
  have hx3 : ∀ x ∈ atP l a o, ∃ e ∈ l, e.kind = 3 ∧ x.entry = e.id := fun x hx => mem_at3 hx
  have hAl : (atP l a o).length ≤ 1000 := by
    have h1 : (chos (atR l a o) [cOf 3]).length ≤ _ := List.length_filter_le _ _
    have h2 : (chos l [cCounts a o]).length ≤ _ := List.length_filter_le _ _
    have h3 : (atR l a o).length = _ := srt_length false _
    have h4 : (atP l a o).length = _ := List.length_map _
    omega
  have hgm : ∀ k, gradeM (mB l) k = fstG l k := mB_fst l
  rw [ofP]
  generalize mB l = m at hgm ⊢
  generalize atP l a o = A at hA hx3 hAl ⊢
  have hml : (A.map stA).length = A.length := List.length_map _
  ((repeat ((conv => whnf); (first | (refine LetN.pre ?_; first | ((conv => arg 1; whnf); refine LetN.mk ?_)) | (refine As.pre ?_; first | refine As.mk rfl ?_) | (refine Ck.pre ?_; first | refine Ck.mk rfl ?_) | (refine CallN.pre ?_; first | refine CallN.pure hA rfl rfl ?_)))); (try (conv => whnf)))


  refine LoopN.weak (s1 := r12S l fl s st A (0, [])) ?sw0 ?_
  case sw0 => exact SW.mk _root_.id rfl rfl rfl ⟨.refl _, .refl _, .refl _, VLe2.nilslm, .refl _, .refl _, trivial⟩ (haveV.row rfl rfl (haveV.nil (Nat.le_of_ble_eq_true rfl) trivial))
  clear hA
  refine LoopN.ind T_ok mixed (S := r12S l fl s st A) (fun i => A.length - i.1) (fun i => i.1 ≤ A.length ∧ i.2 = ((A.take i.1).filter (keepA m s st)).map fun x => ownA (gradeM m x.entry) x.grade) (fun _ => rfl) (fun i hi ih => ?_) (0, []) ⟨Nat.zero_le _, rfl⟩
  obtain ⟨k, out⟩ := i
  obtain ⟨h1, h2⟩ := hi
  simp only at h1 h2 ih
  by_cases hlt : k < A.length
  case neg =>
    have hk : k = A.length := by omega
    subst hk
    rw [List.take_length] at h2
    rw [← h2]
    clear ih
    ((repeat ((conv => whnf); (first | (refine As.pre ?_; first | refine As.mk rfl ?_) | (refine LetI.pre ?_; first | refine LetI.mk _ rfl ?_) | (refine LetB.pre ?_; first | refine LetB.decf (by omega) ?_) | (refine Br.pre ?_; first | refine Br.ff rfl ?_) | (refine Ck.pre ?_; first | refine Ck.mk rfl ?_)))); (try (conv => whnf)))
    exact ⟨⟨[(10, .slm {} 0 8 0 out.length)], [(0, .row 8 aty (out.map achA))], 2⟩, SW.mk (fun _ => 1) rfl rfl (namesAll.row (pure_ach _) rfl) ⟨.refl _, trivial⟩ (haveV.row (pure_ach _) rfl trivial), .inl rfl, ⟨_, rfl, rfl⟩, rfl, trivial⟩
  have hld := getD_st hlt
  have hq := filter_map_succ (keepA m s st) (fun x => ownA (gradeM m x.entry) x.grade) hlt st0
  rw [← h2] at hq
  have hol : out.length ≤ k := by
    have := List.length_filter_le (keepA m s st) (A.take k)
    rw [h2, List.length_map]
    rw [List.length_take] at this
    omega
  have hxm : A.getD k st0 ∈ A := by rw [List.getD_eq_getElem?_getD, List.getElem?_eq_getElem hlt]; exact List.getElem_mem _
  obtain ⟨f1, f2, _, _⟩ := fst_some (hx3 _ hxm)
  clear h2 hx3 hxm
  generalize A.getD k st0 = x at hld hq f1 f2
  obtain ⟨xe, xb, xg, xv⟩ := x
  have hP := Sc.refPassed_f s xg
  have hGx := hG xe
  dsimp only at f1 f2
  rw [f1] at hGx
  have hfb := hb _ f2
  have hge := hgm xe
  generalize fstG l xe = e at hGx hfb hge f2
  have hSo := Source_f e hfb
  clear hG f1 f2 hgm hb
  cases xv with
  | true =>
    rw [if_neg (by simp [keepA]), List.append_nil] at hq
    ((repeat ((conv => whnf); (first | (refine LetN.pre ?_; first | ((conv => arg 1; whnf); refine LetN.mk ?_)) | (refine As.pre ?_; first | refine As.mk rfl ?_ | (refine As.mk ?_ ?_; · ((repeat' (refine andT ?_ ?_)) <;> (first | rfl | assumption | exact decide_eq_true (by omega) | exact decide_eq_true (by dsimp only; omega) | exact decide_eq_true (by simp; omega) | (simp; done))))) | (refine LetV.pre ?_; first | refine LetV.mk (t := 77) _ hld ?_ | refine LetV.mk (.sc (.int _ _)) rfl ?_ | refine LetV.mk (.sc (.bool _)) rfl ?_ | refine LetV.mk (.agg _) rfl ?_) | (refine LetI.pre ?_; first | refine LetI.wrap (by omega) (by omega) ?_ | refine LetI.mk _ rfl ?_) | (refine LetB.pre ?_; first | refine LetB.dect (by omega) ?_) | (refine Gd.pre ?_; first | refine Gd.run rfl ?_ | refine Gd.pass rfl ?_) | (refine Br.pre ?_; first | refine Br.tt rfl ?_) | (refine Ck.pre ?_; first | refine Ck.drawn (by kernel_rfl) ?_ | refine Ck.mk rfl ?_) | (refine LetL.pre ?_; first | refine LetL.mk [_] rfl ?_) | (refine CallN.pre ?_; first | refine CallN.pure hGx rfl rfl ?_ | refine CallN.pure hP rfl rfl ?_)))); (try (conv => whnf)))



    refine LoopN.weak ?sw2 (ih (k + 1, out) ⟨by omega, hq.symm⟩ (by omega))
    case sw2 => exact SW.mk _root_.id rfl rfl (namesAll.row rfl (namesAll.row (pure_ach _) rfl)) ⟨.refl _, .refl _, .refl _, .refl _, .refl _, VLe2.int (by omega), trivial⟩ (haveV.row rfl rfl (haveV.row (pure_ach _) rfl trivial))
  | false =>
    by_cases hp : Sc.rea s xg s.2.2
    case neg =>
      rw [decide_eq_false hp] at hP
      rw [if_neg (by simp [keepA, hp]), List.append_nil] at hq
      ((repeat ((conv => whnf); (first | (refine LetN.pre ?_; first | ((conv => arg 1; whnf); refine LetN.mk ?_)) | (refine As.pre ?_; first | refine As.mk rfl ?_ | (refine As.mk ?_ ?_; · ((repeat' (refine andT ?_ ?_)) <;> (first | rfl | assumption | exact decide_eq_true (by omega) | exact decide_eq_true (by dsimp only; omega) | exact decide_eq_true (by simp; omega) | (simp; done))))) | (refine LetV.pre ?_; first | refine LetV.mk (t := 77) _ hld ?_ | refine LetV.mk (.sc (.int _ _)) rfl ?_ | refine LetV.mk (.sc (.bool _)) rfl ?_ | refine LetV.mk (.agg _) rfl ?_) | (refine LetI.pre ?_; first | refine LetI.wrap (by omega) (by omega) ?_ | refine LetI.mk _ rfl ?_) | (refine LetB.pre ?_; first | refine LetB.dect (by omega) ?_) | (refine Gd.pre ?_; first | refine Gd.run rfl ?_ | refine Gd.pass rfl ?_) | (refine Br.pre ?_; first | refine Br.tt rfl ?_) | (refine Ck.pre ?_; first | refine Ck.drawn (by kernel_rfl) ?_ | refine Ck.mk rfl ?_) | (refine LetL.pre ?_; first | refine LetL.mk [_] rfl ?_) | (refine CallN.pre ?_; first | refine CallN.pure hGx rfl rfl ?_ | refine CallN.pure hP rfl rfl ?_)))); (try (conv => whnf)))



      refine LoopN.weak ?sw3 (ih (k + 1, out) ⟨by omega, hq.symm⟩ (by omega))
      case sw3 => exact SW.mk _root_.id rfl rfl (namesAll.row rfl (namesAll.row (pure_ach _) rfl)) ⟨.refl _, .refl _, .refl _, .refl _, .refl _, VLe2.int (by omega), trivial⟩ (haveV.row rfl rfl (haveV.row (pure_ach _) rfl trivial))
    case pos =>
      rw [decide_eq_true hp] at hP
      by_cases hs : e.student = st
      case neg =>
        rw [if_neg (by simp [keepA, hge, hs]), List.append_nil] at hq
        ((repeat ((conv => whnf); (first | (refine LetN.pre ?_; first | ((conv => arg 1; whnf); refine LetN.mk ?_)) | (refine As.pre ?_; first | refine As.mk rfl ?_ | (refine As.mk ?_ ?_; · ((repeat' (refine andT ?_ ?_)) <;> (first | rfl | assumption | exact decide_eq_true (by omega) | exact decide_eq_true (by dsimp only; omega) | exact decide_eq_true (by simp; omega) | (simp; done))))) | (refine LetV.pre ?_; first | refine LetV.mk (t := 77) _ hld ?_ | refine LetV.mk (.sc (.int _ _)) rfl ?_ | refine LetV.mk (.sc (.bool _)) rfl ?_ | refine LetV.mk (.agg _) rfl ?_) | (refine LetI.pre ?_; first | refine LetI.wrap (by omega) (by omega) ?_ | refine LetI.mk _ rfl ?_) | (refine LetB.pre ?_; first | refine LetB.dect (by omega) ?_ | refine LetB.bnet (by omega) ?_) | (refine Gd.pre ?_; first | refine Gd.run rfl ?_) | (refine Br.pre ?_; first | refine Br.tt rfl ?_) | (refine Ck.pre ?_; first | refine Ck.drawn (by kernel_rfl) ?_ | refine Ck.mk rfl ?_) | (refine LetL.pre ?_; first | refine LetL.mk [_] rfl ?_) | (refine CallN.pre ?_; first | refine CallN.pure hGx rfl rfl ?_ | refine CallN.pure hP rfl rfl ?_)))); (try (conv => whnf)))



        refine LoopN.weak ?sw4 (ih (k + 1, out) ⟨by omega, hq.symm⟩ (by omega))
        case sw4 => exact SW.mk _root_.id rfl rfl (namesAll.row rfl (namesAll.row (pure_ach _) rfl)) ⟨.refl _, .refl _, .refl _, .refl _, .refl _, VLe2.int (by omega), trivial⟩ (haveV.row rfl rfl (haveV.row (pure_ach _) rfl trivial))
      case pos =>
        rw [if_pos (by simp [keepA, hge, hs, hp])] at hq
        have hr := room_ach (n := out.length + 1) (by omega)
        have hol2 : (out.map achA).length = out.length := List.length_map _
        ((repeat ((conv => whnf); (first | (refine LetN.pre ?_; first | ((conv => arg 1; whnf); refine LetN.mk ?_)) | (refine As.pre ?_; first | refine As.mk rfl ?_ | (refine As.mk ?_ ?_; · ((repeat' (refine andT ?_ ?_)) <;> (first | rfl | assumption | exact decide_eq_true (by omega) | exact decide_eq_true (by dsimp only; omega) | exact decide_eq_true (by simp; omega) | (simp; done))))) | (refine LetV.pre ?_; first | refine LetV.mk (t := 77) _ hld ?_ | refine LetV.mk (.sc (.int _ _)) rfl ?_ | refine LetV.mk (.sc (.bool _)) rfl ?_ | refine LetV.mk (.sc _) rfl ?_ | refine LetV.mk (.agg _) rfl ?_) | (refine LetI.pre ?_; first | refine LetI.wrap (by omega) (by omega) ?_ | refine LetI.mk _ rfl ?_) | (refine LetB.pre ?_; first | refine LetB.dect (by omega) ?_ | refine LetB.bnef (by omega) ?_) | (refine Gd.pre ?_; first | refine Gd.run rfl ?_) | (refine Br.pre ?_; first | refine Br.tt rfl ?_ | refine Br.ff rfl ?_) | (refine Ck.pre ?_; first | refine Ck.drawn (by kernel_rfl) ?_ | refine Ck.mk rfl ?_) | (refine LetL.pre ?_; first | refine LetL.mk (ty := aty) _ (app_ach out (ownA e xg) _ rfl) ?_ | refine LetL.mk [_] rfl ?_) | (refine CallN.pre ?_; first | refine CallN.pure hGx rfl rfl ?_ | refine CallN.pure hP rfl rfl ?_ | refine CallN.pure hSo rfl rfl ?_)))); (try (conv => whnf)))





        refine LoopN.weak ?sw5 (ih (k + 1, out ++ [ownA e xg]) ⟨by omega, by rw [hq, hge]⟩ (by omega))
        case sw5 => exact SW.mk (fun i => if i = 1 then 4 else i) rfl rfl (namesAll.row rfl (namesAll.row (pure_ach _) rfl)) ⟨.refl _, .refl _, .refl _, VLe2.slm_of (by simp), .refl _, VLe2.int (by omega), trivial⟩ (haveV.row rfl rfl (haveV.row (pure_ach _) rfl trivial))
theorem refOf_f (l : List E) (s : Sc.Scl) (st a o : Int) (fl : Fl) (hl : l.length ≤ 1000) (hb : ∀ e ∈ l, okB e) : AFun Try.prog 13 0 [.ro fl 15 (l.map en), Sc.scA s, int st, int a, int o] [] (.ro {} 8 ((ofP l s st a o).map achA)) [] :=
  AFun.frz1 (H := []) (refOf_s l s st a o fl hl hb) rfl (pure_ach _) (by simp)
end En
end Go.Proofs.Ytiefcppgbnfbfaa
namespace Go.Proofs.Ytiefcppgbnfbfaa
open Go.Proofs.Ytiefcppgbnfbfaa.Am
set_option maxRecDepth 100000
namespace Sc
/-! ### Ratios and means -/
abbrev u64 (a : Int) : AV := .sc (.int .u64 a)
theorem wrap_u (n : Int) : IntKind.u64.wrap n = n % 18446744073709551616 := by
  unfold IntKind.wrap
  simp only [IntKind.signed, IntKind.bits]
  rfl
theorem size_up {a : Int} (h : -9223372036854775808 ≤ a ∧ a ≤ 9223372036854775807) (hn : ¬ a < 0) : IntKind.u64.wrap a = (a.natAbs : Int) := by
  rw [wrap_u]; omega
theorem size_down {a : Int} (h : -9223372036854775808 ≤ a ∧ a ≤ 9223372036854775807) (hn : a < 0) : IntKind.u64.wrap (0 - IntKind.u64.wrap a) = (a.natAbs : Int) := by
  rw [wrap_u, wrap_u]; omega
/-- The size of a number. -/
theorem size_f (a : Int) (h : -9223372036854775808 ≤ a ∧ a ≤ 9223372036854775807) : AFun Try.prog 94 0 [int a] [] (u64 (a.natAbs : Int)) [] := by
  refine AFun.of_W T_ok mixed Try.func94 rfl (Nat.le_of_ble_eq_true rfl) rfl ?_
  by_cases hn : a < 0
  · ((repeat ((conv => whnf); (first | (refine As.pre ?_; first | refine As.mk rfl ?_) | (refine LetI.pre ?_; first | refine LetI.mk _ rfl ?_) | (refine LetB.pre ?_; first | refine LetB.dect (p := a < 0) hn ?_) | (refine Br.pre ?_; first | refine Br.tt rfl ?_) | (refine Ck.pre ?_; first | refine Ck.mk rfl ?_)))); (try (conv => whnf)))
    exact ⟨.inl rfl, ⟨_, rfl, congrArg u64 (size_down h hn)⟩, trivial⟩
  · ((repeat ((conv => whnf); (first | (refine As.pre ?_; first | refine As.mk rfl ?_) | (refine LetI.pre ?_; first | refine LetI.mk _ rfl ?_) | (refine LetB.pre ?_; first | refine LetB.decf (p := a < 0) hn ?_) | (refine Br.pre ?_; first | refine Br.ff rfl ?_) | (refine Ck.pre ?_; first | refine Ck.mk rfl ?_)))); (try (conv => whnf)))
    exact ⟨.inl rfl, ⟨_, rfl, congrArg u64 (size_up h hn)⟩, trivial⟩
theorem refsize_f (a : Int) (h : -9223372036854775808 ≤ a ∧ a ≤ 9223372036854775807) : AFun Try.prog 96 0 [int a] [] (u64 (a.natAbs : Int)) [] := by
  refine AFun.of_W T_ok mixed Try.func96 rfl (Nat.le_of_ble_eq_true rfl) rfl ?_
  by_cases hn : a < 0
  · ((repeat ((conv => whnf); (first | (refine As.pre ?_; first | refine As.mk rfl ?_) | (refine LetI.pre ?_; first | refine LetI.mk _ rfl ?_) | (refine LetB.pre ?_; first | refine LetB.dect (p := a < 0) hn ?_) | (refine Br.pre ?_; first | refine Br.tt rfl ?_) | (refine Ck.pre ?_; first | refine Ck.mk rfl ?_)))); (try (conv => whnf)))
    exact ⟨.inl rfl, ⟨_, rfl, congrArg u64 (size_down h hn)⟩, trivial⟩
  · ((repeat ((conv => whnf); (first | (refine As.pre ?_; first | refine As.mk rfl ?_) | (refine LetI.pre ?_; first | refine LetI.mk _ rfl ?_) | (refine LetB.pre ?_; first | refine LetB.decf (p := a < 0) hn ?_) | (refine Br.pre ?_; first | refine Br.ff rfl ?_) | (refine Ck.pre ?_; first | refine Ck.mk rfl ?_)))); (try (conv => whnf)))
    exact ⟨.inl rfl, ⟨_, rfl, congrArg u64 (size_up h hn)⟩, trivial⟩
theorem gcd_step (a b : Nat) : Nat.gcd b (a % b) = Nat.gcd a b := by
  rw [Nat.gcd_comm b, ← Nat.gcd_rec, Nat.gcd_comm]
theorem tmod_nat (a b : Nat) : (a : Int).tmod b = ((a % b : Nat) : Int) := (Int.ofNat_tmod a b).symm
theorem refgcd_f (a b : Nat) : AFun Try.prog 95 0 [u64 a, u64 b] [] (u64 (Nat.gcd a b : Nat)) [] := by
  refine AFun.of_W T_ok mixed Try.func95 rfl (Nat.le_of_ble_eq_true rfl) rfl ?_
  ((repeat ((conv => whnf); (first | (refine As.pre ?_; first | refine As.mk rfl ?_) | (refine Ck.pre ?_; first | refine Ck.mk rfl ?_)))); (try (conv => whnf)))
  refine LoopN.weak (SW.fr0 (nx2 := 0) (fr2 := [(0, u64 a), (1, u64 b)]) (Nat.zero_le _) rfl ⟨.refl _, .refl _, trivial⟩) ?_
  refine LoopN.ind T_ok mixed (S := fun k : Nat × Nat => ⟨[(0, u64 k.1), (1, u64 k.2)], [], 0⟩) (fun k => k.2) (fun k => Nat.gcd k.1 k.2 = Nat.gcd a b) (fun _ => rfl) (fun k hk ih => ?_) (a, b) rfl
  by_cases h0 : k.2 = 0
  · have hb : ((k.2 : Int) != 0) = false := by simp [h0]
    ((repeat ((conv => whnf); (first | (refine As.pre ?_; first | refine As.mk rfl ?_) | (refine LetB.pre ?_; first | refine LetB.ff (by assumption) ?_) | (refine Br.pre ?_; first | refine Br.ff rfl ?_) | (refine Ck.pre ?_; first | refine Ck.mk rfl ?_)))); (try (conv => whnf)))
    refine ⟨.inl rfl, ⟨_, rfl, congrArg u64 ?_⟩, trivial⟩
    rw [← hk, h0, Nat.gcd_zero_right]
  · have hb : ((k.2 : Int) != 0) = true := by simpa using h0
    ((repeat ((conv => whnf); (first | (refine As.pre ?_; first | refine As.mk rfl ?_ | refine As.mk hb ?_) | (refine LetI.pre ?_; first | refine LetI.mk _ rfl ?_) | (refine LetB.pre ?_; first | refine LetB.tt (by assumption) ?_) | (refine Br.pre ?_; first | refine Br.tt rfl ?_) | (refine Ck.pre ?_; first | refine Ck.drawn (by kernel_rfl) ?_ | refine Ck.mk rfl ?_)))); (try (conv => whnf)))
    refine LoopN.weak ?sw (ih (k.2, k.1 % k.2) ((gcd_step _ _).trans hk) (Nat.mod_lt _ (by omega)))
    exact SW.fr0 (Nat.zero_le _) rfl ⟨.refl _, VLe2.int (tmod_nat _ _).symm, trivial⟩
theorem gcd_f (a b : Nat) (fl : Fl) : AFun Try.prog 93 0 [.ro fl 1 [u64 a, u64 b]] [] (u64 (Nat.gcd a b : Nat)) [] := by
  refine AFun.of_W T_ok mixed Try.func93 rfl (Nat.le_of_ble_eq_true rfl) rfl ?_
  ((repeat ((conv => whnf); (first | (refine As.pre ?_; first | refine As.mk rfl ?_) | (refine LetI.pre ?_; first | refine LetI.mk _ rfl ?_) | (refine Ck.pre ?_; first | refine Ck.mk rfl ?_)))); (try (conv => whnf)))
  refine LoopN.round T_ok mixed rfl ?_
  ((repeat ((conv => whnf); (first | (refine As.pre ?_; first | refine As.mk rfl ?_) | (refine LetV.pre ?_; first | refine LetV.mk (.sc (.int _ _)) rfl ?_) | (refine LetB.pre ?_; first | refine LetB.tt rfl ?_) | (refine Br.pre ?_; first | refine Br.tt rfl ?_) | (refine Ck.pre ?_; first | refine Ck.mk rfl ?_)))); (try (conv => whnf)))
  refine LoopN.weak (SW.fr0 (nx2 := 0) (fr2 := [(0, .ro fl 1 [u64 a, u64 b]), (3, u64 (0 : Nat)), (5, u64 a), (6, .ro fl 1 [u64 a, u64 b]), (7, int 2), (8, int 0)]) (Nat.zero_le _) rfl ⟨.refl _, .refl _, .refl _, .refl _, .refl _, .refl _, trivial⟩) ?_
  refine LoopN.ind T_ok mixed (S := fun k : Nat × Nat => ⟨[(0, .ro fl 1 [u64 a, u64 b]), (3, u64 k.1), (5, u64 k.2), (6, .ro fl 1 [u64 a, u64 b]), (7, int 2), (8, int 0)], [], 0⟩) (fun k => k.2) (fun k => Nat.gcd k.1 k.2 = a) (fun _ => rfl) (fun k hk ih => ?_) (0, a) (Nat.gcd_zero_left a)
  by_cases h0 : k.2 = 0
  · have hb : ((k.2 : Int) != 0) = false := by simp [h0]
    have ha : k.1 = a := by rw [← hk, h0, Nat.gcd_zero_right]
    rw [ha]
    clear ih
    ((repeat ((conv => whnf); (first | (refine As.pre ?_; first | refine As.mk rfl ?_) | (refine LetI.pre ?_; first | refine LetI.wrap (by omega) (by omega) ?_) | (refine LetB.pre ?_; first | refine LetB.ff (by assumption) ?_) | (refine Br.pre ?_; first | refine Br.ff rfl ?_) | (refine Ck.pre ?_; first | refine Ck.mk rfl ?_)))); (try (conv => whnf)))
    refine LoopN.round T_ok mixed rfl ?_
    ((repeat ((conv => whnf); (first | (refine As.pre ?_; first | refine As.mk rfl ?_) | (refine LetV.pre ?_; first | refine LetV.mk (.sc (.int _ _)) rfl ?_) | (refine LetB.pre ?_; first | refine LetB.tt rfl ?_) | (refine Br.pre ?_; first | refine Br.tt rfl ?_) | (refine Ck.pre ?_; first | refine Ck.mk rfl ?_)))); (try (conv => whnf)))
    refine LoopN.weak (SW.fr0 (nx2 := 0) (fr2 := [(0, .ro fl 1 [u64 a, u64 b]), (3, u64 a), (5, u64 b), (6, .ro fl 1 [u64 a, u64 b]), (7, int 2), (8, int 1)]) (Nat.zero_le _) rfl ⟨.refl _, .refl _, .refl _, .refl _, .refl _, .refl _, trivial⟩) ?_
    refine LoopN.ind T_ok mixed (S := fun k : Nat × Nat => ⟨[(0, .ro fl 1 [u64 a, u64 b]), (3, u64 k.1), (5, u64 k.2), (6, .ro fl 1 [u64 a, u64 b]), (7, int 2), (8, int 1)], [], 0⟩) (fun k => k.2) (fun k => Nat.gcd k.1 k.2 = Nat.gcd a b) (fun _ => rfl) (fun k hk ih => ?_) (a, b) rfl
    by_cases h0 : k.2 = 0
    · have hb : ((k.2 : Int) != 0) = false := by simp [h0]
      have ha : k.1 = Nat.gcd a b := by rw [← hk, h0, Nat.gcd_zero_right]
      rw [ha]
      clear ih
      ((repeat ((conv => whnf); (first | (refine As.pre ?_; first | refine As.mk rfl ?_) | (refine LetI.pre ?_; first | refine LetI.wrap (by omega) (by omega) ?_) | (refine LetB.pre ?_; first | refine LetB.ff (by assumption) ?_) | (refine Br.pre ?_; first | refine Br.ff rfl ?_) | (refine Ck.pre ?_; first | refine Ck.mk rfl ?_)))); (try (conv => whnf)))
      refine LoopN.round T_ok mixed rfl ?_
      ((repeat ((conv => whnf); (first | (refine As.pre ?_; first | refine As.mk rfl ?_) | (refine LetB.pre ?_; first | refine LetB.ff rfl ?_) | (refine Br.pre ?_; first | refine Br.ff rfl ?_) | (refine Ck.pre ?_; first | refine Ck.mk rfl ?_)))); (try (conv => whnf)))
      exact ⟨.inl rfl, ⟨_, rfl, rfl⟩, trivial⟩
    · have hb : ((k.2 : Int) != 0) = true := by simpa using h0
      ((repeat ((conv => whnf); (first | (refine As.pre ?_; first | refine As.mk rfl ?_ | refine As.mk hb ?_) | (refine LetI.pre ?_; first | refine LetI.mk _ rfl ?_) | (refine LetB.pre ?_; first | refine LetB.tt (by assumption) ?_) | (refine Br.pre ?_; first | refine Br.tt rfl ?_) | (refine Ck.pre ?_; first | refine Ck.drawn (by kernel_rfl) ?_ | refine Ck.mk rfl ?_)))); (try (conv => whnf)))
      refine LoopN.weak ?sw2 (ih (k.2, k.1 % k.2) ((gcd_step _ _).trans hk) (Nat.mod_lt _ (by omega)))
      exact SW.fr0 (Nat.zero_le _) rfl ⟨.refl _, .refl _, VLe2.int (tmod_nat _ _).symm, .refl _, .refl _, .refl _, trivial⟩
  · have hb : ((k.2 : Int) != 0) = true := by simpa using h0
    ((repeat ((conv => whnf); (first | (refine As.pre ?_; first | refine As.mk rfl ?_ | refine As.mk hb ?_) | (refine LetI.pre ?_; first | refine LetI.mk _ rfl ?_) | (refine LetB.pre ?_; first | refine LetB.tt (by assumption) ?_) | (refine Br.pre ?_; first | refine Br.tt rfl ?_) | (refine Ck.pre ?_; first | refine Ck.drawn (by kernel_rfl) ?_ | refine Ck.mk rfl ?_)))); (try (conv => whnf)))
    refine LoopN.weak ?sw (ih (k.2, k.1 % k.2) ((gcd_step _ _).trans hk) (Nat.mod_lt _ (by omega)))
    exact SW.fr0 (Nat.zero_le _) rfl ⟨.refl _, .refl _, VLe2.int (tmod_nat _ _).symm, .refl _, .refl _, .refl _, trivial⟩
def ofN (n d : Int) : Nat := n.natAbs / Nat.gcd n.natAbs d.natAbs
def ofD (n d : Int) : Nat := d.natAbs / Nat.gcd n.natAbs d.natAbs
theorem wrap_quo (a b : Nat) (ha : a < 18446744073709551616) : IntKind.u64.wrap ((a : Int).tdiv b) = ((a / b : Nat) : Int) := by
  have h : (a : Int).tdiv b = ((a / b : Nat) : Int) := (Int.ofNat_tdiv a b).symm
  have h2 : a / b ≤ a := Nat.div_le_self _ _
  rw [h, wrap_u]
  generalize a / b = q at *
  omega
set_option maxHeartbeats 1000000 in
theorem Of_f (n d : Int) (hn : -9223372036854775808 ≤ n ∧ n ≤ 9223372036854775807) (hd : -9223372036854775808 ≤ d ∧ d ≤ 9223372036854775807) (h0 : d ≠ 0) (hu : ofN n d ≤ 1073741824) (hv : ofD n d ≤ 1073741824) : AFun Try.prog 73 0 [int n, int d] [] (.tup [.agg [int (if (decide (n < 0) != decide (d < 0)) = true then 0 - (ofN n d : Int) else ofN n d), int (ofD n d)], int 0]) [] := by
  refine AFun.of_W T_ok mixed Try.func73 rfl (Nat.le_of_ble_eq_true rfl) rfl ?_
  have hg : 0 < Nat.gcd n.natAbs d.natAbs := Nat.gcd_pos_of_pos_right _ (by omega)
  have hq : ((Nat.gcd n.natAbs d.natAbs : Int) != 0) = true := by simp; omega
  have e1 : _ = (ofN n d : Int) := wrap_quo n.natAbs (Nat.gcd n.natAbs d.natAbs) (by omega)
  have e2 : _ = (ofD n d : Int) := wrap_quo d.natAbs (Nat.gcd n.natAbs d.natAbs) (by omega)
  have hz : (d == 0) = false := by simpa using h0
  generalize ofN n d = u at *
  generalize ofD n d = v at *
  repeat' ((conv => whnf); (first | (refine LetN.pre ?_; first | ((conv => arg 1; whnf); refine LetN.mk ?_)) | (refine As.pre ?_; first | refine As.mk rfl ?_ | refine As.mk hq ?_) | (refine LetV.pre ?_; first | refine LetV.mk (.sc (.int _ _)) rfl ?_ | refine LetV.mk (.agg _) rfl ?_) | (refine LetI.pre ?_; first | refine LetI.mk _ e1.symm ?_ | refine LetI.mk _ e2.symm ?_ | refine LetI.wrap (by omega) (by omega) ?_) | (refine LetB.pre ?_; first | refine LetB.tt rfl ?_ | refine LetB.ff rfl ?_ | refine LetB.ff (by assumption) ?_ | refine LetB.decf (by omega) ?_ | (refine LetB.dec (fun _ => ?_) (fun _ => ?_))) | (refine Gd.pre ?_; first | refine Gd.run rfl ?_) | (refine Br.pre ?_; first | refine Br.tt rfl ?_ | refine Br.ff rfl ?_) | (refine Ck.pre ?_; first | refine Ck.drawn (by kernel_rfl) ?_ | refine Ck.mk rfl ?_) | (refine LetL.pre ?_; first | refine LetL.mk [_] rfl ?_) | (refine CallN.pre ?_; first | refine CallN.pure (size_f _ hn) rfl rfl ?_ | refine CallN.pure (size_f _ hd) rfl rfl ?_ | refine CallN.pure (gcd_f _ _ _) rfl rfl ?_)))






  all_goals refine ⟨.inl rfl, ⟨_, rfl, congrArg (fun a => AV.tup [AV.agg [int a, int v], int 0]) ?_⟩, trivial⟩
  all_goals (clear e1 e2 hq hz hg; simp [*])
set_option maxHeartbeats 1000000 in
theorem refOf_f (n d : Int) (hn : -9223372036854775808 ≤ n ∧ n ≤ 9223372036854775807) (hd : -9223372036854775808 ≤ d ∧ d ≤ 9223372036854775807) (h0 : d ≠ 0) (hu : ofN n d ≤ 1073741824) (hv : ofD n d ≤ 1073741824) : AFun Try.prog 75 0 [int n, int d] [] (.tup [.agg [int (if (decide (n < 0) != decide (d < 0)) = true then 0 - (ofN n d : Int) else ofN n d), int (ofD n d)], int 0]) [] := by
  refine AFun.of_W T_ok mixed Try.func75 rfl (Nat.le_of_ble_eq_true rfl) rfl ?_
  have hg : 0 < Nat.gcd n.natAbs d.natAbs := Nat.gcd_pos_of_pos_right _ (by omega)
  have hq : ((Nat.gcd n.natAbs d.natAbs : Int) != 0) = true := by simp; omega
  have e1 : _ = (ofN n d : Int) := wrap_quo n.natAbs (Nat.gcd n.natAbs d.natAbs) (by omega)
  have e2 : _ = (ofD n d : Int) := wrap_quo d.natAbs (Nat.gcd n.natAbs d.natAbs) (by omega)
  have hz : (d == 0) = false := by simpa using h0
  generalize ofN n d = u at *
  generalize ofD n d = v at *
  repeat' ((conv => whnf); (first | (refine LetN.pre ?_; first | ((conv => arg 1; whnf); refine LetN.mk ?_)) | (refine As.pre ?_; first | refine As.mk rfl ?_ | refine As.mk hq ?_) | (refine LetV.pre ?_; first | refine LetV.mk (.sc (.int _ _)) rfl ?_ | refine LetV.mk (.agg _) rfl ?_) | (refine LetI.pre ?_; first | refine LetI.mk _ e1.symm ?_ | refine LetI.mk _ e2.symm ?_ | refine LetI.wrap (by omega) (by omega) ?_) | (refine LetB.pre ?_; first | refine LetB.tt rfl ?_ | refine LetB.ff rfl ?_ | refine LetB.ff (by assumption) ?_ | refine LetB.decf (by omega) ?_ | (refine LetB.dec (fun _ => ?_) (fun _ => ?_))) | (refine Gd.pre ?_; first | refine Gd.run rfl ?_) | (refine Br.pre ?_; first | refine Br.tt rfl ?_ | refine Br.ff rfl ?_) | (refine Ck.pre ?_; first | refine Ck.mk rfl ?_) | (refine LetL.pre ?_; first | refine LetL.mk [_] rfl ?_) | (refine CallN.pre ?_; first | refine CallN.pure (refsize_f _ hn) rfl rfl ?_ | refine CallN.pure (refsize_f _ hd) rfl rfl ?_ | refine CallN.pure (refgcd_f _ _) rfl rfl ?_)))






  all_goals refine ⟨.inl rfl, ⟨_, rfl, congrArg (fun a => AV.tup [AV.agg [int a, int v], int 0]) ?_⟩, trivial⟩
  all_goals (clear e1 e2 hq hz hg; simp [*])
abbrev rt (r : Int × Int) (e : Int) : AV := .tup [.agg [int r.1, int r.2], int e]
def ps (f : Nat → Int) : Nat → Int
  | 0 => 0
  | k + 1 => ps f k + f k
abbrev gd (l : List Int) (i : Nat) : Int := l.getD i 0
/-- A grade with its credits. -/
abbrev okE (g n : Int) : Prop := (-1000 ≤ g ∧ g ≤ 1000) ∧ 1 ≤ n ∧ n ≤ 60
abbrev okL (gs cs : List Int) (k : Nat) : Prop := ∀ i, i < k → okE (gd gs i) (gd cs i)
def sN (gs cs : List Int) : Nat → Int := ps fun i => gd gs i * gd cs i
def sD (cs : List Int) : Nat → Int := ps fun i => gd cs i
theorem mul_b {g n : Int} (h : okE g n) : -60000 ≤ g * n ∧ g * n ≤ 60000 := by
  obtain ⟨⟨h1, h2⟩, h3, h4⟩ := h
  have a : g * n ≤ 1000 * n := Int.mul_le_mul_of_nonneg_right h2 (by omega)
  have b : -1000 * n ≤ g * n := Int.mul_le_mul_of_nonneg_right h1 (by omega)
  omega
theorem sums_b (gs cs : List Int) : ∀ k, okL gs cs k → (-60000 * (k : Int) ≤ sN gs cs k ∧ sN gs cs k ≤ 60000 * k) ∧ (k : Int) ≤ sD cs k ∧ sD cs k ≤ 60 * k
  | 0, _ => by simp [sN, sD, ps]
  | k + 1, h => by
    have ih := sums_b gs cs k fun i hi => h i (by omega)
    have h1 := h k (by omega)
    have h2 := mul_b h1
    have e1 : sN gs cs (k + 1) = sN gs cs k + gd gs k * gd cs k := rfl
    have e2 : sD cs (k + 1) = sD cs k + gd cs k := rfl
    rw [e1, e2]
    obtain ⟨_, h3, h4⟩ := h1
    generalize gd gs k * gd cs k = m at *
    omega
def rat (n d : Int) : Int × Int := (if (decide (n < 0) != decide (d < 0)) = true then 0 - (ofN n d : Int) else ofN n d, ofD n d)
/-- The mean of a list. -/
def mv (gs cs : List Int) : (Int × Int) × Int :=
  if gs.length ≠ cs.length ∨ gs.length = 0 then ((0, 0), 1) else if 2000 < gs.length then ((0, 0), 2) else if okL gs cs gs.length then (rat (sN gs cs gs.length) (sD cs gs.length), 0) else ((0, 0), 3)
theorem of_b (n d : Int) (h : -120000000 ≤ n ∧ n ≤ 120000000) (hd : 0 ≤ d ∧ d ≤ 120000) : ofN n d ≤ 1073741824 ∧ ofD n d ≤ 1073741824 := by
  have h1 : ofN n d ≤ n.natAbs := Nat.div_le_self _ _
  have h2 : ofD n d ≤ d.natAbs := Nat.div_le_self _ _
  omega
theorem rat_f (n d : Int) (h : -120000000 ≤ n ∧ n ≤ 120000000) (hd : 0 < d ∧ d ≤ 120000) : AFun Try.prog 73 0 [int n, int d] [] (rt (rat n d) 0) [] :=
  Of_f n d (by omega) (by omega) (by omega) (of_b n d h (by omega)).1 (of_b n d h (by omega)).2
theorem refrat_f (n d : Int) (h : -120000000 ≤ n ∧ n ≤ 120000000) (hd : 0 < d ∧ d ≤ 120000) : AFun Try.prog 75 0 [int n, int d] [] (rt (rat n d) 0) [] :=
  refOf_f n d (by omega) (by omega) (by omega) (of_b n d h (by omega)).1 (of_b n d h (by omega)).2
theorem add_ok (g n s a : Int) (h : okE g n) (hs : -120000000 ≤ s ∧ s ≤ 120000000) (ha : 0 ≤ a ∧ a ≤ 120000) : AFun Try.prog 71 2 [int g, int n, .ptr 0 1 0 0, .ptr 1 1 0 0] [(0, .row 1 3 [int s]), (1, .row 1 3 [int a])] (bool true) [(0, .row 1 3 [int (s + g * n)]), (1, .row 1 3 [int (a + n)])] := by
  refine AFun.of_W T_ok mixed Try.func71 rfl (Nat.le_of_ble_eq_true rfl) rfl ?_
  have hm := mul_b h
  have h1 := lim_spec g (-1000) 1000
  have h2 := lim_spec n 1 60
  ((repeat ((conv => whnf); (first | (refine LetN.pre ?_; first | ((conv => arg 1; whnf); refine LetN.mk ?_)) | (refine As.pre ?_; first | refine As.mk rfl ?_) | (refine LetV.pre ?_; first | refine LetV.mk (.sc (.int _ _)) rfl ?_) | (refine LetI.pre ?_; first | refine LetI.wrap (by omega) (by omega) ?_) | (refine LetB.pre ?_; first | refine LetB.dect (by omega) ?_) | (refine Gd.pre ?_; first | refine Gd.run rfl ?_) | (refine Ck.pre ?_; first | refine Ck.drawn (by kernel_rfl) ?_ | refine Ck.mk rfl ?_) | (refine LetL.pre ?_; first | refine LetL.mk [_] rfl ?_) | (refine CallN.pre ?_; first | refine CallN.pure (limited_f _ _ _) rfl rfl ?_)))); (try (conv => whnf)))
  exact ⟨.inl rfl, ⟨_, rfl, rfl⟩, rfl, rfl, trivial⟩
theorem add_bad (g n s a : Int) (h : ¬ okE g n) : ∃ s' a', AFun Try.prog 71 2 [int g, int n, .ptr 0 1 0 0, .ptr 1 1 0 0] [(0, .row 1 3 [int s]), (1, .row 1 3 [int a])] (bool false) [(0, .row 1 3 [int s']), (1, .row 1 3 [int a'])] := by
  refine ⟨IntKind.i64.wrap (s + IntKind.i64.wrap (g * n)), IntKind.i64.wrap (a + n), ?_⟩
  refine AFun.of_W T_ok mixed Try.func71 rfl (Nat.le_of_ble_eq_true rfl) rfl ?_
  have h1 := lim_spec g (-1000) 1000
  have h2 := lim_spec n 1 60
  by_cases hg : -1000 ≤ g ∧ g ≤ 1000
  · have hn : ¬ (1 ≤ n ∧ n ≤ 60) := fun hn => h ⟨hg, hn⟩
    ((repeat ((conv => whnf); (first | (refine LetN.pre ?_; first | ((conv => arg 1; whnf); refine LetN.mk ?_)) | (refine As.pre ?_; first | refine As.mk rfl ?_) | (refine LetV.pre ?_; first | refine LetV.mk (.sc (.int _ _)) rfl ?_) | (refine LetI.pre ?_; first | refine LetI.mk (o := some .add) _ rfl ?_ | refine LetI.mk _ rfl ?_) | (refine LetB.pre ?_; first | refine LetB.dect (by omega) ?_ | refine LetB.decf (by omega) ?_) | (refine Gd.pre ?_; first | refine Gd.run rfl ?_) | (refine Ck.pre ?_; first | refine Ck.drawn (by kernel_rfl) ?_ | refine Ck.mk rfl ?_) | (refine LetL.pre ?_; first | refine LetL.mk [_] rfl ?_) | (refine CallN.pre ?_; first | refine CallN.pure (limited_f _ _ _) rfl rfl ?_)))); (try (conv => whnf)))
    exact ⟨.inl rfl, ⟨_, rfl, rfl⟩, rfl, rfl, trivial⟩
  · ((repeat ((conv => whnf); (first | (refine LetN.pre ?_; first | ((conv => arg 1; whnf); refine LetN.mk ?_)) | (refine As.pre ?_; first | refine As.mk rfl ?_) | (refine LetV.pre ?_; first | refine LetV.mk (.sc (.int _ _)) rfl ?_) | (refine LetI.pre ?_; first | refine LetI.mk (o := some .add) _ rfl ?_ | refine LetI.mk _ rfl ?_) | (refine LetB.pre ?_; first | refine LetB.decf (by omega) ?_) | (refine Gd.pre ?_; first | refine Gd.pass rfl ?_) | (refine Ck.pre ?_; first | refine Ck.drawn (by kernel_rfl) ?_ | refine Ck.mk rfl ?_) | (refine LetL.pre ?_; first | refine LetL.mk [_] rfl ?_) | (refine CallN.pre ?_; first | refine CallN.pure (limited_f _ _ _) rfl rfl ?_)))); (try (conv => whnf)))
    exact ⟨.inl rfl, ⟨_, rfl, rfl⟩, rfl, rfl, trivial⟩
theorem mv_ne {gs cs : List Int} (h : gs.length ≠ cs.length ∨ gs.length = 0) : mv gs cs = ((0, 0), 1) := if_pos h
theorem mv_many {gs cs : List Int} (h : ¬ (gs.length ≠ cs.length ∨ gs.length = 0)) (h2 : 2000 < gs.length) : mv gs cs = ((0, 0), 2) := by
  unfold mv; rw [if_neg h, if_pos h2]
theorem mv_ok {gs cs : List Int} (h : ¬ (gs.length ≠ cs.length ∨ gs.length = 0)) (h2 : ¬ 2000 < gs.length) (h3 : okL gs cs gs.length) : mv gs cs = (rat (sN gs cs gs.length) (sD cs gs.length), 0) := by
  unfold mv; rw [if_neg h, if_neg h2, if_pos h3]
theorem mv_bad {gs cs : List Int} (h : ¬ (gs.length ≠ cs.length ∨ gs.length = 0)) (h2 : ¬ 2000 < gs.length) (h3 : ¬ okL gs cs gs.length) : mv gs cs = ((0, 0), 3) := by
  unfold mv; rw [if_neg h, if_neg h2, if_neg h3]
abbrev bx (a : Int) : Blk := .row 1 3 [int a]
set_option maxHeartbeats 2000000 in
theorem Mean_f (gs cs : List Int) (f1 f2 : Fl) (hl : gs.length ≤ 9223372036854775807) (hl2 : cs.length ≤ 9223372036854775807) : AFun Try.prog 44 0 [.ro f1 1 (gs.map int), .ro f2 1 (cs.map int)] [] (rt (mv gs cs).1 (mv gs cs).2) [] := by
  refine AFun.of_W T_ok mixed Try.func44 rfl (Nat.le_of_ble_eq_true rfl) rfl ?_
  have e1 : ((gs.map int).length : Int) = gs.length := by simp
  have e2 : ((cs.map int).length : Int) = cs.length := by simp
  by_cases h : gs.length ≠ cs.length ∨ gs.length = 0
  · rw [mv_ne h]
    repeat' ((conv => whnf); (first | (refine LetN.pre ?_; first | ((conv => arg 1; whnf); refine LetN.mk ?_)) | (refine As.pre ?_; first | refine As.mk rfl ?_) | (refine LetI.pre ?_; first | refine LetI.mk _ rfl ?_) | (refine LetB.pre ?_; first | refine LetB.dect (by omega) ?_ | (refine LetB.bne (fun _ => ?_) (fun _ => ?_))) | (refine Gd.pre ?_; first | refine Gd.run rfl ?_ | refine Gd.pass rfl ?_) | (refine Br.pre ?_; first | refine Br.tt rfl ?_) | (refine Ck.pre ?_; first | refine Ck.mk rfl ?_) | (refine LetL.pre ?_; first | refine LetL.mk [_] rfl ?_)))
    all_goals first
      | exact ⟨.inl rfl, ⟨_, rfl, rfl⟩, trivial⟩
      | omega
  by_cases h2 : 2000 < gs.length
  · rw [mv_many h h2]
    ((repeat ((conv => whnf); (first | (refine LetN.pre ?_; first | ((conv => arg 1; whnf); refine LetN.mk ?_)) | (refine As.pre ?_; first | refine As.mk rfl ?_) | (refine LetI.pre ?_; first | refine LetI.mk _ rfl ?_) | (refine LetB.pre ?_; first | refine LetB.dect (by omega) ?_ | refine LetB.decf (by omega) ?_ | refine LetB.bnef (by omega) ?_) | (refine Gd.pre ?_; first | refine Gd.run rfl ?_) | (refine Br.pre ?_; first | refine Br.tt rfl ?_ | refine Br.ff rfl ?_) | (refine Ck.pre ?_; first | refine Ck.mk rfl ?_) | (refine LetL.pre ?_; first | refine LetL.mk [_] rfl ?_)))); (try (conv => whnf)))
    exact ⟨.inl rfl, ⟨_, rfl, rfl⟩, trivial⟩
  have c0 : gs.length = cs.length := by omega
  have c1 : 0 < gs.length := by omega
  have c2 : gs.length ≤ 2000 := by omega
  ((repeat ((conv => whnf); (first | (refine LetN.pre ?_; first | ((conv => arg 1; whnf); refine LetN.mk ?_)) | (refine As.pre ?_; first | refine As.mk rfl ?_) | (refine LetI.pre ?_; first | refine LetI.mk _ rfl ?_) | (refine LetB.pre ?_; first | refine LetB.decf (by omega) ?_ | refine LetB.bnef (by omega) ?_) | (refine Gd.pre ?_; first | refine Gd.run rfl ?_) | (refine Br.pre ?_; first | refine Br.ff rfl ?_) | (refine Ck.pre ?_; first | refine Ck.mk rfl ?_) | (refine LetL.pre ?_; first | refine LetL.mk [_] rfl ?_)))); (try (conv => whnf)))
  refine LoopN.weak (s1 := ⟨[(0, .ro f1 1 (gs.map int)), (1, .ro f2 1 (cs.map int)), (4, .ptr 0 2 0 0), (5, int 0), (6, .ptr 1 1 0 0), (7, .ptr 2 1 0 0), (8, .clo 71 [.ptr 1 1 0 0, .ptr 2 1 0 0]), (29, .ro f1 1 (gs.map int)), (30, int gs.length), (31, int (0 : Nat))], [(0, .row 2 44 [.agg [int 0, int 0]]), (1, bx (sN gs cs 0)), (2, bx (sD cs 0))], 3⟩) (SW.mk id rfl rfl rfl ⟨.refl _, .refl _, .refl _, .refl _, .refl _, .refl _, .refl _, .refl _, VLe2.int e1.symm, .refl _, trivial⟩ (haveV.one rfl (haveV.one rfl (haveV.one rfl trivial)))) ?_
  refine LoopN.ind T_ok mixed (S := fun k : Nat => ⟨[(0, .ro f1 1 (gs.map int)), (1, .ro f2 1 (cs.map int)), (4, .ptr 0 2 0 0), (5, int 0), (6, .ptr 1 1 0 0), (7, .ptr 2 1 0 0), (8, .clo 71 [.ptr 1 1 0 0, .ptr 2 1 0 0]), (29, .ro f1 1 (gs.map int)), (30, int gs.length), (31, int k)], [(0, .row 2 44 [.agg [int 0, int 0]]), (1, bx (sN gs cs k)), (2, bx (sD cs k))], 3⟩) (fun k => gs.length - k) (fun k => k ≤ gs.length ∧ okL gs cs k) (fun _ => rfl) (fun k hk ih => ?_) 0 ⟨Nat.zero_le _, fun i hi => absurd hi (Nat.not_lt_zero i)⟩
  obtain ⟨hk, hok⟩ := hk
  have hb := sums_b gs cs k hok
  by_cases hlt : k < gs.length
  · have hlt2 : k < cs.length := by omega
    have q1 : k < (gs.map int).length := by simpa using hlt
    have q2 : k < (cs.map int).length := by simpa using hlt2
    by_cases hE : okE (gd gs k) (gd cs k)
    · ((repeat ((conv => whnf); (first | (refine LetN.pre ?_; first | ((conv => arg 1; whnf); refine LetN.mk ?_)) | (refine As.pre ?_; first | refine As.mk rfl ?_ | (refine As.mk ?_ ?_; · ((repeat' (refine andT ?_ ?_)) <;> (first | rfl | assumption | exact decide_eq_true (by omega) | exact decide_eq_true (by dsimp only; omega) | exact decide_eq_true (by simp; omega) | (simp; done))))) | (refine LetV.pre ?_; first | refine LetV.mk (t := 22) _ (mapD (f := int) (l := gs) (i := k) 0 hlt) ?_ | refine LetV.mk (t := 22) _ (mapD (f := int) (l := cs) (i := k) 0 hlt2) ?_ | refine LetV.mk (.sc (.int _ _)) rfl ?_) | (refine LetI.pre ?_; first | refine LetI.wrap (by omega) (by omega) ?_) | (refine LetB.pre ?_; first | refine LetB.dect (by omega) ?_) | (refine Br.pre ?_; first | refine Br.tt rfl ?_ | refine Br.ff rfl ?_) | (refine Ck.pre ?_; first | refine Ck.mk rfl ?_) | (refine LetL.pre ?_; first | refine LetL.mk [_] rfl ?_) | (refine CallN.pre ?_; first | refine CallN.own (fun i => i + 1) (add_ok _ _ _ _ hE (by omega) (by omega)) (CallOk.mk' rfl rfl rfl rfl rfl rfl ⟨rfl, rfl, trivial⟩) ?_)))); (try (conv => whnf)))



      refine LoopN.weak ?sw0 (ih (k + 1) ⟨by omega, fun i hi => ?_⟩ (by omega))
      case sw0 => exact SW.mk id rfl rfl rfl ⟨.refl _, .refl _, .refl _, .refl _, .refl _, .refl _, .refl _, .refl _, .refl _, .refl _, trivial⟩ (haveV.one rfl (haveV.one rfl (haveV.one rfl trivial)))
      by_cases hi2 : i < k
      · exact hok i hi2
      · obtain rfl : i = k := by omega
        exact hE
    · obtain ⟨s', a', hbad⟩ := add_bad (gd gs k) (gd cs k) (sN gs cs k) (sD cs k) hE
      have e3 : mv gs cs = ((0, 0), 3) := mv_bad h h2 fun hh => hE (hh k hlt)
      rw [e3]
      ((repeat ((conv => whnf); (first | (refine LetN.pre ?_; first | ((conv => arg 1; whnf); refine LetN.mk ?_)) | (refine As.pre ?_; first | refine As.mk rfl ?_ | (refine As.mk ?_ ?_; · ((repeat' (refine andT ?_ ?_)) <;> (first | rfl | assumption | exact decide_eq_true (by omega) | exact decide_eq_true (by dsimp only; omega) | exact decide_eq_true (by simp; omega) | (simp; done))))) | (refine LetV.pre ?_; first | refine LetV.mk (t := 22) _ (mapD (f := int) (l := gs) (i := k) 0 hlt) ?_ | refine LetV.mk (t := 22) _ (mapD (f := int) (l := cs) (i := k) 0 hlt2) ?_ | refine LetV.mk (.sc (.int _ _)) rfl ?_) | (refine LetB.pre ?_; first | refine LetB.dect (by omega) ?_) | (refine Br.pre ?_; first | refine Br.tt rfl ?_) | (refine Ck.pre ?_; first | refine Ck.mk rfl ?_) | (refine LetL.pre ?_; first | refine LetL.mk [_] rfl ?_) | (refine CallN.pre ?_; first | refine CallN.own (fun i => i + 1) hbad (CallOk.mk' rfl rfl rfl rfl rfl rfl ⟨rfl, rfl, trivial⟩) ?_)))); (try (conv => whnf)))



      exact ⟨.inl rfl, ⟨_, rfl, rfl⟩, trivial⟩
  · obtain rfl : k = gs.length := by omega
    rw [mv_ok h h2 hok]
    clear ih
    ((repeat ((conv => whnf); (first | (refine LetN.pre ?_; first | ((conv => arg 1; whnf); refine LetN.mk ?_)) | (refine As.pre ?_; first | refine As.mk rfl ?_) | (refine LetV.pre ?_; first | refine LetV.mk (.sc (.int _ _)) rfl ?_) | (refine LetB.pre ?_; first | refine LetB.decf (by omega) ?_) | (refine Br.pre ?_; first | refine Br.ff rfl ?_) | (refine Ck.pre ?_; first | refine Ck.mk rfl ?_) | (refine LetL.pre ?_; first | refine LetL.mk [_] rfl ?_) | (refine CallN.pre ?_; first | refine CallN.pure (rat_f (sN gs cs gs.length) (sD cs gs.length) (by omega) (by omega)) rfl rfl ?_)))); (try (conv => whnf)))

    exact ⟨.inl rfl, ⟨_, rfl, rfl⟩, trivial⟩
set_option maxHeartbeats 2000000 in
theorem refMean_f (gs cs : List Int) (f1 f2 : Fl) (hl : gs.length ≤ 9223372036854775807) (hl2 : cs.length ≤ 9223372036854775807) : AFun Try.prog 45 0 [.ro f1 1 (gs.map int), .ro f2 1 (cs.map int)] [] (rt (mv gs cs).1 (mv gs cs).2) [] := by
  refine AFun.of_W T_ok mixed Try.func45 rfl (Nat.le_of_ble_eq_true rfl) rfl ?_
  have e1 : ((gs.map int).length : Int) = gs.length := by simp
  have e2 : ((cs.map int).length : Int) = cs.length := by simp
  by_cases h : gs.length ≠ cs.length ∨ gs.length = 0
  · rw [mv_ne h]
    repeat' ((conv => whnf); (first | (refine LetN.pre ?_; first | ((conv => arg 1; whnf); refine LetN.mk ?_)) | (refine As.pre ?_; first | refine As.mk rfl ?_) | (refine LetI.pre ?_; first | refine LetI.mk _ rfl ?_) | (refine LetB.pre ?_; first | refine LetB.dect (by omega) ?_ | (refine LetB.bne (fun _ => ?_) (fun _ => ?_))) | (refine Gd.pre ?_; first | refine Gd.run rfl ?_ | refine Gd.pass rfl ?_) | (refine Br.pre ?_; first | refine Br.tt rfl ?_) | (refine Ck.pre ?_; first | refine Ck.mk rfl ?_) | (refine LetL.pre ?_; first | refine LetL.mk [_] rfl ?_)))
    all_goals first
      | exact ⟨.inl rfl, ⟨_, rfl, rfl⟩, trivial⟩
      | omega
  by_cases h2 : 2000 < gs.length
  · rw [mv_many h h2]
    ((repeat ((conv => whnf); (first | (refine LetN.pre ?_; first | ((conv => arg 1; whnf); refine LetN.mk ?_)) | (refine As.pre ?_; first | refine As.mk rfl ?_) | (refine LetI.pre ?_; first | refine LetI.mk _ rfl ?_) | (refine LetB.pre ?_; first | refine LetB.dect (by omega) ?_ | refine LetB.decf (by omega) ?_ | refine LetB.bnef (by omega) ?_) | (refine Gd.pre ?_; first | refine Gd.run rfl ?_) | (refine Br.pre ?_; first | refine Br.tt rfl ?_ | refine Br.ff rfl ?_) | (refine Ck.pre ?_; first | refine Ck.mk rfl ?_) | (refine LetL.pre ?_; first | refine LetL.mk [_] rfl ?_)))); (try (conv => whnf)))
    exact ⟨.inl rfl, ⟨_, rfl, rfl⟩, trivial⟩
  have c0 : gs.length = cs.length := by omega
  have c1 : 0 < gs.length := by omega
  have c2 : gs.length ≤ 2000 := by omega
  ((repeat ((conv => whnf); (first | (refine LetN.pre ?_; first | ((conv => arg 1; whnf); refine LetN.mk ?_)) | (refine As.pre ?_; first | refine As.mk rfl ?_) | (refine LetI.pre ?_; first | refine LetI.mk _ rfl ?_) | (refine LetB.pre ?_; first | refine LetB.decf (by omega) ?_ | refine LetB.bnef (by omega) ?_) | (refine Gd.pre ?_; first | refine Gd.run rfl ?_) | (refine Br.pre ?_; first | refine Br.ff rfl ?_) | (refine Ck.pre ?_; first | refine Ck.mk rfl ?_)))); (try (conv => whnf)))
  refine LoopN.weak (s1 := ⟨[(0, .ro f1 1 (gs.map int)), (1, .ro f2 1 (cs.map int)), (4, .ptr 0 2 0 0), (5, int 0), (6, int (sN gs cs 0)), (7, int (sD cs 0)), (8, int (0 : Nat))], [(0, .row 2 44 [.agg [int 0, int 0]])], 1⟩) (SW.mk id rfl rfl rfl ⟨.refl _, .refl _, .refl _, .refl _, .refl _, .refl _, .refl _, trivial⟩ (haveV.one rfl trivial)) ?_
  refine LoopN.ind T_ok mixed (S := fun k : Nat => ⟨[(0, .ro f1 1 (gs.map int)), (1, .ro f2 1 (cs.map int)), (4, .ptr 0 2 0 0), (5, int 0), (6, int (sN gs cs k)), (7, int (sD cs k)), (8, int k)], [(0, .row 2 44 [.agg [int 0, int 0]])], 1⟩) (fun k => gs.length - k) (fun k => k ≤ gs.length ∧ okL gs cs k) (fun _ => rfl) (fun k hk ih => ?_) 0 ⟨Nat.zero_le _, fun i hi => absurd hi (Nat.not_lt_zero i)⟩
  obtain ⟨hk, hok⟩ := hk
  have hb := sums_b gs cs k hok
  by_cases hlt : k < gs.length
  · have hlt2 : k < cs.length := by omega
    have q1 : k < (gs.map int).length := by simpa using hlt
    have q2 : k < (cs.map int).length := by simpa using hlt2
    by_cases hE : okE (gd gs k) (gd cs k)
    · have hE' : okE (gs.getD k 0) (cs.getD k 0) := hE
      have hm : -60000 ≤ gs.getD k 0 * cs.getD k 0 ∧ gs.getD k 0 * cs.getD k 0 ≤ 60000 := mul_b hE
      ((repeat ((conv => whnf); (first | (refine As.pre ?_; first | refine As.mk rfl ?_ | (refine As.mk ?_ ?_; · ((repeat' (refine andT ?_ ?_)) <;> (first | rfl | assumption | exact decide_eq_true (by omega) | exact decide_eq_true (by dsimp only; omega) | exact decide_eq_true (by simp; omega) | (simp; done))))) | (refine LetV.pre ?_; first | refine LetV.mk (t := 22) _ (mapD (f := int) (l := gs) (i := k) 0 hlt) ?_ | refine LetV.mk (t := 22) _ (mapD (f := int) (l := cs) (i := k) 0 hlt2) ?_ | refine LetV.mk (.sc (.int _ _)) rfl ?_) | (refine LetI.pre ?_; first | refine LetI.wrap (by omega) (by omega) ?_ | refine LetI.mk _ rfl ?_) | (refine LetB.pre ?_; first | refine LetB.dect (by omega) ?_ | refine LetB.decf (by omega) ?_) | (refine Gd.pre ?_; first | refine Gd.run rfl ?_) | (refine Br.pre ?_; first | refine Br.tt rfl ?_ | refine Br.ff rfl ?_) | (refine Ck.pre ?_; first | refine Ck.drawn (by kernel_rfl) ?_ | refine Ck.mk rfl ?_) | (refine CallN.pre ?_; first | refine CallN.dect (near_f _ 1000 (by omega)) rfl (by omega) ?_)))); (try (conv => whnf)))



      refine LoopN.weak ?sw0 (ih (k + 1) ⟨by omega, fun i hi => ?_⟩ (by omega))
      case sw0 => exact SW.mk id rfl rfl rfl ⟨.refl _, .refl _, .refl _, .refl _, .refl _, .refl _, .refl _, trivial⟩ (haveV.one rfl trivial)
      by_cases hi2 : i < k
      · exact hok i hi2
      · obtain rfl : i = k := by omega
        exact hE
    · have e3 : mv gs cs = ((0, 0), 3) := mv_bad h h2 fun hh => hE (hh k hlt)
      rw [e3]
      replace hE : ¬ okE (gs.getD k 0) (cs.getD k 0) := hE
      clear ih
      repeat' ((conv => whnf); (first | (refine LetN.pre ?_; first | ((conv => arg 1; whnf); refine LetN.mk ?_)) | (refine As.pre ?_; first | refine As.mk rfl ?_ | (refine As.mk ?_ ?_; · ((repeat' (refine andT ?_ ?_)) <;> (first | rfl | assumption | exact decide_eq_true (by omega) | exact decide_eq_true (by dsimp only; omega) | exact decide_eq_true (by simp; omega) | (simp; done))))) | (refine LetV.pre ?_; first | refine LetV.mk (t := 22) _ (mapD (f := int) (l := gs) (i := k) 0 hlt) ?_ | refine LetV.mk (t := 22) _ (mapD (f := int) (l := cs) (i := k) 0 hlt2) ?_ | refine LetV.mk (.sc (.int _ _)) rfl ?_) | (refine LetI.pre ?_; first | refine LetI.mk _ rfl ?_) | (refine LetB.pre ?_; first | refine LetB.dect (by omega) ?_ | (refine LetB.dec (fun _ => ?_) (fun _ => ?_))) | (refine Gd.pre ?_; first | refine Gd.run rfl ?_ | refine Gd.pass rfl ?_) | (refine Br.pre ?_; first | refine Br.tt rfl ?_) | (refine Ck.pre ?_; first | refine Ck.mk rfl ?_) | (refine LetL.pre ?_; first | refine LetL.mk [_] rfl ?_) | (refine CallN.pre ?_; first | refine CallN.dec (near_f _ 1000 (by omega)) rfl (fun _ => ?_) (fun _ => ?_))))



      all_goals first
        | exact ⟨.inl rfl, ⟨_, rfl, rfl⟩, trivial⟩
        | (exfalso; omega)
  · obtain rfl : k = gs.length := by omega
    rw [mv_ok h h2 hok]
    clear ih
    ((repeat ((conv => whnf); (first | (refine LetN.pre ?_; first | ((conv => arg 1; whnf); refine LetN.mk ?_)) | (refine As.pre ?_; first | refine As.mk rfl ?_) | (refine LetI.pre ?_; first | refine LetI.mk _ rfl ?_) | (refine LetB.pre ?_; first | refine LetB.decf (by omega) ?_) | (refine Br.pre ?_; first | refine Br.ff rfl ?_) | (refine Ck.pre ?_; first | refine Ck.mk rfl ?_) | (refine LetL.pre ?_; first | refine LetL.mk [_] rfl ?_) | (refine CallN.pre ?_; first | refine CallN.pure (refrat_f (sN gs cs gs.length) (sD cs gs.length) (by omega) (by omega)) rfl rfl ?_)))); (try (conv => whnf)))

    exact ⟨.inl rfl, ⟨_, rfl, rfl⟩, trivial⟩
end Sc
end Go.Proofs.Ytiefcppgbnfbfaa
namespace Go.Proofs.Ytiefcppgbnfbfaa
open Go.Proofs.Ytiefcppgbnfbfaa.Am
set_option maxRecDepth 100000
namespace En
/-! ### Lists of achievements: SameAll, Credits, Mean -/
theorem sameR_self (a : Ac) : sameR a a = true := by unfold sameR; simp
abbrev saS (A : List Ac) (b : Bool) (j : Nat) : AS := ⟨[(0, .ro {} 8 (A.map acA)), (1, .ro {} 8 (A.map acA)), (5, int (j : Nat))], [], 0⟩
set_option maxRecDepth 100000 in
theorem SameAll_f (A : List Ac) (hA : ∀ a ∈ A, okA a) (hl : A.length ≤ 1000) : AFun Try.prog 16 0 [.ro {} 8 (A.map acA), .ro {} 8 (A.map acA)] [] (bool true) [] := by
  refine AFun.of_W T_ok mixed Try.func16 rfl (Nat.le_of_ble_eq_true rfl) rfl ?_
  have hml : (A.map acA).length = A.length := List.length_map _
  ((repeat ((conv => whnf); (first | (refine As.pre ?_; first | refine As.mk rfl ?_) | (refine LetI.pre ?_; first | refine LetI.mk _ rfl ?_) | (refine LetB.pre ?_; first | refine LetB.bnef (by omega) ?_) | (refine Br.pre ?_; first | refine Br.ff rfl ?_) | (refine Ck.pre ?_; first | refine Ck.mk rfl ?_)))); (try (conv => whnf)))
  refine LoopN.weak (s1 := saS A true 0) ?sw0 ?_
  case sw0 => exact SW.fr0 (Nat.le_refl _) rfl ⟨.refl _, .refl _, .refl _, trivial⟩
  refine LoopN.ind T_ok mixed (S := saS A true) (fun j => A.length - j) (fun j => j ≤ A.length) (fun _ => rfl) (fun j hj ih => ?_) 0 (Nat.zero_le _)
  by_cases hlt : j < A.length
  case neg =>
    clear ih
    ((repeat ((conv => whnf); (first | (refine As.pre ?_; first | refine As.mk rfl ?_) | (refine LetI.pre ?_; first | refine LetI.mk _ rfl ?_) | (refine LetB.pre ?_; first | refine LetB.decf (by omega) ?_) | (refine Br.pre ?_; first | refine Br.ff rfl ?_) | (refine Ck.pre ?_; first | refine Ck.mk rfl ?_)))); (try (conv => whnf)))
    exact ⟨.inl rfl, ⟨_, rfl, rfl⟩, trivial⟩
  have hld := getD_ac hlt
  have ho := hA _ (getD_mem hlt)
  generalize A.getD j ac0 = x at hld ho
  have hS := refSameA_f x x ho ho
  rw [sameR_self] at hS
  have hnx := ih (j + 1) hlt (by omega)
  clear ih
  ((repeat ((conv => whnf); (first | (refine As.pre ?_; first | refine As.mk rfl ?_ | (refine As.mk ?_ ?_; · ((repeat' (refine andT ?_ ?_)) <;> (first | rfl | assumption | exact decide_eq_true (by omega) | exact decide_eq_true (by dsimp only; omega) | exact decide_eq_true (by simp; omega) | (simp; done))))) | (refine LetV.pre ?_; first | refine LetV.mk (t := 41) _ hld ?_ | refine LetV.mk (.agg _) rfl ?_) | (refine LetI.pre ?_; first | refine LetI.wrap (by omega) (by omega) ?_ | refine LetI.mk _ rfl ?_) | (refine LetB.pre ?_; first | refine LetB.dect (by omega) ?_) | (refine Br.pre ?_; first | refine Br.tt rfl ?_ | refine Br.ff rfl ?_) | (refine Ck.pre ?_; first | refine Ck.drawn (by kernel_rfl) ?_ | refine Ck.mk rfl ?_) | (refine CallN.pre ?_; first | refine CallN.pure hS rfl rfl ?_)))); (try (conv => whnf)))


  refine LoopN.weak ?sw1 hnx
  case sw1 => exact SW.fr0 (Nat.le_refl _) rfl ⟨.refl _, .refl _, VLe2.int (by omega), trivial⟩
def stpC (n : Int) (a : Ac) : Int := IntKind.i64.wrap (n + a.credits)
def sumC (A : List Ac) : Int := A.foldl stpC 0
abbrev crS (A : List Ac) (i : Nat × Int) : AS := ⟨[(3, int i.2), (6, .ro {} 8 (A.map acA)), (7, int A.length), (8, int i.1)], [], 0⟩
set_option maxRecDepth 100000 in
theorem CreditsA_f (A : List Ac) (hl : A.length ≤ 1000) : AFun Try.prog 17 0 [.ro {} 8 (A.map acA)] [] (int (sumC A)) [] := by
  refine AFun.of_W T_ok mixed Try.func17 rfl (Nat.le_of_ble_eq_true rfl) rfl ?_
  have hml : (A.map acA).length = A.length := List.length_map _
  unfold sumC
  generalize hR : A.foldl stpC 0 = R
  ((repeat ((conv => whnf); (first | (refine As.pre ?_; first | refine As.mk rfl ?_) | (refine LetI.pre ?_; first | refine LetI.mk _ rfl ?_) | (refine Ck.pre ?_; first | refine Ck.mk rfl ?_)))); (try (conv => whnf)))
  refine LoopN.weak (s1 := crS A (0, 0)) ?sw0 ?_
  case sw0 => exact SW.fr0 (Nat.le_refl _) rfl ⟨.refl _, .refl _, VLe2.int (by rw [hml]), .refl _, trivial⟩
  refine LoopN.ind T_ok mixed (S := crS A) (fun i => A.length - i.1) (fun i => i.1 ≤ A.length ∧ (A.drop i.1).foldl stpC i.2 = R) (fun _ => rfl) (fun i hi ih => ?_) (0, 0) ⟨Nat.zero_le _, hR⟩
  obtain ⟨j, n⟩ := i
  obtain ⟨h1, h2⟩ := hi
  dsimp only at h1 h2
  by_cases hlt : j < A.length
  case neg =>
    clear ih
    rw [List.drop_eq_nil_of_le (by omega)] at h2
    subst h2
    ((repeat ((conv => whnf); (first | (refine As.pre ?_; first | refine As.mk rfl ?_) | (refine LetB.pre ?_; first | refine LetB.decf (by omega) ?_) | (refine Br.pre ?_; first | refine Br.ff rfl ?_) | (refine Ck.pre ?_; first | refine Ck.mk rfl ?_)))); (try (conv => whnf)))
    exact ⟨.inl rfl, ⟨_, rfl, rfl⟩, trivial⟩
  have hld := getD_ac hlt
  rw [foldl_drop stpC hlt ac0] at h2
  generalize A.getD j ac0 = x at hld h2
  have hnx := ih (j + 1, stpC n x) ⟨hlt, h2⟩ (by show A.length - (j + 1) < A.length - j; omega)
  clear ih
  have hw : stpC n x = IntKind.i64.wrap (n + x.credits) := rfl
  generalize stpC n x = u at hnx hw
  ((repeat ((conv => whnf); (first | (refine LetN.pre ?_; first | ((conv => arg 1; whnf); refine LetN.mk ?_)) | (refine As.pre ?_; first | refine As.mk rfl ?_ | (refine As.mk ?_ ?_; · ((repeat' (refine andT ?_ ?_)) <;> (first | rfl | assumption | exact decide_eq_true (by omega) | exact decide_eq_true (by dsimp only; omega) | exact decide_eq_true (by simp; omega) | (simp; done))))) | (refine LetV.pre ?_; first | refine LetV.mk (t := 41) _ hld ?_ | refine LetV.mk (.sc (.int _ _)) rfl ?_ | refine LetV.mk (.agg _) rfl ?_) | (refine LetI.pre ?_; first | refine LetI.mk (o := some .add) u hw ?_ | refine LetI.wrap (by omega) (by omega) ?_) | (refine LetB.pre ?_; first | refine LetB.dect (by omega) ?_) | (refine Br.pre ?_; first | refine Br.tt rfl ?_) | (refine Ck.pre ?_; first | refine Ck.mk rfl ?_) | (refine LetL.pre ?_; first | refine LetL.mk [_] rfl ?_)))); (try (conv => whnf)))


  refine LoopN.weak ?sw1 hnx
  case sw1 => exact SW.fr0 (Nat.zero_le _) rfl ⟨.refl _, .refl _, .refl _, VLe2.int (by omega), trivial⟩
abbrev crT (A : List Ac) (i : Nat × Int) : AS := ⟨[(0, .ro {} 8 (A.map acA)), (3, int i.2), (4, int i.1)], [], 0⟩
set_option maxRecDepth 100000 in
theorem refCreditsA_f (A : List Ac) (hl : A.length ≤ 1000) : AFun Try.prog 18 0 [.ro {} 8 (A.map acA)] [] (int (sumC A)) [] := by
  refine AFun.of_W T_ok mixed Try.func18 rfl (Nat.le_of_ble_eq_true rfl) rfl ?_
  have hml : (A.map acA).length = A.length := List.length_map _
  unfold sumC
  generalize hR : A.foldl stpC 0 = R
  ((repeat ((conv => whnf); (first | (refine As.pre ?_; first | refine As.mk rfl ?_) | (refine Ck.pre ?_; first | refine Ck.mk rfl ?_)))); (try (conv => whnf)))
  refine LoopN.weak (s1 := crT A (0, 0)) ?sw0 ?_
  case sw0 => exact SW.fr0 (Nat.le_refl _) rfl ⟨.refl _, .refl _, .refl _, trivial⟩
  refine LoopN.ind T_ok mixed (S := crT A) (fun i => A.length - i.1) (fun i => i.1 ≤ A.length ∧ (A.drop i.1).foldl stpC i.2 = R) (fun _ => rfl) (fun i hi ih => ?_) (0, 0) ⟨Nat.zero_le _, hR⟩
  obtain ⟨j, n⟩ := i
  obtain ⟨h1, h2⟩ := hi
  dsimp only at h1 h2
  by_cases hlt : j < A.length
  case neg =>
    clear ih
    rw [List.drop_eq_nil_of_le (by omega)] at h2
    subst h2
    ((repeat ((conv => whnf); (first | (refine As.pre ?_; first | refine As.mk rfl ?_) | (refine LetI.pre ?_; first | refine LetI.mk _ rfl ?_) | (refine LetB.pre ?_; first | refine LetB.decf (by omega) ?_) | (refine Br.pre ?_; first | refine Br.ff rfl ?_) | (refine Ck.pre ?_; first | refine Ck.mk rfl ?_)))); (try (conv => whnf)))
    exact ⟨.inl rfl, ⟨_, rfl, rfl⟩, trivial⟩
  have hld := getD_ac hlt
  rw [foldl_drop stpC hlt ac0] at h2
  generalize A.getD j ac0 = x at hld h2
  have hnx := ih (j + 1, stpC n x) ⟨hlt, h2⟩ (by show A.length - (j + 1) < A.length - j; omega)
  clear ih
  have hw : stpC n x = IntKind.i64.wrap (n + x.credits) := rfl
  have hj : ((j + 1 : Nat) : Int) = IntKind.i64.wrap ((j : Int) + 1) := by rw [wrap_id (by omega) (by omega)]; omega
  generalize stpC n x = u at hnx hw
  ((repeat ((conv => whnf); (first | (refine As.pre ?_; first | refine As.mk rfl ?_ | (refine As.mk ?_ ?_; · ((repeat' (refine andT ?_ ?_)) <;> (first | rfl | assumption | exact decide_eq_true (by omega) | exact decide_eq_true (by dsimp only; omega) | exact decide_eq_true (by simp; omega) | (simp; done))))) | (refine LetV.pre ?_; first | refine LetV.mk (t := 41) _ hld ?_ | refine LetV.mk (.sc (.int _ _)) rfl ?_) | (refine LetI.pre ?_; first | refine LetI.mk (o := some .add) u hw ?_ | refine LetI.mk (o := some .add) ((j + 1 : Nat) : Int) hj ?_ | refine LetI.mk _ rfl ?_) | (refine LetB.pre ?_; first | refine LetB.dect (by omega) ?_) | (refine Br.pre ?_; first | refine Br.tt rfl ?_) | (refine Ck.pre ?_; first | refine Ck.mk rfl ?_)))); (try (conv => whnf)))



  refine LoopN.weak ?sw1 hnx
  case sw1 => exact SW.fr0 (Nat.zero_le _) rfl ⟨.refl _, .refl _, .refl _, trivial⟩
abbrev raty : TypeId := 44
def meanA (A : List Ac) : (Int × Int) × Bool := if (Sc.mv (A.map (·.grade)) (A.map (·.credits))).2 = 0 then ((Sc.mv (A.map (·.grade)) (A.map (·.credits))).1, true) else ((0, 0), false)
abbrev mnV (r : (Int × Int) × Bool) : AV := .tup [.agg [int r.1.1, int r.1.2], bool r.2]
abbrev mnS (A : List Ac) : Nat × List Int × List Int → AS
  | (j, gs, cs) => ⟨[(2, .ptr 0 2 0 0), (3, bool false), (4, .slm {} 1 1 0 gs.length), (5, .slm {} 2 1 0 cs.length), (10, .ro {} 8 (A.map acA)), (11, int A.length), (12, int (j : Nat))], [(0, .row 2 raty [.agg [int 0, int 0]]), (1, .row 1 3 (gs.map int)), (2, .row 1 3 (cs.map int))], 3⟩
theorem mnN (gs cs : List Int) (ok : Nat → Bool) : namesAll ok [(0, .row 2 raty [.agg [int 0, int 0]]), (1, .row 1 3 (gs.map int)), (2, .row 1 3 (cs.map int))] = true := namesAll.row rfl (namesAll.row (pure_int _) (namesAll.row (pure_int _) rfl))
set_option maxHeartbeats 800000 in
set_option maxRecDepth 100000 in
theorem MeanA_f (A : List Ac) (hl : A.length ≤ 1000) : AFun Try.prog 14 0 [.ro {} 8 (A.map acA)] [] (mnV (meanA A)) [] := by
  refine AFun.of_W T_ok mixed Try.func14 rfl (Nat.le_of_ble_eq_true rfl) rfl ?_
  have hml : (A.map acA).length = A.length := List.length_map _
  have hM := fun f1 f2 => Sc.Mean_f (A.map (·.grade)) (A.map (·.credits)) f1 f2 (by simp; omega) (by simp; omega)
  unfold meanA
  ((repeat ((conv => whnf); (first | (refine LetN.pre ?_; first | ((conv => arg 1; whnf); refine LetN.mk ?_)) | (refine As.pre ?_; first | refine As.mk rfl ?_) | (refine LetI.pre ?_; first | refine LetI.mk _ rfl ?_) | (refine Ck.pre ?_; first | refine Ck.mk rfl ?_)))); (try (conv => whnf)))
  refine LoopN.weak (s1 := mnS A (0, [], [])) ?sw0 ?_
  case sw0 => exact SW.mk id rfl rfl rfl ⟨.refl _, .refl _, VLe2.nilslm, VLe2.nilslm, .refl _, VLe2.int (by rw [hml]), .refl _, trivial⟩ (haveV.row rfl rfl (haveV.nil (Nat.le_of_ble_eq_true rfl) (haveV.nil (Nat.le_of_ble_eq_true rfl) trivial)))
  refine LoopN.ind T_ok mixed (S := mnS A) (fun i => A.length - i.1) (fun i => i.1 ≤ A.length ∧ i.2.1 = (A.take i.1).map (·.grade) ∧ i.2.2 = (A.take i.1).map (·.credits)) (fun _ => rfl) (fun i hi ih => ?_) (0, [], []) ⟨Nat.zero_le _, rfl, rfl⟩
  obtain ⟨j, gs, cs⟩ := i
  obtain ⟨h1, h2, h3⟩ := hi
  dsimp only at h1 h2 h3
  have n1 := pure_int gs
  have n2 := pure_int cs
  have m1 : gs.length = (gs.map int).length := (List.length_map _).symm
  have m2 : cs.length = (cs.map int).length := (List.length_map _).symm
  by_cases hlt : j < A.length
  case neg =>
    clear ih
    rw [List.take_of_length_le (by omega)] at h2 h3
    rw [← h2, ← h3] at hM ⊢
    have hMf := hM {} {}
    generalize Sc.mv gs cs = M at hMf ⊢
    obtain ⟨⟨n, d⟩, e⟩ := M
    dsimp only
    by_cases h0 : e = 0
    · subst h0
      rw [if_pos rfl]
      ((repeat ((conv => whnf); (first | (refine LetN.pre ?_; first | ((conv => arg 1; whnf); refine LetN.mk ?_)) | (refine As.pre ?_; first | refine As.mk rfl ?_) | (refine LetV.pre ?_; first | refine LetV.mk (.agg _) rfl ?_) | (refine LetB.pre ?_; first | refine LetB.ff rfl ?_ | refine LetB.decf (by omega) ?_) | (refine Br.pre ?_; first | refine Br.ff rfl ?_) | (refine Ck.pre ?_; first | refine Ck.mk rfl ?_) | (refine LetL.pre ?_; first | refine LetL.mk [_] rfl ?_) | (refine CallN.pre ?_; first | refine CallN.lend hMf rfl (.full rfl n1 m1 (.full rfl n2 m2 .nil)) ?_)))); (try (conv => whnf)))

      exact ⟨.inl rfl, ⟨_, rfl, rfl⟩, trivial⟩
    · rw [if_neg h0]
      ((repeat ((conv => whnf); (first | (refine LetN.pre ?_; first | ((conv => arg 1; whnf); refine LetN.mk ?_)) | (refine As.pre ?_; first | refine As.mk rfl ?_) | (refine LetB.pre ?_; first | refine LetB.decf (by omega) ?_ | refine LetB.bnet (by omega) ?_) | (refine Br.pre ?_; first | refine Br.tt rfl ?_ | refine Br.ff rfl ?_) | (refine Ck.pre ?_; first | refine Ck.mk rfl ?_) | (refine LetL.pre ?_; first | refine LetL.mk [_] rfl ?_) | (refine CallN.pre ?_; first | refine CallN.lend hMf rfl (.full rfl n1 m1 (.full rfl n2 m2 .nil)) ?_)))); (try (conv => whnf)))

      exact ⟨.inl rfl, ⟨_, rfl, rfl⟩, trivial⟩
  have hld := getD_ac hlt
  have k1 : gs.length = j := by rw [h2, List.length_map, List.length_take]; omega
  have k2 : cs.length = j := by rw [h3, List.length_map, List.length_take]; omega
  have t1 := take_map_succ (fun x : Ac => x.grade) hlt ac0
  have t2 := take_map_succ (fun x : Ac => x.credits) hlt ac0
  rw [← h2] at t1
  rw [← h3] at t2
  generalize A.getD j ac0 = x at hld t1 t2
  have hnx := ih (j + 1, gs ++ [x.grade], cs ++ [x.credits]) ⟨hlt, t1.symm, t2.symm⟩ (by show A.length - (j + 1) < A.length - j; omega)
  clear ih hM t1 t2 h2 h3
  have r1 := room_int (n := gs.length + 1) (by omega)
  have r2 := room_int (n := cs.length + 1) (by omega)
  have a1 := app_intL gs x.grade gs.length rfl
  have a2 := app_intL cs x.credits cs.length rfl
  have l1 : (gs ++ [x.grade]).length = gs.length + 1 := by simp
  have l2 : (cs ++ [x.credits]).length = cs.length + 1 := by simp
  ((repeat ((conv => whnf); (first | (refine LetN.pre ?_; first | ((conv => arg 1; whnf); refine LetN.mk ?_)) | (refine As.pre ?_; first | refine As.mk rfl ?_ | (refine As.mk ?_ ?_; · ((repeat' (refine andT ?_ ?_)) <;> (first | rfl | assumption | exact decide_eq_true (by omega) | exact decide_eq_true (by dsimp only; omega) | exact decide_eq_true (by simp; omega) | (simp; done))))) | (refine LetV.pre ?_; first | refine LetV.mk (t := 41) _ hld ?_ | refine LetV.mk (.sc (.int _ _)) rfl ?_ | refine LetV.mk (.agg _) rfl ?_) | (refine LetI.pre ?_; first | refine LetI.wrap (by omega) (by omega) ?_) | (refine LetB.pre ?_; first | refine LetB.dect (by omega) ?_) | (refine Br.pre ?_; first | refine Br.tt rfl ?_) | (refine Ck.pre ?_; first | refine Ck.drawn (by kernel_rfl) ?_ | refine Ck.mk rfl ?_) | (refine LetL.pre ?_; first | refine LetL.mk (ty := 3) _ a1 ?_ | refine LetL.mk (ty := 3) _ a2 ?_ | refine LetL.mk [_] rfl ?_)))); (try (conv => whnf)))



  refine LoopN.weak ?sw1 hnx
  case sw1 => exact SW.mk (fun i => match i with | 0 => 0 | 1 => 4 | 2 => 5 | i => i + 9) rfl rfl (mnN ..) ⟨.refl _, .refl _, VLe2.slm_of l1, VLe2.slm_of l2, .refl _, .refl _, VLe2.int (by omega), trivial⟩ (haveV.row rfl rfl (haveV.row (pure_int _) rfl (haveV.row (pure_int _) rfl trivial)))
abbrev mnT (A : List Ac) : Nat × List Int × List Int → AS
  | (j, gs, cs) => ⟨[(0, .ro {} 8 (A.map acA)), (2, .ptr 0 2 0 0), (3, bool false), (4, .slm {} 1 1 0 gs.length), (5, .slm {} 2 1 0 cs.length), (6, int (j : Nat))], [(0, .row 2 raty [.agg [int 0, int 0]]), (1, .row 1 3 (gs.map int)), (2, .row 1 3 (cs.map int))], 3⟩
set_option maxHeartbeats 800000 in
set_option maxRecDepth 100000 in
theorem refMeanA_f (A : List Ac) (hl : A.length ≤ 1000) : AFun Try.prog 15 0 [.ro {} 8 (A.map acA)] [] (mnV (meanA A)) [] := by
  refine AFun.of_W T_ok mixed Try.func15 rfl (Nat.le_of_ble_eq_true rfl) rfl ?_
  have hml : (A.map acA).length = A.length := List.length_map _
  have hM := fun f1 f2 => Sc.refMean_f (A.map (·.grade)) (A.map (·.credits)) f1 f2 (by simp; omega) (by simp; omega)
  unfold meanA
  ((repeat ((conv => whnf); (first | (refine LetN.pre ?_; first | ((conv => arg 1; whnf); refine LetN.mk ?_)) | (refine As.pre ?_; first | refine As.mk rfl ?_) | (refine Ck.pre ?_; first | refine Ck.mk rfl ?_)))); (try (conv => whnf)))
  refine LoopN.weak (s1 := mnT A (0, [], [])) ?sw0 ?_
  case sw0 => exact SW.mk id rfl rfl rfl ⟨.refl _, .refl _, .refl _, VLe2.nilslm, VLe2.nilslm, .refl _, trivial⟩ (haveV.row rfl rfl (haveV.nil (Nat.le_of_ble_eq_true rfl) (haveV.nil (Nat.le_of_ble_eq_true rfl) trivial)))
  refine LoopN.ind T_ok mixed (S := mnT A) (fun i => A.length - i.1) (fun i => i.1 ≤ A.length ∧ i.2.1 = (A.take i.1).map (·.grade) ∧ i.2.2 = (A.take i.1).map (·.credits)) (fun _ => rfl) (fun i hi ih => ?_) (0, [], []) ⟨Nat.zero_le _, rfl, rfl⟩
  obtain ⟨j, gs, cs⟩ := i
  obtain ⟨h1, h2, h3⟩ := hi
  dsimp only at h1 h2 h3
  have n1 := pure_int gs
  have n2 := pure_int cs
  have m1 : gs.length = (gs.map int).length := (List.length_map _).symm
  have m2 : cs.length = (cs.map int).length := (List.length_map _).symm
  by_cases hlt : j < A.length
  case neg =>
    clear ih
    rw [List.take_of_length_le (by omega)] at h2 h3
    rw [← h2, ← h3] at hM ⊢
    have hMf := hM {} {}
    generalize Sc.mv gs cs = M at hMf ⊢
    obtain ⟨⟨n, d⟩, e⟩ := M
    dsimp only
    by_cases h0 : e = 0
    · subst h0
      rw [if_pos rfl]
      ((repeat ((conv => whnf); (first | (refine LetN.pre ?_; first | ((conv => arg 1; whnf); refine LetN.mk ?_)) | (refine As.pre ?_; first | refine As.mk rfl ?_) | (refine LetV.pre ?_; first | refine LetV.mk (.agg _) rfl ?_) | (refine LetI.pre ?_; first | refine LetI.mk _ rfl ?_) | (refine LetB.pre ?_; first | refine LetB.ff rfl ?_ | refine LetB.decf (by omega) ?_) | (refine Br.pre ?_; first | refine Br.ff rfl ?_) | (refine Ck.pre ?_; first | refine Ck.mk rfl ?_) | (refine LetL.pre ?_; first | refine LetL.mk [_] rfl ?_) | (refine CallN.pre ?_; first | refine CallN.lend hMf rfl (.full rfl n1 m1 (.full rfl n2 m2 .nil)) ?_)))); (try (conv => whnf)))

      exact ⟨.inl rfl, ⟨_, rfl, rfl⟩, trivial⟩
    · rw [if_neg h0]
      ((repeat ((conv => whnf); (first | (refine LetN.pre ?_; first | ((conv => arg 1; whnf); refine LetN.mk ?_)) | (refine As.pre ?_; first | refine As.mk rfl ?_) | (refine LetI.pre ?_; first | refine LetI.mk _ rfl ?_) | (refine LetB.pre ?_; first | refine LetB.decf (by omega) ?_ | refine LetB.bnet (by omega) ?_) | (refine Br.pre ?_; first | refine Br.tt rfl ?_ | refine Br.ff rfl ?_) | (refine Ck.pre ?_; first | refine Ck.mk rfl ?_) | (refine LetL.pre ?_; first | refine LetL.mk [_] rfl ?_) | (refine CallN.pre ?_; first | refine CallN.lend hMf rfl (.full rfl n1 m1 (.full rfl n2 m2 .nil)) ?_)))); (try (conv => whnf)))

      exact ⟨.inl rfl, ⟨_, rfl, rfl⟩, trivial⟩
  have hld := getD_ac hlt
  have k1 : gs.length = j := by rw [h2, List.length_map, List.length_take]; omega
  have k2 : cs.length = j := by rw [h3, List.length_map, List.length_take]; omega
  have t1 := take_map_succ (fun x : Ac => x.grade) hlt ac0
  have t2 := take_map_succ (fun x : Ac => x.credits) hlt ac0
  rw [← h2] at t1
  rw [← h3] at t2
  generalize A.getD j ac0 = x at hld t1 t2
  have hnx := ih (j + 1, gs ++ [x.grade], cs ++ [x.credits]) ⟨hlt, t1.symm, t2.symm⟩ (by show A.length - (j + 1) < A.length - j; omega)
  clear ih hM t1 t2 h2 h3
  have r1 := room_int (n := gs.length + 1) (by omega)
  have r2 := room_int (n := cs.length + 1) (by omega)
  have a1 := app_intL gs x.grade gs.length rfl
  have a2 := app_intL cs x.credits cs.length rfl
  have l1 : (gs ++ [x.grade]).length = gs.length + 1 := by simp
  have l2 : (cs ++ [x.credits]).length = cs.length + 1 := by simp
  ((repeat ((conv => whnf); (first | (refine LetN.pre ?_; first | ((conv => arg 1; whnf); refine LetN.mk ?_)) | (refine As.pre ?_; first | refine As.mk rfl ?_ | (refine As.mk ?_ ?_; · ((repeat' (refine andT ?_ ?_)) <;> (first | rfl | assumption | exact decide_eq_true (by omega) | exact decide_eq_true (by dsimp only; omega) | exact decide_eq_true (by simp; omega) | (simp; done))))) | (refine LetV.pre ?_; first | refine LetV.mk (t := 41) _ hld ?_ | refine LetV.mk (.sc (.int _ _)) rfl ?_) | (refine LetI.pre ?_; first | refine LetI.wrap (by omega) (by omega) ?_ | refine LetI.mk _ rfl ?_) | (refine LetB.pre ?_; first | refine LetB.dect (by omega) ?_) | (refine Br.pre ?_; first | refine Br.tt rfl ?_) | (refine Ck.pre ?_; first | refine Ck.mk rfl ?_) | (refine LetL.pre ?_; first | refine LetL.mk (ty := 3) _ a1 ?_ | refine LetL.mk (ty := 3) _ a2 ?_)))); (try (conv => whnf)))



  refine LoopN.weak ?sw1 hnx
  case sw1 => exact SW.mk (fun i => match i with | 0 => 0 | 1 => 3 | 2 => 4 | i => i + 9) rfl rfl (mnN ..) ⟨.refl _, .refl _, .refl _, VLe2.slm_of l1, VLe2.slm_of l2, VLe2.int (by omega), trivial⟩ (haveV.row rfl rfl (haveV.row (pure_int _) rfl (haveV.row (pure_int _) rfl trivial)))
end En
end Go.Proofs.Ytiefcppgbnfbfaa
