/- earn: parts of the proof, DearnHQ DearnHR DearnHS. -/
import Derived.Test.YtiefcppgbnfbfaaL40
set_option linter.all false
namespace Go.Proofs.Ytiefcppgbnfbfaa.Am
open Go
/-- An owned row, told with less. -/
theorem AFun.rowle {P : Program} {f : FuncId} {p : Nat} {vs : List AV} {H : AH} {v : AV} {id E : Nat} {ty : TypeId} {es es' : List AV} (h : AFun P f p vs H v [(id, .row E ty es)]) (hl : es.length = es'.length) (hc : ∀ (i : Nat) (e' : AV), es'[i]? = some e' → ∃ e, es[i]? = some e ∧ VLe2L e.cells e'.cells) : AFun P f p vs H v [(id, .row E ty es')] := fun w g xs hn hx hH hN =>
  (h w g xs hn hx hH hN).mono fun e w' ⟨x, g', he, hA, hcv, hH'⟩ => by
    have g1 : ∀ {es : List AV} {j : Nat} {B : Blk}, AH.get [(id, Blk.row E ty es)] j = some B → j = id ∧ B = .row E ty es := fun {es j B} hg => by
      simp only [AH.get] at hg
      split at hg
      · rename_i e; injection hg with hg; exact ⟨e, hg.symm⟩
      · cases hg
    have g0 : ∀ {es : List AV}, AH.get [(id, Blk.row E ty es)] id = some (.row E ty es) := by simp [AH.get]
    refine ⟨x, g', he, ⟨hA.φ, hA.I, hA.sz, hA.ext, fun j B b F hi hb hlt => ?_, hA.imm⟩, hcv, ⟨fun j B hi => ?_, fun i j b F F' A B hi hj h1 h2 => ?_, fun j b F B hi h1 => ?_, hH'.lt⟩⟩
    · obtain ⟨rfl, rfl⟩ := g1 hi
      exact hA.own _ _ b F g0 hb hlt
    · obtain ⟨rfl, rfl⟩ := g1 hi
      obtain ⟨h0, hr⟩ := hH'.rel _ _ g0
      refine ⟨fun e he => ?_, ?_⟩
      · obtain ⟨i, hi⟩ := List.getElem?_of_mem he
        obtain ⟨d, hd, hle⟩ := hc i e hi
        rw [← hle.get.1]; exact h0 d (List.mem_of_getElem? hd)
      · rcases hr with ⟨h1, h2⟩ | ⟨b, cs, h1, h2, h3, h4⟩
        · exact .inl ⟨h1, List.eq_nil_of_length_eq_zero (by rw [← hl, h2]; rfl)⟩
        · refine .inr ⟨b, cs, h1, h2, by rw [← hl]; exact h3, fun i k e c hi hk => ?_⟩
          obtain ⟨d, hd, hle⟩ := hc i e hi
          obtain ⟨a, ha, hcl⟩ := hle.get.2 k c hk
          obtain ⟨y, hy, hcy⟩ := h4 i k d a hd ha
          exact ⟨y, hy, hcl _ _ _ hcy⟩
    · obtain ⟨rfl, rfl⟩ := g1 hi
      obtain ⟨rfl, rfl⟩ := g1 hj
      rfl
    · obtain ⟨rfl, rfl⟩ := g1 hi
      exact hH'.imm _ _ _ _ g0 h1
end Go.Proofs.Ytiefcppgbnfbfaa.Am
namespace Go.Proofs.Ytiefcppgbnfbfaa
open Go.Proofs.Ytiefcppgbnfbfaa.Am
set_option maxRecDepth 100000
namespace En
/-- What is known of a made achievement. -/
def okC (a : Ac) : Prop := (a.bundle = 0 ∧ a.path = [] ∨ (1 ≤ a.bundle ∧ a.bundle ≤ 3) ∧ a.path = [a.bundle]) ∧ a.src.length ≤ 2
theorem Made_c (L : List (Fl × List Int)) (fl : Fl) (hL : L.length ≤ 9223372036854775807) (hxs : ∀ x ∈ L, x.2.length ≤ 9223372036854775807) : ∃ l : List Ac, (l.length ≤ 8 ∧ ∀ a ∈ l, okC a) ∧ AFun Try.prog 19 0 [.ro fl 1 (L.map iA)] [] (.slm {} 0 8 0 l.length) [(0, .row 8 aty (l.map acA))] := by
  obtain ⟨l, h, hM⟩ := Made_f L fl hL hxs
  refine ⟨l.map Ach.ac, ⟨by rw [List.length_map]; exact h.len, fun a ha => ?_⟩, ?_⟩
  · obtain ⟨x, hx, rfl⟩ := List.mem_map.1 ha
    exact h.ok x hx
  · rw [List.length_map]
    refine hM.rowle (by simp) fun i e he => ?_
    rw [List.getElem?_map, List.getElem?_map] at he
    cases hx : l[i]? with
    | none => rw [hx] at he; cases he
    | some x =>
      rw [hx] at he
      injection he with he
      subst he
      exact ⟨achA x, by rw [List.getElem?_map, hx]; rfl, ac_le x⟩
abbrev ity : TypeId := 3
abbrev cpA (a : Ac) (es ps : List AV) : AV := .agg [int a.school, str a.code, int a.credits, int a.grade, int a.day, .slm ⟨false, true⟩ 3 1 0 (0 + es.length), int a.bundle, .slm ⟨false, true⟩ 5 1 0 (0 + ps.length)]
theorem room_int {n : Nat} (h : n ≤ 1000000) : room n 8 = true := by
  simp only [room, Bool.and_eq_true, decide_eq_true_eq]
  exact ⟨by omega, rfl⟩
theorem stor_int (l : List Int) : storables (l.map int) = true := by
  refine List.all_eq_true.2 fun e he => ?_
  obtain ⟨x, _, rfl⟩ := List.mem_map.1 he
  rfl
set_option maxRecDepth 100000 in
theorem Copy_s (a : Ac) (es ps : List AV) (he : es.length ≤ 1000) (hp : ps.length ≤ 1000) (hse : storables es = true) (hsp : storables ps = true) : AFun Try.prog 53 0 [.agg [int a.school, str a.code, int a.credits, int a.grade, int a.day, .ro {} 1 es, int a.bundle, .ro {} 1 ps]] [] (cpA a es ps) [(3, .row 1 ity es), (5, .row 1 ity ps)] := by
  refine AFun.of_W T_ok mixed Try.func53 rfl (Nat.le_of_ble_eq_true rfl) rfl ?_
  have hr1 := room_int (n := 0 + es.length) (by omega)
  have hr2 := room_int (n := 0 + ps.length) (by omega)
  ((repeat ((conv => whnf); (first | (refine LetN.pre ?_; first | ((conv => arg 1; whnf); refine LetN.mk ?_)) | (refine As.pre ?_; first | refine As.mk rfl ?_ | (refine As.mk ?_ ?_; · ((repeat' (refine andT ?_ ?_)) <;> (first | rfl | assumption | exact decide_eq_true (by omega) | exact decide_eq_true (by dsimp only; omega) | exact decide_eq_true (by simp; omega) | (simp; done))))) | (refine LetV.pre ?_; first | refine LetV.mk (.agg _) rfl ?_ | refine LetV.mk (.ro _ _ _) rfl ?_) | (refine Ck.pre ?_; first | refine Ck.mk rfl ?_) | (refine LetL.pre ?_; first | refine LetL.mk (ty := aty) [.agg [_, _, _, _, _, _, _, _]] rfl ?_ | refine LetL.mk _ rfl ?_)))); (try (conv => whnf)))


  exact ⟨.inl rfl, ⟨_, rfl, rfl⟩, rfl, rfl, trivial⟩
/-- What Odd gives: one number more at the most. -/
def okO (a o : Ac) : Prop := o.src.length ≤ a.src.length + 1 ∧ o.path.length ≤ a.path.length + 1
theorem frzA {f : FuncId} {vs : List AV} {i j n m : Nat} {f1 f2 : Fl} (o : Ac) (h : AFun Try.prog f 0 vs [] (.agg [int o.school, str o.code, int o.credits, int o.grade, int o.day, .slm f1 i 1 0 n, int o.bundle, .slm f2 j 1 0 m]) [(i, .row 1 ity (o.src.map int)), (j, .row 1 ity (o.path.map int))]) (hij : i ≠ j) (hn : n = o.src.length) (hm : m = o.path.length) : AFun Try.prog f 0 vs [] (acA o) [] := by
  subst hn hm
  have h1 : AH.get [(i, Blk.row 1 ity (o.src.map int)), (j, .row 1 ity (o.path.map int))] i = some (.row 1 ity (o.src.map int)) := by simp [AH.get]
  have h2 : AH.get [(i, Blk.row 1 ity (o.src.map int)), (j, .row 1 ity (o.path.map int))] j = some (.row 1 ity (o.path.map int)) := by simp [AH.get, Ne.symm hij]
  have hF := AFun.frz [i, j] h (by simp [rowsOk, h1, h2, pure_int]) (by simp [AH.frzOk]) (by simp [AV.frzOk, AV.frzOkL, h1, h2])
  refine (hF.cast (v' := .agg [int o.school, str o.code, int o.credits, int o.grade, int o.day, ro1 f1 o.src, int o.bundle, ro1 f2 o.path]) (H' := []) ?_ ?_).res (CLe.agg ⟨.refl _, .refl _, .refl _, .refl _, .refl _, VLe2.ro_of rfl, .refl _, VLe2.ro_of rfl, trivial⟩)
  · simp [AV.frz, AV.frzL, h1, h2, List.take_of_length_le]
  · simp [AH.frz]
theorem word4 (n : Int) (h : 0 ≤ n ∧ n < 4) : ∃ s : ByteArray, str s = ([str ⟨#[65, 49]⟩, str ⟨#[66, 49]⟩, str ⟨#[]⟩, str ⟨#[65]⟩] : List AV).getD n.toNat (.sc undef) := by
  obtain ⟨m, rfl⟩ : ∃ m : Nat, n = m := ⟨n.toNat, by omega⟩
  have : m = 0 ∨ m = 1 ∨ m = 2 ∨ m = 3 := by omega
  rcases this with rfl | rfl | rfl | rfl <;> exact ⟨_, rfl⟩
theorem app_int (l : List Int) (e : Int) (n : Nat) (h : n = 0 + l.length) : (l ++ [e]).map int = (l.map int).take n ++ [int e] := by rw [List.take_of_length_le (by simp [h]), List.map_append]; rfl
set_option maxHeartbeats 1600000 in
set_option maxRecDepth 100000 in
theorem Odd_0 (a : Ac) (n : Int) (o : Ac) (ho : o = { a with school := n.tmod 9 }) (q : Int × Int) (ha : a.src.length ≤ 900 ∧ a.path.length ≤ 900) (hn2 : 0 ≤ n ∧ n < 40) (hn : (q.2.tmod 40 + 40).tmod 40 = n) (hm : (q.1.tmod 8 + 8).tmod 8 = 0) : AFun Try.prog 26 0 [acA a, .agg [int q.1, int q.2]] [] (acA o) [] := by
  refine frzA (i := 3) (j := 5) (n := (0 + (a.src.map int).length)) (m := (0 + (a.path.map int).length)) (f1 := ⟨false, true⟩) (f2 := ⟨false, true⟩) o ?_ (by decide) (by subst ho; simp) (by subst ho; simp)
  subst ho
  refine AFun.of_W T_ok mixed Try.func26 rfl (Nat.le_of_ble_eq_true rfl) rfl ?_
  have hC := Copy_s a (a.src.map int) (a.path.map int) (by simp; omega) (by simp; omega) (stor_int _) (stor_int _)
  have hok : CallOk 0 (fun i => i) _ _ _ _ [(0, .row 8 aty [acA a]), (1, .row 2 28 [.agg [int q.1, int q.2]]), (2, .row 8 aty [.agg [int 0, str ⟨#[]⟩, int 0, int 0, int 0, .sc (.slice none 0 0), int 0, .sc (.slice none 0 0)]])] _ := CallOk.mk' (vs := [acA a]) (H := []) (v := cpA a (a.src.map int) (a.path.map int)) (H' := [(3, .row 1 ity (a.src.map int)), (5, .row 1 ity (a.path.map int))]) rfl rfl rfl rfl rfl (namesAll.row (pure_int _) (namesAll.row (pure_int _) rfl)) trivial
  have hM1 := Mod_f q.2 40 (by omega)
  have hM2 := Mod_f q.1 8 (by omega)
  rw [hn] at hM1
  rw [hm] at hM2
  have b9 := tmod_bound n (m := 9) (by omega)
  have b5 := tmod_bound n (m := 5) (by omega)
  have b4 := tmod_bound n (m := 4) (by omega)
  have b3 := tmod_bound n (m := 3) (by omega)
  have p4 := tmod_pos 4 hn2.1
  have hl1 : (a.src.map int).length = a.src.length := List.length_map _
  have hl2 : (a.path.map int).length = a.path.length := List.length_map _
  have hr1 := room_int (n := (0 + (a.src.map int).length) + 1) (by omega)
  have hr2 := room_int (n := (0 + (a.path.map int).length) + 1) (by omega)
  ((repeat ((conv => whnf); (first | (refine LetN.pre ?_; first | ((conv => arg 1; whnf); refine LetN.mk ?_)) | (refine As.pre ?_; first | refine As.mk rfl ?_) | (refine LetV.pre ?_; first | refine LetV.mk (.sc (.int _ _)) rfl ?_ | refine LetV.mk (.agg _) rfl ?_) | (refine LetI.pre ?_; first | refine LetI.mk _ rfl ?_) | (refine LetB.pre ?_; first | refine LetB.tt rfl ?_) | (refine Br.pre ?_; first | refine Br.tt rfl ?_) | (refine Ck.pre ?_; first | refine Ck.mk rfl ?_) | (refine LetL.pre ?_; first | refine LetL.mk (ty := aty) [.agg [_, _, _, _, _, _, _, _]] rfl ?_ | refine LetL.mk (ty := ity) _ (renL_none (pure_int _)).symm ?_) | (refine CallN.pre ?_; first | refine CallN.own (fun i => i) hC hok ?_ | refine CallN.pure hM1 rfl rfl ?_ | refine CallN.pure hM2 rfl rfl ?_)))); (try (conv => whnf)))





  exact ⟨.inl rfl, ⟨_, rfl, rfl⟩, rfl, rfl, trivial⟩
set_option maxHeartbeats 1600000 in
set_option maxRecDepth 100000 in
theorem Odd_1 (a : Ac) (n : Int) (s : ByteArray) (hs : str s = ([str ⟨#[65, 49]⟩, str ⟨#[66, 49]⟩, str ⟨#[]⟩, str ⟨#[65]⟩] : List AV).getD (n.tmod 4).toNat (.sc undef)) (o : Ac) (ho : o = { a with code := s }) (q : Int × Int) (ha : a.src.length ≤ 900 ∧ a.path.length ≤ 900) (hn2 : 0 ≤ n ∧ n < 40) (hn : (q.2.tmod 40 + 40).tmod 40 = n) (hm : (q.1.tmod 8 + 8).tmod 8 = 1) : AFun Try.prog 26 0 [acA a, .agg [int q.1, int q.2]] [] (acA o) [] := by
  refine frzA (i := 3) (j := 5) (n := (0 + (a.src.map int).length)) (m := (0 + (a.path.map int).length)) (f1 := ⟨false, true⟩) (f2 := ⟨false, true⟩) o ?_ (by decide) (by subst ho; simp) (by subst ho; simp)
  subst ho
  refine AFun.of_W T_ok mixed Try.func26 rfl (Nat.le_of_ble_eq_true rfl) rfl ?_
  have hC := Copy_s a (a.src.map int) (a.path.map int) (by simp; omega) (by simp; omega) (stor_int _) (stor_int _)
  have hok : CallOk 0 (fun i => i) _ _ _ _ [(0, .row 8 aty [acA a]), (1, .row 2 28 [.agg [int q.1, int q.2]]), (2, .row 8 aty [.agg [int 0, str ⟨#[]⟩, int 0, int 0, int 0, .sc (.slice none 0 0), int 0, .sc (.slice none 0 0)]])] _ := CallOk.mk' (vs := [acA a]) (H := []) (v := cpA a (a.src.map int) (a.path.map int)) (H' := [(3, .row 1 ity (a.src.map int)), (5, .row 1 ity (a.path.map int))]) rfl rfl rfl rfl rfl (namesAll.row (pure_int _) (namesAll.row (pure_int _) rfl)) trivial
  have hM1 := Mod_f q.2 40 (by omega)
  have hM2 := Mod_f q.1 8 (by omega)
  rw [hn] at hM1
  rw [hm] at hM2
  have b9 := tmod_bound n (m := 9) (by omega)
  have b5 := tmod_bound n (m := 5) (by omega)
  have b4 := tmod_bound n (m := 4) (by omega)
  have b3 := tmod_bound n (m := 3) (by omega)
  have p4 := tmod_pos 4 hn2.1
  have hl1 : (a.src.map int).length = a.src.length := List.length_map _
  have hl2 : (a.path.map int).length = a.path.length := List.length_map _
  have hr1 := room_int (n := (0 + (a.src.map int).length) + 1) (by omega)
  have hr2 := room_int (n := (0 + (a.path.map int).length) + 1) (by omega)
  ((repeat ((conv => whnf); (first | (refine LetN.pre ?_; first | ((conv => arg 1; whnf); refine LetN.mk ?_)) | (refine As.pre ?_; first | refine As.mk rfl ?_ | (refine As.mk ?_ ?_; · ((repeat' (refine andT ?_ ?_)) <;> (first | rfl | assumption | exact decide_eq_true (by omega) | exact decide_eq_true (by dsimp only; omega) | exact decide_eq_true (by simp; omega) | (simp; done))))) | (refine LetV.pre ?_; first | refine LetV.mk (t := 72) _ hs ?_ | refine LetV.mk (.sc (.int _ _)) rfl ?_ | refine LetV.mk (.sc _) rfl ?_ | refine LetV.mk (.agg _) rfl ?_) | (refine LetI.pre ?_; first | refine LetI.mk _ rfl ?_) | (refine LetB.pre ?_; first | refine LetB.tt rfl ?_ | refine LetB.ff rfl ?_) | (refine Br.pre ?_; first | refine Br.tt rfl ?_ | refine Br.ff rfl ?_) | (refine Ck.pre ?_; first | refine Ck.mk rfl ?_) | (refine LetL.pre ?_; first | refine LetL.mk (ty := aty) [.agg [_, _, _, _, _, _, _, _]] rfl ?_ | refine LetL.mk (ty := ity) _ (renL_none (pure_int _)).symm ?_) | (refine CallN.pre ?_; first | refine CallN.own (fun i => i) hC hok ?_ | refine CallN.pure hM1 rfl rfl ?_ | refine CallN.pure hM2 rfl rfl ?_)))); (try (conv => whnf)))






  exact ⟨.inl rfl, ⟨_, rfl, rfl⟩, rfl, rfl, trivial⟩
set_option maxHeartbeats 1600000 in
set_option maxRecDepth 100000 in
theorem Odd_2 (a : Ac) (n : Int) (o : Ac) (ho : o = { a with credits := n }) (q : Int × Int) (ha : a.src.length ≤ 900 ∧ a.path.length ≤ 900) (hn2 : 0 ≤ n ∧ n < 40) (hn : (q.2.tmod 40 + 40).tmod 40 = n) (hm : (q.1.tmod 8 + 8).tmod 8 = 2) : AFun Try.prog 26 0 [acA a, .agg [int q.1, int q.2]] [] (acA o) [] := by
  refine frzA (i := 3) (j := 5) (n := (0 + (a.src.map int).length)) (m := (0 + (a.path.map int).length)) (f1 := ⟨false, true⟩) (f2 := ⟨false, true⟩) o ?_ (by decide) (by subst ho; simp) (by subst ho; simp)
  subst ho
  refine AFun.of_W T_ok mixed Try.func26 rfl (Nat.le_of_ble_eq_true rfl) rfl ?_
  have hC := Copy_s a (a.src.map int) (a.path.map int) (by simp; omega) (by simp; omega) (stor_int _) (stor_int _)
  have hok : CallOk 0 (fun i => i) _ _ _ _ [(0, .row 8 aty [acA a]), (1, .row 2 28 [.agg [int q.1, int q.2]]), (2, .row 8 aty [.agg [int 0, str ⟨#[]⟩, int 0, int 0, int 0, .sc (.slice none 0 0), int 0, .sc (.slice none 0 0)]])] _ := CallOk.mk' (vs := [acA a]) (H := []) (v := cpA a (a.src.map int) (a.path.map int)) (H' := [(3, .row 1 ity (a.src.map int)), (5, .row 1 ity (a.path.map int))]) rfl rfl rfl rfl rfl (namesAll.row (pure_int _) (namesAll.row (pure_int _) rfl)) trivial
  have hM1 := Mod_f q.2 40 (by omega)
  have hM2 := Mod_f q.1 8 (by omega)
  rw [hn] at hM1
  rw [hm] at hM2
  have b9 := tmod_bound n (m := 9) (by omega)
  have b5 := tmod_bound n (m := 5) (by omega)
  have b4 := tmod_bound n (m := 4) (by omega)
  have b3 := tmod_bound n (m := 3) (by omega)
  have p4 := tmod_pos 4 hn2.1
  have hl1 : (a.src.map int).length = a.src.length := List.length_map _
  have hl2 : (a.path.map int).length = a.path.length := List.length_map _
  have hr1 := room_int (n := (0 + (a.src.map int).length) + 1) (by omega)
  have hr2 := room_int (n := (0 + (a.path.map int).length) + 1) (by omega)
  ((repeat ((conv => whnf); (first | (refine LetN.pre ?_; first | ((conv => arg 1; whnf); refine LetN.mk ?_)) | (refine As.pre ?_; first | refine As.mk rfl ?_) | (refine LetV.pre ?_; first | refine LetV.mk (.sc (.int _ _)) rfl ?_ | refine LetV.mk (.agg _) rfl ?_) | (refine LetB.pre ?_; first | refine LetB.tt rfl ?_ | refine LetB.ff rfl ?_) | (refine Br.pre ?_; first | refine Br.tt rfl ?_ | refine Br.ff rfl ?_) | (refine Ck.pre ?_; first | refine Ck.mk rfl ?_) | (refine LetL.pre ?_; first | refine LetL.mk (ty := aty) [.agg [_, _, _, _, _, _, _, _]] rfl ?_ | refine LetL.mk (ty := ity) _ (renL_none (pure_int _)).symm ?_) | (refine CallN.pre ?_; first | refine CallN.own (fun i => i) hC hok ?_ | refine CallN.pure hM1 rfl rfl ?_ | refine CallN.pure hM2 rfl rfl ?_)))); (try (conv => whnf)))





  exact ⟨.inl rfl, ⟨_, rfl, rfl⟩, rfl, rfl, trivial⟩
set_option maxHeartbeats 1600000 in
set_option maxRecDepth 100000 in
theorem Odd_3 (a : Ac) (n : Int) (o : Ac) (ho : o = { a with grade := 5 * n - 50 }) (q : Int × Int) (ha : a.src.length ≤ 900 ∧ a.path.length ≤ 900) (hn2 : 0 ≤ n ∧ n < 40) (hn : (q.2.tmod 40 + 40).tmod 40 = n) (hm : (q.1.tmod 8 + 8).tmod 8 = 3) : AFun Try.prog 26 0 [acA a, .agg [int q.1, int q.2]] [] (acA o) [] := by
  refine frzA (i := 3) (j := 5) (n := (0 + (a.src.map int).length)) (m := (0 + (a.path.map int).length)) (f1 := ⟨false, true⟩) (f2 := ⟨false, true⟩) o ?_ (by decide) (by subst ho; simp) (by subst ho; simp)
  subst ho
  refine AFun.of_W T_ok mixed Try.func26 rfl (Nat.le_of_ble_eq_true rfl) rfl ?_
  have hC := Copy_s a (a.src.map int) (a.path.map int) (by simp; omega) (by simp; omega) (stor_int _) (stor_int _)
  have hok : CallOk 0 (fun i => i) _ _ _ _ [(0, .row 8 aty [acA a]), (1, .row 2 28 [.agg [int q.1, int q.2]]), (2, .row 8 aty [.agg [int 0, str ⟨#[]⟩, int 0, int 0, int 0, .sc (.slice none 0 0), int 0, .sc (.slice none 0 0)]])] _ := CallOk.mk' (vs := [acA a]) (H := []) (v := cpA a (a.src.map int) (a.path.map int)) (H' := [(3, .row 1 ity (a.src.map int)), (5, .row 1 ity (a.path.map int))]) rfl rfl rfl rfl rfl (namesAll.row (pure_int _) (namesAll.row (pure_int _) rfl)) trivial
  have hM1 := Mod_f q.2 40 (by omega)
  have hM2 := Mod_f q.1 8 (by omega)
  rw [hn] at hM1
  rw [hm] at hM2
  have b9 := tmod_bound n (m := 9) (by omega)
  have b5 := tmod_bound n (m := 5) (by omega)
  have b4 := tmod_bound n (m := 4) (by omega)
  have b3 := tmod_bound n (m := 3) (by omega)
  have p4 := tmod_pos 4 hn2.1
  have hl1 : (a.src.map int).length = a.src.length := List.length_map _
  have hl2 : (a.path.map int).length = a.path.length := List.length_map _
  have hr1 := room_int (n := (0 + (a.src.map int).length) + 1) (by omega)
  have hr2 := room_int (n := (0 + (a.path.map int).length) + 1) (by omega)
  ((repeat ((conv => whnf); (first | (refine LetN.pre ?_; first | ((conv => arg 1; whnf); refine LetN.mk ?_)) | (refine As.pre ?_; first | refine As.mk rfl ?_) | (refine LetV.pre ?_; first | refine LetV.mk (.sc (.int _ _)) rfl ?_ | refine LetV.mk (.agg _) rfl ?_) | (refine LetI.pre ?_; first | refine LetI.wrap (by omega) (by omega) ?_) | (refine LetB.pre ?_; first | refine LetB.tt rfl ?_ | refine LetB.ff rfl ?_) | (refine Br.pre ?_; first | refine Br.tt rfl ?_ | refine Br.ff rfl ?_) | (refine Ck.pre ?_; first | refine Ck.mk rfl ?_) | (refine LetL.pre ?_; first | refine LetL.mk (ty := aty) [.agg [_, _, _, _, _, _, _, _]] rfl ?_ | refine LetL.mk (ty := ity) _ (renL_none (pure_int _)).symm ?_) | (refine CallN.pre ?_; first | refine CallN.own (fun i => i) hC hok ?_ | refine CallN.pure hM1 rfl rfl ?_ | refine CallN.pure hM2 rfl rfl ?_)))); (try (conv => whnf)))





  exact ⟨.inl rfl, ⟨_, rfl, rfl⟩, rfl, rfl, trivial⟩
set_option maxHeartbeats 1600000 in
set_option maxRecDepth 100000 in
theorem Odd_4 (a : Ac) (n : Int) (o : Ac) (ho : o = { a with day := 20 * n }) (q : Int × Int) (ha : a.src.length ≤ 900 ∧ a.path.length ≤ 900) (hn2 : 0 ≤ n ∧ n < 40) (hn : (q.2.tmod 40 + 40).tmod 40 = n) (hm : (q.1.tmod 8 + 8).tmod 8 = 4) : AFun Try.prog 26 0 [acA a, .agg [int q.1, int q.2]] [] (acA o) [] := by
  refine frzA (i := 3) (j := 5) (n := (0 + (a.src.map int).length)) (m := (0 + (a.path.map int).length)) (f1 := ⟨false, true⟩) (f2 := ⟨false, true⟩) o ?_ (by decide) (by subst ho; simp) (by subst ho; simp)
  subst ho
  refine AFun.of_W T_ok mixed Try.func26 rfl (Nat.le_of_ble_eq_true rfl) rfl ?_
  have hC := Copy_s a (a.src.map int) (a.path.map int) (by simp; omega) (by simp; omega) (stor_int _) (stor_int _)
  have hok : CallOk 0 (fun i => i) _ _ _ _ [(0, .row 8 aty [acA a]), (1, .row 2 28 [.agg [int q.1, int q.2]]), (2, .row 8 aty [.agg [int 0, str ⟨#[]⟩, int 0, int 0, int 0, .sc (.slice none 0 0), int 0, .sc (.slice none 0 0)]])] _ := CallOk.mk' (vs := [acA a]) (H := []) (v := cpA a (a.src.map int) (a.path.map int)) (H' := [(3, .row 1 ity (a.src.map int)), (5, .row 1 ity (a.path.map int))]) rfl rfl rfl rfl rfl (namesAll.row (pure_int _) (namesAll.row (pure_int _) rfl)) trivial
  have hM1 := Mod_f q.2 40 (by omega)
  have hM2 := Mod_f q.1 8 (by omega)
  rw [hn] at hM1
  rw [hm] at hM2
  have b9 := tmod_bound n (m := 9) (by omega)
  have b5 := tmod_bound n (m := 5) (by omega)
  have b4 := tmod_bound n (m := 4) (by omega)
  have b3 := tmod_bound n (m := 3) (by omega)
  have p4 := tmod_pos 4 hn2.1
  have hl1 : (a.src.map int).length = a.src.length := List.length_map _
  have hl2 : (a.path.map int).length = a.path.length := List.length_map _
  have hr1 := room_int (n := (0 + (a.src.map int).length) + 1) (by omega)
  have hr2 := room_int (n := (0 + (a.path.map int).length) + 1) (by omega)
  ((repeat ((conv => whnf); (first | (refine LetN.pre ?_; first | ((conv => arg 1; whnf); refine LetN.mk ?_)) | (refine As.pre ?_; first | refine As.mk rfl ?_) | (refine LetV.pre ?_; first | refine LetV.mk (.sc (.int _ _)) rfl ?_ | refine LetV.mk (.agg _) rfl ?_) | (refine LetI.pre ?_; first | refine LetI.wrap (by omega) (by omega) ?_) | (refine LetB.pre ?_; first | refine LetB.tt rfl ?_ | refine LetB.ff rfl ?_) | (refine Br.pre ?_; first | refine Br.tt rfl ?_ | refine Br.ff rfl ?_) | (refine Ck.pre ?_; first | refine Ck.mk rfl ?_) | (refine LetL.pre ?_; first | refine LetL.mk (ty := aty) [.agg [_, _, _, _, _, _, _, _]] rfl ?_ | refine LetL.mk (ty := ity) _ (renL_none (pure_int _)).symm ?_) | (refine CallN.pre ?_; first | refine CallN.own (fun i => i) hC hok ?_ | refine CallN.pure hM1 rfl rfl ?_ | refine CallN.pure hM2 rfl rfl ?_)))); (try (conv => whnf)))





  exact ⟨.inl rfl, ⟨_, rfl, rfl⟩, rfl, rfl, trivial⟩
set_option maxHeartbeats 1600000 in
set_option maxRecDepth 100000 in
theorem Odd_5 (a : Ac) (n : Int) (o : Ac) (ho : o = { a with src := a.src ++ [1000000 + n] }) (q : Int × Int) (ha : a.src.length ≤ 900 ∧ a.path.length ≤ 900) (hn2 : 0 ≤ n ∧ n < 40) (hn : (q.2.tmod 40 + 40).tmod 40 = n) (hm : (q.1.tmod 8 + 8).tmod 8 = 5) : AFun Try.prog 26 0 [acA a, .agg [int q.1, int q.2]] [] (acA o) [] := by
  refine frzA (i := 7) (j := 5) (n := ((0 + (a.src.map int).length) + 1)) (m := (0 + (a.path.map int).length)) (f1 := ⟨false, true⟩) (f2 := ⟨false, true⟩) o ?_ (by decide) (by subst ho; simp) (by subst ho; simp)
  subst ho
  refine AFun.of_W T_ok mixed Try.func26 rfl (Nat.le_of_ble_eq_true rfl) rfl ?_
  have hC := Copy_s a (a.src.map int) (a.path.map int) (by simp; omega) (by simp; omega) (stor_int _) (stor_int _)
  have hok : CallOk 0 (fun i => i) _ _ _ _ [(0, .row 8 aty [acA a]), (1, .row 2 28 [.agg [int q.1, int q.2]]), (2, .row 8 aty [.agg [int 0, str ⟨#[]⟩, int 0, int 0, int 0, .sc (.slice none 0 0), int 0, .sc (.slice none 0 0)]])] _ := CallOk.mk' (vs := [acA a]) (H := []) (v := cpA a (a.src.map int) (a.path.map int)) (H' := [(3, .row 1 ity (a.src.map int)), (5, .row 1 ity (a.path.map int))]) rfl rfl rfl rfl rfl (namesAll.row (pure_int _) (namesAll.row (pure_int _) rfl)) trivial
  have hM1 := Mod_f q.2 40 (by omega)
  have hM2 := Mod_f q.1 8 (by omega)
  rw [hn] at hM1
  rw [hm] at hM2
  have b9 := tmod_bound n (m := 9) (by omega)
  have b5 := tmod_bound n (m := 5) (by omega)
  have b4 := tmod_bound n (m := 4) (by omega)
  have b3 := tmod_bound n (m := 3) (by omega)
  have p4 := tmod_pos 4 hn2.1
  have hl1 : (a.src.map int).length = a.src.length := List.length_map _
  have hl2 : (a.path.map int).length = a.path.length := List.length_map _
  have hr1 := room_int (n := (0 + (a.src.map int).length) + 1) (by omega)
  have hr2 := room_int (n := (0 + (a.path.map int).length) + 1) (by omega)
  ((repeat ((conv => whnf); (first | (refine LetN.pre ?_; first | ((conv => arg 1; whnf); refine LetN.mk ?_)) | (refine As.pre ?_; first | refine As.mk rfl ?_ | (refine As.mk ?_ ?_; · ((repeat' (refine andT ?_ ?_)) <;> (first | rfl | assumption | exact decide_eq_true (by omega) | exact decide_eq_true (by dsimp only; omega) | exact decide_eq_true (by simp; omega) | (simp; done))))) | (refine LetV.pre ?_; first | refine LetV.mk (.sc (.int _ _)) rfl ?_ | refine LetV.mk (.agg _) rfl ?_ | refine LetV.mk (.slm _ _ _ _ _) rfl ?_) | (refine LetI.pre ?_; first | refine LetI.wrap (by omega) (by omega) ?_) | (refine LetB.pre ?_; first | refine LetB.tt rfl ?_ | refine LetB.ff rfl ?_) | (refine Br.pre ?_; first | refine Br.tt rfl ?_ | refine Br.ff rfl ?_) | (refine Ck.pre ?_; first | refine Ck.mk rfl ?_) | (refine LetL.pre ?_; first | refine LetL.mk (ty := aty) [.agg [_, _, _, _, _, _, _, _]] rfl ?_ | refine LetL.mk (ty := ity) _ (app_int a.src (1000000 + n) _ (by rw [List.length_map])) ?_ | refine LetL.mk (ty := ity) _ (renL_none (pure_int _)).symm ?_) | (refine CallN.pre ?_; first | refine CallN.own (fun i => i) hC hok ?_ | refine CallN.pure hM1 rfl rfl ?_ | refine CallN.pure hM2 rfl rfl ?_)))); (try (conv => whnf)))






  exact ⟨.inl rfl, ⟨_, rfl, rfl⟩, rfl, rfl, trivial⟩
set_option maxHeartbeats 1600000 in
set_option maxRecDepth 100000 in
theorem Odd_6 (a : Ac) (n : Int) (o : Ac) (ho : o = { a with bundle := n.tmod 5 - 1 }) (q : Int × Int) (ha : a.src.length ≤ 900 ∧ a.path.length ≤ 900) (hn2 : 0 ≤ n ∧ n < 40) (hn : (q.2.tmod 40 + 40).tmod 40 = n) (hm : (q.1.tmod 8 + 8).tmod 8 = 6) : AFun Try.prog 26 0 [acA a, .agg [int q.1, int q.2]] [] (acA o) [] := by
  refine frzA (i := 3) (j := 5) (n := (0 + (a.src.map int).length)) (m := (0 + (a.path.map int).length)) (f1 := ⟨false, true⟩) (f2 := ⟨false, true⟩) o ?_ (by decide) (by subst ho; simp) (by subst ho; simp)
  subst ho
  refine AFun.of_W T_ok mixed Try.func26 rfl (Nat.le_of_ble_eq_true rfl) rfl ?_
  have hC := Copy_s a (a.src.map int) (a.path.map int) (by simp; omega) (by simp; omega) (stor_int _) (stor_int _)
  have hok : CallOk 0 (fun i => i) _ _ _ _ [(0, .row 8 aty [acA a]), (1, .row 2 28 [.agg [int q.1, int q.2]]), (2, .row 8 aty [.agg [int 0, str ⟨#[]⟩, int 0, int 0, int 0, .sc (.slice none 0 0), int 0, .sc (.slice none 0 0)]])] _ := CallOk.mk' (vs := [acA a]) (H := []) (v := cpA a (a.src.map int) (a.path.map int)) (H' := [(3, .row 1 ity (a.src.map int)), (5, .row 1 ity (a.path.map int))]) rfl rfl rfl rfl rfl (namesAll.row (pure_int _) (namesAll.row (pure_int _) rfl)) trivial
  have hM1 := Mod_f q.2 40 (by omega)
  have hM2 := Mod_f q.1 8 (by omega)
  rw [hn] at hM1
  rw [hm] at hM2
  have b9 := tmod_bound n (m := 9) (by omega)
  have b5 := tmod_bound n (m := 5) (by omega)
  have b4 := tmod_bound n (m := 4) (by omega)
  have b3 := tmod_bound n (m := 3) (by omega)
  have p4 := tmod_pos 4 hn2.1
  have hl1 : (a.src.map int).length = a.src.length := List.length_map _
  have hl2 : (a.path.map int).length = a.path.length := List.length_map _
  have hr1 := room_int (n := (0 + (a.src.map int).length) + 1) (by omega)
  have hr2 := room_int (n := (0 + (a.path.map int).length) + 1) (by omega)
  ((repeat ((conv => whnf); (first | (refine LetN.pre ?_; first | ((conv => arg 1; whnf); refine LetN.mk ?_)) | (refine As.pre ?_; first | refine As.mk rfl ?_) | (refine LetV.pre ?_; first | refine LetV.mk (.sc (.int _ _)) rfl ?_ | refine LetV.mk (.agg _) rfl ?_) | (refine LetI.pre ?_; first | refine LetI.wrap (by omega) (by omega) ?_ | refine LetI.mk _ rfl ?_) | (refine LetB.pre ?_; first | refine LetB.tt rfl ?_ | refine LetB.ff rfl ?_) | (refine Br.pre ?_; first | refine Br.tt rfl ?_ | refine Br.ff rfl ?_) | (refine Ck.pre ?_; first | refine Ck.mk rfl ?_) | (refine LetL.pre ?_; first | refine LetL.mk (ty := aty) [.agg [_, _, _, _, _, _, _, _]] rfl ?_ | refine LetL.mk (ty := ity) _ (renL_none (pure_int _)).symm ?_) | (refine CallN.pre ?_; first | refine CallN.own (fun i => i) hC hok ?_ | refine CallN.pure hM1 rfl rfl ?_ | refine CallN.pure hM2 rfl rfl ?_)))); (try (conv => whnf)))





  exact ⟨.inl rfl, ⟨_, rfl, rfl⟩, rfl, rfl, trivial⟩
set_option maxHeartbeats 1600000 in
set_option maxRecDepth 100000 in
theorem Odd_7 (a : Ac) (n : Int) (o : Ac) (ho : o = { a with path := a.path ++ [n.tmod 3] }) (q : Int × Int) (ha : a.src.length ≤ 900 ∧ a.path.length ≤ 900) (hn2 : 0 ≤ n ∧ n < 40) (hn : (q.2.tmod 40 + 40).tmod 40 = n) (hm : (q.1.tmod 8 + 8).tmod 8 = 7) : AFun Try.prog 26 0 [acA a, .agg [int q.1, int q.2]] [] (acA o) [] := by
  refine frzA (i := 3) (j := 7) (n := (0 + (a.src.map int).length)) (m := ((0 + (a.path.map int).length) + 1)) (f1 := ⟨false, true⟩) (f2 := ⟨false, true⟩) o ?_ (by decide) (by subst ho; simp) (by subst ho; simp)
  subst ho
  refine AFun.of_W T_ok mixed Try.func26 rfl (Nat.le_of_ble_eq_true rfl) rfl ?_
  have hC := Copy_s a (a.src.map int) (a.path.map int) (by simp; omega) (by simp; omega) (stor_int _) (stor_int _)
  have hok : CallOk 0 (fun i => i) _ _ _ _ [(0, .row 8 aty [acA a]), (1, .row 2 28 [.agg [int q.1, int q.2]]), (2, .row 8 aty [.agg [int 0, str ⟨#[]⟩, int 0, int 0, int 0, .sc (.slice none 0 0), int 0, .sc (.slice none 0 0)]])] _ := CallOk.mk' (vs := [acA a]) (H := []) (v := cpA a (a.src.map int) (a.path.map int)) (H' := [(3, .row 1 ity (a.src.map int)), (5, .row 1 ity (a.path.map int))]) rfl rfl rfl rfl rfl (namesAll.row (pure_int _) (namesAll.row (pure_int _) rfl)) trivial
  have hM1 := Mod_f q.2 40 (by omega)
  have hM2 := Mod_f q.1 8 (by omega)
  rw [hn] at hM1
  rw [hm] at hM2
  have b9 := tmod_bound n (m := 9) (by omega)
  have b5 := tmod_bound n (m := 5) (by omega)
  have b4 := tmod_bound n (m := 4) (by omega)
  have b3 := tmod_bound n (m := 3) (by omega)
  have p4 := tmod_pos 4 hn2.1
  have hl1 : (a.src.map int).length = a.src.length := List.length_map _
  have hl2 : (a.path.map int).length = a.path.length := List.length_map _
  have hr1 := room_int (n := (0 + (a.src.map int).length) + 1) (by omega)
  have hr2 := room_int (n := (0 + (a.path.map int).length) + 1) (by omega)
  ((repeat ((conv => whnf); (first | (refine LetN.pre ?_; first | ((conv => arg 1; whnf); refine LetN.mk ?_)) | (refine As.pre ?_; first | refine As.mk rfl ?_ | (refine As.mk ?_ ?_; · ((repeat' (refine andT ?_ ?_)) <;> (first | rfl | assumption | exact decide_eq_true (by omega) | exact decide_eq_true (by dsimp only; omega) | exact decide_eq_true (by simp; omega) | (simp; done))))) | (refine LetV.pre ?_; first | refine LetV.mk (.sc (.int _ _)) rfl ?_ | refine LetV.mk (.agg _) rfl ?_ | refine LetV.mk (.slm _ _ _ _ _) rfl ?_) | (refine LetI.pre ?_; first | refine LetI.mk _ rfl ?_) | (refine LetB.pre ?_; first | refine LetB.tt rfl ?_ | refine LetB.ff rfl ?_) | (refine Br.pre ?_; first | refine Br.tt rfl ?_ | refine Br.ff rfl ?_) | (refine Ck.pre ?_; first | refine Ck.mk rfl ?_) | (refine LetL.pre ?_; first | refine LetL.mk (ty := aty) [.agg [_, _, _, _, _, _, _, _]] rfl ?_ | refine LetL.mk (ty := ity) _ (app_int a.path (n.tmod 3) _ (by rw [List.length_map])) ?_ | refine LetL.mk (ty := ity) _ (renL_none (pure_int _)).symm ?_) | (refine CallN.pre ?_; first | refine CallN.own (fun i => i) hC hok ?_ | refine CallN.pure hM1 rfl rfl ?_ | refine CallN.pure hM2 rfl rfl ?_)))); (try (conv => whnf)))






  exact ⟨.inl rfl, ⟨_, rfl, rfl⟩, rfl, rfl, trivial⟩
theorem Odd_f (a : Ac) (q : Int × Int) (ha : a.src.length ≤ 900 ∧ a.path.length ≤ 900) : ∃ o : Ac, okO a o ∧ AFun Try.prog 26 0 [acA a, .agg [int q.1, int q.2]] [] (acA o) [] := by
  have b0 := tmod_bound q.1 (m := 8) (by omega)
  have p0 := tmod_pos 8 (a := q.1.tmod 8 + 8) (by omega)
  have b1 := tmod_bound q.2 (m := 40) (by omega)
  have p1 := tmod_pos 40 (a := q.2.tmod 40 + 40) (by omega)
  obtain ⟨n, hn⟩ : ∃ n : Int, (q.2.tmod 40 + 40).tmod 40 = n := ⟨_, rfl⟩
  have hn2 : 0 ≤ n ∧ n < 40 := by omega
  have b4 := tmod_bound n (m := 4) (by omega)
  have p4 := tmod_pos 4 hn2.1
  obtain ⟨s, hs⟩ := word4 (n.tmod 4) (by omega)
  have hc : (q.1.tmod 8 + 8).tmod 8 = 0 ∨ (q.1.tmod 8 + 8).tmod 8 = 1 ∨ (q.1.tmod 8 + 8).tmod 8 = 2 ∨ (q.1.tmod 8 + 8).tmod 8 = 3 ∨ (q.1.tmod 8 + 8).tmod 8 = 4 ∨ (q.1.tmod 8 + 8).tmod 8 = 5 ∨ (q.1.tmod 8 + 8).tmod 8 = 6 ∨ (q.1.tmod 8 + 8).tmod 8 = 7 := by omega
  rcases hc with h | h | h | h | h | h | h | h
  · exact ⟨_, ⟨by simp, by simp⟩, Odd_0 a n _ rfl q ha hn2 hn h⟩
  · exact ⟨_, ⟨by simp, by simp⟩, Odd_1 a n s hs _ rfl q ha hn2 hn h⟩
  · exact ⟨_, ⟨by simp, by simp⟩, Odd_2 a n _ rfl q ha hn2 hn h⟩
  · exact ⟨_, ⟨by simp, by simp⟩, Odd_3 a n _ rfl q ha hn2 hn h⟩
  · exact ⟨_, ⟨by simp, by simp⟩, Odd_4 a n _ rfl q ha hn2 hn h⟩
  · exact ⟨_, ⟨by simp, by simp⟩, Odd_5 a n _ rfl q ha hn2 hn h⟩
  · exact ⟨_, ⟨by simp, by simp⟩, Odd_6 a n _ rfl q ha hn2 hn h⟩
  · exact ⟨_, ⟨by simp, by simp⟩, Odd_7 a n _ rfl q ha hn2 hn h⟩
end En
end Go.Proofs.Ytiefcppgbnfbfaa
namespace Go.Proofs.Ytiefcppgbnfbfaa
open Go.Proofs.Ytiefcppgbnfbfaa.Am
set_option maxRecDepth 100000
namespace En
/-! ### EarnApart -/
theorem nself (b : Bool) : (b != b) = false := by cases b <;> rfl
theorem app_ac (l : List Ac) (e : Ac) (n : Nat) (h : n = l.length) : (l ++ [e]).map acA = (l.map acA).take n ++ [acA e] := by rw [List.take_of_length_le (by simp [h]), List.map_append]; rfl
theorem row_ac {l : List Ac} {k : Nat} (h : k < l.length) : acA (l.getD k ac0) = Am.part true 8 0 8 ((l.map acA).getD (0 + k) (.sc undef)) := by
  rw [Nat.zero_add, List.getD_eq_getElem?_getD, List.getD_eq_getElem?_getD, List.getElem?_map, List.getElem?_eq_getElem h]; rfl
abbrev lstO (all : List Ac) (k : Nat) : AS :=
  ⟨[(5, bool true), (6, .slm {} 0 8 0 all.length), (37, .slm {} 0 8 0 all.length), (38, int all.length), (39, int k)], [(0, .row 8 aty (all.map acA))], 1⟩
abbrev lstI (all : List Ac) (k : Nat) (a : Ac) (j : Nat) : AS :=
  ⟨[(5, bool true), (6, .slm {} 0 8 0 all.length), (7, int k), (8, .ptr 1 8 0 0), (37, .slm {} 0 8 0 all.length), (38, int all.length), (39, int k), (44, .slm {} 0 8 0 all.length), (45, int all.length), (46, int j)], [(0, .row 8 aty (all.map acA)), (1, .row 8 aty [acA a])], 2⟩
theorem acs_names (all : List Ac) (ok : Nat → Bool) (H : AH) (h : namesAll ok H = true) : namesAll ok ((0, .row 8 aty (all.map acA)) :: H) = true := namesAll.row (pure_ac _) h
set_option maxHeartbeats 1600000 in
set_option maxRecDepth 100000 in
theorem eapart (L : List (Fl × List Int)) (fl : Fl) (hL : L.length ≤ 9223372036854775807) (hxs : ∀ x ∈ L, x.2.length ≤ 9223372036854775807) (q : Int × Int × Int) : AFun Try.prog 7 0 [.ro fl 1 (L.map iA), .agg [int q.1, int q.2.1, int q.2.2]] [] (bool true) [] := by
  obtain ⟨l, hm, hM⟩ := Made_c L fl hL hxs
  refine AFun.of_W T_ok mixed Try.func7 rfl (Nat.le_of_ble_eq_true rfl) rfl ?_
  by_cases h0 : l = []
  · subst h0
    ((repeat ((conv => whnf); (first | (refine LetN.pre ?_; first | ((conv => arg 1; whnf); refine LetN.mk ?_)) | (refine As.pre ?_; first | refine As.mk rfl ?_) | (refine LetI.pre ?_; first | refine LetI.mk _ rfl ?_) | (refine LetB.pre ?_; first | refine LetB.ff rfl ?_) | (refine Br.pre ?_; first | refine Br.ff rfl ?_) | (refine Ck.pre ?_; first | refine Ck.mk rfl ?_) | (refine LetL.pre ?_; first | refine LetL.mk _ rfl ?_) | (refine CallN.pre ?_; first | refine CallN.pure sanity_f rfl rfl ?_ | refine CallN.own (fun _ => 1) hM (CallOk.mk' rfl rfl rfl rfl rfl rfl trivial) ?_)))); (try (conv => whnf)))
    refine LoopN.round T_ok mixed rfl ?_
    ((repeat ((conv => whnf); (first | (refine As.pre ?_; first | refine As.mk rfl ?_) | (refine LetB.pre ?_; first | refine LetB.ff rfl ?_) | (refine Br.pre ?_; first | refine Br.ff rfl ?_) | (refine Ck.pre ?_; first | refine Ck.mk rfl ?_)))); (try (conv => whnf)))
    exact ⟨.inl rfl, ⟨_, rfl, rfl⟩, trivial⟩
  have hpos : 0 < l.length := List.length_pos_iff.2 h0
  obtain ⟨hm1, hm2⟩ := hm
  obtain ⟨u, hu⟩ : ∃ u : Int, u = IntKind.u64.wrap q.2.2 := ⟨_, rfl⟩
  have hub : 0 ≤ u := by rw [hu]; exact Int.emod_nonneg _ (by decide)
  have hn : (l.length : Int) = IntKind.u64.wrap (l.length : Int) := by
    show _ = (l.length : Int) % _
    rw [Int.emod_eq_of_lt (by omega) (by have : (l.length : Int) ≤ 8 := by omega
                                         exact Int.lt_of_le_of_lt this (by decide))]
  obtain ⟨k, hk, hkk⟩ : ∃ k : Nat, k < l.length ∧ (k : Int) = u.tmod (l.length : Int) := by
    have h1 := Int.tmod_nonneg (l.length : Int) hub
    have h2 := Int.tmod_lt_of_pos u (b := (l.length : Int)) (by omega)
    exact ⟨(u.tmod (l.length : Int)).toNat, by omega, by omega⟩
  have hnz : ((l.length : Int) != 0) = true := bne_iff_ne.2 (by omega)
  have hwk : (k : Int) = IntKind.i64.wrap (k : Int) := (wrap_id (by omega) (by omega)).symm
  have hld := row_ac hk
  have hok : ∀ a ∈ l, a.src.length ≤ 2 ∧ a.path.length ≤ 1 := fun a ha => by
    obtain ⟨h1, h2⟩ := hm2 a ha
    refine ⟨h2, ?_⟩
    rcases h1 with ⟨_, h⟩ | ⟨_, h⟩ <;> rw [h] <;> simp
  have hka := hok _ (getD_mem hk)
  obtain ⟨o, ho, hO⟩ := Odd_f (l.getD k ac0) (q.1, q.2.1) (by omega)
  have hml : (l.map acA).length = l.length := List.length_map _
  have hr := room_ach (n := l.length + 1) (by omega)
  have hall : ∀ a ∈ l ++ [o], okA a := fun a ha => by
    rcases List.mem_append.1 ha with h | h
    · have := hok a h; omega
    · simp only [List.mem_cons, List.not_mem_nil, or_false] at h
      subst h
      have := ho.1
      have := ho.2
      omega
  have hlen : (l ++ [o]).length = l.length + 1 := by simp
  have happ := app_ac l o l.length rfl
  generalize l.getD k ac0 = a0 at hld hO
  ((repeat ((conv => whnf); (first | (refine LetN.pre ?_; first | ((conv => arg 1; whnf); refine LetN.mk ?_)) | (refine As.pre ?_; first | refine As.mk rfl ?_ | refine As.mk hnz ?_ | (refine As.mk ?_ ?_; · ((repeat' (refine andT ?_ ?_)) <;> (first | rfl | assumption | exact decide_eq_true (by omega) | exact decide_eq_true (by dsimp only; omega) | exact decide_eq_true (by simp; omega) | (simp; done))))) | (refine LetV.pre ?_; first | refine LetV.mk (t := aty) _ hld ?_ | refine LetV.mk (.sc (.int _ _)) rfl ?_) | (refine LetI.pre ?_; first | refine LetI.mk (o := none) u hu ?_ | refine LetI.mk (o := none) (l.length : Int) hn ?_ | refine LetI.mk (o := some .rem) (k : Int) hkk ?_ | refine LetI.mk (o := none) (k : Int) hwk ?_ | refine LetI.mk _ rfl ?_) | (refine LetB.pre ?_; first | refine LetB.dect (by omega) ?_) | (refine Br.pre ?_; first | refine Br.tt rfl ?_) | (refine Ck.pre ?_; first | refine Ck.drawn (by kernel_rfl) ?_ | refine Ck.mk rfl ?_) | (refine LetL.pre ?_; first | refine LetL.mk (ty := aty) _ (renL_none (pure_ac _)).symm ?_ | refine LetL.mk (ty := aty) _ happ ?_) | (refine CallN.pre ?_; first | refine CallN.pure sanity_f rfl rfl ?_ | refine CallN.own (fun _ => 1) hM (CallOk.mk' rfl rfl rfl rfl rfl (namesAll.row (pure_ac _) rfl) trivial) ?_ | refine CallN.pure hO rfl rfl ?_)))); (try (conv => whnf)))











  refine LoopN.weak (s1 := lstO (l ++ [o]) 0) ?sw1 ?_
  case sw1 => exact SW.mk (fun _ => 2) rfl rfl (acs_names _ _ _ rfl) ⟨.refl _, VLe2.slm_of hlen, VLe2.slm_of hlen, VLe2.int (by rw [hlen]; rfl), .refl _, trivial⟩ (haveV.row (pure_ac _) rfl trivial)
  have hlen2 : (l ++ [o]).length ≤ 9 := by omega
  clear happ hO hM hm1 hm2 hld hka hok hr hkk hwk hnz hn hub hlen ho
  generalize l ++ [o] = all at hall hlen2 ⊢
  clear hk
  have hma : (all.map acA).length = all.length := List.length_map _
  refine LoopN.ind T_ok mixed (S := lstO all) (fun k => all.length - k) (fun k => k ≤ all.length) (fun _ => rfl) (fun k hk ih => ?_) 0 (Nat.zero_le _)
  by_cases hlt : k < all.length
  case neg =>
    clear ih
    ((repeat ((conv => whnf); (first | (refine As.pre ?_; first | refine As.mk rfl ?_) | (refine LetB.pre ?_; first | refine LetB.decf (by omega) ?_) | (refine Br.pre ?_; first | refine Br.ff rfl ?_) | (refine Ck.pre ?_; first | refine Ck.mk rfl ?_)))); (try (conv => whnf)))
    exact ⟨.inl rfl, ⟨_, rfl, rfl⟩, trivial⟩
  have hld := row_ac hlt
  have ha := hall _ (getD_mem hlt)
  generalize all.getD k ac0 = a at hld ha
  ((repeat ((conv => whnf); (first | (refine LetN.pre ?_; first | ((conv => arg 1; whnf); refine LetN.mk ?_)) | (refine As.pre ?_; first | refine As.mk rfl ?_ | (refine As.mk ?_ ?_; · ((repeat' (refine andT ?_ ?_)) <;> (first | rfl | assumption | exact decide_eq_true (by omega) | exact decide_eq_true (by dsimp only; omega) | exact decide_eq_true (by simp; omega) | (simp; done))))) | (refine LetV.pre ?_; first | refine LetV.mk (t := aty) _ hld ?_) | (refine LetI.pre ?_; first | refine LetI.mk _ rfl ?_) | (refine LetB.pre ?_; first | refine LetB.dect (by omega) ?_) | (refine Br.pre ?_; first | refine Br.tt rfl ?_) | (refine Ck.pre ?_; first | refine Ck.mk rfl ?_) | (refine LetL.pre ?_; first | refine LetL.mk [_] rfl ?_)))); (try (conv => whnf)))
  refine LoopN.weak (s1 := lstI all k a 0) ?sw2 ?_
  case sw2 => exact SW.mk (fun i => if i = 1 then 1 else i) rfl rfl (acs_names _ _ _ rfl) ⟨.refl _, .refl _, .refl _, .refl _, .refl _, .refl _, .refl _, .refl _, .refl _, .refl _, trivial⟩ (haveV.row (pure_ac _) rfl (haveV.row rfl rfl trivial))
  clear hld
  refine LoopN.ind T_ok mixed (S := lstI all k a) (fun j => all.length - j) (fun j => j ≤ all.length) (fun _ => rfl) (fun j hj ihj => ?_) 0 (Nat.zero_le _)
  by_cases hlj : j < all.length
  case pos =>
    have hld := row_ac hlj
    have hb := hall _ (getD_mem hlj)
    generalize all.getD j ac0 = b at hld hb
    have h1 := Apart_f a b ha hb
    have h2 := refApart_f a b ha hb
    have h3 := SameA_f a b ha hb
    have h4 := refSameA_f a b ha hb
    have h5 := LessA_f a b ha hb
    have h6 := refLessA_f a b ha hb
    rw [same_eq] at h4
    rw [less_eq] at h6
    generalize apP a b = m1 at h1 h2
    generalize decide (cmpA a b = 0) = m2 at h3 h4
    generalize decide (cmpA a b < 0) = m3 at h5 h6
    clear ih
    ((repeat ((conv => whnf); (first | (refine LetN.pre ?_; first | ((conv => arg 1; whnf); refine LetN.mk ?_)) | (refine As.pre ?_; first | refine As.mk rfl ?_ | (refine As.mk ?_ ?_; · ((repeat' (refine andT ?_ ?_)) <;> (first | rfl | assumption | exact decide_eq_true (by omega) | exact decide_eq_true (by dsimp only; omega) | exact decide_eq_true (by simp; omega) | (simp; done))))) | (refine LetV.pre ?_; first | refine LetV.mk (t := aty) _ hld ?_ | refine LetV.mk (.agg _) rfl ?_) | (refine LetI.pre ?_; first | refine LetI.wrap (by omega) (by omega) ?_) | (refine LetB.pre ?_; first | refine LetB.ff (nself _) ?_ | refine LetB.dect (by omega) ?_) | (refine Gd.pre ?_; first | refine Gd.run rfl ?_) | (refine Br.pre ?_; first | refine Br.tt rfl ?_ | refine Br.ff rfl ?_) | (refine Ck.pre ?_; first | refine Ck.drawn (by kernel_rfl) ?_ | refine Ck.mk rfl ?_) | (refine LetL.pre ?_; first | refine LetL.mk [_] rfl ?_) | (refine CallN.pre ?_; first | refine CallN.pure h1 rfl rfl ?_ | refine CallN.pure h2 rfl rfl ?_ | refine CallN.pure h3 rfl rfl ?_ | refine CallN.pure h4 rfl rfl ?_ | refine CallN.pure h5 rfl rfl ?_ | refine CallN.pure h6 rfl rfl ?_)))); (try (conv => whnf)))








    refine LoopN.weak ?sw3 (ihj (j + 1) (by omega) (by omega))
    case sw3 => exact SW.mk id rfl rfl (acs_names _ _ _ rfl) ⟨.refl _, .refl _, .refl _, .refl _, .refl _, .refl _, .refl _, .refl _, .refl _, VLe2.int (by omega), trivial⟩ (haveV.row (pure_ac _) rfl (haveV.row rfl rfl trivial))
  case neg =>
    clear ihj
    have f1 := fun fl => Free_f (all.drop k) fl (by simp; omega) (fun b hb => hall b (List.mem_of_mem_drop hb))
    have f2 := fun fl => refFree_f (all.drop k) fl (by simp; omega) (fun b hb => hall b (List.mem_of_mem_drop hb))
    have f3 := fun fl => Free_f (all.take k) fl (by simp; omega) (fun b hb => hall b (List.mem_of_mem_take hb))
    have f4 := fun fl => refFree_f (all.take k) fl (by simp; omega) (fun b hb => hall b (List.mem_of_mem_take hb))
    rw [free_eq] at f2 f4
    have e1 : ((all.map acA).drop k).take (all.length - k) = (all.drop k).map acA := by rw [List.map_drop, List.take_of_length_le (by simp)]
    have e2 : ((all.map acA).drop 0).take k = (all.take k).map acA := by rw [List.map_take, List.drop_zero]
    generalize frP (all.drop k) = m1 at f1 f2
    generalize frP (all.take k) = m2 at f3 f4
    have s1 : ∀ fl, AV.slm fl 0 8 k (all.length - k) = .slm fl 0 8 ((0 : Nat) + (k : Int).toNat) ((all.length : Int).toNat - (k : Int).toNat) := fun fl => by simp
    have s2 : ∀ fl, AV.slm fl 0 8 0 k = .slm fl 0 8 0 ((k : Int).toNat - 0) := fun fl => by simp
    ((repeat ((conv => whnf); (first | (refine As.pre ?_; first | refine As.mk rfl ?_ | (refine As.mk ?_ ?_; · ((repeat' (refine andT ?_ ?_)) <;> (first | rfl | assumption | exact decide_eq_true (by omega) | exact decide_eq_true (by dsimp only; omega) | exact decide_eq_true (by simp; omega) | (simp; done))))) | (refine LetV.pre ?_; first | refine LetV.mk (t := 41) _ (s1 _) ?_ | refine LetV.mk (t := 41) _ (s2 _) ?_) | (refine LetI.pre ?_; first | refine LetI.wrap (by omega) (by omega) ?_) | (refine LetB.pre ?_; first | refine LetB.ff (nself _) ?_ | refine LetB.decf (by omega) ?_) | (refine Gd.pre ?_; first | refine Gd.run rfl ?_) | (refine Br.pre ?_; first | refine Br.ff rfl ?_) | (refine Ck.pre ?_; first | refine Ck.drawn (by kernel_rfl) ?_ | refine Ck.mk rfl ?_) | (refine CallN.pre ?_; first | refine CallN.lend (f1 _) rfl (.part rfl (pure_ac _) (by omega) e1 .nil) ?_ | refine CallN.lend (f2 _) rfl (.part rfl (pure_ac _) (by omega) e1 .nil) ?_ | refine CallN.lend (f3 _) rfl (.part rfl (pure_ac _) (by omega) e2 .nil) ?_ | refine CallN.lend (f4 _) rfl (.part rfl (pure_ac _) (by omega) e2 .nil) ?_)))); (try (conv => whnf)))







    refine LoopN.weak ?sw4 (ih (k + 1) (by omega) (by omega))
    case sw4 => exact SW.mk id rfl rfl (acs_names _ _ _ rfl) ⟨.refl _, .refl _, .refl _, .refl _, VLe2.int (by omega), trivial⟩ (haveV.row (pure_ac _) rfl trivial)
theorem eapart_row (x : List (List Int)) (hL : x.length ≤ 9223372036854775807) (hxs : ∀ l ∈ x, l.length ≤ 9223372036854775807) (q : Int × Int × Int) : AFun Try.prog 7 0 [.ro {} 1 (x.map fun l => .ro {} 1 (l.map int)), .agg [int q.1, int q.2.1, int q.2.2]] [] (bool true) [] := by
  have h := eapart (x.map fun l => (({} : Fl), l)) {} (by rw [List.length_map]; exact hL) (fun y hy => by
    obtain ⟨l, hl, rfl⟩ := List.mem_map.1 hy
    exact hxs l hl) q
  rw [List.map_map] at h
  exact h
end En
end Go.Proofs.Ytiefcppgbnfbfaa
namespace Go.Proofs.Ytiefcppgbnfbfaa
open Go.Proofs.Ytiefcppgbnfbfaa.Am
set_option maxRecDepth 100000
namespace En
/-! ### EarnOrder -/
abbrev ordO (all : List Ac) (k : Nat) : AS :=
  ⟨[(5, bool true), (6, .slm {} 0 8 0 all.length), (41, .slm {} 0 8 0 all.length), (42, int all.length), (43, int k)], [(0, .row 8 aty (all.map acA))], 1⟩
abbrev ordI (all : List Ac) (k : Nat) (a : Ac) (j : Nat) : AS :=
  ⟨[(5, bool true), (6, .slm {} 0 8 0 all.length), (8, .ptr 1 8 0 0), (41, .slm {} 0 8 0 all.length), (42, int all.length), (43, int k), (47, .slm {} 0 8 0 all.length), (48, int all.length), (49, int j)], [(0, .row 8 aty (all.map acA)), (1, .row 8 aty [acA a])], 2⟩
abbrev ordZ (all : List Ac) (k : Nat) (a : Ac) (j : Nat) (b : Ac) (x y : Bool) (i : Nat) : AS :=
  ⟨[(5, bool true), (6, .slm {} 0 8 0 all.length), (8, .ptr 1 8 0 0), (10, .ptr 2 8 0 0), (11, bool x), (12, bool y), (41, .slm {} 0 8 0 all.length), (42, int all.length), (43, int k), (47, .slm {} 0 8 0 all.length), (48, int all.length), (49, int j), (75, .slm {} 0 8 0 all.length), (76, int all.length), (77, int i)], [(0, .row 8 aty (all.map acA)), (1, .row 8 aty [acA a]), (2, .row 8 aty [acA b])], 3⟩
set_option maxHeartbeats 1600000 in
set_option maxRecDepth 100000 in
theorem eorder (L : List (Fl × List Int)) (fl : Fl) (hL : L.length ≤ 9223372036854775807) (hxs : ∀ x ∈ L, x.2.length ≤ 9223372036854775807) (q : Int × Int × Int) : AFun Try.prog 8 0 [.ro fl 1 (L.map iA), .agg [int q.1, int q.2.1, int q.2.2]] [] (bool true) [] := by
  obtain ⟨l, hm, hM⟩ := Made_c L fl hL hxs
  refine AFun.of_W T_ok mixed Try.func8 rfl (Nat.le_of_ble_eq_true rfl) rfl ?_
  by_cases h0 : l = []
  · subst h0
    ((repeat ((conv => whnf); (first | (refine LetN.pre ?_; first | ((conv => arg 1; whnf); refine LetN.mk ?_)) | (refine As.pre ?_; first | refine As.mk rfl ?_) | (refine LetI.pre ?_; first | refine LetI.mk _ rfl ?_) | (refine LetB.pre ?_; first | refine LetB.ff rfl ?_) | (refine Br.pre ?_; first | refine Br.ff rfl ?_) | (refine Ck.pre ?_; first | refine Ck.mk rfl ?_) | (refine LetL.pre ?_; first | refine LetL.mk _ rfl ?_) | (refine CallN.pre ?_; first | refine CallN.pure sanity_f rfl rfl ?_ | refine CallN.own (fun _ => 1) hM (CallOk.mk' rfl rfl rfl rfl rfl rfl trivial) ?_)))); (try (conv => whnf)))
    refine LoopN.round T_ok mixed rfl ?_
    ((repeat ((conv => whnf); (first | (refine As.pre ?_; first | refine As.mk rfl ?_) | (refine LetB.pre ?_; first | refine LetB.ff rfl ?_) | (refine Br.pre ?_; first | refine Br.ff rfl ?_) | (refine Ck.pre ?_; first | refine Ck.mk rfl ?_)))); (try (conv => whnf)))
    exact ⟨.inl rfl, ⟨_, rfl, rfl⟩, trivial⟩
  have hpos : 0 < l.length := List.length_pos_iff.2 h0
  obtain ⟨hm1, hm2⟩ := hm
  obtain ⟨u, hu⟩ : ∃ u : Int, u = IntKind.u64.wrap q.2.2 := ⟨_, rfl⟩
  have hub : 0 ≤ u := by rw [hu]; exact Int.emod_nonneg _ (by decide)
  have hn : (l.length : Int) = IntKind.u64.wrap (l.length : Int) := by
    show _ = (l.length : Int) % _
    rw [Int.emod_eq_of_lt (by omega) (by have : (l.length : Int) ≤ 8 := by omega
                                         exact Int.lt_of_le_of_lt this (by decide))]
  obtain ⟨k, hk, hkk⟩ : ∃ k : Nat, k < l.length ∧ (k : Int) = u.tmod (l.length : Int) := by
    have h1 := Int.tmod_nonneg (l.length : Int) hub
    have h2 := Int.tmod_lt_of_pos u (b := (l.length : Int)) (by omega)
    exact ⟨(u.tmod (l.length : Int)).toNat, by omega, by omega⟩
  have hnz : ((l.length : Int) != 0) = true := bne_iff_ne.2 (by omega)
  have hwk : (k : Int) = IntKind.i64.wrap (k : Int) := (wrap_id (by omega) (by omega)).symm
  have hld := row_ac hk
  have hok : ∀ a ∈ l, a.src.length ≤ 2 ∧ a.path.length ≤ 1 := fun a ha => by
    obtain ⟨h1, h2⟩ := hm2 a ha
    refine ⟨h2, ?_⟩
    rcases h1 with ⟨_, h⟩ | ⟨_, h⟩ <;> rw [h] <;> simp
  have hka := hok _ (getD_mem hk)
  obtain ⟨o, ho, hO⟩ := Odd_f (l.getD k ac0) (q.1, q.2.1) (by omega)
  have hml : (l.map acA).length = l.length := List.length_map _
  have hr := room_ach (n := l.length + 1) (by omega)
  have hall : ∀ a ∈ l ++ [o], okA a := fun a ha => by
    rcases List.mem_append.1 ha with h | h
    · have := hok a h; omega
    · simp only [List.mem_cons, List.not_mem_nil, or_false] at h
      subst h
      have := ho.1
      have := ho.2
      omega
  have hlen : (l ++ [o]).length = l.length + 1 := by simp
  have happ := app_ac l o l.length rfl
  generalize l.getD k ac0 = a0 at hld hO
  ((repeat ((conv => whnf); (first | (refine LetN.pre ?_; first | ((conv => arg 1; whnf); refine LetN.mk ?_)) | (refine As.pre ?_; first | refine As.mk rfl ?_ | refine As.mk hnz ?_ | (refine As.mk ?_ ?_; · ((repeat' (refine andT ?_ ?_)) <;> (first | rfl | assumption | exact decide_eq_true (by omega) | exact decide_eq_true (by dsimp only; omega) | exact decide_eq_true (by simp; omega) | (simp; done))))) | (refine LetV.pre ?_; first | refine LetV.mk (t := aty) _ hld ?_ | refine LetV.mk (.sc (.int _ _)) rfl ?_) | (refine LetI.pre ?_; first | refine LetI.mk (o := none) u hu ?_ | refine LetI.mk (o := none) (l.length : Int) hn ?_ | refine LetI.mk (o := some .rem) (k : Int) hkk ?_ | refine LetI.mk (o := none) (k : Int) hwk ?_ | refine LetI.mk _ rfl ?_) | (refine LetB.pre ?_; first | refine LetB.dect (by omega) ?_) | (refine Br.pre ?_; first | refine Br.tt rfl ?_) | (refine Ck.pre ?_; first | refine Ck.drawn (by kernel_rfl) ?_ | refine Ck.mk rfl ?_) | (refine LetL.pre ?_; first | refine LetL.mk (ty := aty) _ (renL_none (pure_ac _)).symm ?_ | refine LetL.mk (ty := aty) _ happ ?_) | (refine CallN.pre ?_; first | refine CallN.pure sanity_f rfl rfl ?_ | refine CallN.own (fun _ => 1) hM (CallOk.mk' rfl rfl rfl rfl rfl (namesAll.row (pure_ac _) rfl) trivial) ?_ | refine CallN.pure hO rfl rfl ?_)))); (try (conv => whnf)))











  refine LoopN.weak (s1 := ordO (l ++ [o]) 0) ?sw1 ?_
  case sw1 => exact SW.mk (fun _ => 2) rfl rfl (acs_names _ _ _ rfl) ⟨.refl _, VLe2.slm_of hlen, VLe2.slm_of hlen, VLe2.int (by rw [hlen]; rfl), .refl _, trivial⟩ (haveV.row (pure_ac _) rfl trivial)
  have hlen2 : (l ++ [o]).length ≤ 9 := by omega
  clear happ hO hM hm1 hm2 hld hka hok hr hkk hwk hnz hn hub hlen ho
  generalize l ++ [o] = all at hall hlen2 ⊢
  clear hk
  have hma : (all.map acA).length = all.length := List.length_map _
  refine LoopN.ind T_ok mixed (S := ordO all) (fun k => all.length - k) (fun k => k ≤ all.length) (fun _ => rfl) (fun k hk ih => ?_) 0 (Nat.zero_le _)
  by_cases hlt : k < all.length
  case neg =>
    clear ih
    ((repeat ((conv => whnf); (first | (refine As.pre ?_; first | refine As.mk rfl ?_) | (refine LetB.pre ?_; first | refine LetB.decf (by omega) ?_) | (refine Br.pre ?_; first | refine Br.ff rfl ?_) | (refine Ck.pre ?_; first | refine Ck.mk rfl ?_)))); (try (conv => whnf)))
    exact ⟨.inl rfl, ⟨_, rfl, rfl⟩, trivial⟩
  have hld := row_ac hlt
  have ha := hall _ (getD_mem hlt)
  generalize all.getD k ac0 = a at hld ha
  ((repeat ((conv => whnf); (first | (refine LetN.pre ?_; first | ((conv => arg 1; whnf); refine LetN.mk ?_)) | (refine As.pre ?_; first | refine As.mk rfl ?_ | (refine As.mk ?_ ?_; · ((repeat' (refine andT ?_ ?_)) <;> (first | rfl | assumption | exact decide_eq_true (by omega) | exact decide_eq_true (by dsimp only; omega) | exact decide_eq_true (by simp; omega) | (simp; done))))) | (refine LetV.pre ?_; first | refine LetV.mk (t := aty) _ hld ?_) | (refine LetI.pre ?_; first | refine LetI.mk _ rfl ?_) | (refine LetB.pre ?_; first | refine LetB.dect (by omega) ?_) | (refine Br.pre ?_; first | refine Br.tt rfl ?_) | (refine Ck.pre ?_; first | refine Ck.mk rfl ?_) | (refine LetL.pre ?_; first | refine LetL.mk [_] rfl ?_)))); (try (conv => whnf)))
  refine LoopN.weak (s1 := ordI all k a 0) ?sw2 ?_
  case sw2 => exact SW.mk id rfl rfl (acs_names _ _ _ rfl) ⟨.refl _, .refl _, .refl _, .refl _, .refl _, .refl _, .refl _, .refl _, .refl _, trivial⟩ (haveV.row (pure_ac _) rfl (haveV.row rfl rfl trivial))
  clear hld
  refine LoopN.ind T_ok mixed (S := ordI all k a) (fun j => all.length - j) (fun j => j ≤ all.length) (fun _ => rfl) (fun j hj ihj => ?_) 0 (Nat.zero_le _)
  by_cases hlj : j < all.length
  case neg =>
    clear ihj
    ((repeat ((conv => whnf); (first | (refine As.pre ?_; first | refine As.mk rfl ?_) | (refine LetI.pre ?_; first | refine LetI.wrap (by omega) (by omega) ?_) | (refine LetB.pre ?_; first | refine LetB.decf (by omega) ?_) | (refine Br.pre ?_; first | refine Br.ff rfl ?_) | (refine Ck.pre ?_; first | refine Ck.mk rfl ?_)))); (try (conv => whnf)))
    refine LoopN.weak ?sw4 (ih (k + 1) (by omega) (by omega))
    case sw4 => exact SW.mk id rfl rfl (acs_names _ _ _ rfl) ⟨.refl _, .refl _, .refl _, .refl _, VLe2.int (by omega), trivial⟩ (haveV.row (pure_ac _) rfl trivial)
  clear ih
  have hld := row_ac hlj
  have hb := hall _ (getD_mem hlj)
  generalize all.getD j ac0 = b at hld hb
  have h1 := LessA_f a b ha hb
  have h2 := LessA_f b a hb ha
  have h3 := SameA_f a b ha hb
  have hneg := P3.cmpA.neg a b
  have htr := P3.cmpA.tr a b
  have hxy : ∃ x y s : Bool, decide (cmpA a b < 0) = x ∧ decide (cmpA b a < 0) = y ∧ decide (cmpA a b = 0) = s ∧ (x = true ∧ y = false ∧ s = false ∨ x = false ∧ y = false ∧ s = true ∨ x = false ∧ y = true ∧ s = false) := by
    refine ⟨_, _, _, rfl, rfl, rfl, ?_⟩
    rw [hneg]
    have : cmpA a b < 0 ∨ cmpA a b = 0 ∨ 0 < cmpA a b := by omega
    rcases this with h | h | h
    · exact .inl ⟨decide_eq_true h, decide_eq_false (by omega), decide_eq_false (by omega)⟩
    · exact .inr (.inl ⟨decide_eq_false (by omega), decide_eq_false (by omega), decide_eq_true h⟩)
    · exact .inr (.inr ⟨decide_eq_false (by omega), decide_eq_true (by omega), decide_eq_false (by omega)⟩)
  obtain ⟨x, y, s, hx, hy, hs, hxy⟩ := hxy
  rw [hx] at h1
  rw [hy] at h2
  rw [hs] at h3
  have hz : ∀ z : Ac, x = true → cmpA b z < 0 → cmpA a z < 0 := fun z hxt h => by
    rw [hxt] at hx
    have h5 := of_decide_eq_true hx
    have h6 := htr z (by omega) (by omega)
    omega
  clear hx hy hs hneg htr
  rcases hxy with ⟨rfl, rfl, rfl⟩ | ⟨rfl, rfl, rfl⟩ | ⟨rfl, rfl, rfl⟩
  · ((repeat ((conv => whnf); (first | (refine LetN.pre ?_; first | ((conv => arg 1; whnf); refine LetN.mk ?_)) | (refine As.pre ?_; first | refine As.mk rfl ?_ | (refine As.mk ?_ ?_; · ((repeat' (refine andT ?_ ?_)) <;> (first | rfl | assumption | exact decide_eq_true (by omega) | exact decide_eq_true (by dsimp only; omega) | exact decide_eq_true (by simp; omega) | (simp; done))))) | (refine LetV.pre ?_; first | refine LetV.mk (t := aty) _ hld ?_ | refine LetV.mk (.agg _) rfl ?_) | (refine LetI.pre ?_; first | refine LetI.mk _ rfl ?_) | (refine LetB.pre ?_; first | refine LetB.ff rfl ?_ | refine LetB.dect (by omega) ?_) | (refine Gd.pre ?_; first | refine Gd.run rfl ?_ | refine Gd.pass rfl ?_) | (refine Br.pre ?_; first | refine Br.tt rfl ?_ | refine Br.ff rfl ?_) | (refine Ck.pre ?_; first | refine Ck.drawn (by kernel_rfl) ?_ | refine Ck.mk rfl ?_) | (refine LetL.pre ?_; first | refine LetL.mk [_] rfl ?_) | (refine CallN.pre ?_; first | refine CallN.pure h1 rfl rfl ?_ | refine CallN.pure h2 rfl rfl ?_ | refine CallN.pure h3 rfl rfl ?_)))); (try (conv => whnf)))




    refine LoopN.weak (s1 := ordZ all k a j b true false 0) ?sw5a ?_
    case sw5a => exact SW.mk id rfl rfl (acs_names _ _ _ rfl) ⟨.refl _, .refl _, .refl _, .refl _, .refl _, .refl _, .refl _, .refl _, .refl _, .refl _, .refl _, .refl _, .refl _, .refl _, .refl _, trivial⟩ (haveV.row (pure_ac _) rfl (haveV.row rfl rfl (haveV.row rfl rfl trivial)))
    clear h1 h2 h3 hld
    refine LoopN.ind T_ok mixed (S := ordZ all k a j b true false) (fun i => all.length - i) (fun i => i ≤ all.length) (fun _ => rfl) (fun i hi ihi => ?_) 0 (Nat.zero_le _)
    by_cases hli : i < all.length
    case neg =>
      clear ihi
      ((repeat ((conv => whnf); (first | (refine As.pre ?_; first | refine As.mk rfl ?_) | (refine LetI.pre ?_; first | refine LetI.wrap (by omega) (by omega) ?_) | (refine LetB.pre ?_; first | refine LetB.decf (by omega) ?_) | (refine Br.pre ?_; first | refine Br.ff rfl ?_) | (refine Ck.pre ?_; first | refine Ck.mk rfl ?_)))); (try (conv => whnf)))
      refine LoopN.weak ?sw6a (ihj (j + 1) (by omega) (by omega))
      case sw6a => exact SW.mk id rfl rfl (acs_names _ _ _ rfl) ⟨.refl _, .refl _, .refl _, .refl _, .refl _, .refl _, .refl _, .refl _, VLe2.int (by omega), trivial⟩ (haveV.row (pure_ac _) rfl (haveV.row rfl rfl trivial))
    clear ihj
    have hld := row_ac hli
    have hzz := hall _ (getD_mem hli)
    generalize all.getD i ac0 = z at hld hzz
    have sw7 := ihi (i + 1) (by omega) (by omega)
    clear ihi
    have h1 := LessA_f b z hb hzz
    have h2 := LessA_f a z ha hzz
    have hz := hz z rfl
    by_cases hu : cmpA b z < 0
    · rw [decide_eq_true hu] at h1
      rw [decide_eq_true (hz hu)] at h2
      ((repeat ((conv => whnf); (first | (refine LetN.pre ?_; first | ((conv => arg 1; whnf); refine LetN.mk ?_)) | (refine As.pre ?_; first | refine As.mk rfl ?_ | (refine As.mk ?_ ?_; · ((repeat' (refine andT ?_ ?_)) <;> (first | rfl | assumption | exact decide_eq_true (by omega) | exact decide_eq_true (by dsimp only; omega) | exact decide_eq_true (by simp; omega) | (simp; done))))) | (refine LetV.pre ?_; first | refine LetV.mk (t := aty) _ hld ?_ | refine LetV.mk (.agg _) rfl ?_) | (refine LetI.pre ?_; first | refine LetI.wrap (by omega) (by omega) ?_) | (refine LetB.pre ?_; first | refine LetB.dect (by omega) ?_) | (refine Gd.pre ?_; first | refine Gd.run rfl ?_) | (refine Br.pre ?_; first | refine Br.tt rfl ?_ | refine Br.ff rfl ?_) | (refine Ck.pre ?_; first | refine Ck.mk rfl ?_) | (refine LetL.pre ?_; first | refine LetL.mk [_] rfl ?_) | (refine CallN.pre ?_; first | refine CallN.pure h1 rfl rfl ?_ | refine CallN.pure h2 rfl rfl ?_)))); (try (conv => whnf)))
      refine LoopN.weak ?sw7a sw7
      case sw7a => exact SW.mk id rfl rfl (acs_names _ _ _ rfl) ⟨.refl _, .refl _, .refl _, .refl _, .refl _, .refl _, .refl _, .refl _, .refl _, .refl _, .refl _, .refl _, .refl _, .refl _, VLe2.int (by omega), trivial⟩ (haveV.row (pure_ac _) rfl (haveV.row rfl rfl (haveV.row rfl rfl trivial)))
    · rw [decide_eq_false hu] at h1
      ((repeat ((conv => whnf); (first | (refine LetN.pre ?_; first | ((conv => arg 1; whnf); refine LetN.mk ?_)) | (refine As.pre ?_; first | refine As.mk rfl ?_ | (refine As.mk ?_ ?_; · ((repeat' (refine andT ?_ ?_)) <;> (first | rfl | assumption | exact decide_eq_true (by omega) | exact decide_eq_true (by dsimp only; omega) | exact decide_eq_true (by simp; omega) | (simp; done))))) | (refine LetV.pre ?_; first | refine LetV.mk (t := aty) _ hld ?_ | refine LetV.mk (.agg _) rfl ?_) | (refine LetI.pre ?_; first | refine LetI.wrap (by omega) (by omega) ?_) | (refine LetB.pre ?_; first | refine LetB.dect (by omega) ?_) | (refine Gd.pre ?_; first | refine Gd.run rfl ?_ | refine Gd.pass rfl ?_) | (refine Br.pre ?_; first | refine Br.tt rfl ?_ | refine Br.ff rfl ?_) | (refine Ck.pre ?_; first | refine Ck.mk rfl ?_) | (refine LetL.pre ?_; first | refine LetL.mk [_] rfl ?_) | (refine CallN.pre ?_; first | refine CallN.pure h1 rfl rfl ?_)))); (try (conv => whnf)))
      refine LoopN.weak ?sw8a sw7
      case sw8a => exact SW.mk id rfl rfl (acs_names _ _ _ rfl) ⟨.refl _, .refl _, .refl _, .refl _, .refl _, .refl _, .refl _, .refl _, .refl _, .refl _, .refl _, .refl _, .refl _, .refl _, VLe2.int (by omega), trivial⟩ (haveV.row (pure_ac _) rfl (haveV.row rfl rfl (haveV.row rfl rfl trivial)))
  · ((repeat ((conv => whnf); (first | (refine LetN.pre ?_; first | ((conv => arg 1; whnf); refine LetN.mk ?_)) | (refine As.pre ?_; first | refine As.mk rfl ?_ | (refine As.mk ?_ ?_; · ((repeat' (refine andT ?_ ?_)) <;> (first | rfl | assumption | exact decide_eq_true (by omega) | exact decide_eq_true (by dsimp only; omega) | exact decide_eq_true (by simp; omega) | (simp; done))))) | (refine LetV.pre ?_; first | refine LetV.mk (t := aty) _ hld ?_ | refine LetV.mk (.agg _) rfl ?_) | (refine LetI.pre ?_; first | refine LetI.mk _ rfl ?_) | (refine LetB.pre ?_; first | refine LetB.ff rfl ?_ | refine LetB.dect (by omega) ?_) | (refine Gd.pre ?_; first | refine Gd.run rfl ?_ | refine Gd.pass rfl ?_) | (refine Br.pre ?_; first | refine Br.tt rfl ?_ | refine Br.ff rfl ?_) | (refine Ck.pre ?_; first | refine Ck.drawn (by kernel_rfl) ?_ | refine Ck.mk rfl ?_) | (refine LetL.pre ?_; first | refine LetL.mk [_] rfl ?_) | (refine CallN.pre ?_; first | refine CallN.pure h1 rfl rfl ?_ | refine CallN.pure h2 rfl rfl ?_ | refine CallN.pure h3 rfl rfl ?_)))); (try (conv => whnf)))




    refine LoopN.weak (s1 := ordZ all k a j b false false 0) ?sw5b ?_
    case sw5b => exact SW.mk id rfl rfl (acs_names _ _ _ rfl) ⟨.refl _, .refl _, .refl _, .refl _, .refl _, .refl _, .refl _, .refl _, .refl _, .refl _, .refl _, .refl _, .refl _, .refl _, .refl _, trivial⟩ (haveV.row (pure_ac _) rfl (haveV.row rfl rfl (haveV.row rfl rfl trivial)))
    clear h1 h2 h3 hld
    refine LoopN.ind T_ok mixed (S := ordZ all k a j b false false) (fun i => all.length - i) (fun i => i ≤ all.length) (fun _ => rfl) (fun i hi ihi => ?_) 0 (Nat.zero_le _)
    by_cases hli : i < all.length
    case neg =>
      clear ihi
      ((repeat ((conv => whnf); (first | (refine As.pre ?_; first | refine As.mk rfl ?_) | (refine LetI.pre ?_; first | refine LetI.wrap (by omega) (by omega) ?_) | (refine LetB.pre ?_; first | refine LetB.decf (by omega) ?_) | (refine Br.pre ?_; first | refine Br.ff rfl ?_) | (refine Ck.pre ?_; first | refine Ck.mk rfl ?_)))); (try (conv => whnf)))
      refine LoopN.weak ?sw6b (ihj (j + 1) (by omega) (by omega))
      case sw6b => exact SW.mk id rfl rfl (acs_names _ _ _ rfl) ⟨.refl _, .refl _, .refl _, .refl _, .refl _, .refl _, .refl _, .refl _, VLe2.int (by omega), trivial⟩ (haveV.row (pure_ac _) rfl (haveV.row rfl rfl trivial))
    clear ihj
    have hld := row_ac hli
    have hzz := hall _ (getD_mem hli)
    generalize all.getD i ac0 = z at hld hzz
    have sw7 := ihi (i + 1) (by omega) (by omega)
    clear ihi
    ((repeat ((conv => whnf); (first | (refine LetN.pre ?_; first | ((conv => arg 1; whnf); refine LetN.mk ?_)) | (refine As.pre ?_; first | refine As.mk rfl ?_ | (refine As.mk ?_ ?_; · ((repeat' (refine andT ?_ ?_)) <;> (first | rfl | assumption | exact decide_eq_true (by omega) | exact decide_eq_true (by dsimp only; omega) | exact decide_eq_true (by simp; omega) | (simp; done))))) | (refine LetV.pre ?_; first | refine LetV.mk (t := aty) _ hld ?_) | (refine LetI.pre ?_; first | refine LetI.wrap (by omega) (by omega) ?_) | (refine LetB.pre ?_; first | refine LetB.dect (by omega) ?_) | (refine Gd.pre ?_; first | refine Gd.pass rfl ?_) | (refine Br.pre ?_; first | refine Br.tt rfl ?_ | refine Br.ff rfl ?_) | (refine Ck.pre ?_; first | refine Ck.mk rfl ?_) | (refine LetL.pre ?_; first | refine LetL.mk [_] rfl ?_)))); (try (conv => whnf)))
    refine LoopN.weak ?sw7b sw7
    case sw7b => exact SW.mk id rfl rfl (acs_names _ _ _ rfl) ⟨.refl _, .refl _, .refl _, .refl _, .refl _, .refl _, .refl _, .refl _, .refl _, .refl _, .refl _, .refl _, .refl _, .refl _, VLe2.int (by omega), trivial⟩ (haveV.row (pure_ac _) rfl (haveV.row rfl rfl (haveV.row rfl rfl trivial)))
  · ((repeat ((conv => whnf); (first | (refine LetN.pre ?_; first | ((conv => arg 1; whnf); refine LetN.mk ?_)) | (refine As.pre ?_; first | refine As.mk rfl ?_ | (refine As.mk ?_ ?_; · ((repeat' (refine andT ?_ ?_)) <;> (first | rfl | assumption | exact decide_eq_true (by omega) | exact decide_eq_true (by dsimp only; omega) | exact decide_eq_true (by simp; omega) | (simp; done))))) | (refine LetV.pre ?_; first | refine LetV.mk (t := aty) _ hld ?_ | refine LetV.mk (.agg _) rfl ?_) | (refine LetI.pre ?_; first | refine LetI.mk _ rfl ?_) | (refine LetB.pre ?_; first | refine LetB.ff rfl ?_ | refine LetB.dect (by omega) ?_) | (refine Gd.pre ?_; first | refine Gd.run rfl ?_ | refine Gd.pass rfl ?_) | (refine Br.pre ?_; first | refine Br.tt rfl ?_ | refine Br.ff rfl ?_) | (refine Ck.pre ?_; first | refine Ck.drawn (by kernel_rfl) ?_ | refine Ck.mk rfl ?_) | (refine LetL.pre ?_; first | refine LetL.mk [_] rfl ?_) | (refine CallN.pre ?_; first | refine CallN.pure h1 rfl rfl ?_ | refine CallN.pure h2 rfl rfl ?_ | refine CallN.pure h3 rfl rfl ?_)))); (try (conv => whnf)))




    refine LoopN.weak (s1 := ordZ all k a j b false true 0) ?sw5c ?_
    case sw5c => exact SW.mk id rfl rfl (acs_names _ _ _ rfl) ⟨.refl _, .refl _, .refl _, .refl _, .refl _, .refl _, .refl _, .refl _, .refl _, .refl _, .refl _, .refl _, .refl _, .refl _, .refl _, trivial⟩ (haveV.row (pure_ac _) rfl (haveV.row rfl rfl (haveV.row rfl rfl trivial)))
    clear h1 h2 h3 hld
    refine LoopN.ind T_ok mixed (S := ordZ all k a j b false true) (fun i => all.length - i) (fun i => i ≤ all.length) (fun _ => rfl) (fun i hi ihi => ?_) 0 (Nat.zero_le _)
    by_cases hli : i < all.length
    case neg =>
      clear ihi
      ((repeat ((conv => whnf); (first | (refine As.pre ?_; first | refine As.mk rfl ?_) | (refine LetI.pre ?_; first | refine LetI.wrap (by omega) (by omega) ?_) | (refine LetB.pre ?_; first | refine LetB.decf (by omega) ?_) | (refine Br.pre ?_; first | refine Br.ff rfl ?_) | (refine Ck.pre ?_; first | refine Ck.mk rfl ?_)))); (try (conv => whnf)))
      refine LoopN.weak ?sw6c (ihj (j + 1) (by omega) (by omega))
      case sw6c => exact SW.mk id rfl rfl (acs_names _ _ _ rfl) ⟨.refl _, .refl _, .refl _, .refl _, .refl _, .refl _, .refl _, .refl _, VLe2.int (by omega), trivial⟩ (haveV.row (pure_ac _) rfl (haveV.row rfl rfl trivial))
    clear ihj
    have hld := row_ac hli
    have hzz := hall _ (getD_mem hli)
    generalize all.getD i ac0 = z at hld hzz
    have sw7 := ihi (i + 1) (by omega) (by omega)
    clear ihi
    ((repeat ((conv => whnf); (first | (refine LetN.pre ?_; first | ((conv => arg 1; whnf); refine LetN.mk ?_)) | (refine As.pre ?_; first | refine As.mk rfl ?_ | (refine As.mk ?_ ?_; · ((repeat' (refine andT ?_ ?_)) <;> (first | rfl | assumption | exact decide_eq_true (by omega) | exact decide_eq_true (by dsimp only; omega) | exact decide_eq_true (by simp; omega) | (simp; done))))) | (refine LetV.pre ?_; first | refine LetV.mk (t := aty) _ hld ?_) | (refine LetI.pre ?_; first | refine LetI.wrap (by omega) (by omega) ?_) | (refine LetB.pre ?_; first | refine LetB.dect (by omega) ?_) | (refine Gd.pre ?_; first | refine Gd.pass rfl ?_) | (refine Br.pre ?_; first | refine Br.tt rfl ?_ | refine Br.ff rfl ?_) | (refine Ck.pre ?_; first | refine Ck.mk rfl ?_) | (refine LetL.pre ?_; first | refine LetL.mk [_] rfl ?_)))); (try (conv => whnf)))
    refine LoopN.weak ?sw7c sw7
    case sw7c => exact SW.mk id rfl rfl (acs_names _ _ _ rfl) ⟨.refl _, .refl _, .refl _, .refl _, .refl _, .refl _, .refl _, .refl _, .refl _, .refl _, .refl _, .refl _, .refl _, .refl _, VLe2.int (by omega), trivial⟩ (haveV.row (pure_ac _) rfl (haveV.row rfl rfl (haveV.row rfl rfl trivial)))
theorem eorder_row (x : List (List Int)) (hL : x.length ≤ 9223372036854775807) (hxs : ∀ l ∈ x, l.length ≤ 9223372036854775807) (q : Int × Int × Int) : AFun Try.prog 8 0 [.ro {} 1 (x.map fun l => .ro {} 1 (l.map int)), .agg [int q.1, int q.2.1, int q.2.2]] [] (bool true) [] := by
  have h := eorder (x.map fun l => (({} : Fl), l)) {} (by rw [List.length_map]; exact hL) (fun y hy => by
    obtain ⟨l, hl, rfl⟩ := List.mem_map.1 hy
    exact hxs l hl) q
  rw [List.map_map] at h
  exact h
end En
end Go.Proofs.Ytiefcppgbnfbfaa
