/- appealZD: parts of the proof, DappealZDTM DappealZDTN DappealZDSA DappealZDJF DappealZDTO DappealZDUS DappealZDUT. -/
import Derived.Test.YtgnakhljdjekbaaGreatDoorL48
import Derived.Test.YtgnakhljdjekbaaGreatDoorL47
import Derived.Test.YtgnakhljdjekbaaGreatDoorL35
import Derived.Test.YtgnakhljdjekbaaGreatDoorAmFZ
import Derived.Test.YtgnakhljdjekbaaGreatDoorAmAL
import Derived.Test.YtgnakhljdjekbaaGreatDoorAmSH
set_option linter.all false
namespace Go.Proofs.YtgnakhljdjekbaaGreatDoor
open Go.Proofs.YtgnakhljdjekbaaGreatDoor.Am
set_option maxRecDepth 100000
namespace En
/-! ### Whether an entry may come -/
noncomputable def mayP (l : List E) (e : E) : Int :=
  if chkE l ≠ 0 then chkE l else if chkE (l ++ [e]) ≠ 0 then chkE (l ++ [e]) else
    if (e.kind = 6 ∨ e.kind = 9) ∧ l.any (fun x => decide (x.kind = e.kind ∧ x.ref = e.ref)) = true then 6 else 0
theorem may1_f (x e : E) : AFun Tryz.prog 41 0 [en x, .rp (en e) 0] [] (bool (decide (x.kind = e.kind ∧ x.ref = e.ref))) [] := by
  refine AFun.of_W T_ok mixed Tryz.func41 rfl (Nat.le_of_ble_eq_true rfl) rfl ?_
  by_cases h1 : x.kind = e.kind <;> by_cases h2 : x.ref = e.ref
  · rw [decide_eq_true ⟨h1, h2⟩]
    ((repeat ((conv => whnf); (first | (refine LetN.pre ?_; first | ((conv => arg 1; whnf); refine LetN.mk ?_)) | (refine As.pre ?_; first | refine As.mk rfl ?_) | (refine LetV.pre ?_; first | refine LetV.mk (.sc (.int _ _)) rfl ?_) | (refine LetB.pre ?_; first | refine LetB.dect (by omega) ?_) | (refine Gd.pre ?_; first | refine Gd.run rfl ?_) | (refine Ck.pre ?_; first | refine Ck.mk rfl ?_)))); (try (conv => whnf)))
    exact ⟨.inl rfl, ⟨_, rfl, rfl⟩, trivial⟩
  · rw [decide_eq_false (fun h => h2 h.2)]
    ((repeat ((conv => whnf); (first | (refine LetN.pre ?_; first | ((conv => arg 1; whnf); refine LetN.mk ?_)) | (refine As.pre ?_; first | refine As.mk rfl ?_) | (refine LetV.pre ?_; first | refine LetV.mk (.sc (.int _ _)) rfl ?_) | (refine LetB.pre ?_; first | refine LetB.dect (by omega) ?_ | refine LetB.decf (by omega) ?_) | (refine Gd.pre ?_; first | refine Gd.run rfl ?_) | (refine Ck.pre ?_; first | refine Ck.mk rfl ?_)))); (try (conv => whnf)))
    exact ⟨.inl rfl, ⟨_, rfl, rfl⟩, trivial⟩
  · rw [decide_eq_false (fun h => h1 h.1)]
    ((repeat ((conv => whnf); (first | (refine LetN.pre ?_; first | ((conv => arg 1; whnf); refine LetN.mk ?_)) | (refine As.pre ?_; first | refine As.mk rfl ?_) | (refine LetV.pre ?_; first | refine LetV.mk (.sc (.int _ _)) rfl ?_) | (refine LetB.pre ?_; first | refine LetB.decf (by omega) ?_) | (refine Gd.pre ?_; first | refine Gd.pass rfl ?_) | (refine Ck.pre ?_; first | refine Ck.mk rfl ?_)))); (try (conv => whnf)))
    exact ⟨.inl rfl, ⟨_, rfl, rfl⟩, trivial⟩
  · rw [decide_eq_false (fun h => h1 h.1)]
    ((repeat ((conv => whnf); (first | (refine LetN.pre ?_; first | ((conv => arg 1; whnf); refine LetN.mk ?_)) | (refine As.pre ?_; first | refine As.mk rfl ?_) | (refine LetV.pre ?_; first | refine LetV.mk (.sc (.int _ _)) rfl ?_) | (refine LetB.pre ?_; first | refine LetB.decf (by omega) ?_) | (refine Gd.pre ?_; first | refine Gd.pass rfl ?_) | (refine Ck.pre ?_; first | refine Ck.mk rfl ?_)))); (try (conv => whnf)))
    exact ⟨.inl rfl, ⟨_, rfl, rfl⟩, trivial⟩
abbrev cMay (e : E) : Cd := ⟨41, [.rp (en e) 0], fun x => decide (x.kind = e.kind ∧ x.ref = e.ref)⟩
theorem cMay_ok (e : E) : (cMay e).Ok := ⟨fun x => may1_f x e, by kernel_rfl, rfl⟩
theorem ClipE_f (l : List E) (fl : Fl) (hl : l.length ≤ 100000) : AFun Tryz.prog 39 0 [.ro fl 15 (l.map en)] [] (.ro ⟨true, fl.nn⟩ 15 (l.map en)) [] := by
  have hm : (l.map en).length = l.length := List.length_map _
  refine AFun.of_S T_ok mixed Tryz.func39 rfl (Nat.le_of_ble_eq_true rfl) rfl ?_
  have ht : l.map en = ((l.map en).drop 0).take ((l.map en).length - 0) := by rw [List.drop_zero, Nat.sub_zero, List.take_length]
  ((repeat ((conv => whnf); (first | (refine As.pre ?_; first | refine As.mk rfl ?_ | (refine As.mk ?_ ?_; · ((repeat' (refine andT ?_ ?_)) <;> (first | rfl | assumption | exact decide_eq_true (by omega) | exact decide_eq_true (by dsimp only; omega) | exact decide_eq_true (by simp; omega) | (simp; done))))) | (refine LetV.pre ?_; first | refine LetV.mk (.ro _ _ _) rfl ?_) | (refine LetI.pre ?_; first | refine LetI.mk _ rfl ?_) | (refine Ck.pre ?_; first | refine Ck.mk rfl ?_)))); (try (conv => whnf)))
  exact ⟨⟨[(2, .ro ⟨true, fl.nn⟩ 15 (l.map en))], [], 0⟩, SW.mk id rfl rfl rfl ⟨.of_eq (congrArg (AV.ro ⟨true, fl.nn⟩ 15) ht), trivial⟩ trivial, .inl rfl, ⟨_, rfl, rfl⟩, trivial⟩
theorem app_en2 (l : List E) (e : E) : (l ++ [e]).map en = l.map en ++ [en e] := by rw [List.map_append]; rfl
set_option maxHeartbeats 1600000 in
set_option maxRecDepth 100000 in
theorem May_f (l : List E) (e : E) (fl : Fl) (hl : l.length ≤ 1000) : AFun Tryz.prog 22 0 [.ro fl 15 (l.map en), en e] [] (int (mayP l e)) [] := by
  refine AFun.of_W T_ok mixed Tryz.func22 rfl (Nat.le_of_ble_eq_true rfl) rfl ?_
  have hm : (l.map en).length = l.length := List.length_map _
  have hC := Check_l l fl
  have hP := ClipE_f l fl (by omega)
  have hD := fun fl' => Check_l (l ++ [e]) fl'
  have hE := ContainsE_f (cMay_ok e) l fl (by omega)
  have hs := stor_en l
  have r1 := room_en (n := l.length + 1) (by omega)
  have a1 := app_en2 l e
  have n1 := pure_en (l ++ [e])
  have m1 : (l.map en).length + 1 = ((l ++ [e]).map en).length := by simp
  unfold mayP
  generalize chkE l = c at hC ⊢
  by_cases hc : c = 0
  case neg =>
    rw [if_pos hc]
    ((repeat ((conv => whnf); (first | (refine LetN.pre ?_; first | ((conv => arg 1; whnf); refine LetN.mk ?_)) | (refine As.pre ?_; first | refine As.mk rfl ?_) | (refine LetB.pre ?_; first | refine LetB.bnet (by omega) ?_) | (refine Br.pre ?_; first | refine Br.tt rfl ?_) | (refine Ck.pre ?_; first | refine Ck.mk rfl ?_) | (refine CallN.pre ?_; first | refine CallN.pure hC rfl rfl ?_)))); (try (conv => whnf)))
    exact ⟨.inl rfl, ⟨_, rfl, rfl⟩, trivial⟩
  subst hc
  rw [if_neg (fun h => h rfl)]
  generalize chkE (l ++ [e]) = d at hD ⊢
  by_cases hd : d = 0
  case neg =>
    rw [if_pos hd]
    ((repeat ((conv => whnf); (first | (refine LetN.pre ?_; first | ((conv => arg 1; whnf); refine LetN.mk ?_)) | (refine As.pre ?_; first | refine As.mk rfl ?_ | (refine As.mk ?_ ?_; · ((repeat' (refine andT ?_ ?_)) <;> (first | rfl | assumption | exact decide_eq_true (by omega) | exact decide_eq_true (by dsimp only; omega) | exact decide_eq_true (by simp; omega) | (simp; done))))) | (refine LetV.pre ?_; first | refine LetV.mk (.agg _) rfl ?_) | (refine LetB.pre ?_; first | refine LetB.ff rfl ?_ | refine LetB.bnet (by omega) ?_) | (refine Br.pre ?_; first | refine Br.tt rfl ?_ | refine Br.ff rfl ?_) | (refine Ck.pre ?_; first | refine Ck.drawn (by kernel_rfl) ?_ | refine Ck.mk rfl ?_) | (refine LetL.pre ?_; first | refine LetL.mk (ty := 25) _ a1 ?_) | (refine CallN.pre ?_; first | refine CallN.pure hC rfl rfl ?_ | refine CallN.pure hP rfl rfl ?_ | refine CallN.lend (hD _) rfl (.full rfl n1 m1 .nil) ?_)))); (try (conv => whnf)))





    exact ⟨.inl rfl, ⟨_, rfl, rfl⟩, trivial⟩
  subst hd
  rw [if_neg (fun h => h rfl)]
  have hp : (cMay e).p = fun x => decide (x.kind = e.kind ∧ x.ref = e.ref) := rfl
  rw [hp] at hE
  generalize l.any (fun x => decide (x.kind = e.kind ∧ x.ref = e.ref)) = b at hE ⊢
  by_cases h6 : e.kind = 6
  · cases b with
    | true =>
      rw [if_pos ⟨.inl h6, rfl⟩]
      ((repeat ((conv => whnf); (first | (refine LetN.pre ?_; first | ((conv => arg 1; whnf); refine LetN.mk ?_)) | (refine As.pre ?_; first | refine As.mk rfl ?_ | (refine As.mk ?_ ?_; · ((repeat' (refine andT ?_ ?_)) <;> (first | rfl | assumption | exact decide_eq_true (by omega) | exact decide_eq_true (by dsimp only; omega) | exact decide_eq_true (by simp; omega) | (simp; done))))) | (refine LetV.pre ?_; first | refine LetV.mk (.sc (.int _ _)) rfl ?_ | refine LetV.mk (.agg _) rfl ?_) | (refine LetB.pre ?_; first | refine LetB.ff rfl ?_ | refine LetB.dect (by omega) ?_) | (refine Gd.pre ?_; first | refine Gd.run rfl ?_ | refine Gd.pass rfl ?_) | (refine Br.pre ?_; first | refine Br.tt rfl ?_ | refine Br.ff rfl ?_) | (refine Ck.pre ?_; first | refine Ck.drawn (by kernel_rfl) ?_ | refine Ck.mk rfl ?_) | (refine LetL.pre ?_; first | refine LetL.mk (ty := 25) _ a1 ?_) | (refine CallN.pre ?_; first | refine CallN.pure hC rfl rfl ?_ | refine CallN.pure hP rfl rfl ?_ | refine CallN.lend (hD _) rfl (.full rfl n1 m1 .nil) ?_ | refine CallN.lend hE rfl (.same rfl (.clo (.ptr rfl rfl rfl .nil) .nil)) ?_)))); (try (conv => whnf)))





      exact ⟨.inl rfl, ⟨_, rfl, rfl⟩, trivial⟩
    | false =>
      rw [if_neg (fun h => by cases h.2)]
      ((repeat ((conv => whnf); (first | (refine LetN.pre ?_; first | ((conv => arg 1; whnf); refine LetN.mk ?_)) | (refine As.pre ?_; first | refine As.mk rfl ?_ | (refine As.mk ?_ ?_; · ((repeat' (refine andT ?_ ?_)) <;> (first | rfl | assumption | exact decide_eq_true (by omega) | exact decide_eq_true (by dsimp only; omega) | exact decide_eq_true (by simp; omega) | (simp; done))))) | (refine LetV.pre ?_; first | refine LetV.mk (.sc (.int _ _)) rfl ?_ | refine LetV.mk (.agg _) rfl ?_) | (refine LetB.pre ?_; first | refine LetB.ff rfl ?_ | refine LetB.dect (by omega) ?_) | (refine Gd.pre ?_; first | refine Gd.run rfl ?_ | refine Gd.pass rfl ?_) | (refine Br.pre ?_; first | refine Br.ff rfl ?_) | (refine Ck.pre ?_; first | refine Ck.drawn (by kernel_rfl) ?_ | refine Ck.mk rfl ?_) | (refine LetL.pre ?_; first | refine LetL.mk (ty := 25) _ a1 ?_) | (refine CallN.pre ?_; first | refine CallN.pure hC rfl rfl ?_ | refine CallN.pure hP rfl rfl ?_ | refine CallN.lend (hD _) rfl (.full rfl n1 m1 .nil) ?_ | refine CallN.lend hE rfl (.same rfl (.clo (.ptr rfl rfl rfl .nil) .nil)) ?_)))); (try (conv => whnf)))





      exact ⟨.inl rfl, ⟨_, rfl, rfl⟩, trivial⟩
  by_cases h9 : e.kind = 9
  · cases b with
    | true =>
      rw [if_pos ⟨.inr h9, rfl⟩]
      ((repeat ((conv => whnf); (first | (refine LetN.pre ?_; first | ((conv => arg 1; whnf); refine LetN.mk ?_)) | (refine As.pre ?_; first | refine As.mk rfl ?_ | (refine As.mk ?_ ?_; · ((repeat' (refine andT ?_ ?_)) <;> (first | rfl | assumption | exact decide_eq_true (by omega) | exact decide_eq_true (by dsimp only; omega) | exact decide_eq_true (by simp; omega) | (simp; done))))) | (refine LetV.pre ?_; first | refine LetV.mk (.sc (.int _ _)) rfl ?_ | refine LetV.mk (.agg _) rfl ?_) | (refine LetB.pre ?_; first | refine LetB.ff rfl ?_ | refine LetB.dect (by omega) ?_ | refine LetB.decf (by omega) ?_) | (refine Gd.pre ?_; first | refine Gd.run rfl ?_) | (refine Br.pre ?_; first | refine Br.tt rfl ?_ | refine Br.ff rfl ?_) | (refine Ck.pre ?_; first | refine Ck.drawn (by kernel_rfl) ?_ | refine Ck.mk rfl ?_) | (refine LetL.pre ?_; first | refine LetL.mk (ty := 25) _ a1 ?_) | (refine CallN.pre ?_; first | refine CallN.pure hC rfl rfl ?_ | refine CallN.pure hP rfl rfl ?_ | refine CallN.lend (hD _) rfl (.full rfl n1 m1 .nil) ?_ | refine CallN.lend hE rfl (.same rfl (.clo (.ptr rfl rfl rfl .nil) .nil)) ?_)))); (try (conv => whnf)))





      exact ⟨.inl rfl, ⟨_, rfl, rfl⟩, trivial⟩
    | false =>
      rw [if_neg (fun h => by cases h.2)]
      ((repeat ((conv => whnf); (first | (refine LetN.pre ?_; first | ((conv => arg 1; whnf); refine LetN.mk ?_)) | (refine As.pre ?_; first | refine As.mk rfl ?_ | (refine As.mk ?_ ?_; · ((repeat' (refine andT ?_ ?_)) <;> (first | rfl | assumption | exact decide_eq_true (by omega) | exact decide_eq_true (by dsimp only; omega) | exact decide_eq_true (by simp; omega) | (simp; done))))) | (refine LetV.pre ?_; first | refine LetV.mk (.sc (.int _ _)) rfl ?_ | refine LetV.mk (.agg _) rfl ?_) | (refine LetB.pre ?_; first | refine LetB.ff rfl ?_ | refine LetB.dect (by omega) ?_ | refine LetB.decf (by omega) ?_) | (refine Gd.pre ?_; first | refine Gd.run rfl ?_) | (refine Br.pre ?_; first | refine Br.ff rfl ?_) | (refine Ck.pre ?_; first | refine Ck.drawn (by kernel_rfl) ?_ | refine Ck.mk rfl ?_) | (refine LetL.pre ?_; first | refine LetL.mk (ty := 25) _ a1 ?_) | (refine CallN.pre ?_; first | refine CallN.pure hC rfl rfl ?_ | refine CallN.pure hP rfl rfl ?_ | refine CallN.lend (hD _) rfl (.full rfl n1 m1 .nil) ?_ | refine CallN.lend hE rfl (.same rfl (.clo (.ptr rfl rfl rfl .nil) .nil)) ?_)))); (try (conv => whnf)))





      exact ⟨.inl rfl, ⟨_, rfl, rfl⟩, trivial⟩
  rw [if_neg (fun h => h.1.elim h6 h9)]
  ((repeat ((conv => whnf); (first | (refine LetN.pre ?_; first | ((conv => arg 1; whnf); refine LetN.mk ?_)) | (refine As.pre ?_; first | refine As.mk rfl ?_ | (refine As.mk ?_ ?_; · ((repeat' (refine andT ?_ ?_)) <;> (first | rfl | assumption | exact decide_eq_true (by omega) | exact decide_eq_true (by dsimp only; omega) | exact decide_eq_true (by simp; omega) | (simp; done))))) | (refine LetV.pre ?_; first | refine LetV.mk (.sc (.int _ _)) rfl ?_ | refine LetV.mk (.agg _) rfl ?_) | (refine LetB.pre ?_; first | refine LetB.ff rfl ?_ | refine LetB.decf (by omega) ?_) | (refine Gd.pre ?_; first | refine Gd.run rfl ?_ | refine Gd.pass rfl ?_) | (refine Br.pre ?_; first | refine Br.ff rfl ?_) | (refine Ck.pre ?_; first | refine Ck.drawn (by kernel_rfl) ?_ | refine Ck.mk rfl ?_) | (refine LetL.pre ?_; first | refine LetL.mk (ty := 25) _ a1 ?_) | (refine CallN.pre ?_; first | refine CallN.pure hC rfl rfl ?_ | refine CallN.pure hP rfl rfl ?_ | refine CallN.lend (hD _) rfl (.full rfl n1 m1 .nil) ?_)))); (try (conv => whnf)))





  exact ⟨.inl rfl, ⟨_, rfl, rfl⟩, trivial⟩
end En
end Go.Proofs.YtgnakhljdjekbaaGreatDoor
namespace Go.Proofs.YtgnakhljdjekbaaGreatDoor
open Go.Proofs.YtgnakhljdjekbaaGreatDoor.Am
set_option maxRecDepth 100000
namespace En
/-! ### The examples -/
def eG (i k r : Int) : E := ⟨i, 1, 5, k, 100 * i, 100 * i, ⟨#[]⟩, 0, 0, r, 0, 0, 0, 0, ⟨#[]⟩⟩
def eG1 : E := ⟨1, 1, 5, 3, 100, 100, ⟨#[65, 49]⟩, 5, 0, 0, 0, 0, 0, 0, ⟨#[]⟩⟩
def exG : List E := [eG1, eG 2 5 1, eG 3 6 2, eG 4 6 2]
theorem exG1_f (i k r : Int) (h : 0 ≤ i ∧ i ≤ 100) : AFun Tryz.prog 49 0 [int i, int k, int r] [] (en (eG i k r)) [] := by
  refine AFun.of_W T_ok mixed Tryz.func49 rfl (Nat.le_of_ble_eq_true rfl) rfl ?_
  unfold eG
  ((repeat ((conv => whnf); (first | (refine LetN.pre ?_; first | ((conv => arg 1; whnf); refine LetN.mk ?_)) | (refine As.pre ?_; first | refine As.mk rfl ?_) | (refine LetI.pre ?_; first | refine LetI.wrap (by omega) (by omega) ?_) | (refine Ck.pre ?_; first | refine Ck.mk rfl ?_) | (refine LetL.pre ?_; first | refine LetL.mk [_] rfl ?_)))); (try (conv => whnf)))
  exact ⟨.inl rfl, ⟨_, rfl, rfl⟩, trivial⟩
theorem exampleG_s : AFun Tryz.prog 26 0 [] [] (.slm ⟨false, true⟩ 0 15 0 4) [(0, .row 15 ety (exG.map en))] := by
  refine AFun.of_S T_ok mixed Tryz.func26 rfl (Nat.le_of_ble_eq_true rfl) rfl ?_
  have h1 := exG1_f 1 3 0 (by omega)
  have h2 := exG1_f 2 5 1 (by omega)
  have h3 := exG1_f 3 6 2 (by omega)
  have h4 := exG1_f 4 6 2 (by omega)
  ((repeat ((conv => whnf); (first | (refine LetN.pre ?_; first | ((conv => arg 1; whnf); refine LetN.mk ?_)) | (refine As.pre ?_; first | refine As.mk rfl ?_) | (refine Ck.pre ?_; first | refine Ck.mk rfl ?_) | (refine LetL.pre ?_; first | refine LetL.mk _ rfl ?_) | (refine CallN.pre ?_; first | refine CallN.pure h1 rfl rfl ?_ | refine CallN.pure h2 rfl rfl ?_ | refine CallN.pure h3 rfl rfl ?_ | refine CallN.pure h4 rfl rfl ?_)))); (try (conv => whnf)))
  exact ⟨_, SW.refl, .inl rfl, ⟨_, rfl, rfl⟩, rfl, trivial⟩
theorem exampleG_f : AFun Tryz.prog 26 0 [] [] (.ro ⟨false, true⟩ 15 (exG.map en)) [] := AFun.frz1 (H := []) exampleG_s rfl (pure_en _) rfl
abbrev fS : Fa := ⟨5, 5, 0, 4, 0, 0, ⟨#[]⟩⟩
abbrev gS : Fa := ⟨6, 5, 9, 0, 1, 0, ⟨#[]⟩⟩
abbrev eS (id day : Int) : E := ⟨id, 0, 0, 0, day, 0, ⟨#[]⟩, 0, 0, 0, 0, 0, 0, 0, ⟨#[]⟩⟩
theorem kS1 : keptP fS 500 = true := by decide
theorem kS2 : keptP fS 499 = false := by decide
theorem kS3 : keptP gS 900 = false := by decide
theorem dS : difP [fS, gS] [gS] (eS 17 600) = [⟨fS, true, true, 17⟩] := by kernel_rfl
theorem tS : textP ⟨fS, true, true, 17⟩ = ⟨#[45, 115, 116, 105, 112, 101, 110, 100, 32, 53, 32, 48, 32, 52, 32, 48, 32, 48, 58, 32, 98, 121, 32, 49, 55, 32, 107, 101, 112, 116]⟩ := by kernel_rfl
theorem lS : ltF fS gS = true := by decide
open Classical in
theorem enG1 : entE eG1 = 0 := by
  have hc : okCode eG1.course := ⟨⟨by decide, by decide⟩, by decide⟩
  unfold entE
  rw [decide_eq_true hc]
  decide +kernel
open Classical in
theorem enG2 : entE (eG 2 5 1) = 0 := by
  unfold entE
  generalize decide (okCode (eG 2 5 1).course) = oc
  cases oc <;> decide +kernel
open Classical in
theorem enG3 : entE (eG 3 6 2) = 0 := by
  unfold entE
  generalize decide (okCode (eG 3 6 2).course) = oc
  cases oc <;> decide +kernel
open Classical in
theorem enG4 : entE (eG 4 6 2) = 0 := by
  unfold entE
  generalize decide (okCode (eG 4 6 2).course) = oc
  cases oc <;> decide +kernel
theorem onG1 : oneE [] eG1 = 0 := by unfold oneE; rw [enG1]; decide
theorem onG2 : oneE [eG1] (eG 2 5 1) = 0 := by unfold oneE; rw [enG2]; decide
theorem onG3 : oneE [eG1, eG 2 5 1] (eG 3 6 2) = 0 := by unfold oneE; rw [enG3]; decide
theorem onG4 : oneE [eG1, eG 2 5 1, eG 3 6 2] (eG 4 6 2) = 0 := by unfold oneE; rw [enG4]; decide
theorem ckG2 : chkE [eG1, eG 2 5 1] = 0 := by
  rw [chkE, if_neg (by decide)]
  simp only [chkL, List.nil_append, List.cons_append, onG1, onG2, if_true]
theorem ckG3 : chkE [eG1, eG 2 5 1, eG 3 6 2] = 0 := by
  rw [chkE, if_neg (by decide)]
  simp only [chkL, List.nil_append, List.cons_append, onG1, onG2, onG3, if_true]
theorem ckG4 : chkE [eG1, eG 2 5 1, eG 3 6 2, eG 4 6 2] = 0 := by
  rw [chkE, if_neg (by decide)]
  simp only [chkL, List.nil_append, List.cons_append, onG1, onG2, onG3, onG4, if_true]
theorem mS1 : mayP [eG1, eG 2 5 1] (eG 3 6 2) = 0 := by
  rw [mayP, ckG2, if_neg (fun h => h rfl)]
  show (if chkE [eG1, eG 2 5 1, eG 3 6 2] ≠ 0 then _ else _) = _
  rw [ckG3, if_neg (fun h => h rfl)]
  decide
theorem mS2 : mayP [eG1, eG 2 5 1, eG 3 6 2] (eG 4 6 2) = 6 := by
  rw [mayP, ckG3, if_neg (fun h => h rfl)]
  show (if chkE [eG1, eG 2 5 1, eG 3 6 2, eG 4 6 2] ≠ 0 then _ else _) = _
  rw [ckG4, if_neg (fun h => h rfl)]
  decide
theorem okI_small {n : Int} (h : 0 ≤ n ∧ n < 100) : okI n := ⟨by omega, by omega⟩
set_option maxHeartbeats 1600000 in
set_option maxRecDepth 100000 in
theorem sanity_f : AFun Tryz.prog 6 0 [] [] (bool true) [] := by
  have k1 := Kept_f fS (eS 0 500)
  have k2 := Kept_f fS (eS 0 499)
  have k3 := Kept_f gS (eS 0 900)
  rw [kS1] at k1
  rw [kS2] at k2
  rw [kS3] at k3
  have hd := Differ_f [fS, gS] [gS] (eS 17 600) ⟨true, true⟩ ⟨true, true⟩ (by decide) (by decide) (fun x hx => by
    rcases List.mem_cons.1 hx with rfl | hx
    · decide
    · rw [List.mem_singleton.1 hx]; decide) (fun x hx => by rw [List.mem_singleton.1 hx]; decide)
  rw [dS] at hd
  have ht := Text_f ⟨fS, true, true, 17⟩ (fun n hn => by
    simp only [List.mem_cons, List.not_mem_nil, or_false] at hn
    exact ItoaS_f n (by omega)) (fun n hn => by
    simp only [List.mem_cons, List.not_mem_nil, or_false] at hn
    exact okI_small (by omega)) (by decide)
  rw [tS] at ht
  have hl := Less_f fS gS
  rw [lS] at hl
  have hm1 := fun fl => May_f [eG1, eG 2 5 1] (eG 3 6 2) fl (by decide)
  rw [mS1] at hm1
  have hm2 := fun fl => May_f [eG1, eG 2 5 1, eG 3 6 2] (eG 4 6 2) fl (by decide)
  rw [mS2] at hm2
  refine AFun.of_VS T_ok Tryz.func6 rfl (Nat.le_of_ble_eq_true rfl) ?_
  refine VS.of_V T_ok mixed rfl ?_
  ((repeat ((conv => whnf); (first | (refine LetN.pre ?_; first | ((conv => arg 1; whnf); refine LetN.mk ?_)) | (refine As.pre ?_; first | refine As.mk rfl ?_) | (refine LetV.pre ?_; first | refine LetV.mk (.agg _) rfl ?_ | refine LetV.mk (.ro _ _ _) rfl ?_) | (refine LetI.pre ?_; first | refine LetI.mk _ rfl ?_) | (refine LetB.pre ?_; first | refine LetB.tt rfl ?_ | (refine LetB.tt ?_ ?_; · (decide +kernel))) | (refine Gd.pre ?_; first | refine Gd.run rfl ?_) | (refine Ck.pre ?_; first | refine Ck.drawn (by kernel_rfl) ?_ | refine Ck.mk rfl ?_) | (refine LetL.pre ?_; first | refine LetL.mk [_] rfl ?_) | (refine CallN.pre ?_; first | refine CallN.pure k1 rfl rfl ?_ | refine CallN.pure k2 rfl rfl ?_ | refine CallN.pure k3 rfl rfl ?_ | refine CallN.pure hd rfl rfl ?_ | refine CallN.pure ht rfl rfl ?_ | refine CallN.pure exampleG_f rfl rfl ?_ | refine CallN.pure hl rfl rfl ?_ | refine CallN.pure (hm1 _) rfl rfl ?_ | refine CallN.pure (hm2 _) rfl rfl ?_)))); (try (conv => whnf)))










  exact ⟨_, SW.refl, .inl rfl, ⟨_, rfl, rfl⟩, trivial⟩
end En
end Go.Proofs.YtgnakhljdjekbaaGreatDoor
namespace Go.Proofs.YtgnakhljdjekbaaGreatDoor
open Go.Proofs.YtgnakhljdjekbaaGreatDoor.Am
set_option maxRecDepth 100000
namespace Sc
abbrev int (a : Int) : AV := .sc (.int .i64 a)
abbrev bool (b : Bool) : AV := .sc (.bool b)
def lim (n a b : Int) : Int := max (min a b) (min n (max a b))
end Sc
end Go.Proofs.YtgnakhljdjekbaaGreatDoor
namespace Go.Proofs.YtgnakhljdjekbaaGreatDoor
open Go.Proofs.YtgnakhljdjekbaaGreatDoor.Am
set_option maxRecDepth 100000
namespace En
/-! ### Numbers that are drawn -/
abbrev dty : TypeId := 69
abbrev drawB (fl : Fl) (xs : List Int) (at_ : Nat) : Blk := .row 2 dty [.agg [.ro fl 1 (xs.map int), int at_]]
def dv (xs : List Int) (at_ : Nat) (most : Int) : Int := if at_ < xs.length then ((xs.getD at_ 0).tmod most + most).tmod most else 0
def da (xs : List Int) (at_ : Nat) : Nat := if at_ < xs.length then at_ + 1 else at_
theorem dv_range (xs : List Int) (at_ : Nat) {most : Int} (h : 0 < most) : 0 ≤ dv xs at_ most ∧ dv xs at_ most < most := by
  unfold dv
  split
  · have h1 := tmod_bound (xs.getD at_ 0) h
    rw [Int.tmod_eq_emod_of_nonneg (by omega)]
    exact ⟨Int.emod_nonneg _ (by omega), Int.emod_lt_of_pos _ h⟩
  · omega
theorem da_le {xs : List Int} {at_ : Nat} (h : at_ ≤ xs.length) : da xs at_ ≤ xs.length := by
  unfold da; split <;> omega
theorem Mod_f (x m : Int) (h : 0 < m ∧ m ≤ 1000000) : AFun Tryz.prog 8 0 [int x, int m] [] (int ((x.tmod m + m).tmod m)) [] := by
  refine AFun.of_W T_ok mixed Tryz.func8 rfl (Nat.le_of_ble_eq_true rfl) rfl ?_
  have hnz : (m != 0) = true := by simp; omega
  have hb := tmod_bound x h.1
  ((repeat ((conv => whnf); (first | (refine As.pre ?_; first | refine As.mk rfl ?_ | refine As.mk hnz ?_) | (refine LetI.pre ?_; first | refine LetI.wrap (by omega) (by omega) ?_ | refine LetI.mk _ rfl ?_) | (refine Ck.pre ?_; first | refine Ck.mk rfl ?_)))); (try (conv => whnf)))
  exact ⟨.inl rfl, ⟨_, rfl, rfl⟩, trivial⟩
theorem Next_f (fl : Fl) (xs : List Int) (at_ : Nat) (most : Int) (hl : xs.length ≤ 9223372036854775807) (ha : at_ ≤ xs.length) (hm : 0 < most ∧ most ≤ 1000000) :
    AFun Tryz.prog 27 1 [.ptr 0 2 0 0, int most] [(0, drawB fl xs at_)] (int (dv xs at_ most)) [(0, drawB fl xs (da xs at_))] := by
  refine AFun.of_W T_ok mixed Tryz.func27 rfl (Nat.le_of_ble_eq_true rfl) rfl ?_
  have hml : (xs.map int).length = xs.length := List.length_map _
  have hnz : (most != 0) = true := by simp; omega
  unfold dv da
  by_cases hlt : at_ < xs.length
  · rw [if_pos hlt, if_pos hlt]
    have hld : int (xs.getD at_ 0) = (xs.map int).getD at_ (.sc undef) := mapD 0 hlt
    have hld2 : int (xs.getD at_ 0) = (xs.map int).getD ((at_ : Int) + 1 - 1).toNat (.sc undef) := by rw [show ((at_ : Int) + 1 - 1).toNat = at_ by omega]; exact hld
    generalize xs.getD at_ 0 = x at hld hld2 ⊢
    have hM := Mod_f x most hm
    ((repeat ((conv => whnf); (first | (refine LetN.pre ?_; first | ((conv => arg 1; whnf); refine LetN.mk ?_)) | (refine As.pre ?_; first | refine As.mk rfl ?_ | (refine As.mk ?_ ?_; · ((repeat' (refine andT ?_ ?_)) <;> (first | rfl | assumption | exact decide_eq_true (by omega) | exact decide_eq_true (by dsimp only; omega) | exact decide_eq_true (by simp; omega) | (simp; done))))) | (refine LetV.pre ?_; first | refine LetV.mk (t := 43) _ hld2 ?_ | refine LetV.mk (.sc (.int _ _)) rfl ?_ | refine LetV.mk (.ro _ _ _) rfl ?_) | (refine LetI.pre ?_; first | refine LetI.wrap (by omega) (by omega) ?_ | refine LetI.mk _ rfl ?_) | (refine LetB.pre ?_; first | refine LetB.decf (by omega) ?_) | (refine Br.pre ?_; first | refine Br.ff rfl ?_) | (refine Ck.pre ?_; first | refine Ck.drawn (by kernel_rfl) ?_ | refine Ck.mk rfl ?_) | (refine LetL.pre ?_; first | refine LetL.mk [_] rfl ?_) | (refine CallN.pre ?_; first | refine CallN.pure hM rfl rfl ?_)))); (try (conv => whnf)))



    exact ⟨.inl rfl, ⟨_, rfl, rfl⟩, rfl, trivial⟩
  · rw [if_neg hlt, if_neg hlt]
    ((repeat ((conv => whnf); (first | (refine As.pre ?_; first | refine As.mk rfl ?_) | (refine LetV.pre ?_; first | refine LetV.mk (.sc (.int _ _)) rfl ?_ | refine LetV.mk (.ro _ _ _) rfl ?_) | (refine LetI.pre ?_; first | refine LetI.mk _ rfl ?_) | (refine LetB.pre ?_; first | refine LetB.dect (by omega) ?_) | (refine Br.pre ?_; first | refine Br.tt rfl ?_) | (refine Ck.pre ?_; first | refine Ck.drawn (by kernel_rfl) ?_ | refine Ck.mk rfl ?_)))); (try (conv => whnf)))
    exact ⟨.inl rfl, ⟨_, rfl, rfl⟩, rfl, trivial⟩
def codesL : List ByteArray := [⟨#[65, 49]⟩, ⟨#[66, 49]⟩, ⟨#[66, 50]⟩, ⟨#[67, 49]⟩, ⟨#[68, 49]⟩, ⟨#[69, 57]⟩]
theorem Codes_f : AFun Tryz.prog 28 0 [] [] (.ro ⟨true, true⟩ 1 (codesL.map str)) [] := AFun.of_ev T_ok mixed 20 (by kernel_rfl)
abbrev iA (x : Fl × List Int) : AV := .ro x.1 1 (x.2.map int)
abbrev L0 : Fl × List Int := ({}, [])
theorem made_next (fl : Fl) (xs : List Int) (hl : xs.length ≤ 9223372036854775807) (at_ : Nat) (most : Int) (ha : at_ ≤ xs.length) (hm : 0 < most ∧ most ≤ 1000000) : ∃ v a, (0 ≤ v ∧ v < most) ∧ a ≤ xs.length ∧
    AFun Tryz.prog 27 1 [.ptr 0 2 0 0, int most] [(0, drawB fl xs at_)] (int v) [(0, drawB fl xs a)] :=
  ⟨_, _, dv_range xs at_ hm.1, da_le ha, Next_f fl xs at_ most hl ha hm⟩
end En
end Go.Proofs.YtgnakhljdjekbaaGreatDoor
namespace Go.Proofs.YtgnakhljdjekbaaGreatDoor
open Go.Proofs.YtgnakhljdjekbaaGreatDoor.Am
set_option maxRecDepth 100000
namespace En
/-! ### Made facts -/
/-- What is known of a made fact. -/
structure MFa (f : Fa) : Prop where
  kind : 1 ≤ f.kind ∧ f.kind ≤ 7
  student : 1 ≤ f.student ∧ f.student ≤ 3
  id : 0 ≤ f.id ∧ f.id ≤ 2
  term : 0 ≤ f.term ∧ f.term ≤ 6
  n : 0 ≤ f.n ∧ f.n ≤ 3
  school : 0 ≤ f.school ∧ f.school ≤ 3
  size : f.code.size ≤ 2
  sp : (32 : UInt8) ∉ f.code.data.toList
theorem MFa.ok {f : Fa} (h : MFa f) : okF f := ⟨⟨by have := h.kind; omega, by have := h.kind; omega⟩, ⟨by have := h.student; omega, by have := h.student; omega⟩, ⟨by have := h.id; omega, by have := h.id; omega⟩, ⟨by have := h.term; omega, by have := h.term; omega⟩, ⟨by have := h.n; omega, by have := h.n; omega⟩, ⟨by have := h.school; omega, by have := h.school; omega⟩, by have := h.size; have e : maxLen = 9223372036854775807 := rfl; rw [e]; omega⟩
theorem codes_getF (n : Int) (h : 0 ≤ n ∧ n < 6) : ∃ s : ByteArray, (s.size ≤ 2 ∧ (32 : UInt8) ∉ s.data.toList) ∧ str s = (codesL.map str).getD n.toNat (.sc undef) := by
  obtain ⟨m, rfl⟩ : ∃ m : Nat, n = m := ⟨n.toNat, by omega⟩
  have : m = 0 ∨ m = 1 ∨ m = 2 ∨ m = 3 ∨ m = 4 ∨ m = 5 := by omega
  rcases this with rfl | rfl | rfl | rfl | rfl | rfl <;> exact ⟨_, ⟨by decide, by decide⟩, rfl⟩
abbrev mfS (L : List (Fl × List Int)) (fl : Fl) : Nat × List Fa → AS
  | (k, out) => ⟨[(0, .ro fl 1 (L.map iA)), (3, .slm {} 0 7 0 out.length), (4, int k)], [(0, rwF out)], 1⟩
abbrev mfD (L : List (Fl × List Int)) (fl : Fl) (k : Nat) (out : List Fa) (x : Fl × List Int) (at_ : Nat) (f : Fa) : AS :=
  ⟨[(0, .ro fl 1 (L.map iA)), (3, .slm {} 0 7 0 out.length), (4, int k), (5, .ptr 1 2 0 0), (6, .ptr 2 7 0 0)], [(0, rwF out), (1, drawB x.1 x.2 at_), (2, .row 7 fty [fa f])], 3⟩
theorem mfN (out : List Fa) (a b : Blk) (ok : Nat → Bool) (ha : a.names ok = true := by rfl) (hb : b.names ok = true := by rfl) : namesAll ok [(0, rwF out), (1, a), (2, b)] = true := by
  refine namesAll.row (pure_fa _) ?_
  rw [namesAll, namesAll, ha, hb]; rfl
end En
end Go.Proofs.YtgnakhljdjekbaaGreatDoor
namespace Go.Proofs.YtgnakhljdjekbaaGreatDoor
open Go.Proofs.YtgnakhljdjekbaaGreatDoor.Am
set_option maxRecDepth 100000
namespace En
/-! ### AppealFacts -/
set_option maxHeartbeats 3200000 in
set_option maxRecDepth 100000 in
theorem Made24n_s (L : List (Fl × List Int)) (fl : Fl) (hL : L.length ≤ 9223372036854775807) (hx : ∀ x ∈ L, x.2.length ≤ 9223372036854775807) : ∃ l : List Fa, ((l.length ≤ 12 ∧ (L ≠ [] → l ≠ [])) ∧ ∀ f ∈ l, MFa f) ∧
    AFun Tryz.prog 7 0 [.ro fl 1 (L.map iA)] [] (.slm {} 0 7 0 l.length) [(0, rwF l)] := by
  refine AFun.of_VSE T_ok (v := fun l : List Fa => .slm {} 0 7 0 l.length) (H' := fun l : List Fa => [(0, rwF l)]) Tryz.func7 rfl (Nat.le_of_ble_eq_true rfl) ?_
  have hmL : (L.map iA).length = L.length := List.length_map _
  refine VS.cut T_ok mixed rfl ?_
  ((repeat ((conv => whnf); (first | (refine As.pre ?_; first | refine As.mk rfl ?_) | (refine Ck.pre ?_; first | refine Ck.mk rfl ?_)))); (try (conv => whnf)))
  refine VS.cut T_ok mixed rfl ?_
  ((repeat ((conv => whnf); (first | (refine As.pre ?_; first | refine As.mk rfl ?_) | (refine Ck.pre ?_; first | refine Ck.mk rfl ?_)))); (try (conv => whnf)))
  refine VS.joinN (fun out : List Fa => ⟨[(3, .slm {} 0 7 0 out.length)], [(0, rwF out)], 1⟩) (fun out => (out.length ≤ 12 ∧ (L ≠ [] → out ≠ [])) ∧ ∀ f ∈ out, MFa f) ?loop ?rest
  case rest =>
    intro out ho
    refine VS.of_V T_ok mixed rfl ?_
    ((repeat ((conv => whnf); (first | (refine As.pre ?_; first | refine As.mk rfl ?_) | (refine Ck.pre ?_; first | refine Ck.mk rfl ?_)))); (try (conv => whnf)))
    exact ⟨out, ho, _, SW.refl, .inl rfl, ⟨_, rfl, rfl⟩, rfl, trivial⟩
  case loop =>
    refine VS.cut T_ok mixed rfl ?_
    ((repeat ((conv => whnf); (first | (refine As.pre ?_; first | refine As.mk rfl ?_) | (refine Ck.pre ?_; first | refine Ck.mk rfl ?_)))); (try (conv => whnf)))
    refine VS.block (VS.loop ?_)
    refine LoopN.weak (s1 := mfS L fl (0, [])) ?sw1 ?_
    case sw1 => exact SW.mk id rfl rfl rfl ⟨.refl _, VLe2.nilslm, .refl _, trivial⟩ (haveV.nil (Nat.le_of_ble_eq_true rfl) trivial)
    refine LoopN.indS (S := mfS L fl) (fun i => 12 - i.1) (fun i => i.1 ≤ 12 ∧ i.2.length = i.1 ∧ ∀ f ∈ i.2, MFa f) (fun i hi ih => ?_) (0, []) ⟨Nat.zero_le _, rfl, fun f h => absurd h List.not_mem_nil⟩
    obtain ⟨k, out⟩ := i
    obtain ⟨h1, h2, h3⟩ := hi
    dsimp only at h1 h2 h3
    by_cases hlt : k < L.length ∧ k < 12
    case neg =>
      clear ih
      have hne : L ≠ [] → out ≠ [] := fun hL0 h => by
        have h5 := List.length_pos_iff.2 hL0
        have h6 : out.length = 0 := by rw [h]; rfl
        omega
      refine VS.of_V T_ok mixed rfl ?_
      have hend : ¬ (k < L.length) ∨ ¬ (k < 12) := by omega
      rcases hend with h | h
      · ((repeat ((conv => whnf); (first | (refine As.pre ?_; first | refine As.mk rfl ?_) | (refine LetI.pre ?_; first | refine LetI.mk _ rfl ?_) | (refine LetB.pre ?_; first | refine LetB.decf (by omega) ?_) | (refine Gd.pre ?_; first | refine Gd.pass rfl ?_) | (refine Br.pre ?_; first | refine Br.ff rfl ?_) | (refine Ck.pre ?_; first | refine Ck.mk rfl ?_)))); (try (conv => whnf)))
        exact ⟨rfl, out, ⟨⟨by omega, hne⟩, h3⟩, SW.mk id rfl rfl (namesAll.row (pure_fa _) rfl) ⟨.refl _, trivial⟩ (haveV.row (pure_fa _) rfl trivial)⟩
      · by_cases hk : k < L.length
        · ((repeat ((conv => whnf); (first | (refine As.pre ?_; first | refine As.mk rfl ?_) | (refine LetI.pre ?_; first | refine LetI.mk _ rfl ?_) | (refine LetB.pre ?_; first | refine LetB.dect (by omega) ?_ | refine LetB.decf (by omega) ?_) | (refine Gd.pre ?_; first | refine Gd.run rfl ?_) | (refine Br.pre ?_; first | refine Br.ff rfl ?_) | (refine Ck.pre ?_; first | refine Ck.mk rfl ?_)))); (try (conv => whnf)))
          exact ⟨rfl, out, ⟨⟨by omega, hne⟩, h3⟩, SW.mk id rfl rfl (namesAll.row (pure_fa _) rfl) ⟨.refl _, trivial⟩ (haveV.row (pure_fa _) rfl trivial)⟩
        · ((repeat ((conv => whnf); (first | (refine As.pre ?_; first | refine As.mk rfl ?_) | (refine LetI.pre ?_; first | refine LetI.mk _ rfl ?_) | (refine LetB.pre ?_; first | refine LetB.decf (by omega) ?_) | (refine Gd.pre ?_; first | refine Gd.pass rfl ?_) | (refine Br.pre ?_; first | refine Br.ff rfl ?_) | (refine Ck.pre ?_; first | refine Ck.mk rfl ?_)))); (try (conv => whnf)))
          exact ⟨rfl, out, ⟨⟨by omega, hne⟩, h3⟩, SW.mk id rfl rfl (namesAll.row (pure_fa _) rfl) ⟨.refl _, trivial⟩ (haveV.row (pure_fa _) rfl trivial)⟩
    obtain ⟨hk, hk2⟩ := hlt
    have hld : iA (L.getD k L0) = (L.map iA).getD k (.sc undef) := mapD L0 hk
    have hxl := hx (L.getD k L0) (by rw [List.getD_eq_getElem?_getD, List.getElem?_eq_getElem hk]; exact List.getElem_mem _)
    have hnx : ∀ f, MFa f → _ := fun f hf => ih (k + 1, out ++ [f]) ⟨hk2, by dsimp only; rw [List.length_append, h2]; rfl, fun g hg => by
      rcases List.mem_append.1 hg with hg | hg
      · exact h3 g hg
      · rw [List.mem_singleton.1 hg]; exact hf⟩ (by show 12 - (k + 1) < 12 - k; omega)
    clear ih hx h3
    generalize L.getD k L0 = x at hld hxl
    obtain ⟨fx, xs⟩ := x
    dsimp only at hxl
    obtain ⟨v1, a1, r1, q1, N1⟩ := made_next fx xs hxl 0 7 (Nat.zero_le _) (by omega)
    obtain ⟨v2, a2, r2, q2, N2⟩ := made_next fx xs hxl a1 3 q1 (by omega)
    obtain ⟨v3, a3, r3, q3, N3⟩ := made_next fx xs hxl a2 3 q2 (by omega)
    obtain ⟨v4, a4, r4, q4, N4⟩ := made_next fx xs hxl a3 7 q3 (by omega)
    obtain ⟨v5, a5, r5, q5, N5⟩ := made_next fx xs hxl a4 4 q4 (by omega)
    obtain ⟨v6, a6, r6, q6, N6⟩ := made_next fx xs hxl a5 2 q5 (by omega)
    obtain ⟨v7, a7, r7, q7, N7⟩ := made_next fx xs hxl a6 3 q6 (by omega)
    obtain ⟨v8, a8, r8, q8, N8⟩ := made_next fx xs hxl a7 6 q7 (by omega)
    obtain ⟨s8, ⟨s81, s82⟩, hs8⟩ := codes_getF v8 r8
    refine VS.cut T_ok mixed rfl ?_
    ((repeat ((conv => whnf); (first | (refine As.pre ?_; first | refine As.mk rfl ?_) | (refine LetI.pre ?_; first | refine LetI.mk _ rfl ?_) | (refine LetB.pre ?_; first | refine LetB.dect (by omega) ?_) | (refine Gd.pre ?_; first | refine Gd.run rfl ?_) | (refine Br.pre ?_; first | refine Br.tt rfl ?_) | (refine Ck.pre ?_; first | refine Ck.mk rfl ?_)))); (try (conv => whnf)))
    refine VS.seq (VS.block ?_)
    refine VS.cut T_ok mixed rfl ?_
    ((repeat ((conv => whnf); (first | (refine LetN.pre ?_; first | ((conv => arg 1; whnf); refine LetN.mk ?_)) | (refine As.pre ?_; first | refine As.mk rfl ?_ | (refine As.mk ?_ ?_; · ((repeat' (refine andT ?_ ?_)) <;> (first | rfl | assumption | exact decide_eq_true (by omega) | exact decide_eq_true (by dsimp only; omega) | exact decide_eq_true (by simp; omega) | (simp; done))))) | (refine LetV.pre ?_; first | refine LetV.mk (t := 22) _ hld ?_ | refine LetV.mk (.ro _ _ _) rfl ?_) | (refine Ck.pre ?_; first | refine Ck.mk rfl ?_)))); (try (conv => whnf)))
    refine VS.cut T_ok mixed rfl ?_
    ((repeat ((conv => whnf); (first | (refine LetN.pre ?_; first | ((conv => arg 1; whnf); refine LetN.mk ?_)) | (refine As.pre ?_; first | refine As.mk rfl ?_) | (refine LetI.pre ?_; first | refine LetI.wrap (by omega) (by omega) ?_) | (refine Ck.pre ?_; first | refine Ck.mk rfl ?_) | (refine LetL.pre ?_; first | refine LetL.mk (ty := dty) [.agg [_, _]] rfl ?_ | refine LetL.mk [_] rfl ?_) | (refine CallN.pre ?_; first | (refine CallN.own (fun _ => 1) N1 (CallOk.mk' rfl rfl rfl (namesAll.row rfl rfl) rfl (namesAll.row rfl rfl) (haveAll.row rfl rfl trivial)) ?_) | (refine CallN.own (fun _ => 1) N2 (CallOk.mk' rfl rfl rfl (namesAll.row rfl rfl) rfl (namesAll.row rfl rfl) (haveAll.row rfl rfl trivial)) ?_) | (refine CallN.own (fun _ => 1) N3 (CallOk.mk' rfl rfl rfl (namesAll.row rfl rfl) rfl (namesAll.row rfl rfl) (haveAll.row rfl rfl trivial)) ?_) | (refine CallN.own (fun _ => 1) N4 (CallOk.mk' rfl rfl rfl (namesAll.row rfl rfl) rfl (namesAll.row rfl rfl) (haveAll.row rfl rfl trivial)) ?_) | (refine CallN.own (fun _ => 1) N5 (CallOk.mk' rfl rfl rfl (namesAll.row rfl rfl) rfl (namesAll.row rfl rfl) (haveAll.row rfl rfl trivial)) ?_))))); (try (conv => whnf)))
    refine VS.weak (s1 := mfD L fl k out (fx, xs) a5 ⟨1 + v1, 1 + v2, v3, v4, v5, 0, ⟨#[]⟩⟩) ?sw2 ?_
    case sw2 => exact SW.mk id rfl rfl (mfN _ _ _ _) ⟨.refl _, .refl _, .refl _, .refl _, .refl _, trivial⟩ (haveV.row (pure_fa _) rfl (haveV.one rfl (haveV.one rfl trivial)))
    clear N1 N2 N3 N4 N5
    refine VS.joinN (fun q : Nat × Fa => mfD L fl k out (fx, xs) q.1 q.2) (fun q => MFa q.2) ?cond ?body
    case cond =>
      clear hnx hld
      refine VS.of_V T_ok mixed rfl ?_
      have hcl : (codesL.map str).length = 6 := rfl
      by_cases h0 : v6 = 0
      · subst h0
        ((repeat ((conv => whnf); (first | (refine LetN.pre ?_; first | ((conv => arg 1; whnf); refine LetN.mk ?_)) | (refine As.pre ?_; first | refine As.mk rfl ?_ | (refine As.mk ?_ ?_; · ((repeat' (refine andT ?_ ?_)) <;> (first | rfl | assumption | exact decide_eq_true (by omega) | exact decide_eq_true (by dsimp only; omega) | exact decide_eq_true (by simp; omega) | (simp; done))))) | (refine LetV.pre ?_; first | refine LetV.mk (t := 71) _ hs8 ?_ | refine LetV.mk (.sc _) rfl ?_) | (refine LetI.pre ?_; first | refine LetI.wrap (by omega) (by omega) ?_) | (refine LetB.pre ?_; first | refine LetB.tt rfl ?_) | (refine Br.pre ?_; first | refine Br.tt rfl ?_) | (refine Ck.pre ?_; first | refine Ck.mk rfl ?_) | (refine LetL.pre ?_; first | refine LetL.mk (ty := dty) [.agg [_, _]] rfl ?_ | refine LetL.mk [_] rfl ?_) | (refine CallN.pre ?_; first | refine CallN.pure Codes_f rfl rfl ?_ | (refine CallN.own (fun _ => 1) N6 (CallOk.mk' rfl rfl rfl (namesAll.row rfl rfl) rfl (namesAll.row rfl rfl) (haveAll.row rfl rfl trivial)) ?_) | (refine CallN.own (fun _ => 1) N7 (CallOk.mk' rfl rfl rfl (namesAll.row rfl rfl) rfl (namesAll.row rfl rfl) (haveAll.row rfl rfl trivial)) ?_) | (refine CallN.own (fun _ => 1) N8 (CallOk.mk' rfl rfl rfl (namesAll.row rfl rfl) rfl (namesAll.row rfl rfl) (haveAll.row rfl rfl trivial)) ?_))))); (try (conv => whnf)))
        exact ⟨rfl, (a8, ⟨1 + v1, 1 + v2, v3, v4, v5, 1 + v7, s8⟩), ⟨by dsimp only; omega, by dsimp only; omega, by dsimp only; omega, by dsimp only; omega, by dsimp only; omega, by dsimp only; omega, s81, s82⟩, SW.mk id rfl rfl (mfN _ _ _ _) ⟨.refl _, .refl _, .refl _, .refl _, .refl _, trivial⟩ (haveV.row (pure_fa _) rfl (haveV.one rfl (haveV.one rfl trivial)))⟩
      · ((repeat ((conv => whnf); (first | (refine LetN.pre ?_; first | ((conv => arg 1; whnf); refine LetN.mk ?_)) | (refine As.pre ?_; first | refine As.mk rfl ?_) | (refine LetB.pre ?_; first | refine LetB.decf (by omega) ?_) | (refine Br.pre ?_; first | refine Br.ff rfl ?_) | (refine Ck.pre ?_; first | refine Ck.mk rfl ?_) | (refine LetL.pre ?_; first | refine LetL.mk (ty := dty) [.agg [_, _]] rfl ?_) | (refine CallN.pre ?_; first | (refine CallN.own (fun _ => 1) N6 (CallOk.mk' rfl rfl rfl (namesAll.row rfl rfl) rfl (namesAll.row rfl rfl) (haveAll.row rfl rfl trivial)) ?_))))); (try (conv => whnf)))
        exact ⟨rfl, (a6, ⟨1 + v1, 1 + v2, v3, v4, v5, 0, ⟨#[]⟩⟩), ⟨by dsimp only; omega, by dsimp only; omega, by dsimp only; omega, by dsimp only; omega, by dsimp only; omega, by dsimp only; omega, (by decide : (⟨#[]⟩ : ByteArray).size ≤ 2), (by decide : (32 : UInt8) ∉ (⟨#[]⟩ : ByteArray).data.toList)⟩, SW.mk id rfl rfl (mfN _ _ _ _) ⟨.refl _, .refl _, .refl _, .refl _, .refl _, trivial⟩ (haveV.row (pure_fa _) rfl (haveV.one rfl (haveV.one rfl trivial)))⟩
    rintro ⟨at_, f⟩ hf
    dsimp only at hf
    have r1' := room_fa (n := out.length + 1) (by omega)
    have a1' := app_fa out f out.length rfl
    have l1' : (out ++ [f]).length = out.length + 1 := by simp
    have hnf := hnx f hf
    clear hnx
    refine VS.of_V T_ok mixed rfl ?_
    ((repeat ((conv => whnf); (first | (refine LetN.pre ?_; first | ((conv => arg 1; whnf); refine LetN.mk ?_)) | (refine As.pre ?_; first | refine As.mk rfl ?_ | (refine As.mk ?_ ?_; · ((repeat' (refine andT ?_ ?_)) <;> (first | rfl | assumption | exact decide_eq_true (by omega) | exact decide_eq_true (by dsimp only; omega) | exact decide_eq_true (by simp; omega) | (simp; done))))) | (refine LetV.pre ?_; first | refine LetV.mk (.agg _) rfl ?_) | (refine Ck.pre ?_; first | refine Ck.mk rfl ?_) | (refine LetL.pre ?_; first | refine LetL.mk (ty := fty) _ a1' ?_)))); (try (conv => whnf)))
    refine VS.of_V T_ok mixed rfl ?_
    ((repeat ((conv => whnf); (first | (refine As.pre ?_; first | refine As.mk rfl ?_) | (refine LetI.pre ?_; first | refine LetI.wrap (by omega) (by omega) ?_) | (refine Ck.pre ?_; first | refine Ck.mk rfl ?_)))); (try (conv => whnf)))
    refine LoopN.weak ?sw4 hnf
    case sw4 => exact SW.mk (fun _ => 3) rfl rfl (namesAll.row (pure_fa _) rfl) ⟨.refl _, VLe2.slm_of l1', VLe2.int (by omega), trivial⟩ (haveV.row (pure_fa _) rfl trivial)
set_option maxHeartbeats 1600000 in
set_option maxRecDepth 100000 in
theorem Made24_nil (fl : Fl) : AFun Tryz.prog 7 0 [.ro fl 1 (([] : List (Fl × List Int)).map iA)] [] (.sc (.slice none 0 0)) [] := by
  refine AFun.of_W T_ok mixed Tryz.func7 rfl (Nat.le_of_ble_eq_true rfl) rfl ?_
  ((repeat ((conv => whnf); (first | (refine As.pre ?_; first | refine As.mk rfl ?_) | (refine Ck.pre ?_; first | refine Ck.mk rfl ?_)))); (try (conv => whnf)))
  refine LoopN.round T_ok mixed rfl ?_
  ((repeat ((conv => whnf); (first | (refine As.pre ?_; first | refine As.mk rfl ?_) | (refine LetI.pre ?_; first | refine LetI.mk _ rfl ?_) | (refine LetB.pre ?_; first | refine LetB.ff rfl ?_) | (refine Gd.pre ?_; first | refine Gd.pass rfl ?_) | (refine Br.pre ?_; first | refine Br.ff rfl ?_) | (refine Ck.pre ?_; first | refine Ck.mk rfl ?_)))); (try (conv => whnf)))
  exact ⟨.inl rfl, ⟨_, rfl, rfl⟩, trivial⟩
/-- What is known of the facts of the law. -/
structure AF (f : Fa) : Prop where
  ok : okF f
  size : f.code.size ≤ 12
theorem MFa.af {f : Fa} (h : MFa f) : AF f := ⟨h.ok, by have := h.size; omega⟩
def cutF (f : Fa) : Fa := { f with code := f.code.extract 0 (min ((f.code.size : Nat) : Int) 12).toNat }
theorem cut_af {f : Fa} (h : okF f) : AF (cutF f) := by
  have e : (cutF f).code.size ≤ 12 := by
    show (f.code.extract 0 (min ((f.code.size : Nat) : Int) 12).toNat).size ≤ 12
    rw [ByteArray.size_extract]; omega
  refine ⟨⟨h.1, h.2.1, h.2.2.1, h.2.2.2.1, h.2.2.2.2.1, h.2.2.2.2.2.1, ?_⟩, e⟩
  have e2 : maxLen = 9223372036854775807 := rfl
  rw [e2]; omega
theorem frzL_fa (H : AH) (F : Nat → Bool) : ∀ l : List Fa, AV.frzL H F (l.map fa) = l.map fa ∧ AV.frzOkL H F (l.map fa) = true
  | [] => ⟨rfl, rfl⟩
  | f :: l => by
    have h := frzL_fa H F l
    have h1 := frz_none (H := H) (F := F) (v := fa f) (.inl rfl)
    constructor
    · simp only [List.map_cons, AV.frzL, h.1, h1.1]
    · simp only [List.map_cons, AV.frzOkL, h.2, h1.2, Bool.and_self]
theorem af_all {A : List Fa} (h : ∀ x ∈ A, AF x) : ∀ x ∈ A, okF x := fun x hx => (h x hx).ok
theorem plain_cg : ∀ l : List Cg, AV.plainL (l.map cgA) = true
  | [] => rfl
  | p :: l => by simp only [List.map_cons, AV.plainL, plain_cg l]; rfl
/-- What is known of a change of the law. -/
structure AC (c : Cg) : Prop where
  f : AF c.f
  e : okI c.entry
theorem AC.nums {c : Cg} (h : AC c) : ∀ n, n ∈ [c.f.student, c.f.id, c.f.term, c.f.n, c.f.school, c.entry] → okI n := fun n hn => by
  obtain ⟨_, h1, h2, h3, h4, h5, _⟩ := h.f.ok
  have h6 := h.e
  simp only [List.mem_cons, List.not_mem_nil, or_false] at hn
  rcases hn with rfl | rfl | rfl | rfl | rfl | rfl <;> assumption
theorem dif_ac {a b : List Fa} {e : E} (ha : ∀ x ∈ a, AF x) (hb : ∀ x ∈ b, AF x) (he : okI e.id) : ∀ c ∈ difP a b e, AC c := fun c hc => by
  rcases List.mem_append.1 hc with hc | hc <;> obtain ⟨f, hf, rfl⟩ := List.mem_map.1 hc
  · exact ⟨ha f (((mis_spec _ _).2 f).1 hf).1, he⟩
  · exact ⟨hb f (((mis_spec _ _).2 f).1 hf).1, he⟩
theorem dif_len {a b : List Fa} {e : E} (ha : a.length ≤ 16) (hb : b.length ≤ 16) : (difP a b e).length ≤ 32 := by
  have h1 := mis_len a b
  have h2 := mis_len b a
  rw [difP, List.length_append, List.length_map, List.length_map]; omega
theorem cgD_ld {l : List Cg} {k : Nat} (h : k < l.length) : cgA (l.getD k cg0') = (l.map cgA).getD k (.sc undef) := mapD cg0' h
theorem cgD_mem {l : List Cg} {k : Nat} (h : k < l.length) : l.getD k cg0' ∈ l := by
  rw [List.getD_eq_getElem?_getD, List.getElem?_eq_getElem h]; exact List.getElem_mem _
theorem str_same (s : ByteArray) : false = !(s.toList == s.toList) := by simp
theorem bool_same (b : Bool) : false = (b != b) := by cases b <;> rfl
theorem nilfull {E : Nat} : VLe2 (.sc (.slice none 0 0)) (.ro ⟨true, false⟩ E []) := .inr (.inl ⟨rfl, .inr ⟨_, E, rfl, rfl⟩⟩)
def rdB : Nat → Nat | 2 => 3 | i => i
theorem part_fa {B : List Fa} {k : Nat} (h : k < B.length) : fa (B.getD k fa0) = Am.part true 7 0 7 ((B.map fa).getD (0 + k) (.sc undef)) := by
  rw [Nat.zero_add, ← mapD fa0 h]; rfl
theorem take_row (B X A : List Fa) : List.take B.length ((B ++ X).map fa) ++ A.map fa = (B ++ A).map fa := by
  rw [List.map_append, List.take_left' (List.length_map _), ← List.map_append]
abbrev fZ : AS := ⟨[(9, bool true)], [], 0⟩
def rdA : Nat → Nat | 1 => 4 | i => i
abbrev eZ (e : E) : E := { e with course := ⟨#[]⟩, mark := ⟨#[]⟩ }
abbrev eN (e : E) : E := { eZ e with day := (e.day.tmod 800 + 800).tmod 800 }

abbrev fS1 (raw : List Fa) (e : E) (B : List Fa) : Nat × List Fa → AS
  | (k, A) => ⟨[(2, .ro {} 7 (raw.map fa)), (7, .ptr 0 15 0 0), (9, bool true), (10, .slm {} 1 7 0 A.length), (11, .slm {} 2 7 0 B.length), (12, int k)], [(0, .row 15 ety [en (eZ e)]), (1, rwF A), (2, rwF B)], 3⟩
abbrev fS2 (e : E) (B A : List Fa) : AS := ⟨[(7, .ptr 0 15 0 0), (9, bool true), (10, .slm {} 1 7 0 A.length), (11, .slm {} 2 7 0 B.length)], [(0, .row 15 ety [en (eZ e)]), (1, rwF A), (2, rwF B)], 3⟩
abbrev fSr (e : E) (B A : List Fa) : AS := ⟨[(7, .ptr 0 15 0 0), (9, bool true), (10, .ro {} 7 (A.map fa)), (11, .slm {} 2 7 0 B.length)], [(0, .row 15 ety [en (eZ e)]), (2, rwF B)], 3⟩
abbrev fSE (B A : List Fa) : AS := ⟨[(9, bool true), (10, .ro {} 7 (A.map fa)), (11, .slm {} 0 7 0 B.length)], [(0, rwF B)], 1⟩
abbrev fS3 (B A : List Fa) (xs : List E) (j : Nat) : AS := ⟨[(9, bool true), (10, .ro {} 7 (A.map fa)), (11, .slm {} 0 7 0 B.length), (68, .ro {} 15 (xs.map en)), (69, int xs.length), (70, int j)], [(0, rwF B)], 1⟩
abbrev fS4 (B A : List Fa) (xs : List E) (j : Nat) (x : E) (D : List Cg) : AS := ⟨[(9, bool true), (10, .ro {} 7 (A.map fa)), (11, .slm {} 0 7 0 B.length), (68, .ro {} 15 (xs.map en)), (69, int xs.length), (70, int j), (16, .ptr 1 15 0 0), (18, .slm {} 2 10 0 D.length)], [(0, rwF B), (1, .row 15 ety [en x]), (2, rwC D)], 3⟩
abbrev fS4r (B A : List Fa) (xs : List E) (j : Nat) (x : E) (D : List Cg) : AS := ⟨[(9, bool true), (10, .ro {} 7 (A.map fa)), (11, .slm {} 0 7 0 B.length), (68, .ro {} 15 (xs.map en)), (69, int xs.length), (70, int j), (16, .ptr 1 15 0 0), (18, .ro {} 10 (D.map cgA))], [(0, rwF B), (1, .row 15 ety [en x])], 3⟩
abbrev fS5 (B A : List Fa) (xs : List E) (j : Nat) (x : E) (D : List Cg) (i : Nat) : AS := ⟨[(9, bool true), (10, .ro {} 7 (A.map fa)), (11, .slm {} 0 7 0 B.length), (68, .ro {} 15 (xs.map en)), (69, int xs.length), (70, int j), (16, .ptr 1 15 0 0), (98, .ro {} 10 (D.map cgA)), (99, int D.length), (100, int i)], [(0, rwF B), (1, .row 15 ety [en x])], 3⟩
abbrev fS6 (B A : List Fa) : Nat × List Fa → AS
  | (k, X) => ⟨[(9, bool true), (10, .ro {} 7 (A.map fa)), (11, .slm {} 0 7 0 B.length), (122, .ro {} 7 (A.map fa)), (123, int A.length), (124, int k)], [(0, rwF (B ++ X))], 1⟩
abbrev fS7 (B A : List Fa) (k : Nat) (X : List Fa) (f : Fa) : AS := ⟨[(9, bool true), (10, .ro {} 7 (A.map fa)), (11, .slm {} 0 7 0 B.length), (122, .ro {} 7 (A.map fa)), (123, int A.length), (124, int k), (22, .ptr 1 7 0 0)], [(0, rwF (B ++ X)), (1, .row 7 fty [fa f])], 2⟩
abbrev fS8 (B A : List Fa) (k : Nat) (X : List Fa) (f : Fa) (i : Nat) : AS := ⟨[(9, bool true), (10, .ro {} 7 (A.map fa)), (11, .slm {} 0 7 0 B.length), (122, .ro {} 7 (A.map fa)), (123, int A.length), (124, int k), (22, .ptr 1 7 0 0), (130, .slm {} 2 7 0 (B ++ A).length), (131, int (B ++ A).length), (132, int i)], [(0, rwF (B ++ X)), (1, .row 7 fty [fa f]), (2, rwF (B ++ A))], 3⟩
abbrev fS9 (B A : List Fa) (k : Nat) (f : Fa) (i : Nat) : AS := ⟨[(9, bool true), (10, .ro {} 7 (A.map fa)), (11, .slm {} 0 7 0 B.length), (122, .ro {} 7 (A.map fa)), (123, int A.length), (124, int k), (22, .ptr 1 7 0 0), (130, .slm {} 0 7 0 (B ++ A).length), (131, int (B ++ A).length), (132, int i)], [(0, rwF (B ++ A)), (1, .row 7 fty [fa f])], 2⟩
theorem fSFrz {x z : Nat} (e : E) (B A : List Fa) : SW x z (fS2 e B A) (fSr e B A) := by
  have h := SW.frz (p := x) (n := z) (s := fS2 e B A) [1] ?_ ?_ ?_
  · have e : (⟨frFrz (fS2 e B A).H [1].contains (fS2 e B A).fr, AH.frz (fS2 e B A).H (fS2 e B A).H [1].contains, (fS2 e B A).nx⟩ : AS) = fSr e B A := by
      refine congr (congr (congrArg AS.mk ?_) ?_) rfl
      · simp [frFrz, AV.frz, AH.get]
        exact List.take_of_length_le (by simp)
      · show [_, (2, Blk.row 7 fty (AV.frzL _ _ (B.map fa)))] = _; rw [(frzL_fa _ _ B).1]; rfl
    exact e ▸ h
  · simp [rowsOk, AH.get, pure_fa]
  · show (_ && (_ && (_ && _))) = true; simp only [(frzL_fa _ _ B).2]; rfl
  · simp [frFrzOk, AV.frzOk, AH.get]
theorem fSFrz2 {q r : Nat} (B A : List Fa) (xs : List E) (j : Nat) (x : E) (D : List Cg) : SW q r (fS4 B A xs j x D) (fS4r B A xs j x D) := by
  have h := SW.frz (p := q) (n := r) (s := fS4 B A xs j x D) [2] ?_ ?_ ?_
  · have e : (⟨frFrz (fS4 B A xs j x D).H [2].contains (fS4 B A xs j x D).fr, AH.frz (fS4 B A xs j x D).H (fS4 B A xs j x D).H [2].contains, (fS4 B A xs j x D).nx⟩ : AS) = fS4r B A xs j x D := by
      refine congr (congr (congrArg AS.mk ?_) ?_) rfl
      · have h1 := fun H F => (frz_nameless H F (.ro {} 15 (xs.map en)) rfl).1
        simp [frFrz, AV.frz, AH.get]
        exact List.take_of_length_le (by simp)
      · show [(0, Blk.row 7 fty (AV.frzL _ _ (B.map fa))), _] = _; rw [(frzL_fa _ _ B).1]; rfl
    exact e ▸ h
  · simp [rowsOk, AH.get, pure_cg]
  · show (_ && (_ && (_ && _))) = true; simp only [(frzL_fa _ _ B).2]; rfl
  · simp [frFrzOk, AV.frzOk, AH.get]
set_option maxHeartbeats 3200000 in
set_option maxRecDepth 100000 in
theorem facts_S (L M : List (Fl × List Int)) (raw : List Fa) (e : E) (A0 B : List Fa) (hraw : raw.length ≤ 9223372036854775807) (kraw : ∀ x ∈ raw, okF x) (he : okI e.id)
    (hA0 : A0.length ≤ 12) (kA0 : ∀ x ∈ A0, AF x) (hB : B.length ≤ 12) (kB : ∀ x ∈ B, AF x)
    (hMA : AFun Tryz.prog 7 0 [.ro {} 1 (L.map iA)] [] (.slm {} 0 7 0 A0.length) [(0, rwF A0)]) (hMB : AFun Tryz.prog 7 0 [.ro {} 1 (M.map iA)] [] (.slm {} 0 7 0 B.length) [(0, rwF B)]) (hpos : 0 < B.length) :
    AFun Tryz.prog 3 0 [.ro {} 1 (L.map iA), .ro {} 1 (M.map iA), .ro {} 7 (raw.map fa), en e] [] (bool true) [] := by
  have hmR : (raw.map fa).length = raw.length := List.length_map _
  refine AFun.of_VS T_ok Tryz.func3 rfl (Nat.le_of_ble_eq_true rfl) ?_
  refine VS.cut T_ok mixed rfl ?_
  ((repeat ((conv => whnf); (first | (refine LetN.pre ?_; first | ((conv => arg 1; whnf); refine LetN.mk ?_)) | (refine As.pre ?_; first | refine As.mk rfl ?_) | (refine Ck.pre ?_; first | refine Ck.mk rfl ?_)))); (try (conv => whnf)))
  refine VS.cut T_ok mixed rfl ?_
  ((repeat ((conv => whnf); (first | (refine As.pre ?_; first | refine As.mk rfl ?_) | (refine Ck.pre ?_; first | refine Ck.mk rfl ?_) | (refine CallN.pre ?_; first | refine CallN.pure sanity_f rfl rfl ?_)))); (try (conv => whnf)))
  refine VS.cut T_ok mixed rfl ?_
  ((repeat ((conv => whnf); (first | (refine LetN.pre ?_; first | ((conv => arg 1; whnf); refine LetN.mk ?_)) | (refine As.pre ?_; first | refine As.mk rfl ?_) | (refine Ck.pre ?_; first | refine Ck.mk rfl ?_) | (refine LetL.pre ?_; first | refine LetL.mk (ty := fty) _ (renL_none (pure_fa _)).symm ?_) | (refine CallN.pre ?_; first | (refine CallN.own (fun i => i + 1) hMA (CallOk.mk' rfl rfl rfl rfl rfl (namesAll.row (pure_fa _) rfl) trivial) ?_) | (refine CallN.own (fun i => i + 2) hMB (CallOk.mk' rfl rfl rfl rfl rfl (namesAll.row (pure_fa _) rfl) trivial) ?_))))); (try (conv => whnf)))



  clear hMA hMB
  refine VS.cut T_ok mixed rfl ?_
  ((repeat ((conv => whnf); (first | (refine LetN.pre ?_; first | ((conv => arg 1; whnf); refine LetN.mk ?_)) | (refine As.pre ?_; first | refine As.mk rfl ?_) | (refine Ck.pre ?_; first | refine Ck.mk rfl ?_) | (refine LetL.pre ?_; first | refine LetL.mk [_] rfl ?_)))); (try (conv => whnf)))
  refine VS.joinN (fun A => fS2 e B A) (fun A => A.length ≤ 16 ∧ ∀ x ∈ A, AF x) ?loop1 ?rest1
  case loop1 =>
    refine VS.of_V T_ok mixed rfl ?_
    ((repeat ((conv => whnf); (first | (refine As.pre ?_; first | refine As.mk rfl ?_) | (refine Ck.pre ?_; first | refine Ck.mk rfl ?_)))); (try (conv => whnf)))
    refine LoopN.weak (s1 := fS1 raw e B (0, A0)) ?sw0 ?_
    case sw0 => exact SW.mk id rfl rfl (namesAll.row rfl (namesAll.row (pure_fa _) (namesAll.row (pure_fa _) rfl))) ⟨.refl _, .refl _, .refl _, VLe2.slm_of rfl, VLe2.slm_of rfl, .refl _, trivial⟩ (haveV.row rfl rfl (haveV.row (pure_fa _) rfl (haveV.row (pure_fa _) rfl trivial)))
    refine LoopN.ind T_ok mixed (S := fS1 raw e B) (fun i => 4 - i.1) (fun i => i.1 ≤ 4 ∧ i.2.length ≤ 12 + i.1 ∧ ∀ x ∈ i.2, AF x) (fun _ => rfl) (fun i hi ih => ?_) (0, A0) ⟨Nat.zero_le _, hA0, kA0⟩
    obtain ⟨k, A⟩ := i
    obtain ⟨h1, h2, h3⟩ := hi
    dsimp only at h1 h2 h3
    by_cases hlt : k < raw.length ∧ k < 4
    case neg =>
      clear ih
      by_cases hk : k < raw.length
      · have h4 : ¬ k < 4 := fun h => hlt ⟨hk, h⟩
        ((repeat ((conv => whnf); (first | (refine As.pre ?_; first | refine As.mk rfl ?_) | (refine LetI.pre ?_; first | refine LetI.mk _ rfl ?_) | (refine LetB.pre ?_; first | refine LetB.dect (by omega) ?_ | refine LetB.decf (by omega) ?_) | (refine Gd.pre ?_; first | refine Gd.run rfl ?_) | (refine Br.pre ?_; first | refine Br.ff rfl ?_) | (refine Ck.pre ?_; first | refine Ck.mk rfl ?_)))); (try (conv => whnf)))
        exact ⟨rfl, A, ⟨by omega, h3⟩, SW.mk id rfl rfl (namesAll.row rfl (namesAll.row (pure_fa _) (namesAll.row (pure_fa _) rfl))) ⟨.refl _, .refl _, .refl _, .refl _, trivial⟩ (haveV.row rfl rfl (haveV.row (pure_fa _) rfl (haveV.row (pure_fa _) rfl trivial)))⟩
      · ((repeat ((conv => whnf); (first | (refine As.pre ?_; first | refine As.mk rfl ?_) | (refine LetI.pre ?_; first | refine LetI.mk _ rfl ?_) | (refine LetB.pre ?_; first | refine LetB.decf (by omega) ?_) | (refine Gd.pre ?_; first | refine Gd.pass rfl ?_) | (refine Br.pre ?_; first | refine Br.ff rfl ?_) | (refine Ck.pre ?_; first | refine Ck.mk rfl ?_)))); (try (conv => whnf)))
        exact ⟨rfl, A, ⟨by omega, h3⟩, SW.mk id rfl rfl (namesAll.row rfl (namesAll.row (pure_fa _) (namesAll.row (pure_fa _) rfl))) ⟨.refl _, .refl _, .refl _, .refl _, trivial⟩ (haveV.row rfl rfl (haveV.row (pure_fa _) rfl (haveV.row (pure_fa _) rfl trivial)))⟩
    obtain ⟨hk, hk4⟩ := hlt
    have hld := fa_ld hk
    have hcf := cut_af (kraw _ (getD_memF hk))
    have hnx := ih (k + 1, A ++ [cutF (raw.getD k fa0)]) ⟨hk4, by dsimp only; rw [List.length_append]; show A.length + 1 ≤ _; omega, fun x hx => by
      rcases List.mem_append.1 hx with hx | hx
      · exact h3 x hx
      · rw [List.mem_singleton.1 hx]; exact hcf⟩ (by show 4 - (k + 1) < 4 - k; omega)
    clear ih h3 hcf
    generalize raw.getD k fa0 = f at hld hnx
    have r1 := room_fa (n := A.length + 1) (by omega)
    have a1 := app_fa A (cutF f) A.length rfl
    have l1 : (A ++ [cutF f]).length = A.length + 1 := by simp
    ((repeat ((conv => whnf); (first | (refine LetN.pre ?_; first | ((conv => arg 1; whnf); refine LetN.mk ?_)) | (refine As.pre ?_; first | refine As.mk rfl ?_ | (refine As.mk ?_ ?_; · ((repeat' (refine andT ?_ ?_)) <;> (first | rfl | assumption | exact decide_eq_true (by omega) | exact decide_eq_true (by dsimp only; omega) | exact decide_eq_true (by simp; omega) | (simp; done))))) | (refine LetV.pre ?_; first | refine LetV.mk (t := fsl) _ hld ?_ | refine LetV.mk (.sc _) rfl ?_ | refine LetV.mk (.agg _) rfl ?_) | (refine LetI.pre ?_; first | refine LetI.wrap (by omega) (by omega) ?_ | refine LetI.mk _ rfl ?_) | (refine LetB.pre ?_; first | refine LetB.dect (by omega) ?_) | (refine Gd.pre ?_; first | refine Gd.run rfl ?_) | (refine Br.pre ?_; first | refine Br.tt rfl ?_) | (refine Ck.pre ?_; first | refine Ck.mk rfl ?_) | (refine LetL.pre ?_; first | refine LetL.mk (ty := fty) _ a1 ?_ | refine LetL.mk [_] rfl ?_)))); (try (conv => whnf)))
    refine LoopN.weak ?sw1 hnx
    case sw1 => exact SW.mk rdA rfl rfl (namesAll.row rfl (namesAll.row (pure_fa _) (namesAll.row (pure_fa _) rfl))) ⟨.refl _, .refl _, .refl _, VLe2.slm_of l1, .refl _, VLe2.int (by omega), trivial⟩ (haveV.row rfl rfl (haveV.row (pure_fa _) rfl (haveV.row (pure_fa _) rfl trivial)))
  case rest1 =>
    rintro A ⟨hA, kA⟩
    clear hmR hraw kraw kA0 hA0
    clear raw A0
    refine VS.weak (fSFrz e B A) ?_
    refine VS.cut T_ok mixed rfl ?_
    ((repeat ((conv => whnf); (first | (refine LetN.pre ?_; first | ((conv => arg 1; whnf); refine LetN.mk ?_)) | (refine As.pre ?_; first | refine As.mk rfl ?_) | (refine LetV.pre ?_; first | refine LetV.mk (.agg _) rfl ?_) | (refine Ck.pre ?_; first | refine Ck.mk rfl ?_) | (refine LetL.pre ?_; first | refine LetL.mk [_] rfl ?_)))); (try (conv => whnf)))
    have hMod := Mod_f e.day 800 (by omega)
    refine VS.cut T_ok mixed rfl ?_
    ((repeat ((conv => whnf); (first | (refine LetN.pre ?_; first | ((conv => arg 1; whnf); refine LetN.mk ?_)) | (refine As.pre ?_; first | refine As.mk rfl ?_) | (refine LetV.pre ?_; first | refine LetV.mk (.sc (.int _ _)) rfl ?_) | (refine Ck.pre ?_; first | refine Ck.mk rfl ?_) | (refine LetL.pre ?_; first | refine LetL.mk [_] rfl ?_) | (refine CallN.pre ?_; first | refine CallN.pure hMod rfl rfl ?_)))); (try (conv => whnf)))
    clear hMod
    refine VS.joinN (fun _ : Unit => fSE B A) (fun _ => True) ?loop2 ?rest2
    case loop2 =>
      refine VS.cut T_ok mixed rfl ?_
      ((repeat ((conv => whnf); (first | (refine As.pre ?_; first | refine As.mk rfl ?_) | (refine LetV.pre ?_; first | refine LetV.mk (.agg _) rfl ?_) | (refine LetI.pre ?_; first | refine LetI.mk _ rfl ?_) | (refine Ck.pre ?_; first | refine Ck.mk rfl ?_)))); (try (conv => whnf)))
      obtain ⟨xs, hxs⟩ : ∃ xs : List E, xs = [eZ e, eN e] := ⟨_, rfl⟩
      have hxl : xs.length = 2 := by rw [hxs]; rfl
      have hxi : ∀ x ∈ xs, okI x.id := by
        rw [hxs]; intro x hx
        rcases List.mem_cons.1 hx with rfl | hx
        · exact he
        · rw [List.mem_singleton.1 hx]; exact he
      refine VS.weak (s1 := fS3 B A xs 0) ?sw2 ?_
      case sw2 =>
        subst hxs
        exact SW.mk (fun i => i + 2) rfl rfl (namesAll.row (pure_fa _) rfl) ⟨.refl _, .refl _, VLe2.slm_of rfl, VLe2.ro_of rfl, VLe2.int rfl, .refl _, trivial⟩ (haveV.row (pure_fa _) rfl trivial)
      clear hxs
      refine VS.block (VS.loop ?_)
      have hmX : (xs.map en).length = xs.length := List.length_map _
      refine LoopN.indS (S := fS3 B A xs) (fun j => xs.length - j) (fun j => j ≤ xs.length) (fun j hj ih => ?_) 0 (Nat.zero_le _)
      by_cases hlt : j < xs.length
      case neg =>
        clear ih
        refine VS.of_V T_ok mixed rfl ?_
        ((repeat ((conv => whnf); (first | (refine As.pre ?_; first | refine As.mk rfl ?_) | (refine LetB.pre ?_; first | refine LetB.decf (by omega) ?_) | (refine Br.pre ?_; first | refine Br.ff rfl ?_) | (refine Ck.pre ?_; first | refine Ck.mk rfl ?_)))); (try (conv => whnf)))
        exact ⟨rfl, (), trivial, SW.mk id rfl rfl (namesAll.row (pure_fa _) rfl) ⟨.refl _, .refl _, .refl _, trivial⟩ (haveV.row (pure_fa _) rfl trivial)⟩
      have hld : en (xs.getD j e0) = (xs.map en).getD j (.sc undef) := mapD e0 hlt
      have hxid := hxi (xs.getD j e0) (by rw [List.getD_eq_getElem?_getD, List.getElem?_eq_getElem hlt]; exact List.getElem_mem _)
      have hnx := ih (j + 1) hlt (by omega)
      clear ih hxi
      generalize xs.getD j e0 = x at hld hxid
      refine VS.cut T_ok mixed rfl ?_
      ((repeat ((conv => whnf); (first | (refine As.pre ?_; first | refine As.mk rfl ?_) | (refine LetB.pre ?_; first | refine LetB.dect (by omega) ?_) | (refine Ck.pre ?_; first | refine Ck.mk rfl ?_)))); (try (conv => whnf)))
      refine VS.cut T_ok mixed rfl ?_
      ((repeat ((conv => whnf); (first | (refine Br.pre ?_; first | refine Br.tt rfl ?_) | (refine Ck.pre ?_; first | refine Ck.mk rfl ?_)))); (try (conv => whnf)))
      refine VS.joinN (fun _ : Unit => fS3 B A xs j) (fun _ => True) ?body ?next
      case next =>
        intro _ _
        refine VS.of_V T_ok mixed rfl ?_
        ((repeat ((conv => whnf); (first | (refine As.pre ?_; first | refine As.mk rfl ?_) | (refine LetI.pre ?_; first | refine LetI.wrap (by omega) (by omega) ?_) | (refine Ck.pre ?_; first | refine Ck.mk rfl ?_)))); (try (conv => whnf)))
        refine LoopN.weak ?sw3 hnx
        case sw3 => exact SW.mk id rfl rfl (namesAll.row (pure_fa _) rfl) ⟨.refl _, .refl _, .refl _, .refl _, .refl _, VLe2.int (by omega), trivial⟩ (haveV.row (pure_fa _) rfl trivial)
      case body =>
        clear hnx
        refine VS.block ?_
        have nA : AV.names (fun _ => false) (.ro {} 7 (A.map fa)) = true := rfl
        have hmB : B.length = (B.map fa).length := (List.length_map _).symm
        have d1 := Differ16_s A B x {} {} hA (by omega) (af_all kA) (af_all kB)
        have d2 := rDiffer_s A B x {} {} hA (by omega)
        have d3 := Differ16_s B A x {} {} (by omega) hA (af_all kB) (af_all kA)
        have d4 := rDiffer_s B A x {} {} (by omega) hA
        have hD := dif_ac (a := A) (b := B) (e := x) kA kB hxid
        have lD := dif_len (e := x) hA (show B.length ≤ 16 by omega)
        have lD' := dif_len (e := x) (show B.length ≤ 16 by omega) hA
        generalize difP A B x = D at d1 d2 hD lD
        generalize difP B A x = D' at d3 d4 lD'
        have s1 := fun f1 f2 => rSame_f D f1 f2 (by omega)
        have s2 := fun f1 f2 => rSame_f D' f1 f2 (by omega)
        have hmD : D.length = (D.map cgA).length := (List.length_map _).symm
        have hmD' : D'.length = (D'.map cgA).length := (List.length_map _).symm
        refine VS.cut T_ok mixed rfl ?_
        ((repeat ((conv => whnf); (first | (refine LetN.pre ?_; first | ((conv => arg 1; whnf); refine LetN.mk ?_)) | (refine As.pre ?_; first | refine As.mk rfl ?_ | (refine As.mk ?_ ?_; · ((repeat' (refine andT ?_ ?_)) <;> (first | rfl | assumption | exact decide_eq_true (by omega) | exact decide_eq_true (by dsimp only; omega) | exact decide_eq_true (by simp; omega) | (simp; done))))) | (refine LetV.pre ?_; first | refine LetV.mk (t := 33) _ hld ?_ | refine LetV.mk (.agg _) rfl ?_) | (refine Ck.pre ?_; first | refine Ck.mk rfl ?_) | (refine LetL.pre ?_; first | refine LetL.mk [_] rfl ?_)))); (try (conv => whnf)))
        refine VS.cut T_ok mixed rfl ?_
        ((repeat ((conv => whnf); (first | (refine LetN.pre ?_; first | ((conv => arg 1; whnf); refine LetN.mk ?_)) | (refine As.pre ?_; first | refine As.mk rfl ?_) | (refine LetV.pre ?_; first | refine LetV.mk (.agg _) rfl ?_) | (refine Ck.pre ?_; first | refine Ck.drawn (by kernel_rfl) ?_ | refine Ck.mk rfl ?_) | (refine LetL.pre ?_; first | refine LetL.mk _ rfl ?_) | (refine CallN.pre ?_; first | refine CallN.lendOwn 2 d1 (.same nA (.full rfl (pure_fa B) hmB (.same rfl .nil))) rfl rfl rfl (plain_cg _) ?_ | refine CallN.lendOwn 3 d2 (.same nA (.full rfl (pure_fa B) hmB (.same rfl .nil))) rfl rfl rfl (plain_cg _) ?_)))); (try (conv => whnf)))


        refine VS.cut T_ok mixed rfl ?_
        ((repeat ((conv => whnf); (first | (refine LetN.pre ?_; first | ((conv => arg 1; whnf); refine LetN.mk ?_)) | (refine As.pre ?_; first | refine As.mk rfl ?_) | (refine LetV.pre ?_; first | refine LetV.mk (.agg _) rfl ?_) | (refine Gd.pre ?_; first | refine Gd.run rfl ?_) | (refine Br.pre ?_; first | refine Br.ff rfl ?_) | (refine Ck.pre ?_; first | refine Ck.drawn (by kernel_rfl) ?_ | refine Ck.mk rfl ?_) | (refine LetL.pre ?_; first | refine LetL.mk _ rfl ?_) | (refine CallN.pre ?_; first | refine CallN.lend (s1 _ _) rfl (.full rfl (pure_cg D) hmD (.full rfl (pure_cg D) hmD .nil)) ?_ | refine CallN.lend (s2 _ _) rfl (.full rfl (pure_cg D') hmD' (.full rfl (pure_cg D') hmD' .nil)) ?_ | refine CallN.lendOwn 4 d3 (.full rfl (pure_fa B) hmB (.same nA (.same rfl .nil))) rfl rfl rfl (plain_cg _) ?_ | refine CallN.lendOwn 5 d4 (.full rfl (pure_fa B) hmB (.same nA (.same rfl .nil))) rfl rfl rfl (plain_cg _) ?_)))); (try (conv => whnf)))




        clear d1 d2 d3 d4 s1 s2 lD' hmD'
        refine VS.weak (s1 := fS4 B A xs j x D) ?sw4 ?_
        case sw4 => exact SW.mk rdB rfl rfl (namesAll.row (pure_fa _) (namesAll.row rfl (namesAll.row (pure_cg _) rfl))) ⟨.refl _, .refl _, .refl _, .refl _, .refl _, .refl _, .refl _, VLe2.slm_of rfl, trivial⟩ (haveV.row (pure_fa _) rfl (haveV.row rfl rfl (haveV.row (pure_cg _) rfl trivial)))
        clear D'
        refine VS.weak (fSFrz2 B A xs j x D) ?_
        refine VS.cut T_ok mixed rfl ?_
        ((repeat ((conv => whnf); (first | (refine As.pre ?_; first | refine As.mk rfl ?_) | (refine LetI.pre ?_; first | refine LetI.mk _ rfl ?_) | (refine Ck.pre ?_; first | refine Ck.mk rfl ?_)))); (try (conv => whnf)))
        refine VS.weak (s1 := fS5 B A xs j x D 0) ?sw5 ?_
        case sw5 => exact SW.mk id rfl rfl (namesAll.row (pure_fa _) (namesAll.row rfl rfl)) ⟨.refl _, .refl _, .refl _, .refl _, .refl _, .refl _, .refl _, .refl _, VLe2.int (by rw [← hmD]), .refl _, trivial⟩ (haveV.row (pure_fa _) rfl (haveV.row rfl rfl trivial))
        refine VS.block (VS.loop ?_)
        refine LoopN.indS (S := fS5 B A xs j x D) (fun i => D.length - i) (fun i => i ≤ D.length) (fun i hi ih => ?_) 0 (Nat.zero_le _)
        by_cases hlt2 : i < D.length
        case neg =>
          clear ih
          refine VS.of_V T_ok mixed rfl ?_
          ((repeat ((conv => whnf); (first | (refine As.pre ?_; first | refine As.mk rfl ?_) | (refine LetB.pre ?_; first | refine LetB.decf (by omega) ?_) | (refine Br.pre ?_; first | refine Br.ff rfl ?_) | (refine Ck.pre ?_; first | refine Ck.mk rfl ?_)))); (try (conv => whnf)))
          exact ⟨rfl, (), trivial, SW.mk id rfl rfl (namesAll.row (pure_fa _) rfl) ⟨.refl _, .refl _, .refl _, .refl _, .refl _, .refl _, trivial⟩ (haveV.row (pure_fa _) rfl trivial)⟩
        have hld2 := cgD_ld hlt2
        have hcc := hD _ (cgD_mem hlt2)
        have hni := ih (i + 1) hlt2 (by omega)
        clear ih hD
        generalize D.getD i cg0' = c at hld2 hcc
        have t1 := TextF_f hcc.nums (by have := hcc.f.size; omega)
        have t2 := rText_f hcc.nums (by have := hcc.f.size; omega)
        have k1 := Kept_f c.f x
        have k2 := rKept_f c.f x
        generalize textP c = tx at t1 t2
        have hs := str_same tx
        generalize keptP c.f x.day = kp at k1 k2
        have hkk := bool_same kp
        obtain ⟨f, g, kp', en'⟩ := c
        dsimp only at k1 k2
        refine VS.of_V T_ok mixed rfl ?_
        ((repeat ((conv => whnf); (first | (refine LetN.pre ?_; first | ((conv => arg 1; whnf); refine LetN.mk ?_)) | (refine As.pre ?_; first | refine As.mk rfl ?_ | (refine As.mk ?_ ?_; · ((repeat' (refine andT ?_ ?_)) <;> (first | rfl | assumption | exact decide_eq_true (by omega) | exact decide_eq_true (by dsimp only; omega) | exact decide_eq_true (by simp; omega) | (simp; done))))) | (refine LetV.pre ?_; first | refine LetV.mk (t := csl) _ hld2 ?_ | refine LetV.mk (.agg _) rfl ?_) | (refine LetI.pre ?_; first | refine LetI.wrap (by omega) (by omega) ?_) | (refine LetB.pre ?_; first | refine LetB.mk (o := some .neq) false hs ?_ | refine LetB.mk (o := some .neq) false hkk ?_ | refine LetB.dect (by omega) ?_) | (refine Gd.pre ?_; first | refine Gd.run rfl ?_) | (refine Br.pre ?_; first | refine Br.tt rfl ?_ | refine Br.ff rfl ?_) | (refine Ck.pre ?_; first | refine Ck.drawn (by kernel_rfl) ?_ | refine Ck.mk rfl ?_) | (refine LetL.pre ?_; first | refine LetL.mk [_] rfl ?_) | (refine CallN.pre ?_; first | refine CallN.pure t1 rfl rfl ?_ | refine CallN.pure t2 rfl rfl ?_ | refine CallN.pure k1 rfl rfl ?_ | refine CallN.pure k2 rfl rfl ?_)))); (try (conv => whnf)))







        refine LoopN.weak ?sw6 hni
        case sw6 => exact SW.mk id rfl rfl (namesAll.row (pure_fa _) (namesAll.row rfl rfl)) ⟨.refl _, .refl _, .refl _, .refl _, .refl _, .refl _, .refl _, .refl _, .refl _, VLe2.int (by omega), trivial⟩ (haveV.row (pure_fa _) rfl (haveV.row rfl rfl trivial))
    case rest2 =>
      intro _ _
      clear kB kA he
      have hGb : (B ++ A).length ≤ 28 := by rw [List.length_append]; omega
      have hmA : (A.map fa).length = A.length := List.length_map _
      have hmB : (B.map fa).length = B.length := List.length_map _
      refine VS.joinN (fun _ : Unit => fZ) (fun _ => True) ?loop6 ?fin
      case fin =>
        intro _ _
        refine VS.of_V T_ok mixed rfl ?_
        ((repeat ((conv => whnf); (first | (refine As.pre ?_; first | refine As.mk rfl ?_) | (refine Ck.pre ?_; first | refine Ck.mk rfl ?_)))); (try (conv => whnf)))
        exact ⟨_, SW.refl, .inl rfl, ⟨_, rfl, rfl⟩, trivial⟩
      case loop6 =>
        refine VS.cut T_ok mixed rfl ?_
        ((repeat ((conv => whnf); (first | (refine As.pre ?_; first | refine As.mk rfl ?_) | (refine LetI.pre ?_; first | refine LetI.mk _ rfl ?_) | (refine Ck.pre ?_; first | refine Ck.mk rfl ?_)))); (try (conv => whnf)))
        refine VS.weak (s1 := fS6 B A (0, [])) ?sw7 ?_
        case sw7 => exact SW.mk id rfl rfl (namesAll.row (pure_fa _) rfl) ⟨.refl _, .refl _, .refl _, .refl _, VLe2.int (by rw [hmA]), .refl _, trivial⟩ (haveV.row (pure_fa _) (by rw [List.append_nil]; rfl) trivial)
        refine ⟨.normal, fZ, ARuns.of_D (DRuns.block (DRuns.loop (R := fun e s1 => e = .exit 6 ∧ (Exit.normal = Exit.normal ∧ SW 0 Tryz.f3.ntmps s1 fZ)) (fS6 B A) (fun i => A.length - i.1) (fun i => i.1 ≤ A.length ∧ i.2.length ≤ 16) (fun i hi => ?_) (0, []) ⟨Nat.zero_le _, Nat.zero_le _⟩)) (fun e1 s1 h => h), rfl, (), trivial, SW.refl⟩
        obtain ⟨k, X⟩ := i
        obtain ⟨g1, g2⟩ := hi
        dsimp only at g1 g2
        by_cases hlt : k < A.length
        case neg =>
          refine DRuns.of_VS (VS.of_V T_ok mixed rfl ?_)
          ((repeat ((conv => whnf); (first | (refine As.pre ?_; first | refine As.mk rfl ?_) | (refine LetB.pre ?_; first | refine LetB.decf (by omega) ?_) | (refine Br.pre ?_; first | refine Br.ff rfl ?_) | (refine Ck.pre ?_; first | refine Ck.mk rfl ?_)))); (try (conv => whnf)))
          exact .inr ⟨(fun h => by cases h), rfl, rfl, SW.mk id rfl rfl rfl ⟨.refl _, trivial⟩ trivial⟩
        have hld := fa_ld hlt
        generalize A.getD k fa0 = f at hld
        have hmz : A.length - (k + 1) < A.length - k := by omega
        refine DRuns.seq (DRuns.of_VS (VS.of_V T_ok mixed rfl ?_))
        ((repeat ((conv => whnf); (first | (refine As.pre ?_; first | refine As.mk rfl ?_) | (refine LetB.pre ?_; first | refine LetB.dect (by omega) ?_) | (refine Ck.pre ?_; first | refine Ck.mk rfl ?_)))); (try (conv => whnf)))
        refine DRuns.seq (DRuns.of_VS (VS.of_V T_ok mixed rfl ?_))
        ((repeat ((conv => whnf); (first | (refine Br.pre ?_; first | refine Br.tt rfl ?_) | (refine Ck.pre ?_; first | refine Ck.mk rfl ?_)))); (try (conv => whnf)))
        refine DRuns.seq (DRuns.blockN ?_)
        refine DRuns.seq (DRuns.of_VS (VS.of_V T_ok mixed rfl ?_))
        ((repeat ((conv => whnf); (first | (refine LetN.pre ?_; first | ((conv => arg 1; whnf); refine LetN.mk ?_)) | (refine As.pre ?_; first | refine As.mk rfl ?_ | (refine As.mk ?_ ?_; · ((repeat' (refine andT ?_ ?_)) <;> (first | rfl | assumption | exact decide_eq_true (by omega) | exact decide_eq_true (by dsimp only; omega) | exact decide_eq_true (by simp; omega) | (simp; done))))) | (refine LetV.pre ?_; first | refine LetV.mk (t := fsl) _ hld ?_ | refine LetV.mk (.agg _) rfl ?_) | (refine Ck.pre ?_; first | refine Ck.mk rfl ?_) | (refine LetL.pre ?_; first | refine LetL.mk [_] rfl ?_)))); (try (conv => whnf)))
        refine DRuns.pre (s1 := fS7 B A k X f) (SW.mk id rfl rfl (namesAll.row (pure_fa _) (namesAll.row rfl rfl)) ⟨.refl _, .refl _, .refl _, .refl _, .refl _, .refl _, .refl _, trivial⟩ (haveV.row (pure_fa _) rfl (haveV.row rfl rfl trivial))) ?_
        have hr : room (B.length + (A.map fa).length) 64 = true := room_fa (by rw [hmA]; omega)
        have hG := take_row B X A
        have hGl : (B ++ A).length = B.length + (A.map fa).length := by rw [List.length_append, hmA]
        have hst := stor_fa A
        have hmG : ((B ++ A).map fa).length = (B ++ A).length := List.length_map _
        refine DRuns.seq (DRuns.app2' T_ok 2 rfl (Nat.le_of_ble_eq_true rfl) rfl ?_)
        ((repeat ((conv => whnf); (first | (refine As.pre ?_; first | refine As.mk rfl ?_) | (refine Ck.pre ?_; first | refine Ck.mk rfl ?_)))); (try (conv => whnf)))
        refine ⟨_, _, _, _, _, _, _, _, _, _, _, _, _, _, rfl, rfl, rfl, rfl, rfl, rfl, rfl, rfl, rfl, ⟨hpos, by simp⟩, hr, rfl, hst, ?_, ?_⟩
        · ((repeat ((conv => whnf); (first | (refine As.pre ?_; first | refine As.mk rfl ?_) | (refine LetI.pre ?_; first | refine LetI.mk _ rfl ?_) | (refine Ck.pre ?_; first | refine Ck.mk rfl ?_)))); (try (conv => whnf)))
          refine DRuns.of_VS ?_
          refine VS.weak (s1 := fS9 B A k f 0) ?sw12 ?_
          case sw12 => exact SW.mk id rfl rfl (namesAll.row (pure_fa _) (namesAll.row rfl rfl)) ⟨.refl _, .refl _, .refl _, .refl _, .refl _, .refl _, .refl _, VLe2.slm_of hGl, VLe2.int (by rw [hGl]), .refl _, trivial⟩ (haveV.row (pure_fa _) (congrArg (fun es => some (Blk.row 7 fty es)) hG) (haveV.row rfl rfl trivial))
          refine VS.block (VS.loop ?_)
          refine LoopN.indS (S := fS9 B A k f) (fun i => (B ++ A).length - i) (fun i => i ≤ (B ++ A).length) (fun i hi ih => ?_) 0 (Nat.zero_le _)
          by_cases hlt2 : i < (B ++ A).length
          case neg =>
            clear ih
            refine VS.of_V T_ok mixed rfl ?_
            ((repeat ((conv => whnf); (first | (refine As.pre ?_; first | refine As.mk rfl ?_) | (refine LetB.pre ?_; first | refine LetB.decf (by omega) ?_) | (refine Br.pre ?_; first | refine Br.ff rfl ?_) | (refine Ck.pre ?_; first | refine Ck.mk rfl ?_)))); (try (conv => whnf)))
            refine ⟨rfl, DRuns.of_VS (VS.of_V T_ok mixed rfl ?_)⟩
            ((repeat ((conv => whnf); (first | (refine As.pre ?_; first | refine As.mk rfl ?_) | (refine LetI.pre ?_; first | refine LetI.wrap (by omega) (by omega) ?_) | (refine Ck.pre ?_; first | refine Ck.mk rfl ?_)))); (try (conv => whnf)))
            exact .inl ⟨rfl, (k + 1, A), ⟨hlt, by dsimp only; omega⟩, hmz, SW.mk id rfl rfl (namesAll.row (pure_fa _) rfl) ⟨.refl _, .refl _, .refl _, .refl _, .refl _, VLe2.int (by omega), trivial⟩ (haveV.row (pure_fa _) rfl trivial)⟩
          have hld2 := part_fa hlt2
          have hni := ih (i + 1) hlt2 (by omega)
          clear ih
          generalize (B ++ A).getD i fa0 = g at hld2
          have l1 := Less_f f g
          have l2 := rLess_f f g
          generalize ltF f g = q at l1 l2
          have hqq := bool_same q
          refine VS.of_V T_ok mixed rfl ?_
          ((repeat ((conv => whnf); (first | (refine LetN.pre ?_; first | ((conv => arg 1; whnf); refine LetN.mk ?_)) | (refine As.pre ?_; first | refine As.mk rfl ?_ | (refine As.mk ?_ ?_; · ((repeat' (refine andT ?_ ?_)) <;> (first | rfl | assumption | exact decide_eq_true (by omega) | exact decide_eq_true (by dsimp only; omega) | exact decide_eq_true (by simp; omega) | (simp; done))))) | (refine LetV.pre ?_; first | refine LetV.mk (t := fty) _ hld2 ?_ | refine LetV.mk (.agg _) rfl ?_) | (refine LetI.pre ?_; first | refine LetI.wrap (by omega) (by omega) ?_) | (refine LetB.pre ?_; first | refine LetB.mk (o := some .neq) false hqq ?_ | refine LetB.dect (by omega) ?_) | (refine Br.pre ?_; first | refine Br.tt rfl ?_ | refine Br.ff rfl ?_) | (refine Ck.pre ?_; first | refine Ck.drawn (by kernel_rfl) ?_ | refine Ck.mk rfl ?_) | (refine LetL.pre ?_; first | refine LetL.mk [_] rfl ?_) | (refine CallN.pre ?_; first | refine CallN.pure l1 rfl rfl ?_ | refine CallN.pure l2 rfl rfl ?_)))); (try (conv => whnf)))




          refine LoopN.weak ?sw9 hni
          case sw9 => exact SW.mk id rfl rfl (namesAll.row (pure_fa _) (namesAll.row rfl rfl)) ⟨.refl _, .refl _, .refl _, .refl _, .refl _, .refl _, .refl _, .refl _, .refl _, VLe2.int (by omega), trivial⟩ (haveV.row (pure_fa _) rfl (haveV.row rfl rfl trivial))
        · ((repeat ((conv => whnf); (first | (refine As.pre ?_; first | refine As.mk rfl ?_) | (refine LetI.pre ?_; first | refine LetI.mk _ rfl ?_) | (refine Ck.pre ?_; first | refine Ck.mk rfl ?_)))); (try (conv => whnf)))
          refine DRuns.of_VS ?_
          refine VS.weak (s1 := fS8 B A k X f 0) ?sw13 ?_
          case sw13 => exact SW.mk id rfl rfl (namesAll.row (pure_fa _) (namesAll.row rfl (namesAll.row (pure_fa _) rfl))) ⟨.refl _, .refl _, .refl _, .refl _, .refl _, .refl _, .refl _, VLe2.slm_of hGl, VLe2.int (by rw [hGl]), .refl _, trivial⟩ (haveV.row (pure_fa _) rfl (haveV.row rfl rfl (haveV.row (pure_fa _) (congrArg (fun es => some (Blk.row 7 fty es)) hG) trivial)))
          refine VS.block (VS.loop ?_)
          refine LoopN.indS (S := fS8 B A k X f) (fun i => (B ++ A).length - i) (fun i => i ≤ (B ++ A).length) (fun i hi ih => ?_) 0 (Nat.zero_le _)
          by_cases hlt2 : i < (B ++ A).length
          case neg =>
            clear ih
            refine VS.of_V T_ok mixed rfl ?_
            ((repeat ((conv => whnf); (first | (refine As.pre ?_; first | refine As.mk rfl ?_) | (refine LetB.pre ?_; first | refine LetB.decf (by omega) ?_) | (refine Br.pre ?_; first | refine Br.ff rfl ?_) | (refine Ck.pre ?_; first | refine Ck.mk rfl ?_)))); (try (conv => whnf)))
            refine ⟨rfl, DRuns.of_VS (VS.of_V T_ok mixed rfl ?_)⟩
            ((repeat ((conv => whnf); (first | (refine As.pre ?_; first | refine As.mk rfl ?_) | (refine LetI.pre ?_; first | refine LetI.wrap (by omega) (by omega) ?_) | (refine Ck.pre ?_; first | refine Ck.mk rfl ?_)))); (try (conv => whnf)))
            exact .inl ⟨rfl, (k + 1, X), ⟨hlt, by dsimp only; omega⟩, hmz, SW.mk id rfl rfl (namesAll.row (pure_fa _) rfl) ⟨.refl _, .refl _, .refl _, .refl _, .refl _, VLe2.int (by omega), trivial⟩ (haveV.row (pure_fa _) rfl trivial)⟩
          have hld2 := part_fa hlt2
          have hni := ih (i + 1) hlt2 (by omega)
          clear ih
          generalize (B ++ A).getD i fa0 = g at hld2
          have l1 := Less_f f g
          have l2 := rLess_f f g
          generalize ltF f g = q at l1 l2
          have hqq := bool_same q
          refine VS.of_V T_ok mixed rfl ?_
          ((repeat ((conv => whnf); (first | (refine LetN.pre ?_; first | ((conv => arg 1; whnf); refine LetN.mk ?_)) | (refine As.pre ?_; first | refine As.mk rfl ?_ | (refine As.mk ?_ ?_; · ((repeat' (refine andT ?_ ?_)) <;> (first | rfl | assumption | exact decide_eq_true (by omega) | exact decide_eq_true (by dsimp only; omega) | exact decide_eq_true (by simp; omega) | (simp; done))))) | (refine LetV.pre ?_; first | refine LetV.mk (t := fty) _ hld2 ?_ | refine LetV.mk (.agg _) rfl ?_) | (refine LetI.pre ?_; first | refine LetI.wrap (by omega) (by omega) ?_) | (refine LetB.pre ?_; first | refine LetB.mk (o := some .neq) false hqq ?_ | refine LetB.dect (by omega) ?_) | (refine Br.pre ?_; first | refine Br.tt rfl ?_ | refine Br.ff rfl ?_) | (refine Ck.pre ?_; first | refine Ck.drawn (by kernel_rfl) ?_ | refine Ck.mk rfl ?_) | (refine LetL.pre ?_; first | refine LetL.mk [_] rfl ?_) | (refine CallN.pre ?_; first | refine CallN.pure l1 rfl rfl ?_ | refine CallN.pure l2 rfl rfl ?_)))); (try (conv => whnf)))




          refine LoopN.weak ?sw9 hni
          case sw9 => exact SW.mk id rfl rfl (namesAll.row (pure_fa _) (namesAll.row rfl (namesAll.row (pure_fa _) rfl))) ⟨.refl _, .refl _, .refl _, .refl _, .refl _, .refl _, .refl _, .refl _, .refl _, VLe2.int (by omega), trivial⟩ (haveV.row (pure_fa _) rfl (haveV.row rfl rfl (haveV.row (pure_fa _) rfl trivial)))

abbrev fN1 (raw : List Fa) (e : E) (B : List Fa) : Nat × List Fa → AS
  | (k, A) => ⟨[(2, .ro {} 7 (raw.map fa)), (7, .ptr 0 15 0 0), (9, bool true), (10, .slm {} 1 7 0 A.length), (11, .ro ⟨true, false⟩ 7 (B.map fa)), (12, int k)], [(0, .row 15 ety [en (eZ e)]), (1, rwF A)], 3⟩
abbrev fN2 (e : E) (B A : List Fa) : AS := ⟨[(7, .ptr 0 15 0 0), (9, bool true), (10, .slm {} 1 7 0 A.length), (11, .ro ⟨true, false⟩ 7 (B.map fa))], [(0, .row 15 ety [en (eZ e)]), (1, rwF A)], 3⟩
abbrev fNr (e : E) (B A : List Fa) : AS := ⟨[(7, .ptr 0 15 0 0), (9, bool true), (10, .ro {} 7 (A.map fa)), (11, .ro ⟨true, false⟩ 7 (B.map fa))], [(0, .row 15 ety [en (eZ e)])], 3⟩
abbrev fNE (B A : List Fa) : AS := ⟨[(9, bool true), (10, .ro {} 7 (A.map fa)), (11, .ro ⟨true, false⟩ 7 (B.map fa))], [], 1⟩
abbrev fN3 (B A : List Fa) (xs : List E) (j : Nat) : AS := ⟨[(9, bool true), (10, .ro {} 7 (A.map fa)), (11, .ro ⟨true, false⟩ 7 (B.map fa)), (68, .ro {} 15 (xs.map en)), (69, int xs.length), (70, int j)], [], 1⟩
abbrev fN4 (B A : List Fa) (xs : List E) (j : Nat) (x : E) (D : List Cg) : AS := ⟨[(9, bool true), (10, .ro {} 7 (A.map fa)), (11, .ro ⟨true, false⟩ 7 (B.map fa)), (68, .ro {} 15 (xs.map en)), (69, int xs.length), (70, int j), (16, .ptr 1 15 0 0), (18, .slm {} 2 10 0 D.length)], [(1, .row 15 ety [en x]), (2, rwC D)], 3⟩
abbrev fN4r (B A : List Fa) (xs : List E) (j : Nat) (x : E) (D : List Cg) : AS := ⟨[(9, bool true), (10, .ro {} 7 (A.map fa)), (11, .ro ⟨true, false⟩ 7 (B.map fa)), (68, .ro {} 15 (xs.map en)), (69, int xs.length), (70, int j), (16, .ptr 1 15 0 0), (18, .ro {} 10 (D.map cgA))], [(1, .row 15 ety [en x])], 3⟩
abbrev fN5 (B A : List Fa) (xs : List E) (j : Nat) (x : E) (D : List Cg) (i : Nat) : AS := ⟨[(9, bool true), (10, .ro {} 7 (A.map fa)), (11, .ro ⟨true, false⟩ 7 (B.map fa)), (68, .ro {} 15 (xs.map en)), (69, int xs.length), (70, int j), (16, .ptr 1 15 0 0), (98, .ro {} 10 (D.map cgA)), (99, int D.length), (100, int i)], [(1, .row 15 ety [en x])], 3⟩
abbrev fN6 (B A : List Fa) : Nat × List Fa → AS
  | (k, X) => ⟨[(9, bool true), (10, .ro {} 7 (A.map fa)), (11, .ro ⟨true, false⟩ 7 (B.map fa)), (122, .ro {} 7 (A.map fa)), (123, int A.length), (124, int k)], [], 1⟩
abbrev fN7 (B A : List Fa) (k : Nat) (X : List Fa) (f : Fa) : AS := ⟨[(9, bool true), (10, .ro {} 7 (A.map fa)), (11, .ro ⟨true, false⟩ 7 (B.map fa)), (122, .ro {} 7 (A.map fa)), (123, int A.length), (124, int k), (22, .ptr 1 7 0 0)], [(1, .row 7 fty [fa f])], 2⟩
abbrev fN8 (B A : List Fa) (k : Nat) (X : List Fa) (f : Fa) (i : Nat) : AS := ⟨[(9, bool true), (10, .ro {} 7 (A.map fa)), (11, .ro ⟨true, false⟩ 7 (B.map fa)), (122, .ro {} 7 (A.map fa)), (123, int A.length), (124, int k), (22, .ptr 1 7 0 0), (130, .slm {} 2 7 0 (B ++ A).length), (131, int (B ++ A).length), (132, int i)], [(1, .row 7 fty [fa f]), (2, rwF (B ++ A))], 3⟩

theorem fNFrz {x z : Nat} (e : E) (B A : List Fa) : SW x z (fN2 e B A) (fNr e B A) := by
  have h := SW.frz (p := x) (n := z) (s := fN2 e B A) [1] ?_ ?_ ?_
  · have e : (⟨frFrz (fN2 e B A).H [1].contains (fN2 e B A).fr, AH.frz (fN2 e B A).H (fN2 e B A).H [1].contains, (fN2 e B A).nx⟩ : AS) = fNr e B A := by
      refine congr (congr (congrArg AS.mk ?_) ?_) rfl
      · simp [frFrz, AV.frz, AH.get]
        exact List.take_of_length_le (by simp)
      · rfl
    exact e ▸ h
  · simp [rowsOk, AH.get, pure_fa]
  · rfl
  · simp [frFrzOk, AV.frzOk, AH.get]
theorem fNFrz2 {q r : Nat} (B A : List Fa) (xs : List E) (j : Nat) (x : E) (D : List Cg) : SW q r (fN4 B A xs j x D) (fN4r B A xs j x D) := by
  have h := SW.frz (p := q) (n := r) (s := fN4 B A xs j x D) [2] ?_ ?_ ?_
  · have e : (⟨frFrz (fN4 B A xs j x D).H [2].contains (fN4 B A xs j x D).fr, AH.frz (fN4 B A xs j x D).H (fN4 B A xs j x D).H [2].contains, (fN4 B A xs j x D).nx⟩ : AS) = fN4r B A xs j x D := by
      refine congr (congr (congrArg AS.mk ?_) ?_) rfl
      · have h1 := fun H F => (frz_nameless H F (.ro {} 15 (xs.map en)) rfl).1
        simp [frFrz, AV.frz, AH.get]
        exact List.take_of_length_le (by simp)
      · rfl
    exact e ▸ h
  · simp [rowsOk, AH.get, pure_cg]
  · rfl
  · simp [frFrzOk, AV.frzOk, AH.get]
set_option maxHeartbeats 3200000 in
set_option maxRecDepth 100000 in
theorem facts_N (L M : List (Fl × List Int)) (raw : List Fa) (e : E) (A0 B : List Fa) (hraw : raw.length ≤ 9223372036854775807) (kraw : ∀ x ∈ raw, okF x) (he : okI e.id)
    (hA0 : A0.length ≤ 12) (kA0 : ∀ x ∈ A0, AF x) (hB : B.length ≤ 12) (kB : ∀ x ∈ B, AF x)
    (hMA : AFun Tryz.prog 7 0 [.ro {} 1 (L.map iA)] [] (.slm {} 0 7 0 A0.length) [(0, rwF A0)]) (hMB : AFun Tryz.prog 7 0 [.ro {} 1 (M.map iA)] [] (.sc (.slice none 0 0)) []) (hB0 : B = []) :
    AFun Tryz.prog 3 0 [.ro {} 1 (L.map iA), .ro {} 1 (M.map iA), .ro {} 7 (raw.map fa), en e] [] (bool true) [] := by
  have hmR : (raw.map fa).length = raw.length := List.length_map _
  refine AFun.of_VS T_ok Tryz.func3 rfl (Nat.le_of_ble_eq_true rfl) ?_
  refine VS.cut T_ok mixed rfl ?_
  ((repeat ((conv => whnf); (first | (refine LetN.pre ?_; first | ((conv => arg 1; whnf); refine LetN.mk ?_)) | (refine As.pre ?_; first | refine As.mk rfl ?_) | (refine Ck.pre ?_; first | refine Ck.mk rfl ?_)))); (try (conv => whnf)))
  refine VS.cut T_ok mixed rfl ?_
  ((repeat ((conv => whnf); (first | (refine As.pre ?_; first | refine As.mk rfl ?_) | (refine Ck.pre ?_; first | refine Ck.mk rfl ?_) | (refine CallN.pre ?_; first | refine CallN.pure sanity_f rfl rfl ?_)))); (try (conv => whnf)))
  refine VS.cut T_ok mixed rfl ?_
  ((repeat ((conv => whnf); (first | (refine LetN.pre ?_; first | ((conv => arg 1; whnf); refine LetN.mk ?_)) | (refine As.pre ?_; first | refine As.mk rfl ?_) | (refine Ck.pre ?_; first | refine Ck.mk rfl ?_) | (refine LetL.pre ?_; first | refine LetL.mk (ty := fty) _ (renL_none (pure_fa _)).symm ?_) | (refine CallN.pre ?_; first | (refine CallN.own (fun i => i + 1) hMA (CallOk.mk' rfl rfl rfl rfl rfl (namesAll.row (pure_fa _) rfl) trivial) ?_) | refine CallN.pure hMB rfl rfl ?_)))); (try (conv => whnf)))



  clear hMA hMB
  refine VS.cut T_ok mixed rfl ?_
  ((repeat ((conv => whnf); (first | (refine LetN.pre ?_; first | ((conv => arg 1; whnf); refine LetN.mk ?_)) | (refine As.pre ?_; first | refine As.mk rfl ?_) | (refine Ck.pre ?_; first | refine Ck.mk rfl ?_) | (refine LetL.pre ?_; first | refine LetL.mk [_] rfl ?_)))); (try (conv => whnf)))
  refine VS.joinN (fun A => fN2 e B A) (fun A => A.length ≤ 16 ∧ ∀ x ∈ A, AF x) ?loop1 ?rest1
  case loop1 =>
    refine VS.of_V T_ok mixed rfl ?_
    ((repeat ((conv => whnf); (first | (refine As.pre ?_; first | refine As.mk rfl ?_) | (refine Ck.pre ?_; first | refine Ck.mk rfl ?_)))); (try (conv => whnf)))
    refine LoopN.weak (s1 := fN1 raw e B (0, A0)) ?sw0 ?_
    case sw0 => exact SW.mk id rfl rfl (namesAll.row rfl (namesAll.row (pure_fa _) rfl)) ⟨.refl _, .refl _, .refl _, VLe2.slm_of rfl, (by subst hB0; exact nilfull), .refl _, trivial⟩ (haveV.row rfl rfl (haveV.row (pure_fa _) rfl trivial))
    refine LoopN.ind T_ok mixed (S := fN1 raw e B) (fun i => 4 - i.1) (fun i => i.1 ≤ 4 ∧ i.2.length ≤ 12 + i.1 ∧ ∀ x ∈ i.2, AF x) (fun _ => rfl) (fun i hi ih => ?_) (0, A0) ⟨Nat.zero_le _, hA0, kA0⟩
    obtain ⟨k, A⟩ := i
    obtain ⟨h1, h2, h3⟩ := hi
    dsimp only at h1 h2 h3
    by_cases hlt : k < raw.length ∧ k < 4
    case neg =>
      clear ih
      by_cases hk : k < raw.length
      · have h4 : ¬ k < 4 := fun h => hlt ⟨hk, h⟩
        ((repeat ((conv => whnf); (first | (refine As.pre ?_; first | refine As.mk rfl ?_) | (refine LetI.pre ?_; first | refine LetI.mk _ rfl ?_) | (refine LetB.pre ?_; first | refine LetB.dect (by omega) ?_ | refine LetB.decf (by omega) ?_) | (refine Gd.pre ?_; first | refine Gd.run rfl ?_) | (refine Br.pre ?_; first | refine Br.ff rfl ?_) | (refine Ck.pre ?_; first | refine Ck.mk rfl ?_)))); (try (conv => whnf)))
        exact ⟨rfl, A, ⟨by omega, h3⟩, SW.mk id rfl rfl (namesAll.row rfl (namesAll.row (pure_fa _) rfl)) ⟨.refl _, .refl _, .refl _, .refl _, trivial⟩ (haveV.row rfl rfl (haveV.row (pure_fa _) rfl trivial))⟩
      · ((repeat ((conv => whnf); (first | (refine As.pre ?_; first | refine As.mk rfl ?_) | (refine LetI.pre ?_; first | refine LetI.mk _ rfl ?_) | (refine LetB.pre ?_; first | refine LetB.decf (by omega) ?_) | (refine Gd.pre ?_; first | refine Gd.pass rfl ?_) | (refine Br.pre ?_; first | refine Br.ff rfl ?_) | (refine Ck.pre ?_; first | refine Ck.mk rfl ?_)))); (try (conv => whnf)))
        exact ⟨rfl, A, ⟨by omega, h3⟩, SW.mk id rfl rfl (namesAll.row rfl (namesAll.row (pure_fa _) rfl)) ⟨.refl _, .refl _, .refl _, .refl _, trivial⟩ (haveV.row rfl rfl (haveV.row (pure_fa _) rfl trivial))⟩
    obtain ⟨hk, hk4⟩ := hlt
    have hld := fa_ld hk
    have hcf := cut_af (kraw _ (getD_memF hk))
    have hnx := ih (k + 1, A ++ [cutF (raw.getD k fa0)]) ⟨hk4, by dsimp only; rw [List.length_append]; show A.length + 1 ≤ _; omega, fun x hx => by
      rcases List.mem_append.1 hx with hx | hx
      · exact h3 x hx
      · rw [List.mem_singleton.1 hx]; exact hcf⟩ (by show 4 - (k + 1) < 4 - k; omega)
    clear ih h3 hcf
    generalize raw.getD k fa0 = f at hld hnx
    have r1 := room_fa (n := A.length + 1) (by omega)
    have a1 := app_fa A (cutF f) A.length rfl
    have l1 : (A ++ [cutF f]).length = A.length + 1 := by simp
    ((repeat ((conv => whnf); (first | (refine LetN.pre ?_; first | ((conv => arg 1; whnf); refine LetN.mk ?_)) | (refine As.pre ?_; first | refine As.mk rfl ?_ | (refine As.mk ?_ ?_; · ((repeat' (refine andT ?_ ?_)) <;> (first | rfl | assumption | exact decide_eq_true (by omega) | exact decide_eq_true (by dsimp only; omega) | exact decide_eq_true (by simp; omega) | (simp; done))))) | (refine LetV.pre ?_; first | refine LetV.mk (t := fsl) _ hld ?_ | refine LetV.mk (.sc _) rfl ?_ | refine LetV.mk (.agg _) rfl ?_) | (refine LetI.pre ?_; first | refine LetI.wrap (by omega) (by omega) ?_ | refine LetI.mk _ rfl ?_) | (refine LetB.pre ?_; first | refine LetB.dect (by omega) ?_) | (refine Gd.pre ?_; first | refine Gd.run rfl ?_) | (refine Br.pre ?_; first | refine Br.tt rfl ?_) | (refine Ck.pre ?_; first | refine Ck.mk rfl ?_) | (refine LetL.pre ?_; first | refine LetL.mk (ty := fty) _ a1 ?_ | refine LetL.mk [_] rfl ?_)))); (try (conv => whnf)))
    refine LoopN.weak ?sw1 hnx
    case sw1 => exact SW.mk rdA rfl rfl (namesAll.row rfl (namesAll.row (pure_fa _) rfl)) ⟨.refl _, .refl _, .refl _, VLe2.slm_of l1, .refl _, VLe2.int (by omega), trivial⟩ (haveV.row rfl rfl (haveV.row (pure_fa _) rfl trivial))
  case rest1 =>
    rintro A ⟨hA, kA⟩
    clear hmR hraw kraw kA0 hA0
    clear raw A0
    refine VS.weak (fNFrz e B A) ?_
    refine VS.cut T_ok mixed rfl ?_
    ((repeat ((conv => whnf); (first | (refine LetN.pre ?_; first | ((conv => arg 1; whnf); refine LetN.mk ?_)) | (refine As.pre ?_; first | refine As.mk rfl ?_) | (refine LetV.pre ?_; first | refine LetV.mk (.agg _) rfl ?_) | (refine Ck.pre ?_; first | refine Ck.mk rfl ?_) | (refine LetL.pre ?_; first | refine LetL.mk [_] rfl ?_)))); (try (conv => whnf)))
    have hMod := Mod_f e.day 800 (by omega)
    refine VS.cut T_ok mixed rfl ?_
    ((repeat ((conv => whnf); (first | (refine LetN.pre ?_; first | ((conv => arg 1; whnf); refine LetN.mk ?_)) | (refine As.pre ?_; first | refine As.mk rfl ?_) | (refine LetV.pre ?_; first | refine LetV.mk (.sc (.int _ _)) rfl ?_) | (refine Ck.pre ?_; first | refine Ck.mk rfl ?_) | (refine LetL.pre ?_; first | refine LetL.mk [_] rfl ?_) | (refine CallN.pre ?_; first | refine CallN.pure hMod rfl rfl ?_)))); (try (conv => whnf)))
    clear hMod
    refine VS.joinN (fun _ : Unit => fNE B A) (fun _ => True) ?loop2 ?rest2
    case loop2 =>
      refine VS.cut T_ok mixed rfl ?_
      ((repeat ((conv => whnf); (first | (refine As.pre ?_; first | refine As.mk rfl ?_) | (refine LetV.pre ?_; first | refine LetV.mk (.agg _) rfl ?_) | (refine LetI.pre ?_; first | refine LetI.mk _ rfl ?_) | (refine Ck.pre ?_; first | refine Ck.mk rfl ?_)))); (try (conv => whnf)))
      obtain ⟨xs, hxs⟩ : ∃ xs : List E, xs = [eZ e, eN e] := ⟨_, rfl⟩
      have hxl : xs.length = 2 := by rw [hxs]; rfl
      have hxi : ∀ x ∈ xs, okI x.id := by
        rw [hxs]; intro x hx
        rcases List.mem_cons.1 hx with rfl | hx
        · exact he
        · rw [List.mem_singleton.1 hx]; exact he
      refine VS.weak (s1 := fN3 B A xs 0) ?sw2 ?_
      case sw2 =>
        subst hxs
        exact SW.mk id rfl rfl rfl ⟨.refl _, .refl _, .refl _, VLe2.ro_of rfl, VLe2.int rfl, .refl _, trivial⟩ trivial
      clear hxs
      refine VS.block (VS.loop ?_)
      have hmX : (xs.map en).length = xs.length := List.length_map _
      refine LoopN.indS (S := fN3 B A xs) (fun j => xs.length - j) (fun j => j ≤ xs.length) (fun j hj ih => ?_) 0 (Nat.zero_le _)
      by_cases hlt : j < xs.length
      case neg =>
        clear ih
        refine VS.of_V T_ok mixed rfl ?_
        ((repeat ((conv => whnf); (first | (refine As.pre ?_; first | refine As.mk rfl ?_) | (refine LetB.pre ?_; first | refine LetB.decf (by omega) ?_) | (refine Br.pre ?_; first | refine Br.ff rfl ?_) | (refine Ck.pre ?_; first | refine Ck.mk rfl ?_)))); (try (conv => whnf)))
        exact ⟨rfl, (), trivial, SW.mk id rfl rfl rfl ⟨.refl _, .refl _, .refl _, trivial⟩ trivial⟩
      have hld : en (xs.getD j e0) = (xs.map en).getD j (.sc undef) := mapD e0 hlt
      have hxid := hxi (xs.getD j e0) (by rw [List.getD_eq_getElem?_getD, List.getElem?_eq_getElem hlt]; exact List.getElem_mem _)
      have hnx := ih (j + 1) hlt (by omega)
      clear ih hxi
      generalize xs.getD j e0 = x at hld hxid
      refine VS.cut T_ok mixed rfl ?_
      ((repeat ((conv => whnf); (first | (refine As.pre ?_; first | refine As.mk rfl ?_) | (refine LetB.pre ?_; first | refine LetB.dect (by omega) ?_) | (refine Ck.pre ?_; first | refine Ck.mk rfl ?_)))); (try (conv => whnf)))
      refine VS.cut T_ok mixed rfl ?_
      ((repeat ((conv => whnf); (first | (refine Br.pre ?_; first | refine Br.tt rfl ?_) | (refine Ck.pre ?_; first | refine Ck.mk rfl ?_)))); (try (conv => whnf)))
      refine VS.joinN (fun _ : Unit => fN3 B A xs j) (fun _ => True) ?body ?next
      case next =>
        intro _ _
        refine VS.of_V T_ok mixed rfl ?_
        ((repeat ((conv => whnf); (first | (refine As.pre ?_; first | refine As.mk rfl ?_) | (refine LetI.pre ?_; first | refine LetI.wrap (by omega) (by omega) ?_) | (refine Ck.pre ?_; first | refine Ck.mk rfl ?_)))); (try (conv => whnf)))
        refine LoopN.weak ?sw3 hnx
        case sw3 => exact SW.mk id rfl rfl rfl ⟨.refl _, .refl _, .refl _, .refl _, .refl _, VLe2.int (by omega), trivial⟩ trivial
      case body =>
        clear hnx
        refine VS.block ?_
        have nA : AV.names (fun _ => false) (.ro {} 7 (A.map fa)) = true := rfl
        have hmB : B.length = (B.map fa).length := (List.length_map _).symm
        have d1 := Differ16_s A B x {} ⟨true, false⟩ hA (by omega) (af_all kA) (af_all kB)
        have d2 := rDiffer_s A B x {} ⟨true, false⟩ hA (by omega)
        have d3 := Differ16_s B A x ⟨true, false⟩ {} (by omega) hA (af_all kB) (af_all kA)
        have d4 := rDiffer_s B A x ⟨true, false⟩ {} (by omega) hA
        have hD := dif_ac (a := A) (b := B) (e := x) kA kB hxid
        have lD := dif_len (e := x) hA (show B.length ≤ 16 by omega)
        have lD' := dif_len (e := x) (show B.length ≤ 16 by omega) hA
        generalize difP A B x = D at d1 d2 hD lD
        generalize difP B A x = D' at d3 d4 lD'
        have s1 := fun f1 f2 => rSame_f D f1 f2 (by omega)
        have s2 := fun f1 f2 => rSame_f D' f1 f2 (by omega)
        have hmD : D.length = (D.map cgA).length := (List.length_map _).symm
        have hmD' : D'.length = (D'.map cgA).length := (List.length_map _).symm
        refine VS.cut T_ok mixed rfl ?_
        ((repeat ((conv => whnf); (first | (refine LetN.pre ?_; first | ((conv => arg 1; whnf); refine LetN.mk ?_)) | (refine As.pre ?_; first | refine As.mk rfl ?_ | (refine As.mk ?_ ?_; · ((repeat' (refine andT ?_ ?_)) <;> (first | rfl | assumption | exact decide_eq_true (by omega) | exact decide_eq_true (by dsimp only; omega) | exact decide_eq_true (by simp; omega) | (simp; done))))) | (refine LetV.pre ?_; first | refine LetV.mk (t := 33) _ hld ?_ | refine LetV.mk (.agg _) rfl ?_) | (refine Ck.pre ?_; first | refine Ck.mk rfl ?_) | (refine LetL.pre ?_; first | refine LetL.mk [_] rfl ?_)))); (try (conv => whnf)))
        refine VS.cut T_ok mixed rfl ?_
        ((repeat ((conv => whnf); (first | (refine LetN.pre ?_; first | ((conv => arg 1; whnf); refine LetN.mk ?_)) | (refine As.pre ?_; first | refine As.mk rfl ?_) | (refine LetV.pre ?_; first | refine LetV.mk (.agg _) rfl ?_) | (refine Ck.pre ?_; first | refine Ck.drawn (by kernel_rfl) ?_ | refine Ck.mk rfl ?_) | (refine LetL.pre ?_; first | refine LetL.mk _ rfl ?_) | (refine CallN.pre ?_; first | refine CallN.lendOwn 2 d1 (.same nA (.same rfl (.same rfl .nil))) rfl rfl rfl (plain_cg _) ?_ | refine CallN.lendOwn 3 d2 (.same nA (.same rfl (.same rfl .nil))) rfl rfl rfl (plain_cg _) ?_)))); (try (conv => whnf)))


        refine VS.cut T_ok mixed rfl ?_
        ((repeat ((conv => whnf); (first | (refine LetN.pre ?_; first | ((conv => arg 1; whnf); refine LetN.mk ?_)) | (refine As.pre ?_; first | refine As.mk rfl ?_) | (refine LetV.pre ?_; first | refine LetV.mk (.agg _) rfl ?_) | (refine Gd.pre ?_; first | refine Gd.run rfl ?_) | (refine Br.pre ?_; first | refine Br.ff rfl ?_) | (refine Ck.pre ?_; first | refine Ck.drawn (by kernel_rfl) ?_ | refine Ck.mk rfl ?_) | (refine LetL.pre ?_; first | refine LetL.mk _ rfl ?_) | (refine CallN.pre ?_; first | refine CallN.lend (s1 _ _) rfl (.full rfl (pure_cg D) hmD (.full rfl (pure_cg D) hmD .nil)) ?_ | refine CallN.lend (s2 _ _) rfl (.full rfl (pure_cg D') hmD' (.full rfl (pure_cg D') hmD' .nil)) ?_ | refine CallN.lendOwn 4 d3 (.same rfl (.same nA (.same rfl .nil))) rfl rfl rfl (plain_cg _) ?_ | refine CallN.lendOwn 5 d4 (.same rfl (.same nA (.same rfl .nil))) rfl rfl rfl (plain_cg _) ?_)))); (try (conv => whnf)))




        clear d1 d2 d3 d4 s1 s2 lD' hmD'
        refine VS.weak (s1 := fN4 B A xs j x D) ?sw4 ?_
        case sw4 => exact SW.mk rdB rfl rfl (namesAll.row rfl (namesAll.row (pure_cg _) rfl)) ⟨.refl _, .refl _, .refl _, .refl _, .refl _, .refl _, .refl _, VLe2.slm_of rfl, trivial⟩ (haveV.row rfl rfl (haveV.row (pure_cg _) rfl trivial))
        clear D'
        refine VS.weak (fNFrz2 B A xs j x D) ?_
        refine VS.cut T_ok mixed rfl ?_
        ((repeat ((conv => whnf); (first | (refine As.pre ?_; first | refine As.mk rfl ?_) | (refine LetI.pre ?_; first | refine LetI.mk _ rfl ?_) | (refine Ck.pre ?_; first | refine Ck.mk rfl ?_)))); (try (conv => whnf)))
        refine VS.weak (s1 := fN5 B A xs j x D 0) ?sw5 ?_
        case sw5 => exact SW.mk id rfl rfl (namesAll.row rfl rfl) ⟨.refl _, .refl _, .refl _, .refl _, .refl _, .refl _, .refl _, .refl _, VLe2.int (by rw [← hmD]), .refl _, trivial⟩ (haveV.row rfl rfl trivial)
        refine VS.block (VS.loop ?_)
        refine LoopN.indS (S := fN5 B A xs j x D) (fun i => D.length - i) (fun i => i ≤ D.length) (fun i hi ih => ?_) 0 (Nat.zero_le _)
        by_cases hlt2 : i < D.length
        case neg =>
          clear ih
          refine VS.of_V T_ok mixed rfl ?_
          ((repeat ((conv => whnf); (first | (refine As.pre ?_; first | refine As.mk rfl ?_) | (refine LetB.pre ?_; first | refine LetB.decf (by omega) ?_) | (refine Br.pre ?_; first | refine Br.ff rfl ?_) | (refine Ck.pre ?_; first | refine Ck.mk rfl ?_)))); (try (conv => whnf)))
          exact ⟨rfl, (), trivial, SW.mk id rfl rfl rfl ⟨.refl _, .refl _, .refl _, .refl _, .refl _, .refl _, trivial⟩ trivial⟩
        have hld2 := cgD_ld hlt2
        have hcc := hD _ (cgD_mem hlt2)
        have hni := ih (i + 1) hlt2 (by omega)
        clear ih hD
        generalize D.getD i cg0' = c at hld2 hcc
        have t1 := TextF_f hcc.nums (by have := hcc.f.size; omega)
        have t2 := rText_f hcc.nums (by have := hcc.f.size; omega)
        have k1 := Kept_f c.f x
        have k2 := rKept_f c.f x
        generalize textP c = tx at t1 t2
        have hs := str_same tx
        generalize keptP c.f x.day = kp at k1 k2
        have hkk := bool_same kp
        obtain ⟨f, g, kp', en'⟩ := c
        dsimp only at k1 k2
        refine VS.of_V T_ok mixed rfl ?_
        ((repeat ((conv => whnf); (first | (refine LetN.pre ?_; first | ((conv => arg 1; whnf); refine LetN.mk ?_)) | (refine As.pre ?_; first | refine As.mk rfl ?_ | (refine As.mk ?_ ?_; · ((repeat' (refine andT ?_ ?_)) <;> (first | rfl | assumption | exact decide_eq_true (by omega) | exact decide_eq_true (by dsimp only; omega) | exact decide_eq_true (by simp; omega) | (simp; done))))) | (refine LetV.pre ?_; first | refine LetV.mk (t := csl) _ hld2 ?_ | refine LetV.mk (.agg _) rfl ?_) | (refine LetI.pre ?_; first | refine LetI.wrap (by omega) (by omega) ?_) | (refine LetB.pre ?_; first | refine LetB.mk (o := some .neq) false hs ?_ | refine LetB.mk (o := some .neq) false hkk ?_ | refine LetB.dect (by omega) ?_) | (refine Gd.pre ?_; first | refine Gd.run rfl ?_) | (refine Br.pre ?_; first | refine Br.tt rfl ?_ | refine Br.ff rfl ?_) | (refine Ck.pre ?_; first | refine Ck.drawn (by kernel_rfl) ?_ | refine Ck.mk rfl ?_) | (refine LetL.pre ?_; first | refine LetL.mk [_] rfl ?_) | (refine CallN.pre ?_; first | refine CallN.pure t1 rfl rfl ?_ | refine CallN.pure t2 rfl rfl ?_ | refine CallN.pure k1 rfl rfl ?_ | refine CallN.pure k2 rfl rfl ?_)))); (try (conv => whnf)))







        refine LoopN.weak ?sw6 hni
        case sw6 => exact SW.mk id rfl rfl (namesAll.row rfl rfl) ⟨.refl _, .refl _, .refl _, .refl _, .refl _, .refl _, .refl _, .refl _, .refl _, VLe2.int (by omega), trivial⟩ (haveV.row rfl rfl trivial)
    case rest2 =>
      intro _ _
      clear kB kA he
      have hGb : (B ++ A).length ≤ 28 := by rw [List.length_append]; omega
      have hmA : (A.map fa).length = A.length := List.length_map _
      have hmB : (B.map fa).length = B.length := List.length_map _
      refine VS.joinN (fun _ : Unit => fZ) (fun _ => True) ?loop6 ?fin
      case fin =>
        intro _ _
        refine VS.of_V T_ok mixed rfl ?_
        ((repeat ((conv => whnf); (first | (refine As.pre ?_; first | refine As.mk rfl ?_) | (refine Ck.pre ?_; first | refine Ck.mk rfl ?_)))); (try (conv => whnf)))
        exact ⟨_, SW.refl, .inl rfl, ⟨_, rfl, rfl⟩, trivial⟩
      case loop6 =>
        refine VS.cut T_ok mixed rfl ?_
        ((repeat ((conv => whnf); (first | (refine As.pre ?_; first | refine As.mk rfl ?_) | (refine LetI.pre ?_; first | refine LetI.mk _ rfl ?_) | (refine Ck.pre ?_; first | refine Ck.mk rfl ?_)))); (try (conv => whnf)))
        refine VS.weak (s1 := fN6 B A (0, [])) ?sw7 ?_
        case sw7 => exact SW.mk id rfl rfl rfl ⟨.refl _, .refl _, .refl _, .refl _, VLe2.int (by rw [hmA]), .refl _, trivial⟩ trivial
        refine VS.block (VS.loop ?_)
        refine LoopN.indS (S := fun k => fN6 B A (k, [])) (fun k => A.length - k) (fun k => k ≤ A.length) (fun k hk ih => ?_) 0 (Nat.zero_le _)
        by_cases hlt : k < A.length
        case neg =>
          clear ih
          refine VS.of_V T_ok mixed rfl ?_
          ((repeat ((conv => whnf); (first | (refine As.pre ?_; first | refine As.mk rfl ?_) | (refine LetB.pre ?_; first | refine LetB.decf (by omega) ?_) | (refine Br.pre ?_; first | refine Br.ff rfl ?_) | (refine Ck.pre ?_; first | refine Ck.mk rfl ?_)))); (try (conv => whnf)))
          exact ⟨rfl, (), trivial, SW.mk id rfl rfl rfl ⟨.refl _, trivial⟩ trivial⟩
        have hld := fa_ld hlt
        have hnx := ih (k + 1) hlt (by omega)
        clear ih
        generalize A.getD k fa0 = f at hld
        refine VS.cut T_ok mixed rfl ?_
        ((repeat ((conv => whnf); (first | (refine As.pre ?_; first | refine As.mk rfl ?_) | (refine LetB.pre ?_; first | refine LetB.dect (by omega) ?_) | (refine Ck.pre ?_; first | refine Ck.mk rfl ?_)))); (try (conv => whnf)))
        refine VS.cut T_ok mixed rfl ?_
        ((repeat ((conv => whnf); (first | (refine Br.pre ?_; first | refine Br.tt rfl ?_) | (refine Ck.pre ?_; first | refine Ck.mk rfl ?_)))); (try (conv => whnf)))
        refine VS.joinN (fun _ : Unit => fN6 B A (k, [])) (fun _ => True) ?body ?next
        case next =>
          intro _ _
          refine VS.of_V T_ok mixed rfl ?_
          ((repeat ((conv => whnf); (first | (refine As.pre ?_; first | refine As.mk rfl ?_) | (refine LetI.pre ?_; first | refine LetI.wrap (by omega) (by omega) ?_) | (refine Ck.pre ?_; first | refine Ck.mk rfl ?_)))); (try (conv => whnf)))
          refine LoopN.weak ?sw8 hnx
          case sw8 => exact SW.mk id rfl rfl rfl ⟨.refl _, .refl _, .refl _, .refl _, .refl _, VLe2.int (by omega), trivial⟩ trivial
        case body =>
          clear hnx
          have hr : room ((B.map fa).length + (A.map fa).length) 64 = true := room_fa (by rw [hmA, hmB, hB0]; simp; omega)
          have hG : B.map fa ++ A.map fa = (B ++ A).map fa := List.map_append.symm
          have hGl : (B ++ A).length = (B.map fa).length + (A.map fa).length := by rw [List.length_append, hmA, hmB]
          have hst := stor_fa A
          have hmG : ((B ++ A).map fa).length = (B ++ A).length := List.length_map _
          refine VS.block ?_
          refine VS.cut T_ok mixed rfl ?_
          ((repeat ((conv => whnf); (first | (refine LetN.pre ?_; first | ((conv => arg 1; whnf); refine LetN.mk ?_)) | (refine As.pre ?_; first | refine As.mk rfl ?_ | (refine As.mk ?_ ?_; · ((repeat' (refine andT ?_ ?_)) <;> (first | rfl | assumption | exact decide_eq_true (by omega) | exact decide_eq_true (by dsimp only; omega) | exact decide_eq_true (by simp; omega) | (simp; done))))) | (refine LetV.pre ?_; first | refine LetV.mk (t := fsl) _ hld ?_ | refine LetV.mk (.agg _) rfl ?_) | (refine Ck.pre ?_; first | refine Ck.mk rfl ?_) | (refine LetL.pre ?_; first | refine LetL.mk [_] rfl ?_)))); (try (conv => whnf)))
          refine VS.weak (s1 := fN7 B A k [] f) ?sw10 ?_
          case sw10 => exact SW.mk id rfl rfl (namesAll.row rfl rfl) ⟨.refl _, .refl _, .refl _, .refl _, .refl _, .refl _, .refl _, trivial⟩ (haveV.row rfl rfl trivial)
          refine VS.cut T_ok mixed rfl ?_
          ((repeat ((conv => whnf); (first | (refine LetN.pre ?_; first | ((conv => arg 1; whnf); refine LetN.mk ?_)) | (refine As.pre ?_; first | refine As.mk rfl ?_ | (refine As.mk ?_ ?_; · ((repeat' (refine andT ?_ ?_)) <;> (first | rfl | assumption | exact decide_eq_true (by omega) | exact decide_eq_true (by dsimp only; omega) | exact decide_eq_true (by simp; omega) | (simp; done))))) | (refine LetI.pre ?_; first | refine LetI.mk _ rfl ?_) | (refine Ck.pre ?_; first | refine Ck.mk rfl ?_) | (refine LetL.pre ?_; first | refine LetL.mk _ rfl ?_)))); (try (conv => whnf)))
          refine VS.weak (s1 := fN8 B A k [] f 0) ?sw11 ?_
          case sw11 => exact SW.mk id rfl rfl (namesAll.row rfl (namesAll.row (pure_fa _) rfl)) ⟨.refl _, .refl _, .refl _, .refl _, .refl _, .refl _, .refl _, VLe2.slm_of hGl, VLe2.int (by rw [hGl]), .refl _, trivial⟩ (haveV.row rfl rfl (haveV.row (pure_fa _) (congrArg (fun es => some (Blk.row 7 fty es)) hG) trivial))
          refine VS.block (VS.loop ?_)
          refine LoopN.indS (S := fN8 B A k [] f) (fun i => (B ++ A).length - i) (fun i => i ≤ (B ++ A).length) (fun i hi ih => ?_) 0 (Nat.zero_le _)
          by_cases hlt2 : i < (B ++ A).length
          case neg =>
            clear ih
            refine VS.of_V T_ok mixed rfl ?_
            ((repeat ((conv => whnf); (first | (refine As.pre ?_; first | refine As.mk rfl ?_) | (refine LetB.pre ?_; first | refine LetB.decf (by omega) ?_) | (refine Br.pre ?_; first | refine Br.ff rfl ?_) | (refine Ck.pre ?_; first | refine Ck.mk rfl ?_)))); (try (conv => whnf)))
            exact ⟨rfl, (), trivial, SW.mk id rfl rfl rfl ⟨.refl _, .refl _, .refl _, .refl _, .refl _, .refl _, trivial⟩ trivial⟩
          have hld2 := part_fa hlt2
          have hni := ih (i + 1) hlt2 (by omega)
          clear ih
          generalize (B ++ A).getD i fa0 = g at hld2
          have l1 := Less_f f g
          have l2 := rLess_f f g
          generalize ltF f g = q at l1 l2
          have hqq := bool_same q
          refine VS.of_V T_ok mixed rfl ?_
          ((repeat ((conv => whnf); (first | (refine LetN.pre ?_; first | ((conv => arg 1; whnf); refine LetN.mk ?_)) | (refine As.pre ?_; first | refine As.mk rfl ?_ | (refine As.mk ?_ ?_; · ((repeat' (refine andT ?_ ?_)) <;> (first | rfl | assumption | exact decide_eq_true (by omega) | exact decide_eq_true (by dsimp only; omega) | exact decide_eq_true (by simp; omega) | (simp; done))))) | (refine LetV.pre ?_; first | refine LetV.mk (t := fty) _ hld2 ?_ | refine LetV.mk (.agg _) rfl ?_) | (refine LetI.pre ?_; first | refine LetI.wrap (by omega) (by omega) ?_) | (refine LetB.pre ?_; first | refine LetB.mk (o := some .neq) false hqq ?_ | refine LetB.dect (by omega) ?_) | (refine Br.pre ?_; first | refine Br.tt rfl ?_ | refine Br.ff rfl ?_) | (refine Ck.pre ?_; first | refine Ck.drawn (by kernel_rfl) ?_ | refine Ck.mk rfl ?_) | (refine LetL.pre ?_; first | refine LetL.mk [_] rfl ?_) | (refine CallN.pre ?_; first | refine CallN.pure l1 rfl rfl ?_ | refine CallN.pure l2 rfl rfl ?_)))); (try (conv => whnf)))




          refine LoopN.weak ?sw9 hni
          case sw9 => exact SW.mk id rfl rfl (namesAll.row rfl (namesAll.row (pure_fa _) rfl)) ⟨.refl _, .refl _, .refl _, .refl _, .refl _, .refl _, .refl _, .refl _, .refl _, VLe2.int (by omega), trivial⟩ (haveV.row rfl rfl (haveV.row (pure_fa _) rfl trivial))
end En
end Go.Proofs.YtgnakhljdjekbaaGreatDoor
namespace Go.Proofs.YtgnakhljdjekbaaGreatDoor
open Go.Proofs.YtgnakhljdjekbaaGreatDoor.Am
set_option maxRecDepth 100000
namespace En
theorem factsLaw_f (L M : List (Fl × List Int)) (raw : List Fa) (e : E) (hL : L.length ≤ 9223372036854775807) (hx : ∀ x ∈ L, x.2.length ≤ 9223372036854775807) (hM : M.length ≤ 9223372036854775807) (hy : ∀ x ∈ M, x.2.length ≤ 9223372036854775807)
    (hraw : raw.length ≤ 9223372036854775807) (kraw : ∀ x ∈ raw, okF x) (he : okI e.id) :
    AFun Tryz.prog 3 0 [.ro {} 1 (L.map iA), .ro {} 1 (M.map iA), .ro {} 7 (raw.map fa), en e] [] (bool true) [] := by
  obtain ⟨A0, ⟨⟨hA0, _⟩, kA0⟩, hMA⟩ := Made24n_s L {} hL hx
  by_cases h : M = []
  · subst h
    exact facts_N L [] raw e A0 [] hraw kraw he hA0 (fun x hx => (kA0 x hx).af) (Nat.zero_le _) (fun x hx => absurd hx List.not_mem_nil) hMA (Made24_nil {}) rfl
  · obtain ⟨B, ⟨⟨hB, hne⟩, kB⟩, hMB⟩ := Made24n_s M {} hM hy
    exact facts_S L M raw e A0 B hraw kraw he hA0 (fun x hx => (kA0 x hx).af) hB (fun x hx => (kB x hx).af) hMA hMB (List.length_pos_iff.2 (hne h))
/-- A fact and an entry, as the row gives them. -/
abbrev FT : Type := Int × Int × Int × Int × Int × Int × ByteArray
def toFa (x : FT) : Fa := ⟨x.1, x.2.1, x.2.2.1, x.2.2.2.1, x.2.2.2.2.1, x.2.2.2.2.2.1, x.2.2.2.2.2.2⟩
abbrev ETF : Type := Int × Int × Int × Int × Int × Int × ByteArray × Int × Int × Int × Int × Int × Int × Int × ByteArray
def toEF (x : ETF) : E := ⟨x.1, x.2.1, x.2.2.1, x.2.2.2.1, x.2.2.2.2.1, x.2.2.2.2.2.1, x.2.2.2.2.2.2.1, x.2.2.2.2.2.2.2.1, x.2.2.2.2.2.2.2.2.1, x.2.2.2.2.2.2.2.2.2.1, x.2.2.2.2.2.2.2.2.2.2.1, x.2.2.2.2.2.2.2.2.2.2.2.1, x.2.2.2.2.2.2.2.2.2.2.2.2.1, x.2.2.2.2.2.2.2.2.2.2.2.2.2.1, x.2.2.2.2.2.2.2.2.2.2.2.2.2.2⟩
abbrev shFact : Sh := .pair (.int .i64) (.pair (.int .i64) (.pair (.int .i64) (.pair (.int .i64) (.pair (.int .i64) (.pair (.int .i64) .str)))))
theorem facts_row (x : List (List Int)) (k : x.length ≤ maxLen) (kk : ∀ l ∈ x, l.length ≤ maxLen) (y : List (List Int)) (ky : y.length ≤ maxLen) (kyy : ∀ l ∈ y, l.length ≤ maxLen) (raw : List FT) (kr : raw.length ≤ maxLen) (krr : ∀ d ∈ raw, shFact.ok d) (e : ETF) (he : IntKind.i64.min ≤ e.1 ∧ e.1 ≤ IntKind.i64.max) :
    AFun Tryz.prog 3 0 [.ro {} 1 (x.map fun l => mkE false [AV.ro {} 1 (l.map fun n => mkE false [int n])]), .ro {} 1 (y.map fun l => mkE false [AV.ro {} 1 (l.map fun n => mkE false [int n])]), .ro {} 7 (raw.map fun f => fa (toFa f)), en (toEF e)] [] (bool true) [] := by
  have h := factsLaw_f (x.map fun l => (({} : Fl), l)) (y.map fun l => (({} : Fl), l)) (raw.map toFa) (toEF e) (by rw [List.length_map]; exact k) (fun z hz => by
    obtain ⟨l, hl, rfl⟩ := List.mem_map.1 hz
    exact kk l hl) (by rw [List.length_map]; exact ky) (fun z hz => by
    obtain ⟨l, hl, rfl⟩ := List.mem_map.1 hz
    exact kyy l hl) (by rw [List.length_map]; exact kr) (fun z hz => by
    obtain ⟨d, hd, rfl⟩ := List.mem_map.1 hz
    obtain ⟨h1, h2, h3, h4, h5, h6, h7⟩ := krr d hd
    exact ⟨h1, h2, h3, h4, h5, h6, h7⟩) he
  rw [List.map_map, List.map_map, List.map_map] at h
  exact h
end En
end Go.Proofs.YtgnakhljdjekbaaGreatDoor
