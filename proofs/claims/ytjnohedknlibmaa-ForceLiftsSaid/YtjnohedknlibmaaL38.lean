/- force: parts of the proof, DforceFJ DforceFK DforceGE DforceGF DforceFL DforceGG DforceFM DforceFN DforceFO. -/
import Derived.Test.YtjnohedknlibmaaL37
import Derived.Shelf.GgClosure.StringsIndexFunc
set_option linter.all false
namespace Go.Proofs.Ytjnohedknlibmaa
open Go.Proofs.Ytjnohedknlibmaa.Am
namespace En
def stepR (g : E) (x : Int × Int × Int × Bool) (c : E) : Int × Int × Int × Bool := if c.ref = g.id then stepC x c else x
def rstand (l C F : List E) (a o : Int) (g : E) : St := ⟨g.id, (C.foldl (stepR g) (0, g.grade, 0, false)).1, (C.foldl (stepR g) (0, g.grade, 0, false)).2.1, F.any fun f => decide (f.ref = g.id) && !rLiftedP l f.id a o⟩
def rAtP (l : List E) (a o : Int) : List St := (countP l 3 a o).map (rstand l (countP l 4 a o) (countP l 5 a o) a o)
abbrev ratS (l G C F : List E) (fl : Fl) (a o : Int) : Nat × List St → AS
  | (k, out) => ⟨[(0, .ro fl 15 (l.map en)), (1, int a), (2, int o), (7, .ro {} 15 (G.map en)), (8, .ro {} 15 (C.map en)), (9, .ro {} 15 (F.map en)), (10, .slm {} 0 4 0 out.length), (11, int k)], [(0, .row 4 sty (out.map stA))], 1⟩
abbrev ratA (l G C F : List E) (fl : Fl) (a o : Int) (k : Nat) (out : List St) (g : E) : Nat × Int × Int × Int × Bool → AS
  | (i, b, gr, d, s) => ⟨[(0, .ro fl 15 (l.map en)), (1, int a), (2, int o), (7, .ro {} 15 (G.map en)), (8, .ro {} 15 (C.map en)), (9, .ro {} 15 (F.map en)), (10, .slm {} 0 4 0 out.length), (11, int k), (12, .ptr 1 15 0 0), (13, .ptr 2 4 0 0), (14, int d), (15, bool s), (16, int i)],
      [(0, .row 4 sty (out.map stA)), (1, .row 15 ety [en g]), (2, .row 4 sty [stA ⟨g.id, b, gr, false⟩])], 3⟩
abbrev ratB (l G C F : List E) (fl : Fl) (a o : Int) (k : Nat) (out : List St) (g : E) (b gr : Int) : Nat × Bool → AS
  | (i, v) => ⟨[(0, .ro fl 15 (l.map en)), (1, int a), (2, int o), (7, .ro {} 15 (G.map en)), (8, .ro {} 15 (C.map en)), (9, .ro {} 15 (F.map en)), (10, .slm {} 0 4 0 out.length), (11, int k), (12, .ptr 1 15 0 0), (13, .ptr 2 4 0 0), (18, int i)],
      [(0, .row 4 sty (out.map stA)), (1, .row 15 ety [en g]), (2, .row 4 sty [stA ⟨g.id, b, gr, v⟩])], 3⟩
theorem ratNames (g : E) (s : St) (out : List St) (ok : Nat → Bool) : namesAll ok [(0, .row 4 sty (out.map stA)), (1, .row 15 ety [en g]), (2, .row 4 sty [stA s])] = true :=
  namesAll.row (pure_st _) (namesAll.row rfl (namesAll.row rfl rfl))
set_option maxHeartbeats 1600000 in
set_option maxRecDepth 100000 in
theorem rAt_s (l : List E) (a o : Int) (fl : Fl) (hl : l.length ≤ 100000) : AFun Try.prog 41 0 [.ro fl 15 (l.map en), int a, int o] [] (.slm {} 0 4 0 (rAtP l a o).length) [(0, .row 4 sty ((rAtP l a o).map stA))] := by
  refine AFun.of_S T_ok mixed Try.func41 rfl (Nat.le_of_ble_eq_true rfl) rfl ?_
  have hc3 := counting_f l 3 a o fl hl
  have hl3 := countP_length l 3 a o
  have hc4 := counting_f l 4 a o fl hl
  have hl4 := countP_length l 4 a o
  have hc5 := counting_f l 5 a o fl hl
  have hl5 := countP_length l 5 a o
  rw [rAtP]
  generalize countP l 3 a o = G at hc3 hl3 ⊢
  generalize countP l 4 a o = C at hc4 hl4 ⊢
  generalize countP l 5 a o = F at hc5 hl5 ⊢
  ((repeat ((conv => whnf); (first | (refine As.pre ?_; first | refine As.mk rfl ?_) | (refine Ck.pre ?_; first | refine Ck.mk rfl ?_) | (refine CallN.pre ?_; first | refine CallN.pure hc3 rfl rfl ?_ | refine CallN.pure hc4 rfl rfl ?_ | refine CallN.pure hc5 rfl rfl ?_)))); (try (conv => whnf)))



  clear hc3 hc4 hc5
  refine LoopN.weak (s1 := ratS l G C F fl a o (0, [])) ?sw1 ?_
  case sw1 => exact SW.mk id rfl rfl rfl ⟨.refl _, .refl _, .refl _, .refl _, .refl _, .refl _, VLe2.nilslm, .refl _, trivial⟩ (haveV.nil (Nat.le_refl _) trivial)
  refine LoopN.ind T_ok mixed (S := ratS l G C F fl a o) (fun i => G.length - i.1) (fun i => i.1 ≤ G.length ∧ i.2 = (G.take i.1).map (rstand l C F a o)) (fun _ => rfl) (fun i hi ih => ?_) (0, []) ⟨Nat.zero_le _, rfl⟩
  obtain ⟨k, out⟩ := i
  obtain ⟨h1, h2⟩ := hi
  simp only at h1 h2 ih
  have hGl : (G.map en).length = G.length := List.length_map _
  have hCl : (C.map en).length = C.length := List.length_map _
  have hFl : (F.map en).length = F.length := List.length_map _
  by_cases hlt : k < G.length
  case neg =>
    have hk : k = G.length := by omega
    subst hk
    rw [List.take_length] at h2
    rw [← h2]
    clear ih
    ((repeat ((conv => whnf); (first | (refine As.pre ?_; first | refine As.mk rfl ?_) | (refine LetI.pre ?_; first | refine LetI.mk _ rfl ?_) | (refine LetB.pre ?_; first | refine LetB.decf (by omega) ?_) | (refine Br.pre ?_; first | refine Br.ff rfl ?_) | (refine Ck.pre ?_; first | refine Ck.mk rfl ?_)))); (try (conv => whnf)))
    exact ⟨⟨[(6, .slm {} 0 4 0 out.length)], [(0, .row 4 sty (out.map stA))], 3⟩, SW.mk id rfl rfl (namesAll.row (pure_st _) rfl) ⟨.refl _, trivial⟩ (haveV.row (pure_st _) rfl trivial), .inl rfl, ⟨_, rfl, rfl⟩, rfl, trivial⟩
  have hld : en (G.getD k e0) = (G.map en).getD k (.sc undef) := mapD e0 hlt
  have hq := take_map_succ (rstand l C F a o) hlt e0
  rw [← h2] at hq
  have hol : out.length = k := by rw [h2]; simp; omega
  clear h2
  generalize G.getD k e0 = g at hld hq
  have hst : rstand l C F a o g = ⟨g.id, (C.foldl (stepR g) (0, g.grade, 0, false)).1, (C.foldl (stepR g) (0, g.grade, 0, false)).2.1, F.any fun f => decide (f.ref = g.id) && !rLiftedP l f.id a o⟩ := rfl
  ((repeat ((conv => whnf); (first | (refine LetN.pre ?_; first | ((conv => arg 1; whnf); refine LetN.mk ?_)) | (refine As.pre ?_; first | refine As.mk rfl ?_ | (refine As.mk ?_ ?_; · ((repeat' (refine andT ?_ ?_)) <;> (first | rfl | assumption | exact decide_eq_true (by omega) | exact decide_eq_true (by dsimp only; omega) | exact decide_eq_true (by simp; omega) | (simp; done))))) | (refine LetV.pre ?_; first | refine LetV.mk (t := 29) _ hld ?_ | refine LetV.mk (.sc (.int _ _)) rfl ?_ | refine LetV.mk (.agg _) rfl ?_) | (refine LetI.pre ?_; first | refine LetI.mk _ rfl ?_) | (refine LetB.pre ?_; first | refine LetB.dect (by omega) ?_) | (refine Br.pre ?_; first | refine Br.tt rfl ?_) | (refine Ck.pre ?_; first | refine Ck.mk rfl ?_) | (refine LetL.pre ?_; first | refine LetL.mk [_] rfl ?_)))); (try (conv => whnf)))
  refine LoopN.weak (s1 := ratA l G C F fl a o k out g (0, 0, g.grade, 0, false)) ?sw2 ?_
  case sw2 => exact SW.mk id rfl rfl (ratNames ..) ⟨.refl _, .refl _, .refl _, .refl _, .refl _, .refl _, .refl _, .refl _, .refl _, .refl _, .refl _, .refl _, .refl _, trivial⟩ (haveV.row (pure_st _) rfl (haveV.row rfl rfl (haveV.row rfl rfl trivial)))
  generalize hX : C.foldl (stepR g) (0, g.grade, 0, false) = X at hst
  refine LoopN.ind T_ok mixed (S := ratA l G C F fl a o k out g) (fun i => C.length - i.1) (fun i => i.1 ≤ C.length ∧ X = (C.drop i.1).foldl (stepR g) i.2) (fun _ => rfl) (fun i hi ihA => ?_) (0, 0, g.grade, 0, false) ⟨Nat.zero_le _, hX.symm⟩
  obtain ⟨i, b, gr, d, s⟩ := i
  obtain ⟨g1, g2⟩ := hi
  simp only at g1 g2 ihA
  by_cases hiC : i < C.length
  case pos =>
    have hldc : en (C.getD i e0) = (C.map en).getD i (.sc undef) := mapD e0 hiC
    rw [foldl_drop _ hiC e0] at g2
    generalize C.getD i e0 = c at hldc g2
    have next : ∀ (b' gr' d' : Int) (s' : Bool), stepR g (b, gr, d, s) c = (b', gr', d', s') → LoopN Try.prog 0 Try.f41.ntmps _ (ratA l G C F fl a o k out g (i + 1, b', gr', d', s')) _ := fun b' gr' d' s' hs' => ihA (i + 1, b', gr', d', s') ⟨by omega, by rw [← hs']; exact g2⟩ (by omega)
    clear ihA ih
    have swk : ∀ (b' gr' d' : Int) (s' : Bool), namesAll (fun i => decide (i < 0) || (List.map Prod.fst (ratA l G C F fl a o k out g (i, b', gr', d', s')).H).contains i) (ratA l G C F fl a o k out g (i, b', gr', d', s')).H = true := fun _ _ _ _ => ratNames ..
    by_cases q0 : c.ref = g.id
    case neg =>
      ((repeat ((conv => whnf); (first | (refine LetN.pre ?_; first | ((conv => arg 1; whnf); refine LetN.mk ?_)) | (refine As.pre ?_; first | refine As.mk rfl ?_ | (refine As.mk ?_ ?_; · ((repeat' (refine andT ?_ ?_)) <;> (first | rfl | assumption | exact decide_eq_true (by omega) | exact decide_eq_true (by dsimp only; omega) | exact decide_eq_true (by simp; omega) | (simp; done))))) | (refine LetV.pre ?_; first | refine LetV.mk (t := 29) _ hldc ?_ | refine LetV.mk (.sc (.int _ _)) rfl ?_ | refine LetV.mk (.agg _) rfl ?_) | (refine LetI.pre ?_; first | refine LetI.wrap (by omega) (by omega) ?_ | refine LetI.mk _ rfl ?_) | (refine LetB.pre ?_; first | refine LetB.dect (by omega) ?_ | refine LetB.decf (by omega) ?_) | (refine Gd.pre ?_; first | refine Gd.pass rfl ?_) | (refine Br.pre ?_; first | refine Br.tt rfl ?_ | refine Br.ff rfl ?_) | (refine Ck.pre ?_; first | refine Ck.mk rfl ?_) | (refine LetL.pre ?_; first | refine LetL.mk [_] rfl ?_)))); (try (conv => whnf)))
      refine LoopN.weak ?sw3 (next b gr d s (if_neg q0))
      case sw3 => exact SW.mk id rfl rfl (ratNames ..) ⟨.refl _, .refl _, .refl _, .refl _, .refl _, .refl _, .refl _, .refl _, .refl _, .refl _, .refl _, .refl _, VLe2.int (by omega), trivial⟩ (haveV.row (pure_st _) rfl (haveV.row rfl rfl (haveV.row rfl rfl trivial)))
    cases s with
    | false =>
      ((repeat ((conv => whnf); (first | (refine LetN.pre ?_; first | ((conv => arg 1; whnf); refine LetN.mk ?_)) | (refine As.pre ?_; first | refine As.mk rfl ?_ | (refine As.mk ?_ ?_; · ((repeat' (refine andT ?_ ?_)) <;> (first | rfl | assumption | exact decide_eq_true (by omega) | exact decide_eq_true (by dsimp only; omega) | exact decide_eq_true (by simp; omega) | (simp; done))))) | (refine LetV.pre ?_; first | refine LetV.mk (t := 29) _ hldc ?_ | refine LetV.mk (.sc (.int _ _)) rfl ?_ | refine LetV.mk (.agg _) rfl ?_) | (refine LetI.pre ?_; first | refine LetI.wrap (by omega) (by omega) ?_ | refine LetI.mk _ rfl ?_) | (refine LetB.pre ?_; first | refine LetB.dect (by omega) ?_) | (refine Gd.pre ?_; first | refine Gd.run rfl ?_ | refine Gd.pass rfl ?_) | (refine Br.pre ?_; first | refine Br.tt rfl ?_) | (refine Ck.pre ?_; first | refine Ck.mk rfl ?_) | (refine LetL.pre ?_; first | refine LetL.mk [_] rfl ?_)))); (try (conv => whnf)))
      refine LoopN.weak ?sw4 (next c.id c.grade c.day true ((if_pos q0).trans (if_pos (.inl rfl))))
      case sw4 => exact SW.mk id rfl rfl (ratNames ..) ⟨.refl _, .refl _, .refl _, .refl _, .refl _, .refl _, .refl _, .refl _, .refl _, .refl _, .refl _, .refl _, VLe2.int (by omega), trivial⟩ (haveV.row (pure_st _) rfl (haveV.row rfl rfl (haveV.row rfl rfl trivial)))
    | true =>
      by_cases q1 : d < c.day
      · ((repeat ((conv => whnf); (first | (refine LetN.pre ?_; first | ((conv => arg 1; whnf); refine LetN.mk ?_)) | (refine As.pre ?_; first | refine As.mk rfl ?_ | (refine As.mk ?_ ?_; · ((repeat' (refine andT ?_ ?_)) <;> (first | rfl | assumption | exact decide_eq_true (by omega) | exact decide_eq_true (by dsimp only; omega) | exact decide_eq_true (by simp; omega) | (simp; done))))) | (refine LetV.pre ?_; first | refine LetV.mk (t := 29) _ hldc ?_ | refine LetV.mk (.sc (.int _ _)) rfl ?_ | refine LetV.mk (.agg _) rfl ?_) | (refine LetI.pre ?_; first | refine LetI.wrap (by omega) (by omega) ?_ | refine LetI.mk _ rfl ?_) | (refine LetB.pre ?_; first | refine LetB.dect (by omega) ?_) | (refine Gd.pre ?_; first | refine Gd.run rfl ?_ | refine Gd.pass rfl ?_) | (refine Br.pre ?_; first | refine Br.tt rfl ?_) | (refine Ck.pre ?_; first | refine Ck.mk rfl ?_) | (refine LetL.pre ?_; first | refine LetL.mk [_] rfl ?_)))); (try (conv => whnf)))
        refine LoopN.weak ?sw5 (next c.id c.grade c.day true ((if_pos q0).trans (if_pos (.inr (.inl q1)))))
        case sw5 => exact SW.mk id rfl rfl (ratNames ..) ⟨.refl _, .refl _, .refl _, .refl _, .refl _, .refl _, .refl _, .refl _, .refl _, .refl _, .refl _, .refl _, VLe2.int (by omega), trivial⟩ (haveV.row (pure_st _) rfl (haveV.row rfl rfl (haveV.row rfl rfl trivial)))
      · by_cases q2 : c.day = d
        · by_cases q3 : b < c.id
          · ((repeat ((conv => whnf); (first | (refine LetN.pre ?_; first | ((conv => arg 1; whnf); refine LetN.mk ?_)) | (refine As.pre ?_; first | refine As.mk rfl ?_ | (refine As.mk ?_ ?_; · ((repeat' (refine andT ?_ ?_)) <;> (first | rfl | assumption | exact decide_eq_true (by omega) | exact decide_eq_true (by dsimp only; omega) | exact decide_eq_true (by simp; omega) | (simp; done))))) | (refine LetV.pre ?_; first | refine LetV.mk (t := 29) _ hldc ?_ | refine LetV.mk (.sc (.int _ _)) rfl ?_ | refine LetV.mk (.agg _) rfl ?_) | (refine LetI.pre ?_; first | refine LetI.wrap (by omega) (by omega) ?_ | refine LetI.mk _ rfl ?_) | (refine LetB.pre ?_; first | refine LetB.dect (by omega) ?_ | refine LetB.decf (by omega) ?_) | (refine Gd.pre ?_; first | refine Gd.run rfl ?_) | (refine Br.pre ?_; first | refine Br.tt rfl ?_) | (refine Ck.pre ?_; first | refine Ck.mk rfl ?_) | (refine LetL.pre ?_; first | refine LetL.mk [_] rfl ?_)))); (try (conv => whnf)))
            refine LoopN.weak ?sw6 (next c.id c.grade c.day true ((if_pos q0).trans (if_pos (.inr (.inr ⟨q2, q3⟩)))))
            case sw6 => exact SW.mk id rfl rfl (ratNames ..) ⟨.refl _, .refl _, .refl _, .refl _, .refl _, .refl _, .refl _, .refl _, .refl _, .refl _, .refl _, .refl _, VLe2.int (by omega), trivial⟩ (haveV.row (pure_st _) rfl (haveV.row rfl rfl (haveV.row rfl rfl trivial)))
          · ((repeat ((conv => whnf); (first | (refine LetN.pre ?_; first | ((conv => arg 1; whnf); refine LetN.mk ?_)) | (refine As.pre ?_; first | refine As.mk rfl ?_ | (refine As.mk ?_ ?_; · ((repeat' (refine andT ?_ ?_)) <;> (first | rfl | assumption | exact decide_eq_true (by omega) | exact decide_eq_true (by dsimp only; omega) | exact decide_eq_true (by simp; omega) | (simp; done))))) | (refine LetV.pre ?_; first | refine LetV.mk (t := 29) _ hldc ?_ | refine LetV.mk (.sc (.int _ _)) rfl ?_ | refine LetV.mk (.agg _) rfl ?_) | (refine LetI.pre ?_; first | refine LetI.wrap (by omega) (by omega) ?_ | refine LetI.mk _ rfl ?_) | (refine LetB.pre ?_; first | refine LetB.dect (by omega) ?_ | refine LetB.decf (by omega) ?_) | (refine Gd.pre ?_; first | refine Gd.run rfl ?_) | (refine Br.pre ?_; first | refine Br.tt rfl ?_ | refine Br.ff rfl ?_) | (refine Ck.pre ?_; first | refine Ck.mk rfl ?_) | (refine LetL.pre ?_; first | refine LetL.mk [_] rfl ?_)))); (try (conv => whnf)))
            refine LoopN.weak ?sw7 (next b gr d true ((if_pos q0).trans (if_neg (by rintro (h | h | h) <;> simp at h <;> omega))))
            case sw7 => exact SW.mk id rfl rfl (ratNames ..) ⟨.refl _, .refl _, .refl _, .refl _, .refl _, .refl _, .refl _, .refl _, .refl _, .refl _, .refl _, .refl _, VLe2.int (by omega), trivial⟩ (haveV.row (pure_st _) rfl (haveV.row rfl rfl (haveV.row rfl rfl trivial)))
        · ((repeat ((conv => whnf); (first | (refine LetN.pre ?_; first | ((conv => arg 1; whnf); refine LetN.mk ?_)) | (refine As.pre ?_; first | refine As.mk rfl ?_ | (refine As.mk ?_ ?_; · ((repeat' (refine andT ?_ ?_)) <;> (first | rfl | assumption | exact decide_eq_true (by omega) | exact decide_eq_true (by dsimp only; omega) | exact decide_eq_true (by simp; omega) | (simp; done))))) | (refine LetV.pre ?_; first | refine LetV.mk (t := 29) _ hldc ?_ | refine LetV.mk (.sc (.int _ _)) rfl ?_ | refine LetV.mk (.agg _) rfl ?_) | (refine LetI.pre ?_; first | refine LetI.wrap (by omega) (by omega) ?_ | refine LetI.mk _ rfl ?_) | (refine LetB.pre ?_; first | refine LetB.dect (by omega) ?_ | refine LetB.decf (by omega) ?_) | (refine Gd.pre ?_; first | refine Gd.run rfl ?_ | refine Gd.pass rfl ?_) | (refine Br.pre ?_; first | refine Br.tt rfl ?_ | refine Br.ff rfl ?_) | (refine Ck.pre ?_; first | refine Ck.mk rfl ?_) | (refine LetL.pre ?_; first | refine LetL.mk [_] rfl ?_)))); (try (conv => whnf)))
          refine LoopN.weak ?sw8 (next b gr d true ((if_pos q0).trans (if_neg (by rintro (h | h | h) <;> simp at h <;> omega))))
          case sw8 => exact SW.mk id rfl rfl (ratNames ..) ⟨.refl _, .refl _, .refl _, .refl _, .refl _, .refl _, .refl _, .refl _, .refl _, .refl _, .refl _, .refl _, VLe2.int (by omega), trivial⟩ (haveV.row (pure_st _) rfl (haveV.row rfl rfl (haveV.row rfl rfl trivial)))
  case neg =>
    clear ihA
    rw [List.drop_eq_nil_of_le (by omega), List.foldl_nil] at g2
    rw [g2] at hst
    simp only at hst
    ((repeat ((conv => whnf); (first | (refine As.pre ?_; first | refine As.mk rfl ?_) | (refine LetI.pre ?_; first | refine LetI.mk _ rfl ?_) | (refine LetB.pre ?_; first | refine LetB.decf (by omega) ?_) | (refine Br.pre ?_; first | refine Br.ff rfl ?_) | (refine Ck.pre ?_; first | refine Ck.mk rfl ?_)))); (try (conv => whnf)))
    refine LoopN.weak (s1 := ratB l G C F fl a o k out g b gr (0, false)) ?sw9 ?_
    case sw9 => exact SW.mk id rfl rfl (ratNames ..) ⟨.refl _, .refl _, .refl _, .refl _, .refl _, .refl _, .refl _, .refl _, .refl _, .refl _, .refl _, trivial⟩ (haveV.row (pure_st _) rfl (haveV.row rfl rfl (haveV.row rfl rfl trivial)))
    generalize hY : (F.any fun f => decide (f.ref = g.id) && !rLiftedP l f.id a o) = Y at hst
    refine LoopN.ind T_ok mixed (S := ratB l G C F fl a o k out g b gr) (fun i => F.length - i.1) (fun i => i.1 ≤ F.length ∧ Y = (i.2 || (F.drop i.1).any fun f => decide (f.ref = g.id) && !rLiftedP l f.id a o)) (fun _ => rfl) (fun i hi ihB => ?_) (0, false) ⟨Nat.zero_le _, by rw [← hY]; rfl⟩
    obtain ⟨i, v⟩ := i
    obtain ⟨g3, g4⟩ := hi
    simp only at g3 g4 ihB
    by_cases hiF : i < F.length
    case pos =>
      have hldf : en (F.getD i e0) = (F.map en).getD i (.sc undef) := mapD e0 hiF
      rw [any_drop _ hiF e0, ← Bool.or_assoc] at g4
      generalize F.getD i e0 = f at hldf g4
      have hL := rLifted_f l f.id a o fl hl
      generalize rLiftedP l f.id a o = u at hL g4
      have next := ihB (i + 1, v || (decide (f.ref = g.id) && !u)) ⟨by omega, g4⟩ (by show F.length - (i + 1) < F.length - i; omega)
      clear g4 ih ihB
      by_cases q0 : f.ref = g.id
      case neg =>
        rw [decide_eq_false q0, Bool.false_and, Bool.or_false] at next
        ((repeat ((conv => whnf); (first | (refine As.pre ?_; first | refine As.mk rfl ?_ | (refine As.mk ?_ ?_; · ((repeat' (refine andT ?_ ?_)) <;> (first | rfl | assumption | exact decide_eq_true (by omega) | exact decide_eq_true (by dsimp only; omega) | exact decide_eq_true (by simp; omega) | (simp; done))))) | (refine LetV.pre ?_; first | refine LetV.mk (t := 29) _ hldf ?_ | refine LetV.mk (.sc (.int _ _)) rfl ?_) | (refine LetI.pre ?_; first | refine LetI.wrap (by omega) (by omega) ?_ | refine LetI.mk _ rfl ?_) | (refine LetB.pre ?_; first | refine LetB.dect (by omega) ?_ | refine LetB.decf (by omega) ?_) | (refine Gd.pre ?_; first | refine Gd.pass rfl ?_) | (refine Br.pre ?_; first | refine Br.tt rfl ?_ | refine Br.ff rfl ?_) | (refine Ck.pre ?_; first | refine Ck.drawn (by kernel_rfl) ?_ | refine Ck.mk rfl ?_)))); (try (conv => whnf)))
        refine LoopN.weak ?sw10 next
        case sw10 => exact SW.mk id rfl rfl (ratNames ..) ⟨.refl _, .refl _, .refl _, .refl _, .refl _, .refl _, .refl _, .refl _, .refl _, .refl _, VLe2.int (by omega), trivial⟩ (haveV.row (pure_st _) rfl (haveV.row rfl rfl (haveV.row rfl rfl trivial)))
      rw [decide_eq_true q0, Bool.true_and] at next
      cases u with
      | true =>
        rw [Bool.not_true, Bool.or_false] at next
        ((repeat ((conv => whnf); (first | (refine As.pre ?_; first | refine As.mk rfl ?_ | (refine As.mk ?_ ?_; · ((repeat' (refine andT ?_ ?_)) <;> (first | rfl | assumption | exact decide_eq_true (by omega) | exact decide_eq_true (by dsimp only; omega) | exact decide_eq_true (by simp; omega) | (simp; done))))) | (refine LetV.pre ?_; first | refine LetV.mk (t := 29) _ hldf ?_ | refine LetV.mk (.sc (.int _ _)) rfl ?_) | (refine LetI.pre ?_; first | refine LetI.wrap (by omega) (by omega) ?_ | refine LetI.mk _ rfl ?_) | (refine LetB.pre ?_; first | refine LetB.dect (by omega) ?_) | (refine Gd.pre ?_; first | refine Gd.run rfl ?_) | (refine Br.pre ?_; first | refine Br.tt rfl ?_ | refine Br.ff rfl ?_) | (refine Ck.pre ?_; first | refine Ck.drawn (by kernel_rfl) ?_ | refine Ck.mk rfl ?_) | (refine CallN.pre ?_; first | refine CallN.pure hL rfl rfl ?_)))); (try (conv => whnf)))


        refine LoopN.weak ?sw11 next
        case sw11 => exact SW.mk id rfl rfl (ratNames ..) ⟨.refl _, .refl _, .refl _, .refl _, .refl _, .refl _, .refl _, .refl _, .refl _, .refl _, VLe2.int (by omega), trivial⟩ (haveV.row (pure_st _) rfl (haveV.row rfl rfl (haveV.row rfl rfl trivial)))
      | false =>
        rw [Bool.not_false, Bool.or_true] at next
        ((repeat ((conv => whnf); (first | (refine LetN.pre ?_; first | ((conv => arg 1; whnf); refine LetN.mk ?_)) | (refine As.pre ?_; first | refine As.mk rfl ?_ | (refine As.mk ?_ ?_; · ((repeat' (refine andT ?_ ?_)) <;> (first | rfl | assumption | exact decide_eq_true (by omega) | exact decide_eq_true (by dsimp only; omega) | exact decide_eq_true (by simp; omega) | (simp; done))))) | (refine LetV.pre ?_; first | refine LetV.mk (t := 29) _ hldf ?_ | refine LetV.mk (.sc (.int _ _)) rfl ?_) | (refine LetI.pre ?_; first | refine LetI.wrap (by omega) (by omega) ?_ | refine LetI.mk _ rfl ?_) | (refine LetB.pre ?_; first | refine LetB.dect (by omega) ?_) | (refine Gd.pre ?_; first | refine Gd.run rfl ?_) | (refine Br.pre ?_; first | refine Br.tt rfl ?_) | (refine Ck.pre ?_; first | refine Ck.drawn (by kernel_rfl) ?_ | refine Ck.mk rfl ?_) | (refine LetL.pre ?_; first | refine LetL.mk [_] rfl ?_) | (refine CallN.pre ?_; first | refine CallN.pure hL rfl rfl ?_)))); (try (conv => whnf)))


        refine LoopN.weak ?sw12 next
        case sw12 => exact SW.mk id rfl rfl (ratNames ..) ⟨.refl _, .refl _, .refl _, .refl _, .refl _, .refl _, .refl _, .refl _, .refl _, .refl _, VLe2.int (by omega), trivial⟩ (haveV.row (pure_st _) rfl (haveV.row rfl rfl (haveV.row rfl rfl trivial)))
    case neg =>
      clear ihB
      rw [List.drop_eq_nil_of_le (by omega), List.any_nil, Bool.or_false] at g4
      rw [g4] at hst
      rw [hst] at hq
      have hr := room_st (n := out.length + 1) (by omega)
      have hol2 : (out.map stA).length = out.length := List.length_map _
      ((repeat ((conv => whnf); (first | (refine LetN.pre ?_; first | ((conv => arg 1; whnf); refine LetN.mk ?_)) | (refine As.pre ?_; first | refine As.mk rfl ?_ | (refine As.mk ?_ ?_; · ((repeat' (refine andT ?_ ?_)) <;> (first | rfl | assumption | exact decide_eq_true (by omega) | exact decide_eq_true (by dsimp only; omega) | exact decide_eq_true (by simp; omega) | (simp; done))))) | (refine LetV.pre ?_; first | refine LetV.mk (.agg _) rfl ?_) | (refine LetI.pre ?_; first | refine LetI.wrap (by omega) (by omega) ?_ | refine LetI.mk _ rfl ?_) | (refine LetB.pre ?_; first | refine LetB.decf (by omega) ?_) | (refine Br.pre ?_; first | refine Br.ff rfl ?_) | (refine Ck.pre ?_; first | refine Ck.mk rfl ?_) | (refine LetL.pre ?_; first | refine LetL.mk (ty := sty) _ (app_st out ⟨g.id, b, gr, v⟩ _ rfl) ?_)))); (try (conv => whnf)))

      refine LoopN.weak ?sw13 (ih (k + 1, out ++ [⟨g.id, b, gr, v⟩]) ⟨by omega, hq.symm⟩ (by omega))
      case sw13 => exact SW.mk (fun _ => 3) rfl rfl (namesAll.row (pure_st _) rfl) ⟨.refl _, .refl _, .refl _, .refl _, .refl _, .refl _, VLe2.slm_of (by simp), VLe2.int (by omega), trivial⟩ (haveV.row (pure_st _) rfl trivial)
theorem rAt_f (l : List E) (a o : Int) (fl : Fl) (hl : l.length ≤ 100000) : AFun Try.prog 41 0 [.ro fl 15 (l.map en), int a, int o] [] (.ro {} 4 ((rAtP l a o).map stA)) [] :=
  AFun.frz1 (H := []) (rAt_s l a o fl hl) rfl (pure_st _) (by simp)
end En
end Go.Proofs.Ytjnohedknlibmaa
namespace Go.Proofs.Ytjnohedknlibmaa
open Go.Proofs.Ytjnohedknlibmaa.Am
namespace En
theorem copyG {α : Type} (f : α → AV) (d : α) (out : List α) (p x y z w : Nat) (hx : x = p + 1) (hw : w = p) (hy : y = out.length - p) (hz : z = out.length + 1 - p) (hp : p ≤ out.length) :
    ((out ++ [d]).take (p + 1) ++ out.drop p).map f = splice ((out ++ [d]).map f) x (((((out ++ [d]).map f).drop w).take z).take y) := by
  subst hx hw hy hz
  have hM : ((((out ++ [d]).map f).drop w).take (out.length + 1 - w)).take (out.length - w) = (out.drop w).map f := by
    rw [List.take_take, Nat.min_eq_left (by omega), ← List.map_drop, ← List.map_take, List.drop_append_of_le_length hp, List.take_append_of_le_length (by simp), List.take_of_length_le (by simp)]
  rw [hM]
  unfold splice
  rw [List.drop_eq_nil_of_le (i := w + 1 + _) (by simp; omega), List.append_nil, List.map_append, List.map_take]
theorem setG {α : Type} (f : α → AV) (d : α) (out : List α) (p : Nat) (e : α) (hp : p ≤ out.length) : (out.take p ++ e :: out.drop p).map f = (((out ++ [d]).take (p + 1) ++ out.drop p).map f).set (0 + p) (f e) := by
  rw [Nat.zero_add, ← List.map_set]
  congr 1
  have hlt : p < (out ++ [d]).length := by simp; omega
  rw [List.take_succ_eq_append_getElem hlt, List.append_assoc, List.take_append_of_le_length hp, List.set_append_right _ _ (by simp; omega), List.length_take, Nat.min_eq_left hp, Nat.sub_self]
  rfl
def c0 : Ch := ⟨0, 0, 0, 0⟩
theorem getD_on {l : List Ch} {k : Nat} (h : k < l.length) : int (l.getD k c0).on_ = Am.part false 1 3 4 ((l.map chA).getD (0 + k) (.sc undef)) := by
  rw [Nat.zero_add, List.getD_eq_getElem?_getD, List.getD_eq_getElem?_getD, List.getElem?_map, List.getElem?_eq_getElem h]; rfl
theorem stor_ch (l : List Ch) (i j : Nat) : storables (((l.map chA).drop i).take j) = true := by
  refine List.all_eq_true.2 fun e he => ?_
  obtain ⟨p, _, rfl⟩ := List.mem_map.1 (List.mem_of_mem_drop (List.mem_of_mem_take he))
  rfl
def insCh (out : List Ch) (c : Ch) : List Ch := putB (fun x => decide (c.on_ < x.on_)) c0 out c
theorem insCh_length (out : List Ch) (c : Ch) : (insCh out c).length = out.length + 1 := by
  have := posB_le (fun x => decide (c.on_ < x.on_)) c0 out out.length
  simp only [insCh, putB, List.length_append, List.length_take, List.length_cons, List.length_drop]
  omega
def enQ (st pr : Int) (e : E) : Bool := decide (e.student = st ∧ e.programme = pr)
/-- The earliest enrolment. -/
def stepB (st pr : Int) (x : Int × Bool) (e : E) : Int × Bool := if (e.student = st ∧ e.programme = pr) ∧ (x.2 = false ∨ e.on_ < x.1) then (e.on_, true) else x
def rBegin (l : List E) (st pr a o : Int) : Int × Bool := (countP l 1 a o).foldl (stepB st pr) (0, false)
def rChoices (l : List E) (st pr b a o : Int) : List Ch := ((countP l 2 a o).filter (enQ st pr)).foldl (fun out e => insCh out ⟨pr, e.version, b, e.on_⟩) []
def rEnrolP (l : List E) (st pr a o : Int) : Int × List Ch × Bool := if (rBegin l st pr a o).2 then ((rBegin l st pr a o).1, rChoices l st pr (rBegin l st pr a o).1 a o, true) else (0, [], false)
abbrev chty : TypeId := 77
abbrev renS (l A : List E) (fl : Fl) (st pr a o : Int) : Nat × Int × Bool → AS
  | (k, b, s) => ⟨[(0, .ro fl 15 (l.map en)), (1, int st), (2, int pr), (3, int a), (4, int o), (13, .ro {} 15 (A.map en)), (14, int b), (15, bool s), (16, int k)], [], 0⟩
abbrev renT (C : List E) (st pr b : Int) : Nat × List Ch → AS
  | (k, out) => ⟨[(1, int st), (2, int pr), (14, int b), (18, .ro {} 15 (C.map en)), (19, .slm {} 0 4 0 out.length), (20, int k)], [(0, .row 4 chty (out.map chA))], 1⟩
abbrev renI (C : List E) (st pr b : Int) (k : Nat) (out : List Ch) (e : E) : Nat → AS
  | p => ⟨[(1, int st), (2, int pr), (14, int b), (18, .ro {} 15 (C.map en)), (19, .slm {} 0 4 0 out.length), (20, int k), (21, .ptr 1 15 0 0), (22, int p)], [(0, .row 4 chty (out.map chA)), (1, .row 15 ety [en e])], 2⟩
set_option maxHeartbeats 1600000 in
set_option maxRecDepth 100000 in
theorem rEnrol_f (l : List E) (st pr a o : Int) (fl : Fl) (hl : l.length ≤ 100000) : AFun Try.prog 44 0 [.ro fl 15 (l.map en), int st, int pr, int a, int o] [] (enrolV (rEnrolP l st pr a o)) [] := by
  have hc1 := counting_f l 1 a o fl hl
  have hl1 := countP_length l 1 a o
  have hc2 := counting_f l 2 a o fl hl
  have hl2 := countP_length l 2 a o
  rw [rEnrolP, rBegin]
  unfold rChoices
  generalize countP l 1 a o = A at hc1 hl1 ⊢
  generalize countP l 2 a o = C at hc2 hl2 ⊢
  have hAl : (A.map en).length = A.length := List.length_map _
  have hCl : (C.map en).length = C.length := List.length_map _
  generalize hX : A.foldl (stepB st pr) (0, false) = X
  cases hs : X.2 with
  | false =>
    simp only [Bool.false_eq_true, if_false]
    refine AFun.of_S T_ok mixed Try.func44 rfl (Nat.le_of_ble_eq_true rfl) rfl ?_
    ((repeat ((conv => whnf); (first | (refine As.pre ?_; first | refine As.mk rfl ?_) | (refine Ck.pre ?_; first | refine Ck.mk rfl ?_) | (refine CallN.pre ?_; first | refine CallN.pure hc1 rfl rfl ?_)))); (try (conv => whnf)))
    refine LoopN.weak (s1 := renS l A fl st pr a o (0, 0, false)) ?sw1 ?_
    case sw1 => exact SW.fr0 (Nat.le_refl _) rfl ⟨.refl _, .refl _, .refl _, .refl _, .refl _, .refl _, .refl _, .refl _, .refl _, trivial⟩
    refine LoopN.ind T_ok mixed (S := renS l A fl st pr a o) (fun i => A.length - i.1) (fun i => i.1 ≤ A.length ∧ X = (A.drop i.1).foldl (stepB st pr) i.2) (fun _ => rfl) (fun i hi ih => ?_) (0, 0, false) ⟨Nat.zero_le _, hX.symm⟩
    obtain ⟨k, b, s⟩ := i
    obtain ⟨h1, h2⟩ := hi
    simp only at h1 h2 ih
    by_cases hlt : k < A.length
    case neg =>
      rw [List.drop_eq_nil_of_le (by omega), List.foldl_nil] at h2
      rw [h2] at hs
      simp only at hs
      subst hs
      clear ih
      ((repeat ((conv => whnf); (first | (refine As.pre ?_; first | refine As.mk rfl ?_) | (refine LetI.pre ?_; first | refine LetI.mk _ rfl ?_) | (refine LetB.pre ?_; first | refine LetB.decf (by omega) ?_) | (refine Br.pre ?_; first | refine Br.tt rfl ?_ | refine Br.ff rfl ?_) | (refine Ck.pre ?_; first | refine Ck.mk rfl ?_)))); (try (conv => whnf)))
      exact ⟨⟨[(10, int 0), (11, .ro {} 4 []), (12, bool false)], [], 0⟩, SW.mk id rfl rfl rfl ⟨.refl _, VLe2.nilro, .refl _, trivial⟩ trivial, .inl rfl, ⟨_, rfl, rfl⟩, trivial⟩
    have hld : en (A.getD k e0) = (A.map en).getD k (.sc undef) := mapD e0 hlt
    rw [foldl_drop _ hlt e0] at h2
    generalize A.getD k e0 = e at hld h2
    have next : ∀ (b' : Int) (s' : Bool), stepB st pr (b, s) e = (b', s') → LoopN Try.prog 0 Try.f44.ntmps _ (renS l A fl st pr a o (k + 1, b', s')) _ := fun b' s' hs' => ih (k + 1, b', s') ⟨by omega, by rw [← hs']; exact h2⟩ (by show A.length - (k + 1) < A.length - k; omega)
    clear ih
    by_cases q1 : e.student = st
    case neg =>
      ((repeat ((conv => whnf); (first | (refine LetN.pre ?_; first | ((conv => arg 1; whnf); refine LetN.mk ?_)) | (refine As.pre ?_; first | refine As.mk rfl ?_ | (refine As.mk ?_ ?_; · ((repeat' (refine andT ?_ ?_)) <;> (first | rfl | assumption | exact decide_eq_true (by omega) | exact decide_eq_true (by dsimp only; omega) | exact decide_eq_true (by simp; omega) | (simp; done))))) | (refine LetV.pre ?_; first | refine LetV.mk (t := 29) _ hld ?_ | refine LetV.mk (.sc (.int _ _)) rfl ?_ | refine LetV.mk (.agg _) rfl ?_) | (refine LetI.pre ?_; first | refine LetI.wrap (by omega) (by omega) ?_ | refine LetI.mk _ rfl ?_) | (refine LetB.pre ?_; first | refine LetB.dect (by omega) ?_ | refine LetB.decf (by omega) ?_) | (refine Gd.pre ?_; first | refine Gd.pass rfl ?_) | (refine Br.pre ?_; first | refine Br.tt rfl ?_ | refine Br.ff rfl ?_) | (refine Ck.pre ?_; first | refine Ck.mk rfl ?_) | (refine LetL.pre ?_; first | refine LetL.mk [_] rfl ?_)))); (try (conv => whnf)))
      refine LoopN.weak ?swa (next b s (if_neg fun h => q1 h.1.1))
      case swa => exact SW.fr0 (Nat.zero_le _) rfl ⟨.refl _, .refl _, .refl _, .refl _, .refl _, .refl _, .refl _, .refl _, VLe2.int (by omega), trivial⟩
    by_cases q2 : e.programme = pr
    case neg =>
      ((repeat ((conv => whnf); (first | (refine LetN.pre ?_; first | ((conv => arg 1; whnf); refine LetN.mk ?_)) | (refine As.pre ?_; first | refine As.mk rfl ?_ | (refine As.mk ?_ ?_; · ((repeat' (refine andT ?_ ?_)) <;> (first | rfl | assumption | exact decide_eq_true (by omega) | exact decide_eq_true (by dsimp only; omega) | exact decide_eq_true (by simp; omega) | (simp; done))))) | (refine LetV.pre ?_; first | refine LetV.mk (t := 29) _ hld ?_ | refine LetV.mk (.sc (.int _ _)) rfl ?_ | refine LetV.mk (.agg _) rfl ?_) | (refine LetI.pre ?_; first | refine LetI.wrap (by omega) (by omega) ?_ | refine LetI.mk _ rfl ?_) | (refine LetB.pre ?_; first | refine LetB.dect (by omega) ?_ | refine LetB.decf (by omega) ?_) | (refine Gd.pre ?_; first | refine Gd.run rfl ?_ | refine Gd.pass rfl ?_) | (refine Br.pre ?_; first | refine Br.tt rfl ?_ | refine Br.ff rfl ?_) | (refine Ck.pre ?_; first | refine Ck.mk rfl ?_) | (refine LetL.pre ?_; first | refine LetL.mk [_] rfl ?_)))); (try (conv => whnf)))
      refine LoopN.weak ?swb (next b s (if_neg fun h => q2 h.1.2))
      case swb => exact SW.fr0 (Nat.zero_le _) rfl ⟨.refl _, .refl _, .refl _, .refl _, .refl _, .refl _, .refl _, .refl _, VLe2.int (by omega), trivial⟩
    cases s with
    | false =>
      ((repeat ((conv => whnf); (first | (refine LetN.pre ?_; first | ((conv => arg 1; whnf); refine LetN.mk ?_)) | (refine As.pre ?_; first | refine As.mk rfl ?_ | (refine As.mk ?_ ?_; · ((repeat' (refine andT ?_ ?_)) <;> (first | rfl | assumption | exact decide_eq_true (by omega) | exact decide_eq_true (by dsimp only; omega) | exact decide_eq_true (by simp; omega) | (simp; done))))) | (refine LetV.pre ?_; first | refine LetV.mk (t := 29) _ hld ?_ | refine LetV.mk (.sc (.int _ _)) rfl ?_ | refine LetV.mk (.agg _) rfl ?_) | (refine LetI.pre ?_; first | refine LetI.wrap (by omega) (by omega) ?_ | refine LetI.mk _ rfl ?_) | (refine LetB.pre ?_; first | refine LetB.dect (by omega) ?_) | (refine Gd.pre ?_; first | refine Gd.run rfl ?_ | refine Gd.pass rfl ?_) | (refine Br.pre ?_; first | refine Br.tt rfl ?_) | (refine Ck.pre ?_; first | refine Ck.mk rfl ?_) | (refine LetL.pre ?_; first | refine LetL.mk [_] rfl ?_)))); (try (conv => whnf)))
      refine LoopN.weak ?swc (next e.on_ true (if_pos ⟨⟨q1, q2⟩, .inl rfl⟩))
      case swc => exact SW.fr0 (Nat.zero_le _) rfl ⟨.refl _, .refl _, .refl _, .refl _, .refl _, .refl _, .refl _, .refl _, VLe2.int (by omega), trivial⟩
    | true =>
      by_cases q3 : e.on_ < b
      · ((repeat ((conv => whnf); (first | (refine LetN.pre ?_; first | ((conv => arg 1; whnf); refine LetN.mk ?_)) | (refine As.pre ?_; first | refine As.mk rfl ?_ | (refine As.mk ?_ ?_; · ((repeat' (refine andT ?_ ?_)) <;> (first | rfl | assumption | exact decide_eq_true (by omega) | exact decide_eq_true (by dsimp only; omega) | exact decide_eq_true (by simp; omega) | (simp; done))))) | (refine LetV.pre ?_; first | refine LetV.mk (t := 29) _ hld ?_ | refine LetV.mk (.sc (.int _ _)) rfl ?_ | refine LetV.mk (.agg _) rfl ?_) | (refine LetI.pre ?_; first | refine LetI.wrap (by omega) (by omega) ?_ | refine LetI.mk _ rfl ?_) | (refine LetB.pre ?_; first | refine LetB.dect (by omega) ?_) | (refine Gd.pre ?_; first | refine Gd.run rfl ?_) | (refine Br.pre ?_; first | refine Br.tt rfl ?_) | (refine Ck.pre ?_; first | refine Ck.mk rfl ?_) | (refine LetL.pre ?_; first | refine LetL.mk [_] rfl ?_)))); (try (conv => whnf)))
        refine LoopN.weak ?swd (next e.on_ true (if_pos ⟨⟨q1, q2⟩, .inr q3⟩))
        case swd => exact SW.fr0 (Nat.zero_le _) rfl ⟨.refl _, .refl _, .refl _, .refl _, .refl _, .refl _, .refl _, .refl _, VLe2.int (by omega), trivial⟩
      · ((repeat ((conv => whnf); (first | (refine LetN.pre ?_; first | ((conv => arg 1; whnf); refine LetN.mk ?_)) | (refine As.pre ?_; first | refine As.mk rfl ?_ | (refine As.mk ?_ ?_; · ((repeat' (refine andT ?_ ?_)) <;> (first | rfl | assumption | exact decide_eq_true (by omega) | exact decide_eq_true (by dsimp only; omega) | exact decide_eq_true (by simp; omega) | (simp; done))))) | (refine LetV.pre ?_; first | refine LetV.mk (t := 29) _ hld ?_ | refine LetV.mk (.sc (.int _ _)) rfl ?_ | refine LetV.mk (.agg _) rfl ?_) | (refine LetI.pre ?_; first | refine LetI.wrap (by omega) (by omega) ?_ | refine LetI.mk _ rfl ?_) | (refine LetB.pre ?_; first | refine LetB.dect (by omega) ?_ | refine LetB.decf (by omega) ?_) | (refine Gd.pre ?_; first | refine Gd.run rfl ?_) | (refine Br.pre ?_; first | refine Br.tt rfl ?_ | refine Br.ff rfl ?_) | (refine Ck.pre ?_; first | refine Ck.mk rfl ?_) | (refine LetL.pre ?_; first | refine LetL.mk [_] rfl ?_)))); (try (conv => whnf)))
        refine LoopN.weak ?swe (next b true (if_neg fun h => by rcases h.2 with h | h; exact absurd h (by simp); exact q3 h))
        case swe => exact SW.fr0 (Nat.zero_le _) rfl ⟨.refl _, .refl _, .refl _, .refl _, .refl _, .refl _, .refl _, .refl _, VLe2.int (by omega), trivial⟩
  | true =>
    simp only [if_true]
    have key : AFun Try.prog 44 0 [.ro fl 15 (l.map en), int st, int pr, int a, int o] [] (.tup [int X.1, .slm {} 0 4 0 (((C.filter (enQ st pr)).foldl (fun out e => insCh out ⟨pr, e.version, X.1, e.on_⟩) [])).length, bool true]) [(0, .row 4 chty (((C.filter (enQ st pr)).foldl (fun out e => insCh out ⟨pr, e.version, X.1, e.on_⟩) []).map chA))] := by
      refine AFun.of_S T_ok mixed Try.func44 rfl (Nat.le_of_ble_eq_true rfl) rfl ?_
      ((repeat ((conv => whnf); (first | (refine As.pre ?_; first | refine As.mk rfl ?_) | (refine Ck.pre ?_; first | refine Ck.mk rfl ?_) | (refine CallN.pre ?_; first | refine CallN.pure hc1 rfl rfl ?_)))); (try (conv => whnf)))
      refine LoopN.weak (s1 := renS l A fl st pr a o (0, 0, false)) ?sw1 ?_
      case sw1 => exact SW.fr0 (Nat.le_refl _) rfl ⟨.refl _, .refl _, .refl _, .refl _, .refl _, .refl _, .refl _, .refl _, .refl _, trivial⟩
      refine LoopN.ind T_ok mixed (S := renS l A fl st pr a o) (fun i => A.length - i.1) (fun i => i.1 ≤ A.length ∧ X = (A.drop i.1).foldl (stepB st pr) i.2) (fun _ => rfl) (fun i hi ih => ?_) (0, 0, false) ⟨Nat.zero_le _, hX.symm⟩
      obtain ⟨k, b, s⟩ := i
      obtain ⟨h1, h2⟩ := hi
      simp only at h1 h2 ih
      by_cases hlt : k < A.length
      case neg =>
        rw [List.drop_eq_nil_of_le (by omega), List.foldl_nil] at h2
        rw [h2] at hs ⊢
        simp only at hs ⊢
        subst hs
        clear ih h2 hX hc1
        generalize hR : (C.filter (enQ st pr)).foldl (fun out e => insCh out ⟨pr, e.version, b, e.on_⟩) [] = R
        ((repeat ((conv => whnf); (first | (refine As.pre ?_; first | refine As.mk rfl ?_) | (refine LetI.pre ?_; first | refine LetI.mk _ rfl ?_) | (refine LetB.pre ?_; first | refine LetB.decf (by omega) ?_) | (refine Br.pre ?_; first | refine Br.ff rfl ?_) | (refine Ck.pre ?_; first | refine Ck.mk rfl ?_) | (refine CallN.pre ?_; first | refine CallN.pure hc2 rfl rfl ?_)))); (try (conv => whnf)))
        refine LoopN.weak (s1 := renT C st pr b (0, [])) ?sw2 ?_
        case sw2 => exact SW.mk id rfl rfl rfl ⟨.refl _, .refl _, .refl _, .refl _, VLe2.nilslm, .refl _, trivial⟩ (haveV.nil (Nat.le_refl _) trivial)
        refine LoopN.ind T_ok mixed (S := renT C st pr b) (fun i => C.length - i.1) (fun i => i.1 ≤ C.length ∧ i.2.length ≤ i.1 ∧ R = ((C.drop i.1).filter (enQ st pr)).foldl (fun out e => insCh out ⟨pr, e.version, b, e.on_⟩) i.2) (fun _ => rfl) (fun i hi ih => ?_) (0, []) ⟨Nat.zero_le _, Nat.zero_le _, hR.symm⟩
        obtain ⟨k, out⟩ := i
        obtain ⟨h1, h0, h2⟩ := hi
        simp only at h0 h1 h2 ih
        by_cases hlt : k < C.length
        case neg =>
          rw [List.drop_eq_nil_of_le (by omega)] at h2
          simp only [List.filter_nil, List.foldl_nil] at h2
          rw [h2]
          clear ih
          ((repeat ((conv => whnf); (first | (refine As.pre ?_; first | refine As.mk rfl ?_) | (refine LetI.pre ?_; first | refine LetI.mk _ rfl ?_) | (refine LetB.pre ?_; first | refine LetB.decf (by omega) ?_) | (refine Br.pre ?_; first | refine Br.ff rfl ?_) | (refine Ck.pre ?_; first | refine Ck.mk rfl ?_)))); (try (conv => whnf)))
          exact ⟨⟨[(10, int b), (11, .slm {} 0 4 0 out.length), (12, bool true)], [(0, .row 4 chty (out.map chA))], 1⟩, SW.mk id rfl rfl (namesAll.row (pure_ch _) rfl) ⟨.refl _, .refl _, .refl _, trivial⟩ (haveV.row (pure_ch _) rfl trivial), .inl rfl, ⟨_, rfl, rfl⟩, rfl, trivial⟩
        have hld : en (C.getD k e0) = (C.map en).getD k (.sc undef) := mapD e0 hlt
        rw [foldl_filter_drop _ _ hlt e0] at h2
        generalize C.getD k e0 = e at hld h2
        by_cases hq : e.student = st ∧ e.programme = pr
        case neg =>
          rw [if_neg (by simpa [enQ] using hq)] at h2
          have next := ih (k + 1, out) ⟨by omega, by show out.length ≤ k + 1; omega, h2⟩ (by show C.length - (k + 1) < C.length - k; omega)
          clear ih
          by_cases c1 : e.student = st
          · have c2 : e.programme ≠ pr := fun h => hq ⟨c1, h⟩
            ((repeat ((conv => whnf); (first | (refine LetN.pre ?_; first | ((conv => arg 1; whnf); refine LetN.mk ?_)) | (refine As.pre ?_; first | refine As.mk rfl ?_ | (refine As.mk ?_ ?_; · ((repeat' (refine andT ?_ ?_)) <;> (first | rfl | assumption | exact decide_eq_true (by omega) | exact decide_eq_true (by dsimp only; omega) | exact decide_eq_true (by simp; omega) | (simp; done))))) | (refine LetV.pre ?_; first | refine LetV.mk (t := 29) _ hld ?_ | refine LetV.mk (.sc (.int _ _)) rfl ?_ | refine LetV.mk (.agg _) rfl ?_) | (refine LetI.pre ?_; first | refine LetI.wrap (by omega) (by omega) ?_ | refine LetI.mk _ rfl ?_) | (refine LetB.pre ?_; first | refine LetB.dect (by omega) ?_ | refine LetB.bnet (by omega) ?_ | refine LetB.bnef (by omega) ?_) | (refine Gd.pre ?_; first | refine Gd.run rfl ?_) | (refine Br.pre ?_; first | refine Br.tt rfl ?_) | (refine Ck.pre ?_; first | refine Ck.mk rfl ?_) | (refine LetL.pre ?_; first | refine LetL.mk [_] rfl ?_)))); (try (conv => whnf)))
            refine LoopN.weak ?sw3 next
            case sw3 => exact SW.mk id rfl rfl (namesAll.row (pure_ch _) rfl) ⟨.refl _, .refl _, .refl _, .refl _, .refl _, VLe2.int (by omega), trivial⟩ (haveV.row (pure_ch _) rfl trivial)
          · ((repeat ((conv => whnf); (first | (refine LetN.pre ?_; first | ((conv => arg 1; whnf); refine LetN.mk ?_)) | (refine As.pre ?_; first | refine As.mk rfl ?_ | (refine As.mk ?_ ?_; · ((repeat' (refine andT ?_ ?_)) <;> (first | rfl | assumption | exact decide_eq_true (by omega) | exact decide_eq_true (by dsimp only; omega) | exact decide_eq_true (by simp; omega) | (simp; done))))) | (refine LetV.pre ?_; first | refine LetV.mk (t := 29) _ hld ?_ | refine LetV.mk (.sc (.int _ _)) rfl ?_ | refine LetV.mk (.agg _) rfl ?_) | (refine LetI.pre ?_; first | refine LetI.wrap (by omega) (by omega) ?_ | refine LetI.mk _ rfl ?_) | (refine LetB.pre ?_; first | refine LetB.dect (by omega) ?_ | refine LetB.bnet (by omega) ?_) | (refine Gd.pre ?_; first | refine Gd.pass rfl ?_) | (refine Br.pre ?_; first | refine Br.tt rfl ?_) | (refine Ck.pre ?_; first | refine Ck.mk rfl ?_) | (refine LetL.pre ?_; first | refine LetL.mk [_] rfl ?_)))); (try (conv => whnf)))
            refine LoopN.weak ?sw4 next
            case sw4 => exact SW.mk id rfl rfl (namesAll.row (pure_ch _) rfl) ⟨.refl _, .refl _, .refl _, .refl _, .refl _, VLe2.int (by omega), trivial⟩ (haveV.row (pure_ch _) rfl trivial)
        case pos =>
          rw [if_pos (by simpa [enQ] using hq)] at h2
          have hil := insCh_length out ⟨pr, e.version, b, e.on_⟩
          have next := ih (k + 1, insCh out ⟨pr, e.version, b, e.on_⟩) ⟨by omega, by show (insCh out _).length ≤ k + 1; omega, h2⟩ (by show C.length - (k + 1) < C.length - k; omega)
          rw [insCh, putB] at next
          simp only at next
          have hple := posB_le (fun x : Ch => decide (e.on_ < x.on_)) c0 out out.length
          generalize hp : posB (fun x : Ch => decide (e.on_ < x.on_)) c0 out out.length = p at next hple
          clear ih h2 hil hR
          obtain ⟨q1, q2⟩ := hq
          ((repeat ((conv => whnf); (first | (refine LetN.pre ?_; first | ((conv => arg 1; whnf); refine LetN.mk ?_)) | (refine As.pre ?_; first | refine As.mk rfl ?_ | (refine As.mk ?_ ?_; · ((repeat' (refine andT ?_ ?_)) <;> (first | rfl | assumption | exact decide_eq_true (by omega) | exact decide_eq_true (by dsimp only; omega) | exact decide_eq_true (by simp; omega) | (simp; done))))) | (refine LetV.pre ?_; first | refine LetV.mk (t := 29) _ hld ?_ | refine LetV.mk (.sc (.int _ _)) rfl ?_ | refine LetV.mk (.agg _) rfl ?_) | (refine LetI.pre ?_; first | refine LetI.mk _ rfl ?_) | (refine LetB.pre ?_; first | refine LetB.dect (by omega) ?_ | refine LetB.bnef (by omega) ?_) | (refine Gd.pre ?_; first | refine Gd.run rfl ?_) | (refine Br.pre ?_; first | refine Br.tt rfl ?_ | refine Br.ff rfl ?_) | (refine Ck.pre ?_; first | refine Ck.mk rfl ?_) | (refine LetL.pre ?_; first | refine LetL.mk [_] rfl ?_)))); (try (conv => whnf)))
          refine LoopN.weak (s1 := renI C st pr b k out e out.length) ?sw5 ?_
          case sw5 => exact SW.mk id rfl rfl (namesAll.row (pure_ch _) (namesAll.row rfl rfl)) ⟨.refl _, .refl _, .refl _, .refl _, .refl _, .refl _, .refl _, .refl _, trivial⟩ (haveV.row (pure_ch _) rfl (haveV.row rfl rfl trivial))
          refine LoopN.ind T_ok mixed (S := renI C st pr b k out e) (fun i => i) (fun i => i ≤ out.length ∧ p = posB (fun x : Ch => decide (e.on_ < x.on_)) c0 out i) (fun _ => rfl) (fun i hi ih2 => ?_) out.length ⟨Nat.le_refl _, hp.symm⟩
          obtain ⟨g1, g2⟩ := hi
          have hom : (out.map chA).length = out.length := List.length_map _
          have hr := room_ch (n := out.length + 1) (by omega)
          cases i with
          | zero =>
            clear ih2
            rw [posB] at g2
            subst g2
            ((repeat ((conv => whnf); (first | (refine LetN.pre ?_; first | ((conv => arg 1; whnf); refine LetN.mk ?_)) | (refine As.pre ?_; first | refine As.mk rfl ?_ | (refine As.mk ?_ ?_; · ((repeat' (refine andT ?_ ?_)) <;> (first | rfl | exact stor_ch _ _ _ | exact decide_eq_true (by simp; omega) | (simp; done))))) | (refine LetV.pre ?_; first | refine LetV.mk (.sc (.int _ _)) rfl ?_ | refine LetV.mk (.slm _ _ _ _ _) rfl ?_) | (refine LetI.pre ?_; first | refine LetI.wrap (by omega) (by omega) ?_ | refine LetI.mk _ rfl ?_) | (refine LetB.pre ?_; first | refine LetB.ff rfl ?_) | (refine Gd.pre ?_; first | refine Gd.pass rfl ?_) | (refine Br.pre ?_; first | refine Br.ff rfl ?_) | (refine Ck.pre ?_; first | refine Ck.drawn (by kernel_rfl) ?_ | refine Ck.mk rfl ?_) | (refine LetL.pre ?_; first | refine LetL.mk (ty := chty) _ (app_ch out c0 _ rfl) ?_ | (refine LetL.mk (ty := chty) _ (copyG chA c0 out (0) _ _ _ _ ?_ ?_ ?_ ?_ hple) ?_; iterate 4 (· (first | (simp; done) | (simp; omega)))) | refine LetL.mk (ty := chty) _ (setG chA c0 out (0) ⟨pr, e.version, b, e.on_⟩ hple) ?_)))); (try (conv => whnf)))




            refine LoopN.weak ?sw6 next
            case sw6 => exact SW.mk (fun _ => 2) rfl rfl (namesAll.row (pure_ch _) rfl) ⟨.refl _, .refl _, .refl _, .refl _, VLe2.slm_of (by first | (simp; done) | (simp; omega)), VLe2.int (by omega), trivial⟩ (haveV.row (pure_ch _) rfl trivial)
          | succ j =>
            rw [posB] at g2
            have hidv : int (out.getD j c0).on_ = Am.part false 1 3 4 ((out.map chA).getD (0 + j) (.sc undef)) := getD_on (by omega)
            have hsub : (j : Int) = IntKind.i64.wrap (((j + 1 : Nat) : Int) - 1) := by
              rw [wrap_id (by omega) (by omega)]; omega
            generalize out.getD j c0 = x at hidv g2
            by_cases hg : e.on_ < x.on_
            · simp only [hg, decide_true, if_true] at g2
              have next2 := ih2 j ⟨by omega, g2⟩ (by show j < j + 1; omega)
              clear ih2 next
              ((repeat ((conv => whnf); (first | (refine As.pre ?_; first | refine As.mk rfl ?_ | (refine As.mk ?_ ?_; · ((repeat' (refine andT ?_ ?_)) <;> (first | rfl | assumption | exact decide_eq_true (by omega) | exact decide_eq_true (by dsimp only; omega) | exact decide_eq_true (by simp; omega) | (simp; done))))) | (refine LetV.pre ?_; first | refine LetV.mk (t := 3) _ hidv ?_ | refine LetV.mk (.sc (.int _ _)) rfl ?_) | (refine LetI.pre ?_; first | refine LetI.mk (o := some .sub) (j : Int) hsub ?_) | (refine LetB.pre ?_; first | refine LetB.dect (by omega) ?_) | (refine Gd.pre ?_; first | refine Gd.run rfl ?_) | (refine Br.pre ?_; first | refine Br.tt rfl ?_) | (refine Ck.pre ?_; first | refine Ck.drawn (by kernel_rfl) ?_ | refine Ck.mk rfl ?_)))); (try (conv => whnf)))


              refine LoopN.weak ?sw7 next2
              case sw7 => exact SW.mk id rfl rfl (namesAll.row (pure_ch _) (namesAll.row rfl rfl)) ⟨.refl _, .refl _, .refl _, .refl _, .refl _, .refl _, .refl _, .refl _, trivial⟩ (haveV.row (pure_ch _) rfl (haveV.row rfl rfl trivial))
            · simp only [hg, decide_false, Bool.false_eq_true, if_false] at g2
              subst g2
              clear ih2
              ((repeat ((conv => whnf); (first | (refine LetN.pre ?_; first | ((conv => arg 1; whnf); refine LetN.mk ?_)) | (refine As.pre ?_; first | refine As.mk rfl ?_ | (refine As.mk ?_ ?_; · ((repeat' (refine andT ?_ ?_)) <;> (first | rfl | exact stor_ch _ _ _ | exact decide_eq_true (by simp; omega) | (simp; done))))) | (refine LetV.pre ?_; first | refine LetV.mk (t := 3) _ hidv ?_ | refine LetV.mk (.sc (.int _ _)) rfl ?_ | refine LetV.mk (.slm _ _ _ _ _) rfl ?_) | (refine LetI.pre ?_; first | refine LetI.mk (o := some .sub) (j : Int) hsub ?_ | refine LetI.wrap (by omega) (by omega) ?_ | refine LetI.mk _ rfl ?_) | (refine LetB.pre ?_; first | refine LetB.dect (by omega) ?_ | refine LetB.decf (by omega) ?_) | (refine Gd.pre ?_; first | refine Gd.run rfl ?_) | (refine Br.pre ?_; first | refine Br.ff rfl ?_) | (refine Ck.pre ?_; first | refine Ck.drawn (by kernel_rfl) ?_ | refine Ck.mk rfl ?_) | (refine LetL.pre ?_; first | refine LetL.mk (ty := chty) _ (app_ch out c0 _ rfl) ?_ | (refine LetL.mk (ty := chty) _ (copyG chA c0 out (j + 1) _ _ _ _ ?_ ?_ ?_ ?_ hple) ?_; iterate 4 (· (first | (simp; done) | (simp; omega)))) | refine LetL.mk (ty := chty) _ (setG chA c0 out (j + 1) ⟨pr, e.version, b, e.on_⟩ hple) ?_)))); (try (conv => whnf)))






              refine LoopN.weak ?sw8 next
              case sw8 => exact SW.mk (fun _ => 2) rfl rfl (namesAll.row (pure_ch _) rfl) ⟨.refl _, .refl _, .refl _, .refl _, VLe2.slm_of (by first | (simp; done) | (simp; omega)), VLe2.int (by omega), trivial⟩ (haveV.row (pure_ch _) rfl trivial)
      have hld : en (A.getD k e0) = (A.map en).getD k (.sc undef) := mapD e0 hlt
      rw [foldl_drop _ hlt e0] at h2
      generalize A.getD k e0 = e at hld h2
      have next : ∀ (b' : Int) (s' : Bool), stepB st pr (b, s) e = (b', s') → LoopN Try.prog 0 Try.f44.ntmps _ (renS l A fl st pr a o (k + 1, b', s')) _ := fun b' s' hs' => ih (k + 1, b', s') ⟨by omega, by rw [← hs']; exact h2⟩ (by show A.length - (k + 1) < A.length - k; omega)
      clear ih
      by_cases q1 : e.student = st
      case neg =>
        ((repeat ((conv => whnf); (first | (refine LetN.pre ?_; first | ((conv => arg 1; whnf); refine LetN.mk ?_)) | (refine As.pre ?_; first | refine As.mk rfl ?_ | (refine As.mk ?_ ?_; · ((repeat' (refine andT ?_ ?_)) <;> (first | rfl | assumption | exact decide_eq_true (by omega) | exact decide_eq_true (by dsimp only; omega) | exact decide_eq_true (by simp; omega) | (simp; done))))) | (refine LetV.pre ?_; first | refine LetV.mk (t := 29) _ hld ?_ | refine LetV.mk (.sc (.int _ _)) rfl ?_ | refine LetV.mk (.agg _) rfl ?_) | (refine LetI.pre ?_; first | refine LetI.wrap (by omega) (by omega) ?_ | refine LetI.mk _ rfl ?_) | (refine LetB.pre ?_; first | refine LetB.dect (by omega) ?_ | refine LetB.decf (by omega) ?_) | (refine Gd.pre ?_; first | refine Gd.pass rfl ?_) | (refine Br.pre ?_; first | refine Br.tt rfl ?_ | refine Br.ff rfl ?_) | (refine Ck.pre ?_; first | refine Ck.mk rfl ?_) | (refine LetL.pre ?_; first | refine LetL.mk [_] rfl ?_)))); (try (conv => whnf)))
        refine LoopN.weak ?swa (next b s (if_neg fun h => q1 h.1.1))
        case swa => exact SW.fr0 (Nat.zero_le _) rfl ⟨.refl _, .refl _, .refl _, .refl _, .refl _, .refl _, .refl _, .refl _, VLe2.int (by omega), trivial⟩
      by_cases q2 : e.programme = pr
      case neg =>
        ((repeat ((conv => whnf); (first | (refine LetN.pre ?_; first | ((conv => arg 1; whnf); refine LetN.mk ?_)) | (refine As.pre ?_; first | refine As.mk rfl ?_ | (refine As.mk ?_ ?_; · ((repeat' (refine andT ?_ ?_)) <;> (first | rfl | assumption | exact decide_eq_true (by omega) | exact decide_eq_true (by dsimp only; omega) | exact decide_eq_true (by simp; omega) | (simp; done))))) | (refine LetV.pre ?_; first | refine LetV.mk (t := 29) _ hld ?_ | refine LetV.mk (.sc (.int _ _)) rfl ?_ | refine LetV.mk (.agg _) rfl ?_) | (refine LetI.pre ?_; first | refine LetI.wrap (by omega) (by omega) ?_ | refine LetI.mk _ rfl ?_) | (refine LetB.pre ?_; first | refine LetB.dect (by omega) ?_ | refine LetB.decf (by omega) ?_) | (refine Gd.pre ?_; first | refine Gd.run rfl ?_ | refine Gd.pass rfl ?_) | (refine Br.pre ?_; first | refine Br.tt rfl ?_ | refine Br.ff rfl ?_) | (refine Ck.pre ?_; first | refine Ck.mk rfl ?_) | (refine LetL.pre ?_; first | refine LetL.mk [_] rfl ?_)))); (try (conv => whnf)))
        refine LoopN.weak ?swb (next b s (if_neg fun h => q2 h.1.2))
        case swb => exact SW.fr0 (Nat.zero_le _) rfl ⟨.refl _, .refl _, .refl _, .refl _, .refl _, .refl _, .refl _, .refl _, VLe2.int (by omega), trivial⟩
      cases s with
      | false =>
        ((repeat ((conv => whnf); (first | (refine LetN.pre ?_; first | ((conv => arg 1; whnf); refine LetN.mk ?_)) | (refine As.pre ?_; first | refine As.mk rfl ?_ | (refine As.mk ?_ ?_; · ((repeat' (refine andT ?_ ?_)) <;> (first | rfl | assumption | exact decide_eq_true (by omega) | exact decide_eq_true (by dsimp only; omega) | exact decide_eq_true (by simp; omega) | (simp; done))))) | (refine LetV.pre ?_; first | refine LetV.mk (t := 29) _ hld ?_ | refine LetV.mk (.sc (.int _ _)) rfl ?_ | refine LetV.mk (.agg _) rfl ?_) | (refine LetI.pre ?_; first | refine LetI.wrap (by omega) (by omega) ?_ | refine LetI.mk _ rfl ?_) | (refine LetB.pre ?_; first | refine LetB.dect (by omega) ?_) | (refine Gd.pre ?_; first | refine Gd.run rfl ?_ | refine Gd.pass rfl ?_) | (refine Br.pre ?_; first | refine Br.tt rfl ?_) | (refine Ck.pre ?_; first | refine Ck.mk rfl ?_) | (refine LetL.pre ?_; first | refine LetL.mk [_] rfl ?_)))); (try (conv => whnf)))
        refine LoopN.weak ?swc (next e.on_ true (if_pos ⟨⟨q1, q2⟩, .inl rfl⟩))
        case swc => exact SW.fr0 (Nat.zero_le _) rfl ⟨.refl _, .refl _, .refl _, .refl _, .refl _, .refl _, .refl _, .refl _, VLe2.int (by omega), trivial⟩
      | true =>
        by_cases q3 : e.on_ < b
        · ((repeat ((conv => whnf); (first | (refine LetN.pre ?_; first | ((conv => arg 1; whnf); refine LetN.mk ?_)) | (refine As.pre ?_; first | refine As.mk rfl ?_ | (refine As.mk ?_ ?_; · ((repeat' (refine andT ?_ ?_)) <;> (first | rfl | assumption | exact decide_eq_true (by omega) | exact decide_eq_true (by dsimp only; omega) | exact decide_eq_true (by simp; omega) | (simp; done))))) | (refine LetV.pre ?_; first | refine LetV.mk (t := 29) _ hld ?_ | refine LetV.mk (.sc (.int _ _)) rfl ?_ | refine LetV.mk (.agg _) rfl ?_) | (refine LetI.pre ?_; first | refine LetI.wrap (by omega) (by omega) ?_ | refine LetI.mk _ rfl ?_) | (refine LetB.pre ?_; first | refine LetB.dect (by omega) ?_) | (refine Gd.pre ?_; first | refine Gd.run rfl ?_) | (refine Br.pre ?_; first | refine Br.tt rfl ?_) | (refine Ck.pre ?_; first | refine Ck.mk rfl ?_) | (refine LetL.pre ?_; first | refine LetL.mk [_] rfl ?_)))); (try (conv => whnf)))
          refine LoopN.weak ?swd (next e.on_ true (if_pos ⟨⟨q1, q2⟩, .inr q3⟩))
          case swd => exact SW.fr0 (Nat.zero_le _) rfl ⟨.refl _, .refl _, .refl _, .refl _, .refl _, .refl _, .refl _, .refl _, VLe2.int (by omega), trivial⟩
        · ((repeat ((conv => whnf); (first | (refine LetN.pre ?_; first | ((conv => arg 1; whnf); refine LetN.mk ?_)) | (refine As.pre ?_; first | refine As.mk rfl ?_ | (refine As.mk ?_ ?_; · ((repeat' (refine andT ?_ ?_)) <;> (first | rfl | assumption | exact decide_eq_true (by omega) | exact decide_eq_true (by dsimp only; omega) | exact decide_eq_true (by simp; omega) | (simp; done))))) | (refine LetV.pre ?_; first | refine LetV.mk (t := 29) _ hld ?_ | refine LetV.mk (.sc (.int _ _)) rfl ?_ | refine LetV.mk (.agg _) rfl ?_) | (refine LetI.pre ?_; first | refine LetI.wrap (by omega) (by omega) ?_ | refine LetI.mk _ rfl ?_) | (refine LetB.pre ?_; first | refine LetB.dect (by omega) ?_ | refine LetB.decf (by omega) ?_) | (refine Gd.pre ?_; first | refine Gd.run rfl ?_) | (refine Br.pre ?_; first | refine Br.tt rfl ?_ | refine Br.ff rfl ?_) | (refine Ck.pre ?_; first | refine Ck.mk rfl ?_) | (refine LetL.pre ?_; first | refine LetL.mk [_] rfl ?_)))); (try (conv => whnf)))
          refine LoopN.weak ?swe (next b true (if_neg fun h => by rcases h.2 with h | h; exact absurd h (by simp); exact q3 h))
          case swe => exact SW.fr0 (Nat.zero_le _) rfl ⟨.refl _, .refl _, .refl _, .refl _, .refl _, .refl _, .refl _, .refl _, VLe2.int (by omega), trivial⟩
    have k := AFun.frz [0] key (by simp only [rowsOk, List.all_cons, List.all_nil, AH.get, if_true, pure_ch]; rfl) rfl (by simp [AV.frzOk, AV.frzOkL, AH.get])
    generalize (C.filter (enQ st pr)).foldl (fun out e => insCh out ⟨pr, e.version, X.1, e.on_⟩) [] = R at k ⊢
    have e1 : List.take R.length (List.map chA R) = List.map chA R := List.take_of_length_le (by simp)
    simp [AV.frz, AV.frzL, AH.get, AH.frz, e1] at k
    exact k
end En
end Go.Proofs.Ytjnohedknlibmaa
namespace Go.Proofs.Ytjnohedknlibmaa
open Go.Proofs.Ytjnohedknlibmaa.Am
namespace En
/-! ### Stable sorting, as plain Lean -/
/-- e goes behind the last one that isn't greater. -/
def insEnd {α : Type} (gt : α → Bool) (e : α) (A : List α) : List α := (A.reverse.dropWhile gt).reverse ++ e :: (A.reverse.takeWhile gt).reverse
def sortS {α : Type} (lt : α → α → Bool) (l : List α) : List α := l.foldl (fun out e => insEnd (lt e) e out) []
theorem posB_app {α : Type} (gt : α → Bool) (d : α) (A B : List α) : ∀ k, k ≤ A.length → posB gt d (A ++ B) k = posB gt d A k
  | 0, _ => rfl
  | k + 1, h => by
    have e : (A ++ B).getD k d = A.getD k d := by
      rw [List.getD_eq_getElem?_getD, List.getD_eq_getElem?_getD, List.getElem?_append_left (by omega)]
    rw [posB, posB, e, posB_app gt d A B k (by omega)]
theorem putB_rev {α : Type} (gt : α → Bool) (d e : α) : ∀ R : List α, putB gt d R.reverse e = (R.dropWhile gt).reverse ++ e :: (R.takeWhile gt).reverse
  | [] => rfl
  | x :: R => by
    have ih := putB_rev gt d e R
    have hl : R.reverse.length = R.length := List.length_reverse
    have hg : (R.reverse ++ [x]).getD R.length d = x := by
      rw [List.getD_eq_getElem?_getD, List.getElem?_append_right (by omega), hl, Nat.sub_self]; rfl
    rw [putB, hl] at ih
    rw [List.reverse_cons, putB, List.length_append, hl]
    show List.take (posB gt d (R.reverse ++ [x]) (R.length + 1)) _ ++ e :: List.drop (posB gt d (R.reverse ++ [x]) (R.length + 1)) _ = _
    rw [posB, hg]
    cases hx : gt x with
    | false =>
      simp only [Bool.false_eq_true, if_false]
      rw [List.take_of_length_le (by simp), List.drop_eq_nil_of_le (by simp), List.dropWhile_cons, List.takeWhile_cons]
      simp [hx]
    | true =>
      simp only [if_true]
      have hp : posB gt d (R.reverse ++ [x]) R.length = posB gt d R.reverse R.length := posB_app _ _ _ _ _ (by omega)
      have hle := posB_le gt d R.reverse R.length
      rw [hp, List.take_append_of_le_length (by omega), List.drop_append_of_le_length (by omega), List.dropWhile_cons, List.takeWhile_cons]
      simp only [hx, if_true, List.reverse_cons]
      rw [← List.cons_append, ← List.append_assoc, ih]
      simp
theorem putB_ins {α : Type} (gt : α → Bool) (d e : α) (A : List α) : putB gt d A e = insEnd gt e A := by
  have := putB_rev gt d e A.reverse
  rw [List.reverse_reverse] at this
  exact this
abbrev ltE (o : Bool) (a b : E) : Bool := decide (cmpE o a b < 0)
theorem sink_rev (o : Bool) (e : E) : ∀ (R B : List E), sink o (R.reverse ++ e :: B) R.length = ((R.dropWhile (ltE o e)).reverse ++ e :: (R.takeWhile (ltE o e)).reverse) ++ B
  | [], B => rfl
  | x :: R, B => by
    have hl : R.reverse.length = R.length := List.length_reverse
    rw [List.reverse_cons, List.append_assoc]
    show sink o (R.reverse ++ x :: e :: B) (R.length + 1) = _
    have h1 : (R.reverse ++ x :: e :: B).getD (R.length + 1) e0 = e := by
      rw [List.getD_eq_getElem?_getD, List.getElem?_append_right (by omega), hl, Nat.add_sub_cancel_left]; rfl
    have h2 : (R.reverse ++ x :: e :: B).getD R.length e0 = x := by
      rw [List.getD_eq_getElem?_getD, List.getElem?_append_right (by omega), hl, Nat.sub_self]; rfl
    rw [sink, h1, h2]
    by_cases hc : cmpE o e x < 0
    · rw [if_pos hc, List.set_append_right _ _ (by omega), hl, Nat.add_sub_cancel_left, List.set_append_right _ _ (by omega), hl, Nat.sub_self]
      show sink o (R.reverse ++ e :: x :: B) R.length = _
      rw [sink_rev o e R (x :: B), List.dropWhile_cons, List.takeWhile_cons]
      simp [ltE, hc]
    · rw [if_neg hc, List.dropWhile_cons, List.takeWhile_cons]
      simp [ltE, hc]
theorem sink_ins (o : Bool) (e : E) (A B : List E) : sink o (A ++ e :: B) A.length = insEnd (ltE o e) e A ++ B := by
  have := sink_rev o e A.reverse B
  rw [List.reverse_reverse, List.length_reverse] at this
  exact this
theorem ins_length {α : Type} (gt : α → Bool) (e : α) (A : List α) : (insEnd gt e A).length = A.length + 1 := by
  have h : (A.reverse.takeWhile gt ++ A.reverse.dropWhile gt).length = A.length := by rw [List.takeWhile_append_dropWhile, List.length_reverse]
  rw [List.length_append] at h
  simp only [insEnd, List.length_append, List.length_reverse, List.length_cons]
  omega
theorem isr_S (o : Bool) : ∀ (rest A : List E), isr o rest.length A.length (A ++ rest) = rest.foldl (fun out e => insEnd (ltE o e) e out) A
  | [], A => by rw [List.append_nil]; rfl
  | e :: rest, A => by
    rw [List.length_cons, isr, sink_ins, List.foldl_cons, ← isr_S o rest, ins_length]
theorem srt_S (o : Bool) (l : List E) : srt o l = sortS (ltE o) l := by
  cases l with
  | nil => rfl
  | cons x l =>
    have := isr_S o l [x]
    rw [srt, sortS, List.foldl_cons]
    exact this
theorem foldl_congr {α β : Type} {f g : β → α → β} (h : ∀ b a, f b a = g b a) : ∀ (l : List α) (b : β), l.foldl f b = l.foldl g b
  | [], _ => rfl
  | x :: l, b => by rw [List.foldl_cons, List.foldl_cons, h, foldl_congr h l]
theorem cmpI_neg (a b : Int) : cmpI a b < 0 ↔ a < b := by
  unfold cmpI
  split
  · simp [*]
  · split <;> simp <;> omega
theorem cmpI_zero (a b : Int) : cmpI a b = 0 ↔ a = b := by
  unfold cmpI
  split
  · simp; omega
  · split <;> simp <;> omega
theorem ltE_id (a b : E) : ltE false a b = decide (a.id < b.id) := by
  rw [Bool.eq_iff_iff, decide_eq_true_eq, decide_eq_true_eq]
  exact cmpI_neg ..
theorem ltE_on (a b : E) : ltE true a b = decide (a.on_ < b.on_ ∨ (a.on_ = b.on_ ∧ a.id < b.id)) := by
  rw [Bool.eq_iff_iff, decide_eq_true_eq, decide_eq_true_eq]
  show firstNZ [cmpI a.on_ b.on_, cmpI a.id b.id] < 0 ↔ _
  simp only [firstNZ]
  have h1 := cmpI_neg a.on_ b.on_
  have h2 := cmpI_zero a.on_ b.on_
  have h3 := cmpI_neg a.id b.id
  have h4 := cmpI_zero a.id b.id
  split
  · split <;> omega
  · omega
theorem countP_S (l : List E) (kd a o : Int) : countP l kd a o = sortS (ltE false) (l.filter (cntQ kd a o)) := by
  unfold countP sortS
  refine foldl_congr (fun b e => ?_) _ _
  rw [insId, putB_ins]
  congr 1
  funext x
  exact (ltE_id e x).symm
/-- An order by which it can be sorted. -/
structure Ord {α : Type} (lt : α → α → Bool) : Prop where
  asym : ∀ a b, lt a b = true → lt b a = false
  trans : ∀ a b c, lt a b = false → lt b c = false → lt a c = false
theorem ord_E (o : Bool) : Ord (ltE o) := by
  cases o
  · refine ⟨fun a b h => ?_, fun a b c h k => ?_⟩ <;> rw [ltE_id] at * <;> simp at * <;> omega
  · refine ⟨fun a b h => ?_, fun a b c h k => ?_⟩ <;> rw [ltE_on] at * <;> simp at * <;> omega
abbrev Sorted {α : Type} (lt : α → α → Bool) (A : List α) : Prop := A.Pairwise fun a b => lt b a = false
theorem ins_of {α : Type} {gt : α → Bool} {e : α} {P Q : List α} (h1 : ∀ x ∈ P, gt x = false) (h2 : ∀ x ∈ Q, gt x = true) : insEnd gt e (P ++ Q) = P ++ e :: Q := by
  unfold insEnd
  have hd : P.reverse.dropWhile gt = P.reverse := by
    cases hP : P.reverse with
    | nil => rfl
    | cons y R =>
      have : y ∈ P := by rw [← List.mem_reverse, hP]; exact List.mem_cons_self ..
      rw [List.dropWhile_cons, h1 y this]; rfl
  have ht : P.reverse.takeWhile gt = [] := by
    cases hP : P.reverse with
    | nil => rfl
    | cons y R =>
      have : y ∈ P := by rw [← List.mem_reverse, hP]; exact List.mem_cons_self ..
      rw [List.takeWhile_cons, h1 y this]; rfl
  have h2' : ∀ x ∈ Q.reverse, gt x = true := fun x hx => h2 x (List.mem_reverse.1 hx)
  rw [List.reverse_append, List.dropWhile_append_of_pos h2', List.takeWhile_append_of_pos h2', hd, ht, List.append_nil, List.reverse_reverse, List.reverse_reverse]
theorem mem_takeWhile {α : Type} {p : α → Bool} : ∀ {l : List α} {x : α}, x ∈ l.takeWhile p → p x = true
  | [], x, h => absurd h List.not_mem_nil
  | a :: l, x, h => by
    rw [List.takeWhile_cons] at h
    cases hp : p a with
    | false => rw [hp] at h; simp at h
    | true =>
      rw [hp] at h
      simp only [if_true, List.mem_cons] at h
      rcases h with rfl | h
      · exact hp
      · exact mem_takeWhile h
theorem ins_split {α : Type} {lt : α → α → Bool} (ho : Ord lt) {A : List α} (hA : Sorted lt A) (e : α) : ∃ P Q, A = P ++ Q ∧ (∀ x ∈ P, lt e x = false) ∧ ∀ x ∈ Q, lt e x = true := by
  refine ⟨(A.reverse.dropWhile (lt e)).reverse, (A.reverse.takeWhile (lt e)).reverse, ?_, ?_, fun x hx => mem_takeWhile (List.mem_reverse.1 hx)⟩
  · rw [← List.reverse_append, List.takeWhile_append_dropWhile, List.reverse_reverse]
  · intro x hx
    rw [List.mem_reverse] at hx
    have hs : A.reverse.Pairwise fun a b => lt a b = false := List.pairwise_reverse.2 hA
    have hs2 : (A.reverse.dropWhile (lt e)).Pairwise fun a b => lt a b = false := List.Pairwise.sublist (List.dropWhile_sublist _) hs
    cases hd : A.reverse.dropWhile (lt e) with
    | nil => rw [hd] at hx; exact absurd hx List.not_mem_nil
    | cons y R =>
      have hy : lt e y = false := by
        have h1 : A.reverse.dropWhile (lt e) ≠ [] := by rw [hd]; simp
        have h2 := List.head_dropWhile_not (lt e) h1
        simp only [hd, List.head_cons] at h2
        exact h2
      rw [hd] at hx hs2
      rcases List.mem_cons.1 hx with h | h
      · rw [h]; exact hy
      · exact ho.trans _ _ _ hy ((List.pairwise_cons.1 hs2).1 x h)
theorem ins_sorted {α : Type} {lt : α → α → Bool} (ho : Ord lt) {A : List α} (hA : Sorted lt A) (e : α) : Sorted lt (insEnd (lt e) e A) := by
  obtain ⟨P, Q, rfl, h1, h2⟩ := ins_split ho hA e
  rw [ins_of h1 h2]
  have h3 := List.pairwise_append.1 hA
  refine List.pairwise_append.2 ⟨h3.1, List.pairwise_cons.2 ⟨fun x hx => ho.asym _ _ (h2 x hx), h3.2.1⟩, fun a ha b hb => ?_⟩
  rcases List.mem_cons.1 hb with h | h
  · rw [h]; exact h1 a ha
  · exact h3.2.2 a ha b h
theorem ins_filter {α : Type} {lt : α → α → Bool} (ho : Ord lt) {A : List α} (hA : Sorted lt A) (e : α) (p : α → Bool) : (insEnd (lt e) e A).filter p = if p e then insEnd (lt e) e (A.filter p) else A.filter p := by
  obtain ⟨P, Q, rfl, h1, h2⟩ := ins_split ho hA e
  rw [ins_of h1 h2, List.filter_append, List.filter_append, List.filter_cons]
  cases hp : p e with
  | true =>
    simp only [if_true]
    rw [ins_of (fun x hx => h1 x (List.mem_filter.1 hx).1) (fun x hx => h2 x (List.mem_filter.1 hx).1)]
  | false => simp
theorem ins_perm {α : Type} (gt : α → Bool) (e : α) (A : List α) : (insEnd gt e A).Perm (e :: A) := by
  have h : ((A.reverse.dropWhile gt).reverse ++ (A.reverse.takeWhile gt).reverse) = A := by
    rw [← List.reverse_append, List.takeWhile_append_dropWhile, List.reverse_reverse]
  have k := List.perm_middle (a := e) (l₁ := (A.reverse.dropWhile gt).reverse) (l₂ := (A.reverse.takeWhile gt).reverse)
  rw [h] at k
  exact k
theorem foldl_sorted {α : Type} {lt : α → α → Bool} (ho : Ord lt) : ∀ (l A : List α), Sorted lt A → Sorted lt (l.foldl (fun out e => insEnd (lt e) e out) A)
  | [], A, h => h
  | x :: l, A, h => foldl_sorted ho l _ (ins_sorted ho h x)
theorem S_sorted {α : Type} {lt : α → α → Bool} (ho : Ord lt) (l : List α) : Sorted lt (sortS lt l) := foldl_sorted ho l [] List.Pairwise.nil
theorem foldl_perm {α : Type} (lt : α → α → Bool) : ∀ (l A : List α), (l.foldl (fun out e => insEnd (lt e) e out) A).Perm (l ++ A)
  | [], A => .refl _
  | x :: l, A => (foldl_perm lt l _).trans (((ins_perm _ x A).append_left l).trans List.perm_middle)
theorem S_perm {α : Type} (lt : α → α → Bool) (l : List α) : (sortS lt l).Perm l := by
  have := foldl_perm lt l []
  rwa [List.append_nil] at this
theorem foldl_filter {α : Type} {lt : α → α → Bool} (ho : Ord lt) (p : α → Bool) : ∀ (l A : List α), Sorted lt A → (l.foldl (fun out e => insEnd (lt e) e out) A).filter p = (l.filter p).foldl (fun out e => insEnd (lt e) e out) (A.filter p)
  | [], A, h => rfl
  | x :: l, A, h => by
    rw [List.foldl_cons, foldl_filter ho p l _ (ins_sorted ho h x), ins_filter ho h, List.filter_cons]
    cases p x <;> rfl
theorem S_filter {α : Type} {lt : α → α → Bool} (ho : Ord lt) (p : α → Bool) (l : List α) : (sortS lt l).filter p = sortS lt (l.filter p) := foldl_filter ho p l [] List.Pairwise.nil
theorem S_snoc {α : Type} (lt : α → α → Bool) (l : List α) (e : α) : sortS lt (l ++ [e]) = insEnd (lt e) e (sortS lt l) := by
  rw [sortS, List.foldl_append]; rfl
theorem foldl_const {α : Type} {lt : α → α → Bool} : ∀ (l A : List α), (∀ x ∈ l, ∀ y, lt x y = false) → l.foldl (fun out e => insEnd (lt e) e out) A = A ++ l
  | [], A, _ => by rw [List.append_nil]; rfl
  | x :: l, A, h => by
    have h1 : insEnd (lt x) x A = A ++ [x] := by
      have := ins_of (gt := lt x) (e := x) (P := A) (Q := []) (fun y _ => h x (List.mem_cons_self ..) y) (fun _ h => absurd h List.not_mem_nil)
      rwa [List.append_nil] at this
    rw [List.foldl_cons, h1, foldl_const l _ fun y hy => h y (List.mem_cons_of_mem _ hy), List.append_assoc]; rfl
theorem ins_congr {α : Type} {f g : α → Bool} {e : α} {A : List α} (h : ∀ x ∈ A, f x = g x) : insEnd f e A = insEnd g e A := by
  have key : ∀ R : List α, (∀ x ∈ R, f x = g x) → R.dropWhile f = R.dropWhile g ∧ R.takeWhile f = R.takeWhile g := by
    intro R
    induction R with
    | nil => intro _; exact ⟨rfl, rfl⟩
    | cons x R ih =>
      intro h
      have h1 := h x (List.mem_cons_self ..)
      have h2 := ih fun y hy => h y (List.mem_cons_of_mem _ hy)
      rw [List.dropWhile_cons, List.dropWhile_cons, List.takeWhile_cons, List.takeWhile_cons, h1, h2.1, h2.2]
      exact ⟨rfl, rfl⟩
  have := key A.reverse fun x hx => h x (List.mem_reverse.1 hx)
  unfold insEnd
  rw [this.1, this.2]
theorem foldl_ltcongr {α : Type} {lt lt' : α → α → Bool} {q : α → Prop} (hq : ∀ x y, q x → q y → lt x y = lt' x y) : ∀ (l A : List α), (∀ x ∈ l, q x) → (∀ x ∈ A, q x) → l.foldl (fun out e => insEnd (lt e) e out) A = l.foldl (fun out e => insEnd (lt' e) e out) A
  | [], A, _, _ => rfl
  | x :: l, A, h, k => by
    have hx := h x (List.mem_cons_self ..)
    have e : insEnd (lt x) x A = insEnd (lt' x) x A := ins_congr fun y hy => hq _ _ hx (k y hy)
    rw [List.foldl_cons, List.foldl_cons, e]
    refine foldl_ltcongr hq l _ (fun y hy => h y (List.mem_cons_of_mem _ hy)) fun y hy => ?_
    rcases List.mem_cons.1 ((ins_perm _ _ _).mem_iff.1 hy) with h | h
    · rw [h]; exact hx
    · exact k y h
theorem S_congr {α : Type} {lt lt' : α → α → Bool} {l : List α} (q : α → Prop) (hq : ∀ x y, q x → q y → lt x y = lt' x y) (h : ∀ x ∈ l, q x) : sortS lt l = sortS lt' l := foldl_ltcongr hq l [] h fun _ h => absurd h List.not_mem_nil
theorem ins_map {α β : Type} (f : α → β) {g : α → Bool} {g' : β → Bool} (h : ∀ x, g x = g' (f x)) (e : α) (A : List α) : (insEnd g e A).map f = insEnd g' (f e) (A.map f) := by
  have key : ∀ R : List α, (R.dropWhile g).map f = (R.map f).dropWhile g' ∧ (R.takeWhile g).map f = (R.map f).takeWhile g' := by
    intro R
    induction R with
    | nil => exact ⟨rfl, rfl⟩
    | cons x R ih =>
      rw [List.map_cons, List.dropWhile_cons, List.dropWhile_cons, List.takeWhile_cons, List.takeWhile_cons, h x]
      cases g' (f x) with
      | true => simp only [if_true, List.map_cons, ih.1, ih.2]; exact ⟨trivial, trivial⟩
      | false => simp
  have := key A.reverse
  unfold insEnd
  rw [List.map_append, List.map_cons, List.map_reverse, List.map_reverse, this.1, this.2, List.map_reverse]
/-- Two lists in the order of a key are equal if they are so for each key. -/
theorem eq_of_classes {α : Type} (key : α → Int) : ∀ (X Y : List α), X.Pairwise (fun a b => key a ≤ key b) → Y.Pairwise (fun a b => key a ≤ key b) → (∀ k, X.filter (fun x => decide (key x = k)) = Y.filter (fun x => decide (key x = k))) → X = Y
  | [], [], _, _, _ => rfl
  | [], y :: Y, _, _, h => by have := h (key y); simp [List.filter_cons] at this
  | x :: X, [], _, _, h => by have := h (key x); simp [List.filter_cons] at this
  | x :: X, y :: Y, hX, hY, h => by
    obtain ⟨hX1, hX2⟩ := List.pairwise_cons.1 hX
    obtain ⟨hY1, hY2⟩ := List.pairwise_cons.1 hY
    have hxy : key x = key y := by
      rcases Int.lt_trichotomy (key x) (key y) with k | k | k
      · exfalso
        have h1 := h (key x)
        rw [List.filter_cons, List.filter_cons, decide_eq_true rfl, decide_eq_false (show ¬ key y = key x by omega)] at h1
        have : x ∈ Y.filter (fun z => decide (key z = key x)) := by
          simp only [if_true, Bool.false_eq_true, if_false] at h1
          rw [← h1]; exact List.mem_cons_self ..
        have := hY1 x (List.mem_filter.1 this).1
        omega
      · exact k
      · exfalso
        have h1 := h (key y)
        rw [List.filter_cons, List.filter_cons, decide_eq_true rfl, decide_eq_false (show ¬ key x = key y by omega)] at h1
        have : y ∈ X.filter (fun z => decide (key z = key y)) := by
          simp only [if_true, Bool.false_eq_true, if_false] at h1
          rw [h1]; exact List.mem_cons_self ..
        have := hX1 y (List.mem_filter.1 this).1
        omega
    have h0 := h (key x)
    rw [List.filter_cons, List.filter_cons, decide_eq_true rfl, decide_eq_true hxy.symm] at h0
    simp only [if_true, List.cons.injEq] at h0
    have hx : x = y := h0.1
    subst hx
    congr 1
    refine eq_of_classes key X Y hX2 hY2 fun k => ?_
    have h1 := h k
    rw [List.filter_cons, List.filter_cons] at h1
    split at h1
    · exact (List.cons.inj h1).2
    · exact h1
end En
end Go.Proofs.Ytjnohedknlibmaa
namespace Go.Proofs.Ytjnohedknlibmaa
open Go.Proofs.Ytjnohedknlibmaa.Am
namespace En
/-! ### Both sides of the force layer say the same -/
theorem mem_countP {l : List E} {kd a o : Int} {x : E} : x ∈ countP l kd a o ↔ x ∈ l ∧ x.kind = kd ∧ x.day ≤ a ∧ x.on_ ≤ o := by
  rw [countP_S, (S_perm _ _).mem_iff, List.mem_filter, cntQ, decide_eq_true_eq]
theorem any_iff {α : Type} {l l' : List α} {p q : α → Bool} (h : ∀ x, (x ∈ l ∧ p x = true) ↔ (x ∈ l' ∧ q x = true)) : l.any p = l'.any q := by
  rw [Bool.eq_iff_iff, List.any_eq_true, List.any_eq_true]
  exact ⟨fun ⟨x, a, b⟩ => ⟨x, (h x).1 ⟨a, b⟩⟩, fun ⟨x, a, b⟩ => ⟨x, (h x).2 ⟨a, b⟩⟩⟩
theorem lift_eq (l : List E) (f a o : Int) : rLiftedP l f a o = liftedP l f a o := by
  refine any_iff fun x => ?_
  rw [mem_countP]
  simp only [Bool.and_eq_true, decide_eq_true_eq]
  exact ⟨fun h => ⟨h.1.1, ⟨h.1.2.1, h.2⟩, h.1.2.2⟩, fun h => ⟨⟨h.1, h.2.1.1, h.2.2⟩, h.2.1.2⟩⟩
theorem chos1 (R : List E) (c : Cd) : chos R [c] = R.filter c.p := by
  simp [chos]
theorem chos2 (R : List E) (c d : Cd) : chos R [c, d] = (R.filter c.p).filter d.p := by
  rw [List.filter_filter]
  refine List.filter_congr fun x _ => ?_
  simp [Bool.and_comm]
theorem atR_kind (l : List E) (k a o : Int) : chos (atR l a o) [cOf k] = countP l k a o := by
  rw [chos1, atR, srt_S, S_filter (ord_E false), countP_S, chos1, List.filter_filter]
  congr 1
  refine List.filter_congr fun x _ => ?_
  rw [Bool.eq_iff_iff]
  simp only [cntQ, Bool.and_eq_true, decide_eq_true_eq]
theorem atR_kind' (l : List E) (k a o : Int) : (atR l a o).filter (cOf k).p = countP l k a o := by
  rw [← chos1, atR_kind]
theorem mem_atR {l : List E} {a o : Int} {x : E} : x ∈ atR l a o ↔ x ∈ l ∧ x.day ≤ a ∧ x.on_ ≤ o := by
  rw [atR, srt_S, (S_perm _ _).mem_iff, chos1, List.mem_filter, decide_eq_true_eq]
theorem atR_lifted (l : List E) (f a o : Int) : liftedP (atR l a o) f a o = liftedP l f a o := by
  refine any_iff fun x => ?_
  rw [mem_atR]
  simp only [Bool.and_eq_true, decide_eq_true_eq]
  exact ⟨fun h => ⟨h.1.1, h.2⟩, fun h => ⟨⟨h.1, h.2.2⟩, h.2⟩⟩
theorem corr_eq (l : List E) (a o : Int) (g : E) : corr (atR l a o) g = (countP l 4 a o).foldl (stepR g) (0, g.grade, 0, false) := by
  rw [corr, chos2, atR_kind', List.foldl_filter]
  refine foldl_congr (fun b x => ?_) _ _
  simp only [stepR, decide_eq_true_eq]
theorem void_eq (l : List E) (a o : Int) (g : E) : voidP (atR l a o) a o g = (countP l 5 a o).any fun f => decide (f.ref = g.id) && !rLiftedP l f.id a o := by
  rw [voidP, chos2, atR_kind', List.any_filter]
  congr 1
  funext x
  rw [atR_lifted, lift_eq]
theorem stand_eq (l : List E) (a o : Int) (g : E) : stand (atR l a o) a o g = rstand l (countP l 4 a o) (countP l 5 a o) a o g := by
  rw [stand, rstand, corr_eq, void_eq]
theorem at_eq (l : List E) (a o : Int) : atP l a o = rAtP l a o := by
  rw [atP, rAtP, atR_kind]
  refine List.map_congr_left fun x _ => stand_eq ..
theorem awards_eq (l : List E) (a o : Int) : awardsP l a o = rAwardsP l a o := by
  rw [awardsP, rAwardsP, srt_S, chos2, chos1, ← S_filter (ord_E false), List.filter_filter, countP_S l 8]
  have e : (fun x : E => (cOf 8).p x && (cCounts a o).p x) = cntQ 8 a o := by
    funext x
    rw [Bool.eq_iff_iff]
    simp only [cntQ, Bool.and_eq_true, decide_eq_true_eq]
  rw [e]
  refine List.filter_congr fun x _ => ?_
  show (!_) = !_
  congr 1
  refine any_iff fun y => ?_
  rw [mem_countP, List.mem_filter]
  simp only [Bool.and_eq_true, decide_eq_true_eq]
  exact ⟨fun h => ⟨⟨h.1.1, h.2.1, h.1.2⟩, h.2.2⟩, fun h => ⟨⟨h.1.1, h.1.2.2⟩, h.1.2.1, h.2⟩⟩
theorem S_const {α : Type} {lt : α → α → Bool} {l : List α} (q : α → Prop) (hq : ∀ x y, q x → q y → lt x y = false) (h : ∀ x ∈ l, q x) : sortS lt l = l := by
  rw [S_congr (lt' := fun _ _ => false) q hq h]
  exact foldl_const l [] fun _ _ _ => rfl
abbrev ltO (a b : E) : Bool := decide (a.on_ < b.on_)
theorem ord_O : Ord ltO := by
  refine ⟨fun a b h => ?_, fun a b c h k => ?_⟩ <;> simp [ltO] at * <;> omega
theorem two_sorts (Z : List E) : sortS ltO (sortS (ltE false) Z) = sortS (ltE true) Z := by
  refine eq_of_classes (fun e => e.on_) _ _ ((S_sorted ord_O _).imp fun {a b} h => ?_) ((S_sorted (ord_E true) _).imp fun {a b} h => ?_) fun k => ?_
  · simp [ltO] at h; exact h
  · rw [ltE_on] at h; simp at h; omega
  · rw [S_filter ord_O, S_filter (ord_E false), S_filter (ord_E true)]
    have hk : ∀ x ∈ Z.filter (fun x => decide (x.on_ = k)), x.on_ = k := fun x hx => of_decide_eq_true (List.mem_filter.1 hx).2
    rw [S_const (fun x => x.on_ = k) (fun x y h1 h2 => decide_eq_false (by omega)) (fun x hx => hk x ((S_perm _ _).mem_iff.1 hx))]
    refine S_congr (fun x => x.on_ = k) (fun x y h1 h2 => ?_) hk
    rw [ltE_id, ltE_on, Bool.eq_iff_iff, decide_eq_true_eq, decide_eq_true_eq]
    omega
abbrev gCh (pr b : Int) (e : E) : Ch := ⟨pr, e.version, b, e.on_⟩
theorem S_map {α β : Type} (f : α → β) {lt : α → α → Bool} {lt' : β → β → Bool} (h : ∀ x y, lt x y = lt' (f x) (f y)) : ∀ (l A : List α), (l.foldl (fun out e => insEnd (lt e) e out) A).map f = l.foldl (fun out e => insEnd (lt' (f e)) (f e) out) (A.map f)
  | [], A => rfl
  | x :: l, A => by rw [List.foldl_cons, List.foldl_cons, S_map f h l, ins_map f (h x)]
theorem enR_kind (l : List E) (k st pr a o : Int) : chos (enrolR l st pr a o) [cOf k] = sortS ltO ((countP l k a o).filter (enQ st pr)) := by
  rw [countP_S, S_filter (ord_E false), two_sorts, chos1, enrolR, srt_S, S_filter (ord_E true), chos2, List.filter_filter, List.filter_filter, List.filter_filter]
  congr 1
  refine List.filter_congr fun x _ => ?_
  rw [Bool.eq_iff_iff]
  simp only [cntQ, enQ, Bool.and_eq_true, decide_eq_true_eq]
  exact ⟨fun h => ⟨h.1.2, h.1.1, h.2⟩, fun h => ⟨⟨h.2.1, h.1⟩, h.2.2⟩⟩
theorem choices_eq (l : List E) (st pr b a o : Int) : rChoices l st pr b a o = (chos (enrolR l st pr a o) [cOf 2]).map (gCh pr b) := by
  rw [enR_kind, rChoices, sortS, S_map (gCh pr b) (lt' := fun c x => decide (c.on_ < x.on_)) (fun x y => rfl)]
  refine foldl_congr (fun out e => ?_) _ _
  rw [insCh, putB_ins]
theorem foldB (st pr : Int) : ∀ (l : List E) (x : Int × Bool), ((l.foldl (stepB st pr) x).2 = true ↔ x.2 = true ∨ ∃ e ∈ l, enQ st pr e = true) ∧
    ((l.foldl (stepB st pr) x).2 = true → (x.2 = true → (l.foldl (stepB st pr) x).1 ≤ x.1) ∧ (∀ e ∈ l, enQ st pr e = true → (l.foldl (stepB st pr) x).1 ≤ e.on_) ∧ ((x.2 = true ∧ (l.foldl (stepB st pr) x).1 = x.1) ∨ ∃ e ∈ l, enQ st pr e = true ∧ (l.foldl (stepB st pr) x).1 = e.on_))
  | [], x => ⟨⟨fun h => .inl h, fun h => h.elim id fun ⟨_, h, _⟩ => absurd h List.not_mem_nil⟩, fun h => ⟨fun _ => Int.le_refl _, fun _ h => absurd h List.not_mem_nil, .inl ⟨h, rfl⟩⟩⟩
  | e :: l, x => by
    have ih := foldB st pr l (stepB st pr x e)
    rw [List.foldl_cons]
    generalize l.foldl (stepB st pr) (stepB st pr x e) = r at ih ⊢
    obtain ⟨i1, i2⟩ := ih
    by_cases hc : (e.student = st ∧ e.programme = pr) ∧ (x.2 = false ∨ e.on_ < x.1)
    · have hs : stepB st pr x e = (e.on_, true) := if_pos hc
      have hq : enQ st pr e = true := decide_eq_true hc.1
      rw [hs] at i1 i2
      have ht : r.2 = true := i1.2 (.inl rfl)
      obtain ⟨j1, j2, j3⟩ := i2 ht
      have j1 : r.1 ≤ e.on_ := j1 rfl
      refine ⟨⟨fun _ => .inr ⟨e, List.mem_cons_self .., hq⟩, fun _ => ht⟩, fun _ => ⟨fun hx => ?_, fun y hy hqy => ?_, ?_⟩⟩
      · rcases hc.2 with h | h
        · rw [h] at hx; cases hx
        · omega
      · rcases List.mem_cons.1 hy with h | h
        · rw [h]; exact j1
        · exact j2 y h hqy
      · rcases j3 with ⟨_, h⟩ | ⟨y, h1, h2, h3⟩
        · exact .inr ⟨e, List.mem_cons_self .., hq, h⟩
        · exact .inr ⟨y, List.mem_cons_of_mem _ h1, h2, h3⟩
    · have hs : stepB st pr x e = x := if_neg hc
      rw [hs] at i1 i2
      refine ⟨⟨fun h => ?_, fun h => ?_⟩, fun h => ?_⟩
      · rcases i1.1 h with h | ⟨y, h1, h2⟩
        · exact .inl h
        · exact .inr ⟨y, List.mem_cons_of_mem _ h1, h2⟩
      · rcases h with h | ⟨y, h1, h2⟩
        · exact i1.2 (.inl h)
        · rcases List.mem_cons.1 h1 with h | h
          · subst h
            refine i1.2 (.inl ?_)
            cases hx : x.2 with
            | true => rfl
            | false => exact absurd ⟨of_decide_eq_true h2, .inl hx⟩ hc
          · exact i1.2 (.inr ⟨y, h, h2⟩)
      · obtain ⟨j1, j2, j3⟩ := i2 h
        refine ⟨j1, fun y hy hqy => ?_, ?_⟩
        · rcases List.mem_cons.1 hy with k | k
          · subst k
            have h1 : x.2 = true := by
              cases hx : x.2 with
              | true => rfl
              | false => exact absurd ⟨of_decide_eq_true hqy, .inl hx⟩ hc
            have h2 : ¬ y.on_ < x.1 := fun h => hc ⟨of_decide_eq_true hqy, .inr h⟩
            have := j1 h1
            omega
          · exact j2 y k hqy
        · rcases j3 with h | ⟨y, h1, h2, h3⟩
          · exact .inl h
          · exact .inr ⟨y, List.mem_cons_of_mem _ h1, h2, h3⟩
theorem enrol_eq (l : List E) (st pr a o : Int) : enrolP l st pr a o = rEnrolP l st pr a o := by
  have hB := foldB st pr (countP l 1 a o) (0, false)
  rw [show (countP l 1 a o).foldl (stepB st pr) (0, false) = rBegin l st pr a o from rfl] at hB
  have hmem : ∀ x, x ∈ enrolF l st pr a o ↔ x ∈ countP l 1 a o ∧ enQ st pr x = true := by
    intro x
    rw [enrolF, enR_kind, (S_perm _ _).mem_iff, List.mem_filter]
  have hsrt : Sorted ltO (enrolF l st pr a o) := by rw [enrolF, enR_kind]; exact S_sorted ord_O _
  unfold enrolP rEnrolP
  cases hF : enrolF l st pr a o with
  | nil =>
    have h2 : (rBegin l st pr a o).2 = false := by
      cases h : (rBegin l st pr a o).2 with
      | false => rfl
      | true =>
        rcases hB.1.1 h with h | ⟨e, h1, h2⟩
        · cases h
        · have := (hmem e).2 ⟨h1, h2⟩
          rw [hF] at this
          exact absurd this List.not_mem_nil
    rw [h2]; rfl
  | cons f0 F =>
    rw [hF] at hmem hsrt
    have h0 := (hmem f0).1 (List.mem_cons_self ..)
    have h2 : (rBegin l st pr a o).2 = true := hB.1.2 (.inr ⟨f0, h0.1, h0.2⟩)
    obtain ⟨_, j2, j3⟩ := hB.2 h2
    have hle : ∀ x ∈ f0 :: F, f0.on_ ≤ x.on_ := by
      intro x hx
      rcases List.mem_cons.1 hx with h | h
      · rw [h]; exact Int.le_refl _
      · have := (List.pairwise_cons.1 hsrt).1 x h
        simp [ltO] at this
        exact this
    have h1 : (rBegin l st pr a o).1 = f0.on_ := by
      have k1 := j2 f0 h0.1 h0.2
      rcases j3 with ⟨h, _⟩ | ⟨y, g1, g2, g3⟩
      · cases h
      · have := hle y ((hmem y).2 ⟨g1, g2⟩)
        omega
    rw [h2, h1]
    simp only [List.isEmpty_cons, Bool.false_eq_true, if_false, if_true]
    rw [choices_eq, enrolC, hF]; rfl
end En
end Go.Proofs.Ytjnohedknlibmaa
namespace Go.Proofs.Ytjnohedknlibmaa
open Go.Proofs.Ytjnohedknlibmaa.Am
namespace En
/-- What == says of two entries. -/
def enB (a b : E) : Bool := (a.id == b.id) && ((a.school == b.school) && ((a.student == b.student) && ((a.kind == b.kind) && ((a.day == b.day) && ((a.on_ == b.on_) && ((a.course.toList == b.course.toList) && ((a.credits == b.credits) && ((a.grade == b.grade) && ((a.ref == b.ref) && ((a.frm == b.frm) && ((a.programme == b.programme) && ((a.version == b.version) && ((a.key == b.key) && ((a.mark.toList == b.mark.toList) && true))))))))))))))
def stB (a b : St) : Bool := (a.entry == b.entry) && ((a.by_ == b.by_) && ((a.grade == b.grade) && ((a.void == b.void) && true)))
def chB (a b : Ch) : Bool := (a.pr == b.pr) && ((a.ver == b.ver) && ((a.beg == b.beg) && ((a.on_ == b.on_) && true)))
theorem enB_self (a : E) : enB a a = true := by simp [enB]
theorem stB_self (a : St) : stB a a = true := by simp [stB]
theorem chB_self (a : Ch) : chB a a = true := by simp [chB]
def s0 : St := ⟨0, 0, 0, false⟩
theorem Same_f (l : List St) (f1 f2 : Fl) (hl : l.length ≤ 100000) : AFun Try.prog 12 0 [.ro f1 4 (l.map stA), .ro f2 4 (l.map stA)] [] (bool true) [] := by
  refine AFun.of_W T_ok mixed Try.func12 rfl (Nat.le_of_ble_eq_true rfl) rfl ?_
  have hm : (l.map stA).length = l.length := List.length_map _
  ((repeat ((conv => whnf); (first | (refine As.pre ?_; first | refine As.mk rfl ?_) | (refine LetI.pre ?_; first | refine LetI.mk _ rfl ?_) | (refine LetB.pre ?_; first | refine LetB.bnef (by omega) ?_) | (refine Br.pre ?_; first | refine Br.ff rfl ?_) | (refine Ck.pre ?_; first | refine Ck.mk rfl ?_)))); (try (conv => whnf)))
  refine LoopN.weak (s1 := ⟨[(0, .ro f1 4 (l.map stA)), (1, .ro f2 4 (l.map stA)), (5, int (0 : Nat))], [], 0⟩) (SW.fr0 (Nat.le_refl _) rfl ⟨.refl _, .refl _, .refl _, trivial⟩) ?_
  refine LoopN.ind T_ok mixed (S := fun k : Nat => ⟨[(0, .ro f1 4 (l.map stA)), (1, .ro f2 4 (l.map stA)), (5, int k)], [], 0⟩) (fun k => l.length - k) (fun k => k ≤ l.length) (fun _ => rfl) (fun k hk ih => ?_) 0 (Nat.zero_le _)
  by_cases hlt : k < l.length
  case neg =>
    clear ih
    ((repeat ((conv => whnf); (first | (refine As.pre ?_; first | refine As.mk rfl ?_) | (refine LetI.pre ?_; first | refine LetI.mk _ rfl ?_) | (refine LetB.pre ?_; first | refine LetB.decf (by omega) ?_) | (refine Br.pre ?_; first | refine Br.ff rfl ?_) | (refine Ck.pre ?_; first | refine Ck.mk rfl ?_)))); (try (conv => whnf)))
    exact ⟨.inl rfl, ⟨_, rfl, rfl⟩, trivial⟩
  have hld : stA (l.getD k s0) = (l.map stA).getD k (.sc undef) := mapD s0 hlt
  generalize l.getD k s0 = e at hld
  have he : (!stB e e) = false := by rw [stB_self]; rfl
  ((repeat ((conv => whnf); (first | (refine As.pre ?_; first | refine As.mk rfl ?_ | (refine As.mk ?_ ?_; · ((repeat' (refine andT ?_ ?_)) <;> (first | rfl | assumption | exact decide_eq_true (by omega) | exact decide_eq_true (by dsimp only; omega) | exact decide_eq_true (by simp; omega) | (simp; done))))) | (refine LetV.pre ?_; first | refine LetV.mk (t := 34) _ hld ?_ | refine LetV.mk (.agg _) rfl ?_) | (refine LetI.pre ?_; first | refine LetI.wrap (by omega) (by omega) ?_ | refine LetI.mk _ rfl ?_) | (refine LetB.pre ?_; first | refine LetB.ff (by assumption) ?_ | refine LetB.dect (by omega) ?_) | (refine Br.pre ?_; first | refine Br.tt rfl ?_ | refine Br.ff rfl ?_) | (refine Ck.pre ?_; first | refine Ck.drawn (by kernel_rfl) ?_ | refine Ck.mk rfl ?_)))); (try (conv => whnf)))
  refine LoopN.weak ?_ (ih (k + 1) (by omega) (by omega))
  exact SW.fr0 (Nat.le_refl _) rfl ⟨.refl _, .refl _, VLe2.int (by omega), trivial⟩
theorem SameEntries_f (l : List E) (f1 f2 : Fl) (hl : l.length ≤ 100000) : AFun Try.prog 22 0 [.ro f1 15 (l.map en), .ro f2 15 (l.map en)] [] (bool true) [] := by
  refine AFun.of_W T_ok mixed Try.func22 rfl (Nat.le_of_ble_eq_true rfl) rfl ?_
  have hm : (l.map en).length = l.length := List.length_map _
  ((repeat ((conv => whnf); (first | (refine As.pre ?_; first | refine As.mk rfl ?_) | (refine LetI.pre ?_; first | refine LetI.mk _ rfl ?_) | (refine LetB.pre ?_; first | refine LetB.bnef (by omega) ?_) | (refine Br.pre ?_; first | refine Br.ff rfl ?_) | (refine Ck.pre ?_; first | refine Ck.mk rfl ?_)))); (try (conv => whnf)))
  refine LoopN.weak (s1 := ⟨[(0, .ro f1 15 (l.map en)), (1, .ro f2 15 (l.map en)), (5, int (0 : Nat))], [], 0⟩) (SW.fr0 (Nat.le_refl _) rfl ⟨.refl _, .refl _, .refl _, trivial⟩) ?_
  refine LoopN.ind T_ok mixed (S := fun k : Nat => ⟨[(0, .ro f1 15 (l.map en)), (1, .ro f2 15 (l.map en)), (5, int k)], [], 0⟩) (fun k => l.length - k) (fun k => k ≤ l.length) (fun _ => rfl) (fun k hk ih => ?_) 0 (Nat.zero_le _)
  by_cases hlt : k < l.length
  case neg =>
    clear ih
    ((repeat ((conv => whnf); (first | (refine As.pre ?_; first | refine As.mk rfl ?_) | (refine LetI.pre ?_; first | refine LetI.mk _ rfl ?_) | (refine LetB.pre ?_; first | refine LetB.decf (by omega) ?_) | (refine Br.pre ?_; first | refine Br.ff rfl ?_) | (refine Ck.pre ?_; first | refine Ck.mk rfl ?_)))); (try (conv => whnf)))
    exact ⟨.inl rfl, ⟨_, rfl, rfl⟩, trivial⟩
  have hld : en (l.getD k e0) = (l.map en).getD k (.sc undef) := mapD e0 hlt
  generalize l.getD k e0 = e at hld
  have he : (!enB e e) = false := by rw [enB_self]; rfl
  ((repeat ((conv => whnf); (first | (refine As.pre ?_; first | refine As.mk rfl ?_ | (refine As.mk ?_ ?_; · ((repeat' (refine andT ?_ ?_)) <;> (first | rfl | assumption | exact decide_eq_true (by omega) | exact decide_eq_true (by dsimp only; omega) | exact decide_eq_true (by simp; omega) | (simp; done))))) | (refine LetV.pre ?_; first | refine LetV.mk (t := 29) _ hld ?_ | refine LetV.mk (.agg _) rfl ?_) | (refine LetI.pre ?_; first | refine LetI.wrap (by omega) (by omega) ?_ | refine LetI.mk _ rfl ?_) | (refine LetB.pre ?_; first | refine LetB.ff (by assumption) ?_ | refine LetB.dect (by omega) ?_) | (refine Br.pre ?_; first | refine Br.tt rfl ?_ | refine Br.ff rfl ?_) | (refine Ck.pre ?_; first | refine Ck.drawn (by kernel_rfl) ?_ | refine Ck.mk rfl ?_)))); (try (conv => whnf)))
  refine LoopN.weak ?_ (ih (k + 1) (by omega) (by omega))
  exact SW.fr0 (Nat.le_refl _) rfl ⟨.refl _, .refl _, VLe2.int (by omega), trivial⟩
end En
end Go.Proofs.Ytjnohedknlibmaa
namespace Go.Proofs.Ytjnohedknlibmaa
open Go.Proofs.Ytjnohedknlibmaa.Am
namespace En
/-! ### What ForceSame compares -/
def cut10 (s : ByteArray) : ByteArray := s.extract (0 : Int).toNat (min (s.size : Int) 10).toNat
theorem cut10_small (s : ByteArray) : (cut10 s).size ≤ 10 := by
  rw [cut10, ByteArray.size_extract]; omega
def fewE (e : E) : E := { e with course := cut10 e.course, mark := cut10 e.mark }
def fewP (l : List E) : List E := (l.take 10).map fewE
theorem fewP_length (l : List E) : (fewP l).length ≤ 10 := by simp [fewP]; omega
theorem fewP_course {l : List E} : ∀ e ∈ fewP l, e.course.size ≤ 9223372036854775806 := by
  intro e he
  obtain ⟨x, _, rfl⟩ := List.mem_map.1 he
  have := cut10_small x.course
  show (cut10 x.course).size ≤ _
  omega
abbrev fewS (l : List E) (fl : Fl) : Nat × List E → AS
  | (k, out) => ⟨[(0, .ro fl 15 (l.map en)), (3, .slm {} 0 15 0 out.length), (4, int k)], [(0, .row 15 ety (out.map en))], 1⟩
set_option maxRecDepth 100000 in
theorem few_s (l : List E) (fl : Fl) (hl : l.length ≤ 9223372036854775807) : AFun Try.prog 17 0 [.ro fl 15 (l.map en)] [] (.slm {} 0 15 0 (fewP l).length) [(0, .row 15 ety ((fewP l).map en))] := by
  refine AFun.of_S T_ok mixed Try.func17 rfl (Nat.le_of_ble_eq_true rfl) rfl ?_
  ((repeat ((conv => whnf); (first | (refine As.pre ?_; first | refine As.mk rfl ?_) | (refine Ck.pre ?_; first | refine Ck.mk rfl ?_)))); (try (conv => whnf)))
  refine LoopN.weak (s1 := fewS l fl (0, [])) ?sw1 ?_
  case sw1 => exact SW.mk id rfl rfl rfl ⟨.refl _, VLe2.nilslm, .refl _, trivial⟩ (haveV.nil (Nat.le_refl _) trivial)
  refine LoopN.ind T_ok mixed (S := fewS l fl) (fun i => l.length - i.1) (fun i => i.1 ≤ l.length ∧ i.1 ≤ 10 ∧ i.2 = (l.take i.1).map fewE) (fun _ => rfl) (fun i hi ih => ?_) (0, []) ⟨Nat.zero_le _, Nat.zero_le _, rfl⟩
  obtain ⟨k, out⟩ := i
  obtain ⟨h1, h10, h2⟩ := hi
  simp only at h1 h10 h2 ih
  have hm : (l.map en).length = l.length := List.length_map _
  by_cases hlt : k < l.length ∧ k < 10
  case neg =>
    have hk : l.take k = l.take 10 := by
      by_cases h : k = 10
      · rw [h]
      · rw [List.take_of_length_le (by omega), List.take_of_length_le (by omega)]
    have hF : out = fewP l := by rw [h2, hk]; rfl
    rw [← hF]
    clear ih h2
    by_cases hkl : k < l.length
    · ((repeat ((conv => whnf); (first | (refine As.pre ?_; first | refine As.mk rfl ?_) | (refine LetI.pre ?_; first | refine LetI.mk _ rfl ?_) | (refine LetB.pre ?_; first | refine LetB.dect (by omega) ?_ | refine LetB.decf (by omega) ?_) | (refine Gd.pre ?_; first | refine Gd.run rfl ?_) | (refine Br.pre ?_; first | refine Br.ff rfl ?_) | (refine Ck.pre ?_; first | refine Ck.mk rfl ?_)))); (try (conv => whnf)))
      exact ⟨⟨[(2, .slm {} 0 15 0 out.length)], [(0, .row 15 ety (out.map en))], 1⟩, SW.mk id rfl rfl (namesAll.row (pure_en _) rfl) ⟨.refl _, trivial⟩ (haveV.row (pure_en _) rfl trivial), .inl rfl, ⟨_, rfl, rfl⟩, rfl, trivial⟩
    · ((repeat ((conv => whnf); (first | (refine As.pre ?_; first | refine As.mk rfl ?_) | (refine LetI.pre ?_; first | refine LetI.mk _ rfl ?_) | (refine LetB.pre ?_; first | refine LetB.decf (by omega) ?_) | (refine Gd.pre ?_; first | refine Gd.pass rfl ?_) | (refine Br.pre ?_; first | refine Br.ff rfl ?_) | (refine Ck.pre ?_; first | refine Ck.mk rfl ?_)))); (try (conv => whnf)))
      exact ⟨⟨[(2, .slm {} 0 15 0 out.length)], [(0, .row 15 ety (out.map en))], 1⟩, SW.mk id rfl rfl (namesAll.row (pure_en _) rfl) ⟨.refl _, trivial⟩ (haveV.row (pure_en _) rfl trivial), .inl rfl, ⟨_, rfl, rfl⟩, rfl, trivial⟩
  obtain ⟨hlt, hlt10⟩ := hlt
  have hld : en (l.getD k e0) = (l.map en).getD k (.sc undef) := mapD e0 hlt
  have hq := take_map_succ fewE hlt e0
  rw [← h2] at hq
  have hol : out.length = k := by rw [h2]; simp; omega
  clear h2
  generalize l.getD k e0 = e at hld hq
  have hr := room_en (n := out.length + 1) (by omega)
  have hol2 : (out.map en).length = out.length := List.length_map _
  ((repeat ((conv => whnf); (first | (refine LetN.pre ?_; first | ((conv => arg 1; whnf); refine LetN.mk ?_)) | (refine As.pre ?_; first | refine As.mk rfl ?_ | (refine As.mk ?_ ?_; · ((repeat' (refine andT ?_ ?_)) <;> (first | rfl | assumption | exact decide_eq_true (by omega) | exact decide_eq_true (by dsimp only; omega) | exact decide_eq_true (by simp; omega) | (simp; done))))) | (refine LetV.pre ?_; first | refine LetV.mk (t := 29) _ hld ?_ | refine LetV.mk (.sc _) rfl ?_ | refine LetV.mk (.agg _) rfl ?_) | (refine LetI.pre ?_; first | refine LetI.wrap (by omega) (by omega) ?_ | refine LetI.mk _ rfl ?_) | (refine LetB.pre ?_; first | refine LetB.dect (by omega) ?_) | (refine Gd.pre ?_; first | refine Gd.run rfl ?_) | (refine Br.pre ?_; first | refine Br.tt rfl ?_) | (refine Ck.pre ?_; first | refine Ck.mk rfl ?_) | (refine LetL.pre ?_; first | refine LetL.mk (ty := ety) _ (app_en out (fewE e) _ rfl) ?_ | refine LetL.mk [_] rfl ?_)))); (try (conv => whnf)))


  refine LoopN.weak ?sw2 (ih (k + 1, out ++ [fewE e]) ⟨by omega, by show k + 1 ≤ 10; omega, hq.symm⟩ (by show l.length - (k + 1) < l.length - k; omega))
  case sw2 => exact SW.mk (fun i => if i = 0 then 2 else i) rfl rfl (namesAll.row (pure_en _) rfl) ⟨.refl _, VLe2.slm_of (by simp), VLe2.int (by omega), trivial⟩ (haveV.row (pure_en _) rfl trivial)
theorem few_f (l : List E) (fl : Fl) (hl : l.length ≤ 9223372036854775807) : AFun Try.prog 17 0 [.ro fl 15 (l.map en)] [] (.ro {} 15 ((fewP l).map en)) [] :=
  AFun.frz1 (H := []) (few_s l fl hl) rfl (pure_en _) (by simp)
theorem atP_length (l : List E) (a o : Int) : (atP l a o).length ≤ l.length := by
  rw [atP, List.length_map, atR_kind]; exact countP_length ..
theorem awardsP_length (l : List E) (a o : Int) : (awardsP l a o).length ≤ l.length := by
  rw [awards_eq, rAwardsP]
  exact Nat.le_trans (List.length_filter_le _ _) (countP_length ..)
theorem enrolP_length (l : List E) (st pr a o : Int) : (enrolP l st pr a o).2.1.length ≤ l.length := by
  unfold enrolP
  split
  · exact Nat.zero_le _
  · show (enrolC l st pr a o).length ≤ _
    rw [enrolC, List.length_map, enR_kind, (S_perm _ _).length_eq]
    exact Nat.le_trans (List.length_filter_le _ _) (countP_length ..)
theorem sameCh_f (l : List Ch) (f1 f2 : Fl) (hl : l.length ≤ 100000) : AFun Try.prog 24 0 [.ro f1 4 (l.map chA), .ro f2 4 (l.map chA)] [] (bool true) [] := by
  refine AFun.of_W T_ok mixed Try.func24 rfl (Nat.le_of_ble_eq_true rfl) rfl ?_
  have hm : (l.map chA).length = l.length := List.length_map _
  ((repeat ((conv => whnf); (first | (refine As.pre ?_; first | refine As.mk rfl ?_) | (refine LetI.pre ?_; first | refine LetI.mk _ rfl ?_) | (refine LetB.pre ?_; first | refine LetB.bnef (by omega) ?_) | (refine Br.pre ?_; first | refine Br.ff rfl ?_) | (refine Ck.pre ?_; first | refine Ck.mk rfl ?_)))); (try (conv => whnf)))
  refine LoopN.weak (s1 := ⟨[(0, .ro f1 4 (l.map chA)), (1, .ro f2 4 (l.map chA)), (5, int (0 : Nat))], [], 0⟩) (SW.fr0 (Nat.le_refl _) rfl ⟨.refl _, .refl _, .refl _, trivial⟩) ?_
  refine LoopN.ind T_ok mixed (S := fun k : Nat => ⟨[(0, .ro f1 4 (l.map chA)), (1, .ro f2 4 (l.map chA)), (5, int k)], [], 0⟩) (fun k => l.length - k) (fun k => k ≤ l.length) (fun _ => rfl) (fun k hk ih => ?_) 0 (Nat.zero_le _)
  by_cases hlt : k < l.length
  case neg =>
    clear ih
    ((repeat ((conv => whnf); (first | (refine As.pre ?_; first | refine As.mk rfl ?_) | (refine LetI.pre ?_; first | refine LetI.mk _ rfl ?_) | (refine LetB.pre ?_; first | refine LetB.decf (by omega) ?_) | (refine Br.pre ?_; first | refine Br.ff rfl ?_) | (refine Ck.pre ?_; first | refine Ck.mk rfl ?_)))); (try (conv => whnf)))
    exact ⟨.inl rfl, ⟨_, rfl, rfl⟩, trivial⟩
  have hld : chA (l.getD k c0) = (l.map chA).getD k (.sc undef) := mapD c0 hlt
  generalize l.getD k c0 = e at hld
  have he : (!chB e e) = false := by rw [chB_self]; rfl
  ((repeat ((conv => whnf); (first | (refine As.pre ?_; first | refine As.mk rfl ?_ | (refine As.mk ?_ ?_; · ((repeat' (refine andT ?_ ?_)) <;> (first | rfl | assumption | exact decide_eq_true (by omega) | exact decide_eq_true (by dsimp only; omega) | exact decide_eq_true (by simp; omega) | (simp; done))))) | (refine LetV.pre ?_; first | refine LetV.mk (t := 57) _ hld ?_ | refine LetV.mk (.agg _) rfl ?_) | (refine LetI.pre ?_; first | refine LetI.wrap (by omega) (by omega) ?_ | refine LetI.mk _ rfl ?_) | (refine LetB.pre ?_; first | refine LetB.ff (by assumption) ?_ | refine LetB.dect (by omega) ?_) | (refine Br.pre ?_; first | refine Br.tt rfl ?_ | refine Br.ff rfl ?_) | (refine Ck.pre ?_; first | refine Ck.drawn (by kernel_rfl) ?_ | refine Ck.mk rfl ?_)))); (try (conv => whnf)))
  refine LoopN.weak ?_ (ih (k + 1) (by omega) (by omega))
  exact SW.fr0 (Nat.le_refl _) rfl ⟨.refl _, .refl _, VLe2.int (by omega), trivial⟩
set_option maxRecDepth 100000 in
theorem same_f (l : List E) (a o n : Int) (fl : Fl) (hl : l.length ≤ 15) : AFun Try.prog 20 0 [.ro fl 15 (l.map en), int a, int o, int n] [] (bool true) [] := by
  refine AFun.of_W T_ok mixed Try.func20 rfl (Nat.le_of_ble_eq_true rfl) rfl ?_
  have hm : (l.map en).length = l.length := List.length_map _
  have k1 := Known_f l a fl (by omega)
  have k2 := rKnown_f l a fl (by omega)
  have k3 := SameEntries_f (knownP l a) {} {} (by have : (knownP l a).length ≤ l.length := List.length_filter_le _ _; omega)
  generalize knownP l a = K at k1 k2 k3
  have a1 := At_f l a o fl (by omega)
  have a2 := rAt_f l a o fl (by omega)
  rw [← at_eq] at a2
  have a3 := Same_f (atP l a o) {} {} (by have := atP_length l a o; omega)
  generalize atP l a o = A at a1 a2 a3
  have w1 := Awards_f l a o fl (by omega)
  have w2 := rAwards_f l a o fl (by omega)
  rw [← awards_eq] at w2
  have w3 := SameEntries_f (awardsP l a o) {} {} (by have := awardsP_length l a o; omega)
  generalize awardsP l a o = W at w1 w2 w3
  have L1 := fun f => Lifted_f l f a o fl (by omega)
  have L2 := fun f => rLifted_f l f a o fl (by omega)
  simp only [lift_eq] at L2
  generalize hLP : (fun f => liftedP l f a o) = LP
  have L1 : ∀ f, AFun Try.prog 14 0 [.ro fl 15 (l.map en), int f, int a, int o] [] (bool (LP f)) [] := by rw [← hLP]; exact L1
  have L2 : ∀ f, AFun Try.prog 43 0 [.ro fl 15 (l.map en), int f, int a, int o] [] (bool (LP f)) [] := by rw [← hLP]; exact L2
  clear hLP
  have E1 := fun st pr => Enrol_f l st pr a o fl (by omega)
  have E2 := fun st pr => rEnrol_f l st pr a o fl (by omega)
  have E3 := fun st pr => sameCh_f (enrolP l st pr a o).2.1 {} {} (by have := enrolP_length l st pr a o; omega)
  simp only [← enrol_eq] at E2
  generalize hEN : (fun st pr => enrolP l st pr a o) = EN
  replace E1 : ∀ st pr, AFun Try.prog 23 0 [.ro fl 15 (l.map en), int st, int pr, int a, int o] [] (enrolV (EN st pr)) [] := by rw [← hEN]; exact E1
  replace E2 : ∀ st pr, AFun Try.prog 44 0 [.ro fl 15 (l.map en), int st, int pr, int a, int o] [] (enrolV (EN st pr)) [] := by rw [← hEN]; exact E2
  replace E3 : ∀ st pr, AFun Try.prog 24 0 [.ro {} 4 ((EN st pr).2.1.map chA), .ro {} 4 ((EN st pr).2.1.map chA)] [] (bool true) [] := by rw [← hEN]; exact E3
  clear hEN
  ((repeat ((conv => whnf); (first | (refine As.pre ?_; first | refine As.mk rfl ?_) | (refine Gd.pre ?_; first | refine Gd.run rfl ?_) | (refine Br.pre ?_; first | refine Br.ff rfl ?_) | (refine Ck.pre ?_; first | refine Ck.mk rfl ?_) | (refine CallN.pre ?_; first | refine CallN.pure k1 rfl rfl ?_ | refine CallN.pure k2 rfl rfl ?_ | refine CallN.pure k3 rfl rfl ?_ | refine CallN.pure a1 rfl rfl ?_ | refine CallN.pure a2 rfl rfl ?_ | refine CallN.pure a3 rfl rfl ?_ | refine CallN.pure w1 rfl rfl ?_ | refine CallN.pure w2 rfl rfl ?_ | refine CallN.pure w3 rfl rfl ?_)))); (try (conv => whnf)))









  clear k1 k2 k3 a1 a2 a3 w1 w2 w3
  refine LoopN.weak (s1 := ⟨[(0, .ro fl 15 (l.map en)), (1, int a), (2, int o), (3, int n), (9, int (0 : Nat))], [], 0⟩) (SW.fr0 (Nat.le_refl _) rfl ⟨.refl _, .refl _, .refl _, .refl _, .refl _, trivial⟩) ?_
  refine LoopN.ind T_ok mixed (S := fun k : Nat => ⟨[(0, .ro fl 15 (l.map en)), (1, int a), (2, int o), (3, int n), (9, int k)], [], 0⟩) (fun k => l.length - k) (fun k => k ≤ l.length) (fun _ => rfl) (fun k hk ih => ?_) 0 (Nat.zero_le _)
  by_cases hlt : k < l.length ∧ k < 14
  case neg =>
    clear ih
    have L1n := L1 n
    have L2n := L2 n
    have E1n := E1 n n
    have E2n := E2 n n
    generalize LP n = b at L1n L2n
    generalize EN n n = x at E1n E2n
    obtain ⟨x1, x2, x3⟩ := x
    clear L1 L2 E1 E2 E3
    have hx : (x3 == x3) = true := by simp
    have hb : (b == b) = true := by simp
    by_cases hkl : k < l.length
    · ((repeat ((conv => whnf); (first | (refine As.pre ?_; first | refine As.mk rfl ?_) | (refine LetI.pre ?_; first | refine LetI.mk _ rfl ?_) | (refine LetB.pre ?_; first | refine LetB.tt (by assumption) ?_ | refine LetB.dect (by omega) ?_ | refine LetB.decf (by omega) ?_) | (refine Gd.pre ?_; first | refine Gd.run rfl ?_) | (refine Br.pre ?_; first | refine Br.ff rfl ?_) | (refine Ck.pre ?_; first | refine Ck.mk rfl ?_) | (refine CallN.pre ?_; first | refine CallN.pure L1n rfl rfl ?_ | refine CallN.pure L2n rfl rfl ?_ | refine CallN.pure E1n rfl rfl ?_ | refine CallN.pure E2n rfl rfl ?_)))); (try (conv => whnf)))






      exact ⟨.inl rfl, ⟨_, rfl, rfl⟩, trivial⟩
    · ((repeat ((conv => whnf); (first | (refine As.pre ?_; first | refine As.mk rfl ?_) | (refine LetI.pre ?_; first | refine LetI.mk _ rfl ?_) | (refine LetB.pre ?_; first | refine LetB.tt (by assumption) ?_ | refine LetB.decf (by omega) ?_) | (refine Gd.pre ?_; first | refine Gd.run rfl ?_ | refine Gd.pass rfl ?_) | (refine Br.pre ?_; first | refine Br.ff rfl ?_) | (refine Ck.pre ?_; first | refine Ck.mk rfl ?_) | (refine CallN.pre ?_; first | refine CallN.pure L1n rfl rfl ?_ | refine CallN.pure L2n rfl rfl ?_ | refine CallN.pure E1n rfl rfl ?_ | refine CallN.pure E2n rfl rfl ?_)))); (try (conv => whnf)))






      exact ⟨.inl rfl, ⟨_, rfl, rfl⟩, trivial⟩
  obtain ⟨hlt, hlt14⟩ := hlt
  have hld : en (l.getD k e0) = (l.map en).getD k (.sc undef) := mapD e0 hlt
  generalize l.getD k e0 = e at hld
  have L1n := L1 e.id
  have L2n := L2 e.id
  have E1n := E1 e.student e.programme
  have E2n := E2 e.student e.programme
  have E3n := E3 e.student e.programme
  generalize LP e.id = b at L1n L2n
  generalize EN e.student e.programme = x at E1n E2n E3n
  obtain ⟨x1, x2, x3⟩ := x
  clear L1 L2 E1 E2 E3
  have hx : (x3 != x3) = false := by simp
  have hb : (b != b) = false := by simp
  have hx1 : (x1 != x1) = false := by simp
  ((repeat ((conv => whnf); (first | (refine As.pre ?_; first | refine As.mk rfl ?_ | (refine As.mk ?_ ?_; · ((repeat' (refine andT ?_ ?_)) <;> (first | rfl | assumption | exact decide_eq_true (by omega) | exact decide_eq_true (by dsimp only; omega) | exact decide_eq_true (by simp; omega) | (simp; done))))) | (refine LetV.pre ?_; first | refine LetV.mk (t := 29) _ hld ?_ | refine LetV.mk (.sc (.int _ _)) rfl ?_) | (refine LetI.pre ?_; first | refine LetI.wrap (by omega) (by omega) ?_ | refine LetI.mk _ rfl ?_) | (refine LetB.pre ?_; first | refine LetB.ff (by assumption) ?_ | refine LetB.dect (by omega) ?_) | (refine Gd.pre ?_; first | refine Gd.run rfl ?_) | (refine Br.pre ?_; first | refine Br.tt rfl ?_ | refine Br.ff rfl ?_) | (refine Ck.pre ?_; first | refine Ck.drawn (by kernel_rfl) ?_ | refine Ck.mk rfl ?_) | (refine CallN.pre ?_; first | refine CallN.pure L1n rfl rfl ?_ | refine CallN.pure L2n rfl rfl ?_ | refine CallN.pure E1n rfl rfl ?_ | refine CallN.pure E2n rfl rfl ?_ | refine CallN.pure E3n rfl rfl ?_)))); (try (conv => whnf)))









  refine LoopN.weak ?_ (ih (k + 1) (by omega) (by omega))
  exact SW.fr0 (Nat.le_refl _) rfl ⟨.refl _, .refl _, .refl _, .refl _, VLe2.int (by omega), trivial⟩
end En
end Go.Proofs.Ytjnohedknlibmaa
namespace Go.Proofs.Ytjnohedknlibmaa
open Go.Proofs.Ytjnohedknlibmaa.Am
namespace En
/-- A rune that no code has. -/
def wrongR (c : Nat) : Bool := decide ((c < 65 ∨ 90 < c) ∧ (c < 48 ∨ 57 < c))
theorem wrong_calls (w : World) : Go.Proofs.PredAt Try.prog 84 #[] Go.Proofs.encR wrongR w := by
  intro W x _
  show Calls Try.prog 84 #[.int .i32 (x : Int)] W _
  unfold wrongR
  go_enter Try.func84, Try.ntmps84
  go_wp2
  all_goals
    go_ret
    refine ⟨?_, 0, rfl⟩
  all_goals
    refine congrArg (fun b => Ending.returned (.bool b)) (Bool.eq_iff_iff.2 ?_)
    simp only [Bool.and_eq_true, Bool.or_eq_true, decide_eq_true_eq, Bool.false_eq_true, false_iff, true_iff]
    try omega
def lays : Go.Shelf.Ren := ⟨fun n => match n with | 315 => 87 | n => n, fun t => match t with | 0 => 0 | 3 => 3 | 4 => 4 | 9 => 9 | 21 => 21 | 40 => 111 | t => t, fun g => g⟩
theorem lays_ok : Go.Proofs.Lays.n315 Try.prog lays where
  mixed := mixed
  f315 := by kernel_rfl
  t0 := by kernel_rfl
  a0 := fun w => TT.Ok.isAgg T_ok (t := 0) rfl w
  z0 := fun w => TT.Ok.sizeOf T_ok (t := 0) rfl w
  v0 := fun w => TT.Ok.zero T_ok (t := 0) rfl w
  t3 := by kernel_rfl
  a3 := fun w => TT.Ok.isAgg T_ok (t := 3) rfl w
  z3 := fun w => TT.Ok.sizeOf T_ok (t := 3) rfl w
  v3 := fun w => TT.Ok.zero T_ok (t := 3) rfl w
  t4 := by kernel_rfl
  a4 := fun w => TT.Ok.isAgg T_ok (t := 4) rfl w
  z4 := fun w => TT.Ok.sizeOf T_ok (t := 4) rfl w
  v4 := fun w => TT.Ok.zero T_ok (t := 4) rfl w
  t9 := by kernel_rfl
  a9 := fun w => TT.Ok.isAgg T_ok (t := 9) rfl w
  z9 := fun w => TT.Ok.sizeOf T_ok (t := 9) rfl w
  v9 := fun w => TT.Ok.zero T_ok (t := 9) rfl w
  t21 := by kernel_rfl
  a21 := fun w => TT.Ok.isAgg T_ok (t := 21) rfl w
  z21 := fun w => TT.Ok.sizeOf T_ok (t := 21) rfl w
  v21 := fun w => TT.Ok.zero T_ok (t := 21) rfl w
  t40 := by kernel_rfl
  a40 := fun w => TT.Ok.isAgg T_ok (t := 111) rfl w
  z40 := fun w => TT.Ok.sizeOf T_ok (t := 111) rfl w
  v40 := fun w => TT.Ok.zero T_ok (t := 111) rfl w
theorem indexFunc_f (s : ByteArray) : AFun Try.prog 87 0 [str s, .clo 84 [], bool true] [] (int (Go.Lib.idxFunc wrongR true s)) [] := by
  intro w g xs hl hx hH _
  obtain ⟨a, b, c, rfl⟩ : ∃ a b c, xs = #[a, b, c] := by
    rcases xs with ⟨l⟩
    rcases l with _ | ⟨a, _ | ⟨b, _ | ⟨c, _ | ⟨d, l⟩⟩⟩⟩
    all_goals simp at hl
    exact ⟨a, b, c, rfl⟩
  have h0 := (hx 0 _ a rfl rfl).sc_inv
  have h1 := hx 1 _ b rfl rfl
  have h2 := (hx 2 _ c rfl rfl).sc_inv
  subst h0 h2
  cases h1 with
  | clo hk hc hv =>
    rename_i fs xs
    have e1 : fs = #[] := Array.eq_empty_of_size_eq_zero hk
    subst e1
    simp at hc
    have e2 : xs = #[] := Array.eq_empty_of_size_eq_zero hc.symm
    subst e2
    have := Go.Proofs.Any.strings_indexFunc lays_ok 84 #[] (fun args w => callFunc_run (by kernel_rfl) args w) wrongR true s w (wrong_calls w)
    refine this.mono fun e w' ⟨he, hb⟩ => ⟨_, g, he, ?_, .sc _ rfl, ?_⟩
    · exact ⟨fun _ _ => rfl, fun b h => ⟨h, hb.block b (hH.lt b h)⟩, fun b cs ty fz h => ⟨cs, (hb.block b (heap_lt h)).trans h, rfl⟩, ⟨hb.os, hb.tape, hb.output, hb.size, fun b hlt _ => hb.block b hlt⟩, fun id B b E h => (by cases h), fun b h _ => .inl h⟩
    · exact ⟨fun id B h => (by cases h), fun i j b E E' A B h => (by cases h), fun i b E B h => (by cases h), fun b h => Nat.lt_of_lt_of_le (hH.lt b h) hb.size⟩
end En
end Go.Proofs.Ytjnohedknlibmaa
namespace Go.Proofs.Ytjnohedknlibmaa
open Go.Proofs.Ytjnohedknlibmaa.Am
namespace En
theorem decode_low {s : ByteArray} {i : Nat} (h : (s.get! i).toNat < 128) : Utf8.decode s i = ((s.get! i).toNat, 1) := by
  unfold Utf8.decode
  simp only [Nat.add_zero]
  rw [if_pos h]
theorem decode_high {s : ByteArray} {i : Nat} (h : 128 ≤ (s.get! i).toNat) : 128 ≤ (Utf8.decode s i).1 := by
  unfold Utf8.decode
  simp only [Nat.add_zero]
  rw [if_neg (by omega)]
  split
  · split
    · assumption
    · decide
  · split
    · split
      · rename_i h1
        simp only [Bool.and_eq_true, decide_eq_true_eq] at h1
        exact Nat.le_trans (by omega) h1.1
      · decide
    · split
      · split
        · rename_i h1
          simp only [Bool.and_eq_true, decide_eq_true_eq] at h1
          exact Nat.le_trans (by omega) h1.1
        · decide
      · decide
theorem wrong_high {c : Nat} (h : 128 ≤ c) : wrongR c = true := by
  unfold wrongR
  rw [decide_eq_true_eq]; omega
theorem idx_code (s : ByteArray) : ∀ (f pos : Nat), s.size ≤ pos + f → (Go.Lib.idxFuncFrom wrongR true s f pos < 0 ↔ ∀ i, pos ≤ i → i < s.size → wrongR (s.get! i).toNat = false)
  | 0, pos, h => by
    simp only [Go.Lib.idxFuncFrom]
    exact ⟨fun _ i h1 h2 => by omega, fun _ => by omega⟩
  | f + 1, pos, h => by
    unfold Go.Lib.idxFuncFrom
    split
    · rename_i hp
      by_cases hw : wrongR (s.get! pos).toNat = true
      · have : wrongR (Utf8.decode s pos).1 = true := by
          by_cases hl : (s.get! pos).toNat < 128
          · rw [decode_low hl]; exact hw
          · exact wrong_high (decode_high (by omega))
        rw [if_pos this]
        refine ⟨fun h => by omega, fun h => ?_⟩
        have := h pos (Nat.le_refl _) hp
        rw [hw] at this; cases this
      · have hl : (s.get! pos).toNat < 128 := by
          rcases Nat.lt_or_ge (s.get! pos).toNat 128 with h | h
          · exact h
          · exact absurd (wrong_high h) hw
        rw [decode_low hl]
        simp only
        rw [if_neg hw, idx_code s f (pos + 1) (by omega)]
        refine ⟨fun h i h1 h2 => ?_, fun h i h1 h2 => h i (by omega) h2⟩
        by_cases hi : i = pos
        · subst hi; simpa using hw
        · exact h i (by omega) h2
    · exact ⟨fun _ i h1 h2 => by omega, fun _ => by omega⟩
/-- The byte at i. -/
abbrev byt (s : ByteArray) (i : Nat) : Nat := (s.data.toList.getD i 0).toNat
theorem byt_eq (s : ByteArray) (i : Nat) : (s.get! i).toNat = byt s i := by
  obtain ⟨d⟩ := s
  show (d[i]!).toNat = (d.toList.getD i 0).toNat
  rw [List.getD_eq_getElem?_getD, Array.getElem?_toList, getElem!_def]
  cases d[i]? <;> rfl
/-- A string is a code. -/
def okCode (s : ByteArray) : Prop := (1 ≤ s.size ∧ s.size ≤ 8) ∧ ∀ i, i < s.size → wrongR (byt s i) = false
theorem nilStr (s : ByteArray) : (s.toList == (⟨#[]⟩ : ByteArray).toList) = decide (s.size = 0) := by
  rw [Bool.eq_iff_iff, beq_iff_eq, decide_eq_true_eq, ByteArray.toList_eq, ByteArray.toList_eq]
  show s.data.toList = [] ↔ s.data.size = 0
  rw [← Array.length_toList]
  exact List.length_eq_zero_iff.symm
theorem IndexFunc_f (s : ByteArray) : AFun Try.prog 85 0 [str s, .clo 84 []] [] (int (Go.Lib.idxFunc wrongR true s)) [] := by
  refine AFun.of_W T_ok mixed Try.func85 rfl (Nat.le_of_ble_eq_true rfl) rfl ?_
  ((repeat ((conv => whnf); (first | (refine As.pre ?_; first | refine As.mk rfl ?_) | (refine Ck.pre ?_; first | refine Ck.mk rfl ?_) | (refine CallN.pre ?_; first | refine CallN.pure (indexFunc_f s) rfl rfl ?_)))); (try (conv => whnf)))
  exact ⟨.inl rfl, ⟨_, rfl, rfl⟩, trivial⟩
open Classical in
theorem Code_f (s : ByteArray) : AFun Try.prog 74 0 [str s] [] (bool (decide (okCode s))) [] := by
  refine AFun.of_W T_ok mixed Try.func74 rfl (Nat.le_of_ble_eq_true rfl) rfl ?_
  have hi := IndexFunc_f s
  have hx := idx_code s s.size 0 (by omega)
  rw [show Go.Lib.idxFuncFrom wrongR true s s.size 0 = Go.Lib.idxFunc wrongR true s from rfl] at hx
  generalize Go.Lib.idxFunc wrongR true s = r at hi hx
  have hn := nilStr s
  by_cases h0 : s.size = 0
  · have hb : (!(s.toList == (⟨#[]⟩ : ByteArray).toList)) = false := by rw [hn, decide_eq_true h0]; rfl
    ((repeat ((conv => whnf); (first | (refine As.pre ?_; first | refine As.mk rfl ?_) | (refine LetB.pre ?_; first | refine LetB.ff (by assumption) ?_) | (refine Gd.pre ?_; first | refine Gd.pass rfl ?_) | (refine Ck.pre ?_; first | refine Ck.mk rfl ?_)))); (try (conv => whnf)))
    exact ⟨.inl rfl, ⟨_, rfl, congrArg bool (decide_eq_false fun h => by have := h.1.1; omega).symm⟩, trivial⟩
  · have hb : (!(s.toList == (⟨#[]⟩ : ByteArray).toList)) = true := by rw [hn, decide_eq_false h0]; rfl
    by_cases h8 : s.size ≤ 8
    · by_cases hr : r < 0
      · ((repeat ((conv => whnf); (first | (refine As.pre ?_; first | refine As.mk rfl ?_) | (refine LetI.pre ?_; first | refine LetI.mk _ rfl ?_) | (refine LetB.pre ?_; first | refine LetB.tt (by assumption) ?_ | refine LetB.dect (by omega) ?_) | (refine Gd.pre ?_; first | refine Gd.run rfl ?_) | (refine Ck.pre ?_; first | refine Ck.mk rfl ?_) | (refine CallN.pre ?_; first | refine CallN.pure hi rfl rfl ?_)))); (try (conv => whnf)))
        exact ⟨.inl rfl, ⟨_, rfl, congrArg bool (decide_eq_true ⟨⟨by omega, h8⟩, fun i h => by rw [← byt_eq]; exact hx.1 hr i (Nat.zero_le _) h⟩).symm⟩, trivial⟩
      · ((repeat ((conv => whnf); (first | (refine As.pre ?_; first | refine As.mk rfl ?_) | (refine LetI.pre ?_; first | refine LetI.mk _ rfl ?_) | (refine LetB.pre ?_; first | refine LetB.tt (by assumption) ?_ | refine LetB.dect (by omega) ?_ | refine LetB.decf (by omega) ?_) | (refine Gd.pre ?_; first | refine Gd.run rfl ?_) | (refine Ck.pre ?_; first | refine Ck.mk rfl ?_) | (refine CallN.pre ?_; first | refine CallN.pure hi rfl rfl ?_)))); (try (conv => whnf)))
        exact ⟨.inl rfl, ⟨_, rfl, congrArg bool (decide_eq_false fun h => hr (hx.2 fun i _ hi => by rw [byt_eq]; exact h.2 i hi)).symm⟩, trivial⟩
    · ((repeat ((conv => whnf); (first | (refine As.pre ?_; first | refine As.mk rfl ?_) | (refine LetI.pre ?_; first | refine LetI.mk _ rfl ?_) | (refine LetB.pre ?_; first | refine LetB.tt (by assumption) ?_ | refine LetB.decf (by omega) ?_) | (refine Gd.pre ?_; first | refine Gd.run rfl ?_ | refine Gd.pass rfl ?_) | (refine Ck.pre ?_; first | refine Ck.mk rfl ?_)))); (try (conv => whnf)))
      exact ⟨.inl rfl, ⟨_, rfl, congrArg bool (decide_eq_false fun h => h8 h.1.2).symm⟩, trivial⟩
open Classical in
theorem rCode_f (s : ByteArray) (hs : s.size ≤ 9223372036854775806) : AFun Try.prog 64 0 [str s] [] (bool (decide (okCode s))) [] := by
  refine AFun.of_W T_ok mixed Try.func64 rfl (Nat.le_of_ble_eq_true rfl) rfl ?_
  ((repeat ((conv => whnf); (first | (refine As.pre ?_; first | refine As.mk rfl ?_) | (refine Ck.pre ?_; first | refine Ck.mk rfl ?_)))); (try (conv => whnf)))
  refine LoopN.weak (s1 := ⟨[(0, str s), (3, int (0 : Nat))], [], 0⟩) (SW.fr0 (Nat.le_refl _) rfl ⟨.refl _, .refl _, trivial⟩) ?_
  refine LoopN.ind T_ok mixed (S := fun k : Nat => ⟨[(0, str s), (3, int k)], [], 0⟩) (fun k => s.size - k) (fun k => k ≤ s.size ∧ ∀ i, i < k → wrongR (byt s i) = false) (fun _ => rfl) (fun k hk ih => ?_) 0 ⟨Nat.zero_le _, fun i h => absurd h (by omega)⟩
  obtain ⟨h1, h2⟩ := hk
  by_cases hlt : k < s.size
  case neg =>
    have hk : k = s.size := by omega
    subst hk
    clear ih
    have e : okCode s ↔ (1 ≤ s.size ∧ s.size ≤ 8) := ⟨fun h => h.1, fun h => ⟨h, h2⟩⟩
    by_cases a1 : 1 ≤ s.size
    · by_cases a2 : s.size ≤ 8
      · ((repeat ((conv => whnf); (first | (refine As.pre ?_; first | refine As.mk rfl ?_) | (refine LetI.pre ?_; first | refine LetI.mk _ rfl ?_) | (refine LetB.pre ?_; first | refine LetB.dect (by omega) ?_ | refine LetB.decf (by omega) ?_) | (refine Gd.pre ?_; first | refine Gd.run rfl ?_) | (refine Br.pre ?_; first | refine Br.ff rfl ?_) | (refine Ck.pre ?_; first | refine Ck.mk rfl ?_)))); (try (conv => whnf)))
        exact ⟨.inl rfl, ⟨_, rfl, congrArg bool (decide_eq_true (e.2 ⟨a1, a2⟩)).symm⟩, trivial⟩
      · ((repeat ((conv => whnf); (first | (refine As.pre ?_; first | refine As.mk rfl ?_) | (refine LetI.pre ?_; first | refine LetI.mk _ rfl ?_) | (refine LetB.pre ?_; first | refine LetB.dect (by omega) ?_ | refine LetB.decf (by omega) ?_) | (refine Gd.pre ?_; first | refine Gd.run rfl ?_) | (refine Br.pre ?_; first | refine Br.ff rfl ?_) | (refine Ck.pre ?_; first | refine Ck.mk rfl ?_)))); (try (conv => whnf)))
        exact ⟨.inl rfl, ⟨_, rfl, congrArg bool (decide_eq_false fun h => a2 (e.1 h).2).symm⟩, trivial⟩
    · ((repeat ((conv => whnf); (first | (refine As.pre ?_; first | refine As.mk rfl ?_) | (refine LetI.pre ?_; first | refine LetI.mk _ rfl ?_) | (refine LetB.pre ?_; first | refine LetB.decf (by omega) ?_) | (refine Gd.pre ?_; first | refine Gd.pass rfl ?_) | (refine Br.pre ?_; first | refine Br.ff rfl ?_) | (refine Ck.pre ?_; first | refine Ck.mk rfl ?_)))); (try (conv => whnf)))
      exact ⟨.inl rfl, ⟨_, rfl, congrArg bool (decide_eq_false fun h => a1 (e.1 h).1).symm⟩, trivial⟩
  have hbb : (byt s k : Int) = ((s.data.toList.getD (k : Int).toNat 0).toNat : Int) := rfl
  have hb2 : byt s k < 256 := UInt8.toNat_lt _
  generalize hb : byt s k = b at hbb hb2
  by_cases hw : wrongR b = true
  · have hno : ¬ okCode s := fun h => by have := h.2 k hlt; rw [hb, hw] at this; cases this
    rw [decide_eq_false hno]
    clear ih
    have hw2 : (b < 65 ∨ 90 < b) ∧ (b < 48 ∨ 57 < b) := of_decide_eq_true hw
    repeat' ((conv => whnf); (first | (refine As.pre ?_; first | refine As.mk rfl ?_ | (refine As.mk ?_ ?_; · ((repeat' (refine andT ?_ ?_)) <;> (first | rfl | assumption | exact decide_eq_true (by omega) | exact decide_eq_true (by dsimp only; omega) | exact decide_eq_true (by simp; omega) | (simp; done))))) | (refine LetV.pre ?_; first | refine LetV.mk (t := 9) (.sc (.int .u8 (b : Int))) (congrArg (fun x : Int => AV.sc (.int .u8 x)) hbb) ?_) | (refine LetI.pre ?_; first | refine LetI.mk _ rfl ?_) | (refine LetB.pre ?_; first | refine LetB.dect (by omega) ?_ | refine LetB.decf (by omega) ?_ | (refine LetB.dec (fun _ => ?_) (fun _ => ?_))) | (refine Gd.pre ?_; first | refine Gd.run rfl ?_ | refine Gd.pass rfl ?_) | (refine Br.pre ?_; first | refine Br.tt rfl ?_) | (refine Ck.pre ?_; first | refine Ck.mk rfl ?_)))
    all_goals first
      | exact ⟨.inl rfl, ⟨_, rfl, rfl⟩, trivial⟩
      | (exfalso; omega)
  · have hw3 : wrongR b = false := by simpa using hw
    have hw2 : ¬ ((b < 65 ∨ 90 < b) ∧ (b < 48 ∨ 57 < b)) := of_decide_eq_false hw3
    have next := ih (k + 1) ⟨by omega, fun i hi => by
      by_cases hik : i = k
      · rw [hik, hb]; exact hw3
      · exact h2 i (by omega)⟩ (by omega)
    clear ih
    repeat' ((conv => whnf); (first | (refine As.pre ?_; first | refine As.mk rfl ?_ | (refine As.mk ?_ ?_; · ((repeat' (refine andT ?_ ?_)) <;> (first | rfl | assumption | exact decide_eq_true (by omega) | exact decide_eq_true (by dsimp only; omega) | exact decide_eq_true (by simp; omega) | (simp; done))))) | (refine LetV.pre ?_; first | refine LetV.mk (t := 9) (.sc (.int .u8 (b : Int))) (congrArg (fun x : Int => AV.sc (.int .u8 x)) hbb) ?_) | (refine LetI.pre ?_; first | refine LetI.wrap (by omega) (by omega) ?_ | refine LetI.mk _ rfl ?_) | (refine LetB.pre ?_; first | refine LetB.dect (by omega) ?_ | refine LetB.decf (by omega) ?_ | (refine LetB.dec (fun _ => ?_) (fun _ => ?_))) | (refine Gd.pre ?_; first | refine Gd.run rfl ?_ | refine Gd.pass rfl ?_) | (refine Br.pre ?_; first | refine Br.tt rfl ?_ | refine Br.ff rfl ?_) | (refine Ck.pre ?_; first | refine Ck.mk rfl ?_)))
    all_goals first
      | (refine LoopN.weak ?_ next; exact SW.fr0 (Nat.le_refl _) rfl ⟨.refl _, VLe2.int (by omega), trivial⟩)
      | (exfalso; omega)
end En
end Go.Proofs.Ytjnohedknlibmaa
namespace Go.Proofs.Ytjnohedknlibmaa
open Go.Proofs.Ytjnohedknlibmaa.Am
namespace En
open Classical
theorem beyond_f (n a b : Int) : AFun Try.prog 70 0 [int n, int a, int b] [] (bool (decide (n < a ∨ b < n))) [] := by
  refine AFun.of_W T_ok mixed Try.func70 rfl (Nat.le_of_ble_eq_true rfl) rfl ?_
  repeat' ((conv => whnf); (first | (refine As.pre ?_; first | refine As.mk rfl ?_) | (refine LetB.pre ?_; first | (refine LetB.dec (fun _ => ?_) (fun _ => ?_))) | (refine Gd.pre ?_; first | refine Gd.run rfl ?_ | refine Gd.pass rfl ?_) | (refine Ck.pre ?_; first | refine Ck.mk rfl ?_)))
  all_goals (refine ⟨by first | exact .inl rfl | exact .inr rfl, ⟨_, rfl, congrArg (fun b => Go.Proofs.Ytjnohedknlibmaa.Am.AV.sc (Go.Value.bool b)) (by first | exact (decide_eq_true (by omega)).symm | exact (decide_eq_false (by omega)).symm | exact Bool.eq_iff_iff.2 (by simp only [decide_eq_true_eq, decide_eq_false_iff_not]; omega) | rfl)⟩, trivial⟩)
def hasK (k : Int) : Int := if k = 1 ∨ k = 8 then 32 else if k = 2 then 96 else if k = 3 then 7 else if k = 4 then 12 else if k = 5 ∨ k = 6 ∨ k = 9 then 8 else if k = 7 then 16 else 0
theorem has_f (k : Int) : AFun Try.prog 72 0 [int k] [] (int (hasK k)) [] := by
  refine AFun.of_W T_ok mixed Try.func72 rfl (Nat.le_of_ble_eq_true rfl) rfl ?_
  unfold hasK
  repeat' ((conv => whnf); (first | (refine As.pre ?_; first | refine As.mk rfl ?_) | (refine LetB.pre ?_; first | (refine LetB.dec (fun _ => ?_) (fun _ => ?_))) | (refine Br.pre ?_; first | refine Br.tt rfl ?_ | refine Br.ff rfl ?_) | (refine Ck.pre ?_; first | refine Ck.mk rfl ?_)))
  all_goals
    refine ⟨.inl rfl, ⟨_, rfl, congrArg int ?_⟩, trivial⟩
    repeat' split
    all_goals first | rfl | (exfalso; omega)
def orB (acc : Int) (k : Nat) (b : Bool) : Int := bif b then IntKind.i64.wrap ((BitVec.ofInt 64 acc) ||| (BitVec.ofInt 64 (IntKind.i64.wrap (1 * 2 ^ (min (k : Int).toNat 64))))).toNat else acc
def fillA : List Bool → Nat → Int → Int
  | [], _, acc => acc
  | b :: l, k, acc => fillA l (k + 1) (orB acc k b)
def fillB (e : E) : List Bool := [!(e.course.toList == (⟨#[]⟩ : ByteArray).toList), e.credits != 0, e.grade != 0, e.ref != 0, e.frm != 0, e.programme != 0, e.version != 0]
theorem fill_drop {l : List Bool} {k : Nat} (h : k < l.length) (acc : Int) : fillA (l.drop k) k acc = fillA (l.drop (k + 1)) (k + 1) (orB acc k (l.getD k false)) := by
  rw [List.drop_eq_getElem_cons h, List.getD_eq_getElem?_getD, List.getElem?_eq_getElem h]; rfl
theorem filled_f (e : E) : AFun Try.prog 71 0 [en e] [] (int (fillA (fillB e) 0 0)) [] := by
  refine AFun.of_W T_ok mixed Try.func71 rfl (Nat.le_of_ble_eq_true rfl) rfl ?_
  ((repeat ((conv => whnf); (first | (refine LetN.pre ?_; first | ((conv => arg 1; whnf); refine LetN.mk ?_)) | (refine As.pre ?_; first | refine As.mk rfl ?_) | (refine LetV.pre ?_; first | refine LetV.mk (.sc (.int _ _)) rfl ?_ | refine LetV.mk (.sc _) rfl ?_) | (refine LetI.pre ?_; first | refine LetI.mk _ rfl ?_) | (refine LetB.pre ?_; first | refine LetB.mk _ rfl ?_) | (refine Ck.pre ?_; first | refine Ck.mk rfl ?_)))); (try (conv => whnf)))
  have hlen : (fillB e).length = 7 := rfl
  refine LoopN.weak (s1 := ⟨[(3, int 0), (27, .ro {} 1 ((fillB e).map bool)), (28, int (fillB e).length), (29, int (0 : Nat))], [], 1⟩) (SW.mk id rfl rfl rfl ⟨.refl _, VLe2.ro_of rfl, .refl _, .refl _, trivial⟩ trivial) ?_
  generalize fillB e = bs at hlen ⊢
  generalize hR : fillA bs 0 0 = R
  refine LoopN.ind T_ok mixed (S := fun i : Nat × Int => ⟨[(3, int i.2), (27, .ro {} 1 (bs.map bool)), (28, int bs.length), (29, int i.1)], [], 1⟩) (fun i => bs.length - i.1) (fun i => i.1 ≤ bs.length ∧ R = fillA (bs.drop i.1) i.1 i.2) (fun _ => rfl) (fun i hi ih => ?_) (0, 0) ⟨Nat.zero_le _, hR.symm⟩
  obtain ⟨k, acc⟩ := i
  obtain ⟨h1, h2⟩ := hi
  simp only at h1 h2 ih ⊢
  have hm : (bs.map bool).length = bs.length := List.length_map _
  by_cases hlt : k < bs.length
  case neg =>
    rw [List.drop_eq_nil_of_le (by omega)] at h2
    rw [h2]
    clear ih
    ((repeat ((conv => whnf); (first | (refine As.pre ?_; first | refine As.mk rfl ?_) | (refine LetB.pre ?_; first | refine LetB.decf (by omega) ?_) | (refine Br.pre ?_; first | refine Br.ff rfl ?_) | (refine Ck.pre ?_; first | refine Ck.mk rfl ?_)))); (try (conv => whnf)))
    exact ⟨.inl rfl, ⟨_, rfl, rfl⟩, trivial⟩
  have hld : bool (bs.getD k false) = (bs.map bool).getD k (.sc undef) := mapD false hlt
  rw [fill_drop hlt] at h2
  generalize bs.getD k false = b at hld h2
  have next := ih (k + 1, orB acc k b) ⟨by omega, h2⟩ (by show bs.length - (k + 1) < bs.length - k; omega)
  clear ih
  cases b with
  | true =>
    ((repeat ((conv => whnf); (first | (refine As.pre ?_; first | refine As.mk rfl ?_ | (refine As.mk ?_ ?_; · ((repeat' (refine andT ?_ ?_)) <;> (first | rfl | assumption | exact decide_eq_true (by omega) | exact decide_eq_true (by dsimp only; omega) | exact decide_eq_true (by simp; omega) | (simp; done))))) | (refine LetV.pre ?_; first | refine LetV.mk (t := 110) _ hld ?_ | refine LetV.mk (.sc (.bool _)) rfl ?_) | (refine LetI.pre ?_; first | refine LetI.wrap (by omega) (by omega) ?_ | refine LetI.mk _ rfl ?_) | (refine LetB.pre ?_; first | refine LetB.dect (by omega) ?_) | (refine Br.pre ?_; first | refine Br.tt rfl ?_) | (refine Ck.pre ?_; first | refine Ck.mk rfl ?_)))); (try (conv => whnf)))
    refine LoopN.weak ?_ next
    exact SW.mk id rfl rfl rfl ⟨.refl _, .refl _, .refl _, VLe2.int (by omega), trivial⟩ trivial
  | false =>
    ((repeat ((conv => whnf); (first | (refine As.pre ?_; first | refine As.mk rfl ?_ | (refine As.mk ?_ ?_; · ((repeat' (refine andT ?_ ?_)) <;> (first | rfl | assumption | exact decide_eq_true (by omega) | exact decide_eq_true (by dsimp only; omega) | exact decide_eq_true (by simp; omega) | (simp; done))))) | (refine LetV.pre ?_; first | refine LetV.mk (t := 110) _ hld ?_ | refine LetV.mk (.sc (.bool _)) rfl ?_) | (refine LetI.pre ?_; first | refine LetI.wrap (by omega) (by omega) ?_) | (refine LetB.pre ?_; first | refine LetB.dect (by omega) ?_) | (refine Br.pre ?_; first | refine Br.tt rfl ?_ | refine Br.ff rfl ?_) | (refine Ck.pre ?_; first | refine Ck.mk rfl ?_)))); (try (conv => whnf)))
    refine LoopN.weak ?_ next
    exact SW.mk id rfl rfl rfl ⟨.refl _, .refl _, .refl _, VLe2.int (by omega), trivial⟩ trivial
theorem ck1_f (e : E) : AFun Try.prog 73 0 [.rp (en e) 0] [] (bool (!decide (okCode e.course))) [] := by
  refine AFun.of_W T_ok mixed Try.func73 rfl (Nat.le_of_ble_eq_true rfl) rfl ?_
  ((repeat ((conv => whnf); (first | (refine As.pre ?_; first | refine As.mk rfl ?_) | (refine LetV.pre ?_; first | refine LetV.mk (.sc _) rfl ?_) | (refine Ck.pre ?_; first | refine Ck.mk rfl ?_) | (refine CallN.pre ?_; first | refine CallN.pure (Code_f _) rfl rfl ?_)))); (try (conv => whnf)))
  exact ⟨.inl rfl, ⟨_, rfl, rfl⟩, trivial⟩
theorem ck2_f (e : E) : AFun Try.prog 75 0 [.rp (en e) 0] [] (bool (decide (e.credits < 1 ∨ 60 < e.credits))) [] := by
  refine AFun.of_W T_ok mixed Try.func75 rfl (Nat.le_of_ble_eq_true rfl) rfl ?_
  ((repeat ((conv => whnf); (first | (refine As.pre ?_; first | refine As.mk rfl ?_) | (refine LetV.pre ?_; first | refine LetV.mk (.sc (.int _ _)) rfl ?_) | (refine Ck.pre ?_; first | refine Ck.mk rfl ?_) | (refine CallN.pre ?_; first | refine CallN.pure (beyond_f _ _ _) rfl rfl ?_)))); (try (conv => whnf)))
  exact ⟨.inl rfl, ⟨_, rfl, rfl⟩, trivial⟩
theorem ck3_f (e : E) : AFun Try.prog 76 0 [.rp (en e) 0] [] (bool (decide (e.grade < -1000 ∨ 1000 < e.grade))) [] := by
  refine AFun.of_W T_ok mixed Try.func76 rfl (Nat.le_of_ble_eq_true rfl) rfl ?_
  ((repeat ((conv => whnf); (first | (refine As.pre ?_; first | refine As.mk rfl ?_) | (refine LetV.pre ?_; first | refine LetV.mk (.sc (.int _ _)) rfl ?_) | (refine Ck.pre ?_; first | refine Ck.mk rfl ?_) | (refine CallN.pre ?_; first | refine CallN.pure (beyond_f _ _ _) rfl rfl ?_)))); (try (conv => whnf)))
  exact ⟨.inl rfl, ⟨_, rfl, rfl⟩, trivial⟩
theorem ck4_f (e : E) : AFun Try.prog 77 0 [.rp (en e) 0] [] (bool (decide (e.programme < 1))) [] := by
  refine AFun.of_W T_ok mixed Try.func77 rfl (Nat.le_of_ble_eq_true rfl) rfl ?_
  ((repeat ((conv => whnf); (first | (refine As.pre ?_; first | refine As.mk rfl ?_) | (refine LetV.pre ?_; first | refine LetV.mk (.sc (.int _ _)) rfl ?_) | (refine LetB.pre ?_; first | refine LetB.mk _ rfl ?_) | (refine Ck.pre ?_; first | refine Ck.mk rfl ?_)))); (try (conv => whnf)))
  exact ⟨.inl rfl, ⟨_, rfl, rfl⟩, trivial⟩
theorem ck5_f (e : E) : AFun Try.prog 78 0 [.rp (en e) 0] [] (bool (decide (e.version < 1))) [] := by
  refine AFun.of_W T_ok mixed Try.func78 rfl (Nat.le_of_ble_eq_true rfl) rfl ?_
  ((repeat ((conv => whnf); (first | (refine As.pre ?_; first | refine As.mk rfl ?_) | (refine LetV.pre ?_; first | refine LetV.mk (.sc (.int _ _)) rfl ?_) | (refine LetB.pre ?_; first | refine LetB.mk _ rfl ?_) | (refine Ck.pre ?_; first | refine Ck.mk rfl ?_)))); (try (conv => whnf)))
  exact ⟨.inl rfl, ⟨_, rfl, rfl⟩, trivial⟩
theorem ck6_f (e : E) : AFun Try.prog 79 0 [.rp (en e) 0] [] (bool (decide ((e.frm < 1 ∨ 8 < e.frm) ∨ e.frm = e.school))) [] := by
  refine AFun.of_W T_ok mixed Try.func79 rfl (Nat.le_of_ble_eq_true rfl) rfl ?_
  repeat' ((conv => whnf); (first | (refine As.pre ?_; first | refine As.mk rfl ?_) | (refine LetV.pre ?_; first | refine LetV.mk (.sc (.int _ _)) rfl ?_) | (refine LetB.pre ?_; first | (refine LetB.dec (fun _ => ?_) (fun _ => ?_))) | (refine Gd.pre ?_; first | refine Gd.run rfl ?_ | refine Gd.pass rfl ?_) | (refine Ck.pre ?_; first | refine Ck.mk rfl ?_) | (refine CallN.pre ?_; first | refine CallN.dec (beyond_f _ _ _) rfl (fun _ => ?_) (fun _ => ?_))))
  all_goals (refine ⟨by first | exact .inl rfl | exact .inr rfl, ⟨_, rfl, congrArg (fun b => Go.Proofs.Ytjnohedknlibmaa.Am.AV.sc (Go.Value.bool b)) (by first | exact (decide_eq_true (by omega)).symm | exact (decide_eq_false (by omega)).symm | exact Bool.eq_iff_iff.2 (by simp only [decide_eq_true_eq, decide_eq_false_iff_not]; omega) | rfl)⟩, trivial⟩)
theorem ck7_f (e : E) : AFun Try.prog 80 0 [.rp (en e) 0] [] (bool (decide ((e.ref < 1 ∨ 899999 < e.ref) ∨ e.ref = e.id))) [] := by
  refine AFun.of_W T_ok mixed Try.func80 rfl (Nat.le_of_ble_eq_true rfl) rfl ?_
  repeat' ((conv => whnf); (first | (refine As.pre ?_; first | refine As.mk rfl ?_) | (refine LetV.pre ?_; first | refine LetV.mk (.sc (.int _ _)) rfl ?_) | (refine LetB.pre ?_; first | (refine LetB.dec (fun _ => ?_) (fun _ => ?_))) | (refine Gd.pre ?_; first | refine Gd.run rfl ?_ | refine Gd.pass rfl ?_) | (refine Ck.pre ?_; first | refine Ck.mk rfl ?_) | (refine CallN.pre ?_; first | refine CallN.dec (beyond_f _ _ _) rfl (fun _ => ?_) (fun _ => ?_))))
  all_goals (refine ⟨by first | exact .inl rfl | exact .inr rfl, ⟨_, rfl, congrArg (fun b => Go.Proofs.Ytjnohedknlibmaa.Am.AV.sc (Go.Value.bool b)) (by first | exact (decide_eq_true (by omega)).symm | exact (decide_eq_false (by omega)).symm | exact Bool.eq_iff_iff.2 (by simp only [decide_eq_true_eq, decide_eq_false_iff_not]; omega) | rfl)⟩, trivial⟩)
end En
end Go.Proofs.Ytjnohedknlibmaa
