/- force: parts of the proof, DforceFJ DforceFK DforceFL DforceFM DforceFN DforceFO DforceFP. -/
import Derived.Test.YtjnohedknlibmaaL37
import Derived.Shelf.GgClosure.StringsIndexFunc
set_option linter.all false
namespace Go.Proofs.Ytjnohedknlibmaa
open Go.Proofs.Ytjnohedknlibmaa.Am
namespace En
def stepR (g : E) (x : Int × Int × Int × Bool) (c : E) : Int × Int × Int × Bool := if c.ref = g.id then stepC x c else x
def rstand (l C F : List E) (a o : Int) (g : E) : St := ⟨g.id, (C.foldl (stepR g) (0, g.grade, 0, false)).1, (C.foldl (stepR g) (0, g.grade, 0, false)).2.1, F.any fun f => decide (f.ref = g.id) && !rLiftedP l f.id a o⟩
def rAtP (l : List E) (a o : Int) : List St := (countP l 3 a o).map (rstand l (countP l 4 a o) (countP l 5 a o) a o)
abbrev ratS (l G C F : List E) (fl : Fl) (a o : Int) : Nat × List St → AS
  | (k, out) => ⟨[(0, .ro fl 15 (l.map en)), (1, int a), (2, int o), (7, .ro {} 15 (G.map en)), (8, .ro {} 15 (C.map en)), (9, .ro {} 15 (F.map en)), (10, .slm {} 0 4 0 out.length), (11, int k)], [(0, .row 4 sty (out.map stA))], 1⟩
abbrev ratA (l G C F : List E) (fl : Fl) (a o : Int) (k : Nat) (out : List St) (g : E) : Nat × Int × Int × Int × Bool → AS
  | (i, b, gr, d, s) => ⟨[(0, .ro fl 15 (l.map en)), (1, int a), (2, int o), (7, .ro {} 15 (G.map en)), (8, .ro {} 15 (C.map en)), (9, .ro {} 15 (F.map en)), (10, .slm {} 0 4 0 out.length), (11, int k), (12, .ptr 1 15 0 0), (13, .ptr 2 4 0 0), (14, int d), (15, bool s), (16, int i)],
      [(0, .row 4 sty (out.map stA)), (1, .row 15 ety [en g]), (2, .row 4 sty [stA ⟨g.id, b, gr, false⟩])], 3⟩
abbrev ratB (l G C F : List E) (fl : Fl) (a o : Int) (k : Nat) (out : List St) (g : E) (b gr : Int) : Nat × Bool → AS
  | (i, v) => ⟨[(0, .ro fl 15 (l.map en)), (1, int a), (2, int o), (7, .ro {} 15 (G.map en)), (8, .ro {} 15 (C.map en)), (9, .ro {} 15 (F.map en)), (10, .slm {} 0 4 0 out.length), (11, int k), (12, .ptr 1 15 0 0), (13, .ptr 2 4 0 0), (18, int i)],
      [(0, .row 4 sty (out.map stA)), (1, .row 15 ety [en g]), (2, .row 4 sty [stA ⟨g.id, b, gr, v⟩])], 3⟩
theorem ratNames (g : E) (s : St) (out : List St) (ok : Nat → Bool) : namesAll ok [(0, .row 4 sty (out.map stA)), (1, .row 15 ety [en g]), (2, .row 4 sty [stA s])] = true :=
  namesAll.row (pure_st _) (namesAll.row rfl (namesAll.row rfl rfl))
set_option maxHeartbeats 1600000 in
set_option maxRecDepth 100000 in
theorem rAt_s (l : List E) (a o : Int) (fl : Fl) (hl : l.length ≤ 100000) : AFun Try.prog 41 0 [.ro fl 15 (l.map en), int a, int o] [] (.slm {} 0 4 0 (rAtP l a o).length) [(0, .row 4 sty ((rAtP l a o).map stA))] := by
  refine AFun.of_S T_ok mixed Try.func41 rfl (Nat.le_of_ble_eq_true rfl) rfl ?_
  have hc3 := counting_f l 3 a o fl hl
  have hl3 := countP_length l 3 a o
  have hc4 := counting_f l 4 a o fl hl
  have hl4 := countP_length l 4 a o
  have hc5 := counting_f l 5 a o fl hl
  have hl5 := countP_length l 5 a o
  rw [rAtP]
  generalize countP l 3 a o = G at hc3 hl3 ⊢
  generalize countP l 4 a o = C at hc4 hl4 ⊢
  generalize countP l 5 a o = F at hc5 hl5 ⊢
  ((repeat ((conv => whnf); (first | (refine As.pre ?_; first | refine As.mk rfl ?_) | (refine Ck.pre ?_; first | refine Ck.mk rfl ?_) | (refine CallN.pre ?_; first | refine CallN.pure hc3 rfl rfl ?_ | refine CallN.pure hc4 rfl rfl ?_ | refine CallN.pure hc5 rfl rfl ?_)))); (try (conv => whnf)))



  clear hc3 hc4 hc5
  refine LoopN.weak (s1 := ratS l G C F fl a o (0, [])) ?sw1 ?_
  case sw1 => exact SW.mk id rfl rfl rfl ⟨.refl _, .refl _, .refl _, .refl _, .refl _, .refl _, VLe2.nilslm, .refl _, trivial⟩ (haveV.nil (Nat.le_refl _) trivial)
  refine LoopN.ind T_ok mixed (S := ratS l G C F fl a o) (fun i => G.length - i.1) (fun i => i.1 ≤ G.length ∧ i.2 = (G.take i.1).map (rstand l C F a o)) (fun _ => rfl) (fun i hi ih => ?_) (0, []) ⟨Nat.zero_le _, rfl⟩
  obtain ⟨k, out⟩ := i
  obtain ⟨h1, h2⟩ := hi
  simp only at h1 h2 ih
  have hGl : (G.map en).length = G.length := List.length_map _
  have hCl : (C.map en).length = C.length := List.length_map _
  have hFl : (F.map en).length = F.length := List.length_map _
  by_cases hlt : k < G.length
  case neg =>
    have hk : k = G.length := by omega
    subst hk
    rw [List.take_length] at h2
    rw [← h2]
    clear ih
    ((repeat ((conv => whnf); (first | (refine As.pre ?_; first | refine As.mk rfl ?_) | (refine LetI.pre ?_; first | refine LetI.mk _ rfl ?_) | (refine LetB.pre ?_; first | refine LetB.decf (by omega) ?_) | (refine Br.pre ?_; first | refine Br.ff rfl ?_) | (refine Ck.pre ?_; first | refine Ck.mk rfl ?_)))); (try (conv => whnf)))
    exact ⟨⟨[(6, .slm {} 0 4 0 out.length)], [(0, .row 4 sty (out.map stA))], 3⟩, SW.mk id rfl rfl (namesAll.row (pure_st _) rfl) ⟨.refl _, trivial⟩ (haveV.row (pure_st _) rfl trivial), .inl rfl, ⟨_, rfl, rfl⟩, rfl, trivial⟩
  have hld : en (G.getD k e0) = (G.map en).getD k (.sc undef) := mapD e0 hlt
  have hq := take_map_succ (rstand l C F a o) hlt e0
  rw [← h2] at hq
  have hol : out.length = k := by rw [h2]; simp; omega
  clear h2
  generalize G.getD k e0 = g at hld hq
  have hst : rstand l C F a o g = ⟨g.id, (C.foldl (stepR g) (0, g.grade, 0, false)).1, (C.foldl (stepR g) (0, g.grade, 0, false)).2.1, F.any fun f => decide (f.ref = g.id) && !rLiftedP l f.id a o⟩ := rfl
  ((repeat ((conv => whnf); (first | (refine LetN.pre ?_; first | ((conv => arg 1; whnf); refine LetN.mk ?_)) | (refine As.pre ?_; first | refine As.mk rfl ?_ | (refine As.mk ?_ ?_; · ((repeat' (refine andT ?_ ?_)) <;> (first | rfl | assumption | exact decide_eq_true (by omega) | exact decide_eq_true (by dsimp only; omega) | exact decide_eq_true (by simp; omega) | (simp; done))))) | (refine LetV.pre ?_; first | refine LetV.mk (t := 29) _ hld ?_ | refine LetV.mk (.sc (.int _ _)) rfl ?_ | refine LetV.mk (.agg _) rfl ?_) | (refine LetI.pre ?_; first | refine LetI.mk _ rfl ?_) | (refine LetB.pre ?_; first | refine LetB.dect (by omega) ?_) | (refine Br.pre ?_; first | refine Br.tt rfl ?_) | (refine Ck.pre ?_; first | refine Ck.mk rfl ?_) | (refine LetL.pre ?_; first | refine LetL.mk [_] rfl ?_)))); (try (conv => whnf)))
  refine LoopN.weak (s1 := ratA l G C F fl a o k out g (0, 0, g.grade, 0, false)) ?sw2 ?_
  case sw2 => exact SW.mk id rfl rfl (ratNames ..) ⟨.refl _, .refl _, .refl _, .refl _, .refl _, .refl _, .refl _, .refl _, .refl _, .refl _, .refl _, .refl _, .refl _, trivial⟩ (haveV.row (pure_st _) rfl (haveV.row rfl rfl (haveV.row rfl rfl trivial)))
  generalize hX : C.foldl (stepR g) (0, g.grade, 0, false) = X at hst
  refine LoopN.ind T_ok mixed (S := ratA l G C F fl a o k out g) (fun i => C.length - i.1) (fun i => i.1 ≤ C.length ∧ X = (C.drop i.1).foldl (stepR g) i.2) (fun _ => rfl) (fun i hi ihA => ?_) (0, 0, g.grade, 0, false) ⟨Nat.zero_le _, hX.symm⟩
  obtain ⟨i, b, gr, d, s⟩ := i
  obtain ⟨g1, g2⟩ := hi
  simp only at g1 g2 ihA
  by_cases hiC : i < C.length
  case pos =>
    have hldc : en (C.getD i e0) = (C.map en).getD i (.sc undef) := mapD e0 hiC
    rw [foldl_drop _ hiC e0] at g2
    generalize C.getD i e0 = c at hldc g2
    have next : ∀ (b' gr' d' : Int) (s' : Bool), stepR g (b, gr, d, s) c = (b', gr', d', s') → LoopN Try.prog 0 Try.f41.ntmps _ (ratA l G C F fl a o k out g (i + 1, b', gr', d', s')) _ := fun b' gr' d' s' hs' => ihA (i + 1, b', gr', d', s') ⟨by omega, by rw [← hs']; exact g2⟩ (by omega)
    clear ihA ih
    have swk : ∀ (b' gr' d' : Int) (s' : Bool), namesAll (fun i => decide (i < 0) || (List.map Prod.fst (ratA l G C F fl a o k out g (i, b', gr', d', s')).H).contains i) (ratA l G C F fl a o k out g (i, b', gr', d', s')).H = true := fun _ _ _ _ => ratNames ..
    by_cases q0 : c.ref = g.id
    case neg =>
      ((repeat ((conv => whnf); (first | (refine LetN.pre ?_; first | ((conv => arg 1; whnf); refine LetN.mk ?_)) | (refine As.pre ?_; first | refine As.mk rfl ?_ | (refine As.mk ?_ ?_; · ((repeat' (refine andT ?_ ?_)) <;> (first | rfl | assumption | exact decide_eq_true (by omega) | exact decide_eq_true (by dsimp only; omega) | exact decide_eq_true (by simp; omega) | (simp; done))))) | (refine LetV.pre ?_; first | refine LetV.mk (t := 29) _ hldc ?_ | refine LetV.mk (.sc (.int _ _)) rfl ?_ | refine LetV.mk (.agg _) rfl ?_) | (refine LetI.pre ?_; first | refine LetI.wrap (by omega) (by omega) ?_ | refine LetI.mk _ rfl ?_) | (refine LetB.pre ?_; first | refine LetB.dect (by omega) ?_ | refine LetB.decf (by omega) ?_) | (refine Gd.pre ?_; first | refine Gd.pass rfl ?_) | (refine Br.pre ?_; first | refine Br.tt rfl ?_ | refine Br.ff rfl ?_) | (refine Ck.pre ?_; first | refine Ck.mk rfl ?_) | (refine LetL.pre ?_; first | refine LetL.mk [_] rfl ?_)))); (try (conv => whnf)))
      refine LoopN.weak ?sw3 (next b gr d s (if_neg q0))
      case sw3 => exact SW.mk id rfl rfl (ratNames ..) ⟨.refl _, .refl _, .refl _, .refl _, .refl _, .refl _, .refl _, .refl _, .refl _, .refl _, .refl _, .refl _, VLe2.int (by omega), trivial⟩ (haveV.row (pure_st _) rfl (haveV.row rfl rfl (haveV.row rfl rfl trivial)))
    cases s with
    | false =>
      ((repeat ((conv => whnf); (first | (refine LetN.pre ?_; first | ((conv => arg 1; whnf); refine LetN.mk ?_)) | (refine As.pre ?_; first | refine As.mk rfl ?_ | (refine As.mk ?_ ?_; · ((repeat' (refine andT ?_ ?_)) <;> (first | rfl | assumption | exact decide_eq_true (by omega) | exact decide_eq_true (by dsimp only; omega) | exact decide_eq_true (by simp; omega) | (simp; done))))) | (refine LetV.pre ?_; first | refine LetV.mk (t := 29) _ hldc ?_ | refine LetV.mk (.sc (.int _ _)) rfl ?_ | refine LetV.mk (.agg _) rfl ?_) | (refine LetI.pre ?_; first | refine LetI.wrap (by omega) (by omega) ?_ | refine LetI.mk _ rfl ?_) | (refine LetB.pre ?_; first | refine LetB.dect (by omega) ?_) | (refine Gd.pre ?_; first | refine Gd.run rfl ?_ | refine Gd.pass rfl ?_) | (refine Br.pre ?_; first | refine Br.tt rfl ?_) | (refine Ck.pre ?_; first | refine Ck.mk rfl ?_) | (refine LetL.pre ?_; first | refine LetL.mk [_] rfl ?_)))); (try (conv => whnf)))
      refine LoopN.weak ?sw4 (next c.id c.grade c.day true ((if_pos q0).trans (if_pos (.inl rfl))))
      case sw4 => exact SW.mk id rfl rfl (ratNames ..) ⟨.refl _, .refl _, .refl _, .refl _, .refl _, .refl _, .refl _, .refl _, .refl _, .refl _, .refl _, .refl _, VLe2.int (by omega), trivial⟩ (haveV.row (pure_st _) rfl (haveV.row rfl rfl (haveV.row rfl rfl trivial)))
    | true =>
      by_cases q1 : d < c.day
      · ((repeat ((conv => whnf); (first | (refine LetN.pre ?_; first | ((conv => arg 1; whnf); refine LetN.mk ?_)) | (refine As.pre ?_; first | refine As.mk rfl ?_ | (refine As.mk ?_ ?_; · ((repeat' (refine andT ?_ ?_)) <;> (first | rfl | assumption | exact decide_eq_true (by omega) | exact decide_eq_true (by dsimp only; omega) | exact decide_eq_true (by simp; omega) | (simp; done))))) | (refine LetV.pre ?_; first | refine LetV.mk (t := 29) _ hldc ?_ | refine LetV.mk (.sc (.int _ _)) rfl ?_ | refine LetV.mk (.agg _) rfl ?_) | (refine LetI.pre ?_; first | refine LetI.wrap (by omega) (by omega) ?_ | refine LetI.mk _ rfl ?_) | (refine LetB.pre ?_; first | refine LetB.dect (by omega) ?_) | (refine Gd.pre ?_; first | refine Gd.run rfl ?_ | refine Gd.pass rfl ?_) | (refine Br.pre ?_; first | refine Br.tt rfl ?_) | (refine Ck.pre ?_; first | refine Ck.mk rfl ?_) | (refine LetL.pre ?_; first | refine LetL.mk [_] rfl ?_)))); (try (conv => whnf)))
        refine LoopN.weak ?sw5 (next c.id c.grade c.day true ((if_pos q0).trans (if_pos (.inr (.inl q1)))))
        case sw5 => exact SW.mk id rfl rfl (ratNames ..) ⟨.refl _, .refl _, .refl _, .refl _, .refl _, .refl _, .refl _, .refl _, .refl _, .refl _, .refl _, .refl _, VLe2.int (by omega), trivial⟩ (haveV.row (pure_st _) rfl (haveV.row rfl rfl (haveV.row rfl rfl trivial)))
      · by_cases q2 : c.day = d
        · by_cases q3 : b < c.id
          · ((repeat ((conv => whnf); (first | (refine LetN.pre ?_; first | ((conv => arg 1; whnf); refine LetN.mk ?_)) | (refine As.pre ?_; first | refine As.mk rfl ?_ | (refine As.mk ?_ ?_; · ((repeat' (refine andT ?_ ?_)) <;> (first | rfl | assumption | exact decide_eq_true (by omega) | exact decide_eq_true (by dsimp only; omega) | exact decide_eq_true (by simp; omega) | (simp; done))))) | (refine LetV.pre ?_; first | refine LetV.mk (t := 29) _ hldc ?_ | refine LetV.mk (.sc (.int _ _)) rfl ?_ | refine LetV.mk (.agg _) rfl ?_) | (refine LetI.pre ?_; first | refine LetI.wrap (by omega) (by omega) ?_ | refine LetI.mk _ rfl ?_) | (refine LetB.pre ?_; first | refine LetB.dect (by omega) ?_ | refine LetB.decf (by omega) ?_) | (refine Gd.pre ?_; first | refine Gd.run rfl ?_) | (refine Br.pre ?_; first | refine Br.tt rfl ?_) | (refine Ck.pre ?_; first | refine Ck.mk rfl ?_) | (refine LetL.pre ?_; first | refine LetL.mk [_] rfl ?_)))); (try (conv => whnf)))
            refine LoopN.weak ?sw6 (next c.id c.grade c.day true ((if_pos q0).trans (if_pos (.inr (.inr ⟨q2, q3⟩)))))
            case sw6 => exact SW.mk id rfl rfl (ratNames ..) ⟨.refl _, .refl _, .refl _, .refl _, .refl _, .refl _, .refl _, .refl _, .refl _, .refl _, .refl _, .refl _, VLe2.int (by omega), trivial⟩ (haveV.row (pure_st _) rfl (haveV.row rfl rfl (haveV.row rfl rfl trivial)))
          · ((repeat ((conv => whnf); (first | (refine LetN.pre ?_; first | ((conv => arg 1; whnf); refine LetN.mk ?_)) | (refine As.pre ?_; first | refine As.mk rfl ?_ | (refine As.mk ?_ ?_; · ((repeat' (refine andT ?_ ?_)) <;> (first | rfl | assumption | exact decide_eq_true (by omega) | exact decide_eq_true (by dsimp only; omega) | exact decide_eq_true (by simp; omega) | (simp; done))))) | (refine LetV.pre ?_; first | refine LetV.mk (t := 29) _ hldc ?_ | refine LetV.mk (.sc (.int _ _)) rfl ?_ | refine LetV.mk (.agg _) rfl ?_) | (refine LetI.pre ?_; first | refine LetI.wrap (by omega) (by omega) ?_ | refine LetI.mk _ rfl ?_) | (refine LetB.pre ?_; first | refine LetB.dect (by omega) ?_ | refine LetB.decf (by omega) ?_) | (refine Gd.pre ?_; first | refine Gd.run rfl ?_) | (refine Br.pre ?_; first | refine Br.tt rfl ?_ | refine Br.ff rfl ?_) | (refine Ck.pre ?_; first | refine Ck.mk rfl ?_) | (refine LetL.pre ?_; first | refine LetL.mk [_] rfl ?_)))); (try (conv => whnf)))
            refine LoopN.weak ?sw7 (next b gr d true ((if_pos q0).trans (if_neg (by rintro (h | h | h) <;> simp at h <;> omega))))
            case sw7 => exact SW.mk id rfl rfl (ratNames ..) ⟨.refl _, .refl _, .refl _, .refl _, .refl _, .refl _, .refl _, .refl _, .refl _, .refl _, .refl _, .refl _, VLe2.int (by omega), trivial⟩ (haveV.row (pure_st _) rfl (haveV.row rfl rfl (haveV.row rfl rfl trivial)))
        · ((repeat ((conv => whnf); (first | (refine LetN.pre ?_; first | ((conv => arg 1; whnf); refine LetN.mk ?_)) | (refine As.pre ?_; first | refine As.mk rfl ?_ | (refine As.mk ?_ ?_; · ((repeat' (refine andT ?_ ?_)) <;> (first | rfl | assumption | exact decide_eq_true (by omega) | exact decide_eq_true (by dsimp only; omega) | exact decide_eq_true (by simp; omega) | (simp; done))))) | (refine LetV.pre ?_; first | refine LetV.mk (t := 29) _ hldc ?_ | refine LetV.mk (.sc (.int _ _)) rfl ?_ | refine LetV.mk (.agg _) rfl ?_) | (refine LetI.pre ?_; first | refine LetI.wrap (by omega) (by omega) ?_ | refine LetI.mk _ rfl ?_) | (refine LetB.pre ?_; first | refine LetB.dect (by omega) ?_ | refine LetB.decf (by omega) ?_) | (refine Gd.pre ?_; first | refine Gd.run rfl ?_ | refine Gd.pass rfl ?_) | (refine Br.pre ?_; first | refine Br.tt rfl ?_ | refine Br.ff rfl ?_) | (refine Ck.pre ?_; first | refine Ck.mk rfl ?_) | (refine LetL.pre ?_; first | refine LetL.mk [_] rfl ?_)))); (try (conv => whnf)))
          refine LoopN.weak ?sw8 (next b gr d true ((if_pos q0).trans (if_neg (by rintro (h | h | h) <;> simp at h <;> omega))))
          case sw8 => exact SW.mk id rfl rfl (ratNames ..) ⟨.refl _, .refl _, .refl _, .refl _, .refl _, .refl _, .refl _, .refl _, .refl _, .refl _, .refl _, .refl _, VLe2.int (by omega), trivial⟩ (haveV.row (pure_st _) rfl (haveV.row rfl rfl (haveV.row rfl rfl trivial)))
  case neg =>
    clear ihA
    rw [List.drop_eq_nil_of_le (by omega), List.foldl_nil] at g2
    rw [g2] at hst
    simp only at hst
    ((repeat ((conv => whnf); (first | (refine As.pre ?_; first | refine As.mk rfl ?_) | (refine LetI.pre ?_; first | refine LetI.mk _ rfl ?_) | (refine LetB.pre ?_; first | refine LetB.decf (by omega) ?_) | (refine Br.pre ?_; first | refine Br.ff rfl ?_) | (refine Ck.pre ?_; first | refine Ck.mk rfl ?_)))); (try (conv => whnf)))
    refine LoopN.weak (s1 := ratB l G C F fl a o k out g b gr (0, false)) ?sw9 ?_
    case sw9 => exact SW.mk id rfl rfl (ratNames ..) ⟨.refl _, .refl _, .refl _, .refl _, .refl _, .refl _, .refl _, .refl _, .refl _, .refl _, .refl _, trivial⟩ (haveV.row (pure_st _) rfl (haveV.row rfl rfl (haveV.row rfl rfl trivial)))
    generalize hY : (F.any fun f => decide (f.ref = g.id) && !rLiftedP l f.id a o) = Y at hst
    refine LoopN.ind T_ok mixed (S := ratB l G C F fl a o k out g b gr) (fun i => F.length - i.1) (fun i => i.1 ≤ F.length ∧ Y = (i.2 || (F.drop i.1).any fun f => decide (f.ref = g.id) && !rLiftedP l f.id a o)) (fun _ => rfl) (fun i hi ihB => ?_) (0, false) ⟨Nat.zero_le _, by rw [← hY]; rfl⟩
    obtain ⟨i, v⟩ := i
    obtain ⟨g3, g4⟩ := hi
    simp only at g3 g4 ihB
    by_cases hiF : i < F.length
    case pos =>
      have hldf : en (F.getD i e0) = (F.map en).getD i (.sc undef) := mapD e0 hiF
      rw [any_drop _ hiF e0, ← Bool.or_assoc] at g4
      generalize F.getD i e0 = f at hldf g4
      have hL := rLifted_f l f.id a o fl hl
      generalize rLiftedP l f.id a o = u at hL g4
      have next := ihB (i + 1, v || (decide (f.ref = g.id) && !u)) ⟨by omega, g4⟩ (by show F.length - (i + 1) < F.length - i; omega)
      clear g4 ih ihB
      by_cases q0 : f.ref = g.id
      case neg =>
        rw [decide_eq_false q0, Bool.false_and, Bool.or_false] at next
        ((repeat ((conv => whnf); (first | (refine As.pre ?_; first | refine As.mk rfl ?_ | (refine As.mk ?_ ?_; · ((repeat' (refine andT ?_ ?_)) <;> (first | rfl | assumption | exact decide_eq_true (by omega) | exact decide_eq_true (by dsimp only; omega) | exact decide_eq_true (by simp; omega) | (simp; done))))) | (refine LetV.pre ?_; first | refine LetV.mk (t := 29) _ hldf ?_ | refine LetV.mk (.sc (.int _ _)) rfl ?_) | (refine LetI.pre ?_; first | refine LetI.wrap (by omega) (by omega) ?_ | refine LetI.mk _ rfl ?_) | (refine LetB.pre ?_; first | refine LetB.dect (by omega) ?_ | refine LetB.decf (by omega) ?_) | (refine Gd.pre ?_; first | refine Gd.pass rfl ?_) | (refine Br.pre ?_; first | refine Br.tt rfl ?_ | refine Br.ff rfl ?_) | (refine Ck.pre ?_; first | refine Ck.drawn (by kernel_rfl) ?_ | refine Ck.mk rfl ?_)))); (try (conv => whnf)))
        refine LoopN.weak ?sw10 next
        case sw10 => exact SW.mk id rfl rfl (ratNames ..) ⟨.refl _, .refl _, .refl _, .refl _, .refl _, .refl _, .refl _, .refl _, .refl _, .refl _, VLe2.int (by omega), trivial⟩ (haveV.row (pure_st _) rfl (haveV.row rfl rfl (haveV.row rfl rfl trivial)))
      rw [decide_eq_true q0, Bool.true_and] at next
      cases u with
      | true =>
        rw [Bool.not_true, Bool.or_false] at next
        ((repeat ((conv => whnf); (first | (refine As.pre ?_; first | refine As.mk rfl ?_ | (refine As.mk ?_ ?_; · ((repeat' (refine andT ?_ ?_)) <;> (first | rfl | assumption | exact decide_eq_true (by omega) | exact decide_eq_true (by dsimp only; omega) | exact decide_eq_true (by simp; omega) | (simp; done))))) | (refine LetV.pre ?_; first | refine LetV.mk (t := 29) _ hldf ?_ | refine LetV.mk (.sc (.int _ _)) rfl ?_) | (refine LetI.pre ?_; first | refine LetI.wrap (by omega) (by omega) ?_ | refine LetI.mk _ rfl ?_) | (refine LetB.pre ?_; first | refine LetB.dect (by omega) ?_) | (refine Gd.pre ?_; first | refine Gd.run rfl ?_) | (refine Br.pre ?_; first | refine Br.tt rfl ?_ | refine Br.ff rfl ?_) | (refine Ck.pre ?_; first | refine Ck.drawn (by kernel_rfl) ?_ | refine Ck.mk rfl ?_) | (refine CallN.pre ?_; first | refine CallN.pure hL rfl rfl ?_)))); (try (conv => whnf)))


        refine LoopN.weak ?sw11 next
        case sw11 => exact SW.mk id rfl rfl (ratNames ..) ⟨.refl _, .refl _, .refl _, .refl _, .refl _, .refl _, .refl _, .refl _, .refl _, .refl _, VLe2.int (by omega), trivial⟩ (haveV.row (pure_st _) rfl (haveV.row rfl rfl (haveV.row rfl rfl trivial)))
      | false =>
        rw [Bool.not_false, Bool.or_true] at next
        ((repeat ((conv => whnf); (first | (refine LetN.pre ?_; first | ((conv => arg 1; whnf); refine LetN.mk ?_)) | (refine As.pre ?_; first | refine As.mk rfl ?_ | (refine As.mk ?_ ?_; · ((repeat' (refine andT ?_ ?_)) <;> (first | rfl | assumption | exact decide_eq_true (by omega) | exact decide_eq_true (by dsimp only; omega) | exact decide_eq_true (by simp; omega) | (simp; done))))) | (refine LetV.pre ?_; first | refine LetV.mk (t := 29) _ hldf ?_ | refine LetV.mk (.sc (.int _ _)) rfl ?_) | (refine LetI.pre ?_; first | refine LetI.wrap (by omega) (by omega) ?_ | refine LetI.mk _ rfl ?_) | (refine LetB.pre ?_; first | refine LetB.dect (by omega) ?_) | (refine Gd.pre ?_; first | refine Gd.run rfl ?_) | (refine Br.pre ?_; first | refine Br.tt rfl ?_) | (refine Ck.pre ?_; first | refine Ck.drawn (by kernel_rfl) ?_ | refine Ck.mk rfl ?_) | (refine LetL.pre ?_; first | refine LetL.mk [_] rfl ?_) | (refine CallN.pre ?_; first | refine CallN.pure hL rfl rfl ?_)))); (try (conv => whnf)))


        refine LoopN.weak ?sw12 next
        case sw12 => exact SW.mk id rfl rfl (ratNames ..) ⟨.refl _, .refl _, .refl _, .refl _, .refl _, .refl _, .refl _, .refl _, .refl _, .refl _, VLe2.int (by omega), trivial⟩ (haveV.row (pure_st _) rfl (haveV.row rfl rfl (haveV.row rfl rfl trivial)))
    case neg =>
      clear ihB
      rw [List.drop_eq_nil_of_le (by omega), List.any_nil, Bool.or_false] at g4
      rw [g4] at hst
      rw [hst] at hq
      have hr := room_st (n := out.length + 1) (by omega)
      have hol2 : (out.map stA).length = out.length := List.length_map _
      ((repeat ((conv => whnf); (first | (refine LetN.pre ?_; first | ((conv => arg 1; whnf); refine LetN.mk ?_)) | (refine As.pre ?_; first | refine As.mk rfl ?_ | (refine As.mk ?_ ?_; · ((repeat' (refine andT ?_ ?_)) <;> (first | rfl | assumption | exact decide_eq_true (by omega) | exact decide_eq_true (by dsimp only; omega) | exact decide_eq_true (by simp; omega) | (simp; done))))) | (refine LetV.pre ?_; first | refine LetV.mk (.agg _) rfl ?_) | (refine LetI.pre ?_; first | refine LetI.wrap (by omega) (by omega) ?_ | refine LetI.mk _ rfl ?_) | (refine LetB.pre ?_; first | refine LetB.decf (by omega) ?_) | (refine Br.pre ?_; first | refine Br.ff rfl ?_) | (refine Ck.pre ?_; first | refine Ck.mk rfl ?_) | (refine LetL.pre ?_; first | refine LetL.mk (ty := sty) _ (app_st out ⟨g.id, b, gr, v⟩ _ rfl) ?_)))); (try (conv => whnf)))

      refine LoopN.weak ?sw13 (ih (k + 1, out ++ [⟨g.id, b, gr, v⟩]) ⟨by omega, hq.symm⟩ (by omega))
      case sw13 => exact SW.mk (fun _ => 3) rfl rfl (namesAll.row (pure_st _) rfl) ⟨.refl _, .refl _, .refl _, .refl _, .refl _, .refl _, VLe2.slm_of (by simp), VLe2.int (by omega), trivial⟩ (haveV.row (pure_st _) rfl trivial)
theorem rAt_f (l : List E) (a o : Int) (fl : Fl) (hl : l.length ≤ 100000) : AFun Try.prog 41 0 [.ro fl 15 (l.map en), int a, int o] [] (.ro {} 4 ((rAtP l a o).map stA)) [] :=
  AFun.frz1 (H := []) (rAt_s l a o fl hl) rfl (pure_st _) (by simp)
end En
end Go.Proofs.Ytjnohedknlibmaa
namespace Go.Proofs.Ytjnohedknlibmaa
open Go.Proofs.Ytjnohedknlibmaa.Am
namespace En
theorem copyG {α : Type} (f : α → AV) (d : α) (out : List α) (p x y z w : Nat) (hx : x = p + 1) (hw : w = p) (hy : y = out.length - p) (hz : z = out.length + 1 - p) (hp : p ≤ out.length) :
    ((out ++ [d]).take (p + 1) ++ out.drop p).map f = splice ((out ++ [d]).map f) x (((((out ++ [d]).map f).drop w).take z).take y) := by
  subst hx hw hy hz
  have hM : ((((out ++ [d]).map f).drop w).take (out.length + 1 - w)).take (out.length - w) = (out.drop w).map f := by
    rw [List.take_take, Nat.min_eq_left (by omega), ← List.map_drop, ← List.map_take, List.drop_append_of_le_length hp, List.take_append_of_le_length (by simp), List.take_of_length_le (by simp)]
  rw [hM]
  unfold splice
  rw [List.drop_eq_nil_of_le (i := w + 1 + _) (by simp; omega), List.append_nil, List.map_append, List.map_take]
theorem setG {α : Type} (f : α → AV) (d : α) (out : List α) (p : Nat) (e : α) (hp : p ≤ out.length) : (out.take p ++ e :: out.drop p).map f = (((out ++ [d]).take (p + 1) ++ out.drop p).map f).set (0 + p) (f e) := by
  rw [Nat.zero_add, ← List.map_set]
  congr 1
  have hlt : p < (out ++ [d]).length := by simp; omega
  rw [List.take_succ_eq_append_getElem hlt, List.append_assoc, List.take_append_of_le_length hp, List.set_append_right _ _ (by simp; omega), List.length_take, Nat.min_eq_left hp, Nat.sub_self]
  rfl
def c0 : Ch := ⟨0, 0, 0, 0⟩
theorem getD_on {l : List Ch} {k : Nat} (h : k < l.length) : int (l.getD k c0).on_ = Am.part false 1 3 4 ((l.map chA).getD (0 + k) (.sc undef)) := by
  rw [Nat.zero_add, List.getD_eq_getElem?_getD, List.getD_eq_getElem?_getD, List.getElem?_map, List.getElem?_eq_getElem h]; rfl
theorem stor_ch (l : List Ch) (i j : Nat) : storables (((l.map chA).drop i).take j) = true := by
  refine List.all_eq_true.2 fun e he => ?_
  obtain ⟨p, _, rfl⟩ := List.mem_map.1 (List.mem_of_mem_drop (List.mem_of_mem_take he))
  rfl
def insCh (out : List Ch) (c : Ch) : List Ch := putB (fun x => decide (c.on_ < x.on_)) c0 out c
theorem insCh_length (out : List Ch) (c : Ch) : (insCh out c).length = out.length + 1 := by
  have := posB_le (fun x => decide (c.on_ < x.on_)) c0 out out.length
  simp only [insCh, putB, List.length_append, List.length_take, List.length_cons, List.length_drop]
  omega
def enQ (st pr : Int) (e : E) : Bool := decide (e.student = st ∧ e.programme = pr)
/-- The earliest enrolment. -/
def stepB (st pr : Int) (x : Int × Bool) (e : E) : Int × Bool := if (e.student = st ∧ e.programme = pr) ∧ (x.2 = false ∨ e.on_ < x.1) then (e.on_, true) else x
def rBegin (l : List E) (st pr a o : Int) : Int × Bool := (countP l 1 a o).foldl (stepB st pr) (0, false)
def rChoices (l : List E) (st pr b a o : Int) : List Ch := ((countP l 2 a o).filter (enQ st pr)).foldl (fun out e => insCh out ⟨pr, e.version, b, e.on_⟩) []
def rEnrolP (l : List E) (st pr a o : Int) : Int × List Ch × Bool := if (rBegin l st pr a o).2 then ((rBegin l st pr a o).1, rChoices l st pr (rBegin l st pr a o).1 a o, true) else (0, [], false)
abbrev chty : TypeId := 77
abbrev renS (l A : List E) (fl : Fl) (st pr a o : Int) : Nat × Int × Bool → AS
  | (k, b, s) => ⟨[(0, .ro fl 15 (l.map en)), (1, int st), (2, int pr), (3, int a), (4, int o), (13, .ro {} 15 (A.map en)), (14, int b), (15, bool s), (16, int k)], [], 0⟩
abbrev renT (C : List E) (st pr b : Int) : Nat × List Ch → AS
  | (k, out) => ⟨[(1, int st), (2, int pr), (14, int b), (18, .ro {} 15 (C.map en)), (19, .slm {} 0 4 0 out.length), (20, int k)], [(0, .row 4 chty (out.map chA))], 1⟩
abbrev renI (C : List E) (st pr b : Int) (k : Nat) (out : List Ch) (e : E) : Nat → AS
  | p => ⟨[(1, int st), (2, int pr), (14, int b), (18, .ro {} 15 (C.map en)), (19, .slm {} 0 4 0 out.length), (20, int k), (21, .ptr 1 15 0 0), (22, int p)], [(0, .row 4 chty (out.map chA)), (1, .row 15 ety [en e])], 2⟩
set_option maxHeartbeats 1600000 in
set_option maxRecDepth 100000 in
theorem rEnrol_f (l : List E) (st pr a o : Int) (fl : Fl) (hl : l.length ≤ 100000) : AFun Try.prog 44 0 [.ro fl 15 (l.map en), int st, int pr, int a, int o] [] (enrolV (rEnrolP l st pr a o)) [] := by
  have hc1 := counting_f l 1 a o fl hl
  have hl1 := countP_length l 1 a o
  have hc2 := counting_f l 2 a o fl hl
  have hl2 := countP_length l 2 a o
  rw [rEnrolP, rBegin]
  unfold rChoices
  generalize countP l 1 a o = A at hc1 hl1 ⊢
  generalize countP l 2 a o = C at hc2 hl2 ⊢
  have hAl : (A.map en).length = A.length := List.length_map _
  have hCl : (C.map en).length = C.length := List.length_map _
  generalize hX : A.foldl (stepB st pr) (0, false) = X
  cases hs : X.2 with
  | false =>
    simp only [Bool.false_eq_true, if_false]
    refine AFun.of_S T_ok mixed Try.func44 rfl (Nat.le_of_ble_eq_true rfl) rfl ?_
    ((repeat ((conv => whnf); (first | (refine As.pre ?_; first | refine As.mk rfl ?_) | (refine Ck.pre ?_; first | refine Ck.mk rfl ?_) | (refine CallN.pre ?_; first | refine CallN.pure hc1 rfl rfl ?_)))); (try (conv => whnf)))
    refine LoopN.weak (s1 := renS l A fl st pr a o (0, 0, false)) ?sw1 ?_
    case sw1 => exact SW.fr0 (Nat.le_refl _) rfl ⟨.refl _, .refl _, .refl _, .refl _, .refl _, .refl _, .refl _, .refl _, .refl _, trivial⟩
    refine LoopN.ind T_ok mixed (S := renS l A fl st pr a o) (fun i => A.length - i.1) (fun i => i.1 ≤ A.length ∧ X = (A.drop i.1).foldl (stepB st pr) i.2) (fun _ => rfl) (fun i hi ih => ?_) (0, 0, false) ⟨Nat.zero_le _, hX.symm⟩
    obtain ⟨k, b, s⟩ := i
    obtain ⟨h1, h2⟩ := hi
    simp only at h1 h2 ih
    by_cases hlt : k < A.length
    case neg =>
      rw [List.drop_eq_nil_of_le (by omega), List.foldl_nil] at h2
      rw [h2] at hs
      simp only at hs
      subst hs
      clear ih
      ((repeat ((conv => whnf); (first | (refine As.pre ?_; first | refine As.mk rfl ?_) | (refine LetI.pre ?_; first | refine LetI.mk _ rfl ?_) | (refine LetB.pre ?_; first | refine LetB.decf (by omega) ?_) | (refine Br.pre ?_; first | refine Br.tt rfl ?_ | refine Br.ff rfl ?_) | (refine Ck.pre ?_; first | refine Ck.mk rfl ?_)))); (try (conv => whnf)))
      exact ⟨⟨[(10, int 0), (11, .ro {} 4 []), (12, bool false)], [], 0⟩, SW.mk id rfl rfl rfl ⟨.refl _, VLe2.nilro, .refl _, trivial⟩ trivial, .inl rfl, ⟨_, rfl, rfl⟩, trivial⟩
    have hld : en (A.getD k e0) = (A.map en).getD k (.sc undef) := mapD e0 hlt
    rw [foldl_drop _ hlt e0] at h2
    generalize A.getD k e0 = e at hld h2
    have next : ∀ (b' : Int) (s' : Bool), stepB st pr (b, s) e = (b', s') → LoopN Try.prog 0 Try.f44.ntmps _ (renS l A fl st pr a o (k + 1, b', s')) _ := fun b' s' hs' => ih (k + 1, b', s') ⟨by omega, by rw [← hs']; exact h2⟩ (by show A.length - (k + 1) < A.length - k; omega)
    clear ih
    by_cases q1 : e.student = st
    case neg =>
      ((repeat ((conv => whnf); (first | (refine LetN.pre ?_; first | ((conv => arg 1; whnf); refine LetN.mk ?_)) | (refine As.pre ?_; first | refine As.mk rfl ?_ | (refine As.mk ?_ ?_; · ((repeat' (refine andT ?_ ?_)) <;> (first | rfl | assumption | exact decide_eq_true (by omega) | exact decide_eq_true (by dsimp only; omega) | exact decide_eq_true (by simp; omega) | (simp; done))))) | (refine LetV.pre ?_; first | refine LetV.mk (t := 29) _ hld ?_ | refine LetV.mk (.sc (.int _ _)) rfl ?_ | refine LetV.mk (.agg _) rfl ?_) | (refine LetI.pre ?_; first | refine LetI.wrap (by omega) (by omega) ?_ | refine LetI.mk _ rfl ?_) | (refine LetB.pre ?_; first | refine LetB.dect (by omega) ?_ | refine LetB.decf (by omega) ?_) | (refine Gd.pre ?_; first | refine Gd.pass rfl ?_) | (refine Br.pre ?_; first | refine Br.tt rfl ?_ | refine Br.ff rfl ?_) | (refine Ck.pre ?_; first | refine Ck.mk rfl ?_) | (refine LetL.pre ?_; first | refine LetL.mk [_] rfl ?_)))); (try (conv => whnf)))
      refine LoopN.weak ?swa (next b s (if_neg fun h => q1 h.1.1))
      case swa => exact SW.fr0 (Nat.zero_le _) rfl ⟨.refl _, .refl _, .refl _, .refl _, .refl _, .refl _, .refl _, .refl _, VLe2.int (by omega), trivial⟩
    by_cases q2 : e.programme = pr
    case neg =>
      ((repeat ((conv => whnf); (first | (refine LetN.pre ?_; first | ((conv => arg 1; whnf); refine LetN.mk ?_)) | (refine As.pre ?_; first | refine As.mk rfl ?_ | (refine As.mk ?_ ?_; · ((repeat' (refine andT ?_ ?_)) <;> (first | rfl | assumption | exact decide_eq_true (by omega) | exact decide_eq_true (by dsimp only; omega) | exact decide_eq_true (by simp; omega) | (simp; done))))) | (refine LetV.pre ?_; first | refine LetV.mk (t := 29) _ hld ?_ | refine LetV.mk (.sc (.int _ _)) rfl ?_ | refine LetV.mk (.agg _) rfl ?_) | (refine LetI.pre ?_; first | refine LetI.wrap (by omega) (by omega) ?_ | refine LetI.mk _ rfl ?_) | (refine LetB.pre ?_; first | refine LetB.dect (by omega) ?_ | refine LetB.decf (by omega) ?_) | (refine Gd.pre ?_; first | refine Gd.run rfl ?_ | refine Gd.pass rfl ?_) | (refine Br.pre ?_; first | refine Br.tt rfl ?_ | refine Br.ff rfl ?_) | (refine Ck.pre ?_; first | refine Ck.mk rfl ?_) | (refine LetL.pre ?_; first | refine LetL.mk [_] rfl ?_)))); (try (conv => whnf)))
      refine LoopN.weak ?swb (next b s (if_neg fun h => q2 h.1.2))
      case swb => exact SW.fr0 (Nat.zero_le _) rfl ⟨.refl _, .refl _, .refl _, .refl _, .refl _, .refl _, .refl _, .refl _, VLe2.int (by omega), trivial⟩
    cases s with
    | false =>
      ((repeat ((conv => whnf); (first | (refine LetN.pre ?_; first | ((conv => arg 1; whnf); refine LetN.mk ?_)) | (refine As.pre ?_; first | refine As.mk rfl ?_ | (refine As.mk ?_ ?_; · ((repeat' (refine andT ?_ ?_)) <;> (first | rfl | assumption | exact decide_eq_true (by omega) | exact decide_eq_true (by dsimp only; omega) | exact decide_eq_true (by simp; omega) | (simp; done))))) | (refine LetV.pre ?_; first | refine LetV.mk (t := 29) _ hld ?_ | refine LetV.mk (.sc (.int _ _)) rfl ?_ | refine LetV.mk (.agg _) rfl ?_) | (refine LetI.pre ?_; first | refine LetI.wrap (by omega) (by omega) ?_ | refine LetI.mk _ rfl ?_) | (refine LetB.pre ?_; first | refine LetB.dect (by omega) ?_) | (refine Gd.pre ?_; first | refine Gd.run rfl ?_ | refine Gd.pass rfl ?_) | (refine Br.pre ?_; first | refine Br.tt rfl ?_) | (refine Ck.pre ?_; first | refine Ck.mk rfl ?_) | (refine LetL.pre ?_; first | refine LetL.mk [_] rfl ?_)))); (try (conv => whnf)))
      refine LoopN.weak ?swc (next e.on_ true (if_pos ⟨⟨q1, q2⟩, .inl rfl⟩))
      case swc => exact SW.fr0 (Nat.zero_le _) rfl ⟨.refl _, .refl _, .refl _, .refl _, .refl _, .refl _, .refl _, .refl _, VLe2.int (by omega), trivial⟩
    | true =>
      by_cases q3 : e.on_ < b
      · ((repeat ((conv => whnf); (first | (refine LetN.pre ?_; first | ((conv => arg 1; whnf); refine LetN.mk ?_)) | (refine As.pre ?_; first | refine As.mk rfl ?_ | (refine As.mk ?_ ?_; · ((repeat' (refine andT ?_ ?_)) <;> (first | rfl | assumption | exact decide_eq_true (by omega) | exact decide_eq_true (by dsimp only; omega) | exact decide_eq_true (by simp; omega) | (simp; done))))) | (refine LetV.pre ?_; first | refine LetV.mk (t := 29) _ hld ?_ | refine LetV.mk (.sc (.int _ _)) rfl ?_ | refine LetV.mk (.agg _) rfl ?_) | (refine LetI.pre ?_; first | refine LetI.wrap (by omega) (by omega) ?_ | refine LetI.mk _ rfl ?_) | (refine LetB.pre ?_; first | refine LetB.dect (by omega) ?_) | (refine Gd.pre ?_; first | refine Gd.run rfl ?_) | (refine Br.pre ?_; first | refine Br.tt rfl ?_) | (refine Ck.pre ?_; first | refine Ck.mk rfl ?_) | (refine LetL.pre ?_; first | refine LetL.mk [_] rfl ?_)))); (try (conv => whnf)))
        refine LoopN.weak ?swd (next e.on_ true (if_pos ⟨⟨q1, q2⟩, .inr q3⟩))
        case swd => exact SW.fr0 (Nat.zero_le _) rfl ⟨.refl _, .refl _, .refl _, .refl _, .refl _, .refl _, .refl _, .refl _, VLe2.int (by omega), trivial⟩
      · ((repeat ((conv => whnf); (first | (refine LetN.pre ?_; first | ((conv => arg 1; whnf); refine LetN.mk ?_)) | (refine As.pre ?_; first | refine As.mk rfl ?_ | (refine As.mk ?_ ?_; · ((repeat' (refine andT ?_ ?_)) <;> (first | rfl | assumption | exact decide_eq_true (by omega) | exact decide_eq_true (by dsimp only; omega) | exact decide_eq_true (by simp; omega) | (simp; done))))) | (refine LetV.pre ?_; first | refine LetV.mk (t := 29) _ hld ?_ | refine LetV.mk (.sc (.int _ _)) rfl ?_ | refine LetV.mk (.agg _) rfl ?_) | (refine LetI.pre ?_; first | refine LetI.wrap (by omega) (by omega) ?_ | refine LetI.mk _ rfl ?_) | (refine LetB.pre ?_; first | refine LetB.dect (by omega) ?_ | refine LetB.decf (by omega) ?_) | (refine Gd.pre ?_; first | refine Gd.run rfl ?_) | (refine Br.pre ?_; first | refine Br.tt rfl ?_ | refine Br.ff rfl ?_) | (refine Ck.pre ?_; first | refine Ck.mk rfl ?_) | (refine LetL.pre ?_; first | refine LetL.mk [_] rfl ?_)))); (try (conv => whnf)))
        refine LoopN.weak ?swe (next b true (if_neg fun h => by rcases h.2 with h | h; exact absurd h (by simp); exact q3 h))
        case swe => exact SW.fr0 (Nat.zero_le _) rfl ⟨.refl _, .refl _, .refl _, .refl _, .refl _, .refl _, .refl _, .refl _, VLe2.int (by omega), trivial⟩
  | true =>
    simp only [if_true]
    have key : AFun Try.prog 44 0 [.ro fl 15 (l.map en), int st, int pr, int a, int o] [] (.tup [int X.1, .slm {} 0 4 0 (((C.filter (enQ st pr)).foldl (fun out e => insCh out ⟨pr, e.version, X.1, e.on_⟩) [])).length, bool true]) [(0, .row 4 chty (((C.filter (enQ st pr)).foldl (fun out e => insCh out ⟨pr, e.version, X.1, e.on_⟩) []).map chA))] := by
      refine AFun.of_S T_ok mixed Try.func44 rfl (Nat.le_of_ble_eq_true rfl) rfl ?_
      ((repeat ((conv => whnf); (first | (refine As.pre ?_; first | refine As.mk rfl ?_) | (refine Ck.pre ?_; first | refine Ck.mk rfl ?_) | (refine CallN.pre ?_; first | refine CallN.pure hc1 rfl rfl ?_)))); (try (conv => whnf)))
      refine LoopN.weak (s1 := renS l A fl st pr a o (0, 0, false)) ?sw1 ?_
      case sw1 => exact SW.fr0 (Nat.le_refl _) rfl ⟨.refl _, .refl _, .refl _, .refl _, .refl _, .refl _, .refl _, .refl _, .refl _, trivial⟩
      refine LoopN.ind T_ok mixed (S := renS l A fl st pr a o) (fun i => A.length - i.1) (fun i => i.1 ≤ A.length ∧ X = (A.drop i.1).foldl (stepB st pr) i.2) (fun _ => rfl) (fun i hi ih => ?_) (0, 0, false) ⟨Nat.zero_le _, hX.symm⟩
      obtain ⟨k, b, s⟩ := i
      obtain ⟨h1, h2⟩ := hi
      simp only at h1 h2 ih
      by_cases hlt : k < A.length
      case neg =>
        rw [List.drop_eq_nil_of_le (by omega), List.foldl_nil] at h2
        rw [h2] at hs ⊢
        simp only at hs ⊢
        subst hs
        clear ih h2 hX hc1
        generalize hR : (C.filter (enQ st pr)).foldl (fun out e => insCh out ⟨pr, e.version, b, e.on_⟩) [] = R
        ((repeat ((conv => whnf); (first | (refine As.pre ?_; first | refine As.mk rfl ?_) | (refine LetI.pre ?_; first | refine LetI.mk _ rfl ?_) | (refine LetB.pre ?_; first | refine LetB.decf (by omega) ?_) | (refine Br.pre ?_; first | refine Br.ff rfl ?_) | (refine Ck.pre ?_; first | refine Ck.mk rfl ?_) | (refine CallN.pre ?_; first | refine CallN.pure hc2 rfl rfl ?_)))); (try (conv => whnf)))
        refine LoopN.weak (s1 := renT C st pr b (0, [])) ?sw2 ?_
        case sw2 => exact SW.mk id rfl rfl rfl ⟨.refl _, .refl _, .refl _, .refl _, VLe2.nilslm, .refl _, trivial⟩ (haveV.nil (Nat.le_refl _) trivial)
        refine LoopN.ind T_ok mixed (S := renT C st pr b) (fun i => C.length - i.1) (fun i => i.1 ≤ C.length ∧ i.2.length ≤ i.1 ∧ R = ((C.drop i.1).filter (enQ st pr)).foldl (fun out e => insCh out ⟨pr, e.version, b, e.on_⟩) i.2) (fun _ => rfl) (fun i hi ih => ?_) (0, []) ⟨Nat.zero_le _, Nat.zero_le _, hR.symm⟩
        obtain ⟨k, out⟩ := i
        obtain ⟨h1, h0, h2⟩ := hi
        simp only at h0 h1 h2 ih
        by_cases hlt : k < C.length
        case neg =>
          rw [List.drop_eq_nil_of_le (by omega)] at h2
          simp only [List.filter_nil, List.foldl_nil] at h2
          rw [h2]
          clear ih
          ((repeat ((conv => whnf); (first | (refine As.pre ?_; first | refine As.mk rfl ?_) | (refine LetI.pre ?_; first | refine LetI.mk _ rfl ?_) | (refine LetB.pre ?_; first | refine LetB.decf (by omega) ?_) | (refine Br.pre ?_; first | refine Br.ff rfl ?_) | (refine Ck.pre ?_; first | refine Ck.mk rfl ?_)))); (try (conv => whnf)))
          exact ⟨⟨[(10, int b), (11, .slm {} 0 4 0 out.length), (12, bool true)], [(0, .row 4 chty (out.map chA))], 1⟩, SW.mk id rfl rfl (namesAll.row (pure_ch _) rfl) ⟨.refl _, .refl _, .refl _, trivial⟩ (haveV.row (pure_ch _) rfl trivial), .inl rfl, ⟨_, rfl, rfl⟩, rfl, trivial⟩
        have hld : en (C.getD k e0) = (C.map en).getD k (.sc undef) := mapD e0 hlt
        rw [foldl_filter_drop _ _ hlt e0] at h2
        generalize C.getD k e0 = e at hld h2
        by_cases hq : e.student = st ∧ e.programme = pr
        case neg =>
          rw [if_neg (by simpa [enQ] using hq)] at h2
          have next := ih (k + 1, out) ⟨by omega, by show out.length ≤ k + 1; omega, h2⟩ (by show C.length - (k + 1) < C.length - k; omega)
          clear ih
          by_cases c1 : e.student = st
          · have c2 : e.programme ≠ pr := fun h => hq ⟨c1, h⟩
            ((repeat ((conv => whnf); (first | (refine LetN.pre ?_; first | ((conv => arg 1; whnf); refine LetN.mk ?_)) | (refine As.pre ?_; first | refine As.mk rfl ?_ | (refine As.mk ?_ ?_; · ((repeat' (refine andT ?_ ?_)) <;> (first | rfl | assumption | exact decide_eq_true (by omega) | exact decide_eq_true (by dsimp only; omega) | exact decide_eq_true (by simp; omega) | (simp; done))))) | (refine LetV.pre ?_; first | refine LetV.mk (t := 29) _ hld ?_ | refine LetV.mk (.sc (.int _ _)) rfl ?_ | refine LetV.mk (.agg _) rfl ?_) | (refine LetI.pre ?_; first | refine LetI.wrap (by omega) (by omega) ?_ | refine LetI.mk _ rfl ?_) | (refine LetB.pre ?_; first | refine LetB.dect (by omega) ?_ | refine LetB.bnet (by omega) ?_ | refine LetB.bnef (by omega) ?_) | (refine Gd.pre ?_; first | refine Gd.run rfl ?_) | (refine Br.pre ?_; first | refine Br.tt rfl ?_) | (refine Ck.pre ?_; first | refine Ck.mk rfl ?_) | (refine LetL.pre ?_; first | refine LetL.mk [_] rfl ?_)))); (try (conv => whnf)))
            refine LoopN.weak ?sw3 next
            case sw3 => exact SW.mk id rfl rfl (namesAll.row (pure_ch _) rfl) ⟨.refl _, .refl _, .refl _, .refl _, .refl _, VLe2.int (by omega), trivial⟩ (haveV.row (pure_ch _) rfl trivial)
          · ((repeat ((conv => whnf); (first | (refine LetN.pre ?_; first | ((conv => arg 1; whnf); refine LetN.mk ?_)) | (refine As.pre ?_; first | refine As.mk rfl ?_ | (refine As.mk ?_ ?_; · ((repeat' (refine andT ?_ ?_)) <;> (first | rfl | assumption | exact decide_eq_true (by omega) | exact decide_eq_true (by dsimp only; omega) | exact decide_eq_true (by simp; omega) | (simp; done))))) | (refine LetV.pre ?_; first | refine LetV.mk (t := 29) _ hld ?_ | refine LetV.mk (.sc (.int _ _)) rfl ?_ | refine LetV.mk (.agg _) rfl ?_) | (refine LetI.pre ?_; first | refine LetI.wrap (by omega) (by omega) ?_ | refine LetI.mk _ rfl ?_) | (refine LetB.pre ?_; first | refine LetB.dect (by omega) ?_ | refine LetB.bnet (by omega) ?_) | (refine Gd.pre ?_; first | refine Gd.pass rfl ?_) | (refine Br.pre ?_; first | refine Br.tt rfl ?_) | (refine Ck.pre ?_; first | refine Ck.mk rfl ?_) | (refine LetL.pre ?_; first | refine LetL.mk [_] rfl ?_)))); (try (conv => whnf)))
            refine LoopN.weak ?sw4 next
            case sw4 => exact SW.mk id rfl rfl (namesAll.row (pure_ch _) rfl) ⟨.refl _, .refl _, .refl _, .refl _, .refl _, VLe2.int (by omega), trivial⟩ (haveV.row (pure_ch _) rfl trivial)
        case pos =>
          rw [if_pos (by simpa [enQ] using hq)] at h2
          have hil := insCh_length out ⟨pr, e.version, b, e.on_⟩
          have next := ih (k + 1, insCh out ⟨pr, e.version, b, e.on_⟩) ⟨by omega, by show (insCh out _).length ≤ k + 1; omega, h2⟩ (by show C.length - (k + 1) < C.length - k; omega)
          rw [insCh, putB] at next
          simp only at next
          have hple := posB_le (fun x : Ch => decide (e.on_ < x.on_)) c0 out out.length
          generalize hp : posB (fun x : Ch => decide (e.on_ < x.on_)) c0 out out.length = p at next hple
          clear ih h2 hil hR
          obtain ⟨q1, q2⟩ := hq
          ((repeat ((conv => whnf); (first | (refine LetN.pre ?_; first | ((conv => arg 1; whnf); refine LetN.mk ?_)) | (refine As.pre ?_; first | refine As.mk rfl ?_ | (refine As.mk ?_ ?_; · ((repeat' (refine andT ?_ ?_)) <;> (first | rfl | assumption | exact decide_eq_true (by omega) | exact decide_eq_true (by dsimp only; omega) | exact decide_eq_true (by simp; omega) | (simp; done))))) | (refine LetV.pre ?_; first | refine LetV.mk (t := 29) _ hld ?_ | refine LetV.mk (.sc (.int _ _)) rfl ?_ | refine LetV.mk (.agg _) rfl ?_) | (refine LetI.pre ?_; first | refine LetI.mk _ rfl ?_) | (refine LetB.pre ?_; first | refine LetB.dect (by omega) ?_ | refine LetB.bnef (by omega) ?_) | (refine Gd.pre ?_; first | refine Gd.run rfl ?_) | (refine Br.pre ?_; first | refine Br.tt rfl ?_ | refine Br.ff rfl ?_) | (refine Ck.pre ?_; first | refine Ck.mk rfl ?_) | (refine LetL.pre ?_; first | refine LetL.mk [_] rfl ?_)))); (try (conv => whnf)))
          refine LoopN.weak (s1 := renI C st pr b k out e out.length) ?sw5 ?_
          case sw5 => exact SW.mk id rfl rfl (namesAll.row (pure_ch _) (namesAll.row rfl rfl)) ⟨.refl _, .refl _, .refl _, .refl _, .refl _, .refl _, .refl _, .refl _, trivial⟩ (haveV.row (pure_ch _) rfl (haveV.row rfl rfl trivial))
          refine LoopN.ind T_ok mixed (S := renI C st pr b k out e) (fun i => i) (fun i => i ≤ out.length ∧ p = posB (fun x : Ch => decide (e.on_ < x.on_)) c0 out i) (fun _ => rfl) (fun i hi ih2 => ?_) out.length ⟨Nat.le_refl _, hp.symm⟩
          obtain ⟨g1, g2⟩ := hi
          have hom : (out.map chA).length = out.length := List.length_map _
          have hr := room_ch (n := out.length + 1) (by omega)
          cases i with
          | zero =>
            clear ih2
            rw [posB] at g2
            subst g2
            ((repeat ((conv => whnf); (first | (refine LetN.pre ?_; first | ((conv => arg 1; whnf); refine LetN.mk ?_)) | (refine As.pre ?_; first | refine As.mk rfl ?_ | (refine As.mk ?_ ?_; · ((repeat' (refine andT ?_ ?_)) <;> (first | rfl | exact stor_ch _ _ _ | exact decide_eq_true (by simp; omega) | (simp; done))))) | (refine LetV.pre ?_; first | refine LetV.mk (.sc (.int _ _)) rfl ?_ | refine LetV.mk (.slm _ _ _ _ _) rfl ?_) | (refine LetI.pre ?_; first | refine LetI.wrap (by omega) (by omega) ?_ | refine LetI.mk _ rfl ?_) | (refine LetB.pre ?_; first | refine LetB.ff rfl ?_) | (refine Gd.pre ?_; first | refine Gd.pass rfl ?_) | (refine Br.pre ?_; first | refine Br.ff rfl ?_) | (refine Ck.pre ?_; first | refine Ck.drawn (by kernel_rfl) ?_ | refine Ck.mk rfl ?_) | (refine LetL.pre ?_; first | refine LetL.mk (ty := chty) _ (app_ch out c0 _ rfl) ?_ | (refine LetL.mk (ty := chty) _ (copyG chA c0 out (0) _ _ _ _ ?_ ?_ ?_ ?_ hple) ?_; iterate 4 (· (first | (simp; done) | (simp; omega)))) | refine LetL.mk (ty := chty) _ (setG chA c0 out (0) ⟨pr, e.version, b, e.on_⟩ hple) ?_)))); (try (conv => whnf)))




            refine LoopN.weak ?sw6 next
            case sw6 => exact SW.mk (fun _ => 2) rfl rfl (namesAll.row (pure_ch _) rfl) ⟨.refl _, .refl _, .refl _, .refl _, VLe2.slm_of (by first | (simp; done) | (simp; omega)), VLe2.int (by omega), trivial⟩ (haveV.row (pure_ch _) rfl trivial)
          | succ j =>
            rw [posB] at g2
            have hidv : int (out.getD j c0).on_ = Am.part false 1 3 4 ((out.map chA).getD (0 + j) (.sc undef)) := getD_on (by omega)
            have hsub : (j : Int) = IntKind.i64.wrap (((j + 1 : Nat) : Int) - 1) := by
              rw [wrap_id (by omega) (by omega)]; omega
            generalize out.getD j c0 = x at hidv g2
            by_cases hg : e.on_ < x.on_
            · simp only [hg, decide_true, if_true] at g2
              have next2 := ih2 j ⟨by omega, g2⟩ (by show j < j + 1; omega)
              clear ih2 next
              ((repeat ((conv => whnf); (first | (refine As.pre ?_; first | refine As.mk rfl ?_ | (refine As.mk ?_ ?_; · ((repeat' (refine andT ?_ ?_)) <;> (first | rfl | assumption | exact decide_eq_true (by omega) | exact decide_eq_true (by dsimp only; omega) | exact decide_eq_true (by simp; omega) | (simp; done))))) | (refine LetV.pre ?_; first | refine LetV.mk (t := 3) _ hidv ?_ | refine LetV.mk (.sc (.int _ _)) rfl ?_) | (refine LetI.pre ?_; first | refine LetI.mk (o := some .sub) (j : Int) hsub ?_) | (refine LetB.pre ?_; first | refine LetB.dect (by omega) ?_) | (refine Gd.pre ?_; first | refine Gd.run rfl ?_) | (refine Br.pre ?_; first | refine Br.tt rfl ?_) | (refine Ck.pre ?_; first | refine Ck.drawn (by kernel_rfl) ?_ | refine Ck.mk rfl ?_)))); (try (conv => whnf)))


              refine LoopN.weak ?sw7 next2
              case sw7 => exact SW.mk id rfl rfl (namesAll.row (pure_ch _) (namesAll.row rfl rfl)) ⟨.refl _, .refl _, .refl _, .refl _, .refl _, .refl _, .refl _, .refl _, trivial⟩ (haveV.row (pure_ch _) rfl (haveV.row rfl rfl trivial))
            · simp only [hg, decide_false, Bool.false_eq_true, if_false] at g2
              subst g2
              clear ih2
              ((repeat ((conv => whnf); (first | (refine LetN.pre ?_; first | ((conv => arg 1; whnf); refine LetN.mk ?_)) | (refine As.pre ?_; first | refine As.mk rfl ?_ | (refine As.mk ?_ ?_; · ((repeat' (refine andT ?_ ?_)) <;> (first | rfl | exact stor_ch _ _ _ | exact decide_eq_true (by simp; omega) | (simp; done))))) | (refine LetV.pre ?_; first | refine LetV.mk (t := 3) _ hidv ?_ | refine LetV.mk (.sc (.int _ _)) rfl ?_ | refine LetV.mk (.slm _ _ _ _ _) rfl ?_) | (refine LetI.pre ?_; first | refine LetI.mk (o := some .sub) (j : Int) hsub ?_ | refine LetI.wrap (by omega) (by omega) ?_ | refine LetI.mk _ rfl ?_) | (refine LetB.pre ?_; first | refine LetB.dect (by omega) ?_ | refine LetB.decf (by omega) ?_) | (refine Gd.pre ?_; first | refine Gd.run rfl ?_) | (refine Br.pre ?_; first | refine Br.ff rfl ?_) | (refine Ck.pre ?_; first | refine Ck.drawn (by kernel_rfl) ?_ | refine Ck.mk rfl ?_) | (refine LetL.pre ?_; first | refine LetL.mk (ty := chty) _ (app_ch out c0 _ rfl) ?_ | (refine LetL.mk (ty := chty) _ (copyG chA c0 out (j + 1) _ _ _ _ ?_ ?_ ?_ ?_ hple) ?_; iterate 4 (· (first | (simp; done) | (simp; omega)))) | refine LetL.mk (ty := chty) _ (setG chA c0 out (j + 1) ⟨pr, e.version, b, e.on_⟩ hple) ?_)))); (try (conv => whnf)))






              refine LoopN.weak ?sw8 next
              case sw8 => exact SW.mk (fun _ => 2) rfl rfl (namesAll.row (pure_ch _) rfl) ⟨.refl _, .refl _, .refl _, .refl _, VLe2.slm_of (by first | (simp; done) | (simp; omega)), VLe2.int (by omega), trivial⟩ (haveV.row (pure_ch _) rfl trivial)
      have hld : en (A.getD k e0) = (A.map en).getD k (.sc undef) := mapD e0 hlt
      rw [foldl_drop _ hlt e0] at h2
      generalize A.getD k e0 = e at hld h2
      have next : ∀ (b' : Int) (s' : Bool), stepB st pr (b, s) e = (b', s') → LoopN Try.prog 0 Try.f44.ntmps _ (renS l A fl st pr a o (k + 1, b', s')) _ := fun b' s' hs' => ih (k + 1, b', s') ⟨by omega, by rw [← hs']; exact h2⟩ (by show A.length - (k + 1) < A.length - k; omega)
      clear ih
      by_cases q1 : e.student = st
      case neg =>
        ((repeat ((conv => whnf); (first | (refine LetN.pre ?_; first | ((conv => arg 1; whnf); refine LetN.mk ?_)) | (refine As.pre ?_; first | refine As.mk rfl ?_ | (refine As.mk ?_ ?_; · ((repeat' (refine andT ?_ ?_)) <;> (first | rfl | assumption | exact decide_eq_true (by omega) | exact decide_eq_true (by dsimp only; omega) | exact decide_eq_true (by simp; omega) | (simp; done))))) | (refine LetV.pre ?_; first | refine LetV.mk (t := 29) _ hld ?_ | refine LetV.mk (.sc (.int _ _)) rfl ?_ | refine LetV.mk (.agg _) rfl ?_) | (refine LetI.pre ?_; first | refine LetI.wrap (by omega) (by omega) ?_ | refine LetI.mk _ rfl ?_) | (refine LetB.pre ?_; first | refine LetB.dect (by omega) ?_ | refine LetB.decf (by omega) ?_) | (refine Gd.pre ?_; first | refine Gd.pass rfl ?_) | (refine Br.pre ?_; first | refine Br.tt rfl ?_ | refine Br.ff rfl ?_) | (refine Ck.pre ?_; first | refine Ck.mk rfl ?_) | (refine LetL.pre ?_; first | refine LetL.mk [_] rfl ?_)))); (try (conv => whnf)))
        refine LoopN.weak ?swa (next b s (if_neg fun h => q1 h.1.1))
        case swa => exact SW.fr0 (Nat.zero_le _) rfl ⟨.refl _, .refl _, .refl _, .refl _, .refl _, .refl _, .refl _, .refl _, VLe2.int (by omega), trivial⟩
      by_cases q2 : e.programme = pr
      case neg =>
        ((repeat ((conv => whnf); (first | (refine LetN.pre ?_; first | ((conv => arg 1; whnf); refine LetN.mk ?_)) | (refine As.pre ?_; first | refine As.mk rfl ?_ | (refine As.mk ?_ ?_; · ((repeat' (refine andT ?_ ?_)) <;> (first | rfl | assumption | exact decide_eq_true (by omega) | exact decide_eq_true (by dsimp only; omega) | exact decide_eq_true (by simp; omega) | (simp; done))))) | (refine LetV.pre ?_; first | refine LetV.mk (t := 29) _ hld ?_ | refine LetV.mk (.sc (.int _ _)) rfl ?_ | refine LetV.mk (.agg _) rfl ?_) | (refine LetI.pre ?_; first | refine LetI.wrap (by omega) (by omega) ?_ | refine LetI.mk _ rfl ?_) | (refine LetB.pre ?_; first | refine LetB.dect (by omega) ?_ | refine LetB.decf (by omega) ?_) | (refine Gd.pre ?_; first | refine Gd.run rfl ?_ | refine Gd.pass rfl ?_) | (refine Br.pre ?_; first | refine Br.tt rfl ?_ | refine Br.ff rfl ?_) | (refine Ck.pre ?_; first | refine Ck.mk rfl ?_) | (refine LetL.pre ?_; first | refine LetL.mk [_] rfl ?_)))); (try (conv => whnf)))
        refine LoopN.weak ?swb (next b s (if_neg fun h => q2 h.1.2))
        case swb => exact SW.fr0 (Nat.zero_le _) rfl ⟨.refl _, .refl _, .refl _, .refl _, .refl _, .refl _, .refl _, .refl _, VLe2.int (by omega), trivial⟩
      cases s with
      | false =>
        ((repeat ((conv => whnf); (first | (refine LetN.pre ?_; first | ((conv => arg 1; whnf); refine LetN.mk ?_)) | (refine As.pre ?_; first | refine As.mk rfl ?_ | (refine As.mk ?_ ?_; · ((repeat' (refine andT ?_ ?_)) <;> (first | rfl | assumption | exact decide_eq_true (by omega) | exact decide_eq_true (by dsimp only; omega) | exact decide_eq_true (by simp; omega) | (simp; done))))) | (refine LetV.pre ?_; first | refine LetV.mk (t := 29) _ hld ?_ | refine LetV.mk (.sc (.int _ _)) rfl ?_ | refine LetV.mk (.agg _) rfl ?_) | (refine LetI.pre ?_; first | refine LetI.wrap (by omega) (by omega) ?_ | refine LetI.mk _ rfl ?_) | (refine LetB.pre ?_; first | refine LetB.dect (by omega) ?_) | (refine Gd.pre ?_; first | refine Gd.run rfl ?_ | refine Gd.pass rfl ?_) | (refine Br.pre ?_; first | refine Br.tt rfl ?_) | (refine Ck.pre ?_; first | refine Ck.mk rfl ?_) | (refine LetL.pre ?_; first | refine LetL.mk [_] rfl ?_)))); (try (conv => whnf)))
        refine LoopN.weak ?swc (next e.on_ true (if_pos ⟨⟨q1, q2⟩, .inl rfl⟩))
        case swc => exact SW.fr0 (Nat.zero_le _) rfl ⟨.refl _, .refl _, .refl _, .refl _, .refl _, .refl _, .refl _, .refl _, VLe2.int (by omega), trivial⟩
      | true =>
        by_cases q3 : e.on_ < b
        · ((repeat ((conv => whnf); (first | (refine LetN.pre ?_; first | ((conv => arg 1; whnf); refine LetN.mk ?_)) | (refine As.pre ?_; first | refine As.mk rfl ?_ | (refine As.mk ?_ ?_; · ((repeat' (refine andT ?_ ?_)) <;> (first | rfl | assumption | exact decide_eq_true (by omega) | exact decide_eq_true (by dsimp only; omega) | exact decide_eq_true (by simp; omega) | (simp; done))))) | (refine LetV.pre ?_; first | refine LetV.mk (t := 29) _ hld ?_ | refine LetV.mk (.sc (.int _ _)) rfl ?_ | refine LetV.mk (.agg _) rfl ?_) | (refine LetI.pre ?_; first | refine LetI.wrap (by omega) (by omega) ?_ | refine LetI.mk _ rfl ?_) | (refine LetB.pre ?_; first | refine LetB.dect (by omega) ?_) | (refine Gd.pre ?_; first | refine Gd.run rfl ?_) | (refine Br.pre ?_; first | refine Br.tt rfl ?_) | (refine Ck.pre ?_; first | refine Ck.mk rfl ?_) | (refine LetL.pre ?_; first | refine LetL.mk [_] rfl ?_)))); (try (conv => whnf)))
          refine LoopN.weak ?swd (next e.on_ true (if_pos ⟨⟨q1, q2⟩, .inr q3⟩))
          case swd => exact SW.fr0 (Nat.zero_le _) rfl ⟨.refl _, .refl _, .refl _, .refl _, .refl _, .refl _, .refl _, .refl _, VLe2.int (by omega), trivial⟩
        · ((repeat ((conv => whnf); (first | (refine LetN.pre ?_; first | ((conv => arg 1; whnf); refine LetN.mk ?_)) | (refine As.pre ?_; first | refine As.mk rfl ?_ | (refine As.mk ?_ ?_; · ((repeat' (refine andT ?_ ?_)) <;> (first | rfl | assumption | exact decide_eq_true (by omega) | exact decide_eq_true (by dsimp only; omega) | exact decide_eq_true (by simp; omega) | (simp; done))))) | (refine LetV.pre ?_; first | refine LetV.mk (t := 29) _ hld ?_ | refine LetV.mk (.sc (.int _ _)) rfl ?_ | refine LetV.mk (.agg _) rfl ?_) | (refine LetI.pre ?_; first | refine LetI.wrap (by omega) (by omega) ?_ | refine LetI.mk _ rfl ?_) | (refine LetB.pre ?_; first | refine LetB.dect (by omega) ?_ | refine LetB.decf (by omega) ?_) | (refine Gd.pre ?_; first | refine Gd.run rfl ?_) | (refine Br.pre ?_; first | refine Br.tt rfl ?_ | refine Br.ff rfl ?_) | (refine Ck.pre ?_; first | refine Ck.mk rfl ?_) | (refine LetL.pre ?_; first | refine LetL.mk [_] rfl ?_)))); (try (conv => whnf)))
          refine LoopN.weak ?swe (next b true (if_neg fun h => by rcases h.2 with h | h; exact absurd h (by simp); exact q3 h))
          case swe => exact SW.fr0 (Nat.zero_le _) rfl ⟨.refl _, .refl _, .refl _, .refl _, .refl _, .refl _, .refl _, .refl _, VLe2.int (by omega), trivial⟩
    have k := AFun.frz [0] key (by simp only [rowsOk, List.all_cons, List.all_nil, AH.get, if_true, pure_ch]; rfl) rfl (by simp [AV.frzOk, AV.frzOkL, AH.get])
    generalize (C.filter (enQ st pr)).foldl (fun out e => insCh out ⟨pr, e.version, X.1, e.on_⟩) [] = R at k ⊢
    have e1 : List.take R.length (List.map chA R) = List.map chA R := List.take_of_length_le (by simp)
    simp [AV.frz, AV.frzL, AH.get, AH.frz, e1] at k
    exact k
end En
end Go.Proofs.Ytjnohedknlibmaa
namespace Go.Proofs.Ytjnohedknlibmaa
open Go.Proofs.Ytjnohedknlibmaa.Am
namespace En
/-- What == says of two entries. -/
def enB (a b : E) : Bool := (a.id == b.id) && ((a.school == b.school) && ((a.student == b.student) && ((a.kind == b.kind) && ((a.day == b.day) && ((a.on_ == b.on_) && ((a.course.toList == b.course.toList) && ((a.credits == b.credits) && ((a.grade == b.grade) && ((a.ref == b.ref) && ((a.frm == b.frm) && ((a.programme == b.programme) && ((a.version == b.version) && ((a.key == b.key) && ((a.mark.toList == b.mark.toList) && true))))))))))))))
def stB (a b : St) : Bool := (a.entry == b.entry) && ((a.by_ == b.by_) && ((a.grade == b.grade) && ((a.void == b.void) && true)))
def chB (a b : Ch) : Bool := (a.pr == b.pr) && ((a.ver == b.ver) && ((a.beg == b.beg) && ((a.on_ == b.on_) && true)))
theorem enB_self (a : E) : enB a a = true := by simp [enB]
theorem stB_self (a : St) : stB a a = true := by simp [stB]
theorem chB_self (a : Ch) : chB a a = true := by simp [chB]
def s0 : St := ⟨0, 0, 0, false⟩
theorem Same_f (l : List St) (f1 f2 : Fl) (hl : l.length ≤ 100000) : AFun Try.prog 12 0 [.ro f1 4 (l.map stA), .ro f2 4 (l.map stA)] [] (bool true) [] := by
  refine AFun.of_W T_ok mixed Try.func12 rfl (Nat.le_of_ble_eq_true rfl) rfl ?_
  have hm : (l.map stA).length = l.length := List.length_map _
  ((repeat ((conv => whnf); (first | (refine As.pre ?_; first | refine As.mk rfl ?_) | (refine LetI.pre ?_; first | refine LetI.mk _ rfl ?_) | (refine LetB.pre ?_; first | refine LetB.bnef (by omega) ?_) | (refine Br.pre ?_; first | refine Br.ff rfl ?_) | (refine Ck.pre ?_; first | refine Ck.mk rfl ?_)))); (try (conv => whnf)))
  refine LoopN.weak (s1 := ⟨[(0, .ro f1 4 (l.map stA)), (1, .ro f2 4 (l.map stA)), (5, int (0 : Nat))], [], 0⟩) (SW.fr0 (Nat.le_refl _) rfl ⟨.refl _, .refl _, .refl _, trivial⟩) ?_
  refine LoopN.ind T_ok mixed (S := fun k : Nat => ⟨[(0, .ro f1 4 (l.map stA)), (1, .ro f2 4 (l.map stA)), (5, int k)], [], 0⟩) (fun k => l.length - k) (fun k => k ≤ l.length) (fun _ => rfl) (fun k hk ih => ?_) 0 (Nat.zero_le _)
  by_cases hlt : k < l.length
  case neg =>
    clear ih
    ((repeat ((conv => whnf); (first | (refine As.pre ?_; first | refine As.mk rfl ?_) | (refine LetI.pre ?_; first | refine LetI.mk _ rfl ?_) | (refine LetB.pre ?_; first | refine LetB.decf (by omega) ?_) | (refine Br.pre ?_; first | refine Br.ff rfl ?_) | (refine Ck.pre ?_; first | refine Ck.mk rfl ?_)))); (try (conv => whnf)))
    exact ⟨.inl rfl, ⟨_, rfl, rfl⟩, trivial⟩
  have hld : stA (l.getD k s0) = (l.map stA).getD k (.sc undef) := mapD s0 hlt
  generalize l.getD k s0 = e at hld
  have he : (!stB e e) = false := by rw [stB_self]; rfl
  ((repeat ((conv => whnf); (first | (refine As.pre ?_; first | refine As.mk rfl ?_ | (refine As.mk ?_ ?_; · ((repeat' (refine andT ?_ ?_)) <;> (first | rfl | assumption | exact decide_eq_true (by omega) | exact decide_eq_true (by dsimp only; omega) | exact decide_eq_true (by simp; omega) | (simp; done))))) | (refine LetV.pre ?_; first | refine LetV.mk (t := 34) _ hld ?_ | refine LetV.mk (.agg _) rfl ?_) | (refine LetI.pre ?_; first | refine LetI.wrap (by omega) (by omega) ?_ | refine LetI.mk _ rfl ?_) | (refine LetB.pre ?_; first | refine LetB.ff (by assumption) ?_ | refine LetB.dect (by omega) ?_) | (refine Br.pre ?_; first | refine Br.tt rfl ?_ | refine Br.ff rfl ?_) | (refine Ck.pre ?_; first | refine Ck.drawn (by kernel_rfl) ?_ | refine Ck.mk rfl ?_)))); (try (conv => whnf)))
  refine LoopN.weak ?_ (ih (k + 1) (by omega) (by omega))
  exact SW.fr0 (Nat.le_refl _) rfl ⟨.refl _, .refl _, VLe2.int (by omega), trivial⟩
theorem SameEntries_f (l : List E) (f1 f2 : Fl) (hl : l.length ≤ 100000) : AFun Try.prog 22 0 [.ro f1 15 (l.map en), .ro f2 15 (l.map en)] [] (bool true) [] := by
  refine AFun.of_W T_ok mixed Try.func22 rfl (Nat.le_of_ble_eq_true rfl) rfl ?_
  have hm : (l.map en).length = l.length := List.length_map _
  ((repeat ((conv => whnf); (first | (refine As.pre ?_; first | refine As.mk rfl ?_) | (refine LetI.pre ?_; first | refine LetI.mk _ rfl ?_) | (refine LetB.pre ?_; first | refine LetB.bnef (by omega) ?_) | (refine Br.pre ?_; first | refine Br.ff rfl ?_) | (refine Ck.pre ?_; first | refine Ck.mk rfl ?_)))); (try (conv => whnf)))
  refine LoopN.weak (s1 := ⟨[(0, .ro f1 15 (l.map en)), (1, .ro f2 15 (l.map en)), (5, int (0 : Nat))], [], 0⟩) (SW.fr0 (Nat.le_refl _) rfl ⟨.refl _, .refl _, .refl _, trivial⟩) ?_
  refine LoopN.ind T_ok mixed (S := fun k : Nat => ⟨[(0, .ro f1 15 (l.map en)), (1, .ro f2 15 (l.map en)), (5, int k)], [], 0⟩) (fun k => l.length - k) (fun k => k ≤ l.length) (fun _ => rfl) (fun k hk ih => ?_) 0 (Nat.zero_le _)
  by_cases hlt : k < l.length
  case neg =>
    clear ih
    ((repeat ((conv => whnf); (first | (refine As.pre ?_; first | refine As.mk rfl ?_) | (refine LetI.pre ?_; first | refine LetI.mk _ rfl ?_) | (refine LetB.pre ?_; first | refine LetB.decf (by omega) ?_) | (refine Br.pre ?_; first | refine Br.ff rfl ?_) | (refine Ck.pre ?_; first | refine Ck.mk rfl ?_)))); (try (conv => whnf)))
    exact ⟨.inl rfl, ⟨_, rfl, rfl⟩, trivial⟩
  have hld : en (l.getD k e0) = (l.map en).getD k (.sc undef) := mapD e0 hlt
  generalize l.getD k e0 = e at hld
  have he : (!enB e e) = false := by rw [enB_self]; rfl
  ((repeat ((conv => whnf); (first | (refine As.pre ?_; first | refine As.mk rfl ?_ | (refine As.mk ?_ ?_; · ((repeat' (refine andT ?_ ?_)) <;> (first | rfl | assumption | exact decide_eq_true (by omega) | exact decide_eq_true (by dsimp only; omega) | exact decide_eq_true (by simp; omega) | (simp; done))))) | (refine LetV.pre ?_; first | refine LetV.mk (t := 29) _ hld ?_ | refine LetV.mk (.agg _) rfl ?_) | (refine LetI.pre ?_; first | refine LetI.wrap (by omega) (by omega) ?_ | refine LetI.mk _ rfl ?_) | (refine LetB.pre ?_; first | refine LetB.ff (by assumption) ?_ | refine LetB.dect (by omega) ?_) | (refine Br.pre ?_; first | refine Br.tt rfl ?_ | refine Br.ff rfl ?_) | (refine Ck.pre ?_; first | refine Ck.drawn (by kernel_rfl) ?_ | refine Ck.mk rfl ?_)))); (try (conv => whnf)))
  refine LoopN.weak ?_ (ih (k + 1) (by omega) (by omega))
  exact SW.fr0 (Nat.le_refl _) rfl ⟨.refl _, .refl _, VLe2.int (by omega), trivial⟩
end En
end Go.Proofs.Ytjnohedknlibmaa
namespace Go.Proofs.Ytjnohedknlibmaa
open Go.Proofs.Ytjnohedknlibmaa.Am
namespace En
/-- A rune that no code has. -/
def wrongR (c : Nat) : Bool := decide ((c < 65 ∨ 90 < c) ∧ (c < 48 ∨ 57 < c))
theorem wrong_calls (w : World) : Go.Proofs.PredAt Try.prog 84 #[] Go.Proofs.encR wrongR w := by
  intro W x _
  show Calls Try.prog 84 #[.int .i32 (x : Int)] W _
  unfold wrongR
  go_enter Try.func84, Try.ntmps84
  go_wp2
  all_goals
    go_ret
    refine ⟨?_, 0, rfl⟩
  all_goals
    refine congrArg (fun b => Ending.returned (.bool b)) (Bool.eq_iff_iff.2 ?_)
    simp only [Bool.and_eq_true, Bool.or_eq_true, decide_eq_true_eq, Bool.false_eq_true, false_iff, true_iff]
    try omega
def lays : Go.Shelf.Ren := ⟨fun n => match n with | 315 => 87 | n => n, fun t => match t with | 0 => 0 | 3 => 3 | 4 => 4 | 9 => 9 | 21 => 21 | 40 => 111 | t => t, fun g => g⟩
theorem lays_ok : Go.Proofs.Lays.n315 Try.prog lays where
  mixed := mixed
  f315 := by kernel_rfl
  t0 := by kernel_rfl
  a0 := fun w => TT.Ok.isAgg T_ok (t := 0) rfl w
  z0 := fun w => TT.Ok.sizeOf T_ok (t := 0) rfl w
  v0 := fun w => TT.Ok.zero T_ok (t := 0) rfl w
  t3 := by kernel_rfl
  a3 := fun w => TT.Ok.isAgg T_ok (t := 3) rfl w
  z3 := fun w => TT.Ok.sizeOf T_ok (t := 3) rfl w
  v3 := fun w => TT.Ok.zero T_ok (t := 3) rfl w
  t4 := by kernel_rfl
  a4 := fun w => TT.Ok.isAgg T_ok (t := 4) rfl w
  z4 := fun w => TT.Ok.sizeOf T_ok (t := 4) rfl w
  v4 := fun w => TT.Ok.zero T_ok (t := 4) rfl w
  t9 := by kernel_rfl
  a9 := fun w => TT.Ok.isAgg T_ok (t := 9) rfl w
  z9 := fun w => TT.Ok.sizeOf T_ok (t := 9) rfl w
  v9 := fun w => TT.Ok.zero T_ok (t := 9) rfl w
  t21 := by kernel_rfl
  a21 := fun w => TT.Ok.isAgg T_ok (t := 21) rfl w
  z21 := fun w => TT.Ok.sizeOf T_ok (t := 21) rfl w
  v21 := fun w => TT.Ok.zero T_ok (t := 21) rfl w
  t40 := by kernel_rfl
  a40 := fun w => TT.Ok.isAgg T_ok (t := 111) rfl w
  z40 := fun w => TT.Ok.sizeOf T_ok (t := 111) rfl w
  v40 := fun w => TT.Ok.zero T_ok (t := 111) rfl w
theorem indexFunc_f (s : ByteArray) : AFun Try.prog 87 0 [str s, .clo 84 [], bool true] [] (int (Go.Lib.idxFunc wrongR true s)) [] := by
  intro w g xs hl hx hH _
  obtain ⟨a, b, c, rfl⟩ : ∃ a b c, xs = #[a, b, c] := by
    rcases xs with ⟨l⟩
    rcases l with _ | ⟨a, _ | ⟨b, _ | ⟨c, _ | ⟨d, l⟩⟩⟩⟩
    all_goals simp at hl
    exact ⟨a, b, c, rfl⟩
  have h0 := (hx 0 _ a rfl rfl).sc_inv
  have h1 := hx 1 _ b rfl rfl
  have h2 := (hx 2 _ c rfl rfl).sc_inv
  subst h0 h2
  cases h1 with
  | clo hk hc hv =>
    rename_i fs xs
    have e1 : fs = #[] := Array.eq_empty_of_size_eq_zero hk
    subst e1
    simp at hc
    have e2 : xs = #[] := Array.eq_empty_of_size_eq_zero hc.symm
    subst e2
    have := Go.Proofs.Any.strings_indexFunc lays_ok 84 #[] (fun args w => callFunc_run (by kernel_rfl) args w) wrongR true s w (wrong_calls w)
    refine this.mono fun e w' ⟨he, hb⟩ => ⟨_, g, he, ?_, .sc _ rfl, ?_⟩
    · exact ⟨fun _ _ => rfl, fun b h => ⟨h, hb.block b (hH.lt b h)⟩, fun b cs ty fz h => ⟨cs, (hb.block b (heap_lt h)).trans h, rfl⟩, ⟨hb.os, hb.tape, hb.output, hb.size, fun b hlt _ => hb.block b hlt⟩, fun id B b E h => (by cases h), fun b h _ => .inl h⟩
    · exact ⟨fun id B h => (by cases h), fun i j b E E' A B h => (by cases h), fun i b E B h => (by cases h), fun b h => Nat.lt_of_lt_of_le (hH.lt b h) hb.size⟩
end En
end Go.Proofs.Ytjnohedknlibmaa
namespace Go.Proofs.Ytjnohedknlibmaa
open Go.Proofs.Ytjnohedknlibmaa.Am
namespace En
theorem decode_low {s : ByteArray} {i : Nat} (h : (s.get! i).toNat < 128) : Utf8.decode s i = ((s.get! i).toNat, 1) := by
  unfold Utf8.decode
  simp only [Nat.add_zero]
  rw [if_pos h]
theorem decode_high {s : ByteArray} {i : Nat} (h : 128 ≤ (s.get! i).toNat) : 128 ≤ (Utf8.decode s i).1 := by
  unfold Utf8.decode
  simp only [Nat.add_zero]
  rw [if_neg (by omega)]
  split
  · split
    · assumption
    · decide
  · split
    · split
      · rename_i h1
        simp only [Bool.and_eq_true, decide_eq_true_eq] at h1
        exact Nat.le_trans (by omega) h1.1
      · decide
    · split
      · split
        · rename_i h1
          simp only [Bool.and_eq_true, decide_eq_true_eq] at h1
          exact Nat.le_trans (by omega) h1.1
        · decide
      · decide
theorem wrong_high {c : Nat} (h : 128 ≤ c) : wrongR c = true := by
  unfold wrongR
  rw [decide_eq_true_eq]; omega
theorem idx_code (s : ByteArray) : ∀ (f pos : Nat), s.size ≤ pos + f → (Go.Lib.idxFuncFrom wrongR true s f pos < 0 ↔ ∀ i, pos ≤ i → i < s.size → wrongR (s.get! i).toNat = false)
  | 0, pos, h => by
    simp only [Go.Lib.idxFuncFrom]
    exact ⟨fun _ i h1 h2 => by omega, fun _ => by omega⟩
  | f + 1, pos, h => by
    unfold Go.Lib.idxFuncFrom
    split
    · rename_i hp
      by_cases hw : wrongR (s.get! pos).toNat = true
      · have : wrongR (Utf8.decode s pos).1 = true := by
          by_cases hl : (s.get! pos).toNat < 128
          · rw [decode_low hl]; exact hw
          · exact wrong_high (decode_high (by omega))
        rw [if_pos this]
        refine ⟨fun h => by omega, fun h => ?_⟩
        have := h pos (Nat.le_refl _) hp
        rw [hw] at this; cases this
      · have hl : (s.get! pos).toNat < 128 := by
          rcases Nat.lt_or_ge (s.get! pos).toNat 128 with h | h
          · exact h
          · exact absurd (wrong_high h) hw
        rw [decode_low hl]
        simp only
        rw [if_neg hw, idx_code s f (pos + 1) (by omega)]
        refine ⟨fun h i h1 h2 => ?_, fun h i h1 h2 => h i (by omega) h2⟩
        by_cases hi : i = pos
        · subst hi; simpa using hw
        · exact h i (by omega) h2
    · exact ⟨fun _ i h1 h2 => by omega, fun _ => by omega⟩
/-- The byte at i. -/
abbrev byt (s : ByteArray) (i : Nat) : Nat := (s.data.toList.getD i 0).toNat
theorem byt_eq (s : ByteArray) (i : Nat) : (s.get! i).toNat = byt s i := by
  obtain ⟨d⟩ := s
  show (d[i]!).toNat = (d.toList.getD i 0).toNat
  rw [List.getD_eq_getElem?_getD, Array.getElem?_toList, getElem!_def]
  cases d[i]? <;> rfl
/-- A string is a code. -/
def okCode (s : ByteArray) : Prop := (1 ≤ s.size ∧ s.size ≤ 8) ∧ ∀ i, i < s.size → wrongR (byt s i) = false
theorem nilStr (s : ByteArray) : (s.toList == (⟨#[]⟩ : ByteArray).toList) = decide (s.size = 0) := by
  rw [Bool.eq_iff_iff, beq_iff_eq, decide_eq_true_eq, ByteArray.toList_eq, ByteArray.toList_eq]
  show s.data.toList = [] ↔ s.data.size = 0
  rw [← Array.length_toList]
  exact List.length_eq_zero_iff.symm
theorem IndexFunc_f (s : ByteArray) : AFun Try.prog 85 0 [str s, .clo 84 []] [] (int (Go.Lib.idxFunc wrongR true s)) [] := by
  refine AFun.of_W T_ok mixed Try.func85 rfl (Nat.le_of_ble_eq_true rfl) rfl ?_
  ((repeat ((conv => whnf); (first | (refine As.pre ?_; first | refine As.mk rfl ?_) | (refine Ck.pre ?_; first | refine Ck.mk rfl ?_) | (refine CallN.pre ?_; first | refine CallN.pure (indexFunc_f s) rfl rfl ?_)))); (try (conv => whnf)))
  exact ⟨.inl rfl, ⟨_, rfl, rfl⟩, trivial⟩
open Classical in
theorem Code_f (s : ByteArray) : AFun Try.prog 74 0 [str s] [] (bool (decide (okCode s))) [] := by
  refine AFun.of_W T_ok mixed Try.func74 rfl (Nat.le_of_ble_eq_true rfl) rfl ?_
  have hi := IndexFunc_f s
  have hx := idx_code s s.size 0 (by omega)
  rw [show Go.Lib.idxFuncFrom wrongR true s s.size 0 = Go.Lib.idxFunc wrongR true s from rfl] at hx
  generalize Go.Lib.idxFunc wrongR true s = r at hi hx
  have hn := nilStr s
  by_cases h0 : s.size = 0
  · have hb : (!(s.toList == (⟨#[]⟩ : ByteArray).toList)) = false := by rw [hn, decide_eq_true h0]; rfl
    ((repeat ((conv => whnf); (first | (refine As.pre ?_; first | refine As.mk rfl ?_) | (refine LetB.pre ?_; first | refine LetB.ff (by assumption) ?_) | (refine Gd.pre ?_; first | refine Gd.pass rfl ?_) | (refine Ck.pre ?_; first | refine Ck.mk rfl ?_)))); (try (conv => whnf)))
    exact ⟨.inl rfl, ⟨_, rfl, congrArg bool (decide_eq_false fun h => by have := h.1.1; omega).symm⟩, trivial⟩
  · have hb : (!(s.toList == (⟨#[]⟩ : ByteArray).toList)) = true := by rw [hn, decide_eq_false h0]; rfl
    by_cases h8 : s.size ≤ 8
    · by_cases hr : r < 0
      · ((repeat ((conv => whnf); (first | (refine As.pre ?_; first | refine As.mk rfl ?_) | (refine LetI.pre ?_; first | refine LetI.mk _ rfl ?_) | (refine LetB.pre ?_; first | refine LetB.tt (by assumption) ?_ | refine LetB.dect (by omega) ?_) | (refine Gd.pre ?_; first | refine Gd.run rfl ?_) | (refine Ck.pre ?_; first | refine Ck.mk rfl ?_) | (refine CallN.pre ?_; first | refine CallN.pure hi rfl rfl ?_)))); (try (conv => whnf)))
        exact ⟨.inl rfl, ⟨_, rfl, congrArg bool (decide_eq_true ⟨⟨by omega, h8⟩, fun i h => by rw [← byt_eq]; exact hx.1 hr i (Nat.zero_le _) h⟩).symm⟩, trivial⟩
      · ((repeat ((conv => whnf); (first | (refine As.pre ?_; first | refine As.mk rfl ?_) | (refine LetI.pre ?_; first | refine LetI.mk _ rfl ?_) | (refine LetB.pre ?_; first | refine LetB.tt (by assumption) ?_ | refine LetB.dect (by omega) ?_ | refine LetB.decf (by omega) ?_) | (refine Gd.pre ?_; first | refine Gd.run rfl ?_) | (refine Ck.pre ?_; first | refine Ck.mk rfl ?_) | (refine CallN.pre ?_; first | refine CallN.pure hi rfl rfl ?_)))); (try (conv => whnf)))
        exact ⟨.inl rfl, ⟨_, rfl, congrArg bool (decide_eq_false fun h => hr (hx.2 fun i _ hi => by rw [byt_eq]; exact h.2 i hi)).symm⟩, trivial⟩
    · ((repeat ((conv => whnf); (first | (refine As.pre ?_; first | refine As.mk rfl ?_) | (refine LetI.pre ?_; first | refine LetI.mk _ rfl ?_) | (refine LetB.pre ?_; first | refine LetB.tt (by assumption) ?_ | refine LetB.decf (by omega) ?_) | (refine Gd.pre ?_; first | refine Gd.run rfl ?_ | refine Gd.pass rfl ?_) | (refine Ck.pre ?_; first | refine Ck.mk rfl ?_)))); (try (conv => whnf)))
      exact ⟨.inl rfl, ⟨_, rfl, congrArg bool (decide_eq_false fun h => h8 h.1.2).symm⟩, trivial⟩
open Classical in
theorem rCode_f (s : ByteArray) (hs : s.size ≤ 9223372036854775806) : AFun Try.prog 64 0 [str s] [] (bool (decide (okCode s))) [] := by
  refine AFun.of_W T_ok mixed Try.func64 rfl (Nat.le_of_ble_eq_true rfl) rfl ?_
  ((repeat ((conv => whnf); (first | (refine As.pre ?_; first | refine As.mk rfl ?_) | (refine Ck.pre ?_; first | refine Ck.mk rfl ?_)))); (try (conv => whnf)))
  refine LoopN.weak (s1 := ⟨[(0, str s), (3, int (0 : Nat))], [], 0⟩) (SW.fr0 (Nat.le_refl _) rfl ⟨.refl _, .refl _, trivial⟩) ?_
  refine LoopN.ind T_ok mixed (S := fun k : Nat => ⟨[(0, str s), (3, int k)], [], 0⟩) (fun k => s.size - k) (fun k => k ≤ s.size ∧ ∀ i, i < k → wrongR (byt s i) = false) (fun _ => rfl) (fun k hk ih => ?_) 0 ⟨Nat.zero_le _, fun i h => absurd h (by omega)⟩
  obtain ⟨h1, h2⟩ := hk
  by_cases hlt : k < s.size
  case neg =>
    have hk : k = s.size := by omega
    subst hk
    clear ih
    have e : okCode s ↔ (1 ≤ s.size ∧ s.size ≤ 8) := ⟨fun h => h.1, fun h => ⟨h, h2⟩⟩
    by_cases a1 : 1 ≤ s.size
    · by_cases a2 : s.size ≤ 8
      · ((repeat ((conv => whnf); (first | (refine As.pre ?_; first | refine As.mk rfl ?_) | (refine LetI.pre ?_; first | refine LetI.mk _ rfl ?_) | (refine LetB.pre ?_; first | refine LetB.dect (by omega) ?_ | refine LetB.decf (by omega) ?_) | (refine Gd.pre ?_; first | refine Gd.run rfl ?_) | (refine Br.pre ?_; first | refine Br.ff rfl ?_) | (refine Ck.pre ?_; first | refine Ck.mk rfl ?_)))); (try (conv => whnf)))
        exact ⟨.inl rfl, ⟨_, rfl, congrArg bool (decide_eq_true (e.2 ⟨a1, a2⟩)).symm⟩, trivial⟩
      · ((repeat ((conv => whnf); (first | (refine As.pre ?_; first | refine As.mk rfl ?_) | (refine LetI.pre ?_; first | refine LetI.mk _ rfl ?_) | (refine LetB.pre ?_; first | refine LetB.dect (by omega) ?_ | refine LetB.decf (by omega) ?_) | (refine Gd.pre ?_; first | refine Gd.run rfl ?_) | (refine Br.pre ?_; first | refine Br.ff rfl ?_) | (refine Ck.pre ?_; first | refine Ck.mk rfl ?_)))); (try (conv => whnf)))
        exact ⟨.inl rfl, ⟨_, rfl, congrArg bool (decide_eq_false fun h => a2 (e.1 h).2).symm⟩, trivial⟩
    · ((repeat ((conv => whnf); (first | (refine As.pre ?_; first | refine As.mk rfl ?_) | (refine LetI.pre ?_; first | refine LetI.mk _ rfl ?_) | (refine LetB.pre ?_; first | refine LetB.decf (by omega) ?_) | (refine Gd.pre ?_; first | refine Gd.pass rfl ?_) | (refine Br.pre ?_; first | refine Br.ff rfl ?_) | (refine Ck.pre ?_; first | refine Ck.mk rfl ?_)))); (try (conv => whnf)))
      exact ⟨.inl rfl, ⟨_, rfl, congrArg bool (decide_eq_false fun h => a1 (e.1 h).1).symm⟩, trivial⟩
  have hbb : (byt s k : Int) = ((s.data.toList.getD (k : Int).toNat 0).toNat : Int) := rfl
  have hb2 : byt s k < 256 := UInt8.toNat_lt _
  generalize hb : byt s k = b at hbb hb2
  by_cases hw : wrongR b = true
  · have hno : ¬ okCode s := fun h => by have := h.2 k hlt; rw [hb, hw] at this; cases this
    rw [decide_eq_false hno]
    clear ih
    have hw2 : (b < 65 ∨ 90 < b) ∧ (b < 48 ∨ 57 < b) := of_decide_eq_true hw
    repeat' ((conv => whnf); (first | (refine As.pre ?_; first | refine As.mk rfl ?_ | (refine As.mk ?_ ?_; · ((repeat' (refine andT ?_ ?_)) <;> (first | rfl | assumption | exact decide_eq_true (by omega) | exact decide_eq_true (by dsimp only; omega) | exact decide_eq_true (by simp; omega) | (simp; done))))) | (refine LetV.pre ?_; first | refine LetV.mk (t := 9) (.sc (.int .u8 (b : Int))) (congrArg (fun x : Int => AV.sc (.int .u8 x)) hbb) ?_) | (refine LetI.pre ?_; first | refine LetI.mk _ rfl ?_) | (refine LetB.pre ?_; first | refine LetB.dect (by omega) ?_ | refine LetB.decf (by omega) ?_ | (refine LetB.dec (fun _ => ?_) (fun _ => ?_))) | (refine Gd.pre ?_; first | refine Gd.run rfl ?_ | refine Gd.pass rfl ?_) | (refine Br.pre ?_; first | refine Br.tt rfl ?_) | (refine Ck.pre ?_; first | refine Ck.mk rfl ?_)))
    all_goals first
      | exact ⟨.inl rfl, ⟨_, rfl, rfl⟩, trivial⟩
      | (exfalso; omega)
  · have hw3 : wrongR b = false := by simpa using hw
    have hw2 : ¬ ((b < 65 ∨ 90 < b) ∧ (b < 48 ∨ 57 < b)) := of_decide_eq_false hw3
    have next := ih (k + 1) ⟨by omega, fun i hi => by
      by_cases hik : i = k
      · rw [hik, hb]; exact hw3
      · exact h2 i (by omega)⟩ (by omega)
    clear ih
    repeat' ((conv => whnf); (first | (refine As.pre ?_; first | refine As.mk rfl ?_ | (refine As.mk ?_ ?_; · ((repeat' (refine andT ?_ ?_)) <;> (first | rfl | assumption | exact decide_eq_true (by omega) | exact decide_eq_true (by dsimp only; omega) | exact decide_eq_true (by simp; omega) | (simp; done))))) | (refine LetV.pre ?_; first | refine LetV.mk (t := 9) (.sc (.int .u8 (b : Int))) (congrArg (fun x : Int => AV.sc (.int .u8 x)) hbb) ?_) | (refine LetI.pre ?_; first | refine LetI.wrap (by omega) (by omega) ?_ | refine LetI.mk _ rfl ?_) | (refine LetB.pre ?_; first | refine LetB.dect (by omega) ?_ | refine LetB.decf (by omega) ?_ | (refine LetB.dec (fun _ => ?_) (fun _ => ?_))) | (refine Gd.pre ?_; first | refine Gd.run rfl ?_ | refine Gd.pass rfl ?_) | (refine Br.pre ?_; first | refine Br.tt rfl ?_ | refine Br.ff rfl ?_) | (refine Ck.pre ?_; first | refine Ck.mk rfl ?_)))
    all_goals first
      | (refine LoopN.weak ?_ next; exact SW.fr0 (Nat.le_refl _) rfl ⟨.refl _, VLe2.int (by omega), trivial⟩)
      | (exfalso; omega)
end En
end Go.Proofs.Ytjnohedknlibmaa
namespace Go.Proofs.Ytjnohedknlibmaa
open Go.Proofs.Ytjnohedknlibmaa.Am
namespace En
open Classical
theorem beyond_f (n a b : Int) : AFun Try.prog 70 0 [int n, int a, int b] [] (bool (decide (n < a ∨ b < n))) [] := by
  refine AFun.of_W T_ok mixed Try.func70 rfl (Nat.le_of_ble_eq_true rfl) rfl ?_
  repeat' ((conv => whnf); (first | (refine As.pre ?_; first | refine As.mk rfl ?_) | (refine LetB.pre ?_; first | (refine LetB.dec (fun _ => ?_) (fun _ => ?_))) | (refine Gd.pre ?_; first | refine Gd.run rfl ?_ | refine Gd.pass rfl ?_) | (refine Ck.pre ?_; first | refine Ck.mk rfl ?_)))
  all_goals (refine ⟨by first | exact .inl rfl | exact .inr rfl, ⟨_, rfl, congrArg (fun b => Go.Proofs.Ytjnohedknlibmaa.Am.AV.sc (Go.Value.bool b)) (by first | exact (decide_eq_true (by omega)).symm | exact (decide_eq_false (by omega)).symm | exact Bool.eq_iff_iff.2 (by simp only [decide_eq_true_eq, decide_eq_false_iff_not]; omega) | rfl)⟩, trivial⟩)
def hasK (k : Int) : Int := if k = 1 ∨ k = 8 then 32 else if k = 2 then 96 else if k = 3 then 7 else if k = 4 then 12 else if k = 5 ∨ k = 6 ∨ k = 9 then 8 else if k = 7 then 16 else 0
theorem has_f (k : Int) : AFun Try.prog 72 0 [int k] [] (int (hasK k)) [] := by
  refine AFun.of_W T_ok mixed Try.func72 rfl (Nat.le_of_ble_eq_true rfl) rfl ?_
  unfold hasK
  repeat' ((conv => whnf); (first | (refine As.pre ?_; first | refine As.mk rfl ?_) | (refine LetB.pre ?_; first | (refine LetB.dec (fun _ => ?_) (fun _ => ?_))) | (refine Br.pre ?_; first | refine Br.tt rfl ?_ | refine Br.ff rfl ?_) | (refine Ck.pre ?_; first | refine Ck.mk rfl ?_)))
  all_goals
    refine ⟨.inl rfl, ⟨_, rfl, congrArg int ?_⟩, trivial⟩
    repeat' split
    all_goals first | rfl | (exfalso; omega)
def orB (acc : Int) (k : Nat) (b : Bool) : Int := bif b then IntKind.i64.wrap ((BitVec.ofInt 64 acc) ||| (BitVec.ofInt 64 (IntKind.i64.wrap (1 * 2 ^ (min (k : Int).toNat 64))))).toNat else acc
def fillA : List Bool → Nat → Int → Int
  | [], _, acc => acc
  | b :: l, k, acc => fillA l (k + 1) (orB acc k b)
def fillB (e : E) : List Bool := [!(e.course.toList == (⟨#[]⟩ : ByteArray).toList), e.credits != 0, e.grade != 0, e.ref != 0, e.frm != 0, e.programme != 0, e.version != 0]
theorem fill_drop {l : List Bool} {k : Nat} (h : k < l.length) (acc : Int) : fillA (l.drop k) k acc = fillA (l.drop (k + 1)) (k + 1) (orB acc k (l.getD k false)) := by
  rw [List.drop_eq_getElem_cons h, List.getD_eq_getElem?_getD, List.getElem?_eq_getElem h]; rfl
theorem filled_f (e : E) : AFun Try.prog 71 0 [en e] [] (int (fillA (fillB e) 0 0)) [] := by
  refine AFun.of_W T_ok mixed Try.func71 rfl (Nat.le_of_ble_eq_true rfl) rfl ?_
  ((repeat ((conv => whnf); (first | (refine LetN.pre ?_; first | ((conv => arg 1; whnf); refine LetN.mk ?_)) | (refine As.pre ?_; first | refine As.mk rfl ?_) | (refine LetV.pre ?_; first | refine LetV.mk (.sc (.int _ _)) rfl ?_ | refine LetV.mk (.sc _) rfl ?_) | (refine LetI.pre ?_; first | refine LetI.mk _ rfl ?_) | (refine LetB.pre ?_; first | refine LetB.mk _ rfl ?_) | (refine Ck.pre ?_; first | refine Ck.mk rfl ?_)))); (try (conv => whnf)))
  have hlen : (fillB e).length = 7 := rfl
  refine LoopN.weak (s1 := ⟨[(3, int 0), (27, .ro {} 1 ((fillB e).map bool)), (28, int (fillB e).length), (29, int (0 : Nat))], [], 1⟩) (SW.mk id rfl rfl rfl ⟨.refl _, VLe2.ro_of rfl, .refl _, .refl _, trivial⟩ trivial) ?_
  generalize fillB e = bs at hlen ⊢
  generalize hR : fillA bs 0 0 = R
  refine LoopN.ind T_ok mixed (S := fun i : Nat × Int => ⟨[(3, int i.2), (27, .ro {} 1 (bs.map bool)), (28, int bs.length), (29, int i.1)], [], 1⟩) (fun i => bs.length - i.1) (fun i => i.1 ≤ bs.length ∧ R = fillA (bs.drop i.1) i.1 i.2) (fun _ => rfl) (fun i hi ih => ?_) (0, 0) ⟨Nat.zero_le _, hR.symm⟩
  obtain ⟨k, acc⟩ := i
  obtain ⟨h1, h2⟩ := hi
  simp only at h1 h2 ih ⊢
  have hm : (bs.map bool).length = bs.length := List.length_map _
  by_cases hlt : k < bs.length
  case neg =>
    rw [List.drop_eq_nil_of_le (by omega)] at h2
    rw [h2]
    clear ih
    ((repeat ((conv => whnf); (first | (refine As.pre ?_; first | refine As.mk rfl ?_) | (refine LetB.pre ?_; first | refine LetB.decf (by omega) ?_) | (refine Br.pre ?_; first | refine Br.ff rfl ?_) | (refine Ck.pre ?_; first | refine Ck.mk rfl ?_)))); (try (conv => whnf)))
    exact ⟨.inl rfl, ⟨_, rfl, rfl⟩, trivial⟩
  have hld : bool (bs.getD k false) = (bs.map bool).getD k (.sc undef) := mapD false hlt
  rw [fill_drop hlt] at h2
  generalize bs.getD k false = b at hld h2
  have next := ih (k + 1, orB acc k b) ⟨by omega, h2⟩ (by show bs.length - (k + 1) < bs.length - k; omega)
  clear ih
  cases b with
  | true =>
    ((repeat ((conv => whnf); (first | (refine As.pre ?_; first | refine As.mk rfl ?_ | (refine As.mk ?_ ?_; · ((repeat' (refine andT ?_ ?_)) <;> (first | rfl | assumption | exact decide_eq_true (by omega) | exact decide_eq_true (by dsimp only; omega) | exact decide_eq_true (by simp; omega) | (simp; done))))) | (refine LetV.pre ?_; first | refine LetV.mk (t := 110) _ hld ?_ | refine LetV.mk (.sc (.bool _)) rfl ?_) | (refine LetI.pre ?_; first | refine LetI.wrap (by omega) (by omega) ?_ | refine LetI.mk _ rfl ?_) | (refine LetB.pre ?_; first | refine LetB.dect (by omega) ?_) | (refine Br.pre ?_; first | refine Br.tt rfl ?_) | (refine Ck.pre ?_; first | refine Ck.mk rfl ?_)))); (try (conv => whnf)))
    refine LoopN.weak ?_ next
    exact SW.mk id rfl rfl rfl ⟨.refl _, .refl _, .refl _, VLe2.int (by omega), trivial⟩ trivial
  | false =>
    ((repeat ((conv => whnf); (first | (refine As.pre ?_; first | refine As.mk rfl ?_ | (refine As.mk ?_ ?_; · ((repeat' (refine andT ?_ ?_)) <;> (first | rfl | assumption | exact decide_eq_true (by omega) | exact decide_eq_true (by dsimp only; omega) | exact decide_eq_true (by simp; omega) | (simp; done))))) | (refine LetV.pre ?_; first | refine LetV.mk (t := 110) _ hld ?_ | refine LetV.mk (.sc (.bool _)) rfl ?_) | (refine LetI.pre ?_; first | refine LetI.wrap (by omega) (by omega) ?_) | (refine LetB.pre ?_; first | refine LetB.dect (by omega) ?_) | (refine Br.pre ?_; first | refine Br.tt rfl ?_ | refine Br.ff rfl ?_) | (refine Ck.pre ?_; first | refine Ck.mk rfl ?_)))); (try (conv => whnf)))
    refine LoopN.weak ?_ next
    exact SW.mk id rfl rfl rfl ⟨.refl _, .refl _, .refl _, VLe2.int (by omega), trivial⟩ trivial
theorem ck1_f (e : E) : AFun Try.prog 73 0 [.rp (en e) 0] [] (bool (!decide (okCode e.course))) [] := by
  refine AFun.of_W T_ok mixed Try.func73 rfl (Nat.le_of_ble_eq_true rfl) rfl ?_
  ((repeat ((conv => whnf); (first | (refine As.pre ?_; first | refine As.mk rfl ?_) | (refine LetV.pre ?_; first | refine LetV.mk (.sc _) rfl ?_) | (refine Ck.pre ?_; first | refine Ck.mk rfl ?_) | (refine CallN.pre ?_; first | refine CallN.pure (Code_f _) rfl rfl ?_)))); (try (conv => whnf)))
  exact ⟨.inl rfl, ⟨_, rfl, rfl⟩, trivial⟩
theorem ck2_f (e : E) : AFun Try.prog 75 0 [.rp (en e) 0] [] (bool (decide (e.credits < 1 ∨ 60 < e.credits))) [] := by
  refine AFun.of_W T_ok mixed Try.func75 rfl (Nat.le_of_ble_eq_true rfl) rfl ?_
  ((repeat ((conv => whnf); (first | (refine As.pre ?_; first | refine As.mk rfl ?_) | (refine LetV.pre ?_; first | refine LetV.mk (.sc (.int _ _)) rfl ?_) | (refine Ck.pre ?_; first | refine Ck.mk rfl ?_) | (refine CallN.pre ?_; first | refine CallN.pure (beyond_f _ _ _) rfl rfl ?_)))); (try (conv => whnf)))
  exact ⟨.inl rfl, ⟨_, rfl, rfl⟩, trivial⟩
theorem ck3_f (e : E) : AFun Try.prog 76 0 [.rp (en e) 0] [] (bool (decide (e.grade < -1000 ∨ 1000 < e.grade))) [] := by
  refine AFun.of_W T_ok mixed Try.func76 rfl (Nat.le_of_ble_eq_true rfl) rfl ?_
  ((repeat ((conv => whnf); (first | (refine As.pre ?_; first | refine As.mk rfl ?_) | (refine LetV.pre ?_; first | refine LetV.mk (.sc (.int _ _)) rfl ?_) | (refine Ck.pre ?_; first | refine Ck.mk rfl ?_) | (refine CallN.pre ?_; first | refine CallN.pure (beyond_f _ _ _) rfl rfl ?_)))); (try (conv => whnf)))
  exact ⟨.inl rfl, ⟨_, rfl, rfl⟩, trivial⟩
theorem ck4_f (e : E) : AFun Try.prog 77 0 [.rp (en e) 0] [] (bool (decide (e.programme < 1))) [] := by
  refine AFun.of_W T_ok mixed Try.func77 rfl (Nat.le_of_ble_eq_true rfl) rfl ?_
  ((repeat ((conv => whnf); (first | (refine As.pre ?_; first | refine As.mk rfl ?_) | (refine LetV.pre ?_; first | refine LetV.mk (.sc (.int _ _)) rfl ?_) | (refine LetB.pre ?_; first | refine LetB.mk _ rfl ?_) | (refine Ck.pre ?_; first | refine Ck.mk rfl ?_)))); (try (conv => whnf)))
  exact ⟨.inl rfl, ⟨_, rfl, rfl⟩, trivial⟩
theorem ck5_f (e : E) : AFun Try.prog 78 0 [.rp (en e) 0] [] (bool (decide (e.version < 1))) [] := by
  refine AFun.of_W T_ok mixed Try.func78 rfl (Nat.le_of_ble_eq_true rfl) rfl ?_
  ((repeat ((conv => whnf); (first | (refine As.pre ?_; first | refine As.mk rfl ?_) | (refine LetV.pre ?_; first | refine LetV.mk (.sc (.int _ _)) rfl ?_) | (refine LetB.pre ?_; first | refine LetB.mk _ rfl ?_) | (refine Ck.pre ?_; first | refine Ck.mk rfl ?_)))); (try (conv => whnf)))
  exact ⟨.inl rfl, ⟨_, rfl, rfl⟩, trivial⟩
theorem ck6_f (e : E) : AFun Try.prog 79 0 [.rp (en e) 0] [] (bool (decide ((e.frm < 1 ∨ 8 < e.frm) ∨ e.frm = e.school))) [] := by
  refine AFun.of_W T_ok mixed Try.func79 rfl (Nat.le_of_ble_eq_true rfl) rfl ?_
  repeat' ((conv => whnf); (first | (refine As.pre ?_; first | refine As.mk rfl ?_) | (refine LetV.pre ?_; first | refine LetV.mk (.sc (.int _ _)) rfl ?_) | (refine LetB.pre ?_; first | (refine LetB.dec (fun _ => ?_) (fun _ => ?_))) | (refine Gd.pre ?_; first | refine Gd.run rfl ?_ | refine Gd.pass rfl ?_) | (refine Ck.pre ?_; first | refine Ck.mk rfl ?_) | (refine CallN.pre ?_; first | refine CallN.dec (beyond_f _ _ _) rfl (fun _ => ?_) (fun _ => ?_))))
  all_goals (refine ⟨by first | exact .inl rfl | exact .inr rfl, ⟨_, rfl, congrArg (fun b => Go.Proofs.Ytjnohedknlibmaa.Am.AV.sc (Go.Value.bool b)) (by first | exact (decide_eq_true (by omega)).symm | exact (decide_eq_false (by omega)).symm | exact Bool.eq_iff_iff.2 (by simp only [decide_eq_true_eq, decide_eq_false_iff_not]; omega) | rfl)⟩, trivial⟩)
theorem ck7_f (e : E) : AFun Try.prog 80 0 [.rp (en e) 0] [] (bool (decide ((e.ref < 1 ∨ 899999 < e.ref) ∨ e.ref = e.id))) [] := by
  refine AFun.of_W T_ok mixed Try.func80 rfl (Nat.le_of_ble_eq_true rfl) rfl ?_
  repeat' ((conv => whnf); (first | (refine As.pre ?_; first | refine As.mk rfl ?_) | (refine LetV.pre ?_; first | refine LetV.mk (.sc (.int _ _)) rfl ?_) | (refine LetB.pre ?_; first | (refine LetB.dec (fun _ => ?_) (fun _ => ?_))) | (refine Gd.pre ?_; first | refine Gd.run rfl ?_ | refine Gd.pass rfl ?_) | (refine Ck.pre ?_; first | refine Ck.mk rfl ?_) | (refine CallN.pre ?_; first | refine CallN.dec (beyond_f _ _ _) rfl (fun _ => ?_) (fun _ => ?_))))
  all_goals (refine ⟨by first | exact .inl rfl | exact .inr rfl, ⟨_, rfl, congrArg (fun b => Go.Proofs.Ytjnohedknlibmaa.Am.AV.sc (Go.Value.bool b)) (by first | exact (decide_eq_true (by omega)).symm | exact (decide_eq_false (by omega)).symm | exact Bool.eq_iff_iff.2 (by simp only [decide_eq_true_eq, decide_eq_false_iff_not]; omega) | rfl)⟩, trivial⟩)
end En
end Go.Proofs.Ytjnohedknlibmaa
namespace Go.Proofs.Ytjnohedknlibmaa
open Go.Proofs.Ytjnohedknlibmaa.Am
namespace En
open Classical
/-- The error of the fields that a kind has. -/
def fldE (oc : Bool) (e : E) : Int :=
  if e.kind = 3 then (if oc = false then 12 else if e.credits < 1 ∨ 60 < e.credits then 3 else if e.grade < -1000 ∨ 1000 < e.grade then 3 else 0)
  else if e.kind = 1 ∨ e.kind = 8 then (if e.programme < 1 then 3 else 0)
  else if e.kind = 2 then (if e.programme < 1 ∨ e.version < 1 then 3 else 0)
  else if e.kind = 7 then (if (e.frm < 1 ∨ 8 < e.frm) ∨ e.frm = e.school then 3 else 0)
  else if e.kind = 4 then (if e.grade < -1000 ∨ 1000 < e.grade then 3 else if (e.ref < 1 ∨ 899999 < e.ref) ∨ e.ref = e.id then 21 else 0)
  else (if (e.ref < 1 ∨ 899999 < e.ref) ∨ e.ref = e.id then 21 else 0)
/-- No field but those of its kind is filled. -/
def onlyF (k : Int) : List Bool → Bool
  | [c, cr, g, r, f, p, v] =>
    if k = 1 ∨ k = 8 then !(c || cr || g || r || f || v)
    else if k = 2 then !(c || cr || g || r || f)
    else if k = 3 then !(r || f || p || v)
    else if k = 4 then !(c || cr || f || p || v)
    else if k = 7 then !(c || cr || g || r || p || v)
    else !(c || cr || g || f || p || v)
  | _ => false
def entX (oc on : Bool) (e : E) : Int :=
  if (e.id < 1 ∨ 899999 < e.id) ∨ (e.school < 1 ∨ 8 < e.school) ∨ (e.student < 1 ∨ 999999 < e.student) then 1
  else if (e.kind < 1 ∨ 9 < e.kind) ∨ on = false then 20
  else if (e.day < 0 ∨ 100000 < e.day) ∨ (e.on_ < 0 ∨ e.day < e.on_) then 23
  else fldE oc e
noncomputable def entE (e : E) : Int := entX (decide (okCode e.course)) (onlyF e.kind (fillB e)) e
theorem mask (k : Int) (hk : k = 1 ∨ k = 2 ∨ k = 3 ∨ k = 4 ∨ k = 5 ∨ k = 6 ∨ k = 7 ∨ k = 8 ∨ k = 9) : ∀ c cr g r f p v : Bool, (IntKind.i64.wrap ((BitVec.ofInt 64 (fillA [c, cr, g, r, f, p, v] 0 0)) &&& ~~~(BitVec.ofInt 64 (hasK k))).toNat != 0) = !(onlyF k [c, cr, g, r, f, p, v]) := by
  rcases hk with rfl | rfl | rfl | rfl | rfl | rfl | rfl | rfl | rfl <;> decide +kernel
theorem maskE (e : E) (hk : e.kind = 1 ∨ e.kind = 2 ∨ e.kind = 3 ∨ e.kind = 4 ∨ e.kind = 5 ∨ e.kind = 6 ∨ e.kind = 7 ∨ e.kind = 8 ∨ e.kind = 9) : (IntKind.i64.wrap ((BitVec.ofInt 64 (fillA (fillB e) 0 0)) &&& ~~~(BitVec.ofInt 64 (hasK e.kind))).toNat != 0) = !(onlyF e.kind (fillB e)) := mask _ hk ..
/-! ### The rules -/
theorem entX_arg {oc on : Bool} {e : E} (h : (e.id < 1 ∨ 899999 < e.id) ∨ (e.school < 1 ∨ 8 < e.school) ∨ (e.student < 1 ∨ 999999 < e.student)) : entX oc on e = 1 := if_pos h
theorem entX_kind {oc on : Bool} {e : E} (h : ¬ ((e.id < 1 ∨ 899999 < e.id) ∨ (e.school < 1 ∨ 8 < e.school) ∨ (e.student < 1 ∨ 999999 < e.student))) (k : (e.kind < 1 ∨ 9 < e.kind) ∨ on = false) : entX oc on e = 20 := (if_neg h).trans (if_pos k)
theorem entX_date {oc on : Bool} {e : E} (h : ¬ ((e.id < 1 ∨ 899999 < e.id) ∨ (e.school < 1 ∨ 8 < e.school) ∨ (e.student < 1 ∨ 999999 < e.student))) (k : ¬ (e.kind < 1 ∨ 9 < e.kind)) (o : on = true) (d : (e.day < 0 ∨ 100000 < e.day) ∨ (e.on_ < 0 ∨ e.day < e.on_)) : entX oc on e = 23 :=
  (if_neg h).trans ((if_neg (by rintro (h | h); exact k h; rw [o] at h; cases h)).trans (if_pos d))
theorem entX_fld {oc on : Bool} {e : E} (h : ¬ ((e.id < 1 ∨ 899999 < e.id) ∨ (e.school < 1 ∨ 8 < e.school) ∨ (e.student < 1 ∨ 999999 < e.student))) (k : ¬ (e.kind < 1 ∨ 9 < e.kind)) (o : on = true) (d : ¬ ((e.day < 0 ∨ 100000 < e.day) ∨ (e.on_ < 0 ∨ e.day < e.on_))) : entX oc on e = fldE oc e :=
  (if_neg h).trans ((if_neg (by rintro (h | h); exact k h; rw [o] at h; cases h)).trans (if_neg d))
structure Rule where
  f : Int
  fn : Nat
  w : Bool
  err : Int
abbrev ruleA (r : Rule) : AV := .agg [int r.f, .clo r.fn [.ptr 0 15 0 0], int r.err]
abbrev rty : TypeId := 105
def mk2 (hv f : Int) : Bool := IntKind.i64.wrap ((BitVec.ofInt 64 hv) &&& (BitVec.ofInt 64 f)).toNat != 0
def ruleE (hv : Int) : List Rule → Int
  | [] => 0
  | r :: l => if mk2 hv r.f && r.w then r.err else ruleE hv l
structure Rule.Ok (e : E) (r : Rule) : Prop where
  run : AFun Try.prog r.fn 0 [.rp (en e) 0] [] (bool r.w) []
  call : callable Try.prog r.fn = true
noncomputable def rulesOf (e : E) : List Rule := [⟨1, 73, !decide (okCode e.course), 12⟩, ⟨2, 75, decide (e.credits < 1 ∨ 60 < e.credits), 3⟩, ⟨4, 76, decide (e.grade < -1000 ∨ 1000 < e.grade), 3⟩, ⟨32, 77, decide (e.programme < 1), 3⟩,
  ⟨64, 78, decide (e.version < 1), 3⟩, ⟨16, 79, decide ((e.frm < 1 ∨ 8 < e.frm) ∨ e.frm = e.school), 3⟩, ⟨8, 80, decide ((e.ref < 1 ∨ 899999 < e.ref) ∨ e.ref = e.id), 21⟩]
theorem rulesOf_ok (e : E) : ∀ r ∈ rulesOf e, r.Ok e := by
  intro r hr
  simp only [rulesOf, List.mem_cons, List.not_mem_nil, or_false] at hr
  rcases hr with rfl | rfl | rfl | rfl | rfl | rfl | rfl
  · exact ⟨ck1_f e, by kernel_rfl⟩
  · exact ⟨ck2_f e, by kernel_rfl⟩
  · exact ⟨ck3_f e, by kernel_rfl⟩
  · exact ⟨ck4_f e, by kernel_rfl⟩
  · exact ⟨ck5_f e, by kernel_rfl⟩
  · exact ⟨ck6_f e, by kernel_rfl⟩
  · exact ⟨ck7_f e, by kernel_rfl⟩
theorem ruleE_fld (e : E) (hk : e.kind = 1 ∨ e.kind = 2 ∨ e.kind = 3 ∨ e.kind = 4 ∨ e.kind = 5 ∨ e.kind = 6 ∨ e.kind = 7 ∨ e.kind = 8 ∨ e.kind = 9) : ruleE (hasK e.kind) (rulesOf e) = fldE (decide (okCode e.course)) e := by
  have key : ∀ c cr g p v f r : Bool, ∀ k : Int, (k = 1 ∨ k = 2 ∨ k = 3 ∨ k = 4 ∨ k = 5 ∨ k = 6 ∨ k = 7 ∨ k = 8 ∨ k = 9) →
      ruleE (hasK k) [⟨1, 0, !c, 12⟩, ⟨2, 0, cr, 3⟩, ⟨4, 0, g, 3⟩, ⟨32, 0, p, 3⟩, ⟨64, 0, v, 3⟩, ⟨16, 0, f, 3⟩, ⟨8, 0, r, 21⟩] =
      if k = 3 then (if c = false then 12 else if cr = true then 3 else if g = true then 3 else 0)
      else if k = 1 ∨ k = 8 then (if p = true then 3 else 0)
      else if k = 2 then (if p = true ∨ v = true then 3 else 0)
      else if k = 7 then (if f = true then 3 else 0)
      else if k = 4 then (if g = true then 3 else if r = true then 21 else 0)
      else (if r = true then 21 else 0) := by
    intro c cr g p v f r k hk
    rcases hk with rfl | rfl | rfl | rfl | rfl | rfl | rfl | rfl | rfl <;> revert c cr g p v f r <;> decide +kernel
  have := key (decide (okCode e.course)) (decide (e.credits < 1 ∨ 60 < e.credits)) (decide (e.grade < -1000 ∨ 1000 < e.grade)) (decide (e.programme < 1)) (decide (e.version < 1)) (decide ((e.frm < 1 ∨ 8 < e.frm) ∨ e.frm = e.school)) (decide ((e.ref < 1 ∨ 899999 < e.ref) ∨ e.ref = e.id)) e.kind hk
  simp only [decide_eq_true_eq] at this
  exact this
abbrev chkS (e : E) (rs : List Rule) (k : Nat) : AS := ⟨[(1, .ptr 0 15 0 0), (51, .slm {} 1 3 0 rs.length), (52, int rs.length), (53, int k)], [(0, .row 15 ety [en e]), (1, .row 3 rty (rs.map ruleA))], 2⟩
theorem rule_names (rs : List Rule) (ok : Nat → Bool) (h : ok 0 = true) : AV.namesL ok (rs.map ruleA) = true := by
  rw [namesL_all, List.all_map]
  refine List.all_eq_true.2 fun r _ => ?_
  simp only [Function.comp_def, AV.names, AV.namesL, h]; rfl
theorem chkNames (e : E) (rs : List Rule) (ok : Nat → Bool) (h : ok 0 = true) : namesAll ok [(0, .row 15 ety [en e]), (1, .row 3 rty (rs.map ruleA))] = true := by
  simp only [namesAll, Blk.names, rule_names rs ok h]; rfl
theorem rule_ren (rs : List Rule) : AV.renL id (rs.map ruleA) = rs.map ruleA := by
  rw [renL_map, List.map_map]; rfl
theorem getD_rule {l : List Rule} {k : Nat} (d : Rule) (h : k < l.length) : ruleA (l.getD k d) = Am.part true 3 0 3 ((l.map ruleA).getD (0 + k) (.sc undef)) := by
  rw [Nat.zero_add, List.getD_eq_getElem?_getD, List.getD_eq_getElem?_getD, List.getElem?_map, List.getElem?_eq_getElem h]; rfl
set_option maxHeartbeats 1600000 in
set_option maxRecDepth 100000 in
theorem Check_f (e : E) : AFun Try.prog 58 0 [en e] [] (int (entE e)) [] := by
  have hfl := filled_f e
  have hh := has_f e.kind
  have hm := maskE e
  have hru := ruleE_fld e
  have hrk := rulesOf_ok e
  have hrl : (rulesOf e).length = 7 := rfl
  have hra : (rulesOf e).map ruleA = [.agg [int 1, .clo 73 [.ptr 0 15 0 0], int 12], .agg [int 2, .clo 75 [.ptr 0 15 0 0], int 3], .agg [int 4, .clo 76 [.ptr 0 15 0 0], int 3], .agg [int 32, .clo 77 [.ptr 0 15 0 0], int 3],
    .agg [int 64, .clo 78 [.ptr 0 15 0 0], int 3], .agg [int 16, .clo 79 [.ptr 0 15 0 0], int 3], .agg [int 8, .clo 80 [.ptr 0 15 0 0], int 21]] := rfl
  unfold entE
  generalize onlyF e.kind (fillB e) = on at hm ⊢
  generalize fillA (fillB e) 0 0 = fl at hm hfl
  generalize decide (okCode e.course) = oc at hru ⊢
  generalize hasK e.kind = hv at hm hh hru
  generalize rulesOf e = rs at hru hrk hrl hra
  refine AFun.of_W T_ok mixed Try.func58 rfl (Nat.le_of_ble_eq_true rfl) rfl ?_
  by_cases a1 : e.id < 1 ∨ 899999 < e.id
  case pos =>
    ((repeat ((conv => whnf); (first | (refine LetN.pre ?_; first | ((conv => arg 1; whnf); refine LetN.mk ?_)) | (refine As.pre ?_; first | refine As.mk rfl ?_) | (refine LetV.pre ?_; first | refine LetV.mk (.sc (.int _ _)) rfl ?_) | (refine Br.pre ?_; first | refine Br.tt rfl ?_) | (refine Ck.pre ?_; first | refine Ck.mk rfl ?_) | (refine CallN.pre ?_; first | refine CallN.dect (beyond_f _ _ _) rfl (by assumption) ?_)))); (try (conv => whnf)))




    exact ⟨.inl rfl, ⟨_, rfl, congrArg int (entX_arg (.inl a1)).symm⟩, trivial⟩
  by_cases a2 : e.school < 1 ∨ 8 < e.school
  case pos =>
    ((repeat ((conv => whnf); (first | (refine LetN.pre ?_; first | ((conv => arg 1; whnf); refine LetN.mk ?_)) | (refine As.pre ?_; first | refine As.mk rfl ?_) | (refine LetV.pre ?_; first | refine LetV.mk (.sc (.int _ _)) rfl ?_) | (refine Br.pre ?_; first | refine Br.tt rfl ?_ | refine Br.ff rfl ?_) | (refine Ck.pre ?_; first | refine Ck.mk rfl ?_) | (refine CallN.pre ?_; first | refine CallN.dect (beyond_f _ _ _) rfl (by assumption) ?_ | refine CallN.decf (beyond_f _ _ _) rfl (by assumption) ?_)))); (try (conv => whnf)))




    exact ⟨.inl rfl, ⟨_, rfl, congrArg int (entX_arg (.inr (.inl a2))).symm⟩, trivial⟩
  by_cases a3 : e.student < 1 ∨ 999999 < e.student
  case pos =>
    ((repeat ((conv => whnf); (first | (refine LetN.pre ?_; first | ((conv => arg 1; whnf); refine LetN.mk ?_)) | (refine As.pre ?_; first | refine As.mk rfl ?_) | (refine LetV.pre ?_; first | refine LetV.mk (.sc (.int _ _)) rfl ?_) | (refine Br.pre ?_; first | refine Br.tt rfl ?_ | refine Br.ff rfl ?_) | (refine Ck.pre ?_; first | refine Ck.mk rfl ?_) | (refine CallN.pre ?_; first | refine CallN.dect (beyond_f _ _ _) rfl (by assumption) ?_ | refine CallN.decf (beyond_f _ _ _) rfl (by assumption) ?_)))); (try (conv => whnf)))




    exact ⟨.inl rfl, ⟨_, rfl, congrArg int (entX_arg (.inr (.inr a3))).symm⟩, trivial⟩
  have hA : ¬ ((e.id < 1 ∨ 899999 < e.id) ∨ (e.school < 1 ∨ 8 < e.school) ∨ (e.student < 1 ∨ 999999 < e.student)) := by rintro (h | h | h) <;> contradiction
  by_cases a4 : e.kind < 1 ∨ 9 < e.kind
  case pos =>
    ((repeat ((conv => whnf); (first | (refine LetN.pre ?_; first | ((conv => arg 1; whnf); refine LetN.mk ?_)) | (refine As.pre ?_; first | refine As.mk rfl ?_) | (refine LetV.pre ?_; first | refine LetV.mk (.sc (.int _ _)) rfl ?_) | (refine Br.pre ?_; first | refine Br.tt rfl ?_ | refine Br.ff rfl ?_) | (refine Ck.pre ?_; first | refine Ck.mk rfl ?_) | (refine CallN.pre ?_; first | refine CallN.dect (beyond_f _ _ _) rfl (by assumption) ?_ | refine CallN.decf (beyond_f _ _ _) rfl (by assumption) ?_)))); (try (conv => whnf)))




    exact ⟨.inl rfl, ⟨_, rfl, congrArg int (entX_kind hA (.inl a4)).symm⟩, trivial⟩
  have hp := PLift.up (hm (by omega))
  replace hru := hru (by omega)
  clear hm
  cases on <;> simp only [Bool.not_true, Bool.not_false] at hp
  case false =>
    ((repeat ((conv => whnf); (first | (refine LetN.pre ?_; first | ((conv => arg 1; whnf); refine LetN.mk ?_)) | (refine As.pre ?_; first | refine As.mk rfl ?_) | (refine LetV.pre ?_; first | refine LetV.mk (.sc (.int _ _)) rfl ?_ | refine LetV.mk (.agg _) rfl ?_) | (refine LetI.pre ?_; first | refine LetI.mk _ rfl ?_) | (refine LetB.pre ?_; first | refine LetB.tt hp.down ?_) | (refine Br.pre ?_; first | refine Br.tt rfl ?_ | refine Br.ff rfl ?_) | (refine Ck.pre ?_; first | refine Ck.drawn (by kernel_rfl) ?_ | refine Ck.mk rfl ?_) | (refine CallN.pre ?_; first | refine CallN.pure hfl rfl rfl ?_ | refine CallN.pure hh rfl rfl ?_ | refine CallN.decf (beyond_f _ _ _) rfl (by assumption) ?_)))); (try (conv => whnf)))






    exact ⟨.inl rfl, ⟨_, rfl, congrArg int (entX_kind hA (.inr rfl)).symm⟩, trivial⟩
  by_cases d1 : e.day < 0 ∨ 100000 < e.day
  case pos =>
    ((repeat ((conv => whnf); (first | (refine LetN.pre ?_; first | ((conv => arg 1; whnf); refine LetN.mk ?_)) | (refine As.pre ?_; first | refine As.mk rfl ?_) | (refine LetV.pre ?_; first | refine LetV.mk (.sc (.int _ _)) rfl ?_ | refine LetV.mk (.agg _) rfl ?_) | (refine LetI.pre ?_; first | refine LetI.mk _ rfl ?_) | (refine LetB.pre ?_; first | refine LetB.ff hp.down ?_) | (refine Br.pre ?_; first | refine Br.tt rfl ?_ | refine Br.ff rfl ?_) | (refine Ck.pre ?_; first | refine Ck.drawn (by kernel_rfl) ?_ | refine Ck.mk rfl ?_) | (refine CallN.pre ?_; first | refine CallN.pure hfl rfl rfl ?_ | refine CallN.pure hh rfl rfl ?_ | refine CallN.dect (beyond_f _ _ _) rfl (by assumption) ?_ | refine CallN.decf (beyond_f _ _ _) rfl (by assumption) ?_)))); (try (conv => whnf)))






    exact ⟨.inl rfl, ⟨_, rfl, congrArg int (entX_date hA a4 rfl (.inl d1)).symm⟩, trivial⟩
  by_cases d2 : e.on_ < 0 ∨ e.day < e.on_
  case pos =>
    ((repeat ((conv => whnf); (first | (refine LetN.pre ?_; first | ((conv => arg 1; whnf); refine LetN.mk ?_)) | (refine As.pre ?_; first | refine As.mk rfl ?_) | (refine LetV.pre ?_; first | refine LetV.mk (.sc (.int _ _)) rfl ?_ | refine LetV.mk (.agg _) rfl ?_) | (refine LetI.pre ?_; first | refine LetI.mk _ rfl ?_) | (refine LetB.pre ?_; first | refine LetB.ff hp.down ?_) | (refine Br.pre ?_; first | refine Br.tt rfl ?_ | refine Br.ff rfl ?_) | (refine Ck.pre ?_; first | refine Ck.drawn (by kernel_rfl) ?_ | refine Ck.mk rfl ?_) | (refine CallN.pre ?_; first | refine CallN.pure hfl rfl rfl ?_ | refine CallN.pure hh rfl rfl ?_ | refine CallN.dect (beyond_f _ _ _) rfl (by assumption) ?_ | refine CallN.decf (beyond_f _ _ _) rfl (by assumption) ?_)))); (try (conv => whnf)))






    exact ⟨.inl rfl, ⟨_, rfl, congrArg int (entX_date hA a4 rfl (.inr d2)).symm⟩, trivial⟩
  have hD : ¬ ((e.day < 0 ∨ 100000 < e.day) ∨ (e.on_ < 0 ∨ e.day < e.on_)) := by rintro (h | h) <;> contradiction
  rw [entX_fld hA a4 rfl hD, ← hru]
  ((repeat ((conv => whnf); (first | (refine LetN.pre ?_; first | ((conv => arg 1; whnf); refine LetN.mk ?_)) | (refine As.pre ?_; first | refine As.mk rfl ?_) | (refine LetV.pre ?_; first | refine LetV.mk (.sc (.int _ _)) rfl ?_ | refine LetV.mk (.agg _) rfl ?_) | (refine LetI.pre ?_; first | refine LetI.mk _ rfl ?_) | (refine LetB.pre ?_; first | refine LetB.ff hp.down ?_) | (refine Br.pre ?_; first | refine Br.ff rfl ?_) | (refine Ck.pre ?_; first | refine Ck.drawn (by kernel_rfl) ?_ | refine Ck.mk rfl ?_) | (refine CallN.pre ?_; first | refine CallN.pure hfl rfl rfl ?_ | refine CallN.pure hh rfl rfl ?_ | refine CallN.decf (beyond_f _ _ _) rfl (by assumption) ?_)))); (try (conv => whnf)))






  refine LoopN.weak (s1 := chkS e rs 0) ?sw1 ?_
  case sw1 => exact SW.mk id rfl rfl (chkNames e rs _ rfl) ⟨.refl _, VLe2.slm_of hrl, VLe2.int (by rw [hrl]), .refl _, trivial⟩ (haveV.row rfl rfl (haveV.one (by rw [Blk.ren, rule_ren, hra] <;> rfl) trivial))
  generalize hX : ruleE hv rs = X
  have hrm : (rs.map ruleA).length = rs.length := List.length_map _
  clear hra hp hfl hru
  refine LoopN.ind T_ok mixed (S := chkS e rs) (fun k => rs.length - k) (fun k => k ≤ rs.length ∧ X = ruleE hv (rs.drop k)) (fun _ => rfl) (fun k hi ih => ?_) 0 ⟨Nat.zero_le _, hX.symm⟩
  obtain ⟨g1, g2⟩ := hi
  by_cases hlt : k < rs.length
  case neg =>
    rw [List.drop_eq_nil_of_le (by omega)] at g2
    rw [g2]
    clear ih
    ((repeat ((conv => whnf); (first | (refine As.pre ?_; first | refine As.mk rfl ?_) | (refine LetB.pre ?_; first | refine LetB.decf (by omega) ?_) | (refine Br.pre ?_; first | refine Br.ff rfl ?_) | (refine Ck.pre ?_; first | refine Ck.mk rfl ?_)))); (try (conv => whnf)))
    exact ⟨.inl rfl, ⟨_, rfl, rfl⟩, trivial⟩
  have hld : ruleA (rs.getD k ⟨0, 0, false, 0⟩) = Am.part true 3 0 3 ((rs.map ruleA).getD (0 + k) (.sc undef)) := getD_rule _ hlt
  have hin : rs.getD k ⟨0, 0, false, 0⟩ ∈ rs := by
    rw [List.getD_eq_getElem?_getD, List.getElem?_eq_getElem hlt]
    exact List.getElem_mem _
  rw [List.drop_eq_getElem_cons hlt, show rs[k] = rs.getD k ⟨0, 0, false, 0⟩ by rw [List.getD_eq_getElem?_getD, List.getElem?_eq_getElem hlt]; rfl, ruleE] at g2
  obtain ⟨hr, hcl⟩ := hrk _ hin
  generalize rs.getD k ⟨0, 0, false, 0⟩ = r at hld g2 hr hcl
  have hmk : (IntKind.i64.wrap ((BitVec.ofInt 64 hv) &&& (BitVec.ofInt 64 r.f)).toNat != 0) = mk2 hv r.f := rfl
  have next : X = ruleE hv (rs.drop (k + 1)) → LoopN Try.prog 0 Try.f58.ntmps _ (chkS e rs (k + 1)) _ := fun h => ih (k + 1) ⟨by omega, h⟩ (by omega)
  clear ih hrk
  cases hb : mk2 hv r.f with
  | false =>
    rw [hb] at hmk g2
    have hp := PLift.up hmk
    clear hmk
    ((repeat ((conv => whnf); (first | (refine LetN.pre ?_; first | ((conv => arg 1; whnf); refine LetN.mk ?_)) | (refine As.pre ?_; first | refine As.mk rfl ?_ | (refine As.mk ?_ ?_; · ((repeat' (refine andT ?_ ?_)) <;> (first | rfl | assumption | exact decide_eq_true (by omega) | exact decide_eq_true (by dsimp only; omega) | exact decide_eq_true (by simp; omega) | (simp; done))))) | (refine LetV.pre ?_; first | refine LetV.mk (t := rty) _ hld ?_ | refine LetV.mk (.sc (.int _ _)) rfl ?_) | (refine LetI.pre ?_; first | refine LetI.wrap (by omega) (by omega) ?_ | refine LetI.mk _ rfl ?_) | (refine LetB.pre ?_; first | refine LetB.ff (by assumption) ?_ | refine LetB.dect (by omega) ?_) | (refine Gd.pre ?_; first | refine Gd.pass rfl ?_) | (refine Br.pre ?_; first | refine Br.tt rfl ?_ | refine Br.ff rfl ?_) | (refine Ck.pre ?_; first | refine Ck.drawn (by kernel_rfl) ?_ | refine Ck.mk rfl ?_) | (refine LetL.pre ?_; first | refine LetL.mk [_] rfl ?_) | (refine CallN.pre ?_; first | refine CallN.pure hh rfl rfl ?_)))); (try (conv => whnf)))



    refine LoopN.weak ?sw2 (next g2)
    case sw2 => exact SW.mk id rfl rfl (chkNames e rs _ rfl) ⟨.refl _, .refl _, .refl _, VLe2.int (by omega), trivial⟩ (haveV.row rfl rfl (haveV.one (by rw [Blk.ren, rule_ren]; rfl) trivial))
  | true =>
    rw [hb] at hmk g2
    have hp := PLift.up hmk
    clear hmk
    cases hw : r.w with
    | false =>
      rw [hw] at hr g2
      ((repeat ((conv => whnf); (first | (refine LetN.pre ?_; first | ((conv => arg 1; whnf); refine LetN.mk ?_)) | (refine As.pre ?_; first | refine As.mk rfl ?_ | (refine As.mk ?_ ?_; · ((repeat' (refine andT ?_ ?_)) <;> (first | rfl | assumption | exact decide_eq_true (by omega) | exact decide_eq_true (by dsimp only; omega) | exact decide_eq_true (by simp; omega) | (simp; done))))) | (refine LetV.pre ?_; first | refine LetV.mk (t := rty) _ hld ?_ | refine LetV.mk (.sc (.int _ _)) rfl ?_ | refine LetV.mk (.clo _ _ _) rfl ?_) | (refine LetI.pre ?_; first | refine LetI.wrap (by omega) (by omega) ?_ | refine LetI.mk _ rfl ?_) | (refine LetB.pre ?_; first | refine LetB.tt (by assumption) ?_ | refine LetB.dect (by omega) ?_) | (refine Gd.pre ?_; first | refine Gd.run rfl ?_) | (refine Br.pre ?_; first | refine Br.tt rfl ?_ | refine Br.ff rfl ?_) | (refine Ck.pre ?_; first | refine Ck.drawn (by kernel_rfl) ?_ | refine Ck.mk rfl ?_ | refine Ck.mk hcl ?_) | (refine LetL.pre ?_; first | refine LetL.mk [_] rfl ?_) | (refine CallN.pre ?_; first | refine CallN.pure hh rfl rfl ?_ | refine CallN.lend hr rfl (.ptr rfl rfl rfl .nil) ?_)))); (try (conv => whnf)))





      refine LoopN.weak ?sw3 (next g2)
      case sw3 => exact SW.mk id rfl rfl (chkNames e rs _ rfl) ⟨.refl _, .refl _, .refl _, VLe2.int (by omega), trivial⟩ (haveV.row rfl rfl (haveV.one (by rw [Blk.ren, rule_ren]; rfl) trivial))
    | true =>
      rw [hw] at hr g2
      simp only [Bool.and_self, if_true] at g2
      rw [g2]
      ((repeat ((conv => whnf); (first | (refine LetN.pre ?_; first | ((conv => arg 1; whnf); refine LetN.mk ?_)) | (refine As.pre ?_; first | refine As.mk rfl ?_ | (refine As.mk ?_ ?_; · ((repeat' (refine andT ?_ ?_)) <;> (first | rfl | assumption | exact decide_eq_true (by omega) | exact decide_eq_true (by dsimp only; omega) | exact decide_eq_true (by simp; omega) | (simp; done))))) | (refine LetV.pre ?_; first | refine LetV.mk (t := rty) _ hld ?_ | refine LetV.mk (.sc (.int _ _)) rfl ?_ | refine LetV.mk (.clo _ _ _) rfl ?_) | (refine LetI.pre ?_; first | refine LetI.mk _ rfl ?_) | (refine LetB.pre ?_; first | refine LetB.tt (by assumption) ?_ | refine LetB.dect (by omega) ?_) | (refine Gd.pre ?_; first | refine Gd.run rfl ?_) | (refine Br.pre ?_; first | refine Br.tt rfl ?_) | (refine Ck.pre ?_; first | refine Ck.drawn (by kernel_rfl) ?_ | refine Ck.mk rfl ?_ | refine Ck.mk hcl ?_) | (refine LetL.pre ?_; first | refine LetL.mk [_] rfl ?_) | (refine CallN.pre ?_; first | refine CallN.pure hh rfl rfl ?_ | refine CallN.lend hr rfl (.ptr rfl rfl rfl .nil) ?_)))); (try (conv => whnf)))





      exact ⟨.inl rfl, ⟨_, rfl, rfl⟩, trivial⟩
end En
end Go.Proofs.Ytjnohedknlibmaa
