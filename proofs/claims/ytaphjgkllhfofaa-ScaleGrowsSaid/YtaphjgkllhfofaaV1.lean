/- Ytaphjgkllhfofaa: YtaphjgkllhfofaaV1. -/
import Derived.Test.YtaphjgkllhfofaaU
namespace Go.Proofs.Ytaphjgkllhfofaa
open Go.Proofs.Ytaphjgkllhfofaa.Am
namespace Sc
theorem fa_b (g : Int) : -1000 ≤ fa g ∧ fa g ≤ 1000 := by
  have := tmod_bound g (m := 1001) (by omega)
  unfold fa; omega
theorem fb_b (c : Int) : 1 ≤ fb c ∧ fb c ≤ 60 := by
  have := md3_b (m := 60) (by omega) c
  unfold fb; omega
theorem gd_map {l : List Int} {f : Int → Int} {i : Nat} (h : i < l.length) : gd (l.map f) i = f (l.getD i 0) := by
  rw [gd, List.getD_eq_getElem?_getD, List.getD_eq_getElem?_getD, List.getElem?_map, List.getElem?_eq_getElem h]; rfl
theorem ok_map (gs cs : List Int) {k : Nat} (h1 : k ≤ gs.length) (h2 : k ≤ cs.length) : okL (gs.map fa) (cs.map fb) k := fun i hi => by
  rw [gd_map (by omega), gd_map (by omega)]
  exact ⟨fa_b _, fb_b _⟩
theorem ps_congr {f g : Nat → Int} : ∀ {n : Nat}, (∀ i, i < n → f i = g i) → ps f n = ps g n
  | 0, _ => rfl
  | n + 1, h => by
    show ps f n + f n = ps g n + g n
    rw [ps_congr fun i hi => h i (by omega), h n (by omega)]
theorem gd_take {l : List Int} {n i : Nat} (h : i < n) : gd (l.take n) i = gd l i := by
  rw [gd, gd, List.getD_eq_getElem?_getD, List.getD_eq_getElem?_getD, List.getElem?_take, if_pos h]
theorem sN_take (xs ys : List Int) (n : Nat) : sN (xs.take n) (ys.take n) n = sN xs ys n := ps_congr fun i hi => by rw [gd_take hi, gd_take hi]
theorem sD_take (ys : List Int) (n : Nat) : sD (ys.take n) n = sD ys n := ps_congr fun i hi => gd_take hi
theorem okL_take {xs ys : List Int} {n : Nat} (h : okL xs ys n) : okL (xs.take n) (ys.take n) n := fun i hi => by rw [gd_take hi, gd_take hi]; exact h i hi
abbrev wide : Scl := (-1000, 1000, 0)
set_option maxRecDepth 100000 in
set_option maxHeartbeats 8000000 in
theorem once (c0 : Cnv) (gs cs : List Int) (hl : gs.length ≤ 9223372036854775807) (hl2 : cs.length ≤ 9223372036854775807) : AFun Try.prog 7 0 [cnA c0, .ro {} 1 (gs.map int), .ro {} 1 (cs.map int)] [] (bool true) [] := by
  refine AFun.of_W T_ok mixed Try.func7 rfl (Nat.le_of_ble_eq_true rfl) rfl ?_
  have hcv := conv_f c0
  have hc := cv_ok c0
  generalize cv c0 = c at hcv hc
  ((repeat ((conv => whnf); (first | (refine LetN.pre ?_; first | ((conv => arg 1; whnf); refine LetN.mk ?_)) | (refine As.pre ?_; first | refine As.mk rfl ?_ | (refine As.mk ?_ ?_; · decide +kernel) | refine As.mk (andT (nor_self _) rfl) ?_ | refine As.mk (andT (nor_self _) (or_t _)) ?_ | refine As.mk (andT (or_t _) (or_nself _)) ?_ | refine As.mk (andT (or_t _) (or_t _)) ?_ | refine As.mk (andT (nor_self _) (andT (nor_self _) rfl)) ?_ | (refine As.mk ?_ ?_; · ((repeat' (refine andT ?_ ?_)) <;> (first | rfl | assumption | exact decide_eq_true (by omega) | exact decide_eq_true (by dsimp only; omega) | exact decide_eq_true (by simp; omega) | (simp; done))))) | (refine LetV.pre ?_; first | refine LetV.mk (.sc (.int _ _)) rfl ?_ | refine LetV.mk (.sc (.bool _)) rfl ?_ | refine LetV.mk (.sc _) rfl ?_ | refine LetV.mk (.agg _) rfl ?_ | refine LetV.mk (.slm _ _ _ _ _) rfl ?_ | refine LetV.mk (.ro _ _ _) rfl ?_ | refine LetV.mk (.ptr _ _ _ _) rfl ?_) | (refine LetI.pre ?_; first | refine LetI.wrap (by omega) (by omega) ?_ | refine LetI.mk _ rfl ?_) | (refine LetB.pre ?_; first | refine LetB.tt rfl ?_ | refine LetB.ff rfl ?_ | refine LetB.tt (by assumption) ?_ | refine LetB.ff (by assumption) ?_ | refine LetB.mk _ rfl ?_) | (refine Gd.pre ?_; first | refine Gd.run rfl ?_ | refine Gd.pass rfl ?_ | refine Gd.run (by assumption) ?_ | refine Gd.pass (by assumption) ?_ | (refine Gd.run ?_ ?_; · decide +kernel) | (refine Gd.pass ?_ ?_; · decide +kernel) | refine Gd.both ?_) | (refine Br.pre ?_; first | refine Br.tt rfl ?_ | refine Br.ff rfl ?_ | refine Br.tt (by assumption) ?_ | refine Br.ff (by assumption) ?_ | (refine Br.tt ?_ ?_; · decide +kernel) | (refine Br.ff ?_ ?_; · decide +kernel)) | (refine Ck.pre ?_; first | refine Ck.drawn (by kernel_rfl) ?_ | refine Ck.mk rfl ?_) | (refine LetL.pre ?_; first | refine LetL.mk [_] rfl ?_ | refine LetL.mk _ rfl ?_) | (refine CallN.pre ?_; first | refine CallN.pure sanity_f rfl rfl ?_ | refine CallN.pure hcv rfl rfl ?_)))); (try (conv => whnf)))
  refine LoopN.weak (SW.mk (fr2 := [(1, .ro {} 1 (gs.map int)), (2, .ro {} 1 (cs.map int)), (3, .ptr 0 4 0 0), (7, bool true), (8, .ptr 1 3 0 0), (9, .slm {} 2 1 0 0), (10, .slm {} 3 1 0 0), (11, int (sN (gs.map fa) (cs.map fb) 0)), (12, int (sD (cs.map fb) 0)), (13, int (0 : Nat))]) (H2 := [(0, .row 4 26 [cnA c]), (1, .row 3 24 [scA wide]), (2, .row 1 3 ((La gs 0).map int)), (3, .row 1 3 ((Lb cs 0).map int))]) (nx2 := 4) id rfl rfl rfl ⟨.refl _, .refl _, .refl _, .refl _, .refl _, VLe2.nilslm, VLe2.nilslm, .refl _, .refl _, .refl _, trivial⟩ (haveV.one rfl (haveV.one rfl (haveV.nil (Nat.le_of_ble_eq_true rfl) (haveV.nil (Nat.le_of_ble_eq_true rfl) trivial))))) ?_
  refine LoopN.ind T_ok mixed (S := fun k : Nat => ⟨[(1, .ro {} 1 (gs.map int)), (2, .ro {} 1 (cs.map int)), (3, .ptr 0 4 0 0), (7, bool true), (8, .ptr 1 3 0 0), (9, .slm {} 2 1 0 k), (10, .slm {} 3 1 0 k), (11, int (sN (gs.map fa) (cs.map fb) k)), (12, int (sD (cs.map fb) k)), (13, int k)], [(0, .row 4 26 [cnA c]), (1, .row 3 24 [scA wide]), (2, .row 1 3 ((La gs k).map int)), (3, .row 1 3 ((Lb cs k).map int))], 4⟩) (fun k => 12 - k) (fun k => k ≤ gs.length ∧ k ≤ cs.length ∧ k ≤ 12) (fun _ => rfl) (fun k hk ih => ?_) 0 ⟨Nat.zero_le _, Nat.zero_le _, Nat.zero_le _⟩
  obtain ⟨hk1, hk2, hk3⟩ := hk
  have e1 : ((gs.map int).length : Int) = gs.length := by simp
  have e2 : ((cs.map int).length : Int) = cs.length := by simp
  have hok := ok_map gs cs hk1 hk2
  have hb := sums_b _ _ _ hok
  by_cases hlt : k < gs.length ∧ k < cs.length ∧ k < 12
  · obtain ⟨hlt1, hlt2, hlt3⟩ := hlt
    have w1 : k < (gs.map int).length := by simpa using hlt1
    have w2 : k < (cs.map int).length := by simpa using hlt2
    have w3 := La_len gs hk1 fa
    have w4 := La_len cs hk2 fb
    have hm := tmod_bound (cs.getD k 0) (m := 60) (by omega)
    have hm2 := md3_b (m := 60) (by omega) (cs.getD k 0)
    have u1 : sN (gs.map fa) (cs.map fb) (k + 1) = sN (gs.map fa) (cs.map fb) k + fa (gs.getD k 0) * fb (cs.getD k 0) := by
      show sN (gs.map fa) (cs.map fb) k + gd _ k * gd _ k = _
      rw [gd_map hlt1, gd_map hlt2]
    have u2 : sD (cs.map fb) (k + 1) = sD (cs.map fb) k + fb (cs.getD k 0) := by
      show sD (cs.map fb) k + gd _ k = _
      rw [gd_map hlt2]
    have hp : -60000 ≤ fa (gs.getD k 0) * fb (cs.getD k 0) ∧ fa (gs.getD k 0) * fb (cs.getD k 0) ≤ 60000 := mul_b ⟨fa_b _, fb_b _⟩
    have hfb := fb_b (cs.getD k 0)
    unfold md3 at hm2
    generalize ha : fa (gs.getD k 0) = a at *
    generalize hbb : fb (cs.getD k 0) = b at *
    have ha' : a = (gs.getD k 0).tmod 1001 := ha.symm
    have hb' : b = IntKind.i64.wrap (1 + ((cs.getD k 0).tmod 60 + 60).tmod 60) := by
      rw [wrap_id (by omega) (by omega)]; exact hbb.symm
    have v1 := take_next gs fa hlt1
    have v2 := take_next cs fb hlt2
    rw [ha] at v1
    rw [hbb] at v2
    ((repeat ((conv => whnf); (first | (refine LetN.pre ?_; first | ((conv => arg 1; whnf); refine LetN.mk ?_)) | (refine As.pre ?_; first | refine As.mk rfl ?_ | (refine As.mk ?_ ?_; · decide +kernel) | refine As.mk (andT (nor_self _) rfl) ?_ | refine As.mk (andT (nor_self _) (or_t _)) ?_ | refine As.mk (andT (or_t _) (or_nself _)) ?_ | refine As.mk (andT (or_t _) (or_t _)) ?_ | refine As.mk (andT (nor_self _) (andT (nor_self _) rfl)) ?_ | (refine As.mk ?_ ?_; · ((repeat' (refine andT ?_ ?_)) <;> (first | rfl | assumption | exact decide_eq_true (by omega) | exact decide_eq_true (by dsimp only; omega) | exact decide_eq_true (by simp; omega) | (simp; done))))) | (refine LetV.pre ?_; first | refine LetV.mk (t := 22) _ (mapD (f := int) (l := gs) (i := k) 0 hlt1) ?_ | refine LetV.mk (t := 22) _ (mapD (f := int) (l := cs) (i := k) 0 hlt2) ?_ | refine LetV.mk (.sc (.int _ _)) rfl ?_ | refine LetV.mk (.sc (.bool _)) rfl ?_ | refine LetV.mk (.sc _) rfl ?_ | refine LetV.mk (.agg _) rfl ?_ | refine LetV.mk (.slm _ _ _ _ _) rfl ?_ | refine LetV.mk (.ro _ _ _) rfl ?_ | refine LetV.mk (.ptr _ _ _ _) rfl ?_) | (refine LetI.pre ?_; first | refine LetI.mk (o := some .rem) a ha' ?_ | refine LetI.mk (o := some .add) b hb' ?_ | refine LetI.wrap (by omega) (by omega) ?_ | refine LetI.mk _ rfl ?_) | (refine LetB.pre ?_; first | refine LetB.tt rfl ?_ | refine LetB.ff rfl ?_ | refine LetB.tt (by assumption) ?_ | refine LetB.ff (by assumption) ?_ | refine LetB.dect (by omega) ?_ | refine LetB.decf (by omega) ?_ | refine LetB.beqt (by omega) ?_ | refine LetB.beqf (by omega) ?_ | refine LetB.bnet (by omega) ?_ | refine LetB.bnef (by omega) ?_ | refine LetB.mk _ rfl ?_) | (refine Gd.pre ?_; first | refine Gd.run rfl ?_ | refine Gd.pass rfl ?_ | refine Gd.run (by assumption) ?_ | refine Gd.pass (by assumption) ?_ | (refine Gd.run ?_ ?_; · decide +kernel) | (refine Gd.pass ?_ ?_; · decide +kernel) | refine Gd.both ?_) | (refine Br.pre ?_; first | refine Br.tt rfl ?_ | refine Br.ff rfl ?_ | refine Br.tt (by assumption) ?_ | refine Br.ff (by assumption) ?_ | (refine Br.tt ?_ ?_; · decide +kernel) | (refine Br.ff ?_ ?_; · decide +kernel)) | (refine Ck.pre ?_; first | refine Ck.drawn (by kernel_rfl) ?_ | refine Ck.mk rfl ?_) | (refine LetL.pre ?_; first | refine LetL.mk (ty := 3) _ v1 ?_ | refine LetL.mk (ty := 3) _ v2 ?_ | refine LetL.mk [_] rfl ?_ | refine LetL.mk _ rfl ?_)))); (try (conv => whnf)))






    refine LoopN.weak ?sw (ih (k + 1) ⟨by omega, by omega, by omega⟩ (by omega))
    case sw => exact SW.mk (fun i => if i = 2 then 4 else if i = 3 then 5 else i) rfl rfl (namesAll.row rfl (namesAll.row rfl (namesAll.row (pure_int _) (namesAll.row (pure_int _) rfl)))) ⟨.refl _, .refl _, .refl _, .refl _, .refl _, VLe2.slm_of (by simp), VLe2.slm_of (by simp), VLe2.int u1, VLe2.int u2, .refl _, trivial⟩ (haveV.one rfl (haveV.one rfl (haveV.row (pure_int _) rfl (haveV.row (pure_int _) rfl trivial))))
  clear ih
  have hbf : (bif (bif decide ((k : Int) < ((gs.map int).length : Int)) then decide ((k : Int) < ((cs.map int).length : Int)) else false) then decide ((k : Int) < 12) else false) = false := by simp; omega
  have x1 : (La gs k).length = k := by simp; omega
  have x2 : (Lb cs k).length = k := by simp; omega
  have x3 : La gs k = (gs.map fa).take k := by simp [La]
  have x4 : Lb cs k = (cs.map fb).take k := by simp [Lb]
  have x5 : ((La gs k).map int).length = k := by rw [List.length_map, x1]
  have x6 : ((Lb cs k).map int).length = k := by rw [List.length_map, x2]
  have hcv := Convert_f c wide (La gs k) (Lb cs k) {} {} (by omega) (by omega)
  rcases Nat.eq_zero_or_pos k with h0 | h0
  · have e : cvt c wide (mv (La gs k) (Lb cs k)) = (0, 1) := by
      rw [mv_ne (.inr (by omega))]
      unfold cvt
      rw [if_neg (not_not_intro hc), if_neg (by decide), if_pos (by decide)]
    rw [e] at hcv
    subst h0
    ((repeat ((conv => whnf); (first | (refine LetN.pre ?_; first | ((conv => arg 1; whnf); refine LetN.mk ?_)) | (refine As.pre ?_; first | refine As.mk rfl ?_ | (refine As.mk ?_ ?_; · decide +kernel) | refine As.mk (andT (nor_self _) rfl) ?_ | refine As.mk (andT (nor_self _) (or_t _)) ?_ | refine As.mk (andT (or_t _) (or_nself _)) ?_ | refine As.mk (andT (or_t _) (or_t _)) ?_ | refine As.mk (andT (nor_self _) (andT (nor_self _) rfl)) ?_ | (refine As.mk ?_ ?_; · ((repeat' (refine andT ?_ ?_)) <;> (first | rfl | assumption | exact decide_eq_true (by omega) | exact decide_eq_true (by dsimp only; omega) | exact decide_eq_true (by simp; omega) | (simp; done))))) | (refine LetV.pre ?_; first | refine LetV.mk (.sc (.int _ _)) rfl ?_ | refine LetV.mk (.sc (.bool _)) rfl ?_ | refine LetV.mk (.sc _) rfl ?_ | refine LetV.mk (.agg _) rfl ?_ | refine LetV.mk (.slm _ _ _ _ _) rfl ?_ | refine LetV.mk (.ro _ _ _) rfl ?_ | refine LetV.mk (.ptr _ _ _ _) rfl ?_) | (refine LetI.pre ?_; first | refine LetI.wrap (by omega) (by omega) ?_ | refine LetI.mk _ rfl ?_) | (refine LetB.pre ?_; first | refine LetB.tt rfl ?_ | refine LetB.ff rfl ?_ | refine LetB.tt (by assumption) ?_ | refine LetB.ff (by assumption) ?_ | refine LetB.dect (by omega) ?_ | refine LetB.decf (by omega) ?_ | refine LetB.beqt (by omega) ?_ | refine LetB.beqf (by omega) ?_ | refine LetB.bnet (by omega) ?_ | refine LetB.bnef (by omega) ?_ | refine LetB.mk _ rfl ?_) | (refine Gd.pre ?_; first | refine Gd.run rfl ?_ | refine Gd.pass rfl ?_ | refine Gd.run (by assumption) ?_ | refine Gd.pass (by assumption) ?_ | (refine Gd.run ?_ ?_; · decide +kernel) | (refine Gd.pass ?_ ?_; · decide +kernel) | refine Gd.both ?_) | (refine Br.pre ?_; first | refine Br.tt rfl ?_ | refine Br.ff rfl ?_ | refine Br.tt (by assumption) ?_ | refine Br.ff (by assumption) ?_ | (refine Br.tt ?_ ?_; · decide +kernel) | (refine Br.ff ?_ ?_; · decide +kernel)) | (refine Ck.pre ?_; first | refine Ck.drawn (by kernel_rfl) ?_ | refine Ck.mk rfl ?_) | (refine LetL.pre ?_; first | refine LetL.mk [_] rfl ?_ | refine LetL.mk _ rfl ?_) | (refine CallN.pre ?_; first | refine CallN.lend hcv rfl (.same rfl (.same rfl (.full rfl (pure_int _) x5.symm (.full rfl (pure_int _) x6.symm .nil)))) ?_)))); (try (conv => whnf)))

    exact ⟨.inl rfl, ⟨_, rfl, rfl⟩, trivial⟩
  have e : cvt c wide (mv (La gs k) (Lb cs k)) = (lim (rd (sN (gs.map fa) (cs.map fb) k * c.1 + c.2.1 * sD (cs.map fb) k) (sD (cs.map fb) k * c.2.2.1) c.2.2.2) (-1000) 1000, 0) := by
    rw [cvt_ok hc (by decide) (by omega) (by omega) (by omega) (by rw [x1, x3, x4]; exact okL_take hok), x1, x3, x4, sN_take, sD_take]
  rw [e] at hcv
  clear e x3 x4 hok
  generalize sN (gs.map fa) (cs.map fb) k = S at *
  generalize sD (cs.map fb) k = A at *
  obtain ⟨hc1, hc2, hc3, hc4⟩ := hc
  have p1 := mul_bd (a := S) (b := c.1) (A := 720000) (B := 1000) (by omega) (by omega)
  have p2 := mul_bd (a := c.2.1) (b := A) (A := 1000) (B := 720) (by omega) (by omega)
  have p3 := mul_bd (a := A) (b := c.2.2.1) (A := 720) (B := 1000) (by omega) (by omega)
  have p4 : 1 * 1 ≤ A * c.2.2.1 := Int.mul_le_mul (by omega) (by omega) (by omega) (by omega)
  have d1 : S * c.1 = IntKind.i64.wrap (S * c.1) := wr_of rfl (by omega) (by omega)
  have d2 : c.2.1 * A = IntKind.i64.wrap (c.2.1 * A) := wr_of rfl (by omega) (by omega)
  have d3 : A * c.2.2.1 = IntKind.i64.wrap (A * c.2.2.1) := wr_of rfl (by omega) (by omega)
  generalize hn : lim (rd (S * c.1 + c.2.1 * A) (A * c.2.2.1) c.2.2.2) (-1000) 1000 = n at hcv
  obtain ⟨o1, o2, o3, o4⟩ := once_plain (by omega) (by omega) hc4 hn
  clear hn
  generalize hP1 : S * c.1 = P1 at *
  generalize hP2 : c.2.1 * A = P2 at *
  generalize hB : A * c.2.2.1 = B at *
  rw [← hP1] at d1
  rw [← hP2] at d2
  rw [← hB] at d3
  rw [hP1] at d1
  rw [hP2] at d2
  rw [hB] at d3
  clear hb
  by_cases t1 : P1 + P2 < -1000 * B
  · have hn := o2 t1
    subst hn
    clear o1 o2 o3 o4
    ((repeat ((conv => whnf); (first | (refine LetN.pre ?_; first | ((conv => arg 1; whnf); refine LetN.mk ?_)) | (refine As.pre ?_; first | refine As.mk rfl ?_ | (refine As.mk ?_ ?_; · decide +kernel) | refine As.mk (andT (nor_self _) rfl) ?_ | refine As.mk (andT (nor_self _) (or_t _)) ?_ | refine As.mk (andT (or_t _) (or_nself _)) ?_ | refine As.mk (andT (or_t _) (or_t _)) ?_ | refine As.mk (andT (nor_self _) (andT (nor_self _) rfl)) ?_ | (refine As.mk ?_ ?_; · ((repeat' (refine andT ?_ ?_)) <;> (first | rfl | assumption | exact decide_eq_true (by omega) | exact decide_eq_true (by dsimp only; omega) | exact decide_eq_true (by simp; omega) | (simp; done))))) | (refine LetV.pre ?_; first | refine LetV.mk (.sc (.int _ _)) rfl ?_ | refine LetV.mk (.sc (.bool _)) rfl ?_ | refine LetV.mk (.sc _) rfl ?_ | refine LetV.mk (.agg _) rfl ?_ | refine LetV.mk (.slm _ _ _ _ _) rfl ?_ | refine LetV.mk (.ro _ _ _) rfl ?_ | refine LetV.mk (.ptr _ _ _ _) rfl ?_) | (refine LetI.pre ?_; first | refine LetI.mk (o := some .mul) P1 (by rw [hP1]; exact wr_of rfl (by omega) (by omega)) ?_ | refine LetI.mk (o := some .mul) P2 (by rw [hP2]; exact wr_of rfl (by omega) (by omega)) ?_ | refine LetI.mk (o := some .mul) B (by rw [hB]; exact wr_of rfl (by omega) (by omega)) ?_ | refine LetI.wrap (by omega) (by omega) ?_ | refine LetI.mk _ rfl ?_) | (refine LetB.pre ?_; first | refine LetB.tt rfl ?_ | refine LetB.ff rfl ?_ | refine LetB.tt (by assumption) ?_ | refine LetB.ff (by assumption) ?_ | refine LetB.dect (by omega) ?_ | refine LetB.decf (by omega) ?_ | refine LetB.beqt (by omega) ?_ | refine LetB.beqf (by omega) ?_ | refine LetB.bnet (by omega) ?_ | refine LetB.bnef (by omega) ?_ | refine LetB.mk _ rfl ?_) | (refine Gd.pre ?_; first | refine Gd.run rfl ?_ | refine Gd.pass rfl ?_ | refine Gd.run (by assumption) ?_ | refine Gd.pass (by assumption) ?_ | (refine Gd.run ?_ ?_; · decide +kernel) | (refine Gd.pass ?_ ?_; · decide +kernel) | refine Gd.both ?_) | (refine Br.pre ?_; first | refine Br.tt rfl ?_ | refine Br.ff rfl ?_ | refine Br.tt (by assumption) ?_ | refine Br.ff (by assumption) ?_ | (refine Br.tt ?_ ?_; · decide +kernel) | (refine Br.ff ?_ ?_; · decide +kernel)) | (refine Ck.pre ?_; first | refine Ck.drawn (by kernel_rfl) ?_ | refine Ck.mk rfl ?_) | (refine LetL.pre ?_; first | refine LetL.mk [_] rfl ?_ | refine LetL.mk _ rfl ?_) | (refine CallN.pre ?_; first | refine CallN.lend hcv rfl (.same rfl (.same rfl (.full rfl (pure_int _) x5.symm (.full rfl (pure_int _) x6.symm .nil)))) ?_)))); (try (conv => whnf)))




    exact ⟨.inl rfl, ⟨_, rfl, rfl⟩, trivial⟩
  by_cases t2 : P1 + P2 > 1000 * B
  · have hn := o3 t2
    subst hn
    clear o1 o2 o3 o4
    ((repeat ((conv => whnf); (first | (refine LetN.pre ?_; first | ((conv => arg 1; whnf); refine LetN.mk ?_)) | (refine As.pre ?_; first | refine As.mk rfl ?_ | (refine As.mk ?_ ?_; · decide +kernel) | refine As.mk (andT (nor_self _) rfl) ?_ | refine As.mk (andT (nor_self _) (or_t _)) ?_ | refine As.mk (andT (or_t _) (or_nself _)) ?_ | refine As.mk (andT (or_t _) (or_t _)) ?_ | refine As.mk (andT (nor_self _) (andT (nor_self _) rfl)) ?_ | (refine As.mk ?_ ?_; · ((repeat' (refine andT ?_ ?_)) <;> (first | rfl | assumption | exact decide_eq_true (by omega) | exact decide_eq_true (by dsimp only; omega) | exact decide_eq_true (by simp; omega) | (simp; done))))) | (refine LetV.pre ?_; first | refine LetV.mk (.sc (.int _ _)) rfl ?_ | refine LetV.mk (.sc (.bool _)) rfl ?_ | refine LetV.mk (.sc _) rfl ?_ | refine LetV.mk (.agg _) rfl ?_ | refine LetV.mk (.slm _ _ _ _ _) rfl ?_ | refine LetV.mk (.ro _ _ _) rfl ?_ | refine LetV.mk (.ptr _ _ _ _) rfl ?_) | (refine LetI.pre ?_; first | refine LetI.mk (o := some .mul) P1 (by rw [hP1]; exact wr_of rfl (by omega) (by omega)) ?_ | refine LetI.mk (o := some .mul) P2 (by rw [hP2]; exact wr_of rfl (by omega) (by omega)) ?_ | refine LetI.mk (o := some .mul) B (by rw [hB]; exact wr_of rfl (by omega) (by omega)) ?_ | refine LetI.wrap (by omega) (by omega) ?_ | refine LetI.mk _ rfl ?_) | (refine LetB.pre ?_; first | refine LetB.tt rfl ?_ | refine LetB.ff rfl ?_ | refine LetB.tt (by assumption) ?_ | refine LetB.ff (by assumption) ?_ | refine LetB.dect (by omega) ?_ | refine LetB.decf (by omega) ?_ | refine LetB.beqt (by omega) ?_ | refine LetB.beqf (by omega) ?_ | refine LetB.bnet (by omega) ?_ | refine LetB.bnef (by omega) ?_ | refine LetB.mk _ rfl ?_) | (refine Gd.pre ?_; first | refine Gd.run rfl ?_ | refine Gd.pass rfl ?_ | refine Gd.run (by assumption) ?_ | refine Gd.pass (by assumption) ?_ | (refine Gd.run ?_ ?_; · decide +kernel) | (refine Gd.pass ?_ ?_; · decide +kernel) | refine Gd.both ?_) | (refine Br.pre ?_; first | refine Br.tt rfl ?_ | refine Br.ff rfl ?_ | refine Br.tt (by assumption) ?_ | refine Br.ff (by assumption) ?_ | (refine Br.tt ?_ ?_; · decide +kernel) | (refine Br.ff ?_ ?_; · decide +kernel)) | (refine Ck.pre ?_; first | refine Ck.drawn (by kernel_rfl) ?_ | refine Ck.mk rfl ?_) | (refine LetL.pre ?_; first | refine LetL.mk [_] rfl ?_ | refine LetL.mk _ rfl ?_) | (refine CallN.pre ?_; first | refine CallN.lend hcv rfl (.same rfl (.same rfl (.full rfl (pure_int _) x5.symm (.full rfl (pure_int _) x6.symm .nil)))) ?_)))); (try (conv => whnf)))




    exact ⟨.inl rfl, ⟨_, rfl, rfl⟩, trivial⟩
  obtain ⟨rs, r1, r2, r3, r4, r5, r6⟩ := o4 t1 t2
  clear o2 o3 o4
  have hN : P1 + P2 - rs = IntKind.i64.wrap (n * B) := by rw [r1]; exact wr_of rfl (by omega) (by omega)
  have hR : rs = IntKind.i64.wrap (P1 + P2 - (P1 + P2 - rs)) := wr_of (by omega) (by omega) (by omega)
  clear r1
  have hcase : c.2.2.2 = 1 ∨ c.2.2.2 = 2 ∨ c.2.2.2 = 3 ∨ (c.2.2.2 = 4 ∧ 2 * rs < B ∧ -2 * rs < B) ∨ (c.2.2.2 = 4 ∧ n.tmod 2 = 0 ∧ ¬ (2 * rs < B ∧ -2 * rs < B)) := by
    by_cases hs : 2 * rs < B ∧ -2 * rs < B
    · omega
    · have : c.2.2.2 = 1 ∨ c.2.2.2 = 2 ∨ c.2.2.2 = 3 ∨ c.2.2.2 = 4 := by omega
      rcases this with h | h | h | h
      · exact .inl h
      · exact .inr (.inl h)
      · exact .inr (.inr (.inl h))
      · have := r6 h
        refine .inr (.inr (.inr (.inr ⟨h, ?_, hs⟩)))
        omega
  rcases hcase with h | h | h | ⟨h, h9⟩ | ⟨h, h9, h10⟩
  all_goals
    ((repeat ((conv => whnf); (first | (refine LetN.pre ?_; first | ((conv => arg 1; whnf); refine LetN.mk ?_)) | (refine As.pre ?_; first | refine As.mk rfl ?_ | (refine As.mk ?_ ?_; · decide +kernel) | refine As.mk (andT (nor_self _) rfl) ?_ | refine As.mk (andT (nor_self _) (or_t _)) ?_ | refine As.mk (andT (or_t _) (or_nself _)) ?_ | refine As.mk (andT (or_t _) (or_t _)) ?_ | refine As.mk (andT (nor_self _) (andT (nor_self _) rfl)) ?_ | (refine As.mk ?_ ?_; · ((repeat' (refine andT ?_ ?_)) <;> (first | rfl | assumption | exact decide_eq_true (by omega) | exact decide_eq_true (by dsimp only; omega) | exact decide_eq_true (by simp; omega) | (simp; done))))) | (refine LetV.pre ?_; first | refine LetV.mk (.sc (.int _ _)) rfl ?_ | refine LetV.mk (.sc (.bool _)) rfl ?_ | refine LetV.mk (.sc _) rfl ?_ | refine LetV.mk (.agg _) rfl ?_ | refine LetV.mk (.slm _ _ _ _ _) rfl ?_ | refine LetV.mk (.ro _ _ _) rfl ?_ | refine LetV.mk (.ptr _ _ _ _) rfl ?_) | (refine LetI.pre ?_; first | refine LetI.mk (o := some .mul) P1 (by rw [hP1]; exact wr_of rfl (by omega) (by omega)) ?_ | refine LetI.mk (o := some .mul) P2 (by rw [hP2]; exact wr_of rfl (by omega) (by omega)) ?_ | refine LetI.mk (o := some .mul) B (by rw [hB]; exact wr_of rfl (by omega) (by omega)) ?_ | refine LetI.mk (o := some .mul) (P1 + P2 - rs) hN ?_ | refine LetI.mk (o := some .sub) rs hR ?_ | refine LetI.wrap (by omega) (by omega) ?_ | refine LetI.mk _ rfl ?_) | (refine LetB.pre ?_; first | refine LetB.tt rfl ?_ | refine LetB.ff rfl ?_ | refine LetB.tt (by assumption) ?_ | refine LetB.ff (by assumption) ?_ | refine LetB.dect (by omega) ?_ | refine LetB.decf (by omega) ?_ | refine LetB.beqt (by omega) ?_ | refine LetB.beqf (by omega) ?_ | refine LetB.bnet (by omega) ?_ | refine LetB.bnef (by omega) ?_ | refine LetB.mk _ rfl ?_) | (refine Gd.pre ?_; first | refine Gd.run rfl ?_ | refine Gd.pass rfl ?_ | refine Gd.run (by assumption) ?_ | refine Gd.pass (by assumption) ?_ | (refine Gd.run ?_ ?_; · decide +kernel) | (refine Gd.pass ?_ ?_; · decide +kernel) | refine Gd.both ?_) | (refine Br.pre ?_; first | refine Br.tt rfl ?_ | refine Br.ff rfl ?_ | refine Br.tt (by assumption) ?_ | refine Br.ff (by assumption) ?_ | (refine Br.tt ?_ ?_; · decide +kernel) | (refine Br.ff ?_ ?_; · decide +kernel)) | (refine Ck.pre ?_; first | refine Ck.drawn (by kernel_rfl) ?_ | refine Ck.mk rfl ?_) | (refine LetL.pre ?_; first | refine LetL.mk [_] rfl ?_ | refine LetL.mk _ rfl ?_) | (refine CallN.pre ?_; first | refine CallN.lend hcv rfl (.same rfl (.same rfl (.full rfl (pure_int _) x5.symm (.full rfl (pure_int _) x6.symm .nil)))) ?_)))); (try (conv => whnf)))






    exact ⟨.inl rfl, ⟨_, rfl, rfl⟩, trivial⟩
end Sc
end Go.Proofs.Ytaphjgkllhfofaa
