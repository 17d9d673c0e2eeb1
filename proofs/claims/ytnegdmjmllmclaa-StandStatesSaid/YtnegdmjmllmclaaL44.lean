/- stand: parts of the proof, DstandLO. -/
import Derived.Test.YtnegdmjmllmclaaL43
set_option linter.all false
namespace Go.Proofs.Ytnegdmjmllmclaa
open Go.Proofs.Ytnegdmjmllmclaa.Am
set_option maxRecDepth 100000
namespace En
/-! ### StandStates -/
theorem M10.bE {sc day : Int} {l : List E} (h : M10 sc day l) (hsc : 1 ≤ sc ∧ sc ≤ 3) (hl : l.length ≤ 1000) (hd : day ≤ 600) : ∀ e ∈ l, En.bE e := fun e he => by
  have h1 := h.toIds.range he
  have h2 := h.ok e he
  have h3 := h2.school
  have h4 := h2.day
  have h5 := h2.on
  exact ⟨by omega, by omega, by omega, by omega⟩
theorem bE.okW {e : E} (h : bE e) : Dt.okW e.on_ := by have := h.on; exact ⟨by omega, by omega⟩
theorem set_en {l : List E} {j : Nat} (e : E) : (l.set j e).map en = (l.map en).set (0 + j) (en e) := by rw [Nat.zero_add, List.map_set]
theorem hso_en (L : List E) : storables (L.map en) = true := by have h := stor_en L 0 L.length; rw [List.drop_zero, List.take_of_length_le (by simp)] at h; exact h
abbrev i3 (q : Int × Int × Int) : AV := .agg [int q.1, int q.2.1, int q.2.2]
abbrev rawA (fl : Fl) (R : List E) (s n : Int × Int × Int) : AV := .agg [.ro fl 15 (R.map en), int s.1, int s.2.1, int s.2.2, int n.1, int n.2.1, int n.2.2]
abbrev ssH (q : Int × Int × Int) (r : AV) (s : Sc.Scl) : AH := [(0, .row 3 26 [i3 q]), (1, .row 7 31 [r]), (2, .row 3 29 [Sc.scA s])]
theorem ssHN (q : Int × Int × Int) (r : AV) (hr : r.names (fun _ => false) = true) (s : Sc.Scl) (O : List E) (ok : Nat → Bool) : namesAll ok (ssH q r s ++ [(3, .row 15 ety (O.map en))]) = true :=
  namesAll.row rfl (namesAll.row (by simp only [AV.namesL, hr]; rfl) (namesAll.row rfl (namesAll.row (pure_en _) rfl)))
theorem ssHM (q : Int × Int × Int) (r : AV) (hr : r.names (fun _ => false) = true) (s : Sc.Scl) (ok : Nat → Bool) : namesAll ok (ssH q r s) = true :=
  namesAll.row rfl (namesAll.row (by simp only [AV.namesL, hr]; rfl) (namesAll.row rfl rfl))
abbrev ssF (l : List E) (st a t : Int) (x : AV) : Fr := [(4, .ptr 0 3 0 0), (5, .ptr 1 7 0 0), (7, bool true), (8, .ro {} 15 (l.map en)), (9, .ptr 2 3 0 0), (10, int st), (11, int a), (12, int t), (13, x)]
abbrev ssB (q : Int × Int × Int) (r : AV) (s : Sc.Scl) (l : List E) (st a t : Int) (O : List E) : AS := ⟨ssF l st a t (.slm {} 3 15 0 O.length), ssH q r s ++ [(3, .row 15 ety (O.map en))], 4⟩
abbrev ssC (q : Int × Int × Int) (r : AV) (s : Sc.Scl) (l : List E) (st a t : Int) (O : List E) : AS := ⟨ssF l st a t (.ro {} 15 (O.map en)), ssH q r s, 4⟩
theorem ss_frz {x z : Nat} (q : Int × Int × Int) (r : AV) (hr : r.frz (ssH q r (0, 0, 0)) (fun _ => false) = r) (s : Sc.Scl) (l : List E) (st a t : Int) (O : List E) (h1 : r.frz (ssB q r s l st a t O).H [3].contains = r) (h2 : r.frzOk (ssB q r s l st a t O).H [3].contains = true) : SW x z (ssB q r s l st a t O) (ssC q r s l st a t O) := by
  have h := SW.frz (p := x) (n := z) (s := ssB q r s l st a t O) [3] ?_ ?_ ?_
  · have e : (⟨frFrz (ssB q r s l st a t O).H [3].contains (ssB q r s l st a t O).fr, AH.frz (ssB q r s l st a t O).H (ssB q r s l st a t O).H [3].contains, (ssB q r s l st a t O).nx⟩ : AS) = ssC q r s l st a t O := by
      refine congr (congr (congrArg AS.mk ?_) ?_) rfl
      · simp [frFrz, AV.frz, AH.get]
        exact List.take_of_length_le (by simp)
      · show (0, _) :: (1, Blk.row 7 _ [r.frz _ _]) :: _ = _
        rw [h1]; rfl
    exact e ▸ h
  · simp [rowsOk, AH.get, pure_en]
  · show (_ && (_ && _)) = true
    simp only [Bool.and_eq_true]
    refine ⟨rfl, ?_, rfl⟩
    show (false || (r.frzOk _ _ && true)) = true
    rw [h2]; rfl
  · simp [frFrzOk, AV.frzOk, AH.get]
abbrev ssG (l O R : List E) (f : Fl) : AV := .ro {} 1 [.ro {} 15 (l.map en), .ro {} 15 (O.map en), .ro f 15 (R.map en)]
abbrev ssT (s u : Sc.Scl) : AV := .ro {} 3 [Sc.scA s, Sc.scA u]
abbrev ssN (st a t : Int) (n : Int × Int × Int) : List (Int × Int × Int) := [(st, a, t), (st, 1099511627776, t), n, (st, n.2.1, n.2.2.tmod 12)]
abbrev ssX (st a t : Int) (b : Fr) : Fr := (5, .ptr 1 7 0 0) :: (7, bool true) :: (9, .ptr 2 3 0 0) :: (10, int st) :: (11, int a) :: (12, int t) :: b
abbrev ssD (q : Int × Int × Int) (r : AV) (s : Sc.Scl) (st a t : Int) (G : AV) (i : Nat) : AS := ⟨ssX st a t [(73, G), (74, int 3), (75, int i)], ssH q r s, 3⟩
abbrev ssE (q : Int × Int × Int) (r : AV) (s : Sc.Scl) (st a t : Int) (G : AV) (i : Nat) (y : List E) : AS := ⟨ssX st a t [(73, G), (74, int 3), (75, int i), (16, .ro {} 15 (y.map en))], ssH q r s, 3⟩
abbrev ssJ (q : Int × Int × Int) (r : AV) (s : Sc.Scl) (st a t : Int) (G : AV) (i : Nat) (y : List E) (T : AV) (j : Nat) : AS := ⟨ssX st a t [(73, G), (74, int 3), (75, int i), (16, .ro {} 15 (y.map en)), (82, T), (83, int 2), (84, int j)], ssH q r s, 3⟩
abbrev ssK (q : Int × Int × Int) (r : AV) (s : Sc.Scl) (st a t : Int) (G : AV) (i : Nat) (y : List E) (T : AV) (j : Nat) (u : Sc.Scl) : AS := ⟨ssX st a t [(73, G), (74, int 3), (75, int i), (16, .ro {} 15 (y.map en)), (82, T), (83, int 2), (84, int j), (18, .ptr 3 3 0 0)], ssH q r s ++ [(3, .row 3 29 [Sc.scA u])], 4⟩
abbrev ssL (q : Int × Int × Int) (r : AV) (s : Sc.Scl) (st a t : Int) (G : AV) (i : Nat) (y : List E) (T : AV) (j : Nat) (u : Sc.Scl) (N : List (Int × Int × Int)) (k : Nat) : AS := ⟨ssX st a t [(73, G), (74, int 3), (75, int i), (16, .ro {} 15 (y.map en)), (82, T), (83, int 2), (84, int j), (18, .ptr 3 3 0 0), (106, .ro {} 3 (N.map i3)), (107, int 4), (108, int k)], ssH q r s ++ [(3, .row 3 29 [Sc.scA u])], 4⟩
theorem ssV {q : Int × Int × Int} {r : AV} {s : Sc.Scl} {H : AH} {n : Nat} (hr : r.names (fun _ => false) = true) (h0 : AH.get H 0 = some (.row 3 26 [i3 q])) (h1 : AH.get H 1 = some (.row 7 31 [r])) (h2 : AH.get H 2 = some (.row 3 29 [Sc.scA s])) : haveV id H n (ssH q r s) :=
  haveV.row rfl h0 (haveV.row (by simp only [AV.namesL, hr]; rfl) h1 (haveV.row rfl h2 trivial))
theorem ssHK (q : Int × Int × Int) (r : AV) (hr : r.names (fun _ => false) = true) (s u : Sc.Scl) (ok : Nat → Bool) : namesAll ok (ssH q r s ++ [(3, .row 3 29 [Sc.scA u])]) = true :=
  namesAll.row rfl (namesAll.row (by simp only [AV.namesL, hr]; rfl) (namesAll.row rfl (namesAll.row rfl rfl)))
theorem ssVK {q : Int × Int × Int} {r : AV} {s u : Sc.Scl} {H : AH} {n : Nat} (hr : r.names (fun _ => false) = true) (h0 : AH.get H 0 = some (.row 3 26 [i3 q])) (h1 : AH.get H 1 = some (.row 7 31 [r])) (h2 : AH.get H 2 = some (.row 3 29 [Sc.scA s])) (h3 : AH.get H 3 = some (.row 3 29 [Sc.scA u])) : haveV id H n (ssH q r s ++ [(3, .row 3 29 [Sc.scA u])]) :=
  haveV.row rfl h0 (haveV.row (by simp only [AV.namesL, hr]; rfl) h1 (haveV.row rfl h2 (haveV.row rfl h3 trivial)))
theorem getD_i3 {N : List (Int × Int × Int)} {k : Nat} (h : k < N.length) : i3 (N.getD k (0, 0, 0)) = (N.map i3).getD k (.sc undef) := mapD (f := i3) (0, 0, 0) h
set_option maxHeartbeats 3200000 in
set_option maxRecDepth 100000 in
theorem sstates (xs : List Int) (fl : Fl) (hx : xs.length ≤ 9223372036854775807) (c : Int × Int × Int × Int) (h1 : 0 ≤ c.1 ∧ c.1 ≤ 255) (h2 : 0 ≤ c.2.1 ∧ c.2.1 ≤ 255) (h3 : 0 ≤ c.2.2.1 ∧ c.2.2.1 ≤ 65535) (h4 : 0 ≤ c.2.2.2 ∧ c.2.2.2 ≤ 255) (q : Int × Int × Int) (R : List E) (fr : Fl) (hR : R.length ≤ 9223372036854775807) (hRo : ∀ e ∈ R, Dt.okW e.on_) (u n : Int × Int × Int) :
    AFun Try.prog 3 0 [.agg [.ro fl 1 (xs.map int), u8' c.1, u8' c.2.1, u16 c.2.2.1, u8' c.2.2.2], i3 q, rawA fr R u n] [] (bool true) [] := by
  obtain ⟨sc, l, st, a, t, ⟨_, hsc⟩, ⟨hl, hM⟩, hst, ha, ht, hC⟩ := made_f xs fl hx c h1 h2 h3 h4
  clear h1 h2 h3 h4
  generalize sclOf sc = s at hC
  have hml : (l.map en).length = l.length := List.length_map _
  have hmR : (R.map en).length = R.length := List.length_map _
  have hbl := hM.bE hsc (by omega) (by omega)
  have hsl := hso_en l
  have r1 := room_en (n := 0 + (l.map en).length) (by omega)
  have a0 : l.map en = List.take 0 ([] : List AV) ++ l.map en := rfl
  have hr : (rawA fr R u n).names (fun _ => false) = true := rfl
  refine AFun.of_VS T_ok Try.func3 rfl (Nat.le_of_ble_eq_true rfl) ?_
  refine VS.cut T_ok mixed rfl ?_
  ((repeat ((conv => whnf); (first | (refine LetN.pre ?_; first | ((conv => arg 1; whnf); refine LetN.mk ?_)) | (refine As.pre ?_; first | refine As.mk rfl ?_) | (refine Ck.pre ?_; first | refine Ck.mk rfl ?_)))); (try (conv => whnf)))


  refine VS.cut T_ok mixed rfl ?_
  ((repeat ((conv => whnf); (first | (refine As.pre ?_; first | refine As.mk rfl ?_) | (refine Ck.pre ?_; first | refine Ck.mk rfl ?_) | (refine CallN.pre ?_; first | refine CallN.pure sanity_f rfl rfl ?_)))); (try (conv => whnf)))
  refine VS.cut T_ok mixed rfl ?_
  ((repeat ((conv => whnf); (first | (refine LetN.pre ?_; first | ((conv => arg 1; whnf); refine LetN.mk ?_)) | (refine As.pre ?_; first | refine As.mk rfl ?_) | (refine LetV.pre ?_; first | refine LetV.mk (.agg _) rfl ?_) | (refine Ck.pre ?_; first | refine Ck.mk rfl ?_) | (refine LetL.pre ?_; first | refine LetL.mk (ty := 29) [.agg [_, _, _]] rfl ?_) | (refine CallN.pre ?_; first | refine CallN.pure hC rfl rfl ?_)))); (try (conv => whnf)))
  refine VS.cut T_ok mixed rfl ?_
  ((repeat ((conv => whnf); (first | (refine LetN.pre ?_; first | ((conv => arg 1; whnf); refine LetN.mk ?_)) | (refine As.pre ?_; first | refine As.mk rfl ?_ | (refine As.mk ?_ ?_; · ((repeat' (refine andT ?_ ?_)) <;> (first | rfl | assumption | exact decide_eq_true (by omega) | exact decide_eq_true (by dsimp only; omega) | exact decide_eq_true (by simp; omega) | (simp; done))))) | (refine Ck.pre ?_; first | refine Ck.mk rfl ?_) | (refine LetL.pre ?_; first | refine LetL.mk (ty := ety) _ a0 ?_)))); (try (conv => whnf)))

  clear hC
  refine VS.weak (s1 := ssB q (rawA fr R u n) s l st a t l) ?sw0 ?_
  case sw0 => exact SW.mk (fun i => if i = 3 then 5 else if i < 3 then i + 1 else i + 6) rfl rfl (ssHN _ _ hr ..) ⟨.refl _, .refl _, .refl _, .refl _, .refl _, .refl _, .refl _, .refl _, VLe2.slm_of (by rw [hml]; omega), trivial⟩ (haveV.row rfl rfl (haveV.row rfl rfl (haveV.row rfl rfl (haveV.row (pure_en _) rfl trivial))))
  clear r1 a0 hsl
  refine VS.joinN (ssB q (rawA fr R u n) s l st a t) (fun O => O.length ≤ 24 ∧ ∀ e ∈ O, bE e) ?_ ?_
  case refine_1 =>
    refine VS.of_V T_ok mixed rfl ?_
    by_cases h0 : l = []
    · subst h0
      ((repeat ((conv => whnf); (first | (refine As.pre ?_; first | refine As.mk rfl ?_) | (refine LetI.pre ?_; first | refine LetI.mk _ rfl ?_) | (refine LetB.pre ?_; first | refine LetB.ff rfl ?_) | (refine Br.pre ?_; first | refine Br.ff rfl ?_) | (refine Ck.pre ?_; first | refine Ck.mk rfl ?_)))); (try (conv => whnf)))
      exact ⟨rfl, [], ⟨hl, hbl⟩, SW.mk id rfl rfl (ssHN _ _ hr ..) ⟨.refl _, .refl _, .refl _, .refl _, .refl _, .refl _, .refl _, .refl _, .refl _, trivial⟩ (haveV.row rfl rfl (haveV.row rfl rfl (haveV.row rfl rfl (haveV.row (pure_en _) rfl trivial))))⟩
    have hpos : 0 < l.length := List.length_pos_iff.2 h0
    obtain ⟨j, hj, hjj⟩ : ∃ j : Nat, j < l.length ∧ (j : Int) = (q.1.tmod (l.length : Int) + (l.length : Int)).tmod (l.length : Int) := by
      have b1 := tmod_bound q.1 (m := (l.length : Int)) (by omega)
      have b2 := Int.tmod_nonneg (l.length : Int) (a := q.1.tmod (l.length : Int) + (l.length : Int)) (by omega)
      have b3 := Int.tmod_lt_of_pos (q.1.tmod (l.length : Int) + (l.length : Int)) (b := (l.length : Int)) (by omega)
      generalize (q.1.tmod (l.length : Int) + (l.length : Int)).tmod (l.length : Int) = z at b2 b3
      exact ⟨z.toNat, by omega, by omega⟩
    have hMo := Mod_f q.1 (l.length : Int) (by omega)
    rw [← hjj] at hMo
    obtain ⟨e', he', hO⟩ := Odd10_f (l.getD j e0) q.2.1 q.2.2 (hbl _ (getD_mem' hj))
    have hv : en (l.getD j e0) = Am.part true 15 0 15 ((l.map en).getD (0 + j) (.sc undef)) := getD_en hj
    have hset := set_en (l := l) (j := j) e'
    have hls : (l.set j e').length = l.length := List.length_set
    unfold od at hO
    have hres : (l.set j e').length ≤ 24 ∧ ∀ e ∈ l.set j e', bE e := ⟨by omega, fun e he => by
      rcases List.mem_or_eq_of_mem_set he with h | h
      · exact hbl e h
      · rw [h]; exact he'⟩
    generalize l.getD j e0 = e at hv hO
    clear hM hbl hjj
    ((repeat ((conv => whnf); (first | (refine LetN.pre ?_; first | ((conv => arg 1; whnf); refine LetN.mk ?_)) | (refine As.pre ?_; first | refine As.mk rfl ?_ | (refine As.mk ?_ ?_; · ((repeat' (refine andT ?_ ?_)) <;> (first | rfl | assumption | exact decide_eq_true (by omega) | exact decide_eq_true (by dsimp only; omega) | exact decide_eq_true (by simp; omega) | (simp; done))))) | (refine LetV.pre ?_; first | refine LetV.mk (t := ety) _ hv ?_ | refine LetV.mk (.sc (.int _ _)) rfl ?_) | (refine LetI.pre ?_; first | refine LetI.mk _ rfl ?_) | (refine LetB.pre ?_; first | refine LetB.dect (by omega) ?_) | (refine Br.pre ?_; first | refine Br.tt rfl ?_) | (refine Ck.pre ?_; first | refine Ck.drawn (by kernel_rfl) ?_ | refine Ck.mk rfl ?_) | (refine LetL.pre ?_; first | refine LetL.mk (ty := ety) _ hset ?_) | (refine CallN.pre ?_; first | refine CallN.pure hMo rfl rfl ?_ | refine CallN.pure hO rfl rfl ?_)))); (try (conv => whnf)))




    exact ⟨rfl, l.set j e', hres, SW.mk id rfl rfl (ssHN _ _ hr ..) ⟨.refl _, .refl _, .refl _, .refl _, .refl _, .refl _, .refl _, .refl _, VLe2.slm_of hls, trivial⟩ (haveV.row rfl rfl (haveV.row rfl rfl (haveV.row rfl rfl (haveV.row (pure_en _) rfl trivial))))⟩
  intro O ⟨hO1, hO2⟩
  refine VS.weak (ss_frz q (rawA fr R u n) rfl s l st a t O rfl rfl) ?_
  obtain ⟨m, hm, hmm⟩ : ∃ m : Nat, m ≤ 6 ∧ m = min R.length 6 := ⟨_, Nat.min_le_right _ _, rfl⟩
  have hmi : (m : Int) = min (R.length : Int) 6 := by omega
  have hy1 : l.length < 40 ∧ ∀ e ∈ l, Dt.okW e.on_ := ⟨by omega, fun e he => (hbl e he).okW⟩
  have hy2 : O.length < 40 ∧ ∀ e ∈ O, Dt.okW e.on_ := ⟨by omega, fun e he => (hO2 e he).okW⟩
  have hy3 : (R.take m).length < 40 ∧ ∀ e ∈ R.take m, Dt.okW e.on_ := ⟨by rw [List.length_take]; omega, fun e he => hRo e (List.mem_of_mem_take he)⟩
  have hwt := tmod_bound n.2.2 (m := 12) (by omega)
  clear hO1 hO2 hbl hM hml hl hRo
  refine VS.joinN (fun _ : Unit => (⟨[(7, bool true)], [], 0⟩ : AS)) (fun _ => True) ?_ ?_
  case refine_2 =>
    intro _ _
    refine VS.of_V T_ok mixed rfl ?_
    ((repeat ((conv => whnf); (first | (refine As.pre ?_; first | refine As.mk rfl ?_) | (refine Ck.pre ?_; first | refine Ck.mk rfl ?_)))); (try (conv => whnf)))
    exact ⟨⟨[(6, bool true)], [], 0⟩, SW.fr0 (Nat.le_refl _) rfl ⟨.refl _, trivial⟩, .inl rfl, ⟨_, rfl, rfl⟩, trivial⟩
  have hmt : (R.take m).map en = List.take ((min ((R.map en).length : Int) 6).toNat - (0 : Int).toNat) (List.drop (0 : Int).toNat (R.map en)) := by
    have e : (min ((R.map en).length : Int) 6).toNat - (0 : Int).toNat = m := by rw [hmR]; omega
    rw [e, List.map_take]; rfl
  refine VS.cut T_ok mixed rfl ?_
  ((repeat ((conv => whnf); (first | (refine As.pre ?_; first | refine As.mk rfl ?_ | (refine As.mk ?_ ?_; · ((repeat' (refine andT ?_ ?_)) <;> (first | rfl | assumption | exact decide_eq_true (by omega) | exact decide_eq_true (by dsimp only; omega) | exact decide_eq_true (by simp; omega) | (simp; done))))) | (refine LetV.pre ?_; first | refine LetV.mk (.ro _ _ _) rfl ?_) | (refine LetI.pre ?_; first | refine LetI.mk _ rfl ?_) | (refine Ck.pre ?_; first | refine Ck.mk rfl ?_)))); (try (conv => whnf)))
  refine VS.block (VS.loop ?_)
  refine LoopN.weak (s1 := ssD q (rawA fr R u n) s st a t (ssG l O (R.take m) { nn := fr.nn }) 0) ?sw4 ?_
  case sw4 => exact SW.mk id rfl rfl (ssHM _ _ hr ..) ⟨.refl _, .refl _, .refl _, .refl _, .refl _, .refl _, VLe2.ro_of (by rw [hmt]; rfl), .refl _, .refl _, trivial⟩ (ssV hr rfl rfl rfl)
  clear hmt hmi hm hmm hmR hR
  generalize R.take m = R6 at hy3
  obtain ⟨f6, hf6⟩ : ∃ f : Fl, f = { nn := fr.nn } := ⟨_, rfl⟩
  rw [← hf6]
  clear hf6
  refine LoopN.indS (S := ssD q (rawA fr R u n) s st a t (ssG l O R6 f6)) (fun i => 3 - i) (fun i => i ≤ 3) (fun i hi ih => ?_) 0 (Nat.zero_le _)
  by_cases hi2 : i < 3
  case neg =>
    clear ih
    refine VS.of_V T_ok mixed rfl ?_
    ((repeat ((conv => whnf); (first | (refine As.pre ?_; first | refine As.mk rfl ?_) | (refine LetB.pre ?_; first | refine LetB.decf (by omega) ?_) | (refine Br.pre ?_; first | refine Br.ff rfl ?_) | (refine Ck.pre ?_; first | refine Ck.mk rfl ?_)))); (try (conv => whnf)))
    exact ⟨rfl, (), trivial, SW.fr0 (Nat.zero_le _) rfl ⟨.refl _, trivial⟩⟩
  have hnx := ih (i + 1) hi2 (by omega)
  clear ih
  obtain ⟨fy, y, hy, hyv⟩ : ∃ (fy : Fl) (y : List E), (y.length < 40 ∧ ∀ e ∈ y, Dt.okW e.on_) ∧ AV.ro fy 15 (y.map en) = ([.ro {} 15 (l.map en), .ro {} 15 (O.map en), .ro f6 15 (R6.map en)] : List AV).getD i (.sc undef) := by
    have : i = 0 ∨ i = 1 ∨ i = 2 := by omega
    rcases this with rfl | rfl | rfl
    · exact ⟨{}, l, hy1, rfl⟩
    · exact ⟨{}, O, hy2, rfl⟩
    · exact ⟨f6, R6, hy3, rfl⟩
  clear hy1 hy2 hy3
  refine VS.cut T_ok mixed rfl ?_
  ((repeat ((conv => whnf); (first | (refine As.pre ?_; first | refine As.mk rfl ?_) | (refine LetB.pre ?_; first | refine LetB.dect (by omega) ?_) | (refine Ck.pre ?_; first | refine Ck.mk rfl ?_)))); (try (conv => whnf)))
  refine VS.cut T_ok mixed rfl ?_
  ((repeat ((conv => whnf); (first | (refine Br.pre ?_; first | refine Br.tt rfl ?_) | (refine Ck.pre ?_; first | refine Ck.mk rfl ?_)))); (try (conv => whnf)))
  refine VS.joinN (fun _ : Unit => ssD q (rawA fr R u n) s st a t (ssG l O R6 f6) i) (fun _ => True) ?_ ?_
  case refine_2 =>
    intro _ _
    refine VS.of_V T_ok mixed rfl ?_
    ((repeat ((conv => whnf); (first | (refine As.pre ?_; first | refine As.mk rfl ?_) | (refine LetI.pre ?_; first | refine LetI.wrap (by omega) (by omega) ?_) | (refine Ck.pre ?_; first | refine Ck.mk rfl ?_)))); (try (conv => whnf)))
    refine LoopN.weak ?sw5 hnx
    case sw5 => exact SW.mk id rfl rfl (ssHM _ _ hr ..) ⟨.refl _, .refl _, .refl _, .refl _, .refl _, .refl _, .refl _, .refl _, VLe2.int (by omega), trivial⟩ (ssV hr rfl rfl rfl)
  clear hnx
  refine VS.block ?_
  refine VS.cut T_ok mixed rfl ?_
  ((repeat ((conv => whnf); (first | (refine As.pre ?_; first | refine As.mk rfl ?_ | (refine As.mk ?_ ?_; · ((repeat' (refine andT ?_ ?_)) <;> (first | rfl | assumption | exact decide_eq_true (by omega) | exact decide_eq_true (by dsimp only; omega) | exact decide_eq_true (by simp; omega) | (simp; done))))) | (refine LetV.pre ?_; first | refine LetV.mk (t := 40) _ hyv ?_ | refine LetV.mk (.ro _ _ _) rfl ?_) | (refine Ck.pre ?_; first | refine Ck.mk rfl ?_)))); (try (conv => whnf)))
  refine VS.weak (s1 := ssE q (rawA fr R u n) s st a t (ssG l O R6 f6) i y) ?sw6 ?_
  case sw6 => exact SW.mk id rfl rfl (ssHM _ _ hr ..) ⟨.refl _, .refl _, .refl _, .refl _, .refl _, .refl _, .refl _, .refl _, .refl _, VLe2.ro_of rfl, trivial⟩ (ssV hr rfl rfl rfl)
  clear hyv
  refine VS.cut T_ok mixed rfl ?_
  ((repeat ((conv => whnf); (first | (refine As.pre ?_; first | refine As.mk rfl ?_) | (refine LetV.pre ?_; first | refine LetV.mk (.agg _) rfl ?_) | (refine LetI.pre ?_; first | refine LetI.mk _ rfl ?_) | (refine Ck.pre ?_; first | refine Ck.mk rfl ?_)))); (try (conv => whnf)))
  refine VS.block (VS.loop ?_)
  refine LoopN.weak (s1 := ssJ q (rawA fr R u n) s st a t (ssG l O R6 f6) i y (ssT s u) 0) ?sw7 ?_
  case sw7 => exact SW.mk id rfl rfl (ssHM _ _ hr ..) ⟨.refl _, .refl _, .refl _, .refl _, .refl _, .refl _, .refl _, .refl _, .refl _, .refl _, VLe2.ro_of rfl, .refl _, .refl _, trivial⟩ (ssV hr rfl rfl rfl)
  refine LoopN.indS (S := ssJ q (rawA fr R u n) s st a t (ssG l O R6 f6) i y (ssT s u)) (fun j => 2 - j) (fun j => j ≤ 2) (fun j hj ih => ?_) 0 (Nat.zero_le _)
  by_cases hj2 : j < 2
  case neg =>
    clear ih
    refine VS.of_V T_ok mixed rfl ?_
    ((repeat ((conv => whnf); (first | (refine As.pre ?_; first | refine As.mk rfl ?_) | (refine LetB.pre ?_; first | refine LetB.decf (by omega) ?_) | (refine Br.pre ?_; first | refine Br.ff rfl ?_) | (refine Ck.pre ?_; first | refine Ck.mk rfl ?_)))); (try (conv => whnf)))
    exact ⟨rfl, (), trivial, SW.mk id rfl rfl (ssHM _ _ hr ..) ⟨.refl _, .refl _, .refl _, .refl _, .refl _, .refl _, .refl _, .refl _, .refl _, trivial⟩ (ssV hr rfl rfl rfl)⟩
  have hnx := ih (j + 1) hj2 (by omega)
  clear ih
  obtain ⟨w, hwv⟩ : ∃ w : Sc.Scl, Sc.scA w = ([Sc.scA s, Sc.scA u] : List AV).getD j (.sc undef) := by
    have : j = 0 ∨ j = 1 := by omega
    rcases this with rfl | rfl
    · exact ⟨s, rfl⟩
    · exact ⟨u, rfl⟩
  refine VS.cut T_ok mixed rfl ?_
  ((repeat ((conv => whnf); (first | (refine As.pre ?_; first | refine As.mk rfl ?_) | (refine LetB.pre ?_; first | refine LetB.dect (by omega) ?_) | (refine Ck.pre ?_; first | refine Ck.mk rfl ?_)))); (try (conv => whnf)))
  refine VS.cut T_ok mixed rfl ?_
  ((repeat ((conv => whnf); (first | (refine Br.pre ?_; first | refine Br.tt rfl ?_) | (refine Ck.pre ?_; first | refine Ck.mk rfl ?_)))); (try (conv => whnf)))
  refine VS.joinN (fun _ : Unit => ssJ q (rawA fr R u n) s st a t (ssG l O R6 f6) i y (ssT s u) j) (fun _ => True) ?_ ?_
  case refine_2 =>
    intro _ _
    refine VS.of_V T_ok mixed rfl ?_
    ((repeat ((conv => whnf); (first | (refine As.pre ?_; first | refine As.mk rfl ?_) | (refine LetI.pre ?_; first | refine LetI.wrap (by omega) (by omega) ?_) | (refine Ck.pre ?_; first | refine Ck.mk rfl ?_)))); (try (conv => whnf)))
    refine LoopN.weak ?sw8 hnx
    case sw8 => exact SW.mk id rfl rfl (ssHM _ _ hr ..) ⟨.refl _, .refl _, .refl _, .refl _, .refl _, .refl _, .refl _, .refl _, .refl _, .refl _, .refl _, .refl _, VLe2.int (by omega), trivial⟩ (ssV hr rfl rfl rfl)
  clear hnx
  refine VS.block ?_
  refine VS.cut T_ok mixed rfl ?_
  ((repeat ((conv => whnf); (first | (refine LetN.pre ?_; first | ((conv => arg 1; whnf); refine LetN.mk ?_)) | (refine As.pre ?_; first | refine As.mk rfl ?_ | (refine As.mk ?_ ?_; · ((repeat' (refine andT ?_ ?_)) <;> (first | rfl | assumption | exact decide_eq_true (by omega) | exact decide_eq_true (by dsimp only; omega) | exact decide_eq_true (by simp; omega) | (simp; done))))) | (refine LetV.pre ?_; first | refine LetV.mk (t := 41) _ hwv ?_ | refine LetV.mk (.agg _) rfl ?_) | (refine Ck.pre ?_; first | refine Ck.mk rfl ?_) | (refine LetL.pre ?_; first | refine LetL.mk (ty := 29) [.agg [_, _, _]] rfl ?_)))); (try (conv => whnf)))


  refine VS.weak (s1 := ssK q (rawA fr R u n) s st a t (ssG l O R6 f6) i y (ssT s u) j w) ?sw9 ?_
  case sw9 => exact SW.mk id rfl rfl (ssHK _ _ hr ..) ⟨.refl _, .refl _, .refl _, .refl _, .refl _, .refl _, .refl _, .refl _, .refl _, .refl _, .refl _, .refl _, .refl _, .refl _, trivial⟩ (ssVK hr rfl rfl rfl rfl)
  clear hwv
  refine VS.cut T_ok mixed rfl ?_
  ((repeat ((conv => whnf); (first | (refine As.pre ?_; first | refine As.mk rfl ?_) | (refine LetV.pre ?_; first | refine LetV.mk (.sc (.int _ _)) rfl ?_ | refine LetV.mk (.agg _) rfl ?_) | (refine LetI.pre ?_; first | refine LetI.mk _ rfl ?_) | (refine Ck.pre ?_; first | refine Ck.mk rfl ?_)))); (try (conv => whnf)))
  refine VS.block (VS.loop ?_)
  refine LoopN.weak (s1 := ssL q (rawA fr R u n) s st a t (ssG l O R6 f6) i y (ssT s u) j w (ssN st a t n) 0) ?swa ?_
  case swa => exact SW.mk id rfl rfl (ssHK _ _ hr ..) ⟨.refl _, .refl _, .refl _, .refl _, .refl _, .refl _, .refl _, .refl _, .refl _, .refl _, .refl _, .refl _, .refl _, .refl _, VLe2.ro_of rfl, .refl _, .refl _, trivial⟩ (ssVK hr rfl rfl rfl rfl)
  have hN : (ssN st a t n).length = 4 := rfl
  generalize ssN st a t n = N at *
  refine LoopN.indS (S := ssL q (rawA fr R u n) s st a t (ssG l O R6 f6) i y (ssT s u) j w N) (fun k => 4 - k) (fun k => k ≤ 4) (fun k hk ih => ?_) 0 (Nat.zero_le _)
  by_cases hk4 : k < 4
  case neg =>
    clear ih
    refine VS.of_V T_ok mixed rfl ?_
    ((repeat ((conv => whnf); (first | (refine As.pre ?_; first | refine As.mk rfl ?_) | (refine LetB.pre ?_; first | refine LetB.decf (by omega) ?_) | (refine Br.pre ?_; first | refine Br.ff rfl ?_) | (refine Ck.pre ?_; first | refine Ck.mk rfl ?_)))); (try (conv => whnf)))
    exact ⟨rfl, (), trivial, SW.mk id rfl rfl (ssHM _ _ hr ..) ⟨.refl _, .refl _, .refl _, .refl _, .refl _, .refl _, .refl _, .refl _, .refl _, .refl _, .refl _, .refl _, .refl _, trivial⟩ (ssV hr rfl rfl rfl)⟩
  have hnx := ih (k + 1) hk4 (by omega)
  clear ih
  have hv := getD_i3 (N := N) (k := k) (by omega)
  have hNl : (N.map i3).length = 4 := by rw [List.length_map]; exact hN
  generalize N.getD k (0, 0, 0) = v at hv
  have T1 := Terms_f y v.1 v.2.1 {} (by omega) hy.2
  have T2 := refTerms_f y v.1 v.2.1 {} (by omega) hy.2
  have M1 := Means_f y w v.1 v.2.1 v.2.2 hy.1 hy.2
  have M2 := refMeans_f y w v.1 v.2.1 v.2.2 {} hy.1 hy.2
  have S1 := Standing_f y w v.1 v.2.1 v.2.2 hy.1 hy.2
  have S2 := refStanding_f y w v.1 v.2.1 v.2.2 {} hy.1 hy.2
  have P1 := Stipend_f y w v.1 v.2.1 v.2.2 hy.1 hy.2
  have P2 := refStipend_f y w v.1 v.2.1 v.2.2 {} hy.1 hy.2
  generalize minP (trmP y v.1 v.2.1) = z1 at T1 T2
  generalize maxP (trmP y v.1 v.2.1) = z2 at T1 T2
  generalize decide (trmP y v.1 v.2.1 ≠ []) = z3 at T1 T2
  generalize menP y v.1 v.2.1 v.2.2 = mm at M1 M2
  obtain ⟨⟨z4, z5⟩, z6⟩ := mm
  dsimp only at M1 M2
  generalize stdP y w v.1 v.2.1 v.2.2 = z7 at S1 S2
  generalize stiP y w v.1 v.2.1 v.2.2 = z8 at P1 P2
  have e1 : (z1 != z1) = false := by simp
  have e2 : (z2 != z2) = false := by simp
  have e3 : (z3 != z3) = false := by simp
  have e4 : (!(z4 == z4 && (z5 == z5 && true))) = false := by simp
  have e6 : (z6 != z6) = false := by simp
  have e7 : (z7 != z7) = false := by simp
  have e8 : (z8 != z8) = false := by simp
  clear hy hN
  refine VS.of_V T_ok mixed rfl ?_
  ((repeat ((conv => whnf); (first | (refine LetN.pre ?_; first | ((conv => arg 1; whnf); refine LetN.mk ?_)) | (refine As.pre ?_; first | refine As.mk rfl ?_ | (refine As.mk ?_ ?_; · ((repeat' (refine andT ?_ ?_)) <;> (first | rfl | assumption | exact decide_eq_true (by omega) | exact decide_eq_true (by dsimp only; omega) | exact decide_eq_true (by simp; omega) | (simp; done))))) | (refine LetV.pre ?_; first | refine LetV.mk (t := 42) _ hv ?_ | refine LetV.mk (.sc (.int _ _)) rfl ?_ | refine LetV.mk (.agg _) rfl ?_) | (refine LetI.pre ?_; first | refine LetI.wrap (by omega) (by omega) ?_) | (refine LetB.pre ?_; first | refine LetB.ff (by assumption) ?_ | refine LetB.dect (by omega) ?_) | (refine Gd.pre ?_; first | refine Gd.run rfl ?_) | (refine Br.pre ?_; first | refine Br.tt rfl ?_ | refine Br.ff rfl ?_) | (refine Ck.pre ?_; first | refine Ck.drawn (by kernel_rfl) ?_ | refine Ck.mk rfl ?_) | (refine LetL.pre ?_; first | refine LetL.mk (ty := 26) [.agg [_, _, _]] rfl ?_ | refine LetL.mk (ty := 46) [.agg [_, _]] rfl ?_) | (refine CallN.pre ?_; first | refine CallN.pure T1 rfl rfl ?_ | refine CallN.pure T2 rfl rfl ?_ | refine CallN.pure M1 rfl rfl ?_ | refine CallN.pure M2 rfl rfl ?_ | refine CallN.pure S1 rfl rfl ?_ | refine CallN.pure S2 rfl rfl ?_ | refine CallN.pure P1 rfl rfl ?_ | refine CallN.pure P2 rfl rfl ?_)))); (try (conv => whnf)))


















  refine LoopN.weak ?swb hnx
  case swb => exact SW.mk id rfl rfl (ssHK _ _ hr ..) ⟨.refl _, .refl _, .refl _, .refl _, .refl _, .refl _, .refl _, .refl _, .refl _, .refl _, .refl _, .refl _, .refl _, .refl _, .refl _, .refl _, VLe2.int (by omega), trivial⟩ (ssVK hr rfl rfl rfl rfl)
/-- An entry, as the row gives it. -/
abbrev ET : Type := Int × Int × Int × Int × Int × Int × ByteArray × Int × Int × Int × Int × Int × Int × Int × ByteArray
def toE (x : ET) : E := ⟨x.1, x.2.1, x.2.2.1, x.2.2.2.1, x.2.2.2.2.1, x.2.2.2.2.2.1, x.2.2.2.2.2.2.1, x.2.2.2.2.2.2.2.1, x.2.2.2.2.2.2.2.2.1, x.2.2.2.2.2.2.2.2.2.1, x.2.2.2.2.2.2.2.2.2.2.1, x.2.2.2.2.2.2.2.2.2.2.2.1, x.2.2.2.2.2.2.2.2.2.2.2.2.1, x.2.2.2.2.2.2.2.2.2.2.2.2.2.1, x.2.2.2.2.2.2.2.2.2.2.2.2.2.2⟩
theorem sstates_row (x : List Int × Int × Int × Int × Int) (hx : x.1.length ≤ 9223372036854775807) (h1 : 0 ≤ x.2.1 ∧ x.2.1 ≤ 255) (h2 : 0 ≤ x.2.2.1 ∧ x.2.2.1 ≤ 255) (h3 : 0 ≤ x.2.2.2.1 ∧ x.2.2.2.1 ≤ 65535) (h4 : 0 ≤ x.2.2.2.2 ∧ x.2.2.2.2 ≤ 255) (q : Int × Int × Int) (r : List ET × (Int × Int × Int) × (Int × Int × Int)) (hr : r.1.length ≤ 9223372036854775807) (hro : ∀ e ∈ r.1, Dt.okW (toE e).on_) :
    AFun Try.prog 3 0 [.agg [.ro {} 1 (x.1.map int), u8' x.2.1, u8' x.2.2.1, u16 x.2.2.2.1, u8' x.2.2.2.2], i3 q, .agg [.ro {} 15 (r.1.map fun e => en (toE e)), int r.2.1.1, int r.2.1.2.1, int r.2.1.2.2, int r.2.2.1, int r.2.2.2.1, int r.2.2.2.2]] [] (bool true) [] := by
  have h := sstates x.1 {} hx x.2 h1 h2 h3 h4 q (r.1.map toE) {} (by rw [List.length_map]; exact hr) (fun e he => by
    obtain ⟨y, hy, rfl⟩ := List.mem_map.1 he
    exact hro y hy) r.2.1 r.2.2
  rw [rawA, List.map_map] at h
  exact h
end En
end Go.Proofs.Ytnegdmjmllmclaa
