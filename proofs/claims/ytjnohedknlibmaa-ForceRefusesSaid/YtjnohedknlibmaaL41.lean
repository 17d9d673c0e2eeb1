/- force: parts of the proof, DforceGC DforceGD. -/
import Derived.Test.YtjnohedknlibmaaL40
set_option linter.all false
namespace Go.Proofs.Ytjnohedknlibmaa
open Go.Proofs.Ytjnohedknlibmaa.Am
namespace En
abbrev u8 (v : Int) : AV := .sc (.int .u8 v)
set_option maxHeartbeats 1600000 in
set_option maxRecDepth 100000 in
theorem refuses_0 (L : List (Fl × List Int)) (fl : Fl) (q : Int × Int × Int) (l l' : List E) (hm : MadeOk 14 l) (hl0 : 0 < l.length) (hM : AFun Try.prog 10 0 [.agg [.ro fl 1 (L.map iA), int q.1, int q.2.1, int q.2.2]] [] (.tup [.ro {} 15 (l.map en), .ro {} 15 (l'.map en)]) [])
    (what which : Int) (hwh : 0 ≤ what ∧ what ≤ 255) (hv : 0 ≤ which ∧ which ≤ 255) (hw : 0 = what.tmod 6) : AFun Try.prog 5 0 [.agg [.ro fl 1 (L.map iA), int q.1, int q.2.1, int q.2.2], u8 what, u8 which] [] (bool true) [] := by
  refine AFun.of_W T_ok mixed Try.func5 rfl (Nat.le_of_ble_eq_true rfl) rfl ?_
  have hlen := hm.len
  have hml : (l.map en).length = l.length := List.length_map _
  have hnz : (((l.map en).length : Int) != 0) = true := bne_iff_ne.2 (by omega)
  have hez : (((l.map en).length : Int) == 0) = false := beq_eq_false_iff_ne.2 (by omega)
  obtain ⟨k, hk, hkk⟩ : ∃ k : Nat, k < l.length ∧ ((k : Nat) : Int) = which.tmod (((l.map en).length : Nat) : Int) := by
    rw [hml]
    have h1 := Int.tmod_nonneg (l.length : Int) hv.1
    have h2 := Int.tmod_lt_of_pos which (b := (l.length : Int)) (by omega)
    exact ⟨(which.tmod (l.length : Int)).toNat, by omega, by omega⟩
  have hsub : ((l.length - 1 : Nat) : Int) = IntKind.i64.wrap (((l.map en).length : Int) - 1) := by rw [hml, wrap_id (by omega) (by omega)]; omega
  have hx : en (l.getD k e0) = (l.map en).getD k (.sc undef) := mapD e0 hk
  have hy : en (l.getD (l.length - 1) e0) = (l.map en).getD (l.length - 1) (.sc undef) := mapD e0 (by omega)
  have hxm : l.getD k e0 ∈ l := getD_mem hk
  have hym : l.getD (l.length - 1) e0 ∈ l := getD_mem (by omega)
  have rx := ent_zero (chk_ent hm.chk (by omega) hxm)
  have ry := ent_zero (chk_ent hm.chk (by omega) hym)
  have hr := room_en (n := l.length) (by omega)
  have hr1 := room_en (n := l.length + 1) (by omega)
  have hst := stor_all l
  have hK : ∀ x y : E, x = l.getD k e0 → y = l.getD (l.length - 1) e0 → ∀ e : E, e = ⟨800001, 1, x.student, 5, y.day, x.on_, ⟨#[]⟩, 0, 0, 800002, 0, 0, 0, 0, ⟨#[]⟩⟩ → entE ⟨800001, 1, x.student, 5, y.day, x.on_, ⟨#[]⟩, 0, 0, 800002, 0, 0, 0, 0, ⟨#[]⟩⟩ = 0 → chkE (l ++ [e]) = 21 := by
    intro x y hX hY e he hz
    rw [← hX] at hxm
    rw [chkM hm]
    exact ref_none hm hl0 (he ▸ hz) (by rw [he]) (by rw [he]; exact (by decide : (800000 : Int) < 800001)) (by rw [he]; exact (show y.day = _ by rw [hY])) (by rw [he]) (fun z hzm h => by
      have h1 := hm.id z hzm
      rw [he] at h
      have h2 : z.id = 800002 := h.1
      omega)
  generalize l.getD k e0 = x at hx rx hK
  generalize l.getD (l.length - 1) e0 = y at hy ry hK
  obtain ⟨e, he⟩ : ∃ e : E, e = ⟨800001, 1, x.student, 5, y.day, x.on_, ⟨#[]⟩, 0, 0, 800002, 0, 0, 0, 0, ⟨#[]⟩⟩ := ⟨_, rfl⟩
  have hC := rCheck_f ⟨800001, 1, x.student, 5, y.day, x.on_, ⟨#[]⟩, 0, 0, 800002, 0, 0, 0, 0, ⟨#[]⟩⟩ (Nat.zero_le _)
  replace hK := hK x y rfl rfl e he
  generalize entE ⟨800001, 1, x.student, 5, y.day, x.on_, ⟨#[]⟩, 0, 0, 800002, 0, 0, 0, 0, ⟨#[]⟩⟩ = z at hC hK
  have hcl := fun fl => Check_l (l ++ [e]) fl
  generalize chkE (l ++ [e]) = w at hK hcl
  clear hxm hym
  by_cases h3 : x.kind = 3
  · by_cases h0 : z = 0
    · have hw2 := hK h0
      clear hK
      subst hw2
      subst h0
      ((repeat ((conv => whnf); (first | (refine LetN.pre ?_; first | ((conv => arg 1; whnf); refine LetN.mk ?_)) | (refine As.pre ?_; first | refine As.mk rfl ?_ | refine As.mk hnz ?_ | (refine As.mk ?_ ?_; · ((repeat' (refine andT ?_ ?_)) <;> (first | rfl | assumption | exact stor_en _ _ _ | exact stor_all _ | exact decide_eq_true (by simp; omega) | (simp; done) | (simp [room]; omega))))) | (refine LetV.pre ?_; first | refine LetV.mk (t := 29) _ hx ?_ | refine LetV.mk (t := 29) _ hy ?_ | refine LetV.mk (.sc (.int _ _)) rfl ?_ | refine LetV.mk (.agg _) rfl ?_) | (refine LetI.pre ?_; first | refine LetI.mk (o := some .rem) ((k : Nat) : Int) hkk ?_ | refine LetI.mk (o := some .rem) (0 : Int) hw ?_ | refine LetI.mk (o := some .sub) ((l.length - 1 : Nat) : Int) hsub ?_ | refine LetI.wrap (by omega) (by omega) ?_ | refine LetI.mk _ rfl ?_) | (refine LetB.pre ?_; first | refine LetB.tt rfl ?_ | refine LetB.ff rfl ?_ | refine LetB.ff (by assumption) ?_ | refine LetB.bnef (by omega) ?_) | (refine Gd.pre ?_; first | refine Gd.run rfl ?_) | (refine Br.pre ?_; first | refine Br.tt rfl ?_ | refine Br.ff rfl ?_) | (refine Ck.pre ?_; first | refine Ck.drawn (by kernel_rfl) ?_ | refine Ck.mk rfl ?_) | (refine LetL.pre ?_; first | refine LetL.mk (ty := ety) (l.map en) rfl ?_ | refine LetL.mk (ty := ety) _ (app_en2 he l _ (by first | rfl | (simp; done))) ?_ | refine LetL.mk [_] rfl ?_) | (refine CallN.pre ?_; first | refine CallN.pure sanity_f rfl rfl ?_ | refine CallN.pure hM rfl rfl ?_ | refine CallN.pure hC rfl rfl ?_ | refine CallN.lend (hcl _) rfl (.full rfl (pure_en _) (by first | rfl | (simp; done)) .nil) ?_)))); (try (conv => whnf)))














      exact ⟨.inl rfl, ⟨_, rfl, rfl⟩, trivial⟩
    · clear hK
      ((repeat ((conv => whnf); (first | (refine LetN.pre ?_; first | ((conv => arg 1; whnf); refine LetN.mk ?_)) | (refine As.pre ?_; first | refine As.mk rfl ?_ | refine As.mk hnz ?_ | (refine As.mk ?_ ?_; · ((repeat' (refine andT ?_ ?_)) <;> (first | rfl | assumption | exact stor_en _ _ _ | exact stor_all _ | exact decide_eq_true (by simp; omega) | (simp; done) | (simp [room]; omega))))) | (refine LetV.pre ?_; first | refine LetV.mk (t := 29) _ hx ?_ | refine LetV.mk (t := 29) _ hy ?_ | refine LetV.mk (.sc (.int _ _)) rfl ?_ | refine LetV.mk (.agg _) rfl ?_) | (refine LetI.pre ?_; first | refine LetI.mk (o := some .rem) ((k : Nat) : Int) hkk ?_ | refine LetI.mk (o := some .rem) (0 : Int) hw ?_ | refine LetI.mk (o := some .sub) ((l.length - 1 : Nat) : Int) hsub ?_ | refine LetI.wrap (by omega) (by omega) ?_ | refine LetI.mk _ rfl ?_) | (refine LetB.pre ?_; first | refine LetB.tt rfl ?_ | refine LetB.ff (by assumption) ?_ | refine LetB.bnet (by omega) ?_ | refine LetB.bnef (by omega) ?_) | (refine Br.pre ?_; first | refine Br.tt rfl ?_ | refine Br.ff rfl ?_) | (refine Ck.pre ?_; first | refine Ck.mk rfl ?_) | (refine LetL.pre ?_; first | refine LetL.mk [_] rfl ?_) | (refine CallN.pre ?_; first | refine CallN.pure sanity_f rfl rfl ?_ | refine CallN.pure hM rfl rfl ?_ | refine CallN.pure hC rfl rfl ?_)))); (try (conv => whnf)))














      exact ⟨.inl rfl, ⟨_, rfl, rfl⟩, trivial⟩
  · by_cases h0 : z = 0
    · have hw2 := hK h0
      clear hK
      subst hw2
      subst h0
      ((repeat ((conv => whnf); (first | (refine LetN.pre ?_; first | ((conv => arg 1; whnf); refine LetN.mk ?_)) | (refine As.pre ?_; first | refine As.mk rfl ?_ | refine As.mk hnz ?_ | (refine As.mk ?_ ?_; · ((repeat' (refine andT ?_ ?_)) <;> (first | rfl | assumption | exact stor_en _ _ _ | exact stor_all _ | exact decide_eq_true (by simp; omega) | (simp; done) | (simp [room]; omega))))) | (refine LetV.pre ?_; first | refine LetV.mk (t := 29) _ hx ?_ | refine LetV.mk (t := 29) _ hy ?_ | refine LetV.mk (.sc (.int _ _)) rfl ?_ | refine LetV.mk (.agg _) rfl ?_) | (refine LetI.pre ?_; first | refine LetI.mk (o := some .rem) ((k : Nat) : Int) hkk ?_ | refine LetI.mk (o := some .rem) (0 : Int) hw ?_ | refine LetI.mk (o := some .sub) ((l.length - 1 : Nat) : Int) hsub ?_ | refine LetI.wrap (by omega) (by omega) ?_ | refine LetI.mk _ rfl ?_) | (refine LetB.pre ?_; first | refine LetB.tt rfl ?_ | refine LetB.ff rfl ?_ | refine LetB.ff (by assumption) ?_ | refine LetB.bnet (by omega) ?_) | (refine Gd.pre ?_; first | refine Gd.run rfl ?_) | (refine Br.pre ?_; first | refine Br.tt rfl ?_ | refine Br.ff rfl ?_) | (refine Ck.pre ?_; first | refine Ck.drawn (by kernel_rfl) ?_ | refine Ck.mk rfl ?_) | (refine LetL.pre ?_; first | refine LetL.mk (ty := ety) (l.map en) rfl ?_ | refine LetL.mk (ty := ety) _ (app_en2 he l _ (by first | rfl | (simp; done))) ?_ | refine LetL.mk [_] rfl ?_) | (refine CallN.pre ?_; first | refine CallN.pure sanity_f rfl rfl ?_ | refine CallN.pure hM rfl rfl ?_ | refine CallN.pure hC rfl rfl ?_ | refine CallN.lend (hcl _) rfl (.full rfl (pure_en _) (by first | rfl | (simp; done)) .nil) ?_)))); (try (conv => whnf)))














      exact ⟨.inl rfl, ⟨_, rfl, rfl⟩, trivial⟩
    · clear hK
      ((repeat ((conv => whnf); (first | (refine LetN.pre ?_; first | ((conv => arg 1; whnf); refine LetN.mk ?_)) | (refine As.pre ?_; first | refine As.mk rfl ?_ | refine As.mk hnz ?_ | (refine As.mk ?_ ?_; · ((repeat' (refine andT ?_ ?_)) <;> (first | rfl | assumption | exact stor_en _ _ _ | exact stor_all _ | exact decide_eq_true (by simp; omega) | (simp; done) | (simp [room]; omega))))) | (refine LetV.pre ?_; first | refine LetV.mk (t := 29) _ hx ?_ | refine LetV.mk (t := 29) _ hy ?_ | refine LetV.mk (.sc (.int _ _)) rfl ?_ | refine LetV.mk (.agg _) rfl ?_) | (refine LetI.pre ?_; first | refine LetI.mk (o := some .rem) ((k : Nat) : Int) hkk ?_ | refine LetI.mk (o := some .rem) (0 : Int) hw ?_ | refine LetI.mk (o := some .sub) ((l.length - 1 : Nat) : Int) hsub ?_ | refine LetI.wrap (by omega) (by omega) ?_ | refine LetI.mk _ rfl ?_) | (refine LetB.pre ?_; first | refine LetB.tt rfl ?_ | refine LetB.ff (by assumption) ?_ | refine LetB.bnet (by omega) ?_) | (refine Br.pre ?_; first | refine Br.tt rfl ?_ | refine Br.ff rfl ?_) | (refine Ck.pre ?_; first | refine Ck.mk rfl ?_) | (refine LetL.pre ?_; first | refine LetL.mk [_] rfl ?_) | (refine CallN.pre ?_; first | refine CallN.pure sanity_f rfl rfl ?_ | refine CallN.pure hM rfl rfl ?_ | refine CallN.pure hC rfl rfl ?_)))); (try (conv => whnf)))














      exact ⟨.inl rfl, ⟨_, rfl, rfl⟩, trivial⟩
set_option maxHeartbeats 1600000 in
set_option maxRecDepth 100000 in
theorem refuses_1 (L : List (Fl × List Int)) (fl : Fl) (q : Int × Int × Int) (l l' : List E) (hm : MadeOk 14 l) (hl0 : 0 < l.length) (hM : AFun Try.prog 10 0 [.agg [.ro fl 1 (L.map iA), int q.1, int q.2.1, int q.2.2]] [] (.tup [.ro {} 15 (l.map en), .ro {} 15 (l'.map en)]) [])
    (what which : Int) (hwh : 0 ≤ what ∧ what ≤ 255) (hv : 0 ≤ which ∧ which ≤ 255) (hw : 1 = what.tmod 6) : AFun Try.prog 5 0 [.agg [.ro fl 1 (L.map iA), int q.1, int q.2.1, int q.2.2], u8 what, u8 which] [] (bool true) [] := by
  refine AFun.of_W T_ok mixed Try.func5 rfl (Nat.le_of_ble_eq_true rfl) rfl ?_
  have hlen := hm.len
  have hml : (l.map en).length = l.length := List.length_map _
  have hnz : (((l.map en).length : Int) != 0) = true := bne_iff_ne.2 (by omega)
  have hez : (((l.map en).length : Int) == 0) = false := beq_eq_false_iff_ne.2 (by omega)
  obtain ⟨k, hk, hkk⟩ : ∃ k : Nat, k < l.length ∧ ((k : Nat) : Int) = which.tmod (((l.map en).length : Nat) : Int) := by
    rw [hml]
    have h1 := Int.tmod_nonneg (l.length : Int) hv.1
    have h2 := Int.tmod_lt_of_pos which (b := (l.length : Int)) (by omega)
    exact ⟨(which.tmod (l.length : Int)).toNat, by omega, by omega⟩
  have hsub : ((l.length - 1 : Nat) : Int) = IntKind.i64.wrap (((l.map en).length : Int) - 1) := by rw [hml, wrap_id (by omega) (by omega)]; omega
  have hx : en (l.getD k e0) = (l.map en).getD k (.sc undef) := mapD e0 hk
  have hy : en (l.getD (l.length - 1) e0) = (l.map en).getD (l.length - 1) (.sc undef) := mapD e0 (by omega)
  have hxm : l.getD k e0 ∈ l := getD_mem hk
  have hym : l.getD (l.length - 1) e0 ∈ l := getD_mem (by omega)
  have rx := ent_zero (chk_ent hm.chk (by omega) hxm)
  have ry := ent_zero (chk_ent hm.chk (by omega) hym)
  have hr := room_en (n := l.length) (by omega)
  have hr1 := room_en (n := l.length + 1) (by omega)
  have hst := stor_all l
  have hK : ∀ x y : E, x = l.getD k e0 → y = l.getD (l.length - 1) e0 → ∀ e : E, e = ⟨800001, 1, x.student + 1, 5, y.day, x.on_, ⟨#[]⟩, 0, 0, x.id, 0, 0, 0, 0, ⟨#[]⟩⟩ → entE ⟨800001, 1, x.student + 1, 5, y.day, x.on_, ⟨#[]⟩, 0, 0, x.id, 0, 0, 0, 0, ⟨#[]⟩⟩ = 0 → chkE (l ++ [e]) = 21 := by
    intro x y hX hY e he hz
    rw [← hX] at hxm
    rw [chkM hm]
    exact ref_none hm hl0 (he ▸ hz) (by rw [he]) (by rw [he]; exact (by decide : (800000 : Int) < 800001)) (by rw [he]; exact (show y.day = _ by rw [hY])) (by rw [he]) (fun z hzm h => by
      rw [he] at h
      have h2 : z = x := chk_same hm.chk (by omega) hzm hxm h.1
      have h3 : z.student = x.student + 1 := h.2.2
      rw [h2] at h3
      omega)
  generalize l.getD k e0 = x at hx rx hK
  generalize l.getD (l.length - 1) e0 = y at hy ry hK
  obtain ⟨e, he⟩ : ∃ e : E, e = ⟨800001, 1, x.student + 1, 5, y.day, x.on_, ⟨#[]⟩, 0, 0, x.id, 0, 0, 0, 0, ⟨#[]⟩⟩ := ⟨_, rfl⟩
  have hC := rCheck_f ⟨800001, 1, x.student + 1, 5, y.day, x.on_, ⟨#[]⟩, 0, 0, x.id, 0, 0, 0, 0, ⟨#[]⟩⟩ (Nat.zero_le _)
  replace hK := hK x y rfl rfl e he
  generalize entE ⟨800001, 1, x.student + 1, 5, y.day, x.on_, ⟨#[]⟩, 0, 0, x.id, 0, 0, 0, 0, ⟨#[]⟩⟩ = z at hC hK
  have hcl := fun fl => Check_l (l ++ [e]) fl
  generalize chkE (l ++ [e]) = w at hK hcl
  clear hxm hym
  by_cases h3 : x.kind = 3
  · by_cases h0 : z = 0
    · have hw2 := hK h0
      clear hK
      subst hw2
      subst h0
      ((repeat ((conv => whnf); (first | (refine LetN.pre ?_; first | ((conv => arg 1; whnf); refine LetN.mk ?_)) | (refine As.pre ?_; first | refine As.mk rfl ?_ | refine As.mk hnz ?_ | (refine As.mk ?_ ?_; · ((repeat' (refine andT ?_ ?_)) <;> (first | rfl | assumption | exact stor_en _ _ _ | exact stor_all _ | exact decide_eq_true (by simp; omega) | (simp; done) | (simp [room]; omega))))) | (refine LetV.pre ?_; first | refine LetV.mk (t := 29) _ hx ?_ | refine LetV.mk (t := 29) _ hy ?_ | refine LetV.mk (.sc (.int _ _)) rfl ?_ | refine LetV.mk (.agg _) rfl ?_) | (refine LetI.pre ?_; first | refine LetI.mk (o := some .rem) ((k : Nat) : Int) hkk ?_ | refine LetI.mk (o := some .rem) (1 : Int) hw ?_ | refine LetI.mk (o := some .sub) ((l.length - 1 : Nat) : Int) hsub ?_ | refine LetI.wrap (by omega) (by omega) ?_ | refine LetI.mk _ rfl ?_) | (refine LetB.pre ?_; first | refine LetB.tt rfl ?_ | refine LetB.ff rfl ?_ | refine LetB.ff (by assumption) ?_ | refine LetB.bnef (by omega) ?_) | (refine Gd.pre ?_; first | refine Gd.run rfl ?_) | (refine Br.pre ?_; first | refine Br.tt rfl ?_ | refine Br.ff rfl ?_) | (refine Ck.pre ?_; first | refine Ck.drawn (by kernel_rfl) ?_ | refine Ck.mk rfl ?_) | (refine LetL.pre ?_; first | refine LetL.mk (ty := ety) (l.map en) rfl ?_ | refine LetL.mk (ty := ety) _ (app_en2 he l _ (by first | rfl | (simp; done))) ?_ | refine LetL.mk [_] rfl ?_) | (refine CallN.pre ?_; first | refine CallN.pure sanity_f rfl rfl ?_ | refine CallN.pure hM rfl rfl ?_ | refine CallN.pure hC rfl rfl ?_ | refine CallN.lend (hcl _) rfl (.full rfl (pure_en _) (by first | rfl | (simp; done)) .nil) ?_)))); (try (conv => whnf)))














      exact ⟨.inl rfl, ⟨_, rfl, rfl⟩, trivial⟩
    · clear hK
      ((repeat ((conv => whnf); (first | (refine LetN.pre ?_; first | ((conv => arg 1; whnf); refine LetN.mk ?_)) | (refine As.pre ?_; first | refine As.mk rfl ?_ | refine As.mk hnz ?_ | (refine As.mk ?_ ?_; · ((repeat' (refine andT ?_ ?_)) <;> (first | rfl | assumption | exact stor_en _ _ _ | exact stor_all _ | exact decide_eq_true (by simp; omega) | (simp; done) | (simp [room]; omega))))) | (refine LetV.pre ?_; first | refine LetV.mk (t := 29) _ hx ?_ | refine LetV.mk (t := 29) _ hy ?_ | refine LetV.mk (.sc (.int _ _)) rfl ?_ | refine LetV.mk (.agg _) rfl ?_) | (refine LetI.pre ?_; first | refine LetI.mk (o := some .rem) ((k : Nat) : Int) hkk ?_ | refine LetI.mk (o := some .rem) (1 : Int) hw ?_ | refine LetI.mk (o := some .sub) ((l.length - 1 : Nat) : Int) hsub ?_ | refine LetI.wrap (by omega) (by omega) ?_ | refine LetI.mk _ rfl ?_) | (refine LetB.pre ?_; first | refine LetB.tt rfl ?_ | refine LetB.ff rfl ?_ | refine LetB.ff (by assumption) ?_ | refine LetB.bnet (by omega) ?_ | refine LetB.bnef (by omega) ?_) | (refine Br.pre ?_; first | refine Br.tt rfl ?_ | refine Br.ff rfl ?_) | (refine Ck.pre ?_; first | refine Ck.mk rfl ?_) | (refine LetL.pre ?_; first | refine LetL.mk [_] rfl ?_) | (refine CallN.pre ?_; first | refine CallN.pure sanity_f rfl rfl ?_ | refine CallN.pure hM rfl rfl ?_ | refine CallN.pure hC rfl rfl ?_)))); (try (conv => whnf)))














      exact ⟨.inl rfl, ⟨_, rfl, rfl⟩, trivial⟩
  · by_cases h0 : z = 0
    · have hw2 := hK h0
      clear hK
      subst hw2
      subst h0
      ((repeat ((conv => whnf); (first | (refine LetN.pre ?_; first | ((conv => arg 1; whnf); refine LetN.mk ?_)) | (refine As.pre ?_; first | refine As.mk rfl ?_ | refine As.mk hnz ?_ | (refine As.mk ?_ ?_; · ((repeat' (refine andT ?_ ?_)) <;> (first | rfl | assumption | exact stor_en _ _ _ | exact stor_all _ | exact decide_eq_true (by simp; omega) | (simp; done) | (simp [room]; omega))))) | (refine LetV.pre ?_; first | refine LetV.mk (t := 29) _ hx ?_ | refine LetV.mk (t := 29) _ hy ?_ | refine LetV.mk (.sc (.int _ _)) rfl ?_ | refine LetV.mk (.agg _) rfl ?_) | (refine LetI.pre ?_; first | refine LetI.mk (o := some .rem) ((k : Nat) : Int) hkk ?_ | refine LetI.mk (o := some .rem) (1 : Int) hw ?_ | refine LetI.mk (o := some .sub) ((l.length - 1 : Nat) : Int) hsub ?_ | refine LetI.wrap (by omega) (by omega) ?_ | refine LetI.mk _ rfl ?_) | (refine LetB.pre ?_; first | refine LetB.tt rfl ?_ | refine LetB.ff rfl ?_ | refine LetB.ff (by assumption) ?_ | refine LetB.bnet (by omega) ?_) | (refine Gd.pre ?_; first | refine Gd.run rfl ?_) | (refine Br.pre ?_; first | refine Br.tt rfl ?_ | refine Br.ff rfl ?_) | (refine Ck.pre ?_; first | refine Ck.drawn (by kernel_rfl) ?_ | refine Ck.mk rfl ?_) | (refine LetL.pre ?_; first | refine LetL.mk (ty := ety) (l.map en) rfl ?_ | refine LetL.mk (ty := ety) _ (app_en2 he l _ (by first | rfl | (simp; done))) ?_ | refine LetL.mk [_] rfl ?_) | (refine CallN.pre ?_; first | refine CallN.pure sanity_f rfl rfl ?_ | refine CallN.pure hM rfl rfl ?_ | refine CallN.pure hC rfl rfl ?_ | refine CallN.lend (hcl _) rfl (.full rfl (pure_en _) (by first | rfl | (simp; done)) .nil) ?_)))); (try (conv => whnf)))














      exact ⟨.inl rfl, ⟨_, rfl, rfl⟩, trivial⟩
    · clear hK
      ((repeat ((conv => whnf); (first | (refine LetN.pre ?_; first | ((conv => arg 1; whnf); refine LetN.mk ?_)) | (refine As.pre ?_; first | refine As.mk rfl ?_ | refine As.mk hnz ?_ | (refine As.mk ?_ ?_; · ((repeat' (refine andT ?_ ?_)) <;> (first | rfl | assumption | exact stor_en _ _ _ | exact stor_all _ | exact decide_eq_true (by simp; omega) | (simp; done) | (simp [room]; omega))))) | (refine LetV.pre ?_; first | refine LetV.mk (t := 29) _ hx ?_ | refine LetV.mk (t := 29) _ hy ?_ | refine LetV.mk (.sc (.int _ _)) rfl ?_ | refine LetV.mk (.agg _) rfl ?_) | (refine LetI.pre ?_; first | refine LetI.mk (o := some .rem) ((k : Nat) : Int) hkk ?_ | refine LetI.mk (o := some .rem) (1 : Int) hw ?_ | refine LetI.mk (o := some .sub) ((l.length - 1 : Nat) : Int) hsub ?_ | refine LetI.wrap (by omega) (by omega) ?_ | refine LetI.mk _ rfl ?_) | (refine LetB.pre ?_; first | refine LetB.tt rfl ?_ | refine LetB.ff rfl ?_ | refine LetB.ff (by assumption) ?_ | refine LetB.bnet (by omega) ?_) | (refine Br.pre ?_; first | refine Br.tt rfl ?_ | refine Br.ff rfl ?_) | (refine Ck.pre ?_; first | refine Ck.mk rfl ?_) | (refine LetL.pre ?_; first | refine LetL.mk [_] rfl ?_) | (refine CallN.pre ?_; first | refine CallN.pure sanity_f rfl rfl ?_ | refine CallN.pure hM rfl rfl ?_ | refine CallN.pure hC rfl rfl ?_)))); (try (conv => whnf)))














      exact ⟨.inl rfl, ⟨_, rfl, rfl⟩, trivial⟩
set_option maxHeartbeats 1600000 in
set_option maxRecDepth 100000 in
theorem refuses_2 (L : List (Fl × List Int)) (fl : Fl) (q : Int × Int × Int) (l l' : List E) (hm : MadeOk 14 l) (hl0 : 0 < l.length) (hM : AFun Try.prog 10 0 [.agg [.ro fl 1 (L.map iA), int q.1, int q.2.1, int q.2.2]] [] (.tup [.ro {} 15 (l.map en), .ro {} 15 (l'.map en)]) [])
    (what which : Int) (hwh : 0 ≤ what ∧ what ≤ 255) (hv : 0 ≤ which ∧ which ≤ 255) (hw : 2 = what.tmod 6) : AFun Try.prog 5 0 [.agg [.ro fl 1 (L.map iA), int q.1, int q.2.1, int q.2.2], u8 what, u8 which] [] (bool true) [] := by
  refine AFun.of_W T_ok mixed Try.func5 rfl (Nat.le_of_ble_eq_true rfl) rfl ?_
  have hlen := hm.len
  have hml : (l.map en).length = l.length := List.length_map _
  have hnz : (((l.map en).length : Int) != 0) = true := bne_iff_ne.2 (by omega)
  have hez : (((l.map en).length : Int) == 0) = false := beq_eq_false_iff_ne.2 (by omega)
  obtain ⟨k, hk, hkk⟩ : ∃ k : Nat, k < l.length ∧ ((k : Nat) : Int) = which.tmod (((l.map en).length : Nat) : Int) := by
    rw [hml]
    have h1 := Int.tmod_nonneg (l.length : Int) hv.1
    have h2 := Int.tmod_lt_of_pos which (b := (l.length : Int)) (by omega)
    exact ⟨(which.tmod (l.length : Int)).toNat, by omega, by omega⟩
  have hsub : ((l.length - 1 : Nat) : Int) = IntKind.i64.wrap (((l.map en).length : Int) - 1) := by rw [hml, wrap_id (by omega) (by omega)]; omega
  have hx : en (l.getD k e0) = (l.map en).getD k (.sc undef) := mapD e0 hk
  have hy : en (l.getD (l.length - 1) e0) = (l.map en).getD (l.length - 1) (.sc undef) := mapD e0 (by omega)
  have hxm : l.getD k e0 ∈ l := getD_mem hk
  have hym : l.getD (l.length - 1) e0 ∈ l := getD_mem (by omega)
  have rx := ent_zero (chk_ent hm.chk (by omega) hxm)
  have ry := ent_zero (chk_ent hm.chk (by omega) hym)
  have hr := room_en (n := l.length) (by omega)
  have hr1 := room_en (n := l.length + 1) (by omega)
  have hst := stor_all l
  have hK : ∀ x y : E, x = l.getD k e0 → y = l.getD (l.length - 1) e0 → ∀ e : E, e = ⟨800001, 1, x.student, 5, y.day, x.on_ - 1, ⟨#[]⟩, 0, 0, x.id, 0, 0, 0, 0, ⟨#[]⟩⟩ → entE ⟨800001, 1, x.student, 5, y.day, x.on_ - 1, ⟨#[]⟩, 0, 0, x.id, 0, 0, 0, 0, ⟨#[]⟩⟩ = 0 → chkE (l ++ [e]) = (if x.kind = 3 then 23 else 21) := by
    intro x y hX hY e he hz
    rw [← hX] at hxm
    rw [chkM hm]
    by_cases h3 : x.kind = 3
    · rw [if_pos h3]
      exact ref_late hm (he ▸ hz) (by rw [he]) (by rw [he]; exact (by decide : (800000 : Int) < 800001)) (by rw [he]; exact (show y.day = _ by rw [hY])) (by rw [he]) hk (by rw [he, ← hX]; exact ⟨rfl, h3, rfl⟩) (by rw [he, ← hX]; show x.on_ - 1 < x.on_; omega)
    · rw [if_neg h3]
      exact ref_none hm hl0 (he ▸ hz) (by rw [he]) (by rw [he]; exact (by decide : (800000 : Int) < 800001)) (by rw [he]; exact (show y.day = _ by rw [hY])) (by rw [he]) (fun z hzm h => by
        rw [he] at h
        have h2 : z = x := chk_same hm.chk (by omega) hzm hxm h.1
        exact h3 (h2 ▸ h.2.1))
  generalize l.getD k e0 = x at hx rx hK
  generalize l.getD (l.length - 1) e0 = y at hy ry hK
  obtain ⟨e, he⟩ : ∃ e : E, e = ⟨800001, 1, x.student, 5, y.day, x.on_ - 1, ⟨#[]⟩, 0, 0, x.id, 0, 0, 0, 0, ⟨#[]⟩⟩ := ⟨_, rfl⟩
  have hC := rCheck_f ⟨800001, 1, x.student, 5, y.day, x.on_ - 1, ⟨#[]⟩, 0, 0, x.id, 0, 0, 0, 0, ⟨#[]⟩⟩ (Nat.zero_le _)
  replace hK := hK x y rfl rfl e he
  generalize entE ⟨800001, 1, x.student, 5, y.day, x.on_ - 1, ⟨#[]⟩, 0, 0, x.id, 0, 0, 0, 0, ⟨#[]⟩⟩ = z at hC hK
  have hcl := fun fl => Check_l (l ++ [e]) fl
  generalize chkE (l ++ [e]) = w at hK hcl
  clear hxm hym
  by_cases s0 : x.on_ = 0
  case pos =>
    clear hK hC hcl
    by_cases h3 : x.kind = 3
    · ((repeat ((conv => whnf); (first | (refine LetN.pre ?_; first | ((conv => arg 1; whnf); refine LetN.mk ?_)) | (refine As.pre ?_; first | refine As.mk rfl ?_ | refine As.mk hnz ?_ | (refine As.mk ?_ ?_; · ((repeat' (refine andT ?_ ?_)) <;> (first | rfl | assumption | exact stor_en _ _ _ | exact stor_all _ | exact decide_eq_true (by simp; omega) | (simp; done) | (simp [room]; omega))))) | (refine LetV.pre ?_; first | refine LetV.mk (t := 29) _ hx ?_ | refine LetV.mk (t := 29) _ hy ?_ | refine LetV.mk (.sc (.int _ _)) rfl ?_ | refine LetV.mk (.agg _) rfl ?_) | (refine LetI.pre ?_; first | refine LetI.mk (o := some .rem) ((k : Nat) : Int) hkk ?_ | refine LetI.mk (o := some .rem) (2 : Int) hw ?_ | refine LetI.mk (o := some .sub) ((l.length - 1 : Nat) : Int) hsub ?_ | refine LetI.wrap (by omega) (by omega) ?_ | refine LetI.mk _ rfl ?_) | (refine LetB.pre ?_; first | refine LetB.tt rfl ?_ | refine LetB.ff rfl ?_ | refine LetB.ff (by assumption) ?_ | refine LetB.dect (by omega) ?_ | refine LetB.bnef (by omega) ?_) | (refine Br.pre ?_; first | refine Br.tt rfl ?_ | refine Br.ff rfl ?_) | (refine Ck.pre ?_; first | refine Ck.mk rfl ?_) | (refine LetL.pre ?_; first | refine LetL.mk [_] rfl ?_) | (refine CallN.pre ?_; first | refine CallN.pure sanity_f rfl rfl ?_ | refine CallN.pure hM rfl rfl ?_)))); (try (conv => whnf)))














      exact ⟨.inl rfl, ⟨_, rfl, rfl⟩, trivial⟩
    · ((repeat ((conv => whnf); (first | (refine LetN.pre ?_; first | ((conv => arg 1; whnf); refine LetN.mk ?_)) | (refine As.pre ?_; first | refine As.mk rfl ?_ | refine As.mk hnz ?_ | (refine As.mk ?_ ?_; · ((repeat' (refine andT ?_ ?_)) <;> (first | rfl | assumption | exact stor_en _ _ _ | exact stor_all _ | exact decide_eq_true (by simp; omega) | (simp; done) | (simp [room]; omega))))) | (refine LetV.pre ?_; first | refine LetV.mk (t := 29) _ hx ?_ | refine LetV.mk (t := 29) _ hy ?_ | refine LetV.mk (.sc (.int _ _)) rfl ?_ | refine LetV.mk (.agg _) rfl ?_) | (refine LetI.pre ?_; first | refine LetI.mk (o := some .rem) ((k : Nat) : Int) hkk ?_ | refine LetI.mk (o := some .rem) (2 : Int) hw ?_ | refine LetI.mk (o := some .sub) ((l.length - 1 : Nat) : Int) hsub ?_ | refine LetI.wrap (by omega) (by omega) ?_ | refine LetI.mk _ rfl ?_) | (refine LetB.pre ?_; first | refine LetB.tt rfl ?_ | refine LetB.ff rfl ?_ | refine LetB.ff (by assumption) ?_ | refine LetB.dect (by omega) ?_ | refine LetB.bnet (by omega) ?_) | (refine Br.pre ?_; first | refine Br.tt rfl ?_ | refine Br.ff rfl ?_) | (refine Ck.pre ?_; first | refine Ck.mk rfl ?_) | (refine LetL.pre ?_; first | refine LetL.mk [_] rfl ?_) | (refine CallN.pre ?_; first | refine CallN.pure sanity_f rfl rfl ?_ | refine CallN.pure hM rfl rfl ?_)))); (try (conv => whnf)))














      exact ⟨.inl rfl, ⟨_, rfl, rfl⟩, trivial⟩
  by_cases h3 : x.kind = 3
  · by_cases h0 : z = 0
    · have hw2 : w = 23 := by have := hK h0; simpa [h3] using this
      clear hK
      subst hw2
      subst h0
      ((repeat ((conv => whnf); (first | (refine LetN.pre ?_; first | ((conv => arg 1; whnf); refine LetN.mk ?_)) | (refine As.pre ?_; first | refine As.mk rfl ?_ | refine As.mk hnz ?_ | (refine As.mk ?_ ?_; · ((repeat' (refine andT ?_ ?_)) <;> (first | rfl | assumption | exact stor_en _ _ _ | exact stor_all _ | exact decide_eq_true (by simp; omega) | (simp; done) | (simp [room]; omega))))) | (refine LetV.pre ?_; first | refine LetV.mk (t := 29) _ hx ?_ | refine LetV.mk (t := 29) _ hy ?_ | refine LetV.mk (.sc (.int _ _)) rfl ?_ | refine LetV.mk (.agg _) rfl ?_) | (refine LetI.pre ?_; first | refine LetI.mk (o := some .rem) ((k : Nat) : Int) hkk ?_ | refine LetI.mk (o := some .rem) (2 : Int) hw ?_ | refine LetI.mk (o := some .sub) ((l.length - 1 : Nat) : Int) hsub ?_ | refine LetI.wrap (by omega) (by omega) ?_ | refine LetI.mk _ rfl ?_) | (refine LetB.pre ?_; first | refine LetB.tt rfl ?_ | refine LetB.ff rfl ?_ | refine LetB.ff (by assumption) ?_ | refine LetB.decf (by omega) ?_ | refine LetB.bnef (by omega) ?_) | (refine Gd.pre ?_; first | refine Gd.run rfl ?_) | (refine Br.pre ?_; first | refine Br.tt rfl ?_ | refine Br.ff rfl ?_) | (refine Ck.pre ?_; first | refine Ck.drawn (by kernel_rfl) ?_ | refine Ck.mk rfl ?_) | (refine LetL.pre ?_; first | refine LetL.mk (ty := ety) (l.map en) rfl ?_ | refine LetL.mk (ty := ety) _ (app_en2 he l _ (by first | rfl | (simp; done))) ?_ | refine LetL.mk [_] rfl ?_) | (refine CallN.pre ?_; first | refine CallN.pure sanity_f rfl rfl ?_ | refine CallN.pure hM rfl rfl ?_ | refine CallN.pure hC rfl rfl ?_ | refine CallN.lend (hcl _) rfl (.full rfl (pure_en _) (by first | rfl | (simp; done)) .nil) ?_)))); (try (conv => whnf)))














      exact ⟨.inl rfl, ⟨_, rfl, rfl⟩, trivial⟩
    · clear hK
      ((repeat ((conv => whnf); (first | (refine LetN.pre ?_; first | ((conv => arg 1; whnf); refine LetN.mk ?_)) | (refine As.pre ?_; first | refine As.mk rfl ?_ | refine As.mk hnz ?_ | (refine As.mk ?_ ?_; · ((repeat' (refine andT ?_ ?_)) <;> (first | rfl | assumption | exact stor_en _ _ _ | exact stor_all _ | exact decide_eq_true (by simp; omega) | (simp; done) | (simp [room]; omega))))) | (refine LetV.pre ?_; first | refine LetV.mk (t := 29) _ hx ?_ | refine LetV.mk (t := 29) _ hy ?_ | refine LetV.mk (.sc (.int _ _)) rfl ?_ | refine LetV.mk (.agg _) rfl ?_) | (refine LetI.pre ?_; first | refine LetI.mk (o := some .rem) ((k : Nat) : Int) hkk ?_ | refine LetI.mk (o := some .rem) (2 : Int) hw ?_ | refine LetI.mk (o := some .sub) ((l.length - 1 : Nat) : Int) hsub ?_ | refine LetI.wrap (by omega) (by omega) ?_ | refine LetI.mk _ rfl ?_) | (refine LetB.pre ?_; first | refine LetB.tt rfl ?_ | refine LetB.ff rfl ?_ | refine LetB.ff (by assumption) ?_ | refine LetB.decf (by omega) ?_ | refine LetB.bnet (by omega) ?_ | refine LetB.bnef (by omega) ?_) | (refine Br.pre ?_; first | refine Br.tt rfl ?_ | refine Br.ff rfl ?_) | (refine Ck.pre ?_; first | refine Ck.mk rfl ?_) | (refine LetL.pre ?_; first | refine LetL.mk [_] rfl ?_) | (refine CallN.pre ?_; first | refine CallN.pure sanity_f rfl rfl ?_ | refine CallN.pure hM rfl rfl ?_ | refine CallN.pure hC rfl rfl ?_)))); (try (conv => whnf)))














      exact ⟨.inl rfl, ⟨_, rfl, rfl⟩, trivial⟩
  · by_cases h0 : z = 0
    · have hw2 : w = 21 := by have := hK h0; simpa [h3] using this
      clear hK
      subst hw2
      subst h0
      ((repeat ((conv => whnf); (first | (refine LetN.pre ?_; first | ((conv => arg 1; whnf); refine LetN.mk ?_)) | (refine As.pre ?_; first | refine As.mk rfl ?_ | refine As.mk hnz ?_ | (refine As.mk ?_ ?_; · ((repeat' (refine andT ?_ ?_)) <;> (first | rfl | assumption | exact stor_en _ _ _ | exact stor_all _ | exact decide_eq_true (by simp; omega) | (simp; done) | (simp [room]; omega))))) | (refine LetV.pre ?_; first | refine LetV.mk (t := 29) _ hx ?_ | refine LetV.mk (t := 29) _ hy ?_ | refine LetV.mk (.sc (.int _ _)) rfl ?_ | refine LetV.mk (.agg _) rfl ?_) | (refine LetI.pre ?_; first | refine LetI.mk (o := some .rem) ((k : Nat) : Int) hkk ?_ | refine LetI.mk (o := some .rem) (2 : Int) hw ?_ | refine LetI.mk (o := some .sub) ((l.length - 1 : Nat) : Int) hsub ?_ | refine LetI.wrap (by omega) (by omega) ?_ | refine LetI.mk _ rfl ?_) | (refine LetB.pre ?_; first | refine LetB.tt rfl ?_ | refine LetB.ff rfl ?_ | refine LetB.ff (by assumption) ?_ | refine LetB.decf (by omega) ?_ | refine LetB.bnet (by omega) ?_) | (refine Gd.pre ?_; first | refine Gd.run rfl ?_) | (refine Br.pre ?_; first | refine Br.tt rfl ?_ | refine Br.ff rfl ?_) | (refine Ck.pre ?_; first | refine Ck.drawn (by kernel_rfl) ?_ | refine Ck.mk rfl ?_) | (refine LetL.pre ?_; first | refine LetL.mk (ty := ety) (l.map en) rfl ?_ | refine LetL.mk (ty := ety) _ (app_en2 he l _ (by first | rfl | (simp; done))) ?_ | refine LetL.mk [_] rfl ?_) | (refine CallN.pre ?_; first | refine CallN.pure sanity_f rfl rfl ?_ | refine CallN.pure hM rfl rfl ?_ | refine CallN.pure hC rfl rfl ?_ | refine CallN.lend (hcl _) rfl (.full rfl (pure_en _) (by first | rfl | (simp; done)) .nil) ?_)))); (try (conv => whnf)))














      exact ⟨.inl rfl, ⟨_, rfl, rfl⟩, trivial⟩
    · clear hK
      ((repeat ((conv => whnf); (first | (refine LetN.pre ?_; first | ((conv => arg 1; whnf); refine LetN.mk ?_)) | (refine As.pre ?_; first | refine As.mk rfl ?_ | refine As.mk hnz ?_ | (refine As.mk ?_ ?_; · ((repeat' (refine andT ?_ ?_)) <;> (first | rfl | assumption | exact stor_en _ _ _ | exact stor_all _ | exact decide_eq_true (by simp; omega) | (simp; done) | (simp [room]; omega))))) | (refine LetV.pre ?_; first | refine LetV.mk (t := 29) _ hx ?_ | refine LetV.mk (t := 29) _ hy ?_ | refine LetV.mk (.sc (.int _ _)) rfl ?_ | refine LetV.mk (.agg _) rfl ?_) | (refine LetI.pre ?_; first | refine LetI.mk (o := some .rem) ((k : Nat) : Int) hkk ?_ | refine LetI.mk (o := some .rem) (2 : Int) hw ?_ | refine LetI.mk (o := some .sub) ((l.length - 1 : Nat) : Int) hsub ?_ | refine LetI.wrap (by omega) (by omega) ?_ | refine LetI.mk _ rfl ?_) | (refine LetB.pre ?_; first | refine LetB.tt rfl ?_ | refine LetB.ff rfl ?_ | refine LetB.ff (by assumption) ?_ | refine LetB.decf (by omega) ?_ | refine LetB.bnet (by omega) ?_) | (refine Br.pre ?_; first | refine Br.tt rfl ?_ | refine Br.ff rfl ?_) | (refine Ck.pre ?_; first | refine Ck.mk rfl ?_) | (refine LetL.pre ?_; first | refine LetL.mk [_] rfl ?_) | (refine CallN.pre ?_; first | refine CallN.pure sanity_f rfl rfl ?_ | refine CallN.pure hM rfl rfl ?_ | refine CallN.pure hC rfl rfl ?_)))); (try (conv => whnf)))














      exact ⟨.inl rfl, ⟨_, rfl, rfl⟩, trivial⟩
set_option maxHeartbeats 1600000 in
set_option maxRecDepth 100000 in
theorem refuses_3 (L : List (Fl × List Int)) (fl : Fl) (q : Int × Int × Int) (l l' : List E) (hm : MadeOk 14 l) (hl0 : 0 < l.length) (hM : AFun Try.prog 10 0 [.agg [.ro fl 1 (L.map iA), int q.1, int q.2.1, int q.2.2]] [] (.tup [.ro {} 15 (l.map en), .ro {} 15 (l'.map en)]) [])
    (what which : Int) (hwh : 0 ≤ what ∧ what ≤ 255) (hv : 0 ≤ which ∧ which ≤ 255) (hw : 3 = what.tmod 6) : AFun Try.prog 5 0 [.agg [.ro fl 1 (L.map iA), int q.1, int q.2.1, int q.2.2], u8 what, u8 which] [] (bool true) [] := by
  refine AFun.of_W T_ok mixed Try.func5 rfl (Nat.le_of_ble_eq_true rfl) rfl ?_
  have hlen := hm.len
  have hml : (l.map en).length = l.length := List.length_map _
  have hnz : (((l.map en).length : Int) != 0) = true := bne_iff_ne.2 (by omega)
  have hez : (((l.map en).length : Int) == 0) = false := beq_eq_false_iff_ne.2 (by omega)
  obtain ⟨k, hk, hkk⟩ : ∃ k : Nat, k < l.length ∧ ((k : Nat) : Int) = which.tmod (((l.map en).length : Nat) : Int) := by
    rw [hml]
    have h1 := Int.tmod_nonneg (l.length : Int) hv.1
    have h2 := Int.tmod_lt_of_pos which (b := (l.length : Int)) (by omega)
    exact ⟨(which.tmod (l.length : Int)).toNat, by omega, by omega⟩
  have hsub : ((l.length - 1 : Nat) : Int) = IntKind.i64.wrap (((l.map en).length : Int) - 1) := by rw [hml, wrap_id (by omega) (by omega)]; omega
  have hx : en (l.getD k e0) = (l.map en).getD k (.sc undef) := mapD e0 hk
  have hy : en (l.getD (l.length - 1) e0) = (l.map en).getD (l.length - 1) (.sc undef) := mapD e0 (by omega)
  have hxm : l.getD k e0 ∈ l := getD_mem hk
  have hym : l.getD (l.length - 1) e0 ∈ l := getD_mem (by omega)
  have rx := ent_zero (chk_ent hm.chk (by omega) hxm)
  have ry := ent_zero (chk_ent hm.chk (by omega) hym)
  have hr := room_en (n := l.length) (by omega)
  have hr1 := room_en (n := l.length + 1) (by omega)
  have hst := stor_all l
  have hK : ∀ x y : E, x = l.getD k e0 → y = l.getD (l.length - 1) e0 → ∀ e : E, e = ⟨800001, 2, x.student, 5, y.day, x.on_, ⟨#[]⟩, 0, 0, x.id, 0, 0, 0, 0, ⟨#[]⟩⟩ → entE ⟨800001, 2, x.student, 5, y.day, x.on_, ⟨#[]⟩, 0, 0, x.id, 0, 0, 0, 0, ⟨#[]⟩⟩ = 0 → chkE (l ++ [e]) = 22 := by
    intro x y hX hY e he hz
    rw [← hX] at hxm
    rw [chkM hm]
    exact one_school (he ▸ hz) ⟨List.length_pos_iff.1 hl0, by rw [he, made_first hm hl0]; exact (by decide : (1 : Int) ≠ 2)⟩
  generalize l.getD k e0 = x at hx rx hK
  generalize l.getD (l.length - 1) e0 = y at hy ry hK
  obtain ⟨e, he⟩ : ∃ e : E, e = ⟨800001, 2, x.student, 5, y.day, x.on_, ⟨#[]⟩, 0, 0, x.id, 0, 0, 0, 0, ⟨#[]⟩⟩ := ⟨_, rfl⟩
  have hC := rCheck_f ⟨800001, 2, x.student, 5, y.day, x.on_, ⟨#[]⟩, 0, 0, x.id, 0, 0, 0, 0, ⟨#[]⟩⟩ (Nat.zero_le _)
  replace hK := hK x y rfl rfl e he
  generalize entE ⟨800001, 2, x.student, 5, y.day, x.on_, ⟨#[]⟩, 0, 0, x.id, 0, 0, 0, 0, ⟨#[]⟩⟩ = z at hC hK
  have hcl := fun fl => Check_l (l ++ [e]) fl
  generalize chkE (l ++ [e]) = w at hK hcl
  clear hxm hym
  by_cases h3 : x.kind = 3
  · by_cases h0 : z = 0
    · have hw2 := hK h0
      clear hK
      subst hw2
      subst h0
      ((repeat ((conv => whnf); (first | (refine LetN.pre ?_; first | ((conv => arg 1; whnf); refine LetN.mk ?_)) | (refine As.pre ?_; first | refine As.mk rfl ?_ | refine As.mk hnz ?_ | (refine As.mk ?_ ?_; · ((repeat' (refine andT ?_ ?_)) <;> (first | rfl | assumption | exact stor_en _ _ _ | exact stor_all _ | exact decide_eq_true (by simp; omega) | (simp; done) | (simp [room]; omega))))) | (refine LetV.pre ?_; first | refine LetV.mk (t := 29) _ hx ?_ | refine LetV.mk (t := 29) _ hy ?_ | refine LetV.mk (.sc (.int _ _)) rfl ?_ | refine LetV.mk (.agg _) rfl ?_) | (refine LetI.pre ?_; first | refine LetI.mk (o := some .rem) ((k : Nat) : Int) hkk ?_ | refine LetI.mk (o := some .rem) (3 : Int) hw ?_ | refine LetI.mk (o := some .sub) ((l.length - 1 : Nat) : Int) hsub ?_ | refine LetI.wrap (by omega) (by omega) ?_ | refine LetI.mk _ rfl ?_) | (refine LetB.pre ?_; first | refine LetB.tt rfl ?_ | refine LetB.ff rfl ?_ | refine LetB.ff (by assumption) ?_ | refine LetB.bnef (by omega) ?_) | (refine Gd.pre ?_; first | refine Gd.run rfl ?_) | (refine Br.pre ?_; first | refine Br.tt rfl ?_ | refine Br.ff rfl ?_) | (refine Ck.pre ?_; first | refine Ck.drawn (by kernel_rfl) ?_ | refine Ck.mk rfl ?_) | (refine LetL.pre ?_; first | refine LetL.mk (ty := ety) (l.map en) rfl ?_ | refine LetL.mk (ty := ety) _ (app_en2 he l _ (by first | rfl | (simp; done))) ?_ | refine LetL.mk [_] rfl ?_) | (refine CallN.pre ?_; first | refine CallN.pure sanity_f rfl rfl ?_ | refine CallN.pure hM rfl rfl ?_ | refine CallN.pure hC rfl rfl ?_ | refine CallN.lend (hcl _) rfl (.full rfl (pure_en _) (by first | rfl | (simp; done)) .nil) ?_)))); (try (conv => whnf)))














      exact ⟨.inl rfl, ⟨_, rfl, rfl⟩, trivial⟩
    · clear hK
      ((repeat ((conv => whnf); (first | (refine LetN.pre ?_; first | ((conv => arg 1; whnf); refine LetN.mk ?_)) | (refine As.pre ?_; first | refine As.mk rfl ?_ | refine As.mk hnz ?_ | (refine As.mk ?_ ?_; · ((repeat' (refine andT ?_ ?_)) <;> (first | rfl | assumption | exact stor_en _ _ _ | exact stor_all _ | exact decide_eq_true (by simp; omega) | (simp; done) | (simp [room]; omega))))) | (refine LetV.pre ?_; first | refine LetV.mk (t := 29) _ hx ?_ | refine LetV.mk (t := 29) _ hy ?_ | refine LetV.mk (.sc (.int _ _)) rfl ?_ | refine LetV.mk (.agg _) rfl ?_) | (refine LetI.pre ?_; first | refine LetI.mk (o := some .rem) ((k : Nat) : Int) hkk ?_ | refine LetI.mk (o := some .rem) (3 : Int) hw ?_ | refine LetI.mk (o := some .sub) ((l.length - 1 : Nat) : Int) hsub ?_ | refine LetI.wrap (by omega) (by omega) ?_ | refine LetI.mk _ rfl ?_) | (refine LetB.pre ?_; first | refine LetB.tt rfl ?_ | refine LetB.ff rfl ?_ | refine LetB.ff (by assumption) ?_ | refine LetB.bnet (by omega) ?_ | refine LetB.bnef (by omega) ?_) | (refine Br.pre ?_; first | refine Br.tt rfl ?_ | refine Br.ff rfl ?_) | (refine Ck.pre ?_; first | refine Ck.mk rfl ?_) | (refine LetL.pre ?_; first | refine LetL.mk [_] rfl ?_) | (refine CallN.pre ?_; first | refine CallN.pure sanity_f rfl rfl ?_ | refine CallN.pure hM rfl rfl ?_ | refine CallN.pure hC rfl rfl ?_)))); (try (conv => whnf)))














      exact ⟨.inl rfl, ⟨_, rfl, rfl⟩, trivial⟩
  · by_cases h0 : z = 0
    · have hw2 := hK h0
      clear hK
      subst hw2
      subst h0
      ((repeat ((conv => whnf); (first | (refine LetN.pre ?_; first | ((conv => arg 1; whnf); refine LetN.mk ?_)) | (refine As.pre ?_; first | refine As.mk rfl ?_ | refine As.mk hnz ?_ | (refine As.mk ?_ ?_; · ((repeat' (refine andT ?_ ?_)) <;> (first | rfl | assumption | exact stor_en _ _ _ | exact stor_all _ | exact decide_eq_true (by simp; omega) | (simp; done) | (simp [room]; omega))))) | (refine LetV.pre ?_; first | refine LetV.mk (t := 29) _ hx ?_ | refine LetV.mk (t := 29) _ hy ?_ | refine LetV.mk (.sc (.int _ _)) rfl ?_ | refine LetV.mk (.agg _) rfl ?_) | (refine LetI.pre ?_; first | refine LetI.mk (o := some .rem) ((k : Nat) : Int) hkk ?_ | refine LetI.mk (o := some .rem) (3 : Int) hw ?_ | refine LetI.mk (o := some .sub) ((l.length - 1 : Nat) : Int) hsub ?_ | refine LetI.wrap (by omega) (by omega) ?_ | refine LetI.mk _ rfl ?_) | (refine LetB.pre ?_; first | refine LetB.tt rfl ?_ | refine LetB.ff rfl ?_ | refine LetB.ff (by assumption) ?_ | refine LetB.bnet (by omega) ?_) | (refine Gd.pre ?_; first | refine Gd.run rfl ?_) | (refine Br.pre ?_; first | refine Br.tt rfl ?_ | refine Br.ff rfl ?_) | (refine Ck.pre ?_; first | refine Ck.drawn (by kernel_rfl) ?_ | refine Ck.mk rfl ?_) | (refine LetL.pre ?_; first | refine LetL.mk (ty := ety) (l.map en) rfl ?_ | refine LetL.mk (ty := ety) _ (app_en2 he l _ (by first | rfl | (simp; done))) ?_ | refine LetL.mk [_] rfl ?_) | (refine CallN.pre ?_; first | refine CallN.pure sanity_f rfl rfl ?_ | refine CallN.pure hM rfl rfl ?_ | refine CallN.pure hC rfl rfl ?_ | refine CallN.lend (hcl _) rfl (.full rfl (pure_en _) (by first | rfl | (simp; done)) .nil) ?_)))); (try (conv => whnf)))














      exact ⟨.inl rfl, ⟨_, rfl, rfl⟩, trivial⟩
    · clear hK
      ((repeat ((conv => whnf); (first | (refine LetN.pre ?_; first | ((conv => arg 1; whnf); refine LetN.mk ?_)) | (refine As.pre ?_; first | refine As.mk rfl ?_ | refine As.mk hnz ?_ | (refine As.mk ?_ ?_; · ((repeat' (refine andT ?_ ?_)) <;> (first | rfl | assumption | exact stor_en _ _ _ | exact stor_all _ | exact decide_eq_true (by simp; omega) | (simp; done) | (simp [room]; omega))))) | (refine LetV.pre ?_; first | refine LetV.mk (t := 29) _ hx ?_ | refine LetV.mk (t := 29) _ hy ?_ | refine LetV.mk (.sc (.int _ _)) rfl ?_ | refine LetV.mk (.agg _) rfl ?_) | (refine LetI.pre ?_; first | refine LetI.mk (o := some .rem) ((k : Nat) : Int) hkk ?_ | refine LetI.mk (o := some .rem) (3 : Int) hw ?_ | refine LetI.mk (o := some .sub) ((l.length - 1 : Nat) : Int) hsub ?_ | refine LetI.wrap (by omega) (by omega) ?_ | refine LetI.mk _ rfl ?_) | (refine LetB.pre ?_; first | refine LetB.tt rfl ?_ | refine LetB.ff rfl ?_ | refine LetB.ff (by assumption) ?_ | refine LetB.bnet (by omega) ?_) | (refine Br.pre ?_; first | refine Br.tt rfl ?_ | refine Br.ff rfl ?_) | (refine Ck.pre ?_; first | refine Ck.mk rfl ?_) | (refine LetL.pre ?_; first | refine LetL.mk [_] rfl ?_) | (refine CallN.pre ?_; first | refine CallN.pure sanity_f rfl rfl ?_ | refine CallN.pure hM rfl rfl ?_ | refine CallN.pure hC rfl rfl ?_)))); (try (conv => whnf)))














      exact ⟨.inl rfl, ⟨_, rfl, rfl⟩, trivial⟩
set_option maxHeartbeats 1600000 in
set_option maxRecDepth 100000 in
theorem refuses_4 (L : List (Fl × List Int)) (fl : Fl) (q : Int × Int × Int) (l l' : List E) (hm : MadeOk 14 l) (hl0 : 0 < l.length) (hM : AFun Try.prog 10 0 [.agg [.ro fl 1 (L.map iA), int q.1, int q.2.1, int q.2.2]] [] (.tup [.ro {} 15 (l.map en), .ro {} 15 (l'.map en)]) [])
    (what which : Int) (hwh : 0 ≤ what ∧ what ≤ 255) (hv : 0 ≤ which ∧ which ≤ 255) (hw : 4 = what.tmod 6) : AFun Try.prog 5 0 [.agg [.ro fl 1 (L.map iA), int q.1, int q.2.1, int q.2.2], u8 what, u8 which] [] (bool true) [] := by
  refine AFun.of_W T_ok mixed Try.func5 rfl (Nat.le_of_ble_eq_true rfl) rfl ?_
  have hlen := hm.len
  have hml : (l.map en).length = l.length := List.length_map _
  have hnz : (((l.map en).length : Int) != 0) = true := bne_iff_ne.2 (by omega)
  have hez : (((l.map en).length : Int) == 0) = false := beq_eq_false_iff_ne.2 (by omega)
  obtain ⟨k, hk, hkk⟩ : ∃ k : Nat, k < l.length ∧ ((k : Nat) : Int) = which.tmod (((l.map en).length : Nat) : Int) := by
    rw [hml]
    have h1 := Int.tmod_nonneg (l.length : Int) hv.1
    have h2 := Int.tmod_lt_of_pos which (b := (l.length : Int)) (by omega)
    exact ⟨(which.tmod (l.length : Int)).toNat, by omega, by omega⟩
  have hsub : ((l.length - 1 : Nat) : Int) = IntKind.i64.wrap (((l.map en).length : Int) - 1) := by rw [hml, wrap_id (by omega) (by omega)]; omega
  have hx : en (l.getD k e0) = (l.map en).getD k (.sc undef) := mapD e0 hk
  have hy : en (l.getD (l.length - 1) e0) = (l.map en).getD (l.length - 1) (.sc undef) := mapD e0 (by omega)
  have hxm : l.getD k e0 ∈ l := getD_mem hk
  have hym : l.getD (l.length - 1) e0 ∈ l := getD_mem (by omega)
  have rx := ent_zero (chk_ent hm.chk (by omega) hxm)
  have ry := ent_zero (chk_ent hm.chk (by omega) hym)
  have hr := room_en (n := l.length) (by omega)
  have hr1 := room_en (n := l.length + 1) (by omega)
  have hst := stor_all l
  have hK : ∀ x y : E, x = l.getD k e0 → y = l.getD (l.length - 1) e0 → ∀ e : E, e = ⟨x.id, 1, x.student, 7, y.day, x.on_, ⟨#[]⟩, 0, 0, 0, 2, 0, 0, 0, ⟨#[]⟩⟩ → entE ⟨x.id, 1, x.student, 7, y.day, x.on_, ⟨#[]⟩, 0, 0, 0, 2, 0, 0, 0, ⟨#[]⟩⟩ = 0 → chkE (l ++ [e]) = 6 := by
    intro x y hX hY e he hz
    rw [← hX] at hxm
    rw [chkM hm]
    exact one_id (he ▸ hz) (fun h => h.2 (by rw [he, made_first hm hl0])) (List.any_eq_true.2 ⟨x, hxm, by rw [he]; simp⟩)
  generalize l.getD k e0 = x at hx rx hK
  generalize l.getD (l.length - 1) e0 = y at hy ry hK
  obtain ⟨e, he⟩ : ∃ e : E, e = ⟨x.id, 1, x.student, 7, y.day, x.on_, ⟨#[]⟩, 0, 0, 0, 2, 0, 0, 0, ⟨#[]⟩⟩ := ⟨_, rfl⟩
  have hC := rCheck_f ⟨x.id, 1, x.student, 7, y.day, x.on_, ⟨#[]⟩, 0, 0, 0, 2, 0, 0, 0, ⟨#[]⟩⟩ (Nat.zero_le _)
  replace hK := hK x y rfl rfl e he
  generalize entE ⟨x.id, 1, x.student, 7, y.day, x.on_, ⟨#[]⟩, 0, 0, 0, 2, 0, 0, 0, ⟨#[]⟩⟩ = z at hC hK
  have hcl := fun fl => Check_l (l ++ [e]) fl
  generalize chkE (l ++ [e]) = w at hK hcl
  clear hxm hym
  by_cases h3 : x.kind = 3
  · by_cases h0 : z = 0
    · have hw2 := hK h0
      clear hK
      subst hw2
      subst h0
      ((repeat ((conv => whnf); (first | (refine LetN.pre ?_; first | ((conv => arg 1; whnf); refine LetN.mk ?_)) | (refine As.pre ?_; first | refine As.mk rfl ?_ | refine As.mk hnz ?_ | (refine As.mk ?_ ?_; · ((repeat' (refine andT ?_ ?_)) <;> (first | rfl | assumption | exact stor_en _ _ _ | exact stor_all _ | exact decide_eq_true (by simp; omega) | (simp; done) | (simp [room]; omega))))) | (refine LetV.pre ?_; first | refine LetV.mk (t := 29) _ hx ?_ | refine LetV.mk (t := 29) _ hy ?_ | refine LetV.mk (.sc (.int _ _)) rfl ?_ | refine LetV.mk (.agg _) rfl ?_) | (refine LetI.pre ?_; first | refine LetI.mk (o := some .rem) ((k : Nat) : Int) hkk ?_ | refine LetI.mk (o := some .rem) (4 : Int) hw ?_ | refine LetI.mk (o := some .sub) ((l.length - 1 : Nat) : Int) hsub ?_ | refine LetI.wrap (by omega) (by omega) ?_ | refine LetI.mk _ rfl ?_) | (refine LetB.pre ?_; first | refine LetB.tt rfl ?_ | refine LetB.ff rfl ?_ | refine LetB.ff (by assumption) ?_ | refine LetB.bnef (by omega) ?_) | (refine Gd.pre ?_; first | refine Gd.run rfl ?_) | (refine Br.pre ?_; first | refine Br.tt rfl ?_ | refine Br.ff rfl ?_) | (refine Ck.pre ?_; first | refine Ck.drawn (by kernel_rfl) ?_ | refine Ck.mk rfl ?_) | (refine LetL.pre ?_; first | refine LetL.mk (ty := ety) (l.map en) rfl ?_ | refine LetL.mk (ty := ety) _ (app_en2 he l _ (by first | rfl | (simp; done))) ?_ | refine LetL.mk [_] rfl ?_) | (refine CallN.pre ?_; first | refine CallN.pure sanity_f rfl rfl ?_ | refine CallN.pure hM rfl rfl ?_ | refine CallN.pure hC rfl rfl ?_ | refine CallN.lend (hcl _) rfl (.full rfl (pure_en _) (by first | rfl | (simp; done)) .nil) ?_)))); (try (conv => whnf)))














      exact ⟨.inl rfl, ⟨_, rfl, rfl⟩, trivial⟩
    · clear hK
      ((repeat ((conv => whnf); (first | (refine LetN.pre ?_; first | ((conv => arg 1; whnf); refine LetN.mk ?_)) | (refine As.pre ?_; first | refine As.mk rfl ?_ | refine As.mk hnz ?_ | (refine As.mk ?_ ?_; · ((repeat' (refine andT ?_ ?_)) <;> (first | rfl | assumption | exact stor_en _ _ _ | exact stor_all _ | exact decide_eq_true (by simp; omega) | (simp; done) | (simp [room]; omega))))) | (refine LetV.pre ?_; first | refine LetV.mk (t := 29) _ hx ?_ | refine LetV.mk (t := 29) _ hy ?_ | refine LetV.mk (.sc (.int _ _)) rfl ?_ | refine LetV.mk (.agg _) rfl ?_) | (refine LetI.pre ?_; first | refine LetI.mk (o := some .rem) ((k : Nat) : Int) hkk ?_ | refine LetI.mk (o := some .rem) (4 : Int) hw ?_ | refine LetI.mk (o := some .sub) ((l.length - 1 : Nat) : Int) hsub ?_ | refine LetI.wrap (by omega) (by omega) ?_ | refine LetI.mk _ rfl ?_) | (refine LetB.pre ?_; first | refine LetB.tt rfl ?_ | refine LetB.ff rfl ?_ | refine LetB.ff (by assumption) ?_ | refine LetB.bnet (by omega) ?_ | refine LetB.bnef (by omega) ?_) | (refine Br.pre ?_; first | refine Br.tt rfl ?_ | refine Br.ff rfl ?_) | (refine Ck.pre ?_; first | refine Ck.mk rfl ?_) | (refine LetL.pre ?_; first | refine LetL.mk [_] rfl ?_) | (refine CallN.pre ?_; first | refine CallN.pure sanity_f rfl rfl ?_ | refine CallN.pure hM rfl rfl ?_ | refine CallN.pure hC rfl rfl ?_)))); (try (conv => whnf)))














      exact ⟨.inl rfl, ⟨_, rfl, rfl⟩, trivial⟩
  · by_cases h0 : z = 0
    · have hw2 := hK h0
      clear hK
      subst hw2
      subst h0
      ((repeat ((conv => whnf); (first | (refine LetN.pre ?_; first | ((conv => arg 1; whnf); refine LetN.mk ?_)) | (refine As.pre ?_; first | refine As.mk rfl ?_ | refine As.mk hnz ?_ | (refine As.mk ?_ ?_; · ((repeat' (refine andT ?_ ?_)) <;> (first | rfl | assumption | exact stor_en _ _ _ | exact stor_all _ | exact decide_eq_true (by simp; omega) | (simp; done) | (simp [room]; omega))))) | (refine LetV.pre ?_; first | refine LetV.mk (t := 29) _ hx ?_ | refine LetV.mk (t := 29) _ hy ?_ | refine LetV.mk (.sc (.int _ _)) rfl ?_ | refine LetV.mk (.agg _) rfl ?_) | (refine LetI.pre ?_; first | refine LetI.mk (o := some .rem) ((k : Nat) : Int) hkk ?_ | refine LetI.mk (o := some .rem) (4 : Int) hw ?_ | refine LetI.mk (o := some .sub) ((l.length - 1 : Nat) : Int) hsub ?_ | refine LetI.wrap (by omega) (by omega) ?_ | refine LetI.mk _ rfl ?_) | (refine LetB.pre ?_; first | refine LetB.tt rfl ?_ | refine LetB.ff rfl ?_ | refine LetB.ff (by assumption) ?_ | refine LetB.bnet (by omega) ?_) | (refine Gd.pre ?_; first | refine Gd.run rfl ?_) | (refine Br.pre ?_; first | refine Br.tt rfl ?_ | refine Br.ff rfl ?_) | (refine Ck.pre ?_; first | refine Ck.drawn (by kernel_rfl) ?_ | refine Ck.mk rfl ?_) | (refine LetL.pre ?_; first | refine LetL.mk (ty := ety) (l.map en) rfl ?_ | refine LetL.mk (ty := ety) _ (app_en2 he l _ (by first | rfl | (simp; done))) ?_ | refine LetL.mk [_] rfl ?_) | (refine CallN.pre ?_; first | refine CallN.pure sanity_f rfl rfl ?_ | refine CallN.pure hM rfl rfl ?_ | refine CallN.pure hC rfl rfl ?_ | refine CallN.lend (hcl _) rfl (.full rfl (pure_en _) (by first | rfl | (simp; done)) .nil) ?_)))); (try (conv => whnf)))














      exact ⟨.inl rfl, ⟨_, rfl, rfl⟩, trivial⟩
    · clear hK
      ((repeat ((conv => whnf); (first | (refine LetN.pre ?_; first | ((conv => arg 1; whnf); refine LetN.mk ?_)) | (refine As.pre ?_; first | refine As.mk rfl ?_ | refine As.mk hnz ?_ | (refine As.mk ?_ ?_; · ((repeat' (refine andT ?_ ?_)) <;> (first | rfl | assumption | exact stor_en _ _ _ | exact stor_all _ | exact decide_eq_true (by simp; omega) | (simp; done) | (simp [room]; omega))))) | (refine LetV.pre ?_; first | refine LetV.mk (t := 29) _ hx ?_ | refine LetV.mk (t := 29) _ hy ?_ | refine LetV.mk (.sc (.int _ _)) rfl ?_ | refine LetV.mk (.agg _) rfl ?_) | (refine LetI.pre ?_; first | refine LetI.mk (o := some .rem) ((k : Nat) : Int) hkk ?_ | refine LetI.mk (o := some .rem) (4 : Int) hw ?_ | refine LetI.mk (o := some .sub) ((l.length - 1 : Nat) : Int) hsub ?_ | refine LetI.wrap (by omega) (by omega) ?_ | refine LetI.mk _ rfl ?_) | (refine LetB.pre ?_; first | refine LetB.tt rfl ?_ | refine LetB.ff rfl ?_ | refine LetB.ff (by assumption) ?_ | refine LetB.bnet (by omega) ?_) | (refine Br.pre ?_; first | refine Br.tt rfl ?_ | refine Br.ff rfl ?_) | (refine Ck.pre ?_; first | refine Ck.mk rfl ?_) | (refine LetL.pre ?_; first | refine LetL.mk [_] rfl ?_) | (refine CallN.pre ?_; first | refine CallN.pure sanity_f rfl rfl ?_ | refine CallN.pure hM rfl rfl ?_ | refine CallN.pure hC rfl rfl ?_)))); (try (conv => whnf)))














      exact ⟨.inl rfl, ⟨_, rfl, rfl⟩, trivial⟩
set_option maxHeartbeats 1600000 in
set_option maxRecDepth 100000 in
theorem refuses_5 (L : List (Fl × List Int)) (fl : Fl) (q : Int × Int × Int) (l l' : List E) (hm : MadeOk 14 l) (hl0 : 0 < l.length) (hM : AFun Try.prog 10 0 [.agg [.ro fl 1 (L.map iA), int q.1, int q.2.1, int q.2.2]] [] (.tup [.ro {} 15 (l.map en), .ro {} 15 (l'.map en)]) [])
    (what which : Int) (hwh : 0 ≤ what ∧ what ≤ 255) (hv : 0 ≤ which ∧ which ≤ 255) (hw : 5 = what.tmod 6) : AFun Try.prog 5 0 [.agg [.ro fl 1 (L.map iA), int q.1, int q.2.1, int q.2.2], u8 what, u8 which] [] (bool true) [] := by
  refine AFun.of_W T_ok mixed Try.func5 rfl (Nat.le_of_ble_eq_true rfl) rfl ?_
  have hlen := hm.len
  have hml : (l.map en).length = l.length := List.length_map _
  have hnz : (((l.map en).length : Int) != 0) = true := bne_iff_ne.2 (by omega)
  have hez : (((l.map en).length : Int) == 0) = false := beq_eq_false_iff_ne.2 (by omega)
  obtain ⟨k, hk, hkk⟩ : ∃ k : Nat, k < l.length ∧ ((k : Nat) : Int) = which.tmod (((l.map en).length : Nat) : Int) := by
    rw [hml]
    have h1 := Int.tmod_nonneg (l.length : Int) hv.1
    have h2 := Int.tmod_lt_of_pos which (b := (l.length : Int)) (by omega)
    exact ⟨(which.tmod (l.length : Int)).toNat, by omega, by omega⟩
  have hsub : ((l.length - 1 : Nat) : Int) = IntKind.i64.wrap (((l.map en).length : Int) - 1) := by rw [hml, wrap_id (by omega) (by omega)]; omega
  have hx : en (l.getD k e0) = (l.map en).getD k (.sc undef) := mapD e0 hk
  have hy : en (l.getD (l.length - 1) e0) = (l.map en).getD (l.length - 1) (.sc undef) := mapD e0 (by omega)
  have hxm : l.getD k e0 ∈ l := getD_mem hk
  have hym : l.getD (l.length - 1) e0 ∈ l := getD_mem (by omega)
  have rx := ent_zero (chk_ent hm.chk (by omega) hxm)
  have ry := ent_zero (chk_ent hm.chk (by omega) hym)
  have hr := room_en (n := l.length) (by omega)
  have hr1 := room_en (n := l.length + 1) (by omega)
  have hst := stor_all l
  have hK : ∀ x y : E, x = l.getD k e0 → y = l.getD (l.length - 1) e0 → ∀ e : E, e = ⟨800001, 1, x.student, 5, y.day - 1, x.on_, ⟨#[]⟩, 0, 0, x.id, 0, 0, 0, 0, ⟨#[]⟩⟩ → entE ⟨800001, 1, x.student, 5, y.day - 1, x.on_, ⟨#[]⟩, 0, 0, x.id, 0, 0, 0, 0, ⟨#[]⟩⟩ = 0 → chkE (l ++ [e]) = 7 := by
    intro x y hX hY e he hz
    rw [← hX] at hxm
    rw [chkM hm]
    exact one_day (he ▸ hz) (fun h => h.2 (by rw [he, made_first hm hl0])) (made_any hm (by rw [he]; exact (by decide : (800000 : Int) < 800001))) ⟨List.length_pos_iff.1 hl0, by rw [he]; rw [← hY]; show y.day - 1 < y.day; omega⟩
  generalize l.getD k e0 = x at hx rx hK
  generalize l.getD (l.length - 1) e0 = y at hy ry hK
  obtain ⟨e, he⟩ : ∃ e : E, e = ⟨800001, 1, x.student, 5, y.day - 1, x.on_, ⟨#[]⟩, 0, 0, x.id, 0, 0, 0, 0, ⟨#[]⟩⟩ := ⟨_, rfl⟩
  have hC := rCheck_f ⟨800001, 1, x.student, 5, y.day - 1, x.on_, ⟨#[]⟩, 0, 0, x.id, 0, 0, 0, 0, ⟨#[]⟩⟩ (Nat.zero_le _)
  replace hK := hK x y rfl rfl e he
  generalize entE ⟨800001, 1, x.student, 5, y.day - 1, x.on_, ⟨#[]⟩, 0, 0, x.id, 0, 0, 0, 0, ⟨#[]⟩⟩ = z at hC hK
  have hcl := fun fl => Check_l (l ++ [e]) fl
  generalize chkE (l ++ [e]) = w at hK hcl
  clear hxm hym
  by_cases s0 : y.day = 0 ∨ x.on_ ≥ y.day
  case pos =>
    clear hK hC hcl
    by_cases s1 : y.day = 0
    · by_cases h3 : x.kind = 3
      · ((repeat ((conv => whnf); (first | (refine LetN.pre ?_; first | ((conv => arg 1; whnf); refine LetN.mk ?_)) | (refine As.pre ?_; first | refine As.mk rfl ?_ | refine As.mk hnz ?_ | (refine As.mk ?_ ?_; · ((repeat' (refine andT ?_ ?_)) <;> (first | rfl | assumption | exact stor_en _ _ _ | exact stor_all _ | exact decide_eq_true (by simp; omega) | (simp; done) | (simp [room]; omega))))) | (refine LetV.pre ?_; first | refine LetV.mk (t := 29) _ hx ?_ | refine LetV.mk (t := 29) _ hy ?_ | refine LetV.mk (.sc (.int _ _)) rfl ?_ | refine LetV.mk (.agg _) rfl ?_) | (refine LetI.pre ?_; first | refine LetI.mk (o := some .rem) ((k : Nat) : Int) hkk ?_ | refine LetI.mk (o := some .rem) (5 : Int) hw ?_ | refine LetI.mk (o := some .sub) ((l.length - 1 : Nat) : Int) hsub ?_ | refine LetI.wrap (by omega) (by omega) ?_ | refine LetI.mk _ rfl ?_) | (refine LetB.pre ?_; first | refine LetB.ff rfl ?_ | refine LetB.ff (by assumption) ?_ | refine LetB.dect (by omega) ?_ | refine LetB.bnef (by omega) ?_) | (refine Gd.pre ?_; first | refine Gd.pass rfl ?_) | (refine Br.pre ?_; first | refine Br.tt rfl ?_ | refine Br.ff rfl ?_) | (refine Ck.pre ?_; first | refine Ck.mk rfl ?_) | (refine LetL.pre ?_; first | refine LetL.mk [_] rfl ?_) | (refine CallN.pre ?_; first | refine CallN.pure sanity_f rfl rfl ?_ | refine CallN.pure hM rfl rfl ?_)))); (try (conv => whnf)))














        exact ⟨.inl rfl, ⟨_, rfl, rfl⟩, trivial⟩
      · ((repeat ((conv => whnf); (first | (refine LetN.pre ?_; first | ((conv => arg 1; whnf); refine LetN.mk ?_)) | (refine As.pre ?_; first | refine As.mk rfl ?_ | refine As.mk hnz ?_ | (refine As.mk ?_ ?_; · ((repeat' (refine andT ?_ ?_)) <;> (first | rfl | assumption | exact stor_en _ _ _ | exact stor_all _ | exact decide_eq_true (by simp; omega) | (simp; done) | (simp [room]; omega))))) | (refine LetV.pre ?_; first | refine LetV.mk (t := 29) _ hx ?_ | refine LetV.mk (t := 29) _ hy ?_ | refine LetV.mk (.sc (.int _ _)) rfl ?_ | refine LetV.mk (.agg _) rfl ?_) | (refine LetI.pre ?_; first | refine LetI.mk (o := some .rem) ((k : Nat) : Int) hkk ?_ | refine LetI.mk (o := some .rem) (5 : Int) hw ?_ | refine LetI.mk (o := some .sub) ((l.length - 1 : Nat) : Int) hsub ?_ | refine LetI.wrap (by omega) (by omega) ?_ | refine LetI.mk _ rfl ?_) | (refine LetB.pre ?_; first | refine LetB.ff rfl ?_ | refine LetB.ff (by assumption) ?_ | refine LetB.dect (by omega) ?_ | refine LetB.bnet (by omega) ?_) | (refine Gd.pre ?_; first | refine Gd.pass rfl ?_) | (refine Br.pre ?_; first | refine Br.tt rfl ?_ | refine Br.ff rfl ?_) | (refine Ck.pre ?_; first | refine Ck.mk rfl ?_) | (refine LetL.pre ?_; first | refine LetL.mk [_] rfl ?_) | (refine CallN.pre ?_; first | refine CallN.pure sanity_f rfl rfl ?_ | refine CallN.pure hM rfl rfl ?_)))); (try (conv => whnf)))














        exact ⟨.inl rfl, ⟨_, rfl, rfl⟩, trivial⟩
    · by_cases h3 : x.kind = 3
      · ((repeat ((conv => whnf); (first | (refine LetN.pre ?_; first | ((conv => arg 1; whnf); refine LetN.mk ?_)) | (refine As.pre ?_; first | refine As.mk rfl ?_ | refine As.mk hnz ?_ | (refine As.mk ?_ ?_; · ((repeat' (refine andT ?_ ?_)) <;> (first | rfl | assumption | exact stor_en _ _ _ | exact stor_all _ | exact decide_eq_true (by simp; omega) | (simp; done) | (simp [room]; omega))))) | (refine LetV.pre ?_; first | refine LetV.mk (t := 29) _ hx ?_ | refine LetV.mk (t := 29) _ hy ?_ | refine LetV.mk (.sc (.int _ _)) rfl ?_ | refine LetV.mk (.agg _) rfl ?_) | (refine LetI.pre ?_; first | refine LetI.mk (o := some .rem) ((k : Nat) : Int) hkk ?_ | refine LetI.mk (o := some .rem) (5 : Int) hw ?_ | refine LetI.mk (o := some .sub) ((l.length - 1 : Nat) : Int) hsub ?_ | refine LetI.wrap (by omega) (by omega) ?_ | refine LetI.mk _ rfl ?_) | (refine LetB.pre ?_; first | refine LetB.ff rfl ?_ | refine LetB.ff (by assumption) ?_ | refine LetB.dect (by omega) ?_ | refine LetB.decf (by omega) ?_ | refine LetB.bnef (by omega) ?_) | (refine Gd.pre ?_; first | refine Gd.run rfl ?_) | (refine Br.pre ?_; first | refine Br.tt rfl ?_ | refine Br.ff rfl ?_) | (refine Ck.pre ?_; first | refine Ck.mk rfl ?_) | (refine LetL.pre ?_; first | refine LetL.mk [_] rfl ?_) | (refine CallN.pre ?_; first | refine CallN.pure sanity_f rfl rfl ?_ | refine CallN.pure hM rfl rfl ?_)))); (try (conv => whnf)))














        exact ⟨.inl rfl, ⟨_, rfl, rfl⟩, trivial⟩
      · ((repeat ((conv => whnf); (first | (refine LetN.pre ?_; first | ((conv => arg 1; whnf); refine LetN.mk ?_)) | (refine As.pre ?_; first | refine As.mk rfl ?_ | refine As.mk hnz ?_ | (refine As.mk ?_ ?_; · ((repeat' (refine andT ?_ ?_)) <;> (first | rfl | assumption | exact stor_en _ _ _ | exact stor_all _ | exact decide_eq_true (by simp; omega) | (simp; done) | (simp [room]; omega))))) | (refine LetV.pre ?_; first | refine LetV.mk (t := 29) _ hx ?_ | refine LetV.mk (t := 29) _ hy ?_ | refine LetV.mk (.sc (.int _ _)) rfl ?_ | refine LetV.mk (.agg _) rfl ?_) | (refine LetI.pre ?_; first | refine LetI.mk (o := some .rem) ((k : Nat) : Int) hkk ?_ | refine LetI.mk (o := some .rem) (5 : Int) hw ?_ | refine LetI.mk (o := some .sub) ((l.length - 1 : Nat) : Int) hsub ?_ | refine LetI.wrap (by omega) (by omega) ?_ | refine LetI.mk _ rfl ?_) | (refine LetB.pre ?_; first | refine LetB.ff rfl ?_ | refine LetB.ff (by assumption) ?_ | refine LetB.dect (by omega) ?_ | refine LetB.decf (by omega) ?_ | refine LetB.bnet (by omega) ?_) | (refine Gd.pre ?_; first | refine Gd.run rfl ?_) | (refine Br.pre ?_; first | refine Br.tt rfl ?_ | refine Br.ff rfl ?_) | (refine Ck.pre ?_; first | refine Ck.mk rfl ?_) | (refine LetL.pre ?_; first | refine LetL.mk [_] rfl ?_) | (refine CallN.pre ?_; first | refine CallN.pure sanity_f rfl rfl ?_ | refine CallN.pure hM rfl rfl ?_)))); (try (conv => whnf)))














        exact ⟨.inl rfl, ⟨_, rfl, rfl⟩, trivial⟩
  by_cases h3 : x.kind = 3
  · by_cases h0 : z = 0
    · have hw2 := hK h0
      clear hK
      subst hw2
      subst h0
      ((repeat ((conv => whnf); (first | (refine LetN.pre ?_; first | ((conv => arg 1; whnf); refine LetN.mk ?_)) | (refine As.pre ?_; first | refine As.mk rfl ?_ | refine As.mk hnz ?_ | (refine As.mk ?_ ?_; · ((repeat' (refine andT ?_ ?_)) <;> (first | rfl | assumption | exact stor_en _ _ _ | exact stor_all _ | exact decide_eq_true (by simp; omega) | (simp; done) | (simp [room]; omega))))) | (refine LetV.pre ?_; first | refine LetV.mk (t := 29) _ hx ?_ | refine LetV.mk (t := 29) _ hy ?_ | refine LetV.mk (.sc (.int _ _)) rfl ?_ | refine LetV.mk (.agg _) rfl ?_) | (refine LetI.pre ?_; first | refine LetI.mk (o := some .rem) ((k : Nat) : Int) hkk ?_ | refine LetI.mk (o := some .rem) (5 : Int) hw ?_ | refine LetI.mk (o := some .sub) ((l.length - 1 : Nat) : Int) hsub ?_ | refine LetI.wrap (by omega) (by omega) ?_ | refine LetI.mk _ rfl ?_) | (refine LetB.pre ?_; first | refine LetB.tt rfl ?_ | refine LetB.ff rfl ?_ | refine LetB.ff (by assumption) ?_ | refine LetB.decf (by omega) ?_ | refine LetB.bnef (by omega) ?_) | (refine Gd.pre ?_; first | refine Gd.run rfl ?_) | (refine Br.pre ?_; first | refine Br.ff rfl ?_) | (refine Ck.pre ?_; first | refine Ck.drawn (by kernel_rfl) ?_ | refine Ck.mk rfl ?_) | (refine LetL.pre ?_; first | refine LetL.mk (ty := ety) (l.map en) rfl ?_ | refine LetL.mk (ty := ety) _ (app_en2 he l _ (by first | rfl | (simp; done))) ?_ | refine LetL.mk [_] rfl ?_) | (refine CallN.pre ?_; first | refine CallN.pure sanity_f rfl rfl ?_ | refine CallN.pure hM rfl rfl ?_ | refine CallN.pure hC rfl rfl ?_ | refine CallN.lend (hcl _) rfl (.full rfl (pure_en _) (by first | rfl | (simp; done)) .nil) ?_)))); (try (conv => whnf)))














      exact ⟨.inl rfl, ⟨_, rfl, rfl⟩, trivial⟩
    · clear hK
      ((repeat ((conv => whnf); (first | (refine LetN.pre ?_; first | ((conv => arg 1; whnf); refine LetN.mk ?_)) | (refine As.pre ?_; first | refine As.mk rfl ?_ | refine As.mk hnz ?_ | (refine As.mk ?_ ?_; · ((repeat' (refine andT ?_ ?_)) <;> (first | rfl | assumption | exact stor_en _ _ _ | exact stor_all _ | exact decide_eq_true (by simp; omega) | (simp; done) | (simp [room]; omega))))) | (refine LetV.pre ?_; first | refine LetV.mk (t := 29) _ hx ?_ | refine LetV.mk (t := 29) _ hy ?_ | refine LetV.mk (.sc (.int _ _)) rfl ?_ | refine LetV.mk (.agg _) rfl ?_) | (refine LetI.pre ?_; first | refine LetI.mk (o := some .rem) ((k : Nat) : Int) hkk ?_ | refine LetI.mk (o := some .rem) (5 : Int) hw ?_ | refine LetI.mk (o := some .sub) ((l.length - 1 : Nat) : Int) hsub ?_ | refine LetI.wrap (by omega) (by omega) ?_ | refine LetI.mk _ rfl ?_) | (refine LetB.pre ?_; first | refine LetB.ff rfl ?_ | refine LetB.ff (by assumption) ?_ | refine LetB.decf (by omega) ?_ | refine LetB.bnet (by omega) ?_ | refine LetB.bnef (by omega) ?_) | (refine Gd.pre ?_; first | refine Gd.run rfl ?_) | (refine Br.pre ?_; first | refine Br.tt rfl ?_ | refine Br.ff rfl ?_) | (refine Ck.pre ?_; first | refine Ck.mk rfl ?_) | (refine LetL.pre ?_; first | refine LetL.mk [_] rfl ?_) | (refine CallN.pre ?_; first | refine CallN.pure sanity_f rfl rfl ?_ | refine CallN.pure hM rfl rfl ?_ | refine CallN.pure hC rfl rfl ?_)))); (try (conv => whnf)))














      exact ⟨.inl rfl, ⟨_, rfl, rfl⟩, trivial⟩
  · by_cases h0 : z = 0
    · have hw2 := hK h0
      clear hK
      subst hw2
      subst h0
      ((repeat ((conv => whnf); (first | (refine LetN.pre ?_; first | ((conv => arg 1; whnf); refine LetN.mk ?_)) | (refine As.pre ?_; first | refine As.mk rfl ?_ | refine As.mk hnz ?_ | (refine As.mk ?_ ?_; · ((repeat' (refine andT ?_ ?_)) <;> (first | rfl | assumption | exact stor_en _ _ _ | exact stor_all _ | exact decide_eq_true (by simp; omega) | (simp; done) | (simp [room]; omega))))) | (refine LetV.pre ?_; first | refine LetV.mk (t := 29) _ hx ?_ | refine LetV.mk (t := 29) _ hy ?_ | refine LetV.mk (.sc (.int _ _)) rfl ?_ | refine LetV.mk (.agg _) rfl ?_) | (refine LetI.pre ?_; first | refine LetI.mk (o := some .rem) ((k : Nat) : Int) hkk ?_ | refine LetI.mk (o := some .rem) (5 : Int) hw ?_ | refine LetI.mk (o := some .sub) ((l.length - 1 : Nat) : Int) hsub ?_ | refine LetI.wrap (by omega) (by omega) ?_ | refine LetI.mk _ rfl ?_) | (refine LetB.pre ?_; first | refine LetB.tt rfl ?_ | refine LetB.ff rfl ?_ | refine LetB.ff (by assumption) ?_ | refine LetB.decf (by omega) ?_ | refine LetB.bnet (by omega) ?_) | (refine Gd.pre ?_; first | refine Gd.run rfl ?_) | (refine Br.pre ?_; first | refine Br.tt rfl ?_ | refine Br.ff rfl ?_) | (refine Ck.pre ?_; first | refine Ck.drawn (by kernel_rfl) ?_ | refine Ck.mk rfl ?_) | (refine LetL.pre ?_; first | refine LetL.mk (ty := ety) (l.map en) rfl ?_ | refine LetL.mk (ty := ety) _ (app_en2 he l _ (by first | rfl | (simp; done))) ?_ | refine LetL.mk [_] rfl ?_) | (refine CallN.pre ?_; first | refine CallN.pure sanity_f rfl rfl ?_ | refine CallN.pure hM rfl rfl ?_ | refine CallN.pure hC rfl rfl ?_ | refine CallN.lend (hcl _) rfl (.full rfl (pure_en _) (by first | rfl | (simp; done)) .nil) ?_)))); (try (conv => whnf)))














      exact ⟨.inl rfl, ⟨_, rfl, rfl⟩, trivial⟩
    · clear hK
      ((repeat ((conv => whnf); (first | (refine LetN.pre ?_; first | ((conv => arg 1; whnf); refine LetN.mk ?_)) | (refine As.pre ?_; first | refine As.mk rfl ?_ | refine As.mk hnz ?_ | (refine As.mk ?_ ?_; · ((repeat' (refine andT ?_ ?_)) <;> (first | rfl | assumption | exact stor_en _ _ _ | exact stor_all _ | exact decide_eq_true (by simp; omega) | (simp; done) | (simp [room]; omega))))) | (refine LetV.pre ?_; first | refine LetV.mk (t := 29) _ hx ?_ | refine LetV.mk (t := 29) _ hy ?_ | refine LetV.mk (.sc (.int _ _)) rfl ?_ | refine LetV.mk (.agg _) rfl ?_) | (refine LetI.pre ?_; first | refine LetI.mk (o := some .rem) ((k : Nat) : Int) hkk ?_ | refine LetI.mk (o := some .rem) (5 : Int) hw ?_ | refine LetI.mk (o := some .sub) ((l.length - 1 : Nat) : Int) hsub ?_ | refine LetI.wrap (by omega) (by omega) ?_ | refine LetI.mk _ rfl ?_) | (refine LetB.pre ?_; first | refine LetB.ff rfl ?_ | refine LetB.ff (by assumption) ?_ | refine LetB.decf (by omega) ?_ | refine LetB.bnet (by omega) ?_) | (refine Gd.pre ?_; first | refine Gd.run rfl ?_) | (refine Br.pre ?_; first | refine Br.tt rfl ?_ | refine Br.ff rfl ?_) | (refine Ck.pre ?_; first | refine Ck.mk rfl ?_) | (refine LetL.pre ?_; first | refine LetL.mk [_] rfl ?_) | (refine CallN.pre ?_; first | refine CallN.pure sanity_f rfl rfl ?_ | refine CallN.pure hM rfl rfl ?_ | refine CallN.pure hC rfl rfl ?_)))); (try (conv => whnf)))














      exact ⟨.inl rfl, ⟨_, rfl, rfl⟩, trivial⟩
end En
end Go.Proofs.Ytjnohedknlibmaa
namespace Go.Proofs.Ytjnohedknlibmaa
open Go.Proofs.Ytjnohedknlibmaa.Am
namespace En
set_option maxRecDepth 100000 in
theorem refuses_nil (L : List (Fl × List Int)) (fl : Fl) (q : Int × Int × Int) (l' : List E) (hM : AFun Try.prog 10 0 [.agg [.ro fl 1 (L.map iA), int q.1, int q.2.1, int q.2.2]] [] (.tup [.ro {} 15 [], .ro {} 15 (l'.map en)]) [])
    (what which : Int) : AFun Try.prog 5 0 [.agg [.ro fl 1 (L.map iA), int q.1, int q.2.1, int q.2.2], u8 what, u8 which] [] (bool true) [] := by
  refine AFun.of_W T_ok mixed Try.func5 rfl (Nat.le_of_ble_eq_true rfl) rfl ?_
  ((repeat ((conv => whnf); (first | (refine LetN.pre ?_; first | ((conv => arg 1; whnf); refine LetN.mk ?_)) | (refine As.pre ?_; first | refine As.mk rfl ?_) | (refine LetV.pre ?_; first | refine LetV.mk (.agg _) rfl ?_) | (refine LetI.pre ?_; first | refine LetI.mk _ rfl ?_) | (refine LetB.pre ?_; first | refine LetB.tt rfl ?_) | (refine Gd.pre ?_; first | refine Gd.run rfl ?_) | (refine Br.pre ?_; first | refine Br.tt rfl ?_) | (refine Ck.pre ?_; first | refine Ck.mk rfl ?_) | (refine CallN.pre ?_; first | refine CallN.pure sanity_f rfl rfl ?_ | refine CallN.pure hM rfl rfl ?_ | refine CallN.pure Check_nil rfl rfl ?_)))); (try (conv => whnf)))



  exact ⟨.inl rfl, ⟨_, rfl, rfl⟩, trivial⟩
/-- Numbers of entries of a school: lists as the row gives them. -/
theorem refuses (L : List (Fl × List Int)) (fl : Fl) (q : Int × Int × Int) (hxs : ∀ x ∈ L, x.2.length ≤ 9223372036854775807) (what which : Int) (hwh : 0 ≤ what ∧ what ≤ 255) (hv : 0 ≤ which ∧ which ≤ 255) :
    AFun Try.prog 5 0 [.agg [.ro fl 1 (L.map iA), int q.1, int q.2.1, int q.2.2], u8 what, u8 which] [] (bool true) [] := by
  obtain ⟨l, l', h1, h2, hM⟩ := made_f L fl q hxs
  by_cases h0 : l = []
  · subst h0
    exact refuses_nil L fl q l' hM what which
  have hl0 : 0 < l.length := List.length_pos_iff.2 h0
  have a1 := Int.tmod_nonneg 6 hwh.1
  have a2 := Int.tmod_lt_of_pos what (b := 6) (by omega)
  have hc : 0 = what.tmod 6 ∨ 1 = what.tmod 6 ∨ 2 = what.tmod 6 ∨ 3 = what.tmod 6 ∨ 4 = what.tmod 6 ∨ 5 = what.tmod 6 := by omega
  rcases hc with h | h | h | h | h | h
  · exact refuses_0 L fl q l l' h1 hl0 hM what which hwh hv h
  · exact refuses_1 L fl q l l' h1 hl0 hM what which hwh hv h
  · exact refuses_2 L fl q l l' h1 hl0 hM what which hwh hv h
  · exact refuses_3 L fl q l l' h1 hl0 hM what which hwh hv h
  · exact refuses_4 L fl q l l' h1 hl0 hM what which hwh hv h
  · exact refuses_5 L fl q l l' h1 hl0 hM what which hwh hv h
theorem refuses_row (x : List (List Int) × Int × Int × Int) (hxs : ∀ l ∈ x.1, l.length ≤ 9223372036854775807) (what which : Int) (hwh : 0 ≤ what ∧ what ≤ 255) (hv : 0 ≤ which ∧ which ≤ 255) :
    AFun Try.prog 5 0 [.agg [.ro {} 1 (x.1.map fun l => .ro {} 1 (l.map int)), int x.2.1, int x.2.2.1, int x.2.2.2], u8 what, u8 which] [] (bool true) [] := by
  have h := refuses (x.1.map fun l => (({} : Fl), l)) {} x.2 (fun y hy => by
    obtain ⟨l, hl, rfl⟩ := List.mem_map.1 hy
    exact hxs l hl) what which hwh hv
  rw [List.map_map] at h
  exact h
end En
end Go.Proofs.Ytjnohedknlibmaa
