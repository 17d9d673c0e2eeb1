/- earn: parts of the proof, DearnHD DearnLA DearnLB DearnLC DearnLD DearnLF DearnHE DearnHF DearnHG DearnHH. -/
import Derived.Test.YtiefcppgbnfbfaaL41
set_option linter.all false
namespace Go.Proofs.Ytiefcppgbnfbfaa
open Go.Proofs.Ytiefcppgbnfbfaa.Am
set_option maxRecDepth 100000
namespace En
/-! ### Achievements -/
structure Ach where
  school : Int
  code : ByteArray
  credits : Int
  grade : Int
  day : Int
  src : Fl × List Int
  bundle : Int
  path : Option (Fl × List Int)
abbrev ints (p : Fl × List Int) : AV := .ro p.1 1 (p.2.map int)
def pthA : Option (Fl × List Int) → AV
  | none => .sc (.slice none 0 0)
  | some p => ints p
abbrev achA (a : Ach) : AV := .agg [int a.school, str a.code, int a.credits, int a.grade, int a.day, ints a.src, int a.bundle, pthA a.path]
abbrev aty : TypeId := 55
theorem pth_pure (p : Option (Fl × List Int)) : (pthA p).names (fun _ => false) = true := by cases p <;> rfl
theorem pure_ach : ∀ l : List Ach, AV.namesL (fun _ => false) (l.map achA) = true
  | [] => rfl
  | p :: l => by simp only [List.map_cons, AV.namesL, pure_ach l, AV.names, pth_pure]; rfl
theorem app_ach (l : List Ach) (e : Ach) (n : Nat) (h : n = l.length) : (l ++ [e]).map achA = (l.map achA).take n ++ [achA e] := by rw [List.take_of_length_le (by simp [h]), List.map_append]; rfl
theorem room_ach {n : Nat} (h : n ≤ 1000000) : room n 104 = true := by
  simp only [room, Bool.and_eq_true, decide_eq_true_eq]
  exact ⟨by omega, rfl⟩
/-- A school's own achievement. -/
def ownA (e : E) (g : Int) : Ach := ⟨e.school, e.course, e.credits, g, e.on_, (⟨true, true⟩, [1000000 * e.school + e.id]), 0, none⟩
def keepA (m : List (Int × E)) (s : Sc.Scl) (st : Int) (x : St) : Bool := !(x.void || ((gradeM m x.entry).student != st || !decide (Sc.rea s x.grade s.2.2)))
def ofP (l : List E) (s : Sc.Scl) (st a o : Int) : List Ach := ((atP l a o).filter (keepA (mB l) s st)).map fun x => ownA (gradeM (mB l) x.entry) x.grade
theorem bk_call (m : List (Int × E)) : atCall (fun i => i + 1) (bkH []) (.tup []) (bkH m) = { v := .tup [], D := [1, 2], δ := [(1, some (.map m.length (kvM m))), (2, some (.row 1 73 [.mp 1]))] } := by
  show ({ v := _, D := _, δ := [(1, some (.map m.length ((kvM m).map fun x => (x.1, x.2.ren (fun i => i + 1))))), (2, some (.row 1 _ [.mp 1]))] } : Out) = _
  rw [kv_ren (kvM_pure m)]; rfl
theorem mem_sink (o : Bool) : ∀ (j : Nat) (l : List E) (e : E), j < l.length → e ∈ sink o l j → e ∈ l
  | 0, l, e, _, h => h
  | j + 1, l, e, hj, h => by
    unfold sink at h
    split at h
    · have := mem_sink o j _ e (by simp only [List.length_set]; omega) h
      rcases List.mem_or_eq_of_mem_set this with h | h
      · rcases List.mem_or_eq_of_mem_set h with h | h
        · exact h
        · rw [h]; exact getD_memE (by omega)
      · rw [h]; exact getD_memE hj
    · exact h
theorem mem_isr (o : Bool) : ∀ (f i : Nat) (l : List E) (e : E), (∀ k, k < f → i + k < l.length) → e ∈ isr o f i l → e ∈ l
  | 0, i, l, e, _, h => h
  | f + 1, i, l, e, hk, h => by
    have h0 := hk 0 (by omega)
    exact mem_sink o i l e h0 (mem_isr o f (i + 1) _ e (fun k hk' => by rw [sink_length]; have := hk (k + 1) (by omega); omega) h)
theorem mem_srt {o : Bool} {l : List E} {e : E} (h : e ∈ srt o l) : e ∈ l := mem_isr o _ _ _ _ (fun k hk => by omega) h
theorem mem_at {l : List E} {a o : Int} {x : St} (h : x ∈ atP l a o) : ∃ e ∈ l, x.entry = e.id := by
  obtain ⟨g, hg, rfl⟩ := List.mem_map.1 h
  exact ⟨g, (List.mem_filter.1 (mem_srt (List.mem_filter.1 hg).1)).1, rfl⟩
/-- The numbers of entries that are small. -/
abbrev okB (e : E) : Prop := (-1000 ≤ e.school ∧ e.school ≤ 1000) ∧ (-1000000000 ≤ e.id ∧ e.id ≤ 1000000000)
abbrev ofS (m : List (Int × E)) (s : Sc.Scl) (st : Int) (A : List St) : Nat × List Ach → AS
  | (k, out) => ⟨[(2, int st), (6, .ptr 0 3 0 0), (11, .ptr 2 1 0 0), (14, .slm {} 3 8 0 out.length), (33, .ro {} 4 (A.map stA)), (34, int A.length), (35, int k)],
      [(0, .row 3 32 [Sc.scA s]), (1, .map m.length (kvM m)), (2, .row 1 73 [.mp 1]), (3, .row 8 aty (out.map achA))], 4⟩
theorem ofNames (m : List (Int × E)) (s : Sc.Scl) (out : List Ach) (ok : Nat → Bool) (h : ok 1 = true) : namesAll ok [(0, .row 3 32 [Sc.scA s]), (1, .map m.length (kvM m)), (2, .row 1 73 [.mp 1]), (3, .row 8 aty (out.map achA))] = true :=
  namesAll.row rfl (namesAll.map (kvM_pure _) (by
    have h2 : namesAll ok [(3, .row 8 aty (out.map achA))] = true := namesAll.row (pure_ach _) rfl
    rw [namesAll, h2]
    simp only [Blk.names, AV.namesL, AV.names, h]; rfl))
theorem filter_map_succ {α β : Type} (p : α → Bool) (g : α → β) {l : List α} {k : Nat} (h : k < l.length) (d : α) : ((l.take (k + 1)).filter p).map g = ((l.take k).filter p).map g ++ if p (l.getD k d) then [g (l.getD k d)] else [] := by
  rw [List.take_succ_eq_append_getElem h, List.filter_append, List.map_append, List.getD_eq_getElem?_getD, List.getElem?_eq_getElem h, List.filter_cons]
  simp only [Option.getD_some]
  split <;> rfl
abbrev st0 : St := ⟨0, 0, 0, false⟩
theorem getD_st {l : List St} {k : Nat} (h : k < l.length) : stA (l.getD k st0) = (l.map stA).getD k (.sc undef) := mapD st0 h
set_option maxHeartbeats 1600000 in
set_option maxRecDepth 100000 in
theorem Of_s (l : List E) (s : Sc.Scl) (st a o : Int) (fl : Fl) (hl : l.length < 40) (hb : ∀ e ∈ l, okB e) : AFun Try.prog 12 0 [.ro fl 15 (l.map en), Sc.scA s, int st, int a, int o] [] (.slm {} 0 8 0 (ofP l s st a o).length) [(0, .row 8 aty ((ofP l s st a o).map achA))] := by
  refine AFun.of_S T_ok mixed Try.func12 rfl (Nat.le_of_ble_eq_true rfl) rfl ?_
  have hA := At_f l a o fl hl
  have hB := Backward_f l fl
  have hkey : ∀ e ∈ l, okI e.id := fun e he => by have := hb e he; omega
  have hbn : ∀ (m : List (Int × E)) (ok : Nat → Bool), ok 0 = true → namesAll ok (bkH m) = true := fun m ok h => namesAll.map (kvM_pure _) (by simp only [namesAll, Blk.names, AV.namesL, AV.names, h]; rfl)
  ((repeat ((conv => whnf); (first | (refine LetN.pre ?_; first | ((conv => arg 1; whnf); refine LetN.mk ?_)) | (refine As.pre ?_; first | refine As.mk rfl ?_) | (refine Ck.pre ?_; first | refine Ck.mk rfl ?_) | (refine LetL.pre ?_; first | refine LetL.mk [_] rfl ?_) | (refine CallN.pre ?_; first | refine CallN.pure hB rfl rfl ?_)))); (try (conv => whnf)))
  refine RfN.iter (r := { v := .tup [], D := [1, 2], δ := [(1, some (.map (mB l).length (kvM (mB l)))), (2, some (.row 1 73 [.mp 1]))] }) [11] (Nat.le_of_ble_eq_true rfl) rfl rfl (by kernel_rfl) (fun lp rc h1 h2 h3 h4 h5 h6 => ?it) rfl ?sol rfl ?rest
  case it =>
    rw [← bk_call]
    refine ACalls.of_fun (fun i => i + 1) (Back1_f l fl (by omega) lp rc (by rw [h1]; rfl) [11] fun j hj => ?_) (CallOk.mk' rfl rfl rfl (hbn _ _ rfl) rfl (hbn _ _ rfl) (haveAll.map (kvM_pure _) rfl ⟨rfl, trivial⟩))
    rw [mB_drop hj]
    have hk1 := keys_M (mB_keys fun e he => hkey e (List.mem_of_mem_drop he)) (hkey _ (getD_memE hj)) (m := mB (l.drop (j + 1)))
    generalize mB (l.drop (j + 1)) = m at hk1 ⊢
    generalize l.getD j e0 = e at hk1 ⊢
    refine yield_of_V T_ok mixed h1 h2 h3 h4 h5 h6 rfl rfl rfl (solidH.map (kvM_solid _) (solidH.row rfl rfl)) rfl ?_
    by_cases h3 : e.kind = 3
    · rw [if_pos h3]
      cases hix : ixM m e.id with
      | none =>
        have hfi := find_none hix
        have hput := kvM_put_none hix
        have hlen : (putM m e).length = m.length + 1 := by rw [put_none hix, List.length_append]; rfl
        ((repeat ((conv => whnf); (first | (refine LetN.pre ?_; first | ((conv => arg 1; whnf); refine LetN.mk ?_)) | (refine As.pre ?_; first | refine As.mk rfl ?_) | (refine Ck.pre ?_; first | refine Ck.mk rfl ?_) | (refine LetL.pre ?_; first | refine LetL.mk [_] rfl ?_)))); (try (conv => whnf)))
        refine ⟨rfl, ?_⟩
        ((repeat ((conv => whnf); (first | (refine LetN.pre ?_; first | ((conv => arg 1; whnf); refine LetN.mk ?_)) | (refine As.pre ?_; first | refine As.mk rfl ?_ | refine As.mk hk1 ?_) | (refine LetV.pre ?_; first | refine LetV.mk (t := 73) (.mp _) rfl ?_ | refine LetV.mk (.sc (.int _ _)) rfl ?_ | refine LetV.mk (.agg _) rfl ?_) | (refine LetB.pre ?_; first | refine LetB.dect (by omega) ?_) | (refine Br.pre ?_; first | refine Br.tt rfl ?_) | (refine Ck.pre ?_; first | refine Ck.mk rfl ?_) | (refine FindN.mk none hfi ?_)))); (try (conv => whnf)))



        exact ⟨rfl, ⟨[], bkH (putM m e), 2⟩, SW.mk id rfl rfl (hbn _ _ rfl) trivial (haveV.map (kvM_pure _) (by rw [hput, hlen]; rfl) (haveV.one rfl trivial)), rfl⟩
      | some i =>
        have hfi := find_some hix
        have hput := kvM_put_some hix
        have hlen : (putM m e).length = m.length := by rw [put_some hix, List.length_set]
        ((repeat ((conv => whnf); (first | (refine LetN.pre ?_; first | ((conv => arg 1; whnf); refine LetN.mk ?_)) | (refine As.pre ?_; first | refine As.mk rfl ?_) | (refine Ck.pre ?_; first | refine Ck.mk rfl ?_) | (refine LetL.pre ?_; first | refine LetL.mk [_] rfl ?_)))); (try (conv => whnf)))
        refine ⟨rfl, ?_⟩
        ((repeat ((conv => whnf); (first | (refine LetN.pre ?_; first | ((conv => arg 1; whnf); refine LetN.mk ?_)) | (refine As.pre ?_; first | refine As.mk rfl ?_ | refine As.mk hk1 ?_) | (refine LetV.pre ?_; first | refine LetV.mk (t := 73) (.mp _) rfl ?_ | refine LetV.mk (.sc (.int _ _)) rfl ?_ | refine LetV.mk (.agg _) rfl ?_) | (refine LetB.pre ?_; first | refine LetB.dect (by omega) ?_) | (refine Br.pre ?_; first | refine Br.tt rfl ?_) | (refine Ck.pre ?_; first | refine Ck.mk rfl ?_) | (refine FindN.mk (some i) hfi ?_)))); (try (conv => whnf)))



        exact ⟨rfl, ⟨[], bkH (putM m e), 2⟩, SW.mk id rfl rfl (hbn _ _ rfl) trivial (haveV.map (kvM_pure _) (by rw [hput, hlen]; rfl) (haveV.one rfl trivial)), rfl⟩
    · rw [if_neg h3]
      ((repeat ((conv => whnf); (first | (refine LetN.pre ?_; first | ((conv => arg 1; whnf); refine LetN.mk ?_)) | (refine As.pre ?_; first | refine As.mk rfl ?_) | (refine Ck.pre ?_; first | refine Ck.mk rfl ?_) | (refine LetL.pre ?_; first | refine LetL.mk [_] rfl ?_)))); (try (conv => whnf)))
      refine ⟨rfl, ?_⟩
      ((repeat ((conv => whnf); (first | (refine As.pre ?_; first | refine As.mk rfl ?_) | (refine LetV.pre ?_; first | refine LetV.mk (.sc (.int _ _)) rfl ?_) | (refine LetB.pre ?_; first | refine LetB.decf (by omega) ?_) | (refine Br.pre ?_; first | refine Br.ff rfl ?_) | (refine Ck.pre ?_; first | refine Ck.mk rfl ?_)))); (try (conv => whnf)))
      exact ⟨rfl, ⟨[], bkH m, 2⟩, SW.mk id rfl rfl (hbn _ _ rfl) trivial (haveV.map (kvM_pure _) rfl (haveV.one rfl trivial)), rfl⟩
  case sol => exact solidH.row rfl (solidH.map (kvM_solid _) (solidH.row rfl rfl))
  case rest =>
    have hgb : ∀ k, okB (gradeM (mB l) k) := fun k => by
      unfold gradeM
      split
      · rename_i i hi
        obtain ⟨e, he⟩ := ix_some hi
        rw [List.getD_eq_getElem?_getD, he]
        obtain ⟨e', he', h⟩ := mem_mB _ (List.mem_of_getElem? he)
        injection h with _ h
        show okB e
        rw [h]; exact hb e' he'
      · exact ⟨⟨by decide, by decide⟩, by decide, by decide⟩
    have hk1 : ∀ {k : Int}, okI k → _ := fun {k} h => keys_M (m := mB l) (mB_keys hkey) (n := k) h
    rw [ofP]
    generalize mB l = m at hgb hk1 ⊢
    ((repeat ((conv => whnf); (first | (refine As.pre ?_; first | refine As.mk rfl ?_) | (refine LetI.pre ?_; first | refine LetI.mk _ rfl ?_) | (refine Ck.pre ?_; first | refine Ck.mk rfl ?_) | (refine CallN.pre ?_; first | refine CallN.pure hA rfl rfl ?_)))); (try (conv => whnf)))
    have hid : ∀ x ∈ atP l a o, okI x.entry := fun x hx => by
      obtain ⟨e, he, h⟩ := mem_at hx
      rw [h]; exact hkey e he
    have hAl : (atP l a o).length < 40 := by
      have h1 : (chos (atR l a o) [cOf 3]).length ≤ _ := List.length_filter_le _ _
      have h2 : (chos l [cCounts a o]).length ≤ _ := List.length_filter_le _ _
      have h3 : (atR l a o).length = _ := srt_length false _
      have h4 : (atP l a o).length = _ := List.length_map _
      omega
    generalize atP l a o = A at hid hAl ⊢
    clear hA hB hkey hb hl
    refine LoopN.weak (s1 := ofS m s st A (0, [])) ?sw1 ?_
    case sw1 => exact SW.mk id rfl rfl (ofNames _ _ _ _ rfl) ⟨.refl _, .refl _, .refl _, VLe2.nilslm, .refl _, VLe2.int (by rw [List.length_map]), .refl _, trivial⟩ (haveV.row rfl rfl (haveV.map (kvM_pure _) rfl (haveV.one rfl (haveV.nil (Nat.le_refl _) trivial))))
    refine LoopN.ind T_ok mixed (S := ofS m s st A) (fun i => A.length - i.1) (fun i => i.1 ≤ A.length ∧ i.2 = ((A.take i.1).filter (keepA m s st)).map fun x => ownA (gradeM m x.entry) x.grade) (fun _ => rfl) (fun i hi ih => ?_) (0, []) ⟨Nat.zero_le _, rfl⟩
    obtain ⟨k, out⟩ := i
    obtain ⟨h1, h2⟩ := hi
    simp only at h1 h2 ih
    by_cases hlt : k < A.length
    case neg =>
      have hk : k = A.length := by omega
      subst hk
      rw [List.take_length] at h2
      rw [← h2]
      clear ih
      ((repeat ((conv => whnf); (first | (refine As.pre ?_; first | refine As.mk rfl ?_) | (refine LetB.pre ?_; first | refine LetB.decf (by omega) ?_) | (refine Br.pre ?_; first | refine Br.ff rfl ?_) | (refine Ck.pre ?_; first | refine Ck.mk rfl ?_)))); (try (conv => whnf)))
      exact ⟨⟨[(10, .slm {} 0 8 0 out.length)], [(0, .row 8 aty (out.map achA))], 4⟩, SW.mk (fun _ => 3) rfl rfl (namesAll.row (pure_ach _) rfl) ⟨.refl _, trivial⟩ (haveV.row (pure_ach _) rfl trivial), .inl rfl, ⟨_, rfl, rfl⟩, rfl, trivial⟩
    have hld := getD_st hlt
    have hq := filter_map_succ (keepA m s st) (fun x => ownA (gradeM m x.entry) x.grade) hlt st0
    rw [← h2] at hq
    have hol : out.length ≤ k := by
      have := List.length_filter_le (keepA m s st) (A.take k)
      rw [h2, List.length_map]
      rw [List.length_take] at this
      omega
    have hxe : okI (A.getD k st0).entry := hid _ (by rw [List.getD_eq_getElem?_getD, List.getElem?_eq_getElem hlt]; exact List.getElem_mem _)
    clear h2
    generalize A.getD k st0 = x at hld hq hxe
    have hk2 := hk1 hxe
    obtain ⟨xe, xb, xg, xv⟩ := x
    have hP := Sc.Passed_f s xg
    cases hix : ixM m xe with
    | none =>
      have hfi := find_none hix
      have hge : gradeM m xe = e0 := by unfold gradeM; rw [hix]
      have heb : okB e0 := ⟨⟨by decide, by decide⟩, by decide, by decide⟩
      cases xv with
      | true =>
        rw [if_neg (by simp [keepA]), List.append_nil] at hq
        ((repeat ((conv => whnf); (first | (refine LetN.pre ?_; first | ((conv => arg 1; whnf); refine LetN.mk ?_)) | (refine As.pre ?_; first | refine As.mk rfl ?_ | refine As.mk hk2 ?_ | (refine As.mk ?_ ?_; · ((repeat' (refine andT ?_ ?_)) <;> (first | rfl | assumption | exact decide_eq_true (by omega) | exact decide_eq_true (by dsimp only; omega) | exact decide_eq_true (by simp; omega) | (simp; done))))) | (refine LetV.pre ?_; first | refine LetV.mk (t := 73) (.mp _) rfl ?_ | refine LetV.mk (t := 77) _ hld ?_ | refine LetV.mk (.sc (.int _ _)) rfl ?_ | refine LetV.mk (.sc (.bool _)) rfl ?_ | refine LetV.mk (.agg _) rfl ?_) | (refine LetI.pre ?_; first | refine LetI.wrap (by omega) (by omega) ?_) | (refine LetB.pre ?_; first | refine LetB.dect (by omega) ?_) | (refine Gd.pre ?_; first | refine Gd.pass rfl ?_) | (refine Br.pre ?_; first | refine Br.tt rfl ?_) | (refine Ck.pre ?_; first | refine Ck.mk rfl ?_) | (refine LetL.pre ?_; first | refine LetL.mk [_] rfl ?_) | (refine FindN.mk none hfi ?_)))); (try (conv => whnf)))




        refine LoopN.weak ?sw2 (ih (k + 1, out) ⟨by omega, hq.symm⟩ (by omega))
        case sw2 => exact SW.mk id rfl rfl (ofNames _ _ _ _ rfl) ⟨.refl _, .refl _, .refl _, .refl _, .refl _, .refl _, VLe2.int (by omega), trivial⟩ (haveV.row rfl rfl (haveV.map (kvM_pure _) rfl (haveV.one rfl (haveV.row (pure_ach _) rfl trivial))))
      | false =>
        by_cases hs : (0 : Int) = st
        case neg =>
          rw [if_neg (by simp [keepA, hge, e0, hs]), List.append_nil] at hq
          ((repeat ((conv => whnf); (first | (refine LetN.pre ?_; first | ((conv => arg 1; whnf); refine LetN.mk ?_)) | (refine As.pre ?_; first | refine As.mk rfl ?_ | refine As.mk hk2 ?_ | (refine As.mk ?_ ?_; · ((repeat' (refine andT ?_ ?_)) <;> (first | rfl | assumption | exact decide_eq_true (by omega) | exact decide_eq_true (by dsimp only; omega) | exact decide_eq_true (by simp; omega) | (simp; done))))) | (refine LetV.pre ?_; first | refine LetV.mk (t := 73) (.mp _) rfl ?_ | refine LetV.mk (t := 77) _ hld ?_ | refine LetV.mk (.sc (.int _ _)) rfl ?_ | refine LetV.mk (.sc (.bool _)) rfl ?_ | refine LetV.mk (.agg _) rfl ?_) | (refine LetI.pre ?_; first | refine LetI.wrap (by omega) (by omega) ?_) | (refine LetB.pre ?_; first | refine LetB.dect (by omega) ?_ | refine LetB.bnet (by omega) ?_) | (refine Gd.pre ?_; first | refine Gd.run rfl ?_ | refine Gd.pass rfl ?_) | (refine Br.pre ?_; first | refine Br.tt rfl ?_) | (refine Ck.pre ?_; first | refine Ck.mk rfl ?_) | (refine LetL.pre ?_; first | refine LetL.mk [_] rfl ?_) | (refine FindN.mk none hfi ?_)))); (try (conv => whnf)))




          refine LoopN.weak ?sw3 (ih (k + 1, out) ⟨by omega, hq.symm⟩ (by omega))
          case sw3 => exact SW.mk id rfl rfl (ofNames _ _ _ _ rfl) ⟨.refl _, .refl _, .refl _, .refl _, .refl _, .refl _, VLe2.int (by omega), trivial⟩ (haveV.row rfl rfl (haveV.map (kvM_pure _) rfl (haveV.one rfl (haveV.row (pure_ach _) rfl trivial))))
        case pos =>
          by_cases hp : Sc.rea s xg s.2.2
          case neg =>
            rw [if_neg (by simp [keepA, hge, e0, hs, hp]), List.append_nil] at hq
            ((repeat ((conv => whnf); (first | (refine LetN.pre ?_; first | ((conv => arg 1; whnf); refine LetN.mk ?_)) | (refine As.pre ?_; first | refine As.mk rfl ?_ | refine As.mk hk2 ?_ | (refine As.mk ?_ ?_; · ((repeat' (refine andT ?_ ?_)) <;> (first | rfl | assumption | exact decide_eq_true (by omega) | exact decide_eq_true (by dsimp only; omega) | exact decide_eq_true (by simp; omega) | (simp; done))))) | (refine LetV.pre ?_; first | refine LetV.mk (t := 73) (.mp _) rfl ?_ | refine LetV.mk (t := 77) _ hld ?_ | refine LetV.mk (.sc (.int _ _)) rfl ?_ | refine LetV.mk (.sc (.bool _)) rfl ?_ | refine LetV.mk (.agg _) rfl ?_) | (refine LetI.pre ?_; first | refine LetI.wrap (by omega) (by omega) ?_) | (refine LetB.pre ?_; first | refine LetB.dect (by omega) ?_ | refine LetB.bnef (by omega) ?_) | (refine Gd.pre ?_; first | refine Gd.run rfl ?_) | (refine Br.pre ?_; first | refine Br.tt rfl ?_) | (refine Ck.pre ?_; first | refine Ck.mk rfl ?_) | (refine LetL.pre ?_; first | refine LetL.mk [_] rfl ?_) | (refine CallN.pre ?_; first | refine CallN.dec hP rfl (fun h => absurd h hp) (fun _ => ?_)) | (refine FindN.mk none hfi ?_)))); (try (conv => whnf)))





            refine LoopN.weak ?sw4 (ih (k + 1, out) ⟨by omega, hq.symm⟩ (by omega))
            case sw4 => exact SW.mk id rfl rfl (ofNames _ _ _ _ rfl) ⟨.refl _, .refl _, .refl _, .refl _, .refl _, .refl _, VLe2.int (by omega), trivial⟩ (haveV.row rfl rfl (haveV.map (kvM_pure _) rfl (haveV.one rfl (haveV.row (pure_ach _) rfl trivial))))
          case pos =>
            rw [if_pos (by simp [keepA, hge, e0, hs, hp])] at hq
            have hr := room_ach (n := out.length + 1) (by omega)
            have hol2 : (out.map achA).length = out.length := List.length_map _
            ((repeat ((conv => whnf); (first | (refine LetN.pre ?_; first | ((conv => arg 1; whnf); refine LetN.mk ?_)) | (refine As.pre ?_; first | refine As.mk rfl ?_ | refine As.mk hk2 ?_ | (refine As.mk ?_ ?_; · ((repeat' (refine andT ?_ ?_)) <;> (first | rfl | assumption | exact decide_eq_true (by omega) | exact decide_eq_true (by dsimp only; omega) | exact decide_eq_true (by simp; omega) | (simp; done))))) | (refine LetV.pre ?_; first | refine LetV.mk (t := 73) (.mp _) rfl ?_ | refine LetV.mk (t := 77) _ hld ?_ | refine LetV.mk (.sc (.int _ _)) rfl ?_ | refine LetV.mk (.sc (.bool _)) rfl ?_ | refine LetV.mk (.sc _) rfl ?_ | refine LetV.mk (.agg _) rfl ?_) | (refine LetI.pre ?_; first | refine LetI.wrap (by omega) (by omega) ?_) | (refine LetB.pre ?_; first | refine LetB.dect (by omega) ?_ | refine LetB.bnef (by omega) ?_) | (refine Gd.pre ?_; first | refine Gd.run rfl ?_) | (refine Br.pre ?_; first | refine Br.tt rfl ?_ | refine Br.ff rfl ?_) | (refine Ck.pre ?_; first | refine Ck.mk rfl ?_) | (refine LetL.pre ?_; first | refine LetL.mk (ty := aty) _ (app_ach out (ownA e0 xg) _ rfl) ?_ | refine LetL.mk [_] rfl ?_) | (refine CallN.pre ?_; first | refine CallN.dec hP rfl (fun _ => ?_) (fun h => absurd hp h)) | (refine FindN.mk none hfi ?_)))); (try (conv => whnf)))






            refine LoopN.weak ?swk1 (ih (k + 1, out ++ [ownA e0 xg]) ⟨by omega, by rw [hq, hge]⟩ (by omega))
            case swk1 => exact SW.mk (fun i => if i = 3 then 6 else i) rfl rfl (ofNames _ _ _ _ rfl) ⟨.refl _, .refl _, .refl _, VLe2.slm_of (by simp), .refl _, .refl _, VLe2.int (by omega), trivial⟩ (haveV.row rfl rfl (haveV.map (kvM_pure _) rfl (haveV.one rfl (haveV.row (pure_ach _) rfl trivial))))
    | some i =>
      have hfi := find_some hix
      obtain ⟨e, he⟩ := ix_some hix
      have hge : gradeM m xe = e := by unfold gradeM; rw [hix]; show (m.getD i (0, e0)).2 = e; rw [List.getD_eq_getElem?_getD, he]; rfl
      have heb : okB e := hge ▸ hgb xe
      have hv : en e = kvAt (kvM m) i := by unfold kvAt; rw [List.getD_eq_getElem?_getD, List.getElem?_map, he]; rfl
      cases xv with
      | true =>
        rw [if_neg (by simp [keepA]), List.append_nil] at hq
        ((repeat ((conv => whnf); (first | (refine LetN.pre ?_; first | ((conv => arg 1; whnf); refine LetN.mk ?_)) | (refine As.pre ?_; first | refine As.mk rfl ?_ | refine As.mk hk2 ?_ | (refine As.mk ?_ ?_; · ((repeat' (refine andT ?_ ?_)) <;> (first | rfl | assumption | exact decide_eq_true (by omega) | exact decide_eq_true (by dsimp only; omega) | exact decide_eq_true (by simp; omega) | (simp; done))))) | (refine LetV.pre ?_; first | refine LetV.mk (t := 73) (.mp _) rfl ?_ | refine LetV.mk (t := 73) (en e) hv ?_ | refine LetV.mk (t := 77) _ hld ?_ | refine LetV.mk (.sc (.int _ _)) rfl ?_ | refine LetV.mk (.sc (.bool _)) rfl ?_ | refine LetV.mk (.agg _) rfl ?_) | (refine LetI.pre ?_; first | refine LetI.wrap (by omega) (by omega) ?_) | (refine LetB.pre ?_; first | refine LetB.dect (by omega) ?_) | (refine Gd.pre ?_; first | refine Gd.pass rfl ?_) | (refine Br.pre ?_; first | refine Br.tt rfl ?_) | (refine Ck.pre ?_; first | refine Ck.mk rfl ?_) | (refine LetL.pre ?_; first | refine LetL.mk [_] rfl ?_) | (refine FindN.mk (some i) hfi ?_)))); (try (conv => whnf)))





        refine LoopN.weak ?sw5 (ih (k + 1, out) ⟨by omega, hq.symm⟩ (by omega))
        case sw5 => exact SW.mk id rfl rfl (ofNames _ _ _ _ rfl) ⟨.refl _, .refl _, .refl _, .refl _, .refl _, .refl _, VLe2.int (by omega), trivial⟩ (haveV.row rfl rfl (haveV.map (kvM_pure _) rfl (haveV.one rfl (haveV.row (pure_ach _) rfl trivial))))
      | false =>
        by_cases hs : e.student = st
        case neg =>
          rw [if_neg (by simp [keepA, hge, hs]), List.append_nil] at hq
          ((repeat ((conv => whnf); (first | (refine LetN.pre ?_; first | ((conv => arg 1; whnf); refine LetN.mk ?_)) | (refine As.pre ?_; first | refine As.mk rfl ?_ | refine As.mk hk2 ?_ | (refine As.mk ?_ ?_; · ((repeat' (refine andT ?_ ?_)) <;> (first | rfl | assumption | exact decide_eq_true (by omega) | exact decide_eq_true (by dsimp only; omega) | exact decide_eq_true (by simp; omega) | (simp; done))))) | (refine LetV.pre ?_; first | refine LetV.mk (t := 73) (.mp _) rfl ?_ | refine LetV.mk (t := 73) (en e) hv ?_ | refine LetV.mk (t := 77) _ hld ?_ | refine LetV.mk (.sc (.int _ _)) rfl ?_ | refine LetV.mk (.sc (.bool _)) rfl ?_ | refine LetV.mk (.agg _) rfl ?_) | (refine LetI.pre ?_; first | refine LetI.wrap (by omega) (by omega) ?_) | (refine LetB.pre ?_; first | refine LetB.dect (by omega) ?_ | refine LetB.bnet (by omega) ?_) | (refine Gd.pre ?_; first | refine Gd.run rfl ?_ | refine Gd.pass rfl ?_) | (refine Br.pre ?_; first | refine Br.tt rfl ?_) | (refine Ck.pre ?_; first | refine Ck.mk rfl ?_) | (refine LetL.pre ?_; first | refine LetL.mk [_] rfl ?_) | (refine FindN.mk (some i) hfi ?_)))); (try (conv => whnf)))





          refine LoopN.weak ?sw6 (ih (k + 1, out) ⟨by omega, hq.symm⟩ (by omega))
          case sw6 => exact SW.mk id rfl rfl (ofNames _ _ _ _ rfl) ⟨.refl _, .refl _, .refl _, .refl _, .refl _, .refl _, VLe2.int (by omega), trivial⟩ (haveV.row rfl rfl (haveV.map (kvM_pure _) rfl (haveV.one rfl (haveV.row (pure_ach _) rfl trivial))))
        case pos =>
          by_cases hp : Sc.rea s xg s.2.2
          case neg =>
            rw [if_neg (by simp [keepA, hge, hs, hp]), List.append_nil] at hq
            ((repeat ((conv => whnf); (first | (refine LetN.pre ?_; first | ((conv => arg 1; whnf); refine LetN.mk ?_)) | (refine As.pre ?_; first | refine As.mk rfl ?_ | refine As.mk hk2 ?_ | (refine As.mk ?_ ?_; · ((repeat' (refine andT ?_ ?_)) <;> (first | rfl | assumption | exact decide_eq_true (by omega) | exact decide_eq_true (by dsimp only; omega) | exact decide_eq_true (by simp; omega) | (simp; done))))) | (refine LetV.pre ?_; first | refine LetV.mk (t := 73) (.mp _) rfl ?_ | refine LetV.mk (t := 73) (en e) hv ?_ | refine LetV.mk (t := 77) _ hld ?_ | refine LetV.mk (.sc (.int _ _)) rfl ?_ | refine LetV.mk (.sc (.bool _)) rfl ?_ | refine LetV.mk (.agg _) rfl ?_) | (refine LetI.pre ?_; first | refine LetI.wrap (by omega) (by omega) ?_) | (refine LetB.pre ?_; first | refine LetB.dect (by omega) ?_ | refine LetB.bnef (by omega) ?_) | (refine Gd.pre ?_; first | refine Gd.run rfl ?_) | (refine Br.pre ?_; first | refine Br.tt rfl ?_) | (refine Ck.pre ?_; first | refine Ck.mk rfl ?_) | (refine LetL.pre ?_; first | refine LetL.mk [_] rfl ?_) | (refine CallN.pre ?_; first | refine CallN.dec hP rfl (fun h => absurd h hp) (fun _ => ?_)) | (refine FindN.mk (some i) hfi ?_)))); (try (conv => whnf)))






            refine LoopN.weak ?sw7 (ih (k + 1, out) ⟨by omega, hq.symm⟩ (by omega))
            case sw7 => exact SW.mk id rfl rfl (ofNames _ _ _ _ rfl) ⟨.refl _, .refl _, .refl _, .refl _, .refl _, .refl _, VLe2.int (by omega), trivial⟩ (haveV.row rfl rfl (haveV.map (kvM_pure _) rfl (haveV.one rfl (haveV.row (pure_ach _) rfl trivial))))
          case pos =>
            rw [if_pos (by simp [keepA, hge, hs, hp])] at hq
            have hr := room_ach (n := out.length + 1) (by omega)
            have hol2 : (out.map achA).length = out.length := List.length_map _
            ((repeat ((conv => whnf); (first | (refine LetN.pre ?_; first | ((conv => arg 1; whnf); refine LetN.mk ?_)) | (refine As.pre ?_; first | refine As.mk rfl ?_ | refine As.mk hk2 ?_ | (refine As.mk ?_ ?_; · ((repeat' (refine andT ?_ ?_)) <;> (first | rfl | assumption | exact decide_eq_true (by omega) | exact decide_eq_true (by dsimp only; omega) | exact decide_eq_true (by simp; omega) | (simp; done))))) | (refine LetV.pre ?_; first | refine LetV.mk (t := 73) (.mp _) rfl ?_ | refine LetV.mk (t := 73) (en e) hv ?_ | refine LetV.mk (t := 77) _ hld ?_ | refine LetV.mk (.sc (.int _ _)) rfl ?_ | refine LetV.mk (.sc (.bool _)) rfl ?_ | refine LetV.mk (.sc _) rfl ?_ | refine LetV.mk (.agg _) rfl ?_) | (refine LetI.pre ?_; first | refine LetI.wrap (by omega) (by omega) ?_) | (refine LetB.pre ?_; first | refine LetB.dect (by omega) ?_ | refine LetB.bnef (by omega) ?_) | (refine Gd.pre ?_; first | refine Gd.run rfl ?_) | (refine Br.pre ?_; first | refine Br.tt rfl ?_ | refine Br.ff rfl ?_) | (refine Ck.pre ?_; first | refine Ck.mk rfl ?_) | (refine LetL.pre ?_; first | refine LetL.mk (ty := aty) _ (app_ach out (ownA e xg) _ rfl) ?_ | refine LetL.mk [_] rfl ?_) | (refine CallN.pre ?_; first | refine CallN.dec hP rfl (fun _ => ?_) (fun h => absurd hp h)) | (refine FindN.mk (some i) hfi ?_)))); (try (conv => whnf)))







            refine LoopN.weak ?swk2 (ih (k + 1, out ++ [ownA e xg]) ⟨by omega, by rw [hq, hge]⟩ (by omega))
            case swk2 => exact SW.mk (fun i => if i = 3 then 6 else i) rfl rfl (ofNames _ _ _ _ rfl) ⟨.refl _, .refl _, .refl _, VLe2.slm_of (by simp), .refl _, .refl _, VLe2.int (by omega), trivial⟩ (haveV.row rfl rfl (haveV.map (kvM_pure _) rfl (haveV.one rfl (haveV.row (pure_ach _) rfl trivial))))
theorem Of_f (l : List E) (s : Sc.Scl) (st a o : Int) (fl : Fl) (hl : l.length < 40) (hb : ∀ e ∈ l, okB e) : AFun Try.prog 12 0 [.ro fl 15 (l.map en), Sc.scA s, int st, int a, int o] [] (.ro {} 8 ((ofP l s st a o).map achA)) [] :=
  AFun.frz1 (H := []) (Of_s l s st a o fl hl hb) rfl (pure_ach _) (by simp)
end En
end Go.Proofs.Ytiefcppgbnfbfaa
namespace Go.Proofs.Ytiefcppgbnfbfaa
open Go.Proofs.Ytiefcppgbnfbfaa.Am
set_option maxRecDepth 100000
namespace En
/-- Where an element is put in: behind the last one that isn't greater. -/
def posB {α : Type} (gt : α → Bool) (d : α) (out : List α) : Nat → Nat
  | 0 => 0
  | k + 1 => if gt (out.getD k d) then posB gt d out k else k + 1
theorem posB_le {α : Type} (gt : α → Bool) (d : α) (out : List α) : ∀ k, posB gt d out k ≤ k
  | 0 => Nat.le_refl _
  | k + 1 => by
    unfold posB
    split
    · have := posB_le gt d out k; omega
    · exact Nat.le_refl _
def putB {α : Type} (gt : α → Bool) (d : α) (out : List α) (e : α) : List α := out.take (posB gt d out out.length) ++ e :: out.drop (posB gt d out out.length)
def insId (out : List E) (e : E) : List E := putB (fun x => decide (e.id < x.id)) e0 out e
theorem insId_length (out : List E) (e : E) : (insId out e).length = out.length + 1 := by
  have := posB_le (fun x => decide (e.id < x.id)) e0 out out.length
  simp only [insId, putB, List.length_append, List.length_take, List.length_cons, List.length_drop]
  omega
def cntQ (kd a o : Int) (e : E) : Bool := decide (e.kind = kd ∧ e.day ≤ a ∧ e.on_ ≤ o)
/-- The entries of a kind that count, in the order of their Ids. -/
def countP (l : List E) (kd a o : Int) : List E := (l.filter (cntQ kd a o)).foldl insId []
theorem foldl_ins_length {α : Type} (f : List α → α → List α) (h : ∀ out e, (f out e).length = out.length + 1) : ∀ (l out : List α), (l.foldl f out).length = out.length + l.length
  | [], out => rfl
  | x :: l, out => by rw [List.foldl_cons, foldl_ins_length f h l, h]; simp; omega
theorem countP_length (l : List E) (kd a o : Int) : (countP l kd a o).length ≤ l.length := by
  rw [countP, foldl_ins_length insId insId_length]
  simpa using List.length_filter_le (cntQ kd a o) l
theorem foldl_filter_drop {α β : Type} (q : α → Bool) (f : β → α → β) {l : List α} {k : Nat} (h : k < l.length) (d : α) (x : β) : ((l.drop k).filter q).foldl f x = if q (l.getD k d) then ((l.drop (k + 1)).filter q).foldl f (f x (l.getD k d)) else ((l.drop (k + 1)).filter q).foldl f x := by
  rw [List.drop_eq_getElem_cons h, List.getD_eq_getElem?_getD, List.getElem?_eq_getElem h]
  simp only [Option.getD_some, List.filter_cons]
  split <;> rfl
theorem getD_id {l : List E} {k : Nat} (h : k < l.length) : int (l.getD k e0).id = Am.part false 1 0 15 ((l.map en).getD (0 + k) (.sc undef)) := by
  rw [Nat.zero_add, List.getD_eq_getElem?_getD, List.getD_eq_getElem?_getD, List.getElem?_map, List.getElem?_eq_getElem h]; rfl
theorem copy_row (out : List E) (p x y z w : Nat) (hx : x = p + 1) (hw : w = p) (hy : y = out.length - p) (hz : z = out.length + 1 - p) (hp : p ≤ out.length) :
    ((out ++ [e0]).take (p + 1) ++ out.drop p).map en = splice ((out ++ [e0]).map en) x (((((out ++ [e0]).map en).drop w).take z).take y) := by
  subst hx hw hy hz
  have hM : ((((out ++ [e0]).map en).drop w).take (out.length + 1 - w)).take (out.length - w) = (out.drop w).map en := by
    rw [List.take_take, Nat.min_eq_left (by omega), ← List.map_drop, ← List.map_take, List.drop_append_of_le_length hp, List.take_append_of_le_length (by simp), List.take_of_length_le (by simp)]
  rw [hM]
  unfold splice
  rw [List.drop_eq_nil_of_le (i := w + 1 + _) (by simp; omega), List.append_nil, List.map_append, List.map_take]
theorem set_row (out : List E) (p : Nat) (e : E) (hp : p ≤ out.length) : (out.take p ++ e :: out.drop p).map en = (((out ++ [e0]).take (p + 1) ++ out.drop p).map en).set (0 + p) (en e) := by
  rw [Nat.zero_add, ← List.map_set]
  congr 1
  have hlt : p < (out ++ [e0]).length := by simp; omega
  rw [List.take_succ_eq_append_getElem hlt, List.append_assoc, List.take_append_of_le_length hp, List.set_append_right _ _ (by simp; omega), List.length_take, Nat.min_eq_left hp, Nat.sub_self]
  rfl
abbrev couS (l : List E) (fl : Fl) (kd a o : Int) : Nat × List E → AS
  | (k, out) => ⟨[(0, .ro fl 15 (l.map en)), (1, int kd), (2, int a), (3, int o), (9, .slm {} 0 15 0 out.length), (10, int k)], [(0, .row 15 ety (out.map en))], 1⟩
abbrev couI (l : List E) (fl : Fl) (kd a o : Int) (k : Nat) (out : List E) (e : E) : Nat → AS
  | at_ => ⟨[(0, .ro fl 15 (l.map en)), (1, int kd), (2, int a), (3, int o), (9, .slm {} 0 15 0 out.length), (10, int k), (11, .ptr 1 15 0 0), (12, int at_)], [(0, .row 15 ety (out.map en)), (1, .row 15 ety [en e])], 2⟩
set_option maxRecDepth 100000 in
theorem counting_s (l : List E) (kd a o : Int) (fl : Fl) (hl : l.length ≤ 100000) : AFun Try.prog 69 0 [.ro fl 15 (l.map en), int kd, int a, int o] [] (.slm {} 0 15 0 (countP l kd a o).length) [(0, .row 15 ety ((countP l kd a o).map en))] := by
  refine AFun.of_S T_ok mixed Try.func69 rfl (Nat.le_of_ble_eq_true rfl) rfl ?_
  unfold countP
  generalize hR : (l.filter (cntQ kd a o)).foldl insId [] = R
  ((repeat ((conv => whnf); (first | (refine As.pre ?_; first | refine As.mk rfl ?_) | (refine Ck.pre ?_; first | refine Ck.mk rfl ?_)))); (try (conv => whnf)))
  refine LoopN.weak (s1 := couS l fl kd a o (0, [])) ?sw1 ?_
  case sw1 => exact SW.mk (fun _ => 0) rfl rfl rfl ⟨.refl _, .refl _, .refl _, .refl _, VLe2.nilslm, .refl _, trivial⟩ (haveV.nil (Nat.le_refl _) trivial)
  refine LoopN.ind T_ok mixed (S := couS l fl kd a o) (fun i => l.length - i.1) (fun i => i.1 ≤ l.length ∧ i.2.length ≤ i.1 ∧ R = ((l.drop i.1).filter (cntQ kd a o)).foldl insId i.2) (fun _ => rfl) (fun i hi ih => ?_) (0, []) ⟨Nat.zero_le _, Nat.zero_le _, hR.symm⟩
  obtain ⟨k, out⟩ := i
  obtain ⟨h1, h0, h2⟩ := hi
  simp only at h0 h1 h2 ih
  have hcl : (l.map en).length = l.length := List.length_map _
  by_cases hlt : k < l.length
  case neg =>
    rw [List.drop_eq_nil_of_le (by omega)] at h2
    simp only [List.filter_nil, List.foldl_nil] at h2
    rw [h2]
    clear ih
    ((repeat ((conv => whnf); (first | (refine As.pre ?_; first | refine As.mk rfl ?_) | (refine LetI.pre ?_; first | refine LetI.mk _ rfl ?_) | (refine LetB.pre ?_; first | refine LetB.decf (by omega) ?_) | (refine Br.pre ?_; first | refine Br.ff rfl ?_) | (refine Ck.pre ?_; first | refine Ck.mk rfl ?_)))); (try (conv => whnf)))
    exact ⟨⟨[(8, .slm {} 0 15 0 out.length)], [(0, .row 15 ety (out.map en))], 1⟩, SW.mk id rfl rfl (namesAll.row (pure_en _) rfl) ⟨.refl _, trivial⟩ (haveV.row (pure_en _) rfl trivial), .inl rfl, ⟨_, rfl, rfl⟩, rfl, trivial⟩
  have hld : en (l.getD k e0) = (l.map en).getD k (.sc undef) := mapD e0 hlt
  rw [foldl_filter_drop _ _ hlt e0] at h2
  generalize l.getD k e0 = e at hld h2
  by_cases hq : e.kind = kd ∧ e.day ≤ a ∧ e.on_ ≤ o
  case neg =>
    rw [if_neg (by simpa [cntQ] using hq)] at h2
    have next := ih (k + 1, out) ⟨by omega, by show out.length ≤ k + 1; omega, h2⟩ (by show l.length - (k + 1) < l.length - k; omega)
    clear ih
    by_cases c1 : e.kind = kd
    · by_cases c2 : e.day ≤ a
      · have c3 : ¬ e.on_ ≤ o := fun h => hq ⟨c1, c2, h⟩
        ((repeat ((conv => whnf); (first | (refine LetN.pre ?_; first | ((conv => arg 1; whnf); refine LetN.mk ?_)) | (refine As.pre ?_; first | refine As.mk rfl ?_ | (refine As.mk ?_ ?_; · ((repeat' (refine andT ?_ ?_)) <;> (first | rfl | assumption | exact decide_eq_true (by omega) | exact decide_eq_true (by dsimp only; omega) | exact decide_eq_true (by simp; omega) | (simp; done))))) | (refine LetV.pre ?_; first | refine LetV.mk (t := 30) _ hld ?_ | refine LetV.mk (.sc (.int _ _)) rfl ?_ | refine LetV.mk (.agg _) rfl ?_) | (refine LetI.pre ?_; first | refine LetI.wrap (by omega) (by omega) ?_ | refine LetI.mk _ rfl ?_) | (refine LetB.pre ?_; first | refine LetB.dect (by omega) ?_ | refine LetB.decf (by omega) ?_ | refine LetB.bnef (by omega) ?_) | (refine Gd.pre ?_; first | refine Gd.run rfl ?_) | (refine Br.pre ?_; first | refine Br.tt rfl ?_) | (refine Ck.pre ?_; first | refine Ck.mk rfl ?_) | (refine LetL.pre ?_; first | refine LetL.mk [_] rfl ?_)))); (try (conv => whnf)))
        refine LoopN.weak ?sw2 next
        case sw2 => exact SW.mk id rfl rfl (namesAll.row (pure_en _) rfl) ⟨.refl _, .refl _, .refl _, .refl _, .refl _, VLe2.int (by omega), trivial⟩ (haveV.row (pure_en _) rfl trivial)
      · ((repeat ((conv => whnf); (first | (refine LetN.pre ?_; first | ((conv => arg 1; whnf); refine LetN.mk ?_)) | (refine As.pre ?_; first | refine As.mk rfl ?_ | (refine As.mk ?_ ?_; · ((repeat' (refine andT ?_ ?_)) <;> (first | rfl | assumption | exact decide_eq_true (by omega) | exact decide_eq_true (by dsimp only; omega) | exact decide_eq_true (by simp; omega) | (simp; done))))) | (refine LetV.pre ?_; first | refine LetV.mk (t := 30) _ hld ?_ | refine LetV.mk (.sc (.int _ _)) rfl ?_ | refine LetV.mk (.agg _) rfl ?_) | (refine LetI.pre ?_; first | refine LetI.wrap (by omega) (by omega) ?_ | refine LetI.mk _ rfl ?_) | (refine LetB.pre ?_; first | refine LetB.dect (by omega) ?_ | refine LetB.bnef (by omega) ?_) | (refine Gd.pre ?_; first | refine Gd.run rfl ?_ | refine Gd.pass rfl ?_) | (refine Br.pre ?_; first | refine Br.tt rfl ?_) | (refine Ck.pre ?_; first | refine Ck.mk rfl ?_) | (refine LetL.pre ?_; first | refine LetL.mk [_] rfl ?_)))); (try (conv => whnf)))
        refine LoopN.weak ?sw3 next
        case sw3 => exact SW.mk id rfl rfl (namesAll.row (pure_en _) rfl) ⟨.refl _, .refl _, .refl _, .refl _, .refl _, VLe2.int (by omega), trivial⟩ (haveV.row (pure_en _) rfl trivial)
    · ((repeat ((conv => whnf); (first | (refine LetN.pre ?_; first | ((conv => arg 1; whnf); refine LetN.mk ?_)) | (refine As.pre ?_; first | refine As.mk rfl ?_ | (refine As.mk ?_ ?_; · ((repeat' (refine andT ?_ ?_)) <;> (first | rfl | assumption | exact decide_eq_true (by omega) | exact decide_eq_true (by dsimp only; omega) | exact decide_eq_true (by simp; omega) | (simp; done))))) | (refine LetV.pre ?_; first | refine LetV.mk (t := 30) _ hld ?_ | refine LetV.mk (.sc (.int _ _)) rfl ?_ | refine LetV.mk (.agg _) rfl ?_) | (refine LetI.pre ?_; first | refine LetI.wrap (by omega) (by omega) ?_ | refine LetI.mk _ rfl ?_) | (refine LetB.pre ?_; first | refine LetB.dect (by omega) ?_ | refine LetB.bnet (by omega) ?_) | (refine Gd.pre ?_; first | refine Gd.pass rfl ?_) | (refine Br.pre ?_; first | refine Br.tt rfl ?_) | (refine Ck.pre ?_; first | refine Ck.mk rfl ?_) | (refine LetL.pre ?_; first | refine LetL.mk [_] rfl ?_)))); (try (conv => whnf)))
      refine LoopN.weak ?sw4 next
      case sw4 => exact SW.mk id rfl rfl (namesAll.row (pure_en _) rfl) ⟨.refl _, .refl _, .refl _, .refl _, .refl _, VLe2.int (by omega), trivial⟩ (haveV.row (pure_en _) rfl trivial)
  case pos =>
    rw [if_pos (by simpa [cntQ] using hq)] at h2
    have hil := insId_length out e
    have next := ih (k + 1, insId out e) ⟨by omega, by show (insId out e).length ≤ k + 1; omega, h2⟩ (by show l.length - (k + 1) < l.length - k; omega)
    rw [insId, putB] at next
    have hple := posB_le (fun x => decide (e.id < x.id)) e0 out out.length
    generalize hp : posB (fun x => decide (e.id < x.id)) e0 out out.length = p at next hple
    clear ih h2 hil hR
    obtain ⟨c1, c2, c3⟩ := hq
    ((repeat ((conv => whnf); (first | (refine LetN.pre ?_; first | ((conv => arg 1; whnf); refine LetN.mk ?_)) | (refine As.pre ?_; first | refine As.mk rfl ?_ | (refine As.mk ?_ ?_; · ((repeat' (refine andT ?_ ?_)) <;> (first | rfl | assumption | exact decide_eq_true (by omega) | exact decide_eq_true (by dsimp only; omega) | exact decide_eq_true (by simp; omega) | (simp; done))))) | (refine LetV.pre ?_; first | refine LetV.mk (t := 30) _ hld ?_ | refine LetV.mk (.sc (.int _ _)) rfl ?_ | refine LetV.mk (.agg _) rfl ?_) | (refine LetI.pre ?_; first | refine LetI.mk _ rfl ?_) | (refine LetB.pre ?_; first | refine LetB.dect (by omega) ?_ | refine LetB.decf (by omega) ?_ | refine LetB.bnef (by omega) ?_) | (refine Gd.pre ?_; first | refine Gd.run rfl ?_) | (refine Br.pre ?_; first | refine Br.tt rfl ?_ | refine Br.ff rfl ?_) | (refine Ck.pre ?_; first | refine Ck.mk rfl ?_) | (refine LetL.pre ?_; first | refine LetL.mk [_] rfl ?_)))); (try (conv => whnf)))
    refine LoopN.weak (s1 := couI l fl kd a o k out e out.length) ?sw5 ?_
    case sw5 => exact SW.mk id rfl rfl (namesAll.row (pure_en _) (namesAll.row rfl rfl)) ⟨.refl _, .refl _, .refl _, .refl _, .refl _, .refl _, .refl _, .refl _, trivial⟩ (haveV.row (pure_en _) rfl (haveV.row rfl rfl trivial))
    refine LoopN.ind T_ok mixed (S := couI l fl kd a o k out e) (fun i => i) (fun i => i ≤ out.length ∧ p = posB (fun x => decide (e.id < x.id)) e0 out i) (fun _ => rfl) (fun i hi ih2 => ?_) out.length ⟨Nat.le_refl _, hp.symm⟩
    obtain ⟨g1, g2⟩ := hi
    have hom : (out.map en).length = out.length := List.length_map _
    have hr := room_en (n := out.length + 1) (by omega)
    cases i with
    | zero =>
      clear ih2
      rw [posB] at g2
      subst g2
      ((repeat ((conv => whnf); (first | (refine LetN.pre ?_; first | ((conv => arg 1; whnf); refine LetN.mk ?_)) | (refine As.pre ?_; first | refine As.mk rfl ?_ | (refine As.mk ?_ ?_; · ((repeat' (refine andT ?_ ?_)) <;> (first | rfl | exact stor_en _ _ _ | exact decide_eq_true (by simp; omega) | (simp; done))))) | (refine LetV.pre ?_; first | refine LetV.mk (.agg _) rfl ?_ | refine LetV.mk (.slm _ _ _ _ _) rfl ?_) | (refine LetI.pre ?_; first | refine LetI.wrap (by omega) (by omega) ?_ | refine LetI.mk _ rfl ?_) | (refine LetB.pre ?_; first | refine LetB.ff rfl ?_) | (refine Gd.pre ?_; first | refine Gd.pass rfl ?_) | (refine Br.pre ?_; first | refine Br.ff rfl ?_) | (refine Ck.pre ?_; first | refine Ck.drawn (by kernel_rfl) ?_ | refine Ck.mk rfl ?_) | (refine LetL.pre ?_; first | refine LetL.mk (ty := ety) _ (app_en out e0 _ rfl) ?_ | (refine LetL.mk (ty := ety) _ (copy_row out (0) _ _ _ _ ?_ ?_ ?_ ?_ hple) ?_; iterate 4 (· (first | (simp; done) | (simp; omega)))) | refine LetL.mk (ty := ety) _ (set_row out (0) e hple) ?_)))); (try (conv => whnf)))




      refine LoopN.weak ?sw6 next
      case sw6 => exact SW.mk (fun _ => 2) rfl rfl (namesAll.row (pure_en _) rfl) ⟨.refl _, .refl _, .refl _, .refl _, VLe2.slm_of (by first | (simp; done) | (simp; omega)), VLe2.int (by omega), trivial⟩ (haveV.row (pure_en _) rfl trivial)
    | succ j =>
      rw [posB] at g2
      have hld1 : en (out.getD j e0) = Am.part true 15 0 15 ((out.map en).getD (0 + j) (.sc undef)) := getD_en (by omega)
      have hidv : int (out.getD j e0).id = Am.part false 1 0 15 ((out.map en).getD (0 + j) (.sc undef)) := getD_id (by omega)
      have hsub : (j : Int) = IntKind.i64.wrap (((j + 1 : Nat) : Int) - 1) := by
        rw [wrap_id (by omega) (by omega)]; omega
      generalize out.getD j e0 = b at hld1 hidv g2
      by_cases hg : e.id < b.id
      · simp only [hg, decide_true, if_true] at g2
        have next2 := ih2 j ⟨by omega, g2⟩ (by show j < j + 1; omega)
        clear ih2 next
        ((repeat ((conv => whnf); (first | (refine As.pre ?_; first | refine As.mk rfl ?_ | (refine As.mk ?_ ?_; · ((repeat' (refine andT ?_ ?_)) <;> (first | rfl | assumption | exact decide_eq_true (by omega) | exact decide_eq_true (by dsimp only; omega) | exact decide_eq_true (by simp; omega) | (simp; done))))) | (refine LetV.pre ?_; first | refine LetV.mk (t := 3) _ hidv ?_ | refine LetV.mk (.sc (.int _ _)) rfl ?_) | (refine LetI.pre ?_; first | refine LetI.mk (o := some .sub) (j : Int) hsub ?_) | (refine LetB.pre ?_; first | refine LetB.dect (by omega) ?_) | (refine Gd.pre ?_; first | refine Gd.run rfl ?_) | (refine Br.pre ?_; first | refine Br.tt rfl ?_) | (refine Ck.pre ?_; first | refine Ck.drawn (by kernel_rfl) ?_ | refine Ck.mk rfl ?_)))); (try (conv => whnf)))


        refine LoopN.weak ?sw7 next2
        case sw7 => exact SW.mk id rfl rfl (namesAll.row (pure_en _) (namesAll.row rfl rfl)) ⟨.refl _, .refl _, .refl _, .refl _, .refl _, .refl _, .refl _, .refl _, trivial⟩ (haveV.row (pure_en _) rfl (haveV.row rfl rfl trivial))
      · simp only [hg, decide_false, Bool.false_eq_true, if_false] at g2
        subst g2
        clear ih2
        ((repeat ((conv => whnf); (first | (refine LetN.pre ?_; first | ((conv => arg 1; whnf); refine LetN.mk ?_)) | (refine As.pre ?_; first | refine As.mk rfl ?_ | (refine As.mk ?_ ?_; · ((repeat' (refine andT ?_ ?_)) <;> (first | rfl | exact stor_en _ _ _ | exact decide_eq_true (by simp; omega) | (simp; done))))) | (refine LetV.pre ?_; first | refine LetV.mk (t := 3) _ hidv ?_ | refine LetV.mk (.sc (.int _ _)) rfl ?_ | refine LetV.mk (.agg _) rfl ?_ | refine LetV.mk (.slm _ _ _ _ _) rfl ?_) | (refine LetI.pre ?_; first | refine LetI.mk (o := some .sub) (j : Int) hsub ?_ | refine LetI.wrap (by omega) (by omega) ?_ | refine LetI.mk _ rfl ?_) | (refine LetB.pre ?_; first | refine LetB.dect (by omega) ?_ | refine LetB.decf (by omega) ?_) | (refine Gd.pre ?_; first | refine Gd.run rfl ?_) | (refine Br.pre ?_; first | refine Br.ff rfl ?_) | (refine Ck.pre ?_; first | refine Ck.drawn (by kernel_rfl) ?_ | refine Ck.mk rfl ?_) | (refine LetL.pre ?_; first | refine LetL.mk (ty := ety) _ (app_en out e0 _ rfl) ?_ | (refine LetL.mk (ty := ety) _ (copy_row out (j + 1) _ _ _ _ ?_ ?_ ?_ ?_ hple) ?_; iterate 4 (· (first | (simp; done) | (simp; omega)))) | refine LetL.mk (ty := ety) _ (set_row out (j + 1) e hple) ?_)))); (try (conv => whnf)))






        refine LoopN.weak ?sw8 next
        case sw8 => exact SW.mk (fun _ => 2) rfl rfl (namesAll.row (pure_en _) rfl) ⟨.refl _, .refl _, .refl _, .refl _, VLe2.slm_of (by first | (simp; done) | (simp; omega)), VLe2.int (by omega), trivial⟩ (haveV.row (pure_en _) rfl trivial)
theorem counting_f (l : List E) (kd a o : Int) (fl : Fl) (hl : l.length ≤ 100000) : AFun Try.prog 69 0 [.ro fl 15 (l.map en), int kd, int a, int o] [] (.ro {} 15 ((countP l kd a o).map en)) [] :=
  AFun.frz1 (H := []) (counting_s l kd a o fl hl) rfl (pure_en _) (by simp)
end En
end Go.Proofs.Ytiefcppgbnfbfaa
namespace Go.Proofs.Ytiefcppgbnfbfaa
open Go.Proofs.Ytiefcppgbnfbfaa.Am
set_option maxRecDepth 100000
namespace En
/-! ### Lifted -/
def rLiftedP (l : List E) (f a o : Int) : Bool := (countP l 6 a o).any fun e => decide (e.ref = f)
theorem rLifted_f (l : List E) (f a o : Int) (fl : Fl) (hl : l.length ≤ 100000) : AFun Try.prog 70 0 [.ro fl 15 (l.map en), int f, int a, int o] [] (bool (rLiftedP l f a o)) [] := by
  refine AFun.of_W T_ok mixed Try.func70 rfl (Nat.le_of_ble_eq_true rfl) rfl ?_
  have hc := counting_f l 6 a o fl hl
  have hcl := countP_length l 6 a o
  unfold rLiftedP
  generalize countP l 6 a o = C at hc hcl ⊢
  generalize hR : (C.any fun e => decide (e.ref = f)) = R
  ((repeat ((conv => whnf); (first | (refine As.pre ?_; first | refine As.mk rfl ?_) | (refine Ck.pre ?_; first | refine Ck.mk rfl ?_) | (refine CallN.pre ?_; first | refine CallN.pure hc rfl rfl ?_)))); (try (conv => whnf)))
  refine LoopN.weak (s1 := ⟨[(1, int f), (9, .ro {} 15 (C.map en)), (10, int (0 : Nat))], [], 0⟩) (SW.fr0 (Nat.le_refl _) rfl ⟨.refl _, .refl _, .refl _, trivial⟩) ?_
  refine LoopN.ind T_ok mixed (S := fun k : Nat => ⟨[(1, int f), (9, .ro {} 15 (C.map en)), (10, int k)], [], 0⟩) (fun k => C.length - k) (fun k => k ≤ C.length ∧ R = (C.drop k).any fun e => decide (e.ref = f)) (fun _ => rfl) (fun k hk ih => ?_) 0 ⟨Nat.zero_le _, hR.symm⟩
  obtain ⟨h1, h2⟩ := hk
  have hm : (C.map en).length = C.length := List.length_map _
  by_cases hlt : k < C.length
  case neg =>
    rw [List.drop_eq_nil_of_le (by omega)] at h2
    rw [h2]
    clear ih
    ((repeat ((conv => whnf); (first | (refine As.pre ?_; first | refine As.mk rfl ?_) | (refine LetI.pre ?_; first | refine LetI.mk _ rfl ?_) | (refine LetB.pre ?_; first | refine LetB.decf (by omega) ?_) | (refine Br.pre ?_; first | refine Br.ff rfl ?_) | (refine Ck.pre ?_; first | refine Ck.mk rfl ?_)))); (try (conv => whnf)))
    exact ⟨.inl rfl, ⟨_, rfl, rfl⟩, trivial⟩
  have hld : en (C.getD k e0) = (C.map en).getD k (.sc undef) := mapD e0 hlt
  rw [any_drop _ hlt e0] at h2
  generalize C.getD k e0 = e at hld h2
  by_cases he : e.ref = f
  · rw [decide_eq_true he, Bool.true_or] at h2
    rw [h2]
    clear ih
    ((repeat ((conv => whnf); (first | (refine As.pre ?_; first | refine As.mk rfl ?_ | (refine As.mk ?_ ?_; · ((repeat' (refine andT ?_ ?_)) <;> (first | rfl | assumption | exact decide_eq_true (by omega) | exact decide_eq_true (by dsimp only; omega) | exact decide_eq_true (by simp; omega) | (simp; done))))) | (refine LetV.pre ?_; first | refine LetV.mk (t := 30) _ hld ?_ | refine LetV.mk (.sc (.int _ _)) rfl ?_) | (refine LetI.pre ?_; first | refine LetI.mk _ rfl ?_) | (refine LetB.pre ?_; first | refine LetB.dect (by omega) ?_) | (refine Br.pre ?_; first | refine Br.tt rfl ?_) | (refine Ck.pre ?_; first | refine Ck.mk rfl ?_)))); (try (conv => whnf)))
    exact ⟨.inl rfl, ⟨_, rfl, rfl⟩, trivial⟩
  · rw [decide_eq_false he, Bool.false_or] at h2
    ((repeat ((conv => whnf); (first | (refine As.pre ?_; first | refine As.mk rfl ?_ | (refine As.mk ?_ ?_; · ((repeat' (refine andT ?_ ?_)) <;> (first | rfl | assumption | exact decide_eq_true (by omega) | exact decide_eq_true (by dsimp only; omega) | exact decide_eq_true (by simp; omega) | (simp; done))))) | (refine LetV.pre ?_; first | refine LetV.mk (t := 30) _ hld ?_ | refine LetV.mk (.sc (.int _ _)) rfl ?_) | (refine LetI.pre ?_; first | refine LetI.wrap (by omega) (by omega) ?_ | refine LetI.mk _ rfl ?_) | (refine LetB.pre ?_; first | refine LetB.dect (by omega) ?_ | refine LetB.decf (by omega) ?_) | (refine Br.pre ?_; first | refine Br.tt rfl ?_ | refine Br.ff rfl ?_) | (refine Ck.pre ?_; first | refine Ck.mk rfl ?_)))); (try (conv => whnf)))
    refine LoopN.weak ?_ (ih (k + 1) ⟨by omega, h2⟩ (by omega))
    exact SW.fr0 (Nat.le_refl _) rfl ⟨.refl _, .refl _, VLe2.int (by omega), trivial⟩
end En
end Go.Proofs.Ytiefcppgbnfbfaa
namespace Go.Proofs.Ytiefcppgbnfbfaa
open Go.Proofs.Ytiefcppgbnfbfaa.Am
set_option maxRecDepth 100000
namespace En
def stepR (g : E) (x : Int × Int × Int × Bool) (c : E) : Int × Int × Int × Bool := if c.ref = g.id then stepC x c else x
def rstand (l C F : List E) (a o : Int) (g : E) : St := ⟨g.id, (C.foldl (stepR g) (0, g.grade, 0, false)).1, (C.foldl (stepR g) (0, g.grade, 0, false)).2.1, F.any fun f => decide (f.ref = g.id) && !rLiftedP l f.id a o⟩
def rAtP (l : List E) (a o : Int) : List St := (countP l 3 a o).map (rstand l (countP l 4 a o) (countP l 5 a o) a o)
abbrev ratS (l G C F : List E) (fl : Fl) (a o : Int) : Nat × List St → AS
  | (k, out) => ⟨[(0, .ro fl 15 (l.map en)), (1, int a), (2, int o), (7, .ro {} 15 (G.map en)), (8, .ro {} 15 (C.map en)), (9, .ro {} 15 (F.map en)), (10, .slm {} 0 4 0 out.length), (11, int k)], [(0, .row 4 sty (out.map stA))], 1⟩
abbrev ratA (l G C F : List E) (fl : Fl) (a o : Int) (k : Nat) (out : List St) (g : E) : Nat × Int × Int × Int × Bool → AS
  | (i, b, gr, d, s) => ⟨[(0, .ro fl 15 (l.map en)), (1, int a), (2, int o), (7, .ro {} 15 (G.map en)), (8, .ro {} 15 (C.map en)), (9, .ro {} 15 (F.map en)), (10, .slm {} 0 4 0 out.length), (11, int k), (12, .ptr 1 15 0 0), (13, .ptr 2 4 0 0), (14, int d), (15, bool s), (16, int i)],
      [(0, .row 4 sty (out.map stA)), (1, .row 15 ety [en g]), (2, .row 4 sty [stA ⟨g.id, b, gr, false⟩])], 3⟩
abbrev ratB (l G C F : List E) (fl : Fl) (a o : Int) (k : Nat) (out : List St) (g : E) (b gr : Int) : Nat × Bool → AS
  | (i, v) => ⟨[(0, .ro fl 15 (l.map en)), (1, int a), (2, int o), (7, .ro {} 15 (G.map en)), (8, .ro {} 15 (C.map en)), (9, .ro {} 15 (F.map en)), (10, .slm {} 0 4 0 out.length), (11, int k), (12, .ptr 1 15 0 0), (13, .ptr 2 4 0 0), (18, int i)],
      [(0, .row 4 sty (out.map stA)), (1, .row 15 ety [en g]), (2, .row 4 sty [stA ⟨g.id, b, gr, v⟩])], 3⟩
theorem ratNames (g : E) (s : St) (out : List St) (ok : Nat → Bool) : namesAll ok [(0, .row 4 sty (out.map stA)), (1, .row 15 ety [en g]), (2, .row 4 sty [stA s])] = true :=
  namesAll.row (pure_st _) (namesAll.row rfl (namesAll.row rfl rfl))
set_option maxHeartbeats 1600000 in
set_option maxRecDepth 100000 in
theorem rAt_s (l : List E) (a o : Int) (fl : Fl) (hl : l.length ≤ 100000) : AFun Try.prog 41 0 [.ro fl 15 (l.map en), int a, int o] [] (.slm {} 0 4 0 (rAtP l a o).length) [(0, .row 4 sty ((rAtP l a o).map stA))] := by
  refine AFun.of_S T_ok mixed Try.func41 rfl (Nat.le_of_ble_eq_true rfl) rfl ?_
  have hc3 := counting_f l 3 a o fl hl
  have hl3 := countP_length l 3 a o
  have hc4 := counting_f l 4 a o fl hl
  have hl4 := countP_length l 4 a o
  have hc5 := counting_f l 5 a o fl hl
  have hl5 := countP_length l 5 a o
  rw [rAtP]
  generalize countP l 3 a o = G at hc3 hl3 ⊢
  generalize countP l 4 a o = C at hc4 hl4 ⊢
  generalize countP l 5 a o = F at hc5 hl5 ⊢
  ((repeat ((conv => whnf); (first | (refine As.pre ?_; first | refine As.mk rfl ?_) | (refine Ck.pre ?_; first | refine Ck.mk rfl ?_) | (refine CallN.pre ?_; first | refine CallN.pure hc3 rfl rfl ?_ | refine CallN.pure hc4 rfl rfl ?_ | refine CallN.pure hc5 rfl rfl ?_)))); (try (conv => whnf)))



  clear hc3 hc4 hc5
  refine LoopN.weak (s1 := ratS l G C F fl a o (0, [])) ?sw1 ?_
  case sw1 => exact SW.mk id rfl rfl rfl ⟨.refl _, .refl _, .refl _, .refl _, .refl _, .refl _, VLe2.nilslm, .refl _, trivial⟩ (haveV.nil (Nat.le_refl _) trivial)
  refine LoopN.ind T_ok mixed (S := ratS l G C F fl a o) (fun i => G.length - i.1) (fun i => i.1 ≤ G.length ∧ i.2 = (G.take i.1).map (rstand l C F a o)) (fun _ => rfl) (fun i hi ih => ?_) (0, []) ⟨Nat.zero_le _, rfl⟩
  obtain ⟨k, out⟩ := i
  obtain ⟨h1, h2⟩ := hi
  simp only at h1 h2 ih
  have hGl : (G.map en).length = G.length := List.length_map _
  have hCl : (C.map en).length = C.length := List.length_map _
  have hFl : (F.map en).length = F.length := List.length_map _
  by_cases hlt : k < G.length
  case neg =>
    have hk : k = G.length := by omega
    subst hk
    rw [List.take_length] at h2
    rw [← h2]
    clear ih
    ((repeat ((conv => whnf); (first | (refine As.pre ?_; first | refine As.mk rfl ?_) | (refine LetI.pre ?_; first | refine LetI.mk _ rfl ?_) | (refine LetB.pre ?_; first | refine LetB.decf (by omega) ?_) | (refine Br.pre ?_; first | refine Br.ff rfl ?_) | (refine Ck.pre ?_; first | refine Ck.mk rfl ?_)))); (try (conv => whnf)))
    exact ⟨⟨[(6, .slm {} 0 4 0 out.length)], [(0, .row 4 sty (out.map stA))], 3⟩, SW.mk id rfl rfl (namesAll.row (pure_st _) rfl) ⟨.refl _, trivial⟩ (haveV.row (pure_st _) rfl trivial), .inl rfl, ⟨_, rfl, rfl⟩, rfl, trivial⟩
  have hld : en (G.getD k e0) = (G.map en).getD k (.sc undef) := mapD e0 hlt
  have hq := take_map_succ (rstand l C F a o) hlt e0
  rw [← h2] at hq
  have hol : out.length = k := by rw [h2]; simp; omega
  clear h2
  generalize G.getD k e0 = g at hld hq
  have hst : rstand l C F a o g = ⟨g.id, (C.foldl (stepR g) (0, g.grade, 0, false)).1, (C.foldl (stepR g) (0, g.grade, 0, false)).2.1, F.any fun f => decide (f.ref = g.id) && !rLiftedP l f.id a o⟩ := rfl
  ((repeat ((conv => whnf); (first | (refine LetN.pre ?_; first | ((conv => arg 1; whnf); refine LetN.mk ?_)) | (refine As.pre ?_; first | refine As.mk rfl ?_ | (refine As.mk ?_ ?_; · ((repeat' (refine andT ?_ ?_)) <;> (first | rfl | assumption | exact decide_eq_true (by omega) | exact decide_eq_true (by dsimp only; omega) | exact decide_eq_true (by simp; omega) | (simp; done))))) | (refine LetV.pre ?_; first | refine LetV.mk (t := 30) _ hld ?_ | refine LetV.mk (.sc (.int _ _)) rfl ?_ | refine LetV.mk (.agg _) rfl ?_) | (refine LetI.pre ?_; first | refine LetI.mk _ rfl ?_) | (refine LetB.pre ?_; first | refine LetB.dect (by omega) ?_) | (refine Br.pre ?_; first | refine Br.tt rfl ?_) | (refine Ck.pre ?_; first | refine Ck.mk rfl ?_) | (refine LetL.pre ?_; first | refine LetL.mk [_] rfl ?_)))); (try (conv => whnf)))
  refine LoopN.weak (s1 := ratA l G C F fl a o k out g (0, 0, g.grade, 0, false)) ?sw2 ?_
  case sw2 => exact SW.mk id rfl rfl (ratNames ..) ⟨.refl _, .refl _, .refl _, .refl _, .refl _, .refl _, .refl _, .refl _, .refl _, .refl _, .refl _, .refl _, .refl _, trivial⟩ (haveV.row (pure_st _) rfl (haveV.row rfl rfl (haveV.row rfl rfl trivial)))
  generalize hX : C.foldl (stepR g) (0, g.grade, 0, false) = X at hst
  refine LoopN.ind T_ok mixed (S := ratA l G C F fl a o k out g) (fun i => C.length - i.1) (fun i => i.1 ≤ C.length ∧ X = (C.drop i.1).foldl (stepR g) i.2) (fun _ => rfl) (fun i hi ihA => ?_) (0, 0, g.grade, 0, false) ⟨Nat.zero_le _, hX.symm⟩
  obtain ⟨i, b, gr, d, s⟩ := i
  obtain ⟨g1, g2⟩ := hi
  simp only at g1 g2 ihA
  by_cases hiC : i < C.length
  case pos =>
    have hldc : en (C.getD i e0) = (C.map en).getD i (.sc undef) := mapD e0 hiC
    rw [foldl_drop _ hiC e0] at g2
    generalize C.getD i e0 = c at hldc g2
    have next : ∀ (b' gr' d' : Int) (s' : Bool), stepR g (b, gr, d, s) c = (b', gr', d', s') → LoopN Try.prog 0 Try.f41.ntmps _ (ratA l G C F fl a o k out g (i + 1, b', gr', d', s')) _ := fun b' gr' d' s' hs' => ihA (i + 1, b', gr', d', s') ⟨by omega, by rw [← hs']; exact g2⟩ (by omega)
    clear ihA ih
    have swk : ∀ (b' gr' d' : Int) (s' : Bool), namesAll (fun i => decide (i < 0) || (List.map Prod.fst (ratA l G C F fl a o k out g (i, b', gr', d', s')).H).contains i) (ratA l G C F fl a o k out g (i, b', gr', d', s')).H = true := fun _ _ _ _ => ratNames ..
    by_cases q0 : c.ref = g.id
    case neg =>
      ((repeat ((conv => whnf); (first | (refine LetN.pre ?_; first | ((conv => arg 1; whnf); refine LetN.mk ?_)) | (refine As.pre ?_; first | refine As.mk rfl ?_ | (refine As.mk ?_ ?_; · ((repeat' (refine andT ?_ ?_)) <;> (first | rfl | assumption | exact decide_eq_true (by omega) | exact decide_eq_true (by dsimp only; omega) | exact decide_eq_true (by simp; omega) | (simp; done))))) | (refine LetV.pre ?_; first | refine LetV.mk (t := 30) _ hldc ?_ | refine LetV.mk (.sc (.int _ _)) rfl ?_ | refine LetV.mk (.agg _) rfl ?_) | (refine LetI.pre ?_; first | refine LetI.wrap (by omega) (by omega) ?_ | refine LetI.mk _ rfl ?_) | (refine LetB.pre ?_; first | refine LetB.dect (by omega) ?_ | refine LetB.decf (by omega) ?_) | (refine Gd.pre ?_; first | refine Gd.pass rfl ?_) | (refine Br.pre ?_; first | refine Br.tt rfl ?_ | refine Br.ff rfl ?_) | (refine Ck.pre ?_; first | refine Ck.mk rfl ?_) | (refine LetL.pre ?_; first | refine LetL.mk [_] rfl ?_)))); (try (conv => whnf)))
      refine LoopN.weak ?sw3 (next b gr d s (if_neg q0))
      case sw3 => exact SW.mk id rfl rfl (ratNames ..) ⟨.refl _, .refl _, .refl _, .refl _, .refl _, .refl _, .refl _, .refl _, .refl _, .refl _, .refl _, .refl _, VLe2.int (by omega), trivial⟩ (haveV.row (pure_st _) rfl (haveV.row rfl rfl (haveV.row rfl rfl trivial)))
    cases s with
    | false =>
      ((repeat ((conv => whnf); (first | (refine LetN.pre ?_; first | ((conv => arg 1; whnf); refine LetN.mk ?_)) | (refine As.pre ?_; first | refine As.mk rfl ?_ | (refine As.mk ?_ ?_; · ((repeat' (refine andT ?_ ?_)) <;> (first | rfl | assumption | exact decide_eq_true (by omega) | exact decide_eq_true (by dsimp only; omega) | exact decide_eq_true (by simp; omega) | (simp; done))))) | (refine LetV.pre ?_; first | refine LetV.mk (t := 30) _ hldc ?_ | refine LetV.mk (.sc (.int _ _)) rfl ?_ | refine LetV.mk (.agg _) rfl ?_) | (refine LetI.pre ?_; first | refine LetI.wrap (by omega) (by omega) ?_ | refine LetI.mk _ rfl ?_) | (refine LetB.pre ?_; first | refine LetB.dect (by omega) ?_) | (refine Gd.pre ?_; first | refine Gd.run rfl ?_ | refine Gd.pass rfl ?_) | (refine Br.pre ?_; first | refine Br.tt rfl ?_) | (refine Ck.pre ?_; first | refine Ck.mk rfl ?_) | (refine LetL.pre ?_; first | refine LetL.mk [_] rfl ?_)))); (try (conv => whnf)))
      refine LoopN.weak ?sw4 (next c.id c.grade c.day true ((if_pos q0).trans (if_pos (.inl rfl))))
      case sw4 => exact SW.mk id rfl rfl (ratNames ..) ⟨.refl _, .refl _, .refl _, .refl _, .refl _, .refl _, .refl _, .refl _, .refl _, .refl _, .refl _, .refl _, VLe2.int (by omega), trivial⟩ (haveV.row (pure_st _) rfl (haveV.row rfl rfl (haveV.row rfl rfl trivial)))
    | true =>
      by_cases q1 : d < c.day
      · ((repeat ((conv => whnf); (first | (refine LetN.pre ?_; first | ((conv => arg 1; whnf); refine LetN.mk ?_)) | (refine As.pre ?_; first | refine As.mk rfl ?_ | (refine As.mk ?_ ?_; · ((repeat' (refine andT ?_ ?_)) <;> (first | rfl | assumption | exact decide_eq_true (by omega) | exact decide_eq_true (by dsimp only; omega) | exact decide_eq_true (by simp; omega) | (simp; done))))) | (refine LetV.pre ?_; first | refine LetV.mk (t := 30) _ hldc ?_ | refine LetV.mk (.sc (.int _ _)) rfl ?_ | refine LetV.mk (.agg _) rfl ?_) | (refine LetI.pre ?_; first | refine LetI.wrap (by omega) (by omega) ?_ | refine LetI.mk _ rfl ?_) | (refine LetB.pre ?_; first | refine LetB.dect (by omega) ?_) | (refine Gd.pre ?_; first | refine Gd.run rfl ?_ | refine Gd.pass rfl ?_) | (refine Br.pre ?_; first | refine Br.tt rfl ?_) | (refine Ck.pre ?_; first | refine Ck.mk rfl ?_) | (refine LetL.pre ?_; first | refine LetL.mk [_] rfl ?_)))); (try (conv => whnf)))
        refine LoopN.weak ?sw5 (next c.id c.grade c.day true ((if_pos q0).trans (if_pos (.inr (.inl q1)))))
        case sw5 => exact SW.mk id rfl rfl (ratNames ..) ⟨.refl _, .refl _, .refl _, .refl _, .refl _, .refl _, .refl _, .refl _, .refl _, .refl _, .refl _, .refl _, VLe2.int (by omega), trivial⟩ (haveV.row (pure_st _) rfl (haveV.row rfl rfl (haveV.row rfl rfl trivial)))
      · by_cases q2 : c.day = d
        · by_cases q3 : b < c.id
          · ((repeat ((conv => whnf); (first | (refine LetN.pre ?_; first | ((conv => arg 1; whnf); refine LetN.mk ?_)) | (refine As.pre ?_; first | refine As.mk rfl ?_ | (refine As.mk ?_ ?_; · ((repeat' (refine andT ?_ ?_)) <;> (first | rfl | assumption | exact decide_eq_true (by omega) | exact decide_eq_true (by dsimp only; omega) | exact decide_eq_true (by simp; omega) | (simp; done))))) | (refine LetV.pre ?_; first | refine LetV.mk (t := 30) _ hldc ?_ | refine LetV.mk (.sc (.int _ _)) rfl ?_ | refine LetV.mk (.agg _) rfl ?_) | (refine LetI.pre ?_; first | refine LetI.wrap (by omega) (by omega) ?_ | refine LetI.mk _ rfl ?_) | (refine LetB.pre ?_; first | refine LetB.dect (by omega) ?_ | refine LetB.decf (by omega) ?_) | (refine Gd.pre ?_; first | refine Gd.run rfl ?_) | (refine Br.pre ?_; first | refine Br.tt rfl ?_) | (refine Ck.pre ?_; first | refine Ck.mk rfl ?_) | (refine LetL.pre ?_; first | refine LetL.mk [_] rfl ?_)))); (try (conv => whnf)))
            refine LoopN.weak ?sw6 (next c.id c.grade c.day true ((if_pos q0).trans (if_pos (.inr (.inr ⟨q2, q3⟩)))))
            case sw6 => exact SW.mk id rfl rfl (ratNames ..) ⟨.refl _, .refl _, .refl _, .refl _, .refl _, .refl _, .refl _, .refl _, .refl _, .refl _, .refl _, .refl _, VLe2.int (by omega), trivial⟩ (haveV.row (pure_st _) rfl (haveV.row rfl rfl (haveV.row rfl rfl trivial)))
          · ((repeat ((conv => whnf); (first | (refine LetN.pre ?_; first | ((conv => arg 1; whnf); refine LetN.mk ?_)) | (refine As.pre ?_; first | refine As.mk rfl ?_ | (refine As.mk ?_ ?_; · ((repeat' (refine andT ?_ ?_)) <;> (first | rfl | assumption | exact decide_eq_true (by omega) | exact decide_eq_true (by dsimp only; omega) | exact decide_eq_true (by simp; omega) | (simp; done))))) | (refine LetV.pre ?_; first | refine LetV.mk (t := 30) _ hldc ?_ | refine LetV.mk (.sc (.int _ _)) rfl ?_ | refine LetV.mk (.agg _) rfl ?_) | (refine LetI.pre ?_; first | refine LetI.wrap (by omega) (by omega) ?_ | refine LetI.mk _ rfl ?_) | (refine LetB.pre ?_; first | refine LetB.dect (by omega) ?_ | refine LetB.decf (by omega) ?_) | (refine Gd.pre ?_; first | refine Gd.run rfl ?_) | (refine Br.pre ?_; first | refine Br.tt rfl ?_ | refine Br.ff rfl ?_) | (refine Ck.pre ?_; first | refine Ck.mk rfl ?_) | (refine LetL.pre ?_; first | refine LetL.mk [_] rfl ?_)))); (try (conv => whnf)))
            refine LoopN.weak ?sw7 (next b gr d true ((if_pos q0).trans (if_neg (by rintro (h | h | h) <;> simp at h <;> omega))))
            case sw7 => exact SW.mk id rfl rfl (ratNames ..) ⟨.refl _, .refl _, .refl _, .refl _, .refl _, .refl _, .refl _, .refl _, .refl _, .refl _, .refl _, .refl _, VLe2.int (by omega), trivial⟩ (haveV.row (pure_st _) rfl (haveV.row rfl rfl (haveV.row rfl rfl trivial)))
        · ((repeat ((conv => whnf); (first | (refine LetN.pre ?_; first | ((conv => arg 1; whnf); refine LetN.mk ?_)) | (refine As.pre ?_; first | refine As.mk rfl ?_ | (refine As.mk ?_ ?_; · ((repeat' (refine andT ?_ ?_)) <;> (first | rfl | assumption | exact decide_eq_true (by omega) | exact decide_eq_true (by dsimp only; omega) | exact decide_eq_true (by simp; omega) | (simp; done))))) | (refine LetV.pre ?_; first | refine LetV.mk (t := 30) _ hldc ?_ | refine LetV.mk (.sc (.int _ _)) rfl ?_ | refine LetV.mk (.agg _) rfl ?_) | (refine LetI.pre ?_; first | refine LetI.wrap (by omega) (by omega) ?_ | refine LetI.mk _ rfl ?_) | (refine LetB.pre ?_; first | refine LetB.dect (by omega) ?_ | refine LetB.decf (by omega) ?_) | (refine Gd.pre ?_; first | refine Gd.run rfl ?_ | refine Gd.pass rfl ?_) | (refine Br.pre ?_; first | refine Br.tt rfl ?_ | refine Br.ff rfl ?_) | (refine Ck.pre ?_; first | refine Ck.mk rfl ?_) | (refine LetL.pre ?_; first | refine LetL.mk [_] rfl ?_)))); (try (conv => whnf)))
          refine LoopN.weak ?sw8 (next b gr d true ((if_pos q0).trans (if_neg (by rintro (h | h | h) <;> simp at h <;> omega))))
          case sw8 => exact SW.mk id rfl rfl (ratNames ..) ⟨.refl _, .refl _, .refl _, .refl _, .refl _, .refl _, .refl _, .refl _, .refl _, .refl _, .refl _, .refl _, VLe2.int (by omega), trivial⟩ (haveV.row (pure_st _) rfl (haveV.row rfl rfl (haveV.row rfl rfl trivial)))
  case neg =>
    clear ihA
    rw [List.drop_eq_nil_of_le (by omega), List.foldl_nil] at g2
    rw [g2] at hst
    simp only at hst
    ((repeat ((conv => whnf); (first | (refine As.pre ?_; first | refine As.mk rfl ?_) | (refine LetI.pre ?_; first | refine LetI.mk _ rfl ?_) | (refine LetB.pre ?_; first | refine LetB.decf (by omega) ?_) | (refine Br.pre ?_; first | refine Br.ff rfl ?_) | (refine Ck.pre ?_; first | refine Ck.mk rfl ?_)))); (try (conv => whnf)))
    refine LoopN.weak (s1 := ratB l G C F fl a o k out g b gr (0, false)) ?sw9 ?_
    case sw9 => exact SW.mk id rfl rfl (ratNames ..) ⟨.refl _, .refl _, .refl _, .refl _, .refl _, .refl _, .refl _, .refl _, .refl _, .refl _, .refl _, trivial⟩ (haveV.row (pure_st _) rfl (haveV.row rfl rfl (haveV.row rfl rfl trivial)))
    generalize hY : (F.any fun f => decide (f.ref = g.id) && !rLiftedP l f.id a o) = Y at hst
    refine LoopN.ind T_ok mixed (S := ratB l G C F fl a o k out g b gr) (fun i => F.length - i.1) (fun i => i.1 ≤ F.length ∧ Y = (i.2 || (F.drop i.1).any fun f => decide (f.ref = g.id) && !rLiftedP l f.id a o)) (fun _ => rfl) (fun i hi ihB => ?_) (0, false) ⟨Nat.zero_le _, by rw [← hY]; rfl⟩
    obtain ⟨i, v⟩ := i
    obtain ⟨g3, g4⟩ := hi
    simp only at g3 g4 ihB
    by_cases hiF : i < F.length
    case pos =>
      have hldf : en (F.getD i e0) = (F.map en).getD i (.sc undef) := mapD e0 hiF
      rw [any_drop _ hiF e0, ← Bool.or_assoc] at g4
      generalize F.getD i e0 = f at hldf g4
      have hL := rLifted_f l f.id a o fl hl
      generalize rLiftedP l f.id a o = u at hL g4
      have next := ihB (i + 1, v || (decide (f.ref = g.id) && !u)) ⟨by omega, g4⟩ (by show F.length - (i + 1) < F.length - i; omega)
      clear g4 ih ihB
      by_cases q0 : f.ref = g.id
      case neg =>
        rw [decide_eq_false q0, Bool.false_and, Bool.or_false] at next
        ((repeat ((conv => whnf); (first | (refine As.pre ?_; first | refine As.mk rfl ?_ | (refine As.mk ?_ ?_; · ((repeat' (refine andT ?_ ?_)) <;> (first | rfl | assumption | exact decide_eq_true (by omega) | exact decide_eq_true (by dsimp only; omega) | exact decide_eq_true (by simp; omega) | (simp; done))))) | (refine LetV.pre ?_; first | refine LetV.mk (t := 30) _ hldf ?_ | refine LetV.mk (.sc (.int _ _)) rfl ?_) | (refine LetI.pre ?_; first | refine LetI.wrap (by omega) (by omega) ?_ | refine LetI.mk _ rfl ?_) | (refine LetB.pre ?_; first | refine LetB.dect (by omega) ?_ | refine LetB.decf (by omega) ?_) | (refine Gd.pre ?_; first | refine Gd.pass rfl ?_) | (refine Br.pre ?_; first | refine Br.tt rfl ?_ | refine Br.ff rfl ?_) | (refine Ck.pre ?_; first | refine Ck.drawn (by kernel_rfl) ?_ | refine Ck.mk rfl ?_)))); (try (conv => whnf)))
        refine LoopN.weak ?sw10 next
        case sw10 => exact SW.mk id rfl rfl (ratNames ..) ⟨.refl _, .refl _, .refl _, .refl _, .refl _, .refl _, .refl _, .refl _, .refl _, .refl _, VLe2.int (by omega), trivial⟩ (haveV.row (pure_st _) rfl (haveV.row rfl rfl (haveV.row rfl rfl trivial)))
      rw [decide_eq_true q0, Bool.true_and] at next
      cases u with
      | true =>
        rw [Bool.not_true, Bool.or_false] at next
        ((repeat ((conv => whnf); (first | (refine As.pre ?_; first | refine As.mk rfl ?_ | (refine As.mk ?_ ?_; · ((repeat' (refine andT ?_ ?_)) <;> (first | rfl | assumption | exact decide_eq_true (by omega) | exact decide_eq_true (by dsimp only; omega) | exact decide_eq_true (by simp; omega) | (simp; done))))) | (refine LetV.pre ?_; first | refine LetV.mk (t := 30) _ hldf ?_ | refine LetV.mk (.sc (.int _ _)) rfl ?_) | (refine LetI.pre ?_; first | refine LetI.wrap (by omega) (by omega) ?_ | refine LetI.mk _ rfl ?_) | (refine LetB.pre ?_; first | refine LetB.dect (by omega) ?_) | (refine Gd.pre ?_; first | refine Gd.run rfl ?_) | (refine Br.pre ?_; first | refine Br.tt rfl ?_ | refine Br.ff rfl ?_) | (refine Ck.pre ?_; first | refine Ck.drawn (by kernel_rfl) ?_ | refine Ck.mk rfl ?_) | (refine CallN.pre ?_; first | refine CallN.pure hL rfl rfl ?_)))); (try (conv => whnf)))


        refine LoopN.weak ?sw11 next
        case sw11 => exact SW.mk id rfl rfl (ratNames ..) ⟨.refl _, .refl _, .refl _, .refl _, .refl _, .refl _, .refl _, .refl _, .refl _, .refl _, VLe2.int (by omega), trivial⟩ (haveV.row (pure_st _) rfl (haveV.row rfl rfl (haveV.row rfl rfl trivial)))
      | false =>
        rw [Bool.not_false, Bool.or_true] at next
        ((repeat ((conv => whnf); (first | (refine LetN.pre ?_; first | ((conv => arg 1; whnf); refine LetN.mk ?_)) | (refine As.pre ?_; first | refine As.mk rfl ?_ | (refine As.mk ?_ ?_; · ((repeat' (refine andT ?_ ?_)) <;> (first | rfl | assumption | exact decide_eq_true (by omega) | exact decide_eq_true (by dsimp only; omega) | exact decide_eq_true (by simp; omega) | (simp; done))))) | (refine LetV.pre ?_; first | refine LetV.mk (t := 30) _ hldf ?_ | refine LetV.mk (.sc (.int _ _)) rfl ?_) | (refine LetI.pre ?_; first | refine LetI.wrap (by omega) (by omega) ?_ | refine LetI.mk _ rfl ?_) | (refine LetB.pre ?_; first | refine LetB.dect (by omega) ?_) | (refine Gd.pre ?_; first | refine Gd.run rfl ?_) | (refine Br.pre ?_; first | refine Br.tt rfl ?_) | (refine Ck.pre ?_; first | refine Ck.drawn (by kernel_rfl) ?_ | refine Ck.mk rfl ?_) | (refine LetL.pre ?_; first | refine LetL.mk [_] rfl ?_) | (refine CallN.pre ?_; first | refine CallN.pure hL rfl rfl ?_)))); (try (conv => whnf)))


        refine LoopN.weak ?sw12 next
        case sw12 => exact SW.mk id rfl rfl (ratNames ..) ⟨.refl _, .refl _, .refl _, .refl _, .refl _, .refl _, .refl _, .refl _, .refl _, .refl _, VLe2.int (by omega), trivial⟩ (haveV.row (pure_st _) rfl (haveV.row rfl rfl (haveV.row rfl rfl trivial)))
    case neg =>
      clear ihB
      rw [List.drop_eq_nil_of_le (by omega), List.any_nil, Bool.or_false] at g4
      rw [g4] at hst
      rw [hst] at hq
      have hr := room_st (n := out.length + 1) (by omega)
      have hol2 : (out.map stA).length = out.length := List.length_map _
      ((repeat ((conv => whnf); (first | (refine LetN.pre ?_; first | ((conv => arg 1; whnf); refine LetN.mk ?_)) | (refine As.pre ?_; first | refine As.mk rfl ?_ | (refine As.mk ?_ ?_; · ((repeat' (refine andT ?_ ?_)) <;> (first | rfl | assumption | exact decide_eq_true (by omega) | exact decide_eq_true (by dsimp only; omega) | exact decide_eq_true (by simp; omega) | (simp; done))))) | (refine LetV.pre ?_; first | refine LetV.mk (.agg _) rfl ?_) | (refine LetI.pre ?_; first | refine LetI.wrap (by omega) (by omega) ?_ | refine LetI.mk _ rfl ?_) | (refine LetB.pre ?_; first | refine LetB.decf (by omega) ?_) | (refine Br.pre ?_; first | refine Br.ff rfl ?_) | (refine Ck.pre ?_; first | refine Ck.mk rfl ?_) | (refine LetL.pre ?_; first | refine LetL.mk (ty := sty) _ (app_st out ⟨g.id, b, gr, v⟩ _ rfl) ?_)))); (try (conv => whnf)))

      refine LoopN.weak ?sw13 (ih (k + 1, out ++ [⟨g.id, b, gr, v⟩]) ⟨by omega, hq.symm⟩ (by omega))
      case sw13 => exact SW.mk (fun _ => 3) rfl rfl (namesAll.row (pure_st _) rfl) ⟨.refl _, .refl _, .refl _, .refl _, .refl _, .refl _, VLe2.slm_of (by simp), VLe2.int (by omega), trivial⟩ (haveV.row (pure_st _) rfl trivial)
theorem rAt_f (l : List E) (a o : Int) (fl : Fl) (hl : l.length ≤ 100000) : AFun Try.prog 41 0 [.ro fl 15 (l.map en), int a, int o] [] (.ro {} 4 ((rAtP l a o).map stA)) [] :=
  AFun.frz1 (H := []) (rAt_s l a o fl hl) rfl (pure_st _) (by simp)
end En
end Go.Proofs.Ytiefcppgbnfbfaa
namespace Go.Proofs.Ytiefcppgbnfbfaa
open Go.Proofs.Ytiefcppgbnfbfaa.Am
set_option maxRecDepth 100000
namespace En
/-! ### Stable sorting, and what the reference does -/
theorem posB_app {α : Type} (gt : α → Bool) (d : α) (A B : List α) : ∀ k, k ≤ A.length → posB gt d (A ++ B) k = posB gt d A k
  | 0, _ => rfl
  | k + 1, h => by
    have e : (A ++ B).getD k d = A.getD k d := by
      rw [List.getD_eq_getElem?_getD, List.getD_eq_getElem?_getD, List.getElem?_append_left (by omega)]
    rw [posB, posB, e, posB_app gt d A B k (by omega)]
theorem putB_rev {α : Type} (gt : α → Bool) (d e : α) : ∀ R : List α, putB gt d R.reverse e = (R.dropWhile gt).reverse ++ e :: (R.takeWhile gt).reverse
  | [] => rfl
  | x :: R => by
    have ih := putB_rev gt d e R
    have hl : R.reverse.length = R.length := List.length_reverse
    have hg : (R.reverse ++ [x]).getD R.length d = x := by
      rw [List.getD_eq_getElem?_getD, List.getElem?_append_right (by omega), hl, Nat.sub_self]; rfl
    rw [putB, hl] at ih
    rw [List.reverse_cons, putB, List.length_append, hl]
    show List.take (posB gt d (R.reverse ++ [x]) (R.length + 1)) _ ++ e :: List.drop (posB gt d (R.reverse ++ [x]) (R.length + 1)) _ = _
    rw [posB, hg]
    cases hx : gt x with
    | false =>
      simp only [Bool.false_eq_true, if_false]
      rw [List.take_of_length_le (by simp), List.drop_eq_nil_of_le (by simp), List.dropWhile_cons, List.takeWhile_cons]
      simp [hx]
    | true =>
      simp only [if_true]
      have hp : posB gt d (R.reverse ++ [x]) R.length = posB gt d R.reverse R.length := posB_app _ _ _ _ _ (by omega)
      have hle := posB_le gt d R.reverse R.length
      rw [hp, List.take_append_of_le_length (by omega), List.drop_append_of_le_length (by omega), List.dropWhile_cons, List.takeWhile_cons]
      simp only [hx, if_true, List.reverse_cons]
      rw [← List.cons_append, ← List.append_assoc, ih]
      simp
theorem putB_ins {α : Type} (gt : α → Bool) (d e : α) (A : List α) : putB gt d A e = insEnd gt e A := by
  have := putB_rev gt d e A.reverse
  rw [List.reverse_reverse] at this
  exact this
theorem countP_S (l : List E) (kd a o : Int) : countP l kd a o = sortS (ltE false) (l.filter (cntQ kd a o)) := by
  unfold countP sortS
  refine foldl_congr (fun b e => ?_) _ _
  rw [insId, putB_ins]
  congr 1
  funext x
  exact (ltE_id e x).symm
/-! ### Both sides of the force layer say the same -/
theorem mem_countP {l : List E} {kd a o : Int} {x : E} : x ∈ countP l kd a o ↔ x ∈ l ∧ x.kind = kd ∧ x.day ≤ a ∧ x.on_ ≤ o := by
  rw [countP_S, (S_perm _ _).mem_iff, List.mem_filter, cntQ, decide_eq_true_eq]
theorem any_iff {α : Type} {l l' : List α} {p q : α → Bool} (h : ∀ x, (x ∈ l ∧ p x = true) ↔ (x ∈ l' ∧ q x = true)) : l.any p = l'.any q := by
  rw [Bool.eq_iff_iff, List.any_eq_true, List.any_eq_true]
  exact ⟨fun ⟨x, a, b⟩ => ⟨x, (h x).1 ⟨a, b⟩⟩, fun ⟨x, a, b⟩ => ⟨x, (h x).2 ⟨a, b⟩⟩⟩
theorem lift_eq (l : List E) (f a o : Int) : rLiftedP l f a o = liftedP l f a o := by
  refine any_iff fun x => ?_
  rw [mem_countP]
  simp only [Bool.and_eq_true, decide_eq_true_eq]
  exact ⟨fun h => ⟨h.1.1, ⟨h.1.2.1, h.2⟩, h.1.2.2⟩, fun h => ⟨⟨h.1, h.2.1.1, h.2.2⟩, h.2.1.2⟩⟩
theorem chos1 (R : List E) (c : Cd) : chos R [c] = R.filter c.p := by
  simp [chos]
theorem chos2 (R : List E) (c d : Cd) : chos R [c, d] = (R.filter c.p).filter d.p := by
  rw [List.filter_filter]
  refine List.filter_congr fun x _ => ?_
  simp [Bool.and_comm]
theorem atR_kind (l : List E) (k a o : Int) : chos (atR l a o) [cOf k] = countP l k a o := by
  rw [chos1, atR, srt_S, S_filter (ord_E false), countP_S, chos1, List.filter_filter]
  congr 1
  refine List.filter_congr fun x _ => ?_
  rw [Bool.eq_iff_iff]
  simp only [cntQ, Bool.and_eq_true, decide_eq_true_eq]
theorem atR_kind' (l : List E) (k a o : Int) : (atR l a o).filter (cOf k).p = countP l k a o := by
  rw [← chos1, atR_kind]
theorem mem_atR {l : List E} {a o : Int} {x : E} : x ∈ atR l a o ↔ x ∈ l ∧ x.day ≤ a ∧ x.on_ ≤ o := by
  rw [atR, srt_S, (S_perm _ _).mem_iff, chos1, List.mem_filter, decide_eq_true_eq]
theorem atR_lifted (l : List E) (f a o : Int) : liftedP (atR l a o) f a o = liftedP l f a o := by
  refine any_iff fun x => ?_
  rw [mem_atR]
  simp only [Bool.and_eq_true, decide_eq_true_eq]
  exact ⟨fun h => ⟨h.1.1, h.2⟩, fun h => ⟨⟨h.1, h.2.2⟩, h.2⟩⟩
theorem corr_eq (l : List E) (a o : Int) (g : E) : corr (atR l a o) g = (countP l 4 a o).foldl (stepR g) (0, g.grade, 0, false) := by
  rw [corr, chos2, atR_kind', List.foldl_filter]
  refine foldl_congr (fun b x => ?_) _ _
  simp only [stepR, decide_eq_true_eq]
theorem void_eq (l : List E) (a o : Int) (g : E) : voidP (atR l a o) a o g = (countP l 5 a o).any fun f => decide (f.ref = g.id) && !rLiftedP l f.id a o := by
  rw [voidP, chos2, atR_kind', List.any_filter]
  congr 1
  funext x
  rw [atR_lifted, lift_eq]
theorem stand_eq (l : List E) (a o : Int) (g : E) : stand (atR l a o) a o g = rstand l (countP l 4 a o) (countP l 5 a o) a o g := by
  rw [stand, rstand, corr_eq, void_eq]
theorem at_eq (l : List E) (a o : Int) : atP l a o = rAtP l a o := by
  rw [atP, rAtP, atR_kind]
  refine List.map_congr_left fun x _ => stand_eq ..
end En
end Go.Proofs.Ytiefcppgbnfbfaa
namespace Go.Proofs.Ytiefcppgbnfbfaa
open Go.Proofs.Ytiefcppgbnfbfaa.Am
set_option maxRecDepth 100000
namespace En
/-! ### The first grade with an Id -/
def qG (id : Int) (e : E) : Bool := decide (e.kind = 3) && decide (e.id = id)
def fstG (l : List E) (id : Int) : E := (l.find? (qG id)).getD e0
def fstB (l : List E) (id : Int) : Bool := (l.find? (qG id)).isSome
theorem gradeM_cons (x : Int × E) (m : List (Int × E)) (k : Int) : gradeM (x :: m) k = if x.1 = k then x.2 else gradeM m k := by
  unfold gradeM
  simp only [ixM]
  by_cases h : x.1 = k
  · simp [h]
  · rw [if_neg h, if_neg h]
    cases ixM m k <;> simp
theorem gm_put : ∀ (m : List (Int × E)) (e : E) (k : Int), gradeM (putM m e) k = if e.id = k then e else gradeM m k
  | [], e, k => by rw [putM, gradeM_cons]
  | x :: m, e, k => by
    rw [putM]
    split
    · rename_i h
      rw [gradeM_cons, gradeM_cons]
      by_cases c : e.id = k
      · rw [if_pos c, if_pos c]
      · rw [if_neg c, if_neg c, if_neg (by rw [h]; exact c)]
    · rename_i h
      rw [gradeM_cons, gradeM_cons, gm_put m e k]
      by_cases c : e.id = k
      · rw [if_pos c, if_pos c, if_neg (fun hh => h (by rw [hh, c]))]
      · rw [if_neg c, if_neg c]
theorem mB_fst : ∀ (l : List E) (k : Int), gradeM (mB l) k = fstG l k
  | [], k => rfl
  | e :: l, k => by
    rw [mB, fstG, List.find?_cons]
    by_cases h : e.kind = 3
    · rw [if_pos h, gm_put, mB_fst l k]
      by_cases c : e.id = k
      · rw [if_pos c, qG, decide_eq_true h, decide_eq_true c]; rfl
      · rw [if_neg c, qG, decide_eq_false c, Bool.and_false]; rfl
    · rw [if_neg h, mB_fst l k, qG, decide_eq_false h, Bool.false_and]; rfl
theorem mem_at3 {l : List E} {a o : Int} {x : St} (h : x ∈ atP l a o) : ∃ e ∈ l, e.kind = 3 ∧ x.entry = e.id := by
  obtain ⟨g, hg, rfl⟩ := List.mem_map.1 h
  obtain ⟨h1, h2⟩ := List.mem_filter.1 hg
  refine ⟨g, (List.mem_filter.1 (mem_srt h1)).1, ?_, rfl⟩
  simpa [cOf] using h2
theorem fst_some {l : List E} {id : Int} (h : ∃ e ∈ l, e.kind = 3 ∧ id = e.id) : fstB l id = true ∧ fstG l id ∈ l ∧ (fstG l id).kind = 3 ∧ (fstG l id).id = id := by
  obtain ⟨e, he, h1, h2⟩ := h
  unfold fstB fstG
  cases hf : l.find? (qG id) with
  | none =>
    have := List.find?_eq_none.1 hf e he
    simp [qG, h1, h2] at this
  | some x =>
    have h3 := List.find?_some hf
    simp [qG] at h3
    exact ⟨rfl, List.mem_of_find?_eq_some hf, h3⟩
theorem find_drop {l : List E} {k : Nat} (p : E → Bool) (h : k < l.length) : (l.drop k).find? p = if p (l.getD k e0) then some (l.getD k e0) else (l.drop (k + 1)).find? p := by
  rw [List.drop_eq_getElem_cons h, List.getD_eq_getElem?_getD, List.getElem?_eq_getElem h, List.find?_cons]
  simp only [Option.getD_some]
  cases p l[k] <;> rfl
end En
end Go.Proofs.Ytiefcppgbnfbfaa
namespace Go.Proofs.Ytiefcppgbnfbfaa
open Go.Proofs.Ytiefcppgbnfbfaa.Am
set_option maxRecDepth 100000
namespace En
/-! ### What every law asks first -/
abbrev ex1 : E := ⟨1, 2, 7, 3, 100, 100, ⟨#[65, 49]⟩, 5, 2, 0, 0, 0, 0, 0, ⟨#[]⟩⟩
abbrev ex2 : E := ⟨2, 2, 7, 3, 100, 100, ⟨#[66, 49]⟩, 5, 4, 0, 0, 0, 0, 0, ⟨#[]⟩⟩
abbrev ex3 : E := ⟨3, 2, 7, 3, 100, 100, ⟨#[66, 50]⟩, 10, 3, 0, 0, 0, 0, 0, ⟨#[]⟩⟩
abbrev ex4 : E := ⟨4, 2, 7, 4, 150, 100, ⟨#[]⟩, 0, 3, 2, 0, 0, 0, 0, ⟨#[]⟩⟩
abbrev ex5 : E := ⟨5, 2, 7, 5, 160, 160, ⟨#[]⟩, 0, 0, 3, 0, 0, 0, 0, ⟨#[]⟩⟩
abbrev exl : List E := [ex1, ex2, ex3, ex4, ex5]
theorem example1_f (i k d o : Int) : AFun Try.prog 58 0 [int i, int k, int d, int o] [] (en ⟨i, 2, 7, k, d, o, ⟨#[]⟩, 0, 0, 0, 0, 0, 0, 0, ⟨#[]⟩⟩) [] := by
  refine AFun.of_W T_ok mixed Try.func58 rfl (Nat.le_of_ble_eq_true rfl) rfl ?_
  ((repeat ((conv => whnf); (first | (refine LetN.pre ?_; first | ((conv => arg 1; whnf); refine LetN.mk ?_)) | (refine As.pre ?_; first | refine As.mk rfl ?_) | (refine Ck.pre ?_; first | refine Ck.mk rfl ?_) | (refine LetL.pre ?_; first | refine LetL.mk [_] rfl ?_)))); (try (conv => whnf)))
  exact ⟨.inl rfl, ⟨_, rfl, rfl⟩, trivial⟩
set_option maxRecDepth 100000 in
theorem example_s : AFun Try.prog 33 0 [] [] (.slm ⟨false, true⟩ 0 15 0 5) [(0, .row 15 ety (exl.map en))] := by
  refine AFun.of_S T_ok mixed Try.func33 rfl (Nat.le_of_ble_eq_true rfl) rfl ?_
  ((repeat ((conv => whnf); (first | (refine LetN.pre ?_; first | ((conv => arg 1; whnf); refine LetN.mk ?_)) | (refine As.pre ?_; first | refine As.mk rfl ?_) | (refine Ck.pre ?_; first | refine Ck.mk rfl ?_) | (refine LetL.pre ?_; first | refine LetL.mk _ rfl ?_) | (refine CallN.pre ?_; first | refine CallN.pure (example1_f _ _ _ _) rfl rfl ?_)))); (try (conv => whnf)))
  exact ⟨⟨[(0, .slm ⟨false, true⟩ 0 15 0 5)], [(0, .row 15 ety (exl.map en))], 1⟩, SW.mk id rfl rfl rfl ⟨.refl _, trivial⟩ (haveV.one rfl trivial), .inl rfl, ⟨_, rfl, rfl⟩, rfl, trivial⟩
theorem example_f : AFun Try.prog 33 0 [] [] (.ro ⟨false, true⟩ 15 (exl.map en)) [] := AFun.frz1 (H := []) example_s rfl (pure_en _) rfl
abbrev sc5 : Sc.Scl := (5, 1, 3)
abbrev acA1 : Ach := ⟨2, ⟨#[65, 49]⟩, 5, 2, 100, (⟨true, true⟩, [2000001]), 0, none⟩
abbrev acB1 : Ach := ⟨2, ⟨#[66, 49]⟩, 5, 3, 100, (⟨true, true⟩, [2000002]), 0, none⟩
abbrev acB2 : Ach := ⟨2, ⟨#[66, 50]⟩, 10, 3, 100, (⟨true, true⟩, [2000003]), 0, none⟩
theorem exl_ok : ∀ e ∈ exl, okB e := by
  intro e he
  simp only [exl, List.mem_cons, List.not_mem_nil, or_false] at he
  rcases he with rfl | rfl | rfl | rfl | rfl <;> exact ⟨⟨by decide, by decide⟩, by decide, by decide⟩
theorem of1 : (ofP exl sc5 7 100 100).map achA = [achA acA1, achA acB2] := by kernel_rfl
theorem of2 : (ofP exl sc5 7 150 100).map achA = [achA acA1, achA acB1, achA acB2] := by kernel_rfl
theorem of3 : (ofP exl sc5 7 160 160).map achA = [achA acA1, achA acB1] := by kernel_rfl
theorem of4 : (ofP exl sc5 7 160 159).map achA = [achA acA1, achA acB1, achA acB2] := by kernel_rfl
theorem of5 : (ofP exl sc5 8 160 160).map achA = [] := by kernel_rfl
theorem exO (st a o : Int) {L : List AV} (h : (ofP exl sc5 st a o).map achA = L) : AFun Try.prog 12 0 [.ro ⟨false, true⟩ 15 (exl.map en), Sc.scA sc5, int st, int a, int o] [] (.ro {} 8 L) [] := h ▸ Of_f exl sc5 st a o ⟨false, true⟩ (Nat.le_of_ble_eq_true rfl) exl_ok
abbrev sA1 : AV := str ⟨#[65, 49]⟩
abbrev sB1 : AV := str ⟨#[66, 49]⟩
abbrev sB2 : AV := str ⟨#[66, 50]⟩
theorem cd1 : AFun Try.prog 34 0 [.ro {} 8 [achA acA1, achA acB2], .ro ⟨true, true⟩ 1 [sA1, sB2]] [] (bool true) [] := AFun.of_calls (evF_sound T_ok mixed 20 _ _ [] 0 _ (by kernel_rfl))
theorem cd2 : AFun Try.prog 34 0 [.ro {} 8 [achA acA1, achA acB1, achA acB2], .ro ⟨true, true⟩ 1 [sA1, sB1, sB2]] [] (bool true) [] := AFun.of_calls (evF_sound T_ok mixed 20 _ _ [] 0 _ (by kernel_rfl))
theorem cd3 : AFun Try.prog 34 0 [.ro {} 8 [achA acA1, achA acB1], .ro ⟨true, true⟩ 1 [sA1, sB1]] [] (bool true) [] := AFun.of_calls (evF_sound T_ok mixed 20 _ _ [] 0 _ (by kernel_rfl))
theorem cd4 : AFun Try.prog 34 0 [.ro {} 8 [], .sc (.slice none 0 0)] [] (bool true) [] := AFun.of_calls (evF_sound T_ok mixed 20 _ _ [] 0 _ (by kernel_rfl))
theorem mean1 : AFun Try.prog 14 0 [.ro {} 8 [achA acA1, achA acB2]] [] (.tup [.agg [int 8, int 3], bool true]) [] := AFun.of_calls (evF_sound T_ok mixed 60 _ _ [] 0 _ (by kernel_rfl))
theorem cred1 : AFun Try.prog 17 0 [.ro {} 8 [achA acA1, achA acB2]] [] (int 15) [] := AFun.of_calls (evF_sound T_ok mixed 20 _ _ [] 0 _ (by kernel_rfl))
theorem ap1 : AFun Try.prog 20 0 [achA acA1, achA acA1] [] (bool false) [] := AFun.of_calls (evF_sound T_ok mixed 20 _ _ [] 0 _ (by kernel_rfl))
abbrev acX : Ach := ⟨1, ⟨#[65, 49]⟩, 0, 0, 0, (⟨true, true⟩, [5]), 0, none⟩
abbrev acY : Ach := ⟨1, ⟨#[66, 49]⟩, 0, 0, 0, (⟨true, true⟩, [5]), 0, none⟩
abbrev acX2 : Ach := ⟨1, ⟨#[65, 49]⟩, 0, 0, 0, (⟨true, true⟩, [5]), 2, some (⟨true, true⟩, [9])⟩
abbrev acY2 : Ach := ⟨1, ⟨#[66, 49]⟩, 0, 0, 0, (⟨true, true⟩, [5]), 2, some (⟨true, true⟩, [9])⟩
theorem ap2 : AFun Try.prog 20 0 [achA acX, achA acY] [] (bool false) [] := AFun.of_calls (evF_sound T_ok mixed 40 _ _ [] 0 _ (by kernel_rfl))
theorem ap3 : AFun Try.prog 20 0 [achA acX2, achA acY2] [] (bool true) [] := AFun.of_calls (evF_sound T_ok mixed 40 _ _ [] 0 _ (by kernel_rfl))
theorem fr1 : AFun Try.prog 21 0 [.ro {} 8 [achA acA1, achA acB2]] [] (bool true) [] := AFun.of_calls (evF_sound T_ok mixed 40 _ _ [] 0 _ (by kernel_rfl))
theorem fr2 : AFun Try.prog 21 0 [.ro ⟨true, true⟩ 8 [achA acX, achA acY]] [] (bool false) [] := AFun.of_calls (evF_sound T_ok mixed 40 _ _ [] 0 _ (by kernel_rfl))
set_option maxHeartbeats 1600000 in
set_option maxRecDepth 100000 in
theorem sanity_f : AFun Try.prog 9 0 [] [] (bool true) [] := by
  refine AFun.of_W T_ok mixed Try.func9 rfl (Nat.le_of_ble_eq_true rfl) rfl ?_
  ((repeat ((conv => whnf); (first | (refine LetN.pre ?_; first | ((conv => arg 1; whnf); refine LetN.mk ?_)) | (refine As.pre ?_; first | refine As.mk rfl ?_) | (refine LetV.pre ?_; first | refine LetV.mk (.sc (.int _ _)) rfl ?_ | refine LetV.mk (.agg _) rfl ?_ | refine LetV.mk (.ro _ _ _) rfl ?_) | (refine LetI.pre ?_; first | refine LetI.mk _ rfl ?_) | (refine LetB.pre ?_; first | refine LetB.tt rfl ?_ | refine LetB.ff rfl ?_) | (refine Gd.pre ?_; first | refine Gd.run rfl ?_) | (refine Br.pre ?_; first | refine Br.ff rfl ?_) | (refine Ck.pre ?_; first | refine Ck.drawn (by kernel_rfl) ?_ | refine Ck.mk rfl ?_) | (refine LetL.pre ?_; first | refine LetL.mk [_] rfl ?_) | (refine CallN.pre ?_; first | refine CallN.pure example_f rfl rfl ?_ | refine CallN.pure (exO 7 100 100 of1) rfl rfl ?_ | refine CallN.pure (exO 7 150 100 of2) rfl rfl ?_ | refine CallN.pure (exO 7 160 160 of3) rfl rfl ?_ | refine CallN.pure (exO 7 160 159 of4) rfl rfl ?_ | refine CallN.pure (exO 8 160 160 of5) rfl rfl ?_ | refine CallN.pure cd1 rfl rfl ?_ | refine CallN.pure cd2 rfl rfl ?_ | refine CallN.pure cd3 rfl rfl ?_ | refine CallN.pure cd4 rfl rfl ?_ | refine CallN.pure mean1 rfl rfl ?_ | refine CallN.pure cred1 rfl rfl ?_ | refine CallN.pure ap1 rfl rfl ?_ | refine CallN.pure ap2 rfl rfl ?_ | refine CallN.pure ap3 rfl rfl ?_ | refine CallN.pure fr1 rfl rfl ?_ | refine CallN.pure fr2 rfl rfl ?_)))); (try (conv => whnf)))

















  exact ⟨.inl rfl, ⟨_, rfl, rfl⟩, trivial⟩
end En
end Go.Proofs.Ytiefcppgbnfbfaa
namespace Go.Proofs.Ytiefcppgbnfbfaa
open Go.Proofs.Ytiefcppgbnfbfaa.Am
set_option maxRecDepth 100000
namespace En
/-! ### Lists of numbers -/
abbrev ro1 (fl : Fl) (xs : List Int) : AV := .ro fl 1 (xs.map int)
theorem drop_eq {xs ys : List Int} {k : Nat} (h1 : k < xs.length) (h2 : k < ys.length) : xs.drop k = ys.drop k ↔ xs.getD k 0 = ys.getD k 0 ∧ xs.drop (k + 1) = ys.drop (k + 1) := by
  rw [List.drop_eq_getElem_cons h1, List.drop_eq_getElem_cons h2, List.getD_eq_getElem?_getD, List.getD_eq_getElem?_getD, List.getElem?_eq_getElem h1, List.getElem?_eq_getElem h2]
  rw [List.cons.injEq]; exact Iff.rfl
theorem getD_int {xs : List Int} {k : Nat} (h : k < xs.length) : int (xs.getD k 0) = (xs.map int).getD k (.sc undef) := mapD 0 h
set_option maxRecDepth 100000 in
theorem Equal_f (xs ys : List Int) (fl fl' : Fl) (hx : xs.length ≤ 1000) (hy : ys.length ≤ 1000) : AFun Try.prog 48 0 [ro1 fl xs, ro1 fl' ys] [] (bool (decide (xs = ys))) [] := by
  refine AFun.of_W T_ok mixed Try.func48 rfl (Nat.le_of_ble_eq_true rfl) rfl ?_
  have hmx : (xs.map int).length = xs.length := List.length_map _
  have hmy : (ys.map int).length = ys.length := List.length_map _
  by_cases hl : xs.length = ys.length
  case neg =>
    have hr : decide (xs = ys) = false := decide_eq_false fun h => hl (by rw [h])
    rw [hr]
    ((repeat ((conv => whnf); (first | (refine As.pre ?_; first | refine As.mk rfl ?_) | (refine LetI.pre ?_; first | refine LetI.mk _ rfl ?_) | (refine LetB.pre ?_; first | refine LetB.bnet (by omega) ?_) | (refine Br.pre ?_; first | refine Br.tt rfl ?_) | (refine Ck.pre ?_; first | refine Ck.mk rfl ?_)))); (try (conv => whnf)))
    exact ⟨.inl rfl, ⟨_, rfl, rfl⟩, trivial⟩
  ((repeat ((conv => whnf); (first | (refine As.pre ?_; first | refine As.mk rfl ?_) | (refine LetI.pre ?_; first | refine LetI.mk _ rfl ?_) | (refine LetB.pre ?_; first | refine LetB.bnef (by omega) ?_) | (refine Br.pre ?_; first | refine Br.ff rfl ?_) | (refine Ck.pre ?_; first | refine Ck.mk rfl ?_)))); (try (conv => whnf)))
  refine LoopN.weak (s1 := ⟨[(0, ro1 fl xs), (1, ro1 fl' ys), (12, int xs.length), (13, int (0 : Nat))], [], 0⟩) (SW.fr0 (Nat.le_refl _) rfl ⟨.refl _, .refl _, VLe2.int (by rw [List.length_map]), .refl _, trivial⟩) ?_
  refine LoopN.ind T_ok mixed (S := fun k : Nat => ⟨[(0, ro1 fl xs), (1, ro1 fl' ys), (12, int xs.length), (13, int k)], [], 0⟩) (fun k => xs.length - k) (fun k => k ≤ xs.length ∧ decide (xs = ys) = decide (xs.drop k = ys.drop k)) (fun _ => rfl) (fun k hk ih => ?_) 0 ⟨Nat.zero_le _, rfl⟩
  obtain ⟨h1, h2⟩ := hk
  by_cases hlt : k < xs.length
  case neg =>
    rw [List.drop_eq_nil_of_le (by omega), List.drop_eq_nil_of_le (by omega)] at h2
    rw [h2]
    clear ih
    ((repeat ((conv => whnf); (first | (refine As.pre ?_; first | refine As.mk rfl ?_) | (refine LetB.pre ?_; first | refine LetB.decf (by omega) ?_) | (refine Br.pre ?_; first | refine Br.ff rfl ?_) | (refine Ck.pre ?_; first | refine Ck.mk rfl ?_)))); (try (conv => whnf)))
    exact ⟨.inl rfl, ⟨_, rfl, rfl⟩, trivial⟩
  case pos =>
    have hlx := getD_int hlt
    have hly := getD_int (xs := ys) (k := k) (by omega)
    have hd := drop_eq hlt (show k < ys.length by omega)
    generalize xs.getD k 0 = x at hlx hd
    generalize ys.getD k 0 = y at hly hd
    by_cases hxy : x = y
    · have h3 : decide (xs = ys) = decide (xs.drop (k + 1) = ys.drop (k + 1)) := by rw [h2]; exact decide_eq_decide.2 (hd.trans ⟨fun h => h.2, fun h => ⟨hxy, h⟩⟩)
      clear h2 hd
      ((repeat ((conv => whnf); (first | (refine As.pre ?_; first | refine As.mk rfl ?_ | (refine As.mk ?_ ?_; · ((repeat' (refine andT ?_ ?_)) <;> (first | rfl | assumption | exact decide_eq_true (by omega) | exact decide_eq_true (by dsimp only; omega) | exact decide_eq_true (by simp; omega) | (simp; done))))) | (refine LetV.pre ?_; first | refine LetV.mk (t := 22) _ hlx ?_ | refine LetV.mk (t := 22) _ hly ?_ | refine LetV.mk (.sc (.int _ _)) rfl ?_) | (refine LetI.pre ?_; first | refine LetI.wrap (by omega) (by omega) ?_) | (refine LetB.pre ?_; first | refine LetB.dect (by omega) ?_ | refine LetB.bnef (by omega) ?_) | (refine Br.pre ?_; first | refine Br.tt rfl ?_ | refine Br.ff rfl ?_) | (refine Ck.pre ?_; first | refine Ck.drawn (by kernel_rfl) ?_ | refine Ck.mk rfl ?_)))); (try (conv => whnf)))
      refine LoopN.weak ?_ (ih (k + 1) ⟨by omega, h3⟩ (by omega))
      exact SW.fr0 (Nat.le_refl _) rfl ⟨.refl _, .refl _, .refl _, VLe2.int (by omega), trivial⟩
    · have h3 : decide (xs = ys) = false := by rw [h2]; exact decide_eq_false fun h => hxy (hd.1 h).1
      rw [h3]
      clear ih h2 hd
      ((repeat ((conv => whnf); (first | (refine As.pre ?_; first | refine As.mk rfl ?_ | (refine As.mk ?_ ?_; · ((repeat' (refine andT ?_ ?_)) <;> (first | rfl | assumption | exact decide_eq_true (by omega) | exact decide_eq_true (by dsimp only; omega) | exact decide_eq_true (by simp; omega) | (simp; done))))) | (refine LetV.pre ?_; first | refine LetV.mk (t := 22) _ hlx ?_ | refine LetV.mk (t := 22) _ hly ?_ | refine LetV.mk (.sc (.int _ _)) rfl ?_) | (refine LetB.pre ?_; first | refine LetB.dect (by omega) ?_ | refine LetB.bnet (by omega) ?_) | (refine Br.pre ?_; first | refine Br.tt rfl ?_) | (refine Ck.pre ?_; first | refine Ck.drawn (by kernel_rfl) ?_ | refine Ck.mk rfl ?_)))); (try (conv => whnf)))
      exact ⟨.inl rfl, ⟨_, rfl, rfl⟩, trivial⟩
set_option maxRecDepth 100000 in
theorem SameInts_f (xs ys : List Int) (fl fl' : Fl) (hx : xs.length ≤ 1000) (hy : ys.length ≤ 1000) : AFun Try.prog 55 0 [ro1 fl xs, ro1 fl' ys] [] (bool (decide (xs = ys))) [] := by
  refine AFun.of_W T_ok mixed Try.func55 rfl (Nat.le_of_ble_eq_true rfl) rfl ?_
  have hmx : (xs.map int).length = xs.length := List.length_map _
  have hmy : (ys.map int).length = ys.length := List.length_map _
  by_cases hl : xs.length = ys.length
  case neg =>
    have hr : decide (xs = ys) = false := decide_eq_false fun h => hl (by rw [h])
    rw [hr]
    ((repeat ((conv => whnf); (first | (refine As.pre ?_; first | refine As.mk rfl ?_) | (refine LetI.pre ?_; first | refine LetI.mk _ rfl ?_) | (refine LetB.pre ?_; first | refine LetB.bnet (by omega) ?_) | (refine Br.pre ?_; first | refine Br.tt rfl ?_) | (refine Ck.pre ?_; first | refine Ck.mk rfl ?_)))); (try (conv => whnf)))
    exact ⟨.inl rfl, ⟨_, rfl, rfl⟩, trivial⟩
  ((repeat ((conv => whnf); (first | (refine As.pre ?_; first | refine As.mk rfl ?_) | (refine LetI.pre ?_; first | refine LetI.mk _ rfl ?_) | (refine LetB.pre ?_; first | refine LetB.bnef (by omega) ?_) | (refine Br.pre ?_; first | refine Br.ff rfl ?_) | (refine Ck.pre ?_; first | refine Ck.mk rfl ?_)))); (try (conv => whnf)))
  refine LoopN.weak (s1 := ⟨[(0, ro1 fl xs), (1, ro1 fl' ys), (5, int (0 : Nat))], [], 0⟩) (SW.fr0 (Nat.le_refl _) rfl ⟨.refl _, .refl _, .refl _, trivial⟩) ?_
  refine LoopN.ind T_ok mixed (S := fun k : Nat => ⟨[(0, ro1 fl xs), (1, ro1 fl' ys), (5, int k)], [], 0⟩) (fun k => xs.length - k) (fun k => k ≤ xs.length ∧ decide (xs = ys) = decide (xs.drop k = ys.drop k)) (fun _ => rfl) (fun k hk ih => ?_) 0 ⟨Nat.zero_le _, rfl⟩
  obtain ⟨h1, h2⟩ := hk
  by_cases hlt : k < xs.length
  case neg =>
    rw [List.drop_eq_nil_of_le (by omega), List.drop_eq_nil_of_le (by omega)] at h2
    rw [h2]
    clear ih
    ((repeat ((conv => whnf); (first | (refine As.pre ?_; first | refine As.mk rfl ?_) | (refine LetI.pre ?_; first | refine LetI.mk _ rfl ?_) | (refine LetB.pre ?_; first | refine LetB.decf (by omega) ?_) | (refine Br.pre ?_; first | refine Br.ff rfl ?_) | (refine Ck.pre ?_; first | refine Ck.mk rfl ?_)))); (try (conv => whnf)))
    exact ⟨.inl rfl, ⟨_, rfl, rfl⟩, trivial⟩
  case pos =>
    have hlx := getD_int hlt
    have hly := getD_int (xs := ys) (k := k) (by omega)
    have hd := drop_eq hlt (show k < ys.length by omega)
    generalize xs.getD k 0 = x at hlx hd
    generalize ys.getD k 0 = y at hly hd
    by_cases hxy : x = y
    · have h3 : decide (xs = ys) = decide (xs.drop (k + 1) = ys.drop (k + 1)) := by rw [h2]; exact decide_eq_decide.2 (hd.trans ⟨fun h => h.2, fun h => ⟨hxy, h⟩⟩)
      clear h2 hd
      ((repeat ((conv => whnf); (first | (refine As.pre ?_; first | refine As.mk rfl ?_ | (refine As.mk ?_ ?_; · ((repeat' (refine andT ?_ ?_)) <;> (first | rfl | assumption | exact decide_eq_true (by omega) | exact decide_eq_true (by dsimp only; omega) | exact decide_eq_true (by simp; omega) | (simp; done))))) | (refine LetV.pre ?_; first | refine LetV.mk (t := 22) _ hlx ?_ | refine LetV.mk (t := 22) _ hly ?_ | refine LetV.mk (.sc (.int _ _)) rfl ?_) | (refine LetI.pre ?_; first | refine LetI.wrap (by omega) (by omega) ?_ | refine LetI.mk _ rfl ?_) | (refine LetB.pre ?_; first | refine LetB.dect (by omega) ?_ | refine LetB.bnef (by omega) ?_) | (refine Br.pre ?_; first | refine Br.tt rfl ?_ | refine Br.ff rfl ?_) | (refine Ck.pre ?_; first | refine Ck.drawn (by kernel_rfl) ?_ | refine Ck.mk rfl ?_)))); (try (conv => whnf)))
      refine LoopN.weak ?_ (ih (k + 1) ⟨by omega, h3⟩ (by omega))
      exact SW.fr0 (Nat.le_refl _) rfl ⟨.refl _, .refl _, VLe2.int (by omega), trivial⟩
    · have h3 : decide (xs = ys) = false := by rw [h2]; exact decide_eq_false fun h => hxy (hd.1 h).1
      rw [h3]
      clear ih h2 hd
      ((repeat ((conv => whnf); (first | (refine As.pre ?_; first | refine As.mk rfl ?_ | (refine As.mk ?_ ?_; · ((repeat' (refine andT ?_ ?_)) <;> (first | rfl | assumption | exact decide_eq_true (by omega) | exact decide_eq_true (by dsimp only; omega) | exact decide_eq_true (by simp; omega) | (simp; done))))) | (refine LetV.pre ?_; first | refine LetV.mk (t := 22) _ hlx ?_ | refine LetV.mk (t := 22) _ hly ?_ | refine LetV.mk (.sc (.int _ _)) rfl ?_) | (refine LetI.pre ?_; first | refine LetI.mk _ rfl ?_) | (refine LetB.pre ?_; first | refine LetB.dect (by omega) ?_ | refine LetB.bnet (by omega) ?_) | (refine Br.pre ?_; first | refine Br.tt rfl ?_) | (refine Ck.pre ?_; first | refine Ck.drawn (by kernel_rfl) ?_ | refine Ck.mk rfl ?_)))); (try (conv => whnf)))
      exact ⟨.inl rfl, ⟨_, rfl, rfl⟩, trivial⟩
/-! ### A common number -/
set_option maxRecDepth 100000 in
theorem IndexI_f (xs : List Int) (a : Int) (fl : Fl) (hx : xs.length ≤ 1000) : AFun Try.prog 98 0 [ro1 fl xs, int a] [] (int (fidx (fun x => decide (a = x)) xs 0)) [] := by
  refine AFun.of_W T_ok mixed Try.func98 rfl (Nat.le_of_ble_eq_true rfl) rfl ?_
  have hmx : (xs.map int).length = xs.length := List.length_map _
  ((repeat ((conv => whnf); (first | (refine As.pre ?_; first | refine As.mk rfl ?_) | (refine LetI.pre ?_; first | refine LetI.mk _ rfl ?_) | (refine Ck.pre ?_; first | refine Ck.mk rfl ?_)))); (try (conv => whnf)))
  refine LoopN.weak (s1 := ⟨[(0, ro1 fl xs), (1, int a), (7, int xs.length), (8, int (0 : Nat))], [], 0⟩) (SW.fr0 (Nat.le_refl _) rfl ⟨.refl _, .refl _, VLe2.int (by rw [List.length_map]), .refl _, trivial⟩) ?_
  refine LoopN.ind T_ok mixed (S := fun k : Nat => ⟨[(0, ro1 fl xs), (1, int a), (7, int xs.length), (8, int k)], [], 0⟩) (fun k => xs.length - k) (fun k => k ≤ xs.length ∧ fidx (fun x => decide (a = x)) xs 0 = fidx (fun x => decide (a = x)) (xs.drop k) k) (fun _ => rfl) (fun k hk ih => ?_) 0 ⟨Nat.zero_le _, rfl⟩
  obtain ⟨h1, h2⟩ := hk
  by_cases hlt : k < xs.length
  case neg =>
    rw [fidx_end hlt] at h2
    rw [h2]
    clear ih
    ((repeat ((conv => whnf); (first | (refine As.pre ?_; first | refine As.mk rfl ?_) | (refine LetB.pre ?_; first | refine LetB.decf (by omega) ?_) | (refine Br.pre ?_; first | refine Br.ff rfl ?_) | (refine Ck.pre ?_; first | refine Ck.mk rfl ?_)))); (try (conv => whnf)))
    exact ⟨.inl rfl, ⟨_, rfl, rfl⟩, trivial⟩
  case pos =>
    have hlx := getD_int hlt
    rw [fidx_drop hlt 0] at h2
    generalize xs.getD k 0 = x at hlx h2
    by_cases hxy : a = x
    · rw [if_pos (decide_eq_true hxy)] at h2
      rw [h2]
      clear ih h2
      ((repeat ((conv => whnf); (first | (refine As.pre ?_; first | refine As.mk rfl ?_ | (refine As.mk ?_ ?_; · ((repeat' (refine andT ?_ ?_)) <;> (first | rfl | assumption | exact decide_eq_true (by omega) | exact decide_eq_true (by dsimp only; omega) | exact decide_eq_true (by simp; omega) | (simp; done))))) | (refine LetV.pre ?_; first | refine LetV.mk (t := 22) _ hlx ?_ | refine LetV.mk (.sc (.int _ _)) rfl ?_) | (refine LetB.pre ?_; first | refine LetB.dect (by omega) ?_) | (refine Br.pre ?_; first | refine Br.tt rfl ?_) | (refine Ck.pre ?_; first | refine Ck.mk rfl ?_)))); (try (conv => whnf)))
      exact ⟨.inl rfl, ⟨_, rfl, rfl⟩, trivial⟩
    · rw [if_neg (by simpa using hxy)] at h2
      ((repeat ((conv => whnf); (first | (refine As.pre ?_; first | refine As.mk rfl ?_ | (refine As.mk ?_ ?_; · ((repeat' (refine andT ?_ ?_)) <;> (first | rfl | assumption | exact decide_eq_true (by omega) | exact decide_eq_true (by dsimp only; omega) | exact decide_eq_true (by simp; omega) | (simp; done))))) | (refine LetV.pre ?_; first | refine LetV.mk (t := 22) _ hlx ?_ | refine LetV.mk (.sc (.int _ _)) rfl ?_) | (refine LetI.pre ?_; first | refine LetI.wrap (by omega) (by omega) ?_) | (refine LetB.pre ?_; first | refine LetB.dect (by omega) ?_ | refine LetB.decf (by omega) ?_) | (refine Br.pre ?_; first | refine Br.tt rfl ?_ | refine Br.ff rfl ?_) | (refine Ck.pre ?_; first | refine Ck.mk rfl ?_)))); (try (conv => whnf)))
      refine LoopN.weak ?_ (ih (k + 1) ⟨by omega, h2⟩ (by omega))
      exact SW.fr0 (Nat.le_refl _) rfl ⟨.refl _, .refl _, .refl _, VLe2.int (by omega), trivial⟩
abbrev hasI (xs : List Int) (a : Int) : Bool := xs.any fun x => decide (a = x)
theorem ge_any {α : Type} (p : α → Bool) (l : List α) : decide (fidx p l 0 ≥ 0) = l.any p := by
  have := fidx_nonneg (p := p) l 0
  cases h : l.any p with
  | true => exact decide_eq_true (this.2 h)
  | false => exact decide_eq_false fun n => by rw [this.1 n] at h; cases h
theorem ContainsI_f (xs : List Int) (a : Int) (fl : Fl) (hx : xs.length ≤ 1000) : AFun Try.prog 78 0 [ro1 fl xs, int a] [] (bool (hasI xs a)) [] := by
  refine AFun.of_W T_ok mixed Try.func78 rfl (Nat.le_of_ble_eq_true rfl) rfl ?_
  have h := IndexI_f xs a fl hx
  rw [hasI, ← ge_any]
  generalize fidx (fun x => decide (a = x)) xs 0 = i at h ⊢
  ((repeat ((conv => whnf); (first | (refine As.pre ?_; first | refine As.mk rfl ?_) | (refine LetB.pre ?_; first | refine LetB.mk _ rfl ?_) | (refine Ck.pre ?_; first | refine Ck.mk rfl ?_) | (refine CallN.pre ?_; first | refine CallN.pure h rfl rfl ?_)))); (try (conv => whnf)))
  exact ⟨.inl rfl, ⟨_, rfl, rfl⟩, trivial⟩
theorem meet1_f (ys : List Int) (a : Int) (fl : Fl) (hy : ys.length ≤ 1000) : AFun Try.prog 77 0 [int a, .rp (ro1 fl ys) 0] [] (bool (hasI ys a)) [] := by
  refine AFun.of_W T_ok mixed Try.func77 rfl (Nat.le_of_ble_eq_true rfl) rfl ?_
  have h := ContainsI_f ys a fl hy
  ((repeat ((conv => whnf); (first | (refine As.pre ?_; first | refine As.mk rfl ?_) | (refine LetV.pre ?_; first | refine LetV.mk (.ro _ _ _) rfl ?_) | (refine Ck.pre ?_; first | refine Ck.mk rfl ?_) | (refine CallN.pre ?_; first | refine CallN.pure h rfl rfl ?_)))); (try (conv => whnf)))
  exact ⟨.inl rfl, ⟨_, rfl, rfl⟩, trivial⟩
end En
end Go.Proofs.Ytiefcppgbnfbfaa
namespace Go.Proofs.Ytiefcppgbnfbfaa
open Go.Proofs.Ytiefcppgbnfbfaa.Am
set_option maxRecDepth 100000
namespace En
abbrev cmn (xs ys : List Int) : Bool := xs.any (hasI ys)
abbrev mtV (fl : Fl) (ys : List Int) : AV := .clo 77 [.rp (ro1 fl ys) 0]
set_option maxRecDepth 100000 in
theorem IndexM_f (xs ys : List Int) (fl fl' : Fl) (hx : xs.length ≤ 1000) (hy : ys.length ≤ 1000) : AFun Try.prog 97 0 [ro1 fl xs, mtV fl' ys] [] (int (fidx (hasI ys) xs 0)) [] := by
  refine AFun.of_W T_ok mixed Try.func97 rfl (Nat.le_of_ble_eq_true rfl) rfl ?_
  have hmx : (xs.map int).length = xs.length := List.length_map _
  ((repeat ((conv => whnf); (first | (refine As.pre ?_; first | refine As.mk rfl ?_) | (refine LetI.pre ?_; first | refine LetI.mk _ rfl ?_) | (refine Ck.pre ?_; first | refine Ck.mk rfl ?_)))); (try (conv => whnf)))
  refine LoopN.weak (s1 := ⟨[(0, ro1 fl xs), (1, mtV fl' ys), (7, int xs.length), (8, int (0 : Nat))], [], 0⟩) (SW.fr0 (Nat.le_refl _) rfl ⟨.refl _, .refl _, VLe2.int (by rw [List.length_map]), .refl _, trivial⟩) ?_
  refine LoopN.ind T_ok mixed (S := fun k : Nat => ⟨[(0, ro1 fl xs), (1, mtV fl' ys), (7, int xs.length), (8, int k)], [], 0⟩) (fun k => xs.length - k) (fun k => k ≤ xs.length ∧ fidx (hasI ys) xs 0 = fidx (hasI ys) (xs.drop k) k) (fun _ => rfl) (fun k hk ih => ?_) 0 ⟨Nat.zero_le _, rfl⟩
  obtain ⟨h1, h2⟩ := hk
  by_cases hlt : k < xs.length
  case neg =>
    rw [fidx_end hlt] at h2
    rw [h2]
    clear ih
    ((repeat ((conv => whnf); (first | (refine As.pre ?_; first | refine As.mk rfl ?_) | (refine LetB.pre ?_; first | refine LetB.decf (by omega) ?_) | (refine Br.pre ?_; first | refine Br.ff rfl ?_) | (refine Ck.pre ?_; first | refine Ck.mk rfl ?_)))); (try (conv => whnf)))
    exact ⟨.inl rfl, ⟨_, rfl, rfl⟩, trivial⟩
  case pos =>
    have hlx := getD_int hlt
    rw [fidx_drop hlt 0] at h2
    generalize xs.getD k 0 = x at hlx h2
    have hm := meet1_f ys x fl' hy
    generalize hasI ys x = b at h2 hm
    cases b with
    | true =>
      rw [if_pos rfl] at h2
      rw [h2]
      clear ih h2
      ((repeat ((conv => whnf); (first | (refine As.pre ?_; first | refine As.mk rfl ?_ | (refine As.mk ?_ ?_; · ((repeat' (refine andT ?_ ?_)) <;> (first | rfl | assumption | exact decide_eq_true (by omega) | exact decide_eq_true (by dsimp only; omega) | exact decide_eq_true (by simp; omega) | (simp; done))))) | (refine LetV.pre ?_; first | refine LetV.mk (t := 22) _ hlx ?_ | refine LetV.mk (.sc (.int _ _)) rfl ?_) | (refine LetB.pre ?_; first | refine LetB.dect (by omega) ?_) | (refine Br.pre ?_; first | refine Br.tt rfl ?_) | (refine Ck.pre ?_; first | refine Ck.mk rfl ?_) | (refine CallN.pre ?_; first | refine CallN.pure hm rfl rfl ?_)))); (try (conv => whnf)))
      exact ⟨.inl rfl, ⟨_, rfl, rfl⟩, trivial⟩
    | false =>
      rw [if_neg Bool.false_ne_true] at h2
      ((repeat ((conv => whnf); (first | (refine As.pre ?_; first | refine As.mk rfl ?_ | (refine As.mk ?_ ?_; · ((repeat' (refine andT ?_ ?_)) <;> (first | rfl | assumption | exact decide_eq_true (by omega) | exact decide_eq_true (by dsimp only; omega) | exact decide_eq_true (by simp; omega) | (simp; done))))) | (refine LetV.pre ?_; first | refine LetV.mk (t := 22) _ hlx ?_ | refine LetV.mk (.sc (.int _ _)) rfl ?_) | (refine LetI.pre ?_; first | refine LetI.wrap (by omega) (by omega) ?_) | (refine LetB.pre ?_; first | refine LetB.dect (by omega) ?_) | (refine Br.pre ?_; first | refine Br.tt rfl ?_ | refine Br.ff rfl ?_) | (refine Ck.pre ?_; first | refine Ck.mk rfl ?_) | (refine CallN.pre ?_; first | refine CallN.pure hm rfl rfl ?_)))); (try (conv => whnf)))
      refine LoopN.weak ?_ (ih (k + 1) ⟨by omega, h2⟩ (by omega))
      exact SW.fr0 (Nat.le_refl _) rfl ⟨.refl _, .refl _, .refl _, VLe2.int (by omega), trivial⟩
theorem ContainsM_f (xs ys : List Int) (fl fl' : Fl) (hx : xs.length ≤ 1000) (hy : ys.length ≤ 1000) : AFun Try.prog 76 0 [ro1 fl xs, mtV fl' ys] [] (bool (cmn xs ys)) [] := by
  refine AFun.of_W T_ok mixed Try.func76 rfl (Nat.le_of_ble_eq_true rfl) rfl ?_
  have h := IndexM_f xs ys fl fl' hx hy
  rw [cmn, ← ge_any]
  generalize fidx (hasI ys) xs 0 = i at h ⊢
  ((repeat ((conv => whnf); (first | (refine As.pre ?_; first | refine As.mk rfl ?_) | (refine LetB.pre ?_; first | refine LetB.mk _ rfl ?_) | (refine Ck.pre ?_; first | refine Ck.mk rfl ?_) | (refine CallN.pre ?_; first | refine CallN.pure h rfl rfl ?_)))); (try (conv => whnf)))
  exact ⟨.inl rfl, ⟨_, rfl, rfl⟩, trivial⟩
theorem meet_f (xs ys : List Int) (fl fl' : Fl) (hx : xs.length ≤ 1000) (hy : ys.length ≤ 1000) : AFun Try.prog 49 0 [ro1 fl xs, ro1 fl' ys] [] (bool (cmn xs ys)) [] := by
  refine AFun.of_W T_ok mixed Try.func49 rfl (Nat.le_of_ble_eq_true rfl) rfl ?_
  have h := ContainsM_f xs ys fl fl' hx hy
  ((repeat ((conv => whnf); (first | (refine LetN.pre ?_; first | ((conv => arg 1; whnf); refine LetN.mk ?_)) | (refine As.pre ?_; first | refine As.mk rfl ?_) | (refine Ck.pre ?_; first | refine Ck.mk rfl ?_) | (refine CallN.pre ?_; first | refine CallN.lend h rfl (.same rfl (.clo (.ptr rfl rfl rfl .nil) .nil)) ?_)))); (try (conv => whnf)))
  exact ⟨.inl rfl, ⟨_, rfl, rfl⟩, trivial⟩
/-! ### The reference's -/
theorem any_dropI (f : Int → Bool) {l : List Int} {k : Nat} (h : k < l.length) : (l.drop k).any f = (f (l.getD k 0) || (l.drop (k + 1)).any f) := any_drop f h 0
set_option maxRecDepth 100000 in
theorem common_f (xs ys : List Int) (fl fl' : Fl) (hx : xs.length ≤ 1000) (hy : ys.length ≤ 1000) : AFun Try.prog 54 0 [ro1 fl xs, ro1 fl' ys] [] (bool (cmn xs ys)) [] := by
  refine AFun.of_W T_ok mixed Try.func54 rfl (Nat.le_of_ble_eq_true rfl) rfl ?_
  have hmx : (xs.map int).length = xs.length := List.length_map _
  have hmy : (ys.map int).length = ys.length := List.length_map _
  ((repeat ((conv => whnf); (first | (refine As.pre ?_; first | refine As.mk rfl ?_) | (refine Ck.pre ?_; first | refine Ck.mk rfl ?_)))); (try (conv => whnf)))
  refine LoopN.weak (s1 := ⟨[(0, ro1 fl xs), (1, ro1 fl' ys), (5, int (0 : Nat))], [], 0⟩) (SW.fr0 (Nat.le_refl _) rfl ⟨.refl _, .refl _, .refl _, trivial⟩) ?_
  refine LoopN.ind T_ok mixed (S := fun k : Nat => ⟨[(0, ro1 fl xs), (1, ro1 fl' ys), (5, int k)], [], 0⟩) (fun k => xs.length - k) (fun k => k ≤ xs.length ∧ cmn xs ys = (xs.drop k).any (hasI ys)) (fun _ => rfl) (fun k hk ih => ?_) 0 ⟨Nat.zero_le _, rfl⟩
  obtain ⟨h1, h2⟩ := hk
  by_cases hlt : k < xs.length
  case neg =>
    rw [List.drop_eq_nil_of_le (by omega), List.any_nil] at h2
    rw [h2]
    clear ih
    ((repeat ((conv => whnf); (first | (refine As.pre ?_; first | refine As.mk rfl ?_) | (refine LetI.pre ?_; first | refine LetI.mk _ rfl ?_) | (refine LetB.pre ?_; first | refine LetB.decf (by omega) ?_) | (refine Br.pre ?_; first | refine Br.ff rfl ?_) | (refine Ck.pre ?_; first | refine Ck.mk rfl ?_)))); (try (conv => whnf)))
    exact ⟨.inl rfl, ⟨_, rfl, rfl⟩, trivial⟩
  case pos =>
    have hlx := getD_int hlt
    rw [any_dropI _ hlt] at h2
    generalize xs.getD k 0 = x at hlx h2
    ((repeat ((conv => whnf); (first | (refine As.pre ?_; first | refine As.mk rfl ?_) | (refine LetI.pre ?_; first | refine LetI.mk _ rfl ?_) | (refine LetB.pre ?_; first | refine LetB.dect (by omega) ?_) | (refine Br.pre ?_; first | refine Br.tt rfl ?_) | (refine Ck.pre ?_; first | refine Ck.mk rfl ?_)))); (try (conv => whnf)))
    refine LoopN.weak (s1 := ⟨[(0, ro1 fl xs), (1, ro1 fl' ys), (5, int k), (6, int (0 : Nat))], [], 0⟩) (SW.fr0 (Nat.le_refl _) rfl ⟨.refl _, .refl _, .refl _, .refl _, trivial⟩) ?_
    refine LoopN.ind T_ok mixed (S := fun i : Nat => ⟨[(0, ro1 fl xs), (1, ro1 fl' ys), (5, int k), (6, int i)], [], 0⟩) (fun i => ys.length - i) (fun i => i ≤ ys.length ∧ hasI ys x = (ys.drop i).any fun y => decide (x = y)) (fun _ => rfl) (fun i hi ihi => ?_) 0 ⟨Nat.zero_le _, rfl⟩
    obtain ⟨g1, g2⟩ := hi
    by_cases hli : i < ys.length
    case neg =>
      rw [List.drop_eq_nil_of_le (by omega), List.any_nil] at g2
      rw [g2, Bool.false_or] at h2
      clear ihi
      ((repeat ((conv => whnf); (first | (refine As.pre ?_; first | refine As.mk rfl ?_) | (refine LetI.pre ?_; first | refine LetI.wrap (by omega) (by omega) ?_ | refine LetI.mk _ rfl ?_) | (refine LetB.pre ?_; first | refine LetB.decf (by omega) ?_) | (refine Br.pre ?_; first | refine Br.ff rfl ?_) | (refine Ck.pre ?_; first | refine Ck.mk rfl ?_)))); (try (conv => whnf)))
      refine LoopN.weak ?_ (ih (k + 1) ⟨by omega, h2⟩ (by omega))
      exact SW.fr0 (Nat.le_refl _) rfl ⟨.refl _, .refl _, VLe2.int (by omega), trivial⟩
    case pos =>
      have hly := getD_int hli
      rw [any_dropI _ hli] at g2
      generalize ys.getD i 0 = y at hly g2
      by_cases hxy : x = y
      · rw [decide_eq_true hxy, Bool.true_or] at g2
        rw [g2, Bool.true_or] at h2
        rw [h2]
        clear ih ihi h2 g2
        ((repeat ((conv => whnf); (first | (refine As.pre ?_; first | refine As.mk rfl ?_ | (refine As.mk ?_ ?_; · ((repeat' (refine andT ?_ ?_)) <;> (first | rfl | assumption | exact decide_eq_true (by omega) | exact decide_eq_true (by dsimp only; omega) | exact decide_eq_true (by simp; omega) | (simp; done))))) | (refine LetV.pre ?_; first | refine LetV.mk (t := 22) _ hlx ?_ | refine LetV.mk (t := 22) _ hly ?_ | refine LetV.mk (.sc (.int _ _)) rfl ?_) | (refine LetI.pre ?_; first | refine LetI.mk _ rfl ?_) | (refine LetB.pre ?_; first | refine LetB.dect (by omega) ?_) | (refine Br.pre ?_; first | refine Br.tt rfl ?_) | (refine Ck.pre ?_; first | refine Ck.drawn (by kernel_rfl) ?_ | refine Ck.mk rfl ?_)))); (try (conv => whnf)))
        exact ⟨.inl rfl, ⟨_, rfl, rfl⟩, trivial⟩
      · rw [decide_eq_false hxy, Bool.false_or] at g2
        clear ih
        ((repeat ((conv => whnf); (first | (refine As.pre ?_; first | refine As.mk rfl ?_ | (refine As.mk ?_ ?_; · ((repeat' (refine andT ?_ ?_)) <;> (first | rfl | assumption | exact decide_eq_true (by omega) | exact decide_eq_true (by dsimp only; omega) | exact decide_eq_true (by simp; omega) | (simp; done))))) | (refine LetV.pre ?_; first | refine LetV.mk (t := 22) _ hlx ?_ | refine LetV.mk (t := 22) _ hly ?_ | refine LetV.mk (.sc (.int _ _)) rfl ?_) | (refine LetI.pre ?_; first | refine LetI.wrap (by omega) (by omega) ?_ | refine LetI.mk _ rfl ?_) | (refine LetB.pre ?_; first | refine LetB.dect (by omega) ?_ | refine LetB.decf (by omega) ?_) | (refine Br.pre ?_; first | refine Br.tt rfl ?_ | refine Br.ff rfl ?_) | (refine Ck.pre ?_; first | refine Ck.drawn (by kernel_rfl) ?_ | refine Ck.mk rfl ?_)))); (try (conv => whnf)))
        refine LoopN.weak ?_ (ihi (i + 1) ⟨by omega, g2⟩ (by omega))
        exact SW.fr0 (Nat.le_refl _) rfl ⟨.refl _, .refl _, .refl _, VLe2.int (by omega), trivial⟩
end En
end Go.Proofs.Ytiefcppgbnfbfaa
namespace Go.Proofs.Ytiefcppgbnfbfaa.Am
open Go
theorem CLe.agg {cs cs' : List AV} (h : VLe2L cs cs') : CLe (.agg cs) (.agg cs') := fun w g x hx => by
  obtain ⟨h1, h2⟩ := h.get
  cases hx with
  | agg a b =>
    refine .agg (by rw [← h1]; exact a) fun i c y hi hy => ?_
    obtain ⟨d, hd, hle⟩ := h2 i c hi
    exact hle w g y (b i d y hd hy)
theorem CLe.ros {α : Type} {f g : α → AV} {fl : Fl} {E : Nat} (hc : ∀ a, VLe2L (f a).cells (g a).cells) (l : List α) : CLe (.ro fl E (l.map f)) (.ro {} E (l.map g)) := fun w gh x hx => by
  have hl : (l.map f).length = (l.map g).length := by simp
  have hat : ∀ (i : Nat) (e : AV), (l.map g)[i]? = some e → ∃ d, (l.map f)[i]? = some d ∧ VLe2L d.cells e.cells := fun i e he => by
    rw [List.getElem?_map] at he
    obtain ⟨a, ha, rfl⟩ := Option.map_eq_some_iff.1 he
    exact ⟨f a, by rw [List.getElem?_map, ha]; rfl, hc a⟩
  have hin : ∀ e ∈ l.map g, ∃ d ∈ l.map f, VLe2L d.cells e.cells := fun e he => by
    obtain ⟨a, ha, rfl⟩ := List.mem_map.1 he
    exact ⟨f a, List.mem_map_of_mem ha, hc a⟩
  generalize l.map f = es at hl hat hin hx
  generalize l.map g = es' at hl hat hin
  cases hx with
  | roz a b c =>
    have : es' = [] := List.eq_nil_of_length_eq_zero (by rw [← hl]; rfl)
    subst this
    exact .roz (fun h => by cases h) b fun h => by cases h
  | ro X a b c d e f =>
    rw [hl] at b ⊢
    refine .ro X a b (fun h => by cases h) (fun q hq => ?_) (fun i j q c' hi hj => ?_) fun i j q c' hi hj => ?_
    · obtain ⟨r, hr, hle⟩ := hin q hq
      rw [← hle.get.1]; exact d r hr
    · obtain ⟨r, hr, hle⟩ := hat i q hi
      obtain ⟨s, hs, _⟩ := hle.get.2 j c' hj
      exact e i j r s hr hs
    · obtain ⟨r, hr, hle⟩ := hat i q hi
      obtain ⟨s, hs, hcl⟩ := hle.get.2 j c' hj
      exact hcl _ _ _ (f i j r s hr hs)
def CLeL : List AV → List AV → Prop
  | [], [] => True
  | a :: l, b :: m => CLe a b ∧ CLeL l m
  | _, _ => False
theorem CLeL.get : ∀ {l m : List AV}, CLeL l m → l.length = m.length ∧ ∀ (i : Nat) (b : AV), m[i]? = some b → ∃ a, l[i]? = some a ∧ CLe a b
  | [], [], _ => ⟨rfl, fun i b h => by simp at h⟩
  | a :: l, b :: m, h => by
    obtain ⟨h3, h4⟩ := CLeL.get h.2
    refine ⟨by simp [h3], fun i c hc => ?_⟩
    cases i with
    | zero => simp at hc; subst hc; exact ⟨a, rfl, h.1⟩
    | succ i => exact h4 i c hc
  | [], _ :: _, h => by cases h
  | _ :: _, [], h => by cases h
theorem AFun.le {P : Program} {f : FuncId} {p : Nat} {vs vs' : List AV} {H H1 : AH} {v : AV} (h : AFun P f p vs H v H1) (hle : CLeL vs' vs) : AFun P f p vs' H v H1 := fun w g xs hl hx hH hN =>
  h w g xs (by rw [← hle.get.1]; exact hl) (fun i b x hb hx' => by
    obtain ⟨a, ha, hc⟩ := hle.get.2 i b hb
    exact hc w g x (hx i a x ha hx')) hH hN
theorem AFun.res {P : Program} {f : FuncId} {p : Nat} {vs : List AV} {H H1 : AH} {v v' : AV} (h : AFun P f p vs H v H1) (hle : CLe v v') : AFun P f p vs H v' H1 := fun w g xs hl hx hH hN =>
  (h w g xs hl hx hH hN).mono fun e w' ⟨x, g', he, hA, hc, hH'⟩ => ⟨x, g', he, hA, hle _ _ _ hc, hH'⟩
end Go.Proofs.Ytiefcppgbnfbfaa.Am
namespace Go.Proofs.Ytiefcppgbnfbfaa
open Go.Proofs.Ytiefcppgbnfbfaa.Am
set_option maxRecDepth 100000
namespace En
/-! ### Apart and free -/
def pthL : Option (Fl × List Int) → List Int
  | none => []
  | some p => p.2
theorem pth_le : ∀ p : Option (Fl × List Int), VLe2 (pthA p) (ro1 {} (pthL p))
  | none => VLe2.nilro
  | some _ => VLe2.ro_of rfl
/-- An achievement, of whose lists the elements alone are told. -/
structure Ac where
  school : Int
  code : ByteArray
  credits : Int
  grade : Int
  day : Int
  src : List Int
  bundle : Int
  path : List Int
abbrev acA (a : Ac) : AV := .agg [int a.school, str a.code, int a.credits, int a.grade, int a.day, ro1 {} a.src, int a.bundle, ro1 {} a.path]
def Ach.ac (a : Ach) : Ac := ⟨a.school, a.code, a.credits, a.grade, a.day, a.src.2, a.bundle, pthL a.path⟩
theorem ac_le (a : Ach) : VLe2L (achA a).cells (acA a.ac).cells := ⟨.refl _, .refl _, .refl _, .refl _, .refl _, VLe2.ro_of rfl, .refl _, pth_le _, trivial⟩
theorem ac_cle (a : Ach) : CLe (achA a) (acA a.ac) := CLe.agg (ac_le a)
theorem acs_le (l : List Ach) (fl : Fl) : CLe (.ro fl 8 (l.map achA)) (.ro {} 8 ((l.map Ach.ac).map acA)) := by
  rw [List.map_map]
  exact CLe.ros (g := fun a => acA a.ac) ac_le l
theorem pure_ac : ∀ l : List Ac, AV.namesL (fun _ => false) (l.map acA) = true
  | [] => rfl
  | p :: l => by simp only [List.map_cons, AV.namesL, pure_ac l]; rfl
abbrev okA (a : Ac) : Prop := a.src.length ≤ 1000 ∧ a.path.length ≤ 1000
def apP (a b : Ac) : Bool := !(decide (a.school = b.school) && decide (a.code = b.code)) && ((decide (0 < a.bundle) && decide (a.bundle = b.bundle) && decide (a.path = b.path)) || !cmn a.src b.src)
theorem toL_inj {a b : ByteArray} (h : a.toList = b.toList) : a = b := by
  rw [ByteArray.toList_eq, ByteArray.toList_eq] at h
  exact ByteArray.ext (Array.ext' h)
theorem toL_eq (a b : ByteArray) : (a.toList == b.toList) = decide (a = b) := by
  by_cases h : a = b
  · subst h; simp
  · rw [decide_eq_false h]
    exact beq_eq_false_iff_ne.2 fun n => h (toL_inj n)
set_option maxHeartbeats 1600000 in
set_option maxRecDepth 100000 in
theorem Apart_f (a b : Ac) (ha : okA a) (hb : okA b) : AFun Try.prog 20 0 [acA a, acA b] [] (bool (apP a b)) [] := by
  have hE := Equal_f a.path b.path {} {} ha.2 hb.2
  have hM := meet_f a.src b.src {} {} ha.1 hb.1
  refine AFun.of_W T_ok mixed Try.func20 rfl (Nat.le_of_ble_eq_true rfl) rfl ?_
  have hc := toL_eq a.code b.code
  unfold apP
  generalize decide (a.path = b.path) = q at hE ⊢
  generalize cmn a.src b.src = m at hM ⊢
  generalize decide (a.code = b.code) = c at hc ⊢
  by_cases hs : a.school = b.school
  · cases c with
    | true =>
      have hq : (a.school == b.school && (a.code.toList == b.code.toList && true)) = true := by rw [hc]; simp [hs]
      rw [decide_eq_true hs]
      ((repeat ((conv => whnf); (first | (refine LetN.pre ?_; first | ((conv => arg 1; whnf); refine LetN.mk ?_)) | (refine As.pre ?_; first | refine As.mk rfl ?_) | (refine LetV.pre ?_; first | refine LetV.mk (.agg _) rfl ?_) | (refine LetB.pre ?_; first | refine LetB.tt (by assumption) ?_) | (refine Br.pre ?_; first | refine Br.tt rfl ?_) | (refine Ck.pre ?_; first | refine Ck.mk rfl ?_)))); (try (conv => whnf)))
      exact ⟨.inl rfl, ⟨_, rfl, rfl⟩, trivial⟩
    | false =>
      have hq : (a.school == b.school && (a.code.toList == b.code.toList && true)) = false := by rw [hc]; simp
      rw [decide_eq_true hs]
      by_cases hb0 : 0 < a.bundle
      · by_cases hbe : a.bundle = b.bundle
        · rw [decide_eq_true hb0, decide_eq_true hbe]
          cases q <;> cases m <;> (((repeat ((conv => whnf); (first | (refine LetN.pre ?_; first | ((conv => arg 1; whnf); refine LetN.mk ?_)) | (refine As.pre ?_; first | refine As.mk rfl ?_) | (refine LetV.pre ?_; first | refine LetV.mk (.sc (.int _ _)) rfl ?_ | refine LetV.mk (.agg _) rfl ?_ | refine LetV.mk (.ro _ _ _) rfl ?_) | (refine LetB.pre ?_; first | refine LetB.ff (by assumption) ?_ | refine LetB.dect (by omega) ?_) | (refine Gd.pre ?_; first | refine Gd.run rfl ?_ | refine Gd.pass rfl ?_) | (refine Br.pre ?_; first | refine Br.ff rfl ?_) | (refine Ck.pre ?_; first | refine Ck.mk rfl ?_) | (refine CallN.pre ?_; first | refine CallN.pure hE rfl rfl ?_ | refine CallN.pure hM rfl rfl ?_)))); (try (conv => whnf))); exact ⟨.inl rfl, ⟨_, rfl, rfl⟩, trivial⟩)
        · rw [decide_eq_true hb0, decide_eq_false hbe]
          cases m <;> (((repeat ((conv => whnf); (first | (refine LetN.pre ?_; first | ((conv => arg 1; whnf); refine LetN.mk ?_)) | (refine As.pre ?_; first | refine As.mk rfl ?_) | (refine LetV.pre ?_; first | refine LetV.mk (.sc (.int _ _)) rfl ?_ | refine LetV.mk (.agg _) rfl ?_ | refine LetV.mk (.ro _ _ _) rfl ?_) | (refine LetB.pre ?_; first | refine LetB.ff (by assumption) ?_ | refine LetB.dect (by omega) ?_ | refine LetB.decf (by omega) ?_) | (refine Gd.pre ?_; first | refine Gd.run rfl ?_ | refine Gd.pass rfl ?_) | (refine Br.pre ?_; first | refine Br.ff rfl ?_) | (refine Ck.pre ?_; first | refine Ck.mk rfl ?_) | (refine CallN.pre ?_; first | refine CallN.pure hM rfl rfl ?_)))); (try (conv => whnf))); exact ⟨.inl rfl, ⟨_, rfl, rfl⟩, trivial⟩)
      · rw [decide_eq_false hb0]
        cases m <;> (((repeat ((conv => whnf); (first | (refine LetN.pre ?_; first | ((conv => arg 1; whnf); refine LetN.mk ?_)) | (refine As.pre ?_; first | refine As.mk rfl ?_) | (refine LetV.pre ?_; first | refine LetV.mk (.sc (.int _ _)) rfl ?_ | refine LetV.mk (.agg _) rfl ?_ | refine LetV.mk (.ro _ _ _) rfl ?_) | (refine LetB.pre ?_; first | refine LetB.ff (by assumption) ?_ | refine LetB.decf (by omega) ?_) | (refine Gd.pre ?_; first | refine Gd.run rfl ?_ | refine Gd.pass rfl ?_) | (refine Br.pre ?_; first | refine Br.ff rfl ?_) | (refine Ck.pre ?_; first | refine Ck.mk rfl ?_) | (refine CallN.pre ?_; first | refine CallN.pure hM rfl rfl ?_)))); (try (conv => whnf))); exact ⟨.inl rfl, ⟨_, rfl, rfl⟩, trivial⟩)
  · have hq : (a.school == b.school && (a.code.toList == b.code.toList && true)) = false := by simp [hs]
    rw [decide_eq_false hs]
    by_cases hb0 : 0 < a.bundle
    · by_cases hbe : a.bundle = b.bundle
      · rw [decide_eq_true hb0, decide_eq_true hbe]
        cases q <;> cases m <;> (((repeat ((conv => whnf); (first | (refine LetN.pre ?_; first | ((conv => arg 1; whnf); refine LetN.mk ?_)) | (refine As.pre ?_; first | refine As.mk rfl ?_) | (refine LetV.pre ?_; first | refine LetV.mk (.sc (.int _ _)) rfl ?_ | refine LetV.mk (.agg _) rfl ?_ | refine LetV.mk (.ro _ _ _) rfl ?_) | (refine LetB.pre ?_; first | refine LetB.ff (by assumption) ?_ | refine LetB.dect (by omega) ?_) | (refine Gd.pre ?_; first | refine Gd.run rfl ?_ | refine Gd.pass rfl ?_) | (refine Br.pre ?_; first | refine Br.ff rfl ?_) | (refine Ck.pre ?_; first | refine Ck.mk rfl ?_) | (refine CallN.pre ?_; first | refine CallN.pure hE rfl rfl ?_ | refine CallN.pure hM rfl rfl ?_)))); (try (conv => whnf))); exact ⟨.inl rfl, ⟨_, rfl, rfl⟩, trivial⟩)
      · rw [decide_eq_true hb0, decide_eq_false hbe]
        cases m <;> (((repeat ((conv => whnf); (first | (refine LetN.pre ?_; first | ((conv => arg 1; whnf); refine LetN.mk ?_)) | (refine As.pre ?_; first | refine As.mk rfl ?_) | (refine LetV.pre ?_; first | refine LetV.mk (.sc (.int _ _)) rfl ?_ | refine LetV.mk (.agg _) rfl ?_ | refine LetV.mk (.ro _ _ _) rfl ?_) | (refine LetB.pre ?_; first | refine LetB.ff (by assumption) ?_ | refine LetB.dect (by omega) ?_ | refine LetB.decf (by omega) ?_) | (refine Gd.pre ?_; first | refine Gd.run rfl ?_ | refine Gd.pass rfl ?_) | (refine Br.pre ?_; first | refine Br.ff rfl ?_) | (refine Ck.pre ?_; first | refine Ck.mk rfl ?_) | (refine CallN.pre ?_; first | refine CallN.pure hM rfl rfl ?_)))); (try (conv => whnf))); exact ⟨.inl rfl, ⟨_, rfl, rfl⟩, trivial⟩)
    · rw [decide_eq_false hb0]
      cases m <;> (((repeat ((conv => whnf); (first | (refine LetN.pre ?_; first | ((conv => arg 1; whnf); refine LetN.mk ?_)) | (refine As.pre ?_; first | refine As.mk rfl ?_) | (refine LetV.pre ?_; first | refine LetV.mk (.sc (.int _ _)) rfl ?_ | refine LetV.mk (.agg _) rfl ?_ | refine LetV.mk (.ro _ _ _) rfl ?_) | (refine LetB.pre ?_; first | refine LetB.ff (by assumption) ?_ | refine LetB.decf (by omega) ?_) | (refine Gd.pre ?_; first | refine Gd.run rfl ?_ | refine Gd.pass rfl ?_) | (refine Br.pre ?_; first | refine Br.ff rfl ?_) | (refine Ck.pre ?_; first | refine Ck.mk rfl ?_) | (refine CallN.pre ?_; first | refine CallN.pure hM rfl rfl ?_)))); (try (conv => whnf))); exact ⟨.inl rfl, ⟨_, rfl, rfl⟩, trivial⟩)
set_option maxHeartbeats 1600000 in
set_option maxRecDepth 100000 in
theorem refApart_f (a b : Ac) (ha : okA a) (hb : okA b) : AFun Try.prog 27 0 [acA a, acA b] [] (bool (apP a b)) [] := by
  have hE := SameInts_f a.path b.path {} {} ha.2 hb.2
  have hM := common_f a.src b.src {} {} ha.1 hb.1
  refine AFun.of_W T_ok mixed Try.func27 rfl (Nat.le_of_ble_eq_true rfl) rfl ?_
  have hc := toL_eq a.code b.code
  unfold apP
  generalize decide (a.path = b.path) = q at hE ⊢
  generalize cmn a.src b.src = m at hM ⊢
  generalize decide (a.code = b.code) = c at hc ⊢
  by_cases hs : a.school = b.school
  · cases c with
    | true =>
      have hq : (a.school == b.school && (a.code.toList == b.code.toList && true)) = true := by rw [hc]; simp [hs]
      rw [decide_eq_true hs]
      ((repeat ((conv => whnf); (first | (refine LetN.pre ?_; first | ((conv => arg 1; whnf); refine LetN.mk ?_)) | (refine As.pre ?_; first | refine As.mk rfl ?_) | (refine LetV.pre ?_; first | refine LetV.mk (.agg _) rfl ?_) | (refine LetB.pre ?_; first | refine LetB.tt (by assumption) ?_) | (refine Br.pre ?_; first | refine Br.tt rfl ?_) | (refine Ck.pre ?_; first | refine Ck.mk rfl ?_)))); (try (conv => whnf)))
      exact ⟨.inl rfl, ⟨_, rfl, rfl⟩, trivial⟩
    | false =>
      have hq : (a.school == b.school && (a.code.toList == b.code.toList && true)) = false := by rw [hc]; simp
      rw [decide_eq_true hs]
      by_cases hb0 : 0 < a.bundle
      · by_cases hbe : a.bundle = b.bundle
        · rw [decide_eq_true hb0, decide_eq_true hbe]
          cases q <;> cases m <;> (((repeat ((conv => whnf); (first | (refine LetN.pre ?_; first | ((conv => arg 1; whnf); refine LetN.mk ?_)) | (refine As.pre ?_; first | refine As.mk rfl ?_) | (refine LetV.pre ?_; first | refine LetV.mk (.sc (.int _ _)) rfl ?_ | refine LetV.mk (.agg _) rfl ?_ | refine LetV.mk (.ro _ _ _) rfl ?_) | (refine LetB.pre ?_; first | refine LetB.ff (by assumption) ?_ | refine LetB.dect (by omega) ?_) | (refine Gd.pre ?_; first | refine Gd.run rfl ?_ | refine Gd.pass rfl ?_) | (refine Br.pre ?_; first | refine Br.tt rfl ?_ | refine Br.ff rfl ?_) | (refine Ck.pre ?_; first | refine Ck.mk rfl ?_) | (refine CallN.pre ?_; first | refine CallN.pure hE rfl rfl ?_ | refine CallN.pure hM rfl rfl ?_)))); (try (conv => whnf))); exact ⟨.inl rfl, ⟨_, rfl, rfl⟩, trivial⟩)
        · rw [decide_eq_true hb0, decide_eq_false hbe]
          cases q <;> cases m <;> (((repeat ((conv => whnf); (first | (refine LetN.pre ?_; first | ((conv => arg 1; whnf); refine LetN.mk ?_)) | (refine As.pre ?_; first | refine As.mk rfl ?_) | (refine LetV.pre ?_; first | refine LetV.mk (.sc (.int _ _)) rfl ?_ | refine LetV.mk (.agg _) rfl ?_ | refine LetV.mk (.ro _ _ _) rfl ?_) | (refine LetB.pre ?_; first | refine LetB.ff (by assumption) ?_ | refine LetB.decf (by omega) ?_) | (refine Gd.pre ?_; first | refine Gd.run rfl ?_ | refine Gd.pass rfl ?_) | (refine Br.pre ?_; first | refine Br.tt rfl ?_ | refine Br.ff rfl ?_) | (refine Ck.pre ?_; first | refine Ck.mk rfl ?_) | (refine CallN.pre ?_; first | refine CallN.pure hE rfl rfl ?_ | refine CallN.pure hM rfl rfl ?_)))); (try (conv => whnf))); exact ⟨.inl rfl, ⟨_, rfl, rfl⟩, trivial⟩)
      · rw [decide_eq_false hb0]
        by_cases hbe : a.bundle = b.bundle <;> cases q <;> cases m <;> (((repeat ((conv => whnf); (first | (refine LetN.pre ?_; first | ((conv => arg 1; whnf); refine LetN.mk ?_)) | (refine As.pre ?_; first | refine As.mk rfl ?_) | (refine LetV.pre ?_; first | refine LetV.mk (.sc (.int _ _)) rfl ?_ | refine LetV.mk (.agg _) rfl ?_ | refine LetV.mk (.ro _ _ _) rfl ?_) | (refine LetB.pre ?_; first | refine LetB.ff (by assumption) ?_ | refine LetB.dect (by omega) ?_ | refine LetB.decf (by omega) ?_) | (refine Gd.pre ?_; first | refine Gd.run rfl ?_ | refine Gd.pass rfl ?_) | (refine Br.pre ?_; first | refine Br.tt rfl ?_ | refine Br.ff rfl ?_) | (refine Ck.pre ?_; first | refine Ck.mk rfl ?_) | (refine CallN.pre ?_; first | refine CallN.pure hE rfl rfl ?_ | refine CallN.pure hM rfl rfl ?_)))); (try (conv => whnf))); exact ⟨.inl rfl, ⟨_, rfl, rfl⟩, trivial⟩)
  · have hq : (a.school == b.school && (a.code.toList == b.code.toList && true)) = false := by simp [hs]
    rw [decide_eq_false hs]
    by_cases hb0 : 0 < a.bundle
    · by_cases hbe : a.bundle = b.bundle
      · rw [decide_eq_true hb0, decide_eq_true hbe]
        cases q <;> cases m <;> (((repeat ((conv => whnf); (first | (refine LetN.pre ?_; first | ((conv => arg 1; whnf); refine LetN.mk ?_)) | (refine As.pre ?_; first | refine As.mk rfl ?_) | (refine LetV.pre ?_; first | refine LetV.mk (.sc (.int _ _)) rfl ?_ | refine LetV.mk (.agg _) rfl ?_ | refine LetV.mk (.ro _ _ _) rfl ?_) | (refine LetB.pre ?_; first | refine LetB.ff (by assumption) ?_ | refine LetB.dect (by omega) ?_) | (refine Gd.pre ?_; first | refine Gd.run rfl ?_ | refine Gd.pass rfl ?_) | (refine Br.pre ?_; first | refine Br.tt rfl ?_ | refine Br.ff rfl ?_) | (refine Ck.pre ?_; first | refine Ck.mk rfl ?_) | (refine CallN.pre ?_; first | refine CallN.pure hE rfl rfl ?_ | refine CallN.pure hM rfl rfl ?_)))); (try (conv => whnf))); exact ⟨.inl rfl, ⟨_, rfl, rfl⟩, trivial⟩)
      · rw [decide_eq_true hb0, decide_eq_false hbe]
        cases q <;> cases m <;> (((repeat ((conv => whnf); (first | (refine LetN.pre ?_; first | ((conv => arg 1; whnf); refine LetN.mk ?_)) | (refine As.pre ?_; first | refine As.mk rfl ?_) | (refine LetV.pre ?_; first | refine LetV.mk (.sc (.int _ _)) rfl ?_ | refine LetV.mk (.agg _) rfl ?_ | refine LetV.mk (.ro _ _ _) rfl ?_) | (refine LetB.pre ?_; first | refine LetB.ff (by assumption) ?_ | refine LetB.decf (by omega) ?_) | (refine Gd.pre ?_; first | refine Gd.run rfl ?_ | refine Gd.pass rfl ?_) | (refine Br.pre ?_; first | refine Br.tt rfl ?_ | refine Br.ff rfl ?_) | (refine Ck.pre ?_; first | refine Ck.mk rfl ?_) | (refine CallN.pre ?_; first | refine CallN.pure hE rfl rfl ?_ | refine CallN.pure hM rfl rfl ?_)))); (try (conv => whnf))); exact ⟨.inl rfl, ⟨_, rfl, rfl⟩, trivial⟩)
    · rw [decide_eq_false hb0]
      by_cases hbe : a.bundle = b.bundle <;> cases q <;> cases m <;> (((repeat ((conv => whnf); (first | (refine LetN.pre ?_; first | ((conv => arg 1; whnf); refine LetN.mk ?_)) | (refine As.pre ?_; first | refine As.mk rfl ?_) | (refine LetV.pre ?_; first | refine LetV.mk (.sc (.int _ _)) rfl ?_ | refine LetV.mk (.agg _) rfl ?_ | refine LetV.mk (.ro _ _ _) rfl ?_) | (refine LetB.pre ?_; first | refine LetB.ff (by assumption) ?_ | refine LetB.dect (by omega) ?_ | refine LetB.decf (by omega) ?_) | (refine Gd.pre ?_; first | refine Gd.run rfl ?_ | refine Gd.pass rfl ?_) | (refine Br.pre ?_; first | refine Br.tt rfl ?_ | refine Br.ff rfl ?_) | (refine Ck.pre ?_; first | refine Ck.mk rfl ?_) | (refine CallN.pre ?_; first | refine CallN.pure hE rfl rfl ?_ | refine CallN.pure hM rfl rfl ?_)))); (try (conv => whnf))); exact ⟨.inl rfl, ⟨_, rfl, rfl⟩, trivial⟩)
end En
end Go.Proofs.Ytiefcppgbnfbfaa
