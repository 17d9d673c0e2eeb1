/- earn: parts of the proof, DearnHD DearnHE DearnHF DearnHG DearnHH DearnHI DearnHJ DearnHK DearnHL DearnHM DearnHN DearnHO. -/
import Derived.Test.YtiefcppgbnfbfaaL41
import Derived.Lib.Strings
import Derived.Lib.Slices
import Derived.Lib.Walk
import Derived.Lib.Bytealg
set_option linter.all false
namespace Go.Proofs.Ytiefcppgbnfbfaa
open Go.Proofs.Ytiefcppgbnfbfaa.Am
set_option maxRecDepth 100000
namespace En
/-! ### Achievements -/
structure Ach where
  school : Int
  code : ByteArray
  credits : Int
  grade : Int
  day : Int
  src : Fl × List Int
  bundle : Int
  path : Option (Fl × List Int)
abbrev ints (p : Fl × List Int) : AV := .ro p.1 1 (p.2.map int)
def pthA : Option (Fl × List Int) → AV
  | none => .sc (.slice none 0 0)
  | some p => ints p
abbrev achA (a : Ach) : AV := .agg [int a.school, str a.code, int a.credits, int a.grade, int a.day, ints a.src, int a.bundle, pthA a.path]
abbrev aty : TypeId := 55
theorem pth_pure (p : Option (Fl × List Int)) : (pthA p).names (fun _ => false) = true := by cases p <;> rfl
theorem pure_ach : ∀ l : List Ach, AV.namesL (fun _ => false) (l.map achA) = true
  | [] => rfl
  | p :: l => by simp only [List.map_cons, AV.namesL, pure_ach l, AV.names, pth_pure]; rfl
theorem app_ach (l : List Ach) (e : Ach) (n : Nat) (h : n = l.length) : (l ++ [e]).map achA = (l.map achA).take n ++ [achA e] := by rw [List.take_of_length_le (by simp [h]), List.map_append]; rfl
theorem room_ach {n : Nat} (h : n ≤ 1000000) : room n 104 = true := by
  simp only [room, Bool.and_eq_true, decide_eq_true_eq]
  exact ⟨by omega, rfl⟩
/-- A school's own achievement. -/
def ownA (e : E) (g : Int) : Ach := ⟨e.school, e.course, e.credits, g, e.on_, (⟨true, true⟩, [1000000 * e.school + e.id]), 0, none⟩
def keepA (m : List (Int × E)) (s : Sc.Scl) (st : Int) (x : St) : Bool := !(x.void || ((gradeM m x.entry).student != st || !decide (Sc.rea s x.grade s.2.2)))
def ofP (l : List E) (s : Sc.Scl) (st a o : Int) : List Ach := ((atP l a o).filter (keepA (mB l) s st)).map fun x => ownA (gradeM (mB l) x.entry) x.grade
theorem bk_call (m : List (Int × E)) : atCall (fun i => i + 1) (bkH []) (.tup []) (bkH m) = { v := .tup [], D := [1, 2], δ := [(1, some (.map m.length (kvM m))), (2, some (.row 1 73 [.mp 1]))] } := by
  show ({ v := _, D := _, δ := [(1, some (.map m.length ((kvM m).map fun x => (x.1, x.2.ren (fun i => i + 1))))), (2, some (.row 1 _ [.mp 1]))] } : Out) = _
  rw [kv_ren (kvM_pure m)]; rfl
theorem mem_sink (o : Bool) : ∀ (j : Nat) (l : List E) (e : E), j < l.length → e ∈ sink o l j → e ∈ l
  | 0, l, e, _, h => h
  | j + 1, l, e, hj, h => by
    unfold sink at h
    split at h
    · have := mem_sink o j _ e (by simp only [List.length_set]; omega) h
      rcases List.mem_or_eq_of_mem_set this with h | h
      · rcases List.mem_or_eq_of_mem_set h with h | h
        · exact h
        · rw [h]; exact getD_memE (by omega)
      · rw [h]; exact getD_memE hj
    · exact h
theorem mem_isr (o : Bool) : ∀ (f i : Nat) (l : List E) (e : E), (∀ k, k < f → i + k < l.length) → e ∈ isr o f i l → e ∈ l
  | 0, i, l, e, _, h => h
  | f + 1, i, l, e, hk, h => by
    have h0 := hk 0 (by omega)
    exact mem_sink o i l e h0 (mem_isr o f (i + 1) _ e (fun k hk' => by rw [sink_length]; have := hk (k + 1) (by omega); omega) h)
theorem mem_srt {o : Bool} {l : List E} {e : E} (h : e ∈ srt o l) : e ∈ l := mem_isr o _ _ _ _ (fun k hk => by omega) h
theorem mem_at {l : List E} {a o : Int} {x : St} (h : x ∈ atP l a o) : ∃ e ∈ l, x.entry = e.id := by
  obtain ⟨g, hg, rfl⟩ := List.mem_map.1 h
  exact ⟨g, (List.mem_filter.1 (mem_srt (List.mem_filter.1 hg).1)).1, rfl⟩
/-- The numbers of entries that are small. -/
abbrev okB (e : E) : Prop := (-1000 ≤ e.school ∧ e.school ≤ 1000) ∧ (-1000000000 ≤ e.id ∧ e.id ≤ 1000000000)
abbrev ofS (m : List (Int × E)) (s : Sc.Scl) (st : Int) (A : List St) : Nat × List Ach → AS
  | (k, out) => ⟨[(2, int st), (6, .ptr 0 3 0 0), (11, .ptr 2 1 0 0), (14, .slm {} 3 8 0 out.length), (33, .ro {} 4 (A.map stA)), (34, int A.length), (35, int k)],
      [(0, .row 3 32 [Sc.scA s]), (1, .map m.length (kvM m)), (2, .row 1 73 [.mp 1]), (3, .row 8 aty (out.map achA))], 4⟩
theorem ofNames (m : List (Int × E)) (s : Sc.Scl) (out : List Ach) (ok : Nat → Bool) (h : ok 1 = true) : namesAll ok [(0, .row 3 32 [Sc.scA s]), (1, .map m.length (kvM m)), (2, .row 1 73 [.mp 1]), (3, .row 8 aty (out.map achA))] = true :=
  namesAll.row rfl (namesAll.map (kvM_pure _) (by
    have h2 : namesAll ok [(3, .row 8 aty (out.map achA))] = true := namesAll.row (pure_ach _) rfl
    rw [namesAll, h2]
    simp only [Blk.names, AV.namesL, AV.names, h]; rfl))
theorem filter_map_succ {α β : Type} (p : α → Bool) (g : α → β) {l : List α} {k : Nat} (h : k < l.length) (d : α) : ((l.take (k + 1)).filter p).map g = ((l.take k).filter p).map g ++ if p (l.getD k d) then [g (l.getD k d)] else [] := by
  rw [List.take_succ_eq_append_getElem h, List.filter_append, List.map_append, List.getD_eq_getElem?_getD, List.getElem?_eq_getElem h, List.filter_cons]
  simp only [Option.getD_some]
  split <;> rfl
abbrev st0 : St := ⟨0, 0, 0, false⟩
theorem getD_st {l : List St} {k : Nat} (h : k < l.length) : stA (l.getD k st0) = (l.map stA).getD k (.sc undef) := mapD st0 h
set_option maxHeartbeats 1600000 in
set_option maxRecDepth 100000 in
theorem Of_s (l : List E) (s : Sc.Scl) (st a o : Int) (fl : Fl) (hl : l.length < 40) (hb : ∀ e ∈ l, okB e) : AFun Try.prog 12 0 [.ro fl 15 (l.map en), Sc.scA s, int st, int a, int o] [] (.slm {} 0 8 0 (ofP l s st a o).length) [(0, .row 8 aty ((ofP l s st a o).map achA))] := by
  refine AFun.of_S T_ok mixed Try.func12 rfl (Nat.le_of_ble_eq_true rfl) rfl ?_
  have hA := At_f l a o fl hl
  have hB := Backward_f l fl
  have hkey : ∀ e ∈ l, okI e.id := fun e he => by have := hb e he; omega
  have hbn : ∀ (m : List (Int × E)) (ok : Nat → Bool), ok 0 = true → namesAll ok (bkH m) = true := fun m ok h => namesAll.map (kvM_pure _) (by simp only [namesAll, Blk.names, AV.namesL, AV.names, h]; rfl)
  ((repeat ((conv => whnf); (first | (refine LetN.pre ?_; first | ((conv => arg 1; whnf); refine LetN.mk ?_)) | (refine As.pre ?_; first | refine As.mk rfl ?_) | (refine Ck.pre ?_; first | refine Ck.mk rfl ?_) | (refine LetL.pre ?_; first | refine LetL.mk [_] rfl ?_) | (refine CallN.pre ?_; first | refine CallN.pure hB rfl rfl ?_)))); (try (conv => whnf)))
  refine RfN.iter (r := { v := .tup [], D := [1, 2], δ := [(1, some (.map (mB l).length (kvM (mB l)))), (2, some (.row 1 73 [.mp 1]))] }) [11] (Nat.le_of_ble_eq_true rfl) rfl rfl (by kernel_rfl) (fun lp rc h1 h2 h3 h4 h5 h6 => ?it) rfl ?sol rfl ?rest
  case it =>
    rw [← bk_call]
    refine ACalls.of_fun (fun i => i + 1) (Back1_f l fl (by omega) lp rc (by rw [h1]; rfl) [11] fun j hj => ?_) (CallOk.mk' rfl rfl rfl (hbn _ _ rfl) rfl (hbn _ _ rfl) (haveAll.map (kvM_pure _) rfl ⟨rfl, trivial⟩))
    rw [mB_drop hj]
    have hk1 := keys_M (mB_keys fun e he => hkey e (List.mem_of_mem_drop he)) (hkey _ (getD_memE hj)) (m := mB (l.drop (j + 1)))
    generalize mB (l.drop (j + 1)) = m at hk1 ⊢
    generalize l.getD j e0 = e at hk1 ⊢
    refine yield_of_V T_ok mixed h1 h2 h3 h4 h5 h6 rfl rfl rfl (solidH.map (kvM_solid _) (solidH.row rfl rfl)) rfl ?_
    by_cases h3 : e.kind = 3
    · rw [if_pos h3]
      cases hix : ixM m e.id with
      | none =>
        have hfi := find_none hix
        have hput := kvM_put_none hix
        have hlen : (putM m e).length = m.length + 1 := by rw [put_none hix, List.length_append]; rfl
        ((repeat ((conv => whnf); (first | (refine LetN.pre ?_; first | ((conv => arg 1; whnf); refine LetN.mk ?_)) | (refine As.pre ?_; first | refine As.mk rfl ?_) | (refine Ck.pre ?_; first | refine Ck.mk rfl ?_) | (refine LetL.pre ?_; first | refine LetL.mk [_] rfl ?_)))); (try (conv => whnf)))
        refine ⟨rfl, ?_⟩
        ((repeat ((conv => whnf); (first | (refine LetN.pre ?_; first | ((conv => arg 1; whnf); refine LetN.mk ?_)) | (refine As.pre ?_; first | refine As.mk rfl ?_ | refine As.mk hk1 ?_) | (refine LetV.pre ?_; first | refine LetV.mk (t := 73) (.mp _) rfl ?_ | refine LetV.mk (.sc (.int _ _)) rfl ?_ | refine LetV.mk (.agg _) rfl ?_) | (refine LetB.pre ?_; first | refine LetB.dect (by omega) ?_) | (refine Br.pre ?_; first | refine Br.tt rfl ?_) | (refine Ck.pre ?_; first | refine Ck.mk rfl ?_) | (refine FindN.mk none hfi ?_)))); (try (conv => whnf)))



        exact ⟨rfl, ⟨[], bkH (putM m e), 2⟩, SW.mk id rfl rfl (hbn _ _ rfl) trivial (haveV.map (kvM_pure _) (by rw [hput, hlen]; rfl) (haveV.one rfl trivial)), rfl⟩
      | some i =>
        have hfi := find_some hix
        have hput := kvM_put_some hix
        have hlen : (putM m e).length = m.length := by rw [put_some hix, List.length_set]
        ((repeat ((conv => whnf); (first | (refine LetN.pre ?_; first | ((conv => arg 1; whnf); refine LetN.mk ?_)) | (refine As.pre ?_; first | refine As.mk rfl ?_) | (refine Ck.pre ?_; first | refine Ck.mk rfl ?_) | (refine LetL.pre ?_; first | refine LetL.mk [_] rfl ?_)))); (try (conv => whnf)))
        refine ⟨rfl, ?_⟩
        ((repeat ((conv => whnf); (first | (refine LetN.pre ?_; first | ((conv => arg 1; whnf); refine LetN.mk ?_)) | (refine As.pre ?_; first | refine As.mk rfl ?_ | refine As.mk hk1 ?_) | (refine LetV.pre ?_; first | refine LetV.mk (t := 73) (.mp _) rfl ?_ | refine LetV.mk (.sc (.int _ _)) rfl ?_ | refine LetV.mk (.agg _) rfl ?_) | (refine LetB.pre ?_; first | refine LetB.dect (by omega) ?_) | (refine Br.pre ?_; first | refine Br.tt rfl ?_) | (refine Ck.pre ?_; first | refine Ck.mk rfl ?_) | (refine FindN.mk (some i) hfi ?_)))); (try (conv => whnf)))



        exact ⟨rfl, ⟨[], bkH (putM m e), 2⟩, SW.mk id rfl rfl (hbn _ _ rfl) trivial (haveV.map (kvM_pure _) (by rw [hput, hlen]; rfl) (haveV.one rfl trivial)), rfl⟩
    · rw [if_neg h3]
      ((repeat ((conv => whnf); (first | (refine LetN.pre ?_; first | ((conv => arg 1; whnf); refine LetN.mk ?_)) | (refine As.pre ?_; first | refine As.mk rfl ?_) | (refine Ck.pre ?_; first | refine Ck.mk rfl ?_) | (refine LetL.pre ?_; first | refine LetL.mk [_] rfl ?_)))); (try (conv => whnf)))
      refine ⟨rfl, ?_⟩
      ((repeat ((conv => whnf); (first | (refine As.pre ?_; first | refine As.mk rfl ?_) | (refine LetV.pre ?_; first | refine LetV.mk (.sc (.int _ _)) rfl ?_) | (refine LetB.pre ?_; first | refine LetB.decf (by omega) ?_) | (refine Br.pre ?_; first | refine Br.ff rfl ?_) | (refine Ck.pre ?_; first | refine Ck.mk rfl ?_)))); (try (conv => whnf)))
      exact ⟨rfl, ⟨[], bkH m, 2⟩, SW.mk id rfl rfl (hbn _ _ rfl) trivial (haveV.map (kvM_pure _) rfl (haveV.one rfl trivial)), rfl⟩
  case sol => exact solidH.row rfl (solidH.map (kvM_solid _) (solidH.row rfl rfl))
  case rest =>
    have hgb : ∀ k, okB (gradeM (mB l) k) := fun k => by
      unfold gradeM
      split
      · rename_i i hi
        obtain ⟨e, he⟩ := ix_some hi
        rw [List.getD_eq_getElem?_getD, he]
        obtain ⟨e', he', h⟩ := mem_mB _ (List.mem_of_getElem? he)
        injection h with _ h
        show okB e
        rw [h]; exact hb e' he'
      · exact ⟨⟨by decide, by decide⟩, by decide, by decide⟩
    have hk1 : ∀ {k : Int}, okI k → _ := fun {k} h => keys_M (m := mB l) (mB_keys hkey) (n := k) h
    rw [ofP]
    generalize mB l = m at hgb hk1 ⊢
    ((repeat ((conv => whnf); (first | (refine As.pre ?_; first | refine As.mk rfl ?_) | (refine LetI.pre ?_; first | refine LetI.mk _ rfl ?_) | (refine Ck.pre ?_; first | refine Ck.mk rfl ?_) | (refine CallN.pre ?_; first | refine CallN.pure hA rfl rfl ?_)))); (try (conv => whnf)))
    have hid : ∀ x ∈ atP l a o, okI x.entry := fun x hx => by
      obtain ⟨e, he, h⟩ := mem_at hx
      rw [h]; exact hkey e he
    have hAl : (atP l a o).length < 40 := by
      have h1 : (chos (atR l a o) [cOf 3]).length ≤ _ := List.length_filter_le _ _
      have h2 : (chos l [cCounts a o]).length ≤ _ := List.length_filter_le _ _
      have h3 : (atR l a o).length = _ := srt_length false _
      have h4 : (atP l a o).length = _ := List.length_map _
      omega
    generalize atP l a o = A at hid hAl ⊢
    clear hA hB hkey hb hl
    refine LoopN.weak (s1 := ofS m s st A (0, [])) ?sw1 ?_
    case sw1 => exact SW.mk id rfl rfl (ofNames _ _ _ _ rfl) ⟨.refl _, .refl _, .refl _, VLe2.nilslm, .refl _, VLe2.int (by rw [List.length_map]), .refl _, trivial⟩ (haveV.row rfl rfl (haveV.map (kvM_pure _) rfl (haveV.one rfl (haveV.nil (Nat.le_refl _) trivial))))
    refine LoopN.ind T_ok mixed (S := ofS m s st A) (fun i => A.length - i.1) (fun i => i.1 ≤ A.length ∧ i.2 = ((A.take i.1).filter (keepA m s st)).map fun x => ownA (gradeM m x.entry) x.grade) (fun _ => rfl) (fun i hi ih => ?_) (0, []) ⟨Nat.zero_le _, rfl⟩
    obtain ⟨k, out⟩ := i
    obtain ⟨h1, h2⟩ := hi
    simp only at h1 h2 ih
    by_cases hlt : k < A.length
    case neg =>
      have hk : k = A.length := by omega
      subst hk
      rw [List.take_length] at h2
      rw [← h2]
      clear ih
      ((repeat ((conv => whnf); (first | (refine As.pre ?_; first | refine As.mk rfl ?_) | (refine LetB.pre ?_; first | refine LetB.decf (by omega) ?_) | (refine Br.pre ?_; first | refine Br.ff rfl ?_) | (refine Ck.pre ?_; first | refine Ck.mk rfl ?_)))); (try (conv => whnf)))
      exact ⟨⟨[(10, .slm {} 0 8 0 out.length)], [(0, .row 8 aty (out.map achA))], 4⟩, SW.mk (fun _ => 3) rfl rfl (namesAll.row (pure_ach _) rfl) ⟨.refl _, trivial⟩ (haveV.row (pure_ach _) rfl trivial), .inl rfl, ⟨_, rfl, rfl⟩, rfl, trivial⟩
    have hld := getD_st hlt
    have hq := filter_map_succ (keepA m s st) (fun x => ownA (gradeM m x.entry) x.grade) hlt st0
    rw [← h2] at hq
    have hol : out.length ≤ k := by
      have := List.length_filter_le (keepA m s st) (A.take k)
      rw [h2, List.length_map]
      rw [List.length_take] at this
      omega
    have hxe : okI (A.getD k st0).entry := hid _ (by rw [List.getD_eq_getElem?_getD, List.getElem?_eq_getElem hlt]; exact List.getElem_mem _)
    clear h2
    generalize A.getD k st0 = x at hld hq hxe
    have hk2 := hk1 hxe
    obtain ⟨xe, xb, xg, xv⟩ := x
    have hP := Sc.Passed_f s xg
    cases hix : ixM m xe with
    | none =>
      have hfi := find_none hix
      have hge : gradeM m xe = e0 := by unfold gradeM; rw [hix]
      have heb : okB e0 := ⟨⟨by decide, by decide⟩, by decide, by decide⟩
      cases xv with
      | true =>
        rw [if_neg (by simp [keepA]), List.append_nil] at hq
        ((repeat ((conv => whnf); (first | (refine LetN.pre ?_; first | ((conv => arg 1; whnf); refine LetN.mk ?_)) | (refine As.pre ?_; first | refine As.mk rfl ?_ | refine As.mk hk2 ?_ | (refine As.mk ?_ ?_; · ((repeat' (refine andT ?_ ?_)) <;> (first | rfl | assumption | exact decide_eq_true (by omega) | exact decide_eq_true (by dsimp only; omega) | exact decide_eq_true (by simp; omega) | (simp; done))))) | (refine LetV.pre ?_; first | refine LetV.mk (t := 73) (.mp _) rfl ?_ | refine LetV.mk (t := 77) _ hld ?_ | refine LetV.mk (.sc (.int _ _)) rfl ?_ | refine LetV.mk (.sc (.bool _)) rfl ?_ | refine LetV.mk (.agg _) rfl ?_) | (refine LetI.pre ?_; first | refine LetI.wrap (by omega) (by omega) ?_) | (refine LetB.pre ?_; first | refine LetB.dect (by omega) ?_) | (refine Gd.pre ?_; first | refine Gd.pass rfl ?_) | (refine Br.pre ?_; first | refine Br.tt rfl ?_) | (refine Ck.pre ?_; first | refine Ck.mk rfl ?_) | (refine LetL.pre ?_; first | refine LetL.mk [_] rfl ?_) | (refine FindN.mk none hfi ?_)))); (try (conv => whnf)))




        refine LoopN.weak ?sw2 (ih (k + 1, out) ⟨by omega, hq.symm⟩ (by omega))
        case sw2 => exact SW.mk id rfl rfl (ofNames _ _ _ _ rfl) ⟨.refl _, .refl _, .refl _, .refl _, .refl _, .refl _, VLe2.int (by omega), trivial⟩ (haveV.row rfl rfl (haveV.map (kvM_pure _) rfl (haveV.one rfl (haveV.row (pure_ach _) rfl trivial))))
      | false =>
        by_cases hs : (0 : Int) = st
        case neg =>
          rw [if_neg (by simp [keepA, hge, e0, hs]), List.append_nil] at hq
          ((repeat ((conv => whnf); (first | (refine LetN.pre ?_; first | ((conv => arg 1; whnf); refine LetN.mk ?_)) | (refine As.pre ?_; first | refine As.mk rfl ?_ | refine As.mk hk2 ?_ | (refine As.mk ?_ ?_; · ((repeat' (refine andT ?_ ?_)) <;> (first | rfl | assumption | exact decide_eq_true (by omega) | exact decide_eq_true (by dsimp only; omega) | exact decide_eq_true (by simp; omega) | (simp; done))))) | (refine LetV.pre ?_; first | refine LetV.mk (t := 73) (.mp _) rfl ?_ | refine LetV.mk (t := 77) _ hld ?_ | refine LetV.mk (.sc (.int _ _)) rfl ?_ | refine LetV.mk (.sc (.bool _)) rfl ?_ | refine LetV.mk (.agg _) rfl ?_) | (refine LetI.pre ?_; first | refine LetI.wrap (by omega) (by omega) ?_) | (refine LetB.pre ?_; first | refine LetB.dect (by omega) ?_ | refine LetB.bnet (by omega) ?_) | (refine Gd.pre ?_; first | refine Gd.run rfl ?_ | refine Gd.pass rfl ?_) | (refine Br.pre ?_; first | refine Br.tt rfl ?_) | (refine Ck.pre ?_; first | refine Ck.mk rfl ?_) | (refine LetL.pre ?_; first | refine LetL.mk [_] rfl ?_) | (refine FindN.mk none hfi ?_)))); (try (conv => whnf)))




          refine LoopN.weak ?sw3 (ih (k + 1, out) ⟨by omega, hq.symm⟩ (by omega))
          case sw3 => exact SW.mk id rfl rfl (ofNames _ _ _ _ rfl) ⟨.refl _, .refl _, .refl _, .refl _, .refl _, .refl _, VLe2.int (by omega), trivial⟩ (haveV.row rfl rfl (haveV.map (kvM_pure _) rfl (haveV.one rfl (haveV.row (pure_ach _) rfl trivial))))
        case pos =>
          by_cases hp : Sc.rea s xg s.2.2
          case neg =>
            rw [if_neg (by simp [keepA, hge, e0, hs, hp]), List.append_nil] at hq
            ((repeat ((conv => whnf); (first | (refine LetN.pre ?_; first | ((conv => arg 1; whnf); refine LetN.mk ?_)) | (refine As.pre ?_; first | refine As.mk rfl ?_ | refine As.mk hk2 ?_ | (refine As.mk ?_ ?_; · ((repeat' (refine andT ?_ ?_)) <;> (first | rfl | assumption | exact decide_eq_true (by omega) | exact decide_eq_true (by dsimp only; omega) | exact decide_eq_true (by simp; omega) | (simp; done))))) | (refine LetV.pre ?_; first | refine LetV.mk (t := 73) (.mp _) rfl ?_ | refine LetV.mk (t := 77) _ hld ?_ | refine LetV.mk (.sc (.int _ _)) rfl ?_ | refine LetV.mk (.sc (.bool _)) rfl ?_ | refine LetV.mk (.agg _) rfl ?_) | (refine LetI.pre ?_; first | refine LetI.wrap (by omega) (by omega) ?_) | (refine LetB.pre ?_; first | refine LetB.dect (by omega) ?_ | refine LetB.bnef (by omega) ?_) | (refine Gd.pre ?_; first | refine Gd.run rfl ?_) | (refine Br.pre ?_; first | refine Br.tt rfl ?_) | (refine Ck.pre ?_; first | refine Ck.mk rfl ?_) | (refine LetL.pre ?_; first | refine LetL.mk [_] rfl ?_) | (refine CallN.pre ?_; first | refine CallN.dec hP rfl (fun h => absurd h hp) (fun _ => ?_)) | (refine FindN.mk none hfi ?_)))); (try (conv => whnf)))





            refine LoopN.weak ?sw4 (ih (k + 1, out) ⟨by omega, hq.symm⟩ (by omega))
            case sw4 => exact SW.mk id rfl rfl (ofNames _ _ _ _ rfl) ⟨.refl _, .refl _, .refl _, .refl _, .refl _, .refl _, VLe2.int (by omega), trivial⟩ (haveV.row rfl rfl (haveV.map (kvM_pure _) rfl (haveV.one rfl (haveV.row (pure_ach _) rfl trivial))))
          case pos =>
            rw [if_pos (by simp [keepA, hge, e0, hs, hp])] at hq
            have hr := room_ach (n := out.length + 1) (by omega)
            have hol2 : (out.map achA).length = out.length := List.length_map _
            ((repeat ((conv => whnf); (first | (refine LetN.pre ?_; first | ((conv => arg 1; whnf); refine LetN.mk ?_)) | (refine As.pre ?_; first | refine As.mk rfl ?_ | refine As.mk hk2 ?_ | (refine As.mk ?_ ?_; · ((repeat' (refine andT ?_ ?_)) <;> (first | rfl | assumption | exact decide_eq_true (by omega) | exact decide_eq_true (by dsimp only; omega) | exact decide_eq_true (by simp; omega) | (simp; done))))) | (refine LetV.pre ?_; first | refine LetV.mk (t := 73) (.mp _) rfl ?_ | refine LetV.mk (t := 77) _ hld ?_ | refine LetV.mk (.sc (.int _ _)) rfl ?_ | refine LetV.mk (.sc (.bool _)) rfl ?_ | refine LetV.mk (.sc _) rfl ?_ | refine LetV.mk (.agg _) rfl ?_) | (refine LetI.pre ?_; first | refine LetI.wrap (by omega) (by omega) ?_) | (refine LetB.pre ?_; first | refine LetB.dect (by omega) ?_ | refine LetB.bnef (by omega) ?_) | (refine Gd.pre ?_; first | refine Gd.run rfl ?_) | (refine Br.pre ?_; first | refine Br.tt rfl ?_ | refine Br.ff rfl ?_) | (refine Ck.pre ?_; first | refine Ck.mk rfl ?_) | (refine LetL.pre ?_; first | refine LetL.mk (ty := aty) _ (app_ach out (ownA e0 xg) _ rfl) ?_ | refine LetL.mk [_] rfl ?_) | (refine CallN.pre ?_; first | refine CallN.dec hP rfl (fun _ => ?_) (fun h => absurd hp h)) | (refine FindN.mk none hfi ?_)))); (try (conv => whnf)))






            refine LoopN.weak ?swk1 (ih (k + 1, out ++ [ownA e0 xg]) ⟨by omega, by rw [hq, hge]⟩ (by omega))
            case swk1 => exact SW.mk (fun i => if i = 3 then 6 else i) rfl rfl (ofNames _ _ _ _ rfl) ⟨.refl _, .refl _, .refl _, VLe2.slm_of (by simp), .refl _, .refl _, VLe2.int (by omega), trivial⟩ (haveV.row rfl rfl (haveV.map (kvM_pure _) rfl (haveV.one rfl (haveV.row (pure_ach _) rfl trivial))))
    | some i =>
      have hfi := find_some hix
      obtain ⟨e, he⟩ := ix_some hix
      have hge : gradeM m xe = e := by unfold gradeM; rw [hix]; show (m.getD i (0, e0)).2 = e; rw [List.getD_eq_getElem?_getD, he]; rfl
      have heb : okB e := hge ▸ hgb xe
      have hv : en e = kvAt (kvM m) i := by unfold kvAt; rw [List.getD_eq_getElem?_getD, List.getElem?_map, he]; rfl
      cases xv with
      | true =>
        rw [if_neg (by simp [keepA]), List.append_nil] at hq
        ((repeat ((conv => whnf); (first | (refine LetN.pre ?_; first | ((conv => arg 1; whnf); refine LetN.mk ?_)) | (refine As.pre ?_; first | refine As.mk rfl ?_ | refine As.mk hk2 ?_ | (refine As.mk ?_ ?_; · ((repeat' (refine andT ?_ ?_)) <;> (first | rfl | assumption | exact decide_eq_true (by omega) | exact decide_eq_true (by dsimp only; omega) | exact decide_eq_true (by simp; omega) | (simp; done))))) | (refine LetV.pre ?_; first | refine LetV.mk (t := 73) (.mp _) rfl ?_ | refine LetV.mk (t := 73) (en e) hv ?_ | refine LetV.mk (t := 77) _ hld ?_ | refine LetV.mk (.sc (.int _ _)) rfl ?_ | refine LetV.mk (.sc (.bool _)) rfl ?_ | refine LetV.mk (.agg _) rfl ?_) | (refine LetI.pre ?_; first | refine LetI.wrap (by omega) (by omega) ?_) | (refine LetB.pre ?_; first | refine LetB.dect (by omega) ?_) | (refine Gd.pre ?_; first | refine Gd.pass rfl ?_) | (refine Br.pre ?_; first | refine Br.tt rfl ?_) | (refine Ck.pre ?_; first | refine Ck.mk rfl ?_) | (refine LetL.pre ?_; first | refine LetL.mk [_] rfl ?_) | (refine FindN.mk (some i) hfi ?_)))); (try (conv => whnf)))





        refine LoopN.weak ?sw5 (ih (k + 1, out) ⟨by omega, hq.symm⟩ (by omega))
        case sw5 => exact SW.mk id rfl rfl (ofNames _ _ _ _ rfl) ⟨.refl _, .refl _, .refl _, .refl _, .refl _, .refl _, VLe2.int (by omega), trivial⟩ (haveV.row rfl rfl (haveV.map (kvM_pure _) rfl (haveV.one rfl (haveV.row (pure_ach _) rfl trivial))))
      | false =>
        by_cases hs : e.student = st
        case neg =>
          rw [if_neg (by simp [keepA, hge, hs]), List.append_nil] at hq
          ((repeat ((conv => whnf); (first | (refine LetN.pre ?_; first | ((conv => arg 1; whnf); refine LetN.mk ?_)) | (refine As.pre ?_; first | refine As.mk rfl ?_ | refine As.mk hk2 ?_ | (refine As.mk ?_ ?_; · ((repeat' (refine andT ?_ ?_)) <;> (first | rfl | assumption | exact decide_eq_true (by omega) | exact decide_eq_true (by dsimp only; omega) | exact decide_eq_true (by simp; omega) | (simp; done))))) | (refine LetV.pre ?_; first | refine LetV.mk (t := 73) (.mp _) rfl ?_ | refine LetV.mk (t := 73) (en e) hv ?_ | refine LetV.mk (t := 77) _ hld ?_ | refine LetV.mk (.sc (.int _ _)) rfl ?_ | refine LetV.mk (.sc (.bool _)) rfl ?_ | refine LetV.mk (.agg _) rfl ?_) | (refine LetI.pre ?_; first | refine LetI.wrap (by omega) (by omega) ?_) | (refine LetB.pre ?_; first | refine LetB.dect (by omega) ?_ | refine LetB.bnet (by omega) ?_) | (refine Gd.pre ?_; first | refine Gd.run rfl ?_ | refine Gd.pass rfl ?_) | (refine Br.pre ?_; first | refine Br.tt rfl ?_) | (refine Ck.pre ?_; first | refine Ck.mk rfl ?_) | (refine LetL.pre ?_; first | refine LetL.mk [_] rfl ?_) | (refine FindN.mk (some i) hfi ?_)))); (try (conv => whnf)))





          refine LoopN.weak ?sw6 (ih (k + 1, out) ⟨by omega, hq.symm⟩ (by omega))
          case sw6 => exact SW.mk id rfl rfl (ofNames _ _ _ _ rfl) ⟨.refl _, .refl _, .refl _, .refl _, .refl _, .refl _, VLe2.int (by omega), trivial⟩ (haveV.row rfl rfl (haveV.map (kvM_pure _) rfl (haveV.one rfl (haveV.row (pure_ach _) rfl trivial))))
        case pos =>
          by_cases hp : Sc.rea s xg s.2.2
          case neg =>
            rw [if_neg (by simp [keepA, hge, hs, hp]), List.append_nil] at hq
            ((repeat ((conv => whnf); (first | (refine LetN.pre ?_; first | ((conv => arg 1; whnf); refine LetN.mk ?_)) | (refine As.pre ?_; first | refine As.mk rfl ?_ | refine As.mk hk2 ?_ | (refine As.mk ?_ ?_; · ((repeat' (refine andT ?_ ?_)) <;> (first | rfl | assumption | exact decide_eq_true (by omega) | exact decide_eq_true (by dsimp only; omega) | exact decide_eq_true (by simp; omega) | (simp; done))))) | (refine LetV.pre ?_; first | refine LetV.mk (t := 73) (.mp _) rfl ?_ | refine LetV.mk (t := 73) (en e) hv ?_ | refine LetV.mk (t := 77) _ hld ?_ | refine LetV.mk (.sc (.int _ _)) rfl ?_ | refine LetV.mk (.sc (.bool _)) rfl ?_ | refine LetV.mk (.agg _) rfl ?_) | (refine LetI.pre ?_; first | refine LetI.wrap (by omega) (by omega) ?_) | (refine LetB.pre ?_; first | refine LetB.dect (by omega) ?_ | refine LetB.bnef (by omega) ?_) | (refine Gd.pre ?_; first | refine Gd.run rfl ?_) | (refine Br.pre ?_; first | refine Br.tt rfl ?_) | (refine Ck.pre ?_; first | refine Ck.mk rfl ?_) | (refine LetL.pre ?_; first | refine LetL.mk [_] rfl ?_) | (refine CallN.pre ?_; first | refine CallN.dec hP rfl (fun h => absurd h hp) (fun _ => ?_)) | (refine FindN.mk (some i) hfi ?_)))); (try (conv => whnf)))






            refine LoopN.weak ?sw7 (ih (k + 1, out) ⟨by omega, hq.symm⟩ (by omega))
            case sw7 => exact SW.mk id rfl rfl (ofNames _ _ _ _ rfl) ⟨.refl _, .refl _, .refl _, .refl _, .refl _, .refl _, VLe2.int (by omega), trivial⟩ (haveV.row rfl rfl (haveV.map (kvM_pure _) rfl (haveV.one rfl (haveV.row (pure_ach _) rfl trivial))))
          case pos =>
            rw [if_pos (by simp [keepA, hge, hs, hp])] at hq
            have hr := room_ach (n := out.length + 1) (by omega)
            have hol2 : (out.map achA).length = out.length := List.length_map _
            ((repeat ((conv => whnf); (first | (refine LetN.pre ?_; first | ((conv => arg 1; whnf); refine LetN.mk ?_)) | (refine As.pre ?_; first | refine As.mk rfl ?_ | refine As.mk hk2 ?_ | (refine As.mk ?_ ?_; · ((repeat' (refine andT ?_ ?_)) <;> (first | rfl | assumption | exact decide_eq_true (by omega) | exact decide_eq_true (by dsimp only; omega) | exact decide_eq_true (by simp; omega) | (simp; done))))) | (refine LetV.pre ?_; first | refine LetV.mk (t := 73) (.mp _) rfl ?_ | refine LetV.mk (t := 73) (en e) hv ?_ | refine LetV.mk (t := 77) _ hld ?_ | refine LetV.mk (.sc (.int _ _)) rfl ?_ | refine LetV.mk (.sc (.bool _)) rfl ?_ | refine LetV.mk (.sc _) rfl ?_ | refine LetV.mk (.agg _) rfl ?_) | (refine LetI.pre ?_; first | refine LetI.wrap (by omega) (by omega) ?_) | (refine LetB.pre ?_; first | refine LetB.dect (by omega) ?_ | refine LetB.bnef (by omega) ?_) | (refine Gd.pre ?_; first | refine Gd.run rfl ?_) | (refine Br.pre ?_; first | refine Br.tt rfl ?_ | refine Br.ff rfl ?_) | (refine Ck.pre ?_; first | refine Ck.mk rfl ?_) | (refine LetL.pre ?_; first | refine LetL.mk (ty := aty) _ (app_ach out (ownA e xg) _ rfl) ?_ | refine LetL.mk [_] rfl ?_) | (refine CallN.pre ?_; first | refine CallN.dec hP rfl (fun _ => ?_) (fun h => absurd hp h)) | (refine FindN.mk (some i) hfi ?_)))); (try (conv => whnf)))







            refine LoopN.weak ?swk2 (ih (k + 1, out ++ [ownA e xg]) ⟨by omega, by rw [hq, hge]⟩ (by omega))
            case swk2 => exact SW.mk (fun i => if i = 3 then 6 else i) rfl rfl (ofNames _ _ _ _ rfl) ⟨.refl _, .refl _, .refl _, VLe2.slm_of (by simp), .refl _, .refl _, VLe2.int (by omega), trivial⟩ (haveV.row rfl rfl (haveV.map (kvM_pure _) rfl (haveV.one rfl (haveV.row (pure_ach _) rfl trivial))))
theorem Of_f (l : List E) (s : Sc.Scl) (st a o : Int) (fl : Fl) (hl : l.length < 40) (hb : ∀ e ∈ l, okB e) : AFun Try.prog 12 0 [.ro fl 15 (l.map en), Sc.scA s, int st, int a, int o] [] (.ro {} 8 ((ofP l s st a o).map achA)) [] :=
  AFun.frz1 (H := []) (Of_s l s st a o fl hl hb) rfl (pure_ach _) (by simp)
end En
end Go.Proofs.Ytiefcppgbnfbfaa
namespace Go.Proofs.Ytiefcppgbnfbfaa
open Go.Proofs.Ytiefcppgbnfbfaa.Am
set_option maxRecDepth 100000
namespace En
/-! ### What every law asks first -/
abbrev ex1 : E := ⟨1, 2, 7, 3, 100, 100, ⟨#[65, 49]⟩, 5, 2, 0, 0, 0, 0, 0, ⟨#[]⟩⟩
abbrev ex2 : E := ⟨2, 2, 7, 3, 100, 100, ⟨#[66, 49]⟩, 5, 4, 0, 0, 0, 0, 0, ⟨#[]⟩⟩
abbrev ex3 : E := ⟨3, 2, 7, 3, 100, 100, ⟨#[66, 50]⟩, 10, 3, 0, 0, 0, 0, 0, ⟨#[]⟩⟩
abbrev ex4 : E := ⟨4, 2, 7, 4, 150, 100, ⟨#[]⟩, 0, 3, 2, 0, 0, 0, 0, ⟨#[]⟩⟩
abbrev ex5 : E := ⟨5, 2, 7, 5, 160, 160, ⟨#[]⟩, 0, 0, 3, 0, 0, 0, 0, ⟨#[]⟩⟩
abbrev exl : List E := [ex1, ex2, ex3, ex4, ex5]
theorem example1_f (i k d o : Int) : AFun Try.prog 58 0 [int i, int k, int d, int o] [] (en ⟨i, 2, 7, k, d, o, ⟨#[]⟩, 0, 0, 0, 0, 0, 0, 0, ⟨#[]⟩⟩) [] := by
  refine AFun.of_W T_ok mixed Try.func58 rfl (Nat.le_of_ble_eq_true rfl) rfl ?_
  ((repeat ((conv => whnf); (first | (refine LetN.pre ?_; first | ((conv => arg 1; whnf); refine LetN.mk ?_)) | (refine As.pre ?_; first | refine As.mk rfl ?_) | (refine Ck.pre ?_; first | refine Ck.mk rfl ?_) | (refine LetL.pre ?_; first | refine LetL.mk [_] rfl ?_)))); (try (conv => whnf)))
  exact ⟨.inl rfl, ⟨_, rfl, rfl⟩, trivial⟩
set_option maxRecDepth 100000 in
theorem example_s : AFun Try.prog 33 0 [] [] (.slm ⟨false, true⟩ 0 15 0 5) [(0, .row 15 ety (exl.map en))] := by
  refine AFun.of_S T_ok mixed Try.func33 rfl (Nat.le_of_ble_eq_true rfl) rfl ?_
  ((repeat ((conv => whnf); (first | (refine LetN.pre ?_; first | ((conv => arg 1; whnf); refine LetN.mk ?_)) | (refine As.pre ?_; first | refine As.mk rfl ?_) | (refine Ck.pre ?_; first | refine Ck.mk rfl ?_) | (refine LetL.pre ?_; first | refine LetL.mk _ rfl ?_) | (refine CallN.pre ?_; first | refine CallN.pure (example1_f _ _ _ _) rfl rfl ?_)))); (try (conv => whnf)))
  exact ⟨⟨[(0, .slm ⟨false, true⟩ 0 15 0 5)], [(0, .row 15 ety (exl.map en))], 1⟩, SW.mk id rfl rfl rfl ⟨.refl _, trivial⟩ (haveV.one rfl trivial), .inl rfl, ⟨_, rfl, rfl⟩, rfl, trivial⟩
theorem example_f : AFun Try.prog 33 0 [] [] (.ro ⟨false, true⟩ 15 (exl.map en)) [] := AFun.frz1 (H := []) example_s rfl (pure_en _) rfl
abbrev sc5 : Sc.Scl := (5, 1, 3)
abbrev acA1 : Ach := ⟨2, ⟨#[65, 49]⟩, 5, 2, 100, (⟨true, true⟩, [2000001]), 0, none⟩
abbrev acB1 : Ach := ⟨2, ⟨#[66, 49]⟩, 5, 3, 100, (⟨true, true⟩, [2000002]), 0, none⟩
abbrev acB2 : Ach := ⟨2, ⟨#[66, 50]⟩, 10, 3, 100, (⟨true, true⟩, [2000003]), 0, none⟩
theorem exl_ok : ∀ e ∈ exl, okB e := by
  intro e he
  simp only [exl, List.mem_cons, List.not_mem_nil, or_false] at he
  rcases he with rfl | rfl | rfl | rfl | rfl <;> exact ⟨⟨by decide, by decide⟩, by decide, by decide⟩
theorem of1 : (ofP exl sc5 7 100 100).map achA = [achA acA1, achA acB2] := by kernel_rfl
theorem of2 : (ofP exl sc5 7 150 100).map achA = [achA acA1, achA acB1, achA acB2] := by kernel_rfl
theorem of3 : (ofP exl sc5 7 160 160).map achA = [achA acA1, achA acB1] := by kernel_rfl
theorem of4 : (ofP exl sc5 7 160 159).map achA = [achA acA1, achA acB1, achA acB2] := by kernel_rfl
theorem of5 : (ofP exl sc5 8 160 160).map achA = [] := by kernel_rfl
theorem exO (st a o : Int) {L : List AV} (h : (ofP exl sc5 st a o).map achA = L) : AFun Try.prog 12 0 [.ro ⟨false, true⟩ 15 (exl.map en), Sc.scA sc5, int st, int a, int o] [] (.ro {} 8 L) [] := h ▸ Of_f exl sc5 st a o ⟨false, true⟩ (Nat.le_of_ble_eq_true rfl) exl_ok
abbrev sA1 : AV := str ⟨#[65, 49]⟩
abbrev sB1 : AV := str ⟨#[66, 49]⟩
abbrev sB2 : AV := str ⟨#[66, 50]⟩
theorem cd1 : AFun Try.prog 34 0 [.ro {} 8 [achA acA1, achA acB2], .ro ⟨true, true⟩ 1 [sA1, sB2]] [] (bool true) [] := AFun.of_calls (evF_sound T_ok mixed 20 _ _ [] 0 _ (by kernel_rfl))
theorem cd2 : AFun Try.prog 34 0 [.ro {} 8 [achA acA1, achA acB1, achA acB2], .ro ⟨true, true⟩ 1 [sA1, sB1, sB2]] [] (bool true) [] := AFun.of_calls (evF_sound T_ok mixed 20 _ _ [] 0 _ (by kernel_rfl))
theorem cd3 : AFun Try.prog 34 0 [.ro {} 8 [achA acA1, achA acB1], .ro ⟨true, true⟩ 1 [sA1, sB1]] [] (bool true) [] := AFun.of_calls (evF_sound T_ok mixed 20 _ _ [] 0 _ (by kernel_rfl))
theorem cd4 : AFun Try.prog 34 0 [.ro {} 8 [], .sc (.slice none 0 0)] [] (bool true) [] := AFun.of_calls (evF_sound T_ok mixed 20 _ _ [] 0 _ (by kernel_rfl))
theorem mean1 : AFun Try.prog 14 0 [.ro {} 8 [achA acA1, achA acB2]] [] (.tup [.agg [int 8, int 3], bool true]) [] := AFun.of_calls (evF_sound T_ok mixed 60 _ _ [] 0 _ (by kernel_rfl))
theorem cred1 : AFun Try.prog 17 0 [.ro {} 8 [achA acA1, achA acB2]] [] (int 15) [] := AFun.of_calls (evF_sound T_ok mixed 20 _ _ [] 0 _ (by kernel_rfl))
theorem ap1 : AFun Try.prog 20 0 [achA acA1, achA acA1] [] (bool false) [] := AFun.of_calls (evF_sound T_ok mixed 20 _ _ [] 0 _ (by kernel_rfl))
abbrev acX : Ach := ⟨1, ⟨#[65, 49]⟩, 0, 0, 0, (⟨true, true⟩, [5]), 0, none⟩
abbrev acY : Ach := ⟨1, ⟨#[66, 49]⟩, 0, 0, 0, (⟨true, true⟩, [5]), 0, none⟩
abbrev acX2 : Ach := ⟨1, ⟨#[65, 49]⟩, 0, 0, 0, (⟨true, true⟩, [5]), 2, some (⟨true, true⟩, [9])⟩
abbrev acY2 : Ach := ⟨1, ⟨#[66, 49]⟩, 0, 0, 0, (⟨true, true⟩, [5]), 2, some (⟨true, true⟩, [9])⟩
theorem ap2 : AFun Try.prog 20 0 [achA acX, achA acY] [] (bool false) [] := AFun.of_calls (evF_sound T_ok mixed 40 _ _ [] 0 _ (by kernel_rfl))
theorem ap3 : AFun Try.prog 20 0 [achA acX2, achA acY2] [] (bool true) [] := AFun.of_calls (evF_sound T_ok mixed 40 _ _ [] 0 _ (by kernel_rfl))
theorem fr1 : AFun Try.prog 21 0 [.ro {} 8 [achA acA1, achA acB2]] [] (bool true) [] := AFun.of_calls (evF_sound T_ok mixed 40 _ _ [] 0 _ (by kernel_rfl))
theorem fr2 : AFun Try.prog 21 0 [.ro ⟨true, true⟩ 8 [achA acX, achA acY]] [] (bool false) [] := AFun.of_calls (evF_sound T_ok mixed 40 _ _ [] 0 _ (by kernel_rfl))
set_option maxHeartbeats 1600000 in
set_option maxRecDepth 100000 in
theorem sanity_f : AFun Try.prog 9 0 [] [] (bool true) [] := by
  refine AFun.of_W T_ok mixed Try.func9 rfl (Nat.le_of_ble_eq_true rfl) rfl ?_
  ((repeat ((conv => whnf); (first | (refine LetN.pre ?_; first | ((conv => arg 1; whnf); refine LetN.mk ?_)) | (refine As.pre ?_; first | refine As.mk rfl ?_) | (refine LetV.pre ?_; first | refine LetV.mk (.sc (.int _ _)) rfl ?_ | refine LetV.mk (.agg _) rfl ?_ | refine LetV.mk (.ro _ _ _) rfl ?_) | (refine LetI.pre ?_; first | refine LetI.mk _ rfl ?_) | (refine LetB.pre ?_; first | refine LetB.tt rfl ?_ | refine LetB.ff rfl ?_) | (refine Gd.pre ?_; first | refine Gd.run rfl ?_) | (refine Br.pre ?_; first | refine Br.ff rfl ?_) | (refine Ck.pre ?_; first | refine Ck.drawn (by kernel_rfl) ?_ | refine Ck.mk rfl ?_) | (refine LetL.pre ?_; first | refine LetL.mk [_] rfl ?_) | (refine CallN.pre ?_; first | refine CallN.pure example_f rfl rfl ?_ | refine CallN.pure (exO 7 100 100 of1) rfl rfl ?_ | refine CallN.pure (exO 7 150 100 of2) rfl rfl ?_ | refine CallN.pure (exO 7 160 160 of3) rfl rfl ?_ | refine CallN.pure (exO 7 160 159 of4) rfl rfl ?_ | refine CallN.pure (exO 8 160 160 of5) rfl rfl ?_ | refine CallN.pure cd1 rfl rfl ?_ | refine CallN.pure cd2 rfl rfl ?_ | refine CallN.pure cd3 rfl rfl ?_ | refine CallN.pure cd4 rfl rfl ?_ | refine CallN.pure mean1 rfl rfl ?_ | refine CallN.pure cred1 rfl rfl ?_ | refine CallN.pure ap1 rfl rfl ?_ | refine CallN.pure ap2 rfl rfl ?_ | refine CallN.pure ap3 rfl rfl ?_ | refine CallN.pure fr1 rfl rfl ?_ | refine CallN.pure fr2 rfl rfl ?_)))); (try (conv => whnf)))

















  exact ⟨.inl rfl, ⟨_, rfl, rfl⟩, trivial⟩
end En
end Go.Proofs.Ytiefcppgbnfbfaa
namespace Go.Proofs.Ytiefcppgbnfbfaa
open Go.Proofs.Ytiefcppgbnfbfaa.Am
set_option maxRecDepth 100000
namespace En
/-! ### Lists of numbers -/
abbrev ro1 (fl : Fl) (xs : List Int) : AV := .ro fl 1 (xs.map int)
theorem drop_eq {xs ys : List Int} {k : Nat} (h1 : k < xs.length) (h2 : k < ys.length) : xs.drop k = ys.drop k ↔ xs.getD k 0 = ys.getD k 0 ∧ xs.drop (k + 1) = ys.drop (k + 1) := by
  rw [List.drop_eq_getElem_cons h1, List.drop_eq_getElem_cons h2, List.getD_eq_getElem?_getD, List.getD_eq_getElem?_getD, List.getElem?_eq_getElem h1, List.getElem?_eq_getElem h2]
  rw [List.cons.injEq]; exact Iff.rfl
theorem getD_int {xs : List Int} {k : Nat} (h : k < xs.length) : int (xs.getD k 0) = (xs.map int).getD k (.sc undef) := mapD 0 h
set_option maxRecDepth 100000 in
theorem Equal_f (xs ys : List Int) (fl fl' : Fl) (hx : xs.length ≤ 1000) (hy : ys.length ≤ 1000) : AFun Try.prog 48 0 [ro1 fl xs, ro1 fl' ys] [] (bool (decide (xs = ys))) [] := by
  refine AFun.of_W T_ok mixed Try.func48 rfl (Nat.le_of_ble_eq_true rfl) rfl ?_
  have hmx : (xs.map int).length = xs.length := List.length_map _
  have hmy : (ys.map int).length = ys.length := List.length_map _
  by_cases hl : xs.length = ys.length
  case neg =>
    have hr : decide (xs = ys) = false := decide_eq_false fun h => hl (by rw [h])
    rw [hr]
    ((repeat ((conv => whnf); (first | (refine As.pre ?_; first | refine As.mk rfl ?_) | (refine LetI.pre ?_; first | refine LetI.mk _ rfl ?_) | (refine LetB.pre ?_; first | refine LetB.bnet (by omega) ?_) | (refine Br.pre ?_; first | refine Br.tt rfl ?_) | (refine Ck.pre ?_; first | refine Ck.mk rfl ?_)))); (try (conv => whnf)))
    exact ⟨.inl rfl, ⟨_, rfl, rfl⟩, trivial⟩
  ((repeat ((conv => whnf); (first | (refine As.pre ?_; first | refine As.mk rfl ?_) | (refine LetI.pre ?_; first | refine LetI.mk _ rfl ?_) | (refine LetB.pre ?_; first | refine LetB.bnef (by omega) ?_) | (refine Br.pre ?_; first | refine Br.ff rfl ?_) | (refine Ck.pre ?_; first | refine Ck.mk rfl ?_)))); (try (conv => whnf)))
  refine LoopN.weak (s1 := ⟨[(0, ro1 fl xs), (1, ro1 fl' ys), (12, int xs.length), (13, int (0 : Nat))], [], 0⟩) (SW.fr0 (Nat.le_refl _) rfl ⟨.refl _, .refl _, VLe2.int (by rw [List.length_map]), .refl _, trivial⟩) ?_
  refine LoopN.ind T_ok mixed (S := fun k : Nat => ⟨[(0, ro1 fl xs), (1, ro1 fl' ys), (12, int xs.length), (13, int k)], [], 0⟩) (fun k => xs.length - k) (fun k => k ≤ xs.length ∧ decide (xs = ys) = decide (xs.drop k = ys.drop k)) (fun _ => rfl) (fun k hk ih => ?_) 0 ⟨Nat.zero_le _, rfl⟩
  obtain ⟨h1, h2⟩ := hk
  by_cases hlt : k < xs.length
  case neg =>
    rw [List.drop_eq_nil_of_le (by omega), List.drop_eq_nil_of_le (by omega)] at h2
    rw [h2]
    clear ih
    ((repeat ((conv => whnf); (first | (refine As.pre ?_; first | refine As.mk rfl ?_) | (refine LetB.pre ?_; first | refine LetB.decf (by omega) ?_) | (refine Br.pre ?_; first | refine Br.ff rfl ?_) | (refine Ck.pre ?_; first | refine Ck.mk rfl ?_)))); (try (conv => whnf)))
    exact ⟨.inl rfl, ⟨_, rfl, rfl⟩, trivial⟩
  case pos =>
    have hlx := getD_int hlt
    have hly := getD_int (xs := ys) (k := k) (by omega)
    have hd := drop_eq hlt (show k < ys.length by omega)
    generalize xs.getD k 0 = x at hlx hd
    generalize ys.getD k 0 = y at hly hd
    by_cases hxy : x = y
    · have h3 : decide (xs = ys) = decide (xs.drop (k + 1) = ys.drop (k + 1)) := by rw [h2]; exact decide_eq_decide.2 (hd.trans ⟨fun h => h.2, fun h => ⟨hxy, h⟩⟩)
      clear h2 hd
      ((repeat ((conv => whnf); (first | (refine As.pre ?_; first | refine As.mk rfl ?_ | (refine As.mk ?_ ?_; · ((repeat' (refine andT ?_ ?_)) <;> (first | rfl | assumption | exact decide_eq_true (by omega) | exact decide_eq_true (by dsimp only; omega) | exact decide_eq_true (by simp; omega) | (simp; done))))) | (refine LetV.pre ?_; first | refine LetV.mk (t := 22) _ hlx ?_ | refine LetV.mk (t := 22) _ hly ?_ | refine LetV.mk (.sc (.int _ _)) rfl ?_) | (refine LetI.pre ?_; first | refine LetI.wrap (by omega) (by omega) ?_) | (refine LetB.pre ?_; first | refine LetB.dect (by omega) ?_ | refine LetB.bnef (by omega) ?_) | (refine Br.pre ?_; first | refine Br.tt rfl ?_ | refine Br.ff rfl ?_) | (refine Ck.pre ?_; first | refine Ck.drawn (by kernel_rfl) ?_ | refine Ck.mk rfl ?_)))); (try (conv => whnf)))
      refine LoopN.weak ?_ (ih (k + 1) ⟨by omega, h3⟩ (by omega))
      exact SW.fr0 (Nat.le_refl _) rfl ⟨.refl _, .refl _, .refl _, VLe2.int (by omega), trivial⟩
    · have h3 : decide (xs = ys) = false := by rw [h2]; exact decide_eq_false fun h => hxy (hd.1 h).1
      rw [h3]
      clear ih h2 hd
      ((repeat ((conv => whnf); (first | (refine As.pre ?_; first | refine As.mk rfl ?_ | (refine As.mk ?_ ?_; · ((repeat' (refine andT ?_ ?_)) <;> (first | rfl | assumption | exact decide_eq_true (by omega) | exact decide_eq_true (by dsimp only; omega) | exact decide_eq_true (by simp; omega) | (simp; done))))) | (refine LetV.pre ?_; first | refine LetV.mk (t := 22) _ hlx ?_ | refine LetV.mk (t := 22) _ hly ?_ | refine LetV.mk (.sc (.int _ _)) rfl ?_) | (refine LetB.pre ?_; first | refine LetB.dect (by omega) ?_ | refine LetB.bnet (by omega) ?_) | (refine Br.pre ?_; first | refine Br.tt rfl ?_) | (refine Ck.pre ?_; first | refine Ck.drawn (by kernel_rfl) ?_ | refine Ck.mk rfl ?_)))); (try (conv => whnf)))
      exact ⟨.inl rfl, ⟨_, rfl, rfl⟩, trivial⟩
set_option maxRecDepth 100000 in
theorem SameInts_f (xs ys : List Int) (fl fl' : Fl) (hx : xs.length ≤ 1000) (hy : ys.length ≤ 1000) : AFun Try.prog 55 0 [ro1 fl xs, ro1 fl' ys] [] (bool (decide (xs = ys))) [] := by
  refine AFun.of_W T_ok mixed Try.func55 rfl (Nat.le_of_ble_eq_true rfl) rfl ?_
  have hmx : (xs.map int).length = xs.length := List.length_map _
  have hmy : (ys.map int).length = ys.length := List.length_map _
  by_cases hl : xs.length = ys.length
  case neg =>
    have hr : decide (xs = ys) = false := decide_eq_false fun h => hl (by rw [h])
    rw [hr]
    ((repeat ((conv => whnf); (first | (refine As.pre ?_; first | refine As.mk rfl ?_) | (refine LetI.pre ?_; first | refine LetI.mk _ rfl ?_) | (refine LetB.pre ?_; first | refine LetB.bnet (by omega) ?_) | (refine Br.pre ?_; first | refine Br.tt rfl ?_) | (refine Ck.pre ?_; first | refine Ck.mk rfl ?_)))); (try (conv => whnf)))
    exact ⟨.inl rfl, ⟨_, rfl, rfl⟩, trivial⟩
  ((repeat ((conv => whnf); (first | (refine As.pre ?_; first | refine As.mk rfl ?_) | (refine LetI.pre ?_; first | refine LetI.mk _ rfl ?_) | (refine LetB.pre ?_; first | refine LetB.bnef (by omega) ?_) | (refine Br.pre ?_; first | refine Br.ff rfl ?_) | (refine Ck.pre ?_; first | refine Ck.mk rfl ?_)))); (try (conv => whnf)))
  refine LoopN.weak (s1 := ⟨[(0, ro1 fl xs), (1, ro1 fl' ys), (5, int (0 : Nat))], [], 0⟩) (SW.fr0 (Nat.le_refl _) rfl ⟨.refl _, .refl _, .refl _, trivial⟩) ?_
  refine LoopN.ind T_ok mixed (S := fun k : Nat => ⟨[(0, ro1 fl xs), (1, ro1 fl' ys), (5, int k)], [], 0⟩) (fun k => xs.length - k) (fun k => k ≤ xs.length ∧ decide (xs = ys) = decide (xs.drop k = ys.drop k)) (fun _ => rfl) (fun k hk ih => ?_) 0 ⟨Nat.zero_le _, rfl⟩
  obtain ⟨h1, h2⟩ := hk
  by_cases hlt : k < xs.length
  case neg =>
    rw [List.drop_eq_nil_of_le (by omega), List.drop_eq_nil_of_le (by omega)] at h2
    rw [h2]
    clear ih
    ((repeat ((conv => whnf); (first | (refine As.pre ?_; first | refine As.mk rfl ?_) | (refine LetI.pre ?_; first | refine LetI.mk _ rfl ?_) | (refine LetB.pre ?_; first | refine LetB.decf (by omega) ?_) | (refine Br.pre ?_; first | refine Br.ff rfl ?_) | (refine Ck.pre ?_; first | refine Ck.mk rfl ?_)))); (try (conv => whnf)))
    exact ⟨.inl rfl, ⟨_, rfl, rfl⟩, trivial⟩
  case pos =>
    have hlx := getD_int hlt
    have hly := getD_int (xs := ys) (k := k) (by omega)
    have hd := drop_eq hlt (show k < ys.length by omega)
    generalize xs.getD k 0 = x at hlx hd
    generalize ys.getD k 0 = y at hly hd
    by_cases hxy : x = y
    · have h3 : decide (xs = ys) = decide (xs.drop (k + 1) = ys.drop (k + 1)) := by rw [h2]; exact decide_eq_decide.2 (hd.trans ⟨fun h => h.2, fun h => ⟨hxy, h⟩⟩)
      clear h2 hd
      ((repeat ((conv => whnf); (first | (refine As.pre ?_; first | refine As.mk rfl ?_ | (refine As.mk ?_ ?_; · ((repeat' (refine andT ?_ ?_)) <;> (first | rfl | assumption | exact decide_eq_true (by omega) | exact decide_eq_true (by dsimp only; omega) | exact decide_eq_true (by simp; omega) | (simp; done))))) | (refine LetV.pre ?_; first | refine LetV.mk (t := 22) _ hlx ?_ | refine LetV.mk (t := 22) _ hly ?_ | refine LetV.mk (.sc (.int _ _)) rfl ?_) | (refine LetI.pre ?_; first | refine LetI.wrap (by omega) (by omega) ?_ | refine LetI.mk _ rfl ?_) | (refine LetB.pre ?_; first | refine LetB.dect (by omega) ?_ | refine LetB.bnef (by omega) ?_) | (refine Br.pre ?_; first | refine Br.tt rfl ?_ | refine Br.ff rfl ?_) | (refine Ck.pre ?_; first | refine Ck.drawn (by kernel_rfl) ?_ | refine Ck.mk rfl ?_)))); (try (conv => whnf)))
      refine LoopN.weak ?_ (ih (k + 1) ⟨by omega, h3⟩ (by omega))
      exact SW.fr0 (Nat.le_refl _) rfl ⟨.refl _, .refl _, VLe2.int (by omega), trivial⟩
    · have h3 : decide (xs = ys) = false := by rw [h2]; exact decide_eq_false fun h => hxy (hd.1 h).1
      rw [h3]
      clear ih h2 hd
      ((repeat ((conv => whnf); (first | (refine As.pre ?_; first | refine As.mk rfl ?_ | (refine As.mk ?_ ?_; · ((repeat' (refine andT ?_ ?_)) <;> (first | rfl | assumption | exact decide_eq_true (by omega) | exact decide_eq_true (by dsimp only; omega) | exact decide_eq_true (by simp; omega) | (simp; done))))) | (refine LetV.pre ?_; first | refine LetV.mk (t := 22) _ hlx ?_ | refine LetV.mk (t := 22) _ hly ?_ | refine LetV.mk (.sc (.int _ _)) rfl ?_) | (refine LetI.pre ?_; first | refine LetI.mk _ rfl ?_) | (refine LetB.pre ?_; first | refine LetB.dect (by omega) ?_ | refine LetB.bnet (by omega) ?_) | (refine Br.pre ?_; first | refine Br.tt rfl ?_) | (refine Ck.pre ?_; first | refine Ck.drawn (by kernel_rfl) ?_ | refine Ck.mk rfl ?_)))); (try (conv => whnf)))
      exact ⟨.inl rfl, ⟨_, rfl, rfl⟩, trivial⟩
/-! ### A common number -/
set_option maxRecDepth 100000 in
theorem IndexI_f (xs : List Int) (a : Int) (fl : Fl) (hx : xs.length ≤ 1000) : AFun Try.prog 98 0 [ro1 fl xs, int a] [] (int (fidx (fun x => decide (a = x)) xs 0)) [] := by
  refine AFun.of_W T_ok mixed Try.func98 rfl (Nat.le_of_ble_eq_true rfl) rfl ?_
  have hmx : (xs.map int).length = xs.length := List.length_map _
  ((repeat ((conv => whnf); (first | (refine As.pre ?_; first | refine As.mk rfl ?_) | (refine LetI.pre ?_; first | refine LetI.mk _ rfl ?_) | (refine Ck.pre ?_; first | refine Ck.mk rfl ?_)))); (try (conv => whnf)))
  refine LoopN.weak (s1 := ⟨[(0, ro1 fl xs), (1, int a), (7, int xs.length), (8, int (0 : Nat))], [], 0⟩) (SW.fr0 (Nat.le_refl _) rfl ⟨.refl _, .refl _, VLe2.int (by rw [List.length_map]), .refl _, trivial⟩) ?_
  refine LoopN.ind T_ok mixed (S := fun k : Nat => ⟨[(0, ro1 fl xs), (1, int a), (7, int xs.length), (8, int k)], [], 0⟩) (fun k => xs.length - k) (fun k => k ≤ xs.length ∧ fidx (fun x => decide (a = x)) xs 0 = fidx (fun x => decide (a = x)) (xs.drop k) k) (fun _ => rfl) (fun k hk ih => ?_) 0 ⟨Nat.zero_le _, rfl⟩
  obtain ⟨h1, h2⟩ := hk
  by_cases hlt : k < xs.length
  case neg =>
    rw [fidx_end hlt] at h2
    rw [h2]
    clear ih
    ((repeat ((conv => whnf); (first | (refine As.pre ?_; first | refine As.mk rfl ?_) | (refine LetB.pre ?_; first | refine LetB.decf (by omega) ?_) | (refine Br.pre ?_; first | refine Br.ff rfl ?_) | (refine Ck.pre ?_; first | refine Ck.mk rfl ?_)))); (try (conv => whnf)))
    exact ⟨.inl rfl, ⟨_, rfl, rfl⟩, trivial⟩
  case pos =>
    have hlx := getD_int hlt
    rw [fidx_drop hlt 0] at h2
    generalize xs.getD k 0 = x at hlx h2
    by_cases hxy : a = x
    · rw [if_pos (decide_eq_true hxy)] at h2
      rw [h2]
      clear ih h2
      ((repeat ((conv => whnf); (first | (refine As.pre ?_; first | refine As.mk rfl ?_ | (refine As.mk ?_ ?_; · ((repeat' (refine andT ?_ ?_)) <;> (first | rfl | assumption | exact decide_eq_true (by omega) | exact decide_eq_true (by dsimp only; omega) | exact decide_eq_true (by simp; omega) | (simp; done))))) | (refine LetV.pre ?_; first | refine LetV.mk (t := 22) _ hlx ?_ | refine LetV.mk (.sc (.int _ _)) rfl ?_) | (refine LetB.pre ?_; first | refine LetB.dect (by omega) ?_) | (refine Br.pre ?_; first | refine Br.tt rfl ?_) | (refine Ck.pre ?_; first | refine Ck.mk rfl ?_)))); (try (conv => whnf)))
      exact ⟨.inl rfl, ⟨_, rfl, rfl⟩, trivial⟩
    · rw [if_neg (by simpa using hxy)] at h2
      ((repeat ((conv => whnf); (first | (refine As.pre ?_; first | refine As.mk rfl ?_ | (refine As.mk ?_ ?_; · ((repeat' (refine andT ?_ ?_)) <;> (first | rfl | assumption | exact decide_eq_true (by omega) | exact decide_eq_true (by dsimp only; omega) | exact decide_eq_true (by simp; omega) | (simp; done))))) | (refine LetV.pre ?_; first | refine LetV.mk (t := 22) _ hlx ?_ | refine LetV.mk (.sc (.int _ _)) rfl ?_) | (refine LetI.pre ?_; first | refine LetI.wrap (by omega) (by omega) ?_) | (refine LetB.pre ?_; first | refine LetB.dect (by omega) ?_ | refine LetB.decf (by omega) ?_) | (refine Br.pre ?_; first | refine Br.tt rfl ?_ | refine Br.ff rfl ?_) | (refine Ck.pre ?_; first | refine Ck.mk rfl ?_)))); (try (conv => whnf)))
      refine LoopN.weak ?_ (ih (k + 1) ⟨by omega, h2⟩ (by omega))
      exact SW.fr0 (Nat.le_refl _) rfl ⟨.refl _, .refl _, .refl _, VLe2.int (by omega), trivial⟩
abbrev hasI (xs : List Int) (a : Int) : Bool := xs.any fun x => decide (a = x)
theorem ge_any {α : Type} (p : α → Bool) (l : List α) : decide (fidx p l 0 ≥ 0) = l.any p := by
  have := fidx_nonneg (p := p) l 0
  cases h : l.any p with
  | true => exact decide_eq_true (this.2 h)
  | false => exact decide_eq_false fun n => by rw [this.1 n] at h; cases h
theorem ContainsI_f (xs : List Int) (a : Int) (fl : Fl) (hx : xs.length ≤ 1000) : AFun Try.prog 78 0 [ro1 fl xs, int a] [] (bool (hasI xs a)) [] := by
  refine AFun.of_W T_ok mixed Try.func78 rfl (Nat.le_of_ble_eq_true rfl) rfl ?_
  have h := IndexI_f xs a fl hx
  rw [hasI, ← ge_any]
  generalize fidx (fun x => decide (a = x)) xs 0 = i at h ⊢
  ((repeat ((conv => whnf); (first | (refine As.pre ?_; first | refine As.mk rfl ?_) | (refine LetB.pre ?_; first | refine LetB.mk _ rfl ?_) | (refine Ck.pre ?_; first | refine Ck.mk rfl ?_) | (refine CallN.pre ?_; first | refine CallN.pure h rfl rfl ?_)))); (try (conv => whnf)))
  exact ⟨.inl rfl, ⟨_, rfl, rfl⟩, trivial⟩
theorem meet1_f (ys : List Int) (a : Int) (fl : Fl) (hy : ys.length ≤ 1000) : AFun Try.prog 77 0 [int a, .rp (ro1 fl ys) 0] [] (bool (hasI ys a)) [] := by
  refine AFun.of_W T_ok mixed Try.func77 rfl (Nat.le_of_ble_eq_true rfl) rfl ?_
  have h := ContainsI_f ys a fl hy
  ((repeat ((conv => whnf); (first | (refine As.pre ?_; first | refine As.mk rfl ?_) | (refine LetV.pre ?_; first | refine LetV.mk (.ro _ _ _) rfl ?_) | (refine Ck.pre ?_; first | refine Ck.mk rfl ?_) | (refine CallN.pre ?_; first | refine CallN.pure h rfl rfl ?_)))); (try (conv => whnf)))
  exact ⟨.inl rfl, ⟨_, rfl, rfl⟩, trivial⟩
end En
end Go.Proofs.Ytiefcppgbnfbfaa
namespace Go.Proofs.Ytiefcppgbnfbfaa
open Go.Proofs.Ytiefcppgbnfbfaa.Am
set_option maxRecDepth 100000
namespace En
abbrev cmn (xs ys : List Int) : Bool := xs.any (hasI ys)
abbrev mtV (fl : Fl) (ys : List Int) : AV := .clo 77 [.rp (ro1 fl ys) 0]
set_option maxRecDepth 100000 in
theorem IndexM_f (xs ys : List Int) (fl fl' : Fl) (hx : xs.length ≤ 1000) (hy : ys.length ≤ 1000) : AFun Try.prog 97 0 [ro1 fl xs, mtV fl' ys] [] (int (fidx (hasI ys) xs 0)) [] := by
  refine AFun.of_W T_ok mixed Try.func97 rfl (Nat.le_of_ble_eq_true rfl) rfl ?_
  have hmx : (xs.map int).length = xs.length := List.length_map _
  ((repeat ((conv => whnf); (first | (refine As.pre ?_; first | refine As.mk rfl ?_) | (refine LetI.pre ?_; first | refine LetI.mk _ rfl ?_) | (refine Ck.pre ?_; first | refine Ck.mk rfl ?_)))); (try (conv => whnf)))
  refine LoopN.weak (s1 := ⟨[(0, ro1 fl xs), (1, mtV fl' ys), (7, int xs.length), (8, int (0 : Nat))], [], 0⟩) (SW.fr0 (Nat.le_refl _) rfl ⟨.refl _, .refl _, VLe2.int (by rw [List.length_map]), .refl _, trivial⟩) ?_
  refine LoopN.ind T_ok mixed (S := fun k : Nat => ⟨[(0, ro1 fl xs), (1, mtV fl' ys), (7, int xs.length), (8, int k)], [], 0⟩) (fun k => xs.length - k) (fun k => k ≤ xs.length ∧ fidx (hasI ys) xs 0 = fidx (hasI ys) (xs.drop k) k) (fun _ => rfl) (fun k hk ih => ?_) 0 ⟨Nat.zero_le _, rfl⟩
  obtain ⟨h1, h2⟩ := hk
  by_cases hlt : k < xs.length
  case neg =>
    rw [fidx_end hlt] at h2
    rw [h2]
    clear ih
    ((repeat ((conv => whnf); (first | (refine As.pre ?_; first | refine As.mk rfl ?_) | (refine LetB.pre ?_; first | refine LetB.decf (by omega) ?_) | (refine Br.pre ?_; first | refine Br.ff rfl ?_) | (refine Ck.pre ?_; first | refine Ck.mk rfl ?_)))); (try (conv => whnf)))
    exact ⟨.inl rfl, ⟨_, rfl, rfl⟩, trivial⟩
  case pos =>
    have hlx := getD_int hlt
    rw [fidx_drop hlt 0] at h2
    generalize xs.getD k 0 = x at hlx h2
    have hm := meet1_f ys x fl' hy
    generalize hasI ys x = b at h2 hm
    cases b with
    | true =>
      rw [if_pos rfl] at h2
      rw [h2]
      clear ih h2
      ((repeat ((conv => whnf); (first | (refine As.pre ?_; first | refine As.mk rfl ?_ | (refine As.mk ?_ ?_; · ((repeat' (refine andT ?_ ?_)) <;> (first | rfl | assumption | exact decide_eq_true (by omega) | exact decide_eq_true (by dsimp only; omega) | exact decide_eq_true (by simp; omega) | (simp; done))))) | (refine LetV.pre ?_; first | refine LetV.mk (t := 22) _ hlx ?_ | refine LetV.mk (.sc (.int _ _)) rfl ?_) | (refine LetB.pre ?_; first | refine LetB.dect (by omega) ?_) | (refine Br.pre ?_; first | refine Br.tt rfl ?_) | (refine Ck.pre ?_; first | refine Ck.mk rfl ?_) | (refine CallN.pre ?_; first | refine CallN.pure hm rfl rfl ?_)))); (try (conv => whnf)))
      exact ⟨.inl rfl, ⟨_, rfl, rfl⟩, trivial⟩
    | false =>
      rw [if_neg Bool.false_ne_true] at h2
      ((repeat ((conv => whnf); (first | (refine As.pre ?_; first | refine As.mk rfl ?_ | (refine As.mk ?_ ?_; · ((repeat' (refine andT ?_ ?_)) <;> (first | rfl | assumption | exact decide_eq_true (by omega) | exact decide_eq_true (by dsimp only; omega) | exact decide_eq_true (by simp; omega) | (simp; done))))) | (refine LetV.pre ?_; first | refine LetV.mk (t := 22) _ hlx ?_ | refine LetV.mk (.sc (.int _ _)) rfl ?_) | (refine LetI.pre ?_; first | refine LetI.wrap (by omega) (by omega) ?_) | (refine LetB.pre ?_; first | refine LetB.dect (by omega) ?_) | (refine Br.pre ?_; first | refine Br.tt rfl ?_ | refine Br.ff rfl ?_) | (refine Ck.pre ?_; first | refine Ck.mk rfl ?_) | (refine CallN.pre ?_; first | refine CallN.pure hm rfl rfl ?_)))); (try (conv => whnf)))
      refine LoopN.weak ?_ (ih (k + 1) ⟨by omega, h2⟩ (by omega))
      exact SW.fr0 (Nat.le_refl _) rfl ⟨.refl _, .refl _, .refl _, VLe2.int (by omega), trivial⟩
theorem ContainsM_f (xs ys : List Int) (fl fl' : Fl) (hx : xs.length ≤ 1000) (hy : ys.length ≤ 1000) : AFun Try.prog 76 0 [ro1 fl xs, mtV fl' ys] [] (bool (cmn xs ys)) [] := by
  refine AFun.of_W T_ok mixed Try.func76 rfl (Nat.le_of_ble_eq_true rfl) rfl ?_
  have h := IndexM_f xs ys fl fl' hx hy
  rw [cmn, ← ge_any]
  generalize fidx (hasI ys) xs 0 = i at h ⊢
  ((repeat ((conv => whnf); (first | (refine As.pre ?_; first | refine As.mk rfl ?_) | (refine LetB.pre ?_; first | refine LetB.mk _ rfl ?_) | (refine Ck.pre ?_; first | refine Ck.mk rfl ?_) | (refine CallN.pre ?_; first | refine CallN.pure h rfl rfl ?_)))); (try (conv => whnf)))
  exact ⟨.inl rfl, ⟨_, rfl, rfl⟩, trivial⟩
theorem meet_f (xs ys : List Int) (fl fl' : Fl) (hx : xs.length ≤ 1000) (hy : ys.length ≤ 1000) : AFun Try.prog 49 0 [ro1 fl xs, ro1 fl' ys] [] (bool (cmn xs ys)) [] := by
  refine AFun.of_W T_ok mixed Try.func49 rfl (Nat.le_of_ble_eq_true rfl) rfl ?_
  have h := ContainsM_f xs ys fl fl' hx hy
  ((repeat ((conv => whnf); (first | (refine LetN.pre ?_; first | ((conv => arg 1; whnf); refine LetN.mk ?_)) | (refine As.pre ?_; first | refine As.mk rfl ?_) | (refine Ck.pre ?_; first | refine Ck.mk rfl ?_) | (refine CallN.pre ?_; first | refine CallN.lend h rfl (.same rfl (.clo (.ptr rfl rfl rfl .nil) .nil)) ?_)))); (try (conv => whnf)))
  exact ⟨.inl rfl, ⟨_, rfl, rfl⟩, trivial⟩
/-! ### The reference's -/
theorem any_dropI (f : Int → Bool) {l : List Int} {k : Nat} (h : k < l.length) : (l.drop k).any f = (f (l.getD k 0) || (l.drop (k + 1)).any f) := any_drop f h 0
set_option maxRecDepth 100000 in
theorem common_f (xs ys : List Int) (fl fl' : Fl) (hx : xs.length ≤ 1000) (hy : ys.length ≤ 1000) : AFun Try.prog 54 0 [ro1 fl xs, ro1 fl' ys] [] (bool (cmn xs ys)) [] := by
  refine AFun.of_W T_ok mixed Try.func54 rfl (Nat.le_of_ble_eq_true rfl) rfl ?_
  have hmx : (xs.map int).length = xs.length := List.length_map _
  have hmy : (ys.map int).length = ys.length := List.length_map _
  ((repeat ((conv => whnf); (first | (refine As.pre ?_; first | refine As.mk rfl ?_) | (refine Ck.pre ?_; first | refine Ck.mk rfl ?_)))); (try (conv => whnf)))
  refine LoopN.weak (s1 := ⟨[(0, ro1 fl xs), (1, ro1 fl' ys), (5, int (0 : Nat))], [], 0⟩) (SW.fr0 (Nat.le_refl _) rfl ⟨.refl _, .refl _, .refl _, trivial⟩) ?_
  refine LoopN.ind T_ok mixed (S := fun k : Nat => ⟨[(0, ro1 fl xs), (1, ro1 fl' ys), (5, int k)], [], 0⟩) (fun k => xs.length - k) (fun k => k ≤ xs.length ∧ cmn xs ys = (xs.drop k).any (hasI ys)) (fun _ => rfl) (fun k hk ih => ?_) 0 ⟨Nat.zero_le _, rfl⟩
  obtain ⟨h1, h2⟩ := hk
  by_cases hlt : k < xs.length
  case neg =>
    rw [List.drop_eq_nil_of_le (by omega), List.any_nil] at h2
    rw [h2]
    clear ih
    ((repeat ((conv => whnf); (first | (refine As.pre ?_; first | refine As.mk rfl ?_) | (refine LetI.pre ?_; first | refine LetI.mk _ rfl ?_) | (refine LetB.pre ?_; first | refine LetB.decf (by omega) ?_) | (refine Br.pre ?_; first | refine Br.ff rfl ?_) | (refine Ck.pre ?_; first | refine Ck.mk rfl ?_)))); (try (conv => whnf)))
    exact ⟨.inl rfl, ⟨_, rfl, rfl⟩, trivial⟩
  case pos =>
    have hlx := getD_int hlt
    rw [any_dropI _ hlt] at h2
    generalize xs.getD k 0 = x at hlx h2
    ((repeat ((conv => whnf); (first | (refine As.pre ?_; first | refine As.mk rfl ?_) | (refine LetI.pre ?_; first | refine LetI.mk _ rfl ?_) | (refine LetB.pre ?_; first | refine LetB.dect (by omega) ?_) | (refine Br.pre ?_; first | refine Br.tt rfl ?_) | (refine Ck.pre ?_; first | refine Ck.mk rfl ?_)))); (try (conv => whnf)))
    refine LoopN.weak (s1 := ⟨[(0, ro1 fl xs), (1, ro1 fl' ys), (5, int k), (6, int (0 : Nat))], [], 0⟩) (SW.fr0 (Nat.le_refl _) rfl ⟨.refl _, .refl _, .refl _, .refl _, trivial⟩) ?_
    refine LoopN.ind T_ok mixed (S := fun i : Nat => ⟨[(0, ro1 fl xs), (1, ro1 fl' ys), (5, int k), (6, int i)], [], 0⟩) (fun i => ys.length - i) (fun i => i ≤ ys.length ∧ hasI ys x = (ys.drop i).any fun y => decide (x = y)) (fun _ => rfl) (fun i hi ihi => ?_) 0 ⟨Nat.zero_le _, rfl⟩
    obtain ⟨g1, g2⟩ := hi
    by_cases hli : i < ys.length
    case neg =>
      rw [List.drop_eq_nil_of_le (by omega), List.any_nil] at g2
      rw [g2, Bool.false_or] at h2
      clear ihi
      ((repeat ((conv => whnf); (first | (refine As.pre ?_; first | refine As.mk rfl ?_) | (refine LetI.pre ?_; first | refine LetI.wrap (by omega) (by omega) ?_ | refine LetI.mk _ rfl ?_) | (refine LetB.pre ?_; first | refine LetB.decf (by omega) ?_) | (refine Br.pre ?_; first | refine Br.ff rfl ?_) | (refine Ck.pre ?_; first | refine Ck.mk rfl ?_)))); (try (conv => whnf)))
      refine LoopN.weak ?_ (ih (k + 1) ⟨by omega, h2⟩ (by omega))
      exact SW.fr0 (Nat.le_refl _) rfl ⟨.refl _, .refl _, VLe2.int (by omega), trivial⟩
    case pos =>
      have hly := getD_int hli
      rw [any_dropI _ hli] at g2
      generalize ys.getD i 0 = y at hly g2
      by_cases hxy : x = y
      · rw [decide_eq_true hxy, Bool.true_or] at g2
        rw [g2, Bool.true_or] at h2
        rw [h2]
        clear ih ihi h2 g2
        ((repeat ((conv => whnf); (first | (refine As.pre ?_; first | refine As.mk rfl ?_ | (refine As.mk ?_ ?_; · ((repeat' (refine andT ?_ ?_)) <;> (first | rfl | assumption | exact decide_eq_true (by omega) | exact decide_eq_true (by dsimp only; omega) | exact decide_eq_true (by simp; omega) | (simp; done))))) | (refine LetV.pre ?_; first | refine LetV.mk (t := 22) _ hlx ?_ | refine LetV.mk (t := 22) _ hly ?_ | refine LetV.mk (.sc (.int _ _)) rfl ?_) | (refine LetI.pre ?_; first | refine LetI.mk _ rfl ?_) | (refine LetB.pre ?_; first | refine LetB.dect (by omega) ?_) | (refine Br.pre ?_; first | refine Br.tt rfl ?_) | (refine Ck.pre ?_; first | refine Ck.drawn (by kernel_rfl) ?_ | refine Ck.mk rfl ?_)))); (try (conv => whnf)))
        exact ⟨.inl rfl, ⟨_, rfl, rfl⟩, trivial⟩
      · rw [decide_eq_false hxy, Bool.false_or] at g2
        clear ih
        ((repeat ((conv => whnf); (first | (refine As.pre ?_; first | refine As.mk rfl ?_ | (refine As.mk ?_ ?_; · ((repeat' (refine andT ?_ ?_)) <;> (first | rfl | assumption | exact decide_eq_true (by omega) | exact decide_eq_true (by dsimp only; omega) | exact decide_eq_true (by simp; omega) | (simp; done))))) | (refine LetV.pre ?_; first | refine LetV.mk (t := 22) _ hlx ?_ | refine LetV.mk (t := 22) _ hly ?_ | refine LetV.mk (.sc (.int _ _)) rfl ?_) | (refine LetI.pre ?_; first | refine LetI.wrap (by omega) (by omega) ?_ | refine LetI.mk _ rfl ?_) | (refine LetB.pre ?_; first | refine LetB.dect (by omega) ?_ | refine LetB.decf (by omega) ?_) | (refine Br.pre ?_; first | refine Br.tt rfl ?_ | refine Br.ff rfl ?_) | (refine Ck.pre ?_; first | refine Ck.drawn (by kernel_rfl) ?_ | refine Ck.mk rfl ?_)))); (try (conv => whnf)))
        refine LoopN.weak ?_ (ihi (i + 1) ⟨by omega, g2⟩ (by omega))
        exact SW.fr0 (Nat.le_refl _) rfl ⟨.refl _, .refl _, .refl _, VLe2.int (by omega), trivial⟩
end En
end Go.Proofs.Ytiefcppgbnfbfaa
namespace Go.Proofs.Ytiefcppgbnfbfaa.Am
open Go
theorem CLe.agg {cs cs' : List AV} (h : VLe2L cs cs') : CLe (.agg cs) (.agg cs') := fun w g x hx => by
  obtain ⟨h1, h2⟩ := h.get
  cases hx with
  | agg a b =>
    refine .agg (by rw [← h1]; exact a) fun i c y hi hy => ?_
    obtain ⟨d, hd, hle⟩ := h2 i c hi
    exact hle w g y (b i d y hd hy)
theorem CLe.ros {α : Type} {f g : α → AV} {fl : Fl} {E : Nat} (hc : ∀ a, VLe2L (f a).cells (g a).cells) (l : List α) : CLe (.ro fl E (l.map f)) (.ro {} E (l.map g)) := fun w gh x hx => by
  have hl : (l.map f).length = (l.map g).length := by simp
  have hat : ∀ (i : Nat) (e : AV), (l.map g)[i]? = some e → ∃ d, (l.map f)[i]? = some d ∧ VLe2L d.cells e.cells := fun i e he => by
    rw [List.getElem?_map] at he
    obtain ⟨a, ha, rfl⟩ := Option.map_eq_some_iff.1 he
    exact ⟨f a, by rw [List.getElem?_map, ha]; rfl, hc a⟩
  have hin : ∀ e ∈ l.map g, ∃ d ∈ l.map f, VLe2L d.cells e.cells := fun e he => by
    obtain ⟨a, ha, rfl⟩ := List.mem_map.1 he
    exact ⟨f a, List.mem_map_of_mem ha, hc a⟩
  generalize l.map f = es at hl hat hin hx
  generalize l.map g = es' at hl hat hin
  cases hx with
  | roz a b c =>
    have : es' = [] := List.eq_nil_of_length_eq_zero (by rw [← hl]; rfl)
    subst this
    exact .roz (fun h => by cases h) b fun h => by cases h
  | ro X a b c d e f =>
    rw [hl] at b ⊢
    refine .ro X a b (fun h => by cases h) (fun q hq => ?_) (fun i j q c' hi hj => ?_) fun i j q c' hi hj => ?_
    · obtain ⟨r, hr, hle⟩ := hin q hq
      rw [← hle.get.1]; exact d r hr
    · obtain ⟨r, hr, hle⟩ := hat i q hi
      obtain ⟨s, hs, _⟩ := hle.get.2 j c' hj
      exact e i j r s hr hs
    · obtain ⟨r, hr, hle⟩ := hat i q hi
      obtain ⟨s, hs, hcl⟩ := hle.get.2 j c' hj
      exact hcl _ _ _ (f i j r s hr hs)
def CLeL : List AV → List AV → Prop
  | [], [] => True
  | a :: l, b :: m => CLe a b ∧ CLeL l m
  | _, _ => False
theorem CLeL.get : ∀ {l m : List AV}, CLeL l m → l.length = m.length ∧ ∀ (i : Nat) (b : AV), m[i]? = some b → ∃ a, l[i]? = some a ∧ CLe a b
  | [], [], _ => ⟨rfl, fun i b h => by simp at h⟩
  | a :: l, b :: m, h => by
    obtain ⟨h3, h4⟩ := CLeL.get h.2
    refine ⟨by simp [h3], fun i c hc => ?_⟩
    cases i with
    | zero => simp at hc; subst hc; exact ⟨a, rfl, h.1⟩
    | succ i => exact h4 i c hc
  | [], _ :: _, h => by cases h
  | _ :: _, [], h => by cases h
theorem AFun.le {P : Program} {f : FuncId} {p : Nat} {vs vs' : List AV} {H H1 : AH} {v : AV} (h : AFun P f p vs H v H1) (hle : CLeL vs' vs) : AFun P f p vs' H v H1 := fun w g xs hl hx hH hN =>
  h w g xs (by rw [← hle.get.1]; exact hl) (fun i b x hb hx' => by
    obtain ⟨a, ha, hc⟩ := hle.get.2 i b hb
    exact hc w g x (hx i a x ha hx')) hH hN
theorem AFun.res {P : Program} {f : FuncId} {p : Nat} {vs : List AV} {H H1 : AH} {v v' : AV} (h : AFun P f p vs H v H1) (hle : CLe v v') : AFun P f p vs H v' H1 := fun w g xs hl hx hH hN =>
  (h w g xs hl hx hH hN).mono fun e w' ⟨x, g', he, hA, hc, hH'⟩ => ⟨x, g', he, hA, hle _ _ _ hc, hH'⟩
end Go.Proofs.Ytiefcppgbnfbfaa.Am
namespace Go.Proofs.Ytiefcppgbnfbfaa
open Go.Proofs.Ytiefcppgbnfbfaa.Am
set_option maxRecDepth 100000
namespace En
/-! ### Apart and free -/
def pthL : Option (Fl × List Int) → List Int
  | none => []
  | some p => p.2
theorem pth_le : ∀ p : Option (Fl × List Int), VLe2 (pthA p) (ro1 {} (pthL p))
  | none => VLe2.nilro
  | some _ => VLe2.ro_of rfl
/-- An achievement, of whose lists the elements alone are told. -/
structure Ac where
  school : Int
  code : ByteArray
  credits : Int
  grade : Int
  day : Int
  src : List Int
  bundle : Int
  path : List Int
abbrev acA (a : Ac) : AV := .agg [int a.school, str a.code, int a.credits, int a.grade, int a.day, ro1 {} a.src, int a.bundle, ro1 {} a.path]
def Ach.ac (a : Ach) : Ac := ⟨a.school, a.code, a.credits, a.grade, a.day, a.src.2, a.bundle, pthL a.path⟩
theorem ac_le (a : Ach) : VLe2L (achA a).cells (acA a.ac).cells := ⟨.refl _, .refl _, .refl _, .refl _, .refl _, VLe2.ro_of rfl, .refl _, pth_le _, trivial⟩
theorem ac_cle (a : Ach) : CLe (achA a) (acA a.ac) := CLe.agg (ac_le a)
theorem acs_le (l : List Ach) (fl : Fl) : CLe (.ro fl 8 (l.map achA)) (.ro {} 8 ((l.map Ach.ac).map acA)) := by
  rw [List.map_map]
  exact CLe.ros (g := fun a => acA a.ac) ac_le l
theorem pure_ac : ∀ l : List Ac, AV.namesL (fun _ => false) (l.map acA) = true
  | [] => rfl
  | p :: l => by simp only [List.map_cons, AV.namesL, pure_ac l]; rfl
abbrev okA (a : Ac) : Prop := a.src.length ≤ 1000 ∧ a.path.length ≤ 1000
def apP (a b : Ac) : Bool := !(decide (a.school = b.school) && decide (a.code = b.code)) && ((decide (0 < a.bundle) && decide (a.bundle = b.bundle) && decide (a.path = b.path)) || !cmn a.src b.src)
theorem toL_inj {a b : ByteArray} (h : a.toList = b.toList) : a = b := by
  rw [ByteArray.toList_eq, ByteArray.toList_eq] at h
  exact ByteArray.ext (Array.ext' h)
theorem toL_eq (a b : ByteArray) : (a.toList == b.toList) = decide (a = b) := by
  by_cases h : a = b
  · subst h; simp
  · rw [decide_eq_false h]
    exact beq_eq_false_iff_ne.2 fun n => h (toL_inj n)
set_option maxHeartbeats 1600000 in
set_option maxRecDepth 100000 in
theorem Apart_f (a b : Ac) (ha : okA a) (hb : okA b) : AFun Try.prog 20 0 [acA a, acA b] [] (bool (apP a b)) [] := by
  have hE := Equal_f a.path b.path {} {} ha.2 hb.2
  have hM := meet_f a.src b.src {} {} ha.1 hb.1
  refine AFun.of_W T_ok mixed Try.func20 rfl (Nat.le_of_ble_eq_true rfl) rfl ?_
  have hc := toL_eq a.code b.code
  unfold apP
  generalize decide (a.path = b.path) = q at hE ⊢
  generalize cmn a.src b.src = m at hM ⊢
  generalize decide (a.code = b.code) = c at hc ⊢
  by_cases hs : a.school = b.school
  · cases c with
    | true =>
      have hq : (a.school == b.school && (a.code.toList == b.code.toList && true)) = true := by rw [hc]; simp [hs]
      rw [decide_eq_true hs]
      ((repeat ((conv => whnf); (first | (refine LetN.pre ?_; first | ((conv => arg 1; whnf); refine LetN.mk ?_)) | (refine As.pre ?_; first | refine As.mk rfl ?_) | (refine LetV.pre ?_; first | refine LetV.mk (.agg _) rfl ?_) | (refine LetB.pre ?_; first | refine LetB.tt (by assumption) ?_) | (refine Br.pre ?_; first | refine Br.tt rfl ?_) | (refine Ck.pre ?_; first | refine Ck.mk rfl ?_)))); (try (conv => whnf)))
      exact ⟨.inl rfl, ⟨_, rfl, rfl⟩, trivial⟩
    | false =>
      have hq : (a.school == b.school && (a.code.toList == b.code.toList && true)) = false := by rw [hc]; simp
      rw [decide_eq_true hs]
      by_cases hb0 : 0 < a.bundle
      · by_cases hbe : a.bundle = b.bundle
        · rw [decide_eq_true hb0, decide_eq_true hbe]
          cases q <;> cases m <;> (((repeat ((conv => whnf); (first | (refine LetN.pre ?_; first | ((conv => arg 1; whnf); refine LetN.mk ?_)) | (refine As.pre ?_; first | refine As.mk rfl ?_) | (refine LetV.pre ?_; first | refine LetV.mk (.sc (.int _ _)) rfl ?_ | refine LetV.mk (.agg _) rfl ?_ | refine LetV.mk (.ro _ _ _) rfl ?_) | (refine LetB.pre ?_; first | refine LetB.ff (by assumption) ?_ | refine LetB.dect (by omega) ?_) | (refine Gd.pre ?_; first | refine Gd.run rfl ?_ | refine Gd.pass rfl ?_) | (refine Br.pre ?_; first | refine Br.ff rfl ?_) | (refine Ck.pre ?_; first | refine Ck.mk rfl ?_) | (refine CallN.pre ?_; first | refine CallN.pure hE rfl rfl ?_ | refine CallN.pure hM rfl rfl ?_)))); (try (conv => whnf))); exact ⟨.inl rfl, ⟨_, rfl, rfl⟩, trivial⟩)
        · rw [decide_eq_true hb0, decide_eq_false hbe]
          cases m <;> (((repeat ((conv => whnf); (first | (refine LetN.pre ?_; first | ((conv => arg 1; whnf); refine LetN.mk ?_)) | (refine As.pre ?_; first | refine As.mk rfl ?_) | (refine LetV.pre ?_; first | refine LetV.mk (.sc (.int _ _)) rfl ?_ | refine LetV.mk (.agg _) rfl ?_ | refine LetV.mk (.ro _ _ _) rfl ?_) | (refine LetB.pre ?_; first | refine LetB.ff (by assumption) ?_ | refine LetB.dect (by omega) ?_ | refine LetB.decf (by omega) ?_) | (refine Gd.pre ?_; first | refine Gd.run rfl ?_ | refine Gd.pass rfl ?_) | (refine Br.pre ?_; first | refine Br.ff rfl ?_) | (refine Ck.pre ?_; first | refine Ck.mk rfl ?_) | (refine CallN.pre ?_; first | refine CallN.pure hM rfl rfl ?_)))); (try (conv => whnf))); exact ⟨.inl rfl, ⟨_, rfl, rfl⟩, trivial⟩)
      · rw [decide_eq_false hb0]
        cases m <;> (((repeat ((conv => whnf); (first | (refine LetN.pre ?_; first | ((conv => arg 1; whnf); refine LetN.mk ?_)) | (refine As.pre ?_; first | refine As.mk rfl ?_) | (refine LetV.pre ?_; first | refine LetV.mk (.sc (.int _ _)) rfl ?_ | refine LetV.mk (.agg _) rfl ?_ | refine LetV.mk (.ro _ _ _) rfl ?_) | (refine LetB.pre ?_; first | refine LetB.ff (by assumption) ?_ | refine LetB.decf (by omega) ?_) | (refine Gd.pre ?_; first | refine Gd.run rfl ?_ | refine Gd.pass rfl ?_) | (refine Br.pre ?_; first | refine Br.ff rfl ?_) | (refine Ck.pre ?_; first | refine Ck.mk rfl ?_) | (refine CallN.pre ?_; first | refine CallN.pure hM rfl rfl ?_)))); (try (conv => whnf))); exact ⟨.inl rfl, ⟨_, rfl, rfl⟩, trivial⟩)
  · have hq : (a.school == b.school && (a.code.toList == b.code.toList && true)) = false := by simp [hs]
    rw [decide_eq_false hs]
    by_cases hb0 : 0 < a.bundle
    · by_cases hbe : a.bundle = b.bundle
      · rw [decide_eq_true hb0, decide_eq_true hbe]
        cases q <;> cases m <;> (((repeat ((conv => whnf); (first | (refine LetN.pre ?_; first | ((conv => arg 1; whnf); refine LetN.mk ?_)) | (refine As.pre ?_; first | refine As.mk rfl ?_) | (refine LetV.pre ?_; first | refine LetV.mk (.sc (.int _ _)) rfl ?_ | refine LetV.mk (.agg _) rfl ?_ | refine LetV.mk (.ro _ _ _) rfl ?_) | (refine LetB.pre ?_; first | refine LetB.ff (by assumption) ?_ | refine LetB.dect (by omega) ?_) | (refine Gd.pre ?_; first | refine Gd.run rfl ?_ | refine Gd.pass rfl ?_) | (refine Br.pre ?_; first | refine Br.ff rfl ?_) | (refine Ck.pre ?_; first | refine Ck.mk rfl ?_) | (refine CallN.pre ?_; first | refine CallN.pure hE rfl rfl ?_ | refine CallN.pure hM rfl rfl ?_)))); (try (conv => whnf))); exact ⟨.inl rfl, ⟨_, rfl, rfl⟩, trivial⟩)
      · rw [decide_eq_true hb0, decide_eq_false hbe]
        cases m <;> (((repeat ((conv => whnf); (first | (refine LetN.pre ?_; first | ((conv => arg 1; whnf); refine LetN.mk ?_)) | (refine As.pre ?_; first | refine As.mk rfl ?_) | (refine LetV.pre ?_; first | refine LetV.mk (.sc (.int _ _)) rfl ?_ | refine LetV.mk (.agg _) rfl ?_ | refine LetV.mk (.ro _ _ _) rfl ?_) | (refine LetB.pre ?_; first | refine LetB.ff (by assumption) ?_ | refine LetB.dect (by omega) ?_ | refine LetB.decf (by omega) ?_) | (refine Gd.pre ?_; first | refine Gd.run rfl ?_ | refine Gd.pass rfl ?_) | (refine Br.pre ?_; first | refine Br.ff rfl ?_) | (refine Ck.pre ?_; first | refine Ck.mk rfl ?_) | (refine CallN.pre ?_; first | refine CallN.pure hM rfl rfl ?_)))); (try (conv => whnf))); exact ⟨.inl rfl, ⟨_, rfl, rfl⟩, trivial⟩)
    · rw [decide_eq_false hb0]
      cases m <;> (((repeat ((conv => whnf); (first | (refine LetN.pre ?_; first | ((conv => arg 1; whnf); refine LetN.mk ?_)) | (refine As.pre ?_; first | refine As.mk rfl ?_) | (refine LetV.pre ?_; first | refine LetV.mk (.sc (.int _ _)) rfl ?_ | refine LetV.mk (.agg _) rfl ?_ | refine LetV.mk (.ro _ _ _) rfl ?_) | (refine LetB.pre ?_; first | refine LetB.ff (by assumption) ?_ | refine LetB.decf (by omega) ?_) | (refine Gd.pre ?_; first | refine Gd.run rfl ?_ | refine Gd.pass rfl ?_) | (refine Br.pre ?_; first | refine Br.ff rfl ?_) | (refine Ck.pre ?_; first | refine Ck.mk rfl ?_) | (refine CallN.pre ?_; first | refine CallN.pure hM rfl rfl ?_)))); (try (conv => whnf))); exact ⟨.inl rfl, ⟨_, rfl, rfl⟩, trivial⟩)
set_option maxHeartbeats 1600000 in
set_option maxRecDepth 100000 in
theorem refApart_f (a b : Ac) (ha : okA a) (hb : okA b) : AFun Try.prog 27 0 [acA a, acA b] [] (bool (apP a b)) [] := by
  have hE := SameInts_f a.path b.path {} {} ha.2 hb.2
  have hM := common_f a.src b.src {} {} ha.1 hb.1
  refine AFun.of_W T_ok mixed Try.func27 rfl (Nat.le_of_ble_eq_true rfl) rfl ?_
  have hc := toL_eq a.code b.code
  unfold apP
  generalize decide (a.path = b.path) = q at hE ⊢
  generalize cmn a.src b.src = m at hM ⊢
  generalize decide (a.code = b.code) = c at hc ⊢
  by_cases hs : a.school = b.school
  · cases c with
    | true =>
      have hq : (a.school == b.school && (a.code.toList == b.code.toList && true)) = true := by rw [hc]; simp [hs]
      rw [decide_eq_true hs]
      ((repeat ((conv => whnf); (first | (refine LetN.pre ?_; first | ((conv => arg 1; whnf); refine LetN.mk ?_)) | (refine As.pre ?_; first | refine As.mk rfl ?_) | (refine LetV.pre ?_; first | refine LetV.mk (.agg _) rfl ?_) | (refine LetB.pre ?_; first | refine LetB.tt (by assumption) ?_) | (refine Br.pre ?_; first | refine Br.tt rfl ?_) | (refine Ck.pre ?_; first | refine Ck.mk rfl ?_)))); (try (conv => whnf)))
      exact ⟨.inl rfl, ⟨_, rfl, rfl⟩, trivial⟩
    | false =>
      have hq : (a.school == b.school && (a.code.toList == b.code.toList && true)) = false := by rw [hc]; simp
      rw [decide_eq_true hs]
      by_cases hb0 : 0 < a.bundle
      · by_cases hbe : a.bundle = b.bundle
        · rw [decide_eq_true hb0, decide_eq_true hbe]
          cases q <;> cases m <;> (((repeat ((conv => whnf); (first | (refine LetN.pre ?_; first | ((conv => arg 1; whnf); refine LetN.mk ?_)) | (refine As.pre ?_; first | refine As.mk rfl ?_) | (refine LetV.pre ?_; first | refine LetV.mk (.sc (.int _ _)) rfl ?_ | refine LetV.mk (.agg _) rfl ?_ | refine LetV.mk (.ro _ _ _) rfl ?_) | (refine LetB.pre ?_; first | refine LetB.ff (by assumption) ?_ | refine LetB.dect (by omega) ?_) | (refine Gd.pre ?_; first | refine Gd.run rfl ?_ | refine Gd.pass rfl ?_) | (refine Br.pre ?_; first | refine Br.tt rfl ?_ | refine Br.ff rfl ?_) | (refine Ck.pre ?_; first | refine Ck.mk rfl ?_) | (refine CallN.pre ?_; first | refine CallN.pure hE rfl rfl ?_ | refine CallN.pure hM rfl rfl ?_)))); (try (conv => whnf))); exact ⟨.inl rfl, ⟨_, rfl, rfl⟩, trivial⟩)
        · rw [decide_eq_true hb0, decide_eq_false hbe]
          cases q <;> cases m <;> (((repeat ((conv => whnf); (first | (refine LetN.pre ?_; first | ((conv => arg 1; whnf); refine LetN.mk ?_)) | (refine As.pre ?_; first | refine As.mk rfl ?_) | (refine LetV.pre ?_; first | refine LetV.mk (.sc (.int _ _)) rfl ?_ | refine LetV.mk (.agg _) rfl ?_ | refine LetV.mk (.ro _ _ _) rfl ?_) | (refine LetB.pre ?_; first | refine LetB.ff (by assumption) ?_ | refine LetB.decf (by omega) ?_) | (refine Gd.pre ?_; first | refine Gd.run rfl ?_ | refine Gd.pass rfl ?_) | (refine Br.pre ?_; first | refine Br.tt rfl ?_ | refine Br.ff rfl ?_) | (refine Ck.pre ?_; first | refine Ck.mk rfl ?_) | (refine CallN.pre ?_; first | refine CallN.pure hE rfl rfl ?_ | refine CallN.pure hM rfl rfl ?_)))); (try (conv => whnf))); exact ⟨.inl rfl, ⟨_, rfl, rfl⟩, trivial⟩)
      · rw [decide_eq_false hb0]
        by_cases hbe : a.bundle = b.bundle <;> cases q <;> cases m <;> (((repeat ((conv => whnf); (first | (refine LetN.pre ?_; first | ((conv => arg 1; whnf); refine LetN.mk ?_)) | (refine As.pre ?_; first | refine As.mk rfl ?_) | (refine LetV.pre ?_; first | refine LetV.mk (.sc (.int _ _)) rfl ?_ | refine LetV.mk (.agg _) rfl ?_ | refine LetV.mk (.ro _ _ _) rfl ?_) | (refine LetB.pre ?_; first | refine LetB.ff (by assumption) ?_ | refine LetB.dect (by omega) ?_ | refine LetB.decf (by omega) ?_) | (refine Gd.pre ?_; first | refine Gd.run rfl ?_ | refine Gd.pass rfl ?_) | (refine Br.pre ?_; first | refine Br.tt rfl ?_ | refine Br.ff rfl ?_) | (refine Ck.pre ?_; first | refine Ck.mk rfl ?_) | (refine CallN.pre ?_; first | refine CallN.pure hE rfl rfl ?_ | refine CallN.pure hM rfl rfl ?_)))); (try (conv => whnf))); exact ⟨.inl rfl, ⟨_, rfl, rfl⟩, trivial⟩)
  · have hq : (a.school == b.school && (a.code.toList == b.code.toList && true)) = false := by simp [hs]
    rw [decide_eq_false hs]
    by_cases hb0 : 0 < a.bundle
    · by_cases hbe : a.bundle = b.bundle
      · rw [decide_eq_true hb0, decide_eq_true hbe]
        cases q <;> cases m <;> (((repeat ((conv => whnf); (first | (refine LetN.pre ?_; first | ((conv => arg 1; whnf); refine LetN.mk ?_)) | (refine As.pre ?_; first | refine As.mk rfl ?_) | (refine LetV.pre ?_; first | refine LetV.mk (.sc (.int _ _)) rfl ?_ | refine LetV.mk (.agg _) rfl ?_ | refine LetV.mk (.ro _ _ _) rfl ?_) | (refine LetB.pre ?_; first | refine LetB.ff (by assumption) ?_ | refine LetB.dect (by omega) ?_) | (refine Gd.pre ?_; first | refine Gd.run rfl ?_ | refine Gd.pass rfl ?_) | (refine Br.pre ?_; first | refine Br.tt rfl ?_ | refine Br.ff rfl ?_) | (refine Ck.pre ?_; first | refine Ck.mk rfl ?_) | (refine CallN.pre ?_; first | refine CallN.pure hE rfl rfl ?_ | refine CallN.pure hM rfl rfl ?_)))); (try (conv => whnf))); exact ⟨.inl rfl, ⟨_, rfl, rfl⟩, trivial⟩)
      · rw [decide_eq_true hb0, decide_eq_false hbe]
        cases q <;> cases m <;> (((repeat ((conv => whnf); (first | (refine LetN.pre ?_; first | ((conv => arg 1; whnf); refine LetN.mk ?_)) | (refine As.pre ?_; first | refine As.mk rfl ?_) | (refine LetV.pre ?_; first | refine LetV.mk (.sc (.int _ _)) rfl ?_ | refine LetV.mk (.agg _) rfl ?_ | refine LetV.mk (.ro _ _ _) rfl ?_) | (refine LetB.pre ?_; first | refine LetB.ff (by assumption) ?_ | refine LetB.decf (by omega) ?_) | (refine Gd.pre ?_; first | refine Gd.run rfl ?_ | refine Gd.pass rfl ?_) | (refine Br.pre ?_; first | refine Br.tt rfl ?_ | refine Br.ff rfl ?_) | (refine Ck.pre ?_; first | refine Ck.mk rfl ?_) | (refine CallN.pre ?_; first | refine CallN.pure hE rfl rfl ?_ | refine CallN.pure hM rfl rfl ?_)))); (try (conv => whnf))); exact ⟨.inl rfl, ⟨_, rfl, rfl⟩, trivial⟩)
    · rw [decide_eq_false hb0]
      by_cases hbe : a.bundle = b.bundle <;> cases q <;> cases m <;> (((repeat ((conv => whnf); (first | (refine LetN.pre ?_; first | ((conv => arg 1; whnf); refine LetN.mk ?_)) | (refine As.pre ?_; first | refine As.mk rfl ?_) | (refine LetV.pre ?_; first | refine LetV.mk (.sc (.int _ _)) rfl ?_ | refine LetV.mk (.agg _) rfl ?_ | refine LetV.mk (.ro _ _ _) rfl ?_) | (refine LetB.pre ?_; first | refine LetB.ff (by assumption) ?_ | refine LetB.dect (by omega) ?_ | refine LetB.decf (by omega) ?_) | (refine Gd.pre ?_; first | refine Gd.run rfl ?_ | refine Gd.pass rfl ?_) | (refine Br.pre ?_; first | refine Br.tt rfl ?_ | refine Br.ff rfl ?_) | (refine Ck.pre ?_; first | refine Ck.mk rfl ?_) | (refine CallN.pre ?_; first | refine CallN.pure hE rfl rfl ?_ | refine CallN.pure hM rfl rfl ?_)))); (try (conv => whnf))); exact ⟨.inl rfl, ⟨_, rfl, rfl⟩, trivial⟩)
end En
end Go.Proofs.Ytiefcppgbnfbfaa
namespace Go.Proofs.Ytiefcppgbnfbfaa
open Go.Proofs.Ytiefcppgbnfbfaa.Am
set_option maxRecDepth 100000
namespace En
/-! ### Free -/
abbrev ac0 : Ac := ⟨0, ⟨#[]⟩, 0, 0, 0, [], 0, []⟩
abbrev oksA (l : List Ac) : Prop := ∀ a ∈ l, okA a
def frP : List Ac → Bool
  | [] => true
  | a :: l => !(l.any fun b => !apP a b) && frP l
theorem getD_ac {l : List Ac} {k : Nat} (h : k < l.length) : acA (l.getD k ac0) = (l.map acA).getD k (.sc undef) := mapD ac0 h
theorem getD_mem {l : List Ac} {k : Nat} (h : k < l.length) : l.getD k ac0 ∈ l := by
  rw [List.getD_eq_getElem?_getD, List.getElem?_eq_getElem h]; exact List.getElem_mem _
theorem Free1_f (a b : Ac) (ha : okA a) (hb : okA b) : AFun Try.prog 50 0 [acA b, .rp (acA a) 0] [] (bool (!apP a b)) [] := by
  refine AFun.of_W T_ok mixed Try.func50 rfl (Nat.le_of_ble_eq_true rfl) rfl ?_
  have h := Apart_f a b ha hb
  generalize apP a b = m at h ⊢
  ((repeat ((conv => whnf); (first | (refine LetN.pre ?_; first | ((conv => arg 1; whnf); refine LetN.mk ?_)) | (refine As.pre ?_; first | refine As.mk rfl ?_) | (refine LetV.pre ?_; first | refine LetV.mk (.agg _) rfl ?_) | (refine Ck.pre ?_; first | refine Ck.mk rfl ?_) | (refine CallN.pre ?_; first | refine CallN.pure h rfl rfl ?_)))); (try (conv => whnf)))
  exact ⟨.inl rfl, ⟨_, rfl, rfl⟩, trivial⟩
abbrev clV (a : Ac) : AV := .clo 50 [.rp (acA a) 0]
set_option maxRecDepth 100000 in
theorem IndexA_f (l : List Ac) (a : Ac) (fl : Fl) (hl : l.length ≤ 1000) (ho : oksA l) (ha : okA a) : AFun Try.prog 79 0 [.ro fl 8 (l.map acA), clV a] [] (int (fidx (fun b => !apP a b) l 0)) [] := by
  refine AFun.of_W T_ok mixed Try.func79 rfl (Nat.le_of_ble_eq_true rfl) rfl ?_
  have hm : (l.map acA).length = l.length := List.length_map _
  ((repeat ((conv => whnf); (first | (refine As.pre ?_; first | refine As.mk rfl ?_) | (refine LetI.pre ?_; first | refine LetI.mk _ rfl ?_) | (refine Ck.pre ?_; first | refine Ck.mk rfl ?_)))); (try (conv => whnf)))
  refine LoopN.weak (s1 := ⟨[(0, .ro fl 8 (l.map acA)), (1, clV a), (7, int l.length), (8, int (0 : Nat))], [], 0⟩) (SW.fr0 (Nat.le_refl _) rfl ⟨.refl _, .refl _, VLe2.int (by rw [List.length_map]), .refl _, trivial⟩) ?_
  refine LoopN.ind T_ok mixed (S := fun k : Nat => ⟨[(0, .ro fl 8 (l.map acA)), (1, clV a), (7, int l.length), (8, int k)], [], 0⟩) (fun k => l.length - k) (fun k => k ≤ l.length ∧ fidx (fun b => !apP a b) l 0 = fidx (fun b => !apP a b) (l.drop k) k) (fun _ => rfl) (fun k hk ih => ?_) 0 ⟨Nat.zero_le _, rfl⟩
  obtain ⟨h1, h2⟩ := hk
  by_cases hlt : k < l.length
  case neg =>
    rw [fidx_end hlt] at h2
    rw [h2]
    clear ih
    ((repeat ((conv => whnf); (first | (refine As.pre ?_; first | refine As.mk rfl ?_) | (refine LetB.pre ?_; first | refine LetB.decf (by omega) ?_) | (refine Br.pre ?_; first | refine Br.ff rfl ?_) | (refine Ck.pre ?_; first | refine Ck.mk rfl ?_)))); (try (conv => whnf)))
    exact ⟨.inl rfl, ⟨_, rfl, rfl⟩, trivial⟩
  case pos =>
    have hld := getD_ac hlt
    have hb := ho _ (getD_mem hlt)
    rw [fidx_drop hlt ac0] at h2
    generalize l.getD k ac0 = b at hld h2 hb
    have hF := Free1_f a b ha hb
    generalize apP a b = m at h2 hF
    cases m with
    | true =>
      rw [if_neg (by decide)] at h2
      ((repeat ((conv => whnf); (first | (refine As.pre ?_; first | refine As.mk rfl ?_ | (refine As.mk ?_ ?_; · ((repeat' (refine andT ?_ ?_)) <;> (first | rfl | assumption | exact decide_eq_true (by omega) | exact decide_eq_true (by dsimp only; omega) | exact decide_eq_true (by simp; omega) | (simp; done))))) | (refine LetV.pre ?_; first | refine LetV.mk (t := 41) _ hld ?_ | refine LetV.mk (.agg _) rfl ?_) | (refine LetI.pre ?_; first | refine LetI.wrap (by omega) (by omega) ?_) | (refine LetB.pre ?_; first | refine LetB.dect (by omega) ?_) | (refine Br.pre ?_; first | refine Br.tt rfl ?_ | refine Br.ff rfl ?_) | (refine Ck.pre ?_; first | refine Ck.mk rfl ?_) | (refine CallN.pre ?_; first | refine CallN.pure hF rfl rfl ?_)))); (try (conv => whnf)))
      refine LoopN.weak ?_ (ih (k + 1) ⟨by omega, h2⟩ (by omega))
      exact SW.fr0 (Nat.le_refl _) rfl ⟨.refl _, .refl _, .refl _, VLe2.int (by omega), trivial⟩
    | false =>
      rw [if_pos (by decide)] at h2
      rw [h2]
      clear ih h2
      ((repeat ((conv => whnf); (first | (refine As.pre ?_; first | refine As.mk rfl ?_ | (refine As.mk ?_ ?_; · ((repeat' (refine andT ?_ ?_)) <;> (first | rfl | assumption | exact decide_eq_true (by omega) | exact decide_eq_true (by dsimp only; omega) | exact decide_eq_true (by simp; omega) | (simp; done))))) | (refine LetV.pre ?_; first | refine LetV.mk (t := 41) _ hld ?_ | refine LetV.mk (.agg _) rfl ?_) | (refine LetB.pre ?_; first | refine LetB.dect (by omega) ?_) | (refine Br.pre ?_; first | refine Br.tt rfl ?_) | (refine Ck.pre ?_; first | refine Ck.mk rfl ?_) | (refine CallN.pre ?_; first | refine CallN.pure hF rfl rfl ?_)))); (try (conv => whnf)))
      exact ⟨.inl rfl, ⟨_, rfl, rfl⟩, trivial⟩
theorem ContainsA_f (l : List Ac) (a : Ac) (fl : Fl) (hl : l.length ≤ 1000) (ho : oksA l) (ha : okA a) : AFun Try.prog 51 0 [.ro fl 8 (l.map acA), clV a] [] (bool (l.any fun b => !apP a b)) [] := by
  refine AFun.of_W T_ok mixed Try.func51 rfl (Nat.le_of_ble_eq_true rfl) rfl ?_
  have h := IndexA_f l a fl hl ho ha
  rw [← ge_any]
  generalize fidx (fun b => !apP a b) l 0 = i at h ⊢
  ((repeat ((conv => whnf); (first | (refine As.pre ?_; first | refine As.mk rfl ?_) | (refine LetB.pre ?_; first | refine LetB.mk _ rfl ?_) | (refine Ck.pre ?_; first | refine Ck.mk rfl ?_) | (refine CallN.pre ?_; first | refine CallN.pure h rfl rfl ?_)))); (try (conv => whnf)))
  exact ⟨.inl rfl, ⟨_, rfl, rfl⟩, trivial⟩
theorem frP_drop {l : List Ac} {k : Nat} (h : k < l.length) : frP (l.drop k) = (!((l.drop (k + 1)).any fun b => !apP (l.getD k ac0) b) && frP (l.drop (k + 1))) := by
  rw [List.drop_eq_getElem_cons h, List.getD_eq_getElem?_getD, List.getElem?_eq_getElem h]; rfl
set_option maxRecDepth 100000 in
theorem Free_f (l : List Ac) (fl : Fl) (hl : l.length ≤ 1000) (ho : oksA l) : AFun Try.prog 21 0 [.ro fl 8 (l.map acA)] [] (bool (frP l)) [] := by
  refine AFun.of_W T_ok mixed Try.func21 rfl (Nat.le_of_ble_eq_true rfl) rfl ?_
  have hm : (l.map acA).length = l.length := List.length_map _
  ((repeat ((conv => whnf); (first | (refine As.pre ?_; first | refine As.mk rfl ?_) | (refine LetI.pre ?_; first | refine LetI.mk _ rfl ?_) | (refine Ck.pre ?_; first | refine Ck.mk rfl ?_)))); (try (conv => whnf)))
  refine LoopN.weak (s1 := ⟨[(0, .ro fl 8 (l.map acA)), (6, .ro fl 8 (l.map acA)), (7, int l.length), (8, int (0 : Nat))], [], 0⟩) (SW.fr0 (Nat.le_refl _) rfl ⟨.refl _, .refl _, VLe2.int (by rw [List.length_map]), .refl _, trivial⟩) ?_
  refine LoopN.ind T_ok mixed (S := fun k : Nat => ⟨[(0, .ro fl 8 (l.map acA)), (6, .ro fl 8 (l.map acA)), (7, int l.length), (8, int k)], [], 0⟩) (fun k => l.length - k) (fun k => k ≤ l.length ∧ frP l = frP (l.drop k)) (fun _ => rfl) (fun k hk ih => ?_) 0 ⟨Nat.zero_le _, rfl⟩
  obtain ⟨h1, h2⟩ := hk
  by_cases hlt : k < l.length
  case neg =>
    rw [List.drop_eq_nil_of_le (by omega), frP] at h2
    rw [h2]
    clear ih
    ((repeat ((conv => whnf); (first | (refine As.pre ?_; first | refine As.mk rfl ?_) | (refine LetB.pre ?_; first | refine LetB.decf (by omega) ?_) | (refine Br.pre ?_; first | refine Br.ff rfl ?_) | (refine Ck.pre ?_; first | refine Ck.mk rfl ?_)))); (try (conv => whnf)))
    exact ⟨.inl rfl, ⟨_, rfl, rfl⟩, trivial⟩
  case pos =>
    have hld := getD_ac hlt
    have ha := ho _ (getD_mem hlt)
    rw [frP_drop hlt] at h2
    generalize l.getD k ac0 = a at hld h2 ha
    have hC := ContainsA_f (l.drop (k + 1)) a ⟨false, fl.nn⟩ (by simp; omega) (fun b hb => ho b (List.mem_of_mem_drop hb)) ha
    generalize ((l.drop (k + 1)).any fun b => !apP a b) = m at h2 hC
    have hdr : AV.ro ⟨false, fl.nn⟩ 8 ((l.drop (k + 1)).map acA) = .ro ⟨false, fl.nn⟩ 8 (List.take (((l.map acA).length : Int).toNat - ((k : Int) + 1).toNat) (List.drop ((k : Int) + 1).toNat (l.map acA))) := by
      have e : ((k : Int) + 1).toNat = k + 1 := by omega
      rw [e, List.map_drop, List.take_of_length_le]
      simp only [List.length_drop, Int.toNat_natCast]; omega
    cases m with
    | true =>
      rw [Bool.not_true, Bool.false_and] at h2
      rw [h2]
      clear ih h2
      ((repeat ((conv => whnf); (first | (refine LetN.pre ?_; first | ((conv => arg 1; whnf); refine LetN.mk ?_)) | (refine As.pre ?_; first | refine As.mk rfl ?_ | (refine As.mk ?_ ?_; · ((repeat' (refine andT ?_ ?_)) <;> (first | rfl | assumption | exact decide_eq_true (by omega) | exact decide_eq_true (by dsimp only; omega) | exact decide_eq_true (by simp; omega) | (simp; done))))) | (refine LetV.pre ?_; first | refine LetV.mk (t := 41) _ hld ?_ | refine LetV.mk (t := 41) _ hdr ?_ | refine LetV.mk (.agg _) rfl ?_) | (refine LetI.pre ?_; first | refine LetI.wrap (by omega) (by omega) ?_) | (refine LetB.pre ?_; first | refine LetB.dect (by omega) ?_) | (refine Br.pre ?_; first | refine Br.tt rfl ?_) | (refine Ck.pre ?_; first | refine Ck.mk rfl ?_) | (refine LetL.pre ?_; first | refine LetL.mk [_] rfl ?_) | (refine CallN.pre ?_; first | refine CallN.lend hC rfl (.same rfl (.clo (.ptr rfl rfl rfl .nil) .nil)) ?_)))); (try (conv => whnf)))
      exact ⟨.inl rfl, ⟨_, rfl, rfl⟩, trivial⟩
    | false =>
      rw [Bool.not_false, Bool.true_and] at h2
      ((repeat ((conv => whnf); (first | (refine LetN.pre ?_; first | ((conv => arg 1; whnf); refine LetN.mk ?_)) | (refine As.pre ?_; first | refine As.mk rfl ?_ | (refine As.mk ?_ ?_; · ((repeat' (refine andT ?_ ?_)) <;> (first | rfl | assumption | exact decide_eq_true (by omega) | exact decide_eq_true (by dsimp only; omega) | exact decide_eq_true (by simp; omega) | (simp; done))))) | (refine LetV.pre ?_; first | refine LetV.mk (t := 41) _ hld ?_ | refine LetV.mk (t := 41) _ hdr ?_ | refine LetV.mk (.agg _) rfl ?_) | (refine LetI.pre ?_; first | refine LetI.wrap (by omega) (by omega) ?_) | (refine LetB.pre ?_; first | refine LetB.dect (by omega) ?_) | (refine Br.pre ?_; first | refine Br.tt rfl ?_ | refine Br.ff rfl ?_) | (refine Ck.pre ?_; first | refine Ck.mk rfl ?_) | (refine LetL.pre ?_; first | refine LetL.mk [_] rfl ?_) | (refine CallN.pre ?_; first | refine CallN.lend hC rfl (.same rfl (.clo (.ptr rfl rfl rfl .nil) .nil)) ?_)))); (try (conv => whnf)))
      refine LoopN.weak ?_ (ih (k + 1) ⟨by omega, h2⟩ (by omega))
      exact SW.fr0 (Nat.le_refl _) rfl ⟨.refl _, .refl _, .refl _, VLe2.int (by omega), trivial⟩
/-! ### The reference's -/
abbrev pairA (l : List Ac) (k : Nat) : Bool := (l.take k).all fun a => apP a (l.getD k ac0)
def frR (l : List Ac) : Bool := (List.range l.length).all (pairA l)
theorem all_drop {α : Type} (f : α → Bool) {l : List α} {k : Nat} (h : k < l.length) (d : α) : (l.drop k).all f = (f (l.getD k d) && (l.drop (k + 1)).all f) := by
  rw [List.drop_eq_getElem_cons h, List.all_cons, List.getD_eq_getElem?_getD, List.getElem?_eq_getElem h]; rfl
theorem all_rdrop (f : Nat → Bool) {n k : Nat} (h : k < n) : ((List.range n).drop k).all f = (f k && ((List.range n).drop (k + 1)).all f) := by
  rw [all_drop f (by simpa using h) 0, List.getD_eq_getElem?_getD, List.getElem?_eq_getElem (by simpa using h), List.getElem_range]; rfl
set_option maxRecDepth 100000 in
theorem refFree_f (l : List Ac) (fl : Fl) (hl : l.length ≤ 1000) (ho : oksA l) : AFun Try.prog 32 0 [.ro fl 8 (l.map acA)] [] (bool (frR l)) [] := by
  refine AFun.of_W T_ok mixed Try.func32 rfl (Nat.le_of_ble_eq_true rfl) rfl ?_
  have hm : (l.map acA).length = l.length := List.length_map _
  ((repeat ((conv => whnf); (first | (refine As.pre ?_; first | refine As.mk rfl ?_) | (refine Ck.pre ?_; first | refine Ck.mk rfl ?_)))); (try (conv => whnf)))
  refine LoopN.weak (s1 := ⟨[(0, .ro fl 8 (l.map acA)), (3, int (0 : Nat))], [], 0⟩) (SW.fr0 (Nat.le_refl _) rfl ⟨.refl _, .refl _, trivial⟩) ?_
  refine LoopN.ind T_ok mixed (S := fun k : Nat => ⟨[(0, .ro fl 8 (l.map acA)), (3, int k)], [], 0⟩) (fun k => l.length - k) (fun k => k ≤ l.length ∧ frR l = ((List.range l.length).drop k).all (pairA l)) (fun _ => rfl) (fun k hk ih => ?_) 0 ⟨Nat.zero_le _, rfl⟩
  obtain ⟨h1, h2⟩ := hk
  by_cases hlt : k < l.length
  case neg =>
    rw [List.drop_eq_nil_of_le (by simp; omega), List.all_nil] at h2
    rw [h2]
    clear ih
    ((repeat ((conv => whnf); (first | (refine As.pre ?_; first | refine As.mk rfl ?_) | (refine LetI.pre ?_; first | refine LetI.mk _ rfl ?_) | (refine LetB.pre ?_; first | refine LetB.decf (by omega) ?_) | (refine Br.pre ?_; first | refine Br.ff rfl ?_) | (refine Ck.pre ?_; first | refine Ck.mk rfl ?_)))); (try (conv => whnf)))
    exact ⟨.inl rfl, ⟨_, rfl, rfl⟩, trivial⟩
  case pos =>
    have hld := getD_ac hlt
    have ha := ho _ (getD_mem hlt)
    rw [all_rdrop _ hlt] at h2
    have hpr : pairA l k = ((l.take k).drop 0).all fun b => apP b (l.getD k ac0) := rfl
    have hgt : ∀ i, i < k → (l.take k).getD i ac0 = l.getD i ac0 := fun i hi => by
      rw [List.getD_eq_getElem?_getD, List.getD_eq_getElem?_getD, List.getElem?_take_of_lt hi]
    have hlk : (l.take k).length = k := by rw [List.length_take]; omega
    generalize l.getD k ac0 = a at hld ha hpr
    generalize pairA l k = pr at h2 hpr
    ((repeat ((conv => whnf); (first | (refine As.pre ?_; first | refine As.mk rfl ?_) | (refine LetI.pre ?_; first | refine LetI.mk _ rfl ?_) | (refine LetB.pre ?_; first | refine LetB.dect (by omega) ?_) | (refine Br.pre ?_; first | refine Br.tt rfl ?_) | (refine Ck.pre ?_; first | refine Ck.mk rfl ?_)))); (try (conv => whnf)))
    refine LoopN.weak (s1 := ⟨[(0, .ro fl 8 (l.map acA)), (3, int k), (4, int (0 : Nat))], [], 0⟩) (SW.fr0 (Nat.le_refl _) rfl ⟨.refl _, .refl _, .refl _, trivial⟩) ?_
    refine LoopN.ind T_ok mixed (S := fun i : Nat => ⟨[(0, .ro fl 8 (l.map acA)), (3, int k), (4, int i)], [], 0⟩) (fun i => k - i) (fun i => i ≤ k ∧ pr = ((l.take k).drop i).all fun b => apP b a) (fun _ => rfl) (fun i hi ihi => ?_) 0 ⟨Nat.zero_le _, hpr⟩
    obtain ⟨g1, g2⟩ := hi
    by_cases hli : i < k
    case neg =>
      rw [List.drop_eq_nil_of_le (by omega), List.all_nil] at g2
      rw [g2, Bool.true_and] at h2
      clear ihi
      ((repeat ((conv => whnf); (first | (refine As.pre ?_; first | refine As.mk rfl ?_) | (refine LetI.pre ?_; first | refine LetI.wrap (by omega) (by omega) ?_) | (refine LetB.pre ?_; first | refine LetB.decf (by omega) ?_) | (refine Br.pre ?_; first | refine Br.ff rfl ?_) | (refine Ck.pre ?_; first | refine Ck.mk rfl ?_)))); (try (conv => whnf)))
      refine LoopN.weak ?_ (ih (k + 1) ⟨by omega, h2⟩ (by omega))
      exact SW.fr0 (Nat.le_refl _) rfl ⟨.refl _, VLe2.int (by omega), trivial⟩
    case pos =>
      have hlb := getD_ac (show i < l.length by omega)
      have hb := ho _ (getD_mem (show i < l.length by omega))
      rw [all_drop _ (by omega) ac0, hgt i hli] at g2
      generalize l.getD i ac0 = b at hlb hb g2
      have hA := refApart_f b a hb ha
      generalize apP b a = m at hA g2
      cases m with
      | true =>
        rw [Bool.true_and] at g2
        clear ih
        ((repeat ((conv => whnf); (first | (refine As.pre ?_; first | refine As.mk rfl ?_ | (refine As.mk ?_ ?_; · ((repeat' (refine andT ?_ ?_)) <;> (first | rfl | assumption | exact decide_eq_true (by omega) | exact decide_eq_true (by dsimp only; omega) | exact decide_eq_true (by simp; omega) | (simp; done))))) | (refine LetV.pre ?_; first | refine LetV.mk (t := 41) _ hlb ?_ | refine LetV.mk (t := 41) _ hld ?_ | refine LetV.mk (.agg _) rfl ?_) | (refine LetI.pre ?_; first | refine LetI.wrap (by omega) (by omega) ?_) | (refine LetB.pre ?_; first | refine LetB.dect (by omega) ?_) | (refine Br.pre ?_; first | refine Br.tt rfl ?_ | refine Br.ff rfl ?_) | (refine Ck.pre ?_; first | refine Ck.drawn (by kernel_rfl) ?_ | refine Ck.mk rfl ?_) | (refine CallN.pre ?_; first | refine CallN.pure hA rfl rfl ?_)))); (try (conv => whnf)))
        refine LoopN.weak ?_ (ihi (i + 1) ⟨by omega, g2⟩ (by omega))
        exact SW.fr0 (Nat.le_refl _) rfl ⟨.refl _, .refl _, VLe2.int (by omega), trivial⟩
      | false =>
        rw [Bool.false_and] at g2
        rw [g2, Bool.false_and] at h2
        rw [h2]
        clear ih ihi h2 g2
        ((repeat ((conv => whnf); (first | (refine As.pre ?_; first | refine As.mk rfl ?_ | (refine As.mk ?_ ?_; · ((repeat' (refine andT ?_ ?_)) <;> (first | rfl | assumption | exact decide_eq_true (by omega) | exact decide_eq_true (by dsimp only; omega) | exact decide_eq_true (by simp; omega) | (simp; done))))) | (refine LetV.pre ?_; first | refine LetV.mk (t := 41) _ hlb ?_ | refine LetV.mk (t := 41) _ hld ?_ | refine LetV.mk (.agg _) rfl ?_) | (refine LetB.pre ?_; first | refine LetB.dect (by omega) ?_) | (refine Br.pre ?_; first | refine Br.tt rfl ?_) | (refine Ck.pre ?_; first | refine Ck.drawn (by kernel_rfl) ?_ | refine Ck.mk rfl ?_) | (refine CallN.pre ?_; first | refine CallN.pure hA rfl rfl ?_)))); (try (conv => whnf)))
        exact ⟨.inl rfl, ⟨_, rfl, rfl⟩, trivial⟩
end En
end Go.Proofs.Ytiefcppgbnfbfaa
namespace Go.Proofs.Ytiefcppgbnfbfaa
open Go.Proofs.Ytiefcppgbnfbfaa.Am
set_option maxRecDepth 100000
namespace En
/-! ### The order of strings -/
abbrev cmpS (a b : ByteArray) : Int := Go.Lib.compareBytes a.data.toList b.data.toList
set_option maxHeartbeats 1000000 in
set_option maxRecDepth 100000 in
theorem CompareString_c (a b : ByteArray) (w : World) : Calls Try.prog 101 #[.string a, .string b] w fun e w' => e = .returned (.int .i64 (cmpS a b)) ∧ w' = w := by
  go_enter Try.func101, Try.ntmps101
  go_wp2
  rw [run_callFunc_extern Try.func105 (by kernel_rfl) (by kernel_rfl) (by kernel_rfl) (e := Extern.BytealgCompare.compare) (by kernel_rfl), Lib.run_compareString]
  simp only [Result.andThen]
  rw [Oper.upon_value]
  go_wp2
  go_ret
  exact ⟨rfl, rfl⟩
theorem CompareString_f (a b : ByteArray) : AFun Try.prog 101 0 [str a, str b] [] (int (cmpS a b)) [] := by
  intro w g xs hl hx hH _
  obtain ⟨x, y, rfl⟩ : ∃ x y, xs = #[x, y] := by
    rcases xs with ⟨l⟩
    rcases l with _ | ⟨a, _ | ⟨b, _ | ⟨d, l⟩⟩⟩
    all_goals simp at hl
    exact ⟨a, b, rfl⟩
  have h0 := (hx 0 _ x rfl rfl).sc_inv
  have h1 := (hx 1 _ y rfl rfl).sc_inv
  subst h0 h1
  refine (CompareString_c a b w).mono ?_
  rintro e w' ⟨rfl, rfl⟩
  exact ⟨_, g, rfl, AdvP.refl .., .sc _ rfl, hH⟩
theorem CompareT_f (a b : ByteArray) : AFun Try.prog 83 0 [str a, str b] [] (int (cmpS a b)) [] := by
  refine AFun.of_W T_ok mixed Try.func83 rfl (Nat.le_of_ble_eq_true rfl) rfl ?_
  have h := CompareString_f a b
  ((repeat ((conv => whnf); (first | (refine As.pre ?_; first | refine As.mk rfl ?_) | (refine Ck.pre ?_; first | refine Ck.mk rfl ?_) | (refine CallN.pre ?_; first | refine CallN.pure h rfl rfl ?_)))); (try (conv => whnf)))
  exact ⟨.inl rfl, ⟨_, rfl, rfl⟩, trivial⟩
end En
end Go.Proofs.Ytiefcppgbnfbfaa
namespace Go.Proofs.Ytiefcppgbnfbfaa
open Go.Proofs.Ytiefcppgbnfbfaa.Am
set_option maxRecDepth 100000
namespace En
/-! ### The order of lists -/
def cmpLs : List Int → List Int → Int
  | [], [] => 0
  | [], _ :: _ => -1
  | _ :: _, [] => 1
  | x :: xs, y :: ys => if cmpI x y = 0 then cmpLs xs ys else cmpI x y
theorem cmpLs_drop {xs ys : List Int} {k : Nat} (h1 : k < xs.length) (h2 : k < ys.length) : cmpLs (xs.drop k) (ys.drop k) = if cmpI (xs.getD k 0) (ys.getD k 0) = 0 then cmpLs (xs.drop (k + 1)) (ys.drop (k + 1)) else cmpI (xs.getD k 0) (ys.getD k 0) := by
  rw [List.drop_eq_getElem_cons h1, List.drop_eq_getElem_cons h2, List.getD_eq_getElem?_getD, List.getD_eq_getElem?_getD, List.getElem?_eq_getElem h1, List.getElem?_eq_getElem h2]; rfl
theorem cmpLs_gt {xs ys : List Int} {k : Nat} (h1 : k < xs.length) (h2 : ¬ k < ys.length) : cmpLs (xs.drop k) (ys.drop k) = 1 := by
  rw [List.drop_eq_getElem_cons h1, show ys.drop k = [] from List.drop_eq_nil_of_le (by omega)]; rfl
theorem cmpLs_lt {xs ys : List Int} {k : Nat} (h1 : ¬ k < xs.length) (h2 : k < ys.length) : cmpLs (xs.drop k) (ys.drop k) = -1 := by
  rw [List.drop_eq_getElem_cons h2, show xs.drop k = [] from List.drop_eq_nil_of_le (by omega)]; rfl
theorem cmpLs_eq {xs ys : List Int} {k : Nat} (h1 : ¬ k < xs.length) (h2 : ¬ k < ys.length) : cmpLs (xs.drop k) (ys.drop k) = 0 := by
  rw [show ys.drop k = [] from List.drop_eq_nil_of_le (by omega), show xs.drop k = [] from List.drop_eq_nil_of_le (by omega)]; rfl
theorem cmpI_lt {a b : Int} (h : a < b) : cmpI a b = -1 := if_pos h
theorem cmpI_gt {a b : Int} (h : b < a) : cmpI a b = 1 := (if_neg (by omega)).trans (if_pos h)
theorem cmpI_eq {a b : Int} (h : a = b) : cmpI a b = 0 := (if_neg (by omega)).trans (if_neg (by omega))
set_option maxRecDepth 100000 in
theorem CompareL_f (xs ys : List Int) (fl fl' : Fl) (hx : xs.length ≤ 1000) (hy : ys.length ≤ 1000) : AFun Try.prog 84 0 [ro1 fl xs, ro1 fl' ys] [] (int (cmpLs xs ys)) [] := by
  refine AFun.of_W T_ok mixed Try.func84 rfl (Nat.le_of_ble_eq_true rfl) rfl ?_
  have hmx : (xs.map int).length = xs.length := List.length_map _
  have hmy : (ys.map int).length = ys.length := List.length_map _
  ((repeat ((conv => whnf); (first | (refine As.pre ?_; first | refine As.mk rfl ?_) | (refine LetI.pre ?_; first | refine LetI.mk _ rfl ?_) | (refine Ck.pre ?_; first | refine Ck.mk rfl ?_)))); (try (conv => whnf)))
  refine LoopN.weak (s1 := ⟨[(0, ro1 fl xs), (1, ro1 fl' ys), (9, ro1 fl xs), (10, int xs.length), (11, int (0 : Nat))], [], 0⟩) (SW.fr0 (Nat.le_refl _) rfl ⟨.refl _, .refl _, .refl _, VLe2.int (by rw [List.length_map]), .refl _, trivial⟩) ?_
  refine LoopN.ind T_ok mixed (S := fun k : Nat => ⟨[(0, ro1 fl xs), (1, ro1 fl' ys), (9, ro1 fl xs), (10, int xs.length), (11, int k)], [], 0⟩) (fun k => xs.length - k) (fun k => k ≤ xs.length ∧ k ≤ ys.length ∧ cmpLs xs ys = cmpLs (xs.drop k) (ys.drop k)) (fun _ => rfl) (fun k hk ih => ?_) 0 ⟨Nat.zero_le _, Nat.zero_le _, rfl⟩
  obtain ⟨h1, h0, h2⟩ := hk
  by_cases hlt : k < xs.length
  case neg =>
    by_cases hly : k < ys.length
    · rw [cmpLs_lt hlt hly] at h2
      rw [h2]
      clear ih
      ((repeat ((conv => whnf); (first | (refine As.pre ?_; first | refine As.mk rfl ?_) | (refine LetI.pre ?_; first | refine LetI.mk _ rfl ?_) | (refine LetB.pre ?_; first | refine LetB.dect (by omega) ?_ | refine LetB.decf (by omega) ?_) | (refine Br.pre ?_; first | refine Br.tt rfl ?_ | refine Br.ff rfl ?_) | (refine Ck.pre ?_; first | refine Ck.mk rfl ?_)))); (try (conv => whnf)))
      exact ⟨.inl rfl, ⟨_, rfl, rfl⟩, trivial⟩
    · rw [cmpLs_eq hlt hly] at h2
      rw [h2]
      clear ih
      ((repeat ((conv => whnf); (first | (refine As.pre ?_; first | refine As.mk rfl ?_) | (refine LetI.pre ?_; first | refine LetI.mk _ rfl ?_) | (refine LetB.pre ?_; first | refine LetB.decf (by omega) ?_) | (refine Br.pre ?_; first | refine Br.ff rfl ?_) | (refine Ck.pre ?_; first | refine Ck.mk rfl ?_)))); (try (conv => whnf)))
      exact ⟨.inl rfl, ⟨_, rfl, rfl⟩, trivial⟩
  case pos =>
    have hlx := getD_int hlt
    by_cases hly : k < ys.length
    case neg =>
      rw [cmpLs_gt hlt hly] at h2
      rw [h2]
      clear ih
      generalize xs.getD k 0 = x at hlx
      ((repeat ((conv => whnf); (first | (refine As.pre ?_; first | refine As.mk rfl ?_ | (refine As.mk ?_ ?_; · ((repeat' (refine andT ?_ ?_)) <;> (first | rfl | assumption | exact decide_eq_true (by omega) | exact decide_eq_true (by dsimp only; omega) | exact decide_eq_true (by simp; omega) | (simp; done))))) | (refine LetV.pre ?_; first | refine LetV.mk (t := 22) _ hlx ?_ | refine LetV.mk (.sc (.int _ _)) rfl ?_) | (refine LetI.pre ?_; first | refine LetI.mk _ rfl ?_) | (refine LetB.pre ?_; first | refine LetB.dect (by omega) ?_) | (refine Br.pre ?_; first | refine Br.tt rfl ?_) | (refine Ck.pre ?_; first | refine Ck.mk rfl ?_)))); (try (conv => whnf)))
      exact ⟨.inl rfl, ⟨_, rfl, rfl⟩, trivial⟩
    have hlv := getD_int hly
    rw [cmpLs_drop hlt hly] at h2
    generalize xs.getD k 0 = x at hlx h2
    generalize ys.getD k 0 = y at hlv h2
    have hC := Compare_f x y
    generalize cmpI x y = c at hC h2
    by_cases hc : c = 0
    · rw [if_pos hc] at h2
      ((repeat ((conv => whnf); (first | (refine As.pre ?_; first | refine As.mk rfl ?_ | (refine As.mk ?_ ?_; · ((repeat' (refine andT ?_ ?_)) <;> (first | rfl | assumption | exact decide_eq_true (by omega) | exact decide_eq_true (by dsimp only; omega) | exact decide_eq_true (by simp; omega) | (simp; done))))) | (refine LetV.pre ?_; first | refine LetV.mk (t := 22) _ hlx ?_ | refine LetV.mk (t := 22) _ hlv ?_ | refine LetV.mk (.sc (.int _ _)) rfl ?_) | (refine LetI.pre ?_; first | refine LetI.wrap (by omega) (by omega) ?_ | refine LetI.mk _ rfl ?_) | (refine LetB.pre ?_; first | refine LetB.dect (by omega) ?_ | refine LetB.decf (by omega) ?_ | refine LetB.bnef (by omega) ?_) | (refine Br.pre ?_; first | refine Br.tt rfl ?_ | refine Br.ff rfl ?_) | (refine Ck.pre ?_; first | refine Ck.mk rfl ?_) | (refine CallN.pre ?_; first | refine CallN.pure hC rfl rfl ?_)))); (try (conv => whnf)))
      refine LoopN.weak ?_ (ih (k + 1) ⟨by omega, by omega, h2⟩ (by omega))
      exact SW.fr0 (Nat.le_refl _) rfl ⟨.refl _, .refl _, .refl _, .refl _, VLe2.int (by omega), trivial⟩
    · rw [if_neg hc] at h2
      rw [h2]
      clear ih
      ((repeat ((conv => whnf); (first | (refine As.pre ?_; first | refine As.mk rfl ?_ | (refine As.mk ?_ ?_; · ((repeat' (refine andT ?_ ?_)) <;> (first | rfl | assumption | exact decide_eq_true (by omega) | exact decide_eq_true (by dsimp only; omega) | exact decide_eq_true (by simp; omega) | (simp; done))))) | (refine LetV.pre ?_; first | refine LetV.mk (t := 22) _ hlx ?_ | refine LetV.mk (t := 22) _ hlv ?_ | refine LetV.mk (.sc (.int _ _)) rfl ?_) | (refine LetI.pre ?_; first | refine LetI.mk _ rfl ?_) | (refine LetB.pre ?_; first | refine LetB.dect (by omega) ?_ | refine LetB.decf (by omega) ?_ | refine LetB.bnet (by omega) ?_) | (refine Br.pre ?_; first | refine Br.tt rfl ?_ | refine Br.ff rfl ?_) | (refine Ck.pre ?_; first | refine Ck.mk rfl ?_) | (refine CallN.pre ?_; first | refine CallN.pure hC rfl rfl ?_)))); (try (conv => whnf)))
      exact ⟨.inl rfl, ⟨_, rfl, rfl⟩, trivial⟩
set_option maxRecDepth 100000 in
theorem refCompareL_f (xs ys : List Int) (fl fl' : Fl) (hx : xs.length ≤ 1000) (hy : ys.length ≤ 1000) : AFun Try.prog 57 0 [ro1 fl xs, ro1 fl' ys] [] (int (cmpLs xs ys)) [] := by
  refine AFun.of_W T_ok mixed Try.func57 rfl (Nat.le_of_ble_eq_true rfl) rfl ?_
  have hmx : (xs.map int).length = xs.length := List.length_map _
  have hmy : (ys.map int).length = ys.length := List.length_map _
  ((repeat ((conv => whnf); (first | (refine As.pre ?_; first | refine As.mk rfl ?_) | (refine Ck.pre ?_; first | refine Ck.mk rfl ?_)))); (try (conv => whnf)))
  refine LoopN.weak (s1 := ⟨[(0, ro1 fl xs), (1, ro1 fl' ys), (5, int (0 : Nat))], [], 0⟩) (SW.fr0 (Nat.le_refl _) rfl ⟨.refl _, .refl _, .refl _, trivial⟩) ?_
  refine LoopN.ind T_ok mixed (S := fun k : Nat => ⟨[(0, ro1 fl xs), (1, ro1 fl' ys), (5, int k)], [], 0⟩) (fun k => xs.length - k) (fun k => k ≤ xs.length ∧ k ≤ ys.length ∧ cmpLs xs ys = cmpLs (xs.drop k) (ys.drop k)) (fun _ => rfl) (fun k hk ih => ?_) 0 ⟨Nat.zero_le _, Nat.zero_le _, rfl⟩
  obtain ⟨h1, h0, h2⟩ := hk
  by_cases hlt : k < xs.length
  case neg =>
    by_cases hly : k < ys.length
    · rw [cmpLs_lt hlt hly] at h2
      rw [h2]
      clear ih
      ((repeat ((conv => whnf); (first | (refine As.pre ?_; first | refine As.mk rfl ?_) | (refine LetI.pre ?_; first | refine LetI.mk _ rfl ?_) | (refine LetB.pre ?_; first | refine LetB.dect (by omega) ?_ | refine LetB.decf (by omega) ?_) | (refine Gd.pre ?_; first | refine Gd.pass rfl ?_) | (refine Br.pre ?_; first | refine Br.tt rfl ?_ | refine Br.ff rfl ?_) | (refine Ck.pre ?_; first | refine Ck.mk rfl ?_)))); (try (conv => whnf)))
      exact ⟨.inl rfl, ⟨_, rfl, rfl⟩, trivial⟩
    · rw [cmpLs_eq hlt hly] at h2
      rw [h2]
      clear ih
      ((repeat ((conv => whnf); (first | (refine As.pre ?_; first | refine As.mk rfl ?_) | (refine LetI.pre ?_; first | refine LetI.mk _ rfl ?_) | (refine LetB.pre ?_; first | refine LetB.decf (by omega) ?_) | (refine Gd.pre ?_; first | refine Gd.pass rfl ?_) | (refine Br.pre ?_; first | refine Br.ff rfl ?_) | (refine Ck.pre ?_; first | refine Ck.mk rfl ?_)))); (try (conv => whnf)))
      exact ⟨.inl rfl, ⟨_, rfl, rfl⟩, trivial⟩
  case pos =>
    have hlx := getD_int hlt
    by_cases hly : k < ys.length
    case neg =>
      rw [cmpLs_gt hlt hly] at h2
      rw [h2]
      clear ih
      generalize xs.getD k 0 = x at hlx
      ((repeat ((conv => whnf); (first | (refine As.pre ?_; first | refine As.mk rfl ?_) | (refine LetI.pre ?_; first | refine LetI.mk _ rfl ?_) | (refine LetB.pre ?_; first | refine LetB.dect (by omega) ?_ | refine LetB.decf (by omega) ?_) | (refine Gd.pre ?_; first | refine Gd.run rfl ?_) | (refine Br.pre ?_; first | refine Br.tt rfl ?_ | refine Br.ff rfl ?_) | (refine Ck.pre ?_; first | refine Ck.mk rfl ?_)))); (try (conv => whnf)))
      exact ⟨.inl rfl, ⟨_, rfl, rfl⟩, trivial⟩
    have hlv := getD_int hly
    rw [cmpLs_drop hlt hly] at h2
    generalize xs.getD k 0 = x at hlx h2
    generalize ys.getD k 0 = y at hlv h2
    by_cases hc : x < y
    · rw [cmpI_lt hc, if_neg (by decide)] at h2
      rw [h2]
      clear ih
      ((repeat ((conv => whnf); (first | (refine As.pre ?_; first | refine As.mk rfl ?_ | (refine As.mk ?_ ?_; · ((repeat' (refine andT ?_ ?_)) <;> (first | rfl | assumption | exact decide_eq_true (by omega) | exact decide_eq_true (by dsimp only; omega) | exact decide_eq_true (by simp; omega) | (simp; done))))) | (refine LetV.pre ?_; first | refine LetV.mk (t := 22) _ hlx ?_ | refine LetV.mk (t := 22) _ hlv ?_ | refine LetV.mk (.sc (.int _ _)) rfl ?_) | (refine LetI.pre ?_; first | refine LetI.mk _ rfl ?_) | (refine LetB.pre ?_; first | refine LetB.dect (by omega) ?_) | (refine Gd.pre ?_; first | refine Gd.run rfl ?_) | (refine Br.pre ?_; first | refine Br.tt rfl ?_) | (refine Ck.pre ?_; first | refine Ck.drawn (by kernel_rfl) ?_ | refine Ck.mk rfl ?_)))); (try (conv => whnf)))
      exact ⟨.inl rfl, ⟨_, rfl, rfl⟩, trivial⟩
    · by_cases hd : y < x
      · rw [cmpI_gt hd, if_neg (by decide)] at h2
        rw [h2]
        clear ih
        ((repeat ((conv => whnf); (first | (refine As.pre ?_; first | refine As.mk rfl ?_ | (refine As.mk ?_ ?_; · ((repeat' (refine andT ?_ ?_)) <;> (first | rfl | assumption | exact decide_eq_true (by omega) | exact decide_eq_true (by dsimp only; omega) | exact decide_eq_true (by simp; omega) | (simp; done))))) | (refine LetV.pre ?_; first | refine LetV.mk (t := 22) _ hlx ?_ | refine LetV.mk (t := 22) _ hlv ?_ | refine LetV.mk (.sc (.int _ _)) rfl ?_) | (refine LetI.pre ?_; first | refine LetI.mk _ rfl ?_) | (refine LetB.pre ?_; first | refine LetB.dect (by omega) ?_ | refine LetB.decf (by omega) ?_) | (refine Gd.pre ?_; first | refine Gd.run rfl ?_) | (refine Br.pre ?_; first | refine Br.tt rfl ?_ | refine Br.ff rfl ?_) | (refine Ck.pre ?_; first | refine Ck.drawn (by kernel_rfl) ?_ | refine Ck.mk rfl ?_)))); (try (conv => whnf)))
        exact ⟨.inl rfl, ⟨_, rfl, rfl⟩, trivial⟩
      · rw [cmpI_eq (by omega), if_pos rfl] at h2
        ((repeat ((conv => whnf); (first | (refine As.pre ?_; first | refine As.mk rfl ?_ | (refine As.mk ?_ ?_; · ((repeat' (refine andT ?_ ?_)) <;> (first | rfl | assumption | exact decide_eq_true (by omega) | exact decide_eq_true (by dsimp only; omega) | exact decide_eq_true (by simp; omega) | (simp; done))))) | (refine LetV.pre ?_; first | refine LetV.mk (t := 22) _ hlx ?_ | refine LetV.mk (t := 22) _ hlv ?_ | refine LetV.mk (.sc (.int _ _)) rfl ?_) | (refine LetI.pre ?_; first | refine LetI.wrap (by omega) (by omega) ?_ | refine LetI.mk _ rfl ?_) | (refine LetB.pre ?_; first | refine LetB.dect (by omega) ?_ | refine LetB.decf (by omega) ?_) | (refine Gd.pre ?_; first | refine Gd.run rfl ?_) | (refine Br.pre ?_; first | refine Br.tt rfl ?_ | refine Br.ff rfl ?_) | (refine Ck.pre ?_; first | refine Ck.drawn (by kernel_rfl) ?_ | refine Ck.mk rfl ?_)))); (try (conv => whnf)))
        refine LoopN.weak ?_ (ih (k + 1) ⟨by omega, by omega, h2⟩ (by omega))
        exact SW.fr0 (Nat.le_refl _) rfl ⟨.refl _, .refl _, VLe2.int (by omega), trivial⟩
end En
end Go.Proofs.Ytiefcppgbnfbfaa
namespace Go.Proofs.Ytiefcppgbnfbfaa
open Go.Proofs.Ytiefcppgbnfbfaa.Am
set_option maxRecDepth 100000
namespace En
/-! ### The order of achievements -/
abbrev cmpsA (a b : Ac) : List Int := [cmpI a.school b.school, cmpS a.code b.code, cmpI a.day b.day, cmpLs a.src b.src, cmpLs a.path b.path, cmpI a.bundle b.bundle, cmpI a.credits b.credits, cmpI a.grade b.grade]
def cmpA (a b : Ac) : Int := firstNZ (cmpsA a b)
theorem Or8_f (a b c d e f g h : Int) (fl : Fl) : AFun Try.prog 81 0 [.ro fl 1 [int a, int b, int c, int d, int e, int f, int g, int h]] [] (int (firstNZ [a, b, c, d, e, f, g, h])) [] := Or_f [a, b, c, d, e, f, g, h] fl (by simp)
set_option maxHeartbeats 1600000 in
set_option maxRecDepth 100000 in
theorem compareA_f (a b : Ac) (ha : okA a) (hb : okA b) : AFun Try.prog 56 0 [acA a, acA b] [] (int (cmpA a b)) [] := by
  refine AFun.of_W T_ok mixed Try.func56 rfl (Nat.le_of_ble_eq_true rfl) rfl ?_
  have c1 := CompareT_f a.code b.code
  have c2 := CompareL_f a.src b.src {} {} ha.1 hb.1
  have c3 := CompareL_f a.path b.path {} {} ha.2 hb.2
  unfold cmpA cmpsA
  generalize cmpS a.code b.code = s at c1 ⊢
  generalize cmpLs a.src b.src = x at c2 ⊢
  generalize cmpLs a.path b.path = y at c3 ⊢
  have hO := Or8_f (cmpI a.school b.school) s (cmpI a.day b.day) x y (cmpI a.bundle b.bundle) (cmpI a.credits b.credits) (cmpI a.grade b.grade) ⟨true, true⟩
  ((repeat ((conv => whnf); (first | (refine LetN.pre ?_; first | ((conv => arg 1; whnf); refine LetN.mk ?_)) | (refine As.pre ?_; first | refine As.mk rfl ?_) | (refine LetV.pre ?_; first | refine LetV.mk (.sc (.int _ _)) rfl ?_ | refine LetV.mk (.sc _) rfl ?_ | refine LetV.mk (.ro _ _ _) rfl ?_) | (refine Ck.pre ?_; first | refine Ck.drawn (by kernel_rfl) ?_ | refine Ck.mk rfl ?_) | (refine CallN.pre ?_; first | refine CallN.pure c1 rfl rfl ?_ | refine CallN.pure c2 rfl rfl ?_ | refine CallN.pure c3 rfl rfl ?_ | refine CallN.pure (Compare_f _ _) rfl rfl ?_ | refine CallN.pure hO rfl rfl ?_)))); (try (conv => whnf)))
  exact ⟨.inl rfl, ⟨_, rfl, rfl⟩, trivial⟩
theorem SameA_f (a b : Ac) (ha : okA a) (hb : okA b) : AFun Try.prog 28 0 [acA a, acA b] [] (bool (decide (cmpA a b = 0))) [] := by
  refine AFun.of_W T_ok mixed Try.func28 rfl (Nat.le_of_ble_eq_true rfl) rfl ?_
  have h := compareA_f a b ha hb
  generalize cmpA a b = c at h ⊢
  ((repeat ((conv => whnf); (first | (refine LetN.pre ?_; first | ((conv => arg 1; whnf); refine LetN.mk ?_)) | (refine As.pre ?_; first | refine As.mk rfl ?_) | (refine LetV.pre ?_; first | refine LetV.mk (.agg _) rfl ?_) | (refine LetB.pre ?_; first | refine LetB.mk _ rfl ?_) | (refine Ck.pre ?_; first | refine Ck.mk rfl ?_) | (refine CallN.pre ?_; first | refine CallN.pure h rfl rfl ?_)))); (try (conv => whnf)))
  exact ⟨.inl rfl, ⟨_, rfl, rfl⟩, trivial⟩
theorem LessA_f (a b : Ac) (ha : okA a) (hb : okA b) : AFun Try.prog 30 0 [acA a, acA b] [] (bool (decide (cmpA a b < 0))) [] := by
  refine AFun.of_W T_ok mixed Try.func30 rfl (Nat.le_of_ble_eq_true rfl) rfl ?_
  have h := compareA_f a b ha hb
  generalize cmpA a b = c at h ⊢
  ((repeat ((conv => whnf); (first | (refine LetN.pre ?_; first | ((conv => arg 1; whnf); refine LetN.mk ?_)) | (refine As.pre ?_; first | refine As.mk rfl ?_) | (refine LetV.pre ?_; first | refine LetV.mk (.agg _) rfl ?_) | (refine LetB.pre ?_; first | refine LetB.mk _ rfl ?_) | (refine Ck.pre ?_; first | refine Ck.mk rfl ?_) | (refine CallN.pre ?_; first | refine CallN.pure h rfl rfl ?_)))); (try (conv => whnf)))
  exact ⟨.inl rfl, ⟨_, rfl, rfl⟩, trivial⟩
/-! ### The reference's -/
def sameR (a b : Ac) : Bool := decide (a.src = b.src) && decide (a.path = b.path) && (decide (a.school = b.school) && decide (a.code = b.code)) && decide (a.credits = b.credits) && decide (a.grade = b.grade) && decide (a.day = b.day) && decide (a.bundle = b.bundle)
set_option maxHeartbeats 1600000 in
set_option maxRecDepth 100000 in
theorem refSameA_f (a b : Ac) (ha : okA a) (hb : okA b) : AFun Try.prog 29 0 [acA a, acA b] [] (bool (sameR a b)) [] := by
  refine AFun.of_W T_ok mixed Try.func29 rfl (Nat.le_of_ble_eq_true rfl) rfl ?_
  have hS := SameInts_f a.src b.src {} {} ha.1 hb.1
  have hP := SameInts_f a.path b.path {} {} ha.2 hb.2
  have hc := toL_eq a.code b.code
  unfold sameR
  generalize decide (a.src = b.src) = qs at hS ⊢
  generalize decide (a.path = b.path) = qp at hP ⊢
  generalize decide (a.code = b.code) = c at hc ⊢
  cases qs with
  | false =>
    cases qp <;> (((repeat ((conv => whnf); (first | (refine LetN.pre ?_; first | ((conv => arg 1; whnf); refine LetN.mk ?_)) | (refine As.pre ?_; first | refine As.mk rfl ?_) | (refine LetV.pre ?_; first | refine LetV.mk (.ro _ _ _) rfl ?_) | (refine Gd.pre ?_; first | refine Gd.pass rfl ?_) | (refine Ck.pre ?_; first | refine Ck.mk rfl ?_) | (refine CallN.pre ?_; first | refine CallN.pure hS rfl rfl ?_ | refine CallN.pure hP rfl rfl ?_)))); (try (conv => whnf))); exact ⟨.inl rfl, ⟨_, rfl, rfl⟩, trivial⟩)
  | true =>
    cases qp with
    | false =>
      ((repeat ((conv => whnf); (first | (refine LetN.pre ?_; first | ((conv => arg 1; whnf); refine LetN.mk ?_)) | (refine As.pre ?_; first | refine As.mk rfl ?_) | (refine LetV.pre ?_; first | refine LetV.mk (.ro _ _ _) rfl ?_) | (refine Gd.pre ?_; first | refine Gd.run rfl ?_ | refine Gd.pass rfl ?_) | (refine Ck.pre ?_; first | refine Ck.mk rfl ?_) | (refine CallN.pre ?_; first | refine CallN.pure hS rfl rfl ?_ | refine CallN.pure hP rfl rfl ?_)))); (try (conv => whnf)))
      exact ⟨.inl rfl, ⟨_, rfl, rfl⟩, trivial⟩
    | true =>
      by_cases hs : a.school = b.school
      case neg =>
        have hq : (a.school == b.school && (a.code.toList == b.code.toList && true)) = false := by simp [hs]
        rw [decide_eq_false hs]
        ((repeat ((conv => whnf); (first | (refine LetN.pre ?_; first | ((conv => arg 1; whnf); refine LetN.mk ?_)) | (refine As.pre ?_; first | refine As.mk rfl ?_) | (refine LetV.pre ?_; first | refine LetV.mk (.agg _) rfl ?_ | refine LetV.mk (.ro _ _ _) rfl ?_) | (refine LetB.pre ?_; first | refine LetB.ff (by assumption) ?_) | (refine Gd.pre ?_; first | refine Gd.run rfl ?_ | refine Gd.pass rfl ?_) | (refine Ck.pre ?_; first | refine Ck.mk rfl ?_) | (refine CallN.pre ?_; first | refine CallN.pure hS rfl rfl ?_ | refine CallN.pure hP rfl rfl ?_)))); (try (conv => whnf)))
        exact ⟨.inl rfl, ⟨_, rfl, rfl⟩, trivial⟩
      rw [decide_eq_true hs]
      cases c with
      | false =>
        have hq : (a.school == b.school && (a.code.toList == b.code.toList && true)) = false := by rw [hc]; simp
        ((repeat ((conv => whnf); (first | (refine LetN.pre ?_; first | ((conv => arg 1; whnf); refine LetN.mk ?_)) | (refine As.pre ?_; first | refine As.mk rfl ?_) | (refine LetV.pre ?_; first | refine LetV.mk (.agg _) rfl ?_ | refine LetV.mk (.ro _ _ _) rfl ?_) | (refine LetB.pre ?_; first | refine LetB.ff (by assumption) ?_) | (refine Gd.pre ?_; first | refine Gd.run rfl ?_ | refine Gd.pass rfl ?_) | (refine Ck.pre ?_; first | refine Ck.mk rfl ?_) | (refine CallN.pre ?_; first | refine CallN.pure hS rfl rfl ?_ | refine CallN.pure hP rfl rfl ?_)))); (try (conv => whnf)))
        exact ⟨.inl rfl, ⟨_, rfl, rfl⟩, trivial⟩
      | true =>
        have hq : (a.school == b.school && (a.code.toList == b.code.toList && true)) = true := by rw [hc]; simp [hs]
        by_cases hcredits : a.credits = b.credits
        case neg =>
          rw [decide_eq_false hcredits]
          ((repeat ((conv => whnf); (first | (refine LetN.pre ?_; first | ((conv => arg 1; whnf); refine LetN.mk ?_)) | (refine As.pre ?_; first | refine As.mk rfl ?_) | (refine LetV.pre ?_; first | refine LetV.mk (.sc (.int _ _)) rfl ?_ | refine LetV.mk (.agg _) rfl ?_ | refine LetV.mk (.ro _ _ _) rfl ?_) | (refine LetB.pre ?_; first | refine LetB.tt (by assumption) ?_ | refine LetB.decf (by omega) ?_) | (refine Gd.pre ?_; first | refine Gd.run rfl ?_ | refine Gd.pass rfl ?_) | (refine Ck.pre ?_; first | refine Ck.mk rfl ?_) | (refine CallN.pre ?_; first | refine CallN.pure hS rfl rfl ?_ | refine CallN.pure hP rfl rfl ?_)))); (try (conv => whnf)))
          exact ⟨.inl rfl, ⟨_, rfl, rfl⟩, trivial⟩
        rw [decide_eq_true hcredits]
        by_cases hgrade : a.grade = b.grade
        case neg =>
          rw [decide_eq_false hgrade]
          ((repeat ((conv => whnf); (first | (refine LetN.pre ?_; first | ((conv => arg 1; whnf); refine LetN.mk ?_)) | (refine As.pre ?_; first | refine As.mk rfl ?_) | (refine LetV.pre ?_; first | refine LetV.mk (.sc (.int _ _)) rfl ?_ | refine LetV.mk (.agg _) rfl ?_ | refine LetV.mk (.ro _ _ _) rfl ?_) | (refine LetB.pre ?_; first | refine LetB.tt (by assumption) ?_ | refine LetB.dect (by omega) ?_ | refine LetB.decf (by omega) ?_) | (refine Gd.pre ?_; first | refine Gd.run rfl ?_ | refine Gd.pass rfl ?_) | (refine Ck.pre ?_; first | refine Ck.mk rfl ?_) | (refine CallN.pre ?_; first | refine CallN.pure hS rfl rfl ?_ | refine CallN.pure hP rfl rfl ?_)))); (try (conv => whnf)))
          exact ⟨.inl rfl, ⟨_, rfl, rfl⟩, trivial⟩
        rw [decide_eq_true hgrade]
        by_cases hday : a.day = b.day
        case neg =>
          rw [decide_eq_false hday]
          ((repeat ((conv => whnf); (first | (refine LetN.pre ?_; first | ((conv => arg 1; whnf); refine LetN.mk ?_)) | (refine As.pre ?_; first | refine As.mk rfl ?_) | (refine LetV.pre ?_; first | refine LetV.mk (.sc (.int _ _)) rfl ?_ | refine LetV.mk (.agg _) rfl ?_ | refine LetV.mk (.ro _ _ _) rfl ?_) | (refine LetB.pre ?_; first | refine LetB.tt (by assumption) ?_ | refine LetB.dect (by omega) ?_ | refine LetB.decf (by omega) ?_) | (refine Gd.pre ?_; first | refine Gd.run rfl ?_ | refine Gd.pass rfl ?_) | (refine Ck.pre ?_; first | refine Ck.mk rfl ?_) | (refine CallN.pre ?_; first | refine CallN.pure hS rfl rfl ?_ | refine CallN.pure hP rfl rfl ?_)))); (try (conv => whnf)))
          exact ⟨.inl rfl, ⟨_, rfl, rfl⟩, trivial⟩
        rw [decide_eq_true hday]
        by_cases hbundle : a.bundle = b.bundle
        case neg =>
          rw [decide_eq_false hbundle]
          ((repeat ((conv => whnf); (first | (refine LetN.pre ?_; first | ((conv => arg 1; whnf); refine LetN.mk ?_)) | (refine As.pre ?_; first | refine As.mk rfl ?_) | (refine LetV.pre ?_; first | refine LetV.mk (.sc (.int _ _)) rfl ?_ | refine LetV.mk (.agg _) rfl ?_ | refine LetV.mk (.ro _ _ _) rfl ?_) | (refine LetB.pre ?_; first | refine LetB.tt (by assumption) ?_ | refine LetB.dect (by omega) ?_ | refine LetB.decf (by omega) ?_) | (refine Gd.pre ?_; first | refine Gd.run rfl ?_) | (refine Ck.pre ?_; first | refine Ck.mk rfl ?_) | (refine CallN.pre ?_; first | refine CallN.pure hS rfl rfl ?_ | refine CallN.pure hP rfl rfl ?_)))); (try (conv => whnf)))
          exact ⟨.inl rfl, ⟨_, rfl, rfl⟩, trivial⟩
        rw [decide_eq_true hbundle]
        ((repeat ((conv => whnf); (first | (refine LetN.pre ?_; first | ((conv => arg 1; whnf); refine LetN.mk ?_)) | (refine As.pre ?_; first | refine As.mk rfl ?_) | (refine LetV.pre ?_; first | refine LetV.mk (.sc (.int _ _)) rfl ?_ | refine LetV.mk (.agg _) rfl ?_ | refine LetV.mk (.ro _ _ _) rfl ?_) | (refine LetB.pre ?_; first | refine LetB.tt (by assumption) ?_ | refine LetB.dect (by omega) ?_) | (refine Gd.pre ?_; first | refine Gd.run rfl ?_) | (refine Ck.pre ?_; first | refine Ck.mk rfl ?_) | (refine CallN.pre ?_; first | refine CallN.pure hS rfl rfl ?_ | refine CallN.pure hP rfl rfl ?_)))); (try (conv => whnf)))
        exact ⟨.inl rfl, ⟨_, rfl, rfl⟩, trivial⟩
end En
end Go.Proofs.Ytiefcppgbnfbfaa
namespace Go.Proofs.Ytiefcppgbnfbfaa
open Go.Proofs.Ytiefcppgbnfbfaa.Am
set_option maxRecDepth 100000
namespace En
def lessR (a b : Ac) : Bool :=
  if a.school = b.school then
    if a.code = b.code then
      if a.day = b.day then
        if cmpLs a.src b.src = 0 then
          if cmpLs a.path b.path = 0 then
            if a.bundle = b.bundle then
              if a.credits = b.credits then decide (a.grade < b.grade) else decide (a.credits < b.credits)
            else decide (a.bundle < b.bundle)
          else decide (cmpLs a.path b.path < 0)
        else decide (cmpLs a.src b.src < 0)
      else decide (a.day < b.day)
    else Op.bytesLess a.code.toList b.code.toList
  else decide (a.school < b.school)
set_option maxHeartbeats 1600000 in
set_option maxRecDepth 100000 in
theorem refLessA_f (a b : Ac) (ha : okA a) (hb : okA b) : AFun Try.prog 31 0 [acA a, acA b] [] (bool (lessR a b)) [] := by
  refine AFun.of_W T_ok mixed Try.func31 rfl (Nat.le_of_ble_eq_true rfl) rfl ?_
  have hS := refCompareL_f a.src b.src {} {} ha.1 hb.1
  have hP := refCompareL_f a.path b.path {} {} ha.2 hb.2
  have hc : (a.code.toList != b.code.toList) = !decide (a.code = b.code) := congrArg (! ·) (toL_eq a.code b.code)
  unfold lessR
  generalize cmpLs a.src b.src = qs at hS ⊢
  generalize cmpLs a.path b.path = qp at hP ⊢
  by_cases h1 : a.school = b.school
  case neg =>
    rw [if_neg h1]
    ((repeat ((conv => whnf); (first | (refine LetN.pre ?_; first | ((conv => arg 1; whnf); refine LetN.mk ?_)) | (refine As.pre ?_; first | refine As.mk rfl ?_) | (refine LetV.pre ?_; first | refine LetV.mk (.sc (.int _ _)) rfl ?_) | (refine LetB.pre ?_; first | refine LetB.bnet (by omega) ?_ | refine LetB.mk _ rfl ?_) | (refine Br.pre ?_; first | refine Br.tt rfl ?_) | (refine Ck.pre ?_; first | refine Ck.mk rfl ?_)))); (try (conv => whnf)))
    exact ⟨.inl rfl, ⟨_, rfl, rfl⟩, trivial⟩
  rw [if_pos h1]
  by_cases h2 : a.code = b.code
  case neg =>
    rw [if_neg h2]
    have hq : (a.code.toList != b.code.toList) = true := by rw [hc, decide_eq_false h2]; rfl
    ((repeat ((conv => whnf); (first | (refine LetN.pre ?_; first | ((conv => arg 1; whnf); refine LetN.mk ?_)) | (refine As.pre ?_; first | refine As.mk rfl ?_) | (refine LetV.pre ?_; first | refine LetV.mk (.sc (.int _ _)) rfl ?_ | refine LetV.mk (.sc _) rfl ?_) | (refine LetB.pre ?_; first | refine LetB.tt (by assumption) ?_ | refine LetB.bnef (by omega) ?_ | refine LetB.mk _ rfl ?_) | (refine Br.pre ?_; first | refine Br.tt rfl ?_ | refine Br.ff rfl ?_) | (refine Ck.pre ?_; first | refine Ck.mk rfl ?_)))); (try (conv => whnf)))
    exact ⟨.inl rfl, ⟨_, rfl, rfl⟩, trivial⟩
  rw [if_pos h2]
  have hq : (a.code.toList != b.code.toList) = false := by rw [hc, decide_eq_true h2]; rfl
  by_cases h3 : a.day = b.day
  case neg =>
    rw [if_neg h3]
    ((repeat ((conv => whnf); (first | (refine LetN.pre ?_; first | ((conv => arg 1; whnf); refine LetN.mk ?_)) | (refine As.pre ?_; first | refine As.mk rfl ?_) | (refine LetV.pre ?_; first | refine LetV.mk (.sc (.int _ _)) rfl ?_ | refine LetV.mk (.sc _) rfl ?_) | (refine LetB.pre ?_; first | refine LetB.ff (by assumption) ?_ | refine LetB.bnet (by omega) ?_ | refine LetB.bnef (by omega) ?_ | refine LetB.mk _ rfl ?_) | (refine Br.pre ?_; first | refine Br.tt rfl ?_ | refine Br.ff rfl ?_) | (refine Ck.pre ?_; first | refine Ck.mk rfl ?_)))); (try (conv => whnf)))
    exact ⟨.inl rfl, ⟨_, rfl, rfl⟩, trivial⟩
  rw [if_pos h3]
  by_cases h4 : qs = 0
  case neg =>
    rw [if_neg h4]
    ((repeat ((conv => whnf); (first | (refine LetN.pre ?_; first | ((conv => arg 1; whnf); refine LetN.mk ?_)) | (refine As.pre ?_; first | refine As.mk rfl ?_) | (refine LetV.pre ?_; first | refine LetV.mk (.sc (.int _ _)) rfl ?_ | refine LetV.mk (.sc _) rfl ?_ | refine LetV.mk (.ro _ _ _) rfl ?_) | (refine LetB.pre ?_; first | refine LetB.ff (by assumption) ?_ | refine LetB.bnet (by omega) ?_ | refine LetB.bnef (by omega) ?_ | refine LetB.mk _ rfl ?_) | (refine Br.pre ?_; first | refine Br.tt rfl ?_ | refine Br.ff rfl ?_) | (refine Ck.pre ?_; first | refine Ck.mk rfl ?_) | (refine CallN.pre ?_; first | refine CallN.pure hS rfl rfl ?_)))); (try (conv => whnf)))
    exact ⟨.inl rfl, ⟨_, rfl, rfl⟩, trivial⟩
  rw [if_pos h4]
  by_cases h5 : qp = 0
  case neg =>
    rw [if_neg h5]
    ((repeat ((conv => whnf); (first | (refine LetN.pre ?_; first | ((conv => arg 1; whnf); refine LetN.mk ?_)) | (refine As.pre ?_; first | refine As.mk rfl ?_) | (refine LetV.pre ?_; first | refine LetV.mk (.sc (.int _ _)) rfl ?_ | refine LetV.mk (.sc _) rfl ?_ | refine LetV.mk (.ro _ _ _) rfl ?_) | (refine LetB.pre ?_; first | refine LetB.ff (by assumption) ?_ | refine LetB.bnet (by omega) ?_ | refine LetB.bnef (by omega) ?_ | refine LetB.mk _ rfl ?_) | (refine Br.pre ?_; first | refine Br.tt rfl ?_ | refine Br.ff rfl ?_) | (refine Ck.pre ?_; first | refine Ck.mk rfl ?_) | (refine CallN.pre ?_; first | refine CallN.pure hS rfl rfl ?_ | refine CallN.pure hP rfl rfl ?_)))); (try (conv => whnf)))
    exact ⟨.inl rfl, ⟨_, rfl, rfl⟩, trivial⟩
  rw [if_pos h5]
  by_cases h6 : a.bundle = b.bundle
  case neg =>
    rw [if_neg h6]
    ((repeat ((conv => whnf); (first | (refine LetN.pre ?_; first | ((conv => arg 1; whnf); refine LetN.mk ?_)) | (refine As.pre ?_; first | refine As.mk rfl ?_) | (refine LetV.pre ?_; first | refine LetV.mk (.sc (.int _ _)) rfl ?_ | refine LetV.mk (.sc _) rfl ?_ | refine LetV.mk (.ro _ _ _) rfl ?_) | (refine LetB.pre ?_; first | refine LetB.ff (by assumption) ?_ | refine LetB.bnet (by omega) ?_ | refine LetB.bnef (by omega) ?_ | refine LetB.mk _ rfl ?_) | (refine Br.pre ?_; first | refine Br.tt rfl ?_ | refine Br.ff rfl ?_) | (refine Ck.pre ?_; first | refine Ck.mk rfl ?_) | (refine CallN.pre ?_; first | refine CallN.pure hS rfl rfl ?_ | refine CallN.pure hP rfl rfl ?_)))); (try (conv => whnf)))
    exact ⟨.inl rfl, ⟨_, rfl, rfl⟩, trivial⟩
  rw [if_pos h6]
  by_cases h7 : a.credits = b.credits
  case neg =>
    rw [if_neg h7]
    ((repeat ((conv => whnf); (first | (refine LetN.pre ?_; first | ((conv => arg 1; whnf); refine LetN.mk ?_)) | (refine As.pre ?_; first | refine As.mk rfl ?_) | (refine LetV.pre ?_; first | refine LetV.mk (.sc (.int _ _)) rfl ?_ | refine LetV.mk (.sc _) rfl ?_ | refine LetV.mk (.ro _ _ _) rfl ?_) | (refine LetB.pre ?_; first | refine LetB.ff (by assumption) ?_ | refine LetB.bnet (by omega) ?_ | refine LetB.bnef (by omega) ?_ | refine LetB.mk _ rfl ?_) | (refine Br.pre ?_; first | refine Br.tt rfl ?_ | refine Br.ff rfl ?_) | (refine Ck.pre ?_; first | refine Ck.mk rfl ?_) | (refine CallN.pre ?_; first | refine CallN.pure hS rfl rfl ?_ | refine CallN.pure hP rfl rfl ?_)))); (try (conv => whnf)))
    exact ⟨.inl rfl, ⟨_, rfl, rfl⟩, trivial⟩
  rw [if_pos h7]
  ((repeat ((conv => whnf); (first | (refine LetN.pre ?_; first | ((conv => arg 1; whnf); refine LetN.mk ?_)) | (refine As.pre ?_; first | refine As.mk rfl ?_) | (refine LetV.pre ?_; first | refine LetV.mk (.sc (.int _ _)) rfl ?_ | refine LetV.mk (.sc _) rfl ?_ | refine LetV.mk (.ro _ _ _) rfl ?_) | (refine LetB.pre ?_; first | refine LetB.ff (by assumption) ?_ | refine LetB.bnef (by omega) ?_ | refine LetB.mk _ rfl ?_) | (refine Br.pre ?_; first | refine Br.ff rfl ?_) | (refine Ck.pre ?_; first | refine Ck.mk rfl ?_) | (refine CallN.pre ?_; first | refine CallN.pure hS rfl rfl ?_ | refine CallN.pure hP rfl rfl ?_)))); (try (conv => whnf)))
  exact ⟨.inl rfl, ⟨_, rfl, rfl⟩, trivial⟩
end En
end Go.Proofs.Ytiefcppgbnfbfaa
namespace Go.Proofs.Ytiefcppgbnfbfaa
open Go.Proofs.Ytiefcppgbnfbfaa.Am
set_option maxRecDepth 100000
namespace En
/-! ### The order, as plain Lean -/
/-- Three-way orders. -/
structure P3 {α : Type} (c : α → α → Int) : Prop where
  neg : ∀ a b, c b a = -c a b
  tr : ∀ a b d, c a b ≤ 0 → c b d ≤ 0 → c a d ≤ 0 ∧ (c a d = 0 ↔ c a b = 0 ∧ c b d = 0)
theorem P3.pull {α β : Type} {c : α → α → Int} (h : P3 c) (f : β → α) : P3 fun a b => c (f a) (f b) := ⟨fun a b => h.neg _ _, fun a b d => h.tr _ _ _⟩
theorem P3.nil {α : Type} : P3 fun _ _ : α => firstNZ [] := ⟨fun _ _ => rfl, fun _ _ _ _ _ => ⟨Int.le_refl _, ⟨fun _ => ⟨rfl, rfl⟩, fun _ => rfl⟩⟩⟩
theorem firstNZ_cons (x : Int) (l : List Int) : firstNZ (x :: l) = if x = 0 then firstNZ l else x := rfl
theorem P3.cons {α : Type} {c : α → α → Int} {L : α → α → List Int} (h : P3 c) (k : P3 fun a b => firstNZ (L a b)) : P3 fun a b => firstNZ (c a b :: L a b) := by
  constructor
  · intro a b
    have h1 := h.neg a b
    have h2 : firstNZ (L b a) = -firstNZ (L a b) := k.neg a b
    simp only [firstNZ_cons]
    split <;> split <;> omega
  · intro a b d
    have h1 := h.tr a b d
    have h2 : firstNZ (L a b) ≤ 0 → firstNZ (L b d) ≤ 0 → firstNZ (L a d) ≤ 0 ∧ (firstNZ (L a d) = 0 ↔ firstNZ (L a b) = 0 ∧ firstNZ (L b d) = 0) := k.tr a b d
    simp only [firstNZ_cons]
    generalize firstNZ (L a b) = p at h2 ⊢
    generalize firstNZ (L b d) = q at h2 ⊢
    generalize firstNZ (L a d) = r at h2 ⊢
    generalize c a b = x at h1 ⊢
    generalize c b d = y at h1 ⊢
    generalize c a d = z at h1 ⊢
    intro h3 h4
    have hx : x ≤ 0 := by split at h3 <;> omega
    have hy : y ≤ 0 := by split at h4 <;> omega
    obtain ⟨hz, he⟩ := h1 hx hy
    by_cases hx0 : x = 0 <;> by_cases hy0 : y = 0
    · have hz0 : z = 0 := he.2 ⟨hx0, hy0⟩
      rw [if_pos hx0] at h3 ⊢
      rw [if_pos hy0] at h4 ⊢
      rw [if_pos hz0]
      exact h2 h3 h4
    all_goals
      have hz0 : z ≠ 0 := fun e => by have := he.1 e; omega
      rw [if_neg hz0]
      refine ⟨hz, fun e => absurd e hz0, fun ⟨e1, e2⟩ => ?_⟩
      split at e1 <;> split at e2 <;> omega
theorem cmpI_0 (a b : Int) : cmpI a b = 0 ↔ a = b := by unfold cmpI; split <;> (try split) <;> omega
theorem cmpI_neg' (a b : Int) : cmpI a b < 0 ↔ a < b := by unfold cmpI; split <;> (try split) <;> omega
theorem P3.cmpI : P3 cmpI := by
  constructor
  · intro a b; unfold En.cmpI; split <;> split <;> (try split) <;> omega
  · intro a b d h1 h2
    have a1 := cmpI_0 a b
    have a2 := cmpI_neg' a b
    have b1 := cmpI_0 b d
    have b2 := cmpI_neg' b d
    have c1 := cmpI_0 a d
    have c2 := cmpI_neg' a d
    omega
theorem cmpLs_cons (x y : Int) (xs ys : List Int) : cmpLs (x :: xs) (y :: ys) = firstNZ [cmpI x y, cmpLs xs ys] := by
  show (if cmpI x y = 0 then cmpLs xs ys else cmpI x y) = if cmpI x y = 0 then (if cmpLs xs ys = 0 then 0 else cmpLs xs ys) else cmpI x y
  split
  · split
    · assumption
    · rfl
  · rfl
theorem cmpLs_neg : ∀ xs ys : List Int, cmpLs ys xs = -cmpLs xs ys
  | [], [] => rfl
  | [], _ :: _ => rfl
  | _ :: _, [] => rfl
  | x :: xs, y :: ys => by
    rw [cmpLs_cons, cmpLs_cons]
    have h1 := P3.cmpI.neg x y
    have h2 := cmpLs_neg xs ys
    simp only [firstNZ]
    repeat' split
    all_goals omega
theorem cmpLs_tr : ∀ xs ys zs : List Int, cmpLs xs ys ≤ 0 → cmpLs ys zs ≤ 0 → cmpLs xs zs ≤ 0 ∧ (cmpLs xs zs = 0 ↔ cmpLs xs ys = 0 ∧ cmpLs ys zs = 0)
  | [], [], [], _, _ => by simp [cmpLs]
  | [], [], _ :: _, _, _ => by simp [cmpLs]
  | [], _ :: _, [], _, h => by simp [cmpLs] at h
  | [], _ :: _, _ :: _, _, _ => by simp [cmpLs]
  | _ :: _, [], _, h, _ => by simp [cmpLs] at h
  | _ :: _, _ :: _, [], _, h => by simp [cmpLs] at h
  | x :: xs, y :: ys, z :: zs, h1, h2 => by
    have k1 := P3.cmpI.tr x y z
    have k2 := cmpLs_tr xs ys zs
    unfold cmpLs at h1 h2 ⊢
    generalize cmpLs xs ys = p at *
    generalize cmpLs ys zs = q at *
    generalize cmpLs xs zs = r at *
    generalize En.cmpI x y = u at *
    generalize En.cmpI y z = v at *
    generalize En.cmpI x z = t at *
    have hu : u ≤ 0 := by split at h1 <;> omega
    have hv : v ≤ 0 := by split at h2 <;> omega
    obtain ⟨ht, he⟩ := k1 hu hv
    by_cases u0 : u = 0 <;> by_cases v0 : v = 0
    · have t0 : t = 0 := he.2 ⟨u0, v0⟩
      rw [if_pos u0] at h1 ⊢
      rw [if_pos v0] at h2 ⊢
      rw [if_pos t0]
      exact k2 h1 h2
    all_goals
      have t0 : t ≠ 0 := fun e => by have := he.1 e; omega
      rw [if_neg t0]
      refine ⟨ht, fun e => absurd e t0, fun ⟨e1, e2⟩ => ?_⟩
      split at e1 <;> split at e2 <;> omega
theorem P3.cmpLs : P3 cmpLs := ⟨cmpLs_neg, cmpLs_tr⟩
def bts (s : ByteArray) : List Int := s.data.toList.map fun b => (b.toNat : Int)
theorem bytes_cmp : ∀ a b : List UInt8, Go.Lib.compareBytes a b = En.cmpLs (a.map fun b => (b.toNat : Int)) (b.map fun b => (b.toNat : Int))
  | [], [] => rfl
  | [], _ :: _ => rfl
  | _ :: _, [] => rfl
  | x :: xs, y :: ys => by
    have h := bytes_cmp xs ys
    show (if x < y then -1 else if y < x then 1 else Go.Lib.compareBytes xs ys) = (if En.cmpI x.toNat y.toNat = 0 then En.cmpLs (xs.map fun b => (b.toNat : Int)) (ys.map fun b => (b.toNat : Int)) else En.cmpI x.toNat y.toNat)
    by_cases h1 : x.toNat < y.toNat
    · rw [if_pos (UInt8.lt_iff_toNat_lt.2 h1), cmpI_lt (by omega)]; rfl
    · by_cases h2 : y.toNat < x.toNat
      · rw [if_neg (fun n => h1 (UInt8.lt_iff_toNat_lt.1 n)), if_pos (UInt8.lt_iff_toNat_lt.2 h2), cmpI_gt (by omega)]; rfl
      · rw [if_neg (fun n => h1 (UInt8.lt_iff_toNat_lt.1 n)), if_neg (fun n => h2 (UInt8.lt_iff_toNat_lt.1 n)), cmpI_eq (by omega), h]; rfl
theorem P3.cmpS : P3 En.cmpS := by
  have : En.cmpS = fun a b => En.cmpLs (bts a) (bts b) := by funext a b; exact bytes_cmp _ _
  rw [this]
  exact P3.cmpLs.pull bts
theorem P3.cmpA : P3 cmpA := (P3.cmpI.pull Ac.school).cons ((P3.cmpS.pull Ac.code).cons ((P3.cmpI.pull Ac.day).cons ((P3.cmpLs.pull Ac.src).cons ((P3.cmpLs.pull Ac.path).cons ((P3.cmpI.pull Ac.bundle).cons ((P3.cmpI.pull Ac.credits).cons ((P3.cmpI.pull Ac.grade).cons P3.nil)))))))
/-! ### What is equal -/
theorem cmpLs_0 : ∀ a b : List Int, En.cmpLs a b = 0 ↔ a = b
  | [], [] => by simp [En.cmpLs]
  | [], _ :: _ => by simp [En.cmpLs]
  | _ :: _, [] => by simp [En.cmpLs]
  | x :: xs, y :: ys => by
    have h1 := cmpI_0 x y
    have h2 := cmpLs_0 xs ys
    rw [List.cons.injEq, ← h1, ← h2, cmpLs_cons]
    simp only [firstNZ]
    repeat' split
    all_goals omega
theorem bts_inj {a b : ByteArray} : bts a = bts b ↔ a = b := by
  refine ⟨fun h => ?_, fun h => by rw [h]⟩
  have : a.data.toList = b.data.toList := (List.map_inj_right fun x y h => by
    have : x.toNat = y.toNat := by omega
    exact UInt8.toNat_inj.1 this).1 h
  exact ByteArray.ext (Array.ext' this)
theorem cmpS_0 (a b : ByteArray) : En.cmpS a b = 0 ↔ a = b := by
  rw [show En.cmpS a b = En.cmpLs (bts a) (bts b) from bytes_cmp _ _, cmpLs_0, bts_inj]
theorem same_eq (a b : Ac) : sameR a b = decide (En.cmpA a b = 0) := by
  have e : En.cmpA a b = 0 ↔ a.school = b.school ∧ a.code = b.code ∧ a.day = b.day ∧ a.src = b.src ∧ a.path = b.path ∧ a.bundle = b.bundle ∧ a.credits = b.credits ∧ a.grade = b.grade := by
    rw [← cmpI_0 a.school, ← cmpS_0, ← cmpI_0 a.day, ← cmpLs_0 a.src, ← cmpLs_0 a.path, ← cmpI_0 a.bundle, ← cmpI_0 a.credits, ← cmpI_0 a.grade]
    unfold En.cmpA cmpsA
    simp only [firstNZ]
    repeat' split
    all_goals omega
  rw [Bool.eq_iff_iff, decide_eq_true_eq, e]
  unfold sameR
  simp only [Bool.and_eq_true, decide_eq_true_eq]
  constructor
  · rintro ⟨⟨⟨⟨⟨⟨h1, h2⟩, h3, h4⟩, h5⟩, h6⟩, h7⟩, h8⟩; exact ⟨h3, h4, h7, h1, h2, h8, h5, h6⟩
  · rintro ⟨h3, h4, h7, h1, h2, h8, h5, h6⟩; exact ⟨⟨⟨⟨⟨⟨h1, h2⟩, h3, h4⟩, h5⟩, h6⟩, h7⟩, h8⟩
end En
end Go.Proofs.Ytiefcppgbnfbfaa
namespace Go.Proofs.Ytiefcppgbnfbfaa
open Go.Proofs.Ytiefcppgbnfbfaa.Am
set_option maxRecDepth 100000
namespace En
theorem nz0 {x : Int} {l : List Int} (h : x = 0) : firstNZ (x :: l) = firstNZ l := if_pos h
theorem nz1 {x : Int} {l : List Int} (h : x ≠ 0) : firstNZ (x :: l) = x := if_neg h
theorem bytesLess_eq : ∀ a b : List UInt8, Op.bytesLess a b = decide (Go.Lib.compareBytes a b < 0)
  | [], [] => rfl
  | _ :: _, [] => rfl
  | [], _ :: _ => rfl
  | x :: xs, y :: ys => by
    have h := bytesLess_eq xs ys
    show (decide (x < y) || (x == y && Op.bytesLess xs ys)) = decide ((if x < y then -1 else if y < x then 1 else Go.Lib.compareBytes xs ys) < 0)
    by_cases h1 : x < y
    · rw [if_pos h1, decide_eq_true h1]; rfl
    · rw [if_neg h1, decide_eq_false h1, Bool.false_or]
      by_cases h2 : y < x
      · rw [if_pos h2, beq_eq_false_iff_ne.2 (fun e => by subst e; exact h1 h2)]; rfl
      · have e : x = y := UInt8.toNat_inj.1 (by have := mt UInt8.lt_iff_toNat_lt.2 h1; have := mt UInt8.lt_iff_toNat_lt.2 h2; omega)
        rw [if_neg h2, beq_iff_eq.2 e, Bool.true_and, h]
theorem less_eq (a b : Ac) : lessR a b = decide (cmpA a b < 0) := by
  unfold lessR cmpA cmpsA
  by_cases h1 : a.school = b.school
  case neg => rw [if_neg h1, nz1 (fun e => h1 ((cmpI_0 _ _).1 e))]; exact decide_eq_decide.2 (cmpI_neg' _ _).symm
  rw [if_pos h1, nz0 ((cmpI_0 _ _).2 h1)]
  by_cases h2 : a.code = b.code
  case neg => rw [if_neg h2, nz1 (fun e => h2 ((cmpS_0 _ _).1 e)), bytesLess_eq, ByteArray.toList_eq, ByteArray.toList_eq]
  rw [if_pos h2, nz0 ((cmpS_0 _ _).2 h2)]
  by_cases h3 : a.day = b.day
  case neg => rw [if_neg h3, nz1 (fun e => h3 ((cmpI_0 _ _).1 e))]; exact decide_eq_decide.2 (cmpI_neg' _ _).symm
  rw [if_pos h3, nz0 ((cmpI_0 _ _).2 h3)]
  by_cases h4 : cmpLs a.src b.src = 0
  case neg => rw [if_neg h4, nz1 h4]
  rw [if_pos h4, nz0 h4]
  by_cases h5 : cmpLs a.path b.path = 0
  case neg => rw [if_neg h5, nz1 h5]
  rw [if_pos h5, nz0 h5]
  by_cases h6 : a.bundle = b.bundle
  case neg => rw [if_neg h6, nz1 (fun e => h6 ((cmpI_0 _ _).1 e))]; exact decide_eq_decide.2 (cmpI_neg' _ _).symm
  rw [if_pos h6, nz0 ((cmpI_0 _ _).2 h6)]
  by_cases h7 : a.credits = b.credits
  case neg => rw [if_neg h7, nz1 (fun e => h7 ((cmpI_0 _ _).1 e))]; exact decide_eq_decide.2 (cmpI_neg' _ _).symm
  rw [if_pos h7, nz0 ((cmpI_0 _ _).2 h7)]
  by_cases h8 : a.grade = b.grade
  · rw [nz0 ((cmpI_0 _ _).2 h8)]; exact decide_eq_decide.2 ⟨fun h => by omega, fun h => by simp [firstNZ] at h⟩
  · rw [nz1 (fun e => h8 ((cmpI_0 _ _).1 e))]; exact decide_eq_decide.2 (cmpI_neg' _ _).symm
theorem frP_iff : ∀ l : List Ac, frP l = true ↔ l.Pairwise fun a b => apP a b = true
  | [] => by simp [frP]
  | a :: l => by
    rw [List.pairwise_cons, frP, Bool.and_eq_true, frP_iff l]
    refine and_congr_left fun _ => ?_
    simp
theorem frR_iff (l : List Ac) : frR l = true ↔ l.Pairwise fun a b => apP a b = true := by
  rw [List.pairwise_iff_getElem]
  unfold frR
  rw [List.all_eq_true]
  constructor
  · intro h i j hi hj hij
    have := List.all_eq_true.1 (h j (by simpa using hj)) l[i] (List.mem_take_iff_getElem.2 ⟨i, by omega, rfl⟩)
    rw [List.getD_eq_getElem?_getD, List.getElem?_eq_getElem hj] at this
    exact this
  · intro h k hk
    have hk : k < l.length := by simpa using hk
    refine List.all_eq_true.2 fun a ha => ?_
    obtain ⟨i, hi, rfl⟩ := List.mem_take_iff_getElem.1 ha
    rw [List.getD_eq_getElem?_getD, List.getElem?_eq_getElem hk]
    exact h i k (by omega) hk (by omega)
theorem free_eq (l : List Ac) : frR l = frP l := by rw [Bool.eq_iff_iff, frR_iff, frP_iff]
end En
end Go.Proofs.Ytiefcppgbnfbfaa
