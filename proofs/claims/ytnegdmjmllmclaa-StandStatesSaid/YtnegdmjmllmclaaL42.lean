/- stand: parts of the proof, DstandJH DstandJI DstandSM DstandSB DstandSC DstandSD DstandSE. -/
import Derived.Test.YtnegdmjmllmclaaL41
set_option linter.all false
namespace Go.Proofs.Ytnegdmjmllmclaa
open Go.Proofs.Ytnegdmjmllmclaa.Am
set_option maxRecDepth 100000
namespace En
def refsK (k : Int) : Prop := k = 4 ∨ k = 5 ∨ k = 6 ∨ k = 9
instance (k : Int) : Decidable (refsK k) := by unfold refsK; infer_instance
def tgt (k : Int) : Int := if k = 6 then 5 else if k = 9 then 8 else 3
/-- What is known of a made entry. -/
structure EOk (sc day : Int) (e : E) : Prop where
  school : e.school = sc
  student : 1 ≤ e.student ∧ e.student ≤ 3
  kind : 1 ≤ e.kind ∧ e.kind ≤ 9
  day : 0 ≤ e.day ∧ e.day ≤ day
  on : 0 ≤ e.on_ ∧ e.on_ ≤ e.day
  course : e.course.size ≤ 2
  credits : 0 ≤ e.credits ∧ e.credits ≤ 10
  grade : 0 ≤ e.grade ∧ e.grade ≤ 100
  programme : 0 ≤ e.programme ∧ e.programme ≤ 2
  version : 0 ≤ e.version ∧ e.version ≤ 3
  frm : 0 ≤ e.frm ∧ e.frm ≤ 3
  key : e.key = 0
  mark : e.mark = ⟨#[]⟩
  k3 : e.kind = 3 → 5 ≤ e.credits ∧ (sc = 2 → 1 ≤ e.grade ∧ e.grade ≤ 5) ∧ (sc = 3 → e.grade ≤ 20)
  ref0 : ¬refsK e.kind → e.ref = 0
theorem EOk.mono {sc day day' : Int} {e : E} (h : EOk sc day e) (hd : day ≤ day') : EOk sc day' e := { h with day := ⟨h.day.1, by have := h.day.2; omega⟩ }
/-- What is known of made entries. -/
structure M10 (sc day : Int) (out : List E) : Prop where
  ids : ∀ i, i < out.length → (out.getD i e0).id = i + 1
  ok : ∀ e ∈ out, EOk sc day e
  days : out.Pairwise fun a b => a.day ≤ b.day
  refs : ∀ i, i < out.length → refsK (out.getD i e0).kind → ∃ j, j < i ∧ (out.getD j e0).id = (out.getD i e0).ref ∧ (out.getD j e0).student = (out.getD i e0).student ∧ (out.getD j e0).kind = tgt (out.getD i e0).kind ∧ (out.getD j e0).on_ ≤ (out.getD i e0).on_
theorem M10.nil (sc : Int) : M10 sc 0 [] := ⟨fun i h => by simp at h, fun e h => by simp at h, List.Pairwise.nil, fun i h => by simp at h⟩
theorem M10.mono {sc day day' : Int} {out : List E} (h : M10 sc day out) (hd : day ≤ day') : M10 sc day' out := ⟨h.ids, fun e he => (h.ok e he).mono hd, h.days, h.refs⟩
theorem M10.add {sc day day' : Int} {out : List E} {e : E} (h : M10 sc day out) (he : EOk sc day' e) (hd : day ≤ day') (hid : e.id = out.length + 1) (hday : e.day = day') (hr : refsK e.kind → ∃ x ∈ out, x.student = e.student ∧ x.kind = tgt e.kind ∧ x.id = e.ref ∧ x.on_ ≤ e.on_) : M10 sc day' (out ++ [e]) := by
  have at1 : ∀ i, i < out.length → (out ++ [e]).getD i e0 = out.getD i e0 := fun i hi => getD_app1 hi
  have at2 : (out ++ [e]).getD out.length e0 = e := getD_app2 (i := 0) rfl
  refine ⟨fun i hi => ?_, fun x hx => ?_, ?_, fun i hi hk => ?_⟩
  · rw [List.length_append, List.length_singleton] at hi
    by_cases h1 : i < out.length
    · rw [at1 i h1]; exact h.ids i h1
    · have : i = out.length := by omega
      subst this
      rw [at2]; exact hid
  · rcases List.mem_append.1 hx with h1 | h1
    · exact (h.ok x h1).mono hd
    · rw [List.mem_singleton.1 h1]; exact he
  · refine List.pairwise_append.2 ⟨h.days, List.pairwise_singleton _ _, fun a ha b hb => ?_⟩
    rw [List.mem_singleton.1 hb, hday]
    have := (h.ok a ha).day.2
    omega
  · rw [List.length_append, List.length_singleton] at hi
    by_cases h1 : i < out.length
    · rw [at1 i h1] at hk ⊢
      obtain ⟨j, j1, j2⟩ := h.refs i h1 hk
      refine ⟨j, j1, ?_⟩
      rw [at1 j (by omega)]
      exact j2
    · have : i = out.length := by omega
      subst this
      rw [at2] at hk ⊢
      obtain ⟨x, hx, x1, x2, x3, x4⟩ := hr hk
      obtain ⟨j, hj, rfl⟩ := List.getElem_of_mem hx
      have hg : out.getD j e0 = out[j] := by rw [List.getD_eq_getElem?_getD, List.getElem?_eq_getElem hj]; rfl
      exact ⟨j, hj, by rw [at1 j hj, hg]; exact ⟨x3, x1, x2, x4⟩⟩
theorem M10.onP {sc day : Int} {out : List E} (h : M10 sc day out) (id : Int) (hd : 0 ≤ day) : 0 ≤ onP out id ∧ onP out id ≤ day := by
  unfold En.onP
  split
  · rename_i e he
    have := h.ok e (List.mem_of_find?_eq_some he)
    have h1 := this.on
    have h2 := this.day
    omega
  · omega
theorem M10.onP_at {sc day : Int} {out : List E} (h : M10 sc day out) {x : E} (hx : x ∈ out) : En.onP out x.id = x.on_ := by
  unfold En.onP
  cases hf : out.find? (fun e => decide (e.id = x.id)) with
  | none => have := List.find?_eq_none.1 hf x hx; simp at this
  | some e =>
    have h1 := List.find?_some hf
    have h2 := List.mem_of_find?_eq_some hf
    have h1 : e.id = x.id := of_decide_eq_true h1
    obtain ⟨i, hi, rfl⟩ := List.getElem_of_mem h2
    obtain ⟨j, hj, rfl⟩ := List.getElem_of_mem hx
    have a := h.ids i hi
    have b := h.ids j hj
    rw [List.getD_eq_getElem?_getD, List.getElem?_eq_getElem hi] at a
    rw [List.getD_eq_getElem?_getD, List.getElem?_eq_getElem hj] at b
    simp only [Option.getD_some] at a b
    have : i = j := by omega
    subst this; rfl
theorem kinds_get (n : Int) (h : 0 ≤ n ∧ n < 15) : ∃ c : Int, (1 ≤ c ∧ c ≤ 9) ∧ int c = ([int 1, int 3, int 3, int 3, int 3, int 3, int 4, int 5, int 6, int 7, int 8, int 9, int 2, int 3, int 8] : List AV).getD n.toNat (.sc undef) := by
  obtain ⟨m, rfl⟩ : ∃ m : Nat, n = m := ⟨n.toNat, by omega⟩
  have : m = 0 ∨ m = 1 ∨ m = 2 ∨ m = 3 ∨ m = 4 ∨ m = 5 ∨ m = 6 ∨ m = 7 ∨ m = 8 ∨ m = 9 ∨ m = 10 ∨ m = 11 ∨ m = 12 ∨ m = 13 ∨ m = 14 := by omega
  rcases this with rfl | rfl | rfl | rfl | rfl | rfl | rfl | rfl | rfl | rfl | rfl | rfl | rfl | rfl | rfl <;> exact ⟨_, by decide, rfl⟩
theorem cred_get3 (n : Int) (h : 0 ≤ n ∧ n < 3) : ∃ c : Int, (5 ≤ c ∧ c ≤ 10) ∧ int c = ([int 5, int 6, int 10] : List AV).getD n.toNat (.sc undef) := by
  obtain ⟨m, rfl⟩ : ∃ m : Nat, n = m := ⟨n.toNat, by omega⟩
  have : m = 0 ∨ m = 1 ∨ m = 2 := by omega
  rcases this with rfl | rfl | rfl <;> exact ⟨_, by decide, rfl⟩
abbrev mtS (sc : Int) (fl : Fl) (xs : List Int) (many : Int) : Nat × Int × Nat × List E → AS
  | (k, day, at_, out) => ⟨[(1, int sc), (5, .ptr 0 2 0 0), (6, .slm {} 1 15 0 out.length), (7, int day), (8, int many), (9, int k)], [(0, drawB fl xs at_), (1, .row 15 ety (out.map en))], 2⟩
abbrev mtE (sc : Int) (fl : Fl) (xs : List Int) (many : Int) (k : Nat) (day : Int) (at_ : Nat) (out : List E) (early n : Int) (e : E) : AS :=
  ⟨[(1, int sc), (5, .ptr 0 2 0 0), (6, .slm {} 1 15 0 out.length), (7, int day), (8, int many), (9, int k), (10, .ptr 2 15 0 0), (11, int early), (12, int n)], [(0, drawB fl xs at_), (1, .row 15 ety (out.map en)), (2, .row 15 ety [en e])], 3⟩
abbrev mtB (sc : Int) (fl : Fl) (xs : List Int) (many : Int) (k : Nat) (day : Int) (at_ : Nat) (out : List E) (early n : Int) (e : E) (b : Bool) : AS :=
  ⟨[(1, int sc), (5, .ptr 0 2 0 0), (6, .slm {} 1 15 0 out.length), (7, int day), (8, int many), (9, int k), (10, .ptr 2 15 0 0), (11, int early), (12, int n), (13, bool b)], [(0, drawB fl xs at_), (1, .row 15 ety (out.map en)), (2, .row 15 ety [en e])], 3⟩
set_option maxHeartbeats 6400000 in
set_option maxRecDepth 100000 in
theorem Made10_s (xs : List Int) (fl : Fl) (hx : xs.length ≤ 9223372036854775807) (sc : Int) (hsc : 1 ≤ sc ∧ sc ≤ 3) : ∃ l : List E, (l.length ≤ 24 ∧ M10 sc 600 l) ∧
    AFun Try.prog 27 0 [.ro fl 1 (xs.map int), int sc] [] (.slm {} 0 15 0 l.length) [(0, .row 15 ety (l.map en))] := by
  refine AFun.of_SE T_ok mixed (v := fun l : List E => .slm {} 0 15 0 l.length) (H' := fun l : List E => [(0, .row 15 ety (l.map en))]) Try.func27 rfl (Nat.le_of_ble_eq_true rfl) rfl ?_
  obtain ⟨v0, a0, r0, q0, N0⟩ := made_next fl xs hx 0 25 (Nat.zero_le _) (by omega)
  ((repeat ((conv => whnf); (first | (refine LetN.pre ?_; first | ((conv => arg 1; whnf); refine LetN.mk ?_)) | (refine As.pre ?_; first | refine As.mk rfl ?_) | (refine Ck.pre ?_; first | refine Ck.mk rfl ?_) | (refine LetL.pre ?_; first | refine LetL.mk [_] rfl ?_) | (refine CallN.pre ?_; first | refine CallN.own (fun _ => 0) N0 (CallOk.mk' rfl rfl rfl (namesAll.row rfl rfl) rfl (namesAll.row rfl rfl) (haveAll.row rfl rfl trivial)) ?_)))); (try (conv => whnf)))


  refine LoopN.weak (s1 := mtS sc fl xs v0 (0, 0, a0, [])) ?sw1 ?_
  case sw1 => exact SW.mk id rfl rfl rfl ⟨.refl _, .refl _, VLe2.nilslm, .refl _, .refl _, .refl _, trivial⟩ (haveV.row rfl rfl (haveV.nil (Nat.le_of_ble_eq_true rfl) trivial))
  refine LoopN.indS (S := mtS sc fl xs v0) (fun i => 24 - i.1) (fun i => (i.1 : Int) ≤ v0 ∧ (0 ≤ i.2.1 ∧ i.2.1 ≤ 24 * (i.1 : Int)) ∧ i.2.2.1 ≤ xs.length ∧ i.2.2.2.length = i.1 ∧ M10 sc i.2.1 i.2.2.2) (fun i hi ih => ?_) (0, 0, a0, []) ⟨by show (0 : Int) ≤ v0; omega, ⟨by show (0 : Int) ≤ 0; omega, by show (0 : Int) ≤ 24 * 0; omega⟩, q0, rfl, M10.nil sc⟩
  clear q0 N0
  clear a0
  obtain ⟨k, day, at_, out⟩ := i
  obtain ⟨h1, h2, h3, h4, hM⟩ := hi
  simp only at h1 h2 h3 h4 hM
  have hml : (out.map en).length = out.length := List.length_map _
  by_cases hlt : (k : Int) < v0
  case neg =>
    clear ih
    refine VS.of_V T_ok mixed rfl ?_
    ((repeat ((conv => whnf); (first | (refine As.pre ?_; first | refine As.mk rfl ?_) | (refine LetB.pre ?_; first | refine LetB.decf (by omega) ?_) | (refine Br.pre ?_; first | refine Br.ff rfl ?_) | (refine Ck.pre ?_; first | refine Ck.mk rfl ?_)))); (try (conv => whnf)))
    exact ⟨out, ⟨by omega, hM.mono (by omega)⟩, ⟨[(4, .slm {} 0 15 0 out.length)], [(0, .row 15 ety (out.map en))], 1⟩, SW.mk (fun _ => 1) rfl rfl (namesAll.row (pure_en _) rfl) ⟨.refl _, trivial⟩ (haveV.row (pure_en _) rfl trivial), .inl rfl, ⟨_, rfl, rfl⟩, rfl, trivial⟩
  obtain ⟨v1, a1, r1, q1, N1⟩ := made_next fl xs hx at_ 25 h3 (by omega)
  obtain ⟨v2, a2, r2, q2, N2⟩ := made_next fl xs hx a1 3 q1 (by omega)
  obtain ⟨v3, a3, r3, q3, N3⟩ := made_next fl xs hx a2 15 q2 (by omega)
  obtain ⟨v4, a4, r4, q4, N4⟩ := made_next fl xs hx a3 3 q3 (by omega)
  obtain ⟨v5, a5, r5, q5, N5⟩ := made_next fl xs hx a4 120 q4 (by omega)
  obtain ⟨n, a6, r6, q6, N6⟩ := made_next fl xs hx a5 30 q5 (by omega)
  obtain ⟨kd, hkd, hkv⟩ := kinds_get v3 r3
  have hmul : 0 ≤ v4 * v5 ∧ v4 * v5 ≤ 238 := by
    have : v4 = 0 ∨ v4 = 1 ∨ v4 = 2 := by omega
    rcases this with rfl | rfl | rfl <;> omega
  obtain ⟨early, hearly⟩ : ∃ early, early = v4 * v5 := ⟨_, rfl⟩
  have hew : early = IntKind.i64.wrap (v4 * v5) := by rw [wrap_id (by omega) (by omega)]; exact hearly
  refine VS.cut T_ok mixed rfl ?_
  ((repeat ((conv => whnf); (first | (refine As.pre ?_; first | refine As.mk rfl ?_) | (refine LetB.pre ?_; first | refine LetB.dect (by omega) ?_) | (refine Br.pre ?_; first | refine Br.tt rfl ?_) | (refine Ck.pre ?_; first | refine Ck.mk rfl ?_)))); (try (conv => whnf)))
  refine VS.seq (VS.block ?_)
  refine VS.cut T_ok mixed rfl ?_
  ((repeat ((conv => whnf); (first | (refine LetN.pre ?_; first | ((conv => arg 1; whnf); refine LetN.mk ?_)) | (refine As.pre ?_; first | refine As.mk rfl ?_) | (refine LetI.pre ?_; first | refine LetI.wrap (by omega) (by omega) ?_) | (refine Ck.pre ?_; first | refine Ck.mk rfl ?_) | (refine LetL.pre ?_; first | refine LetL.mk [_] rfl ?_) | (refine CallN.pre ?_; first | refine CallN.own (fun _ => 0) N1 (CallOk.mk' rfl rfl rfl (namesAll.row rfl rfl) rfl (namesAll.row rfl rfl) (haveAll.row rfl rfl trivial)) ?_)))); (try (conv => whnf)))


  refine VS.cut T_ok mixed rfl ?_
  ((repeat ((conv => whnf); (first | (refine LetN.pre ?_; first | ((conv => arg 1; whnf); refine LetN.mk ?_)) | (refine As.pre ?_; first | refine As.mk rfl ?_) | (refine LetI.pre ?_; first | refine LetI.wrap (by omega) (by omega) ?_) | (refine Ck.pre ?_; first | refine Ck.mk rfl ?_) | (refine LetL.pre ?_; first | refine LetL.mk (ty := ety) [.agg [_, _, _, _, _, _, _, _, _, _, _, _, _, _, _]] rfl ?_ | refine LetL.mk [_] rfl ?_) | (refine CallN.pre ?_; first | refine CallN.own (fun _ => 0) N2 (CallOk.mk' rfl rfl rfl (namesAll.row rfl rfl) rfl (namesAll.row rfl rfl) (haveAll.row rfl rfl trivial)) ?_)))); (try (conv => whnf)))


  refine VS.cut T_ok mixed rfl ?_
  ((repeat ((conv => whnf); (first | (refine LetN.pre ?_; first | ((conv => arg 1; whnf); refine LetN.mk ?_)) | (refine As.pre ?_; first | refine As.mk rfl ?_ | (refine As.mk ?_ ?_; · ((repeat' (refine andT ?_ ?_)) <;> (first | rfl | assumption | exact decide_eq_true (by omega) | exact decide_eq_true (by dsimp only; omega) | exact decide_eq_true (by simp; omega) | (simp; done))))) | (refine LetV.pre ?_; first | refine LetV.mk (t := 22) _ hkv ?_ | refine LetV.mk (.sc (.int _ _)) rfl ?_) | (refine Ck.pre ?_; first | refine Ck.mk rfl ?_) | (refine LetL.pre ?_; first | refine LetL.mk (ty := ety) [.agg [_, _, _, _, _, _, _, _, _, _, _, _, _, _, _]] rfl ?_ | refine LetL.mk [_] rfl ?_) | (refine CallN.pre ?_; first | refine CallN.own (fun _ => 0) N3 (CallOk.mk' rfl rfl rfl (namesAll.row rfl rfl) rfl (namesAll.row rfl rfl) (haveAll.row rfl rfl trivial)) ?_)))); (try (conv => whnf)))



  refine VS.cut T_ok mixed rfl ?_
  ((repeat ((conv => whnf); (first | (refine LetN.pre ?_; first | ((conv => arg 1; whnf); refine LetN.mk ?_)) | (refine As.pre ?_; first | refine As.mk rfl ?_) | (refine LetI.pre ?_; first | refine LetI.mk (o := some .mul) early hew ?_) | (refine Ck.pre ?_; first | refine Ck.mk rfl ?_) | (refine LetL.pre ?_; first | refine LetL.mk [_] rfl ?_) | (refine CallN.pre ?_; first | refine CallN.own (fun _ => 0) N4 (CallOk.mk' rfl rfl rfl (namesAll.row rfl rfl) rfl (namesAll.row rfl rfl) (haveAll.row rfl rfl trivial)) ?_ | refine CallN.own (fun _ => 0) N5 (CallOk.mk' rfl rfl rfl (namesAll.row rfl rfl) rfl (namesAll.row rfl rfl) (haveAll.row rfl rfl trivial)) ?_)))); (try (conv => whnf)))




  refine VS.cut T_ok mixed rfl ?_
  ((repeat ((conv => whnf); (first | (refine LetN.pre ?_; first | ((conv => arg 1; whnf); refine LetN.mk ?_)) | (refine As.pre ?_; first | refine As.mk rfl ?_) | (refine Ck.pre ?_; first | refine Ck.mk rfl ?_) | (refine LetL.pre ?_; first | refine LetL.mk [_] rfl ?_) | (refine CallN.pre ?_; first | refine CallN.own (fun _ => 0) N6 (CallOk.mk' rfl rfl rfl (namesAll.row rfl rfl) rfl (namesAll.row rfl rfl) (haveAll.row rfl rfl trivial)) ?_)))); (try (conv => whnf)))


  obtain ⟨day', hday'⟩ : ∃ day', day' = day + v1 := ⟨_, rfl⟩
  rw [← hday']
  refine VS.weak (s1 := mtE sc fl xs v0 k day' a6 out early n ⟨(k : Int) + 1, sc, 1 + v2, kd, day', 0, ⟨#[]⟩, 0, 0, 0, 0, 0, 0, 0, ⟨#[]⟩⟩) ?swa ?_
  case swa => exact SW.mk id rfl rfl (namesAll.row rfl (namesAll.row (pure_en _) (namesAll.row rfl rfl))) ⟨.refl _, .refl _, .refl _, .refl _, .refl _, .refl _, .refl _, .refl _, .refl _, trivial⟩ (haveV.row rfl rfl (haveV.row (pure_en _) rfl (haveV.row rfl rfl trivial)))
  clear N1 N2 N3 N4 N5 N6 hkv hew q1 q2 q3 q4 q5
  obtain ⟨st, hst⟩ : ∃ st : Int, st = 1 + v2 := ⟨_, rfl⟩
  rw [← hst]
  have hst3 : 1 ≤ st ∧ st ≤ 3 := by omega
  have b2 := tmod_bound n (m := 2) (by omega)
  have p2 := tmod_pos 2 r6.1
  have b3 := tmod_bound n (m := 3) (by omega)
  have p3 := tmod_pos 3 r6.1
  have b6 := tmod_bound n (m := 6) (by omega)
  have p6 := tmod_pos 6 r6.1
  have c3 := tmod_bound sc (m := 3) (by omega)
  have cp3 := tmod_pos 3 (a := sc) (by omega)
  refine VS.joinN (fun y : Int × Int × Int × Int => mtE sc fl xs v0 k day' a6 out early n ⟨(k : Int) + 1, sc, st, kd, day', 0, ⟨#[]⟩, 0, 0, y.1, y.2.2.2, y.2.1, y.2.2.1, 0, ⟨#[]⟩⟩) (fun y => (refsK kd → (y.1 = 0 ∨ ∃ x ∈ out, x.student = st ∧ x.kind = tgt kd ∧ x.id = y.1)) ∧ (¬refsK kd → y.1 = 0) ∧ (0 ≤ y.2.1 ∧ y.2.1 ≤ 2) ∧ (0 ≤ y.2.2.1 ∧ y.2.2.1 ≤ 3) ∧ 0 ≤ y.2.2.2 ∧ y.2.2.2 ≤ 3) ?_ ?_
  · clear ih
    refine VS.of_V T_ok mixed rfl ?_
    obtain h | h | h | h | h | h | h | h | h : kd = 1 ∨ kd = 2 ∨ kd = 3 ∨ kd = 4 ∨ kd = 5 ∨ kd = 6 ∨ kd = 7 ∨ kd = 8 ∨ kd = 9 := by omega
    · subst h
      ((repeat ((conv => whnf); (first | (refine LetN.pre ?_; first | ((conv => arg 1; whnf); refine LetN.mk ?_)) | (refine As.pre ?_; first | refine As.mk rfl ?_) | (refine LetV.pre ?_; first | refine LetV.mk (.sc (.int _ _)) rfl ?_) | (refine LetI.pre ?_; first | refine LetI.wrap (by omega) (by omega) ?_ | refine LetI.mk _ rfl ?_) | (refine LetB.pre ?_; first | refine LetB.tt rfl ?_ | refine LetB.ff rfl ?_) | (refine Br.pre ?_; first | refine Br.tt rfl ?_ | refine Br.ff rfl ?_) | (refine Ck.pre ?_; first | refine Ck.mk rfl ?_) | (refine LetL.pre ?_; first | refine LetL.mk (ty := ety) [.agg [_, _, _, _, _, _, _, _, _, _, _, _, _, _, _]] rfl ?_)))); (try (conv => whnf)))

      exact ⟨rfl, (0, 1 + n.tmod 2, 0, 0), ⟨fun h => absurd h (by decide), fun _ => rfl, by dsimp only; omega, by dsimp only; omega, by dsimp only; omega⟩, SW.mk id rfl rfl (namesAll.row rfl (namesAll.row (pure_en _) (namesAll.row rfl rfl))) ⟨.refl _, .refl _, .refl _, .refl _, .refl _, .refl _, .refl _, .refl _, .refl _, trivial⟩ (haveV.row rfl rfl (haveV.row (pure_en _) rfl (haveV.row rfl rfl trivial)))⟩
    · subst h
      ((repeat ((conv => whnf); (first | (refine LetN.pre ?_; first | ((conv => arg 1; whnf); refine LetN.mk ?_)) | (refine As.pre ?_; first | refine As.mk rfl ?_) | (refine LetV.pre ?_; first | refine LetV.mk (.sc (.int _ _)) rfl ?_) | (refine LetI.pre ?_; first | refine LetI.wrap (by omega) (by omega) ?_ | refine LetI.mk _ rfl ?_) | (refine LetB.pre ?_; first | refine LetB.tt rfl ?_ | refine LetB.ff rfl ?_) | (refine Br.pre ?_; first | refine Br.tt rfl ?_ | refine Br.ff rfl ?_) | (refine Ck.pre ?_; first | refine Ck.mk rfl ?_) | (refine LetL.pre ?_; first | refine LetL.mk (ty := ety) [.agg [_, _, _, _, _, _, _, _, _, _, _, _, _, _, _]] rfl ?_)))); (try (conv => whnf)))

      exact ⟨rfl, (0, 1 + n.tmod 2, 1 + n.tmod 3, 0), ⟨fun h => absurd h (by decide), fun _ => rfl, by dsimp only; omega, by dsimp only; omega, by dsimp only; omega⟩, SW.mk id rfl rfl (namesAll.row rfl (namesAll.row (pure_en _) (namesAll.row rfl rfl))) ⟨.refl _, .refl _, .refl _, .refl _, .refl _, .refl _, .refl _, .refl _, .refl _, trivial⟩ (haveV.row rfl rfl (haveV.row (pure_en _) rfl (haveV.row rfl rfl trivial)))⟩
    · subst h
      ((repeat ((conv => whnf); (first | (refine As.pre ?_; first | refine As.mk rfl ?_) | (refine LetV.pre ?_; first | refine LetV.mk (.sc (.int _ _)) rfl ?_) | (refine LetB.pre ?_; first | refine LetB.ff rfl ?_) | (refine Br.pre ?_; first | refine Br.ff rfl ?_) | (refine Ck.pre ?_; first | refine Ck.mk rfl ?_)))); (try (conv => whnf)))

      exact ⟨rfl, (0, 0, 0, 0), ⟨fun h => absurd h (by decide), fun _ => rfl, by dsimp only; omega, by dsimp only; omega, by dsimp only; omega⟩, SW.mk id rfl rfl (namesAll.row rfl (namesAll.row (pure_en _) (namesAll.row rfl rfl))) ⟨.refl _, .refl _, .refl _, .refl _, .refl _, .refl _, .refl _, .refl _, .refl _, trivial⟩ (haveV.row rfl rfl (haveV.row (pure_en _) rfl (haveV.row rfl rfl trivial)))⟩
    · subst h
      obtain ⟨r, hr, hp⟩ := pick_f out st 3 n {} (by omega) r6.1
      ((repeat ((conv => whnf); (first | (refine LetN.pre ?_; first | ((conv => arg 1; whnf); refine LetN.mk ?_)) | (refine As.pre ?_; first | refine As.mk rfl ?_) | (refine LetV.pre ?_; first | refine LetV.mk (.sc (.int _ _)) rfl ?_) | (refine LetB.pre ?_; first | refine LetB.tt rfl ?_) | (refine Br.pre ?_; first | refine Br.tt rfl ?_) | (refine Ck.pre ?_; first | refine Ck.mk rfl ?_) | (refine LetL.pre ?_; first | refine LetL.mk (ty := ety) [.agg [_, _, _, _, _, _, _, _, _, _, _, _, _, _, _]] rfl ?_) | (refine CallN.pre ?_; first | refine CallN.lend hp rfl (.full rfl (pure_en _) hml.symm (.same rfl (.same rfl (.same rfl .nil)))) ?_)))); (try (conv => whnf)))


      exact ⟨rfl, (r, 0, 0, 0), ⟨fun _ => hr.imp (fun h => h.1) id, fun h => absurd (by decide) h, by dsimp only; omega, by dsimp only; omega, by dsimp only; omega⟩, SW.mk id rfl rfl (namesAll.row rfl (namesAll.row (pure_en _) (namesAll.row rfl rfl))) ⟨.refl _, .refl _, .refl _, .refl _, .refl _, .refl _, .refl _, .refl _, .refl _, trivial⟩ (haveV.row rfl rfl (haveV.row (pure_en _) rfl (haveV.row rfl rfl trivial)))⟩
    · subst h
      obtain ⟨r, hr, hp⟩ := pick_f out st 3 n {} (by omega) r6.1
      ((repeat ((conv => whnf); (first | (refine LetN.pre ?_; first | ((conv => arg 1; whnf); refine LetN.mk ?_)) | (refine As.pre ?_; first | refine As.mk rfl ?_) | (refine LetV.pre ?_; first | refine LetV.mk (.sc (.int _ _)) rfl ?_) | (refine LetB.pre ?_; first | refine LetB.tt rfl ?_ | refine LetB.ff rfl ?_) | (refine Br.pre ?_; first | refine Br.tt rfl ?_ | refine Br.ff rfl ?_) | (refine Ck.pre ?_; first | refine Ck.mk rfl ?_) | (refine LetL.pre ?_; first | refine LetL.mk (ty := ety) [.agg [_, _, _, _, _, _, _, _, _, _, _, _, _, _, _]] rfl ?_) | (refine CallN.pre ?_; first | refine CallN.lend hp rfl (.full rfl (pure_en _) hml.symm (.same rfl (.same rfl (.same rfl .nil)))) ?_)))); (try (conv => whnf)))


      exact ⟨rfl, (r, 0, 0, 0), ⟨fun _ => hr.imp (fun h => h.1) id, fun h => absurd (by decide) h, by dsimp only; omega, by dsimp only; omega, by dsimp only; omega⟩, SW.mk id rfl rfl (namesAll.row rfl (namesAll.row (pure_en _) (namesAll.row rfl rfl))) ⟨.refl _, .refl _, .refl _, .refl _, .refl _, .refl _, .refl _, .refl _, .refl _, trivial⟩ (haveV.row rfl rfl (haveV.row (pure_en _) rfl (haveV.row rfl rfl trivial)))⟩
    · subst h
      obtain ⟨r, hr, hp⟩ := pick_f out st 5 n {} (by omega) r6.1
      ((repeat ((conv => whnf); (first | (refine LetN.pre ?_; first | ((conv => arg 1; whnf); refine LetN.mk ?_)) | (refine As.pre ?_; first | refine As.mk rfl ?_) | (refine LetV.pre ?_; first | refine LetV.mk (.sc (.int _ _)) rfl ?_) | (refine LetB.pre ?_; first | refine LetB.tt rfl ?_ | refine LetB.ff rfl ?_) | (refine Br.pre ?_; first | refine Br.tt rfl ?_ | refine Br.ff rfl ?_) | (refine Ck.pre ?_; first | refine Ck.mk rfl ?_) | (refine LetL.pre ?_; first | refine LetL.mk (ty := ety) [.agg [_, _, _, _, _, _, _, _, _, _, _, _, _, _, _]] rfl ?_) | (refine CallN.pre ?_; first | refine CallN.lend hp rfl (.full rfl (pure_en _) hml.symm (.same rfl (.same rfl (.same rfl .nil)))) ?_)))); (try (conv => whnf)))


      exact ⟨rfl, (r, 0, 0, 0), ⟨fun _ => hr.imp (fun h => h.1) id, fun h => absurd (by decide) h, by dsimp only; omega, by dsimp only; omega, by dsimp only; omega⟩, SW.mk id rfl rfl (namesAll.row rfl (namesAll.row (pure_en _) (namesAll.row rfl rfl))) ⟨.refl _, .refl _, .refl _, .refl _, .refl _, .refl _, .refl _, .refl _, .refl _, trivial⟩ (haveV.row rfl rfl (haveV.row (pure_en _) rfl (haveV.row rfl rfl trivial)))⟩
    · subst h
      ((repeat ((conv => whnf); (first | (refine LetN.pre ?_; first | ((conv => arg 1; whnf); refine LetN.mk ?_)) | (refine As.pre ?_; first | refine As.mk rfl ?_) | (refine LetV.pre ?_; first | refine LetV.mk (.sc (.int _ _)) rfl ?_) | (refine LetI.pre ?_; first | refine LetI.wrap (by omega) (by omega) ?_ | refine LetI.mk _ rfl ?_) | (refine LetB.pre ?_; first | refine LetB.tt rfl ?_ | refine LetB.ff rfl ?_) | (refine Br.pre ?_; first | refine Br.tt rfl ?_ | refine Br.ff rfl ?_) | (refine Ck.pre ?_; first | refine Ck.mk rfl ?_) | (refine LetL.pre ?_; first | refine LetL.mk (ty := ety) [.agg [_, _, _, _, _, _, _, _, _, _, _, _, _, _, _]] rfl ?_)))); (try (conv => whnf)))

      exact ⟨rfl, (0, 0, 0, 1 + sc.tmod 3), ⟨fun h => absurd h (by decide), fun _ => rfl, by dsimp only; omega, by dsimp only; omega, by dsimp only; omega⟩, SW.mk id rfl rfl (namesAll.row rfl (namesAll.row (pure_en _) (namesAll.row rfl rfl))) ⟨.refl _, .refl _, .refl _, .refl _, .refl _, .refl _, .refl _, .refl _, .refl _, trivial⟩ (haveV.row rfl rfl (haveV.row (pure_en _) rfl (haveV.row rfl rfl trivial)))⟩
    · subst h
      ((repeat ((conv => whnf); (first | (refine LetN.pre ?_; first | ((conv => arg 1; whnf); refine LetN.mk ?_)) | (refine As.pre ?_; first | refine As.mk rfl ?_) | (refine LetV.pre ?_; first | refine LetV.mk (.sc (.int _ _)) rfl ?_) | (refine LetI.pre ?_; first | refine LetI.wrap (by omega) (by omega) ?_ | refine LetI.mk _ rfl ?_) | (refine LetB.pre ?_; first | refine LetB.tt rfl ?_ | refine LetB.ff rfl ?_) | (refine Br.pre ?_; first | refine Br.tt rfl ?_ | refine Br.ff rfl ?_) | (refine Ck.pre ?_; first | refine Ck.mk rfl ?_) | (refine LetL.pre ?_; first | refine LetL.mk (ty := ety) [.agg [_, _, _, _, _, _, _, _, _, _, _, _, _, _, _]] rfl ?_)))); (try (conv => whnf)))

      exact ⟨rfl, (0, 1 + n.tmod 2, 0, 0), ⟨fun h => absurd h (by decide), fun _ => rfl, by dsimp only; omega, by dsimp only; omega, by dsimp only; omega⟩, SW.mk id rfl rfl (namesAll.row rfl (namesAll.row (pure_en _) (namesAll.row rfl rfl))) ⟨.refl _, .refl _, .refl _, .refl _, .refl _, .refl _, .refl _, .refl _, .refl _, trivial⟩ (haveV.row rfl rfl (haveV.row (pure_en _) rfl (haveV.row rfl rfl trivial)))⟩
    · subst h
      obtain ⟨r, hr, hp⟩ := pick_f out st 8 n {} (by omega) r6.1
      ((repeat ((conv => whnf); (first | (refine LetN.pre ?_; first | ((conv => arg 1; whnf); refine LetN.mk ?_)) | (refine As.pre ?_; first | refine As.mk rfl ?_) | (refine LetV.pre ?_; first | refine LetV.mk (.sc (.int _ _)) rfl ?_) | (refine LetB.pre ?_; first | refine LetB.tt rfl ?_ | refine LetB.ff rfl ?_) | (refine Br.pre ?_; first | refine Br.tt rfl ?_ | refine Br.ff rfl ?_) | (refine Ck.pre ?_; first | refine Ck.mk rfl ?_) | (refine LetL.pre ?_; first | refine LetL.mk (ty := ety) [.agg [_, _, _, _, _, _, _, _, _, _, _, _, _, _, _]] rfl ?_) | (refine CallN.pre ?_; first | refine CallN.lend hp rfl (.full rfl (pure_en _) hml.symm (.same rfl (.same rfl (.same rfl .nil)))) ?_)))); (try (conv => whnf)))


      exact ⟨rfl, (r, 0, 0, 0), ⟨fun _ => hr.imp (fun h => h.1) id, fun h => absurd (by decide) h, by dsimp only; omega, by dsimp only; omega, by dsimp only; omega⟩, SW.mk id rfl rfl (namesAll.row rfl (namesAll.row (pure_en _) (namesAll.row rfl rfl))) ⟨.refl _, .refl _, .refl _, .refl _, .refl _, .refl _, .refl _, .refl _, .refl _, trivial⟩ (haveV.row rfl rfl (haveV.row (pure_en _) rfl (haveV.row rfl rfl trivial)))⟩
  intro y hy
  obtain ⟨y1, y2, y3, y4, y5⟩ := hy
  refine VS.joinN (fun _ : Unit => mtB sc fl xs v0 k day' a6 out early n ⟨(k : Int) + 1, sc, st, kd, day', 0, ⟨#[]⟩, 0, 0, y.1, y.2.2.2, y.2.1, y.2.2.1, 0, ⟨#[]⟩⟩ (decide (refsK kd))) (fun _ => True) ?_ ?_
  · clear ih y1 y2
    refine VS.of_V T_ok mixed rfl ?_
    obtain h | h | h | h | h | h | h | h | h : kd = 1 ∨ kd = 2 ∨ kd = 3 ∨ kd = 4 ∨ kd = 5 ∨ kd = 6 ∨ kd = 7 ∨ kd = 8 ∨ kd = 9 := by omega
    · subst h
      ((repeat ((conv => whnf); (first | (refine As.pre ?_; first | refine As.mk rfl ?_) | (refine LetV.pre ?_; first | refine LetV.mk (.sc (.int _ _)) rfl ?_) | (refine LetB.pre ?_; first | refine LetB.ff rfl ?_) | (refine Gd.pre ?_; first | refine Gd.run rfl ?_) | (refine Ck.pre ?_; first | refine Ck.mk rfl ?_)))); (try (conv => whnf)))
      exact ⟨rfl, (), trivial, SW.mk id rfl rfl (namesAll.row rfl (namesAll.row (pure_en _) (namesAll.row rfl rfl))) ⟨.refl _, .refl _, .refl _, .refl _, .refl _, .refl _, .refl _, .refl _, .refl _, .refl _, trivial⟩ (haveV.row rfl rfl (haveV.row (pure_en _) rfl (haveV.row rfl rfl trivial)))⟩
    · subst h
      ((repeat ((conv => whnf); (first | (refine As.pre ?_; first | refine As.mk rfl ?_) | (refine LetV.pre ?_; first | refine LetV.mk (.sc (.int _ _)) rfl ?_) | (refine LetB.pre ?_; first | refine LetB.ff rfl ?_) | (refine Gd.pre ?_; first | refine Gd.run rfl ?_) | (refine Ck.pre ?_; first | refine Ck.mk rfl ?_)))); (try (conv => whnf)))
      exact ⟨rfl, (), trivial, SW.mk id rfl rfl (namesAll.row rfl (namesAll.row (pure_en _) (namesAll.row rfl rfl))) ⟨.refl _, .refl _, .refl _, .refl _, .refl _, .refl _, .refl _, .refl _, .refl _, .refl _, trivial⟩ (haveV.row rfl rfl (haveV.row (pure_en _) rfl (haveV.row rfl rfl trivial)))⟩
    · subst h
      ((repeat ((conv => whnf); (first | (refine As.pre ?_; first | refine As.mk rfl ?_) | (refine LetV.pre ?_; first | refine LetV.mk (.sc (.int _ _)) rfl ?_) | (refine LetB.pre ?_; first | refine LetB.ff rfl ?_) | (refine Gd.pre ?_; first | refine Gd.run rfl ?_) | (refine Ck.pre ?_; first | refine Ck.mk rfl ?_)))); (try (conv => whnf)))
      exact ⟨rfl, (), trivial, SW.mk id rfl rfl (namesAll.row rfl (namesAll.row (pure_en _) (namesAll.row rfl rfl))) ⟨.refl _, .refl _, .refl _, .refl _, .refl _, .refl _, .refl _, .refl _, .refl _, .refl _, trivial⟩ (haveV.row rfl rfl (haveV.row (pure_en _) rfl (haveV.row rfl rfl trivial)))⟩
    · subst h
      ((repeat ((conv => whnf); (first | (refine As.pre ?_; first | refine As.mk rfl ?_) | (refine LetV.pre ?_; first | refine LetV.mk (.sc (.int _ _)) rfl ?_) | (refine LetB.pre ?_; first | refine LetB.tt rfl ?_) | (refine Gd.pre ?_; first | refine Gd.pass rfl ?_) | (refine Ck.pre ?_; first | refine Ck.mk rfl ?_)))); (try (conv => whnf)))
      exact ⟨rfl, (), trivial, SW.mk id rfl rfl (namesAll.row rfl (namesAll.row (pure_en _) (namesAll.row rfl rfl))) ⟨.refl _, .refl _, .refl _, .refl _, .refl _, .refl _, .refl _, .refl _, .refl _, .refl _, trivial⟩ (haveV.row rfl rfl (haveV.row (pure_en _) rfl (haveV.row rfl rfl trivial)))⟩
    · subst h
      ((repeat ((conv => whnf); (first | (refine As.pre ?_; first | refine As.mk rfl ?_) | (refine LetV.pre ?_; first | refine LetV.mk (.sc (.int _ _)) rfl ?_) | (refine LetB.pre ?_; first | refine LetB.tt rfl ?_ | refine LetB.ff rfl ?_) | (refine Gd.pre ?_; first | refine Gd.run rfl ?_ | refine Gd.pass rfl ?_) | (refine Ck.pre ?_; first | refine Ck.mk rfl ?_)))); (try (conv => whnf)))
      exact ⟨rfl, (), trivial, SW.mk id rfl rfl (namesAll.row rfl (namesAll.row (pure_en _) (namesAll.row rfl rfl))) ⟨.refl _, .refl _, .refl _, .refl _, .refl _, .refl _, .refl _, .refl _, .refl _, .refl _, trivial⟩ (haveV.row rfl rfl (haveV.row (pure_en _) rfl (haveV.row rfl rfl trivial)))⟩
    · subst h
      ((repeat ((conv => whnf); (first | (refine As.pre ?_; first | refine As.mk rfl ?_) | (refine LetV.pre ?_; first | refine LetV.mk (.sc (.int _ _)) rfl ?_) | (refine LetB.pre ?_; first | refine LetB.tt rfl ?_ | refine LetB.ff rfl ?_) | (refine Gd.pre ?_; first | refine Gd.run rfl ?_ | refine Gd.pass rfl ?_) | (refine Ck.pre ?_; first | refine Ck.mk rfl ?_)))); (try (conv => whnf)))
      exact ⟨rfl, (), trivial, SW.mk id rfl rfl (namesAll.row rfl (namesAll.row (pure_en _) (namesAll.row rfl rfl))) ⟨.refl _, .refl _, .refl _, .refl _, .refl _, .refl _, .refl _, .refl _, .refl _, .refl _, trivial⟩ (haveV.row rfl rfl (haveV.row (pure_en _) rfl (haveV.row rfl rfl trivial)))⟩
    · subst h
      ((repeat ((conv => whnf); (first | (refine As.pre ?_; first | refine As.mk rfl ?_) | (refine LetV.pre ?_; first | refine LetV.mk (.sc (.int _ _)) rfl ?_) | (refine LetB.pre ?_; first | refine LetB.ff rfl ?_) | (refine Gd.pre ?_; first | refine Gd.run rfl ?_) | (refine Ck.pre ?_; first | refine Ck.mk rfl ?_)))); (try (conv => whnf)))
      exact ⟨rfl, (), trivial, SW.mk id rfl rfl (namesAll.row rfl (namesAll.row (pure_en _) (namesAll.row rfl rfl))) ⟨.refl _, .refl _, .refl _, .refl _, .refl _, .refl _, .refl _, .refl _, .refl _, .refl _, trivial⟩ (haveV.row rfl rfl (haveV.row (pure_en _) rfl (haveV.row rfl rfl trivial)))⟩
    · subst h
      ((repeat ((conv => whnf); (first | (refine As.pre ?_; first | refine As.mk rfl ?_) | (refine LetV.pre ?_; first | refine LetV.mk (.sc (.int _ _)) rfl ?_) | (refine LetB.pre ?_; first | refine LetB.ff rfl ?_) | (refine Gd.pre ?_; first | refine Gd.run rfl ?_) | (refine Ck.pre ?_; first | refine Ck.mk rfl ?_)))); (try (conv => whnf)))
      exact ⟨rfl, (), trivial, SW.mk id rfl rfl (namesAll.row rfl (namesAll.row (pure_en _) (namesAll.row rfl rfl))) ⟨.refl _, .refl _, .refl _, .refl _, .refl _, .refl _, .refl _, .refl _, .refl _, .refl _, trivial⟩ (haveV.row rfl rfl (haveV.row (pure_en _) rfl (haveV.row rfl rfl trivial)))⟩
    · subst h
      ((repeat ((conv => whnf); (first | (refine As.pre ?_; first | refine As.mk rfl ?_) | (refine LetV.pre ?_; first | refine LetV.mk (.sc (.int _ _)) rfl ?_) | (refine LetB.pre ?_; first | refine LetB.tt rfl ?_ | refine LetB.ff rfl ?_) | (refine Gd.pre ?_; first | refine Gd.run rfl ?_) | (refine Ck.pre ?_; first | refine Ck.mk rfl ?_)))); (try (conv => whnf)))
      exact ⟨rfl, (), trivial, SW.mk id rfl rfl (namesAll.row rfl (namesAll.row (pure_en _) (namesAll.row rfl rfl))) ⟨.refl _, .refl _, .refl _, .refl _, .refl _, .refl _, .refl _, .refl _, .refl _, .refl _, trivial⟩ (haveV.row rfl rfl (haveV.row (pure_en _) rfl (haveV.row rfl rfl trivial)))⟩
  intro _ _
  refine VS.joinN (fun kd' : Int => mtE sc fl xs v0 k day' a6 out early n ⟨(k : Int) + 1, sc, st, kd', day', 0, ⟨#[]⟩, 0, 0, y.1, y.2.2.2, y.2.1, y.2.2.1, 0, ⟨#[]⟩⟩) (fun kd' => (1 ≤ kd' ∧ kd' ≤ 9) ∧ (refsK kd' → ∃ x ∈ out, x.student = st ∧ x.kind = tgt kd' ∧ x.id = y.1) ∧ (¬refsK kd' → y.1 = 0)) ?_ ?_
  · clear ih
    refine VS.of_V T_ok mixed rfl ?_
    by_cases hk : refsK kd
    · rw [decide_eq_true hk]
      by_cases hy0 : y.1 = 0
      · ((repeat ((conv => whnf); (first | (refine LetN.pre ?_; first | ((conv => arg 1; whnf); refine LetN.mk ?_)) | (refine As.pre ?_; first | refine As.mk rfl ?_) | (refine LetV.pre ?_; first | refine LetV.mk (.sc (.int _ _)) rfl ?_) | (refine LetB.pre ?_; first | refine LetB.dect (by omega) ?_) | (refine Gd.pre ?_; first | refine Gd.run rfl ?_) | (refine Br.pre ?_; first | refine Br.tt rfl ?_) | (refine Ck.pre ?_; first | refine Ck.mk rfl ?_) | (refine LetL.pre ?_; first | refine LetL.mk (ty := ety) [.agg [_, _, _, _, _, _, _, _, _, _, _, _, _, _, _]] rfl ?_)))); (try (conv => whnf)))

        exact ⟨rfl, 3, ⟨by decide, fun h => absurd h (by decide), fun _ => hy0⟩, SW.mk id rfl rfl (namesAll.row rfl (namesAll.row (pure_en _) (namesAll.row rfl rfl))) ⟨.refl _, .refl _, .refl _, .refl _, .refl _, .refl _, .refl _, .refl _, .refl _, trivial⟩ (haveV.row rfl rfl (haveV.row (pure_en _) rfl (haveV.row rfl rfl trivial)))⟩
      · ((repeat ((conv => whnf); (first | (refine As.pre ?_; first | refine As.mk rfl ?_) | (refine LetV.pre ?_; first | refine LetV.mk (.sc (.int _ _)) rfl ?_) | (refine LetB.pre ?_; first | refine LetB.decf (by omega) ?_) | (refine Gd.pre ?_; first | refine Gd.run rfl ?_) | (refine Br.pre ?_; first | refine Br.ff rfl ?_) | (refine Ck.pre ?_; first | refine Ck.mk rfl ?_)))); (try (conv => whnf)))
        exact ⟨rfl, kd, ⟨hkd, fun h => (y1 h).resolve_left hy0, fun h => absurd hk h⟩, SW.mk id rfl rfl (namesAll.row rfl (namesAll.row (pure_en _) (namesAll.row rfl rfl))) ⟨.refl _, .refl _, .refl _, .refl _, .refl _, .refl _, .refl _, .refl _, .refl _, trivial⟩ (haveV.row rfl rfl (haveV.row (pure_en _) rfl (haveV.row rfl rfl trivial)))⟩
    · rw [decide_eq_false hk]
      ((repeat ((conv => whnf); (first | (refine As.pre ?_; first | refine As.mk rfl ?_) | (refine Gd.pre ?_; first | refine Gd.pass rfl ?_) | (refine Br.pre ?_; first | refine Br.ff rfl ?_) | (refine Ck.pre ?_; first | refine Ck.mk rfl ?_)))); (try (conv => whnf)))
      exact ⟨rfl, kd, ⟨hkd, fun h => absurd h hk, y2⟩, SW.mk id rfl rfl (namesAll.row rfl (namesAll.row (pure_en _) (namesAll.row rfl rfl))) ⟨.refl _, .refl _, .refl _, .refl _, .refl _, .refl _, .refl _, .refl _, .refl _, trivial⟩ (haveV.row rfl rfl (haveV.row (pure_en _) rfl (haveV.row rfl rfl trivial)))⟩
  clear y1 y2 hkd kd r3
  intro kd hkk
  obtain ⟨hkd, y1, y2⟩ := hkk
  have hcl : (codesL.map str).length = 6 := rfl
  obtain ⟨co, hco, hcov⟩ := codes_get (n.tmod 6) (by omega)
  obtain ⟨cr, hcr, hcrv⟩ := cred_get3 (n.tmod 3) (by omega)
  refine VS.joinN (fun z : ByteArray × Int => mtE sc fl xs v0 k day' a6 out early n ⟨(k : Int) + 1, sc, st, kd, day', 0, z.1, z.2, 0, y.1, y.2.2.2, y.2.1, y.2.2.1, 0, ⟨#[]⟩⟩) (fun z => z.1.size ≤ 2 ∧ (0 ≤ z.2 ∧ z.2 ≤ 10) ∧ (kd = 3 → 5 ≤ z.2)) ?_ ?_
  · clear ih
    refine VS.of_V T_ok mixed rfl ?_
    by_cases h3 : kd = 3
    · ((repeat ((conv => whnf); (first | (refine LetN.pre ?_; first | ((conv => arg 1; whnf); refine LetN.mk ?_)) | (refine As.pre ?_; first | refine As.mk rfl ?_ | (refine As.mk ?_ ?_; · ((repeat' (refine andT ?_ ?_)) <;> (first | rfl | assumption | exact decide_eq_true (by omega) | exact decide_eq_true (by dsimp only; omega) | exact decide_eq_true (by simp; omega) | (simp; done))))) | (refine LetV.pre ?_; first | refine LetV.mk (t := 67) _ hcov ?_ | refine LetV.mk (t := 22) _ hcrv ?_ | refine LetV.mk (.sc (.int _ _)) rfl ?_ | refine LetV.mk (.sc _) rfl ?_) | (refine LetI.pre ?_; first | refine LetI.mk _ rfl ?_) | (refine LetB.pre ?_; first | refine LetB.dect (by omega) ?_) | (refine Br.pre ?_; first | refine Br.tt rfl ?_) | (refine Ck.pre ?_; first | refine Ck.mk rfl ?_) | (refine LetL.pre ?_; first | refine LetL.mk (ty := ety) [.agg [_, _, _, _, _, _, _, _, _, _, _, _, _, _, _]] rfl ?_) | (refine CallN.pre ?_; first | refine CallN.pure Codes_f rfl rfl ?_)))); (try (conv => whnf)))




      exact ⟨rfl, (co, cr), ⟨hco, by dsimp only; omega, fun _ => by dsimp only; omega⟩, SW.mk id rfl rfl (namesAll.row rfl (namesAll.row (pure_en _) (namesAll.row rfl rfl))) ⟨.refl _, .refl _, .refl _, .refl _, .refl _, .refl _, .refl _, .refl _, .refl _, trivial⟩ (haveV.row rfl rfl (haveV.row (pure_en _) rfl (haveV.row rfl rfl trivial)))⟩
    · ((repeat ((conv => whnf); (first | (refine As.pre ?_; first | refine As.mk rfl ?_) | (refine LetV.pre ?_; first | refine LetV.mk (.sc (.int _ _)) rfl ?_) | (refine LetB.pre ?_; first | refine LetB.decf (by omega) ?_) | (refine Br.pre ?_; first | refine Br.ff rfl ?_) | (refine Ck.pre ?_; first | refine Ck.mk rfl ?_)))); (try (conv => whnf)))
      exact ⟨rfl, (⟨#[]⟩, 0), ⟨by decide, by decide, fun h => absurd h h3⟩, SW.mk id rfl rfl (namesAll.row rfl (namesAll.row (pure_en _) (namesAll.row rfl rfl))) ⟨.refl _, .refl _, .refl _, .refl _, .refl _, .refl _, .refl _, .refl _, .refl _, trivial⟩ (haveV.row rfl rfl (haveV.row (pure_en _) rfl (haveV.row rfl rfl trivial)))⟩
  clear hcov hcrv hco hcr co cr
  intro z hz
  obtain ⟨z1, z2, z3⟩ := hz
  obtain ⟨v7, a7, r7, q7, N7⟩ := made_next fl xs hx a6 21 q6 (by omega)
  have d5 := tmod_bound v7 (m := 5) (by omega)
  have dp5 := tmod_pos 5 r7.1
  have hquo : v7 = (5 * v7).tdiv 5 := by
    rw [Int.tdiv_eq_ediv_of_nonneg (by omega)]; omega
  have hquw : v7 = IntKind.i64.wrap ((5 * v7).tdiv 5) := by rw [← hquo, wrap_id (by omega) (by omega)]
  refine VS.joinN (fun u : Nat × Int => mtE sc fl xs v0 k day' u.1 out early n ⟨(k : Int) + 1, sc, st, kd, day', 0, z.1, z.2, u.2, y.1, y.2.2.2, y.2.1, y.2.2.1, 0, ⟨#[]⟩⟩) (fun u => u.1 ≤ xs.length ∧ (0 ≤ u.2 ∧ u.2 ≤ 100) ∧ (kd = 3 → (sc = 2 → 1 ≤ u.2 ∧ u.2 ≤ 5) ∧ (sc = 3 → u.2 ≤ 20))) ?_ ?_
  · clear ih
    refine VS.of_V T_ok mixed rfl ?_
    by_cases h34 : kd = 3 ∨ kd = 4
    · obtain hs | hs | hs : sc = 1 ∨ sc = 2 ∨ sc = 3 := by omega
      · subst hs
        rcases h34 with h | h
        · subst h
          ((repeat ((conv => whnf); (first | (refine LetN.pre ?_; first | ((conv => arg 1; whnf); refine LetN.mk ?_)) | (refine As.pre ?_; first | refine As.mk rfl ?_) | (refine LetV.pre ?_; first | refine LetV.mk (.sc (.int _ _)) rfl ?_) | (refine LetI.pre ?_; first | refine LetI.wrap (by omega) (by omega) ?_) | (refine LetB.pre ?_; first | refine LetB.tt rfl ?_ | refine LetB.ff rfl ?_) | (refine Gd.pre ?_; first | refine Gd.pass rfl ?_) | (refine Br.pre ?_; first | refine Br.tt rfl ?_ | refine Br.ff rfl ?_) | (refine Ck.pre ?_; first | refine Ck.mk rfl ?_) | (refine LetL.pre ?_; first | refine LetL.mk (ty := ety) [.agg [_, _, _, _, _, _, _, _, _, _, _, _, _, _, _]] rfl ?_ | refine LetL.mk [_] rfl ?_) | (refine CallN.pre ?_; first | refine CallN.own (fun _ => 0) N7 (CallOk.mk' rfl rfl rfl (namesAll.row rfl rfl) rfl (namesAll.row rfl rfl) (haveAll.row rfl rfl trivial)) ?_)))); (try (conv => whnf)))




          exact ⟨rfl, (a7, 5 * v7), ⟨q7, by dsimp only; omega, fun _ => ⟨fun h => by dsimp only; omega, fun h => by dsimp only; omega⟩⟩, SW.mk id rfl rfl (namesAll.row rfl (namesAll.row (pure_en _) (namesAll.row rfl rfl))) ⟨.refl _, .refl _, .refl _, .refl _, .refl _, .refl _, .refl _, .refl _, .refl _, trivial⟩ (haveV.row rfl rfl (haveV.row (pure_en _) rfl (haveV.row rfl rfl trivial)))⟩
        · subst h
          ((repeat ((conv => whnf); (first | (refine LetN.pre ?_; first | ((conv => arg 1; whnf); refine LetN.mk ?_)) | (refine As.pre ?_; first | refine As.mk rfl ?_) | (refine LetV.pre ?_; first | refine LetV.mk (.sc (.int _ _)) rfl ?_) | (refine LetI.pre ?_; first | refine LetI.wrap (by omega) (by omega) ?_) | (refine LetB.pre ?_; first | refine LetB.tt rfl ?_ | refine LetB.ff rfl ?_) | (refine Gd.pre ?_; first | refine Gd.run rfl ?_) | (refine Br.pre ?_; first | refine Br.tt rfl ?_ | refine Br.ff rfl ?_) | (refine Ck.pre ?_; first | refine Ck.mk rfl ?_) | (refine LetL.pre ?_; first | refine LetL.mk (ty := ety) [.agg [_, _, _, _, _, _, _, _, _, _, _, _, _, _, _]] rfl ?_ | refine LetL.mk [_] rfl ?_) | (refine CallN.pre ?_; first | refine CallN.own (fun _ => 0) N7 (CallOk.mk' rfl rfl rfl (namesAll.row rfl rfl) rfl (namesAll.row rfl rfl) (haveAll.row rfl rfl trivial)) ?_)))); (try (conv => whnf)))




          exact ⟨rfl, (a7, 5 * v7), ⟨q7, by dsimp only; omega, fun _ => ⟨fun h => by dsimp only; omega, fun h => by dsimp only; omega⟩⟩, SW.mk id rfl rfl (namesAll.row rfl (namesAll.row (pure_en _) (namesAll.row rfl rfl))) ⟨.refl _, .refl _, .refl _, .refl _, .refl _, .refl _, .refl _, .refl _, .refl _, trivial⟩ (haveV.row rfl rfl (haveV.row (pure_en _) rfl (haveV.row rfl rfl trivial)))⟩
      · subst hs
        rcases h34 with h | h
        · subst h
          ((repeat ((conv => whnf); (first | (refine LetN.pre ?_; first | ((conv => arg 1; whnf); refine LetN.mk ?_)) | (refine As.pre ?_; first | refine As.mk rfl ?_) | (refine LetV.pre ?_; first | refine LetV.mk (.sc (.int _ _)) rfl ?_) | (refine LetI.pre ?_; first | refine LetI.mk (o := some .quo) v7 hquw ?_ | refine LetI.wrap (by omega) (by omega) ?_ | refine LetI.mk _ rfl ?_) | (refine LetB.pre ?_; first | refine LetB.tt rfl ?_) | (refine Gd.pre ?_; first | refine Gd.pass rfl ?_) | (refine Br.pre ?_; first | refine Br.tt rfl ?_) | (refine Ck.pre ?_; first | refine Ck.mk rfl ?_) | (refine LetL.pre ?_; first | refine LetL.mk (ty := ety) [.agg [_, _, _, _, _, _, _, _, _, _, _, _, _, _, _]] rfl ?_ | refine LetL.mk [_] rfl ?_) | (refine CallN.pre ?_; first | refine CallN.own (fun _ => 0) N7 (CallOk.mk' rfl rfl rfl (namesAll.row rfl rfl) rfl (namesAll.row rfl rfl) (haveAll.row rfl rfl trivial)) ?_)))); (try (conv => whnf)))




          exact ⟨rfl, (a7, 1 + v7.tmod 5), ⟨q7, by dsimp only; omega, fun _ => ⟨fun h => by dsimp only; omega, fun h => by dsimp only; omega⟩⟩, SW.mk id rfl rfl (namesAll.row rfl (namesAll.row (pure_en _) (namesAll.row rfl rfl))) ⟨.refl _, .refl _, .refl _, .refl _, .refl _, .refl _, .refl _, .refl _, .refl _, trivial⟩ (haveV.row rfl rfl (haveV.row (pure_en _) rfl (haveV.row rfl rfl trivial)))⟩
        · subst h
          ((repeat ((conv => whnf); (first | (refine LetN.pre ?_; first | ((conv => arg 1; whnf); refine LetN.mk ?_)) | (refine As.pre ?_; first | refine As.mk rfl ?_) | (refine LetV.pre ?_; first | refine LetV.mk (.sc (.int _ _)) rfl ?_) | (refine LetI.pre ?_; first | refine LetI.mk (o := some .quo) v7 hquw ?_ | refine LetI.wrap (by omega) (by omega) ?_ | refine LetI.mk _ rfl ?_) | (refine LetB.pre ?_; first | refine LetB.tt rfl ?_ | refine LetB.ff rfl ?_) | (refine Gd.pre ?_; first | refine Gd.run rfl ?_) | (refine Br.pre ?_; first | refine Br.tt rfl ?_) | (refine Ck.pre ?_; first | refine Ck.mk rfl ?_) | (refine LetL.pre ?_; first | refine LetL.mk (ty := ety) [.agg [_, _, _, _, _, _, _, _, _, _, _, _, _, _, _]] rfl ?_ | refine LetL.mk [_] rfl ?_) | (refine CallN.pre ?_; first | refine CallN.own (fun _ => 0) N7 (CallOk.mk' rfl rfl rfl (namesAll.row rfl rfl) rfl (namesAll.row rfl rfl) (haveAll.row rfl rfl trivial)) ?_)))); (try (conv => whnf)))




          exact ⟨rfl, (a7, 1 + v7.tmod 5), ⟨q7, by dsimp only; omega, fun _ => ⟨fun h => by dsimp only; omega, fun h => by dsimp only; omega⟩⟩, SW.mk id rfl rfl (namesAll.row rfl (namesAll.row (pure_en _) (namesAll.row rfl rfl))) ⟨.refl _, .refl _, .refl _, .refl _, .refl _, .refl _, .refl _, .refl _, .refl _, trivial⟩ (haveV.row rfl rfl (haveV.row (pure_en _) rfl (haveV.row rfl rfl trivial)))⟩
      · subst hs
        rcases h34 with h | h
        · subst h
          ((repeat ((conv => whnf); (first | (refine LetN.pre ?_; first | ((conv => arg 1; whnf); refine LetN.mk ?_)) | (refine As.pre ?_; first | refine As.mk rfl ?_) | (refine LetV.pre ?_; first | refine LetV.mk (.sc (.int _ _)) rfl ?_) | (refine LetI.pre ?_; first | refine LetI.mk (o := some .quo) v7 hquw ?_ | refine LetI.wrap (by omega) (by omega) ?_) | (refine LetB.pre ?_; first | refine LetB.tt rfl ?_ | refine LetB.ff rfl ?_) | (refine Gd.pre ?_; first | refine Gd.pass rfl ?_) | (refine Br.pre ?_; first | refine Br.tt rfl ?_ | refine Br.ff rfl ?_) | (refine Ck.pre ?_; first | refine Ck.mk rfl ?_) | (refine LetL.pre ?_; first | refine LetL.mk (ty := ety) [.agg [_, _, _, _, _, _, _, _, _, _, _, _, _, _, _]] rfl ?_ | refine LetL.mk [_] rfl ?_) | (refine CallN.pre ?_; first | refine CallN.own (fun _ => 0) N7 (CallOk.mk' rfl rfl rfl (namesAll.row rfl rfl) rfl (namesAll.row rfl rfl) (haveAll.row rfl rfl trivial)) ?_)))); (try (conv => whnf)))




          exact ⟨rfl, (a7, v7), ⟨q7, by dsimp only; omega, fun _ => ⟨fun h => by dsimp only; omega, fun h => by dsimp only; omega⟩⟩, SW.mk id rfl rfl (namesAll.row rfl (namesAll.row (pure_en _) (namesAll.row rfl rfl))) ⟨.refl _, .refl _, .refl _, .refl _, .refl _, .refl _, .refl _, .refl _, .refl _, trivial⟩ (haveV.row rfl rfl (haveV.row (pure_en _) rfl (haveV.row rfl rfl trivial)))⟩
        · subst h
          ((repeat ((conv => whnf); (first | (refine LetN.pre ?_; first | ((conv => arg 1; whnf); refine LetN.mk ?_)) | (refine As.pre ?_; first | refine As.mk rfl ?_) | (refine LetV.pre ?_; first | refine LetV.mk (.sc (.int _ _)) rfl ?_) | (refine LetI.pre ?_; first | refine LetI.mk (o := some .quo) v7 hquw ?_ | refine LetI.wrap (by omega) (by omega) ?_) | (refine LetB.pre ?_; first | refine LetB.tt rfl ?_ | refine LetB.ff rfl ?_) | (refine Gd.pre ?_; first | refine Gd.run rfl ?_) | (refine Br.pre ?_; first | refine Br.tt rfl ?_ | refine Br.ff rfl ?_) | (refine Ck.pre ?_; first | refine Ck.mk rfl ?_) | (refine LetL.pre ?_; first | refine LetL.mk (ty := ety) [.agg [_, _, _, _, _, _, _, _, _, _, _, _, _, _, _]] rfl ?_ | refine LetL.mk [_] rfl ?_) | (refine CallN.pre ?_; first | refine CallN.own (fun _ => 0) N7 (CallOk.mk' rfl rfl rfl (namesAll.row rfl rfl) rfl (namesAll.row rfl rfl) (haveAll.row rfl rfl trivial)) ?_)))); (try (conv => whnf)))




          exact ⟨rfl, (a7, v7), ⟨q7, by dsimp only; omega, fun _ => ⟨fun h => by dsimp only; omega, fun h => by dsimp only; omega⟩⟩, SW.mk id rfl rfl (namesAll.row rfl (namesAll.row (pure_en _) (namesAll.row rfl rfl))) ⟨.refl _, .refl _, .refl _, .refl _, .refl _, .refl _, .refl _, .refl _, .refl _, trivial⟩ (haveV.row rfl rfl (haveV.row (pure_en _) rfl (haveV.row rfl rfl trivial)))⟩
    · have h3 : ¬kd = 3 := fun h => h34 (.inl h)
      have h4 : ¬kd = 4 := fun h => h34 (.inr h)
      ((repeat ((conv => whnf); (first | (refine As.pre ?_; first | refine As.mk rfl ?_) | (refine LetV.pre ?_; first | refine LetV.mk (.sc (.int _ _)) rfl ?_) | (refine LetB.pre ?_; first | refine LetB.decf (by omega) ?_) | (refine Gd.pre ?_; first | refine Gd.run rfl ?_) | (refine Br.pre ?_; first | refine Br.ff rfl ?_) | (refine Ck.pre ?_; first | refine Ck.mk rfl ?_)))); (try (conv => whnf)))
      exact ⟨rfl, (a6, 0), ⟨q6, by dsimp only; omega, fun h => absurd h h3⟩, SW.mk id rfl rfl (namesAll.row rfl (namesAll.row (pure_en _) (namesAll.row rfl rfl))) ⟨.refl _, .refl _, .refl _, .refl _, .refl _, .refl _, .refl _, .refl _, .refl _, trivial⟩ (haveV.row rfl rfl (haveV.row (pure_en _) rfl (haveV.row rfl rfl trivial)))⟩
  clear N7 q7 r7 d5 dp5 hquo hquw
  clear a7 v7
  intro u hu
  obtain ⟨u1, u2, u3⟩ := hu
  have hO := on_f out y.1 {} (by omega)
  have hOb := hM.onP y.1 h2.1
  have hOat : ∀ x ∈ out, x.id = y.1 → En.onP out y.1 = x.on_ := fun x hx h => by rw [← h]; exact hM.onP_at hx
  generalize En.onP out y.1 = ov at hO hOb hOat
  refine VS.cut T_ok mixed rfl ?_
  ((repeat ((conv => whnf); (first | (refine LetN.pre ?_; first | ((conv => arg 1; whnf); refine LetN.mk ?_)) | (refine As.pre ?_; first | refine As.mk rfl ?_) | (refine LetV.pre ?_; first | refine LetV.mk (.sc (.int _ _)) rfl ?_) | (refine LetI.pre ?_; first | refine LetI.wrap (by omega) (by omega) ?_ | refine LetI.mk _ rfl ?_) | (refine Ck.pre ?_; first | refine Ck.mk rfl ?_) | (refine LetL.pre ?_; first | refine LetL.mk (ty := ety) [.agg [_, _, _, _, _, _, _, _, _, _, _, _, _, _, _]] rfl ?_) | (refine CallN.pre ?_; first | refine CallN.lend hO rfl (.full rfl (pure_en _) hml.symm (.same rfl .nil)) ?_)))); (try (conv => whnf)))


  refine VS.weak (s1 := mtE sc fl xs v0 k day' u.1 out early n ⟨(k : Int) + 1, sc, st, kd, day', max (max 0 ov) (day' - early), z.1, z.2, u.2, y.1, y.2.2.2, y.2.1, y.2.2.1, 0, ⟨#[]⟩⟩) ?swb ?_
  case swb => exact SW.mk id rfl rfl (namesAll.row rfl (namesAll.row (pure_en _) (namesAll.row rfl rfl))) ⟨.refl _, .refl _, .refl _, .refl _, .refl _, .refl _, .refl _, .refl _, .refl _, trivial⟩ (haveV.row rfl rfl (haveV.row (pure_en _) rfl (haveV.row rfl rfl trivial)))
  have hon : 0 ≤ max (max 0 ov) (day' - early) ∧ max (max 0 ov) (day' - early) ≤ day' ∧ ov ≤ max (max 0 ov) (day' - early) := by omega
  obtain ⟨e, he⟩ : ∃ e : E, e = ⟨(k : Int) + 1, sc, st, kd, day', max (max 0 ov) (day' - early), z.1, z.2, u.2, y.1, y.2.2.2, y.2.1, y.2.2.1, 0, ⟨#[]⟩⟩ := ⟨_, rfl⟩
  rw [← he]
  have hM2 : M10 sc day' (out ++ [e]) := by
    refine hM.add ?_ (by omega) (by rw [he]; dsimp only; omega) (by rw [he]) fun hk => ?_
    · rw [he]
      exact ⟨rfl, hst3, hkd, by dsimp only; omega, by dsimp only; omega, z1, z2, u2, y3, y4, y5, rfl, rfl, fun h => ⟨z3 h, u3 h⟩, y2⟩
    · rw [he] at hk ⊢
      obtain ⟨x, x1, x2, x3, x4⟩ := y1 hk
      exact ⟨x, x1, x2, x3, x4, by dsimp only; rw [← hOat x x1 x4]; exact hon.2.2⟩
  have hnx := ih (k + 1, day', u.1, out ++ [e]) ⟨by dsimp only; omega, by dsimp only; omega, u1, by simp [h4], hM2⟩ (by show 24 - (k + 1) < 24 - k; omega)
  clear ih hM2 hM hO hOat y1 y2 he
  have hr := room_en (n := out.length + 1) (by omega)
  refine VS.of_V T_ok mixed rfl ?_
  ((repeat ((conv => whnf); (first | (refine LetN.pre ?_; first | ((conv => arg 1; whnf); refine LetN.mk ?_)) | (refine As.pre ?_; first | refine As.mk rfl ?_ | (refine As.mk ?_ ?_; · ((repeat' (refine andT ?_ ?_)) <;> (first | rfl | assumption | exact decide_eq_true (by omega) | exact decide_eq_true (by dsimp only; omega) | exact decide_eq_true (by simp; omega) | (simp; done))))) | (refine LetV.pre ?_; first | refine LetV.mk (.agg _) rfl ?_) | (refine Ck.pre ?_; first | refine Ck.mk rfl ?_) | (refine LetL.pre ?_; first | refine LetL.mk (ty := ety) _ (app_en out e _ rfl) ?_)))); (try (conv => whnf)))
  refine VS.of_V T_ok mixed rfl ?_
  ((repeat ((conv => whnf); (first | (refine As.pre ?_; first | refine As.mk rfl ?_) | (refine LetI.pre ?_; first | refine LetI.wrap (by omega) (by omega) ?_) | (refine Ck.pre ?_; first | refine Ck.mk rfl ?_)))); (try (conv => whnf)))
  refine LoopN.weak ?swc hnx
  case swc => exact SW.mk (fun i => if i = 1 then 3 else i) rfl rfl (namesAll.row rfl (namesAll.row (pure_en _) rfl)) ⟨.refl _, .refl _, VLe2.slm_of (by simp), .refl _, .refl _, VLe2.int (by omega), trivial⟩ (haveV.row rfl rfl (haveV.row (pure_en _) rfl trivial))
theorem Made10_f (xs : List Int) (fl : Fl) (hx : xs.length ≤ 9223372036854775807) (sc : Int) (hsc : 1 ≤ sc ∧ sc ≤ 3) : ∃ l : List E, (l.length ≤ 24 ∧ M10 sc 600 l) ∧ AFun Try.prog 27 0 [.ro fl 1 (xs.map int), int sc] [] (.ro {} 15 (l.map en)) [] := by
  obtain ⟨l, h, hM⟩ := Made10_s xs fl hx sc hsc
  exact ⟨l, h, AFun.frz1 (H := []) hM rfl (pure_en _) (by simp)⟩
end En
end Go.Proofs.Ytnegdmjmllmclaa
namespace Go.Proofs.Ytnegdmjmllmclaa
open Go.Proofs.Ytnegdmjmllmclaa.Am
set_option maxRecDepth 100000
namespace En
/-! ### Entries in the order of their Ids -/
def Ids (l : List E) : Prop := ∀ i, i < l.length → (l.getD i e0).id = i + 1
theorem M10.toIds {sc day : Int} {l : List E} (h : M10 sc day l) : Ids l := h.ids
theorem Ids.at_ {l : List E} (h : Ids l) {i : Nat} (hi : i < l.length) : l[i].id = i + 1 := by
  have := h i hi
  rwa [List.getD_eq_getElem?_getD, List.getElem?_eq_getElem hi] at this
theorem Ids.lt {l : List E} (h : Ids l) : l.Pairwise fun a b => a.id < b.id := by
  rw [List.pairwise_iff_getElem]
  intro i j hi hj hij
  rw [h.at_ hi, h.at_ hj]; omega
theorem Ids.app {l : List E} {e : E} (h : Ids l) (he : e.id = l.length + 1) : Ids (l ++ [e]) := fun i hi => by
  rw [List.length_append, List.length_singleton] at hi
  by_cases h1 : i < l.length
  · rw [getD_app1 h1]; exact h i h1
  · have : i = l.length := by omega
    subst this
    rw [show (l ++ [e]).getD l.length e0 = e from getD_app2 (i := 0) rfl]; exact he
theorem Ids.eq {l : List E} (h : Ids l) {a b : E} (ha : a ∈ l) (hb : b ∈ l) (e : a.id = b.id) : a = b := by
  obtain ⟨i, hi, rfl⟩ := List.getElem_of_mem ha
  obtain ⟨j, hj, rfl⟩ := List.getElem_of_mem hb
  rw [h.at_ hi, h.at_ hj] at e
  have : i = j := by omega
  subst this; rfl
theorem Ids.range {l : List E} (h : Ids l) {a : E} (ha : a ∈ l) : 1 ≤ a.id ∧ a.id ≤ l.length := by
  obtain ⟨i, hi, rfl⟩ := List.getElem_of_mem ha
  rw [h.at_ hi]; omega
abbrev up (l : List E) : Prop := l.Pairwise fun a b => a.id < b.id
theorem srt_up {l : List E} (h : up l) : srt false l = l := by
  rw [srt_S]
  refine S_id (h.imp fun {a b} hab => ?_)
  rw [ltE_id, decide_eq_false_iff_not]; omega
theorem up_filter {l : List E} (h : up l) (p : E → Bool) : up (l.filter p) := List.Pairwise.filter p h
/-- What counts. -/
abbrev cntB (a o : Int) (e : E) : Bool := decide (e.day ≤ a ∧ e.on_ ≤ o)
theorem atR_up {l : List E} (h : up l) (a o : Int) : atR l a o = l.filter (cntB a o) := by
  rw [atR, srt_up]
  · refine List.filter_congr fun x _ => ?_
    simp
  · exact up_filter h _
/-- The grades that count. -/
abbrev grB (a o : Int) (e : E) : Bool := decide (e.kind = 3 ∧ e.day ≤ a ∧ e.on_ ≤ o)
abbrev stS (l : List E) (a o : Int) (g : E) : St := stand (atR l a o) a o g
theorem atP_up {l : List E} (h : up l) (a o : Int) : atP l a o = (l.filter (grB a o)).map (stS l a o) := by
  have e : chos (atR l a o) [cOf 3] = l.filter (grB a o) := by
    rw [atR_up h]
    show (l.filter (cntB a o)).filter _ = _
    rw [List.filter_filter]
    refine List.filter_congr fun x _ => ?_
    rw [Bool.eq_iff_iff]
    simp
  rw [atP, e]
theorem atP_len {l : List E} (a o : Int) : (atP l a o).length ≤ l.length := by
  have h1 : (chos (atR l a o) [cOf 3]).length ≤ _ := List.length_filter_le _ _
  have h2 : (chos l [cCounts a o]).length ≤ _ := List.length_filter_le _ _
  have h3 : (atR l a o).length = _ := srt_length false _
  have h4 : (atP l a o).length = _ := List.length_map _
  omega
/-! ### Scales of made entries -/
def sclOf (sc : Int) : Int × Int × Int := if sc = 2 then (5, 1, 3) else if sc = 3 then (0, 20, 10) else (0, 100, 50)
theorem SclOf_f (sc : Int) (h : 1 ≤ sc ∧ sc ≤ 3) : AFun Try.prog 25 0 [int sc] [] (Sc.scA (sclOf sc)) [] := by
  refine AFun.of_W T_ok mixed Try.func25 rfl (Nat.le_of_ble_eq_true rfl) rfl ?_
  obtain rfl | rfl | rfl : sc = 1 ∨ sc = 2 ∨ sc = 3 := by omega
  all_goals
    ((repeat ((conv => whnf); (first | (refine LetN.pre ?_; first | ((conv => arg 1; whnf); refine LetN.mk ?_)) | (refine As.pre ?_; first | refine As.mk rfl ?_) | (refine LetB.pre ?_; first | refine LetB.tt rfl ?_ | refine LetB.ff rfl ?_) | (refine Br.pre ?_; first | refine Br.tt rfl ?_ | refine Br.ff rfl ?_) | (refine Ck.pre ?_; first | refine Ck.mk rfl ?_) | (refine LetL.pre ?_; first | refine LetL.mk [_] rfl ?_)))); (try (conv => whnf)))
    exact ⟨.inl rfl, ⟨_, rfl, rfl⟩, trivial⟩
end En
end Go.Proofs.Ytnegdmjmllmclaa
namespace Go.Proofs.Ytnegdmjmllmclaa
open Go.Proofs.Ytnegdmjmllmclaa.Am
set_option maxRecDepth 100000
namespace Sc
/-! ### Ratios and means -/
abbrev u64 (a : Int) : AV := .sc (.int .u64 a)
theorem wrap_u (n : Int) : IntKind.u64.wrap n = n % 18446744073709551616 := by
  unfold IntKind.wrap
  simp only [IntKind.signed, IntKind.bits]
  rfl
theorem size_up {a : Int} (h : -9223372036854775808 ≤ a ∧ a ≤ 9223372036854775807) (hn : ¬ a < 0) : IntKind.u64.wrap a = (a.natAbs : Int) := by
  rw [wrap_u]; omega
theorem size_down {a : Int} (h : -9223372036854775808 ≤ a ∧ a ≤ 9223372036854775807) (hn : a < 0) : IntKind.u64.wrap (0 - IntKind.u64.wrap a) = (a.natAbs : Int) := by
  rw [wrap_u, wrap_u]; omega
/-- The size of a number. -/
theorem size_f (a : Int) (h : -9223372036854775808 ≤ a ∧ a ≤ 9223372036854775807) : AFun Try.prog 75 0 [int a] [] (u64 (a.natAbs : Int)) [] := by
  refine AFun.of_W T_ok mixed Try.func75 rfl (Nat.le_of_ble_eq_true rfl) rfl ?_
  by_cases hn : a < 0
  · ((repeat ((conv => whnf); (first | (refine As.pre ?_; first | refine As.mk rfl ?_) | (refine LetI.pre ?_; first | refine LetI.mk _ rfl ?_) | (refine LetB.pre ?_; first | refine LetB.dect (p := a < 0) hn ?_) | (refine Br.pre ?_; first | refine Br.tt rfl ?_) | (refine Ck.pre ?_; first | refine Ck.mk rfl ?_)))); (try (conv => whnf)))
    exact ⟨.inl rfl, ⟨_, rfl, congrArg u64 (size_down h hn)⟩, trivial⟩
  · ((repeat ((conv => whnf); (first | (refine As.pre ?_; first | refine As.mk rfl ?_) | (refine LetI.pre ?_; first | refine LetI.mk _ rfl ?_) | (refine LetB.pre ?_; first | refine LetB.decf (p := a < 0) hn ?_) | (refine Br.pre ?_; first | refine Br.ff rfl ?_) | (refine Ck.pre ?_; first | refine Ck.mk rfl ?_)))); (try (conv => whnf)))
    exact ⟨.inl rfl, ⟨_, rfl, congrArg u64 (size_up h hn)⟩, trivial⟩
theorem refsize_f (a : Int) (h : -9223372036854775808 ≤ a ∧ a ≤ 9223372036854775807) : AFun Try.prog 81 0 [int a] [] (u64 (a.natAbs : Int)) [] := by
  refine AFun.of_W T_ok mixed Try.func81 rfl (Nat.le_of_ble_eq_true rfl) rfl ?_
  by_cases hn : a < 0
  · ((repeat ((conv => whnf); (first | (refine As.pre ?_; first | refine As.mk rfl ?_) | (refine LetI.pre ?_; first | refine LetI.mk _ rfl ?_) | (refine LetB.pre ?_; first | refine LetB.dect (p := a < 0) hn ?_) | (refine Br.pre ?_; first | refine Br.tt rfl ?_) | (refine Ck.pre ?_; first | refine Ck.mk rfl ?_)))); (try (conv => whnf)))
    exact ⟨.inl rfl, ⟨_, rfl, congrArg u64 (size_down h hn)⟩, trivial⟩
  · ((repeat ((conv => whnf); (first | (refine As.pre ?_; first | refine As.mk rfl ?_) | (refine LetI.pre ?_; first | refine LetI.mk _ rfl ?_) | (refine LetB.pre ?_; first | refine LetB.decf (p := a < 0) hn ?_) | (refine Br.pre ?_; first | refine Br.ff rfl ?_) | (refine Ck.pre ?_; first | refine Ck.mk rfl ?_)))); (try (conv => whnf)))
    exact ⟨.inl rfl, ⟨_, rfl, congrArg u64 (size_up h hn)⟩, trivial⟩
theorem gcd_step (a b : Nat) : Nat.gcd b (a % b) = Nat.gcd a b := by
  rw [Nat.gcd_comm b, ← Nat.gcd_rec, Nat.gcd_comm]
theorem tmod_nat (a b : Nat) : (a : Int).tmod b = ((a % b : Nat) : Int) := (Int.ofNat_tmod a b).symm
theorem refgcd_f (a b : Nat) : AFun Try.prog 80 0 [u64 a, u64 b] [] (u64 (Nat.gcd a b : Nat)) [] := by
  refine AFun.of_W T_ok mixed Try.func80 rfl (Nat.le_of_ble_eq_true rfl) rfl ?_
  ((repeat ((conv => whnf); (first | (refine As.pre ?_; first | refine As.mk rfl ?_) | (refine Ck.pre ?_; first | refine Ck.mk rfl ?_)))); (try (conv => whnf)))
  refine LoopN.weak (SW.fr0 (nx2 := 0) (fr2 := [(0, u64 a), (1, u64 b)]) (Nat.zero_le _) rfl ⟨.refl _, .refl _, trivial⟩) ?_
  refine LoopN.ind T_ok mixed (S := fun k : Nat × Nat => ⟨[(0, u64 k.1), (1, u64 k.2)], [], 0⟩) (fun k => k.2) (fun k => Nat.gcd k.1 k.2 = Nat.gcd a b) (fun _ => rfl) (fun k hk ih => ?_) (a, b) rfl
  by_cases h0 : k.2 = 0
  · have hb : ((k.2 : Int) != 0) = false := by simp [h0]
    ((repeat ((conv => whnf); (first | (refine As.pre ?_; first | refine As.mk rfl ?_) | (refine LetB.pre ?_; first | refine LetB.ff (by assumption) ?_) | (refine Br.pre ?_; first | refine Br.ff rfl ?_) | (refine Ck.pre ?_; first | refine Ck.mk rfl ?_)))); (try (conv => whnf)))
    refine ⟨.inl rfl, ⟨_, rfl, congrArg u64 ?_⟩, trivial⟩
    rw [← hk, h0, Nat.gcd_zero_right]
  · have hb : ((k.2 : Int) != 0) = true := by simpa using h0
    ((repeat ((conv => whnf); (first | (refine As.pre ?_; first | refine As.mk rfl ?_ | refine As.mk hb ?_) | (refine LetI.pre ?_; first | refine LetI.mk _ rfl ?_) | (refine LetB.pre ?_; first | refine LetB.tt (by assumption) ?_) | (refine Br.pre ?_; first | refine Br.tt rfl ?_) | (refine Ck.pre ?_; first | refine Ck.drawn (by kernel_rfl) ?_ | refine Ck.mk rfl ?_)))); (try (conv => whnf)))
    refine LoopN.weak ?sw (ih (k.2, k.1 % k.2) ((gcd_step _ _).trans hk) (Nat.mod_lt _ (by omega)))
    exact SW.fr0 (Nat.zero_le _) rfl ⟨.refl _, VLe2.int (tmod_nat _ _).symm, trivial⟩
theorem gcd_f (a b : Nat) (fl : Fl) : AFun Try.prog 74 0 [.ro fl 1 [u64 a, u64 b]] [] (u64 (Nat.gcd a b : Nat)) [] := by
  refine AFun.of_W T_ok mixed Try.func74 rfl (Nat.le_of_ble_eq_true rfl) rfl ?_
  ((repeat ((conv => whnf); (first | (refine As.pre ?_; first | refine As.mk rfl ?_) | (refine LetI.pre ?_; first | refine LetI.mk _ rfl ?_) | (refine Ck.pre ?_; first | refine Ck.mk rfl ?_)))); (try (conv => whnf)))
  refine LoopN.round T_ok mixed rfl ?_
  ((repeat ((conv => whnf); (first | (refine As.pre ?_; first | refine As.mk rfl ?_) | (refine LetV.pre ?_; first | refine LetV.mk (.sc (.int _ _)) rfl ?_) | (refine LetB.pre ?_; first | refine LetB.tt rfl ?_) | (refine Br.pre ?_; first | refine Br.tt rfl ?_) | (refine Ck.pre ?_; first | refine Ck.mk rfl ?_)))); (try (conv => whnf)))
  refine LoopN.weak (SW.fr0 (nx2 := 0) (fr2 := [(0, .ro fl 1 [u64 a, u64 b]), (3, u64 (0 : Nat)), (5, u64 a), (6, .ro fl 1 [u64 a, u64 b]), (7, int 2), (8, int 0)]) (Nat.zero_le _) rfl ⟨.refl _, .refl _, .refl _, .refl _, .refl _, .refl _, trivial⟩) ?_
  refine LoopN.ind T_ok mixed (S := fun k : Nat × Nat => ⟨[(0, .ro fl 1 [u64 a, u64 b]), (3, u64 k.1), (5, u64 k.2), (6, .ro fl 1 [u64 a, u64 b]), (7, int 2), (8, int 0)], [], 0⟩) (fun k => k.2) (fun k => Nat.gcd k.1 k.2 = a) (fun _ => rfl) (fun k hk ih => ?_) (0, a) (Nat.gcd_zero_left a)
  by_cases h0 : k.2 = 0
  · have hb : ((k.2 : Int) != 0) = false := by simp [h0]
    have ha : k.1 = a := by rw [← hk, h0, Nat.gcd_zero_right]
    rw [ha]
    clear ih
    ((repeat ((conv => whnf); (first | (refine As.pre ?_; first | refine As.mk rfl ?_) | (refine LetI.pre ?_; first | refine LetI.wrap (by omega) (by omega) ?_) | (refine LetB.pre ?_; first | refine LetB.ff (by assumption) ?_) | (refine Br.pre ?_; first | refine Br.ff rfl ?_) | (refine Ck.pre ?_; first | refine Ck.mk rfl ?_)))); (try (conv => whnf)))
    refine LoopN.round T_ok mixed rfl ?_
    ((repeat ((conv => whnf); (first | (refine As.pre ?_; first | refine As.mk rfl ?_) | (refine LetV.pre ?_; first | refine LetV.mk (.sc (.int _ _)) rfl ?_) | (refine LetB.pre ?_; first | refine LetB.tt rfl ?_) | (refine Br.pre ?_; first | refine Br.tt rfl ?_) | (refine Ck.pre ?_; first | refine Ck.mk rfl ?_)))); (try (conv => whnf)))
    refine LoopN.weak (SW.fr0 (nx2 := 0) (fr2 := [(0, .ro fl 1 [u64 a, u64 b]), (3, u64 a), (5, u64 b), (6, .ro fl 1 [u64 a, u64 b]), (7, int 2), (8, int 1)]) (Nat.zero_le _) rfl ⟨.refl _, .refl _, .refl _, .refl _, .refl _, .refl _, trivial⟩) ?_
    refine LoopN.ind T_ok mixed (S := fun k : Nat × Nat => ⟨[(0, .ro fl 1 [u64 a, u64 b]), (3, u64 k.1), (5, u64 k.2), (6, .ro fl 1 [u64 a, u64 b]), (7, int 2), (8, int 1)], [], 0⟩) (fun k => k.2) (fun k => Nat.gcd k.1 k.2 = Nat.gcd a b) (fun _ => rfl) (fun k hk ih => ?_) (a, b) rfl
    by_cases h0 : k.2 = 0
    · have hb : ((k.2 : Int) != 0) = false := by simp [h0]
      have ha : k.1 = Nat.gcd a b := by rw [← hk, h0, Nat.gcd_zero_right]
      rw [ha]
      clear ih
      ((repeat ((conv => whnf); (first | (refine As.pre ?_; first | refine As.mk rfl ?_) | (refine LetI.pre ?_; first | refine LetI.wrap (by omega) (by omega) ?_) | (refine LetB.pre ?_; first | refine LetB.ff (by assumption) ?_) | (refine Br.pre ?_; first | refine Br.ff rfl ?_) | (refine Ck.pre ?_; first | refine Ck.mk rfl ?_)))); (try (conv => whnf)))
      refine LoopN.round T_ok mixed rfl ?_
      ((repeat ((conv => whnf); (first | (refine As.pre ?_; first | refine As.mk rfl ?_) | (refine LetB.pre ?_; first | refine LetB.ff rfl ?_) | (refine Br.pre ?_; first | refine Br.ff rfl ?_) | (refine Ck.pre ?_; first | refine Ck.mk rfl ?_)))); (try (conv => whnf)))
      exact ⟨.inl rfl, ⟨_, rfl, rfl⟩, trivial⟩
    · have hb : ((k.2 : Int) != 0) = true := by simpa using h0
      ((repeat ((conv => whnf); (first | (refine As.pre ?_; first | refine As.mk rfl ?_ | refine As.mk hb ?_) | (refine LetI.pre ?_; first | refine LetI.mk _ rfl ?_) | (refine LetB.pre ?_; first | refine LetB.tt (by assumption) ?_) | (refine Br.pre ?_; first | refine Br.tt rfl ?_) | (refine Ck.pre ?_; first | refine Ck.drawn (by kernel_rfl) ?_ | refine Ck.mk rfl ?_)))); (try (conv => whnf)))
      refine LoopN.weak ?sw2 (ih (k.2, k.1 % k.2) ((gcd_step _ _).trans hk) (Nat.mod_lt _ (by omega)))
      exact SW.fr0 (Nat.zero_le _) rfl ⟨.refl _, .refl _, VLe2.int (tmod_nat _ _).symm, .refl _, .refl _, .refl _, trivial⟩
  · have hb : ((k.2 : Int) != 0) = true := by simpa using h0
    ((repeat ((conv => whnf); (first | (refine As.pre ?_; first | refine As.mk rfl ?_ | refine As.mk hb ?_) | (refine LetI.pre ?_; first | refine LetI.mk _ rfl ?_) | (refine LetB.pre ?_; first | refine LetB.tt (by assumption) ?_) | (refine Br.pre ?_; first | refine Br.tt rfl ?_) | (refine Ck.pre ?_; first | refine Ck.drawn (by kernel_rfl) ?_ | refine Ck.mk rfl ?_)))); (try (conv => whnf)))
    refine LoopN.weak ?sw (ih (k.2, k.1 % k.2) ((gcd_step _ _).trans hk) (Nat.mod_lt _ (by omega)))
    exact SW.fr0 (Nat.zero_le _) rfl ⟨.refl _, .refl _, VLe2.int (tmod_nat _ _).symm, .refl _, .refl _, .refl _, trivial⟩
def ofN (n d : Int) : Nat := n.natAbs / Nat.gcd n.natAbs d.natAbs
def ofD (n d : Int) : Nat := d.natAbs / Nat.gcd n.natAbs d.natAbs
theorem wrap_quo (a b : Nat) (ha : a < 18446744073709551616) : IntKind.u64.wrap ((a : Int).tdiv b) = ((a / b : Nat) : Int) := by
  have h : (a : Int).tdiv b = ((a / b : Nat) : Int) := (Int.ofNat_tdiv a b).symm
  have h2 : a / b ≤ a := Nat.div_le_self _ _
  rw [h, wrap_u]
  generalize a / b = q at *
  omega
set_option maxHeartbeats 1000000 in
theorem Of_f (n d : Int) (hn : -9223372036854775808 ≤ n ∧ n ≤ 9223372036854775807) (hd : -9223372036854775808 ≤ d ∧ d ≤ 9223372036854775807) (h0 : d ≠ 0) (hu : ofN n d ≤ 1073741824) (hv : ofD n d ≤ 1073741824) : AFun Try.prog 48 0 [int n, int d] [] (.tup [.agg [int (if (decide (n < 0) != decide (d < 0)) = true then 0 - (ofN n d : Int) else ofN n d), int (ofD n d)], int 0]) [] := by
  refine AFun.of_W T_ok mixed Try.func48 rfl (Nat.le_of_ble_eq_true rfl) rfl ?_
  have hg : 0 < Nat.gcd n.natAbs d.natAbs := Nat.gcd_pos_of_pos_right _ (by omega)
  have hq : ((Nat.gcd n.natAbs d.natAbs : Int) != 0) = true := by simp; omega
  have e1 : _ = (ofN n d : Int) := wrap_quo n.natAbs (Nat.gcd n.natAbs d.natAbs) (by omega)
  have e2 : _ = (ofD n d : Int) := wrap_quo d.natAbs (Nat.gcd n.natAbs d.natAbs) (by omega)
  have hz : (d == 0) = false := by simpa using h0
  generalize ofN n d = u at *
  generalize ofD n d = v at *
  repeat' ((conv => whnf); (first | (refine LetN.pre ?_; first | ((conv => arg 1; whnf); refine LetN.mk ?_)) | (refine As.pre ?_; first | refine As.mk rfl ?_ | refine As.mk hq ?_) | (refine LetV.pre ?_; first | refine LetV.mk (.sc (.int _ _)) rfl ?_ | refine LetV.mk (.agg _) rfl ?_) | (refine LetI.pre ?_; first | refine LetI.mk _ e1.symm ?_ | refine LetI.mk _ e2.symm ?_ | refine LetI.wrap (by omega) (by omega) ?_) | (refine LetB.pre ?_; first | refine LetB.tt rfl ?_ | refine LetB.ff rfl ?_ | refine LetB.ff (by assumption) ?_ | refine LetB.decf (by omega) ?_ | (refine LetB.dec (fun _ => ?_) (fun _ => ?_))) | (refine Gd.pre ?_; first | refine Gd.run rfl ?_) | (refine Br.pre ?_; first | refine Br.tt rfl ?_ | refine Br.ff rfl ?_) | (refine Ck.pre ?_; first | refine Ck.drawn (by kernel_rfl) ?_ | refine Ck.mk rfl ?_) | (refine LetL.pre ?_; first | refine LetL.mk [_] rfl ?_) | (refine CallN.pre ?_; first | refine CallN.pure (size_f _ hn) rfl rfl ?_ | refine CallN.pure (size_f _ hd) rfl rfl ?_ | refine CallN.pure (gcd_f _ _ _) rfl rfl ?_)))






  all_goals refine ⟨.inl rfl, ⟨_, rfl, congrArg (fun a => AV.tup [AV.agg [int a, int v], int 0]) ?_⟩, trivial⟩
  all_goals (clear e1 e2 hq hz hg; simp [*])
set_option maxHeartbeats 1000000 in
theorem refOf_f (n d : Int) (hn : -9223372036854775808 ≤ n ∧ n ≤ 9223372036854775807) (hd : -9223372036854775808 ≤ d ∧ d ≤ 9223372036854775807) (h0 : d ≠ 0) (hu : ofN n d ≤ 1073741824) (hv : ofD n d ≤ 1073741824) : AFun Try.prog 65 0 [int n, int d] [] (.tup [.agg [int (if (decide (n < 0) != decide (d < 0)) = true then 0 - (ofN n d : Int) else ofN n d), int (ofD n d)], int 0]) [] := by
  refine AFun.of_W T_ok mixed Try.func65 rfl (Nat.le_of_ble_eq_true rfl) rfl ?_
  have hg : 0 < Nat.gcd n.natAbs d.natAbs := Nat.gcd_pos_of_pos_right _ (by omega)
  have hq : ((Nat.gcd n.natAbs d.natAbs : Int) != 0) = true := by simp; omega
  have e1 : _ = (ofN n d : Int) := wrap_quo n.natAbs (Nat.gcd n.natAbs d.natAbs) (by omega)
  have e2 : _ = (ofD n d : Int) := wrap_quo d.natAbs (Nat.gcd n.natAbs d.natAbs) (by omega)
  have hz : (d == 0) = false := by simpa using h0
  generalize ofN n d = u at *
  generalize ofD n d = v at *
  repeat' ((conv => whnf); (first | (refine LetN.pre ?_; first | ((conv => arg 1; whnf); refine LetN.mk ?_)) | (refine As.pre ?_; first | refine As.mk rfl ?_ | refine As.mk hq ?_) | (refine LetV.pre ?_; first | refine LetV.mk (.sc (.int _ _)) rfl ?_ | refine LetV.mk (.agg _) rfl ?_) | (refine LetI.pre ?_; first | refine LetI.mk _ e1.symm ?_ | refine LetI.mk _ e2.symm ?_ | refine LetI.wrap (by omega) (by omega) ?_) | (refine LetB.pre ?_; first | refine LetB.tt rfl ?_ | refine LetB.ff rfl ?_ | refine LetB.ff (by assumption) ?_ | refine LetB.decf (by omega) ?_ | (refine LetB.dec (fun _ => ?_) (fun _ => ?_))) | (refine Gd.pre ?_; first | refine Gd.run rfl ?_) | (refine Br.pre ?_; first | refine Br.tt rfl ?_ | refine Br.ff rfl ?_) | (refine Ck.pre ?_; first | refine Ck.mk rfl ?_) | (refine LetL.pre ?_; first | refine LetL.mk [_] rfl ?_) | (refine CallN.pre ?_; first | refine CallN.pure (refsize_f _ hn) rfl rfl ?_ | refine CallN.pure (refsize_f _ hd) rfl rfl ?_ | refine CallN.pure (refgcd_f _ _) rfl rfl ?_)))






  all_goals refine ⟨.inl rfl, ⟨_, rfl, congrArg (fun a => AV.tup [AV.agg [int a, int v], int 0]) ?_⟩, trivial⟩
  all_goals (clear e1 e2 hq hz hg; simp [*])
abbrev rt (r : Int × Int) (e : Int) : AV := .tup [.agg [int r.1, int r.2], int e]
def ps (f : Nat → Int) : Nat → Int
  | 0 => 0
  | k + 1 => ps f k + f k
abbrev gd (l : List Int) (i : Nat) : Int := l.getD i 0
/-- A grade with its credits. -/
abbrev okE (g n : Int) : Prop := (-1000 ≤ g ∧ g ≤ 1000) ∧ 1 ≤ n ∧ n ≤ 60
abbrev okL (gs cs : List Int) (k : Nat) : Prop := ∀ i, i < k → okE (gd gs i) (gd cs i)
def sN (gs cs : List Int) : Nat → Int := ps fun i => gd gs i * gd cs i
def sD (cs : List Int) : Nat → Int := ps fun i => gd cs i
theorem mul_b {g n : Int} (h : okE g n) : -60000 ≤ g * n ∧ g * n ≤ 60000 := by
  obtain ⟨⟨h1, h2⟩, h3, h4⟩ := h
  have a : g * n ≤ 1000 * n := Int.mul_le_mul_of_nonneg_right h2 (by omega)
  have b : -1000 * n ≤ g * n := Int.mul_le_mul_of_nonneg_right h1 (by omega)
  omega
theorem sums_b (gs cs : List Int) : ∀ k, okL gs cs k → (-60000 * (k : Int) ≤ sN gs cs k ∧ sN gs cs k ≤ 60000 * k) ∧ (k : Int) ≤ sD cs k ∧ sD cs k ≤ 60 * k
  | 0, _ => by simp [sN, sD, ps]
  | k + 1, h => by
    have ih := sums_b gs cs k fun i hi => h i (by omega)
    have h1 := h k (by omega)
    have h2 := mul_b h1
    have e1 : sN gs cs (k + 1) = sN gs cs k + gd gs k * gd cs k := rfl
    have e2 : sD cs (k + 1) = sD cs k + gd cs k := rfl
    rw [e1, e2]
    obtain ⟨_, h3, h4⟩ := h1
    generalize gd gs k * gd cs k = m at *
    omega
def rat (n d : Int) : Int × Int := (if (decide (n < 0) != decide (d < 0)) = true then 0 - (ofN n d : Int) else ofN n d, ofD n d)
/-- The mean of a list. -/
def mv (gs cs : List Int) : (Int × Int) × Int :=
  if gs.length ≠ cs.length ∨ gs.length = 0 then ((0, 0), 1) else if 2000 < gs.length then ((0, 0), 2) else if okL gs cs gs.length then (rat (sN gs cs gs.length) (sD cs gs.length), 0) else ((0, 0), 3)
theorem of_b (n d : Int) (h : -120000000 ≤ n ∧ n ≤ 120000000) (hd : 0 ≤ d ∧ d ≤ 120000) : ofN n d ≤ 1073741824 ∧ ofD n d ≤ 1073741824 := by
  have h1 : ofN n d ≤ n.natAbs := Nat.div_le_self _ _
  have h2 : ofD n d ≤ d.natAbs := Nat.div_le_self _ _
  omega
theorem rat_f (n d : Int) (h : -120000000 ≤ n ∧ n ≤ 120000000) (hd : 0 < d ∧ d ≤ 120000) : AFun Try.prog 48 0 [int n, int d] [] (rt (rat n d) 0) [] :=
  Of_f n d (by omega) (by omega) (by omega) (of_b n d h (by omega)).1 (of_b n d h (by omega)).2
theorem refrat_f (n d : Int) (h : -120000000 ≤ n ∧ n ≤ 120000000) (hd : 0 < d ∧ d ≤ 120000) : AFun Try.prog 65 0 [int n, int d] [] (rt (rat n d) 0) [] :=
  refOf_f n d (by omega) (by omega) (by omega) (of_b n d h (by omega)).1 (of_b n d h (by omega)).2
theorem add_ok (g n s a : Int) (h : okE g n) (hs : -120000000 ≤ s ∧ s ≤ 120000000) (ha : 0 ≤ a ∧ a ≤ 120000) : AFun Try.prog 46 2 [int g, int n, .ptr 0 1 0 0, .ptr 1 1 0 0] [(0, .row 1 3 [int s]), (1, .row 1 3 [int a])] (bool true) [(0, .row 1 3 [int (s + g * n)]), (1, .row 1 3 [int (a + n)])] := by
  refine AFun.of_W T_ok mixed Try.func46 rfl (Nat.le_of_ble_eq_true rfl) rfl ?_
  have hm := mul_b h
  have h1 := lim_spec g (-1000) 1000
  have h2 := lim_spec n 1 60
  ((repeat ((conv => whnf); (first | (refine LetN.pre ?_; first | ((conv => arg 1; whnf); refine LetN.mk ?_)) | (refine As.pre ?_; first | refine As.mk rfl ?_) | (refine LetV.pre ?_; first | refine LetV.mk (.sc (.int _ _)) rfl ?_) | (refine LetI.pre ?_; first | refine LetI.wrap (by omega) (by omega) ?_) | (refine LetB.pre ?_; first | refine LetB.dect (by omega) ?_) | (refine Gd.pre ?_; first | refine Gd.run rfl ?_) | (refine Ck.pre ?_; first | refine Ck.drawn (by kernel_rfl) ?_ | refine Ck.mk rfl ?_) | (refine LetL.pre ?_; first | refine LetL.mk [_] rfl ?_) | (refine CallN.pre ?_; first | refine CallN.pure (limited_f _ _ _) rfl rfl ?_)))); (try (conv => whnf)))
  exact ⟨.inl rfl, ⟨_, rfl, rfl⟩, rfl, rfl, trivial⟩
theorem add_bad (g n s a : Int) (h : ¬ okE g n) : ∃ s' a', AFun Try.prog 46 2 [int g, int n, .ptr 0 1 0 0, .ptr 1 1 0 0] [(0, .row 1 3 [int s]), (1, .row 1 3 [int a])] (bool false) [(0, .row 1 3 [int s']), (1, .row 1 3 [int a'])] := by
  refine ⟨IntKind.i64.wrap (s + IntKind.i64.wrap (g * n)), IntKind.i64.wrap (a + n), ?_⟩
  refine AFun.of_W T_ok mixed Try.func46 rfl (Nat.le_of_ble_eq_true rfl) rfl ?_
  have h1 := lim_spec g (-1000) 1000
  have h2 := lim_spec n 1 60
  by_cases hg : -1000 ≤ g ∧ g ≤ 1000
  · have hn : ¬ (1 ≤ n ∧ n ≤ 60) := fun hn => h ⟨hg, hn⟩
    ((repeat ((conv => whnf); (first | (refine LetN.pre ?_; first | ((conv => arg 1; whnf); refine LetN.mk ?_)) | (refine As.pre ?_; first | refine As.mk rfl ?_) | (refine LetV.pre ?_; first | refine LetV.mk (.sc (.int _ _)) rfl ?_) | (refine LetI.pre ?_; first | refine LetI.mk (o := some .add) _ rfl ?_ | refine LetI.mk _ rfl ?_) | (refine LetB.pre ?_; first | refine LetB.dect (by omega) ?_ | refine LetB.decf (by omega) ?_) | (refine Gd.pre ?_; first | refine Gd.run rfl ?_) | (refine Ck.pre ?_; first | refine Ck.drawn (by kernel_rfl) ?_ | refine Ck.mk rfl ?_) | (refine LetL.pre ?_; first | refine LetL.mk [_] rfl ?_) | (refine CallN.pre ?_; first | refine CallN.pure (limited_f _ _ _) rfl rfl ?_)))); (try (conv => whnf)))
    exact ⟨.inl rfl, ⟨_, rfl, rfl⟩, rfl, rfl, trivial⟩
  · ((repeat ((conv => whnf); (first | (refine LetN.pre ?_; first | ((conv => arg 1; whnf); refine LetN.mk ?_)) | (refine As.pre ?_; first | refine As.mk rfl ?_) | (refine LetV.pre ?_; first | refine LetV.mk (.sc (.int _ _)) rfl ?_) | (refine LetI.pre ?_; first | refine LetI.mk (o := some .add) _ rfl ?_ | refine LetI.mk _ rfl ?_) | (refine LetB.pre ?_; first | refine LetB.decf (by omega) ?_) | (refine Gd.pre ?_; first | refine Gd.pass rfl ?_) | (refine Ck.pre ?_; first | refine Ck.drawn (by kernel_rfl) ?_ | refine Ck.mk rfl ?_) | (refine LetL.pre ?_; first | refine LetL.mk [_] rfl ?_) | (refine CallN.pre ?_; first | refine CallN.pure (limited_f _ _ _) rfl rfl ?_)))); (try (conv => whnf)))
    exact ⟨.inl rfl, ⟨_, rfl, rfl⟩, rfl, rfl, trivial⟩
theorem mv_ne {gs cs : List Int} (h : gs.length ≠ cs.length ∨ gs.length = 0) : mv gs cs = ((0, 0), 1) := if_pos h
theorem mv_many {gs cs : List Int} (h : ¬ (gs.length ≠ cs.length ∨ gs.length = 0)) (h2 : 2000 < gs.length) : mv gs cs = ((0, 0), 2) := by
  unfold mv; rw [if_neg h, if_pos h2]
theorem mv_ok {gs cs : List Int} (h : ¬ (gs.length ≠ cs.length ∨ gs.length = 0)) (h2 : ¬ 2000 < gs.length) (h3 : okL gs cs gs.length) : mv gs cs = (rat (sN gs cs gs.length) (sD cs gs.length), 0) := by
  unfold mv; rw [if_neg h, if_neg h2, if_pos h3]
theorem mv_bad {gs cs : List Int} (h : ¬ (gs.length ≠ cs.length ∨ gs.length = 0)) (h2 : ¬ 2000 < gs.length) (h3 : ¬ okL gs cs gs.length) : mv gs cs = ((0, 0), 3) := by
  unfold mv; rw [if_neg h, if_neg h2, if_neg h3]
abbrev bx (a : Int) : Blk := .row 1 3 [int a]
set_option maxHeartbeats 2000000 in
theorem Mean_f (gs cs : List Int) (f1 f2 : Fl) (hl : gs.length ≤ 9223372036854775807) (hl2 : cs.length ≤ 9223372036854775807) : AFun Try.prog 23 0 [.ro f1 1 (gs.map int), .ro f2 1 (cs.map int)] [] (rt (mv gs cs).1 (mv gs cs).2) [] := by
  refine AFun.of_W T_ok mixed Try.func23 rfl (Nat.le_of_ble_eq_true rfl) rfl ?_
  have e1 : ((gs.map int).length : Int) = gs.length := by simp
  have e2 : ((cs.map int).length : Int) = cs.length := by simp
  by_cases h : gs.length ≠ cs.length ∨ gs.length = 0
  · rw [mv_ne h]
    repeat' ((conv => whnf); (first | (refine LetN.pre ?_; first | ((conv => arg 1; whnf); refine LetN.mk ?_)) | (refine As.pre ?_; first | refine As.mk rfl ?_) | (refine LetI.pre ?_; first | refine LetI.mk _ rfl ?_) | (refine LetB.pre ?_; first | refine LetB.dect (by omega) ?_ | (refine LetB.bne (fun _ => ?_) (fun _ => ?_))) | (refine Gd.pre ?_; first | refine Gd.run rfl ?_ | refine Gd.pass rfl ?_) | (refine Br.pre ?_; first | refine Br.tt rfl ?_) | (refine Ck.pre ?_; first | refine Ck.mk rfl ?_) | (refine LetL.pre ?_; first | refine LetL.mk [_] rfl ?_)))
    all_goals first
      | exact ⟨.inl rfl, ⟨_, rfl, rfl⟩, trivial⟩
      | omega
  by_cases h2 : 2000 < gs.length
  · rw [mv_many h h2]
    ((repeat ((conv => whnf); (first | (refine LetN.pre ?_; first | ((conv => arg 1; whnf); refine LetN.mk ?_)) | (refine As.pre ?_; first | refine As.mk rfl ?_) | (refine LetI.pre ?_; first | refine LetI.mk _ rfl ?_) | (refine LetB.pre ?_; first | refine LetB.dect (by omega) ?_ | refine LetB.decf (by omega) ?_ | refine LetB.bnef (by omega) ?_) | (refine Gd.pre ?_; first | refine Gd.run rfl ?_) | (refine Br.pre ?_; first | refine Br.tt rfl ?_ | refine Br.ff rfl ?_) | (refine Ck.pre ?_; first | refine Ck.mk rfl ?_) | (refine LetL.pre ?_; first | refine LetL.mk [_] rfl ?_)))); (try (conv => whnf)))
    exact ⟨.inl rfl, ⟨_, rfl, rfl⟩, trivial⟩
  have c0 : gs.length = cs.length := by omega
  have c1 : 0 < gs.length := by omega
  have c2 : gs.length ≤ 2000 := by omega
  ((repeat ((conv => whnf); (first | (refine LetN.pre ?_; first | ((conv => arg 1; whnf); refine LetN.mk ?_)) | (refine As.pre ?_; first | refine As.mk rfl ?_) | (refine LetI.pre ?_; first | refine LetI.mk _ rfl ?_) | (refine LetB.pre ?_; first | refine LetB.decf (by omega) ?_ | refine LetB.bnef (by omega) ?_) | (refine Gd.pre ?_; first | refine Gd.run rfl ?_) | (refine Br.pre ?_; first | refine Br.ff rfl ?_) | (refine Ck.pre ?_; first | refine Ck.mk rfl ?_) | (refine LetL.pre ?_; first | refine LetL.mk [_] rfl ?_)))); (try (conv => whnf)))
  refine LoopN.weak (s1 := ⟨[(0, .ro f1 1 (gs.map int)), (1, .ro f2 1 (cs.map int)), (4, .ptr 0 2 0 0), (5, int 0), (6, .ptr 1 1 0 0), (7, .ptr 2 1 0 0), (8, .clo 46 [.ptr 1 1 0 0, .ptr 2 1 0 0]), (29, .ro f1 1 (gs.map int)), (30, int gs.length), (31, int (0 : Nat))], [(0, .row 2 46 [.agg [int 0, int 0]]), (1, bx (sN gs cs 0)), (2, bx (sD cs 0))], 3⟩) (SW.mk id rfl rfl rfl ⟨.refl _, .refl _, .refl _, .refl _, .refl _, .refl _, .refl _, .refl _, VLe2.int e1.symm, .refl _, trivial⟩ (haveV.one rfl (haveV.one rfl (haveV.one rfl trivial)))) ?_
  refine LoopN.ind T_ok mixed (S := fun k : Nat => ⟨[(0, .ro f1 1 (gs.map int)), (1, .ro f2 1 (cs.map int)), (4, .ptr 0 2 0 0), (5, int 0), (6, .ptr 1 1 0 0), (7, .ptr 2 1 0 0), (8, .clo 46 [.ptr 1 1 0 0, .ptr 2 1 0 0]), (29, .ro f1 1 (gs.map int)), (30, int gs.length), (31, int k)], [(0, .row 2 46 [.agg [int 0, int 0]]), (1, bx (sN gs cs k)), (2, bx (sD cs k))], 3⟩) (fun k => gs.length - k) (fun k => k ≤ gs.length ∧ okL gs cs k) (fun _ => rfl) (fun k hk ih => ?_) 0 ⟨Nat.zero_le _, fun i hi => absurd hi (Nat.not_lt_zero i)⟩
  obtain ⟨hk, hok⟩ := hk
  have hb := sums_b gs cs k hok
  by_cases hlt : k < gs.length
  · have hlt2 : k < cs.length := by omega
    have q1 : k < (gs.map int).length := by simpa using hlt
    have q2 : k < (cs.map int).length := by simpa using hlt2
    by_cases hE : okE (gd gs k) (gd cs k)
    · ((repeat ((conv => whnf); (first | (refine LetN.pre ?_; first | ((conv => arg 1; whnf); refine LetN.mk ?_)) | (refine As.pre ?_; first | refine As.mk rfl ?_ | (refine As.mk ?_ ?_; · ((repeat' (refine andT ?_ ?_)) <;> (first | rfl | assumption | exact decide_eq_true (by omega) | exact decide_eq_true (by dsimp only; omega) | exact decide_eq_true (by simp; omega) | (simp; done))))) | (refine LetV.pre ?_; first | refine LetV.mk (t := 22) _ (mapD (f := int) (l := gs) (i := k) 0 hlt) ?_ | refine LetV.mk (t := 22) _ (mapD (f := int) (l := cs) (i := k) 0 hlt2) ?_ | refine LetV.mk (.sc (.int _ _)) rfl ?_) | (refine LetI.pre ?_; first | refine LetI.wrap (by omega) (by omega) ?_) | (refine LetB.pre ?_; first | refine LetB.dect (by omega) ?_) | (refine Br.pre ?_; first | refine Br.tt rfl ?_ | refine Br.ff rfl ?_) | (refine Ck.pre ?_; first | refine Ck.mk rfl ?_) | (refine LetL.pre ?_; first | refine LetL.mk [_] rfl ?_) | (refine CallN.pre ?_; first | refine CallN.own (fun i => i + 1) (add_ok _ _ _ _ hE (by omega) (by omega)) (CallOk.mk' rfl rfl rfl rfl rfl rfl ⟨rfl, rfl, trivial⟩) ?_)))); (try (conv => whnf)))



      refine LoopN.weak ?sw0 (ih (k + 1) ⟨by omega, fun i hi => ?_⟩ (by omega))
      case sw0 => exact SW.mk id rfl rfl rfl ⟨.refl _, .refl _, .refl _, .refl _, .refl _, .refl _, .refl _, .refl _, .refl _, .refl _, trivial⟩ (haveV.one rfl (haveV.one rfl (haveV.one rfl trivial)))
      by_cases hi2 : i < k
      · exact hok i hi2
      · obtain rfl : i = k := by omega
        exact hE
    · obtain ⟨s', a', hbad⟩ := add_bad (gd gs k) (gd cs k) (sN gs cs k) (sD cs k) hE
      have e3 : mv gs cs = ((0, 0), 3) := mv_bad h h2 fun hh => hE (hh k hlt)
      rw [e3]
      ((repeat ((conv => whnf); (first | (refine LetN.pre ?_; first | ((conv => arg 1; whnf); refine LetN.mk ?_)) | (refine As.pre ?_; first | refine As.mk rfl ?_ | (refine As.mk ?_ ?_; · ((repeat' (refine andT ?_ ?_)) <;> (first | rfl | assumption | exact decide_eq_true (by omega) | exact decide_eq_true (by dsimp only; omega) | exact decide_eq_true (by simp; omega) | (simp; done))))) | (refine LetV.pre ?_; first | refine LetV.mk (t := 22) _ (mapD (f := int) (l := gs) (i := k) 0 hlt) ?_ | refine LetV.mk (t := 22) _ (mapD (f := int) (l := cs) (i := k) 0 hlt2) ?_ | refine LetV.mk (.sc (.int _ _)) rfl ?_) | (refine LetB.pre ?_; first | refine LetB.dect (by omega) ?_) | (refine Br.pre ?_; first | refine Br.tt rfl ?_) | (refine Ck.pre ?_; first | refine Ck.mk rfl ?_) | (refine LetL.pre ?_; first | refine LetL.mk [_] rfl ?_) | (refine CallN.pre ?_; first | refine CallN.own (fun i => i + 1) hbad (CallOk.mk' rfl rfl rfl rfl rfl rfl ⟨rfl, rfl, trivial⟩) ?_)))); (try (conv => whnf)))



      exact ⟨.inl rfl, ⟨_, rfl, rfl⟩, trivial⟩
  · obtain rfl : k = gs.length := by omega
    rw [mv_ok h h2 hok]
    clear ih
    ((repeat ((conv => whnf); (first | (refine LetN.pre ?_; first | ((conv => arg 1; whnf); refine LetN.mk ?_)) | (refine As.pre ?_; first | refine As.mk rfl ?_) | (refine LetV.pre ?_; first | refine LetV.mk (.sc (.int _ _)) rfl ?_) | (refine LetB.pre ?_; first | refine LetB.decf (by omega) ?_) | (refine Br.pre ?_; first | refine Br.ff rfl ?_) | (refine Ck.pre ?_; first | refine Ck.mk rfl ?_) | (refine LetL.pre ?_; first | refine LetL.mk [_] rfl ?_) | (refine CallN.pre ?_; first | refine CallN.pure (rat_f (sN gs cs gs.length) (sD cs gs.length) (by omega) (by omega)) rfl rfl ?_)))); (try (conv => whnf)))

    exact ⟨.inl rfl, ⟨_, rfl, rfl⟩, trivial⟩
set_option maxHeartbeats 2000000 in
theorem refMean_f (gs cs : List Int) (f1 f2 : Fl) (hl : gs.length ≤ 9223372036854775807) (hl2 : cs.length ≤ 9223372036854775807) : AFun Try.prog 36 0 [.ro f1 1 (gs.map int), .ro f2 1 (cs.map int)] [] (rt (mv gs cs).1 (mv gs cs).2) [] := by
  refine AFun.of_W T_ok mixed Try.func36 rfl (Nat.le_of_ble_eq_true rfl) rfl ?_
  have e1 : ((gs.map int).length : Int) = gs.length := by simp
  have e2 : ((cs.map int).length : Int) = cs.length := by simp
  by_cases h : gs.length ≠ cs.length ∨ gs.length = 0
  · rw [mv_ne h]
    repeat' ((conv => whnf); (first | (refine LetN.pre ?_; first | ((conv => arg 1; whnf); refine LetN.mk ?_)) | (refine As.pre ?_; first | refine As.mk rfl ?_) | (refine LetI.pre ?_; first | refine LetI.mk _ rfl ?_) | (refine LetB.pre ?_; first | refine LetB.dect (by omega) ?_ | (refine LetB.bne (fun _ => ?_) (fun _ => ?_))) | (refine Gd.pre ?_; first | refine Gd.run rfl ?_ | refine Gd.pass rfl ?_) | (refine Br.pre ?_; first | refine Br.tt rfl ?_) | (refine Ck.pre ?_; first | refine Ck.mk rfl ?_) | (refine LetL.pre ?_; first | refine LetL.mk [_] rfl ?_)))
    all_goals first
      | exact ⟨.inl rfl, ⟨_, rfl, rfl⟩, trivial⟩
      | omega
  by_cases h2 : 2000 < gs.length
  · rw [mv_many h h2]
    ((repeat ((conv => whnf); (first | (refine LetN.pre ?_; first | ((conv => arg 1; whnf); refine LetN.mk ?_)) | (refine As.pre ?_; first | refine As.mk rfl ?_) | (refine LetI.pre ?_; first | refine LetI.mk _ rfl ?_) | (refine LetB.pre ?_; first | refine LetB.dect (by omega) ?_ | refine LetB.decf (by omega) ?_ | refine LetB.bnef (by omega) ?_) | (refine Gd.pre ?_; first | refine Gd.run rfl ?_) | (refine Br.pre ?_; first | refine Br.tt rfl ?_ | refine Br.ff rfl ?_) | (refine Ck.pre ?_; first | refine Ck.mk rfl ?_) | (refine LetL.pre ?_; first | refine LetL.mk [_] rfl ?_)))); (try (conv => whnf)))
    exact ⟨.inl rfl, ⟨_, rfl, rfl⟩, trivial⟩
  have c0 : gs.length = cs.length := by omega
  have c1 : 0 < gs.length := by omega
  have c2 : gs.length ≤ 2000 := by omega
  ((repeat ((conv => whnf); (first | (refine LetN.pre ?_; first | ((conv => arg 1; whnf); refine LetN.mk ?_)) | (refine As.pre ?_; first | refine As.mk rfl ?_) | (refine LetI.pre ?_; first | refine LetI.mk _ rfl ?_) | (refine LetB.pre ?_; first | refine LetB.decf (by omega) ?_ | refine LetB.bnef (by omega) ?_) | (refine Gd.pre ?_; first | refine Gd.run rfl ?_) | (refine Br.pre ?_; first | refine Br.ff rfl ?_) | (refine Ck.pre ?_; first | refine Ck.mk rfl ?_)))); (try (conv => whnf)))
  refine LoopN.weak (s1 := ⟨[(0, .ro f1 1 (gs.map int)), (1, .ro f2 1 (cs.map int)), (4, .ptr 0 2 0 0), (5, int 0), (6, int (sN gs cs 0)), (7, int (sD cs 0)), (8, int (0 : Nat))], [(0, .row 2 46 [.agg [int 0, int 0]])], 1⟩) (SW.mk id rfl rfl rfl ⟨.refl _, .refl _, .refl _, .refl _, .refl _, .refl _, .refl _, trivial⟩ (haveV.one rfl trivial)) ?_
  refine LoopN.ind T_ok mixed (S := fun k : Nat => ⟨[(0, .ro f1 1 (gs.map int)), (1, .ro f2 1 (cs.map int)), (4, .ptr 0 2 0 0), (5, int 0), (6, int (sN gs cs k)), (7, int (sD cs k)), (8, int k)], [(0, .row 2 46 [.agg [int 0, int 0]])], 1⟩) (fun k => gs.length - k) (fun k => k ≤ gs.length ∧ okL gs cs k) (fun _ => rfl) (fun k hk ih => ?_) 0 ⟨Nat.zero_le _, fun i hi => absurd hi (Nat.not_lt_zero i)⟩
  obtain ⟨hk, hok⟩ := hk
  have hb := sums_b gs cs k hok
  by_cases hlt : k < gs.length
  · have hlt2 : k < cs.length := by omega
    have q1 : k < (gs.map int).length := by simpa using hlt
    have q2 : k < (cs.map int).length := by simpa using hlt2
    by_cases hE : okE (gd gs k) (gd cs k)
    · have hE' : okE (gs.getD k 0) (cs.getD k 0) := hE
      have hm : -60000 ≤ gs.getD k 0 * cs.getD k 0 ∧ gs.getD k 0 * cs.getD k 0 ≤ 60000 := mul_b hE
      ((repeat ((conv => whnf); (first | (refine As.pre ?_; first | refine As.mk rfl ?_ | (refine As.mk ?_ ?_; · ((repeat' (refine andT ?_ ?_)) <;> (first | rfl | assumption | exact decide_eq_true (by omega) | exact decide_eq_true (by dsimp only; omega) | exact decide_eq_true (by simp; omega) | (simp; done))))) | (refine LetV.pre ?_; first | refine LetV.mk (t := 22) _ (mapD (f := int) (l := gs) (i := k) 0 hlt) ?_ | refine LetV.mk (t := 22) _ (mapD (f := int) (l := cs) (i := k) 0 hlt2) ?_ | refine LetV.mk (.sc (.int _ _)) rfl ?_) | (refine LetI.pre ?_; first | refine LetI.wrap (by omega) (by omega) ?_ | refine LetI.mk _ rfl ?_) | (refine LetB.pre ?_; first | refine LetB.dect (by omega) ?_ | refine LetB.decf (by omega) ?_) | (refine Gd.pre ?_; first | refine Gd.run rfl ?_) | (refine Br.pre ?_; first | refine Br.tt rfl ?_ | refine Br.ff rfl ?_) | (refine Ck.pre ?_; first | refine Ck.drawn (by kernel_rfl) ?_ | refine Ck.mk rfl ?_) | (refine CallN.pre ?_; first | refine CallN.dect (near_f _ 1000 (by omega)) rfl (by omega) ?_)))); (try (conv => whnf)))



      refine LoopN.weak ?sw0 (ih (k + 1) ⟨by omega, fun i hi => ?_⟩ (by omega))
      case sw0 => exact SW.mk id rfl rfl rfl ⟨.refl _, .refl _, .refl _, .refl _, .refl _, .refl _, .refl _, trivial⟩ (haveV.one rfl trivial)
      by_cases hi2 : i < k
      · exact hok i hi2
      · obtain rfl : i = k := by omega
        exact hE
    · have e3 : mv gs cs = ((0, 0), 3) := mv_bad h h2 fun hh => hE (hh k hlt)
      rw [e3]
      replace hE : ¬ okE (gs.getD k 0) (cs.getD k 0) := hE
      clear ih
      repeat' ((conv => whnf); (first | (refine LetN.pre ?_; first | ((conv => arg 1; whnf); refine LetN.mk ?_)) | (refine As.pre ?_; first | refine As.mk rfl ?_ | (refine As.mk ?_ ?_; · ((repeat' (refine andT ?_ ?_)) <;> (first | rfl | assumption | exact decide_eq_true (by omega) | exact decide_eq_true (by dsimp only; omega) | exact decide_eq_true (by simp; omega) | (simp; done))))) | (refine LetV.pre ?_; first | refine LetV.mk (t := 22) _ (mapD (f := int) (l := gs) (i := k) 0 hlt) ?_ | refine LetV.mk (t := 22) _ (mapD (f := int) (l := cs) (i := k) 0 hlt2) ?_ | refine LetV.mk (.sc (.int _ _)) rfl ?_) | (refine LetI.pre ?_; first | refine LetI.mk _ rfl ?_) | (refine LetB.pre ?_; first | refine LetB.dect (by omega) ?_ | (refine LetB.dec (fun _ => ?_) (fun _ => ?_))) | (refine Gd.pre ?_; first | refine Gd.run rfl ?_ | refine Gd.pass rfl ?_) | (refine Br.pre ?_; first | refine Br.tt rfl ?_) | (refine Ck.pre ?_; first | refine Ck.mk rfl ?_) | (refine LetL.pre ?_; first | refine LetL.mk [_] rfl ?_) | (refine CallN.pre ?_; first | refine CallN.dec (near_f _ 1000 (by omega)) rfl (fun _ => ?_) (fun _ => ?_))))



      all_goals first
        | exact ⟨.inl rfl, ⟨_, rfl, rfl⟩, trivial⟩
        | (exfalso; omega)
  · obtain rfl : k = gs.length := by omega
    rw [mv_ok h h2 hok]
    clear ih
    ((repeat ((conv => whnf); (first | (refine LetN.pre ?_; first | ((conv => arg 1; whnf); refine LetN.mk ?_)) | (refine As.pre ?_; first | refine As.mk rfl ?_) | (refine LetI.pre ?_; first | refine LetI.mk _ rfl ?_) | (refine LetB.pre ?_; first | refine LetB.decf (by omega) ?_) | (refine Br.pre ?_; first | refine Br.ff rfl ?_) | (refine Ck.pre ?_; first | refine Ck.mk rfl ?_) | (refine LetL.pre ?_; first | refine LetL.mk [_] rfl ?_) | (refine CallN.pre ?_; first | refine CallN.pure (refrat_f (sN gs cs gs.length) (sD cs gs.length) (by omega) (by omega)) rfl rfl ?_)))); (try (conv => whnf)))

    exact ⟨.inl rfl, ⟨_, rfl, rfl⟩, trivial⟩
end Sc
end Go.Proofs.Ytnegdmjmllmclaa
namespace Go.Proofs.Ytnegdmjmllmclaa
open Go.Proofs.Ytnegdmjmllmclaa.Am
set_option maxRecDepth 100000
namespace Dt
abbrev int (a : Int) : AV := .sc (.int .i64 a)
abbrev bool (b : Bool) : AV := .sc (.bool b)
/-- What a word holds. -/
abbrev okW (n : Int) : Prop := -9223372036854775808 ≤ n ∧ n ≤ 9223372036854775807
theorem divide_f (n : Int) (h : -9223372036854775708 ≤ n ∧ n ≤ 9223372036854775807) : AFun Try.prog 54 0 [int n, int 100] [] (int (n / 100)) [] := by
  refine AFun.of_W T_ok mixed Try.func54 rfl (Nat.le_of_ble_eq_true rfl) rfl ?_
  have b1 := tmod_bound n (m := 100) (by omega)
  have e1 := Int.mul_tdiv_add_tmod n 100
  obtain ⟨t, ht⟩ : ∃ t, t = n.tmod 100 := ⟨_, rfl⟩
  obtain ⟨k, hk⟩ : ∃ k, k = n.tdiv 100 := ⟨_, rfl⟩
  rw [← ht, ← hk] at e1
  rw [← ht] at b1
  have hm : n % 100 = (t + 100).tmod 100 := by
    rw [Int.tmod_eq_emod_of_nonneg (by omega)]; omega
  have hd : n / 100 = (n - n % 100).tdiv 100 := by
    have : n - n % 100 = 100 * (n / 100) := by omega
    rw [this, Int.mul_tdiv_cancel_left _ (by decide)]
  obtain ⟨m, hm2⟩ : ∃ m, m = n % 100 := ⟨_, rfl⟩
  rw [← hm2] at hm hd
  have b2 : 0 ≤ m ∧ m < 100 := by omega
  have hq : n / 100 = IntKind.i64.wrap ((n - m).tdiv 100) := by rw [← hd, wrap_id (by omega) (by omega)]
  generalize n / 100 = q at hd hq ⊢
  clear hm2 hk e1
  clear k
  ((repeat ((conv => whnf); (first | (refine As.pre ?_; first | refine As.mk rfl ?_) | (refine LetI.pre ?_; first | refine LetI.mk (o := some .rem) t ht ?_ | refine LetI.mk (o := some .rem) m hm ?_ | refine LetI.mk (o := some .quo) q hq ?_ | refine LetI.wrap (by omega) (by omega) ?_) | (refine Ck.pre ?_; first | refine Ck.mk rfl ?_)))); (try (conv => whnf)))




  exact ⟨.inl rfl, ⟨_, rfl, rfl⟩, trivial⟩
theorem Term_f (n : Int) (h : okW n) : AFun Try.prog 28 0 [int n] [] (int (n / 100)) [] := by
  refine AFun.of_W T_ok mixed Try.func28 rfl (Nat.le_of_ble_eq_true rfl) rfl ?_
  by_cases hn : n < -4611686018427387904
  · have hd := divide_f (n + 100) (by omega)
    have hq : n / 100 = IntKind.i64.wrap ((n + 100) / 100 - 1) := by rw [wrap_id (by omega) (by omega)]; omega
    generalize n / 100 = q at hq ⊢
    generalize (n + 100) / 100 = r at hd hq
    ((repeat ((conv => whnf); (first | (refine As.pre ?_; first | refine As.mk rfl ?_) | (refine LetI.pre ?_; first | refine LetI.mk (o := some .sub) q hq ?_ | refine LetI.wrap (by omega) (by omega) ?_) | (refine LetB.pre ?_; first | refine LetB.dect (by omega) ?_) | (refine Br.pre ?_; first | refine Br.tt rfl ?_) | (refine Ck.pre ?_; first | refine Ck.mk rfl ?_) | (refine CallN.pre ?_; first | refine CallN.pure hd rfl rfl ?_)))); (try (conv => whnf)))


    exact ⟨.inl rfl, ⟨_, rfl, rfl⟩, trivial⟩
  · have hd := divide_f n (by omega)
    generalize n / 100 = q at hd ⊢
    ((repeat ((conv => whnf); (first | (refine As.pre ?_; first | refine As.mk rfl ?_) | (refine LetB.pre ?_; first | refine LetB.decf (by omega) ?_) | (refine Br.pre ?_; first | refine Br.ff rfl ?_) | (refine Ck.pre ?_; first | refine Ck.mk rfl ?_) | (refine CallN.pre ?_; first | refine CallN.pure hd rfl rfl ?_)))); (try (conv => whnf)))
    exact ⟨.inl rfl, ⟨_, rfl, rfl⟩, trivial⟩
theorem floor_f (n : Int) (h : okW n) : AFun Try.prog 55 0 [int n, int 100] [] (int (n / 100)) [] := by
  refine AFun.of_W T_ok mixed Try.func55 rfl (Nat.le_of_ble_eq_true rfl) rfl ?_
  have b1 := tmod_bound n (m := 100) (by omega)
  have e1 := Int.mul_tdiv_add_tmod n 100
  obtain ⟨t, ht⟩ : ∃ t, t = n.tmod 100 := ⟨_, rfl⟩
  obtain ⟨k, hk⟩ : ∃ k, k = n.tdiv 100 := ⟨_, rfl⟩
  rw [← ht, ← hk] at e1
  rw [← ht] at b1
  have hkw : k = IntKind.i64.wrap (n.tdiv 100) := by rw [← hk, wrap_id (by omega) (by omega)]
  have hs : (0 ≤ n → 0 ≤ t) ∧ (n ≤ 0 → t ≤ 0) := by
    constructor
    · intro h0; rw [ht]; exact Int.tmod_nonneg _ h0
    · intro h0
      rw [ht, show n = - (-n) by omega, Int.neg_tmod]
      have := Int.tmod_nonneg (a := -n) 100 (by omega)
      omega
  by_cases hn : t < 0
  · have hq : n / 100 = IntKind.i64.wrap (k - 1) := by rw [wrap_id (by omega) (by omega)]; omega
    generalize n / 100 = q at hq ⊢
    ((repeat ((conv => whnf); (first | (refine As.pre ?_; first | refine As.mk rfl ?_) | (refine LetI.pre ?_; first | refine LetI.mk (o := some .rem) t ht ?_ | refine LetI.mk (o := some .quo) k hkw ?_ | refine LetI.mk (o := some .sub) q hq ?_) | (refine LetB.pre ?_; first | refine LetB.dect (by omega) ?_) | (refine Br.pre ?_; first | refine Br.tt rfl ?_) | (refine Ck.pre ?_; first | refine Ck.mk rfl ?_)))); (try (conv => whnf)))




    exact ⟨.inl rfl, ⟨_, rfl, rfl⟩, trivial⟩
  · have hq : n / 100 = k := by omega
    rw [hq]
    ((repeat ((conv => whnf); (first | (refine As.pre ?_; first | refine As.mk rfl ?_) | (refine LetI.pre ?_; first | refine LetI.mk (o := some .rem) t ht ?_ | refine LetI.mk (o := some .quo) k hkw ?_) | (refine LetB.pre ?_; first | refine LetB.decf (by omega) ?_) | (refine Br.pre ?_; first | refine Br.ff rfl ?_) | (refine Ck.pre ?_; first | refine Ck.mk rfl ?_)))); (try (conv => whnf)))



    exact ⟨.inl rfl, ⟨_, rfl, rfl⟩, trivial⟩
theorem refTerm_f (n : Int) (h : okW n) : AFun Try.prog 31 0 [int n] [] (int (n / 100)) [] := by
  refine AFun.of_W T_ok mixed Try.func31 rfl (Nat.le_of_ble_eq_true rfl) rfl ?_
  have hd := floor_f n h
  generalize n / 100 = q at hd ⊢
  ((repeat ((conv => whnf); (first | (refine As.pre ?_; first | refine As.mk rfl ?_) | (refine Ck.pre ?_; first | refine Ck.mk rfl ?_) | (refine CallN.pre ?_; first | refine CallN.pure hd rfl rfl ?_)))); (try (conv => whnf)))
  exact ⟨.inl rfl, ⟨_, rfl, rfl⟩, trivial⟩
theorem Last_f (t : Int) (h : -1000 ≤ t ∧ t ≤ 1000) : AFun Try.prog 56 0 [int t] [] (int (100 * t + 99)) [] := by
  have hB : AFun Try.prog 76 0 [int t] [] (int (100 * t)) [] := by
    refine AFun.of_W T_ok mixed Try.func76 rfl (Nat.le_of_ble_eq_true rfl) rfl ?_
    ((repeat ((conv => whnf); (first | (refine As.pre ?_; first | refine As.mk rfl ?_) | (refine LetI.pre ?_; first | refine LetI.wrap (by omega) (by omega) ?_) | (refine Ck.pre ?_; first | refine Ck.mk rfl ?_)))); (try (conv => whnf)))
    exact ⟨.inl rfl, ⟨_, rfl, rfl⟩, trivial⟩
  refine AFun.of_W T_ok mixed Try.func56 rfl (Nat.le_of_ble_eq_true rfl) rfl ?_
  have hq : 100 * t + 99 = IntKind.i64.wrap (100 * t + 100 - 1) := by rw [wrap_id (by omega) (by omega)]; omega
  ((repeat ((conv => whnf); (first | (refine As.pre ?_; first | refine As.mk rfl ?_) | (refine LetI.pre ?_; first | refine LetI.mk (o := some .sub) (100 * t + 99) hq ?_ | refine LetI.wrap (by omega) (by omega) ?_) | (refine Ck.pre ?_; first | refine Ck.mk rfl ?_) | (refine CallN.pre ?_; first | refine CallN.pure hB rfl rfl ?_)))); (try (conv => whnf)))


  exact ⟨.inl rfl, ⟨_, rfl, rfl⟩, trivial⟩
theorem refLast_f (t : Int) (h : -1000 ≤ t ∧ t ≤ 1000) : AFun Try.prog 60 0 [int t] [] (int (100 * t + 99)) [] := by
  refine AFun.of_W T_ok mixed Try.func60 rfl (Nat.le_of_ble_eq_true rfl) rfl ?_
  have hq : 100 * t + 99 = IntKind.i64.wrap (t * 100 + 100 - 1) := by rw [wrap_id (by omega) (by omega)]; omega
  ((repeat ((conv => whnf); (first | (refine As.pre ?_; first | refine As.mk rfl ?_) | (refine LetI.pre ?_; first | refine LetI.mk (o := some .sub) (100 * t + 99) hq ?_ | refine LetI.wrap (by omega) (by omega) ?_) | (refine Ck.pre ?_; first | refine Ck.mk rfl ?_)))); (try (conv => whnf)))
  exact ⟨.inl rfl, ⟨_, rfl, rfl⟩, trivial⟩
end Dt
end Go.Proofs.Ytnegdmjmllmclaa
namespace Go.Proofs.Ytnegdmjmllmclaa
open Go.Proofs.Ytnegdmjmllmclaa.Am
set_option maxRecDepth 100000
namespace En
/-! ### Terms -/
theorem tmD {l : List E} {k : Nat} (h : k < l.length) : en (l.getD k e0) = (l.map en).getD k (.sc undef) := mapD e0 h
abbrev tmB (st a : Int) (e : E) : Bool := decide (e.kind = 3 ∧ e.student = st ∧ e.day ≤ a)
def trmP (l : List E) (st a : Int) : List Int := (l.filter (tmB st a)).map fun e => e.on_ / 100
def minP : List Int → Int
  | [] => 0
  | x :: xs => xs.foldl min x
def maxP : List Int → Int
  | [] => 0
  | x :: xs => xs.foldl max x
theorem getD_i {xs : List Int} {k : Nat} (h : k < xs.length) : int (xs.getD k 0) = (xs.map int).getD k (.sc undef) := mapD 0 h
theorem fold_min (xs : List Int) (x : Int) (k : Nat) (f : Int → Int → Int) (h : k < xs.length) : (xs.drop k).foldl f x = (xs.drop (k + 1)).foldl f (f x (xs.getD k 0)) := foldl_drop f h 0 x
set_option maxRecDepth 100000 in
theorem Min_f (xs : List Int) (fl : Fl) (h0 : xs ≠ []) (hl : xs.length ≤ 1000) : AFun Try.prog 29 0 [.ro fl 1 (xs.map int)] [] (int (minP xs)) [] := by
  refine AFun.of_W T_ok mixed Try.func29 rfl (Nat.le_of_ble_eq_true rfl) rfl ?_
  have hml : (xs.map int).length = xs.length := List.length_map _
  have hpos : 0 < xs.length := List.length_pos_iff.2 h0
  have hld0 := getD_i hpos
  have hP : minP xs = (xs.drop 1).foldl min (xs.getD 0 0) := by
    cases xs with
    | nil => exact absurd rfl h0
    | cons x xs => rfl
  generalize xs.getD 0 0 = m0 at hld0 hP
  ((repeat ((conv => whnf); (first | (refine As.pre ?_; first | refine As.mk rfl ?_ | (refine As.mk ?_ ?_; · ((repeat' (refine andT ?_ ?_)) <;> (first | rfl | assumption | exact decide_eq_true (by omega) | exact decide_eq_true (by dsimp only; omega) | exact decide_eq_true (by simp; omega) | (simp; done))))) | (refine LetV.pre ?_; first | refine LetV.mk (t := 22) _ hld0 ?_ | refine LetV.mk (.sc (.int _ _)) rfl ?_) | (refine LetI.pre ?_; first | refine LetI.mk _ rfl ?_) | (refine LetB.pre ?_; first | refine LetB.decf (by omega) ?_) | (refine Br.pre ?_; first | refine Br.ff rfl ?_) | (refine Ck.pre ?_; first | refine Ck.mk rfl ?_)))); (try (conv => whnf)))
  refine LoopN.weak (s1 := ⟨[(0, .ro fl 1 (xs.map int)), (3, int m0), (4, int (0 + 1 : Nat))], [], 0⟩) (SW.fr0 (Nat.le_refl _) rfl ⟨.refl _, .refl _, .refl _, trivial⟩) ?_
  refine LoopN.ind T_ok mixed (S := fun i : Nat × Int => ⟨[(0, .ro fl 1 (xs.map int)), (3, int i.2), (4, int (i.1 + 1 : Nat))], [], 0⟩) (fun i => xs.length - i.1) (fun i => i.1 + 1 ≤ xs.length ∧ minP xs = (xs.drop (i.1 + 1)).foldl min i.2) (fun _ => rfl) (fun i hi ih => ?_) (0, m0) ⟨hpos, hP⟩
  obtain ⟨k, m⟩ := i
  obtain ⟨h1, h2⟩ := hi
  simp only at h1 h2
  by_cases hlt : k + 1 < xs.length
  case neg =>
    rw [List.drop_eq_nil_of_le (by omega), List.foldl_nil] at h2
    rw [h2]
    clear ih
    ((repeat ((conv => whnf); (first | (refine As.pre ?_; first | refine As.mk rfl ?_) | (refine LetI.pre ?_; first | refine LetI.mk _ rfl ?_) | (refine LetB.pre ?_; first | refine LetB.decf (by omega) ?_) | (refine Br.pre ?_; first | refine Br.ff rfl ?_) | (refine Ck.pre ?_; first | refine Ck.mk rfl ?_)))); (try (conv => whnf)))
    exact ⟨.inl rfl, ⟨_, rfl, rfl⟩, trivial⟩
  have hld := getD_i hlt
  rw [fold_min xs m (k + 1) min hlt] at h2
  generalize xs.getD (k + 1) 0 = y at hld h2
  have hnx := ih (k + 1, min m y) ⟨hlt, h2⟩ (by show xs.length - (k + 1) < xs.length - k; omega)
  clear ih h2
  have hmm : min m y = if m < y then m else y := by split <;> omega
  ((repeat ((conv => whnf); (first | (refine As.pre ?_; first | refine As.mk rfl ?_ | (refine As.mk ?_ ?_; · ((repeat' (refine andT ?_ ?_)) <;> (first | rfl | assumption | exact decide_eq_true (by omega) | exact decide_eq_true (by dsimp only; omega) | exact decide_eq_true (by simp; omega) | (simp; done))))) | (refine LetV.pre ?_; first | refine LetV.mk (t := 22) _ hld ?_ | refine LetV.mk (.sc (.int _ _)) rfl ?_) | (refine LetI.pre ?_; first | refine LetI.wrap (by omega) (by omega) ?_ | refine LetI.mk _ rfl ?_) | (refine LetB.pre ?_; first | refine LetB.dect (by omega) ?_) | (refine Br.pre ?_; first | refine Br.tt rfl ?_) | (refine Ck.pre ?_; first | refine Ck.mk rfl ?_)))); (try (conv => whnf)))
  refine LoopN.weak ?sw hnx
  case sw => exact SW.fr0 (Nat.le_refl _) rfl ⟨.refl _, VLe2.int rfl, VLe2.int (by dsimp only; omega), trivial⟩
set_option maxRecDepth 100000 in
theorem Max_f (xs : List Int) (fl : Fl) (h0 : xs ≠ []) (hl : xs.length ≤ 1000) : AFun Try.prog 30 0 [.ro fl 1 (xs.map int)] [] (int (maxP xs)) [] := by
  refine AFun.of_W T_ok mixed Try.func30 rfl (Nat.le_of_ble_eq_true rfl) rfl ?_
  have hml : (xs.map int).length = xs.length := List.length_map _
  have hpos : 0 < xs.length := List.length_pos_iff.2 h0
  have hld0 := getD_i hpos
  have hP : maxP xs = (xs.drop 1).foldl max (xs.getD 0 0) := by
    cases xs with
    | nil => exact absurd rfl h0
    | cons x xs => rfl
  generalize xs.getD 0 0 = m0 at hld0 hP
  ((repeat ((conv => whnf); (first | (refine As.pre ?_; first | refine As.mk rfl ?_ | (refine As.mk ?_ ?_; · ((repeat' (refine andT ?_ ?_)) <;> (first | rfl | assumption | exact decide_eq_true (by omega) | exact decide_eq_true (by dsimp only; omega) | exact decide_eq_true (by simp; omega) | (simp; done))))) | (refine LetV.pre ?_; first | refine LetV.mk (t := 22) _ hld0 ?_ | refine LetV.mk (.sc (.int _ _)) rfl ?_) | (refine LetI.pre ?_; first | refine LetI.mk _ rfl ?_) | (refine LetB.pre ?_; first | refine LetB.decf (by omega) ?_) | (refine Br.pre ?_; first | refine Br.ff rfl ?_) | (refine Ck.pre ?_; first | refine Ck.mk rfl ?_)))); (try (conv => whnf)))
  refine LoopN.weak (s1 := ⟨[(0, .ro fl 1 (xs.map int)), (3, int m0), (4, int (0 + 1 : Nat))], [], 0⟩) (SW.fr0 (Nat.le_refl _) rfl ⟨.refl _, .refl _, .refl _, trivial⟩) ?_
  refine LoopN.ind T_ok mixed (S := fun i : Nat × Int => ⟨[(0, .ro fl 1 (xs.map int)), (3, int i.2), (4, int (i.1 + 1 : Nat))], [], 0⟩) (fun i => xs.length - i.1) (fun i => i.1 + 1 ≤ xs.length ∧ maxP xs = (xs.drop (i.1 + 1)).foldl max i.2) (fun _ => rfl) (fun i hi ih => ?_) (0, m0) ⟨hpos, hP⟩
  obtain ⟨k, m⟩ := i
  obtain ⟨h1, h2⟩ := hi
  simp only at h1 h2
  by_cases hlt : k + 1 < xs.length
  case neg =>
    rw [List.drop_eq_nil_of_le (by omega), List.foldl_nil] at h2
    rw [h2]
    clear ih
    ((repeat ((conv => whnf); (first | (refine As.pre ?_; first | refine As.mk rfl ?_) | (refine LetI.pre ?_; first | refine LetI.mk _ rfl ?_) | (refine LetB.pre ?_; first | refine LetB.decf (by omega) ?_) | (refine Br.pre ?_; first | refine Br.ff rfl ?_) | (refine Ck.pre ?_; first | refine Ck.mk rfl ?_)))); (try (conv => whnf)))
    exact ⟨.inl rfl, ⟨_, rfl, rfl⟩, trivial⟩
  have hld := getD_i hlt
  rw [fold_min xs m (k + 1) max hlt] at h2
  generalize xs.getD (k + 1) 0 = y at hld h2
  have hnx := ih (k + 1, max m y) ⟨hlt, h2⟩ (by show xs.length - (k + 1) < xs.length - k; omega)
  clear ih h2
  have hmm : max m y = if m < y then y else m := by split <;> omega
  ((repeat ((conv => whnf); (first | (refine As.pre ?_; first | refine As.mk rfl ?_ | (refine As.mk ?_ ?_; · ((repeat' (refine andT ?_ ?_)) <;> (first | rfl | assumption | exact decide_eq_true (by omega) | exact decide_eq_true (by dsimp only; omega) | exact decide_eq_true (by simp; omega) | (simp; done))))) | (refine LetV.pre ?_; first | refine LetV.mk (t := 22) _ hld ?_ | refine LetV.mk (.sc (.int _ _)) rfl ?_) | (refine LetI.pre ?_; first | refine LetI.wrap (by omega) (by omega) ?_ | refine LetI.mk _ rfl ?_) | (refine LetB.pre ?_; first | refine LetB.dect (by omega) ?_) | (refine Br.pre ?_; first | refine Br.tt rfl ?_) | (refine Ck.pre ?_; first | refine Ck.mk rfl ?_)))); (try (conv => whnf)))
  refine LoopN.weak ?sw hnx
  case sw => exact SW.fr0 (Nat.le_refl _) rfl ⟨.refl _, VLe2.int rfl, VLe2.int (by dsimp only; omega), trivial⟩
abbrev tmS (l : List E) (st a : Int) (fl : Fl) : Nat × List Int → AS
  | (k, out) => ⟨[(0, .ro fl 15 (l.map en)), (1, int st), (2, int a), (9, .slm {} 0 1 0 out.length), (12, .ro fl 15 (l.map en)), (13, int l.length), (14, int k)], [(0, .row 1 3 (out.map int))], 1⟩
set_option maxHeartbeats 1600000 in
set_option maxRecDepth 100000 in
theorem Terms_f (l : List E) (st a : Int) (fl : Fl) (hl : l.length ≤ 1000) (ho : ∀ e ∈ l, Dt.okW e.on_) : AFun Try.prog 13 0 [.ro fl 15 (l.map en), int st, int a] [] (.tup [int (minP (trmP l st a)), int (maxP (trmP l st a)), bool (decide (trmP l st a ≠ []))]) [] := by
  refine AFun.of_W T_ok mixed Try.func13 rfl (Nat.le_of_ble_eq_true rfl) rfl ?_
  have hml : (l.map en).length = l.length := List.length_map _
  ((repeat ((conv => whnf); (first | (refine As.pre ?_; first | refine As.mk rfl ?_) | (refine LetI.pre ?_; first | refine LetI.mk _ rfl ?_) | (refine Ck.pre ?_; first | refine Ck.mk rfl ?_)))); (try (conv => whnf)))
  refine LoopN.weak (s1 := tmS l st a fl (0, [])) ?sw1 ?_
  case sw1 => exact SW.mk id rfl rfl rfl ⟨.refl _, .refl _, .refl _, VLe2.nilslm, .refl _, VLe2.int (by rw [List.length_map]), .refl _, trivial⟩ (haveV.nil (Nat.le_of_ble_eq_true rfl) trivial)
  refine LoopN.ind T_ok mixed (S := tmS l st a fl) (fun i => l.length - i.1) (fun i => i.1 ≤ l.length ∧ i.2 = ((l.take i.1).filter (tmB st a)).map fun e => e.on_ / 100) (fun _ => rfl) (fun i hi ih => ?_) (0, []) ⟨Nat.zero_le _, rfl⟩
  obtain ⟨k, out⟩ := i
  obtain ⟨h1, h2⟩ := hi
  simp only at h1 h2
  have hmo : (out.map int).length = out.length := List.length_map _
  have hol : out.length ≤ k := by
    have := List.length_filter_le (tmB st a) (l.take k)
    rw [h2, List.length_map]
    rw [List.length_take] at this
    omega
  by_cases hlt : k < l.length
  case neg =>
    clear ih
    rw [List.take_of_length_le (by omega)] at h2
    have h3 : trmP l st a = out := h2.symm
    rw [h3]
    by_cases hn : out = []
    · subst hn
      ((repeat ((conv => whnf); (first | (refine As.pre ?_; first | refine As.mk rfl ?_) | (refine LetI.pre ?_; first | refine LetI.mk _ rfl ?_) | (refine LetB.pre ?_; first | refine LetB.tt rfl ?_ | refine LetB.decf (by omega) ?_) | (refine Br.pre ?_; first | refine Br.tt rfl ?_ | refine Br.ff rfl ?_) | (refine Ck.pre ?_; first | refine Ck.mk rfl ?_)))); (try (conv => whnf)))
      exact ⟨.inl rfl, ⟨_, rfl, rfl⟩, trivial⟩
    · have hpos : 0 < out.length := List.length_pos_iff.2 hn
      have hmin := Min_f out {} hn (by omega)
      have hmax := Max_f out {} hn (by omega)
      rw [decide_eq_true hn]
      clear h2 h3
      ((repeat ((conv => whnf); (first | (refine As.pre ?_; first | refine As.mk rfl ?_) | (refine LetI.pre ?_; first | refine LetI.mk _ rfl ?_) | (refine LetB.pre ?_; first | refine LetB.decf (by omega) ?_) | (refine Br.pre ?_; first | refine Br.ff rfl ?_) | (refine Ck.pre ?_; first | refine Ck.mk rfl ?_) | (refine CallN.pre ?_; first | refine CallN.lend hmin rfl (.full rfl (pure_int _) hmo.symm .nil) ?_ | refine CallN.lend hmax rfl (.full rfl (pure_int _) hmo.symm .nil) ?_)))); (try (conv => whnf)))


      exact ⟨.inl rfl, ⟨_, rfl, rfl⟩, trivial⟩
  have hld := tmD hlt
  have hoe := ho _ (getD_mem' hlt)
  have hq : ((l.take (k + 1)).filter (tmB st a)).map (fun e => e.on_ / 100) = out ++ if tmB st a (l.getD k e0) then [(l.getD k e0).on_ / 100] else [] := by
    rw [h2, List.take_succ_eq_append_getElem hlt, List.filter_append, List.map_append, List.getD_eq_getElem?_getD, List.getElem?_eq_getElem hlt]
    congr 1
    simp only [Option.getD_some, List.filter_cons, List.filter_nil]
    split <;> rfl
  clear h2
  generalize l.getD k e0 = e at hld hoe hq
  by_cases hc : e.kind = 3 ∧ e.student = st ∧ e.day ≤ a
  · rw [if_pos (decide_eq_true hc)] at hq
    obtain ⟨c1, c2, c3⟩ := hc
    have hT := Dt.Term_f e.on_ hoe
    generalize e.on_ / 100 = t at hT hq
    have hnx := ih (k + 1, out ++ [t]) ⟨by show k + 1 ≤ l.length; omega, hq.symm⟩ (by show l.length - (k + 1) < l.length - k; omega)
    have happ := app_intL out t out.length rfl
    have hr := room_int (n := out.length + 1) (by omega)
    clear ih hq
    ((repeat ((conv => whnf); (first | (refine LetN.pre ?_; first | ((conv => arg 1; whnf); refine LetN.mk ?_)) | (refine As.pre ?_; first | refine As.mk rfl ?_ | (refine As.mk ?_ ?_; · ((repeat' (refine andT ?_ ?_)) <;> (first | rfl | assumption | exact decide_eq_true (by omega) | exact decide_eq_true (by dsimp only; omega) | exact decide_eq_true (by simp; omega) | (simp; done))))) | (refine LetV.pre ?_; first | refine LetV.mk (t := 27) _ hld ?_ | refine LetV.mk (.sc (.int _ _)) rfl ?_ | refine LetV.mk (.agg _) rfl ?_) | (refine LetI.pre ?_; first | refine LetI.wrap (by omega) (by omega) ?_) | (refine LetB.pre ?_; first | refine LetB.dect (by omega) ?_) | (refine Gd.pre ?_; first | refine Gd.run rfl ?_) | (refine Br.pre ?_; first | refine Br.tt rfl ?_) | (refine Ck.pre ?_; first | refine Ck.mk rfl ?_) | (refine LetL.pre ?_; first | refine LetL.mk (ty := 3) _ happ ?_ | refine LetL.mk [_] rfl ?_) | (refine CallN.pre ?_; first | refine CallN.pure hT rfl rfl ?_)))); (try (conv => whnf)))



    refine LoopN.weak ?sw2 hnx
    case sw2 => exact SW.mk (fun _ => 2) rfl rfl (namesAll.row (pure_int _) rfl) ⟨.refl _, .refl _, .refl _, VLe2.slm_of (by simp), .refl _, .refl _, VLe2.int (by omega), trivial⟩ (haveV.row (pure_int _) rfl trivial)
  · rw [if_neg (by simpa using hc), List.append_nil] at hq
    have hnx := ih (k + 1, out) ⟨by show k + 1 ≤ l.length; omega, hq.symm⟩ (by show l.length - (k + 1) < l.length - k; omega)
    clear ih hq
    by_cases c1 : e.kind = 3
    · by_cases c2 : e.student = st
      · have c3 : ¬ e.day ≤ a := fun h => hc ⟨c1, c2, h⟩
        ((repeat ((conv => whnf); (first | (refine LetN.pre ?_; first | ((conv => arg 1; whnf); refine LetN.mk ?_)) | (refine As.pre ?_; first | refine As.mk rfl ?_ | (refine As.mk ?_ ?_; · ((repeat' (refine andT ?_ ?_)) <;> (first | rfl | assumption | exact decide_eq_true (by omega) | exact decide_eq_true (by dsimp only; omega) | exact decide_eq_true (by simp; omega) | (simp; done))))) | (refine LetV.pre ?_; first | refine LetV.mk (t := 27) _ hld ?_ | refine LetV.mk (.sc (.int _ _)) rfl ?_ | refine LetV.mk (.agg _) rfl ?_) | (refine LetI.pre ?_; first | refine LetI.wrap (by omega) (by omega) ?_) | (refine LetB.pre ?_; first | refine LetB.dect (by omega) ?_ | refine LetB.decf (by omega) ?_) | (refine Gd.pre ?_; first | refine Gd.run rfl ?_) | (refine Br.pre ?_; first | refine Br.tt rfl ?_ | refine Br.ff rfl ?_) | (refine Ck.pre ?_; first | refine Ck.mk rfl ?_) | (refine LetL.pre ?_; first | refine LetL.mk [_] rfl ?_)))); (try (conv => whnf)))
        refine LoopN.weak ?sw3 hnx
        case sw3 => exact SW.mk id rfl rfl (namesAll.row (pure_int _) rfl) ⟨.refl _, .refl _, .refl _, .refl _, .refl _, .refl _, VLe2.int (by omega), trivial⟩ (haveV.row (pure_int _) rfl trivial)
      · ((repeat ((conv => whnf); (first | (refine LetN.pre ?_; first | ((conv => arg 1; whnf); refine LetN.mk ?_)) | (refine As.pre ?_; first | refine As.mk rfl ?_ | (refine As.mk ?_ ?_; · ((repeat' (refine andT ?_ ?_)) <;> (first | rfl | assumption | exact decide_eq_true (by omega) | exact decide_eq_true (by dsimp only; omega) | exact decide_eq_true (by simp; omega) | (simp; done))))) | (refine LetV.pre ?_; first | refine LetV.mk (t := 27) _ hld ?_ | refine LetV.mk (.sc (.int _ _)) rfl ?_ | refine LetV.mk (.agg _) rfl ?_) | (refine LetI.pre ?_; first | refine LetI.wrap (by omega) (by omega) ?_) | (refine LetB.pre ?_; first | refine LetB.dect (by omega) ?_ | refine LetB.decf (by omega) ?_) | (refine Gd.pre ?_; first | refine Gd.run rfl ?_ | refine Gd.pass rfl ?_) | (refine Br.pre ?_; first | refine Br.tt rfl ?_ | refine Br.ff rfl ?_) | (refine Ck.pre ?_; first | refine Ck.mk rfl ?_) | (refine LetL.pre ?_; first | refine LetL.mk [_] rfl ?_)))); (try (conv => whnf)))
        refine LoopN.weak ?sw4 hnx
        case sw4 => exact SW.mk id rfl rfl (namesAll.row (pure_int _) rfl) ⟨.refl _, .refl _, .refl _, .refl _, .refl _, .refl _, VLe2.int (by omega), trivial⟩ (haveV.row (pure_int _) rfl trivial)
    · ((repeat ((conv => whnf); (first | (refine LetN.pre ?_; first | ((conv => arg 1; whnf); refine LetN.mk ?_)) | (refine As.pre ?_; first | refine As.mk rfl ?_ | (refine As.mk ?_ ?_; · ((repeat' (refine andT ?_ ?_)) <;> (first | rfl | assumption | exact decide_eq_true (by omega) | exact decide_eq_true (by dsimp only; omega) | exact decide_eq_true (by simp; omega) | (simp; done))))) | (refine LetV.pre ?_; first | refine LetV.mk (t := 27) _ hld ?_ | refine LetV.mk (.sc (.int _ _)) rfl ?_ | refine LetV.mk (.agg _) rfl ?_) | (refine LetI.pre ?_; first | refine LetI.wrap (by omega) (by omega) ?_) | (refine LetB.pre ?_; first | refine LetB.dect (by omega) ?_ | refine LetB.decf (by omega) ?_) | (refine Gd.pre ?_; first | refine Gd.pass rfl ?_) | (refine Br.pre ?_; first | refine Br.tt rfl ?_ | refine Br.ff rfl ?_) | (refine Ck.pre ?_; first | refine Ck.mk rfl ?_) | (refine LetL.pre ?_; first | refine LetL.mk [_] rfl ?_)))); (try (conv => whnf)))
      refine LoopN.weak ?sw5 hnx
      case sw5 => exact SW.mk id rfl rfl (namesAll.row (pure_int _) rfl) ⟨.refl _, .refl _, .refl _, .refl _, .refl _, .refl _, VLe2.int (by omega), trivial⟩ (haveV.row (pure_int _) rfl trivial)
end En
end Go.Proofs.Ytnegdmjmllmclaa
namespace Go.Proofs.Ytnegdmjmllmclaa
open Go.Proofs.Ytnegdmjmllmclaa.Am
set_option maxRecDepth 100000
namespace En
/-! ### The record of a student -/
abbrev rty : TypeId := 71
abbrev recA (l : List E) (s : Sc.Scl) (st a : Int) : AV := .agg [.ro {} 15 (l.map en), int s.1, int s.2.1, int s.2.2, int st, int a]
def endP (t a : Int) : Bool := decide (0 ≤ t ∧ t ≤ 1000 ∧ 100 * t + 99 ≤ a)
theorem ended_f (l : List E) (s : Sc.Scl) (st a t : Int) : AFun Try.prog 32 0 [recA l s st a, int t] [] (bool (endP t a)) [] := by
  refine AFun.of_W T_ok mixed Try.func32 rfl (Nat.le_of_ble_eq_true rfl) rfl ?_
  unfold endP
  by_cases h1 : 0 ≤ t
  · by_cases h2 : t ≤ 1000
    · have hL := Dt.Last_f t (by omega)
      by_cases h3 : 100 * t + 99 ≤ a
      · rw [decide_eq_true ⟨h1, h2, h3⟩]
        ((repeat ((conv => whnf); (first | (refine LetN.pre ?_; first | ((conv => arg 1; whnf); refine LetN.mk ?_)) | (refine As.pre ?_; first | refine As.mk rfl ?_) | (refine LetV.pre ?_; first | refine LetV.mk (.sc (.int _ _)) rfl ?_) | (refine LetB.pre ?_; first | refine LetB.dect (by omega) ?_) | (refine Gd.pre ?_; first | refine Gd.run rfl ?_) | (refine Ck.pre ?_; first | refine Ck.drawn (by kernel_rfl) ?_ | refine Ck.mk rfl ?_) | (refine CallN.pre ?_; first | refine CallN.pure hL rfl rfl ?_)))); (try (conv => whnf)))
        exact ⟨.inl rfl, ⟨_, rfl, rfl⟩, trivial⟩
      · rw [decide_eq_false (fun h => h3 h.2.2)]
        ((repeat ((conv => whnf); (first | (refine LetN.pre ?_; first | ((conv => arg 1; whnf); refine LetN.mk ?_)) | (refine As.pre ?_; first | refine As.mk rfl ?_) | (refine LetV.pre ?_; first | refine LetV.mk (.sc (.int _ _)) rfl ?_) | (refine LetB.pre ?_; first | refine LetB.dect (by omega) ?_ | refine LetB.decf (by omega) ?_) | (refine Gd.pre ?_; first | refine Gd.run rfl ?_) | (refine Ck.pre ?_; first | refine Ck.drawn (by kernel_rfl) ?_ | refine Ck.mk rfl ?_) | (refine CallN.pre ?_; first | refine CallN.pure hL rfl rfl ?_)))); (try (conv => whnf)))
        exact ⟨.inl rfl, ⟨_, rfl, rfl⟩, trivial⟩
    · rw [decide_eq_false (fun h => h2 h.2.1)]
      ((repeat ((conv => whnf); (first | (refine LetN.pre ?_; first | ((conv => arg 1; whnf); refine LetN.mk ?_)) | (refine As.pre ?_; first | refine As.mk rfl ?_) | (refine LetB.pre ?_; first | refine LetB.dect (by omega) ?_ | refine LetB.decf (by omega) ?_) | (refine Gd.pre ?_; first | refine Gd.run rfl ?_ | refine Gd.pass rfl ?_) | (refine Ck.pre ?_; first | refine Ck.drawn (by kernel_rfl) ?_ | refine Ck.mk rfl ?_)))); (try (conv => whnf)))
      exact ⟨.inl rfl, ⟨_, rfl, rfl⟩, trivial⟩
  · rw [decide_eq_false (fun h => h1 h.1)]
    ((repeat ((conv => whnf); (first | (refine LetN.pre ?_; first | ((conv => arg 1; whnf); refine LetN.mk ?_)) | (refine As.pre ?_; first | refine As.mk rfl ?_) | (refine LetB.pre ?_; first | refine LetB.decf (by omega) ?_) | (refine Gd.pre ?_; first | refine Gd.pass rfl ?_) | (refine Ck.pre ?_; first | refine Ck.drawn (by kernel_rfl) ?_ | refine Ck.mk rfl ?_)))); (try (conv => whnf)))
    exact ⟨.inl rfl, ⟨_, rfl, rfl⟩, trivial⟩
abbrev isG (id : Int) (e : E) : Bool := decide (e.kind = 3 ∧ e.id = id)
theorem isG_f (e : E) (x : St) : AFun Try.prog 59 0 [en e, .rp (stA x) 0] [] (bool (isG x.entry e)) [] := by
  refine AFun.of_W T_ok mixed Try.func59 rfl (Nat.le_of_ble_eq_true rfl) rfl ?_
  unfold isG
  by_cases h1 : e.kind = 3
  · by_cases h2 : e.id = x.entry
    · rw [decide_eq_true ⟨h1, h2⟩]
      ((repeat ((conv => whnf); (first | (refine LetN.pre ?_; first | ((conv => arg 1; whnf); refine LetN.mk ?_)) | (refine As.pre ?_; first | refine As.mk rfl ?_) | (refine LetV.pre ?_; first | refine LetV.mk (.sc (.int _ _)) rfl ?_) | (refine LetB.pre ?_; first | refine LetB.dect (by omega) ?_) | (refine Gd.pre ?_; first | refine Gd.run rfl ?_) | (refine Ck.pre ?_; first | refine Ck.mk rfl ?_)))); (try (conv => whnf)))
      exact ⟨.inl rfl, ⟨_, rfl, rfl⟩, trivial⟩
    · rw [decide_eq_false (fun h => h2 h.2)]
      ((repeat ((conv => whnf); (first | (refine LetN.pre ?_; first | ((conv => arg 1; whnf); refine LetN.mk ?_)) | (refine As.pre ?_; first | refine As.mk rfl ?_) | (refine LetV.pre ?_; first | refine LetV.mk (.sc (.int _ _)) rfl ?_) | (refine LetB.pre ?_; first | refine LetB.dect (by omega) ?_ | refine LetB.decf (by omega) ?_) | (refine Gd.pre ?_; first | refine Gd.run rfl ?_) | (refine Ck.pre ?_; first | refine Ck.mk rfl ?_)))); (try (conv => whnf)))
      exact ⟨.inl rfl, ⟨_, rfl, rfl⟩, trivial⟩
  · rw [decide_eq_false (fun h => h1 h.1)]
    ((repeat ((conv => whnf); (first | (refine LetN.pre ?_; first | ((conv => arg 1; whnf); refine LetN.mk ?_)) | (refine As.pre ?_; first | refine As.mk rfl ?_) | (refine LetV.pre ?_; first | refine LetV.mk (.sc (.int _ _)) rfl ?_) | (refine LetB.pre ?_; first | refine LetB.decf (by omega) ?_) | (refine Gd.pre ?_; first | refine Gd.pass rfl ?_) | (refine Ck.pre ?_; first | refine Ck.mk rfl ?_)))); (try (conv => whnf)))
    exact ⟨.inl rfl, ⟨_, rfl, rfl⟩, trivial⟩
abbrev isV (x : St) : AV := .clo 59 [.rp (stA x) 0]
set_option maxRecDepth 100000 in
theorem IndexG_f (l : List E) (x : St) (fl : Fl) (hl : l.length ≤ 1000) : AFun Try.prog 58 0 [.ro fl 15 (l.map en), isV x] [] (int (fidx (isG x.entry) l 0)) [] := by
  refine AFun.of_W T_ok mixed Try.func58 rfl (Nat.le_of_ble_eq_true rfl) rfl ?_
  have hm : (l.map en).length = l.length := List.length_map _
  ((repeat ((conv => whnf); (first | (refine As.pre ?_; first | refine As.mk rfl ?_) | (refine LetI.pre ?_; first | refine LetI.mk _ rfl ?_) | (refine Ck.pre ?_; first | refine Ck.mk rfl ?_)))); (try (conv => whnf)))
  refine LoopN.weak (s1 := ⟨[(0, .ro fl 15 (l.map en)), (1, isV x), (7, int l.length), (8, int (0 : Nat))], [], 0⟩) (SW.fr0 (Nat.le_refl _) rfl ⟨.refl _, .refl _, VLe2.int (by rw [List.length_map]), .refl _, trivial⟩) ?_
  refine LoopN.ind T_ok mixed (S := fun k : Nat => ⟨[(0, .ro fl 15 (l.map en)), (1, isV x), (7, int l.length), (8, int k)], [], 0⟩) (fun k => l.length - k) (fun k => k ≤ l.length ∧ fidx (isG x.entry) l 0 = fidx (isG x.entry) (l.drop k) k) (fun _ => rfl) (fun k hk ih => ?_) 0 ⟨Nat.zero_le _, rfl⟩
  obtain ⟨h1, h2⟩ := hk
  by_cases hlt : k < l.length
  case neg =>
    rw [fidx_end hlt] at h2
    rw [h2]
    clear ih
    ((repeat ((conv => whnf); (first | (refine As.pre ?_; first | refine As.mk rfl ?_) | (refine LetB.pre ?_; first | refine LetB.decf (by omega) ?_) | (refine Br.pre ?_; first | refine Br.ff rfl ?_) | (refine Ck.pre ?_; first | refine Ck.mk rfl ?_)))); (try (conv => whnf)))
    exact ⟨.inl rfl, ⟨_, rfl, rfl⟩, trivial⟩
  have hld := tmD hlt
  rw [fidx_drop hlt e0] at h2
  generalize l.getD k e0 = e at hld h2
  have hF := isG_f e x
  generalize isG x.entry e = m at h2 hF
  cases m with
  | false =>
    rw [if_neg (by decide)] at h2
    have hnx := ih (k + 1) ⟨by omega, h2⟩ (by omega)
    clear ih
    ((repeat ((conv => whnf); (first | (refine As.pre ?_; first | refine As.mk rfl ?_ | (refine As.mk ?_ ?_; · ((repeat' (refine andT ?_ ?_)) <;> (first | rfl | assumption | exact decide_eq_true (by omega) | exact decide_eq_true (by dsimp only; omega) | exact decide_eq_true (by simp; omega) | (simp; done))))) | (refine LetV.pre ?_; first | refine LetV.mk (t := 27) _ hld ?_ | refine LetV.mk (.agg _) rfl ?_) | (refine LetI.pre ?_; first | refine LetI.wrap (by omega) (by omega) ?_) | (refine LetB.pre ?_; first | refine LetB.dect (by omega) ?_) | (refine Br.pre ?_; first | refine Br.tt rfl ?_ | refine Br.ff rfl ?_) | (refine Ck.pre ?_; first | refine Ck.mk rfl ?_) | (refine CallN.pre ?_; first | refine CallN.pure hF rfl rfl ?_)))); (try (conv => whnf)))
    refine LoopN.weak ?_ hnx
    exact SW.fr0 (Nat.le_refl _) rfl ⟨.refl _, .refl _, .refl _, VLe2.int (by omega), trivial⟩
  | true =>
    rw [if_pos (by decide)] at h2
    rw [h2]
    clear ih h2
    ((repeat ((conv => whnf); (first | (refine As.pre ?_; first | refine As.mk rfl ?_ | (refine As.mk ?_ ?_; · ((repeat' (refine andT ?_ ?_)) <;> (first | rfl | assumption | exact decide_eq_true (by omega) | exact decide_eq_true (by dsimp only; omega) | exact decide_eq_true (by simp; omega) | (simp; done))))) | (refine LetV.pre ?_; first | refine LetV.mk (t := 27) _ hld ?_ | refine LetV.mk (.agg _) rfl ?_) | (refine LetB.pre ?_; first | refine LetB.dect (by omega) ?_) | (refine Br.pre ?_; first | refine Br.tt rfl ?_) | (refine Ck.pre ?_; first | refine Ck.mk rfl ?_) | (refine CallN.pre ?_; first | refine CallN.pure hF rfl rfl ?_)))); (try (conv => whnf)))
    exact ⟨.inl rfl, ⟨_, rfl, rfl⟩, trivial⟩
/-- The grade of a term, with its credits. -/
def gsel (l : List E) (st t : Int) (x : St) : Option (St × Int) :=
  if fidx (isG x.entry) l 0 < 0 then none else if (l.getD (fidx (isG x.entry) l 0).toNat e0).student = st ∧ (l.getD (fidx (isG x.entry) l 0).toNat e0).on_ / 100 = t then some (x, (l.getD (fidx (isG x.entry) l 0).toNat e0).credits) else none
def grdP (l : List E) (st a t : Int) : List (St × Int) := (atP l a (100 * t + 99)).filterMap (gsel l st t)
abbrev grV (l : List E) (s : Sc.Scl) (st a t : Int) : AV := .clo 57 [.rp (recA l s st a) 0, .rp (int t) 0]
theorem grades_f (l : List E) (s : Sc.Scl) (st a t : Int) : AFun Try.prog 33 0 [recA l s st a, int t] [] (grV l s st a t) [] := by
  have h : AFun Try.prog 33 0 [recA l s st a, int t] [] (.clo 57 [.ptr 0 6 0 0, .ptr 1 1 0 0]) [(0, .row 6 rty [recA l s st a]), (1, .row 1 3 [int t])] := by
    refine AFun.of_W T_ok mixed Try.func33 rfl (Nat.le_of_ble_eq_true rfl) rfl ?_
    ((repeat ((conv => whnf); (first | (refine LetN.pre ?_; first | ((conv => arg 1; whnf); refine LetN.mk ?_)) | (refine As.pre ?_; first | refine As.mk rfl ?_) | (refine Ck.pre ?_; first | refine Ck.mk rfl ?_)))); (try (conv => whnf)))
    exact ⟨.inl rfl, ⟨_, rfl, rfl⟩, rfl, rfl, trivial⟩
  exact AFun.frz [0, 1] h rfl rfl rfl
theorem fidx_lt {α : Type} (p : α → Bool) : ∀ (l : List α) (k : Nat), fidx p l k < (k + l.length : Nat)
  | [], k => by simp only [fidx, List.length_nil]; omega
  | x :: l, k => by
    have := fidx_lt p l (k + 1)
    simp only [fidx, List.length_cons]
    split
    · omega
    · omega
theorem fm_succ {α β : Type} (f : α → Option β) {A : List α} {k : Nat} (h : k < A.length) (d : α) : (A.take (k + 1)).filterMap f = (A.take k).filterMap f ++ (f (A.getD k d)).toList := by
  rw [List.take_succ_eq_append_getElem h, List.filterMap_append, List.getD_eq_getElem?_getD, List.getElem?_eq_getElem h]
  rfl
end En
end Go.Proofs.Ytnegdmjmllmclaa
namespace Go.Proofs.Ytnegdmjmllmclaa
open Go.Proofs.Ytnegdmjmllmclaa.Am
set_option maxRecDepth 100000
namespace En
/-! ### Credits -/
abbrev crH (rec : AV) (p f : Int) : AH := [(0, .row 6 rty [rec]), (1, .row 1 3 [int p]), (2, .row 1 3 [int f])]
theorem solid_enS : ∀ l : List E, AV.solidL (l.map en) = true
  | [] => rfl
  | p :: l => by simp only [List.map_cons, AV.solidL, solid_enS l]; rfl
theorem solid_rec (l : List E) (s : Sc.Scl) (st a : Int) : AV.solidL [recA l s st a] = true := by
  simp only [AV.solidL, AV.solid, solid_enS l]; rfl
theorem crSol (l : List E) (s : Sc.Scl) (st a p f : Int) : solidH (crH (recA l s st a) p f) = true := solidH.row (solid_rec l s st a) rfl
abbrev crC : List AV := [.ptr 0 6 0 0, .ptr 1 1 0 0, .ptr 2 1 0 0]
def psB (s : Sc.Scl) (x : St) : Bool := !x.void && decide (Sc.rea s x.grade s.2.2)
def crS (s : Sc.Scl) (q : Int × Int) (x : St × Int) : Int × Int := if psB s x.1 then (IntKind.i64.wrap (q.1 + x.2), q.2) else (q.1, IntKind.i64.wrap (q.2 + x.2))
def crP (s : Sc.Scl) (L : List (St × Int)) : Int × Int := L.foldl (crS s) (0, 0)
abbrev grS (A : List St) (rec : AV) (t : Int) (y : AV) : Nat × Int × Int → AS
  | (j, p, f) => ⟨[(0, y), (1, .rp rec 0), (2, .rp (int t) 0), (13, .ro {} 4 (A.map stA)), (14, int A.length), (15, int j)], crH rec p f, 3⟩
theorem stD {A : List St} {k : Nat} (h : k < A.length) : stA (A.getD k ⟨0, 0, 0, false⟩) = (A.map stA).getD k (.sc undef) := mapD _ h
set_option maxHeartbeats 1600000 in
set_option maxRecDepth 100000 in
theorem gradesC_f (l : List E) (s : Sc.Scl) (st a t : Int) (hl : l.length < 40) (ht : 0 ≤ t ∧ t ≤ 1000) (ho : ∀ e ∈ l, Dt.okW e.on_) (lp : Nat) (rc : Loop) (hps : rc.params.size = 2) (ks : List Nat)
    (hy : ∀ (p f : Int) (x : St) (n : Int), AFunC (CY Try.prog lp rc) 3 [.yl lp rc ks crC, stA x, int n] (crH (recA l s st a) p f) (bool true) (crH (recA l s st a) (crS s (p, f) (x, n)).1 (crS s (p, f) (x, n)).2)) :
    AFun Try.prog 57 3 [.yl lp rc ks crC, .rp (recA l s st a) 0, .rp (int t) 0] (crH (recA l s st a) 0 0) (.tup []) (crH (recA l s st a) (crP s (grdP l st a t)).1 (crP s (grdP l st a t)).2) := by
  refine AFun.of_S T_ok mixed Try.func57 rfl (Nat.le_of_ble_eq_true rfl) rfl ?_
  have hL := Dt.Last_f t (by omega)
  have hA := At_f l a (100 * t + 99) {} hl
  have hlen := atP_len (l := l) a (100 * t + 99)
  rw [grdP]
  generalize atP l a (100 * t + 99) = A at hA hlen ⊢
  have hml : (l.map en).length = l.length := List.length_map _
  have hmA : (A.map stA).length = A.length := List.length_map _
  generalize hR : crP s (A.filterMap (gsel l st t)) = R
  have hrec : AV.namesL (fun _ => false) [recA l s st a] = true := rfl
  ((repeat ((conv => whnf); (first | (refine As.pre ?_; first | refine As.mk rfl ?_) | (refine LetV.pre ?_; first | refine LetV.mk (.sc (.int _ _)) rfl ?_ | refine LetV.mk (.ro _ _ _) rfl ?_) | (refine LetI.pre ?_; first | refine LetI.mk _ rfl ?_) | (refine Ck.pre ?_; first | refine Ck.drawn (by kernel_rfl) ?_ | refine Ck.mk rfl ?_) | (refine CallN.pre ?_; first | refine CallN.pure hL rfl rfl ?_ | refine CallN.pure hA rfl rfl ?_)))); (try (conv => whnf)))
  refine LoopN.weak (s1 := grS A (recA l s st a) t (.yl lp rc ks crC) (0, 0, 0)) ?sw1 ?_
  case sw1 => exact SW.mk id rfl rfl rfl ⟨.refl _, .refl _, .refl _, .refl _, VLe2.int (by rw [hmA]), .refl _, trivial⟩ (haveV.row rfl rfl (haveV.row rfl rfl (haveV.row rfl rfl trivial)))
  clear hL hA
  refine LoopN.ind T_ok mixed (S := grS A (recA l s st a) t (.yl lp rc ks crC)) (fun i => A.length - i.1) (fun i => i.1 ≤ A.length ∧ i.2 = crP s ((A.take i.1).filterMap (gsel l st t))) (fun _ => rfl) (fun i hi ih => ?_) (0, 0, 0) ⟨Nat.zero_le _, rfl⟩
  obtain ⟨j, p, f⟩ := i
  obtain ⟨h1, h2⟩ := hi
  simp only at h1 h2
  by_cases hlt : j < A.length
  case neg =>
    clear ih hy
    rw [List.take_of_length_le (by omega), hR] at h2
    subst h2
    ((repeat ((conv => whnf); (first | (refine As.pre ?_; first | refine As.mk rfl ?_) | (refine LetB.pre ?_; first | refine LetB.decf (by omega) ?_) | (refine Br.pre ?_; first | refine Br.ff rfl ?_) | (refine Ck.pre ?_; first | refine Ck.mk rfl ?_)))); (try (conv => whnf)))
    exact ⟨⟨[], crH (recA l s st a) p f, 3⟩, SW.mk id rfl rfl rfl trivial (haveV.row rfl rfl (haveV.row rfl rfl (haveV.row rfl rfl trivial))), .inr rfl, ⟨_, rfl, rfl⟩, rfl, rfl, rfl, trivial⟩
  have hld := stD hlt
  have hq : crP s ((A.take (j + 1)).filterMap (gsel l st t)) = ((gsel l st t (A.getD j ⟨0, 0, 0, false⟩)).toList).foldl (crS s) (p, f) := by
    rw [fm_succ _ hlt ⟨0, 0, 0, false⟩, crP, List.foldl_append, h2]; rfl
  clear h2 hR
  generalize A.getD j ⟨0, 0, 0, false⟩ = x at hld hq
  have hI := IndexG_f l x {} (by omega)
  have hflt := fidx_lt (isG x.entry) l 0
  generalize hgx : gsel l st t x = gx at hq
  unfold gsel at hgx
  generalize fidx (isG x.entry) l 0 = k at hI hgx hflt
  by_cases hk : k < 0
  · rw [if_pos hk] at hgx
    subst hgx
    have hnx := ih (j + 1, p, f) ⟨by show j + 1 ≤ A.length; omega, hq.symm⟩ (by show A.length - (j + 1) < A.length - j; omega)
    clear ih hq hy
    ((repeat ((conv => whnf); (first | (refine LetN.pre ?_; first | ((conv => arg 1; whnf); refine LetN.mk ?_)) | (refine As.pre ?_; first | refine As.mk rfl ?_ | (refine As.mk ?_ ?_; · ((repeat' (refine andT ?_ ?_)) <;> (first | rfl | assumption | exact decide_eq_true (by omega) | exact decide_eq_true (by dsimp only; omega) | exact decide_eq_true (by simp; omega) | (simp; done))))) | (refine LetV.pre ?_; first | refine LetV.mk (t := 56) _ hld ?_ | refine LetV.mk (.agg _) rfl ?_ | refine LetV.mk (.ro _ _ _) rfl ?_) | (refine LetI.pre ?_; first | refine LetI.wrap (by omega) (by omega) ?_) | (refine LetB.pre ?_; first | refine LetB.dect (by omega) ?_) | (refine Gd.pre ?_; first | refine Gd.pass rfl ?_) | (refine Br.pre ?_; first | refine Br.tt rfl ?_) | (refine Ck.pre ?_; first | refine Ck.drawn (by kernel_rfl) ?_ | refine Ck.mk rfl ?_) | (refine LetL.pre ?_; first | refine LetL.mk [_] rfl ?_) | (refine CallN.pre ?_; first | refine CallN.lend hI rfl (.same rfl (.clo (.ptr rfl rfl rfl .nil) .nil)) ?_)))); (try (conv => whnf)))


    refine LoopN.weak ?sw2 hnx
    case sw2 => exact SW.mk id rfl rfl rfl ⟨.refl _, .refl _, .refl _, .refl _, .refl _, VLe2.int (by omega), trivial⟩ (haveV.row rfl rfl (haveV.row rfl rfl (haveV.row rfl rfl trivial)))
  rw [if_neg hk] at hgx
  obtain ⟨m, rfl⟩ : ∃ m : Nat, k = m := ⟨k.toNat, by omega⟩
  have hmlt : m < l.length := by omega
  simp only [Int.toNat_natCast] at hgx
  have hle := tmD hmlt
  have hoe := ho _ (getD_mem' hmlt)
  generalize l.getD m e0 = e at hle hoe hgx
  have hT := Dt.Term_f e.on_ hoe
  generalize e.on_ / 100 = t' at hT hgx
  by_cases hst : e.student = st
  case neg =>
    rw [if_neg (fun h => hst h.1)] at hgx
    subst hgx
    have hnx := ih (j + 1, p, f) ⟨by show j + 1 ≤ A.length; omega, hq.symm⟩ (by show A.length - (j + 1) < A.length - j; omega)
    clear ih hq hy
    ((repeat ((conv => whnf); (first | (refine LetN.pre ?_; first | ((conv => arg 1; whnf); refine LetN.mk ?_)) | (refine As.pre ?_; first | refine As.mk rfl ?_ | (refine As.mk ?_ ?_; · ((repeat' (refine andT ?_ ?_)) <;> (first | rfl | assumption | exact decide_eq_true (by omega) | exact decide_eq_true (by dsimp only; omega) | exact decide_eq_true (by simp; omega) | (simp; done))))) | (refine LetV.pre ?_; first | refine LetV.mk (t := 56) _ hld ?_ | refine LetV.mk (t := 27) _ hle ?_ | refine LetV.mk (.sc (.int _ _)) rfl ?_ | refine LetV.mk (.agg _) rfl ?_ | refine LetV.mk (.ro _ _ _) rfl ?_) | (refine LetI.pre ?_; first | refine LetI.wrap (by omega) (by omega) ?_) | (refine LetB.pre ?_; first | refine LetB.ff rfl ?_ | refine LetB.dect (by omega) ?_ | refine LetB.bnet (by omega) ?_) | (refine Gd.pre ?_; first | refine Gd.run rfl ?_ | refine Gd.pass rfl ?_) | (refine Br.pre ?_; first | refine Br.tt rfl ?_) | (refine Ck.pre ?_; first | refine Ck.drawn (by kernel_rfl) ?_ | refine Ck.mk rfl ?_) | (refine LetL.pre ?_; first | refine LetL.mk [_] rfl ?_) | (refine CallN.pre ?_; first | refine CallN.lend hI rfl (.same rfl (.clo (.ptr rfl rfl rfl .nil) .nil)) ?_)))); (try (conv => whnf)))



    refine LoopN.weak ?sw3 hnx
    case sw3 => exact SW.mk id rfl rfl rfl ⟨.refl _, .refl _, .refl _, .refl _, .refl _, VLe2.int (by omega), trivial⟩ (haveV.row rfl rfl (haveV.row rfl rfl (haveV.row rfl rfl trivial)))
  by_cases htt : t' = t
  case neg =>
    rw [if_neg (fun h => htt h.2)] at hgx
    subst hgx
    have hnx := ih (j + 1, p, f) ⟨by show j + 1 ≤ A.length; omega, hq.symm⟩ (by show A.length - (j + 1) < A.length - j; omega)
    clear ih hq hy
    ((repeat ((conv => whnf); (first | (refine LetN.pre ?_; first | ((conv => arg 1; whnf); refine LetN.mk ?_)) | (refine As.pre ?_; first | refine As.mk rfl ?_ | (refine As.mk ?_ ?_; · ((repeat' (refine andT ?_ ?_)) <;> (first | rfl | assumption | exact decide_eq_true (by omega) | exact decide_eq_true (by dsimp only; omega) | exact decide_eq_true (by simp; omega) | (simp; done))))) | (refine LetV.pre ?_; first | refine LetV.mk (t := 56) _ hld ?_ | refine LetV.mk (t := 27) _ hle ?_ | refine LetV.mk (.sc (.int _ _)) rfl ?_ | refine LetV.mk (.agg _) rfl ?_ | refine LetV.mk (.ro _ _ _) rfl ?_) | (refine LetI.pre ?_; first | refine LetI.wrap (by omega) (by omega) ?_) | (refine LetB.pre ?_; first | refine LetB.ff rfl ?_ | refine LetB.dect (by omega) ?_ | refine LetB.bnet (by omega) ?_ | refine LetB.bnef (by omega) ?_) | (refine Gd.pre ?_; first | refine Gd.run rfl ?_) | (refine Br.pre ?_; first | refine Br.tt rfl ?_) | (refine Ck.pre ?_; first | refine Ck.drawn (by kernel_rfl) ?_ | refine Ck.mk rfl ?_) | (refine LetL.pre ?_; first | refine LetL.mk [_] rfl ?_) | (refine CallN.pre ?_; first | refine CallN.pure hT rfl rfl ?_ | refine CallN.lend hI rfl (.same rfl (.clo (.ptr rfl rfl rfl .nil) .nil)) ?_)))); (try (conv => whnf)))




    refine LoopN.weak ?sw4 hnx
    case sw4 => exact SW.mk id rfl rfl rfl ⟨.refl _, .refl _, .refl _, .refl _, .refl _, VLe2.int (by omega), trivial⟩ (haveV.row rfl rfl (haveV.row rfl rfl (haveV.row rfl rfl trivial)))
  rw [if_pos ⟨hst, htt⟩] at hgx
  subst hgx
  have hyi := hy p f x e.credits
  obtain ⟨p', f', hpf⟩ : ∃ p' f', (p', f') = crS s (p, f) (x, e.credits) := ⟨_, _, rfl⟩
  rw [← hpf] at hyi
  have hnx := ih (j + 1, p', f') ⟨by show j + 1 ≤ A.length; omega, by rw [hq]; exact hpf⟩ (by show A.length - (j + 1) < A.length - j; omega)
  clear ih hq hy hpf
  ((repeat ((conv => whnf); (first | (refine LetN.pre ?_; first | ((conv => arg 1; whnf); refine LetN.mk ?_)) | (refine As.pre ?_; first | refine As.mk rfl ?_ | (refine As.mk ?_ ?_; · ((repeat' (refine andT ?_ ?_)) <;> (first | rfl | assumption | exact decide_eq_true (by omega) | exact decide_eq_true (by dsimp only; omega) | exact decide_eq_true (by simp; omega) | (simp; done))))) | (refine LetV.pre ?_; first | refine LetV.mk (t := 56) _ hld ?_ | refine LetV.mk (t := 27) _ hle ?_ | refine LetV.mk (.sc (.int _ _)) rfl ?_ | refine LetV.mk (.agg _) rfl ?_ | refine LetV.mk (.ro _ _ _) rfl ?_) | (refine LetI.pre ?_; first | refine LetI.wrap (by omega) (by omega) ?_) | (refine LetB.pre ?_; first | refine LetB.ff rfl ?_ | refine LetB.dect (by omega) ?_ | refine LetB.bnef (by omega) ?_) | (refine Gd.pre ?_; first | refine Gd.run rfl ?_) | (refine Br.pre ?_; first | refine Br.tt rfl ?_ | refine Br.ff rfl ?_) | (refine Ck.pre ?_; first | refine Ck.drawn (by kernel_rfl) ?_ | refine Ck.mk rfl ?_) | (refine LetL.pre ?_; first | refine LetL.mk [_] rfl ?_) | (refine CallN.pre ?_; first | refine CallN.pure hT rfl rfl ?_ | refine CallN.lend hI rfl (.same rfl (.clo (.ptr rfl rfl rfl .nil) .nil)) ?_) | ((refine YieldN.own id hyi (by rw [hps]; rfl) (CallOk.mk' rfl rfl rfl rfl rfl rfl ⟨rfl, rfl, rfl, trivial⟩) ?_))))); (try (conv => whnf)))





  refine LoopN.weak ?sw5 hnx
  case sw5 => exact SW.mk id rfl rfl rfl ⟨.refl _, .refl _, .refl _, .refl _, .refl _, VLe2.int (by omega), trivial⟩ (haveV.row rfl rfl (haveV.row rfl rfl (haveV.row rfl rfl trivial)))
set_option maxHeartbeats 1600000 in
set_option maxRecDepth 100000 in
theorem credits_f (l : List E) (s : Sc.Scl) (st a t : Int) (hl : l.length < 40) (ht : 0 ≤ t ∧ t ≤ 1000) (ho : ∀ e ∈ l, Dt.okW e.on_) : AFun Try.prog 37 0 [recA l s st a, int t] [] (.tup [int (crP s (grdP l st a t)).1, int (crP s (grdP l st a t)).2]) [] := by
  refine AFun.of_W T_ok mixed Try.func37 rfl (Nat.le_of_ble_eq_true rfl) rfl ?_
  have hG := grades_f l s st a t
  ((repeat ((conv => whnf); (first | (refine LetN.pre ?_; first | ((conv => arg 1; whnf); refine LetN.mk ?_)) | (refine As.pre ?_; first | refine As.mk rfl ?_) | (refine LetV.pre ?_; first | refine LetV.mk (.agg _) rfl ?_) | (refine Ck.pre ?_; first | refine Ck.mk rfl ?_) | (refine CallN.pre ?_; first | refine CallN.pure hG rfl rfl ?_)))); (try (conv => whnf)))


  refine RfN.iter (r := { v := .tup [], D := [0, 1, 2], δ := [(0, some (.row 6 rty [recA l s st a])), (1, some (.row 1 3 [int (crP s (grdP l st a t)).1])), (2, some (.row 1 3 [int (crP s (grdP l st a t)).2]))] }) [2, 4, 5] (Nat.le_of_ble_eq_true rfl) rfl rfl (by kernel_rfl) (fun lp rc h1 h2 h3 h4 h5 h6 => ?it) rfl ?sol rfl ?rest
  case it =>
    refine ACalls.of_fun id (gradesC_f l s st a t hl ht ho lp rc (by rw [h1]; rfl) [2, 4, 5] fun p f x n => ?_) (CallOk.mk' rfl rfl rfl rfl rfl rfl ⟨rfl, rfl, rfl, trivial⟩)
    have hP := Sc.Passed_f s x.grade
    obtain ⟨xe, xb, xg, xv⟩ := x
    refine yield_of_V T_ok mixed h1 h2 h3 h4 h5 h6 rfl rfl rfl (crSol l s st a p f) rfl ?_
    ((repeat ((conv => whnf); (first | (refine LetN.pre ?_; first | ((conv => arg 1; whnf); refine LetN.mk ?_)) | (refine As.pre ?_; first | refine As.mk rfl ?_) | (refine Ck.pre ?_; first | refine Ck.mk rfl ?_) | (refine LetL.pre ?_; first | refine LetL.mk [_] rfl ?_)))); (try (conv => whnf)))
    refine ⟨rfl, ?_⟩
    cases xv with
    | true =>
      ((repeat ((conv => whnf); (first | (refine LetN.pre ?_; first | ((conv => arg 1; whnf); refine LetN.mk ?_)) | (refine As.pre ?_; first | refine As.mk rfl ?_) | (refine LetV.pre ?_; first | refine LetV.mk (.sc (.int _ _)) rfl ?_ | refine LetV.mk (.sc (.bool _)) rfl ?_) | (refine LetI.pre ?_; first | refine LetI.mk (o := some .add) _ rfl ?_) | (refine Gd.pre ?_; first | refine Gd.pass rfl ?_) | (refine Br.pre ?_; first | refine Br.ff rfl ?_) | (refine Ck.pre ?_; first | refine Ck.mk rfl ?_) | (refine LetL.pre ?_; first | refine LetL.mk [_] rfl ?_)))); (try (conv => whnf)))
      exact ⟨rfl, ⟨[], crH (recA l s st a) p (IntKind.i64.wrap (f + n)), 3⟩, SW.mk id rfl rfl rfl trivial (haveV.row rfl rfl (haveV.row rfl rfl (haveV.row rfl rfl trivial))), rfl⟩
    | false =>
      by_cases hr : Sc.rea s xg s.2.2
      · have e : crS s (p, f) (⟨xe, xb, xg, false⟩, n) = (IntKind.i64.wrap (p + n), f) := by unfold crS psB; rw [decide_eq_true hr]; rfl
        rw [e]
        rw [decide_eq_true hr] at hP
        ((repeat ((conv => whnf); (first | (refine LetN.pre ?_; first | ((conv => arg 1; whnf); refine LetN.mk ?_)) | (refine As.pre ?_; first | refine As.mk rfl ?_) | (refine LetV.pre ?_; first | refine LetV.mk (.sc (.int _ _)) rfl ?_ | refine LetV.mk (.sc (.bool _)) rfl ?_ | refine LetV.mk (.agg _) rfl ?_) | (refine LetI.pre ?_; first | refine LetI.mk (o := some .add) _ rfl ?_) | (refine Gd.pre ?_; first | refine Gd.run rfl ?_) | (refine Br.pre ?_; first | refine Br.tt rfl ?_) | (refine Ck.pre ?_; first | refine Ck.mk rfl ?_) | (refine LetL.pre ?_; first | refine LetL.mk [_] rfl ?_) | (refine CallN.pre ?_; first | refine CallN.pure hP rfl rfl ?_)))); (try (conv => whnf)))
        exact ⟨rfl, ⟨[], crH (recA l s st a) (IntKind.i64.wrap (p + n)) f, 3⟩, SW.mk id rfl rfl rfl trivial (haveV.row rfl rfl (haveV.row rfl rfl (haveV.row rfl rfl trivial))), rfl⟩
      · have e : crS s (p, f) (⟨xe, xb, xg, false⟩, n) = (p, IntKind.i64.wrap (f + n)) := by unfold crS psB; rw [decide_eq_false hr]; rfl
        rw [e]
        rw [decide_eq_false hr] at hP
        ((repeat ((conv => whnf); (first | (refine LetN.pre ?_; first | ((conv => arg 1; whnf); refine LetN.mk ?_)) | (refine As.pre ?_; first | refine As.mk rfl ?_) | (refine LetV.pre ?_; first | refine LetV.mk (.sc (.int _ _)) rfl ?_ | refine LetV.mk (.sc (.bool _)) rfl ?_ | refine LetV.mk (.agg _) rfl ?_) | (refine LetI.pre ?_; first | refine LetI.mk (o := some .add) _ rfl ?_) | (refine Gd.pre ?_; first | refine Gd.run rfl ?_) | (refine Br.pre ?_; first | refine Br.ff rfl ?_) | (refine Ck.pre ?_; first | refine Ck.mk rfl ?_) | (refine LetL.pre ?_; first | refine LetL.mk [_] rfl ?_) | (refine CallN.pre ?_; first | refine CallN.pure hP rfl rfl ?_)))); (try (conv => whnf)))
        exact ⟨rfl, ⟨[], crH (recA l s st a) p (IntKind.i64.wrap (f + n)), 3⟩, SW.mk id rfl rfl rfl trivial (haveV.row rfl rfl (haveV.row rfl rfl (haveV.row rfl rfl trivial))), rfl⟩
  case sol => exact crSol l s st a _ _
  case rest =>
    generalize crP s (grdP l st a t) = R
    ((repeat ((conv => whnf); (first | (refine LetN.pre ?_; first | ((conv => arg 1; whnf); refine LetN.mk ?_)) | (refine As.pre ?_; first | refine As.mk rfl ?_) | (refine LetV.pre ?_; first | refine LetV.mk (.sc (.int _ _)) rfl ?_) | (refine Ck.pre ?_; first | refine Ck.drawn (by kernel_rfl) ?_ | refine Ck.mk rfl ?_) | (refine LetL.pre ?_; first | refine LetL.mk [_] rfl ?_)))); (try (conv => whnf)))
    exact ⟨.inl rfl, ⟨_, rfl, rfl⟩, trivial⟩
end En
end Go.Proofs.Ytnegdmjmllmclaa
