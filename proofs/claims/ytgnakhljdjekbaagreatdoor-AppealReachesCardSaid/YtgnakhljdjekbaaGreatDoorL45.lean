/- appealZD: parts of the proof, DappealZDJH DappealZDLZ DappealZDUA DappealZDTA DappealZDTB. -/
import Derived.Test.YtgnakhljdjekbaaGreatDoorL44
import Derived.Test.YtgnakhljdjekbaaGreatDoorL42
import Derived.Lib.Strings
import Derived.Lib.Slices
import Derived.Lib.Walk
import Derived.Lib.Bytealg
set_option linter.all false
namespace Go.Proofs.YtgnakhljdjekbaaGreatDoor
open Go.Proofs.YtgnakhljdjekbaaGreatDoor.Am
set_option maxRecDepth 100000
namespace En
def refsK (k : Int) : Prop := k = 4 ∨ k = 5 ∨ k = 6 ∨ k = 9
instance (k : Int) : Decidable (refsK k) := by unfold refsK; infer_instance
def tgtM (k : Int) : Int := if k = 6 then 5 else if k = 9 then 8 else 3
/-- What is known of a made entry. -/
structure EOk (sc day : Int) (e : E) : Prop where
  school : e.school = sc
  student : 1 ≤ e.student ∧ e.student ≤ 3
  kind : 1 ≤ e.kind ∧ e.kind ≤ 9
  day : 0 ≤ e.day ∧ e.day ≤ day
  on : 0 ≤ e.on_ ∧ e.on_ ≤ e.day
  course : e.course.size ≤ 2
  credits : 0 ≤ e.credits ∧ e.credits ≤ 10
  grade : 0 ≤ e.grade ∧ e.grade ≤ 100
  programme : 0 ≤ e.programme ∧ e.programme ≤ 2
  version : 0 ≤ e.version ∧ e.version ≤ 3
  frm : 0 ≤ e.frm ∧ e.frm ≤ 3
  key : e.key = 0
  mark : e.mark = ⟨#[]⟩
  k3 : e.kind = 3 → 5 ≤ e.credits ∧ (sc = 2 → 1 ≤ e.grade ∧ e.grade ≤ 5) ∧ (sc = 3 → e.grade ≤ 20)
  ref0 : ¬refsK e.kind → e.ref = 0
theorem EOk.mono {sc day day' : Int} {e : E} (h : EOk sc day e) (hd : day ≤ day') : EOk sc day' e := { h with day := ⟨h.day.1, by have := h.day.2; omega⟩ }
/-- What is known of made entries. -/
structure M10 (sc day : Int) (out : List E) : Prop where
  ids : ∀ i, i < out.length → (out.getD i e0).id = i + 1
  ok : ∀ e ∈ out, EOk sc day e
  days : out.Pairwise fun a b => a.day ≤ b.day
  refs : ∀ i, i < out.length → refsK (out.getD i e0).kind → ∃ j, j < i ∧ (out.getD j e0).id = (out.getD i e0).ref ∧ (out.getD j e0).student = (out.getD i e0).student ∧ (out.getD j e0).kind = tgtM (out.getD i e0).kind ∧ (out.getD j e0).on_ ≤ (out.getD i e0).on_
theorem M10.nil (sc : Int) : M10 sc 0 [] := ⟨fun i h => by simp at h, fun e h => by simp at h, List.Pairwise.nil, fun i h => by simp at h⟩
theorem M10.mono {sc day day' : Int} {out : List E} (h : M10 sc day out) (hd : day ≤ day') : M10 sc day' out := ⟨h.ids, fun e he => (h.ok e he).mono hd, h.days, h.refs⟩
theorem M10.add {sc day day' : Int} {out : List E} {e : E} (h : M10 sc day out) (he : EOk sc day' e) (hd : day ≤ day') (hid : e.id = out.length + 1) (hday : e.day = day') (hr : refsK e.kind → ∃ x ∈ out, x.student = e.student ∧ x.kind = tgtM e.kind ∧ x.id = e.ref ∧ x.on_ ≤ e.on_) : M10 sc day' (out ++ [e]) := by
  have at1 : ∀ i, i < out.length → (out ++ [e]).getD i e0 = out.getD i e0 := fun i hi => getD_app1 hi
  have at2 : (out ++ [e]).getD out.length e0 = e := getD_app2 (i := 0) rfl
  refine ⟨fun i hi => ?_, fun x hx => ?_, ?_, fun i hi hk => ?_⟩
  · rw [List.length_append, List.length_singleton] at hi
    by_cases h1 : i < out.length
    · rw [at1 i h1]; exact h.ids i h1
    · have : i = out.length := by omega
      subst this
      rw [at2]; exact hid
  · rcases List.mem_append.1 hx with h1 | h1
    · exact (h.ok x h1).mono hd
    · rw [List.mem_singleton.1 h1]; exact he
  · refine List.pairwise_append.2 ⟨h.days, List.pairwise_singleton _ _, fun a ha b hb => ?_⟩
    rw [List.mem_singleton.1 hb, hday]
    have := (h.ok a ha).day.2
    omega
  · rw [List.length_append, List.length_singleton] at hi
    by_cases h1 : i < out.length
    · rw [at1 i h1] at hk ⊢
      obtain ⟨j, j1, j2⟩ := h.refs i h1 hk
      refine ⟨j, j1, ?_⟩
      rw [at1 j (by omega)]
      exact j2
    · have : i = out.length := by omega
      subst this
      rw [at2] at hk ⊢
      obtain ⟨x, hx, x1, x2, x3, x4⟩ := hr hk
      obtain ⟨j, hj, rfl⟩ := List.getElem_of_mem hx
      have hg : out.getD j e0 = out[j] := by rw [List.getD_eq_getElem?_getD, List.getElem?_eq_getElem hj]; rfl
      exact ⟨j, hj, by rw [at1 j hj, hg]; exact ⟨x3, x1, x2, x4⟩⟩
theorem M10.onP {sc day : Int} {out : List E} (h : M10 sc day out) (id : Int) (hd : 0 ≤ day) : 0 ≤ onP out id ∧ onP out id ≤ day := by
  unfold En.onP
  split
  · rename_i e he
    have := h.ok e (List.mem_of_find?_eq_some he)
    have h1 := this.on
    have h2 := this.day
    omega
  · omega
theorem M10.onP_at {sc day : Int} {out : List E} (h : M10 sc day out) {x : E} (hx : x ∈ out) : En.onP out x.id = x.on_ := by
  unfold En.onP
  cases hf : out.find? (fun e => decide (e.id = x.id)) with
  | none => have := List.find?_eq_none.1 hf x hx; simp at this
  | some e =>
    have h1 := List.find?_some hf
    have h2 := List.mem_of_find?_eq_some hf
    have h1 : e.id = x.id := of_decide_eq_true h1
    obtain ⟨i, hi, rfl⟩ := List.getElem_of_mem h2
    obtain ⟨j, hj, rfl⟩ := List.getElem_of_mem hx
    have a := h.ids i hi
    have b := h.ids j hj
    rw [List.getD_eq_getElem?_getD, List.getElem?_eq_getElem hi] at a
    rw [List.getD_eq_getElem?_getD, List.getElem?_eq_getElem hj] at b
    simp only [Option.getD_some] at a b
    have : i = j := by omega
    subst this; rfl
theorem kinds_get (n : Int) (h : 0 ≤ n ∧ n < 15) : ∃ c : Int, (1 ≤ c ∧ c ≤ 9) ∧ int c = ([int 1, int 3, int 3, int 3, int 3, int 3, int 4, int 5, int 6, int 7, int 8, int 9, int 2, int 3, int 8] : List AV).getD n.toNat (.sc undef) := by
  obtain ⟨m, rfl⟩ : ∃ m : Nat, n = m := ⟨n.toNat, by omega⟩
  have : m = 0 ∨ m = 1 ∨ m = 2 ∨ m = 3 ∨ m = 4 ∨ m = 5 ∨ m = 6 ∨ m = 7 ∨ m = 8 ∨ m = 9 ∨ m = 10 ∨ m = 11 ∨ m = 12 ∨ m = 13 ∨ m = 14 := by omega
  rcases this with rfl | rfl | rfl | rfl | rfl | rfl | rfl | rfl | rfl | rfl | rfl | rfl | rfl | rfl | rfl <;> exact ⟨_, by decide, rfl⟩
theorem cred_get3 (n : Int) (h : 0 ≤ n ∧ n < 3) : ∃ c : Int, (5 ≤ c ∧ c ≤ 10) ∧ int c = ([int 5, int 6, int 10] : List AV).getD n.toNat (.sc undef) := by
  obtain ⟨m, rfl⟩ : ∃ m : Nat, n = m := ⟨n.toNat, by omega⟩
  have : m = 0 ∨ m = 1 ∨ m = 2 := by omega
  rcases this with rfl | rfl | rfl <;> exact ⟨_, by decide, rfl⟩
abbrev mtS (sc : Int) (fl : Fl) (xs : List Int) (many : Int) : Nat × Int × Nat × List E → AS
  | (k, day, at_, out) => ⟨[(1, int sc), (5, .ptr 0 2 0 0), (6, .slm {} 1 15 0 out.length), (7, int day), (8, int many), (9, int k)], [(0, drawB fl xs at_), (1, .row 15 ety (out.map en))], 2⟩
abbrev mtE (sc : Int) (fl : Fl) (xs : List Int) (many : Int) (k : Nat) (day : Int) (at_ : Nat) (out : List E) (early n : Int) (e : E) : AS :=
  ⟨[(1, int sc), (5, .ptr 0 2 0 0), (6, .slm {} 1 15 0 out.length), (7, int day), (8, int many), (9, int k), (10, .ptr 2 15 0 0), (11, int early), (12, int n)], [(0, drawB fl xs at_), (1, .row 15 ety (out.map en)), (2, .row 15 ety [en e])], 3⟩
abbrev mtB (sc : Int) (fl : Fl) (xs : List Int) (many : Int) (k : Nat) (day : Int) (at_ : Nat) (out : List E) (early n : Int) (e : E) (b : Bool) : AS :=
  ⟨[(1, int sc), (5, .ptr 0 2 0 0), (6, .slm {} 1 15 0 out.length), (7, int day), (8, int many), (9, int k), (10, .ptr 2 15 0 0), (11, int early), (12, int n), (13, bool b)], [(0, drawB fl xs at_), (1, .row 15 ety (out.map en)), (2, .row 15 ety [en e])], 3⟩
set_option maxHeartbeats 6400000 in
set_option maxRecDepth 100000 in
theorem Made10_s (xs : List Int) (fl : Fl) (hx : xs.length ≤ 9223372036854775807) (sc : Int) (hsc : 1 ≤ sc ∧ sc ≤ 3) : ∃ l : List E, (l.length ≤ 24 ∧ M10 sc 600 l) ∧
    AFun Tryz.prog 37 0 [.ro fl 1 (xs.map int), int sc] [] (.slm {} 0 15 0 l.length) [(0, .row 15 ety (l.map en))] := by
  refine AFun.of_SE T_ok mixed (v := fun l : List E => .slm {} 0 15 0 l.length) (H' := fun l : List E => [(0, .row 15 ety (l.map en))]) Tryz.func37 rfl (Nat.le_of_ble_eq_true rfl) rfl ?_
  obtain ⟨v0, a0, r0, q0, N0⟩ := made_next fl xs hx 0 25 (Nat.zero_le _) (by omega)
  ((repeat ((conv => whnf); (first | (refine LetN.pre ?_; first | ((conv => arg 1; whnf); refine LetN.mk ?_)) | (refine As.pre ?_; first | refine As.mk rfl ?_) | (refine Ck.pre ?_; first | refine Ck.mk rfl ?_) | (refine LetL.pre ?_; first | refine LetL.mk [_] rfl ?_) | (refine CallN.pre ?_; first | refine CallN.own (fun _ => 0) N0 (CallOk.mk' rfl rfl rfl (namesAll.row rfl rfl) rfl (namesAll.row rfl rfl) (haveAll.row rfl rfl trivial)) ?_)))); (try (conv => whnf)))


  refine LoopN.weak (s1 := mtS sc fl xs v0 (0, 0, a0, [])) ?sw1 ?_
  case sw1 => exact SW.mk id rfl rfl rfl ⟨.refl _, .refl _, VLe2.nilslm, .refl _, .refl _, .refl _, trivial⟩ (haveV.row rfl rfl (haveV.nil (Nat.le_of_ble_eq_true rfl) trivial))
  refine LoopN.indS (S := mtS sc fl xs v0) (fun i => 24 - i.1) (fun i => (i.1 : Int) ≤ v0 ∧ (0 ≤ i.2.1 ∧ i.2.1 ≤ 24 * (i.1 : Int)) ∧ i.2.2.1 ≤ xs.length ∧ i.2.2.2.length = i.1 ∧ M10 sc i.2.1 i.2.2.2) (fun i hi ih => ?_) (0, 0, a0, []) ⟨by show (0 : Int) ≤ v0; omega, ⟨by show (0 : Int) ≤ 0; omega, by show (0 : Int) ≤ 24 * 0; omega⟩, q0, rfl, M10.nil sc⟩
  clear q0 N0
  clear a0
  obtain ⟨k, day, at_, out⟩ := i
  obtain ⟨h1, h2, h3, h4, hM⟩ := hi
  simp only at h1 h2 h3 h4 hM
  have hml : (out.map en).length = out.length := List.length_map _
  by_cases hlt : (k : Int) < v0
  case neg =>
    clear ih
    refine VS.of_V T_ok mixed rfl ?_
    ((repeat ((conv => whnf); (first | (refine As.pre ?_; first | refine As.mk rfl ?_) | (refine LetB.pre ?_; first | refine LetB.decf (by omega) ?_) | (refine Br.pre ?_; first | refine Br.ff rfl ?_) | (refine Ck.pre ?_; first | refine Ck.mk rfl ?_)))); (try (conv => whnf)))
    exact ⟨out, ⟨by omega, hM.mono (by omega)⟩, ⟨[(4, .slm {} 0 15 0 out.length)], [(0, .row 15 ety (out.map en))], 1⟩, SW.mk (fun _ => 1) rfl rfl (namesAll.row (pure_en _) rfl) ⟨.refl _, trivial⟩ (haveV.row (pure_en _) rfl trivial), .inl rfl, ⟨_, rfl, rfl⟩, rfl, trivial⟩
  obtain ⟨v1, a1, r1, q1, N1⟩ := made_next fl xs hx at_ 25 h3 (by omega)
  obtain ⟨v2, a2, r2, q2, N2⟩ := made_next fl xs hx a1 3 q1 (by omega)
  obtain ⟨v3, a3, r3, q3, N3⟩ := made_next fl xs hx a2 15 q2 (by omega)
  obtain ⟨v4, a4, r4, q4, N4⟩ := made_next fl xs hx a3 3 q3 (by omega)
  obtain ⟨v5, a5, r5, q5, N5⟩ := made_next fl xs hx a4 120 q4 (by omega)
  obtain ⟨n, a6, r6, q6, N6⟩ := made_next fl xs hx a5 30 q5 (by omega)
  obtain ⟨kd, hkd, hkv⟩ := kinds_get v3 r3
  have hmul : 0 ≤ v4 * v5 ∧ v4 * v5 ≤ 238 := by
    have : v4 = 0 ∨ v4 = 1 ∨ v4 = 2 := by omega
    rcases this with rfl | rfl | rfl <;> omega
  obtain ⟨early, hearly⟩ : ∃ early, early = v4 * v5 := ⟨_, rfl⟩
  have hew : early = IntKind.i64.wrap (v4 * v5) := by rw [wrap_id (by omega) (by omega)]; exact hearly
  refine VS.cut T_ok mixed rfl ?_
  ((repeat ((conv => whnf); (first | (refine As.pre ?_; first | refine As.mk rfl ?_) | (refine LetB.pre ?_; first | refine LetB.dect (by omega) ?_) | (refine Br.pre ?_; first | refine Br.tt rfl ?_) | (refine Ck.pre ?_; first | refine Ck.mk rfl ?_)))); (try (conv => whnf)))
  refine VS.seq (VS.block ?_)
  refine VS.cut T_ok mixed rfl ?_
  ((repeat ((conv => whnf); (first | (refine LetN.pre ?_; first | ((conv => arg 1; whnf); refine LetN.mk ?_)) | (refine As.pre ?_; first | refine As.mk rfl ?_) | (refine LetI.pre ?_; first | refine LetI.wrap (by omega) (by omega) ?_) | (refine Ck.pre ?_; first | refine Ck.mk rfl ?_) | (refine LetL.pre ?_; first | refine LetL.mk [_] rfl ?_) | (refine CallN.pre ?_; first | refine CallN.own (fun _ => 0) N1 (CallOk.mk' rfl rfl rfl (namesAll.row rfl rfl) rfl (namesAll.row rfl rfl) (haveAll.row rfl rfl trivial)) ?_)))); (try (conv => whnf)))


  refine VS.cut T_ok mixed rfl ?_
  ((repeat ((conv => whnf); (first | (refine LetN.pre ?_; first | ((conv => arg 1; whnf); refine LetN.mk ?_)) | (refine As.pre ?_; first | refine As.mk rfl ?_) | (refine LetI.pre ?_; first | refine LetI.wrap (by omega) (by omega) ?_) | (refine Ck.pre ?_; first | refine Ck.mk rfl ?_) | (refine LetL.pre ?_; first | refine LetL.mk (ty := ety) [.agg [_, _, _, _, _, _, _, _, _, _, _, _, _, _, _]] rfl ?_ | refine LetL.mk [_] rfl ?_) | (refine CallN.pre ?_; first | refine CallN.own (fun _ => 0) N2 (CallOk.mk' rfl rfl rfl (namesAll.row rfl rfl) rfl (namesAll.row rfl rfl) (haveAll.row rfl rfl trivial)) ?_)))); (try (conv => whnf)))


  refine VS.cut T_ok mixed rfl ?_
  ((repeat ((conv => whnf); (first | (refine LetN.pre ?_; first | ((conv => arg 1; whnf); refine LetN.mk ?_)) | (refine As.pre ?_; first | refine As.mk rfl ?_ | (refine As.mk ?_ ?_; · ((repeat' (refine andT ?_ ?_)) <;> (first | rfl | assumption | exact decide_eq_true (by omega) | exact decide_eq_true (by dsimp only; omega) | exact decide_eq_true (by simp; omega) | (simp; done))))) | (refine LetV.pre ?_; first | refine LetV.mk (t := 43) _ hkv ?_ | refine LetV.mk (.sc (.int _ _)) rfl ?_) | (refine Ck.pre ?_; first | refine Ck.mk rfl ?_) | (refine LetL.pre ?_; first | refine LetL.mk (ty := ety) [.agg [_, _, _, _, _, _, _, _, _, _, _, _, _, _, _]] rfl ?_ | refine LetL.mk [_] rfl ?_) | (refine CallN.pre ?_; first | refine CallN.own (fun _ => 0) N3 (CallOk.mk' rfl rfl rfl (namesAll.row rfl rfl) rfl (namesAll.row rfl rfl) (haveAll.row rfl rfl trivial)) ?_)))); (try (conv => whnf)))



  refine VS.cut T_ok mixed rfl ?_
  ((repeat ((conv => whnf); (first | (refine LetN.pre ?_; first | ((conv => arg 1; whnf); refine LetN.mk ?_)) | (refine As.pre ?_; first | refine As.mk rfl ?_) | (refine LetI.pre ?_; first | refine LetI.mk (o := some .mul) early hew ?_) | (refine Ck.pre ?_; first | refine Ck.mk rfl ?_) | (refine LetL.pre ?_; first | refine LetL.mk [_] rfl ?_) | (refine CallN.pre ?_; first | refine CallN.own (fun _ => 0) N4 (CallOk.mk' rfl rfl rfl (namesAll.row rfl rfl) rfl (namesAll.row rfl rfl) (haveAll.row rfl rfl trivial)) ?_ | refine CallN.own (fun _ => 0) N5 (CallOk.mk' rfl rfl rfl (namesAll.row rfl rfl) rfl (namesAll.row rfl rfl) (haveAll.row rfl rfl trivial)) ?_)))); (try (conv => whnf)))




  refine VS.cut T_ok mixed rfl ?_
  ((repeat ((conv => whnf); (first | (refine LetN.pre ?_; first | ((conv => arg 1; whnf); refine LetN.mk ?_)) | (refine As.pre ?_; first | refine As.mk rfl ?_) | (refine Ck.pre ?_; first | refine Ck.mk rfl ?_) | (refine LetL.pre ?_; first | refine LetL.mk [_] rfl ?_) | (refine CallN.pre ?_; first | refine CallN.own (fun _ => 0) N6 (CallOk.mk' rfl rfl rfl (namesAll.row rfl rfl) rfl (namesAll.row rfl rfl) (haveAll.row rfl rfl trivial)) ?_)))); (try (conv => whnf)))


  obtain ⟨day', hday'⟩ : ∃ day', day' = day + v1 := ⟨_, rfl⟩
  rw [← hday']
  refine VS.weak (s1 := mtE sc fl xs v0 k day' a6 out early n ⟨(k : Int) + 1, sc, 1 + v2, kd, day', 0, ⟨#[]⟩, 0, 0, 0, 0, 0, 0, 0, ⟨#[]⟩⟩) ?swa ?_
  case swa => exact SW.mk id rfl rfl (namesAll.row rfl (namesAll.row (pure_en _) (namesAll.row rfl rfl))) ⟨.refl _, .refl _, .refl _, .refl _, .refl _, .refl _, .refl _, .refl _, .refl _, trivial⟩ (haveV.row rfl rfl (haveV.row (pure_en _) rfl (haveV.row rfl rfl trivial)))
  clear N1 N2 N3 N4 N5 N6 hkv hew q1 q2 q3 q4 q5
  obtain ⟨st, hst⟩ : ∃ st : Int, st = 1 + v2 := ⟨_, rfl⟩
  rw [← hst]
  have hst3 : 1 ≤ st ∧ st ≤ 3 := by omega
  have b2 := tmod_bound n (m := 2) (by omega)
  have p2 := tmod_pos 2 r6.1
  have b3 := tmod_bound n (m := 3) (by omega)
  have p3 := tmod_pos 3 r6.1
  have b6 := tmod_bound n (m := 6) (by omega)
  have p6 := tmod_pos 6 r6.1
  have c3 := tmod_bound sc (m := 3) (by omega)
  have cp3 := tmod_pos 3 (a := sc) (by omega)
  refine VS.joinN (fun y : Int × Int × Int × Int => mtE sc fl xs v0 k day' a6 out early n ⟨(k : Int) + 1, sc, st, kd, day', 0, ⟨#[]⟩, 0, 0, y.1, y.2.2.2, y.2.1, y.2.2.1, 0, ⟨#[]⟩⟩) (fun y => (refsK kd → (y.1 = 0 ∨ ∃ x ∈ out, x.student = st ∧ x.kind = tgtM kd ∧ x.id = y.1)) ∧ (¬refsK kd → y.1 = 0) ∧ (0 ≤ y.2.1 ∧ y.2.1 ≤ 2) ∧ (0 ≤ y.2.2.1 ∧ y.2.2.1 ≤ 3) ∧ 0 ≤ y.2.2.2 ∧ y.2.2.2 ≤ 3) ?_ ?_
  · clear ih
    refine VS.of_V T_ok mixed rfl ?_
    obtain h | h | h | h | h | h | h | h | h : kd = 1 ∨ kd = 2 ∨ kd = 3 ∨ kd = 4 ∨ kd = 5 ∨ kd = 6 ∨ kd = 7 ∨ kd = 8 ∨ kd = 9 := by omega
    · subst h
      ((repeat ((conv => whnf); (first | (refine LetN.pre ?_; first | ((conv => arg 1; whnf); refine LetN.mk ?_)) | (refine As.pre ?_; first | refine As.mk rfl ?_) | (refine LetV.pre ?_; first | refine LetV.mk (.sc (.int _ _)) rfl ?_) | (refine LetI.pre ?_; first | refine LetI.wrap (by omega) (by omega) ?_ | refine LetI.mk _ rfl ?_) | (refine LetB.pre ?_; first | refine LetB.tt rfl ?_ | refine LetB.ff rfl ?_) | (refine Br.pre ?_; first | refine Br.tt rfl ?_ | refine Br.ff rfl ?_) | (refine Ck.pre ?_; first | refine Ck.mk rfl ?_) | (refine LetL.pre ?_; first | refine LetL.mk (ty := ety) [.agg [_, _, _, _, _, _, _, _, _, _, _, _, _, _, _]] rfl ?_)))); (try (conv => whnf)))

      exact ⟨rfl, (0, 1 + n.tmod 2, 0, 0), ⟨fun h => absurd h (by decide), fun _ => rfl, by dsimp only; omega, by dsimp only; omega, by dsimp only; omega⟩, SW.mk id rfl rfl (namesAll.row rfl (namesAll.row (pure_en _) (namesAll.row rfl rfl))) ⟨.refl _, .refl _, .refl _, .refl _, .refl _, .refl _, .refl _, .refl _, .refl _, trivial⟩ (haveV.row rfl rfl (haveV.row (pure_en _) rfl (haveV.row rfl rfl trivial)))⟩
    · subst h
      ((repeat ((conv => whnf); (first | (refine LetN.pre ?_; first | ((conv => arg 1; whnf); refine LetN.mk ?_)) | (refine As.pre ?_; first | refine As.mk rfl ?_) | (refine LetV.pre ?_; first | refine LetV.mk (.sc (.int _ _)) rfl ?_) | (refine LetI.pre ?_; first | refine LetI.wrap (by omega) (by omega) ?_ | refine LetI.mk _ rfl ?_) | (refine LetB.pre ?_; first | refine LetB.tt rfl ?_ | refine LetB.ff rfl ?_) | (refine Br.pre ?_; first | refine Br.tt rfl ?_ | refine Br.ff rfl ?_) | (refine Ck.pre ?_; first | refine Ck.mk rfl ?_) | (refine LetL.pre ?_; first | refine LetL.mk (ty := ety) [.agg [_, _, _, _, _, _, _, _, _, _, _, _, _, _, _]] rfl ?_)))); (try (conv => whnf)))

      exact ⟨rfl, (0, 1 + n.tmod 2, 1 + n.tmod 3, 0), ⟨fun h => absurd h (by decide), fun _ => rfl, by dsimp only; omega, by dsimp only; omega, by dsimp only; omega⟩, SW.mk id rfl rfl (namesAll.row rfl (namesAll.row (pure_en _) (namesAll.row rfl rfl))) ⟨.refl _, .refl _, .refl _, .refl _, .refl _, .refl _, .refl _, .refl _, .refl _, trivial⟩ (haveV.row rfl rfl (haveV.row (pure_en _) rfl (haveV.row rfl rfl trivial)))⟩
    · subst h
      ((repeat ((conv => whnf); (first | (refine As.pre ?_; first | refine As.mk rfl ?_) | (refine LetV.pre ?_; first | refine LetV.mk (.sc (.int _ _)) rfl ?_) | (refine LetB.pre ?_; first | refine LetB.ff rfl ?_) | (refine Br.pre ?_; first | refine Br.ff rfl ?_) | (refine Ck.pre ?_; first | refine Ck.mk rfl ?_)))); (try (conv => whnf)))

      exact ⟨rfl, (0, 0, 0, 0), ⟨fun h => absurd h (by decide), fun _ => rfl, by dsimp only; omega, by dsimp only; omega, by dsimp only; omega⟩, SW.mk id rfl rfl (namesAll.row rfl (namesAll.row (pure_en _) (namesAll.row rfl rfl))) ⟨.refl _, .refl _, .refl _, .refl _, .refl _, .refl _, .refl _, .refl _, .refl _, trivial⟩ (haveV.row rfl rfl (haveV.row (pure_en _) rfl (haveV.row rfl rfl trivial)))⟩
    · subst h
      obtain ⟨r, hr, hp⟩ := pick_f out st 3 n {} (by omega) r6.1
      ((repeat ((conv => whnf); (first | (refine LetN.pre ?_; first | ((conv => arg 1; whnf); refine LetN.mk ?_)) | (refine As.pre ?_; first | refine As.mk rfl ?_) | (refine LetV.pre ?_; first | refine LetV.mk (.sc (.int _ _)) rfl ?_) | (refine LetB.pre ?_; first | refine LetB.tt rfl ?_) | (refine Br.pre ?_; first | refine Br.tt rfl ?_) | (refine Ck.pre ?_; first | refine Ck.mk rfl ?_) | (refine LetL.pre ?_; first | refine LetL.mk (ty := ety) [.agg [_, _, _, _, _, _, _, _, _, _, _, _, _, _, _]] rfl ?_) | (refine CallN.pre ?_; first | refine CallN.lend hp rfl (.full rfl (pure_en _) hml.symm (.same rfl (.same rfl (.same rfl .nil)))) ?_)))); (try (conv => whnf)))


      exact ⟨rfl, (r, 0, 0, 0), ⟨fun _ => hr.imp (fun h => h.1) id, fun h => absurd (by decide) h, by dsimp only; omega, by dsimp only; omega, by dsimp only; omega⟩, SW.mk id rfl rfl (namesAll.row rfl (namesAll.row (pure_en _) (namesAll.row rfl rfl))) ⟨.refl _, .refl _, .refl _, .refl _, .refl _, .refl _, .refl _, .refl _, .refl _, trivial⟩ (haveV.row rfl rfl (haveV.row (pure_en _) rfl (haveV.row rfl rfl trivial)))⟩
    · subst h
      obtain ⟨r, hr, hp⟩ := pick_f out st 3 n {} (by omega) r6.1
      ((repeat ((conv => whnf); (first | (refine LetN.pre ?_; first | ((conv => arg 1; whnf); refine LetN.mk ?_)) | (refine As.pre ?_; first | refine As.mk rfl ?_) | (refine LetV.pre ?_; first | refine LetV.mk (.sc (.int _ _)) rfl ?_) | (refine LetB.pre ?_; first | refine LetB.tt rfl ?_ | refine LetB.ff rfl ?_) | (refine Br.pre ?_; first | refine Br.tt rfl ?_ | refine Br.ff rfl ?_) | (refine Ck.pre ?_; first | refine Ck.mk rfl ?_) | (refine LetL.pre ?_; first | refine LetL.mk (ty := ety) [.agg [_, _, _, _, _, _, _, _, _, _, _, _, _, _, _]] rfl ?_) | (refine CallN.pre ?_; first | refine CallN.lend hp rfl (.full rfl (pure_en _) hml.symm (.same rfl (.same rfl (.same rfl .nil)))) ?_)))); (try (conv => whnf)))


      exact ⟨rfl, (r, 0, 0, 0), ⟨fun _ => hr.imp (fun h => h.1) id, fun h => absurd (by decide) h, by dsimp only; omega, by dsimp only; omega, by dsimp only; omega⟩, SW.mk id rfl rfl (namesAll.row rfl (namesAll.row (pure_en _) (namesAll.row rfl rfl))) ⟨.refl _, .refl _, .refl _, .refl _, .refl _, .refl _, .refl _, .refl _, .refl _, trivial⟩ (haveV.row rfl rfl (haveV.row (pure_en _) rfl (haveV.row rfl rfl trivial)))⟩
    · subst h
      obtain ⟨r, hr, hp⟩ := pick_f out st 5 n {} (by omega) r6.1
      ((repeat ((conv => whnf); (first | (refine LetN.pre ?_; first | ((conv => arg 1; whnf); refine LetN.mk ?_)) | (refine As.pre ?_; first | refine As.mk rfl ?_) | (refine LetV.pre ?_; first | refine LetV.mk (.sc (.int _ _)) rfl ?_) | (refine LetB.pre ?_; first | refine LetB.tt rfl ?_ | refine LetB.ff rfl ?_) | (refine Br.pre ?_; first | refine Br.tt rfl ?_ | refine Br.ff rfl ?_) | (refine Ck.pre ?_; first | refine Ck.mk rfl ?_) | (refine LetL.pre ?_; first | refine LetL.mk (ty := ety) [.agg [_, _, _, _, _, _, _, _, _, _, _, _, _, _, _]] rfl ?_) | (refine CallN.pre ?_; first | refine CallN.lend hp rfl (.full rfl (pure_en _) hml.symm (.same rfl (.same rfl (.same rfl .nil)))) ?_)))); (try (conv => whnf)))


      exact ⟨rfl, (r, 0, 0, 0), ⟨fun _ => hr.imp (fun h => h.1) id, fun h => absurd (by decide) h, by dsimp only; omega, by dsimp only; omega, by dsimp only; omega⟩, SW.mk id rfl rfl (namesAll.row rfl (namesAll.row (pure_en _) (namesAll.row rfl rfl))) ⟨.refl _, .refl _, .refl _, .refl _, .refl _, .refl _, .refl _, .refl _, .refl _, trivial⟩ (haveV.row rfl rfl (haveV.row (pure_en _) rfl (haveV.row rfl rfl trivial)))⟩
    · subst h
      ((repeat ((conv => whnf); (first | (refine LetN.pre ?_; first | ((conv => arg 1; whnf); refine LetN.mk ?_)) | (refine As.pre ?_; first | refine As.mk rfl ?_) | (refine LetV.pre ?_; first | refine LetV.mk (.sc (.int _ _)) rfl ?_) | (refine LetI.pre ?_; first | refine LetI.wrap (by omega) (by omega) ?_ | refine LetI.mk _ rfl ?_) | (refine LetB.pre ?_; first | refine LetB.tt rfl ?_ | refine LetB.ff rfl ?_) | (refine Br.pre ?_; first | refine Br.tt rfl ?_ | refine Br.ff rfl ?_) | (refine Ck.pre ?_; first | refine Ck.mk rfl ?_) | (refine LetL.pre ?_; first | refine LetL.mk (ty := ety) [.agg [_, _, _, _, _, _, _, _, _, _, _, _, _, _, _]] rfl ?_)))); (try (conv => whnf)))

      exact ⟨rfl, (0, 0, 0, 1 + sc.tmod 3), ⟨fun h => absurd h (by decide), fun _ => rfl, by dsimp only; omega, by dsimp only; omega, by dsimp only; omega⟩, SW.mk id rfl rfl (namesAll.row rfl (namesAll.row (pure_en _) (namesAll.row rfl rfl))) ⟨.refl _, .refl _, .refl _, .refl _, .refl _, .refl _, .refl _, .refl _, .refl _, trivial⟩ (haveV.row rfl rfl (haveV.row (pure_en _) rfl (haveV.row rfl rfl trivial)))⟩
    · subst h
      ((repeat ((conv => whnf); (first | (refine LetN.pre ?_; first | ((conv => arg 1; whnf); refine LetN.mk ?_)) | (refine As.pre ?_; first | refine As.mk rfl ?_) | (refine LetV.pre ?_; first | refine LetV.mk (.sc (.int _ _)) rfl ?_) | (refine LetI.pre ?_; first | refine LetI.wrap (by omega) (by omega) ?_ | refine LetI.mk _ rfl ?_) | (refine LetB.pre ?_; first | refine LetB.tt rfl ?_ | refine LetB.ff rfl ?_) | (refine Br.pre ?_; first | refine Br.tt rfl ?_ | refine Br.ff rfl ?_) | (refine Ck.pre ?_; first | refine Ck.mk rfl ?_) | (refine LetL.pre ?_; first | refine LetL.mk (ty := ety) [.agg [_, _, _, _, _, _, _, _, _, _, _, _, _, _, _]] rfl ?_)))); (try (conv => whnf)))

      exact ⟨rfl, (0, 1 + n.tmod 2, 0, 0), ⟨fun h => absurd h (by decide), fun _ => rfl, by dsimp only; omega, by dsimp only; omega, by dsimp only; omega⟩, SW.mk id rfl rfl (namesAll.row rfl (namesAll.row (pure_en _) (namesAll.row rfl rfl))) ⟨.refl _, .refl _, .refl _, .refl _, .refl _, .refl _, .refl _, .refl _, .refl _, trivial⟩ (haveV.row rfl rfl (haveV.row (pure_en _) rfl (haveV.row rfl rfl trivial)))⟩
    · subst h
      obtain ⟨r, hr, hp⟩ := pick_f out st 8 n {} (by omega) r6.1
      ((repeat ((conv => whnf); (first | (refine LetN.pre ?_; first | ((conv => arg 1; whnf); refine LetN.mk ?_)) | (refine As.pre ?_; first | refine As.mk rfl ?_) | (refine LetV.pre ?_; first | refine LetV.mk (.sc (.int _ _)) rfl ?_) | (refine LetB.pre ?_; first | refine LetB.tt rfl ?_ | refine LetB.ff rfl ?_) | (refine Br.pre ?_; first | refine Br.tt rfl ?_ | refine Br.ff rfl ?_) | (refine Ck.pre ?_; first | refine Ck.mk rfl ?_) | (refine LetL.pre ?_; first | refine LetL.mk (ty := ety) [.agg [_, _, _, _, _, _, _, _, _, _, _, _, _, _, _]] rfl ?_) | (refine CallN.pre ?_; first | refine CallN.lend hp rfl (.full rfl (pure_en _) hml.symm (.same rfl (.same rfl (.same rfl .nil)))) ?_)))); (try (conv => whnf)))


      exact ⟨rfl, (r, 0, 0, 0), ⟨fun _ => hr.imp (fun h => h.1) id, fun h => absurd (by decide) h, by dsimp only; omega, by dsimp only; omega, by dsimp only; omega⟩, SW.mk id rfl rfl (namesAll.row rfl (namesAll.row (pure_en _) (namesAll.row rfl rfl))) ⟨.refl _, .refl _, .refl _, .refl _, .refl _, .refl _, .refl _, .refl _, .refl _, trivial⟩ (haveV.row rfl rfl (haveV.row (pure_en _) rfl (haveV.row rfl rfl trivial)))⟩
  intro y hy
  obtain ⟨y1, y2, y3, y4, y5⟩ := hy
  refine VS.joinN (fun _ : Unit => mtB sc fl xs v0 k day' a6 out early n ⟨(k : Int) + 1, sc, st, kd, day', 0, ⟨#[]⟩, 0, 0, y.1, y.2.2.2, y.2.1, y.2.2.1, 0, ⟨#[]⟩⟩ (decide (refsK kd))) (fun _ => True) ?_ ?_
  · clear ih y1 y2
    refine VS.of_V T_ok mixed rfl ?_
    obtain h | h | h | h | h | h | h | h | h : kd = 1 ∨ kd = 2 ∨ kd = 3 ∨ kd = 4 ∨ kd = 5 ∨ kd = 6 ∨ kd = 7 ∨ kd = 8 ∨ kd = 9 := by omega
    · subst h
      ((repeat ((conv => whnf); (first | (refine As.pre ?_; first | refine As.mk rfl ?_) | (refine LetV.pre ?_; first | refine LetV.mk (.sc (.int _ _)) rfl ?_) | (refine LetB.pre ?_; first | refine LetB.ff rfl ?_) | (refine Gd.pre ?_; first | refine Gd.run rfl ?_) | (refine Ck.pre ?_; first | refine Ck.mk rfl ?_)))); (try (conv => whnf)))
      exact ⟨rfl, (), trivial, SW.mk id rfl rfl (namesAll.row rfl (namesAll.row (pure_en _) (namesAll.row rfl rfl))) ⟨.refl _, .refl _, .refl _, .refl _, .refl _, .refl _, .refl _, .refl _, .refl _, .refl _, trivial⟩ (haveV.row rfl rfl (haveV.row (pure_en _) rfl (haveV.row rfl rfl trivial)))⟩
    · subst h
      ((repeat ((conv => whnf); (first | (refine As.pre ?_; first | refine As.mk rfl ?_) | (refine LetV.pre ?_; first | refine LetV.mk (.sc (.int _ _)) rfl ?_) | (refine LetB.pre ?_; first | refine LetB.ff rfl ?_) | (refine Gd.pre ?_; first | refine Gd.run rfl ?_) | (refine Ck.pre ?_; first | refine Ck.mk rfl ?_)))); (try (conv => whnf)))
      exact ⟨rfl, (), trivial, SW.mk id rfl rfl (namesAll.row rfl (namesAll.row (pure_en _) (namesAll.row rfl rfl))) ⟨.refl _, .refl _, .refl _, .refl _, .refl _, .refl _, .refl _, .refl _, .refl _, .refl _, trivial⟩ (haveV.row rfl rfl (haveV.row (pure_en _) rfl (haveV.row rfl rfl trivial)))⟩
    · subst h
      ((repeat ((conv => whnf); (first | (refine As.pre ?_; first | refine As.mk rfl ?_) | (refine LetV.pre ?_; first | refine LetV.mk (.sc (.int _ _)) rfl ?_) | (refine LetB.pre ?_; first | refine LetB.ff rfl ?_) | (refine Gd.pre ?_; first | refine Gd.run rfl ?_) | (refine Ck.pre ?_; first | refine Ck.mk rfl ?_)))); (try (conv => whnf)))
      exact ⟨rfl, (), trivial, SW.mk id rfl rfl (namesAll.row rfl (namesAll.row (pure_en _) (namesAll.row rfl rfl))) ⟨.refl _, .refl _, .refl _, .refl _, .refl _, .refl _, .refl _, .refl _, .refl _, .refl _, trivial⟩ (haveV.row rfl rfl (haveV.row (pure_en _) rfl (haveV.row rfl rfl trivial)))⟩
    · subst h
      ((repeat ((conv => whnf); (first | (refine As.pre ?_; first | refine As.mk rfl ?_) | (refine LetV.pre ?_; first | refine LetV.mk (.sc (.int _ _)) rfl ?_) | (refine LetB.pre ?_; first | refine LetB.tt rfl ?_) | (refine Gd.pre ?_; first | refine Gd.pass rfl ?_) | (refine Ck.pre ?_; first | refine Ck.mk rfl ?_)))); (try (conv => whnf)))
      exact ⟨rfl, (), trivial, SW.mk id rfl rfl (namesAll.row rfl (namesAll.row (pure_en _) (namesAll.row rfl rfl))) ⟨.refl _, .refl _, .refl _, .refl _, .refl _, .refl _, .refl _, .refl _, .refl _, .refl _, trivial⟩ (haveV.row rfl rfl (haveV.row (pure_en _) rfl (haveV.row rfl rfl trivial)))⟩
    · subst h
      ((repeat ((conv => whnf); (first | (refine As.pre ?_; first | refine As.mk rfl ?_) | (refine LetV.pre ?_; first | refine LetV.mk (.sc (.int _ _)) rfl ?_) | (refine LetB.pre ?_; first | refine LetB.tt rfl ?_ | refine LetB.ff rfl ?_) | (refine Gd.pre ?_; first | refine Gd.run rfl ?_ | refine Gd.pass rfl ?_) | (refine Ck.pre ?_; first | refine Ck.mk rfl ?_)))); (try (conv => whnf)))
      exact ⟨rfl, (), trivial, SW.mk id rfl rfl (namesAll.row rfl (namesAll.row (pure_en _) (namesAll.row rfl rfl))) ⟨.refl _, .refl _, .refl _, .refl _, .refl _, .refl _, .refl _, .refl _, .refl _, .refl _, trivial⟩ (haveV.row rfl rfl (haveV.row (pure_en _) rfl (haveV.row rfl rfl trivial)))⟩
    · subst h
      ((repeat ((conv => whnf); (first | (refine As.pre ?_; first | refine As.mk rfl ?_) | (refine LetV.pre ?_; first | refine LetV.mk (.sc (.int _ _)) rfl ?_) | (refine LetB.pre ?_; first | refine LetB.tt rfl ?_ | refine LetB.ff rfl ?_) | (refine Gd.pre ?_; first | refine Gd.run rfl ?_ | refine Gd.pass rfl ?_) | (refine Ck.pre ?_; first | refine Ck.mk rfl ?_)))); (try (conv => whnf)))
      exact ⟨rfl, (), trivial, SW.mk id rfl rfl (namesAll.row rfl (namesAll.row (pure_en _) (namesAll.row rfl rfl))) ⟨.refl _, .refl _, .refl _, .refl _, .refl _, .refl _, .refl _, .refl _, .refl _, .refl _, trivial⟩ (haveV.row rfl rfl (haveV.row (pure_en _) rfl (haveV.row rfl rfl trivial)))⟩
    · subst h
      ((repeat ((conv => whnf); (first | (refine As.pre ?_; first | refine As.mk rfl ?_) | (refine LetV.pre ?_; first | refine LetV.mk (.sc (.int _ _)) rfl ?_) | (refine LetB.pre ?_; first | refine LetB.ff rfl ?_) | (refine Gd.pre ?_; first | refine Gd.run rfl ?_) | (refine Ck.pre ?_; first | refine Ck.mk rfl ?_)))); (try (conv => whnf)))
      exact ⟨rfl, (), trivial, SW.mk id rfl rfl (namesAll.row rfl (namesAll.row (pure_en _) (namesAll.row rfl rfl))) ⟨.refl _, .refl _, .refl _, .refl _, .refl _, .refl _, .refl _, .refl _, .refl _, .refl _, trivial⟩ (haveV.row rfl rfl (haveV.row (pure_en _) rfl (haveV.row rfl rfl trivial)))⟩
    · subst h
      ((repeat ((conv => whnf); (first | (refine As.pre ?_; first | refine As.mk rfl ?_) | (refine LetV.pre ?_; first | refine LetV.mk (.sc (.int _ _)) rfl ?_) | (refine LetB.pre ?_; first | refine LetB.ff rfl ?_) | (refine Gd.pre ?_; first | refine Gd.run rfl ?_) | (refine Ck.pre ?_; first | refine Ck.mk rfl ?_)))); (try (conv => whnf)))
      exact ⟨rfl, (), trivial, SW.mk id rfl rfl (namesAll.row rfl (namesAll.row (pure_en _) (namesAll.row rfl rfl))) ⟨.refl _, .refl _, .refl _, .refl _, .refl _, .refl _, .refl _, .refl _, .refl _, .refl _, trivial⟩ (haveV.row rfl rfl (haveV.row (pure_en _) rfl (haveV.row rfl rfl trivial)))⟩
    · subst h
      ((repeat ((conv => whnf); (first | (refine As.pre ?_; first | refine As.mk rfl ?_) | (refine LetV.pre ?_; first | refine LetV.mk (.sc (.int _ _)) rfl ?_) | (refine LetB.pre ?_; first | refine LetB.tt rfl ?_ | refine LetB.ff rfl ?_) | (refine Gd.pre ?_; first | refine Gd.run rfl ?_) | (refine Ck.pre ?_; first | refine Ck.mk rfl ?_)))); (try (conv => whnf)))
      exact ⟨rfl, (), trivial, SW.mk id rfl rfl (namesAll.row rfl (namesAll.row (pure_en _) (namesAll.row rfl rfl))) ⟨.refl _, .refl _, .refl _, .refl _, .refl _, .refl _, .refl _, .refl _, .refl _, .refl _, trivial⟩ (haveV.row rfl rfl (haveV.row (pure_en _) rfl (haveV.row rfl rfl trivial)))⟩
  intro _ _
  refine VS.joinN (fun kd' : Int => mtE sc fl xs v0 k day' a6 out early n ⟨(k : Int) + 1, sc, st, kd', day', 0, ⟨#[]⟩, 0, 0, y.1, y.2.2.2, y.2.1, y.2.2.1, 0, ⟨#[]⟩⟩) (fun kd' => (1 ≤ kd' ∧ kd' ≤ 9) ∧ (refsK kd' → ∃ x ∈ out, x.student = st ∧ x.kind = tgtM kd' ∧ x.id = y.1) ∧ (¬refsK kd' → y.1 = 0)) ?_ ?_
  · clear ih
    refine VS.of_V T_ok mixed rfl ?_
    by_cases hk : refsK kd
    · rw [decide_eq_true hk]
      by_cases hy0 : y.1 = 0
      · ((repeat ((conv => whnf); (first | (refine LetN.pre ?_; first | ((conv => arg 1; whnf); refine LetN.mk ?_)) | (refine As.pre ?_; first | refine As.mk rfl ?_) | (refine LetV.pre ?_; first | refine LetV.mk (.sc (.int _ _)) rfl ?_) | (refine LetB.pre ?_; first | refine LetB.dect (by omega) ?_) | (refine Gd.pre ?_; first | refine Gd.run rfl ?_) | (refine Br.pre ?_; first | refine Br.tt rfl ?_) | (refine Ck.pre ?_; first | refine Ck.mk rfl ?_) | (refine LetL.pre ?_; first | refine LetL.mk (ty := ety) [.agg [_, _, _, _, _, _, _, _, _, _, _, _, _, _, _]] rfl ?_)))); (try (conv => whnf)))

        exact ⟨rfl, 3, ⟨by decide, fun h => absurd h (by decide), fun _ => hy0⟩, SW.mk id rfl rfl (namesAll.row rfl (namesAll.row (pure_en _) (namesAll.row rfl rfl))) ⟨.refl _, .refl _, .refl _, .refl _, .refl _, .refl _, .refl _, .refl _, .refl _, trivial⟩ (haveV.row rfl rfl (haveV.row (pure_en _) rfl (haveV.row rfl rfl trivial)))⟩
      · ((repeat ((conv => whnf); (first | (refine As.pre ?_; first | refine As.mk rfl ?_) | (refine LetV.pre ?_; first | refine LetV.mk (.sc (.int _ _)) rfl ?_) | (refine LetB.pre ?_; first | refine LetB.decf (by omega) ?_) | (refine Gd.pre ?_; first | refine Gd.run rfl ?_) | (refine Br.pre ?_; first | refine Br.ff rfl ?_) | (refine Ck.pre ?_; first | refine Ck.mk rfl ?_)))); (try (conv => whnf)))
        exact ⟨rfl, kd, ⟨hkd, fun h => (y1 h).resolve_left hy0, fun h => absurd hk h⟩, SW.mk id rfl rfl (namesAll.row rfl (namesAll.row (pure_en _) (namesAll.row rfl rfl))) ⟨.refl _, .refl _, .refl _, .refl _, .refl _, .refl _, .refl _, .refl _, .refl _, trivial⟩ (haveV.row rfl rfl (haveV.row (pure_en _) rfl (haveV.row rfl rfl trivial)))⟩
    · rw [decide_eq_false hk]
      ((repeat ((conv => whnf); (first | (refine As.pre ?_; first | refine As.mk rfl ?_) | (refine Gd.pre ?_; first | refine Gd.pass rfl ?_) | (refine Br.pre ?_; first | refine Br.ff rfl ?_) | (refine Ck.pre ?_; first | refine Ck.mk rfl ?_)))); (try (conv => whnf)))
      exact ⟨rfl, kd, ⟨hkd, fun h => absurd h hk, y2⟩, SW.mk id rfl rfl (namesAll.row rfl (namesAll.row (pure_en _) (namesAll.row rfl rfl))) ⟨.refl _, .refl _, .refl _, .refl _, .refl _, .refl _, .refl _, .refl _, .refl _, trivial⟩ (haveV.row rfl rfl (haveV.row (pure_en _) rfl (haveV.row rfl rfl trivial)))⟩
  clear y1 y2 hkd kd r3
  intro kd hkk
  obtain ⟨hkd, y1, y2⟩ := hkk
  have hcl : (codesL.map str).length = 6 := rfl
  obtain ⟨co, hco, hcov⟩ := codes_get (n.tmod 6) (by omega)
  obtain ⟨cr, hcr, hcrv⟩ := cred_get3 (n.tmod 3) (by omega)
  refine VS.joinN (fun z : ByteArray × Int => mtE sc fl xs v0 k day' a6 out early n ⟨(k : Int) + 1, sc, st, kd, day', 0, z.1, z.2, 0, y.1, y.2.2.2, y.2.1, y.2.2.1, 0, ⟨#[]⟩⟩) (fun z => z.1.size ≤ 2 ∧ (0 ≤ z.2 ∧ z.2 ≤ 10) ∧ (kd = 3 → 5 ≤ z.2)) ?_ ?_
  · clear ih
    refine VS.of_V T_ok mixed rfl ?_
    by_cases h3 : kd = 3
    · ((repeat ((conv => whnf); (first | (refine LetN.pre ?_; first | ((conv => arg 1; whnf); refine LetN.mk ?_)) | (refine As.pre ?_; first | refine As.mk rfl ?_ | (refine As.mk ?_ ?_; · ((repeat' (refine andT ?_ ?_)) <;> (first | rfl | assumption | exact decide_eq_true (by omega) | exact decide_eq_true (by dsimp only; omega) | exact decide_eq_true (by simp; omega) | (simp; done))))) | (refine LetV.pre ?_; first | refine LetV.mk (t := 71) _ hcov ?_ | refine LetV.mk (t := 43) _ hcrv ?_ | refine LetV.mk (.sc (.int _ _)) rfl ?_ | refine LetV.mk (.sc _) rfl ?_) | (refine LetI.pre ?_; first | refine LetI.mk _ rfl ?_) | (refine LetB.pre ?_; first | refine LetB.dect (by omega) ?_) | (refine Br.pre ?_; first | refine Br.tt rfl ?_) | (refine Ck.pre ?_; first | refine Ck.mk rfl ?_) | (refine LetL.pre ?_; first | refine LetL.mk (ty := ety) [.agg [_, _, _, _, _, _, _, _, _, _, _, _, _, _, _]] rfl ?_) | (refine CallN.pre ?_; first | refine CallN.pure Codes_f rfl rfl ?_)))); (try (conv => whnf)))




      exact ⟨rfl, (co, cr), ⟨hco, by dsimp only; omega, fun _ => by dsimp only; omega⟩, SW.mk id rfl rfl (namesAll.row rfl (namesAll.row (pure_en _) (namesAll.row rfl rfl))) ⟨.refl _, .refl _, .refl _, .refl _, .refl _, .refl _, .refl _, .refl _, .refl _, trivial⟩ (haveV.row rfl rfl (haveV.row (pure_en _) rfl (haveV.row rfl rfl trivial)))⟩
    · ((repeat ((conv => whnf); (first | (refine As.pre ?_; first | refine As.mk rfl ?_) | (refine LetV.pre ?_; first | refine LetV.mk (.sc (.int _ _)) rfl ?_) | (refine LetB.pre ?_; first | refine LetB.decf (by omega) ?_) | (refine Br.pre ?_; first | refine Br.ff rfl ?_) | (refine Ck.pre ?_; first | refine Ck.mk rfl ?_)))); (try (conv => whnf)))
      exact ⟨rfl, (⟨#[]⟩, 0), ⟨by decide, by decide, fun h => absurd h h3⟩, SW.mk id rfl rfl (namesAll.row rfl (namesAll.row (pure_en _) (namesAll.row rfl rfl))) ⟨.refl _, .refl _, .refl _, .refl _, .refl _, .refl _, .refl _, .refl _, .refl _, trivial⟩ (haveV.row rfl rfl (haveV.row (pure_en _) rfl (haveV.row rfl rfl trivial)))⟩
  clear hcov hcrv hco hcr co cr
  intro z hz
  obtain ⟨z1, z2, z3⟩ := hz
  obtain ⟨v7, a7, r7, q7, N7⟩ := made_next fl xs hx a6 21 q6 (by omega)
  have d5 := tmod_bound v7 (m := 5) (by omega)
  have dp5 := tmod_pos 5 r7.1
  have hquo : v7 = (5 * v7).tdiv 5 := by
    rw [Int.tdiv_eq_ediv_of_nonneg (by omega)]; omega
  have hquw : v7 = IntKind.i64.wrap ((5 * v7).tdiv 5) := by rw [← hquo, wrap_id (by omega) (by omega)]
  refine VS.joinN (fun u : Nat × Int => mtE sc fl xs v0 k day' u.1 out early n ⟨(k : Int) + 1, sc, st, kd, day', 0, z.1, z.2, u.2, y.1, y.2.2.2, y.2.1, y.2.2.1, 0, ⟨#[]⟩⟩) (fun u => u.1 ≤ xs.length ∧ (0 ≤ u.2 ∧ u.2 ≤ 100) ∧ (kd = 3 → (sc = 2 → 1 ≤ u.2 ∧ u.2 ≤ 5) ∧ (sc = 3 → u.2 ≤ 20))) ?_ ?_
  · clear ih
    refine VS.of_V T_ok mixed rfl ?_
    by_cases h34 : kd = 3 ∨ kd = 4
    · obtain hs | hs | hs : sc = 1 ∨ sc = 2 ∨ sc = 3 := by omega
      · subst hs
        rcases h34 with h | h
        · subst h
          ((repeat ((conv => whnf); (first | (refine LetN.pre ?_; first | ((conv => arg 1; whnf); refine LetN.mk ?_)) | (refine As.pre ?_; first | refine As.mk rfl ?_) | (refine LetV.pre ?_; first | refine LetV.mk (.sc (.int _ _)) rfl ?_) | (refine LetI.pre ?_; first | refine LetI.wrap (by omega) (by omega) ?_) | (refine LetB.pre ?_; first | refine LetB.tt rfl ?_ | refine LetB.ff rfl ?_) | (refine Gd.pre ?_; first | refine Gd.pass rfl ?_) | (refine Br.pre ?_; first | refine Br.tt rfl ?_ | refine Br.ff rfl ?_) | (refine Ck.pre ?_; first | refine Ck.mk rfl ?_) | (refine LetL.pre ?_; first | refine LetL.mk (ty := ety) [.agg [_, _, _, _, _, _, _, _, _, _, _, _, _, _, _]] rfl ?_ | refine LetL.mk [_] rfl ?_) | (refine CallN.pre ?_; first | refine CallN.own (fun _ => 0) N7 (CallOk.mk' rfl rfl rfl (namesAll.row rfl rfl) rfl (namesAll.row rfl rfl) (haveAll.row rfl rfl trivial)) ?_)))); (try (conv => whnf)))




          exact ⟨rfl, (a7, 5 * v7), ⟨q7, by dsimp only; omega, fun _ => ⟨fun h => by dsimp only; omega, fun h => by dsimp only; omega⟩⟩, SW.mk id rfl rfl (namesAll.row rfl (namesAll.row (pure_en _) (namesAll.row rfl rfl))) ⟨.refl _, .refl _, .refl _, .refl _, .refl _, .refl _, .refl _, .refl _, .refl _, trivial⟩ (haveV.row rfl rfl (haveV.row (pure_en _) rfl (haveV.row rfl rfl trivial)))⟩
        · subst h
          ((repeat ((conv => whnf); (first | (refine LetN.pre ?_; first | ((conv => arg 1; whnf); refine LetN.mk ?_)) | (refine As.pre ?_; first | refine As.mk rfl ?_) | (refine LetV.pre ?_; first | refine LetV.mk (.sc (.int _ _)) rfl ?_) | (refine LetI.pre ?_; first | refine LetI.wrap (by omega) (by omega) ?_) | (refine LetB.pre ?_; first | refine LetB.tt rfl ?_ | refine LetB.ff rfl ?_) | (refine Gd.pre ?_; first | refine Gd.run rfl ?_) | (refine Br.pre ?_; first | refine Br.tt rfl ?_ | refine Br.ff rfl ?_) | (refine Ck.pre ?_; first | refine Ck.mk rfl ?_) | (refine LetL.pre ?_; first | refine LetL.mk (ty := ety) [.agg [_, _, _, _, _, _, _, _, _, _, _, _, _, _, _]] rfl ?_ | refine LetL.mk [_] rfl ?_) | (refine CallN.pre ?_; first | refine CallN.own (fun _ => 0) N7 (CallOk.mk' rfl rfl rfl (namesAll.row rfl rfl) rfl (namesAll.row rfl rfl) (haveAll.row rfl rfl trivial)) ?_)))); (try (conv => whnf)))




          exact ⟨rfl, (a7, 5 * v7), ⟨q7, by dsimp only; omega, fun _ => ⟨fun h => by dsimp only; omega, fun h => by dsimp only; omega⟩⟩, SW.mk id rfl rfl (namesAll.row rfl (namesAll.row (pure_en _) (namesAll.row rfl rfl))) ⟨.refl _, .refl _, .refl _, .refl _, .refl _, .refl _, .refl _, .refl _, .refl _, trivial⟩ (haveV.row rfl rfl (haveV.row (pure_en _) rfl (haveV.row rfl rfl trivial)))⟩
      · subst hs
        rcases h34 with h | h
        · subst h
          ((repeat ((conv => whnf); (first | (refine LetN.pre ?_; first | ((conv => arg 1; whnf); refine LetN.mk ?_)) | (refine As.pre ?_; first | refine As.mk rfl ?_) | (refine LetV.pre ?_; first | refine LetV.mk (.sc (.int _ _)) rfl ?_) | (refine LetI.pre ?_; first | refine LetI.mk (o := some .quo) v7 hquw ?_ | refine LetI.wrap (by omega) (by omega) ?_ | refine LetI.mk _ rfl ?_) | (refine LetB.pre ?_; first | refine LetB.tt rfl ?_) | (refine Gd.pre ?_; first | refine Gd.pass rfl ?_) | (refine Br.pre ?_; first | refine Br.tt rfl ?_) | (refine Ck.pre ?_; first | refine Ck.mk rfl ?_) | (refine LetL.pre ?_; first | refine LetL.mk (ty := ety) [.agg [_, _, _, _, _, _, _, _, _, _, _, _, _, _, _]] rfl ?_ | refine LetL.mk [_] rfl ?_) | (refine CallN.pre ?_; first | refine CallN.own (fun _ => 0) N7 (CallOk.mk' rfl rfl rfl (namesAll.row rfl rfl) rfl (namesAll.row rfl rfl) (haveAll.row rfl rfl trivial)) ?_)))); (try (conv => whnf)))




          exact ⟨rfl, (a7, 1 + v7.tmod 5), ⟨q7, by dsimp only; omega, fun _ => ⟨fun h => by dsimp only; omega, fun h => by dsimp only; omega⟩⟩, SW.mk id rfl rfl (namesAll.row rfl (namesAll.row (pure_en _) (namesAll.row rfl rfl))) ⟨.refl _, .refl _, .refl _, .refl _, .refl _, .refl _, .refl _, .refl _, .refl _, trivial⟩ (haveV.row rfl rfl (haveV.row (pure_en _) rfl (haveV.row rfl rfl trivial)))⟩
        · subst h
          ((repeat ((conv => whnf); (first | (refine LetN.pre ?_; first | ((conv => arg 1; whnf); refine LetN.mk ?_)) | (refine As.pre ?_; first | refine As.mk rfl ?_) | (refine LetV.pre ?_; first | refine LetV.mk (.sc (.int _ _)) rfl ?_) | (refine LetI.pre ?_; first | refine LetI.mk (o := some .quo) v7 hquw ?_ | refine LetI.wrap (by omega) (by omega) ?_ | refine LetI.mk _ rfl ?_) | (refine LetB.pre ?_; first | refine LetB.tt rfl ?_ | refine LetB.ff rfl ?_) | (refine Gd.pre ?_; first | refine Gd.run rfl ?_) | (refine Br.pre ?_; first | refine Br.tt rfl ?_) | (refine Ck.pre ?_; first | refine Ck.mk rfl ?_) | (refine LetL.pre ?_; first | refine LetL.mk (ty := ety) [.agg [_, _, _, _, _, _, _, _, _, _, _, _, _, _, _]] rfl ?_ | refine LetL.mk [_] rfl ?_) | (refine CallN.pre ?_; first | refine CallN.own (fun _ => 0) N7 (CallOk.mk' rfl rfl rfl (namesAll.row rfl rfl) rfl (namesAll.row rfl rfl) (haveAll.row rfl rfl trivial)) ?_)))); (try (conv => whnf)))




          exact ⟨rfl, (a7, 1 + v7.tmod 5), ⟨q7, by dsimp only; omega, fun _ => ⟨fun h => by dsimp only; omega, fun h => by dsimp only; omega⟩⟩, SW.mk id rfl rfl (namesAll.row rfl (namesAll.row (pure_en _) (namesAll.row rfl rfl))) ⟨.refl _, .refl _, .refl _, .refl _, .refl _, .refl _, .refl _, .refl _, .refl _, trivial⟩ (haveV.row rfl rfl (haveV.row (pure_en _) rfl (haveV.row rfl rfl trivial)))⟩
      · subst hs
        rcases h34 with h | h
        · subst h
          ((repeat ((conv => whnf); (first | (refine LetN.pre ?_; first | ((conv => arg 1; whnf); refine LetN.mk ?_)) | (refine As.pre ?_; first | refine As.mk rfl ?_) | (refine LetV.pre ?_; first | refine LetV.mk (.sc (.int _ _)) rfl ?_) | (refine LetI.pre ?_; first | refine LetI.mk (o := some .quo) v7 hquw ?_ | refine LetI.wrap (by omega) (by omega) ?_) | (refine LetB.pre ?_; first | refine LetB.tt rfl ?_ | refine LetB.ff rfl ?_) | (refine Gd.pre ?_; first | refine Gd.pass rfl ?_) | (refine Br.pre ?_; first | refine Br.tt rfl ?_ | refine Br.ff rfl ?_) | (refine Ck.pre ?_; first | refine Ck.mk rfl ?_) | (refine LetL.pre ?_; first | refine LetL.mk (ty := ety) [.agg [_, _, _, _, _, _, _, _, _, _, _, _, _, _, _]] rfl ?_ | refine LetL.mk [_] rfl ?_) | (refine CallN.pre ?_; first | refine CallN.own (fun _ => 0) N7 (CallOk.mk' rfl rfl rfl (namesAll.row rfl rfl) rfl (namesAll.row rfl rfl) (haveAll.row rfl rfl trivial)) ?_)))); (try (conv => whnf)))




          exact ⟨rfl, (a7, v7), ⟨q7, by dsimp only; omega, fun _ => ⟨fun h => by dsimp only; omega, fun h => by dsimp only; omega⟩⟩, SW.mk id rfl rfl (namesAll.row rfl (namesAll.row (pure_en _) (namesAll.row rfl rfl))) ⟨.refl _, .refl _, .refl _, .refl _, .refl _, .refl _, .refl _, .refl _, .refl _, trivial⟩ (haveV.row rfl rfl (haveV.row (pure_en _) rfl (haveV.row rfl rfl trivial)))⟩
        · subst h
          ((repeat ((conv => whnf); (first | (refine LetN.pre ?_; first | ((conv => arg 1; whnf); refine LetN.mk ?_)) | (refine As.pre ?_; first | refine As.mk rfl ?_) | (refine LetV.pre ?_; first | refine LetV.mk (.sc (.int _ _)) rfl ?_) | (refine LetI.pre ?_; first | refine LetI.mk (o := some .quo) v7 hquw ?_ | refine LetI.wrap (by omega) (by omega) ?_) | (refine LetB.pre ?_; first | refine LetB.tt rfl ?_ | refine LetB.ff rfl ?_) | (refine Gd.pre ?_; first | refine Gd.run rfl ?_) | (refine Br.pre ?_; first | refine Br.tt rfl ?_ | refine Br.ff rfl ?_) | (refine Ck.pre ?_; first | refine Ck.mk rfl ?_) | (refine LetL.pre ?_; first | refine LetL.mk (ty := ety) [.agg [_, _, _, _, _, _, _, _, _, _, _, _, _, _, _]] rfl ?_ | refine LetL.mk [_] rfl ?_) | (refine CallN.pre ?_; first | refine CallN.own (fun _ => 0) N7 (CallOk.mk' rfl rfl rfl (namesAll.row rfl rfl) rfl (namesAll.row rfl rfl) (haveAll.row rfl rfl trivial)) ?_)))); (try (conv => whnf)))




          exact ⟨rfl, (a7, v7), ⟨q7, by dsimp only; omega, fun _ => ⟨fun h => by dsimp only; omega, fun h => by dsimp only; omega⟩⟩, SW.mk id rfl rfl (namesAll.row rfl (namesAll.row (pure_en _) (namesAll.row rfl rfl))) ⟨.refl _, .refl _, .refl _, .refl _, .refl _, .refl _, .refl _, .refl _, .refl _, trivial⟩ (haveV.row rfl rfl (haveV.row (pure_en _) rfl (haveV.row rfl rfl trivial)))⟩
    · have h3 : ¬kd = 3 := fun h => h34 (.inl h)
      have h4 : ¬kd = 4 := fun h => h34 (.inr h)
      ((repeat ((conv => whnf); (first | (refine As.pre ?_; first | refine As.mk rfl ?_) | (refine LetV.pre ?_; first | refine LetV.mk (.sc (.int _ _)) rfl ?_) | (refine LetB.pre ?_; first | refine LetB.decf (by omega) ?_) | (refine Gd.pre ?_; first | refine Gd.run rfl ?_) | (refine Br.pre ?_; first | refine Br.ff rfl ?_) | (refine Ck.pre ?_; first | refine Ck.mk rfl ?_)))); (try (conv => whnf)))
      exact ⟨rfl, (a6, 0), ⟨q6, by dsimp only; omega, fun h => absurd h h3⟩, SW.mk id rfl rfl (namesAll.row rfl (namesAll.row (pure_en _) (namesAll.row rfl rfl))) ⟨.refl _, .refl _, .refl _, .refl _, .refl _, .refl _, .refl _, .refl _, .refl _, trivial⟩ (haveV.row rfl rfl (haveV.row (pure_en _) rfl (haveV.row rfl rfl trivial)))⟩
  clear N7 q7 r7 d5 dp5 hquo hquw
  clear a7 v7
  intro u hu
  obtain ⟨u1, u2, u3⟩ := hu
  have hO := on_f out y.1 {} (by omega)
  have hOb := hM.onP y.1 h2.1
  have hOat : ∀ x ∈ out, x.id = y.1 → En.onP out y.1 = x.on_ := fun x hx h => by rw [← h]; exact hM.onP_at hx
  generalize En.onP out y.1 = ov at hO hOb hOat
  refine VS.cut T_ok mixed rfl ?_
  ((repeat ((conv => whnf); (first | (refine LetN.pre ?_; first | ((conv => arg 1; whnf); refine LetN.mk ?_)) | (refine As.pre ?_; first | refine As.mk rfl ?_) | (refine LetV.pre ?_; first | refine LetV.mk (.sc (.int _ _)) rfl ?_) | (refine LetI.pre ?_; first | refine LetI.wrap (by omega) (by omega) ?_ | refine LetI.mk _ rfl ?_) | (refine Ck.pre ?_; first | refine Ck.mk rfl ?_) | (refine LetL.pre ?_; first | refine LetL.mk (ty := ety) [.agg [_, _, _, _, _, _, _, _, _, _, _, _, _, _, _]] rfl ?_) | (refine CallN.pre ?_; first | refine CallN.lend hO rfl (.full rfl (pure_en _) hml.symm (.same rfl .nil)) ?_)))); (try (conv => whnf)))


  refine VS.weak (s1 := mtE sc fl xs v0 k day' u.1 out early n ⟨(k : Int) + 1, sc, st, kd, day', max (max 0 ov) (day' - early), z.1, z.2, u.2, y.1, y.2.2.2, y.2.1, y.2.2.1, 0, ⟨#[]⟩⟩) ?swb ?_
  case swb => exact SW.mk id rfl rfl (namesAll.row rfl (namesAll.row (pure_en _) (namesAll.row rfl rfl))) ⟨.refl _, .refl _, .refl _, .refl _, .refl _, .refl _, .refl _, .refl _, .refl _, trivial⟩ (haveV.row rfl rfl (haveV.row (pure_en _) rfl (haveV.row rfl rfl trivial)))
  have hon : 0 ≤ max (max 0 ov) (day' - early) ∧ max (max 0 ov) (day' - early) ≤ day' ∧ ov ≤ max (max 0 ov) (day' - early) := by omega
  obtain ⟨e, he⟩ : ∃ e : E, e = ⟨(k : Int) + 1, sc, st, kd, day', max (max 0 ov) (day' - early), z.1, z.2, u.2, y.1, y.2.2.2, y.2.1, y.2.2.1, 0, ⟨#[]⟩⟩ := ⟨_, rfl⟩
  rw [← he]
  have hM2 : M10 sc day' (out ++ [e]) := by
    refine hM.add ?_ (by omega) (by rw [he]; dsimp only; omega) (by rw [he]) fun hk => ?_
    · rw [he]
      exact ⟨rfl, hst3, hkd, by dsimp only; omega, by dsimp only; omega, z1, z2, u2, y3, y4, y5, rfl, rfl, fun h => ⟨z3 h, u3 h⟩, y2⟩
    · rw [he] at hk ⊢
      obtain ⟨x, x1, x2, x3, x4⟩ := y1 hk
      exact ⟨x, x1, x2, x3, x4, by dsimp only; rw [← hOat x x1 x4]; exact hon.2.2⟩
  have hnx := ih (k + 1, day', u.1, out ++ [e]) ⟨by dsimp only; omega, by dsimp only; omega, u1, by simp [h4], hM2⟩ (by show 24 - (k + 1) < 24 - k; omega)
  clear ih hM2 hM hO hOat y1 y2 he
  have hr := room_en (n := out.length + 1) (by omega)
  refine VS.of_V T_ok mixed rfl ?_
  ((repeat ((conv => whnf); (first | (refine LetN.pre ?_; first | ((conv => arg 1; whnf); refine LetN.mk ?_)) | (refine As.pre ?_; first | refine As.mk rfl ?_ | (refine As.mk ?_ ?_; · ((repeat' (refine andT ?_ ?_)) <;> (first | rfl | assumption | exact decide_eq_true (by omega) | exact decide_eq_true (by dsimp only; omega) | exact decide_eq_true (by simp; omega) | (simp; done))))) | (refine LetV.pre ?_; first | refine LetV.mk (.agg _) rfl ?_) | (refine Ck.pre ?_; first | refine Ck.mk rfl ?_) | (refine LetL.pre ?_; first | refine LetL.mk (ty := ety) _ (app_en out e _ rfl) ?_)))); (try (conv => whnf)))
  refine VS.of_V T_ok mixed rfl ?_
  ((repeat ((conv => whnf); (first | (refine As.pre ?_; first | refine As.mk rfl ?_) | (refine LetI.pre ?_; first | refine LetI.wrap (by omega) (by omega) ?_) | (refine Ck.pre ?_; first | refine Ck.mk rfl ?_)))); (try (conv => whnf)))
  refine LoopN.weak ?swc hnx
  case swc => exact SW.mk (fun i => if i = 1 then 3 else i) rfl rfl (namesAll.row rfl (namesAll.row (pure_en _) rfl)) ⟨.refl _, .refl _, VLe2.slm_of (by simp), .refl _, .refl _, VLe2.int (by omega), trivial⟩ (haveV.row rfl rfl (haveV.row (pure_en _) rfl trivial))
theorem Made10_f (xs : List Int) (fl : Fl) (hx : xs.length ≤ 9223372036854775807) (sc : Int) (hsc : 1 ≤ sc ∧ sc ≤ 3) : ∃ l : List E, (l.length ≤ 24 ∧ M10 sc 600 l) ∧ AFun Tryz.prog 37 0 [.ro fl 1 (xs.map int), int sc] [] (.ro {} 15 (l.map en)) [] := by
  obtain ⟨l, h, hM⟩ := Made10_s xs fl hx sc hsc
  exact ⟨l, h, AFun.frz1 (H := []) hM rfl (pure_en _) (by simp)⟩
end En
end Go.Proofs.YtgnakhljdjekbaaGreatDoor
namespace Go.Proofs.YtgnakhljdjekbaaGreatDoor
open Go.Proofs.YtgnakhljdjekbaaGreatDoor.Am
set_option maxRecDepth 100000
namespace En
/-! ### Entries with a change -/
/-- What made entries and their changes keep to. -/
structure bE (e : E) : Prop where
  school : -1000 ≤ e.school ∧ e.school ≤ 1000
  id : -1000000000 ≤ e.id ∧ e.id ≤ 1000000000
  day : -1 ≤ e.day ∧ e.day ≤ 200000
  on : -1 ≤ e.on_ ∧ e.on_ ≤ 200001
  course : e.course.size ≤ 9
abbrev od (e : E) (a b : Int) (e' : E) : Prop := AFun Tryz.prog 19 0 [en e, .agg [int a, int b]] [] (en e') []
theorem od0 (n : Int) (h : 0 ≤ n ∧ n < 4) : ∃ c : Int, (0 ≤ c ∧ c ≤ 900000) ∧ int c = ([int 0, int 1, int 899999, int 900000] : List AV).getD n.toNat (.sc undef) := by
  obtain ⟨m, rfl⟩ : ∃ m : Nat, n = m := ⟨n.toNat, by omega⟩
  have : m = 0 ∨ m = 1 ∨ m = 2 ∨ m = 3 := by omega
  rcases this with rfl | rfl | rfl | rfl <;> exact ⟨_, by omega, rfl⟩
theorem od2 (n : Int) (h : 0 ≤ n ∧ n < 4) : ∃ c : Int, (0 ≤ c ∧ c ≤ 1000000) ∧ int c = ([int 0, int 999999, int 1000000, int 2] : List AV).getD n.toNat (.sc undef) := by
  obtain ⟨m, rfl⟩ : ∃ m : Nat, n = m := ⟨n.toNat, by omega⟩
  have : m = 0 ∨ m = 1 ∨ m = 2 ∨ m = 3 := by omega
  rcases this with rfl | rfl | rfl | rfl <;> exact ⟨_, by omega, rfl⟩
theorem od4 (n : Int) (h : 0 ≤ n ∧ n < 4) : ∃ c : Int, (-1 ≤ c ∧ c ≤ 100001) ∧ int c = ([int (-1), int 0, int 100000, int 100001] : List AV).getD n.toNat (.sc undef) := by
  obtain ⟨m, rfl⟩ : ∃ m : Nat, n = m := ⟨n.toNat, by omega⟩
  have : m = 0 ∨ m = 1 ∨ m = 2 ∨ m = 3 := by omega
  rcases this with rfl | rfl | rfl | rfl <;> exact ⟨_, by omega, rfl⟩
theorem od5 (d : Int) (n : Int) (h : 0 ≤ n ∧ n < 4) (hd : -1 ≤ d ∧ d ≤ 200000) : ∃ c : Int, (-1 ≤ c ∧ c ≤ 200001) ∧ int c = ([int (-1), int 0, int d, int (d + 1)] : List AV).getD n.toNat (.sc undef) := by
  obtain ⟨m, rfl⟩ : ∃ m : Nat, n = m := ⟨n.toNat, by omega⟩
  have : m = 0 ∨ m = 1 ∨ m = 2 ∨ m = 3 := by omega
  rcases this with rfl | rfl | rfl | rfl <;> exact ⟨_, by omega, rfl⟩
theorem od6 (n : Int) (h : 0 ≤ n ∧ n < 5) : ∃ c : ByteArray, c.size ≤ 9 ∧ str c = ([str ⟨#[]⟩, str ⟨#[65, 49]⟩, str ⟨#[66, 50]⟩, str ⟨#[97]⟩, str ⟨#[65, 66, 67, 68, 69, 70, 71, 72, 73]⟩] : List AV).getD n.toNat (.sc undef) := by
  obtain ⟨m, rfl⟩ : ∃ m : Nat, n = m := ⟨n.toNat, by omega⟩
  have : m = 0 ∨ m = 1 ∨ m = 2 ∨ m = 3 ∨ m = 4 := by omega
  rcases this with rfl | rfl | rfl | rfl | rfl <;> exact ⟨_, by decide, rfl⟩
theorem od7 (n : Int) (h : 0 ≤ n ∧ n < 4) : ∃ c : Int, (0 ≤ c ∧ c ≤ 61) ∧ int c = ([int 0, int 1, int 60, int 61] : List AV).getD n.toNat (.sc undef) := by
  obtain ⟨m, rfl⟩ : ∃ m : Nat, n = m := ⟨n.toNat, by omega⟩
  have : m = 0 ∨ m = 1 ∨ m = 2 ∨ m = 3 := by omega
  rcases this with rfl | rfl | rfl | rfl <;> exact ⟨_, by omega, rfl⟩
theorem od8 (k : Int) (n : Int) (h : 0 ≤ n ∧ n < 6) (hk : 0 ≤ k ∧ k < 40) : ∃ c : Int, (-1001 ≤ c ∧ c ≤ 1001) ∧ int c = ([int 0, int (-1000), int (-1001), int 1000, int 1001, int (5 * k)] : List AV).getD n.toNat (.sc undef) := by
  obtain ⟨m, rfl⟩ : ∃ m : Nat, n = m := ⟨n.toNat, by omega⟩
  have : m = 0 ∨ m = 1 ∨ m = 2 ∨ m = 3 ∨ m = 4 ∨ m = 5 := by omega
  rcases this with rfl | rfl | rfl | rfl | rfl | rfl <;> exact ⟨_, by omega, rfl⟩
theorem od9 (i k : Int) (n : Int) (h : 0 ≤ n ∧ n < 6) : ∃ c : Int, int c = ([int 0, int i, int 1, int 899999, int 900000, int k] : List AV).getD n.toNat (.sc undef) := by
  obtain ⟨m, rfl⟩ : ∃ m : Nat, n = m := ⟨n.toNat, by omega⟩
  have : m = 0 ∨ m = 1 ∨ m = 2 ∨ m = 3 ∨ m = 4 ∨ m = 5 := by omega
  rcases this with rfl | rfl | rfl | rfl | rfl | rfl <;> exact ⟨_, rfl⟩
theorem od14 (n : Int) (h : 0 ≤ n ∧ n < 4) : ∃ c : ByteArray, str c = ([str ⟨#[]⟩, str ⟨#[109, 97, 114, 107]⟩, str ⟨#[48, 58]⟩, str ⟨#[49, 50, 51, 52, 53, 54, 55, 56]⟩] : List AV).getD n.toNat (.sc undef) := by
  obtain ⟨m, rfl⟩ : ∃ m : Nat, n = m := ⟨n.toNat, by omega⟩
  have : m = 0 ∨ m = 1 ∨ m = 2 ∨ m = 3 := by omega
  rcases this with rfl | rfl | rfl | rfl <;> exact ⟨_, rfl⟩
set_option maxRecDepth 100000 in
theorem odd_0 (e : E) (a b n : Int) (hb : bE e) (h : 0 ≤ n ∧ n < 40) (hn : (b.tmod 40 + 40).tmod 40 = n) (hm : (a.tmod 15 + 15).tmod 15 = 0) : ∃ e', bE e' ∧ od e a b e' := by
  obtain ⟨r, hr, hr0⟩ : ∃ r : Int, r = n.tmod 4 ∧ 0 ≤ r ∧ r < 4 := ⟨_, rfl, by have := tmod_bound n (m := 4) (by omega); have := tmod_pos 4 (a := n) h.1; omega⟩
  obtain ⟨c, hc, hv⟩ := od0 r hr0
  have hd3 : 0 ≤ n.tdiv 4 ∧ n.tdiv 4 < 40 := (by rw [Int.tdiv_eq_ediv_of_nonneg h.1]; omega)
  refine ⟨{ e with id := c + n.tdiv 4 }, ⟨hb.school, by dsimp only; omega, hb.day, hb.on, hb.course⟩, ?_⟩
  have hd := hb.day
  refine AFun.of_W T_ok mixed Tryz.func19 rfl (Nat.le_of_ble_eq_true rfl) rfl ?_
  have hM1 := Mod_f b 40 (by omega)
  have hM2 := Mod_f a 15 (by omega)
  rw [hn] at hM1
  rw [hm] at hM2
  ((repeat ((conv => whnf); (first | (refine LetN.pre ?_; first | ((conv => arg 1; whnf); refine LetN.mk ?_)) | (refine As.pre ?_; first | refine As.mk rfl ?_ | (refine As.mk ?_ ?_; · ((repeat' (refine andT ?_ ?_)) <;> (first | rfl | assumption | exact decide_eq_true (by omega) | exact decide_eq_true (by dsimp only; omega) | exact decide_eq_true (by simp; omega) | (simp; done))))) | (refine LetV.pre ?_; first | refine LetV.mk (t := 43) _ hv ?_ | refine LetV.mk (.sc (.int _ _)) rfl ?_ | refine LetV.mk (.agg _) rfl ?_) | (refine LetI.pre ?_; first | refine LetI.mk (o := some .rem) r hr ?_ | refine LetI.wrap (by omega) (by omega) ?_) | (refine LetB.pre ?_; first | refine LetB.tt rfl ?_) | (refine Br.pre ?_; first | refine Br.tt rfl ?_) | (refine Ck.pre ?_; first | refine Ck.mk rfl ?_) | (refine LetL.pre ?_; first | refine LetL.mk (ty := ety) [.agg [_, _, _, _, _, _, _, _, _, _, _, _, _, _, _]] rfl ?_) | (refine CallN.pre ?_; first | refine CallN.pure hM1 rfl rfl ?_ | refine CallN.pure hM2 rfl rfl ?_)))); (try (conv => whnf)))





  exact ⟨.inl rfl, ⟨_, rfl, rfl⟩, trivial⟩
set_option maxRecDepth 100000 in
theorem odd_1 (e : E) (a b n : Int) (hb : bE e) (h : 0 ≤ n ∧ n < 40) (hn : (b.tmod 40 + 40).tmod 40 = n) (hm : (a.tmod 15 + 15).tmod 15 = 1) : ∃ e', bE e' ∧ od e a b e' := by
  obtain ⟨r, hr, hr0⟩ : ∃ r : Int, r = n.tmod 11 ∧ 0 ≤ r ∧ r < 11 := ⟨_, rfl, by have := tmod_bound n (m := 11) (by omega); have := tmod_pos 11 (a := n) h.1; omega⟩
  refine ⟨{ e with school := r - 1 }, ⟨by dsimp only; omega, hb.id, hb.day, hb.on, hb.course⟩, ?_⟩
  have hd := hb.day
  refine AFun.of_W T_ok mixed Tryz.func19 rfl (Nat.le_of_ble_eq_true rfl) rfl ?_
  have hM1 := Mod_f b 40 (by omega)
  have hM2 := Mod_f a 15 (by omega)
  rw [hn] at hM1
  rw [hm] at hM2
  ((repeat ((conv => whnf); (first | (refine LetN.pre ?_; first | ((conv => arg 1; whnf); refine LetN.mk ?_)) | (refine As.pre ?_; first | refine As.mk rfl ?_) | (refine LetV.pre ?_; first | refine LetV.mk (.sc (.int _ _)) rfl ?_ | refine LetV.mk (.agg _) rfl ?_) | (refine LetI.pre ?_; first | refine LetI.mk (o := some .rem) r hr ?_ | refine LetI.wrap (by omega) (by omega) ?_) | (refine LetB.pre ?_; first | refine LetB.tt rfl ?_ | refine LetB.ff rfl ?_) | (refine Br.pre ?_; first | refine Br.tt rfl ?_ | refine Br.ff rfl ?_) | (refine Ck.pre ?_; first | refine Ck.mk rfl ?_) | (refine LetL.pre ?_; first | refine LetL.mk (ty := ety) [.agg [_, _, _, _, _, _, _, _, _, _, _, _, _, _, _]] rfl ?_) | (refine CallN.pre ?_; first | refine CallN.pure hM1 rfl rfl ?_ | refine CallN.pure hM2 rfl rfl ?_)))); (try (conv => whnf)))




  exact ⟨.inl rfl, ⟨_, rfl, rfl⟩, trivial⟩
set_option maxRecDepth 100000 in
theorem odd_2 (e : E) (a b n : Int) (hb : bE e) (h : 0 ≤ n ∧ n < 40) (hn : (b.tmod 40 + 40).tmod 40 = n) (hm : (a.tmod 15 + 15).tmod 15 = 2) : ∃ e', bE e' ∧ od e a b e' := by
  obtain ⟨r, hr, hr0⟩ : ∃ r : Int, r = n.tmod 4 ∧ 0 ≤ r ∧ r < 4 := ⟨_, rfl, by have := tmod_bound n (m := 4) (by omega); have := tmod_pos 4 (a := n) h.1; omega⟩
  obtain ⟨c, hc, hv⟩ := od2 r hr0
  refine ⟨{ e with student := c }, ⟨hb.school, hb.id, hb.day, hb.on, hb.course⟩, ?_⟩
  have hd := hb.day
  refine AFun.of_W T_ok mixed Tryz.func19 rfl (Nat.le_of_ble_eq_true rfl) rfl ?_
  have hM1 := Mod_f b 40 (by omega)
  have hM2 := Mod_f a 15 (by omega)
  rw [hn] at hM1
  rw [hm] at hM2
  ((repeat ((conv => whnf); (first | (refine LetN.pre ?_; first | ((conv => arg 1; whnf); refine LetN.mk ?_)) | (refine As.pre ?_; first | refine As.mk rfl ?_ | (refine As.mk ?_ ?_; · ((repeat' (refine andT ?_ ?_)) <;> (first | rfl | assumption | exact decide_eq_true (by omega) | exact decide_eq_true (by dsimp only; omega) | exact decide_eq_true (by simp; omega) | (simp; done))))) | (refine LetV.pre ?_; first | refine LetV.mk (t := 43) _ hv ?_ | refine LetV.mk (.sc (.int _ _)) rfl ?_ | refine LetV.mk (.agg _) rfl ?_) | (refine LetI.pre ?_; first | refine LetI.mk (o := some .rem) r hr ?_) | (refine LetB.pre ?_; first | refine LetB.tt rfl ?_ | refine LetB.ff rfl ?_) | (refine Br.pre ?_; first | refine Br.tt rfl ?_ | refine Br.ff rfl ?_) | (refine Ck.pre ?_; first | refine Ck.mk rfl ?_) | (refine LetL.pre ?_; first | refine LetL.mk (ty := ety) [.agg [_, _, _, _, _, _, _, _, _, _, _, _, _, _, _]] rfl ?_) | (refine CallN.pre ?_; first | refine CallN.pure hM1 rfl rfl ?_ | refine CallN.pure hM2 rfl rfl ?_)))); (try (conv => whnf)))





  exact ⟨.inl rfl, ⟨_, rfl, rfl⟩, trivial⟩
set_option maxRecDepth 100000 in
theorem odd_3 (e : E) (a b n : Int) (hb : bE e) (h : 0 ≤ n ∧ n < 40) (hn : (b.tmod 40 + 40).tmod 40 = n) (hm : (a.tmod 15 + 15).tmod 15 = 3) : ∃ e', bE e' ∧ od e a b e' := by
  obtain ⟨r, hr, hr0⟩ : ∃ r : Int, r = n.tmod 12 ∧ 0 ≤ r ∧ r < 12 := ⟨_, rfl, by have := tmod_bound n (m := 12) (by omega); have := tmod_pos 12 (a := n) h.1; omega⟩
  refine ⟨{ e with kind := r }, ⟨hb.school, hb.id, hb.day, hb.on, hb.course⟩, ?_⟩
  have hd := hb.day
  refine AFun.of_W T_ok mixed Tryz.func19 rfl (Nat.le_of_ble_eq_true rfl) rfl ?_
  have hM1 := Mod_f b 40 (by omega)
  have hM2 := Mod_f a 15 (by omega)
  rw [hn] at hM1
  rw [hm] at hM2
  ((repeat ((conv => whnf); (first | (refine LetN.pre ?_; first | ((conv => arg 1; whnf); refine LetN.mk ?_)) | (refine As.pre ?_; first | refine As.mk rfl ?_) | (refine LetV.pre ?_; first | refine LetV.mk (.sc (.int _ _)) rfl ?_ | refine LetV.mk (.agg _) rfl ?_) | (refine LetI.pre ?_; first | refine LetI.mk (o := some .rem) r hr ?_) | (refine LetB.pre ?_; first | refine LetB.tt rfl ?_ | refine LetB.ff rfl ?_) | (refine Br.pre ?_; first | refine Br.tt rfl ?_ | refine Br.ff rfl ?_) | (refine Ck.pre ?_; first | refine Ck.mk rfl ?_) | (refine LetL.pre ?_; first | refine LetL.mk (ty := ety) [.agg [_, _, _, _, _, _, _, _, _, _, _, _, _, _, _]] rfl ?_) | (refine CallN.pre ?_; first | refine CallN.pure hM1 rfl rfl ?_ | refine CallN.pure hM2 rfl rfl ?_)))); (try (conv => whnf)))




  exact ⟨.inl rfl, ⟨_, rfl, rfl⟩, trivial⟩
set_option maxRecDepth 100000 in
theorem odd_4 (e : E) (a b n : Int) (hb : bE e) (h : 0 ≤ n ∧ n < 40) (hn : (b.tmod 40 + 40).tmod 40 = n) (hm : (a.tmod 15 + 15).tmod 15 = 4) : ∃ e', bE e' ∧ od e a b e' := by
  obtain ⟨r, hr, hr0⟩ : ∃ r : Int, r = n.tmod 4 ∧ 0 ≤ r ∧ r < 4 := ⟨_, rfl, by have := tmod_bound n (m := 4) (by omega); have := tmod_pos 4 (a := n) h.1; omega⟩
  obtain ⟨c, hc, hv⟩ := od4 r hr0
  refine ⟨{ e with day := c }, ⟨hb.school, hb.id, by dsimp only; omega, hb.on, hb.course⟩, ?_⟩
  have hd := hb.day
  refine AFun.of_W T_ok mixed Tryz.func19 rfl (Nat.le_of_ble_eq_true rfl) rfl ?_
  have hM1 := Mod_f b 40 (by omega)
  have hM2 := Mod_f a 15 (by omega)
  rw [hn] at hM1
  rw [hm] at hM2
  ((repeat ((conv => whnf); (first | (refine LetN.pre ?_; first | ((conv => arg 1; whnf); refine LetN.mk ?_)) | (refine As.pre ?_; first | refine As.mk rfl ?_ | (refine As.mk ?_ ?_; · ((repeat' (refine andT ?_ ?_)) <;> (first | rfl | assumption | exact decide_eq_true (by omega) | exact decide_eq_true (by dsimp only; omega) | exact decide_eq_true (by simp; omega) | (simp; done))))) | (refine LetV.pre ?_; first | refine LetV.mk (t := 43) _ hv ?_ | refine LetV.mk (.sc (.int _ _)) rfl ?_ | refine LetV.mk (.agg _) rfl ?_) | (refine LetI.pre ?_; first | refine LetI.mk (o := some .rem) r hr ?_) | (refine LetB.pre ?_; first | refine LetB.tt rfl ?_ | refine LetB.ff rfl ?_) | (refine Br.pre ?_; first | refine Br.tt rfl ?_ | refine Br.ff rfl ?_) | (refine Ck.pre ?_; first | refine Ck.mk rfl ?_) | (refine LetL.pre ?_; first | refine LetL.mk (ty := ety) [.agg [_, _, _, _, _, _, _, _, _, _, _, _, _, _, _]] rfl ?_) | (refine CallN.pre ?_; first | refine CallN.pure hM1 rfl rfl ?_ | refine CallN.pure hM2 rfl rfl ?_)))); (try (conv => whnf)))





  exact ⟨.inl rfl, ⟨_, rfl, rfl⟩, trivial⟩
set_option maxRecDepth 100000 in
theorem odd_5 (e : E) (a b n : Int) (hb : bE e) (h : 0 ≤ n ∧ n < 40) (hn : (b.tmod 40 + 40).tmod 40 = n) (hm : (a.tmod 15 + 15).tmod 15 = 5) : ∃ e', bE e' ∧ od e a b e' := by
  obtain ⟨r, hr, hr0⟩ : ∃ r : Int, r = n.tmod 4 ∧ 0 ≤ r ∧ r < 4 := ⟨_, rfl, by have := tmod_bound n (m := 4) (by omega); have := tmod_pos 4 (a := n) h.1; omega⟩
  obtain ⟨c, hc, hv⟩ := od5 e.day r hr0 hb.day
  refine ⟨{ e with on_ := c }, ⟨hb.school, hb.id, hb.day, by dsimp only; omega, hb.course⟩, ?_⟩
  have hd := hb.day
  refine AFun.of_W T_ok mixed Tryz.func19 rfl (Nat.le_of_ble_eq_true rfl) rfl ?_
  have hM1 := Mod_f b 40 (by omega)
  have hM2 := Mod_f a 15 (by omega)
  rw [hn] at hM1
  rw [hm] at hM2
  ((repeat ((conv => whnf); (first | (refine LetN.pre ?_; first | ((conv => arg 1; whnf); refine LetN.mk ?_)) | (refine As.pre ?_; first | refine As.mk rfl ?_ | (refine As.mk ?_ ?_; · ((repeat' (refine andT ?_ ?_)) <;> (first | rfl | assumption | exact decide_eq_true (by omega) | exact decide_eq_true (by dsimp only; omega) | exact decide_eq_true (by simp; omega) | (simp; done))))) | (refine LetV.pre ?_; first | refine LetV.mk (t := 43) _ hv ?_ | refine LetV.mk (.sc (.int _ _)) rfl ?_ | refine LetV.mk (.agg _) rfl ?_) | (refine LetI.pre ?_; first | refine LetI.mk (o := some .rem) r hr ?_ | refine LetI.wrap (by omega) (by omega) ?_) | (refine LetB.pre ?_; first | refine LetB.tt rfl ?_ | refine LetB.ff rfl ?_) | (refine Br.pre ?_; first | refine Br.tt rfl ?_ | refine Br.ff rfl ?_) | (refine Ck.pre ?_; first | refine Ck.mk rfl ?_) | (refine LetL.pre ?_; first | refine LetL.mk (ty := ety) [.agg [_, _, _, _, _, _, _, _, _, _, _, _, _, _, _]] rfl ?_) | (refine CallN.pre ?_; first | refine CallN.pure hM1 rfl rfl ?_ | refine CallN.pure hM2 rfl rfl ?_)))); (try (conv => whnf)))





  exact ⟨.inl rfl, ⟨_, rfl, rfl⟩, trivial⟩
set_option maxRecDepth 100000 in
theorem odd_6 (e : E) (a b n : Int) (hb : bE e) (h : 0 ≤ n ∧ n < 40) (hn : (b.tmod 40 + 40).tmod 40 = n) (hm : (a.tmod 15 + 15).tmod 15 = 6) : ∃ e', bE e' ∧ od e a b e' := by
  obtain ⟨r, hr, hr0⟩ : ∃ r : Int, r = n.tmod 5 ∧ 0 ≤ r ∧ r < 5 := ⟨_, rfl, by have := tmod_bound n (m := 5) (by omega); have := tmod_pos 5 (a := n) h.1; omega⟩
  obtain ⟨c, hcs, hv⟩ := od6 r hr0
  refine ⟨{ e with course := c }, ⟨hb.school, hb.id, hb.day, hb.on, hcs⟩, ?_⟩
  have hd := hb.day
  refine AFun.of_W T_ok mixed Tryz.func19 rfl (Nat.le_of_ble_eq_true rfl) rfl ?_
  have hM1 := Mod_f b 40 (by omega)
  have hM2 := Mod_f a 15 (by omega)
  rw [hn] at hM1
  rw [hm] at hM2
  ((repeat ((conv => whnf); (first | (refine LetN.pre ?_; first | ((conv => arg 1; whnf); refine LetN.mk ?_)) | (refine As.pre ?_; first | refine As.mk rfl ?_ | (refine As.mk ?_ ?_; · ((repeat' (refine andT ?_ ?_)) <;> (first | rfl | assumption | exact decide_eq_true (by omega) | exact decide_eq_true (by dsimp only; omega) | exact decide_eq_true (by simp; omega) | (simp; done))))) | (refine LetV.pre ?_; first | refine LetV.mk (t := 71) _ hv ?_ | refine LetV.mk (.sc (.int _ _)) rfl ?_ | refine LetV.mk (.sc _) rfl ?_ | refine LetV.mk (.agg _) rfl ?_) | (refine LetI.pre ?_; first | refine LetI.mk (o := some .rem) r hr ?_) | (refine LetB.pre ?_; first | refine LetB.tt rfl ?_ | refine LetB.ff rfl ?_) | (refine Br.pre ?_; first | refine Br.tt rfl ?_ | refine Br.ff rfl ?_) | (refine Ck.pre ?_; first | refine Ck.mk rfl ?_) | (refine LetL.pre ?_; first | refine LetL.mk (ty := ety) [.agg [_, _, _, _, _, _, _, _, _, _, _, _, _, _, _]] rfl ?_) | (refine CallN.pre ?_; first | refine CallN.pure hM1 rfl rfl ?_ | refine CallN.pure hM2 rfl rfl ?_)))); (try (conv => whnf)))





  exact ⟨.inl rfl, ⟨_, rfl, rfl⟩, trivial⟩
set_option maxRecDepth 100000 in
theorem odd_7 (e : E) (a b n : Int) (hb : bE e) (h : 0 ≤ n ∧ n < 40) (hn : (b.tmod 40 + 40).tmod 40 = n) (hm : (a.tmod 15 + 15).tmod 15 = 7) : ∃ e', bE e' ∧ od e a b e' := by
  obtain ⟨r, hr, hr0⟩ : ∃ r : Int, r = n.tmod 4 ∧ 0 ≤ r ∧ r < 4 := ⟨_, rfl, by have := tmod_bound n (m := 4) (by omega); have := tmod_pos 4 (a := n) h.1; omega⟩
  obtain ⟨c, hc, hv⟩ := od7 r hr0
  refine ⟨{ e with credits := c }, ⟨hb.school, hb.id, hb.day, hb.on, hb.course⟩, ?_⟩
  have hd := hb.day
  refine AFun.of_W T_ok mixed Tryz.func19 rfl (Nat.le_of_ble_eq_true rfl) rfl ?_
  have hM1 := Mod_f b 40 (by omega)
  have hM2 := Mod_f a 15 (by omega)
  rw [hn] at hM1
  rw [hm] at hM2
  ((repeat ((conv => whnf); (first | (refine LetN.pre ?_; first | ((conv => arg 1; whnf); refine LetN.mk ?_)) | (refine As.pre ?_; first | refine As.mk rfl ?_ | (refine As.mk ?_ ?_; · ((repeat' (refine andT ?_ ?_)) <;> (first | rfl | assumption | exact decide_eq_true (by omega) | exact decide_eq_true (by dsimp only; omega) | exact decide_eq_true (by simp; omega) | (simp; done))))) | (refine LetV.pre ?_; first | refine LetV.mk (t := 43) _ hv ?_ | refine LetV.mk (.sc (.int _ _)) rfl ?_ | refine LetV.mk (.agg _) rfl ?_) | (refine LetI.pre ?_; first | refine LetI.mk (o := some .rem) r hr ?_) | (refine LetB.pre ?_; first | refine LetB.tt rfl ?_ | refine LetB.ff rfl ?_) | (refine Br.pre ?_; first | refine Br.tt rfl ?_ | refine Br.ff rfl ?_) | (refine Ck.pre ?_; first | refine Ck.mk rfl ?_) | (refine LetL.pre ?_; first | refine LetL.mk (ty := ety) [.agg [_, _, _, _, _, _, _, _, _, _, _, _, _, _, _]] rfl ?_) | (refine CallN.pre ?_; first | refine CallN.pure hM1 rfl rfl ?_ | refine CallN.pure hM2 rfl rfl ?_)))); (try (conv => whnf)))





  exact ⟨.inl rfl, ⟨_, rfl, rfl⟩, trivial⟩
set_option maxRecDepth 100000 in
theorem odd_8 (e : E) (a b n : Int) (hb : bE e) (h : 0 ≤ n ∧ n < 40) (hn : (b.tmod 40 + 40).tmod 40 = n) (hm : (a.tmod 15 + 15).tmod 15 = 8) : ∃ e', bE e' ∧ od e a b e' := by
  obtain ⟨r, hr, hr0⟩ : ∃ r : Int, r = n.tmod 6 ∧ 0 ≤ r ∧ r < 6 := ⟨_, rfl, by have := tmod_bound n (m := 6) (by omega); have := tmod_pos 6 (a := n) h.1; omega⟩
  obtain ⟨c, hc, hv⟩ := od8 n r hr0 h
  refine ⟨{ e with grade := c }, ⟨hb.school, hb.id, hb.day, hb.on, hb.course⟩, ?_⟩
  have hd := hb.day
  refine AFun.of_W T_ok mixed Tryz.func19 rfl (Nat.le_of_ble_eq_true rfl) rfl ?_
  have hM1 := Mod_f b 40 (by omega)
  have hM2 := Mod_f a 15 (by omega)
  rw [hn] at hM1
  rw [hm] at hM2
  ((repeat ((conv => whnf); (first | (refine LetN.pre ?_; first | ((conv => arg 1; whnf); refine LetN.mk ?_)) | (refine As.pre ?_; first | refine As.mk rfl ?_ | (refine As.mk ?_ ?_; · ((repeat' (refine andT ?_ ?_)) <;> (first | rfl | assumption | exact decide_eq_true (by omega) | exact decide_eq_true (by dsimp only; omega) | exact decide_eq_true (by simp; omega) | (simp; done))))) | (refine LetV.pre ?_; first | refine LetV.mk (t := 43) _ hv ?_ | refine LetV.mk (.sc (.int _ _)) rfl ?_ | refine LetV.mk (.agg _) rfl ?_) | (refine LetI.pre ?_; first | refine LetI.mk (o := some .rem) r hr ?_ | refine LetI.wrap (by omega) (by omega) ?_) | (refine LetB.pre ?_; first | refine LetB.tt rfl ?_ | refine LetB.ff rfl ?_) | (refine Br.pre ?_; first | refine Br.tt rfl ?_ | refine Br.ff rfl ?_) | (refine Ck.pre ?_; first | refine Ck.mk rfl ?_) | (refine LetL.pre ?_; first | refine LetL.mk (ty := ety) [.agg [_, _, _, _, _, _, _, _, _, _, _, _, _, _, _]] rfl ?_) | (refine CallN.pre ?_; first | refine CallN.pure hM1 rfl rfl ?_ | refine CallN.pure hM2 rfl rfl ?_)))); (try (conv => whnf)))





  exact ⟨.inl rfl, ⟨_, rfl, rfl⟩, trivial⟩
set_option maxRecDepth 100000 in
theorem odd_9 (e : E) (a b n : Int) (hb : bE e) (h : 0 ≤ n ∧ n < 40) (hn : (b.tmod 40 + 40).tmod 40 = n) (hm : (a.tmod 15 + 15).tmod 15 = 9) : ∃ e', bE e' ∧ od e a b e' := by
  obtain ⟨r, hr, hr0⟩ : ∃ r : Int, r = n.tmod 6 ∧ 0 ≤ r ∧ r < 6 := ⟨_, rfl, by have := tmod_bound n (m := 6) (by omega); have := tmod_pos 6 (a := n) h.1; omega⟩
  obtain ⟨c, hv⟩ := od9 e.id n r hr0
  refine ⟨{ e with ref := c }, ⟨hb.school, hb.id, hb.day, hb.on, hb.course⟩, ?_⟩
  have hd := hb.day
  refine AFun.of_W T_ok mixed Tryz.func19 rfl (Nat.le_of_ble_eq_true rfl) rfl ?_
  have hM1 := Mod_f b 40 (by omega)
  have hM2 := Mod_f a 15 (by omega)
  rw [hn] at hM1
  rw [hm] at hM2
  ((repeat ((conv => whnf); (first | (refine LetN.pre ?_; first | ((conv => arg 1; whnf); refine LetN.mk ?_)) | (refine As.pre ?_; first | refine As.mk rfl ?_ | (refine As.mk ?_ ?_; · ((repeat' (refine andT ?_ ?_)) <;> (first | rfl | assumption | exact decide_eq_true (by omega) | exact decide_eq_true (by dsimp only; omega) | exact decide_eq_true (by simp; omega) | (simp; done))))) | (refine LetV.pre ?_; first | refine LetV.mk (t := 43) _ hv ?_ | refine LetV.mk (.sc (.int _ _)) rfl ?_ | refine LetV.mk (.agg _) rfl ?_) | (refine LetI.pre ?_; first | refine LetI.mk (o := some .rem) r hr ?_) | (refine LetB.pre ?_; first | refine LetB.tt rfl ?_ | refine LetB.ff rfl ?_) | (refine Br.pre ?_; first | refine Br.tt rfl ?_ | refine Br.ff rfl ?_) | (refine Ck.pre ?_; first | refine Ck.mk rfl ?_) | (refine LetL.pre ?_; first | refine LetL.mk (ty := ety) [.agg [_, _, _, _, _, _, _, _, _, _, _, _, _, _, _]] rfl ?_) | (refine CallN.pre ?_; first | refine CallN.pure hM1 rfl rfl ?_ | refine CallN.pure hM2 rfl rfl ?_)))); (try (conv => whnf)))





  exact ⟨.inl rfl, ⟨_, rfl, rfl⟩, trivial⟩
set_option maxRecDepth 100000 in
theorem odd_10 (e : E) (a b n : Int) (hb : bE e) (h : 0 ≤ n ∧ n < 40) (hn : (b.tmod 40 + 40).tmod 40 = n) (hm : (a.tmod 15 + 15).tmod 15 = 10) : ∃ e', bE e' ∧ od e a b e' := by
  obtain ⟨r, hr, hr0⟩ : ∃ r : Int, r = n.tmod 10 ∧ 0 ≤ r ∧ r < 10 := ⟨_, rfl, by have := tmod_bound n (m := 10) (by omega); have := tmod_pos 10 (a := n) h.1; omega⟩
  refine ⟨{ e with frm := r }, ⟨hb.school, hb.id, hb.day, hb.on, hb.course⟩, ?_⟩
  have hd := hb.day
  refine AFun.of_W T_ok mixed Tryz.func19 rfl (Nat.le_of_ble_eq_true rfl) rfl ?_
  have hM1 := Mod_f b 40 (by omega)
  have hM2 := Mod_f a 15 (by omega)
  rw [hn] at hM1
  rw [hm] at hM2
  ((repeat ((conv => whnf); (first | (refine LetN.pre ?_; first | ((conv => arg 1; whnf); refine LetN.mk ?_)) | (refine As.pre ?_; first | refine As.mk rfl ?_) | (refine LetV.pre ?_; first | refine LetV.mk (.sc (.int _ _)) rfl ?_ | refine LetV.mk (.agg _) rfl ?_) | (refine LetI.pre ?_; first | refine LetI.mk (o := some .rem) r hr ?_) | (refine LetB.pre ?_; first | refine LetB.tt rfl ?_ | refine LetB.ff rfl ?_) | (refine Br.pre ?_; first | refine Br.tt rfl ?_ | refine Br.ff rfl ?_) | (refine Ck.pre ?_; first | refine Ck.mk rfl ?_) | (refine LetL.pre ?_; first | refine LetL.mk (ty := ety) [.agg [_, _, _, _, _, _, _, _, _, _, _, _, _, _, _]] rfl ?_) | (refine CallN.pre ?_; first | refine CallN.pure hM1 rfl rfl ?_ | refine CallN.pure hM2 rfl rfl ?_)))); (try (conv => whnf)))




  exact ⟨.inl rfl, ⟨_, rfl, rfl⟩, trivial⟩
set_option maxRecDepth 100000 in
theorem odd_11 (e : E) (a b n : Int) (hb : bE e) (h : 0 ≤ n ∧ n < 40) (hn : (b.tmod 40 + 40).tmod 40 = n) (hm : (a.tmod 15 + 15).tmod 15 = 11) : ∃ e', bE e' ∧ od e a b e' := by
  obtain ⟨r, hr, hr0⟩ : ∃ r : Int, r = n.tmod 4 ∧ 0 ≤ r ∧ r < 4 := ⟨_, rfl, by have := tmod_bound n (m := 4) (by omega); have := tmod_pos 4 (a := n) h.1; omega⟩
  refine ⟨{ e with programme := r - 1 }, ⟨hb.school, hb.id, hb.day, hb.on, hb.course⟩, ?_⟩
  have hd := hb.day
  refine AFun.of_W T_ok mixed Tryz.func19 rfl (Nat.le_of_ble_eq_true rfl) rfl ?_
  have hM1 := Mod_f b 40 (by omega)
  have hM2 := Mod_f a 15 (by omega)
  rw [hn] at hM1
  rw [hm] at hM2
  ((repeat ((conv => whnf); (first | (refine LetN.pre ?_; first | ((conv => arg 1; whnf); refine LetN.mk ?_)) | (refine As.pre ?_; first | refine As.mk rfl ?_) | (refine LetV.pre ?_; first | refine LetV.mk (.sc (.int _ _)) rfl ?_ | refine LetV.mk (.agg _) rfl ?_) | (refine LetI.pre ?_; first | refine LetI.mk (o := some .rem) r hr ?_ | refine LetI.wrap (by omega) (by omega) ?_) | (refine LetB.pre ?_; first | refine LetB.tt rfl ?_ | refine LetB.ff rfl ?_) | (refine Br.pre ?_; first | refine Br.tt rfl ?_ | refine Br.ff rfl ?_) | (refine Ck.pre ?_; first | refine Ck.mk rfl ?_) | (refine LetL.pre ?_; first | refine LetL.mk (ty := ety) [.agg [_, _, _, _, _, _, _, _, _, _, _, _, _, _, _]] rfl ?_) | (refine CallN.pre ?_; first | refine CallN.pure hM1 rfl rfl ?_ | refine CallN.pure hM2 rfl rfl ?_)))); (try (conv => whnf)))




  exact ⟨.inl rfl, ⟨_, rfl, rfl⟩, trivial⟩
set_option maxRecDepth 100000 in
theorem odd_12 (e : E) (a b n : Int) (hb : bE e) (h : 0 ≤ n ∧ n < 40) (hn : (b.tmod 40 + 40).tmod 40 = n) (hm : (a.tmod 15 + 15).tmod 15 = 12) : ∃ e', bE e' ∧ od e a b e' := by
  obtain ⟨r, hr, hr0⟩ : ∃ r : Int, r = n.tmod 4 ∧ 0 ≤ r ∧ r < 4 := ⟨_, rfl, by have := tmod_bound n (m := 4) (by omega); have := tmod_pos 4 (a := n) h.1; omega⟩
  refine ⟨{ e with version := r - 1 }, ⟨hb.school, hb.id, hb.day, hb.on, hb.course⟩, ?_⟩
  have hd := hb.day
  refine AFun.of_W T_ok mixed Tryz.func19 rfl (Nat.le_of_ble_eq_true rfl) rfl ?_
  have hM1 := Mod_f b 40 (by omega)
  have hM2 := Mod_f a 15 (by omega)
  rw [hn] at hM1
  rw [hm] at hM2
  ((repeat ((conv => whnf); (first | (refine LetN.pre ?_; first | ((conv => arg 1; whnf); refine LetN.mk ?_)) | (refine As.pre ?_; first | refine As.mk rfl ?_) | (refine LetV.pre ?_; first | refine LetV.mk (.sc (.int _ _)) rfl ?_ | refine LetV.mk (.agg _) rfl ?_) | (refine LetI.pre ?_; first | refine LetI.mk (o := some .rem) r hr ?_ | refine LetI.wrap (by omega) (by omega) ?_) | (refine LetB.pre ?_; first | refine LetB.tt rfl ?_ | refine LetB.ff rfl ?_) | (refine Br.pre ?_; first | refine Br.tt rfl ?_ | refine Br.ff rfl ?_) | (refine Ck.pre ?_; first | refine Ck.mk rfl ?_) | (refine LetL.pre ?_; first | refine LetL.mk (ty := ety) [.agg [_, _, _, _, _, _, _, _, _, _, _, _, _, _, _]] rfl ?_) | (refine CallN.pre ?_; first | refine CallN.pure hM1 rfl rfl ?_ | refine CallN.pure hM2 rfl rfl ?_)))); (try (conv => whnf)))




  exact ⟨.inl rfl, ⟨_, rfl, rfl⟩, trivial⟩
set_option maxRecDepth 100000 in
theorem odd_13 (e : E) (a b n : Int) (hb : bE e) (h : 0 ≤ n ∧ n < 40) (hn : (b.tmod 40 + 40).tmod 40 = n) (hm : (a.tmod 15 + 15).tmod 15 = 13) : ∃ e', bE e' ∧ od e a b e' := by
  refine ⟨{ e with key := n - 3 }, ⟨hb.school, hb.id, hb.day, hb.on, hb.course⟩, ?_⟩
  have hd := hb.day
  refine AFun.of_W T_ok mixed Tryz.func19 rfl (Nat.le_of_ble_eq_true rfl) rfl ?_
  have hM1 := Mod_f b 40 (by omega)
  have hM2 := Mod_f a 15 (by omega)
  rw [hn] at hM1
  rw [hm] at hM2
  ((repeat ((conv => whnf); (first | (refine LetN.pre ?_; first | ((conv => arg 1; whnf); refine LetN.mk ?_)) | (refine As.pre ?_; first | refine As.mk rfl ?_) | (refine LetV.pre ?_; first | refine LetV.mk (.sc (.int _ _)) rfl ?_ | refine LetV.mk (.agg _) rfl ?_) | (refine LetI.pre ?_; first | refine LetI.wrap (by omega) (by omega) ?_) | (refine LetB.pre ?_; first | refine LetB.tt rfl ?_ | refine LetB.ff rfl ?_) | (refine Br.pre ?_; first | refine Br.tt rfl ?_ | refine Br.ff rfl ?_) | (refine Ck.pre ?_; first | refine Ck.mk rfl ?_) | (refine LetL.pre ?_; first | refine LetL.mk (ty := ety) [.agg [_, _, _, _, _, _, _, _, _, _, _, _, _, _, _]] rfl ?_) | (refine CallN.pre ?_; first | refine CallN.pure hM1 rfl rfl ?_ | refine CallN.pure hM2 rfl rfl ?_)))); (try (conv => whnf)))



  exact ⟨.inl rfl, ⟨_, rfl, rfl⟩, trivial⟩
set_option maxRecDepth 100000 in
theorem odd_14 (e : E) (a b n : Int) (hb : bE e) (h : 0 ≤ n ∧ n < 40) (hn : (b.tmod 40 + 40).tmod 40 = n) (hm : (a.tmod 15 + 15).tmod 15 = 14) : ∃ e', bE e' ∧ od e a b e' := by
  obtain ⟨r, hr, hr0⟩ : ∃ r : Int, r = n.tmod 4 ∧ 0 ≤ r ∧ r < 4 := ⟨_, rfl, by have := tmod_bound n (m := 4) (by omega); have := tmod_pos 4 (a := n) h.1; omega⟩
  obtain ⟨c, hv⟩ := od14 r hr0
  refine ⟨{ e with mark := c }, ⟨hb.school, hb.id, hb.day, hb.on, hb.course⟩, ?_⟩
  have hd := hb.day
  refine AFun.of_W T_ok mixed Tryz.func19 rfl (Nat.le_of_ble_eq_true rfl) rfl ?_
  have hM1 := Mod_f b 40 (by omega)
  have hM2 := Mod_f a 15 (by omega)
  rw [hn] at hM1
  rw [hm] at hM2
  ((repeat ((conv => whnf); (first | (refine LetN.pre ?_; first | ((conv => arg 1; whnf); refine LetN.mk ?_)) | (refine As.pre ?_; first | refine As.mk rfl ?_ | (refine As.mk ?_ ?_; · ((repeat' (refine andT ?_ ?_)) <;> (first | rfl | assumption | exact decide_eq_true (by omega) | exact decide_eq_true (by dsimp only; omega) | exact decide_eq_true (by simp; omega) | (simp; done))))) | (refine LetV.pre ?_; first | refine LetV.mk (t := 71) _ hv ?_ | refine LetV.mk (.sc (.int _ _)) rfl ?_ | refine LetV.mk (.sc _) rfl ?_ | refine LetV.mk (.agg _) rfl ?_) | (refine LetI.pre ?_; first | refine LetI.mk (o := some .rem) r hr ?_) | (refine LetB.pre ?_; first | refine LetB.tt rfl ?_ | refine LetB.ff rfl ?_) | (refine Br.pre ?_; first | refine Br.tt rfl ?_ | refine Br.ff rfl ?_) | (refine Ck.pre ?_; first | refine Ck.mk rfl ?_) | (refine LetL.pre ?_; first | refine LetL.mk (ty := ety) [.agg [_, _, _, _, _, _, _, _, _, _, _, _, _, _, _]] rfl ?_) | (refine CallN.pre ?_; first | refine CallN.pure hM1 rfl rfl ?_ | refine CallN.pure hM2 rfl rfl ?_)))); (try (conv => whnf)))





  exact ⟨.inl rfl, ⟨_, rfl, rfl⟩, trivial⟩
theorem Odd10_f (e : E) (a b : Int) (hb : bE e) : ∃ e', bE e' ∧ od e a b e' := by
  have b1 := tmod_bound b (m := 40) (by omega)
  have p1 := tmod_pos 40 (a := b.tmod 40 + 40) (by omega)
  have b2 := tmod_bound a (m := 15) (by omega)
  have p2 := tmod_pos 15 (a := a.tmod 15 + 15) (by omega)
  have b3 := tmod_bound (b.tmod 40 + 40) (m := 40) (by omega)
  have b4 := tmod_bound (a.tmod 15 + 15) (m := 15) (by omega)
  obtain ⟨m, hm⟩ : ∃ m : Int, m = (a.tmod 15 + 15).tmod 15 := ⟨_, rfl⟩
  have hn : 0 ≤ (b.tmod 40 + 40).tmod 40 ∧ (b.tmod 40 + 40).tmod 40 < 40 := by omega
  have : m = 0 ∨ m = 1 ∨ m = 2 ∨ m = 3 ∨ m = 4 ∨ m = 5 ∨ m = 6 ∨ m = 7 ∨ m = 8 ∨ m = 9 ∨ m = 10 ∨ m = 11 ∨ m = 12 ∨ m = 13 ∨ m = 14 := by omega
  rcases this with rfl | rfl | rfl | rfl | rfl | rfl | rfl | rfl | rfl | rfl | rfl | rfl | rfl | rfl | rfl
  · exact odd_0 e a b _ hb hn rfl hm.symm
  · exact odd_1 e a b _ hb hn rfl hm.symm
  · exact odd_2 e a b _ hb hn rfl hm.symm
  · exact odd_3 e a b _ hb hn rfl hm.symm
  · exact odd_4 e a b _ hb hn rfl hm.symm
  · exact odd_5 e a b _ hb hn rfl hm.symm
  · exact odd_6 e a b _ hb hn rfl hm.symm
  · exact odd_7 e a b _ hb hn rfl hm.symm
  · exact odd_8 e a b _ hb hn rfl hm.symm
  · exact odd_9 e a b _ hb hn rfl hm.symm
  · exact odd_10 e a b _ hb hn rfl hm.symm
  · exact odd_11 e a b _ hb hn rfl hm.symm
  · exact odd_12 e a b _ hb hn rfl hm.symm
  · exact odd_13 e a b _ hb hn rfl hm.symm
  · exact odd_14 e a b _ hb hn rfl hm.symm
end En
end Go.Proofs.YtgnakhljdjekbaaGreatDoor
namespace Go.Proofs.YtgnakhljdjekbaaGreatDoor
open Go.Proofs.YtgnakhljdjekbaaGreatDoor.Am
set_option maxRecDepth 100000
namespace En
/-! ### The reference's May; Reach of both -/
theorem row_app (l : List E) (x : E) : List.take (0 + (l.map en).length) (l.map en) ++ [en x] = (l ++ [x]).map en := by
  rw [List.take_of_length_le (by omega), List.map_append]; rfl
theorem stor0 (l : List E) : storables (l.map en) = true := by
  have := stor_en l 0 (l.map en).length
  rwa [List.drop_zero, List.take_length] at this
theorem any_at (p : E → Bool) {l : List E} {k : Nat} (h : k < l.length) : (l.drop k).any p = (p (l.getD k e0) || (l.drop (k + 1)).any p) := by
  rw [List.drop_eq_getElem_cons h, List.any_cons, List.getD_eq_getElem?_getD, List.getElem?_eq_getElem h]; rfl
abbrev pSame (e x : E) : Bool := decide (x.kind = e.kind ∧ x.ref = e.ref)
abbrev rmS (l : List E) (fl : Fl) (e : E) (k : Nat) : AS := ⟨[(0, .ro fl 15 (l.map en)), (3, .ptr 0 15 0 0), (6, int k)], [(0, .row 15 ety [en e])], 1⟩
set_option maxHeartbeats 3200000 in
set_option maxRecDepth 100000 in
theorem rMay_f (l : List E) (e : E) (fl : Fl) (hl : l.length ≤ 1000) (hs : ∀ x ∈ l, x.course.size ≤ 9223372036854775806) (hse : e.course.size ≤ 9223372036854775806) : AFun Tryz.prog 23 0 [.ro fl 15 (l.map en), en e] [] (int (mayP l e)) [] := by
  refine AFun.of_S T_ok mixed Tryz.func23 rfl (Nat.le_of_ble_eq_true rfl) rfl ?_
  have hm : (l.map en).length = l.length := List.length_map _
  have hC := rCheck_l l fl hs
  have hD := fun fl' => rCheck_l (l ++ [e]) fl' fun x hx => by
    rcases List.mem_append.1 hx with g | g
    · exact hs x g
    · rw [List.mem_singleton.1 g]; exact hse
  have hs0 := stor0 l
  have r1 := room_en (n := l.length + 1) (by omega)
  have r2 : room (0 + (l.map en).length) 136 = true := room_en (by omega)
  have r3 : room (0 + (l.map en).length + 1) 136 = true := room_en (by omega)
  have n1 := pure_en (l ++ [e])
  have hrow : (l ++ [e]).map en = List.take (0 + (l.map en).length) (l.map en) ++ [en e] := (row_app l e).symm
  have m1 : 0 + (l.map en).length + 1 = ((l ++ [e]).map en).length := by simp
  clear hs hse
  unfold mayP
  generalize chkE l = c at hC ⊢
  by_cases hc : c = 0
  case neg =>
    rw [if_pos hc]
    ((repeat ((conv => whnf); (first | (refine LetN.pre ?_; first | ((conv => arg 1; whnf); refine LetN.mk ?_)) | (refine As.pre ?_; first | refine As.mk rfl ?_) | (refine LetB.pre ?_; first | refine LetB.bnet (by omega) ?_) | (refine Br.pre ?_; first | refine Br.tt rfl ?_) | (refine Ck.pre ?_; first | refine Ck.mk rfl ?_) | (refine CallN.pre ?_; first | refine CallN.pure hC rfl rfl ?_)))); (try (conv => whnf)))
    exact ⟨_, SW.refl, .inl rfl, ⟨_, rfl, rfl⟩, trivial⟩
  subst hc
  rw [if_neg (fun h => h rfl)]
  generalize chkE (l ++ [e]) = d at hD ⊢
  by_cases hd : d = 0
  case neg =>
    rw [if_pos hd]
    ((repeat ((conv => whnf); (first | (refine LetN.pre ?_; first | ((conv => arg 1; whnf); refine LetN.mk ?_)) | (refine As.pre ?_; first | refine As.mk rfl ?_ | (refine As.mk ?_ ?_; · ((repeat' (refine andT ?_ ?_)) <;> (first | rfl | assumption | exact decide_eq_true (by omega) | exact decide_eq_true (by dsimp only; omega) | exact decide_eq_true (by simp; omega) | (simp; done))))) | (refine LetV.pre ?_; first | refine LetV.mk (.agg _) rfl ?_) | (refine LetB.pre ?_; first | refine LetB.ff rfl ?_ | refine LetB.bnet (by omega) ?_) | (refine Br.pre ?_; first | refine Br.tt rfl ?_ | refine Br.ff rfl ?_) | (refine Ck.pre ?_; first | refine Ck.drawn (by kernel_rfl) ?_ | refine Ck.mk rfl ?_) | (refine LetL.pre ?_; first | refine LetL.mk (ty := 25) _ hrow ?_ | refine LetL.mk _ rfl ?_) | (refine CallN.pre ?_; first | refine CallN.pure hC rfl rfl ?_ | refine CallN.lend (hD _) rfl (.full rfl n1 m1 .nil) ?_)))); (try (conv => whnf)))



    exact ⟨_, SW.refl, .inl rfl, ⟨_, rfl, rfl⟩, trivial⟩
  subst hd
  rw [if_neg (fun h => h rfl)]
  by_cases hk : e.kind = 6 ∨ e.kind = 9
  case neg =>
    rw [if_neg (fun h => hk h.1)]
    have k6 : ¬ e.kind = 6 := fun h => hk (.inl h)
    have k9 : ¬ e.kind = 9 := fun h => hk (.inr h)
    clear hk
    ((repeat ((conv => whnf); (first | (refine LetN.pre ?_; first | ((conv => arg 1; whnf); refine LetN.mk ?_)) | (refine As.pre ?_; first | refine As.mk rfl ?_ | (refine As.mk ?_ ?_; · ((repeat' (refine andT ?_ ?_)) <;> (first | rfl | assumption | exact decide_eq_true (by omega) | exact decide_eq_true (by dsimp only; omega) | exact decide_eq_true (by simp; omega) | (simp; done))))) | (refine LetV.pre ?_; first | refine LetV.mk (.sc (.int _ _)) rfl ?_ | refine LetV.mk (.agg _) rfl ?_) | (refine LetB.pre ?_; first | refine LetB.ff rfl ?_ | refine LetB.bnet (by omega) ?_) | (refine Gd.pre ?_; first | refine Gd.run rfl ?_) | (refine Br.pre ?_; first | refine Br.tt rfl ?_ | refine Br.ff rfl ?_) | (refine Ck.pre ?_; first | refine Ck.drawn (by kernel_rfl) ?_ | refine Ck.mk rfl ?_) | (refine LetL.pre ?_; first | refine LetL.mk (ty := 25) _ hrow ?_ | refine LetL.mk _ rfl ?_) | (refine CallN.pre ?_; first | refine CallN.pure hC rfl rfl ?_ | refine CallN.lend (hD _) rfl (.full rfl n1 m1 .nil) ?_)))); (try (conv => whnf)))



    exact ⟨_, SW.refl, .inl rfl, ⟨_, rfl, rfl⟩, trivial⟩
  obtain ⟨R, hR⟩ : ∃ R : Int, R = if l.any (pSame e) = true then 6 else 0 := ⟨_, rfl⟩
  have hR0 : (if (e.kind = 6 ∨ e.kind = 9) ∧ l.any (pSame e) = true then (6 : Int) else 0) = R := by
    rw [hR]
    by_cases hx : l.any (pSame e) = true
    · rw [if_pos ⟨hk, hx⟩, if_pos hx]
    · rw [if_neg (fun h => hx h.2), if_neg hx]
  rw [hR0]
  clear hR0
  by_cases k6 : e.kind = 6
  case' neg => have k9 : e.kind = 9 := hk.resolve_left k6
  all_goals
    clear hk
    ((repeat ((conv => whnf); (first | (refine LetN.pre ?_; first | ((conv => arg 1; whnf); refine LetN.mk ?_)) | (refine As.pre ?_; first | refine As.mk rfl ?_ | (refine As.mk ?_ ?_; · ((repeat' (refine andT ?_ ?_)) <;> (first | rfl | assumption | exact decide_eq_true (by omega) | exact decide_eq_true (by dsimp only; omega) | exact decide_eq_true (by simp; omega) | (simp; done))))) | (refine LetV.pre ?_; first | refine LetV.mk (.sc (.int _ _)) rfl ?_ | refine LetV.mk (.agg _) rfl ?_) | (refine LetB.pre ?_; first | refine LetB.ff rfl ?_ | refine LetB.bnet (by omega) ?_ | refine LetB.bnef (by omega) ?_) | (refine Gd.pre ?_; first | refine Gd.run rfl ?_ | refine Gd.pass rfl ?_) | (refine Br.pre ?_; first | refine Br.ff rfl ?_) | (refine Ck.pre ?_; first | refine Ck.drawn (by kernel_rfl) ?_ | refine Ck.mk rfl ?_) | (refine LetL.pre ?_; first | refine LetL.mk (ty := 25) _ hrow ?_ | refine LetL.mk _ rfl ?_) | (refine CallN.pre ?_; first | refine CallN.pure hC rfl rfl ?_ | refine CallN.lend (hD _) rfl (.full rfl n1 m1 .nil) ?_)))); (try (conv => whnf)))



    clear hC hD hrow n1 m1 r1 r2 r3 hs0
    refine LoopN.weak (s1 := rmS l fl e 0) (SW.mk id rfl rfl rfl ⟨.refl _, .refl _, .refl _, trivial⟩ (haveV.one rfl trivial)) ?_
    refine LoopN.ind T_ok mixed (S := rmS l fl e) (fun k => l.length - k) (fun k => k ≤ l.length ∧ R = if (l.drop k).any (pSame e) = true then 6 else 0) (fun _ => rfl) (fun k hk ih => ?_) 0 ⟨Nat.zero_le _, hR⟩
    obtain ⟨h1, h2⟩ := hk
    by_cases hlt : k < l.length
    case' neg =>
      rw [List.drop_eq_nil_of_le (by omega)] at h2
      replace h2 : R = 0 := h2
      subst h2
      clear ih hR
      ((repeat ((conv => whnf); (first | (refine As.pre ?_; first | refine As.mk rfl ?_) | (refine LetI.pre ?_; first | refine LetI.mk _ rfl ?_) | (refine LetB.pre ?_; first | refine LetB.decf (by omega) ?_) | (refine Br.pre ?_; first | refine Br.ff rfl ?_) | (refine Ck.pre ?_; first | refine Ck.mk rfl ?_)))); (try (conv => whnf)))
      exact ⟨_, SW.refl, .inl rfl, ⟨_, rfl, rfl⟩, trivial⟩
    have hld := ld_en hlt
    rw [any_at (pSame e) hlt] at h2
    have hnx := fun g => ih (k + 1) ⟨hlt, g⟩ (by omega)
    clear ih hR
    generalize l.getD k e0 = x at hld h2
    by_cases c1 : x.kind = e.kind
    case' neg =>
      rw [show pSame e x = false from decide_eq_false (fun h => c1 h.1), Bool.false_or] at h2
      replace hnx := hnx h2
      clear h2
      ((repeat ((conv => whnf); (first | (refine As.pre ?_; first | refine As.mk rfl ?_ | (refine As.mk ?_ ?_; · ((repeat' (refine andT ?_ ?_)) <;> (first | rfl | assumption | exact decide_eq_true (by omega) | exact decide_eq_true (by dsimp only; omega) | exact decide_eq_true (by simp; omega) | (simp; done))))) | (refine LetV.pre ?_; first | refine LetV.mk (t := 33) _ hld ?_ | refine LetV.mk (.sc (.int _ _)) rfl ?_) | (refine LetI.pre ?_; first | refine LetI.wrap (by omega) (by omega) ?_ | refine LetI.mk _ rfl ?_) | (refine LetB.pre ?_; first | refine LetB.dect (by omega) ?_ | refine LetB.decf (by omega) ?_) | (refine Gd.pre ?_; first | refine Gd.pass rfl ?_) | (refine Br.pre ?_; first | refine Br.tt rfl ?_ | refine Br.ff rfl ?_) | (refine Ck.pre ?_; first | refine Ck.drawn (by kernel_rfl) ?_ | refine Ck.mk rfl ?_)))); (try (conv => whnf)))
      refine LoopN.weak ?_ hnx
      exact SW.mk id rfl rfl rfl ⟨.refl _, .refl _, VLe2.int (by omega), trivial⟩ (haveV.one rfl trivial)
    by_cases c2 : x.ref = e.ref
    case' neg =>
      rw [show pSame e x = false from decide_eq_false (fun h => c2 h.2), Bool.false_or] at h2
      replace hnx := hnx h2
      clear h2
      ((repeat ((conv => whnf); (first | (refine As.pre ?_; first | refine As.mk rfl ?_ | (refine As.mk ?_ ?_; · ((repeat' (refine andT ?_ ?_)) <;> (first | rfl | assumption | exact decide_eq_true (by omega) | exact decide_eq_true (by dsimp only; omega) | exact decide_eq_true (by simp; omega) | (simp; done))))) | (refine LetV.pre ?_; first | refine LetV.mk (t := 33) _ hld ?_ | refine LetV.mk (.sc (.int _ _)) rfl ?_) | (refine LetI.pre ?_; first | refine LetI.wrap (by omega) (by omega) ?_ | refine LetI.mk _ rfl ?_) | (refine LetB.pre ?_; first | refine LetB.dect (by omega) ?_ | refine LetB.decf (by omega) ?_) | (refine Gd.pre ?_; first | refine Gd.run rfl ?_) | (refine Br.pre ?_; first | refine Br.tt rfl ?_ | refine Br.ff rfl ?_) | (refine Ck.pre ?_; first | refine Ck.drawn (by kernel_rfl) ?_ | refine Ck.mk rfl ?_)))); (try (conv => whnf)))
      refine LoopN.weak ?_ hnx
      exact SW.mk id rfl rfl rfl ⟨.refl _, .refl _, VLe2.int (by omega), trivial⟩ (haveV.one rfl trivial)
    rw [show pSame e x = true from decide_eq_true ⟨c1, c2⟩, Bool.true_or] at h2
    replace h2 : R = 6 := h2
    subst h2
    clear hnx
    ((repeat ((conv => whnf); (first | (refine As.pre ?_; first | refine As.mk rfl ?_ | (refine As.mk ?_ ?_; · ((repeat' (refine andT ?_ ?_)) <;> (first | rfl | assumption | exact decide_eq_true (by omega) | exact decide_eq_true (by dsimp only; omega) | exact decide_eq_true (by simp; omega) | (simp; done))))) | (refine LetV.pre ?_; first | refine LetV.mk (t := 33) _ hld ?_ | refine LetV.mk (.sc (.int _ _)) rfl ?_) | (refine LetI.pre ?_; first | refine LetI.mk _ rfl ?_) | (refine LetB.pre ?_; first | refine LetB.dect (by omega) ?_) | (refine Gd.pre ?_; first | refine Gd.run rfl ?_) | (refine Br.pre ?_; first | refine Br.tt rfl ?_) | (refine Ck.pre ?_; first | refine Ck.drawn (by kernel_rfl) ?_ | refine Ck.mk rfl ?_)))); (try (conv => whnf)))
    exact ⟨_, SW.refl, .inl rfl, ⟨_, rfl, rfl⟩, trivial⟩
/-! ### Reach -/
open Classical in
noncomputable def reaP (l : List E) (e : E) : Int × Int := if e.kind = 7 ∨ mayP l e ≠ 0 then (0, 0) else (e.student, e.on_)
theorem Reach_f (l : List E) (e : E) (fl : Fl) (hl : l.length ≤ 1000) : AFun Tryz.prog 20 0 [.ro fl 15 (l.map en), en e] [] (.tup [int (reaP l e).1, int (reaP l e).2]) [] := by
  refine AFun.of_W T_ok mixed Tryz.func20 rfl (Nat.le_of_ble_eq_true rfl) rfl ?_
  have hM := May_f l e fl hl
  unfold reaP
  generalize mayP l e = m at hM ⊢
  by_cases h7 : e.kind = 7
  · rw [if_pos (.inl h7)]
    ((repeat ((conv => whnf); (first | (refine LetN.pre ?_; first | ((conv => arg 1; whnf); refine LetN.mk ?_)) | (refine As.pre ?_; first | refine As.mk rfl ?_) | (refine LetV.pre ?_; first | refine LetV.mk (.sc (.int _ _)) rfl ?_) | (refine LetB.pre ?_; first | refine LetB.dect (by omega) ?_) | (refine Gd.pre ?_; first | refine Gd.pass rfl ?_) | (refine Br.pre ?_; first | refine Br.tt rfl ?_) | (refine Ck.pre ?_; first | refine Ck.mk rfl ?_)))); (try (conv => whnf)))
    exact ⟨.inl rfl, ⟨_, rfl, rfl⟩, trivial⟩
  by_cases h0 : m = 0
  · rw [if_neg (fun h => h.elim h7 (fun g => g h0))]
    ((repeat ((conv => whnf); (first | (refine LetN.pre ?_; first | ((conv => arg 1; whnf); refine LetN.mk ?_)) | (refine As.pre ?_; first | refine As.mk rfl ?_) | (refine LetV.pre ?_; first | refine LetV.mk (.sc (.int _ _)) rfl ?_ | refine LetV.mk (.agg _) rfl ?_) | (refine LetB.pre ?_; first | refine LetB.decf (by omega) ?_ | refine LetB.bnef (by omega) ?_) | (refine Gd.pre ?_; first | refine Gd.run rfl ?_) | (refine Br.pre ?_; first | refine Br.ff rfl ?_) | (refine Ck.pre ?_; first | refine Ck.drawn (by kernel_rfl) ?_ | refine Ck.mk rfl ?_) | (refine CallN.pre ?_; first | refine CallN.pure hM rfl rfl ?_)))); (try (conv => whnf)))
    exact ⟨.inl rfl, ⟨_, rfl, rfl⟩, trivial⟩
  · rw [if_pos (.inr h0)]
    ((repeat ((conv => whnf); (first | (refine LetN.pre ?_; first | ((conv => arg 1; whnf); refine LetN.mk ?_)) | (refine As.pre ?_; first | refine As.mk rfl ?_) | (refine LetV.pre ?_; first | refine LetV.mk (.sc (.int _ _)) rfl ?_ | refine LetV.mk (.agg _) rfl ?_) | (refine LetB.pre ?_; first | refine LetB.decf (by omega) ?_ | refine LetB.bnet (by omega) ?_) | (refine Gd.pre ?_; first | refine Gd.run rfl ?_) | (refine Br.pre ?_; first | refine Br.tt rfl ?_) | (refine Ck.pre ?_; first | refine Ck.mk rfl ?_) | (refine CallN.pre ?_; first | refine CallN.pure hM rfl rfl ?_)))); (try (conv => whnf)))
    exact ⟨.inl rfl, ⟨_, rfl, rfl⟩, trivial⟩
theorem rReach_f (l : List E) (e : E) (fl : Fl) (hl : l.length ≤ 1000) (hs : ∀ x ∈ l, x.course.size ≤ 9223372036854775806) (hse : e.course.size ≤ 9223372036854775806) : AFun Tryz.prog 21 0 [.ro fl 15 (l.map en), en e] [] (.tup [int (reaP l e).1, int (reaP l e).2]) [] := by
  refine AFun.of_W T_ok mixed Tryz.func21 rfl (Nat.le_of_ble_eq_true rfl) rfl ?_
  have hM := rMay_f l e fl hl hs hse
  unfold reaP
  generalize mayP l e = m at hM ⊢
  by_cases h7 : e.kind = 7
  · rw [if_pos (.inl h7)]
    ((repeat ((conv => whnf); (first | (refine LetN.pre ?_; first | ((conv => arg 1; whnf); refine LetN.mk ?_)) | (refine As.pre ?_; first | refine As.mk rfl ?_) | (refine LetV.pre ?_; first | refine LetV.mk (.sc (.int _ _)) rfl ?_) | (refine LetB.pre ?_; first | refine LetB.dect (by omega) ?_) | (refine Gd.pre ?_; first | refine Gd.pass rfl ?_) | (refine Br.pre ?_; first | refine Br.tt rfl ?_) | (refine Ck.pre ?_; first | refine Ck.mk rfl ?_)))); (try (conv => whnf)))
    exact ⟨.inl rfl, ⟨_, rfl, rfl⟩, trivial⟩
  by_cases h0 : m = 0
  · rw [if_neg (fun h => h.elim h7 (fun g => g h0))]
    ((repeat ((conv => whnf); (first | (refine LetN.pre ?_; first | ((conv => arg 1; whnf); refine LetN.mk ?_)) | (refine As.pre ?_; first | refine As.mk rfl ?_) | (refine LetV.pre ?_; first | refine LetV.mk (.sc (.int _ _)) rfl ?_ | refine LetV.mk (.agg _) rfl ?_) | (refine LetB.pre ?_; first | refine LetB.decf (by omega) ?_ | refine LetB.bnef (by omega) ?_) | (refine Gd.pre ?_; first | refine Gd.run rfl ?_) | (refine Br.pre ?_; first | refine Br.ff rfl ?_) | (refine Ck.pre ?_; first | refine Ck.drawn (by kernel_rfl) ?_ | refine Ck.mk rfl ?_) | (refine CallN.pre ?_; first | refine CallN.pure hM rfl rfl ?_)))); (try (conv => whnf)))
    exact ⟨.inl rfl, ⟨_, rfl, rfl⟩, trivial⟩
  · rw [if_pos (.inr h0)]
    ((repeat ((conv => whnf); (first | (refine LetN.pre ?_; first | ((conv => arg 1; whnf); refine LetN.mk ?_)) | (refine As.pre ?_; first | refine As.mk rfl ?_) | (refine LetV.pre ?_; first | refine LetV.mk (.sc (.int _ _)) rfl ?_ | refine LetV.mk (.agg _) rfl ?_) | (refine LetB.pre ?_; first | refine LetB.decf (by omega) ?_ | refine LetB.bnet (by omega) ?_) | (refine Gd.pre ?_; first | refine Gd.run rfl ?_) | (refine Br.pre ?_; first | refine Br.tt rfl ?_) | (refine Ck.pre ?_; first | refine Ck.mk rfl ?_) | (refine CallN.pre ?_; first | refine CallN.pure hM rfl rfl ?_)))); (try (conv => whnf)))
    exact ⟨.inl rfl, ⟨_, rfl, rfl⟩, trivial⟩
end En
end Go.Proofs.YtgnakhljdjekbaaGreatDoor
namespace Go.Proofs.YtgnakhljdjekbaaGreatDoor
open Go.Proofs.YtgnakhljdjekbaaGreatDoor.Am
set_option maxRecDepth 100000
namespace En
/-! ### Facts, and their order -/
/-! ### The order of strings -/
abbrev cmpS (a b : ByteArray) : Int := Go.Lib.compareBytes a.data.toList b.data.toList
set_option maxHeartbeats 1000000 in
set_option maxRecDepth 100000 in
theorem CompareString_c (a b : ByteArray) (w : World) : Calls Tryz.prog 83 #[.string a, .string b] w fun e w' => e = .returned (.int .i64 (cmpS a b)) ∧ w' = w := by
  go_enter Tryz.func83, Tryz.ntmps83
  go_wp2
  rw [run_callFunc_extern Tryz.func101 (by kernel_rfl) (by kernel_rfl) (by kernel_rfl) (e := Extern.BytealgCompare.compare) (by kernel_rfl), Lib.run_compareString]
  simp only [Result.andThen]
  rw [Oper.upon_value]
  go_wp2
  go_ret
  exact ⟨rfl, rfl⟩
theorem CompareString_f (a b : ByteArray) : AFun Tryz.prog 83 0 [str a, str b] [] (int (cmpS a b)) [] := by
  intro w g xs hl hx hH _
  obtain ⟨x, y, rfl⟩ : ∃ x y, xs = #[x, y] := by
    rcases xs with ⟨l⟩
    rcases l with _ | ⟨a, _ | ⟨b, _ | ⟨d, l⟩⟩⟩
    all_goals simp at hl
    exact ⟨a, b, rfl⟩
  have h0 := (hx 0 _ x rfl rfl).sc_inv
  have h1 := (hx 1 _ y rfl rfl).sc_inv
  subst h0 h1
  refine (CompareString_c a b w).mono ?_
  rintro e w' ⟨rfl, rfl⟩
  exact ⟨_, g, rfl, AdvP.refl .., .sc _ rfl, hH⟩
theorem CompareT_f (a b : ByteArray) : AFun Tryz.prog 62 0 [str a, str b] [] (int (cmpS a b)) [] := by
  refine AFun.of_W T_ok mixed Tryz.func62 rfl (Nat.le_of_ble_eq_true rfl) rfl ?_
  have h := CompareString_f a b
  ((repeat ((conv => whnf); (first | (refine As.pre ?_; first | refine As.mk rfl ?_) | (refine Ck.pre ?_; first | refine Ck.mk rfl ?_) | (refine CallN.pre ?_; first | refine CallN.pure h rfl rfl ?_)))); (try (conv => whnf)))
  exact ⟨.inl rfl, ⟨_, rfl, rfl⟩, trivial⟩
def cmpLs : List Int → List Int → Int
  | [], [] => 0
  | [], _ :: _ => -1
  | _ :: _, [] => 1
  | x :: xs, y :: ys => if cmpI x y = 0 then cmpLs xs ys else cmpI x y
theorem cmpLs_drop {xs ys : List Int} {k : Nat} (h1 : k < xs.length) (h2 : k < ys.length) : cmpLs (xs.drop k) (ys.drop k) = if cmpI (xs.getD k 0) (ys.getD k 0) = 0 then cmpLs (xs.drop (k + 1)) (ys.drop (k + 1)) else cmpI (xs.getD k 0) (ys.getD k 0) := by
  rw [List.drop_eq_getElem_cons h1, List.drop_eq_getElem_cons h2, List.getD_eq_getElem?_getD, List.getD_eq_getElem?_getD, List.getElem?_eq_getElem h1, List.getElem?_eq_getElem h2]; rfl
theorem cmpLs_gt {xs ys : List Int} {k : Nat} (h1 : k < xs.length) (h2 : ¬ k < ys.length) : cmpLs (xs.drop k) (ys.drop k) = 1 := by
  rw [List.drop_eq_getElem_cons h1, show ys.drop k = [] from List.drop_eq_nil_of_le (by omega)]; rfl
theorem cmpLs_lt {xs ys : List Int} {k : Nat} (h1 : ¬ k < xs.length) (h2 : k < ys.length) : cmpLs (xs.drop k) (ys.drop k) = -1 := by
  rw [List.drop_eq_getElem_cons h2, show xs.drop k = [] from List.drop_eq_nil_of_le (by omega)]; rfl
theorem cmpLs_eq {xs ys : List Int} {k : Nat} (h1 : ¬ k < xs.length) (h2 : ¬ k < ys.length) : cmpLs (xs.drop k) (ys.drop k) = 0 := by
  rw [show ys.drop k = [] from List.drop_eq_nil_of_le (by omega), show xs.drop k = [] from List.drop_eq_nil_of_le (by omega)]; rfl
theorem cmpI_lt {a b : Int} (h : a < b) : cmpI a b = -1 := if_pos h
theorem cmpI_gt {a b : Int} (h : b < a) : cmpI a b = 1 := (if_neg (by omega)).trans (if_pos h)
theorem cmpI_eq {a b : Int} (h : a = b) : cmpI a b = 0 := (if_neg (by omega)).trans (if_neg (by omega))
/-- Three-way orders. -/
structure P3 {α : Type} (c : α → α → Int) : Prop where
  neg : ∀ a b, c b a = -c a b
  tr : ∀ a b d, c a b ≤ 0 → c b d ≤ 0 → c a d ≤ 0 ∧ (c a d = 0 ↔ c a b = 0 ∧ c b d = 0)
theorem P3.pull {α β : Type} {c : α → α → Int} (h : P3 c) (f : β → α) : P3 fun a b => c (f a) (f b) := ⟨fun a b => h.neg _ _, fun a b d => h.tr _ _ _⟩
theorem P3.nil {α : Type} : P3 fun _ _ : α => firstNZ [] := ⟨fun _ _ => rfl, fun _ _ _ _ _ => ⟨Int.le_refl _, ⟨fun _ => ⟨rfl, rfl⟩, fun _ => rfl⟩⟩⟩
theorem firstNZ_cons (x : Int) (l : List Int) : firstNZ (x :: l) = if x = 0 then firstNZ l else x := rfl
theorem P3.cons {α : Type} {c : α → α → Int} {L : α → α → List Int} (h : P3 c) (k : P3 fun a b => firstNZ (L a b)) : P3 fun a b => firstNZ (c a b :: L a b) := by
  constructor
  · intro a b
    have h1 := h.neg a b
    have h2 : firstNZ (L b a) = -firstNZ (L a b) := k.neg a b
    simp only [firstNZ_cons]
    split <;> split <;> omega
  · intro a b d
    have h1 := h.tr a b d
    have h2 : firstNZ (L a b) ≤ 0 → firstNZ (L b d) ≤ 0 → firstNZ (L a d) ≤ 0 ∧ (firstNZ (L a d) = 0 ↔ firstNZ (L a b) = 0 ∧ firstNZ (L b d) = 0) := k.tr a b d
    simp only [firstNZ_cons]
    generalize firstNZ (L a b) = p at h2 ⊢
    generalize firstNZ (L b d) = q at h2 ⊢
    generalize firstNZ (L a d) = r at h2 ⊢
    generalize c a b = x at h1 ⊢
    generalize c b d = y at h1 ⊢
    generalize c a d = z at h1 ⊢
    intro h3 h4
    have hx : x ≤ 0 := by split at h3 <;> omega
    have hy : y ≤ 0 := by split at h4 <;> omega
    obtain ⟨hz, he⟩ := h1 hx hy
    by_cases hx0 : x = 0 <;> by_cases hy0 : y = 0
    · have hz0 : z = 0 := he.2 ⟨hx0, hy0⟩
      rw [if_pos hx0] at h3 ⊢
      rw [if_pos hy0] at h4 ⊢
      rw [if_pos hz0]
      exact h2 h3 h4
    all_goals
      have hz0 : z ≠ 0 := fun e => by have := he.1 e; omega
      rw [if_neg hz0]
      refine ⟨hz, fun e => absurd e hz0, fun ⟨e1, e2⟩ => ?_⟩
      split at e1 <;> split at e2 <;> omega
theorem cmpI_0 (a b : Int) : cmpI a b = 0 ↔ a = b := by unfold cmpI; split <;> (try split) <;> omega
theorem cmpI_neg' (a b : Int) : cmpI a b < 0 ↔ a < b := by unfold cmpI; split <;> (try split) <;> omega
theorem P3.cmpI : P3 cmpI := by
  constructor
  · intro a b; unfold En.cmpI; split <;> split <;> (try split) <;> omega
  · intro a b d h1 h2
    have a1 := cmpI_0 a b
    have a2 := cmpI_neg' a b
    have b1 := cmpI_0 b d
    have b2 := cmpI_neg' b d
    have c1 := cmpI_0 a d
    have c2 := cmpI_neg' a d
    omega
theorem cmpLs_cons (x y : Int) (xs ys : List Int) : cmpLs (x :: xs) (y :: ys) = firstNZ [cmpI x y, cmpLs xs ys] := by
  show (if cmpI x y = 0 then cmpLs xs ys else cmpI x y) = if cmpI x y = 0 then (if cmpLs xs ys = 0 then 0 else cmpLs xs ys) else cmpI x y
  split
  · split
    · assumption
    · rfl
  · rfl
theorem cmpLs_neg : ∀ xs ys : List Int, cmpLs ys xs = -cmpLs xs ys
  | [], [] => rfl
  | [], _ :: _ => rfl
  | _ :: _, [] => rfl
  | x :: xs, y :: ys => by
    rw [cmpLs_cons, cmpLs_cons]
    have h1 := P3.cmpI.neg x y
    have h2 := cmpLs_neg xs ys
    simp only [firstNZ]
    repeat' split
    all_goals omega
theorem cmpLs_tr : ∀ xs ys zs : List Int, cmpLs xs ys ≤ 0 → cmpLs ys zs ≤ 0 → cmpLs xs zs ≤ 0 ∧ (cmpLs xs zs = 0 ↔ cmpLs xs ys = 0 ∧ cmpLs ys zs = 0)
  | [], [], [], _, _ => by simp [cmpLs]
  | [], [], _ :: _, _, _ => by simp [cmpLs]
  | [], _ :: _, [], _, h => by simp [cmpLs] at h
  | [], _ :: _, _ :: _, _, _ => by simp [cmpLs]
  | _ :: _, [], _, h, _ => by simp [cmpLs] at h
  | _ :: _, _ :: _, [], _, h => by simp [cmpLs] at h
  | x :: xs, y :: ys, z :: zs, h1, h2 => by
    have k1 := P3.cmpI.tr x y z
    have k2 := cmpLs_tr xs ys zs
    unfold cmpLs at h1 h2 ⊢
    generalize cmpLs xs ys = p at *
    generalize cmpLs ys zs = q at *
    generalize cmpLs xs zs = r at *
    generalize En.cmpI x y = u at *
    generalize En.cmpI y z = v at *
    generalize En.cmpI x z = t at *
    have hu : u ≤ 0 := by split at h1 <;> omega
    have hv : v ≤ 0 := by split at h2 <;> omega
    obtain ⟨ht, he⟩ := k1 hu hv
    by_cases u0 : u = 0 <;> by_cases v0 : v = 0
    · have t0 : t = 0 := he.2 ⟨u0, v0⟩
      rw [if_pos u0] at h1 ⊢
      rw [if_pos v0] at h2 ⊢
      rw [if_pos t0]
      exact k2 h1 h2
    all_goals
      have t0 : t ≠ 0 := fun e => by have := he.1 e; omega
      rw [if_neg t0]
      refine ⟨ht, fun e => absurd e t0, fun ⟨e1, e2⟩ => ?_⟩
      split at e1 <;> split at e2 <;> omega
theorem P3.cmpLs : P3 cmpLs := ⟨cmpLs_neg, cmpLs_tr⟩
def bts (s : ByteArray) : List Int := s.data.toList.map fun b => (b.toNat : Int)
theorem bytes_cmp : ∀ a b : List UInt8, Go.Lib.compareBytes a b = En.cmpLs (a.map fun b => (b.toNat : Int)) (b.map fun b => (b.toNat : Int))
  | [], [] => rfl
  | [], _ :: _ => rfl
  | _ :: _, [] => rfl
  | x :: xs, y :: ys => by
    have h := bytes_cmp xs ys
    show (if x < y then -1 else if y < x then 1 else Go.Lib.compareBytes xs ys) = (if En.cmpI x.toNat y.toNat = 0 then En.cmpLs (xs.map fun b => (b.toNat : Int)) (ys.map fun b => (b.toNat : Int)) else En.cmpI x.toNat y.toNat)
    by_cases h1 : x.toNat < y.toNat
    · rw [if_pos (UInt8.lt_iff_toNat_lt.2 h1), cmpI_lt (by omega)]; rfl
    · by_cases h2 : y.toNat < x.toNat
      · rw [if_neg (fun n => h1 (UInt8.lt_iff_toNat_lt.1 n)), if_pos (UInt8.lt_iff_toNat_lt.2 h2), cmpI_gt (by omega)]; rfl
      · rw [if_neg (fun n => h1 (UInt8.lt_iff_toNat_lt.1 n)), if_neg (fun n => h2 (UInt8.lt_iff_toNat_lt.1 n)), cmpI_eq (by omega), h]; rfl
theorem P3.cmpS : P3 En.cmpS := by
  have : En.cmpS = fun a b => En.cmpLs (bts a) (bts b) := by funext a b; exact bytes_cmp _ _
  rw [this]
  exact P3.cmpLs.pull bts
theorem cmpLs_0 : ∀ a b : List Int, En.cmpLs a b = 0 ↔ a = b
  | [], [] => by simp [En.cmpLs]
  | [], _ :: _ => by simp [En.cmpLs]
  | _ :: _, [] => by simp [En.cmpLs]
  | x :: xs, y :: ys => by
    have h1 := cmpI_0 x y
    have h2 := cmpLs_0 xs ys
    rw [List.cons.injEq, ← h1, ← h2, cmpLs_cons]
    simp only [firstNZ]
    repeat' split
    all_goals omega
theorem bts_inj {a b : ByteArray} : bts a = bts b ↔ a = b := by
  refine ⟨fun h => ?_, fun h => by rw [h]⟩
  have : a.data.toList = b.data.toList := (List.map_inj_right fun x y h => by
    have : x.toNat = y.toNat := by omega
    exact UInt8.toNat_inj.1 this).1 h
  exact ByteArray.ext (Array.ext' this)
theorem cmpS_0 (a b : ByteArray) : En.cmpS a b = 0 ↔ a = b := by
  rw [show En.cmpS a b = En.cmpLs (bts a) (bts b) from bytes_cmp _ _, cmpLs_0, bts_inj]
structure Fa where
  kind : Int
  student : Int
  id : Int
  term : Int
  n : Int
  school : Int
  code : ByteArray
  deriving DecidableEq
abbrev fa (f : Fa) : AV := .agg [int f.kind, int f.student, int f.id, int f.term, int f.n, int f.school, str f.code]
abbrev fa0 : Fa := ⟨0, 0, 0, 0, 0, 0, ⟨#[]⟩⟩
abbrev fty : TypeId := 31
def cmpsF (a b : Fa) : List Int := [cmpI a.kind b.kind, cmpI a.student b.student, cmpI a.id b.id, cmpI a.term b.term, cmpI a.n b.n, cmpI a.school b.school, cmpS a.code b.code]
def cmpF (a b : Fa) : Int := firstNZ (cmpsF a b)
def ltF (a b : Fa) : Bool := decide (cmpF a b < 0)
theorem P3.cmpF : P3 cmpF := (P3.cmpI.pull Fa.kind).cons ((P3.cmpI.pull Fa.student).cons ((P3.cmpI.pull Fa.id).cons ((P3.cmpI.pull Fa.term).cons ((P3.cmpI.pull Fa.n).cons ((P3.cmpI.pull Fa.school).cons ((P3.cmpS.pull Fa.code).cons P3.nil))))))
theorem cmpF_0 (a b : Fa) : cmpF a b = 0 ↔ a = b := by
  have e : a = b ↔ a.kind = b.kind ∧ a.student = b.student ∧ a.id = b.id ∧ a.term = b.term ∧ a.n = b.n ∧ a.school = b.school ∧ a.code = b.code := by
    cases a; cases b; simp
  rw [e, ← cmpI_0 a.kind, ← cmpI_0 a.student, ← cmpI_0 a.id, ← cmpI_0 a.term, ← cmpI_0 a.n, ← cmpI_0 a.school, ← cmpS_0]
  unfold cmpF cmpsF
  simp only [firstNZ]
  repeat' split
  all_goals omega
theorem ord_F : Ord ltF := by
  constructor
  · intro a b h
    have := P3.cmpF.neg a b
    simp only [ltF, decide_eq_true_eq, decide_eq_false_iff_not] at *
    omega
  · intro a b c h k
    simp only [ltF, decide_eq_false_iff_not] at *
    have h1 := P3.cmpF.neg a b
    have h2 := P3.cmpF.neg b c
    have h3 := P3.cmpF.neg a c
    have := (P3.cmpF.tr c b a (by omega) (by omega)).1
    omega
theorem ltF_irr (a : Fa) : ltF a a = false := decide_eq_false (by rw [(cmpF_0 a a).2 rfl]; decide)
theorem ltF_tri {a b : Fa} (h1 : ltF a b = false) (h2 : ltF b a = false) : a = b := by
  simp only [ltF, decide_eq_false_iff_not] at *
  have := P3.cmpF.neg a b
  exact (cmpF_0 a b).1 (by omega)
/-- Lists in order without repetition are told by their elements. -/
abbrev upF (l : List Fa) : Prop := l.Pairwise fun a b => ltF a b = true
theorem upF_lt {x : Fa} {l : List Fa} (h : upF (x :: l)) : x ∉ l := fun hx => by
  have := (List.pairwise_cons.1 h).1 x hx
  rw [ltF_irr] at this; cases this
theorem upF_ext : ∀ {l m : List Fa}, upF l → upF m → (∀ x, x ∈ l ↔ x ∈ m) → l = m
  | [], [], _, _, _ => rfl
  | [], y :: m, _, _, h => absurd ((h y).2 (List.mem_cons_self ..)) List.not_mem_nil
  | x :: l, [], _, _, h => absurd ((h x).1 (List.mem_cons_self ..)) List.not_mem_nil
  | x :: l, y :: m, hl, hm, h => by
    have h1 := (List.pairwise_cons.1 hl)
    have h2 := (List.pairwise_cons.1 hm)
    have e : x = y := by
      rcases List.mem_cons.1 ((h x).1 (List.mem_cons_self ..)) with e | e
      · exact e
      · rcases List.mem_cons.1 ((h y).2 (List.mem_cons_self ..)) with e' | e'
        · exact e'.symm
        · have a := h2.1 x e
          have b := h1.1 y e'
          rw [ord_F.asym _ _ a] at b; cases b
    subst e
    rw [upF_ext h1.2 h2.2 fun z => ?_]
    constructor
    · intro hz
      rcases List.mem_cons.1 ((h z).1 (List.mem_cons_of_mem _ hz)) with e | e
      · subst e; exact absurd hz (upF_lt hl)
      · exact e
    · intro hz
      rcases List.mem_cons.1 ((h z).2 (List.mem_cons_of_mem _ hz)) with e | e
      · subst e; exact absurd hz (upF_lt hm)
      · exact e
theorem sorted_up {l : List Fa} (h : Sorted ltF l) (hn : l.Nodup) : upF l := by
  have := List.Pairwise.and h hn
  refine this.imp fun {a b} ⟨h1, h2⟩ => ?_
  cases h3 : ltF a b with
  | true => rfl
  | false => exact absurd (ltF_tri h3 h1) h2
theorem S_up {l : List Fa} (h : l.Nodup) : upF (sortS ltF l) := sorted_up (S_sorted ord_F l) ((S_perm ltF l).nodup_iff.2 h)
theorem S_mem {l : List Fa} {x : Fa} : x ∈ sortS ltF l ↔ x ∈ l := (S_perm ltF l).mem_iff
/-- Sorting lists of the same different facts gives the same. -/
theorem S_same {l m : List Fa} (hl : l.Nodup) (hm : m.Nodup) (h : ∀ x, x ∈ l ↔ x ∈ m) : sortS ltF l = sortS ltF m :=
  upF_ext (S_up hl) (S_up hm) fun x => by rw [S_mem, S_mem, h]
theorem pure_fa : ∀ l : List Fa, AV.namesL (fun _ => false) (l.map fa) = true
  | [] => rfl
  | p :: l => by simp only [List.map_cons, AV.namesL, pure_fa l]; rfl
theorem solid_fa : ∀ l : List Fa, AV.solidL (l.map fa) = true
  | [] => rfl
  | p :: l => by simp only [List.map_cons, AV.solidL, solid_fa l]; rfl
theorem getD_memF {l : List Fa} {k : Nat} (h : k < l.length) : l.getD k fa0 ∈ l := by
  rw [List.getD_eq_getElem?_getD, List.getElem?_eq_getElem h]; exact List.getElem_mem _
end En
end Go.Proofs.YtgnakhljdjekbaaGreatDoor
namespace Go.Proofs.YtgnakhljdjekbaaGreatDoor
open Go.Proofs.YtgnakhljdjekbaaGreatDoor.Am
set_option maxRecDepth 100000
namespace En
theorem compareF_f (a b : Fa) : AFun Tryz.prog 36 0 [fa a, fa b] [] (int (cmpF a b)) [] := by
  refine AFun.of_W T_ok mixed Tryz.func36 rfl (Nat.le_of_ble_eq_true rfl) rfl ?_
  have hO : ∀ fl, AFun Tryz.prog 60 0 [.ro fl 1 [int (cmpI a.kind b.kind), int (cmpI a.student b.student), int (cmpI a.id b.id), int (cmpI a.term b.term), int (cmpI a.n b.n), int (cmpI a.school b.school), int (cmpS a.code b.code)]] [] (int (cmpF a b)) [] := fun fl => Or_f (cmpsF a b) fl (by simp [cmpsF])
  ((repeat ((conv => whnf); (first | (refine LetN.pre ?_; first | ((conv => arg 1; whnf); refine LetN.mk ?_)) | (refine As.pre ?_; first | refine As.mk rfl ?_) | (refine LetV.pre ?_; first | refine LetV.mk (.sc (.int _ _)) rfl ?_ | refine LetV.mk (.sc _) rfl ?_) | (refine Ck.pre ?_; first | refine Ck.drawn (by kernel_rfl) ?_ | refine Ck.mk rfl ?_) | (refine CallN.pre ?_; first | refine CallN.pure (Compare_f _ _) rfl rfl ?_ | refine CallN.pure (CompareT_f _ _) rfl rfl ?_ | refine CallN.pure (hO _) rfl rfl ?_)))); (try (conv => whnf)))
  exact ⟨.inl rfl, ⟨_, rfl, rfl⟩, trivial⟩
theorem Less_f (a b : Fa) : AFun Tryz.prog 16 0 [fa a, fa b] [] (bool (ltF a b)) [] := by
  refine AFun.of_W T_ok mixed Tryz.func16 rfl (Nat.le_of_ble_eq_true rfl) rfl ?_
  have h := compareF_f a b
  unfold ltF
  ((repeat ((conv => whnf); (first | (refine LetN.pre ?_; first | ((conv => arg 1; whnf); refine LetN.mk ?_)) | (refine As.pre ?_; first | refine As.mk rfl ?_) | (refine LetV.pre ?_; first | refine LetV.mk (.agg _) rfl ?_) | (refine LetB.pre ?_; first | refine LetB.mk _ rfl ?_) | (refine Ck.pre ?_; first | refine Ck.mk rfl ?_) | (refine CallN.pre ?_; first | refine CallN.pure h rfl rfl ?_)))); (try (conv => whnf)))
  exact ⟨.inl rfl, ⟨_, rfl, rfl⟩, trivial⟩
/-- The entry at j sinks to its place. -/
def sinkF : List Fa → Nat → List Fa
  | l, 0 => l
  | l, j + 1 => if cmpF (l.getD (j + 1) fa0) (l.getD j fa0) < 0 then sinkF ((l.set (j + 1) (l.getD j fa0)).set j (l.getD (j + 1) fa0)) j else l
theorem Fsink_length : ∀ (j : Nat) (l : List Fa), (sinkF l j).length = l.length
  | 0, l => rfl
  | j + 1, l => by
    unfold sinkF
    split
    · rw [Fsink_length j]; simp
    · rfl
def isrF : Nat → Nat → List Fa → List Fa
  | 0, _, l => l
  | f + 1, i, l => isrF f (i + 1) (sinkF l i)
theorem Fisr_length : ∀ (f i : Nat) (l : List Fa), (isrF f i l).length = l.length
  | 0, i, l => rfl
  | f + 1, i, l => by rw [isrF, Fisr_length f, Fsink_length]
/-- What the library's sorting by insertion gives. -/
def srtF (l : List Fa) : List Fa := isrF (l.length - 1) 1 l
theorem Fsrt_length (l : List Fa) : (srtF l).length = l.length := Fisr_length ..
theorem getD_fa {l : List Fa} {k : Nat} (h : k < l.length) : fa (l.getD k fa0) = Am.part true 7 0 7 ((l.map fa).getD (0 + k) (.sc undef)) := by
  rw [Nat.zero_add, List.getD_eq_getElem?_getD, List.getD_eq_getElem?_getD, List.getElem?_map, List.getElem?_eq_getElem h]; rfl
abbrev insOF (n : Nat) (fl : Fl) : Nat × List Fa → AS
  | (i, l) => ⟨[(0, .slm fl 0 7 0 n), (1, int 0), (2, int n), (3, .clo 36 []), (8, int i)], [(0, .row 7 31 (l.map fa))], 1⟩
abbrev insIF (n : Nat) (fl : Fl) (i : Nat) : Nat × List Fa → AS
  | (j, l) => ⟨[(0, .slm fl 0 7 0 n), (1, int 0), (2, int n), (3, .clo 36 []), (8, int i), (9, int j)], [(0, .row 7 31 (l.map fa))], 1⟩
set_option maxRecDepth 100000 in
theorem Finsertion_f (l : List Fa) (fl : Fl) (hl : l.length ≤ 1000) : AFun Tryz.prog 118 1 [.slm fl 0 7 0 l.length, int 0, int l.length, .clo 36 []] [(0, .row 7 31 (l.map fa))] (.tup []) [(0, .row 7 31 ((srtF l).map fa))] := by
  obtain ⟨n, hn⟩ : ∃ n, n = l.length := ⟨_, rfl⟩
  have hs : srtF l = isrF (n - 1) 1 l := by rw [hn]; rfl
  generalize hR : srtF l = R at hs
  rw [← hn]
  refine AFun.of_S T_ok mixed Tryz.func118 rfl (Nat.le_of_ble_eq_true rfl) rfl ?_
  ((repeat ((conv => whnf); (first | (refine As.pre ?_; first | refine As.mk rfl ?_) | (refine LetI.pre ?_; first | refine LetI.wrap (by omega) (by omega) ?_) | (refine Ck.pre ?_; first | refine Ck.mk rfl ?_)))); (try (conv => whnf)))
  refine LoopN.weak (s1 := insOF n fl (1, l)) ?sw1 ?_
  case sw1 => exact SW.mk id rfl rfl (namesAll.row (pure_fa _) rfl) ⟨.refl _, .refl _, .refl _, .refl _, VLe2.int rfl, trivial⟩ (haveV.row (pure_fa _) rfl trivial)
  refine LoopN.ind T_ok mixed (S := insOF n fl) (fun i => n - i.1) (fun i => 1 ≤ i.1 ∧ i.2.length = n ∧ R = isrF (n - i.1) i.1 i.2) (fun _ => rfl) (fun i hi ih => ?_) (1, l) ⟨Nat.le_refl _, hn.symm, hs⟩
  obtain ⟨i, m⟩ := i
  obtain ⟨h0, h1, h2⟩ := hi
  simp only at h0 h1 h2 ih
  by_cases hlt : i < n
  case neg =>
    rw [show n - i = 0 by omega, isrF] at h2
    subst h2
    clear ih
    ((repeat ((conv => whnf); (first | (refine As.pre ?_; first | refine As.mk rfl ?_) | (refine LetB.pre ?_; first | refine LetB.decf (by omega) ?_) | (refine Br.pre ?_; first | refine Br.ff rfl ?_) | (refine Ck.pre ?_; first | refine Ck.mk rfl ?_)))); (try (conv => whnf)))
    exact ⟨⟨[], [(0, .row 7 31 (R.map fa))], 1⟩, SW.mk id rfl rfl (namesAll.row (pure_fa _) rfl) trivial (haveV.row (pure_fa _) rfl trivial), .inr rfl, ⟨_, rfl, rfl⟩, rfl, trivial⟩
  case pos =>
    rw [show n - i = (n - (i + 1)) + 1 by omega, isrF] at h2
    have hsl := Fsink_length i m
    generalize hQ : sinkF m i = Q at h2 hsl
    ((repeat ((conv => whnf); (first | (refine As.pre ?_; first | refine As.mk rfl ?_) | (refine LetB.pre ?_; first | refine LetB.dect (by omega) ?_) | (refine Br.pre ?_; first | refine Br.tt rfl ?_) | (refine Ck.pre ?_; first | refine Ck.mk rfl ?_)))); (try (conv => whnf)))
    refine LoopN.weak (s1 := insIF n fl i (i, m)) ?sw2 ?_
    case sw2 => exact SW.mk id rfl rfl (namesAll.row (pure_fa _) rfl) ⟨.refl _, .refl _, .refl _, .refl _, .refl _, .refl _, trivial⟩ (haveV.row (pure_fa _) rfl trivial)
    refine LoopN.ind T_ok mixed (S := insIF n fl i) (fun j => j.1) (fun j => j.1 ≤ i ∧ j.2.length = n ∧ Q = sinkF j.2 j.1) (fun _ => rfl) (fun j hj ih2 => ?_) (i, m) ⟨Nat.le_refl _, h1, hQ.symm⟩
    obtain ⟨j, m'⟩ := j
    obtain ⟨g0, g1, g2⟩ := hj
    simp only at g0 g1 g2 ih2
    cases j with
    | zero =>
      rw [sinkF] at g2
      subst g2
      clear ih2
      ((repeat ((conv => whnf); (first | (refine As.pre ?_; first | refine As.mk rfl ?_) | (refine LetI.pre ?_; first | refine LetI.wrap (by omega) (by omega) ?_) | (refine LetB.pre ?_; first | refine LetB.ff rfl ?_) | (refine Gd.pre ?_; first | refine Gd.pass rfl ?_) | (refine Br.pre ?_; first | refine Br.ff rfl ?_) | (refine Ck.pre ?_; first | refine Ck.drawn (by kernel_rfl) ?_ | refine Ck.mk rfl ?_)))); (try (conv => whnf)))
      refine LoopN.weak ?sw3 (ih (i + 1, Q) ⟨by omega, by omega, h2⟩ (by omega))
      case sw3 => exact SW.mk id rfl rfl (namesAll.row (pure_fa _) rfl) ⟨.refl _, .refl _, .refl _, .refl _, VLe2.int (by omega), trivial⟩ (haveV.row (pure_fa _) rfl trivial)
    | succ j =>
      rw [sinkF] at g2
      have hm : (m'.map fa).length = n := by rw [List.length_map]; exact g1
      have hld1 : fa (m'.getD (j + 1) fa0) = Am.part true 7 0 7 ((m'.map fa).getD (0 + (j + 1)) (.sc undef)) := getD_fa (by omega)
      have hld2 : fa (m'.getD j fa0) = Am.part true 7 0 7 ((m'.map fa).getD (0 + j) (.sc undef)) := getD_fa (by omega)
      have hsub : (j : Int) = IntKind.i64.wrap (((j + 1 : Nat) : Int) - 1) := by
        rw [wrap_id (by omega) (by omega)]; omega
      have hset1 : (m'.set (j + 1) (m'.getD j fa0)).map fa = (m'.map fa).set (0 + (j + 1)) (fa (m'.getD j fa0)) := by rw [Nat.zero_add]; exact List.map_set
      have hset : ((m'.set (j + 1) (m'.getD j fa0)).set j (m'.getD (j + 1) fa0)).map fa = ((m'.set (j + 1) (m'.getD j fa0)).map fa).set (0 + j) (fa (m'.getD (j + 1) fa0)) := by rw [Nat.zero_add]; exact List.map_set
      have hcmp := compareF_f (m'.getD (j + 1) fa0) (m'.getD j fa0)
      generalize ha : m'.getD (j + 1) fa0 = a at hld1 hset hset1 hcmp g2
      generalize hb : m'.getD j fa0 = b at hld2 hset hset1 hcmp g2
      generalize cmpF a b = r at hcmp g2
      by_cases hr : r < 0
      · rw [if_pos hr] at g2
        ((repeat ((conv => whnf); (first | (refine LetN.pre ?_; first | ((conv => arg 1; whnf); refine LetN.mk ?_)) | (refine As.pre ?_; first | refine As.mk rfl ?_ | (refine As.mk ?_ ?_; · ((repeat' (refine andT ?_ ?_)) <;> (first | rfl | assumption | exact decide_eq_true (by omega) | exact decide_eq_true (by dsimp only; omega) | exact decide_eq_true (by simp; omega) | (simp; done))))) | (refine LetV.pre ?_; first | refine LetV.mk (t := 31) _ hld1 ?_ | refine LetV.mk (t := 31) _ hld2 ?_) | (refine LetI.pre ?_; first | refine LetI.mk (o := some .sub) (j : Int) hsub ?_) | (refine LetB.pre ?_; first | refine LetB.dect (by omega) ?_) | (refine Gd.pre ?_; first | refine Gd.run rfl ?_) | (refine Br.pre ?_; first | refine Br.tt rfl ?_) | (refine Ck.pre ?_; first | refine Ck.drawn (by kernel_rfl) ?_ | refine Ck.mk rfl ?_) | (refine LetL.pre ?_; first | refine LetL.mk (ty := 31) _ hset1 ?_ | refine LetL.mk (ty := 31) _ hset ?_) | (refine CallN.pre ?_; first | refine CallN.pure hcmp rfl rfl ?_)))); (try (conv => whnf)))






        refine LoopN.weak ?sw4 (ih2 (j, (m'.set (j + 1) b).set j a) ⟨by omega, by simp [g1], g2⟩ (by omega))
        case sw4 => exact SW.mk id rfl rfl (namesAll.row (pure_fa _) rfl) ⟨.refl _, .refl _, .refl _, .refl _, .refl _, .refl _, trivial⟩ (haveV.row (pure_fa _) rfl trivial)
      · rw [if_neg hr] at g2
        subst g2
        clear ih2
        ((repeat ((conv => whnf); (first | (refine As.pre ?_; first | refine As.mk rfl ?_ | (refine As.mk ?_ ?_; · ((repeat' (refine andT ?_ ?_)) <;> (first | rfl | assumption | exact decide_eq_true (by omega) | exact decide_eq_true (by dsimp only; omega) | exact decide_eq_true (by simp; omega) | (simp; done))))) | (refine LetV.pre ?_; first | refine LetV.mk (t := 31) _ hld1 ?_ | refine LetV.mk (t := 31) _ hld2 ?_) | (refine LetI.pre ?_; first | refine LetI.mk (o := some .sub) (j : Int) hsub ?_ | refine LetI.wrap (by omega) (by omega) ?_) | (refine LetB.pre ?_; first | refine LetB.dect (by omega) ?_ | refine LetB.decf (by omega) ?_) | (refine Gd.pre ?_; first | refine Gd.run rfl ?_) | (refine Br.pre ?_; first | refine Br.ff rfl ?_) | (refine Ck.pre ?_; first | refine Ck.drawn (by kernel_rfl) ?_ | refine Ck.mk rfl ?_) | (refine CallN.pre ?_; first | refine CallN.pure hcmp rfl rfl ?_)))); (try (conv => whnf)))




        refine LoopN.weak ?sw3 (ih (i + 1, Q) ⟨by omega, by omega, h2⟩ (by omega))
        case sw3 => exact SW.mk id rfl rfl (namesAll.row (pure_fa _) rfl) ⟨.refl _, .refl _, .refl _, .refl _, VLe2.int (by omega), trivial⟩ (haveV.row (pure_fa _) rfl trivial)
theorem Fsink_rev (e : Fa) : ∀ (R B : List Fa), sinkF (R.reverse ++ e :: B) R.length = ((R.dropWhile (ltF e)).reverse ++ e :: (R.takeWhile (ltF e)).reverse) ++ B
  | [], B => rfl
  | x :: R, B => by
    have hl : R.reverse.length = R.length := List.length_reverse
    rw [List.reverse_cons, List.append_assoc]
    show sinkF (R.reverse ++ x :: e :: B) (R.length + 1) = _
    have h1 : (R.reverse ++ x :: e :: B).getD (R.length + 1) fa0 = e := by
      rw [List.getD_eq_getElem?_getD, List.getElem?_append_right (by omega), hl, Nat.add_sub_cancel_left]; rfl
    have h2 : (R.reverse ++ x :: e :: B).getD R.length fa0 = x := by
      rw [List.getD_eq_getElem?_getD, List.getElem?_append_right (by omega), hl, Nat.sub_self]; rfl
    rw [sinkF, h1, h2]
    by_cases hc : cmpF e x < 0
    · rw [if_pos hc, List.set_append_right _ _ (by omega), hl, Nat.add_sub_cancel_left, List.set_append_right _ _ (by omega), hl, Nat.sub_self]
      show sinkF (R.reverse ++ e :: x :: B) R.length = _
      rw [Fsink_rev e R (x :: B), List.dropWhile_cons, List.takeWhile_cons]
      simp [ltF, hc]
    · rw [if_neg hc, List.dropWhile_cons, List.takeWhile_cons]
      simp [ltF, hc]
theorem Fsink_ins (e : Fa) (A B : List Fa) : sinkF (A ++ e :: B) A.length = insEnd (ltF e) e A ++ B := by
  have := Fsink_rev e A.reverse B
  rw [List.reverse_reverse, List.length_reverse] at this
  exact this
theorem Fisr_S : ∀ (rest A : List Fa), isrF rest.length A.length (A ++ rest) = rest.foldl (fun out e => insEnd (ltF e) e out) A
  | [], A => by rw [List.append_nil]; rfl
  | e :: rest, A => by
    rw [List.length_cons, isrF, Fsink_ins, List.foldl_cons, ← Fisr_S rest, ins_length]
theorem Fsrt_S (l : List Fa) : srtF l = sortS ltF l := by
  cases l with
  | nil => rfl
  | cons x l =>
    have := Fisr_S l [x]
    rw [srtF, sortS, List.foldl_cons]
    exact this

end En
end Go.Proofs.YtgnakhljdjekbaaGreatDoor
