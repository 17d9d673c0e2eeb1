/- earn: parts of the proof, DearnHP DearnHQ DearnHR DearnHS DearnHT DearnJI DearnJJ. -/
import Derived.Test.YtiefcppgbnfbfaaL42
import Derived.Test.YtiefcppgbnfbfaaL41
set_option linter.all false
namespace Go.Proofs.Ytiefcppgbnfbfaa
open Go.Proofs.Ytiefcppgbnfbfaa.Am
set_option maxRecDepth 100000
namespace En
/-! ### Made achievements -/
/-- What is known of a made achievement. -/
def okM (a : Ach) : Prop := (a.bundle = 0 ∧ pthL a.path = [] ∨ (1 ≤ a.bundle ∧ a.bundle ≤ 3) ∧ pthL a.path = [a.bundle]) ∧ a.src.2.length ≤ 2
structure MdA (i : Nat) (out : List Ach) : Prop where
  len : out.length ≤ i
  ok : ∀ a ∈ out, okM a
theorem MdA.add {i : Nat} {out : List Ach} {a : Ach} (h : MdA i out) (k : okM a) : MdA (i + 1) (out ++ [a]) := by
  refine ⟨by have := h.len; simp; omega, fun x hx => ?_⟩
  rcases List.mem_append.1 hx with h1 | h1
  · exact h.ok x h1
  · simp only [List.mem_cons, List.not_mem_nil, or_false] at h1
    subst h1; exact k
abbrev mdR (L : List (Fl × List Int)) (fl : Fl) (i : Nat) (out : List Ach) (fx : Fl) (xs : List Int) (at_ : Nat) (a : Ach) : AS :=
  ⟨[(0, .ro fl 1 (L.map iA)), (3, .slm {} 0 8 0 out.length), (4, int i), (5, .ptr 1 2 0 0), (6, .ptr 2 8 0 0)], [(0, .row 8 aty (out.map achA)), (1, drawB fx xs at_), (2, .row 8 aty [achA a])], 3⟩
abbrev mdR7 (L : List (Fl × List Int)) (fl : Fl) (i : Nat) (out : List Ach) (fx : Fl) (xs : List Int) (at_ : Nat) (a : Ach) (n : Int) : AS :=
  ⟨[(0, .ro fl 1 (L.map iA)), (3, .slm {} 0 8 0 out.length), (4, int i), (5, .ptr 1 2 0 0), (6, .ptr 2 8 0 0), (7, int n)], [(0, .row 8 aty (out.map achA)), (1, drawB fx xs at_), (2, .row 8 aty [achA a])], 3⟩
abbrev mdS (L : List (Fl × List Int)) (fl : Fl) : Nat × List Ach → AS
  | (i, out) => ⟨[(0, .ro fl 1 (L.map iA)), (3, .slm {} 0 8 0 out.length), (4, int i)], [(0, .row 8 aty (out.map achA))], 1⟩
theorem cred_get (n : Int) (h : 0 ≤ n ∧ n < 3) : ∃ c : Int, int c = ([int 5, int 6, int 10] : List AV).getD n.toNat (.sc undef) := by
  obtain ⟨m, rfl⟩ : ∃ m : Nat, n = m := ⟨n.toNat, by omega⟩
  have : m = 0 ∨ m = 1 ∨ m = 2 := by omega
  rcases this with rfl | rfl | rfl <;> exact ⟨_, rfl⟩
set_option maxHeartbeats 16000000 in
set_option maxRecDepth 100000 in
theorem Made_f (L : List (Fl × List Int)) (fl : Fl) (hL : L.length ≤ 9223372036854775807) (hxs : ∀ x ∈ L, x.2.length ≤ 9223372036854775807) : ∃ l : List Ach, MdA 8 l ∧ AFun Try.prog 19 0 [.ro fl 1 (L.map iA)] [] (.slm {} 0 8 0 l.length) [(0, .row 8 aty (l.map achA))] := by
  refine AFun.of_SE T_ok mixed (H' := fun l : List Ach => [(0, .row 8 aty (l.map achA))]) Try.func19 rfl (Nat.le_of_ble_eq_true rfl) rfl ?_
  have hml : (L.map iA).length = L.length := List.length_map _
  ((repeat ((conv => whnf); (first | (refine As.pre ?_; first | refine As.mk rfl ?_) | (refine Ck.pre ?_; first | refine Ck.mk rfl ?_)))); (try (conv => whnf)))
  refine LoopN.weak (s1 := mdS L fl (0, [])) ?sw1 ?_
  case sw1 => exact SW.mk id rfl rfl rfl ⟨.refl _, VLe2.nilslm, .refl _, trivial⟩ (haveV.nil (Nat.le_refl _) trivial)
  refine LoopN.indS (S := mdS L fl) (fun i => 8 - i.1) (fun i => i.1 ≤ 8 ∧ MdA i.1 i.2) (fun i hi ih => ?_) (0, []) ⟨Nat.zero_le _, Nat.zero_le _, fun a h => absurd h List.not_mem_nil⟩
  obtain ⟨i, out⟩ := i
  obtain ⟨h1, h3⟩ := hi
  simp only at h1 h3 ih
  have hfin : MdA 8 out := ⟨by have := h3.len; omega, h3.ok⟩
  by_cases hlt : i < L.length
  case neg =>
    clear ih
    refine VS.of_V T_ok mixed rfl ?_
    ((repeat ((conv => whnf); (first | (refine As.pre ?_; first | refine As.mk rfl ?_) | (refine LetI.pre ?_; first | refine LetI.mk _ rfl ?_) | (refine LetB.pre ?_; first | refine LetB.decf (by omega) ?_) | (refine Gd.pre ?_; first | refine Gd.pass rfl ?_) | (refine Br.pre ?_; first | refine Br.ff rfl ?_) | (refine Ck.pre ?_; first | refine Ck.mk rfl ?_)))); (try (conv => whnf)))
    exact ⟨out, hfin, ⟨[(2, .slm {} 0 8 0 out.length)], [(0, .row 8 aty (out.map achA))], 1⟩, SW.mk id rfl rfl (namesAll.row (pure_ach _) rfl) ⟨.refl _, trivial⟩ (haveV.row (pure_ach _) rfl trivial), .inl rfl, ⟨_, rfl, rfl⟩, rfl, trivial⟩
  by_cases h8 : i < 8
  case neg =>
    clear ih
    refine VS.of_V T_ok mixed rfl ?_
    ((repeat ((conv => whnf); (first | (refine As.pre ?_; first | refine As.mk rfl ?_) | (refine LetI.pre ?_; first | refine LetI.mk _ rfl ?_) | (refine LetB.pre ?_; first | refine LetB.dect (by omega) ?_ | refine LetB.decf (by omega) ?_) | (refine Gd.pre ?_; first | refine Gd.run rfl ?_) | (refine Br.pre ?_; first | refine Br.ff rfl ?_) | (refine Ck.pre ?_; first | refine Ck.mk rfl ?_)))); (try (conv => whnf)))
    exact ⟨out, hfin, ⟨[(2, .slm {} 0 8 0 out.length)], [(0, .row 8 aty (out.map achA))], 1⟩, SW.mk id rfl rfl (namesAll.row (pure_ach _) rfl) ⟨.refl _, trivial⟩ (haveV.row (pure_ach _) rfl trivial), .inl rfl, ⟨_, rfl, rfl⟩, rfl, trivial⟩
  have hld : iA (L.getD i L0) = (L.map iA).getD i (.sc undef) := mapD L0 hlt
  have hx := hxs (L.getD i L0) (by rw [List.getD_eq_getElem?_getD, List.getElem?_eq_getElem hlt]; exact List.getElem_mem _)
  generalize L.getD i L0 = x at hld hx
  obtain ⟨fx, xs⟩ := x
  simp only at hx hld
  obtain ⟨v0, a0, r0, q0, N0⟩ := made_next fx xs hx 0 6 (Nat.zero_le _) (by omega)
  obtain ⟨v1, a1, r1, q1, N1⟩ := made_next fx xs hx a0 3 q0 (by omega)
  obtain ⟨v2, a2, r2, q2, N2⟩ := made_next fx xs hx a1 11 q1 (by omega)
  obtain ⟨v3, a3, r3, q3, N3⟩ := made_next fx xs hx a2 60 q2 (by omega)
  obtain ⟨v4, a4, r4, q4, N4⟩ := made_next fx xs hx a3 9 q3 (by omega)
  obtain ⟨v5, a5, r5, q5, N5⟩ := made_next fx xs hx a4 3 q4 (by omega)
  obtain ⟨v6, a6, r6, q6, N6⟩ := made_next fx xs hx a5 3 q5 (by omega)
  obtain ⟨v7, a7, r7, q7, N7⟩ := made_next fx xs hx a6 4 q6 (by omega)
  obtain ⟨v8, a8, r8, q8, N8⟩ := made_next fx xs hx a7 3 q7 (by omega)
  obtain ⟨v9, a9, r9, q9, N9⟩ := made_next fx xs hx a8 3 q8 (by omega)
  obtain ⟨v10, a10, r10, q10, N10⟩ := made_next fx xs hx a8 3 q8 (by omega)
  obtain ⟨v11, a11, r11, q11, N11⟩ := made_next fx xs hx a9 3 q9 (by omega)
  obtain ⟨s, hs2, hs⟩ := codes_get v0 r0
  obtain ⟨c, hc⟩ := cred_get v1 r1
  have hlen := h3.len
  have hcl : (codesL.map str).length = 6 := rfl
  have hr := room_ach (n := out.length + 1) (by omega)
  have hol2 : (out.map achA).length = out.length := List.length_map _
  refine VS.cut T_ok mixed rfl ?_
  ((repeat ((conv => whnf); (first | (refine As.pre ?_; first | refine As.mk rfl ?_) | (refine LetI.pre ?_; first | refine LetI.mk _ rfl ?_) | (refine LetB.pre ?_; first | refine LetB.dect (by omega) ?_) | (refine Gd.pre ?_; first | refine Gd.run rfl ?_) | (refine Br.pre ?_; first | refine Br.tt rfl ?_) | (refine Ck.pre ?_; first | refine Ck.mk rfl ?_)))); (try (conv => whnf)))
  refine VS.seq (VS.block ?_)
  refine VS.cut T_ok mixed rfl ?_
  ((repeat ((conv => whnf); (first | (refine LetN.pre ?_; first | ((conv => arg 1; whnf); refine LetN.mk ?_)) | (refine As.pre ?_; first | refine As.mk rfl ?_ | (refine As.mk ?_ ?_; · ((repeat' (refine andT ?_ ?_)) <;> (first | rfl | assumption | exact decide_eq_true (by omega) | exact decide_eq_true (by dsimp only; omega) | exact decide_eq_true (by simp; omega) | (simp; done))))) | (refine LetV.pre ?_; first | refine LetV.mk (t := 50) _ hld ?_ | refine LetV.mk (.ro _ _ _) rfl ?_) | (refine Ck.pre ?_; first | refine Ck.mk rfl ?_)))); (try (conv => whnf)))





  refine VS.cut T_ok mixed rfl ?_
  ((repeat ((conv => whnf); (first | (refine LetN.pre ?_; first | ((conv => arg 1; whnf); refine LetN.mk ?_)) | (refine As.pre ?_; first | refine As.mk rfl ?_ | (refine As.mk ?_ ?_; · ((repeat' (refine andT ?_ ?_)) <;> (first | rfl | assumption | exact decide_eq_true (by omega) | exact decide_eq_true (by dsimp only; omega) | exact decide_eq_true (by simp; omega) | (simp; done))))) | (refine LetV.pre ?_; first | refine LetV.mk (t := 72) _ hs ?_ | refine LetV.mk (.sc _) rfl ?_) | (refine Ck.pre ?_; first | refine Ck.mk rfl ?_) | (refine LetL.pre ?_; first | refine LetL.mk (ty := aty) [.agg [_, _, _, _, _, _, _, _]] rfl ?_ | refine LetL.mk [_] rfl ?_) | (refine CallN.pre ?_; first | refine CallN.pure Codes_f rfl rfl ?_ | refine CallN.own (fun _ => 1) N0 (CallOk.mk' rfl rfl rfl (namesAll.row rfl rfl) rfl (namesAll.row rfl rfl) (haveAll.row rfl rfl trivial)) ?_)))); (try (conv => whnf)))






  refine VS.cut T_ok mixed rfl ?_
  ((repeat ((conv => whnf); (first | (refine LetN.pre ?_; first | ((conv => arg 1; whnf); refine LetN.mk ?_)) | (refine As.pre ?_; first | refine As.mk rfl ?_ | (refine As.mk ?_ ?_; · ((repeat' (refine andT ?_ ?_)) <;> (first | rfl | assumption | exact decide_eq_true (by omega) | exact decide_eq_true (by dsimp only; omega) | exact decide_eq_true (by simp; omega) | (simp; done))))) | (refine LetV.pre ?_; first | refine LetV.mk (t := 22) _ hc ?_ | refine LetV.mk (.sc (.int _ _)) rfl ?_) | (refine Ck.pre ?_; first | refine Ck.mk rfl ?_) | (refine LetL.pre ?_; first | refine LetL.mk (ty := aty) [.agg [_, _, _, _, _, _, _, _]] rfl ?_ | refine LetL.mk [_] rfl ?_) | (refine CallN.pre ?_; first | refine CallN.own (fun _ => 1) N1 (CallOk.mk' rfl rfl rfl (namesAll.row rfl rfl) rfl (namesAll.row rfl rfl) (haveAll.row rfl rfl trivial)) ?_)))); (try (conv => whnf)))






  refine VS.cut T_ok mixed rfl ?_
  ((repeat ((conv => whnf); (first | (refine LetN.pre ?_; first | ((conv => arg 1; whnf); refine LetN.mk ?_)) | (refine As.pre ?_; first | refine As.mk rfl ?_) | (refine LetI.pre ?_; first | refine LetI.wrap (by omega) (by omega) ?_) | (refine Ck.pre ?_; first | refine Ck.mk rfl ?_) | (refine LetL.pre ?_; first | refine LetL.mk (ty := aty) [.agg [_, _, _, _, _, _, _, _]] rfl ?_ | refine LetL.mk [_] rfl ?_) | (refine CallN.pre ?_; first | refine CallN.own (fun _ => 1) N2 (CallOk.mk' rfl rfl rfl (namesAll.row rfl rfl) rfl (namesAll.row rfl rfl) (haveAll.row rfl rfl trivial)) ?_)))); (try (conv => whnf)))






  refine VS.cut T_ok mixed rfl ?_
  ((repeat ((conv => whnf); (first | (refine LetN.pre ?_; first | ((conv => arg 1; whnf); refine LetN.mk ?_)) | (refine As.pre ?_; first | refine As.mk rfl ?_) | (refine LetI.pre ?_; first | refine LetI.wrap (by omega) (by omega) ?_) | (refine Ck.pre ?_; first | refine Ck.mk rfl ?_) | (refine LetL.pre ?_; first | refine LetL.mk (ty := aty) [.agg [_, _, _, _, _, _, _, _]] rfl ?_ | refine LetL.mk [_] rfl ?_) | (refine CallN.pre ?_; first | refine CallN.own (fun _ => 1) N3 (CallOk.mk' rfl rfl rfl (namesAll.row rfl rfl) rfl (namesAll.row rfl rfl) (haveAll.row rfl rfl trivial)) ?_)))); (try (conv => whnf)))






  refine VS.cut T_ok mixed rfl ?_
  ((repeat ((conv => whnf); (first | (refine LetN.pre ?_; first | ((conv => arg 1; whnf); refine LetN.mk ?_)) | (refine As.pre ?_; first | refine As.mk rfl ?_) | (refine LetI.pre ?_; first | refine LetI.wrap (by omega) (by omega) ?_) | (refine Ck.pre ?_; first | refine Ck.mk rfl ?_) | (refine LetL.pre ?_; first | refine LetL.mk (ty := aty) [.agg [_, _, _, _, _, _, _, _]] rfl ?_ | refine LetL.mk [_] rfl ?_) | (refine CallN.pre ?_; first | refine CallN.own (fun _ => 1) N4 (CallOk.mk' rfl rfl rfl (namesAll.row rfl rfl) rfl (namesAll.row rfl rfl) (haveAll.row rfl rfl trivial)) ?_)))); (try (conv => whnf)))






  refine VS.weak (s1 := mdR L fl i out fx xs a4 ⟨1, s, c, 50 + 5 * v2, 10 * v3, (⟨true, true⟩, [1000001 + v4]), 0, none⟩) ?swa ?_
  case swa => exact SW.mk id rfl rfl (namesAll.row (pure_ach _) (namesAll.row rfl (namesAll.row rfl rfl))) ⟨.refl _, .refl _, .refl _, .refl _, .refl _, trivial⟩ (haveV.row (pure_ach _) rfl (haveV.row rfl rfl (haveV.row rfl rfl trivial)))
  refine VS.seq ?_
  refine VS.cut T_ok mixed rfl ?_
  ((repeat ((conv => whnf); (first | (refine LetN.pre ?_; first | ((conv => arg 1; whnf); refine LetN.mk ?_)) | (refine As.pre ?_; first | refine As.mk rfl ?_) | (refine LetB.pre ?_; first | refine LetB.mk _ rfl ?_) | (refine Ck.pre ?_; first | refine Ck.mk rfl ?_) | (refine LetL.pre ?_; first | refine LetL.mk [_] rfl ?_) | (refine CallN.pre ?_; first | refine CallN.own (fun _ => 1) N5 (CallOk.mk' rfl rfl rfl (namesAll.row rfl rfl) rfl (namesAll.row rfl rfl) (haveAll.row rfl rfl trivial)) ?_)))); (try (conv => whnf)))






  by_cases h5 : v5 = 0
  case neg =>
    rw [show (v5 == 0) = false from beq_eq_false_iff_ne.2 h5]
    refine VS.condF rfl rfl (VS.skip ?_)
    refine VS.weak (s1 := mdR L fl i out fx xs a5 ⟨1, s, c, 50 + 5 * v2, 10 * v3, (⟨true, true⟩, [1000001 + v4]), 0, none⟩) ?swb ?_
    case swb => exact SW.mk id rfl rfl (namesAll.row (pure_ach _) (namesAll.row rfl (namesAll.row rfl rfl))) ⟨.refl _, .refl _, .refl _, .refl _, .refl _, trivial⟩ (haveV.row (pure_ach _) rfl (haveV.row rfl rfl (haveV.row rfl rfl trivial)))
    refine VS.of_V T_ok mixed rfl ?_
    ((repeat ((conv => whnf); (first | (refine LetN.pre ?_; first | ((conv => arg 1; whnf); refine LetN.mk ?_)) | (refine As.pre ?_; first | refine As.mk rfl ?_ | (refine As.mk ?_ ?_; · ((repeat' (refine andT ?_ ?_)) <;> (first | rfl | assumption | exact decide_eq_true (by omega) | exact decide_eq_true (by dsimp only; omega) | exact decide_eq_true (by simp; omega) | (simp; done))))) | (refine LetV.pre ?_; first | refine LetV.mk (.agg _) rfl ?_) | (refine Ck.pre ?_; first | refine Ck.mk rfl ?_) | (refine LetL.pre ?_; first | refine LetL.mk (ty := aty) _ (app_ach out (⟨1, s, c, 50 + 5 * v2, 10 * v3, (⟨true, true⟩, [1000001 + v4]), 0, none⟩) _ rfl) ?_)))); (try (conv => whnf)))






    refine VS.of_V T_ok mixed rfl ?_
    ((repeat ((conv => whnf); (first | (refine As.pre ?_; first | refine As.mk rfl ?_) | (refine LetI.pre ?_; first | refine LetI.wrap (by omega) (by omega) ?_) | (refine Ck.pre ?_; first | refine Ck.mk rfl ?_)))); (try (conv => whnf)))
    refine LoopN.weak ?sw1 (ih (i + 1, out ++ [⟨1, s, c, 50 + 5 * v2, 10 * v3, (⟨true, true⟩, [1000001 + v4]), 0, none⟩]) ⟨by omega, h3.add ⟨.inl ⟨rfl, rfl⟩, Nat.le_of_ble_eq_true rfl⟩⟩ (by omega))
    case sw1 => exact SW.mk (fun _ => 3) rfl rfl (namesAll.row (pure_ach _) rfl) ⟨.refl _, VLe2.slm_of (by simp), VLe2.int (by omega), trivial⟩ (haveV.row (pure_ach _) rfl trivial)
  rw [show (v5 == 0) = true from beq_iff_eq.2 h5]
  refine VS.condT rfl rfl ?_
  refine VS.cut T_ok mixed rfl ?_
  ((repeat ((conv => whnf); (first | (refine LetN.pre ?_; first | ((conv => arg 1; whnf); refine LetN.mk ?_)) | (refine As.pre ?_; first | refine As.mk rfl ?_) | (refine LetI.pre ?_; first | refine LetI.wrap (by omega) (by omega) ?_) | (refine Ck.pre ?_; first | refine Ck.mk rfl ?_) | (refine LetL.pre ?_; first | refine LetL.mk (ty := aty) [.agg [_, _, _, _, _, _, _, _]] rfl ?_ | refine LetL.mk [_] rfl ?_) | (refine CallN.pre ?_; first | refine CallN.own (fun _ => 1) N6 (CallOk.mk' rfl rfl rfl (namesAll.row rfl rfl) rfl (namesAll.row rfl rfl) (haveAll.row rfl rfl trivial)) ?_)))); (try (conv => whnf)))






  refine VS.cut T_ok mixed rfl ?_
  ((repeat ((conv => whnf); (first | (refine LetN.pre ?_; first | ((conv => arg 1; whnf); refine LetN.mk ?_)) | (refine As.pre ?_; first | refine As.mk rfl ?_) | (refine LetI.pre ?_; first | refine LetI.wrap (by omega) (by omega) ?_) | (refine Ck.pre ?_; first | refine Ck.mk rfl ?_) | (refine LetL.pre ?_; first | refine LetL.mk [_] rfl ?_) | (refine CallN.pre ?_; first | refine CallN.own (fun _ => 1) N7 (CallOk.mk' rfl rfl rfl (namesAll.row rfl rfl) rfl (namesAll.row rfl rfl) (haveAll.row rfl rfl trivial)) ?_)))); (try (conv => whnf)))






  refine VS.cut T_ok mixed rfl ?_
  ((repeat ((conv => whnf); (first | (refine LetN.pre ?_; first | ((conv => arg 1; whnf); refine LetN.mk ?_)) | (refine As.pre ?_; first | refine As.mk rfl ?_) | (refine Ck.pre ?_; first | refine Ck.mk rfl ?_) | (refine LetL.pre ?_; first | refine LetL.mk (ty := aty) [.agg [_, _, _, _, _, _, _, _]] rfl ?_)))); (try (conv => whnf)))





  refine VS.weak (s1 := mdR7 L fl i out fx xs a7 ⟨1 + v6, s, c, 50 + 5 * v2, 10 * v3, (⟨true, true⟩, [2000001 + v7]), 0, none⟩ (2000001 + v7)) ?swc ?_
  case swc => exact SW.mk id rfl rfl (namesAll.row (pure_ach _) (namesAll.row rfl (namesAll.row rfl rfl))) ⟨.refl _, .refl _, .refl _, .refl _, .refl _, .refl _, trivial⟩ (haveV.row (pure_ach _) rfl (haveV.row rfl rfl (haveV.row rfl rfl trivial)))
  refine VS.seq ?_
  refine VS.cut T_ok mixed rfl ?_
  ((repeat ((conv => whnf); (first | (refine LetN.pre ?_; first | ((conv => arg 1; whnf); refine LetN.mk ?_)) | (refine As.pre ?_; first | refine As.mk rfl ?_) | (refine LetB.pre ?_; first | refine LetB.mk _ rfl ?_) | (refine Ck.pre ?_; first | refine Ck.mk rfl ?_) | (refine LetL.pre ?_; first | refine LetL.mk [_] rfl ?_) | (refine CallN.pre ?_; first | refine CallN.own (fun _ => 1) N8 (CallOk.mk' rfl rfl rfl (namesAll.row rfl rfl) rfl (namesAll.row rfl rfl) (haveAll.row rfl rfl trivial)) ?_)))); (try (conv => whnf)))






  by_cases h8 : v8 = 0
  case neg =>
    rw [show (v8 == 0) = false from beq_eq_false_iff_ne.2 h8]
    refine VS.condF rfl rfl (VS.skip ?_)
    refine VS.weak (s1 := mdR L fl i out fx xs a8 ⟨1 + v6, s, c, 50 + 5 * v2, 10 * v3, (⟨true, true⟩, [2000001 + v7]), 0, none⟩) ?swd ?_
    case swd => exact SW.mk id rfl rfl (namesAll.row (pure_ach _) (namesAll.row rfl (namesAll.row rfl rfl))) ⟨.refl _, .refl _, .refl _, .refl _, .refl _, trivial⟩ (haveV.row (pure_ach _) rfl (haveV.row rfl rfl (haveV.row rfl rfl trivial)))
    refine VS.cut T_ok mixed rfl ?_
    ((repeat ((conv => whnf); (first | (refine LetN.pre ?_; first | ((conv => arg 1; whnf); refine LetN.mk ?_)) | (refine As.pre ?_; first | refine As.mk rfl ?_) | (refine LetI.pre ?_; first | refine LetI.wrap (by omega) (by omega) ?_) | (refine Ck.pre ?_; first | refine Ck.mk rfl ?_) | (refine LetL.pre ?_; first | refine LetL.mk (ty := aty) [.agg [_, _, _, _, _, _, _, _]] rfl ?_ | refine LetL.mk [_] rfl ?_) | (refine CallN.pre ?_; first | refine CallN.own (fun _ => 1) N10 (CallOk.mk' rfl rfl rfl (namesAll.row rfl rfl) rfl (namesAll.row rfl rfl) (haveAll.row rfl rfl trivial)) ?_)))); (try (conv => whnf)))






    refine VS.of_V T_ok mixed rfl ?_
    ((repeat ((conv => whnf); (first | (refine LetN.pre ?_; first | ((conv => arg 1; whnf); refine LetN.mk ?_)) | (refine As.pre ?_; first | refine As.mk rfl ?_) | (refine LetV.pre ?_; first | refine LetV.mk (.sc (.int _ _)) rfl ?_) | (refine Ck.pre ?_; first | refine Ck.mk rfl ?_) | (refine LetL.pre ?_; first | refine LetL.mk (ty := aty) [.agg [_, _, _, _, _, _, _, _]] rfl ?_)))); (try (conv => whnf)))





    refine VS.weak (s1 := mdR L fl i out fx xs a10 ⟨1 + v6, s, c, 50 + 5 * v2, 10 * v3, (⟨true, true⟩, [2000001 + v7]), 1 + v10, some (⟨true, true⟩, [1 + v10])⟩) ?swe ?_
    case swe => exact SW.mk id rfl rfl (namesAll.row (pure_ach _) (namesAll.row rfl (namesAll.row rfl rfl))) ⟨.refl _, .refl _, .refl _, .refl _, .refl _, trivial⟩ (haveV.row (pure_ach _) rfl (haveV.row rfl rfl (haveV.row rfl rfl trivial)))
    refine VS.of_V T_ok mixed rfl ?_
    ((repeat ((conv => whnf); (first | (refine LetN.pre ?_; first | ((conv => arg 1; whnf); refine LetN.mk ?_)) | (refine As.pre ?_; first | refine As.mk rfl ?_ | (refine As.mk ?_ ?_; · ((repeat' (refine andT ?_ ?_)) <;> (first | rfl | assumption | exact decide_eq_true (by omega) | exact decide_eq_true (by dsimp only; omega) | exact decide_eq_true (by simp; omega) | (simp; done))))) | (refine LetV.pre ?_; first | refine LetV.mk (.agg _) rfl ?_) | (refine Ck.pre ?_; first | refine Ck.mk rfl ?_) | (refine LetL.pre ?_; first | refine LetL.mk (ty := aty) _ (app_ach out (⟨1 + v6, s, c, 50 + 5 * v2, 10 * v3, (⟨true, true⟩, [2000001 + v7]), 1 + v10, some (⟨true, true⟩, [1 + v10])⟩) _ rfl) ?_)))); (try (conv => whnf)))






    refine VS.of_V T_ok mixed rfl ?_
    ((repeat ((conv => whnf); (first | (refine As.pre ?_; first | refine As.mk rfl ?_) | (refine LetI.pre ?_; first | refine LetI.wrap (by omega) (by omega) ?_) | (refine Ck.pre ?_; first | refine Ck.mk rfl ?_)))); (try (conv => whnf)))
    refine LoopN.weak ?sw2 (ih (i + 1, out ++ [⟨1 + v6, s, c, 50 + 5 * v2, 10 * v3, (⟨true, true⟩, [2000001 + v7]), 1 + v10, some (⟨true, true⟩, [1 + v10])⟩]) ⟨by omega, h3.add ⟨.inr ⟨⟨by show (1 : Int) ≤ 1 + v10; omega, by show 1 + v10 ≤ (3 : Int); omega⟩, rfl⟩, Nat.le_of_ble_eq_true rfl⟩⟩ (by omega))
    case sw2 => exact SW.mk (fun _ => 3) rfl rfl (namesAll.row (pure_ach _) rfl) ⟨.refl _, VLe2.slm_of (by simp), VLe2.int (by omega), trivial⟩ (haveV.row (pure_ach _) rfl trivial)
  rw [show (v8 == 0) = true from beq_iff_eq.2 h8]
  refine VS.condT rfl rfl ?_
  refine VS.of_V T_ok mixed rfl ?_
  ((repeat ((conv => whnf); (first | (refine LetN.pre ?_; first | ((conv => arg 1; whnf); refine LetN.mk ?_)) | (refine As.pre ?_; first | refine As.mk rfl ?_) | (refine LetI.pre ?_; first | refine LetI.wrap (by omega) (by omega) ?_) | (refine Ck.pre ?_; first | refine Ck.mk rfl ?_) | (refine LetL.pre ?_; first | refine LetL.mk (ty := aty) [.agg [_, _, _, _, _, _, _, _]] rfl ?_ | refine LetL.mk [_] rfl ?_) | (refine CallN.pre ?_; first | refine CallN.own (fun _ => 1) N9 (CallOk.mk' rfl rfl rfl (namesAll.row rfl rfl) rfl (namesAll.row rfl rfl) (haveAll.row rfl rfl trivial)) ?_)))); (try (conv => whnf)))






  refine VS.weak (s1 := mdR L fl i out fx xs a9 ⟨1 + v6, s, c, 50 + 5 * v2, 10 * v3, (⟨true, true⟩, [2000001 + v7, 2000001 + v7 + 1 + v9]), 0, none⟩) ?swf ?_
  case swf => exact SW.mk id rfl rfl (namesAll.row (pure_ach _) (namesAll.row rfl (namesAll.row rfl rfl))) ⟨.refl _, .refl _, .refl _, .refl _, .refl _, trivial⟩ (haveV.row (pure_ach _) rfl (haveV.row rfl rfl (haveV.row rfl rfl trivial)))
  refine VS.cut T_ok mixed rfl ?_
  ((repeat ((conv => whnf); (first | (refine LetN.pre ?_; first | ((conv => arg 1; whnf); refine LetN.mk ?_)) | (refine As.pre ?_; first | refine As.mk rfl ?_) | (refine LetI.pre ?_; first | refine LetI.wrap (by omega) (by omega) ?_) | (refine Ck.pre ?_; first | refine Ck.mk rfl ?_) | (refine LetL.pre ?_; first | refine LetL.mk (ty := aty) [.agg [_, _, _, _, _, _, _, _]] rfl ?_ | refine LetL.mk [_] rfl ?_) | (refine CallN.pre ?_; first | refine CallN.own (fun _ => 1) N11 (CallOk.mk' rfl rfl rfl (namesAll.row rfl rfl) rfl (namesAll.row rfl rfl) (haveAll.row rfl rfl trivial)) ?_)))); (try (conv => whnf)))






  refine VS.of_V T_ok mixed rfl ?_
  ((repeat ((conv => whnf); (first | (refine LetN.pre ?_; first | ((conv => arg 1; whnf); refine LetN.mk ?_)) | (refine As.pre ?_; first | refine As.mk rfl ?_) | (refine LetV.pre ?_; first | refine LetV.mk (.sc (.int _ _)) rfl ?_) | (refine Ck.pre ?_; first | refine Ck.mk rfl ?_) | (refine LetL.pre ?_; first | refine LetL.mk (ty := aty) [.agg [_, _, _, _, _, _, _, _]] rfl ?_)))); (try (conv => whnf)))





  refine VS.weak (s1 := mdR L fl i out fx xs a11 ⟨1 + v6, s, c, 50 + 5 * v2, 10 * v3, (⟨true, true⟩, [2000001 + v7, 2000001 + v7 + 1 + v9]), 1 + v11, some (⟨true, true⟩, [1 + v11])⟩) ?swg ?_
  case swg => exact SW.mk id rfl rfl (namesAll.row (pure_ach _) (namesAll.row rfl (namesAll.row rfl rfl))) ⟨.refl _, .refl _, .refl _, .refl _, .refl _, trivial⟩ (haveV.row (pure_ach _) rfl (haveV.row rfl rfl (haveV.row rfl rfl trivial)))
  refine VS.of_V T_ok mixed rfl ?_
  ((repeat ((conv => whnf); (first | (refine LetN.pre ?_; first | ((conv => arg 1; whnf); refine LetN.mk ?_)) | (refine As.pre ?_; first | refine As.mk rfl ?_ | (refine As.mk ?_ ?_; · ((repeat' (refine andT ?_ ?_)) <;> (first | rfl | assumption | exact decide_eq_true (by omega) | exact decide_eq_true (by dsimp only; omega) | exact decide_eq_true (by simp; omega) | (simp; done))))) | (refine LetV.pre ?_; first | refine LetV.mk (.agg _) rfl ?_) | (refine Ck.pre ?_; first | refine Ck.mk rfl ?_) | (refine LetL.pre ?_; first | refine LetL.mk (ty := aty) _ (app_ach out (⟨1 + v6, s, c, 50 + 5 * v2, 10 * v3, (⟨true, true⟩, [2000001 + v7, 2000001 + v7 + 1 + v9]), 1 + v11, some (⟨true, true⟩, [1 + v11])⟩) _ rfl) ?_)))); (try (conv => whnf)))






  refine VS.of_V T_ok mixed rfl ?_
  ((repeat ((conv => whnf); (first | (refine As.pre ?_; first | refine As.mk rfl ?_) | (refine LetI.pre ?_; first | refine LetI.wrap (by omega) (by omega) ?_) | (refine Ck.pre ?_; first | refine Ck.mk rfl ?_)))); (try (conv => whnf)))
  refine LoopN.weak ?sw3 (ih (i + 1, out ++ [⟨1 + v6, s, c, 50 + 5 * v2, 10 * v3, (⟨true, true⟩, [2000001 + v7, 2000001 + v7 + 1 + v9]), 1 + v11, some (⟨true, true⟩, [1 + v11])⟩]) ⟨by omega, h3.add ⟨.inr ⟨⟨by show (1 : Int) ≤ 1 + v11; omega, by show 1 + v11 ≤ (3 : Int); omega⟩, rfl⟩, Nat.le_of_ble_eq_true rfl⟩⟩ (by omega))
  case sw3 => exact SW.mk (fun _ => 3) rfl rfl (namesAll.row (pure_ach _) rfl) ⟨.refl _, VLe2.slm_of (by simp), VLe2.int (by omega), trivial⟩ (haveV.row (pure_ach _) rfl trivial)
end En
end Go.Proofs.Ytiefcppgbnfbfaa
namespace Go.Proofs.Ytiefcppgbnfbfaa.Am
open Go
/-- An owned row, told with less. -/
theorem AFun.rowle {P : Program} {f : FuncId} {p : Nat} {vs : List AV} {H : AH} {v : AV} {id E : Nat} {ty : TypeId} {es es' : List AV} (h : AFun P f p vs H v [(id, .row E ty es)]) (hl : es.length = es'.length) (hc : ∀ (i : Nat) (e' : AV), es'[i]? = some e' → ∃ e, es[i]? = some e ∧ VLe2L e.cells e'.cells) : AFun P f p vs H v [(id, .row E ty es')] := fun w g xs hn hx hH hN =>
  (h w g xs hn hx hH hN).mono fun e w' ⟨x, g', he, hA, hcv, hH'⟩ => by
    have g1 : ∀ {es : List AV} {j : Nat} {B : Blk}, AH.get [(id, Blk.row E ty es)] j = some B → j = id ∧ B = .row E ty es := fun {es j B} hg => by
      simp only [AH.get] at hg
      split at hg
      · rename_i e; injection hg with hg; exact ⟨e, hg.symm⟩
      · cases hg
    have g0 : ∀ {es : List AV}, AH.get [(id, Blk.row E ty es)] id = some (.row E ty es) := by simp [AH.get]
    refine ⟨x, g', he, ⟨hA.φ, hA.I, hA.sz, hA.ext, fun j B b F hi hb hlt => ?_, hA.imm⟩, hcv, ⟨fun j B hi => ?_, fun i j b F F' A B hi hj h1 h2 => ?_, fun j b F B hi h1 => ?_, hH'.lt⟩⟩
    · obtain ⟨rfl, rfl⟩ := g1 hi
      exact hA.own _ _ b F g0 hb hlt
    · obtain ⟨rfl, rfl⟩ := g1 hi
      obtain ⟨h0, hr⟩ := hH'.rel _ _ g0
      refine ⟨fun e he => ?_, ?_⟩
      · obtain ⟨i, hi⟩ := List.getElem?_of_mem he
        obtain ⟨d, hd, hle⟩ := hc i e hi
        rw [← hle.get.1]; exact h0 d (List.mem_of_getElem? hd)
      · rcases hr with ⟨h1, h2⟩ | ⟨b, cs, h1, h2, h3, h4⟩
        · exact .inl ⟨h1, List.eq_nil_of_length_eq_zero (by rw [← hl, h2]; rfl)⟩
        · refine .inr ⟨b, cs, h1, h2, by rw [← hl]; exact h3, fun i k e c hi hk => ?_⟩
          obtain ⟨d, hd, hle⟩ := hc i e hi
          obtain ⟨a, ha, hcl⟩ := hle.get.2 k c hk
          obtain ⟨y, hy, hcy⟩ := h4 i k d a hd ha
          exact ⟨y, hy, hcl _ _ _ hcy⟩
    · obtain ⟨rfl, rfl⟩ := g1 hi
      obtain ⟨rfl, rfl⟩ := g1 hj
      rfl
    · obtain ⟨rfl, rfl⟩ := g1 hi
      exact hH'.imm _ _ _ _ g0 h1
end Go.Proofs.Ytiefcppgbnfbfaa.Am
namespace Go.Proofs.Ytiefcppgbnfbfaa
open Go.Proofs.Ytiefcppgbnfbfaa.Am
set_option maxRecDepth 100000
namespace En
/-- What is known of a made achievement. -/
def okC (a : Ac) : Prop := (a.bundle = 0 ∧ a.path = [] ∨ (1 ≤ a.bundle ∧ a.bundle ≤ 3) ∧ a.path = [a.bundle]) ∧ a.src.length ≤ 2
theorem Made_c (L : List (Fl × List Int)) (fl : Fl) (hL : L.length ≤ 9223372036854775807) (hxs : ∀ x ∈ L, x.2.length ≤ 9223372036854775807) : ∃ l : List Ac, (l.length ≤ 8 ∧ ∀ a ∈ l, okC a) ∧ AFun Try.prog 19 0 [.ro fl 1 (L.map iA)] [] (.slm {} 0 8 0 l.length) [(0, .row 8 aty (l.map acA))] := by
  obtain ⟨l, h, hM⟩ := Made_f L fl hL hxs
  refine ⟨l.map Ach.ac, ⟨by rw [List.length_map]; exact h.len, fun a ha => ?_⟩, ?_⟩
  · obtain ⟨x, hx, rfl⟩ := List.mem_map.1 ha
    exact h.ok x hx
  · rw [List.length_map]
    refine hM.rowle (by simp) fun i e he => ?_
    rw [List.getElem?_map, List.getElem?_map] at he
    cases hx : l[i]? with
    | none => rw [hx] at he; cases he
    | some x =>
      rw [hx] at he
      injection he with he
      subst he
      exact ⟨achA x, by rw [List.getElem?_map, hx]; rfl, ac_le x⟩
abbrev ity : TypeId := 3
abbrev cpA (a : Ac) (es ps : List AV) : AV := .agg [int a.school, str a.code, int a.credits, int a.grade, int a.day, .slm ⟨false, true⟩ 3 1 0 (0 + es.length), int a.bundle, .slm ⟨false, true⟩ 5 1 0 (0 + ps.length)]
theorem stor_int (l : List Int) : storables (l.map int) = true := by
  refine List.all_eq_true.2 fun e he => ?_
  obtain ⟨x, _, rfl⟩ := List.mem_map.1 he
  rfl
set_option maxRecDepth 100000 in
theorem Copy_s (a : Ac) (es ps : List AV) (he : es.length ≤ 1000) (hp : ps.length ≤ 1000) (hse : storables es = true) (hsp : storables ps = true) : AFun Try.prog 53 0 [.agg [int a.school, str a.code, int a.credits, int a.grade, int a.day, .ro {} 1 es, int a.bundle, .ro {} 1 ps]] [] (cpA a es ps) [(3, .row 1 ity es), (5, .row 1 ity ps)] := by
  refine AFun.of_W T_ok mixed Try.func53 rfl (Nat.le_of_ble_eq_true rfl) rfl ?_
  have hr1 := room_int (n := 0 + es.length) (by omega)
  have hr2 := room_int (n := 0 + ps.length) (by omega)
  ((repeat ((conv => whnf); (first | (refine LetN.pre ?_; first | ((conv => arg 1; whnf); refine LetN.mk ?_)) | (refine As.pre ?_; first | refine As.mk rfl ?_ | (refine As.mk ?_ ?_; · ((repeat' (refine andT ?_ ?_)) <;> (first | rfl | assumption | exact decide_eq_true (by omega) | exact decide_eq_true (by dsimp only; omega) | exact decide_eq_true (by simp; omega) | (simp; done))))) | (refine LetV.pre ?_; first | refine LetV.mk (.agg _) rfl ?_ | refine LetV.mk (.ro _ _ _) rfl ?_) | (refine Ck.pre ?_; first | refine Ck.mk rfl ?_) | (refine LetL.pre ?_; first | refine LetL.mk (ty := aty) [.agg [_, _, _, _, _, _, _, _]] rfl ?_ | refine LetL.mk _ rfl ?_)))); (try (conv => whnf)))


  exact ⟨.inl rfl, ⟨_, rfl, rfl⟩, rfl, rfl, trivial⟩
/-- What Odd gives: one number more at the most. -/
def okO (a o : Ac) : Prop := o.src.length ≤ a.src.length + 1 ∧ o.path.length ≤ a.path.length + 1
theorem frzA {f : FuncId} {vs : List AV} {i j n m : Nat} {f1 f2 : Fl} (o : Ac) (h : AFun Try.prog f 0 vs [] (.agg [int o.school, str o.code, int o.credits, int o.grade, int o.day, .slm f1 i 1 0 n, int o.bundle, .slm f2 j 1 0 m]) [(i, .row 1 ity (o.src.map int)), (j, .row 1 ity (o.path.map int))]) (hij : i ≠ j) (hn : n = o.src.length) (hm : m = o.path.length) : AFun Try.prog f 0 vs [] (acA o) [] := by
  subst hn hm
  have h1 : AH.get [(i, Blk.row 1 ity (o.src.map int)), (j, .row 1 ity (o.path.map int))] i = some (.row 1 ity (o.src.map int)) := by simp [AH.get]
  have h2 : AH.get [(i, Blk.row 1 ity (o.src.map int)), (j, .row 1 ity (o.path.map int))] j = some (.row 1 ity (o.path.map int)) := by simp [AH.get, Ne.symm hij]
  have hF := AFun.frz [i, j] h (by simp [rowsOk, h1, h2, pure_int]) (by simp [AH.frzOk]) (by simp [AV.frzOk, AV.frzOkL, h1, h2])
  refine (hF.cast (v' := .agg [int o.school, str o.code, int o.credits, int o.grade, int o.day, ro1 f1 o.src, int o.bundle, ro1 f2 o.path]) (H' := []) ?_ ?_).res (CLe.agg ⟨.refl _, .refl _, .refl _, .refl _, .refl _, VLe2.ro_of rfl, .refl _, VLe2.ro_of rfl, trivial⟩)
  · simp [AV.frz, AV.frzL, h1, h2, List.take_of_length_le]
  · simp [AH.frz]
theorem word4 (n : Int) (h : 0 ≤ n ∧ n < 4) : ∃ s : ByteArray, str s = ([str ⟨#[65, 49]⟩, str ⟨#[66, 49]⟩, str ⟨#[]⟩, str ⟨#[65]⟩] : List AV).getD n.toNat (.sc undef) := by
  obtain ⟨m, rfl⟩ : ∃ m : Nat, n = m := ⟨n.toNat, by omega⟩
  have : m = 0 ∨ m = 1 ∨ m = 2 ∨ m = 3 := by omega
  rcases this with rfl | rfl | rfl | rfl <;> exact ⟨_, rfl⟩
theorem app_int (l : List Int) (e : Int) (n : Nat) (h : n = 0 + l.length) : (l ++ [e]).map int = (l.map int).take n ++ [int e] := by rw [List.take_of_length_le (by simp [h]), List.map_append]; rfl
set_option maxHeartbeats 1600000 in
set_option maxRecDepth 100000 in
theorem Odd_0 (a : Ac) (n : Int) (o : Ac) (ho : o = { a with school := n.tmod 9 }) (q : Int × Int) (ha : a.src.length ≤ 900 ∧ a.path.length ≤ 900) (hn2 : 0 ≤ n ∧ n < 40) (hn : (q.2.tmod 40 + 40).tmod 40 = n) (hm : (q.1.tmod 8 + 8).tmod 8 = 0) : AFun Try.prog 26 0 [acA a, .agg [int q.1, int q.2]] [] (acA o) [] := by
  refine frzA (i := 3) (j := 5) (n := (0 + (a.src.map int).length)) (m := (0 + (a.path.map int).length)) (f1 := ⟨false, true⟩) (f2 := ⟨false, true⟩) o ?_ (by decide) (by subst ho; simp) (by subst ho; simp)
  subst ho
  refine AFun.of_W T_ok mixed Try.func26 rfl (Nat.le_of_ble_eq_true rfl) rfl ?_
  have hC := Copy_s a (a.src.map int) (a.path.map int) (by simp; omega) (by simp; omega) (stor_int _) (stor_int _)
  have hok : CallOk 0 (fun i => i) _ _ _ _ [(0, .row 8 aty [acA a]), (1, .row 2 28 [.agg [int q.1, int q.2]]), (2, .row 8 aty [.agg [int 0, str ⟨#[]⟩, int 0, int 0, int 0, .sc (.slice none 0 0), int 0, .sc (.slice none 0 0)]])] _ := CallOk.mk' (vs := [acA a]) (H := []) (v := cpA a (a.src.map int) (a.path.map int)) (H' := [(3, .row 1 ity (a.src.map int)), (5, .row 1 ity (a.path.map int))]) rfl rfl rfl rfl rfl (namesAll.row (pure_int _) (namesAll.row (pure_int _) rfl)) trivial
  have hM1 := Mod_f q.2 40 (by omega)
  have hM2 := Mod_f q.1 8 (by omega)
  rw [hn] at hM1
  rw [hm] at hM2
  have b9 := tmod_bound n (m := 9) (by omega)
  have b5 := tmod_bound n (m := 5) (by omega)
  have b4 := tmod_bound n (m := 4) (by omega)
  have b3 := tmod_bound n (m := 3) (by omega)
  have p4 := tmod_pos 4 hn2.1
  have hl1 : (a.src.map int).length = a.src.length := List.length_map _
  have hl2 : (a.path.map int).length = a.path.length := List.length_map _
  have hr1 := room_int (n := (0 + (a.src.map int).length) + 1) (by omega)
  have hr2 := room_int (n := (0 + (a.path.map int).length) + 1) (by omega)
  ((repeat ((conv => whnf); (first | (refine LetN.pre ?_; first | ((conv => arg 1; whnf); refine LetN.mk ?_)) | (refine As.pre ?_; first | refine As.mk rfl ?_) | (refine LetV.pre ?_; first | refine LetV.mk (.sc (.int _ _)) rfl ?_ | refine LetV.mk (.agg _) rfl ?_) | (refine LetI.pre ?_; first | refine LetI.mk _ rfl ?_) | (refine LetB.pre ?_; first | refine LetB.tt rfl ?_) | (refine Br.pre ?_; first | refine Br.tt rfl ?_) | (refine Ck.pre ?_; first | refine Ck.mk rfl ?_) | (refine LetL.pre ?_; first | refine LetL.mk (ty := aty) [.agg [_, _, _, _, _, _, _, _]] rfl ?_ | refine LetL.mk (ty := ity) _ (renL_none (pure_int _)).symm ?_) | (refine CallN.pre ?_; first | refine CallN.own (fun i => i) hC hok ?_ | refine CallN.pure hM1 rfl rfl ?_ | refine CallN.pure hM2 rfl rfl ?_)))); (try (conv => whnf)))





  exact ⟨.inl rfl, ⟨_, rfl, rfl⟩, rfl, rfl, trivial⟩
set_option maxHeartbeats 1600000 in
set_option maxRecDepth 100000 in
theorem Odd_1 (a : Ac) (n : Int) (s : ByteArray) (hs : str s = ([str ⟨#[65, 49]⟩, str ⟨#[66, 49]⟩, str ⟨#[]⟩, str ⟨#[65]⟩] : List AV).getD (n.tmod 4).toNat (.sc undef)) (o : Ac) (ho : o = { a with code := s }) (q : Int × Int) (ha : a.src.length ≤ 900 ∧ a.path.length ≤ 900) (hn2 : 0 ≤ n ∧ n < 40) (hn : (q.2.tmod 40 + 40).tmod 40 = n) (hm : (q.1.tmod 8 + 8).tmod 8 = 1) : AFun Try.prog 26 0 [acA a, .agg [int q.1, int q.2]] [] (acA o) [] := by
  refine frzA (i := 3) (j := 5) (n := (0 + (a.src.map int).length)) (m := (0 + (a.path.map int).length)) (f1 := ⟨false, true⟩) (f2 := ⟨false, true⟩) o ?_ (by decide) (by subst ho; simp) (by subst ho; simp)
  subst ho
  refine AFun.of_W T_ok mixed Try.func26 rfl (Nat.le_of_ble_eq_true rfl) rfl ?_
  have hC := Copy_s a (a.src.map int) (a.path.map int) (by simp; omega) (by simp; omega) (stor_int _) (stor_int _)
  have hok : CallOk 0 (fun i => i) _ _ _ _ [(0, .row 8 aty [acA a]), (1, .row 2 28 [.agg [int q.1, int q.2]]), (2, .row 8 aty [.agg [int 0, str ⟨#[]⟩, int 0, int 0, int 0, .sc (.slice none 0 0), int 0, .sc (.slice none 0 0)]])] _ := CallOk.mk' (vs := [acA a]) (H := []) (v := cpA a (a.src.map int) (a.path.map int)) (H' := [(3, .row 1 ity (a.src.map int)), (5, .row 1 ity (a.path.map int))]) rfl rfl rfl rfl rfl (namesAll.row (pure_int _) (namesAll.row (pure_int _) rfl)) trivial
  have hM1 := Mod_f q.2 40 (by omega)
  have hM2 := Mod_f q.1 8 (by omega)
  rw [hn] at hM1
  rw [hm] at hM2
  have b9 := tmod_bound n (m := 9) (by omega)
  have b5 := tmod_bound n (m := 5) (by omega)
  have b4 := tmod_bound n (m := 4) (by omega)
  have b3 := tmod_bound n (m := 3) (by omega)
  have p4 := tmod_pos 4 hn2.1
  have hl1 : (a.src.map int).length = a.src.length := List.length_map _
  have hl2 : (a.path.map int).length = a.path.length := List.length_map _
  have hr1 := room_int (n := (0 + (a.src.map int).length) + 1) (by omega)
  have hr2 := room_int (n := (0 + (a.path.map int).length) + 1) (by omega)
  ((repeat ((conv => whnf); (first | (refine LetN.pre ?_; first | ((conv => arg 1; whnf); refine LetN.mk ?_)) | (refine As.pre ?_; first | refine As.mk rfl ?_ | (refine As.mk ?_ ?_; · ((repeat' (refine andT ?_ ?_)) <;> (first | rfl | assumption | exact decide_eq_true (by omega) | exact decide_eq_true (by dsimp only; omega) | exact decide_eq_true (by simp; omega) | (simp; done))))) | (refine LetV.pre ?_; first | refine LetV.mk (t := 72) _ hs ?_ | refine LetV.mk (.sc (.int _ _)) rfl ?_ | refine LetV.mk (.sc _) rfl ?_ | refine LetV.mk (.agg _) rfl ?_) | (refine LetI.pre ?_; first | refine LetI.mk _ rfl ?_) | (refine LetB.pre ?_; first | refine LetB.tt rfl ?_ | refine LetB.ff rfl ?_) | (refine Br.pre ?_; first | refine Br.tt rfl ?_ | refine Br.ff rfl ?_) | (refine Ck.pre ?_; first | refine Ck.mk rfl ?_) | (refine LetL.pre ?_; first | refine LetL.mk (ty := aty) [.agg [_, _, _, _, _, _, _, _]] rfl ?_ | refine LetL.mk (ty := ity) _ (renL_none (pure_int _)).symm ?_) | (refine CallN.pre ?_; first | refine CallN.own (fun i => i) hC hok ?_ | refine CallN.pure hM1 rfl rfl ?_ | refine CallN.pure hM2 rfl rfl ?_)))); (try (conv => whnf)))






  exact ⟨.inl rfl, ⟨_, rfl, rfl⟩, rfl, rfl, trivial⟩
set_option maxHeartbeats 1600000 in
set_option maxRecDepth 100000 in
theorem Odd_2 (a : Ac) (n : Int) (o : Ac) (ho : o = { a with credits := n }) (q : Int × Int) (ha : a.src.length ≤ 900 ∧ a.path.length ≤ 900) (hn2 : 0 ≤ n ∧ n < 40) (hn : (q.2.tmod 40 + 40).tmod 40 = n) (hm : (q.1.tmod 8 + 8).tmod 8 = 2) : AFun Try.prog 26 0 [acA a, .agg [int q.1, int q.2]] [] (acA o) [] := by
  refine frzA (i := 3) (j := 5) (n := (0 + (a.src.map int).length)) (m := (0 + (a.path.map int).length)) (f1 := ⟨false, true⟩) (f2 := ⟨false, true⟩) o ?_ (by decide) (by subst ho; simp) (by subst ho; simp)
  subst ho
  refine AFun.of_W T_ok mixed Try.func26 rfl (Nat.le_of_ble_eq_true rfl) rfl ?_
  have hC := Copy_s a (a.src.map int) (a.path.map int) (by simp; omega) (by simp; omega) (stor_int _) (stor_int _)
  have hok : CallOk 0 (fun i => i) _ _ _ _ [(0, .row 8 aty [acA a]), (1, .row 2 28 [.agg [int q.1, int q.2]]), (2, .row 8 aty [.agg [int 0, str ⟨#[]⟩, int 0, int 0, int 0, .sc (.slice none 0 0), int 0, .sc (.slice none 0 0)]])] _ := CallOk.mk' (vs := [acA a]) (H := []) (v := cpA a (a.src.map int) (a.path.map int)) (H' := [(3, .row 1 ity (a.src.map int)), (5, .row 1 ity (a.path.map int))]) rfl rfl rfl rfl rfl (namesAll.row (pure_int _) (namesAll.row (pure_int _) rfl)) trivial
  have hM1 := Mod_f q.2 40 (by omega)
  have hM2 := Mod_f q.1 8 (by omega)
  rw [hn] at hM1
  rw [hm] at hM2
  have b9 := tmod_bound n (m := 9) (by omega)
  have b5 := tmod_bound n (m := 5) (by omega)
  have b4 := tmod_bound n (m := 4) (by omega)
  have b3 := tmod_bound n (m := 3) (by omega)
  have p4 := tmod_pos 4 hn2.1
  have hl1 : (a.src.map int).length = a.src.length := List.length_map _
  have hl2 : (a.path.map int).length = a.path.length := List.length_map _
  have hr1 := room_int (n := (0 + (a.src.map int).length) + 1) (by omega)
  have hr2 := room_int (n := (0 + (a.path.map int).length) + 1) (by omega)
  ((repeat ((conv => whnf); (first | (refine LetN.pre ?_; first | ((conv => arg 1; whnf); refine LetN.mk ?_)) | (refine As.pre ?_; first | refine As.mk rfl ?_) | (refine LetV.pre ?_; first | refine LetV.mk (.sc (.int _ _)) rfl ?_ | refine LetV.mk (.agg _) rfl ?_) | (refine LetB.pre ?_; first | refine LetB.tt rfl ?_ | refine LetB.ff rfl ?_) | (refine Br.pre ?_; first | refine Br.tt rfl ?_ | refine Br.ff rfl ?_) | (refine Ck.pre ?_; first | refine Ck.mk rfl ?_) | (refine LetL.pre ?_; first | refine LetL.mk (ty := aty) [.agg [_, _, _, _, _, _, _, _]] rfl ?_ | refine LetL.mk (ty := ity) _ (renL_none (pure_int _)).symm ?_) | (refine CallN.pre ?_; first | refine CallN.own (fun i => i) hC hok ?_ | refine CallN.pure hM1 rfl rfl ?_ | refine CallN.pure hM2 rfl rfl ?_)))); (try (conv => whnf)))





  exact ⟨.inl rfl, ⟨_, rfl, rfl⟩, rfl, rfl, trivial⟩
set_option maxHeartbeats 1600000 in
set_option maxRecDepth 100000 in
theorem Odd_3 (a : Ac) (n : Int) (o : Ac) (ho : o = { a with grade := 5 * n - 50 }) (q : Int × Int) (ha : a.src.length ≤ 900 ∧ a.path.length ≤ 900) (hn2 : 0 ≤ n ∧ n < 40) (hn : (q.2.tmod 40 + 40).tmod 40 = n) (hm : (q.1.tmod 8 + 8).tmod 8 = 3) : AFun Try.prog 26 0 [acA a, .agg [int q.1, int q.2]] [] (acA o) [] := by
  refine frzA (i := 3) (j := 5) (n := (0 + (a.src.map int).length)) (m := (0 + (a.path.map int).length)) (f1 := ⟨false, true⟩) (f2 := ⟨false, true⟩) o ?_ (by decide) (by subst ho; simp) (by subst ho; simp)
  subst ho
  refine AFun.of_W T_ok mixed Try.func26 rfl (Nat.le_of_ble_eq_true rfl) rfl ?_
  have hC := Copy_s a (a.src.map int) (a.path.map int) (by simp; omega) (by simp; omega) (stor_int _) (stor_int _)
  have hok : CallOk 0 (fun i => i) _ _ _ _ [(0, .row 8 aty [acA a]), (1, .row 2 28 [.agg [int q.1, int q.2]]), (2, .row 8 aty [.agg [int 0, str ⟨#[]⟩, int 0, int 0, int 0, .sc (.slice none 0 0), int 0, .sc (.slice none 0 0)]])] _ := CallOk.mk' (vs := [acA a]) (H := []) (v := cpA a (a.src.map int) (a.path.map int)) (H' := [(3, .row 1 ity (a.src.map int)), (5, .row 1 ity (a.path.map int))]) rfl rfl rfl rfl rfl (namesAll.row (pure_int _) (namesAll.row (pure_int _) rfl)) trivial
  have hM1 := Mod_f q.2 40 (by omega)
  have hM2 := Mod_f q.1 8 (by omega)
  rw [hn] at hM1
  rw [hm] at hM2
  have b9 := tmod_bound n (m := 9) (by omega)
  have b5 := tmod_bound n (m := 5) (by omega)
  have b4 := tmod_bound n (m := 4) (by omega)
  have b3 := tmod_bound n (m := 3) (by omega)
  have p4 := tmod_pos 4 hn2.1
  have hl1 : (a.src.map int).length = a.src.length := List.length_map _
  have hl2 : (a.path.map int).length = a.path.length := List.length_map _
  have hr1 := room_int (n := (0 + (a.src.map int).length) + 1) (by omega)
  have hr2 := room_int (n := (0 + (a.path.map int).length) + 1) (by omega)
  ((repeat ((conv => whnf); (first | (refine LetN.pre ?_; first | ((conv => arg 1; whnf); refine LetN.mk ?_)) | (refine As.pre ?_; first | refine As.mk rfl ?_) | (refine LetV.pre ?_; first | refine LetV.mk (.sc (.int _ _)) rfl ?_ | refine LetV.mk (.agg _) rfl ?_) | (refine LetI.pre ?_; first | refine LetI.wrap (by omega) (by omega) ?_) | (refine LetB.pre ?_; first | refine LetB.tt rfl ?_ | refine LetB.ff rfl ?_) | (refine Br.pre ?_; first | refine Br.tt rfl ?_ | refine Br.ff rfl ?_) | (refine Ck.pre ?_; first | refine Ck.mk rfl ?_) | (refine LetL.pre ?_; first | refine LetL.mk (ty := aty) [.agg [_, _, _, _, _, _, _, _]] rfl ?_ | refine LetL.mk (ty := ity) _ (renL_none (pure_int _)).symm ?_) | (refine CallN.pre ?_; first | refine CallN.own (fun i => i) hC hok ?_ | refine CallN.pure hM1 rfl rfl ?_ | refine CallN.pure hM2 rfl rfl ?_)))); (try (conv => whnf)))





  exact ⟨.inl rfl, ⟨_, rfl, rfl⟩, rfl, rfl, trivial⟩
set_option maxHeartbeats 1600000 in
set_option maxRecDepth 100000 in
theorem Odd_4 (a : Ac) (n : Int) (o : Ac) (ho : o = { a with day := 20 * n }) (q : Int × Int) (ha : a.src.length ≤ 900 ∧ a.path.length ≤ 900) (hn2 : 0 ≤ n ∧ n < 40) (hn : (q.2.tmod 40 + 40).tmod 40 = n) (hm : (q.1.tmod 8 + 8).tmod 8 = 4) : AFun Try.prog 26 0 [acA a, .agg [int q.1, int q.2]] [] (acA o) [] := by
  refine frzA (i := 3) (j := 5) (n := (0 + (a.src.map int).length)) (m := (0 + (a.path.map int).length)) (f1 := ⟨false, true⟩) (f2 := ⟨false, true⟩) o ?_ (by decide) (by subst ho; simp) (by subst ho; simp)
  subst ho
  refine AFun.of_W T_ok mixed Try.func26 rfl (Nat.le_of_ble_eq_true rfl) rfl ?_
  have hC := Copy_s a (a.src.map int) (a.path.map int) (by simp; omega) (by simp; omega) (stor_int _) (stor_int _)
  have hok : CallOk 0 (fun i => i) _ _ _ _ [(0, .row 8 aty [acA a]), (1, .row 2 28 [.agg [int q.1, int q.2]]), (2, .row 8 aty [.agg [int 0, str ⟨#[]⟩, int 0, int 0, int 0, .sc (.slice none 0 0), int 0, .sc (.slice none 0 0)]])] _ := CallOk.mk' (vs := [acA a]) (H := []) (v := cpA a (a.src.map int) (a.path.map int)) (H' := [(3, .row 1 ity (a.src.map int)), (5, .row 1 ity (a.path.map int))]) rfl rfl rfl rfl rfl (namesAll.row (pure_int _) (namesAll.row (pure_int _) rfl)) trivial
  have hM1 := Mod_f q.2 40 (by omega)
  have hM2 := Mod_f q.1 8 (by omega)
  rw [hn] at hM1
  rw [hm] at hM2
  have b9 := tmod_bound n (m := 9) (by omega)
  have b5 := tmod_bound n (m := 5) (by omega)
  have b4 := tmod_bound n (m := 4) (by omega)
  have b3 := tmod_bound n (m := 3) (by omega)
  have p4 := tmod_pos 4 hn2.1
  have hl1 : (a.src.map int).length = a.src.length := List.length_map _
  have hl2 : (a.path.map int).length = a.path.length := List.length_map _
  have hr1 := room_int (n := (0 + (a.src.map int).length) + 1) (by omega)
  have hr2 := room_int (n := (0 + (a.path.map int).length) + 1) (by omega)
  ((repeat ((conv => whnf); (first | (refine LetN.pre ?_; first | ((conv => arg 1; whnf); refine LetN.mk ?_)) | (refine As.pre ?_; first | refine As.mk rfl ?_) | (refine LetV.pre ?_; first | refine LetV.mk (.sc (.int _ _)) rfl ?_ | refine LetV.mk (.agg _) rfl ?_) | (refine LetI.pre ?_; first | refine LetI.wrap (by omega) (by omega) ?_) | (refine LetB.pre ?_; first | refine LetB.tt rfl ?_ | refine LetB.ff rfl ?_) | (refine Br.pre ?_; first | refine Br.tt rfl ?_ | refine Br.ff rfl ?_) | (refine Ck.pre ?_; first | refine Ck.mk rfl ?_) | (refine LetL.pre ?_; first | refine LetL.mk (ty := aty) [.agg [_, _, _, _, _, _, _, _]] rfl ?_ | refine LetL.mk (ty := ity) _ (renL_none (pure_int _)).symm ?_) | (refine CallN.pre ?_; first | refine CallN.own (fun i => i) hC hok ?_ | refine CallN.pure hM1 rfl rfl ?_ | refine CallN.pure hM2 rfl rfl ?_)))); (try (conv => whnf)))





  exact ⟨.inl rfl, ⟨_, rfl, rfl⟩, rfl, rfl, trivial⟩
set_option maxHeartbeats 1600000 in
set_option maxRecDepth 100000 in
theorem Odd_5 (a : Ac) (n : Int) (o : Ac) (ho : o = { a with src := a.src ++ [1000000 + n] }) (q : Int × Int) (ha : a.src.length ≤ 900 ∧ a.path.length ≤ 900) (hn2 : 0 ≤ n ∧ n < 40) (hn : (q.2.tmod 40 + 40).tmod 40 = n) (hm : (q.1.tmod 8 + 8).tmod 8 = 5) : AFun Try.prog 26 0 [acA a, .agg [int q.1, int q.2]] [] (acA o) [] := by
  refine frzA (i := 7) (j := 5) (n := ((0 + (a.src.map int).length) + 1)) (m := (0 + (a.path.map int).length)) (f1 := ⟨false, true⟩) (f2 := ⟨false, true⟩) o ?_ (by decide) (by subst ho; simp) (by subst ho; simp)
  subst ho
  refine AFun.of_W T_ok mixed Try.func26 rfl (Nat.le_of_ble_eq_true rfl) rfl ?_
  have hC := Copy_s a (a.src.map int) (a.path.map int) (by simp; omega) (by simp; omega) (stor_int _) (stor_int _)
  have hok : CallOk 0 (fun i => i) _ _ _ _ [(0, .row 8 aty [acA a]), (1, .row 2 28 [.agg [int q.1, int q.2]]), (2, .row 8 aty [.agg [int 0, str ⟨#[]⟩, int 0, int 0, int 0, .sc (.slice none 0 0), int 0, .sc (.slice none 0 0)]])] _ := CallOk.mk' (vs := [acA a]) (H := []) (v := cpA a (a.src.map int) (a.path.map int)) (H' := [(3, .row 1 ity (a.src.map int)), (5, .row 1 ity (a.path.map int))]) rfl rfl rfl rfl rfl (namesAll.row (pure_int _) (namesAll.row (pure_int _) rfl)) trivial
  have hM1 := Mod_f q.2 40 (by omega)
  have hM2 := Mod_f q.1 8 (by omega)
  rw [hn] at hM1
  rw [hm] at hM2
  have b9 := tmod_bound n (m := 9) (by omega)
  have b5 := tmod_bound n (m := 5) (by omega)
  have b4 := tmod_bound n (m := 4) (by omega)
  have b3 := tmod_bound n (m := 3) (by omega)
  have p4 := tmod_pos 4 hn2.1
  have hl1 : (a.src.map int).length = a.src.length := List.length_map _
  have hl2 : (a.path.map int).length = a.path.length := List.length_map _
  have hr1 := room_int (n := (0 + (a.src.map int).length) + 1) (by omega)
  have hr2 := room_int (n := (0 + (a.path.map int).length) + 1) (by omega)
  ((repeat ((conv => whnf); (first | (refine LetN.pre ?_; first | ((conv => arg 1; whnf); refine LetN.mk ?_)) | (refine As.pre ?_; first | refine As.mk rfl ?_ | (refine As.mk ?_ ?_; · ((repeat' (refine andT ?_ ?_)) <;> (first | rfl | assumption | exact decide_eq_true (by omega) | exact decide_eq_true (by dsimp only; omega) | exact decide_eq_true (by simp; omega) | (simp; done))))) | (refine LetV.pre ?_; first | refine LetV.mk (.sc (.int _ _)) rfl ?_ | refine LetV.mk (.agg _) rfl ?_ | refine LetV.mk (.slm _ _ _ _ _) rfl ?_) | (refine LetI.pre ?_; first | refine LetI.wrap (by omega) (by omega) ?_) | (refine LetB.pre ?_; first | refine LetB.tt rfl ?_ | refine LetB.ff rfl ?_) | (refine Br.pre ?_; first | refine Br.tt rfl ?_ | refine Br.ff rfl ?_) | (refine Ck.pre ?_; first | refine Ck.mk rfl ?_) | (refine LetL.pre ?_; first | refine LetL.mk (ty := aty) [.agg [_, _, _, _, _, _, _, _]] rfl ?_ | refine LetL.mk (ty := ity) _ (app_int a.src (1000000 + n) _ (by rw [List.length_map])) ?_ | refine LetL.mk (ty := ity) _ (renL_none (pure_int _)).symm ?_) | (refine CallN.pre ?_; first | refine CallN.own (fun i => i) hC hok ?_ | refine CallN.pure hM1 rfl rfl ?_ | refine CallN.pure hM2 rfl rfl ?_)))); (try (conv => whnf)))






  exact ⟨.inl rfl, ⟨_, rfl, rfl⟩, rfl, rfl, trivial⟩
set_option maxHeartbeats 1600000 in
set_option maxRecDepth 100000 in
theorem Odd_6 (a : Ac) (n : Int) (o : Ac) (ho : o = { a with bundle := n.tmod 5 - 1 }) (q : Int × Int) (ha : a.src.length ≤ 900 ∧ a.path.length ≤ 900) (hn2 : 0 ≤ n ∧ n < 40) (hn : (q.2.tmod 40 + 40).tmod 40 = n) (hm : (q.1.tmod 8 + 8).tmod 8 = 6) : AFun Try.prog 26 0 [acA a, .agg [int q.1, int q.2]] [] (acA o) [] := by
  refine frzA (i := 3) (j := 5) (n := (0 + (a.src.map int).length)) (m := (0 + (a.path.map int).length)) (f1 := ⟨false, true⟩) (f2 := ⟨false, true⟩) o ?_ (by decide) (by subst ho; simp) (by subst ho; simp)
  subst ho
  refine AFun.of_W T_ok mixed Try.func26 rfl (Nat.le_of_ble_eq_true rfl) rfl ?_
  have hC := Copy_s a (a.src.map int) (a.path.map int) (by simp; omega) (by simp; omega) (stor_int _) (stor_int _)
  have hok : CallOk 0 (fun i => i) _ _ _ _ [(0, .row 8 aty [acA a]), (1, .row 2 28 [.agg [int q.1, int q.2]]), (2, .row 8 aty [.agg [int 0, str ⟨#[]⟩, int 0, int 0, int 0, .sc (.slice none 0 0), int 0, .sc (.slice none 0 0)]])] _ := CallOk.mk' (vs := [acA a]) (H := []) (v := cpA a (a.src.map int) (a.path.map int)) (H' := [(3, .row 1 ity (a.src.map int)), (5, .row 1 ity (a.path.map int))]) rfl rfl rfl rfl rfl (namesAll.row (pure_int _) (namesAll.row (pure_int _) rfl)) trivial
  have hM1 := Mod_f q.2 40 (by omega)
  have hM2 := Mod_f q.1 8 (by omega)
  rw [hn] at hM1
  rw [hm] at hM2
  have b9 := tmod_bound n (m := 9) (by omega)
  have b5 := tmod_bound n (m := 5) (by omega)
  have b4 := tmod_bound n (m := 4) (by omega)
  have b3 := tmod_bound n (m := 3) (by omega)
  have p4 := tmod_pos 4 hn2.1
  have hl1 : (a.src.map int).length = a.src.length := List.length_map _
  have hl2 : (a.path.map int).length = a.path.length := List.length_map _
  have hr1 := room_int (n := (0 + (a.src.map int).length) + 1) (by omega)
  have hr2 := room_int (n := (0 + (a.path.map int).length) + 1) (by omega)
  ((repeat ((conv => whnf); (first | (refine LetN.pre ?_; first | ((conv => arg 1; whnf); refine LetN.mk ?_)) | (refine As.pre ?_; first | refine As.mk rfl ?_) | (refine LetV.pre ?_; first | refine LetV.mk (.sc (.int _ _)) rfl ?_ | refine LetV.mk (.agg _) rfl ?_) | (refine LetI.pre ?_; first | refine LetI.wrap (by omega) (by omega) ?_ | refine LetI.mk _ rfl ?_) | (refine LetB.pre ?_; first | refine LetB.tt rfl ?_ | refine LetB.ff rfl ?_) | (refine Br.pre ?_; first | refine Br.tt rfl ?_ | refine Br.ff rfl ?_) | (refine Ck.pre ?_; first | refine Ck.mk rfl ?_) | (refine LetL.pre ?_; first | refine LetL.mk (ty := aty) [.agg [_, _, _, _, _, _, _, _]] rfl ?_ | refine LetL.mk (ty := ity) _ (renL_none (pure_int _)).symm ?_) | (refine CallN.pre ?_; first | refine CallN.own (fun i => i) hC hok ?_ | refine CallN.pure hM1 rfl rfl ?_ | refine CallN.pure hM2 rfl rfl ?_)))); (try (conv => whnf)))





  exact ⟨.inl rfl, ⟨_, rfl, rfl⟩, rfl, rfl, trivial⟩
set_option maxHeartbeats 1600000 in
set_option maxRecDepth 100000 in
theorem Odd_7 (a : Ac) (n : Int) (o : Ac) (ho : o = { a with path := a.path ++ [n.tmod 3] }) (q : Int × Int) (ha : a.src.length ≤ 900 ∧ a.path.length ≤ 900) (hn2 : 0 ≤ n ∧ n < 40) (hn : (q.2.tmod 40 + 40).tmod 40 = n) (hm : (q.1.tmod 8 + 8).tmod 8 = 7) : AFun Try.prog 26 0 [acA a, .agg [int q.1, int q.2]] [] (acA o) [] := by
  refine frzA (i := 3) (j := 7) (n := (0 + (a.src.map int).length)) (m := ((0 + (a.path.map int).length) + 1)) (f1 := ⟨false, true⟩) (f2 := ⟨false, true⟩) o ?_ (by decide) (by subst ho; simp) (by subst ho; simp)
  subst ho
  refine AFun.of_W T_ok mixed Try.func26 rfl (Nat.le_of_ble_eq_true rfl) rfl ?_
  have hC := Copy_s a (a.src.map int) (a.path.map int) (by simp; omega) (by simp; omega) (stor_int _) (stor_int _)
  have hok : CallOk 0 (fun i => i) _ _ _ _ [(0, .row 8 aty [acA a]), (1, .row 2 28 [.agg [int q.1, int q.2]]), (2, .row 8 aty [.agg [int 0, str ⟨#[]⟩, int 0, int 0, int 0, .sc (.slice none 0 0), int 0, .sc (.slice none 0 0)]])] _ := CallOk.mk' (vs := [acA a]) (H := []) (v := cpA a (a.src.map int) (a.path.map int)) (H' := [(3, .row 1 ity (a.src.map int)), (5, .row 1 ity (a.path.map int))]) rfl rfl rfl rfl rfl (namesAll.row (pure_int _) (namesAll.row (pure_int _) rfl)) trivial
  have hM1 := Mod_f q.2 40 (by omega)
  have hM2 := Mod_f q.1 8 (by omega)
  rw [hn] at hM1
  rw [hm] at hM2
  have b9 := tmod_bound n (m := 9) (by omega)
  have b5 := tmod_bound n (m := 5) (by omega)
  have b4 := tmod_bound n (m := 4) (by omega)
  have b3 := tmod_bound n (m := 3) (by omega)
  have p4 := tmod_pos 4 hn2.1
  have hl1 : (a.src.map int).length = a.src.length := List.length_map _
  have hl2 : (a.path.map int).length = a.path.length := List.length_map _
  have hr1 := room_int (n := (0 + (a.src.map int).length) + 1) (by omega)
  have hr2 := room_int (n := (0 + (a.path.map int).length) + 1) (by omega)
  ((repeat ((conv => whnf); (first | (refine LetN.pre ?_; first | ((conv => arg 1; whnf); refine LetN.mk ?_)) | (refine As.pre ?_; first | refine As.mk rfl ?_ | (refine As.mk ?_ ?_; · ((repeat' (refine andT ?_ ?_)) <;> (first | rfl | assumption | exact decide_eq_true (by omega) | exact decide_eq_true (by dsimp only; omega) | exact decide_eq_true (by simp; omega) | (simp; done))))) | (refine LetV.pre ?_; first | refine LetV.mk (.sc (.int _ _)) rfl ?_ | refine LetV.mk (.agg _) rfl ?_ | refine LetV.mk (.slm _ _ _ _ _) rfl ?_) | (refine LetI.pre ?_; first | refine LetI.mk _ rfl ?_) | (refine LetB.pre ?_; first | refine LetB.tt rfl ?_ | refine LetB.ff rfl ?_) | (refine Br.pre ?_; first | refine Br.tt rfl ?_ | refine Br.ff rfl ?_) | (refine Ck.pre ?_; first | refine Ck.mk rfl ?_) | (refine LetL.pre ?_; first | refine LetL.mk (ty := aty) [.agg [_, _, _, _, _, _, _, _]] rfl ?_ | refine LetL.mk (ty := ity) _ (app_int a.path (n.tmod 3) _ (by rw [List.length_map])) ?_ | refine LetL.mk (ty := ity) _ (renL_none (pure_int _)).symm ?_) | (refine CallN.pre ?_; first | refine CallN.own (fun i => i) hC hok ?_ | refine CallN.pure hM1 rfl rfl ?_ | refine CallN.pure hM2 rfl rfl ?_)))); (try (conv => whnf)))






  exact ⟨.inl rfl, ⟨_, rfl, rfl⟩, rfl, rfl, trivial⟩
theorem Odd_f (a : Ac) (q : Int × Int) (ha : a.src.length ≤ 900 ∧ a.path.length ≤ 900) : ∃ o : Ac, okO a o ∧ AFun Try.prog 26 0 [acA a, .agg [int q.1, int q.2]] [] (acA o) [] := by
  have b0 := tmod_bound q.1 (m := 8) (by omega)
  have p0 := tmod_pos 8 (a := q.1.tmod 8 + 8) (by omega)
  have b1 := tmod_bound q.2 (m := 40) (by omega)
  have p1 := tmod_pos 40 (a := q.2.tmod 40 + 40) (by omega)
  obtain ⟨n, hn⟩ : ∃ n : Int, (q.2.tmod 40 + 40).tmod 40 = n := ⟨_, rfl⟩
  have hn2 : 0 ≤ n ∧ n < 40 := by omega
  have b4 := tmod_bound n (m := 4) (by omega)
  have p4 := tmod_pos 4 hn2.1
  obtain ⟨s, hs⟩ := word4 (n.tmod 4) (by omega)
  have hc : (q.1.tmod 8 + 8).tmod 8 = 0 ∨ (q.1.tmod 8 + 8).tmod 8 = 1 ∨ (q.1.tmod 8 + 8).tmod 8 = 2 ∨ (q.1.tmod 8 + 8).tmod 8 = 3 ∨ (q.1.tmod 8 + 8).tmod 8 = 4 ∨ (q.1.tmod 8 + 8).tmod 8 = 5 ∨ (q.1.tmod 8 + 8).tmod 8 = 6 ∨ (q.1.tmod 8 + 8).tmod 8 = 7 := by omega
  rcases hc with h | h | h | h | h | h | h | h
  · exact ⟨_, ⟨by simp, by simp⟩, Odd_0 a n _ rfl q ha hn2 hn h⟩
  · exact ⟨_, ⟨by simp, by simp⟩, Odd_1 a n s hs _ rfl q ha hn2 hn h⟩
  · exact ⟨_, ⟨by simp, by simp⟩, Odd_2 a n _ rfl q ha hn2 hn h⟩
  · exact ⟨_, ⟨by simp, by simp⟩, Odd_3 a n _ rfl q ha hn2 hn h⟩
  · exact ⟨_, ⟨by simp, by simp⟩, Odd_4 a n _ rfl q ha hn2 hn h⟩
  · exact ⟨_, ⟨by simp, by simp⟩, Odd_5 a n _ rfl q ha hn2 hn h⟩
  · exact ⟨_, ⟨by simp, by simp⟩, Odd_6 a n _ rfl q ha hn2 hn h⟩
  · exact ⟨_, ⟨by simp, by simp⟩, Odd_7 a n _ rfl q ha hn2 hn h⟩
end En
end Go.Proofs.Ytiefcppgbnfbfaa
namespace Go.Proofs.Ytiefcppgbnfbfaa
open Go.Proofs.Ytiefcppgbnfbfaa.Am
set_option maxRecDepth 100000
namespace En
/-! ### EarnApart -/
theorem nself (b : Bool) : (b != b) = false := by cases b <;> rfl
theorem app_ac (l : List Ac) (e : Ac) (n : Nat) (h : n = l.length) : (l ++ [e]).map acA = (l.map acA).take n ++ [acA e] := by rw [List.take_of_length_le (by simp [h]), List.map_append]; rfl
theorem row_ac {l : List Ac} {k : Nat} (h : k < l.length) : acA (l.getD k ac0) = Am.part true 8 0 8 ((l.map acA).getD (0 + k) (.sc undef)) := by
  rw [Nat.zero_add, List.getD_eq_getElem?_getD, List.getD_eq_getElem?_getD, List.getElem?_map, List.getElem?_eq_getElem h]; rfl
abbrev lstO (all : List Ac) (k : Nat) : AS :=
  ⟨[(5, bool true), (6, .slm {} 0 8 0 all.length), (37, .slm {} 0 8 0 all.length), (38, int all.length), (39, int k)], [(0, .row 8 aty (all.map acA))], 1⟩
abbrev lstI (all : List Ac) (k : Nat) (a : Ac) (j : Nat) : AS :=
  ⟨[(5, bool true), (6, .slm {} 0 8 0 all.length), (7, int k), (8, .ptr 1 8 0 0), (37, .slm {} 0 8 0 all.length), (38, int all.length), (39, int k), (44, .slm {} 0 8 0 all.length), (45, int all.length), (46, int j)], [(0, .row 8 aty (all.map acA)), (1, .row 8 aty [acA a])], 2⟩
theorem acs_names (all : List Ac) (ok : Nat → Bool) (H : AH) (h : namesAll ok H = true) : namesAll ok ((0, .row 8 aty (all.map acA)) :: H) = true := namesAll.row (pure_ac _) h
set_option maxHeartbeats 1600000 in
set_option maxRecDepth 100000 in
theorem eapart (L : List (Fl × List Int)) (fl : Fl) (hL : L.length ≤ 9223372036854775807) (hxs : ∀ x ∈ L, x.2.length ≤ 9223372036854775807) (q : Int × Int × Int) : AFun Try.prog 7 0 [.ro fl 1 (L.map iA), .agg [int q.1, int q.2.1, int q.2.2]] [] (bool true) [] := by
  obtain ⟨l, hm, hM⟩ := Made_c L fl hL hxs
  refine AFun.of_W T_ok mixed Try.func7 rfl (Nat.le_of_ble_eq_true rfl) rfl ?_
  by_cases h0 : l = []
  · subst h0
    ((repeat ((conv => whnf); (first | (refine LetN.pre ?_; first | ((conv => arg 1; whnf); refine LetN.mk ?_)) | (refine As.pre ?_; first | refine As.mk rfl ?_) | (refine LetI.pre ?_; first | refine LetI.mk _ rfl ?_) | (refine LetB.pre ?_; first | refine LetB.ff rfl ?_) | (refine Br.pre ?_; first | refine Br.ff rfl ?_) | (refine Ck.pre ?_; first | refine Ck.mk rfl ?_) | (refine LetL.pre ?_; first | refine LetL.mk _ rfl ?_) | (refine CallN.pre ?_; first | refine CallN.pure sanity_f rfl rfl ?_ | refine CallN.own (fun _ => 1) hM (CallOk.mk' rfl rfl rfl rfl rfl rfl trivial) ?_)))); (try (conv => whnf)))
    refine LoopN.round T_ok mixed rfl ?_
    ((repeat ((conv => whnf); (first | (refine As.pre ?_; first | refine As.mk rfl ?_) | (refine LetB.pre ?_; first | refine LetB.ff rfl ?_) | (refine Br.pre ?_; first | refine Br.ff rfl ?_) | (refine Ck.pre ?_; first | refine Ck.mk rfl ?_)))); (try (conv => whnf)))
    exact ⟨.inl rfl, ⟨_, rfl, rfl⟩, trivial⟩
  have hpos : 0 < l.length := List.length_pos_iff.2 h0
  obtain ⟨hm1, hm2⟩ := hm
  obtain ⟨u, hu⟩ : ∃ u : Int, u = IntKind.u64.wrap q.2.2 := ⟨_, rfl⟩
  have hub : 0 ≤ u := by rw [hu]; exact Int.emod_nonneg _ (by decide)
  have hn : (l.length : Int) = IntKind.u64.wrap (l.length : Int) := by
    show _ = (l.length : Int) % _
    rw [Int.emod_eq_of_lt (by omega) (by have : (l.length : Int) ≤ 8 := by omega
                                         exact Int.lt_of_le_of_lt this (by decide))]
  obtain ⟨k, hk, hkk⟩ : ∃ k : Nat, k < l.length ∧ (k : Int) = u.tmod (l.length : Int) := by
    have h1 := Int.tmod_nonneg (l.length : Int) hub
    have h2 := Int.tmod_lt_of_pos u (b := (l.length : Int)) (by omega)
    exact ⟨(u.tmod (l.length : Int)).toNat, by omega, by omega⟩
  have hnz : ((l.length : Int) != 0) = true := bne_iff_ne.2 (by omega)
  have hwk : (k : Int) = IntKind.i64.wrap (k : Int) := (wrap_id (by omega) (by omega)).symm
  have hld := row_ac hk
  have hok : ∀ a ∈ l, a.src.length ≤ 2 ∧ a.path.length ≤ 1 := fun a ha => by
    obtain ⟨h1, h2⟩ := hm2 a ha
    refine ⟨h2, ?_⟩
    rcases h1 with ⟨_, h⟩ | ⟨_, h⟩ <;> rw [h] <;> simp
  have hka := hok _ (getD_mem hk)
  obtain ⟨o, ho, hO⟩ := Odd_f (l.getD k ac0) (q.1, q.2.1) (by omega)
  have hml : (l.map acA).length = l.length := List.length_map _
  have hr := room_ach (n := l.length + 1) (by omega)
  have hall : ∀ a ∈ l ++ [o], okA a := fun a ha => by
    rcases List.mem_append.1 ha with h | h
    · have := hok a h; omega
    · simp only [List.mem_cons, List.not_mem_nil, or_false] at h
      subst h
      have := ho.1
      have := ho.2
      omega
  have hlen : (l ++ [o]).length = l.length + 1 := by simp
  have happ := app_ac l o l.length rfl
  generalize l.getD k ac0 = a0 at hld hO
  ((repeat ((conv => whnf); (first | (refine LetN.pre ?_; first | ((conv => arg 1; whnf); refine LetN.mk ?_)) | (refine As.pre ?_; first | refine As.mk rfl ?_ | refine As.mk hnz ?_ | (refine As.mk ?_ ?_; · ((repeat' (refine andT ?_ ?_)) <;> (first | rfl | assumption | exact decide_eq_true (by omega) | exact decide_eq_true (by dsimp only; omega) | exact decide_eq_true (by simp; omega) | (simp; done))))) | (refine LetV.pre ?_; first | refine LetV.mk (t := aty) _ hld ?_ | refine LetV.mk (.sc (.int _ _)) rfl ?_) | (refine LetI.pre ?_; first | refine LetI.mk (o := none) u hu ?_ | refine LetI.mk (o := none) (l.length : Int) hn ?_ | refine LetI.mk (o := some .rem) (k : Int) hkk ?_ | refine LetI.mk (o := none) (k : Int) hwk ?_ | refine LetI.mk _ rfl ?_) | (refine LetB.pre ?_; first | refine LetB.dect (by omega) ?_) | (refine Br.pre ?_; first | refine Br.tt rfl ?_) | (refine Ck.pre ?_; first | refine Ck.drawn (by kernel_rfl) ?_ | refine Ck.mk rfl ?_) | (refine LetL.pre ?_; first | refine LetL.mk (ty := aty) _ (renL_none (pure_ac _)).symm ?_ | refine LetL.mk (ty := aty) _ happ ?_) | (refine CallN.pre ?_; first | refine CallN.pure sanity_f rfl rfl ?_ | refine CallN.own (fun _ => 1) hM (CallOk.mk' rfl rfl rfl rfl rfl (namesAll.row (pure_ac _) rfl) trivial) ?_ | refine CallN.pure hO rfl rfl ?_)))); (try (conv => whnf)))











  refine LoopN.weak (s1 := lstO (l ++ [o]) 0) ?sw1 ?_
  case sw1 => exact SW.mk (fun _ => 2) rfl rfl (acs_names _ _ _ rfl) ⟨.refl _, VLe2.slm_of hlen, VLe2.slm_of hlen, VLe2.int (by rw [hlen]; rfl), .refl _, trivial⟩ (haveV.row (pure_ac _) rfl trivial)
  have hlen2 : (l ++ [o]).length ≤ 9 := by omega
  clear happ hO hM hm1 hm2 hld hka hok hr hkk hwk hnz hn hub hlen ho
  generalize l ++ [o] = all at hall hlen2 ⊢
  clear hk
  have hma : (all.map acA).length = all.length := List.length_map _
  refine LoopN.ind T_ok mixed (S := lstO all) (fun k => all.length - k) (fun k => k ≤ all.length) (fun _ => rfl) (fun k hk ih => ?_) 0 (Nat.zero_le _)
  by_cases hlt : k < all.length
  case neg =>
    clear ih
    ((repeat ((conv => whnf); (first | (refine As.pre ?_; first | refine As.mk rfl ?_) | (refine LetB.pre ?_; first | refine LetB.decf (by omega) ?_) | (refine Br.pre ?_; first | refine Br.ff rfl ?_) | (refine Ck.pre ?_; first | refine Ck.mk rfl ?_)))); (try (conv => whnf)))
    exact ⟨.inl rfl, ⟨_, rfl, rfl⟩, trivial⟩
  have hld := row_ac hlt
  have ha := hall _ (getD_mem hlt)
  generalize all.getD k ac0 = a at hld ha
  ((repeat ((conv => whnf); (first | (refine LetN.pre ?_; first | ((conv => arg 1; whnf); refine LetN.mk ?_)) | (refine As.pre ?_; first | refine As.mk rfl ?_ | (refine As.mk ?_ ?_; · ((repeat' (refine andT ?_ ?_)) <;> (first | rfl | assumption | exact decide_eq_true (by omega) | exact decide_eq_true (by dsimp only; omega) | exact decide_eq_true (by simp; omega) | (simp; done))))) | (refine LetV.pre ?_; first | refine LetV.mk (t := aty) _ hld ?_) | (refine LetI.pre ?_; first | refine LetI.mk _ rfl ?_) | (refine LetB.pre ?_; first | refine LetB.dect (by omega) ?_) | (refine Br.pre ?_; first | refine Br.tt rfl ?_) | (refine Ck.pre ?_; first | refine Ck.mk rfl ?_) | (refine LetL.pre ?_; first | refine LetL.mk [_] rfl ?_)))); (try (conv => whnf)))
  refine LoopN.weak (s1 := lstI all k a 0) ?sw2 ?_
  case sw2 => exact SW.mk (fun i => if i = 1 then 1 else i) rfl rfl (acs_names _ _ _ rfl) ⟨.refl _, .refl _, .refl _, .refl _, .refl _, .refl _, .refl _, .refl _, .refl _, .refl _, trivial⟩ (haveV.row (pure_ac _) rfl (haveV.row rfl rfl trivial))
  clear hld
  refine LoopN.ind T_ok mixed (S := lstI all k a) (fun j => all.length - j) (fun j => j ≤ all.length) (fun _ => rfl) (fun j hj ihj => ?_) 0 (Nat.zero_le _)
  by_cases hlj : j < all.length
  case pos =>
    have hld := row_ac hlj
    have hb := hall _ (getD_mem hlj)
    generalize all.getD j ac0 = b at hld hb
    have h1 := Apart_f a b ha hb
    have h2 := refApart_f a b ha hb
    have h3 := SameA_f a b ha hb
    have h4 := refSameA_f a b ha hb
    have h5 := LessA_f a b ha hb
    have h6 := refLessA_f a b ha hb
    rw [same_eq] at h4
    rw [less_eq] at h6
    generalize apP a b = m1 at h1 h2
    generalize decide (cmpA a b = 0) = m2 at h3 h4
    generalize decide (cmpA a b < 0) = m3 at h5 h6
    clear ih
    ((repeat ((conv => whnf); (first | (refine LetN.pre ?_; first | ((conv => arg 1; whnf); refine LetN.mk ?_)) | (refine As.pre ?_; first | refine As.mk rfl ?_ | (refine As.mk ?_ ?_; · ((repeat' (refine andT ?_ ?_)) <;> (first | rfl | assumption | exact decide_eq_true (by omega) | exact decide_eq_true (by dsimp only; omega) | exact decide_eq_true (by simp; omega) | (simp; done))))) | (refine LetV.pre ?_; first | refine LetV.mk (t := aty) _ hld ?_ | refine LetV.mk (.agg _) rfl ?_) | (refine LetI.pre ?_; first | refine LetI.wrap (by omega) (by omega) ?_) | (refine LetB.pre ?_; first | refine LetB.ff (nself _) ?_ | refine LetB.dect (by omega) ?_) | (refine Gd.pre ?_; first | refine Gd.run rfl ?_) | (refine Br.pre ?_; first | refine Br.tt rfl ?_ | refine Br.ff rfl ?_) | (refine Ck.pre ?_; first | refine Ck.drawn (by kernel_rfl) ?_ | refine Ck.mk rfl ?_) | (refine LetL.pre ?_; first | refine LetL.mk [_] rfl ?_) | (refine CallN.pre ?_; first | refine CallN.pure h1 rfl rfl ?_ | refine CallN.pure h2 rfl rfl ?_ | refine CallN.pure h3 rfl rfl ?_ | refine CallN.pure h4 rfl rfl ?_ | refine CallN.pure h5 rfl rfl ?_ | refine CallN.pure h6 rfl rfl ?_)))); (try (conv => whnf)))








    refine LoopN.weak ?sw3 (ihj (j + 1) (by omega) (by omega))
    case sw3 => exact SW.mk id rfl rfl (acs_names _ _ _ rfl) ⟨.refl _, .refl _, .refl _, .refl _, .refl _, .refl _, .refl _, .refl _, .refl _, VLe2.int (by omega), trivial⟩ (haveV.row (pure_ac _) rfl (haveV.row rfl rfl trivial))
  case neg =>
    clear ihj
    have f1 := fun fl => Free_f (all.drop k) fl (by simp; omega) (fun b hb => hall b (List.mem_of_mem_drop hb))
    have f2 := fun fl => refFree_f (all.drop k) fl (by simp; omega) (fun b hb => hall b (List.mem_of_mem_drop hb))
    have f3 := fun fl => Free_f (all.take k) fl (by simp; omega) (fun b hb => hall b (List.mem_of_mem_take hb))
    have f4 := fun fl => refFree_f (all.take k) fl (by simp; omega) (fun b hb => hall b (List.mem_of_mem_take hb))
    rw [free_eq] at f2 f4
    have e1 : ((all.map acA).drop k).take (all.length - k) = (all.drop k).map acA := by rw [List.map_drop, List.take_of_length_le (by simp)]
    have e2 : ((all.map acA).drop 0).take k = (all.take k).map acA := by rw [List.map_take, List.drop_zero]
    generalize frP (all.drop k) = m1 at f1 f2
    generalize frP (all.take k) = m2 at f3 f4
    have s1 : ∀ fl, AV.slm fl 0 8 k (all.length - k) = .slm fl 0 8 ((0 : Nat) + (k : Int).toNat) ((all.length : Int).toNat - (k : Int).toNat) := fun fl => by simp
    have s2 : ∀ fl, AV.slm fl 0 8 0 k = .slm fl 0 8 0 ((k : Int).toNat - 0) := fun fl => by simp
    ((repeat ((conv => whnf); (first | (refine As.pre ?_; first | refine As.mk rfl ?_ | (refine As.mk ?_ ?_; · ((repeat' (refine andT ?_ ?_)) <;> (first | rfl | assumption | exact decide_eq_true (by omega) | exact decide_eq_true (by dsimp only; omega) | exact decide_eq_true (by simp; omega) | (simp; done))))) | (refine LetV.pre ?_; first | refine LetV.mk (t := 41) _ (s1 _) ?_ | refine LetV.mk (t := 41) _ (s2 _) ?_) | (refine LetI.pre ?_; first | refine LetI.wrap (by omega) (by omega) ?_) | (refine LetB.pre ?_; first | refine LetB.ff (nself _) ?_ | refine LetB.decf (by omega) ?_) | (refine Gd.pre ?_; first | refine Gd.run rfl ?_) | (refine Br.pre ?_; first | refine Br.ff rfl ?_) | (refine Ck.pre ?_; first | refine Ck.drawn (by kernel_rfl) ?_ | refine Ck.mk rfl ?_) | (refine CallN.pre ?_; first | refine CallN.lend (f1 _) rfl (.part rfl (pure_ac _) (by omega) e1 .nil) ?_ | refine CallN.lend (f2 _) rfl (.part rfl (pure_ac _) (by omega) e1 .nil) ?_ | refine CallN.lend (f3 _) rfl (.part rfl (pure_ac _) (by omega) e2 .nil) ?_ | refine CallN.lend (f4 _) rfl (.part rfl (pure_ac _) (by omega) e2 .nil) ?_)))); (try (conv => whnf)))







    refine LoopN.weak ?sw4 (ih (k + 1) (by omega) (by omega))
    case sw4 => exact SW.mk id rfl rfl (acs_names _ _ _ rfl) ⟨.refl _, .refl _, .refl _, .refl _, VLe2.int (by omega), trivial⟩ (haveV.row (pure_ac _) rfl trivial)
theorem eapart_row (x : List (List Int)) (hL : x.length ≤ 9223372036854775807) (hxs : ∀ l ∈ x, l.length ≤ 9223372036854775807) (q : Int × Int × Int) : AFun Try.prog 7 0 [.ro {} 1 (x.map fun l => .ro {} 1 (l.map int)), .agg [int q.1, int q.2.1, int q.2.2]] [] (bool true) [] := by
  have h := eapart (x.map fun l => (({} : Fl), l)) {} (by rw [List.length_map]; exact hL) (fun y hy => by
    obtain ⟨l, hl, rfl⟩ := List.mem_map.1 hy
    exact hxs l hl) q
  rw [List.map_map] at h
  exact h
end En
end Go.Proofs.Ytiefcppgbnfbfaa
namespace Go.Proofs.Ytiefcppgbnfbfaa
open Go.Proofs.Ytiefcppgbnfbfaa.Am
set_option maxRecDepth 100000
namespace En
/-! ### EarnOrder -/
abbrev ordO (all : List Ac) (k : Nat) : AS :=
  ⟨[(5, bool true), (6, .slm {} 0 8 0 all.length), (41, .slm {} 0 8 0 all.length), (42, int all.length), (43, int k)], [(0, .row 8 aty (all.map acA))], 1⟩
abbrev ordI (all : List Ac) (k : Nat) (a : Ac) (j : Nat) : AS :=
  ⟨[(5, bool true), (6, .slm {} 0 8 0 all.length), (8, .ptr 1 8 0 0), (41, .slm {} 0 8 0 all.length), (42, int all.length), (43, int k), (47, .slm {} 0 8 0 all.length), (48, int all.length), (49, int j)], [(0, .row 8 aty (all.map acA)), (1, .row 8 aty [acA a])], 2⟩
abbrev ordZ (all : List Ac) (k : Nat) (a : Ac) (j : Nat) (b : Ac) (x y : Bool) (i : Nat) : AS :=
  ⟨[(5, bool true), (6, .slm {} 0 8 0 all.length), (8, .ptr 1 8 0 0), (10, .ptr 2 8 0 0), (11, bool x), (12, bool y), (41, .slm {} 0 8 0 all.length), (42, int all.length), (43, int k), (47, .slm {} 0 8 0 all.length), (48, int all.length), (49, int j), (75, .slm {} 0 8 0 all.length), (76, int all.length), (77, int i)], [(0, .row 8 aty (all.map acA)), (1, .row 8 aty [acA a]), (2, .row 8 aty [acA b])], 3⟩
set_option maxHeartbeats 1600000 in
set_option maxRecDepth 100000 in
theorem eorder (L : List (Fl × List Int)) (fl : Fl) (hL : L.length ≤ 9223372036854775807) (hxs : ∀ x ∈ L, x.2.length ≤ 9223372036854775807) (q : Int × Int × Int) : AFun Try.prog 8 0 [.ro fl 1 (L.map iA), .agg [int q.1, int q.2.1, int q.2.2]] [] (bool true) [] := by
  obtain ⟨l, hm, hM⟩ := Made_c L fl hL hxs
  refine AFun.of_W T_ok mixed Try.func8 rfl (Nat.le_of_ble_eq_true rfl) rfl ?_
  by_cases h0 : l = []
  · subst h0
    ((repeat ((conv => whnf); (first | (refine LetN.pre ?_; first | ((conv => arg 1; whnf); refine LetN.mk ?_)) | (refine As.pre ?_; first | refine As.mk rfl ?_) | (refine LetI.pre ?_; first | refine LetI.mk _ rfl ?_) | (refine LetB.pre ?_; first | refine LetB.ff rfl ?_) | (refine Br.pre ?_; first | refine Br.ff rfl ?_) | (refine Ck.pre ?_; first | refine Ck.mk rfl ?_) | (refine LetL.pre ?_; first | refine LetL.mk _ rfl ?_) | (refine CallN.pre ?_; first | refine CallN.pure sanity_f rfl rfl ?_ | refine CallN.own (fun _ => 1) hM (CallOk.mk' rfl rfl rfl rfl rfl rfl trivial) ?_)))); (try (conv => whnf)))
    refine LoopN.round T_ok mixed rfl ?_
    ((repeat ((conv => whnf); (first | (refine As.pre ?_; first | refine As.mk rfl ?_) | (refine LetB.pre ?_; first | refine LetB.ff rfl ?_) | (refine Br.pre ?_; first | refine Br.ff rfl ?_) | (refine Ck.pre ?_; first | refine Ck.mk rfl ?_)))); (try (conv => whnf)))
    exact ⟨.inl rfl, ⟨_, rfl, rfl⟩, trivial⟩
  have hpos : 0 < l.length := List.length_pos_iff.2 h0
  obtain ⟨hm1, hm2⟩ := hm
  obtain ⟨u, hu⟩ : ∃ u : Int, u = IntKind.u64.wrap q.2.2 := ⟨_, rfl⟩
  have hub : 0 ≤ u := by rw [hu]; exact Int.emod_nonneg _ (by decide)
  have hn : (l.length : Int) = IntKind.u64.wrap (l.length : Int) := by
    show _ = (l.length : Int) % _
    rw [Int.emod_eq_of_lt (by omega) (by have : (l.length : Int) ≤ 8 := by omega
                                         exact Int.lt_of_le_of_lt this (by decide))]
  obtain ⟨k, hk, hkk⟩ : ∃ k : Nat, k < l.length ∧ (k : Int) = u.tmod (l.length : Int) := by
    have h1 := Int.tmod_nonneg (l.length : Int) hub
    have h2 := Int.tmod_lt_of_pos u (b := (l.length : Int)) (by omega)
    exact ⟨(u.tmod (l.length : Int)).toNat, by omega, by omega⟩
  have hnz : ((l.length : Int) != 0) = true := bne_iff_ne.2 (by omega)
  have hwk : (k : Int) = IntKind.i64.wrap (k : Int) := (wrap_id (by omega) (by omega)).symm
  have hld := row_ac hk
  have hok : ∀ a ∈ l, a.src.length ≤ 2 ∧ a.path.length ≤ 1 := fun a ha => by
    obtain ⟨h1, h2⟩ := hm2 a ha
    refine ⟨h2, ?_⟩
    rcases h1 with ⟨_, h⟩ | ⟨_, h⟩ <;> rw [h] <;> simp
  have hka := hok _ (getD_mem hk)
  obtain ⟨o, ho, hO⟩ := Odd_f (l.getD k ac0) (q.1, q.2.1) (by omega)
  have hml : (l.map acA).length = l.length := List.length_map _
  have hr := room_ach (n := l.length + 1) (by omega)
  have hall : ∀ a ∈ l ++ [o], okA a := fun a ha => by
    rcases List.mem_append.1 ha with h | h
    · have := hok a h; omega
    · simp only [List.mem_cons, List.not_mem_nil, or_false] at h
      subst h
      have := ho.1
      have := ho.2
      omega
  have hlen : (l ++ [o]).length = l.length + 1 := by simp
  have happ := app_ac l o l.length rfl
  generalize l.getD k ac0 = a0 at hld hO
  ((repeat ((conv => whnf); (first | (refine LetN.pre ?_; first | ((conv => arg 1; whnf); refine LetN.mk ?_)) | (refine As.pre ?_; first | refine As.mk rfl ?_ | refine As.mk hnz ?_ | (refine As.mk ?_ ?_; · ((repeat' (refine andT ?_ ?_)) <;> (first | rfl | assumption | exact decide_eq_true (by omega) | exact decide_eq_true (by dsimp only; omega) | exact decide_eq_true (by simp; omega) | (simp; done))))) | (refine LetV.pre ?_; first | refine LetV.mk (t := aty) _ hld ?_ | refine LetV.mk (.sc (.int _ _)) rfl ?_) | (refine LetI.pre ?_; first | refine LetI.mk (o := none) u hu ?_ | refine LetI.mk (o := none) (l.length : Int) hn ?_ | refine LetI.mk (o := some .rem) (k : Int) hkk ?_ | refine LetI.mk (o := none) (k : Int) hwk ?_ | refine LetI.mk _ rfl ?_) | (refine LetB.pre ?_; first | refine LetB.dect (by omega) ?_) | (refine Br.pre ?_; first | refine Br.tt rfl ?_) | (refine Ck.pre ?_; first | refine Ck.drawn (by kernel_rfl) ?_ | refine Ck.mk rfl ?_) | (refine LetL.pre ?_; first | refine LetL.mk (ty := aty) _ (renL_none (pure_ac _)).symm ?_ | refine LetL.mk (ty := aty) _ happ ?_) | (refine CallN.pre ?_; first | refine CallN.pure sanity_f rfl rfl ?_ | refine CallN.own (fun _ => 1) hM (CallOk.mk' rfl rfl rfl rfl rfl (namesAll.row (pure_ac _) rfl) trivial) ?_ | refine CallN.pure hO rfl rfl ?_)))); (try (conv => whnf)))











  refine LoopN.weak (s1 := ordO (l ++ [o]) 0) ?sw1 ?_
  case sw1 => exact SW.mk (fun _ => 2) rfl rfl (acs_names _ _ _ rfl) ⟨.refl _, VLe2.slm_of hlen, VLe2.slm_of hlen, VLe2.int (by rw [hlen]; rfl), .refl _, trivial⟩ (haveV.row (pure_ac _) rfl trivial)
  have hlen2 : (l ++ [o]).length ≤ 9 := by omega
  clear happ hO hM hm1 hm2 hld hka hok hr hkk hwk hnz hn hub hlen ho
  generalize l ++ [o] = all at hall hlen2 ⊢
  clear hk
  have hma : (all.map acA).length = all.length := List.length_map _
  refine LoopN.ind T_ok mixed (S := ordO all) (fun k => all.length - k) (fun k => k ≤ all.length) (fun _ => rfl) (fun k hk ih => ?_) 0 (Nat.zero_le _)
  by_cases hlt : k < all.length
  case neg =>
    clear ih
    ((repeat ((conv => whnf); (first | (refine As.pre ?_; first | refine As.mk rfl ?_) | (refine LetB.pre ?_; first | refine LetB.decf (by omega) ?_) | (refine Br.pre ?_; first | refine Br.ff rfl ?_) | (refine Ck.pre ?_; first | refine Ck.mk rfl ?_)))); (try (conv => whnf)))
    exact ⟨.inl rfl, ⟨_, rfl, rfl⟩, trivial⟩
  have hld := row_ac hlt
  have ha := hall _ (getD_mem hlt)
  generalize all.getD k ac0 = a at hld ha
  ((repeat ((conv => whnf); (first | (refine LetN.pre ?_; first | ((conv => arg 1; whnf); refine LetN.mk ?_)) | (refine As.pre ?_; first | refine As.mk rfl ?_ | (refine As.mk ?_ ?_; · ((repeat' (refine andT ?_ ?_)) <;> (first | rfl | assumption | exact decide_eq_true (by omega) | exact decide_eq_true (by dsimp only; omega) | exact decide_eq_true (by simp; omega) | (simp; done))))) | (refine LetV.pre ?_; first | refine LetV.mk (t := aty) _ hld ?_) | (refine LetI.pre ?_; first | refine LetI.mk _ rfl ?_) | (refine LetB.pre ?_; first | refine LetB.dect (by omega) ?_) | (refine Br.pre ?_; first | refine Br.tt rfl ?_) | (refine Ck.pre ?_; first | refine Ck.mk rfl ?_) | (refine LetL.pre ?_; first | refine LetL.mk [_] rfl ?_)))); (try (conv => whnf)))
  refine LoopN.weak (s1 := ordI all k a 0) ?sw2 ?_
  case sw2 => exact SW.mk id rfl rfl (acs_names _ _ _ rfl) ⟨.refl _, .refl _, .refl _, .refl _, .refl _, .refl _, .refl _, .refl _, .refl _, trivial⟩ (haveV.row (pure_ac _) rfl (haveV.row rfl rfl trivial))
  clear hld
  refine LoopN.ind T_ok mixed (S := ordI all k a) (fun j => all.length - j) (fun j => j ≤ all.length) (fun _ => rfl) (fun j hj ihj => ?_) 0 (Nat.zero_le _)
  by_cases hlj : j < all.length
  case neg =>
    clear ihj
    ((repeat ((conv => whnf); (first | (refine As.pre ?_; first | refine As.mk rfl ?_) | (refine LetI.pre ?_; first | refine LetI.wrap (by omega) (by omega) ?_) | (refine LetB.pre ?_; first | refine LetB.decf (by omega) ?_) | (refine Br.pre ?_; first | refine Br.ff rfl ?_) | (refine Ck.pre ?_; first | refine Ck.mk rfl ?_)))); (try (conv => whnf)))
    refine LoopN.weak ?sw4 (ih (k + 1) (by omega) (by omega))
    case sw4 => exact SW.mk id rfl rfl (acs_names _ _ _ rfl) ⟨.refl _, .refl _, .refl _, .refl _, VLe2.int (by omega), trivial⟩ (haveV.row (pure_ac _) rfl trivial)
  clear ih
  have hld := row_ac hlj
  have hb := hall _ (getD_mem hlj)
  generalize all.getD j ac0 = b at hld hb
  have h1 := LessA_f a b ha hb
  have h2 := LessA_f b a hb ha
  have h3 := SameA_f a b ha hb
  have hneg := P3.cmpA.neg a b
  have htr := P3.cmpA.tr a b
  have hxy : ∃ x y s : Bool, decide (cmpA a b < 0) = x ∧ decide (cmpA b a < 0) = y ∧ decide (cmpA a b = 0) = s ∧ (x = true ∧ y = false ∧ s = false ∨ x = false ∧ y = false ∧ s = true ∨ x = false ∧ y = true ∧ s = false) := by
    refine ⟨_, _, _, rfl, rfl, rfl, ?_⟩
    rw [hneg]
    have : cmpA a b < 0 ∨ cmpA a b = 0 ∨ 0 < cmpA a b := by omega
    rcases this with h | h | h
    · exact .inl ⟨decide_eq_true h, decide_eq_false (by omega), decide_eq_false (by omega)⟩
    · exact .inr (.inl ⟨decide_eq_false (by omega), decide_eq_false (by omega), decide_eq_true h⟩)
    · exact .inr (.inr ⟨decide_eq_false (by omega), decide_eq_true (by omega), decide_eq_false (by omega)⟩)
  obtain ⟨x, y, s, hx, hy, hs, hxy⟩ := hxy
  rw [hx] at h1
  rw [hy] at h2
  rw [hs] at h3
  have hz : ∀ z : Ac, x = true → cmpA b z < 0 → cmpA a z < 0 := fun z hxt h => by
    rw [hxt] at hx
    have h5 := of_decide_eq_true hx
    have h6 := htr z (by omega) (by omega)
    omega
  clear hx hy hs hneg htr
  rcases hxy with ⟨rfl, rfl, rfl⟩ | ⟨rfl, rfl, rfl⟩ | ⟨rfl, rfl, rfl⟩
  · ((repeat ((conv => whnf); (first | (refine LetN.pre ?_; first | ((conv => arg 1; whnf); refine LetN.mk ?_)) | (refine As.pre ?_; first | refine As.mk rfl ?_ | (refine As.mk ?_ ?_; · ((repeat' (refine andT ?_ ?_)) <;> (first | rfl | assumption | exact decide_eq_true (by omega) | exact decide_eq_true (by dsimp only; omega) | exact decide_eq_true (by simp; omega) | (simp; done))))) | (refine LetV.pre ?_; first | refine LetV.mk (t := aty) _ hld ?_ | refine LetV.mk (.agg _) rfl ?_) | (refine LetI.pre ?_; first | refine LetI.mk _ rfl ?_) | (refine LetB.pre ?_; first | refine LetB.ff rfl ?_ | refine LetB.dect (by omega) ?_) | (refine Gd.pre ?_; first | refine Gd.run rfl ?_ | refine Gd.pass rfl ?_) | (refine Br.pre ?_; first | refine Br.tt rfl ?_ | refine Br.ff rfl ?_) | (refine Ck.pre ?_; first | refine Ck.drawn (by kernel_rfl) ?_ | refine Ck.mk rfl ?_) | (refine LetL.pre ?_; first | refine LetL.mk [_] rfl ?_) | (refine CallN.pre ?_; first | refine CallN.pure h1 rfl rfl ?_ | refine CallN.pure h2 rfl rfl ?_ | refine CallN.pure h3 rfl rfl ?_)))); (try (conv => whnf)))




    refine LoopN.weak (s1 := ordZ all k a j b true false 0) ?sw5a ?_
    case sw5a => exact SW.mk id rfl rfl (acs_names _ _ _ rfl) ⟨.refl _, .refl _, .refl _, .refl _, .refl _, .refl _, .refl _, .refl _, .refl _, .refl _, .refl _, .refl _, .refl _, .refl _, .refl _, trivial⟩ (haveV.row (pure_ac _) rfl (haveV.row rfl rfl (haveV.row rfl rfl trivial)))
    clear h1 h2 h3 hld
    refine LoopN.ind T_ok mixed (S := ordZ all k a j b true false) (fun i => all.length - i) (fun i => i ≤ all.length) (fun _ => rfl) (fun i hi ihi => ?_) 0 (Nat.zero_le _)
    by_cases hli : i < all.length
    case neg =>
      clear ihi
      ((repeat ((conv => whnf); (first | (refine As.pre ?_; first | refine As.mk rfl ?_) | (refine LetI.pre ?_; first | refine LetI.wrap (by omega) (by omega) ?_) | (refine LetB.pre ?_; first | refine LetB.decf (by omega) ?_) | (refine Br.pre ?_; first | refine Br.ff rfl ?_) | (refine Ck.pre ?_; first | refine Ck.mk rfl ?_)))); (try (conv => whnf)))
      refine LoopN.weak ?sw6a (ihj (j + 1) (by omega) (by omega))
      case sw6a => exact SW.mk id rfl rfl (acs_names _ _ _ rfl) ⟨.refl _, .refl _, .refl _, .refl _, .refl _, .refl _, .refl _, .refl _, VLe2.int (by omega), trivial⟩ (haveV.row (pure_ac _) rfl (haveV.row rfl rfl trivial))
    clear ihj
    have hld := row_ac hli
    have hzz := hall _ (getD_mem hli)
    generalize all.getD i ac0 = z at hld hzz
    have sw7 := ihi (i + 1) (by omega) (by omega)
    clear ihi
    have h1 := LessA_f b z hb hzz
    have h2 := LessA_f a z ha hzz
    have hz := hz z rfl
    by_cases hu : cmpA b z < 0
    · rw [decide_eq_true hu] at h1
      rw [decide_eq_true (hz hu)] at h2
      ((repeat ((conv => whnf); (first | (refine LetN.pre ?_; first | ((conv => arg 1; whnf); refine LetN.mk ?_)) | (refine As.pre ?_; first | refine As.mk rfl ?_ | (refine As.mk ?_ ?_; · ((repeat' (refine andT ?_ ?_)) <;> (first | rfl | assumption | exact decide_eq_true (by omega) | exact decide_eq_true (by dsimp only; omega) | exact decide_eq_true (by simp; omega) | (simp; done))))) | (refine LetV.pre ?_; first | refine LetV.mk (t := aty) _ hld ?_ | refine LetV.mk (.agg _) rfl ?_) | (refine LetI.pre ?_; first | refine LetI.wrap (by omega) (by omega) ?_) | (refine LetB.pre ?_; first | refine LetB.dect (by omega) ?_) | (refine Gd.pre ?_; first | refine Gd.run rfl ?_) | (refine Br.pre ?_; first | refine Br.tt rfl ?_ | refine Br.ff rfl ?_) | (refine Ck.pre ?_; first | refine Ck.mk rfl ?_) | (refine LetL.pre ?_; first | refine LetL.mk [_] rfl ?_) | (refine CallN.pre ?_; first | refine CallN.pure h1 rfl rfl ?_ | refine CallN.pure h2 rfl rfl ?_)))); (try (conv => whnf)))
      refine LoopN.weak ?sw7a sw7
      case sw7a => exact SW.mk id rfl rfl (acs_names _ _ _ rfl) ⟨.refl _, .refl _, .refl _, .refl _, .refl _, .refl _, .refl _, .refl _, .refl _, .refl _, .refl _, .refl _, .refl _, .refl _, VLe2.int (by omega), trivial⟩ (haveV.row (pure_ac _) rfl (haveV.row rfl rfl (haveV.row rfl rfl trivial)))
    · rw [decide_eq_false hu] at h1
      ((repeat ((conv => whnf); (first | (refine LetN.pre ?_; first | ((conv => arg 1; whnf); refine LetN.mk ?_)) | (refine As.pre ?_; first | refine As.mk rfl ?_ | (refine As.mk ?_ ?_; · ((repeat' (refine andT ?_ ?_)) <;> (first | rfl | assumption | exact decide_eq_true (by omega) | exact decide_eq_true (by dsimp only; omega) | exact decide_eq_true (by simp; omega) | (simp; done))))) | (refine LetV.pre ?_; first | refine LetV.mk (t := aty) _ hld ?_ | refine LetV.mk (.agg _) rfl ?_) | (refine LetI.pre ?_; first | refine LetI.wrap (by omega) (by omega) ?_) | (refine LetB.pre ?_; first | refine LetB.dect (by omega) ?_) | (refine Gd.pre ?_; first | refine Gd.run rfl ?_ | refine Gd.pass rfl ?_) | (refine Br.pre ?_; first | refine Br.tt rfl ?_ | refine Br.ff rfl ?_) | (refine Ck.pre ?_; first | refine Ck.mk rfl ?_) | (refine LetL.pre ?_; first | refine LetL.mk [_] rfl ?_) | (refine CallN.pre ?_; first | refine CallN.pure h1 rfl rfl ?_)))); (try (conv => whnf)))
      refine LoopN.weak ?sw8a sw7
      case sw8a => exact SW.mk id rfl rfl (acs_names _ _ _ rfl) ⟨.refl _, .refl _, .refl _, .refl _, .refl _, .refl _, .refl _, .refl _, .refl _, .refl _, .refl _, .refl _, .refl _, .refl _, VLe2.int (by omega), trivial⟩ (haveV.row (pure_ac _) rfl (haveV.row rfl rfl (haveV.row rfl rfl trivial)))
  · ((repeat ((conv => whnf); (first | (refine LetN.pre ?_; first | ((conv => arg 1; whnf); refine LetN.mk ?_)) | (refine As.pre ?_; first | refine As.mk rfl ?_ | (refine As.mk ?_ ?_; · ((repeat' (refine andT ?_ ?_)) <;> (first | rfl | assumption | exact decide_eq_true (by omega) | exact decide_eq_true (by dsimp only; omega) | exact decide_eq_true (by simp; omega) | (simp; done))))) | (refine LetV.pre ?_; first | refine LetV.mk (t := aty) _ hld ?_ | refine LetV.mk (.agg _) rfl ?_) | (refine LetI.pre ?_; first | refine LetI.mk _ rfl ?_) | (refine LetB.pre ?_; first | refine LetB.ff rfl ?_ | refine LetB.dect (by omega) ?_) | (refine Gd.pre ?_; first | refine Gd.run rfl ?_ | refine Gd.pass rfl ?_) | (refine Br.pre ?_; first | refine Br.tt rfl ?_ | refine Br.ff rfl ?_) | (refine Ck.pre ?_; first | refine Ck.drawn (by kernel_rfl) ?_ | refine Ck.mk rfl ?_) | (refine LetL.pre ?_; first | refine LetL.mk [_] rfl ?_) | (refine CallN.pre ?_; first | refine CallN.pure h1 rfl rfl ?_ | refine CallN.pure h2 rfl rfl ?_ | refine CallN.pure h3 rfl rfl ?_)))); (try (conv => whnf)))




    refine LoopN.weak (s1 := ordZ all k a j b false false 0) ?sw5b ?_
    case sw5b => exact SW.mk id rfl rfl (acs_names _ _ _ rfl) ⟨.refl _, .refl _, .refl _, .refl _, .refl _, .refl _, .refl _, .refl _, .refl _, .refl _, .refl _, .refl _, .refl _, .refl _, .refl _, trivial⟩ (haveV.row (pure_ac _) rfl (haveV.row rfl rfl (haveV.row rfl rfl trivial)))
    clear h1 h2 h3 hld
    refine LoopN.ind T_ok mixed (S := ordZ all k a j b false false) (fun i => all.length - i) (fun i => i ≤ all.length) (fun _ => rfl) (fun i hi ihi => ?_) 0 (Nat.zero_le _)
    by_cases hli : i < all.length
    case neg =>
      clear ihi
      ((repeat ((conv => whnf); (first | (refine As.pre ?_; first | refine As.mk rfl ?_) | (refine LetI.pre ?_; first | refine LetI.wrap (by omega) (by omega) ?_) | (refine LetB.pre ?_; first | refine LetB.decf (by omega) ?_) | (refine Br.pre ?_; first | refine Br.ff rfl ?_) | (refine Ck.pre ?_; first | refine Ck.mk rfl ?_)))); (try (conv => whnf)))
      refine LoopN.weak ?sw6b (ihj (j + 1) (by omega) (by omega))
      case sw6b => exact SW.mk id rfl rfl (acs_names _ _ _ rfl) ⟨.refl _, .refl _, .refl _, .refl _, .refl _, .refl _, .refl _, .refl _, VLe2.int (by omega), trivial⟩ (haveV.row (pure_ac _) rfl (haveV.row rfl rfl trivial))
    clear ihj
    have hld := row_ac hli
    have hzz := hall _ (getD_mem hli)
    generalize all.getD i ac0 = z at hld hzz
    have sw7 := ihi (i + 1) (by omega) (by omega)
    clear ihi
    ((repeat ((conv => whnf); (first | (refine LetN.pre ?_; first | ((conv => arg 1; whnf); refine LetN.mk ?_)) | (refine As.pre ?_; first | refine As.mk rfl ?_ | (refine As.mk ?_ ?_; · ((repeat' (refine andT ?_ ?_)) <;> (first | rfl | assumption | exact decide_eq_true (by omega) | exact decide_eq_true (by dsimp only; omega) | exact decide_eq_true (by simp; omega) | (simp; done))))) | (refine LetV.pre ?_; first | refine LetV.mk (t := aty) _ hld ?_) | (refine LetI.pre ?_; first | refine LetI.wrap (by omega) (by omega) ?_) | (refine LetB.pre ?_; first | refine LetB.dect (by omega) ?_) | (refine Gd.pre ?_; first | refine Gd.pass rfl ?_) | (refine Br.pre ?_; first | refine Br.tt rfl ?_ | refine Br.ff rfl ?_) | (refine Ck.pre ?_; first | refine Ck.mk rfl ?_) | (refine LetL.pre ?_; first | refine LetL.mk [_] rfl ?_)))); (try (conv => whnf)))
    refine LoopN.weak ?sw7b sw7
    case sw7b => exact SW.mk id rfl rfl (acs_names _ _ _ rfl) ⟨.refl _, .refl _, .refl _, .refl _, .refl _, .refl _, .refl _, .refl _, .refl _, .refl _, .refl _, .refl _, .refl _, .refl _, VLe2.int (by omega), trivial⟩ (haveV.row (pure_ac _) rfl (haveV.row rfl rfl (haveV.row rfl rfl trivial)))
  · ((repeat ((conv => whnf); (first | (refine LetN.pre ?_; first | ((conv => arg 1; whnf); refine LetN.mk ?_)) | (refine As.pre ?_; first | refine As.mk rfl ?_ | (refine As.mk ?_ ?_; · ((repeat' (refine andT ?_ ?_)) <;> (first | rfl | assumption | exact decide_eq_true (by omega) | exact decide_eq_true (by dsimp only; omega) | exact decide_eq_true (by simp; omega) | (simp; done))))) | (refine LetV.pre ?_; first | refine LetV.mk (t := aty) _ hld ?_ | refine LetV.mk (.agg _) rfl ?_) | (refine LetI.pre ?_; first | refine LetI.mk _ rfl ?_) | (refine LetB.pre ?_; first | refine LetB.ff rfl ?_ | refine LetB.dect (by omega) ?_) | (refine Gd.pre ?_; first | refine Gd.run rfl ?_ | refine Gd.pass rfl ?_) | (refine Br.pre ?_; first | refine Br.tt rfl ?_ | refine Br.ff rfl ?_) | (refine Ck.pre ?_; first | refine Ck.drawn (by kernel_rfl) ?_ | refine Ck.mk rfl ?_) | (refine LetL.pre ?_; first | refine LetL.mk [_] rfl ?_) | (refine CallN.pre ?_; first | refine CallN.pure h1 rfl rfl ?_ | refine CallN.pure h2 rfl rfl ?_ | refine CallN.pure h3 rfl rfl ?_)))); (try (conv => whnf)))




    refine LoopN.weak (s1 := ordZ all k a j b false true 0) ?sw5c ?_
    case sw5c => exact SW.mk id rfl rfl (acs_names _ _ _ rfl) ⟨.refl _, .refl _, .refl _, .refl _, .refl _, .refl _, .refl _, .refl _, .refl _, .refl _, .refl _, .refl _, .refl _, .refl _, .refl _, trivial⟩ (haveV.row (pure_ac _) rfl (haveV.row rfl rfl (haveV.row rfl rfl trivial)))
    clear h1 h2 h3 hld
    refine LoopN.ind T_ok mixed (S := ordZ all k a j b false true) (fun i => all.length - i) (fun i => i ≤ all.length) (fun _ => rfl) (fun i hi ihi => ?_) 0 (Nat.zero_le _)
    by_cases hli : i < all.length
    case neg =>
      clear ihi
      ((repeat ((conv => whnf); (first | (refine As.pre ?_; first | refine As.mk rfl ?_) | (refine LetI.pre ?_; first | refine LetI.wrap (by omega) (by omega) ?_) | (refine LetB.pre ?_; first | refine LetB.decf (by omega) ?_) | (refine Br.pre ?_; first | refine Br.ff rfl ?_) | (refine Ck.pre ?_; first | refine Ck.mk rfl ?_)))); (try (conv => whnf)))
      refine LoopN.weak ?sw6c (ihj (j + 1) (by omega) (by omega))
      case sw6c => exact SW.mk id rfl rfl (acs_names _ _ _ rfl) ⟨.refl _, .refl _, .refl _, .refl _, .refl _, .refl _, .refl _, .refl _, VLe2.int (by omega), trivial⟩ (haveV.row (pure_ac _) rfl (haveV.row rfl rfl trivial))
    clear ihj
    have hld := row_ac hli
    have hzz := hall _ (getD_mem hli)
    generalize all.getD i ac0 = z at hld hzz
    have sw7 := ihi (i + 1) (by omega) (by omega)
    clear ihi
    ((repeat ((conv => whnf); (first | (refine LetN.pre ?_; first | ((conv => arg 1; whnf); refine LetN.mk ?_)) | (refine As.pre ?_; first | refine As.mk rfl ?_ | (refine As.mk ?_ ?_; · ((repeat' (refine andT ?_ ?_)) <;> (first | rfl | assumption | exact decide_eq_true (by omega) | exact decide_eq_true (by dsimp only; omega) | exact decide_eq_true (by simp; omega) | (simp; done))))) | (refine LetV.pre ?_; first | refine LetV.mk (t := aty) _ hld ?_) | (refine LetI.pre ?_; first | refine LetI.wrap (by omega) (by omega) ?_) | (refine LetB.pre ?_; first | refine LetB.dect (by omega) ?_) | (refine Gd.pre ?_; first | refine Gd.pass rfl ?_) | (refine Br.pre ?_; first | refine Br.tt rfl ?_ | refine Br.ff rfl ?_) | (refine Ck.pre ?_; first | refine Ck.mk rfl ?_) | (refine LetL.pre ?_; first | refine LetL.mk [_] rfl ?_)))); (try (conv => whnf)))
    refine LoopN.weak ?sw7c sw7
    case sw7c => exact SW.mk id rfl rfl (acs_names _ _ _ rfl) ⟨.refl _, .refl _, .refl _, .refl _, .refl _, .refl _, .refl _, .refl _, .refl _, .refl _, .refl _, .refl _, .refl _, .refl _, VLe2.int (by omega), trivial⟩ (haveV.row (pure_ac _) rfl (haveV.row rfl rfl (haveV.row rfl rfl trivial)))
theorem eorder_row (x : List (List Int)) (hL : x.length ≤ 9223372036854775807) (hxs : ∀ l ∈ x, l.length ≤ 9223372036854775807) (q : Int × Int × Int) : AFun Try.prog 8 0 [.ro {} 1 (x.map fun l => .ro {} 1 (l.map int)), .agg [int q.1, int q.2.1, int q.2.2]] [] (bool true) [] := by
  have h := eorder (x.map fun l => (({} : Fl), l)) {} (by rw [List.length_map]; exact hL) (fun y hy => by
    obtain ⟨l, hl, rfl⟩ := List.mem_map.1 hy
    exact hxs l hl) q
  rw [List.map_map] at h
  exact h
end En
end Go.Proofs.Ytiefcppgbnfbfaa
namespace Go.Proofs.Ytiefcppgbnfbfaa
open Go.Proofs.Ytiefcppgbnfbfaa.Am
set_option maxRecDepth 100000
namespace En
/-! ### EarnFree -/
theorem cmn_iff (xs ys : List Int) : cmn xs ys = true ↔ ∃ x, x ∈ xs ∧ x ∈ ys := by
  unfold cmn hasI
  simp
theorem cmn_symm (xs ys : List Int) : cmn xs ys = cmn ys xs := by
  rw [Bool.eq_iff_iff, cmn_iff, cmn_iff]
  exact ⟨fun ⟨x, a, b⟩ => ⟨x, b, a⟩, fun ⟨x, a, b⟩ => ⟨x, b, a⟩⟩
theorem apP_iff (a b : Ac) : apP a b = true ↔ ¬(a.school = b.school ∧ a.code = b.code) ∧ ((0 < a.bundle ∧ a.bundle = b.bundle ∧ a.path = b.path) ∨ cmn a.src b.src = false) := by
  unfold apP
  simp only [Bool.and_eq_true, Bool.or_eq_true, Bool.not_eq_true', Bool.and_eq_false_iff, decide_eq_true_eq, decide_eq_false_iff_not, and_assoc, Decidable.not_and_iff_not_or_not]
theorem apP_symm (a b : Ac) : apP a b = apP b a := by
  rw [Bool.eq_iff_iff, apP_iff, apP_iff, cmn_symm a.src]
  refine and_congr (not_congr ⟨fun h => ⟨h.1.symm, h.2.symm⟩, fun h => ⟨h.1.symm, h.2.symm⟩⟩) (or_congr_left ⟨fun h => ⟨h.2.1 ▸ h.1, h.2.1.symm, h.2.2.symm⟩, fun h => ⟨h.2.1 ▸ h.1, h.2.1.symm, h.2.2.symm⟩⟩)
theorem apP_self (a : Ac) : apP a a = false := by
  rw [← Bool.not_eq_true, apP_iff]
  exact fun h => h.1 ⟨rfl, rfl⟩
/-- Two numbers of two achievements do not clash. -/
def oneQ (a b : Ac) (x y : Int) : Bool := decide (x ≠ y) || (decide (0 < a.bundle) && decide (a.bundle = b.bundle))
def srcQ (a b : Ac) : Bool := a.src.all fun x => b.src.all (oneQ a b x)
def pairF (a b : Ac) : Bool := srcQ a b && !(decide (a.school = b.school) && decide (a.code = b.code))
theorem okC_path {a b : Ac} (ha : okC a) (hb : okC b) (h0 : 0 < a.bundle) (h : a.bundle = b.bundle) : a.path = b.path := by
  rcases ha.1 with ⟨h1, _⟩ | ⟨_, h1⟩
  · omega
  · rcases hb.1 with ⟨h2, _⟩ | ⟨_, h2⟩
    · omega
    · rw [h1, h2, h]
theorem pairF_eq {a b : Ac} (ha : okC a) (hb : okC b) : pairF a b = apP b a := by
  rw [apP_symm b a, Bool.eq_iff_iff, apP_iff]
  unfold pairF srcQ oneQ
  simp only [Bool.and_eq_true, Bool.or_eq_true, Bool.not_eq_true', Bool.and_eq_false_iff, decide_eq_true_eq, decide_eq_false_iff_not, List.all_eq_true]
  constructor
  · rintro ⟨h1, h2⟩
    refine ⟨fun h => h2.elim (fun k => k h.1) fun k => k h.2, ?_⟩
    by_cases hq : 0 < a.bundle ∧ a.bundle = b.bundle
    · exact .inl ⟨hq.1, hq.2, okC_path ha hb hq.1 hq.2⟩
    · refine .inr ?_
      rw [← Bool.not_eq_true, cmn_iff]
      rintro ⟨x, hx, hy⟩
      rcases h1 x hx x hy with h | h
      · exact h rfl
      · exact hq h
  · rintro ⟨h1, h2⟩
    refine ⟨fun x hx y hy => ?_, by by_cases h : a.school = b.school; exact .inr fun k => h1 ⟨h, k⟩; exact .inl h⟩
    rcases h2 with h | h
    · exact .inr ⟨h.1, h.2.1⟩
    · refine .inl fun e => ?_
      subst e
      rw [← Bool.not_eq_true, cmn_iff] at h
      exact h ⟨x, hx, hy⟩
/-- Whether a list is free, as the law reckons it. -/
abbrev rowF (all : List Ac) (k : Nat) : Bool := (all.take k).all (pairF (all.getD k ac0))
theorem free_all {all : List Ac} (h : ∀ a ∈ all, okC a) : (List.range all.length).all (rowF all) = frP all := by
  rw [← free_eq, frR]
  rw [Bool.eq_iff_iff, List.all_eq_true, List.all_eq_true]
  refine forall_congr' fun k => imp_congr_right fun hk => ?_
  have hk : k < all.length := by simpa using hk
  rw [List.all_eq_true, List.all_eq_true]
  refine forall_congr' fun b => imp_congr_right fun hb => ?_
  rw [pairF_eq (h _ (getD_mem hk)) (h _ (List.mem_of_mem_take hb))]
theorem free_sub {all part : List Ac} (h : part.Sublist all) (hf : frP all = true) : frP part = true := by
  rw [frP_iff] at hf ⊢
  exact hf.sublist h
abbrev u8 (v : Int) : AV := .sc (.int .u8 v)
abbrev frO (o : Int) (all : List Ac) : Nat × List Ac × Bool → AS
  | (k, part, f) => ⟨[(1, u8 o), (5, bool true), (6, .slm {} 0 8 0 all.length), (7, .slm {} 1 8 0 part.length), (8, bool f), (20, .slm {} 0 8 0 all.length), (21, int all.length), (22, int k)], [(0, .row 8 aty (all.map acA)), (1, .row 8 aty (part.map acA))], 2⟩
abbrev frC (o : Int) (all : List Ac) (k : Nat) (a : Ac) (f : Bool) (part : List Ac) : AS :=
  ⟨[(1, u8 o), (5, bool true), (6, .slm {} 0 8 0 all.length), (7, .slm {} 1 8 0 part.length), (8, bool f), (9, int k), (10, .ptr 2 8 0 0), (20, .slm {} 0 8 0 all.length), (21, int all.length), (22, int k)], [(0, .row 8 aty (all.map acA)), (1, .row 8 aty (part.map acA)), (2, .row 8 aty [acA a])], 3⟩
abbrev frI (o : Int) (all part : List Ac) (k : Nat) (a : Ac) : Nat × Bool → AS
  | (i, f) => ⟨[(1, u8 o), (5, bool true), (6, .slm {} 0 8 0 all.length), (7, .slm {} 1 8 0 part.length), (8, bool f), (10, .ptr 2 8 0 0), (20, .slm {} 0 8 0 all.length), (21, int all.length), (22, int k), (41, .slm {} 0 8 0 k), (42, int k), (43, int i)], [(0, .row 8 aty (all.map acA)), (1, .row 8 aty (part.map acA)), (2, .row 8 aty [acA a])], 3⟩
abbrev frE (o : Int) (all part : List Ac) (k : Nat) (a : Ac) (i : Nat) (b : Ac) (f : Bool) : AS :=
  ⟨[(1, u8 o), (5, bool true), (6, .slm {} 0 8 0 all.length), (7, .slm {} 1 8 0 part.length), (8, bool f), (10, .ptr 2 8 0 0), (12, .ptr 3 8 0 0), (20, .slm {} 0 8 0 all.length), (21, int all.length), (22, int k), (41, .slm {} 0 8 0 k), (42, int k), (43, int i)], [(0, .row 8 aty (all.map acA)), (1, .row 8 aty (part.map acA)), (2, .row 8 aty [acA a]), (3, .row 8 aty [acA b])], 4⟩
abbrev frX (o : Int) (all part : List Ac) (k : Nat) (a : Ac) (i : Nat) (b : Ac) : Nat × Bool → AS
  | (x, f) => ⟨[(1, u8 o), (5, bool true), (6, .slm {} 0 8 0 all.length), (7, .slm {} 1 8 0 part.length), (8, bool f), (10, .ptr 2 8 0 0), (12, .ptr 3 8 0 0), (20, .slm {} 0 8 0 all.length), (21, int all.length), (22, int k), (41, .slm {} 0 8 0 k), (42, int k), (43, int i), (55, ro1 {} a.src), (56, int a.src.length), (57, int x)], [(0, .row 8 aty (all.map acA)), (1, .row 8 aty (part.map acA)), (2, .row 8 aty [acA a]), (3, .row 8 aty [acA b])], 4⟩
abbrev frY (o : Int) (all part : List Ac) (k : Nat) (a : Ac) (i : Nat) (b : Ac) (x : Nat) (xv : Int) : Nat × Bool → AS
  | (y, f) => ⟨[(1, u8 o), (5, bool true), (6, .slm {} 0 8 0 all.length), (7, .slm {} 1 8 0 part.length), (8, bool f), (10, .ptr 2 8 0 0), (12, .ptr 3 8 0 0), (14, int xv), (20, .slm {} 0 8 0 all.length), (21, int all.length), (22, int k), (41, .slm {} 0 8 0 k), (42, int k), (43, int i), (55, ro1 {} a.src), (56, int a.src.length), (57, int x), (62, ro1 {} b.src), (63, int b.src.length), (64, int y)], [(0, .row 8 aty (all.map acA)), (1, .row 8 aty (part.map acA)), (2, .row 8 aty [acA a]), (3, .row 8 aty [acA b])], 4⟩
theorem acs_names2 (all part : List Ac) (ok : Nat → Bool) (H : AH) (h : namesAll ok H = true) : namesAll ok ((0, .row 8 aty (all.map acA)) :: (1, .row 8 aty (part.map acA)) :: H) = true := namesAll.row (pure_ac _) (namesAll.row (pure_ac _) h)
theorem sub_next {all part : List Ac} {k : Nat} (hk : k < all.length) (h : part.Sublist (all.take k)) : part.Sublist (all.take (k + 1)) ∧ (part ++ [all.getD k ac0]).Sublist (all.take (k + 1)) := by
  rw [List.take_succ_eq_append_getElem hk]
  refine ⟨h.trans (List.sublist_append_left _ _), ?_⟩
  rw [List.getD_eq_getElem?_getD, List.getElem?_eq_getElem hk]
  exact h.append (List.Sublist.refl _)
set_option maxHeartbeats 1600000 in
set_option maxRecDepth 100000 in
theorem efree (L : List (Fl × List Int)) (fl : Fl) (hL : L.length ≤ 9223372036854775807) (hxs : ∀ x ∈ L, x.2.length ≤ 9223372036854775807) (o : Int) (ho : 0 ≤ o ∧ o ≤ 255) : AFun Try.prog 4 0 [.ro fl 1 (L.map iA), u8 o] [] (bool true) [] := by
  obtain ⟨all, ⟨hm1, hm2⟩, hM⟩ := Made_c L fl hL hxs
  refine AFun.of_W T_ok mixed Try.func4 rfl (Nat.le_of_ble_eq_true rfl) rfl ?_
  have hall : ∀ a ∈ all, okA a := fun a ha => by
    obtain ⟨h1, h2⟩ := hm2 a ha
    refine ⟨by omega, ?_⟩
    rcases h1 with ⟨_, h⟩ | ⟨_, h⟩ <;> rw [h] <;> simp
  have hma : (all.map acA).length = all.length := List.length_map _
  have hfin := free_all hm2
  ((repeat ((conv => whnf); (first | (refine LetN.pre ?_; first | ((conv => arg 1; whnf); refine LetN.mk ?_)) | (refine As.pre ?_; first | refine As.mk rfl ?_) | (refine LetI.pre ?_; first | refine LetI.mk _ rfl ?_) | (refine Ck.pre ?_; first | refine Ck.mk rfl ?_) | (refine LetL.pre ?_; first | refine LetL.mk (ty := aty) _ (renL_none (pure_ac _)).symm ?_) | (refine CallN.pre ?_; first | refine CallN.pure sanity_f rfl rfl ?_ | refine CallN.own (fun _ => 0) hM (CallOk.mk' rfl rfl rfl rfl rfl (namesAll.row (pure_ac _) rfl) trivial) ?_)))); (try (conv => whnf)))



  refine LoopN.weak (s1 := frO o all (0, [], true)) ?sw1 ?_
  case sw1 => exact SW.mk id rfl rfl (acs_names2 _ _ _ _ rfl) ⟨.refl _, .refl _, .refl _, VLe2.nilslm, .refl _, .refl _, .refl _, .refl _, trivial⟩ (haveV.row (pure_ac _) rfl (haveV.nil (Nat.le_of_ble_eq_true rfl) trivial))
  clear hM hm2
  obtain ⟨R, hR⟩ : ∃ R, R = frP all := ⟨_, rfl⟩
  rw [← hR] at hfin
  refine LoopN.indS (S := frO o all) (fun i => all.length - i.1) (fun i => i.1 ≤ all.length ∧ i.2.1.Sublist (all.take i.1) ∧ R = (i.2.2 && ((List.range all.length).drop i.1).all (rowF all))) (fun i hi ih => ?_) (0, [], true) ⟨Nat.zero_le _, List.nil_sublist _, hfin.symm⟩
  obtain ⟨k, part, f⟩ := i
  obtain ⟨g1, g2, g3⟩ := hi
  simp only at g1 g2 g3 ih
  have hpl : part.length ≤ 8 := by
    have := g2.length_le
    rw [List.length_take] at this
    omega
  have hmp : (part.map acA).length = part.length := List.length_map _
  by_cases hlt : k < all.length
  case neg =>
    clear ih
    rw [List.drop_eq_nil_of_le (by simp; omega), List.all_nil, Bool.and_true] at g3
    rw [List.take_of_length_le (by omega)] at g2
    have f1 := Free_f all {} (by omega) hall
    have f2 := Free_f part {} (by omega) (fun b hb => hall b (g2.subset hb))
    rw [← hR, g3] at f1
    refine VS.of_V T_ok mixed rfl ?_
    cases f with
    | true =>
      rw [free_sub g2 (by rw [← hR, g3])] at f2
      ((repeat ((conv => whnf); (first | (refine As.pre ?_; first | refine As.mk rfl ?_) | (refine LetB.pre ?_; first | refine LetB.tt rfl ?_ | refine LetB.decf (by omega) ?_) | (refine Gd.pre ?_; first | refine Gd.run rfl ?_) | (refine Br.pre ?_; first | refine Br.ff rfl ?_) | (refine Ck.pre ?_; first | refine Ck.mk rfl ?_) | (refine CallN.pre ?_; first | refine CallN.lend f1 rfl (.full rfl (pure_ac _) hma.symm .nil) ?_ | refine CallN.lend f2 rfl (.full rfl (pure_ac _) hmp.symm .nil) ?_)))); (try (conv => whnf)))


      exact ⟨.inl rfl, ⟨_, rfl, rfl⟩, trivial⟩
    | false =>
      ((repeat ((conv => whnf); (first | (refine As.pre ?_; first | refine As.mk rfl ?_) | (refine LetB.pre ?_; first | refine LetB.tt rfl ?_ | refine LetB.decf (by omega) ?_) | (refine Gd.pre ?_; first | refine Gd.run rfl ?_ | refine Gd.pass rfl ?_) | (refine Br.pre ?_; first | refine Br.ff rfl ?_) | (refine Ck.pre ?_; first | refine Ck.mk rfl ?_) | (refine CallN.pre ?_; first | refine CallN.lend f1 rfl (.full rfl (pure_ac _) hma.symm .nil) ?_)))); (try (conv => whnf)))

      exact ⟨.inl rfl, ⟨_, rfl, rfl⟩, trivial⟩
  have hld := row_ac hlt
  have ha := hall _ (getD_mem hlt)
  obtain ⟨g4, g5⟩ := sub_next hlt g2
  rw [all_rdrop _ hlt] at g3
  have hrow : rowF all k = ((all.take k).drop 0).all (pairF (all.getD k ac0)) := rfl
  generalize rowF all k = Z at g3 hrow
  generalize all.getD k ac0 = a at hld ha g5 hrow
  have hself := Apart_f a a ha ha
  rw [apP_self] at hself
  have hr := room_ach (n := part.length + 1) (by omega)
  have happ := app_ac part a part.length rfl
  have hpl1 : (part ++ [a]).length = part.length + 1 := by simp
  refine VS.cut T_ok mixed rfl ?_
  ((repeat ((conv => whnf); (first | (refine As.pre ?_; first | refine As.mk rfl ?_) | (refine LetB.pre ?_; first | refine LetB.dect (by omega) ?_) | (refine Ck.pre ?_; first | refine Ck.mk rfl ?_)))); (try (conv => whnf)))
  refine VS.cut T_ok mixed rfl ?_
  ((repeat ((conv => whnf); (first | (refine Br.pre ?_; first | refine Br.tt rfl ?_) | (refine Ck.pre ?_; first | refine Ck.mk rfl ?_)))); (try (conv => whnf)))
  refine VS.seq (VS.block ?_)
  refine VS.cut T_ok mixed rfl ?_
  ((repeat ((conv => whnf); (first | (refine LetN.pre ?_; first | ((conv => arg 1; whnf); refine LetN.mk ?_)) | (refine As.pre ?_; first | refine As.mk rfl ?_ | (refine As.mk ?_ ?_; · ((repeat' (refine andT ?_ ?_)) <;> (first | rfl | assumption | exact decide_eq_true (by omega) | exact decide_eq_true (by dsimp only; omega) | exact decide_eq_true (by simp; omega) | (simp; done))))) | (refine LetV.pre ?_; first | refine LetV.mk (t := aty) _ hld ?_) | (refine Ck.pre ?_; first | refine Ck.mk rfl ?_) | (refine LetL.pre ?_; first | refine LetL.mk [_] rfl ?_)))); (try (conv => whnf)))
  refine VS.join (frC o all k a f) (fun part' => part'.Sublist (all.take (k + 1)) ∧ part'.length ≤ 9) ?_ ?_
  · refine VS.cut T_ok mixed rfl ?_
    ((repeat ((conv => whnf); (first | (refine As.pre ?_; first | refine As.mk rfl ?_) | (refine LetI.pre ?_; first | refine LetI.mk _ rfl ?_) | (refine LetB.pre ?_; first | refine LetB.mk _ rfl ?_) | (refine Ck.pre ?_; first | refine Ck.mk rfl ?_)))); (try (conv => whnf)))
    refine VS.condB rfl rfl (fun _ => ?_) (fun _ => ?_)
    · refine VS.of_V T_ok mixed rfl ?_
      ((repeat ((conv => whnf); (first | (refine LetN.pre ?_; first | ((conv => arg 1; whnf); refine LetN.mk ?_)) | (refine As.pre ?_; first | refine As.mk rfl ?_ | (refine As.mk ?_ ?_; · ((repeat' (refine andT ?_ ?_)) <;> (first | rfl | assumption | exact decide_eq_true (by omega) | exact decide_eq_true (by dsimp only; omega) | exact decide_eq_true (by simp; omega) | (simp; done))))) | (refine LetV.pre ?_; first | refine LetV.mk (.agg _) rfl ?_) | (refine Ck.pre ?_; first | refine Ck.mk rfl ?_) | (refine LetL.pre ?_; first | refine LetL.mk (ty := aty) _ happ ?_)))); (try (conv => whnf)))
      refine ⟨part ++ [a], ⟨g5, by omega⟩, ?_⟩
      exact SW.mk (fun i => if i = 1 then 3 else i) rfl rfl (acs_names2 _ _ _ _ rfl) ⟨.refl _, .refl _, .refl _, VLe2.slm_of hpl1, .refl _, .refl _, .refl _, .refl _, .refl _, .refl _, trivial⟩ (haveV.row (pure_ac _) rfl (haveV.row (pure_ac _) rfl (haveV.row rfl rfl trivial)))
    · refine VS.skip ⟨part, ⟨g4, by omega⟩, ?_⟩
      exact SW.mk id rfl rfl (acs_names2 _ _ _ _ rfl) ⟨.refl _, .refl _, .refl _, .refl _, .refl _, .refl _, .refl _, .refl _, .refl _, .refl _, trivial⟩ (haveV.row (pure_ac _) rfl (haveV.row (pure_ac _) rfl (haveV.row rfl rfl trivial)))
  clear g2 g4 g5 happ hpl1 hmp hr hpl hld part
  intro part hpart
  obtain ⟨hp1, hp2⟩ := hpart
  obtain ⟨R2, hR2⟩ : ∃ R2, R2 = (f && Z) := ⟨_, rfl⟩
  rw [← Bool.and_assoc, ← hR2] at g3
  rw [hrow] at hR2
  refine VS.seq ?_
  refine VS.cut T_ok mixed rfl ?_
  ((repeat ((conv => whnf); (first | (refine As.pre ?_; first | refine As.mk rfl ?_) | (refine LetV.pre ?_; first | refine LetV.mk (.agg _) rfl ?_) | (refine Ck.pre ?_; first | refine Ck.mk rfl ?_) | (refine CallN.pre ?_; first | refine CallN.pure hself rfl rfl ?_)))); (try (conv => whnf)))
  refine VS.condF rfl rfl (VS.skip ?_)
  refine VS.cut T_ok mixed rfl ?_
  ((repeat ((conv => whnf); (first | (refine As.pre ?_; first | refine As.mk rfl ?_ | (refine As.mk ?_ ?_; · ((repeat' (refine andT ?_ ?_)) <;> (first | rfl | assumption | exact decide_eq_true (by omega) | exact decide_eq_true (by dsimp only; omega) | exact decide_eq_true (by simp; omega) | (simp; done))))) | (refine LetV.pre ?_; first | refine LetV.mk (.slm _ _ _ _ _) rfl ?_) | (refine LetI.pre ?_; first | refine LetI.mk _ rfl ?_) | (refine Ck.pre ?_; first | refine Ck.mk rfl ?_)))); (try (conv => whnf)))
  refine VS.endN (fun f => frO o all (k, part, f)) (fun f => f = R2) ?_ ?_
  case refine_2 =>
    intro f' s1 hf hw
    subst hf
    refine VS.weak hw ?_
    refine VS.of_V T_ok mixed rfl ?_
    ((repeat ((conv => whnf); (first | (refine As.pre ?_; first | refine As.mk rfl ?_) | (refine LetI.pre ?_; first | refine LetI.wrap (by omega) (by omega) ?_) | (refine Ck.pre ?_; first | refine Ck.mk rfl ?_)))); (try (conv => whnf)))
    refine LoopN.weak ?sw3 (ih (k + 1, part, f') ⟨by omega, hp1, g3⟩ (by show all.length - (k + 1) < all.length - k; omega))
    case sw3 => exact SW.mk id rfl rfl (acs_names2 _ _ _ _ rfl) ⟨.refl _, .refl _, .refl _, .refl _, .refl _, .refl _, .refl _, VLe2.int (by omega), trivial⟩ (haveV.row (pure_ac _) rfl (haveV.row (pure_ac _) rfl trivial))
  clear ih g3 hself hp1
  refine VS.block (VS.loop ?_)
  refine LoopN.weak (s1 := frI o all part k a (0, f)) ?sw2 ?_
  case sw2 => exact SW.mk id rfl rfl (acs_names2 _ _ _ _ rfl) ⟨.refl _, .refl _, .refl _, .refl _, .refl _, .refl _, .refl _, .refl _, .refl _, VLe2.slm_of (by simp), VLe2.int (by simp), .refl _, trivial⟩ (haveV.row (pure_ac _) rfl (haveV.row (pure_ac _) rfl (haveV.row rfl rfl trivial)))
  refine LoopN.indS (S := frI o all part k a) (fun i => k - i.1) (fun i => i.1 ≤ k ∧ R2 = (i.2 && ((all.take k).drop i.1).all (pairF a))) (fun i hi ihI => ?_) (0, f) ⟨Nat.zero_le _, hR2⟩
  clear hR2 hrow f Z
  obtain ⟨i, f⟩ := i
  obtain ⟨u1, u2⟩ := hi
  simp only at u1 u2
  have hlk : (all.take k).length = k := by rw [List.length_take]; omega
  by_cases hli : i < k
  case neg =>
    clear ihI
    rw [List.drop_eq_nil_of_le (by omega), List.all_nil, Bool.and_true] at u2
    refine VS.of_V T_ok mixed rfl ?_
    ((repeat ((conv => whnf); (first | (refine As.pre ?_; first | refine As.mk rfl ?_) | (refine LetB.pre ?_; first | refine LetB.decf (by omega) ?_) | (refine Br.pre ?_; first | refine Br.ff rfl ?_) | (refine Ck.pre ?_; first | refine Ck.mk rfl ?_)))); (try (conv => whnf)))
    exact ⟨rfl, f, u2.symm, SW.mk id rfl rfl (acs_names2 _ _ _ _ rfl) ⟨.refl _, .refl _, .refl _, .refl _, .refl _, .refl _, .refl _, .refl _, trivial⟩ (haveV.row (pure_ac _) rfl (haveV.row (pure_ac _) rfl trivial))⟩
  have hld := row_ac (show i < all.length by omega)
  have hb := hall _ (getD_mem (show i < all.length by omega))
  have hgt : (all.take k).getD i ac0 = all.getD i ac0 := by
    rw [List.getD_eq_getElem?_getD, List.getD_eq_getElem?_getD, List.getElem?_take_of_lt hli]
  rw [all_drop _ (by omega) ac0, hgt] at u2
  generalize all.getD i ac0 = b at hld hb u2
  have hA1 := Apart_f a b ha hb
  have hA2 := Apart_f b a hb ha
  rw [apP_symm b a] at hA2
  generalize apP a b = m at hA1 hA2
  have hmx : (a.src.map int).length = a.src.length := List.length_map _
  have hmy : (b.src.map int).length = b.src.length := List.length_map _
  have hpf : pairF a b = (srcQ a b && !(decide (a.school = b.school) && decide (a.code = b.code))) := rfl
  obtain ⟨R3, hR3⟩ : ∃ R3, R3 = (f && srcQ a b) := ⟨_, rfl⟩
  rw [hpf, ← Bool.and_assoc, ← Bool.and_assoc, ← hR3] at u2
  clear hpf
  refine VS.cut T_ok mixed rfl ?_
  ((repeat ((conv => whnf); (first | (refine As.pre ?_; first | refine As.mk rfl ?_) | (refine LetB.pre ?_; first | refine LetB.dect (by omega) ?_) | (refine Ck.pre ?_; first | refine Ck.mk rfl ?_)))); (try (conv => whnf)))
  refine VS.cut T_ok mixed rfl ?_
  ((repeat ((conv => whnf); (first | (refine Br.pre ?_; first | refine Br.tt rfl ?_) | (refine Ck.pre ?_; first | refine Ck.mk rfl ?_)))); (try (conv => whnf)))
  refine VS.seq (VS.block ?_)
  refine VS.cut T_ok mixed rfl ?_
  ((repeat ((conv => whnf); (first | (refine LetN.pre ?_; first | ((conv => arg 1; whnf); refine LetN.mk ?_)) | (refine As.pre ?_; first | refine As.mk rfl ?_ | (refine As.mk ?_ ?_; · ((repeat' (refine andT ?_ ?_)) <;> (first | rfl | assumption | exact decide_eq_true (by omega) | exact decide_eq_true (by dsimp only; omega) | exact decide_eq_true (by simp; omega) | (simp; done))))) | (refine LetV.pre ?_; first | refine LetV.mk (t := aty) _ hld ?_) | (refine Ck.pre ?_; first | refine Ck.mk rfl ?_) | (refine LetL.pre ?_; first | refine LetL.mk [_] rfl ?_)))); (try (conv => whnf)))
  refine VS.seq ?_
  refine VS.cut T_ok mixed rfl ?_
  ((repeat ((conv => whnf); (first | (refine As.pre ?_; first | refine As.mk rfl ?_) | (refine LetV.pre ?_; first | refine LetV.mk (.agg _) rfl ?_) | (refine LetB.pre ?_; first | refine LetB.ff (nself _) ?_) | (refine Ck.pre ?_; first | refine Ck.drawn (by kernel_rfl) ?_ | refine Ck.mk rfl ?_) | (refine CallN.pre ?_; first | refine CallN.pure hA1 rfl rfl ?_ | refine CallN.pure hA2 rfl rfl ?_)))); (try (conv => whnf)))



  refine VS.condF rfl rfl (VS.skip ?_)
  refine VS.joinN (fun f => frE o all part k a i b f) (fun f => f = R3) ?_ ?_
  case refine_2 =>
    intro f' hf
    subst hf
    have hc := toL_eq a.code b.code
    have hce : (a.school == b.school && (a.code.toList == b.code.toList && true)) = (decide (a.school = b.school) && decide (a.code = b.code)) := by
      rw [hc, Bool.and_true]; rfl
    obtain ⟨C, hC⟩ : ∃ C, C = (decide (a.school = b.school) && decide (a.code = b.code)) := ⟨_, rfl⟩
    rw [← hC] at u2 hce
    clear hC hR3 hA1 hA2 hld
    have hnx := ihI (i + 1, f' && !C) ⟨by omega, u2⟩ (by show k - (i + 1) < k - i; omega)
    clear ihI u2
    refine VS.of_V T_ok mixed rfl ?_
    cases f' with
    | false =>
      ((repeat ((conv => whnf); (first | (refine As.pre ?_; first | refine As.mk rfl ?_) | (refine Gd.pre ?_; first | refine Gd.pass rfl ?_) | (refine Ck.pre ?_; first | refine Ck.mk rfl ?_)))); (try (conv => whnf)))
      refine VS.of_V T_ok mixed rfl ?_
      ((repeat ((conv => whnf); (first | (refine As.pre ?_; first | refine As.mk rfl ?_) | (refine LetI.pre ?_; first | refine LetI.wrap (by omega) (by omega) ?_) | (refine Ck.pre ?_; first | refine Ck.mk rfl ?_)))); (try (conv => whnf)))
      refine LoopN.weak ?sw5 hnx
      case sw5 => exact SW.mk id rfl rfl (acs_names2 _ _ _ _ rfl) ⟨.refl _, .refl _, .refl _, .refl _, .refl _, .refl _, .refl _, .refl _, .refl _, .refl _, .refl _, VLe2.int (by omega), trivial⟩ (haveV.row (pure_ac _) rfl (haveV.row (pure_ac _) rfl (haveV.row rfl rfl trivial)))
    | true =>
      cases C with
      | true =>
        have hce2 : (!(a.school == b.school && (a.code.toList == b.code.toList && true))) = false := by rw [hce]; rfl
        ((repeat ((conv => whnf); (first | (refine As.pre ?_; first | refine As.mk rfl ?_) | (refine LetV.pre ?_; first | refine LetV.mk (.agg _) rfl ?_) | (refine LetB.pre ?_; first | refine LetB.ff (by assumption) ?_) | (refine Gd.pre ?_; first | refine Gd.run rfl ?_) | (refine Ck.pre ?_; first | refine Ck.mk rfl ?_)))); (try (conv => whnf)))
        refine VS.of_V T_ok mixed rfl ?_
        ((repeat ((conv => whnf); (first | (refine As.pre ?_; first | refine As.mk rfl ?_) | (refine LetI.pre ?_; first | refine LetI.wrap (by omega) (by omega) ?_) | (refine Ck.pre ?_; first | refine Ck.mk rfl ?_)))); (try (conv => whnf)))
        refine LoopN.weak ?sw6 hnx
        case sw6 => exact SW.mk id rfl rfl (acs_names2 _ _ _ _ rfl) ⟨.refl _, .refl _, .refl _, .refl _, .refl _, .refl _, .refl _, .refl _, .refl _, .refl _, .refl _, VLe2.int (by omega), trivial⟩ (haveV.row (pure_ac _) rfl (haveV.row (pure_ac _) rfl (haveV.row rfl rfl trivial)))
      | false =>
        have hce2 : (!(a.school == b.school && (a.code.toList == b.code.toList && true))) = true := by rw [hce]; rfl
        ((repeat ((conv => whnf); (first | (refine As.pre ?_; first | refine As.mk rfl ?_) | (refine LetV.pre ?_; first | refine LetV.mk (.agg _) rfl ?_) | (refine LetB.pre ?_; first | refine LetB.tt (by assumption) ?_) | (refine Gd.pre ?_; first | refine Gd.run rfl ?_) | (refine Ck.pre ?_; first | refine Ck.mk rfl ?_)))); (try (conv => whnf)))
        refine VS.of_V T_ok mixed rfl ?_
        ((repeat ((conv => whnf); (first | (refine As.pre ?_; first | refine As.mk rfl ?_) | (refine LetI.pre ?_; first | refine LetI.wrap (by omega) (by omega) ?_) | (refine Ck.pre ?_; first | refine Ck.mk rfl ?_)))); (try (conv => whnf)))
        refine LoopN.weak ?sw7 hnx
        case sw7 => exact SW.mk id rfl rfl (acs_names2 _ _ _ _ rfl) ⟨.refl _, .refl _, .refl _, .refl _, .refl _, .refl _, .refl _, .refl _, .refl _, .refl _, .refl _, VLe2.int (by omega), trivial⟩ (haveV.row (pure_ac _) rfl (haveV.row (pure_ac _) rfl (haveV.row rfl rfl trivial)))
  clear ihI u2 hA1 hA2 hld
  refine VS.cut T_ok mixed rfl ?_
  ((repeat ((conv => whnf); (first | (refine As.pre ?_; first | refine As.mk rfl ?_) | (refine LetV.pre ?_; first | refine LetV.mk (.ro _ _ _) rfl ?_) | (refine LetI.pre ?_; first | refine LetI.mk _ rfl ?_) | (refine Ck.pre ?_; first | refine Ck.mk rfl ?_)))); (try (conv => whnf)))
  refine VS.block (VS.loop ?_)
  refine LoopN.weak (s1 := frX o all part k a i b (0, f)) ?sw4 ?_
  case sw4 => exact SW.mk id rfl rfl (acs_names2 _ _ _ _ rfl) ⟨.refl _, .refl _, .refl _, .refl _, .refl _, .refl _, .refl _, .refl _, .refl _, .refl _, .refl _, .refl _, .refl _, .refl _, VLe2.int (by rw [List.length_map]), .refl _, trivial⟩ (haveV.row (pure_ac _) rfl (haveV.row (pure_ac _) rfl (haveV.row rfl rfl (haveV.row rfl rfl trivial))))
  refine LoopN.indS (S := frX o all part k a i b) (fun i => a.src.length - i.1) (fun i => i.1 ≤ a.src.length ∧ R3 = (i.2 && (a.src.drop i.1).all fun x => b.src.all (oneQ a b x))) (fun x hx ihX => ?_) (0, f) ⟨Nat.zero_le _, hR3⟩
  clear hR3 f
  obtain ⟨x, f⟩ := x
  obtain ⟨w1, w2⟩ := hx
  simp only at w1 w2
  by_cases hlx : x < a.src.length
  case neg =>
    clear ihX
    rw [List.drop_eq_nil_of_le (by omega), List.all_nil, Bool.and_true] at w2
    refine VS.of_V T_ok mixed rfl ?_
    ((repeat ((conv => whnf); (first | (refine As.pre ?_; first | refine As.mk rfl ?_) | (refine LetB.pre ?_; first | refine LetB.decf (by omega) ?_) | (refine Br.pre ?_; first | refine Br.ff rfl ?_) | (refine Ck.pre ?_; first | refine Ck.mk rfl ?_)))); (try (conv => whnf)))
    exact ⟨rfl, f, w2.symm, SW.mk id rfl rfl (acs_names2 _ _ _ _ rfl) ⟨.refl _, .refl _, .refl _, .refl _, .refl _, .refl _, .refl _, .refl _, .refl _, .refl _, .refl _, .refl _, .refl _, trivial⟩ (haveV.row (pure_ac _) rfl (haveV.row (pure_ac _) rfl (haveV.row rfl rfl (haveV.row rfl rfl trivial))))⟩
  have hlv := getD_int hlx
  rw [all_drop _ hlx 0] at w2
  generalize a.src.getD x 0 = xv at hlv w2
  obtain ⟨R4, hR4⟩ : ∃ R4, R4 = (f && b.src.all (oneQ a b xv)) := ⟨_, rfl⟩
  rw [← Bool.and_assoc, ← hR4] at w2
  refine VS.cut T_ok mixed rfl ?_
  ((repeat ((conv => whnf); (first | (refine As.pre ?_; first | refine As.mk rfl ?_) | (refine LetB.pre ?_; first | refine LetB.dect (by omega) ?_) | (refine Ck.pre ?_; first | refine Ck.mk rfl ?_)))); (try (conv => whnf)))
  refine VS.cut T_ok mixed rfl ?_
  ((repeat ((conv => whnf); (first | (refine Br.pre ?_; first | refine Br.tt rfl ?_) | (refine Ck.pre ?_; first | refine Ck.mk rfl ?_)))); (try (conv => whnf)))
  refine VS.seq (VS.block ?_)
  refine VS.cut T_ok mixed rfl ?_
  ((repeat ((conv => whnf); (first | (refine As.pre ?_; first | refine As.mk rfl ?_ | (refine As.mk ?_ ?_; · ((repeat' (refine andT ?_ ?_)) <;> (first | rfl | assumption | exact decide_eq_true (by omega) | exact decide_eq_true (by dsimp only; omega) | exact decide_eq_true (by simp; omega) | (simp; done))))) | (refine LetV.pre ?_; first | refine LetV.mk (t := 22) _ hlv ?_ | refine LetV.mk (.sc (.int _ _)) rfl ?_) | (refine Ck.pre ?_; first | refine Ck.mk rfl ?_)))); (try (conv => whnf)))
  refine VS.cut T_ok mixed rfl ?_
  ((repeat ((conv => whnf); (first | (refine As.pre ?_; first | refine As.mk rfl ?_) | (refine LetV.pre ?_; first | refine LetV.mk (.ro _ _ _) rfl ?_) | (refine LetI.pre ?_; first | refine LetI.mk _ rfl ?_) | (refine Ck.pre ?_; first | refine Ck.mk rfl ?_)))); (try (conv => whnf)))
  clear hlv
  refine VS.endN (fun f => frX o all part k a i b (x, f)) (fun f => f = R4) ?_ ?_
  case refine_2 =>
    intro f' s1 hf hw
    subst hf
    refine VS.weak hw ?_
    refine VS.of_V T_ok mixed rfl ?_
    ((repeat ((conv => whnf); (first | (refine As.pre ?_; first | refine As.mk rfl ?_) | (refine LetI.pre ?_; first | refine LetI.wrap (by omega) (by omega) ?_) | (refine Ck.pre ?_; first | refine Ck.mk rfl ?_)))); (try (conv => whnf)))
    refine LoopN.weak ?sw9 (ihX (x + 1, f') ⟨by omega, w2⟩ (by show a.src.length - (x + 1) < a.src.length - x; omega))
    case sw9 => exact SW.mk id rfl rfl (acs_names2 _ _ _ _ rfl) ⟨.refl _, .refl _, .refl _, .refl _, .refl _, .refl _, .refl _, .refl _, .refl _, .refl _, .refl _, .refl _, .refl _, .refl _, .refl _, VLe2.int (by omega), trivial⟩ (haveV.row (pure_ac _) rfl (haveV.row (pure_ac _) rfl (haveV.row rfl rfl (haveV.row rfl rfl trivial))))
  clear ihX w2
  refine VS.block (VS.loop ?_)
  refine LoopN.weak (s1 := frY o all part k a i b x xv (0, f)) ?sw8 ?_
  case sw8 => exact SW.mk id rfl rfl (acs_names2 _ _ _ _ rfl) ⟨.refl _, .refl _, .refl _, .refl _, .refl _, .refl _, .refl _, .refl _, .refl _, .refl _, .refl _, .refl _, .refl _, .refl _, .refl _, .refl _, .refl _, .refl _, VLe2.int (by rw [List.length_map]), .refl _, trivial⟩ (haveV.row (pure_ac _) rfl (haveV.row (pure_ac _) rfl (haveV.row rfl rfl (haveV.row rfl rfl trivial))))
  refine LoopN.ind T_ok mixed (S := frY o all part k a i b x xv) (fun i => b.src.length - i.1) (fun i => i.1 ≤ b.src.length ∧ R4 = (i.2 && (b.src.drop i.1).all (oneQ a b xv))) (fun _ => rfl) (fun y hy ihY => ?_) (0, f) ⟨Nat.zero_le _, hR4⟩
  clear hR4 f
  obtain ⟨y, f⟩ := y
  obtain ⟨z1, z2⟩ := hy
  simp only at z1 z2
  by_cases hly : y < b.src.length
  case neg =>
    clear ihY
    rw [List.drop_eq_nil_of_le (by omega), List.all_nil, Bool.and_true] at z2
    ((repeat ((conv => whnf); (first | (refine As.pre ?_; first | refine As.mk rfl ?_) | (refine LetB.pre ?_; first | refine LetB.decf (by omega) ?_) | (refine Br.pre ?_; first | refine Br.ff rfl ?_) | (refine Ck.pre ?_; first | refine Ck.mk rfl ?_)))); (try (conv => whnf)))
    exact ⟨rfl, f, z2.symm, SW.mk id rfl rfl (acs_names2 _ _ _ _ rfl) ⟨.refl _, .refl _, .refl _, .refl _, .refl _, .refl _, .refl _, .refl _, .refl _, .refl _, .refl _, .refl _, .refl _, .refl _, .refl _, .refl _, trivial⟩ (haveV.row (pure_ac _) rfl (haveV.row (pure_ac _) rfl (haveV.row rfl rfl (haveV.row rfl rfl trivial))))⟩
  have hlv := getD_int hly
  rw [all_drop _ hly 0] at z2
  generalize b.src.getD y 0 = yv at hlv z2
  have hnx := ihY (y + 1, f && oneQ a b xv yv) ⟨by omega, by rw [z2, Bool.and_assoc]⟩ (by show b.src.length - (y + 1) < b.src.length - y; omega)
  clear ihY z2
  cases f with
  | false =>
    rw [Bool.false_and] at hnx
    ((repeat ((conv => whnf); (first | (refine As.pre ?_; first | refine As.mk rfl ?_ | (refine As.mk ?_ ?_; · ((repeat' (refine andT ?_ ?_)) <;> (first | rfl | assumption | exact decide_eq_true (by omega) | exact decide_eq_true (by dsimp only; omega) | exact decide_eq_true (by simp; omega) | (simp; done))))) | (refine LetV.pre ?_; first | refine LetV.mk (t := 22) _ hlv ?_ | refine LetV.mk (.sc (.int _ _)) rfl ?_) | (refine LetI.pre ?_; first | refine LetI.wrap (by omega) (by omega) ?_) | (refine LetB.pre ?_; first | refine LetB.dect (by omega) ?_) | (refine Gd.pre ?_; first | refine Gd.pass rfl ?_) | (refine Br.pre ?_; first | refine Br.tt rfl ?_) | (refine Ck.pre ?_; first | refine Ck.mk rfl ?_)))); (try (conv => whnf)))
    refine LoopN.weak ?swA hnx
    case swA => exact SW.mk id rfl rfl (acs_names2 _ _ _ _ rfl) ⟨.refl _, .refl _, .refl _, .refl _, .refl _, .refl _, .refl _, .refl _, .refl _, .refl _, .refl _, .refl _, .refl _, .refl _, .refl _, .refl _, .refl _, .refl _, .refl _, VLe2.int (by omega), trivial⟩ (haveV.row (pure_ac _) rfl (haveV.row (pure_ac _) rfl (haveV.row rfl rfl (haveV.row rfl rfl trivial))))
  | true =>
    rw [Bool.true_and] at hnx
    by_cases hxy : xv = yv
    case neg =>
      rw [show oneQ a b xv yv = true by simp [oneQ, hxy]] at hnx
      ((repeat ((conv => whnf); (first | (refine As.pre ?_; first | refine As.mk rfl ?_ | (refine As.mk ?_ ?_; · ((repeat' (refine andT ?_ ?_)) <;> (first | rfl | assumption | exact decide_eq_true (by omega) | exact decide_eq_true (by dsimp only; omega) | exact decide_eq_true (by simp; omega) | (simp; done))))) | (refine LetV.pre ?_; first | refine LetV.mk (t := 22) _ hlv ?_ | refine LetV.mk (.sc (.int _ _)) rfl ?_) | (refine LetI.pre ?_; first | refine LetI.wrap (by omega) (by omega) ?_) | (refine LetB.pre ?_; first | refine LetB.dect (by omega) ?_ | refine LetB.bnet (by omega) ?_) | (refine Gd.pre ?_; first | refine Gd.run rfl ?_ | refine Gd.pass rfl ?_) | (refine Br.pre ?_; first | refine Br.tt rfl ?_) | (refine Ck.pre ?_; first | refine Ck.mk rfl ?_)))); (try (conv => whnf)))
      refine LoopN.weak ?swB hnx
      case swB => exact SW.mk id rfl rfl (acs_names2 _ _ _ _ rfl) ⟨.refl _, .refl _, .refl _, .refl _, .refl _, .refl _, .refl _, .refl _, .refl _, .refl _, .refl _, .refl _, .refl _, .refl _, .refl _, .refl _, .refl _, .refl _, .refl _, VLe2.int (by omega), trivial⟩ (haveV.row (pure_ac _) rfl (haveV.row (pure_ac _) rfl (haveV.row rfl rfl (haveV.row rfl rfl trivial))))
    case pos =>
      by_cases hb0 : 0 < a.bundle
      case neg =>
        rw [show oneQ a b xv yv = false by simp [oneQ, hxy, hb0]] at hnx
        ((repeat ((conv => whnf); (first | (refine As.pre ?_; first | refine As.mk rfl ?_ | (refine As.mk ?_ ?_; · ((repeat' (refine andT ?_ ?_)) <;> (first | rfl | assumption | exact decide_eq_true (by omega) | exact decide_eq_true (by dsimp only; omega) | exact decide_eq_true (by simp; omega) | (simp; done))))) | (refine LetV.pre ?_; first | refine LetV.mk (t := 22) _ hlv ?_ | refine LetV.mk (.sc (.int _ _)) rfl ?_) | (refine LetI.pre ?_; first | refine LetI.wrap (by omega) (by omega) ?_) | (refine LetB.pre ?_; first | refine LetB.dect (by omega) ?_ | refine LetB.decf (by omega) ?_ | refine LetB.bnef (by omega) ?_) | (refine Gd.pre ?_; first | refine Gd.run rfl ?_ | refine Gd.pass rfl ?_) | (refine Br.pre ?_; first | refine Br.tt rfl ?_) | (refine Ck.pre ?_; first | refine Ck.mk rfl ?_)))); (try (conv => whnf)))
        refine LoopN.weak ?swC hnx
        case swC => exact SW.mk id rfl rfl (acs_names2 _ _ _ _ rfl) ⟨.refl _, .refl _, .refl _, .refl _, .refl _, .refl _, .refl _, .refl _, .refl _, .refl _, .refl _, .refl _, .refl _, .refl _, .refl _, .refl _, .refl _, .refl _, .refl _, VLe2.int (by omega), trivial⟩ (haveV.row (pure_ac _) rfl (haveV.row (pure_ac _) rfl (haveV.row rfl rfl (haveV.row rfl rfl trivial))))
      case pos =>
        by_cases hbe : a.bundle = b.bundle
        case neg =>
          rw [show oneQ a b xv yv = false by simp [oneQ, hxy, hbe]] at hnx
          ((repeat ((conv => whnf); (first | (refine As.pre ?_; first | refine As.mk rfl ?_ | (refine As.mk ?_ ?_; · ((repeat' (refine andT ?_ ?_)) <;> (first | rfl | assumption | exact decide_eq_true (by omega) | exact decide_eq_true (by dsimp only; omega) | exact decide_eq_true (by simp; omega) | (simp; done))))) | (refine LetV.pre ?_; first | refine LetV.mk (t := 22) _ hlv ?_ | refine LetV.mk (.sc (.int _ _)) rfl ?_) | (refine LetI.pre ?_; first | refine LetI.wrap (by omega) (by omega) ?_) | (refine LetB.pre ?_; first | refine LetB.dect (by omega) ?_ | refine LetB.decf (by omega) ?_ | refine LetB.bnef (by omega) ?_) | (refine Gd.pre ?_; first | refine Gd.run rfl ?_) | (refine Br.pre ?_; first | refine Br.tt rfl ?_) | (refine Ck.pre ?_; first | refine Ck.mk rfl ?_)))); (try (conv => whnf)))
          refine LoopN.weak ?swD hnx
          case swD => exact SW.mk id rfl rfl (acs_names2 _ _ _ _ rfl) ⟨.refl _, .refl _, .refl _, .refl _, .refl _, .refl _, .refl _, .refl _, .refl _, .refl _, .refl _, .refl _, .refl _, .refl _, .refl _, .refl _, .refl _, .refl _, .refl _, VLe2.int (by omega), trivial⟩ (haveV.row (pure_ac _) rfl (haveV.row (pure_ac _) rfl (haveV.row rfl rfl (haveV.row rfl rfl trivial))))
        case pos =>
          rw [show oneQ a b xv yv = true by unfold oneQ; rw [decide_eq_true hb0, decide_eq_true hbe]; simp] at hnx
          ((repeat ((conv => whnf); (first | (refine As.pre ?_; first | refine As.mk rfl ?_ | (refine As.mk ?_ ?_; · ((repeat' (refine andT ?_ ?_)) <;> (first | rfl | assumption | exact decide_eq_true (by omega) | exact decide_eq_true (by dsimp only; omega) | exact decide_eq_true (by simp; omega) | (simp; done))))) | (refine LetV.pre ?_; first | refine LetV.mk (t := 22) _ hlv ?_ | refine LetV.mk (.sc (.int _ _)) rfl ?_) | (refine LetI.pre ?_; first | refine LetI.wrap (by omega) (by omega) ?_) | (refine LetB.pre ?_; first | refine LetB.dect (by omega) ?_ | refine LetB.bnef (by omega) ?_) | (refine Gd.pre ?_; first | refine Gd.run rfl ?_) | (refine Br.pre ?_; first | refine Br.tt rfl ?_) | (refine Ck.pre ?_; first | refine Ck.mk rfl ?_)))); (try (conv => whnf)))
          refine LoopN.weak ?swE hnx
          case swE => exact SW.mk id rfl rfl (acs_names2 _ _ _ _ rfl) ⟨.refl _, .refl _, .refl _, .refl _, .refl _, .refl _, .refl _, .refl _, .refl _, .refl _, .refl _, .refl _, .refl _, .refl _, .refl _, .refl _, .refl _, .refl _, .refl _, VLe2.int (by omega), trivial⟩ (haveV.row (pure_ac _) rfl (haveV.row (pure_ac _) rfl (haveV.row rfl rfl (haveV.row rfl rfl trivial))))
theorem efree_row (x : List (List Int)) (hL : x.length ≤ 9223372036854775807) (hxs : ∀ l ∈ x, l.length ≤ 9223372036854775807) (o : Int) (ho : 0 ≤ o ∧ o ≤ 255) : AFun Try.prog 4 0 [.ro {} 1 (x.map fun l => .ro {} 1 (l.map int)), u8 o] [] (bool true) [] := by
  have h := efree (x.map fun l => (({} : Fl), l)) {} (by rw [List.length_map]; exact hL) (fun y hy => by
    obtain ⟨l, hl, rfl⟩ := List.mem_map.1 hy
    exact hxs l hl) o ho
  rw [List.map_map] at h
  exact h
end En
end Go.Proofs.Ytiefcppgbnfbfaa
namespace Go.Proofs.Ytiefcppgbnfbfaa
open Go.Proofs.Ytiefcppgbnfbfaa.Am
set_option maxRecDepth 100000
namespace En
/-! ### Entries in the order of their Ids -/
def Ids (l : List E) : Prop := ∀ i, i < l.length → (l.getD i e0).id = i + 1
theorem M10.toIds {sc day : Int} {l : List E} (h : M10 sc day l) : Ids l := h.ids
theorem Ids.at_ {l : List E} (h : Ids l) {i : Nat} (hi : i < l.length) : l[i].id = i + 1 := by
  have := h i hi
  rwa [List.getD_eq_getElem?_getD, List.getElem?_eq_getElem hi] at this
theorem Ids.lt {l : List E} (h : Ids l) : l.Pairwise fun a b => a.id < b.id := by
  rw [List.pairwise_iff_getElem]
  intro i j hi hj hij
  rw [h.at_ hi, h.at_ hj]; omega
theorem Ids.app {l : List E} {e : E} (h : Ids l) (he : e.id = l.length + 1) : Ids (l ++ [e]) := fun i hi => by
  rw [List.length_append, List.length_singleton] at hi
  by_cases h1 : i < l.length
  · rw [getD_app1 h1]; exact h i h1
  · have : i = l.length := by omega
    subst this
    rw [show (l ++ [e]).getD l.length e0 = e from getD_app2 (i := 0) rfl]; exact he
theorem Ids.eq {l : List E} (h : Ids l) {a b : E} (ha : a ∈ l) (hb : b ∈ l) (e : a.id = b.id) : a = b := by
  obtain ⟨i, hi, rfl⟩ := List.getElem_of_mem ha
  obtain ⟨j, hj, rfl⟩ := List.getElem_of_mem hb
  rw [h.at_ hi, h.at_ hj] at e
  have : i = j := by omega
  subst this; rfl
theorem Ids.range {l : List E} (h : Ids l) {a : E} (ha : a ∈ l) : 1 ≤ a.id ∧ a.id ≤ l.length := by
  obtain ⟨i, hi, rfl⟩ := List.getElem_of_mem ha
  rw [h.at_ hi]; omega
abbrev up (l : List E) : Prop := l.Pairwise fun a b => a.id < b.id
theorem srt_up {l : List E} (h : up l) : srt false l = l := by
  rw [srt_S]
  refine S_id (h.imp fun {a b} hab => ?_)
  rw [ltE_id, decide_eq_false_iff_not]; omega
theorem up_filter {l : List E} (h : up l) (p : E → Bool) : up (l.filter p) := List.Pairwise.filter p h
/-- What counts. -/
abbrev cntB (a o : Int) (e : E) : Bool := decide (e.day ≤ a ∧ e.on_ ≤ o)
theorem atR_up {l : List E} (h : up l) (a o : Int) : atR l a o = l.filter (cntB a o) := by
  rw [atR, srt_up]
  · refine List.filter_congr fun x _ => ?_
    simp
  · exact up_filter h _
/-- The grades that count. -/
abbrev grB (a o : Int) (e : E) : Bool := decide (e.kind = 3 ∧ e.day ≤ a ∧ e.on_ ≤ o)
abbrev stS (l : List E) (a o : Int) (g : E) : St := stand (atR l a o) a o g
theorem atP_up {l : List E} (h : up l) (a o : Int) : atP l a o = (l.filter (grB a o)).map (stS l a o) := by
  have e : chos (atR l a o) [cOf 3] = l.filter (grB a o) := by
    rw [atR_up h]
    show (l.filter (cntB a o)).filter _ = _
    rw [List.filter_filter]
    refine List.filter_congr fun x _ => ?_
    rw [Bool.eq_iff_iff]
    simp
  rw [atP, e]
theorem atP_len {l : List E} (a o : Int) : (atP l a o).length ≤ l.length := by
  have h1 : (chos (atR l a o) [cOf 3]).length ≤ _ := List.length_filter_le _ _
  have h2 : (chos l [cCounts a o]).length ≤ _ := List.length_filter_le _ _
  have h3 : (atR l a o).length = _ := srt_length false _
  have h4 : (atP l a o).length = _ := List.length_map _
  omega
/-! ### Scales of made entries -/
def sclOf (sc : Int) : Int × Int × Int := if sc = 2 then (5, 1, 3) else if sc = 3 then (0, 20, 10) else (0, 100, 50)
theorem SclOf_f (sc : Int) (h : 1 ≤ sc ∧ sc ≤ 3) : AFun Try.prog 36 0 [int sc] [] (Sc.scA (sclOf sc)) [] := by
  refine AFun.of_W T_ok mixed Try.func36 rfl (Nat.le_of_ble_eq_true rfl) rfl ?_
  obtain rfl | rfl | rfl : sc = 1 ∨ sc = 2 ∨ sc = 3 := by omega
  all_goals
    ((repeat ((conv => whnf); (first | (refine LetN.pre ?_; first | ((conv => arg 1; whnf); refine LetN.mk ?_)) | (refine As.pre ?_; first | refine As.mk rfl ?_) | (refine LetB.pre ?_; first | refine LetB.tt rfl ?_ | refine LetB.ff rfl ?_) | (refine Br.pre ?_; first | refine Br.tt rfl ?_ | refine Br.ff rfl ?_) | (refine Ck.pre ?_; first | refine Ck.mk rfl ?_) | (refine LetL.pre ?_; first | refine LetL.mk [_] rfl ?_)))); (try (conv => whnf)))
    exact ⟨.inl rfl, ⟨_, rfl, rfl⟩, trivial⟩
end En
end Go.Proofs.Ytiefcppgbnfbfaa
namespace Go.Proofs.Ytiefcppgbnfbfaa
open Go.Proofs.Ytiefcppgbnfbfaa.Am
set_option maxRecDepth 100000
namespace En
/-! ### What is earned, of entries in the order of their Ids -/
theorem ix_put : ∀ (m : List (Int × E)) (e : E) (k : Int), ixM m k ≠ none → ixM (putM m e) k ≠ none
  | [], e, k, h => absurd rfl h
  | x :: m, e, k, h => by
    unfold ixM at h
    rw [putM]
    by_cases hx : x.1 = e.id
    · rw [if_pos hx, ixM]
      by_cases hk : x.1 = k
      · rw [if_pos (by rw [← hx]; exact hk)]; simp
      · rw [if_neg hk] at h
        rw [if_neg (by rw [← hx]; exact hk)]; exact h
    · rw [if_neg hx, ixM]
      by_cases hk : x.1 = k
      · rw [if_pos hk]; simp
      · rw [if_neg hk] at h ⊢
        have := ix_put m e k (fun n => h (by rw [n]; rfl))
        exact fun n => this (Option.map_eq_none_iff.1 n)
theorem ix_put_self : ∀ (m : List (Int × E)) (e : E), ixM (putM m e) e.id ≠ none
  | [], e => by simp [putM, ixM]
  | x :: m, e => by
    rw [putM]
    by_cases hx : x.1 = e.id
    · rw [if_pos hx, ixM, if_pos rfl]; simp
    · rw [if_neg hx, ixM, if_neg hx]
      exact fun n => ix_put_self m e (Option.map_eq_none_iff.1 n)
theorem ix_mB {l : List E} {g : E} (hg : g ∈ l) (hk : g.kind = 3) : ixM (mB l) g.id ≠ none := by
  induction l with
  | nil => exact absurd hg List.not_mem_nil
  | cons e l ih =>
    rw [mB]
    by_cases he : e.kind = 3
    · rw [if_pos he]
      rcases List.mem_cons.1 hg with h | h
      · rw [h]; exact ix_put_self _ _
      · exact ix_put _ _ _ (ih h)
    · rw [if_neg he]
      rcases List.mem_cons.1 hg with h | h
      · rw [← h] at he; exact absurd hk he
      · exact ih h
theorem grade_at {l : List E} (h : Ids l) {g : E} (hg : g ∈ l) (hk : g.kind = 3) : gradeM (mB l) g.id = g := by
  cases hi : ixM (mB l) g.id with
  | none => exact absurd hi (ix_mB hg hk)
  | some i =>
    obtain ⟨e, he⟩ := ix_some hi
    obtain ⟨x, hx, e2⟩ := mem_mB _ (List.mem_of_getElem? he)
    injection e2 with e3 e4
    unfold gradeM
    rw [hi]
    show ((mB l).getD i (0, e0)).2 = g
    rw [List.getD_eq_getElem?_getD, he]
    show e = g
    rw [e4]
    exact (h.eq hx hg e3.symm)
/-- A grade that passes, of a student. -/
def kpB (l : List E) (s : Sc.Scl) (st a o : Int) (g : E) : Bool := !((stS l a o g).void || (g.student != st || !decide (Sc.rea s (stS l a o g).grade s.2.2)))
def fgP (l : List E) (s : Sc.Scl) (st a o : Int) : List E := (l.filter (grB a o)).filter (kpB l s st a o)
abbrev srcG (g : E) : Int := 1000000 * g.school + g.id
def owC (g : E) (gr : Int) : Ac := ⟨g.school, g.course, g.credits, gr, g.on_, [srcG g], 0, []⟩
def ofC (l : List E) (s : Sc.Scl) (st a o : Int) : List Ac := (fgP l s st a o).map fun g => owC g (stS l a o g).grade
theorem of_eq {l : List E} (h : Ids l) (s : Sc.Scl) (st a o : Int) : (ofP l s st a o).map Ach.ac = ofC l s st a o := by
  have hm : ∀ g ∈ l.filter (grB a o), gradeM (mB l) (stS l a o g).entry = g := fun g hg => by
    obtain ⟨h1, h2⟩ := List.mem_filter.1 hg
    exact grade_at h h1 (of_decide_eq_true h2).1
  rw [ofP, atP_up h.lt, List.filter_map, List.map_map, List.map_map, ofC, fgP]
  have e : (l.filter (grB a o)).filter (keepA (mB l) s st ∘ stS l a o) = (l.filter (grB a o)).filter (kpB l s st a o) := by
    refine List.filter_congr fun g hg => ?_
    show keepA (mB l) s st (stS l a o g) = _
    unfold keepA
    rw [hm g hg]; rfl
  rw [e]
  refine List.map_congr_left fun g hg => ?_
  show (ownA (gradeM (mB l) (stS l a o g).entry) (stS l a o g).grade).ac = _
  rw [hm g (List.mem_filter.1 hg).1]; rfl
theorem mem_fg {l : List E} {s : Sc.Scl} {st a o : Int} {g : E} (h : g ∈ fgP l s st a o) : g ∈ l ∧ g.kind = 3 ∧ g.day ≤ a ∧ g.on_ ≤ o ∧ g.student = st ∧ Sc.rea s (stS l a o g).grade s.2.2 := by
  obtain ⟨h1, h2⟩ := List.mem_filter.1 h
  obtain ⟨h3, h4⟩ := List.mem_filter.1 h1
  have h5 := of_decide_eq_true h4
  unfold kpB at h2
  simp only [Bool.not_eq_true', Bool.or_eq_false_iff, bne_eq_false_iff_eq, decide_eq_false_iff_not, Decidable.not_not, Bool.not_eq_false'] at h2
  simp only [decide_eq_true_eq] at h2
  exact ⟨h3, h5.1, h5.2.1, h5.2.2, h2.2.1, h2.2.2⟩
theorem fg_up {l : List E} (h : Ids l) (s : Sc.Scl) (st a o : Int) : up (fgP l s st a o) := up_filter (up_filter h.lt _) _
theorem fg_len (l : List E) (s : Sc.Scl) (st a o : Int) : (fgP l s st a o).length ≤ l.length := Nat.le_trans (List.length_filter_le _ _) (List.length_filter_le _ _)
/-- The numbers of entries are small. -/
abbrev okL (l : List E) : Prop := ∀ e ∈ l, okB e
theorem OfC_f (l : List E) (s : Sc.Scl) (st a o : Int) (hl : l.length < 40) (h : Ids l) (hb : okL l) : AFun Try.prog 12 0 [.ro {} 15 (l.map en), Sc.scA s, int st, int a, int o] [] (.ro {} 8 ((ofC l s st a o).map acA)) [] := by
  have := (Of_f l s st a o {} hl hb).res (acs_le _ _)
  rwa [of_eq h] at this
theorem M10.okL {sc day : Int} {l : List E} (h : M10 sc day l) (hsc : 1 ≤ sc ∧ sc ≤ 3) (hl : l.length ≤ 1000) : okL l := fun e he => by
  have h1 := h.toIds.range he
  have h2 := (h.ok e he).school
  exact ⟨by omega, by omega⟩
/-! ### The case -/
abbrev u8' (v : Int) : AV := .sc (.int .u8 v)
abbrev u16 (v : Int) : AV := .sc (.int .u16 v)
set_option maxRecDepth 100000 in
theorem made_f (xs : List Int) (fl : Fl) (hx : xs.length ≤ 9223372036854775807) (q : Int × Int × Int) (h1 : 0 ≤ q.1 ∧ q.1 ≤ 255) (h2 : 0 ≤ q.2.1 ∧ q.2.1 ≤ 65535) (h3 : 0 ≤ q.2.2 ∧ q.2.2 ≤ 65535) :
    ∃ (sc : Int) (l : List E) (a o : Int), (1 ≤ sc ∧ sc ≤ 3) ∧ (l.length ≤ 24 ∧ M10 sc 600 l) ∧ (0 ≤ a ∧ a < 700) ∧ (0 ≤ o ∧ o < 700) ∧
    AFun Try.prog 10 0 [.agg [.ro fl 1 (xs.map int), u8' q.1, u16 q.2.1, u16 q.2.2]] [] (.tup [.ro {} 15 (l.map en), Sc.scA (sclOf sc), int a, int o]) [] := by
  have b1 := tmod_bound q.1 (m := 3) (by omega)
  have p1 := tmod_pos 3 h1.1
  have b2 := tmod_bound q.2.1 (m := 700) (by omega)
  have p2 := tmod_pos 700 h2.1
  have b3 := tmod_bound q.2.2 (m := 700) (by omega)
  have p3 := tmod_pos 700 h3.1
  have hsc : 1 ≤ 1 + q.1.tmod 3 ∧ 1 + q.1.tmod 3 ≤ 3 := by omega
  obtain ⟨l, hl, hM⟩ := Made10_f xs fl hx (1 + q.1.tmod 3) hsc
  refine ⟨1 + q.1.tmod 3, l, q.2.1.tmod 700, q.2.2.tmod 700, hsc, hl, by omega, by omega, ?_⟩
  have hO := SclOf_f _ hsc
  generalize sclOf (1 + q.1.tmod 3) = s at hO ⊢
  refine AFun.of_W T_ok mixed Try.func10 rfl (Nat.le_of_ble_eq_true rfl) rfl ?_
  have w1 : q.1 = IntKind.i64.wrap q.1 := (wrap_id (by omega) (by omega)).symm
  have w2 : q.2.1 = IntKind.i64.wrap q.2.1 := (wrap_id (by omega) (by omega)).symm
  have w3 : q.2.2 = IntKind.i64.wrap q.2.2 := (wrap_id (by omega) (by omega)).symm
  ((repeat ((conv => whnf); (first | (refine LetN.pre ?_; first | ((conv => arg 1; whnf); refine LetN.mk ?_)) | (refine As.pre ?_; first | refine As.mk rfl ?_) | (refine LetV.pre ?_; first | refine LetV.mk (.sc (.int _ _)) rfl ?_ | refine LetV.mk (.ro _ _ _) rfl ?_) | (refine LetI.pre ?_; first | refine LetI.mk (o := none) q.1 w1 ?_ | refine LetI.mk (o := none) q.2.1 w2 ?_ | refine LetI.mk (o := none) q.2.2 w3 ?_ | refine LetI.wrap (by omega) (by omega) ?_ | refine LetI.mk _ rfl ?_) | (refine Ck.pre ?_; first | refine Ck.drawn (by kernel_rfl) ?_ | refine Ck.mk rfl ?_) | (refine LetL.pre ?_; first | refine LetL.mk [_] rfl ?_) | (refine CallN.pre ?_; first | refine CallN.pure hM rfl rfl ?_ | refine CallN.pure hO rfl rfl ?_)))); (try (conv => whnf)))





  exact ⟨.inl rfl, ⟨_, rfl, rfl⟩, trivial⟩
end En
end Go.Proofs.Ytiefcppgbnfbfaa
