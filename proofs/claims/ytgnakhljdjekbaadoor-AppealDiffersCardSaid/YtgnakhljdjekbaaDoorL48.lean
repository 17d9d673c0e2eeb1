/- appealD: parts of the proof, DappealDFO DappealDFP DappealDFQ DappealDFR DappealDFS DappealDFT DappealDTM DappealDTN DappealDSA. -/
import Derived.Test.YtgnakhljdjekbaaDoorL47
import Derived.Test.YtgnakhljdjekbaaDoorL35
import Derived.Test.YtgnakhljdjekbaaDoorAmFZ
set_option linter.all false
namespace Go.Proofs.YtgnakhljdjekbaaDoor
open Go.Proofs.YtgnakhljdjekbaaDoor.Am
set_option maxRecDepth 100000
namespace En
open Classical
theorem beyond_f (n a b : Int) : AFun Tryd.prog 50 0 [int n, int a, int b] [] (bool (decide (n < a ∨ b < n))) [] := by
  refine AFun.of_W T_ok mixed Tryd.func50 rfl (Nat.le_of_ble_eq_true rfl) rfl ?_
  repeat' ((conv => whnf); (first | (refine As.pre ?_; first | refine As.mk rfl ?_) | (refine LetB.pre ?_; first | (refine LetB.dec (fun _ => ?_) (fun _ => ?_))) | (refine Gd.pre ?_; first | refine Gd.run rfl ?_ | refine Gd.pass rfl ?_) | (refine Ck.pre ?_; first | refine Ck.mk rfl ?_)))
  all_goals (refine ⟨by first | exact .inl rfl | exact .inr rfl, ⟨_, rfl, congrArg (fun b => Go.Proofs.YtgnakhljdjekbaaDoor.Am.AV.sc (Go.Value.bool b)) (by first | exact (decide_eq_true (by omega)).symm | exact (decide_eq_false (by omega)).symm | exact Bool.eq_iff_iff.2 (by simp only [decide_eq_true_eq, decide_eq_false_iff_not]; omega) | rfl)⟩, trivial⟩)
def hasK (k : Int) : Int := if k = 1 ∨ k = 8 then 32 else if k = 2 then 96 else if k = 3 then 7 else if k = 4 then 12 else if k = 5 ∨ k = 6 ∨ k = 9 then 8 else if k = 7 then 16 else 0
theorem has_f (k : Int) : AFun Tryd.prog 52 0 [int k] [] (int (hasK k)) [] := by
  refine AFun.of_W T_ok mixed Tryd.func52 rfl (Nat.le_of_ble_eq_true rfl) rfl ?_
  unfold hasK
  repeat' ((conv => whnf); (first | (refine As.pre ?_; first | refine As.mk rfl ?_) | (refine LetB.pre ?_; first | (refine LetB.dec (fun _ => ?_) (fun _ => ?_))) | (refine Br.pre ?_; first | refine Br.tt rfl ?_ | refine Br.ff rfl ?_) | (refine Ck.pre ?_; first | refine Ck.mk rfl ?_)))
  all_goals
    refine ⟨.inl rfl, ⟨_, rfl, congrArg int ?_⟩, trivial⟩
    repeat' split
    all_goals first | rfl | (exfalso; omega)
def orB (acc : Int) (k : Nat) (b : Bool) : Int := bif b then IntKind.i64.wrap ((BitVec.ofInt 64 acc) ||| (BitVec.ofInt 64 (IntKind.i64.wrap (1 * 2 ^ (min (k : Int).toNat 64))))).toNat else acc
def fillA : List Bool → Nat → Int → Int
  | [], _, acc => acc
  | b :: l, k, acc => fillA l (k + 1) (orB acc k b)
def fillB (e : E) : List Bool := [!(e.course.toList == (⟨#[]⟩ : ByteArray).toList), e.credits != 0, e.grade != 0, e.ref != 0, e.frm != 0, e.programme != 0, e.version != 0]
theorem fill_drop {l : List Bool} {k : Nat} (h : k < l.length) (acc : Int) : fillA (l.drop k) k acc = fillA (l.drop (k + 1)) (k + 1) (orB acc k (l.getD k false)) := by
  rw [List.drop_eq_getElem_cons h, List.getD_eq_getElem?_getD, List.getElem?_eq_getElem h]; rfl
theorem filled_f (e : E) : AFun Tryd.prog 51 0 [en e] [] (int (fillA (fillB e) 0 0)) [] := by
  refine AFun.of_W T_ok mixed Tryd.func51 rfl (Nat.le_of_ble_eq_true rfl) rfl ?_
  ((repeat ((conv => whnf); (first | (refine LetN.pre ?_; first | ((conv => arg 1; whnf); refine LetN.mk ?_)) | (refine As.pre ?_; first | refine As.mk rfl ?_) | (refine LetV.pre ?_; first | refine LetV.mk (.sc (.int _ _)) rfl ?_ | refine LetV.mk (.sc _) rfl ?_) | (refine LetI.pre ?_; first | refine LetI.mk _ rfl ?_) | (refine LetB.pre ?_; first | refine LetB.mk _ rfl ?_) | (refine Ck.pre ?_; first | refine Ck.mk rfl ?_)))); (try (conv => whnf)))
  have hlen : (fillB e).length = 7 := rfl
  refine LoopN.weak (s1 := ⟨[(3, int 0), (27, .ro {} 1 ((fillB e).map bool)), (28, int (fillB e).length), (29, int (0 : Nat))], [], 1⟩) (SW.mk id rfl rfl rfl ⟨.refl _, VLe2.ro_of rfl, .refl _, .refl _, trivial⟩ trivial) ?_
  generalize fillB e = bs at hlen ⊢
  generalize hR : fillA bs 0 0 = R
  refine LoopN.ind T_ok mixed (S := fun i : Nat × Int => ⟨[(3, int i.2), (27, .ro {} 1 (bs.map bool)), (28, int bs.length), (29, int i.1)], [], 1⟩) (fun i => bs.length - i.1) (fun i => i.1 ≤ bs.length ∧ R = fillA (bs.drop i.1) i.1 i.2) (fun _ => rfl) (fun i hi ih => ?_) (0, 0) ⟨Nat.zero_le _, hR.symm⟩
  obtain ⟨k, acc⟩ := i
  obtain ⟨h1, h2⟩ := hi
  simp only at h1 h2 ih ⊢
  have hm : (bs.map bool).length = bs.length := List.length_map _
  by_cases hlt : k < bs.length
  case neg =>
    rw [List.drop_eq_nil_of_le (by omega)] at h2
    rw [h2]
    clear ih
    ((repeat ((conv => whnf); (first | (refine As.pre ?_; first | refine As.mk rfl ?_) | (refine LetB.pre ?_; first | refine LetB.decf (by omega) ?_) | (refine Br.pre ?_; first | refine Br.ff rfl ?_) | (refine Ck.pre ?_; first | refine Ck.mk rfl ?_)))); (try (conv => whnf)))
    exact ⟨.inl rfl, ⟨_, rfl, rfl⟩, trivial⟩
  have hld : bool (bs.getD k false) = (bs.map bool).getD k (.sc undef) := mapD false hlt
  rw [fill_drop hlt] at h2
  generalize bs.getD k false = b at hld h2
  have next := ih (k + 1, orB acc k b) ⟨by omega, h2⟩ (by show bs.length - (k + 1) < bs.length - k; omega)
  clear ih
  cases b with
  | true =>
    ((repeat ((conv => whnf); (first | (refine As.pre ?_; first | refine As.mk rfl ?_ | (refine As.mk ?_ ?_; · ((repeat' (refine andT ?_ ?_)) <;> (first | rfl | assumption | exact decide_eq_true (by omega) | exact decide_eq_true (by dsimp only; omega) | exact decide_eq_true (by simp; omega) | (simp; done))))) | (refine LetV.pre ?_; first | refine LetV.mk (t := 112) _ hld ?_ | refine LetV.mk (.sc (.bool _)) rfl ?_) | (refine LetI.pre ?_; first | refine LetI.wrap (by omega) (by omega) ?_ | refine LetI.mk _ rfl ?_) | (refine LetB.pre ?_; first | refine LetB.dect (by omega) ?_) | (refine Br.pre ?_; first | refine Br.tt rfl ?_) | (refine Ck.pre ?_; first | refine Ck.mk rfl ?_)))); (try (conv => whnf)))
    refine LoopN.weak ?_ next
    exact SW.mk id rfl rfl rfl ⟨.refl _, .refl _, .refl _, VLe2.int (by omega), trivial⟩ trivial
  | false =>
    ((repeat ((conv => whnf); (first | (refine As.pre ?_; first | refine As.mk rfl ?_ | (refine As.mk ?_ ?_; · ((repeat' (refine andT ?_ ?_)) <;> (first | rfl | assumption | exact decide_eq_true (by omega) | exact decide_eq_true (by dsimp only; omega) | exact decide_eq_true (by simp; omega) | (simp; done))))) | (refine LetV.pre ?_; first | refine LetV.mk (t := 112) _ hld ?_ | refine LetV.mk (.sc (.bool _)) rfl ?_) | (refine LetI.pre ?_; first | refine LetI.wrap (by omega) (by omega) ?_) | (refine LetB.pre ?_; first | refine LetB.dect (by omega) ?_) | (refine Br.pre ?_; first | refine Br.tt rfl ?_ | refine Br.ff rfl ?_) | (refine Ck.pre ?_; first | refine Ck.mk rfl ?_)))); (try (conv => whnf)))
    refine LoopN.weak ?_ next
    exact SW.mk id rfl rfl rfl ⟨.refl _, .refl _, .refl _, VLe2.int (by omega), trivial⟩ trivial
theorem ck1_f (e : E) : AFun Tryd.prog 53 0 [.rp (en e) 0] [] (bool (!decide (okCode e.course))) [] := by
  refine AFun.of_W T_ok mixed Tryd.func53 rfl (Nat.le_of_ble_eq_true rfl) rfl ?_
  ((repeat ((conv => whnf); (first | (refine As.pre ?_; first | refine As.mk rfl ?_) | (refine LetV.pre ?_; first | refine LetV.mk (.sc _) rfl ?_) | (refine Ck.pre ?_; first | refine Ck.mk rfl ?_) | (refine CallN.pre ?_; first | refine CallN.pure (Code_f _) rfl rfl ?_)))); (try (conv => whnf)))
  exact ⟨.inl rfl, ⟨_, rfl, rfl⟩, trivial⟩
theorem ck2_f (e : E) : AFun Tryd.prog 55 0 [.rp (en e) 0] [] (bool (decide (e.credits < 1 ∨ 60 < e.credits))) [] := by
  refine AFun.of_W T_ok mixed Tryd.func55 rfl (Nat.le_of_ble_eq_true rfl) rfl ?_
  ((repeat ((conv => whnf); (first | (refine As.pre ?_; first | refine As.mk rfl ?_) | (refine LetV.pre ?_; first | refine LetV.mk (.sc (.int _ _)) rfl ?_) | (refine Ck.pre ?_; first | refine Ck.mk rfl ?_) | (refine CallN.pre ?_; first | refine CallN.pure (beyond_f _ _ _) rfl rfl ?_)))); (try (conv => whnf)))
  exact ⟨.inl rfl, ⟨_, rfl, rfl⟩, trivial⟩
theorem ck3_f (e : E) : AFun Tryd.prog 56 0 [.rp (en e) 0] [] (bool (decide (e.grade < -1000 ∨ 1000 < e.grade))) [] := by
  refine AFun.of_W T_ok mixed Tryd.func56 rfl (Nat.le_of_ble_eq_true rfl) rfl ?_
  ((repeat ((conv => whnf); (first | (refine As.pre ?_; first | refine As.mk rfl ?_) | (refine LetV.pre ?_; first | refine LetV.mk (.sc (.int _ _)) rfl ?_) | (refine Ck.pre ?_; first | refine Ck.mk rfl ?_) | (refine CallN.pre ?_; first | refine CallN.pure (beyond_f _ _ _) rfl rfl ?_)))); (try (conv => whnf)))
  exact ⟨.inl rfl, ⟨_, rfl, rfl⟩, trivial⟩
theorem ck4_f (e : E) : AFun Tryd.prog 57 0 [.rp (en e) 0] [] (bool (decide (e.programme < 1))) [] := by
  refine AFun.of_W T_ok mixed Tryd.func57 rfl (Nat.le_of_ble_eq_true rfl) rfl ?_
  ((repeat ((conv => whnf); (first | (refine As.pre ?_; first | refine As.mk rfl ?_) | (refine LetV.pre ?_; first | refine LetV.mk (.sc (.int _ _)) rfl ?_) | (refine LetB.pre ?_; first | refine LetB.mk _ rfl ?_) | (refine Ck.pre ?_; first | refine Ck.mk rfl ?_)))); (try (conv => whnf)))
  exact ⟨.inl rfl, ⟨_, rfl, rfl⟩, trivial⟩
theorem ck5_f (e : E) : AFun Tryd.prog 58 0 [.rp (en e) 0] [] (bool (decide (e.version < 1))) [] := by
  refine AFun.of_W T_ok mixed Tryd.func58 rfl (Nat.le_of_ble_eq_true rfl) rfl ?_
  ((repeat ((conv => whnf); (first | (refine As.pre ?_; first | refine As.mk rfl ?_) | (refine LetV.pre ?_; first | refine LetV.mk (.sc (.int _ _)) rfl ?_) | (refine LetB.pre ?_; first | refine LetB.mk _ rfl ?_) | (refine Ck.pre ?_; first | refine Ck.mk rfl ?_)))); (try (conv => whnf)))
  exact ⟨.inl rfl, ⟨_, rfl, rfl⟩, trivial⟩
theorem ck6_f (e : E) : AFun Tryd.prog 59 0 [.rp (en e) 0] [] (bool (decide ((e.frm < 1 ∨ 8 < e.frm) ∨ e.frm = e.school))) [] := by
  refine AFun.of_W T_ok mixed Tryd.func59 rfl (Nat.le_of_ble_eq_true rfl) rfl ?_
  repeat' ((conv => whnf); (first | (refine As.pre ?_; first | refine As.mk rfl ?_) | (refine LetV.pre ?_; first | refine LetV.mk (.sc (.int _ _)) rfl ?_) | (refine LetB.pre ?_; first | (refine LetB.dec (fun _ => ?_) (fun _ => ?_))) | (refine Gd.pre ?_; first | refine Gd.run rfl ?_ | refine Gd.pass rfl ?_) | (refine Ck.pre ?_; first | refine Ck.mk rfl ?_) | (refine CallN.pre ?_; first | refine CallN.dec (beyond_f _ _ _) rfl (fun _ => ?_) (fun _ => ?_))))
  all_goals (refine ⟨by first | exact .inl rfl | exact .inr rfl, ⟨_, rfl, congrArg (fun b => Go.Proofs.YtgnakhljdjekbaaDoor.Am.AV.sc (Go.Value.bool b)) (by first | exact (decide_eq_true (by omega)).symm | exact (decide_eq_false (by omega)).symm | exact Bool.eq_iff_iff.2 (by simp only [decide_eq_true_eq, decide_eq_false_iff_not]; omega) | rfl)⟩, trivial⟩)
theorem ck7_f (e : E) : AFun Tryd.prog 60 0 [.rp (en e) 0] [] (bool (decide ((e.ref < 1 ∨ 899999 < e.ref) ∨ e.ref = e.id))) [] := by
  refine AFun.of_W T_ok mixed Tryd.func60 rfl (Nat.le_of_ble_eq_true rfl) rfl ?_
  repeat' ((conv => whnf); (first | (refine As.pre ?_; first | refine As.mk rfl ?_) | (refine LetV.pre ?_; first | refine LetV.mk (.sc (.int _ _)) rfl ?_) | (refine LetB.pre ?_; first | (refine LetB.dec (fun _ => ?_) (fun _ => ?_))) | (refine Gd.pre ?_; first | refine Gd.run rfl ?_ | refine Gd.pass rfl ?_) | (refine Ck.pre ?_; first | refine Ck.mk rfl ?_) | (refine CallN.pre ?_; first | refine CallN.dec (beyond_f _ _ _) rfl (fun _ => ?_) (fun _ => ?_))))
  all_goals (refine ⟨by first | exact .inl rfl | exact .inr rfl, ⟨_, rfl, congrArg (fun b => Go.Proofs.YtgnakhljdjekbaaDoor.Am.AV.sc (Go.Value.bool b)) (by first | exact (decide_eq_true (by omega)).symm | exact (decide_eq_false (by omega)).symm | exact Bool.eq_iff_iff.2 (by simp only [decide_eq_true_eq, decide_eq_false_iff_not]; omega) | rfl)⟩, trivial⟩)
end En
end Go.Proofs.YtgnakhljdjekbaaDoor
namespace Go.Proofs.YtgnakhljdjekbaaDoor
open Go.Proofs.YtgnakhljdjekbaaDoor.Am
set_option maxRecDepth 100000
namespace En
open Classical
/-- The error of the fields that a kind has. -/
def fldE (oc : Bool) (e : E) : Int :=
  if e.kind = 3 then (if oc = false then 12 else if e.credits < 1 ∨ 60 < e.credits then 3 else if e.grade < -1000 ∨ 1000 < e.grade then 3 else 0)
  else if e.kind = 1 ∨ e.kind = 8 then (if e.programme < 1 then 3 else 0)
  else if e.kind = 2 then (if e.programme < 1 ∨ e.version < 1 then 3 else 0)
  else if e.kind = 7 then (if (e.frm < 1 ∨ 8 < e.frm) ∨ e.frm = e.school then 3 else 0)
  else if e.kind = 4 then (if e.grade < -1000 ∨ 1000 < e.grade then 3 else if (e.ref < 1 ∨ 899999 < e.ref) ∨ e.ref = e.id then 21 else 0)
  else (if (e.ref < 1 ∨ 899999 < e.ref) ∨ e.ref = e.id then 21 else 0)
/-- No field but those of its kind is filled. -/
def onlyF (k : Int) : List Bool → Bool
  | [c, cr, g, r, f, p, v] =>
    if k = 1 ∨ k = 8 then !(c || cr || g || r || f || v)
    else if k = 2 then !(c || cr || g || r || f)
    else if k = 3 then !(r || f || p || v)
    else if k = 4 then !(c || cr || f || p || v)
    else if k = 7 then !(c || cr || g || r || p || v)
    else !(c || cr || g || f || p || v)
  | _ => false
def entX (oc on : Bool) (e : E) : Int :=
  if (e.id < 1 ∨ 899999 < e.id) ∨ (e.school < 1 ∨ 8 < e.school) ∨ (e.student < 1 ∨ 999999 < e.student) then 1
  else if (e.kind < 1 ∨ 9 < e.kind) ∨ on = false then 20
  else if (e.day < 0 ∨ 100000 < e.day) ∨ (e.on_ < 0 ∨ e.day < e.on_) then 23
  else fldE oc e
noncomputable def entE (e : E) : Int := entX (decide (okCode e.course)) (onlyF e.kind (fillB e)) e
theorem mask (k : Int) (hk : k = 1 ∨ k = 2 ∨ k = 3 ∨ k = 4 ∨ k = 5 ∨ k = 6 ∨ k = 7 ∨ k = 8 ∨ k = 9) : ∀ c cr g r f p v : Bool, (IntKind.i64.wrap ((BitVec.ofInt 64 (fillA [c, cr, g, r, f, p, v] 0 0)) &&& ~~~(BitVec.ofInt 64 (hasK k))).toNat != 0) = !(onlyF k [c, cr, g, r, f, p, v]) := by
  rcases hk with rfl | rfl | rfl | rfl | rfl | rfl | rfl | rfl | rfl <;> decide +kernel
theorem maskE (e : E) (hk : e.kind = 1 ∨ e.kind = 2 ∨ e.kind = 3 ∨ e.kind = 4 ∨ e.kind = 5 ∨ e.kind = 6 ∨ e.kind = 7 ∨ e.kind = 8 ∨ e.kind = 9) : (IntKind.i64.wrap ((BitVec.ofInt 64 (fillA (fillB e) 0 0)) &&& ~~~(BitVec.ofInt 64 (hasK e.kind))).toNat != 0) = !(onlyF e.kind (fillB e)) := mask _ hk ..
/-! ### The rules -/
theorem entX_arg {oc on : Bool} {e : E} (h : (e.id < 1 ∨ 899999 < e.id) ∨ (e.school < 1 ∨ 8 < e.school) ∨ (e.student < 1 ∨ 999999 < e.student)) : entX oc on e = 1 := if_pos h
theorem entX_kind {oc on : Bool} {e : E} (h : ¬ ((e.id < 1 ∨ 899999 < e.id) ∨ (e.school < 1 ∨ 8 < e.school) ∨ (e.student < 1 ∨ 999999 < e.student))) (k : (e.kind < 1 ∨ 9 < e.kind) ∨ on = false) : entX oc on e = 20 := (if_neg h).trans (if_pos k)
theorem entX_date {oc on : Bool} {e : E} (h : ¬ ((e.id < 1 ∨ 899999 < e.id) ∨ (e.school < 1 ∨ 8 < e.school) ∨ (e.student < 1 ∨ 999999 < e.student))) (k : ¬ (e.kind < 1 ∨ 9 < e.kind)) (o : on = true) (d : (e.day < 0 ∨ 100000 < e.day) ∨ (e.on_ < 0 ∨ e.day < e.on_)) : entX oc on e = 23 :=
  (if_neg h).trans ((if_neg (by rintro (h | h); exact k h; rw [o] at h; cases h)).trans (if_pos d))
theorem entX_fld {oc on : Bool} {e : E} (h : ¬ ((e.id < 1 ∨ 899999 < e.id) ∨ (e.school < 1 ∨ 8 < e.school) ∨ (e.student < 1 ∨ 999999 < e.student))) (k : ¬ (e.kind < 1 ∨ 9 < e.kind)) (o : on = true) (d : ¬ ((e.day < 0 ∨ 100000 < e.day) ∨ (e.on_ < 0 ∨ e.day < e.on_))) : entX oc on e = fldE oc e :=
  (if_neg h).trans ((if_neg (by rintro (h | h); exact k h; rw [o] at h; cases h)).trans (if_neg d))
structure Rule where
  f : Int
  fn : Nat
  w : Bool
  err : Int
abbrev ruleA (r : Rule) : AV := .agg [int r.f, .clo r.fn [.ptr 0 15 0 0], int r.err]
abbrev rty : TypeId := 103
def mk2 (hv f : Int) : Bool := IntKind.i64.wrap ((BitVec.ofInt 64 hv) &&& (BitVec.ofInt 64 f)).toNat != 0
def ruleE (hv : Int) : List Rule → Int
  | [] => 0
  | r :: l => if mk2 hv r.f && r.w then r.err else ruleE hv l
structure Rule.Ok (e : E) (r : Rule) : Prop where
  run : AFun Tryd.prog r.fn 0 [.rp (en e) 0] [] (bool r.w) []
  call : callable Tryd.prog r.fn = true
noncomputable def rulesOf (e : E) : List Rule := [⟨1, 53, !decide (okCode e.course), 12⟩, ⟨2, 55, decide (e.credits < 1 ∨ 60 < e.credits), 3⟩, ⟨4, 56, decide (e.grade < -1000 ∨ 1000 < e.grade), 3⟩, ⟨32, 57, decide (e.programme < 1), 3⟩,
  ⟨64, 58, decide (e.version < 1), 3⟩, ⟨16, 59, decide ((e.frm < 1 ∨ 8 < e.frm) ∨ e.frm = e.school), 3⟩, ⟨8, 60, decide ((e.ref < 1 ∨ 899999 < e.ref) ∨ e.ref = e.id), 21⟩]
theorem rulesOf_ok (e : E) : ∀ r ∈ rulesOf e, r.Ok e := by
  intro r hr
  simp only [rulesOf, List.mem_cons, List.not_mem_nil, or_false] at hr
  rcases hr with rfl | rfl | rfl | rfl | rfl | rfl | rfl
  · exact ⟨ck1_f e, by kernel_rfl⟩
  · exact ⟨ck2_f e, by kernel_rfl⟩
  · exact ⟨ck3_f e, by kernel_rfl⟩
  · exact ⟨ck4_f e, by kernel_rfl⟩
  · exact ⟨ck5_f e, by kernel_rfl⟩
  · exact ⟨ck6_f e, by kernel_rfl⟩
  · exact ⟨ck7_f e, by kernel_rfl⟩
theorem ruleE_fld (e : E) (hk : e.kind = 1 ∨ e.kind = 2 ∨ e.kind = 3 ∨ e.kind = 4 ∨ e.kind = 5 ∨ e.kind = 6 ∨ e.kind = 7 ∨ e.kind = 8 ∨ e.kind = 9) : ruleE (hasK e.kind) (rulesOf e) = fldE (decide (okCode e.course)) e := by
  have key : ∀ c cr g p v f r : Bool, ∀ k : Int, (k = 1 ∨ k = 2 ∨ k = 3 ∨ k = 4 ∨ k = 5 ∨ k = 6 ∨ k = 7 ∨ k = 8 ∨ k = 9) →
      ruleE (hasK k) [⟨1, 0, !c, 12⟩, ⟨2, 0, cr, 3⟩, ⟨4, 0, g, 3⟩, ⟨32, 0, p, 3⟩, ⟨64, 0, v, 3⟩, ⟨16, 0, f, 3⟩, ⟨8, 0, r, 21⟩] =
      if k = 3 then (if c = false then 12 else if cr = true then 3 else if g = true then 3 else 0)
      else if k = 1 ∨ k = 8 then (if p = true then 3 else 0)
      else if k = 2 then (if p = true ∨ v = true then 3 else 0)
      else if k = 7 then (if f = true then 3 else 0)
      else if k = 4 then (if g = true then 3 else if r = true then 21 else 0)
      else (if r = true then 21 else 0) := by
    intro c cr g p v f r k hk
    rcases hk with rfl | rfl | rfl | rfl | rfl | rfl | rfl | rfl | rfl <;> revert c cr g p v f r <;> decide +kernel
  have := key (decide (okCode e.course)) (decide (e.credits < 1 ∨ 60 < e.credits)) (decide (e.grade < -1000 ∨ 1000 < e.grade)) (decide (e.programme < 1)) (decide (e.version < 1)) (decide ((e.frm < 1 ∨ 8 < e.frm) ∨ e.frm = e.school)) (decide ((e.ref < 1 ∨ 899999 < e.ref) ∨ e.ref = e.id)) e.kind hk
  simp only [decide_eq_true_eq] at this
  exact this
abbrev chkS (e : E) (rs : List Rule) (k : Nat) : AS := ⟨[(1, .ptr 0 15 0 0), (51, .slm {} 1 3 0 rs.length), (52, int rs.length), (53, int k)], [(0, .row 15 ety [en e]), (1, .row 3 rty (rs.map ruleA))], 2⟩
theorem rule_names (rs : List Rule) (ok : Nat → Bool) (h : ok 0 = true) : AV.namesL ok (rs.map ruleA) = true := by
  rw [namesL_all, List.all_map]
  refine List.all_eq_true.2 fun r _ => ?_
  simp only [Function.comp_def, AV.names, AV.namesL, h]; rfl
theorem chkNames (e : E) (rs : List Rule) (ok : Nat → Bool) (h : ok 0 = true) : namesAll ok [(0, .row 15 ety [en e]), (1, .row 3 rty (rs.map ruleA))] = true := by
  simp only [namesAll, Blk.names, rule_names rs ok h]; rfl
theorem rule_ren (rs : List Rule) : AV.renL id (rs.map ruleA) = rs.map ruleA := by
  rw [renL_map, List.map_map]; rfl
theorem getD_rule {l : List Rule} {k : Nat} (d : Rule) (h : k < l.length) : ruleA (l.getD k d) = Am.part true 3 0 3 ((l.map ruleA).getD (0 + k) (.sc undef)) := by
  rw [Nat.zero_add, List.getD_eq_getElem?_getD, List.getD_eq_getElem?_getD, List.getElem?_map, List.getElem?_eq_getElem h]; rfl
set_option maxHeartbeats 1600000 in
set_option maxRecDepth 100000 in
theorem Check_f (e : E) : AFun Tryd.prog 35 0 [en e] [] (int (entE e)) [] := by
  have hfl := filled_f e
  have hh := has_f e.kind
  have hm := maskE e
  have hru := ruleE_fld e
  have hrk := rulesOf_ok e
  have hrl : (rulesOf e).length = 7 := rfl
  have hra : (rulesOf e).map ruleA = [.agg [int 1, .clo 53 [.ptr 0 15 0 0], int 12], .agg [int 2, .clo 55 [.ptr 0 15 0 0], int 3], .agg [int 4, .clo 56 [.ptr 0 15 0 0], int 3], .agg [int 32, .clo 57 [.ptr 0 15 0 0], int 3],
    .agg [int 64, .clo 58 [.ptr 0 15 0 0], int 3], .agg [int 16, .clo 59 [.ptr 0 15 0 0], int 3], .agg [int 8, .clo 60 [.ptr 0 15 0 0], int 21]] := rfl
  unfold entE
  generalize onlyF e.kind (fillB e) = on at hm ⊢
  generalize fillA (fillB e) 0 0 = fl at hm hfl
  generalize decide (okCode e.course) = oc at hru ⊢
  generalize hasK e.kind = hv at hm hh hru
  generalize rulesOf e = rs at hru hrk hrl hra
  refine AFun.of_W T_ok mixed Tryd.func35 rfl (Nat.le_of_ble_eq_true rfl) rfl ?_
  by_cases a1 : e.id < 1 ∨ 899999 < e.id
  case pos =>
    ((repeat ((conv => whnf); (first | (refine LetN.pre ?_; first | ((conv => arg 1; whnf); refine LetN.mk ?_)) | (refine As.pre ?_; first | refine As.mk rfl ?_) | (refine LetV.pre ?_; first | refine LetV.mk (.sc (.int _ _)) rfl ?_) | (refine Br.pre ?_; first | refine Br.tt rfl ?_) | (refine Ck.pre ?_; first | refine Ck.mk rfl ?_) | (refine CallN.pre ?_; first | refine CallN.dect (beyond_f _ _ _) rfl (by assumption) ?_)))); (try (conv => whnf)))




    exact ⟨.inl rfl, ⟨_, rfl, congrArg int (entX_arg (.inl a1)).symm⟩, trivial⟩
  by_cases a2 : e.school < 1 ∨ 8 < e.school
  case pos =>
    ((repeat ((conv => whnf); (first | (refine LetN.pre ?_; first | ((conv => arg 1; whnf); refine LetN.mk ?_)) | (refine As.pre ?_; first | refine As.mk rfl ?_) | (refine LetV.pre ?_; first | refine LetV.mk (.sc (.int _ _)) rfl ?_) | (refine Br.pre ?_; first | refine Br.tt rfl ?_ | refine Br.ff rfl ?_) | (refine Ck.pre ?_; first | refine Ck.mk rfl ?_) | (refine CallN.pre ?_; first | refine CallN.dect (beyond_f _ _ _) rfl (by assumption) ?_ | refine CallN.decf (beyond_f _ _ _) rfl (by assumption) ?_)))); (try (conv => whnf)))




    exact ⟨.inl rfl, ⟨_, rfl, congrArg int (entX_arg (.inr (.inl a2))).symm⟩, trivial⟩
  by_cases a3 : e.student < 1 ∨ 999999 < e.student
  case pos =>
    ((repeat ((conv => whnf); (first | (refine LetN.pre ?_; first | ((conv => arg 1; whnf); refine LetN.mk ?_)) | (refine As.pre ?_; first | refine As.mk rfl ?_) | (refine LetV.pre ?_; first | refine LetV.mk (.sc (.int _ _)) rfl ?_) | (refine Br.pre ?_; first | refine Br.tt rfl ?_ | refine Br.ff rfl ?_) | (refine Ck.pre ?_; first | refine Ck.mk rfl ?_) | (refine CallN.pre ?_; first | refine CallN.dect (beyond_f _ _ _) rfl (by assumption) ?_ | refine CallN.decf (beyond_f _ _ _) rfl (by assumption) ?_)))); (try (conv => whnf)))




    exact ⟨.inl rfl, ⟨_, rfl, congrArg int (entX_arg (.inr (.inr a3))).symm⟩, trivial⟩
  have hA : ¬ ((e.id < 1 ∨ 899999 < e.id) ∨ (e.school < 1 ∨ 8 < e.school) ∨ (e.student < 1 ∨ 999999 < e.student)) := by rintro (h | h | h) <;> contradiction
  by_cases a4 : e.kind < 1 ∨ 9 < e.kind
  case pos =>
    ((repeat ((conv => whnf); (first | (refine LetN.pre ?_; first | ((conv => arg 1; whnf); refine LetN.mk ?_)) | (refine As.pre ?_; first | refine As.mk rfl ?_) | (refine LetV.pre ?_; first | refine LetV.mk (.sc (.int _ _)) rfl ?_) | (refine Br.pre ?_; first | refine Br.tt rfl ?_ | refine Br.ff rfl ?_) | (refine Ck.pre ?_; first | refine Ck.mk rfl ?_) | (refine CallN.pre ?_; first | refine CallN.dect (beyond_f _ _ _) rfl (by assumption) ?_ | refine CallN.decf (beyond_f _ _ _) rfl (by assumption) ?_)))); (try (conv => whnf)))




    exact ⟨.inl rfl, ⟨_, rfl, congrArg int (entX_kind hA (.inl a4)).symm⟩, trivial⟩
  have hp := PLift.up (hm (by omega))
  replace hru := hru (by omega)
  clear hm
  cases on <;> simp only [Bool.not_true, Bool.not_false] at hp
  case false =>
    ((repeat ((conv => whnf); (first | (refine LetN.pre ?_; first | ((conv => arg 1; whnf); refine LetN.mk ?_)) | (refine As.pre ?_; first | refine As.mk rfl ?_) | (refine LetV.pre ?_; first | refine LetV.mk (.sc (.int _ _)) rfl ?_ | refine LetV.mk (.agg _) rfl ?_) | (refine LetI.pre ?_; first | refine LetI.mk _ rfl ?_) | (refine LetB.pre ?_; first | refine LetB.tt hp.down ?_) | (refine Br.pre ?_; first | refine Br.tt rfl ?_ | refine Br.ff rfl ?_) | (refine Ck.pre ?_; first | refine Ck.drawn (by kernel_rfl) ?_ | refine Ck.mk rfl ?_) | (refine CallN.pre ?_; first | refine CallN.pure hfl rfl rfl ?_ | refine CallN.pure hh rfl rfl ?_ | refine CallN.decf (beyond_f _ _ _) rfl (by assumption) ?_)))); (try (conv => whnf)))






    exact ⟨.inl rfl, ⟨_, rfl, congrArg int (entX_kind hA (.inr rfl)).symm⟩, trivial⟩
  by_cases d1 : e.day < 0 ∨ 100000 < e.day
  case pos =>
    ((repeat ((conv => whnf); (first | (refine LetN.pre ?_; first | ((conv => arg 1; whnf); refine LetN.mk ?_)) | (refine As.pre ?_; first | refine As.mk rfl ?_) | (refine LetV.pre ?_; first | refine LetV.mk (.sc (.int _ _)) rfl ?_ | refine LetV.mk (.agg _) rfl ?_) | (refine LetI.pre ?_; first | refine LetI.mk _ rfl ?_) | (refine LetB.pre ?_; first | refine LetB.ff hp.down ?_) | (refine Br.pre ?_; first | refine Br.tt rfl ?_ | refine Br.ff rfl ?_) | (refine Ck.pre ?_; first | refine Ck.drawn (by kernel_rfl) ?_ | refine Ck.mk rfl ?_) | (refine CallN.pre ?_; first | refine CallN.pure hfl rfl rfl ?_ | refine CallN.pure hh rfl rfl ?_ | refine CallN.dect (beyond_f _ _ _) rfl (by assumption) ?_ | refine CallN.decf (beyond_f _ _ _) rfl (by assumption) ?_)))); (try (conv => whnf)))






    exact ⟨.inl rfl, ⟨_, rfl, congrArg int (entX_date hA a4 rfl (.inl d1)).symm⟩, trivial⟩
  by_cases d2 : e.on_ < 0 ∨ e.day < e.on_
  case pos =>
    ((repeat ((conv => whnf); (first | (refine LetN.pre ?_; first | ((conv => arg 1; whnf); refine LetN.mk ?_)) | (refine As.pre ?_; first | refine As.mk rfl ?_) | (refine LetV.pre ?_; first | refine LetV.mk (.sc (.int _ _)) rfl ?_ | refine LetV.mk (.agg _) rfl ?_) | (refine LetI.pre ?_; first | refine LetI.mk _ rfl ?_) | (refine LetB.pre ?_; first | refine LetB.ff hp.down ?_) | (refine Br.pre ?_; first | refine Br.tt rfl ?_ | refine Br.ff rfl ?_) | (refine Ck.pre ?_; first | refine Ck.drawn (by kernel_rfl) ?_ | refine Ck.mk rfl ?_) | (refine CallN.pre ?_; first | refine CallN.pure hfl rfl rfl ?_ | refine CallN.pure hh rfl rfl ?_ | refine CallN.dect (beyond_f _ _ _) rfl (by assumption) ?_ | refine CallN.decf (beyond_f _ _ _) rfl (by assumption) ?_)))); (try (conv => whnf)))






    exact ⟨.inl rfl, ⟨_, rfl, congrArg int (entX_date hA a4 rfl (.inr d2)).symm⟩, trivial⟩
  have hD : ¬ ((e.day < 0 ∨ 100000 < e.day) ∨ (e.on_ < 0 ∨ e.day < e.on_)) := by rintro (h | h) <;> contradiction
  rw [entX_fld hA a4 rfl hD, ← hru]
  ((repeat ((conv => whnf); (first | (refine LetN.pre ?_; first | ((conv => arg 1; whnf); refine LetN.mk ?_)) | (refine As.pre ?_; first | refine As.mk rfl ?_) | (refine LetV.pre ?_; first | refine LetV.mk (.sc (.int _ _)) rfl ?_ | refine LetV.mk (.agg _) rfl ?_) | (refine LetI.pre ?_; first | refine LetI.mk _ rfl ?_) | (refine LetB.pre ?_; first | refine LetB.ff hp.down ?_) | (refine Br.pre ?_; first | refine Br.ff rfl ?_) | (refine Ck.pre ?_; first | refine Ck.drawn (by kernel_rfl) ?_ | refine Ck.mk rfl ?_) | (refine CallN.pre ?_; first | refine CallN.pure hfl rfl rfl ?_ | refine CallN.pure hh rfl rfl ?_ | refine CallN.decf (beyond_f _ _ _) rfl (by assumption) ?_)))); (try (conv => whnf)))






  refine LoopN.weak (s1 := chkS e rs 0) ?sw1 ?_
  case sw1 => exact SW.mk id rfl rfl (chkNames e rs _ rfl) ⟨.refl _, VLe2.slm_of hrl, VLe2.int (by rw [hrl]), .refl _, trivial⟩ (haveV.row rfl rfl (haveV.one (by rw [Blk.ren, rule_ren, hra] <;> rfl) trivial))
  generalize hX : ruleE hv rs = X
  have hrm : (rs.map ruleA).length = rs.length := List.length_map _
  clear hra hp hfl hru
  refine LoopN.ind T_ok mixed (S := chkS e rs) (fun k => rs.length - k) (fun k => k ≤ rs.length ∧ X = ruleE hv (rs.drop k)) (fun _ => rfl) (fun k hi ih => ?_) 0 ⟨Nat.zero_le _, hX.symm⟩
  obtain ⟨g1, g2⟩ := hi
  by_cases hlt : k < rs.length
  case neg =>
    rw [List.drop_eq_nil_of_le (by omega)] at g2
    rw [g2]
    clear ih
    ((repeat ((conv => whnf); (first | (refine As.pre ?_; first | refine As.mk rfl ?_) | (refine LetB.pre ?_; first | refine LetB.decf (by omega) ?_) | (refine Br.pre ?_; first | refine Br.ff rfl ?_) | (refine Ck.pre ?_; first | refine Ck.mk rfl ?_)))); (try (conv => whnf)))
    exact ⟨.inl rfl, ⟨_, rfl, rfl⟩, trivial⟩
  have hld : ruleA (rs.getD k ⟨0, 0, false, 0⟩) = Am.part true 3 0 3 ((rs.map ruleA).getD (0 + k) (.sc undef)) := getD_rule _ hlt
  have hin : rs.getD k ⟨0, 0, false, 0⟩ ∈ rs := by
    rw [List.getD_eq_getElem?_getD, List.getElem?_eq_getElem hlt]
    exact List.getElem_mem _
  rw [List.drop_eq_getElem_cons hlt, show rs[k] = rs.getD k ⟨0, 0, false, 0⟩ by rw [List.getD_eq_getElem?_getD, List.getElem?_eq_getElem hlt]; rfl, ruleE] at g2
  obtain ⟨hr, hcl⟩ := hrk _ hin
  generalize rs.getD k ⟨0, 0, false, 0⟩ = r at hld g2 hr hcl
  have hmk : (IntKind.i64.wrap ((BitVec.ofInt 64 hv) &&& (BitVec.ofInt 64 r.f)).toNat != 0) = mk2 hv r.f := rfl
  have next : X = ruleE hv (rs.drop (k + 1)) → LoopN Tryd.prog 0 Tryd.f35.ntmps _ (chkS e rs (k + 1)) _ := fun h => ih (k + 1) ⟨by omega, h⟩ (by omega)
  clear ih hrk
  cases hb : mk2 hv r.f with
  | false =>
    rw [hb] at hmk g2
    have hp := PLift.up hmk
    clear hmk
    ((repeat ((conv => whnf); (first | (refine LetN.pre ?_; first | ((conv => arg 1; whnf); refine LetN.mk ?_)) | (refine As.pre ?_; first | refine As.mk rfl ?_ | (refine As.mk ?_ ?_; · ((repeat' (refine andT ?_ ?_)) <;> (first | rfl | assumption | exact decide_eq_true (by omega) | exact decide_eq_true (by dsimp only; omega) | exact decide_eq_true (by simp; omega) | (simp; done))))) | (refine LetV.pre ?_; first | refine LetV.mk (t := rty) _ hld ?_ | refine LetV.mk (.sc (.int _ _)) rfl ?_) | (refine LetI.pre ?_; first | refine LetI.wrap (by omega) (by omega) ?_ | refine LetI.mk _ rfl ?_) | (refine LetB.pre ?_; first | refine LetB.ff (by assumption) ?_ | refine LetB.dect (by omega) ?_) | (refine Gd.pre ?_; first | refine Gd.pass rfl ?_) | (refine Br.pre ?_; first | refine Br.tt rfl ?_ | refine Br.ff rfl ?_) | (refine Ck.pre ?_; first | refine Ck.drawn (by kernel_rfl) ?_ | refine Ck.mk rfl ?_) | (refine LetL.pre ?_; first | refine LetL.mk [_] rfl ?_) | (refine CallN.pre ?_; first | refine CallN.pure hh rfl rfl ?_)))); (try (conv => whnf)))



    refine LoopN.weak ?sw2 (next g2)
    case sw2 => exact SW.mk id rfl rfl (chkNames e rs _ rfl) ⟨.refl _, .refl _, .refl _, VLe2.int (by omega), trivial⟩ (haveV.row rfl rfl (haveV.one (by rw [Blk.ren, rule_ren]; rfl) trivial))
  | true =>
    rw [hb] at hmk g2
    have hp := PLift.up hmk
    clear hmk
    cases hw : r.w with
    | false =>
      rw [hw] at hr g2
      ((repeat ((conv => whnf); (first | (refine LetN.pre ?_; first | ((conv => arg 1; whnf); refine LetN.mk ?_)) | (refine As.pre ?_; first | refine As.mk rfl ?_ | (refine As.mk ?_ ?_; · ((repeat' (refine andT ?_ ?_)) <;> (first | rfl | assumption | exact decide_eq_true (by omega) | exact decide_eq_true (by dsimp only; omega) | exact decide_eq_true (by simp; omega) | (simp; done))))) | (refine LetV.pre ?_; first | refine LetV.mk (t := rty) _ hld ?_ | refine LetV.mk (.sc (.int _ _)) rfl ?_ | refine LetV.mk (.clo _ _ _) rfl ?_) | (refine LetI.pre ?_; first | refine LetI.wrap (by omega) (by omega) ?_ | refine LetI.mk _ rfl ?_) | (refine LetB.pre ?_; first | refine LetB.tt (by assumption) ?_ | refine LetB.dect (by omega) ?_) | (refine Gd.pre ?_; first | refine Gd.run rfl ?_) | (refine Br.pre ?_; first | refine Br.tt rfl ?_ | refine Br.ff rfl ?_) | (refine Ck.pre ?_; first | refine Ck.drawn (by kernel_rfl) ?_ | refine Ck.mk rfl ?_ | refine Ck.mk hcl ?_) | (refine LetL.pre ?_; first | refine LetL.mk [_] rfl ?_) | (refine CallN.pre ?_; first | refine CallN.pure hh rfl rfl ?_ | refine CallN.lend hr rfl (.ptr rfl rfl rfl .nil) ?_)))); (try (conv => whnf)))





      refine LoopN.weak ?sw3 (next g2)
      case sw3 => exact SW.mk id rfl rfl (chkNames e rs _ rfl) ⟨.refl _, .refl _, .refl _, VLe2.int (by omega), trivial⟩ (haveV.row rfl rfl (haveV.one (by rw [Blk.ren, rule_ren]; rfl) trivial))
    | true =>
      rw [hw] at hr g2
      simp only [Bool.and_self, if_true] at g2
      rw [g2]
      ((repeat ((conv => whnf); (first | (refine LetN.pre ?_; first | ((conv => arg 1; whnf); refine LetN.mk ?_)) | (refine As.pre ?_; first | refine As.mk rfl ?_ | (refine As.mk ?_ ?_; · ((repeat' (refine andT ?_ ?_)) <;> (first | rfl | assumption | exact decide_eq_true (by omega) | exact decide_eq_true (by dsimp only; omega) | exact decide_eq_true (by simp; omega) | (simp; done))))) | (refine LetV.pre ?_; first | refine LetV.mk (t := rty) _ hld ?_ | refine LetV.mk (.sc (.int _ _)) rfl ?_ | refine LetV.mk (.clo _ _ _) rfl ?_) | (refine LetI.pre ?_; first | refine LetI.mk _ rfl ?_) | (refine LetB.pre ?_; first | refine LetB.tt (by assumption) ?_ | refine LetB.dect (by omega) ?_) | (refine Gd.pre ?_; first | refine Gd.run rfl ?_) | (refine Br.pre ?_; first | refine Br.tt rfl ?_) | (refine Ck.pre ?_; first | refine Ck.drawn (by kernel_rfl) ?_ | refine Ck.mk rfl ?_ | refine Ck.mk hcl ?_) | (refine LetL.pre ?_; first | refine LetL.mk [_] rfl ?_) | (refine CallN.pre ?_; first | refine CallN.pure hh rfl rfl ?_ | refine CallN.lend hr rfl (.ptr rfl rfl rfl .nil) ?_)))); (try (conv => whnf)))





      exact ⟨.inl rfl, ⟨_, rfl, rfl⟩, trivial⟩
end En
end Go.Proofs.YtgnakhljdjekbaaDoor
namespace Go.Proofs.YtgnakhljdjekbaaDoor
open Go.Proofs.YtgnakhljdjekbaaDoor.Am
set_option maxRecDepth 100000
namespace En
open Classical
/-! ### The reference's Check of an entry -/
/-- An entry with the fields of its kind alone. -/
def plainE (e : E) : E :=
  if e.kind = 1 ∨ e.kind = 8 then { e with course := ⟨#[]⟩, credits := 0, grade := 0, ref := 0, frm := 0, version := 0 }
  else if e.kind = 2 then { e with course := ⟨#[]⟩, credits := 0, grade := 0, ref := 0, frm := 0 }
  else if e.kind = 3 then { e with ref := 0, frm := 0, programme := 0, version := 0 }
  else if e.kind = 4 then { e with course := ⟨#[]⟩, credits := 0, frm := 0, programme := 0, version := 0 }
  else if e.kind = 5 ∨ e.kind = 6 ∨ e.kind = 9 then { e with course := ⟨#[]⟩, credits := 0, grade := 0, frm := 0, programme := 0, version := 0 }
  else if e.kind = 7 then { e with course := ⟨#[]⟩, credits := 0, grade := 0, ref := 0, programme := 0, version := 0 }
  else { e with course := ⟨#[]⟩, credits := 0, grade := 0, ref := 0, frm := 0, programme := 0, version := 0 }
theorem plain_only (e : E) (hk : e.kind = 1 ∨ e.kind = 2 ∨ e.kind = 3 ∨ e.kind = 4 ∨ e.kind = 5 ∨ e.kind = 6 ∨ e.kind = 7 ∨ e.kind = 8 ∨ e.kind = 9) : enB (plainE e) e = onlyF e.kind (fillB e) := by
  have z : ∀ n : Int, (0 == n) = !(n != 0) := by
    intro n
    by_cases h : n = 0
    · subst h; rfl
    · rw [beq_eq_false_iff_ne.2 (Ne.symm h), bne_iff_ne.2 h]; rfl
  have zs : ∀ s : ByteArray, ((⟨#[]⟩ : ByteArray).toList == s.toList) = !(!(s.toList == (⟨#[]⟩ : ByteArray).toList)) := by
    intro s
    rw [Bool.not_not, Bool.eq_iff_iff, beq_iff_eq, beq_iff_eq]
    exact ⟨fun h => h.symm, fun h => h.symm⟩
  obtain ⟨id, school, student, kind, day, on_, course, credits, grade, ref, frm, programme, version, key, mark⟩ := e
  simp only at hk
  generalize hc : (!(course.toList == (⟨#[]⟩ : ByteArray).toList)) = c
  generalize hcr : (credits != 0) = cr
  generalize hg : (grade != 0) = g
  generalize hr : (ref != 0) = r
  generalize hf : (frm != 0) = f
  generalize hp : (programme != 0) = p
  generalize hv : (version != 0) = v
  have ec : (course.toList == course.toList) = true := beq_self_eq_true _
  have em : (mark.toList == mark.toList) = true := beq_self_eq_true _
  have zc := zs course
  rw [hc] at zc
  have zcr := z credits; rw [hcr] at zcr
  have zg := z grade; rw [hg] at zg
  have zr := z ref; rw [hr] at zr
  have zf := z frm; rw [hf] at zf
  have zp := z programme; rw [hp] at zp
  have zv := z version; rw [hv] at zv
  rcases hk with h | h | h | h | h | h | h | h | h <;> subst h
  · show ((id == id) && ((school == school) && ((student == student) && (((1 : Int) == 1) && ((day == day) && ((on_ == on_) && (((⟨#[]⟩ : ByteArray).toList == course.toList) && (((0 : Int) == credits) && (((0 : Int) == grade) && (((0 : Int) == ref) && (((0 : Int) == frm) && ((programme == programme) && (((0 : Int) == version) && ((key == key) && ((mark.toList == mark.toList) && true))))))))))))))) = onlyF 1 [!(course.toList == (⟨#[]⟩ : ByteArray).toList), credits != 0, grade != 0, ref != 0, frm != 0, programme != 0, version != 0]
    rw [hc, hcr, hg, hr, hf, hp, hv]
    simp only [zc, zcr, zg, zr, zf, zp, zv, ec, em, beq_self_eq_true, Bool.true_and, Bool.and_true]
    clear hc hcr hg hr hf hp hv zc zcr zg zr zf zp zv
    revert c cr g r f p v
    decide
  · show ((id == id) && ((school == school) && ((student == student) && (((2 : Int) == 2) && ((day == day) && ((on_ == on_) && (((⟨#[]⟩ : ByteArray).toList == course.toList) && (((0 : Int) == credits) && (((0 : Int) == grade) && (((0 : Int) == ref) && (((0 : Int) == frm) && ((programme == programme) && ((version == version) && ((key == key) && ((mark.toList == mark.toList) && true))))))))))))))) = onlyF 2 [!(course.toList == (⟨#[]⟩ : ByteArray).toList), credits != 0, grade != 0, ref != 0, frm != 0, programme != 0, version != 0]
    rw [hc, hcr, hg, hr, hf, hp, hv]
    simp only [zc, zcr, zg, zr, zf, zp, zv, ec, em, beq_self_eq_true, Bool.true_and, Bool.and_true]
    clear hc hcr hg hr hf hp hv zc zcr zg zr zf zp zv
    revert c cr g r f p v
    decide
  · show ((id == id) && ((school == school) && ((student == student) && (((3 : Int) == 3) && ((day == day) && ((on_ == on_) && ((course.toList == course.toList) && ((credits == credits) && ((grade == grade) && (((0 : Int) == ref) && (((0 : Int) == frm) && (((0 : Int) == programme) && (((0 : Int) == version) && ((key == key) && ((mark.toList == mark.toList) && true))))))))))))))) = onlyF 3 [!(course.toList == (⟨#[]⟩ : ByteArray).toList), credits != 0, grade != 0, ref != 0, frm != 0, programme != 0, version != 0]
    rw [hc, hcr, hg, hr, hf, hp, hv]
    simp only [zc, zcr, zg, zr, zf, zp, zv, ec, em, beq_self_eq_true, Bool.true_and, Bool.and_true]
    clear hc hcr hg hr hf hp hv zc zcr zg zr zf zp zv
    revert c cr g r f p v
    decide
  · show ((id == id) && ((school == school) && ((student == student) && (((4 : Int) == 4) && ((day == day) && ((on_ == on_) && (((⟨#[]⟩ : ByteArray).toList == course.toList) && (((0 : Int) == credits) && ((grade == grade) && ((ref == ref) && (((0 : Int) == frm) && (((0 : Int) == programme) && (((0 : Int) == version) && ((key == key) && ((mark.toList == mark.toList) && true))))))))))))))) = onlyF 4 [!(course.toList == (⟨#[]⟩ : ByteArray).toList), credits != 0, grade != 0, ref != 0, frm != 0, programme != 0, version != 0]
    rw [hc, hcr, hg, hr, hf, hp, hv]
    simp only [zc, zcr, zg, zr, zf, zp, zv, ec, em, beq_self_eq_true, Bool.true_and, Bool.and_true]
    clear hc hcr hg hr hf hp hv zc zcr zg zr zf zp zv
    revert c cr g r f p v
    decide
  · show ((id == id) && ((school == school) && ((student == student) && (((5 : Int) == 5) && ((day == day) && ((on_ == on_) && (((⟨#[]⟩ : ByteArray).toList == course.toList) && (((0 : Int) == credits) && (((0 : Int) == grade) && ((ref == ref) && (((0 : Int) == frm) && (((0 : Int) == programme) && (((0 : Int) == version) && ((key == key) && ((mark.toList == mark.toList) && true))))))))))))))) = onlyF 5 [!(course.toList == (⟨#[]⟩ : ByteArray).toList), credits != 0, grade != 0, ref != 0, frm != 0, programme != 0, version != 0]
    rw [hc, hcr, hg, hr, hf, hp, hv]
    simp only [zc, zcr, zg, zr, zf, zp, zv, ec, em, beq_self_eq_true, Bool.true_and, Bool.and_true]
    clear hc hcr hg hr hf hp hv zc zcr zg zr zf zp zv
    revert c cr g r f p v
    decide
  · show ((id == id) && ((school == school) && ((student == student) && (((6 : Int) == 6) && ((day == day) && ((on_ == on_) && (((⟨#[]⟩ : ByteArray).toList == course.toList) && (((0 : Int) == credits) && (((0 : Int) == grade) && ((ref == ref) && (((0 : Int) == frm) && (((0 : Int) == programme) && (((0 : Int) == version) && ((key == key) && ((mark.toList == mark.toList) && true))))))))))))))) = onlyF 6 [!(course.toList == (⟨#[]⟩ : ByteArray).toList), credits != 0, grade != 0, ref != 0, frm != 0, programme != 0, version != 0]
    rw [hc, hcr, hg, hr, hf, hp, hv]
    simp only [zc, zcr, zg, zr, zf, zp, zv, ec, em, beq_self_eq_true, Bool.true_and, Bool.and_true]
    clear hc hcr hg hr hf hp hv zc zcr zg zr zf zp zv
    revert c cr g r f p v
    decide
  · show ((id == id) && ((school == school) && ((student == student) && (((7 : Int) == 7) && ((day == day) && ((on_ == on_) && (((⟨#[]⟩ : ByteArray).toList == course.toList) && (((0 : Int) == credits) && (((0 : Int) == grade) && (((0 : Int) == ref) && ((frm == frm) && (((0 : Int) == programme) && (((0 : Int) == version) && ((key == key) && ((mark.toList == mark.toList) && true))))))))))))))) = onlyF 7 [!(course.toList == (⟨#[]⟩ : ByteArray).toList), credits != 0, grade != 0, ref != 0, frm != 0, programme != 0, version != 0]
    rw [hc, hcr, hg, hr, hf, hp, hv]
    simp only [zc, zcr, zg, zr, zf, zp, zv, ec, em, beq_self_eq_true, Bool.true_and, Bool.and_true]
    clear hc hcr hg hr hf hp hv zc zcr zg zr zf zp zv
    revert c cr g r f p v
    decide
  · show ((id == id) && ((school == school) && ((student == student) && (((8 : Int) == 8) && ((day == day) && ((on_ == on_) && (((⟨#[]⟩ : ByteArray).toList == course.toList) && (((0 : Int) == credits) && (((0 : Int) == grade) && (((0 : Int) == ref) && (((0 : Int) == frm) && ((programme == programme) && (((0 : Int) == version) && ((key == key) && ((mark.toList == mark.toList) && true))))))))))))))) = onlyF 8 [!(course.toList == (⟨#[]⟩ : ByteArray).toList), credits != 0, grade != 0, ref != 0, frm != 0, programme != 0, version != 0]
    rw [hc, hcr, hg, hr, hf, hp, hv]
    simp only [zc, zcr, zg, zr, zf, zp, zv, ec, em, beq_self_eq_true, Bool.true_and, Bool.and_true]
    clear hc hcr hg hr hf hp hv zc zcr zg zr zf zp zv
    revert c cr g r f p v
    decide
  · show ((id == id) && ((school == school) && ((student == student) && (((9 : Int) == 9) && ((day == day) && ((on_ == on_) && (((⟨#[]⟩ : ByteArray).toList == course.toList) && (((0 : Int) == credits) && (((0 : Int) == grade) && ((ref == ref) && (((0 : Int) == frm) && (((0 : Int) == programme) && (((0 : Int) == version) && ((key == key) && ((mark.toList == mark.toList) && true))))))))))))))) = onlyF 9 [!(course.toList == (⟨#[]⟩ : ByteArray).toList), credits != 0, grade != 0, ref != 0, frm != 0, programme != 0, version != 0]
    rw [hc, hcr, hg, hr, hf, hp, hv]
    simp only [zc, zcr, zg, zr, zf, zp, zv, ec, em, beq_self_eq_true, Bool.true_and, Bool.and_true]
    clear hc hcr hg hr hf hp hv zc zcr zg zr zf zp zv
    revert c cr g r f p v
    decide
end En
end Go.Proofs.YtgnakhljdjekbaaDoor
namespace Go.Proofs.YtgnakhljdjekbaaDoor
open Go.Proofs.YtgnakhljdjekbaaDoor.Am
set_option maxRecDepth 100000
namespace En
open Classical
/-! ### Check of entries -/
theorem IndexE_f {c : Cd} (hc : c.Ok) (l : List E) (fl : Fl) (hl : l.length ≤ 100000) : AFun Tryd.prog 34 0 [.ro fl 15 (l.map en), c.av] [] (int (fidx c.p l 0)) [] := by
  refine AFun.of_W T_ok mixed Tryd.func34 rfl (Nat.le_of_ble_eq_true rfl) rfl ?_
  generalize hR : fidx c.p l 0 = R
  ((repeat ((conv => whnf); (first | (refine LetN.pre ?_; first | ((conv => arg 1; whnf); refine LetN.mk ?_)) | (refine As.pre ?_; first | refine As.mk rfl ?_ | (refine As.mk ?_ ?_; · decide +kernel) | refine As.mk (andT (nor_self _) rfl) ?_ | refine As.mk (andT (nor_self _) (or_t _)) ?_ | refine As.mk (andT (or_t _) (or_nself _)) ?_ | refine As.mk (andT (or_t _) (or_t _)) ?_ | refine As.mk (andT (nor_self _) (andT (nor_self _) rfl)) ?_ | (refine As.mk ?_ ?_; · ((repeat' (refine andT ?_ ?_)) <;> (first | rfl | assumption | exact decide_eq_true (by omega) | exact decide_eq_true (by dsimp only; omega) | exact decide_eq_true (by simp; omega) | (simp; done))))) | (refine LetV.pre ?_; first | refine LetV.mk (.sc (.int _ _)) rfl ?_ | refine LetV.mk (.sc (.bool _)) rfl ?_ | refine LetV.mk (.sc _) rfl ?_ | refine LetV.mk (.agg _) rfl ?_ | refine LetV.mk (.slm _ _ _ _ _) rfl ?_ | refine LetV.mk (.ro _ _ _) rfl ?_ | refine LetV.mk (.ptr _ _ _ _) rfl ?_ | refine LetV.mk (.clo _ _ _) rfl ?_ | refine LetV.mk (.rp _ _) rfl ?_) | (refine LetI.pre ?_; first | refine LetI.wrap (by omega) (by omega) ?_ | refine LetI.mk _ rfl ?_) | (refine LetB.pre ?_; first | refine LetB.tt rfl ?_ | refine LetB.ff rfl ?_ | refine LetB.tt (by assumption) ?_ | refine LetB.ff (by assumption) ?_ | refine LetB.mk _ rfl ?_) | (refine Gd.pre ?_; first | refine Gd.run rfl ?_ | refine Gd.pass rfl ?_ | refine Gd.run (by assumption) ?_ | refine Gd.pass (by assumption) ?_ | (refine Gd.run ?_ ?_; · decide +kernel) | (refine Gd.pass ?_ ?_; · decide +kernel) | refine Gd.both ?_) | (refine Br.pre ?_; first | refine Br.tt rfl ?_ | refine Br.ff rfl ?_ | refine Br.tt (by assumption) ?_ | refine Br.ff (by assumption) ?_ | (refine Br.tt ?_ ?_; · decide +kernel) | (refine Br.ff ?_ ?_; · decide +kernel)) | (refine Ck.pre ?_; first | refine Ck.drawn (by kernel_rfl) ?_ | refine Ck.mk rfl ?_) | (refine LetL.pre ?_; first | refine LetL.mk [_] rfl ?_ | refine LetL.mk _ rfl ?_) | refine forceAs.pass ?_ | refine forceEs.pass ?_ | refine forceC.pass ?_))); (try (conv => whnf)))
  have hm : (l.map en).length = l.length := List.length_map _
  have hcn : frNames (fun i => decide (i < 0) || List.contains [] i) [(0, .ro fl 15 (l.map en)), (1, c.av), (6, .ro fl 15 (l.map en)), (7, int l.length), (8, int (0 : Nat))] = true := by
    simp only [frNames, List.all_cons, AV.names, AV.namesL, namesL_none hc.pure]; rfl
  refine LoopN.weak (s1 := ⟨[(0, .ro fl 15 (l.map en)), (1, c.av), (6, .ro fl 15 (l.map en)), (7, int l.length), (8, int (0 : Nat))], [], 0⟩) (SW.fr0 (Nat.le_refl _) hcn ⟨.refl _, VLe2.of_eq (ren_id _), .refl _, VLe2.int (by rw [hm]), .refl _, trivial⟩) ?_
  refine LoopN.ind T_ok mixed (S := fun k : Nat => ⟨[(0, .ro fl 15 (l.map en)), (1, c.av), (6, .ro fl 15 (l.map en)), (7, int l.length), (8, int k)], [], 0⟩) (fun k => l.length - k) (fun k => k ≤ l.length ∧ R = fidx c.p (l.drop k) k) (fun _ => rfl) (fun k hk ih => ?_) 0 ⟨Nat.zero_le _, hR.symm⟩
  obtain ⟨h1, h2⟩ := hk
  by_cases hlt : k < l.length
  case neg =>
    rw [fidx_end hlt] at h2
    rw [h2]
    clear ih
    ((repeat ((conv => whnf); (first | (refine LetN.pre ?_; first | ((conv => arg 1; whnf); refine LetN.mk ?_)) | (refine As.pre ?_; first | refine As.mk rfl ?_ | (refine As.mk ?_ ?_; · decide +kernel) | refine As.mk (andT (nor_self _) rfl) ?_ | refine As.mk (andT (nor_self _) (or_t _)) ?_ | refine As.mk (andT (or_t _) (or_nself _)) ?_ | refine As.mk (andT (or_t _) (or_t _)) ?_ | refine As.mk (andT (nor_self _) (andT (nor_self _) rfl)) ?_ | (refine As.mk ?_ ?_; · ((repeat' (refine andT ?_ ?_)) <;> (first | rfl | assumption | exact decide_eq_true (by omega) | exact decide_eq_true (by dsimp only; omega) | exact decide_eq_true (by simp; omega) | (simp; done))))) | (refine LetV.pre ?_; first | refine LetV.mk (.sc (.int _ _)) rfl ?_ | refine LetV.mk (.sc (.bool _)) rfl ?_ | refine LetV.mk (.sc _) rfl ?_ | refine LetV.mk (.agg _) rfl ?_ | refine LetV.mk (.slm _ _ _ _ _) rfl ?_ | refine LetV.mk (.ro _ _ _) rfl ?_ | refine LetV.mk (.ptr _ _ _ _) rfl ?_ | refine LetV.mk (.clo _ _ _) rfl ?_ | refine LetV.mk (.rp _ _) rfl ?_) | (refine LetI.pre ?_; first | refine LetI.wrap (by omega) (by omega) ?_ | refine LetI.mk _ rfl ?_) | (refine LetB.pre ?_; first | refine LetB.tt rfl ?_ | refine LetB.ff rfl ?_ | refine LetB.tt (by assumption) ?_ | refine LetB.ff (by assumption) ?_ | refine LetB.dect (by omega) ?_ | refine LetB.decf (by omega) ?_ | refine LetB.beqt (by omega) ?_ | refine LetB.beqf (by omega) ?_ | refine LetB.bnet (by omega) ?_ | refine LetB.bnef (by omega) ?_ | refine LetB.mk _ rfl ?_) | (refine Gd.pre ?_; first | refine Gd.run rfl ?_ | refine Gd.pass rfl ?_ | refine Gd.run (by assumption) ?_ | refine Gd.pass (by assumption) ?_ | (refine Gd.run ?_ ?_; · decide +kernel) | (refine Gd.pass ?_ ?_; · decide +kernel) | refine Gd.both ?_) | (refine Br.pre ?_; first | refine Br.tt rfl ?_ | refine Br.ff rfl ?_ | refine Br.tt (by assumption) ?_ | refine Br.ff (by assumption) ?_ | (refine Br.tt ?_ ?_; · decide +kernel) | (refine Br.ff ?_ ?_; · decide +kernel)) | (refine Ck.pre ?_; first | refine Ck.drawn (by kernel_rfl) ?_ | refine Ck.mk rfl ?_) | (refine LetL.pre ?_; first | refine LetL.mk [_] rfl ?_ | refine LetL.mk _ rfl ?_) | refine forceAs.pass ?_ | refine forceEs.pass ?_ | refine forceC.pass ?_))); (try (conv => whnf)))
    exact ⟨.inl rfl, ⟨_, rfl, rfl⟩, trivial⟩
  case pos =>
    rw [fidx_drop hlt e0] at h2
    have hld : en (l.getD k e0) = (l.map en).getD k (.sc undef) := mapD e0 hlt
    generalize l.getD k e0 = e at hld h2
    have hck := hc.run e
    cases hp : c.p e with
    | false =>
      rw [hp] at hck h2
      simp only [Bool.false_eq_true, if_false] at h2
      ((repeat ((conv => whnf); (first | (refine LetN.pre ?_; first | ((conv => arg 1; whnf); refine LetN.mk ?_)) | (refine As.pre ?_; first | refine As.mk rfl ?_ | (refine As.mk ?_ ?_; · decide +kernel) | refine As.mk (andT (nor_self _) rfl) ?_ | refine As.mk (andT (nor_self _) (or_t _)) ?_ | refine As.mk (andT (or_t _) (or_nself _)) ?_ | refine As.mk (andT (or_t _) (or_t _)) ?_ | refine As.mk (andT (nor_self _) (andT (nor_self _) rfl)) ?_ | (refine As.mk ?_ ?_; · ((repeat' (refine andT ?_ ?_)) <;> (first | rfl | assumption | exact decide_eq_true (by omega) | exact decide_eq_true (by dsimp only; omega) | exact decide_eq_true (by simp; omega) | (simp; done))))) | (refine LetV.pre ?_; first | refine LetV.mk (t := 44) _ hld ?_ | refine LetV.mk (.sc (.int _ _)) rfl ?_ | refine LetV.mk (.sc (.bool _)) rfl ?_ | refine LetV.mk (.sc _) rfl ?_ | refine LetV.mk (.agg _) rfl ?_ | refine LetV.mk (.slm _ _ _ _ _) rfl ?_ | refine LetV.mk (.ro _ _ _) rfl ?_ | refine LetV.mk (.ptr _ _ _ _) rfl ?_ | refine LetV.mk (.clo _ _ _) rfl ?_ | refine LetV.mk (.rp _ _) rfl ?_) | (refine LetI.pre ?_; first | refine LetI.wrap (by omega) (by omega) ?_ | refine LetI.mk _ rfl ?_) | (refine LetB.pre ?_; first | refine LetB.tt rfl ?_ | refine LetB.ff rfl ?_ | refine LetB.tt (by assumption) ?_ | refine LetB.ff (by assumption) ?_ | refine LetB.dect (by omega) ?_ | refine LetB.decf (by omega) ?_ | refine LetB.beqt (by omega) ?_ | refine LetB.beqf (by omega) ?_ | refine LetB.bnet (by omega) ?_ | refine LetB.bnef (by omega) ?_ | refine LetB.mk _ rfl ?_) | (refine Gd.pre ?_; first | refine Gd.run rfl ?_ | refine Gd.pass rfl ?_ | refine Gd.run (by assumption) ?_ | refine Gd.pass (by assumption) ?_ | (refine Gd.run ?_ ?_; · decide +kernel) | (refine Gd.pass ?_ ?_; · decide +kernel) | refine Gd.both ?_) | (refine Br.pre ?_; first | refine Br.tt rfl ?_ | refine Br.ff rfl ?_ | refine Br.tt (by assumption) ?_ | refine Br.ff (by assumption) ?_ | (refine Br.tt ?_ ?_; · decide +kernel) | (refine Br.ff ?_ ?_; · decide +kernel)) | (refine Ck.pre ?_; first | refine Ck.drawn (by kernel_rfl) ?_ | refine Ck.mk rfl ?_ | refine Ck.mk hc.call ?_) | (refine LetL.pre ?_; first | refine LetL.mk [_] rfl ?_ | refine LetL.mk _ rfl ?_) | (refine CallN.pre ?_; first | refine CallN.pure hck (hc.names e) rfl ?_) | refine forceAs.pass ?_ | refine forceEs.pass ?_ | refine forceC.pass ?_))); (try (conv => whnf)))



      refine LoopN.weak ?_ (ih (k + 1) ⟨by omega, h2⟩ (by omega))
      refine SW.fr0 (Nat.le_refl _) ?_ ⟨.refl _, VLe2.of_eq (ren_id _), .refl _, .refl _, VLe2.int (by omega), trivial⟩
      exact hcn
    | true =>
      rw [hp] at hck h2
      simp only [if_true] at h2
      rw [h2]
      clear ih
      ((repeat ((conv => whnf); (first | (refine LetN.pre ?_; first | ((conv => arg 1; whnf); refine LetN.mk ?_)) | (refine As.pre ?_; first | refine As.mk rfl ?_ | (refine As.mk ?_ ?_; · decide +kernel) | refine As.mk (andT (nor_self _) rfl) ?_ | refine As.mk (andT (nor_self _) (or_t _)) ?_ | refine As.mk (andT (or_t _) (or_nself _)) ?_ | refine As.mk (andT (or_t _) (or_t _)) ?_ | refine As.mk (andT (nor_self _) (andT (nor_self _) rfl)) ?_ | (refine As.mk ?_ ?_; · ((repeat' (refine andT ?_ ?_)) <;> (first | rfl | assumption | exact decide_eq_true (by omega) | exact decide_eq_true (by dsimp only; omega) | exact decide_eq_true (by simp; omega) | (simp; done))))) | (refine LetV.pre ?_; first | refine LetV.mk (t := 44) _ hld ?_ | refine LetV.mk (.sc (.int _ _)) rfl ?_ | refine LetV.mk (.sc (.bool _)) rfl ?_ | refine LetV.mk (.sc _) rfl ?_ | refine LetV.mk (.agg _) rfl ?_ | refine LetV.mk (.slm _ _ _ _ _) rfl ?_ | refine LetV.mk (.ro _ _ _) rfl ?_ | refine LetV.mk (.ptr _ _ _ _) rfl ?_ | refine LetV.mk (.clo _ _ _) rfl ?_ | refine LetV.mk (.rp _ _) rfl ?_) | (refine LetI.pre ?_; first | refine LetI.wrap (by omega) (by omega) ?_ | refine LetI.mk _ rfl ?_) | (refine LetB.pre ?_; first | refine LetB.tt rfl ?_ | refine LetB.ff rfl ?_ | refine LetB.tt (by assumption) ?_ | refine LetB.ff (by assumption) ?_ | refine LetB.dect (by omega) ?_ | refine LetB.decf (by omega) ?_ | refine LetB.beqt (by omega) ?_ | refine LetB.beqf (by omega) ?_ | refine LetB.bnet (by omega) ?_ | refine LetB.bnef (by omega) ?_ | refine LetB.mk _ rfl ?_) | (refine Gd.pre ?_; first | refine Gd.run rfl ?_ | refine Gd.pass rfl ?_ | refine Gd.run (by assumption) ?_ | refine Gd.pass (by assumption) ?_ | (refine Gd.run ?_ ?_; · decide +kernel) | (refine Gd.pass ?_ ?_; · decide +kernel) | refine Gd.both ?_) | (refine Br.pre ?_; first | refine Br.tt rfl ?_ | refine Br.ff rfl ?_ | refine Br.tt (by assumption) ?_ | refine Br.ff (by assumption) ?_ | (refine Br.tt ?_ ?_; · decide +kernel) | (refine Br.ff ?_ ?_; · decide +kernel)) | (refine Ck.pre ?_; first | refine Ck.drawn (by kernel_rfl) ?_ | refine Ck.mk rfl ?_ | refine Ck.mk hc.call ?_) | (refine LetL.pre ?_; first | refine LetL.mk [_] rfl ?_ | refine LetL.mk _ rfl ?_) | (refine CallN.pre ?_; first | refine CallN.pure hck (hc.names e) rfl ?_) | refine forceAs.pass ?_ | refine forceEs.pass ?_ | refine forceC.pass ?_))); (try (conv => whnf)))



      exact ⟨.inl rfl, ⟨_, rfl, rfl⟩, trivial⟩
theorem ContainsE_f {c : Cd} (hc : c.Ok) (l : List E) (fl : Fl) (hl : l.length ≤ 100000) : AFun Tryd.prog 24 0 [.ro fl 15 (l.map en), c.av] [] (bool (l.any c.p)) [] := by
  refine AFun.of_W T_ok mixed Tryd.func24 rfl (Nat.le_of_ble_eq_true rfl) rfl ?_
  have hi := IndexE_f hc l fl hl
  have hk := fidx_nonneg (p := c.p) l 0
  generalize fidx c.p l 0 = r at hi hk
  have hb : decide (r ≥ 0) = l.any c.p := Bool.eq_iff_iff.2 (by simp only [decide_eq_true_eq]; exact hk)
  have hn : AV.namesL (fun _ => false) [.ro fl 15 (l.map en), c.av] = true := by
    simp only [AV.namesL, AV.names, hc.pure]; rfl
  ((repeat ((conv => whnf); (first | (refine LetN.pre ?_; first | ((conv => arg 1; whnf); refine LetN.mk ?_)) | (refine As.pre ?_; first | refine As.mk rfl ?_ | (refine As.mk ?_ ?_; · decide +kernel) | refine As.mk (andT (nor_self _) rfl) ?_ | refine As.mk (andT (nor_self _) (or_t _)) ?_ | refine As.mk (andT (or_t _) (or_nself _)) ?_ | refine As.mk (andT (or_t _) (or_t _)) ?_ | refine As.mk (andT (nor_self _) (andT (nor_self _) rfl)) ?_ | (refine As.mk ?_ ?_; · ((repeat' (refine andT ?_ ?_)) <;> (first | rfl | assumption | exact decide_eq_true (by omega) | exact decide_eq_true (by dsimp only; omega) | exact decide_eq_true (by simp; omega) | (simp; done))))) | (refine LetV.pre ?_; first | refine LetV.mk (.sc (.int _ _)) rfl ?_ | refine LetV.mk (.sc (.bool _)) rfl ?_ | refine LetV.mk (.sc _) rfl ?_ | refine LetV.mk (.agg _) rfl ?_ | refine LetV.mk (.slm _ _ _ _ _) rfl ?_ | refine LetV.mk (.ro _ _ _) rfl ?_ | refine LetV.mk (.ptr _ _ _ _) rfl ?_ | refine LetV.mk (.clo _ _ _) rfl ?_ | refine LetV.mk (.rp _ _) rfl ?_) | (refine LetI.pre ?_; first | refine LetI.wrap (by omega) (by omega) ?_ | refine LetI.mk _ rfl ?_) | (refine LetB.pre ?_; first | refine LetB.tt rfl ?_ | refine LetB.ff rfl ?_ | refine LetB.tt (by assumption) ?_ | refine LetB.ff (by assumption) ?_ | refine LetB.mk _ hb.symm ?_ | refine LetB.dect (by omega) ?_ | refine LetB.decf (by omega) ?_ | refine LetB.beqt (by omega) ?_ | refine LetB.beqf (by omega) ?_ | refine LetB.bnet (by omega) ?_ | refine LetB.bnef (by omega) ?_ | refine LetB.mk _ rfl ?_) | (refine Gd.pre ?_; first | refine Gd.run rfl ?_ | refine Gd.pass rfl ?_ | refine Gd.run (by assumption) ?_ | refine Gd.pass (by assumption) ?_ | (refine Gd.run ?_ ?_; · decide +kernel) | (refine Gd.pass ?_ ?_; · decide +kernel) | refine Gd.both ?_) | (refine Br.pre ?_; first | refine Br.tt rfl ?_ | refine Br.ff rfl ?_ | refine Br.tt (by assumption) ?_ | refine Br.ff (by assumption) ?_ | (refine Br.tt ?_ ?_; · decide +kernel) | (refine Br.ff ?_ ?_; · decide +kernel)) | (refine Ck.pre ?_; first | refine Ck.drawn (by kernel_rfl) ?_ | refine Ck.mk rfl ?_) | (refine LetL.pre ?_; first | refine LetL.mk [_] rfl ?_ | refine LetL.mk _ rfl ?_) | (refine CallN.pre ?_; first | refine CallN.pure hi hn rfl ?_) | refine forceAs.pass ?_ | refine forceEs.pass ?_ | refine forceC.pass ?_))); (try (conv => whnf)))


  exact ⟨.inl rfl, ⟨_, rfl, rfl⟩, trivial⟩
theorem check1_f (x e : E) : AFun Tryd.prog 36 0 [en x, .rp (en e) 0] [] (bool (decide (x.id = e.id))) [] := by
  refine AFun.of_W T_ok mixed Tryd.func36 rfl (Nat.le_of_ble_eq_true rfl) rfl ?_
  repeat' ((conv => whnf); (first | (refine LetN.pre ?_; first | ((conv => arg 1; whnf); refine LetN.mk ?_)) | (refine As.pre ?_; first | refine As.mk rfl ?_ | (refine As.mk ?_ ?_; · decide +kernel) | refine As.mk (andT (nor_self _) rfl) ?_ | refine As.mk (andT (nor_self _) (or_t _)) ?_ | refine As.mk (andT (or_t _) (or_nself _)) ?_ | refine As.mk (andT (or_t _) (or_t _)) ?_ | refine As.mk (andT (nor_self _) (andT (nor_self _) rfl)) ?_ | (refine As.mk ?_ ?_; · ((repeat' (refine andT ?_ ?_)) <;> (first | rfl | assumption | exact decide_eq_true (by omega) | exact decide_eq_true (by dsimp only; omega) | exact decide_eq_true (by simp; omega) | (simp; done))))) | (refine LetV.pre ?_; first | refine LetV.mk (.sc (.int _ _)) rfl ?_ | refine LetV.mk (.sc (.bool _)) rfl ?_ | refine LetV.mk (.sc _) rfl ?_ | refine LetV.mk (.agg _) rfl ?_ | refine LetV.mk (.slm _ _ _ _ _) rfl ?_ | refine LetV.mk (.ro _ _ _) rfl ?_ | refine LetV.mk (.ptr _ _ _ _) rfl ?_ | refine LetV.mk (.clo _ _ _) rfl ?_ | refine LetV.mk (.rp _ _) rfl ?_) | (refine LetI.pre ?_; first | refine LetI.wrap (by omega) (by omega) ?_ | refine LetI.mk _ rfl ?_) | (refine LetB.pre ?_; first | refine LetB.tt rfl ?_ | refine LetB.ff rfl ?_ | refine LetB.tt (by assumption) ?_ | refine LetB.ff (by assumption) ?_ | refine LetB.dect (by omega) ?_ | refine LetB.decf (by omega) ?_ | refine LetB.beqt (by omega) ?_ | refine LetB.beqf (by omega) ?_ | refine LetB.bnet (by omega) ?_ | refine LetB.bnef (by omega) ?_ | (refine LetB.dec (fun _ => ?_) (fun _ => ?_)) | (refine LetB.beq (fun _ => ?_) (fun _ => ?_)) | (refine LetB.bne (fun _ => ?_) (fun _ => ?_)) | refine LetB.mk _ rfl ?_) | (refine Gd.pre ?_; first | refine Gd.run rfl ?_ | refine Gd.pass rfl ?_ | refine Gd.run (by assumption) ?_ | refine Gd.pass (by assumption) ?_ | (refine Gd.run ?_ ?_; · decide +kernel) | (refine Gd.pass ?_ ?_; · decide +kernel) | refine Gd.both ?_) | (refine Br.pre ?_; first | refine Br.tt rfl ?_ | refine Br.ff rfl ?_ | refine Br.tt (by assumption) ?_ | refine Br.ff (by assumption) ?_ | (refine Br.tt ?_ ?_; · decide +kernel) | (refine Br.ff ?_ ?_; · decide +kernel)) | (refine Ck.pre ?_; first | refine Ck.drawn (by kernel_rfl) ?_ | refine Ck.mk rfl ?_) | (refine LetL.pre ?_; first | refine LetL.mk [_] rfl ?_ | refine LetL.mk _ rfl ?_) | refine forceAs.pass ?_ | refine forceEs.pass ?_ | refine forceC.pass ?_))
  all_goals (refine ⟨by first | exact .inl rfl | exact .inr rfl, ⟨_, rfl, congrArg (fun b => Go.Proofs.YtgnakhljdjekbaaDoor.Am.AV.sc (Go.Value.bool b)) (by first | exact (decide_eq_true (by omega)).symm | exact (decide_eq_false (by omega)).symm | exact Bool.eq_iff_iff.2 (by simp only [decide_eq_true_eq, decide_eq_false_iff_not]; omega) | rfl)⟩, trivial⟩)
theorem check2_f (x e : E) (kd : Int) : AFun Tryd.prog 38 0 [en x, .rp (en e) 0, .rp (int kd) 0] [] (bool (decide (x.id = e.ref ∧ x.kind = kd ∧ x.student = e.student))) [] := by
  refine AFun.of_W T_ok mixed Tryd.func38 rfl (Nat.le_of_ble_eq_true rfl) rfl ?_
  repeat' ((conv => whnf); (first | (refine LetN.pre ?_; first | ((conv => arg 1; whnf); refine LetN.mk ?_)) | (refine As.pre ?_; first | refine As.mk rfl ?_ | (refine As.mk ?_ ?_; · decide +kernel) | refine As.mk (andT (nor_self _) rfl) ?_ | refine As.mk (andT (nor_self _) (or_t _)) ?_ | refine As.mk (andT (or_t _) (or_nself _)) ?_ | refine As.mk (andT (or_t _) (or_t _)) ?_ | refine As.mk (andT (nor_self _) (andT (nor_self _) rfl)) ?_ | (refine As.mk ?_ ?_; · ((repeat' (refine andT ?_ ?_)) <;> (first | rfl | assumption | exact decide_eq_true (by omega) | exact decide_eq_true (by dsimp only; omega) | exact decide_eq_true (by simp; omega) | (simp; done))))) | (refine LetV.pre ?_; first | refine LetV.mk (.sc (.int _ _)) rfl ?_ | refine LetV.mk (.sc (.bool _)) rfl ?_ | refine LetV.mk (.sc _) rfl ?_ | refine LetV.mk (.agg _) rfl ?_ | refine LetV.mk (.slm _ _ _ _ _) rfl ?_ | refine LetV.mk (.ro _ _ _) rfl ?_ | refine LetV.mk (.ptr _ _ _ _) rfl ?_ | refine LetV.mk (.clo _ _ _) rfl ?_ | refine LetV.mk (.rp _ _) rfl ?_) | (refine LetI.pre ?_; first | refine LetI.wrap (by omega) (by omega) ?_ | refine LetI.mk _ rfl ?_) | (refine LetB.pre ?_; first | refine LetB.tt rfl ?_ | refine LetB.ff rfl ?_ | refine LetB.tt (by assumption) ?_ | refine LetB.ff (by assumption) ?_ | refine LetB.dect (by omega) ?_ | refine LetB.decf (by omega) ?_ | refine LetB.beqt (by omega) ?_ | refine LetB.beqf (by omega) ?_ | refine LetB.bnet (by omega) ?_ | refine LetB.bnef (by omega) ?_ | (refine LetB.dec (fun _ => ?_) (fun _ => ?_)) | (refine LetB.beq (fun _ => ?_) (fun _ => ?_)) | (refine LetB.bne (fun _ => ?_) (fun _ => ?_)) | refine LetB.mk _ rfl ?_) | (refine Gd.pre ?_; first | refine Gd.run rfl ?_ | refine Gd.pass rfl ?_ | refine Gd.run (by assumption) ?_ | refine Gd.pass (by assumption) ?_ | (refine Gd.run ?_ ?_; · decide +kernel) | (refine Gd.pass ?_ ?_; · decide +kernel) | refine Gd.both ?_) | (refine Br.pre ?_; first | refine Br.tt rfl ?_ | refine Br.ff rfl ?_ | refine Br.tt (by assumption) ?_ | refine Br.ff (by assumption) ?_ | (refine Br.tt ?_ ?_; · decide +kernel) | (refine Br.ff ?_ ?_; · decide +kernel)) | (refine Ck.pre ?_; first | refine Ck.drawn (by kernel_rfl) ?_ | refine Ck.mk rfl ?_) | (refine LetL.pre ?_; first | refine LetL.mk [_] rfl ?_ | refine LetL.mk _ rfl ?_) | refine forceAs.pass ?_ | refine forceEs.pass ?_ | refine forceC.pass ?_))
  all_goals (refine ⟨by first | exact .inl rfl | exact .inr rfl, ⟨_, rfl, congrArg (fun b => Go.Proofs.YtgnakhljdjekbaaDoor.Am.AV.sc (Go.Value.bool b)) (by first | exact (decide_eq_true (by omega)).symm | exact (decide_eq_false (by omega)).symm | exact Bool.eq_iff_iff.2 (by simp only [decide_eq_true_eq, decide_eq_false_iff_not]; omega) | rfl)⟩, trivial⟩)
abbrev cSame (e : E) : Cd := ⟨36, [.rp (en e) 0], fun x => decide (x.id = e.id)⟩
abbrev cRef (e : E) (kd : Int) : Cd := ⟨38, [.rp (en e) 0, .rp (int kd) 0], fun x => decide (x.id = e.ref ∧ x.kind = kd ∧ x.student = e.student)⟩
theorem cSame_ok (e : E) : (cSame e).Ok := ⟨fun x => check1_f x e, by kernel_rfl, rfl⟩
theorem cRef_ok (e : E) (kd : Int) : (cRef e kd).Ok := ⟨fun x => check2_f x e kd, by kernel_rfl, rfl⟩
theorem targets_f : AFun Tryd.prog 37 0 [] [] (.mp 0) [(0, .map 4 [(.int .i64 4, int 3), (.int .i64 5, int 3), (.int .i64 6, int 5), (.int .i64 9, int 8)])] :=
  AFun.of_evF T_ok mixed 20 0 [] [(0, some (.map 4 [(.int .i64 4, int 3), (.int .i64 5, int 3), (.int .i64 6, int 5), (.int .i64 9, int 8)]))] (by kernel_rfl) rfl rfl
def tgt (k : Int) : Int := if k = 4 ∨ k = 5 then 3 else if k = 6 then 5 else if k = 9 then 8 else 0
end En
end Go.Proofs.YtgnakhljdjekbaaDoor
namespace Go.Proofs.YtgnakhljdjekbaaDoor
open Go.Proofs.YtgnakhljdjekbaaDoor.Am
set_option maxRecDepth 100000
namespace En
open Classical
noncomputable def oneE (b : List E) (e : E) : Int :=
  if entE e ≠ 0 then entE e
  else if b ≠ [] ∧ (b.getD 0 e0).school ≠ e.school then 22
  else if b.any (fun x => decide (x.id = e.id)) = true then 6
  else if b ≠ [] ∧ e.day < (b.getD (b.length - 1) e0).day then 7
  else if tgt e.kind = 0 then 0
  else if fidx (cRef e (tgt e.kind)).p b 0 < 0 then 21
  else if e.on_ < (b.getD (fidx (cRef e (tgt e.kind)).p b 0).toNat e0).on_ then 23
  else 0
theorem entE_kind {e : E} (h : entE e = 0) : 1 ≤ e.kind ∧ e.kind ≤ 9 := by
  unfold entE entX at h
  split at h
  · cases h
  · split at h
    · cases h
    · rename_i h2
      omega
theorem key_int {n : Int} (h : -9223372036854775808 ≤ n ∧ n ≤ 9223372036854775807) : keyB Tryd.prog 3 (.int .i64 n) = true := by
  have hu : Tryd.prog.underlying 3 = some (.int .i64) := TT.Ok.int T_ok (t := 3) rfl rfl
  have hw : (Lit.int .i64 n).wf = true := by
    simp only [Lit.wf, Bool.and_eq_true, decide_eq_true_eq]
    exact h
  unfold keyB keyOf
  simp [hu, mapKey, hw]
theorem fidx_range {α : Type} (p : α → Bool) : ∀ (l : List α) (k : Nat), fidx p l k < (k + l.length : Nat) ∧ -1 ≤ fidx p l k
  | [], k => by simp only [fidx]; omega
  | a :: l, k => by
    unfold fidx
    have := fidx_range p l (k + 1)
    simp only [List.length_cons]
    split <;> omega
abbrev tkv : List (Value × AV) := [(.int .i64 4, int 3), (.int .i64 5, int 3), (.int .i64 6, int 5), (.int .i64 9, int 8)]
theorem tgt_none {k : Int} (h : tgt k = 0) : findOk tkv (.int .i64 k) none := by
  intro x hx
  unfold tgt at h
  simp only [List.mem_cons, List.not_mem_nil, or_false] at hx
  rcases hx with rfl | rfl | rfl | rfl <;>
    (intro he
     simp only [Value.int.injEq, true_and] at he
     subst he
     simp at h)
theorem tgt_some {k : Int} (h : tgt k ≠ 0) : ∃ ix, findOk tkv (.int .i64 k) (some ix) ∧ (AV.tup [int (tgt k), .sc (.bool true)]) = .tup [kvAt tkv ix, .sc (.bool true)] := by
  unfold tgt at h ⊢
  by_cases h4 : k = 4
  · subst h4; exact ⟨0, ⟨int 3, rfl⟩, rfl⟩
  by_cases h5 : k = 5
  · subst h5; exact ⟨1, ⟨int 3, rfl⟩, rfl⟩
  by_cases h6 : k = 6
  · subst h6; exact ⟨2, ⟨int 5, rfl⟩, rfl⟩
  by_cases h9 : k = 9
  · subst h9; exact ⟨3, ⟨int 8, rfl⟩, rfl⟩
  · exfalso
    rw [if_neg (by omega), if_neg (by omega), if_neg (by omega)] at h
    exact h rfl
theorem key_kind {k : Int} (h : 1 ≤ k ∧ k ≤ 9) : (keyB Tryd.prog 3 (.int .i64 k) && tkv.all fun x => keyB Tryd.prog 3 x.1) = true := by
  simp only [List.all_cons, List.all_nil, Bool.and_true, Bool.and_eq_true]
  exact ⟨key_int (by omega), key_int (by omega), key_int (by omega), key_int (by omega), key_int (by omega)⟩
theorem one_tail {b : List E} {e : E} (h0 : entE e = 0) (h1 : ¬ (b ≠ [] ∧ (b.getD 0 e0).school ≠ e.school)) (h2 : b.any (fun x => decide (x.id = e.id)) = false) (h3 : ¬ (b ≠ [] ∧ e.day < (b.getD (b.length - 1) e0).day)) :
    oneE b e = if tgt e.kind = 0 then 0 else if fidx (cRef e (tgt e.kind)).p b 0 < 0 then 21 else if e.on_ < (b.getD (fidx (cRef e (tgt e.kind)).p b 0).toNat e0).on_ then 23 else 0 := by
  unfold oneE
  rw [if_neg (by rw [h0]; simp), if_neg h1, if_neg (by rw [h2]; simp), if_neg h3]
set_option maxHeartbeats 3200000 in
set_option maxRecDepth 100000 in
theorem check_f (b : List E) (e : E) (fl : Fl) (hl : b.length ≤ 100000) : AFun Tryd.prog 26 0 [en e, .ro fl 15 (b.map en)] [] (int (oneE b e)) [] := by
  have hC := Check_f e
  refine AFun.of_W T_ok mixed Tryd.func26 rfl (Nat.le_of_ble_eq_true rfl) rfl ?_
  by_cases hE : entE e = 0
  case neg =>
    rw [show oneE b e = entE e from if_pos hE]
    generalize entE e = z at hC hE ⊢
    ((repeat ((conv => whnf); (first | (refine LetN.pre ?_; first | ((conv => arg 1; whnf); refine LetN.mk ?_)) | (refine As.pre ?_; first | refine As.mk rfl ?_) | (refine LetV.pre ?_; first | refine LetV.mk (.agg _) rfl ?_) | (refine LetB.pre ?_; first | refine LetB.bnet (by omega) ?_) | (refine Br.pre ?_; first | refine Br.tt rfl ?_) | (refine Ck.pre ?_; first | refine Ck.mk rfl ?_) | (refine CallN.pre ?_; first | refine CallN.pure hC rfl rfl ?_)))); (try (conv => whnf)))

    exact ⟨.inl rfl, ⟨_, rfl, rfl⟩, trivial⟩
  have hky := key_kind (entE_kind hE)
  have hm : (b.map en).length = b.length := List.length_map _
  rw [hE] at hC
  by_cases hb : b.length = 0
  case pos =>
    have hbn : b = [] := List.length_eq_zero_iff.1 hb
    have hs : ¬ (b ≠ [] ∧ (b.getD 0 e0).school ≠ e.school) := fun h => h.1 hbn
    have ha : b.any (fun x => decide (x.id = e.id)) = false := by rw [hbn]; rfl
    have hd : ¬ (b ≠ [] ∧ e.day < (b.getD (b.length - 1) e0).day) := fun h => h.1 hbn
    by_cases ht : tgt e.kind = 0
    case pos =>
      have hno : findOk tkv (.int .i64 e.kind) none := tgt_none ht
      ((repeat ((conv => whnf); (first | (refine LetN.pre ?_; first | ((conv => arg 1; whnf); refine LetN.mk ?_)) | (refine As.pre ?_; first | refine As.mk rfl ?_ | refine As.mk hky ?_) | (refine LetV.pre ?_; first | refine LetV.mk (t := 84) (.tup [int 0, .sc (.bool false)]) rfl ?_ | refine LetV.mk (.sc (.int _ _)) rfl ?_ | refine LetV.mk (.agg _) rfl ?_) | (refine LetI.pre ?_; first | refine LetI.mk _ rfl ?_) | (refine LetB.pre ?_; first | refine LetB.ff rfl ?_ | refine LetB.decf (by omega) ?_) | (refine Br.pre ?_; first | refine Br.tt rfl ?_ | refine Br.ff rfl ?_) | (refine Ck.pre ?_; first | refine Ck.drawn (by kernel_rfl) ?_ | refine Ck.mk rfl ?_) | (refine LetL.pre ?_; first | refine LetL.mk [_] rfl ?_) | (refine CallN.pre ?_; first | refine CallN.pure hC rfl rfl ?_ | refine CallN.own (fun _ => 7) targets_f (CallOk.mk' rfl rfl rfl rfl rfl rfl trivial) ?_) | (refine FindN.mk none hno ?_)))); (try (conv => whnf)))





      exact ⟨.inl rfl, ⟨_, rfl, congrArg int ((one_tail hE hs ha hd).trans (if_pos ht)).symm⟩, trivial⟩
    obtain ⟨ix, hfi, hkv⟩ := tgt_some ht
    rw [one_tail hE hs ha hd, if_neg ht]
    generalize hkd : tgt e.kind = kd at hkv
    have hI := fun kd => IndexE_f (cRef_ok e kd) b fl hl
    replace hI := hI kd
    have hrr := fidx_range (cRef e kd).p b 0
    generalize fidx (cRef e kd).p b 0 = r at hI hrr ⊢
    have hr : r < 0 := by omega
    ((repeat ((conv => whnf); (first | (refine LetN.pre ?_; first | ((conv => arg 1; whnf); refine LetN.mk ?_)) | (refine As.pre ?_; first | refine As.mk rfl ?_ | refine As.mk hky ?_) | (refine LetV.pre ?_; first | refine LetV.mk (t := 84) (.tup [int kd, .sc (.bool true)]) hkv ?_ | refine LetV.mk (.sc (.int _ _)) rfl ?_ | refine LetV.mk (.agg _) rfl ?_) | (refine LetI.pre ?_; first | refine LetI.mk _ rfl ?_) | (refine LetB.pre ?_; first | refine LetB.ff rfl ?_ | refine LetB.dect (by omega) ?_ | refine LetB.decf (by omega) ?_) | (refine Br.pre ?_; first | refine Br.tt rfl ?_ | refine Br.ff rfl ?_) | (refine Ck.pre ?_; first | refine Ck.drawn (by kernel_rfl) ?_ | refine Ck.mk rfl ?_) | (refine LetL.pre ?_; first | refine LetL.mk [_] rfl ?_) | (refine CallN.pre ?_; first | refine CallN.pure hC rfl rfl ?_ | refine CallN.own (fun _ => 7) targets_f (CallOk.mk' rfl rfl rfl rfl rfl rfl trivial) ?_ | refine CallN.lend hI rfl (.same rfl (.clo (.ptr rfl rfl rfl (.ptr rfl rfl rfl .nil)) .nil)) ?_) | (refine FindN.mk (some ix) hfi ?_)))); (try (conv => whnf)))






    exact ⟨.inl rfl, ⟨_, rfl, congrArg int (if_pos hr).symm⟩, trivial⟩
  have hbn : b ≠ [] := fun h => hb (by rw [h]; rfl)
  have hld0 : en (b.getD 0 e0) = (b.map en).getD 0 (.sc undef) := mapD e0 (by omega)
  have hldl : en (b.getD (b.length - 1) e0) = (b.map en).getD (b.length - 1) (.sc undef) := mapD e0 (by omega)
  have hsub : ((b.length - 1 : Nat) : Int) = IntKind.i64.wrap (((b.map en).length : Int) - 1) := by
    rw [hm, wrap_id (by omega) (by omega)]; omega
  have hA := ContainsE_f (cSame_ok e) b fl hl
  simp only at hA
  by_cases s1 : (b.getD 0 e0).school ≠ e.school
  case pos =>
    rw [show oneE b e = 22 from (if_neg (by rw [hE]; simp)).trans (if_pos ⟨hbn, s1⟩)]
    generalize b.getD 0 e0 = x0 at hld0 s1
    ((repeat ((conv => whnf); (first | (refine LetN.pre ?_; first | ((conv => arg 1; whnf); refine LetN.mk ?_)) | (refine As.pre ?_; first | refine As.mk rfl ?_ | (refine As.mk ?_ ?_; · ((repeat' (refine andT ?_ ?_)) <;> (first | rfl | assumption | exact decide_eq_true (by omega) | exact decide_eq_true (by dsimp only; omega) | exact decide_eq_true (by simp; omega) | (simp; done))))) | (refine LetV.pre ?_; first | refine LetV.mk (t := 44) _ hld0 ?_ | refine LetV.mk (.sc (.int _ _)) rfl ?_ | refine LetV.mk (.agg _) rfl ?_) | (refine LetI.pre ?_; first | refine LetI.mk _ rfl ?_) | (refine LetB.pre ?_; first | refine LetB.ff rfl ?_ | refine LetB.dect (by omega) ?_ | refine LetB.bnet (by omega) ?_) | (refine Br.pre ?_; first | refine Br.tt rfl ?_ | refine Br.ff rfl ?_) | (refine Ck.pre ?_; first | refine Ck.drawn (by kernel_rfl) ?_ | refine Ck.mk rfl ?_) | (refine CallN.pre ?_; first | refine CallN.pure hC rfl rfl ?_)))); (try (conv => whnf)))


    exact ⟨.inl rfl, ⟨_, rfl, rfl⟩, trivial⟩
  have hs : ¬ (b ≠ [] ∧ (b.getD 0 e0).school ≠ e.school) := fun h => s1 h.2
  cases ha : b.any (fun x => decide (x.id = e.id)) with
  | true =>
    rw [show oneE b e = 6 from (if_neg (by rw [hE]; simp)).trans ((if_neg hs).trans (if_pos ha))]
    rw [ha] at hA
    clear hs
    generalize b.getD 0 e0 = x0 at hld0 s1
    replace s1 : x0.school = e.school := Classical.not_not.1 s1
    ((repeat ((conv => whnf); (first | (refine LetN.pre ?_; first | ((conv => arg 1; whnf); refine LetN.mk ?_)) | (refine As.pre ?_; first | refine As.mk rfl ?_ | (refine As.mk ?_ ?_; · ((repeat' (refine andT ?_ ?_)) <;> (first | rfl | assumption | exact decide_eq_true (by omega) | exact decide_eq_true (by dsimp only; omega) | exact decide_eq_true (by simp; omega) | (simp; done))))) | (refine LetV.pre ?_; first | refine LetV.mk (t := 44) _ hld0 ?_ | refine LetV.mk (.sc (.int _ _)) rfl ?_ | refine LetV.mk (.agg _) rfl ?_) | (refine LetI.pre ?_; first | refine LetI.mk _ rfl ?_) | (refine LetB.pre ?_; first | refine LetB.ff rfl ?_ | refine LetB.dect (by omega) ?_ | refine LetB.bnef (by omega) ?_) | (refine Br.pre ?_; first | refine Br.tt rfl ?_ | refine Br.ff rfl ?_) | (refine Ck.pre ?_; first | refine Ck.drawn (by kernel_rfl) ?_ | refine Ck.mk rfl ?_) | (refine CallN.pre ?_; first | refine CallN.pure hC rfl rfl ?_ | refine CallN.lend hA rfl (.same rfl (.clo (.ptr rfl rfl rfl .nil) .nil)) ?_)))); (try (conv => whnf)))



    exact ⟨.inl rfl, ⟨_, rfl, rfl⟩, trivial⟩
  | false =>
    rw [ha] at hA
    by_cases s2 : e.day < (b.getD (b.length - 1) e0).day
    case pos =>
      rw [show oneE b e = 7 from (if_neg (by rw [hE]; simp)).trans ((if_neg hs).trans ((if_neg (by rw [ha]; simp)).trans (if_pos ⟨hbn, s2⟩)))]
      clear hs
      generalize b.getD 0 e0 = x0 at hld0 s1
      generalize b.getD (b.length - 1) e0 = xl at hldl s2
      replace s1 : x0.school = e.school := Classical.not_not.1 s1
      ((repeat ((conv => whnf); (first | (refine LetN.pre ?_; first | ((conv => arg 1; whnf); refine LetN.mk ?_)) | (refine As.pre ?_; first | refine As.mk rfl ?_ | (refine As.mk ?_ ?_; · ((repeat' (refine andT ?_ ?_)) <;> (first | rfl | assumption | exact decide_eq_true (by omega) | exact decide_eq_true (by dsimp only; omega) | exact decide_eq_true (by simp; omega) | (simp; done))))) | (refine LetV.pre ?_; first | refine LetV.mk (t := 44) _ hld0 ?_ | refine LetV.mk (t := 44) _ hldl ?_ | refine LetV.mk (.sc (.int _ _)) rfl ?_ | refine LetV.mk (.agg _) rfl ?_) | (refine LetI.pre ?_; first | refine LetI.mk (o := some .sub) ((b.length - 1 : Nat) : Int) hsub ?_ | refine LetI.mk _ rfl ?_) | (refine LetB.pre ?_; first | refine LetB.ff rfl ?_ | refine LetB.dect (by omega) ?_ | refine LetB.bnef (by omega) ?_) | (refine Br.pre ?_; first | refine Br.tt rfl ?_ | refine Br.ff rfl ?_) | (refine Ck.pre ?_; first | refine Ck.drawn (by kernel_rfl) ?_ | refine Ck.mk rfl ?_) | (refine CallN.pre ?_; first | refine CallN.pure hC rfl rfl ?_ | refine CallN.lend hA rfl (.same rfl (.clo (.ptr rfl rfl rfl .nil) .nil)) ?_)))); (try (conv => whnf)))





      exact ⟨.inl rfl, ⟨_, rfl, rfl⟩, trivial⟩
    have hd : ¬ (b ≠ [] ∧ e.day < (b.getD (b.length - 1) e0).day) := fun h => s2 h.2
    have s1' : (b.getD 0 e0).school = e.school := Classical.not_not.1 s1
    clear s1
    by_cases ht : tgt e.kind = 0
    case pos =>
      have hno : findOk tkv (.int .i64 e.kind) none := tgt_none ht
      ((repeat ((conv => whnf); (first | (refine LetN.pre ?_; first | ((conv => arg 1; whnf); refine LetN.mk ?_)) | (refine As.pre ?_; first | refine As.mk rfl ?_ | refine As.mk hky ?_ | (refine As.mk ?_ ?_; · ((repeat' (refine andT ?_ ?_)) <;> (first | rfl | assumption | exact decide_eq_true (by omega) | exact decide_eq_true (by dsimp only; omega) | exact decide_eq_true (by simp; omega) | (simp; done))))) | (refine LetV.pre ?_; first | refine LetV.mk (t := 44) _ hld0 ?_ | refine LetV.mk (t := 44) _ hldl ?_ | refine LetV.mk (t := 84) (.tup [int 0, .sc (.bool false)]) rfl ?_ | refine LetV.mk (.sc (.int _ _)) rfl ?_ | refine LetV.mk (.agg _) rfl ?_) | (refine LetI.pre ?_; first | refine LetI.mk (o := some .sub) ((b.length - 1 : Nat) : Int) hsub ?_ | refine LetI.mk _ rfl ?_) | (refine LetB.pre ?_; first | refine LetB.ff rfl ?_ | refine LetB.dect (by omega) ?_ | refine LetB.decf (by omega) ?_ | refine LetB.bnef (by omega) ?_) | (refine Br.pre ?_; first | refine Br.tt rfl ?_ | refine Br.ff rfl ?_) | (refine Ck.pre ?_; first | refine Ck.drawn (by kernel_rfl) ?_ | refine Ck.mk rfl ?_) | (refine LetL.pre ?_; first | refine LetL.mk [_] rfl ?_) | (refine CallN.pre ?_; first | refine CallN.pure hC rfl rfl ?_ | refine CallN.own (fun _ => 7) targets_f (CallOk.mk' rfl rfl rfl rfl rfl rfl trivial) ?_ | refine CallN.lend hA rfl (.same rfl (.clo (.ptr rfl rfl rfl .nil) .nil)) ?_) | (refine FindN.mk none hno ?_)))); (try (conv => whnf)))









      exact ⟨.inl rfl, ⟨_, rfl, congrArg int ((one_tail hE hs ha hd).trans (if_pos ht)).symm⟩, trivial⟩
    obtain ⟨ix, hfi, hkv⟩ := tgt_some ht
    rw [one_tail hE hs ha hd, if_neg ht]
    generalize hkd : tgt e.kind = kd at hkv
    have hI := fun kd => IndexE_f (cRef_ok e kd) b fl hl
    replace hI := hI kd
    have hrr := fidx_range (cRef e kd).p b 0
    generalize fidx (cRef e kd).p b 0 = r at hI hrr ⊢
    by_cases hr : r < 0
    case pos =>
      ((repeat ((conv => whnf); (first | (refine LetN.pre ?_; first | ((conv => arg 1; whnf); refine LetN.mk ?_)) | (refine As.pre ?_; first | refine As.mk rfl ?_ | refine As.mk hky ?_ | (refine As.mk ?_ ?_; · ((repeat' (refine andT ?_ ?_)) <;> (first | rfl | assumption | exact decide_eq_true (by omega) | exact decide_eq_true (by dsimp only; omega) | exact decide_eq_true (by simp; omega) | (simp; done))))) | (refine LetV.pre ?_; first | refine LetV.mk (t := 44) _ hld0 ?_ | refine LetV.mk (t := 44) _ hldl ?_ | refine LetV.mk (t := 84) (.tup [int kd, .sc (.bool true)]) hkv ?_ | refine LetV.mk (.sc (.int _ _)) rfl ?_ | refine LetV.mk (.agg _) rfl ?_) | (refine LetI.pre ?_; first | refine LetI.mk (o := some .sub) ((b.length - 1 : Nat) : Int) hsub ?_ | refine LetI.mk _ rfl ?_) | (refine LetB.pre ?_; first | refine LetB.ff rfl ?_ | refine LetB.dect (by omega) ?_ | refine LetB.decf (by omega) ?_ | refine LetB.bnef (by omega) ?_) | (refine Br.pre ?_; first | refine Br.tt rfl ?_ | refine Br.ff rfl ?_) | (refine Ck.pre ?_; first | refine Ck.drawn (by kernel_rfl) ?_ | refine Ck.mk rfl ?_) | (refine LetL.pre ?_; first | refine LetL.mk [_] rfl ?_) | (refine CallN.pre ?_; first | refine CallN.pure hC rfl rfl ?_ | refine CallN.own (fun _ => 7) targets_f (CallOk.mk' rfl rfl rfl rfl rfl rfl trivial) ?_ | refine CallN.lend hA rfl (.same rfl (.clo (.ptr rfl rfl rfl .nil) .nil)) ?_ | refine CallN.lend hI rfl (.same rfl (.clo (.ptr rfl rfl rfl (.ptr rfl rfl rfl .nil)) .nil)) ?_) | (refine FindN.mk (some ix) hfi ?_)))); (try (conv => whnf)))










      exact ⟨.inl rfl, ⟨_, rfl, congrArg int (if_pos hr).symm⟩, trivial⟩
    have hrl : r.toNat < b.length := by omega
    have hldi : en (b.getD r.toNat e0) = (b.map en).getD r.toNat (.sc undef) := mapD e0 hrl
    generalize hxi : b.getD r.toNat e0 = xi at hldi ⊢
    by_cases ho : e.on_ < xi.on_
    case pos =>
      ((repeat ((conv => whnf); (first | (refine LetN.pre ?_; first | ((conv => arg 1; whnf); refine LetN.mk ?_)) | (refine As.pre ?_; first | refine As.mk rfl ?_ | refine As.mk hky ?_ | (refine As.mk ?_ ?_; · ((repeat' (refine andT ?_ ?_)) <;> (first | rfl | assumption | exact decide_eq_true (by omega) | exact decide_eq_true (by dsimp only; omega) | exact decide_eq_true (by simp; omega) | (simp; done))))) | (refine LetV.pre ?_; first | refine LetV.mk (t := 44) _ hld0 ?_ | refine LetV.mk (t := 44) _ hldl ?_ | refine LetV.mk (t := 44) _ hldi ?_ | refine LetV.mk (t := 84) (.tup [int kd, .sc (.bool true)]) hkv ?_ | refine LetV.mk (.sc (.int _ _)) rfl ?_ | refine LetV.mk (.agg _) rfl ?_) | (refine LetI.pre ?_; first | refine LetI.mk (o := some .sub) ((b.length - 1 : Nat) : Int) hsub ?_ | refine LetI.mk _ rfl ?_) | (refine LetB.pre ?_; first | refine LetB.ff rfl ?_ | refine LetB.dect (by omega) ?_ | refine LetB.decf (by omega) ?_ | refine LetB.bnef (by omega) ?_) | (refine Br.pre ?_; first | refine Br.tt rfl ?_ | refine Br.ff rfl ?_) | (refine Ck.pre ?_; first | refine Ck.drawn (by kernel_rfl) ?_ | refine Ck.mk rfl ?_) | (refine LetL.pre ?_; first | refine LetL.mk [_] rfl ?_) | (refine CallN.pre ?_; first | refine CallN.pure hC rfl rfl ?_ | refine CallN.own (fun _ => 7) targets_f (CallOk.mk' rfl rfl rfl rfl rfl rfl trivial) ?_ | refine CallN.lend hA rfl (.same rfl (.clo (.ptr rfl rfl rfl .nil) .nil)) ?_ | refine CallN.lend hI rfl (.same rfl (.clo (.ptr rfl rfl rfl (.ptr rfl rfl rfl .nil)) .nil)) ?_) | (refine FindN.mk (some ix) hfi ?_)))); (try (conv => whnf)))











      exact ⟨.inl rfl, ⟨_, rfl, congrArg int ((if_neg hr).trans (if_pos ho)).symm⟩, trivial⟩
    ((repeat ((conv => whnf); (first | (refine LetN.pre ?_; first | ((conv => arg 1; whnf); refine LetN.mk ?_)) | (refine As.pre ?_; first | refine As.mk rfl ?_ | refine As.mk hky ?_ | (refine As.mk ?_ ?_; · ((repeat' (refine andT ?_ ?_)) <;> (first | rfl | assumption | exact decide_eq_true (by omega) | exact decide_eq_true (by dsimp only; omega) | exact decide_eq_true (by simp; omega) | (simp; done))))) | (refine LetV.pre ?_; first | refine LetV.mk (t := 44) _ hld0 ?_ | refine LetV.mk (t := 44) _ hldl ?_ | refine LetV.mk (t := 44) _ hldi ?_ | refine LetV.mk (t := 84) (.tup [int kd, .sc (.bool true)]) hkv ?_ | refine LetV.mk (.sc (.int _ _)) rfl ?_ | refine LetV.mk (.agg _) rfl ?_) | (refine LetI.pre ?_; first | refine LetI.mk (o := some .sub) ((b.length - 1 : Nat) : Int) hsub ?_ | refine LetI.mk _ rfl ?_) | (refine LetB.pre ?_; first | refine LetB.ff rfl ?_ | refine LetB.dect (by omega) ?_ | refine LetB.decf (by omega) ?_ | refine LetB.bnef (by omega) ?_) | (refine Br.pre ?_; first | refine Br.tt rfl ?_ | refine Br.ff rfl ?_) | (refine Ck.pre ?_; first | refine Ck.drawn (by kernel_rfl) ?_ | refine Ck.mk rfl ?_) | (refine LetL.pre ?_; first | refine LetL.mk [_] rfl ?_) | (refine CallN.pre ?_; first | refine CallN.pure hC rfl rfl ?_ | refine CallN.own (fun _ => 7) targets_f (CallOk.mk' rfl rfl rfl rfl rfl rfl trivial) ?_ | refine CallN.lend hA rfl (.same rfl (.clo (.ptr rfl rfl rfl .nil) .nil)) ?_ | refine CallN.lend hI rfl (.same rfl (.clo (.ptr rfl rfl rfl (.ptr rfl rfl rfl .nil)) .nil)) ?_) | (refine FindN.mk (some ix) hfi ?_)))); (try (conv => whnf)))











    exact ⟨.inl rfl, ⟨_, rfl, congrArg int ((if_neg hr).trans (if_neg ho)).symm⟩, trivial⟩
end En
end Go.Proofs.YtgnakhljdjekbaaDoor
namespace Go.Proofs.YtgnakhljdjekbaaDoor
open Go.Proofs.YtgnakhljdjekbaaDoor.Am
set_option maxRecDepth 100000
namespace En
open Classical
/-- What Check says of entries. -/
noncomputable def chkL : List E → List E → Int
  | _, [] => 0
  | b, e :: r => if oneE b e = 0 then chkL (b ++ [e]) r else oneE b e
noncomputable def chkE (l : List E) : Int := if 2000 < l.length then 2 else chkL [] l
theorem chkL_step {l : List E} {k : Nat} (h : k < l.length) : chkL (l.take k) (l.drop k) = if oneE (l.take k) (l.getD k e0) = 0 then chkL (l.take (k + 1)) (l.drop (k + 1)) else oneE (l.take k) (l.getD k e0) := by
  rw [List.drop_eq_getElem_cons h, chkL, List.take_succ_eq_append_getElem h, List.getD_eq_getElem?_getD, List.getElem?_eq_getElem h]; rfl
theorem take_en2 (l : List E) (k : Nat) : ((l.map en).drop (0 : Int).toNat).take ((k : Int).toNat - (0 : Int).toNat) = (l.take k).map en := by
  simp [List.map_take]
theorem Check_l (l : List E) (fl : Fl) : AFun Tryd.prog 12 0 [.ro fl 15 (l.map en)] [] (int (chkE l)) [] := by
  refine AFun.of_W T_ok mixed Tryd.func12 rfl (Nat.le_of_ble_eq_true rfl) rfl ?_
  have hm : (l.map en).length = l.length := List.length_map _
  unfold chkE
  by_cases hlen : 2000 < l.length
  · rw [if_pos hlen]
    ((repeat ((conv => whnf); (first | (refine LetN.pre ?_; first | ((conv => arg 1; whnf); refine LetN.mk ?_)) | (refine As.pre ?_; first | refine As.mk rfl ?_ | (refine As.mk ?_ ?_; · decide +kernel) | refine As.mk (andT (nor_self _) rfl) ?_ | refine As.mk (andT (nor_self _) (or_t _)) ?_ | refine As.mk (andT (or_t _) (or_nself _)) ?_ | refine As.mk (andT (or_t _) (or_t _)) ?_ | refine As.mk (andT (nor_self _) (andT (nor_self _) rfl)) ?_ | (refine As.mk ?_ ?_; · ((repeat' (refine andT ?_ ?_)) <;> (first | rfl | assumption | exact decide_eq_true (by omega) | exact decide_eq_true (by dsimp only; omega) | exact decide_eq_true (by simp; omega) | (simp; done))))) | (refine LetV.pre ?_; first | refine LetV.mk (.sc (.int _ _)) rfl ?_ | refine LetV.mk (.sc (.bool _)) rfl ?_ | refine LetV.mk (.sc _) rfl ?_ | refine LetV.mk (.agg _) rfl ?_ | refine LetV.mk (.slm _ _ _ _ _) rfl ?_ | refine LetV.mk (.ro _ _ _) rfl ?_ | refine LetV.mk (.ptr _ _ _ _) rfl ?_ | refine LetV.mk (.clo _ _ _) rfl ?_ | refine LetV.mk (.rp _ _) rfl ?_) | (refine LetI.pre ?_; first | refine LetI.wrap (by omega) (by omega) ?_ | refine LetI.mk _ rfl ?_) | (refine LetB.pre ?_; first | refine LetB.tt rfl ?_ | refine LetB.ff rfl ?_ | refine LetB.tt (by assumption) ?_ | refine LetB.ff (by assumption) ?_ | refine LetB.dect (by omega) ?_ | refine LetB.decf (by omega) ?_ | refine LetB.beqt (by omega) ?_ | refine LetB.beqf (by omega) ?_ | refine LetB.bnet (by omega) ?_ | refine LetB.bnef (by omega) ?_ | refine LetB.mk _ rfl ?_) | (refine Gd.pre ?_; first | refine Gd.run rfl ?_ | refine Gd.pass rfl ?_ | refine Gd.run (by assumption) ?_ | refine Gd.pass (by assumption) ?_ | (refine Gd.run ?_ ?_; · decide +kernel) | (refine Gd.pass ?_ ?_; · decide +kernel) | refine Gd.both ?_) | (refine Br.pre ?_; first | refine Br.tt rfl ?_ | refine Br.ff rfl ?_ | refine Br.tt (by assumption) ?_ | refine Br.ff (by assumption) ?_ | (refine Br.tt ?_ ?_; · decide +kernel) | (refine Br.ff ?_ ?_; · decide +kernel)) | (refine Ck.pre ?_; first | refine Ck.drawn (by kernel_rfl) ?_ | refine Ck.mk rfl ?_) | (refine LetL.pre ?_; first | refine LetL.mk [_] rfl ?_ | refine LetL.mk _ rfl ?_) | refine forceAs.pass ?_ | refine forceEs.pass ?_ | refine forceC.pass ?_))); (try (conv => whnf)))
    exact ⟨.inl rfl, ⟨_, rfl, rfl⟩, trivial⟩
  rw [if_neg hlen]
  generalize hX : chkL [] l = X
  ((repeat ((conv => whnf); (first | (refine LetN.pre ?_; first | ((conv => arg 1; whnf); refine LetN.mk ?_)) | (refine As.pre ?_; first | refine As.mk rfl ?_ | (refine As.mk ?_ ?_; · decide +kernel) | refine As.mk (andT (nor_self _) rfl) ?_ | refine As.mk (andT (nor_self _) (or_t _)) ?_ | refine As.mk (andT (or_t _) (or_nself _)) ?_ | refine As.mk (andT (or_t _) (or_t _)) ?_ | refine As.mk (andT (nor_self _) (andT (nor_self _) rfl)) ?_ | (refine As.mk ?_ ?_; · ((repeat' (refine andT ?_ ?_)) <;> (first | rfl | assumption | exact decide_eq_true (by omega) | exact decide_eq_true (by dsimp only; omega) | exact decide_eq_true (by simp; omega) | (simp; done))))) | (refine LetV.pre ?_; first | refine LetV.mk (.sc (.int _ _)) rfl ?_ | refine LetV.mk (.sc (.bool _)) rfl ?_ | refine LetV.mk (.sc _) rfl ?_ | refine LetV.mk (.agg _) rfl ?_ | refine LetV.mk (.slm _ _ _ _ _) rfl ?_ | refine LetV.mk (.ro _ _ _) rfl ?_ | refine LetV.mk (.ptr _ _ _ _) rfl ?_ | refine LetV.mk (.clo _ _ _) rfl ?_ | refine LetV.mk (.rp _ _) rfl ?_) | (refine LetI.pre ?_; first | refine LetI.wrap (by omega) (by omega) ?_ | refine LetI.mk _ rfl ?_) | (refine LetB.pre ?_; first | refine LetB.tt rfl ?_ | refine LetB.ff rfl ?_ | refine LetB.tt (by assumption) ?_ | refine LetB.ff (by assumption) ?_ | refine LetB.dect (by omega) ?_ | refine LetB.decf (by omega) ?_ | refine LetB.beqt (by omega) ?_ | refine LetB.beqf (by omega) ?_ | refine LetB.bnet (by omega) ?_ | refine LetB.bnef (by omega) ?_ | refine LetB.mk _ rfl ?_) | (refine Gd.pre ?_; first | refine Gd.run rfl ?_ | refine Gd.pass rfl ?_ | refine Gd.run (by assumption) ?_ | refine Gd.pass (by assumption) ?_ | (refine Gd.run ?_ ?_; · decide +kernel) | (refine Gd.pass ?_ ?_; · decide +kernel) | refine Gd.both ?_) | (refine Br.pre ?_; first | refine Br.tt rfl ?_ | refine Br.ff rfl ?_ | refine Br.tt (by assumption) ?_ | refine Br.ff (by assumption) ?_ | (refine Br.tt ?_ ?_; · decide +kernel) | (refine Br.ff ?_ ?_; · decide +kernel)) | (refine Ck.pre ?_; first | refine Ck.drawn (by kernel_rfl) ?_ | refine Ck.mk rfl ?_) | (refine LetL.pre ?_; first | refine LetL.mk [_] rfl ?_ | refine LetL.mk _ rfl ?_) | refine forceAs.pass ?_ | refine forceEs.pass ?_ | refine forceC.pass ?_))); (try (conv => whnf)))
  refine LoopN.weak (s1 := ⟨[(0, .ro fl 15 (l.map en)), (9, .ro fl 15 (l.map en)), (10, int l.length), (11, int (0 : Nat))], [], 0⟩) (SW.fr0 (Nat.le_refl _) rfl ⟨.refl _, .refl _, VLe2.int (by rw [hm]), .refl _, trivial⟩) ?_
  refine LoopN.ind T_ok mixed (S := fun k : Nat => ⟨[(0, .ro fl 15 (l.map en)), (9, .ro fl 15 (l.map en)), (10, int l.length), (11, int k)], [], 0⟩) (fun k => l.length - k) (fun k => k ≤ l.length ∧ X = chkL (l.take k) (l.drop k)) (fun _ => rfl) (fun k hk ih => ?_) 0 ⟨Nat.zero_le _, hX.symm⟩
  obtain ⟨h1, h2⟩ := hk
  by_cases hlt : k < l.length
  case neg =>
    rw [List.drop_eq_nil_of_le (by omega)] at h2
    rw [h2]
    clear ih
    ((repeat ((conv => whnf); (first | (refine LetN.pre ?_; first | ((conv => arg 1; whnf); refine LetN.mk ?_)) | (refine As.pre ?_; first | refine As.mk rfl ?_ | (refine As.mk ?_ ?_; · decide +kernel) | refine As.mk (andT (nor_self _) rfl) ?_ | refine As.mk (andT (nor_self _) (or_t _)) ?_ | refine As.mk (andT (or_t _) (or_nself _)) ?_ | refine As.mk (andT (or_t _) (or_t _)) ?_ | refine As.mk (andT (nor_self _) (andT (nor_self _) rfl)) ?_ | (refine As.mk ?_ ?_; · ((repeat' (refine andT ?_ ?_)) <;> (first | rfl | assumption | exact decide_eq_true (by omega) | exact decide_eq_true (by dsimp only; omega) | exact decide_eq_true (by simp; omega) | (simp; done))))) | (refine LetV.pre ?_; first | refine LetV.mk (.sc (.int _ _)) rfl ?_ | refine LetV.mk (.sc (.bool _)) rfl ?_ | refine LetV.mk (.sc _) rfl ?_ | refine LetV.mk (.agg _) rfl ?_ | refine LetV.mk (.slm _ _ _ _ _) rfl ?_ | refine LetV.mk (.ro _ _ _) rfl ?_ | refine LetV.mk (.ptr _ _ _ _) rfl ?_ | refine LetV.mk (.clo _ _ _) rfl ?_ | refine LetV.mk (.rp _ _) rfl ?_) | (refine LetI.pre ?_; first | refine LetI.wrap (by omega) (by omega) ?_ | refine LetI.mk _ rfl ?_) | (refine LetB.pre ?_; first | refine LetB.tt rfl ?_ | refine LetB.ff rfl ?_ | refine LetB.tt (by assumption) ?_ | refine LetB.ff (by assumption) ?_ | refine LetB.dect (by omega) ?_ | refine LetB.decf (by omega) ?_ | refine LetB.beqt (by omega) ?_ | refine LetB.beqf (by omega) ?_ | refine LetB.bnet (by omega) ?_ | refine LetB.bnef (by omega) ?_ | refine LetB.mk _ rfl ?_) | (refine Gd.pre ?_; first | refine Gd.run rfl ?_ | refine Gd.pass rfl ?_ | refine Gd.run (by assumption) ?_ | refine Gd.pass (by assumption) ?_ | (refine Gd.run ?_ ?_; · decide +kernel) | (refine Gd.pass ?_ ?_; · decide +kernel) | refine Gd.both ?_) | (refine Br.pre ?_; first | refine Br.tt rfl ?_ | refine Br.ff rfl ?_ | refine Br.tt (by assumption) ?_ | refine Br.ff (by assumption) ?_ | (refine Br.tt ?_ ?_; · decide +kernel) | (refine Br.ff ?_ ?_; · decide +kernel)) | (refine Ck.pre ?_; first | refine Ck.drawn (by kernel_rfl) ?_ | refine Ck.mk rfl ?_) | (refine LetL.pre ?_; first | refine LetL.mk [_] rfl ?_ | refine LetL.mk _ rfl ?_) | refine forceAs.pass ?_ | refine forceEs.pass ?_ | refine forceC.pass ?_))); (try (conv => whnf)))
    exact ⟨.inl rfl, ⟨_, rfl, rfl⟩, trivial⟩
  have hld : en (l.getD k e0) = (l.map en).getD k (.sc undef) := mapD e0 hlt
  rw [chkL_step hlt] at h2
  have hck := fun fl' => check_f (l.take k) (l.getD k e0) fl' (by simp; omega)
  have next : X = chkL (l.take (k + 1)) (l.drop (k + 1)) → LoopN Tryd.prog 0 Tryd.f12.ntmps _ ⟨[(0, .ro fl 15 (l.map en)), (9, .ro fl 15 (l.map en)), (10, int l.length), (11, int (k + 1 : Nat))], [], 0⟩ _ := fun h => ih (k + 1) ⟨by omega, h⟩ (by omega)
  clear ih
  have htk : (l.take k).map en = ((l.map en).drop (0 : Int).toNat).take ((k : Int).toNat - (0 : Int).toNat) := (take_en2 l k).symm
  generalize oneE (l.take k) (l.getD k e0) = z at hck h2
  generalize l.getD k e0 = e at hld hck
  by_cases hz : z = 0
  · rw [if_pos hz] at h2
    ((repeat ((conv => whnf); (first | (refine LetN.pre ?_; first | ((conv => arg 1; whnf); refine LetN.mk ?_)) | (refine As.pre ?_; first | refine As.mk rfl ?_ | (refine As.mk ?_ ?_; · decide +kernel) | refine As.mk (andT (nor_self _) rfl) ?_ | refine As.mk (andT (nor_self _) (or_t _)) ?_ | refine As.mk (andT (or_t _) (or_nself _)) ?_ | refine As.mk (andT (or_t _) (or_t _)) ?_ | refine As.mk (andT (nor_self _) (andT (nor_self _) rfl)) ?_ | (refine As.mk ?_ ?_; · ((repeat' (refine andT ?_ ?_)) <;> (first | rfl | assumption | exact decide_eq_true (by omega) | exact decide_eq_true (by dsimp only; omega) | exact decide_eq_true (by simp; omega) | (simp; done))))) | (refine LetV.pre ?_; first | refine LetV.mk (t := 44) _ hld ?_ | refine LetV.mk (t := 44) (.ro _ 15 ((l.take k).map en)) (congrArg (AV.ro _ 15) htk) ?_ | refine LetV.mk (.sc (.int _ _)) rfl ?_ | refine LetV.mk (.sc (.bool _)) rfl ?_ | refine LetV.mk (.sc _) rfl ?_ | refine LetV.mk (.agg _) rfl ?_ | refine LetV.mk (.slm _ _ _ _ _) rfl ?_ | refine LetV.mk (.ro _ _ _) rfl ?_ | refine LetV.mk (.ptr _ _ _ _) rfl ?_ | refine LetV.mk (.clo _ _ _) rfl ?_ | refine LetV.mk (.rp _ _) rfl ?_) | (refine LetI.pre ?_; first | refine LetI.wrap (by omega) (by omega) ?_ | refine LetI.mk _ rfl ?_) | (refine LetB.pre ?_; first | refine LetB.tt rfl ?_ | refine LetB.ff rfl ?_ | refine LetB.tt (by assumption) ?_ | refine LetB.ff (by assumption) ?_ | refine LetB.dect (by omega) ?_ | refine LetB.decf (by omega) ?_ | refine LetB.beqt (by omega) ?_ | refine LetB.beqf (by omega) ?_ | refine LetB.bnet (by omega) ?_ | refine LetB.bnef (by omega) ?_ | refine LetB.mk _ rfl ?_) | (refine Gd.pre ?_; first | refine Gd.run rfl ?_ | refine Gd.pass rfl ?_ | refine Gd.run (by assumption) ?_ | refine Gd.pass (by assumption) ?_ | (refine Gd.run ?_ ?_; · decide +kernel) | (refine Gd.pass ?_ ?_; · decide +kernel) | refine Gd.both ?_) | (refine Br.pre ?_; first | refine Br.tt rfl ?_ | refine Br.ff rfl ?_ | refine Br.tt (by assumption) ?_ | refine Br.ff (by assumption) ?_ | (refine Br.tt ?_ ?_; · decide +kernel) | (refine Br.ff ?_ ?_; · decide +kernel)) | (refine Ck.pre ?_; first | refine Ck.drawn (by kernel_rfl) ?_ | refine Ck.mk rfl ?_) | (refine LetL.pre ?_; first | refine LetL.mk [_] rfl ?_ | refine LetL.mk _ rfl ?_) | (refine CallN.pre ?_; first | refine CallN.pure (hck _) rfl rfl ?_) | refine forceAs.pass ?_ | refine forceEs.pass ?_ | refine forceC.pass ?_))); (try (conv => whnf)))



    refine LoopN.weak ?_ (next h2)
    exact SW.mk id rfl rfl rfl ⟨.refl _, .refl _, .refl _, VLe2.int (by omega), trivial⟩ trivial
  · rw [if_neg hz] at h2
    rw [h2]
    ((repeat ((conv => whnf); (first | (refine LetN.pre ?_; first | ((conv => arg 1; whnf); refine LetN.mk ?_)) | (refine As.pre ?_; first | refine As.mk rfl ?_ | (refine As.mk ?_ ?_; · decide +kernel) | refine As.mk (andT (nor_self _) rfl) ?_ | refine As.mk (andT (nor_self _) (or_t _)) ?_ | refine As.mk (andT (or_t _) (or_nself _)) ?_ | refine As.mk (andT (or_t _) (or_t _)) ?_ | refine As.mk (andT (nor_self _) (andT (nor_self _) rfl)) ?_ | (refine As.mk ?_ ?_; · ((repeat' (refine andT ?_ ?_)) <;> (first | rfl | assumption | exact decide_eq_true (by omega) | exact decide_eq_true (by dsimp only; omega) | exact decide_eq_true (by simp; omega) | (simp; done))))) | (refine LetV.pre ?_; first | refine LetV.mk (t := 44) _ hld ?_ | refine LetV.mk (t := 44) (.ro _ 15 ((l.take k).map en)) (congrArg (AV.ro _ 15) htk) ?_ | refine LetV.mk (.sc (.int _ _)) rfl ?_ | refine LetV.mk (.sc (.bool _)) rfl ?_ | refine LetV.mk (.sc _) rfl ?_ | refine LetV.mk (.agg _) rfl ?_ | refine LetV.mk (.slm _ _ _ _ _) rfl ?_ | refine LetV.mk (.ro _ _ _) rfl ?_ | refine LetV.mk (.ptr _ _ _ _) rfl ?_ | refine LetV.mk (.clo _ _ _) rfl ?_ | refine LetV.mk (.rp _ _) rfl ?_) | (refine LetI.pre ?_; first | refine LetI.wrap (by omega) (by omega) ?_ | refine LetI.mk _ rfl ?_) | (refine LetB.pre ?_; first | refine LetB.tt rfl ?_ | refine LetB.ff rfl ?_ | refine LetB.tt (by assumption) ?_ | refine LetB.ff (by assumption) ?_ | refine LetB.dect (by omega) ?_ | refine LetB.decf (by omega) ?_ | refine LetB.beqt (by omega) ?_ | refine LetB.beqf (by omega) ?_ | refine LetB.bnet (by omega) ?_ | refine LetB.bnef (by omega) ?_ | refine LetB.mk _ rfl ?_) | (refine Gd.pre ?_; first | refine Gd.run rfl ?_ | refine Gd.pass rfl ?_ | refine Gd.run (by assumption) ?_ | refine Gd.pass (by assumption) ?_ | (refine Gd.run ?_ ?_; · decide +kernel) | (refine Gd.pass ?_ ?_; · decide +kernel) | refine Gd.both ?_) | (refine Br.pre ?_; first | refine Br.tt rfl ?_ | refine Br.ff rfl ?_ | refine Br.tt (by assumption) ?_ | refine Br.ff (by assumption) ?_ | (refine Br.tt ?_ ?_; · decide +kernel) | (refine Br.ff ?_ ?_; · decide +kernel)) | (refine Ck.pre ?_; first | refine Ck.drawn (by kernel_rfl) ?_ | refine Ck.mk rfl ?_) | (refine LetL.pre ?_; first | refine LetL.mk [_] rfl ?_ | refine LetL.mk _ rfl ?_) | (refine CallN.pre ?_; first | refine CallN.pure (hck _) rfl rfl ?_) | refine forceAs.pass ?_ | refine forceEs.pass ?_ | refine forceC.pass ?_))); (try (conv => whnf)))



    exact ⟨.inl rfl, ⟨_, rfl, rfl⟩, trivial⟩
end En
end Go.Proofs.YtgnakhljdjekbaaDoor
namespace Go.Proofs.YtgnakhljdjekbaaDoor
open Go.Proofs.YtgnakhljdjekbaaDoor.Am
set_option maxRecDepth 100000
namespace En
/-! ### Whether an entry may come -/
noncomputable def mayP (l : List E) (e : E) : Int :=
  if chkE l ≠ 0 then chkE l else if chkE (l ++ [e]) ≠ 0 then chkE (l ++ [e]) else
    if (e.kind = 6 ∨ e.kind = 9) ∧ l.any (fun x => decide (x.kind = e.kind ∧ x.ref = e.ref)) = true then 6 else 0
theorem may1_f (x e : E) : AFun Tryd.prog 25 0 [en x, .rp (en e) 0] [] (bool (decide (x.kind = e.kind ∧ x.ref = e.ref))) [] := by
  refine AFun.of_W T_ok mixed Tryd.func25 rfl (Nat.le_of_ble_eq_true rfl) rfl ?_
  by_cases h1 : x.kind = e.kind <;> by_cases h2 : x.ref = e.ref
  · rw [decide_eq_true ⟨h1, h2⟩]
    ((repeat ((conv => whnf); (first | (refine LetN.pre ?_; first | ((conv => arg 1; whnf); refine LetN.mk ?_)) | (refine As.pre ?_; first | refine As.mk rfl ?_ | (refine As.mk ?_ ?_; · decide +kernel) | refine As.mk (andT (nor_self _) rfl) ?_ | refine As.mk (andT (nor_self _) (or_t _)) ?_ | refine As.mk (andT (or_t _) (or_nself _)) ?_ | refine As.mk (andT (or_t _) (or_t _)) ?_ | refine As.mk (andT (nor_self _) (andT (nor_self _) rfl)) ?_ | (refine As.mk ?_ ?_; · ((repeat' (refine andT ?_ ?_)) <;> (first | rfl | assumption | exact decide_eq_true (by omega) | exact decide_eq_true (by dsimp only; omega) | exact decide_eq_true (by simp; omega) | (simp; done))))) | (refine LetV.pre ?_; first | refine LetV.mk (.sc (.int _ _)) rfl ?_ | refine LetV.mk (.sc (.bool _)) rfl ?_ | refine LetV.mk (.sc _) rfl ?_ | refine LetV.mk (.agg _) rfl ?_ | refine LetV.mk (.slm _ _ _ _ _) rfl ?_ | refine LetV.mk (.ro _ _ _) rfl ?_ | refine LetV.mk (.ptr _ _ _ _) rfl ?_ | refine LetV.mk (.clo _ _ _) rfl ?_ | refine LetV.mk (.rp _ _) rfl ?_) | (refine LetI.pre ?_; first | refine LetI.wrap (by omega) (by omega) ?_ | refine LetI.mk _ rfl ?_) | (refine LetB.pre ?_; first | refine LetB.tt rfl ?_ | refine LetB.ff rfl ?_ | refine LetB.tt (by assumption) ?_ | refine LetB.ff (by assumption) ?_ | refine LetB.dect (by omega) ?_ | refine LetB.decf (by omega) ?_ | refine LetB.beqt (by omega) ?_ | refine LetB.beqf (by omega) ?_ | refine LetB.bnet (by omega) ?_ | refine LetB.bnef (by omega) ?_ | refine LetB.mk _ rfl ?_) | (refine Gd.pre ?_; first | refine Gd.run rfl ?_ | refine Gd.pass rfl ?_ | refine Gd.run (by assumption) ?_ | refine Gd.pass (by assumption) ?_ | (refine Gd.run ?_ ?_; · decide +kernel) | (refine Gd.pass ?_ ?_; · decide +kernel) | refine Gd.both ?_) | (refine Br.pre ?_; first | refine Br.tt rfl ?_ | refine Br.ff rfl ?_ | refine Br.tt (by assumption) ?_ | refine Br.ff (by assumption) ?_ | (refine Br.tt ?_ ?_; · decide +kernel) | (refine Br.ff ?_ ?_; · decide +kernel)) | (refine Ck.pre ?_; first | refine Ck.drawn (by kernel_rfl) ?_ | refine Ck.mk rfl ?_) | (refine LetL.pre ?_; first | refine LetL.mk [_] rfl ?_ | refine LetL.mk _ rfl ?_) | refine forceAs.pass ?_ | refine forceEs.pass ?_ | refine forceC.pass ?_))); (try (conv => whnf)))
    exact ⟨.inl rfl, ⟨_, rfl, rfl⟩, trivial⟩
  · rw [decide_eq_false (fun h => h2 h.2)]
    ((repeat ((conv => whnf); (first | (refine LetN.pre ?_; first | ((conv => arg 1; whnf); refine LetN.mk ?_)) | (refine As.pre ?_; first | refine As.mk rfl ?_ | (refine As.mk ?_ ?_; · decide +kernel) | refine As.mk (andT (nor_self _) rfl) ?_ | refine As.mk (andT (nor_self _) (or_t _)) ?_ | refine As.mk (andT (or_t _) (or_nself _)) ?_ | refine As.mk (andT (or_t _) (or_t _)) ?_ | refine As.mk (andT (nor_self _) (andT (nor_self _) rfl)) ?_ | (refine As.mk ?_ ?_; · ((repeat' (refine andT ?_ ?_)) <;> (first | rfl | assumption | exact decide_eq_true (by omega) | exact decide_eq_true (by dsimp only; omega) | exact decide_eq_true (by simp; omega) | (simp; done))))) | (refine LetV.pre ?_; first | refine LetV.mk (.sc (.int _ _)) rfl ?_ | refine LetV.mk (.sc (.bool _)) rfl ?_ | refine LetV.mk (.sc _) rfl ?_ | refine LetV.mk (.agg _) rfl ?_ | refine LetV.mk (.slm _ _ _ _ _) rfl ?_ | refine LetV.mk (.ro _ _ _) rfl ?_ | refine LetV.mk (.ptr _ _ _ _) rfl ?_ | refine LetV.mk (.clo _ _ _) rfl ?_ | refine LetV.mk (.rp _ _) rfl ?_) | (refine LetI.pre ?_; first | refine LetI.wrap (by omega) (by omega) ?_ | refine LetI.mk _ rfl ?_) | (refine LetB.pre ?_; first | refine LetB.tt rfl ?_ | refine LetB.ff rfl ?_ | refine LetB.tt (by assumption) ?_ | refine LetB.ff (by assumption) ?_ | refine LetB.dect (by omega) ?_ | refine LetB.decf (by omega) ?_ | refine LetB.beqt (by omega) ?_ | refine LetB.beqf (by omega) ?_ | refine LetB.bnet (by omega) ?_ | refine LetB.bnef (by omega) ?_ | refine LetB.mk _ rfl ?_) | (refine Gd.pre ?_; first | refine Gd.run rfl ?_ | refine Gd.pass rfl ?_ | refine Gd.run (by assumption) ?_ | refine Gd.pass (by assumption) ?_ | (refine Gd.run ?_ ?_; · decide +kernel) | (refine Gd.pass ?_ ?_; · decide +kernel) | refine Gd.both ?_) | (refine Br.pre ?_; first | refine Br.tt rfl ?_ | refine Br.ff rfl ?_ | refine Br.tt (by assumption) ?_ | refine Br.ff (by assumption) ?_ | (refine Br.tt ?_ ?_; · decide +kernel) | (refine Br.ff ?_ ?_; · decide +kernel)) | (refine Ck.pre ?_; first | refine Ck.drawn (by kernel_rfl) ?_ | refine Ck.mk rfl ?_) | (refine LetL.pre ?_; first | refine LetL.mk [_] rfl ?_ | refine LetL.mk _ rfl ?_) | refine forceAs.pass ?_ | refine forceEs.pass ?_ | refine forceC.pass ?_))); (try (conv => whnf)))
    exact ⟨.inl rfl, ⟨_, rfl, rfl⟩, trivial⟩
  · rw [decide_eq_false (fun h => h1 h.1)]
    ((repeat ((conv => whnf); (first | (refine LetN.pre ?_; first | ((conv => arg 1; whnf); refine LetN.mk ?_)) | (refine As.pre ?_; first | refine As.mk rfl ?_ | (refine As.mk ?_ ?_; · decide +kernel) | refine As.mk (andT (nor_self _) rfl) ?_ | refine As.mk (andT (nor_self _) (or_t _)) ?_ | refine As.mk (andT (or_t _) (or_nself _)) ?_ | refine As.mk (andT (or_t _) (or_t _)) ?_ | refine As.mk (andT (nor_self _) (andT (nor_self _) rfl)) ?_ | (refine As.mk ?_ ?_; · ((repeat' (refine andT ?_ ?_)) <;> (first | rfl | assumption | exact decide_eq_true (by omega) | exact decide_eq_true (by dsimp only; omega) | exact decide_eq_true (by simp; omega) | (simp; done))))) | (refine LetV.pre ?_; first | refine LetV.mk (.sc (.int _ _)) rfl ?_ | refine LetV.mk (.sc (.bool _)) rfl ?_ | refine LetV.mk (.sc _) rfl ?_ | refine LetV.mk (.agg _) rfl ?_ | refine LetV.mk (.slm _ _ _ _ _) rfl ?_ | refine LetV.mk (.ro _ _ _) rfl ?_ | refine LetV.mk (.ptr _ _ _ _) rfl ?_ | refine LetV.mk (.clo _ _ _) rfl ?_ | refine LetV.mk (.rp _ _) rfl ?_) | (refine LetI.pre ?_; first | refine LetI.wrap (by omega) (by omega) ?_ | refine LetI.mk _ rfl ?_) | (refine LetB.pre ?_; first | refine LetB.tt rfl ?_ | refine LetB.ff rfl ?_ | refine LetB.tt (by assumption) ?_ | refine LetB.ff (by assumption) ?_ | refine LetB.dect (by omega) ?_ | refine LetB.decf (by omega) ?_ | refine LetB.beqt (by omega) ?_ | refine LetB.beqf (by omega) ?_ | refine LetB.bnet (by omega) ?_ | refine LetB.bnef (by omega) ?_ | refine LetB.mk _ rfl ?_) | (refine Gd.pre ?_; first | refine Gd.run rfl ?_ | refine Gd.pass rfl ?_ | refine Gd.run (by assumption) ?_ | refine Gd.pass (by assumption) ?_ | (refine Gd.run ?_ ?_; · decide +kernel) | (refine Gd.pass ?_ ?_; · decide +kernel) | refine Gd.both ?_) | (refine Br.pre ?_; first | refine Br.tt rfl ?_ | refine Br.ff rfl ?_ | refine Br.tt (by assumption) ?_ | refine Br.ff (by assumption) ?_ | (refine Br.tt ?_ ?_; · decide +kernel) | (refine Br.ff ?_ ?_; · decide +kernel)) | (refine Ck.pre ?_; first | refine Ck.drawn (by kernel_rfl) ?_ | refine Ck.mk rfl ?_) | (refine LetL.pre ?_; first | refine LetL.mk [_] rfl ?_ | refine LetL.mk _ rfl ?_) | refine forceAs.pass ?_ | refine forceEs.pass ?_ | refine forceC.pass ?_))); (try (conv => whnf)))
    exact ⟨.inl rfl, ⟨_, rfl, rfl⟩, trivial⟩
  · rw [decide_eq_false (fun h => h1 h.1)]
    ((repeat ((conv => whnf); (first | (refine LetN.pre ?_; first | ((conv => arg 1; whnf); refine LetN.mk ?_)) | (refine As.pre ?_; first | refine As.mk rfl ?_ | (refine As.mk ?_ ?_; · decide +kernel) | refine As.mk (andT (nor_self _) rfl) ?_ | refine As.mk (andT (nor_self _) (or_t _)) ?_ | refine As.mk (andT (or_t _) (or_nself _)) ?_ | refine As.mk (andT (or_t _) (or_t _)) ?_ | refine As.mk (andT (nor_self _) (andT (nor_self _) rfl)) ?_ | (refine As.mk ?_ ?_; · ((repeat' (refine andT ?_ ?_)) <;> (first | rfl | assumption | exact decide_eq_true (by omega) | exact decide_eq_true (by dsimp only; omega) | exact decide_eq_true (by simp; omega) | (simp; done))))) | (refine LetV.pre ?_; first | refine LetV.mk (.sc (.int _ _)) rfl ?_ | refine LetV.mk (.sc (.bool _)) rfl ?_ | refine LetV.mk (.sc _) rfl ?_ | refine LetV.mk (.agg _) rfl ?_ | refine LetV.mk (.slm _ _ _ _ _) rfl ?_ | refine LetV.mk (.ro _ _ _) rfl ?_ | refine LetV.mk (.ptr _ _ _ _) rfl ?_ | refine LetV.mk (.clo _ _ _) rfl ?_ | refine LetV.mk (.rp _ _) rfl ?_) | (refine LetI.pre ?_; first | refine LetI.wrap (by omega) (by omega) ?_ | refine LetI.mk _ rfl ?_) | (refine LetB.pre ?_; first | refine LetB.tt rfl ?_ | refine LetB.ff rfl ?_ | refine LetB.tt (by assumption) ?_ | refine LetB.ff (by assumption) ?_ | refine LetB.dect (by omega) ?_ | refine LetB.decf (by omega) ?_ | refine LetB.beqt (by omega) ?_ | refine LetB.beqf (by omega) ?_ | refine LetB.bnet (by omega) ?_ | refine LetB.bnef (by omega) ?_ | refine LetB.mk _ rfl ?_) | (refine Gd.pre ?_; first | refine Gd.run rfl ?_ | refine Gd.pass rfl ?_ | refine Gd.run (by assumption) ?_ | refine Gd.pass (by assumption) ?_ | (refine Gd.run ?_ ?_; · decide +kernel) | (refine Gd.pass ?_ ?_; · decide +kernel) | refine Gd.both ?_) | (refine Br.pre ?_; first | refine Br.tt rfl ?_ | refine Br.ff rfl ?_ | refine Br.tt (by assumption) ?_ | refine Br.ff (by assumption) ?_ | (refine Br.tt ?_ ?_; · decide +kernel) | (refine Br.ff ?_ ?_; · decide +kernel)) | (refine Ck.pre ?_; first | refine Ck.drawn (by kernel_rfl) ?_ | refine Ck.mk rfl ?_) | (refine LetL.pre ?_; first | refine LetL.mk [_] rfl ?_ | refine LetL.mk _ rfl ?_) | refine forceAs.pass ?_ | refine forceEs.pass ?_ | refine forceC.pass ?_))); (try (conv => whnf)))
    exact ⟨.inl rfl, ⟨_, rfl, rfl⟩, trivial⟩
abbrev cMay (e : E) : Cd := ⟨25, [.rp (en e) 0], fun x => decide (x.kind = e.kind ∧ x.ref = e.ref)⟩
theorem cMay_ok (e : E) : (cMay e).Ok := ⟨fun x => may1_f x e, by kernel_rfl, rfl⟩
theorem ClipE_f (l : List E) (fl : Fl) (hl : l.length ≤ 100000) : AFun Tryd.prog 23 0 [.ro fl 15 (l.map en)] [] (.ro ⟨true, fl.nn⟩ 15 (l.map en)) [] := by
  have hm : (l.map en).length = l.length := List.length_map _
  refine AFun.of_S T_ok mixed Tryd.func23 rfl (Nat.le_of_ble_eq_true rfl) rfl ?_
  have ht : l.map en = ((l.map en).drop 0).take ((l.map en).length - 0) := by rw [List.drop_zero, Nat.sub_zero, List.take_length]
  ((repeat ((conv => whnf); (first | (refine LetN.pre ?_; first | ((conv => arg 1; whnf); refine LetN.mk ?_)) | (refine As.pre ?_; first | refine As.mk rfl ?_ | (refine As.mk ?_ ?_; · decide +kernel) | refine As.mk (andT (nor_self _) rfl) ?_ | refine As.mk (andT (nor_self _) (or_t _)) ?_ | refine As.mk (andT (or_t _) (or_nself _)) ?_ | refine As.mk (andT (or_t _) (or_t _)) ?_ | refine As.mk (andT (nor_self _) (andT (nor_self _) rfl)) ?_ | (refine As.mk ?_ ?_; · ((repeat' (refine andT ?_ ?_)) <;> (first | rfl | assumption | exact decide_eq_true (by omega) | exact decide_eq_true (by dsimp only; omega) | exact decide_eq_true (by simp; omega) | (simp; done))))) | (refine LetV.pre ?_; first | refine LetV.mk (.sc (.int _ _)) rfl ?_ | refine LetV.mk (.sc (.bool _)) rfl ?_ | refine LetV.mk (.sc _) rfl ?_ | refine LetV.mk (.agg _) rfl ?_ | refine LetV.mk (.slm _ _ _ _ _) rfl ?_ | refine LetV.mk (.ro _ _ _) rfl ?_ | refine LetV.mk (.ptr _ _ _ _) rfl ?_ | refine LetV.mk (.clo _ _ _) rfl ?_ | refine LetV.mk (.rp _ _) rfl ?_) | (refine LetI.pre ?_; first | refine LetI.wrap (by omega) (by omega) ?_ | refine LetI.mk _ rfl ?_) | (refine LetB.pre ?_; first | refine LetB.tt rfl ?_ | refine LetB.ff rfl ?_ | refine LetB.tt (by assumption) ?_ | refine LetB.ff (by assumption) ?_ | refine LetB.dect (by omega) ?_ | refine LetB.decf (by omega) ?_ | refine LetB.beqt (by omega) ?_ | refine LetB.beqf (by omega) ?_ | refine LetB.bnet (by omega) ?_ | refine LetB.bnef (by omega) ?_ | refine LetB.mk _ rfl ?_) | (refine Gd.pre ?_; first | refine Gd.run rfl ?_ | refine Gd.pass rfl ?_ | refine Gd.run (by assumption) ?_ | refine Gd.pass (by assumption) ?_ | (refine Gd.run ?_ ?_; · decide +kernel) | (refine Gd.pass ?_ ?_; · decide +kernel) | refine Gd.both ?_) | (refine Br.pre ?_; first | refine Br.tt rfl ?_ | refine Br.ff rfl ?_ | refine Br.tt (by assumption) ?_ | refine Br.ff (by assumption) ?_ | (refine Br.tt ?_ ?_; · decide +kernel) | (refine Br.ff ?_ ?_; · decide +kernel)) | (refine Ck.pre ?_; first | refine Ck.drawn (by kernel_rfl) ?_ | refine Ck.mk rfl ?_) | (refine LetL.pre ?_; first | refine LetL.mk [_] rfl ?_ | refine LetL.mk _ rfl ?_) | refine forceAs.pass ?_ | refine forceEs.pass ?_ | refine forceC.pass ?_))); (try (conv => whnf)))
  exact ⟨⟨[(2, .ro ⟨true, fl.nn⟩ 15 (l.map en))], [], 0⟩, SW.mk id rfl rfl rfl ⟨.of_eq (congrArg (AV.ro ⟨true, fl.nn⟩ 15) ht), trivial⟩ trivial, .inl rfl, ⟨_, rfl, rfl⟩, trivial⟩
theorem app_en2 (l : List E) (e : E) : (l ++ [e]).map en = l.map en ++ [en e] := by rw [List.map_append]; rfl
set_option maxHeartbeats 1600000 in
set_option maxRecDepth 100000 in
theorem May_f (l : List E) (e : E) (fl : Fl) (hl : l.length ≤ 1000) : AFun Tryd.prog 11 0 [.ro fl 15 (l.map en), en e] [] (int (mayP l e)) [] := by
  refine AFun.of_W T_ok mixed Tryd.func11 rfl (Nat.le_of_ble_eq_true rfl) rfl ?_
  have hm : (l.map en).length = l.length := List.length_map _
  have hC := Check_l l fl
  have hP := ClipE_f l fl (by omega)
  have hD := fun fl' => Check_l (l ++ [e]) fl'
  have hE := ContainsE_f (cMay_ok e) l fl (by omega)
  have hs := stor_en l
  have r1 := room_en (n := l.length + 1) (by omega)
  have a1 := app_en2 l e
  have n1 := pure_en (l ++ [e])
  have m1 : (l.map en).length + 1 = ((l ++ [e]).map en).length := by simp
  unfold mayP
  generalize chkE l = c at hC ⊢
  by_cases hc : c = 0
  case neg =>
    rw [if_pos hc]
    ((repeat ((conv => whnf); (first | (refine LetN.pre ?_; first | ((conv => arg 1; whnf); refine LetN.mk ?_)) | (refine As.pre ?_; first | refine As.mk rfl ?_ | (refine As.mk ?_ ?_; · decide +kernel) | refine As.mk (andT (nor_self _) rfl) ?_ | refine As.mk (andT (nor_self _) (or_t _)) ?_ | refine As.mk (andT (or_t _) (or_nself _)) ?_ | refine As.mk (andT (or_t _) (or_t _)) ?_ | refine As.mk (andT (nor_self _) (andT (nor_self _) rfl)) ?_ | (refine As.mk ?_ ?_; · ((repeat' (refine andT ?_ ?_)) <;> (first | rfl | assumption | exact decide_eq_true (by omega) | exact decide_eq_true (by dsimp only; omega) | exact decide_eq_true (by simp; omega) | (simp; done))))) | (refine LetV.pre ?_; first | refine LetV.mk (.sc (.int _ _)) rfl ?_ | refine LetV.mk (.sc (.bool _)) rfl ?_ | refine LetV.mk (.sc _) rfl ?_ | refine LetV.mk (.agg _) rfl ?_ | refine LetV.mk (.slm _ _ _ _ _) rfl ?_ | refine LetV.mk (.ro _ _ _) rfl ?_ | refine LetV.mk (.ptr _ _ _ _) rfl ?_ | refine LetV.mk (.clo _ _ _) rfl ?_ | refine LetV.mk (.rp _ _) rfl ?_) | (refine LetI.pre ?_; first | refine LetI.wrap (by omega) (by omega) ?_ | refine LetI.mk _ rfl ?_) | (refine LetB.pre ?_; first | refine LetB.tt rfl ?_ | refine LetB.ff rfl ?_ | refine LetB.tt (by assumption) ?_ | refine LetB.ff (by assumption) ?_ | refine LetB.dect (by omega) ?_ | refine LetB.decf (by omega) ?_ | refine LetB.beqt (by omega) ?_ | refine LetB.beqf (by omega) ?_ | refine LetB.bnet (by omega) ?_ | refine LetB.bnef (by omega) ?_ | refine LetB.mk _ rfl ?_) | (refine Gd.pre ?_; first | refine Gd.run rfl ?_ | refine Gd.pass rfl ?_ | refine Gd.run (by assumption) ?_ | refine Gd.pass (by assumption) ?_ | (refine Gd.run ?_ ?_; · decide +kernel) | (refine Gd.pass ?_ ?_; · decide +kernel) | refine Gd.both ?_) | (refine Br.pre ?_; first | refine Br.tt rfl ?_ | refine Br.ff rfl ?_ | refine Br.tt (by assumption) ?_ | refine Br.ff (by assumption) ?_ | (refine Br.tt ?_ ?_; · decide +kernel) | (refine Br.ff ?_ ?_; · decide +kernel)) | (refine Ck.pre ?_; first | refine Ck.drawn (by kernel_rfl) ?_ | refine Ck.mk rfl ?_) | (refine LetL.pre ?_; first | refine LetL.mk [_] rfl ?_ | refine LetL.mk _ rfl ?_) | (refine CallN.pre ?_; first | refine CallN.pure hC rfl rfl ?_) | refine forceAs.pass ?_ | refine forceEs.pass ?_ | refine forceC.pass ?_))); (try (conv => whnf)))
    exact ⟨.inl rfl, ⟨_, rfl, rfl⟩, trivial⟩
  subst hc
  rw [if_neg (fun h => h rfl)]
  generalize chkE (l ++ [e]) = d at hD ⊢
  by_cases hd : d = 0
  case neg =>
    rw [if_pos hd]
    ((repeat ((conv => whnf); (first | (refine LetN.pre ?_; first | ((conv => arg 1; whnf); refine LetN.mk ?_)) | (refine As.pre ?_; first | refine As.mk rfl ?_ | (refine As.mk ?_ ?_; · decide +kernel) | refine As.mk (andT (nor_self _) rfl) ?_ | refine As.mk (andT (nor_self _) (or_t _)) ?_ | refine As.mk (andT (or_t _) (or_nself _)) ?_ | refine As.mk (andT (or_t _) (or_t _)) ?_ | refine As.mk (andT (nor_self _) (andT (nor_self _) rfl)) ?_ | (refine As.mk ?_ ?_; · ((repeat' (refine andT ?_ ?_)) <;> (first | rfl | assumption | exact decide_eq_true (by omega) | exact decide_eq_true (by dsimp only; omega) | exact decide_eq_true (by simp; omega) | (simp; done))))) | (refine LetV.pre ?_; first | refine LetV.mk (.sc (.int _ _)) rfl ?_ | refine LetV.mk (.sc (.bool _)) rfl ?_ | refine LetV.mk (.sc _) rfl ?_ | refine LetV.mk (.agg _) rfl ?_ | refine LetV.mk (.slm _ _ _ _ _) rfl ?_ | refine LetV.mk (.ro _ _ _) rfl ?_ | refine LetV.mk (.ptr _ _ _ _) rfl ?_ | refine LetV.mk (.clo _ _ _) rfl ?_ | refine LetV.mk (.rp _ _) rfl ?_) | (refine LetI.pre ?_; first | refine LetI.wrap (by omega) (by omega) ?_ | refine LetI.mk _ rfl ?_) | (refine LetB.pre ?_; first | refine LetB.tt rfl ?_ | refine LetB.ff rfl ?_ | refine LetB.tt (by assumption) ?_ | refine LetB.ff (by assumption) ?_ | refine LetB.dect (by omega) ?_ | refine LetB.decf (by omega) ?_ | refine LetB.beqt (by omega) ?_ | refine LetB.beqf (by omega) ?_ | refine LetB.bnet (by omega) ?_ | refine LetB.bnef (by omega) ?_ | refine LetB.mk _ rfl ?_) | (refine Gd.pre ?_; first | refine Gd.run rfl ?_ | refine Gd.pass rfl ?_ | refine Gd.run (by assumption) ?_ | refine Gd.pass (by assumption) ?_ | (refine Gd.run ?_ ?_; · decide +kernel) | (refine Gd.pass ?_ ?_; · decide +kernel) | refine Gd.both ?_) | (refine Br.pre ?_; first | refine Br.tt rfl ?_ | refine Br.ff rfl ?_ | refine Br.tt (by assumption) ?_ | refine Br.ff (by assumption) ?_ | (refine Br.tt ?_ ?_; · decide +kernel) | (refine Br.ff ?_ ?_; · decide +kernel)) | (refine Ck.pre ?_; first | refine Ck.drawn (by kernel_rfl) ?_ | refine Ck.mk rfl ?_) | (refine LetL.pre ?_; first | refine LetL.mk (ty := 33) _ a1 ?_ | refine LetL.mk [_] rfl ?_ | refine LetL.mk _ rfl ?_) | (refine CallN.pre ?_; first | refine CallN.pure hC rfl rfl ?_ | refine CallN.pure hP rfl rfl ?_ | refine CallN.lend (hD _) rfl (.full rfl n1 m1 .nil) ?_ | refine CallN.lend hE rfl (.same rfl (.clo (.ptr rfl rfl rfl .nil) .nil)) ?_) | refine forceAs.pass ?_ | refine forceEs.pass ?_ | refine forceC.pass ?_))); (try (conv => whnf)))





    exact ⟨.inl rfl, ⟨_, rfl, rfl⟩, trivial⟩
  subst hd
  rw [if_neg (fun h => h rfl)]
  have hp : (cMay e).p = fun x => decide (x.kind = e.kind ∧ x.ref = e.ref) := rfl
  rw [hp] at hE
  generalize l.any (fun x => decide (x.kind = e.kind ∧ x.ref = e.ref)) = b at hE ⊢
  by_cases h6 : e.kind = 6
  · cases b with
    | true =>
      rw [if_pos ⟨.inl h6, rfl⟩]
      ((repeat ((conv => whnf); (first | (refine LetN.pre ?_; first | ((conv => arg 1; whnf); refine LetN.mk ?_)) | (refine As.pre ?_; first | refine As.mk rfl ?_ | (refine As.mk ?_ ?_; · decide +kernel) | refine As.mk (andT (nor_self _) rfl) ?_ | refine As.mk (andT (nor_self _) (or_t _)) ?_ | refine As.mk (andT (or_t _) (or_nself _)) ?_ | refine As.mk (andT (or_t _) (or_t _)) ?_ | refine As.mk (andT (nor_self _) (andT (nor_self _) rfl)) ?_ | (refine As.mk ?_ ?_; · ((repeat' (refine andT ?_ ?_)) <;> (first | rfl | assumption | exact decide_eq_true (by omega) | exact decide_eq_true (by dsimp only; omega) | exact decide_eq_true (by simp; omega) | (simp; done))))) | (refine LetV.pre ?_; first | refine LetV.mk (.sc (.int _ _)) rfl ?_ | refine LetV.mk (.sc (.bool _)) rfl ?_ | refine LetV.mk (.sc _) rfl ?_ | refine LetV.mk (.agg _) rfl ?_ | refine LetV.mk (.slm _ _ _ _ _) rfl ?_ | refine LetV.mk (.ro _ _ _) rfl ?_ | refine LetV.mk (.ptr _ _ _ _) rfl ?_ | refine LetV.mk (.clo _ _ _) rfl ?_ | refine LetV.mk (.rp _ _) rfl ?_) | (refine LetI.pre ?_; first | refine LetI.wrap (by omega) (by omega) ?_ | refine LetI.mk _ rfl ?_) | (refine LetB.pre ?_; first | refine LetB.tt rfl ?_ | refine LetB.ff rfl ?_ | refine LetB.tt (by assumption) ?_ | refine LetB.ff (by assumption) ?_ | refine LetB.dect (by omega) ?_ | refine LetB.decf (by omega) ?_ | refine LetB.beqt (by omega) ?_ | refine LetB.beqf (by omega) ?_ | refine LetB.bnet (by omega) ?_ | refine LetB.bnef (by omega) ?_ | refine LetB.mk _ rfl ?_) | (refine Gd.pre ?_; first | refine Gd.run rfl ?_ | refine Gd.pass rfl ?_ | refine Gd.run (by assumption) ?_ | refine Gd.pass (by assumption) ?_ | (refine Gd.run ?_ ?_; · decide +kernel) | (refine Gd.pass ?_ ?_; · decide +kernel) | refine Gd.both ?_) | (refine Br.pre ?_; first | refine Br.tt rfl ?_ | refine Br.ff rfl ?_ | refine Br.tt (by assumption) ?_ | refine Br.ff (by assumption) ?_ | (refine Br.tt ?_ ?_; · decide +kernel) | (refine Br.ff ?_ ?_; · decide +kernel)) | (refine Ck.pre ?_; first | refine Ck.drawn (by kernel_rfl) ?_ | refine Ck.mk rfl ?_) | (refine LetL.pre ?_; first | refine LetL.mk (ty := 33) _ a1 ?_ | refine LetL.mk [_] rfl ?_ | refine LetL.mk _ rfl ?_) | (refine CallN.pre ?_; first | refine CallN.pure hC rfl rfl ?_ | refine CallN.pure hP rfl rfl ?_ | refine CallN.lend (hD _) rfl (.full rfl n1 m1 .nil) ?_ | refine CallN.lend hE rfl (.same rfl (.clo (.ptr rfl rfl rfl .nil) .nil)) ?_) | refine forceAs.pass ?_ | refine forceEs.pass ?_ | refine forceC.pass ?_))); (try (conv => whnf)))





      exact ⟨.inl rfl, ⟨_, rfl, rfl⟩, trivial⟩
    | false =>
      rw [if_neg (fun h => by cases h.2)]
      ((repeat ((conv => whnf); (first | (refine LetN.pre ?_; first | ((conv => arg 1; whnf); refine LetN.mk ?_)) | (refine As.pre ?_; first | refine As.mk rfl ?_ | (refine As.mk ?_ ?_; · decide +kernel) | refine As.mk (andT (nor_self _) rfl) ?_ | refine As.mk (andT (nor_self _) (or_t _)) ?_ | refine As.mk (andT (or_t _) (or_nself _)) ?_ | refine As.mk (andT (or_t _) (or_t _)) ?_ | refine As.mk (andT (nor_self _) (andT (nor_self _) rfl)) ?_ | (refine As.mk ?_ ?_; · ((repeat' (refine andT ?_ ?_)) <;> (first | rfl | assumption | exact decide_eq_true (by omega) | exact decide_eq_true (by dsimp only; omega) | exact decide_eq_true (by simp; omega) | (simp; done))))) | (refine LetV.pre ?_; first | refine LetV.mk (.sc (.int _ _)) rfl ?_ | refine LetV.mk (.sc (.bool _)) rfl ?_ | refine LetV.mk (.sc _) rfl ?_ | refine LetV.mk (.agg _) rfl ?_ | refine LetV.mk (.slm _ _ _ _ _) rfl ?_ | refine LetV.mk (.ro _ _ _) rfl ?_ | refine LetV.mk (.ptr _ _ _ _) rfl ?_ | refine LetV.mk (.clo _ _ _) rfl ?_ | refine LetV.mk (.rp _ _) rfl ?_) | (refine LetI.pre ?_; first | refine LetI.wrap (by omega) (by omega) ?_ | refine LetI.mk _ rfl ?_) | (refine LetB.pre ?_; first | refine LetB.tt rfl ?_ | refine LetB.ff rfl ?_ | refine LetB.tt (by assumption) ?_ | refine LetB.ff (by assumption) ?_ | refine LetB.dect (by omega) ?_ | refine LetB.decf (by omega) ?_ | refine LetB.beqt (by omega) ?_ | refine LetB.beqf (by omega) ?_ | refine LetB.bnet (by omega) ?_ | refine LetB.bnef (by omega) ?_ | refine LetB.mk _ rfl ?_) | (refine Gd.pre ?_; first | refine Gd.run rfl ?_ | refine Gd.pass rfl ?_ | refine Gd.run (by assumption) ?_ | refine Gd.pass (by assumption) ?_ | (refine Gd.run ?_ ?_; · decide +kernel) | (refine Gd.pass ?_ ?_; · decide +kernel) | refine Gd.both ?_) | (refine Br.pre ?_; first | refine Br.tt rfl ?_ | refine Br.ff rfl ?_ | refine Br.tt (by assumption) ?_ | refine Br.ff (by assumption) ?_ | (refine Br.tt ?_ ?_; · decide +kernel) | (refine Br.ff ?_ ?_; · decide +kernel)) | (refine Ck.pre ?_; first | refine Ck.drawn (by kernel_rfl) ?_ | refine Ck.mk rfl ?_) | (refine LetL.pre ?_; first | refine LetL.mk (ty := 33) _ a1 ?_ | refine LetL.mk [_] rfl ?_ | refine LetL.mk _ rfl ?_) | (refine CallN.pre ?_; first | refine CallN.pure hC rfl rfl ?_ | refine CallN.pure hP rfl rfl ?_ | refine CallN.lend (hD _) rfl (.full rfl n1 m1 .nil) ?_ | refine CallN.lend hE rfl (.same rfl (.clo (.ptr rfl rfl rfl .nil) .nil)) ?_) | refine forceAs.pass ?_ | refine forceEs.pass ?_ | refine forceC.pass ?_))); (try (conv => whnf)))





      exact ⟨.inl rfl, ⟨_, rfl, rfl⟩, trivial⟩
  by_cases h9 : e.kind = 9
  · cases b with
    | true =>
      rw [if_pos ⟨.inr h9, rfl⟩]
      ((repeat ((conv => whnf); (first | (refine LetN.pre ?_; first | ((conv => arg 1; whnf); refine LetN.mk ?_)) | (refine As.pre ?_; first | refine As.mk rfl ?_ | (refine As.mk ?_ ?_; · decide +kernel) | refine As.mk (andT (nor_self _) rfl) ?_ | refine As.mk (andT (nor_self _) (or_t _)) ?_ | refine As.mk (andT (or_t _) (or_nself _)) ?_ | refine As.mk (andT (or_t _) (or_t _)) ?_ | refine As.mk (andT (nor_self _) (andT (nor_self _) rfl)) ?_ | (refine As.mk ?_ ?_; · ((repeat' (refine andT ?_ ?_)) <;> (first | rfl | assumption | exact decide_eq_true (by omega) | exact decide_eq_true (by dsimp only; omega) | exact decide_eq_true (by simp; omega) | (simp; done))))) | (refine LetV.pre ?_; first | refine LetV.mk (.sc (.int _ _)) rfl ?_ | refine LetV.mk (.sc (.bool _)) rfl ?_ | refine LetV.mk (.sc _) rfl ?_ | refine LetV.mk (.agg _) rfl ?_ | refine LetV.mk (.slm _ _ _ _ _) rfl ?_ | refine LetV.mk (.ro _ _ _) rfl ?_ | refine LetV.mk (.ptr _ _ _ _) rfl ?_ | refine LetV.mk (.clo _ _ _) rfl ?_ | refine LetV.mk (.rp _ _) rfl ?_) | (refine LetI.pre ?_; first | refine LetI.wrap (by omega) (by omega) ?_ | refine LetI.mk _ rfl ?_) | (refine LetB.pre ?_; first | refine LetB.tt rfl ?_ | refine LetB.ff rfl ?_ | refine LetB.tt (by assumption) ?_ | refine LetB.ff (by assumption) ?_ | refine LetB.dect (by omega) ?_ | refine LetB.decf (by omega) ?_ | refine LetB.beqt (by omega) ?_ | refine LetB.beqf (by omega) ?_ | refine LetB.bnet (by omega) ?_ | refine LetB.bnef (by omega) ?_ | refine LetB.mk _ rfl ?_) | (refine Gd.pre ?_; first | refine Gd.run rfl ?_ | refine Gd.pass rfl ?_ | refine Gd.run (by assumption) ?_ | refine Gd.pass (by assumption) ?_ | (refine Gd.run ?_ ?_; · decide +kernel) | (refine Gd.pass ?_ ?_; · decide +kernel) | refine Gd.both ?_) | (refine Br.pre ?_; first | refine Br.tt rfl ?_ | refine Br.ff rfl ?_ | refine Br.tt (by assumption) ?_ | refine Br.ff (by assumption) ?_ | (refine Br.tt ?_ ?_; · decide +kernel) | (refine Br.ff ?_ ?_; · decide +kernel)) | (refine Ck.pre ?_; first | refine Ck.drawn (by kernel_rfl) ?_ | refine Ck.mk rfl ?_) | (refine LetL.pre ?_; first | refine LetL.mk (ty := 33) _ a1 ?_ | refine LetL.mk [_] rfl ?_ | refine LetL.mk _ rfl ?_) | (refine CallN.pre ?_; first | refine CallN.pure hC rfl rfl ?_ | refine CallN.pure hP rfl rfl ?_ | refine CallN.lend (hD _) rfl (.full rfl n1 m1 .nil) ?_ | refine CallN.lend hE rfl (.same rfl (.clo (.ptr rfl rfl rfl .nil) .nil)) ?_) | refine forceAs.pass ?_ | refine forceEs.pass ?_ | refine forceC.pass ?_))); (try (conv => whnf)))





      exact ⟨.inl rfl, ⟨_, rfl, rfl⟩, trivial⟩
    | false =>
      rw [if_neg (fun h => by cases h.2)]
      ((repeat ((conv => whnf); (first | (refine LetN.pre ?_; first | ((conv => arg 1; whnf); refine LetN.mk ?_)) | (refine As.pre ?_; first | refine As.mk rfl ?_ | (refine As.mk ?_ ?_; · decide +kernel) | refine As.mk (andT (nor_self _) rfl) ?_ | refine As.mk (andT (nor_self _) (or_t _)) ?_ | refine As.mk (andT (or_t _) (or_nself _)) ?_ | refine As.mk (andT (or_t _) (or_t _)) ?_ | refine As.mk (andT (nor_self _) (andT (nor_self _) rfl)) ?_ | (refine As.mk ?_ ?_; · ((repeat' (refine andT ?_ ?_)) <;> (first | rfl | assumption | exact decide_eq_true (by omega) | exact decide_eq_true (by dsimp only; omega) | exact decide_eq_true (by simp; omega) | (simp; done))))) | (refine LetV.pre ?_; first | refine LetV.mk (.sc (.int _ _)) rfl ?_ | refine LetV.mk (.sc (.bool _)) rfl ?_ | refine LetV.mk (.sc _) rfl ?_ | refine LetV.mk (.agg _) rfl ?_ | refine LetV.mk (.slm _ _ _ _ _) rfl ?_ | refine LetV.mk (.ro _ _ _) rfl ?_ | refine LetV.mk (.ptr _ _ _ _) rfl ?_ | refine LetV.mk (.clo _ _ _) rfl ?_ | refine LetV.mk (.rp _ _) rfl ?_) | (refine LetI.pre ?_; first | refine LetI.wrap (by omega) (by omega) ?_ | refine LetI.mk _ rfl ?_) | (refine LetB.pre ?_; first | refine LetB.tt rfl ?_ | refine LetB.ff rfl ?_ | refine LetB.tt (by assumption) ?_ | refine LetB.ff (by assumption) ?_ | refine LetB.dect (by omega) ?_ | refine LetB.decf (by omega) ?_ | refine LetB.beqt (by omega) ?_ | refine LetB.beqf (by omega) ?_ | refine LetB.bnet (by omega) ?_ | refine LetB.bnef (by omega) ?_ | refine LetB.mk _ rfl ?_) | (refine Gd.pre ?_; first | refine Gd.run rfl ?_ | refine Gd.pass rfl ?_ | refine Gd.run (by assumption) ?_ | refine Gd.pass (by assumption) ?_ | (refine Gd.run ?_ ?_; · decide +kernel) | (refine Gd.pass ?_ ?_; · decide +kernel) | refine Gd.both ?_) | (refine Br.pre ?_; first | refine Br.tt rfl ?_ | refine Br.ff rfl ?_ | refine Br.tt (by assumption) ?_ | refine Br.ff (by assumption) ?_ | (refine Br.tt ?_ ?_; · decide +kernel) | (refine Br.ff ?_ ?_; · decide +kernel)) | (refine Ck.pre ?_; first | refine Ck.drawn (by kernel_rfl) ?_ | refine Ck.mk rfl ?_) | (refine LetL.pre ?_; first | refine LetL.mk (ty := 33) _ a1 ?_ | refine LetL.mk [_] rfl ?_ | refine LetL.mk _ rfl ?_) | (refine CallN.pre ?_; first | refine CallN.pure hC rfl rfl ?_ | refine CallN.pure hP rfl rfl ?_ | refine CallN.lend (hD _) rfl (.full rfl n1 m1 .nil) ?_ | refine CallN.lend hE rfl (.same rfl (.clo (.ptr rfl rfl rfl .nil) .nil)) ?_) | refine forceAs.pass ?_ | refine forceEs.pass ?_ | refine forceC.pass ?_))); (try (conv => whnf)))





      exact ⟨.inl rfl, ⟨_, rfl, rfl⟩, trivial⟩
  rw [if_neg (fun h => h.1.elim h6 h9)]
  ((repeat ((conv => whnf); (first | (refine LetN.pre ?_; first | ((conv => arg 1; whnf); refine LetN.mk ?_)) | (refine As.pre ?_; first | refine As.mk rfl ?_ | (refine As.mk ?_ ?_; · decide +kernel) | refine As.mk (andT (nor_self _) rfl) ?_ | refine As.mk (andT (nor_self _) (or_t _)) ?_ | refine As.mk (andT (or_t _) (or_nself _)) ?_ | refine As.mk (andT (or_t _) (or_t _)) ?_ | refine As.mk (andT (nor_self _) (andT (nor_self _) rfl)) ?_ | (refine As.mk ?_ ?_; · ((repeat' (refine andT ?_ ?_)) <;> (first | rfl | assumption | exact decide_eq_true (by omega) | exact decide_eq_true (by dsimp only; omega) | exact decide_eq_true (by simp; omega) | (simp; done))))) | (refine LetV.pre ?_; first | refine LetV.mk (.sc (.int _ _)) rfl ?_ | refine LetV.mk (.sc (.bool _)) rfl ?_ | refine LetV.mk (.sc _) rfl ?_ | refine LetV.mk (.agg _) rfl ?_ | refine LetV.mk (.slm _ _ _ _ _) rfl ?_ | refine LetV.mk (.ro _ _ _) rfl ?_ | refine LetV.mk (.ptr _ _ _ _) rfl ?_ | refine LetV.mk (.clo _ _ _) rfl ?_ | refine LetV.mk (.rp _ _) rfl ?_) | (refine LetI.pre ?_; first | refine LetI.wrap (by omega) (by omega) ?_ | refine LetI.mk _ rfl ?_) | (refine LetB.pre ?_; first | refine LetB.tt rfl ?_ | refine LetB.ff rfl ?_ | refine LetB.tt (by assumption) ?_ | refine LetB.ff (by assumption) ?_ | refine LetB.dect (by omega) ?_ | refine LetB.decf (by omega) ?_ | refine LetB.beqt (by omega) ?_ | refine LetB.beqf (by omega) ?_ | refine LetB.bnet (by omega) ?_ | refine LetB.bnef (by omega) ?_ | refine LetB.mk _ rfl ?_) | (refine Gd.pre ?_; first | refine Gd.run rfl ?_ | refine Gd.pass rfl ?_ | refine Gd.run (by assumption) ?_ | refine Gd.pass (by assumption) ?_ | (refine Gd.run ?_ ?_; · decide +kernel) | (refine Gd.pass ?_ ?_; · decide +kernel) | refine Gd.both ?_) | (refine Br.pre ?_; first | refine Br.tt rfl ?_ | refine Br.ff rfl ?_ | refine Br.tt (by assumption) ?_ | refine Br.ff (by assumption) ?_ | (refine Br.tt ?_ ?_; · decide +kernel) | (refine Br.ff ?_ ?_; · decide +kernel)) | (refine Ck.pre ?_; first | refine Ck.drawn (by kernel_rfl) ?_ | refine Ck.mk rfl ?_) | (refine LetL.pre ?_; first | refine LetL.mk (ty := 33) _ a1 ?_ | refine LetL.mk [_] rfl ?_ | refine LetL.mk _ rfl ?_) | (refine CallN.pre ?_; first | refine CallN.pure hC rfl rfl ?_ | refine CallN.pure hP rfl rfl ?_ | refine CallN.lend (hD _) rfl (.full rfl n1 m1 .nil) ?_ | refine CallN.lend hE rfl (.same rfl (.clo (.ptr rfl rfl rfl .nil) .nil)) ?_) | refine forceAs.pass ?_ | refine forceEs.pass ?_ | refine forceC.pass ?_))); (try (conv => whnf)))





  exact ⟨.inl rfl, ⟨_, rfl, rfl⟩, trivial⟩
end En
end Go.Proofs.YtgnakhljdjekbaaDoor
namespace Go.Proofs.YtgnakhljdjekbaaDoor
open Go.Proofs.YtgnakhljdjekbaaDoor.Am
set_option maxRecDepth 100000
namespace En
/-! ### The examples -/
def eG (i k r : Int) : E := ⟨i, 1, 5, k, 100 * i, 100 * i, ⟨#[]⟩, 0, 0, r, 0, 0, 0, 0, ⟨#[]⟩⟩
def eG1 : E := ⟨1, 1, 5, 3, 100, 100, ⟨#[65, 49]⟩, 5, 0, 0, 0, 0, 0, 0, ⟨#[]⟩⟩
def exG : List E := [eG1, eG 2 5 1, eG 3 6 2, eG 4 6 2]
theorem exG1_f (i k r : Int) (h : 0 ≤ i ∧ i ≤ 100) : AFun Tryd.prog 30 0 [int i, int k, int r] [] (en (eG i k r)) [] := by
  refine AFun.of_W T_ok mixed Tryd.func30 rfl (Nat.le_of_ble_eq_true rfl) rfl ?_
  unfold eG
  ((repeat ((conv => whnf); (first | (refine LetN.pre ?_; first | ((conv => arg 1; whnf); refine LetN.mk ?_)) | (refine As.pre ?_; first | refine As.mk rfl ?_ | (refine As.mk ?_ ?_; · decide +kernel) | refine As.mk (andT (nor_self _) rfl) ?_ | refine As.mk (andT (nor_self _) (or_t _)) ?_ | refine As.mk (andT (or_t _) (or_nself _)) ?_ | refine As.mk (andT (or_t _) (or_t _)) ?_ | refine As.mk (andT (nor_self _) (andT (nor_self _) rfl)) ?_ | (refine As.mk ?_ ?_; · ((repeat' (refine andT ?_ ?_)) <;> (first | rfl | assumption | exact decide_eq_true (by omega) | exact decide_eq_true (by dsimp only; omega) | exact decide_eq_true (by simp; omega) | (simp; done))))) | (refine LetV.pre ?_; first | refine LetV.mk (.sc (.int _ _)) rfl ?_ | refine LetV.mk (.sc (.bool _)) rfl ?_ | refine LetV.mk (.sc _) rfl ?_ | refine LetV.mk (.agg _) rfl ?_ | refine LetV.mk (.slm _ _ _ _ _) rfl ?_ | refine LetV.mk (.ro _ _ _) rfl ?_ | refine LetV.mk (.ptr _ _ _ _) rfl ?_ | refine LetV.mk (.clo _ _ _) rfl ?_ | refine LetV.mk (.rp _ _) rfl ?_) | (refine LetI.pre ?_; first | refine LetI.wrap (by omega) (by omega) ?_ | refine LetI.mk _ rfl ?_) | (refine LetB.pre ?_; first | refine LetB.tt rfl ?_ | refine LetB.ff rfl ?_ | refine LetB.tt (by assumption) ?_ | refine LetB.ff (by assumption) ?_ | refine LetB.dect (by omega) ?_ | refine LetB.decf (by omega) ?_ | refine LetB.beqt (by omega) ?_ | refine LetB.beqf (by omega) ?_ | refine LetB.bnet (by omega) ?_ | refine LetB.bnef (by omega) ?_ | refine LetB.mk _ rfl ?_) | (refine Gd.pre ?_; first | refine Gd.run rfl ?_ | refine Gd.pass rfl ?_ | refine Gd.run (by assumption) ?_ | refine Gd.pass (by assumption) ?_ | (refine Gd.run ?_ ?_; · decide +kernel) | (refine Gd.pass ?_ ?_; · decide +kernel) | refine Gd.both ?_) | (refine Br.pre ?_; first | refine Br.tt rfl ?_ | refine Br.ff rfl ?_ | refine Br.tt (by assumption) ?_ | refine Br.ff (by assumption) ?_ | (refine Br.tt ?_ ?_; · decide +kernel) | (refine Br.ff ?_ ?_; · decide +kernel)) | (refine Ck.pre ?_; first | refine Ck.drawn (by kernel_rfl) ?_ | refine Ck.mk rfl ?_) | (refine LetL.pre ?_; first | refine LetL.mk [_] rfl ?_ | refine LetL.mk _ rfl ?_) | refine forceAs.pass ?_ | refine forceEs.pass ?_ | refine forceC.pass ?_))); (try (conv => whnf)))
  exact ⟨.inl rfl, ⟨_, rfl, rfl⟩, trivial⟩
theorem exampleG_s : AFun Tryd.prog 15 0 [] [] (.slm ⟨false, true⟩ 0 15 0 4) [(0, .row 15 ety (exG.map en))] := by
  refine AFun.of_S T_ok mixed Tryd.func15 rfl (Nat.le_of_ble_eq_true rfl) rfl ?_
  have h1 := exG1_f 1 3 0 (by omega)
  have h2 := exG1_f 2 5 1 (by omega)
  have h3 := exG1_f 3 6 2 (by omega)
  have h4 := exG1_f 4 6 2 (by omega)
  ((repeat ((conv => whnf); (first | (refine LetN.pre ?_; first | ((conv => arg 1; whnf); refine LetN.mk ?_)) | (refine As.pre ?_; first | refine As.mk rfl ?_ | (refine As.mk ?_ ?_; · decide +kernel) | refine As.mk (andT (nor_self _) rfl) ?_ | refine As.mk (andT (nor_self _) (or_t _)) ?_ | refine As.mk (andT (or_t _) (or_nself _)) ?_ | refine As.mk (andT (or_t _) (or_t _)) ?_ | refine As.mk (andT (nor_self _) (andT (nor_self _) rfl)) ?_ | (refine As.mk ?_ ?_; · ((repeat' (refine andT ?_ ?_)) <;> (first | rfl | assumption | exact decide_eq_true (by omega) | exact decide_eq_true (by dsimp only; omega) | exact decide_eq_true (by simp; omega) | (simp; done))))) | (refine LetV.pre ?_; first | refine LetV.mk (.sc (.int _ _)) rfl ?_ | refine LetV.mk (.sc (.bool _)) rfl ?_ | refine LetV.mk (.sc _) rfl ?_ | refine LetV.mk (.agg _) rfl ?_ | refine LetV.mk (.slm _ _ _ _ _) rfl ?_ | refine LetV.mk (.ro _ _ _) rfl ?_ | refine LetV.mk (.ptr _ _ _ _) rfl ?_ | refine LetV.mk (.clo _ _ _) rfl ?_ | refine LetV.mk (.rp _ _) rfl ?_) | (refine LetI.pre ?_; first | refine LetI.wrap (by omega) (by omega) ?_ | refine LetI.mk _ rfl ?_) | (refine LetB.pre ?_; first | refine LetB.tt rfl ?_ | refine LetB.ff rfl ?_ | refine LetB.tt (by assumption) ?_ | refine LetB.ff (by assumption) ?_ | refine LetB.dect (by omega) ?_ | refine LetB.decf (by omega) ?_ | refine LetB.beqt (by omega) ?_ | refine LetB.beqf (by omega) ?_ | refine LetB.bnet (by omega) ?_ | refine LetB.bnef (by omega) ?_ | refine LetB.mk _ rfl ?_) | (refine Gd.pre ?_; first | refine Gd.run rfl ?_ | refine Gd.pass rfl ?_ | refine Gd.run (by assumption) ?_ | refine Gd.pass (by assumption) ?_ | (refine Gd.run ?_ ?_; · decide +kernel) | (refine Gd.pass ?_ ?_; · decide +kernel) | refine Gd.both ?_) | (refine Br.pre ?_; first | refine Br.tt rfl ?_ | refine Br.ff rfl ?_ | refine Br.tt (by assumption) ?_ | refine Br.ff (by assumption) ?_ | (refine Br.tt ?_ ?_; · decide +kernel) | (refine Br.ff ?_ ?_; · decide +kernel)) | (refine Ck.pre ?_; first | refine Ck.drawn (by kernel_rfl) ?_ | refine Ck.mk rfl ?_) | (refine LetL.pre ?_; first | refine LetL.mk [_] rfl ?_ | refine LetL.mk _ rfl ?_) | (refine CallN.pre ?_; first | refine CallN.pure h1 rfl rfl ?_ | refine CallN.pure h2 rfl rfl ?_ | refine CallN.pure h3 rfl rfl ?_ | refine CallN.pure h4 rfl rfl ?_) | refine forceAs.pass ?_ | refine forceEs.pass ?_ | refine forceC.pass ?_))); (try (conv => whnf)))
  exact ⟨_, SW.refl, .inl rfl, ⟨_, rfl, rfl⟩, rfl, trivial⟩
theorem exampleG_f : AFun Tryd.prog 15 0 [] [] (.ro ⟨false, true⟩ 15 (exG.map en)) [] := AFun.frz1 (H := []) exampleG_s rfl (pure_en _) rfl
abbrev fS : Fa := ⟨5, 5, 0, 4, 0, 0, ⟨#[]⟩⟩
abbrev gS : Fa := ⟨6, 5, 9, 0, 1, 0, ⟨#[]⟩⟩
abbrev eS (id day : Int) : E := ⟨id, 0, 0, 0, day, 0, ⟨#[]⟩, 0, 0, 0, 0, 0, 0, 0, ⟨#[]⟩⟩
theorem kS1 : keptP fS 500 = true := by decide
theorem kS2 : keptP fS 499 = false := by decide
theorem kS3 : keptP gS 900 = false := by decide
theorem dS : difP [fS, gS] [gS] (eS 17 600) = [⟨fS, true, true, 17⟩] := by kernel_rfl
theorem tS : textP ⟨fS, true, true, 17⟩ = ⟨#[45, 115, 116, 105, 112, 101, 110, 100, 32, 53, 32, 48, 32, 52, 32, 48, 32, 48, 58, 32, 98, 121, 32, 49, 55, 32, 107, 101, 112, 116]⟩ := by kernel_rfl
theorem lS : ltF fS gS = true := by decide
open Classical in
theorem enG1 : entE eG1 = 0 := by
  have hc : okCode eG1.course := ⟨⟨by decide, by decide⟩, by decide⟩
  unfold entE
  rw [decide_eq_true hc]
  decide +kernel
open Classical in
theorem enG2 : entE (eG 2 5 1) = 0 := by
  unfold entE
  generalize decide (okCode (eG 2 5 1).course) = oc
  cases oc <;> decide +kernel
open Classical in
theorem enG3 : entE (eG 3 6 2) = 0 := by
  unfold entE
  generalize decide (okCode (eG 3 6 2).course) = oc
  cases oc <;> decide +kernel
open Classical in
theorem enG4 : entE (eG 4 6 2) = 0 := by
  unfold entE
  generalize decide (okCode (eG 4 6 2).course) = oc
  cases oc <;> decide +kernel
theorem onG1 : oneE [] eG1 = 0 := by unfold oneE; rw [enG1]; decide
theorem onG2 : oneE [eG1] (eG 2 5 1) = 0 := by unfold oneE; rw [enG2]; decide
theorem onG3 : oneE [eG1, eG 2 5 1] (eG 3 6 2) = 0 := by unfold oneE; rw [enG3]; decide
theorem onG4 : oneE [eG1, eG 2 5 1, eG 3 6 2] (eG 4 6 2) = 0 := by unfold oneE; rw [enG4]; decide
theorem ckG2 : chkE [eG1, eG 2 5 1] = 0 := by
  rw [chkE, if_neg (by decide)]
  simp only [chkL, List.nil_append, List.cons_append, onG1, onG2, if_true]
theorem ckG3 : chkE [eG1, eG 2 5 1, eG 3 6 2] = 0 := by
  rw [chkE, if_neg (by decide)]
  simp only [chkL, List.nil_append, List.cons_append, onG1, onG2, onG3, if_true]
theorem ckG4 : chkE [eG1, eG 2 5 1, eG 3 6 2, eG 4 6 2] = 0 := by
  rw [chkE, if_neg (by decide)]
  simp only [chkL, List.nil_append, List.cons_append, onG1, onG2, onG3, onG4, if_true]
theorem mS1 : mayP [eG1, eG 2 5 1] (eG 3 6 2) = 0 := by
  rw [mayP, ckG2, if_neg (fun h => h rfl)]
  show (if chkE [eG1, eG 2 5 1, eG 3 6 2] ≠ 0 then _ else _) = _
  rw [ckG3, if_neg (fun h => h rfl)]
  decide
theorem mS2 : mayP [eG1, eG 2 5 1, eG 3 6 2] (eG 4 6 2) = 6 := by
  rw [mayP, ckG3, if_neg (fun h => h rfl)]
  show (if chkE [eG1, eG 2 5 1, eG 3 6 2, eG 4 6 2] ≠ 0 then _ else _) = _
  rw [ckG4, if_neg (fun h => h rfl)]
  decide
theorem okI_small {n : Int} (h : 0 ≤ n ∧ n < 100) : okI n := ⟨by omega, by omega⟩
set_option maxHeartbeats 1600000 in
set_option maxRecDepth 100000 in
theorem sanity_f : AFun Tryd.prog 6 0 [] [] (bool true) [] := by
  have k1 := Kept_f fS (eS 0 500)
  have k2 := Kept_f fS (eS 0 499)
  have k3 := Kept_f gS (eS 0 900)
  rw [kS1] at k1
  rw [kS2] at k2
  rw [kS3] at k3
  have hd := Differ_f [fS, gS] [gS] (eS 17 600) ⟨true, true⟩ ⟨true, true⟩ (by decide) (by decide) (fun x hx => by
    rcases List.mem_cons.1 hx with rfl | hx
    · decide
    · rw [List.mem_singleton.1 hx]; decide) (fun x hx => by rw [List.mem_singleton.1 hx]; decide)
  rw [dS] at hd
  have ht := Text_f ⟨fS, true, true, 17⟩ (fun n hn => by
    simp only [List.mem_cons, List.not_mem_nil, or_false] at hn
    exact ItoaS_f n (by omega)) (fun n hn => by
    simp only [List.mem_cons, List.not_mem_nil, or_false] at hn
    exact okI_small (by omega)) (by decide)
  rw [tS] at ht
  have hl := Less_f fS gS
  rw [lS] at hl
  have hm1 := fun fl => May_f [eG1, eG 2 5 1] (eG 3 6 2) fl (by decide)
  rw [mS1] at hm1
  have hm2 := fun fl => May_f [eG1, eG 2 5 1, eG 3 6 2] (eG 4 6 2) fl (by decide)
  rw [mS2] at hm2
  refine AFun.of_VS T_ok Tryd.func6 rfl (Nat.le_of_ble_eq_true rfl) ?_
  refine VS.of_V T_ok mixed rfl ?_
  ((repeat ((conv => whnf); (first | (refine LetN.pre ?_; first | ((conv => arg 1; whnf); refine LetN.mk ?_)) | (refine As.pre ?_; first | refine As.mk rfl ?_ | (refine As.mk ?_ ?_; · decide +kernel) | refine As.mk (andT (nor_self _) rfl) ?_ | refine As.mk (andT (nor_self _) (or_t _)) ?_ | refine As.mk (andT (or_t _) (or_nself _)) ?_ | refine As.mk (andT (or_t _) (or_t _)) ?_ | refine As.mk (andT (nor_self _) (andT (nor_self _) rfl)) ?_ | (refine As.mk ?_ ?_; · ((repeat' (refine andT ?_ ?_)) <;> (first | rfl | assumption | exact decide_eq_true (by omega) | exact decide_eq_true (by dsimp only; omega) | exact decide_eq_true (by simp; omega) | (simp; done))))) | (refine LetV.pre ?_; first | refine LetV.mk (.sc (.int _ _)) rfl ?_ | refine LetV.mk (.sc (.bool _)) rfl ?_ | refine LetV.mk (.sc _) rfl ?_ | refine LetV.mk (.agg _) rfl ?_ | refine LetV.mk (.slm _ _ _ _ _) rfl ?_ | refine LetV.mk (.ro _ _ _) rfl ?_ | refine LetV.mk (.ptr _ _ _ _) rfl ?_ | refine LetV.mk (.clo _ _ _) rfl ?_ | refine LetV.mk (.rp _ _) rfl ?_) | (refine LetI.pre ?_; first | refine LetI.wrap (by omega) (by omega) ?_ | refine LetI.mk _ rfl ?_) | (refine LetB.pre ?_; first | refine LetB.tt rfl ?_ | refine LetB.ff rfl ?_ | refine LetB.tt (by assumption) ?_ | refine LetB.ff (by assumption) ?_ | (refine LetB.tt ?_ ?_; · (decide +kernel)) | refine LetB.dect (by omega) ?_ | refine LetB.decf (by omega) ?_ | refine LetB.beqt (by omega) ?_ | refine LetB.beqf (by omega) ?_ | refine LetB.bnet (by omega) ?_ | refine LetB.bnef (by omega) ?_ | refine LetB.mk _ rfl ?_) | (refine Gd.pre ?_; first | refine Gd.run rfl ?_ | refine Gd.pass rfl ?_ | refine Gd.run (by assumption) ?_ | refine Gd.pass (by assumption) ?_ | (refine Gd.run ?_ ?_; · decide +kernel) | (refine Gd.pass ?_ ?_; · decide +kernel) | refine Gd.both ?_) | (refine Br.pre ?_; first | refine Br.tt rfl ?_ | refine Br.ff rfl ?_ | refine Br.tt (by assumption) ?_ | refine Br.ff (by assumption) ?_ | (refine Br.tt ?_ ?_; · decide +kernel) | (refine Br.ff ?_ ?_; · decide +kernel)) | (refine Ck.pre ?_; first | refine Ck.drawn (by kernel_rfl) ?_ | refine Ck.mk rfl ?_) | (refine LetL.pre ?_; first | refine LetL.mk [_] rfl ?_ | refine LetL.mk _ rfl ?_) | (refine CallN.pre ?_; first | refine CallN.pure k1 rfl rfl ?_ | refine CallN.pure k2 rfl rfl ?_ | refine CallN.pure k3 rfl rfl ?_ | refine CallN.pure hd rfl rfl ?_ | refine CallN.pure ht rfl rfl ?_ | refine CallN.pure exampleG_f rfl rfl ?_ | refine CallN.pure hl rfl rfl ?_ | refine CallN.pure (hm1 _) rfl rfl ?_ | refine CallN.pure (hm2 _) rfl rfl ?_) | refine forceAs.pass ?_ | refine forceEs.pass ?_ | refine forceC.pass ?_))); (try (conv => whnf)))










  exact ⟨_, SW.refl, .inl rfl, ⟨_, rfl, rfl⟩, trivial⟩
end En
end Go.Proofs.YtgnakhljdjekbaaDoor
namespace Go.Proofs.YtgnakhljdjekbaaDoor
open Go.Proofs.YtgnakhljdjekbaaDoor.Am
set_option maxRecDepth 100000
namespace Sc
abbrev int (a : Int) : AV := .sc (.int .i64 a)
abbrev bool (b : Bool) : AV := .sc (.bool b)
abbrev Scl := Int × Int × Int
abbrev scA (s : Scl) : AV := .agg [int s.1, int s.2.1, int s.2.2]
def lim (n a b : Int) : Int := max (min a b) (min n (max a b))
theorem lim_spec (n a b : Int) : lim n a b = max (min a b) (min n (max a b)) := rfl
/-- A scale is right. -/
abbrev okS (s : Scl) : Prop := (-1000 ≤ s.1 ∧ s.1 ≤ 1000) ∧ (-1000 ≤ s.2.1 ∧ s.2.1 ≤ 1000) ∧ s.1 ≠ s.2.1 ∧ min s.1 s.2.1 ≤ s.2.2 ∧ s.2.2 ≤ max s.1 s.2.1
def chk (s : Scl) : Int := if okS s then 0 else 10
theorem chk_spec (s : Scl) : (chk s = 0 ∧ okS s) ∨ (chk s = 10 ∧ ¬ okS s) := by
  unfold chk; split
  · exact .inl ⟨rfl, by assumption⟩
  · exact .inr ⟨rfl, by assumption⟩
/-- A grade lies on a scale. -/
abbrev onS (s : Scl) (g : Int) : Prop := okS s ∧ min s.1 s.2.1 ≤ g ∧ g ≤ max s.1 s.2.1
abbrev rgt (s : Scl) (g : Int) : Bool := decide (onS s g)
/-- A grade reaches another. -/
abbrev rea (s : Scl) (g m : Int) : Prop := onS s g ∧ (g = m ∨ (m < g ↔ s.1 < s.2.1))
end Sc
end Go.Proofs.YtgnakhljdjekbaaDoor
