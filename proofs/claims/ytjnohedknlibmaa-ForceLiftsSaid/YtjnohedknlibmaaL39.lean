/- force: parts of the proof, DforceFP DforceFQ DforceFR DforceFS DforceFT DforceFU. -/
import Derived.Test.YtjnohedknlibmaaL38
set_option linter.all false
namespace Go.Proofs.Ytjnohedknlibmaa
open Go.Proofs.Ytjnohedknlibmaa.Am
namespace En
open Classical
/-- The error of the fields that a kind has. -/
def fldE (oc : Bool) (e : E) : Int :=
  if e.kind = 3 then (if oc = false then 12 else if e.credits < 1 ∨ 60 < e.credits then 3 else if e.grade < -1000 ∨ 1000 < e.grade then 3 else 0)
  else if e.kind = 1 ∨ e.kind = 8 then (if e.programme < 1 then 3 else 0)
  else if e.kind = 2 then (if e.programme < 1 ∨ e.version < 1 then 3 else 0)
  else if e.kind = 7 then (if (e.frm < 1 ∨ 8 < e.frm) ∨ e.frm = e.school then 3 else 0)
  else if e.kind = 4 then (if e.grade < -1000 ∨ 1000 < e.grade then 3 else if (e.ref < 1 ∨ 899999 < e.ref) ∨ e.ref = e.id then 21 else 0)
  else (if (e.ref < 1 ∨ 899999 < e.ref) ∨ e.ref = e.id then 21 else 0)
/-- No field but those of its kind is filled. -/
def onlyF (k : Int) : List Bool → Bool
  | [c, cr, g, r, f, p, v] =>
    if k = 1 ∨ k = 8 then !(c || cr || g || r || f || v)
    else if k = 2 then !(c || cr || g || r || f)
    else if k = 3 then !(r || f || p || v)
    else if k = 4 then !(c || cr || f || p || v)
    else if k = 7 then !(c || cr || g || r || p || v)
    else !(c || cr || g || f || p || v)
  | _ => false
def entX (oc on : Bool) (e : E) : Int :=
  if (e.id < 1 ∨ 899999 < e.id) ∨ (e.school < 1 ∨ 8 < e.school) ∨ (e.student < 1 ∨ 999999 < e.student) then 1
  else if (e.kind < 1 ∨ 9 < e.kind) ∨ on = false then 20
  else if (e.day < 0 ∨ 100000 < e.day) ∨ (e.on_ < 0 ∨ e.day < e.on_) then 23
  else fldE oc e
noncomputable def entE (e : E) : Int := entX (decide (okCode e.course)) (onlyF e.kind (fillB e)) e
theorem mask (k : Int) (hk : k = 1 ∨ k = 2 ∨ k = 3 ∨ k = 4 ∨ k = 5 ∨ k = 6 ∨ k = 7 ∨ k = 8 ∨ k = 9) : ∀ c cr g r f p v : Bool, (IntKind.i64.wrap ((BitVec.ofInt 64 (fillA [c, cr, g, r, f, p, v] 0 0)) &&& ~~~(BitVec.ofInt 64 (hasK k))).toNat != 0) = !(onlyF k [c, cr, g, r, f, p, v]) := by
  rcases hk with rfl | rfl | rfl | rfl | rfl | rfl | rfl | rfl | rfl <;> decide +kernel
theorem maskE (e : E) (hk : e.kind = 1 ∨ e.kind = 2 ∨ e.kind = 3 ∨ e.kind = 4 ∨ e.kind = 5 ∨ e.kind = 6 ∨ e.kind = 7 ∨ e.kind = 8 ∨ e.kind = 9) : (IntKind.i64.wrap ((BitVec.ofInt 64 (fillA (fillB e) 0 0)) &&& ~~~(BitVec.ofInt 64 (hasK e.kind))).toNat != 0) = !(onlyF e.kind (fillB e)) := mask _ hk ..
/-! ### The rules -/
theorem entX_arg {oc on : Bool} {e : E} (h : (e.id < 1 ∨ 899999 < e.id) ∨ (e.school < 1 ∨ 8 < e.school) ∨ (e.student < 1 ∨ 999999 < e.student)) : entX oc on e = 1 := if_pos h
theorem entX_kind {oc on : Bool} {e : E} (h : ¬ ((e.id < 1 ∨ 899999 < e.id) ∨ (e.school < 1 ∨ 8 < e.school) ∨ (e.student < 1 ∨ 999999 < e.student))) (k : (e.kind < 1 ∨ 9 < e.kind) ∨ on = false) : entX oc on e = 20 := (if_neg h).trans (if_pos k)
theorem entX_date {oc on : Bool} {e : E} (h : ¬ ((e.id < 1 ∨ 899999 < e.id) ∨ (e.school < 1 ∨ 8 < e.school) ∨ (e.student < 1 ∨ 999999 < e.student))) (k : ¬ (e.kind < 1 ∨ 9 < e.kind)) (o : on = true) (d : (e.day < 0 ∨ 100000 < e.day) ∨ (e.on_ < 0 ∨ e.day < e.on_)) : entX oc on e = 23 :=
  (if_neg h).trans ((if_neg (by rintro (h | h); exact k h; rw [o] at h; cases h)).trans (if_pos d))
theorem entX_fld {oc on : Bool} {e : E} (h : ¬ ((e.id < 1 ∨ 899999 < e.id) ∨ (e.school < 1 ∨ 8 < e.school) ∨ (e.student < 1 ∨ 999999 < e.student))) (k : ¬ (e.kind < 1 ∨ 9 < e.kind)) (o : on = true) (d : ¬ ((e.day < 0 ∨ 100000 < e.day) ∨ (e.on_ < 0 ∨ e.day < e.on_))) : entX oc on e = fldE oc e :=
  (if_neg h).trans ((if_neg (by rintro (h | h); exact k h; rw [o] at h; cases h)).trans (if_neg d))
structure Rule where
  f : Int
  fn : Nat
  w : Bool
  err : Int
abbrev ruleA (r : Rule) : AV := .agg [int r.f, .clo r.fn [.ptr 0 15 0 0], int r.err]
abbrev rty : TypeId := 105
def mk2 (hv f : Int) : Bool := IntKind.i64.wrap ((BitVec.ofInt 64 hv) &&& (BitVec.ofInt 64 f)).toNat != 0
def ruleE (hv : Int) : List Rule → Int
  | [] => 0
  | r :: l => if mk2 hv r.f && r.w then r.err else ruleE hv l
structure Rule.Ok (e : E) (r : Rule) : Prop where
  run : AFun Try.prog r.fn 0 [.rp (en e) 0] [] (bool r.w) []
  call : callable Try.prog r.fn = true
noncomputable def rulesOf (e : E) : List Rule := [⟨1, 73, !decide (okCode e.course), 12⟩, ⟨2, 75, decide (e.credits < 1 ∨ 60 < e.credits), 3⟩, ⟨4, 76, decide (e.grade < -1000 ∨ 1000 < e.grade), 3⟩, ⟨32, 77, decide (e.programme < 1), 3⟩,
  ⟨64, 78, decide (e.version < 1), 3⟩, ⟨16, 79, decide ((e.frm < 1 ∨ 8 < e.frm) ∨ e.frm = e.school), 3⟩, ⟨8, 80, decide ((e.ref < 1 ∨ 899999 < e.ref) ∨ e.ref = e.id), 21⟩]
theorem rulesOf_ok (e : E) : ∀ r ∈ rulesOf e, r.Ok e := by
  intro r hr
  simp only [rulesOf, List.mem_cons, List.not_mem_nil, or_false] at hr
  rcases hr with rfl | rfl | rfl | rfl | rfl | rfl | rfl
  · exact ⟨ck1_f e, by kernel_rfl⟩
  · exact ⟨ck2_f e, by kernel_rfl⟩
  · exact ⟨ck3_f e, by kernel_rfl⟩
  · exact ⟨ck4_f e, by kernel_rfl⟩
  · exact ⟨ck5_f e, by kernel_rfl⟩
  · exact ⟨ck6_f e, by kernel_rfl⟩
  · exact ⟨ck7_f e, by kernel_rfl⟩
theorem ruleE_fld (e : E) (hk : e.kind = 1 ∨ e.kind = 2 ∨ e.kind = 3 ∨ e.kind = 4 ∨ e.kind = 5 ∨ e.kind = 6 ∨ e.kind = 7 ∨ e.kind = 8 ∨ e.kind = 9) : ruleE (hasK e.kind) (rulesOf e) = fldE (decide (okCode e.course)) e := by
  have key : ∀ c cr g p v f r : Bool, ∀ k : Int, (k = 1 ∨ k = 2 ∨ k = 3 ∨ k = 4 ∨ k = 5 ∨ k = 6 ∨ k = 7 ∨ k = 8 ∨ k = 9) →
      ruleE (hasK k) [⟨1, 0, !c, 12⟩, ⟨2, 0, cr, 3⟩, ⟨4, 0, g, 3⟩, ⟨32, 0, p, 3⟩, ⟨64, 0, v, 3⟩, ⟨16, 0, f, 3⟩, ⟨8, 0, r, 21⟩] =
      if k = 3 then (if c = false then 12 else if cr = true then 3 else if g = true then 3 else 0)
      else if k = 1 ∨ k = 8 then (if p = true then 3 else 0)
      else if k = 2 then (if p = true ∨ v = true then 3 else 0)
      else if k = 7 then (if f = true then 3 else 0)
      else if k = 4 then (if g = true then 3 else if r = true then 21 else 0)
      else (if r = true then 21 else 0) := by
    intro c cr g p v f r k hk
    rcases hk with rfl | rfl | rfl | rfl | rfl | rfl | rfl | rfl | rfl <;> revert c cr g p v f r <;> decide +kernel
  have := key (decide (okCode e.course)) (decide (e.credits < 1 ∨ 60 < e.credits)) (decide (e.grade < -1000 ∨ 1000 < e.grade)) (decide (e.programme < 1)) (decide (e.version < 1)) (decide ((e.frm < 1 ∨ 8 < e.frm) ∨ e.frm = e.school)) (decide ((e.ref < 1 ∨ 899999 < e.ref) ∨ e.ref = e.id)) e.kind hk
  simp only [decide_eq_true_eq] at this
  exact this
abbrev chkS (e : E) (rs : List Rule) (k : Nat) : AS := ⟨[(1, .ptr 0 15 0 0), (51, .slm {} 1 3 0 rs.length), (52, int rs.length), (53, int k)], [(0, .row 15 ety [en e]), (1, .row 3 rty (rs.map ruleA))], 2⟩
theorem rule_names (rs : List Rule) (ok : Nat → Bool) (h : ok 0 = true) : AV.namesL ok (rs.map ruleA) = true := by
  rw [namesL_all, List.all_map]
  refine List.all_eq_true.2 fun r _ => ?_
  simp only [Function.comp_def, AV.names, AV.namesL, h]; rfl
theorem chkNames (e : E) (rs : List Rule) (ok : Nat → Bool) (h : ok 0 = true) : namesAll ok [(0, .row 15 ety [en e]), (1, .row 3 rty (rs.map ruleA))] = true := by
  simp only [namesAll, Blk.names, rule_names rs ok h]; rfl
theorem rule_ren (rs : List Rule) : AV.renL id (rs.map ruleA) = rs.map ruleA := by
  rw [renL_map, List.map_map]; rfl
theorem getD_rule {l : List Rule} {k : Nat} (d : Rule) (h : k < l.length) : ruleA (l.getD k d) = Am.part true 3 0 3 ((l.map ruleA).getD (0 + k) (.sc undef)) := by
  rw [Nat.zero_add, List.getD_eq_getElem?_getD, List.getD_eq_getElem?_getD, List.getElem?_map, List.getElem?_eq_getElem h]; rfl
set_option maxHeartbeats 1600000 in
set_option maxRecDepth 100000 in
theorem Check_f (e : E) : AFun Try.prog 58 0 [en e] [] (int (entE e)) [] := by
  have hfl := filled_f e
  have hh := has_f e.kind
  have hm := maskE e
  have hru := ruleE_fld e
  have hrk := rulesOf_ok e
  have hrl : (rulesOf e).length = 7 := rfl
  have hra : (rulesOf e).map ruleA = [.agg [int 1, .clo 73 [.ptr 0 15 0 0], int 12], .agg [int 2, .clo 75 [.ptr 0 15 0 0], int 3], .agg [int 4, .clo 76 [.ptr 0 15 0 0], int 3], .agg [int 32, .clo 77 [.ptr 0 15 0 0], int 3],
    .agg [int 64, .clo 78 [.ptr 0 15 0 0], int 3], .agg [int 16, .clo 79 [.ptr 0 15 0 0], int 3], .agg [int 8, .clo 80 [.ptr 0 15 0 0], int 21]] := rfl
  unfold entE
  generalize onlyF e.kind (fillB e) = on at hm ⊢
  generalize fillA (fillB e) 0 0 = fl at hm hfl
  generalize decide (okCode e.course) = oc at hru ⊢
  generalize hasK e.kind = hv at hm hh hru
  generalize rulesOf e = rs at hru hrk hrl hra
  refine AFun.of_W T_ok mixed Try.func58 rfl (Nat.le_of_ble_eq_true rfl) rfl ?_
  by_cases a1 : e.id < 1 ∨ 899999 < e.id
  case pos =>
    ((repeat ((conv => whnf); (first | (refine LetN.pre ?_; first | ((conv => arg 1; whnf); refine LetN.mk ?_)) | (refine As.pre ?_; first | refine As.mk rfl ?_) | (refine LetV.pre ?_; first | refine LetV.mk (.sc (.int _ _)) rfl ?_) | (refine Br.pre ?_; first | refine Br.tt rfl ?_) | (refine Ck.pre ?_; first | refine Ck.mk rfl ?_) | (refine CallN.pre ?_; first | refine CallN.dect (beyond_f _ _ _) rfl (by assumption) ?_)))); (try (conv => whnf)))




    exact ⟨.inl rfl, ⟨_, rfl, congrArg int (entX_arg (.inl a1)).symm⟩, trivial⟩
  by_cases a2 : e.school < 1 ∨ 8 < e.school
  case pos =>
    ((repeat ((conv => whnf); (first | (refine LetN.pre ?_; first | ((conv => arg 1; whnf); refine LetN.mk ?_)) | (refine As.pre ?_; first | refine As.mk rfl ?_) | (refine LetV.pre ?_; first | refine LetV.mk (.sc (.int _ _)) rfl ?_) | (refine Br.pre ?_; first | refine Br.tt rfl ?_ | refine Br.ff rfl ?_) | (refine Ck.pre ?_; first | refine Ck.mk rfl ?_) | (refine CallN.pre ?_; first | refine CallN.dect (beyond_f _ _ _) rfl (by assumption) ?_ | refine CallN.decf (beyond_f _ _ _) rfl (by assumption) ?_)))); (try (conv => whnf)))




    exact ⟨.inl rfl, ⟨_, rfl, congrArg int (entX_arg (.inr (.inl a2))).symm⟩, trivial⟩
  by_cases a3 : e.student < 1 ∨ 999999 < e.student
  case pos =>
    ((repeat ((conv => whnf); (first | (refine LetN.pre ?_; first | ((conv => arg 1; whnf); refine LetN.mk ?_)) | (refine As.pre ?_; first | refine As.mk rfl ?_) | (refine LetV.pre ?_; first | refine LetV.mk (.sc (.int _ _)) rfl ?_) | (refine Br.pre ?_; first | refine Br.tt rfl ?_ | refine Br.ff rfl ?_) | (refine Ck.pre ?_; first | refine Ck.mk rfl ?_) | (refine CallN.pre ?_; first | refine CallN.dect (beyond_f _ _ _) rfl (by assumption) ?_ | refine CallN.decf (beyond_f _ _ _) rfl (by assumption) ?_)))); (try (conv => whnf)))




    exact ⟨.inl rfl, ⟨_, rfl, congrArg int (entX_arg (.inr (.inr a3))).symm⟩, trivial⟩
  have hA : ¬ ((e.id < 1 ∨ 899999 < e.id) ∨ (e.school < 1 ∨ 8 < e.school) ∨ (e.student < 1 ∨ 999999 < e.student)) := by rintro (h | h | h) <;> contradiction
  by_cases a4 : e.kind < 1 ∨ 9 < e.kind
  case pos =>
    ((repeat ((conv => whnf); (first | (refine LetN.pre ?_; first | ((conv => arg 1; whnf); refine LetN.mk ?_)) | (refine As.pre ?_; first | refine As.mk rfl ?_) | (refine LetV.pre ?_; first | refine LetV.mk (.sc (.int _ _)) rfl ?_) | (refine Br.pre ?_; first | refine Br.tt rfl ?_ | refine Br.ff rfl ?_) | (refine Ck.pre ?_; first | refine Ck.mk rfl ?_) | (refine CallN.pre ?_; first | refine CallN.dect (beyond_f _ _ _) rfl (by assumption) ?_ | refine CallN.decf (beyond_f _ _ _) rfl (by assumption) ?_)))); (try (conv => whnf)))




    exact ⟨.inl rfl, ⟨_, rfl, congrArg int (entX_kind hA (.inl a4)).symm⟩, trivial⟩
  have hp := PLift.up (hm (by omega))
  replace hru := hru (by omega)
  clear hm
  cases on <;> simp only [Bool.not_true, Bool.not_false] at hp
  case false =>
    ((repeat ((conv => whnf); (first | (refine LetN.pre ?_; first | ((conv => arg 1; whnf); refine LetN.mk ?_)) | (refine As.pre ?_; first | refine As.mk rfl ?_) | (refine LetV.pre ?_; first | refine LetV.mk (.sc (.int _ _)) rfl ?_ | refine LetV.mk (.agg _) rfl ?_) | (refine LetI.pre ?_; first | refine LetI.mk _ rfl ?_) | (refine LetB.pre ?_; first | refine LetB.tt hp.down ?_) | (refine Br.pre ?_; first | refine Br.tt rfl ?_ | refine Br.ff rfl ?_) | (refine Ck.pre ?_; first | refine Ck.drawn (by kernel_rfl) ?_ | refine Ck.mk rfl ?_) | (refine CallN.pre ?_; first | refine CallN.pure hfl rfl rfl ?_ | refine CallN.pure hh rfl rfl ?_ | refine CallN.decf (beyond_f _ _ _) rfl (by assumption) ?_)))); (try (conv => whnf)))






    exact ⟨.inl rfl, ⟨_, rfl, congrArg int (entX_kind hA (.inr rfl)).symm⟩, trivial⟩
  by_cases d1 : e.day < 0 ∨ 100000 < e.day
  case pos =>
    ((repeat ((conv => whnf); (first | (refine LetN.pre ?_; first | ((conv => arg 1; whnf); refine LetN.mk ?_)) | (refine As.pre ?_; first | refine As.mk rfl ?_) | (refine LetV.pre ?_; first | refine LetV.mk (.sc (.int _ _)) rfl ?_ | refine LetV.mk (.agg _) rfl ?_) | (refine LetI.pre ?_; first | refine LetI.mk _ rfl ?_) | (refine LetB.pre ?_; first | refine LetB.ff hp.down ?_) | (refine Br.pre ?_; first | refine Br.tt rfl ?_ | refine Br.ff rfl ?_) | (refine Ck.pre ?_; first | refine Ck.drawn (by kernel_rfl) ?_ | refine Ck.mk rfl ?_) | (refine CallN.pre ?_; first | refine CallN.pure hfl rfl rfl ?_ | refine CallN.pure hh rfl rfl ?_ | refine CallN.dect (beyond_f _ _ _) rfl (by assumption) ?_ | refine CallN.decf (beyond_f _ _ _) rfl (by assumption) ?_)))); (try (conv => whnf)))






    exact ⟨.inl rfl, ⟨_, rfl, congrArg int (entX_date hA a4 rfl (.inl d1)).symm⟩, trivial⟩
  by_cases d2 : e.on_ < 0 ∨ e.day < e.on_
  case pos =>
    ((repeat ((conv => whnf); (first | (refine LetN.pre ?_; first | ((conv => arg 1; whnf); refine LetN.mk ?_)) | (refine As.pre ?_; first | refine As.mk rfl ?_) | (refine LetV.pre ?_; first | refine LetV.mk (.sc (.int _ _)) rfl ?_ | refine LetV.mk (.agg _) rfl ?_) | (refine LetI.pre ?_; first | refine LetI.mk _ rfl ?_) | (refine LetB.pre ?_; first | refine LetB.ff hp.down ?_) | (refine Br.pre ?_; first | refine Br.tt rfl ?_ | refine Br.ff rfl ?_) | (refine Ck.pre ?_; first | refine Ck.drawn (by kernel_rfl) ?_ | refine Ck.mk rfl ?_) | (refine CallN.pre ?_; first | refine CallN.pure hfl rfl rfl ?_ | refine CallN.pure hh rfl rfl ?_ | refine CallN.dect (beyond_f _ _ _) rfl (by assumption) ?_ | refine CallN.decf (beyond_f _ _ _) rfl (by assumption) ?_)))); (try (conv => whnf)))






    exact ⟨.inl rfl, ⟨_, rfl, congrArg int (entX_date hA a4 rfl (.inr d2)).symm⟩, trivial⟩
  have hD : ¬ ((e.day < 0 ∨ 100000 < e.day) ∨ (e.on_ < 0 ∨ e.day < e.on_)) := by rintro (h | h) <;> contradiction
  rw [entX_fld hA a4 rfl hD, ← hru]
  ((repeat ((conv => whnf); (first | (refine LetN.pre ?_; first | ((conv => arg 1; whnf); refine LetN.mk ?_)) | (refine As.pre ?_; first | refine As.mk rfl ?_) | (refine LetV.pre ?_; first | refine LetV.mk (.sc (.int _ _)) rfl ?_ | refine LetV.mk (.agg _) rfl ?_) | (refine LetI.pre ?_; first | refine LetI.mk _ rfl ?_) | (refine LetB.pre ?_; first | refine LetB.ff hp.down ?_) | (refine Br.pre ?_; first | refine Br.ff rfl ?_) | (refine Ck.pre ?_; first | refine Ck.drawn (by kernel_rfl) ?_ | refine Ck.mk rfl ?_) | (refine CallN.pre ?_; first | refine CallN.pure hfl rfl rfl ?_ | refine CallN.pure hh rfl rfl ?_ | refine CallN.decf (beyond_f _ _ _) rfl (by assumption) ?_)))); (try (conv => whnf)))






  refine LoopN.weak (s1 := chkS e rs 0) ?sw1 ?_
  case sw1 => exact SW.mk id rfl rfl (chkNames e rs _ rfl) ⟨.refl _, VLe2.slm_of hrl, VLe2.int (by rw [hrl]), .refl _, trivial⟩ (haveV.row rfl rfl (haveV.one (by rw [Blk.ren, rule_ren, hra] <;> rfl) trivial))
  generalize hX : ruleE hv rs = X
  have hrm : (rs.map ruleA).length = rs.length := List.length_map _
  clear hra hp hfl hru
  refine LoopN.ind T_ok mixed (S := chkS e rs) (fun k => rs.length - k) (fun k => k ≤ rs.length ∧ X = ruleE hv (rs.drop k)) (fun _ => rfl) (fun k hi ih => ?_) 0 ⟨Nat.zero_le _, hX.symm⟩
  obtain ⟨g1, g2⟩ := hi
  by_cases hlt : k < rs.length
  case neg =>
    rw [List.drop_eq_nil_of_le (by omega)] at g2
    rw [g2]
    clear ih
    ((repeat ((conv => whnf); (first | (refine As.pre ?_; first | refine As.mk rfl ?_) | (refine LetB.pre ?_; first | refine LetB.decf (by omega) ?_) | (refine Br.pre ?_; first | refine Br.ff rfl ?_) | (refine Ck.pre ?_; first | refine Ck.mk rfl ?_)))); (try (conv => whnf)))
    exact ⟨.inl rfl, ⟨_, rfl, rfl⟩, trivial⟩
  have hld : ruleA (rs.getD k ⟨0, 0, false, 0⟩) = Am.part true 3 0 3 ((rs.map ruleA).getD (0 + k) (.sc undef)) := getD_rule _ hlt
  have hin : rs.getD k ⟨0, 0, false, 0⟩ ∈ rs := by
    rw [List.getD_eq_getElem?_getD, List.getElem?_eq_getElem hlt]
    exact List.getElem_mem _
  rw [List.drop_eq_getElem_cons hlt, show rs[k] = rs.getD k ⟨0, 0, false, 0⟩ by rw [List.getD_eq_getElem?_getD, List.getElem?_eq_getElem hlt]; rfl, ruleE] at g2
  obtain ⟨hr, hcl⟩ := hrk _ hin
  generalize rs.getD k ⟨0, 0, false, 0⟩ = r at hld g2 hr hcl
  have hmk : (IntKind.i64.wrap ((BitVec.ofInt 64 hv) &&& (BitVec.ofInt 64 r.f)).toNat != 0) = mk2 hv r.f := rfl
  have next : X = ruleE hv (rs.drop (k + 1)) → LoopN Try.prog 0 Try.f58.ntmps _ (chkS e rs (k + 1)) _ := fun h => ih (k + 1) ⟨by omega, h⟩ (by omega)
  clear ih hrk
  cases hb : mk2 hv r.f with
  | false =>
    rw [hb] at hmk g2
    have hp := PLift.up hmk
    clear hmk
    ((repeat ((conv => whnf); (first | (refine LetN.pre ?_; first | ((conv => arg 1; whnf); refine LetN.mk ?_)) | (refine As.pre ?_; first | refine As.mk rfl ?_ | (refine As.mk ?_ ?_; · ((repeat' (refine andT ?_ ?_)) <;> (first | rfl | assumption | exact decide_eq_true (by omega) | exact decide_eq_true (by dsimp only; omega) | exact decide_eq_true (by simp; omega) | (simp; done))))) | (refine LetV.pre ?_; first | refine LetV.mk (t := rty) _ hld ?_ | refine LetV.mk (.sc (.int _ _)) rfl ?_) | (refine LetI.pre ?_; first | refine LetI.wrap (by omega) (by omega) ?_ | refine LetI.mk _ rfl ?_) | (refine LetB.pre ?_; first | refine LetB.ff (by assumption) ?_ | refine LetB.dect (by omega) ?_) | (refine Gd.pre ?_; first | refine Gd.pass rfl ?_) | (refine Br.pre ?_; first | refine Br.tt rfl ?_ | refine Br.ff rfl ?_) | (refine Ck.pre ?_; first | refine Ck.drawn (by kernel_rfl) ?_ | refine Ck.mk rfl ?_) | (refine LetL.pre ?_; first | refine LetL.mk [_] rfl ?_) | (refine CallN.pre ?_; first | refine CallN.pure hh rfl rfl ?_)))); (try (conv => whnf)))



    refine LoopN.weak ?sw2 (next g2)
    case sw2 => exact SW.mk id rfl rfl (chkNames e rs _ rfl) ⟨.refl _, .refl _, .refl _, VLe2.int (by omega), trivial⟩ (haveV.row rfl rfl (haveV.one (by rw [Blk.ren, rule_ren]; rfl) trivial))
  | true =>
    rw [hb] at hmk g2
    have hp := PLift.up hmk
    clear hmk
    cases hw : r.w with
    | false =>
      rw [hw] at hr g2
      ((repeat ((conv => whnf); (first | (refine LetN.pre ?_; first | ((conv => arg 1; whnf); refine LetN.mk ?_)) | (refine As.pre ?_; first | refine As.mk rfl ?_ | (refine As.mk ?_ ?_; · ((repeat' (refine andT ?_ ?_)) <;> (first | rfl | assumption | exact decide_eq_true (by omega) | exact decide_eq_true (by dsimp only; omega) | exact decide_eq_true (by simp; omega) | (simp; done))))) | (refine LetV.pre ?_; first | refine LetV.mk (t := rty) _ hld ?_ | refine LetV.mk (.sc (.int _ _)) rfl ?_ | refine LetV.mk (.clo _ _ _) rfl ?_) | (refine LetI.pre ?_; first | refine LetI.wrap (by omega) (by omega) ?_ | refine LetI.mk _ rfl ?_) | (refine LetB.pre ?_; first | refine LetB.tt (by assumption) ?_ | refine LetB.dect (by omega) ?_) | (refine Gd.pre ?_; first | refine Gd.run rfl ?_) | (refine Br.pre ?_; first | refine Br.tt rfl ?_ | refine Br.ff rfl ?_) | (refine Ck.pre ?_; first | refine Ck.drawn (by kernel_rfl) ?_ | refine Ck.mk rfl ?_ | refine Ck.mk hcl ?_) | (refine LetL.pre ?_; first | refine LetL.mk [_] rfl ?_) | (refine CallN.pre ?_; first | refine CallN.pure hh rfl rfl ?_ | refine CallN.lend hr rfl (.ptr rfl rfl rfl .nil) ?_)))); (try (conv => whnf)))





      refine LoopN.weak ?sw3 (next g2)
      case sw3 => exact SW.mk id rfl rfl (chkNames e rs _ rfl) ⟨.refl _, .refl _, .refl _, VLe2.int (by omega), trivial⟩ (haveV.row rfl rfl (haveV.one (by rw [Blk.ren, rule_ren]; rfl) trivial))
    | true =>
      rw [hw] at hr g2
      simp only [Bool.and_self, if_true] at g2
      rw [g2]
      ((repeat ((conv => whnf); (first | (refine LetN.pre ?_; first | ((conv => arg 1; whnf); refine LetN.mk ?_)) | (refine As.pre ?_; first | refine As.mk rfl ?_ | (refine As.mk ?_ ?_; · ((repeat' (refine andT ?_ ?_)) <;> (first | rfl | assumption | exact decide_eq_true (by omega) | exact decide_eq_true (by dsimp only; omega) | exact decide_eq_true (by simp; omega) | (simp; done))))) | (refine LetV.pre ?_; first | refine LetV.mk (t := rty) _ hld ?_ | refine LetV.mk (.sc (.int _ _)) rfl ?_ | refine LetV.mk (.clo _ _ _) rfl ?_) | (refine LetI.pre ?_; first | refine LetI.mk _ rfl ?_) | (refine LetB.pre ?_; first | refine LetB.tt (by assumption) ?_ | refine LetB.dect (by omega) ?_) | (refine Gd.pre ?_; first | refine Gd.run rfl ?_) | (refine Br.pre ?_; first | refine Br.tt rfl ?_) | (refine Ck.pre ?_; first | refine Ck.drawn (by kernel_rfl) ?_ | refine Ck.mk rfl ?_ | refine Ck.mk hcl ?_) | (refine LetL.pre ?_; first | refine LetL.mk [_] rfl ?_) | (refine CallN.pre ?_; first | refine CallN.pure hh rfl rfl ?_ | refine CallN.lend hr rfl (.ptr rfl rfl rfl .nil) ?_)))); (try (conv => whnf)))





      exact ⟨.inl rfl, ⟨_, rfl, rfl⟩, trivial⟩
end En
end Go.Proofs.Ytjnohedknlibmaa
namespace Go.Proofs.Ytjnohedknlibmaa
open Go.Proofs.Ytjnohedknlibmaa.Am
namespace En
open Classical
/-! ### The reference's Check of an entry -/
theorem between_f (n a b : Int) : AFun Try.prog 35 0 [int n, int a, int b] [] (bool (decide (¬ (n < a ∨ b < n)))) [] := by
  refine AFun.of_W T_ok mixed Try.func35 rfl (Nat.le_of_ble_eq_true rfl) rfl ?_
  repeat' ((conv => whnf); (first | (refine As.pre ?_; first | refine As.mk rfl ?_) | (refine LetB.pre ?_; first | (refine LetB.dec (fun _ => ?_) (fun _ => ?_))) | (refine Gd.pre ?_; first | refine Gd.run rfl ?_ | refine Gd.pass rfl ?_) | (refine Ck.pre ?_; first | refine Ck.mk rfl ?_)))
  all_goals (refine ⟨by first | exact .inl rfl | exact .inr rfl, ⟨_, rfl, congrArg (fun b => Go.Proofs.Ytjnohedknlibmaa.Am.AV.sc (Go.Value.bool b)) (by first | exact (decide_eq_true (by omega)).symm | exact (decide_eq_false (by omega)).symm | exact Bool.eq_iff_iff.2 (by simp only [decide_eq_true_eq, decide_eq_false_iff_not]; omega) | rfl)⟩, trivial⟩)
/-- An entry with the fields of its kind alone. -/
def plainE (e : E) : E :=
  if e.kind = 1 ∨ e.kind = 8 then { e with course := ⟨#[]⟩, credits := 0, grade := 0, ref := 0, frm := 0, version := 0 }
  else if e.kind = 2 then { e with course := ⟨#[]⟩, credits := 0, grade := 0, ref := 0, frm := 0 }
  else if e.kind = 3 then { e with ref := 0, frm := 0, programme := 0, version := 0 }
  else if e.kind = 4 then { e with course := ⟨#[]⟩, credits := 0, frm := 0, programme := 0, version := 0 }
  else if e.kind = 5 ∨ e.kind = 6 ∨ e.kind = 9 then { e with course := ⟨#[]⟩, credits := 0, grade := 0, frm := 0, programme := 0, version := 0 }
  else if e.kind = 7 then { e with course := ⟨#[]⟩, credits := 0, grade := 0, ref := 0, programme := 0, version := 0 }
  else { e with course := ⟨#[]⟩, credits := 0, grade := 0, ref := 0, frm := 0, programme := 0, version := 0 }
theorem plain_f (e : E) : AFun Try.prog 36 0 [en e] [] (en (plainE e)) [] := by
  refine AFun.of_W T_ok mixed Try.func36 rfl (Nat.le_of_ble_eq_true rfl) rfl ?_
  unfold plainE
  repeat' ((conv => whnf); (first | (refine LetN.pre ?_; first | ((conv => arg 1; whnf); refine LetN.mk ?_)) | (refine As.pre ?_; first | refine As.mk rfl ?_) | (refine LetV.pre ?_; first | refine LetV.mk (.sc (.int _ _)) rfl ?_ | refine LetV.mk (.sc _) rfl ?_ | refine LetV.mk (.agg _) rfl ?_) | (refine LetB.pre ?_; first | (refine LetB.dec (fun _ => ?_) (fun _ => ?_))) | (refine Br.pre ?_; first | refine Br.tt rfl ?_ | refine Br.ff rfl ?_) | (refine Ck.pre ?_; first | refine Ck.mk rfl ?_) | (refine LetL.pre ?_; first | refine LetL.mk [_] rfl ?_)))
  all_goals
    refine ⟨.inl rfl, ⟨_, rfl, ?_⟩, trivial⟩
    first
      | (rw [if_pos (by omega)]; rfl)
      | (rw [if_neg (by omega), if_pos (by omega)]; rfl)
      | (rw [if_neg (by omega), if_neg (by omega), if_pos (by omega)]; rfl)
      | (rw [if_neg (by omega), if_neg (by omega), if_neg (by omega), if_pos (by omega)]; rfl)
      | (rw [if_neg (by omega), if_neg (by omega), if_neg (by omega), if_neg (by omega), if_pos (by omega)]; rfl)
      | (rw [if_neg (by omega), if_neg (by omega), if_neg (by omega), if_neg (by omega), if_neg (by omega), if_pos (by omega)]; rfl)
      | (rw [if_neg (by omega), if_neg (by omega), if_neg (by omega), if_neg (by omega), if_neg (by omega), if_neg (by omega)]; rfl)
theorem plain_only (e : E) (hk : e.kind = 1 ∨ e.kind = 2 ∨ e.kind = 3 ∨ e.kind = 4 ∨ e.kind = 5 ∨ e.kind = 6 ∨ e.kind = 7 ∨ e.kind = 8 ∨ e.kind = 9) : enB (plainE e) e = onlyF e.kind (fillB e) := by
  have z : ∀ n : Int, (0 == n) = !(n != 0) := by
    intro n
    by_cases h : n = 0
    · subst h; rfl
    · rw [beq_eq_false_iff_ne.2 (Ne.symm h), bne_iff_ne.2 h]; rfl
  have zs : ∀ s : ByteArray, ((⟨#[]⟩ : ByteArray).toList == s.toList) = !(!(s.toList == (⟨#[]⟩ : ByteArray).toList)) := by
    intro s
    rw [Bool.not_not, Bool.eq_iff_iff, beq_iff_eq, beq_iff_eq]
    exact ⟨fun h => h.symm, fun h => h.symm⟩
  obtain ⟨id, school, student, kind, day, on_, course, credits, grade, ref, frm, programme, version, key, mark⟩ := e
  simp only at hk
  generalize hc : (!(course.toList == (⟨#[]⟩ : ByteArray).toList)) = c
  generalize hcr : (credits != 0) = cr
  generalize hg : (grade != 0) = g
  generalize hr : (ref != 0) = r
  generalize hf : (frm != 0) = f
  generalize hp : (programme != 0) = p
  generalize hv : (version != 0) = v
  have ec : (course.toList == course.toList) = true := beq_self_eq_true _
  have em : (mark.toList == mark.toList) = true := beq_self_eq_true _
  have zc := zs course
  rw [hc] at zc
  have zcr := z credits; rw [hcr] at zcr
  have zg := z grade; rw [hg] at zg
  have zr := z ref; rw [hr] at zr
  have zf := z frm; rw [hf] at zf
  have zp := z programme; rw [hp] at zp
  have zv := z version; rw [hv] at zv
  rcases hk with h | h | h | h | h | h | h | h | h <;> subst h
  · show ((id == id) && ((school == school) && ((student == student) && (((1 : Int) == 1) && ((day == day) && ((on_ == on_) && (((⟨#[]⟩ : ByteArray).toList == course.toList) && (((0 : Int) == credits) && (((0 : Int) == grade) && (((0 : Int) == ref) && (((0 : Int) == frm) && ((programme == programme) && (((0 : Int) == version) && ((key == key) && ((mark.toList == mark.toList) && true))))))))))))))) = onlyF 1 [!(course.toList == (⟨#[]⟩ : ByteArray).toList), credits != 0, grade != 0, ref != 0, frm != 0, programme != 0, version != 0]
    rw [hc, hcr, hg, hr, hf, hp, hv]
    simp only [zc, zcr, zg, zr, zf, zp, zv, ec, em, beq_self_eq_true, Bool.true_and, Bool.and_true]
    clear hc hcr hg hr hf hp hv zc zcr zg zr zf zp zv
    revert c cr g r f p v
    decide
  · show ((id == id) && ((school == school) && ((student == student) && (((2 : Int) == 2) && ((day == day) && ((on_ == on_) && (((⟨#[]⟩ : ByteArray).toList == course.toList) && (((0 : Int) == credits) && (((0 : Int) == grade) && (((0 : Int) == ref) && (((0 : Int) == frm) && ((programme == programme) && ((version == version) && ((key == key) && ((mark.toList == mark.toList) && true))))))))))))))) = onlyF 2 [!(course.toList == (⟨#[]⟩ : ByteArray).toList), credits != 0, grade != 0, ref != 0, frm != 0, programme != 0, version != 0]
    rw [hc, hcr, hg, hr, hf, hp, hv]
    simp only [zc, zcr, zg, zr, zf, zp, zv, ec, em, beq_self_eq_true, Bool.true_and, Bool.and_true]
    clear hc hcr hg hr hf hp hv zc zcr zg zr zf zp zv
    revert c cr g r f p v
    decide
  · show ((id == id) && ((school == school) && ((student == student) && (((3 : Int) == 3) && ((day == day) && ((on_ == on_) && ((course.toList == course.toList) && ((credits == credits) && ((grade == grade) && (((0 : Int) == ref) && (((0 : Int) == frm) && (((0 : Int) == programme) && (((0 : Int) == version) && ((key == key) && ((mark.toList == mark.toList) && true))))))))))))))) = onlyF 3 [!(course.toList == (⟨#[]⟩ : ByteArray).toList), credits != 0, grade != 0, ref != 0, frm != 0, programme != 0, version != 0]
    rw [hc, hcr, hg, hr, hf, hp, hv]
    simp only [zc, zcr, zg, zr, zf, zp, zv, ec, em, beq_self_eq_true, Bool.true_and, Bool.and_true]
    clear hc hcr hg hr hf hp hv zc zcr zg zr zf zp zv
    revert c cr g r f p v
    decide
  · show ((id == id) && ((school == school) && ((student == student) && (((4 : Int) == 4) && ((day == day) && ((on_ == on_) && (((⟨#[]⟩ : ByteArray).toList == course.toList) && (((0 : Int) == credits) && ((grade == grade) && ((ref == ref) && (((0 : Int) == frm) && (((0 : Int) == programme) && (((0 : Int) == version) && ((key == key) && ((mark.toList == mark.toList) && true))))))))))))))) = onlyF 4 [!(course.toList == (⟨#[]⟩ : ByteArray).toList), credits != 0, grade != 0, ref != 0, frm != 0, programme != 0, version != 0]
    rw [hc, hcr, hg, hr, hf, hp, hv]
    simp only [zc, zcr, zg, zr, zf, zp, zv, ec, em, beq_self_eq_true, Bool.true_and, Bool.and_true]
    clear hc hcr hg hr hf hp hv zc zcr zg zr zf zp zv
    revert c cr g r f p v
    decide
  · show ((id == id) && ((school == school) && ((student == student) && (((5 : Int) == 5) && ((day == day) && ((on_ == on_) && (((⟨#[]⟩ : ByteArray).toList == course.toList) && (((0 : Int) == credits) && (((0 : Int) == grade) && ((ref == ref) && (((0 : Int) == frm) && (((0 : Int) == programme) && (((0 : Int) == version) && ((key == key) && ((mark.toList == mark.toList) && true))))))))))))))) = onlyF 5 [!(course.toList == (⟨#[]⟩ : ByteArray).toList), credits != 0, grade != 0, ref != 0, frm != 0, programme != 0, version != 0]
    rw [hc, hcr, hg, hr, hf, hp, hv]
    simp only [zc, zcr, zg, zr, zf, zp, zv, ec, em, beq_self_eq_true, Bool.true_and, Bool.and_true]
    clear hc hcr hg hr hf hp hv zc zcr zg zr zf zp zv
    revert c cr g r f p v
    decide
  · show ((id == id) && ((school == school) && ((student == student) && (((6 : Int) == 6) && ((day == day) && ((on_ == on_) && (((⟨#[]⟩ : ByteArray).toList == course.toList) && (((0 : Int) == credits) && (((0 : Int) == grade) && ((ref == ref) && (((0 : Int) == frm) && (((0 : Int) == programme) && (((0 : Int) == version) && ((key == key) && ((mark.toList == mark.toList) && true))))))))))))))) = onlyF 6 [!(course.toList == (⟨#[]⟩ : ByteArray).toList), credits != 0, grade != 0, ref != 0, frm != 0, programme != 0, version != 0]
    rw [hc, hcr, hg, hr, hf, hp, hv]
    simp only [zc, zcr, zg, zr, zf, zp, zv, ec, em, beq_self_eq_true, Bool.true_and, Bool.and_true]
    clear hc hcr hg hr hf hp hv zc zcr zg zr zf zp zv
    revert c cr g r f p v
    decide
  · show ((id == id) && ((school == school) && ((student == student) && (((7 : Int) == 7) && ((day == day) && ((on_ == on_) && (((⟨#[]⟩ : ByteArray).toList == course.toList) && (((0 : Int) == credits) && (((0 : Int) == grade) && (((0 : Int) == ref) && ((frm == frm) && (((0 : Int) == programme) && (((0 : Int) == version) && ((key == key) && ((mark.toList == mark.toList) && true))))))))))))))) = onlyF 7 [!(course.toList == (⟨#[]⟩ : ByteArray).toList), credits != 0, grade != 0, ref != 0, frm != 0, programme != 0, version != 0]
    rw [hc, hcr, hg, hr, hf, hp, hv]
    simp only [zc, zcr, zg, zr, zf, zp, zv, ec, em, beq_self_eq_true, Bool.true_and, Bool.and_true]
    clear hc hcr hg hr hf hp hv zc zcr zg zr zf zp zv
    revert c cr g r f p v
    decide
  · show ((id == id) && ((school == school) && ((student == student) && (((8 : Int) == 8) && ((day == day) && ((on_ == on_) && (((⟨#[]⟩ : ByteArray).toList == course.toList) && (((0 : Int) == credits) && (((0 : Int) == grade) && (((0 : Int) == ref) && (((0 : Int) == frm) && ((programme == programme) && (((0 : Int) == version) && ((key == key) && ((mark.toList == mark.toList) && true))))))))))))))) = onlyF 8 [!(course.toList == (⟨#[]⟩ : ByteArray).toList), credits != 0, grade != 0, ref != 0, frm != 0, programme != 0, version != 0]
    rw [hc, hcr, hg, hr, hf, hp, hv]
    simp only [zc, zcr, zg, zr, zf, zp, zv, ec, em, beq_self_eq_true, Bool.true_and, Bool.and_true]
    clear hc hcr hg hr hf hp hv zc zcr zg zr zf zp zv
    revert c cr g r f p v
    decide
  · show ((id == id) && ((school == school) && ((student == student) && (((9 : Int) == 9) && ((day == day) && ((on_ == on_) && (((⟨#[]⟩ : ByteArray).toList == course.toList) && (((0 : Int) == credits) && (((0 : Int) == grade) && ((ref == ref) && (((0 : Int) == frm) && (((0 : Int) == programme) && (((0 : Int) == version) && ((key == key) && ((mark.toList == mark.toList) && true))))))))))))))) = onlyF 9 [!(course.toList == (⟨#[]⟩ : ByteArray).toList), credits != 0, grade != 0, ref != 0, frm != 0, programme != 0, version != 0]
    rw [hc, hcr, hg, hr, hf, hp, hv]
    simp only [zc, zcr, zg, zr, zf, zp, zv, ec, em, beq_self_eq_true, Bool.true_and, Bool.and_true]
    clear hc hcr hg hr hf hp hv zc zcr zg zr zf zp zv
    revert c cr g r f p v
    decide
theorem fields1 (e : E) (hs : e.course.size ≤ 9223372036854775806) (hk : e.kind = 1) : AFun Try.prog 37 0 [en e] [] (int (fldE (decide (okCode e.course)) e)) [] := by
  have hc := rCode_f e.course hs
  generalize decide (okCode e.course) = oc at hc ⊢
  refine AFun.of_W T_ok mixed Try.func37 rfl (Nat.le_of_ble_eq_true rfl) rfl ?_
  by_cases hp : e.programme < 1
  · ((repeat ((conv => whnf); (first | (refine LetN.pre ?_; first | ((conv => arg 1; whnf); refine LetN.mk ?_)) | (refine As.pre ?_; first | refine As.mk rfl ?_) | (refine LetV.pre ?_; first | refine LetV.mk (.sc (.int _ _)) rfl ?_ | refine LetV.mk (.sc _) rfl ?_) | (refine LetB.pre ?_; first | refine LetB.dect (by omega) ?_ | refine LetB.decf (by omega) ?_) | (refine Br.pre ?_; first | refine Br.tt rfl ?_ | refine Br.ff rfl ?_) | (refine Ck.pre ?_; first | refine Ck.mk rfl ?_) | (refine CallN.pre ?_; first | refine CallN.pure hc rfl rfl ?_ | refine CallN.pure (between_f _ _ _) rfl rfl ?_)))); (try (conv => whnf)))




    refine ⟨.inl rfl, ⟨_, rfl, congrArg int ?_⟩, trivial⟩
    simp [fldE, hk, *]
  · ((repeat ((conv => whnf); (first | (refine LetN.pre ?_; first | ((conv => arg 1; whnf); refine LetN.mk ?_)) | (refine As.pre ?_; first | refine As.mk rfl ?_) | (refine LetV.pre ?_; first | refine LetV.mk (.sc (.int _ _)) rfl ?_ | refine LetV.mk (.sc _) rfl ?_) | (refine LetB.pre ?_; first | refine LetB.dect (by omega) ?_ | refine LetB.decf (by omega) ?_) | (refine Gd.pre ?_; first | refine Gd.run rfl ?_ | refine Gd.pass rfl ?_) | (refine Br.pre ?_; first | refine Br.tt rfl ?_ | refine Br.ff rfl ?_) | (refine Ck.pre ?_; first | refine Ck.mk rfl ?_) | (refine CallN.pre ?_; first | refine CallN.pure hc rfl rfl ?_ | refine CallN.pure (between_f _ _ _) rfl rfl ?_)))); (try (conv => whnf)))




    refine ⟨.inl rfl, ⟨_, rfl, congrArg int ?_⟩, trivial⟩
    simp [fldE, hk, *]
theorem fields2 (e : E) (hs : e.course.size ≤ 9223372036854775806) (hk : e.kind = 2) : AFun Try.prog 37 0 [en e] [] (int (fldE (decide (okCode e.course)) e)) [] := by
  have hc := rCode_f e.course hs
  generalize decide (okCode e.course) = oc at hc ⊢
  refine AFun.of_W T_ok mixed Try.func37 rfl (Nat.le_of_ble_eq_true rfl) rfl ?_
  by_cases hp : e.programme < 1
  · ((repeat ((conv => whnf); (first | (refine LetN.pre ?_; first | ((conv => arg 1; whnf); refine LetN.mk ?_)) | (refine As.pre ?_; first | refine As.mk rfl ?_) | (refine LetV.pre ?_; first | refine LetV.mk (.sc (.int _ _)) rfl ?_ | refine LetV.mk (.sc _) rfl ?_) | (refine LetB.pre ?_; first | refine LetB.dect (by omega) ?_ | refine LetB.decf (by omega) ?_) | (refine Gd.pre ?_; first | refine Gd.pass rfl ?_) | (refine Br.pre ?_; first | refine Br.tt rfl ?_ | refine Br.ff rfl ?_) | (refine Ck.pre ?_; first | refine Ck.mk rfl ?_) | (refine CallN.pre ?_; first | refine CallN.pure hc rfl rfl ?_ | refine CallN.pure (between_f _ _ _) rfl rfl ?_)))); (try (conv => whnf)))




    refine ⟨.inl rfl, ⟨_, rfl, congrArg int ?_⟩, trivial⟩
    simp [fldE, hk, *]
  · by_cases hv : e.version < 1
    · ((repeat ((conv => whnf); (first | (refine LetN.pre ?_; first | ((conv => arg 1; whnf); refine LetN.mk ?_)) | (refine As.pre ?_; first | refine As.mk rfl ?_) | (refine LetV.pre ?_; first | refine LetV.mk (.sc (.int _ _)) rfl ?_ | refine LetV.mk (.sc _) rfl ?_) | (refine LetB.pre ?_; first | refine LetB.dect (by omega) ?_ | refine LetB.decf (by omega) ?_) | (refine Gd.pre ?_; first | refine Gd.run rfl ?_) | (refine Br.pre ?_; first | refine Br.tt rfl ?_ | refine Br.ff rfl ?_) | (refine Ck.pre ?_; first | refine Ck.mk rfl ?_) | (refine CallN.pre ?_; first | refine CallN.pure hc rfl rfl ?_ | refine CallN.pure (between_f _ _ _) rfl rfl ?_)))); (try (conv => whnf)))




      refine ⟨.inl rfl, ⟨_, rfl, congrArg int ?_⟩, trivial⟩
      simp [fldE, hk, *]
    · ((repeat ((conv => whnf); (first | (refine LetN.pre ?_; first | ((conv => arg 1; whnf); refine LetN.mk ?_)) | (refine As.pre ?_; first | refine As.mk rfl ?_) | (refine LetV.pre ?_; first | refine LetV.mk (.sc (.int _ _)) rfl ?_ | refine LetV.mk (.sc _) rfl ?_) | (refine LetB.pre ?_; first | refine LetB.dect (by omega) ?_ | refine LetB.decf (by omega) ?_) | (refine Gd.pre ?_; first | refine Gd.run rfl ?_ | refine Gd.pass rfl ?_) | (refine Br.pre ?_; first | refine Br.tt rfl ?_ | refine Br.ff rfl ?_) | (refine Ck.pre ?_; first | refine Ck.mk rfl ?_) | (refine CallN.pre ?_; first | refine CallN.pure hc rfl rfl ?_ | refine CallN.pure (between_f _ _ _) rfl rfl ?_)))); (try (conv => whnf)))




      refine ⟨.inl rfl, ⟨_, rfl, congrArg int ?_⟩, trivial⟩
      simp [fldE, hk, *]
theorem fields3 (e : E) (hs : e.course.size ≤ 9223372036854775806) (hk : e.kind = 3) : AFun Try.prog 37 0 [en e] [] (int (fldE (decide (okCode e.course)) e)) [] := by
  have hc := rCode_f e.course hs
  generalize decide (okCode e.course) = oc at hc ⊢
  refine AFun.of_W T_ok mixed Try.func37 rfl (Nat.le_of_ble_eq_true rfl) rfl ?_
  cases oc with
  | false =>
    ((repeat ((conv => whnf); (first | (refine LetN.pre ?_; first | ((conv => arg 1; whnf); refine LetN.mk ?_)) | (refine As.pre ?_; first | refine As.mk rfl ?_) | (refine LetV.pre ?_; first | refine LetV.mk (.sc (.int _ _)) rfl ?_ | refine LetV.mk (.sc _) rfl ?_) | (refine LetB.pre ?_; first | refine LetB.dect (by omega) ?_) | (refine Br.pre ?_; first | refine Br.tt rfl ?_) | (refine Ck.pre ?_; first | refine Ck.mk rfl ?_) | (refine CallN.pre ?_; first | refine CallN.pure hc rfl rfl ?_ | refine CallN.pure (between_f _ _ _) rfl rfl ?_)))); (try (conv => whnf)))




    refine ⟨.inl rfl, ⟨_, rfl, congrArg int ?_⟩, trivial⟩
    simp [fldE, hk, *]
  | true =>
    by_cases hcr : e.credits < 1 ∨ 60 < e.credits
    · ((repeat ((conv => whnf); (first | (refine LetN.pre ?_; first | ((conv => arg 1; whnf); refine LetN.mk ?_)) | (refine As.pre ?_; first | refine As.mk rfl ?_) | (refine LetV.pre ?_; first | refine LetV.mk (.sc (.int _ _)) rfl ?_ | refine LetV.mk (.sc _) rfl ?_) | (refine LetB.pre ?_; first | refine LetB.dect (by omega) ?_) | (refine Gd.pre ?_; first | refine Gd.pass rfl ?_) | (refine Br.pre ?_; first | refine Br.tt rfl ?_ | refine Br.ff rfl ?_) | (refine Ck.pre ?_; first | refine Ck.mk rfl ?_) | (refine CallN.pre ?_; first | refine CallN.pure hc rfl rfl ?_ | refine CallN.decf (between_f _ _ _) rfl (not_not_intro (by assumption)) ?_ | refine CallN.pure (between_f _ _ _) rfl rfl ?_)))); (try (conv => whnf)))




      refine ⟨.inl rfl, ⟨_, rfl, congrArg int ?_⟩, trivial⟩
      simp [fldE, hk, *]
    · by_cases hg : e.grade < -1000 ∨ 1000 < e.grade
      · ((repeat ((conv => whnf); (first | (refine LetN.pre ?_; first | ((conv => arg 1; whnf); refine LetN.mk ?_)) | (refine As.pre ?_; first | refine As.mk rfl ?_) | (refine LetV.pre ?_; first | refine LetV.mk (.sc (.int _ _)) rfl ?_ | refine LetV.mk (.sc _) rfl ?_) | (refine LetB.pre ?_; first | refine LetB.dect (by omega) ?_) | (refine Gd.pre ?_; first | refine Gd.run rfl ?_) | (refine Br.pre ?_; first | refine Br.tt rfl ?_ | refine Br.ff rfl ?_) | (refine Ck.pre ?_; first | refine Ck.mk rfl ?_) | (refine CallN.pre ?_; first | refine CallN.pure hc rfl rfl ?_ | refine CallN.dect (between_f _ _ _) rfl (by assumption) ?_ | refine CallN.decf (between_f _ _ _) rfl (not_not_intro (by assumption)) ?_)))); (try (conv => whnf)))




        refine ⟨.inl rfl, ⟨_, rfl, congrArg int ?_⟩, trivial⟩
        simp [fldE, hk, *]
      · ((repeat ((conv => whnf); (first | (refine LetN.pre ?_; first | ((conv => arg 1; whnf); refine LetN.mk ?_)) | (refine As.pre ?_; first | refine As.mk rfl ?_) | (refine LetV.pre ?_; first | refine LetV.mk (.sc (.int _ _)) rfl ?_ | refine LetV.mk (.sc _) rfl ?_) | (refine LetB.pre ?_; first | refine LetB.dect (by omega) ?_ | refine LetB.decf (by omega) ?_) | (refine Gd.pre ?_; first | refine Gd.run rfl ?_ | refine Gd.pass rfl ?_) | (refine Br.pre ?_; first | refine Br.tt rfl ?_ | refine Br.ff rfl ?_) | (refine Ck.pre ?_; first | refine Ck.mk rfl ?_) | (refine CallN.pre ?_; first | refine CallN.pure hc rfl rfl ?_ | refine CallN.dect (between_f _ _ _) rfl (by assumption) ?_)))); (try (conv => whnf)))




        refine ⟨.inl rfl, ⟨_, rfl, congrArg int ?_⟩, trivial⟩
        simp [fldE, hk, *]
theorem fields4 (e : E) (hs : e.course.size ≤ 9223372036854775806) (hk : e.kind = 4) : AFun Try.prog 37 0 [en e] [] (int (fldE (decide (okCode e.course)) e)) [] := by
  have hc := rCode_f e.course hs
  generalize decide (okCode e.course) = oc at hc ⊢
  refine AFun.of_W T_ok mixed Try.func37 rfl (Nat.le_of_ble_eq_true rfl) rfl ?_
  by_cases hg : e.grade < -1000 ∨ 1000 < e.grade
  · ((repeat ((conv => whnf); (first | (refine LetN.pre ?_; first | ((conv => arg 1; whnf); refine LetN.mk ?_)) | (refine As.pre ?_; first | refine As.mk rfl ?_) | (refine LetV.pre ?_; first | refine LetV.mk (.sc (.int _ _)) rfl ?_ | refine LetV.mk (.sc _) rfl ?_) | (refine LetB.pre ?_; first | refine LetB.dect (by omega) ?_ | refine LetB.decf (by omega) ?_) | (refine Br.pre ?_; first | refine Br.tt rfl ?_ | refine Br.ff rfl ?_) | (refine Ck.pre ?_; first | refine Ck.mk rfl ?_) | (refine CallN.pre ?_; first | refine CallN.pure hc rfl rfl ?_ | refine CallN.decf (between_f _ _ _) rfl (not_not_intro (by assumption)) ?_)))); (try (conv => whnf)))




    refine ⟨.inl rfl, ⟨_, rfl, congrArg int ?_⟩, trivial⟩
    simp [fldE, hk, *]
  · by_cases hr : e.ref < 1 ∨ 899999 < e.ref
    · ((repeat ((conv => whnf); (first | (refine LetN.pre ?_; first | ((conv => arg 1; whnf); refine LetN.mk ?_)) | (refine As.pre ?_; first | refine As.mk rfl ?_) | (refine LetV.pre ?_; first | refine LetV.mk (.sc (.int _ _)) rfl ?_ | refine LetV.mk (.sc _) rfl ?_) | (refine LetB.pre ?_; first | refine LetB.dect (by omega) ?_ | refine LetB.decf (by omega) ?_) | (refine Gd.pre ?_; first | refine Gd.run rfl ?_ | refine Gd.pass rfl ?_) | (refine Br.pre ?_; first | refine Br.tt rfl ?_ | refine Br.ff rfl ?_) | (refine Ck.pre ?_; first | refine Ck.mk rfl ?_) | (refine CallN.pre ?_; first | refine CallN.pure hc rfl rfl ?_ | refine CallN.dect (between_f _ _ _) rfl (by assumption) ?_ | refine CallN.decf (between_f _ _ _) rfl (not_not_intro (by assumption)) ?_)))); (try (conv => whnf)))




      refine ⟨.inl rfl, ⟨_, rfl, congrArg int ?_⟩, trivial⟩
      simp [fldE, hk, *]
    · by_cases hri : e.ref = e.id
      · ((repeat ((conv => whnf); (first | (refine LetN.pre ?_; first | ((conv => arg 1; whnf); refine LetN.mk ?_)) | (refine As.pre ?_; first | refine As.mk rfl ?_) | (refine LetV.pre ?_; first | refine LetV.mk (.sc (.int _ _)) rfl ?_ | refine LetV.mk (.sc _) rfl ?_) | (refine LetB.pre ?_; first | refine LetB.dect (by omega) ?_ | refine LetB.decf (by omega) ?_) | (refine Gd.pre ?_; first | refine Gd.run rfl ?_ | refine Gd.pass rfl ?_) | (refine Br.pre ?_; first | refine Br.tt rfl ?_ | refine Br.ff rfl ?_) | (refine Ck.pre ?_; first | refine Ck.mk rfl ?_) | (refine CallN.pre ?_; first | refine CallN.pure hc rfl rfl ?_ | refine CallN.dect (between_f _ _ _) rfl (by assumption) ?_)))); (try (conv => whnf)))




        refine ⟨.inl rfl, ⟨_, rfl, congrArg int ?_⟩, trivial⟩
        simp [fldE, hk, *]
      · ((repeat ((conv => whnf); (first | (refine LetN.pre ?_; first | ((conv => arg 1; whnf); refine LetN.mk ?_)) | (refine As.pre ?_; first | refine As.mk rfl ?_) | (refine LetV.pre ?_; first | refine LetV.mk (.sc (.int _ _)) rfl ?_ | refine LetV.mk (.sc _) rfl ?_) | (refine LetB.pre ?_; first | refine LetB.dect (by omega) ?_ | refine LetB.decf (by omega) ?_) | (refine Gd.pre ?_; first | refine Gd.run rfl ?_ | refine Gd.pass rfl ?_) | (refine Br.pre ?_; first | refine Br.tt rfl ?_ | refine Br.ff rfl ?_) | (refine Ck.pre ?_; first | refine Ck.mk rfl ?_) | (refine CallN.pre ?_; first | refine CallN.pure hc rfl rfl ?_ | refine CallN.dect (between_f _ _ _) rfl (by assumption) ?_)))); (try (conv => whnf)))




        refine ⟨.inl rfl, ⟨_, rfl, congrArg int ?_⟩, trivial⟩
        simp [fldE, hk, *]
theorem fields5 (e : E) (hs : e.course.size ≤ 9223372036854775806) (hk : e.kind = 5) : AFun Try.prog 37 0 [en e] [] (int (fldE (decide (okCode e.course)) e)) [] := by
  have hc := rCode_f e.course hs
  generalize decide (okCode e.course) = oc at hc ⊢
  refine AFun.of_W T_ok mixed Try.func37 rfl (Nat.le_of_ble_eq_true rfl) rfl ?_
  by_cases hr : e.ref < 1 ∨ 899999 < e.ref
  · ((repeat ((conv => whnf); (first | (refine LetN.pre ?_; first | ((conv => arg 1; whnf); refine LetN.mk ?_)) | (refine As.pre ?_; first | refine As.mk rfl ?_) | (refine LetV.pre ?_; first | refine LetV.mk (.sc (.int _ _)) rfl ?_ | refine LetV.mk (.sc _) rfl ?_) | (refine LetB.pre ?_; first | refine LetB.dect (by omega) ?_ | refine LetB.decf (by omega) ?_) | (refine Gd.pre ?_; first | refine Gd.run rfl ?_ | refine Gd.pass rfl ?_) | (refine Br.pre ?_; first | refine Br.tt rfl ?_ | refine Br.ff rfl ?_) | (refine Ck.pre ?_; first | refine Ck.mk rfl ?_) | (refine CallN.pre ?_; first | refine CallN.pure hc rfl rfl ?_ | refine CallN.decf (between_f _ _ _) rfl (not_not_intro (by assumption)) ?_ | refine CallN.pure (between_f _ _ _) rfl rfl ?_)))); (try (conv => whnf)))




    refine ⟨.inl rfl, ⟨_, rfl, congrArg int ?_⟩, trivial⟩
    simp [fldE, hk, *]
  · by_cases hri : e.ref = e.id
    · ((repeat ((conv => whnf); (first | (refine LetN.pre ?_; first | ((conv => arg 1; whnf); refine LetN.mk ?_)) | (refine As.pre ?_; first | refine As.mk rfl ?_) | (refine LetV.pre ?_; first | refine LetV.mk (.sc (.int _ _)) rfl ?_ | refine LetV.mk (.sc _) rfl ?_) | (refine LetB.pre ?_; first | refine LetB.dect (by omega) ?_ | refine LetB.decf (by omega) ?_) | (refine Gd.pre ?_; first | refine Gd.run rfl ?_ | refine Gd.pass rfl ?_) | (refine Br.pre ?_; first | refine Br.tt rfl ?_ | refine Br.ff rfl ?_) | (refine Ck.pre ?_; first | refine Ck.mk rfl ?_) | (refine CallN.pre ?_; first | refine CallN.pure hc rfl rfl ?_ | refine CallN.dect (between_f _ _ _) rfl (by assumption) ?_ | refine CallN.pure (between_f _ _ _) rfl rfl ?_)))); (try (conv => whnf)))




      refine ⟨.inl rfl, ⟨_, rfl, congrArg int ?_⟩, trivial⟩
      simp [fldE, hk, *]
    · ((repeat ((conv => whnf); (first | (refine LetN.pre ?_; first | ((conv => arg 1; whnf); refine LetN.mk ?_)) | (refine As.pre ?_; first | refine As.mk rfl ?_) | (refine LetV.pre ?_; first | refine LetV.mk (.sc (.int _ _)) rfl ?_ | refine LetV.mk (.sc _) rfl ?_) | (refine LetB.pre ?_; first | refine LetB.dect (by omega) ?_ | refine LetB.decf (by omega) ?_) | (refine Gd.pre ?_; first | refine Gd.run rfl ?_ | refine Gd.pass rfl ?_) | (refine Br.pre ?_; first | refine Br.ff rfl ?_) | (refine Ck.pre ?_; first | refine Ck.mk rfl ?_) | (refine CallN.pre ?_; first | refine CallN.pure hc rfl rfl ?_ | refine CallN.dect (between_f _ _ _) rfl (by assumption) ?_ | refine CallN.pure (between_f _ _ _) rfl rfl ?_)))); (try (conv => whnf)))




      refine ⟨.inl rfl, ⟨_, rfl, congrArg int ?_⟩, trivial⟩
      simp [fldE, hk, *]
theorem fields6 (e : E) (hs : e.course.size ≤ 9223372036854775806) (hk : e.kind = 6) : AFun Try.prog 37 0 [en e] [] (int (fldE (decide (okCode e.course)) e)) [] := by
  have hc := rCode_f e.course hs
  generalize decide (okCode e.course) = oc at hc ⊢
  refine AFun.of_W T_ok mixed Try.func37 rfl (Nat.le_of_ble_eq_true rfl) rfl ?_
  by_cases hr : e.ref < 1 ∨ 899999 < e.ref
  · ((repeat ((conv => whnf); (first | (refine LetN.pre ?_; first | ((conv => arg 1; whnf); refine LetN.mk ?_)) | (refine As.pre ?_; first | refine As.mk rfl ?_) | (refine LetV.pre ?_; first | refine LetV.mk (.sc (.int _ _)) rfl ?_ | refine LetV.mk (.sc _) rfl ?_) | (refine LetB.pre ?_; first | refine LetB.dect (by omega) ?_ | refine LetB.decf (by omega) ?_) | (refine Gd.pre ?_; first | refine Gd.run rfl ?_ | refine Gd.pass rfl ?_) | (refine Br.pre ?_; first | refine Br.tt rfl ?_ | refine Br.ff rfl ?_) | (refine Ck.pre ?_; first | refine Ck.mk rfl ?_) | (refine CallN.pre ?_; first | refine CallN.pure hc rfl rfl ?_ | refine CallN.decf (between_f _ _ _) rfl (not_not_intro (by assumption)) ?_ | refine CallN.pure (between_f _ _ _) rfl rfl ?_)))); (try (conv => whnf)))




    refine ⟨.inl rfl, ⟨_, rfl, congrArg int ?_⟩, trivial⟩
    simp [fldE, hk, *]
  · by_cases hri : e.ref = e.id
    · ((repeat ((conv => whnf); (first | (refine LetN.pre ?_; first | ((conv => arg 1; whnf); refine LetN.mk ?_)) | (refine As.pre ?_; first | refine As.mk rfl ?_) | (refine LetV.pre ?_; first | refine LetV.mk (.sc (.int _ _)) rfl ?_ | refine LetV.mk (.sc _) rfl ?_) | (refine LetB.pre ?_; first | refine LetB.dect (by omega) ?_ | refine LetB.decf (by omega) ?_) | (refine Gd.pre ?_; first | refine Gd.run rfl ?_ | refine Gd.pass rfl ?_) | (refine Br.pre ?_; first | refine Br.tt rfl ?_ | refine Br.ff rfl ?_) | (refine Ck.pre ?_; first | refine Ck.mk rfl ?_) | (refine CallN.pre ?_; first | refine CallN.pure hc rfl rfl ?_ | refine CallN.dect (between_f _ _ _) rfl (by assumption) ?_ | refine CallN.pure (between_f _ _ _) rfl rfl ?_)))); (try (conv => whnf)))




      refine ⟨.inl rfl, ⟨_, rfl, congrArg int ?_⟩, trivial⟩
      simp [fldE, hk, *]
    · ((repeat ((conv => whnf); (first | (refine LetN.pre ?_; first | ((conv => arg 1; whnf); refine LetN.mk ?_)) | (refine As.pre ?_; first | refine As.mk rfl ?_) | (refine LetV.pre ?_; first | refine LetV.mk (.sc (.int _ _)) rfl ?_ | refine LetV.mk (.sc _) rfl ?_) | (refine LetB.pre ?_; first | refine LetB.dect (by omega) ?_ | refine LetB.decf (by omega) ?_) | (refine Gd.pre ?_; first | refine Gd.run rfl ?_ | refine Gd.pass rfl ?_) | (refine Br.pre ?_; first | refine Br.ff rfl ?_) | (refine Ck.pre ?_; first | refine Ck.mk rfl ?_) | (refine CallN.pre ?_; first | refine CallN.pure hc rfl rfl ?_ | refine CallN.dect (between_f _ _ _) rfl (by assumption) ?_ | refine CallN.pure (between_f _ _ _) rfl rfl ?_)))); (try (conv => whnf)))




      refine ⟨.inl rfl, ⟨_, rfl, congrArg int ?_⟩, trivial⟩
      simp [fldE, hk, *]
theorem fields7 (e : E) (hs : e.course.size ≤ 9223372036854775806) (hk : e.kind = 7) : AFun Try.prog 37 0 [en e] [] (int (fldE (decide (okCode e.course)) e)) [] := by
  have hc := rCode_f e.course hs
  generalize decide (okCode e.course) = oc at hc ⊢
  refine AFun.of_W T_ok mixed Try.func37 rfl (Nat.le_of_ble_eq_true rfl) rfl ?_
  by_cases hf : e.frm < 1 ∨ 8 < e.frm
  · ((repeat ((conv => whnf); (first | (refine LetN.pre ?_; first | ((conv => arg 1; whnf); refine LetN.mk ?_)) | (refine As.pre ?_; first | refine As.mk rfl ?_) | (refine LetV.pre ?_; first | refine LetV.mk (.sc (.int _ _)) rfl ?_ | refine LetV.mk (.sc _) rfl ?_) | (refine LetB.pre ?_; first | refine LetB.dect (by omega) ?_ | refine LetB.decf (by omega) ?_) | (refine Gd.pre ?_; first | refine Gd.pass rfl ?_) | (refine Br.pre ?_; first | refine Br.tt rfl ?_ | refine Br.ff rfl ?_) | (refine Ck.pre ?_; first | refine Ck.mk rfl ?_) | (refine CallN.pre ?_; first | refine CallN.pure hc rfl rfl ?_ | refine CallN.decf (between_f _ _ _) rfl (not_not_intro (by assumption)) ?_ | refine CallN.pure (between_f _ _ _) rfl rfl ?_)))); (try (conv => whnf)))




    refine ⟨.inl rfl, ⟨_, rfl, congrArg int ?_⟩, trivial⟩
    simp [fldE, hk, *]
  · by_cases hfs : e.frm = e.school
    · ((repeat ((conv => whnf); (first | (refine LetN.pre ?_; first | ((conv => arg 1; whnf); refine LetN.mk ?_)) | (refine As.pre ?_; first | refine As.mk rfl ?_) | (refine LetV.pre ?_; first | refine LetV.mk (.sc (.int _ _)) rfl ?_ | refine LetV.mk (.sc _) rfl ?_) | (refine LetB.pre ?_; first | refine LetB.dect (by omega) ?_ | refine LetB.decf (by omega) ?_) | (refine Gd.pre ?_; first | refine Gd.run rfl ?_) | (refine Br.pre ?_; first | refine Br.tt rfl ?_ | refine Br.ff rfl ?_) | (refine Ck.pre ?_; first | refine Ck.mk rfl ?_) | (refine CallN.pre ?_; first | refine CallN.pure hc rfl rfl ?_ | refine CallN.dect (between_f _ _ _) rfl (by assumption) ?_ | refine CallN.pure (between_f _ _ _) rfl rfl ?_)))); (try (conv => whnf)))




      refine ⟨.inl rfl, ⟨_, rfl, congrArg int ?_⟩, trivial⟩
      simp [fldE, hk, *]
    · ((repeat ((conv => whnf); (first | (refine LetN.pre ?_; first | ((conv => arg 1; whnf); refine LetN.mk ?_)) | (refine As.pre ?_; first | refine As.mk rfl ?_) | (refine LetV.pre ?_; first | refine LetV.mk (.sc (.int _ _)) rfl ?_ | refine LetV.mk (.sc _) rfl ?_) | (refine LetB.pre ?_; first | refine LetB.dect (by omega) ?_ | refine LetB.decf (by omega) ?_) | (refine Gd.pre ?_; first | refine Gd.run rfl ?_ | refine Gd.pass rfl ?_) | (refine Br.pre ?_; first | refine Br.tt rfl ?_ | refine Br.ff rfl ?_) | (refine Ck.pre ?_; first | refine Ck.mk rfl ?_) | (refine CallN.pre ?_; first | refine CallN.pure hc rfl rfl ?_ | refine CallN.dect (between_f _ _ _) rfl (by assumption) ?_ | refine CallN.pure (between_f _ _ _) rfl rfl ?_)))); (try (conv => whnf)))




      refine ⟨.inl rfl, ⟨_, rfl, congrArg int ?_⟩, trivial⟩
      simp [fldE, hk, *]
theorem fields8 (e : E) (hs : e.course.size ≤ 9223372036854775806) (hk : e.kind = 8) : AFun Try.prog 37 0 [en e] [] (int (fldE (decide (okCode e.course)) e)) [] := by
  have hc := rCode_f e.course hs
  generalize decide (okCode e.course) = oc at hc ⊢
  refine AFun.of_W T_ok mixed Try.func37 rfl (Nat.le_of_ble_eq_true rfl) rfl ?_
  by_cases hp : e.programme < 1
  · ((repeat ((conv => whnf); (first | (refine LetN.pre ?_; first | ((conv => arg 1; whnf); refine LetN.mk ?_)) | (refine As.pre ?_; first | refine As.mk rfl ?_) | (refine LetV.pre ?_; first | refine LetV.mk (.sc (.int _ _)) rfl ?_ | refine LetV.mk (.sc _) rfl ?_) | (refine LetB.pre ?_; first | refine LetB.dect (by omega) ?_ | refine LetB.decf (by omega) ?_) | (refine Br.pre ?_; first | refine Br.tt rfl ?_ | refine Br.ff rfl ?_) | (refine Ck.pre ?_; first | refine Ck.mk rfl ?_) | (refine CallN.pre ?_; first | refine CallN.pure hc rfl rfl ?_ | refine CallN.pure (between_f _ _ _) rfl rfl ?_)))); (try (conv => whnf)))




    refine ⟨.inl rfl, ⟨_, rfl, congrArg int ?_⟩, trivial⟩
    simp [fldE, hk, *]
  · ((repeat ((conv => whnf); (first | (refine LetN.pre ?_; first | ((conv => arg 1; whnf); refine LetN.mk ?_)) | (refine As.pre ?_; first | refine As.mk rfl ?_) | (refine LetV.pre ?_; first | refine LetV.mk (.sc (.int _ _)) rfl ?_ | refine LetV.mk (.sc _) rfl ?_) | (refine LetB.pre ?_; first | refine LetB.dect (by omega) ?_ | refine LetB.decf (by omega) ?_) | (refine Gd.pre ?_; first | refine Gd.run rfl ?_ | refine Gd.pass rfl ?_) | (refine Br.pre ?_; first | refine Br.tt rfl ?_ | refine Br.ff rfl ?_) | (refine Ck.pre ?_; first | refine Ck.mk rfl ?_) | (refine CallN.pre ?_; first | refine CallN.pure hc rfl rfl ?_ | refine CallN.pure (between_f _ _ _) rfl rfl ?_)))); (try (conv => whnf)))




    refine ⟨.inl rfl, ⟨_, rfl, congrArg int ?_⟩, trivial⟩
    simp [fldE, hk, *]
theorem fields9 (e : E) (hs : e.course.size ≤ 9223372036854775806) (hk : e.kind = 9) : AFun Try.prog 37 0 [en e] [] (int (fldE (decide (okCode e.course)) e)) [] := by
  have hc := rCode_f e.course hs
  generalize decide (okCode e.course) = oc at hc ⊢
  refine AFun.of_W T_ok mixed Try.func37 rfl (Nat.le_of_ble_eq_true rfl) rfl ?_
  by_cases hr : e.ref < 1 ∨ 899999 < e.ref
  · ((repeat ((conv => whnf); (first | (refine LetN.pre ?_; first | ((conv => arg 1; whnf); refine LetN.mk ?_)) | (refine As.pre ?_; first | refine As.mk rfl ?_) | (refine LetV.pre ?_; first | refine LetV.mk (.sc (.int _ _)) rfl ?_ | refine LetV.mk (.sc _) rfl ?_) | (refine LetB.pre ?_; first | refine LetB.dect (by omega) ?_ | refine LetB.decf (by omega) ?_) | (refine Gd.pre ?_; first | refine Gd.run rfl ?_ | refine Gd.pass rfl ?_) | (refine Br.pre ?_; first | refine Br.tt rfl ?_ | refine Br.ff rfl ?_) | (refine Ck.pre ?_; first | refine Ck.mk rfl ?_) | (refine CallN.pre ?_; first | refine CallN.pure hc rfl rfl ?_ | refine CallN.decf (between_f _ _ _) rfl (not_not_intro (by assumption)) ?_ | refine CallN.pure (between_f _ _ _) rfl rfl ?_)))); (try (conv => whnf)))




    refine ⟨.inl rfl, ⟨_, rfl, congrArg int ?_⟩, trivial⟩
    simp [fldE, hk, *]
  · by_cases hri : e.ref = e.id
    · ((repeat ((conv => whnf); (first | (refine LetN.pre ?_; first | ((conv => arg 1; whnf); refine LetN.mk ?_)) | (refine As.pre ?_; first | refine As.mk rfl ?_) | (refine LetV.pre ?_; first | refine LetV.mk (.sc (.int _ _)) rfl ?_ | refine LetV.mk (.sc _) rfl ?_) | (refine LetB.pre ?_; first | refine LetB.dect (by omega) ?_ | refine LetB.decf (by omega) ?_) | (refine Gd.pre ?_; first | refine Gd.run rfl ?_) | (refine Br.pre ?_; first | refine Br.tt rfl ?_ | refine Br.ff rfl ?_) | (refine Ck.pre ?_; first | refine Ck.mk rfl ?_) | (refine CallN.pre ?_; first | refine CallN.pure hc rfl rfl ?_ | refine CallN.dect (between_f _ _ _) rfl (by assumption) ?_ | refine CallN.pure (between_f _ _ _) rfl rfl ?_)))); (try (conv => whnf)))




      refine ⟨.inl rfl, ⟨_, rfl, congrArg int ?_⟩, trivial⟩
      simp [fldE, hk, *]
    · ((repeat ((conv => whnf); (first | (refine LetN.pre ?_; first | ((conv => arg 1; whnf); refine LetN.mk ?_)) | (refine As.pre ?_; first | refine As.mk rfl ?_) | (refine LetV.pre ?_; first | refine LetV.mk (.sc (.int _ _)) rfl ?_ | refine LetV.mk (.sc _) rfl ?_) | (refine LetB.pre ?_; first | refine LetB.dect (by omega) ?_ | refine LetB.decf (by omega) ?_) | (refine Gd.pre ?_; first | refine Gd.run rfl ?_) | (refine Br.pre ?_; first | refine Br.ff rfl ?_) | (refine Ck.pre ?_; first | refine Ck.mk rfl ?_) | (refine CallN.pre ?_; first | refine CallN.pure hc rfl rfl ?_ | refine CallN.dect (between_f _ _ _) rfl (by assumption) ?_ | refine CallN.pure (between_f _ _ _) rfl rfl ?_)))); (try (conv => whnf)))




      refine ⟨.inl rfl, ⟨_, rfl, congrArg int ?_⟩, trivial⟩
      simp [fldE, hk, *]
theorem fields_f (e : E) (hs : e.course.size ≤ 9223372036854775806) (hk : e.kind = 1 ∨ e.kind = 2 ∨ e.kind = 3 ∨ e.kind = 4 ∨ e.kind = 5 ∨ e.kind = 6 ∨ e.kind = 7 ∨ e.kind = 8 ∨ e.kind = 9) : AFun Try.prog 37 0 [en e] [] (int (fldE (decide (okCode e.course)) e)) [] := by
  rcases hk with h | h | h | h | h | h | h | h | h
  · exact fields1 e hs h
  · exact fields2 e hs h
  · exact fields3 e hs h
  · exact fields4 e hs h
  · exact fields5 e hs h
  · exact fields6 e hs h
  · exact fields7 e hs h
  · exact fields8 e hs h
  · exact fields9 e hs h
/-- The reference's Check of an entry. -/
theorem rCheck_f (e : E) (hs : e.course.size ≤ 9223372036854775806) : AFun Try.prog 15 0 [en e] [] (int (entE e)) [] := by
  have hpl := plain_f e
  have hpo := plain_only e
  have hfi := fields_f e hs
  unfold entE
  refine AFun.of_W T_ok mixed Try.func15 rfl (Nat.le_of_ble_eq_true rfl) rfl ?_
  by_cases a1 : e.id < 1 ∨ 899999 < e.id
  case pos =>
    ((repeat ((conv => whnf); (first | (refine LetN.pre ?_; first | ((conv => arg 1; whnf); refine LetN.mk ?_)) | (refine As.pre ?_; first | refine As.mk rfl ?_) | (refine LetV.pre ?_; first | refine LetV.mk (.sc (.int _ _)) rfl ?_) | (refine Gd.pre ?_; first | refine Gd.pass rfl ?_) | (refine Br.pre ?_; first | refine Br.tt rfl ?_) | (refine Ck.pre ?_; first | refine Ck.mk rfl ?_) | (refine CallN.pre ?_; first | refine CallN.decf (between_f _ _ _) rfl (not_not_intro (by assumption)) ?_)))); (try (conv => whnf)))




    exact ⟨.inl rfl, ⟨_, rfl, congrArg int (entX_arg (.inl a1)).symm⟩, trivial⟩
  by_cases a2 : e.school < 1 ∨ 8 < e.school
  case pos =>
    ((repeat ((conv => whnf); (first | (refine LetN.pre ?_; first | ((conv => arg 1; whnf); refine LetN.mk ?_)) | (refine As.pre ?_; first | refine As.mk rfl ?_) | (refine LetV.pre ?_; first | refine LetV.mk (.sc (.int _ _)) rfl ?_) | (refine Gd.pre ?_; first | refine Gd.run rfl ?_ | refine Gd.pass rfl ?_) | (refine Br.pre ?_; first | refine Br.tt rfl ?_) | (refine Ck.pre ?_; first | refine Ck.mk rfl ?_) | (refine CallN.pre ?_; first | refine CallN.dect (between_f _ _ _) rfl (by assumption) ?_ | refine CallN.decf (between_f _ _ _) rfl (not_not_intro (by assumption)) ?_)))); (try (conv => whnf)))




    exact ⟨.inl rfl, ⟨_, rfl, congrArg int (entX_arg (.inr (.inl a2))).symm⟩, trivial⟩
  by_cases a3 : e.student < 1 ∨ 999999 < e.student
  case pos =>
    ((repeat ((conv => whnf); (first | (refine LetN.pre ?_; first | ((conv => arg 1; whnf); refine LetN.mk ?_)) | (refine As.pre ?_; first | refine As.mk rfl ?_) | (refine LetV.pre ?_; first | refine LetV.mk (.sc (.int _ _)) rfl ?_) | (refine Gd.pre ?_; first | refine Gd.run rfl ?_) | (refine Br.pre ?_; first | refine Br.tt rfl ?_) | (refine Ck.pre ?_; first | refine Ck.mk rfl ?_) | (refine CallN.pre ?_; first | refine CallN.dect (between_f _ _ _) rfl (by assumption) ?_ | refine CallN.decf (between_f _ _ _) rfl (not_not_intro (by assumption)) ?_)))); (try (conv => whnf)))




    exact ⟨.inl rfl, ⟨_, rfl, congrArg int (entX_arg (.inr (.inr a3))).symm⟩, trivial⟩
  have hA : ¬ ((e.id < 1 ∨ 899999 < e.id) ∨ (e.school < 1 ∨ 8 < e.school) ∨ (e.student < 1 ∨ 999999 < e.student)) := by rintro (h | h | h) <;> contradiction
  by_cases a4 : e.kind < 1 ∨ 9 < e.kind
  case pos =>
    ((repeat ((conv => whnf); (first | (refine LetN.pre ?_; first | ((conv => arg 1; whnf); refine LetN.mk ?_)) | (refine As.pre ?_; first | refine As.mk rfl ?_) | (refine LetV.pre ?_; first | refine LetV.mk (.sc (.int _ _)) rfl ?_) | (refine Gd.pre ?_; first | refine Gd.run rfl ?_ | refine Gd.pass rfl ?_) | (refine Br.pre ?_; first | refine Br.tt rfl ?_ | refine Br.ff rfl ?_) | (refine Ck.pre ?_; first | refine Ck.drawn (by kernel_rfl) ?_ | refine Ck.mk rfl ?_) | (refine CallN.pre ?_; first | refine CallN.dect (between_f _ _ _) rfl (by assumption) ?_ | refine CallN.decf (between_f _ _ _) rfl (not_not_intro (by assumption)) ?_)))); (try (conv => whnf)))




    exact ⟨.inl rfl, ⟨_, rfl, congrArg int (entX_kind hA (.inl a4)).symm⟩, trivial⟩
  replace hpo := hpo (by omega)
  replace hfi := hfi (by omega)
  generalize onlyF e.kind (fillB e) = on at hpo ⊢
  cases on with
  | false =>
    have hb : (!enB (plainE e) e) = true := by rw [hpo]; rfl
    clear hpo
    generalize plainE e = q at hpl hb
    ((repeat ((conv => whnf); (first | (refine LetN.pre ?_; first | ((conv => arg 1; whnf); refine LetN.mk ?_)) | (refine As.pre ?_; first | refine As.mk rfl ?_) | (refine LetV.pre ?_; first | refine LetV.mk (.sc (.int _ _)) rfl ?_ | refine LetV.mk (.agg _) rfl ?_) | (refine LetB.pre ?_; first | refine LetB.tt (by assumption) ?_) | (refine Gd.pre ?_; first | refine Gd.run rfl ?_) | (refine Br.pre ?_; first | refine Br.tt rfl ?_ | refine Br.ff rfl ?_) | (refine Ck.pre ?_; first | refine Ck.drawn (by kernel_rfl) ?_ | refine Ck.mk rfl ?_) | (refine CallN.pre ?_; first | refine CallN.pure hpl rfl rfl ?_ | refine CallN.dect (between_f _ _ _) rfl (by assumption) ?_)))); (try (conv => whnf)))






    exact ⟨.inl rfl, ⟨_, rfl, congrArg int (entX_kind hA (.inr rfl)).symm⟩, trivial⟩
  | true =>
    have hb : (!enB (plainE e) e) = false := by rw [hpo]; rfl
    clear hpo
    generalize plainE e = q at hpl hb
    by_cases d1 : e.day < 0 ∨ 100000 < e.day
    case pos =>
      ((repeat ((conv => whnf); (first | (refine LetN.pre ?_; first | ((conv => arg 1; whnf); refine LetN.mk ?_)) | (refine As.pre ?_; first | refine As.mk rfl ?_) | (refine LetV.pre ?_; first | refine LetV.mk (.sc (.int _ _)) rfl ?_ | refine LetV.mk (.agg _) rfl ?_) | (refine LetB.pre ?_; first | refine LetB.ff (by assumption) ?_) | (refine Gd.pre ?_; first | refine Gd.run rfl ?_ | refine Gd.pass rfl ?_) | (refine Br.pre ?_; first | refine Br.tt rfl ?_ | refine Br.ff rfl ?_) | (refine Ck.pre ?_; first | refine Ck.drawn (by kernel_rfl) ?_ | refine Ck.mk rfl ?_) | (refine CallN.pre ?_; first | refine CallN.pure hpl rfl rfl ?_ | refine CallN.dect (between_f _ _ _) rfl (by assumption) ?_ | refine CallN.decf (between_f _ _ _) rfl (not_not_intro (by assumption)) ?_)))); (try (conv => whnf)))






      exact ⟨.inl rfl, ⟨_, rfl, congrArg int (entX_date hA a4 rfl (.inl d1)).symm⟩, trivial⟩
    by_cases d2 : e.on_ < 0 ∨ 100000 < e.on_
    case pos =>
      ((repeat ((conv => whnf); (first | (refine LetN.pre ?_; first | ((conv => arg 1; whnf); refine LetN.mk ?_)) | (refine As.pre ?_; first | refine As.mk rfl ?_) | (refine LetV.pre ?_; first | refine LetV.mk (.sc (.int _ _)) rfl ?_ | refine LetV.mk (.agg _) rfl ?_) | (refine LetB.pre ?_; first | refine LetB.ff (by assumption) ?_) | (refine Gd.pre ?_; first | refine Gd.run rfl ?_ | refine Gd.pass rfl ?_) | (refine Br.pre ?_; first | refine Br.tt rfl ?_ | refine Br.ff rfl ?_) | (refine Ck.pre ?_; first | refine Ck.drawn (by kernel_rfl) ?_ | refine Ck.mk rfl ?_) | (refine CallN.pre ?_; first | refine CallN.pure hpl rfl rfl ?_ | refine CallN.dect (between_f _ _ _) rfl (by assumption) ?_ | refine CallN.decf (between_f _ _ _) rfl (not_not_intro (by assumption)) ?_)))); (try (conv => whnf)))






      exact ⟨.inl rfl, ⟨_, rfl, congrArg int (entX_date hA a4 rfl (.inr (by omega))).symm⟩, trivial⟩
    by_cases d3 : e.day < e.on_
    case pos =>
      ((repeat ((conv => whnf); (first | (refine LetN.pre ?_; first | ((conv => arg 1; whnf); refine LetN.mk ?_)) | (refine As.pre ?_; first | refine As.mk rfl ?_) | (refine LetV.pre ?_; first | refine LetV.mk (.sc (.int _ _)) rfl ?_ | refine LetV.mk (.agg _) rfl ?_) | (refine LetB.pre ?_; first | refine LetB.ff (by assumption) ?_ | refine LetB.dect (by omega) ?_) | (refine Gd.pre ?_; first | refine Gd.run rfl ?_) | (refine Br.pre ?_; first | refine Br.tt rfl ?_ | refine Br.ff rfl ?_) | (refine Ck.pre ?_; first | refine Ck.drawn (by kernel_rfl) ?_ | refine Ck.mk rfl ?_) | (refine CallN.pre ?_; first | refine CallN.pure hpl rfl rfl ?_ | refine CallN.dect (between_f _ _ _) rfl (by assumption) ?_)))); (try (conv => whnf)))






      exact ⟨.inl rfl, ⟨_, rfl, congrArg int (entX_date hA a4 rfl (.inr (by omega))).symm⟩, trivial⟩
    have hD : ¬ ((e.day < 0 ∨ 100000 < e.day) ∨ (e.on_ < 0 ∨ e.day < e.on_)) := by omega
    ((repeat ((conv => whnf); (first | (refine LetN.pre ?_; first | ((conv => arg 1; whnf); refine LetN.mk ?_)) | (refine As.pre ?_; first | refine As.mk rfl ?_) | (refine LetV.pre ?_; first | refine LetV.mk (.sc (.int _ _)) rfl ?_ | refine LetV.mk (.agg _) rfl ?_) | (refine LetB.pre ?_; first | refine LetB.ff (by assumption) ?_ | refine LetB.decf (by omega) ?_) | (refine Gd.pre ?_; first | refine Gd.run rfl ?_) | (refine Br.pre ?_; first | refine Br.ff rfl ?_) | (refine Ck.pre ?_; first | refine Ck.drawn (by kernel_rfl) ?_ | refine Ck.mk rfl ?_) | (refine CallN.pre ?_; first | refine CallN.pure hpl rfl rfl ?_ | refine CallN.pure hfi rfl rfl ?_ | refine CallN.dect (between_f _ _ _) rfl (by assumption) ?_)))); (try (conv => whnf)))






    exact ⟨.inl rfl, ⟨_, rfl, congrArg int (entX_fld hA a4 rfl hD).symm⟩, trivial⟩
end En
end Go.Proofs.Ytjnohedknlibmaa
namespace Go.Proofs.Ytjnohedknlibmaa
open Go.Proofs.Ytjnohedknlibmaa.Am
namespace En
open Classical
/-! ### Check of entries -/
theorem IndexE_f {c : Cd} (hc : c.Ok) (l : List E) (fl : Fl) (hl : l.length ≤ 100000) : AFun Try.prog 62 0 [.ro fl 15 (l.map en), c.av] [] (int (fidx c.p l 0)) [] := by
  refine AFun.of_W T_ok mixed Try.func62 rfl (Nat.le_of_ble_eq_true rfl) rfl ?_
  generalize hR : fidx c.p l 0 = R
  ((repeat ((conv => whnf); (first | (refine As.pre ?_; first | refine As.mk rfl ?_) | (refine LetI.pre ?_; first | refine LetI.mk _ rfl ?_) | (refine Ck.pre ?_; first | refine Ck.mk rfl ?_)))); (try (conv => whnf)))
  have hm : (l.map en).length = l.length := List.length_map _
  have hcn : frNames (fun i => decide (i < 0) || List.contains [] i) [(0, .ro fl 15 (l.map en)), (1, c.av), (6, .ro fl 15 (l.map en)), (7, int l.length), (8, int (0 : Nat))] = true := by
    simp only [frNames, List.all_cons, AV.names, AV.namesL, namesL_none hc.pure]; rfl
  refine LoopN.weak (s1 := ⟨[(0, .ro fl 15 (l.map en)), (1, c.av), (6, .ro fl 15 (l.map en)), (7, int l.length), (8, int (0 : Nat))], [], 0⟩) (SW.fr0 (Nat.le_refl _) hcn ⟨.refl _, VLe2.of_eq (ren_id _), .refl _, VLe2.int (by rw [hm]), .refl _, trivial⟩) ?_
  refine LoopN.ind T_ok mixed (S := fun k : Nat => ⟨[(0, .ro fl 15 (l.map en)), (1, c.av), (6, .ro fl 15 (l.map en)), (7, int l.length), (8, int k)], [], 0⟩) (fun k => l.length - k) (fun k => k ≤ l.length ∧ R = fidx c.p (l.drop k) k) (fun _ => rfl) (fun k hk ih => ?_) 0 ⟨Nat.zero_le _, hR.symm⟩
  obtain ⟨h1, h2⟩ := hk
  by_cases hlt : k < l.length
  case neg =>
    rw [fidx_end hlt] at h2
    rw [h2]
    clear ih
    ((repeat ((conv => whnf); (first | (refine As.pre ?_; first | refine As.mk rfl ?_) | (refine LetB.pre ?_; first | refine LetB.decf (by omega) ?_) | (refine Br.pre ?_; first | refine Br.ff rfl ?_) | (refine Ck.pre ?_; first | refine Ck.mk rfl ?_)))); (try (conv => whnf)))
    exact ⟨.inl rfl, ⟨_, rfl, rfl⟩, trivial⟩
  case pos =>
    rw [fidx_drop hlt e0] at h2
    have hld : en (l.getD k e0) = (l.map en).getD k (.sc undef) := mapD e0 hlt
    generalize l.getD k e0 = e at hld h2
    have hck := hc.run e
    cases hp : c.p e with
    | false =>
      rw [hp] at hck h2
      simp only [Bool.false_eq_true, if_false] at h2
      ((repeat ((conv => whnf); (first | (refine As.pre ?_; first | refine As.mk rfl ?_ | (refine As.mk ?_ ?_; · ((repeat' (refine andT ?_ ?_)) <;> (first | rfl | assumption | exact decide_eq_true (by omega) | exact decide_eq_true (by dsimp only; omega) | exact decide_eq_true (by simp; omega) | (simp; done))))) | (refine LetV.pre ?_; first | refine LetV.mk (t := 29) _ hld ?_ | refine LetV.mk (.agg _) rfl ?_) | (refine LetI.pre ?_; first | refine LetI.wrap (by omega) (by omega) ?_) | (refine LetB.pre ?_; first | refine LetB.dect (by omega) ?_) | (refine Br.pre ?_; first | refine Br.tt rfl ?_ | refine Br.ff rfl ?_) | (refine Ck.pre ?_; first | refine Ck.mk rfl ?_ | refine Ck.mk hc.call ?_) | (refine CallN.pre ?_; first | refine CallN.pure hck (hc.names e) rfl ?_) | refine forceAs.pass ?_))); (try (conv => whnf)))



      refine LoopN.weak ?_ (ih (k + 1) ⟨by omega, h2⟩ (by omega))
      refine SW.fr0 (Nat.le_refl _) ?_ ⟨.refl _, VLe2.of_eq (ren_id _), .refl _, .refl _, VLe2.int (by omega), trivial⟩
      exact hcn
    | true =>
      rw [hp] at hck h2
      simp only [if_true] at h2
      rw [h2]
      clear ih
      ((repeat ((conv => whnf); (first | (refine As.pre ?_; first | refine As.mk rfl ?_ | (refine As.mk ?_ ?_; · ((repeat' (refine andT ?_ ?_)) <;> (first | rfl | assumption | exact decide_eq_true (by omega) | exact decide_eq_true (by dsimp only; omega) | exact decide_eq_true (by simp; omega) | (simp; done))))) | (refine LetV.pre ?_; first | refine LetV.mk (t := 29) _ hld ?_ | refine LetV.mk (.agg _) rfl ?_) | (refine LetB.pre ?_; first | refine LetB.dect (by omega) ?_) | (refine Br.pre ?_; first | refine Br.tt rfl ?_) | (refine Ck.pre ?_; first | refine Ck.mk rfl ?_ | refine Ck.mk hc.call ?_) | (refine CallN.pre ?_; first | refine CallN.pure hck (hc.names e) rfl ?_) | refine forceAs.pass ?_))); (try (conv => whnf)))



      exact ⟨.inl rfl, ⟨_, rfl, rfl⟩, trivial⟩
theorem ContainsE_f {c : Cd} (hc : c.Ok) (l : List E) (fl : Fl) (hl : l.length ≤ 100000) : AFun Try.prog 59 0 [.ro fl 15 (l.map en), c.av] [] (bool (l.any c.p)) [] := by
  refine AFun.of_W T_ok mixed Try.func59 rfl (Nat.le_of_ble_eq_true rfl) rfl ?_
  have hi := IndexE_f hc l fl hl
  have hk := fidx_nonneg (p := c.p) l 0
  generalize fidx c.p l 0 = r at hi hk
  have hb : decide (r ≥ 0) = l.any c.p := Bool.eq_iff_iff.2 (by simp only [decide_eq_true_eq]; exact hk)
  have hn : AV.namesL (fun _ => false) [.ro fl 15 (l.map en), c.av] = true := by
    simp only [AV.namesL, AV.names, hc.pure]; rfl
  ((repeat ((conv => whnf); (first | (refine As.pre ?_; first | refine As.mk rfl ?_) | (refine LetB.pre ?_; first | refine LetB.mk _ hb.symm ?_) | (refine Ck.pre ?_; first | refine Ck.mk rfl ?_) | (refine CallN.pre ?_; first | refine CallN.pure hi hn rfl ?_) | refine forceAs.pass ?_))); (try (conv => whnf)))


  exact ⟨.inl rfl, ⟨_, rfl, rfl⟩, trivial⟩
theorem check1_f (x e : E) : AFun Try.prog 60 0 [en x, .rp (en e) 0] [] (bool (decide (x.id = e.id))) [] := by
  refine AFun.of_W T_ok mixed Try.func60 rfl (Nat.le_of_ble_eq_true rfl) rfl ?_
  repeat' ((conv => whnf); (first | (refine LetN.pre ?_; first | ((conv => arg 1; whnf); refine LetN.mk ?_)) | (refine As.pre ?_; first | refine As.mk rfl ?_) | (refine LetV.pre ?_; first | refine LetV.mk (.sc (.int _ _)) rfl ?_) | (refine LetB.pre ?_; first | (refine LetB.dec (fun _ => ?_) (fun _ => ?_))) | (refine Ck.pre ?_; first | refine Ck.mk rfl ?_)))
  all_goals (refine ⟨by first | exact .inl rfl | exact .inr rfl, ⟨_, rfl, congrArg (fun b => Go.Proofs.Ytjnohedknlibmaa.Am.AV.sc (Go.Value.bool b)) (by first | exact (decide_eq_true (by omega)).symm | exact (decide_eq_false (by omega)).symm | exact Bool.eq_iff_iff.2 (by simp only [decide_eq_true_eq, decide_eq_false_iff_not]; omega) | rfl)⟩, trivial⟩)
theorem check2_f (x e : E) (kd : Int) : AFun Try.prog 63 0 [en x, .rp (en e) 0, .rp (int kd) 0] [] (bool (decide (x.id = e.ref ∧ x.kind = kd ∧ x.student = e.student))) [] := by
  refine AFun.of_W T_ok mixed Try.func63 rfl (Nat.le_of_ble_eq_true rfl) rfl ?_
  repeat' ((conv => whnf); (first | (refine LetN.pre ?_; first | ((conv => arg 1; whnf); refine LetN.mk ?_)) | (refine As.pre ?_; first | refine As.mk rfl ?_) | (refine LetV.pre ?_; first | refine LetV.mk (.sc (.int _ _)) rfl ?_) | (refine LetB.pre ?_; first | (refine LetB.dec (fun _ => ?_) (fun _ => ?_))) | (refine Gd.pre ?_; first | refine Gd.run rfl ?_ | refine Gd.pass rfl ?_) | (refine Ck.pre ?_; first | refine Ck.mk rfl ?_)))
  all_goals (refine ⟨by first | exact .inl rfl | exact .inr rfl, ⟨_, rfl, congrArg (fun b => Go.Proofs.Ytjnohedknlibmaa.Am.AV.sc (Go.Value.bool b)) (by first | exact (decide_eq_true (by omega)).symm | exact (decide_eq_false (by omega)).symm | exact Bool.eq_iff_iff.2 (by simp only [decide_eq_true_eq, decide_eq_false_iff_not]; omega) | rfl)⟩, trivial⟩)
abbrev cSame (e : E) : Cd := ⟨60, [.rp (en e) 0], fun x => decide (x.id = e.id)⟩
abbrev cRef (e : E) (kd : Int) : Cd := ⟨63, [.rp (en e) 0, .rp (int kd) 0], fun x => decide (x.id = e.ref ∧ x.kind = kd ∧ x.student = e.student)⟩
theorem cSame_ok (e : E) : (cSame e).Ok := ⟨fun x => check1_f x e, by kernel_rfl, rfl⟩
theorem cRef_ok (e : E) (kd : Int) : (cRef e kd).Ok := ⟨fun x => check2_f x e kd, by kernel_rfl, rfl⟩
theorem targets_f : AFun Try.prog 61 0 [] [] (.mp 0) [(0, .map 4 [(.int .i64 4, int 3), (.int .i64 5, int 3), (.int .i64 6, int 5), (.int .i64 9, int 8)])] :=
  AFun.of_evF T_ok mixed 20 0 [] [(0, some (.map 4 [(.int .i64 4, int 3), (.int .i64 5, int 3), (.int .i64 6, int 5), (.int .i64 9, int 8)]))] (by kernel_rfl) rfl rfl
def tgt (k : Int) : Int := if k = 4 ∨ k = 5 then 3 else if k = 6 then 5 else if k = 9 then 8 else 0
theorem target_f (k : Int) : AFun Try.prog 50 0 [int k] [] (int (tgt k)) [] := by
  refine AFun.of_W T_ok mixed Try.func50 rfl (Nat.le_of_ble_eq_true rfl) rfl ?_
  unfold tgt
  repeat' ((conv => whnf); (first | (refine As.pre ?_; first | refine As.mk rfl ?_) | (refine LetB.pre ?_; first | (refine LetB.dec (fun _ => ?_) (fun _ => ?_))) | (refine Br.pre ?_; first | refine Br.tt rfl ?_ | refine Br.ff rfl ?_) | (refine Ck.pre ?_; first | refine Ck.mk rfl ?_)))
  all_goals
    refine ⟨.inl rfl, ⟨_, rfl, congrArg int ?_⟩, trivial⟩
    repeat' split
    all_goals first | rfl | (exfalso; omega)
end En
end Go.Proofs.Ytjnohedknlibmaa
namespace Go.Proofs.Ytjnohedknlibmaa
open Go.Proofs.Ytjnohedknlibmaa.Am
namespace En
open Classical
noncomputable def oneE (b : List E) (e : E) : Int :=
  if entE e ≠ 0 then entE e
  else if b ≠ [] ∧ (b.getD 0 e0).school ≠ e.school then 22
  else if b.any (fun x => decide (x.id = e.id)) = true then 6
  else if b ≠ [] ∧ e.day < (b.getD (b.length - 1) e0).day then 7
  else if tgt e.kind = 0 then 0
  else if fidx (cRef e (tgt e.kind)).p b 0 < 0 then 21
  else if e.on_ < (b.getD (fidx (cRef e (tgt e.kind)).p b 0).toNat e0).on_ then 23
  else 0
theorem entE_kind {e : E} (h : entE e = 0) : 1 ≤ e.kind ∧ e.kind ≤ 9 := by
  unfold entE entX at h
  split at h
  · cases h
  · split at h
    · cases h
    · rename_i h2
      omega
theorem key_int {n : Int} (h : -9223372036854775808 ≤ n ∧ n ≤ 9223372036854775807) : keyB Try.prog 3 (.int .i64 n) = true := by
  have hu : Try.prog.underlying 3 = some (.int .i64) := TT.Ok.int T_ok (t := 3) rfl rfl
  have hw : (Lit.int .i64 n).wf = true := by
    simp only [Lit.wf, Bool.and_eq_true, decide_eq_true_eq]
    exact h
  unfold keyB keyOf
  simp [hu, mapKey, hw]
theorem fidx_range {α : Type} (p : α → Bool) : ∀ (l : List α) (k : Nat), fidx p l k < (k + l.length : Nat) ∧ -1 ≤ fidx p l k
  | [], k => by simp only [fidx]; omega
  | a :: l, k => by
    unfold fidx
    have := fidx_range p l (k + 1)
    simp only [List.length_cons]
    split <;> omega
abbrev tkv : List (Value × AV) := [(.int .i64 4, int 3), (.int .i64 5, int 3), (.int .i64 6, int 5), (.int .i64 9, int 8)]
theorem tgt_none {k : Int} (h : tgt k = 0) : findOk tkv (.int .i64 k) none := by
  intro x hx
  unfold tgt at h
  simp only [List.mem_cons, List.not_mem_nil, or_false] at hx
  rcases hx with rfl | rfl | rfl | rfl <;>
    (intro he
     simp only [Value.int.injEq, true_and] at he
     subst he
     simp at h)
theorem tgt_some {k : Int} (h : tgt k ≠ 0) : ∃ ix, findOk tkv (.int .i64 k) (some ix) ∧ (AV.tup [int (tgt k), .sc (.bool true)]) = .tup [kvAt tkv ix, .sc (.bool true)] := by
  unfold tgt at h ⊢
  by_cases h4 : k = 4
  · subst h4; exact ⟨0, ⟨int 3, rfl⟩, rfl⟩
  by_cases h5 : k = 5
  · subst h5; exact ⟨1, ⟨int 3, rfl⟩, rfl⟩
  by_cases h6 : k = 6
  · subst h6; exact ⟨2, ⟨int 5, rfl⟩, rfl⟩
  by_cases h9 : k = 9
  · subst h9; exact ⟨3, ⟨int 8, rfl⟩, rfl⟩
  · exfalso
    rw [if_neg (by omega), if_neg (by omega), if_neg (by omega)] at h
    exact h rfl
theorem key_kind {k : Int} (h : 1 ≤ k ∧ k ≤ 9) : (keyB Try.prog 3 (.int .i64 k) && tkv.all fun x => keyB Try.prog 3 x.1) = true := by
  simp only [List.all_cons, List.all_nil, Bool.and_true, Bool.and_eq_true]
  exact ⟨key_int (by omega), key_int (by omega), key_int (by omega), key_int (by omega), key_int (by omega)⟩
theorem one_tail {b : List E} {e : E} (h0 : entE e = 0) (h1 : ¬ (b ≠ [] ∧ (b.getD 0 e0).school ≠ e.school)) (h2 : b.any (fun x => decide (x.id = e.id)) = false) (h3 : ¬ (b ≠ [] ∧ e.day < (b.getD (b.length - 1) e0).day)) :
    oneE b e = if tgt e.kind = 0 then 0 else if fidx (cRef e (tgt e.kind)).p b 0 < 0 then 21 else if e.on_ < (b.getD (fidx (cRef e (tgt e.kind)).p b 0).toNat e0).on_ then 23 else 0 := by
  unfold oneE
  rw [if_neg (by rw [h0]; simp), if_neg h1, if_neg (by rw [h2]; simp), if_neg h3]
set_option maxHeartbeats 3200000 in
set_option maxRecDepth 100000 in
theorem check_f (b : List E) (e : E) (fl : Fl) (hl : b.length ≤ 100000) : AFun Try.prog 34 0 [en e, .ro fl 15 (b.map en)] [] (int (oneE b e)) [] := by
  have hC := Check_f e
  refine AFun.of_W T_ok mixed Try.func34 rfl (Nat.le_of_ble_eq_true rfl) rfl ?_
  by_cases hE : entE e = 0
  case neg =>
    rw [show oneE b e = entE e from if_pos hE]
    generalize entE e = z at hC hE ⊢
    ((repeat ((conv => whnf); (first | (refine LetN.pre ?_; first | ((conv => arg 1; whnf); refine LetN.mk ?_)) | (refine As.pre ?_; first | refine As.mk rfl ?_) | (refine LetV.pre ?_; first | refine LetV.mk (.agg _) rfl ?_) | (refine LetB.pre ?_; first | refine LetB.bnet (by omega) ?_) | (refine Br.pre ?_; first | refine Br.tt rfl ?_) | (refine Ck.pre ?_; first | refine Ck.mk rfl ?_) | (refine CallN.pre ?_; first | refine CallN.pure hC rfl rfl ?_)))); (try (conv => whnf)))

    exact ⟨.inl rfl, ⟨_, rfl, rfl⟩, trivial⟩
  have hky := key_kind (entE_kind hE)
  have hm : (b.map en).length = b.length := List.length_map _
  rw [hE] at hC
  by_cases hb : b.length = 0
  case pos =>
    have hbn : b = [] := List.length_eq_zero_iff.1 hb
    have hs : ¬ (b ≠ [] ∧ (b.getD 0 e0).school ≠ e.school) := fun h => h.1 hbn
    have ha : b.any (fun x => decide (x.id = e.id)) = false := by rw [hbn]; rfl
    have hd : ¬ (b ≠ [] ∧ e.day < (b.getD (b.length - 1) e0).day) := fun h => h.1 hbn
    by_cases ht : tgt e.kind = 0
    case pos =>
      have hno : findOk tkv (.int .i64 e.kind) none := tgt_none ht
      ((repeat ((conv => whnf); (first | (refine LetN.pre ?_; first | ((conv => arg 1; whnf); refine LetN.mk ?_)) | (refine As.pre ?_; first | refine As.mk rfl ?_ | refine As.mk hky ?_) | (refine LetV.pre ?_; first | refine LetV.mk (t := 95) (.tup [int 0, .sc (.bool false)]) rfl ?_ | refine LetV.mk (.sc (.int _ _)) rfl ?_ | refine LetV.mk (.agg _) rfl ?_) | (refine LetI.pre ?_; first | refine LetI.mk _ rfl ?_) | (refine LetB.pre ?_; first | refine LetB.ff rfl ?_ | refine LetB.decf (by omega) ?_) | (refine Br.pre ?_; first | refine Br.tt rfl ?_ | refine Br.ff rfl ?_) | (refine Ck.pre ?_; first | refine Ck.drawn (by kernel_rfl) ?_ | refine Ck.mk rfl ?_) | (refine LetL.pre ?_; first | refine LetL.mk [_] rfl ?_) | (refine CallN.pre ?_; first | refine CallN.pure hC rfl rfl ?_ | refine CallN.own (fun _ => 7) targets_f (CallOk.mk' rfl rfl rfl rfl rfl rfl trivial) ?_) | (refine FindN.mk none hno ?_)))); (try (conv => whnf)))





      exact ⟨.inl rfl, ⟨_, rfl, congrArg int ((one_tail hE hs ha hd).trans (if_pos ht)).symm⟩, trivial⟩
    obtain ⟨ix, hfi, hkv⟩ := tgt_some ht
    rw [one_tail hE hs ha hd, if_neg ht]
    generalize hkd : tgt e.kind = kd at hkv
    have hI := fun kd => IndexE_f (cRef_ok e kd) b fl hl
    replace hI := hI kd
    have hrr := fidx_range (cRef e kd).p b 0
    generalize fidx (cRef e kd).p b 0 = r at hI hrr ⊢
    have hr : r < 0 := by omega
    ((repeat ((conv => whnf); (first | (refine LetN.pre ?_; first | ((conv => arg 1; whnf); refine LetN.mk ?_)) | (refine As.pre ?_; first | refine As.mk rfl ?_ | refine As.mk hky ?_) | (refine LetV.pre ?_; first | refine LetV.mk (t := 95) (.tup [int kd, .sc (.bool true)]) hkv ?_ | refine LetV.mk (.sc (.int _ _)) rfl ?_ | refine LetV.mk (.agg _) rfl ?_) | (refine LetI.pre ?_; first | refine LetI.mk _ rfl ?_) | (refine LetB.pre ?_; first | refine LetB.ff rfl ?_ | refine LetB.dect (by omega) ?_ | refine LetB.decf (by omega) ?_) | (refine Br.pre ?_; first | refine Br.tt rfl ?_ | refine Br.ff rfl ?_) | (refine Ck.pre ?_; first | refine Ck.drawn (by kernel_rfl) ?_ | refine Ck.mk rfl ?_) | (refine LetL.pre ?_; first | refine LetL.mk [_] rfl ?_) | (refine CallN.pre ?_; first | refine CallN.pure hC rfl rfl ?_ | refine CallN.own (fun _ => 7) targets_f (CallOk.mk' rfl rfl rfl rfl rfl rfl trivial) ?_ | refine CallN.lend hI rfl (.same rfl (.clo (.ptr rfl rfl rfl (.ptr rfl rfl rfl .nil)) .nil)) ?_) | (refine FindN.mk (some ix) hfi ?_)))); (try (conv => whnf)))






    exact ⟨.inl rfl, ⟨_, rfl, congrArg int (if_pos hr).symm⟩, trivial⟩
  have hbn : b ≠ [] := fun h => hb (by rw [h]; rfl)
  have hld0 : en (b.getD 0 e0) = (b.map en).getD 0 (.sc undef) := mapD e0 (by omega)
  have hldl : en (b.getD (b.length - 1) e0) = (b.map en).getD (b.length - 1) (.sc undef) := mapD e0 (by omega)
  have hsub : ((b.length - 1 : Nat) : Int) = IntKind.i64.wrap (((b.map en).length : Int) - 1) := by
    rw [hm, wrap_id (by omega) (by omega)]; omega
  have hA := ContainsE_f (cSame_ok e) b fl hl
  simp only at hA
  by_cases s1 : (b.getD 0 e0).school ≠ e.school
  case pos =>
    rw [show oneE b e = 22 from (if_neg (by rw [hE]; simp)).trans (if_pos ⟨hbn, s1⟩)]
    generalize b.getD 0 e0 = x0 at hld0 s1
    ((repeat ((conv => whnf); (first | (refine LetN.pre ?_; first | ((conv => arg 1; whnf); refine LetN.mk ?_)) | (refine As.pre ?_; first | refine As.mk rfl ?_ | (refine As.mk ?_ ?_; · ((repeat' (refine andT ?_ ?_)) <;> (first | rfl | assumption | exact decide_eq_true (by omega) | exact decide_eq_true (by dsimp only; omega) | exact decide_eq_true (by simp; omega) | (simp; done))))) | (refine LetV.pre ?_; first | refine LetV.mk (t := 29) _ hld0 ?_ | refine LetV.mk (.sc (.int _ _)) rfl ?_ | refine LetV.mk (.agg _) rfl ?_) | (refine LetI.pre ?_; first | refine LetI.mk _ rfl ?_) | (refine LetB.pre ?_; first | refine LetB.ff rfl ?_ | refine LetB.dect (by omega) ?_ | refine LetB.bnet (by omega) ?_) | (refine Br.pre ?_; first | refine Br.tt rfl ?_ | refine Br.ff rfl ?_) | (refine Ck.pre ?_; first | refine Ck.drawn (by kernel_rfl) ?_ | refine Ck.mk rfl ?_) | (refine CallN.pre ?_; first | refine CallN.pure hC rfl rfl ?_)))); (try (conv => whnf)))


    exact ⟨.inl rfl, ⟨_, rfl, rfl⟩, trivial⟩
  have hs : ¬ (b ≠ [] ∧ (b.getD 0 e0).school ≠ e.school) := fun h => s1 h.2
  cases ha : b.any (fun x => decide (x.id = e.id)) with
  | true =>
    rw [show oneE b e = 6 from (if_neg (by rw [hE]; simp)).trans ((if_neg hs).trans (if_pos ha))]
    rw [ha] at hA
    clear hs
    generalize b.getD 0 e0 = x0 at hld0 s1
    replace s1 : x0.school = e.school := Classical.not_not.1 s1
    ((repeat ((conv => whnf); (first | (refine LetN.pre ?_; first | ((conv => arg 1; whnf); refine LetN.mk ?_)) | (refine As.pre ?_; first | refine As.mk rfl ?_ | (refine As.mk ?_ ?_; · ((repeat' (refine andT ?_ ?_)) <;> (first | rfl | assumption | exact decide_eq_true (by omega) | exact decide_eq_true (by dsimp only; omega) | exact decide_eq_true (by simp; omega) | (simp; done))))) | (refine LetV.pre ?_; first | refine LetV.mk (t := 29) _ hld0 ?_ | refine LetV.mk (.sc (.int _ _)) rfl ?_ | refine LetV.mk (.agg _) rfl ?_) | (refine LetI.pre ?_; first | refine LetI.mk _ rfl ?_) | (refine LetB.pre ?_; first | refine LetB.ff rfl ?_ | refine LetB.dect (by omega) ?_ | refine LetB.bnef (by omega) ?_) | (refine Br.pre ?_; first | refine Br.tt rfl ?_ | refine Br.ff rfl ?_) | (refine Ck.pre ?_; first | refine Ck.drawn (by kernel_rfl) ?_ | refine Ck.mk rfl ?_) | (refine CallN.pre ?_; first | refine CallN.pure hC rfl rfl ?_ | refine CallN.lend hA rfl (.same rfl (.clo (.ptr rfl rfl rfl .nil) .nil)) ?_)))); (try (conv => whnf)))



    exact ⟨.inl rfl, ⟨_, rfl, rfl⟩, trivial⟩
  | false =>
    rw [ha] at hA
    by_cases s2 : e.day < (b.getD (b.length - 1) e0).day
    case pos =>
      rw [show oneE b e = 7 from (if_neg (by rw [hE]; simp)).trans ((if_neg hs).trans ((if_neg (by rw [ha]; simp)).trans (if_pos ⟨hbn, s2⟩)))]
      clear hs
      generalize b.getD 0 e0 = x0 at hld0 s1
      generalize b.getD (b.length - 1) e0 = xl at hldl s2
      replace s1 : x0.school = e.school := Classical.not_not.1 s1
      ((repeat ((conv => whnf); (first | (refine LetN.pre ?_; first | ((conv => arg 1; whnf); refine LetN.mk ?_)) | (refine As.pre ?_; first | refine As.mk rfl ?_ | (refine As.mk ?_ ?_; · ((repeat' (refine andT ?_ ?_)) <;> (first | rfl | assumption | exact decide_eq_true (by omega) | exact decide_eq_true (by dsimp only; omega) | exact decide_eq_true (by simp; omega) | (simp; done))))) | (refine LetV.pre ?_; first | refine LetV.mk (t := 29) _ hld0 ?_ | refine LetV.mk (t := 29) _ hldl ?_ | refine LetV.mk (.sc (.int _ _)) rfl ?_ | refine LetV.mk (.agg _) rfl ?_) | (refine LetI.pre ?_; first | refine LetI.mk (o := some .sub) ((b.length - 1 : Nat) : Int) hsub ?_ | refine LetI.mk _ rfl ?_) | (refine LetB.pre ?_; first | refine LetB.ff rfl ?_ | refine LetB.dect (by omega) ?_ | refine LetB.bnef (by omega) ?_) | (refine Br.pre ?_; first | refine Br.tt rfl ?_ | refine Br.ff rfl ?_) | (refine Ck.pre ?_; first | refine Ck.drawn (by kernel_rfl) ?_ | refine Ck.mk rfl ?_) | (refine CallN.pre ?_; first | refine CallN.pure hC rfl rfl ?_ | refine CallN.lend hA rfl (.same rfl (.clo (.ptr rfl rfl rfl .nil) .nil)) ?_)))); (try (conv => whnf)))





      exact ⟨.inl rfl, ⟨_, rfl, rfl⟩, trivial⟩
    have hd : ¬ (b ≠ [] ∧ e.day < (b.getD (b.length - 1) e0).day) := fun h => s2 h.2
    have s1' : (b.getD 0 e0).school = e.school := Classical.not_not.1 s1
    clear s1
    by_cases ht : tgt e.kind = 0
    case pos =>
      have hno : findOk tkv (.int .i64 e.kind) none := tgt_none ht
      ((repeat ((conv => whnf); (first | (refine LetN.pre ?_; first | ((conv => arg 1; whnf); refine LetN.mk ?_)) | (refine As.pre ?_; first | refine As.mk rfl ?_ | refine As.mk hky ?_ | (refine As.mk ?_ ?_; · ((repeat' (refine andT ?_ ?_)) <;> (first | rfl | assumption | exact decide_eq_true (by omega) | exact decide_eq_true (by dsimp only; omega) | exact decide_eq_true (by simp; omega) | (simp; done))))) | (refine LetV.pre ?_; first | refine LetV.mk (t := 29) _ hld0 ?_ | refine LetV.mk (t := 29) _ hldl ?_ | refine LetV.mk (t := 95) (.tup [int 0, .sc (.bool false)]) rfl ?_ | refine LetV.mk (.sc (.int _ _)) rfl ?_ | refine LetV.mk (.agg _) rfl ?_) | (refine LetI.pre ?_; first | refine LetI.mk (o := some .sub) ((b.length - 1 : Nat) : Int) hsub ?_ | refine LetI.mk _ rfl ?_) | (refine LetB.pre ?_; first | refine LetB.ff rfl ?_ | refine LetB.dect (by omega) ?_ | refine LetB.decf (by omega) ?_ | refine LetB.bnef (by omega) ?_) | (refine Br.pre ?_; first | refine Br.tt rfl ?_ | refine Br.ff rfl ?_) | (refine Ck.pre ?_; first | refine Ck.drawn (by kernel_rfl) ?_ | refine Ck.mk rfl ?_) | (refine LetL.pre ?_; first | refine LetL.mk [_] rfl ?_) | (refine CallN.pre ?_; first | refine CallN.pure hC rfl rfl ?_ | refine CallN.own (fun _ => 7) targets_f (CallOk.mk' rfl rfl rfl rfl rfl rfl trivial) ?_ | refine CallN.lend hA rfl (.same rfl (.clo (.ptr rfl rfl rfl .nil) .nil)) ?_) | (refine FindN.mk none hno ?_)))); (try (conv => whnf)))









      exact ⟨.inl rfl, ⟨_, rfl, congrArg int ((one_tail hE hs ha hd).trans (if_pos ht)).symm⟩, trivial⟩
    obtain ⟨ix, hfi, hkv⟩ := tgt_some ht
    rw [one_tail hE hs ha hd, if_neg ht]
    generalize hkd : tgt e.kind = kd at hkv
    have hI := fun kd => IndexE_f (cRef_ok e kd) b fl hl
    replace hI := hI kd
    have hrr := fidx_range (cRef e kd).p b 0
    generalize fidx (cRef e kd).p b 0 = r at hI hrr ⊢
    by_cases hr : r < 0
    case pos =>
      ((repeat ((conv => whnf); (first | (refine LetN.pre ?_; first | ((conv => arg 1; whnf); refine LetN.mk ?_)) | (refine As.pre ?_; first | refine As.mk rfl ?_ | refine As.mk hky ?_ | (refine As.mk ?_ ?_; · ((repeat' (refine andT ?_ ?_)) <;> (first | rfl | assumption | exact decide_eq_true (by omega) | exact decide_eq_true (by dsimp only; omega) | exact decide_eq_true (by simp; omega) | (simp; done))))) | (refine LetV.pre ?_; first | refine LetV.mk (t := 29) _ hld0 ?_ | refine LetV.mk (t := 29) _ hldl ?_ | refine LetV.mk (t := 95) (.tup [int kd, .sc (.bool true)]) hkv ?_ | refine LetV.mk (.sc (.int _ _)) rfl ?_ | refine LetV.mk (.agg _) rfl ?_) | (refine LetI.pre ?_; first | refine LetI.mk (o := some .sub) ((b.length - 1 : Nat) : Int) hsub ?_ | refine LetI.mk _ rfl ?_) | (refine LetB.pre ?_; first | refine LetB.ff rfl ?_ | refine LetB.dect (by omega) ?_ | refine LetB.decf (by omega) ?_ | refine LetB.bnef (by omega) ?_) | (refine Br.pre ?_; first | refine Br.tt rfl ?_ | refine Br.ff rfl ?_) | (refine Ck.pre ?_; first | refine Ck.drawn (by kernel_rfl) ?_ | refine Ck.mk rfl ?_) | (refine LetL.pre ?_; first | refine LetL.mk [_] rfl ?_) | (refine CallN.pre ?_; first | refine CallN.pure hC rfl rfl ?_ | refine CallN.own (fun _ => 7) targets_f (CallOk.mk' rfl rfl rfl rfl rfl rfl trivial) ?_ | refine CallN.lend hA rfl (.same rfl (.clo (.ptr rfl rfl rfl .nil) .nil)) ?_ | refine CallN.lend hI rfl (.same rfl (.clo (.ptr rfl rfl rfl (.ptr rfl rfl rfl .nil)) .nil)) ?_) | (refine FindN.mk (some ix) hfi ?_)))); (try (conv => whnf)))










      exact ⟨.inl rfl, ⟨_, rfl, congrArg int (if_pos hr).symm⟩, trivial⟩
    have hrl : r.toNat < b.length := by omega
    have hldi : en (b.getD r.toNat e0) = (b.map en).getD r.toNat (.sc undef) := mapD e0 hrl
    generalize hxi : b.getD r.toNat e0 = xi at hldi ⊢
    by_cases ho : e.on_ < xi.on_
    case pos =>
      ((repeat ((conv => whnf); (first | (refine LetN.pre ?_; first | ((conv => arg 1; whnf); refine LetN.mk ?_)) | (refine As.pre ?_; first | refine As.mk rfl ?_ | refine As.mk hky ?_ | (refine As.mk ?_ ?_; · ((repeat' (refine andT ?_ ?_)) <;> (first | rfl | assumption | exact decide_eq_true (by omega) | exact decide_eq_true (by dsimp only; omega) | exact decide_eq_true (by simp; omega) | (simp; done))))) | (refine LetV.pre ?_; first | refine LetV.mk (t := 29) _ hld0 ?_ | refine LetV.mk (t := 29) _ hldl ?_ | refine LetV.mk (t := 29) _ hldi ?_ | refine LetV.mk (t := 95) (.tup [int kd, .sc (.bool true)]) hkv ?_ | refine LetV.mk (.sc (.int _ _)) rfl ?_ | refine LetV.mk (.agg _) rfl ?_) | (refine LetI.pre ?_; first | refine LetI.mk (o := some .sub) ((b.length - 1 : Nat) : Int) hsub ?_ | refine LetI.mk _ rfl ?_) | (refine LetB.pre ?_; first | refine LetB.ff rfl ?_ | refine LetB.dect (by omega) ?_ | refine LetB.decf (by omega) ?_ | refine LetB.bnef (by omega) ?_) | (refine Br.pre ?_; first | refine Br.tt rfl ?_ | refine Br.ff rfl ?_) | (refine Ck.pre ?_; first | refine Ck.drawn (by kernel_rfl) ?_ | refine Ck.mk rfl ?_) | (refine LetL.pre ?_; first | refine LetL.mk [_] rfl ?_) | (refine CallN.pre ?_; first | refine CallN.pure hC rfl rfl ?_ | refine CallN.own (fun _ => 7) targets_f (CallOk.mk' rfl rfl rfl rfl rfl rfl trivial) ?_ | refine CallN.lend hA rfl (.same rfl (.clo (.ptr rfl rfl rfl .nil) .nil)) ?_ | refine CallN.lend hI rfl (.same rfl (.clo (.ptr rfl rfl rfl (.ptr rfl rfl rfl .nil)) .nil)) ?_) | (refine FindN.mk (some ix) hfi ?_)))); (try (conv => whnf)))











      exact ⟨.inl rfl, ⟨_, rfl, congrArg int ((if_neg hr).trans (if_pos ho)).symm⟩, trivial⟩
    ((repeat ((conv => whnf); (first | (refine LetN.pre ?_; first | ((conv => arg 1; whnf); refine LetN.mk ?_)) | (refine As.pre ?_; first | refine As.mk rfl ?_ | refine As.mk hky ?_ | (refine As.mk ?_ ?_; · ((repeat' (refine andT ?_ ?_)) <;> (first | rfl | assumption | exact decide_eq_true (by omega) | exact decide_eq_true (by dsimp only; omega) | exact decide_eq_true (by simp; omega) | (simp; done))))) | (refine LetV.pre ?_; first | refine LetV.mk (t := 29) _ hld0 ?_ | refine LetV.mk (t := 29) _ hldl ?_ | refine LetV.mk (t := 29) _ hldi ?_ | refine LetV.mk (t := 95) (.tup [int kd, .sc (.bool true)]) hkv ?_ | refine LetV.mk (.sc (.int _ _)) rfl ?_ | refine LetV.mk (.agg _) rfl ?_) | (refine LetI.pre ?_; first | refine LetI.mk (o := some .sub) ((b.length - 1 : Nat) : Int) hsub ?_ | refine LetI.mk _ rfl ?_) | (refine LetB.pre ?_; first | refine LetB.ff rfl ?_ | refine LetB.dect (by omega) ?_ | refine LetB.decf (by omega) ?_ | refine LetB.bnef (by omega) ?_) | (refine Br.pre ?_; first | refine Br.tt rfl ?_ | refine Br.ff rfl ?_) | (refine Ck.pre ?_; first | refine Ck.drawn (by kernel_rfl) ?_ | refine Ck.mk rfl ?_) | (refine LetL.pre ?_; first | refine LetL.mk [_] rfl ?_) | (refine CallN.pre ?_; first | refine CallN.pure hC rfl rfl ?_ | refine CallN.own (fun _ => 7) targets_f (CallOk.mk' rfl rfl rfl rfl rfl rfl trivial) ?_ | refine CallN.lend hA rfl (.same rfl (.clo (.ptr rfl rfl rfl .nil) .nil)) ?_ | refine CallN.lend hI rfl (.same rfl (.clo (.ptr rfl rfl rfl (.ptr rfl rfl rfl .nil)) .nil)) ?_) | (refine FindN.mk (some ix) hfi ?_)))); (try (conv => whnf)))











    exact ⟨.inl rfl, ⟨_, rfl, congrArg int ((if_neg hr).trans (if_neg ho)).symm⟩, trivial⟩
end En
end Go.Proofs.Ytjnohedknlibmaa
namespace Go.Proofs.Ytjnohedknlibmaa
open Go.Proofs.Ytjnohedknlibmaa.Am
namespace En
open Classical
set_option maxHeartbeats 3200000 in
set_option maxRecDepth 100000 in
theorem one_f (b : List E) (e : E) (fl : Fl) (hl : b.length ≤ 100000) (hs0 : e.course.size ≤ 9223372036854775806) : AFun Try.prog 39 0 [en e, .ro fl 15 (b.map en)] [] (int (oneE b e)) [] := by
  have hC := rCheck_f e hs0
  have hT := target_f e.kind
  refine AFun.of_W T_ok mixed Try.func39 rfl (Nat.le_of_ble_eq_true rfl) rfl ?_
  by_cases hE : entE e = 0
  case neg =>
    rw [show oneE b e = entE e from if_pos hE]
    generalize entE e = z at hC hE ⊢
    ((repeat ((conv => whnf); (first | (refine LetN.pre ?_; first | ((conv => arg 1; whnf); refine LetN.mk ?_)) | (refine As.pre ?_; first | refine As.mk rfl ?_) | (refine LetV.pre ?_; first | refine LetV.mk (.agg _) rfl ?_) | (refine LetB.pre ?_; first | refine LetB.bnet (by omega) ?_) | (refine Br.pre ?_; first | refine Br.tt rfl ?_) | (refine Ck.pre ?_; first | refine Ck.mk rfl ?_) | (refine CallN.pre ?_; first | refine CallN.pure hC rfl rfl ?_)))); (try (conv => whnf)))
    exact ⟨.inl rfl, ⟨_, rfl, rfl⟩, trivial⟩
  have hm : (b.map en).length = b.length := List.length_map _
  rw [hE] at hC
  have hld0 : 0 < b.length → en (b.getD 0 e0) = (b.map en).getD 0 (.sc undef) := fun h => mapD e0 h
  have hldl : 0 < b.length → en (b.getD (b.length - 1) e0) = (b.map en).getD (b.length - 1) (.sc undef) := fun h => mapD e0 (by omega)
  have hsub : 0 < b.length → ((b.length - 1 : Nat) : Int) = IntKind.i64.wrap (((b.map en).length : Int) - 1) := by
    intro h
    rw [hm, wrap_id (by omega) (by omega)]; omega
  by_cases hs : b ≠ [] ∧ (b.getD 0 e0).school ≠ e.school
  case pos =>
    have hb : 0 < b.length := List.length_pos_iff.2 hs.1
    rw [show oneE b e = 22 from (if_neg (by rw [hE]; simp)).trans (if_pos hs)]
    have h0 := hld0 hb
    have s1 := hs.2
    clear hs hld0 hldl hsub
    generalize b.getD 0 e0 = x0 at h0 s1
    ((repeat ((conv => whnf); (first | (refine LetN.pre ?_; first | ((conv => arg 1; whnf); refine LetN.mk ?_)) | (refine As.pre ?_; first | refine As.mk rfl ?_ | (refine As.mk ?_ ?_; · ((repeat' (refine andT ?_ ?_)) <;> (first | rfl | assumption | exact decide_eq_true (by omega) | exact decide_eq_true (by dsimp only; omega) | exact decide_eq_true (by simp; omega) | (simp; done))))) | (refine LetV.pre ?_; first | refine LetV.mk (t := 29) _ h0 ?_ | refine LetV.mk (.sc (.int _ _)) rfl ?_ | refine LetV.mk (.agg _) rfl ?_) | (refine LetI.pre ?_; first | refine LetI.mk _ rfl ?_) | (refine LetB.pre ?_; first | refine LetB.ff rfl ?_ | refine LetB.dect (by omega) ?_ | refine LetB.bnet (by omega) ?_) | (refine Gd.pre ?_; first | refine Gd.run rfl ?_) | (refine Br.pre ?_; first | refine Br.tt rfl ?_ | refine Br.ff rfl ?_) | (refine Ck.pre ?_; first | refine Ck.drawn (by kernel_rfl) ?_ | refine Ck.mk rfl ?_) | (refine CallN.pre ?_; first | refine CallN.pure hC rfl rfl ?_)))); (try (conv => whnf)))
    exact ⟨.inl rfl, ⟨_, rfl, rfl⟩, trivial⟩
  generalize hR : oneE b e = R
  have hany : ∀ v, b.any (fun x => decide (x.id = e.id)) = v → R = if v = true then 6 else if b ≠ [] ∧ e.day < (b.getD (b.length - 1) e0).day then 7
      else if tgt e.kind = 0 then 0 else if fidx (cRef e (tgt e.kind)).p b 0 < 0 then 21 else if e.on_ < (b.getD (fidx (cRef e (tgt e.kind)).p b 0).toNat e0).on_ then 23 else 0 := by
    intro v hv
    rw [← hR]
    unfold oneE
    rw [if_neg (by rw [hE]; simp), if_neg hs, hv]
  clear hR
  by_cases hb : b.length = 0
  case pos =>
    have hbn : b = [] := List.length_eq_zero_iff.1 hb
    subst hbn
    have hR := hany false rfl
    simp only [Bool.false_eq_true, if_false, ne_eq, not_true_eq_false, false_and] at hR
    clear hany hs hld0 hldl hsub
    generalize tgt e.kind = kd at hT hR
    by_cases ht : kd = 0
    · rw [if_pos ht] at hR
      subst hR
      ((repeat ((conv => whnf); (first | (refine LetN.pre ?_; first | ((conv => arg 1; whnf); refine LetN.mk ?_)) | (refine As.pre ?_; first | refine As.mk rfl ?_) | (refine LetV.pre ?_; first | refine LetV.mk (.agg _) rfl ?_) | (refine LetI.pre ?_; first | refine LetI.mk _ rfl ?_) | (refine LetB.pre ?_; first | refine LetB.ff rfl ?_) | (refine Gd.pre ?_; first | refine Gd.pass rfl ?_) | (refine Br.pre ?_; first | refine Br.ff rfl ?_) | (refine Ck.pre ?_; first | refine Ck.drawn (by kernel_rfl) ?_ | refine Ck.mk rfl ?_) | (refine CallN.pre ?_; first | refine CallN.pure hC rfl rfl ?_)))); (try (conv => whnf)))
      refine LoopN.round T_ok mixed rfl ?_
      ((repeat ((conv => whnf); (first | (refine As.pre ?_; first | refine As.mk rfl ?_) | (refine LetV.pre ?_; first | refine LetV.mk (.sc (.int _ _)) rfl ?_) | (refine LetI.pre ?_; first | refine LetI.mk _ rfl ?_) | (refine LetB.pre ?_; first | refine LetB.ff rfl ?_ | refine LetB.dect (by omega) ?_) | (refine Gd.pre ?_; first | refine Gd.pass rfl ?_) | (refine Br.pre ?_; first | refine Br.tt rfl ?_ | refine Br.ff rfl ?_) | (refine Ck.pre ?_; first | refine Ck.drawn (by kernel_rfl) ?_ | refine Ck.mk rfl ?_) | (refine CallN.pre ?_; first | refine CallN.pure hT rfl rfl ?_)))); (try (conv => whnf)))
      exact ⟨.inl rfl, ⟨_, rfl, rfl⟩, trivial⟩
    · rw [if_neg ht, if_pos (show fidx (cRef e kd).p [] 0 < 0 by simp [fidx])] at hR
      subst hR
      ((repeat ((conv => whnf); (first | (refine LetN.pre ?_; first | ((conv => arg 1; whnf); refine LetN.mk ?_)) | (refine As.pre ?_; first | refine As.mk rfl ?_) | (refine LetV.pre ?_; first | refine LetV.mk (.agg _) rfl ?_) | (refine LetI.pre ?_; first | refine LetI.mk _ rfl ?_) | (refine LetB.pre ?_; first | refine LetB.ff rfl ?_) | (refine Gd.pre ?_; first | refine Gd.pass rfl ?_) | (refine Br.pre ?_; first | refine Br.ff rfl ?_) | (refine Ck.pre ?_; first | refine Ck.drawn (by kernel_rfl) ?_ | refine Ck.mk rfl ?_) | (refine CallN.pre ?_; first | refine CallN.pure hC rfl rfl ?_)))); (try (conv => whnf)))
      refine LoopN.round T_ok mixed rfl ?_
      ((repeat ((conv => whnf); (first | (refine As.pre ?_; first | refine As.mk rfl ?_) | (refine LetV.pre ?_; first | refine LetV.mk (.sc (.int _ _)) rfl ?_) | (refine LetI.pre ?_; first | refine LetI.mk _ rfl ?_) | (refine LetB.pre ?_; first | refine LetB.ff rfl ?_ | refine LetB.decf (by omega) ?_) | (refine Gd.pre ?_; first | refine Gd.pass rfl ?_) | (refine Br.pre ?_; first | refine Br.ff rfl ?_) | (refine Ck.pre ?_; first | refine Ck.drawn (by kernel_rfl) ?_ | refine Ck.mk rfl ?_) | (refine CallN.pre ?_; first | refine CallN.pure hT rfl rfl ?_)))); (try (conv => whnf)))
      refine LoopN.round T_ok mixed rfl ?_
      ((repeat ((conv => whnf); (first | (refine As.pre ?_; first | refine As.mk rfl ?_) | (refine LetI.pre ?_; first | refine LetI.mk _ rfl ?_) | (refine LetB.pre ?_; first | refine LetB.ff rfl ?_) | (refine Br.pre ?_; first | refine Br.ff rfl ?_) | (refine Ck.pre ?_; first | refine Ck.mk rfl ?_)))); (try (conv => whnf)))
      exact ⟨.inl rfl, ⟨_, rfl, rfl⟩, trivial⟩
  have hb0 : 0 < b.length := by omega
  replace hld0 := hld0 hb0
  replace hldl := hldl hb0
  replace hsub := hsub hb0
  have hbn : b ≠ [] := List.length_pos_iff.1 hb0
  have s1 : (b.getD 0 e0).school = e.school := by
    by_cases h : (b.getD 0 e0).school = e.school
    · exact h
    · exact absurd ⟨hbn, h⟩ hs
  clear hs
  generalize hx0 : b.getD 0 e0 = x0 at hld0 s1
  clear hx0
  ((repeat ((conv => whnf); (first | (refine LetN.pre ?_; first | ((conv => arg 1; whnf); refine LetN.mk ?_)) | (refine As.pre ?_; first | refine As.mk rfl ?_ | (refine As.mk ?_ ?_; · ((repeat' (refine andT ?_ ?_)) <;> (first | rfl | assumption | exact decide_eq_true (by omega) | exact decide_eq_true (by dsimp only; omega) | exact decide_eq_true (by simp; omega) | (simp; done))))) | (refine LetV.pre ?_; first | refine LetV.mk (t := 29) _ hld0 ?_ | refine LetV.mk (.sc (.int _ _)) rfl ?_ | refine LetV.mk (.agg _) rfl ?_) | (refine LetI.pre ?_; first | refine LetI.mk _ rfl ?_) | (refine LetB.pre ?_; first | refine LetB.ff rfl ?_ | refine LetB.dect (by omega) ?_ | refine LetB.bnef (by omega) ?_) | (refine Gd.pre ?_; first | refine Gd.run rfl ?_) | (refine Br.pre ?_; first | refine Br.ff rfl ?_) | (refine Ck.pre ?_; first | refine Ck.drawn (by kernel_rfl) ?_ | refine Ck.mk rfl ?_) | (refine CallN.pre ?_; first | refine CallN.pure hC rfl rfl ?_)))); (try (conv => whnf)))
  refine LoopN.weak (s1 := ⟨[(1, .ro fl 15 (b.map en)), (2, .ptr 0 15 0 0), (6, int (0 : Nat))], [(0, .row 15 ety [en e])], 1⟩) ?sw1 ?_
  case sw1 => exact SW.mk id rfl rfl rfl ⟨.refl _, .refl _, .refl _, trivial⟩ (haveV.row rfl rfl trivial)
  generalize hY : b.any (fun x => decide (x.id = e.id)) = Y
  refine LoopN.ind T_ok mixed (S := fun k : Nat => ⟨[(1, .ro fl 15 (b.map en)), (2, .ptr 0 15 0 0), (6, int k)], [(0, .row 15 ety [en e])], 1⟩) (fun k => b.length - k) (fun k => k ≤ b.length ∧ Y = (b.drop k).any (fun x => decide (x.id = e.id))) (fun _ => rfl) (fun k hk ih => ?_) 0 ⟨Nat.zero_le _, hY.symm⟩
  obtain ⟨h1, h2⟩ := hk
  by_cases hlt : k < b.length
  case pos =>
    have hld : en (b.getD k e0) = (b.map en).getD k (.sc undef) := mapD e0 hlt
    rw [any_drop _ hlt e0] at h2
    generalize b.getD k e0 = x at hld h2
    by_cases hx : x.id = e.id
    · rw [decide_eq_true hx, Bool.true_or] at h2
      have hR := hany Y hY
      rw [h2, if_pos rfl] at hR
      subst hR
      clear ih hany
      ((repeat ((conv => whnf); (first | (refine As.pre ?_; first | refine As.mk rfl ?_ | (refine As.mk ?_ ?_; · ((repeat' (refine andT ?_ ?_)) <;> (first | rfl | assumption | exact decide_eq_true (by omega) | exact decide_eq_true (by dsimp only; omega) | exact decide_eq_true (by simp; omega) | (simp; done))))) | (refine LetV.pre ?_; first | refine LetV.mk (t := 29) _ hld ?_ | refine LetV.mk (.sc (.int _ _)) rfl ?_) | (refine LetI.pre ?_; first | refine LetI.mk _ rfl ?_) | (refine LetB.pre ?_; first | refine LetB.dect (by omega) ?_) | (refine Br.pre ?_; first | refine Br.tt rfl ?_) | (refine Ck.pre ?_; first | refine Ck.drawn (by kernel_rfl) ?_ | refine Ck.mk rfl ?_)))); (try (conv => whnf)))
      exact ⟨.inl rfl, ⟨_, rfl, rfl⟩, trivial⟩
    · rw [decide_eq_false hx, Bool.false_or] at h2
      have next := ih (k + 1) ⟨by omega, h2⟩ (by omega)
      clear ih hany
      ((repeat ((conv => whnf); (first | (refine As.pre ?_; first | refine As.mk rfl ?_ | (refine As.mk ?_ ?_; · ((repeat' (refine andT ?_ ?_)) <;> (first | rfl | assumption | exact decide_eq_true (by omega) | exact decide_eq_true (by dsimp only; omega) | exact decide_eq_true (by simp; omega) | (simp; done))))) | (refine LetV.pre ?_; first | refine LetV.mk (t := 29) _ hld ?_ | refine LetV.mk (.sc (.int _ _)) rfl ?_) | (refine LetI.pre ?_; first | refine LetI.wrap (by omega) (by omega) ?_ | refine LetI.mk _ rfl ?_) | (refine LetB.pre ?_; first | refine LetB.dect (by omega) ?_ | refine LetB.decf (by omega) ?_) | (refine Br.pre ?_; first | refine Br.tt rfl ?_ | refine Br.ff rfl ?_) | (refine Ck.pre ?_; first | refine Ck.drawn (by kernel_rfl) ?_ | refine Ck.mk rfl ?_)))); (try (conv => whnf)))
      refine LoopN.weak ?sw2 next
      case sw2 => exact SW.mk id rfl rfl rfl ⟨.refl _, .refl _, VLe2.int (by omega), trivial⟩ (haveV.row rfl rfl trivial)
  clear ih
  rw [List.drop_eq_nil_of_le (by omega), List.any_nil] at h2
  have hR := hany Y hY
  rw [h2] at hR
  simp only [Bool.false_eq_true, if_false] at hR
  clear hany hY h2
  by_cases s2 : e.day < (b.getD (b.length - 1) e0).day
  case pos =>
    rw [if_pos ⟨hbn, s2⟩] at hR
    subst hR
    generalize b.getD (b.length - 1) e0 = xl at hldl s2
    ((repeat ((conv => whnf); (first | (refine As.pre ?_; first | refine As.mk rfl ?_ | (refine As.mk ?_ ?_; · ((repeat' (refine andT ?_ ?_)) <;> (first | rfl | assumption | exact decide_eq_true (by omega) | exact decide_eq_true (by dsimp only; omega) | exact decide_eq_true (by simp; omega) | (simp; done))))) | (refine LetV.pre ?_; first | refine LetV.mk (t := 29) _ hldl ?_ | refine LetV.mk (.sc (.int _ _)) rfl ?_) | (refine LetI.pre ?_; first | refine LetI.mk (o := some .sub) ((b.length - 1 : Nat) : Int) hsub ?_ | refine LetI.mk _ rfl ?_) | (refine LetB.pre ?_; first | refine LetB.dect (by omega) ?_ | refine LetB.decf (by omega) ?_) | (refine Gd.pre ?_; first | refine Gd.run rfl ?_) | (refine Br.pre ?_; first | refine Br.tt rfl ?_ | refine Br.ff rfl ?_) | (refine Ck.pre ?_; first | refine Ck.drawn (by kernel_rfl) ?_ | refine Ck.mk rfl ?_)))); (try (conv => whnf)))


    exact ⟨.inl rfl, ⟨_, rfl, rfl⟩, trivial⟩
  rw [if_neg fun h => s2 h.2] at hR
  generalize b.getD (b.length - 1) e0 = xl at hldl s2
  generalize tgt e.kind = kd at hT hR
  by_cases ht : kd = 0
  case pos =>
    rw [if_pos ht] at hR
    subst hR
    ((repeat ((conv => whnf); (first | (refine As.pre ?_; first | refine As.mk rfl ?_ | (refine As.mk ?_ ?_; · ((repeat' (refine andT ?_ ?_)) <;> (first | rfl | assumption | exact decide_eq_true (by omega) | exact decide_eq_true (by dsimp only; omega) | exact decide_eq_true (by simp; omega) | (simp; done))))) | (refine LetV.pre ?_; first | refine LetV.mk (t := 29) _ hldl ?_ | refine LetV.mk (.sc (.int _ _)) rfl ?_) | (refine LetI.pre ?_; first | refine LetI.mk (o := some .sub) ((b.length - 1 : Nat) : Int) hsub ?_ | refine LetI.mk _ rfl ?_) | (refine LetB.pre ?_; first | refine LetB.dect (by omega) ?_ | refine LetB.decf (by omega) ?_) | (refine Gd.pre ?_; first | refine Gd.run rfl ?_) | (refine Br.pre ?_; first | refine Br.tt rfl ?_ | refine Br.ff rfl ?_) | (refine Ck.pre ?_; first | refine Ck.drawn (by kernel_rfl) ?_ | refine Ck.mk rfl ?_) | (refine CallN.pre ?_; first | refine CallN.pure hT rfl rfl ?_)))); (try (conv => whnf)))



    exact ⟨.inl rfl, ⟨_, rfl, rfl⟩, trivial⟩
  rw [if_neg ht] at hR
  ((repeat ((conv => whnf); (first | (refine As.pre ?_; first | refine As.mk rfl ?_ | (refine As.mk ?_ ?_; · ((repeat' (refine andT ?_ ?_)) <;> (first | rfl | assumption | exact decide_eq_true (by omega) | exact decide_eq_true (by dsimp only; omega) | exact decide_eq_true (by simp; omega) | (simp; done))))) | (refine LetV.pre ?_; first | refine LetV.mk (t := 29) _ hldl ?_ | refine LetV.mk (.sc (.int _ _)) rfl ?_) | (refine LetI.pre ?_; first | refine LetI.mk (o := some .sub) ((b.length - 1 : Nat) : Int) hsub ?_ | refine LetI.mk _ rfl ?_) | (refine LetB.pre ?_; first | refine LetB.dect (by omega) ?_ | refine LetB.decf (by omega) ?_) | (refine Gd.pre ?_; first | refine Gd.run rfl ?_) | (refine Br.pre ?_; first | refine Br.ff rfl ?_) | (refine Ck.pre ?_; first | refine Ck.drawn (by kernel_rfl) ?_ | refine Ck.mk rfl ?_) | (refine CallN.pre ?_; first | refine CallN.pure hT rfl rfl ?_)))); (try (conv => whnf)))



  clear hld0 hldl hsub hC hT
  refine LoopN.weak (s1 := ⟨[(1, .ro fl 15 (b.map en)), (2, .ptr 0 15 0 0), (7, int kd), (8, int (0 : Nat))], [(0, .row 15 ety [en e])], 1⟩) ?sw3 ?_
  case sw3 => exact SW.mk id rfl rfl rfl ⟨.refl _, .refl _, .refl _, .refl _, trivial⟩ (haveV.row rfl rfl trivial)
  refine LoopN.ind T_ok mixed (S := fun k : Nat => ⟨[(1, .ro fl 15 (b.map en)), (2, .ptr 0 15 0 0), (7, int kd), (8, int k)], [(0, .row 15 ety [en e])], 1⟩) (fun k => b.length - k) (fun k => k ≤ b.length ∧ fidx (cRef e kd).p b 0 = fidx (cRef e kd).p (b.drop k) k) (fun _ => rfl) (fun k hk ih => ?_) 0 ⟨Nat.zero_le _, rfl⟩
  obtain ⟨g1, g2⟩ := hk
  by_cases hlk : k < b.length
  case neg =>
    rw [fidx_end hlk] at g2
    rw [g2, if_pos (by omega)] at hR
    subst hR
    clear ih
    ((repeat ((conv => whnf); (first | (refine As.pre ?_; first | refine As.mk rfl ?_) | (refine LetI.pre ?_; first | refine LetI.mk _ rfl ?_) | (refine LetB.pre ?_; first | refine LetB.decf (by omega) ?_) | (refine Br.pre ?_; first | refine Br.ff rfl ?_) | (refine Ck.pre ?_; first | refine Ck.mk rfl ?_)))); (try (conv => whnf)))
    exact ⟨.inl rfl, ⟨_, rfl, rfl⟩, trivial⟩
  have hld : en (b.getD k e0) = (b.map en).getD k (.sc undef) := mapD e0 hlk
  rw [fidx_drop hlk e0] at g2
  by_cases hp : (b.getD k e0).id = e.ref ∧ (b.getD k e0).kind = kd ∧ (b.getD k e0).student = e.student
  case pos =>
    rw [if_pos (decide_eq_true hp)] at g2
    rw [g2, if_neg (by omega), Int.toNat_natCast] at hR
    generalize b.getD k e0 = x at hld hp hR
    obtain ⟨p1, p2, p3⟩ := hp
    clear ih
    by_cases ho : e.on_ < x.on_
    · rw [if_pos ho] at hR
      subst hR
      ((repeat ((conv => whnf); (first | (refine LetN.pre ?_; first | ((conv => arg 1; whnf); refine LetN.mk ?_)) | (refine As.pre ?_; first | refine As.mk rfl ?_ | (refine As.mk ?_ ?_; · ((repeat' (refine andT ?_ ?_)) <;> (first | rfl | assumption | exact decide_eq_true (by omega) | exact decide_eq_true (by dsimp only; omega) | exact decide_eq_true (by simp; omega) | (simp; done))))) | (refine LetV.pre ?_; first | refine LetV.mk (t := 29) _ hld ?_ | refine LetV.mk (.sc (.int _ _)) rfl ?_ | refine LetV.mk (.agg _) rfl ?_) | (refine LetI.pre ?_; first | refine LetI.mk _ rfl ?_) | (refine LetB.pre ?_; first | refine LetB.dect (by omega) ?_) | (refine Gd.pre ?_; first | refine Gd.run rfl ?_) | (refine Br.pre ?_; first | refine Br.tt rfl ?_) | (refine Ck.pre ?_; first | refine Ck.mk rfl ?_) | (refine LetL.pre ?_; first | refine LetL.mk [_] rfl ?_)))); (try (conv => whnf)))
      exact ⟨.inl rfl, ⟨_, rfl, rfl⟩, trivial⟩
    · rw [if_neg ho] at hR
      subst hR
      ((repeat ((conv => whnf); (first | (refine LetN.pre ?_; first | ((conv => arg 1; whnf); refine LetN.mk ?_)) | (refine As.pre ?_; first | refine As.mk rfl ?_ | (refine As.mk ?_ ?_; · ((repeat' (refine andT ?_ ?_)) <;> (first | rfl | assumption | exact decide_eq_true (by omega) | exact decide_eq_true (by dsimp only; omega) | exact decide_eq_true (by simp; omega) | (simp; done))))) | (refine LetV.pre ?_; first | refine LetV.mk (t := 29) _ hld ?_ | refine LetV.mk (.sc (.int _ _)) rfl ?_ | refine LetV.mk (.agg _) rfl ?_) | (refine LetI.pre ?_; first | refine LetI.mk _ rfl ?_) | (refine LetB.pre ?_; first | refine LetB.dect (by omega) ?_ | refine LetB.decf (by omega) ?_) | (refine Gd.pre ?_; first | refine Gd.run rfl ?_) | (refine Br.pre ?_; first | refine Br.tt rfl ?_ | refine Br.ff rfl ?_) | (refine Ck.pre ?_; first | refine Ck.mk rfl ?_) | (refine LetL.pre ?_; first | refine LetL.mk [_] rfl ?_)))); (try (conv => whnf)))
      exact ⟨.inl rfl, ⟨_, rfl, rfl⟩, trivial⟩
  case neg =>
    rw [if_neg (by simpa using hp)] at g2
    have next := ih (k + 1) ⟨by omega, g2⟩ (by omega)
    clear ih hR
    generalize b.getD k e0 = x at hld hp
    by_cases p1 : x.id = e.ref
    case neg =>
      ((repeat ((conv => whnf); (first | (refine LetN.pre ?_; first | ((conv => arg 1; whnf); refine LetN.mk ?_)) | (refine As.pre ?_; first | refine As.mk rfl ?_ | (refine As.mk ?_ ?_; · ((repeat' (refine andT ?_ ?_)) <;> (first | rfl | assumption | exact decide_eq_true (by omega) | exact decide_eq_true (by dsimp only; omega) | exact decide_eq_true (by simp; omega) | (simp; done))))) | (refine LetV.pre ?_; first | refine LetV.mk (t := 29) _ hld ?_ | refine LetV.mk (.sc (.int _ _)) rfl ?_ | refine LetV.mk (.agg _) rfl ?_) | (refine LetI.pre ?_; first | refine LetI.wrap (by omega) (by omega) ?_ | refine LetI.mk _ rfl ?_) | (refine LetB.pre ?_; first | refine LetB.dect (by omega) ?_ | refine LetB.decf (by omega) ?_) | (refine Gd.pre ?_; first | refine Gd.pass rfl ?_) | (refine Br.pre ?_; first | refine Br.tt rfl ?_ | refine Br.ff rfl ?_) | (refine Ck.pre ?_; first | refine Ck.mk rfl ?_) | (refine LetL.pre ?_; first | refine LetL.mk [_] rfl ?_)))); (try (conv => whnf)))
      refine LoopN.weak ?sw4 next
      case sw4 => exact SW.mk id rfl rfl rfl ⟨.refl _, .refl _, .refl _, VLe2.int (by omega), trivial⟩ (haveV.row rfl rfl trivial)
    by_cases p2 : x.kind = kd
    case neg =>
      ((repeat ((conv => whnf); (first | (refine LetN.pre ?_; first | ((conv => arg 1; whnf); refine LetN.mk ?_)) | (refine As.pre ?_; first | refine As.mk rfl ?_ | (refine As.mk ?_ ?_; · ((repeat' (refine andT ?_ ?_)) <;> (first | rfl | assumption | exact decide_eq_true (by omega) | exact decide_eq_true (by dsimp only; omega) | exact decide_eq_true (by simp; omega) | (simp; done))))) | (refine LetV.pre ?_; first | refine LetV.mk (t := 29) _ hld ?_ | refine LetV.mk (.sc (.int _ _)) rfl ?_ | refine LetV.mk (.agg _) rfl ?_) | (refine LetI.pre ?_; first | refine LetI.wrap (by omega) (by omega) ?_ | refine LetI.mk _ rfl ?_) | (refine LetB.pre ?_; first | refine LetB.dect (by omega) ?_ | refine LetB.decf (by omega) ?_) | (refine Gd.pre ?_; first | refine Gd.run rfl ?_ | refine Gd.pass rfl ?_) | (refine Br.pre ?_; first | refine Br.tt rfl ?_ | refine Br.ff rfl ?_) | (refine Ck.pre ?_; first | refine Ck.mk rfl ?_) | (refine LetL.pre ?_; first | refine LetL.mk [_] rfl ?_)))); (try (conv => whnf)))
      refine LoopN.weak ?sw5 next
      case sw5 => exact SW.mk id rfl rfl rfl ⟨.refl _, .refl _, .refl _, VLe2.int (by omega), trivial⟩ (haveV.row rfl rfl trivial)
    have p3 : x.student ≠ e.student := fun h => hp ⟨p1, p2, h⟩
    ((repeat ((conv => whnf); (first | (refine LetN.pre ?_; first | ((conv => arg 1; whnf); refine LetN.mk ?_)) | (refine As.pre ?_; first | refine As.mk rfl ?_ | (refine As.mk ?_ ?_; · ((repeat' (refine andT ?_ ?_)) <;> (first | rfl | assumption | exact decide_eq_true (by omega) | exact decide_eq_true (by dsimp only; omega) | exact decide_eq_true (by simp; omega) | (simp; done))))) | (refine LetV.pre ?_; first | refine LetV.mk (t := 29) _ hld ?_ | refine LetV.mk (.sc (.int _ _)) rfl ?_ | refine LetV.mk (.agg _) rfl ?_) | (refine LetI.pre ?_; first | refine LetI.wrap (by omega) (by omega) ?_ | refine LetI.mk _ rfl ?_) | (refine LetB.pre ?_; first | refine LetB.dect (by omega) ?_ | refine LetB.decf (by omega) ?_) | (refine Gd.pre ?_; first | refine Gd.run rfl ?_) | (refine Br.pre ?_; first | refine Br.tt rfl ?_ | refine Br.ff rfl ?_) | (refine Ck.pre ?_; first | refine Ck.mk rfl ?_) | (refine LetL.pre ?_; first | refine LetL.mk [_] rfl ?_)))); (try (conv => whnf)))
    refine LoopN.weak ?sw6 next
    case sw6 => exact SW.mk id rfl rfl rfl ⟨.refl _, .refl _, .refl _, VLe2.int (by omega), trivial⟩ (haveV.row rfl rfl trivial)
/-- What Check says of entries. -/
noncomputable def chkL : List E → List E → Int
  | _, [] => 0
  | b, e :: r => if oneE b e = 0 then chkL (b ++ [e]) r else oneE b e
noncomputable def chkE (l : List E) : Int := if 2000 < l.length then 2 else chkL [] l
theorem chkL_step {l : List E} {k : Nat} (h : k < l.length) : chkL (l.take k) (l.drop k) = if oneE (l.take k) (l.getD k e0) = 0 then chkL (l.take (k + 1)) (l.drop (k + 1)) else oneE (l.take k) (l.getD k e0) := by
  rw [List.drop_eq_getElem_cons h, chkL, List.take_succ_eq_append_getElem h, List.getD_eq_getElem?_getD, List.getElem?_eq_getElem h]; rfl
theorem take_en2 (l : List E) (k : Nat) : ((l.map en).drop (0 : Int).toNat).take ((k : Int).toNat - (0 : Int).toNat) = (l.take k).map en := by
  simp [List.map_take]
theorem Check_l (l : List E) (fl : Fl) : AFun Try.prog 13 0 [.ro fl 15 (l.map en)] [] (int (chkE l)) [] := by
  refine AFun.of_W T_ok mixed Try.func13 rfl (Nat.le_of_ble_eq_true rfl) rfl ?_
  have hm : (l.map en).length = l.length := List.length_map _
  unfold chkE
  by_cases hlen : 2000 < l.length
  · rw [if_pos hlen]
    ((repeat ((conv => whnf); (first | (refine As.pre ?_; first | refine As.mk rfl ?_) | (refine LetI.pre ?_; first | refine LetI.mk _ rfl ?_) | (refine LetB.pre ?_; first | refine LetB.dect (by omega) ?_) | (refine Br.pre ?_; first | refine Br.tt rfl ?_) | (refine Ck.pre ?_; first | refine Ck.mk rfl ?_)))); (try (conv => whnf)))
    exact ⟨.inl rfl, ⟨_, rfl, rfl⟩, trivial⟩
  rw [if_neg hlen]
  generalize hX : chkL [] l = X
  ((repeat ((conv => whnf); (first | (refine As.pre ?_; first | refine As.mk rfl ?_) | (refine LetI.pre ?_; first | refine LetI.mk _ rfl ?_) | (refine LetB.pre ?_; first | refine LetB.decf (by omega) ?_) | (refine Br.pre ?_; first | refine Br.ff rfl ?_) | (refine Ck.pre ?_; first | refine Ck.mk rfl ?_)))); (try (conv => whnf)))
  refine LoopN.weak (s1 := ⟨[(0, .ro fl 15 (l.map en)), (9, .ro fl 15 (l.map en)), (10, int l.length), (11, int (0 : Nat))], [], 0⟩) (SW.fr0 (Nat.le_refl _) rfl ⟨.refl _, .refl _, VLe2.int (by rw [hm]), .refl _, trivial⟩) ?_
  refine LoopN.ind T_ok mixed (S := fun k : Nat => ⟨[(0, .ro fl 15 (l.map en)), (9, .ro fl 15 (l.map en)), (10, int l.length), (11, int k)], [], 0⟩) (fun k => l.length - k) (fun k => k ≤ l.length ∧ X = chkL (l.take k) (l.drop k)) (fun _ => rfl) (fun k hk ih => ?_) 0 ⟨Nat.zero_le _, hX.symm⟩
  obtain ⟨h1, h2⟩ := hk
  by_cases hlt : k < l.length
  case neg =>
    rw [List.drop_eq_nil_of_le (by omega)] at h2
    rw [h2]
    clear ih
    ((repeat ((conv => whnf); (first | (refine As.pre ?_; first | refine As.mk rfl ?_) | (refine LetB.pre ?_; first | refine LetB.decf (by omega) ?_) | (refine Br.pre ?_; first | refine Br.ff rfl ?_) | (refine Ck.pre ?_; first | refine Ck.mk rfl ?_)))); (try (conv => whnf)))
    exact ⟨.inl rfl, ⟨_, rfl, rfl⟩, trivial⟩
  have hld : en (l.getD k e0) = (l.map en).getD k (.sc undef) := mapD e0 hlt
  rw [chkL_step hlt] at h2
  have hck := fun fl' => check_f (l.take k) (l.getD k e0) fl' (by simp; omega)
  have next : X = chkL (l.take (k + 1)) (l.drop (k + 1)) → LoopN Try.prog 0 Try.f13.ntmps _ ⟨[(0, .ro fl 15 (l.map en)), (9, .ro fl 15 (l.map en)), (10, int l.length), (11, int (k + 1 : Nat))], [], 0⟩ _ := fun h => ih (k + 1) ⟨by omega, h⟩ (by omega)
  clear ih
  have htk : (l.take k).map en = ((l.map en).drop (0 : Int).toNat).take ((k : Int).toNat - (0 : Int).toNat) := (take_en2 l k).symm
  generalize oneE (l.take k) (l.getD k e0) = z at hck h2
  generalize l.getD k e0 = e at hld hck
  by_cases hz : z = 0
  · rw [if_pos hz] at h2
    ((repeat ((conv => whnf); (first | (refine LetN.pre ?_; first | ((conv => arg 1; whnf); refine LetN.mk ?_)) | (refine As.pre ?_; first | refine As.mk rfl ?_ | (refine As.mk ?_ ?_; · ((repeat' (refine andT ?_ ?_)) <;> (first | rfl | assumption | exact decide_eq_true (by omega) | exact decide_eq_true (by dsimp only; omega) | exact decide_eq_true (by simp; omega) | (simp; done))))) | (refine LetV.pre ?_; first | refine LetV.mk (t := 29) _ hld ?_ | refine LetV.mk (t := 29) (.ro _ 15 ((l.take k).map en)) (congrArg (AV.ro _ 15) htk) ?_ | refine LetV.mk (.agg _) rfl ?_) | (refine LetI.pre ?_; first | refine LetI.wrap (by omega) (by omega) ?_) | (refine LetB.pre ?_; first | refine LetB.dect (by omega) ?_ | refine LetB.bnef (by omega) ?_) | (refine Br.pre ?_; first | refine Br.tt rfl ?_ | refine Br.ff rfl ?_) | (refine Ck.pre ?_; first | refine Ck.drawn (by kernel_rfl) ?_ | refine Ck.mk rfl ?_) | (refine LetL.pre ?_; first | refine LetL.mk [_] rfl ?_) | (refine CallN.pre ?_; first | refine CallN.pure (hck _) rfl rfl ?_)))); (try (conv => whnf)))



    refine LoopN.weak ?_ (next h2)
    exact SW.mk id rfl rfl rfl ⟨.refl _, .refl _, .refl _, VLe2.int (by omega), trivial⟩ trivial
  · rw [if_neg hz] at h2
    rw [h2]
    ((repeat ((conv => whnf); (first | (refine LetN.pre ?_; first | ((conv => arg 1; whnf); refine LetN.mk ?_)) | (refine As.pre ?_; first | refine As.mk rfl ?_ | (refine As.mk ?_ ?_; · ((repeat' (refine andT ?_ ?_)) <;> (first | rfl | assumption | exact decide_eq_true (by omega) | exact decide_eq_true (by dsimp only; omega) | exact decide_eq_true (by simp; omega) | (simp; done))))) | (refine LetV.pre ?_; first | refine LetV.mk (t := 29) _ hld ?_ | refine LetV.mk (t := 29) (.ro _ 15 ((l.take k).map en)) (congrArg (AV.ro _ 15) htk) ?_ | refine LetV.mk (.agg _) rfl ?_) | (refine LetB.pre ?_; first | refine LetB.dect (by omega) ?_ | refine LetB.bnet (by omega) ?_) | (refine Br.pre ?_; first | refine Br.tt rfl ?_) | (refine Ck.pre ?_; first | refine Ck.drawn (by kernel_rfl) ?_ | refine Ck.mk rfl ?_) | (refine LetL.pre ?_; first | refine LetL.mk [_] rfl ?_) | (refine CallN.pre ?_; first | refine CallN.pure (hck _) rfl rfl ?_)))); (try (conv => whnf)))



    exact ⟨.inl rfl, ⟨_, rfl, rfl⟩, trivial⟩
theorem rCheck_l (l : List E) (fl : Fl) (hs : ∀ e ∈ l, e.course.size ≤ 9223372036854775806) : AFun Try.prog 19 0 [.ro fl 15 (l.map en)] [] (int (chkE l)) [] := by
  refine AFun.of_W T_ok mixed Try.func19 rfl (Nat.le_of_ble_eq_true rfl) rfl ?_
  have hm : (l.map en).length = l.length := List.length_map _
  unfold chkE
  by_cases hlen : 2000 < l.length
  · rw [if_pos hlen]
    ((repeat ((conv => whnf); (first | (refine As.pre ?_; first | refine As.mk rfl ?_) | (refine LetI.pre ?_; first | refine LetI.mk _ rfl ?_) | (refine LetB.pre ?_; first | refine LetB.dect (by omega) ?_) | (refine Br.pre ?_; first | refine Br.tt rfl ?_) | (refine Ck.pre ?_; first | refine Ck.mk rfl ?_)))); (try (conv => whnf)))
    exact ⟨.inl rfl, ⟨_, rfl, rfl⟩, trivial⟩
  rw [if_neg hlen]
  generalize hX : chkL [] l = X
  ((repeat ((conv => whnf); (first | (refine As.pre ?_; first | refine As.mk rfl ?_) | (refine LetI.pre ?_; first | refine LetI.mk _ rfl ?_) | (refine LetB.pre ?_; first | refine LetB.decf (by omega) ?_) | (refine Br.pre ?_; first | refine Br.ff rfl ?_) | (refine Ck.pre ?_; first | refine Ck.mk rfl ?_)))); (try (conv => whnf)))
  refine LoopN.weak (s1 := ⟨[(0, .ro fl 15 (l.map en)), (3, int (0 : Nat))], [], 0⟩) (SW.fr0 (Nat.le_refl _) rfl ⟨.refl _, .refl _, trivial⟩) ?_
  refine LoopN.ind T_ok mixed (S := fun k : Nat => ⟨[(0, .ro fl 15 (l.map en)), (3, int k)], [], 0⟩) (fun k => l.length - k) (fun k => k ≤ l.length ∧ X = chkL (l.take k) (l.drop k)) (fun _ => rfl) (fun k hk ih => ?_) 0 ⟨Nat.zero_le _, hX.symm⟩
  obtain ⟨h1, h2⟩ := hk
  by_cases hlt : k < l.length
  case neg =>
    rw [List.drop_eq_nil_of_le (by omega)] at h2
    rw [h2]
    clear ih
    ((repeat ((conv => whnf); (first | (refine As.pre ?_; first | refine As.mk rfl ?_) | (refine LetI.pre ?_; first | refine LetI.mk _ rfl ?_) | (refine LetB.pre ?_; first | refine LetB.decf (by omega) ?_) | (refine Br.pre ?_; first | refine Br.ff rfl ?_) | (refine Ck.pre ?_; first | refine Ck.mk rfl ?_)))); (try (conv => whnf)))
    exact ⟨.inl rfl, ⟨_, rfl, rfl⟩, trivial⟩
  have hld : en (l.getD k e0) = (l.map en).getD k (.sc undef) := mapD e0 hlt
  rw [chkL_step hlt] at h2
  have hin : l.getD k e0 ∈ l := by
    rw [List.getD_eq_getElem?_getD, List.getElem?_eq_getElem hlt]
    exact List.getElem_mem _
  have hck := fun fl' => one_f (l.take k) (l.getD k e0) fl' (by simp; omega) (hs _ hin)
  have next : X = chkL (l.take (k + 1)) (l.drop (k + 1)) → LoopN Try.prog 0 Try.f19.ntmps _ ⟨[(0, .ro fl 15 (l.map en)), (3, int (k + 1 : Nat))], [], 0⟩ _ := fun h => ih (k + 1) ⟨by omega, h⟩ (by omega)
  clear ih hin
  have htk : (l.take k).map en = ((l.map en).drop (0 : Int).toNat).take ((k : Int).toNat - (0 : Int).toNat) := (take_en2 l k).symm
  generalize oneE (l.take k) (l.getD k e0) = z at hck h2
  generalize l.getD k e0 = e at hld hck
  by_cases hz : z = 0
  · rw [if_pos hz] at h2
    ((repeat ((conv => whnf); (first | (refine As.pre ?_; first | refine As.mk rfl ?_ | (refine As.mk ?_ ?_; · ((repeat' (refine andT ?_ ?_)) <;> (first | rfl | assumption | exact decide_eq_true (by omega) | exact decide_eq_true (by dsimp only; omega) | exact decide_eq_true (by simp; omega) | (simp; done))))) | (refine LetV.pre ?_; first | refine LetV.mk (t := 29) _ hld ?_ | refine LetV.mk (t := 29) (.ro _ 15 ((l.take k).map en)) (congrArg (AV.ro _ 15) htk) ?_ | refine LetV.mk (.agg _) rfl ?_) | (refine LetI.pre ?_; first | refine LetI.wrap (by omega) (by omega) ?_ | refine LetI.mk _ rfl ?_) | (refine LetB.pre ?_; first | refine LetB.dect (by omega) ?_ | refine LetB.bnef (by omega) ?_) | (refine Br.pre ?_; first | refine Br.tt rfl ?_ | refine Br.ff rfl ?_) | (refine Ck.pre ?_; first | refine Ck.drawn (by kernel_rfl) ?_ | refine Ck.mk rfl ?_) | (refine CallN.pre ?_; first | refine CallN.pure (hck _) rfl rfl ?_)))); (try (conv => whnf)))



    refine LoopN.weak ?_ (next h2)
    exact SW.mk id rfl rfl rfl ⟨.refl _, VLe2.int (by omega), trivial⟩ trivial
  · rw [if_neg hz] at h2
    rw [h2]
    ((repeat ((conv => whnf); (first | (refine As.pre ?_; first | refine As.mk rfl ?_ | (refine As.mk ?_ ?_; · ((repeat' (refine andT ?_ ?_)) <;> (first | rfl | assumption | exact decide_eq_true (by omega) | exact decide_eq_true (by dsimp only; omega) | exact decide_eq_true (by simp; omega) | (simp; done))))) | (refine LetV.pre ?_; first | refine LetV.mk (t := 29) _ hld ?_ | refine LetV.mk (t := 29) (.ro _ 15 ((l.take k).map en)) (congrArg (AV.ro _ 15) htk) ?_ | refine LetV.mk (.agg _) rfl ?_) | (refine LetI.pre ?_; first | refine LetI.mk _ rfl ?_) | (refine LetB.pre ?_; first | refine LetB.dect (by omega) ?_ | refine LetB.bnet (by omega) ?_) | (refine Br.pre ?_; first | refine Br.tt rfl ?_) | (refine Ck.pre ?_; first | refine Ck.drawn (by kernel_rfl) ?_ | refine Ck.mk rfl ?_) | (refine CallN.pre ?_; first | refine CallN.pure (hck _) rfl rfl ?_)))); (try (conv => whnf)))



    exact ⟨.inl rfl, ⟨_, rfl, rfl⟩, trivial⟩
end En
end Go.Proofs.Ytjnohedknlibmaa
namespace Go.Proofs.Ytjnohedknlibmaa
open Go.Proofs.Ytjnohedknlibmaa.Am
namespace En
/-! ### Numbers that are drawn -/
abbrev dty : TypeId := 81
abbrev drawB (fl : Fl) (xs : List Int) (at_ : Nat) : Blk := .row 2 dty [.agg [.ro fl 1 (xs.map int), int at_]]
def dv (xs : List Int) (at_ : Nat) (most : Int) : Int := if at_ < xs.length then ((xs.getD at_ 0).tmod most + most).tmod most else 0
def da (xs : List Int) (at_ : Nat) : Nat := if at_ < xs.length then at_ + 1 else at_
theorem dv_range (xs : List Int) (at_ : Nat) {most : Int} (h : 0 < most) : 0 ≤ dv xs at_ most ∧ dv xs at_ most < most := by
  unfold dv
  split
  · have h1 := tmod_bound (xs.getD at_ 0) h
    rw [Int.tmod_eq_emod_of_nonneg (by omega)]
    exact ⟨Int.emod_nonneg _ (by omega), Int.emod_lt_of_pos _ h⟩
  · omega
theorem da_le {xs : List Int} {at_ : Nat} (h : at_ ≤ xs.length) : da xs at_ ≤ xs.length := by
  unfold da; split <;> omega
theorem Next_f (fl : Fl) (xs : List Int) (at_ : Nat) (most : Int) (hl : xs.length ≤ 9223372036854775807) (ha : at_ ≤ xs.length) (hm : 0 < most ∧ most ≤ 1000000) :
    AFun Try.prog 47 1 [.ptr 0 2 0 0, int most] [(0, drawB fl xs at_)] (int (dv xs at_ most)) [(0, drawB fl xs (da xs at_))] := by
  refine AFun.of_W T_ok mixed Try.func47 rfl (Nat.le_of_ble_eq_true rfl) rfl ?_
  have hml : (xs.map int).length = xs.length := List.length_map _
  have hnz : (most != 0) = true := by simp; omega
  unfold dv da
  by_cases hlt : at_ < xs.length
  · rw [if_pos hlt, if_pos hlt]
    have hld : int (xs.getD at_ 0) = (xs.map int).getD at_ (.sc undef) := mapD 0 hlt
    generalize xs.getD at_ 0 = x at hld ⊢
    have hb := tmod_bound x hm.1
    ((repeat ((conv => whnf); (first | (refine LetN.pre ?_; first | ((conv => arg 1; whnf); refine LetN.mk ?_)) | (refine As.pre ?_; first | refine As.mk rfl ?_ | refine As.mk hnz ?_ | (refine As.mk ?_ ?_; · ((repeat' (refine andT ?_ ?_)) <;> (first | rfl | assumption | exact decide_eq_true (by omega) | exact decide_eq_true (by dsimp only; omega) | exact decide_eq_true (by simp; omega) | (simp; done))))) | (refine LetV.pre ?_; first | refine LetV.mk (t := 79) _ hld ?_ | refine LetV.mk (.sc (.int _ _)) rfl ?_ | refine LetV.mk (.ro _ _ _) rfl ?_) | (refine LetI.pre ?_; first | refine LetI.wrap (by omega) (by omega) ?_ | refine LetI.mk _ rfl ?_) | (refine LetB.pre ?_; first | refine LetB.decf (by omega) ?_) | (refine Br.pre ?_; first | refine Br.ff rfl ?_) | (refine Ck.pre ?_; first | refine Ck.drawn (by kernel_rfl) ?_ | refine Ck.mk rfl ?_) | (refine LetL.pre ?_; first | refine LetL.mk [_] rfl ?_)))); (try (conv => whnf)))


    exact ⟨.inl rfl, ⟨_, rfl, rfl⟩, rfl, trivial⟩
  · rw [if_neg hlt, if_neg hlt]
    ((repeat ((conv => whnf); (first | (refine As.pre ?_; first | refine As.mk rfl ?_) | (refine LetV.pre ?_; first | refine LetV.mk (.sc (.int _ _)) rfl ?_ | refine LetV.mk (.ro _ _ _) rfl ?_) | (refine LetI.pre ?_; first | refine LetI.mk _ rfl ?_) | (refine LetB.pre ?_; first | refine LetB.dect (by omega) ?_) | (refine Br.pre ?_; first | refine Br.tt rfl ?_) | (refine Ck.pre ?_; first | refine Ck.drawn (by kernel_rfl) ?_ | refine Ck.mk rfl ?_)))); (try (conv => whnf)))
    exact ⟨.inl rfl, ⟨_, rfl, rfl⟩, rfl, trivial⟩
def codesL : List ByteArray := [⟨#[65, 49]⟩, ⟨#[66, 49]⟩, ⟨#[66, 50]⟩, ⟨#[67, 49]⟩, ⟨#[68, 49]⟩, ⟨#[69, 57]⟩]
theorem Codes_f : AFun Try.prog 48 0 [] [] (.ro ⟨true, true⟩ 1 (codesL.map str)) [] := AFun.of_ev T_ok mixed 20 (by kernel_rfl)
/-! ### One of the entries of a kind -/
def kindL (l : List E) (kd : Int) : List E := l.filter fun e => decide (e.kind = kd)
def pickP (l : List E) (kd n : Int) : E × Bool := if (kindL l kd).isEmpty then (e0, false) else ((kindL l kd).getD (n.tmod (kindL l kd).length).toNat e0, true)
abbrev picS (l : List E) (fl : Fl) (kd n : Int) : Nat × List E → AS
  | (k, out) => ⟨[(0, .ro fl 15 (l.map en)), (1, int kd), (2, int n), (6, .ptr 0 15 0 0), (8, .slm {} 1 15 0 out.length), (9, int k)], [(0, .row 15 ety [en e0]), (1, .row 15 ety (out.map en))], 2⟩
set_option maxRecDepth 100000 in
theorem pick_f (l : List E) (kd n : Int) (fl : Fl) (hl : l.length ≤ 100000) (hn : 0 ≤ n) : AFun Try.prog 49 0 [.ro fl 15 (l.map en), int kd, int n] [] (.tup [en (pickP l kd n).1, bool (pickP l kd n).2]) [] := by
  refine AFun.of_W T_ok mixed Try.func49 rfl (Nat.le_of_ble_eq_true rfl) rfl ?_
  ((repeat ((conv => whnf); (first | (refine LetN.pre ?_; first | ((conv => arg 1; whnf); refine LetN.mk ?_)) | (refine As.pre ?_; first | refine As.mk rfl ?_) | (refine Ck.pre ?_; first | refine Ck.mk rfl ?_)))); (try (conv => whnf)))
  refine LoopN.weak (s1 := picS l fl kd n (0, [])) ?sw1 ?_
  case sw1 => exact SW.mk id rfl rfl rfl ⟨.refl _, .refl _, .refl _, .refl _, VLe2.nilslm, .refl _, trivial⟩ (haveV.row rfl rfl (haveV.nil (Nat.le_refl _) trivial))
  refine LoopN.ind T_ok mixed (S := picS l fl kd n) (fun i => l.length - i.1) (fun i => i.1 ≤ l.length ∧ i.2 = (l.take i.1).filter fun e => decide (e.kind = kd)) (fun _ => rfl) (fun i hi ih => ?_) (0, []) ⟨Nat.zero_le _, rfl⟩
  obtain ⟨k, out⟩ := i
  obtain ⟨h1, h2⟩ := hi
  simp only at h1 h2 ih
  have hcl : (l.map en).length = l.length := List.length_map _
  by_cases hlt : k < l.length
  case neg =>
    have hk : k = l.length := by omega
    subst hk
    rw [List.take_length] at h2
    have h3 : kindL l kd = out := h2.symm
    unfold pickP
    rw [h3]
    clear ih h3 h2
    cases out with
    | nil =>
      ((repeat ((conv => whnf); (first | (refine LetN.pre ?_; first | ((conv => arg 1; whnf); refine LetN.mk ?_)) | (refine As.pre ?_; first | refine As.mk rfl ?_) | (refine LetI.pre ?_; first | refine LetI.mk _ rfl ?_) | (refine LetB.pre ?_; first | refine LetB.tt rfl ?_ | refine LetB.decf (by omega) ?_) | (refine Br.pre ?_; first | refine Br.tt rfl ?_ | refine Br.ff rfl ?_) | (refine Ck.pre ?_; first | refine Ck.mk rfl ?_) | (refine LetL.pre ?_; first | refine LetL.mk [_] rfl ?_)))); (try (conv => whnf)))
      exact ⟨.inl rfl, ⟨_, rfl, rfl⟩, trivial⟩
    | cons a A =>
      have hnz : (((a :: A).length : Int) != 0) = true := by simp; omega
      have hez : (((a :: A).length : Int) == 0) = false := by simp; omega
      have hml : ((a :: A).map en).length = (a :: A).length := List.length_map _
      have hr : 0 ≤ n.tmod ((a :: A).length : Int) ∧ n.tmod ((a :: A).length : Int) < ((a :: A).length : Int) := ⟨Int.tmod_nonneg _ hn, Int.tmod_lt_of_pos _ (by first | (simp; done) | (simp; omega))⟩
      simp only [List.isEmpty_cons, Bool.false_eq_true, if_false]
      have hld : en ((a :: A).getD (n.tmod ((a :: A).length : Int)).toNat e0) = Am.part true 15 0 15 (((a :: A).map en).getD (0 + (n.tmod ((a :: A).length : Int)).toNat) (.sc undef)) := getD_en (by omega)
      generalize (a :: A).getD (n.tmod ((a :: A).length : Int)).toNat e0 = x at hld ⊢
      generalize hr2 : n.tmod ((a :: A).length : Int) = r at hld hr
      have hrr : r = n.tmod ((a :: A).length : Int) := hr2.symm
      clear hr2
      generalize a :: A = out at *
      ((repeat ((conv => whnf); (first | (refine LetN.pre ?_; first | ((conv => arg 1; whnf); refine LetN.mk ?_)) | (refine As.pre ?_; first | refine As.mk rfl ?_ | refine As.mk hnz ?_ | (refine As.mk ?_ ?_; · ((repeat' (refine andT ?_ ?_)) <;> (first | rfl | assumption | exact decide_eq_true (by omega) | exact decide_eq_true (by dsimp only; omega) | exact decide_eq_true (by simp; omega) | (simp; done))))) | (refine LetV.pre ?_; first | refine LetV.mk (t := ety) _ hld ?_) | (refine LetI.pre ?_; first | refine LetI.mk (o := some .rem) r hrr ?_ | refine LetI.mk _ rfl ?_) | (refine LetB.pre ?_; first | refine LetB.ff (by assumption) ?_ | refine LetB.decf (by omega) ?_) | (refine Br.pre ?_; first | refine Br.ff rfl ?_) | (refine Ck.pre ?_; first | refine Ck.mk rfl ?_) | (refine LetL.pre ?_; first | refine LetL.mk [_] rfl ?_)))); (try (conv => whnf)))




      exact ⟨.inl rfl, ⟨_, rfl, rfl⟩, trivial⟩
  have hld : en (l.getD k e0) = (l.map en).getD k (.sc undef) := mapD e0 hlt
  have hq := filt_succ (q := fun e : E => decide (e.kind = kd)) hlt e0
  rw [← h2] at hq
  have hol : out.length ≤ 100000 := by
    rw [h2]
    have := List.length_filter_le (fun e : E => decide (e.kind = kd)) (l.take k)
    simp only [List.length_take] at this
    omega
  clear h2
  generalize l.getD k e0 = e at hld hq
  have hr := room_en (n := out.length + 1) (by omega)
  have hol2 : (out.map en).length = out.length := List.length_map _
  by_cases hp : e.kind = kd
  · simp only [hp, decide_true, if_true] at hq
    ((repeat ((conv => whnf); (first | (refine LetN.pre ?_; first | ((conv => arg 1; whnf); refine LetN.mk ?_)) | (refine As.pre ?_; first | refine As.mk rfl ?_ | (refine As.mk ?_ ?_; · ((repeat' (refine andT ?_ ?_)) <;> (first | rfl | assumption | exact decide_eq_true (by omega) | exact decide_eq_true (by dsimp only; omega) | exact decide_eq_true (by simp; omega) | (simp; done))))) | (refine LetV.pre ?_; first | refine LetV.mk (t := 29) _ hld ?_ | refine LetV.mk (.sc (.int _ _)) rfl ?_ | refine LetV.mk (.agg _) rfl ?_) | (refine LetI.pre ?_; first | refine LetI.wrap (by omega) (by omega) ?_ | refine LetI.mk _ rfl ?_) | (refine LetB.pre ?_; first | refine LetB.dect (by omega) ?_) | (refine Br.pre ?_; first | refine Br.tt rfl ?_) | (refine Ck.pre ?_; first | refine Ck.mk rfl ?_) | (refine LetL.pre ?_; first | refine LetL.mk (ty := ety) _ (app_en out e _ rfl) ?_)))); (try (conv => whnf)))


    refine LoopN.weak ?sw2 (ih (k + 1, out ++ [e]) ⟨by omega, hq.symm⟩ (by omega))
    case sw2 => exact SW.mk (fun i => if i = 1 then 2 else i) rfl rfl (namesAll.row rfl (namesAll.row (pure_en _) rfl)) ⟨.refl _, .refl _, .refl _, .refl _, VLe2.slm_of (by simp), VLe2.int (by omega), trivial⟩ (haveV.row rfl rfl (haveV.row (pure_en _) rfl trivial))
  · simp only [hp, decide_false, Bool.false_eq_true, if_false, List.append_nil] at hq
    ((repeat ((conv => whnf); (first | (refine As.pre ?_; first | refine As.mk rfl ?_ | (refine As.mk ?_ ?_; · ((repeat' (refine andT ?_ ?_)) <;> (first | rfl | assumption | exact decide_eq_true (by omega) | exact decide_eq_true (by dsimp only; omega) | exact decide_eq_true (by simp; omega) | (simp; done))))) | (refine LetV.pre ?_; first | refine LetV.mk (t := 29) _ hld ?_ | refine LetV.mk (.sc (.int _ _)) rfl ?_) | (refine LetI.pre ?_; first | refine LetI.wrap (by omega) (by omega) ?_ | refine LetI.mk _ rfl ?_) | (refine LetB.pre ?_; first | refine LetB.dect (by omega) ?_ | refine LetB.decf (by omega) ?_) | (refine Br.pre ?_; first | refine Br.tt rfl ?_ | refine Br.ff rfl ?_) | (refine Ck.pre ?_; first | refine Ck.mk rfl ?_)))); (try (conv => whnf)))
    refine LoopN.weak ?sw3 (ih (k + 1, out) ⟨by omega, hq.symm⟩ (by omega))
    case sw3 => exact SW.mk id rfl rfl (namesAll.row rfl (namesAll.row (pure_en _) rfl)) ⟨.refl _, .refl _, .refl _, .refl _, .refl _, VLe2.int (by omega), trivial⟩ (haveV.row rfl rfl (haveV.row (pure_en _) rfl trivial))
end En
end Go.Proofs.Ytjnohedknlibmaa
