/- The owned machine, part N: the theorem on regions that draw their order. -/
import Derived.Test.YtjnmbmdplchfkaaAmM
set_option linter.all false
namespace Go.Proofs.Ytjnmbmdplchfkaa.Am
variable [Lo]
set_option linter.unusedVariables false

/-- k comes before j. -/
inductive Bef (ops : Array Oper) : Nat → Nat → Prop
  | one {j : Nat} {o : Oper} {e : Edge} : ops[j]? = some o → e ∈ o.after → Region.binds .any e = true → Bef ops j e.on
  | more {j m k : Nat} : Bef ops j m → Bef ops m k → Bef ops j k
def Ordd (ops : Array Oper) (j k : Nat) : Prop := Bef ops j k ∨ Bef ops k j
structure Indep (ops : Array Oper) (rs : List Rec) : Prop where
  back : ∀ (j : Nat) (o : Oper) (e : Edge), ops[j]? = some o → e ∈ o.after → Region.binds .any e = true → e.on < j
  tmps : ∀ (j k : Nat) (oj ok : Oper) (t : Tmp), ops[j]? = some oj → ops[k]? = some ok → j ≠ k → ok.dst = some t → (t ∈ oj.looksAt ops ∨ oj.dst = some t) → Ordd ops j k
  blks : ∀ (j k : Nat) (cj ck : Rec) (id : Nat), rs[j]? = some cj → rs[k]? = some ck → j ≠ k → id ∈ ck.del.map Prod.fst → (id ∈ cj.rd ∨ id ∈ cj.del.map Prod.fst) → Ordd ops j k

theorem Bef.lt {ops : Array Oper} (hb : ∀ (j : Nat) (o : Oper) (e : Edge), ops[j]? = some o → e ∈ o.after → Region.binds .any e = true → e.on < j) {j k : Nat} (h : Bef ops j k) : k < j := by
  induction h with
  | one h1 h2 h3 => exact hb _ _ _ h1 h2 h3
  | more _ _ h1 h2 => omega

theorem curF_lt (n m : Nat) : ∀ (l : List Oper) (rs : List Rec) (k : Nat) (fr : Fr), n ≤ k → curF (fun i => decide (i < n)) m l rs k fr = fr
  | [], _, _, _, _ => rfl
  | _ :: _, [], _, _, _ => rfl
  | o :: l, c :: rs, k, fr, h => by
    simp only [curF, decide_eq_true_eq]
    rw [if_neg (by omega)]; exact curF_lt n m l rs _ _ (by omega)
theorem curH_lt (n : Nat) : ∀ (rs : List Rec) (k : Nat) (H : AH), n ≤ k → curH (fun i => decide (i < n)) rs k H = H
  | [], _, _, _ => rfl
  | c :: rs, k, H, h => by
    simp only [curH, decide_eq_true_eq]
    rw [if_neg (by omega)]; exact curH_lt n rs _ _ (by omega)
theorem curF_all {n : Nat} : ∀ (l : List Oper) (rs : List Rec) (k : Nat) (fr : Fr), curF (fun _ => true) n l rs k fr = endF n l rs fr
  | [], _, _, _ => by simp [curF, endF]
  | _ :: _, [], _, _ => by simp [curF, endF]
  | o :: l, c :: rs, k, fr => by simp only [curF, endF, if_true]; exact curF_all l rs _ _
theorem curH_all : ∀ (rs : List Rec) (k : Nat) (H : AH), curH (fun _ => true) rs k H = endH rs H
  | [], _, _ => rfl
  | c :: rs, k, H => by simp only [curH, endH, if_true]; exact curH_all rs _ _
theorem endN_le : ∀ (rs : List Rec) (nx : Nat), nx ≤ endN rs nx
  | [], _ => Nat.le_refl _
  | c :: rs, nx => Nat.le_trans (nextId_le _ _) (endN_le rs _)
theorem endN_gt : ∀ (rs : List Rec) (nx : Nat) (k : Nat) (c : Rec), rs[k]? = some c → ∀ p ∈ c.del, p.1 < endN rs nx
  | [], _, k, c, h => by simp at h
  | d :: rs, nx, 0, c, h => by
    simp at h; subst h
    intro p hp
    exact Nat.lt_of_lt_of_le (nextId_gt _ nx p hp) (endN_le rs _)
  | d :: rs, nx, k + 1, c, h => endN_gt rs _ k c (by simpa using h)

theorem Lin.len {P : Program} {n : Nat} {ops : Array Oper} : ∀ {l : List Oper} {rs : List Rec} {fr : Fr} {H : AH} {nx : Nat}, Lin P n ops l rs fr H nx → l.length = rs.length
  | [], [], _, _, _, _ => rfl
  | o :: l, c :: rs, _, _, _, ⟨_, _, h⟩ => by simp [Lin.len h]
  | [], _ :: _, _, _, _, h => h.elim
  | _ :: _, [], _, _, _, h => h.elim
theorem Lin.at_ {P : Program} {n : Nat} {ops : Array Oper} : ∀ {l : List Oper} {rs : List Rec} {k : Nat} {fr : Fr} {H : AH} {nx : Nat}, Lin P n ops l rs fr H nx → ∀ (j : Nat) (o : Oper) (c : Rec), l[j]? = some o → rs[j]? = some c →
    wantedQ ops (curF (fun i => decide (i < k + j)) n l rs k fr) o = some (!c.skip) ∧
      (c.skip = false → OpSemD P o (envF (curF (fun i => decide (i < k + j)) n l rs k fr)) (curH (fun i => decide (i < k + j)) rs k H) c.r ∧ o.op.operands.toList.all constOk = true ∧
        ∀ p ∈ c.r.δ, (curH (fun i => decide (i < k + j)) rs k H).get p.1 = none → nx ≤ p.1 ∧ ∀ (i : Nat) (c' : Rec), i < j → rs[i]? = some c' → ∀ q ∈ c'.del, q.1 < p.1)
  | o' :: l, c' :: rs, k, fr, H, nx, ⟨h1, h2, h3⟩, 0, o, c, ho, hc => by
    simp at ho hc
    subst ho hc
    rw [Nat.add_zero, curF_lt k n _ _ k fr (Nat.le_refl _), curH_lt k _ k H (Nat.le_refl _)]
    exact ⟨h1, fun hs => ⟨(h2 hs).1, (h2 hs).2.1, fun p hp hn => ⟨(h2 hs).2.2 p hp hn, fun i _ hi => absurd hi (by omega)⟩⟩⟩
  | o' :: l, c' :: rs, k, fr, H, nx, ⟨h1, h2, h3⟩, j + 1, o, c, ho, hc => by
    have := Lin.at_ (k := k + 1) h3 j o c (by simpa using ho) (by simpa using hc)
    have e : k + 1 + j = k + (j + 1) := by omega
    rw [e] at this
    have e1 : curF (fun i => decide (i < k + (j + 1))) n (o' :: l) (c' :: rs) k fr = curF (fun i => decide (i < k + (j + 1))) n l rs (k + 1) (setDst n fr o'.dst c'.val) := by
      simp only [curF, decide_eq_true_eq]; rw [if_pos (by omega)]
    have e2 : curH (fun i => decide (i < k + (j + 1))) (c' :: rs) k H = curH (fun i => decide (i < k + (j + 1))) rs (k + 1) (H.upd c'.del) := by
      simp only [curH, decide_eq_true_eq]; rw [if_pos (by omega)]
    rw [e1, e2]
    refine ⟨this.1, fun hs => ⟨(this.2 hs).1, (this.2 hs).2.1, fun p hp hn => ?_⟩⟩
    obtain ⟨h4, h5⟩ := (this.2 hs).2.2 p hp hn
    refine ⟨Nat.le_trans (nextId_le _ _) h4, fun i d hi hd q hq => ?_⟩
    cases i with
    | zero => simp at hd; subst hd; exact Nat.lt_of_lt_of_le (nextId_gt _ nx q hq) h4
    | succ i => exact h5 i d (by omega) (by simpa using hd) q hq
  | [], [], _, _, _, _, _, j, _, _, h, _ => by simp at h
  | [], _ :: _, _, _, _, _, h, _, _, _, _, _ => h.elim
  | _ :: _, [], _, _, _, _, h, _, _, _, _, _ => h.elim

section
variable {P : Program} {n : Nat} {ops : Array Oper} {rs : List Rec} {fr0 : Fr} {H0 : AH} {nx0 : Nat} {Q : Exit → Act → World → Prop} {w0 : World} {g0 : Gh} {ds0 : List Deferred} (r : Option Nat)

theorem lin_wpAny (hL : Lin P n ops ops.toList rs fr0 H0 nx0) (hI : Indep ops rs) (hQ : ∀ a' w' g', Adv w0 g0 H0 w' g' (endH rs H0) → FRel w' g' n (endF n ops.toList rs fr0) a' → Fresh g' (endN rs nx0) → (∀ id, id < nx0 → g'.φ id = g0.φ id) → a'.defers = ds0 → Q .normal a' w') :
    ∀ (fuel : Nat) (listed : Array Bool) (a : Act) (w : World) (g : Gh), listed.size = ops.size → listed.toList.count false = fuel →
      (∀ (k : Nat) (o : Oper) (e : Edge), listed.getD k false = true → ops[k]? = some o → e ∈ o.after → Region.binds .any e = true → listed.getD e.on false = true) →
      FRel w g n (curF (fun k => listed.getD k false) n ops.toList rs 0 fr0) a → Adv w0 g0 H0 w g (curH (fun k => listed.getD k false) rs 0 H0) →
      (∀ id, nx0 ≤ id → (∀ (k : Nat) (c : Rec), listed.getD k false = true → rs[k]? = some c → id ∉ c.del.map Prod.fst) → g.φ id = none) → (∀ id, id < nx0 → g.φ id = g0.φ id) → a.defers = ds0 → wpAnyIn (FR r) 0 P .any ops Q fuel listed a w := by
  intro fuel
  have hlen := hL.len
  -- what is asked at the end
  have fin : ∀ (listed : Array Bool) (a : Act) (w : World) (g : Gh), listed.size = ops.size → (∀ k, k < ops.size → listed.getD k false = true) → FRel w g n (curF (fun k => listed.getD k false) n ops.toList rs 0 fr0) a →
      Adv w0 g0 H0 w g (curH (fun k => listed.getD k false) rs 0 H0) → (∀ id, nx0 ≤ id → (∀ (k : Nat) (c : Rec), listed.getD k false = true → rs[k]? = some c → id ∉ c.del.map Prod.fst) → g.φ id = none) → (∀ id, id < nx0 → g.φ id = g0.φ id) → a.defers = ds0 → Q .normal a w := by
    intro listed a w g hsz hall hF hA hN hφ0 hds
    have lt_of : ∀ {k : Nat} {c : Rec}, rs[k]? = some c → k < ops.size := fun h => by have := (List.getElem?_eq_some_iff.1 h).1; simp at hlen; omega
    refine hQ a w g (hA.congr (fun _ => rfl) fun id => ?_) ?_ (fun id hid => hN id (Nat.le_trans (endN_le rs nx0) hid) fun k c _ hc hm => ?_) hφ0 hds
    · rw [← curH_all rs 0 H0]
      exact curH_congr rs 0 _ _ (fun i c hc _ => by rw [Nat.zero_add, hall i (lt_of hc)]) rfl
    · refine ⟨hF.size, fun t => ?_⟩
      rw [← curF_all ops.toList rs 0 fr0, ← curF_congr (S := fun k => listed.getD k false) ops.toList rs 0 fr0 fr0 (fun i o ho _ => by
          have : i < ops.size := by have := (List.getElem?_eq_some_iff.1 ho).1; simpa using this
          rw [Nat.zero_add, hall i this]) rfl]
      exact hF.at_ t
    · obtain ⟨p, hp, rfl⟩ := List.mem_map.1 hm
      have := endN_gt rs nx0 k c hc p hp
      omega
  have allOf : ∀ (listed : Array Bool), listed.size = ops.size → Region.ready .any ops listed = [] → ∀ k, k < ops.size → listed.getD k false = true := by
    intro listed hsz hr k
    induction k using Nat.strongRecOn with
    | _ k ih =>
      intro hk
      by_cases h : listed.getD k false = true
      · exact h
      · exfalso
        have hk' : k < listed.size := by omega
        have : k ∈ Region.ready .any ops listed := by
          rw [mem_ready]
          refine ⟨by simp [hk'] at h ⊢; exact h, ops[k], by simp [hk], fun e he hb => ?_⟩
          have hlt := hI.back k ops[k] e (by simp [hk]) he hb
          exact ih e.on hlt (by omega)
        rw [hr] at this
        cases this
  induction fuel with
  | zero =>
    intro listed a w g hsz hc hdown hF hA hN hφ0 hds
    have hall : ∀ k, k < ops.size → listed.getD k false = true := by
      intro k hk
      have hk' : k < listed.size := by omega
      have h0 : false ∉ listed.toList := List.count_eq_zero.1 hc
      have : listed[k] ∈ listed.toList := by simp
      simp only [Array.getD_eq_getD_getElem?, Array.getElem?_eq_getElem hk', Option.getD_some]
      cases hb : listed[k] with
      | true => rfl
      | false => rw [hb] at this; exact absurd this h0
    refine ⟨?_, fin listed a w g hsz hall hF hA hN hφ0 hds⟩
    rw [List.eq_nil_iff_forall_not_mem]
    intro j hj
    obtain ⟨h1, o, ho, _⟩ := mem_ready.1 hj
    have hlt := (Array.getElem?_eq_some_iff.1 ho).1
    have := hall j hlt
    have hk' : j < listed.size := by omega
    simp [hk'] at h1 this
    rw [h1] at this; cases this
  | succ fuel ih =>
    intro listed a w g hsz hc hdown hF hA hN hφ0 hds
    refine ⟨fun hr => fin listed a w g hsz (allOf listed hsz hr) hF hA hN hφ0 hds, fun j hj => ?_⟩
    obtain ⟨hj1, o, ho, hedges⟩ := mem_ready.1 hj
    have hlt : j < ops.size := (Array.getElem?_eq_some_iff.1 ho).1
    have hlt' : j < listed.size := by omega
    have hjf : listed.getD j false = false := by simp [hlt'] at hj1 ⊢; exact hj1
    have hjr : j < rs.length := by simp at hlen; omega
    obtain ⟨c, hcj⟩ : ∃ c, rs[j]? = some c := ⟨rs[j], List.getElem?_eq_getElem hjr⟩
    have ho' : ops.toList[j]? = some o := by simpa using ho
    obtain ⟨f1, f2⟩ := hL.at_ (k := 0) j o c ho' hcj
    rw [Nat.zero_add] at f1 f2
    -- who is before j is done, and who is behind it is not
    have bef_done : ∀ {i k : Nat}, Bef ops i k → (listed.getD i false = true ∨ i = j) → listed.getD k false = true := by
      intro i k h
      induction h with
      | @one i' oi e h1 h2 h3 =>
        intro hi
        rcases hi with hi | hi
        · exact hdown i' oi e hi h1 h2 h3
        · subst hi
          rw [ho] at h1; injection h1 with h1; subst h1
          exact hedges e h2 h3
      | more _ _ h1 h2 => intro hi; exact h2 (.inl (h1 hi))
    have ord_S : ∀ {k : Nat}, Ordd ops j k → listed.getD k false = decide (k < j) := by
      intro k h
      rcases h with h | h
      · rw [bef_done h (.inr rfl)]
        have := h.lt hI.back
        simp [this]
      · have h1 := h.lt hI.back
        have : listed.getD k false = false := by
          cases hk : listed.getD k false with
          | false => rfl
          | true => have := bef_done h (.inl hk); rw [hjf] at this; cases this
        rw [this]; simp; omega
    have frame : ∀ t : Nat, (t ∈ o.looksAt ops ∨ o.dst = some t) → fget (curF (fun k => listed.getD k false) n ops.toList rs 0 fr0) t = fget (curF (fun i => decide (i < j)) n ops.toList rs 0 fr0) t := by
      intro t ht
      refine curF_congr ops.toList rs 0 _ _ (fun i oi hi hd => ?_) rfl
      rw [Nat.zero_add]
      by_cases hij : i = j
      · subst hij; rw [hjf]; simp
      · exact ord_S (hI.tmps j i o oi t ho (by simpa using hi) (Ne.symm hij) hd ht)
    have heap : ∀ id : Nat, (id ∈ c.rd ∨ id ∈ c.del.map Prod.fst) → (curH (fun k => listed.getD k false) rs 0 H0).get id = (curH (fun i => decide (i < j)) rs 0 H0).get id := by
      intro id hid
      refine curH_congr rs 0 _ _ (fun i ci hi hd => ?_) rfl
      rw [Nat.zero_add]
      by_cases hij : i = j
      · subst hij; rw [hjf]; simp
      · exact ord_S (hI.blks j i c ci id hcj hi (Ne.symm hij) hd hid)
    have henv : ∀ x ∈ o.op.operands.toList, envF (curF (fun k => listed.getD k false) n ops.toList rs 0 fr0) x = envF (curF (fun i => decide (i < j)) n ops.toList rs 0 fr0) x := by
      intro x hx
      cases x with
      | tmp t =>
        simp only [envF]
        rw [frame t (.inl ?_)]
        unfold Oper.looksAt
        exact List.mem_append.2 (.inl (List.mem_filterMap.2 ⟨.tmp t, hx, rfl⟩))
      | _ => rfl
    have hwant : wantedQ ops (curF (fun k => listed.getD k false) n ops.toList rs 0 fr0) o = some (!c.skip) := by
      rw [← f1]
      unfold wantedQ
      cases hg : o.guard with
      | none => rfl
      | some p =>
        obtain ⟨i, want⟩ := p
        have : yields ops (curF (fun k => listed.getD k false) n ops.toList rs 0 fr0) i = yields ops (curF (fun k => decide (k < j)) n ops.toList rs 0 fr0) i := by
          unfold yields
          cases hd : (ops[i]?).bind (·.dst) with
          | none => rfl
          | some d =>
            show bviewA _ = bviewA _
            rw [frame d (.inl ?_)]
            unfold Oper.looksAt
            refine List.mem_append.2 (.inr ?_)
            simp only [hg]
            rw [hd]; simp
        show Option.map _ _ = Option.map _ _
        rw [this]
    -- the state behind j
    have hS' : (fun k => (listed.setIfInBounds j true).getD k false) = fun k => listed.getD k false || k == j := by
      funext k
      simp only [Array.getD_eq_getD_getElem?, Array.getElem?_setIfInBounds]
      by_cases hkj : j = k
      · subst hkj; simp [hlt']
      · rw [if_neg hkj]
        have : (k == j) = false := by simp; omega
        simp [this]
    have noLater : ∀ (i : Nat), j < i → Ordd ops j i → listed.getD i false = false := by
      intro i hi ho
      rw [ord_S ho]; simp; omega
    have hcount : (listed.setIfInBounds j true).toList.count false = fuel := by
      have h1 : listed.toList[j]? = some false := by simp [hlt'] at hj1 ⊢; exact hj1
      have : (listed.setIfInBounds j true).toList = listed.toList.set j true := by simp
      rw [this]
      have h2 := List.count_set (a := true) (b := false) (l := listed.toList) (i := j) (by simpa using hlt')
      rw [h2, hc]
      have h3 : listed.toList[j]'(by simpa using hlt') = false := by rw [List.getElem?_eq_getElem (by simpa using hlt')] at h1; injection h1
      simp only [h3]; simp
    have hdown' : ∀ (k : Nat) (ok : Oper) (e : Edge), (listed.setIfInBounds j true).getD k false = true → ops[k]? = some ok → e ∈ ok.after → Region.binds .any e = true → (listed.setIfInBounds j true).getD e.on false = true := by
      intro k ok e hk hok he hb
      have h1 : (listed.setIfInBounds j true).getD k false = (listed.getD k false || k == j) := congrFun hS' k
      have h2 : (listed.setIfInBounds j true).getD e.on false = (listed.getD e.on false || e.on == j) := congrFun hS' e.on
      rw [h1] at hk
      rw [h2]
      rcases Bool.or_eq_true_iff.1 hk with hk | hk
      · rw [hdown k ok e hk hok he hb]; rfl
      · have hkj : k = j := by simpa using hk
        subst hkj
        rw [ho] at hok; injection hok with hok; subst hok
        rw [hedges e he hb]; rfl
    have next : ∀ (v : AV) (x : Value) (w1 : World) (g1 : Gh), c.val = v → Cv w1 g1 v x → Adv w g (curH (fun k => listed.getD k false) rs 0 H0) w1 g1 ((curH (fun k => listed.getD k false) rs 0 H0).upd c.del) → (∀ id, (id ∉ c.del.map Prod.fst ∨ (curH (fun k => listed.getD k false) rs 0 H0).get id ≠ none) → g1.φ id = g.φ id) → (∀ id, id < nx0 → g1.φ id = g.φ id) →
        wpAnyIn (FR r) 0 P .any ops Q fuel (listed.setIfInBounds j true) (a.put o.dst x) w1 := by
      intro v x w1 g1 hv hcv hadv hφ hφ1
      refine ih (listed.setIfInBounds j true) (a.put o.dst x) w1 g1 (by simpa using hsz) hcount hdown' ?_ ?_ ?_ (fun id hid => (hφ1 id hid).trans (hφ0 id hid)) ((put_defers ..).trans hds)
      · rw [hS']
        have h1 := (hF.mono hadv.mono).put hcv o.dst
        refine ⟨h1.size, fun t => ?_⟩
        rw [curF_add (S := fun k => listed.getD k false) (j := j) hjf ops.toList rs 0 fr0 (Nat.zero_le _) ho' hcj (fun hd i oi hi hij hdi => by
            rw [Nat.zero_add] at hij ⊢
            exact noLater i hij (hI.tmps j i o oi t ho (by simpa using hi) (by omega) hdi (.inr hd))), hv]
        exact h1.at_ t
      · rw [hS']
        refine (hA.trans hadv).congr (fun _ => rfl) fun id => ?_
        exact curH_add (S := fun k => listed.getD k false) (j := j) hjf rs 0 H0 (Nat.zero_le _) hcj (fun hd i ci hi hij hdi => by
          rw [Nat.zero_add] at hij ⊢
          exact noLater i hij (hI.blks j i c ci id hcj hi (by omega) hdi (.inr hd)))
      · intro id hid hno
        have hS2 : ∀ k, (listed.setIfInBounds j true).getD k false = (listed.getD k false || k == j) := fun k => congrFun hS' k
        rw [hφ id (.inl (hno j c (by rw [hS2]; simp) hcj))]
        exact hN id hid fun k ck hk hck => hno k ck (by rw [hS2, hk]; rfl) hck
    unfold wpOpIn
    rw [ho]
    simp only []
    rw [hF.wanted hwant]
    cases hs : c.skip with
    | true =>
      simp only [Bool.not_true, Bool.false_eq_true, if_false]
      have e2 : c.del = [] := by simp [Rec.del, hs]
      refine ⟨fun _ _ => trivial, ?_⟩
      exact next (.sc undef) undef w g (by simp [Rec.val, hs]) (.sc _ rfl) (by rw [e2]; exact Adv.refl hA.rel) (fun _ _ => rfl) (fun _ _ => rfl)
    | false =>
      simp only [Bool.not_false, if_true]
      obtain ⟨h4, h5, h6⟩ := f2 hs
      have e1 : c.val = c.r.v := by simp [Rec.val, hs]
      have e2 : c.del = c.r.δ := by simp [Rec.del, hs]
      have e3 : c.rd = c.r.D := by simp [Rec.rd, hs]
      refine OpOK.wpIn r (h4 _ (fun id hid => heap id (.inl (by rw [e3]; exact hid))) (fun p hp hn => by rw [heap p.1 (.inr (by rw [e2]; exact List.mem_map_of_mem hp))]; exact hn) w g a.eval
        (fun x hx => by rw [← henv x hx]; exact hF.env hA.rel.gl (List.all_eq_true.1 h5 x hx)) hA.rel (fun p hp hn => ?_)) fun x w1 hp => ?_
      · have hpd : p.1 ∈ c.del.map Prod.fst := by rw [e2]; exact List.mem_map_of_mem hp
        rw [heap p.1 (.inr hpd)] at hn
        obtain ⟨h7, h8⟩ := h6 p hp hn
        refine hN p.1 h7 fun k ck hk hck hm => ?_
        have hkj : k ≠ j := by rintro rfl; rw [hjf] at hk; cases hk
        have hord := hI.blks j k c ck p.1 hcj hck (Ne.symm hkj) hm (.inr hpd)
        have := ord_S hord
        rw [hk] at this
        have hkl : k < j := by simpa using this.symm
        obtain ⟨q, hq, hqe⟩ := List.mem_map.1 hm
        have := h8 k ck hkl hck q hq
        omega
      · obtain ⟨g1, hadv, hcv, hφ⟩ := hp
        rw [← e2] at hadv hφ
        refine next c.r.v x w1 g1 e1 hcv hadv hφ fun id hid => hφ id ?_
        by_cases hm : id ∈ c.del.map Prod.fst
        · refine .inr fun hn => ?_
          rw [heap id (.inr hm)] at hn
          rw [e2] at hm
          obtain ⟨p, hp, rfl⟩ := List.mem_map.1 hm
          have := (h6 p hp hn).1
          omega
        · exact .inl hm

theorem lin_drawn {Q : Exit → Act → World → Prop} (hm : P.follows .mixedOrders = true) {id : Nat} {a : Act} (hL : Lin P n ops ops.toList rs fr0 H0 nx0) (hI : Indep ops rs) (hF : FRel w0 g0 n fr0 a) (hH : HRel w0 g0 H0) (hN : Fresh g0 nx0)
    (hQ : ∀ a' w' g', Adv w0 g0 H0 w' g' (endH rs H0) → FRel w' g' n (endF n ops.toList rs fr0) a' → Fresh g' (endN rs nx0) → (∀ id, id < nx0 → g'.φ id = g0.φ id) → a'.defers = ds0 → Q .normal a' w') (hds : a.defers = ds0) : (Code.region id ops true).wpIn (FR r) 0 P Q a w0 := by
  have hz : ∀ k, (Array.replicate ops.size false).getD k false = false := by intro k; simp [Array.getElem?_replicate]; split <;> rfl
  have hz' : (fun k => (Array.replicate ops.size false).getD k false) = fun _ => false := funext hz
  have md : Mono w0 g0 { w0 with drawn := w0.drawn + 1 } g0 := ⟨fun _ _ h => h, fun _ h => ⟨h, rfl⟩, fun _ cs _ _ h => ⟨cs, h, rfl⟩⟩
  have hA : Adv w0 g0 H0 { w0 with drawn := w0.drawn + 1 } g0 H0 := ⟨md, ⟨rfl, rfl, rfl, Nat.le_refl _, fun _ _ _ => rfl⟩, fun i B b E hi hb _ => ⟨i, B, E, hi, hb⟩, fun _ h _ => .inl h,
    ⟨fun i B hi => (hH.rel i B hi).keep md rfl fun _ _ _ => rfl, hH.apart, hH.imm, hH.lt, hH.gl.mono md.I⟩⟩
  refine wpIn_region_any hm (lin_wpAny r hL hI hQ _ _ a _ g0 (by simp) (by rw [Array.toList_replicate, List.count_replicate_self]) (fun k o e hk => by rw [hz] at hk; cases hk) ?_ ?_ (fun i hi _ => hN i hi) (fun _ _ => rfl) hds)
  · rw [hz', curF_none]; exact hF.mono md
  · rw [hz', curH_none]; exact hA
end
end Go.Proofs.Ytjnmbmdplchfkaa.Am
