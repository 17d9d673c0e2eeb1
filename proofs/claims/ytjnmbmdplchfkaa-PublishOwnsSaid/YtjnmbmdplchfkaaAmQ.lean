/- The owned machine, part Q: what the walk leaves to be shown is enough. -/
import Derived.Test.YtjnmbmdplchfkaaAmP
set_option linter.all false
namespace Go.Proofs.Ytjnmbmdplchfkaa.Am
variable [Lo]
set_option linter.unusedVariables false

def CLe (a b : AV) : Prop := ∀ w g x, Cv w g a x → Cv w g b x
def VLe (a b : AV) : Prop := a = b ∨ (∃ c v, b = .when c v ∧ (c = true → a = v)) ∨ b = .unk
theorem VLe.refl (a : AV) : VLe a a := .inl rfl
theorem VLe.cle {a b : AV} (h : VLe a b) : CLe a b := fun w g x hx => by
  rcases h with rfl | ⟨c, v, rfl, h⟩ | rfl
  · exact hx
  · exact .when fun hc => by rw [← h hc]; exact hx
  · exact .unk _
def FLe (a b : Fr) : Prop := ∀ t, VLe (fget a t) (fget b t)
theorem FLe.refl (a : Fr) : FLe a a := fun _ => VLe.refl _
theorem FLe.env {a b : Fr} (h : FLe a b) (x : Operand) : VLe (envF a x) (envF b x) := by
  cases x with
  | tmp t => exact h t
  | _ => exact VLe.refl _
theorem FLe.set {a b : Fr} (h : FLe a b) {u v : AV} (hv : VLe u v) (n : Nat) (d : Option Tmp) : FLe (setDst n a d u) (setDst n b d v) := fun t => by
  rw [setDst_get, setDst_get]
  split
  · exact hv
  · exact h t
def HB (H : AH) (nx : Nat) : Prop := ∀ id, nx ≤ id → H.get id = none
theorem HB.upd {H : AH} {nx : Nat} (h : HB H nx) (δ : List (Nat × Option Blk)) : HB (H.upd δ) (nextId nx δ) := fun id hid => by
  rw [upd_get_out ?_]
  · exact h id (Nat.le_trans (nextId_le δ nx) hid)
  · intro hm
    obtain ⟨q, hq, rfl⟩ := List.mem_map.1 hm
    have := nextId_gt δ nx q hq
    omega
theorem HB.of_all {H : AH} {nx : Nat} (h : H.all (fun x => decide (x.1 < nx)) = true) : HB H nx := fun id hid => by
  induction H with
  | nil => rfl
  | cons q H ih =>
    obtain ⟨i, b⟩ := q
    simp only [List.all_cons, Bool.and_eq_true, decide_eq_true_eq] at h
    simp only [AH.get]
    rw [if_neg (by omega)]
    exact ih h.2
theorem OpSemD.weaken {P : Program} {o : Oper} {env env' : Operand → AV} {H : AH} {r : Out} (h : OpSemD P o env H r) (hw : ∀ x ∈ o.op.operands.toList, CLe (env' x) (env x)) : OpSemD P o env' H r :=
  fun H' hD hf w g ρ hρ hH hφ => h H' hD hf w g ρ (fun x hx => hw x hx w g _ (hρ x hx)) hH hφ

section
variable {P : Program} {T : TT} (hT : T.Ok P) {n : Nat} {ops : Array Oper}
include hT
theorem mapN_sound {env : Operand → AV} {H : AH} {o : Oper} {K : Out → Prop} (h : mapN P T env H o.op K) : ∃ r, OpSemD P o env H r ∧ K r := by
  unfold mapN at h
  split at h
  · exact h.elim
  · rename_i q hq
    obtain ⟨hk, ⟨r, hr, h⟩⟩ := h
    split at h
    · rename_i x hx
      obtain ⟨hok, hk'⟩ := h
      simp only [Bool.and_eq_true] at hk
      exact ⟨x, map_sem hT hq hk.1 hk.2 hr hx hok, hk'⟩
    · exact h.elim
theorem stepN_sound {env : Operand → AV} {H : AH} {nx : Nat} {o : Oper} {K : Out → Prop} (h : stepN P T env H nx o K) (hn : H.get nx = none) : ∃ r, OpSemD P o env H r ∧ K r := by
  have last : (match astep T env H nx o with | some r => As r.ok (K r) | none => False) → ∃ r, OpSemD P o env H r ∧ K r := by
    intro h
    split at h
    · rename_i r hr
      obtain ⟨h1, h2⟩ := h
      exact ⟨r, astep_sem hT hr h1 hn, h2⟩
    · exact h.elim
  unfold stepN at h
  split at h
  · rename_i fv args tys ho
    split at h
    · rename_i f caps k hf
      obtain ⟨hc, ⟨r, hr, hk⟩⟩ := h
      exact ⟨r, call_sem ho hf hc hr, hk⟩
    · rename_i l rc ks cs hf
      obtain ⟨r, hl, hr, hk⟩ := h
      exact ⟨r, yield_sem ho hf (by simpa using hl) hr, hk⟩
    · exact h.elim
  · rename_i ho; rw [← ho] at h; exact mapN_sound hT h
  · rename_i ho; rw [← ho] at h; exact mapN_sound hT h
  · rename_i ho; rw [← ho] at h; exact mapN_sound hT h
  · rename_i ho; rw [← ho] at h; exact mapN_sound hT h
  · rename_i ho; rw [← ho] at h; exact mapN_sound hT h
  · rename_i ho
    unfold convN at h
    split at h
    · rename_i ok es D hq
      obtain ⟨rfl, ⟨ns, hns, hk⟩⟩ := h
      exact ⟨_, str_sem hT ho hq hns, hk⟩
    · exact last h
  · exact last h
theorem stepU_sound {env : Operand → AV} {H : AH} {nx : Nat} {o : Oper} {b : Bool} {K : Out → Prop} (h : vOps.stepU P T env H nx o b K) (hn : H.get nx = none) : ∃ r, (b = true → OpSemD P o env H r) ∧ K r := by
  unfold vOps.stepU at h
  split at h
  · rename_i fv args tys ho
    split at h
    · rename_i f caps k hf
      obtain ⟨hc, ⟨r, hr, hk⟩⟩ := h
      exact ⟨r, fun _ => call_sem ho hf hc hr, hk⟩
    · exact h.elim
  · split at h
    · rename_i r hr
      obtain ⟨h1, h2⟩ := h
      exact ⟨r, fun hb => astep_sem hT hr (by rw [hb] at h1; simpa using h1) hn, h2⟩
    · exact h.elim
omit hT in
theorem letOut_sound {o : Op} {v : AV} {K : AV → Prop} (h : letOut o v K) : K v := by
  unfold letOut at h
  split at h
  · obtain ⟨m', rfl, hk⟩ := h; exact hk
  · obtain ⟨m', rfl, hk⟩ := h; exact hk
  · split at h
    · rw [forceEs_eq] at h; exact h
    · exact h
  · obtain ⟨m', rfl, hk⟩ := h; exact hk
  · obtain ⟨m', rfl, hk⟩ := h; exact hk
  · split at h
    · obtain ⟨m', rfl, hk⟩ := h; exact hk
    · exact h
  all_goals first
    | exact h
    | (split at h
       · obtain ⟨m', rfl, hk⟩ := h; exact hk
       · obtain ⟨m', rfl, hk⟩ := h; exact hk
       · exact h)
    | (split at h
       · obtain ⟨m', rfl, hk⟩ := h; exact hk
       · exact h)

omit hT in
theorem Covers.cons {rs : List Rec} {tr : List Info} (h : Covers rs tr) {c : Rec} {x : Info} (h1 : ∀ id ∈ c.rd, id ∈ x.1) (h2 : ∀ id ∈ c.del.map Prod.fst, id ∈ x.2) : Covers (c :: rs) (x :: tr) := by
  refine ⟨by simp [h.1], fun i d y hd hy => ?_⟩
  cases i with
  | zero => simp at hd hy; subst hd hy; exact ⟨h1, h2⟩
  | succ i => exact h.2 i d y (by simpa using hd) (by simpa using hy)

theorem vOps_sound {K : List Info → Fr → AH → Nat → Prop} : ∀ (l : List Oper) (tr : List Info) (fr : Fr) (H : AH) (nx : Nat), vOps P T n ops K l tr fr H nx → HB H nx → ∀ fr1, FLe fr1 fr →
    ∃ rs tr2 fr2, Lin P n ops l rs fr1 H nx ∧ FLe (endF n l rs fr1) fr2 ∧ Covers rs tr2 ∧ HB (endH rs H) (endN rs nx) ∧ K (tr ++ tr2) fr2 (endH rs H) (endN rs nx)
  | [], tr, fr, H, nx, h, hB, fr1, hF => ⟨[], [], fr, trivial, hF, ⟨rfl, fun i c x hi => by simp at hi⟩, hB, by rw [List.append_nil]; exact h⟩
  | o :: l, tr, fr, H, nx, h, hB, fr1, hF => by
    have ih := vOps_sound (K := K) l
    unfold vOps at h
    simp only [force_eq, forceL_eq, forceD_eq] at h
    -- the operation is carried out
    have doIt : wantedQ ops fr1 o = some true → (Ck (o.op.operands.toList.all constOk) <| stepN P T (envF fr) H nx o fun r => Ck (newOk H nx r.δ) <|
        letOut o.op r.v fun v => letDel o.op r.δ fun δ => vOps P T n ops K l (tr ++ [(r.D, δ.map Prod.fst)]) (setDst n fr o.dst v) (H.upd δ) (nextId nx δ)) →
        ∃ rs tr2 fr2, Lin P n ops (o :: l) rs fr1 H nx ∧ FLe (endF n (o :: l) rs fr1) fr2 ∧ Covers rs tr2 ∧ HB (endH rs H) (endN rs nx) ∧ K (tr ++ tr2) fr2 (endH rs H) (endN rs nx) := by
      rintro hw ⟨hc, hs⟩
      obtain ⟨r, hr, ⟨hnew, hk⟩⟩ := stepN_sound hT hs (hB nx (Nat.le_refl _))
      have hk := letDel_sound (letOut_sound hk)
      obtain ⟨rs, tr2, fr2, h1, h2, h3, h4, h5⟩ := ih _ _ _ _ hk (hB.upd r.δ) (setDst n fr1 o.dst r.v) (hF.set (VLe.refl _) n o.dst)
      refine ⟨⟨false, r⟩ :: rs, (r.D, r.δ.map Prod.fst) :: tr2, fr2, ⟨hw, fun _ => ⟨hr.weaken fun x _ => (hF.env x).cle, hc, fun q hq hn => ?_⟩, h1⟩, h2, h3.cons (fun id hid => hid) (fun id hid => hid), h4, ?_⟩
      · have := List.all_eq_true.1 hnew q hq
        simpa [hn] using this
      · rw [List.append_cons]; exact h5
    try simp only [] at h
    split at h
    · exact h.elim
    · rename_i hg
      refine doIt ?_ h
      unfold guardOf at hg
      unfold wantedQ
      cases hgd : o.guard with
      | none => rfl
      | some q =>
        rw [hgd] at hg
        obtain ⟨j, want⟩ := q
        simp only [] at hg
        split at hg
        · split at hg <;> simp at hg
        · cases hg
    · rename_i b hg
      have hwant : wantedQ ops fr1 o = some b := by
        unfold guardOf at hg
        unfold wantedQ
        cases hgd : o.guard with
        | none => rw [hgd] at hg; simp at hg
        | some q =>
          rw [hgd] at hg
          obtain ⟨j, want⟩ := q
          simp only [] at hg ⊢
          split at hg
          · rename_i d hd
            split at hg
            · rename_i b' hb'
              injection hg with hg; injection hg with hg
              unfold yields
              rw [hd]
              have hv : fget fr1 d = .sc (.bool b') := by
                have := hF d
                rw [hb'] at this
                rcases this with h | ⟨_, _, h, _⟩ | h
                · exact h
                · cases h
                · cases h
              simp only [hv, bviewA, Option.map_some]
              rw [← hg]
              cases want <;> cases b' <;> rfl
            · cases hg
            · cases hg
            · rename_i n1 n2 n3
              injection hg with hg; injection hg with hg; subst hg
              unfold yields
              rw [hd]
              have hv : fget fr1 d = fget fr d := by
                have := hF d
                rcases this with h | ⟨c, v, h, _⟩ | h
                · exact h
                · exact absurd h (n3 c v)
                · exact absurd h n2
              have hb : bviewA (fget fr d) = some none := by
                unfold bviewA
                split
                · rename_i b' h; exact absurd h (n1 b')
                · rename_i h; exact absurd h n2
                · rename_i c v h; exact absurd h (n3 c v)
                · rfl
              simp only [hv, hb, Option.map_some]
              cases want <;> rfl
          · cases hg
      rcases h with ⟨rfl, h⟩ | ⟨rfl, h⟩ | ⟨⟨hc, ⟨hs, h⟩⟩⟩
      · exact doIt hwant h
      · obtain ⟨rs, tr2, fr2, h1, h2, h3, h4, h5⟩ := ih _ _ _ _ h hB (setDst n fr1 o.dst (.sc undef)) (hF.set (VLe.refl _) n o.dst)
        exact ⟨⟨true, { v := .unk }⟩ :: rs, ([], []) :: tr2, fr2, ⟨hwant, (fun (h : true = false) => by cases h), h1⟩, h2, h3.cons (fun id hid => hid) (fun id hid => hid), h4, by rw [List.append_cons]; exact h5⟩
      · obtain ⟨r, hr, ⟨hδ', hk⟩⟩ := stepU_sound hT h (hB nx (Nat.le_refl _))
        have hδ : r.δ = [] := List.isEmpty_iff.1 hδ'
        cases b with
        | true =>
          obtain ⟨rs, tr2, fr2, h1, h2, h3, h4, h5⟩ := ih _ _ _ _ hk hB (setDst n fr1 o.dst r.v) (hF.set (.inr (.inl ⟨_, _, rfl, fun _ => rfl⟩)) n o.dst)
          refine ⟨⟨false, r⟩ :: rs, (r.D, []) :: tr2, fr2, ⟨hwant, fun _ => ⟨(hr rfl).weaken fun x hx => ?_, hc, fun q hq => ?_⟩, ?_⟩, h2, h3.cons (fun id hid => hid) (fun id hid => ?_), ?_, ?_⟩
          · have h6 := List.all_eq_true.1 hs x hx
            have h7 := (hF.env x).cle
            intro w g y hy
            have h8 := h7 w g y hy
            unfold under at h6 ⊢
            split at h6
            · rename_i b' v hv
              rw [hv] at h8
              cases h8 with
              | when h9 => exact h9 (by simpa using h6)
            · exact h8
          · change q ∈ r.δ at hq; rw [hδ] at hq; cases hq
          · show Lin P n ops l rs (setDst n fr1 o.dst r.v) (H.upd r.δ) (nextId nx r.δ)
            rw [hδ]; exact h1
          · change id ∈ r.δ.map Prod.fst at hid; rw [hδ] at hid; cases hid
          · show HB (endH rs (H.upd r.δ)) (endN rs (nextId nx r.δ))
            rw [hδ]; exact h4
          · show K _ _ (endH rs (H.upd r.δ)) (endN rs (nextId nx r.δ))
            rw [hδ, List.append_cons]; exact h5
        | false =>
          obtain ⟨rs, tr2, fr2, h1, h2, h3, h4, h5⟩ := ih _ _ _ _ hk hB (setDst n fr1 o.dst (.sc undef)) (hF.set (.inr (.inl ⟨_, _, rfl, fun h => by cases h⟩)) n o.dst)
          exact ⟨⟨true, { v := .unk }⟩ :: rs, (r.D, []) :: tr2, fr2, ⟨hwant, (fun (h : true = false) => by cases h), h1⟩, h2, h3.cons (fun id hid => by cases hid) (fun id hid => by cases hid), h4, by rw [List.append_cons]; exact h5⟩

/-- Code, walked. -/
def V (P : Program) (T : TT) (p n : Nat) : Code → AS → (Exit → AS → Prop) → Prop
  | .skip, s, Q => Q .normal s
  | .seq x y, s, Q => V P T p n x s fun e s1 => match e with
    | .normal => V P T p n y s1 Q
    | e => Q e s1
  | .cond c x y, s, Q => Ck (constOk c) <| match envF s.fr c with
    | .sc (.bool b) => Br b (V P T p n x s Q) (V P T p n y s Q)
    | _ => False
  | .block id c, s, Q => V P T p n c s fun e s1 => match e with
    | .exit id' => if id' = id then Q .normal s1 else Q (.exit id') s1
    | .normal => Q .normal s1
    | .ret => Q .ret s1
    | _ => False
  | .exit id, s, Q => Q (.exit id) s
  | .ret, s, Q => Q .ret s
  | .loop c, s, Q => LoopN P p n c s Q
  | .rangeFunc g ps assign body, s, Q => RfN P p n (.rangeFunc g ps assign body) s Q
  | .region id ops draw, ⟨fr, H, nx⟩, Q => Ck (decide (p ≤ nx)) <| vOps P T n ops (fun tr fr H nx => Ck (!draw || drawOk ops tr) <| Q .normal ⟨fr, H, nx⟩) ops.toList [] fr H nx
  | .scope c, s, Q => V P T p n c s fun e s1 => match e with
    | .goto _ => False
    | e => Q e s1
  | .label _, s, Q => Q .normal s
  | _, _, _ => False

omit hT in
theorem SW.fle {p : Nat} {s : AS} {fr2 : Fr} (h : FLe s.fr fr2) : SW p n s ⟨fr2, s.H, s.nx⟩ := fun w g a hs =>
  ⟨g, AdvP.refl p w g s.H, ⟨⟨hs.fr.size, fun t => (h t).cle w g _ (hs.fr.at_ t)⟩, hs.H, hs.nx⟩⟩
theorem V_sound {p : Nat} (hm : P.follows .mixedOrders = true) : ∀ (c : Code) (s : AS) (Q : Exit → AS → Prop), V P T p n c s Q → HB s.H s.nx → ∃ e s', ARuns P p n c s e s' ∧ HB s'.H s'.nx ∧ Q e s'
  | .skip, s, Q, h, hB => ⟨.normal, s, ARuns.skip, hB, h⟩
  | .seq x y, s, Q, h, hB => by
    unfold V at h
    obtain ⟨e, s1, h1, hB1, h2⟩ := V_sound hm x s _ h hB
    split at h2
    · obtain ⟨e2, s2, h3, hB2, h4⟩ := V_sound hm y s1 Q h2 hB1
      exact ⟨e2, s2, h1.seq h3, hB2, h4⟩
    · rename_i hne
      exact ⟨e, s1, ARuns.seq_out (fun h => hne h) h1, hB1, h2⟩
  | .cond c x y, s, Q, h, hB => by
    unfold V at h
    obtain ⟨hc, h⟩ := h
    split at h
    · rename_i b hb
      rcases h with ⟨rfl, h⟩ | ⟨rfl, h⟩
      · obtain ⟨e, s1, h1, hB1, h2⟩ := V_sound hm x s Q h hB
        exact ⟨e, s1, ARuns.cond hb hc (by simpa using h1), hB1, h2⟩
      · obtain ⟨e, s1, h1, hB1, h2⟩ := V_sound hm y s Q h hB
        exact ⟨e, s1, ARuns.cond hb hc (by simpa using h1), hB1, h2⟩
    · exact h.elim
  | .block id c, s, Q, h, hB => by
    unfold V at h
    obtain ⟨e, s1, h1, hB1, h2⟩ := V_sound hm c s _ h hB
    split at h2
    · split at h2
      · rename_i he; subst he; exact ⟨_, s1, ARuns.block_exit h1, hB1, h2⟩
      · rename_i he; exact ⟨_, s1, ARuns.block_exit_other he h1, hB1, h2⟩
    · exact ⟨_, s1, ARuns.block_normal h1, hB1, h2⟩
    · exact ⟨_, s1, ARuns.block_ret h1, hB1, h2⟩
    · exact h2.elim
  | .exit id, s, Q, h, hB => ⟨.exit id, s, ARuns.exit, hB, h⟩
  | .ret, s, Q, h, hB => ⟨.ret, s, ARuns.ret, hB, h⟩
  | .loop c, s, Q, h, hB => by
    obtain ⟨e, s', h1, h2, h3⟩ := h
    exact ⟨e, s', ARuns.loop h1, HB.of_all h2, h3⟩
  | .region id ops draw, s, Q, h, hB => by
    obtain ⟨hp, h⟩ := h
    have hp := of_decide_eq_true hp
    obtain ⟨rs, tr2, fr2, h1, h2, h3, h4, ⟨h5, h6⟩⟩ := vOps_sound hT ops.toList [] s.fr s.H s.nx h hB s.fr (FLe.refl _)
    refine ⟨.normal, ⟨fr2, endH rs s.H, endN rs s.nx⟩, ?_, h4, h6⟩
    cases draw with
    | false => exact (ARuns.region hp h1).post (SW.fle (s := ⟨endF n ops.toList rs s.fr, endH rs s.H, endN rs s.nx⟩) h2)
    | true => exact (ARuns.drawn hm hp h1 (indep_of (by simpa using h5) h1.len h3)).post (SW.fle (s := ⟨endF n ops.toList rs s.fr, endH rs s.H, endN rs s.nx⟩) h2)
  | .rangeFunc g ps assign body, s, Q, h, hB => by
    obtain ⟨e, s', h1, h2, h3⟩ := h
    exact ⟨e, s', h1, HB.of_all h2, h3⟩
  | .scope c, s, Q, h, hB => by
    unfold V at h
    obtain ⟨e, s1, h1, hB1, h2⟩ := V_sound hm c s _ h hB
    split at h2
    · exact h2.elim
    · rename_i hne
      exact ⟨e, s1, ARuns.scope (fun l hl => hne l hl) h1, hB1, h2⟩
  | .label _, s, Q, h, hB => ⟨.normal, s, ARuns.label, hB, h⟩
  | .goto _, s, Q, h, hB => h.elim
  | .refuse _, s, Q, h, hB => h.elim

/-- What a function gives. -/
def Fin (T : TT) (fn : Func) (v : AV) (H : AH) (e : Exit) (s : AS) : Prop := (e = .ret ∨ e = .normal) ∧ (∃ rv, resAll T s fn.results.toList = some (true, rv) ∧ tupled rv = v) ∧ s.H = H
theorem AFun.of_V {p : Nat} (hm : P.follows .mixedOrders = true) {f : FuncId} {fn : Func} {c : Code} {vs : List AV} {H H' : AH} {v : AV} (hf : P.funcs[f]? = some fn) (hb : fn.body = some c) (hn : vs.length ≤ fn.ntmps) (hB : H.all (fun x => decide (x.1 < p)) = true)
    (h : V P T p fn.ntmps c ⟨argFr vs 0, H, p⟩ (Fin T fn v H')) : AFun P f p vs H v H' := by
  obtain ⟨e, s', h1, _, he, ⟨rv, hr, hv⟩, hH⟩ := V_sound hT hm c _ _ h (HB.of_all hB)
  exact AFun.of_body hT hf hb hn he h1 hr hv hH
end
end Go.Proofs.Ytjnmbmdplchfkaa.Am
