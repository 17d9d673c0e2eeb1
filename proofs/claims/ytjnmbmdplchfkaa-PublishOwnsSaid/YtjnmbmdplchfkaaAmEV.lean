/- The owned machine, part EV: closed calls, reckoned. -/
import Derived.Test.YtjnmbmdplchfkaaAmVV
set_option linter.all false
namespace Go.Proofs.Ytjnmbmdplchfkaa.Am
variable [Lo]
set_option linter.unusedVariables false

mutual
def AV.ids : AV → List Nat
  | .when _ v => v.ids
  | .ptr id _ _ _ | .slm _ id _ _ _ | .mp id => [id]
  | .agg cs | .tup cs | .clo _ cs _ | .yl _ _ _ cs => AV.idsL cs
  | .unk | .sc _ | .rp .. | .ro .. | .fr _ => []
def AV.idsL : List AV → List Nat
  | [] => []
  | v :: vs => v.ids ++ AV.idsL vs
end
def Blk.ids : Blk → List Nat
  | .row _ _ es => AV.idsL es
  | .map _ kv => kv.flatMap fun x => x.2.ids
/-- The names that can be come to. -/
def reach (H : AH) : Nat → List Nat → List Nat → List Nat
  | 0, _, seen => seen
  | _ + 1, [], seen => seen
  | k + 1, id :: todo, seen => if seen.contains id then reach H k todo seen else reach H k ((match H.get id with | some b => b.ids | none => []) ++ todo) (seen ++ [id])

def vEq1 : Value → Value → Option Bool
  | .int k a, .int j b => some (decide (k = j) && decide (a = b))
  | .string a, .string b => some (decide (a.data.toList = b.data.toList))
  | .bool a, .bool b => some (decide (a = b))
  | _, _ => none
def vEqL : List Value → List Value → Option Bool
  | [], [] => some true
  | a :: l, b :: m => match vEq1 a b with
    | some true => vEqL l m
    | some false => some false
    | none => none
  | _, _ => some false
def vEq : Value → Value → Option Bool
  | .agg xs, .agg ys => vEqL xs.toList ys.toList
  | a, b => vEq1 a b
theorem vEq1_spec {a b : Value} {r : Bool} (h : vEq1 a b = some r) : (r = true ↔ a = b) := by
  unfold vEq1 at h
  split at h <;> first
    | (injection h with h; subst h; simp [ByteArray.ext_iff, Array.toList_inj]; done)
    | cases h
theorem vEqL_spec : ∀ {l m : List Value} {r : Bool}, vEqL l m = some r → (r = true ↔ l = m)
  | [], [], r, h => by simp [vEqL] at h; subst h; simp
  | a :: l, b :: m, r, h => by
    simp only [vEqL] at h
    split at h
    · rename_i h1
      have := (vEq1_spec h1).1 rfl
      subst this
      rw [vEqL_spec h]; simp
    · rename_i h1
      have h2 := vEq1_spec h1
      injection h with h; subst h
      simp at h2 ⊢
      intro hab; exact absurd hab h2
    · cases h
  | [], _ :: _, r, h => by simp [vEqL] at h; subst h; simp
  | _ :: _, [], r, h => by simp [vEqL] at h; subst h; simp
theorem vEq_spec {a b : Value} {r : Bool} (h : vEq a b = some r) : (r = true ↔ a = b) := by
  unfold vEq at h
  split at h
  · rw [vEqL_spec h]; simp [Array.toList_inj]
  · exact vEq1_spec h
def findB (key : Value) : List (Value × AV) → Nat → Option (Option Nat)
  | [], _ => some none
  | x :: kv, i => match vEq x.1 key with
    | some true => some (some i)
    | some false => findB key kv (i + 1)
    | none => none
theorem findB_spec {key : Value} : ∀ {kv : List (Value × AV)} {i : Nat} {r : Option Nat}, findB key kv i = some r → match r with | none => ∀ x ∈ kv, x.1 ≠ key | some j => ∃ d v, j = i + d ∧ kv[d]? = some (key, v)
  | [], i, r, h => by simp [findB] at h; subst h; simp
  | x :: kv, i, r, h => by
    simp only [findB] at h
    split at h
    · rename_i h1
      injection h with h; subst h
      have := (vEq_spec h1).1 rfl
      exact ⟨0, x.2, rfl, by rw [← this]; rfl⟩
    · rename_i h1
      have h2 := vEq_spec h1
      simp at h2
      have ih := findB_spec h
      cases r with
      | none =>
        intro y hy
        rcases List.mem_cons.1 hy with rfl | hy
        · exact h2
        · exact ih y hy
      | some j =>
        obtain ⟨d, v, e1, e2⟩ := ih
        exact ⟨d + 1, v, by omega, by simpa using e2⟩
    · cases h
theorem findB_ok {key : Value} {kv : List (Value × AV)} {r : Option Nat} (h : findB key kv 0 = some r) : findOk kv key r := by
  have := findB_spec h
  cases r with
  | none => exact this
  | some j =>
    obtain ⟨d, v, e1, e2⟩ := this
    obtain rfl : j = d := by omega
    exact ⟨v, e2⟩
def evMap (P : Program) (T : TT) (env : Operand → AV) (H : AH) (o : Op) : Option Out :=
  match mapReq T H env o with
  | none => none
  | some q => if (keyB P q.kt q.key && q.kv.all fun x => keyB P q.kt x.1) = true then match findB q.key q.kv 0 with
    | some r => q.out r
    | none => none
    else none
theorem evMap_spec {P : Program} {T : TT} {env : Operand → AV} {H : AH} {o : Op} {r : Out} {K : Out → Prop} (h : evMap P T env H o = some r) (hok : r.ok = true) (k : K r) : mapN P T env H o K := by
  unfold evMap at h
  unfold mapN
  split at h
  · cases h
  · rename_i q hq
    split at h
    · rename_i hc
      split at h
      · rename_i r' hr
        rw [hq]
        refine ⟨hc, ⟨r', findB_ok hr, ?_⟩⟩
        rw [h]
        exact ⟨hok, k⟩
      · cases h
    · cases h
def evStep (P : Program) (T : TT) (env : Operand → AV) (H : AH) (nx : Nat) (o : Oper) : Option Out :=
  match o.op with
  | .lookup t m k ok => evMap P T env H (.lookup t m k ok)
  | .mapUpdate t m k x => evMap P T env H (.mapUpdate t m k x)
  | .insert t m k x => evMap P T env H (.insert t m k x)
  | .mapEntry t m k => evMap P T env H (.mapEntry t m k)
  | .call { callee := .builtin .delete, args := args, argTypes := tys } => evMap P T env H (.call { callee := .builtin .delete, args := args, argTypes := tys })
  | .convert s d x => match strReq T H s d (env x) with
    | some (ok, es, D) => if ok = true then match bytesOf es with
      | some ns => some { v := .sc (.string (strOf ns)), D := D }
      | none => none
      else none
    | none => astep T env H nx o
  | _ => astep T env H nx o
section
variable (P : Program) (T : TT)
def evOps (call : FuncId → List AV → AH → Nat → Option Out) (n : Nat) (ops : Array Oper) : List Oper → List Info → Fr → AH → Nat → Option (List Info × Fr × AH × Nat)
  | [], tr, fr, H, nx => some (tr, fr, H, nx)
  | o :: l, tr, fr, H, nx =>
    match guardOf ops fr o with
    | none => none
    | some (some false) => evOps call n ops l (tr ++ [([], [])]) (setDst n fr o.dst (.sc undef)) H nx
    | some _ =>
      if o.op.operands.toList.all constOk = true then
        match (match o.op with
          | .call { callee := .value fv, args := args, argTypes := _ } => match envF fr fv with
            | .clo f caps k => if callable P f = true then call f (caps.take k ++ args.toList.map (envF fr) ++ caps.drop k) H nx else none
            | _ => none
          | _ => evStep P T (envF fr) H nx o : Option Out) with
        | some r => if r.ok = true ∧ newOk H nx r.δ = true then evOps call n ops l (tr ++ [(r.D, r.δ.map Prod.fst)]) (setDst n fr o.dst r.v) (H.upd r.δ) (nextId nx r.δ) else none
        | none => none
      else none
def evC (call : FuncId → List AV → AH → Nat → Option Out) (p n : Nat) : Nat → Code → AS → Option (Exit × AS)
  | 0, _, _ => none
  | k + 1, c, s => match c with
    | .skip => some (.normal, s)
    | .seq x y => match evC call p n k x s with
      | some (.normal, s1) => evC call p n k y s1
      | r => r
    | .cond o x y => if constOk o = true then match envF s.fr o with
        | .sc (.bool true) => evC call p n k x s
        | .sc (.bool false) => evC call p n k y s
        | _ => none
      else none
    | .block id c => match evC call p n k c s with
      | some (.exit id', s1) => if id' = id then some (.normal, s1) else some (.exit id', s1)
      | some (.normal, s1) => some (.normal, s1)
      | some (.ret, s1) => some (.ret, s1)
      | _ => none
    | .exit id => some (.exit id, s)
    | .ret => some (.ret, s)
    | .region _ ops draw => if p ≤ s.nx then match evOps P T call n ops ops.toList [] s.fr s.H s.nx with
        | some (tr, fr, H, nx) => if (!draw || drawOk ops tr) = true then some (.normal, ⟨fr, H, nx⟩) else none
        | none => none
      else none
    | .loop c => match evC call p n k c s with
      | some (.normal, s1) => evC call p n k (.loop c) s1
      | r => r
    | _ => none
/-- A call, reckoned: under names of its own, what nobody can come to any more forgotten. -/
def evF : Nat → FuncId → List AV → AH → Nat → Option Out
  | 0, _, _, _, _ => none
  | k + 1, f, ws, H, nx =>
    let ids := reach H 10000 (AV.idsL ws) []
    let p := ids.length
    let ρ' : Nat → Nat := fun id => ids.idxOf id
    let Hc : AH := ids.zipIdx.filterMap fun x => (H.get x.1).map fun b => (x.2, b.ren ρ')
    let vs := AV.renL ρ' ws
    match P.funcs[f]? with
    | none => none
    | some fn => match fn.body with
      | none => none
      | some c => match evC P T (evF k) p fn.ntmps 1000000 c ⟨argFr vs 0, Hc, p⟩ with
        | none => none
        | some (e, s') => match resAll T s' fn.results.toList with
          | none => none
          | some (b, rv) =>
            let v := tupled rv
            let live := reach s'.H 10000 (v.ids ++ List.range p) []
            let H' : AH := s'.H.filter fun x => live.contains x.1
            let fresh := (H'.map Prod.fst).filter fun i => !decide (i < p)
            let ρ : Nat → Nat := fun i => if i < p then ids.getD i 0 else nx + fresh.idxOf i
            if b = true ∧ (match e with | .ret | .normal => true | _ => false) = true ∧ decide (vs.length ≤ fn.ntmps) = true ∧ Hc.all (fun x => decide (x.1 < p)) = true ∧ (s'.H.map Prod.fst).Nodup ∧
              keysOk p ρ (Hc.map Prod.fst) (H'.map Prod.fst) (H.map Prod.fst) = true ∧ AV.namesL (fun i => decide (i < p)) vs = true ∧ namesAll (fun i => decide (i < p)) Hc = true ∧
              v.names (fun i => decide (i < p) || (H'.map Prod.fst).contains i) = true ∧ namesAll (fun i => decide (i < p) || (H'.map Prod.fst).contains i) H' = true ∧
              AV.namesL (fun i => ids.contains i) ws = true ∧ ids.all (fun i => match H.get i with | some b => b.names fun j => ids.contains j | none => false) = true ∧ ids.Nodup
            then some (atCall ρ Hc v H') else none
end

theorem AFun.forget {P : Program} {f : FuncId} {p : Nat} {vs : List AV} {H H1 H' : AH} {v : AV} (h : AFun P f p vs H v H1) (hs : ∀ id B, H'.get id = some B → H1.get id = some B) : AFun P f p vs H v H' := fun w g xs hl hx hH hN =>
  (h w g xs hl hx hH hN).mono fun e w' ⟨x, g', he, hA, hc, hH'⟩ => ⟨x, g', he, ⟨hA.φ, hA.I, hA.sz, hA.ext, fun id B b E hi hb hlt => hA.own id B b E (hs id B hi) hb hlt, hA.imm⟩, hc,
    ⟨fun id B hi => hH'.rel id B (hs id B hi), fun i j b E E' A B hi hj => hH'.apart i j b E E' A B (hs i A hi) (hs j B hj), fun i b E B hi => hH'.imm i b E B (hs i B hi), hH'.lt, hH'.gl⟩⟩
theorem ren_ren {ρ ρ' : Nat → Nat} {ok : Nat → Bool} (h : ∀ i, ok i = true → ρ (ρ' i) = i) : ∀ v : AV, v.names ok = true → (v.ren ρ').ren ρ = v := fun v =>
  AV.rec (motive_1 := fun v => v.names ok = true → (v.ren ρ').ren ρ = v) (motive_2 := fun l => AV.namesL ok l = true → AV.renL ρ (AV.renL ρ' l) = l)
    (fun _ => rfl) (fun b v h hn => by simp only [AV.names] at hn; simp [AV.ren, h hn]) (fun v _ => rfl) (fun id E i o hn => by simp only [AV.names] at hn; simp [AV.ren, h _ hn]) (fun _ _ _ _ => rfl) (fun f id E o l hn => by simp only [AV.names] at hn; simp [AV.ren, h _ hn]) (fun _ _ _ _ _ => rfl)
    (fun cs h hn => by simp only [AV.names] at hn; simp [AV.ren, h hn]) (fun cs h hn => by simp only [AV.names] at hn; simp [AV.ren, h hn]) (fun f cs k h hn => by simp only [AV.names] at hn; simp [AV.ren, h hn]) (fun id hn => by simp only [AV.names] at hn; simp [AV.ren, h _ hn])
    (fun _ _ _ cs h hn => by simp only [AV.names] at hn; simp [AV.ren, h hn]) (fun _ _ _ => rfl) (fun _ => rfl) (fun v l h1 h2 hn => by simp only [AV.namesL, Bool.and_eq_true] at hn; simp [AV.renL, h1 hn.1, h2 hn.2]) v
theorem renL_renL {ρ ρ' : Nat → Nat} {ok : Nat → Bool} (h : ∀ i, ok i = true → ρ (ρ' i) = i) {l : List AV} (hn : AV.namesL ok l = true) : AV.renL ρ (AV.renL ρ' l) = l := by
  rw [renL_map, renL_map, List.map_map]
  rw [namesL_all] at hn
  exact (List.map_congr_left fun a ha => ren_ren h a (List.all_eq_true.1 hn a ha)).trans (List.map_id' l)
theorem blk_ren_ren {ρ ρ' : Nat → Nat} {ok : Nat → Bool} (h : ∀ i, ok i = true → ρ (ρ' i) = i) {B : Blk} (hn : B.names ok = true) : (B.ren ρ').ren ρ = B := by
  cases B with
  | row E ty es => simp only [Blk.ren]; rw [renL_renL h hn]
  | map ck kv =>
    simp only [Blk.names] at hn
    simp only [Blk.ren, List.map_map]
    congr 1
    refine (List.map_congr_left (g := id) fun a ha => ?_).trans (List.map_id kv)
    have := List.all_eq_true.1 hn a ha
    simp [ren_ren h _ this]
theorem filter_get {H : AH} (hnd : (H.map Prod.fst).Nodup) {q : Nat × Blk → Bool} {id : Nat} {B : Blk} (h : AH.get (H.filter q) id = some B) : H.get id = some B :=
  mem_get hnd (List.mem_filter.1 (get_mem h)).1

section
variable {P : Program} {T : TT} (hT : T.Ok P) (hm : P.follows .mixedOrders = true)
theorem evOps_sound {call : FuncId → List AV → AH → Nat → Option Out} (hcall : ∀ f ws H nx r, call f ws H nx = some r → ACalls P f ws H r) {n : Nat} {ops : Array Oper} {K : List Info → Fr → AH → Nat → Prop} : ∀ (l : List Oper) (tr : List Info) (fr : Fr) (H : AH) (nx : Nat) {tr' : List Info} {fr' : Fr} {H' : AH} {nx' : Nat},
    evOps P T call n ops l tr fr H nx = some (tr', fr', H', nx') → K tr' fr' H' nx' → vOps P T n ops K l tr fr H nx
  | [], tr, fr, H, nx, tr', fr', H', nx', h, hk => by
    simp only [evOps, Option.some.injEq, Prod.mk.injEq] at h
    obtain ⟨rfl, rfl, rfl, rfl⟩ := h
    exact hk
  | o :: l, tr, fr, H, nx, tr', fr', H', nx', h, hk => by
    unfold evOps at h
    unfold vOps
    simp only [force_eq, forceL_eq, forceD_eq]
    have run : ∀ {r : Out}, o.op.operands.toList.all constOk = true → (match o.op with
          | .call { callee := .value fv, args := args, argTypes := _ } => match envF fr fv with
            | .clo f caps k => if callable P f = true then call f (caps.take k ++ args.toList.map (envF fr) ++ caps.drop k) H nx else none
            | _ => none
          | _ => evStep P T (envF fr) H nx o : Option Out) = some r → (r.ok = true ∧ newOk H nx r.δ = true) → evOps P T call n ops l (tr ++ [(r.D, r.δ.map Prod.fst)]) (setDst n fr o.dst r.v) (H.upd r.δ) (nextId nx r.δ) = some (tr', fr', H', nx') →
        Ck (o.op.operands.toList.all constOk) (stepN P T (envF fr) H nx o fun r => Ck (newOk H nx r.δ) (letOut o.op r.v fun v => letDel o.op r.δ fun δ => vOps P T n ops K l (tr ++ [(r.D, δ.map Prod.fst)]) (setDst n fr o.dst v) (H.upd δ) (nextId nx δ))) := by
      intro r hc hr hok hrest
      have tail := evOps_sound hcall l _ _ _ _ hrest hk
      have lett : ∀ (K' : AV → Prop), K' r.v → letOut o.op r.v K' := by
        intro K' hK
        unfold letOut
        split
        · exact ⟨_, rfl, hK⟩
        · exact ⟨_, rfl, hK⟩
        · split
          · rename_i hv; rw [hv] at hK; rw [forceEs_eq]; exact hK
          · exact hK
        · exact ⟨_, rfl, hK⟩
        · exact ⟨_, rfl, hK⟩
        · split
          · rename_i e off hv; rw [hv] at hK; exact ⟨_, rfl, hK⟩
          · exact hK
        all_goals first
          | exact hK
          | (split
             · rename_i k m hv; rw [hv] at hK; exact ⟨_, rfl, hK⟩
             · rename_i m hv; rw [hv] at hK; exact ⟨_, rfl, hK⟩
             · exact hK)
          | (split
             · rename_i k m hv; rw [hv] at hK; exact ⟨_, rfl, hK⟩
             · exact hK)
      refine ⟨hc, ?_⟩
      split at hr
      · rename_i fv args tys ho
        unfold stepN
        rw [ho] at lett
        simp only [ho] at lett ⊢
        split at hr
        · rename_i f caps k hf
          split at hr
          · rename_i hcal
            rw [hf]
            exact .mk hcal ⟨r, hcall _ _ _ _ _ hr, ⟨hok.2, lett _ (letDel_of tail)⟩⟩
          · cases hr
        · cases hr
      · rename_i hno
        have fin : ∀ {K' : Out → Prop}, K' r → stepN P T (envF fr) H nx o K' := by
          intro K' hk'
          have last : astep T (envF fr) H nx o = some r → (match astep T (envF fr) H nx o with | some r => As r.ok (K' r) | none => False) := by
            intro h; rw [h]; exact ⟨hok.1, hk'⟩
          unfold evStep at hr
          unfold stepN
          split at hr
          · rename_i ho; simp only [ho]; exact evMap_spec hr hok.1 hk'
          · rename_i ho; simp only [ho]; exact evMap_spec hr hok.1 hk'
          · rename_i ho; simp only [ho]; exact evMap_spec hr hok.1 hk'
          · rename_i ho; simp only [ho]; exact evMap_spec hr hok.1 hk'
          · rename_i ho; simp only [ho]; exact evMap_spec hr hok.1 hk'
          · rename_i s d x ho
            split at hr
            · rename_i ok es D hq
              split at hr
              · rename_i hok'
                split at hr
                · rename_i ns hns
                  injection hr with hr; subst hr
                  simp only [ho, convN, hq]
                  exact ⟨hok', ⟨ns, hns, hk'⟩⟩
                · cases hr
              · cases hr
            · rename_i hq
              have := last hr
              simp only [ho, convN, hq]
              exact this
          · rename_i h1 h2 h3 h4 h5 h6
            split
            · rename_i fv args tys ho; exact absurd ho (hno _ _ _)
            · rename_i ho; exact absurd ho (h1 _ _ _ _)
            · rename_i ho; exact absurd ho (h2 _ _ _ _)
            · rename_i ho; exact absurd ho (h3 _ _ _ _)
            · rename_i ho; exact absurd ho (h4 _ _ _)
            · rename_i ho; exact absurd ho (h5 _ _)
            · rename_i ho; exact absurd ho (h6 _ _ _)
            · exact last hr
        exact fin ⟨hok.2, lett _ (letDel_of tail)⟩
    cases hg : guardOf ops fr o with
    | none => rw [hg] at h; cases h
    | some gd =>
      rw [hg] at h
      have exec : ∀ {A : Option (List Info × Fr × AH × Nat)}, A = some (tr', fr', H', nx') → A = (if o.op.operands.toList.all constOk = true then
        match (match o.op with
          | .call { callee := .value fv, args := args, argTypes := _ } => match envF fr fv with
            | .clo f caps k => if callable P f = true then call f (caps.take k ++ args.toList.map (envF fr) ++ caps.drop k) H nx else none
            | _ => none
          | _ => evStep P T (envF fr) H nx o : Option Out) with
        | some r => if r.ok = true ∧ newOk H nx r.δ = true then evOps P T call n ops l (tr ++ [(r.D, r.δ.map Prod.fst)]) (setDst n fr o.dst r.v) (H.upd r.δ) (nextId nx r.δ) else none
        | none => none
      else none) → Ck (o.op.operands.toList.all constOk) (stepN P T (envF fr) H nx o fun r => Ck (newOk H nx r.δ) (letOut o.op r.v fun v => letDel o.op r.δ fun δ => vOps P T n ops K l (tr ++ [(r.D, δ.map Prod.fst)]) (setDst n fr o.dst v) (H.upd δ) (nextId nx δ))) := by
        intro A hA hA2
        rw [hA2] at hA
        split at hA
        · rename_i hc
          split at hA
          · rename_i r hr
            split at hA
            · rename_i hok
              exact run hc hr hok hA
            · cases hA
          · cases hA
        · cases hA
      cases gd with
      | none => exact exec h rfl
      | some b =>
        cases b with
        | false =>
          exact .pass rfl (evOps_sound hcall l _ _ _ _ h hk)
        | true => exact .run rfl (exec h rfl)
include hT hm in
theorem evC_sound {call : FuncId → List AV → AH → Nat → Option Out} (hcall : ∀ f ws H nx r, call f ws H nx = some r → ACalls P f ws H r) {p n : Nat} : ∀ (k : Nat) (c : Code) (s : AS) {e : Exit} {s' : AS}, evC P T call p n k c s = some (e, s') → HB s.H s.nx → ARuns P p n c s e s' ∧ HB s'.H s'.nx ∧ ∀ c0, c = .loop c0 → AIter P p n c0 s e s'
  | 0, c, s, e, s', h, _ => by simp [evC] at h
  | k + 1, c, s, e, s', h, hB => by
    have ih := evC_sound hcall (p := p) (n := n) k
    unfold evC at h
    split at h
    · injection h with h; injection h with a b; subst a b; exact ⟨ARuns.skip, hB, fun _ h => by cases h⟩
    · rename_i x y
      split at h
      · rename_i s1 h1
        obtain ⟨a1, b1, _⟩ := ih x s h1 hB
        obtain ⟨a2, b2, _⟩ := ih y s1 h b1
        exact ⟨a1.seq a2, b2, fun _ h => by cases h⟩
      · rename_i hne
        have hne' : e ≠ .normal := by rintro rfl; exact hne _ h
        obtain ⟨a1, b1, _⟩ := ih x s h hB
        exact ⟨ARuns.seq_out hne' a1, b1, fun _ h => by cases h⟩
    · rename_i o x y
      split at h
      · rename_i hc
        split at h
        · rename_i hb
          obtain ⟨a1, b1, _⟩ := ih x s h hB
          exact ⟨ARuns.cond hb hc (by simpa using a1), b1, fun _ h => by cases h⟩
        · rename_i hb
          obtain ⟨a1, b1, _⟩ := ih y s h hB
          exact ⟨ARuns.cond hb hc (by simpa using a1), b1, fun _ h => by cases h⟩
        · cases h
      · cases h
    · rename_i id c
      split at h
      · rename_i id' s1 h1
        obtain ⟨a1, b1, _⟩ := ih c s h1 hB
        split at h
        · rename_i he; subst he; injection h with h; injection h with a b; subst a b; exact ⟨ARuns.block_exit a1, b1, fun _ h => by cases h⟩
        · rename_i he; injection h with h; injection h with a b; subst a b; exact ⟨ARuns.block_exit_other he a1, b1, fun _ h => by cases h⟩
      · rename_i s1 h1
        obtain ⟨a1, b1, _⟩ := ih c s h1 hB
        injection h with h; injection h with a b; subst a b; exact ⟨ARuns.block_normal a1, b1, fun _ h => by cases h⟩
      · rename_i s1 h1
        obtain ⟨a1, b1, _⟩ := ih c s h1 hB
        injection h with h; injection h with a b; subst a b; exact ⟨ARuns.block_ret a1, b1, fun _ h => by cases h⟩
      · cases h
    · injection h with h; injection h with a b; subst a b; exact ⟨ARuns.exit, hB, fun _ h => by cases h⟩
    · injection h with h; injection h with a b; subst a b; exact ⟨ARuns.ret, hB, fun _ h => by cases h⟩
    · rename_i id ops draw
      split at h
      · rename_i hp
        split at h
        · rename_i tr fr H nx h1
          split at h
          · rename_i hd
            injection h with h; injection h with a b; subst a b
            have hv : V P T p n (.region id ops draw) s (fun e1 s1 => e1 = .normal ∧ s1 = ⟨fr, H, nx⟩) := by
              unfold V
              exact Ck.mk (by simpa using hp) (evOps_sound hcall ops.toList [] _ _ _ h1 ⟨hd, rfl, rfl⟩)
            obtain ⟨e1, s1, h2, h3, rfl, rfl⟩ := V_sound hT hm _ s _ hv hB
            exact ⟨h2, h3, fun _ h => by cases h⟩
          · cases h
        · cases h
      · cases h
    · rename_i c
      split at h
      · rename_i s1 h1
        obtain ⟨a1, b1, _⟩ := ih c s h1 hB
        obtain ⟨_, b2, it⟩ := ih (.loop c) s1 h b1
        have it2 : AIter P p n c s e s' := .more a1 (it c rfl)
        exact ⟨ARuns.loop it2, b2, fun c0 hc => by injection hc with hc; subst hc; exact it2⟩
      · rename_i hne
        have hne' : e ≠ .normal := by rintro rfl; exact hne _ h
        obtain ⟨a1, b1, _⟩ := ih c s h hB
        exact ⟨ARuns.loop (.out hne' a1), b1, fun c0 hc => by injection hc with hc; subst hc; exact .out hne' a1⟩
    · cases h

include hT hm in
theorem evF_sound : ∀ (k : Nat) (f : FuncId) (ws : List AV) (H : AH) (nx : Nat) (r : Out), evF P T k f ws H nx = some r → ACalls P f ws H r
  | 0, f, ws, H, nx, r, h => by simp [evF] at h
  | k + 1, f, ws, H, nx, r, h => by
    have ih := evF_sound k
    unfold evF at h
    simp only [] at h
    generalize hids : reach H 10000 (AV.idsL ws) [] = ids at h
    split at h
    · cases h
    rename_i fn hfn
    split at h
    · cases h
    rename_i c hc
    split at h
    · cases h
    rename_i e s' hev
    split at h
    · cases h
    rename_i b rv hres
    generalize hlive : reach s'.H 10000 ((tupled rv).ids ++ List.range ids.length) [] = live at h
    rw [Option.ite_none_right_eq_some] at h
    obtain ⟨hchk, h⟩ := h
    injection h with h
    obtain ⟨rfl, k1, k2, k3, k4, k5, k6, k7, k8, k9, k10, k11, k12⟩ := hchk
    obtain ⟨a1, _, _⟩ := evC_sound hT hm (fun f ws H nx r h => ih f ws H nx r h) 1000000 c _ hev (HB.of_all k3)
    have he : e = .ret ∨ e = .normal := by cases e <;> simp at k1 <;> simp
    have hfun := AFun.of_body hT hfn hc (of_decide_eq_true k2) he a1 hres rfl rfl
    have hfun2 := hfun.forget (H' := s'.H.filter fun x => live.contains x.1) fun id B hB => filter_get k4 hB
    subst h
    have hinv : ∀ i, ids.contains i = true → (fun j => if j < ids.length then ids.getD j 0 else nx + (((s'.H.filter fun x => live.contains x.1).map Prod.fst).filter fun i => !decide (i < ids.length)).idxOf j) (ids.idxOf i) = i := by
      intro i hi
      have hm' : i ∈ ids := by simpa using hi
      have hlt := List.idxOf_lt_length_of_mem hm'
      simp only [if_pos hlt]
      rw [List.getD_eq_getElem?_getD, List.getElem?_eq_getElem hlt]
      simp
    refine ACalls.of_fun _ hfun2 (CallOk.mk' k5 ?_ k6 k7 k8 k9 ?_)
    · exact (renL_renL hinv k10).symm
    · -- the blocks are there
      have : ∀ (l : List (Nat × Nat)), (∀ x ∈ l, ids[x.2]? = some x.1) → haveAll (fun j => if j < ids.length then ids.getD j 0 else nx + (((s'.H.filter fun x => live.contains x.1).map Prod.fst).filter fun i => !decide (i < ids.length)).idxOf j) H (l.filterMap fun x => (H.get x.1).map fun b => (x.2, b.ren fun id => ids.idxOf id)) := by
        intro l
        induction l with
        | nil => intro _; trivial
        | cons x l ihl =>
          intro hl
          obtain ⟨id, i⟩ := x
          have hx := hl (id, i) (by simp)
          have hmem : id ∈ ids := List.mem_of_getElem? hx
          have hblk := List.all_eq_true.1 k11 id hmem
          cases hB : H.get id with
          | none => rw [hB] at hblk; cases hblk
          | some B =>
            rw [hB] at hblk
            simp only [List.filterMap_cons, hB, Option.map_some]
            refine ⟨?_, ihl fun y hy => hl y (by simp [hy])⟩
            have hlt := (List.getElem?_eq_some_iff.1 hx).1
            simp only [if_pos hlt]
            rw [List.getD_eq_getElem?_getD, hx, Option.getD_some, hB]
            congr 1
            exact (blk_ren_ren hinv hblk).symm
      refine this _ fun x hx => ?_
      have := List.mem_zipIdx hx
      obtain ⟨h1, h2, h3⟩ := this
      simp only [Nat.sub_zero, Nat.zero_add] at h2 h3
      rw [List.getElem?_eq_getElem (by omega), h3]
end
end Go.Proofs.Ytjnmbmdplchfkaa.Am
