/- The owned machine, part MP: maps that are owned. -/
import Derived.Test.YtjnmbmdplchfkaaAmEQ
import Derived.Maps.Keyed
import Derived.DeepKeys4
import Derived.IntWalk
import Derived.Laws.BytesString
set_option linter.all false
namespace Go.Proofs.Ytjnmbmdplchfkaa.Am
variable [Lo]
open Go.Maps Go.ChangeMaps
set_option linter.unusedVariables false
set_option linter.unusedSimpArgs false

def AV.valL : List AV → Option (List Value)
  | [] => some []
  | .sc v :: l => match AV.valL l with | some r => some (v :: r) | none => none
  | _ :: _ => none
/-- A value that is known whole. -/
def AV.val : AV → Option Value
  | .sc v => some v
  | .agg cs => match AV.valL cs with | some l => some (.agg l.toArray) | none => none
  | _ => none
theorem valL_cv {w : World} {g : Gh} : ∀ {cs : List AV} {l : List Value} {xs : List Value}, AV.valL cs = some l → cs.length = xs.length → (∀ (i : Nat) (c : AV) (x : Value), cs[i]? = some c → xs[i]? = some x → Cv w g c x) → xs = l
  | [], l, xs, h, hl, _ => by
    simp [AV.valL] at h; subst h
    exact List.eq_nil_of_length_eq_zero hl.symm
  | c :: cs, l, [], h, hl, _ => by simp at hl
  | c :: cs, l, x :: xs, h, hl, hc => by
    cases c <;> simp only [AV.valL] at h
    case sc v =>
      split at h
      · rename_i r hr
        injection h with h; subst h
        have h1 := (hc 0 _ x rfl rfl).sc_inv
        have h2 := valL_cv hr (by simpa using hl) fun i c y hi hy => hc (i + 1) c y (by simpa using hi) (by simpa using hy)
        rw [h1, h2]
      · cases h
    all_goals cases h
theorem AV.val_cv {w : World} {g : Gh} {a : AV} {x v : Value} (h : Cv w g a x) (hv : a.val = some v) : x = v := by
  cases a <;> simp only [AV.val] at hv
  case sc u => injection hv with hv; subst hv; exact h.sc_inv
  case agg cs =>
    split at hv
    · rename_i l hl
      injection hv with hv; subst hv
      cases h with
      | agg h1 h2 =>
        rename_i xs
        have := valL_cv (xs := xs.toList) hl (by simpa using h1) fun i c y hi hy => h2 i c y hi (by simpa using hy)
        rw [← this]
    · cases hv
  all_goals cases hv

/-- The key's type and the entry of the element's type. -/
def mapT (T : TT) (t : TypeId) : Option (TypeId × TI) :=
  match (T.get t).map TI.k with
  | some (.map k e) => match T.get k, T.get e with
    | some tk, some te => if tk.keyed = true then some (k, te) else none
    | _, _ => none
  | _ => none
theorem mapT_spec {P : Program} {T : TT} (hT : T.Ok P) {t kt : TypeId} {te : TI} (h : mapT T t = some (kt, te)) : ∃ e, P.underlying t = some (.map kt e) ∧ T.get e = some te ∧ Keyed P kt := by
  unfold mapT at h
  split at h
  · rename_i k e hk
    split at h
    · rename_i tk te' h1 h2
      split at h
      · rename_i hke
        injection h with h; injection h with a b; subst a b
        obtain ⟨ti, hti, hk⟩ := Option.map_eq_some_iff.1 hk
        exact ⟨e, hT.map hti hk, h2, (hT.at_ h1).2.2.2 hke⟩
      · cases h
    · cases h
  · cases h
def keyB (P : Program) (kt : TypeId) (v : Value) : Bool := (keyOf P kt v).isSome
/-- A key is at this place, or nowhere. -/
def findOk (kv : List (Value × AV)) (key : Value) : Option Nat → Prop
  | none => ∀ x ∈ kv, x.1 ≠ key
  | some i => ∃ v, kv[i]? = some (key, v)
/-- What an operation asks of a map. -/
structure MReq where
  kt : TypeId
  key : Value
  kv : List (Value × AV)
  out : Option Nat → Option Out
def kvAt (kv : List (Value × AV)) (i : Nat) : AV := (kv.getD i (undef, .unk)).2
def mapReq (T : TT) (H : AH) (env : Operand → AV) : Op → Option MReq
  | .lookup t m k ok => match env m, (env k).val, mapT T t with
    | .mp id, some key, some (kt, te) => match H.get id with
      | some (.map ck kv) => some ⟨kt, key, kv, fun r => match r with
        | none => some { ok := zeroOk te, v := if ok then .tup [ofVal te.zero, .sc (.bool false)] else ofVal te.zero, D := [id] }
        | some i => some { v := if ok then .tup [kvAt kv i, .sc (.bool true)] else kvAt kv i, D := [id] }⟩
      | _ => none
    | _, _, _ => none
  | .mapUpdate t m k x | .insert t m k x => match env m, (env k).val, mapT T t with
    | .mp id, some key, some (kt, te) => match H.get id with
      | some (.map ck kv) => some ⟨kt, key, kv, fun r => match r with
        | none => some { v := .sc undef, δ := [(id, some (.map (ck + 1) (kv ++ [(key, env x)])))], D := [id] }
        | some i => some { v := .sc undef, δ := [(id, some (.map ck (kv.set i (key, env x))))], D := [id] }⟩
      | _ => none
    | _, _, _ => none
  | .mapEntry t m k => match env m, (env k).val, mapT T t with
    | .mp id, some key, some (kt, te) => match H.get id with
      | some (.map ck kv) => some ⟨kt, key, kv, fun r => match r with
        | none => some { ok := zeroOk te, v := .tup [ofVal te.zero, .sc (.int .i64 ck)], δ := [(id, some (.map (ck + 1) (kv ++ [(key, ofVal te.zero)])))], D := [id] }
        | some i => some { ok := ck == kv.length, v := .tup [kvAt kv i, .sc (.int .i64 i)], δ := [(id, some (.map ck kv))], D := [id] }⟩
      | _ => none
    | _, _, _ => none
  | .call { callee := .builtin .delete, args := args, argTypes := tys } => match args.toList, tys.toList with
    | [m, k], t :: _ => match env m, (env k).val, mapT T t with
      | .mp id, some key, some (kt, te) => match H.get id with
        | some (.map ck kv) => some ⟨kt, key, kv, fun r => match r with
          | none => some { v := .tup [], δ := [(id, some (.map ck kv))], D := [id] }
          | some i => some { v := .tup [], δ := [(id, some (.map ck (kv.eraseIdx i)))], D := [id] }⟩
        | _ => none
      | _, _, _ => none
    | _, _ => none
  | _ => none

section
variable {P : Program} {T : TT} (hT : T.Ok P) {o : Oper} {env : Operand → AV} {H : AH} {r : Out}

/-- Where the key is found. -/
theorem find_run {kt : TypeId} (K : Keyed P kt) {w : World} {g : Gh} {kv : List (Value × AV)} {ents : Array MapEntry} {key : Value} {r : Option Nat} (hl : kv.length = ents.size) (hk : ∀ (i : Nat) (k : Value) (v : AV) (e : MapEntry), kv[i]? = some (k, v) → ents[i]? = some e → e.key = k ∧ Cv w g v e.val)
    (hnd : (kv.map Prod.fst).Nodup) (hkey : keyB P kt key = true) (hkeys : (kv.all fun x => keyB P kt x.1) = true) (hr : findOk kv key r) :
    match r with
    | none => (Instr.findKey kt key ents.toList).run P w = .ok none w ∧ ∀ (i : Nat) (e : MapEntry), ents[i]? = some e → e.key ≠ key
    | some i => ∃ e, ents[i]? = some e ∧ e.key = key ∧ (Instr.findKey kt key ents.toList).run P w = .ok (some (i, e.val)) w := by
  obtain ⟨kl, hkl⟩ := Option.isSome_iff_exists.1 hkey
  have at_ : ∀ (i : Nat) (e : MapEntry), ents[i]? = some e → ∃ v, kv[i]? = some (e.key, v) := by
    intro i e he
    have hi : i < kv.length := by rw [hl]; exact (Array.getElem?_eq_some_iff.1 he).1
    have h1 : kv[i]? = some (kv[i].1, kv[i].2) := List.getElem?_eq_getElem hi
    rw [(hk i _ _ e h1 he).1]
    exact ⟨_, h1⟩
  have keys : ∀ e ∈ ents.toList, ∃ l, keyOf P kt e.key = some l := by
    intro e he
    obtain ⟨i, hi⟩ := List.getElem?_of_mem he
    obtain ⟨v, hv⟩ := at_ i e (by simpa using hi)
    exact Option.isSome_iff_exists.1 (List.all_eq_true.1 hkeys _ (List.mem_of_getElem? hv))
  rcases K.find w hkl ents.toList keys with ⟨h1, h2⟩ | ⟨j, e, h1, h2, h3⟩
  · cases r with
    | none => exact ⟨h1, fun i e he => h2 e (List.mem_of_getElem? (l := ents.toList) (i := i) (by simpa using he))⟩
    | some i =>
      obtain ⟨v, hv⟩ := hr
      have hi : i < ents.size := by rw [← hl]; exact (List.getElem?_eq_some_iff.1 hv).1
      have he : ents[i]? = some ents[i] := Array.getElem?_eq_getElem hi
      exact absurd (hk i key v _ hv he).1 (h2 _ (by simp))
  · have hj : ents[j]? = some e := by simpa using h2
    obtain ⟨v, hv⟩ := at_ j e hj
    cases r with
    | none => exact absurd h3 (hr _ (List.mem_of_getElem? hv))
    | some i =>
      obtain ⟨v', hv'⟩ := hr
      have hij : i = j := by
        have hi := (List.getElem?_eq_some_iff.1 hv').1
        have hj' := (List.getElem?_eq_some_iff.1 hv).1
        have e1 : (kv.map Prod.fst)[i]? = some key := by rw [List.getElem?_map, hv']; rfl
        have e2 : (kv.map Prod.fst)[j]? = some key := by rw [List.getElem?_map, hv]; simp [h3]
        exact (List.getElem?_inj (by simpa using hi) hnd).1 (by rw [e1, e2])
      subst hij
      exact ⟨e, hj, h3, h1⟩

theorem Mono.putmap {w : World} {g : Gh} {b ck ck' : Nat} {es es' : Array MapEntry} (h : w.heap[b]? = some (.map es ck)) (hI : ¬ g.I b) : Mono w g (Am.put w b (.map es' ck')) g := by
  refine ⟨fun _ _ h => h, fun c hc => ⟨hc, ?_⟩, fun c cs ty fz hc => ⟨cs, ?_, rfl⟩⟩
  · rw [put_get, if_neg]
    rintro ⟨rfl, _⟩; exact hI hc
  · rw [put_get, if_neg]
    · exact hc
    · rintro ⟨rfl, _⟩; rw [h] at hc; cases hc
theorem born_idx {ents : Array MapEntry} {ck : Nat} (h1 : ∀ (i j : Nat) (e f : MapEntry), i < j → ents[i]? = some e → ents[j]? = some f → e.born < f.born) (h2 : ∀ (i : Nat) (e : MapEntry), ents[i]? = some e → e.born < ck) (hc : ck = ents.size) : ∀ (i : Nat) (e : MapEntry), ents[i]? = some e → e.born = i := by
  have lo : ∀ (i : Nat) (e : MapEntry), ents[i]? = some e → i ≤ e.born := by
    intro i
    induction i with
    | zero => intro e _; exact Nat.zero_le _
    | succ i ih =>
      intro e he
      have hi := (Array.getElem?_eq_some_iff.1 he).1
      have he' : ents[i]? = some ents[i] := Array.getElem?_eq_getElem (by omega)
      have := ih _ he'
      have := h1 i (i + 1) _ e (by omega) he' he
      omega
  have hi' : ∀ (d i : Nat) (e : MapEntry), i + d + 1 = ents.size → ents[i]? = some e → e.born + d < ck := by
    intro d
    induction d with
    | zero => intro i e _ he; exact h2 i e he
    | succ d ih =>
      intro i e hs he
      have he' : ents[i + 1]? = some ents[i + 1] := Array.getElem?_eq_getElem (by omega)
      have := ih (i + 1) _ (by omega) he'
      have := h1 i (i + 1) e _ (by omega) he he'
      omega
  intro i e he
  have hlt := (Array.getElem?_eq_some_iff.1 he).1
  have a := lo i e he
  have b := hi' (ents.size - i - 1) i e (by omega) he
  omega
theorem run_unit {P : Program} {s : Sem Unit} {w w' : World} (h : s.run P w = .ok () w') : (do s; pure .skip : Sem Next).run P w = .ok .skip w' := by
  show (Sem.bind s _).run P w = _
  rw [run_bind h]; rfl
/-- What is known of the block of a map. -/
theorem map_blk {w : World} {g : Gh} {H : AH} (hH : HRel w g H) {id ck : Nat} {kv : List (Value × AV)} (hB : H.get id = some (.map ck kv)) {x : Value} (hx : Cv w g (.mp id) x) :
    ∃ b ents, x = .map (some b) ∧ g.φ id = some (b, 0) ∧ w.heap[b]? = some (.map ents ck) ∧ ¬ g.I b ∧ kv.length = ents.size ∧ (∀ (i : Nat) (k : Value) (v : AV) (e : MapEntry), kv[i]? = some (k, v) → ents[i]? = some e → e.key = k ∧ Cv w g v e.val) ∧
      (∀ (i j : Nat) (e f : MapEntry), i < j → ents[i]? = some e → ents[j]? = some f → e.born < f.born) ∧ (∀ (i : Nat) (e : MapEntry), ents[i]? = some e → e.born < ck) ∧ (kv.map Prod.fst).Nodup := by
  cases hx with
  | mp hφ =>
    obtain ⟨b, en, h1, h2, h3⟩ := hH.rel id _ hB
    rw [hφ] at h1; injection h1 with h1; injection h1 with h1 h1'; subst h1 h1'
    exact ⟨_, en, rfl, hφ, h2, hH.imm id _ _ _ hB hφ, h3⟩
/-- A map turned. -/
theorem map_put {w : World} {g : Gh} {H : AH} (hH : HRel w g H) {id b ck ck' : Nat} {kv kv' : List (Value × AV)} {ents ents' : Array MapEntry} (hB : H.get id = some (.map ck kv)) (hφ : g.φ id = some (b, 0)) (hb : w.heap[b]? = some (.map ents ck)) (hI : ¬ g.I b)
    (hl : kv'.length = ents'.size) (hk : ∀ (i : Nat) (k : Value) (v : AV) (e : MapEntry), kv'[i]? = some (k, v) → ents'[i]? = some e → e.key = k ∧ Cv w g v e.val) (h1 : ∀ (i j : Nat) (e f : MapEntry), i < j → ents'[i]? = some e → ents'[j]? = some f → e.born < f.born)
    (h2 : ∀ (i : Nat) (e : MapEntry), ents'[i]? = some e → e.born < ck') (hnd : (kv'.map Prod.fst).Nodup) {v : AV} {x : Value} (hv : Cv w g v x) : Post w g H v [(id, some (.map ck' kv'))] x (Am.put w b (.map ents' ck')) := by
  have m : Mono w g (Am.put w b (.map ents' ck')) g := Mono.putmap hb hI
  refine Post.put (B' := .map ck' kv') hH hB hφ m ⟨b, ents', hφ, ?_, hl, fun i k v e hi he => ⟨(hk i k v e hi he).1, (hk i k v e hi he).2.mono m⟩, h1, h2, hnd⟩ (hv.mono m)
  rw [put_get, if_pos ⟨rfl, heap_lt hb⟩]
theorem zero_cv {w : World} {g : Gh} {te : TI} (h : zeroOk te = true) : Cv w g (ofVal te.zero) te.zero := by
  have hz := zero_cells (w := w) (g := g) h
  cases hzz : te.zero <;> rw [hzz] at hz <;> first
    | exact .sc _ rfl
    | (simp only [ofVal] at hz ⊢; exact .agg hz.1 hz.2)
theorem born_push {ents : Array MapEntry} {ck : Nat} {key val : Value} (h1 : ∀ (i j : Nat) (e f : MapEntry), i < j → ents[i]? = some e → ents[j]? = some f → e.born < f.born) (h2 : ∀ (i : Nat) (e : MapEntry), ents[i]? = some e → e.born < ck) :
    (∀ (i j : Nat) (e f : MapEntry), i < j → (ents.push ⟨key, val, ck⟩)[i]? = some e → (ents.push ⟨key, val, ck⟩)[j]? = some f → e.born < f.born) ∧ (∀ (i : Nat) (e : MapEntry), (ents.push ⟨key, val, ck⟩)[i]? = some e → e.born < ck + 1) := by
  refine ⟨fun i j e f hij he hf => ?_, fun i e he => ?_⟩
  · rw [Array.getElem?_push] at he hf
    split at hf
    · injection hf with hf; subst hf
      rw [if_neg (by omega)] at he
      exact h2 i e he
    · have := (Array.getElem?_eq_some_iff.1 hf).1
      rw [if_neg (by omega)] at he
      exact h1 i j e f hij he hf
  · rw [Array.getElem?_push] at he
    split at he
    · injection he with he; subst he; exact Nat.lt_succ_self _
    · have := h2 i e he; omega
theorem born_modify {ents : Array MapEntry} {i0 ck : Nat} {f : MapEntry → MapEntry} (hf : ∀ e, (f e).born = e.born) (h1 : ∀ (i j : Nat) (e f : MapEntry), i < j → ents[i]? = some e → ents[j]? = some f → e.born < f.born) (h2 : ∀ (i : Nat) (e : MapEntry), ents[i]? = some e → e.born < ck) :
    (∀ (i j : Nat) (e f' : MapEntry), i < j → (ents.modify i0 f)[i]? = some e → (ents.modify i0 f)[j]? = some f' → e.born < f'.born) ∧ (∀ (i : Nat) (e : MapEntry), (ents.modify i0 f)[i]? = some e → e.born < ck) := by
  have at_ : ∀ (i : Nat) (e : MapEntry), (ents.modify i0 f)[i]? = some e → ∃ e0, ents[i]? = some e0 ∧ e.born = e0.born := by
    intro i e he
    rw [Array.getElem?_modify] at he
    split at he
    · obtain ⟨e0, h0, rfl⟩ := Option.map_eq_some_iff.1 he
      exact ⟨e0, h0, hf e0⟩
    · exact ⟨e, he, rfl⟩
  refine ⟨fun i j e f' hij he hf' => ?_, fun i e he => ?_⟩
  · obtain ⟨e0, a, b⟩ := at_ i e he
    obtain ⟨f0, c, d⟩ := at_ j f' hf'
    rw [b, d]; exact h1 i j e0 f0 hij a c
  · obtain ⟨e0, a, b⟩ := at_ i e he
    rw [b]; exact h2 i e0 a
theorem kv_push {w : World} {g : Gh} {kv : List (Value × AV)} {ents : Array MapEntry} {key val : Value} {v : AV} {ck : Nat} (hl : kv.length = ents.size) (hk : ∀ (i : Nat) (k : Value) (v : AV) (e : MapEntry), kv[i]? = some (k, v) → ents[i]? = some e → e.key = k ∧ Cv w g v e.val) (hv : Cv w g v val) :
    (kv ++ [(key, v)]).length = (ents.push ⟨key, val, ck⟩).size ∧ ∀ (i : Nat) (k : Value) (u : AV) (e : MapEntry), (kv ++ [(key, v)])[i]? = some (k, u) → (ents.push ⟨key, val, ck⟩)[i]? = some e → e.key = k ∧ Cv w g u e.val := by
  refine ⟨by simp [hl], fun i k u e hi he => ?_⟩
  rw [List.getElem?_append] at hi
  rw [Array.getElem?_push] at he
  split at hi
  · rename_i hlt
    rw [if_neg (by omega)] at he
    exact hk i k u e hi he
  · rename_i hge
    have : i = kv.length := by
      have := (List.getElem?_eq_some_iff.1 hi).1
      simp at this; omega
    subst this
    rw [if_pos hl] at he
    simp at hi
    injection he with he; subst he
    obtain ⟨rfl, rfl⟩ := hi
    exact ⟨rfl, hv⟩
theorem kv_nodup {kv : List (Value × AV)} {key : Value} {v : AV} (hnd : (kv.map Prod.fst).Nodup) (h : ∀ x ∈ kv, x.1 ≠ key) : ((kv ++ [(key, v)]).map Prod.fst).Nodup := by
  rw [List.map_append, List.nodup_append]
  refine ⟨hnd, by simp, fun a ha b hb => ?_⟩
  simp at hb; subst hb
  obtain ⟨x, hx, rfl⟩ := List.mem_map.1 ha
  exact h x hx
theorem kv_set {w : World} {g : Gh} {kv : List (Value × AV)} {ents : Array MapEntry} {key val : Value} {v : AV} {i0 : Nat} (hl : kv.length = ents.size) (hk : ∀ (i : Nat) (k : Value) (v : AV) (e : MapEntry), kv[i]? = some (k, v) → ents[i]? = some e → e.key = k ∧ Cv w g v e.val) (hv : Cv w g v val) {f : MapEntry → MapEntry} (hf : ∀ e, ents[i0]? = some e → (f e).key = key ∧ (f e).val = val) :
    (kv.set i0 (key, v)).length = (ents.modify i0 f).size ∧ ∀ (i : Nat) (k : Value) (u : AV) (e : MapEntry), (kv.set i0 (key, v))[i]? = some (k, u) → (ents.modify i0 f)[i]? = some e → e.key = k ∧ Cv w g u e.val := by
  refine ⟨by simp [hl], fun i k u e hi he => ?_⟩
  rw [List.getElem?_set] at hi
  rw [Array.getElem?_modify] at he
  by_cases h : i0 = i
  · rw [if_pos h] at hi he
    subst h
    split at hi
    · injection hi with hi; injection hi with a b; subst a b
      obtain ⟨e0, h0, rfl⟩ := Option.map_eq_some_iff.1 he
      obtain ⟨q1, q2⟩ := hf e0 h0
      rw [q1, q2]; exact ⟨rfl, hv⟩
    · cases hi
  · rw [if_neg h] at hi he
    exact hk i k u e hi he
theorem kv_set_fst {kv : List (Value × AV)} {i : Nat} {key : Value} {v u : AV} (h : kv[i]? = some (key, u)) : (kv.set i (key, v)).map Prod.fst = kv.map Prod.fst := by
  rw [List.map_set]
  refine List.ext_getElem? fun j => ?_
  rw [List.getElem?_set]
  split
  · rename_i e; subst e
    rw [List.getElem?_map, h]
    have := (List.getElem?_eq_some_iff.1 h).1
    simp [this]
  · rfl
theorem putmap_eq (w : World) (b : Nat) (o : Obj) : { w with heap := w.heap.setIfInBounds b o } = Am.put w b o := rfl

include hT in
theorem map_sem {q : MReq} {r : Option Nat} {x : Out} (h : mapReq T H env o.op = some q) (hkey : keyB P q.kt q.key = true) (hkeys : (q.kv.all fun x => keyB P q.kt x.1) = true) (hr : findOk q.kv q.key r) (hx : q.out r = some x) (hok : x.ok = true) : OpSemD P o env H x := by
  unfold mapReq at h
  split at h
  · -- lookup
    rename_i t m k ok ho
    split at h
    case h_2 => cases h
    rename_i id key kt te hm hk ht
    split at h
    case h_2 => cases h
    rename_i ck kv hB
    injection h with h; subst h
    obtain ⟨e, hu, hte, K⟩ := mapT_spec hT ht
    simp only at hkey hkeys hr hx
    intro H' hD hfresh w g ρ hρ hH hφ0
    have hD' : H'.get id = H.get id := by
      refine hD id ?_
      cases r <;> (injection hx with hx; subst hx; simp)
    have hcm := hρ m (by simp [ho, Op.operands])
    have hck := hρ k (by simp [ho, Op.operands])
    rw [hm] at hcm
    have hkv := AV.val_cv hck hk
    obtain ⟨b, ents, em, hφ, hb, hI, hl, hkk, h1, h2, hnd⟩ := map_blk hH (hD'.trans hB) hcm
    have hf := find_run K (w := w) hl hkk hnd hkey hkeys hr
    obtain ⟨kl, hkl⟩ := Option.isSome_iff_exists.1 hkey
    unfold OpOK
    cases r with
    | none =>
      injection hx with hx; subst hx
      simp only at hok
      have hrun : (execOp ρ o).run P w = .ok (.value (if ok then .tuple #[te.zero, .bool false] else te.zero)) w := by
        simp only [execOp, ho, em, hkv]
        refine run_value ?_
        simp [Instr.lookup, underlying_run hu, run_bind, MapKept.run_getObj_map hb, K.check w _ hkl, hf.1, hT.zero hte, Result.andThen]
      rw [hrun]
      refine Post.pure hH ?_
      have hzc : Cv w g (ofVal te.zero) te.zero := zero_cv hok
      cases ok with
      | false => exact hzc
      | true =>
        refine .tup rfl fun i c y hi hy => ?_
        match i with
        | 0 => simp at hi hy; subst hi hy; exact hzc
        | 1 => simp at hi hy; subst hi hy; exact .sc _ rfl
        | i + 2 => simp at hi
    | some i =>
      injection hx with hx; subst hx
      obtain ⟨e0, he0, hke, hrun0⟩ := hf
      have hrun : (execOp ρ o).run P w = .ok (.value (if ok then .tuple #[e0.val, .bool true] else e0.val)) w := by
        simp only [execOp, ho, em, hkv]
        refine run_value ?_
        simp [Instr.lookup, underlying_run hu, run_bind, MapKept.run_getObj_map hb, K.check w _ hkl, hrun0, Result.andThen]
      rw [hrun]
      refine Post.pure hH ?_
      have hi : i < kv.length := by rw [hl]; exact (Array.getElem?_eq_some_iff.1 he0).1
      have hzc : Cv w g (kvAt kv i) e0.val := by
        have h1 : kv[i]? = some (kv[i].1, kv[i].2) := List.getElem?_eq_getElem hi
        have := (hkk i _ _ e0 h1 he0).2
        unfold kvAt
        rw [List.getD_eq_getElem?_getD, h1]; exact this
      cases ok with
      | false => exact hzc
      | true =>
        refine .tup rfl fun i c y hi hy => ?_
        match i with
        | 0 => simp at hi hy; subst hi hy; exact hzc
        | 1 => simp at hi hy; subst hi hy; exact .sc _ rfl
        | i + 2 => simp at hi
  · -- update
    rename_i t m k xx ho
    split at h
    case h_2 => cases h
    rename_i id key kt te hm hk ht
    split at h
    case h_2 => cases h
    rename_i ck kv hB
    injection h with h; subst h
    obtain ⟨e, hu, hte, K⟩ := mapT_spec hT ht
    simp only at hkey hkeys hr hx
    intro H' hD hfresh w g ρ hρ hH hφ0
    have hD' : H'.get id = H.get id := by
      refine hD id ?_
      cases r <;> (injection hx with hx; subst hx; simp)
    have hcm := hρ m (by simp [ho, Op.operands])
    have hck := hρ k (by simp [ho, Op.operands])
    have hcx := hρ xx (by simp [ho, Op.operands])
    rw [hm] at hcm
    have hkv := AV.val_cv hck hk
    obtain ⟨b, ents, em, hφ, hb, hI, hl, hkk, h1, h2, hnd⟩ := map_blk hH (hD'.trans hB) hcm
    have hf := find_run K (w := w) hl hkk hnd hkey hkeys hr
    obtain ⟨kl, hkl⟩ := Option.isSome_iff_exists.1 hkey
    unfold OpOK
    cases r with
    | none =>
      injection hx with hx; subst hx
      have hrun : (execOp ρ o).run P w = .ok .skip (Am.put w b (.map (ents.push ⟨key, ρ xx, ck⟩) (ck + 1))) := by
        simp only [execOp, ho, em, hkv]
        refine run_unit ?_
        simp [Instr.mapUpdate, underlying_run hu, run_bind, MapKept.run_getObj_map hb, K.check w _ hkl, hf.1, Result.andThen, MapKept.run_setObj_map _ hb, putmap_eq]
      rw [hrun]
      have p := kv_push (ck := ck) (key := key) hl hkk hcx
      have q := born_push (key := key) (val := ρ xx) h1 h2
      exact map_put hH (hD'.trans hB) hφ hb hI p.1 p.2 q.1 q.2 (kv_nodup hnd hr) (.sc _ rfl)
    | some i =>
      injection hx with hx; subst hx
      obtain ⟨e0, he0, hke, hrun0⟩ := hf
      have hrun : (execOp ρ o).run P w = .ok .skip (Am.put w b (.map (ents.modify i fun e => { e with key := key, val := ρ xx }) ck)) := by
        simp only [execOp, ho, em, hkv]
        refine run_unit ?_
        simp [Instr.mapUpdate, underlying_run hu, run_bind, MapKept.run_getObj_map hb, K.check w _ hkl, hrun0, Result.andThen, MapKept.run_setObj_map _ hb, putmap_eq, he0, hke, K.stays w hkl]
      rw [hrun]
      obtain ⟨u, hu'⟩ := hr
      have p := kv_set (i0 := i) (key := key) (f := fun e => { e with key := key, val := ρ xx }) hl hkk hcx (fun e _ => ⟨rfl, rfl⟩)
      have q := born_modify (i0 := i) (f := fun e => { e with key := key, val := ρ xx }) (fun e => rfl) h1 h2
      exact map_put hH (hD'.trans hB) hφ hb hI p.1 p.2 q.1 q.2 (by rw [kv_set_fst hu']; exact hnd) (.sc _ rfl)
  · -- insert
    rename_i t m k xx ho
    split at h
    case h_2 => cases h
    rename_i id key kt te hm hk ht
    split at h
    case h_2 => cases h
    rename_i ck kv hB
    injection h with h; subst h
    obtain ⟨e, hu, hte, K⟩ := mapT_spec hT ht
    simp only at hkey hkeys hr hx
    intro H' hD hfresh w g ρ hρ hH hφ0
    have hD' : H'.get id = H.get id := by
      refine hD id ?_
      cases r <;> (injection hx with hx; subst hx; simp)
    have hcm := hρ m (by simp [ho, Op.operands])
    have hck := hρ k (by simp [ho, Op.operands])
    have hcx := hρ xx (by simp [ho, Op.operands])
    rw [hm] at hcm
    have hkv := AV.val_cv hck hk
    obtain ⟨b, ents, em, hφ, hb, hI, hl, hkk, h1, h2, hnd⟩ := map_blk hH (hD'.trans hB) hcm
    have hf := find_run K (w := w) hl hkk hnd hkey hkeys hr
    obtain ⟨kl, hkl⟩ := Option.isSome_iff_exists.1 hkey
    unfold OpOK
    cases r with
    | none =>
      injection hx with hx; subst hx
      have hrun : (execOp ρ o).run P w = .ok .skip (Am.put w b (.map (ents.push ⟨key, ρ xx, ck⟩) (ck + 1))) := by
        simp only [execOp, ho, em, hkv]
        refine run_unit ?_
        simp [Instr.mapUpdate, underlying_run hu, run_bind, MapKept.run_getObj_map hb, K.check w _ hkl, hf.1, Result.andThen, MapKept.run_setObj_map _ hb, putmap_eq]
      rw [hrun]
      have p := kv_push (ck := ck) (key := key) hl hkk hcx
      have q := born_push (key := key) (val := ρ xx) h1 h2
      exact map_put hH (hD'.trans hB) hφ hb hI p.1 p.2 q.1 q.2 (kv_nodup hnd hr) (.sc _ rfl)
    | some i =>
      injection hx with hx; subst hx
      obtain ⟨e0, he0, hke, hrun0⟩ := hf
      have hrun : (execOp ρ o).run P w = .ok .skip (Am.put w b (.map (ents.modify i fun e => { e with key := key, val := ρ xx }) ck)) := by
        simp only [execOp, ho, em, hkv]
        refine run_unit ?_
        simp [Instr.mapUpdate, underlying_run hu, run_bind, MapKept.run_getObj_map hb, K.check w _ hkl, hrun0, Result.andThen, MapKept.run_setObj_map _ hb, putmap_eq, he0, hke, K.stays w hkl]
      rw [hrun]
      obtain ⟨u, hu'⟩ := hr
      have p := kv_set (i0 := i) (key := key) (f := fun e => { e with key := key, val := ρ xx }) hl hkk hcx (fun e _ => ⟨rfl, rfl⟩)
      have q := born_modify (i0 := i) (f := fun e => { e with key := key, val := ρ xx }) (fun e => rfl) h1 h2
      exact map_put hH (hD'.trans hB) hφ hb hI p.1 p.2 q.1 q.2 (by rw [kv_set_fst hu']; exact hnd) (.sc _ rfl)
  · -- mapEntry
    rename_i t m k ho
    split at h
    case h_2 => cases h
    rename_i id key kt te hm hk ht
    split at h
    case h_2 => cases h
    rename_i ck kv hB
    injection h with h; subst h
    obtain ⟨e, hu, hte, K⟩ := mapT_spec hT ht
    simp only at hkey hkeys hr hx
    intro H' hD hfresh w g ρ hρ hH hφ0
    have hD' : H'.get id = H.get id := by
      refine hD id ?_
      cases r <;> (injection hx with hx; subst hx; simp)
    have hcm := hρ m (by simp [ho, Op.operands])
    have hck := hρ k (by simp [ho, Op.operands])
    rw [hm] at hcm
    have hkv := AV.val_cv hck hk
    obtain ⟨b, ents, em, hφ, hb, hI, hl, hkk, h1, h2, hnd⟩ := map_blk hH (hD'.trans hB) hcm
    have hf := find_run K (w := w) hl hkk hnd hkey hkeys hr
    obtain ⟨kl, hkl⟩ := Option.isSome_iff_exists.1 hkey
    unfold OpOK
    cases r with
    | none =>
      injection hx with hx; subst hx
      simp only at hok
      have hzc : Cv w g (ofVal te.zero) te.zero := zero_cv hok
      have hrun : (execOp ρ o).run P w = .ok (.value (.tuple #[te.zero, .int .i64 ck])) (Am.put w b (.map (ents.push ⟨key, te.zero, ck⟩) (ck + 1))) := by
        simp only [execOp, ho, em, hkv]
        refine run_value ?_
        simp [Instr.mapEntry, underlying_run hu, run_bind, MapKept.run_getObj_map hb, K.check w _ hkl, hf.1, Result.andThen, MapKept.run_setObj_map _ hb, putmap_eq, hT.zero hte, goInt]
      rw [hrun]
      have p := kv_push (ck := ck) (key := key) hl hkk hzc
      have q := born_push (key := key) (val := te.zero) h1 h2
      refine map_put hH (hD'.trans hB) hφ hb hI p.1 p.2 q.1 q.2 (kv_nodup hnd hr) (.tup rfl fun i c y hi hy => ?_)
      match i with
      | 0 => simp at hi hy; subst hi hy; exact hzc
      | 1 => simp at hi hy; subst hi hy; exact .sc _ rfl
      | i + 2 => simp at hi
    | some i =>
      injection hx with hx; subst hx
      simp only [beq_iff_eq] at hok
      obtain ⟨e0, he0, hke, hrun0⟩ := hf
      have hbi := born_idx h1 h2 (by omega) i e0 he0
      have hrun : (execOp ρ o).run P w = .ok (.value (.tuple #[e0.val, .int .i64 i])) (Am.put w b (.map (ents.modify i fun e => { e with key := key }) ck)) := by
        simp only [execOp, ho, em, hkv]
        refine run_value ?_
        simp [Instr.mapEntry, underlying_run hu, run_bind, MapKept.run_getObj_map hb, K.check w _ hkl, hrun0, Result.andThen, MapKept.run_setObj_map _ hb, putmap_eq, he0, hke, K.stays w hkl, goInt, hbi]
      rw [hrun]
      obtain ⟨u, hu'⟩ := hr
      have hi : i < kv.length := by rw [hl]; exact (Array.getElem?_eq_some_iff.1 he0).1
      have hzc : Cv w g u e0.val := (hkk i _ _ e0 hu' he0).2
      have hat : kvAt kv i = u := by unfold kvAt; rw [List.getD_eq_getElem?_getD, hu']; rfl
      have p := kv_set (i0 := i) (key := key) (val := e0.val) (v := u) (f := fun e => { e with key := key }) hl hkk hzc (fun e he => ⟨rfl, by rw [he0] at he; injection he with he; rw [he]⟩)
      have hset : kv.set i (key, u) = kv := by
        refine List.ext_getElem? fun j => ?_
        rw [List.getElem?_set]
        split
        · rename_i hij; subst hij
          rw [hu']
        · rfl
      rw [hset] at p
      have q := born_modify (i0 := i) (f := fun e => { e with key := key }) (fun e => rfl) h1 h2
      rw [hat]
      refine map_put hH (hD'.trans hB) hφ hb hI p.1 p.2 q.1 q.2 hnd (.tup rfl fun i c y hi hy => ?_)
      match i with
      | 0 => simp at hi hy; subst hi hy; exact hzc
      | 1 => simp at hi hy; subst hi hy; exact .sc _ rfl
      | i + 2 => simp at hi
  · -- delete
    rename_i args tys ho
    split at h
    case h_2 => cases h
    rename_i m k t ts hargs htys
    split at h
    case h_2 => cases h
    rename_i id key kt te hm hk ht
    split at h
    case h_2 => cases h
    rename_i ck kv hB
    injection h with h; subst h
    obtain ⟨e, hu, hte, K⟩ := mapT_spec hT ht
    simp only at hkey hkeys hr hx
    intro H' hD hfresh w g ρ hρ hH hφ0
    have hD' : H'.get id = H.get id := by
      refine hD id ?_
      cases r <;> (injection hx with hx; subst hx; simp)
    have hmem : ∀ y ∈ args.toList, y ∈ o.op.operands.toList := by
      intro y hy
      simp only [ho, Op.operands, Call.operands, Array.toList_append, List.mem_append]
      exact .inr hy
    have hcm := hρ m (hmem m (by rw [hargs]; simp))
    have hck := hρ k (hmem k (by rw [hargs]; simp))
    rw [hm] at hcm
    have hkv := AV.val_cv hck hk
    obtain ⟨b, ents, em, hφ, hb, hI, hl, hkk, h1, h2, hnd⟩ := map_blk hH (hD'.trans hB) hcm
    have hf := find_run K (w := w) hl hkk hnd hkey hkeys hr
    obtain ⟨kl, hkl⟩ := Option.isSome_iff_exists.1 hkey
    have a0 : (args.map ρ)[0]? = some (ρ m) := by rw [Array.getElem?_map, ← Array.getElem?_toList, hargs]; rfl
    have a1 : (args.map ρ)[1]? = some (ρ k) := by rw [Array.getElem?_map, ← Array.getElem?_toList, hargs]; rfl
    have t0 : tys[0]? = some t := by rw [← Array.getElem?_toList, htys]; rfl
    unfold OpOK
    cases r with
    | none =>
      injection hx with hx; subst hx
      have hrun : (execOp ρ o).run P w = .ok (.value (.tuple #[])) (Am.put w b (.map ents ck)) := by
        simp only [execOp, ho, resolve]
        refine run_value ?_
        simp [Builtin.delete_, a0, a1, t0, em, hkv, underlying_run hu, run_bind, MapKept.run_getObj_map hb, K.check w _ hkl, hf.1, Result.andThen, MapKept.run_setObj_map _ hb, putmap_eq]
      rw [hrun]
      exact map_put hH (hD'.trans hB) hφ hb hI hl hkk h1 h2 hnd (.tup rfl fun i c y hi => by simp at hi)
    | some i =>
      injection hx with hx; subst hx
      obtain ⟨e0, he0, hke, hrun0⟩ := hf
      have hrun : (execOp ρ o).run P w = .ok (.value (.tuple #[])) (Am.put w b (.map (ents.eraseIdxIfInBounds i) ck)) := by
        simp only [execOp, ho, resolve]
        refine run_value ?_
        simp [Builtin.delete_, a0, a1, t0, em, hkv, underlying_run hu, run_bind, MapKept.run_getObj_map hb, K.check w _ hkl, hrun0, Result.andThen, MapKept.run_setObj_map _ hb, putmap_eq]
      rw [hrun]
      have hi : i < ents.size := (Array.getElem?_eq_some_iff.1 he0).1
      have er : ∀ (j : Nat) (e : MapEntry), (ents.eraseIdxIfInBounds i)[j]? = some e → ents[if j < i then j else j + 1]? = some e := by
        intro j e he
        have : (ents.eraseIdxIfInBounds i).toList = ents.toList.eraseIdx i := by simp [Array.eraseIdxIfInBounds, hi]
        rw [← Array.getElem?_toList, this, List.getElem?_eraseIdx] at he
        split <;> (rename_i hc; first | rw [if_pos hc] at he | rw [if_neg hc] at he) <;> simpa using he
      have kr : ∀ (j : Nat) (x : Value × AV), (kv.eraseIdx i)[j]? = some x → kv[if j < i then j else j + 1]? = some x := by
        intro j x hx
        rw [List.getElem?_eraseIdx] at hx
        split <;> (rename_i hc; first | rw [if_pos hc] at hx | rw [if_neg hc] at hx) <;> exact hx
      refine map_put hH (hD'.trans hB) hφ hb hI ?_ (fun j k v e hj he => hkk _ k v e (kr j _ hj) (er j e he)) (fun j j' e f hjj he hf => ?_) (fun j e he => h2 _ e (er j e he)) ?_ (.tup rfl fun i c y hi => by simp at hi)
      · simp [List.length_eraseIdx, hl, hi, Array.eraseIdxIfInBounds]
      · refine h1 _ _ e f ?_ (er j e he) (er j' f hf)
        split <;> split <;> omega
      · exact hnd.sublist ((List.eraseIdx_sublist _ _).map _)
  · cases h

def stepMakeMap (T : TT) (nx : Nat) (t : TypeId) (r : Option AV) : Option Out :=
  match r with
  | none => some { v := .mp nx, δ := [(nx, some (.map 0 []))] }
  | some (.sc (.int _ _)) => match (T.get t).map TI.k with
    | some (.map _ _) => some { v := .mp nx, δ := [(nx, some (.map 0 []))] }
    | _ => none
  | some _ => none
include hT in
theorem makeMap_sem {nx : Nat} {t : TypeId} {x : Option Operand} (ho : o.op = .makeMap t x) (h : stepMakeMap T nx t (x.map env) = some r) (hn : H.get nx = none) : OpSemD P o env H r := by
  have key : r = { v := .mp nx, δ := [(nx, some (.map 0 []))] } ∧ ∀ (w : World) (g : Gh) (ρ : Operand → Value), (∀ y ∈ o.op.operands.toList, Cv w g (env y) (ρ y)) → (Instr.makeMap t (x.map ρ)).run P w = .ok (.map (some w.heap.size)) (w.alloc (.map #[] 0)) := by
    unfold stepMakeMap at h
    split at h
    · rename_i hx
      injection h with h
      refine ⟨h.symm, fun w g ρ _ => ?_⟩
      cases x with
      | some y => cases hx
      | none => rfl
    · rename_i k n hx
      split at h
      · rename_i kt et hk
        injection h with h
        refine ⟨h.symm, fun w g ρ hρ => ?_⟩
        cases x with
        | none => cases hx
        | some y =>
          simp only [Option.map_some, Option.some.injEq] at hx
          have hy := hρ y (by simp [ho, Op.operands])
          rw [hx] at hy
          obtain ⟨ti, hti, hk⟩ := Option.map_eq_some_iff.1 hk
          simp [Instr.makeMap, hy.sc_inv, run_bind, underlying_run (hT.map hti hk), asInt, Result.andThen]
          rfl
      · cases h
    · cases h
  obtain ⟨rfl, hrun⟩ := key
  intro H' hD hfresh w g ρ hρ hH hφ
  have hn' := hfresh _ (List.mem_singleton.2 rfl) hn
  have hg := hφ _ (List.mem_singleton.2 rfl) hn'
  unfold OpOK
  simp only [execOp, ho]
  rw [run_value (hrun w g ρ hρ)]
  refine Post.new (E := 0) hH hn' hg ⟨w.heap.size, #[], gnew_at _ _ _ _, alloc_get w _, rfl, fun i k v e hi => by simp at hi, fun i j e f _ he => by simp at he, fun i e he => by simp at he, List.nodup_nil⟩ (.mp (gnew_at _ _ _ _))

def stepEntryStore (H : AH) (m s x : AV) : Option Out :=
  match m, s with
  | .mp id, .sc (.int k n) => match H.get id with
    | some (.map ck kv) => some { ok := decide (0 ≤ n ∧ n < (kv.length : Int)) && ck == kv.length, v := .sc undef, δ := [(id, some (.map ck (kv.set n.toNat ((kv.getD n.toNat (undef, .unk)).1, x))))], D := [id] }
    | _ => none
  | _, _ => none
theorem entryStore_sem {t : TypeId} {m s x : Operand} (ho : o.op = .entryStore t m s x) (h : stepEntryStore H (env m) (env s) (env x) = some r) (hok : r.ok = true) : OpSemD P o env H r := by
  unfold stepEntryStore at h
  split at h
  case h_2 => cases h
  rename_i id k n hm hs
  split at h
  case h_2 => cases h
  rename_i ck kv hB
  injection h with h; subst h
  simp only [Bool.and_eq_true, decide_eq_true_eq, beq_iff_eq] at hok
  obtain ⟨⟨hn0, hn1⟩, hck⟩ := hok
  intro H' hD hfresh w g ρ hρ hH hφ0
  have hD' : H'.get id = H.get id := hD id (by simp)
  have hcm := hρ m (by simp [ho, Op.operands])
  have hcs := hρ s (by simp [ho, Op.operands])
  have hcx := hρ x (by simp [ho, Op.operands])
  rw [hm] at hcm
  rw [hs] at hcs
  obtain ⟨b, ents, em, hφ, hb, hI, hl, hkk, h1, h2, hnd⟩ := map_blk hH (hD'.trans hB) hcm
  obtain ⟨i, rfl⟩ := Int.eq_ofNat_of_zero_le hn0
  have hi : i < kv.length := by omega
  have hie : i < ents.size := by omega
  have he0 : ents[i]? = some ents[i] := Array.getElem?_eq_getElem hie
  have hbi := born_idx h1 h2 (by omega)
  have hfind : ents.findIdx? (fun e => ((e.born : Nat) : Int) == (i : Int)) = some i := by
    rw [Array.findIdx?_eq_some_iff_getElem]
    refine ⟨hie, ?_, fun j hj => ?_⟩
    · rw [hbi i _ he0]; simp
    · rw [hbi j _ (Array.getElem?_eq_getElem (by omega))]
      simp; omega
  have hrun : (execOp ρ o).run P w = .ok .skip (Am.put w b (.map (ents.modify i fun e => { e with val := ρ x }) ck)) := by
    simp only [execOp, ho, em, hcs.sc_inv]
    refine run_unit ?_
    simp [Instr.entryStore, run_bind, MapKept.run_getObj_map hb, Result.andThen, asInt, asIntOf, hfind, MapKept.run_setObj_map _ hb, putmap_eq]
  unfold OpOK
  rw [hrun]
  have hat : kv[i]? = some (kv[i].1, kv[i].2) := List.getElem?_eq_getElem hi
  have hgd : (kv.getD (i : Int).toNat (undef, .unk)).1 = kv[i].1 := by
    rw [Int.toNat_natCast, List.getD_eq_getElem?_getD, hat]; rfl
  rw [hgd, Int.toNat_natCast]
  have p := kv_set (i0 := i) (key := kv[i].1) (val := ρ x) (v := env x) (f := fun e => { e with val := ρ x }) hl hkk hcx (fun e he => ⟨(hkk i _ _ e hat he).1, rfl⟩)
  have q := born_modify (i0 := i) (f := fun e => { e with val := ρ x }) (fun e => rfl) h1 h2
  exact map_put hH (hD'.trans hB) hφ hb hI p.1 p.2 q.1 q.2 (by rw [kv_set_fst hat]; exact hnd) (.sc _ rfl)

include hT in
theorem makeSlice_sem {nx : Nat} {t : TypeId} {l c : Operand} (ho : o.op = .makeSlice t l c) (h : stepMakeSlice T nx t (env l) (env c) = some r) (hok : r.ok = true) (hn : H.get nx = none) : OpSemD P o env H r := by
  unfold stepMakeSlice at h
  split at h
  case h_2 => cases h
  rename_i k1 n k2 m hl hc
  split at h
  case h_2 => cases h
  rename_i e ti he
  obtain ⟨ht, hti⟩ := elemOf_spec hT he
  injection h with h; subst h
  simp only [Bool.and_eq_true, decide_eq_true_eq] at hok
  obtain ⟨⟨h0, h1, h2, h3⟩, hz⟩ := hok
  intro H' hD hfresh w g ρ hρ hH hφ
  have hn' := hfresh _ (List.mem_singleton.2 rfl) hn
  have hg := hφ _ (List.mem_singleton.2 rfl) hn'
  have hcl := hρ l (by simp [ho, Op.operands])
  have hcc := hρ c (by simp [ho, Op.operands])
  rw [hl] at hcl
  rw [hc] at hcc
  obtain ⟨n, rfl⟩ := Int.eq_ofNat_of_zero_le h0
  obtain ⟨m, rfl⟩ := Int.eq_ofNat_of_zero_le (Int.le_trans h0 h1)
  obtain ⟨i, hi, hib⟩ := typeInfo_run hT hti w
  have wn : IntKind.i64.wrap (n : Int) = n := IntWalk.i64_in _ (by omega)
  have wm : IntKind.i64.wrap (m : Int) = m := IntWalk.i64_in _ (by omega)
  have hzs : ti.zero.cells.size = ti.size := by simp only [zeroOk, Bool.and_eq_true, beq_iff_eq] at hz; exact hz.1
  have hel : ∀ x ∈ List.replicate n (ofVal ti.zero), x.cells.length = ti.size := by
    intro x hx
    rw [List.eq_of_mem_replicate hx]
    have := (zero_cells (w := w) (g := g) hz).1
    omega
  have hempty : m * ti.size = 0 → (Array.range (m * ti.size)).map (ti.zero.cells[· % ti.zero.cells.size]!) = (Array.range (m * ti.size)).map ((#[] : Array Value)[· % (#[] : Array Value).size]!) := by
    intro h0
    rw [h0]
    simp
  have hrun : (Instr.makeSlice t (.int k1 (n : Int)) (.int k2 (m : Int))).run P w = .ok (.slice (some ⟨w.heap.size, 0, none⟩) n m) (w.alloc (.cells ((Array.range (m * ti.size)).map (ti.zero.cells[· % ti.zero.cells.size]!)) e)) := by
    unfold Instr.makeSlice
    show (Sem.bind (underlying t) _).run P w = _
    rw [run_bind (underlying_run ht w)]
    show (Sem.bind (asInt _) _).run P w = _
    rw [run_bind (a := (n : Int)) (w' := w) rfl]
    show (Sem.bind (asInt _) _).run P w = _
    rw [run_bind (a := (m : Int)) (w' := w) rfl]
    show (Sem.bind (typeInfo e) _).run P w = _
    rw [run_bind hi]
    simp only [wn, wm, hib]
    have e1 : (decide ((m : Int) < 0) || decide ((ti.bytes : Int) * (m : Int) > 2 ^ 48) || decide ((n : Int) < 0) || decide ((n : Int) > m)) = false := by
      simp only [Bool.or_eq_false_iff, decide_eq_false_iff_not]
      refine ⟨⟨⟨by omega, ?_⟩, by omega⟩, by omega⟩
      generalize (ti.bytes : Int) * (m : Int) = q at *
      omega
    rw [e1]
    simp only [Bool.false_eq_true, if_false]
    have e2 : (askRoom ((m : Int).toNat * ti.bytes) : Sem Unit).run P w = .ok () w := by
      unfold askRoom
      rw [if_neg ?_]
      · rfl
      · have : ((m * ti.bytes : Nat) : Int) = (ti.bytes : Int) * (m : Int) := by rw [Int.natCast_mul, Int.mul_comm]
        simp only [Int.toNat_natCast, roomBytes]
        omega
    show (Sem.bind (askRoom _) _).run P w = _
    rw [run_bind e2]
    show (Sem.bind (Go.sizeOf e) _).run P w = _
    rw [run_bind (hT.sizeOf hti w)]
    simp only [Int.toNat_natCast]
    by_cases h0 : m * ti.size = 0
    · rw [if_pos h0, hempty h0]
      show (Sem.bind (Sem.pure (#[] : Array Value)) _).run P w = _
      rw [run_bind (a := (#[] : Array Value)) (w' := w) rfl]
      show (Sem.bind (newRow e _) _).run P w = _
      rw [run_bind (newRow_run e _ w)]; rfl
    · rw [if_neg h0]
      show (Sem.bind (zeroValue e) _).run P w = _
      rw [run_bind (hT.zero hti w)]
      show (Sem.bind (Sem.pure ti.zero.cells) _).run P w = _
      rw [run_bind (a := ti.zero.cells) (w' := w) rfl]
      show (Sem.bind (newRow e _) _).run P w = _
      rw [run_bind (newRow_run e _ w)]; rfl
  unfold OpOK
  simp only [execOp, ho, hcl.sc_inv, hcc.sc_inv]
  rw [run_value hrun]
  exact post_row hH hn' hg (zero_row hz n m (by omega)) hel (by simp) (by simp) (by omega)

/-- Bytes that are known. -/
def bytesOf : List AV → Option (List Int)
  | [] => some []
  | .sc (.int .u8 n) :: l => match bytesOf l with | some r => some (n :: r) | none => none
  | _ :: _ => none
theorem bytesOf_spec : ∀ {l : List AV} {ns : List Int}, bytesOf l = some ns → l = ns.map fun n => .sc (.int .u8 n)
  | [], ns, h => by simp [bytesOf] at h; subst h; rfl
  | a :: l, ns, h => by
    unfold bytesOf at h
    split at h
    · rename_i heq; cases heq
    · rename_i n l' heq
      injection heq with h1 h2; subst h1 h2
      split at h
      · rename_i r hr
        injection h with h; subst h
        rw [bytesOf_spec hr]; rfl
      · cases h
    · cases h
def strOf (ns : List Int) : ByteArray := ⟨(ns.map fun n => UInt8.ofNat n.toNat).toArray⟩
theorem fold_strOf (ns : List Int) : ns.foldl (fun r n => r.push (UInt8.ofNat n.toNat)) ByteArray.empty = strOf ns := by
  have : ∀ (ns : List Int) (s : ByteArray), ns.foldl (fun r n => r.push (UInt8.ofNat n.toNat)) s = ⟨s.data ++ (ns.map fun n => UInt8.ofNat n.toNat).toArray⟩ := by
    intro ns
    induction ns with
    | nil => intro s; simp
    | cons n ns ih =>
      intro s
      rw [List.foldl_cons, ih]
      congr 1
      simp [ByteArray.push]
  rw [this]
  unfold strOf
  congr 1
  show (#[] : Array UInt8) ++ _ = _
  simp
/-- Bytes that become a string. -/
def strReq (T : TT) (H : AH) (s d : TypeId) (x : AV) : Option (Bool × List AV × List Nat) :=
  match (T.get s).map TI.k, (T.get d).map TI.k with
  | some (.slice e), some .str => match (T.get e).map TI.k with
    | some (.int .u8) => srcOf H 1 x
    | _ => none
  | _, _ => none
include hT in
theorem str_sem {s d : TypeId} {x : Operand} {es : List AV} {D : List Nat} {ns : List Int} (ho : o.op = .convert s d x) (h : strReq T H s d (env x) = some (true, es, D)) (hns : bytesOf es = some ns) : OpSemD P o env H { v := .sc (.string (strOf ns)), D := D } := by
  unfold strReq at h
  split at h
  case h_2 => cases h
  rename_i e hs hd
  split at h
  case h_2 => cases h
  rename_i he
  have hsrc := h
  obtain ⟨es', rfl⟩ : ∃ es', es' = es := ⟨_, rfl⟩
  obtain ⟨si, hsi, hsk⟩ := Option.map_eq_some_iff.1 hs
  obtain ⟨di, hdi, hdk⟩ := Option.map_eq_some_iff.1 hd
  obtain ⟨ei, hei, hek⟩ := Option.map_eq_some_iff.1 he
  refine OpSemD.read rfl fun H' w g ρ hρ hH hD => ?_
  have hcx := hρ x (by simp [ho, Op.operands])
  obtain ⟨a, c, hy, _, hE, cells, hcells, hcs, hrow⟩ := src_read (P := P) (srcOf_congr hsrc hD) hH hcx
  have hes := bytesOf_spec hns
  refine ⟨.string (strOf ns), ?_, .sc _ rfl⟩
  simp only [execOp, ho]
  refine run_value ?_
  rw [hy, run_convert_bytes_string w s d e a es'.length c (hT.slice hsi hsk) (hT.int hei hek) (hT.str hdi hdk)]
  have hlen : es'.length = ns.length := by rw [hes]; simp
  cases a with
  | none =>
    rw [hy] at hcells
    have h1 : cells = #[] := by
      simp only [Builtin.firstCells] at hcells
      injection hcells with h _; exact h.symm
    subst h1
    have h0 : ns.length = 0 := by simp at hcs; omega
    obtain rfl := List.eq_nil_of_length_eq_zero h0
    rfl
  | some a =>
    rw [hy] at hcells
    have hc : cells = (ns.map (Value.int .u8)).toArray := by
      refine Array.ext_getElem? fun k => ?_
      by_cases hk : k < ns.length
      · have h1 : es'[k]? = some (.sc (.int .u8 ns[k])) := by rw [hes, List.getElem?_map, List.getElem?_eq_getElem hk]; rfl
        obtain ⟨v, hv, hcv⟩ := hrow k 0 _ _ h1 rfl
        have : 0 + k * 1 + 0 = k := by omega
        rw [this] at hv
        rw [hv, hcv.sc_inv]
        simp [hk]
      · rw [Array.getElem?_eq_none (by omega), Array.getElem?_eq_none (by simp; omega)]
    rw [hc] at hcells
    simp only [Builtin.firstCells, Nat.mul_one] at hcells
    rw [run_bytesToString w a es'.length c ns (by simpa using hcells), fold_strOf]
end
end Go.Proofs.Ytjnmbmdplchfkaa.Am
