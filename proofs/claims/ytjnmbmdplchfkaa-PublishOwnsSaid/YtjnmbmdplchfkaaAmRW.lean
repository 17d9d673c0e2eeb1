/- The owned machine, part RW: from a law's contract to its row. -/
import Derived.Test.YtjnmbmdplchfkaaAmEV
import Derived.Below
set_option linter.all false
namespace Go.Proofs.Ytjnmbmdplchfkaa.Am
variable [Lo]
set_option linter.unusedVariables false

theorem AFun.of_calls {P : Program} {f : FuncId} {vs : List AV} {v : AV} (h : ACalls P f vs [] { v := v }) : AFun P f 0 vs [] v [] := fun w g xs hl hx hH hN =>
  (h [] (fun _ _ => rfl) (fun q hq => (by cases hq)) w g xs hl hx hH (fun q hq => (by cases hq))).mono fun e w' ⟨x, he, g', hA, hc, hφ⟩ => ⟨x, g', he, AdvP.of_adv hA (fun id hid => by omega), hc, hA.rel⟩
/-- A closed function, reckoned. -/
theorem AFun.of_ev {P : Program} {T : TT} (hT : T.Ok P) (hm : P.follows .mixedOrders = true) (k : Nat) {f : FuncId} {v : AV} (h : evF P T k f [] [] 0 = some { v := v }) : AFun P f 0 [] [] v [] := AFun.of_calls (evF_sound hT hm k f [] [] 0 _ h)

/-- The listed variables, in a world in which all that is there is never written. -/
def GlobW (w : World) : Prop := (∀ x ∈ globTab, x.1 < w.heap.size ∧ ∃ (cs : Array Value) (ty : TypeId) (fz : Nat × Nat), w.heap[x.1]? = some (.cells cs ty fz) ∧ (∀ (j : Nat) (c : Value), x.2[j]? = some c → cs[j]? = some c ∧ c.cells = #[c]) ∧ cs.size = x.2.length) ∧ Lo.lo ≤ w.heap.size
theorem GlobW.nil (h : globTab = []) (w : World) (h0 : Lo.lo ≤ w.heap.size) : GlobW w := ⟨fun x hx => (by rw [h] at hx; cases hx), h0⟩
/-- A function that owns nothing, called in a world whose blocks are never written by it: nothing that was there changes. -/
theorem AFun.calls {P : Program} {f : FuncId} {vs : List AV} {v : AV} (h : AFun P f 0 vs [] v []) {w : World} (hg : GlobW w) {xs : Array Value} (hl : vs.length = xs.size) (hx : ∀ (i : Nat) (u : AV) (x : Value), vs[i]? = some u → xs[i]? = some x → Cv w ⟨fun _ => none, fun b => b < w.heap.size⟩ u x) :
    Calls P f xs w fun e w' => ∃ x g, e = .returned x ∧ Cv w' g v x ∧ Go.RowKit.Below w.heap.size w w' :=
  (h w ⟨fun _ => none, fun b => b < w.heap.size⟩ xs hl hx ⟨fun id B hB => (by cases hB), fun i j b E E' A B hi => (by cases hi), fun i b E B hi => (by cases hi), fun b hb => hb, hg⟩ (fun _ _ => rfl)).mono fun e w' ⟨x, g', he, hA, hc, _⟩ =>
    ⟨x, g', he, hc, ⟨hA.ext.os, hA.ext.tape, hA.ext.output, hA.ext.size, fun b hb => (hA.I b hb).2⟩⟩
/-- A law: it returns true, and nothing that was there changes. -/
theorem AFun.law {P : Program} {f : FuncId} {vs : List AV} (h : AFun P f 0 vs [] (.sc (.bool true)) []) {w : World} (hg : GlobW w) {xs : Array Value} (hl : vs.length = xs.size) (hx : ∀ (i : Nat) (u : AV) (x : Value), vs[i]? = some u → xs[i]? = some x → Cv w ⟨fun _ => none, fun b => b < w.heap.size⟩ u x) :
    Calls P f xs w fun e w' => e = .returned (.bool true) ∧ Go.RowKit.Below w.heap.size w w' :=
  (h.calls hg hl hx).mono fun e w' ⟨x, g, he, hc, hb⟩ => ⟨by rw [he, hc.sc_inv], hb⟩

/-- The blocks of H' are there. -/
def keeps (H : AH) : AH → Prop
  | [] => True
  | (i, b) :: H' => H.get i = some b ∧ keeps H H'
theorem keeps.get {H : AH} : ∀ {H' : AH}, keeps H H' → ∀ id B, H'.get id = some B → H.get id = some B
  | [], _, id, B, h => by cases h
  | (i, b) :: H', hk, id, B, h => by
    simp only [AH.get] at h
    split at h
    · rename_i e; subst e; injection h with h; subst h; exact hk.1
    · exact keeps.get hk.2 id B h
/-- What a function gives, local blocks forgotten. -/
def FinK (T : TT) (fn : Func) (v : AV) (H : AH) (e : Exit) (s : AS) : Prop := (e = .ret ∨ e = .normal) ∧ (∃ rv, resAll T s fn.results.toList = some (true, rv) ∧ tupled rv = v) ∧ keeps s.H H
theorem AFun.of_W {P : Program} {T : TT} (hT : T.Ok P) {p : Nat} (hm : P.follows .mixedOrders = true) {f : FuncId} {fn : Func} {c : Code} {vs : List AV} {H H' : AH} {v : AV} (hf : P.funcs[f]? = some fn) (hb : fn.body = some c) (hn : vs.length ≤ fn.ntmps) (hB : H.all (fun x => decide (x.1 < p)) = true)
    (h : V P T p fn.ntmps c ⟨argFr vs 0, H, p⟩ (FinK T fn v H')) : AFun P f p vs H v H' := by
  obtain ⟨e, s', h1, _, he, ⟨rv, hr, hv⟩, hH⟩ := V_sound hT hm c _ _ h (HB.of_all hB)
  exact (AFun.of_body hT hf hb hn he h1 hr hv rfl).forget hH.get
/-- A drawn region whose order doesn't matter. -/
theorem Ck.drawn {ops : Array Oper} {tr : List Info} {K : Prop} (h : drawOk ops tr = true) (k : K) : Ck (!true || drawOk ops tr) K := ⟨by rw [h]; rfl, k⟩
/-- One round of a loop, walked. -/
theorem LoopN.round {P : Program} {T : TT} (hT : T.Ok P) (hm : P.follows .mixedOrders = true) {p n : Nat} {c : Code} {s : AS} {K : Exit → AS → Prop} (hB : (s.H.all fun x => decide (x.1 < s.nx)) = true)
    (h : V P T p n c s fun e s1 => match e with
      | .normal => LoopN P p n c s1 K
      | e => Ck (s1.H.all fun x => decide (x.1 < s1.nx)) (K e s1)) : LoopN P p n c s K := by
  obtain ⟨e, s1, h1, hB1, h2⟩ := V_sound hT hm c s _ h (HB.of_all hB)
  split at h2
  · obtain ⟨e', s', h3, h4, h5⟩ := h2
    exact ⟨e', s', .more h1 h3, h4, h5⟩
  · rename_i hne
    obtain ⟨h3, h4⟩ := h2
    exact ⟨e, s1, .out (fun h => hne h) h1, h3, h4⟩
/-- A call, reckoned. -/
theorem CallN.ev {P : Program} {T : TT} (hT : T.Ok P) (hm : P.follows .mixedOrders = true) (k : Nat) {f : FuncId} {vs : List AV} {H : AH} {K : Out → Prop} {r : Out} (nx : Nat) (h : evF P T k f vs H nx = some r) (hk : K r) : CallN P f vs H K := ⟨r, evF_sound hT hm k f vs H nx r h, hk⟩
theorem AFun.congr {P : Program} {f : FuncId} {p : Nat} {vs : List AV} {H H' H1 : AH} {v : AV} (h : AFun P f p vs H v H1) (e : ∀ id, H'.get id = H1.get id) : AFun P f p vs H v H' := fun w g xs hl hx hH hN =>
  (h w g xs hl hx hH hN).mono fun e' w' ⟨x, g', he, hA, hc, hH'⟩ => ⟨x, g', he, ⟨hA.φ, hA.I, hA.sz, hA.ext, fun id B b E hi => hA.own id B b E (by rw [← e]; exact hi), hA.imm⟩, hc, hH'.congr e⟩
theorem AFun.of_acalls {P : Program} {f : FuncId} {p : Nat} {vs : List AV} {H : AH} {r : Out} (h : ACalls P f vs H r) (hδ : (r.δ.all fun q => decide (p ≤ q.1) || (H.get q.1).isSome) = true) : AFun P f p vs H r.v (H.upd r.δ) := fun w g xs hl hx hH hN =>
  (h H (fun _ _ => rfl) (fun q _ hq => hq) w g xs hl hx hH (fun q hq hn => by
    have := List.all_eq_true.1 hδ q hq
    simp only [hn, Option.isSome_none, Bool.or_false, decide_eq_true_eq] at this
    exact hN _ this)).mono fun e w' ⟨x, he, g', hA, hc, hφ⟩ => ⟨x, g', he, AdvP.of_adv hA (fun id hid => hφ id (by
      by_cases hi : id ∈ r.δ.map Prod.fst
      · obtain ⟨q, hq, rfl⟩ := List.mem_map.1 hi
        have := List.all_eq_true.1 hδ q hq
        simp only [Bool.or_eq_true, decide_eq_true_eq] at this
        refine .inr fun hn => ?_
        rw [hn] at this
        simp at this
        omega
      · exact .inl hi)), hc, hA.rel⟩
/-- A function's contract, reckoned. -/
theorem AFun.of_evF {P : Program} {T : TT} (hT : T.Ok P) (hm : P.follows .mixedOrders = true) (k p : Nat) {f : FuncId} {vs : List AV} {H H' : AH} {v : AV} (D : List Nat) (δ : List (Nat × Option Blk)) (h : evF P T k f vs H p = some { v := v, D := D, δ := δ }) (hδ : (δ.all fun q => decide (p ≤ q.1) || (H.get q.1).isSome) = true) (hH : H.upd δ = H') : AFun P f p vs H v H' := by
  subst hH
  exact AFun.of_acalls (evF_sound hT hm k f vs H p _ h) hδ
end Go.Proofs.Ytjnmbmdplchfkaa.Am
