/- Generic: what the arguments of a law are, read off their reading as data; and the end of every law's row: the law returned true and nothing that was there has changed. -/
import Derived.Test.YtjnmbmdplchfkaaAmRW
import Derived.WalkKit
import Derived.ProofKit
import Derived.OpenShut
import Derived.Deep.Slices
import Derived.Carry
set_option linter.all false
namespace Go.Proofs.Ytjnmbmdplchfkaa.Am
variable [Lo]
open Go.ChangeShapes Go.WideShapes Go.ChangeAt Go.RowKit

/-- What the cells of a value of type t are, in world w. -/
def FitT (P : Program) (w : World) : Nat → TypeId → List Value → Prop
  | 0, _, _ => False
  | n + 1, t, cs => match P.underlying t with
    | some .bool => ∃ b, cs = [.bool b]
    | some (.int k) => ∃ m, cs = [.int k m] ∧ (Lit.int k m).wf = true
    | some .string => ∃ s : ByteArray, cs = [.string s] ∧ s.size ≤ maxLen
    | some (.struct fs) => cs.length = P.cellsOf t ∧ ∀ (i : Nat) (f : Field), fs[i]? = some f → FitT P w n f.type ((cs.drop f.offset).take (P.cellsOf f.type))
    | some (.array k e) => cs.length = P.cellsOf t ∧ ∀ i, i < k → FitT P w n e ((cs.drop (i * P.cellsOf e)).take (P.cellsOf e))
    | some (.slice e) => ∃ A len cap, cs = [.slice A len cap] ∧ len ≤ cap ∧ cap ≤ maxLen ∧ (A = none → len = 0 ∧ cap = 0) ∧
        ((0 < len ∧ 0 < P.cellsOf e) → ∃ b off, A = some ⟨b, off, none⟩ ∧ b < w.heap.size) ∧
        ∀ i, i < len → ∃ cs', cs'.length = P.cellsOf e ∧ FitT P w n e cs' ∧ ∀ a, A = some a → ∀ j, j < P.cellsOf e → w.cell? ⟨a.block, a.off + i * P.cellsOf e + j, none⟩ = cs'[j]?
    | _ => True

theorem add_at {w : World} {a : Addr} {k : Nat} {v : Value} (h : w.cell? (a.add k) = some v) : w.cell? ⟨a.block, a.off + k, none⟩ = some v := by
  unfold Addr.add at h
  split at h
  · rename_i hk
    subst hk
    obtain ⟨b, off, sp⟩ := a
    cases sp with
    | none => exact h
    | some s =>
      exfalso
      unfold World.cell? at h
      simp at h
      split at h <;> simp_all
  · exact h
theorem spot_none {w : World} {a : Addr} {v : Value} (h : w.cell? a = some v) : a = ⟨a.block, a.off, none⟩ := by
  obtain ⟨b, off, sp⟩ := a
  cases sp with
  | none => rfl
  | some s =>
    exfalso
    unfold World.cell? at h
    simp at h
    split at h <;> simp_all
theorem block_lt {w : World} {a : Addr} {v : Value} (h : w.cell? a = some v) : a.block < w.heap.size := by
  rcases Nat.lt_or_ge a.block w.heap.size with hl | hl
  · exact hl
  · unfold World.cell? at h
    rw [Array.getElem?_eq_none hl] at h
    simp at h

theorem add_add_at (a : Addr) (i j : Nat) : (a.add i).add j = a.add (i + j) := by
  unfold Addr.add
  by_cases hi : i = 0 <;> by_cases hj : j = 0 <;> simp [hi, hj, Nat.add_assoc]

theorem fitT_of_trod {H : Type} {enc : TypeId × Value → H} {P : Program} {w : World} {base : Nat} {held : Bool} (fuel : Nat) : ∀ (t : TypeId) (cs : List Value) (x : DataW H × List MemPlace),
    DataW.trod enc P w base (fun _ => true) held fuel t cs = some x → FitT P w fuel t cs := by
  induction fuel with
  | zero => intro t cs x h; simp [DataW.trod] at h
  | succ n ih =>
    intro t cs x h
    unfold FitT
    split
    · rename_i hu
      obtain ⟨b, rfl, _⟩ := DataW.trod_bool hu h
      exact ⟨b, rfl⟩
    · rename_i k hu
      obtain ⟨m, rfl, _, hw⟩ := DataW.trod_int hu h
      exact ⟨m, rfl, hw⟩
    · rename_i hu
      obtain ⟨s, rfl, _, hs⟩ := DataW.trod_string hu h
      exact ⟨s, rfl, hs⟩
    · rename_i fs hu
      obtain ⟨xs, m, hm, _, hl, hx, hf⟩ := DataW.trod_struct hu h
      obtain rfl : n = m := by omega
      refine ⟨hl, fun i f hi => ?_⟩
      have hi' : i < xs.length := by rw [hx]; exact (Array.getElem?_eq_some_iff.1 hi).1
      exact ih _ _ _ ((hf i f hi).trans (List.getElem?_eq_getElem hi'))
    · rename_i k e hu
      obtain ⟨xs, m, hm, _, hl, hx, hf⟩ := DataW.trod_array hu h
      obtain rfl : n = m := by omega
      refine ⟨hl, fun i hi => ?_⟩
      have hi' : i < xs.length := by rw [hx]; exact hi
      exact ih _ _ _ ((hf i hi).trans (List.getElem?_eq_getElem hi'))
    · rename_i e hu
      rcases DataW.trod_slice hu h with ⟨rfl, _⟩ | ⟨a, len, cap, elems, rest, m, hm, rfl, _, _, hlc, hcm, hlen, hel, _, _⟩
      · exact ⟨none, 0, 0, rfl, Nat.le_refl _, Nat.zero_le _, fun _ => ⟨rfl, rfl⟩, fun h => absurd h.1 (by omega), fun i hi => absurd hi (by omega)⟩
      · obtain rfl : n = m := by omega
        have one : ∀ i, i < len → ∃ cs', w.cells? base (a.add (i * P.cellsOf e)) (P.cellsOf e) = some cs' ∧ FitT P w n e cs' := by
          intro i hi
          have h1 := hel i hi
          rw [List.getElem?_eq_getElem (by omega), Option.bind_eq_some_iff] at h1
          obtain ⟨cs', hc, ht⟩ := h1
          exact ⟨cs', hc, ih _ _ _ ht⟩
        have cell : ∀ i, i < len → ∀ j, j < P.cellsOf e → ∀ cs', w.cells? base (a.add (i * P.cellsOf e)) (P.cellsOf e) = some cs' → w.cell? (a.add (i * P.cellsOf e + j)) = cs'[j]? := by
          intro i hi j hj cs' hc
          have := (World.cells?_some hc).2.2 j hj
          rwa [add_add_at] at this
        refine ⟨some a, len, cap, rfl, hlc, hcm, (fun h => by cases h), (fun ⟨h0, h1⟩ => ?_), (fun i hi => ?_)⟩
        · obtain ⟨cs', hc, _⟩ := one 0 h0
          have hl := (World.cells?_some hc).2.1
          have h2 := cell 0 h0 0 h1 cs' hc
          rw [List.getElem?_eq_getElem (by omega)] at h2
          have h3 : a.add (0 * P.cellsOf e + 0) = a := by simp [Addr.add]
          rw [h3] at h2
          exact ⟨a.block, a.off, by rw [← spot_none h2], block_lt h2⟩
        · obtain ⟨cs', hc, hf⟩ := one i hi
          have hl := (World.cells?_some hc).2.1
          refine ⟨cs', hl, hf, fun a' ha j hj => ?_⟩
          injection ha with ha
          subst ha
          have h2 := cell i hi j hj cs' hc
          rw [List.getElem?_eq_getElem (by omega)] at h2 ⊢
          have := add_at h2
          rwa [← Nat.add_assoc] at this
    · trivial

theorem okWide_array {P : Program} {w : World} {r : Reach} {base : Nat} {t : TypeId} {v : Value} {n : Nat} {e : TypeId} (ht : P.underlying t = some (.array n e)) (h : Value.okWide P w r base t v) : ∃ cs, v = .agg cs ∧ cs.size = P.cellsOf t := by
  simp only [Value.okWide, ht] at h
  obtain ⟨cs, h1, h2, _⟩ := h
  exact ⟨cs, h1, h2⟩

/-- Behind a call that has changed nothing of what was there each argument reads as it did. -/
theorem below_trodAll {H : Type} {enc : TypeId × Value → H} {P : Program} (hl : laidOutB P = true) {W W' : World} (hb : Below W.heap.size W W') : ∀ {ts : List TypeId} {vs : List Value} {ds : List (DataW H)} {ps : List MemPlace},
    (∀ t ∈ ts, P.readableRec t = true ∧ t < P.types.size) → DataW.TrodAll enc P W 0 (fun _ => true) true ts vs ds ps → (∀ x ∈ ps, x.block < W.heap.size) →
    DataW.TrodAll enc P W' 0 (fun b => decide (b < W.heap.size)) true ts vs ds ps
  | [], [], [], _, _, h, _ => h
  | _ :: _, _ :: _, _ :: _, _, hT, ⟨p, q, h1, h2, e⟩, hs =>
    ⟨p, q, Below.trod hl (hT _ (List.mem_cons.2 (Or.inl rfl))).1 (hT _ (List.mem_cons.2 (Or.inl rfl))).2 h1 hb (fun x hx => hs x (by rw [e]; exact List.mem_append_left _ hx)),
      below_trodAll hl hb (fun t ht => hT t (List.mem_cons.2 (Or.inr ht))) h2 (fun x hx => hs x (by rw [e]; exact List.mem_append_right _ hx)), e⟩

/-- The end of a law's row. -/
theorem law_post {H : Type} {enc : TypeId × Value → H} {P : Program} {f : Func} {s : ChangeSpec} {apart : Bool} {W W' : World} {args : Array Value} {ds : List (DataW H)} {ps : List MemPlace} {tb : TypeId}
    (hW : DataW.Whole enc P f.params.toList s.vars apart W args.toList ds [] ps) (hv : s.vars = []) (hres : f.resultTypes = #[tb]) (hbool : P.underlying tb = some .bool)
    (hfn : s.fn H (ds ++ []) = { results := [.lit (.bool true)], args := ds }) (hl : laidOutB P = true)
    (hT : ∀ t ∈ f.params.toList, P.readableRec t = true ∧ t < P.types.size) (hb : Below W.heap.size W W') :
    s.post enc P f apart true false false W args (.bool true) W' := by
  have hlt : ∀ x ∈ ps, x.block < W.heap.size := fun x hx => hW.lt x hx
  have hW' := hW
  obtain ⟨p, q, hA, hV, rfl, _, _⟩ := hW
  rw [hv] at hV
  refine ⟨ds, [], p ++ q, [], p, [], hW', ?_, ?_, ?_, hb.frame _, fun h => by cases h⟩
  · rw [hfn, hres]
    exact trodAll_mk1 (shut_bool hbool _)
  · rw [hfn]
    exact below_trodAll hl hb hT hA (fun x hx => hlt x (List.mem_append_left _ hx))
  · rw [hfn, hv]
    exact rfl
end Go.Proofs.Ytjnmbmdplchfkaa.Am
