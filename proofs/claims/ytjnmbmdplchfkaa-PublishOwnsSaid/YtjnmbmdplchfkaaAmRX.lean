/- The owned machine, part RX: a law's row. -/
import Derived.Test.YtjnmbmdplchfkaaAmSH
set_option linter.all false
namespace Go.Proofs.Ytjnmbmdplchfkaa.Am
variable [Lo]
open Go.ChangeShapes Go.WideShapes Go.ChangeAt Go.RowKit
set_option linter.unusedVariables false

theorem arg_law {P : Program} {T : TT} (hT : T.Ok P) {w : World} {r : Reach} {base : Nat} {t : TypeId} {v : Value} (n : Nat) {s : Sh} {ti : TI} (hs : shOf T n t = some s) (hti : T.get t = some ti) (hsz : (ti.k.isAgg || s.size == 1) = true)
    (hv : Value.okWide P w r base t v) {H : Type} {enc : TypeId × Value → H} {base' : Nat} {held : Bool} {x : DataW H × List MemPlace} (h : ∃ k, DataW.trod enc P w base' (fun _ => true) held k t v.cells.toList = some x) : ∃ d : s.D, s.ok d ∧ Cv w (g0 w) (mkE ti.k.isAgg (s.av d)) v := by
  obtain ⟨k, h⟩ := h
  refine arg_av hT n hs hti ?_ (by simpa using hsz) ⟨k, fitT_of_trod k _ _ _ h⟩
  cases n with
  | zero => simp [shOf] at hs
  | succ n =>
    unfold shOf at hs
    rw [hti] at hs
    simp only [] at hs
    split at hs
    · rename_i hk
      obtain ⟨m, rfl⟩ := okWide_int (hT.int hti hk) hv
      rw [hk]; simp [TK.isAgg]
    · rename_i hk
      obtain ⟨m, rfl⟩ := okWide_bool (hT.bool hti hk) hv
      rw [hk]; simp [TK.isAgg]
    · rename_i hk
      obtain ⟨m, rfl⟩ := okWide_string (hT.str hti hk) hv
      rw [hk]; simp [TK.isAgg]
    · rename_i e hk
      obtain ⟨a, l, c, rfl⟩ := okWide_slice (hT.slice hti hk) hv
      rw [hk]; simp [TK.isAgg]
    · rename_i fs hk
      obtain ⟨ff, hu, _⟩ := hT.struct hti hk
      obtain ⟨cs, rfl, _⟩ := okWide_struct hu hv
      rw [hk]; simp [TK.isAgg]
    · rename_i m e hk
      obtain ⟨cs, rfl, _⟩ := okWide_array (hT.arr hti hk) hv
      rw [hk]; simp [TK.isAgg]
    · cases hs
/-- A law: it returns true, and nothing that was there changes. -/
theorem AFun.row {P : Program} {f : FuncId} {vs : List AV} (h : AFun P f 0 vs [] (.sc (.bool true)) []) {w : World} {xs : Array Value} (hx : CellsCv w (g0 w) vs xs.toList) (hg : GlobW w := by exact GlobW.nil rfl _ (Nat.zero_le _)) :
    Calls P f xs w fun e w' => e = .returned (.bool true) ∧ Below w.heap.size w w' :=
  h.law hg (by simpa using hx.1) fun i u x hi hx' => hx.2 i u x hi (by simpa using hx')
end Go.Proofs.Ytjnmbmdplchfkaa.Am
