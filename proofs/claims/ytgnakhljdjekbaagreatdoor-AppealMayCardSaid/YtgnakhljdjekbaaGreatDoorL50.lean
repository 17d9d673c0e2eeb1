/- appealZD: parts of the proof, DappealZDTV. -/
import Derived.Test.YtgnakhljdjekbaaGreatDoorL35
import Derived.Test.YtgnakhljdjekbaaGreatDoorAmRX
import Derived.LaidMore
import Derived.LaidHandle
import Derived.OpenShut
import Derived.Stop.Joined
import Derived.ProofKit
set_option linter.all false
namespace Go.Proofs.YtgnakhljdjekbaaGreatDoor
open Go.Proofs.YtgnakhljdjekbaaGreatDoor.Am Go.ChangeShapes Go.WideShapes Go.ChangeAt Go.RowKit
set_option maxRecDepth 100000
/-! What the rows list of package-level variables, as the machine reads it. -/
theorem gWords : Tryz.prog.globalNamed "quadrivium/appeal.words" = some 0 := by kernel_rfl
theorem tWords : (Tryz.prog.globals[0]?).map (·.type) = some 74 := by kernel_rfl
theorem gPow : Tryz.prog.globalNamed "internal/strconv.uint64pow10" = some 2 := by kernel_rfl
theorem tPow : (Tryz.prog.globals[2]?).map (·.type) = some 163 := by kernel_rfl
abbrev laidAll : List (String × DataW Unit) := [("math/bits.deBruijn32tab", Rows.laid_math_bits_deBruijn32tab), ("math/bits.deBruijn64tab", Rows.laid_math_bits_deBruijn64tab), ("internal/strconv.uint64pow10", Rows.laid_internal_strconv_uint64pow10), ("quadrivium/appeal.words", Rows.laid_quadrivium_appeal_words)]
/-- The door's own heap meets the condition. -/
theorem door_met (os : Os) (args : Array Value) : laidMetH Tryz.prog laidAll ((World.doorLaid Tryz.prog 4000 os).forCall (fun _ _ => 0) ⟨#[], args, []⟩).memory :=
  laidMetH_of_parts3 (fuel := 8) (laidMet_of_run' 8 (by kernel_rfl) (by kernel_rfl)) (by kernel_rfl) (by kernel_rfl)
def pow10L : List Int := [1, 10, 100, 1000, 10000, 100000, 1000000, 10000000, 100000000, 1000000000, 10000000000, 100000000000, 1000000000000, 10000000000000, 100000000000000, 1000000000000000, 10000000000000000, 100000000000000000, 1000000000000000000, 10000000000000000000]
def wordsB : List (List UInt8) := [[102, 97, 99, 116], [101, 97, 114, 110, 101, 100], [116, 97, 107, 101, 110], [109, 101, 116], [115, 116, 97, 110, 100, 105, 110, 103], [115, 116, 105, 112, 101, 110, 100], [97, 119, 97, 114, 100], [118, 101, 114, 115, 105, 111, 110]]
theorem glob_of_laid {W : World} (h : laidMetH Tryz.prog laidAll W) : GlobW W := by
  rw [MakeChecks.laidMetH_plain _ _ _ (by kernel_rfl)] at h
  obtain ⟨ps, ⟨g0, t0, cs0, f0, p0, q0, hg0, ht0, hv0, hd0, ⟨g1, t1, cs1, f1, p1, q1, hg1, ht1, hv1, hd1, ⟨g2, t2, cs2, f2, p2, q2, hg2, ht2, hv2, hd2, ⟨g3, t3, cs3, f3, p3, q3, hg3, ht3, hv3, hd3, _, _⟩, _⟩, _⟩, _⟩, _⟩ := h
  clear hg0 ht0 hv0 hd0 hg1 ht1 hv1 hd1
  obtain rfl := Option.some.inj (gPow.symm.trans hg2)
  obtain rfl := Option.some.inj (tPow.symm.trans ht2)
  obtain rfl := Option.some.inj (gWords.symm.trans hg3)
  obtain rfl := Option.some.inj (tWords.symm.trans ht3)
  obtain ⟨xs, m1, rfl, hx1, hlen, hn, hel⟩ := DataW.trod_array Tryz.underlying74 hd3
  have c9 : Tryz.prog.cellsOf 9 = 1 := by kernel_rfl
  have hmap : xs.map (·.1) = wordsB.map fun l => (.lit (.string l) : DataW Unit) := by
    have := congrArg Prod.fst hx1
    simp only [Rows.laid_quadrivium_appeal_words, DataW.agg.injEq] at this
    exact this.symm
  have hcell : ∀ (i : Nat) (l : List UInt8), wordsB[i]? = some l → cs3[i]? = some (.string ⟨l.toArray⟩) := by
    intro i l hi
    have hlt : i < 8 := (List.getElem?_eq_some_iff.1 hi).1
    have h1 := hel i hlt
    have h2 : (xs.map (·.1))[i]? = some (.lit (.string l)) := by rw [hmap, List.getElem?_map, hi]; rfl
    rw [List.getElem?_map] at h2
    obtain ⟨x, hx, hx2⟩ := Option.map_eq_some_iff.1 h2
    rw [hx] at h1
    obtain ⟨s, e1, e2, _⟩ := DataW.trod_string Tryz.underlying9 h1
    rw [e2] at hx2
    simp only [DataW.lit.injEq, Lit.string.injEq] at hx2
    subst hx2
    rw [c9, Nat.mul_one] at e1
    have e3 : (cs3.toList.drop i)[0]? = some (.string s) := by
      have := congrArg (fun l => l[0]?) e1
      rw [List.getElem?_take] at this
      simpa using this
    rw [List.getElem?_drop, Nat.add_zero, Array.getElem?_toList] at e3
    exact e3
  have hh : ∃ ty fz, W.heap[0]? = some (.cells cs3 ty fz) := by
    simp only [World.var?, gWords, Option.bind_some] at hv3
    split at hv3
    · rename_i cs ty fz he
      injection hv3 with e
      subst e
      exact ⟨ty, fz, he⟩
    · cases hv3
  obtain ⟨ty, fz, hh⟩ := hh
  obtain ⟨ys, m2, rfl, hy1, hlen2, hn2, hel2⟩ := DataW.trod_array Tryz.underlying163 hd2
  have c137 : Tryz.prog.cellsOf 137 = 1 := by kernel_rfl
  have hmap2 : ys.map (·.1) = pow10L.map fun n => (.lit (.int .u64 n) : DataW Unit) := by
    have := congrArg Prod.fst hy1
    simp only [Rows.laid_internal_strconv_uint64pow10, DataW.agg.injEq] at this
    exact this.symm
  have hcell2 : ∀ (i : Nat) (n : Int), pow10L[i]? = some n → cs2[i]? = some (.int .u64 n) := by
    intro i n hi
    have hlt : i < 20 := (List.getElem?_eq_some_iff.1 hi).1
    have h1 := hel2 i hlt
    have h2 : (ys.map (·.1))[i]? = some (.lit (.int .u64 n)) := by rw [hmap2, List.getElem?_map, hi]; rfl
    rw [List.getElem?_map] at h2
    obtain ⟨x, hx, hx2⟩ := Option.map_eq_some_iff.1 h2
    rw [hx] at h1
    obtain ⟨s, e1, e2, _⟩ := DataW.trod_int Tryz.underlying137 h1
    rw [e2] at hx2
    simp only [DataW.lit.injEq, Lit.int.injEq, true_and] at hx2
    subst hx2
    rw [c137, Nat.mul_one] at e1
    have e3 : (cs2.toList.drop i)[0]? = some (.int .u64 s) := by
      have := congrArg (fun l => l[0]?) e1
      rw [List.getElem?_take] at this
      simpa using this
    rw [List.getElem?_drop, Nat.add_zero, Array.getElem?_toList] at e3
    exact e3
  have hh2 : ∃ ty fz, W.heap[2]? = some (.cells cs2 ty fz) := by
    simp only [World.var?, gPow, Option.bind_some] at hv2
    split at hv2
    · rename_i cs ty fz he
      injection hv2 with e
      subst e
      exact ⟨ty, fz, he⟩
    · cases hv2
  obtain ⟨ty2, fz2, hh2⟩ := hh2
  intro x hx
  have hx' : x = (0, wordsB.map fun l => .string ⟨l.toArray⟩) ∨ x = (2, pow10L.map fun n => .int .u64 n) := by
    rcases List.mem_cons.1 hx with h | h
    · exact .inl h
    · exact .inr (List.mem_singleton.1 h)
  rcases hx' with rfl | rfl
  · refine ⟨(Array.getElem?_eq_some_iff.1 hh).1, cs3, ty, fz, hh, fun j c hj => ?_⟩
    rw [List.getElem?_map] at hj
    obtain ⟨l, hl, rfl⟩ := Option.map_eq_some_iff.1 hj
    exact ⟨hcell j l hl, rfl⟩
  · refine ⟨(Array.getElem?_eq_some_iff.1 hh2).1, cs2, ty2, fz2, hh2, fun j c hj => ?_⟩
    rw [List.getElem?_map] at hj
    obtain ⟨l, hl, rfl⟩ := Option.map_eq_some_iff.1 hj
    exact ⟨hcell2 j l hl, rfl⟩
end Go.Proofs.YtgnakhljdjekbaaGreatDoor
