/- The owned machine, part FZ: rows frozen in the middle of a walk. -/
import Derived.Test.YtcfokhkdphodoaaAmVC
set_option linter.all false
namespace Go.Proofs.Ytcfokhkdphodoaa.Am
set_option linter.unusedVariables false
def frFrz (H : AH) (F : Nat → Bool) : Fr → Fr
  | [] => []
  | (t, v) :: l => (t, v.frz H F) :: frFrz H F l
def frFrzOk (H : AH) (F : Nat → Bool) : Fr → Bool
  | [] => true
  | (_, v) :: l => v.frzOk H F && frFrzOk H F l
theorem fget_frz (H : AH) (F : Nat → Bool) (t : Nat) : ∀ fr : Fr, frFrzOk H F fr = true → fget (frFrz H F fr) t = (fget fr t).frz H F ∧ (fget fr t).frzOk H F = true
  | [], _ => ⟨rfl, rfl⟩
  | (i, v) :: l, h => by
    rw [frFrzOk, Bool.and_eq_true] at h
    simp only [frFrz, fget]
    split
    · exact ⟨rfl, h.1⟩
    · exact fget_frz H F t l h.2
theorem SW.frz {p n : Nat} {s : AS} (F : List Nat) (hrows : rowsOk s.H F = true) (hok : AH.frzOk s.H s.H F.contains = true) (hfr : frFrzOk s.H F.contains s.fr = true) : SW p n s ⟨frFrz s.H F.contains s.fr, AH.frz s.H s.H F.contains, s.nx⟩ := fun w g a hs => by
  refine ⟨g.frz F.contains, ⟨fun _ _ => rfl, fun b hb => ⟨.inl hb, rfl⟩, fun _ cs _ _ h => ⟨cs, h, rfl⟩, Ext.refl w g s.H, fun id B b E hi hb hlt => ?_, fun b hb hlt => ?_⟩, ⟨?_, HRel.frz hs.H hrows hok, ?_⟩⟩
  · obtain ⟨_, B0, b1, _⟩ := AH.frz_get hi hok
    exact ⟨id, B0, E, b1, hb⟩
  · rcases hb with hb | ⟨id, E, hid, hφ⟩
    · exact .inl hb
    · have := List.all_eq_true.1 hrows id (by simpa using hid)
      cases hg : s.H.get id with
      | none => rw [hg] at this; cases this
      | some B1 => exact .inr ⟨id, B1, E, hg, hφ⟩
  · refine ⟨hs.fr.size, fun t => ?_⟩
    obtain ⟨e1, e2⟩ := fget_frz s.H F.contains t s.fr hfr
    rw [e1]
    exact frz_cv hs.H (rowsOk.rows hrows) (hs.fr.at_ t) e2
  · exact hs.nx
end Go.Proofs.Ytcfokhkdphodoaa.Am
