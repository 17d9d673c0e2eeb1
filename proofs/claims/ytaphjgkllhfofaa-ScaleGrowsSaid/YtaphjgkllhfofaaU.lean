/- Ytaphjgkllhfofaa: YtaphjgkllhfofaaU. -/
import Derived.Test.YtaphjgkllhfofaaQ
namespace Go.Proofs.Ytaphjgkllhfofaa
open Go.Proofs.Ytaphjgkllhfofaa.Am
namespace Sc
theorem rat_mul (n d : Int) (hd : 0 < d) : ∃ g : Int, 0 < g ∧ g * (rat n d).1 = n ∧ g * (rat n d).2 = d := by
  have hg : 0 < Nat.gcd n.natAbs d.natAbs := Nat.gcd_pos_of_pos_right _ (by omega)
  have h1 : (ofN n d : Int) * (Nat.gcd n.natAbs d.natAbs : Int) = (n.natAbs : Int) := by
    exact_mod_cast Nat.div_mul_cancel (Nat.gcd_dvd_left n.natAbs d.natAbs)
  have h2 : (ofD n d : Int) * (Nat.gcd n.natAbs d.natAbs : Int) = (d.natAbs : Int) := by
    exact_mod_cast Nat.div_mul_cancel (Nat.gcd_dvd_right n.natAbs d.natAbs)
  refine ⟨Nat.gcd n.natAbs d.natAbs, by exact_mod_cast hg, ?_, ?_⟩
  · simp only [rat]
    by_cases hn : n < 0
    · have e : (decide (n < 0) != decide (d < 0)) = true := by simp [hn]; omega
      rw [if_pos e, Int.mul_sub, Int.mul_zero, Int.mul_comm, h1]; omega
    · have e : ¬ (decide (n < 0) != decide (d < 0)) = true := by simp [hn]; omega
      rw [if_neg e, Int.mul_comm, h1]; omega
  · simp only [rat]
    rw [Int.mul_comm, h2]; omega
theorem rd_scale (g t d how : Int) (hg : 0 < g) : rd (g * t) (g * d) how = rd t d how := by
  have e1 : g * t / (g * d) = t / d := Int.mul_ediv_mul_of_pos _ _ hg
  have e2 : g * t % (g * d) = g * (t % d) := Int.mul_emod_mul_of_pos _ _ hg
  unfold rd
  rw [e1, e2]
  have e3 : rup (t / d) (g * (t % d)) (g * d) how = rup (t / d) (t % d) d how := by
    generalize t / d = L
    generalize t % d = R
    have a1 : g * R > 0 ↔ R > 0 := ⟨fun h => Int.pos_of_mul_pos_right (a := g) h (by omega), fun h => Int.mul_pos hg h⟩
    have a2 : 2 * (g * R) = g * (2 * R) := by rw [← Int.mul_assoc, ← Int.mul_assoc, Int.mul_comm 2 g]
    have a3 : g * (2 * R) ≥ g * d ↔ 2 * R ≥ d := ⟨fun h => Int.le_of_mul_le_mul_left h hg, fun h => Int.mul_le_mul_of_nonneg_left h (by omega)⟩
    have a4 : g * (2 * R) = g * d ↔ 2 * R = d := ⟨fun h => Int.eq_of_mul_eq_mul_left (by omega) h, fun h => by rw [h]⟩
    have a5 : g * (2 * R) > g * d ↔ 2 * R > d := ⟨fun h => Int.lt_of_mul_lt_mul_left h (by omega), fun h => Int.mul_lt_mul_of_pos_left h hg⟩
    simp only [rup, a1, a2, a3, a4, a5]
  rw [e3]
theorem cvt_ok {c : Cnv} {s : Scl} {gs cs : List Int} (hc : okC c) (hs : okS s) (hl : gs.length = cs.length) (h0 : 0 < gs.length) (hm : gs.length ≤ 2000) (ho : okL gs cs gs.length) :
    cvt c s (mv gs cs) = (lim (rd (sN gs cs gs.length * c.1 + c.2.1 * sD cs gs.length) (sD cs gs.length * c.2.2.1) c.2.2.2) s.1 s.2.1, 0) := by
  have hb := sums_b gs cs _ ho
  rw [mv_ok (by omega) (by omega) ho]
  unfold cvt
  rw [if_neg (not_not_intro hc), if_neg (not_not_intro hs), if_neg (by simp)]
  generalize sN gs cs gs.length = S at *
  generalize sD cs gs.length = A at *
  obtain ⟨g, hg, e1, e2⟩ := rat_mul S A (by omega)
  generalize rat S A = m at *
  have e3 : S * c.1 + c.2.1 * A = g * top m c := by
    rw [← e1, ← e2]; simp only [top]
    rw [Int.mul_add, ← Int.mul_assoc, ← Int.mul_assoc, ← Int.mul_assoc, Int.mul_comm c.2.1 g]
  have e4 : A * c.2.2.1 = g * (m.2 * c.2.2.1) := by rw [← e2, Int.mul_assoc]
  rw [e3, e4, rd_scale _ _ _ _ hg]
theorem once_plain {TL B how : Int} (hB : 0 < B) (hn : -1000000000000 ≤ TL ∧ TL ≤ 1000000000000) (hh : 1 ≤ how ∧ how ≤ 4) {n : Int} (e : lim (rd TL B how) (-1000) 1000 = n) :
    (-1000 ≤ n ∧ n ≤ 1000) ∧ (TL < -1000 * B → n = -1000) ∧ (TL > 1000 * B → n = 1000) ∧ (¬ TL < -1000 * B → ¬ TL > 1000 * B → ∃ rs, n * B = TL - rs ∧ (-B < rs ∧ rs < B) ∧ (how = 1 → 0 ≤ rs) ∧ (how = 2 → rs ≤ 0) ∧ (how = 3 → 2 * rs < B ∧ -2 * rs ≤ B) ∧ (how = 4 → 2 * rs ≤ B ∧ -2 * rs ≤ B ∧ ((2 * rs < B ∧ -2 * rs < B) ∨ n.tmod 2 = 0))) := by
  obtain ⟨L, X, h1, h2, h3, h4, h5, h6, h7, h8⟩ := fl_case TL B hB hn
  have hs := lim_spec (rd TL B how) (-1000) 1000
  rw [e] at hs
  rw [rd_of h1 h2 rfl] at hs
  have c1 : TL < -1000 * B → L < -1000 := fun h => Int.lt_of_mul_lt_mul_right (a := B) (by omega) (by omega)
  have c2 : ¬ TL < -1000 * B → -1000 ≤ L := fun h => by
    have : -1001 < L := Int.lt_of_mul_lt_mul_right (a := B) (by omega) (by omega)
    omega
  have c3 : TL > 1000 * B → 1000 ≤ L := fun h => by
    have : 999 < L := Int.lt_of_mul_lt_mul_right (a := B) (by omega) (by omega)
    omega
  have c4 : ¬ TL > 1000 * B → L < 1000 ∨ (L = 1000 ∧ X = 0) := fun h => by
    by_cases hL : L < 1000
    · exact .inl hL
    · have : 1000 * B ≤ L * B := Int.mul_le_mul_of_nonneg_right (by omega) (by omega)
      have h9 : L * B = 1000 * B := by omega
      exact .inr ⟨Int.eq_of_mul_eq_mul_right (by omega) h9, by omega⟩
  have hr : (how = 1 → rup L X B how = false) ∧ (how = 2 → rup L X B how = decide (X > 0)) ∧ (how = 3 → rup L X B how = decide (2 * X ≥ B)) ∧ (how = 4 → rup L X B how = decide (2 * X > B ∨ 2 * X = B ∧ L.tmod 2 ≠ 0)) := by
    refine ⟨?_, ?_, ?_, ?_⟩ <;> rintro rfl <;> rfl
  obtain ⟨r1, r2, r3, r4⟩ := hr
  have hX : X = 0 → rup L X B how = false := by
    intro hX
    have hc : how = 1 ∨ how = 2 ∨ how = 3 ∨ how = 4 := by omega
    rcases hc with h | h | h | h
    · exact r1 h
    · rw [r2 h]; exact decide_eq_false (by omega)
    · rw [r3 h]; exact decide_eq_false (by omega)
    · rw [r4 h]; exact decide_eq_false (by omega)
  have hpar : (L + 1).tmod 2 = 0 ∨ L.tmod 2 = 0 := by
    have a := Int.tmod_add_mul_tdiv L 2
    have b := Int.tmod_add_mul_tdiv (L + 1) 2
    have c := tmod_bound L (m := 2) (by omega)
    have d := tmod_bound (L + 1) (m := 2) (by omega)
    omega
  generalize rup L X B how = u at *
  cases u
  · simp only [Bool.false_eq_true, if_false] at hs
    refine ⟨by omega, fun h => by have := c1 h; omega, fun h => by have := c3 h; omega, fun ha hb => ⟨X, ?_, by omega, fun _ => h3, fun h => ?_, fun h => ?_, fun h => ?_⟩⟩
    · have : n = L := by have := c2 ha; have := c4 hb; omega
      rw [this]; omega
    · have := of_decide_eq_false (r2 h).symm; omega
    · have := of_decide_eq_false (r3 h).symm; omega
    · have h9 := of_decide_eq_false (r4 h).symm
      have hnL : n = L := by have := c2 ha; have := c4 hb; omega
      rw [hnL]
      by_cases h10 : 2 * X = B
      · have : L.tmod 2 = 0 := by
          by_cases h11 : L.tmod 2 = 0
          · exact h11
          · exact absurd (.inr ⟨h10, h11⟩) h9
        exact ⟨by omega, by omega, .inr this⟩
      · have : ¬ 2 * X > B := fun h11 => h9 (.inl h11)
        exact ⟨by omega, by omega, .inl (by omega)⟩
  · simp only [if_true] at hs
    have hX0 : X ≠ 0 := fun h => by cases hX h
    refine ⟨by omega, fun h => by have := c1 h; omega, fun h => by have := c3 h; omega, fun ha hb => ⟨X - B, ?_, by omega, fun h => ?_, fun h => ?_, fun h => ?_, fun h => ?_⟩⟩
    · have : n = L + 1 := by have := c2 ha; have := c4 hb; omega
      rw [this]; omega
    · cases r1 h
    · omega
    · have := of_decide_eq_true (r3 h).symm; omega
    · have h9 := of_decide_eq_true (r4 h).symm
      have hnL : n = L + 1 := by have := c2 ha; have := c4 hb; omega
      rw [hnL]
      rcases h9 with h9 | ⟨h9, h10⟩
      · exact ⟨by omega, by omega, .inl (by omega)⟩
      · refine ⟨by omega, by omega, .inr ?_⟩
        rcases hpar with h11 | h11
        · exact h11
        · exact absurd h11 h10
theorem rup_mono {L R R' d how : Int} (h : R ≤ R') (hr : rup L R d how = true) : rup L R' d how = true := by
  unfold rup at *
  repeat' split
  all_goals simp_all
  all_goals omega
theorem rd_mono {t t' d how : Int} (hd : 0 < d) (h : t ≤ t') : rd t d how ≤ rd t' d how := by
  have h1 : t / d ≤ t' / d := Int.ediv_le_ediv hd h
  have e1 := Int.mul_ediv_add_emod t d
  have e2 := Int.mul_ediv_add_emod t' d
  unfold rd
  by_cases heq : t / d = t' / d
  · rw [← heq] at e2 ⊢
    have hR : t % d ≤ t' % d := by omega
    by_cases hu : rup (t / d) (t % d) d how = true
    · rw [if_pos hu, if_pos (rup_mono hR hu)]; omega
    · rw [if_neg hu]; split <;> omega
  · split <;> split <;> omega
end Sc
end Go.Proofs.Ytaphjgkllhfofaa
