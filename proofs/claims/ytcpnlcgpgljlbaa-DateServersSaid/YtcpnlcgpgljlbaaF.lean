/- Both clocks by one model: what Now and Hear return and what they leave, for a clock that is nil, and for one that New made. -/
import Derived.Test.YtcpnlcgpgljlbaaS
namespace Go.Proofs.Ytcpnlcgpgljlbaa
open Go.RowKit
set_option linter.unusedVariables false

/-- From w to w' nothing has changed below block B, and above it only blocks whose elements are of a type in T. -/
structure Step (T : Nat → Prop) (B : Nat) (w w' : World) : Prop where
  os : w'.os = w.os
  tape : w'.tape = w.tape
  output : w'.output = w.output
  size : w.heap.size ≤ w'.heap.size
  block : ∀ k, k < w.heap.size → w'.heap[k]? = w.heap[k]? ∨ (B ≤ k ∧ ∃ cs t, T t ∧ w.heap[k]? = some (.cells cs t (0, 0)) ∧ ∃ cs', w'.heap[k]? = some (.cells cs' t (0, 0)))
section
variable {T T' : Nat → Prop} {B : Nat}
theorem Step.refl (T : Nat → Prop) (B : Nat) (w : World) : Step T B w w := ⟨rfl, rfl, rfl, Nat.le_refl _, fun _ _ => .inl rfl⟩
theorem Step.trans {a b c : World} (h : Step T B a b) (k : Step T B b c) : Step T B a c := by
  refine ⟨k.os.trans h.os, k.tape.trans h.tape, k.output.trans h.output, Nat.le_trans h.size k.size, fun i hi => ?_⟩
  rcases h.block i hi with h1 | ⟨hB, cs, t, ht, h1, cs', h2⟩
  · rcases k.block i (Nat.lt_of_lt_of_le hi h.size) with k1 | ⟨kB, ds, u, hu, k1, ds', k2⟩
    · exact .inl (k1.trans h1)
    · exact .inr ⟨kB, ds, u, hu, h1.symm.trans k1, ds', k2⟩
  · rcases k.block i (Nat.lt_of_lt_of_le hi h.size) with k1 | ⟨kB, ds, u, hu, k1, ds', k2⟩
    · exact .inr ⟨hB, cs, t, ht, h1, cs', k1.trans h2⟩
    · rw [h2] at k1
      injection k1 with k1
      injection k1 with _ k1
      subst k1
      exact .inr ⟨hB, cs, t, ht, h1, ds', k2⟩
theorem Step.mono {a b : World} (h : Step T B a b) (hT : ∀ t, T t → T' t) : Step T' B a b :=
  ⟨h.os, h.tape, h.output, h.size, fun k hk => (h.block k hk).imp id fun ⟨hB, cs, t, ht, h1⟩ => ⟨hB, cs, t, hT t ht, h1⟩⟩
theorem Step.of_below {w w' : World} (h : Below w.heap.size w w') : Step T B w w' := ⟨h.os, h.tape, h.output, h.size, fun k hk => .inl (h.block k hk)⟩
theorem Step.below {w w' : World} (h : Step T B w w') (hB : B ≤ w.heap.size) : Below B w w' :=
  ⟨h.os, h.tape, h.output, h.size, fun k hk => by
    rcases h.block k (Nat.lt_of_lt_of_le hk hB) with h1 | ⟨h1, _⟩
    · exact h1
    · omega⟩
theorem Step.drew {a w : World} (h : Step T B a w) : Step T B a w.drew := ⟨h.os, h.tape, h.output, h.size, h.block⟩
theorem Step.drewN {a w : World} (h : Step T B a w) (n : Nat) : Step T B a (w.drewN n) := ⟨h.os, h.tape, h.output, h.size, h.block⟩
theorem Step.alloc {a w : World} (h : Step T B a w) (o : Obj) : Step T B a (w.alloc o) := h.trans (Step.of_below ((Below.refl _ _).alloc (Nat.le_refl _) _))
theorem Blk.step {w w' : World} {g t : Nat} {cs : Array Value} (h : Blk w g t cs) (hs : Step T B w w') (ht : ¬ T t) : Blk w' g t cs := by
  rcases hs.block g h.lt with h1 | ⟨_, ds, u, hu, h1, _⟩
  · exact h1.trans h
  · unfold Blk at h
    rw [h] at h1
    simp only [Option.some.injEq, Obj.cells.injEq] at h1
    obtain ⟨_, h2, _⟩ := h1
    exact absurd (h2 ▸ hu) ht
theorem Step.of_grown {b t : Nat} {w w' : World} {cs cs' : Array Value} (h : w.grownBy w' (some b)) (hb : B ≤ b) (h1 : Blk w b t cs) (h2 : Blk w' b t cs') (ht : T t) : Step T B w w' := by
  refine ⟨h.os, h.tape, h.output, h.size, fun k hk => ?_⟩
  by_cases hkb : k = b
  · subst hkb
    exact .inr ⟨hb, cs, t, ht, h1, cs', h2⟩
  · exact .inl (h.block k hk (by simpa using hkb))
end

/-- The pointer p is a clock of type t, in block B or later: nil, or with these numbers. -/
def At (w : World) (B t : Nat) (p : Value) : Option (Int × Int × Int × Int) → Prop
  | none => p = .pointer none
  | some (sv, d, c, s) => ∃ b, p = .pointer (some ⟨b, 0, none⟩) ∧ B ≤ b ∧ Blk w b t (ck sv d c s) ∧ 1 ≤ sv ∧ sv ≤ 8 ∧ 0 ≤ d ∧ d ≤ 100000 ∧ -1 ≤ c ∧ c ≤ 1073741824
theorem At.drew {w : World} {B t : Nat} {p : Value} {st} (h : At w B t p st) : At w.drew B t p st := by
  unfold At at *
  split at h <;> exact h
theorem At.step {T : Nat → Prop} {w w' : World} {B t : Nat} {p : Value} {st} (h : At w B t p st) (hs : Step T B w w') (ht : ¬ T t) : At w' B t p st := by
  unfold At at *
  split at h
  · exact h
  · obtain ⟨b, h1, h2, h3, h4⟩ := h
    exact ⟨b, h1, h2, h3.step hs ht, h4⟩
theorem At.below {w w' : World} {B t : Nat} {p : Value} {st} (h : At w B t p st) (hb : Below w.heap.size w w') : At w' B t p st :=
  h.step (T := fun _ => False) (Step.of_below hb) (fun h => h)

/-- What Now returns (day, count, server, errno), and what the clock is then. -/
def nowR : Option (Int × Int × Int × Int) → Int → Int × Int × Int × Int
  | none, _ => (0, 0, 0, 1)
  | some (sv, d, c, s), day => if rightB day = false then (0, 0, 0, 23) else if day ≤ d then (if c < 1073741824 then (d, c + 1, sv, 0) else (0, 0, 0, 3)) else (day, 0, sv, 0)
def nowS : Option (Int × Int × Int × Int) → Int → Option (Int × Int × Int × Int)
  | none, _ => none
  | some (sv, d, c, s), day => if rightB day = false then some (sv, d, c, s) else if day ≤ d then (if c < 1073741824 then some (sv, d, c + 1, sv) else some (sv, d, c, s)) else some (sv, day, 0, sv)
def hearR : Option (Int × Int × Int × Int) → Int → Int → Int → Int → Int
  | none, _, _, _, _ => 1
  | some _, sd, sc, ss, day => if rightB day = false ∨ rightB sd = false ∨ 5 < sd - day then 23 else if sc < 0 ∨ 1073741824 < sc ∨ ss < 1 ∨ 8 < ss then 3 else 0
def hearS : Option (Int × Int × Int × Int) → Int → Int → Int → Int → Option (Int × Int × Int × Int)
  | none, _, _, _, _ => none
  | some (sv, d, c, s), sd, sc, ss, day => if hearR (some (sv, d, c, s)) sd sc ss day = 0 ∧ lessB d c s sd sc ss = true then some (sv, sd, sc, ss) else some (sv, d, c, s)
abbrev stamp (r : Int × Int × Int × Int) : Value := .agg #[.int .i64 r.1, .int .i64 r.2.1, .int .i64 r.2.2.1]

theorem none_nil (w : World) : Calls Try.prog 37 #[.pointer none] w fun e w' => e = .returned (.bool true) ∧ w = w' := by
  go_enter Try.func37, Try.ntmps37
  go_wp2
  go_ret
  exact ⟨rfl, rfl⟩
theorem now_nil (day : Int) (w : World) : Calls Try.prog 30 #[.pointer none, .int .i64 day] w fun e w' => e = .returned (.tuple #[.agg #[.int .i64 0, .int .i64 0, .int .i64 0], .int .i64 1]) ∧ Below w.heap.size w w' := by
  go_enter Try.func30, Try.ntmps30
  go_wp2_with (go_at_call 37; refine (none_nil _).mono ?_; rintro e w' ⟨rfl, rfl⟩)
  go_returns
  exact ⟨rfl, by go_grown⟩
theorem rnow_nil (day : Int) (w : World) : Calls Try.prog 31 #[.pointer none, .int .i64 day] w fun e w' => e = .returned (.tuple #[.agg #[.int .i64 0, .int .i64 0, .int .i64 0], .int .i64 1]) ∧ Below w.heap.size w w' := by
  go_enter Try.func31, Try.ntmps31
  go_wp2
  go_returns
  exact ⟨rfl, by go_grown⟩
theorem hear_nil (a b c day : Int) (w : World) : Calls Try.prog 28 #[.pointer none, .agg #[.int .i64 a, .int .i64 b, .int .i64 c], .int .i64 day] w fun e w' => e = .returned (.int .i64 1) ∧ Below w.heap.size w w' := by
  go_enter Try.func28, Try.ntmps28
  go_wp2_with (go_at_call 37; refine (none_nil _).mono ?_; rintro e w' ⟨rfl, rfl⟩)
  go_ret
  exact ⟨rfl, by go_grown⟩
theorem rhear_nil (a b c day : Int) (w : World) : Calls Try.prog 29 #[.pointer none, .agg #[.int .i64 a, .int .i64 b, .int .i64 c], .int .i64 day] w fun e w' => e = .returned (.int .i64 1) ∧ Below w.heap.size w w' := by
  go_enter Try.func29, Try.ntmps29
  go_wp2
  go_ret
  exact ⟨rfl, by go_grown⟩

theorem now_P {B : Nat} {p : Value} {st : Option (Int × Int × Int × Int)} (day : Int) (w : World) (h : At w B 57 p st) :
    Calls Try.prog 30 #[p, .int .i64 day] w fun e w' => e = .returned (.tuple #[stamp (nowR st day), .int .i64 (nowR st day).2.2.2]) ∧ At w' B 57 p (nowS st day) ∧ Step (· = 57) B w w' := by
  match st, h with
  | none, h =>
    have h : p = .pointer none := h
    subst h
    exact (now_nil day w).mono fun e w' ⟨he, hb⟩ => ⟨he, rfl, Step.of_below hb⟩
  | some (sv, d, c, s), h =>
    obtain ⟨b, rfl, hB, hk, v1, v2, v3, v4, v5, v6⟩ := h
    by_cases g1 : rightB day = false
    · refine (now_bad b sv d c s day w hk v1 g1).mono fun e w' ⟨he, hb⟩ => ?_
      simp only [nowR, nowS, g1, if_true]
      exact ⟨he, ⟨b, rfl, hB, hk.below hb hk.lt, v1, v2, v3, v4, v5, v6⟩, Step.of_below hb⟩
    · have g1' : rightB day = true := by simpa using g1
      obtain ⟨r1, r2⟩ := right_bd g1'
      by_cases g2 : day ≤ d
      · by_cases g3 : c < 1073741824
        · refine (now_late b sv d c s day w hk v1 g1' g2 v5 g3).mono fun e w' ⟨he, hk', hg⟩ => ?_
          simp only [nowR, nowS, g1, g2, g3, if_true]
          exact ⟨he, ⟨b, rfl, hB, hk', v1, v2, v3, v4, by omega, by omega⟩, Step.of_grown hg hB hk hk' rfl⟩
        · refine (now_full b sv d c s day w hk v1 g1' g2 (by omega) v6).mono fun e w' ⟨he, hb⟩ => ?_
          simp only [nowR, nowS, g1, g2, g3, if_true, if_false]
          exact ⟨he, ⟨b, rfl, hB, hk.below hb hk.lt, v1, v2, v3, v4, v5, v6⟩, Step.of_below hb⟩
      · refine (now_new b sv d c s day w hk v1 g1' (by omega)).mono fun e w' ⟨he, hk', hg⟩ => ?_
        simp only [nowR, nowS, g1, g2, if_false]
        exact ⟨he, ⟨b, rfl, hB, hk', v1, v2, r1, r2, by omega, by omega⟩, Step.of_grown hg hB hk hk' rfl⟩

theorem rnow_P {B : Nat} {p : Value} {st : Option (Int × Int × Int × Int)} (day : Int) (w : World) (h : At w B 64 p st) :
    Calls Try.prog 31 #[p, .int .i64 day] w fun e w' => e = .returned (.tuple #[stamp (nowR st day), .int .i64 (nowR st day).2.2.2]) ∧ At w' B 64 p (nowS st day) ∧ Step (· = 64) B w w' := by
  match st, h with
  | none, h =>
    have h : p = .pointer none := h
    subst h
    exact (rnow_nil day w).mono fun e w' ⟨he, hb⟩ => ⟨he, rfl, Step.of_below hb⟩
  | some (sv, d, c, s), h =>
    obtain ⟨b, rfl, hB, hk, v1, v2, v3, v4, v5, v6⟩ := h
    by_cases g1 : rightB day = false
    · refine (rnow_bad b sv d c s day w hk v1 g1).mono fun e w' ⟨he, hb⟩ => ?_
      simp only [nowR, nowS, g1, if_true]
      exact ⟨he, ⟨b, rfl, hB, hk.below hb hk.lt, v1, v2, v3, v4, v5, v6⟩, Step.of_below hb⟩
    · have g1' : rightB day = true := by simpa using g1
      obtain ⟨r1, r2⟩ := right_bd g1'
      by_cases g2 : day ≤ d
      · by_cases g3 : c < 1073741824
        · refine (rnow_late b sv d c s day w hk v1 g1' g2 v5 g3).mono fun e w' ⟨he, hk', hg⟩ => ?_
          simp only [nowR, nowS, g1, g2, g3, if_true]
          exact ⟨he, ⟨b, rfl, hB, hk', v1, v2, v3, v4, by omega, by omega⟩, Step.of_grown hg hB hk hk' rfl⟩
        · refine (rnow_full b sv d c s day w hk v1 g1' g2 (by omega) v6).mono fun e w' ⟨he, hb⟩ => ?_
          simp only [nowR, nowS, g1, g2, g3, if_true, if_false]
          exact ⟨he, ⟨b, rfl, hB, hk.below hb hk.lt, v1, v2, v3, v4, v5, v6⟩, Step.of_below hb⟩
      · refine (rnow_new b sv d c s day w hk v1 g1' (by omega) v5 v6).mono fun e w' ⟨he, hk', hg⟩ => ?_
        simp only [nowR, nowS, g1, g2, if_false]
        exact ⟨he, ⟨b, rfl, hB, hk', v1, v2, r1, r2, by omega, by omega⟩, Step.of_grown hg hB hk hk' rfl⟩

theorem hear_P {B : Nat} {p : Value} {st : Option (Int × Int × Int × Int)} (sd sc ss day : Int) (w : World) (h : At w B 57 p st) :
    Calls Try.prog 28 #[p, .agg #[.int .i64 sd, .int .i64 sc, .int .i64 ss], .int .i64 day] w fun e w' => e = .returned (.int .i64 (hearR st sd sc ss day)) ∧ At w' B 57 p (hearS st sd sc ss day) ∧ Step (· = 57) B w w' := by
  match st, h with
  | none, h =>
    have h : p = .pointer none := h
    subst h
    exact (hear_nil sd sc ss day w).mono fun e w' ⟨he, hb⟩ => ⟨he, rfl, Step.of_below hb⟩
  | some (sv, d, c, s), h =>
    obtain ⟨b, rfl, hB, hk, v1, v2, v3, v4, v5, v6⟩ := h
    have stay : ∀ (x : Int) (e : Ending) (w' : World), hearR (some (sv, d, c, s)) sd sc ss day = x → (x = 0 → lessB d c s sd sc ss = false) → e = .returned (.int .i64 x) ∧ Below w.heap.size w w' →
        (e = .returned (.int .i64 (hearR (some (sv, d, c, s)) sd sc ss day)) ∧ At w' B 57 (.pointer (some ⟨b, 0, none⟩)) (hearS (some (sv, d, c, s)) sd sc ss day) ∧ Step (· = 57) B w w') := by
      intro x e w' hR hl ⟨he, hb⟩
      have hS : hearS (some (sv, d, c, s)) sd sc ss day = some (sv, d, c, s) := by
        simp only [hearS, hR]
        by_cases hx : x = 0
        · simp [hl hx]
        · simp [hx]
      rw [hS, hR]
      exact ⟨he, ⟨b, rfl, hB, hk.below hb hk.lt, v1, v2, v3, v4, v5, v6⟩, Step.of_below hb⟩
    by_cases g1 : rightB day = false
    · exact (hear_bad1 b sv d c s sd sc ss day w hk v1 g1).mono fun e w' hh => stay 23 e w' (by simp [hearR, g1]) (by omega) hh
    have g1' : rightB day = true := by simpa using g1
    by_cases g2 : rightB sd = false
    · exact (hear_bad2 b sv d c s sd sc ss day w hk v1 g1' g2).mono fun e w' hh => stay 23 e w' (by simp [hearR, g2]) (by omega) hh
    have g2' : rightB sd = true := by simpa using g2
    obtain ⟨r1, r2⟩ := right_bd g2'
    by_cases g3 : 5 < sd - day
    · exact (hear_bad3 b sv d c s sd sc ss day w hk v1 g1' g2' g3).mono fun e w' hh => stay 23 e w' (by simp [hearR, g3]) (by omega) hh
    have hR3 : (sc < 0 ∨ 1073741824 < sc ∨ ss < 1 ∨ 8 < ss) → hearR (some (sv, d, c, s)) sd sc ss day = 3 := fun hh => by
      show (if rightB day = false ∨ rightB sd = false ∨ 5 < sd - day then (23 : Int) else if sc < 0 ∨ 1073741824 < sc ∨ ss < 1 ∨ 8 < ss then 3 else 0) = 3
      rw [if_neg (by simp [g1', g2']; omega), if_pos hh]
    by_cases q1 : sc < 0
    · exact (hear_rng1 b sv d c s sd sc ss day w hk v1 g1' g2' (by omega) q1).mono fun e w' hh => stay 3 e w' (hR3 (by omega)) (by omega) hh
    by_cases q2 : 1073741824 < sc
    · exact (hear_rng2 b sv d c s sd sc ss day w hk v1 g1' g2' (by omega) (by omega) q2).mono fun e w' hh => stay 3 e w' (hR3 (by omega)) (by omega) hh
    by_cases q3 : ss < 1
    · exact (hear_rng3 b sv d c s sd sc ss day w hk v1 g1' g2' (by omega) (by omega) (by omega) q3).mono fun e w' hh => stay 3 e w' (hR3 (by omega)) (by omega) hh
    by_cases q4 : 8 < ss
    · exact (hear_rng4 b sv d c s sd sc ss day w hk v1 g1' g2' (by omega) (by omega) (by omega) (by omega) q4).mono fun e w' hh => stay 3 e w' (hR3 (by omega)) (by omega) hh
    have hR0 : hearR (some (sv, d, c, s)) sd sc ss day = 0 := by
      have hn : ¬ (sc < 0 ∨ 1073741824 < sc ∨ ss < 1 ∨ 8 < ss) := by omega
      show (if rightB day = false ∨ rightB sd = false ∨ 5 < sd - day then (23 : Int) else if sc < 0 ∨ 1073741824 < sc ∨ ss < 1 ∨ 8 < ss then 3 else 0) = 0
      rw [if_neg (by simp [g1', g2']; omega), if_neg hn]
    by_cases gl : lessB d c s sd sc ss = true
    · refine (hear_take b sv d c s sd sc ss day w hk v1 g1' g2' (by omega) (by omega) (by omega) (by omega) (by omega) gl).mono fun e w' ⟨he, hk', hg⟩ => ?_
      have hS : hearS (some (sv, d, c, s)) sd sc ss day = some (sv, sd, sc, ss) := by simp only [hearS, hR0, gl, and_self, if_true]
      rw [hS, hR0]
      exact ⟨he, ⟨b, rfl, hB, hk', v1, v2, r1, r2, by omega, by omega⟩, Step.of_grown hg hB hk hk' rfl⟩
    · have gl' : lessB d c s sd sc ss = false := by simpa using gl
      exact (hear_keep b sv d c s sd sc ss day w hk v1 g1' g2' (by omega) (by omega) (by omega) (by omega) (by omega) gl').mono fun e w' hh => stay 0 e w' hR0 (fun _ => gl') hh

theorem rhear_P {B : Nat} {p : Value} {st : Option (Int × Int × Int × Int)} (sd sc ss day : Int) (w : World) (h : At w B 64 p st) :
    Calls Try.prog 29 #[p, .agg #[.int .i64 sd, .int .i64 sc, .int .i64 ss], .int .i64 day] w fun e w' => e = .returned (.int .i64 (hearR st sd sc ss day)) ∧ At w' B 64 p (hearS st sd sc ss day) ∧ Step (· = 64) B w w' := by
  match st, h with
  | none, h =>
    have h : p = .pointer none := h
    subst h
    exact (rhear_nil sd sc ss day w).mono fun e w' ⟨he, hb⟩ => ⟨he, rfl, Step.of_below hb⟩
  | some (sv, d, c, s), h =>
    obtain ⟨b, rfl, hB, hk, v1, v2, v3, v4, v5, v6⟩ := h
    have stay : ∀ (x : Int) (e : Ending) (w' : World), hearR (some (sv, d, c, s)) sd sc ss day = x → (x = 0 → lessB d c s sd sc ss = false) → e = .returned (.int .i64 x) ∧ Below w.heap.size w w' →
        (e = .returned (.int .i64 (hearR (some (sv, d, c, s)) sd sc ss day)) ∧ At w' B 64 (.pointer (some ⟨b, 0, none⟩)) (hearS (some (sv, d, c, s)) sd sc ss day) ∧ Step (· = 64) B w w') := by
      intro x e w' hR hl ⟨he, hb⟩
      have hS : hearS (some (sv, d, c, s)) sd sc ss day = some (sv, d, c, s) := by
        simp only [hearS, hR]
        by_cases hx : x = 0
        · simp [hl hx]
        · simp [hx]
      rw [hS, hR]
      exact ⟨he, ⟨b, rfl, hB, hk.below hb hk.lt, v1, v2, v3, v4, v5, v6⟩, Step.of_below hb⟩
    by_cases g1 : rightB day = false
    · exact (rhear_bad1 b sv d c s sd sc ss day w hk v1 g1).mono fun e w' hh => stay 23 e w' (by simp [hearR, g1]) (by omega) hh
    have g1' : rightB day = true := by simpa using g1
    by_cases g2 : rightB sd = false
    · exact (rhear_bad2 b sv d c s sd sc ss day w hk v1 g1' g2).mono fun e w' hh => stay 23 e w' (by simp [hearR, g2]) (by omega) hh
    have g2' : rightB sd = true := by simpa using g2
    obtain ⟨r1, r2⟩ := right_bd g2'
    by_cases g3 : 5 < sd - day
    · exact (rhear_bad3 b sv d c s sd sc ss day w hk v1 g1' g2' g3).mono fun e w' hh => stay 23 e w' (by simp [hearR, g3]) (by omega) hh
    have hR3 : (sc < 0 ∨ 1073741824 < sc ∨ ss < 1 ∨ 8 < ss) → hearR (some (sv, d, c, s)) sd sc ss day = 3 := fun hh => by
      show (if rightB day = false ∨ rightB sd = false ∨ 5 < sd - day then (23 : Int) else if sc < 0 ∨ 1073741824 < sc ∨ ss < 1 ∨ 8 < ss then 3 else 0) = 3
      rw [if_neg (by simp [g1', g2']; omega), if_pos hh]
    by_cases q1 : sc < 0
    · exact (rhear_rng1 b sv d c s sd sc ss day w hk v1 g1' g2' (by omega) q1).mono fun e w' hh => stay 3 e w' (hR3 (by omega)) (by omega) hh
    by_cases q2 : 1073741824 < sc
    · exact (rhear_rng2 b sv d c s sd sc ss day w hk v1 g1' g2' (by omega) (by omega) q2).mono fun e w' hh => stay 3 e w' (hR3 (by omega)) (by omega) hh
    by_cases q3 : ss < 1
    · exact (rhear_rng3 b sv d c s sd sc ss day w hk v1 g1' g2' (by omega) (by omega) (by omega) q3).mono fun e w' hh => stay 3 e w' (hR3 (by omega)) (by omega) hh
    by_cases q4 : 8 < ss
    · exact (rhear_rng4 b sv d c s sd sc ss day w hk v1 g1' g2' (by omega) (by omega) (by omega) (by omega) q4).mono fun e w' hh => stay 3 e w' (hR3 (by omega)) (by omega) hh
    have hR0 : hearR (some (sv, d, c, s)) sd sc ss day = 0 := by
      have hn : ¬ (sc < 0 ∨ 1073741824 < sc ∨ ss < 1 ∨ 8 < ss) := by omega
      show (if rightB day = false ∨ rightB sd = false ∨ 5 < sd - day then (23 : Int) else if sc < 0 ∨ 1073741824 < sc ∨ ss < 1 ∨ 8 < ss then 3 else 0) = 0
      rw [if_neg (by simp [g1', g2']; omega), if_neg hn]
    by_cases gl : lessB d c s sd sc ss = true
    · refine (rhear_take b sv d c s sd sc ss day w hk v1 g1' g2' (by omega) (by omega) (by omega) (by omega) (by omega) gl).mono fun e w' ⟨he, hk', hg⟩ => ?_
      have hS : hearS (some (sv, d, c, s)) sd sc ss day = some (sv, sd, sc, ss) := by simp only [hearS, hR0, gl, and_self, if_true]
      rw [hS, hR0]
      exact ⟨he, ⟨b, rfl, hB, hk', v1, v2, r1, r2, by omega, by omega⟩, Step.of_grown hg hB hk hk' rfl⟩
    · have gl' : lessB d c s sd sc ss = false := by simpa using gl
      exact (rhear_keep b sv d c s sd sc ss day w hk v1 g1' g2' (by omega) (by omega) (by omega) (by omega) (by omega) gl').mono fun e w' hh => stay 0 e w' hR0 (fun _ => gl') hh
end Go.Proofs.Ytcpnlcgpgljlbaa
