/- The owned machine, part MF: a call that only reads rows that are owned. -/
import Derived.Test.YtjnmbmdplchfkaaAmME
set_option linter.all false
namespace Go.Proofs.Ytjnmbmdplchfkaa.Am
variable [Lo]
set_option linter.unusedVariables false

mutual
/-- No slice, no pointer. -/
def AV.plain : AV → Bool
  | .unk | .sc _ => true
  | .when _ v => v.plain
  | .agg cs | .tup cs => AV.plainL cs
  | .ptr .. | .rp .. | .slm .. | .ro .. | .clo .. | .mp _ | .yl .. | .fr _ => false
def AV.plainL : List AV → Bool
  | [] => true
  | v :: l => v.plain && AV.plainL l
end
theorem plainL_all : ∀ l : List AV, AV.plainL l = l.all AV.plain
  | [] => rfl
  | v :: l => by simp [AV.plainL, plainL_all l]
theorem Cv.plain {w w' : World} {g g' : Gh} {v : AV} {x : Value} (h : Cv w g v x) : v.plain = true → Cv w' g' v x := by
  have lst : ∀ {l : List AV} {xs : Array Value}, AV.plainL l = true → (∀ (i : Nat) (c : AV) (y : Value), l[i]? = some c → xs[i]? = some y → c.plain = true → Cv w' g' c y) → ∀ (i : Nat) (c : AV) (y : Value), l[i]? = some c → xs[i]? = some y → Cv w' g' c y := by
    intro l xs hp ih i c y hi hy
    rw [plainL_all] at hp
    exact ih i c y hi hy (List.all_eq_true.1 hp c (List.mem_of_getElem? hi))
  induction h with
  | unk v => intro _; exact .unk _
  | when _ ih => intro hp; exact .when fun hb => ih hb hp
  | sc v h => intro _; exact .sc v h
  | agg h _ ih => intro hp; exact .agg h (lst hp fun i c y hi hy hc => ih i c y hi hy hc)
  | tup h _ ih => intro hp; exact .tup h (lst hp fun i c y hi hy hc => ih i c y hi hy hc)
  | ptr _ => intro hp; cases hp
  | rp X _ _ _ _ => intro hp; cases hp
  | slz _ => intro hp; cases hp
  | slm _ _ _ _ _ => intro hp; cases hp
  | roz _ _ _ => intro hp; cases hp
  | ro X _ _ _ _ _ _ _ => intro hp; cases hp
  | clo _ _ _ _ => intro hp; cases hp
  | mp _ => intro hp; cases hp
  | yl _ _ _ _ _ => intro hp; cases hp
  | fr _ _ _ => intro hp; cases hp
  | old _ _ _ => intro hp; cases hp

def swKeys (ρ : Nat → Nat) (p nx : Nat) (ks : List Nat) : Bool := decide ((ks.map ρ).Nodup) && ks.all (fun i => decide (i < nx)) && decide (p ≤ nx) && (List.range p).all fun i => ρ i == i
/-- A state under other names. -/
theorem SW.mk {p n nx2 : Nat} {s : AS} {fr2 : Fr} {H2 : AH} (ρ : Nat → Nat) (hk : swKeys ρ p nx2 (H2.map Prod.fst) = true) (hn : frNames (fun i => decide (i < p) || (H2.map Prod.fst).contains i) fr2 = true) (hb : namesAll (fun i => decide (i < p) || (H2.map Prod.fst).contains i) H2 = true) (hfr : frOk ρ s.fr fr2) (hH : haveV ρ s.H s.nx H2) : SW p n s ⟨fr2, H2, nx2⟩ := by
  simp only [swKeys, Bool.and_eq_true, decide_eq_true_eq] at hk
  obtain ⟨⟨⟨hk1, hk2⟩, hk3⟩, hk4⟩ := hk
  refine SW.ren ρ (fun i hi => by simpa using List.all_eq_true.1 hk4 i (List.mem_range.2 hi)) hfr hH ⟨hk1, List.all_eq_true.2 fun x hx => ?_, hk3⟩ hn hb
  exact List.all_eq_true.1 hk2 x.1 (List.mem_map_of_mem (f := Prod.fst) hx)
/-- A frame told with less; no block is kept. -/
theorem SW.fr0 {p n : Nat} {s : AS} {fr2 : Fr} {nx2 : Nat} (hp : p ≤ nx2) (hn : frNames (fun i => decide (i < p) || List.contains [] i) fr2 = true) (hfr : frOk id s.fr fr2) : SW p n s ⟨fr2, [], nx2⟩ :=
  SW.ren id (fun _ _ => rfl) hfr trivial ⟨List.nodup_nil, rfl, hp⟩ hn rfl
theorem VLe2.of_eq {a b : AV} (h : b = a) : VLe2 a b := by subst h; exact VLe2.refl _
theorem VLe2.int {k : IntKind} {a b : Int} (h : b = a) : VLe2 (.sc (.int k a)) (.sc (.int k b)) := .of_eq (by rw [h])
theorem VLe2.nilro {E : Nat} : VLe2 (.sc (.slice none 0 0)) (.ro {} E []) := .inr (.inl ⟨rfl, .inr ⟨{}, E, rfl, rfl⟩⟩)
theorem VLe2.nilslm {id E off : Nat} : VLe2 (.sc (.slice none 0 0)) (.slm {} id E off 0) := .inr (.inl ⟨rfl, .inl ⟨{}, id, E, off, rfl, rfl⟩⟩)
theorem VLe2.ro_of {fl : Fl} {E : Nat} {es es' : List AV} (h : es' = es) : VLe2 (.ro fl E es) (.ro {} E es') := by
  subst h
  exact .inr (.inr (.inl ⟨fl, {}, E, _, rfl, rfl, (fun h => by cases h), fun h => by cases h⟩))
theorem VLe2.slm_of {fl : Fl} {id E off L L' : Nat} (h : L' = L) : VLe2 (.slm fl id E off L) (.slm {} id E off L') := by
  subst h
  exact .inr (.inr (.inr ⟨fl, {}, id, E, off, _, rfl, rfl, (fun h => by cases h), fun h => by cases h⟩))
theorem frz_slm {H : AH} {F : List Nat} {fl : Fl} {id E len : Nat} {ty : TypeId} {es : List AV} (hg : H.get id = some (.row E ty es)) (hF : F.contains id = true) (hl : len = es.length) : AV.frz H F.contains (.slm fl id E 0 len) = .ro fl E es ∧ AV.frzOk H F.contains (.slm fl id E 0 len) = true := by
  subst hl
  refine ⟨?_, ?_⟩
  · simp only [AV.frz, hF, if_true, hg]
    simp
  · simp only [AV.frzOk, hF, hg]
    simp
theorem frz_none {H : AH} {F : Nat → Bool} {v : AV} (h : v.plain = true ∨ ∃ fl E es, v = .ro fl E es) : v.frz H F = v ∧ v.frzOk H F = true := by
  have key : ∀ v : AV, v.plain = true → v.frz H F = v ∧ v.frzOk H F = true := fun v =>
    AV.rec (motive_1 := fun v => v.plain = true → v.frz H F = v ∧ v.frzOk H F = true) (motive_2 := fun l => AV.plainL l = true → AV.frzL H F l = l ∧ AV.frzOkL H F l = true)
      (fun _ => ⟨rfl, rfl⟩) (fun b v ih h => by simp only [AV.plain] at h; simp [AV.frz, AV.frzOk, ih h]) (fun v _ => ⟨rfl, rfl⟩) (fun _ _ _ _ h => by cases h) (fun _ _ _ h => by cases h) (fun _ _ _ _ _ h => by cases h) (fun _ _ _ _ h => by cases h)
      (fun cs ih h => by simp only [AV.plain] at h; simp [AV.frz, AV.frzOk, ih h]) (fun cs ih h => by simp only [AV.plain] at h; simp [AV.frz, AV.frzOk, ih h]) (fun f cs k _ h => by cases h) (fun _ h => by cases h) (fun _ _ _ _ _ h => by cases h) (fun _ _ h => by cases h) (fun _ => ⟨rfl, rfl⟩)
      (fun v l h1 h2 h => by simp only [AV.plainL, Bool.and_eq_true] at h; simp [AV.frzL, AV.frzOkL, h1 h.1, h2 h.2]) v
  rcases h with h | ⟨fl, E, es, rfl⟩
  · exact key v h
  · exact ⟨rfl, rfl⟩
theorem LetB.dec {o : Option BinOp} {p : Prop} [Decidable p] {K : Bool → Prop} (h : p → K true) (k : ¬p → K false) : LetB o (decide p) K := by
  by_cases hp : p
  · exact .tt (decide_eq_true hp) (h hp)
  · exact .ff (decide_eq_false hp) (k hp)
theorem LetB.dect {o : Option BinOp} {p : Prop} [Decidable p] {K : Bool → Prop} (hp : p) (h : K true) : LetB o (decide p) K := .tt (decide_eq_true hp) h
theorem LetB.decf {o : Option BinOp} {p : Prop} [Decidable p] {K : Bool → Prop} (hp : ¬p) (h : K false) : LetB o (decide p) K := .ff (decide_eq_false hp) h
theorem LetB.beq {o : Option BinOp} {a b : Int} {K : Bool → Prop} (h : a = b → K true) (k : a ≠ b → K false) : LetB o (a == b) K := by
  by_cases hp : a = b
  · exact .tt (by simpa using hp) (h hp)
  · exact .ff (by simpa using hp) (k hp)
theorem LetB.beqt {o : Option BinOp} {a b : Int} {K : Bool → Prop} (hp : a = b) (h : K true) : LetB o (a == b) K := .tt (by simpa using hp) h
theorem LetB.beqf {o : Option BinOp} {a b : Int} {K : Bool → Prop} (hp : a ≠ b) (h : K false) : LetB o (a == b) K := .ff (by simpa using hp) h
theorem LetB.bne {o : Option BinOp} {a b : Int} {K : Bool → Prop} (h : a ≠ b → K true) (k : a = b → K false) : LetB o (a != b) K := by
  by_cases hp : a = b
  · exact .ff (by simpa using hp) (k hp)
  · exact .tt (by simpa using hp) (h hp)
theorem LetB.bnet {o : Option BinOp} {a b : Int} {K : Bool → Prop} (hp : a ≠ b) (h : K true) : LetB o (a != b) K := .tt (by simpa using hp) h
theorem LetB.bnef {o : Option BinOp} {a b : Int} {K : Bool → Prop} (hp : a = b) (h : K false) : LetB o (a != b) K := .ff (by simpa using hp) h
theorem mapD {α : Type} {f : α → AV} {l : List α} {i : Nat} (d : α) {u : AV} (h : i < l.length) : f (l.getD i d) = (l.map f).getD i u := by
  rw [List.getD_eq_getElem?_getD, List.getD_eq_getElem?_getD, List.getElem?_map, List.getElem?_eq_getElem h]; rfl
theorem tmod_bound (a : Int) {m : Int} (h : 0 < m) : -m < a.tmod m ∧ a.tmod m < m := ⟨Int.lt_tmod_of_pos a h, Int.tmod_lt_of_pos a h⟩
theorem tmod_pos {a : Int} (m : Int) (h : 0 ≤ a) : a.tmod m = a % m := Int.tmod_eq_emod_of_nonneg h
end Go.Proofs.Ytjnmbmdplchfkaa.Am
