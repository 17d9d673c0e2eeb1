/- The owned machine, part SH: the arguments of a law, as data of Lean. -/
import Derived.Test.YtjnmbmdplchfkaaAmLW
set_option linter.all false
namespace Go.Proofs.Ytjnmbmdplchfkaa.Am
variable [Lo]
open Go.RowKit
set_option linter.unusedVariables false

/-- The shape of a type of plain data. -/
inductive Sh where
  | int (k : IntKind) | bool | str | nil | pair (a b : Sh) | sl (agg : Bool) (e : Sh)
/-- Lean's data of a shape. -/
def Sh.D : Sh → Type
  | .int _ => Int
  | .bool => Bool
  | .str => ByteArray
  | .nil => Unit
  | .pair a b => a.D × b.D
  | .sl _ e => List e.D
def mkE (agg : Bool) (cs : List AV) : AV := if agg then .agg cs else cs.getD 0 (.sc undef)
def Sh.size : Sh → Nat
  | .int _ | .bool | .str | .sl .. => 1
  | .nil => 0
  | .pair a b => a.size + b.size
/-- The cells of a value. -/
def Sh.av : (s : Sh) → s.D → List AV
  | .int k, n => [.sc (.int k n)]
  | .bool, b => [.sc (.bool b)]
  | .str, s => [.sc (.string s)]
  | .nil, _ => []
  | .pair a b, x => a.av x.1 ++ b.av x.2
  | .sl agg e, l => [.ro {} e.size (l.map fun d => mkE agg (e.av d))]
/-- Go's bounds. -/
def Sh.ok : (s : Sh) → s.D → Prop
  | .int k, n => k.min ≤ (show Int from n) ∧ (show Int from n) ≤ k.max
  | .bool, _ => True
  | .str, s => s.size ≤ maxLen
  | .nil, _ => True
  | .pair a b, x => a.ok x.1 ∧ b.ok x.2
  | .sl _ e, l => List.length (α := e.D) l ≤ maxLen ∧ ∀ d ∈ (show List e.D from l), e.ok d
theorem Sh.av_length : ∀ (s : Sh) (d : s.D), (s.av d).length = s.size
  | .int _, _ | .bool, _ | .str, _ | .nil, _ | .sl .., _ => rfl
  | .pair a b, x => by simp only [Sh.av, Sh.size, List.length_append, Sh.av_length a, Sh.av_length b]

def shGo (T : TT) (sh : TypeId → Option Sh) (off : Nat) : List (Nat × TypeId) → Option Sh
    | [] => some .nil
    | [(o, t)] => match sh t, T.get t with
      | some s, some te => if o = off ∧ te.size = s.size then some s else none
      | _, _ => none
    | (o, t) :: fs => match sh t, T.get t with
      | some s, some te => if o = off ∧ te.size = s.size then (shGo T sh (off + s.size) fs).map fun r => .pair s r else none
      | _, _ => none
def shRep (s : Sh) : Nat → Sh
    | 0 => .nil
    | 1 => s
    | k + 2 => .pair s (shRep s (k + 1))
/-- The shape of a type. -/
def shOf (T : TT) : Nat → TypeId → Option Sh
  | 0, _ => none
  | n + 1, t => match T.get t with
    | none => none
    | some ti => match ti.k with
      | .int k => some (.int k)
      | .bool => some .bool
      | .str => some .str
      | .slice e => match shOf T n e, T.get e with
        | some s, some te => if te.size = s.size ∧ 0 < s.size ∧ (te.k.isAgg = true ∨ s.size = 1) then some (.sl te.k.isAgg s) else none
        | _, _ => none
      | .struct fs => (shGo T (shOf T n) 0 fs).bind fun s => if s.size = ti.size then some s else none
      | .arr k e => match shOf T n e, T.get e with
        | some s, some te => if te.size = s.size ∧ ti.size = k * s.size then some (shRep s k) else none
        | _, _ => none
      | _ => none

/-- Cells that stand for cells. -/
def CellsCv (w : World) (g : Gh) (as : List AV) (cs : List Value) : Prop := as.length = cs.length ∧ ∀ (i : Nat) (c : AV) (x : Value), as[i]? = some c → cs[i]? = some x → Cv w g c x
theorem CellsCv.append {w : World} {g : Gh} {a b : List AV} {x y : List Value} (h : CellsCv w g a x) (k : CellsCv w g b y) : CellsCv w g (a ++ b) (x ++ y) := by
  refine ⟨by simp [h.1, k.1], fun i c z hi hz => ?_⟩
  rw [List.getElem?_append] at hi hz
  rw [h.1] at hi
  split at hi
  · rename_i hlt; rw [if_pos hlt] at hz; exact h.2 i c z hi hz
  · rename_i hlt; rw [if_neg hlt] at hz; exact k.2 _ c z hi hz
theorem CellsCv.one {w : World} {g : Gh} {a : AV} {x : Value} (h : Cv w g a x) : CellsCv w g [a] [x] := by
  refine ⟨rfl, fun i c z hi hz => ?_⟩
  cases i with
  | zero => simp at hi hz; subst hi hz; exact h
  | succ i => simp at hi

/-- The ghost of a law's beginning. -/
def g0 (w : World) : Gh := ⟨fun _ => none, fun b => b < w.heap.size⟩

section
variable {P : Program} {T : TT} (hT : T.Ok P)
include hT
theorem TT.Ok.cellsOf {t : TypeId} {x : TI} (h : T.get t = some x) : P.cellsOf t = x.size := by
  obtain ⟨⟨i, h1, h2, _⟩, _⟩ := hT.get h
  simp [Program.cellsOf, h1, h2]

theorem fit_go {w : World} {n m : Nat} (hm : m = n ∨ True) (ih : ∀ (t : TypeId) (s : Sh) (cs : List Value) (k : Nat), shOf T n t = some s → FitT P w k t cs → ∃ d : s.D, s.ok d ∧ CellsCv w (g0 w) (s.av d) cs) :
    ∀ (fs : List (Nat × TypeId)) (off : Nat) (s : Sh) (cs : List Value), shGo T (shOf T n) off fs = some s → off + s.size = cs.length → (∀ f, f ∈ fs → ∃ k, FitT P w k f.2 ((cs.drop f.1).take (P.cellsOf f.2))) → ∃ d : s.D, s.ok d ∧ CellsCv w (g0 w) (s.av d) (cs.drop off)
  | [], off, s, cs, h, hl, _ => by
    simp only [shGo] at h
    injection h with h; subst h
    refine ⟨(), trivial, ?_, fun i c x hi => by simp [Sh.av] at hi⟩
    simp only [Sh.size] at hl
    simp [Sh.av]; omega
  | [(o, t)], off, s, cs, h, hl, hf => by
    simp only [shGo] at h
    split at h
    · rename_i s' te hs hte
      split at h
      · rename_i hc
        obtain ⟨rfl, hsz⟩ := hc
        injection h with h; subst h
        obtain ⟨k, hk⟩ := hf (o, t) (by simp)
        rw [hT.cellsOf hte, hsz] at hk
        have : (cs.drop o).take s'.size = cs.drop o := List.take_of_length_le (by simp; omega)
        simp only [this] at hk
        exact ih _ _ _ _ hs hk
      · cases h
    · cases h
  | (o, t) :: f2 :: fs, off, s, cs, h, hl, hf => by
    simp only [shGo] at h
    split at h
    · rename_i s' te hs hte
      split at h
      · rename_i hc
        obtain ⟨rfl, hsz⟩ := hc
        cases hr : shGo T (shOf T n) (o + s'.size) (f2 :: fs) with
        | none => rw [hr] at h; cases h
        | some r =>
          rw [hr] at h
          simp only [Option.map_some] at h
          injection h with h; subst h
          simp only [Sh.size] at hl
          obtain ⟨d2, ok2, c2⟩ := fit_go hm ih (f2 :: fs) (o + s'.size) r cs hr (by omega) fun f hf' => hf f (List.mem_cons_of_mem _ hf')
          obtain ⟨k, hk⟩ := hf (o, t) (by simp)
          rw [hT.cellsOf hte, hsz] at hk
          obtain ⟨d1, ok1, c1⟩ := ih _ _ _ _ hs hk
          refine ⟨(d1, d2), ⟨ok1, ok2⟩, ?_⟩
          have := c1.append c2
          rw [← List.drop_drop] at this
          rwa [List.take_append_drop] at this
      · cases h
    · cases h

omit hT in
theorem fit_rep {w : World} {n : Nat} {e : TypeId} {s : Sh} (ih : ∀ (cs : List Value) (k : Nat), FitT P w k e cs → ∃ d : s.D, s.ok d ∧ CellsCv w (g0 w) (s.av d) cs) :
    ∀ (k : Nat) (cs : List Value), cs.length = k * s.size → (∀ i, i < k → ∃ m, FitT P w m e ((cs.drop (i * s.size)).take s.size)) → ∃ d : (shRep s k).D, (shRep s k).ok d ∧ CellsCv w (g0 w) ((shRep s k).av d) cs
  | 0, cs, hl, _ => ⟨(), trivial, by simp [shRep, Sh.av]; omega, fun i c x hi => by simp [shRep, Sh.av] at hi⟩
  | 1, cs, hl, hf => by
    obtain ⟨m, h⟩ := hf 0 (by omega)
    rw [Nat.zero_mul, List.drop_zero, List.take_of_length_le (by omega)] at h
    exact ih cs m h
  | k + 2, cs, hl, hf => by
    obtain ⟨m, h⟩ := hf 0 (by omega)
    rw [Nat.zero_mul, List.drop_zero] at h
    obtain ⟨d1, ok1, c1⟩ := ih _ m h
    have hl2 : (cs.drop s.size).length = (k + 1) * s.size := by
      rw [List.length_drop, hl, Nat.add_mul, Nat.add_mul]; omega
    obtain ⟨d2, ok2, c2⟩ := fit_rep (n := n) ih (k + 1) (cs.drop s.size) hl2 fun i hi => by
      obtain ⟨m, h⟩ := hf (i + 1) (by omega)
      refine ⟨m, ?_⟩
      rw [List.drop_drop]
      rwa [show s.size + i * s.size = (i + 1) * s.size by rw [Nat.add_mul]; omega]
    refine ⟨(d1, d2), ⟨ok1, ok2⟩, ?_⟩
    have := c1.append c2
    rwa [List.take_append_drop] at this

omit hT in
theorem list_choose {α : Type} {p : Nat → α → Prop} : ∀ (n : Nat), (∀ i, i < n → ∃ a, p i a) → ∃ l : List α, l.length = n ∧ ∀ i a, l[i]? = some a → p i a
  | 0, _ => ⟨[], rfl, fun i a h => by simp at h⟩
  | n + 1, h => by
    obtain ⟨l, hl, hp⟩ := list_choose n fun i hi => h i (by omega)
    obtain ⟨a, ha⟩ := h n (by omega)
    refine ⟨l ++ [a], by simp [hl], fun i b hb => ?_⟩
    rw [List.getElem?_append] at hb
    split at hb
    · exact hp i b hb
    · rename_i hge
      have hi : i = n := by
        have := (List.getElem?_eq_some_iff.1 hb).1
        simp at this; omega
      subst hi
      rw [hl] at hb; simp at hb; subst hb; exact ha

theorem fit_av {w : World} : ∀ (n : Nat) (t : TypeId) (s : Sh) (cs : List Value) (k : Nat), shOf T n t = some s → FitT P w k t cs → ∃ d : s.D, s.ok d ∧ CellsCv w (g0 w) (s.av d) cs := by
  intro n
  induction n with
  | zero => intro t s cs k h; simp [shOf] at h
  | succ n ih =>
    intro t s cs k h hf
    unfold shOf at h
    split at h
    · cases h
    rename_i ti hti
    cases k with
    | zero => exact hf.elim
    | succ k =>
      unfold FitT at hf
      split at h
      · rename_i kk hk
        injection h with h; subst h
        rw [hT.int hti hk] at hf
        obtain ⟨m, rfl, hw⟩ := hf
        refine ⟨m, ?_, CellsCv.one (.sc _ rfl)⟩
        simp only [Lit.wf, Bool.and_eq_true, decide_eq_true_eq] at hw
        exact hw
      · rename_i hk
        injection h with h; subst h
        rw [hT.bool hti hk] at hf
        obtain ⟨b, rfl⟩ := hf
        exact ⟨b, trivial, CellsCv.one (.sc _ rfl)⟩
      · rename_i hk
        injection h with h; subst h
        rw [hT.str hti hk] at hf
        obtain ⟨s, rfl, hs⟩ := hf
        exact ⟨s, hs, CellsCv.one (.sc _ rfl)⟩
      · rename_i e hk
        rw [hT.slice hti hk] at hf
        split at h
        · rename_i s' te hs hte
          split at h
          · rename_i hc
            obtain ⟨hsz, hpos, hagg⟩ := hc
            injection h with h; subst h
            obtain ⟨A, len, cap, rfl, hlc, hcm, hnil, hsome, hel⟩ := hf
            rw [hT.cellsOf hte, hsz] at hsome hel
            obtain ⟨ds, hdl, hds⟩ := list_choose len (p := fun i (d : s'.D) => ∃ cs', cs'.length = s'.size ∧ s'.ok d ∧ CellsCv w (g0 w) (s'.av d) cs' ∧ ∀ a, A = some a → ∀ j, j < s'.size → w.cell? ⟨a.block, a.off + i * s'.size + j, none⟩ = cs'[j]?) fun i hi => by
              obtain ⟨cs', h1, h2, h3⟩ := hel i hi
              obtain ⟨d, h4, h5⟩ := ih e s' cs' k hs h2
              exact ⟨d, cs', h1, h4, h5, h3⟩
            refine ⟨ds, ⟨?_, fun d hd => ?_⟩, CellsCv.one ?_⟩
            · show ds.length ≤ maxLen
              omega
            · obtain ⟨i, hi⟩ := List.getElem?_of_mem hd
              obtain ⟨cs', _, h2, _⟩ := hds i d hi
              exact h2
            · rcases Nat.eq_zero_or_pos len with h0 | h0
              · have hds0 : ds = [] := List.eq_nil_of_length_eq_zero (by omega)
                subst hds0 h0
                refine .roz (fun h => by cases h) (fun h => (hnil h).2) (fun h => by cases h)
              · obtain ⟨b, off, rfl, hb⟩ := hsome ⟨h0, hpos⟩
                have cells : ∀ d : s'.D, (mkE te.k.isAgg (s'.av d)).cells.length = s'.size ∧ ∀ (j : Nat) (c : AV), (mkE te.k.isAgg (s'.av d)).cells[j]? = some c → (s'.av d)[j]? = some c ∨ (j = 0 ∧ ∃ u, s'.av d = [u] ∧ c = u) := by
                  intro d
                  unfold mkE
                  split
                  · exact ⟨s'.av_length d, fun j c h => .inl h⟩
                  · rename_i hna
                    have h1 : s'.size = 1 := by rcases hagg with h | h; exact absurd h hna; exact h
                    obtain ⟨u, hu⟩ := List.length_eq_one_iff.1 ((s'.av_length d).trans h1)
                    rw [hu]
                    simp only [List.getD_cons_zero]
                    have : u.cells = [u] := by
                      have hh : ∀ (s : Sh) (d : s.D) (u : AV), u ∈ s.av d → u.cells = [u] := by
                        intro s
                        induction s with
                        | int k => intro d u h; simp [Sh.av] at h; subst h; rfl
                        | bool => intro d u h; simp [Sh.av] at h; subst h; rfl
                        | str => intro d u h; simp [Sh.av] at h; subst h; rfl
                        | nil => intro d u h; simp [Sh.av] at h
                        | pair a b iha ihb =>
                          intro d u h
                          simp only [Sh.av, List.mem_append] at h
                          rcases h with h | h
                          · exact iha _ _ h
                          · exact ihb _ _ h
                        | sl a e ih => intro d u h; simp [Sh.av] at h; subst h; rfl
                      exact hh s' d u (by rw [hu]; simp)
                    rw [this]
                    refine ⟨h1.symm, fun j c h => .inl h⟩
                have cellsJ : ∀ (d : s'.D) (j : Nat) (c : AV), (mkE te.k.isAgg (s'.av d)).cells[j]? = some c → (s'.av d)[j]? = some c := by
                  intro d j c h
                  rcases (cells d).2 j c h with h | ⟨rfl, u, h1, rfl⟩
                  · exact h
                  · rw [h1]; rfl
                let X : Nat → Nat → Value := fun i j => (w.cell? ⟨b, off + i * s'.size + j, none⟩).getD undef
                have key : ∀ (i j : Nat) (e c : AV), (ds.map fun d => mkE te.k.isAgg (s'.av d))[i]? = some e → e.cells[j]? = some c → w.cell? ⟨b, off + i * s'.size + j, none⟩ = some (X i j) ∧ Cv w (g0 w).base c (X i j) := by
                  intro i j e c hi hj
                  rw [List.getElem?_map] at hi
                  obtain ⟨d, hd, rfl⟩ := Option.map_eq_some_iff.1 hi
                  obtain ⟨cs', h1, h2, h3, h4⟩ := hds i d hd
                  have hj' := cellsJ d j c hj
                  have hjl : j < s'.size := by
                    have := (List.getElem?_eq_some_iff.1 hj').1
                    rwa [s'.av_length d] at this
                  have h5 := h4 _ rfl j hjl
                  rw [List.getElem?_eq_getElem (by omega)] at h5
                  have hX : X i j = cs'[j] := by show (w.cell? _).getD _ = _; rw [h5]; rfl
                  refine ⟨by rw [hX]; exact h5, ?_⟩
                  rw [hX]
                  exact h3.2 j c _ hj' (List.getElem?_eq_getElem (by omega))
                have := Cv.ro (w := w) (g := g0 w) (fl := {}) (E := s'.size) (es := ds.map fun d => mkE te.k.isAgg (s'.av d)) (b := b) (o := off) (cap := cap) X hb (by simp; omega) (fun h => by cases h) (fun e he => by
                  obtain ⟨d, _, rfl⟩ := List.mem_map.1 he
                  exact (cells d).1) (fun i j e c hi hj => (key i j e c hi hj).1) (fun i j e c hi hj => (key i j e c hi hj).2)
                rw [List.length_map, hdl] at this
                exact this
          · cases h
        · cases h
      · rename_i fs hk
        obtain ⟨ff, hu, hfs⟩ := hT.struct hti hk
        rw [hu] at hf
        cases hg : shGo T (shOf T n) 0 fs with
        | none => rw [hg] at h; cases h
        | some s' =>
          rw [hg] at h
          simp only [Option.bind_some] at h
          split at h
          · rename_i hsz
            injection h with h; subst h
            obtain ⟨hl, hf⟩ := hf
            rw [hT.cellsOf hti] at hl
            have := fit_go hT (m := n) (.inl rfl) ih fs 0 s' cs hg (by omega) fun f hfm => by
              rw [← hfs] at hfm
              obtain ⟨fd, hfd, rfl⟩ := List.mem_map.1 hfm
              obtain ⟨i, hi⟩ := List.getElem?_of_mem hfd
              exact ⟨k, hf i fd (by simpa using hi)⟩
            rwa [List.drop_zero] at this
          · cases h
      · rename_i kk e hk
        rw [hT.arr hti hk] at hf
        split at h
        · rename_i s' te hs hte
          split at h
          · rename_i hc
            obtain ⟨hsz, hsz2⟩ := hc
            injection h with h; subst h
            obtain ⟨hl, hf⟩ := hf
            rw [hT.cellsOf hti] at hl
            rw [hT.cellsOf hte, hsz] at hf
            exact fit_rep (n := n) (fun cs m hm => ih e s' cs m hs hm) kk cs (by omega) fun i hi => ⟨k, hf i hi⟩
          · cases h
        · cases h
      · cases h
/-- An argument of a law. -/
theorem arg_av {w : World} {t : TypeId} {v : Value} (n : Nat) {s : Sh} {ti : TI} (hs : shOf T n t = some s) (hti : T.get t = some ti) (hv : (∃ cs, v = .agg cs) ↔ ti.k.isAgg = true) (hsz : ti.k.isAgg = true ∨ s.size = 1) (h : ∃ k, FitT P w k t v.cells.toList) : ∃ d : s.D, s.ok d ∧ Cv w (g0 w) (mkE ti.k.isAgg (s.av d)) v := by
  obtain ⟨k, h⟩ := h
  obtain ⟨d, h1, h2⟩ := fit_av hT n t s _ k hs h
  refine ⟨d, h1, ?_⟩
  unfold mkE
  split
  · rename_i ha
    obtain ⟨cs, rfl⟩ := hv.2 ha
    simp only [Value.cells] at h2
    exact .agg (by simpa using h2.1) fun i c x hi hx => h2.2 i c x hi (by simpa using hx)
  · rename_i ha
    have hna : ∀ cs, v ≠ .agg cs := fun cs hc => ha (hv.1 ⟨cs, hc⟩)
    have hc : v.cells = #[v] := by
      cases v <;> first | rfl | exact absurd rfl (hna _)
    rw [hc] at h2
    obtain ⟨u, hu⟩ := List.length_eq_one_iff.1 (h2.1.trans rfl)
    rw [hu]
    exact h2.2 0 u v (by rw [hu]; rfl) rfl
end
end Go.Proofs.Ytjnmbmdplchfkaa.Am
