/- The owned machine, part A: abstract values, what they stand for in a world, and what a step may do to a world. -/
import Derived.WalkKit
import Derived.Orders
import Derived.Test.YtjnmbmdplchfkaaAmGT
set_option linter.all false
namespace Go.Proofs.Ytjnmbmdplchfkaa.Am
set_option linter.unusedVariables false
/-- A number of blocks: what is called fresh lies behind it. -/
class Lo where
  lo : Nat
variable [Lo]

/-- What is known of a slice: its capacity is its length; it isn't nil. -/
structure Fl where
  full : Bool := false
  nn : Bool := false
  deriving Inhabited
/-- Abstract values ('unk': nothing is known; 'when b v': it is v if b holds). 'ro' is a slice whose cells nobody writes any more, 'slm' one of a row that is owned. -/
inductive AV where
  | unk
  | when (b : Bool) (v : AV)
  | sc (v : Value)
  | ptr (id E idx off : Nat)
  | rp (e : AV) (off : Nat)
  | slm (fl : Fl) (id E off len : Nat)
  | ro (fl : Fl) (E : Nat) (es : List AV)
  | agg (cs : List AV)
  | tup (vs : List AV)
  | clo (f : FuncId) (caps : List AV) (k : Nat := 0)
  | mp (id : Nat)
  | yl (l : Nat) (r : Loop) (ks : List Nat) (cs : List AV)
  | fr (v : AV)
  deriving Inhabited

def AV.cells : AV → List AV
  | .agg cs => cs
  | .unk | .when .. => []
  | v => [v]

/-- The ghost of a world: where the owned blocks lie, and which blocks are never written again. -/
structure Gh where
  φ : Nat → Option (Nat × Nat)
  I : Nat → Prop

/-- The same, without the owned blocks. -/
def Gh.base (g : Gh) : Gh := ⟨fun _ => none, g.I⟩

inductive Cv (w : World) : Gh → AV → Value → Prop
  | unk {g : Gh} (v : Value) : Cv w g .unk v
  | when {g : Gh} {b : Bool} {v : AV} {x : Value} : (b = true → Cv w g v x) → Cv w g (.when b v) x
  | sc {g : Gh} (v : Value) (h : v.cells = #[v]) : Cv w g (.sc v) v
  | ptr {g : Gh} {id idx off b E : Nat} : g.φ id = some (b, E) → Cv w g (.ptr id E idx off) (.pointer (some ⟨b, idx * E + off, none⟩))
  | rp {g : Gh} {e : AV} {off b o : Nat} (X : Nat → Value) : g.I b → (∀ (j : Nat) (c : AV), e.cells[j]? = some c → w.cell? ⟨b, o + j, none⟩ = some (X j)) →
      (∀ (j : Nat) (c : AV), e.cells[j]? = some c → Cv w g.base c (X j)) → Cv w g (.rp e off) (.pointer (some ⟨b, o + off, none⟩))
  | slz {g : Gh} {fl : Fl} {id E off : Nat} {a : Option Addr} : (fl.nn = true → a.isSome = true) → Cv w g (.slm fl id E off 0) (.slice a 0 0)
  | slm {g : Gh} {fl : Fl} {id off len b E cap : Nat} {cs : Array Value} {ty : TypeId} {fz : Nat × Nat} : g.φ id = some (b, E) → (fl.full = true → cap = len) → len ≤ cap → w.heap[b]? = some (Obj.cells cs ty fz) → (off + cap) * E ≤ cs.size →
      Cv w g (.slm fl id E off len) (.slice (some ⟨b, off * E, none⟩) len cap)
  | roz {g : Gh} {fl : Fl} {E cap : Nat} {a : Option Addr} : (fl.full = true → cap = 0) → (a = none → cap = 0) → (fl.nn = true → a.isSome = true) → Cv w g (.ro fl E []) (.slice a 0 cap)
  | ro {g : Gh} {fl : Fl} {E : Nat} {es : List AV} {b o cap : Nat} (X : Nat → Nat → Value) : g.I b → es.length ≤ cap → (fl.full = true → cap = es.length) → (∀ e, e ∈ es → e.cells.length = E) →
      (∀ (i j : Nat) (e c : AV), es[i]? = some e → e.cells[j]? = some c → w.cell? ⟨b, o + i * E + j, none⟩ = some (X i j)) →
      (∀ (i j : Nat) (e c : AV), es[i]? = some e → e.cells[j]? = some c → Cv w g.base c (X i j)) → Cv w g (.ro fl E es) (.slice (some ⟨b, o, none⟩) es.length cap)
  | agg {g : Gh} {cs : List AV} {xs : Array Value} : cs.length = xs.size → (∀ (i : Nat) (c : AV) (x : Value), cs[i]? = some c → xs[i]? = some x → Cv w g c x) → Cv w g (.agg cs) (.agg xs)
  | tup {g : Gh} {cs : List AV} {xs : Array Value} : cs.length = xs.size → (∀ (i : Nat) (c : AV) (x : Value), cs[i]? = some c → xs[i]? = some x → Cv w g c x) → Cv w g (.tup cs) (.tuple xs)
  | clo {g : Gh} {f : FuncId} {k : Nat} {cs : List AV} {fs xs : Array Value} : fs.size = k → cs.length = (fs ++ xs).size → (∀ (i : Nat) (c : AV) (x : Value), cs[i]? = some c → (fs ++ xs)[i]? = some x → Cv w g c x) → Cv w g (.clo f cs k) (.func (.func f) fs xs)
  | mp {g : Gh} {id b E : Nat} : g.φ id = some (b, E) → Cv w g (.mp id) (.map (some b))
  | yl {g : Gh} {l : Nat} {r : Loop} {ks : List Nat} {cs : List AV} : g.I l → w.heap[l]? = some (.loop r) → ks.length = cs.length → (∀ (i : Nat) (k : Nat) (c : AV), ks[i]? = some k → cs[i]? = some c → Cv w g c (r.tmps.getD k undef)) → Cv w g (.yl l r ks cs) (.func (.yield l) #[] #[])
  | fr {g : Gh} {v : AV} {x : Value} (hx : ∃ a n c, x = .slice a n c) : Cv w ⟨fun _ => none, fun b => g.I b ∧ Lo.lo ≤ b ∧ ∃ (cs : Array Value) (ty : TypeId), w.heap[b]? = some (.cells cs ty (0, 0))⟩ v x → Cv w g (.fr v) x
  | old {g : Gh} {v : AV} {x : Value} (hx : ∃ a n c, x = .slice a n c) : Cv w ⟨fun _ => none, fun b => g.I b ∧ b < Lo.lo⟩ v x → Cv w g (.fr (.tup [v])) x

/-- What is known of a value stays known. -/
structure Mono (w : World) (g : Gh) (w' : World) (g' : Gh) : Prop where
  φ : ∀ id p, g.φ id = some p → g'.φ id = some p
  I : ∀ b, g.I b → g'.I b ∧ w'.heap[b]? = w.heap[b]?
  sz : ∀ (b : Nat) (cs : Array Value) (ty : TypeId) (fz : Nat × Nat), w.heap[b]? = some (Obj.cells cs ty fz) → ∃ cs' : Array Value, w'.heap[b]? = some (Obj.cells cs' ty fz) ∧ cs'.size = cs.size

theorem Mono.refl (w : World) (g : Gh) : Mono w g w g := ⟨fun _ _ h => h, fun _ h => ⟨h, rfl⟩, fun _ cs _ _ h => ⟨cs, h, rfl⟩⟩
theorem Mono.trans {w w' w'' : World} {g g' g'' : Gh} (h : Mono w g w' g') (k : Mono w' g' w'' g'') : Mono w g w'' g'' :=
  ⟨fun id p e => k.φ id p (h.φ id p e), fun b e => ⟨(k.I b (h.I b e).1).1, (k.I b (h.I b e).1).2.trans (h.I b e).2⟩, fun b cs ty fz e => by
    obtain ⟨c1, e1, s1⟩ := h.sz b cs ty fz e
    obtain ⟨c2, e2, s2⟩ := k.sz b c1 ty fz e1
    exact ⟨c2, e2, s2.trans s1⟩⟩

theorem Mono.base {w w' : World} {g g' : Gh} (m : Mono w g w' g') : Mono w g.base w' g'.base := ⟨fun _ _ h => (by cases h), m.I, m.sz⟩
theorem Cv.mono {w w' : World} {g g' : Gh} (m : Mono w g w' g') {v : AV} {x : Value} (h : Cv w g v x) : Cv w' g' v x := by
  induction h generalizing g' with
  | unk v => exact .unk v
  | when _ ih => exact .when fun hb => ih hb m
  | sc v h => exact .sc v h
  | ptr h => exact .ptr (m.φ _ _ h)
  | rp X h1 h2 _ ih =>
    refine .rp X (m.I _ h1).1 (fun j c hj => ?_) fun j c hj => ih j c hj m.base
    have h6 := h2 j c hj
    unfold World.cell? at h6 ⊢
    rw [(m.I _ h1).2]
    exact h6
  | slz h => exact .slz h
  | slm h1 h0 h2 h3 h4 =>
    obtain ⟨cs', e, s⟩ := m.sz _ _ _ _ h3
    exact .slm (m.φ _ _ h1) h0 h2 e (by omega)
  | roz h1 h2 h3 => exact .roz h1 h2 h3
  | ro X h1 h2 h3 h4 h5 _ ih =>
    refine .ro X (m.I _ h1).1 h2 h3 h4 (fun i j e c hi hj => ?_) fun i j e c hi hj => ih i j e c hi hj m.base
    have h6 := h5 i j e c hi hj
    unfold World.cell? at h6 ⊢
    rw [(m.I _ h1).2]
    exact h6
  | agg h _ ih => exact .agg h fun i c x hi hx => ih i c x hi hx m
  | tup h _ ih => exact .tup h fun i c x hi hx => ih i c x hi hx m
  | clo hk h _ ih => exact .clo hk h fun i c x hi hx => ih i c x hi hx m
  | mp h => exact .mp (m.φ _ _ h)
  | yl h1 h2 h3 _ ih => exact .yl (m.I _ h1).1 ((m.I _ h1).2.trans h2) h3 fun i k c hi hc => ih i k c hi hc m
  | fr hx _ ih => exact .fr hx (ih ⟨fun _ _ h => (by cases h), fun b h => ⟨⟨(m.I b h.1).1, h.2.1, by obtain ⟨cs, ty, e⟩ := h.2.2; exact ⟨cs, ty, (m.I b h.1).2.trans e⟩⟩, (m.I b h.1).2⟩, m.sz⟩)
  | old hx _ ih => exact .old hx (ih ⟨fun _ _ h => (by cases h), fun b h => ⟨⟨(m.I b h.1).1, h.2⟩, (m.I b h.1).2⟩, m.sz⟩)
theorem Cv.of_base {w : World} {g : Gh} {v : AV} {x : Value} (h : Cv w g.base v x) : Cv w g v x := Cv.mono (g := g.base) (g' := g) ⟨fun _ _ h => (by cases h), fun _ h => ⟨h, rfl⟩, fun _ cs _ _ h => ⟨cs, h, rfl⟩⟩ h

/-- What lies in these blocks, is fresh, and may be written. -/
def newI (w : World) (I : Nat → Prop) (b : Nat) : Prop := I b ∧ Lo.lo ≤ b ∧ ∃ (cs : Array Value) (ty : TypeId), w.heap[b]? = some (.cells cs ty (0, 0))
theorem Cv.new_mono {w : World} {I I' : Nat → Prop} {v : AV} {x : Value} (hI : ∀ b, I b → I' b) (h : Cv w ⟨fun _ => none, newI w I⟩ v x) : Cv w ⟨fun _ => none, newI w I'⟩ v x :=
  Cv.mono (g := ⟨fun _ => none, newI w I⟩) (g' := ⟨fun _ => none, newI w I'⟩) ⟨fun _ _ h => (by cases h), fun b h => ⟨⟨hI b h.1, h.2⟩, rfl⟩, fun _ cs _ _ h => ⟨cs, h, rfl⟩⟩ h

/-- What lies in these blocks, and is not fresh. -/
def oldI (I : Nat → Prop) (b : Nat) : Prop := I b ∧ b < Lo.lo
theorem Cv.old_mono {w : World} {I I' : Nat → Prop} {v : AV} {x : Value} (hI : ∀ b, I b → I' b) (h : Cv w ⟨fun _ => none, oldI I⟩ v x) : Cv w ⟨fun _ => none, oldI I'⟩ v x :=
  Cv.mono (g := ⟨fun _ => none, oldI I⟩) (g' := ⟨fun _ => none, oldI I'⟩) ⟨fun _ _ h => (by cases h), fun b h => ⟨⟨hI b h.1, h.2⟩, rfl⟩, fun _ cs _ _ h => ⟨cs, h, rfl⟩⟩ h
/-- A value that is not fresh. -/
abbrev AV.old (v : AV) : AV := .fr (.tup [v])

/-- An owned block: a row of elements of E cells each (a variable is a row of one), or a map in the order of its making. -/
inductive Blk where
  | row (E : Nat) (ty : TypeId) (es : List AV)
  | map (ck : Nat) (kv : List (Value × AV))

def Blk.Rel (w : World) (g : Gh) (id : Nat) : Blk → Prop
  | .row E ty es => (∀ e, e ∈ es → e.cells.length = E) ∧ ((g.φ id = none ∧ es = []) ∨ ∃ b cs, g.φ id = some (b, E) ∧ w.heap[b]? = some (.cells cs ty (0, 0)) ∧ es.length * E ≤ cs.size ∧
      ∀ (i j : Nat) (e c : AV), es[i]? = some e → e.cells[j]? = some c → ∃ x, cs[i * E + j]? = some x ∧ Cv w g c x)
  | .map ck kv => ∃ b ents, g.φ id = some (b, 0) ∧ w.heap[b]? = some (.map ents ck) ∧ kv.length = ents.size ∧
      (∀ (i : Nat) (k : Value) (v : AV) (e : MapEntry), kv[i]? = some (k, v) → ents[i]? = some e → e.key = k ∧ Cv w g v e.val) ∧ (∀ (i j : Nat) (e f : MapEntry), i < j → ents[i]? = some e → ents[j]? = some f → e.born < f.born) ∧
      (∀ (i : Nat) (e : MapEntry), ents[i]? = some e → e.born < ck) ∧ (kv.map Prod.fst).Nodup

abbrev AH := List (Nat × Blk)
def AH.get : AH → Nat → Option Blk
  | [], _ => none
  | (i, b) :: H, id => if id = i then some b else AH.get H id
def AH.del : AH → Nat → AH
  | [], _ => []
  | (i, b) :: H, id => if id = i then AH.del H id else (i, b) :: AH.del H id
/-- At its place if it is there, else at the head. -/
def AH.set : AH → Nat → Blk → AH
  | [], id, c => [(id, c)]
  | (i, b) :: H, id, c => if id = i then (i, c) :: H else (i, b) :: AH.set H id c
theorem AH.get_del (H : AH) (id j : Nat) : (H.del id).get j = if j = id then none else H.get j := by
  induction H with
  | nil => simp [AH.del, AH.get]
  | cons p H ih =>
    obtain ⟨i, b⟩ := p
    simp only [AH.del]
    split
    · rename_i h; subst h; rw [ih]; simp only [AH.get]; split <;> simp_all
    · simp only [AH.get, ih]; split <;> (try split) <;> simp_all
theorem AH.get_set (H : AH) (id : Nat) (c : Blk) (j : Nat) : (H.set id c).get j = if j = id then some c else H.get j := by
  induction H with
  | nil => simp [AH.set, AH.get]
  | cons p H ih =>
    obtain ⟨i, b⟩ := p
    simp only [AH.set]
    split
    · rename_i h; subst h; simp only [AH.get]; split <;> simp_all
    · simp only [AH.get, ih]; split <;> (try split) <;> simp_all

/-- The listed variables hold what they hold, and are never written. -/
def Glob (w : World) (g : Gh) : Prop := (∀ x ∈ globTab, g.I x.1 ∧ ∃ (cs : Array Value) (ty : TypeId) (fz : Nat × Nat), w.heap[x.1]? = some (.cells cs ty fz) ∧ (∀ (j : Nat) (c : Value), x.2[j]? = some c → cs[j]? = some c ∧ c.cells = #[c]) ∧ cs.size = x.2.length) ∧ Lo.lo ≤ w.heap.size
theorem Glob.mono {w w' : World} {g g' : Gh} (h : Glob w g) (m : ∀ b, g.I b → g'.I b ∧ w'.heap[b]? = w.heap[b]?) (hs : w.heap.size ≤ w'.heap.size := by first | exact Nat.le_refl _ | exact Nat.le_succ _ | (simp; done) | (simp; omega) | omega) : Glob w' g' := ⟨fun x hx => by
  obtain ⟨h1, cs, ty, fz, h2, h3⟩ := h.1 x hx
  exact ⟨(m _ h1).1, cs, ty, fz, (m _ h1).2.trans h2, h3⟩, Nat.le_trans h.2 hs⟩
/-- The owned blocks of H lie in the world as the ghost says, apart from each other and from what is never written. -/
structure HRel (w : World) (g : Gh) (H : AH) : Prop where
  rel : ∀ id B, H.get id = some B → B.Rel w g id
  apart : ∀ i j b E E' A B, H.get i = some A → H.get j = some B → g.φ i = some (b, E) → g.φ j = some (b, E') → i = j
  imm : ∀ i b E B, H.get i = some B → g.φ i = some (b, E) → ¬ g.I b
  lt : ∀ b, g.I b → b < w.heap.size
  gl : Glob w g

/-- What a step may do: nothing outside the owned blocks of H changes. -/
structure Ext (w : World) (g : Gh) (H : AH) (w' : World) : Prop where
  os : w'.os = w.os
  tape : w'.tape = w.tape
  output : w'.output = w.output
  size : w.heap.size ≤ w'.heap.size
  block : ∀ b, b < w.heap.size → (∀ id B E, H.get id = some B → g.φ id ≠ some (b, E)) → w'.heap[b]? = w.heap[b]?

theorem Ext.refl (w : World) (g : Gh) (H : AH) : Ext w g H w := ⟨rfl, rfl, rfl, Nat.le_refl _, fun _ _ _ => rfl⟩

/-- A step: what is known goes on, nothing but the owned blocks of H changes, and what is owned behind it was owned or is new. -/
structure Adv (w : World) (g : Gh) (H : AH) (w' : World) (g' : Gh) (H' : AH) : Prop where
  mono : Mono w g w' g'
  ext : Ext w g H w'
  own : ∀ id B b E, H'.get id = some B → g'.φ id = some (b, E) → b < w.heap.size → ∃ i A F, H.get i = some A ∧ g.φ i = some (b, F)
  imm : ∀ b, g'.I b → b < w.heap.size → g.I b ∨ ∃ i A F, H.get i = some A ∧ g.φ i = some (b, F)
  rel : HRel w' g' H'
theorem Adv.refl {w : World} {g : Gh} {H : AH} (h : HRel w g H) : Adv w g H w g H := ⟨Mono.refl w g, Ext.refl w g H, fun id B b E hi hb _ => ⟨id, B, E, hi, hb⟩, fun _ h _ => .inl h, h⟩
theorem Adv.trans {w w' w'' : World} {g g' g'' : Gh} {H H' H'' : AH} (h : Adv w g H w' g' H') (k : Adv w' g' H' w'' g'' H'') : Adv w g H w'' g'' H'' := by
  refine ⟨h.mono.trans k.mono, ⟨k.ext.os.trans h.ext.os, k.ext.tape.trans h.ext.tape, k.ext.output.trans h.ext.output, Nat.le_trans h.ext.size k.ext.size, fun b hb hn => ?_⟩, fun id B b E hi hb hlt => ?_, fun b hb hlt => ?_, k.rel⟩
  · refine (k.ext.block b (Nat.lt_of_lt_of_le hb h.ext.size) fun id B E hi he => ?_).trans (h.ext.block b hb hn)
    obtain ⟨i, A, F, h1, h2⟩ := h.own id B b E hi he hb
    exact hn i A F h1 h2
  · obtain ⟨i, A, F, h1, h2⟩ := k.own id B b E hi hb (Nat.lt_of_lt_of_le hlt h.ext.size)
    exact h.own i A b F h1 h2 hlt
  · rcases k.imm b hb (Nat.lt_of_lt_of_le hlt h.ext.size) with h1 | ⟨i, A, F, h1, h2⟩
    · exact h.imm b h1 hlt
    · exact .inr (h.own i A b F h1 h2 hlt)

theorem Blk.Rel.lt {w : World} {g : Gh} {id b E : Nat} {B : Blk} (h : B.Rel w g id) (hφ : g.φ id = some (b, E)) : b < w.heap.size := by
  cases B with
  | row E' ty es =>
    obtain ⟨_, h⟩ := h
    rcases h with ⟨h1, _⟩ | ⟨b', cs, h1, h2, _⟩
    · rw [hφ] at h1; cases h1
    · rw [hφ] at h1; injection h1 with h1; injection h1 with h1 _; subst h1
      rcases Nat.lt_or_ge b w.heap.size with hl | hl
      · exact hl
      · rw [Array.getElem?_eq_none hl] at h2; cases h2
  | map ck kv =>
    obtain ⟨b', en, h1, h2, _⟩ := h
    rw [hφ] at h1; injection h1 with h1; injection h1 with h1 _; subst h1
    rcases Nat.lt_or_ge b w.heap.size with hl | hl
    · exact hl
    · rw [Array.getElem?_eq_none hl] at h2; cases h2

/-- A block's relation goes on where its block is as it was. -/
theorem Blk.Rel.keep {w w' : World} {g g' : Gh} {id : Nat} {B : Blk} (m : Mono w g w' g') (h : B.Rel w g id) (hφ : g'.φ id = g.φ id) (hb : ∀ b E, g.φ id = some (b, E) → w'.heap[b]? = w.heap[b]?) : B.Rel w' g' id := by
  cases B with
  | row E ty es =>
    obtain ⟨h0, h⟩ := h
    refine ⟨h0, ?_⟩
    rcases h with ⟨h1, h2⟩ | ⟨b, cs, h1, h2, h3, h4⟩
    · exact .inl ⟨by rw [hφ]; exact h1, h2⟩
    · refine .inr ⟨b, cs, by rw [hφ]; exact h1, (hb _ _ h1).trans h2, h3, fun i j e c hi hj => ?_⟩
      obtain ⟨x, hx, hc⟩ := h4 i j e c hi hj
      exact ⟨x, hx, hc.mono m⟩
  | map ck kv =>
    obtain ⟨b, en, h1, h2, h3, h4, h5⟩ := h
    exact ⟨b, en, by rw [hφ]; exact h1, (hb _ _ h1).trans h2, h3, fun i k v e hi he => ⟨(h4 i k v e hi he).1, (h4 i k v e hi he).2.mono m⟩, h5⟩
end Go.Proofs.Ytjnmbmdplchfkaa.Am
