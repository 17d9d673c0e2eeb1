/- The owned machine, part Z: aggregates and slices that are written out, made slices, copy, the least and the greatest. -/
import Derived.Test.YtjnmbmdplchfkaaAmY
set_option linter.all false
namespace Go.Proofs.Ytjnmbmdplchfkaa.Am
variable [Lo]
set_option linter.unusedVariables false

def CellsRel (w : World) (g : Gh) (cs : List AV) (xs : Array Value) : Prop := cs.length = xs.size ∧ ∀ (i : Nat) (c : AV) (x : Value), cs[i]? = some c → xs[i]? = some x → Cv w g c x
theorem foldl_setRange (off : Nat) : ∀ (l : List Value) (n : Nat) (cs : Array Value), (l.zipIdx n).foldl (fun cs (c, j) => cs.setIfInBounds (off + j) c) cs = setRange cs (off + n) l
  | [], _, _ => rfl
  | v :: l, n, cs => by
    simp only [List.zipIdx_cons, List.foldl_cons, setRange]
    exact foldl_setRange off l (n + 1) _
theorem zipIdx_setRange (off : Nat) (a cs : Array Value) : a.zipIdx.foldl (fun cs (c, j) => cs.setIfInBounds (off + j) c) cs = setRange cs off a.toList := by
  rw [← Array.foldl_toList, Array.toList_zipIdx]
  exact foldl_setRange off a.toList 0 cs
theorem CellsRel.splice {w : World} {g : Gh} {cs m : List AV} {xs ys : Array Value} {off : Nat} (h : CellsRel w g cs xs) (hm : CellsRel w g m ys) (ho : off + m.length ≤ cs.length) : CellsRel w g (splice cs off m) (setRange xs off ys.toList) := by
  obtain ⟨h1, h2⟩ := h
  obtain ⟨m1, m2⟩ := hm
  refine ⟨by rw [splice_length ho, setRange_size, h1], fun i c x hi hx => ?_⟩
  rw [splice_get ho] at hi
  rw [setRange_get _ _ _ _ (by simp; omega)] at hx
  simp only [Array.length_toList, ← m1] at hx
  split at hi
  · rename_i hr
    rw [if_pos hr, Array.getElem?_toList] at hx
    exact m2 _ c x hi hx
  · rename_i hr
    rw [if_neg hr] at hx
    exact h2 _ c x hi hx

/-- Parts laid into cells: whether they fit, and the cells. -/
def fillG (place : Nat → Option (Nat × Nat)) : List AV → List (Nat × AV) → Bool × List AV
  | cells, [] => (true, cells)
  | cells, (i, v) :: rest => match place i with
    | none => (false, cells)
    | some (off, size) => ((known v && v.cells.length == size && decide (off + v.cells.length ≤ cells.length)) && (fillG place (splice cells off v.cells) rest).1, (fillG place (splice cells off v.cells) rest).2)
theorem fillG_rel {w : World} {g : Gh} {place place' : Nat → Option (Nat × Nat)} (hp : ∀ i q, place i = some q → place' i = some q) : ∀ (parts : List (Nat × AV)) (vals : List (Nat × Value)) (cs : List AV) (xs : Array Value), CellsRel w g cs xs → parts.length = vals.length →
    (∀ (i : Nat) (a : Nat × AV) (b : Nat × Value), parts[i]? = some a → vals[i]? = some b → a.1 = b.1 ∧ Cv w g a.2 b.2) → (fillG place cs parts).1 = true → ∃ ys, Instr.fill place' xs vals = some ys ∧ CellsRel w g (fillG place cs parts).2 ys
  | [], [], cs, xs, h, _, _, _ => ⟨xs, rfl, h⟩
  | (i, v) :: parts, (i', y) :: vals, cs, xs, h, hl, hr, hok => by
    obtain ⟨e1, hc⟩ := hr 0 (i, v) (i', y) rfl rfl
    dsimp only at e1 hc
    subst e1
    simp only [fillG] at hok ⊢
    cases hpl : place i with
    | none => simp [hpl] at hok
    | some q =>
      obtain ⟨off, size⟩ := q
      simp only [hpl, Bool.and_eq_true, beq_iff_eq, decide_eq_true_eq] at hok ⊢
      obtain ⟨⟨⟨hk, hs⟩, ho⟩, hrest⟩ := hok
      have hcells := hc.cells hk
      obtain ⟨ys, h1, h2⟩ := fillG_rel hp parts vals _ _ (h.splice hcells ho) (by simpa using hl) (fun j a b ha hb => hr (j + 1) a b (by simpa using ha) (by simpa using hb)) hrest
      refine ⟨ys, ?_, h2⟩
      simp only [Instr.fill, hp i _ hpl]
      rw [if_neg ?_]
      · rw [zipIdx_setRange]; exact h1
      · have h3 := hcells.1
        have h4 := h.1
        simp only [Bool.or_eq_true, decide_eq_true_eq, not_or]
        exact ⟨by simp; omega, by omega⟩
  | [], _ :: _, _, _, _, h, _, _ => by simp at h
  | _ :: _, [], _, _, _, h, _, _ => by simp at h

def placeS (T : TT) (fs : List (Nat × TypeId)) (i : Nat) : Option (Nat × Nat) := match fs[i]? with
  | some (off, t) => (T.get t).map fun ti => (off, ti.size)
  | none => none
def stepBuild (T : TT) (t : TypeId) (parts : List (Nat × AV)) : Option Out :=
  match T.get t with
  | none => none
  | some ti => match ti.k with
    | .struct fs => some { ok := (fillG (placeS T fs) (ofVal ti.zero).cells parts).1 && zeroOk ti && fs.all fun f => (T.get f.2).isSome, v := .agg (fillG (placeS T fs) (ofVal ti.zero).cells parts).2 }
    | .arr n e => match T.get e with
      | some te => some { ok := (fillG (fun i => some (i * te.size, te.size)) (ofVal ti.zero).cells parts).1 && zeroOk ti, v := .agg (fillG (fun i => some (i * te.size, te.size)) (ofVal ti.zero).cells parts).2 }
      | none => none
    | _ => none

/-- A row, elements laid into it. -/
def fillR (E : Nat) : List AV → List (Nat × AV) → Bool × List AV
  | es, [] => (true, es)
  | es, (i, v) :: rest => ((known v && v.cells.length == E && decide (i < es.length)) && (fillR E (es.set i v) rest).1, (fillR E (es.set i v) rest).2)
theorem rowof_set {w : World} {g : Gh} {E i : Nat} {es : List AV} {v : AV} {y : Value} {cs : Array Value} (h : RowOf w g E es cs 0) (hs : es.length * E ≤ cs.size) (he : ∀ e ∈ es, e.cells.length = E) (hi : i < es.length) (hv : v.cells.length = E) (hc : CellsRel w g v.cells y.cells) : RowOf w g E (es.set i v) (setRange cs (i * E) y.cells.toList) 0 := by
  have hy : y.cells.toList.length = E := by have := hc.1; simp; omega
  have hle : (i + 1) * E ≤ es.length * E := Nat.mul_le_mul_right _ hi
  rw [Nat.succ_mul] at hle
  intro k j e c hk hj
  rw [Nat.zero_add, setRange_get _ _ _ _ (by omega), hy]
  rw [List.getElem?_set] at hk
  split at hk
  · rename_i e1; subst e1
    injection hk with hk; subst hk
    have hjl := (List.getElem?_eq_some_iff.1 hj).1
    rw [if_pos (by omega), show i * E + j - i * E = j by omega, Array.getElem?_toList]
    have hlt : j < y.cells.size := by have := hc.1; omega
    exact ⟨y.cells[j], by simp [hlt], hc.2 j c _ hj (by simp [hlt])⟩
  · rename_i e1
    obtain ⟨x, hx, hcv⟩ := h k j e c hk hj
    have hjl := (List.getElem?_eq_some_iff.1 hj).1
    rw [he e (List.mem_of_getElem? hk)] at hjl
    refine ⟨x, ?_, hcv⟩
    rw [if_neg ?_]
    · simpa using hx
    · intro ⟨a1, a2⟩
      rcases Nat.lt_or_gt_of_ne e1 with hlt | hlt
      · have : (i + 1) * E ≤ k * E := Nat.mul_le_mul_right _ hlt
        rw [Nat.succ_mul] at this; omega
      · have : (k + 1) * E ≤ i * E := Nat.mul_le_mul_right _ hlt
        rw [Nat.succ_mul] at this; omega
theorem fillR_rel {w : World} {g : Gh} {E : Nat} : ∀ (parts : List (Nat × AV)) (vals : List (Nat × Value)) (es : List AV) (xs : Array Value), RowOf w g E es xs 0 → es.length * E = xs.size → (∀ e ∈ es, e.cells.length = E) → parts.length = vals.length →
    (∀ (i : Nat) (a : Nat × AV) (b : Nat × Value), parts[i]? = some a → vals[i]? = some b → a.1 = b.1 ∧ Cv w g a.2 b.2) → (fillR E es parts).1 = true →
    ∃ ys, Instr.fill (fun i => some (i * E, E)) xs vals = some ys ∧ RowOf w g E (fillR E es parts).2 ys 0 ∧ ys.size = xs.size ∧ (fillR E es parts).2.length = es.length ∧ ∀ e ∈ (fillR E es parts).2, e.cells.length = E
  | [], [], es, xs, h, _, he, _, _, _ => ⟨xs, rfl, h, rfl, rfl, he⟩
  | (i, v) :: parts, (i', y) :: vals, es, xs, h, hs, he, hl, hr, hok => by
    obtain ⟨e1, hc⟩ := hr 0 (i, v) (i', y) rfl rfl
    dsimp only at e1 hc
    subst e1
    simp only [fillR, Bool.and_eq_true, beq_iff_eq, decide_eq_true_eq] at hok ⊢
    obtain ⟨⟨⟨hk, hv⟩, hi⟩, hrest⟩ := hok
    have hcells := hc.cells hk
    have hle : (i + 1) * E ≤ es.length * E := Nat.mul_le_mul_right _ hi
    rw [Nat.succ_mul] at hle
    have he2 : ∀ e ∈ es.set i v, e.cells.length = E := by
      intro e hm
      rcases List.mem_or_eq_of_mem_set hm with h1 | rfl
      · exact he e h1
      · exact hv
    obtain ⟨ys, h1, h2, h3, h4, h5⟩ := fillR_rel parts vals (es.set i v) (setRange xs (i * E) y.cells.toList) (rowof_set h (by omega) he hi hv hcells) (by rw [setRange_size]; simpa using hs) he2 (by simpa using hl) (fun j a b ha hb => hr (j + 1) a b (by simpa using ha) (by simpa using hb)) hrest
    refine ⟨ys, ?_, h2, by rw [h3, setRange_size], by rw [h4]; simp, h5⟩
    simp only [Instr.fill]
    rw [if_neg ?_]
    · rw [zipIdx_setRange]; exact h1
    · have h6 := hcells.1
      simp only [Bool.or_eq_true, decide_eq_true_eq, not_or]
      exact ⟨by simp; omega, by omega⟩
  | [], _ :: _, _, _, _, _, _, h, _, _ => by simp at h
  | _ :: _, [], _, _, _, _, _, h, _, _ => by simp at h
mutual
/-- No name of an owned block. -/
def AV.free : AV → Bool
  | .when _ v => v.free
  | .ptr .. | .slm .. | .mp _ => false
  | .agg cs | .tup cs | .clo _ cs _ | .yl _ _ _ cs => AV.freeL cs
  | .unk | .sc _ | .rp .. | .ro .. | .fr _ => true
def AV.freeL : List AV → Bool
  | [] => true
  | v :: l => v.free && AV.freeL l
end
theorem freeL_all : ∀ l : List AV, AV.freeL l = l.all AV.free
  | [] => rfl
  | v :: l => by simp [AV.freeL, freeL_all l]
theorem Cv.free {w : World} {g g' : Gh} {v : AV} {x : Value} (h : Cv w g v x) : (∀ b, g.I b → g'.I b) → v.free = true → Cv w g' v x := by
  have base : ∀ {g g' : Gh} {c : AV} {y : Value}, (∀ b, g.I b → g'.I b) → Cv w g.base c y → Cv w g'.base c y := fun {g g'} {c y} hI h => h.mono (g := Gh.base g) (g' := Gh.base g') ⟨fun _ _ h => (by cases h), fun b h => ⟨hI b h, rfl⟩, fun _ cs _ _ h => ⟨cs, h, rfl⟩⟩
  induction h with
  | unk v => intro _ _; exact .unk _
  | when _ ih => intro hI hp; exact .when fun hb => ih hb hI hp
  | sc v h => intro _ _; exact .sc v h
  | ptr _ => intro _ hp; cases hp
  | rp X h1 h2 h3 _ => intro hI _; exact .rp X (hI _ h1) h2 fun j c hj => base hI (h3 j c hj)
  | slz _ => intro _ hp; cases hp
  | slm _ _ _ _ _ => intro _ hp; cases hp
  | roz h1 h2 h3 => intro _ _; exact .roz h1 h2 h3
  | ro X h1 h2 h3 h4 h5 h6 _ => intro hI _; exact .ro X (hI _ h1) h2 h3 h4 h5 fun i j e c hi hj => base hI (h6 i j e c hi hj)
  | agg h _ ih => intro hI hp; simp only [AV.free, freeL_all] at hp; exact .agg h fun i c y hi hy => ih i c y hi hy hI (List.all_eq_true.1 hp c (List.mem_of_getElem? hi))
  | tup h _ ih => intro hI hp; simp only [AV.free, freeL_all] at hp; exact .tup h fun i c y hi hy => ih i c y hi hy hI (List.all_eq_true.1 hp c (List.mem_of_getElem? hi))
  | clo hk h _ ih => intro hI hp; simp only [AV.free, freeL_all] at hp; exact .clo hk h fun i c y hi hy => ih i c y hi hy hI (List.all_eq_true.1 hp c (List.mem_of_getElem? hi))
  | mp _ => intro _ hp; cases hp
  | fr hx h _ => intro hI _; exact .fr hx (h.new_mono hI)
  | old hx h _ => intro hI _; exact .old hx (h.old_mono hI)
  | yl h1 h2 h3 _ ih => intro hI hp; simp only [AV.free, freeL_all] at hp; exact .yl (hI _ h1) h2 h3 fun i k c hi hc => ih i k c hi hc hI (List.all_eq_true.1 hp c (List.mem_of_getElem? hc))
def storeFree (es : List AV) : Bool := es.all fun e => AV.freeL e.cells
/-- A row in a new block that is never written again. -/
theorem post_row_ro {w : World} {g : Gh} {H0 : AH} (hH : HRel w g H0) {e : TypeId} {E len : Nat} {es : List AV} {cs : Array Value} (hr : RowOf w g E es cs 0) (he : ∀ x ∈ es, x.cells.length = E) (hl : es.length = len) (hs : cs.size = len * E) (hfr : storeFree es = true) :
    Post w g H0 (.ro ⟨true, true⟩ E es) [] (.slice (some ⟨w.heap.size, 0, none⟩) len len) (w.alloc (.cells cs e)) := by
  let g' : Gh := ⟨g.φ, fun b => g.I b ∨ b = w.heap.size⟩
  have hold : ∀ b, b < w.heap.size → (w.alloc (.cells cs e)).heap[b]? = w.heap[b]? := fun b hb => by
    simp only [World.alloc, Array.getElem?_push]; rw [if_neg (by omega)]
  have m : Mono w g (w.alloc (.cells cs e)) g' := ⟨fun _ _ h => h, fun b h => ⟨.inl h, hold b (hH.lt b h)⟩, fun b cs' ty fz h => ⟨cs', (hold b (heap_lt h)).trans h, rfl⟩⟩
  refine ⟨g', ⟨m, Ext.alloc _, fun id B b E hi hb _ => ⟨id, B, E, hi, hb⟩, fun b hb hlt => ?_, ⟨fun id B hB => (hH.rel id B hB).keep m rfl fun b E hb => hold b ((hH.rel id B hB).lt hb), hH.apart, fun i b E B hi hb hI => ?_, fun b hb => ?_, hH.gl.mono m.I⟩⟩, ?_, fun _ _ => rfl⟩
  · rcases hb with h | h
    · exact .inl h
    · omega
  · rcases hI with h | h
    · exact hH.imm i b E B hi hb h
    · have := (hH.rel i B hi).lt hb; omega
  · simp only [World.alloc, Array.size_push]
    rcases hb with h | h
    · have := hH.lt b h; omega
    · omega
  · have hget : (w.alloc (.cells cs e)).heap[w.heap.size]? = some (.cells cs e) := alloc_get _ _
    let X : Nat → Nat → Value := fun i j => (cs[i * E + j]?).getD undef
    have key : ∀ (i j : Nat) (e' c : AV), es[i]? = some e' → e'.cells[j]? = some c → (w.alloc (.cells cs e)).cell? ⟨w.heap.size, 0 + i * E + j, none⟩ = some (X i j) ∧ Cv (w.alloc (.cells cs e)) g'.base c (X i j) := by
      intro i j e' c hi hj
      obtain ⟨x, hx, hc⟩ := hr i j e' c hi hj
      rw [Nat.zero_add] at hx
      have hX : X i j = x := by show (cs[i * E + j]?).getD _ = _; rw [hx]; rfl
      rw [hX]
      refine ⟨?_, ?_⟩
      · unfold World.cell?
        simp only [hget]
        simpa using hx
      · have hf := List.all_eq_true.1 hfr e' (List.mem_of_getElem? hi)
        rw [freeL_all] at hf
        exact (hc.mono m).free (g' := g'.base) (fun b h => h) (List.all_eq_true.1 hf c (List.mem_of_getElem? hj))
    have := Cv.ro (w := w.alloc (.cells cs e)) (g := g') (fl := ⟨true, true⟩) (E := E) (es := es) (b := w.heap.size) (o := 0) (cap := len) X (.inr rfl) (by omega) (fun _ => hl.symm) he (fun i j e c hi hj => (key i j e c hi hj).1) (fun i j e c hi hj => (key i j e c hi hj).2)
    rw [hl] at this
    exact this
def stepBuildSlice (T : TT) (nx : Nat) (t : TypeId) (len : Nat) (parts : List (Nat × AV)) : Option Out :=
  match elemOf T t with
  | some (e, ti) => match fillR ti.size (List.replicate len (ofVal ti.zero)) parts with
    | (ok, es) => if len != 0 && (decide (len ≤ 2) || decide (ti.size ≤ 14)) && storeFree es then some { ok := ok && zeroOk ti && decide (len * ti.size ≤ 2 ^ 24), v := .ro ⟨true, true⟩ ti.size es }
      else some { ok := ok && zeroOk ti && decide (len * ti.size ≤ 2 ^ 24), v := .slm ⟨false, true⟩ nx ti.size 0 len, δ := [(nx, some (.row ti.size e es))] }
  | none => none
def stepMakeSlice (T : TT) (nx : Nat) (t : TypeId) : AV → AV → Option Out
  | .sc (.int _ l), .sc (.int _ c) => match elemOf T t with
    | some (e, ti) => some { ok := decide (0 ≤ l ∧ l ≤ c ∧ c ≤ 281474976710656 ∧ (ti.bytes : Int) * c ≤ 140737488355328) && zeroOk ti, v := .slm ⟨false, true⟩ nx ti.size 0 l.toNat, δ := [(nx, some (.row ti.size e (List.replicate l.toNat (ofVal ti.zero))))] }
    | none => none
  | _, _ => none
theorem zero_row {w : World} {g : Gh} {ti : TI} (hz : zeroOk ti = true) (n m : Nat) (hm : n ≤ m) : RowOf w g ti.size (List.replicate n (ofVal ti.zero)) ((Array.range (m * ti.size)).map (ti.zero.cells[· % ti.zero.cells.size]!)) 0 := by
  simp only [zeroOk, Bool.and_eq_true, beq_iff_eq] at hz
  obtain ⟨hz1, hz2⟩ := hz
  obtain ⟨o1, o2⟩ := ofVal_rel (w := w) (g := g) hz1 hz2
  intro i j e c hi hj
  have hil := (List.getElem?_eq_some_iff.1 hi).1
  rw [List.getElem?_replicate] at hi
  split at hi
  · injection hi with hi; subst hi
    have hjl := (List.getElem?_eq_some_iff.1 hj).1
    obtain ⟨x, hx, hc⟩ := o2 j c hj
    have h1 : (i + 1) * ti.size ≤ m * ti.size := Nat.mul_le_mul_right _ (by omega)
    rw [Nat.succ_mul] at h1
    refine ⟨x, ?_, hc⟩
    rw [Nat.zero_add, Array.getElem?_map, Array.getElem?_range, if_pos (by omega)]
    simp only [Option.map_some, Option.some.injEq]
    rw [hz1, show (i * ti.size + j) % ti.size = j by rw [Nat.mul_comm, Nat.mul_add_mod]; exact Nat.mod_eq_of_lt (by omega)]
    rw [getElem!_pos ti.zero.cells j (by omega)]
    rw [Array.getElem?_eq_getElem (by omega)] at hx
    injection hx
  · cases hi

section
variable {P : Program} {T : TT} (hT : T.Ok P) {o : Oper} {env : Operand → AV} {H : AH} {r : Out}

def partsOf (env : Operand → AV) (parts : Array (Nat × Operand)) : List (Nat × AV) := parts.toList.map fun x => (x.1, env x.2)
theorem parts_rel {w : World} {g : Gh} {ρ : Operand → Value} {parts : Array (Nat × Operand)} (h : ∀ x ∈ parts.toList.map (·.2), Cv w g (env x) (ρ x)) : (partsOf env parts).length = ((parts.map fun (i, x) => (i, ρ x)).toList).length ∧
    ∀ (i : Nat) (a : Nat × AV) (b : Nat × Value), (partsOf env parts)[i]? = some a → ((parts.map fun (i, x) => (i, ρ x)).toList)[i]? = some b → a.1 = b.1 ∧ Cv w g a.2 b.2 := by
  refine ⟨by simp [partsOf], fun i a b ha hb => ?_⟩
  simp only [partsOf, List.getElem?_map] at ha
  rw [Array.toList_map, List.getElem?_map] at hb
  obtain ⟨u, hu, rfl⟩ := Option.map_eq_some_iff.1 ha
  rw [hu] at hb
  injection hb with hb
  subst hb
  exact ⟨rfl, h u.2 (List.mem_map_of_mem (List.mem_of_getElem? hu))⟩
theorem mapM_run' {α β : Type} {P : Program} {f : α → Sem β} {w : World} : ∀ (l : List α) (ys : List β), l.length = ys.length → (∀ (i : Nat) (a : α) (y : β), l[i]? = some a → ys[i]? = some y → (f a).run P w = .ok y w) → (l.mapM f).run P w = .ok ys w
  | [], [], _, _ => by simp [Sem.run, pure]
  | a :: l, y :: ys, h, hf => by
    rw [List.mapM_cons]
    show (Sem.bind (f a) _).run P w = _
    rw [run_bind (hf 0 a y rfl rfl)]
    show (Sem.bind (l.mapM f) _).run P w = _
    rw [run_bind (mapM_run' l ys (by simpa using h) fun i b z hb hz => hf (i + 1) b z (by simpa using hb) (by simpa using hz))]; rfl
  | [], _ :: _, h, _ => by simp at h
  | _ :: _, [], h, _ => by simp at h
theorem zero_cells {w : World} {g : Gh} {ti : TI} (hz : zeroOk ti = true) : CellsRel w g (ofVal ti.zero).cells ti.zero.cells := by
  simp only [zeroOk, Bool.and_eq_true, beq_iff_eq] at hz
  obtain ⟨o1, o2⟩ := ofVal_rel (w := w) (g := g) hz.1 hz.2
  refine ⟨by omega, fun i c x hi hx => ?_⟩
  obtain ⟨y, hy, hc⟩ := o2 i c hi
  rw [hx] at hy; injection hy with hy; subst hy; exact hc

include hT in
theorem build_sem {t : TypeId} {parts : Array (Nat × Operand)} (ho : o.op = .build t parts) (h : stepBuild T t (partsOf env parts) = some r) (hok : r.ok = true) : OpSemD P o env H r := by
  unfold stepBuild at h
  split at h
  case h_1 => cases h
  rename_i ti hti
  have mem : ∀ {w : World} {g : Gh} {ρ : Operand → Value}, (∀ x ∈ o.op.operands.toList, Cv w g (env x) (ρ x)) → ∀ x ∈ parts.toList.map (·.2), Cv w g (env x) (ρ x) := fun hρ x hx => hρ x (by simpa [ho, Op.operands] using hx)
  split at h
  · rename_i fs hk
    injection h with h; subst h
    simp only [Bool.and_eq_true] at hok
    obtain ⟨⟨hf, hz⟩, hall⟩ := hok
    obtain ⟨fds, hu, hmap⟩ := hT.struct hti hk
    refine OpSemD.pure' rfl fun w g ρ hρ => ?_
    obtain ⟨hl, hr⟩ := parts_rel (mem hρ)
    -- the places of the fields
    let places : List (Nat × Nat) := fs.map fun f => (f.1, ((T.get f.2).map TI.size).getD 0)
    have hplace : ∀ i q, placeS T fs i = some q → (places.toArray)[i]? = some q := by
      intro i q hq
      unfold placeS at hq
      split at hq
      · rename_i off t' hf'
        obtain ⟨ti', h1, rfl⟩ := Option.map_eq_some_iff.1 hq
        simp [places, hf', h1]
      · cases hq
    have hrun : (fds.mapM fun f => (do pure (f.offset, ← Go.sizeOf f.type) : Sem (Nat × Nat))).run P w = .ok places.toArray w := by
      rw [Array.mapM_eq_mapM_toList]
      show (Functor.map List.toArray _ : Sem _).run P w = _
      rw [map_eq_pure_bind]
      show (Sem.bind _ _).run P w = _
      rw [run_bind (mapM_run' fds.toList places (by simp only [places, List.length_map, ← hmap]) fun i a y ha hy => ?_)]
      · rfl
      · simp only [places, ← hmap, List.map_map, List.getElem?_map, ha, Option.map_some, Option.some.injEq, Function.comp] at hy
        subst hy
        have hin : (a.offset, a.type) ∈ fs := by rw [← hmap]; exact List.mem_map.2 ⟨a, List.mem_of_getElem? ha, rfl⟩
        obtain ⟨ta, hta⟩ := Option.isSome_iff_exists.1 (List.all_eq_true.1 hall _ hin)
        show (Sem.bind (Go.sizeOf a.type) _).run P w = _
        rw [run_bind (hT.sizeOf hta w)]
        simp only [hta, Option.map_some, Option.getD_some]; rfl
    obtain ⟨ys, h1, h2⟩ := fillG_rel (w := w) (g := g) hplace _ _ _ _ (zero_cells hz) hl hr hf
    refine ⟨.agg ys, ?_, .agg h2.1 h2.2⟩
    simp only [execOp, ho]
    refine run_value ?_
    unfold Instr.build
    show (Sem.bind (zeroValue t) _).run P w = _
    rw [run_bind (hT.zero hti w)]
    show (Sem.bind (underlying t) _).run P w = _
    rw [run_bind (underlying_run hu w)]
    show (Sem.bind (fds.mapM _) _).run P w = _
    rw [run_bind hrun]
    simp only [h1]; rfl
  · rename_i n e hk
    split at h
    case h_2 => cases h
    rename_i te hte
    injection h with h; subst h
    simp only [Bool.and_eq_true] at hok
    obtain ⟨hf, hz⟩ := hok
    have hu := hT.arr hti hk
    refine OpSemD.pure' rfl fun w g ρ hρ => ?_
    obtain ⟨hl, hr⟩ := parts_rel (mem hρ)
    obtain ⟨ys, h1, h2⟩ := fillG_rel (w := w) (g := g) (place' := fun i => some (i * te.size, te.size)) (fun _ _ h => h) _ _ _ _ (zero_cells hz) hl hr hf
    refine ⟨.agg ys, ?_, .agg h2.1 h2.2⟩
    simp only [execOp, ho]
    refine run_value ?_
    unfold Instr.build
    show (Sem.bind (zeroValue t) _).run P w = _
    rw [run_bind (hT.zero hti w)]
    show (Sem.bind (underlying t) _).run P w = _
    rw [run_bind (underlying_run hu w)]
    show (Sem.bind (Go.sizeOf e) _).run P w = _
    rw [run_bind (hT.sizeOf hte w)]
    simp only [h1]; rfl
  · cases h

/-- A row in a new block. -/
theorem post_row {w : World} {g : Gh} {H0 : AH} (hH : HRel w g H0) {nx : Nat} (hn : H0.get nx = none) (hφ : g.φ nx = none) {e : TypeId} {E len cap : Nat} {es : List AV} {cs : Array Value} (hr : RowOf w g E es cs 0) (he : ∀ x ∈ es, x.cells.length = E) (hl : es.length = len) (hs : cs.size = cap * E) (hc : len ≤ cap) :
    Post w g H0 (.slm ⟨false, true⟩ nx E 0 len) [(nx, some (.row E e es))] (.slice (some ⟨w.heap.size, 0, none⟩) len cap) (w.alloc (.cells cs e)) := by
  have m := Mono.new (E := E) (.cells cs e) hφ hH.lt
  have hrow : (Blk.row E e es).Rel (w.alloc (.cells cs e)) (g.new nx w.heap.size E) nx := row_in m (gnew_at g nx w.heap.size E) (alloc_get _ _) he (by rw [hs, hl]; exact Nat.mul_le_mul_right _ hc) hr
  refine Post.new hH hn hφ hrow ?_
  have := Cv.slm (w := w.alloc (.cells cs e)) (g := g.new nx w.heap.size E) (fl := ⟨false, true⟩) (id := nx) (off := 0) (len := len) (b := w.heap.size) (E := E) (cap := cap) (gnew_at g nx w.heap.size E) (fun h => by cases h) hc (alloc_get _ _) (by rw [hs]; simp)
  simpa using this

include hT in
theorem buildSlice_sem {nx : Nat} {t : TypeId} {len : Nat} {parts : Array (Nat × Operand)} (ho : o.op = .buildSlice t len parts) (h : stepBuildSlice T nx t len (partsOf env parts) = some r) (hok : r.ok = true) (hn : H.get nx = none) : OpSemD P o env H r := by
  unfold stepBuildSlice at h
  split at h
  case h_2 => cases h
  rename_i e ti he
  obtain ⟨ht, hti⟩ := elemOf_spec hT he
  generalize hfill : fillR ti.size (List.replicate len (ofVal ti.zero)) (partsOf env parts) = fill at h
  obtain ⟨okf, es⟩ := fill
  simp only at h
  have hok3 : okf = true ∧ zeroOk ti = true ∧ len * ti.size ≤ 2 ^ 24 := by
    split at h <;> (injection h with h; subst h; simp only [Bool.and_eq_true, decide_eq_true_eq] at hok; exact ⟨hok.1.1, hok.1.2, hok.2⟩)
  obtain ⟨hf, hz, hlim⟩ := hok3
  intro H' hD hfresh w g ρ hρ hH hφ
  obtain ⟨hl, hr⟩ := parts_rel (parts := parts) fun x hx => hρ x (by simpa [ho, Op.operands] using hx)
  have hzs : ti.zero.cells.size = ti.size := by simp only [zeroOk, Bool.and_eq_true, beq_iff_eq] at hz; exact hz.1
  have hel : ∀ x ∈ List.replicate len (ofVal ti.zero), x.cells.length = ti.size := by
    intro x hx
    rw [List.eq_of_mem_replicate hx]
    have := (zero_cells (w := w) (g := g) hz).1
    omega
  obtain ⟨ys, h1, h2, h3, h4, h5⟩ := fillR_rel (w := w) (g := g) (partsOf env parts) _ (List.replicate len (ofVal ti.zero)) ((Array.range (len * ti.size)).map (ti.zero.cells[· % ti.zero.cells.size]!)) (zero_row hz len len (Nat.le_refl _)) (by simp) hel hl hr (by rw [hfill]; exact hf)
  rw [hfill] at h2 h4 h5
  have hrun : (Instr.buildSlice t len (parts.map fun (i, x) => (i, ρ x))).run P w = .ok (.slice (some ⟨w.heap.size, 0, none⟩) len len) (w.alloc (.cells ys e)) := by
    unfold Instr.buildSlice
    show (Sem.bind (underlying t) _).run P w = _
    rw [run_bind (underlying_run ht w)]
    show (Sem.bind (Go.sizeOf e) _).run P w = _
    rw [run_bind (hT.sizeOf hti w)]
    rw [if_neg (by omega)]
    have hempty : ∀ (f : Nat → Value), len * ti.size = 0 → (Array.range (len * ti.size)).map f = #[] := fun f h => Array.eq_empty_of_size_eq_zero (by simp [h])
    by_cases h0 : len * ti.size = 0
    · rw [if_pos h0]
      rw [hempty _ h0] at h1
      show (Sem.bind (Sem.pure (#[] : Array Value)) _).run P w = _
      rw [run_bind (a := (#[] : Array Value)) (w' := w) rfl]
      dsimp only
      rw [hempty _ h0, h1]
      show (Sem.bind (newRow e ys) _).run P w = _
      rw [run_bind (newRow_run e ys w)]; rfl
    · rw [if_neg h0]
      show (Sem.bind (zeroValue e) _).run P w = _
      rw [run_bind (hT.zero hti w)]
      show (Sem.bind (Sem.pure ti.zero.cells) _).run P w = _
      rw [run_bind (a := ti.zero.cells) (w' := w) rfl]
      dsimp only
      rw [h1]
      show (Sem.bind (newRow e ys) _).run P w = _
      rw [run_bind (newRow_run e ys w)]; rfl
  unfold OpOK
  simp only [execOp, ho]
  rw [run_value hrun]
  split at h
  · rename_i hc
    injection h with h; subst h
    simp only [Bool.and_eq_true] at hc
    exact post_row_ro hH h2 h5 (by rw [h4]; simp) (by rw [h3]; simp) hc.2
  · injection h with h; subst h
    have hn' := hfresh _ (List.mem_singleton.2 rfl) hn
    have hg := hφ _ (List.mem_singleton.2 rfl) hn'
    exact post_row hH hn' hg h2 h5 (by rw [h4]; simp) (by rw [h3]; simp) (Nat.le_refl _)
end

/-- The least or the greatest of integers. -/
def mm2 (most : Bool) : AV → AV → Option AV
  | .sc (.int k x), .sc (.int _ y) => match most with
    | true => some (.sc (.int k (max x y)))
    | false => some (.sc (.int k (min x y)))
  | _, _ => none
def mmAll (most : Bool) : AV → List AV → Option AV
  | a, [] => some a
  | a, b :: l => (mm2 most a b).bind fun c => mmAll most c l
def stepMM (most : Bool) : List AV → Option Out
  | a :: l => (mmAll most a l).map fun v => { v := v }
  | [] => none
theorem mm_run {P : Program} {w : World} {g : Gh} (most : Bool) : ∀ (l : List AV) (ys : List Value) (a : AV) (x : Value) (v : AV), l.length = ys.length → (∀ (i : Nat) (b : AV) (y : Value), l[i]? = some b → ys[i]? = some y → Cv w g b y) → Cv w g a x → mmAll most a l = some v →
    ∃ z, (ys.foldlM (if most then Builtin.max2 else Builtin.min2) x).run P w = .ok z w ∧ Cv w g v z
  | [], [], a, x, v, _, _, hx, h => by
    simp only [mmAll, Option.some.injEq] at h; subst h
    exact ⟨x, rfl, hx⟩
  | b :: l, y :: ys, a, x, v, hl, hr, hx, h => by
    simp only [mmAll] at h
    obtain ⟨c, hc, hv⟩ := Option.bind_eq_some_iff.1 h
    have hy := hr 0 b y rfl rfl
    unfold mm2 at hc
    split at hc
    · rename_i k p k' q
      have e1 := hx.sc_inv
      have e2 := hy.sc_inv
      subst e1 e2
      have hstep : ∃ u, ((if most then Builtin.max2 else Builtin.min2) (.int k p) (.int k' q)).run P w = .ok u w ∧ Cv w g c u := by
        cases most
        · injection hc with hc; subst hc
          have : min p q = if q < p then q else p := by rw [Int.min_def]; split <;> split <;> omega
          rw [this]
          exact ⟨.int k (if q < p then q else p), rfl, .sc _ rfl⟩
        · injection hc with hc; subst hc
          have : max p q = if q > p then q else p := by rw [Int.max_def]; split <;> split <;> omega
          rw [this]
          exact ⟨.int k (if q > p then q else p), rfl, .sc _ rfl⟩
      obtain ⟨u, hu, hcu⟩ := hstep
      obtain ⟨z, hz, hcz⟩ := mm_run most l ys _ u v (by simpa using hl) (fun i b y hb hy => hr (i + 1) b y (by simpa using hb) (by simpa using hy)) hcu hv
      refine ⟨z, ?_, hcz⟩
      rw [List.foldlM_cons]
      show (Sem.bind _ _).run P w = _
      rw [run_bind hu]; exact hz
    · cases hc
  | [], _ :: _, _, _, _, h, _, _, _ => by simp at h
  | _ :: _, [], _, _, _, h, _, _, _ => by simp at h
theorem mm_sem {P : Program} {o : Oper} {env : Operand → AV} {H : AH} {r : Out} (most : Bool) {args : Array Operand} {tys : Array TypeId} (ho : o.op = .call { callee := .builtin (if most then .max else .min), args := args, argTypes := tys }) (h : stepMM most (args.toList.map env) = some r) : OpSemD P o env H r := by
  cases hl : args.toList with
  | nil => simp [stepMM, hl] at h
  | cons a l =>
    simp only [hl, List.map_cons, stepMM] at h
    obtain ⟨v, hv, rfl⟩ := Option.map_eq_some_iff.1 h
    refine OpSemD.pure' rfl fun w g ρ hρ => ?_
    have hm : ∀ x ∈ a :: l, Cv w g (env x) (ρ x) := fun x hx => hρ x (by
      simp only [ho, Op.operands, Call.operands, Array.toList_append, List.mem_append]
      exact .inr (by rw [hl]; exact hx))
    obtain ⟨z, hz, hc⟩ := mm_run (P := P) most (l.map env) (l.map ρ) (env a) (ρ a) v (by simp) (fun i b y hb hy => by
      rw [List.getElem?_map] at hb hy
      obtain ⟨u, hu, rfl⟩ := Option.map_eq_some_iff.1 hb
      rw [hu] at hy; injection hy with hy; subst hy
      exact hm u (List.mem_cons_of_mem _ (List.mem_of_getElem? hu))) (hm a (by simp)) hv
    refine ⟨z, ?_, hc⟩
    have e : (args.map ρ).toList = ρ a :: l.map ρ := by simp [hl]
    cases most
    · simp only [execOp, ho, resolve]
      refine run_value ?_
      show (Builtin.min_ tys o.type (args.map ρ)).run P w = _
      unfold Builtin.min_
      rw [e]; exact hz
    · simp only [execOp, ho, resolve]
      refine run_value ?_
      show (Builtin.max_ tys o.type (args.map ρ)).run P w = _
      unfold Builtin.max_
      rw [e]; exact hz
end Go.Proofs.Ytjnmbmdplchfkaa.Am
