/- The owned machine, part H: loads, stores and new variables do what their steps say. -/
import Derived.Test.YtjnmbmdplchfkaaAmG
set_option linter.all false
namespace Go.Proofs.Ytjnmbmdplchfkaa.Am
variable [Lo]
set_option linter.unusedVariables false

theorem Blk.Rel.row {w : World} {g : Gh} {id b E E' : Nat} {ty : TypeId} {es : List AV} (h : (Blk.row E' ty es).Rel w g id) (hφ : g.φ id = some (b, E)) :
    E' = E ∧ (∀ e, e ∈ es → e.cells.length = E) ∧ ∃ cs, w.heap[b]? = some (.cells cs ty (0, 0)) ∧ es.length * E ≤ cs.size ∧ ∀ (i j : Nat) (e c : AV), es[i]? = some e → e.cells[j]? = some c → ∃ x, cs[i * E + j]? = some x ∧ Cv w g c x := by
  obtain ⟨h0, h | ⟨b', cs, h1, h2, h3, h4⟩⟩ := h
  · rw [hφ] at h; cases h.1
  · rw [hφ] at h1; injection h1 with h1; injection h1 with a c; subst a c
    exact ⟨rfl, h0, cs, h2, h3, h4⟩

/-- A turned row: what is known goes on. -/
theorem Mono.put {w : World} {g : Gh} {b : Nat} {cs cs' : Array Value} {ty : TypeId} {fz : Nat × Nat} (h : w.heap[b]? = some (.cells cs ty fz)) (hs : cs'.size = cs.size) (hI : ¬ g.I b) : Mono w g (put w b (.cells cs' ty fz)) g := by
  refine ⟨fun _ _ h => h, fun k hk => ⟨hk, ?_⟩, fun k ds u f hk => ?_⟩
  · rw [put_get, if_neg (by rintro ⟨rfl, _⟩; exact hI hk)]
  · by_cases hb : b = k
    · subst hb
      rw [h] at hk; injection hk with hk; injection hk with a c d; subst a c d
      exact ⟨cs', by rw [put_get, if_pos ⟨rfl, heap_lt h⟩], hs⟩
    · exact ⟨ds, by rw [put_get, if_neg (by simp [hb])]; exact hk, rfl⟩
theorem Ext.put {w : World} {g : Gh} {H : AH} {id b E : Nat} {B : Blk} {o : Obj} (h : H.get id = some B) (hφ : g.φ id = some (b, E)) : Ext w g H (put w b o) :=
  ⟨rfl, rfl, rfl, by simp [Am.put], fun k hk hn => by rw [put_get, if_neg (by rintro ⟨rfl, _⟩; exact hn id B E h hφ)]⟩
theorem HRel.put {w : World} {g : Gh} {H : AH} (hH : HRel w g H) {id b E : Nat} {B B' : Blk} (h : H.get id = some B) (hφ : g.φ id = some (b, E)) {o : Obj} (m : Mono w g (put w b o) g) (hB : B'.Rel (Am.put w b o) g id) : HRel (Am.put w b o) g (H.set id B') := by
  refine ⟨fun j A hj => ?_, fun i j c E1 E2 A1 A2 hi hj => ?_, fun i c E1 A hi => ?_, fun c hc => by simp [Am.put]; exact hH.lt c hc, hH.gl.mono m.I (by simp [Am.put])⟩
  · rw [AH.get_set] at hj
    split at hj
    · rename_i e; subst e; injection hj with hj; subst hj; exact hB
    · rename_i e
      refine (hH.rel j A hj).keep m rfl fun c E1 hc => ?_
      rw [put_get, if_neg ?_]
      rintro ⟨rfl, _⟩
      exact e (hH.apart _ _ _ _ _ _ _ hj h hc hφ)
  · rw [AH.get_set] at hi hj
    intro h1 h2
    have hi' : ∃ A, H.get i = some A := by split at hi <;> first | exact ⟨_, by subst_vars; exact h⟩ | exact ⟨_, hi⟩
    have hj' : ∃ A, H.get j = some A := by split at hj <;> first | exact ⟨_, by subst_vars; exact h⟩ | exact ⟨_, hj⟩
    obtain ⟨_, hi'⟩ := hi'
    obtain ⟨_, hj'⟩ := hj'
    exact hH.apart _ _ _ _ _ _ _ hi' hj' h1 h2
  · rw [AH.get_set] at hi
    intro h1
    have hi' : ∃ A, H.get i = some A := by split at hi <;> first | exact ⟨_, by subst_vars; exact h⟩ | exact ⟨_, hi⟩
    obtain ⟨_, hi'⟩ := hi'
    exact hH.imm _ _ _ _ hi' h1

/-- A new block. -/
def Gh.new (g : Gh) (id b E : Nat) : Gh := { g with φ := fun k => if k = id then some (b, E) else g.φ k }
theorem Mono.new {w : World} {g : Gh} {id E : Nat} (o : Obj) (h : g.φ id = none) (hI : ∀ b, g.I b → b < w.heap.size) : Mono w g (w.alloc o) (g.new id w.heap.size E) := by
  refine ⟨fun k p hk => ?_, fun k hk => ⟨hk, ?_⟩, fun k ds u f hk => ⟨ds, ?_, rfl⟩⟩
  · simp only [Gh.new]; rw [if_neg (by rintro rfl; rw [h] at hk; cases hk)]; exact hk
  · exact Go.RowKit.Below.heap_alloc w o k (hI k hk)
  · exact (Go.RowKit.Below.heap_alloc w o k (heap_lt hk)).trans hk
theorem Ext.alloc {w : World} {g : Gh} {H : AH} (o : Obj) : Ext w g H (w.alloc o) :=
  ⟨rfl, rfl, rfl, by simp, fun k hk _ => Go.RowKit.Below.heap_alloc w o k hk⟩
theorem HRel.new {w : World} {g : Gh} {H : AH} (hH : HRel w g H) {id E : Nat} {B : Blk} {o : Obj} (hn : H.get id = none) (hφ : g.φ id = none) (hB : B.Rel (w.alloc o) (g.new id w.heap.size E) id) : HRel (w.alloc o) (g.new id w.heap.size E) (H.set id B) := by
  have m := Mono.new (E := E) o hφ hH.lt
  have old : ∀ {j b E' : Nat} {A : Blk}, H.get j = some A → g.φ j = some (b, E') → b < w.heap.size := fun hj hb => (hH.rel _ _ hj).lt hb
  refine ⟨fun j A hj => ?_, fun i j c E1 E2 A1 A2 hi hj => ?_, fun i c E1 A hi => ?_, fun c hc => by have := hH.lt c hc; simp; omega, hH.gl.mono m.I⟩
  · rw [AH.get_set] at hj
    split at hj
    · rename_i e; subst e; injection hj with hj; subst hj; exact hB
    · rename_i e
      refine (hH.rel j A hj).keep m (by simp [Gh.new, e]) fun c E1 hc => Go.RowKit.Below.heap_alloc w o c (old hj hc)
  · rw [AH.get_set] at hi hj
    simp only [Gh.new]
    intro h1 h2
    split at hi <;> split at hj <;> simp_all
    · exact absurd (old hj h2) (by omega)
    · exact absurd (old hi h1) (by omega)
    · exact hH.apart _ _ _ _ _ _ _ hi hj h1 h2
  · rw [AH.get_set] at hi
    simp only [Gh.new]
    intro h1 hc
    split at hi
    · rename_i e; rw [if_pos e] at h1; injection h1 with h1; injection h1 with h1 _; have := hH.lt c hc; omega
    · rename_i e; rw [if_neg e] at h1; exact hH.imm _ _ _ _ hi h1 hc

/-- The behind of a new block. -/
theorem Post.new {w : World} {g : Gh} {H : AH} (hH : HRel w g H) {id E : Nat} {B : Blk} {o : Obj} {v : AV} {x : Value} (hn : H.get id = none) (hφ : g.φ id = none) (hB : B.Rel (w.alloc o) (g.new id w.heap.size E) id)
    (hv : Cv (w.alloc o) (g.new id w.heap.size E) v x) : Post w g H v [(id, some B)] x (w.alloc o) :=
  ⟨_, ⟨Mono.new o hφ hH.lt, Ext.alloc o, fun k B b E' hk hb hlt => by
    simp only [AH.upd, AH.get_set] at hk
    simp only [Gh.new] at hb
    split at hk
    · rename_i e; rw [if_pos e] at hb; injection hb with hb; injection hb with hb _; omega
    · rename_i e; rw [if_neg e] at hb; exact ⟨k, B, E', hk, hb⟩, fun _ h _ => .inl h, hH.new hn hφ hB⟩, hv, fun k hk => by
    have hne : k ≠ id := by rintro rfl; rcases hk with hk | hk
                            · simp at hk
                            · exact hk hn
    simp [Gh.new, hne]⟩
theorem Post.put {w : World} {g : Gh} {H : AH} (hH : HRel w g H) {id b E : Nat} {B B' : Blk} (h : H.get id = some B) (hφ : g.φ id = some (b, E)) {o : Obj} (m : Mono w g (Am.put w b o) g) (hB : B'.Rel (Am.put w b o) g id) {v : AV} {x : Value} (hv : Cv (Am.put w b o) g v x) :
    Post w g H v [(id, some B')] x (Am.put w b o) :=
  ⟨g, ⟨m, Ext.put h hφ, fun k A c E' hk hc hlt => by
    simp only [AH.upd, AH.get_set] at hk
    split at hk
    · rename_i e; subst e; exact ⟨_, _, _, h, hc⟩
    · exact ⟨_, _, _, hk, hc⟩, fun _ h _ => .inl h, hH.put h hφ m hB⟩, hv, fun _ _ => rfl⟩
theorem Post.put_undef {w : World} {g : Gh} {H : AH} (hH : HRel w g H) {id b E : Nat} {B B' : Blk} (h : H.get id = some B) (hφ : g.φ id = some (b, E)) {o : Obj} (m : Mono w g (Am.put w b o) g) (hB : B'.Rel (Am.put w b o) g id) :
    Post w g H (.sc undef) [(id, some B')] undef (Am.put w b o) := Post.put hH h hφ m hB (.sc _ rfl)

theorem splice_length {l m : List AV} {off : Nat} (h : off + m.length ≤ l.length) : (splice l off m).length = l.length := by
  unfold splice; simp; omega
theorem splice_get {l m : List AV} {off : Nat} (h : off + m.length ≤ l.length) (k : Nat) : (splice l off m)[k]? = if off ≤ k ∧ k < off + m.length then m[k - off]? else l[k]? := by
  unfold splice
  rw [List.getElem?_append, List.length_take, Nat.min_eq_left (by omega), List.getElem?_take]
  by_cases h1 : k < off
  · rw [if_pos h1, if_pos h1, if_neg (by omega)]
  · rw [if_neg h1, List.getElem?_append]
    by_cases h2 : k - off < m.length
    · rw [if_pos h2, if_pos (by omega)]
    · rw [if_neg h2, if_neg (by omega), List.getElem?_drop]; congr 1; omega
theorem putPart_cells {off E : Nat} {e v : AV} (hE : e.cells.length = E) (h : off + v.cells.length ≤ E) : (putPart off E e v).cells = splice e.cells off v.cells := by
  unfold putPart
  split
  · rename_i h1
    obtain ⟨rfl, h2⟩ := h1
    unfold splice; simp; omega
  · rfl

theorem storable_flat {w : World} {g : Gh} {c : AV} {v : Value} (hc : Cv w g c v) (hs : storable c = true) : (∀ l, v ≠ .agg l) ∧ ∀ l, v ≠ .tuple l := by
  constructor <;> (rintro l rfl; cases hc <;> first | (simp [storable] at hs; done) | (rename_i hx _; obtain ⟨_, _, _, h⟩ := hx; cases h))

section
variable {P : Program} {T : TT} (hT : T.Ok P) {o : Oper} {env : Operand → AV} {H : AH} {r : Out}
include hT

theorem load_at {t : TypeId} {a : AV} (h : stepLoad T H t a = some r) (hok : r.ok = true) {w : World} {g : Gh} (hH : HRel w g H) {y : Value} (hy : Cv w g a y) :
    ∃ x ad, y = .pointer (some ad) ∧ (Instr.loadAt t y).run P w = .ok x w ∧ Cv w g r.v x := by
  unfold stepLoad at h
  split at h
  case h_1 => cases h
  rename_i ti hti
  cases a with
  | ptr id E idx off =>
    dsimp only at h
    split at h
    case h_2 => cases h
    rename_i E' ty es hB
    injection h with h; subst h
    simp at hok
    obtain ⟨⟨⟨h1, h2⟩, h3⟩, h4⟩ := hok
    subst h3
    cases hy with
    | ptr hφ =>
      rename_i b
      have h6 := hH.rel id _ hB
      obtain ⟨_, h7, cs, h8, h9, h10⟩ := h6.row hφ
      have he := List.getElem?_eq_getElem h1
      have hel := h7 es[idx] (by simp)
      have := load_run hT hti h4 (w := w) (g := g) (e := es[idx]) (b := b) (o := idx * E') (fun j => cs.getD (idx * E' + j) undef) (fun j c hj => by
        obtain ⟨x, hx, _⟩ := h10 idx j _ c he hj
        simp [World.cell?, h8, hx]) (fun j c hj => by
        obtain ⟨x, hx, hc⟩ := h10 idx j _ c he hj
        rw [Array.getD_eq_getD_getElem?, hx]; exact hc) (off := off) (by rw [hel]; exact h2)
      obtain ⟨y, hy, hcv⟩ := this
      refine ⟨y, _, rfl, hy, ?_⟩
      rw [List.getD_eq_getElem?_getD, he]; rw [hel] at hcv; exact hcv
  | rp e off =>
    dsimp only at h
    simp only [Option.some.injEq] at h
    subst h
    simp at hok
    cases hy with
    | rp X hI hc hv =>
      obtain ⟨y, hy, hcv⟩ := load_run hT hti hok.2 X hc hv hok.1
      exact ⟨y, _, rfl, hy, hcv.of_base⟩
  | _ => simp at h
omit hT in
theorem stepLoad_congr {H' : AH} {t : TypeId} {a : AV} (h : stepLoad T H t a = some r) (hD : ∀ id ∈ r.D, H'.get id = H.get id) : stepLoad T H' t a = some r := by
  unfold stepLoad at h ⊢
  split at h
  · cases h
  · cases a with
    | ptr id E idx off =>
      dsimp only at h ⊢
      split at h
      · rename_i hB
        injection h with h; subst h
        rw [hD id (by simp), hB]
      · cases h
    | _ => exact h
omit hT in
theorem stepLoad_δ {t : TypeId} {a : AV} (h : stepLoad T H t a = some r) : r.δ = [] := by
  unfold stepLoad at h
  split at h
  · cases h
  · cases a with
    | ptr id E idx off =>
      dsimp only at h ⊢
      split at h
      · injection h with h; subst h; rfl
      · cases h
    | rp e off => dsimp only at h; injection h with h; subst h; rfl
    | _ => simp at h
theorem load_sem {t : TypeId} {a : Operand} (ho : o.op = .load t a) (h : stepLoad T H t (env a) = some r) (hok : r.ok = true) : OpSemD P o env H r :=
  OpSemD.read (stepLoad_δ h) fun H' w g ρ hρ hH hD => by
    obtain ⟨x, ad, _, hx, hc⟩ := load_at hT (stepLoad_congr h hD) hok hH (hρ a (by simp [ho, Op.operands]))
    refine ⟨x, ?_, hc⟩
    simp only [execOp, ho]
    exact run_value hx

theorem store_sem {t : TypeId} {a x : Operand} (ho : o.op = .store t a x) (h : stepStore T H t (env a) (env x) = some r) (hok : r.ok = true) : OpSemD P o env H r := by
  unfold stepStore at h
  split at h
  case h_1 => cases h
  rename_i ti hti
  cases ha : env a with
  | ptr id E idx off =>
    simp only [ha] at h
    split at h
    case h_2 => cases h
    rename_i E' ty es hB
    injection h with h; subst h
    simp at hok
    obtain ⟨⟨⟨⟨⟨h1, h2⟩, h3⟩, h4⟩, hst⟩, hkn⟩ := hok
    subst h3
    intro H' hD hfresh w g ρ h hH _
    have h5 := h a (by simp [ho, Op.operands])
    have hx := h x (by simp [ho, Op.operands])
    rw [ha] at h5
    generalize hρ : ρ a = y at h5
    generalize hρ' : ρ x = u at hx
    cases h5 with
    | ptr hφ =>
      rename_i b
      have hB' := (hD id (by simp)).trans hB
      obtain ⟨_, h7, cs, h8, h9, h10⟩ := (hH.rel id _ hB').row hφ
      have he := List.getElem?_eq_getElem h1
      have hel := h7 es[idx] (by simp)
      obtain ⟨hl, hcv⟩ := hx.cells hkn
      have hus : u.cells.size = ti.size := by omega
      have hidx : idx * E' + E' ≤ es.length * E' := by rw [← Nat.succ_mul]; exact Nat.mul_le_mul_right _ h1
      have hflat : ∀ v ∈ u.cells.toList, (∀ l, v ≠ .agg l) ∧ ∀ l, v ≠ .tuple l := by
        intro v hv
        obtain ⟨i, hi, rfl⟩ := List.getElem_of_mem hv
        have hi' : i < (env x).cells.length := by simp at hi; omega
        have hc := hcv i _ _ (List.getElem?_eq_getElem hi') (show u.cells[i]? = some (u.cells.toList[i]) by rw [← Array.getElem?_toList]; exact List.getElem?_eq_getElem hi)
        have hs := hst _ (List.getElem_mem hi')
        exact storable_flat hc hs
      have hrun : (Instr.storeAt t (.pointer (some ⟨b, idx * E' + off, none⟩)) u).run P w = .ok () (Am.put w b (.cells (setRange cs (idx * E' + off) u.cells.toList) ty (0, 0))) := by
        unfold Instr.storeAt storeVar
        show (Sem.bind (Go.sizeOf t) _).run P w = _
        rw [run_bind (hT.sizeOf hti w)]
        rw [if_neg (by simpa using hus)]
        have := storeCells_run (P := P) (b := b) (o := idx * E' + off) u.cells.toList 0 w cs h8 (by simp; omega) hflat
        simpa using this
      unfold OpOK
      simp only [execOp, ho, hρ, hρ']
      rw [run_skip hrun]
      have hsz : (setRange cs (idx * E' + off) u.cells.toList).size = cs.size := setRange_size _ _ _
      have m := Mono.put (g := g) h8 hsz (hH.imm _ _ _ _ hB' hφ)
      refine Post.put_undef hH hB' hφ m ⟨fun e he' => ?_, .inr ⟨b, _, hφ, by rw [put_get, if_pos ⟨rfl, heap_lt h8⟩], by rw [hsz]; simpa using h9, fun i j e c hi hj => ?_⟩⟩
      · rcases List.mem_or_eq_of_mem_set he' with h11 | rfl
        · exact h7 _ h11
        · rw [List.getD_eq_getElem?_getD, he]
          show (putPart off E' es[idx] (env x)).cells.length = E'
          rw [putPart_cells hel (by omega), splice_length (by omega), hel]
      · rw [setRange_get _ _ _ _ (by simp; omega)]
        rw [List.getElem?_set] at hi
        split at hi
        · rename_i hii; subst hii
          injection hi with hi
          rw [List.getD_eq_getElem?_getD, he] at hi
          change putPart off E' es[idx] (env x) = e at hi
          subst hi
          rw [putPart_cells hel (by omega), splice_get (by omega)] at hj
          have hlen : u.cells.toList.length = ti.size := by simpa using hus
          split at hj
          · rename_i hr
            rw [if_pos (by omega), show idx * E' + j - (idx * E' + off) = j - off by omega]
            have hlt : j - off < u.cells.size := by omega
            exact ⟨u.cells[j - off], by simp [hlt], (hcv _ _ _ hj (by simp [hlt])).mono m⟩
          · rename_i hr
            rw [if_neg (by omega)]
            obtain ⟨z, hz, hc⟩ := h10 idx j _ c he hj
            exact ⟨z, hz, hc.mono m⟩
        · rename_i hii
          obtain ⟨z, hz, hc⟩ := h10 i j _ c hi hj
          have hjE : j < E' := by
            have h12 := h7 e (List.mem_of_getElem? hi)
            have := (List.getElem?_eq_some_iff.1 hj).1
            omega
          refine ⟨z, ?_, hc.mono m⟩
          rw [if_neg ?_]
          · exact hz
          · have hlen : u.cells.toList.length = ti.size := by simpa using hus
            intro ⟨ha1, ha2⟩
            rcases Nat.lt_or_gt_of_ne hii with hlt | hlt
            · have : (idx + 1) * E' ≤ i * E' := Nat.mul_le_mul_right _ hlt
              rw [Nat.succ_mul] at this; omega
            · have : (i + 1) * E' ≤ idx * E' := Nat.mul_le_mul_right _ hlt
              rw [Nat.succ_mul] at this; omega
  | _ => simp [ha] at h
end
end Go.Proofs.Ytjnmbmdplchfkaa.Am
