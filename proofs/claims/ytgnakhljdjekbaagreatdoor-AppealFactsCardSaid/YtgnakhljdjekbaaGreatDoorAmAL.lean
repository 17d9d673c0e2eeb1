/- The owned machine, part AL: append onto a row that is kept: in place under its name, or in a new block beside it. -/
import Derived.Test.YtgnakhljdjekbaaGreatDoorAmFZ
set_option linter.all false
namespace Go.Proofs.YtgnakhljdjekbaaGreatDoor.Am
open Go
set_option linter.unusedVariables false
section
variable {P : Program} {T : TT} (hT : T.Ok P) {o : Oper} {env : Operand → AV} {H : AH} {r : Out}
include hT
theorem append2_sem {nx : Nat} {t xt : TypeId} {s x : Operand} (ho : o.op = .call { callee := .builtin .append, args := #[s, x], argTypes := #[t, xt] })
    {e e' : TypeId} {ti : TI} (he : elemOf T t = some (e, ti)) (hxk : (T.get xt).map TI.k = some (.slice e')) {full : Fl} {id len : Nat} {ty : TypeId} {es ns : List AV} {D1 : List Nat}
    (hs : env s = .slm full id ti.size 0 len) (hB : H.get id = some (.row ti.size ty es)) (hte : ty = e) (hsrc : srcOf H ti.size (env x) = some (true, ns, D1)) (hl : 0 < len) (hle : len ≤ es.length)
    (hroom : room (len + ns.length) ti.bytes = true) (hz : zeroOk ti = true) (hst : storables ns = true) (hn : H.get nx = none) {w : World} {g : Gh} {ρ : Operand → Value}
    (hρ : ∀ y ∈ o.op.operands.toList, Cv w g (env y) (ρ y)) (hH : HRel w g H) (hg : g.φ nx = none) :
    OpOK P o ρ w fun v w' => Post w g H (.slm ⟨false, full.nn || decide (0 < ns.length)⟩ id ti.size 0 (len + ns.length)) [(id, some (.row ti.size ty (es.take len ++ ns)))] v w' ∨
      Post w g H (.slm ⟨false, full.nn || decide (0 < ns.length)⟩ nx ti.size 0 (len + ns.length)) [(nx, some (.row ti.size ty (es.take len ++ ns)))] v w' := by
  subst hte
  obtain ⟨ht, hti⟩ := elemOf_spec hT he
  obtain ⟨xi, hx1, hx2⟩ := Option.map_eq_some_iff.1 hxk
  have hxt := hT.slice hx1 hx2
  have run : ∀ {w w' : World} {ρ : Operand → Value} {v : Value}, (Builtin.append_ #[t, xt] o.type #[ρ s, ρ x]).run P w = .ok v w' → (execOp ρ o).run P w = .ok (.value v) w' := by
    intro w w' ρ v hv
    have e : (#[s, x] : Array Operand).map ρ = #[ρ s, ρ x] := by simp
    simp only [execOp, ho, resolve, e]
    exact run_value hv
  have zsz : ∀ k, (Builtin.zeroCells ti.zero.cells k).size = k * ti.zero.cells.size := by intro k; simp [Builtin.zeroCells]
  have c1 := hρ s (by simp [ho, Op.operands, Call.operands])
  have c2 := hρ x (by simp [ho, Op.operands, Call.operands])
  have hzs : ti.zero.cells.size = ti.size := by simp only [zeroOk, Bool.and_eq_true, beq_iff_eq] at hz; exact hz.1
  have hssrc : srcOf H ti.size (.slm full id ti.size 0 len) = some (true, es.take len, [id]) := by simp [srcOf, hB, hle]
  have hlen : (es.take len).length = len := by simp; omega
  have fresh : ∀ {sCap : Nat} {base : Option Addr}, ρ s = .slice base len sCap → ¬ len + ns.length ≤ sCap → OpOK P o ρ w (fun v w' => Post w g H (.slm ⟨false, full.nn || decide (0 < ns.length)⟩ id ti.size 0 (len + ns.length)) [(id, some (.row ti.size ty (es.take len ++ ns)))] v w' ∨ Post w g H (.slm ⟨false, full.nn || decide (0 < ns.length)⟩ nx ti.size 0 (len + ns.length)) [(nx, some (.row ti.size ty (es.take len ++ ns)))] v w') := by
    intro sCap base hsv hcap
    obtain ⟨a, c, hy, _, hE, cells, hcells, hcs, hrow⟩ := src_read (P := P) hsrc (hH.drawn (w.drawn + 1)) (c2.mono (mono_drawn w g (w.drawn + 1)))
    rw [hy] at hcells
    have c1' := c1.mono (mono_drawn w g (w.drawn + 1))
    rw [hs] at c1'
    obtain ⟨a', c', hy', _, hE', cells', hcells', hcs', hrow'⟩ := src_read (P := P) hssrc (hH.drawn (w.drawn + 1)) c1'
    rw [hsv] at hy' hcells'
    rw [hlen] at hcells' hy'
    obtain ⟨newCap, hcap', hv⟩ := append_new (P := P) hT ht hxt hti (tys := #[t, xt]) (w := w) (ty := o.type) rfl rfl (base := base) (sLen := len) (sCap := sCap) (old := cells') hcells' hcells hcap hroom
    unfold OpOK
    rw [run (by rw [hsv, hy]; exact hv)]
    have := append_fresh hH hn hg (e := ty) (ti := ti) (l1 := es.take len) (l2 := ns) (c1 := cells') (c2 := cells) (c3 := Builtin.zeroCells ti.zero.cells (newCap - (len + ns.length))) (newCap := newCap) (full.nn || decide (0 < ns.length)) hrow' hcs' hrow hcs hE' hE (by rw [zsz, hzs, hlen]) (by rw [hlen]; exact hcap')
    obtain ⟨g', hA, hc, hφ'⟩ := this
    rw [hlen] at hc
    refine .inr ⟨g', hA, hc, fun i hid => hφ' i ?_⟩
    rintro rfl
    rcases hid with h | h
    · simp at h
    · exact h hn
  have c1' := c1
  rw [hs] at c1'
  generalize hq : ρ s = q at c1'
  cases c1' with
  | slz hnn => omega
  | slm hφi hfull hlc hb hsz =>
    rename_i b cap cs ty' fz
    by_cases hcap : len + ns.length ≤ cap
    case neg => exact fresh hq hcap
    obtain ⟨a2, c, hy, _, hE, cells, hcells, hcs, hrow⟩ := src_read (P := P) hsrc hH c2
    obtain ⟨_, h7, cs2, h8, h9, h10⟩ := (hH.rel id _ hB).row hφi
    rw [hb] at h8; injection h8 with h8; injection h8 with a1 a2 a3; subst a1 a2 a3
    have hroomc : len * ti.size + cells.size ≤ cs.size := by
      rw [hcs, ← Nat.add_mul]
      refine Nat.le_trans (Nat.mul_le_mul_right _ hcap) ?_
      simpa using hsz
    have hflat : ∀ v ∈ cells.toList, (∀ l, v ≠ .agg l) ∧ ∀ l, v ≠ .tuple l := by
      intro v hv
      obtain ⟨k, hk, rfl⟩ := List.getElem_of_mem hv
      have hk' : k < ns.length * ti.size := by rw [← hcs]; simpa using hk
      have hE0 : 0 < ti.size := by
        rcases Nat.eq_zero_or_pos ti.size with h | h
        · rw [h, Nat.mul_zero] at hk'; omega
        · exact h
      have k1 : k / ti.size < ns.length := (Nat.div_lt_iff_lt_mul hE0).2 hk'
      have k2 := hE ns[k / ti.size] (List.getElem_mem k1)
      have k3 : k % ti.size < ns[k / ti.size].cells.length := by rw [k2]; exact Nat.mod_lt _ hE0
      obtain ⟨z, hz1, hz2⟩ := hrow (k / ti.size) (k % ti.size) _ _ (List.getElem?_eq_getElem k1) (List.getElem?_eq_getElem k3)
      have k4 : k / ti.size * ti.size + k % ti.size = k := by rw [Nat.mul_comm]; exact Nat.div_add_mod k ti.size
      rw [Nat.zero_add, k4] at hz1
      have k5 : cells.toList[k] = z := by
        rw [← Array.getElem?_toList, List.getElem?_eq_getElem hk] at hz1; injection hz1
      rw [k5]
      have := List.all_eq_true.1 hst _ (List.getElem_mem k1)
      exact storable_flat hz2 (List.all_eq_true.1 this _ (List.getElem_mem k3))
    have hv : (Builtin.append_ #[t, xt] o.type #[ρ s, ρ x]).run P w = .ok (.slice (some ⟨b, 0 * ti.size, none⟩) (len + ns.length) cap) (put w b (.cells (setRange cs (len * ti.size) cells.toList) ty' (0, 0))) := by
      rw [hq, hy, append_head hT ht hxt hti rfl rfl, if_pos hcap]
      rw [hy] at hcells
      show (Sem.bind (Builtin.firstCells _ _ _) _).run P w = _
      rw [run_bind hcells]
      have := storeCells_run (P := P) (b := b) (o := len * ti.size) (ty := ty') cells.toList 0 w cs hb (by simpa using hroomc) hflat
      show (Sem.bind (storeCells _ _) _).run P w = _
      rw [show ((⟨b, 0 * ti.size, none⟩ : Addr).add (len * ti.size)) = ⟨b, len * ti.size, none⟩ by rw [addr_add]; simp]
      rw [run_bind this]; rfl
    unfold OpOK
    rw [run hv]
    have hsz2 : (setRange cs (len * ti.size) cells.toList).size = cs.size := setRange_size _ _ _
    have m : Mono w g (put w b (.cells (setRange cs (len * ti.size) cells.toList) ty' (0, 0))) g := Mono.put (g := g) hb hsz2 (hH.imm _ _ _ _ hB hφi)
    have keep : ∀ {k : Nat} {B : Blk} {c F : Nat}, k ≠ id → H.get k = some B → g.φ k = some (c, F) → c ≠ b := by
      rintro k B c F hne hk hc rfl
      exact hne (hH.apart _ _ _ _ _ _ _ hk hB hc hφi)
    have getk : ∀ {k : Nat} {B : Blk}, (H.set id (.row ti.size ty' (es.take len ++ ns))).get k = some B → (k = id ∧ B = .row ti.size ty' (es.take len ++ ns)) ∨ (k ≠ id ∧ H.get k = some B) := by
      intro k B hk
      rw [AH.get_set] at hk
      split at hk
      · rename_i e1; injection hk with hk; exact .inl ⟨e1, hk.symm⟩
      · rename_i e1; exact .inr ⟨e1, hk⟩
    have hrowB : (Blk.row ti.size ty' (es.take len ++ ns)).Rel (put w b (.cells (setRange cs (len * ti.size) cells.toList) ty' (0, 0))) g id := by
      refine ⟨fun e he => ?_, .inr ⟨b, _, hφi, by rw [put_get, if_pos ⟨rfl, heap_lt hb⟩], ?_, fun i j e c hi hj => ?_⟩⟩
      · rcases List.mem_append.1 he with h | h
        · exact h7 e (List.mem_of_mem_take h)
        · exact hE e h
      · rw [hsz2, List.length_append, hlen]
        refine Nat.le_trans (Nat.mul_le_mul_right _ hcap) ?_
        simpa using hsz
      · rw [setRange_get _ _ _ _ (by simpa using hroomc)]
        simp only [Array.length_toList]
        rw [List.getElem?_append] at hi
        have hjl := (List.getElem?_eq_some_iff.1 hj).1
        split at hi
        · rename_i hlt
          rw [hlen] at hlt
          rw [List.getElem?_take, if_pos hlt] at hi
          obtain ⟨z, hz1, hz2⟩ := h10 i j e c hi hj
          rw [h7 e (List.mem_of_getElem? hi)] at hjl
          have : (i + 1) * ti.size ≤ len * ti.size := Nat.mul_le_mul_right _ hlt
          rw [Nat.succ_mul] at this
          rw [if_neg (by omega)]
          exact ⟨z, hz1, hz2.mono m⟩
        · rename_i hlt
          rw [hlen] at hlt hi
          obtain ⟨z, hz1, hz2⟩ := hrow (i - len) j e c hi hj
          have h3 : len * ti.size ≤ i * ti.size := Nat.mul_le_mul_right _ (by omega)
          have h4 : (i - len) * ti.size = i * ti.size - len * ti.size := Nat.sub_mul _ _ _
          have h5 := (Array.getElem?_eq_some_iff.1 hz1).1
          rw [if_pos (by omega)]
          refine ⟨z, ?_, hz2.mono m⟩
          rw [Array.getElem?_toList, ← hz1]
          congr 1
          omega
    refine .inl ⟨g, ⟨m, Ext.put hB hφi, fun k B c F hk hc hlt => ?_, fun _ h _ => .inl h, ?_⟩, ?_, fun _ _ => rfl⟩
    · rcases getk hk with ⟨rfl, _⟩ | ⟨_, hk2⟩
      · exact ⟨k, _, F, hB, hc⟩
      · exact ⟨k, B, F, hk2, hc⟩
    · refine ⟨fun k B hk => ?_, fun i j c F F' A B hi hj h1 h2 => ?_, fun i c F B hi h1 => ?_, fun c hc => by simp [Am.put]; exact hH.lt c hc, hH.gl.mono m.I⟩
      · rcases getk hk with ⟨rfl, rfl⟩ | ⟨hk1, hk2⟩
        · exact hrowB
        · refine (hH.rel k B hk2).keep m rfl fun c F hc => ?_
          rw [put_get, if_neg (by rintro ⟨rfl, _⟩; exact keep hk1 hk2 hc rfl)]
      · have hA : ∃ A', H.get i = some A' := by
          rcases getk hi with ⟨rfl, _⟩ | ⟨_, h⟩
          · exact ⟨_, hB⟩
          · exact ⟨_, h⟩
        have hB2 : ∃ B', H.get j = some B' := by
          rcases getk hj with ⟨rfl, _⟩ | ⟨_, h⟩
          · exact ⟨_, hB⟩
          · exact ⟨_, h⟩
        obtain ⟨A', hA'⟩ := hA
        obtain ⟨B', hB'⟩ := hB2
        exact hH.apart _ _ _ _ _ _ _ hA' hB' h1 h2
      · rcases getk hi with ⟨rfl, _⟩ | ⟨_, h⟩
        · exact hH.imm _ _ _ _ hB h1
        · exact hH.imm _ _ _ _ h h1
    · exact Cv.slm (w := put w b (.cells (setRange cs (len * ti.size) cells.toList) ty' (0, 0))) (g := g) (fl := ⟨false, full.nn || decide (0 < ns.length)⟩) (id := id) (off := 0) (len := len + ns.length) (b := b) (E := ti.size) (cap := cap) hφi (fun h => by cases h) hcap
        (by rw [put_get, if_pos ⟨rfl, heap_lt hb⟩]) (by rw [hsz2]; exact hsz)
end

/-- The first operations of a list by their records, the rest left. -/
theorem lin_pre {P : Program} {n : Nat} {ops : Array Oper} {Q : Exit → Act → World → Prop} (r : Option Nat) (rest : List Oper) : ∀ (l : List Oper) (rs : List Rec) (fr : Fr) (H : AH) (nx : Nat) (a : Act) (w : World) (g : Gh),
    Lin P n ops l rs fr H nx → FRel w g n fr a → HRel w g H → Fresh g nx →
    (∀ a' w' g', Adv w g H w' g' (endH rs H) → FRel w' g' n (endF n l rs fr) a' → Fresh g' (endN rs nx) → (∀ id, id < nx → g'.φ id = g.φ id) → a'.defers = a.defers → wpListIn (FR r) 0 P ops Q rest a' w') → wpListIn (FR r) 0 P ops Q (l ++ rest) a w
  | [], [], fr, H, nx, a, w, g, _, hF, hH, hN, hQ => hQ a w g (Adv.refl hH) hF hN (fun _ _ => rfl) rfl
  | o :: l, c :: rs, fr, H, nx, a, w, g, ⟨h1, h2, h3⟩, hF, hH, hN, hQ => by
    rw [List.cons_append]
    unfold wpListIn
    rw [hF.wanted h1]
    cases hs : c.skip with
    | true =>
      simp only [Bool.not_true, Bool.false_eq_true, if_false]
      have e1 : c.val = .sc undef := by simp [Rec.val, hs]
      have e2 : c.del = [] := by simp [Rec.del, hs]
      have h3' := h3
      rw [e1, e2] at h3'
      refine ⟨fun _ _ => trivial, lin_pre r rest l rs _ _ _ _ w g h3' (hF.put (.sc _ rfl) o.dst) hH hN fun a' w' g' hA hF' hN' hφ' hd => hQ a' w' g' ?_ ?_ ?_ ?_ (hd.trans (put_defers ..))⟩
      · simpa [endH, e2, AH.upd] using hA
      · simpa [endF, e1] using hF'
      · simpa [endN, e2, nextId] using hN'
      · exact hφ'
    | false =>
      simp only [Bool.not_false, if_true]
      obtain ⟨h4, h5, h6⟩ := h2 hs
      have e1 : c.val = c.r.v := by simp [Rec.val, hs]
      have e2 : c.del = c.r.δ := by simp [Rec.del, hs]
      rw [e1, e2] at h3
      refine OpOK.wpIn r (h4 H (fun _ _ => rfl) (fun _ _ h => h) w g a.eval (fun x hx => hF.env hH.gl (List.all_eq_true.1 h5 x hx)) hH fun p hp hn => hN _ (h6 p hp hn)) fun x w1 hp => ?_
      obtain ⟨g1, hA, hc, hφ⟩ := hp
      refine lin_pre r rest l rs _ _ _ _ w1 g1 h3 ((hF.mono hA.mono).put hc o.dst) hA.rel (Post.fresh hN hφ) fun a' w' g' hA' hF' hN' hφ' hd => hQ a' w' g' ?_ ?_ ?_ ?_ (hd.trans (put_defers ..))
      · simpa [endH, e2] using hA.trans hA'
      · simpa [endF, e1] using hF'
      · simpa [endN, e2] using hN'
      · intro id hid
        rw [hφ' id (Nat.lt_of_lt_of_le hid (nextId_le _ _))]
        refine hφ id ?_
        by_cases hm : id ∈ c.r.δ.map Prod.fst
        · refine .inr fun hn => ?_
          obtain ⟨p, hp, rfl⟩ := List.mem_map.1 hm
          have := h6 p hp hn
          omega
        · exact .inl hm
  | [], _ :: _, _, _, _, _, _, _, h, _, _, _, _ => h.elim
  | _ :: _, [], _, _, _, _, _, _, h, _, _, _, _ => h.elim

/-! ### Code that ends in one of several states -/
def DRuns (P : Program) (p n : Nat) (c : Code) (s : AS) (R : Exit → AS → Prop) : Prop :=
  ∀ (r : Option Nat) (B : Nat) w g a (Q : Exit → Act → World → Prop), (hasRF c = true → r = none) → SRel w g n s a → B ≤ w.heap.size → DefOk B w g a.defers →
    (∀ e s' a' w' g', R e s' → AdvP p w g s.H w' g' s'.H → SRel w' g' n s' a' → DefOk B w' g' a'.defers → Q e a' w') → c.wpIn (FR r) 0 P Q a w
section
variable {P : Program} {T : TT} {p n : Nat} {c x y : Code} {s s1 s' : AS} {e : Exit} {R R' : Exit → AS → Prop}
theorem DRuns.of (h : ARuns P p n c s e s') (hR : R e s') : DRuns P p n c s R := fun r B w g a Q hr hs hB hD hQ =>
  h r B w g a Q hr hs hB hD fun a' w' g' hA hS hD' => hQ e s' a' w' g' hR hA hS hD'
theorem DRuns.of_VS (h : VS P p n c s R) : DRuns P p n c s R := by
  obtain ⟨e, s', h1, h2⟩ := h
  exact .of h1 h2
theorem DRuns.mono (h : DRuns P p n c s R) (k : ∀ e s1, R e s1 → R' e s1) : DRuns P p n c s R' := fun r B w g a Q hr hs hB hD hQ =>
  h r B w g a Q hr hs hB hD fun e s' a' w' g' hR hA hS hD' => hQ e s' a' w' g' (k e s' hR) hA hS hD'
theorem DRuns.pre (hw : SW p n s s1) (h : DRuns P p n c s1 R) : DRuns P p n c s R := fun r B w g a Q hr hs hB hD hQ => by
  obtain ⟨g1, h1, h2⟩ := hw w g a hs
  exact h r B w g1 a Q hr h2 hB (hD.adv h1 hs.H) fun e s' a' w' g' hR hA hS => hQ e s' a' w' g' hR (h1.trans hA) hS
theorem DRuns.seq (h : DRuns P p n x s fun e s1 => match e with
    | .normal => DRuns P p n y s1 R
    | e => R e s1) : DRuns P p n (.seq x y) s R := fun r B w g a Q hr hs hB hD hQ =>
  wpIn_seq (h r B w g a _ (hasRF_l hr) hs hB hD fun e s1 a' w' g' hR hA hS hD' => by
    cases e with
    | normal => exact hR r B w' g' a' Q (hasRF_r hr) hS (Nat.le_trans hB hA.ext.size) hD' fun e s2 a2 w2 g2 hR2 hA2 hS2 => hQ e s2 a2 w2 g2 hR2 (hA.trans hA2) hS2
    | _ => exact hQ _ s1 a' w' g' hR hA hS hD')
theorem DRuns.block {id : Nat} (h : DRuns P p n c s fun e s1 => e = .exit id ∧ R .normal s1) : DRuns P p n (.block id c) s R := fun r B w g a Q hr hs hB hD hQ =>
  wpIn_block (h r B w g a _ hr hs hB hD fun e s1 a' w' g' ⟨he, hR⟩ hA hS hD' => by
    subst he
    simpa [Exit.inBlock] using hQ .normal s1 a' w' g' hR hA hS hD')
theorem DRuns.blockN {id : Nat} (h : DRuns P p n c s fun e s1 => e = .normal ∧ R .normal s1) : DRuns P p n (.block id c) s R := fun r B w g a Q hr hs hB hD hQ =>
  wpIn_block (h r B w g a _ hr hs hB hD fun e s1 a' w' g' ⟨he, hR⟩ hA hS hD' => by
    subst he
    exact hQ .normal s1 a' w' g' hR hA hS hD')
theorem DRuns.loop {ι : Type} (S : ι → AS) (m : ι → Nat) (I : ι → Prop) (h : ∀ i, I i → DRuns P p n c (S i) fun e s1 => (e = .normal ∧ ∃ j, I j ∧ m j < m i ∧ SW p n s1 (S j)) ∨ (e ≠ .normal ∧ R e s1)) (i : ι) (hi : I i) : DRuns P p n (.loop c) (S i) R := by
  have key : ∀ k i, m i < k → I i → ∀ (r : Option Nat) (B : Nat) w g a (Q : Exit → Act → World → Prop), (hasRF c = true → r = none) → SRel w g n (S i) a → B ≤ w.heap.size → DefOk B w g a.defers →
      (∀ e s' a' w' g', R e s' → AdvP p w g (S i).H w' g' s'.H → SRel w' g' n s' a' → DefOk B w' g' a'.defers → Q e a' w') → Code.roundsIn (FR r) 0 P c Q k a w := by
    intro k
    induction k with
    | zero => intro i hi; omega
    | succ k ih =>
      intro i hm hI r B w g a Q hr hs hB hD hQ
      rw [roundsIn_succ]
      refine h i hI r B w g a _ hr hs hB hD fun e s1 a' w' g' hR hA hS hD' => ?_
      rcases hR with ⟨rfl, j, hj, hlt, hw⟩ | ⟨he, hR⟩
      · obtain ⟨g1, h1, h2⟩ := hw w' g' a' hS
        exact ih j (by omega) hj r B w' g1 a' Q hr h2 (Nat.le_trans hB hA.ext.size) (hD'.adv h1 hS.H) fun e s2 a2 w2 g2 hR2 hA2 hS2 hD2 => hQ e s2 a2 w2 g2 hR2 ((hA.trans h1).trans hA2) hS2 hD2
      · have := hQ e s1 a' w' g' hR hA hS hD'
        cases e <;> first | exact absurd rfl he | exact this
  exact fun r B w g a Q hr hs hB hD hQ => wpIn_loop_rounds _ (key (m i + 1) i (by omega) hi r B w g a Q hr hs hB hD hQ)
theorem ARuns.of_D (h : DRuns P p n c s R) (hR : ∀ e1 s1, R e1 s1 → e1 = e ∧ SW p n s1 s') : ARuns P p n c s e s' := fun r B w g a Q hr hs hB hD hQ =>
  h r B w g a Q hr hs hB hD fun e1 s1 a' w' g' hR1 hA hS hD' => by
    obtain ⟨rfl, hw⟩ := hR e1 s1 hR1
    obtain ⟨g1, h1, h2⟩ := hw w' g' a' hS
    exact hQ a' w' g1 (hA.trans h1) h2 (hD'.adv h1 hS.H)
/-- What follows an append onto a kept row, both ways. -/
def App2 (P : Program) (T : TT) (n : Nat) (ops : Array Oper) (oa : Oper) (l3 : List Oper) (R : Exit → AS → Prop) (fr : Fr) (H : AH) (nx : Nat) : Prop :=
  ∃ (so xo : Operand) (t xt e e' : TypeId) (ti : TI) (full : Fl) (id len : Nat) (ty : TypeId) (es ns : List AV) (D1 : List Nat),
    oa.op = .call { callee := .builtin .append, args := #[so, xo], argTypes := #[t, xt] } ∧ wantedQ ops fr oa = some true ∧ oa.op.operands.toList.all constOk = true ∧ elemOf T t = some (e, ti) ∧ (T.get xt).map TI.k = some (.slice e') ∧
    envF fr so = .slm full id ti.size 0 len ∧ H.get id = some (.row ti.size ty es) ∧ ty = e ∧ srcOf H ti.size (envF fr xo) = some (true, ns, D1) ∧ (0 < len ∧ len ≤ es.length) ∧ room (len + ns.length) ti.bytes = true ∧ zeroOk ti = true ∧ storables ns = true ∧
    vOps P T n ops (fun _ fr H nx => R .normal ⟨fr, H, nx⟩) l3 [] (setDst n fr oa.dst (.slm ⟨false, full.nn || decide (0 < ns.length)⟩ id ti.size 0 (len + ns.length))) (H.set id (.row ti.size ty (es.take len ++ ns))) nx ∧
    vOps P T n ops (fun _ fr H nx => R .normal ⟨fr, H, nx⟩) l3 [] (setDst n fr oa.dst (.slm ⟨false, full.nn || decide (0 < ns.length)⟩ nx ti.size 0 (len + ns.length))) (H.set nx (.row ti.size ty (es.take len ++ ns))) (nx + 1)
theorem FRel.fle {w : World} {g : Gh} {fr fr2 : Fr} {a : Act} (h : FRel w g n fr a) (hle : FLe fr fr2) : FRel w g n fr2 a := ⟨h.size, fun t => (hle t).cle w g _ (h.at_ t)⟩
theorem DRuns.app2 (hT : T.Ok P) {id : Nat} {ops : Array Oper} {l1 l3 : List Oper} {oa : Oper} (hsp : ops.toList = l1 ++ oa :: l3) (hp : p ≤ s.nx) (hB : (s.H.all fun x => decide (x.1 < s.nx)) = true)
    (h : vOps P T n ops (fun _ fr H nx => App2 P T n ops oa l3 R fr H nx) l1 [] s.fr s.H s.nx) : DRuns P p n (.region id ops false) s R := fun r B w g a Q _ hs hBw hD hQ => by
  obtain ⟨rs, tr2, fr2, hL, hF2, _, hHB, hK⟩ := vOps_sound hT l1 [] s.fr s.H s.nx h (HB.of_all hB) s.fr (FLe.refl _)
  refine wpIn_region_list ?_
  rw [hsp]
  refine lin_pre r (oa :: l3) l1 rs s.fr s.H s.nx a w g hL hs.fr hs.H hs.nx fun a1 w1 g1 hA1 hF1 hN1 hφ1 hd1 => ?_
  obtain ⟨so, xo, t, xt, e, e', ti, full, id0, len, ty, es, ns, D1, ho, hw, hco, he, hxk, hso, hrow, hte, hsrc, hl, hroom, hz, hst, hkA, hkB⟩ := hK
  have hF1' := hF1.fle hF2
  generalize endH rs s.H = H1 at *
  have hle : s.nx ≤ endN rs s.nx := endN_le rs s.nx
  generalize endN rs s.nx = nx1 at *
  have hidlt : id0 < nx1 := by
    rcases Nat.lt_or_ge id0 nx1 with h | h
    · exact h
    · have := hHB id0 h; rw [hrow] at this; cases this
  unfold wpListIn
  rw [hF1'.wanted hw]
  simp only [if_true]
  have hsem := append2_sem hT ho he hxk hso hrow hte hsrc hl.1 hl.2 hroom hz hst (hHB nx1 (Nat.le_refl _)) (ρ := a1.eval) (fun y hy => hF1'.env hA1.rel.gl (List.all_eq_true.1 hco y hy)) hA1.rel (hN1 nx1 (Nat.le_refl _))
  refine OpOK.wpIn r hsem fun v w2 hv => ?_
  rcases hv with hv | hv
  · obtain ⟨g2, hA2, hc2, hφ2⟩ := hv
    have hHB2 : HB (H1.set id0 (.row ti.size ty (es.take len ++ ns))) nx1 := fun j hj => by
      rw [AH.get_set, if_neg (by omega)]; exact hHB j hj
    obtain ⟨rs3, _, fr3, hL3, hF3, _, _, hR⟩ := vOps_sound hT l3 [] _ _ _ hkA hHB2 _ (FLe.refl _)
    have hN2 : Fresh g2 nx1 := fun j hj => by
      rw [hφ2 j (.inl (by simp; omega))]; exact hN1 j hj
    refine lin_text r l3 rs3 _ _ _ _ w2 g2 hL3 ((hF1'.mono hA2.mono).put hc2 oa.dst) hA2.rel hN2 fun a3 w3 g3 hA3 hF3' hN3 hφ3 hd3 => ?_
    have hAll : AdvP p w g s.H w3 g3 (endH rs3 (H1.set id0 (.row ti.size ty (es.take len ++ ns)))) := AdvP.of_adv (hA1.trans (hA2.trans hA3)) fun j hj => by
      rw [hφ3 j (by omega), hφ2 j ?_, hφ1 j (by omega)]
      by_cases hj0 : j = id0
      · subst hj0; exact .inr (by rw [hrow]; intro h; cases h)
      · exact .inl (by simpa using hj0)
    exact hQ .normal _ a3 w3 g3 hR hAll ⟨hF3'.fle hF3, hA3.rel, hN3⟩ ((hd3.trans ((put_defers ..).trans hd1)) ▸ hD.adv hAll hs.H)
  · obtain ⟨g2, hA2, hc2, hφ2⟩ := hv
    have hHB2 : HB (H1.set nx1 (.row ti.size ty (es.take len ++ ns))) (nx1 + 1) := fun j hj => by
      rw [AH.get_set, if_neg (by omega)]; exact hHB j (by omega)
    obtain ⟨rs3, _, fr3, hL3, hF3, _, _, hR⟩ := vOps_sound hT l3 [] _ _ _ hkB hHB2 _ (FLe.refl _)
    have hN2 : Fresh g2 (nx1 + 1) := fun j hj => by
      rw [hφ2 j (.inl (by simp; omega))]; exact hN1 j (by omega)
    refine lin_text r l3 rs3 _ _ _ _ w2 g2 hL3 ((hF1'.mono hA2.mono).put hc2 oa.dst) hA2.rel hN2 fun a3 w3 g3 hA3 hF3' hN3 hφ3 hd3 => ?_
    have hAll : AdvP p w g s.H w3 g3 (endH rs3 (H1.set nx1 (.row ti.size ty (es.take len ++ ns)))) := AdvP.of_adv (hA1.trans (hA2.trans hA3)) fun j hj => by
      rw [hφ3 j (by omega), hφ2 j (.inl (by simp; omega)), hφ1 j (by omega)]
    exact hQ .normal _ a3 w3 g3 hR hAll ⟨hF3'.fle hF3, hA3.rel, hN3⟩ ((hd3.trans ((put_defers ..).trans hd1)) ▸ hD.adv hAll hs.H)
theorem DRuns.app2' (hT : T.Ok P) {id : Nat} {ops : Array Oper} (i : Nat) {oa : Oper} (hi : ops.toList[i]? = some oa) (hp : p ≤ s.nx) (hB : (s.H.all fun x => decide (x.1 < s.nx)) = true)
    (h : vOps P T n ops (fun _ fr H nx => App2 P T n ops oa (ops.toList.drop (i + 1)) R fr H nx) (ops.toList.take i) [] s.fr s.H s.nx) : DRuns P p n (.region id ops false) s R := by
  refine DRuns.app2 hT (l1 := ops.toList.take i) (l3 := ops.toList.drop (i + 1)) (oa := oa) ?_ hp hB h
  obtain ⟨hlt, e⟩ := List.getElem?_eq_some_iff.1 hi
  rw [← e, ← List.drop_eq_getElem_cons hlt, List.take_append_drop]
end
end Go.Proofs.YtgnakhljdjekbaaGreatDoor.Am
