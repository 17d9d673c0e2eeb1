/- The owned machine, part MF: a call that only reads rows that are owned. -/
import Derived.Test.YtgnakhljdjekbaaGreatDoorAmME
set_option linter.all false
namespace Go.Proofs.YtgnakhljdjekbaaGreatDoor.Am
set_option linter.unusedVariables false

mutual
/-- No slice, no pointer. -/
def AV.plain : AV → Bool
  | .unk | .sc _ => true
  | .when _ v => v.plain
  | .agg cs | .tup cs => AV.plainL cs
  | .ptr .. | .rp .. | .slm .. | .ro .. | .clo .. | .mp _ | .yl .. => false
def AV.plainL : List AV → Bool
  | [] => true
  | v :: l => v.plain && AV.plainL l
end
theorem plainL_all : ∀ l : List AV, AV.plainL l = l.all AV.plain
  | [] => rfl
  | v :: l => by simp [AV.plainL, plainL_all l]
theorem Cv.plain {w w' : World} {g g' : Gh} {v : AV} {x : Value} (h : Cv w g v x) : v.plain = true → Cv w' g' v x := by
  have lst : ∀ {l : List AV} {xs : Array Value}, AV.plainL l = true → (∀ (i : Nat) (c : AV) (y : Value), l[i]? = some c → xs[i]? = some y → c.plain = true → Cv w' g' c y) → ∀ (i : Nat) (c : AV) (y : Value), l[i]? = some c → xs[i]? = some y → Cv w' g' c y := by
    intro l xs hp ih i c y hi hy
    rw [plainL_all] at hp
    exact ih i c y hi hy (List.all_eq_true.1 hp c (List.mem_of_getElem? hi))
  induction h with
  | unk v => intro _; exact .unk _
  | when _ ih => intro hp; exact .when fun hb => ih hb hp
  | sc v h => intro _; exact .sc v h
  | agg h _ ih => intro hp; exact .agg h (lst hp fun i c y hi hy hc => ih i c y hi hy hc)
  | tup h _ ih => intro hp; exact .tup h (lst hp fun i c y hi hy hc => ih i c y hi hy hc)
  | ptr _ => intro hp; cases hp
  | rp X _ _ _ _ => intro hp; cases hp
  | slz _ => intro hp; cases hp
  | slm _ _ _ _ _ => intro hp; cases hp
  | roz _ _ _ => intro hp; cases hp
  | ro X _ _ _ _ _ _ _ => intro hp; cases hp
  | clo _ _ _ _ => intro hp; cases hp
  | mp _ => intro hp; cases hp
  | yl _ _ _ _ _ => intro hp; cases hp

theorem frz_congr {H H' : AH} {F : Nat → Bool} (h : ∀ id, F id = true → H'.get id = H.get id) : ∀ v : AV, v.frz H' F = v.frz H F ∧ v.frzOk H' F = v.frzOk H F := fun v =>
  AV.rec (motive_1 := fun v => v.frz H' F = v.frz H F ∧ v.frzOk H' F = v.frzOk H F) (motive_2 := fun l => AV.frzL H' F l = AV.frzL H F l ∧ AV.frzOkL H' F l = AV.frzOkL H F l)
    ⟨rfl, rfl⟩ (fun b v h => by simp [AV.frz, AV.frzOk, h.1, h.2]) (fun v => ⟨rfl, rfl⟩) (fun id E i o => by
      simp only [AV.frz, AV.frzOk]
      cases hF : F id with
      | false => simp
      | true => rw [h id hF]; exact ⟨rfl, rfl⟩) (fun _ _ _ => ⟨rfl, rfl⟩)
    (fun fl id E off len => by
      simp only [AV.frz, AV.frzOk]
      cases hF : F id with
      | false => simp
      | true => rw [h id hF]; exact ⟨rfl, rfl⟩)
    (fun _ _ _ _ => ⟨rfl, rfl⟩) (fun cs h => by simp [AV.frz, AV.frzOk, h.1, h.2]) (fun cs h => by simp [AV.frz, AV.frzOk, h.1, h.2]) (fun f cs k h => by simp [AV.frz, AV.frzOk, h.1, h.2]) (fun _ => ⟨rfl, rfl⟩) (fun _ _ _ cs h => by simp [AV.frz, AV.frzOk, h.1, h.2]) ⟨rfl, rfl⟩ (fun v l h1 h2 => by simp [AV.frzL, AV.frzOkL, h1.1, h1.2, h2.1, h2.2]) v

/-- A call of a function that owns nothing, over rows that are owned: they are as they were behind it. -/
theorem ACalls.borrow {P : Program} {f : FuncId} {vs ws : List AV} {Hc : AH} {v : AV} (F : List Nat) (hf : AFun P f 0 vs [] v []) (hv : v.plain = true) (hrows : rowsOk Hc F = true) (hok : AV.frzOkL Hc F.contains ws = true) (hvs : vs = AV.frzL Hc F.contains ws) (hn : AV.namesL (fun _ => false) vs = true) : ACalls P f ws Hc { v := v, D := F } := by
  intro H' hD _ w g xs hl hx hH _
  have hg : ∀ id, F.contains id = true → H'.get id = Hc.get id := fun id h => hD id (by simpa using h)
  have hrows' : ∀ id B, H'.get id = some B → F.contains id = true → ∃ E ty es, B = .row E ty es ∧ AV.namesL (fun _ => false) es = true := fun id B hB hF => rowsOk.rows hrows id B (by rw [← hg id hF]; exact hB) hF
  let gb : Gh := (g.frz F.contains).base
  have hI : ∀ b, gb.I b → b < w.heap.size := by
    rintro b (h | ⟨id, E, hid, hφ⟩)
    · exact hH.lt b h
    · have := List.all_eq_true.1 hrows id (by simpa using hid)
      cases hg' : Hc.get id with
      | none => rw [hg'] at this; cases this
      | some B => exact (hH.rel id B (by rw [hg id hid]; exact hg')).lt hφ
  have hlen : vs.length = xs.size := by rw [hvs, frzL_map, List.length_map]; exact hl
  refine (hf w gb xs hlen (fun i u x hu hxi => ?_) ⟨fun id B h => (by cases h), fun i j b E E' A B h => (by cases h), fun i b E B h => (by cases h), hI, hH.gl.mono fun b h => ⟨.inl h, rfl⟩⟩ (fun _ _ => rfl)).mono fun e w' ⟨x, g', he, hA, hc, _⟩ => ?_
  · have hu' := hu
    rw [hvs, frzL_map, List.getElem?_map] at hu
    obtain ⟨u0, hu0, rfl⟩ := Option.map_eq_some_iff.1 hu
    rw [frzOkL_all] at hok
    have h1 := List.all_eq_true.1 hok u0 (List.mem_of_getElem? hu0)
    have hcg := frz_congr (H := Hc) (H' := H') (F := F.contains) hg u0
    have h2 := frz_cv hH (F := F.contains) hrows' (hx i u0 x hu0 hxi) (by rw [hcg.2]; exact h1)
    rw [hcg.1] at h2
    rw [namesL_all] at hn
    exact Cv.nameless (g := g.frz F.contains) (g' := gb) (List.all_eq_true.1 hn _ (List.mem_of_getElem? hu')) (fun b h => h) h2
  · have hsame : ∀ b, b < w.heap.size → w'.heap[b]? = w.heap[b]? := fun b hb => hA.ext.block b hb fun id B E h => by cases h
    have m : Mono w g w' g := ⟨fun _ _ h => h, fun b h => ⟨h, hsame b (hH.lt b h)⟩, fun b cs ty fz h => ⟨cs, (hsame b (heap_lt h)).trans h, rfl⟩⟩
    refine ⟨x, he, g, ⟨m, ⟨hA.ext.os, hA.ext.tape, hA.ext.output, hA.ext.size, fun b hb _ => hsame b hb⟩, fun id B b E h h' _ => ⟨id, B, E, h, h'⟩, fun b h _ => .inl h, ?_⟩, hc.plain hv, fun _ _ => rfl⟩
    refine ⟨fun id B hB => (hH.rel id B hB).keep m rfl fun b E hb => hsame b ((hH.rel id B hB).lt hb), hH.apart, hH.imm, fun b h => Nat.lt_of_lt_of_le (hH.lt b h) hA.ext.size, hH.gl.mono m.I⟩
theorem CallN.borrow {P : Program} {f : FuncId} {vs ws : List AV} {Hc : AH} {v : AV} {K : Out → Prop} (F : List Nat) (hf : AFun P f 0 vs [] v []) (hv : v.plain = true) (hrows : rowsOk Hc F = true) (hok : AV.frzOkL Hc F.contains ws = true) (hvs : vs = AV.frzL Hc F.contains ws) (hn : AV.namesL (fun _ => false) vs = true) (k : K { v := v, D := F }) : CallN P f ws Hc K :=
  ⟨_, ACalls.borrow F hf hv hrows hok hvs hn, k⟩
def swKeys (ρ : Nat → Nat) (p nx : Nat) (ks : List Nat) : Bool := decide ((ks.map ρ).Nodup) && ks.all (fun i => decide (i < nx)) && decide (p ≤ nx) && (List.range p).all fun i => ρ i == i
/-- A state under other names. -/
theorem SW.mk {p n nx2 : Nat} {s : AS} {fr2 : Fr} {H2 : AH} (ρ : Nat → Nat) (hk : swKeys ρ p nx2 (H2.map Prod.fst) = true) (hn : frNames (fun i => decide (i < p) || (H2.map Prod.fst).contains i) fr2 = true) (hb : namesAll (fun i => decide (i < p) || (H2.map Prod.fst).contains i) H2 = true) (hfr : frOk ρ s.fr fr2) (hH : haveV ρ s.H s.nx H2) : SW p n s ⟨fr2, H2, nx2⟩ := by
  simp only [swKeys, Bool.and_eq_true, decide_eq_true_eq] at hk
  obtain ⟨⟨⟨hk1, hk2⟩, hk3⟩, hk4⟩ := hk
  refine SW.ren ρ (fun i hi => by simpa using List.all_eq_true.1 hk4 i (List.mem_range.2 hi)) hfr hH ⟨hk1, List.all_eq_true.2 fun x hx => ?_, hk3⟩ hn hb
  exact List.all_eq_true.1 hk2 x.1 (List.mem_map_of_mem (f := Prod.fst) hx)
/-- A frame told with less; no block is kept. -/
theorem SW.fr0 {p n : Nat} {s : AS} {fr2 : Fr} {nx2 : Nat} (hp : p ≤ nx2) (hn : frNames (fun i => decide (i < p) || List.contains [] i) fr2 = true) (hfr : frOk id s.fr fr2) : SW p n s ⟨fr2, [], nx2⟩ :=
  SW.ren id (fun _ _ => rfl) hfr trivial ⟨List.nodup_nil, rfl, hp⟩ hn rfl
theorem VLe2.of_eq {a b : AV} (h : b = a) : VLe2 a b := by subst h; exact VLe2.refl _
theorem VLe2.int {k : IntKind} {a b : Int} (h : b = a) : VLe2 (.sc (.int k a)) (.sc (.int k b)) := .of_eq (by rw [h])
theorem VLe2.nilro {E : Nat} : VLe2 (.sc (.slice none 0 0)) (.ro {} E []) := .inr (.inl ⟨rfl, .inr ⟨{}, E, rfl, rfl⟩⟩)
theorem VLe2.nilslm {id E off : Nat} : VLe2 (.sc (.slice none 0 0)) (.slm {} id E off 0) := .inr (.inl ⟨rfl, .inl ⟨{}, id, E, off, rfl, rfl⟩⟩)
theorem VLe2.ro_of {fl : Fl} {E : Nat} {es es' : List AV} (h : es' = es) : VLe2 (.ro fl E es) (.ro {} E es') := by
  subst h
  exact .inr (.inr (.inl ⟨fl, {}, E, _, rfl, rfl, (fun h => by cases h), fun h => by cases h⟩))
theorem VLe2.slm_of {fl : Fl} {id E off L L' : Nat} (h : L' = L) : VLe2 (.slm fl id E off L) (.slm {} id E off L') := by
  subst h
  exact .inr (.inr (.inr ⟨fl, {}, id, E, off, _, rfl, rfl, (fun h => by cases h), fun h => by cases h⟩))
theorem frz_slm {H : AH} {F : List Nat} {fl : Fl} {id E len : Nat} {ty : TypeId} {es : List AV} (hg : H.get id = some (.row E ty es)) (hF : F.contains id = true) (hl : len = es.length) : AV.frz H F.contains (.slm fl id E 0 len) = .ro fl E es ∧ AV.frzOk H F.contains (.slm fl id E 0 len) = true := by
  subst hl
  refine ⟨?_, ?_⟩
  · simp only [AV.frz, hF, if_true, hg]
    simp
  · simp only [AV.frzOk, hF, hg]
    simp
theorem frz_none {H : AH} {F : Nat → Bool} {v : AV} (h : v.plain = true ∨ ∃ fl E es, v = .ro fl E es) : v.frz H F = v ∧ v.frzOk H F = true := by
  have key : ∀ v : AV, v.plain = true → v.frz H F = v ∧ v.frzOk H F = true := fun v =>
    AV.rec (motive_1 := fun v => v.plain = true → v.frz H F = v ∧ v.frzOk H F = true) (motive_2 := fun l => AV.plainL l = true → AV.frzL H F l = l ∧ AV.frzOkL H F l = true)
      (fun _ => ⟨rfl, rfl⟩) (fun b v ih h => by simp only [AV.plain] at h; simp [AV.frz, AV.frzOk, ih h]) (fun v _ => ⟨rfl, rfl⟩) (fun _ _ _ _ h => by cases h) (fun _ _ _ h => by cases h) (fun _ _ _ _ _ h => by cases h) (fun _ _ _ _ h => by cases h)
      (fun cs ih h => by simp only [AV.plain] at h; simp [AV.frz, AV.frzOk, ih h]) (fun cs ih h => by simp only [AV.plain] at h; simp [AV.frz, AV.frzOk, ih h]) (fun f cs k _ h => by cases h) (fun _ h => by cases h) (fun _ _ _ _ _ h => by cases h) (fun _ => ⟨rfl, rfl⟩)
      (fun v l h1 h2 h => by simp only [AV.plainL, Bool.and_eq_true] at h; simp [AV.frzL, AV.frzOkL, h1 h.1, h2 h.2]) v
  rcases h with h | ⟨fl, E, es, rfl⟩
  · exact key v h
  · exact ⟨rfl, rfl⟩
/-- A call of a function of two slices, the rows of which are owned. -/
theorem CallN.borrow2 {P : Program} {f : FuncId} {Hc : AH} {v : AV} {K : Out → Prop} {f1 f2 : Fl} {i j E1 E2 n1 n2 : Nat} {t1 t2 : TypeId} {e1 e2 : List AV} (hf : AFun P f 0 [.ro f1 E1 e1, .ro f2 E2 e2] [] v []) (hv : v.plain = true) (g1 : Hc.get i = some (.row E1 t1 e1)) (g2 : Hc.get j = some (.row E2 t2 e2)) (h1 : n1 = e1.length) (h2 : n2 = e2.length)
    (p1 : AV.namesL (fun _ => false) e1 = true) (p2 : AV.namesL (fun _ => false) e2 = true) (k : K { v := v, D := [i, j] }) : CallN P f [.slm f1 i E1 0 n1, .slm f2 j E2 0 n2] Hc K := by
  have a1 := frz_slm (F := [i, j]) (fl := f1) g1 (by simp) h1
  have a2 := frz_slm (F := [i, j]) (fl := f2) g2 (by simp) h2
  refine CallN.borrow [i, j] hf hv ?_ ?_ ?_ rfl k
  · simp only [rowsOk, List.all_cons, List.all_nil, g1, g2, p1, p2]; rfl
  · simp only [AV.frzOkL, a1.2, a2.2]; rfl
  · simp only [AV.frzL, a1.1, a2.1]
theorem CallN.borrow01 {P : Program} {f : FuncId} {Hc : AH} {v : AV} {K : Out → Prop} {f1 f2 : Fl} {j E1 E2 n2 : Nat} {t2 : TypeId} {e1 e2 : List AV} (hf : AFun P f 0 [.ro f1 E1 e1, .ro f2 E2 e2] [] v []) (hv : v.plain = true) (g2 : Hc.get j = some (.row E2 t2 e2)) (h2 : n2 = e2.length)
    (p2 : AV.namesL (fun _ => false) e2 = true) (k : K { v := v, D := [j] }) : CallN P f [.ro f1 E1 e1, .slm f2 j E2 0 n2] Hc K := by
  have a2 := frz_slm (F := [j]) (fl := f2) g2 (by simp) h2
  refine CallN.borrow [j] hf hv ?_ ?_ ?_ rfl k
  · simp only [rowsOk, List.all_cons, List.all_nil, g2, p2]; rfl
  · simp only [AV.frzOkL, a2.2]; rfl
  · simp only [AV.frzL, a2.1]; rfl
theorem CallN.borrow10 {P : Program} {f : FuncId} {Hc : AH} {v : AV} {K : Out → Prop} {f1 f2 : Fl} {i E1 E2 n1 : Nat} {t1 : TypeId} {e1 e2 : List AV} (hf : AFun P f 0 [.ro f1 E1 e1, .ro f2 E2 e2] [] v []) (hv : v.plain = true) (g1 : Hc.get i = some (.row E1 t1 e1)) (h1 : n1 = e1.length)
    (p1 : AV.namesL (fun _ => false) e1 = true) (k : K { v := v, D := [i] }) : CallN P f [.slm f1 i E1 0 n1, .ro f2 E2 e2] Hc K := by
  have a1 := frz_slm (F := [i]) (fl := f1) g1 (by simp) h1
  refine CallN.borrow [i] hf hv ?_ ?_ ?_ rfl k
  · simp only [rowsOk, List.all_cons, List.all_nil, g1, p1]; rfl
  · simp only [AV.frzOkL, a1.2]; rfl
  · simp only [AV.frzL, a1.1]; rfl
theorem CallN.borrow1 {P : Program} {f : FuncId} {Hc : AH} {v : AV} {K : Out → Prop} {f1 : Fl} {i E1 n1 : Nat} {t1 : TypeId} {e1 : List AV} (hf : AFun P f 0 [.ro f1 E1 e1] [] v []) (hv : v.plain = true) (g1 : Hc.get i = some (.row E1 t1 e1)) (h1 : n1 = e1.length)
    (p1 : AV.namesL (fun _ => false) e1 = true) (k : K { v := v, D := [i] }) : CallN P f [.slm f1 i E1 0 n1] Hc K := by
  have a1 := frz_slm (F := [i]) (fl := f1) g1 (by simp) h1
  refine CallN.borrow [i] hf hv ?_ ?_ ?_ rfl k
  · simp only [rowsOk, List.all_cons, List.all_nil, g1, p1]; rfl
  · simp only [AV.frzOkL, a1.2]; rfl
  · simp only [AV.frzL, a1.1]
theorem LetB.dec {o : Option BinOp} {p : Prop} [Decidable p] {K : Bool → Prop} (h : p → K true) (k : ¬p → K false) : LetB o (decide p) K := by
  by_cases hp : p
  · exact .tt (decide_eq_true hp) (h hp)
  · exact .ff (decide_eq_false hp) (k hp)
theorem LetB.dect {o : Option BinOp} {p : Prop} [Decidable p] {K : Bool → Prop} (hp : p) (h : K true) : LetB o (decide p) K := .tt (decide_eq_true hp) h
theorem LetB.decf {o : Option BinOp} {p : Prop} [Decidable p] {K : Bool → Prop} (hp : ¬p) (h : K false) : LetB o (decide p) K := .ff (decide_eq_false hp) h
theorem LetB.beq {o : Option BinOp} {a b : Int} {K : Bool → Prop} (h : a = b → K true) (k : a ≠ b → K false) : LetB o (a == b) K := by
  by_cases hp : a = b
  · exact .tt (by simpa using hp) (h hp)
  · exact .ff (by simpa using hp) (k hp)
theorem LetB.beqt {o : Option BinOp} {a b : Int} {K : Bool → Prop} (hp : a = b) (h : K true) : LetB o (a == b) K := .tt (by simpa using hp) h
theorem LetB.beqf {o : Option BinOp} {a b : Int} {K : Bool → Prop} (hp : a ≠ b) (h : K false) : LetB o (a == b) K := .ff (by simpa using hp) h
theorem LetB.bne {o : Option BinOp} {a b : Int} {K : Bool → Prop} (h : a ≠ b → K true) (k : a = b → K false) : LetB o (a != b) K := by
  by_cases hp : a = b
  · exact .ff (by simpa using hp) (k hp)
  · exact .tt (by simpa using hp) (h hp)
theorem LetB.bnet {o : Option BinOp} {a b : Int} {K : Bool → Prop} (hp : a ≠ b) (h : K true) : LetB o (a != b) K := .tt (by simpa using hp) h
theorem LetB.bnef {o : Option BinOp} {a b : Int} {K : Bool → Prop} (hp : a = b) (h : K false) : LetB o (a != b) K := .ff (by simpa using hp) h
theorem mapD {α : Type} {f : α → AV} {l : List α} {i : Nat} (d : α) {u : AV} (h : i < l.length) : f (l.getD i d) = (l.map f).getD i u := by
  rw [List.getD_eq_getElem?_getD, List.getD_eq_getElem?_getD, List.getElem?_map, List.getElem?_eq_getElem h]; rfl
theorem tmod_bound (a : Int) {m : Int} (h : 0 < m) : -m < a.tmod m ∧ a.tmod m < m := ⟨Int.lt_tmod_of_pos a h, Int.tmod_lt_of_pos a h⟩
theorem tmod_pos {a : Int} (m : Int) (h : 0 ≤ a) : a.tmod m = a % m := Int.tmod_eq_emod_of_nonneg h
end Go.Proofs.YtgnakhljdjekbaaGreatDoor.Am
