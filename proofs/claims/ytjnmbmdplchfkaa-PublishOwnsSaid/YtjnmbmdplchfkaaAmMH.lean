/- The owned machine, part MH: rows lent to a call, argument by argument. -/
import Derived.Test.YtjnmbmdplchfkaaAmMG
set_option linter.all false
namespace Go.Proofs.Ytjnmbmdplchfkaa.Am
variable [Lo]
set_option linter.unusedVariables false
/-- A value of one cell. -/
def AV.one : AV → Bool
  | .agg _ | .unk | .when .. => false
  | _ => true
theorem AV.one_cells {v : AV} (h : v.one = true) : v.cells = [v] := by cases v <;> first | rfl | cases h
/-- The arguments ws with their rows lent are vs; F are the rows. -/
inductive Lend (Hc : AH) : List AV → List AV → List Nat → Prop
  | nil : Lend Hc [] [] []
  | same {v : AV} {ws vs : List AV} {F : List Nat} (h : v.names (fun _ => false) = true) (k : Lend Hc ws vs F) : Lend Hc (v :: ws) (v :: vs) F
  | part {fl : Fl} {i E off len : Nat} {t : TypeId} {es es' : List AV} {ws vs : List AV} {F : List Nat} (g : Hc.get i = some (.row E t es)) (hn : AV.namesL (fun _ => false) es = true) (hl : off + len ≤ es.length) (e : (es.drop off).take len = es') (k : Lend Hc ws vs F) : Lend Hc (.slm fl i E off len :: ws) (.ro fl E es' :: vs) (i :: F)
  | rows {fl : Fl} {i off len : Nat} {t : TypeId} {es es' : List AV} {ws vs : List AV} {F G : List Nat} (g : Hc.get i = some (.row 1 t es)) (hl : off + len ≤ es.length) (h1 : es.all AV.one = true) (h2 : es'.all AV.one = true) (h : Lend Hc ((es.drop off).take len) es' F) (k : Lend Hc ws vs G) : Lend Hc (.slm fl i 1 off len :: ws) (.ro fl 1 es' :: vs) (i :: (F ++ G))
  | clo {f k : Nat} {cs cs' : List AV} {ws vs : List AV} {F G : List Nat} (h : Lend Hc cs cs' F) (k1 : Lend Hc ws vs G) : Lend Hc (.clo f cs k :: ws) (.clo f cs' k :: vs) (F ++ G)
  | agg {cs cs' : List AV} {ws vs : List AV} {F G : List Nat} (h : Lend Hc cs cs' F) (k1 : Lend Hc ws vs G) : Lend Hc (.agg cs :: ws) (.agg cs' :: vs) (F ++ G)
  | ptr {i E j off : Nat} {t : TypeId} {es : List AV} {e : AV} {ws vs : List AV} {F : List Nat} (g : Hc.get i = some (.row E t es)) (hn : AV.namesL (fun _ => false) es = true) (hj : es[j]? = some e) (k : Lend Hc ws vs F) : Lend Hc (.ptr i E j off :: ws) (.rp e off :: vs) (i :: F)
  | box {i : Nat} {t : TypeId} {e e' : AV} {ws vs : List AV} {F G : List Nat} (g : Hc.get i = some (.row 1 t [e])) (h1 : e.one = true) (h2 : e'.one = true) (h : Lend Hc [e] [e'] F) (k : Lend Hc ws vs G) : Lend Hc (.ptr i 1 0 0 :: ws) (.rp e' 0 :: vs) (i :: (F ++ G))
theorem Lend.full {Hc : AH} {fl : Fl} {i E len : Nat} {t : TypeId} {es : List AV} {ws vs : List AV} {F : List Nat} (g : Hc.get i = some (.row E t es)) (hn : AV.namesL (fun _ => false) es = true) (hl : len = es.length) (k : Lend Hc ws vs F) : Lend Hc (.slm fl i E 0 len :: ws) (.ro fl E es :: vs) (i :: F) :=
  .part g hn (by omega) (by subst hl; simp) k
/-- The ghost of a world in which nothing is owned and nothing that is there is ever written. -/
def Gh.all (w : World) : Gh := ⟨fun _ => none, fun b => b < w.heap.size⟩
theorem cv_all {w : World} {g : Gh} {H : AH} (hH : HRel w g H) {v : AV} {x : Value} (hn : v.names (fun _ => false) = true) (h : Cv w g v x) : Cv w (Gh.all w) v x := Cv.nameless hn hH.lt h
theorem get_off {l : List AV} {off len k : Nat} {e : AV} (h : ((l.drop off).take len)[k]? = some e) : l[off + k]? = some e ∧ k < len := by
  rw [List.getElem?_take] at h
  split at h
  · rename_i hk
    rw [List.getElem?_drop] at h
    exact ⟨h, hk⟩
  · cases h
/-- A slice of an owned row, read as what it holds. -/
theorem lend_row {w : World} {g : Gh} {H : AH} (hH : HRel w g H) {i E off len : Nat} {t : TypeId} {fl : Fl} {es es' : List AV} (hB : H.get i = some (.row E t es)) {x : Value} (hx : Cv w g (.slm fl i E off len) x) (hle : off + len ≤ es.length) (hlen : es'.length = len) (hE' : ∀ e ∈ es', e.cells.length = E)
    (hc : ∀ (k j : Nat) (e e' c c' : AV) (y : Value), es[off + k]? = some e → e.cells[j]? = some c → es'[k]? = some e' → e'.cells[j]? = some c' → Cv w g c y → Cv w (Gh.all w) c' y) : Cv w (Gh.all w) (.ro fl E es') x := by
  cases hx with
  | slz hnn =>
    have : es' = [] := List.length_eq_zero_iff.1 hlen
    subst this
    exact .roz (fun _ => rfl) (fun _ => rfl) hnn
  | slm hφ hfull hlc hb hsz =>
    rename_i b cap cs ty fz
    obtain ⟨_, h7, cs2, h8, h9, h10⟩ := (hH.rel i _ hB).row hφ
    rw [hb] at h8; injection h8 with h8; injection h8 with a1 a2 a3; subst a1 a2 a3
    have hblt : b < w.heap.size := heap_lt hb
    have key : ∀ (k j : Nat) (e' c' : AV), es'[k]? = some e' → e'.cells[j]? = some c' → ∃ y, w.cell? ⟨b, off * E + k * E + j, none⟩ = some y ∧ Cv w (Gh.all w) c' y := by
      intro k j e' c' hk hj
      have hkl := (List.getElem?_eq_some_iff.1 hk).1
      have hjl := (List.getElem?_eq_some_iff.1 hj).1
      rw [hE' e' (List.mem_of_getElem? hk)] at hjl
      have he := List.getElem?_eq_getElem (l := es) (i := off + k) (by omega)
      have hel := h7 _ (List.getElem_mem (l := es) (n := off + k) (by omega))
      have hcj := List.getElem?_eq_getElem (l := (es[off + k]'(by omega)).cells) (i := j) (by omega)
      obtain ⟨y, hy, hcy⟩ := h10 (off + k) j _ _ he hcj
      refine ⟨y, ?_, hc k j _ e' _ c' y he hcj hk hj hcy⟩
      rw [Nat.add_mul] at hy
      simp [World.cell?, hb, hy]
    subst hlen
    refine .ro (fun k j => (w.cell? ⟨b, off * E + k * E + j, none⟩).getD undef) hblt hlc hfull hE' (fun k j e' c' hk hj => ?_) (fun k j e' c' hk hj => ?_)
    · obtain ⟨y, hy, _⟩ := key k j e' c' hk hj
      rw [hy]; rfl
    · obtain ⟨y, hy, hcy⟩ := key k j e' c' hk hj
      rw [hy]; exact hcy
theorem lend_ptr {w : World} {g : Gh} {H : AH} (hH : HRel w g H) {i E idx off : Nat} {t : TypeId} {es : List AV} {e e' : AV} (hB : H.get i = some (.row E t es)) (he : es[idx]? = some e) {x : Value} (hx : Cv w g (.ptr i E idx off) x) (hE' : e'.cells.length = E)
    (hc : ∀ (j : Nat) (c c' : AV) (y : Value), e.cells[j]? = some c → e'.cells[j]? = some c' → Cv w g c y → Cv w (Gh.all w) c' y) : Cv w (Gh.all w) (.rp e' off) x := by
  cases hx with
  | ptr hφ =>
    rename_i b
    obtain ⟨_, h7, cs, h8, h9, h10⟩ := (hH.rel i _ hB).row hφ
    have key : ∀ (j : Nat) (c' : AV), e'.cells[j]? = some c' → ∃ y, w.cell? ⟨b, idx * E + j, none⟩ = some y ∧ Cv w (Gh.all w) c' y := by
      intro j c' hj
      have hjl := (List.getElem?_eq_some_iff.1 hj).1
      have hel := h7 e (List.mem_of_getElem? he)
      have hcj := List.getElem?_eq_getElem (l := e.cells) (i := j) (by omega)
      obtain ⟨y, hy, hcy⟩ := h10 idx j _ _ he hcj
      exact ⟨y, by simp [World.cell?, h8, hy], hc j _ c' y hcj hj hcy⟩
    refine .rp (fun j => (w.cell? ⟨b, idx * E + j, none⟩).getD undef) (heap_lt h8) (fun j c' hj => ?_) (fun j c' hj => ?_)
    · obtain ⟨y, hy, _⟩ := key j c' hj
      rw [hy]; rfl
    · obtain ⟨y, hy, hcy⟩ := key j c' hj
      rw [hy]; exact hcy
theorem Lend.cv {Hc H' : AH} {w : World} {g : Gh} (hH : HRel w g H') : ∀ {ws vs : List AV} {F : List Nat}, Lend Hc ws vs F → (∀ id ∈ F, H'.get id = Hc.get id) → ws.length = vs.length ∧ ∀ (k : Nat) (v v' : AV) (x : Value), ws[k]? = some v → vs[k]? = some v' → Cv w g v x → Cv w (Gh.all w) v' x := by
  intro ws vs F h
  have cons : ∀ {a b : AV} {ws vs : List AV}, (∀ x, Cv w g a x → Cv w (Gh.all w) b x) → (ws.length = vs.length ∧ ∀ (k : Nat) (v v' : AV) (x : Value), ws[k]? = some v → vs[k]? = some v' → Cv w g v x → Cv w (Gh.all w) v' x) →
      (a :: ws).length = (b :: vs).length ∧ ∀ (k : Nat) (v v' : AV) (x : Value), (a :: ws)[k]? = some v → (b :: vs)[k]? = some v' → Cv w g v x → Cv w (Gh.all w) v' x := by
    intro a b ws vs h1 h2
    refine ⟨by simp [h2.1], fun k v v' x hv hv' hx => ?_⟩
    cases k with
    | zero => simp at hv hv'; subst hv hv'; exact h1 x hx
    | succ k => exact h2.2 k v v' x (by simpa using hv) (by simpa using hv') hx
  have list : ∀ {cs cs' : List AV} {xs : Array Value}, (cs.length = cs'.length ∧ ∀ (k : Nat) (v v' : AV) (x : Value), cs[k]? = some v → cs'[k]? = some v' → Cv w g v x → Cv w (Gh.all w) v' x) → cs.length = xs.size → (∀ (i : Nat) (c : AV) (y : Value), cs[i]? = some c → xs[i]? = some y → Cv w g c y) →
      cs'.length = xs.size ∧ ∀ (i : Nat) (c : AV) (y : Value), cs'[i]? = some c → xs[i]? = some y → Cv w (Gh.all w) c y := by
    intro cs cs' xs h1 h2 h3
    refine ⟨by rw [← h1.1]; exact h2, fun i c y hi hy => ?_⟩
    have hil := (List.getElem?_eq_some_iff.1 hi).1
    have hc := List.getElem?_eq_getElem (l := cs) (i := i) (by rw [h1.1]; exact hil)
    exact h1.2 i _ c y hc hi (h3 i _ y hc hy)
  induction h with
  | nil => intro _; exact ⟨rfl, fun k v v' x h => by simp at h⟩
  | same h _ ih => intro hF; exact cons (fun x hx => cv_all hH h hx) (ih hF)
  | @part fl i E off len t es es' ws vs F gt hn hl e _ ih =>
    intro hF
    subst e
    refine cons (fun x hx => ?_) (ih fun id hid => hF id (List.mem_cons_of_mem _ hid))
    have hB := (hF i (List.mem_cons_self ..)).trans gt
    refine lend_row hH hB hx hl (by simp; omega) (fun e he => (hH.rel i _ hB).1 e (List.mem_of_mem_drop (List.mem_of_mem_take he))) fun k j e e' c c' y h1 h2 h3 h4 hy => ?_
    obtain ⟨h5, _⟩ := get_off h3
    rw [h1] at h5; injection h5 with h5; subst h5
    rw [h2] at h4; injection h4 with h4; subst h4
    rw [namesL_all] at hn
    exact cv_all hH (names_cells (List.all_eq_true.1 hn e (List.mem_of_getElem? h1)) c (List.mem_of_getElem? h2)) hy
  | @rows fl i off len t es es' ws vs F G gt hl h1 h2 _ _ ih1 ih2 =>
    intro hF
    refine cons (fun x hx => ?_) (ih2 fun id hid => hF id (List.mem_cons_of_mem _ (List.mem_append_right _ hid)))
    have hB := (hF i (List.mem_cons_self ..)).trans gt
    have ih := ih1 fun id hid => hF id (List.mem_cons_of_mem _ (List.mem_append_left _ hid))
    refine lend_row hH hB hx hl (by rw [← ih.1]; simp; omega) (fun e he => by rw [AV.one_cells (List.all_eq_true.1 h2 e he)]; rfl) fun k j e e' c c' y q1 q2 q3 q4 hy => ?_
    have hk := (List.getElem?_eq_some_iff.1 q3).1
    rw [← ih.1] at hk
    have ho := List.getElem?_eq_getElem hk
    obtain ⟨h5, _⟩ := get_off ho
    rw [q1] at h5; injection h5 with h5
    rw [← h5] at ho
    have hj : j = 0 := by
      have := (List.getElem?_eq_some_iff.1 q4).1
      rw [AV.one_cells (List.all_eq_true.1 h2 e' (List.mem_of_getElem? q3))] at this
      simpa using this
    subst hj
    rw [AV.one_cells (List.all_eq_true.1 h2 e' (List.mem_of_getElem? q3))] at q4
    rw [AV.one_cells (List.all_eq_true.1 h1 e (List.mem_of_getElem? q1))] at q2
    simp at q2 q4
    subst q2 q4
    exact ih.2 k _ _ y ho q3 hy
  | @clo f k cs cs' ws vs F G _ _ ih1 ih2 =>
    intro hF
    refine cons (fun x hx => ?_) (ih2 fun id hid => hF id (List.mem_append_right _ hid))
    cases hx with
    | clo hk hl hc =>
      obtain ⟨a, b⟩ := list (ih1 fun id hid => hF id (List.mem_append_left _ hid)) hl hc
      exact .clo hk a b
  | @agg cs cs' ws vs F G _ _ ih1 ih2 =>
    intro hF
    refine cons (fun x hx => ?_) (ih2 fun id hid => hF id (List.mem_append_right _ hid))
    cases hx with
    | agg hl hc =>
      obtain ⟨a, b⟩ := list (ih1 fun id hid => hF id (List.mem_append_left _ hid)) hl hc
      exact .agg a b
  | @ptr i E j off t es e ws vs F gt hn hj _ ih =>
    intro hF
    refine cons (fun x hx => ?_) (ih fun id hid => hF id (List.mem_cons_of_mem _ hid))
    have hB := (hF i (List.mem_cons_self ..)).trans gt
    refine lend_ptr hH hB hj hx ((hH.rel i _ hB).1 e (List.mem_of_getElem? hj)) fun j c c' y h1 h2 hy => ?_
    rw [h1] at h2; injection h2 with h2; subst h2
    rw [namesL_all] at hn
    exact cv_all hH (names_cells (List.all_eq_true.1 hn e (List.mem_of_getElem? hj)) c (List.mem_of_getElem? h1)) hy
  | @box i t e e' ws vs F G gt h1 h2 _ _ ih1 ih2 =>
    intro hF
    refine cons (fun x hx => ?_) (ih2 fun id hid => hF id (List.mem_cons_of_mem _ (List.mem_append_right _ hid)))
    have hB := (hF i (List.mem_cons_self ..)).trans gt
    have ih := ih1 fun id hid => hF id (List.mem_cons_of_mem _ (List.mem_append_left _ hid))
    refine lend_ptr hH hB rfl hx (by rw [AV.one_cells h2]; rfl) fun j c c' y q1 q2 hy => ?_
    rw [AV.one_cells h1] at q1
    rw [AV.one_cells h2] at q2
    have hj : j = 0 := by
      have := (List.getElem?_eq_some_iff.1 q2).1
      simpa using this
    subst hj
    simp at q1 q2
    subst q1 q2
    exact ih.2 0 e e' y rfl rfl hy
theorem ACalls.lend {P : Program} {f : FuncId} {vs ws : List AV} {Hc : AH} {v : AV} {F : List Nat} (hf : AFun P f 0 vs [] v []) (hv : v.plain = true) (hl0 : Lend Hc ws vs F) : ACalls P f ws Hc { v := v, D := F } := by
  intro H' hD _ w g xs hl hx hH _
  obtain ⟨a, b⟩ := hl0.cv hH hD
  refine (hf w (Gh.all w) xs (by rw [← a]; exact hl) (fun i u x hu hxi => ?_) ⟨fun id B h => (by cases h), fun i j b E E' A B h => (by cases h), fun i b E B h => (by cases h), fun b h => h, ⟨fun x hx => ⟨hH.lt _ (hH.gl.1 x hx).1, (hH.gl.1 x hx).2⟩, hH.gl.2⟩⟩ (fun _ _ => rfl)).mono fun e w' ⟨x, g', he, hA, hc, _⟩ => ?_
  · have hil := (List.getElem?_eq_some_iff.1 hu).1
    have hw := List.getElem?_eq_getElem (l := ws) (i := i) (by rw [a]; exact hil)
    exact b i _ u x hw hu (hx i _ x hw hxi)
  · have hsame : ∀ b, b < w.heap.size → w'.heap[b]? = w.heap[b]? := fun b hb => hA.ext.block b hb fun id B E h => by cases h
    have m : Mono w g w' g := ⟨fun _ _ h => h, fun b h => ⟨h, hsame b (hH.lt b h)⟩, fun b cs ty fz h => ⟨cs, (hsame b (heap_lt h)).trans h, rfl⟩⟩
    refine ⟨x, he, g, ⟨m, ⟨hA.ext.os, hA.ext.tape, hA.ext.output, hA.ext.size, fun b hb _ => hsame b hb⟩, fun id B b E h h' _ => ⟨id, B, E, h, h'⟩, fun b h _ => .inl h, ?_⟩, hc.plain hv, fun _ _ => rfl⟩
    refine ⟨fun id B hB => (hH.rel id B hB).keep m rfl fun b E hb => hsame b ((hH.rel id B hB).lt hb), hH.apart, hH.imm, fun b h => Nat.lt_of_lt_of_le (hH.lt b h) hA.ext.size, hH.gl.mono m.I hA.ext.size⟩
theorem CallN.lend {P : Program} {f : FuncId} {vs ws : List AV} {F : List Nat} {Hc : AH} {v : AV} {K : Out → Prop} (hf : AFun P f 0 vs [] v []) (hv : v.plain = true) (h : Lend Hc ws vs F) (k : K { v := v, D := F }) : CallN P f ws Hc K := ⟨_, ACalls.lend hf hv h, k⟩
theorem Ck.pre {b : Bool} {K : Prop} (h : Ck b K) : Ck b K := h
theorem As.pre {b : Bool} {K : Prop} (h : As b K) : As b K := h
theorem LetI.pre {o : Option BinOp} {m : Int} {K : Int → Prop} (h : LetI o m K) : LetI o m K := h
theorem LetB.pre {o : Option BinOp} {m : Bool} {K : Bool → Prop} (h : LetB o m K) : LetB o m K := h
theorem LetV.pre {t : TypeId} {v : AV} {K : AV → Prop} (h : LetV t v K) : LetV t v K := h
theorem LetL.pre {t : TypeId} {v : List AV} {K : List AV → Prop} (h : LetL t v K) : LetL t v K := h
theorem Br.pre {b : Bool} {p q : Prop} (h : Br b p q) : Br b p q := h
theorem Gd.pre {b : Bool} {p q r : Prop} (h : Gd b p q r) : Gd b p q r := h
theorem CallN.pre {P : Program} {f : FuncId} {vs : List AV} {H : AH} {K : Out → Prop} (h : CallN P f vs H K) : CallN P f vs H K := h
/-- A list of values that is not written out. -/
theorem forceAs.pass {l : List AV} {K : List AV → Prop} (h : K l) : forceAs l K := by rw [forceAs_eq]; exact h
theorem forceC.pass {l : List AV} {K : List AV → Prop} (h : K l) : forceC l K := by rw [forceC_eq]; exact h
theorem forceEs.pass {l : List AV} {K : List AV → Prop} (h : K l) : forceEs l K := by rw [forceEs_eq]; exact h
end Go.Proofs.Ytjnmbmdplchfkaa.Am
