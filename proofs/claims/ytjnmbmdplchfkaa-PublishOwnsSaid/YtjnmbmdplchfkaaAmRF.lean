/- The owned machine, part RF: loops over a function. -/
import Derived.Test.YtjnmbmdplchfkaaAmMI
set_option linter.all false
namespace Go.Proofs.Ytjnmbmdplchfkaa.Am
variable [Lo]
set_option linter.unusedVariables false

/-! ### A block that is no cells is forgotten -/
mutual
/-- What is never written lies in cells; no function that a loop handed over. -/
def AV.solid : AV → Bool
  | .when _ v => v.solid
  | .rp e _ => !e.cells.isEmpty && e.solid
  | .ro _ E es => decide (1 ≤ E) && AV.solidL es
  | .agg cs | .tup cs | .clo _ cs _ => AV.solidL cs
  | .yl .. | .fr _ => false
  | .unk | .sc _ | .ptr .. | .slm .. | .mp _ => true
def AV.solidL : List AV → Bool
  | [] => true
  | v :: l => v.solid && AV.solidL l
end
theorem solidL_all : ∀ l : List AV, AV.solidL l = l.all AV.solid
  | [] => rfl
  | v :: l => by simp [AV.solidL, solidL_all l]
theorem solid_cells {v : AV} (h : v.solid = true) : ∀ c ∈ v.cells, c.solid = true := by
  cases v with
  | agg cs => simpa [AV.solid, AV.cells, solidL_all] using h
  | unk => intro c hc; simp [AV.cells] at hc
  | when => intro c hc; simp [AV.cells] at hc
  | _ => intro c hc; simp only [AV.cells, List.mem_singleton] at hc; subst hc; exact h
def Gh.less (g : Gh) (l : Nat) : Gh := ⟨g.φ, fun b => g.I b ∧ b ≠ l⟩
theorem cell_ne {w : World} {l : Nat} {o : Obj} (hl : w.heap[l]? = some o) (ho : inert o = true) {b i : Nat} {x : Value} (h : w.cell? ⟨b, i, none⟩ = some x) : b ≠ l := by
  rintro rfl
  unfold World.cell? at h
  simp only [hl] at h
  cases o <;> simp_all [inert]
theorem Cv.strip {w : World} {g : Gh} {l : Nat} {o : Obj} (hl : w.heap[l]? = some o) (ho : inert o = true) {v : AV} {x : Value} (h : Cv w g v x) : v.solid = true → Cv w (g.less l) v x := by
  induction h with
  | unk v => intro _; exact .unk _
  | when _ ih => intro hs; exact .when fun hb => ih hb hs
  | sc v h => intro _; exact .sc v h
  | ptr h => intro _; exact .ptr h
  | @rp g e off b o' X h1 h2 h3 ih =>
    intro hs
    simp only [AV.solid, Bool.and_eq_true, Bool.not_eq_true', List.isEmpty_eq_false_iff_exists_mem] at hs
    obtain ⟨⟨c, hc⟩, hs2⟩ := hs
    obtain ⟨j, hj, hje⟩ := List.mem_iff_getElem.1 hc
    have hne := cell_ne hl ho (h2 j c (by rw [List.getElem?_eq_getElem hj, hje]))
    refine .rp X ⟨h1, hne⟩ h2 fun j c hj => ?_
    have := ih j c hj (solid_cells hs2 c (List.mem_of_getElem? hj))
    exact this
  | slz h => intro _; exact .slz h
  | slm h1 h0 h2 h3 h4 => intro _; exact .slm h1 h0 h2 h3 h4
  | roz h1 h2 h3 => intro _; exact .roz h1 h2 h3
  | @ro g fl E es b o' cap X h1 h2 h3 h4 h5 h6 ih =>
    intro hs
    simp only [AV.solid, Bool.and_eq_true, decide_eq_true_eq, solidL_all] at hs
    cases es with
    | nil => exact .roz (fun hf => by simpa using h3 hf) (fun h => by cases h) (fun _ => rfl)
    | cons e es =>
      have he := h4 e (List.mem_cons_self ..)
      have h0 : 0 < e.cells.length := by omega
      have hne := cell_ne hl ho (h5 0 0 e e.cells[0] rfl (List.getElem?_eq_getElem h0))
      refine .ro X ⟨h1, hne⟩ h2 h3 h4 h5 fun i j e' c hi hj => ?_
      exact ih i j e' c hi hj (solid_cells (List.all_eq_true.1 hs.2 e' (List.mem_of_getElem? hi)) c (List.mem_of_getElem? hj))
  | agg h _ ih => intro hs; simp only [AV.solid, solidL_all] at hs; exact .agg h fun i c y hi hy => ih i c y hi hy (List.all_eq_true.1 hs c (List.mem_of_getElem? hi))
  | tup h _ ih => intro hs; simp only [AV.solid, solidL_all] at hs; exact .tup h fun i c y hi hy => ih i c y hi hy (List.all_eq_true.1 hs c (List.mem_of_getElem? hi))
  | clo hk h _ ih => intro hs; simp only [AV.solid, solidL_all] at hs; exact .clo hk h fun i c y hi hy => ih i c y hi hy (List.all_eq_true.1 hs c (List.mem_of_getElem? hi))
  | mp h => intro _; exact .mp h
  | yl _ _ _ _ _ => intro hs; cases hs
  | fr _ _ _ => intro hs; cases hs
  | old _ _ _ => intro hs; cases hs
def Blk.solid : Blk → Bool
  | .row _ _ es => AV.solidL es
  | .map _ kv => kv.all fun x => x.2.solid
def solidH (H : AH) : Bool := H.all fun x => x.2.solid
theorem solidH.get {H : AH} (h : solidH H = true) {id : Nat} {B : Blk} (hB : H.get id = some B) : B.solid = true := List.all_eq_true.1 h _ (get_mem hB)
theorem HRel.strip {w : World} {g : Gh} {H : AH} {l : Nat} {o : Obj} (hl : w.heap[l]? = some o) (ho : inert o = true) (hH : HRel w g H) (hs : solidH H = true) : HRel w (g.less l) H := by
  refine ⟨fun id B hB => ?_, hH.apart, fun i b E B hi hφ hI => hH.imm i b E B hi hφ hI.1, fun b hb => hH.lt b hb.1, ⟨fun x hx => ?gl, hH.gl.2⟩⟩
  case gl =>
    obtain ⟨h1, cs, ty, fz, h2, h3⟩ := hH.gl.1 x hx
    refine ⟨⟨h1, fun e => ?_⟩, cs, ty, fz, h2, h3⟩
    rw [e, hl] at h2
    injection h2 with h2
    subst h2
    cases ho
  have hsB := solidH.get hs hB
  have hR := hH.rel id B hB
  cases B with
  | row E ty es =>
    obtain ⟨h0, h⟩ := hR
    simp only [Blk.solid, solidL_all] at hsB
    refine ⟨h0, h.imp _root_.id fun ⟨b, cs, h1, h2, h3, h4⟩ => ⟨b, cs, h1, h2, h3, fun i j e c hi hj => ?_⟩⟩
    obtain ⟨x, hx, hc⟩ := h4 i j e c hi hj
    exact ⟨x, hx, hc.strip hl ho (solid_cells (List.all_eq_true.1 hsB e (List.mem_of_getElem? hi)) c (List.mem_of_getElem? hj))⟩
  | map ck kv =>
    obtain ⟨b, en, h1, h2, h3, h4, h5⟩ := hR
    exact ⟨b, en, h1, h2, h3, fun i k v e hi he => ⟨(h4 i k v e hi he).1, (h4 i k v e hi he).2.strip hl ho (List.all_eq_true.1 hsB (k, v) (List.mem_of_getElem? hi))⟩, h5⟩
/-! ### A block that is no cells is turned on both sides -/
theorem putObj_get (w : World) (l : Nat) (o : Obj) (b : Nat) (hl : l < w.heap.size) : (w.putObj l o).heap[b]? = if b = l then some o else w.heap[b]? := by
  by_cases h : b = l
  · subst h; rw [if_pos rfl]; exact World.putObj_heap_same hl
  · rw [if_neg h]; exact World.putObj_heap_other h
theorem AdvP.put {p l : Nat} {w w' : World} {g g' : Gh} {H H' : AH} {q q' o : Obj} (h : AdvP p w g H w' g' H') (hl : w.heap[l]? = some q) (hq : Am.inert q = true) (hl' : w'.heap[l]? = some q') (hq' : Am.inert q' = true) (hI : ¬ g.I l) (ho : Am.inert o = true) :
    AdvP p (w.putObj l o) g H (w'.putObj l o) g' H' := by
  have n1 : l < w.heap.size := (Array.getElem?_eq_some_iff.1 hl).1
  have n2 : l < w'.heap.size := (Array.getElem?_eq_some_iff.1 hl').1
  refine ⟨h.φ, fun b hb => ⟨(h.I b hb).1, ?_⟩, fun b cs ty fz hb => ?_, ⟨h.ext.os, h.ext.tape, h.ext.output, by rw [World.putObj_size, World.putObj_size]; exact h.ext.size, fun b hb hn => ?_⟩, fun id B b E hi hφ hlt => h.own id B b E hi hφ (by rwa [World.putObj_size] at hlt), fun b hb hlt => h.imm b hb (by rwa [World.putObj_size] at hlt)⟩
  · have hne : b ≠ l := fun e => hI (e ▸ hb)
    rw [putObj_get _ _ _ _ n1, putObj_get _ _ _ _ n2, if_neg hne, if_neg hne]; exact (h.I b hb).2
  · rw [putObj_get _ _ _ _ n1] at hb
    by_cases e : b = l
    · rw [if_pos e] at hb; injection hb with hb; subst hb; cases ho
    · rw [if_neg e] at hb
      rw [putObj_get _ _ _ _ n2, if_neg e]; exact h.sz b cs ty fz hb
  · rw [World.putObj_size] at hb
    rw [putObj_get _ _ _ _ n1, putObj_get _ _ _ _ n2]
    by_cases e : b = l
    · rw [if_pos e, if_pos e]
    · rw [if_neg e, if_neg e]; exact h.ext.block b hb hn
theorem putObj_turn {w : World} {g : Gh} {l : Nat} {q o : Obj} (hl : w.heap[l]? = some q) (hq : inert q = true) (hI : ¬ g.I l) : Turn w g (w.putObj l o) := by
  have n1 : l < w.heap.size := (Array.getElem?_eq_some_iff.1 hl).1
  refine ⟨rfl, rfl, rfl, World.putObj_size, fun b => ?_⟩
  by_cases e : b = l
  · subst e; exact .inr ⟨hI, q, hl, hq⟩
  · exact .inl (World.putObj_heap_other e)
theorem putObj_back {w : World} {l : Nat} {o q : Obj} (hl : w.heap[l]? = some q) : (w.putObj l o).putObj l q = w := by
  have n1 : l < w.heap.size := (Array.getElem?_eq_some_iff.1 hl).1
  have : (w.heap.setIfInBounds l o).setIfInBounds l q = w.heap := by
    refine Array.ext_getElem? fun i => ?_
    have h1 := putObj_get (w.putObj l o) l q i (by rw [World.putObj_size]; exact n1)
    rw [putObj_get w l o i n1] at h1
    refine h1.trans ?_
    split
    · rename_i e; rw [e, hl]
    · rfl
  show { w with heap := (w.heap.setIfInBounds l o).setIfInBounds l q } = w
  rw [this]
/-! ### A round -/
/-- The slots that the arguments of a round fill. -/
def frP (n : Nat) : List Tmp → List AV → Fr → Fr
  | p :: ps, u :: us, fr => frP n ps us (setDst n fr (some p) u)
  | _, _, fr => fr
theorem FRel.args {w : World} {g : Gh} {n : Nat} : ∀ (ps : List Tmp) (us : List AV) (xs : List Value) (fr : Fr) (a : Act), FRel w g n fr a → us.length = xs.length → (∀ (i : Nat) (u : AV) (x : Value), us[i]? = some u → xs[i]? = some x → Cv w g u x) →
    FRel w g n (frP n ps us fr) { a with tmps := (ps.zip xs).foldl (fun t (p, v) => t.setIfInBounds p v) a.tmps }
  | [], us, xs, fr, a, h, _, _ => by cases us <;> exact h
  | p :: ps, [], [], fr, a, h, _, _ => h
  | p :: ps, u :: us, x :: xs, fr, a, h, hl, hx => by
    have h1 := h.put (hx 0 u x rfl rfl) (some p)
    exact FRel.args ps us xs _ _ h1 (by simpa using hl) fun i u x hu hx' => hx (i + 1) u x (by simpa using hu) (by simpa using hx')
  | p :: ps, [], x :: xs, fr, a, h, hl, _ => by simp at hl
  | p :: ps, u :: us, [], fr, a, h, hl, _ => by simp at hl
theorem fget_zip : ∀ (ks : List Nat) (cs : List AV) (t : Nat), fget (ks.zip cs) t = .unk ∨ ∃ i : Nat, ks[i]? = some t ∧ cs[i]? = some (fget (ks.zip cs) t)
  | [], cs, t => .inl rfl
  | k :: ks, [], t => .inl rfl
  | k :: ks, c :: cs, t => by
    simp only [List.zip_cons_cons, fget]
    split
    · rename_i h; exact .inr ⟨0, by simp [h], rfl⟩
    · rcases fget_zip ks cs t with h | ⟨i, h1, h2⟩
      · exact .inl h
      · exact .inr ⟨i + 1, by simpa using h1, by simpa using h2⟩
/-- What the assignment and the body of a loop do, as a contract of the function that is handed over. -/
theorem yield_of {P : Program} {p n l : Nat} {rc : Loop} {ks : List Nat} {cs us : List AV} {H H' : AH} {s1 s2 : AS} (hn : rc.tmps.size = n) (hst : rc.state = .ready) (hpe : rc.pending = none) (hrf : (hasRF rc.assign || hasRF rc.body) = false)
    (h1 : ARuns P p n rc.assign ⟨frP n rc.params.toList us (ks.zip cs), H, p⟩ .normal s1) (h2 : ARuns P p n rc.body s1 .normal s2) (hH : s2.H = H') (hcs : AV.solidL cs = true) (hus : AV.solidL us = true) (hsH : solidH H = true) :
    AFunC (CY P l rc) p (.yl l rc ks cs :: us) H (.sc (.bool true)) H' := by
  intro w g xs hlen hxs hHr hN
  simp only [Bool.or_eq_false_iff] at hrf
  obtain ⟨x0, ys, rfl⟩ : ∃ x0 ys, xs = #[x0] ++ ys := by
    obtain ⟨L⟩ := xs
    cases L with
    | nil => simp at hlen
    | cons a L => exact ⟨a, L.toArray, by simp⟩
  have hy0 : Cv w g (.yl l rc ks cs) x0 := hxs 0 _ x0 rfl (by rw [Array.getElem?_append_left (by simp)]; rfl)
  have hys : ∀ (i : Nat) (u : AV) (y : Value), us[i]? = some u → ys[i]? = some y → Cv w g u y := fun i u y hu hy => hxs (i + 1) u y (by simpa using hu) (by
    rw [Array.getElem?_append_right (by simp)]; simpa using hy)
  have hul : us.length = ys.size := by simp at hlen; omega
  have hex : (#[x0] ++ ys).extract 1 (#[x0] ++ ys).size = ys := by
    apply Array.ext'
    simp only [Array.toList_extract, Array.toList_append, List.extract_eq_take_drop]
    simp
    exact List.take_of_length_le (by simp)
  rw [CY, hex]
  cases hy0 with
  | yl hI hl hk hc =>
    have hlt : l < w.heap.size := (Array.getElem?_eq_some_iff.1 hl).1
    have hIl : ¬ (g.less l).I l := fun h => h.2 rfl
    have hHs : HRel w (g.less l) H := hHr.strip hl rfl hsH
    simp only [solidL_all] at hcs hus
    have hbase : FRel w (g.less l) n (ks.zip cs) { tmps := rc.tmps, defers := [] } := by
      refine ⟨hn, fun t => ?_⟩
      rcases fget_zip ks cs t with h | ⟨i, h3, h4⟩
      · rw [h]; exact .unk _
      · exact (hc i t _ h3 h4).strip hl rfl (List.all_eq_true.1 hcs _ (List.mem_of_getElem? h4))
    have hfr := FRel.args rc.params.toList us ys.toList _ _ hbase (by simpa using hul) fun i u y hu hy => (hys i u y hu (by simpa using hy)).strip hl rfl (List.all_eq_true.1 hus u (List.mem_of_getElem? hu))
    have htm : (rc.params.zip ys).foldl (fun t (p, v) => t.setIfInBounds p v) rc.tmps = (rc.params.toList.zip ys.toList).foldl (fun t (p, v) => t.setIfInBounds p v) rc.tmps := by
      rw [← Array.foldl_toList, Array.toList_zip]
    rw [← htm] at hfr
    refine roundIn_of_wpIn (F := Fence.wide) trivial (h1 (some l) w.heap.size w (g.less l) _ _ (fun h => by rw [hrf.1] at h; cases h) ⟨hfr, hHs, hN⟩ (Nat.le_refl _) (DefOk.nil _ _ _) fun a1 w1 g1 hA1 hS1 hD1 => ?_)
    obtain ⟨hl1, hI1⟩ := hA1.inert hHs hl rfl
    refine ⟨_, run_beginRound hl1 hst, ?_⟩
    have ht1 := putObj_turn (o := .loop { rc with state := .busy }) hl1 rfl (hI1 hIl)
    have hS1' := ht1.srel hS1
    have hlw1 : (w1.putObj l (.loop { rc with state := .busy })).heap[l]? = some (.loop { rc with state := .busy }) := World.putObj_heap_same (Array.getElem?_eq_some_iff.1 hl1).1
    refine h2 (some l) w.heap.size _ g1 a1 _ (fun h => by rw [hrf.2] at h; cases h) hS1' (by rw [World.putObj_size]; exact hA1.ext.size) ?_ fun a2 w2 g2 hA2 hS2 _ => ?_
    · obtain ⟨Ds, d1, d2, d3⟩ := hD1
      refine ⟨Ds, d1, d2, fun D hD => ?_⟩
      obtain ⟨k1, k2, k3⟩ := d3 D hD
      have hne : D ≠ l := fun e => by rw [e, hl1] at k2; cases k2
      exact ⟨k1, (World.putObj_heap_other hne).trans k2, k3⟩
    · obtain ⟨hl2, hI2⟩ := hA2.inert hS1'.H hlw1 rfl
      refine ⟨_, _, run_endRound none hl2, ?_⟩
      have hrc : ({ { rc with state := .busy } with state := if (none : Option Code).isNone then .ready else .done, pending := none } : Loop) = rc := by
        cases rc; simp only at hst hpe; subst hst hpe; rfl
      rw [hrc]
      have hlwb : (w.putObj l (.loop { rc with state := .busy })).heap[l]? = some (.loop { rc with state := .busy }) := World.putObj_heap_same hlt
      have hF := ((hA1.put (o := .loop { rc with state := .busy }) hl rfl hl1 rfl hIl rfl).trans hA2).put (o := .loop rc) hlwb rfl hl2 rfl hIl rfl
      rw [putObj_back hl] at hF
      have hI2' := hI2 (hI1 hIl)
      have hS3 := (putObj_turn (o := .loop rc) hl2 rfl hI2').srel hS2
      have hl3 : (w2.putObj l (.loop rc)).heap[l]? = some (.loop rc) := World.putObj_heap_same (Array.getElem?_eq_some_iff.1 hl2).1
      subst hH
      generalize w2.putObj l (.loop rc) = w3 at hF hS3 hl3
      have hm : Mono w3 g2 w3 ⟨g2.φ, fun b => g2.I b ∨ b = l⟩ := ⟨fun _ _ h => h, fun b h => ⟨.inl h, rfl⟩, fun b cs ty fz h => ⟨cs, h, rfl⟩⟩
      refine ⟨_, ⟨g2.φ, fun b => g2.I b ∨ b = l⟩, rfl, ⟨hF.φ, fun b hb => ?_, hF.sz, ⟨hF.ext.os, hF.ext.tape, hF.ext.output, hF.ext.size, hF.ext.block⟩, hF.own, fun b hb hlt => ?_⟩, .sc _ rfl, ⟨fun id B hB => (hS3.H.rel id B hB).keep hm rfl fun _ _ _ => rfl, hS3.H.apart, fun i b E B hi hφ hb => ?_, fun b hb => ?_, hS3.H.gl.mono hm.I⟩⟩
      · by_cases e : b = l
        · subst e; exact ⟨.inr rfl, hl3.trans hl.symm⟩
        · exact ⟨.inl (hF.I b ⟨hb, e⟩).1, (hF.I b ⟨hb, e⟩).2⟩
      · rcases hb with hb | hb
        · exact (hF.imm b hb hlt).imp And.left _root_.id
        · subst hb; exact .inl hI
      · rcases hb with hb | hb
        · exact hS3.H.imm i b E B hi hφ hb
        · subst hb
          obtain ⟨o, h5, h6⟩ := owned_heap (hS3.H.rel i B hi) hφ
          rw [hl3] at h5; injection h5 with h5; subst h5; cases h6
      · rcases hb with hb | hb
        · exact hS3.H.lt b hb
        · subst hb; exact (Array.getElem?_eq_some_iff.1 hl3).1
/-! ### The loop -/
theorem DefOk.push {B : Nat} {w : World} {g : Gh} {ds : List Deferred} {D : Nat} (h : DefOk B w g ds) (hB : B ≤ D) (hD : w.heap[D]? = some (.deferred (some []))) (hI : ¬ g.I D) (hn : mark D ∉ ds) : DefOk B w g (mark D :: ds) := by
  obtain ⟨Ds, h1, h2, h3⟩ := h
  refine ⟨D :: Ds, by rw [h1]; rfl, List.nodup_cons.2 ⟨fun hm => hn (by rw [h1]; exact List.mem_map_of_mem hm), h2⟩, fun E hE => ?_⟩
  rcases List.mem_cons.1 hE with e | e
  · subst e; exact ⟨hB, hD, hI⟩
  · exact h3 E e
/-- A loop over a function f, by what f does when it is handed a function that stands for the rounds. -/
theorem ARuns.rangeFunc {P : Program} {p n : Nat} {g0 : Operand} {ps : Array Tmp} {assign body : Code} {s : AS} {f : FuncId} {caps : List AV} {k : Nat} {r : Out} (ks : List Nat) (hp : p ≤ s.nx) (hg : envF s.fr g0 = .clo f caps k) (hco : constOk g0 = true) (hcal : callable P f = true)
    (it : ∀ l rc, rc.params = ps → rc.tmps.size = n → rc.assign = assign → rc.body = body → rc.state = .ready → rc.pending = none → ACalls P f (caps.take k ++ [.yl l rc ks (ks.map (fget s.fr))] ++ caps.drop k) s.H r)
    (hnew : newOk s.H s.nx r.δ = true) (hsol : solidH (s.H.upd r.δ) = true) : ARuns P p n (.rangeFunc g0 ps assign body) s .normal ⟨s.fr, s.H.upd r.δ, nextId s.nx r.δ⟩ := by
  intro ro B w g a Q hr hs hB hD hQ
  have hro : ro = none := hr rfl
  subst hro
  refine wpIn_rangeFunc fun fn _ => ?_
  obtain ⟨rec, hrec⟩ : ∃ rec : Loop, rec = { state := .ready, pending := none, fn, tmps := a.tmps, params := ps, assign, body, defers := w.heap.size } := ⟨_, rfl⟩
  have hc0 := hs.fr.env hs.H.gl hco
  rw [hg] at hc0
  generalize hq : a.eval g0 = y at hc0
  have hold : ∀ b, b < w.heap.size → ((w.alloc (.deferred (some []))).alloc (.loop rec)).heap[b]? = w.heap[b]? := fun b hb => by
    simp only [World.alloc, Array.getElem?_push, Array.size_push]
    rw [if_neg (by omega), if_neg (by omega)]
  have hl1 : ((w.alloc (.deferred (some []))).alloc (.loop rec)).heap[w.heap.size + 1]? = some (.loop rec) := by
    have := World.alloc_heap_new (w.alloc (.deferred (some []))) (.loop rec); rwa [World.size_alloc] at this
  have hD1 : ((w.alloc (.deferred (some []))).alloc (.loop rec)).heap[w.heap.size]? = some (.deferred (some [])) := by
    simp only [World.alloc, Array.getElem?_push, Array.size_push]
    rw [if_neg (by omega)]; simp
  have hsz1 : ((w.alloc (.deferred (some []))).alloc (.loop rec)).heap.size = w.heap.size + 2 := by simp
  have hent := run_enterLoop_outer (P := P) (w := w) fn a.tmps ps assign body
  rw [← hrec] at hent
  have hos1 : ((w.alloc (.deferred (some []))).alloc (.loop rec)).os = w.os ∧ ((w.alloc (.deferred (some []))).alloc (.loop rec)).tape = w.tape ∧ ((w.alloc (.deferred (some []))).alloc (.loop rec)).output = w.output := ⟨rfl, rfl, rfl⟩
  generalize (w.alloc (.deferred (some []))).alloc (.loop rec) = w1 at hold hl1 hD1 hsz1 hent hos1
  obtain ⟨g1, hg1⟩ : ∃ g1 : Gh, g1 = ⟨g.φ, fun b => g.I b ∨ b = w.heap.size + 1⟩ := ⟨_, rfl⟩
  have hIlt := hs.H.lt
  have m1 : Mono w g w1 g1 := by
    rw [hg1]
    exact ⟨fun _ _ h => h, fun b h => ⟨.inl h, hold b (hIlt b h)⟩, fun b cs ty fz h => ⟨cs, (hold b (heap_lt h)).trans h, rfl⟩⟩
  have hH1 : HRel w1 g1 s.H := by
    refine ⟨fun id A hA => (hs.H.rel id A hA).keep m1 (by rw [hg1]) fun b E hφ => hold b ((hs.H.rel id A hA).lt hφ), by rw [hg1]; exact hs.H.apart, fun i b E A hi hφ hI => ?_, fun b hb => ?_, hs.H.gl.mono m1.I⟩
    · rw [hg1] at hφ hI
      rcases hI with h | h
      · exact hs.H.imm i b E A hi hφ h
      · have := (hs.H.rel i A hi).lt hφ; omega
    · rw [hg1] at hb
      rcases hb with h | h
      · have := hIlt b h; omega
      · omega
  have hyl : Cv w1 g1 (.yl (w.heap.size + 1) rec ks (ks.map (fget s.fr))) (.func (.yield (w.heap.size + 1)) #[] #[]) := by
    refine .yl (by rw [hg1]; exact .inr rfl) hl1 (by simp) fun i k c hi hc => ?_
    rw [List.getElem?_map, hi] at hc
    injection hc with hc
    subst hc
    rw [hrec]
    exact (hs.fr.at_ k).mono m1
  cases hc0 with
  | clo hk hlen hcv =>
    rename_i fs xs
    simp only [Array.size_append] at hlen
    have hcall := it (w.heap.size + 1) rec (by rw [hrec]) (by rw [hrec]; exact hs.fr.size) (by rw [hrec]) (by rw [hrec]) (by rw [hrec]) (by rw [hrec])
    refine ⟨w.heap.size + 1, [mark w.heap.size], w1, { target := .fn (.func f) xs, args := fs ++ #[.func (.yield (w.heap.size + 1)) #[] #[]] }, w1, f, fs ++ #[.func (.yield (w.heap.size + 1)) #[] #[]] ++ xs, w1, hent, ?_, fun _ _ => trivial, ?_, fun h => absurd h (by decide), ?_⟩
    · simp only [resolve, hq]
      have hm : Array.map a.eval #[Operand.const (.func (.yield (w.heap.size + 1)) #[] #[])] = #[.func (.yield (w.heap.size + 1)) #[] #[]] := by simp [Act.eval]
      rw [hm]
      show (Sem.bind (Deferred.ofValue (.func (.func f) fs xs) _) _).run P w1 = _
      rw [run_bind (a := { target := .fn (.func f) xs, args := fs ++ #[.func (.yield (w.heap.size + 1)) #[] #[]] }) (w' := w1) rfl]; rfl
    · show (callFunc f (fs ++ #[.func (.yield (w.heap.size + 1)) #[] #[]] ++ xs)).run P w1 = _
      rw [callFunc_run hcal]
    · refine callsIn_wide.2 (Calls.mono (hcall s.H (fun _ _ => rfl) (fun _ _ h => h) w1 g1 _ (by simp; omega) (fun i v x hi hx => ?_) hH1 fun q hq hn => ?_) fun e w3 ⟨x, he, g3, hA, hc3, hφ⟩ => ?_)
      · rw [List.append_assoc, List.getElem?_append] at hi
        rw [Array.append_assoc, Array.getElem?_append] at hx
        have hlt : (caps.take k).length = fs.size := by simp; omega
        rw [hlt] at hi
        split at hi
        · rename_i h1
          rw [if_pos h1] at hx
          rw [List.getElem?_take] at hi
          split at hi
          · refine (hcv i v x hi ?_).mono m1
            rw [Array.getElem?_append, if_pos h1]; exact hx
          · cases hi
        · rename_i h1
          rw [if_neg h1] at hx
          rw [List.getElem?_append] at hi
          rw [Array.getElem?_append] at hx
          simp only [List.length_singleton, List.size_toArray] at hi hx
          split at hi
          · rename_i h2
            rw [if_pos h2] at hx
            have h0 : i - fs.size = 0 := by omega
            rw [h0] at hi hx
            simp at hi hx
            subst hi hx
            exact hyl
          · rename_i h2
            rw [if_neg h2] at hx
            rw [List.getElem?_drop] at hi
            refine (hcv _ v x hi ?_).mono m1
            rw [Array.getElem?_append, if_neg (by omega)]
            rw [← hx]; congr 1; omega
      · rw [hg1]
        have := List.all_eq_true.1 hnew q hq
        rw [hn] at this
        exact hs.nx q.1 (by simpa using this)
      · subst he
        have hI1 : g1.I (w.heap.size + 1) := by rw [hg1]; exact .inr rfl
        have hl3 := (hA.mono.I _ hI1).2.trans hl1
        have hrun := run_endLoop (P := P) hl3 (by rw [hrec]; simp)
        generalize ({ rec with state := .exhausted } : Loop) = rx at hrun
        rw [show rec.pending = none by rw [hrec]] at hrun
        refine ⟨none, _, hrun, ?_⟩
        have hg4 : ¬ (g3.less (w.heap.size + 1)).I (w.heap.size + 1) := fun h => h.2 rfl
        have hH3s := hA.rel.strip hl3 rfl hsol
        have ht := putObj_turn (o := .loop rx) hl3 rfl hg4
        have hg1φ : g1.φ = g.φ := by rw [hg1]
        have hφp : ∀ id, id < p → g3.φ id = g.φ id := fun id hid => by
          rw [← hg1φ]
          refine hφ id ?_
          by_cases hm : id ∈ r.δ.map Prod.fst
          · refine .inr fun hn => ?_
            obtain ⟨q, hq, rfl⟩ := List.mem_map.1 hm
            have := List.all_eq_true.1 hnew q hq
            rw [hn] at this
            have : s.nx ≤ q.1 := by simpa using this
            omega
          · exact .inl hm
        have hAI : ∀ b, g.I b → (g3.less (w.heap.size + 1)).I b ∧ w3.heap[b]? = w.heap[b]? := fun b hb => by
          have hlt := hIlt b hb
          have h1 := hA.mono.I b (by rw [hg1]; exact .inl hb)
          exact ⟨⟨h1.1, by omega⟩, h1.2.trans (hold b hlt)⟩
        have hAsz : ∀ (b : Nat) (cs : Array Value) (ty : TypeId) (fz : Nat × Nat), w.heap[b]? = some (.cells cs ty fz) → ∃ cs' : Array Value, w3.heap[b]? = some (Obj.cells cs' ty fz) ∧ cs'.size = cs.size := fun b cs ty fz hb => hA.mono.sz b cs ty fz ((hold b (heap_lt hb)).trans hb)
        have hA3 : AdvP p w g s.H w3 (g3.less (w.heap.size + 1)) (s.H.upd r.δ) := by
          refine ⟨hφp, hAI, hAsz, ⟨hA.ext.os.trans hos1.1, hA.ext.tape.trans hos1.2.1, hA.ext.output.trans hos1.2.2, by have := hA.ext.size; omega, fun b hb hn => ?_⟩, fun id A b E hi hφb hlt => ?_, fun b hb hlt => ?_⟩
          · refine (hA.ext.block b (by omega) fun id A E hi => ?_).trans (hold b hb)
            rw [hg1φ]; exact hn id A E hi
          · obtain ⟨i, A', F, h1, h2⟩ := hA.own id A b E hi hφb (by omega)
            exact ⟨i, A', F, h1, by rw [← hg1φ]; exact h2⟩
          · rcases hA.imm b hb.1 (by omega) with h | ⟨i, A', F, h1, h2⟩
            · rw [hg1] at h
              exact h.imp _root_.id fun e => absurd e (by omega)
            · exact .inr ⟨i, A', F, h1, by rw [← hg1φ]; exact h2⟩
        have hoth : ∀ b, b ≠ w.heap.size + 1 → (w3.putObj (w.heap.size + 1) (.loop rx)).heap[b]? = w3.heap[b]? := fun b hb => World.putObj_heap_other hb
        have hA4 := ht.advP hA3 fun b hb => hoth b (by omega)
        have m4 : Mono w g (w3.putObj (w.heap.size + 1) (.loop rx)) (g3.less (w.heap.size + 1)) :=
          ⟨fun id q h => hA.mono.φ id q (by rw [hg1φ]; exact h), hA4.I, hA4.sz⟩
        have hfr4 := hs.fr.mono m4
        have hD3 := ((AdvP.of_adv (p := 0) hA (fun id h => absurd h (Nat.not_lt_zero _))).inert hH1 hD1 rfl)
        have hnI : ¬ g1.I w.heap.size := by
          rw [hg1]
          rintro (h | h)
          · exact absurd (hIlt _ h) (Nat.lt_irrefl _)
          · omega
        refine hQ _ _ _ hA4 ⟨⟨hfr4.size, hfr4.at_⟩, ht.hrel hH3s, ?_⟩ ((hD.adv hA4 hs.H).push hB ((hoth _ (by omega)).trans hD3.1) (fun h => hD3.2 hnI h.1) fun hm => ?_)
        · refine Post.fresh (H := s.H) (g := g1) ?_ hφ
          intro id hid
          rw [hg1φ]; exact hs.nx id hid
        · obtain ⟨Ds, d1, d2, d3⟩ := hD
          rw [d1] at hm
          obtain ⟨D, hDm, hDe⟩ := List.mem_map.1 hm
          have hDe : D = w.heap.size := by simpa using hDe
          have := (Array.getElem?_eq_some_iff.1 (d3 D hDm).2.1).1
          omega
/-! ### Words for a walk -/
theorem YieldN.own {P : Program} {l : Nat} {rc : Loop} {p : Nat} {vs ws : List AV} {H H' Hc : AH} {v : AV} {K : Out → Prop} (ρ : Nat → Nat) (hf : AFunC (CY P l rc) p vs H v H') (hl : ws.length = rc.params.size + 1) (ok : CallOk p ρ vs H v H' Hc ws) (k : K (atCall ρ H v H')) : YieldN P l rc ws Hc K :=
  ⟨_, hl, ACallsC.of_fun (C := CY P l rc) (fun h k => RoundIn.mono h k) ρ hf ok, k⟩
theorem RfN.iter {P : Program} {p n : Nat} {g0 : Operand} {ps : Array Tmp} {assign body : Code} {s : AS} {K : Exit → AS → Prop} {f : FuncId} {caps : List AV} {k : Nat} {r : Out} (ks : List Nat) (hp : p ≤ s.nx) (hg : envF s.fr g0 = .clo f caps k) (hco : constOk g0 = true) (hcal : callable P f = true)
    (it : ∀ l rc, rc.params = ps → rc.tmps.size = n → rc.assign = assign → rc.body = body → rc.state = .ready → rc.pending = none → ACalls P f (caps.take k ++ [.yl l rc ks (ks.map (fget s.fr))] ++ caps.drop k) s.H r)
    (hnew : newOk s.H s.nx r.δ = true) (hsol : solidH (s.H.upd r.δ) = true) (hb : (s.H.upd r.δ).all (fun x => decide (x.1 < nextId s.nx r.δ)) = true) (h : K .normal ⟨s.fr, s.H.upd r.δ, nextId s.nx r.δ⟩) : RfN P p n (.rangeFunc g0 ps assign body) s K :=
  ⟨_, _, ARuns.rangeFunc ks hp hg hco hcal it hnew hsol, hb, h⟩
/-- A loop may be entered by what is known of the state. -/
theorem RfN.weak {P : Program} {p n : Nat} {c : Code} {s s1 : AS} {K : Exit → AS → Prop} (hw : SW p n s s1) (h : RfN P p n c s1 K) : RfN P p n c s K := by
  obtain ⟨e, s', h1, h2, h3⟩ := h
  exact ⟨e, s', ARuns.pre hw h1, h2, h3⟩
/-- What a round leaves. -/
def RoundQ (p n : Nat) (H' : AH) (e : Exit) (s : AS) : Prop := e = .normal ∧ ∃ s3, SW p n s s3 ∧ s3.H = H'
theorem yield_of_V {P : Program} {T : TT} (hT : T.Ok P) (hm : P.follows .mixedOrders = true) {p n l : Nat} {rc : Loop} {ks : List Nat} {cs us : List AV} {H H' : AH} {ps : Array Tmp} {assign body : Code} (h1 : rc.params = ps) (h2 : rc.tmps.size = n) (h3 : rc.assign = assign) (h4 : rc.body = body) (h5 : rc.state = .ready) (h6 : rc.pending = none)
    (hrf : (hasRF assign || hasRF body) = false) (hcs : AV.solidL cs = true) (hus : AV.solidL us = true) (hsH : solidH H = true) (hB : H.all (fun x => decide (x.1 < p)) = true)
    (h : V P T p n assign ⟨frP n ps.toList us (ks.zip cs), H, p⟩ fun e s1 => e = .normal ∧ V P T p n body s1 (RoundQ p n H')) : AFunC (CY P l rc) p (.yl l rc ks cs :: us) H (.sc (.bool true)) H' := by
  subst h1 h3 h4
  obtain ⟨e, s1, k1, hB1, rfl, k2⟩ := V_sound hT hm _ _ _ h (HB.of_all hB)
  obtain ⟨e2, s2, k3, hB2, rfl, s3, k4, k5⟩ := V_sound hT hm _ _ _ k2 hB1
  exact yield_of h2 h5 h6 hrf k1 (k3.post k4) k5 hcs hus hsH
/-! ### Maps whose values have no names -/
def kvPure (kv : List (Value × AV)) : Bool := kv.all fun x => x.2.names fun _ => false
theorem kv_ren {ρ : Nat → Nat} {kv : List (Value × AV)} (h : kvPure kv = true) : (kv.map fun x => (x.1, x.2.ren ρ)) = kv :=
  (List.map_congr_left fun x hx => by rw [ren_none x.2 (List.all_eq_true.1 h x hx)]).trans (List.map_id' kv)
theorem haveV.map {ρ : Nat → Nat} {Hc : AH} {nx i ck : Nat} {kv : List (Value × AV)} {H : AH} (hn : kvPure kv = true) (h : Hc.get (ρ i) = some (.map ck kv)) (k : haveV ρ Hc nx H) : haveV ρ Hc nx ((i, .map ck kv) :: H) :=
  haveV.one (by rw [Blk.ren, kv_ren hn]; exact h) k
theorem namesAll.map {ok : Nat → Bool} {i ck : Nat} {kv : List (Value × AV)} {H : AH} (hn : kvPure kv = true) (k : namesAll ok H = true) : namesAll ok ((i, .map ck kv) :: H) = true := by
  have : (kv.all fun x => x.2.names ok) = true := List.all_eq_true.2 fun x hx => names_mono (fun _ h => by cases h) x.2 (List.all_eq_true.1 hn x hx)
  simp only [namesAll, Blk.names, this, k, Bool.and_self]
theorem haveAll.map {ρ : Nat → Nat} {Hc : AH} {i ck : Nat} {kv : List (Value × AV)} {H : AH} (hn : kvPure kv = true) (h : Hc.get (ρ i) = some (.map ck kv)) (k : haveAll ρ Hc H) : haveAll ρ Hc ((i, .map ck kv) :: H) := by
  refine ⟨?_, k⟩
  rw [Blk.ren, kv_ren hn]; exact h
theorem solidH.row {i E : Nat} {ty : TypeId} {es : List AV} {H : AH} (h : AV.solidL es = true) (k : solidH H = true) : solidH ((i, .row E ty es) :: H) = true := by
  show (Blk.solid (.row E ty es) && solidH H) = true
  rw [k, Bool.and_true]; exact h
theorem solidH.map {i ck : Nat} {kv : List (Value × AV)} {H : AH} (h : (kv.all fun x => x.2.solid) = true) (k : solidH H = true) : solidH ((i, .map ck kv) :: H) = true := by
  show (Blk.solid (.map ck kv) && solidH H) = true
  rw [k, Bool.and_true]; exact h
end Go.Proofs.Ytjnmbmdplchfkaa.Am
