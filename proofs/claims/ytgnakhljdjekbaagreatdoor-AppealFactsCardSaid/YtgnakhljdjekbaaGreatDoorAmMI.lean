/- The owned machine, part MI: rows lent to a call that makes a row of its own. -/
import Derived.Test.YtgnakhljdjekbaaGreatDoorAmMH
set_option linter.all false
namespace Go.Proofs.YtgnakhljdjekbaaGreatDoor.Am
set_option linter.unusedVariables false
mutual
/-- Nothing that is never written, no function. -/
def AV.ownd : AV → Bool
  | .unk | .sc _ | .ptr .. | .slm .. | .mp _ => true
  | .when _ v => v.ownd
  | .agg cs | .tup cs => AV.owndL cs
  | .rp .. | .ro .. | .clo .. | .yl .. => false
def AV.owndL : List AV → Bool
  | [] => true
  | v :: l => v.ownd && AV.owndL l
end
theorem owndL_all : ∀ l : List AV, AV.owndL l = l.all AV.ownd
  | [] => rfl
  | v :: l => by simp [AV.owndL, owndL_all l]
theorem Cv.ownd {w : World} {g g' : Gh} {ok : Nat → Bool} {ρ : Nat → Nat} (hφ : ∀ id q, ok id = true → g.φ id = some q → g'.φ (ρ id) = some q) {v : AV} {x : Value} (h : Cv w g v x) : v.ownd = true → v.names ok = true → Cv w g' (v.ren ρ) x := by
  have lst : ∀ {l : List AV} {xs : Array Value}, AV.owndL l = true → AV.namesL ok l = true → l.length = xs.size → (∀ (i : Nat) (c : AV) (y : Value), l[i]? = some c → xs[i]? = some y → c.ownd = true → c.names ok = true → Cv w g' (c.ren ρ) y) →
      (AV.renL ρ l).length = xs.size ∧ ∀ (i : Nat) (c : AV) (y : Value), (AV.renL ρ l)[i]? = some c → xs[i]? = some y → Cv w g' c y := by
    intro l xs hp hn hl ih
    rw [renL_map]
    refine ⟨by simpa using hl, fun i c y hi hy => ?_⟩
    rw [List.getElem?_map] at hi
    obtain ⟨u, hu, rfl⟩ := Option.map_eq_some_iff.1 hi
    rw [owndL_all] at hp
    rw [namesL_all] at hn
    exact ih i u y hu hy (List.all_eq_true.1 hp u (List.mem_of_getElem? hu)) (List.all_eq_true.1 hn u (List.mem_of_getElem? hu))
  induction h with
  | unk v => intro _ _; exact .unk _
  | when _ ih => intro hp hn; exact .when fun hb => ih hb hφ hp hn
  | sc v h => intro _ _; exact .sc v h
  | agg h _ ih =>
    intro hp hn
    obtain ⟨a, b⟩ := lst hp hn h fun i c y hi hy hc hd => ih i c y hi hy hφ hc hd
    exact .agg a b
  | tup h _ ih =>
    intro hp hn
    obtain ⟨a, b⟩ := lst hp hn h fun i c y hi hy hc hd => ih i c y hi hy hφ hc hd
    exact .tup a b
  | ptr h => intro _ hn; exact .ptr (hφ _ _ hn h)
  | rp X _ _ _ _ => intro hp; cases hp
  | slz h => intro _ _; exact .slz h
  | slm h1 h0 h2 h3 h4 => intro _ hn; exact .slm (hφ _ _ hn h1) h0 h2 h3 h4
  | roz _ _ _ => intro hp; cases hp
  | ro X _ _ _ _ _ _ _ => intro hp; cases hp
  | clo _ _ _ _ => intro hp; cases hp
  | mp h => intro _ hn; exact .mp (hφ _ _ hn h)
  | yl _ _ _ _ _ => intro hp; cases hp
theorem ACalls.lendOwn {P : Program} {f : FuncId} {vs ws : List AV} {Hc : AH} {v : AV} {F : List Nat} {E : Nat} {ty : TypeId} {es : List AV} (j : Nat) (hf : AFun P f 0 vs [] v [(0, .row E ty es)]) (hl0 : Lend Hc ws vs F) (hj : Hc.get j = none) (hv : v.ownd = true) (hv2 : v.names (fun i => i == 0) = true) (hes : AV.plainL es = true) :
    ACalls P f ws Hc { v := v.ren (fun _ => j), D := F, δ := [(j, some (.row E ty es))] } := by
  intro H' hD hfresh w g xs hl hx hH hφ0
  have hj' : H'.get j = none := hfresh (j, some (.row E ty es)) (List.mem_singleton.2 rfl) hj
  have hφj : g.φ j = none := hφ0 (j, some (.row E ty es)) (List.mem_singleton.2 rfl) hj'
  obtain ⟨ha, hb⟩ := hl0.cv hH hD
  refine (hf w (Gh.all w) xs (by rw [← ha]; exact hl) (fun i u x hu hxi => ?_) ⟨fun id B h => (by cases h), fun i j b E E' A B h => (by cases h), fun i b E B h => (by cases h), fun b h => h, fun x hx => ⟨hH.lt _ (hH.gl x hx).1, (hH.gl x hx).2⟩⟩ (fun _ _ => rfl)).mono fun e w' ⟨x, g', he, hA, hc, hH1⟩ => ?_
  · have hil := (List.getElem?_eq_some_iff.1 hu).1
    have hw := List.getElem?_eq_getElem (l := ws) (i := i) (by rw [ha]; exact hil)
    exact hb i _ u x hw hu (hx i _ x hw hxi)
  · have hsame : ∀ b, b < w.heap.size → w'.heap[b]? = w.heap[b]? := fun b hb => hA.ext.block b hb fun id B E h => by cases h
    -- the row that is made
    have hB0 : AH.get [(0, Blk.row E ty es)] 0 = some (.row E ty es) := rfl
    have hnew : ∀ b F', g'.φ 0 = some (b, F') → w.heap.size ≤ b := fun b F' hb => by
      rcases Nat.lt_or_ge b w.heap.size with h | h
      · obtain ⟨i, A, F2, h1, _⟩ := hA.own 0 _ b F' hB0 hb h
        cases h1
      · exact h
    let g2 : Gh := { g with φ := fun k => if k = j then g'.φ 0 else g.φ k }
    have g2j : g2.φ j = g'.φ 0 := if_pos rfl
    have g2k : ∀ k, k ≠ j → g2.φ k = g.φ k := fun k hk => if_neg hk
    have m : Mono w g w' g2 := ⟨fun k q hk => by rw [g2k k (by rintro rfl; rw [hφj] at hk; cases hk)]; exact hk, fun b h => ⟨h, hsame b (hH.lt b h)⟩, fun b cs ty fz h => ⟨cs, (hsame b (heap_lt h)).trans h, rfl⟩⟩
    have hpl : ∀ e ∈ es, e.plain = true := by rw [plainL_all] at hes; exact fun e he => List.all_eq_true.1 hes e he
    have hcell : ∀ (e c : AV) (i : Nat), e.plain = true → e.cells[i]? = some c → c.plain = true := by
      intro e c i hp hi
      cases e <;> simp only [AV.cells] at hi <;> try (first | (simp at hi; done))
      case agg cs =>
        simp only [AV.plain, plainL_all] at hp
        exact List.all_eq_true.1 hp c (List.mem_of_getElem? hi)
      all_goals
        cases i with
        | zero => simp at hi; subst hi; exact hp
        | succ i => simp at hi
    have hrel : (Blk.row E ty es).Rel w' g2 j := by
      obtain ⟨a1, a2⟩ := hH1.rel 0 _ hB0
      refine ⟨a1, ?_⟩
      rcases a2 with ⟨b1, b2⟩ | ⟨b, cs, b1, b2, b3, b4⟩
      · exact .inl ⟨by rw [g2j]; exact b1, b2⟩
      · refine .inr ⟨b, cs, by rw [g2j]; exact b1, b2, b3, fun i k e c hi hk => ?_⟩
        obtain ⟨y, hy, hcy⟩ := b4 i k e c hi hk
        exact ⟨y, hy, hcy.plain (hcell e c k (hpl e (List.mem_of_getElem? hi)) hk)⟩
    have getk : ∀ {k : Nat} {B : Blk}, (H'.set j (.row E ty es)).get k = some B → (k = j ∧ B = .row E ty es) ∨ (k ≠ j ∧ H'.get k = some B) := by
      intro k B hk
      rw [AH.get_set] at hk
      split at hk
      · rename_i e1; injection hk with hk; exact .inl ⟨e1, hk.symm⟩
      · rename_i e1; exact .inr ⟨e1, hk⟩
    refine ⟨x, he, g2, ⟨m, ⟨hA.ext.os, hA.ext.tape, hA.ext.output, hA.ext.size, fun b hb _ => hsame b hb⟩, fun id B b F' h h' hlt => ?_, fun b h _ => .inl h, ⟨fun id B hB => ?_, fun i k b F1 F2 A B hi hk h1 h2 => ?_, fun i b F1 B hi h1 => ?_, fun b h => Nat.lt_of_lt_of_le (hH.lt b h) hA.ext.size, hH.gl.mono m.I⟩⟩, ?_, fun id hid => ?_⟩
    · rcases getk h with ⟨rfl, _⟩ | ⟨h1, h2⟩
      · rw [g2j] at h'
        have := hnew b F' h'
        omega
      · rw [g2k id h1] at h'
        exact ⟨id, B, F', h2, h'⟩
    · rcases getk hB with ⟨rfl, rfl⟩ | ⟨h1, h2⟩
      · exact hrel
      · exact (hH.rel id B h2).keep m (g2k id h1) fun b E hb => hsame b ((hH.rel id B h2).lt hb)
    · rcases getk hi with ⟨rfl, _⟩ | ⟨hi1, hi2⟩ <;> rcases getk hk with ⟨rfl, _⟩ | ⟨hk1, hk2⟩
      · rfl
      · rw [g2j] at h1; rw [g2k k hk1] at h2
        have a1 := hnew _ _ h1
        have a2 := (hH.rel k B hk2).lt h2
        omega
      · rw [g2j] at h2; rw [g2k i hi1] at h1
        have a1 := hnew _ _ h2
        have a2 := (hH.rel i A hi2).lt h1
        omega
      · rw [g2k i hi1] at h1; rw [g2k k hk1] at h2
        exact hH.apart _ _ _ _ _ _ _ hi2 hk2 h1 h2
    · rcases getk hi with ⟨rfl, _⟩ | ⟨hi1, hi2⟩
      · rw [g2j] at h1
        intro hIb
        have a1 := hnew _ _ h1
        have a2 := hH.lt b hIb
        omega
      · rw [g2k i hi1] at h1
        exact hH.imm _ _ _ _ hi2 h1
    · exact hc.ownd (g' := g2) (ok := fun i => i == 0) (ρ := fun _ => j) (fun id q hid h => by
        have : id = 0 := by simpa using hid
        subst this
        rw [g2j]; exact h) hv hv2
    · refine g2k id ?_
      rintro rfl
      rcases hid with h | h
      · simp at h
      · exact h hj'
theorem CallN.lendOwn {P : Program} {f : FuncId} {vs ws : List AV} {Hc : AH} {v : AV} {F : List Nat} {E : Nat} {ty : TypeId} {es : List AV} {K : Out → Prop} (j : Nat) (hf : AFun P f 0 vs [] v [(0, .row E ty es)]) (hl0 : Lend Hc ws vs F) (hj : Hc.get j = none) (hv : v.ownd = true) (hv2 : v.names (fun i => i == 0) = true) (hes : AV.plainL es = true)
    (k : K { v := v.ren (fun _ => j), D := F, δ := [(j, some (.row E ty es))] }) : CallN P f ws Hc K := ⟨_, ACalls.lendOwn j hf hl0 hj hv hv2 hes, k⟩
end Go.Proofs.YtgnakhljdjekbaaGreatDoor.Am
