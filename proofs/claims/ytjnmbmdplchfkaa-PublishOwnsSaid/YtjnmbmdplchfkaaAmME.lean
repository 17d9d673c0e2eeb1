/- The owned machine, part ME: loops by induction, rows that are never written again, tests both ways. -/
import Derived.Test.YtjnmbmdplchfkaaAmRX
set_option linter.all false
namespace Go.Proofs.Ytjnmbmdplchfkaa.Am
variable [Lo]
set_option linter.unusedVariables false

theorem Br.split {b : Bool} {p q : Prop} (h : b = true → p) (k : b = false → q) : Br b p q := by
  cases hb : b with
  | true => exact .tt rfl (h hb)
  | false => exact .ff rfl (k hb)
theorem Gd.split {b : Bool} {p q r : Prop} (h : b = true → p) (k : b = false → q) : Gd b p q r := by
  cases hb : b with
  | true => exact .run rfl (h hb)
  | false => exact .pass rfl (k hb)

/-- What is known may be told with less: a nil slice as an empty one, flags forgotten. -/
def VLe2 (a b : AV) : Prop := VLe a b ∨ (a = .sc (.slice none 0 0) ∧ ((∃ fl id E off, b = .slm fl id E off 0 ∧ fl.nn = false) ∨ ∃ fl E, b = .ro fl E [] ∧ fl.nn = false)) ∨
  (∃ fl fl' E es, a = .ro fl E es ∧ b = .ro fl' E es ∧ (fl'.full = true → fl.full = true) ∧ (fl'.nn = true → fl.nn = true)) ∨ ∃ fl fl' id E off len, a = .slm fl id E off len ∧ b = .slm fl' id E off len ∧ (fl'.full = true → fl.full = true) ∧ (fl'.nn = true → fl.nn = true)
theorem VLe2.cle {a b : AV} (h : VLe2 a b) : CLe a b := by
  rcases h with h | ⟨rfl, ⟨fl, id, E, off, rfl, h⟩ | ⟨fl, E, rfl, h⟩⟩ | ⟨fl, fl', E, es, rfl, rfl, h1, h2⟩ | ⟨fl, fl', id, E, off, len, rfl, rfl, h1, h2⟩
  · exact h.cle
  · intro w g x hx
    cases hx with
    | sc _ _ => exact .slz fun hn => by rw [h] at hn; cases hn
  · intro w g x hx
    cases hx with
    | sc _ _ => exact .roz (fun _ => rfl) (fun _ => rfl) fun hn => by rw [h] at hn; cases hn
  · intro w g x hx
    cases hx with
    | roz a b c => exact .roz (fun h => a (h1 h)) b (fun h => c (h2 h))
    | ro X a b c d e f => exact .ro X a b (fun h => c (h1 h)) d e f
  · intro w g x hx
    cases hx with
    | slz a => exact .slz fun h => a (h2 h)
    | slm a b c d e => exact .slm a (fun h => b (h1 h)) c d e
theorem VLe2.refl (a : AV) : VLe2 a a := .inl (.inl rfl)
def VLe2L : List AV → List AV → Prop
  | [], [] => True
  | a :: l, b :: m => VLe2 a b ∧ VLe2L l m
  | _, _ => False
theorem VLe2L.get : ∀ {l m : List AV}, VLe2L l m → l.length = m.length ∧ ∀ (i : Nat) (b : AV), m[i]? = some b → ∃ a, l[i]? = some a ∧ CLe a b
  | [], [], _ => ⟨rfl, fun i b h => by simp at h⟩
  | a :: l, b :: m, ⟨h1, h2⟩ => by
    obtain ⟨h3, h4⟩ := VLe2L.get h2
    refine ⟨by simp [h3], fun i c hc => ?_⟩
    cases i with
    | zero => simp at hc; subst hc; exact ⟨a, rfl, h1.cle⟩
    | succ i => exact h4 i c (by simpa using hc)
  | [], _ :: _, h => h.elim
  | _ :: _, [], h => h.elim
/-- The same of a block. -/
def BLe (a b : Blk) : Prop := a = b ∨ ∃ E ty cs cs', a = .row E ty [.agg cs] ∧ b = .row E ty [.agg cs'] ∧ VLe2L cs cs'
theorem BLe.rel {w : World} {g : Gh} {id : Nat} {a b : Blk} (h : BLe a b) (ha : a.Rel w g id) : b.Rel w g id := by
  rcases h with rfl | ⟨E, ty, cs, cs', rfl, rfl, h⟩
  · exact ha
  · obtain ⟨hl, hc⟩ := h.get
    obtain ⟨h0, hr⟩ := ha
    refine ⟨fun e he => ?_, ?_⟩
    · simp at he; subst he
      rw [← h0 (.agg cs) (by simp)]
      exact hl.symm
    · rcases hr with ⟨_, h1⟩ | ⟨bb, xs, h1, h2, h3, h4⟩
      · cases h1
      · refine .inr ⟨bb, xs, h1, h2, h3, fun i j e c hi hj => ?_⟩
        cases i with
        | zero =>
          simp at hi; subst hi
          obtain ⟨a, ha, hle⟩ := hc j c hj
          obtain ⟨x, hx, hcv⟩ := h4 0 j (.agg cs) a rfl ha
          exact ⟨x, hx, hle w g x hcv⟩
        | succ i => simp at hi

/-- The frame stands for this one, under other names. -/
def frOk (ρ : Nat → Nat) (fr : Fr) : Fr → Prop
  | [] => True
  | (t, v) :: l => VLe2 (fget fr t) (v.ren ρ) ∧ frOk ρ fr l
theorem frOk.get {ρ : Nat → Nat} {fr : Fr} : ∀ {l : Fr}, frOk ρ fr l → ∀ t, VLe2 (fget fr t) ((fget l t).ren ρ)
  | [], _, t => .inl (.inr (.inr rfl))
  | (i, v) :: l, h, t => by
    simp only [fget]
    split
    · rename_i e; subst e; exact h.1
    · exact frOk.get h.2 t
def frNames (ok : Nat → Bool) : Fr → Bool
  | [] => true
  | (_, v) :: l => v.names ok && frNames ok l
theorem frNames.get {ok : Nat → Bool} : ∀ {l : Fr}, frNames ok l = true → ∀ t, (fget l t).names ok = true
  | [], _, t => rfl
  | (i, v) :: l, h, t => by
    simp only [frNames, Bool.and_eq_true] at h
    simp only [fget]
    split
    · exact h.1
    · exact frNames.get h.2 t
/-- The blocks are there, under other names; an empty row may be of a name that is free. -/
def haveV (ρ : Nat → Nat) (Hc : AH) (nx : Nat) : AH → Prop
  | [] => True
  | (i, b) :: H => ((∃ b0, Hc.get (ρ i) = some b0 ∧ BLe b0 (b.ren ρ)) ∨ ((∃ E ty, b = .row E ty []) ∧ nx ≤ ρ i)) ∧ haveV ρ Hc nx H
theorem haveV.mem {ρ : Nat → Nat} {Hc : AH} {nx : Nat} : ∀ {H : AH}, haveV ρ Hc nx H → ∀ x ∈ H, (∃ b0, Hc.get (ρ x.1) = some b0 ∧ BLe b0 (x.2.ren ρ)) ∨ ((∃ E ty, x.2 = .row E ty []) ∧ nx ≤ ρ x.1)
  | _ :: _, ⟨h1, h2⟩, x, hx => by
    rcases List.mem_cons.1 hx with rfl | hx
    · exact h1
    · exact haveV.mem h2 x hx
theorem haveV.one {ρ : Nat → Nat} {Hc : AH} {nx i : Nat} {b : Blk} {H : AH} (h : Hc.get (ρ i) = some (b.ren ρ)) (k : haveV ρ Hc nx H) : haveV ρ Hc nx ((i, b) :: H) := ⟨.inl ⟨_, h, .inl rfl⟩, k⟩
theorem haveV.nil {ρ : Nat → Nat} {Hc : AH} {nx i E : Nat} {ty : TypeId} {H : AH} (h : nx ≤ ρ i) (k : haveV ρ Hc nx H) : haveV ρ Hc nx ((i, .row E ty []) :: H) := ⟨.inr ⟨⟨_, _, rfl⟩, h⟩, k⟩

/-- A state under other names, what is not named any more forgotten. -/
theorem SW.ren {p n : Nat} {s s2 : AS} (ρ : Nat → Nat) (hρ : ∀ i, i < p → ρ i = i) (hfr : frOk ρ s.fr s2.fr) (hH : haveV ρ s.H s.nx s2.H) (hk : ((s2.H.map Prod.fst).map ρ).Nodup ∧ (s2.H.all fun x => decide (x.1 < s2.nx)) = true ∧ p ≤ s2.nx)
    (hn : frNames (fun i => decide (i < p) || (s2.H.map Prod.fst).contains i) s2.fr = true) (hb : namesAll (fun i => decide (i < p) || (s2.H.map Prod.fst).contains i) s2.H = true) : SW p n s s2 := by
  intro w g a hs
  let ok : Nat → Bool := fun i => decide (i < p) || (s2.H.map Prod.fst).contains i
  let g2 : Gh := ⟨fun i => if ok i = true then g.φ (ρ i) else none, g.I⟩
  have okφ : ∀ i, ok i = true → g2.φ i = g.φ (ρ i) := fun i hi => if_pos hi
  have un : ∀ id q, ok id = true → g.φ (ρ id) = some q → g2.φ id = some q := fun id q hi h => by rw [okφ id hi]; exact h
  have okmem : ∀ id, id ∈ s2.H.map Prod.fst → ok id = true := fun id h => by
    show (decide (id < p) || (s2.H.map Prod.fst).contains id) = true
    rw [Bool.or_eq_true]; exact .inr (by simpa using h)
  have hmem : ∀ id B, s2.H.get id = some B → id ∈ s2.H.map Prod.fst ∧ B.names ok = true ∧ ((∃ b0, s.H.get (ρ id) = some b0 ∧ BLe b0 (B.ren ρ)) ∨ ((∃ E ty, B = .row E ty []) ∧ g2.φ id = none)) := fun id B hB => by
    have hm := get_mem hB
    have h1 := List.mem_map_of_mem (f := Prod.fst) hm
    refine ⟨h1, namesAll.mem hb _ hm, ?_⟩
    rcases hH.mem _ hm with h | ⟨h2, h3⟩
    · exact .inl h
    · exact .inr ⟨h2, by rw [okφ id (okmem id h1)]; exact hs.nx _ h3⟩
  have inj : ∀ {i j : Nat}, i ∈ s2.H.map Prod.fst → j ∈ s2.H.map Prod.fst → ρ i = ρ j → i = j := fun hi hj e => nodup_inj hk.1 hi hj e
  refine ⟨g2, ⟨fun id hid => ?_, fun b h => ⟨h, rfl⟩, fun b cs ty fz h => ⟨cs, h, rfl⟩, Ext.refl w g s.H, fun id B b E hi hb' hlt => ?_, fun b h _ => .inl h⟩, ⟨⟨hs.fr.size, fun t => ?_⟩, ⟨fun id B hB => ?_, fun i j b E E' A B hi hj h1 h2 => ?_, fun i b E B hi h1 => ?_, hs.H.lt, hs.H.gl⟩, fun id hid => ?_⟩⟩
  · rw [okφ id (by show (decide (id < p) || _) = true; simp [hid]), hρ id hid]
  · obtain ⟨h1, h2, h3⟩ := hmem id B hi
    rcases h3 with ⟨b0, h3, _⟩ | ⟨_, h3⟩
    · rw [okφ id (okmem id h1)] at hb'
      exact ⟨ρ id, _, E, h3, hb'⟩
    · rw [h3] at hb'; cases hb'
  · exact ((hfr.get t).cle w g _ (hs.fr.at_ t)).unren (ρ := ρ) (ok := ok) (g' := g2) (fun _ h => h) un (frNames.get hn t) rfl
  · obtain ⟨h1, h2, h3⟩ := hmem id B hB
    rcases h3 with ⟨b0, h3, hle⟩ | ⟨⟨E, ty, rfl⟩, h3⟩
    · exact Blk.Rel.unren (ρ := ρ) (ok := ok) (g := g) (g' := g2) (fun _ h => h) un (okmem id h1) (fun h => by rw [okφ id (okmem id h1)]; exact h) h2 (hle.rel (hs.H.rel _ _ h3))
    · refine ⟨fun e he => ?_, .inl ⟨h3, rfl⟩⟩
      cases he
  · obtain ⟨a1, a2, a3⟩ := hmem i A hi
    obtain ⟨b1, b2, b3⟩ := hmem j B hj
    rcases a3 with ⟨a0, a3, _⟩ | ⟨_, a3⟩
    · rcases b3 with ⟨b0, b3, _⟩ | ⟨_, b3⟩
      · rw [okφ i (okmem i a1)] at h1
        rw [okφ j (okmem j b1)] at h2
        exact inj a1 b1 (hs.H.apart _ _ _ _ _ _ _ a3 b3 h1 h2)
      · rw [b3] at h2; cases h2
    · rw [a3] at h1; cases h1
  · obtain ⟨a1, a2, a3⟩ := hmem i B hi
    rcases a3 with ⟨a0, a3, _⟩ | ⟨_, a3⟩
    · rw [okφ i (okmem i a1)] at h1
      exact hs.H.imm _ _ _ _ a3 h1
    · rw [a3] at h1; cases h1
  · refine if_neg ?_
    intro h
    have h : (decide (id < p) || (s2.H.map Prod.fst).contains id) = true := h
    rw [Bool.or_eq_true] at h
    rcases h with h | h
    · have := of_decide_eq_true h; have := hk.2.2; omega
    · have hm : id ∈ s2.H.map Prod.fst := by simpa using h
      obtain ⟨x, hx, rfl⟩ := List.mem_map.1 hm
      have := List.all_eq_true.1 hk.2.1 x hx
      have := of_decide_eq_true this
      omega
/-- What a function gives, told with less, under other names. -/
def FinS (T : TT) (fn : Func) (p : Nat) (v : AV) (H : AH) (e : Exit) (s : AS) : Prop := ∃ s2, SW p fn.ntmps s s2 ∧ FinK T fn v H e s2
theorem AFun.of_S {P : Program} {T : TT} (hT : T.Ok P) {p : Nat} (hm : P.follows .mixedOrders = true) {f : FuncId} {fn : Func} {c : Code} {vs : List AV} {H H' : AH} {v : AV} (hf : P.funcs[f]? = some fn) (hb : fn.body = some c) (hn : vs.length ≤ fn.ntmps) (hB : H.all (fun x => decide (x.1 < p)) = true)
    (h : V P T p fn.ntmps c ⟨argFr vs 0, H, p⟩ (FinS T fn p v H')) : AFun P f p vs H v H' := by
  obtain ⟨e, s', h1, _, s2, hw, he, ⟨rv, hr, hv⟩, hH⟩ := V_sound hT hm c _ _ h (HB.of_all hB)
  exact (AFun.of_body hT hf hb hn he (h1.post hw) hr hv rfl).forget hH.get
theorem LoopN.weak {P : Program} {p n : Nat} {c : Code} {s s1 : AS} {K : Exit → AS → Prop} (hw : SW p n s s1) (h : LoopN P p n c s1 K) : LoopN P p n c s K := by
  obtain ⟨e, s', h1, h2, h3⟩ := h
  exact ⟨e, s', .weak hw h1, h2, h3⟩
/-- A loop by induction: S i is the state at the head of a round, m i what gets less. -/
theorem LoopN.ind {P : Program} {T : TT} (hT : T.Ok P) (hm : P.follows .mixedOrders = true) {p n : Nat} {c : Code} {K : Exit → AS → Prop} {ι : Type} (S : ι → AS) (m : ι → Nat) (I : ι → Prop) (hB : ∀ i, ((S i).H.all fun x => decide (x.1 < (S i).nx)) = true)
    (h : ∀ i, I i → (∀ j, I j → m j < m i → LoopN P p n c (S j) K) → V P T p n c (S i) fun e s1 => match e with
      | .normal => LoopN P p n c s1 K
      | e => Ck (s1.H.all fun x => decide (x.1 < s1.nx)) (K e s1)) : ∀ i, I i → LoopN P p n c (S i) K := by
  have key : ∀ (k : Nat) (i : ι), m i < k → I i → LoopN P p n c (S i) K := by
    intro k
    induction k with
    | zero => intro i hi; omega
    | succ k ih => intro i hi hI; exact LoopN.round hT hm (hB i) (h i hI fun j hj hlt => ih j (by omega) hj)
  exact fun i hI => key (m i + 1) i (by omega) hI

/-! ### Rows that are never written again -/
mutual
/-- Slices of the rows F read as what they hold. -/
def AV.frz (H : AH) (F : Nat → Bool) : AV → AV
  | .slm fl id E off len => if F id then (match H.get id with | some (.row _ _ es) => .ro fl E ((es.drop off).take len) | _ => .unk) else .slm fl id E off len
  | .when b v => .when b (v.frz H F)
  | .agg cs => .agg (AV.frzL H F cs)
  | .tup cs => .tup (AV.frzL H F cs)
  | .clo f cs k => .clo f (AV.frzL H F cs) k
  | .yl l r ks cs => .yl l r ks (AV.frzL H F cs)
  | .unk => .unk
  | .sc v => .sc v
  | .rp e o => .rp e o
  | .ptr id E i o => if F id then (match H.get id with | some (.row _ _ es) => .rp (es.getD i .unk) o | _ => .unk) else .ptr id E i o
  | .ro f E es => .ro f E es
  | .fr v => .fr v
  | .mp id => .mp id
def AV.frzL (H : AH) (F : Nat → Bool) : List AV → List AV
  | [] => []
  | v :: l => v.frz H F :: AV.frzL H F l
end
mutual
def AV.frzOk (H : AH) (F : Nat → Bool) : AV → Bool
  | .slm fl id E off len => !F id || (match H.get id with | some (.row E' _ es) => E' == E && decide (off + len ≤ es.length) | _ => false)
  | .when b v => v.frzOk H F
  | .agg cs | .tup cs | .clo _ cs _ | .yl _ _ _ cs => AV.frzOkL H F cs
  | .ptr id E i o => !F id || (match H.get id with | some (.row E' _ es) => E' == E && decide (i < es.length) | _ => false)
  | .unk | .sc _ | .rp .. | .ro .. | .mp _ | .fr _ => true
def AV.frzOkL (H : AH) (F : Nat → Bool) : List AV → Bool
  | [] => true
  | v :: l => v.frzOk H F && AV.frzOkL H F l
end
theorem frzL_map (H : AH) (F : Nat → Bool) : ∀ l : List AV, AV.frzL H F l = l.map (AV.frz H F)
  | [] => rfl
  | v :: l => by simp [AV.frzL, frzL_map H F l]
theorem frzOkL_all (H : AH) (F : Nat → Bool) : ∀ l : List AV, AV.frzOkL H F l = l.all (AV.frzOk H F)
  | [] => rfl
  | v :: l => by simp [AV.frzOkL, frzOkL_all H F l]
theorem ren_id : ∀ v : AV, v.ren id = v := fun v => AV.rec (motive_1 := fun v => v.ren id = v) (motive_2 := fun l => AV.renL id l = l) rfl (fun b v h => by simp [AV.ren, h]) (fun v => rfl) (fun _ _ _ _ => rfl) (fun _ _ _ => rfl) (fun _ _ _ _ _ => rfl) (fun _ _ _ _ => rfl)
      (fun cs h => by simp [AV.ren, h]) (fun cs h => by simp [AV.ren, h]) (fun f cs k h => by simp [AV.ren, h]) (fun _ => rfl) (fun _ _ _ cs h => by simp [AV.ren, h]) (fun _ _ => rfl) rfl (fun v l h1 h2 => by simp [AV.renL, h1, h2]) v
theorem Cv.nameless {w : World} {g g' : Gh} {v : AV} {x : Value} (hn : v.names (fun _ => false) = true) (hI : ∀ b, g.I b → g'.I b) (h : Cv w g v x) : Cv w g' v x :=
  h.unren (ρ := id) (ok := fun _ => false) hI (fun _ _ h => by cases h) hn (ren_id v)
theorem nameless_cells {v : AV} (hn : v.names (fun _ => false) = true) : ∀ c ∈ v.cells, c.names (fun _ => false) = true := names_cells hn

/-- A frozen row: it is owned, of plain data. -/
def rowsOk (H : AH) (F : List Nat) : Bool := F.all fun id => match H.get id with | some (.row _ _ es) => AV.namesL (fun _ => false) es | _ => false

/-- The ghost behind a freeze. -/
def Gh.frz (g : Gh) (F : Nat → Bool) : Gh := ⟨g.φ, fun b => g.I b ∨ ∃ id E, F id = true ∧ g.φ id = some (b, E)⟩
def AH.frz (H : AH) (H0 : AH) (F : Nat → Bool) : AH := match H with
  | [] => []
  | (i, b) :: l => if F i then AH.frz l H0 F else (i, match b with | .row E ty es => .row E ty (AV.frzL H0 F es) | .map ck kv => .map ck (kv.map fun x => (x.1, x.2.frz H0 F))) :: AH.frz l H0 F
def AH.frzOk (H : AH) (H0 : AH) (F : Nat → Bool) : Bool := match H with
  | [] => true
  | (i, b) :: l => (F i || match b with | .row E ty es => AV.frzOkL H0 F es | .map _ kv => kv.all fun x => x.2.frzOk H0 F) && AH.frzOk l H0 F
def Blk.frz (H0 : AH) (F : Nat → Bool) : Blk → Blk
  | .row E ty es => .row E ty (AV.frzL H0 F es)
  | .map ck kv => .map ck (kv.map fun x => (x.1, x.2.frz H0 F))
def Blk.frzOk (H0 : AH) (F : Nat → Bool) : Blk → Bool
  | .row E ty es => AV.frzOkL H0 F es
  | .map _ kv => kv.all fun x => x.2.frzOk H0 F
theorem AH.frz_get {H H0 : AH} {F : Nat → Bool} {id : Nat} {B : Blk} (h : (AH.frz H H0 F).get id = some B) (hok : AH.frzOk H H0 F = true) : F id = false ∧ ∃ B0, H.get id = some B0 ∧ B = B0.frz H0 F ∧ B0.frzOk H0 F = true := by
  induction H with
  | nil => cases h
  | cons q H ih =>
    obtain ⟨i, b⟩ := q
    simp only [AH.frz] at h
    simp only [AH.frzOk, Bool.and_eq_true] at hok
    by_cases hF : F i = true
    · rw [if_pos hF] at h
      obtain ⟨h1, B0, h2, h3⟩ := ih h hok.2
      refine ⟨h1, B0, ?_, h3⟩
      simp only [AH.get]
      rw [if_neg (by rintro rfl; rw [h1] at hF; cases hF)]
      exact h2
    · rw [if_neg hF] at h
      simp only [AH.get] at h ⊢
      by_cases e : id = i
      · subst e
        rw [if_pos rfl] at h ⊢
        injection h with h
        refine ⟨by simpa using hF, b, rfl, ?_, ?_⟩
        · rw [← h]; cases b <;> rfl
        · have := hok.1
          simp only [hF, Bool.false_or] at this
          cases b <;> exact this
      · rw [if_neg e] at h ⊢
        exact ih h hok.2
theorem frz_cells (H0 : AH) (F : Nat → Bool) {v : AV} (hok : v.frzOk H0 F = true) : (v.frz H0 F).cells.length = v.cells.length ∧ ∀ (i : Nat) (c : AV), (v.frz H0 F).cells[i]? = some c → ∃ c0, v.cells[i]? = some c0 ∧ c = c0.frz H0 F ∧ c0.frzOk H0 F = true := by
  have one : ∀ {v u : AV}, v.frzOk H0 F = true → v.cells = [v] → u.cells = [u] → u = v.frz H0 F → u.cells.length = v.cells.length ∧ ∀ (i : Nat) (c : AV), u.cells[i]? = some c → ∃ c0, v.cells[i]? = some c0 ∧ c = c0.frz H0 F ∧ c0.frzOk H0 F = true := by
    intro v u hv h1 h2 h3
    rw [h1, h2]
    refine ⟨rfl, fun i c hc => ?_⟩
    cases i with
    | zero => simp at hc; subst hc; exact ⟨v, rfl, h3, hv⟩
    | succ i => simp at hc
  cases v with
  | agg cs =>
    simp only [AV.frz, AV.cells, frzL_map, List.length_map, List.getElem?_map, true_and]
    intro i c hc
    obtain ⟨d, hd, rfl⟩ := Option.map_eq_some_iff.1 hc
    simp only [AV.frzOk, frzOkL_all] at hok
    exact ⟨d, hd, rfl, List.all_eq_true.1 hok d (List.mem_of_getElem? hd)⟩
  | unk => exact ⟨rfl, fun i c hc => by simp [AV.frz, AV.cells] at hc⟩
  | when b v => exact ⟨rfl, fun i c hc => by simp [AV.frz, AV.cells] at hc⟩
  | slm fl id E off len =>
    refine one hok rfl ?_ rfl
    simp only [AV.frz]
    split
    · rename_i hF
      simp only [AV.frzOk, hF, Bool.not_true, Bool.false_or] at hok
      split at hok
      · rfl
      · cases hok
    · rfl
  | ptr id E i o =>
    refine one hok rfl ?_ rfl
    simp only [AV.frz]
    split
    · rename_i hF
      simp only [AV.frzOk, hF, Bool.not_true, Bool.false_or] at hok
      split at hok
      · rfl
      · cases hok
    · rfl
  | _ => exact one hok rfl rfl rfl

theorem frz_cv {w : World} {g : Gh} {H0 : AH} (hH : HRel w g H0) {F : Nat → Bool} (hrows : ∀ id B, H0.get id = some B → F id = true → ∃ E ty es, B = .row E ty es ∧ AV.namesL (fun _ => false) es = true) {v : AV} {x : Value} (h : Cv w g v x) : v.frzOk H0 F = true → Cv w (g.frz F) (v.frz H0 F) x := by
  have up : ∀ {g : Gh} {c : AV} {y : Value}, Cv w g c y → Cv w (g.frz F) c y := fun h => h.I_mono (g' := Gh.frz _ F) (fun b h => .inl h) (fun _ _ h => h)
  have lst : ∀ {l cs : List AV} {xs : Array Value}, AV.frzOkL H0 F l = true → l.length = xs.size → (∀ (i : Nat) (c : AV) (y : Value), l[i]? = some c → xs[i]? = some y → c.frzOk H0 F = true → Cv w (g.frz F) (c.frz H0 F) y) → cs = AV.frzL H0 F l → cs.length = xs.size ∧ ∀ (i : Nat) (c : AV) (y : Value), cs[i]? = some c → xs[i]? = some y → Cv w (g.frz F) c y := by
    intro l cs xs hok hl ih hcs
    subst hcs
    rw [frzL_map]
    refine ⟨by simpa using hl, fun i c y hi hy => ?_⟩
    rw [List.getElem?_map] at hi
    obtain ⟨d, hd, rfl⟩ := Option.map_eq_some_iff.1 hi
    rw [frzOkL_all] at hok
    exact ih i d y hd hy (List.all_eq_true.1 hok d (List.mem_of_getElem? hd))
  have row : ∀ {fl : Fl} {id E off len : Nat}, F id = true → AV.frzOk H0 F (.slm fl id E off len) = true → ∃ ty es, H0.get id = some (.row E ty es) ∧ off + len ≤ es.length ∧ AV.namesL (fun _ => false) es = true ∧ AV.frz H0 F (.slm fl id E off len) = .ro fl E ((es.drop off).take len) := by
    intro fl id E off len hF hok
    simp only [AV.frzOk, hF, Bool.not_true, Bool.false_or] at hok
    split at hok
    · rename_i E' ty es hg
      simp only [Bool.and_eq_true, beq_iff_eq, decide_eq_true_eq] at hok
      obtain ⟨rfl, hlen⟩ := hok
      obtain ⟨_, _, _, hB, hn⟩ := hrows id _ hg hF
      injection hB with _ _ hes
      subst hes
      exact ⟨ty, _, hg, hlen, hn, by simp only [AV.frz, hF, if_true, hg]⟩
    · cases hok
  induction h with
  | unk v => intro _; exact .unk _
  | when _ ih => intro hok; exact .when fun hb => ih hb hH @lst hok
  | sc v h => intro _; exact .sc v h
  | @ptr g id idx off b E h =>
    intro hok
    by_cases hF : F id = true
    · simp only [AV.frzOk, hF, Bool.not_true, Bool.false_or] at hok
      split at hok
      · rename_i E' ty es hg
        simp only [Bool.and_eq_true, beq_iff_eq, decide_eq_true_eq] at hok
        obtain ⟨rfl, hlen⟩ := hok
        obtain ⟨_, _, _, hB, hn⟩ := hrows id _ hg hF
        injection hB with _ _ hes
        subst hes
        have he : AV.frz H0 F (.ptr id E' idx off) = .rp (es.getD idx .unk) off := by simp only [AV.frz, hF, if_true, hg]
        rw [he]
        obtain ⟨hE, hr⟩ := hH.rel _ _ hg
        rcases hr with ⟨hr1, _⟩ | ⟨b', cs', e1, e2, e3, e4⟩
        · rw [h] at hr1; cases hr1
        · rw [h] at e1; injection e1 with e1; injection e1 with e1 _; subst e1
          have hes : es[idx]? = some (es.getD idx .unk) := by rw [List.getD_eq_getElem?_getD, List.getElem?_eq_getElem hlen]; rfl
          let X : Nat → Value := fun j => (w.cell? ⟨b, idx * E' + j, none⟩).getD undef
          have key : ∀ (j : Nat) (c : AV), (es.getD idx .unk).cells[j]? = some c → w.cell? ⟨b, idx * E' + j, none⟩ = some (X j) ∧ Cv w (g.frz F).base c (X j) := by
            intro j c hj
            obtain ⟨x, hx, hc⟩ := e4 idx j _ c hes hj
            have hcell : w.cell? ⟨b, idx * E' + j, none⟩ = some x := by
              unfold World.cell?
              simp only [e2]
              simp only [Option.isSome_none, Bool.false_eq_true, if_false]
              exact hx
            have hX : X j = x := by show (w.cell? _).getD _ = _; rw [hcell]; rfl
            rw [hX]
            refine ⟨hcell, Cv.nameless (g := g) (g' := (g.frz F).base) ?_ (fun b h => .inl h) hc⟩
            rw [namesL_all] at hn
            exact nameless_cells (List.all_eq_true.1 hn _ (List.mem_of_getElem? hes)) c (List.mem_of_getElem? hj)
          exact .rp X (.inr ⟨id, E', hF, h⟩) (fun j c hj => (key j c hj).1) fun j c hj => (key j c hj).2
      · cases hok
    · simp only [AV.frz, hF]
      exact .ptr h
  | rp X h1 h2 h3 _ => intro _; exact .rp X (.inl h1) h2 fun j c hj => (h3 j c hj).I_mono (g := Gh.base _) (g' := Gh.base _) (fun b h => .inl h) (fun _ _ h => by cases h)
  | @slz g fl id E off a h =>
    intro hok
    by_cases hF : F id = true
    · obtain ⟨ty, es, hg, hlen, hn, he⟩ := row hF hok
      rw [he, List.take_zero]
      exact .roz (fun _ => rfl) (fun _ => rfl) h
    · simp only [AV.frz, hF]
      exact .slz h
  | @slm g fl id off len b E cap cs ty fz h1 h0 h2 h3 h4 =>
    intro hok
    by_cases hF : F id = true
    · obtain ⟨ty', es, hg, hlen, hn, he⟩ := row hF hok
      rw [he]
      obtain ⟨hE, hr⟩ := hH.rel _ _ hg
      rcases hr with ⟨hr1, _⟩ | ⟨b', cs', e1, e2, e3, e4⟩
      · rw [h1] at hr1; cases hr1
      · rw [h1] at e1; injection e1 with e1; injection e1 with e1 _; subst e1
        rw [h3] at e2; injection e2 with e2; injection e2 with e2 _ _; subst e2
        have hl : ((es.drop off).take len).length = len := by rw [List.length_take, List.length_drop]; omega
        let X : Nat → Nat → Value := fun i j => (w.cell? ⟨b, off * E + i * E + j, none⟩).getD undef
        have key : ∀ (i j : Nat) (e c : AV), ((es.drop off).take len)[i]? = some e → e.cells[j]? = some c → w.cell? ⟨b, off * E + i * E + j, none⟩ = some (X i j) ∧ Cv w (g.frz F).base c (X i j) := by
          intro i j e c hi hj
          have hi' : es[off + i]? = some e := by
            rw [List.getElem?_take] at hi
            split at hi
            · rwa [List.getElem?_drop] at hi
            · cases hi
          obtain ⟨x, hx, hc⟩ := e4 (off + i) j e c hi' hj
          have hcell : w.cell? ⟨b, off * E + i * E + j, none⟩ = some x := by
            unfold World.cell?
            simp only [h3]
            simp only [Option.isSome_none, Bool.false_eq_true, if_false]
            rw [← Nat.add_mul]; exact hx
          have hX : X i j = x := by show (w.cell? _).getD _ = _; rw [hcell]; rfl
          rw [hX]
          refine ⟨hcell, Cv.nameless (g := g) (g' := (g.frz F).base) ?_ (fun b h => .inl h) hc⟩
          rw [namesL_all] at hn
          exact nameless_cells (List.all_eq_true.1 hn e (List.mem_of_getElem? hi')) c (List.mem_of_getElem? hj)
        have := Cv.ro (w := w) (g := g.frz F) (fl := fl) (E := E) (es := (es.drop off).take len) (b := b) (o := off * E) (cap := cap) X (.inr ⟨id, E, hF, h1⟩) (by omega) (fun h => by rw [hl]; exact h0 h)
          (fun e he => hE e (List.mem_of_mem_drop (List.mem_of_mem_take he))) (fun i j e c hi hj => (key i j e c hi hj).1) (fun i j e c hi hj => (key i j e c hi hj).2)
        rwa [hl] at this
    · simp only [AV.frz, hF]
      exact .slm h1 h0 h2 h3 h4
  | roz h1 h2 h3 => intro _; exact .roz h1 h2 h3
  | ro X h1 h2 h3 h4 h5 h6 _ => intro _; exact .ro X (.inl h1) h2 h3 h4 h5 fun i j e c hi hj => (h6 i j e c hi hj).I_mono (g := Gh.base _) (g' := Gh.base _) (fun b h => .inl h) (fun _ _ h => by cases h)
  | agg h _ ih =>
    intro hok
    obtain ⟨a, b⟩ := lst hok h (fun i c y hi hy hc => ih i c y hi hy hH @lst hc) rfl
    exact .agg a b
  | tup h _ ih =>
    intro hok
    obtain ⟨a, b⟩ := lst hok h (fun i c y hi hy hc => ih i c y hi hy hH @lst hc) rfl
    exact .tup a b
  | clo hk h _ ih =>
    intro hok
    obtain ⟨a, b⟩ := lst hok h (fun i c y hi hy hc => ih i c y hi hy hH @lst hc) rfl
    exact .clo hk a b
  | mp h => intro _; exact .mp h
  | fr hx h _ => intro _; exact .fr hx (h.new_mono fun b hb => .inl hb)
  | old hx h _ => intro _; exact .old hx (h.old_mono fun b hb => .inl hb)
  | @yl g l r ks cs h1 h2 h3 hc ih =>
    intro hok
    simp only [AV.frz, frzL_map]
    refine .yl (.inl h1) h2 (by simpa using h3) fun i k c hi hc' => ?_
    rw [List.getElem?_map] at hc'
    obtain ⟨d, hd, rfl⟩ := Option.map_eq_some_iff.1 hc'
    simp only [AV.frzOk, frzOkL_all] at hok
    exact ih i k d hi hd hH @lst (List.all_eq_true.1 hok d (List.mem_of_getElem? hd))

theorem rowsOk.rows {H : AH} {F : List Nat} (h : rowsOk H F = true) : ∀ id B, H.get id = some B → F.contains id = true → ∃ E ty es, B = .row E ty es ∧ AV.namesL (fun _ => false) es = true := by
  intro id B hB hF
  have := List.all_eq_true.1 h id (by simpa using hF)
  rw [hB] at this
  cases B with
  | row E ty es => exact ⟨E, ty, es, rfl, this⟩
  | map ck kv => cases this
theorem HRel.frz {w : World} {g : Gh} {H : AH} (hH : HRel w g H) {F : List Nat} (hrows : rowsOk H F = true) (hok : AH.frzOk H H F.contains = true) : HRel w (g.frz F.contains) (AH.frz H H F.contains) := by
  have hr := rowsOk.rows hrows
  refine ⟨fun id B hB => ?_, fun i j b E E' A B hi hj h1 h2 => ?_, fun i b E B hi h1 hI => ?_, fun b hI => ?_, hH.gl.mono fun b h => ⟨.inl h, rfl⟩⟩
  · obtain ⟨hF, B0, h1, rfl, h2⟩ := AH.frz_get hB hok
    have h3 := hH.rel id B0 h1
    cases B0 with
    | row E ty es =>
      obtain ⟨hE, hr'⟩ := h3
      simp only [Blk.frzOk, frzOkL_all] at h2
      have at_ : ∀ (i j : Nat) (e c : AV), (AV.frzL H F.contains es)[i]? = some e → e.cells[j]? = some c → ∃ e0 c0, es[i]? = some e0 ∧ e0.cells[j]? = some c0 ∧ c = c0.frz H F.contains ∧ c0.frzOk H F.contains = true := by
        intro i j e c hi hj
        rw [frzL_map, List.getElem?_map] at hi
        obtain ⟨e0, he0, rfl⟩ := Option.map_eq_some_iff.1 hi
        obtain ⟨c0, q1, q2, q3⟩ := (frz_cells H F.contains (List.all_eq_true.1 h2 e0 (List.mem_of_getElem? he0))).2 j c hj
        exact ⟨e0, c0, he0, q1, q2, q3⟩
      refine ⟨fun e he => ?_, ?_⟩
      · rw [frzL_map] at he
        obtain ⟨e0, he0, rfl⟩ := List.mem_map.1 he
        rw [(frz_cells H F.contains (List.all_eq_true.1 h2 e0 he0)).1]
        exact hE e0 he0
      · rcases hr' with ⟨a, rfl⟩ | ⟨b, cs, e1, e2, e3, e4⟩
        · exact .inl ⟨a, rfl⟩
        · refine .inr ⟨b, cs, e1, e2, by rw [frzL_map]; simpa using e3, fun i j e c hi hj => ?_⟩
          obtain ⟨e0, c0, q1, q2, rfl, q4⟩ := at_ i j e c hi hj
          obtain ⟨x, hx, hc⟩ := e4 i j e0 c0 q1 q2
          exact ⟨x, hx, frz_cv hH hr hc q4⟩
    | map ck kv =>
      obtain ⟨b, en, e1, e2, e3, e4, e5, e6, e7⟩ := h3
      refine ⟨b, en, e1, e2, by simpa using e3, fun i k v e hi he => ?_, e5, e6, by simpa [Function.comp_def] using e7⟩
      rw [List.getElem?_map] at hi
      obtain ⟨u, hu, he'⟩ := Option.map_eq_some_iff.1 hi
      injection he' with a c
      subst a c
      obtain ⟨hk, hv⟩ := e4 i u.1 u.2 e hu he
      simp only [Blk.frzOk] at h2
      exact ⟨hk, frz_cv hH hr hv (List.all_eq_true.1 h2 u (List.mem_of_getElem? hu))⟩
  · obtain ⟨_, A0, a1, _, _⟩ := AH.frz_get hi hok
    obtain ⟨_, B0, b1, _, _⟩ := AH.frz_get hj hok
    exact hH.apart i j b E E' A0 B0 a1 b1 h1 h2
  · obtain ⟨hF, B0, b1, _, _⟩ := AH.frz_get hi hok
    rcases hI with hI | ⟨id, E', hid, hφ⟩
    · exact hH.imm i b E B0 b1 h1 hI
    · have := List.all_eq_true.1 hrows id (by simpa using hid)
      cases hg : H.get id with
      | none => rw [hg] at this; cases this
      | some B1 =>
        have := hH.apart i id b E E' B0 B1 b1 hg h1 hφ
        subst this
        rw [hF] at hid; cases hid
  · rcases hI with hI | ⟨id, E', hid, hφ⟩
    · exact hH.lt b hI
    · have := List.all_eq_true.1 hrows id (by simpa using hid)
      cases hg : H.get id with
      | none => rw [hg] at this; cases this
      | some B1 => exact (hH.rel id B1 hg).lt hφ
/-- A function's contract, rows that it gives never written again. -/
theorem AFun.frz {P : Program} {f : FuncId} {p : Nat} {vs : List AV} {H H1 : AH} {v : AV} (F : List Nat) (h : AFun P f p vs H v H1) (hrows : rowsOk H1 F = true) (hok : AH.frzOk H1 H1 F.contains = true) (hv : v.frzOk H1 F.contains = true) : AFun P f p vs H (v.frz H1 F.contains) (AH.frz H1 H1 F.contains) := fun w g xs hl hx hH hN =>
  (h w g xs hl hx hH hN).mono fun e w' ⟨x, g', he, hA, hc, hH'⟩ => ⟨x, g'.frz F.contains, he, ⟨hA.φ, fun b hb => ⟨.inl (hA.I b hb).1, (hA.I b hb).2⟩, hA.sz, hA.ext, fun id B b E hi hb hlt => by
    obtain ⟨_, B0, b1, _, _⟩ := AH.frz_get hi hok
    exact hA.own id B0 b E b1 hb hlt, fun b hb hlt => by
    rcases hb with hb | ⟨id, E, hid, hφ⟩
    · exact hA.imm b hb hlt
    · have := List.all_eq_true.1 hrows id (by simpa using hid)
      cases hg : H1.get id with
      | none => rw [hg] at this; cases this
      | some B1 => exact .inr (hA.own id B1 b E hg hφ hlt)⟩, frz_cv hH' (rowsOk.rows hrows) hc hv, HRel.frz hH' hrows hok⟩
theorem AFun.cast {P : Program} {f : FuncId} {p : Nat} {vs : List AV} {H H1 H' : AH} {v v' : AV} (h : AFun P f p vs H v H1) (hv : v = v') (hH : H1 = H') : AFun P f p vs H v' H' := by subst hv hH; exact h
/-- A row that is given, never written again. -/
theorem AFun.frz1 {P : Program} {f : FuncId} {p : Nat} {vs : List AV} {H : AH} {fl : Fl} {id E len : Nat} {ty : TypeId} {es : List AV} (h : AFun P f p vs H (.slm fl id E 0 len) (H ++ [(id, .row E ty es)])) (hid : (H.map Prod.fst).contains id = false) (hp : AV.namesL (fun _ => false) es = true) (hl : len = es.length) : AFun P f p vs H (.ro fl E es) H := by
  have hg : AH.get (H ++ [(id, Blk.row E ty es)]) id = some (.row E ty es) := by
    have : ∀ l : AH, (l.map Prod.fst).contains id = false → AH.get (l ++ [(id, Blk.row E ty es)]) id = some (.row E ty es) := by
      intro l
      induction l with
      | nil => intro _; simp [AH.get]
      | cons q l ih =>
        intro hc
        obtain ⟨i, b⟩ := q
        simp only [List.map_cons, List.contains_cons, Bool.or_eq_false_iff, beq_eq_false_iff_ne] at hc
        simp only [List.cons_append, AH.get]
        rw [if_neg hc.1]
        exact ih hc.2
    exact this H hid
  intro w g xs hl' hx hH hN
  refine (h w g xs hl' hx hH hN).mono fun e w' ⟨x, g', he, hA, hc, hH'⟩ => ?_
  have hrows : ∀ id' B, AH.get (H ++ [(id, Blk.row E ty es)]) id' = some B → (fun i => i == id) id' = true → ∃ E ty es, B = .row E ty es ∧ AV.namesL (fun _ => false) es = true := by
    intro id' B hB hF
    simp at hF; subst hF
    rw [hg] at hB; injection hB with hB; subst hB
    exact ⟨E, ty, es, rfl, hp⟩
  have hcv := frz_cv hH' (F := fun i => i == id) hrows hc (by simp [AV.frzOk, hg, hl])
  have hval : AV.frz (H ++ [(id, Blk.row E ty es)]) (fun i => i == id) (.slm fl id E 0 len) = .ro fl E es := by
    simp [AV.frz, hg, hl]
  rw [hval] at hcv
  have sub : ∀ i B, H.get i = some B → AH.get (H ++ [(id, Blk.row E ty es)]) i = some B := by
    intro i B
    have : ∀ l : AH, l.get i = some B → AH.get (l ++ [(id, Blk.row E ty es)]) i = some B := by
      intro l
      induction l with
      | nil => intro h; cases h
      | cons q l ih =>
        obtain ⟨j, b⟩ := q
        simp only [List.cons_append, AH.get]
        split
        · exact fun h => h
        · exact ih
    exact this H
  have hne : ∀ i B, H.get i = some B → i ≠ id := by
    rintro i B hB rfl
    have := List.mem_map_of_mem (f := Prod.fst) (get_mem hB)
    simp [List.contains_eq_mem, this] at hid
  refine ⟨x, g'.frz fun i => i == id, he, ⟨hA.φ, fun b hb => ⟨.inl (hA.I b hb).1, (hA.I b hb).2⟩, hA.sz, hA.ext, fun i B b E hi hb hlt => hA.own i B b E (sub i B hi) hb hlt, fun b hb hlt => ?_⟩, hcv, ⟨fun i B hB => ?_, fun i j b E E' A B hi hj => hH'.apart i j b E E' A B (sub i A hi) (sub j B hj), fun i b E' B hi h1 hI => ?_, fun b hI => ?_, hH'.gl.mono fun b h => ⟨.inl h, rfl⟩⟩⟩
  · rcases hb with hb | ⟨id', E', hid', hφ⟩
    · exact hA.imm b hb hlt
    · have : id' = id := by simpa using hid'
      subst this
      exact .inr (hA.own id' _ b E' hg hφ hlt)
  · have h3 := hH'.rel i B (sub i B hB)
    have upc : ∀ {c : AV} {y : Value}, Cv w' g' c y → Cv w' (g'.frz fun i => i == id) c y := fun h => h.I_mono (g' := Gh.frz _ _) (fun b h => .inl h) (fun _ _ h => h)
    cases B with
    | row E ty es =>
      obtain ⟨a, b⟩ := h3
      refine ⟨a, ?_⟩
      rcases b with b | ⟨bb, cs, e1, e2, e3, e4⟩
      · exact .inl b
      · refine .inr ⟨bb, cs, e1, e2, e3, fun i j e c hi hj => ?_⟩
        obtain ⟨x, hx, hc⟩ := e4 i j e c hi hj
        exact ⟨x, hx, upc hc⟩
    | map ck kv =>
      obtain ⟨b, en, e1, e2, e3, e4, e5⟩ := h3
      exact ⟨b, en, e1, e2, e3, fun i k v e hi he => ⟨(e4 i k v e hi he).1, upc (e4 i k v e hi he).2⟩, e5⟩
  · rcases hI with hI | ⟨id', E'', hid', hφ⟩
    · exact hH'.imm i b E' B (sub i B hi) h1 hI
    · have : id' = id := by simpa using hid'
      subst this
      exact hne i B hi (hH'.apart i id' b E' E'' B _ (sub i B hi) hg h1 hφ)
  · rcases hI with hI | ⟨id', E', hid', hφ⟩
    · exact hH'.lt b hI
    · have : id' = id := by simpa using hid'
      subst this
      exact (hH'.rel id' _ hg).lt hφ
end Go.Proofs.Ytjnmbmdplchfkaa.Am
