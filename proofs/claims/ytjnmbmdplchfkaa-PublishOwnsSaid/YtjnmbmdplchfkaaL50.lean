/- publish: parts of the proof, DpublishVB DpublishVC DpublishPX DpublishPY DpublishPZ DpublishQA DpublishQB DpublishQC. -/
import Derived.Test.YtjnmbmdplchfkaaL45
import Derived.Test.YtjnmbmdplchfkaaAmGR
import Derived.Test.YtjnmbmdplchfkaaL43
set_option linter.all false
namespace Go.Proofs.Ytjnmbmdplchfkaa
open Go.Proofs.Ytjnmbmdplchfkaa.Am
set_option maxRecDepth 100000
variable [Lo]
namespace Pb
/-! ### spoil: it changes numbers in its tree alone -/
/-- A list of courses in S. -/
def ShS (S : Nat → Prop) (w : World) (s : Value) : Prop := ∃ (a : Option Addr) (len cap : Nat), s = .slice a len cap ∧ len ≤ 1000 ∧ (len = 0 ∨ ∃ b o, a = some ⟨b, o, none⟩ ∧ S b ∧ ∀ i, i < len → ∃ m, w.cell? ⟨b, o + i * 2, none⟩ = some (.int .i64 m))
/-- A requirement of at most this height, all of it in S. -/
def ShK (S : Nat → Prop) (w : World) : Nat → (Nat → Value) → Prop
  | 0, _ => False
  | K + 1, X => (∃ m, X 0 = .int .i64 m) ∧ (∃ m, X 1 = .int .i64 m) ∧ (∃ m, X 2 = .int .i64 m) ∧ ShS S w (X 3) ∧
    ∃ (a : Option Addr) (len cap : Nat), X 4 = .slice a len cap ∧ len ≤ 1000 ∧ (len = 0 ∨ ∃ b o, a = some ⟨b, o, none⟩ ∧ S b ∧ ∀ i, i < len → ∃ Y : Nat → Value, (∀ j, j < 5 → w.cell? ⟨b, o + i * 5 + j, none⟩ = some (Y j)) ∧ ShK S w K Y)
theorem sim_int {x x' : Value} {m : Int} (h : x' = x ∨ ∃ k m m', x = .int k m ∧ x' = .int k m') (e : x = .int .i64 m) : ∃ m, x' = .int .i64 m := by
  rcases h with rfl | ⟨k, a, b, h1, rfl⟩
  · exact ⟨m, e⟩
  · rw [e] at h1; injection h1 with h1 _; subst h1; exact ⟨b, rfl⟩
theorem sim_slice {x x' : Value} {a : Option Addr} {n c : Nat} (h : x' = x ∨ ∃ k m m', x = .int k m ∧ x' = .int k m') (e : x = .slice a n c) : x' = x := by
  rcases h with rfl | ⟨k, a, b, h1, rfl⟩
  · rfl
  · rw [e] at h1; cases h1
theorem ShS.chg {N : Nat} {S : Nat → Prop} {w w' : World} {s : Value} (hz : InZ S w) (k : ChgN N S w w') (h : ShS S w s) : ShS S w' s := by
  obtain ⟨a, len, cap, e, hl, h⟩ := h
  refine ⟨a, len, cap, e, hl, ?_⟩
  rcases h with h | ⟨b, o, ha, hb, hc⟩
  · exact .inl h
  · refine .inr ⟨b, o, ha, hb, fun i hi => ?_⟩
    obtain ⟨m, hm⟩ := hc i hi
    obtain ⟨x', h1, h2⟩ := k.cell hz hb hm
    obtain ⟨m', e'⟩ := sim_int h2 rfl
    exact ⟨m', by rw [h1, e']⟩
theorem ShK.chg {N : Nat} {S : Nat → Prop} {w w' : World} (hz : InZ S w) (k : ChgN N S w w') : ∀ (K : Nat) (X X' : Nat → Value), ShK S w K X → (∀ j, j < 5 → X' j = X j ∨ ∃ k m m', X j = .int k m ∧ X' j = .int k m') → ShK S w' K X'
  | 0, _, _, h, _ => h.elim
  | K + 1, X, X', h, hX => by
    obtain ⟨⟨m0, e0⟩, ⟨m1, e1⟩, ⟨m2, e2⟩, hs, a, len, cap, e4, hl, h⟩ := h
    have e3 : X' 3 = X 3 := by
      obtain ⟨a, n, c, e, _⟩ := hs
      exact sim_slice (hX 3 (by omega)) e
    refine ⟨sim_int (hX 0 (by omega)) e0, sim_int (hX 1 (by omega)) e1, sim_int (hX 2 (by omega)) e2, by rw [e3]; exact hs.chg hz k, a, len, cap, (sim_slice (hX 4 (by omega)) e4).trans e4, hl, ?_⟩
    rcases h with h | ⟨b, o, ha, hb, hc⟩
    · exact .inl h
    · refine .inr ⟨b, o, ha, hb, fun i hi => ?_⟩
      obtain ⟨Y, h1, h2⟩ := hc i hi
      have hY : ∀ j, ∃ y, j < 5 → w'.cell? ⟨b, o + i * 5 + j, none⟩ = some y ∧ (y = Y j ∨ ∃ k m m', Y j = .int k m ∧ y = .int k m') := fun j => by
        by_cases hj : j < 5
        · obtain ⟨x', g1, g2⟩ := k.cell hz hb (h1 j hj)
          exact ⟨x', fun _ => ⟨g1, g2⟩⟩
        · exact ⟨undef, fun h => absurd h hj⟩
      exact ⟨fun j => (hY j).choose, fun j hj => ((hY j).choose_spec hj).1, ShK.chg hz k K Y _ h2 fun j hj => ((hY j).choose_spec hj).2⟩
/-! What a fresh copy is. -/
theorem shS_of_cv {w : World} {g : Gh} {fl : Fl} {s : List Co} {v : Value} (hn : s.length ≤ 1000) (h : Cv w g (.ro fl 2 (s.map coA)) v) : ShS g.I w v := by
  generalize hes : s.map coA = es at h
  cases h with
  | roz h1 h2 h3 => exact ⟨_, _, _, rfl, Nat.zero_le _, .inl rfl⟩
  | ro X h1 h2 h3 h4 h5 h6 =>
    subst hes
    refine ⟨_, _, _, rfl, by rw [List.length_map]; exact hn, .inr ⟨_, _, rfl, h1, fun i hi => ?_⟩⟩
    rw [List.length_map] at hi
    have hi' : (s.map coA)[i]? = some (coA s[i]) := by rw [List.getElem?_map, List.getElem?_eq_getElem hi]; rfl
    have c1 := h5 i 0 _ _ hi' rfl
    have c2 := (h6 i 0 _ _ hi' rfl).sc_inv
    exact ⟨_, by rw [Nat.add_zero] at c1; rw [c1, c2]⟩
theorem hgt_mem {l : List Nd} {x : Nd} (h : x ∈ l) : x.hgt ≤ Nd.hgtL l := by
  induction l with
  | nil => cases h
  | cons y l ih =>
    rw [Nd.hgtL]
    rcases List.mem_cons.1 h with rfl | h
    · exact Nat.le_max_left _ _
    · exact Nat.le_trans (ih h) (Nat.le_max_right _ _)
theorem shK_of_cv {w : World} : ∀ (K : Nat) (x : Nd), x.hgt ≤ K → x.nodes.length ≤ 1001 → (∀ y ∈ x.nodes, y.set.length ≤ 1000) → ∀ (g : Gh) (X : Nat → Value), (∀ (j : Nat) (c : AV), (nd x).cells[j]? = some c → Cv w g c (X j)) → ShK g.I w K X
  | 0, ⟨k, n, m, s, l⟩, h, _, _ => by rw [Nd.hgt] at h; omega
  | K + 1, ⟨k, n, m, s, l⟩, h, hN, hs => by
    rw [Nd.hgt] at h
    rw [Nd.nodes] at hN hs
    rw [List.length_cons] at hN
    rw [nd_mk]
    intro g X hX
    have hge := nodesL_ge l
    refine ⟨⟨_, (hX 0 _ rfl).sc_inv⟩, ⟨_, (hX 1 _ rfl).sc_inv⟩, ⟨_, (hX 2 _ rfl).sc_inv⟩, shS_of_cv (hs _ (List.mem_cons_self ..)) (hX 3 _ rfl), ?_⟩
    have h4 := hX 4 _ rfl
    generalize hes : l.map nd = es at h4
    generalize X 4 = y at h4
    cases h4 with
    | roz h1 h2 h3 => exact ⟨_, _, _, rfl, Nat.zero_le _, .inl rfl⟩
    | ro Y h1 h2 h3 h4 h5 h6 =>
      subst hes
      refine ⟨_, _, _, rfl, by rw [List.length_map]; omega, .inr ⟨_, _, rfl, h1, fun i hi => ?_⟩⟩
      rw [List.length_map] at hi
      have hi' : (l.map nd)[i]? = some (nd l[i]) := by rw [List.getElem?_map, List.getElem?_eq_getElem hi]; rfl
      have hlen := h4 _ (List.mem_of_getElem? hi')
      refine ⟨fun j => Y i j, fun j hj => ?_, shK_of_cv K l[i] (by have := hgt_mem (List.getElem_mem hi); omega) (by have := nodesL_mem (List.getElem_mem hi); omega) (fun y hy => hs y (List.mem_cons_of_mem _ (nodesL_sub (List.getElem_mem hi) hy))) g.base (fun j => Y i j) fun j c hj => h6 i j _ c hi' hj⟩
      exact h5 i j _ _ hi' (List.getElem?_eq_getElem (by omega))
end Pb
end Go.Proofs.Ytjnmbmdplchfkaa
namespace Go.Proofs.Ytjnmbmdplchfkaa
open Go.Proofs.Ytjnmbmdplchfkaa.Am
set_option maxRecDepth 100000
variable [Lo]
namespace Pb
/-! ### spoil, walked -/
abbrev sl (a : Option Addr) (n c : Nat) : AV := .sc (.slice a n c)
abbrev spH (k n m : Int) (s l : AV) : AH := [(0, .row 5 nty [.agg [int k, int n, int m, s, l]])]
abbrev sp0 (k n m : Int) (s l : AV) : AS := ⟨[(1, .ptr 0 5 0 0)], spH k n m s l, 1⟩
abbrev sp1 (k n m : Int) (s l : AV) (len : Nat) (i : Nat) : AS := ⟨[(1, .ptr 0 5 0 0), (6, int len), (7, int i)], spH k n m s l, 1⟩
abbrev sp2 (k n m : Int) (s l : AV) (len : Nat) (i : Nat) : AS := ⟨[(1, .ptr 0 5 0 0), (18, int len), (19, int i)], spH k n m s l, 1⟩
abbrev sp3 (k n m : Int) (s l : AV) (len : Nat) (i : Nat) : AS := ⟨[(1, .ptr 0 5 0 0), (3, int i), (18, int len), (19, int i)], spH k n m s l, 1⟩
theorem gl_nil {w : World} (g : Gh) (h : Lo.lo ≤ w.heap.size) : Glob w g := ⟨fun x hx => absurd hx List.not_mem_nil, h⟩
theorem ShK.cells {S : Nat → Prop} {w : World} {K : Nat} {X : Nat → Value} (h : ShK S w K X) : ∀ j, j < 5 → (X j).cells = #[X j] := fun j hj => by
  cases K with
  | zero => exact h.elim
  | succ K =>
    obtain ⟨⟨_, e0⟩, ⟨_, e1⟩, ⟨_, e2⟩, ⟨_, _, _, e3, _⟩, _, _, _, e4, _⟩ := h
    match j, hj with
    | 0, _ => rw [e0]; rfl
    | 1, _ => rw [e1]; rfl
    | 2, _ => rw [e2]; rfl
    | 3, _ => rw [e3]; rfl
    | 4, _ => rw [e4]; rfl
theorem agg_inv {X : Nat → Value} {w : World} {g : Gh} {y : Value} (h : Cv w g (.agg [.sc (X 0), .sc (X 1), .sc (X 2), .sc (X 3), .sc (X 4)]) y) : y = .agg #[X 0, X 1, X 2, X 3, X 4] := by
  cases h with
  | agg hl hc =>
    rename_i xs
    congr 1
    apply Array.ext
    · simpa using hl.symm
    · intro i h1 h2
      have h2' : i < 5 := by simpa using h2
      have hx := Array.getElem?_eq_getElem h1
      match i, h2' with
      | 0, _ => exact (hc 0 _ _ rfl hx).sc_inv
      | 1, _ => exact (hc 1 _ _ rfl hx).sc_inv
      | 2, _ => exact (hc 2 _ _ rfl hx).sc_inv
      | 3, _ => exact (hc 3 _ _ rfl hx).sc_inv
      | 4, _ => exact (hc 4 _ _ rfl hx).sc_inv
theorem spoil_arg {S : Nat → Prop} {w1 : World} {g1 : Gh} {Z : Nat → Value} {ρ : Operand → Value} {t : Operand} (h : Calls Try.prog 23 #[.agg #[Z 0, Z 1, Z 2, Z 3, Z 4]] w1 fun e w' => (∃ x, e = .returned x) ∧ Chg S w1 w') (hx : ρ t = .agg #[Z 0, Z 1, Z 2, Z 3, Z 4]) :
    Calls Try.prog 23 ((#[t] : Array Operand).map ρ) w1 fun e w' => ∃ x, e = .returned x ∧ Chg S w1 w' ∧ ∃ i : Unit, True ∧ Cv w' g1 .unk x := by
  have e : (#[t] : Array Operand).map ρ = #[.agg #[Z 0, Z 1, Z 2, Z 3, Z 4]] := by simp [hx]
  rw [e]
  exact h.mono fun e w' h => by
    obtain ⟨⟨x, rfl⟩, hch⟩ := h
    exact ⟨x, rfl, hch, (), trivial, .unk _⟩
set_option maxHeartbeats 3200000 in
set_option maxRecDepth 100000 in
theorem spoil_c (S : Nat → Prop) : ∀ (K : Nat) (w : World) (X : Nat → Value), InZ S w → ShK S w K X → Lo.lo ≤ w.heap.size →
    Calls Try.prog 23 #[.agg #[X 0, X 1, X 2, X 3, X 4]] w fun e w' => (∃ x, e = .returned x) ∧ Chg S w w'
  | 0, _, _, _, h, _ => h.elim
  | K + 1, w, X, hz, hsh, hlo => by
    have ihK := spoil_c S K
    obtain ⟨⟨k, ek⟩, ⟨n, en⟩, ⟨m, em⟩, ⟨a1, n1, c1, e3, hn1, h3⟩, a2, n2, c2, e4, hn2, h4⟩ := hsh
    have hS := hz.inW
    rw [ek, en, em, e3, e4]
    clear ek en em e3 e4
    refine GRuns.calls T_ok (S := S) (vs := [.agg [int k, int n, int m, sl a1 n1 c1, sl a2 n2 c2]]) (g := ⟨fun _ => none, fun _ => False⟩) (R := fun e s => e = .normal) Try.func23 rfl (Nat.le_of_ble_eq_true rfl) hS (fun b _ h => h) rfl (fun i v x hi hx => ?cv) ⟨fun id B h => (by cases h), fun i j b E E' A B h => (by cases h), fun i b E B h => (by cases h), fun b h => h.elim, gl_nil _ hlo⟩ (fun _ _ => rfl) ?main (fun e s' h => ⟨.inr h, [], rfl⟩)
    case cv =>
      rcases i with _ | i <;> simp at hi hx
      subst hi hx
      refine .agg rfl fun i c x hi hx => ?_
      rcases i with _ | _ | _ | _ | _ | i <;> simp at hi hx <;> subst hi hx <;> exact .sc _ rfl
    case main =>
      refine GRuns.seq (GRuns.of_VS hS (VS.of_V T_ok mixed rfl ?_))
      ((repeat ((conv => whnf); (first | (refine LetN.pre ?_; first | ((conv => arg 1; whnf); refine LetN.mk ?_)) | (refine As.pre ?_; first | refine As.mk rfl ?_) | (refine Ck.pre ?_; first | refine Ck.mk rfl ?_)))); (try (conv => whnf)))
      refine GRuns.pre hS (s1 := sp0 k n m (sl a1 n1 c1) (sl a2 n2 c2)) ?sp1 ?_
      case sp1 => exact SW.mk id rfl rfl rfl ⟨.refl _, trivial⟩ (haveV.row rfl rfl trivial)
      refine GRuns.joinN hS (fun _ : Unit => sp0 k n m (sl a1 n1 c1) (sl a2 n2 c2)) (fun _ => True) ?l1 ?l2
      case l1 =>
        refine GRuns.seq (GRuns.of_VS hS (VS.of_V T_ok mixed rfl ?_))
        ((repeat ((conv => whnf); (first | (refine As.pre ?_; first | refine As.mk rfl ?_) | (refine LetV.pre ?_; first | refine LetV.mk (.sc _) rfl ?_) | (refine LetI.pre ?_; first | refine LetI.mk _ rfl ?_) | (refine Ck.pre ?_; first | refine Ck.mk rfl ?_)))); (try (conv => whnf)))
        refine GRuns.pre hS (s1 := sp1 k n m (sl a1 n1 c1) (sl a2 n2 c2) n1 0) ?sp2 ?_
        case sp2 => exact SW.mk id rfl rfl rfl ⟨.refl _, .refl _, .refl _, trivial⟩ (haveV.row rfl rfl trivial)
        refine GRuns.blockX (GRuns.loop (sp1 k n m (sl a1 n1 c1) (sl a2 n2 c2) n1) (fun i => n1 - i) (fun i => i ≤ n1) (fun i hi => ?_) hS 0 (Nat.zero_le _))
        by_cases hlt : i < n1
        case neg =>
          refine GRuns.of_VS hS (VS.of_V T_ok mixed rfl ?_)
          ((repeat ((conv => whnf); (first | (refine As.pre ?_; first | refine As.mk rfl ?_) | (refine LetB.pre ?_; first | refine LetB.decf (by omega) ?_) | (refine Br.pre ?_; first | refine Br.ff rfl ?_) | (refine Ck.pre ?_; first | refine Ck.mk rfl ?_)))); (try (conv => whnf)))
          exact .inr ⟨(fun h => by cases h), rfl, rfl, (), trivial, SW.mk id rfl rfl rfl ⟨.refl _, trivial⟩ (haveV.row rfl rfl trivial)⟩
        rcases h3 with h3 | ⟨b, o, rfl, hb, hc⟩
        · omega
        obtain ⟨mm, hc⟩ := hc i hlt
        refine GRuns.seq (GRuns.of_VS hS (VS.of_V T_ok mixed rfl ?_))
        ((repeat ((conv => whnf); (first | (refine As.pre ?_; first | refine As.mk rfl ?_) | (refine LetB.pre ?_; first | refine LetB.dect (by omega) ?_) | (refine Ck.pre ?_; first | refine Ck.mk rfl ?_)))); (try (conv => whnf)))
        refine GRuns.seq (GRuns.of_VS hS (VS.of_V T_ok mixed rfl ?_))
        ((repeat ((conv => whnf); (first | (refine Br.pre ?_; first | refine Br.tt rfl ?_) | (refine Ck.pre ?_; first | refine Ck.mk rfl ?_)))); (try (conv => whnf)))
        refine GRuns.joinN hS (fun _ : Unit => sp1 k n m (sl (some ⟨b, o, none⟩) n1 c1) (sl a2 n2 c2) n1 i) (fun _ => True) ?body ?next
        case next =>
          intro _ _
          refine GRuns.of_VS hS (VS.of_V T_ok mixed rfl ?_)
          ((repeat ((conv => whnf); (first | (refine As.pre ?_; first | refine As.mk rfl ?_) | (refine LetI.pre ?_; first | refine LetI.wrap (by omega) (by omega) ?_) | (refine Ck.pre ?_; first | refine Ck.mk rfl ?_)))); (try (conv => whnf)))
          exact .inl ⟨rfl, i + 1, hlt, by omega, SW.mk id rfl rfl rfl ⟨.refl _, .refl _, VLe2.int (by omega), trivial⟩ (haveV.row rfl rfl trivial)⟩
        case body =>
          refine GRuns.blockN ?_
          refine GRuns.seq (GRuns.of_VS hS (VS.of_V T_ok mixed rfl ?_))
          ((repeat ((conv => whnf); (first | (refine As.pre ?_; first | refine As.mk rfl ?_) | (refine Ck.pre ?_; first | refine Ck.mk rfl ?_)))); (try (conv => whnf)))
          refine GRuns.of_list ?_
          refine GOps.pre T_ok hS 5 (Nat.zero_le _) rfl ?_
          ((repeat ((conv => whnf); (first | (refine As.pre ?_; first | refine As.mk rfl ?_ | (refine As.mk ?_ ?_; · ((repeat' (refine andT ?_ ?_)) <;> (first | rfl | assumption | exact decide_eq_true (by omega) | exact decide_eq_true (by dsimp only; omega) | exact decide_eq_true (by simp; omega) | (simp; done))))) | (refine LetV.pre ?_; first | refine LetV.mk (.sc _) rfl ?_) | (refine Ck.pre ?_; first | refine Ck.mk rfl ?_)))); (try (conv => whnf)))
          refine GOps.raw hS (ι := Unit) (fun _ => True) (fun _ => .unk) rfl rfl (fun w1 g1 ρ hG hρ hH => ?_) (fun _ _ => GOps.nil ⟨rfl, rfl, (), trivial, SW.mk id rfl rfl rfl ⟨.refl _, .refl _, .refl _, trivial⟩ (haveV.row rfl rfl trivial)⟩)
          have ha := (hρ (.tmp 14) (by simp [Op.operands])).sc_inv
          have hx := (hρ (.const (.int .i64 (-1))) (by simp [Op.operands])).sc_inv
          obtain ⟨x', hx1, hx2⟩ := hG.chg.cell hz hb hc
          obtain ⟨m', rfl⟩ := sim_int hx2 rfl
          exact storeInt_ok T_ok rfl rfl rfl (hz.chg hG.chg) ha hx hb hx1 (fun w' h => ⟨h, (), trivial, .unk _⟩)
      case l2 =>
        intro _ _
        refine GRuns.seq (GRuns.of_VS hS (VS.of_V T_ok mixed rfl ?_))
        ((repeat ((conv => whnf); (first | (refine As.pre ?_; first | refine As.mk rfl ?_) | (refine LetV.pre ?_; first | refine LetV.mk (.sc _) rfl ?_) | (refine LetI.pre ?_; first | refine LetI.mk _ rfl ?_) | (refine Ck.pre ?_; first | refine Ck.mk rfl ?_)))); (try (conv => whnf)))
        refine GRuns.pre hS (s1 := sp2 k n m (sl a1 n1 c1) (sl a2 n2 c2) n2 0) ?sp3 ?_
        case sp3 => exact SW.mk id rfl rfl rfl ⟨.refl _, .refl _, .refl _, trivial⟩ (haveV.row rfl rfl trivial)
        refine GRuns.blockX (GRuns.loop (sp2 k n m (sl a1 n1 c1) (sl a2 n2 c2) n2) (fun i => n2 - i) (fun i => i ≤ n2) (fun i hi => ?_) hS 0 (Nat.zero_le _))
        by_cases hlt : i < n2
        case neg =>
          refine GRuns.of_VS hS (VS.of_V T_ok mixed rfl ?_)
          ((repeat ((conv => whnf); (first | (refine As.pre ?_; first | refine As.mk rfl ?_) | (refine LetB.pre ?_; first | refine LetB.decf (by omega) ?_) | (refine Br.pre ?_; first | refine Br.ff rfl ?_) | (refine Ck.pre ?_; first | refine Ck.mk rfl ?_)))); (try (conv => whnf)))
          exact .inr ⟨(fun h => by cases h), rfl, rfl⟩
        rcases h4 with h4 | ⟨b, o, rfl, hb, hc⟩
        · omega
        obtain ⟨Y, hY, hYK⟩ := hc i hlt
        have hsim : ∀ {w1 : World}, Chg S w w1 → ∀ j, j < 5 → ∃ y, w1.cell? ⟨b, o + i * 5 + j, none⟩ = some y ∧ (y = Y j ∨ ∃ k m m', Y j = .int k m ∧ y = .int k m') := fun hk j hj => hk.cell hz hb (hY j hj)
        obtain ⟨mk, hmk⟩ : ∃ m, Y 0 = .int .i64 m := by
          cases K with
          | zero => exact hYK.elim
          | succ K => exact hYK.1
        refine GRuns.seq (GRuns.of_VS hS (VS.of_V T_ok mixed rfl ?_))
        ((repeat ((conv => whnf); (first | (refine As.pre ?_; first | refine As.mk rfl ?_) | (refine LetB.pre ?_; first | refine LetB.dect (by omega) ?_) | (refine Ck.pre ?_; first | refine Ck.mk rfl ?_)))); (try (conv => whnf)))
        refine GRuns.seq (GRuns.of_VS hS (VS.of_V T_ok mixed rfl ?_))
        ((repeat ((conv => whnf); (first | (refine Br.pre ?_; first | refine Br.tt rfl ?_) | (refine Ck.pre ?_; first | refine Ck.mk rfl ?_)))); (try (conv => whnf)))
        refine GRuns.joinN hS (fun _ : Unit => sp2 k n m (sl a1 n1 c1) (sl (some ⟨b, o, none⟩) n2 c2) n2 i) (fun _ => True) ?body ?next
        case next =>
          intro _ _
          refine GRuns.of_VS hS (VS.of_V T_ok mixed rfl ?_)
          ((repeat ((conv => whnf); (first | (refine As.pre ?_; first | refine As.mk rfl ?_) | (refine LetI.pre ?_; first | refine LetI.wrap (by omega) (by omega) ?_) | (refine Ck.pre ?_; first | refine Ck.mk rfl ?_)))); (try (conv => whnf)))
          exact .inl ⟨rfl, i + 1, hlt, by omega, SW.mk id rfl rfl rfl ⟨.refl _, .refl _, VLe2.int (by omega), trivial⟩ (haveV.row rfl rfl trivial)⟩
        case body =>
          refine GRuns.blockN ?_
          refine GRuns.seq (GRuns.of_VS hS (VS.of_V T_ok mixed rfl ?_))
          ((repeat ((conv => whnf); (first | (refine As.pre ?_; first | refine As.mk rfl ?_) | (refine Ck.pre ?_; first | refine Ck.mk rfl ?_)))); (try (conv => whnf)))
          refine GRuns.joinN hS (fun _ : Unit => sp3 k n m (sl a1 n1 c1) (sl (some ⟨b, o, none⟩) n2 c2) n2 i) (fun _ => True) ?call ?store
          case call =>
            refine GRuns.of_list ?_
            refine GOps.pre T_ok hS 4 (Nat.zero_le _) rfl ?_
            ((repeat ((conv => whnf); (first | (refine As.pre ?_; first | refine As.mk rfl ?_ | (refine As.mk ?_ ?_; · ((repeat' (refine andT ?_ ?_)) <;> (first | rfl | assumption | exact decide_eq_true (by omega) | exact decide_eq_true (by dsimp only; omega) | exact decide_eq_true (by simp; omega) | (simp; done))))) | (refine LetV.pre ?_; first | refine LetV.mk (.sc _) rfl ?_) | (refine Ck.pre ?_; first | refine Ck.mk rfl ?_)))); (try (conv => whnf)))
            refine GOps.raw hS (ι := Nat → Value) (fun Z => ∀ j, j < 5 → Z j = Y j ∨ ∃ k m m', Y j = .int k m ∧ Z j = .int k m') (fun Z => .agg [.sc (Z 0), .sc (Z 1), .sc (Z 2), .sc (Z 3), .sc (Z 4)]) rfl rfl (fun w1 g1 ρ hG hρ hH => ?load) (fun Z hZ => ?rest)
            case load =>
              have ha := (hρ (.tmp 25) (by simp [Op.operands])).sc_inv
              have hex : ∀ j, ∃ y, j < 5 → w1.cell? ⟨b, o + i * 5 + j, none⟩ = some y ∧ (y = Y j ∨ ∃ k m m', Y j = .int k m ∧ y = .int k m') := fun j => by
                by_cases hj : j < 5
                · obtain ⟨y, h⟩ := hsim hG.chg j hj
                  exact ⟨y, fun _ => h⟩
                · exact ⟨undef, fun h => absurd h hj⟩
              obtain ⟨Z, hZ⟩ : ∃ Z : Nat → Value, ∀ j, j < 5 → w1.cell? ⟨b, o + i * 5 + j, none⟩ = some (Z j) ∧ (Z j = Y j ∨ ∃ k m m', Y j = .int k m ∧ Z j = .int k m') := ⟨fun j => (hex j).choose, fun j hj => (hex j).choose_spec hj⟩
              have hZK := ShK.chg hz hG.chg K Y Z hYK fun j hj => (hZ j hj).2
              have hcells := hZK.cells
              obtain ⟨y, hy, hcv⟩ := load_run (t := 36) T_ok rfl (.inl rfl) (w := w1) (g := g1) (e := .agg [.sc (Z 0), .sc (Z 1), .sc (Z 2), .sc (Z 3), .sc (Z 4)]) (b := b) (o := o + i * 5) Z (fun j c hj => by
                have hj5 : j < 5 := by have := (List.getElem?_eq_some_iff.1 hj).1; simpa [AV.cells] using this
                exact (hZ j hj5).1) (fun j c hj => by
                match j, hj with
                | 0, hj => injection hj with hj; subst hj; exact .sc _ (hcells 0 (by omega))
                | 1, hj => injection hj with hj; subst hj; exact .sc _ (hcells 1 (by omega))
                | 2, hj => injection hj with hj; subst hj; exact .sc _ (hcells 2 (by omega))
                | 3, hj => injection hj with hj; subst hj; exact .sc _ (hcells 3 (by omega))
                | 4, hj => injection hj with hj; subst hj; exact .sc _ (hcells 4 (by omega))
                | j + 5, hj => simp [AV.cells] at hj) (off := 0) (Nat.le_of_ble_eq_true rfl)
              refine load_ok rfl (y := y) (by rw [ha]; exact hy) ⟨Chg.refl S w1, Z, fun j hj => (hZ j hj).2, hcv⟩
            case rest =>
              refine GOps.raw hS (ι := Unit) (fun _ => True) (fun _ => .unk) rfl rfl (fun w1 g1 ρ hG hρ hH => ?_) (fun _ _ => GOps.nil ⟨rfl, (), trivial, SW.mk id rfl rfl rfl ⟨.refl _, .refl _, .refl _, .refl _, trivial⟩ (haveV.row rfl rfl trivial)⟩)
              have hf := hρ (.func 23) (by simp [Op.operands, Call.operands])
              have hx := agg_inv (hρ (.tmp 26) (by simp [Op.operands, Call.operands]))
              have hZK := ShK.chg hz hG.chg K Y Z hYK hZ
              have hcall := spoil_arg (ihK w1 Z (hz.chg hG.chg) hZK (Nat.le_trans hlo hG.chg.size)) hx (g1 := g1)
              exact call_ok rfl (by kernel_rfl) hf hcall
          case store =>
            intro _ _
            refine GRuns.of_list ?_
            refine GOps.pre T_ok hS 5 (Nat.zero_le _) rfl ?_
            ((repeat ((conv => whnf); (first | (refine As.pre ?_; first | refine As.mk rfl ?_ | (refine As.mk ?_ ?_; · ((repeat' (refine andT ?_ ?_)) <;> (first | rfl | assumption | exact decide_eq_true (by omega) | exact decide_eq_true (by dsimp only; omega) | exact decide_eq_true (by simp; omega) | (simp; done))))) | (refine LetV.pre ?_; first | refine LetV.mk (.sc _) rfl ?_) | (refine Ck.pre ?_; first | refine Ck.mk rfl ?_)))); (try (conv => whnf)))
            refine GOps.raw hS (ι := Unit) (fun _ => True) (fun _ => .unk) rfl rfl (fun w1 g1 ρ hG hρ hH => ?_) (fun _ _ => GOps.nil ⟨rfl, rfl, (), trivial, SW.mk id rfl rfl rfl ⟨.refl _, .refl _, .refl _, trivial⟩ (haveV.row rfl rfl trivial)⟩)
            have ha := (hρ (.tmp 32) (by simp [Op.operands])).sc_inv
            have hx := (hρ (.const (.int .i64 (-1))) (by simp [Op.operands])).sc_inv
            obtain ⟨x', hx1, hx2⟩ := hsim hG.chg 0 (by omega)
            obtain ⟨m', rfl⟩ := sim_int hx2 hmk
            exact storeInt_ok T_ok rfl rfl rfl (hz.chg hG.chg) ha hx hb hx1 (fun w' h => ⟨h, (), trivial, .unk _⟩)
end Pb
end Go.Proofs.Ytjnmbmdplchfkaa
namespace Go.Proofs.Ytjnmbmdplchfkaa
open Go.Proofs.Ytjnmbmdplchfkaa.Am
set_option maxRecDepth 100000
variable [Lo]
namespace Pb
/-! ### Equality -/
theorem take_eq {α : Type} {s t : List α} {k : Nat} (d : α) (hs : k < s.length) (ht : k < t.length) (h : s.take k = t.take k) (e : s.getD k d = t.getD k d) : s.take (k + 1) = t.take (k + 1) := by
  rw [List.take_succ_eq_append_getElem hs, List.take_succ_eq_append_getElem ht, h]
  rw [List.getD_eq_getElem?_getD, List.getElem?_eq_getElem hs, List.getD_eq_getElem?_getD, List.getElem?_eq_getElem ht] at e
  exact congrArg _ (congrArg (fun x => [x]) e)
theorem str_eq {a b : ByteArray} : (a.toList == b.toList) = decide (a = b) := by
  rw [Bool.eq_iff_iff, beq_iff_eq, decide_eq_true_eq, ByteArray.toList_eq, ByteArray.toList_eq]
  constructor
  · intro h
    obtain ⟨⟨a⟩⟩ := a
    obtain ⟨⟨b⟩⟩ := b
    simpa using h
  · rintro rfl; rfl
theorem co_eq (a b : Co) : (a.1 == b.1 && (a.2.toList == b.2.toList && true)) = decide (a = b) := by
  rw [str_eq, Bool.and_true, Bool.eq_iff_iff, Bool.and_eq_true, beq_iff_eq, decide_eq_true_eq, decide_eq_true_eq, Prod.ext_iff]
set_option maxRecDepth 100000 in
theorem EqualC_f (s t : List Co) (hs : s.length ≤ 1000) (ht : t.length ≤ 1000) : AFun Try.prog 76 0 [.ro {} 2 (s.map coA), .ro {} 2 (t.map coA)] [] (bool (decide (s = t))) [] := by
  have hms : (s.map coA).length = s.length := List.length_map _
  have hmt : (t.map coA).length = t.length := List.length_map _
  refine AFun.of_W T_ok mixed Try.func76 rfl (Nat.le_of_ble_eq_true rfl) rfl ?_
  by_cases hl : s.length = t.length
  case neg =>
    rw [decide_eq_false (fun h => hl (by rw [h]))]
    ((repeat ((conv => whnf); (first | (refine As.pre ?_; first | refine As.mk rfl ?_) | (refine LetI.pre ?_; first | refine LetI.mk _ rfl ?_) | (refine LetB.pre ?_; first | refine LetB.bnet (by omega) ?_) | (refine Br.pre ?_; first | refine Br.tt rfl ?_) | (refine Ck.pre ?_; first | refine Ck.mk rfl ?_)))); (try (conv => whnf)))
    exact ⟨.inl rfl, ⟨_, rfl, rfl⟩, trivial⟩
  ((repeat ((conv => whnf); (first | (refine As.pre ?_; first | refine As.mk rfl ?_) | (refine LetI.pre ?_; first | refine LetI.mk _ rfl ?_) | (refine LetB.pre ?_; first | refine LetB.bnef (by omega) ?_) | (refine Br.pre ?_; first | refine Br.ff rfl ?_) | (refine Ck.pre ?_; first | refine Ck.mk rfl ?_)))); (try (conv => whnf)))
  refine LoopN.weak (s1 := ⟨[(0, .ro {} 2 (s.map coA)), (1, .ro {} 2 (t.map coA)), (12, int s.length), (13, int (0 : Nat))], [], 0⟩) (SW.fr0 (Nat.le_refl _) rfl ⟨.refl _, .refl _, VLe2.int (by rw [hms]), .refl _, trivial⟩) ?_
  refine LoopN.ind T_ok mixed (S := fun k : Nat => ⟨[(0, .ro {} 2 (s.map coA)), (1, .ro {} 2 (t.map coA)), (12, int s.length), (13, int k)], [], 0⟩) (fun k => s.length - k) (fun k => k ≤ s.length ∧ s.take k = t.take k) (fun _ => rfl) (fun k hk ih => ?_) 0 ⟨Nat.zero_le _, rfl⟩
  obtain ⟨h1, h2⟩ := hk
  by_cases hlt : k < s.length
  case neg =>
    rw [List.take_of_length_le (by omega), List.take_of_length_le (by omega)] at h2
    rw [decide_eq_true h2]
    clear ih
    ((repeat ((conv => whnf); (first | (refine As.pre ?_; first | refine As.mk rfl ?_) | (refine LetB.pre ?_; first | refine LetB.decf (by omega) ?_) | (refine Br.pre ?_; first | refine Br.ff rfl ?_) | (refine Ck.pre ?_; first | refine Ck.mk rfl ?_)))); (try (conv => whnf)))
    exact ⟨.inl rfl, ⟨_, rfl, rfl⟩, trivial⟩
  have hld := ld_co hlt
  have hld2 := ld_co (show k < t.length by omega)
  have hnx := fun e => ih (k + 1) ⟨hlt, take_eq co0 hlt (by omega) h2 e⟩ (by omega)
  have hne : s.getD k co0 ≠ t.getD k co0 → s ≠ t := fun h e => h (by rw [e])
  clear ih h2
  generalize s.getD k co0 = a at hld hnx hne
  generalize t.getD k co0 = b at hld2 hnx hne
  have hco := co_eq a b
  by_cases e : a = b
  · rw [decide_eq_true e] at hco
    have hkb : false = !(a.1 == b.1 && (a.2.toList == b.2.toList && true)) := by rw [hco]; rfl
    replace hnx := hnx e
    ((repeat ((conv => whnf); (first | (refine As.pre ?_; first | refine As.mk rfl ?_ | (refine As.mk ?_ ?_; · ((repeat' (refine andT ?_ ?_)) <;> (first | rfl | assumption | exact decide_eq_true (by omega) | exact decide_eq_true (by dsimp only; omega) | exact decide_eq_true (by simp; omega) | (simp; done))))) | (refine LetV.pre ?_; first | refine LetV.mk (t := 33) _ hld ?_ | refine LetV.mk (t := 33) _ hld2 ?_ | refine LetV.mk (.agg _) rfl ?_) | (refine LetI.pre ?_; first | refine LetI.wrap (by omega) (by omega) ?_) | (refine LetB.pre ?_; first | refine LetB.mk (o := some .neq) _ hkb ?_ | refine LetB.dect (by omega) ?_) | (refine Br.pre ?_; first | refine Br.tt rfl ?_ | refine Br.ff rfl ?_) | (refine Ck.pre ?_; first | refine Ck.drawn (by kernel_rfl) ?_ | refine Ck.mk rfl ?_)))); (try (conv => whnf)))
    refine LoopN.weak ?sw2 hnx
    case sw2 => exact SW.fr0 (Nat.le_refl _) rfl ⟨.refl _, .refl _, .refl _, VLe2.int (by omega), trivial⟩
  · rw [decide_eq_false e] at hco
    have hkb : true = !(a.1 == b.1 && (a.2.toList == b.2.toList && true)) := by rw [hco]; rfl
    rw [decide_eq_false (hne e)]
    clear hnx
    ((repeat ((conv => whnf); (first | (refine As.pre ?_; first | refine As.mk rfl ?_ | (refine As.mk ?_ ?_; · ((repeat' (refine andT ?_ ?_)) <;> (first | rfl | assumption | exact decide_eq_true (by omega) | exact decide_eq_true (by dsimp only; omega) | exact decide_eq_true (by simp; omega) | (simp; done))))) | (refine LetV.pre ?_; first | refine LetV.mk (t := 33) _ hld ?_ | refine LetV.mk (t := 33) _ hld2 ?_ | refine LetV.mk (.agg _) rfl ?_) | (refine LetB.pre ?_; first | refine LetB.mk (o := some .neq) _ hkb ?_ | refine LetB.dect (by omega) ?_) | (refine Br.pre ?_; first | refine Br.tt rfl ?_) | (refine Ck.pre ?_; first | refine Ck.drawn (by kernel_rfl) ?_ | refine Ck.mk rfl ?_)))); (try (conv => whnf)))
    exact ⟨.inl rfl, ⟨_, rfl, rfl⟩, trivial⟩
end Pb
end Go.Proofs.Ytjnmbmdplchfkaa
namespace Go.Proofs.Ytjnmbmdplchfkaa
open Go.Proofs.Ytjnmbmdplchfkaa.Am
set_option maxRecDepth 100000
variable [Lo]
namespace Pb
abbrev ex0 : Co × Co := (co0, co0)
theorem ld_ex {l : List (Co × Co)} {k : Nat} (h : k < l.length) : exA (l.getD k ex0) = (l.map exA).getD k (.sc undef) := mapD ex0 h
theorem ex_eq (a b : Co × Co) : ((a.1.1 == b.1.1 && (a.1.2.toList == b.1.2.toList && true)) && ((a.2.1 == b.2.1 && (a.2.2.toList == b.2.2.toList && true)) && true)) = decide (a = b) := by
  rw [co_eq a.1 b.1, co_eq a.2 b.2, Bool.and_true, Bool.eq_iff_iff, Bool.and_eq_true, decide_eq_true_eq, decide_eq_true_eq, decide_eq_true_eq]
  exact ⟨fun h => Prod.ext h.1 h.2, fun h => by rw [h]; exact ⟨rfl, rfl⟩⟩
set_option maxRecDepth 100000 in
theorem EqualE_f (s t : List (Co × Co)) (hs : s.length ≤ 1000) (ht : t.length ≤ 1000) : AFun Try.prog 35 0 [.ro {} 4 (s.map exA), .ro {} 4 (t.map exA)] [] (bool (decide (s = t))) [] := by
  have hms : (s.map exA).length = s.length := List.length_map _
  have hmt : (t.map exA).length = t.length := List.length_map _
  refine AFun.of_W T_ok mixed Try.func35 rfl (Nat.le_of_ble_eq_true rfl) rfl ?_
  by_cases hl : s.length = t.length
  case neg =>
    rw [decide_eq_false (fun h => hl (by rw [h]))]
    ((repeat ((conv => whnf); (first | (refine As.pre ?_; first | refine As.mk rfl ?_) | (refine LetI.pre ?_; first | refine LetI.mk _ rfl ?_) | (refine LetB.pre ?_; first | refine LetB.bnet (by omega) ?_) | (refine Br.pre ?_; first | refine Br.tt rfl ?_) | (refine Ck.pre ?_; first | refine Ck.mk rfl ?_)))); (try (conv => whnf)))
    exact ⟨.inl rfl, ⟨_, rfl, rfl⟩, trivial⟩
  ((repeat ((conv => whnf); (first | (refine As.pre ?_; first | refine As.mk rfl ?_) | (refine LetI.pre ?_; first | refine LetI.mk _ rfl ?_) | (refine LetB.pre ?_; first | refine LetB.bnef (by omega) ?_) | (refine Br.pre ?_; first | refine Br.ff rfl ?_) | (refine Ck.pre ?_; first | refine Ck.mk rfl ?_)))); (try (conv => whnf)))
  refine LoopN.weak (s1 := ⟨[(0, .ro {} 4 (s.map exA)), (1, .ro {} 4 (t.map exA)), (12, int s.length), (13, int (0 : Nat))], [], 0⟩) (SW.fr0 (Nat.le_refl _) rfl ⟨.refl _, .refl _, VLe2.int (by rw [hms]), .refl _, trivial⟩) ?_
  refine LoopN.ind T_ok mixed (S := fun k : Nat => ⟨[(0, .ro {} 4 (s.map exA)), (1, .ro {} 4 (t.map exA)), (12, int s.length), (13, int k)], [], 0⟩) (fun k => s.length - k) (fun k => k ≤ s.length ∧ s.take k = t.take k) (fun _ => rfl) (fun k hk ih => ?_) 0 ⟨Nat.zero_le _, rfl⟩
  obtain ⟨h1, h2⟩ := hk
  by_cases hlt : k < s.length
  case neg =>
    rw [List.take_of_length_le (by omega), List.take_of_length_le (by omega)] at h2
    rw [decide_eq_true h2]
    clear ih
    ((repeat ((conv => whnf); (first | (refine As.pre ?_; first | refine As.mk rfl ?_) | (refine LetB.pre ?_; first | refine LetB.decf (by omega) ?_) | (refine Br.pre ?_; first | refine Br.ff rfl ?_) | (refine Ck.pre ?_; first | refine Ck.mk rfl ?_)))); (try (conv => whnf)))
    exact ⟨.inl rfl, ⟨_, rfl, rfl⟩, trivial⟩
  have hld := ld_ex hlt
  have hld2 := ld_ex (show k < t.length by omega)
  have hnx := fun e => ih (k + 1) ⟨hlt, take_eq ex0 hlt (by omega) h2 e⟩ (by omega)
  have hne : s.getD k ex0 ≠ t.getD k ex0 → s ≠ t := fun h e => h (by rw [e])
  clear ih h2
  generalize s.getD k ex0 = a at hld hnx hne
  generalize t.getD k ex0 = b at hld2 hnx hne
  have hco := ex_eq a b
  by_cases e : a = b
  · rw [decide_eq_true e] at hco
    have hkb : false = !((a.1.1 == b.1.1 && (a.1.2.toList == b.1.2.toList && true)) && ((a.2.1 == b.2.1 && (a.2.2.toList == b.2.2.toList && true)) && true)) := by rw [hco]; rfl
    replace hnx := hnx e
    ((repeat ((conv => whnf); (first | (refine As.pre ?_; first | refine As.mk rfl ?_ | (refine As.mk ?_ ?_; · ((repeat' (refine andT ?_ ?_)) <;> (first | rfl | assumption | exact decide_eq_true (by omega) | exact decide_eq_true (by dsimp only; omega) | exact decide_eq_true (by simp; omega) | (simp; done))))) | (refine LetV.pre ?_; first | refine LetV.mk (t := 37) _ hld ?_ | refine LetV.mk (t := 37) _ hld2 ?_ | refine LetV.mk (.agg _) rfl ?_) | (refine LetI.pre ?_; first | refine LetI.wrap (by omega) (by omega) ?_) | (refine LetB.pre ?_; first | refine LetB.mk (o := some .neq) _ hkb ?_ | refine LetB.dect (by omega) ?_) | (refine Br.pre ?_; first | refine Br.tt rfl ?_ | refine Br.ff rfl ?_) | (refine Ck.pre ?_; first | refine Ck.drawn (by kernel_rfl) ?_ | refine Ck.mk rfl ?_)))); (try (conv => whnf)))
    refine LoopN.weak ?sw2 hnx
    case sw2 => exact SW.fr0 (Nat.le_refl _) rfl ⟨.refl _, .refl _, .refl _, VLe2.int (by omega), trivial⟩
  · rw [decide_eq_false e] at hco
    have hkb : true = !((a.1.1 == b.1.1 && (a.1.2.toList == b.1.2.toList && true)) && ((a.2.1 == b.2.1 && (a.2.2.toList == b.2.2.toList && true)) && true)) := by rw [hco]; rfl
    rw [decide_eq_false (hne e)]
    clear hnx
    ((repeat ((conv => whnf); (first | (refine As.pre ?_; first | refine As.mk rfl ?_ | (refine As.mk ?_ ?_; · ((repeat' (refine andT ?_ ?_)) <;> (first | rfl | assumption | exact decide_eq_true (by omega) | exact decide_eq_true (by dsimp only; omega) | exact decide_eq_true (by simp; omega) | (simp; done))))) | (refine LetV.pre ?_; first | refine LetV.mk (t := 37) _ hld ?_ | refine LetV.mk (t := 37) _ hld2 ?_ | refine LetV.mk (.agg _) rfl ?_) | (refine LetB.pre ?_; first | refine LetB.mk (o := some .neq) _ hkb ?_ | refine LetB.dect (by omega) ?_) | (refine Br.pre ?_; first | refine Br.tt rfl ?_) | (refine Ck.pre ?_; first | refine Ck.drawn (by kernel_rfl) ?_ | refine Ck.mk rfl ?_)))); (try (conv => whnf)))
    exact ⟨.inl rfl, ⟨_, rfl, rfl⟩, trivial⟩
/-! ### Equality of requirements -/
set_option maxRecDepth 100000 in
open Classical in
theorem EqualF_f (l l' : List Nd) (hl : l.length ≤ 1000) (hl' : l'.length ≤ 1000) (hf : ∀ k, k < l.length → k < l'.length → AFun Try.prog 56 0 [nd (l.getD k nd0), nd (l'.getD k nd0)] [] (bool (decide (l.getD k nd0 = l'.getD k nd0))) []) : AFun Try.prog 91 0 [.ro {} 5 (l.map nd), .ro {} 5 (l'.map nd), .clo 56 []] [] (bool (decide (l = l'))) [] := by
  have hms : (l.map nd).length = l.length := List.length_map _
  have hmt : (l'.map nd).length = l'.length := List.length_map _
  refine AFun.of_W T_ok mixed Try.func91 rfl (Nat.le_of_ble_eq_true rfl) rfl ?_
  by_cases hll : l.length = l'.length
  case neg =>
    rw [decide_eq_false (fun h => hll (by rw [h]))]
    ((repeat ((conv => whnf); (first | (refine As.pre ?_; first | refine As.mk rfl ?_) | (refine LetI.pre ?_; first | refine LetI.mk _ rfl ?_) | (refine LetB.pre ?_; first | refine LetB.bnet (by omega) ?_) | (refine Br.pre ?_; first | refine Br.tt rfl ?_) | (refine Ck.pre ?_; first | refine Ck.mk rfl ?_)))); (try (conv => whnf)))
    exact ⟨.inl rfl, ⟨_, rfl, rfl⟩, trivial⟩
  ((repeat ((conv => whnf); (first | (refine As.pre ?_; first | refine As.mk rfl ?_) | (refine LetI.pre ?_; first | refine LetI.mk _ rfl ?_) | (refine LetB.pre ?_; first | refine LetB.bnef (by omega) ?_) | (refine Br.pre ?_; first | refine Br.ff rfl ?_) | (refine Ck.pre ?_; first | refine Ck.mk rfl ?_)))); (try (conv => whnf)))
  refine LoopN.weak (s1 := ⟨[(1, .ro {} 5 (l'.map nd)), (2, .clo 56 []), (15, .ro {} 5 (l.map nd)), (16, int l.length), (17, int (0 : Nat))], [], 0⟩) (SW.fr0 (Nat.le_refl _) rfl ⟨.refl _, .refl _, .refl _, VLe2.int (by rw [hms]), .refl _, trivial⟩) ?_
  refine LoopN.ind T_ok mixed (S := fun k : Nat => ⟨[(1, .ro {} 5 (l'.map nd)), (2, .clo 56 []), (15, .ro {} 5 (l.map nd)), (16, int l.length), (17, int k)], [], 0⟩) (fun k => l.length - k) (fun k => k ≤ l.length ∧ l.take k = l'.take k) (fun _ => rfl) (fun k hk ih => ?_) 0 ⟨Nat.zero_le _, rfl⟩
  obtain ⟨h1, h2⟩ := hk
  by_cases hlt : k < l.length
  case neg =>
    rw [List.take_of_length_le (by omega), List.take_of_length_le (by omega)] at h2
    rw [decide_eq_true h2]
    clear ih hf
    ((repeat ((conv => whnf); (first | (refine As.pre ?_; first | refine As.mk rfl ?_) | (refine LetB.pre ?_; first | refine LetB.decf (by omega) ?_) | (refine Br.pre ?_; first | refine Br.ff rfl ?_) | (refine Ck.pre ?_; first | refine Ck.mk rfl ?_)))); (try (conv => whnf)))
    exact ⟨.inl rfl, ⟨_, rfl, rfl⟩, trivial⟩
  have hld := ld_nd hlt
  have hld2 := ld_nd (show k < l'.length by omega)
  have hF := hf k hlt (by omega)
  have hnx := fun e => ih (k + 1) ⟨hlt, take_eq nd0 hlt (by omega) h2 e⟩ (by omega)
  have hne : l.getD k nd0 ≠ l'.getD k nd0 → l ≠ l' := fun h e => h (by rw [e])
  clear ih h2 hf
  generalize l.getD k nd0 = a at hld hnx hne hF
  generalize l'.getD k nd0 = b at hld2 hnx hne hF
  by_cases e : a = b
  · rw [decide_eq_true e] at hF
    replace hnx := hnx e
    clear hne e
    obtain ⟨k1, n1, m1, s1, l1⟩ := a
    obtain ⟨k2, n2, m2, s2, l2⟩ := b
    rw [nd_mk] at hld hld2
    rw [nd_mk, nd_mk] at hF
    ((repeat ((conv => whnf); (first | (refine LetN.pre ?_; first | ((conv => arg 1; whnf); refine LetN.mk ?_)) | (refine As.pre ?_; first | refine As.mk rfl ?_ | (refine As.mk ?_ ?_; · ((repeat' (refine andT ?_ ?_)) <;> (first | rfl | assumption | exact decide_eq_true (by omega) | exact decide_eq_true (by dsimp only; omega) | exact decide_eq_true (by simp; omega) | (simp; done))))) | (refine LetV.pre ?_; first | refine LetV.mk (t := 34) _ hld ?_ | refine LetV.mk (t := 34) _ hld2 ?_ | refine LetV.mk (.agg _) rfl ?_) | (refine LetI.pre ?_; first | refine LetI.wrap (by omega) (by omega) ?_) | (refine LetB.pre ?_; first | refine LetB.dect (by omega) ?_) | (refine Br.pre ?_; first | refine Br.tt rfl ?_ | refine Br.ff rfl ?_) | (refine Ck.pre ?_; first | refine Ck.mk rfl ?_) | (refine LetL.pre ?_; first | refine LetL.mk (ty := nty) [.agg [_, _, _, _, _]] rfl ?_) | (refine CallN.pre ?_; first | refine CallN.pure hF rfl rfl ?_)))); (try (conv => whnf)))
    refine LoopN.weak ?sw2 hnx
    case sw2 => exact SW.fr0 (Nat.zero_le _) rfl ⟨.refl _, .refl _, .refl _, .refl _, VLe2.int (by omega), trivial⟩
  · rw [decide_eq_false e] at hF
    rw [decide_eq_false (hne e)]
    clear hnx hne e
    obtain ⟨k1, n1, m1, s1, l1⟩ := a
    obtain ⟨k2, n2, m2, s2, l2⟩ := b
    rw [nd_mk] at hld hld2
    rw [nd_mk, nd_mk] at hF
    ((repeat ((conv => whnf); (first | (refine LetN.pre ?_; first | ((conv => arg 1; whnf); refine LetN.mk ?_)) | (refine As.pre ?_; first | refine As.mk rfl ?_ | (refine As.mk ?_ ?_; · ((repeat' (refine andT ?_ ?_)) <;> (first | rfl | assumption | exact decide_eq_true (by omega) | exact decide_eq_true (by dsimp only; omega) | exact decide_eq_true (by simp; omega) | (simp; done))))) | (refine LetV.pre ?_; first | refine LetV.mk (t := 34) _ hld ?_ | refine LetV.mk (t := 34) _ hld2 ?_ | refine LetV.mk (.agg _) rfl ?_) | (refine LetB.pre ?_; first | refine LetB.dect (by omega) ?_) | (refine Br.pre ?_; first | refine Br.tt rfl ?_) | (refine Ck.pre ?_; first | refine Ck.mk rfl ?_) | (refine LetL.pre ?_; first | refine LetL.mk (ty := nty) [.agg [_, _, _, _, _]] rfl ?_) | (refine CallN.pre ?_; first | refine CallN.pure hF rfl rfl ?_)))); (try (conv => whnf)))
    exact ⟨.inl rfl, ⟨_, rfl, rfl⟩, trivial⟩
/-- A requirement that is not too great. -/
structure SN (x : Nd) : Prop where
  n : x.nodes.length ≤ 1000
  s : ∀ y ∈ x.nodes, y.set.length ≤ 1000
theorem SN.sub {k n m : Int} {s : List Co} {l : List Nd} (h : SN (.mk k n m s l)) : s.length ≤ 1000 ∧ l.length ≤ 1000 ∧ ∀ x ∈ l, SN x ∧ x.nodes.length < (Nd.mk k n m s l).nodes.length := by
  obtain ⟨h1, h2⟩ := h
  rw [Nd.nodes] at h1 h2 ⊢
  rw [List.length_cons] at h1 ⊢
  have hge := nodesL_ge l
  refine ⟨h2 _ (List.mem_cons_self ..), by omega, fun x hx => ?_⟩
  have := nodesL_mem hx
  exact ⟨⟨by omega, fun y hy => h2 y (List.mem_cons_of_mem _ (nodesL_sub hx hy))⟩, by omega⟩
set_option maxHeartbeats 1600000 in
set_option maxRecDepth 100000 in
open Classical in
theorem same_f : ∀ (K : Nat) (x y : Nd), x.nodes.length ≤ K → SN x → SN y → AFun Try.prog 56 0 [nd x, nd y] [] (bool (decide (x = y))) [] := by
  intro K
  induction K with
  | zero => intro x y h; have := nodes_pos x; omega
  | succ K ihK =>
    intro x y hK hx hy
    obtain ⟨k, n, m, s, l⟩ := x
    obtain ⟨k', n', m', s', l'⟩ := y
    obtain ⟨a1, a2, a3⟩ := hx.sub
    obtain ⟨b1, b2, b3⟩ := hy.sub
    have hS := EqualC_f s s' a1 b1
    have hL := EqualF_f l l' a2 b2 (fun i h1 h2 => ihK _ _ (by have := (a3 _ (getD_mem' h1)).2; omega) (a3 _ (getD_mem' h1)).1 (b3 _ (getD_mem' h2)).1)
    have hE : AFun Try.prog 77 0 [.ro {} 5 (l.map nd), .ro {} 5 (l'.map nd), .clo 56 []] [] (bool (decide (l = l'))) [] := by
      refine AFun.of_W T_ok mixed Try.func77 rfl (Nat.le_of_ble_eq_true rfl) rfl ?_
      ((repeat ((conv => whnf); (first | (refine As.pre ?_; first | refine As.mk rfl ?_) | (refine Ck.pre ?_; first | refine Ck.mk rfl ?_) | (refine CallN.pre ?_; first | refine CallN.pure hL rfl rfl ?_)))); (try (conv => whnf)))
      exact ⟨.inl rfl, ⟨_, rfl, rfl⟩, trivial⟩
    clear hL a3 b3 hx hy hK ihK
    rw [nd_mk, nd_mk]
    refine AFun.of_W T_ok mixed Try.func56 rfl (Nat.le_of_ble_eq_true rfl) rfl ?_
    by_cases c1 : k = k'
    case neg =>
      rw [decide_eq_false (fun h => c1 (by injection h))]
      ((repeat ((conv => whnf); (first | (refine LetN.pre ?_; first | ((conv => arg 1; whnf); refine LetN.mk ?_)) | (refine As.pre ?_; first | refine As.mk rfl ?_) | (refine LetV.pre ?_; first | refine LetV.mk (.sc (.int _ _)) rfl ?_) | (refine LetB.pre ?_; first | refine LetB.decf (by omega) ?_) | (refine Gd.pre ?_; first | refine Gd.pass rfl ?_) | (refine Ck.pre ?_; first | refine Ck.mk rfl ?_)))); (try (conv => whnf)))
      exact ⟨.inl rfl, ⟨_, rfl, rfl⟩, trivial⟩
    by_cases c2 : n = n'
    case neg =>
      rw [decide_eq_false (fun h => c2 (by injection h))]
      ((repeat ((conv => whnf); (first | (refine LetN.pre ?_; first | ((conv => arg 1; whnf); refine LetN.mk ?_)) | (refine As.pre ?_; first | refine As.mk rfl ?_) | (refine LetV.pre ?_; first | refine LetV.mk (.sc (.int _ _)) rfl ?_) | (refine LetB.pre ?_; first | refine LetB.dect (by omega) ?_ | refine LetB.decf (by omega) ?_) | (refine Gd.pre ?_; first | refine Gd.run rfl ?_ | refine Gd.pass rfl ?_) | (refine Ck.pre ?_; first | refine Ck.mk rfl ?_)))); (try (conv => whnf)))
      exact ⟨.inl rfl, ⟨_, rfl, rfl⟩, trivial⟩
    by_cases c3 : m = m'
    case neg =>
      rw [decide_eq_false (fun h => c3 (by injection h))]
      ((repeat ((conv => whnf); (first | (refine LetN.pre ?_; first | ((conv => arg 1; whnf); refine LetN.mk ?_)) | (refine As.pre ?_; first | refine As.mk rfl ?_) | (refine LetV.pre ?_; first | refine LetV.mk (.sc (.int _ _)) rfl ?_) | (refine LetB.pre ?_; first | refine LetB.dect (by omega) ?_ | refine LetB.decf (by omega) ?_) | (refine Gd.pre ?_; first | refine Gd.run rfl ?_ | refine Gd.pass rfl ?_) | (refine Ck.pre ?_; first | refine Ck.mk rfl ?_)))); (try (conv => whnf)))
      exact ⟨.inl rfl, ⟨_, rfl, rfl⟩, trivial⟩
    by_cases c4 : s = s'
    case neg =>
      rw [decide_eq_false c4] at hS
      rw [decide_eq_false (fun h => c4 (by injection h))]
      ((repeat ((conv => whnf); (first | (refine LetN.pre ?_; first | ((conv => arg 1; whnf); refine LetN.mk ?_)) | (refine As.pre ?_; first | refine As.mk rfl ?_) | (refine LetV.pre ?_; first | refine LetV.mk (.sc (.int _ _)) rfl ?_ | refine LetV.mk (.ro _ _ _) rfl ?_) | (refine LetB.pre ?_; first | refine LetB.dect (by omega) ?_) | (refine Gd.pre ?_; first | refine Gd.run rfl ?_ | refine Gd.pass rfl ?_) | (refine Ck.pre ?_; first | refine Ck.mk rfl ?_) | (refine CallN.pre ?_; first | refine CallN.pure hS rfl rfl ?_)))); (try (conv => whnf)))
      exact ⟨.inl rfl, ⟨_, rfl, rfl⟩, trivial⟩
    rw [decide_eq_true c4] at hS
    by_cases c5 : l = l'
    case neg =>
      rw [decide_eq_false c5] at hE
      rw [decide_eq_false (fun h => c5 (by injection h))]
      ((repeat ((conv => whnf); (first | (refine LetN.pre ?_; first | ((conv => arg 1; whnf); refine LetN.mk ?_)) | (refine As.pre ?_; first | refine As.mk rfl ?_) | (refine LetV.pre ?_; first | refine LetV.mk (.sc (.int _ _)) rfl ?_ | refine LetV.mk (.ro _ _ _) rfl ?_) | (refine LetB.pre ?_; first | refine LetB.dect (by omega) ?_) | (refine Gd.pre ?_; first | refine Gd.run rfl ?_) | (refine Ck.pre ?_; first | refine Ck.mk rfl ?_) | (refine CallN.pre ?_; first | refine CallN.pure hS rfl rfl ?_ | refine CallN.pure hE rfl rfl ?_)))); (try (conv => whnf)))
      exact ⟨.inl rfl, ⟨_, rfl, rfl⟩, trivial⟩
    rw [decide_eq_true c5] at hE
    rw [decide_eq_true (by rw [c1, c2, c3, c4, c5])]
    ((repeat ((conv => whnf); (first | (refine LetN.pre ?_; first | ((conv => arg 1; whnf); refine LetN.mk ?_)) | (refine As.pre ?_; first | refine As.mk rfl ?_) | (refine LetV.pre ?_; first | refine LetV.mk (.sc (.int _ _)) rfl ?_ | refine LetV.mk (.ro _ _ _) rfl ?_) | (refine LetB.pre ?_; first | refine LetB.dect (by omega) ?_) | (refine Gd.pre ?_; first | refine Gd.run rfl ?_) | (refine Ck.pre ?_; first | refine Ck.mk rfl ?_) | (refine CallN.pre ?_; first | refine CallN.pure hS rfl rfl ?_ | refine CallN.pure hE rfl rfl ?_)))); (try (conv => whnf)))
    exact ⟨.inl rfl, ⟨_, rfl, rfl⟩, trivial⟩
end Pb
end Go.Proofs.Ytjnmbmdplchfkaa
namespace Go.Proofs.Ytjnmbmdplchfkaa
open Go.Proofs.Ytjnmbmdplchfkaa.Am
set_option maxRecDepth 100000
variable [Lo]
namespace Pb
/-! ### Equality of programmes -/
set_option maxRecDepth 100000 in
open Classical in
theorem Same_f (x y : Nd) (hx : SN x) (hy : SN y) (gx : x.hgt ≤ 100) (gy : y.hgt ≤ 100) : AFun Try.prog 36 0 [nd x, nd y] [] (bool (decide (x = y))) [] := by
  have l1 := list_f x (by have := hx.n; omega) gx
  have l2 := list_f y (by have := hy.n; omega) gy
  have hs := same_f _ x y (Nat.le_refl _) hx hy
  clear hx hy gx gy
  generalize decide (x = y) = b at hs ⊢
  generalize x.nodes = N1 at l1
  generalize y.nodes = N2 at l2
  generalize x.deep 1 0 = d1 at l1
  generalize y.deep 1 0 = d2 at l2
  obtain ⟨k1, n1, m1, s1, q1⟩ := x
  obtain ⟨k2, n2, m2, s2, q2⟩ := y
  rw [nd_mk] at l1 l2 ⊢
  rw [nd_mk, nd_mk] at hs
  rw [nd_mk]
  refine AFun.of_W T_ok mixed Try.func36 rfl (Nat.le_of_ble_eq_true rfl) rfl ?_
  cases b <;>
  · ((repeat ((conv => whnf); (first | (refine LetN.pre ?_; first | ((conv => arg 1; whnf); refine LetN.mk ?_)) | (refine As.pre ?_; first | refine As.mk rfl ?_) | (refine LetV.pre ?_; first | refine LetV.mk (.agg _) rfl ?_) | (refine Gd.pre ?_; first | refine Gd.run rfl ?_) | (refine Ck.pre ?_; first | refine Ck.mk rfl ?_) | (refine CallN.pre ?_; first | refine CallN.pure l1 rfl rfl ?_ | refine CallN.pure l2 rfl rfl ?_ | refine CallN.pure hs rfl rfl ?_)))); (try (conv => whnf)))
    exact ⟨.inl rfl, ⟨_, rfl, rfl⟩, trivial⟩
/-- A programme that may be compared. -/
structure CP (p : Pg) : Prop where
  s : SN p.need
  h : p.need.hgt ≤ 100
  e : p.ex.length ≤ 1000
theorem WP.cp {p : Pg} (h : WP p) : CP p := ⟨⟨h.sp.n, h.sp.s⟩, by have := h.need.h; omega, h.sp.e⟩
theorem cp0 : CP p0 := ⟨⟨by decide, by decide⟩, by decide, by decide⟩
set_option maxHeartbeats 3200000 in
set_option maxRecDepth 100000 in
open Classical in
theorem SameAll_f {p q : Pg} (hp : CP p) (hq : CP q) : AFun Try.prog 14 0 [pg p, pg q] [] (bool (decide (p = q))) [] := by
  have hE := EqualE_f p.ex q.ex hp.e hq.e
  have hS := Same_f p.need q.need hp.s hq.s hp.h hq.h
  clear hp hq
  obtain ⟨school, id, ver, from_, name, x, total, own, age, ex⟩ := p
  obtain ⟨school', id', ver', from', name', y, total', own', age', ex'⟩ := q
  dsimp only at hE hS
  have hN : (name.toList == name'.toList) = decide (name = name') := str_eq
  obtain ⟨b, hb⟩ : ∃ b, b = decide ((⟨school, id, ver, from_, name, x, total, own, age, ex⟩ : Pg) = ⟨school', id', ver', from', name', y, total', own', age', ex'⟩) := ⟨_, rfl⟩
  rw [← hb]
  generalize hxy : decide (x = y) = bxy at hS
  have hxy' : bxy = true ↔ x = y := by rw [← hxy, decide_eq_true_eq]
  clear hxy
  rw [eq_comm, ← Bool.coe_iff_coe, decide_eq_true_eq, Pg.mk.injEq] at hb
  rw [← hxy'] at hb
  clear hxy'
  replace hb := hb.symm
  obtain ⟨k, n, m, s, l⟩ := x
  obtain ⟨k', n', m', s', l'⟩ := y
  rw [pg_mk, pg_mk]
  rw [nd_mk, nd_mk] at hS
  refine AFun.of_W T_ok mixed Try.func14 rfl (Nat.le_of_ble_eq_true rfl) rfl ?_
  by_cases c0 : school = school'
  case neg =>
    obtain rfl : b = false := by
      rw [Bool.eq_false_iff]; intro h; have := hb.1 h; exact c0 this.1
    clear hb
    ((repeat ((conv => whnf); (first | (refine LetN.pre ?_; first | ((conv => arg 1; whnf); refine LetN.mk ?_)) | (refine As.pre ?_; first | refine As.mk rfl ?_) | (refine LetV.pre ?_; first | refine LetV.mk (.sc (.int _ _)) rfl ?_) | (refine LetB.pre ?_; first | refine LetB.decf (by omega) ?_) | (refine Gd.pre ?_; first | refine Gd.pass rfl ?_) | (refine Ck.pre ?_; first | refine Ck.mk rfl ?_)))); (try (conv => whnf)))
    exact ⟨.inl rfl, ⟨_, rfl, rfl⟩, trivial⟩
  by_cases c1 : id = id'
  case neg =>
    obtain rfl : b = false := by
      rw [Bool.eq_false_iff]; intro h; have := hb.1 h; exact c1 this.2.1
    clear hb
    ((repeat ((conv => whnf); (first | (refine LetN.pre ?_; first | ((conv => arg 1; whnf); refine LetN.mk ?_)) | (refine As.pre ?_; first | refine As.mk rfl ?_) | (refine LetV.pre ?_; first | refine LetV.mk (.sc (.int _ _)) rfl ?_) | (refine LetB.pre ?_; first | refine LetB.dect (by omega) ?_ | refine LetB.decf (by omega) ?_) | (refine Gd.pre ?_; first | refine Gd.run rfl ?_ | refine Gd.pass rfl ?_) | (refine Ck.pre ?_; first | refine Ck.mk rfl ?_)))); (try (conv => whnf)))
    exact ⟨.inl rfl, ⟨_, rfl, rfl⟩, trivial⟩
  by_cases c2 : ver = ver'
  case neg =>
    obtain rfl : b = false := by
      rw [Bool.eq_false_iff]; intro h; have := hb.1 h; exact c2 this.2.2.1
    clear hb
    ((repeat ((conv => whnf); (first | (refine LetN.pre ?_; first | ((conv => arg 1; whnf); refine LetN.mk ?_)) | (refine As.pre ?_; first | refine As.mk rfl ?_) | (refine LetV.pre ?_; first | refine LetV.mk (.sc (.int _ _)) rfl ?_) | (refine LetB.pre ?_; first | refine LetB.dect (by omega) ?_ | refine LetB.decf (by omega) ?_) | (refine Gd.pre ?_; first | refine Gd.run rfl ?_ | refine Gd.pass rfl ?_) | (refine Ck.pre ?_; first | refine Ck.mk rfl ?_)))); (try (conv => whnf)))
    exact ⟨.inl rfl, ⟨_, rfl, rfl⟩, trivial⟩
  by_cases c3 : from_ = from'
  case neg =>
    obtain rfl : b = false := by
      rw [Bool.eq_false_iff]; intro h; have := hb.1 h; exact c3 this.2.2.2.1
    clear hb
    ((repeat ((conv => whnf); (first | (refine LetN.pre ?_; first | ((conv => arg 1; whnf); refine LetN.mk ?_)) | (refine As.pre ?_; first | refine As.mk rfl ?_) | (refine LetV.pre ?_; first | refine LetV.mk (.sc (.int _ _)) rfl ?_) | (refine LetB.pre ?_; first | refine LetB.dect (by omega) ?_ | refine LetB.decf (by omega) ?_) | (refine Gd.pre ?_; first | refine Gd.run rfl ?_ | refine Gd.pass rfl ?_) | (refine Ck.pre ?_; first | refine Ck.mk rfl ?_)))); (try (conv => whnf)))
    exact ⟨.inl rfl, ⟨_, rfl, rfl⟩, trivial⟩
  by_cases c4 : name = name'
  case neg =>
    obtain rfl : b = false := by
      rw [Bool.eq_false_iff]; intro h; have := hb.1 h; exact c4 this.2.2.2.2.1
    clear hb
    rw [decide_eq_false c4] at hN
    ((repeat ((conv => whnf); (first | (refine LetN.pre ?_; first | ((conv => arg 1; whnf); refine LetN.mk ?_)) | (refine As.pre ?_; first | refine As.mk rfl ?_) | (refine LetV.pre ?_; first | refine LetV.mk (.sc (.int _ _)) rfl ?_ | refine LetV.mk (.sc _) rfl ?_) | (refine LetB.pre ?_; first | refine LetB.ff (by assumption) ?_ | refine LetB.dect (by omega) ?_) | (refine Gd.pre ?_; first | refine Gd.run rfl ?_ | refine Gd.pass rfl ?_) | (refine Ck.pre ?_; first | refine Ck.mk rfl ?_)))); (try (conv => whnf)))
    exact ⟨.inl rfl, ⟨_, rfl, rfl⟩, trivial⟩
  rw [decide_eq_true c4] at hN
  by_cases c5 : total = total'
  case neg =>
    obtain rfl : b = false := by
      rw [Bool.eq_false_iff]; intro h; have := hb.1 h; exact c5 this.2.2.2.2.2.2.1
    clear hb
    ((repeat ((conv => whnf); (first | (refine LetN.pre ?_; first | ((conv => arg 1; whnf); refine LetN.mk ?_)) | (refine As.pre ?_; first | refine As.mk rfl ?_) | (refine LetV.pre ?_; first | refine LetV.mk (.sc (.int _ _)) rfl ?_ | refine LetV.mk (.sc _) rfl ?_) | (refine LetB.pre ?_; first | refine LetB.tt (by assumption) ?_ | refine LetB.dect (by omega) ?_ | refine LetB.decf (by omega) ?_) | (refine Gd.pre ?_; first | refine Gd.run rfl ?_ | refine Gd.pass rfl ?_) | (refine Ck.pre ?_; first | refine Ck.mk rfl ?_)))); (try (conv => whnf)))
    exact ⟨.inl rfl, ⟨_, rfl, rfl⟩, trivial⟩
  by_cases c6 : own = own'
  case neg =>
    obtain rfl : b = false := by
      rw [Bool.eq_false_iff]; intro h; have := hb.1 h; exact c6 this.2.2.2.2.2.2.2.1
    clear hb
    ((repeat ((conv => whnf); (first | (refine LetN.pre ?_; first | ((conv => arg 1; whnf); refine LetN.mk ?_)) | (refine As.pre ?_; first | refine As.mk rfl ?_) | (refine LetV.pre ?_; first | refine LetV.mk (.sc (.int _ _)) rfl ?_ | refine LetV.mk (.sc _) rfl ?_) | (refine LetB.pre ?_; first | refine LetB.tt (by assumption) ?_ | refine LetB.dect (by omega) ?_ | refine LetB.decf (by omega) ?_) | (refine Gd.pre ?_; first | refine Gd.run rfl ?_ | refine Gd.pass rfl ?_) | (refine Ck.pre ?_; first | refine Ck.mk rfl ?_)))); (try (conv => whnf)))
    exact ⟨.inl rfl, ⟨_, rfl, rfl⟩, trivial⟩
  by_cases c7 : age = age'
  case neg =>
    obtain rfl : b = false := by
      rw [Bool.eq_false_iff]; intro h; have := hb.1 h; exact c7 this.2.2.2.2.2.2.2.2.1
    clear hb
    ((repeat ((conv => whnf); (first | (refine LetN.pre ?_; first | ((conv => arg 1; whnf); refine LetN.mk ?_)) | (refine As.pre ?_; first | refine As.mk rfl ?_) | (refine LetV.pre ?_; first | refine LetV.mk (.sc (.int _ _)) rfl ?_ | refine LetV.mk (.sc _) rfl ?_) | (refine LetB.pre ?_; first | refine LetB.tt (by assumption) ?_ | refine LetB.dect (by omega) ?_ | refine LetB.decf (by omega) ?_) | (refine Gd.pre ?_; first | refine Gd.run rfl ?_ | refine Gd.pass rfl ?_) | (refine Ck.pre ?_; first | refine Ck.mk rfl ?_)))); (try (conv => whnf)))
    exact ⟨.inl rfl, ⟨_, rfl, rfl⟩, trivial⟩
  by_cases c8 : ex = ex'
  case neg =>
    rw [decide_eq_false c8] at hE
    obtain rfl : b = false := by
      rw [Bool.eq_false_iff]; intro h; have := hb.1 h; exact c8 this.2.2.2.2.2.2.2.2.2
    clear hb
    ((repeat ((conv => whnf); (first | (refine LetN.pre ?_; first | ((conv => arg 1; whnf); refine LetN.mk ?_)) | (refine As.pre ?_; first | refine As.mk rfl ?_) | (refine LetV.pre ?_; first | refine LetV.mk (.sc (.int _ _)) rfl ?_ | refine LetV.mk (.sc _) rfl ?_ | refine LetV.mk (.ro _ _ _) rfl ?_) | (refine LetB.pre ?_; first | refine LetB.tt (by assumption) ?_ | refine LetB.dect (by omega) ?_) | (refine Gd.pre ?_; first | refine Gd.run rfl ?_ | refine Gd.pass rfl ?_) | (refine Ck.pre ?_; first | refine Ck.mk rfl ?_) | (refine CallN.pre ?_; first | refine CallN.pure hE rfl rfl ?_)))); (try (conv => whnf)))
    exact ⟨.inl rfl, ⟨_, rfl, rfl⟩, trivial⟩
  rw [decide_eq_true c8] at hE
  obtain rfl : b = bxy := by
    rw [Bool.eq_iff_iff, hb]; exact ⟨fun h => h.2.2.2.2.2.1, fun h => ⟨c0, c1, c2, c3, c4, h, c5, c6, c7, c8⟩⟩
  clear hb
  cases b <;>
  · ((repeat ((conv => whnf); (first | (refine LetN.pre ?_; first | ((conv => arg 1; whnf); refine LetN.mk ?_)) | (refine As.pre ?_; first | refine As.mk rfl ?_) | (refine LetV.pre ?_; first | refine LetV.mk (.sc (.int _ _)) rfl ?_ | refine LetV.mk (.sc _) rfl ?_ | refine LetV.mk (.agg _) rfl ?_ | refine LetV.mk (.ro _ _ _) rfl ?_) | (refine LetB.pre ?_; first | refine LetB.tt (by assumption) ?_ | refine LetB.dect (by omega) ?_) | (refine Gd.pre ?_; first | refine Gd.run rfl ?_) | (refine Ck.pre ?_; first | refine Ck.mk rfl ?_) | (refine CallN.pre ?_; first | refine CallN.pure hE rfl rfl ?_ | refine CallN.pure hS rfl rfl ?_)))); (try (conv => whnf)))
    exact ⟨.inl rfl, ⟨_, rfl, rfl⟩, trivial⟩
end Pb
end Go.Proofs.Ytjnmbmdplchfkaa
namespace Go.Proofs.Ytjnmbmdplchfkaa
open Go.Proofs.Ytjnmbmdplchfkaa.Am
set_option maxRecDepth 100000
variable [Lo]
namespace Pb
/-! ### Numbers that are drawn -/
abbrev dty : TypeId := 73
abbrev drawB (fl : Fl) (xs : List Int) (at_ : Nat) : Blk := .row 2 dty [.agg [.ro fl 1 (xs.map int), int at_]]
def dv (xs : List Int) (at_ : Nat) (most : Int) : Int := if at_ < xs.length then ((xs.getD at_ 0).tmod most + most).tmod most else 0
def da (xs : List Int) (at_ : Nat) : Nat := if at_ < xs.length then at_ + 1 else at_
theorem dv_range (xs : List Int) (at_ : Nat) {most : Int} (h : 0 < most) : 0 ≤ dv xs at_ most ∧ dv xs at_ most < most := by
  unfold dv
  split
  · have h1 := tmod_bound (xs.getD at_ 0) h
    rw [Int.tmod_eq_emod_of_nonneg (by omega)]
    exact ⟨Int.emod_nonneg _ (by omega), Int.emod_lt_of_pos _ h⟩
  · omega
theorem da_le {xs : List Int} {at_ : Nat} (h : at_ ≤ xs.length) : da xs at_ ≤ xs.length := by
  unfold da; split <;> omega
theorem Next_f (fl : Fl) (xs : List Int) (at_ : Nat) (most : Int) (hl : xs.length ≤ 9223372036854775807) (ha : at_ ≤ xs.length) (hm : 0 < most ∧ most ≤ 1000000) :
    AFun Try.prog 28 1 [.ptr 0 2 0 0, int most] [(0, drawB fl xs at_)] (int (dv xs at_ most)) [(0, drawB fl xs (da xs at_))] := by
  refine AFun.of_W T_ok mixed Try.func28 rfl (Nat.le_of_ble_eq_true rfl) rfl ?_
  have hml : (xs.map int).length = xs.length := List.length_map _
  have hnz : (most != 0) = true := by simp; omega
  unfold dv da
  by_cases hlt : at_ < xs.length
  · rw [if_pos hlt, if_pos hlt]
    have hld : int (xs.getD at_ 0) = (xs.map int).getD at_ (.sc undef) := mapD 0 hlt
    generalize xs.getD at_ 0 = x at hld ⊢
    have hb := tmod_bound x hm.1
    ((repeat ((conv => whnf); (first | (refine LetN.pre ?_; first | ((conv => arg 1; whnf); refine LetN.mk ?_)) | (refine As.pre ?_; first | refine As.mk rfl ?_ | refine As.mk hnz ?_ | (refine As.mk ?_ ?_; · ((repeat' (refine andT ?_ ?_)) <;> (first | rfl | assumption | exact decide_eq_true (by omega) | exact decide_eq_true (by dsimp only; omega) | exact decide_eq_true (by simp; omega) | (simp; done))))) | (refine LetV.pre ?_; first | refine LetV.mk (t := 26) _ hld ?_ | refine LetV.mk (.sc (.int _ _)) rfl ?_ | refine LetV.mk (.ro _ _ _) rfl ?_) | (refine LetI.pre ?_; first | refine LetI.wrap (by omega) (by omega) ?_ | refine LetI.mk _ rfl ?_) | (refine LetB.pre ?_; first | refine LetB.decf (by omega) ?_) | (refine Br.pre ?_; first | refine Br.ff rfl ?_) | (refine Ck.pre ?_; first | refine Ck.drawn (by kernel_rfl) ?_ | refine Ck.mk rfl ?_) | (refine LetL.pre ?_; first | refine LetL.mk [_] rfl ?_)))); (try (conv => whnf)))


    exact ⟨.inl rfl, ⟨_, rfl, rfl⟩, rfl, trivial⟩
  · rw [if_neg hlt, if_neg hlt]
    ((repeat ((conv => whnf); (first | (refine As.pre ?_; first | refine As.mk rfl ?_) | (refine LetV.pre ?_; first | refine LetV.mk (.sc (.int _ _)) rfl ?_ | refine LetV.mk (.ro _ _ _) rfl ?_) | (refine LetI.pre ?_; first | refine LetI.mk _ rfl ?_) | (refine LetB.pre ?_; first | refine LetB.dect (by omega) ?_) | (refine Br.pre ?_; first | refine Br.tt rfl ?_) | (refine Ck.pre ?_; first | refine Ck.drawn (by kernel_rfl) ?_ | refine Ck.mk rfl ?_)))); (try (conv => whnf)))
    exact ⟨.inl rfl, ⟨_, rfl, rfl⟩, rfl, trivial⟩
def codesL : List ByteArray := [⟨#[65, 49]⟩, ⟨#[66, 49]⟩, ⟨#[66, 50]⟩, ⟨#[67, 49]⟩, ⟨#[68, 49]⟩, ⟨#[69, 57]⟩]
theorem Codes_f : AFun Try.prog 48 0 [] [] (.ro ⟨true, true⟩ 1 (codesL.map str)) [] := AFun.of_ev T_ok mixed 20 (by kernel_rfl)
abbrev dty1 : TypeId := 89
abbrev drawB1 (fl : Fl) (xs : List Int) (at_ : Nat) : Blk := .row 2 dty1 [.agg [.ro fl 1 (xs.map int), int at_]]
theorem Mod_f (x m : Int) (h : 0 < m ∧ m ≤ 1000000) : AFun Try.prog 40 0 [int x, int m] [] (int ((x.tmod m + m).tmod m)) [] := by
  refine AFun.of_W T_ok mixed Try.func40 rfl (Nat.le_of_ble_eq_true rfl) rfl ?_
  have hnz : (m != 0) = true := by simp; omega
  have hb := tmod_bound x h.1
  ((repeat ((conv => whnf); (first | (refine As.pre ?_; first | refine As.mk rfl ?_ | refine As.mk hnz ?_) | (refine LetI.pre ?_; first | refine LetI.wrap (by omega) (by omega) ?_ | refine LetI.mk _ rfl ?_) | (refine Ck.pre ?_; first | refine Ck.mk rfl ?_)))); (try (conv => whnf)))
  exact ⟨.inl rfl, ⟨_, rfl, rfl⟩, trivial⟩
theorem Next1_f (fl : Fl) (xs : List Int) (at_ : Nat) (most : Int) (hl : xs.length ≤ 9223372036854775807) (ha : at_ ≤ xs.length) (hm : 0 < most ∧ most ≤ 1000000) :
    AFun Try.prog 37 1 [.ptr 0 2 0 0, int most] [(0, drawB1 fl xs at_)] (int (dv xs at_ most)) [(0, drawB1 fl xs (da xs at_))] := by
  refine AFun.of_W T_ok mixed Try.func37 rfl (Nat.le_of_ble_eq_true rfl) rfl ?_
  have hml : (xs.map int).length = xs.length := List.length_map _
  have hnz : (most != 0) = true := by simp; omega
  unfold dv da
  by_cases hlt : at_ < xs.length
  · rw [if_pos hlt, if_pos hlt]
    have hld : int (xs.getD at_ 0) = (xs.map int).getD at_ (.sc undef) := mapD 0 hlt
    have hld2 : int (xs.getD at_ 0) = (xs.map int).getD ((at_ : Int) + 1 - 1).toNat (.sc undef) := by rw [show ((at_ : Int) + 1 - 1).toNat = at_ by omega]; exact hld
    generalize xs.getD at_ 0 = x at hld hld2 ⊢
    have hM := Mod_f x most hm
    ((repeat ((conv => whnf); (first | (refine LetN.pre ?_; first | ((conv => arg 1; whnf); refine LetN.mk ?_)) | (refine As.pre ?_; first | refine As.mk rfl ?_ | (refine As.mk ?_ ?_; · ((repeat' (refine andT ?_ ?_)) <;> (first | rfl | assumption | exact decide_eq_true (by omega) | exact decide_eq_true (by dsimp only; omega) | exact decide_eq_true (by simp; omega) | (simp; done))))) | (refine LetV.pre ?_; first | refine LetV.mk (t := 26) _ hld2 ?_ | refine LetV.mk (.sc (.int _ _)) rfl ?_ | refine LetV.mk (.ro _ _ _) rfl ?_) | (refine LetI.pre ?_; first | refine LetI.wrap (by omega) (by omega) ?_ | refine LetI.mk _ rfl ?_) | (refine LetB.pre ?_; first | refine LetB.decf (by omega) ?_) | (refine Br.pre ?_; first | refine Br.ff rfl ?_) | (refine Ck.pre ?_; first | refine Ck.drawn (by kernel_rfl) ?_ | refine Ck.mk rfl ?_) | (refine LetL.pre ?_; first | refine LetL.mk [_] rfl ?_) | (refine CallN.pre ?_; first | refine CallN.pure hM rfl rfl ?_)))); (try (conv => whnf)))



    exact ⟨.inl rfl, ⟨_, rfl, rfl⟩, rfl, trivial⟩
  · rw [if_neg hlt, if_neg hlt]
    ((repeat ((conv => whnf); (first | (refine As.pre ?_; first | refine As.mk rfl ?_) | (refine LetV.pre ?_; first | refine LetV.mk (.sc (.int _ _)) rfl ?_ | refine LetV.mk (.ro _ _ _) rfl ?_) | (refine LetI.pre ?_; first | refine LetI.mk _ rfl ?_) | (refine LetB.pre ?_; first | refine LetB.dect (by omega) ?_) | (refine Br.pre ?_; first | refine Br.tt rfl ?_) | (refine Ck.pre ?_; first | refine Ck.drawn (by kernel_rfl) ?_ | refine Ck.mk rfl ?_)))); (try (conv => whnf)))
    exact ⟨.inl rfl, ⟨_, rfl, rfl⟩, rfl, trivial⟩
theorem AFun.of_SE {P : Program} {T : TT} (hT : T.Ok P) {p : Nat} (hm : P.follows .mixedOrders = true) {f : FuncId} {fn : Func} {c : Code} {vs : List AV} {H : AH} {α : Type} {I : α → Prop} {v : α → AV} {H' : α → AH} (hf : P.funcs[f]? = some fn) (hb : fn.body = some c) (hn : vs.length ≤ fn.ntmps) (hB : H.all (fun x => decide (x.1 < p)) = true)
    (h : V P T p fn.ntmps c ⟨argFr vs 0, H, p⟩ (fun e s => ∃ x, I x ∧ FinS T fn p (v x) (H' x) e s)) : ∃ x, I x ∧ AFun P f p vs H (v x) (H' x) := by
  obtain ⟨e, s', h1, _, x, hI, s2, hw, he, ⟨rv, hr, hv⟩, hH⟩ := V_sound hT hm c _ _ h (HB.of_all hB)
  exact ⟨x, hI, (AFun.of_body hT hf hb hn he (h1.post hw) hr hv rfl).forget hH.get⟩
theorem made_next (fl : Fl) (xs : List Int) (hl : xs.length ≤ 9223372036854775807) (at_ : Nat) (most : Int) (ha : at_ ≤ xs.length) (hm : 0 < most ∧ most ≤ 1000000) : ∃ v a, (0 ≤ v ∧ v < most) ∧ a ≤ xs.length ∧
    AFun Try.prog 28 1 [.ptr 0 2 0 0, int most] [(0, drawB fl xs at_)] (int v) [(0, drawB fl xs a)] :=
  ⟨_, _, dv_range xs at_ hm.1, da_le ha, Next_f fl xs at_ most hl ha hm⟩
theorem made_next1 (fl : Fl) (xs : List Int) (hl : xs.length ≤ 9223372036854775807) (at_ : Nat) (most : Int) (ha : at_ ≤ xs.length) (hm : 0 < most ∧ most ≤ 1000000) : ∃ v a, (0 ≤ v ∧ v < most) ∧ a ≤ xs.length ∧
    AFun Try.prog 37 1 [.ptr 0 2 0 0, int most] [(0, drawB1 fl xs at_)] (int v) [(0, drawB1 fl xs a)] :=
  ⟨_, _, dv_range xs at_ hm.1, da_le ha, Next1_f fl xs at_ most hl ha hm⟩
/-! ### A course -/
theorem okCode2 {a b : UInt8} (h : ∀ i, i < 2 → wrongR (byt ⟨#[a, b]⟩ i) = false) : okCode ⟨#[a, b]⟩ := ⟨⟨by show (1 : Nat) ≤ 2; omega, by show (2 : Nat) ≤ 8; omega⟩, h⟩
theorem codes_get (n : Int) (h : 0 ≤ n ∧ n < 6) : ∃ s : ByteArray, okCode s ∧ str s = ([str ⟨#[65, 49]⟩, str ⟨#[66, 49]⟩, str ⟨#[66, 50]⟩, str ⟨#[67, 49]⟩, str ⟨#[68, 49]⟩, str ⟨#[69, 57]⟩] : List AV).getD n.toNat (.sc undef) := by
  obtain ⟨m, rfl⟩ : ∃ m : Nat, n = m := ⟨n.toNat, by omega⟩
  have : m = 0 ∨ m = 1 ∨ m = 2 ∨ m = 3 ∨ m = 4 ∨ m = 5 := by omega
  rcases this with rfl | rfl | rfl | rfl | rfl | rfl <;> exact ⟨_, okCode2 (by decide), rfl⟩
theorem school_get (n : Int) (h : 0 ≤ n ∧ n < 6) : ∃ c : Int, (1 ≤ c ∧ c ≤ 8) ∧ int c = ([int 1, int 1, int 1, int 2, int 2, int 3] : List AV).getD n.toNat (.sc undef) := by
  obtain ⟨m, rfl⟩ : ∃ m : Nat, n = m := ⟨n.toNat, by omega⟩
  have : m = 0 ∨ m = 1 ∨ m = 2 ∨ m = 3 ∨ m = 4 ∨ m = 5 := by omega
  rcases this with rfl | rfl | rfl | rfl | rfl | rfl <;> exact ⟨_, by decide, rfl⟩
theorem course_f (fl : Fl) (xs : List Int) (hl : xs.length ≤ 9223372036854775807) (at_ : Nat) (ha : at_ ≤ xs.length) : ∃ c a, okC c ∧ a ≤ xs.length ∧
    AFun Try.prog 29 1 [.ptr 0 2 0 0] [(0, drawB fl xs at_)] (coA c) [(0, drawB fl xs a)] := by
  obtain ⟨v1, a1, r1, q1, N1⟩ := made_next fl xs hl at_ 6 ha (by omega)
  obtain ⟨v2, a2, r2, q2, N2⟩ := made_next fl xs hl a1 6 q1 (by omega)
  obtain ⟨sc, h1, k1⟩ := school_get v1 r1
  obtain ⟨cd, h2, k2⟩ := codes_get v2 r2
  refine ⟨(sc, cd), a2, ⟨h1, h2⟩, q2, ?_⟩
  have hC : AFun Try.prog 48 0 [] [] (.ro ⟨true, true⟩ 1 [str ⟨#[65, 49]⟩, str ⟨#[66, 49]⟩, str ⟨#[66, 50]⟩, str ⟨#[67, 49]⟩, str ⟨#[68, 49]⟩, str ⟨#[69, 57]⟩]) [] := Codes_f
  refine AFun.of_W T_ok mixed Try.func29 rfl (Nat.le_of_ble_eq_true rfl) rfl ?_
  ((repeat ((conv => whnf); (first | (refine LetN.pre ?_; first | ((conv => arg 1; whnf); refine LetN.mk ?_)) | (refine As.pre ?_; first | refine As.mk rfl ?_ | (refine As.mk ?_ ?_; · ((repeat' (refine andT ?_ ?_)) <;> (first | rfl | assumption | exact decide_eq_true (by omega) | exact decide_eq_true (by dsimp only; omega) | exact decide_eq_true (by simp; omega) | (simp; done))))) | (refine LetV.pre ?_; first | refine LetV.mk (t := 26) _ k1 ?_ | refine LetV.mk (t := 75) _ k2 ?_ | refine LetV.mk (.sc (.int _ _)) rfl ?_ | refine LetV.mk (.sc _) rfl ?_) | (refine LetI.pre ?_; first | refine LetI.mk _ rfl ?_) | (refine Ck.pre ?_; first | refine Ck.mk rfl ?_) | (refine LetL.pre ?_; first | refine LetL.mk [_] rfl ?_) | (refine CallN.pre ?_; first | refine CallN.pure hC rfl rfl ?_ | refine CallN.own (fun _ => 0) N1 (CallOk.mk' rfl rfl rfl (namesAll.row rfl rfl) rfl (namesAll.row rfl rfl) (haveAll.row rfl rfl trivial)) ?_ | refine CallN.own (fun _ => 0) N2 (CallOk.mk' rfl rfl rfl (namesAll.row rfl rfl) rfl (namesAll.row rfl rfl) (haveAll.row rfl rfl trivial)) ?_)))); (try (conv => whnf)))





  exact ⟨.inl rfl, ⟨_, rfl, rfl⟩, rfl, trivial⟩
end Pb
end Go.Proofs.Ytjnmbmdplchfkaa
namespace Go.Proofs.Ytjnmbmdplchfkaa
open Go.Proofs.Ytjnmbmdplchfkaa.Am
set_option maxRecDepth 100000
variable [Lo]
namespace Pb
/-! ### A set of courses -/
theorem frzD {f : FuncId} {vs : List AV} {H0 : AH} {fl fl' : Fl} {xs : List Int} {a E len : Nat} {ty : TypeId} {es : List AV} (h : AFun Try.prog f 1 vs H0 (.slm fl' 1 E 0 len) [(0, drawB fl xs a), (1, .row E ty es)]) (hp : AV.namesL (fun _ => false) es = true) (hl : len = es.length) : AFun Try.prog f 1 vs H0 (.ro fl' E es) [(0, drawB fl xs a)] :=
  (AFun.frz [1] h (by show (AV.namesL (fun _ => false) es && true) = true; rw [hp]; rfl) rfl (frz_slm rfl rfl hl).2).cast (frz_slm rfl rfl hl).1 rfl
/-- Courses in order. -/
def ordS : List Co → Prop
  | [] => True
  | [_] => True
  | a :: b :: l => prec a b = true ∧ ordS (b :: l)
theorem ordS_at : ∀ (s : List Co), ordS s → ∀ i, i + 1 < s.length → prec (s.getD i (0, ⟨#[]⟩)) (s.getD (i + 1) (0, ⟨#[]⟩)) = true
  | [], _, i, h => by simp at h
  | [_], _, i, h => by simp at h
  | a :: b :: l, hs, 0, _ => hs.1
  | a :: b :: l, hs, i + 1, h => ordS_at (b :: l) hs.2 i (by simpa using h)
theorem less_tot : ∀ a b : List UInt8, a ≠ b → Op.bytesLess a b = false → Op.bytesLess b a = true
  | [], [], h, _ => absurd rfl h
  | _ :: _, [], _, _ => rfl
  | [], _ :: _, _, h => by cases h
  | x :: xs, y :: ys, hn, h => by
    replace h : (decide (x < y) || (x == y && Op.bytesLess xs ys)) = false := h
    show (decide (y < x) || (y == x && Op.bytesLess ys xs)) = true
    rw [Bool.or_eq_false_iff, decide_eq_false_iff_not] at h
    by_cases h2 : y < x
    · rw [decide_eq_true h2]; rfl
    · have e : x = y := UInt8.toNat_inj.1 (by have := mt UInt8.lt_iff_toNat_lt.2 h.1; have := mt UInt8.lt_iff_toNat_lt.2 h2; omega)
      subst e
      have h3 : Op.bytesLess xs ys = false := by have := h.2; simpa using this
      rw [less_tot xs ys (fun e => hn (by rw [e])) h3]; simp
theorem ltB_tot {a b : ByteArray} (h : a.toList ≠ b.toList) (h2 : ltB a b = false) : ltB b a = true := less_tot _ _ h h2
theorem prec_tot {a b : Co} (h : prec a b = false) (hn : a ≠ b) : prec b a = true := by
  obtain ⟨a1, a2⟩ := a
  obtain ⟨b1, b2⟩ := b
  unfold prec at h ⊢
  dsimp only at h ⊢
  rw [Bool.or_eq_false_iff, decide_eq_false_iff_not] at h
  by_cases h1 : b1 < a1
  · rw [decide_eq_true h1]; rfl
  · have e : a1 = b1 := by have := h.1; omega
    subst e
    have h3 : ltB a2 b2 = false := by have := h.2; simpa using this
    have h4 : a2.toList ≠ b2.toList := fun e => hn (by
      have : a2 = b2 := by
        have e' := @str_eq _ a2 b2
        rw [beq_iff_eq.2 e] at e'
        exact of_decide_eq_true e'.symm
      rw [this])
    rw [ltB_tot h4 h3]; simp
theorem stN (q : Nat) (fl : Fl) (xs : List Int) (a : Nat) (out : List Co) (ok : Nat → Bool) : namesAll ok [(0, drawB fl xs a), (q, .row 2 cty (out.map coA))] = true := namesAll.row rfl (namesAll.row (pure_co _) rfl)
abbrev stS (fl : Fl) (xs : List Int) (many : Int) : Nat × Nat × List Co → AS
  | (k, at_, out) => ⟨[(0, .ptr 0 2 0 0), (3, int many), (4, .slm {} 1 2 0 out.length), (5, int k)], [(0, drawB fl xs at_), (1, .row 2 cty (out.map coA))], 2⟩
theorem room_co {n : Nat} (h : n ≤ 1000000) : room n 24 = true := by
  simp only [room, Bool.and_eq_true, decide_eq_true_eq]
  exact ⟨by omega, rfl⟩
theorem eq_tt {a b : Co} (h : a = b) : true = (a.1 == b.1 && (a.2.toList == b.2.toList && true)) := by subst h; simp
theorem eq_ff {a b : Co} (h : a ≠ b) : false = (a.1 == b.1 && (a.2.toList == b.2.toList && true)) := by rw [co_eq, decide_eq_false h]
set_option maxHeartbeats 6400000 in
set_option maxRecDepth 100000 in
theorem set_s (fl : Fl) (xs : List Int) (hx : xs.length ≤ 9223372036854775807) (at_ : Nat) (ha : at_ ≤ xs.length) : ∃ x : List Co × Nat, ((1 ≤ x.1.length ∧ x.1.length ≤ 3) ∧ (∀ c ∈ x.1, okC c) ∧ ordS x.1 ∧ x.2 ≤ xs.length) ∧
    AFun Try.prog 49 1 [.ptr 0 2 0 0] [(0, drawB fl xs at_)] (.slm {} 1 2 0 x.1.length) [(0, drawB fl xs x.2), (1, .row 2 cty (x.1.map coA))] := by
  refine AFun.of_SE (p := 1) (H := [(0, drawB fl xs at_)]) T_ok mixed (v := fun x : List Co × Nat => .slm {} 1 2 0 x.1.length) (H' := fun x : List Co × Nat => [(0, drawB fl xs x.2), (1, .row 2 cty (x.1.map coA))]) Try.func49 rfl (Nat.le_of_ble_eq_true rfl) rfl ?_
  obtain ⟨v1, a1, r1, q1, N1⟩ := made_next fl xs hx at_ 3 ha (by omega)
  ((repeat ((conv => whnf); (first | (refine LetN.pre ?_; first | ((conv => arg 1; whnf); refine LetN.mk ?_)) | (refine As.pre ?_; first | refine As.mk rfl ?_ | (refine As.mk ?_ ?_; · decide +kernel) | refine As.mk (andT (nor_self _) rfl) ?_ | refine As.mk (andT (nor_self _) (or_t _)) ?_ | refine As.mk (andT (or_t _) (or_nself _)) ?_ | refine As.mk (andT (or_t _) (or_t _)) ?_ | refine As.mk (andT (nor_self _) (andT (nor_self _) rfl)) ?_ | (refine As.mk ?_ ?_; · ((repeat' (refine andT ?_ ?_)) <;> (first | rfl | assumption | exact decide_eq_true (by omega) | exact decide_eq_true (by dsimp only; omega) | exact decide_eq_true (by simp; omega) | (simp; done))))) | (refine LetV.pre ?_; first | refine LetV.mk (.sc (.int _ _)) rfl ?_ | refine LetV.mk (.sc (.bool _)) rfl ?_ | refine LetV.mk (.sc _) rfl ?_ | refine LetV.mk (.agg _) rfl ?_ | refine LetV.mk (.slm _ _ _ _ _) rfl ?_ | refine LetV.mk (.ro _ _ _) rfl ?_ | refine LetV.mk (.ptr _ _ _ _) rfl ?_ | refine LetV.mk (.clo _ _ _) rfl ?_ | refine LetV.mk (.rp _ _) rfl ?_) | (refine LetI.pre ?_; first | refine LetI.wrap (by omega) (by omega) ?_ | refine LetI.mk _ rfl ?_) | (refine LetB.pre ?_; first | refine LetB.tt rfl ?_ | refine LetB.ff rfl ?_ | refine LetB.tt (by assumption) ?_ | refine LetB.ff (by assumption) ?_ | refine LetB.dect (by omega) ?_ | refine LetB.decf (by omega) ?_ | refine LetB.beqt (by omega) ?_ | refine LetB.beqf (by omega) ?_ | refine LetB.bnet (by omega) ?_ | refine LetB.bnef (by omega) ?_ | refine LetB.mk _ rfl ?_) | (refine Gd.pre ?_; first | refine Gd.run rfl ?_ | refine Gd.pass rfl ?_ | refine Gd.run (by assumption) ?_ | refine Gd.pass (by assumption) ?_ | (refine Gd.run ?_ ?_; · decide +kernel) | (refine Gd.pass ?_ ?_; · decide +kernel) | refine Gd.both ?_) | (refine Br.pre ?_; first | refine Br.tt rfl ?_ | refine Br.ff rfl ?_ | refine Br.tt (by assumption) ?_ | refine Br.ff (by assumption) ?_ | (refine Br.tt ?_ ?_; · decide +kernel) | (refine Br.ff ?_ ?_; · decide +kernel)) | (refine Ck.pre ?_; first | refine Ck.drawn (by kernel_rfl) ?_ | refine Ck.mk rfl ?_) | (refine LetL.pre ?_; first | refine LetL.mk [_] rfl ?_ | refine LetL.mk _ rfl ?_) | (refine CallN.pre ?_; first | refine CallN.own (fun _ => 0) N1 (CallOk.mk' rfl rfl rfl (namesAll.row rfl rfl) rfl (namesAll.row rfl rfl) (haveAll.row rfl rfl trivial)) ?_) | refine forceAs.pass ?_ | refine forceEs.pass ?_ | refine forceC.pass ?_))); (try (conv => whnf)))

  refine LoopN.weak (s1 := stS fl xs (1 + v1) (0, a1, [])) ?sw1 ?_
  case sw1 => exact SW.mk id rfl rfl (stN _ _ _ _ _ _) ⟨.refl _, .refl _, VLe2.nilslm, .refl _, trivial⟩ (haveV.row rfl rfl (haveV.nil (Nat.le_of_ble_eq_true rfl) trivial))
  refine LoopN.ind T_ok mixed (S := stS fl xs (1 + v1)) (fun i => 24 - i.1) (fun i => ((i.1 : Int) ≤ 1 + v1 ∧ i.2.1 ≤ xs.length) ∧ (i.2.2.length ≤ i.1 ∧ (0 < i.1 → 1 ≤ i.2.2.length)) ∧ (∀ c ∈ i.2.2, okC c) ∧ ordS i.2.2) (fun _ => rfl) (fun i hi ih => ?_) (0, a1, []) ⟨⟨by show (0 : Int) ≤ 1 + v1; omega, q1⟩, ⟨Nat.le_refl _, fun h => absurd h (Nat.lt_irrefl _)⟩, ⟨fun c h => absurd h List.not_mem_nil, trivial⟩⟩
  clear N1 q1 a1 ha at_
  obtain ⟨k, at_, out⟩ := i
  obtain ⟨⟨h1, h2⟩, ⟨h3, h4⟩, h5, h6⟩ := hi
  dsimp only at h1 h2 h3 h4 h5 h6
  by_cases hlt : (k : Int) < 1 + v1
  case neg =>
    clear ih
    ((repeat ((conv => whnf); (first | (refine LetN.pre ?_; first | ((conv => arg 1; whnf); refine LetN.mk ?_)) | (refine As.pre ?_; first | refine As.mk rfl ?_ | (refine As.mk ?_ ?_; · decide +kernel) | refine As.mk (andT (nor_self _) rfl) ?_ | refine As.mk (andT (nor_self _) (or_t _)) ?_ | refine As.mk (andT (or_t _) (or_nself _)) ?_ | refine As.mk (andT (or_t _) (or_t _)) ?_ | refine As.mk (andT (nor_self _) (andT (nor_self _) rfl)) ?_ | (refine As.mk ?_ ?_; · ((repeat' (refine andT ?_ ?_)) <;> (first | rfl | assumption | exact decide_eq_true (by omega) | exact decide_eq_true (by dsimp only; omega) | exact decide_eq_true (by simp; omega) | (simp; done))))) | (refine LetV.pre ?_; first | refine LetV.mk (.sc (.int _ _)) rfl ?_ | refine LetV.mk (.sc (.bool _)) rfl ?_ | refine LetV.mk (.sc _) rfl ?_ | refine LetV.mk (.agg _) rfl ?_ | refine LetV.mk (.slm _ _ _ _ _) rfl ?_ | refine LetV.mk (.ro _ _ _) rfl ?_ | refine LetV.mk (.ptr _ _ _ _) rfl ?_ | refine LetV.mk (.clo _ _ _) rfl ?_ | refine LetV.mk (.rp _ _) rfl ?_) | (refine LetI.pre ?_; first | refine LetI.wrap (by omega) (by omega) ?_ | refine LetI.mk _ rfl ?_) | (refine LetB.pre ?_; first | refine LetB.tt rfl ?_ | refine LetB.ff rfl ?_ | refine LetB.tt (by assumption) ?_ | refine LetB.ff (by assumption) ?_ | refine LetB.dect (by omega) ?_ | refine LetB.decf (by omega) ?_ | refine LetB.beqt (by omega) ?_ | refine LetB.beqf (by omega) ?_ | refine LetB.bnet (by omega) ?_ | refine LetB.bnef (by omega) ?_ | refine LetB.mk _ rfl ?_) | (refine Gd.pre ?_; first | refine Gd.run rfl ?_ | refine Gd.pass rfl ?_ | refine Gd.run (by assumption) ?_ | refine Gd.pass (by assumption) ?_ | (refine Gd.run ?_ ?_; · decide +kernel) | (refine Gd.pass ?_ ?_; · decide +kernel) | refine Gd.both ?_) | (refine Br.pre ?_; first | refine Br.tt rfl ?_ | refine Br.ff rfl ?_ | refine Br.tt (by assumption) ?_ | refine Br.ff (by assumption) ?_ | (refine Br.tt ?_ ?_; · decide +kernel) | (refine Br.ff ?_ ?_; · decide +kernel)) | (refine Ck.pre ?_; first | refine Ck.drawn (by kernel_rfl) ?_ | refine Ck.mk rfl ?_) | (refine LetL.pre ?_; first | refine LetL.mk [_] rfl ?_ | refine LetL.mk _ rfl ?_) | refine forceAs.pass ?_ | refine forceEs.pass ?_ | refine forceC.pass ?_))); (try (conv => whnf)))
    exact ⟨(out, at_), ⟨⟨by show 1 ≤ out.length; exact h4 (by omega), by show out.length ≤ 3; omega⟩, h5, h6, h2⟩, ⟨[(2, .slm {} 1 2 0 out.length)], [(0, drawB fl xs at_), (1, .row 2 cty (out.map coA))], 2⟩, SW.mk id rfl rfl (stN _ _ _ _ _ _) ⟨.refl _, trivial⟩ (haveV.row rfl rfl (haveV.row (pure_co _) rfl trivial)), .inl rfl, ⟨_, rfl, rfl⟩, rfl, rfl, trivial⟩
  obtain ⟨c, a2, oc, q2, N2⟩ := course_f fl xs hx at_ h2
  have hnx : ∀ out' : List Co, (1 ≤ out'.length ∧ out'.length ≤ k + 1) → (∀ c ∈ out', okC c) → ordS out' → LoopN _ _ _ _ _ _ := fun out' e1 e2 e3 => ih (k + 1, a2, out') ⟨⟨by show ((k + 1 : Nat) : Int) ≤ _; omega, q2⟩, ⟨e1.2, fun _ => e1.1⟩, e2, e3⟩ (by show 24 - (k + 1) < 24 - k; omega)
  clear ih
  have hr := room_co (n := out.length + 1) (by omega)
-- BODY
  match out, h3, h4, h5, h6, hr with
  | [], h3, h4, h5, h6, hr =>
    ((repeat ((conv => whnf); (first | (refine LetN.pre ?_; first | ((conv => arg 1; whnf); refine LetN.mk ?_)) | (refine As.pre ?_; first | refine As.mk rfl ?_ | (refine As.mk ?_ ?_; · decide +kernel) | refine As.mk (andT (nor_self _) rfl) ?_ | refine As.mk (andT (nor_self _) (or_t _)) ?_ | refine As.mk (andT (or_t _) (or_nself _)) ?_ | refine As.mk (andT (or_t _) (or_t _)) ?_ | refine As.mk (andT (nor_self _) (andT (nor_self _) rfl)) ?_ | (refine As.mk ?_ ?_; · ((repeat' (refine andT ?_ ?_)) <;> (first | rfl | assumption | exact decide_eq_true (by omega) | exact decide_eq_true (by dsimp only; omega) | exact decide_eq_true (by simp; omega) | (simp; done))))) | (refine LetV.pre ?_; first | refine LetV.mk (.sc (.int _ _)) rfl ?_ | refine LetV.mk (.sc (.bool _)) rfl ?_ | refine LetV.mk (.sc _) rfl ?_ | refine LetV.mk (.agg _) rfl ?_ | refine LetV.mk (.slm _ _ _ _ _) rfl ?_ | refine LetV.mk (.ro _ _ _) rfl ?_ | refine LetV.mk (.ptr _ _ _ _) rfl ?_ | refine LetV.mk (.clo _ _ _) rfl ?_ | refine LetV.mk (.rp _ _) rfl ?_) | (refine LetI.pre ?_; first | refine LetI.wrap (by omega) (by omega) ?_ | refine LetI.mk _ rfl ?_) | (refine LetB.pre ?_; first | refine LetB.tt rfl ?_ | refine LetB.ff rfl ?_ | refine LetB.tt (by assumption) ?_ | refine LetB.ff (by assumption) ?_ | refine LetB.dect (by omega) ?_ | refine LetB.decf (by omega) ?_ | refine LetB.beqt (by omega) ?_ | refine LetB.beqf (by omega) ?_ | refine LetB.bnet (by omega) ?_ | refine LetB.bnef (by omega) ?_ | refine LetB.mk _ rfl ?_) | (refine Gd.pre ?_; first | refine Gd.run rfl ?_ | refine Gd.pass rfl ?_ | refine Gd.run (by assumption) ?_ | refine Gd.pass (by assumption) ?_ | (refine Gd.run ?_ ?_; · decide +kernel) | (refine Gd.pass ?_ ?_; · decide +kernel) | refine Gd.both ?_) | (refine Br.pre ?_; first | refine Br.tt rfl ?_ | refine Br.ff rfl ?_ | refine Br.tt (by assumption) ?_ | refine Br.ff (by assumption) ?_ | (refine Br.tt ?_ ?_; · decide +kernel) | (refine Br.ff ?_ ?_; · decide +kernel)) | (refine Ck.pre ?_; first | refine Ck.drawn (by kernel_rfl) ?_ | refine Ck.mk rfl ?_) | (refine LetL.pre ?_; first | refine LetL.mk [_] rfl ?_ | refine LetL.mk _ rfl ?_) | (refine CallN.pre ?_; first | refine CallN.own (fun _ => 0) N2 (CallOk.mk' rfl rfl rfl (namesAll.row rfl rfl) rfl (namesAll.row rfl rfl) (haveAll.row rfl rfl trivial)) ?_) | refine forceAs.pass ?_ | refine forceEs.pass ?_ | refine forceC.pass ?_))); (try (conv => whnf)))

    refine LoopN.round T_ok mixed rfl ?_
    ((repeat ((conv => whnf); (first | (refine LetN.pre ?_; first | ((conv => arg 1; whnf); refine LetN.mk ?_)) | (refine As.pre ?_; first | refine As.mk rfl ?_ | (refine As.mk ?_ ?_; · decide +kernel) | refine As.mk (andT (nor_self _) rfl) ?_ | refine As.mk (andT (nor_self _) (or_t _)) ?_ | refine As.mk (andT (or_t _) (or_nself _)) ?_ | refine As.mk (andT (or_t _) (or_t _)) ?_ | refine As.mk (andT (nor_self _) (andT (nor_self _) rfl)) ?_ | (refine As.mk ?_ ?_; · ((repeat' (refine andT ?_ ?_)) <;> (first | rfl | assumption | exact decide_eq_true (by omega) | exact decide_eq_true (by dsimp only; omega) | exact decide_eq_true (by simp; omega) | (simp; done))))) | (refine LetV.pre ?_; first | refine LetV.mk (.sc (.int _ _)) rfl ?_ | refine LetV.mk (.sc (.bool _)) rfl ?_ | refine LetV.mk (.sc _) rfl ?_ | refine LetV.mk (.agg _) rfl ?_ | refine LetV.mk (.slm _ _ _ _ _) rfl ?_ | refine LetV.mk (.ro _ _ _) rfl ?_ | refine LetV.mk (.ptr _ _ _ _) rfl ?_ | refine LetV.mk (.clo _ _ _) rfl ?_ | refine LetV.mk (.rp _ _) rfl ?_) | (refine LetI.pre ?_; first | refine LetI.wrap (by omega) (by omega) ?_ | refine LetI.mk _ rfl ?_) | (refine LetB.pre ?_; first | refine LetB.tt rfl ?_ | refine LetB.ff rfl ?_ | refine LetB.tt (by assumption) ?_ | refine LetB.ff (by assumption) ?_ | refine LetB.dect (by omega) ?_ | refine LetB.decf (by omega) ?_ | refine LetB.beqt (by omega) ?_ | refine LetB.beqf (by omega) ?_ | refine LetB.bnet (by omega) ?_ | refine LetB.bnef (by omega) ?_ | refine LetB.mk _ rfl ?_) | (refine Gd.pre ?_; first | refine Gd.run rfl ?_ | refine Gd.pass rfl ?_ | refine Gd.run (by assumption) ?_ | refine Gd.pass (by assumption) ?_ | (refine Gd.run ?_ ?_; · decide +kernel) | (refine Gd.pass ?_ ?_; · decide +kernel) | refine Gd.both ?_) | (refine Br.pre ?_; first | refine Br.tt rfl ?_ | refine Br.ff rfl ?_ | refine Br.tt (by assumption) ?_ | refine Br.ff (by assumption) ?_ | (refine Br.tt ?_ ?_; · decide +kernel) | (refine Br.ff ?_ ?_; · decide +kernel)) | (refine Ck.pre ?_; first | refine Ck.drawn (by kernel_rfl) ?_ | refine Ck.mk rfl ?_) | (refine LetL.pre ?_; first | refine LetL.mk [_] rfl ?_ | refine LetL.mk _ rfl ?_) | (refine CallN.pre ?_; first | refine CallN.own (fun _ => 0) N2 (CallOk.mk' rfl rfl rfl (namesAll.row rfl rfl) rfl (namesAll.row rfl rfl) (haveAll.row rfl rfl trivial)) ?_) | refine forceAs.pass ?_ | refine forceEs.pass ?_ | refine forceC.pass ?_))); (try (conv => whnf)))

    refine LoopN.weak ?sw_1 (hnx [c] ⟨Nat.le_refl _, Nat.succ_le_succ (Nat.zero_le _)⟩ (by intro x hx; simp only [List.mem_cons, List.not_mem_nil, or_false] at hx; rcases hx with rfl <;> first | exact oc | exact h5 _ (by simp)) (by exact trivial))
    case sw_1 => exact SW.mk (fun i => match i with | 1 => 3 | i => i) rfl rfl (stN _ _ _ _ _ _) ⟨.refl _, .refl _, VLe2.slm_of rfl, VLe2.int (by omega), trivial⟩ (haveV.row rfl rfl (haveV.row (pure_co _) rfl trivial))
  | [a], h3, h4, h5, h6, hr =>
    have p1 := rPrecedes_f a c
    cases e1 : prec a c with
    | true =>
      rw [e1] at p1
      ((repeat ((conv => whnf); (first | (refine LetN.pre ?_; first | ((conv => arg 1; whnf); refine LetN.mk ?_)) | (refine As.pre ?_; first | refine As.mk rfl ?_ | (refine As.mk ?_ ?_; · decide +kernel) | refine As.mk (andT (nor_self _) rfl) ?_ | refine As.mk (andT (nor_self _) (or_t _)) ?_ | refine As.mk (andT (or_t _) (or_nself _)) ?_ | refine As.mk (andT (or_t _) (or_t _)) ?_ | refine As.mk (andT (nor_self _) (andT (nor_self _) rfl)) ?_ | (refine As.mk ?_ ?_; · ((repeat' (refine andT ?_ ?_)) <;> (first | rfl | assumption | exact decide_eq_true (by omega) | exact decide_eq_true (by dsimp only; omega) | exact decide_eq_true (by simp; omega) | (simp; done))))) | (refine LetV.pre ?_; first | refine LetV.mk (.sc (.int _ _)) rfl ?_ | refine LetV.mk (.sc (.bool _)) rfl ?_ | refine LetV.mk (.sc _) rfl ?_ | refine LetV.mk (.agg _) rfl ?_ | refine LetV.mk (.slm _ _ _ _ _) rfl ?_ | refine LetV.mk (.ro _ _ _) rfl ?_ | refine LetV.mk (.ptr _ _ _ _) rfl ?_ | refine LetV.mk (.clo _ _ _) rfl ?_ | refine LetV.mk (.rp _ _) rfl ?_) | (refine LetI.pre ?_; first | refine LetI.wrap (by omega) (by omega) ?_ | refine LetI.mk _ rfl ?_) | (refine LetB.pre ?_; first | refine LetB.tt rfl ?_ | refine LetB.ff rfl ?_ | refine LetB.tt (by assumption) ?_ | refine LetB.ff (by assumption) ?_ | refine LetB.dect (by omega) ?_ | refine LetB.decf (by omega) ?_ | refine LetB.beqt (by omega) ?_ | refine LetB.beqf (by omega) ?_ | refine LetB.bnet (by omega) ?_ | refine LetB.bnef (by omega) ?_ | refine LetB.mk _ rfl ?_) | (refine Gd.pre ?_; first | refine Gd.run rfl ?_ | refine Gd.pass rfl ?_ | refine Gd.run (by assumption) ?_ | refine Gd.pass (by assumption) ?_ | (refine Gd.run ?_ ?_; · decide +kernel) | (refine Gd.pass ?_ ?_; · decide +kernel) | refine Gd.both ?_) | (refine Br.pre ?_; first | refine Br.tt rfl ?_ | refine Br.ff rfl ?_ | refine Br.tt (by assumption) ?_ | refine Br.ff (by assumption) ?_ | (refine Br.tt ?_ ?_; · decide +kernel) | (refine Br.ff ?_ ?_; · decide +kernel)) | (refine Ck.pre ?_; first | refine Ck.drawn (by kernel_rfl) ?_ | refine Ck.mk rfl ?_) | (refine LetL.pre ?_; first | refine LetL.mk [_] rfl ?_ | refine LetL.mk _ rfl ?_) | (refine CallN.pre ?_; first | refine CallN.own (fun _ => 0) N2 (CallOk.mk' rfl rfl rfl (namesAll.row rfl rfl) rfl (namesAll.row rfl rfl) (haveAll.row rfl rfl trivial)) ?_ | refine CallN.pure p1 rfl rfl ?_) | refine forceAs.pass ?_ | refine forceEs.pass ?_ | refine forceC.pass ?_))); (try (conv => whnf)))


      refine LoopN.round T_ok mixed rfl ?_
      ((repeat ((conv => whnf); (first | (refine LetN.pre ?_; first | ((conv => arg 1; whnf); refine LetN.mk ?_)) | (refine As.pre ?_; first | refine As.mk rfl ?_ | (refine As.mk ?_ ?_; · decide +kernel) | refine As.mk (andT (nor_self _) rfl) ?_ | refine As.mk (andT (nor_self _) (or_t _)) ?_ | refine As.mk (andT (or_t _) (or_nself _)) ?_ | refine As.mk (andT (or_t _) (or_t _)) ?_ | refine As.mk (andT (nor_self _) (andT (nor_self _) rfl)) ?_ | (refine As.mk ?_ ?_; · ((repeat' (refine andT ?_ ?_)) <;> (first | rfl | assumption | exact decide_eq_true (by omega) | exact decide_eq_true (by dsimp only; omega) | exact decide_eq_true (by simp; omega) | (simp; done))))) | (refine LetV.pre ?_; first | refine LetV.mk (.sc (.int _ _)) rfl ?_ | refine LetV.mk (.sc (.bool _)) rfl ?_ | refine LetV.mk (.sc _) rfl ?_ | refine LetV.mk (.agg _) rfl ?_ | refine LetV.mk (.slm _ _ _ _ _) rfl ?_ | refine LetV.mk (.ro _ _ _) rfl ?_ | refine LetV.mk (.ptr _ _ _ _) rfl ?_ | refine LetV.mk (.clo _ _ _) rfl ?_ | refine LetV.mk (.rp _ _) rfl ?_) | (refine LetI.pre ?_; first | refine LetI.wrap (by omega) (by omega) ?_ | refine LetI.mk _ rfl ?_) | (refine LetB.pre ?_; first | refine LetB.tt rfl ?_ | refine LetB.ff rfl ?_ | refine LetB.tt (by assumption) ?_ | refine LetB.ff (by assumption) ?_ | refine LetB.dect (by omega) ?_ | refine LetB.decf (by omega) ?_ | refine LetB.beqt (by omega) ?_ | refine LetB.beqf (by omega) ?_ | refine LetB.bnet (by omega) ?_ | refine LetB.bnef (by omega) ?_ | refine LetB.mk _ rfl ?_) | (refine Gd.pre ?_; first | refine Gd.run rfl ?_ | refine Gd.pass rfl ?_ | refine Gd.run (by assumption) ?_ | refine Gd.pass (by assumption) ?_ | (refine Gd.run ?_ ?_; · decide +kernel) | (refine Gd.pass ?_ ?_; · decide +kernel) | refine Gd.both ?_) | (refine Br.pre ?_; first | refine Br.tt rfl ?_ | refine Br.ff rfl ?_ | refine Br.tt (by assumption) ?_ | refine Br.ff (by assumption) ?_ | (refine Br.tt ?_ ?_; · decide +kernel) | (refine Br.ff ?_ ?_; · decide +kernel)) | (refine Ck.pre ?_; first | refine Ck.drawn (by kernel_rfl) ?_ | refine Ck.mk rfl ?_) | (refine LetL.pre ?_; first | refine LetL.mk [_] rfl ?_ | refine LetL.mk _ rfl ?_) | (refine CallN.pre ?_; first | refine CallN.own (fun _ => 0) N2 (CallOk.mk' rfl rfl rfl (namesAll.row rfl rfl) rfl (namesAll.row rfl rfl) (haveAll.row rfl rfl trivial)) ?_ | refine CallN.pure p1 rfl rfl ?_) | refine forceAs.pass ?_ | refine forceEs.pass ?_ | refine forceC.pass ?_))); (try (conv => whnf)))


      refine LoopN.round T_ok mixed rfl ?_
      ((repeat ((conv => whnf); (first | (refine LetN.pre ?_; first | ((conv => arg 1; whnf); refine LetN.mk ?_)) | (refine As.pre ?_; first | refine As.mk rfl ?_ | (refine As.mk ?_ ?_; · decide +kernel) | refine As.mk (andT (nor_self _) rfl) ?_ | refine As.mk (andT (nor_self _) (or_t _)) ?_ | refine As.mk (andT (or_t _) (or_nself _)) ?_ | refine As.mk (andT (or_t _) (or_t _)) ?_ | refine As.mk (andT (nor_self _) (andT (nor_self _) rfl)) ?_ | (refine As.mk ?_ ?_; · ((repeat' (refine andT ?_ ?_)) <;> (first | rfl | assumption | exact decide_eq_true (by omega) | exact decide_eq_true (by dsimp only; omega) | exact decide_eq_true (by simp; omega) | (simp; done))))) | (refine LetV.pre ?_; first | refine LetV.mk (.sc (.int _ _)) rfl ?_ | refine LetV.mk (.sc (.bool _)) rfl ?_ | refine LetV.mk (.sc _) rfl ?_ | refine LetV.mk (.agg _) rfl ?_ | refine LetV.mk (.slm _ _ _ _ _) rfl ?_ | refine LetV.mk (.ro _ _ _) rfl ?_ | refine LetV.mk (.ptr _ _ _ _) rfl ?_ | refine LetV.mk (.clo _ _ _) rfl ?_ | refine LetV.mk (.rp _ _) rfl ?_) | (refine LetI.pre ?_; first | refine LetI.wrap (by omega) (by omega) ?_ | refine LetI.mk _ rfl ?_) | (refine LetB.pre ?_; first | refine LetB.tt rfl ?_ | refine LetB.ff rfl ?_ | refine LetB.tt (by assumption) ?_ | refine LetB.ff (by assumption) ?_ | refine LetB.dect (by omega) ?_ | refine LetB.decf (by omega) ?_ | refine LetB.beqt (by omega) ?_ | refine LetB.beqf (by omega) ?_ | refine LetB.bnet (by omega) ?_ | refine LetB.bnef (by omega) ?_ | refine LetB.mk _ rfl ?_) | (refine Gd.pre ?_; first | refine Gd.run rfl ?_ | refine Gd.pass rfl ?_ | refine Gd.run (by assumption) ?_ | refine Gd.pass (by assumption) ?_ | (refine Gd.run ?_ ?_; · decide +kernel) | (refine Gd.pass ?_ ?_; · decide +kernel) | refine Gd.both ?_) | (refine Br.pre ?_; first | refine Br.tt rfl ?_ | refine Br.ff rfl ?_ | refine Br.tt (by assumption) ?_ | refine Br.ff (by assumption) ?_ | (refine Br.tt ?_ ?_; · decide +kernel) | (refine Br.ff ?_ ?_; · decide +kernel)) | (refine Ck.pre ?_; first | refine Ck.drawn (by kernel_rfl) ?_ | refine Ck.mk rfl ?_) | (refine LetL.pre ?_; first | refine LetL.mk [_] rfl ?_ | refine LetL.mk _ rfl ?_) | (refine CallN.pre ?_; first | refine CallN.own (fun _ => 0) N2 (CallOk.mk' rfl rfl rfl (namesAll.row rfl rfl) rfl (namesAll.row rfl rfl) (haveAll.row rfl rfl trivial)) ?_ | refine CallN.pure p1 rfl rfl ?_) | refine forceAs.pass ?_ | refine forceEs.pass ?_ | refine forceC.pass ?_))); (try (conv => whnf)))


      refine LoopN.weak ?sw_2 (hnx [a, c] ⟨by show 1 ≤ 2; omega, by show 2 ≤ k + 1; have : 1 ≤ k := h3; omega⟩ (by intro x hx; simp only [List.mem_cons, List.not_mem_nil, or_false] at hx; rcases hx with rfl | rfl <;> first | exact oc | exact h5 _ (by simp)) (by exact ⟨e1, trivial⟩))
      case sw_2 => exact SW.mk (fun i => match i with | 1 => 3 | i => i) rfl rfl (stN _ _ _ _ _ _) ⟨.refl _, .refl _, VLe2.slm_of rfl, VLe2.int (by omega), trivial⟩ (haveV.row rfl rfl (haveV.row (pure_co _) rfl trivial))
    | false =>
      rw [e1] at p1
      by_cases e2 : a = c
      · have hkb := eq_tt e2
        ((repeat ((conv => whnf); (first | (refine LetN.pre ?_; first | ((conv => arg 1; whnf); refine LetN.mk ?_)) | (refine As.pre ?_; first | refine As.mk rfl ?_ | (refine As.mk ?_ ?_; · decide +kernel) | refine As.mk (andT (nor_self _) rfl) ?_ | refine As.mk (andT (nor_self _) (or_t _)) ?_ | refine As.mk (andT (or_t _) (or_nself _)) ?_ | refine As.mk (andT (or_t _) (or_t _)) ?_ | refine As.mk (andT (nor_self _) (andT (nor_self _) rfl)) ?_ | (refine As.mk ?_ ?_; · ((repeat' (refine andT ?_ ?_)) <;> (first | rfl | assumption | exact decide_eq_true (by omega) | exact decide_eq_true (by dsimp only; omega) | exact decide_eq_true (by simp; omega) | (simp; done))))) | (refine LetV.pre ?_; first | refine LetV.mk (.sc (.int _ _)) rfl ?_ | refine LetV.mk (.sc (.bool _)) rfl ?_ | refine LetV.mk (.sc _) rfl ?_ | refine LetV.mk (.agg _) rfl ?_ | refine LetV.mk (.slm _ _ _ _ _) rfl ?_ | refine LetV.mk (.ro _ _ _) rfl ?_ | refine LetV.mk (.ptr _ _ _ _) rfl ?_ | refine LetV.mk (.clo _ _ _) rfl ?_ | refine LetV.mk (.rp _ _) rfl ?_) | (refine LetI.pre ?_; first | refine LetI.wrap (by omega) (by omega) ?_ | refine LetI.mk _ rfl ?_) | (refine LetB.pre ?_; first | refine LetB.tt rfl ?_ | refine LetB.ff rfl ?_ | refine LetB.tt (by assumption) ?_ | refine LetB.ff (by assumption) ?_ | refine LetB.mk (o := some .eql) _ hkb ?_ | refine LetB.dect (by omega) ?_ | refine LetB.decf (by omega) ?_ | refine LetB.beqt (by omega) ?_ | refine LetB.beqf (by omega) ?_ | refine LetB.bnet (by omega) ?_ | refine LetB.bnef (by omega) ?_ | refine LetB.mk _ rfl ?_) | (refine Gd.pre ?_; first | refine Gd.run rfl ?_ | refine Gd.pass rfl ?_ | refine Gd.run (by assumption) ?_ | refine Gd.pass (by assumption) ?_ | (refine Gd.run ?_ ?_; · decide +kernel) | (refine Gd.pass ?_ ?_; · decide +kernel) | refine Gd.both ?_) | (refine Br.pre ?_; first | refine Br.tt rfl ?_ | refine Br.ff rfl ?_ | refine Br.tt (by assumption) ?_ | refine Br.ff (by assumption) ?_ | (refine Br.tt ?_ ?_; · decide +kernel) | (refine Br.ff ?_ ?_; · decide +kernel)) | (refine Ck.pre ?_; first | refine Ck.drawn (by kernel_rfl) ?_ | refine Ck.mk rfl ?_) | (refine LetL.pre ?_; first | refine LetL.mk [_] rfl ?_ | refine LetL.mk _ rfl ?_) | (refine CallN.pre ?_; first | refine CallN.own (fun _ => 0) N2 (CallOk.mk' rfl rfl rfl (namesAll.row rfl rfl) rfl (namesAll.row rfl rfl) (haveAll.row rfl rfl trivial)) ?_ | refine CallN.pure p1 rfl rfl ?_) | refine forceAs.pass ?_ | refine forceEs.pass ?_ | refine forceC.pass ?_))); (try (conv => whnf)))



        refine LoopN.round T_ok mixed rfl ?_
        ((repeat ((conv => whnf); (first | (refine LetN.pre ?_; first | ((conv => arg 1; whnf); refine LetN.mk ?_)) | (refine As.pre ?_; first | refine As.mk rfl ?_ | (refine As.mk ?_ ?_; · decide +kernel) | refine As.mk (andT (nor_self _) rfl) ?_ | refine As.mk (andT (nor_self _) (or_t _)) ?_ | refine As.mk (andT (or_t _) (or_nself _)) ?_ | refine As.mk (andT (or_t _) (or_t _)) ?_ | refine As.mk (andT (nor_self _) (andT (nor_self _) rfl)) ?_ | (refine As.mk ?_ ?_; · ((repeat' (refine andT ?_ ?_)) <;> (first | rfl | assumption | exact decide_eq_true (by omega) | exact decide_eq_true (by dsimp only; omega) | exact decide_eq_true (by simp; omega) | (simp; done))))) | (refine LetV.pre ?_; first | refine LetV.mk (.sc (.int _ _)) rfl ?_ | refine LetV.mk (.sc (.bool _)) rfl ?_ | refine LetV.mk (.sc _) rfl ?_ | refine LetV.mk (.agg _) rfl ?_ | refine LetV.mk (.slm _ _ _ _ _) rfl ?_ | refine LetV.mk (.ro _ _ _) rfl ?_ | refine LetV.mk (.ptr _ _ _ _) rfl ?_ | refine LetV.mk (.clo _ _ _) rfl ?_ | refine LetV.mk (.rp _ _) rfl ?_) | (refine LetI.pre ?_; first | refine LetI.wrap (by omega) (by omega) ?_ | refine LetI.mk _ rfl ?_) | (refine LetB.pre ?_; first | refine LetB.tt rfl ?_ | refine LetB.ff rfl ?_ | refine LetB.tt (by assumption) ?_ | refine LetB.ff (by assumption) ?_ | refine LetB.mk (o := some .eql) _ hkb ?_ | refine LetB.dect (by omega) ?_ | refine LetB.decf (by omega) ?_ | refine LetB.beqt (by omega) ?_ | refine LetB.beqf (by omega) ?_ | refine LetB.bnet (by omega) ?_ | refine LetB.bnef (by omega) ?_ | refine LetB.mk _ rfl ?_) | (refine Gd.pre ?_; first | refine Gd.run rfl ?_ | refine Gd.pass rfl ?_ | refine Gd.run (by assumption) ?_ | refine Gd.pass (by assumption) ?_ | (refine Gd.run ?_ ?_; · decide +kernel) | (refine Gd.pass ?_ ?_; · decide +kernel) | refine Gd.both ?_) | (refine Br.pre ?_; first | refine Br.tt rfl ?_ | refine Br.ff rfl ?_ | refine Br.tt (by assumption) ?_ | refine Br.ff (by assumption) ?_ | (refine Br.tt ?_ ?_; · decide +kernel) | (refine Br.ff ?_ ?_; · decide +kernel)) | (refine Ck.pre ?_; first | refine Ck.drawn (by kernel_rfl) ?_ | refine Ck.mk rfl ?_) | (refine LetL.pre ?_; first | refine LetL.mk [_] rfl ?_ | refine LetL.mk _ rfl ?_) | (refine CallN.pre ?_; first | refine CallN.own (fun _ => 0) N2 (CallOk.mk' rfl rfl rfl (namesAll.row rfl rfl) rfl (namesAll.row rfl rfl) (haveAll.row rfl rfl trivial)) ?_ | refine CallN.pure p1 rfl rfl ?_) | refine forceAs.pass ?_ | refine forceEs.pass ?_ | refine forceC.pass ?_))); (try (conv => whnf)))



        refine LoopN.weak ?sw_3 (hnx [a] ⟨Nat.le_refl _, Nat.succ_le_succ (Nat.zero_le _)⟩ (by exact h5) (by exact trivial))
        case sw_3 => exact SW.mk id rfl rfl (stN _ _ _ _ _ _) ⟨.refl _, .refl _, VLe2.slm_of rfl, VLe2.int (by omega), trivial⟩ (haveV.row rfl rfl (haveV.row (pure_co _) rfl trivial))
      · have hkb := eq_ff e2
        have e3 := prec_tot e1 e2
        ((repeat ((conv => whnf); (first | (refine LetN.pre ?_; first | ((conv => arg 1; whnf); refine LetN.mk ?_)) | (refine As.pre ?_; first | refine As.mk rfl ?_ | (refine As.mk ?_ ?_; · decide +kernel) | refine As.mk (andT (nor_self _) rfl) ?_ | refine As.mk (andT (nor_self _) (or_t _)) ?_ | refine As.mk (andT (or_t _) (or_nself _)) ?_ | refine As.mk (andT (or_t _) (or_t _)) ?_ | refine As.mk (andT (nor_self _) (andT (nor_self _) rfl)) ?_ | (refine As.mk ?_ ?_; · ((repeat' (refine andT ?_ ?_)) <;> (first | rfl | assumption | exact decide_eq_true (by omega) | exact decide_eq_true (by dsimp only; omega) | exact decide_eq_true (by simp; omega) | (simp; done))))) | (refine LetV.pre ?_; first | refine LetV.mk (.sc (.int _ _)) rfl ?_ | refine LetV.mk (.sc (.bool _)) rfl ?_ | refine LetV.mk (.sc _) rfl ?_ | refine LetV.mk (.agg _) rfl ?_ | refine LetV.mk (.slm _ _ _ _ _) rfl ?_ | refine LetV.mk (.ro _ _ _) rfl ?_ | refine LetV.mk (.ptr _ _ _ _) rfl ?_ | refine LetV.mk (.clo _ _ _) rfl ?_ | refine LetV.mk (.rp _ _) rfl ?_) | (refine LetI.pre ?_; first | refine LetI.wrap (by omega) (by omega) ?_ | refine LetI.mk _ rfl ?_) | (refine LetB.pre ?_; first | refine LetB.tt rfl ?_ | refine LetB.ff rfl ?_ | refine LetB.tt (by assumption) ?_ | refine LetB.ff (by assumption) ?_ | refine LetB.mk (o := some .eql) _ hkb ?_ | refine LetB.dect (by omega) ?_ | refine LetB.decf (by omega) ?_ | refine LetB.beqt (by omega) ?_ | refine LetB.beqf (by omega) ?_ | refine LetB.bnet (by omega) ?_ | refine LetB.bnef (by omega) ?_ | refine LetB.mk _ rfl ?_) | (refine Gd.pre ?_; first | refine Gd.run rfl ?_ | refine Gd.pass rfl ?_ | refine Gd.run (by assumption) ?_ | refine Gd.pass (by assumption) ?_ | (refine Gd.run ?_ ?_; · decide +kernel) | (refine Gd.pass ?_ ?_; · decide +kernel) | refine Gd.both ?_) | (refine Br.pre ?_; first | refine Br.tt rfl ?_ | refine Br.ff rfl ?_ | refine Br.tt (by assumption) ?_ | refine Br.ff (by assumption) ?_ | (refine Br.tt ?_ ?_; · decide +kernel) | (refine Br.ff ?_ ?_; · decide +kernel)) | (refine Ck.pre ?_; first | refine Ck.drawn (by kernel_rfl) ?_ | refine Ck.mk rfl ?_) | (refine LetL.pre ?_; first | refine LetL.mk [_] rfl ?_ | refine LetL.mk _ rfl ?_) | (refine CallN.pre ?_; first | refine CallN.own (fun _ => 0) N2 (CallOk.mk' rfl rfl rfl (namesAll.row rfl rfl) rfl (namesAll.row rfl rfl) (haveAll.row rfl rfl trivial)) ?_ | refine CallN.pure p1 rfl rfl ?_) | refine forceAs.pass ?_ | refine forceEs.pass ?_ | refine forceC.pass ?_))); (try (conv => whnf)))



        refine LoopN.round T_ok mixed rfl ?_
        ((repeat ((conv => whnf); (first | (refine LetN.pre ?_; first | ((conv => arg 1; whnf); refine LetN.mk ?_)) | (refine As.pre ?_; first | refine As.mk rfl ?_ | (refine As.mk ?_ ?_; · decide +kernel) | refine As.mk (andT (nor_self _) rfl) ?_ | refine As.mk (andT (nor_self _) (or_t _)) ?_ | refine As.mk (andT (or_t _) (or_nself _)) ?_ | refine As.mk (andT (or_t _) (or_t _)) ?_ | refine As.mk (andT (nor_self _) (andT (nor_self _) rfl)) ?_ | (refine As.mk ?_ ?_; · ((repeat' (refine andT ?_ ?_)) <;> (first | rfl | assumption | exact decide_eq_true (by omega) | exact decide_eq_true (by dsimp only; omega) | exact decide_eq_true (by simp; omega) | (simp; done))))) | (refine LetV.pre ?_; first | refine LetV.mk (.sc (.int _ _)) rfl ?_ | refine LetV.mk (.sc (.bool _)) rfl ?_ | refine LetV.mk (.sc _) rfl ?_ | refine LetV.mk (.agg _) rfl ?_ | refine LetV.mk (.slm _ _ _ _ _) rfl ?_ | refine LetV.mk (.ro _ _ _) rfl ?_ | refine LetV.mk (.ptr _ _ _ _) rfl ?_ | refine LetV.mk (.clo _ _ _) rfl ?_ | refine LetV.mk (.rp _ _) rfl ?_) | (refine LetI.pre ?_; first | refine LetI.wrap (by omega) (by omega) ?_ | refine LetI.mk _ rfl ?_) | (refine LetB.pre ?_; first | refine LetB.tt rfl ?_ | refine LetB.ff rfl ?_ | refine LetB.tt (by assumption) ?_ | refine LetB.ff (by assumption) ?_ | refine LetB.mk (o := some .eql) _ hkb ?_ | refine LetB.dect (by omega) ?_ | refine LetB.decf (by omega) ?_ | refine LetB.beqt (by omega) ?_ | refine LetB.beqf (by omega) ?_ | refine LetB.bnet (by omega) ?_ | refine LetB.bnef (by omega) ?_ | refine LetB.mk _ rfl ?_) | (refine Gd.pre ?_; first | refine Gd.run rfl ?_ | refine Gd.pass rfl ?_ | refine Gd.run (by assumption) ?_ | refine Gd.pass (by assumption) ?_ | (refine Gd.run ?_ ?_; · decide +kernel) | (refine Gd.pass ?_ ?_; · decide +kernel) | refine Gd.both ?_) | (refine Br.pre ?_; first | refine Br.tt rfl ?_ | refine Br.ff rfl ?_ | refine Br.tt (by assumption) ?_ | refine Br.ff (by assumption) ?_ | (refine Br.tt ?_ ?_; · decide +kernel) | (refine Br.ff ?_ ?_; · decide +kernel)) | (refine Ck.pre ?_; first | refine Ck.drawn (by kernel_rfl) ?_ | refine Ck.mk rfl ?_) | (refine LetL.pre ?_; first | refine LetL.mk [_] rfl ?_ | refine LetL.mk _ rfl ?_) | (refine CallN.pre ?_; first | refine CallN.own (fun _ => 0) N2 (CallOk.mk' rfl rfl rfl (namesAll.row rfl rfl) rfl (namesAll.row rfl rfl) (haveAll.row rfl rfl trivial)) ?_ | refine CallN.pure p1 rfl rfl ?_) | refine forceAs.pass ?_ | refine forceEs.pass ?_ | refine forceC.pass ?_))); (try (conv => whnf)))



        refine LoopN.weak ?sw_4 (hnx [c, a] ⟨by show 1 ≤ 2; omega, by show 2 ≤ k + 1; have : 1 ≤ k := h3; omega⟩ (by intro x hx; simp only [List.mem_cons, List.not_mem_nil, or_false] at hx; rcases hx with rfl | rfl <;> first | exact oc | exact h5 _ (by simp)) (by exact ⟨e3, trivial⟩))
        case sw_4 => exact SW.mk (fun i => match i with | 1 => 3 | i => i) rfl rfl (stN _ _ _ _ _ _) ⟨.refl _, .refl _, VLe2.slm_of rfl, VLe2.int (by omega), trivial⟩ (haveV.row rfl rfl (haveV.row (pure_co _) rfl trivial))
  | [a, b], h3, h4, h5, h6, hr =>
    have p1 := rPrecedes_f a c
    have p2 := rPrecedes_f b c
    cases e1 : prec a c with
    | false =>
      rw [e1] at p1
      by_cases e2 : a = c
      · have hkb := eq_tt e2
        ((repeat ((conv => whnf); (first | (refine LetN.pre ?_; first | ((conv => arg 1; whnf); refine LetN.mk ?_)) | (refine As.pre ?_; first | refine As.mk rfl ?_ | (refine As.mk ?_ ?_; · decide +kernel) | refine As.mk (andT (nor_self _) rfl) ?_ | refine As.mk (andT (nor_self _) (or_t _)) ?_ | refine As.mk (andT (or_t _) (or_nself _)) ?_ | refine As.mk (andT (or_t _) (or_t _)) ?_ | refine As.mk (andT (nor_self _) (andT (nor_self _) rfl)) ?_ | (refine As.mk ?_ ?_; · ((repeat' (refine andT ?_ ?_)) <;> (first | rfl | assumption | exact decide_eq_true (by omega) | exact decide_eq_true (by dsimp only; omega) | exact decide_eq_true (by simp; omega) | (simp; done))))) | (refine LetV.pre ?_; first | refine LetV.mk (.sc (.int _ _)) rfl ?_ | refine LetV.mk (.sc (.bool _)) rfl ?_ | refine LetV.mk (.sc _) rfl ?_ | refine LetV.mk (.agg _) rfl ?_ | refine LetV.mk (.slm _ _ _ _ _) rfl ?_ | refine LetV.mk (.ro _ _ _) rfl ?_ | refine LetV.mk (.ptr _ _ _ _) rfl ?_ | refine LetV.mk (.clo _ _ _) rfl ?_ | refine LetV.mk (.rp _ _) rfl ?_) | (refine LetI.pre ?_; first | refine LetI.wrap (by omega) (by omega) ?_ | refine LetI.mk _ rfl ?_) | (refine LetB.pre ?_; first | refine LetB.tt rfl ?_ | refine LetB.ff rfl ?_ | refine LetB.tt (by assumption) ?_ | refine LetB.ff (by assumption) ?_ | refine LetB.mk (o := some .eql) _ hkb ?_ | refine LetB.dect (by omega) ?_ | refine LetB.decf (by omega) ?_ | refine LetB.beqt (by omega) ?_ | refine LetB.beqf (by omega) ?_ | refine LetB.bnet (by omega) ?_ | refine LetB.bnef (by omega) ?_ | refine LetB.mk _ rfl ?_) | (refine Gd.pre ?_; first | refine Gd.run rfl ?_ | refine Gd.pass rfl ?_ | refine Gd.run (by assumption) ?_ | refine Gd.pass (by assumption) ?_ | (refine Gd.run ?_ ?_; · decide +kernel) | (refine Gd.pass ?_ ?_; · decide +kernel) | refine Gd.both ?_) | (refine Br.pre ?_; first | refine Br.tt rfl ?_ | refine Br.ff rfl ?_ | refine Br.tt (by assumption) ?_ | refine Br.ff (by assumption) ?_ | (refine Br.tt ?_ ?_; · decide +kernel) | (refine Br.ff ?_ ?_; · decide +kernel)) | (refine Ck.pre ?_; first | refine Ck.drawn (by kernel_rfl) ?_ | refine Ck.mk rfl ?_) | (refine LetL.pre ?_; first | refine LetL.mk [_] rfl ?_ | refine LetL.mk _ rfl ?_) | (refine CallN.pre ?_; first | refine CallN.own (fun _ => 0) N2 (CallOk.mk' rfl rfl rfl (namesAll.row rfl rfl) rfl (namesAll.row rfl rfl) (haveAll.row rfl rfl trivial)) ?_ | refine CallN.pure p1 rfl rfl ?_) | refine forceAs.pass ?_ | refine forceEs.pass ?_ | refine forceC.pass ?_))); (try (conv => whnf)))



        refine LoopN.round T_ok mixed rfl ?_
        ((repeat ((conv => whnf); (first | (refine LetN.pre ?_; first | ((conv => arg 1; whnf); refine LetN.mk ?_)) | (refine As.pre ?_; first | refine As.mk rfl ?_ | (refine As.mk ?_ ?_; · decide +kernel) | refine As.mk (andT (nor_self _) rfl) ?_ | refine As.mk (andT (nor_self _) (or_t _)) ?_ | refine As.mk (andT (or_t _) (or_nself _)) ?_ | refine As.mk (andT (or_t _) (or_t _)) ?_ | refine As.mk (andT (nor_self _) (andT (nor_self _) rfl)) ?_ | (refine As.mk ?_ ?_; · ((repeat' (refine andT ?_ ?_)) <;> (first | rfl | assumption | exact decide_eq_true (by omega) | exact decide_eq_true (by dsimp only; omega) | exact decide_eq_true (by simp; omega) | (simp; done))))) | (refine LetV.pre ?_; first | refine LetV.mk (.sc (.int _ _)) rfl ?_ | refine LetV.mk (.sc (.bool _)) rfl ?_ | refine LetV.mk (.sc _) rfl ?_ | refine LetV.mk (.agg _) rfl ?_ | refine LetV.mk (.slm _ _ _ _ _) rfl ?_ | refine LetV.mk (.ro _ _ _) rfl ?_ | refine LetV.mk (.ptr _ _ _ _) rfl ?_ | refine LetV.mk (.clo _ _ _) rfl ?_ | refine LetV.mk (.rp _ _) rfl ?_) | (refine LetI.pre ?_; first | refine LetI.wrap (by omega) (by omega) ?_ | refine LetI.mk _ rfl ?_) | (refine LetB.pre ?_; first | refine LetB.tt rfl ?_ | refine LetB.ff rfl ?_ | refine LetB.tt (by assumption) ?_ | refine LetB.ff (by assumption) ?_ | refine LetB.mk (o := some .eql) _ hkb ?_ | refine LetB.dect (by omega) ?_ | refine LetB.decf (by omega) ?_ | refine LetB.beqt (by omega) ?_ | refine LetB.beqf (by omega) ?_ | refine LetB.bnet (by omega) ?_ | refine LetB.bnef (by omega) ?_ | refine LetB.mk _ rfl ?_) | (refine Gd.pre ?_; first | refine Gd.run rfl ?_ | refine Gd.pass rfl ?_ | refine Gd.run (by assumption) ?_ | refine Gd.pass (by assumption) ?_ | (refine Gd.run ?_ ?_; · decide +kernel) | (refine Gd.pass ?_ ?_; · decide +kernel) | refine Gd.both ?_) | (refine Br.pre ?_; first | refine Br.tt rfl ?_ | refine Br.ff rfl ?_ | refine Br.tt (by assumption) ?_ | refine Br.ff (by assumption) ?_ | (refine Br.tt ?_ ?_; · decide +kernel) | (refine Br.ff ?_ ?_; · decide +kernel)) | (refine Ck.pre ?_; first | refine Ck.drawn (by kernel_rfl) ?_ | refine Ck.mk rfl ?_) | (refine LetL.pre ?_; first | refine LetL.mk [_] rfl ?_ | refine LetL.mk _ rfl ?_) | (refine CallN.pre ?_; first | refine CallN.own (fun _ => 0) N2 (CallOk.mk' rfl rfl rfl (namesAll.row rfl rfl) rfl (namesAll.row rfl rfl) (haveAll.row rfl rfl trivial)) ?_ | refine CallN.pure p1 rfl rfl ?_) | refine forceAs.pass ?_ | refine forceEs.pass ?_ | refine forceC.pass ?_))); (try (conv => whnf)))



        refine LoopN.weak ?sw_5 (hnx [a, b] ⟨by show 1 ≤ 2; omega, by show 2 ≤ k + 1; have : 2 ≤ k := h3; omega⟩ (by exact h5) (by exact h6))
        case sw_5 => exact SW.mk id rfl rfl (stN _ _ _ _ _ _) ⟨.refl _, .refl _, VLe2.slm_of rfl, VLe2.int (by omega), trivial⟩ (haveV.row rfl rfl (haveV.row (pure_co _) rfl trivial))
      · have hkb := eq_ff e2
        have e3 := prec_tot e1 e2
        ((repeat ((conv => whnf); (first | (refine LetN.pre ?_; first | ((conv => arg 1; whnf); refine LetN.mk ?_)) | (refine As.pre ?_; first | refine As.mk rfl ?_ | (refine As.mk ?_ ?_; · decide +kernel) | refine As.mk (andT (nor_self _) rfl) ?_ | refine As.mk (andT (nor_self _) (or_t _)) ?_ | refine As.mk (andT (or_t _) (or_nself _)) ?_ | refine As.mk (andT (or_t _) (or_t _)) ?_ | refine As.mk (andT (nor_self _) (andT (nor_self _) rfl)) ?_ | (refine As.mk ?_ ?_; · ((repeat' (refine andT ?_ ?_)) <;> (first | rfl | assumption | exact decide_eq_true (by omega) | exact decide_eq_true (by dsimp only; omega) | exact decide_eq_true (by simp; omega) | (simp; done))))) | (refine LetV.pre ?_; first | refine LetV.mk (.sc (.int _ _)) rfl ?_ | refine LetV.mk (.sc (.bool _)) rfl ?_ | refine LetV.mk (.sc _) rfl ?_ | refine LetV.mk (.agg _) rfl ?_ | refine LetV.mk (.slm _ _ _ _ _) rfl ?_ | refine LetV.mk (.ro _ _ _) rfl ?_ | refine LetV.mk (.ptr _ _ _ _) rfl ?_ | refine LetV.mk (.clo _ _ _) rfl ?_ | refine LetV.mk (.rp _ _) rfl ?_) | (refine LetI.pre ?_; first | refine LetI.wrap (by omega) (by omega) ?_ | refine LetI.mk _ rfl ?_) | (refine LetB.pre ?_; first | refine LetB.tt rfl ?_ | refine LetB.ff rfl ?_ | refine LetB.tt (by assumption) ?_ | refine LetB.ff (by assumption) ?_ | refine LetB.mk (o := some .eql) _ hkb ?_ | refine LetB.dect (by omega) ?_ | refine LetB.decf (by omega) ?_ | refine LetB.beqt (by omega) ?_ | refine LetB.beqf (by omega) ?_ | refine LetB.bnet (by omega) ?_ | refine LetB.bnef (by omega) ?_ | refine LetB.mk _ rfl ?_) | (refine Gd.pre ?_; first | refine Gd.run rfl ?_ | refine Gd.pass rfl ?_ | refine Gd.run (by assumption) ?_ | refine Gd.pass (by assumption) ?_ | (refine Gd.run ?_ ?_; · decide +kernel) | (refine Gd.pass ?_ ?_; · decide +kernel) | refine Gd.both ?_) | (refine Br.pre ?_; first | refine Br.tt rfl ?_ | refine Br.ff rfl ?_ | refine Br.tt (by assumption) ?_ | refine Br.ff (by assumption) ?_ | (refine Br.tt ?_ ?_; · decide +kernel) | (refine Br.ff ?_ ?_; · decide +kernel)) | (refine Ck.pre ?_; first | refine Ck.drawn (by kernel_rfl) ?_ | refine Ck.mk rfl ?_) | (refine LetL.pre ?_; first | refine LetL.mk [_] rfl ?_ | refine LetL.mk _ rfl ?_) | (refine CallN.pre ?_; first | refine CallN.own (fun _ => 0) N2 (CallOk.mk' rfl rfl rfl (namesAll.row rfl rfl) rfl (namesAll.row rfl rfl) (haveAll.row rfl rfl trivial)) ?_ | refine CallN.pure p1 rfl rfl ?_) | refine forceAs.pass ?_ | refine forceEs.pass ?_ | refine forceC.pass ?_))); (try (conv => whnf)))



        refine LoopN.round T_ok mixed rfl ?_
        ((repeat ((conv => whnf); (first | (refine LetN.pre ?_; first | ((conv => arg 1; whnf); refine LetN.mk ?_)) | (refine As.pre ?_; first | refine As.mk rfl ?_ | (refine As.mk ?_ ?_; · decide +kernel) | refine As.mk (andT (nor_self _) rfl) ?_ | refine As.mk (andT (nor_self _) (or_t _)) ?_ | refine As.mk (andT (or_t _) (or_nself _)) ?_ | refine As.mk (andT (or_t _) (or_t _)) ?_ | refine As.mk (andT (nor_self _) (andT (nor_self _) rfl)) ?_ | (refine As.mk ?_ ?_; · ((repeat' (refine andT ?_ ?_)) <;> (first | rfl | assumption | exact decide_eq_true (by omega) | exact decide_eq_true (by dsimp only; omega) | exact decide_eq_true (by simp; omega) | (simp; done))))) | (refine LetV.pre ?_; first | refine LetV.mk (.sc (.int _ _)) rfl ?_ | refine LetV.mk (.sc (.bool _)) rfl ?_ | refine LetV.mk (.sc _) rfl ?_ | refine LetV.mk (.agg _) rfl ?_ | refine LetV.mk (.slm _ _ _ _ _) rfl ?_ | refine LetV.mk (.ro _ _ _) rfl ?_ | refine LetV.mk (.ptr _ _ _ _) rfl ?_ | refine LetV.mk (.clo _ _ _) rfl ?_ | refine LetV.mk (.rp _ _) rfl ?_) | (refine LetI.pre ?_; first | refine LetI.wrap (by omega) (by omega) ?_ | refine LetI.mk _ rfl ?_) | (refine LetB.pre ?_; first | refine LetB.tt rfl ?_ | refine LetB.ff rfl ?_ | refine LetB.tt (by assumption) ?_ | refine LetB.ff (by assumption) ?_ | refine LetB.mk (o := some .eql) _ hkb ?_ | refine LetB.dect (by omega) ?_ | refine LetB.decf (by omega) ?_ | refine LetB.beqt (by omega) ?_ | refine LetB.beqf (by omega) ?_ | refine LetB.bnet (by omega) ?_ | refine LetB.bnef (by omega) ?_ | refine LetB.mk _ rfl ?_) | (refine Gd.pre ?_; first | refine Gd.run rfl ?_ | refine Gd.pass rfl ?_ | refine Gd.run (by assumption) ?_ | refine Gd.pass (by assumption) ?_ | (refine Gd.run ?_ ?_; · decide +kernel) | (refine Gd.pass ?_ ?_; · decide +kernel) | refine Gd.both ?_) | (refine Br.pre ?_; first | refine Br.tt rfl ?_ | refine Br.ff rfl ?_ | refine Br.tt (by assumption) ?_ | refine Br.ff (by assumption) ?_ | (refine Br.tt ?_ ?_; · decide +kernel) | (refine Br.ff ?_ ?_; · decide +kernel)) | (refine Ck.pre ?_; first | refine Ck.drawn (by kernel_rfl) ?_ | refine Ck.mk rfl ?_) | (refine LetL.pre ?_; first | refine LetL.mk [_] rfl ?_ | refine LetL.mk _ rfl ?_) | (refine CallN.pre ?_; first | refine CallN.own (fun _ => 0) N2 (CallOk.mk' rfl rfl rfl (namesAll.row rfl rfl) rfl (namesAll.row rfl rfl) (haveAll.row rfl rfl trivial)) ?_ | refine CallN.pure p1 rfl rfl ?_) | refine forceAs.pass ?_ | refine forceEs.pass ?_ | refine forceC.pass ?_))); (try (conv => whnf)))



        refine LoopN.weak ?sw_6 (hnx [c, a, b] ⟨by show 1 ≤ 3; omega, by show 3 ≤ k + 1; have : 2 ≤ k := h3; omega⟩ (by intro x hx; simp only [List.mem_cons, List.not_mem_nil, or_false] at hx; rcases hx with rfl | rfl | rfl <;> first | exact oc | exact h5 _ (by simp)) (by exact ⟨e3, h6⟩))
        case sw_6 => exact SW.mk (fun i => match i with | 1 => 3 | i => i) rfl rfl (stN _ _ _ _ _ _) ⟨.refl _, .refl _, VLe2.slm_of rfl, VLe2.int (by omega), trivial⟩ (haveV.row rfl rfl (haveV.row (pure_co _) rfl trivial))
    | true =>
      rw [e1] at p1
      cases e4 : prec b c with
      | true =>
        rw [e4] at p2
        ((repeat ((conv => whnf); (first | (refine LetN.pre ?_; first | ((conv => arg 1; whnf); refine LetN.mk ?_)) | (refine As.pre ?_; first | refine As.mk rfl ?_ | (refine As.mk ?_ ?_; · decide +kernel) | refine As.mk (andT (nor_self _) rfl) ?_ | refine As.mk (andT (nor_self _) (or_t _)) ?_ | refine As.mk (andT (or_t _) (or_nself _)) ?_ | refine As.mk (andT (or_t _) (or_t _)) ?_ | refine As.mk (andT (nor_self _) (andT (nor_self _) rfl)) ?_ | (refine As.mk ?_ ?_; · ((repeat' (refine andT ?_ ?_)) <;> (first | rfl | assumption | exact decide_eq_true (by omega) | exact decide_eq_true (by dsimp only; omega) | exact decide_eq_true (by simp; omega) | (simp; done))))) | (refine LetV.pre ?_; first | refine LetV.mk (.sc (.int _ _)) rfl ?_ | refine LetV.mk (.sc (.bool _)) rfl ?_ | refine LetV.mk (.sc _) rfl ?_ | refine LetV.mk (.agg _) rfl ?_ | refine LetV.mk (.slm _ _ _ _ _) rfl ?_ | refine LetV.mk (.ro _ _ _) rfl ?_ | refine LetV.mk (.ptr _ _ _ _) rfl ?_ | refine LetV.mk (.clo _ _ _) rfl ?_ | refine LetV.mk (.rp _ _) rfl ?_) | (refine LetI.pre ?_; first | refine LetI.wrap (by omega) (by omega) ?_ | refine LetI.mk _ rfl ?_) | (refine LetB.pre ?_; first | refine LetB.tt rfl ?_ | refine LetB.ff rfl ?_ | refine LetB.tt (by assumption) ?_ | refine LetB.ff (by assumption) ?_ | refine LetB.dect (by omega) ?_ | refine LetB.decf (by omega) ?_ | refine LetB.beqt (by omega) ?_ | refine LetB.beqf (by omega) ?_ | refine LetB.bnet (by omega) ?_ | refine LetB.bnef (by omega) ?_ | refine LetB.mk _ rfl ?_) | (refine Gd.pre ?_; first | refine Gd.run rfl ?_ | refine Gd.pass rfl ?_ | refine Gd.run (by assumption) ?_ | refine Gd.pass (by assumption) ?_ | (refine Gd.run ?_ ?_; · decide +kernel) | (refine Gd.pass ?_ ?_; · decide +kernel) | refine Gd.both ?_) | (refine Br.pre ?_; first | refine Br.tt rfl ?_ | refine Br.ff rfl ?_ | refine Br.tt (by assumption) ?_ | refine Br.ff (by assumption) ?_ | (refine Br.tt ?_ ?_; · decide +kernel) | (refine Br.ff ?_ ?_; · decide +kernel)) | (refine Ck.pre ?_; first | refine Ck.drawn (by kernel_rfl) ?_ | refine Ck.mk rfl ?_) | (refine LetL.pre ?_; first | refine LetL.mk [_] rfl ?_ | refine LetL.mk _ rfl ?_) | (refine CallN.pre ?_; first | refine CallN.own (fun _ => 0) N2 (CallOk.mk' rfl rfl rfl (namesAll.row rfl rfl) rfl (namesAll.row rfl rfl) (haveAll.row rfl rfl trivial)) ?_ | refine CallN.pure p1 rfl rfl ?_ | refine CallN.pure p2 rfl rfl ?_) | refine forceAs.pass ?_ | refine forceEs.pass ?_ | refine forceC.pass ?_))); (try (conv => whnf)))



        refine LoopN.round T_ok mixed rfl ?_
        ((repeat ((conv => whnf); (first | (refine LetN.pre ?_; first | ((conv => arg 1; whnf); refine LetN.mk ?_)) | (refine As.pre ?_; first | refine As.mk rfl ?_ | (refine As.mk ?_ ?_; · decide +kernel) | refine As.mk (andT (nor_self _) rfl) ?_ | refine As.mk (andT (nor_self _) (or_t _)) ?_ | refine As.mk (andT (or_t _) (or_nself _)) ?_ | refine As.mk (andT (or_t _) (or_t _)) ?_ | refine As.mk (andT (nor_self _) (andT (nor_self _) rfl)) ?_ | (refine As.mk ?_ ?_; · ((repeat' (refine andT ?_ ?_)) <;> (first | rfl | assumption | exact decide_eq_true (by omega) | exact decide_eq_true (by dsimp only; omega) | exact decide_eq_true (by simp; omega) | (simp; done))))) | (refine LetV.pre ?_; first | refine LetV.mk (.sc (.int _ _)) rfl ?_ | refine LetV.mk (.sc (.bool _)) rfl ?_ | refine LetV.mk (.sc _) rfl ?_ | refine LetV.mk (.agg _) rfl ?_ | refine LetV.mk (.slm _ _ _ _ _) rfl ?_ | refine LetV.mk (.ro _ _ _) rfl ?_ | refine LetV.mk (.ptr _ _ _ _) rfl ?_ | refine LetV.mk (.clo _ _ _) rfl ?_ | refine LetV.mk (.rp _ _) rfl ?_) | (refine LetI.pre ?_; first | refine LetI.wrap (by omega) (by omega) ?_ | refine LetI.mk _ rfl ?_) | (refine LetB.pre ?_; first | refine LetB.tt rfl ?_ | refine LetB.ff rfl ?_ | refine LetB.tt (by assumption) ?_ | refine LetB.ff (by assumption) ?_ | refine LetB.dect (by omega) ?_ | refine LetB.decf (by omega) ?_ | refine LetB.beqt (by omega) ?_ | refine LetB.beqf (by omega) ?_ | refine LetB.bnet (by omega) ?_ | refine LetB.bnef (by omega) ?_ | refine LetB.mk _ rfl ?_) | (refine Gd.pre ?_; first | refine Gd.run rfl ?_ | refine Gd.pass rfl ?_ | refine Gd.run (by assumption) ?_ | refine Gd.pass (by assumption) ?_ | (refine Gd.run ?_ ?_; · decide +kernel) | (refine Gd.pass ?_ ?_; · decide +kernel) | refine Gd.both ?_) | (refine Br.pre ?_; first | refine Br.tt rfl ?_ | refine Br.ff rfl ?_ | refine Br.tt (by assumption) ?_ | refine Br.ff (by assumption) ?_ | (refine Br.tt ?_ ?_; · decide +kernel) | (refine Br.ff ?_ ?_; · decide +kernel)) | (refine Ck.pre ?_; first | refine Ck.drawn (by kernel_rfl) ?_ | refine Ck.mk rfl ?_) | (refine LetL.pre ?_; first | refine LetL.mk [_] rfl ?_ | refine LetL.mk _ rfl ?_) | (refine CallN.pre ?_; first | refine CallN.own (fun _ => 0) N2 (CallOk.mk' rfl rfl rfl (namesAll.row rfl rfl) rfl (namesAll.row rfl rfl) (haveAll.row rfl rfl trivial)) ?_ | refine CallN.pure p1 rfl rfl ?_ | refine CallN.pure p2 rfl rfl ?_) | refine forceAs.pass ?_ | refine forceEs.pass ?_ | refine forceC.pass ?_))); (try (conv => whnf)))



        refine LoopN.round T_ok mixed rfl ?_
        ((repeat ((conv => whnf); (first | (refine LetN.pre ?_; first | ((conv => arg 1; whnf); refine LetN.mk ?_)) | (refine As.pre ?_; first | refine As.mk rfl ?_ | (refine As.mk ?_ ?_; · decide +kernel) | refine As.mk (andT (nor_self _) rfl) ?_ | refine As.mk (andT (nor_self _) (or_t _)) ?_ | refine As.mk (andT (or_t _) (or_nself _)) ?_ | refine As.mk (andT (or_t _) (or_t _)) ?_ | refine As.mk (andT (nor_self _) (andT (nor_self _) rfl)) ?_ | (refine As.mk ?_ ?_; · ((repeat' (refine andT ?_ ?_)) <;> (first | rfl | assumption | exact decide_eq_true (by omega) | exact decide_eq_true (by dsimp only; omega) | exact decide_eq_true (by simp; omega) | (simp; done))))) | (refine LetV.pre ?_; first | refine LetV.mk (.sc (.int _ _)) rfl ?_ | refine LetV.mk (.sc (.bool _)) rfl ?_ | refine LetV.mk (.sc _) rfl ?_ | refine LetV.mk (.agg _) rfl ?_ | refine LetV.mk (.slm _ _ _ _ _) rfl ?_ | refine LetV.mk (.ro _ _ _) rfl ?_ | refine LetV.mk (.ptr _ _ _ _) rfl ?_ | refine LetV.mk (.clo _ _ _) rfl ?_ | refine LetV.mk (.rp _ _) rfl ?_) | (refine LetI.pre ?_; first | refine LetI.wrap (by omega) (by omega) ?_ | refine LetI.mk _ rfl ?_) | (refine LetB.pre ?_; first | refine LetB.tt rfl ?_ | refine LetB.ff rfl ?_ | refine LetB.tt (by assumption) ?_ | refine LetB.ff (by assumption) ?_ | refine LetB.dect (by omega) ?_ | refine LetB.decf (by omega) ?_ | refine LetB.beqt (by omega) ?_ | refine LetB.beqf (by omega) ?_ | refine LetB.bnet (by omega) ?_ | refine LetB.bnef (by omega) ?_ | refine LetB.mk _ rfl ?_) | (refine Gd.pre ?_; first | refine Gd.run rfl ?_ | refine Gd.pass rfl ?_ | refine Gd.run (by assumption) ?_ | refine Gd.pass (by assumption) ?_ | (refine Gd.run ?_ ?_; · decide +kernel) | (refine Gd.pass ?_ ?_; · decide +kernel) | refine Gd.both ?_) | (refine Br.pre ?_; first | refine Br.tt rfl ?_ | refine Br.ff rfl ?_ | refine Br.tt (by assumption) ?_ | refine Br.ff (by assumption) ?_ | (refine Br.tt ?_ ?_; · decide +kernel) | (refine Br.ff ?_ ?_; · decide +kernel)) | (refine Ck.pre ?_; first | refine Ck.drawn (by kernel_rfl) ?_ | refine Ck.mk rfl ?_) | (refine LetL.pre ?_; first | refine LetL.mk [_] rfl ?_ | refine LetL.mk _ rfl ?_) | (refine CallN.pre ?_; first | refine CallN.own (fun _ => 0) N2 (CallOk.mk' rfl rfl rfl (namesAll.row rfl rfl) rfl (namesAll.row rfl rfl) (haveAll.row rfl rfl trivial)) ?_ | refine CallN.pure p1 rfl rfl ?_ | refine CallN.pure p2 rfl rfl ?_) | refine forceAs.pass ?_ | refine forceEs.pass ?_ | refine forceC.pass ?_))); (try (conv => whnf)))



        refine LoopN.round T_ok mixed rfl ?_
        ((repeat ((conv => whnf); (first | (refine LetN.pre ?_; first | ((conv => arg 1; whnf); refine LetN.mk ?_)) | (refine As.pre ?_; first | refine As.mk rfl ?_ | (refine As.mk ?_ ?_; · decide +kernel) | refine As.mk (andT (nor_self _) rfl) ?_ | refine As.mk (andT (nor_self _) (or_t _)) ?_ | refine As.mk (andT (or_t _) (or_nself _)) ?_ | refine As.mk (andT (or_t _) (or_t _)) ?_ | refine As.mk (andT (nor_self _) (andT (nor_self _) rfl)) ?_ | (refine As.mk ?_ ?_; · ((repeat' (refine andT ?_ ?_)) <;> (first | rfl | assumption | exact decide_eq_true (by omega) | exact decide_eq_true (by dsimp only; omega) | exact decide_eq_true (by simp; omega) | (simp; done))))) | (refine LetV.pre ?_; first | refine LetV.mk (.sc (.int _ _)) rfl ?_ | refine LetV.mk (.sc (.bool _)) rfl ?_ | refine LetV.mk (.sc _) rfl ?_ | refine LetV.mk (.agg _) rfl ?_ | refine LetV.mk (.slm _ _ _ _ _) rfl ?_ | refine LetV.mk (.ro _ _ _) rfl ?_ | refine LetV.mk (.ptr _ _ _ _) rfl ?_ | refine LetV.mk (.clo _ _ _) rfl ?_ | refine LetV.mk (.rp _ _) rfl ?_) | (refine LetI.pre ?_; first | refine LetI.wrap (by omega) (by omega) ?_ | refine LetI.mk _ rfl ?_) | (refine LetB.pre ?_; first | refine LetB.tt rfl ?_ | refine LetB.ff rfl ?_ | refine LetB.tt (by assumption) ?_ | refine LetB.ff (by assumption) ?_ | refine LetB.dect (by omega) ?_ | refine LetB.decf (by omega) ?_ | refine LetB.beqt (by omega) ?_ | refine LetB.beqf (by omega) ?_ | refine LetB.bnet (by omega) ?_ | refine LetB.bnef (by omega) ?_ | refine LetB.mk _ rfl ?_) | (refine Gd.pre ?_; first | refine Gd.run rfl ?_ | refine Gd.pass rfl ?_ | refine Gd.run (by assumption) ?_ | refine Gd.pass (by assumption) ?_ | (refine Gd.run ?_ ?_; · decide +kernel) | (refine Gd.pass ?_ ?_; · decide +kernel) | refine Gd.both ?_) | (refine Br.pre ?_; first | refine Br.tt rfl ?_ | refine Br.ff rfl ?_ | refine Br.tt (by assumption) ?_ | refine Br.ff (by assumption) ?_ | (refine Br.tt ?_ ?_; · decide +kernel) | (refine Br.ff ?_ ?_; · decide +kernel)) | (refine Ck.pre ?_; first | refine Ck.drawn (by kernel_rfl) ?_ | refine Ck.mk rfl ?_) | (refine LetL.pre ?_; first | refine LetL.mk [_] rfl ?_ | refine LetL.mk _ rfl ?_) | (refine CallN.pre ?_; first | refine CallN.own (fun _ => 0) N2 (CallOk.mk' rfl rfl rfl (namesAll.row rfl rfl) rfl (namesAll.row rfl rfl) (haveAll.row rfl rfl trivial)) ?_ | refine CallN.pure p1 rfl rfl ?_ | refine CallN.pure p2 rfl rfl ?_) | refine forceAs.pass ?_ | refine forceEs.pass ?_ | refine forceC.pass ?_))); (try (conv => whnf)))



        refine LoopN.weak ?sw_7 (hnx [a, b, c] ⟨by show 1 ≤ 3; omega, by show 3 ≤ k + 1; have : 2 ≤ k := h3; omega⟩ (by intro x hx; simp only [List.mem_cons, List.not_mem_nil, or_false] at hx; rcases hx with rfl | rfl | rfl <;> first | exact oc | exact h5 _ (by simp)) (by exact ⟨h6.1, e4, trivial⟩))
        case sw_7 => exact SW.mk (fun i => match i with | 1 => 3 | i => i) rfl rfl (stN _ _ _ _ _ _) ⟨.refl _, .refl _, VLe2.slm_of rfl, VLe2.int (by omega), trivial⟩ (haveV.row rfl rfl (haveV.row (pure_co _) rfl trivial))
      | false =>
        rw [e4] at p2
        by_cases e2 : b = c
        · have hkb := eq_tt e2
          ((repeat ((conv => whnf); (first | (refine LetN.pre ?_; first | ((conv => arg 1; whnf); refine LetN.mk ?_)) | (refine As.pre ?_; first | refine As.mk rfl ?_ | (refine As.mk ?_ ?_; · decide +kernel) | refine As.mk (andT (nor_self _) rfl) ?_ | refine As.mk (andT (nor_self _) (or_t _)) ?_ | refine As.mk (andT (or_t _) (or_nself _)) ?_ | refine As.mk (andT (or_t _) (or_t _)) ?_ | refine As.mk (andT (nor_self _) (andT (nor_self _) rfl)) ?_ | (refine As.mk ?_ ?_; · ((repeat' (refine andT ?_ ?_)) <;> (first | rfl | assumption | exact decide_eq_true (by omega) | exact decide_eq_true (by dsimp only; omega) | exact decide_eq_true (by simp; omega) | (simp; done))))) | (refine LetV.pre ?_; first | refine LetV.mk (.sc (.int _ _)) rfl ?_ | refine LetV.mk (.sc (.bool _)) rfl ?_ | refine LetV.mk (.sc _) rfl ?_ | refine LetV.mk (.agg _) rfl ?_ | refine LetV.mk (.slm _ _ _ _ _) rfl ?_ | refine LetV.mk (.ro _ _ _) rfl ?_ | refine LetV.mk (.ptr _ _ _ _) rfl ?_ | refine LetV.mk (.clo _ _ _) rfl ?_ | refine LetV.mk (.rp _ _) rfl ?_) | (refine LetI.pre ?_; first | refine LetI.wrap (by omega) (by omega) ?_ | refine LetI.mk _ rfl ?_) | (refine LetB.pre ?_; first | refine LetB.tt rfl ?_ | refine LetB.ff rfl ?_ | refine LetB.tt (by assumption) ?_ | refine LetB.ff (by assumption) ?_ | refine LetB.mk (o := some .eql) _ hkb ?_ | refine LetB.dect (by omega) ?_ | refine LetB.decf (by omega) ?_ | refine LetB.beqt (by omega) ?_ | refine LetB.beqf (by omega) ?_ | refine LetB.bnet (by omega) ?_ | refine LetB.bnef (by omega) ?_ | refine LetB.mk _ rfl ?_) | (refine Gd.pre ?_; first | refine Gd.run rfl ?_ | refine Gd.pass rfl ?_ | refine Gd.run (by assumption) ?_ | refine Gd.pass (by assumption) ?_ | (refine Gd.run ?_ ?_; · decide +kernel) | (refine Gd.pass ?_ ?_; · decide +kernel) | refine Gd.both ?_) | (refine Br.pre ?_; first | refine Br.tt rfl ?_ | refine Br.ff rfl ?_ | refine Br.tt (by assumption) ?_ | refine Br.ff (by assumption) ?_ | (refine Br.tt ?_ ?_; · decide +kernel) | (refine Br.ff ?_ ?_; · decide +kernel)) | (refine Ck.pre ?_; first | refine Ck.drawn (by kernel_rfl) ?_ | refine Ck.mk rfl ?_) | (refine LetL.pre ?_; first | refine LetL.mk [_] rfl ?_ | refine LetL.mk _ rfl ?_) | (refine CallN.pre ?_; first | refine CallN.own (fun _ => 0) N2 (CallOk.mk' rfl rfl rfl (namesAll.row rfl rfl) rfl (namesAll.row rfl rfl) (haveAll.row rfl rfl trivial)) ?_ | refine CallN.pure p1 rfl rfl ?_ | refine CallN.pure p2 rfl rfl ?_) | refine forceAs.pass ?_ | refine forceEs.pass ?_ | refine forceC.pass ?_))); (try (conv => whnf)))




          refine LoopN.round T_ok mixed rfl ?_
          ((repeat ((conv => whnf); (first | (refine LetN.pre ?_; first | ((conv => arg 1; whnf); refine LetN.mk ?_)) | (refine As.pre ?_; first | refine As.mk rfl ?_ | (refine As.mk ?_ ?_; · decide +kernel) | refine As.mk (andT (nor_self _) rfl) ?_ | refine As.mk (andT (nor_self _) (or_t _)) ?_ | refine As.mk (andT (or_t _) (or_nself _)) ?_ | refine As.mk (andT (or_t _) (or_t _)) ?_ | refine As.mk (andT (nor_self _) (andT (nor_self _) rfl)) ?_ | (refine As.mk ?_ ?_; · ((repeat' (refine andT ?_ ?_)) <;> (first | rfl | assumption | exact decide_eq_true (by omega) | exact decide_eq_true (by dsimp only; omega) | exact decide_eq_true (by simp; omega) | (simp; done))))) | (refine LetV.pre ?_; first | refine LetV.mk (.sc (.int _ _)) rfl ?_ | refine LetV.mk (.sc (.bool _)) rfl ?_ | refine LetV.mk (.sc _) rfl ?_ | refine LetV.mk (.agg _) rfl ?_ | refine LetV.mk (.slm _ _ _ _ _) rfl ?_ | refine LetV.mk (.ro _ _ _) rfl ?_ | refine LetV.mk (.ptr _ _ _ _) rfl ?_ | refine LetV.mk (.clo _ _ _) rfl ?_ | refine LetV.mk (.rp _ _) rfl ?_) | (refine LetI.pre ?_; first | refine LetI.wrap (by omega) (by omega) ?_ | refine LetI.mk _ rfl ?_) | (refine LetB.pre ?_; first | refine LetB.tt rfl ?_ | refine LetB.ff rfl ?_ | refine LetB.tt (by assumption) ?_ | refine LetB.ff (by assumption) ?_ | refine LetB.mk (o := some .eql) _ hkb ?_ | refine LetB.dect (by omega) ?_ | refine LetB.decf (by omega) ?_ | refine LetB.beqt (by omega) ?_ | refine LetB.beqf (by omega) ?_ | refine LetB.bnet (by omega) ?_ | refine LetB.bnef (by omega) ?_ | refine LetB.mk _ rfl ?_) | (refine Gd.pre ?_; first | refine Gd.run rfl ?_ | refine Gd.pass rfl ?_ | refine Gd.run (by assumption) ?_ | refine Gd.pass (by assumption) ?_ | (refine Gd.run ?_ ?_; · decide +kernel) | (refine Gd.pass ?_ ?_; · decide +kernel) | refine Gd.both ?_) | (refine Br.pre ?_; first | refine Br.tt rfl ?_ | refine Br.ff rfl ?_ | refine Br.tt (by assumption) ?_ | refine Br.ff (by assumption) ?_ | (refine Br.tt ?_ ?_; · decide +kernel) | (refine Br.ff ?_ ?_; · decide +kernel)) | (refine Ck.pre ?_; first | refine Ck.drawn (by kernel_rfl) ?_ | refine Ck.mk rfl ?_) | (refine LetL.pre ?_; first | refine LetL.mk [_] rfl ?_ | refine LetL.mk _ rfl ?_) | (refine CallN.pre ?_; first | refine CallN.own (fun _ => 0) N2 (CallOk.mk' rfl rfl rfl (namesAll.row rfl rfl) rfl (namesAll.row rfl rfl) (haveAll.row rfl rfl trivial)) ?_ | refine CallN.pure p1 rfl rfl ?_ | refine CallN.pure p2 rfl rfl ?_) | refine forceAs.pass ?_ | refine forceEs.pass ?_ | refine forceC.pass ?_))); (try (conv => whnf)))




          refine LoopN.round T_ok mixed rfl ?_
          ((repeat ((conv => whnf); (first | (refine LetN.pre ?_; first | ((conv => arg 1; whnf); refine LetN.mk ?_)) | (refine As.pre ?_; first | refine As.mk rfl ?_ | (refine As.mk ?_ ?_; · decide +kernel) | refine As.mk (andT (nor_self _) rfl) ?_ | refine As.mk (andT (nor_self _) (or_t _)) ?_ | refine As.mk (andT (or_t _) (or_nself _)) ?_ | refine As.mk (andT (or_t _) (or_t _)) ?_ | refine As.mk (andT (nor_self _) (andT (nor_self _) rfl)) ?_ | (refine As.mk ?_ ?_; · ((repeat' (refine andT ?_ ?_)) <;> (first | rfl | assumption | exact decide_eq_true (by omega) | exact decide_eq_true (by dsimp only; omega) | exact decide_eq_true (by simp; omega) | (simp; done))))) | (refine LetV.pre ?_; first | refine LetV.mk (.sc (.int _ _)) rfl ?_ | refine LetV.mk (.sc (.bool _)) rfl ?_ | refine LetV.mk (.sc _) rfl ?_ | refine LetV.mk (.agg _) rfl ?_ | refine LetV.mk (.slm _ _ _ _ _) rfl ?_ | refine LetV.mk (.ro _ _ _) rfl ?_ | refine LetV.mk (.ptr _ _ _ _) rfl ?_ | refine LetV.mk (.clo _ _ _) rfl ?_ | refine LetV.mk (.rp _ _) rfl ?_) | (refine LetI.pre ?_; first | refine LetI.wrap (by omega) (by omega) ?_ | refine LetI.mk _ rfl ?_) | (refine LetB.pre ?_; first | refine LetB.tt rfl ?_ | refine LetB.ff rfl ?_ | refine LetB.tt (by assumption) ?_ | refine LetB.ff (by assumption) ?_ | refine LetB.mk (o := some .eql) _ hkb ?_ | refine LetB.dect (by omega) ?_ | refine LetB.decf (by omega) ?_ | refine LetB.beqt (by omega) ?_ | refine LetB.beqf (by omega) ?_ | refine LetB.bnet (by omega) ?_ | refine LetB.bnef (by omega) ?_ | refine LetB.mk _ rfl ?_) | (refine Gd.pre ?_; first | refine Gd.run rfl ?_ | refine Gd.pass rfl ?_ | refine Gd.run (by assumption) ?_ | refine Gd.pass (by assumption) ?_ | (refine Gd.run ?_ ?_; · decide +kernel) | (refine Gd.pass ?_ ?_; · decide +kernel) | refine Gd.both ?_) | (refine Br.pre ?_; first | refine Br.tt rfl ?_ | refine Br.ff rfl ?_ | refine Br.tt (by assumption) ?_ | refine Br.ff (by assumption) ?_ | (refine Br.tt ?_ ?_; · decide +kernel) | (refine Br.ff ?_ ?_; · decide +kernel)) | (refine Ck.pre ?_; first | refine Ck.drawn (by kernel_rfl) ?_ | refine Ck.mk rfl ?_) | (refine LetL.pre ?_; first | refine LetL.mk [_] rfl ?_ | refine LetL.mk _ rfl ?_) | (refine CallN.pre ?_; first | refine CallN.own (fun _ => 0) N2 (CallOk.mk' rfl rfl rfl (namesAll.row rfl rfl) rfl (namesAll.row rfl rfl) (haveAll.row rfl rfl trivial)) ?_ | refine CallN.pure p1 rfl rfl ?_ | refine CallN.pure p2 rfl rfl ?_) | refine forceAs.pass ?_ | refine forceEs.pass ?_ | refine forceC.pass ?_))); (try (conv => whnf)))




          refine LoopN.weak ?sw_8 (hnx [a, b] ⟨by show 1 ≤ 2; omega, by show 2 ≤ k + 1; have : 2 ≤ k := h3; omega⟩ (by exact h5) (by exact h6))
          case sw_8 => exact SW.mk id rfl rfl (stN _ _ _ _ _ _) ⟨.refl _, .refl _, VLe2.slm_of rfl, VLe2.int (by omega), trivial⟩ (haveV.row rfl rfl (haveV.row (pure_co _) rfl trivial))
        · have hkb := eq_ff e2
          have e3 := prec_tot e4 e2
          ((repeat ((conv => whnf); (first | (refine LetN.pre ?_; first | ((conv => arg 1; whnf); refine LetN.mk ?_)) | (refine As.pre ?_; first | refine As.mk rfl ?_ | (refine As.mk ?_ ?_; · decide +kernel) | refine As.mk (andT (nor_self _) rfl) ?_ | refine As.mk (andT (nor_self _) (or_t _)) ?_ | refine As.mk (andT (or_t _) (or_nself _)) ?_ | refine As.mk (andT (or_t _) (or_t _)) ?_ | refine As.mk (andT (nor_self _) (andT (nor_self _) rfl)) ?_ | (refine As.mk ?_ ?_; · ((repeat' (refine andT ?_ ?_)) <;> (first | rfl | assumption | exact decide_eq_true (by omega) | exact decide_eq_true (by dsimp only; omega) | exact decide_eq_true (by simp; omega) | (simp; done))))) | (refine LetV.pre ?_; first | refine LetV.mk (.sc (.int _ _)) rfl ?_ | refine LetV.mk (.sc (.bool _)) rfl ?_ | refine LetV.mk (.sc _) rfl ?_ | refine LetV.mk (.agg _) rfl ?_ | refine LetV.mk (.slm _ _ _ _ _) rfl ?_ | refine LetV.mk (.ro _ _ _) rfl ?_ | refine LetV.mk (.ptr _ _ _ _) rfl ?_ | refine LetV.mk (.clo _ _ _) rfl ?_ | refine LetV.mk (.rp _ _) rfl ?_) | (refine LetI.pre ?_; first | refine LetI.wrap (by omega) (by omega) ?_ | refine LetI.mk _ rfl ?_) | (refine LetB.pre ?_; first | refine LetB.tt rfl ?_ | refine LetB.ff rfl ?_ | refine LetB.tt (by assumption) ?_ | refine LetB.ff (by assumption) ?_ | refine LetB.mk (o := some .eql) _ hkb ?_ | refine LetB.dect (by omega) ?_ | refine LetB.decf (by omega) ?_ | refine LetB.beqt (by omega) ?_ | refine LetB.beqf (by omega) ?_ | refine LetB.bnet (by omega) ?_ | refine LetB.bnef (by omega) ?_ | refine LetB.mk _ rfl ?_) | (refine Gd.pre ?_; first | refine Gd.run rfl ?_ | refine Gd.pass rfl ?_ | refine Gd.run (by assumption) ?_ | refine Gd.pass (by assumption) ?_ | (refine Gd.run ?_ ?_; · decide +kernel) | (refine Gd.pass ?_ ?_; · decide +kernel) | refine Gd.both ?_) | (refine Br.pre ?_; first | refine Br.tt rfl ?_ | refine Br.ff rfl ?_ | refine Br.tt (by assumption) ?_ | refine Br.ff (by assumption) ?_ | (refine Br.tt ?_ ?_; · decide +kernel) | (refine Br.ff ?_ ?_; · decide +kernel)) | (refine Ck.pre ?_; first | refine Ck.drawn (by kernel_rfl) ?_ | refine Ck.mk rfl ?_) | (refine LetL.pre ?_; first | refine LetL.mk [_] rfl ?_ | refine LetL.mk _ rfl ?_) | (refine CallN.pre ?_; first | refine CallN.own (fun _ => 0) N2 (CallOk.mk' rfl rfl rfl (namesAll.row rfl rfl) rfl (namesAll.row rfl rfl) (haveAll.row rfl rfl trivial)) ?_ | refine CallN.pure p1 rfl rfl ?_ | refine CallN.pure p2 rfl rfl ?_) | refine forceAs.pass ?_ | refine forceEs.pass ?_ | refine forceC.pass ?_))); (try (conv => whnf)))




          refine LoopN.round T_ok mixed rfl ?_
          ((repeat ((conv => whnf); (first | (refine LetN.pre ?_; first | ((conv => arg 1; whnf); refine LetN.mk ?_)) | (refine As.pre ?_; first | refine As.mk rfl ?_ | (refine As.mk ?_ ?_; · decide +kernel) | refine As.mk (andT (nor_self _) rfl) ?_ | refine As.mk (andT (nor_self _) (or_t _)) ?_ | refine As.mk (andT (or_t _) (or_nself _)) ?_ | refine As.mk (andT (or_t _) (or_t _)) ?_ | refine As.mk (andT (nor_self _) (andT (nor_self _) rfl)) ?_ | (refine As.mk ?_ ?_; · ((repeat' (refine andT ?_ ?_)) <;> (first | rfl | assumption | exact decide_eq_true (by omega) | exact decide_eq_true (by dsimp only; omega) | exact decide_eq_true (by simp; omega) | (simp; done))))) | (refine LetV.pre ?_; first | refine LetV.mk (.sc (.int _ _)) rfl ?_ | refine LetV.mk (.sc (.bool _)) rfl ?_ | refine LetV.mk (.sc _) rfl ?_ | refine LetV.mk (.agg _) rfl ?_ | refine LetV.mk (.slm _ _ _ _ _) rfl ?_ | refine LetV.mk (.ro _ _ _) rfl ?_ | refine LetV.mk (.ptr _ _ _ _) rfl ?_ | refine LetV.mk (.clo _ _ _) rfl ?_ | refine LetV.mk (.rp _ _) rfl ?_) | (refine LetI.pre ?_; first | refine LetI.wrap (by omega) (by omega) ?_ | refine LetI.mk _ rfl ?_) | (refine LetB.pre ?_; first | refine LetB.tt rfl ?_ | refine LetB.ff rfl ?_ | refine LetB.tt (by assumption) ?_ | refine LetB.ff (by assumption) ?_ | refine LetB.mk (o := some .eql) _ hkb ?_ | refine LetB.dect (by omega) ?_ | refine LetB.decf (by omega) ?_ | refine LetB.beqt (by omega) ?_ | refine LetB.beqf (by omega) ?_ | refine LetB.bnet (by omega) ?_ | refine LetB.bnef (by omega) ?_ | refine LetB.mk _ rfl ?_) | (refine Gd.pre ?_; first | refine Gd.run rfl ?_ | refine Gd.pass rfl ?_ | refine Gd.run (by assumption) ?_ | refine Gd.pass (by assumption) ?_ | (refine Gd.run ?_ ?_; · decide +kernel) | (refine Gd.pass ?_ ?_; · decide +kernel) | refine Gd.both ?_) | (refine Br.pre ?_; first | refine Br.tt rfl ?_ | refine Br.ff rfl ?_ | refine Br.tt (by assumption) ?_ | refine Br.ff (by assumption) ?_ | (refine Br.tt ?_ ?_; · decide +kernel) | (refine Br.ff ?_ ?_; · decide +kernel)) | (refine Ck.pre ?_; first | refine Ck.drawn (by kernel_rfl) ?_ | refine Ck.mk rfl ?_) | (refine LetL.pre ?_; first | refine LetL.mk [_] rfl ?_ | refine LetL.mk _ rfl ?_) | (refine CallN.pre ?_; first | refine CallN.own (fun _ => 0) N2 (CallOk.mk' rfl rfl rfl (namesAll.row rfl rfl) rfl (namesAll.row rfl rfl) (haveAll.row rfl rfl trivial)) ?_ | refine CallN.pure p1 rfl rfl ?_ | refine CallN.pure p2 rfl rfl ?_) | refine forceAs.pass ?_ | refine forceEs.pass ?_ | refine forceC.pass ?_))); (try (conv => whnf)))




          refine LoopN.round T_ok mixed rfl ?_
          ((repeat ((conv => whnf); (first | (refine LetN.pre ?_; first | ((conv => arg 1; whnf); refine LetN.mk ?_)) | (refine As.pre ?_; first | refine As.mk rfl ?_ | (refine As.mk ?_ ?_; · decide +kernel) | refine As.mk (andT (nor_self _) rfl) ?_ | refine As.mk (andT (nor_self _) (or_t _)) ?_ | refine As.mk (andT (or_t _) (or_nself _)) ?_ | refine As.mk (andT (or_t _) (or_t _)) ?_ | refine As.mk (andT (nor_self _) (andT (nor_self _) rfl)) ?_ | (refine As.mk ?_ ?_; · ((repeat' (refine andT ?_ ?_)) <;> (first | rfl | assumption | exact decide_eq_true (by omega) | exact decide_eq_true (by dsimp only; omega) | exact decide_eq_true (by simp; omega) | (simp; done))))) | (refine LetV.pre ?_; first | refine LetV.mk (.sc (.int _ _)) rfl ?_ | refine LetV.mk (.sc (.bool _)) rfl ?_ | refine LetV.mk (.sc _) rfl ?_ | refine LetV.mk (.agg _) rfl ?_ | refine LetV.mk (.slm _ _ _ _ _) rfl ?_ | refine LetV.mk (.ro _ _ _) rfl ?_ | refine LetV.mk (.ptr _ _ _ _) rfl ?_ | refine LetV.mk (.clo _ _ _) rfl ?_ | refine LetV.mk (.rp _ _) rfl ?_) | (refine LetI.pre ?_; first | refine LetI.wrap (by omega) (by omega) ?_ | refine LetI.mk _ rfl ?_) | (refine LetB.pre ?_; first | refine LetB.tt rfl ?_ | refine LetB.ff rfl ?_ | refine LetB.tt (by assumption) ?_ | refine LetB.ff (by assumption) ?_ | refine LetB.mk (o := some .eql) _ hkb ?_ | refine LetB.dect (by omega) ?_ | refine LetB.decf (by omega) ?_ | refine LetB.beqt (by omega) ?_ | refine LetB.beqf (by omega) ?_ | refine LetB.bnet (by omega) ?_ | refine LetB.bnef (by omega) ?_ | refine LetB.mk _ rfl ?_) | (refine Gd.pre ?_; first | refine Gd.run rfl ?_ | refine Gd.pass rfl ?_ | refine Gd.run (by assumption) ?_ | refine Gd.pass (by assumption) ?_ | (refine Gd.run ?_ ?_; · decide +kernel) | (refine Gd.pass ?_ ?_; · decide +kernel) | refine Gd.both ?_) | (refine Br.pre ?_; first | refine Br.tt rfl ?_ | refine Br.ff rfl ?_ | refine Br.tt (by assumption) ?_ | refine Br.ff (by assumption) ?_ | (refine Br.tt ?_ ?_; · decide +kernel) | (refine Br.ff ?_ ?_; · decide +kernel)) | (refine Ck.pre ?_; first | refine Ck.drawn (by kernel_rfl) ?_ | refine Ck.mk rfl ?_) | (refine LetL.pre ?_; first | refine LetL.mk [_] rfl ?_ | refine LetL.mk _ rfl ?_) | (refine CallN.pre ?_; first | refine CallN.own (fun _ => 0) N2 (CallOk.mk' rfl rfl rfl (namesAll.row rfl rfl) rfl (namesAll.row rfl rfl) (haveAll.row rfl rfl trivial)) ?_ | refine CallN.pure p1 rfl rfl ?_ | refine CallN.pure p2 rfl rfl ?_) | refine forceAs.pass ?_ | refine forceEs.pass ?_ | refine forceC.pass ?_))); (try (conv => whnf)))




          refine LoopN.weak ?sw_9 (hnx [a, c, b] ⟨by show 1 ≤ 3; omega, by show 3 ≤ k + 1; have : 2 ≤ k := h3; omega⟩ (by intro x hx; simp only [List.mem_cons, List.not_mem_nil, or_false] at hx; rcases hx with rfl | rfl | rfl <;> first | exact oc | exact h5 _ (by simp)) (by exact ⟨e1, e3, trivial⟩))
          case sw_9 => exact SW.mk (fun i => match i with | 1 => 3 | i => i) rfl rfl (stN _ _ _ _ _ _) ⟨.refl _, .refl _, VLe2.slm_of rfl, VLe2.int (by omega), trivial⟩ (haveV.row rfl rfl (haveV.row (pure_co _) rfl trivial))
  | a :: b :: c' :: l, h3, h4, h5, h6, hr =>
    exact absurd h3 (by show ¬ (l.length + 1 + 1 + 1 ≤ k); omega)
-- END
end Pb
end Go.Proofs.Ytjnmbmdplchfkaa
namespace Go.Proofs.Ytjnmbmdplchfkaa
open Go.Proofs.Ytjnmbmdplchfkaa.Am
set_option maxRecDepth 100000
variable [Lo]
namespace Pb
theorem set_f (fl : Fl) (xs : List Int) (hx : xs.length ≤ 9223372036854775807) (at_ : Nat) (ha : at_ ≤ xs.length) : ∃ s a, (∀ m, -1000 ≤ m ∧ m ≤ 1000 → okS m s) ∧ a ≤ xs.length ∧
    AFun Try.prog 49 1 [.ptr 0 2 0 0] [(0, drawB fl xs at_)] (.ro {} 2 (s.map coA)) [(0, drawB fl xs a)] := by
  obtain ⟨⟨s, a⟩, ⟨h1, h2, h3, h4⟩, h⟩ := set_s fl xs hx at_ ha
  dsimp only at h1 h2 h3 h4 h
  exact ⟨s, a, fun m hm => ⟨hm, ⟨h1.1, by omega⟩, h2, ordS_at s h3⟩, h4, frzD h (pure_co s) (by simp)⟩
/-! ### A requirement -/
/-- What is known of a made requirement. -/
structure MN (n : Nat) (lv : Int) (x : Nd) : Prop where
  all : ∀ y ∈ x.nodes, okN y
  h : x.hgt ≤ n + 1
  l1 : 1 ≤ (x.nodes.filter lfN).length
  l2 : ((x.nodes.filter lfN).length : Int) ≤ max 1 lv
  n : (x.nodes.length : Int) ≤ 1 + n * max 1 lv
theorem mx_mul (c lv b : Int) (n : Nat) (hn : n ≤ 3) (h1 : 1 ≤ c ∧ c ≤ 3) (h2 : c ≤ lv) (h3 : c * b ≤ lv) (hb : 0 ≤ b) : c * max 1 b ≤ max 1 lv ∧ 1 + c * (1 + (n : Int) * max 1 b) ≤ 1 + ((n + 1 : Nat) : Int) * max 1 lv := by
  have hc : c = 1 ∨ c = 2 ∨ c = 3 := by omega
  have hn' : n = 0 ∨ n = 1 ∨ n = 2 ∨ n = 3 := by omega
  rcases hc with rfl | rfl | rfl <;> rcases hn' with rfl | rfl | rfl | rfl <;> constructor <;> omega
theorem leaf_cnt (k n m : Int) (s : List Co) (l : List Nd) (h : lfN (.mk k n m s l) = false) : (Nd.nodes (.mk k n m s l)).filter lfN = (Nd.nodesL l).filter lfN := by
  rw [Nd.nodes, List.filter_cons, h]; rfl
theorem MNs {n : Nat} {b : Int} : ∀ {l : List Nd}, (∀ x ∈ l, MN n b x) → (∀ y ∈ Nd.nodesL l, okN y) ∧ Nd.hgtL l ≤ n + 1 ∧ l.length ≤ ((Nd.nodesL l).filter lfN).length ∧ (((Nd.nodesL l).filter lfN).length : Int) ≤ l.length * max 1 b ∧ ((Nd.nodesL l).length : Int) ≤ l.length * (1 + n * max 1 b)
  | [], _ => by
    rw [Nd.nodesL, Nd.hgtL]
    exact ⟨fun y hy => absurd hy List.not_mem_nil, Nat.zero_le _, Nat.le_refl _, by simp, by simp⟩
  | x :: l, h => by
    have hx := h x (List.mem_cons_self ..)
    obtain ⟨a1, a2, a3, a4, a5⟩ := MNs (l := l) (fun y hy => h y (List.mem_cons_of_mem _ hy))
    have h1 := hx.l1
    have h2 := hx.l2
    have h3 := hx.n
    have h4 := hx.h
    rw [Nd.nodesL, Nd.hgtL]
    refine ⟨fun y hy => ?_, by omega, ?_, ?_, ?_⟩
    · rcases List.mem_append.1 hy with e | e
      · exact hx.all y e
      · exact a1 y e
    · rw [List.filter_append, List.length_append, List.length_cons]; omega
    · rw [List.filter_append, List.length_append, List.length_cons, Int.natCast_add, Int.natCast_add, Int.add_mul]
      omega
    · rw [List.length_append, List.length_cons, Int.natCast_add, Int.natCast_add, Int.add_mul]
      omega
mutual
theorem deep_le : ∀ (x : Nd) (d : Nat) (a : Int), x.deep d a ≤ max a (d + x.hgt - 1)
  | .mk k n m s l, d, a => by
    rw [Nd.deep, Nd.hgt]
    have := deepL_le l (d + 1) (max a d)
    omega
theorem deepL_le : ∀ (l : List Nd) (d : Nat) (a : Int), Nd.deepL l d a ≤ max a (d + Nd.hgtL l - 1)
  | [], d, a => by rw [Nd.deepL]; omega
  | x :: l, d, a => by
    rw [Nd.deepL, Nd.hgtL]
    have h1 := deep_le x d a
    have h2 := deepL_le l d (x.deep d a)
    omega
end
theorem MN.wn {n : Nat} {x : Nd} (hn : n ≤ 3) (h : MN n 6 x) : WN x := by
  have h1 := h.n
  have h2 := h.h
  have h3 := deep_le x 1 0
  have h4 := h.l2
  have e : n = 0 ∨ n = 1 ∨ n = 2 ∨ n = 3 := by omega
  refine ⟨h.all, ?_, by omega, by omega, h.l1, by omega⟩
  rcases e with rfl | rfl | rfl | rfl <;> omega
/-- A leaf. -/
theorem MN.leaf {n : Nat} {lv : Int} {k m mm : Int} {s : List Co} (hk : lfN (.mk k m mm s []) = true) (h : okN (.mk k m mm s [])) : MN n lv (.mk k m mm s []) := by
  have e : Nd.nodes (.mk k m mm s []) = [.mk k m mm s []] := by rw [Nd.nodes]; rfl
  refine ⟨?_, ?_, ?_, ?_, ?_⟩
  · rw [e]; intro y hy; rw [List.mem_singleton.1 hy]; exact h
  · rw [Nd.hgt]; show 0 + 1 ≤ n + 1; omega
  · rw [e, List.filter_cons, hk]; exact Nat.le_refl _
  · rw [e, List.filter_cons, hk]; show ((1 : Nat) : Int) ≤ _; omega
  · rw [e]
    show ((1 : Nat) : Int) ≤ 1 + (n : Int) * max 1 lv
    have : 0 ≤ (n : Int) * max 1 lv := Int.mul_nonneg (by omega) (by omega)
    omega
/-- A node with others. -/
theorem MN.node {n : Nat} {lv b : Int} {k m : Int} {l : List Nd} (hn : n ≤ 3) (hl : 1 ≤ l.length ∧ l.length ≤ 3) (h2 : (l.length : Int) ≤ lv) (h3 : (l.length : Int) * b ≤ lv) (hb : 0 ≤ b) (hk : (k = 3 ∧ m = 0) ∨ (k = 4 ∧ 1 ≤ m ∧ m ≤ l.length)) (h : ∀ x ∈ l, MN n b x) : MN (n + 1) lv (.mk k m 0 [] l) := by
  obtain ⟨a1, a2, a3, a4, a5⟩ := MNs h
  have hlf : lfN (.mk k m 0 [] l) = false := by rcases hk with ⟨rfl, _⟩ | ⟨rfl, _⟩ <;> rfl
  have hmx := mx_mul l.length lv b n hn (by omega) h2 h3 hb
  have hok : okN (.mk k m 0 [] l) := by
    rcases hk with ⟨rfl, rfl⟩ | ⟨rfl, h⟩
    · exact .all l (by omega) (by omega)
    · exact .some m l h (by omega) (by omega)
  refine ⟨?_, ?_, ?_, ?_, ?_⟩
  · rw [Nd.nodes]; intro y hy
    rcases List.mem_cons.1 hy with e | e
    · rw [e]; exact hok
    · exact a1 y e
  · rw [Nd.hgt]; omega
  · rw [leaf_cnt _ _ _ _ _ hlf]; omega
  · rw [leaf_cnt _ _ _ _ _ hlf]; omega
  · rw [Nd.nodes, List.length_cons]
    have := hmx.2
    omega
end Pb
end Go.Proofs.Ytjnmbmdplchfkaa
