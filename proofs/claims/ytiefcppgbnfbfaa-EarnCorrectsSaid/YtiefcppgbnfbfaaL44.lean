/- earn: parts of the proof, DearnKA DearnKB DearnKC. -/
import Derived.Test.YtiefcppgbnfbfaaL43
set_option linter.all false
namespace Go.Proofs.Ytiefcppgbnfbfaa
open Go.Proofs.Ytiefcppgbnfbfaa.Am
set_option maxRecDepth 100000
namespace En
/-! ### A correction, a finding, a lift: plain -/
theorem and2 {a b : Bool} (h : (a && b) = true) : a = true ∧ b = true := by simpa using h
theorem chos_one (R : List E) (e : E) (k r : Int) : chos (R ++ [e]) [cOf k, cTo r] = chos R [cOf k, cTo r] ++ if e.kind = k ∧ e.ref = r then [e] else [] := by
  unfold chos
  rw [List.filter_append]
  congr 1
  by_cases c : e.kind = k ∧ e.ref = r
  · rw [if_pos c, List.filter_cons_of_pos]; · rfl
    show (decide (e.kind = k) && (decide (e.ref = r) && true)) = true
    rw [decide_eq_true c.1, decide_eq_true c.2]; rfl
  · rw [if_neg c]
    refine List.filter_eq_nil_iff.2 fun x hx hh => ?_
    rw [List.mem_singleton.1 hx] at hh
    have hh : (decide (e.kind = k) && (decide (e.ref = r) && true)) = true := hh
    have h1 := and2 hh
    exact c ⟨of_decide_eq_true h1.1, of_decide_eq_true (and2 h1.2).1⟩
theorem lifted_one (R : List E) (e : E) (f a o : Int) (h : ¬ (e.kind = 6 ∧ e.ref = f)) : liftedP (R ++ [e]) f a o = liftedP R f a o := by
  unfold liftedP
  rw [List.any_append]
  have : ([e].any fun e => decide (e.kind = 6) && decide (e.ref = f) && decide (e.day ≤ a ∧ e.on_ ≤ o)) = false := by
    rw [List.any_cons, List.any_nil, Bool.or_false]
    cases h1 : decide (e.kind = 6) with
    | false => rfl
    | true =>
      cases h2 : decide (e.ref = f) with
      | false => rfl
      | true => exact absurd ⟨of_decide_eq_true h1, of_decide_eq_true h2⟩ h
  rw [this, Bool.or_false]
theorem any_cg {α : Type} {p q : α → Bool} : ∀ {L : List α}, (∀ x ∈ L, p x = q x) → L.any p = L.any q
  | [], _ => rfl
  | x :: L, h => by rw [List.any_cons, List.any_cons, h x (List.mem_cons_self ..), any_cg fun y hy => h y (List.mem_cons_of_mem _ hy)]
/-- An entry that is no grade and is not known yet changes nothing. -/
theorem ofC_late {l : List E} {e : E} (h : up (l ++ [e])) (hk : e.kind ≠ 3) (s : Sc.Scl) (st a o : Int) (ha : a < e.day) : ofC (l ++ [e]) s st a o = ofC l s st a o := by
  have hl : up l := (List.pairwise_append.1 h).1
  have hR : atR (l ++ [e]) a o = atR l a o := by
    rw [atR_up h, atR_up hl, List.filter_append, List.filter_cons_of_neg (fun hh => by have := (of_decide_eq_true hh).1; omega)]
    simp
  have hG : (l ++ [e]).filter (grB a o) = l.filter (grB a o) := by
    rw [List.filter_append, List.filter_cons_of_neg (fun hh => hk (of_decide_eq_true hh).1)]
    simp
  have hS : ∀ g, stS (l ++ [e]) a o g = stS l a o g := fun g => by
    show stand (atR (l ++ [e]) a o) a o g = stand (atR l a o) a o g
    rw [hR]
  unfold ofC fgP
  rw [hG]
  have : kpB (l ++ [e]) s st a o = kpB l s st a o := by
    funext g; unfold kpB; rw [hS]
  rw [this]
  exact List.map_congr_left fun g _ => by rw [hS]
/-- What is known of everything, with one entry more that is no grade. -/
theorem grB_one {l : List E} {e : E} (hk : e.kind ≠ 3) (a o : Int) : (l ++ [e]).filter (grB a o) = l.filter (grB a o) := by
  rw [List.filter_append, List.filter_cons_of_neg (fun hh => hk (of_decide_eq_true hh).1)]
  simp
theorem atR_one {l : List E} {e : E} (h : up (l ++ [e])) (a o : Int) (ha : e.day ≤ a ∧ e.on_ ≤ o) : atR (l ++ [e]) a o = atR l a o ++ [e] := by
  rw [atR_up h, atR_up (List.pairwise_append.1 h).1, List.filter_append, List.filter_cons_of_pos (show cntB a o e = true from decide_eq_true ha)]
  rfl
/-- Grades that the entry is not about keep their standing. -/
theorem stS_one {l : List E} {e : E} (h : up (l ++ [e])) (a o : Int) (ha : e.day ≤ a ∧ e.on_ ≤ o) (h6 : e.kind ≠ 6) {x : E} (hx : e.ref ≠ x.id) : stS (l ++ [e]) a o x = stS l a o x := by
  show stand (atR (l ++ [e]) a o) a o x = stand (atR l a o) a o x
  rw [atR_one h a o ha]
  unfold stand corr voidP
  rw [chos_one, chos_one, if_neg (fun c => hx c.2), if_neg (fun c => hx c.2), List.append_nil, List.append_nil]
  have : (fun f : E => !liftedP (atR l a o ++ [e]) f.id a o) = fun f => !liftedP (atR l a o) f.id a o := by
    funext f; rw [lifted_one _ _ _ _ _ (fun c => h6 c.1)]
  rw [this]
/-- The fold of corrections ends with one that is later than all. -/
theorem stepC_day : ∀ (L : List E) (x : Int × Int × Int × Bool) (D : Int), (∀ c ∈ L, c.day < D) → x.2.2.1 < D → (L.foldl stepC x).2.2.1 < D
  | [], _, _, _, h => h
  | c :: L, x, D, hL, hx => by
    rw [List.foldl_cons]
    refine stepC_day L _ D (fun d hd => hL d (List.mem_cons_of_mem _ hd)) ?_
    unfold stepC
    split
    · exact hL c (List.mem_cons_self ..)
    · exact hx
theorem corr_last {R : List E} {e g : E} (hk : e.kind = 4) (hr : e.ref = g.id) (hd : ∀ c ∈ R, c.day < e.day) (h0 : 0 < e.day) : (corr (R ++ [e]) g).2.1 = e.grade := by
  unfold corr
  rw [chos_one, if_pos ⟨hk, hr⟩, List.foldl_append, List.foldl_cons, List.foldl_nil]
  have := stepC_day (chos R [cOf 4, cTo g.id]) (0, g.grade, 0, false) e.day (fun c hc => hd c (List.mem_filter.1 hc).1) h0
  generalize (chos R [cOf 4, cTo g.id]).foldl stepC (0, g.grade, 0, false) = y at this
  unfold stepC
  rw [if_pos (.inr (.inl this))]
/-- The corrected grade has the grade that the correction says. -/
theorem stS_corr {l : List E} {e g : E} (h : up (l ++ [e])) (a o : Int) (ha : e.day ≤ a ∧ e.on_ ≤ o) (hk : e.kind = 4) (hr : e.ref = g.id) (hd : ∀ c ∈ l, c.day < e.day) (h0 : 0 < e.day) : (stS (l ++ [e]) a o g).grade = e.grade := by
  show (corr (atR (l ++ [e]) a o) g).2.1 = e.grade
  rw [atR_one h a o ha]
  refine corr_last hk hr (fun c hc => ?_) h0
  rw [atR_up (List.pairwise_append.1 h).1] at hc
  exact hd c (List.mem_filter.1 hc).1
/-- A found grade is void. -/
theorem stS_found {l : List E} {e g : E} (h : up (l ++ [e])) (a o : Int) (ha : e.day ≤ a ∧ e.on_ ≤ o) (hk : e.kind = 5) (hr : e.ref = g.id) (hn : ∀ x ∈ l, x.kind = 6 → x.ref ≠ e.id) : (stS (l ++ [e]) a o g).void = true := by
  show voidP (atR (l ++ [e]) a o) a o g = true
  rw [atR_one h a o ha]
  unfold voidP
  rw [chos_one, if_pos ⟨hk, hr⟩, List.any_append, List.any_cons]
  have : liftedP (atR l a o ++ [e]) e.id a o = false := by
    rw [lifted_one _ _ _ _ _ (fun c => by omega)]
    unfold liftedP
    refine List.any_eq_false.2 fun x hx hh => ?_
    rw [atR_up (List.pairwise_append.1 h).1] at hx
    have h1 := and2 (and2 hh).1
    exact hn x (List.mem_filter.1 hx).1 (of_decide_eq_true h1.1) (of_decide_eq_true h1.2)
  rw [this]
  simp
/-- The list without what one grade gives. -/
def woC (A : List Ac) (src : Int) : List Ac := A.filter fun x => !(decide (x.src = [src]))
theorem wo_of {l : List E} (h : Ids l) (sc : Int) (hsc : ∀ x ∈ l, x.school = sc) (s : Sc.Scl) (st a o : Int) (m : List E) (gs : E → Int) (L : List E) (hL : ∀ x ∈ L, x ∈ l) {g : E} (hg : g ∈ l) : woC (L.map fun x => owC x (gs x)) (srcG g) = (L.filter fun x => decide (x.id ≠ g.id)).map fun x => owC x (gs x) := by
  unfold woC
  rw [List.filter_map]
  congr 1
  refine List.filter_congr fun x hx => ?_
  have e1 := hsc x (hL x hx)
  have e2 := hsc g hg
  show (!(decide ([srcG x] = [srcG g]))) = decide (x.id ≠ g.id)
  have : [srcG x] = [srcG g] ↔ x.id = g.id := by
    constructor
    · intro hh
      injection hh with hh
      unfold srcG at hh
      omega
    · intro hh
      unfold srcG
      rw [e1, e2, hh]
  by_cases c : x.id = g.id
  · rw [decide_eq_true (this.2 c), decide_eq_false (fun hh => hh c)]; rfl
  · rw [decide_eq_false (fun hh => c (this.1 hh)), decide_eq_true c]; rfl
/-- Without one grade, two histories that agree on the others give the same. -/
theorem wo_same {l m : List E} (h : Ids l) (sc : Int) (hsc : ∀ x ∈ l, x.school = sc) (s : Sc.Scl) (st a o : Int) {g : E} (hg : g ∈ l) (hm : m.filter (grB a o) = l.filter (grB a o)) (hS : ∀ x, x.id ≠ g.id → stS m a o x = stS l a o x) : woC (ofC m s st a o) (srcG g) = woC (ofC l s st a o) (srcG g) := by
  have hL : ∀ x ∈ (l.filter (grB a o)).filter (kpB l s st a o), x ∈ l := fun x hx => (List.mem_filter.1 (List.mem_filter.1 hx).1).1
  have hL2 : ∀ x ∈ (l.filter (grB a o)).filter (kpB m s st a o), x ∈ l := fun x hx => (List.mem_filter.1 (List.mem_filter.1 hx).1).1
  unfold ofC fgP
  rw [hm, wo_of h sc hsc s st a o m (fun x => (stS m a o x).grade) _ hL2 hg, wo_of h sc hsc s st a o m (fun x => (stS l a o x).grade) _ hL hg]
  have e : ((l.filter (grB a o)).filter (kpB m s st a o)).filter (fun x => decide (x.id ≠ g.id)) = ((l.filter (grB a o)).filter (kpB l s st a o)).filter fun x => decide (x.id ≠ g.id) := by
    refine (List.filter_filter ..).trans ((List.filter_congr fun x _ => ?_).trans (List.filter_filter ..).symm)
    by_cases c : x.id = g.id
    · rw [decide_eq_false (fun hh => hh c)]; rfl
    · unfold kpB; rw [hS x c]
  rw [e]
  refine List.map_congr_left fun x hx => ?_
  rw [hS x (of_decide_eq_true (List.mem_filter.1 hx).2)]
/-- A correction that comes last. -/
theorem of_corr {l : List E} {e g : E} (h : Ids l) (hu : up (l ++ [e])) (sc : Int) (hsc : ∀ x ∈ l, x.school = sc) (s : Sc.Scl) (st a o : Int) (hg : g ∈ l) (ha : e.day ≤ a ∧ e.on_ ≤ o) (hk : e.kind = 4) (hr : e.ref = g.id) (hd : ∀ c ∈ l, c.day < e.day) (h0 : 0 < e.day) :
    woC (ofC (l ++ [e]) s st a o) (srcG g) = woC (ofC l s st a o) (srcG g) ∧ ∀ x ∈ ofC (l ++ [e]) s st a o, x.src = [srcG g] → x.grade = e.grade ∧ x.day = g.on_ ∧ Sc.rea s e.grade s.2.2 := by
  refine ⟨wo_same h sc hsc s st a o hg (grB_one (by omega) a o) fun x hx => stS_one hu a o ha (by omega) (by rw [hr]; exact fun hh => hx hh.symm), fun x hx hs => ?_⟩
  unfold ofC fgP at hx
  obtain ⟨y, hy, rfl⟩ := List.mem_map.1 hx
  obtain ⟨h1, h2⟩ := List.mem_filter.1 hy
  rw [grB_one (by omega)] at h1
  have hyl := (List.mem_filter.1 h1).1
  have hyg : y = g := by
    refine h.eq hyl hg ?_
    have hs : [srcG y] = [srcG g] := hs
    injection hs with hs
    unfold srcG at hs
    have := hsc y hyl
    have := hsc g hg
    omega
  subst hyg
  have hgr := stS_corr hu a o ha hk hr hd h0
  refine ⟨hgr, rfl, ?_⟩
  unfold kpB at h2
  rw [hgr] at h2
  simp only [Bool.not_eq_true', Bool.or_eq_false_iff, bne_eq_false_iff_eq, decide_eq_false_iff_not, Decidable.not_not, Bool.not_eq_false', decide_eq_true_eq] at h2
  exact h2.2.2
/-- A finding that nothing lifts. -/
theorem of_found {l : List E} {e g : E} (h : Ids l) (hu : up (l ++ [e])) (sc : Int) (hsc : ∀ x ∈ l, x.school = sc) (s : Sc.Scl) (st a o : Int) (hg : g ∈ l) (ha : e.day ≤ a ∧ e.on_ ≤ o) (hk : e.kind = 5) (hr : e.ref = g.id) (hn : ∀ x ∈ l, x.kind = 6 → x.ref ≠ e.id) :
    ofC (l ++ [e]) s st a o = woC (ofC l s st a o) (srcG g) := by
  rw [← wo_same (m := l ++ [e]) h sc hsc s st a o hg (grB_one (by omega) a o) fun x hx => stS_one hu a o ha (by omega) (by rw [hr]; exact fun hh => hx hh.symm)]
  refine (List.filter_eq_self.2 fun x hx => ?_).symm
  unfold ofC fgP at hx
  obtain ⟨y, hy, rfl⟩ := List.mem_map.1 hx
  obtain ⟨h1, h2⟩ := List.mem_filter.1 hy
  rw [grB_one (by omega)] at h1
  have hyl := (List.mem_filter.1 h1).1
  have hv := stS_found hu a o ha hk hr hn
  have : [srcG y] ≠ [srcG g] := fun hs => by
    injection hs with hs
    have hyg : y = g := by
      refine h.eq hyl hg ?_
      unfold srcG at hs
      have := hsc y hyl
      have := hsc g hg
      omega
    subst hyg
    unfold kpB at h2
    rw [hv] at h2
    cases h2
  show (!(decide ([srcG y] = [srcG g]))) = true
  rw [decide_eq_false this]; rfl
/-- A finding and its lift. -/
theorem of_lifted {l : List E} {e f g : E} (hu : up (l ++ [e] ++ [f])) (s : Sc.Scl) (st a o : Int) (ha : e.day ≤ a ∧ e.on_ ≤ o) (ha2 : f.day ≤ a ∧ f.on_ ≤ o) (hk : e.kind = 5) (hk2 : f.kind = 6) (hr2 : f.ref = e.id) :
    ofC (l ++ [e] ++ [f]) s st a o = ofC l s st a o := by
  have hu1 : up (l ++ [e]) := (List.pairwise_append.1 hu).1
  have hl : up l := (List.pairwise_append.1 hu1).1
  have hS : ∀ x, stS (l ++ [e] ++ [f]) a o x = stS l a o x := fun x => by
    show stand (atR (l ++ [e] ++ [f]) a o) a o x = stand (atR l a o) a o x
    rw [atR_one hu a o ha2, atR_one hu1 a o ha]
    have hid : ∀ y ∈ atR l a o, y.id < e.id := fun y hy => by
      rw [atR_up hl] at hy
      exact (List.pairwise_append.1 hu1).2.2 y (List.mem_filter.1 hy).1 e (List.mem_singleton.2 rfl)
    generalize atR l a o = R at hid
    unfold stand corr voidP
    have c4 : chos (R ++ [e] ++ [f]) [cOf 4, cTo x.id] = chos R [cOf 4, cTo x.id] := by
      rw [chos_one, chos_one, if_neg (fun c => by have := c.1; omega), if_neg (fun c => by have := c.1; omega), List.append_nil, List.append_nil]
    have c5 : chos (R ++ [e] ++ [f]) [cOf 5, cTo x.id] = chos R [cOf 5, cTo x.id] ++ if e.kind = 5 ∧ e.ref = x.id then [e] else [] := by
      rw [chos_one, chos_one, if_neg (show ¬(f.kind = 5 ∧ f.ref = x.id) from fun c => by have := c.1; omega), List.append_nil]
    rw [c4, c5]
    have hmem : ∀ y ∈ chos R [cOf 5, cTo x.id], (!liftedP (R ++ [e] ++ [f]) y.id a o) = !liftedP R y.id a o := fun y hy => by
      have h1 := hid y (List.mem_filter.1 hy).1
      rw [lifted_one _ _ _ _ _ (fun c => by omega), lifted_one _ _ _ _ _ (fun c => by omega)]
    have hv : ((chos R [cOf 5, cTo x.id] ++ if e.kind = 5 ∧ e.ref = x.id then [e] else []).any fun y => !liftedP (R ++ [e] ++ [f]) y.id a o) = (chos R [cOf 5, cTo x.id]).any fun y => !liftedP R y.id a o := by
      rw [List.any_append, any_cg hmem]
      have : ((if e.kind = 5 ∧ e.ref = x.id then [e] else []).any fun y => !liftedP (R ++ [e] ++ [f]) y.id a o) = false := by
        split
        · rw [List.any_cons, List.any_nil, Bool.or_false]
          have : liftedP (R ++ [e] ++ [f]) e.id a o = true := by
            unfold liftedP
            rw [List.any_append, List.any_cons, decide_eq_true hk2, decide_eq_true hr2, decide_eq_true ha2]
            simp
          rw [this]; rfl
        · rfl
      rw [this, Bool.or_false]
    rw [hv]
  unfold ofC fgP
  rw [grB_one (by omega), grB_one (by omega)]
  have : kpB (l ++ [e] ++ [f]) s st a o = kpB l s st a o := by
    funext g; unfold kpB; rw [hS]
  rw [this]
  exact List.map_congr_left fun g _ => by rw [hS]
end En
end Go.Proofs.Ytiefcppgbnfbfaa
namespace Go.Proofs.Ytiefcppgbnfbfaa
open Go.Proofs.Ytiefcppgbnfbfaa.Am
set_option maxRecDepth 100000
namespace En
/-! ### The law's small functions -/
def nxE (l : List E) (g : E) (kd : Int) : E := ⟨l.length + 1, g.school, g.student, kd, 700, g.on_, ⟨#[]⟩, 0, 0, g.id, 0, 0, 0, 0, ⟨#[]⟩⟩
abbrev nxS (l : List E) (k kd : Int) (j : Nat) : AS := ⟨[(0, .ro {} 15 (l.map en)), (1, int k), (2, int kd), (6, .ptr 0 15 0 0), (7, int (j : Nat)), (10, .ro {} 15 (l.map en)), (11, int l.length), (12, int (j : Nat))], [(0, .row 15 ety [en e0])], 1⟩
theorem nxN (l : List E) (k kd j m i : Int) : frNames (fun i => decide (i < 0) || List.contains [0] i) [(0, .ro {} 15 (l.map en)), (1, int k), (2, int kd), (6, .ptr 0 15 0 0), (7, int j), (10, .ro {} 15 (l.map en)), (11, int m), (12, int i)] = true := by
  simp only [frNames, AV.names, namesL_none (pure_en l)]; rfl
set_option maxHeartbeats 1600000 in
set_option maxRecDepth 100000 in
theorem next_f (l : List E) (h : Ids l) (k : Nat) (hk : k < l.length) (hl : l.length ≤ 1000) (kd : Int) : AFun Try.prog 23 0 [.ro {} 15 (l.map en), int (k : Nat), int kd] [] (en (nxE l (l.getD k e0) kd)) [] := by
  refine AFun.of_W T_ok mixed Try.func23 rfl (Nat.le_of_ble_eq_true rfl) rfl ?_
  have hml : (l.map en).length = l.length := List.length_map _
  ((repeat ((conv => whnf); (first | (refine LetN.pre ?_; first | ((conv => arg 1; whnf); refine LetN.mk ?_)) | (refine As.pre ?_; first | refine As.mk rfl ?_ | (refine As.mk ?_ ?_; · decide +kernel) | refine As.mk (andT (nor_self _) rfl) ?_ | refine As.mk (andT (nor_self _) (or_t _)) ?_ | refine As.mk (andT (or_t _) (or_nself _)) ?_ | refine As.mk (andT (or_t _) (or_t _)) ?_ | refine As.mk (andT (nor_self _) (andT (nor_self _) rfl)) ?_ | (refine As.mk ?_ ?_; · ((repeat' (refine andT ?_ ?_)) <;> (first | rfl | assumption | exact decide_eq_true (by omega) | exact decide_eq_true (by dsimp only; omega) | exact decide_eq_true (by simp; omega) | (simp; done))))) | (refine LetV.pre ?_; first | refine LetV.mk (.sc (.int _ _)) rfl ?_ | refine LetV.mk (.sc (.bool _)) rfl ?_ | refine LetV.mk (.sc _) rfl ?_ | refine LetV.mk (.agg _) rfl ?_ | refine LetV.mk (.slm _ _ _ _ _) rfl ?_ | refine LetV.mk (.ro _ _ _) rfl ?_ | refine LetV.mk (.ptr _ _ _ _) rfl ?_ | refine LetV.mk (.clo _ _ _) rfl ?_ | refine LetV.mk (.rp _ _) rfl ?_) | (refine LetI.pre ?_; first | refine LetI.wrap (by omega) (by omega) ?_ | refine LetI.mk _ rfl ?_) | (refine LetB.pre ?_; first | refine LetB.tt rfl ?_ | refine LetB.ff rfl ?_ | refine LetB.tt (by assumption) ?_ | refine LetB.ff (by assumption) ?_ | refine LetB.dect (by omega) ?_ | refine LetB.decf (by omega) ?_ | refine LetB.beqt (by omega) ?_ | refine LetB.beqf (by omega) ?_ | refine LetB.bnet (by omega) ?_ | refine LetB.bnef (by omega) ?_ | refine LetB.mk _ rfl ?_) | (refine Gd.pre ?_; first | refine Gd.run rfl ?_ | refine Gd.pass rfl ?_ | refine Gd.run (by assumption) ?_ | refine Gd.pass (by assumption) ?_ | (refine Gd.run ?_ ?_; · decide +kernel) | (refine Gd.pass ?_ ?_; · decide +kernel) | refine Gd.both ?_) | (refine Br.pre ?_; first | refine Br.tt rfl ?_ | refine Br.ff rfl ?_ | refine Br.tt (by assumption) ?_ | refine Br.ff (by assumption) ?_ | (refine Br.tt ?_ ?_; · decide +kernel) | (refine Br.ff ?_ ?_; · decide +kernel)) | (refine Ck.pre ?_; first | refine Ck.drawn (by kernel_rfl) ?_ | refine Ck.mk rfl ?_) | (refine LetL.pre ?_; first | refine LetL.mk [_] rfl ?_ | refine LetL.mk _ rfl ?_) | refine forceAs.pass ?_ | refine forceEs.pass ?_ | refine forceC.pass ?_))); (try (conv => whnf)))
  refine LoopN.weak (s1 := nxS l (k : Nat) kd 0) ?sw0 ?_
  case sw0 => exact SW.mk id rfl (nxN ..) rfl ⟨.refl _, .refl _, .refl _, .refl _, .refl _, .refl _, VLe2.int (by rw [hml]), .refl _, trivial⟩ (haveV.row rfl rfl trivial)
  refine LoopN.ind T_ok mixed (S := nxS l (k : Nat) kd) (fun j => l.length - j) (fun j => j ≤ l.length) (fun _ => rfl) (fun j hj ih => ?_) 0 (Nat.zero_le _)
  by_cases hlt : j < l.length
  case neg =>
    clear ih
    have : j = l.length := by omega
    subst this
    have hld := ld_en hk
    unfold nxE
    generalize l.getD k e0 = g at hld ⊢
    ((repeat ((conv => whnf); (first | (refine LetN.pre ?_; first | ((conv => arg 1; whnf); refine LetN.mk ?_)) | (refine As.pre ?_; first | refine As.mk rfl ?_ | (refine As.mk ?_ ?_; · decide +kernel) | refine As.mk (andT (nor_self _) rfl) ?_ | refine As.mk (andT (nor_self _) (or_t _)) ?_ | refine As.mk (andT (or_t _) (or_nself _)) ?_ | refine As.mk (andT (or_t _) (or_t _)) ?_ | refine As.mk (andT (nor_self _) (andT (nor_self _) rfl)) ?_ | (refine As.mk ?_ ?_; · ((repeat' (refine andT ?_ ?_)) <;> (first | rfl | assumption | exact decide_eq_true (by omega) | exact decide_eq_true (by dsimp only; omega) | exact decide_eq_true (by simp; omega) | (simp; done))))) | (refine LetV.pre ?_; first | refine LetV.mk (t := 30) _ hld ?_ | refine LetV.mk (.sc (.int _ _)) rfl ?_ | refine LetV.mk (.sc (.bool _)) rfl ?_ | refine LetV.mk (.sc _) rfl ?_ | refine LetV.mk (.agg _) rfl ?_ | refine LetV.mk (.slm _ _ _ _ _) rfl ?_ | refine LetV.mk (.ro _ _ _) rfl ?_ | refine LetV.mk (.ptr _ _ _ _) rfl ?_ | refine LetV.mk (.clo _ _ _) rfl ?_ | refine LetV.mk (.rp _ _) rfl ?_) | (refine LetI.pre ?_; first | refine LetI.wrap (by omega) (by omega) ?_ | refine LetI.mk _ rfl ?_) | (refine LetB.pre ?_; first | refine LetB.tt rfl ?_ | refine LetB.ff rfl ?_ | refine LetB.tt (by assumption) ?_ | refine LetB.ff (by assumption) ?_ | refine LetB.dect (by omega) ?_ | refine LetB.decf (by omega) ?_ | refine LetB.beqt (by omega) ?_ | refine LetB.beqf (by omega) ?_ | refine LetB.bnet (by omega) ?_ | refine LetB.bnef (by omega) ?_ | refine LetB.mk _ rfl ?_) | (refine Gd.pre ?_; first | refine Gd.run rfl ?_ | refine Gd.pass rfl ?_ | refine Gd.run (by assumption) ?_ | refine Gd.pass (by assumption) ?_ | (refine Gd.run ?_ ?_; · decide +kernel) | (refine Gd.pass ?_ ?_; · decide +kernel) | refine Gd.both ?_) | (refine Br.pre ?_; first | refine Br.tt rfl ?_ | refine Br.ff rfl ?_ | refine Br.tt (by assumption) ?_ | refine Br.ff (by assumption) ?_ | (refine Br.tt ?_ ?_; · decide +kernel) | (refine Br.ff ?_ ?_; · decide +kernel)) | (refine Ck.pre ?_; first | refine Ck.drawn (by kernel_rfl) ?_ | refine Ck.mk rfl ?_) | (refine LetL.pre ?_; first | refine LetL.mk [_] rfl ?_ | refine LetL.mk _ rfl ?_) | refine forceAs.pass ?_ | refine forceEs.pass ?_ | refine forceC.pass ?_))); (try (conv => whnf)))
    exact ⟨.inl rfl, ⟨_, rfl, rfl⟩, trivial⟩
  have hld := ld_en hlt
  have hid := h j hlt
  generalize l.getD j e0 = e at hld hid
  obtain ⟨u, hu⟩ : ∃ u : Int, u = max (j : Int) e.id := ⟨_, rfl⟩
  have hu2 : u = ((j + 1 : Nat) : Int) := by omega
  have hnx := ih (j + 1) hlt (by omega)
  clear ih
  ((repeat ((conv => whnf); (first | (refine LetN.pre ?_; first | ((conv => arg 1; whnf); refine LetN.mk ?_)) | (refine As.pre ?_; first | refine As.mk rfl ?_ | (refine As.mk ?_ ?_; · decide +kernel) | refine As.mk (andT (nor_self _) rfl) ?_ | refine As.mk (andT (nor_self _) (or_t _)) ?_ | refine As.mk (andT (or_t _) (or_nself _)) ?_ | refine As.mk (andT (or_t _) (or_t _)) ?_ | refine As.mk (andT (nor_self _) (andT (nor_self _) rfl)) ?_ | (refine As.mk ?_ ?_; · ((repeat' (refine andT ?_ ?_)) <;> (first | rfl | assumption | exact decide_eq_true (by omega) | exact decide_eq_true (by dsimp only; omega) | exact decide_eq_true (by simp; omega) | (simp; done))))) | (refine LetV.pre ?_; first | refine LetV.mk (t := 30) _ hld ?_ | refine LetV.mk (.sc (.int _ _)) rfl ?_ | refine LetV.mk (.sc (.bool _)) rfl ?_ | refine LetV.mk (.sc _) rfl ?_ | refine LetV.mk (.agg _) rfl ?_ | refine LetV.mk (.slm _ _ _ _ _) rfl ?_ | refine LetV.mk (.ro _ _ _) rfl ?_ | refine LetV.mk (.ptr _ _ _ _) rfl ?_ | refine LetV.mk (.clo _ _ _) rfl ?_ | refine LetV.mk (.rp _ _) rfl ?_) | (refine LetI.pre ?_; first | refine LetI.mk (o := none) u hu ?_ | refine LetI.wrap (by omega) (by omega) ?_ | refine LetI.mk _ rfl ?_) | (refine LetB.pre ?_; first | refine LetB.tt rfl ?_ | refine LetB.ff rfl ?_ | refine LetB.tt (by assumption) ?_ | refine LetB.ff (by assumption) ?_ | refine LetB.dect (by omega) ?_ | refine LetB.decf (by omega) ?_ | refine LetB.beqt (by omega) ?_ | refine LetB.beqf (by omega) ?_ | refine LetB.bnet (by omega) ?_ | refine LetB.bnef (by omega) ?_ | refine LetB.mk _ rfl ?_) | (refine Gd.pre ?_; first | refine Gd.run rfl ?_ | refine Gd.pass rfl ?_ | refine Gd.run (by assumption) ?_ | refine Gd.pass (by assumption) ?_ | (refine Gd.run ?_ ?_; · decide +kernel) | (refine Gd.pass ?_ ?_; · decide +kernel) | refine Gd.both ?_) | (refine Br.pre ?_; first | refine Br.tt rfl ?_ | refine Br.ff rfl ?_ | refine Br.tt (by assumption) ?_ | refine Br.ff (by assumption) ?_ | (refine Br.tt ?_ ?_; · decide +kernel) | (refine Br.ff ?_ ?_; · decide +kernel)) | (refine Ck.pre ?_; first | refine Ck.drawn (by kernel_rfl) ?_ | refine Ck.mk rfl ?_) | (refine LetL.pre ?_; first | refine LetL.mk [_] rfl ?_ | refine LetL.mk _ rfl ?_) | refine forceAs.pass ?_ | refine forceEs.pass ?_ | refine forceC.pass ?_))); (try (conv => whnf)))


  refine LoopN.weak ?sw1 hnx
  case sw1 => exact SW.mk id rfl (nxN ..) rfl ⟨.refl _, .refl _, .refl _, .refl _, VLe2.int (by omega), .refl _, .refl _, VLe2.int (by omega), trivial⟩ (haveV.row rfl rfl trivial)
theorem cmp_self (a : Ac) : cmpA a a = 0 := by
  have h := same_eq a a
  have : sameR a a = true := by unfold sameR; simp
  rw [this] at h
  exact of_decide_eq_true h.symm
abbrev eqS (A : List Ac) (j : Nat) : AS := ⟨[(0, .ro {} 8 (A.map acA)), (1, .ro {} 8 (A.map acA)), (11, .ro {} 8 (A.map acA)), (12, int A.length), (13, int (j : Nat))], [], 0⟩
theorem eqN (A : List Ac) (m j : Int) : frNames (fun i => decide (i < 0) || List.contains [] i) [(0, .ro {} 8 (A.map acA)), (1, .ro {} 8 (A.map acA)), (11, .ro {} 8 (A.map acA)), (12, int m), (13, int j)] = true := by
  simp only [frNames, AV.names, namesL_none (pure_ac A)]; rfl
set_option maxRecDepth 100000 in
/-- Two lists that are the same. -/
theorem equal_f (A : List Ac) (hA : ∀ a ∈ A, okA a) (hl : A.length ≤ 1000) : AFun Try.prog 24 0 [.ro {} 8 (A.map acA), .ro {} 8 (A.map acA)] [] (bool true) [] := by
  refine AFun.of_W T_ok mixed Try.func24 rfl (Nat.le_of_ble_eq_true rfl) rfl ?_
  have hml : (A.map acA).length = A.length := List.length_map _
  ((repeat ((conv => whnf); (first | (refine LetN.pre ?_; first | ((conv => arg 1; whnf); refine LetN.mk ?_)) | (refine As.pre ?_; first | refine As.mk rfl ?_ | (refine As.mk ?_ ?_; · decide +kernel) | refine As.mk (andT (nor_self _) rfl) ?_ | refine As.mk (andT (nor_self _) (or_t _)) ?_ | refine As.mk (andT (or_t _) (or_nself _)) ?_ | refine As.mk (andT (or_t _) (or_t _)) ?_ | refine As.mk (andT (nor_self _) (andT (nor_self _) rfl)) ?_ | (refine As.mk ?_ ?_; · ((repeat' (refine andT ?_ ?_)) <;> (first | rfl | assumption | exact decide_eq_true (by omega) | exact decide_eq_true (by dsimp only; omega) | exact decide_eq_true (by simp; omega) | (simp; done))))) | (refine LetV.pre ?_; first | refine LetV.mk (.sc (.int _ _)) rfl ?_ | refine LetV.mk (.sc (.bool _)) rfl ?_ | refine LetV.mk (.sc _) rfl ?_ | refine LetV.mk (.agg _) rfl ?_ | refine LetV.mk (.slm _ _ _ _ _) rfl ?_ | refine LetV.mk (.ro _ _ _) rfl ?_ | refine LetV.mk (.ptr _ _ _ _) rfl ?_ | refine LetV.mk (.clo _ _ _) rfl ?_ | refine LetV.mk (.rp _ _) rfl ?_) | (refine LetI.pre ?_; first | refine LetI.wrap (by omega) (by omega) ?_ | refine LetI.mk _ rfl ?_) | (refine LetB.pre ?_; first | refine LetB.tt rfl ?_ | refine LetB.ff rfl ?_ | refine LetB.tt (by assumption) ?_ | refine LetB.ff (by assumption) ?_ | refine LetB.dect (by omega) ?_ | refine LetB.decf (by omega) ?_ | refine LetB.beqt (by omega) ?_ | refine LetB.beqf (by omega) ?_ | refine LetB.bnet (by omega) ?_ | refine LetB.bnef (by omega) ?_ | refine LetB.mk _ rfl ?_) | (refine Gd.pre ?_; first | refine Gd.run rfl ?_ | refine Gd.pass rfl ?_ | refine Gd.run (by assumption) ?_ | refine Gd.pass (by assumption) ?_ | (refine Gd.run ?_ ?_; · decide +kernel) | (refine Gd.pass ?_ ?_; · decide +kernel) | refine Gd.both ?_) | (refine Br.pre ?_; first | refine Br.tt rfl ?_ | refine Br.ff rfl ?_ | refine Br.tt (by assumption) ?_ | refine Br.ff (by assumption) ?_ | (refine Br.tt ?_ ?_; · decide +kernel) | (refine Br.ff ?_ ?_; · decide +kernel)) | (refine Ck.pre ?_; first | refine Ck.drawn (by kernel_rfl) ?_ | refine Ck.mk rfl ?_) | (refine LetL.pre ?_; first | refine LetL.mk [_] rfl ?_ | refine LetL.mk _ rfl ?_) | refine forceAs.pass ?_ | refine forceEs.pass ?_ | refine forceC.pass ?_))); (try (conv => whnf)))
  refine LoopN.weak (s1 := eqS A 0) ?sw0 ?_
  case sw0 => exact SW.fr0 (Nat.le_refl _) (eqN ..) ⟨.refl _, .refl _, .refl _, VLe2.int (by rw [hml]), .refl _, trivial⟩
  refine LoopN.ind T_ok mixed (S := eqS A) (fun j => A.length - j) (fun j => j ≤ A.length) (fun _ => rfl) (fun j hj ih => ?_) 0 (Nat.zero_le _)
  by_cases hlt : j < A.length
  case neg =>
    clear ih
    ((repeat ((conv => whnf); (first | (refine LetN.pre ?_; first | ((conv => arg 1; whnf); refine LetN.mk ?_)) | (refine As.pre ?_; first | refine As.mk rfl ?_ | (refine As.mk ?_ ?_; · decide +kernel) | refine As.mk (andT (nor_self _) rfl) ?_ | refine As.mk (andT (nor_self _) (or_t _)) ?_ | refine As.mk (andT (or_t _) (or_nself _)) ?_ | refine As.mk (andT (or_t _) (or_t _)) ?_ | refine As.mk (andT (nor_self _) (andT (nor_self _) rfl)) ?_ | (refine As.mk ?_ ?_; · ((repeat' (refine andT ?_ ?_)) <;> (first | rfl | assumption | exact decide_eq_true (by omega) | exact decide_eq_true (by dsimp only; omega) | exact decide_eq_true (by simp; omega) | (simp; done))))) | (refine LetV.pre ?_; first | refine LetV.mk (.sc (.int _ _)) rfl ?_ | refine LetV.mk (.sc (.bool _)) rfl ?_ | refine LetV.mk (.sc _) rfl ?_ | refine LetV.mk (.agg _) rfl ?_ | refine LetV.mk (.slm _ _ _ _ _) rfl ?_ | refine LetV.mk (.ro _ _ _) rfl ?_ | refine LetV.mk (.ptr _ _ _ _) rfl ?_ | refine LetV.mk (.clo _ _ _) rfl ?_ | refine LetV.mk (.rp _ _) rfl ?_) | (refine LetI.pre ?_; first | refine LetI.wrap (by omega) (by omega) ?_ | refine LetI.mk _ rfl ?_) | (refine LetB.pre ?_; first | refine LetB.tt rfl ?_ | refine LetB.ff rfl ?_ | refine LetB.tt (by assumption) ?_ | refine LetB.ff (by assumption) ?_ | refine LetB.dect (by omega) ?_ | refine LetB.decf (by omega) ?_ | refine LetB.beqt (by omega) ?_ | refine LetB.beqf (by omega) ?_ | refine LetB.bnet (by omega) ?_ | refine LetB.bnef (by omega) ?_ | refine LetB.mk _ rfl ?_) | (refine Gd.pre ?_; first | refine Gd.run rfl ?_ | refine Gd.pass rfl ?_ | refine Gd.run (by assumption) ?_ | refine Gd.pass (by assumption) ?_ | (refine Gd.run ?_ ?_; · decide +kernel) | (refine Gd.pass ?_ ?_; · decide +kernel) | refine Gd.both ?_) | (refine Br.pre ?_; first | refine Br.tt rfl ?_ | refine Br.ff rfl ?_ | refine Br.tt (by assumption) ?_ | refine Br.ff (by assumption) ?_ | (refine Br.tt ?_ ?_; · decide +kernel) | (refine Br.ff ?_ ?_; · decide +kernel)) | (refine Ck.pre ?_; first | refine Ck.drawn (by kernel_rfl) ?_ | refine Ck.mk rfl ?_) | (refine LetL.pre ?_; first | refine LetL.mk [_] rfl ?_ | refine LetL.mk _ rfl ?_) | refine forceAs.pass ?_ | refine forceEs.pass ?_ | refine forceC.pass ?_))); (try (conv => whnf)))
    exact ⟨.inl rfl, ⟨_, rfl, rfl⟩, trivial⟩
  have hld := getD_ac hlt
  have ho := hA _ (getD_mem hlt)
  generalize A.getD j ac0 = x at hld ho
  have hS := SameA_f x x ho ho
  rw [decide_eq_true (cmp_self x)] at hS
  have hnx := ih (j + 1) hlt (by omega)
  clear ih
  ((repeat ((conv => whnf); (first | (refine LetN.pre ?_; first | ((conv => arg 1; whnf); refine LetN.mk ?_)) | (refine As.pre ?_; first | refine As.mk rfl ?_ | (refine As.mk ?_ ?_; · decide +kernel) | refine As.mk (andT (nor_self _) rfl) ?_ | refine As.mk (andT (nor_self _) (or_t _)) ?_ | refine As.mk (andT (or_t _) (or_nself _)) ?_ | refine As.mk (andT (or_t _) (or_t _)) ?_ | refine As.mk (andT (nor_self _) (andT (nor_self _) rfl)) ?_ | (refine As.mk ?_ ?_; · ((repeat' (refine andT ?_ ?_)) <;> (first | rfl | assumption | exact decide_eq_true (by omega) | exact decide_eq_true (by dsimp only; omega) | exact decide_eq_true (by simp; omega) | (simp; done))))) | (refine LetV.pre ?_; first | refine LetV.mk (t := 41) _ hld ?_ | refine LetV.mk (.sc (.int _ _)) rfl ?_ | refine LetV.mk (.sc (.bool _)) rfl ?_ | refine LetV.mk (.sc _) rfl ?_ | refine LetV.mk (.agg _) rfl ?_ | refine LetV.mk (.slm _ _ _ _ _) rfl ?_ | refine LetV.mk (.ro _ _ _) rfl ?_ | refine LetV.mk (.ptr _ _ _ _) rfl ?_ | refine LetV.mk (.clo _ _ _) rfl ?_ | refine LetV.mk (.rp _ _) rfl ?_) | (refine LetI.pre ?_; first | refine LetI.wrap (by omega) (by omega) ?_ | refine LetI.mk _ rfl ?_) | (refine LetB.pre ?_; first | refine LetB.tt rfl ?_ | refine LetB.ff rfl ?_ | refine LetB.tt (by assumption) ?_ | refine LetB.ff (by assumption) ?_ | refine LetB.dect (by omega) ?_ | refine LetB.decf (by omega) ?_ | refine LetB.beqt (by omega) ?_ | refine LetB.beqf (by omega) ?_ | refine LetB.bnet (by omega) ?_ | refine LetB.bnef (by omega) ?_ | refine LetB.mk _ rfl ?_) | (refine Gd.pre ?_; first | refine Gd.run rfl ?_ | refine Gd.pass rfl ?_ | refine Gd.run (by assumption) ?_ | refine Gd.pass (by assumption) ?_ | (refine Gd.run ?_ ?_; · decide +kernel) | (refine Gd.pass ?_ ?_; · decide +kernel) | refine Gd.both ?_) | (refine Br.pre ?_; first | refine Br.tt rfl ?_ | refine Br.ff rfl ?_ | refine Br.tt (by assumption) ?_ | refine Br.ff (by assumption) ?_ | (refine Br.tt ?_ ?_; · decide +kernel) | (refine Br.ff ?_ ?_; · decide +kernel)) | (refine Ck.pre ?_; first | refine Ck.drawn (by kernel_rfl) ?_ | refine Ck.mk rfl ?_) | (refine LetL.pre ?_; first | refine LetL.mk [_] rfl ?_ | refine LetL.mk _ rfl ?_) | (refine CallN.pre ?_; first | refine CallN.pure hS rfl rfl ?_) | refine forceAs.pass ?_ | refine forceEs.pass ?_ | refine forceC.pass ?_))); (try (conv => whnf)))


  refine LoopN.weak ?sw1 hnx
  case sw1 => exact SW.fr0 (Nat.le_refl _) (eqN ..) ⟨.refl _, .refl _, .refl _, .refl _, VLe2.int (by omega), trivial⟩
abbrev woS (A : List Ac) (src : Int) : Nat × List Ac → AS
  | (j, out) => ⟨[(1, int src), (5, .slm {} 0 8 0 out.length), (8, .ro {} 8 (A.map acA)), (9, int A.length), (10, int (j : Nat))], [(0, .row 8 aty (out.map acA))], 1⟩
theorem woN (A : List Ac) (n : Nat) (src m j : Int) : frNames (fun i => decide (i < 0) || List.contains [0] i) [(1, int src), (5, .slm {} 0 8 0 n), (8, .ro {} 8 (A.map acA)), (9, int m), (10, int j)] = true := by
  simp only [frNames, AV.names, namesL_none (pure_ac A)]; rfl
set_option maxHeartbeats 1600000 in
set_option maxRecDepth 100000 in
theorem without_s (A : List Ac) (src : Int) (hA : ∀ a ∈ A, ∃ v, a.src = [v]) (hl : A.length ≤ 1000) : AFun Try.prog 25 0 [.ro {} 8 (A.map acA), int src] [] (.slm {} 0 8 0 (woC A src).length) [(0, .row 8 aty ((woC A src).map acA))] := by
  refine AFun.of_S T_ok mixed Try.func25 rfl (Nat.le_of_ble_eq_true rfl) rfl ?_
  have hml : (A.map acA).length = A.length := List.length_map _
  ((repeat ((conv => whnf); (first | (refine LetN.pre ?_; first | ((conv => arg 1; whnf); refine LetN.mk ?_)) | (refine As.pre ?_; first | refine As.mk rfl ?_ | (refine As.mk ?_ ?_; · decide +kernel) | refine As.mk (andT (nor_self _) rfl) ?_ | refine As.mk (andT (nor_self _) (or_t _)) ?_ | refine As.mk (andT (or_t _) (or_nself _)) ?_ | refine As.mk (andT (or_t _) (or_t _)) ?_ | refine As.mk (andT (nor_self _) (andT (nor_self _) rfl)) ?_ | (refine As.mk ?_ ?_; · ((repeat' (refine andT ?_ ?_)) <;> (first | rfl | assumption | exact decide_eq_true (by omega) | exact decide_eq_true (by dsimp only; omega) | exact decide_eq_true (by simp; omega) | (simp; done))))) | (refine LetV.pre ?_; first | refine LetV.mk (.sc (.int _ _)) rfl ?_ | refine LetV.mk (.sc (.bool _)) rfl ?_ | refine LetV.mk (.sc _) rfl ?_ | refine LetV.mk (.agg _) rfl ?_ | refine LetV.mk (.slm _ _ _ _ _) rfl ?_ | refine LetV.mk (.ro _ _ _) rfl ?_ | refine LetV.mk (.ptr _ _ _ _) rfl ?_ | refine LetV.mk (.clo _ _ _) rfl ?_ | refine LetV.mk (.rp _ _) rfl ?_) | (refine LetI.pre ?_; first | refine LetI.wrap (by omega) (by omega) ?_ | refine LetI.mk _ rfl ?_) | (refine LetB.pre ?_; first | refine LetB.tt rfl ?_ | refine LetB.ff rfl ?_ | refine LetB.tt (by assumption) ?_ | refine LetB.ff (by assumption) ?_ | refine LetB.dect (by omega) ?_ | refine LetB.decf (by omega) ?_ | refine LetB.beqt (by omega) ?_ | refine LetB.beqf (by omega) ?_ | refine LetB.bnet (by omega) ?_ | refine LetB.bnef (by omega) ?_ | refine LetB.mk _ rfl ?_) | (refine Gd.pre ?_; first | refine Gd.run rfl ?_ | refine Gd.pass rfl ?_ | refine Gd.run (by assumption) ?_ | refine Gd.pass (by assumption) ?_ | (refine Gd.run ?_ ?_; · decide +kernel) | (refine Gd.pass ?_ ?_; · decide +kernel) | refine Gd.both ?_) | (refine Br.pre ?_; first | refine Br.tt rfl ?_ | refine Br.ff rfl ?_ | refine Br.tt (by assumption) ?_ | refine Br.ff (by assumption) ?_ | (refine Br.tt ?_ ?_; · decide +kernel) | (refine Br.ff ?_ ?_; · decide +kernel)) | (refine Ck.pre ?_; first | refine Ck.drawn (by kernel_rfl) ?_ | refine Ck.mk rfl ?_) | (refine LetL.pre ?_; first | refine LetL.mk [_] rfl ?_ | refine LetL.mk _ rfl ?_) | refine forceAs.pass ?_ | refine forceEs.pass ?_ | refine forceC.pass ?_))); (try (conv => whnf)))
  refine LoopN.weak (s1 := woS A src (0, [])) ?sw0 ?_
  case sw0 => exact SW.mk id rfl (woN ..) rfl ⟨.refl _, VLe2.nilslm, .refl _, VLe2.int (by rw [hml]), .refl _, trivial⟩ (haveV.nil (Nat.le_of_ble_eq_true rfl) trivial)
  refine LoopN.ind T_ok mixed (S := woS A src) (fun i => A.length - i.1) (fun i => i.1 ≤ A.length ∧ i.2.length ≤ i.1 ∧ i.2 = woC (A.take i.1) src) (fun _ => rfl) (fun i hi ih => ?_) (0, []) ⟨Nat.zero_le _, Nat.le_refl _, rfl⟩
  obtain ⟨j, out⟩ := i
  obtain ⟨h1, h2, h3⟩ := hi
  dsimp only at h1 h2 h3
  by_cases hlt : j < A.length
  case neg =>
    clear ih
    rw [List.take_of_length_le (by omega)] at h3
    rw [← h3]
    ((repeat ((conv => whnf); (first | (refine LetN.pre ?_; first | ((conv => arg 1; whnf); refine LetN.mk ?_)) | (refine As.pre ?_; first | refine As.mk rfl ?_ | (refine As.mk ?_ ?_; · decide +kernel) | refine As.mk (andT (nor_self _) rfl) ?_ | refine As.mk (andT (nor_self _) (or_t _)) ?_ | refine As.mk (andT (or_t _) (or_nself _)) ?_ | refine As.mk (andT (or_t _) (or_t _)) ?_ | refine As.mk (andT (nor_self _) (andT (nor_self _) rfl)) ?_ | (refine As.mk ?_ ?_; · ((repeat' (refine andT ?_ ?_)) <;> (first | rfl | assumption | exact decide_eq_true (by omega) | exact decide_eq_true (by dsimp only; omega) | exact decide_eq_true (by simp; omega) | (simp; done))))) | (refine LetV.pre ?_; first | refine LetV.mk (.sc (.int _ _)) rfl ?_ | refine LetV.mk (.sc (.bool _)) rfl ?_ | refine LetV.mk (.sc _) rfl ?_ | refine LetV.mk (.agg _) rfl ?_ | refine LetV.mk (.slm _ _ _ _ _) rfl ?_ | refine LetV.mk (.ro _ _ _) rfl ?_ | refine LetV.mk (.ptr _ _ _ _) rfl ?_ | refine LetV.mk (.clo _ _ _) rfl ?_ | refine LetV.mk (.rp _ _) rfl ?_) | (refine LetI.pre ?_; first | refine LetI.wrap (by omega) (by omega) ?_ | refine LetI.mk _ rfl ?_) | (refine LetB.pre ?_; first | refine LetB.tt rfl ?_ | refine LetB.ff rfl ?_ | refine LetB.tt (by assumption) ?_ | refine LetB.ff (by assumption) ?_ | refine LetB.dect (by omega) ?_ | refine LetB.decf (by omega) ?_ | refine LetB.beqt (by omega) ?_ | refine LetB.beqf (by omega) ?_ | refine LetB.bnet (by omega) ?_ | refine LetB.bnef (by omega) ?_ | refine LetB.mk _ rfl ?_) | (refine Gd.pre ?_; first | refine Gd.run rfl ?_ | refine Gd.pass rfl ?_ | refine Gd.run (by assumption) ?_ | refine Gd.pass (by assumption) ?_ | (refine Gd.run ?_ ?_; · decide +kernel) | (refine Gd.pass ?_ ?_; · decide +kernel) | refine Gd.both ?_) | (refine Br.pre ?_; first | refine Br.tt rfl ?_ | refine Br.ff rfl ?_ | refine Br.tt (by assumption) ?_ | refine Br.ff (by assumption) ?_ | (refine Br.tt ?_ ?_; · decide +kernel) | (refine Br.ff ?_ ?_; · decide +kernel)) | (refine Ck.pre ?_; first | refine Ck.drawn (by kernel_rfl) ?_ | refine Ck.mk rfl ?_) | (refine LetL.pre ?_; first | refine LetL.mk [_] rfl ?_ | refine LetL.mk _ rfl ?_) | refine forceAs.pass ?_ | refine forceEs.pass ?_ | refine forceC.pass ?_))); (try (conv => whnf)))
    exact ⟨⟨[(4, .slm {} 0 8 0 out.length)], [(0, .row 8 aty (out.map acA))], 1⟩, SW.mk id rfl rfl (namesAll.row (pure_ac _) rfl) ⟨.refl _, trivial⟩ (haveV.row (pure_ac _) rfl trivial), .inl rfl, ⟨_, rfl, rfl⟩, rfl, trivial⟩
  have hld := getD_ac hlt
  obtain ⟨v, hv⟩ := hA _ (getD_mem hlt)
  have htk : woC (A.take (j + 1)) src = out ++ if (!(decide ((A.getD j ac0).src = [src]))) = true then [A.getD j ac0] else [] := by
    unfold woC at h3 ⊢
    rw [List.take_succ_eq_append_getElem hlt, List.filter_append, ← h3, List.getD_eq_getElem?_getD, List.getElem?_eq_getElem hlt]
    congr 1
    show _ = if (!(decide (A[j].src = [src]))) = true then [A[j]] else []
    by_cases c : (!(decide (A[j].src = [src]))) = true
    · rw [if_pos c, List.filter_cons_of_pos (p := fun x : Ac => !(decide (x.src = [src]))) c]; rfl
    · rw [if_neg c, List.filter_cons_of_neg (p := fun x : Ac => !(decide (x.src = [src]))) c]; rfl
  clear h3
  generalize A.getD j ac0 = x at hld hv htk
  obtain ⟨xsc, xco, xcr, xgr, xda, xsr, xbu, xpa⟩ := x
  dsimp only at hv htk
  subst hv
  by_cases c : v = src
  · subst c
    rw [if_neg (by rw [decide_eq_true rfl]; decide), List.append_nil] at htk
    have hnx := ih (j + 1, out) ⟨hlt, by dsimp only; omega, htk.symm⟩ (by show A.length - (j + 1) < A.length - j; omega)
    clear ih htk
    ((repeat ((conv => whnf); (first | (refine LetN.pre ?_; first | ((conv => arg 1; whnf); refine LetN.mk ?_)) | (refine As.pre ?_; first | refine As.mk rfl ?_ | (refine As.mk ?_ ?_; · decide +kernel) | refine As.mk (andT (nor_self _) rfl) ?_ | refine As.mk (andT (nor_self _) (or_t _)) ?_ | refine As.mk (andT (or_t _) (or_nself _)) ?_ | refine As.mk (andT (or_t _) (or_t _)) ?_ | refine As.mk (andT (nor_self _) (andT (nor_self _) rfl)) ?_ | (refine As.mk ?_ ?_; · ((repeat' (refine andT ?_ ?_)) <;> (first | rfl | assumption | exact decide_eq_true (by omega) | exact decide_eq_true (by dsimp only; omega) | exact decide_eq_true (by simp; omega) | (simp; done))))) | (refine LetV.pre ?_; first | refine LetV.mk (t := 41) _ hld ?_ | refine LetV.mk (.sc (.int _ _)) rfl ?_ | refine LetV.mk (.sc (.bool _)) rfl ?_ | refine LetV.mk (.sc _) rfl ?_ | refine LetV.mk (.agg _) rfl ?_ | refine LetV.mk (.slm _ _ _ _ _) rfl ?_ | refine LetV.mk (.ro _ _ _) rfl ?_ | refine LetV.mk (.ptr _ _ _ _) rfl ?_ | refine LetV.mk (.clo _ _ _) rfl ?_ | refine LetV.mk (.rp _ _) rfl ?_) | (refine LetI.pre ?_; first | refine LetI.wrap (by omega) (by omega) ?_ | refine LetI.mk _ rfl ?_) | (refine LetB.pre ?_; first | refine LetB.tt rfl ?_ | refine LetB.ff rfl ?_ | refine LetB.tt (by assumption) ?_ | refine LetB.ff (by assumption) ?_ | refine LetB.dect (by omega) ?_ | refine LetB.decf (by omega) ?_ | refine LetB.beqt (by omega) ?_ | refine LetB.beqf (by omega) ?_ | refine LetB.bnet (by omega) ?_ | refine LetB.bnef (by omega) ?_ | refine LetB.mk _ rfl ?_) | (refine Gd.pre ?_; first | refine Gd.run rfl ?_ | refine Gd.pass rfl ?_ | refine Gd.run (by assumption) ?_ | refine Gd.pass (by assumption) ?_ | (refine Gd.run ?_ ?_; · decide +kernel) | (refine Gd.pass ?_ ?_; · decide +kernel) | refine Gd.both ?_) | (refine Br.pre ?_; first | refine Br.tt rfl ?_ | refine Br.ff rfl ?_ | refine Br.tt (by assumption) ?_ | refine Br.ff (by assumption) ?_ | (refine Br.tt ?_ ?_; · decide +kernel) | (refine Br.ff ?_ ?_; · decide +kernel)) | (refine Ck.pre ?_; first | refine Ck.drawn (by kernel_rfl) ?_ | refine Ck.mk rfl ?_) | (refine LetL.pre ?_; first | refine LetL.mk [_] rfl ?_ | refine LetL.mk _ rfl ?_) | refine forceAs.pass ?_ | refine forceEs.pass ?_ | refine forceC.pass ?_))); (try (conv => whnf)))

    refine LoopN.weak ?sw1 hnx
    case sw1 => exact SW.mk id rfl (woN ..) (namesAll.row (pure_ac _) rfl) ⟨.refl _, .refl _, .refl _, .refl _, VLe2.int (by omega), trivial⟩ (haveV.row (pure_ac _) rfl trivial)
  · rw [if_pos (by rw [decide_eq_false (fun hh => c (by injection hh))]; rfl)] at htk
    have hnx := ih (j + 1, out ++ [⟨xsc, xco, xcr, xgr, xda, [v], xbu, xpa⟩]) ⟨hlt, by simp; omega, htk.symm⟩ (by show A.length - (j + 1) < A.length - j; omega)
    clear ih htk
    have hr := room_ach (n := out.length + 1) (by omega)
    have happ := app_ac out ⟨xsc, xco, xcr, xgr, xda, [v], xbu, xpa⟩ out.length rfl
    have hle : (out ++ [(⟨xsc, xco, xcr, xgr, xda, [v], xbu, xpa⟩ : Ac)]).length = out.length + 1 := by simp
    ((repeat ((conv => whnf); (first | (refine LetN.pre ?_; first | ((conv => arg 1; whnf); refine LetN.mk ?_)) | (refine As.pre ?_; first | refine As.mk rfl ?_ | (refine As.mk ?_ ?_; · decide +kernel) | refine As.mk (andT (nor_self _) rfl) ?_ | refine As.mk (andT (nor_self _) (or_t _)) ?_ | refine As.mk (andT (or_t _) (or_nself _)) ?_ | refine As.mk (andT (or_t _) (or_t _)) ?_ | refine As.mk (andT (nor_self _) (andT (nor_self _) rfl)) ?_ | (refine As.mk ?_ ?_; · ((repeat' (refine andT ?_ ?_)) <;> (first | rfl | assumption | exact decide_eq_true (by omega) | exact decide_eq_true (by dsimp only; omega) | exact decide_eq_true (by simp; omega) | (simp; done))))) | (refine LetV.pre ?_; first | refine LetV.mk (t := 41) _ hld ?_ | refine LetV.mk (.sc (.int _ _)) rfl ?_ | refine LetV.mk (.sc (.bool _)) rfl ?_ | refine LetV.mk (.sc _) rfl ?_ | refine LetV.mk (.agg _) rfl ?_ | refine LetV.mk (.slm _ _ _ _ _) rfl ?_ | refine LetV.mk (.ro _ _ _) rfl ?_ | refine LetV.mk (.ptr _ _ _ _) rfl ?_ | refine LetV.mk (.clo _ _ _) rfl ?_ | refine LetV.mk (.rp _ _) rfl ?_) | (refine LetI.pre ?_; first | refine LetI.wrap (by omega) (by omega) ?_ | refine LetI.mk _ rfl ?_) | (refine LetB.pre ?_; first | refine LetB.tt rfl ?_ | refine LetB.ff rfl ?_ | refine LetB.tt (by assumption) ?_ | refine LetB.ff (by assumption) ?_ | refine LetB.dect (by omega) ?_ | refine LetB.decf (by omega) ?_ | refine LetB.beqt (by omega) ?_ | refine LetB.beqf (by omega) ?_ | refine LetB.bnet (by omega) ?_ | refine LetB.bnef (by omega) ?_ | refine LetB.mk _ rfl ?_) | (refine Gd.pre ?_; first | refine Gd.run rfl ?_ | refine Gd.pass rfl ?_ | refine Gd.run (by assumption) ?_ | refine Gd.pass (by assumption) ?_ | (refine Gd.run ?_ ?_; · decide +kernel) | (refine Gd.pass ?_ ?_; · decide +kernel) | refine Gd.both ?_) | (refine Br.pre ?_; first | refine Br.tt rfl ?_ | refine Br.ff rfl ?_ | refine Br.tt (by assumption) ?_ | refine Br.ff (by assumption) ?_ | (refine Br.tt ?_ ?_; · decide +kernel) | (refine Br.ff ?_ ?_; · decide +kernel)) | (refine Ck.pre ?_; first | refine Ck.drawn (by kernel_rfl) ?_ | refine Ck.mk rfl ?_) | (refine LetL.pre ?_; first | refine LetL.mk (ty := aty) _ happ ?_ | refine LetL.mk [_] rfl ?_ | refine LetL.mk _ rfl ?_) | refine forceAs.pass ?_ | refine forceEs.pass ?_ | refine forceC.pass ?_))); (try (conv => whnf)))


    refine LoopN.weak ?sw2 hnx
    case sw2 => exact SW.mk (fun _ => 2) rfl (woN ..) (namesAll.row (pure_ac _) rfl) ⟨.refl _, VLe2.slm_of hle, .refl _, .refl _, VLe2.int (by omega), trivial⟩ (haveV.row (pure_ac _) rfl trivial)
theorem without_f (A : List Ac) (src : Int) (hA : ∀ a ∈ A, ∃ v, a.src = [v]) (hl : A.length ≤ 1000) : AFun Try.prog 25 0 [.ro {} 8 (A.map acA), int src] [] (.ro {} 8 ((woC A src).map acA)) [] :=
  AFun.frz1 (H := []) (without_s A src hA hl) rfl (pure_ac _) (by simp)
end En
end Go.Proofs.Ytiefcppgbnfbfaa
namespace Go.Proofs.Ytiefcppgbnfbfaa
open Go.Proofs.Ytiefcppgbnfbfaa.Am
set_option maxRecDepth 100000
namespace En
/-! ### EarnCorrects -/
abbrev scT : TypeId := 32
abbrev ecB (l : List E) (a o y z : Int) (L : Fr) : Fr := (1, u8' y) :: (2, u8' z) :: (7, bool true) :: (8, .ro {} 15 (l.map en)) :: (9, .ptr 0 3 0 0) :: (10, int a) :: (11, int o) :: L
theorem ecN (ok : Nat → Bool) (h0 : ok 0 = true) (l : List E) (a o y z : Int) (L : Fr) (hL : frNames ok L = true) : frNames ok (ecB l a o y z L) = true := by
  simp only [frNames, AV.names, namesL_none (pure_en l), h0, hL]; rfl
abbrev ecS (l : List E) (s : Sc.Scl) (a o y z : Int) : Nat × List Int → AS
  | (k, G) => ⟨ecB l a o y z [(12, .slm {} 1 1 0 G.length), (35, .ro {} 15 (l.map en)), (36, int l.length), (37, int (k : Nat))], [(0, .row 3 scT [Sc.scA s]), (1, .row 1 3 (G.map int))], 2⟩
abbrev ecA (l : List E) (s : Sc.Scl) (a o y z : Int) (G : List Int) : AS := ⟨ecB l a o y z [(12, .slm {} 1 1 0 G.length)], [(0, .row 3 scT [Sc.scA s]), (1, .row 1 3 (G.map int))], 2⟩
abbrev ecD (l : List E) (s : Sc.Scl) (a o y z : Int) (k : Nat) (c f : E) : AS := ⟨ecB l a o y z [(15, int (k : Nat)), (16, .ptr 1 15 0 0), (17, .ptr 2 15 0 0)], [(0, .row 3 scT [Sc.scA s]), (1, .row 15 ety [en c]), (2, .row 15 ety [en f])], 3⟩
abbrev ecE (l : List E) (s : Sc.Scl) (a o y z : Int) (k : Nat) (c f : E) (m : List E) : AS := ⟨ecB l a o y z [(15, int (k : Nat)), (16, .ptr 1 15 0 0), (17, .ptr 2 15 0 0), (18, .slm {} 3 15 0 m.length)], [(0, .row 3 scT [Sc.scA s]), (1, .row 15 ety [en c]), (2, .row 15 ety [en f]), (3, .row 15 ety (m.map en))], 4⟩
abbrev ecF (l : List E) (s : Sc.Scl) (a o y z : Int) (k : Nat) (c f : E) (m n : List E) : AS := ⟨ecB l a o y z [(15, int (k : Nat)), (16, .ptr 1 15 0 0), (17, .ptr 2 15 0 0), (18, .slm {} 3 15 0 m.length), (19, .slm {} 4 15 0 n.length)], [(0, .row 3 scT [Sc.scA s]), (1, .row 15 ety [en c]), (2, .row 15 ety [en f]), (3, .row 15 ety (m.map en)), (4, .row 15 ety (n.map en))], 5⟩
abbrev ecG (l : List E) (s : Sc.Scl) (a o y z : Int) (k : Nat) (c : E) (m n p : List E) : AS := ⟨ecB l a o y z [(15, int (k : Nat)), (16, .ptr 1 15 0 0), (18, .slm {} 2 15 0 m.length), (19, .slm {} 3 15 0 n.length), (20, .slm {} 4 15 0 p.length)], [(0, .row 3 scT [Sc.scA s]), (1, .row 15 ety [en c]), (2, .row 15 ety (m.map en)), (3, .row 15 ety (n.map en)), (4, .row 15 ety (p.map en))], 5⟩
abbrev ecH (l : List E) (s : Sc.Scl) (k : Nat) (c : E) (m : List E) (S T : Int) (pb : Bool) : AS := ⟨[(7, bool true), (8, .ro {} 15 (l.map en)), (9, .ptr 0 3 0 0), (15, int (k : Nat)), (16, .ptr 1 15 0 0), (18, .slm {} 2 15 0 m.length), (21, int S), (22, int T), (24, bool pb)], [(0, .row 3 scT [Sc.scA s]), (1, .row 15 ety [en c]), (2, .row 15 ety (m.map en))], 3⟩
abbrev ecL (l : List E) (k : Nat) (c : E) (S : Int) (pb : Bool) (M : List Ac) (j : Nat) : AS := ⟨[(7, bool true), (8, .ro {} 15 (l.map en)), (15, int (k : Nat)), (16, .ptr 0 15 0 0), (21, int S), (24, bool pb), (179, .ro {} 8 (M.map acA)), (180, int M.length), (181, int (j : Nat))], [(0, .row 15 ety [en c])], 1⟩
theorem ecLN (l : List E) (k : Int) (S : Int) (pb : Bool) (M : List Ac) (m j : Int) : frNames (fun i => decide (i < 0) || List.contains [0] i) [(7, bool true), (8, .ro {} 15 (l.map en)), (15, int k), (16, .ptr 0 15 0 0), (21, int S), (24, bool pb), (179, .ro {} 8 (M.map acA)), (180, int m), (181, int j)] = true := by
  simp only [frNames, AV.names, namesL_none (pure_en l), namesL_none (pure_ac M)]; rfl
theorem ecHN (l : List E) (k S T : Int) (n : Nat) (pb : Bool) : frNames (fun i => decide (i < 0) || List.contains [0, 1, 2] i) [(7, bool true), (8, .ro {} 15 (l.map en)), (9, .ptr 0 3 0 0), (15, int k), (16, .ptr 1 15 0 0), (18, .slm {} 2 15 0 n), (21, int S), (22, int T), (24, bool pb)] = true := by
  simp only [frNames, AV.names, namesL_none (pure_en l)]; rfl
theorem ofC_src (l : List E) (s : Sc.Scl) (st a o : Int) : ∀ x ∈ ofC l s st a o, ∃ v, x.src = [v] := fun x hx => by
  unfold ofC at hx
  obtain ⟨g, _, rfl⟩ := List.mem_map.1 hx
  exact ⟨_, rfl⟩
theorem ofC_okA (l : List E) (s : Sc.Scl) (st a o : Int) : ∀ x ∈ ofC l s st a o, okA x := fun x hx => by
  unfold ofC at hx
  obtain ⟨g, _, rfl⟩ := List.mem_map.1 hx
  exact ⟨by show 1 ≤ 1000; omega, by show 0 ≤ 1000; omega⟩
theorem ofC_len (l : List E) (s : Sc.Scl) (st a o : Int) : (ofC l s st a o).length ≤ l.length := by
  unfold ofC; rw [List.length_map]; exact fg_len ..
theorem woC_okA {A : List Ac} (h : ∀ x ∈ A, okA x) (S : Int) : ∀ x ∈ woC A S, okA x := fun x hx => h x (List.mem_filter.1 hx).1
theorem woC_len (A : List Ac) (S : Int) : (woC A S).length ≤ A.length := List.length_filter_le _ _
theorem ecN1 (ok : Nat → Bool) (h1 : ok 1 = true) (l : List E) (n : Nat) (m k : Int) : frNames ok [(12, .slm {} 1 1 0 n), (35, .ro {} 15 (l.map en)), (36, int m), (37, int k)] = true := by
  simp only [frNames, AV.names, namesL_none (pure_en l), h1]; rfl
abbrev ecC (l m f h : List E) (s : Sc.Scl) (c : E) (a o k src st : Int) : AS := ⟨[(7, bool true), (8, .ro {} 15 (l.map en)), (9, .ptr 0 3 0 0), (10, int a), (11, int o), (15, int k), (16, .ptr 1 15 0 0), (18, .slm {} 2 15 0 m.length), (19, .slm {} 3 15 0 f.length), (20, .slm {} 4 15 0 h.length), (21, int src), (22, int st)], [(0, .row 3 scT [Sc.scA s]), (1, .row 15 ety [en c]), (2, .row 15 ety (m.map en)), (3, .row 15 ety (f.map en)), (4, .row 15 ety (h.map en))], 5⟩
abbrev ecZ (l : List E) (s : Sc.Scl) (a o y z : Int) (k : Nat) (c : E) (m n p : List E) : AS := ⟨ecB l a o y z [(15, int (k : Nat)), (16, .ptr 1 15 0 0), (18, .ro {} 15 (m.map en)), (19, .ro {} 15 (n.map en)), (20, .ro {} 15 (p.map en))], [(0, .row 3 scT [Sc.scA s]), (1, .row 15 ety [en c])], 5⟩
theorem ecZ_sw {q r : Nat} (l : List E) (s : Sc.Scl) (a o y z : Int) (k : Nat) (c : E) (m n p : List E) : SW q r (ecG l s a o y z k c m n p) (ecZ l s a o y z k c m n p) := by
  have h := SW.frz (p := q) (n := r) (s := ecG l s a o y z k c m n p) [2, 3, 4] ?_ ?_ ?_
  · have e : (⟨frFrz (ecG l s a o y z k c m n p).H [2, 3, 4].contains (ecG l s a o y z k c m n p).fr, AH.frz (ecG l s a o y z k c m n p).H (ecG l s a o y z k c m n p).H [2, 3, 4].contains, (ecG l s a o y z k c m n p).nx⟩ : AS) = ecZ l s a o y z k c m n p := by
      refine congr (congr (congrArg AS.mk ?_) ?_) rfl
      · simp [frFrz, AV.frz, AH.get]
        refine ⟨?_, ?_, ?_⟩ <;> exact List.take_of_length_le (by simp)
      · rfl
    exact e ▸ h
  · simp [rowsOk, AH.get, pure_en]
  · rfl
  · simp [frFrzOk, AV.frzOk, AH.get]
set_option maxHeartbeats 3200000 in
set_option maxRecDepth 100000 in
theorem ecorr (xs : List Int) (fl : Fl) (hx : xs.length ≤ 9223372036854775807) (q : Int × Int × Int) (h1 : 0 ≤ q.1 ∧ q.1 ≤ 255) (h2 : 0 ≤ q.2.1 ∧ q.2.1 ≤ 65535) (h3 : 0 ≤ q.2.2 ∧ q.2.2 ≤ 65535) (y z : Int) (hy : 0 ≤ y ∧ y ≤ 255) (hz : 0 ≤ z ∧ z ≤ 255) :
    AFun Try.prog 6 0 [.agg [.ro fl 1 (xs.map int), u8' q.1, u16 q.2.1, u16 q.2.2], u8' y, u8' z] [] (bool true) [] := by
  obtain ⟨sc, l, a, o, hsc, ⟨hl, hM⟩, ha, ho, hC⟩ := made_f xs fl hx q h1 h2 h3
  clear h1 h2 h3
  generalize sclOf sc = s at hC
  have hml : (l.map en).length = l.length := List.length_map _
  refine AFun.of_VS T_ok Try.func6 rfl (Nat.le_of_ble_eq_true rfl) ?_
  refine VS.cut T_ok mixed rfl ?_
  ((repeat ((conv => whnf); (first | (refine LetN.pre ?_; first | ((conv => arg 1; whnf); refine LetN.mk ?_)) | (refine As.pre ?_; first | refine As.mk rfl ?_) | (refine Ck.pre ?_; first | refine Ck.mk rfl ?_)))); (try (conv => whnf)))
  refine VS.cut T_ok mixed rfl ?_
  ((repeat ((conv => whnf); (first | (refine As.pre ?_; first | refine As.mk rfl ?_) | (refine Ck.pre ?_; first | refine Ck.mk rfl ?_) | (refine CallN.pre ?_; first | refine CallN.pure sanity_f rfl rfl ?_)))); (try (conv => whnf)))
  refine VS.cut T_ok mixed rfl ?_
  ((repeat ((conv => whnf); (first | (refine LetN.pre ?_; first | ((conv => arg 1; whnf); refine LetN.mk ?_)) | (refine As.pre ?_; first | refine As.mk rfl ?_) | (refine LetV.pre ?_; first | refine LetV.mk (.agg _) rfl ?_) | (refine Ck.pre ?_; first | refine Ck.mk rfl ?_) | (refine LetL.pre ?_; first | refine LetL.mk (ty := scT) [.agg [_, _, _]] rfl ?_) | (refine CallN.pre ?_; first | refine CallN.pure hC rfl rfl ?_)))); (try (conv => whnf)))
  refine VS.cut T_ok mixed rfl ?_
  ((repeat ((conv => whnf); (first | (refine As.pre ?_; first | refine As.mk rfl ?_) | (refine Ck.pre ?_; first | refine Ck.mk rfl ?_)))); (try (conv => whnf)))
  clear hC
  refine VS.joinN (ecA l s a o y z) (fun G => G.length ≤ 24 ∧ ∀ x ∈ G, ∃ k : Nat, x = (k : Int) ∧ k < l.length ∧ (l.getD k e0).kind = 3) ?_ ?_
  case refine_1 =>
    refine VS.of_V T_ok mixed rfl ?_
    ((repeat ((conv => whnf); (first | (refine As.pre ?_; first | refine As.mk rfl ?_) | (refine LetI.pre ?_; first | refine LetI.mk _ rfl ?_) | (refine Ck.pre ?_; first | refine Ck.mk rfl ?_)))); (try (conv => whnf)))
    refine LoopN.weak (s1 := ecS l s a o y z (0, [])) ?sw0 ?_
    case sw0 => exact SW.mk (fun i => if i = 0 then 1 else i + 10) rfl (ecN _ rfl _ _ _ _ _ _ (ecN1 _ rfl ..)) rfl ⟨.refl _, .refl _, .refl _, .refl _, .refl _, .refl _, .refl _, VLe2.nilslm, .refl _, VLe2.int (by rw [hml]), .refl _, trivial⟩ (haveV.row rfl rfl (haveV.nil (Nat.le_of_ble_eq_true rfl) trivial))
    refine LoopN.ind T_ok mixed (S := ecS l s a o y z) (fun i => l.length - i.1) (fun i => i.1 ≤ l.length ∧ i.2.length ≤ i.1 ∧ ∀ x ∈ i.2, ∃ k : Nat, x = (k : Int) ∧ k < l.length ∧ (l.getD k e0).kind = 3) (fun _ => rfl) (fun i hi ih => ?_) (0, []) ⟨Nat.zero_le _, Nat.le_refl _, fun x h => absurd h List.not_mem_nil⟩
    obtain ⟨k, G⟩ := i
    obtain ⟨g0, g1, g2⟩ := hi
    dsimp only at g0 g1 g2
    by_cases hk : k < l.length
    case neg =>
      clear ih
      ((repeat ((conv => whnf); (first | (refine As.pre ?_; first | refine As.mk rfl ?_) | (refine LetB.pre ?_; first | refine LetB.decf (by omega) ?_) | (refine Br.pre ?_; first | refine Br.ff rfl ?_) | (refine Ck.pre ?_; first | refine Ck.mk rfl ?_)))); (try (conv => whnf)))
      exact ⟨rfl, G, ⟨by omega, g2⟩, SW.mk id rfl (ecN _ rfl _ _ _ _ _ _ rfl) (namesAll.row rfl (namesAll.row (pure_int _) rfl)) ⟨.refl _, .refl _, .refl _, .refl _, .refl _, .refl _, .refl _, .refl _, trivial⟩ (haveV.row rfl rfl (haveV.row (pure_int _) rfl trivial))⟩
    have hld := ld_en hk
    by_cases c : (l.getD k e0).kind = 3
    · have hnx := ih (k + 1, G ++ [(k : Int)]) ⟨hk, by simp; omega, fun x hx => by
        rcases List.mem_append.1 hx with hx | hx
        · exact g2 x hx
        · exact ⟨k, List.mem_singleton.1 hx, hk, c⟩⟩ (by show l.length - (k + 1) < l.length - k; omega)
      clear ih
      generalize l.getD k e0 = e at hld c
      have r1 := room_int (n := G.length + 1) (by omega)
      have happ := app_intL G (k : Int) G.length rfl
      have hle : (G ++ [(k : Int)]).length = G.length + 1 := by simp
      ((repeat ((conv => whnf); (first | (refine LetN.pre ?_; first | ((conv => arg 1; whnf); refine LetN.mk ?_)) | (refine As.pre ?_; first | refine As.mk rfl ?_ | (refine As.mk ?_ ?_; · ((repeat' (refine andT ?_ ?_)) <;> (first | rfl | assumption | exact decide_eq_true (by omega) | exact decide_eq_true (by dsimp only; omega) | exact decide_eq_true (by simp; omega) | (simp; done))))) | (refine LetV.pre ?_; first | refine LetV.mk (t := 30) _ hld ?_ | refine LetV.mk (.sc (.int _ _)) rfl ?_ | refine LetV.mk (.agg _) rfl ?_) | (refine LetI.pre ?_; first | refine LetI.wrap (by omega) (by omega) ?_) | (refine LetB.pre ?_; first | refine LetB.dect (by omega) ?_) | (refine Br.pre ?_; first | refine Br.tt rfl ?_) | (refine Ck.pre ?_; first | refine Ck.mk rfl ?_) | (refine LetL.pre ?_; first | refine LetL.mk (ty := 3) _ happ ?_ | refine LetL.mk [_] rfl ?_)))); (try (conv => whnf)))


      refine LoopN.weak ?sw1 hnx
      case sw1 => exact SW.mk (fun i => if i = 0 then 0 else if i = 1 then 3 else i + 10) rfl (ecN _ rfl _ _ _ _ _ _ (ecN1 _ rfl ..)) (namesAll.row rfl (namesAll.row (pure_int _) rfl)) ⟨.refl _, .refl _, .refl _, .refl _, .refl _, .refl _, .refl _, VLe2.slm_of hle, .refl _, .refl _, VLe2.int (by omega), trivial⟩ (haveV.row rfl rfl (haveV.row (pure_int _) rfl trivial))
    · have hnx := ih (k + 1, G) ⟨hk, by dsimp only; omega, g2⟩ (by show l.length - (k + 1) < l.length - k; omega)
      clear ih
      generalize l.getD k e0 = e at hld c
      ((repeat ((conv => whnf); (first | (refine LetN.pre ?_; first | ((conv => arg 1; whnf); refine LetN.mk ?_)) | (refine As.pre ?_; first | refine As.mk rfl ?_ | (refine As.mk ?_ ?_; · ((repeat' (refine andT ?_ ?_)) <;> (first | rfl | assumption | exact decide_eq_true (by omega) | exact decide_eq_true (by dsimp only; omega) | exact decide_eq_true (by simp; omega) | (simp; done))))) | (refine LetV.pre ?_; first | refine LetV.mk (t := 30) _ hld ?_ | refine LetV.mk (.sc (.int _ _)) rfl ?_ | refine LetV.mk (.agg _) rfl ?_) | (refine LetI.pre ?_; first | refine LetI.wrap (by omega) (by omega) ?_) | (refine LetB.pre ?_; first | refine LetB.dect (by omega) ?_ | refine LetB.decf (by omega) ?_) | (refine Br.pre ?_; first | refine Br.tt rfl ?_ | refine Br.ff rfl ?_) | (refine Ck.pre ?_; first | refine Ck.mk rfl ?_) | (refine LetL.pre ?_; first | refine LetL.mk [_] rfl ?_)))); (try (conv => whnf)))

      refine LoopN.weak ?sw2 hnx
      case sw2 => exact SW.mk id rfl (ecN _ rfl _ _ _ _ _ _ (ecN1 _ rfl ..)) (namesAll.row rfl (namesAll.row (pure_int _) rfl)) ⟨.refl _, .refl _, .refl _, .refl _, .refl _, .refl _, .refl _, .refl _, .refl _, .refl _, VLe2.int (by omega), trivial⟩ (haveV.row rfl rfl (haveV.row (pure_int _) rfl trivial))
  intro G ⟨hG1, hG2⟩
  by_cases h0 : G = []
  · subst h0
    refine VS.of_V T_ok mixed rfl ?_
    ((repeat ((conv => whnf); (first | (refine As.pre ?_; first | refine As.mk rfl ?_) | (refine LetI.pre ?_; first | refine LetI.mk _ rfl ?_) | (refine LetB.pre ?_; first | refine LetB.tt rfl ?_) | (refine Br.pre ?_; first | refine Br.tt rfl ?_) | (refine Ck.pre ?_; first | refine Ck.mk rfl ?_)))); (try (conv => whnf)))
    exact ⟨⟨[(6, bool true)], [], 0⟩, SW.fr0 (Nat.le_refl _) rfl ⟨.refl _, trivial⟩, .inl rfl, ⟨_, rfl, rfl⟩, trivial⟩
  have hpl : 0 < G.length := List.length_pos_iff.2 h0
  obtain ⟨j, hj, hjj⟩ : ∃ j : Nat, j < G.length ∧ (j : Int) = y.tmod (G.length : Int) := by
    have a1 := Int.tmod_nonneg (G.length : Int) hy.1
    have a2 := Int.tmod_lt_of_pos y (b := (G.length : Int)) (by omega)
    exact ⟨(y.tmod (G.length : Int)).toNat, by omega, by omega⟩
  have hnz : ((G.length : Int) != 0) = true := bne_iff_ne.2 (by omega)
  obtain ⟨k, hkk, hk, hg3⟩ := hG2 (G.getD j 0) (by rw [List.getD_eq_getElem?_getD, List.getElem?_eq_getElem hj]; exact List.getElem_mem _)
  have hv : int (G.getD j 0) = Am.part false 1 0 1 ((G.map int).getD (0 + j) (.sc undef)) := by
    rw [Nat.zero_add, ← mapD (f := int) (0 : Int) hj]; rfl
  have hv2 : int (G.getD j 0) = (G.map int).getD (0 + j) (.sc undef) := by rw [Nat.zero_add]; exact mapD 0 hj
  rw [hkk] at hv hv2
  have w1 : y = IntKind.i64.wrap y := (wrap_id (by omega) (by omega)).symm
  have w2 : z = IntKind.i64.wrap z := (wrap_id (by omega) (by omega)).symm
  have b2 := tmod_bound z (m := 101) (by omega)
  have p2 := tmod_pos 101 hz.1
  clear hG2 hkk
  refine VS.cut T_ok mixed rfl ?_
  ((repeat ((conv => whnf); (first | (refine As.pre ?_; first | refine As.mk rfl ?_) | (refine LetI.pre ?_; first | refine LetI.mk _ rfl ?_) | (refine LetB.pre ?_; first | refine LetB.decf (by omega) ?_) | (refine Br.pre ?_; first | refine Br.ff rfl ?_) | (refine Ck.pre ?_; first | refine Ck.mk rfl ?_)))); (try (conv => whnf)))
  refine VS.cut T_ok mixed rfl ?_
  ((repeat ((conv => whnf); (first | (refine As.pre ?_; first | refine As.mk rfl ?_ | refine As.mk hnz ?_ | (refine As.mk ?_ ?_; · ((repeat' (refine andT ?_ ?_)) <;> (first | rfl | assumption | exact decide_eq_true (by omega) | exact decide_eq_true (by dsimp only; omega) | exact decide_eq_true (by simp; omega) | (simp; done))))) | (refine LetV.pre ?_; first | refine LetV.mk (t := 3) _ hv ?_) | (refine LetI.pre ?_; first | refine LetI.mk (o := none) y w1 ?_ | refine LetI.mk (o := some .rem) (j : Int) hjj ?_ | refine LetI.mk _ rfl ?_) | (refine Ck.pre ?_; first | refine Ck.mk rfl ?_)))); (try (conv => whnf)))





  clear hv hv2 hnz hjj
  have hI := hM.toIds
  have hN4 := next_f l hI k hk (by omega) 4
  have hN5 := next_f l hI k hk (by omega) 5
  obtain ⟨g, hg⟩ : ∃ g, g = l.getD k e0 := ⟨_, rfl⟩
  have hld := ld_en hk
  have hgm := getD_mem' hk
  rw [← hg] at hN4 hN5 hg3 hld hgm
  refine VS.cut T_ok mixed rfl ?_
  ((repeat ((conv => whnf); (first | (refine LetN.pre ?_; first | ((conv => arg 1; whnf); refine LetN.mk ?_)) | (refine As.pre ?_; first | refine As.mk rfl ?_) | (refine Ck.pre ?_; first | refine Ck.mk rfl ?_) | (refine LetL.pre ?_; first | refine LetL.mk [_] rfl ?_) | (refine CallN.pre ?_; first | refine CallN.pure hN4 rfl rfl ?_ | refine CallN.pure hN5 rfl rfl ?_)))); (try (conv => whnf)))
  refine VS.cut T_ok mixed rfl ?_
  ((repeat ((conv => whnf); (first | (refine LetN.pre ?_; first | ((conv => arg 1; whnf); refine LetN.mk ?_)) | (refine As.pre ?_; first | refine As.mk rfl ?_) | (refine LetI.pre ?_; first | refine LetI.mk (o := none) z w2 ?_ | refine LetI.mk _ rfl ?_) | (refine Ck.pre ?_; first | refine Ck.mk rfl ?_) | (refine LetL.pre ?_; first | refine LetL.mk [_] rfl ?_)))); (try (conv => whnf)))
  refine VS.weak (s1 := ecD l s a o y z k { nxE l g 4 with grade := z.tmod 101 } (nxE l g 5)) ?sw3 ?_
  case sw3 => exact SW.mk (fun i => if i = 0 then 0 else i + 1) rfl (ecN _ rfl _ _ _ _ _ _ rfl) rfl ⟨.refl _, .refl _, .refl _, .refl _, .refl _, .refl _, .refl _, .refl _, .refl _, .refl _, trivial⟩ (haveV.row rfl rfl (haveV.row rfl rfl (haveV.row rfl rfl trivial)))
  obtain ⟨c, hc⟩ : ∃ c : E, c = { nxE l g 4 with grade := z.tmod 101 } := ⟨_, rfl⟩
  obtain ⟨f, hf⟩ : ∃ f : E, f = nxE l g 5 := ⟨_, rfl⟩
  rw [← hc, ← hf]
  have hso : ∀ L : List E, storables (L.map en) = true := fun L => by have h := stor_en L 0 L.length; rw [List.drop_zero, List.take_of_length_le (by simp)] at h; exact h
  have hsl := hso l
  have r1 := room_en (n := 0 + (l.map en).length) (by omega)
  have r2 := room_en (n := 0 + (l.map en).length + 1) (by omega)
  have a0 : l.map en = List.take 0 ([] : List AV) ++ l.map en := rfl
  have a1 : (l ++ [c]).map en = List.take (0 + (l.map en).length) (l.map en) ++ [en c] := by rw [List.take_of_length_le (by omega), List.map_append]; rfl
  have a2 : (l ++ [f]).map en = List.take (0 + (l.map en).length) (l.map en) ++ [en f] := by rw [List.take_of_length_le (by omega), List.map_append]; rfl
  have l1 : (l ++ [c]).length = l.length + 1 := by simp
  have l2 : (l ++ [f]).length = l.length + 1 := by simp
  refine VS.cut T_ok mixed rfl ?_
  ((repeat ((conv => whnf); (first | (refine LetN.pre ?_; first | ((conv => arg 1; whnf); refine LetN.mk ?_)) | (refine As.pre ?_; first | refine As.mk rfl ?_ | (refine As.mk ?_ ?_; · ((repeat' (refine andT ?_ ?_)) <;> (first | rfl | assumption | exact decide_eq_true (by omega) | exact decide_eq_true (by dsimp only; omega) | exact decide_eq_true (by simp; omega) | (simp; done))))) | (refine LetV.pre ?_; first | refine LetV.mk (.agg _) rfl ?_) | (refine Ck.pre ?_; first | refine Ck.drawn (by kernel_rfl) ?_ | refine Ck.mk rfl ?_) | (refine LetL.pre ?_; first | refine LetL.mk (ty := ety) _ a0 ?_ | refine LetL.mk (ty := ety) _ a1 ?_)))); (try (conv => whnf)))


  refine VS.weak (s1 := ecE l s a o y z k c f (l ++ [c])) ?sw4 ?_
  case sw4 => exact SW.mk (fun i => if i = 3 then 5 else if i = 5 then 3 else i) rfl (ecN _ rfl _ _ _ _ _ _ rfl) (namesAll.row rfl (namesAll.row rfl (namesAll.row rfl (namesAll.row (pure_en _) rfl)))) ⟨.refl _, .refl _, .refl _, .refl _, .refl _, .refl _, .refl _, .refl _, .refl _, .refl _, VLe2.slm_of (by rw [l1, hml]; show l.length + 1 = 0 + l.length + 1; omega), trivial⟩ (haveV.row rfl rfl (haveV.row rfl rfl (haveV.row rfl rfl (haveV.row (pure_en _) rfl trivial))))
  refine VS.cut T_ok mixed rfl ?_
  ((repeat ((conv => whnf); (first | (refine LetN.pre ?_; first | ((conv => arg 1; whnf); refine LetN.mk ?_)) | (refine As.pre ?_; first | refine As.mk rfl ?_ | (refine As.mk ?_ ?_; · ((repeat' (refine andT ?_ ?_)) <;> (first | rfl | assumption | exact decide_eq_true (by omega) | exact decide_eq_true (by dsimp only; omega) | exact decide_eq_true (by simp; omega) | (simp; done))))) | (refine LetV.pre ?_; first | refine LetV.mk (.agg _) rfl ?_) | (refine Ck.pre ?_; first | refine Ck.drawn (by kernel_rfl) ?_ | refine Ck.mk rfl ?_) | (refine LetL.pre ?_; first | refine LetL.mk (ty := ety) _ a0 ?_ | refine LetL.mk (ty := ety) _ a2 ?_)))); (try (conv => whnf)))


  refine VS.weak (s1 := ecF l s a o y z k c f (l ++ [c]) (l ++ [f])) ?sw5 ?_
  case sw5 => exact SW.mk (fun i => if i = 4 then 6 else if i = 6 then 4 else i) rfl (ecN _ rfl _ _ _ _ _ _ rfl) (namesAll.row rfl (namesAll.row rfl (namesAll.row rfl (namesAll.row (pure_en _) (namesAll.row (pure_en _) rfl))))) ⟨.refl _, .refl _, .refl _, .refl _, .refl _, .refl _, .refl _, .refl _, .refl _, .refl _, .refl _, VLe2.slm_of (by rw [l2, hml]; show l.length + 1 = 0 + l.length + 1; omega), trivial⟩ (haveV.row rfl rfl (haveV.row rfl rfl (haveV.row rfl rfl (haveV.row (pure_en _) rfl (haveV.row (pure_en _) rfl trivial)))))
  clear r1 r2 a0 a1 a2 hsl
  have hIf : Ids (l ++ [f]) := hI.app (by rw [hf]; rfl)
  have hNh := next_f (l ++ [f]) hIf l.length (by omega) (by omega) 6
  have hgl : (l ++ [f]).getD l.length e0 = f := getD_app2 (i := 0) rfl
  rw [hgl] at hNh
  have hpf := pure_en (l ++ [f])
  have hlf : (l ++ [f]).length = ((l ++ [f]).map en).length := (List.length_map _).symm
  have hsf := hso (l ++ [f])
  have e7 : ((l ++ [f]).length : Int) - 1 = l.length := by omega
  rw [← e7] at hNh
  obtain ⟨h, hh⟩ : ∃ h : E, h = nxE (l ++ [f]) f 6 := ⟨_, rfl⟩
  rw [← hh] at hNh
  have s1 := stor_en (l ++ [f]) 0 (l ++ [f]).length
  have t1 : (List.take (l ++ [f]).length (List.drop 0 ((l ++ [f]).map en))) = (l ++ [f]).map en := by rw [List.drop_zero, List.take_of_length_le (by omega)]
  have t2 : (List.take (l ++ [f]).length (List.drop 0 ((l ++ [f]).map en))).length = l.length + 1 := by rw [t1]; omega
  have r1 := room_en (n := 0 + (List.take (l ++ [f]).length (List.drop 0 ((l ++ [f]).map en))).length) (by omega)
  have r2 := room_en (n := 0 + (List.take (l ++ [f]).length (List.drop 0 ((l ++ [f]).map en))).length + 1) (by omega)
  have d0 : (l ++ [f]).map en = List.take 0 ([] : List AV) ++ List.take (l ++ [f]).length (List.drop 0 ((l ++ [f]).map en)) := t1.symm
  have d1 : (l ++ [f] ++ [h]).map en = List.take (0 + (List.take (l ++ [f]).length (List.drop 0 ((l ++ [f]).map en))).length) ((l ++ [f]).map en) ++ [en h] := by rw [List.take_of_length_le (by omega), List.map_append]; rfl
  have l3 : (l ++ [f] ++ [h]).length = l.length + 2 := by simp
  refine VS.cut T_ok mixed rfl ?_
  ((repeat ((conv => whnf); (first | (refine LetN.pre ?_; first | ((conv => arg 1; whnf); refine LetN.mk ?_)) | (refine As.pre ?_; first | refine As.mk rfl ?_ | (refine As.mk ?_ ?_; · ((repeat' (refine andT ?_ ?_)) <;> (first | rfl | assumption | exact decide_eq_true (by omega) | exact decide_eq_true (by dsimp only; omega) | exact decide_eq_true (by simp; omega) | (simp; done))))) | (refine LetI.pre ?_; first | refine LetI.wrap (by omega) (by omega) ?_ | refine LetI.mk _ rfl ?_) | (refine Ck.pre ?_; first | refine Ck.mk rfl ?_) | (refine LetL.pre ?_; first | refine LetL.mk (ty := ety) _ d0 ?_ | refine LetL.mk (ty := ety) _ d1 ?_) | (refine CallN.pre ?_; first | refine CallN.lend hNh rfl (.full rfl hpf hlf (.same rfl (.same rfl .nil))) ?_)))); (try (conv => whnf)))



  refine VS.weak (s1 := ecG l s a o y z k c (l ++ [c]) (l ++ [f]) (l ++ [f] ++ [h])) ?sw6 ?_
  case sw6 => exact SW.mk (fun i => if i = 2 then 3 else if i = 3 then 4 else if i = 4 then 7 else if i = 7 then 2 else i) rfl (ecN _ rfl _ _ _ _ _ _ rfl) (namesAll.row rfl (namesAll.row rfl (namesAll.row (pure_en _) (namesAll.row (pure_en _) (namesAll.row (pure_en _) rfl))))) ⟨.refl _, .refl _, .refl _, .refl _, .refl _, .refl _, .refl _, .refl _, .refl _, .refl _, .refl _, VLe2.slm_of (by rw [l3]; show l.length + 2 = 0 + (List.take (l ++ [f]).length (List.drop 0 ((l ++ [f]).map en))).length + 1; omega), trivial⟩ (haveV.row rfl rfl (haveV.row rfl rfl (haveV.row (pure_en _) rfl (haveV.row (pure_en _) rfl (haveV.row (pure_en _) rfl trivial)))))
  clear r1 r2 d0 d1 t1 t2 s1 hsf hNh hN4 hN5
  have hsch : ∀ x ∈ l, x.school = sc := fun x hx => (hM.ok x hx).school
  have hgs := hsch g hgm
  have hgi := hI.range hgm
  have hgd := (hM.ok g hgm)
  have hday := hgd.day
  have hon := hgd.on
  have hIc : Ids (l ++ [c]) := hI.app (by rw [hc]; rfl)
  have hIp : Ids (l ++ [f] ++ [h]) := hIf.app (by rw [hh]; show ((l ++ [f]).length : Int) + 1 = _; rfl)
  have c1 : c.day = 700 ∧ c.on_ = g.on_ ∧ c.kind = 4 ∧ c.ref = g.id ∧ c.id = l.length + 1 ∧ c.school = g.school := by rw [hc]; exact ⟨rfl, rfl, rfl, rfl, rfl, rfl⟩
  have f1 : f.day = 700 ∧ f.on_ = g.on_ ∧ f.kind = 5 ∧ f.ref = g.id ∧ f.id = l.length + 1 ∧ f.school = g.school := by rw [hf]; exact ⟨rfl, rfl, rfl, rfl, rfl, rfl⟩
  have i1 : h.day = 700 ∧ h.on_ = f.on_ ∧ h.kind = 6 ∧ h.ref = f.id ∧ h.id = (l ++ [f]).length + 1 ∧ h.school = f.school := by rw [hh]; exact ⟨rfl, rfl, rfl, rfl, rfl, rfl⟩
  have hbl := hM.okL hsc (by omega)
  have hbc : okL (l ++ [c]) := fun x hx => by
    rcases List.mem_append.1 hx with hx | hx
    · exact hbl x hx
    · rw [List.mem_singleton.1 hx]; exact ⟨by omega, by omega⟩
  have hbf : okL (l ++ [f]) := fun x hx => by
    rcases List.mem_append.1 hx with hx | hx
    · exact hbl x hx
    · rw [List.mem_singleton.1 hx]; exact ⟨by omega, by omega⟩
  have hbp : okL (l ++ [f] ++ [h]) := fun x hx => by
    rcases List.mem_append.1 hx with hx | hx
    · exact hbf x hx
    · rw [List.mem_singleton.1 hx]; exact ⟨by omega, by omega⟩
  have hr6 : ∀ x ∈ l, x.kind = 6 → x.ref ≠ f.id := fun x hx hk6 hxf => by
    obtain ⟨i, hi, rfl⟩ := List.mem_iff_getElem.1 hx
    have eD : l.getD i e0 = l[i] := by rw [List.getD_eq_getElem?_getD, List.getElem?_eq_getElem hi]; rfl
    obtain ⟨i', hi', q1, _⟩ := hM.refs i hi (by rw [eD]; exact .inr (.inr (.inl hk6)))
    have := hM.ids i' (by omega)
    rw [eD] at q1
    omega
  have hdl : ∀ x ∈ l, x.day < c.day := fun x hx => by have := (hM.ok x hx).day; omega
  have O1 := OfC_f l s g.student 700 700 (by omega) hI hbl
  have O4 := OfC_f l s g.student a o (by omega) hI hbl
  have O6 := OfC_f l s g.student 699 700 (by omega) hI hbl
  have O2 := OfC_f (l ++ [f] ++ [h]) s g.student 700 700 (by omega) hIp hbp
  have O3 := OfC_f (l ++ [c]) s g.student a o (by omega) hIc hbc
  have O7 := OfC_f (l ++ [c]) s g.student 700 700 (by omega) hIc hbc
  have O5 := OfC_f (l ++ [f]) s g.student 699 700 (by omega) hIf hbf
  have O8 := OfC_f (l ++ [f]) s g.student 700 700 (by omega) hIf hbf
  rw [of_lifted (g := g) hIp.lt s g.student 700 700 ⟨by omega, by omega⟩ ⟨by omega, by omega⟩ f1.2.2.1 i1.2.2.1 i1.2.2.2.1] at O2
  rw [ofC_late hIc.lt (by omega) s g.student a o (by omega)] at O3
  rw [ofC_late hIf.lt (by omega) s g.student 699 700 (by omega)] at O5
  rw [of_found hI hIf.lt sc hsch s g.student 700 700 hgm ⟨by omega, by omega⟩ f1.2.2.1 f1.2.2.2.1 hr6] at O8
  obtain ⟨v1, v2⟩ := of_corr hI hIc.lt sc hsch s g.student 700 700 hgm ⟨by omega, by omega⟩ c1.2.2.1 c1.2.2.2.1 hdl (by omega)
  have x1 := ofC_src l s g.student 700 700
  have x2 := ofC_src (l ++ [c]) s g.student 700 700
  have y1 := ofC_okA l s g.student 700 700
  have y2 := ofC_okA l s g.student a o
  have y3 := ofC_okA l s g.student 699 700
  have y4 := ofC_len l s g.student 700 700
  have y5 := ofC_len l s g.student a o
  have y6 := ofC_len l s g.student 699 700
  have y7 := ofC_len (l ++ [c]) s g.student 700 700
  generalize ofC l s g.student 700 700 = B at *
  generalize ofC l s g.student a o = B2 at *
  generalize ofC l s g.student 699 700 = B3 at *
  generalize ofC (l ++ [c]) s g.student 700 700 = M at *
  have Q1 := equal_f B y1 (by omega)
  have Q2 := equal_f B2 y2 (by omega)
  have Q3 := equal_f B3 y3 (by omega)
  have W1 := without_f M (srcG g) x2 (by omega)
  have W2 := without_f B (srcG g) x1 (by omega)
  rw [v1] at W1
  have Q4 := equal_f (woC B (srcG g)) (woC_okA y1 _) (Nat.le_trans (woC_len ..) (by omega))
  have hP := Sc.refPassed_f s c.grade
  generalize woC B (srcG g) = W at *
  clear y1 y2 y3 x1 v1 hr6 hdl hbl hbc hbf hbp hIc hIp
  refine VS.weak (ecZ_sw l s a o y z k c (l ++ [c]) (l ++ [f]) (l ++ [f] ++ [h])) ?_
  generalize l ++ [c] = lc at *
  generalize l ++ [f] ++ [h] = lp at *
  generalize l ++ [f] = lf at *
  refine VS.cut T_ok mixed rfl ?_
  ((repeat ((conv => whnf); (first | (refine As.pre ?_; first | refine As.mk rfl ?_ | (refine As.mk ?_ ?_; · ((repeat' (refine andT ?_ ?_)) <;> (first | rfl | assumption | exact decide_eq_true (by omega) | exact decide_eq_true (by dsimp only; omega) | exact decide_eq_true (by simp; omega) | (simp; done))))) | (refine LetV.pre ?_; first | refine LetV.mk (t := 30) _ hld ?_ | refine LetV.mk (.sc (.int _ _)) rfl ?_) | (refine LetI.pre ?_; first | refine LetI.wrap (by omega) (by omega) ?_) | (refine Ck.pre ?_; first | refine Ck.drawn (by kernel_rfl) ?_ | refine Ck.mk rfl ?_)))); (try (conv => whnf)))
  refine VS.cut T_ok mixed rfl ?_
  ((repeat ((conv => whnf); (first | (refine As.pre ?_; first | refine As.mk rfl ?_ | (refine As.mk ?_ ?_; · ((repeat' (refine andT ?_ ?_)) <;> (first | rfl | assumption | exact decide_eq_true (by omega) | exact decide_eq_true (by dsimp only; omega) | exact decide_eq_true (by simp; omega) | (simp; done))))) | (refine LetV.pre ?_; first | refine LetV.mk (t := 30) _ hld ?_ | refine LetV.mk (.sc (.int _ _)) rfl ?_) | (refine Ck.pre ?_; first | refine Ck.mk rfl ?_)))); (try (conv => whnf)))
  refine VS.cut T_ok mixed rfl ?_
  ((repeat ((conv => whnf); (first | (refine As.pre ?_; first | refine As.mk rfl ?_) | (refine LetV.pre ?_; first | refine LetV.mk (.agg _) rfl ?_) | (refine Ck.pre ?_; first | refine Ck.mk rfl ?_) | (refine CallN.pre ?_; first | refine CallN.pure O1 rfl rfl ?_)))); (try (conv => whnf)))
  refine VS.cut T_ok mixed rfl ?_
  ((repeat ((conv => whnf); (first | (refine As.pre ?_; first | refine As.mk rfl ?_) | (refine LetV.pre ?_; first | refine LetV.mk (.agg _) rfl ?_) | (refine Gd.pre ?_; first | refine Gd.run rfl ?_) | (refine Br.pre ?_; first | refine Br.ff rfl ?_) | (refine Ck.pre ?_; first | refine Ck.drawn (by kernel_rfl) ?_ | refine Ck.mk rfl ?_) | (refine CallN.pre ?_; first | refine CallN.pure O4 rfl rfl ?_ | refine CallN.pure O6 rfl rfl ?_ | refine CallN.pure O2 rfl rfl ?_ | refine CallN.pure O3 rfl rfl ?_ | refine CallN.pure O5 rfl rfl ?_ | refine CallN.pure Q1 rfl rfl ?_ | refine CallN.pure Q2 rfl rfl ?_ | refine CallN.pure Q3 rfl rfl ?_)))); (try (conv => whnf)))









  refine VS.cut T_ok mixed rfl ?_
  ((repeat ((conv => whnf); (first | (refine As.pre ?_; first | refine As.mk rfl ?_) | (refine LetV.pre ?_; first | refine LetV.mk (.agg _) rfl ?_) | (refine Gd.pre ?_; first | refine Gd.run rfl ?_) | (refine Br.pre ?_; first | refine Br.ff rfl ?_) | (refine Ck.pre ?_; first | refine Ck.mk rfl ?_) | (refine CallN.pre ?_; first | refine CallN.pure O7 rfl rfl ?_ | refine CallN.pure O8 rfl rfl ?_ | refine CallN.pure W1 rfl rfl ?_ | refine CallN.pure W2 rfl rfl ?_ | refine CallN.pure Q4 rfl rfl ?_)))); (try (conv => whnf)))





  refine VS.cut T_ok mixed rfl ?_
  ((repeat ((conv => whnf); (first | (refine As.pre ?_; first | refine As.mk rfl ?_) | (refine LetV.pre ?_; first | refine LetV.mk (.sc (.int _ _)) rfl ?_ | refine LetV.mk (.agg _) rfl ?_) | (refine Ck.pre ?_; first | refine Ck.mk rfl ?_) | (refine CallN.pre ?_; first | refine CallN.pure hP rfl rfl ?_)))); (try (conv => whnf)))
  have hml2 : (M.map acA).length = M.length := List.length_map _
  obtain ⟨pb, hpb⟩ : ∃ pb : Bool, pb = decide (Sc.rea s c.grade s.2.2) := ⟨_, rfl⟩
  rw [← hpb]
  refine VS.joinN (fun _ : Unit => (⟨[(7, bool true)], [], 0⟩ : AS)) (fun _ => True) ?_ ?_
  case refine_2 =>
    intro _ _
    refine VS.of_V T_ok mixed rfl ?_
    ((repeat ((conv => whnf); (first | (refine As.pre ?_; first | refine As.mk rfl ?_) | (refine Ck.pre ?_; first | refine Ck.mk rfl ?_)))); (try (conv => whnf)))
    exact ⟨⟨[(6, bool true)], [], 0⟩, SW.fr0 (Nat.le_refl _) rfl ⟨.refl _, trivial⟩, .inl rfl, ⟨_, rfl, rfl⟩, trivial⟩
  refine VS.of_V T_ok mixed rfl ?_
  ((repeat ((conv => whnf); (first | (refine As.pre ?_; first | refine As.mk rfl ?_) | (refine LetV.pre ?_; first | refine LetV.mk (.agg _) rfl ?_) | (refine LetI.pre ?_; first | refine LetI.mk _ rfl ?_) | (refine Ck.pre ?_; first | refine Ck.mk rfl ?_) | (refine CallN.pre ?_; first | refine CallN.pure O7 rfl rfl ?_)))); (try (conv => whnf)))
  refine LoopN.weak (s1 := ecL l k c (srcG g) pb M 0) ?sw8 ?_
  case sw8 => exact SW.mk (fun _ => 1) rfl (ecLN ..) rfl ⟨.refl _, .refl _, .refl _, .refl _, .refl _, .refl _, .refl _, VLe2.int (by rw [hml2]), .refl _, trivial⟩ (haveV.row rfl rfl trivial)
  refine LoopN.ind T_ok mixed (S := ecL l k c (srcG g) pb M) (fun j => M.length - j) (fun j => j ≤ M.length) (fun _ => rfl) (fun j hj ih => ?_) 0 (Nat.zero_le _)
  by_cases hlt : j < M.length
  case neg =>
    clear ih
    ((repeat ((conv => whnf); (first | (refine As.pre ?_; first | refine As.mk rfl ?_) | (refine LetB.pre ?_; first | refine LetB.decf (by omega) ?_) | (refine Br.pre ?_; first | refine Br.ff rfl ?_) | (refine Ck.pre ?_; first | refine Ck.mk rfl ?_)))); (try (conv => whnf)))
    exact ⟨rfl, (), trivial, SW.fr0 (Nat.zero_le _) rfl ⟨.refl _, trivial⟩⟩
  have hld2 := getD_ac hlt
  have hmm := getD_mem hlt
  obtain ⟨v, hv⟩ := x2 _ hmm
  have hv2 := v2 _ hmm
  have hnx := ih (j + 1) hlt (by omega)
  generalize M.getD j ac0 = x at hld2 hv hv2
  obtain ⟨xsc, xco, xcr, xgr, xda, xsr, xbu, xpa⟩ := x
  dsimp only at hv hv2
  subst hv
  clear ih v2 x2
  by_cases e : v = srcG g
  case neg =>
    clear hv2
    generalize srcG g = S at *
    ((repeat ((conv => whnf); (first | (refine LetN.pre ?_; first | ((conv => arg 1; whnf); refine LetN.mk ?_)) | (refine As.pre ?_; first | refine As.mk rfl ?_ | (refine As.mk ?_ ?_; · ((repeat' (refine andT ?_ ?_)) <;> (first | rfl | assumption | exact decide_eq_true (by omega) | exact decide_eq_true (by dsimp only; omega) | exact decide_eq_true (by simp; omega) | (simp; done))))) | (refine LetV.pre ?_; first | refine LetV.mk (t := 41) _ hld2 ?_ | refine LetV.mk (.sc (.int _ _)) rfl ?_ | refine LetV.mk (.agg _) rfl ?_ | refine LetV.mk (.ro _ _ _) rfl ?_) | (refine LetI.pre ?_; first | refine LetI.wrap (by omega) (by omega) ?_) | (refine LetB.pre ?_; first | refine LetB.dect (by omega) ?_ | refine LetB.decf (by omega) ?_) | (refine Gd.pre ?_; first | refine Gd.pass rfl ?_) | (refine Br.pre ?_; first | refine Br.tt rfl ?_ | refine Br.ff rfl ?_) | (refine Ck.pre ?_; first | refine Ck.drawn (by kernel_rfl) ?_ | refine Ck.mk rfl ?_) | (refine LetL.pre ?_; first | refine LetL.mk [_] rfl ?_)))); (try (conv => whnf)))

    refine LoopN.weak ?sw9 hnx
    case sw9 => exact SW.mk (fun i => i) rfl (ecLN ..) rfl ⟨.refl _, .refl _, .refl _, .refl _, .refl _, .refl _, .refl _, .refl _, VLe2.int (by omega), trivial⟩ (haveV.row rfl rfl trivial)
  obtain ⟨d1, d2, d3⟩ := hv2 (by rw [e])
  rw [decide_eq_true d3] at hpb
  clear hv2 d3
  subst hpb
  generalize srcG g = S at *
  subst e
  dsimp only [acA] at hld2 d1 d2
  ((repeat ((conv => whnf); (first | (refine LetN.pre ?_; first | ((conv => arg 1; whnf); refine LetN.mk ?_)) | (refine As.pre ?_; first | refine As.mk rfl ?_ | (refine As.mk ?_ ?_; · ((repeat' (refine andT ?_ ?_)) <;> (first | rfl | assumption | exact decide_eq_true (by omega) | exact decide_eq_true (by dsimp only; omega) | exact decide_eq_true (by simp; omega) | (simp; done))))) | (refine LetV.pre ?_; first | refine LetV.mk (t := 41) _ hld2 ?_ | refine LetV.mk (t := 30) _ hld ?_ | refine LetV.mk (.sc (.int _ _)) rfl ?_ | refine LetV.mk (.agg _) rfl ?_ | refine LetV.mk (.ro _ _ _) rfl ?_) | (refine LetI.pre ?_; first | refine LetI.wrap (by omega) (by omega) ?_) | (refine LetB.pre ?_; first | refine LetB.dect (by omega) ?_ | refine LetB.bnef (by omega) ?_) | (refine Gd.pre ?_; first | refine Gd.run rfl ?_) | (refine Br.pre ?_; first | refine Br.tt rfl ?_ | refine Br.ff rfl ?_) | (refine Ck.pre ?_; first | refine Ck.drawn (by kernel_rfl) ?_ | refine Ck.mk rfl ?_) | (refine LetL.pre ?_; first | refine LetL.mk [_] rfl ?_)))); (try (conv => whnf)))


  refine LoopN.weak ?sw10 hnx
  case sw10 => exact SW.mk (fun i => i) rfl (ecLN ..) rfl ⟨.refl _, .refl _, .refl _, .refl _, .refl _, .refl _, .refl _, .refl _, VLe2.int (by omega), trivial⟩ (haveV.row rfl rfl trivial)
theorem ecorr_row (x : List Int × Int × Int × Int) (hx : x.1.length ≤ 9223372036854775807) (h1 : 0 ≤ x.2.1 ∧ x.2.1 ≤ 255) (h2 : 0 ≤ x.2.2.1 ∧ x.2.2.1 ≤ 65535) (h3 : 0 ≤ x.2.2.2 ∧ x.2.2.2 ≤ 65535) (y : Int) (hy : 0 ≤ y ∧ y ≤ 255) (z : Int) (hz : 0 ≤ z ∧ z ≤ 255) :
    AFun Try.prog 6 0 [.agg [.ro {} 1 (x.1.map int), u8' x.2.1, u16 x.2.2.1, u16 x.2.2.2], u8' y, u8' z] [] (bool true) [] := ecorr x.1 {} hx x.2 h1 h2 h3 y z hy hz
end En
end Go.Proofs.Ytiefcppgbnfbfaa
