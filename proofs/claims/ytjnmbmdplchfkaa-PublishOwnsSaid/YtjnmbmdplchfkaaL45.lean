/- publish: parts of the proof, DpublishVA. -/
import Derived.Test.YtjnmbmdplchfkaaL43
import Derived.Test.YtjnmbmdplchfkaaAmFR
set_option linter.all false
namespace Go.Proofs.Ytjnmbmdplchfkaa
open Go.Proofs.Ytjnmbmdplchfkaa.Am
set_option maxRecDepth 100000
variable [Lo]
namespace Pb
/-! ### Copies that are fresh -/
def ndF (x : Nd) : AV := .agg [int x.kind, int x.n, int x.min, .fr (.ro {} 2 (x.set.map coA)), .fr (.ro {} 5 (x.l.map nd))]
theorem ndF_mk (k n m : Int) (s : List Co) (l : List Nd) : ndF (.mk k n m s l) = .agg [int k, int n, int m, .fr (.ro {} 2 (s.map coA)), .fr (.ro {} 5 (l.map nd))] := rfl
theorem pure_ndF : ∀ l : List Nd, AV.namesL (fun _ => false) (l.map ndF) = true
  | [] => rfl
  | p :: l => by simp only [List.map_cons, AV.namesL, pure_ndF l]; rfl
theorem app_ndF (l : List Nd) (e : Nd) (n : Nat) (h : n = l.length) : (l ++ [e]).map ndF = (l.map ndF).take n ++ [ndF e] := by rw [List.take_of_length_le (by simp [h]), List.map_append]; rfl
theorem frle_same {es : List AV} (h : ∀ e ∈ es, ∀ c ∈ e.cells, c.plain = true) (i : Nat) (e e' : AV) (h1 : es[i]? = some e) (h2 : es[i]? = some e') : e.cells.length = e'.cells.length ∧ ∀ (j : Nat) (c c' : AV), e.cells[j]? = some c → e'.cells[j]? = some c' → FrLe c c' := by
  rw [h1] at h2; injection h2 with h2; subst h2
  refine ⟨rfl, fun j c c' k1 k2 => ?_⟩
  rw [k1] at k2; injection k2 with k2; subst k2
  exact .plain (h e (List.mem_of_getElem? h1) c (List.mem_of_getElem? k1))
theorem frle_nd (l : List Nd) (i : Nat) (e e' : AV) (h1 : (l.map ndF)[i]? = some e) (h2 : (l.map nd)[i]? = some e') : e.cells.length = e'.cells.length ∧ ∀ (j : Nat) (c c' : AV), e.cells[j]? = some c → e'.cells[j]? = some c' → FrLe c c' := by
  rw [List.getElem?_map] at h1 h2
  obtain ⟨x, hx, rfl⟩ := Option.map_eq_some_iff.1 h1
  obtain ⟨y, hy, rfl⟩ := Option.map_eq_some_iff.1 h2
  rw [hx] at hy; injection hy with hy; subst hy
  obtain ⟨k, n, m, s, l⟩ := x
  rw [nd_mk, ndF_mk]
  refine ⟨rfl, fun j c c' k1 k2 => ?_⟩
  match j, k1, k2 with
  | 0, k1, k2 => injection k1 with k1; injection k2 with k2; subst k1 k2; exact .plain rfl
  | 1, k1, k2 => injection k1 with k1; injection k2 with k2; subst k1 k2; exact .plain rfl
  | 2, k1, k2 => injection k1 with k1; injection k2 with k2; subst k1 k2; exact .plain rfl
  | 3, k1, k2 => injection k1 with k1; injection k2 with k2; subst k1 k2; exact .fr _ _ _
  | 4, k1, k2 => injection k1 with k1; injection k2 with k2; subst k1 k2; exact .fr _ _ _
  | j + 5, k1, k2 => simp [AV.cells] at k1
theorem CloneC_F (s : List Co) (hs : s.length ≤ 1000) : AFun Try.prog 70 0 [.ro {} 2 (s.map coA)] [] (.fr (.ro {} 2 (s.map coA))) [] :=
  AFun.frG (CloneC_s s hs) rfl (frle_same fun e he c hc => by
    obtain ⟨x, _, rfl⟩ := List.mem_map.1 he
    rcases List.mem_cons.1 hc with rfl | hc
    · rfl
    · rw [List.mem_singleton.1 hc]; rfl) fun w g g1 x _ _ k hc => k {} x (by rw [List.length_map]; exact hc)
theorem frN {P : Program} {f : FuncId} {vs : List AV} (k n m : Int) (s : List Co) (l : List Nd) (h : AFun P f 0 vs [] (.agg [int k, int n, int m, .fr (.ro {} 2 (s.map coA)), .slm {} 0 5 0 l.length]) [(0, .row 5 nty (l.map ndF))]) : AFun P f 0 vs [] (ndF (.mk k n m s l)) [] :=
  AFun.frG h (by simp) (frle_nd l) fun w g g1 x hI hφ kk hc => by
    cases hc with
    | agg hl hc =>
      refine .agg hl fun i c y hi hy => ?_
      match i, hi with
      | 0, hi => injection hi with hi; subst hi; exact (hc 0 _ y rfl hy).I_mono hI hφ
      | 1, hi => injection hi with hi; subst hi; exact (hc 1 _ y rfl hy).I_mono hI hφ
      | 2, hi => injection hi with hi; subst hi; exact (hc 2 _ y rfl hy).I_mono hI hφ
      | 3, hi => injection hi with hi; subst hi; exact (hc 3 _ y rfl hy).I_mono hI hφ
      | 4, hi => injection hi with hi; subst hi; exact kk {} y (by rw [List.length_map]; exact hc 4 _ y rfl hy)
      | i + 5, hi => simp at hi
abbrev cnF (k n m : Int) (s : List Co) (l : List Nd) : Nat × List Nd → AS
  | (j, L) => ⟨[(1, .ptr 0 5 0 0), (2, .ptr 1 5 0 0), (13, .ro {} 5 (l.map nd)), (14, int l.length), (15, int j)], [(0, .row 5 nty [.agg [int k, int n, int m, .fr (.ro {} 2 (s.map coA)), .slm {} 2 5 0 L.length]]), (1, .row 5 nty [.agg [int 0, int 0, int 0, .sc (.slice none 0 0), .sc (.slice none 0 0)]]), (2, .row 5 nty (L.map ndF))], 3⟩
theorem cnFN (k n m : Int) (s : List Co) (L : List Nd) (ok : Nat → Bool) (h : ok 2 = true) : namesAll ok [(0, .row 5 nty [.agg [int k, int n, int m, .fr (.ro {} 2 (s.map coA)), .slm {} 2 5 0 L.length]]), (1, .row 5 nty [.agg [int 0, int 0, int 0, .sc (.slice none 0 0), .sc (.slice none 0 0)]]), (2, .row 5 nty (L.map ndF))] = true := by
  have h1 : namesAll ok [(2, .row 5 nty (L.map ndF))] = true := namesAll.row (pure_ndF L) rfl
  rw [namesAll, namesAll, h1]
  simp only [Blk.names, AV.namesL, AV.names, h]; rfl
set_option maxHeartbeats 1600000 in
set_option maxRecDepth 100000 in
theorem copyNeed_F : ∀ (K : Nat) (x : Nd), x.nodes.length ≤ K → x.nodes.length ≤ 1000 → (∀ y ∈ x.nodes, y.set.length ≤ 1000) → AFun Try.prog 50 0 [nd x] [] (ndF x) [] := by
  intro K
  induction K with
  | zero => intro x h; have := nodes_pos x; omega
  | succ K ihK =>
    intro x hK hL hs
    obtain ⟨k, n, m, s, l⟩ := x
    rw [Nd.nodes] at hK hL hs
    rw [List.length_cons] at hK hL
    have hC := CloneC_F s (hs _ (List.mem_cons_self ..))
    have hsub : ∀ y ∈ Nd.nodesL l, y.set.length ≤ 1000 := fun y hy => hs y (List.mem_cons_of_mem _ hy)
    clear hs
    have hge := nodesL_ge l
    have hml : (l.map nd).length = l.length := List.length_map _
    rw [nd_mk]
    refine frN k n m s l ?_
    refine AFun.of_S T_ok mixed Try.func50 rfl (Nat.le_of_ble_eq_true rfl) rfl ?_
    ((repeat ((conv => whnf); (first | (refine LetN.pre ?_; first | ((conv => arg 1; whnf); refine LetN.mk ?_)) | (refine As.pre ?_; first | refine As.mk rfl ?_) | (refine LetV.pre ?_; first | refine LetV.mk (.ro _ _ _) rfl ?_) | (refine LetI.pre ?_; first | refine LetI.mk _ rfl ?_) | (refine Ck.pre ?_; first | refine Ck.mk rfl ?_) | (refine LetL.pre ?_; first | refine LetL.mk (ty := nty) [.agg [_, _, _, _, _]] rfl ?_) | (refine CallN.pre ?_; first | refine CallN.pure hC rfl rfl ?_)))); (try (conv => whnf)))
    refine LoopN.weak (s1 := cnF k n m s l (0, [])) ?sw1 ?_
    case sw1 => exact SW.mk id rfl rfl (cnFN _ _ _ _ _ _ rfl) ⟨.refl _, .refl _, .refl _, VLe2.int (by rw [hml]), .refl _, trivial⟩ (haveV.agg rfl ⟨.refl _, .refl _, .refl _, .refl _, VLe2.nilslm, trivial⟩ (haveV.one rfl (haveV.nil (Nat.le_refl _) trivial)))
    clear hC
    refine LoopN.ind T_ok mixed (S := cnF k n m s l) (fun i => l.length - i.1) (fun i => i.1 ≤ l.length ∧ i.2 = l.take i.1) (fun _ => rfl) (fun i hi ih => ?_) (0, []) ⟨Nat.zero_le _, rfl⟩
    obtain ⟨j, L⟩ := i
    obtain ⟨h1, h2⟩ := hi
    dsimp only at h1 h2
    by_cases hlt : j < l.length
    case neg =>
      clear ih ihK hsub
      rw [List.take_of_length_le (by omega)] at h2
      subst h2
      ((repeat ((conv => whnf); (first | (refine LetN.pre ?_; first | ((conv => arg 1; whnf); refine LetN.mk ?_)) | (refine As.pre ?_; first | refine As.mk rfl ?_) | (refine LetV.pre ?_; first | refine LetV.mk (.agg _) rfl ?_) | (refine LetB.pre ?_; first | refine LetB.decf (by omega) ?_) | (refine Br.pre ?_; first | refine Br.ff rfl ?_) | (refine Ck.pre ?_; first | refine Ck.mk rfl ?_) | (refine LetL.pre ?_; first | refine LetL.mk [_] rfl ?_)))); (try (conv => whnf)))
      exact ⟨⟨[(2, .ptr 1 5 0 0)], [(0, .row 5 nty (L.map ndF)), (1, .row 5 nty [.agg [int k, int n, int m, .fr (.ro {} 2 (s.map coA)), .slm {} 0 5 0 L.length]])], 3⟩, SW.mk (fun i => match i with | 0 => 2 | 1 => 1 | 2 => 0 | i => i) rfl rfl (namesAll.row (pure_ndF _) rfl) ⟨.refl _, trivial⟩ (haveV.row (pure_ndF _) rfl (haveV.one rfl trivial)), .inl rfl, ⟨_, rfl, rfl⟩, rfl, trivial⟩
    have hn := nodesL_mem (getD_mem' hlt)
    have hrec := ihK (l.getD j nd0) (by omega) (by omega) (fun y hy => hsub y (nodesL_sub (getD_mem' hlt) hy))
    have hnx := ih (j + 1, L ++ [l.getD j nd0]) ⟨hlt, by dsimp only; rw [List.take_succ_eq_append_getElem hlt, h2, List.getD_eq_getElem?_getD, List.getElem?_eq_getElem hlt]; rfl⟩ (by show l.length - (j + 1) < l.length - j; omega)
    have hld := ld_nd hlt
    have hLl : L.length ≤ 1000 := by rw [h2, List.length_take]; omega
    clear ih ihK hsub h2 hn
    generalize l.getD j nd0 = y at hrec hnx hld
    have hr := room_nd (n := L.length + 1) (by omega)
    have hmL : (L.map ndF).length = L.length := List.length_map _
    have a1 := app_ndF L y L.length rfl
    have l1 : (L ++ [y]).length = L.length + 1 := by simp
    obtain ⟨k', n', m', s', l'⟩ := y
    rw [nd_mk] at hrec hld
    rw [ndF_mk] at hrec a1
    ((repeat ((conv => whnf); (first | (refine LetN.pre ?_; first | ((conv => arg 1; whnf); refine LetN.mk ?_)) | (refine As.pre ?_; first | refine As.mk rfl ?_ | (refine As.mk ?_ ?_; · ((repeat' (refine andT ?_ ?_)) <;> (first | rfl | assumption | exact decide_eq_true (by omega) | exact decide_eq_true (by dsimp only; omega) | exact decide_eq_true (by simp; omega) | (simp; done))))) | (refine LetV.pre ?_; first | refine LetV.mk (t := 34) _ hld ?_ | refine LetV.mk (.agg _) rfl ?_ | refine LetV.mk (.slm _ _ _ _ _) rfl ?_) | (refine LetI.pre ?_; first | refine LetI.wrap (by omega) (by omega) ?_) | (refine LetB.pre ?_; first | refine LetB.dect (by omega) ?_) | (refine Br.pre ?_; first | refine Br.tt rfl ?_) | (refine Ck.pre ?_; first | refine Ck.drawn (by kernel_rfl) ?_ | refine Ck.mk rfl ?_) | (refine LetL.pre ?_; first | refine LetL.mk (ty := nty) _ a1 ?_ | refine LetL.mk (ty := nty) [.agg [_, _, _, _, _]] rfl ?_) | (refine CallN.pre ?_; first | refine CallN.pure hrec rfl rfl ?_)))); (try (conv => whnf)))




    refine LoopN.weak ?sw2 hnx
    case sw2 => exact SW.mk (fun i => match i with | 2 => 4 | i => i) rfl rfl (cnFN _ _ _ _ _ _ rfl) ⟨.refl _, .refl _, .refl _, .refl _, VLe2.int (by omega), trivial⟩ (haveV.agg rfl ⟨.refl _, .refl _, .refl _, .refl _, VLe2.slm_of l1, trivial⟩ (haveV.one rfl (haveV.row (pure_ndF _) rfl trivial)))
/-- A copied programme: its requirement is fresh, its exclusions are a row of their own. -/
def pgO (p : Pg) : AV := .agg [int p.school, int p.id, int p.ver, int p.from_, str p.name, int p.need.kind, int p.need.n, int p.need.min, .fr (.ro {} 2 (p.need.set.map coA)), .fr (.ro {} 5 (p.need.l.map nd)), int p.total, int p.own, int p.age, .slm {} 0 4 0 p.ex.length]
theorem pgO_mk (school id ver from_ : Int) (name : ByteArray) (k n m : Int) (s : List Co) (l : List Nd) (total own age : Int) (ex : List (Co × Co)) : pgO ⟨school, id, ver, from_, name, .mk k n m s l, total, own, age, ex⟩ = .agg [int school, int id, int ver, int from_, str name, int k, int n, int m, .fr (.ro {} 2 (s.map coA)), .fr (.ro {} 5 (l.map nd)), int total, int own, int age, .slm {} 0 4 0 ex.length] := rfl
abbrev rwX (ex : List (Co × Co)) : Blk := .row 4 exty (ex.map exA)
set_option maxHeartbeats 1600000 in
set_option maxRecDepth 100000 in
theorem copiedP_O {p : Pg} (h : SP p) : AFun Try.prog 33 0 [pg p] [] (pgO p) [(0, rwX p.ex)] := by
  have hC := copyNeed_F _ p.need (Nat.le_refl _) h.n h.s
  have hE := CloneE_s p.ex h.e
  clear h
  obtain ⟨school, id, ver, from_, name, ⟨k, n, m, s, l⟩, total, own, age, ex⟩ := p
  rw [pg_mk, pgO_mk]
  dsimp only at hC hE ⊢
  rw [nd_mk, ndF_mk] at hC
  refine AFun.of_S T_ok mixed Try.func33 rfl (Nat.le_of_ble_eq_true rfl) rfl ?_
  ((repeat ((conv => whnf); (first | (refine LetN.pre ?_; first | ((conv => arg 1; whnf); refine LetN.mk ?_)) | (refine As.pre ?_; first | refine As.mk rfl ?_) | (refine LetV.pre ?_; first | refine LetV.mk (.agg _) rfl ?_ | refine LetV.mk (.ro _ _ _) rfl ?_) | (refine Ck.pre ?_; first | refine Ck.mk rfl ?_) | (refine LetL.pre ?_; first | refine LetL.mk (ty := exty) _ (renL_none (pure_ex _)).symm ?_ | refine LetL.mk (ty := pty) [.agg [_, _, _, _, _, _, _, _, _, _, _, _, _, _]] rfl ?_) | (refine CallN.pre ?_; first | refine CallN.pure hC rfl rfl ?_ | (refine CallN.own (fun i => i + 2) hE (CallOk.mk' rfl rfl rfl rfl rfl (namesAll.row (pure_ex _) rfl) trivial) ?_))))); (try (conv => whnf)))
  exact ⟨⟨[(2, .ptr 1 14 0 0)], [(0, rwX ex), (1, .row 14 pty [.agg [int school, int id, int ver, int from_, str name, int k, int n, int m, .fr (.ro {} 2 (s.map coA)), .fr (.ro {} 5 (l.map nd)), int total, int own, int age, .slm {} 0 4 0 ex.length]])], 3⟩, SW.mk (fun i => match i with | 0 => 2 | i => i) rfl rfl (namesAll.row (pure_ex _) rfl) ⟨.refl _, trivial⟩ (haveV.row (pure_ex _) rfl (haveV.one rfl trivial)), .inl rfl, ⟨_, rfl, rfl⟩, rfl, trivial⟩
set_option maxHeartbeats 3200000 in
set_option maxRecDepth 100000 in
theorem Of_O (fl : Fl) (B : List Pg) (s i v : Int) (hB : B.length ≤ 1000) (h : ∀ q ∈ B, SP q) (hf : (ofP s i v B).2 = true) : AFun Try.prog 20 0 [.ro fl 14 (B.map pg), int s, int i, int v] [] (.tup [pgO (ofP s i v B).1, bool true]) [(0, rwX (ofP s i v B).1.ex)] := by
  have hmB : (B.map pg).length = B.length := List.length_map _
  refine AFun.of_S T_ok mixed Try.func20 rfl (Nat.le_of_ble_eq_true rfl) rfl ?_
  ((repeat ((conv => whnf); (first | (refine LetN.pre ?_; first | ((conv => arg 1; whnf); refine LetN.mk ?_)) | (refine As.pre ?_; first | refine As.mk rfl ?_) | (refine LetI.pre ?_; first | refine LetI.mk _ rfl ?_) | (refine Ck.pre ?_; first | refine Ck.mk rfl ?_)))); (try (conv => whnf)))
  refine LoopN.weak (s1 := OfS fl B s i v 0) ?sw1 ?_
  case sw1 => exact SW.mk _root_.id rfl rfl rfl ⟨.refl _, .refl _, .refl _, .refl _, .refl _, VLe2.int (by rw [hmB]), .refl _, trivial⟩ (haveV.one rfl trivial)
  refine LoopN.ind T_ok mixed (S := OfS fl B s i v) (fun k => B.length - k) (fun k => k ≤ B.length ∧ ofP s i v B = ofP s i v (B.drop k)) (fun _ => rfl) (fun k hk ih => ?_) 0 ⟨Nat.zero_le _, rfl⟩
  obtain ⟨h1, h2⟩ := hk
  by_cases hlt : k < B.length
  case neg =>
    rw [ofP_end hlt] at h2
    rw [h2] at hf
    cases hf
  have hld := ld_pg hlt
  have hcp := copiedP_O (h _ (pg_mem hlt))
  rw [ofP_at hlt] at h2
  have hnx := fun g => ih (k + 1) ⟨hlt, g⟩ (by omega)
  clear ih h
  generalize ofP s i v (B.drop (k + 1)) = r at h2 hnx
  generalize ofP s i v B = r0 at h2 hnx hf ⊢
  generalize B.getD k p0 = y at hld h2 hcp
  obtain ⟨school, id, ver, from_, name, ⟨k', n, m, st, l⟩, total, own, age, ex⟩ := y
  dsimp only at h2
  by_cases c : school = s ∧ id = i ∧ ver = v
  · rw [if_pos c] at h2
    rw [h2]
    clear hnx h2
    obtain ⟨c1, c2, c3⟩ := c
    have hkb : true = (school == s && (id == i && true)) := by rw [c1, c2]; simp
    rw [pg_mk] at hld hcp
    dsimp only at hcp ⊢
    rw [pgO_mk] at hcp ⊢
    clear hf
    ((repeat ((conv => whnf); (first | (refine LetN.pre ?_; first | ((conv => arg 1; whnf); refine LetN.mk ?_)) | (refine As.pre ?_; first | refine As.mk rfl ?_ | (refine As.mk ?_ ?_; · ((repeat' (refine andT ?_ ?_)) <;> (first | rfl | assumption | exact decide_eq_true (by omega) | exact decide_eq_true (by dsimp only; omega) | exact decide_eq_true (by simp; omega) | (simp; done))))) | (refine LetV.pre ?_; first | refine LetV.mk (t := 28) _ hld ?_ | refine LetV.mk (.sc (.int _ _)) rfl ?_ | refine LetV.mk (.agg _) rfl ?_) | (refine LetB.pre ?_; first | refine LetB.mk (o := some .eql) _ hkb ?_ | refine LetB.dect (by omega) ?_) | (refine Gd.pre ?_; first | refine Gd.run rfl ?_) | (refine Br.pre ?_; first | refine Br.tt rfl ?_) | (refine Ck.pre ?_; first | refine Ck.mk rfl ?_) | (refine LetL.pre ?_; first | refine LetL.mk (ty := exty) _ (renL_none (pure_ex _)).symm ?_ | refine LetL.mk (ty := pty) [.agg [_, _, _, _, _, _, _, _, _, _, _, _, _, _]] rfl ?_) | (refine CallN.pre ?_; first | (refine CallN.own (fun i => i + 2) hcp (CallOk.mk' rfl rfl rfl rfl rfl (namesAll.row (pure_ex _) rfl) trivial) ?_))))); (try (conv => whnf)))
    exact ⟨⟨[(8, .ptr 1 14 0 0), (9, bool true)], [(0, rwX ex), (1, .row 14 pty [.agg [int school, int id, int ver, int from_, str name, int k', int n, int m, .fr (.ro {} 2 (st.map coA)), .fr (.ro {} 5 (l.map nd)), int total, int own, int age, .slm {} 0 4 0 ex.length]])], 9⟩, SW.mk (fun i => match i with | 0 => 2 | 1 => 0 | i => i) rfl rfl (namesAll.row (pure_ex _) rfl) ⟨.refl _, .refl _, trivial⟩ (haveV.row (pure_ex _) rfl (haveV.one rfl trivial)), .inl rfl, ⟨_, rfl, rfl⟩, rfl, trivial⟩
  · rw [if_neg c] at h2
    replace hnx := hnx h2
    clear h2 hcp
    rw [pg_mk] at hld
    by_cases c1 : school = s
    · by_cases c2 : id = i
      · have c3 : ¬ ver = v := fun g => c ⟨c1, c2, g⟩
        clear c
        have hkb : true = (school == s && (id == i && true)) := by rw [c1, c2]; simp
        ((repeat ((conv => whnf); (first | (refine LetN.pre ?_; first | ((conv => arg 1; whnf); refine LetN.mk ?_)) | (refine As.pre ?_; first | refine As.mk rfl ?_ | (refine As.mk ?_ ?_; · ((repeat' (refine andT ?_ ?_)) <;> (first | rfl | assumption | exact decide_eq_true (by omega) | exact decide_eq_true (by dsimp only; omega) | exact decide_eq_true (by simp; omega) | (simp; done))))) | (refine LetV.pre ?_; first | refine LetV.mk (t := 28) _ hld ?_ | refine LetV.mk (.sc (.int _ _)) rfl ?_ | refine LetV.mk (.agg _) rfl ?_) | (refine LetI.pre ?_; first | refine LetI.wrap (by omega) (by omega) ?_) | (refine LetB.pre ?_; first | refine LetB.mk (o := some .eql) _ hkb ?_ | refine LetB.dect (by omega) ?_ | refine LetB.decf (by omega) ?_) | (refine Gd.pre ?_; first | refine Gd.run rfl ?_) | (refine Br.pre ?_; first | refine Br.tt rfl ?_ | refine Br.ff rfl ?_) | (refine Ck.pre ?_; first | refine Ck.mk rfl ?_) | (refine LetL.pre ?_; first | refine LetL.mk (ty := pty) [.agg [_, _, _, _, _, _, _, _, _, _, _, _, _, _]] rfl ?_)))); (try (conv => whnf)))
        refine LoopN.weak ?sw2 hnx
        case sw2 => exact SW.mk _root_.id rfl rfl rfl ⟨.refl _, .refl _, .refl _, .refl _, .refl _, .refl _, VLe2.int (by omega), trivial⟩ (haveV.one rfl trivial)
      · clear c
        have hkb : false = (school == s && (id == i && true)) := by simp [c2]
        ((repeat ((conv => whnf); (first | (refine LetN.pre ?_; first | ((conv => arg 1; whnf); refine LetN.mk ?_)) | (refine As.pre ?_; first | refine As.mk rfl ?_ | (refine As.mk ?_ ?_; · ((repeat' (refine andT ?_ ?_)) <;> (first | rfl | assumption | exact decide_eq_true (by omega) | exact decide_eq_true (by dsimp only; omega) | exact decide_eq_true (by simp; omega) | (simp; done))))) | (refine LetV.pre ?_; first | refine LetV.mk (t := 28) _ hld ?_ | refine LetV.mk (.sc (.int _ _)) rfl ?_ | refine LetV.mk (.agg _) rfl ?_) | (refine LetI.pre ?_; first | refine LetI.wrap (by omega) (by omega) ?_) | (refine LetB.pre ?_; first | refine LetB.mk (o := some .eql) _ hkb ?_ | refine LetB.dect (by omega) ?_) | (refine Gd.pre ?_; first | refine Gd.pass rfl ?_) | (refine Br.pre ?_; first | refine Br.tt rfl ?_ | refine Br.ff rfl ?_) | (refine Ck.pre ?_; first | refine Ck.mk rfl ?_) | (refine LetL.pre ?_; first | refine LetL.mk (ty := pty) [.agg [_, _, _, _, _, _, _, _, _, _, _, _, _, _]] rfl ?_)))); (try (conv => whnf)))
        refine LoopN.weak ?sw3 hnx
        case sw3 => exact SW.mk _root_.id rfl rfl rfl ⟨.refl _, .refl _, .refl _, .refl _, .refl _, .refl _, VLe2.int (by omega), trivial⟩ (haveV.one rfl trivial)
    · clear c
      have hkb : false = (school == s && (id == i && true)) := by simp [c1]
      ((repeat ((conv => whnf); (first | (refine LetN.pre ?_; first | ((conv => arg 1; whnf); refine LetN.mk ?_)) | (refine As.pre ?_; first | refine As.mk rfl ?_ | (refine As.mk ?_ ?_; · ((repeat' (refine andT ?_ ?_)) <;> (first | rfl | assumption | exact decide_eq_true (by omega) | exact decide_eq_true (by dsimp only; omega) | exact decide_eq_true (by simp; omega) | (simp; done))))) | (refine LetV.pre ?_; first | refine LetV.mk (t := 28) _ hld ?_ | refine LetV.mk (.sc (.int _ _)) rfl ?_ | refine LetV.mk (.agg _) rfl ?_) | (refine LetI.pre ?_; first | refine LetI.wrap (by omega) (by omega) ?_) | (refine LetB.pre ?_; first | refine LetB.mk (o := some .eql) _ hkb ?_ | refine LetB.dect (by omega) ?_) | (refine Gd.pre ?_; first | refine Gd.pass rfl ?_) | (refine Br.pre ?_; first | refine Br.tt rfl ?_ | refine Br.ff rfl ?_) | (refine Ck.pre ?_; first | refine Ck.mk rfl ?_) | (refine LetL.pre ?_; first | refine LetL.mk (ty := pty) [.agg [_, _, _, _, _, _, _, _, _, _, _, _, _, _]] rfl ?_)))); (try (conv => whnf)))
      refine LoopN.weak ?sw4 hnx
      case sw4 => exact SW.mk _root_.id rfl rfl rfl ⟨.refl _, .refl _, .refl _, .refl _, .refl _, .refl _, VLe2.int (by omega), trivial⟩ (haveV.one rfl trivial)
set_option maxHeartbeats 3200000 in
set_option maxRecDepth 100000 in
theorem Bind_O (B : List Pg) (C : List Ch) (s i be day : Int) (hB : B.length ≤ 1000) (hC : C.length ≤ 1000) (h : ∀ q ∈ B, SP q) (hz : (bindP B s i be day C).2 = 0) : AFun Try.prog 13 0 [.ro {} 14 (B.map pg), int s, int i, int be, .ro {} 4 (C.map chA), int day] [] (.tup [pgO (bindP B s i be day C).1, int 0]) [(0, rwX (bindP B s i be day C).1.ex)] := by
  have hmB : (B.map pg).length = B.length := List.length_map _
  have hmC : (C.map chA).length = C.length := List.length_map _
  refine AFun.of_S T_ok mixed Try.func13 rfl (Nat.le_of_ble_eq_true rfl) rfl ?_
  ((repeat ((conv => whnf); (first | (refine LetN.pre ?_; first | ((conv => arg 1; whnf); refine LetN.mk ?_)) | (refine As.pre ?_; first | refine As.mk rfl ?_) | (refine LetI.pre ?_; first | refine LetI.mk _ rfl ?_) | (refine Ck.pre ?_; first | refine Ck.mk rfl ?_)))); (try (conv => whnf)))
  refine LoopN.weak (s1 := bi1S B C s i be day (0, false, none)) ?sw1 ?_
  case sw1 => exact SW.mk _root_.id rfl rfl rfl ⟨.refl _, .refl _, .refl _, .refl _, .refl _, .refl _, .refl _, .refl _, .refl _, .refl _, VLe2.int (by rw [hmB]), .refl _, trivial⟩ (haveV.one rfl trivial)
  refine LoopN.ind T_ok mixed (S := bi1S B C s i be day) (fun a => B.length - a.1) (fun a => a.1 ≤ B.length ∧ a.2 = b1P (B.take a.1) s i be) (fun | (_, _, none) => rfl | (_, _, some _) => rfl) (fun a ha ih => ?_) (0, false, none) ⟨Nat.zero_le _, rfl⟩
  obtain ⟨j, sm, bo⟩ := a
  obtain ⟨h1, h2⟩ := ha
  dsimp only at h1 h2
  by_cases hlt : j < B.length
  case neg =>
    rw [List.take_of_length_le (by omega)] at h2
    clear ih
    have hbq : bindP B s i be day C = bindQ B s i day C sm bo := by unfold bindP; rw [← h2]
    rw [hbq] at hz ⊢
    clear hbq
    have hmem : ∀ q, bo = some q → q ∈ B := fun q hq => b1_mem s i be B q (by rw [← h2]; exact hq)
    clear h2
    cases sm with
    | false => cases bo <;> exact absurd hz (by simp [bindQ])
    | true =>
      cases bo with
      | none => exact absurd hz (by simp [bindQ])
      | some b0 =>
        ((repeat ((conv => whnf); (first | (refine As.pre ?_; first | refine As.mk rfl ?_) | (refine LetI.pre ?_; first | refine LetI.mk _ rfl ?_) | (refine LetB.pre ?_; first | refine LetB.ff rfl ?_ | refine LetB.decf (by omega) ?_) | (refine Br.pre ?_; first | refine Br.ff rfl ?_) | (refine Ck.pre ?_; first | refine Ck.mk rfl ?_)))); (try (conv => whnf)))
        refine LoopN.weak (s1 := bi2S B C s i day (0, b0)) ?sw11 ?_
        case sw11 => exact SW.mk _root_.id rfl rfl rfl ⟨.refl _, .refl _, .refl _, .refl _, .refl _, .refl _, .refl _, VLe2.int (by rw [hmC]), .refl _, trivial⟩ (haveV.one rfl trivial)
        have hb0 := hmem b0 rfl
        clear h1 hlt j hmem
        refine LoopN.ind T_ok mixed (S := bi2S B C s i day) (fun a => C.length - a.1) (fun a => a.1 ≤ C.length ∧ a.2 = b2P B s i day b0 (C.take a.1)) (fun _ => rfl) (fun a ha ih => ?_) (0, b0) ⟨Nat.zero_le _, rfl⟩
        obtain ⟨j, b⟩ := a
        obtain ⟨h1, h2⟩ := ha
        dsimp only at h1 h2
        by_cases hlt : j < C.length
        case neg =>
          rw [List.take_of_length_le (by omega)] at h2
          rw [show bindQ B s i day C true (some b0) = (b, 0) by rw [bindQ, h2]]
          clear hz
          have hcp := copiedP_O (h _ (show b ∈ B by rw [h2]; exact b2_mem s i day C b0 hb0))
          clear ih h2 h
          obtain ⟨school', id', ver', from', name', ⟨k', n', m', st', l'⟩, total', own', age', ex'⟩ := b
          rw [pg_mk] at hcp
          dsimp only at hcp ⊢
          rw [pgO_mk] at hcp ⊢
          ((repeat ((conv => whnf); (first | (refine LetN.pre ?_; first | ((conv => arg 1; whnf); refine LetN.mk ?_)) | (refine As.pre ?_; first | refine As.mk rfl ?_) | (refine LetV.pre ?_; first | refine LetV.mk (.agg _) rfl ?_) | (refine LetB.pre ?_; first | refine LetB.decf (by omega) ?_) | (refine Br.pre ?_; first | refine Br.ff rfl ?_) | (refine Ck.pre ?_; first | refine Ck.mk rfl ?_) | (refine LetL.pre ?_; first | refine LetL.mk (ty := exty) _ (renL_none (pure_ex _)).symm ?_ | refine LetL.mk (ty := pty) [.agg [_, _, _, _, _, _, _, _, _, _, _, _, _, _]] rfl ?_) | (refine CallN.pre ?_; first | (refine CallN.own (fun i => i + 1) hcp (CallOk.mk' rfl rfl rfl rfl rfl (namesAll.row (pure_ex _) rfl) trivial) ?_))))); (try (conv => whnf)))
          exact ⟨⟨[(12, .ptr 1 14 0 0), (13, int 0)], [(0, rwX ex'), (1, .row 14 pty [.agg [int school', int id', int ver', int from', str name', int k', int n', int m', .fr (.ro {} 2 (st'.map coA)), .fr (.ro {} 5 (l'.map nd)), int total', int own', int age', .slm {} 0 4 0 ex'.length]])], 9⟩, SW.mk (fun i => match i with | 0 => 1 | 1 => 0 | i => i) rfl rfl (namesAll.row (pure_ex _) rfl) ⟨.refl _, .refl _, trivial⟩ (haveV.row (pure_ex _) rfl (haveV.one rfl trivial)), .inl rfl, ⟨_, rfl, rfl⟩, rfl, trivial⟩
        have hlc := ld_ch hlt
        have hbt := b2_take hlt s i day b0 (B := B)
        rw [← h2] at hbt
        have hnx := fun q (hq : q = b2S B s i day b (C.getD j ch0)) => ih (j + 1, q) ⟨hlt, hq.trans hbt.symm⟩ (by show C.length - (j + 1) < C.length - j; omega)
        clear ih h2 hbt hb0 h
        generalize C.getD j ch0 = c at hlc hnx
        obtain ⟨cp, cv, cb, co⟩ := c
        by_cases d1 : cp = i
        case neg =>
          replace hnx := hnx b (by rw [b2S, if_pos (.inl d1)])
          obtain ⟨school', id', ver', from', name', ⟨k', n', m', st', l'⟩, total', own', age', ex'⟩ := b
          ((repeat ((conv => whnf); (first | (refine LetN.pre ?_; first | ((conv => arg 1; whnf); refine LetN.mk ?_)) | (refine As.pre ?_; first | refine As.mk rfl ?_ | (refine As.mk ?_ ?_; · ((repeat' (refine andT ?_ ?_)) <;> (first | rfl | assumption | exact decide_eq_true (by omega) | exact decide_eq_true (by dsimp only; omega) | exact decide_eq_true (by simp; omega) | (simp; done))))) | (refine LetV.pre ?_; first | refine LetV.mk (t := 29) _ hlc ?_ | refine LetV.mk (.sc (.int _ _)) rfl ?_ | refine LetV.mk (.agg _) rfl ?_) | (refine LetI.pre ?_; first | refine LetI.wrap (by omega) (by omega) ?_) | (refine LetB.pre ?_; first | refine LetB.dect (by omega) ?_ | refine LetB.bnet (by omega) ?_) | (refine Gd.pre ?_; first | refine Gd.pass rfl ?_) | (refine Br.pre ?_; first | refine Br.tt rfl ?_) | (refine Ck.pre ?_; first | refine Ck.drawn (by kernel_rfl) ?_ | refine Ck.mk rfl ?_) | (refine LetL.pre ?_; first | refine LetL.mk (ty := chy) [.agg [_, _, _, _]] rfl ?_)))); (try (conv => whnf)))
          refine LoopN.weak ?sw12 hnx
          case sw12 => exact SW.mk _root_.id rfl rfl rfl ⟨.refl _, .refl _, .refl _, .refl _, .refl _, .refl _, .refl _, .refl _, VLe2.int (by omega), trivial⟩ (haveV.one rfl trivial)
        by_cases d2 : day < co
        case pos =>
          replace hnx := hnx b (by rw [b2S, if_pos (.inr (.inl d2))])
          obtain ⟨school', id', ver', from', name', ⟨k', n', m', st', l'⟩, total', own', age', ex'⟩ := b
          ((repeat ((conv => whnf); (first | (refine LetN.pre ?_; first | ((conv => arg 1; whnf); refine LetN.mk ?_)) | (refine As.pre ?_; first | refine As.mk rfl ?_ | (refine As.mk ?_ ?_; · ((repeat' (refine andT ?_ ?_)) <;> (first | rfl | assumption | exact decide_eq_true (by omega) | exact decide_eq_true (by dsimp only; omega) | exact decide_eq_true (by simp; omega) | (simp; done))))) | (refine LetV.pre ?_; first | refine LetV.mk (t := 29) _ hlc ?_ | refine LetV.mk (.sc (.int _ _)) rfl ?_ | refine LetV.mk (.agg _) rfl ?_) | (refine LetI.pre ?_; first | refine LetI.wrap (by omega) (by omega) ?_) | (refine LetB.pre ?_; first | refine LetB.dect (by omega) ?_ | refine LetB.bnef (by omega) ?_) | (refine Gd.pre ?_; first | refine Gd.run rfl ?_ | refine Gd.pass rfl ?_) | (refine Br.pre ?_; first | refine Br.tt rfl ?_) | (refine Ck.pre ?_; first | refine Ck.drawn (by kernel_rfl) ?_ | refine Ck.mk rfl ?_) | (refine LetL.pre ?_; first | refine LetL.mk (ty := chy) [.agg [_, _, _, _]] rfl ?_)))); (try (conv => whnf)))
          refine LoopN.weak ?sw13 hnx
          case sw13 => exact SW.mk _root_.id rfl rfl rfl ⟨.refl _, .refl _, .refl _, .refl _, .refl _, .refl _, .refl _, .refl _, VLe2.int (by omega), trivial⟩ (haveV.one rfl trivial)
        by_cases d3 : cv ≤ b.ver
        case pos =>
          replace hnx := hnx b (by rw [b2S, if_pos (.inr (.inr d3))])
          obtain ⟨school', id', ver', from', name', ⟨k', n', m', st', l'⟩, total', own', age', ex'⟩ := b
          ((repeat ((conv => whnf); (first | (refine LetN.pre ?_; first | ((conv => arg 1; whnf); refine LetN.mk ?_)) | (refine As.pre ?_; first | refine As.mk rfl ?_ | (refine As.mk ?_ ?_; · ((repeat' (refine andT ?_ ?_)) <;> (first | rfl | assumption | exact decide_eq_true (by omega) | exact decide_eq_true (by dsimp only; omega) | exact decide_eq_true (by simp; omega) | (simp; done))))) | (refine LetV.pre ?_; first | refine LetV.mk (t := 29) _ hlc ?_ | refine LetV.mk (.sc (.int _ _)) rfl ?_ | refine LetV.mk (.agg _) rfl ?_) | (refine LetI.pre ?_; first | refine LetI.wrap (by omega) (by omega) ?_) | (refine LetB.pre ?_; first | refine LetB.dect (by omega) ?_ | refine LetB.decf (by omega) ?_ | refine LetB.bnef (by omega) ?_) | (refine Gd.pre ?_; first | refine Gd.run rfl ?_) | (refine Br.pre ?_; first | refine Br.tt rfl ?_) | (refine Ck.pre ?_; first | refine Ck.drawn (by kernel_rfl) ?_ | refine Ck.mk rfl ?_) | (refine LetL.pre ?_; first | refine LetL.mk (ty := chy) [.agg [_, _, _, _]] rfl ?_)))); (try (conv => whnf)))
          refine LoopN.weak ?sw14 hnx
          case sw14 => exact SW.mk _root_.id rfl rfl rfl ⟨.refl _, .refl _, .refl _, .refl _, .refl _, .refl _, .refl _, .refl _, VLe2.int (by omega), trivial⟩ (haveV.one rfl trivial)
        have hq : b2S B s i day b ⟨cp, cv, cb, co⟩ = if (ofP s i cv B).2 = true ∧ (ofP s i cv B).1.from_ ≤ co then (ofP s i cv B).1 else b := if_neg (by dsimp only; omega)
        rw [hq] at hnx
        clear hq
        obtain ⟨school', id', ver', from', name', ⟨k', n', m', st', l'⟩, total', own', age', ex'⟩ := b
        ((repeat ((conv => whnf); (first | (refine LetN.pre ?_; first | ((conv => arg 1; whnf); refine LetN.mk ?_)) | (refine As.pre ?_; first | refine As.mk rfl ?_ | (refine As.mk ?_ ?_; · ((repeat' (refine andT ?_ ?_)) <;> (first | rfl | assumption | exact decide_eq_true (by omega) | exact decide_eq_true (by dsimp only; omega) | exact decide_eq_true (by simp; omega) | (simp; done))))) | (refine LetV.pre ?_; first | refine LetV.mk (t := 29) _ hlc ?_ | refine LetV.mk (.sc (.int _ _)) rfl ?_ | refine LetV.mk (.agg _) rfl ?_) | (refine LetI.pre ?_; first | refine LetI.mk _ rfl ?_) | (refine LetB.pre ?_; first | refine LetB.dect (by omega) ?_ | refine LetB.decf (by omega) ?_ | refine LetB.bnef (by omega) ?_) | (refine Gd.pre ?_; first | refine Gd.run rfl ?_) | (refine Br.pre ?_; first | refine Br.tt rfl ?_ | refine Br.ff rfl ?_) | (refine Ck.pre ?_; first | refine Ck.drawn (by kernel_rfl) ?_ | refine Ck.mk rfl ?_) | (refine LetL.pre ?_; first | refine LetL.mk (ty := chy) [.agg [_, _, _, _]] rfl ?_)))); (try (conv => whnf)))
        refine LoopN.weak (s1 := bi3S B C s i day j ⟨school', id', ver', from', name', .mk k' n' m' st' l', total', own', age', ex'⟩ ⟨cp, cv, cb, co⟩ 0) ?sw15 ?_
        case sw15 => exact SW.mk _root_.id rfl rfl rfl ⟨.refl _, .refl _, .refl _, .refl _, .refl _, .refl _, .refl _, .refl _, .refl _, .refl _, .refl _, VLe2.int (by rw [hmB]), .refl _, trivial⟩ (haveV.row rfl rfl (haveV.row rfl rfl trivial))
        refine LoopN.ind T_ok mixed (S := bi3S B C s i day j ⟨school', id', ver', from', name', .mk k' n' m' st' l', total', own', age', ex'⟩ ⟨cp, cv, cb, co⟩) (fun k => B.length - k) (fun k => k ≤ B.length ∧ ofP s i cv B = ofP s i cv (B.drop k)) (fun _ => rfl) (fun k hk ih => ?_) 0 ⟨Nat.zero_le _, rfl⟩
        obtain ⟨g1, g2⟩ := hk
        by_cases hlk : k < B.length
        case neg =>
          rw [ofP_end hlk] at g2
          clear ih
          replace hnx := hnx _ (by rw [g2, if_neg (by simp)])
          ((repeat ((conv => whnf); (first | (refine As.pre ?_; first | refine As.mk rfl ?_) | (refine LetI.pre ?_; first | refine LetI.wrap (by omega) (by omega) ?_) | (refine LetB.pre ?_; first | refine LetB.decf (by omega) ?_) | (refine Br.pre ?_; first | refine Br.ff rfl ?_) | (refine Ck.pre ?_; first | refine Ck.mk rfl ?_)))); (try (conv => whnf)))
          refine LoopN.weak ?sw16 hnx
          case sw16 => exact SW.mk _root_.id rfl rfl rfl ⟨.refl _, .refl _, .refl _, .refl _, .refl _, .refl _, .refl _, .refl _, VLe2.int (by omega), trivial⟩ (haveV.one rfl trivial)
        have hld := ld_pg hlk
        rw [ofP_at hlk] at g2
        have hin := fun g => ih (k + 1) ⟨hlk, g⟩ (by omega)
        clear ih
        generalize ofP s i cv (B.drop (k + 1)) = r at g2 hin
        generalize B.getD k p0 = y at hld g2
        obtain ⟨school, id, ver, from_, name, ⟨k1, n, m, st, l⟩, total, own, age, ex⟩ := y
        dsimp only at g2
        by_cases e1 : school = s
        case neg =>
          have hkb : true = !(school == s && (id == i && true)) := by simp [e1]
          replace hin := hin (by rw [g2, if_neg (fun g => e1 g.1)])
          ((repeat ((conv => whnf); (first | (refine LetN.pre ?_; first | ((conv => arg 1; whnf); refine LetN.mk ?_)) | (refine As.pre ?_; first | refine As.mk rfl ?_ | (refine As.mk ?_ ?_; · ((repeat' (refine andT ?_ ?_)) <;> (first | rfl | assumption | exact decide_eq_true (by omega) | exact decide_eq_true (by dsimp only; omega) | exact decide_eq_true (by simp; omega) | (simp; done))))) | (refine LetV.pre ?_; first | refine LetV.mk (t := 28) _ hld ?_ | refine LetV.mk (.sc (.int _ _)) rfl ?_ | refine LetV.mk (.agg _) rfl ?_) | (refine LetI.pre ?_; first | refine LetI.wrap (by omega) (by omega) ?_) | (refine LetB.pre ?_; first | refine LetB.mk (o := some .neq) _ hkb ?_ | refine LetB.dect (by omega) ?_) | (refine Gd.pre ?_; first | refine Gd.pass rfl ?_) | (refine Br.pre ?_; first | refine Br.tt rfl ?_) | (refine Ck.pre ?_; first | refine Ck.mk rfl ?_) | (refine LetL.pre ?_; first | refine LetL.mk (ty := pty) [.agg [_, _, _, _, _, _, _, _, _, _, _, _, _, _]] rfl ?_)))); (try (conv => whnf)))
          refine LoopN.weak ?sw17 hin
          case sw17 => exact SW.mk _root_.id rfl rfl rfl ⟨.refl _, .refl _, .refl _, .refl _, .refl _, .refl _, .refl _, .refl _, .refl _, .refl _, .refl _, .refl _, VLe2.int (by omega), trivial⟩ (haveV.row rfl rfl (haveV.row rfl rfl trivial))
        by_cases e2 : id = i
        case neg =>
          have hkb : true = !(school == s && (id == i && true)) := by simp [e2]
          replace hin := hin (by rw [g2, if_neg (fun g => e2 g.2.1)])
          ((repeat ((conv => whnf); (first | (refine LetN.pre ?_; first | ((conv => arg 1; whnf); refine LetN.mk ?_)) | (refine As.pre ?_; first | refine As.mk rfl ?_ | (refine As.mk ?_ ?_; · ((repeat' (refine andT ?_ ?_)) <;> (first | rfl | assumption | exact decide_eq_true (by omega) | exact decide_eq_true (by dsimp only; omega) | exact decide_eq_true (by simp; omega) | (simp; done))))) | (refine LetV.pre ?_; first | refine LetV.mk (t := 28) _ hld ?_ | refine LetV.mk (.sc (.int _ _)) rfl ?_ | refine LetV.mk (.agg _) rfl ?_) | (refine LetI.pre ?_; first | refine LetI.wrap (by omega) (by omega) ?_) | (refine LetB.pre ?_; first | refine LetB.mk (o := some .neq) _ hkb ?_ | refine LetB.dect (by omega) ?_) | (refine Gd.pre ?_; first | refine Gd.pass rfl ?_) | (refine Br.pre ?_; first | refine Br.tt rfl ?_) | (refine Ck.pre ?_; first | refine Ck.mk rfl ?_) | (refine LetL.pre ?_; first | refine LetL.mk (ty := pty) [.agg [_, _, _, _, _, _, _, _, _, _, _, _, _, _]] rfl ?_)))); (try (conv => whnf)))
          refine LoopN.weak ?sw18 hin
          case sw18 => exact SW.mk _root_.id rfl rfl rfl ⟨.refl _, .refl _, .refl _, .refl _, .refl _, .refl _, .refl _, .refl _, .refl _, .refl _, .refl _, .refl _, VLe2.int (by omega), trivial⟩ (haveV.row rfl rfl (haveV.row rfl rfl trivial))
        have hkb : false = !(school == s && (id == i && true)) := by simp [e1, e2]
        by_cases e3 : ver = cv
        case neg =>
          replace hin := hin (by rw [g2, if_neg (fun g => e3 g.2.2)])
          ((repeat ((conv => whnf); (first | (refine LetN.pre ?_; first | ((conv => arg 1; whnf); refine LetN.mk ?_)) | (refine As.pre ?_; first | refine As.mk rfl ?_ | (refine As.mk ?_ ?_; · ((repeat' (refine andT ?_ ?_)) <;> (first | rfl | assumption | exact decide_eq_true (by omega) | exact decide_eq_true (by dsimp only; omega) | exact decide_eq_true (by simp; omega) | (simp; done))))) | (refine LetV.pre ?_; first | refine LetV.mk (t := 28) _ hld ?_ | refine LetV.mk (.sc (.int _ _)) rfl ?_ | refine LetV.mk (.agg _) rfl ?_) | (refine LetI.pre ?_; first | refine LetI.wrap (by omega) (by omega) ?_) | (refine LetB.pre ?_; first | refine LetB.mk (o := some .neq) _ hkb ?_ | refine LetB.dect (by omega) ?_ | refine LetB.bnet (by omega) ?_) | (refine Gd.pre ?_; first | refine Gd.run rfl ?_) | (refine Br.pre ?_; first | refine Br.tt rfl ?_) | (refine Ck.pre ?_; first | refine Ck.mk rfl ?_) | (refine LetL.pre ?_; first | refine LetL.mk (ty := pty) [.agg [_, _, _, _, _, _, _, _, _, _, _, _, _, _]] rfl ?_)))); (try (conv => whnf)))
          refine LoopN.weak ?sw19 hin
          case sw19 => exact SW.mk _root_.id rfl rfl rfl ⟨.refl _, .refl _, .refl _, .refl _, .refl _, .refl _, .refl _, .refl _, .refl _, .refl _, .refl _, .refl _, VLe2.int (by omega), trivial⟩ (haveV.row rfl rfl (haveV.row rfl rfl trivial))
        rw [if_pos ⟨e1, e2, e3⟩] at g2
        clear hin
        by_cases e4 : from_ ≤ co
        · replace hnx := hnx _ (by rw [g2, if_pos ⟨rfl, e4⟩])
          ((repeat ((conv => whnf); (first | (refine LetN.pre ?_; first | ((conv => arg 1; whnf); refine LetN.mk ?_)) | (refine As.pre ?_; first | refine As.mk rfl ?_ | (refine As.mk ?_ ?_; · ((repeat' (refine andT ?_ ?_)) <;> (first | rfl | assumption | exact decide_eq_true (by omega) | exact decide_eq_true (by dsimp only; omega) | exact decide_eq_true (by simp; omega) | (simp; done))))) | (refine LetV.pre ?_; first | refine LetV.mk (t := 28) _ hld ?_ | refine LetV.mk (.sc (.int _ _)) rfl ?_ | refine LetV.mk (.agg _) rfl ?_) | (refine LetI.pre ?_; first | refine LetI.wrap (by omega) (by omega) ?_) | (refine LetB.pre ?_; first | refine LetB.mk (o := some .neq) _ hkb ?_ | refine LetB.dect (by omega) ?_ | refine LetB.bnef (by omega) ?_) | (refine Gd.pre ?_; first | refine Gd.run rfl ?_) | (refine Br.pre ?_; first | refine Br.tt rfl ?_ | refine Br.ff rfl ?_) | (refine Ck.pre ?_; first | refine Ck.mk rfl ?_) | (refine LetL.pre ?_; first | refine LetL.mk (ty := pty) [.agg [_, _, _, _, _, _, _, _, _, _, _, _, _, _]] rfl ?_)))); (try (conv => whnf)))
          refine LoopN.weak ?sw20 hnx
          case sw20 => exact SW.mk _root_.id rfl rfl rfl ⟨.refl _, .refl _, .refl _, .refl _, .refl _, .refl _, .refl _, .refl _, VLe2.int (by omega), trivial⟩ (haveV.one rfl trivial)
        · replace hnx := hnx _ (by rw [g2, if_neg (fun g => e4 g.2)])
          ((repeat ((conv => whnf); (first | (refine LetN.pre ?_; first | ((conv => arg 1; whnf); refine LetN.mk ?_)) | (refine As.pre ?_; first | refine As.mk rfl ?_ | (refine As.mk ?_ ?_; · ((repeat' (refine andT ?_ ?_)) <;> (first | rfl | assumption | exact decide_eq_true (by omega) | exact decide_eq_true (by dsimp only; omega) | exact decide_eq_true (by simp; omega) | (simp; done))))) | (refine LetV.pre ?_; first | refine LetV.mk (t := 28) _ hld ?_ | refine LetV.mk (.sc (.int _ _)) rfl ?_ | refine LetV.mk (.agg _) rfl ?_) | (refine LetI.pre ?_; first | refine LetI.wrap (by omega) (by omega) ?_) | (refine LetB.pre ?_; first | refine LetB.mk (o := some .neq) _ hkb ?_ | refine LetB.dect (by omega) ?_ | refine LetB.decf (by omega) ?_ | refine LetB.bnef (by omega) ?_) | (refine Gd.pre ?_; first | refine Gd.run rfl ?_) | (refine Br.pre ?_; first | refine Br.tt rfl ?_ | refine Br.ff rfl ?_) | (refine Ck.pre ?_; first | refine Ck.mk rfl ?_) | (refine LetL.pre ?_; first | refine LetL.mk (ty := pty) [.agg [_, _, _, _, _, _, _, _, _, _, _, _, _, _]] rfl ?_)))); (try (conv => whnf)))
          refine LoopN.weak ?sw21 hnx
          case sw21 => exact SW.mk _root_.id rfl rfl rfl ⟨.refl _, .refl _, .refl _, .refl _, .refl _, .refl _, .refl _, .refl _, VLe2.int (by omega), trivial⟩ (haveV.one rfl trivial)
  have hld := ld_pg hlt
  have hbt := b1_take hlt s i be
  rw [← h2] at hbt
  have hnx := fun q (hq : q = b1S s i be (sm, bo) (B.getD j p0)) => ih (j + 1, q) ⟨hlt, hq.trans hbt.symm⟩ (by show B.length - (j + 1) < B.length - j; omega)
  clear ih h h2 hbt
  generalize B.getD j p0 = y at hld hnx
  obtain ⟨school, id, ver, from_, name, ⟨k, n, m, st, l⟩, total, own, age, ex⟩ := y
  by_cases c1 : school = s
  case neg =>
    have hkb : true = !(school == s && (id == i && true)) := by simp [c1]
    replace hnx := hnx (sm, bo) (by rw [b1S, if_neg (fun g => c1 g.1)])
    cases bo with
    | none =>
      ((repeat ((conv => whnf); (first | (refine LetN.pre ?_; first | ((conv => arg 1; whnf); refine LetN.mk ?_)) | (refine As.pre ?_; first | refine As.mk rfl ?_ | (refine As.mk ?_ ?_; · ((repeat' (refine andT ?_ ?_)) <;> (first | rfl | assumption | exact decide_eq_true (by omega) | exact decide_eq_true (by dsimp only; omega) | exact decide_eq_true (by simp; omega) | (simp; done))))) | (refine LetV.pre ?_; first | refine LetV.mk (t := 28) _ hld ?_ | refine LetV.mk (.sc (.int _ _)) rfl ?_ | refine LetV.mk (.agg _) rfl ?_) | (refine LetI.pre ?_; first | refine LetI.wrap (by omega) (by omega) ?_) | (refine LetB.pre ?_; first | refine LetB.mk (o := some .neq) _ hkb ?_ | refine LetB.dect (by omega) ?_) | (refine Br.pre ?_; first | refine Br.tt rfl ?_) | (refine Ck.pre ?_; first | refine Ck.mk rfl ?_) | (refine LetL.pre ?_; first | refine LetL.mk (ty := pty) [.agg [_, _, _, _, _, _, _, _, _, _, _, _, _, _]] rfl ?_)))); (try (conv => whnf)))
      refine LoopN.weak ?sw2 hnx
      case sw2 => exact SW.mk _root_.id rfl rfl rfl ⟨.refl _, .refl _, .refl _, .refl _, .refl _, .refl _, .refl _, .refl _, .refl _, .refl _, .refl _, VLe2.int (by omega), trivial⟩ (haveV.one rfl trivial)
    | some b =>
      ((repeat ((conv => whnf); (first | (refine LetN.pre ?_; first | ((conv => arg 1; whnf); refine LetN.mk ?_)) | (refine As.pre ?_; first | refine As.mk rfl ?_ | (refine As.mk ?_ ?_; · ((repeat' (refine andT ?_ ?_)) <;> (first | rfl | assumption | exact decide_eq_true (by omega) | exact decide_eq_true (by dsimp only; omega) | exact decide_eq_true (by simp; omega) | (simp; done))))) | (refine LetV.pre ?_; first | refine LetV.mk (t := 28) _ hld ?_ | refine LetV.mk (.sc (.int _ _)) rfl ?_ | refine LetV.mk (.agg _) rfl ?_) | (refine LetI.pre ?_; first | refine LetI.wrap (by omega) (by omega) ?_) | (refine LetB.pre ?_; first | refine LetB.mk (o := some .neq) _ hkb ?_ | refine LetB.dect (by omega) ?_) | (refine Br.pre ?_; first | refine Br.tt rfl ?_) | (refine Ck.pre ?_; first | refine Ck.mk rfl ?_) | (refine LetL.pre ?_; first | refine LetL.mk (ty := pty) [.agg [_, _, _, _, _, _, _, _, _, _, _, _, _, _]] rfl ?_)))); (try (conv => whnf)))
      refine LoopN.weak ?sw3 hnx
      case sw3 => exact SW.mk _root_.id rfl rfl rfl ⟨.refl _, .refl _, .refl _, .refl _, .refl _, .refl _, .refl _, .refl _, .refl _, .refl _, .refl _, VLe2.int (by omega), trivial⟩ (haveV.one rfl trivial)
  by_cases c2 : id = i
  case neg =>
    have hkb : true = !(school == s && (id == i && true)) := by simp [c2]
    replace hnx := hnx (sm, bo) (by rw [b1S, if_neg (fun g => c2 g.2)])
    cases bo with
    | none =>
      ((repeat ((conv => whnf); (first | (refine LetN.pre ?_; first | ((conv => arg 1; whnf); refine LetN.mk ?_)) | (refine As.pre ?_; first | refine As.mk rfl ?_ | (refine As.mk ?_ ?_; · ((repeat' (refine andT ?_ ?_)) <;> (first | rfl | assumption | exact decide_eq_true (by omega) | exact decide_eq_true (by dsimp only; omega) | exact decide_eq_true (by simp; omega) | (simp; done))))) | (refine LetV.pre ?_; first | refine LetV.mk (t := 28) _ hld ?_ | refine LetV.mk (.sc (.int _ _)) rfl ?_ | refine LetV.mk (.agg _) rfl ?_) | (refine LetI.pre ?_; first | refine LetI.wrap (by omega) (by omega) ?_) | (refine LetB.pre ?_; first | refine LetB.mk (o := some .neq) _ hkb ?_ | refine LetB.dect (by omega) ?_) | (refine Br.pre ?_; first | refine Br.tt rfl ?_) | (refine Ck.pre ?_; first | refine Ck.mk rfl ?_) | (refine LetL.pre ?_; first | refine LetL.mk (ty := pty) [.agg [_, _, _, _, _, _, _, _, _, _, _, _, _, _]] rfl ?_)))); (try (conv => whnf)))
      refine LoopN.weak ?sw4 hnx
      case sw4 => exact SW.mk _root_.id rfl rfl rfl ⟨.refl _, .refl _, .refl _, .refl _, .refl _, .refl _, .refl _, .refl _, .refl _, .refl _, .refl _, VLe2.int (by omega), trivial⟩ (haveV.one rfl trivial)
    | some b =>
      ((repeat ((conv => whnf); (first | (refine LetN.pre ?_; first | ((conv => arg 1; whnf); refine LetN.mk ?_)) | (refine As.pre ?_; first | refine As.mk rfl ?_ | (refine As.mk ?_ ?_; · ((repeat' (refine andT ?_ ?_)) <;> (first | rfl | assumption | exact decide_eq_true (by omega) | exact decide_eq_true (by dsimp only; omega) | exact decide_eq_true (by simp; omega) | (simp; done))))) | (refine LetV.pre ?_; first | refine LetV.mk (t := 28) _ hld ?_ | refine LetV.mk (.sc (.int _ _)) rfl ?_ | refine LetV.mk (.agg _) rfl ?_) | (refine LetI.pre ?_; first | refine LetI.wrap (by omega) (by omega) ?_) | (refine LetB.pre ?_; first | refine LetB.mk (o := some .neq) _ hkb ?_ | refine LetB.dect (by omega) ?_) | (refine Br.pre ?_; first | refine Br.tt rfl ?_) | (refine Ck.pre ?_; first | refine Ck.mk rfl ?_) | (refine LetL.pre ?_; first | refine LetL.mk (ty := pty) [.agg [_, _, _, _, _, _, _, _, _, _, _, _, _, _]] rfl ?_)))); (try (conv => whnf)))
      refine LoopN.weak ?sw5 hnx
      case sw5 => exact SW.mk _root_.id rfl rfl rfl ⟨.refl _, .refl _, .refl _, .refl _, .refl _, .refl _, .refl _, .refl _, .refl _, .refl _, .refl _, VLe2.int (by omega), trivial⟩ (haveV.one rfl trivial)
  have hkb : false = !(school == s && (id == i && true)) := by simp [c1, c2]
  by_cases c3 : from_ ≤ be
  case neg =>
    replace hnx := hnx (true, bo) (by rw [b1S, if_pos ⟨c1, c2⟩, if_neg c3])
    cases bo with
    | none =>
      ((repeat ((conv => whnf); (first | (refine LetN.pre ?_; first | ((conv => arg 1; whnf); refine LetN.mk ?_)) | (refine As.pre ?_; first | refine As.mk rfl ?_ | (refine As.mk ?_ ?_; · ((repeat' (refine andT ?_ ?_)) <;> (first | rfl | assumption | exact decide_eq_true (by omega) | exact decide_eq_true (by dsimp only; omega) | exact decide_eq_true (by simp; omega) | (simp; done))))) | (refine LetV.pre ?_; first | refine LetV.mk (t := 28) _ hld ?_ | refine LetV.mk (.sc (.int _ _)) rfl ?_ | refine LetV.mk (.agg _) rfl ?_) | (refine LetI.pre ?_; first | refine LetI.wrap (by omega) (by omega) ?_) | (refine LetB.pre ?_; first | refine LetB.mk (o := some .neq) _ hkb ?_ | refine LetB.dect (by omega) ?_ | refine LetB.decf (by omega) ?_) | (refine Gd.pre ?_; first | refine Gd.pass rfl ?_) | (refine Br.pre ?_; first | refine Br.tt rfl ?_ | refine Br.ff rfl ?_) | (refine Ck.pre ?_; first | refine Ck.drawn (by kernel_rfl) ?_ | refine Ck.mk rfl ?_) | (refine LetL.pre ?_; first | refine LetL.mk (ty := pty) [.agg [_, _, _, _, _, _, _, _, _, _, _, _, _, _]] rfl ?_)))); (try (conv => whnf)))
      refine LoopN.weak ?sw6 hnx
      case sw6 => exact SW.mk _root_.id rfl rfl rfl ⟨.refl _, .refl _, .refl _, .refl _, .refl _, .refl _, .refl _, .refl _, .refl _, .refl _, .refl _, VLe2.int (by omega), trivial⟩ (haveV.one rfl trivial)
    | some b =>
      ((repeat ((conv => whnf); (first | (refine LetN.pre ?_; first | ((conv => arg 1; whnf); refine LetN.mk ?_)) | (refine As.pre ?_; first | refine As.mk rfl ?_ | (refine As.mk ?_ ?_; · ((repeat' (refine andT ?_ ?_)) <;> (first | rfl | assumption | exact decide_eq_true (by omega) | exact decide_eq_true (by dsimp only; omega) | exact decide_eq_true (by simp; omega) | (simp; done))))) | (refine LetV.pre ?_; first | refine LetV.mk (t := 28) _ hld ?_ | refine LetV.mk (.sc (.int _ _)) rfl ?_ | refine LetV.mk (.agg _) rfl ?_) | (refine LetI.pre ?_; first | refine LetI.wrap (by omega) (by omega) ?_) | (refine LetB.pre ?_; first | refine LetB.mk (o := some .neq) _ hkb ?_ | refine LetB.dect (by omega) ?_ | refine LetB.decf (by omega) ?_) | (refine Gd.pre ?_; first | refine Gd.pass rfl ?_) | (refine Br.pre ?_; first | refine Br.tt rfl ?_ | refine Br.ff rfl ?_) | (refine Ck.pre ?_; first | refine Ck.drawn (by kernel_rfl) ?_ | refine Ck.mk rfl ?_) | (refine LetL.pre ?_; first | refine LetL.mk (ty := pty) [.agg [_, _, _, _, _, _, _, _, _, _, _, _, _, _]] rfl ?_)))); (try (conv => whnf)))
      refine LoopN.weak ?sw7 hnx
      case sw7 => exact SW.mk _root_.id rfl rfl rfl ⟨.refl _, .refl _, .refl _, .refl _, .refl _, .refl _, .refl _, .refl _, .refl _, .refl _, .refl _, VLe2.int (by omega), trivial⟩ (haveV.one rfl trivial)
  cases bo with
  | none =>
    replace hnx := hnx (true, some ⟨school, id, ver, from_, name, .mk k n m st l, total, own, age, ex⟩) (by rw [b1S, if_pos ⟨c1, c2⟩, if_pos c3])
    ((repeat ((conv => whnf); (first | (refine LetN.pre ?_; first | ((conv => arg 1; whnf); refine LetN.mk ?_)) | (refine As.pre ?_; first | refine As.mk rfl ?_ | (refine As.mk ?_ ?_; · ((repeat' (refine andT ?_ ?_)) <;> (first | rfl | assumption | exact decide_eq_true (by omega) | exact decide_eq_true (by dsimp only; omega) | exact decide_eq_true (by simp; omega) | (simp; done))))) | (refine LetV.pre ?_; first | refine LetV.mk (t := 28) _ hld ?_ | refine LetV.mk (.sc (.int _ _)) rfl ?_ | refine LetV.mk (.agg _) rfl ?_) | (refine LetI.pre ?_; first | refine LetI.wrap (by omega) (by omega) ?_) | (refine LetB.pre ?_; first | refine LetB.tt rfl ?_ | refine LetB.mk (o := some .neq) _ hkb ?_ | refine LetB.dect (by omega) ?_) | (refine Gd.pre ?_; first | refine Gd.run rfl ?_ | refine Gd.pass rfl ?_) | (refine Br.pre ?_; first | refine Br.tt rfl ?_ | refine Br.ff rfl ?_) | (refine Ck.pre ?_; first | refine Ck.drawn (by kernel_rfl) ?_ | refine Ck.mk rfl ?_) | (refine LetL.pre ?_; first | refine LetL.mk (ty := pty) [.agg [_, _, _, _, _, _, _, _, _, _, _, _, _, _]] rfl ?_)))); (try (conv => whnf)))
    refine LoopN.weak ?sw8 hnx
    case sw8 => exact SW.mk _root_.id rfl rfl rfl ⟨.refl _, .refl _, .refl _, .refl _, .refl _, .refl _, .refl _, .refl _, .refl _, .refl _, .refl _, VLe2.int (by omega), trivial⟩ (haveV.one rfl trivial)
  | some b =>
    by_cases c4 : b.ver < ver
    · replace hnx := hnx (true, some ⟨school, id, ver, from_, name, .mk k n m st l, total, own, age, ex⟩) (by rw [b1S, if_pos ⟨c1, c2⟩, if_pos c3]; dsimp only; rw [if_pos c4])
      obtain ⟨school', id', ver', from', name', ⟨k', n', m', st', l'⟩, total', own', age', ex'⟩ := b
      ((repeat ((conv => whnf); (first | (refine LetN.pre ?_; first | ((conv => arg 1; whnf); refine LetN.mk ?_)) | (refine As.pre ?_; first | refine As.mk rfl ?_ | (refine As.mk ?_ ?_; · ((repeat' (refine andT ?_ ?_)) <;> (first | rfl | assumption | exact decide_eq_true (by omega) | exact decide_eq_true (by dsimp only; omega) | exact decide_eq_true (by simp; omega) | (simp; done))))) | (refine LetV.pre ?_; first | refine LetV.mk (t := 28) _ hld ?_ | refine LetV.mk (.sc (.int _ _)) rfl ?_ | refine LetV.mk (.agg _) rfl ?_) | (refine LetI.pre ?_; first | refine LetI.wrap (by omega) (by omega) ?_) | (refine LetB.pre ?_; first | refine LetB.ff rfl ?_ | refine LetB.mk (o := some .neq) _ hkb ?_ | refine LetB.dect (by omega) ?_) | (refine Gd.pre ?_; first | refine Gd.run rfl ?_) | (refine Br.pre ?_; first | refine Br.tt rfl ?_ | refine Br.ff rfl ?_) | (refine Ck.pre ?_; first | refine Ck.drawn (by kernel_rfl) ?_ | refine Ck.mk rfl ?_) | (refine LetL.pre ?_; first | refine LetL.mk (ty := pty) [.agg [_, _, _, _, _, _, _, _, _, _, _, _, _, _]] rfl ?_)))); (try (conv => whnf)))
      refine LoopN.weak ?sw9 hnx
      case sw9 => exact SW.mk _root_.id rfl rfl rfl ⟨.refl _, .refl _, .refl _, .refl _, .refl _, .refl _, .refl _, .refl _, .refl _, .refl _, .refl _, VLe2.int (by omega), trivial⟩ (haveV.one rfl trivial)
    · replace hnx := hnx (true, some b) (by rw [b1S, if_pos ⟨c1, c2⟩, if_pos c3]; dsimp only; rw [if_neg c4])
      obtain ⟨school', id', ver', from', name', ⟨k', n', m', st', l'⟩, total', own', age', ex'⟩ := b
      ((repeat ((conv => whnf); (first | (refine LetN.pre ?_; first | ((conv => arg 1; whnf); refine LetN.mk ?_)) | (refine As.pre ?_; first | refine As.mk rfl ?_ | (refine As.mk ?_ ?_; · ((repeat' (refine andT ?_ ?_)) <;> (first | rfl | assumption | exact decide_eq_true (by omega) | exact decide_eq_true (by dsimp only; omega) | exact decide_eq_true (by simp; omega) | (simp; done))))) | (refine LetV.pre ?_; first | refine LetV.mk (t := 28) _ hld ?_ | refine LetV.mk (.sc (.int _ _)) rfl ?_ | refine LetV.mk (.agg _) rfl ?_) | (refine LetI.pre ?_; first | refine LetI.wrap (by omega) (by omega) ?_) | (refine LetB.pre ?_; first | refine LetB.ff rfl ?_ | refine LetB.mk (o := some .neq) _ hkb ?_ | refine LetB.dect (by omega) ?_ | refine LetB.decf (by omega) ?_) | (refine Gd.pre ?_; first | refine Gd.run rfl ?_) | (refine Br.pre ?_; first | refine Br.tt rfl ?_ | refine Br.ff rfl ?_) | (refine Ck.pre ?_; first | refine Ck.drawn (by kernel_rfl) ?_ | refine Ck.mk rfl ?_) | (refine LetL.pre ?_; first | refine LetL.mk (ty := pty) [.agg [_, _, _, _, _, _, _, _, _, _, _, _, _, _]] rfl ?_)))); (try (conv => whnf)))
      refine LoopN.weak ?sw10 hnx
      case sw10 => exact SW.mk _root_.id rfl rfl rfl ⟨.refl _, .refl _, .refl _, .refl _, .refl _, .refl _, .refl _, .refl _, .refl _, .refl _, .refl _, VLe2.int (by omega), trivial⟩ (haveV.one rfl trivial)
end Pb
end Go.Proofs.Ytjnmbmdplchfkaa
