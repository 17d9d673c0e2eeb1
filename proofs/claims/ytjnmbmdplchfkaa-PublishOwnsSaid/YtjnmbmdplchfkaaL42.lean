/- publish: parts of the proof, DpublishPA DpublishPB DpublishPC DpublishPD DpublishPE DpublishPF DpublishPG DpublishPH DpublishPI DpublishPJ DpublishPK. -/
import Derived.Test.YtjnmbmdplchfkaaL35
import Derived.Test.YtjnmbmdplchfkaaAmFZ
import Derived.Shelf.GgClosure.StringsIndexFunc
set_option linter.all false
namespace Go.Proofs.Ytjnmbmdplchfkaa
open Go.Proofs.Ytjnmbmdplchfkaa.Am
set_option maxRecDepth 100000
variable [Lo]
namespace Pb
/-! ### Requirements, as trees -/
abbrev int (a : Int) : AV := .sc (.int .i64 a)
abbrev bool (b : Bool) : AV := .sc (.bool b)
abbrev str (s : ByteArray) : AV := .sc (.string s)
abbrev Co := Int × ByteArray
abbrev coA (c : Co) : AV := .agg [int c.1, str c.2]
inductive Nd where
  | mk (kind n min : Int) (set : List Co) (l : List Nd)
mutual
def nd : Nd → AV
  | .mk k n m s l => .agg [int k, int n, int m, .ro {} 2 (s.map coA), .ro {} 5 (ndL l)]
def ndL : List Nd → List AV
  | [] => []
  | x :: l => nd x :: ndL l
end
theorem ndL_map : ∀ l : List Nd, ndL l = l.map nd
  | [] => rfl
  | x :: l => by rw [ndL, ndL_map l]; rfl
theorem nd_mk (k n m : Int) (s : List Co) (l : List Nd) : nd (.mk k n m s l) = .agg [int k, int n, int m, .ro {} 2 (s.map coA), .ro {} 5 (l.map nd)] := by rw [nd, ndL_map]
def Nd.kind : Nd → Int | .mk k _ _ _ _ => k
def Nd.n : Nd → Int | .mk _ n _ _ _ => n
def Nd.min : Nd → Int | .mk _ _ m _ _ => m
def Nd.set : Nd → List Co | .mk _ _ _ s _ => s
def Nd.l : Nd → List Nd | .mk _ _ _ _ l => l
mutual
/-- The nodes, in order. -/
def Nd.nodes : Nd → List Nd
  | .mk k n m s l => .mk k n m s l :: Nd.nodesL l
def Nd.nodesL : List Nd → List Nd
  | [] => []
  | x :: l => x.nodes ++ Nd.nodesL l
end
mutual
/-- The deepest node: of this node at a depth, and what is known. -/
def Nd.deep : Nd → Nat → Int → Int
  | .mk _ _ _ _ l, d, a => Nd.deepL l (d + 1) (max a d)
def Nd.deepL : List Nd → Nat → Int → Int
  | [], _, a => a
  | x :: l, d, a => Nd.deepL l d (x.deep d a)
end
mutual
def Nd.hgt : Nd → Nat
  | .mk _ _ _ _ l => Nd.hgtL l + 1
def Nd.hgtL : List Nd → Nat
  | [] => 0
  | x :: l => max x.hgt (Nd.hgtL l)
end
abbrev nd0 : Nd := .mk 0 0 0 [] []
theorem nodes_pos (x : Nd) : 0 < x.nodes.length := by
  cases x; rw [Nd.nodes]; exact Nat.succ_pos _
theorem nodesL_append : ∀ a b : List Nd, Nd.nodesL (a ++ b) = Nd.nodesL a ++ Nd.nodesL b
  | [], b => rfl
  | x :: a, b => by rw [List.cons_append, Nd.nodesL, Nd.nodesL, nodesL_append a b, List.append_assoc]
theorem deepL_append : ∀ (a b : List Nd) (d : Nat) (z : Int), Nd.deepL (a ++ b) d z = Nd.deepL b d (Nd.deepL a d z)
  | [], b, d, z => rfl
  | x :: a, b, d, z => by rw [List.cons_append, Nd.deepL, Nd.deepL, deepL_append a b]
theorem nodesL_ge : ∀ l : List Nd, l.length ≤ (Nd.nodesL l).length
  | [] => Nat.le_refl _
  | x :: l => by
    rw [Nd.nodesL, List.length_append, List.length_cons]
    have := nodes_pos x
    have := nodesL_ge l
    omega
theorem nodesL_mem {l : List Nd} {x : Nd} (h : x ∈ l) : x.nodes.length ≤ (Nd.nodesL l).length := by
  induction l with
  | nil => cases h
  | cons y l ih =>
    rw [Nd.nodesL, List.length_append]
    rcases List.mem_cons.1 h with rfl | h
    · omega
    · have := ih h; omega
theorem hgtL_mem {l : List Nd} {x : Nd} (h : x ∈ l) : x.hgt ≤ Nd.hgtL l := by
  induction l with
  | nil => cases h
  | cons y l ih =>
    rw [Nd.hgtL]
    rcases List.mem_cons.1 h with rfl | h
    · omega
    · have := ih h; omega
theorem nodesL_take {l : List Nd} {k : Nat} (h : k < l.length) : Nd.nodesL (l.take (k + 1)) = Nd.nodesL (l.take k) ++ (l.getD k nd0).nodes := by
  rw [List.take_succ_eq_append_getElem h, nodesL_append, List.getD_eq_getElem?_getD, List.getElem?_eq_getElem h, Nd.nodesL, Nd.nodesL, List.append_nil]; rfl
theorem deepL_take {l : List Nd} {k : Nat} (h : k < l.length) (d : Nat) (z : Int) : Nd.deepL (l.take (k + 1)) d z = (l.getD k nd0).deep d (Nd.deepL (l.take k) d z) := by
  rw [List.take_succ_eq_append_getElem h, deepL_append, List.getD_eq_getElem?_getD, List.getElem?_eq_getElem h, Nd.deepL, Nd.deepL]; rfl
theorem nodesL_take_le (l : List Nd) (k : Nat) : (Nd.nodesL (l.take k)).length ≤ (Nd.nodesL l).length := by
  have e : Nd.nodesL l = Nd.nodesL (l.take k) ++ Nd.nodesL (l.drop k) := by rw [← nodesL_append, List.take_append_drop]
  rw [e, List.length_append]; omega
theorem nd_names (x : Nd) (ok : Nat → Bool) : (nd x).names ok = true := by cases x; rfl
theorem pure_nd : ∀ l : List Nd, AV.namesL (fun _ => false) (l.map nd) = true
  | [] => rfl
  | p :: l => by rw [List.map_cons, AV.namesL, nd_names p, pure_nd l]; rfl
theorem nd_solid (x : Nd) : (nd x).solid = true := by
  induction x using Nd.rec (motive_2 := fun l => AV.solidL (l.map nd) = true) with
  | mk k n m s l ih =>
    rw [nd_mk]
    have hs : ∀ s : List Co, AV.solidL (s.map coA) = true := fun s => by
      induction s with
      | nil => rfl
      | cons c s ih => rw [List.map_cons, AV.solidL, ih]; rfl
    simp only [AV.solid, AV.solidL, hs s, ih]; rfl
  | nil => rfl
  | cons x l h1 h2 => rw [List.map_cons, AV.solidL, h1, h2]; rfl
theorem solid_nd (l : List Nd) : AV.solidL (l.map nd) = true := by
  rw [solidL_all]
  exact List.all_eq_true.2 fun a ha => by obtain ⟨x, _, rfl⟩ := List.mem_map.1 ha; exact nd_solid x
theorem ld_nd {l : List Nd} {k : Nat} (h : k < l.length) : nd (l.getD k nd0) = (l.map nd).getD k (.sc undef) := mapD nd0 h
theorem app_nd (l : List Nd) (e : Nd) (n : Nat) (h : n = l.length) : (l ++ [e]).map nd = (l.map nd).take n ++ [nd e] := by rw [List.take_of_length_le (by simp [h]), List.map_append]; rfl
theorem room_nd {n : Nat} (h : n ≤ 1000000) : room n 72 = true := by
  simp only [room, Bool.and_eq_true, decide_eq_true_eq]
  exact ⟨by omega, rfl⟩
theorem getD_mem' {l : List Nd} {k : Nat} (h : k < l.length) : l.getD k nd0 ∈ l := by
  rw [List.getD_eq_getElem?_getD, List.getElem?_eq_getElem h]; exact List.getElem_mem h
end Pb
end Go.Proofs.Ytjnmbmdplchfkaa
namespace Go.Proofs.Ytjnmbmdplchfkaa
open Go.Proofs.Ytjnmbmdplchfkaa.Am
set_option maxRecDepth 100000
variable [Lo]
namespace Pb
/-! ### The nodes of a requirement -/
abbrev nty : TypeId := 36
abbrev lsX (q n : Nat) : Blk := .row 1 34 [.slm {} q 5 0 n]
abbrev lsB (q : Nat) (L : List Nd) (a : Int) : AH := [(0, lsX q L.length), (1, .row 1 3 [int a]), (q, .row 5 nty (L.map nd))]
abbrev lsC : List AV := [.ptr 0 1 0 0, .ptr 1 1 0 0]
theorem lsN (q : Nat) (L : List Nd) (a : Int) (ok : Nat → Bool) (h : ok q = true) : namesAll ok (lsB q L a) = true := by
  have h1 : namesAll ok [(q, .row 5 nty (L.map nd))] = true := namesAll.row (pure_nd L) rfl
  rw [namesAll, namesAll, h1]
  simp only [Blk.names, AV.namesL, AV.names, h]; rfl
theorem lsV (ρ : Nat → Nat) {Hc : AH} {nx q : Nat} {L : List Nd} {a : Int} (h0 : Hc.get (ρ 0) = some (lsX (ρ q) L.length)) (h1 : Hc.get (ρ 1) = some (.row 1 3 [int a])) (h2 : Hc.get (ρ q) = some (.row 5 nty (L.map nd))) : haveV ρ Hc nx (lsB q L a) :=
  haveV.one h0 (haveV.one h1 (haveV.row (pure_nd _) h2 trivial))
theorem lsA (ρ : Nat → Nat) {Hc : AH} {q : Nat} {L : List Nd} {a : Int} (h0 : Hc.get (ρ 0) = some (lsX (ρ q) L.length)) (h1 : Hc.get (ρ 1) = some (.row 1 3 [int a])) (h2 : Hc.get (ρ q) = some (.row 5 nty (L.map nd))) : haveAll ρ Hc (lsB q L a) :=
  ⟨h0, h1, haveAll.row (pure_nd _) h2 trivial⟩
def wo1 : Nat → Nat | 3 => 4 | i => i
def wo2 : Nat → Nat | 2 => 3 | 3 => 5 | i => i
def wo3 : Nat → Nat | 3 => 5 | i => i
abbrev wkS (l : List Nd) (d : Nat) (y : AV) : Nat × List Nd × Int → AS
  | (j, L, a) => ⟨[(1, int d), (2, y), (15, .ro {} 5 (l.map nd)), (16, int l.length), (17, int j)], lsB 3 L a, 4⟩
set_option maxHeartbeats 1600000 in
set_option maxRecDepth 100000 in
theorem walk_f (lp : Nat) (rc : Loop) (hps : rc.params.size = 2) (ks : List Nat)
    (hy : ∀ (L : List Nd) (a : Int) (x : Nd) (d : Nat), L.length < 10000 → d ≤ 100 → AFunC (CY Try.prog lp rc) 3 [.yl lp rc ks lsC, int d, nd x] (lsB 2 L a) (bool true) (lsB 3 (L ++ [x]) (max a d))) :
    ∀ (K : Nat) (x : Nd) (L : List Nd) (a : Int) (d : Nat), x.nodes.length ≤ K → L.length + x.nodes.length ≤ 10000 → d + x.hgt ≤ 101 →
      AFun Try.prog 83 3 [nd x, int d, .yl lp rc ks lsC] (lsB 2 L a) (bool true) (lsB 3 (L ++ x.nodes) (x.deep d a)) := by
  intro K
  induction K with
  | zero => intro x L a d h; have := nodes_pos x; omega
  | succ K ihK =>
    intro x L a d hK hL hd
    obtain ⟨k, n, m, s, l⟩ := x
    have hyi := hy L a (.mk k n m s l) d (by have := nodes_pos (.mk k n m s l); omega) (by rw [Nd.hgt] at hd; omega)
    rw [nd_mk] at hyi ⊢
    rw [Nd.nodes, List.length_cons] at hK hL
    rw [Nd.hgt] at hd
    rw [Nd.nodes, Nd.deep]
    have hml : (l.map nd).length = l.length := List.length_map _
    have hge := nodesL_ge l
    refine AFun.of_S T_ok mixed Try.func83 rfl (Nat.le_of_ble_eq_true rfl) rfl ?_
    ((repeat ((conv => whnf); (first | (refine LetN.pre ?_; first | ((conv => arg 1; whnf); refine LetN.mk ?_)) | (refine As.pre ?_; first | refine As.mk rfl ?_) | (refine LetV.pre ?_; first | refine LetV.mk (.agg _) rfl ?_ | refine LetV.mk (.ro _ _ _) rfl ?_) | (refine LetI.pre ?_; first | refine LetI.mk _ rfl ?_) | (refine Br.pre ?_; first | refine Br.ff rfl ?_) | (refine Ck.pre ?_; first | refine Ck.mk rfl ?_) | (refine LetL.pre ?_; first | refine LetL.mk (ty := nty) _ (renL_none (pure_nd _)).symm ?_ | refine LetL.mk [_] rfl ?_) | ((refine YieldN.own wo1 hyi (by rw [hps]; rfl) (CallOk.mk' rfl rfl rfl (lsN _ _ _ _ rfl) rfl (lsN _ _ _ _ rfl) (lsA wo1 rfl rfl rfl)) ?_))))); (try (conv => whnf)))



    refine LoopN.weak (s1 := wkS l d (.yl lp rc ks lsC) (0, L ++ [.mk k n m s l], max a d)) ?sw0 ?_
    case sw0 => exact SW.mk wo1 rfl rfl (lsN _ _ _ _ rfl) ⟨.refl _, .refl _, .refl _, VLe2.int (by rw [hml]), .refl _, trivial⟩ (lsV wo1 rfl rfl rfl)
    refine LoopN.ind T_ok mixed (S := wkS l d (.yl lp rc ks lsC)) (fun i => l.length - i.1) (fun i => i.1 ≤ l.length ∧ i.2.1 = L ++ .mk k n m s l :: Nd.nodesL (l.take i.1) ∧ i.2.2 = Nd.deepL (l.take i.1) (d + 1) (max a d)) (fun _ => rfl) (fun i hi ih => ?_) (0, L ++ [.mk k n m s l], max a d) ⟨Nat.zero_le _, rfl, rfl⟩
    obtain ⟨j, L', a'⟩ := i
    obtain ⟨h1, h2, h3⟩ := hi
    dsimp only at h1 h2 h3
    by_cases hlt : j < l.length
    case neg =>
      clear ih hy hyi ihK
      rw [List.take_of_length_le (by omega)] at h2 h3
      rw [← h2, ← h3]
      ((repeat ((conv => whnf); (first | (refine As.pre ?_; first | refine As.mk rfl ?_) | (refine LetB.pre ?_; first | refine LetB.decf (by omega) ?_) | (refine Br.pre ?_; first | refine Br.ff rfl ?_) | (refine Ck.pre ?_; first | refine Ck.mk rfl ?_)))); (try (conv => whnf)))
      exact ⟨⟨[(6, bool true)], lsB 3 L' a', 4⟩, SW.mk id rfl rfl (lsN _ _ _ _ rfl) ⟨.refl _, trivial⟩ (lsV id rfl rfl rfl), .inl rfl, ⟨_, rfl, rfl⟩, rfl, rfl, rfl, trivial⟩
    have hmem := getD_mem' hlt
    have hn := nodesL_mem hmem
    have hh := hgtL_mem hmem
    have ht := nodesL_take hlt
    have hle := nodesL_take_le l (j + 1)
    rw [ht, List.length_append] at hle
    have hLl : L'.length = L.length + ((Nd.nodesL (l.take j)).length + 1) := by rw [h2, List.length_append, List.length_cons]
    have hrec := ihK (l.getD j nd0) L' a' (d + 1) (by omega) (by omega) (by omega)
    have hnx := ih (j + 1, L' ++ (l.getD j nd0).nodes, (l.getD j nd0).deep (d + 1) a') ⟨hlt, by dsimp only; rw [ht, h2]; simp, by dsimp only; rw [deepL_take hlt, h3]⟩ (by show l.length - (j + 1) < l.length - j; omega)
    have hld := ld_nd hlt
    clear ih hy hyi ihK ht hle h2 h3
    generalize l.getD j nd0 = y at hrec hnx hld hmem hn hh
    have hdd : ((d + 1 : Nat) : Int) = IntKind.i64.wrap ((d : Int) + 1) := by rw [wrap_id (by omega) (by omega)]; omega
    generalize L' ++ y.nodes = L2 at hrec hnx
    generalize y.deep (d + 1) a' = a2 at hrec hnx
    obtain ⟨k', n', m', s', l'⟩ := y
    rw [nd_mk] at hrec hld
    ((repeat ((conv => whnf); (first | (refine LetN.pre ?_; first | ((conv => arg 1; whnf); refine LetN.mk ?_)) | (refine As.pre ?_; first | refine As.mk rfl ?_ | (refine As.mk ?_ ?_; · ((repeat' (refine andT ?_ ?_)) <;> (first | rfl | assumption | exact decide_eq_true (by omega) | exact decide_eq_true (by dsimp only; omega) | exact decide_eq_true (by simp; omega) | (simp; done))))) | (refine LetV.pre ?_; first | refine LetV.mk (t := 34) _ hld ?_ | refine LetV.mk (.agg _) rfl ?_) | (refine LetI.pre ?_; first | refine LetI.mk (o := some .add) ((d + 1 : Nat) : Int) hdd ?_ | refine LetI.wrap (by omega) (by omega) ?_) | (refine LetB.pre ?_; first | refine LetB.dect (by omega) ?_) | (refine Br.pre ?_; first | refine Br.tt rfl ?_ | refine Br.ff rfl ?_) | (refine Ck.pre ?_; first | refine Ck.mk rfl ?_) | (refine LetL.pre ?_; first | refine LetL.mk (ty := nty) [.agg [_, _, _, _, _]] rfl ?_ | refine LetL.mk (ty := nty) _ (renL_none (pure_nd _)).symm ?_ | refine LetL.mk [_] rfl ?_) | (refine CallN.pre ?_; first | refine CallN.own wo2 hrec (CallOk.mk' rfl rfl rfl (lsN _ _ _ _ rfl) rfl (lsN _ _ _ _ rfl) (lsA wo2 rfl rfl rfl)) ?_)))); (try (conv => whnf)))





    refine LoopN.weak ?sw1 hnx
    case sw1 => exact SW.mk wo3 rfl rfl (lsN _ _ _ _ rfl) ⟨.refl _, .refl _, .refl _, .refl _, VLe2.int (by omega), trivial⟩ (lsV wo3 rfl rfl rfl)
end Pb
end Go.Proofs.Ytjnmbmdplchfkaa
namespace Go.Proofs.Ytjnmbmdplchfkaa
open Go.Proofs.Ytjnmbmdplchfkaa.Am
set_option maxRecDepth 100000
variable [Lo]
namespace Pb
/-! ### The list of the nodes -/
abbrev noV (x : Nd) : AV := .clo 82 [.rp (nd x) 0]
theorem nodes_f (x : Nd) : AFun Try.prog 61 0 [nd x] [] (noV x) [] := by
  obtain ⟨k, n, m, s, l⟩ := x
  have h : AFun Try.prog 61 0 [nd (.mk k n m s l)] [] (.clo 82 [.ptr 0 5 0 0]) [(0, .row 5 nty [nd (.mk k n m s l)])] := by
    rw [nd_mk]
    refine AFun.of_W T_ok mixed Try.func61 rfl (Nat.le_of_ble_eq_true rfl) rfl ?_
    ((repeat ((conv => whnf); (first | (refine LetN.pre ?_; first | ((conv => arg 1; whnf); refine LetN.mk ?_)) | (refine As.pre ?_; first | refine As.mk rfl ?_) | (refine Ck.pre ?_; first | refine Ck.mk rfl ?_)))); (try (conv => whnf)))
    exact ⟨.inl rfl, ⟨_, rfl, rfl⟩, rfl, trivial⟩
  exact AFun.frz [0] h rfl rfl rfl
set_option maxRecDepth 100000 in
theorem nodes1_f (x : Nd) (hx : x.nodes.length ≤ 10000) (hd : x.hgt ≤ 100) (lp : Nat) (rc : Loop) (hps : rc.params.size = 2) (ks : List Nat)
    (hy : ∀ (L : List Nd) (a : Int) (x : Nd) (d : Nat), L.length < 10000 → d ≤ 100 → AFunC (CY Try.prog lp rc) 3 [.yl lp rc ks lsC, int d, nd x] (lsB 2 L a) (bool true) (lsB 3 (L ++ [x]) (max a d))) :
    AFun Try.prog 82 3 [.yl lp rc ks lsC, .rp (nd x) 0] (lsB 2 [] 0) (.tup []) (lsB 3 x.nodes (x.deep 1 0)) := by
  have hw := walk_f lp rc hps ks hy _ x [] 0 1 (Nat.le_refl _) (by rw [List.length_nil]; omega) (by omega)
  rw [List.nil_append] at hw
  obtain ⟨k, n, m, s, l⟩ := x
  generalize Nd.nodes (.mk k n m s l) = L at hw ⊢
  generalize Nd.deep (.mk k n m s l) 1 0 = a at hw ⊢
  rw [nd_mk] at hw ⊢
  refine AFun.of_S T_ok mixed Try.func82 rfl (Nat.le_of_ble_eq_true rfl) rfl ?_
  ((repeat ((conv => whnf); (first | (refine LetN.pre ?_; first | ((conv => arg 1; whnf); refine LetN.mk ?_)) | (refine As.pre ?_; first | refine As.mk rfl ?_) | (refine LetV.pre ?_; first | refine LetV.mk (.agg _) rfl ?_) | (refine Ck.pre ?_; first | refine Ck.mk rfl ?_) | (refine LetL.pre ?_; first | refine LetL.mk (ty := nty) _ (renL_none (pure_nd _)).symm ?_ | refine LetL.mk [_] rfl ?_) | (refine CallN.pre ?_; first | refine CallN.own id hw (CallOk.mk' rfl rfl rfl (lsN _ _ _ _ rfl) rfl (lsN _ _ _ _ rfl) (lsA id rfl rfl rfl)) ?_)))); (try (conv => whnf)))



  exact ⟨⟨[], lsB 3 L a, 4⟩, SW.mk id rfl rfl (lsN _ _ _ _ rfl) trivial (lsV id rfl rfl rfl), .inr rfl, ⟨_, rfl, rfl⟩, rfl, rfl, rfl, trivial⟩
theorem ls_call (L : List Nd) (a : Int) : atCall wo1 (lsB 2 [] 0) (.tup []) (lsB 3 L a) = { v := .tup [], D := [0, 1, 2], δ := [(0, some (lsX 4 L.length)), (1, some (.row 1 3 [int a])), (4, some (.row 5 nty (L.map nd))), (2, none)] } := by
  show ({ v := _, D := _, δ := [(0, _), (1, _), (4, some (.row 5 _ (AV.renL wo1 (L.map nd)))), (2, none)] } : Out) = _
  rw [renL_none (pure_nd L)]; rfl
theorem lsSol (q : Nat) (L : List Nd) (a : Int) : solidH (lsB q L a) = true := solidH.row rfl (solidH.row rfl (solidH.row (solid_nd _) rfl))
set_option maxHeartbeats 1600000 in
set_option maxRecDepth 100000 in
theorem list_f (x : Nd) (hx : x.nodes.length ≤ 10000) (hd : x.hgt ≤ 100) : AFun Try.prog 44 0 [nd x] [] (.tup [.ro {} 5 (x.nodes.map nd), int (x.deep 1 0), bool true]) [] := by
  have hN := nodes_f x
  have h : AFun Try.prog 44 0 [nd x] [] (.tup [.slm {} 0 5 0 x.nodes.length, int (x.deep 1 0), bool true]) [(0, .row 5 nty (x.nodes.map nd))] := by
    refine AFun.of_S T_ok mixed Try.func44 rfl (Nat.le_of_ble_eq_true rfl) rfl ?_
    have hR := fun lp rc hps ks hy => nodes1_f x hx hd lp rc hps ks hy
    generalize x.nodes = L at hR ⊢
    generalize x.deep 1 0 = a at hR ⊢
    obtain ⟨k, n, m, s, l⟩ := x
    rw [nd_mk] at hN ⊢
    ((repeat ((conv => whnf); (first | (refine LetN.pre ?_; first | ((conv => arg 1; whnf); refine LetN.mk ?_)) | (refine As.pre ?_; first | refine As.mk rfl ?_) | (refine LetV.pre ?_; first | refine LetV.mk (.agg _) rfl ?_) | (refine Ck.pre ?_; first | refine Ck.mk rfl ?_) | (refine CallN.pre ?_; first | refine CallN.pure hN rfl rfl ?_)))); (try (conv => whnf)))


    clear hN
    rw [nd_mk] at hR
    refine RfN.weak (s1 := ⟨[(2, .ptr 0 1 0 0), (3, .ptr 1 1 0 0), (4, .ptr 3 1 0 0), (8, .clo 82 [.rp (nd (.mk k n m s l)) 0])], lsB 2 [] 0 ++ [(3, .row 1 4 [bool false])], 4⟩) ?sw ?_
    case sw =>
      refine SW.trans (SW.box (id := 1) (ty := 34) (x := .sc (.slice none 0 0)) (y := .slm {} 4 5 0 0) rfl rfl rfl VLe2.nilslm.cle) ?_
      exact SW.mk (fun i => match i with | 0 => 1 | 1 => 2 | 2 => 4 | 3 => 3 | i => i + 1) rfl rfl rfl ⟨.refl _, .refl _, .refl _, .refl _, trivial⟩ (haveV.one rfl (haveV.one rfl (haveV.nil (Nat.le_of_ble_eq_true rfl) (haveV.one rfl trivial))))
    rw [nd_mk]
    refine RfN.iter (r := { v := .tup [], D := [0, 1, 2], δ := [(0, some (lsX 4 L.length)), (1, some (.row 1 3 [int a])), (4, some (.row 5 nty (L.map nd))), (2, none)] }) [2, 3] (Nat.le_of_ble_eq_true rfl) rfl rfl (by kernel_rfl) (fun lp rc h1 h2 h3 h4 h5 h6 => ?it) rfl ?sol rfl ?rest
    case it =>
      rw [← ls_call]
      refine ACalls.of_fun wo1 (hR lp rc (by rw [h1]; rfl) [2, 3] fun L a x d hL hd => ?_) (CallOk.mk' rfl rfl rfl rfl rfl (lsN _ _ _ _ rfl) ⟨rfl, rfl, rfl, trivial⟩)
      obtain ⟨k', n', m', s', l'⟩ := x
      generalize hy : Nd.mk k' n' m' s' l' = y
      have hy' : nd y = .agg [int k', int n', int m', .ro {} 2 (s'.map coA), .ro {} 5 (l'.map nd)] := by rw [← hy, nd_mk]
      have hs : AV.solidL [int d, nd y] = true := by
        have := nd_solid y
        simp only [AV.solidL, AV.solid, this]; rfl
      rw [hy'] at hs ⊢
      refine yield_of_V T_ok mixed h1 h2 h3 h4 h5 h6 rfl rfl hs (lsSol 2 L a) rfl ?_
      have r1 := room_nd (n := L.length + 1) (by omega)
      have a1 := app_nd L y L.length rfl
      have l1 : (L ++ [y]).length = L.length + 1 := by simp
      have hml : (L.map nd).length = L.length := List.length_map _
      have t1 : ¬ ((100 : Int) < d) := by omega
      have t2 : ¬ ((L.length : Int) = 10000) := by omega
      rw [hy'] at a1
      ((repeat ((conv => whnf); (first | (refine LetN.pre ?_; first | ((conv => arg 1; whnf); refine LetN.mk ?_)) | (refine As.pre ?_; first | refine As.mk rfl ?_) | (refine Ck.pre ?_; first | refine Ck.mk rfl ?_) | (refine LetL.pre ?_; first | refine LetL.mk [_] rfl ?_)))); (try (conv => whnf)))
      refine ⟨rfl, ?_⟩
      ((repeat ((conv => whnf); (first | (refine LetN.pre ?_; first | ((conv => arg 1; whnf); refine LetN.mk ?_)) | (refine As.pre ?_; first | refine As.mk rfl ?_ | (refine As.mk ?_ ?_; · ((repeat' (refine andT ?_ ?_)) <;> (first | rfl | assumption | exact decide_eq_true (by omega) | exact decide_eq_true (by dsimp only; omega) | exact decide_eq_true (by simp; omega) | (simp; done))))) | (refine LetV.pre ?_; first | refine LetV.mk (.sc (.int _ _)) rfl ?_ | refine LetV.mk (.agg _) rfl ?_ | refine LetV.mk (.slm _ _ _ _ _) rfl ?_) | (refine LetI.pre ?_; first | refine LetI.mk _ rfl ?_) | (refine LetB.pre ?_; first | refine LetB.decf (by omega) ?_) | (refine Gd.pre ?_; first | refine Gd.run rfl ?_) | (refine Br.pre ?_; first | refine Br.ff rfl ?_) | (refine Ck.pre ?_; first | refine Ck.drawn (by kernel_rfl) ?_ | refine Ck.mk rfl ?_) | (refine LetL.pre ?_; first | refine LetL.mk (ty := nty) _ a1 ?_ | refine LetL.mk [_] rfl ?_)))); (try (conv => whnf)))


      refine ⟨rfl, ⟨[], lsB 3 (L ++ [y]) (max a d), 5⟩, ?_, rfl⟩
      refine SW.trans (SW.box (id := 0) (ty := 34) (x := .slm _ 4 5 0 _) (y := .slm {} 4 5 0 (L ++ [y]).length) rfl rfl rfl (VLe2.slm_of l1).cle) ?_
      exact SW.mk wo1 rfl rfl (lsN _ _ _ _ rfl) trivial (lsV wo1 rfl rfl rfl)
    case sol => exact solidH.row rfl (solidH.row rfl (solidH.row rfl (solidH.row (solid_nd _) rfl)))
    case rest =>
      ((repeat ((conv => whnf); (first | (refine LetN.pre ?_; first | ((conv => arg 1; whnf); refine LetN.mk ?_)) | (refine As.pre ?_; first | refine As.mk rfl ?_) | (refine LetV.pre ?_; first | refine LetV.mk (.sc (.int _ _)) rfl ?_ | refine LetV.mk (.slm _ _ _ _ _) rfl ?_) | (refine Ck.pre ?_; first | refine Ck.drawn (by kernel_rfl) ?_ | refine Ck.mk rfl ?_) | (refine LetL.pre ?_; first | refine LetL.mk [_] rfl ?_)))); (try (conv => whnf)))
      exact ⟨⟨[(2, .ptr 1 1 0 0), (3, .ptr 2 1 0 0), (4, .ptr 3 1 0 0)], [(0, .row 5 nty (L.map nd)), (1, .row 1 34 [.slm {} 0 5 0 L.length]), (2, .row 1 3 [int a]), (3, .row 1 4 [bool true])], 4⟩, SW.mk (fun i => match i with | 0 => 4 | 1 => 0 | 2 => 1 | 3 => 3 | i => i + 1) rfl rfl (namesAll.row (pure_nd _) rfl) ⟨.refl _, .refl _, .refl _, trivial⟩ (haveV.row (pure_nd _) rfl (haveV.one rfl (haveV.one rfl (haveV.one rfl trivial)))), .inl rfl, ⟨_, rfl, rfl⟩, rfl, trivial⟩
  exact AFun.frzT h (pure_nd _) (List.length_map _).symm rfl
end Pb
end Go.Proofs.Ytjnmbmdplchfkaa
namespace Go.Proofs.Ytjnmbmdplchfkaa
open Go.Proofs.Ytjnmbmdplchfkaa.Am
set_option maxRecDepth 100000
variable [Lo]
namespace Pb
/-- The order of two numbers. -/
def cmpI (a b : Int) : Int := if a < b then -1 else if b < a then 1 else 0
def firstNZ : List Int → Int
  | [] => 0
  | x :: l => if x = 0 then firstNZ l else x
theorem isNaN_f (a : Int) : AFun Try.prog 89 0 [int a] [] (bool false) [] := by
  refine AFun.of_W T_ok mixed Try.func89 rfl (Nat.le_of_ble_eq_true rfl) rfl ?_
  have h : (a != a) = false := by simp
  ((repeat ((conv => whnf); (first | (refine LetN.pre ?_; first | ((conv => arg 1; whnf); refine LetN.mk ?_)) | (refine As.pre ?_; first | refine As.mk rfl ?_ | (refine As.mk ?_ ?_; · decide +kernel) | refine As.mk (andT (nor_self _) rfl) ?_ | refine As.mk (andT (nor_self _) (or_t _)) ?_ | refine As.mk (andT (or_t _) (or_nself _)) ?_ | refine As.mk (andT (or_t _) (or_t _)) ?_ | refine As.mk (andT (nor_self _) (andT (nor_self _) rfl)) ?_ | (refine As.mk ?_ ?_; · ((repeat' (refine andT ?_ ?_)) <;> (first | rfl | assumption | exact decide_eq_true (by omega) | exact decide_eq_true (by dsimp only; omega) | exact decide_eq_true (by simp; omega) | (simp; done))))) | (refine LetV.pre ?_; first | refine LetV.mk (.sc (.int _ _)) rfl ?_ | refine LetV.mk (.sc (.bool _)) rfl ?_ | refine LetV.mk (.sc _) rfl ?_ | refine LetV.mk (.agg _) rfl ?_ | refine LetV.mk (.slm _ _ _ _ _) rfl ?_ | refine LetV.mk (.ro _ _ _) rfl ?_ | refine LetV.mk (.ptr _ _ _ _) rfl ?_ | refine LetV.mk (.clo _ _ _) rfl ?_ | refine LetV.mk (.rp _ _) rfl ?_) | (refine LetI.pre ?_; first | refine LetI.wrap (by omega) (by omega) ?_ | refine LetI.mk _ rfl ?_) | (refine LetB.pre ?_; first | refine LetB.tt rfl ?_ | refine LetB.ff rfl ?_ | refine LetB.tt (by assumption) ?_ | refine LetB.ff (by assumption) ?_ | refine LetB.dect (by omega) ?_ | refine LetB.decf (by omega) ?_ | refine LetB.beqt (by omega) ?_ | refine LetB.beqf (by omega) ?_ | refine LetB.bnet (by omega) ?_ | refine LetB.bnef (by omega) ?_ | refine LetB.mk _ rfl ?_) | (refine Gd.pre ?_; first | refine Gd.run rfl ?_ | refine Gd.pass rfl ?_ | refine Gd.run (by assumption) ?_ | refine Gd.pass (by assumption) ?_ | (refine Gd.run ?_ ?_; · decide +kernel) | (refine Gd.pass ?_ ?_; · decide +kernel) | refine Gd.both ?_) | (refine Br.pre ?_; first | refine Br.tt rfl ?_ | refine Br.ff rfl ?_ | refine Br.tt (by assumption) ?_ | refine Br.ff (by assumption) ?_ | (refine Br.tt ?_ ?_; · decide +kernel) | (refine Br.ff ?_ ?_; · decide +kernel)) | (refine Ck.pre ?_; first | refine Ck.drawn (by kernel_rfl) ?_ | refine Ck.mk rfl ?_) | (refine LetL.pre ?_; first | refine LetL.mk [_] rfl ?_ | refine LetL.mk _ rfl ?_) | refine forceAs.pass ?_ | refine forceEs.pass ?_ | refine forceC.pass ?_))); (try (conv => whnf)))
  exact ⟨.inl rfl, ⟨_, rfl, rfl⟩, trivial⟩
theorem Compare_f (a b : Int) : AFun Try.prog 73 0 [int a, int b] [] (int (cmpI a b)) [] := by
  refine AFun.of_W T_ok mixed Try.func73 rfl (Nat.le_of_ble_eq_true rfl) rfl ?_
  unfold cmpI
  repeat' ((conv => whnf); (first | (refine LetN.pre ?_; first | ((conv => arg 1; whnf); refine LetN.mk ?_)) | (refine As.pre ?_; first | refine As.mk rfl ?_ | (refine As.mk ?_ ?_; · decide +kernel) | refine As.mk (andT (nor_self _) rfl) ?_ | refine As.mk (andT (nor_self _) (or_t _)) ?_ | refine As.mk (andT (or_t _) (or_nself _)) ?_ | refine As.mk (andT (or_t _) (or_t _)) ?_ | refine As.mk (andT (nor_self _) (andT (nor_self _) rfl)) ?_ | (refine As.mk ?_ ?_; · ((repeat' (refine andT ?_ ?_)) <;> (first | rfl | assumption | exact decide_eq_true (by omega) | exact decide_eq_true (by dsimp only; omega) | exact decide_eq_true (by simp; omega) | (simp; done))))) | (refine LetV.pre ?_; first | refine LetV.mk (.sc (.int _ _)) rfl ?_ | refine LetV.mk (.sc (.bool _)) rfl ?_ | refine LetV.mk (.sc _) rfl ?_ | refine LetV.mk (.agg _) rfl ?_ | refine LetV.mk (.slm _ _ _ _ _) rfl ?_ | refine LetV.mk (.ro _ _ _) rfl ?_ | refine LetV.mk (.ptr _ _ _ _) rfl ?_ | refine LetV.mk (.clo _ _ _) rfl ?_ | refine LetV.mk (.rp _ _) rfl ?_) | (refine LetI.pre ?_; first | refine LetI.wrap (by omega) (by omega) ?_ | refine LetI.mk _ rfl ?_) | (refine LetB.pre ?_; first | refine LetB.tt rfl ?_ | refine LetB.ff rfl ?_ | refine LetB.tt (by assumption) ?_ | refine LetB.ff (by assumption) ?_ | refine LetB.dect (by omega) ?_ | refine LetB.decf (by omega) ?_ | refine LetB.beqt (by omega) ?_ | refine LetB.beqf (by omega) ?_ | refine LetB.bnet (by omega) ?_ | refine LetB.bnef (by omega) ?_ | (refine LetB.dec (fun _ => ?_) (fun _ => ?_)) | (refine LetB.beq (fun _ => ?_) (fun _ => ?_)) | (refine LetB.bne (fun _ => ?_) (fun _ => ?_)) | refine LetB.mk _ rfl ?_) | (refine Gd.pre ?_; first | refine Gd.run rfl ?_ | refine Gd.pass rfl ?_ | refine Gd.run (by assumption) ?_ | refine Gd.pass (by assumption) ?_ | (refine Gd.run ?_ ?_; · decide +kernel) | (refine Gd.pass ?_ ?_; · decide +kernel) | refine Gd.both ?_) | (refine Br.pre ?_; first | refine Br.tt rfl ?_ | refine Br.ff rfl ?_ | refine Br.tt (by assumption) ?_ | refine Br.ff (by assumption) ?_ | (refine Br.tt ?_ ?_; · decide +kernel) | (refine Br.ff ?_ ?_; · decide +kernel)) | (refine Ck.pre ?_; first | refine Ck.drawn (by kernel_rfl) ?_ | refine Ck.mk rfl ?_) | (refine LetL.pre ?_; first | refine LetL.mk [_] rfl ?_ | refine LetL.mk _ rfl ?_) | (refine CallN.pre ?_; first | refine CallN.pure (isNaN_f _) rfl rfl ?_) | refine forceAs.pass ?_ | refine forceEs.pass ?_ | refine forceC.pass ?_))
  all_goals
    refine ⟨.inl rfl, ⟨_, rfl, congrArg int ?_⟩, trivial⟩
    first | (rw [if_pos (by omega)]; done) | (rw [if_neg (by omega), if_pos (by omega)]; done) | (rw [if_neg (by omega), if_neg (by omega)]; done)
theorem Or_f (xs : List Int) (fl : Fl) (hl : xs.length ≤ 1000) : AFun Try.prog 72 0 [.ro fl 1 (xs.map int)] [] (int (firstNZ xs)) [] := by
  refine AFun.of_W T_ok mixed Try.func72 rfl (Nat.le_of_ble_eq_true rfl) rfl ?_
  ((repeat ((conv => whnf); (first | (refine LetN.pre ?_; first | ((conv => arg 1; whnf); refine LetN.mk ?_)) | (refine As.pre ?_; first | refine As.mk rfl ?_ | (refine As.mk ?_ ?_; · decide +kernel) | refine As.mk (andT (nor_self _) rfl) ?_ | refine As.mk (andT (nor_self _) (or_t _)) ?_ | refine As.mk (andT (or_t _) (or_nself _)) ?_ | refine As.mk (andT (or_t _) (or_t _)) ?_ | refine As.mk (andT (nor_self _) (andT (nor_self _) rfl)) ?_ | (refine As.mk ?_ ?_; · ((repeat' (refine andT ?_ ?_)) <;> (first | rfl | assumption | exact decide_eq_true (by omega) | exact decide_eq_true (by dsimp only; omega) | exact decide_eq_true (by simp; omega) | (simp; done))))) | (refine LetV.pre ?_; first | refine LetV.mk (.sc (.int _ _)) rfl ?_ | refine LetV.mk (.sc (.bool _)) rfl ?_ | refine LetV.mk (.sc _) rfl ?_ | refine LetV.mk (.agg _) rfl ?_ | refine LetV.mk (.slm _ _ _ _ _) rfl ?_ | refine LetV.mk (.ro _ _ _) rfl ?_ | refine LetV.mk (.ptr _ _ _ _) rfl ?_ | refine LetV.mk (.clo _ _ _) rfl ?_ | refine LetV.mk (.rp _ _) rfl ?_) | (refine LetI.pre ?_; first | refine LetI.wrap (by omega) (by omega) ?_ | refine LetI.mk _ rfl ?_) | (refine LetB.pre ?_; first | refine LetB.tt rfl ?_ | refine LetB.ff rfl ?_ | refine LetB.tt (by assumption) ?_ | refine LetB.ff (by assumption) ?_ | refine LetB.mk _ rfl ?_) | (refine Gd.pre ?_; first | refine Gd.run rfl ?_ | refine Gd.pass rfl ?_ | refine Gd.run (by assumption) ?_ | refine Gd.pass (by assumption) ?_ | (refine Gd.run ?_ ?_; · decide +kernel) | (refine Gd.pass ?_ ?_; · decide +kernel) | refine Gd.both ?_) | (refine Br.pre ?_; first | refine Br.tt rfl ?_ | refine Br.ff rfl ?_ | refine Br.tt (by assumption) ?_ | refine Br.ff (by assumption) ?_ | (refine Br.tt ?_ ?_; · decide +kernel) | (refine Br.ff ?_ ?_; · decide +kernel)) | (refine Ck.pre ?_; first | refine Ck.drawn (by kernel_rfl) ?_ | refine Ck.mk rfl ?_) | (refine LetL.pre ?_; first | refine LetL.mk [_] rfl ?_ | refine LetL.mk _ rfl ?_) | refine forceAs.pass ?_ | refine forceEs.pass ?_ | refine forceC.pass ?_))); (try (conv => whnf)))
  refine LoopN.weak (s1 := ⟨[(3, int 0), (6, .ro fl 1 (xs.map int)), (7, int xs.length), (8, int (0 : Nat))], [], 0⟩) (SW.fr0 (Nat.le_refl _) rfl ⟨.refl _, .refl _, VLe2.int (by rw [List.length_map]), .refl _, trivial⟩) ?_
  refine LoopN.ind T_ok mixed (S := fun k : Nat => ⟨[(3, int 0), (6, .ro fl 1 (xs.map int)), (7, int xs.length), (8, int k)], [], 0⟩) (fun k => xs.length - k) (fun k => k ≤ xs.length ∧ firstNZ xs = firstNZ (xs.drop k)) (fun _ => rfl) (fun k hk ih => ?_) 0 ⟨Nat.zero_le _, rfl⟩
  obtain ⟨h1, h2⟩ := hk
  have hm : (xs.map int).length = xs.length := List.length_map _
  by_cases hlt : k < xs.length
  case neg =>
    rw [List.drop_eq_nil_of_le (by omega)] at h2
    rw [h2]
    clear ih
    ((repeat ((conv => whnf); (first | (refine LetN.pre ?_; first | ((conv => arg 1; whnf); refine LetN.mk ?_)) | (refine As.pre ?_; first | refine As.mk rfl ?_ | (refine As.mk ?_ ?_; · decide +kernel) | refine As.mk (andT (nor_self _) rfl) ?_ | refine As.mk (andT (nor_self _) (or_t _)) ?_ | refine As.mk (andT (or_t _) (or_nself _)) ?_ | refine As.mk (andT (or_t _) (or_t _)) ?_ | refine As.mk (andT (nor_self _) (andT (nor_self _) rfl)) ?_ | (refine As.mk ?_ ?_; · ((repeat' (refine andT ?_ ?_)) <;> (first | rfl | assumption | exact decide_eq_true (by omega) | exact decide_eq_true (by dsimp only; omega) | exact decide_eq_true (by simp; omega) | (simp; done))))) | (refine LetV.pre ?_; first | refine LetV.mk (.sc (.int _ _)) rfl ?_ | refine LetV.mk (.sc (.bool _)) rfl ?_ | refine LetV.mk (.sc _) rfl ?_ | refine LetV.mk (.agg _) rfl ?_ | refine LetV.mk (.slm _ _ _ _ _) rfl ?_ | refine LetV.mk (.ro _ _ _) rfl ?_ | refine LetV.mk (.ptr _ _ _ _) rfl ?_ | refine LetV.mk (.clo _ _ _) rfl ?_ | refine LetV.mk (.rp _ _) rfl ?_) | (refine LetI.pre ?_; first | refine LetI.wrap (by omega) (by omega) ?_ | refine LetI.mk _ rfl ?_) | (refine LetB.pre ?_; first | refine LetB.tt rfl ?_ | refine LetB.ff rfl ?_ | refine LetB.tt (by assumption) ?_ | refine LetB.ff (by assumption) ?_ | refine LetB.dect (by omega) ?_ | refine LetB.decf (by omega) ?_ | refine LetB.beqt (by omega) ?_ | refine LetB.beqf (by omega) ?_ | refine LetB.bnet (by omega) ?_ | refine LetB.bnef (by omega) ?_ | refine LetB.mk _ rfl ?_) | (refine Gd.pre ?_; first | refine Gd.run rfl ?_ | refine Gd.pass rfl ?_ | refine Gd.run (by assumption) ?_ | refine Gd.pass (by assumption) ?_ | (refine Gd.run ?_ ?_; · decide +kernel) | (refine Gd.pass ?_ ?_; · decide +kernel) | refine Gd.both ?_) | (refine Br.pre ?_; first | refine Br.tt rfl ?_ | refine Br.ff rfl ?_ | refine Br.tt (by assumption) ?_ | refine Br.ff (by assumption) ?_ | (refine Br.tt ?_ ?_; · decide +kernel) | (refine Br.ff ?_ ?_; · decide +kernel)) | (refine Ck.pre ?_; first | refine Ck.drawn (by kernel_rfl) ?_ | refine Ck.mk rfl ?_) | (refine LetL.pre ?_; first | refine LetL.mk [_] rfl ?_ | refine LetL.mk _ rfl ?_) | refine forceAs.pass ?_ | refine forceEs.pass ?_ | refine forceC.pass ?_))); (try (conv => whnf)))
    exact ⟨.inl rfl, ⟨_, rfl, rfl⟩, trivial⟩
  case pos =>
    have hld : int (xs.getD k 0) = (xs.map int).getD k (.sc undef) := mapD 0 hlt
    rw [List.drop_eq_getElem_cons hlt, show xs[k] = xs.getD k 0 by rw [List.getD_eq_getElem?_getD, List.getElem?_eq_getElem hlt]; rfl] at h2
    generalize xs.getD k 0 = x at hld h2
    by_cases hx : x = 0
    · rw [firstNZ, if_pos hx] at h2
      ((repeat ((conv => whnf); (first | (refine LetN.pre ?_; first | ((conv => arg 1; whnf); refine LetN.mk ?_)) | (refine As.pre ?_; first | refine As.mk rfl ?_ | (refine As.mk ?_ ?_; · decide +kernel) | refine As.mk (andT (nor_self _) rfl) ?_ | refine As.mk (andT (nor_self _) (or_t _)) ?_ | refine As.mk (andT (or_t _) (or_nself _)) ?_ | refine As.mk (andT (or_t _) (or_t _)) ?_ | refine As.mk (andT (nor_self _) (andT (nor_self _) rfl)) ?_ | (refine As.mk ?_ ?_; · ((repeat' (refine andT ?_ ?_)) <;> (first | rfl | assumption | exact decide_eq_true (by omega) | exact decide_eq_true (by dsimp only; omega) | exact decide_eq_true (by simp; omega) | (simp; done))))) | (refine LetV.pre ?_; first | refine LetV.mk (t := 26) _ hld ?_ | refine LetV.mk (.sc (.int _ _)) rfl ?_ | refine LetV.mk (.sc (.bool _)) rfl ?_ | refine LetV.mk (.sc _) rfl ?_ | refine LetV.mk (.agg _) rfl ?_ | refine LetV.mk (.slm _ _ _ _ _) rfl ?_ | refine LetV.mk (.ro _ _ _) rfl ?_ | refine LetV.mk (.ptr _ _ _ _) rfl ?_ | refine LetV.mk (.clo _ _ _) rfl ?_ | refine LetV.mk (.rp _ _) rfl ?_) | (refine LetI.pre ?_; first | refine LetI.wrap (by omega) (by omega) ?_ | refine LetI.mk _ rfl ?_) | (refine LetB.pre ?_; first | refine LetB.tt rfl ?_ | refine LetB.ff rfl ?_ | refine LetB.tt (by assumption) ?_ | refine LetB.ff (by assumption) ?_ | refine LetB.dect (by omega) ?_ | refine LetB.decf (by omega) ?_ | refine LetB.beqt (by omega) ?_ | refine LetB.beqf (by omega) ?_ | refine LetB.bnet (by omega) ?_ | refine LetB.bnef (by omega) ?_ | refine LetB.mk _ rfl ?_) | (refine Gd.pre ?_; first | refine Gd.run rfl ?_ | refine Gd.pass rfl ?_ | refine Gd.run (by assumption) ?_ | refine Gd.pass (by assumption) ?_ | (refine Gd.run ?_ ?_; · decide +kernel) | (refine Gd.pass ?_ ?_; · decide +kernel) | refine Gd.both ?_) | (refine Br.pre ?_; first | refine Br.tt rfl ?_ | refine Br.ff rfl ?_ | refine Br.tt (by assumption) ?_ | refine Br.ff (by assumption) ?_ | (refine Br.tt ?_ ?_; · decide +kernel) | (refine Br.ff ?_ ?_; · decide +kernel)) | (refine Ck.pre ?_; first | refine Ck.drawn (by kernel_rfl) ?_ | refine Ck.mk rfl ?_) | (refine LetL.pre ?_; first | refine LetL.mk [_] rfl ?_ | refine LetL.mk _ rfl ?_) | refine forceAs.pass ?_ | refine forceEs.pass ?_ | refine forceC.pass ?_))); (try (conv => whnf)))
      refine LoopN.weak ?_ (ih (k + 1) ⟨by omega, h2⟩ (by omega))
      exact SW.fr0 (Nat.le_refl _) rfl ⟨.refl _, .refl _, .refl _, VLe2.int (by omega), trivial⟩
    · rw [firstNZ, if_neg hx] at h2
      rw [h2]
      clear ih
      ((repeat ((conv => whnf); (first | (refine LetN.pre ?_; first | ((conv => arg 1; whnf); refine LetN.mk ?_)) | (refine As.pre ?_; first | refine As.mk rfl ?_ | (refine As.mk ?_ ?_; · decide +kernel) | refine As.mk (andT (nor_self _) rfl) ?_ | refine As.mk (andT (nor_self _) (or_t _)) ?_ | refine As.mk (andT (or_t _) (or_nself _)) ?_ | refine As.mk (andT (or_t _) (or_t _)) ?_ | refine As.mk (andT (nor_self _) (andT (nor_self _) rfl)) ?_ | (refine As.mk ?_ ?_; · ((repeat' (refine andT ?_ ?_)) <;> (first | rfl | assumption | exact decide_eq_true (by omega) | exact decide_eq_true (by dsimp only; omega) | exact decide_eq_true (by simp; omega) | (simp; done))))) | (refine LetV.pre ?_; first | refine LetV.mk (t := 26) _ hld ?_ | refine LetV.mk (.sc (.int _ _)) rfl ?_ | refine LetV.mk (.sc (.bool _)) rfl ?_ | refine LetV.mk (.sc _) rfl ?_ | refine LetV.mk (.agg _) rfl ?_ | refine LetV.mk (.slm _ _ _ _ _) rfl ?_ | refine LetV.mk (.ro _ _ _) rfl ?_ | refine LetV.mk (.ptr _ _ _ _) rfl ?_ | refine LetV.mk (.clo _ _ _) rfl ?_ | refine LetV.mk (.rp _ _) rfl ?_) | (refine LetI.pre ?_; first | refine LetI.wrap (by omega) (by omega) ?_ | refine LetI.mk _ rfl ?_) | (refine LetB.pre ?_; first | refine LetB.tt rfl ?_ | refine LetB.ff rfl ?_ | refine LetB.tt (by assumption) ?_ | refine LetB.ff (by assumption) ?_ | refine LetB.dect (by omega) ?_ | refine LetB.decf (by omega) ?_ | refine LetB.beqt (by omega) ?_ | refine LetB.beqf (by omega) ?_ | refine LetB.bnet (by omega) ?_ | refine LetB.bnef (by omega) ?_ | refine LetB.mk _ rfl ?_) | (refine Gd.pre ?_; first | refine Gd.run rfl ?_ | refine Gd.pass rfl ?_ | refine Gd.run (by assumption) ?_ | refine Gd.pass (by assumption) ?_ | (refine Gd.run ?_ ?_; · decide +kernel) | (refine Gd.pass ?_ ?_; · decide +kernel) | refine Gd.both ?_) | (refine Br.pre ?_; first | refine Br.tt rfl ?_ | refine Br.ff rfl ?_ | refine Br.tt (by assumption) ?_ | refine Br.ff (by assumption) ?_ | (refine Br.tt ?_ ?_; · decide +kernel) | (refine Br.ff ?_ ?_; · decide +kernel)) | (refine Ck.pre ?_; first | refine Ck.drawn (by kernel_rfl) ?_ | refine Ck.mk rfl ?_) | (refine LetL.pre ?_; first | refine LetL.mk [_] rfl ?_ | refine LetL.mk _ rfl ?_) | refine forceAs.pass ?_ | refine forceEs.pass ?_ | refine forceC.pass ?_))); (try (conv => whnf)))
      exact ⟨.inl rfl, ⟨_, rfl, rfl⟩, trivial⟩
theorem Or2_f (x y : Int) (fl : Fl) : AFun Try.prog 72 0 [.ro fl 1 [int x, int y]] [] (int (firstNZ [x, y])) [] := Or_f [x, y] fl (by simp)
/-- A rune that no code has. -/
def wrongR (c : Nat) : Bool := decide ((c < 65 ∨ 90 < c) ∧ (c < 48 ∨ 57 < c))
theorem wrong_calls (w : World) : Go.Proofs.PredAt Try.prog 87 #[] Go.Proofs.encR wrongR w := by
  intro W x _
  show Calls Try.prog 87 #[.int .i32 (x : Int)] W _
  unfold wrongR
  go_enter Try.func87, Try.ntmps87
  go_wp2
  all_goals
    go_ret
    refine ⟨?_, 0, rfl⟩
  all_goals
    refine congrArg (fun b => Ending.returned (.bool b)) (Bool.eq_iff_iff.2 ?_)
    simp only [Bool.and_eq_true, Bool.or_eq_true, decide_eq_true_eq, Bool.false_eq_true, false_iff, true_iff]
    try omega
def lays : Go.Shelf.Ren := ⟨fun n => match n with | 315 => 96 | n => n, fun t => match t with | 0 => 0 | 3 => 3 | 4 => 4 | 9 => 9 | 21 => 21 | 40 => 130 | t => t, fun g => g⟩
theorem lays_ok : Go.Proofs.Lays.n315 Try.prog lays where
  mixed := mixed
  f315 := by kernel_rfl
  t0 := by kernel_rfl
  a0 := fun w => TT.Ok.isAgg T_ok (t := 0) rfl w
  z0 := fun w => TT.Ok.sizeOf T_ok (t := 0) rfl w
  v0 := fun w => TT.Ok.zero T_ok (t := 0) rfl w
  t3 := by kernel_rfl
  a3 := fun w => TT.Ok.isAgg T_ok (t := 3) rfl w
  z3 := fun w => TT.Ok.sizeOf T_ok (t := 3) rfl w
  v3 := fun w => TT.Ok.zero T_ok (t := 3) rfl w
  t4 := by kernel_rfl
  a4 := fun w => TT.Ok.isAgg T_ok (t := 4) rfl w
  z4 := fun w => TT.Ok.sizeOf T_ok (t := 4) rfl w
  v4 := fun w => TT.Ok.zero T_ok (t := 4) rfl w
  t9 := by kernel_rfl
  a9 := fun w => TT.Ok.isAgg T_ok (t := 9) rfl w
  z9 := fun w => TT.Ok.sizeOf T_ok (t := 9) rfl w
  v9 := fun w => TT.Ok.zero T_ok (t := 9) rfl w
  t21 := by kernel_rfl
  a21 := fun w => TT.Ok.isAgg T_ok (t := 21) rfl w
  z21 := fun w => TT.Ok.sizeOf T_ok (t := 21) rfl w
  v21 := fun w => TT.Ok.zero T_ok (t := 21) rfl w
  t40 := by kernel_rfl
  a40 := fun w => TT.Ok.isAgg T_ok (t := 130) rfl w
  z40 := fun w => TT.Ok.sizeOf T_ok (t := 130) rfl w
  v40 := fun w => TT.Ok.zero T_ok (t := 130) rfl w
theorem indexFunc_f (s : ByteArray) : AFun Try.prog 96 0 [str s, .clo 87 [], bool true] [] (int (Go.Lib.idxFunc wrongR true s)) [] := by
  intro w g xs hl hx hH _
  obtain ⟨a, b, c, rfl⟩ : ∃ a b c, xs = #[a, b, c] := by
    rcases xs with ⟨l⟩
    rcases l with _ | ⟨a, _ | ⟨b, _ | ⟨c, _ | ⟨d, l⟩⟩⟩⟩
    all_goals simp at hl
    exact ⟨a, b, c, rfl⟩
  have h0 := (hx 0 _ a rfl rfl).sc_inv
  have h1 := hx 1 _ b rfl rfl
  have h2 := (hx 2 _ c rfl rfl).sc_inv
  subst h0 h2
  cases h1 with
  | clo hk hc hv =>
    rename_i fs xs
    have e1 : fs = #[] := Array.eq_empty_of_size_eq_zero hk
    subst e1
    simp at hc
    have e2 : xs = #[] := Array.eq_empty_of_size_eq_zero hc.symm
    subst e2
    have := Go.Proofs.Any.strings_indexFunc lays_ok 87 #[] (fun args w => callFunc_run (by kernel_rfl) args w) wrongR true s w (wrong_calls w)
    refine this.mono fun e w' ⟨he, hb⟩ => ⟨_, g, he, ?_, .sc _ rfl, ?_⟩
    · exact ⟨fun _ _ => rfl, fun b h => ⟨h, hb.block b (hH.lt b h)⟩, fun b cs ty fz h => ⟨cs, (hb.block b (heap_lt h)).trans h, rfl⟩, ⟨hb.os, hb.tape, hb.output, hb.size, fun b hlt _ => hb.block b hlt⟩, fun id B b E h => (by cases h), fun b h _ => .inl h⟩
    · exact ⟨fun id B h => (by cases h), fun i j b E E' A B h => (by cases h), fun i b E B h => (by cases h), fun b h => Nat.lt_of_lt_of_le (hH.lt b h) hb.size, hH.gl.mono (fun b h => ⟨h, hb.block b (hH.lt b h)⟩) hb.size⟩
theorem decode_low {s : ByteArray} {i : Nat} (h : (s.get! i).toNat < 128) : Utf8.decode s i = ((s.get! i).toNat, 1) := by
  unfold Utf8.decode
  simp only [Nat.add_zero]
  rw [if_pos h]
theorem decode_high {s : ByteArray} {i : Nat} (h : 128 ≤ (s.get! i).toNat) : 128 ≤ (Utf8.decode s i).1 := by
  unfold Utf8.decode
  simp only [Nat.add_zero]
  rw [if_neg (by omega)]
  split
  · split
    · assumption
    · decide
  · split
    · split
      · rename_i h1
        simp only [Bool.and_eq_true, decide_eq_true_eq] at h1
        exact Nat.le_trans (by omega) h1.1
      · decide
    · split
      · split
        · rename_i h1
          simp only [Bool.and_eq_true, decide_eq_true_eq] at h1
          exact Nat.le_trans (by omega) h1.1
        · decide
      · decide
theorem wrong_high {c : Nat} (h : 128 ≤ c) : wrongR c = true := by
  unfold wrongR
  rw [decide_eq_true_eq]; omega
theorem idx_code (s : ByteArray) : ∀ (f pos : Nat), s.size ≤ pos + f → (Go.Lib.idxFuncFrom wrongR true s f pos < 0 ↔ ∀ i, pos ≤ i → i < s.size → wrongR (s.get! i).toNat = false)
  | 0, pos, h => by
    simp only [Go.Lib.idxFuncFrom]
    exact ⟨fun _ i h1 h2 => by omega, fun _ => by omega⟩
  | f + 1, pos, h => by
    unfold Go.Lib.idxFuncFrom
    split
    · rename_i hp
      by_cases hw : wrongR (s.get! pos).toNat = true
      · have : wrongR (Utf8.decode s pos).1 = true := by
          by_cases hl : (s.get! pos).toNat < 128
          · rw [decode_low hl]; exact hw
          · exact wrong_high (decode_high (by omega))
        rw [if_pos this]
        refine ⟨fun h => by omega, fun h => ?_⟩
        have := h pos (Nat.le_refl _) hp
        rw [hw] at this; cases this
      · have hl : (s.get! pos).toNat < 128 := by
          rcases Nat.lt_or_ge (s.get! pos).toNat 128 with h | h
          · exact h
          · exact absurd (wrong_high h) hw
        rw [decode_low hl]
        simp only
        rw [if_neg hw, idx_code s f (pos + 1) (by omega)]
        refine ⟨fun h i h1 h2 => ?_, fun h i h1 h2 => h i (by omega) h2⟩
        by_cases hi : i = pos
        · subst hi; simpa using hw
        · exact h i (by omega) h2
    · exact ⟨fun _ i h1 h2 => by omega, fun _ => by omega⟩
/-- The byte at i. -/
abbrev byt (s : ByteArray) (i : Nat) : Nat := (s.data.toList.getD i 0).toNat
theorem byt_eq (s : ByteArray) (i : Nat) : (s.get! i).toNat = byt s i := by
  obtain ⟨d⟩ := s
  show (d[i]!).toNat = (d.toList.getD i 0).toNat
  rw [List.getD_eq_getElem?_getD, Array.getElem?_toList, getElem!_def]
  cases d[i]? <;> rfl
/-- A string is a code. -/
def okCode (s : ByteArray) : Prop := (1 ≤ s.size ∧ s.size ≤ 8) ∧ ∀ i, i < s.size → wrongR (byt s i) = false
theorem nilStr (s : ByteArray) : (s.toList == (⟨#[]⟩ : ByteArray).toList) = decide (s.size = 0) := by
  rw [Bool.eq_iff_iff, beq_iff_eq, decide_eq_true_eq, ByteArray.toList_eq, ByteArray.toList_eq]
  show s.data.toList = [] ↔ s.data.size = 0
  rw [← Array.length_toList]
  exact List.length_eq_zero_iff.symm
theorem IndexFunc_f (s : ByteArray) : AFun Try.prog 88 0 [str s, .clo 87 []] [] (int (Go.Lib.idxFunc wrongR true s)) [] := by
  refine AFun.of_W T_ok mixed Try.func88 rfl (Nat.le_of_ble_eq_true rfl) rfl ?_
  ((repeat ((conv => whnf); (first | (refine LetN.pre ?_; first | ((conv => arg 1; whnf); refine LetN.mk ?_)) | (refine As.pre ?_; first | refine As.mk rfl ?_ | (refine As.mk ?_ ?_; · decide +kernel) | refine As.mk (andT (nor_self _) rfl) ?_ | refine As.mk (andT (nor_self _) (or_t _)) ?_ | refine As.mk (andT (or_t _) (or_nself _)) ?_ | refine As.mk (andT (or_t _) (or_t _)) ?_ | refine As.mk (andT (nor_self _) (andT (nor_self _) rfl)) ?_ | (refine As.mk ?_ ?_; · ((repeat' (refine andT ?_ ?_)) <;> (first | rfl | assumption | exact decide_eq_true (by omega) | exact decide_eq_true (by dsimp only; omega) | exact decide_eq_true (by simp; omega) | (simp; done))))) | (refine LetV.pre ?_; first | refine LetV.mk (.sc (.int _ _)) rfl ?_ | refine LetV.mk (.sc (.bool _)) rfl ?_ | refine LetV.mk (.sc _) rfl ?_ | refine LetV.mk (.agg _) rfl ?_ | refine LetV.mk (.slm _ _ _ _ _) rfl ?_ | refine LetV.mk (.ro _ _ _) rfl ?_ | refine LetV.mk (.ptr _ _ _ _) rfl ?_ | refine LetV.mk (.clo _ _ _) rfl ?_ | refine LetV.mk (.rp _ _) rfl ?_) | (refine LetI.pre ?_; first | refine LetI.wrap (by omega) (by omega) ?_ | refine LetI.mk _ rfl ?_) | (refine LetB.pre ?_; first | refine LetB.tt rfl ?_ | refine LetB.ff rfl ?_ | refine LetB.tt (by assumption) ?_ | refine LetB.ff (by assumption) ?_ | refine LetB.dect (by omega) ?_ | refine LetB.decf (by omega) ?_ | refine LetB.beqt (by omega) ?_ | refine LetB.beqf (by omega) ?_ | refine LetB.bnet (by omega) ?_ | refine LetB.bnef (by omega) ?_ | refine LetB.mk _ rfl ?_) | (refine Gd.pre ?_; first | refine Gd.run rfl ?_ | refine Gd.pass rfl ?_ | refine Gd.run (by assumption) ?_ | refine Gd.pass (by assumption) ?_ | (refine Gd.run ?_ ?_; · decide +kernel) | (refine Gd.pass ?_ ?_; · decide +kernel) | refine Gd.both ?_) | (refine Br.pre ?_; first | refine Br.tt rfl ?_ | refine Br.ff rfl ?_ | refine Br.tt (by assumption) ?_ | refine Br.ff (by assumption) ?_ | (refine Br.tt ?_ ?_; · decide +kernel) | (refine Br.ff ?_ ?_; · decide +kernel)) | (refine Ck.pre ?_; first | refine Ck.drawn (by kernel_rfl) ?_ | refine Ck.mk rfl ?_) | (refine LetL.pre ?_; first | refine LetL.mk [_] rfl ?_ | refine LetL.mk _ rfl ?_) | (refine CallN.pre ?_; first | refine CallN.pure (indexFunc_f s) rfl rfl ?_) | refine forceAs.pass ?_ | refine forceEs.pass ?_ | refine forceC.pass ?_))); (try (conv => whnf)))
  exact ⟨.inl rfl, ⟨_, rfl, rfl⟩, trivial⟩
open Classical in
theorem Code_f (s : ByteArray) : AFun Try.prog 71 0 [str s] [] (bool (decide (okCode s))) [] := by
  refine AFun.of_W T_ok mixed Try.func71 rfl (Nat.le_of_ble_eq_true rfl) rfl ?_
  have hi := IndexFunc_f s
  have hx := idx_code s s.size 0 (by omega)
  rw [show Go.Lib.idxFuncFrom wrongR true s s.size 0 = Go.Lib.idxFunc wrongR true s from rfl] at hx
  generalize Go.Lib.idxFunc wrongR true s = r at hi hx
  have hn := nilStr s
  by_cases h0 : s.size = 0
  · have hb : (!(s.toList == (⟨#[]⟩ : ByteArray).toList)) = false := by rw [hn, decide_eq_true h0]; rfl
    ((repeat ((conv => whnf); (first | (refine LetN.pre ?_; first | ((conv => arg 1; whnf); refine LetN.mk ?_)) | (refine As.pre ?_; first | refine As.mk rfl ?_ | (refine As.mk ?_ ?_; · decide +kernel) | refine As.mk (andT (nor_self _) rfl) ?_ | refine As.mk (andT (nor_self _) (or_t _)) ?_ | refine As.mk (andT (or_t _) (or_nself _)) ?_ | refine As.mk (andT (or_t _) (or_t _)) ?_ | refine As.mk (andT (nor_self _) (andT (nor_self _) rfl)) ?_ | (refine As.mk ?_ ?_; · ((repeat' (refine andT ?_ ?_)) <;> (first | rfl | assumption | exact decide_eq_true (by omega) | exact decide_eq_true (by dsimp only; omega) | exact decide_eq_true (by simp; omega) | (simp; done))))) | (refine LetV.pre ?_; first | refine LetV.mk (.sc (.int _ _)) rfl ?_ | refine LetV.mk (.sc (.bool _)) rfl ?_ | refine LetV.mk (.sc _) rfl ?_ | refine LetV.mk (.agg _) rfl ?_ | refine LetV.mk (.slm _ _ _ _ _) rfl ?_ | refine LetV.mk (.ro _ _ _) rfl ?_ | refine LetV.mk (.ptr _ _ _ _) rfl ?_ | refine LetV.mk (.clo _ _ _) rfl ?_ | refine LetV.mk (.rp _ _) rfl ?_) | (refine LetI.pre ?_; first | refine LetI.wrap (by omega) (by omega) ?_ | refine LetI.mk _ rfl ?_) | (refine LetB.pre ?_; first | refine LetB.tt rfl ?_ | refine LetB.ff rfl ?_ | refine LetB.tt (by assumption) ?_ | refine LetB.ff (by assumption) ?_ | refine LetB.dect (by omega) ?_ | refine LetB.decf (by omega) ?_ | refine LetB.beqt (by omega) ?_ | refine LetB.beqf (by omega) ?_ | refine LetB.bnet (by omega) ?_ | refine LetB.bnef (by omega) ?_ | refine LetB.mk _ rfl ?_) | (refine Gd.pre ?_; first | refine Gd.run rfl ?_ | refine Gd.pass rfl ?_ | refine Gd.run (by assumption) ?_ | refine Gd.pass (by assumption) ?_ | (refine Gd.run ?_ ?_; · decide +kernel) | (refine Gd.pass ?_ ?_; · decide +kernel) | refine Gd.both ?_) | (refine Br.pre ?_; first | refine Br.tt rfl ?_ | refine Br.ff rfl ?_ | refine Br.tt (by assumption) ?_ | refine Br.ff (by assumption) ?_ | (refine Br.tt ?_ ?_; · decide +kernel) | (refine Br.ff ?_ ?_; · decide +kernel)) | (refine Ck.pre ?_; first | refine Ck.drawn (by kernel_rfl) ?_ | refine Ck.mk rfl ?_) | (refine LetL.pre ?_; first | refine LetL.mk [_] rfl ?_ | refine LetL.mk _ rfl ?_) | refine forceAs.pass ?_ | refine forceEs.pass ?_ | refine forceC.pass ?_))); (try (conv => whnf)))
    exact ⟨.inl rfl, ⟨_, rfl, congrArg bool (decide_eq_false fun h => by have := h.1.1; omega).symm⟩, trivial⟩
  · have hb : (!(s.toList == (⟨#[]⟩ : ByteArray).toList)) = true := by rw [hn, decide_eq_false h0]; rfl
    by_cases h8 : s.size ≤ 8
    · by_cases hr : r < 0
      · ((repeat ((conv => whnf); (first | (refine LetN.pre ?_; first | ((conv => arg 1; whnf); refine LetN.mk ?_)) | (refine As.pre ?_; first | refine As.mk rfl ?_ | (refine As.mk ?_ ?_; · decide +kernel) | refine As.mk (andT (nor_self _) rfl) ?_ | refine As.mk (andT (nor_self _) (or_t _)) ?_ | refine As.mk (andT (or_t _) (or_nself _)) ?_ | refine As.mk (andT (or_t _) (or_t _)) ?_ | refine As.mk (andT (nor_self _) (andT (nor_self _) rfl)) ?_ | (refine As.mk ?_ ?_; · ((repeat' (refine andT ?_ ?_)) <;> (first | rfl | assumption | exact decide_eq_true (by omega) | exact decide_eq_true (by dsimp only; omega) | exact decide_eq_true (by simp; omega) | (simp; done))))) | (refine LetV.pre ?_; first | refine LetV.mk (.sc (.int _ _)) rfl ?_ | refine LetV.mk (.sc (.bool _)) rfl ?_ | refine LetV.mk (.sc _) rfl ?_ | refine LetV.mk (.agg _) rfl ?_ | refine LetV.mk (.slm _ _ _ _ _) rfl ?_ | refine LetV.mk (.ro _ _ _) rfl ?_ | refine LetV.mk (.ptr _ _ _ _) rfl ?_ | refine LetV.mk (.clo _ _ _) rfl ?_ | refine LetV.mk (.rp _ _) rfl ?_) | (refine LetI.pre ?_; first | refine LetI.wrap (by omega) (by omega) ?_ | refine LetI.mk _ rfl ?_) | (refine LetB.pre ?_; first | refine LetB.tt rfl ?_ | refine LetB.ff rfl ?_ | refine LetB.tt (by assumption) ?_ | refine LetB.ff (by assumption) ?_ | refine LetB.dect (by omega) ?_ | refine LetB.decf (by omega) ?_ | refine LetB.beqt (by omega) ?_ | refine LetB.beqf (by omega) ?_ | refine LetB.bnet (by omega) ?_ | refine LetB.bnef (by omega) ?_ | refine LetB.mk _ rfl ?_) | (refine Gd.pre ?_; first | refine Gd.run rfl ?_ | refine Gd.pass rfl ?_ | refine Gd.run (by assumption) ?_ | refine Gd.pass (by assumption) ?_ | (refine Gd.run ?_ ?_; · decide +kernel) | (refine Gd.pass ?_ ?_; · decide +kernel) | refine Gd.both ?_) | (refine Br.pre ?_; first | refine Br.tt rfl ?_ | refine Br.ff rfl ?_ | refine Br.tt (by assumption) ?_ | refine Br.ff (by assumption) ?_ | (refine Br.tt ?_ ?_; · decide +kernel) | (refine Br.ff ?_ ?_; · decide +kernel)) | (refine Ck.pre ?_; first | refine Ck.drawn (by kernel_rfl) ?_ | refine Ck.mk rfl ?_) | (refine LetL.pre ?_; first | refine LetL.mk [_] rfl ?_ | refine LetL.mk _ rfl ?_) | (refine CallN.pre ?_; first | refine CallN.pure hi rfl rfl ?_) | refine forceAs.pass ?_ | refine forceEs.pass ?_ | refine forceC.pass ?_))); (try (conv => whnf)))
        exact ⟨.inl rfl, ⟨_, rfl, congrArg bool (decide_eq_true ⟨⟨by omega, h8⟩, fun i h => by rw [← byt_eq]; exact hx.1 hr i (Nat.zero_le _) h⟩).symm⟩, trivial⟩
      · ((repeat ((conv => whnf); (first | (refine LetN.pre ?_; first | ((conv => arg 1; whnf); refine LetN.mk ?_)) | (refine As.pre ?_; first | refine As.mk rfl ?_ | (refine As.mk ?_ ?_; · decide +kernel) | refine As.mk (andT (nor_self _) rfl) ?_ | refine As.mk (andT (nor_self _) (or_t _)) ?_ | refine As.mk (andT (or_t _) (or_nself _)) ?_ | refine As.mk (andT (or_t _) (or_t _)) ?_ | refine As.mk (andT (nor_self _) (andT (nor_self _) rfl)) ?_ | (refine As.mk ?_ ?_; · ((repeat' (refine andT ?_ ?_)) <;> (first | rfl | assumption | exact decide_eq_true (by omega) | exact decide_eq_true (by dsimp only; omega) | exact decide_eq_true (by simp; omega) | (simp; done))))) | (refine LetV.pre ?_; first | refine LetV.mk (.sc (.int _ _)) rfl ?_ | refine LetV.mk (.sc (.bool _)) rfl ?_ | refine LetV.mk (.sc _) rfl ?_ | refine LetV.mk (.agg _) rfl ?_ | refine LetV.mk (.slm _ _ _ _ _) rfl ?_ | refine LetV.mk (.ro _ _ _) rfl ?_ | refine LetV.mk (.ptr _ _ _ _) rfl ?_ | refine LetV.mk (.clo _ _ _) rfl ?_ | refine LetV.mk (.rp _ _) rfl ?_) | (refine LetI.pre ?_; first | refine LetI.wrap (by omega) (by omega) ?_ | refine LetI.mk _ rfl ?_) | (refine LetB.pre ?_; first | refine LetB.tt rfl ?_ | refine LetB.ff rfl ?_ | refine LetB.tt (by assumption) ?_ | refine LetB.ff (by assumption) ?_ | refine LetB.dect (by omega) ?_ | refine LetB.decf (by omega) ?_ | refine LetB.beqt (by omega) ?_ | refine LetB.beqf (by omega) ?_ | refine LetB.bnet (by omega) ?_ | refine LetB.bnef (by omega) ?_ | refine LetB.mk _ rfl ?_) | (refine Gd.pre ?_; first | refine Gd.run rfl ?_ | refine Gd.pass rfl ?_ | refine Gd.run (by assumption) ?_ | refine Gd.pass (by assumption) ?_ | (refine Gd.run ?_ ?_; · decide +kernel) | (refine Gd.pass ?_ ?_; · decide +kernel) | refine Gd.both ?_) | (refine Br.pre ?_; first | refine Br.tt rfl ?_ | refine Br.ff rfl ?_ | refine Br.tt (by assumption) ?_ | refine Br.ff (by assumption) ?_ | (refine Br.tt ?_ ?_; · decide +kernel) | (refine Br.ff ?_ ?_; · decide +kernel)) | (refine Ck.pre ?_; first | refine Ck.drawn (by kernel_rfl) ?_ | refine Ck.mk rfl ?_) | (refine LetL.pre ?_; first | refine LetL.mk [_] rfl ?_ | refine LetL.mk _ rfl ?_) | (refine CallN.pre ?_; first | refine CallN.pure hi rfl rfl ?_) | refine forceAs.pass ?_ | refine forceEs.pass ?_ | refine forceC.pass ?_))); (try (conv => whnf)))
        exact ⟨.inl rfl, ⟨_, rfl, congrArg bool (decide_eq_false fun h => hr (hx.2 fun i _ hi => by rw [byt_eq]; exact h.2 i hi)).symm⟩, trivial⟩
    · ((repeat ((conv => whnf); (first | (refine LetN.pre ?_; first | ((conv => arg 1; whnf); refine LetN.mk ?_)) | (refine As.pre ?_; first | refine As.mk rfl ?_ | (refine As.mk ?_ ?_; · decide +kernel) | refine As.mk (andT (nor_self _) rfl) ?_ | refine As.mk (andT (nor_self _) (or_t _)) ?_ | refine As.mk (andT (or_t _) (or_nself _)) ?_ | refine As.mk (andT (or_t _) (or_t _)) ?_ | refine As.mk (andT (nor_self _) (andT (nor_self _) rfl)) ?_ | (refine As.mk ?_ ?_; · ((repeat' (refine andT ?_ ?_)) <;> (first | rfl | assumption | exact decide_eq_true (by omega) | exact decide_eq_true (by dsimp only; omega) | exact decide_eq_true (by simp; omega) | (simp; done))))) | (refine LetV.pre ?_; first | refine LetV.mk (.sc (.int _ _)) rfl ?_ | refine LetV.mk (.sc (.bool _)) rfl ?_ | refine LetV.mk (.sc _) rfl ?_ | refine LetV.mk (.agg _) rfl ?_ | refine LetV.mk (.slm _ _ _ _ _) rfl ?_ | refine LetV.mk (.ro _ _ _) rfl ?_ | refine LetV.mk (.ptr _ _ _ _) rfl ?_ | refine LetV.mk (.clo _ _ _) rfl ?_ | refine LetV.mk (.rp _ _) rfl ?_) | (refine LetI.pre ?_; first | refine LetI.wrap (by omega) (by omega) ?_ | refine LetI.mk _ rfl ?_) | (refine LetB.pre ?_; first | refine LetB.tt rfl ?_ | refine LetB.ff rfl ?_ | refine LetB.tt (by assumption) ?_ | refine LetB.ff (by assumption) ?_ | refine LetB.dect (by omega) ?_ | refine LetB.decf (by omega) ?_ | refine LetB.beqt (by omega) ?_ | refine LetB.beqf (by omega) ?_ | refine LetB.bnet (by omega) ?_ | refine LetB.bnef (by omega) ?_ | refine LetB.mk _ rfl ?_) | (refine Gd.pre ?_; first | refine Gd.run rfl ?_ | refine Gd.pass rfl ?_ | refine Gd.run (by assumption) ?_ | refine Gd.pass (by assumption) ?_ | (refine Gd.run ?_ ?_; · decide +kernel) | (refine Gd.pass ?_ ?_; · decide +kernel) | refine Gd.both ?_) | (refine Br.pre ?_; first | refine Br.tt rfl ?_ | refine Br.ff rfl ?_ | refine Br.tt (by assumption) ?_ | refine Br.ff (by assumption) ?_ | (refine Br.tt ?_ ?_; · decide +kernel) | (refine Br.ff ?_ ?_; · decide +kernel)) | (refine Ck.pre ?_; first | refine Ck.drawn (by kernel_rfl) ?_ | refine Ck.mk rfl ?_) | (refine LetL.pre ?_; first | refine LetL.mk [_] rfl ?_ | refine LetL.mk _ rfl ?_) | refine forceAs.pass ?_ | refine forceEs.pass ?_ | refine forceC.pass ?_))); (try (conv => whnf)))
      exact ⟨.inl rfl, ⟨_, rfl, congrArg bool (decide_eq_false fun h => h8 h.1.2).symm⟩, trivial⟩
/-! ### The order of courses -/
theorem isNaNS_f (a : ByteArray) : AFun Try.prog 90 0 [str a] [] (bool false) [] := by
  refine AFun.of_W T_ok mixed Try.func90 rfl (Nat.le_of_ble_eq_true rfl) rfl ?_
  have h : (!(a.toList == a.toList)) = false := by simp
  ((repeat ((conv => whnf); (first | (refine LetN.pre ?_; first | ((conv => arg 1; whnf); refine LetN.mk ?_)) | (refine As.pre ?_; first | refine As.mk rfl ?_ | (refine As.mk ?_ ?_; · decide +kernel) | refine As.mk (andT (nor_self _) rfl) ?_ | refine As.mk (andT (nor_self _) (or_t _)) ?_ | refine As.mk (andT (or_t _) (or_nself _)) ?_ | refine As.mk (andT (or_t _) (or_t _)) ?_ | refine As.mk (andT (nor_self _) (andT (nor_self _) rfl)) ?_ | (refine As.mk ?_ ?_; · ((repeat' (refine andT ?_ ?_)) <;> (first | rfl | assumption | exact decide_eq_true (by omega) | exact decide_eq_true (by dsimp only; omega) | exact decide_eq_true (by simp; omega) | (simp; done))))) | (refine LetV.pre ?_; first | refine LetV.mk (.sc (.int _ _)) rfl ?_ | refine LetV.mk (.sc (.bool _)) rfl ?_ | refine LetV.mk (.sc _) rfl ?_ | refine LetV.mk (.agg _) rfl ?_ | refine LetV.mk (.slm _ _ _ _ _) rfl ?_ | refine LetV.mk (.ro _ _ _) rfl ?_ | refine LetV.mk (.ptr _ _ _ _) rfl ?_ | refine LetV.mk (.clo _ _ _) rfl ?_ | refine LetV.mk (.rp _ _) rfl ?_) | (refine LetI.pre ?_; first | refine LetI.wrap (by omega) (by omega) ?_ | refine LetI.mk _ rfl ?_) | (refine LetB.pre ?_; first | refine LetB.tt rfl ?_ | refine LetB.ff rfl ?_ | refine LetB.tt (by assumption) ?_ | refine LetB.ff (by assumption) ?_ | refine LetB.dect (by omega) ?_ | refine LetB.decf (by omega) ?_ | refine LetB.beqt (by omega) ?_ | refine LetB.beqf (by omega) ?_ | refine LetB.bnet (by omega) ?_ | refine LetB.bnef (by omega) ?_ | refine LetB.mk _ rfl ?_) | (refine Gd.pre ?_; first | refine Gd.run rfl ?_ | refine Gd.pass rfl ?_ | refine Gd.run (by assumption) ?_ | refine Gd.pass (by assumption) ?_ | (refine Gd.run ?_ ?_; · decide +kernel) | (refine Gd.pass ?_ ?_; · decide +kernel) | refine Gd.both ?_) | (refine Br.pre ?_; first | refine Br.tt rfl ?_ | refine Br.ff rfl ?_ | refine Br.tt (by assumption) ?_ | refine Br.ff (by assumption) ?_ | (refine Br.tt ?_ ?_; · decide +kernel) | (refine Br.ff ?_ ?_; · decide +kernel)) | (refine Ck.pre ?_; first | refine Ck.drawn (by kernel_rfl) ?_ | refine Ck.mk rfl ?_) | (refine LetL.pre ?_; first | refine LetL.mk [_] rfl ?_ | refine LetL.mk _ rfl ?_) | refine forceAs.pass ?_ | refine forceEs.pass ?_ | refine forceC.pass ?_))); (try (conv => whnf)))
  exact ⟨.inl rfl, ⟨_, rfl, rfl⟩, trivial⟩
abbrev ltB (a b : ByteArray) : Bool := Op.bytesLess a.toList b.toList
def cmpT (a b : ByteArray) : Int := if ltB a b then -1 else if a.toList = b.toList then 0 else 1
theorem CompareS_f (a b : ByteArray) : AFun Try.prog 74 0 [str a, str b] [] (int (cmpT a b)) [] := by
  refine AFun.of_W T_ok mixed Try.func74 rfl (Nat.le_of_ble_eq_true rfl) rfl ?_
  have hN := isNaNS_f
  unfold cmpT
  by_cases h1 : Op.bytesLess a.toList b.toList = true
  · rw [if_pos h1]
    ((repeat ((conv => whnf); (first | (refine LetN.pre ?_; first | ((conv => arg 1; whnf); refine LetN.mk ?_)) | (refine As.pre ?_; first | refine As.mk rfl ?_ | (refine As.mk ?_ ?_; · decide +kernel) | refine As.mk (andT (nor_self _) rfl) ?_ | refine As.mk (andT (nor_self _) (or_t _)) ?_ | refine As.mk (andT (or_t _) (or_nself _)) ?_ | refine As.mk (andT (or_t _) (or_t _)) ?_ | refine As.mk (andT (nor_self _) (andT (nor_self _) rfl)) ?_ | (refine As.mk ?_ ?_; · ((repeat' (refine andT ?_ ?_)) <;> (first | rfl | assumption | exact decide_eq_true (by omega) | exact decide_eq_true (by dsimp only; omega) | exact decide_eq_true (by simp; omega) | (simp; done))))) | (refine LetV.pre ?_; first | refine LetV.mk (.sc (.int _ _)) rfl ?_ | refine LetV.mk (.sc (.bool _)) rfl ?_ | refine LetV.mk (.sc _) rfl ?_ | refine LetV.mk (.agg _) rfl ?_ | refine LetV.mk (.slm _ _ _ _ _) rfl ?_ | refine LetV.mk (.ro _ _ _) rfl ?_ | refine LetV.mk (.ptr _ _ _ _) rfl ?_ | refine LetV.mk (.clo _ _ _) rfl ?_ | refine LetV.mk (.rp _ _) rfl ?_) | (refine LetI.pre ?_; first | refine LetI.wrap (by omega) (by omega) ?_ | refine LetI.mk _ rfl ?_) | (refine LetB.pre ?_; first | refine LetB.tt rfl ?_ | refine LetB.ff rfl ?_ | refine LetB.tt (by assumption) ?_ | refine LetB.ff (by assumption) ?_ | refine LetB.dect (by omega) ?_ | refine LetB.decf (by omega) ?_ | refine LetB.beqt (by omega) ?_ | refine LetB.beqf (by omega) ?_ | refine LetB.bnet (by omega) ?_ | refine LetB.bnef (by omega) ?_ | refine LetB.mk _ rfl ?_) | (refine Gd.pre ?_; first | refine Gd.run rfl ?_ | refine Gd.pass rfl ?_ | refine Gd.run (by assumption) ?_ | refine Gd.pass (by assumption) ?_ | (refine Gd.run ?_ ?_; · decide +kernel) | (refine Gd.pass ?_ ?_; · decide +kernel) | refine Gd.both ?_) | (refine Br.pre ?_; first | refine Br.tt rfl ?_ | refine Br.ff rfl ?_ | refine Br.tt (by assumption) ?_ | refine Br.ff (by assumption) ?_ | (refine Br.tt ?_ ?_; · decide +kernel) | (refine Br.ff ?_ ?_; · decide +kernel)) | (refine Ck.pre ?_; first | refine Ck.drawn (by kernel_rfl) ?_ | refine Ck.mk rfl ?_) | (refine LetL.pre ?_; first | refine LetL.mk [_] rfl ?_ | refine LetL.mk _ rfl ?_) | (refine CallN.pre ?_; first | refine CallN.pure (hN _) rfl rfl ?_) | refine forceAs.pass ?_ | refine forceEs.pass ?_ | refine forceC.pass ?_))); (try (conv => whnf)))
    exact ⟨.inl rfl, ⟨_, rfl, rfl⟩, trivial⟩
  · rw [if_neg h1]
    have h1' : Op.bytesLess a.toList b.toList = false := by simpa using h1
    by_cases h2 : a.toList = b.toList
    · rw [if_pos h2]
      have h3 : (!(Op.bytesLess a.toList b.toList || a.toList == b.toList)) = false := by rw [h2]; simp
      ((repeat ((conv => whnf); (first | (refine LetN.pre ?_; first | ((conv => arg 1; whnf); refine LetN.mk ?_)) | (refine As.pre ?_; first | refine As.mk rfl ?_ | (refine As.mk ?_ ?_; · decide +kernel) | refine As.mk (andT (nor_self _) rfl) ?_ | refine As.mk (andT (nor_self _) (or_t _)) ?_ | refine As.mk (andT (or_t _) (or_nself _)) ?_ | refine As.mk (andT (or_t _) (or_t _)) ?_ | refine As.mk (andT (nor_self _) (andT (nor_self _) rfl)) ?_ | (refine As.mk ?_ ?_; · ((repeat' (refine andT ?_ ?_)) <;> (first | rfl | assumption | exact decide_eq_true (by omega) | exact decide_eq_true (by dsimp only; omega) | exact decide_eq_true (by simp; omega) | (simp; done))))) | (refine LetV.pre ?_; first | refine LetV.mk (.sc (.int _ _)) rfl ?_ | refine LetV.mk (.sc (.bool _)) rfl ?_ | refine LetV.mk (.sc _) rfl ?_ | refine LetV.mk (.agg _) rfl ?_ | refine LetV.mk (.slm _ _ _ _ _) rfl ?_ | refine LetV.mk (.ro _ _ _) rfl ?_ | refine LetV.mk (.ptr _ _ _ _) rfl ?_ | refine LetV.mk (.clo _ _ _) rfl ?_ | refine LetV.mk (.rp _ _) rfl ?_) | (refine LetI.pre ?_; first | refine LetI.wrap (by omega) (by omega) ?_ | refine LetI.mk _ rfl ?_) | (refine LetB.pre ?_; first | refine LetB.tt rfl ?_ | refine LetB.ff rfl ?_ | refine LetB.tt (by assumption) ?_ | refine LetB.ff (by assumption) ?_ | refine LetB.dect (by omega) ?_ | refine LetB.decf (by omega) ?_ | refine LetB.beqt (by omega) ?_ | refine LetB.beqf (by omega) ?_ | refine LetB.bnet (by omega) ?_ | refine LetB.bnef (by omega) ?_ | refine LetB.mk _ rfl ?_) | (refine Gd.pre ?_; first | refine Gd.run rfl ?_ | refine Gd.pass rfl ?_ | refine Gd.run (by assumption) ?_ | refine Gd.pass (by assumption) ?_ | (refine Gd.run ?_ ?_; · decide +kernel) | (refine Gd.pass ?_ ?_; · decide +kernel) | refine Gd.both ?_) | (refine Br.pre ?_; first | refine Br.tt rfl ?_ | refine Br.ff rfl ?_ | refine Br.tt (by assumption) ?_ | refine Br.ff (by assumption) ?_ | (refine Br.tt ?_ ?_; · decide +kernel) | (refine Br.ff ?_ ?_; · decide +kernel)) | (refine Ck.pre ?_; first | refine Ck.drawn (by kernel_rfl) ?_ | refine Ck.mk rfl ?_) | (refine LetL.pre ?_; first | refine LetL.mk [_] rfl ?_ | refine LetL.mk _ rfl ?_) | (refine CallN.pre ?_; first | refine CallN.pure (hN _) rfl rfl ?_) | refine forceAs.pass ?_ | refine forceEs.pass ?_ | refine forceC.pass ?_))); (try (conv => whnf)))
      exact ⟨.inl rfl, ⟨_, rfl, rfl⟩, trivial⟩
    · rw [if_neg h2]
      have h3 : (!(Op.bytesLess a.toList b.toList || a.toList == b.toList)) = true := by rw [h1']; simpa using h2
      ((repeat ((conv => whnf); (first | (refine LetN.pre ?_; first | ((conv => arg 1; whnf); refine LetN.mk ?_)) | (refine As.pre ?_; first | refine As.mk rfl ?_ | (refine As.mk ?_ ?_; · decide +kernel) | refine As.mk (andT (nor_self _) rfl) ?_ | refine As.mk (andT (nor_self _) (or_t _)) ?_ | refine As.mk (andT (or_t _) (or_nself _)) ?_ | refine As.mk (andT (or_t _) (or_t _)) ?_ | refine As.mk (andT (nor_self _) (andT (nor_self _) rfl)) ?_ | (refine As.mk ?_ ?_; · ((repeat' (refine andT ?_ ?_)) <;> (first | rfl | assumption | exact decide_eq_true (by omega) | exact decide_eq_true (by dsimp only; omega) | exact decide_eq_true (by simp; omega) | (simp; done))))) | (refine LetV.pre ?_; first | refine LetV.mk (.sc (.int _ _)) rfl ?_ | refine LetV.mk (.sc (.bool _)) rfl ?_ | refine LetV.mk (.sc _) rfl ?_ | refine LetV.mk (.agg _) rfl ?_ | refine LetV.mk (.slm _ _ _ _ _) rfl ?_ | refine LetV.mk (.ro _ _ _) rfl ?_ | refine LetV.mk (.ptr _ _ _ _) rfl ?_ | refine LetV.mk (.clo _ _ _) rfl ?_ | refine LetV.mk (.rp _ _) rfl ?_) | (refine LetI.pre ?_; first | refine LetI.wrap (by omega) (by omega) ?_ | refine LetI.mk _ rfl ?_) | (refine LetB.pre ?_; first | refine LetB.tt rfl ?_ | refine LetB.ff rfl ?_ | refine LetB.tt (by assumption) ?_ | refine LetB.ff (by assumption) ?_ | refine LetB.dect (by omega) ?_ | refine LetB.decf (by omega) ?_ | refine LetB.beqt (by omega) ?_ | refine LetB.beqf (by omega) ?_ | refine LetB.bnet (by omega) ?_ | refine LetB.bnef (by omega) ?_ | refine LetB.mk _ rfl ?_) | (refine Gd.pre ?_; first | refine Gd.run rfl ?_ | refine Gd.pass rfl ?_ | refine Gd.run (by assumption) ?_ | refine Gd.pass (by assumption) ?_ | (refine Gd.run ?_ ?_; · decide +kernel) | (refine Gd.pass ?_ ?_; · decide +kernel) | refine Gd.both ?_) | (refine Br.pre ?_; first | refine Br.tt rfl ?_ | refine Br.ff rfl ?_ | refine Br.tt (by assumption) ?_ | refine Br.ff (by assumption) ?_ | (refine Br.tt ?_ ?_; · decide +kernel) | (refine Br.ff ?_ ?_; · decide +kernel)) | (refine Ck.pre ?_; first | refine Ck.drawn (by kernel_rfl) ?_ | refine Ck.mk rfl ?_) | (refine LetL.pre ?_; first | refine LetL.mk [_] rfl ?_ | refine LetL.mk _ rfl ?_) | (refine CallN.pre ?_; first | refine CallN.pure (hN _) rfl rfl ?_) | refine forceAs.pass ?_ | refine forceEs.pass ?_ | refine forceC.pass ?_))); (try (conv => whnf)))
      exact ⟨.inl rfl, ⟨_, rfl, rfl⟩, trivial⟩
/-- The order of two courses. -/
def cmpC (a b : Co) : Int := firstNZ [cmpI a.1 b.1, cmpT a.2 b.2]
theorem compare_f (a b : Co) : AFun Try.prog 54 0 [coA a, coA b] [] (int (cmpC a b)) [] := by
  refine AFun.of_W T_ok mixed Try.func54 rfl (Nat.le_of_ble_eq_true rfl) rfl ?_
  ((repeat ((conv => whnf); (first | (refine LetN.pre ?_; first | ((conv => arg 1; whnf); refine LetN.mk ?_)) | (refine As.pre ?_; first | refine As.mk rfl ?_ | (refine As.mk ?_ ?_; · decide +kernel) | refine As.mk (andT (nor_self _) rfl) ?_ | refine As.mk (andT (nor_self _) (or_t _)) ?_ | refine As.mk (andT (or_t _) (or_nself _)) ?_ | refine As.mk (andT (or_t _) (or_t _)) ?_ | refine As.mk (andT (nor_self _) (andT (nor_self _) rfl)) ?_ | (refine As.mk ?_ ?_; · ((repeat' (refine andT ?_ ?_)) <;> (first | rfl | assumption | exact decide_eq_true (by omega) | exact decide_eq_true (by dsimp only; omega) | exact decide_eq_true (by simp; omega) | (simp; done))))) | (refine LetV.pre ?_; first | refine LetV.mk (.sc (.int _ _)) rfl ?_ | refine LetV.mk (.sc (.bool _)) rfl ?_ | refine LetV.mk (.sc _) rfl ?_ | refine LetV.mk (.agg _) rfl ?_ | refine LetV.mk (.slm _ _ _ _ _) rfl ?_ | refine LetV.mk (.ro _ _ _) rfl ?_ | refine LetV.mk (.ptr _ _ _ _) rfl ?_ | refine LetV.mk (.clo _ _ _) rfl ?_ | refine LetV.mk (.rp _ _) rfl ?_) | (refine LetI.pre ?_; first | refine LetI.wrap (by omega) (by omega) ?_ | refine LetI.mk _ rfl ?_) | (refine LetB.pre ?_; first | refine LetB.tt rfl ?_ | refine LetB.ff rfl ?_ | refine LetB.tt (by assumption) ?_ | refine LetB.ff (by assumption) ?_ | refine LetB.dect (by omega) ?_ | refine LetB.decf (by omega) ?_ | refine LetB.beqt (by omega) ?_ | refine LetB.beqf (by omega) ?_ | refine LetB.bnet (by omega) ?_ | refine LetB.bnef (by omega) ?_ | refine LetB.mk _ rfl ?_) | (refine Gd.pre ?_; first | refine Gd.run rfl ?_ | refine Gd.pass rfl ?_ | refine Gd.run (by assumption) ?_ | refine Gd.pass (by assumption) ?_ | (refine Gd.run ?_ ?_; · decide +kernel) | (refine Gd.pass ?_ ?_; · decide +kernel) | refine Gd.both ?_) | (refine Br.pre ?_; first | refine Br.tt rfl ?_ | refine Br.ff rfl ?_ | refine Br.tt (by assumption) ?_ | refine Br.ff (by assumption) ?_ | (refine Br.tt ?_ ?_; · decide +kernel) | (refine Br.ff ?_ ?_; · decide +kernel)) | (refine Ck.pre ?_; first | refine Ck.drawn (by kernel_rfl) ?_ | refine Ck.mk rfl ?_) | (refine LetL.pre ?_; first | refine LetL.mk [_] rfl ?_ | refine LetL.mk _ rfl ?_) | (refine CallN.pre ?_; first | refine CallN.pure (Compare_f _ _) rfl rfl ?_ | refine CallN.pure (CompareS_f _ _) rfl rfl ?_ | refine CallN.pure (Or2_f _ _ _) rfl rfl ?_) | refine forceAs.pass ?_ | refine forceEs.pass ?_ | refine forceC.pass ?_))); (try (conv => whnf)))
  exact ⟨.inl rfl, ⟨_, rfl, rfl⟩, trivial⟩
def prec (a b : Co) : Bool := decide (a.1 < b.1) || (decide (a.1 = b.1) && ltB a.2 b.2)
theorem cmpC_neg (a b : Co) : cmpC a b < 0 ↔ prec a b = true := by
  unfold cmpC prec cmpI cmpT firstNZ firstNZ firstNZ
  by_cases h1 : a.1 < b.1
  · simp [h1]
  · by_cases h2 : b.1 < a.1
    · have : ¬ a.1 = b.1 := by omega
      simp [h1, h2, this]
    · have : a.1 = b.1 := by omega
      by_cases h3 : ltB a.2 b.2 = true
      · simp [h1, h2, this, h3]
      · simp only [h1, h2, this, h3]
        by_cases h4 : a.2.toList = b.2.toList <;> simp [h4]
theorem rPrecedes_f (a b : Co) : AFun Try.prog 30 0 [coA a, coA b] [] (bool (prec a b)) [] := by
  refine AFun.of_W T_ok mixed Try.func30 rfl (Nat.le_of_ble_eq_true rfl) rfl ?_
  unfold prec
  generalize hc : ltB a.2 b.2 = c
  by_cases h1 : a.1 < b.1
  · rw [decide_eq_true h1]
    ((repeat ((conv => whnf); (first | (refine LetN.pre ?_; first | ((conv => arg 1; whnf); refine LetN.mk ?_)) | (refine As.pre ?_; first | refine As.mk rfl ?_ | (refine As.mk ?_ ?_; · decide +kernel) | refine As.mk (andT (nor_self _) rfl) ?_ | refine As.mk (andT (nor_self _) (or_t _)) ?_ | refine As.mk (andT (or_t _) (or_nself _)) ?_ | refine As.mk (andT (or_t _) (or_t _)) ?_ | refine As.mk (andT (nor_self _) (andT (nor_self _) rfl)) ?_ | (refine As.mk ?_ ?_; · ((repeat' (refine andT ?_ ?_)) <;> (first | rfl | assumption | exact decide_eq_true (by omega) | exact decide_eq_true (by dsimp only; omega) | exact decide_eq_true (by simp; omega) | (simp; done))))) | (refine LetV.pre ?_; first | refine LetV.mk (.sc (.int _ _)) rfl ?_ | refine LetV.mk (.sc (.bool _)) rfl ?_ | refine LetV.mk (.sc _) rfl ?_ | refine LetV.mk (.agg _) rfl ?_ | refine LetV.mk (.slm _ _ _ _ _) rfl ?_ | refine LetV.mk (.ro _ _ _) rfl ?_ | refine LetV.mk (.ptr _ _ _ _) rfl ?_ | refine LetV.mk (.clo _ _ _) rfl ?_ | refine LetV.mk (.rp _ _) rfl ?_) | (refine LetI.pre ?_; first | refine LetI.wrap (by omega) (by omega) ?_ | refine LetI.mk _ rfl ?_) | (refine LetB.pre ?_; first | refine LetB.tt rfl ?_ | refine LetB.ff rfl ?_ | refine LetB.tt (by assumption) ?_ | refine LetB.ff (by assumption) ?_ | refine LetB.dect (by omega) ?_ | refine LetB.decf (by omega) ?_ | refine LetB.beqt (by omega) ?_ | refine LetB.beqf (by omega) ?_ | refine LetB.bnet (by omega) ?_ | refine LetB.bnef (by omega) ?_ | refine LetB.mk _ rfl ?_) | (refine Gd.pre ?_; first | refine Gd.run rfl ?_ | refine Gd.pass rfl ?_ | refine Gd.run (by assumption) ?_ | refine Gd.pass (by assumption) ?_ | (refine Gd.run ?_ ?_; · decide +kernel) | (refine Gd.pass ?_ ?_; · decide +kernel) | refine Gd.both ?_) | (refine Br.pre ?_; first | refine Br.tt rfl ?_ | refine Br.ff rfl ?_ | refine Br.tt (by assumption) ?_ | refine Br.ff (by assumption) ?_ | (refine Br.tt ?_ ?_; · decide +kernel) | (refine Br.ff ?_ ?_; · decide +kernel)) | (refine Ck.pre ?_; first | refine Ck.drawn (by kernel_rfl) ?_ | refine Ck.mk rfl ?_) | (refine LetL.pre ?_; first | refine LetL.mk [_] rfl ?_ | refine LetL.mk _ rfl ?_) | refine forceAs.pass ?_ | refine forceEs.pass ?_ | refine forceC.pass ?_))); (try (conv => whnf)))
    exact ⟨.inl rfl, ⟨_, rfl, rfl⟩, trivial⟩
  · rw [decide_eq_false h1]
    by_cases h2 : a.1 = b.1
    · rw [decide_eq_true h2]
      cases c <;>
      · ((repeat ((conv => whnf); (first | (refine LetN.pre ?_; first | ((conv => arg 1; whnf); refine LetN.mk ?_)) | (refine As.pre ?_; first | refine As.mk rfl ?_ | (refine As.mk ?_ ?_; · decide +kernel) | refine As.mk (andT (nor_self _) rfl) ?_ | refine As.mk (andT (nor_self _) (or_t _)) ?_ | refine As.mk (andT (or_t _) (or_nself _)) ?_ | refine As.mk (andT (or_t _) (or_t _)) ?_ | refine As.mk (andT (nor_self _) (andT (nor_self _) rfl)) ?_ | (refine As.mk ?_ ?_; · ((repeat' (refine andT ?_ ?_)) <;> (first | rfl | assumption | exact decide_eq_true (by omega) | exact decide_eq_true (by dsimp only; omega) | exact decide_eq_true (by simp; omega) | (simp; done))))) | (refine LetV.pre ?_; first | refine LetV.mk (.sc (.int _ _)) rfl ?_ | refine LetV.mk (.sc (.bool _)) rfl ?_ | refine LetV.mk (.sc _) rfl ?_ | refine LetV.mk (.agg _) rfl ?_ | refine LetV.mk (.slm _ _ _ _ _) rfl ?_ | refine LetV.mk (.ro _ _ _) rfl ?_ | refine LetV.mk (.ptr _ _ _ _) rfl ?_ | refine LetV.mk (.clo _ _ _) rfl ?_ | refine LetV.mk (.rp _ _) rfl ?_) | (refine LetI.pre ?_; first | refine LetI.wrap (by omega) (by omega) ?_ | refine LetI.mk _ rfl ?_) | (refine LetB.pre ?_; first | refine LetB.tt rfl ?_ | refine LetB.ff rfl ?_ | refine LetB.tt (by assumption) ?_ | refine LetB.ff (by assumption) ?_ | refine LetB.dect (by omega) ?_ | refine LetB.decf (by omega) ?_ | refine LetB.beqt (by omega) ?_ | refine LetB.beqf (by omega) ?_ | refine LetB.bnet (by omega) ?_ | refine LetB.bnef (by omega) ?_ | refine LetB.mk _ rfl ?_) | (refine Gd.pre ?_; first | refine Gd.run rfl ?_ | refine Gd.pass rfl ?_ | refine Gd.run (by assumption) ?_ | refine Gd.pass (by assumption) ?_ | (refine Gd.run ?_ ?_; · decide +kernel) | (refine Gd.pass ?_ ?_; · decide +kernel) | refine Gd.both ?_) | (refine Br.pre ?_; first | refine Br.tt rfl ?_ | refine Br.ff rfl ?_ | refine Br.tt (by assumption) ?_ | refine Br.ff (by assumption) ?_ | (refine Br.tt ?_ ?_; · decide +kernel) | (refine Br.ff ?_ ?_; · decide +kernel)) | (refine Ck.pre ?_; first | refine Ck.drawn (by kernel_rfl) ?_ | refine Ck.mk rfl ?_) | (refine LetL.pre ?_; first | refine LetL.mk [_] rfl ?_ | refine LetL.mk _ rfl ?_) | refine forceAs.pass ?_ | refine forceEs.pass ?_ | refine forceC.pass ?_))); (try (conv => whnf)))
        exact ⟨.inl rfl, ⟨_, rfl, rfl⟩, trivial⟩
    · rw [decide_eq_false h2]
      ((repeat ((conv => whnf); (first | (refine LetN.pre ?_; first | ((conv => arg 1; whnf); refine LetN.mk ?_)) | (refine As.pre ?_; first | refine As.mk rfl ?_ | (refine As.mk ?_ ?_; · decide +kernel) | refine As.mk (andT (nor_self _) rfl) ?_ | refine As.mk (andT (nor_self _) (or_t _)) ?_ | refine As.mk (andT (or_t _) (or_nself _)) ?_ | refine As.mk (andT (or_t _) (or_t _)) ?_ | refine As.mk (andT (nor_self _) (andT (nor_self _) rfl)) ?_ | (refine As.mk ?_ ?_; · ((repeat' (refine andT ?_ ?_)) <;> (first | rfl | assumption | exact decide_eq_true (by omega) | exact decide_eq_true (by dsimp only; omega) | exact decide_eq_true (by simp; omega) | (simp; done))))) | (refine LetV.pre ?_; first | refine LetV.mk (.sc (.int _ _)) rfl ?_ | refine LetV.mk (.sc (.bool _)) rfl ?_ | refine LetV.mk (.sc _) rfl ?_ | refine LetV.mk (.agg _) rfl ?_ | refine LetV.mk (.slm _ _ _ _ _) rfl ?_ | refine LetV.mk (.ro _ _ _) rfl ?_ | refine LetV.mk (.ptr _ _ _ _) rfl ?_ | refine LetV.mk (.clo _ _ _) rfl ?_ | refine LetV.mk (.rp _ _) rfl ?_) | (refine LetI.pre ?_; first | refine LetI.wrap (by omega) (by omega) ?_ | refine LetI.mk _ rfl ?_) | (refine LetB.pre ?_; first | refine LetB.tt rfl ?_ | refine LetB.ff rfl ?_ | refine LetB.tt (by assumption) ?_ | refine LetB.ff (by assumption) ?_ | refine LetB.dect (by omega) ?_ | refine LetB.decf (by omega) ?_ | refine LetB.beqt (by omega) ?_ | refine LetB.beqf (by omega) ?_ | refine LetB.bnet (by omega) ?_ | refine LetB.bnef (by omega) ?_ | refine LetB.mk _ rfl ?_) | (refine Gd.pre ?_; first | refine Gd.run rfl ?_ | refine Gd.pass rfl ?_ | refine Gd.run (by assumption) ?_ | refine Gd.pass (by assumption) ?_ | (refine Gd.run ?_ ?_; · decide +kernel) | (refine Gd.pass ?_ ?_; · decide +kernel) | refine Gd.both ?_) | (refine Br.pre ?_; first | refine Br.tt rfl ?_ | refine Br.ff rfl ?_ | refine Br.tt (by assumption) ?_ | refine Br.ff (by assumption) ?_ | (refine Br.tt ?_ ?_; · decide +kernel) | (refine Br.ff ?_ ?_; · decide +kernel)) | (refine Ck.pre ?_; first | refine Ck.drawn (by kernel_rfl) ?_ | refine Ck.mk rfl ?_) | (refine LetL.pre ?_; first | refine LetL.mk [_] rfl ?_ | refine LetL.mk _ rfl ?_) | refine forceAs.pass ?_ | refine forceEs.pass ?_ | refine forceC.pass ?_))); (try (conv => whnf)))
      exact ⟨.inl rfl, ⟨_, rfl, rfl⟩, trivial⟩
end Pb
end Go.Proofs.Ytjnmbmdplchfkaa
namespace Go.Proofs.Ytjnmbmdplchfkaa
open Go.Proofs.Ytjnmbmdplchfkaa.Am
set_option maxRecDepth 100000
variable [Lo]
namespace Pb
/-! ### Copies of lists -/
abbrev cty : TypeId := 65
theorem pure_co : ∀ l : List Co, AV.namesL (fun _ => false) (l.map coA) = true
  | [] => rfl
  | p :: l => by simp only [List.map_cons, AV.namesL, pure_co l]; rfl
theorem stor_co (l : List Co) : storables (l.map coA) = true := List.all_eq_true.2 fun a ha => by obtain ⟨x, _, rfl⟩ := List.mem_map.1 ha; rfl
theorem CloneC_s (s : List Co) (hs : s.length ≤ 1000) : AFun Try.prog 70 0 [.ro {} 2 (s.map coA)] [] (.slm {} 0 2 0 s.length) [(0, .row 2 cty (s.map coA))] := by
  have main : ∀ fl : Fl, (fl.nn || decide (0 < (s.map coA).length)) = true → AFun Try.prog 70 0 [.ro fl 2 (s.map coA)] [] (.slm {} 0 2 0 s.length) [(0, .row 2 cty (s.map coA))] := by
    intro fl hnn
    refine AFun.of_S T_ok mixed Try.func70 rfl (Nat.le_of_ble_eq_true rfl) rfl ?_
    have hst := stor_co s
    have hml : (s.map coA).length = s.length := List.length_map _
    ((repeat ((conv => whnf); (first | (refine LetN.pre ?_; first | ((conv => arg 1; whnf); refine LetN.mk ?_)) | (refine As.pre ?_; first | refine As.mk rfl ?_ | (refine As.mk ?_ ?_; · ((repeat' (refine andT ?_ ?_)) <;> (first | rfl | assumption | exact decide_eq_true (by omega) | exact decide_eq_true (by dsimp only; omega) | exact decide_eq_true (by simp; omega) | (simp; done))))) | (refine LetB.pre ?_; first | refine LetB.ff rfl ?_) | (refine Br.pre ?_; first | refine Br.ff rfl ?_) | (refine Ck.pre ?_; first | refine Ck.mk rfl ?_) | (refine LetL.pre ?_; first | refine LetL.mk (ty := cty) (s.map coA) (by simp) ?_)))); (try (conv => whnf)))
    exact ⟨⟨[(2, .slm {} 0 2 0 s.length)], [(0, .row 2 cty (s.map coA))], 1⟩, SW.mk (fun i => if i = 0 then 1 else i + 1) rfl rfl (namesAll.row (pure_co _) rfl) ⟨VLe2.slm_of (by simp), trivial⟩ (haveV.row (pure_co _) rfl trivial), .inl rfl, ⟨_, rfl, rfl⟩, rfl, trivial⟩
  cases s with
  | nil =>
    refine AFun.rocase (vs1 := []) (vs2 := []) ?_ (main ⟨false, true⟩ rfl)
    refine AFun.of_S T_ok mixed Try.func70 rfl (Nat.le_of_ble_eq_true rfl) rfl ?_
    ((repeat ((conv => whnf); (first | (refine As.pre ?_; first | refine As.mk rfl ?_) | (refine LetB.pre ?_; first | refine LetB.tt rfl ?_) | (refine Br.pre ?_; first | refine Br.tt rfl ?_) | (refine Ck.pre ?_; first | refine Ck.mk rfl ?_)))); (try (conv => whnf)))
    exact ⟨⟨[(2, .slm {} 0 2 0 0)], [(0, .row 2 cty [])], 1⟩, SW.mk id rfl rfl rfl ⟨VLe2.nilslm, trivial⟩ (haveV.nil (Nat.le_refl _) trivial), .inl rfl, ⟨_, rfl, rfl⟩, rfl, trivial⟩
  | cons c s => exact main {} (by simp)
theorem CloneC_f (s : List Co) (hs : s.length ≤ 1000) : AFun Try.prog 70 0 [.ro {} 2 (s.map coA)] [] (.ro {} 2 (s.map coA)) [] :=
  AFun.frz1 (H := []) (CloneC_s s hs) rfl (pure_co _) (by simp)
/-! ### Leaves -/
theorem Clone0_f : AFun Try.prog 84 0 [.ro {} 5 []] [] (.ro {} 5 []) [] := by
  refine AFun.rocase (vs1 := []) (vs2 := []) ?_ ?_
  · refine AFun.of_S T_ok mixed Try.func84 rfl (Nat.le_of_ble_eq_true rfl) rfl ?_
    ((repeat ((conv => whnf); (first | (refine As.pre ?_; first | refine As.mk rfl ?_) | (refine LetB.pre ?_; first | refine LetB.tt rfl ?_) | (refine Br.pre ?_; first | refine Br.tt rfl ?_) | (refine Ck.pre ?_; first | refine Ck.mk rfl ?_)))); (try (conv => whnf)))
    exact ⟨⟨[(2, .ro {} 5 [])], [], 0⟩, SW.mk id rfl rfl rfl ⟨VLe2.nilro, trivial⟩ trivial, .inl rfl, ⟨_, rfl, rfl⟩, trivial⟩
  · refine AFun.frz1 (H := []) (id := 0) (len := 0) (ty := nty) ?_ rfl rfl rfl
    refine AFun.of_S T_ok mixed Try.func84 rfl (Nat.le_of_ble_eq_true rfl) rfl ?_
    ((repeat ((conv => whnf); (first | (refine LetN.pre ?_; first | ((conv => arg 1; whnf); refine LetN.mk ?_)) | (refine As.pre ?_; first | refine As.mk rfl ?_) | (refine LetB.pre ?_; first | refine LetB.ff rfl ?_) | (refine Br.pre ?_; first | refine Br.ff rfl ?_) | (refine Ck.pre ?_; first | refine Ck.mk rfl ?_) | (refine LetL.pre ?_; first | refine LetL.mk _ rfl ?_)))); (try (conv => whnf)))
    exact ⟨⟨[(2, .slm {} 0 5 0 0)], [(0, .row 5 nty [])], 1⟩, SW.mk (fun i => if i = 0 then 1 else i + 1) rfl rfl rfl ⟨VLe2.slm_of rfl, trivial⟩ (haveV.row rfl rfl trivial), .inl rfl, ⟨_, rfl, rfl⟩, rfl, trivial⟩
abbrev copS (k n m : Int) (s : List Co) : AS := ⟨[(1, .ptr 0 5 0 0), (2, .ptr 1 5 0 0), (14, .ro {} 5 []), (15, int 0), (16, int 0)], [(0, .row 5 nty [.agg [int k, int n, int m, .ro {} 2 (s.map coA), .ro {} 5 []]]), (1, .row 5 nty [.agg [int 0, int 0, int 0, .sc (.slice none 0 0), .sc (.slice none 0 0)]])], 2⟩
theorem copied_f (k n m : Int) (s : List Co) (hs : s.length ≤ 1000) : AFun Try.prog 63 0 [nd (.mk k n m s [])] [] (nd (.mk k n m s [])) [] := by
  rw [nd_mk]
  refine AFun.of_W T_ok mixed Try.func63 rfl (Nat.le_of_ble_eq_true rfl) rfl ?_
  have hC := CloneC_f s hs
  have hD := Clone0_f
  ((repeat ((conv => whnf); (first | (refine LetN.pre ?_; first | ((conv => arg 1; whnf); refine LetN.mk ?_)) | (refine As.pre ?_; first | refine As.mk rfl ?_) | (refine LetV.pre ?_; first | refine LetV.mk (.ro _ _ _) rfl ?_) | (refine LetI.pre ?_; first | refine LetI.mk _ rfl ?_) | (refine Ck.pre ?_; first | refine Ck.drawn (by kernel_rfl) ?_ | refine Ck.mk rfl ?_) | (refine LetL.pre ?_; first | refine LetL.mk (ty := nty) [.agg [_, _, _, _, _]] rfl ?_) | (refine CallN.pre ?_; first | refine CallN.pure hC rfl rfl ?_ | refine CallN.pure hD rfl rfl ?_)))); (try (conv => whnf)))
  refine LoopN.weak (s1 := copS k n m s) ?sw ?_
  case sw => exact SW.mk id rfl rfl (namesAll.row rfl (namesAll.row rfl rfl)) ⟨.refl _, .refl _, .refl _, .refl _, .refl _, trivial⟩ (haveV.row rfl rfl (haveV.row rfl rfl trivial))
  refine LoopN.ind T_ok mixed (S := fun _ : Unit => copS k n m s) (fun _ => 0) (fun _ => True) (fun _ => rfl) (fun i hi ih => ?_) () trivial
  clear ih
  ((repeat ((conv => whnf); (first | (refine LetN.pre ?_; first | ((conv => arg 1; whnf); refine LetN.mk ?_)) | (refine As.pre ?_; first | refine As.mk rfl ?_) | (refine LetV.pre ?_; first | refine LetV.mk (.agg _) rfl ?_) | (refine LetB.pre ?_; first | refine LetB.ff rfl ?_) | (refine Br.pre ?_; first | refine Br.ff rfl ?_) | (refine Ck.pre ?_; first | refine Ck.mk rfl ?_) | (refine LetL.pre ?_; first | refine LetL.mk [_] rfl ?_)))); (try (conv => whnf)))
  exact ⟨.inl rfl, ⟨_, rfl, rfl⟩, trivial⟩
def lfN (x : Nd) : Bool := x.kind != 3 && x.kind != 4
theorem leaf_f (x : Nd) : AFun Try.prog 62 0 [nd x] [] (bool (lfN x)) [] := by
  obtain ⟨k, n, m, s, l⟩ := x
  rw [nd_mk]
  refine AFun.of_W T_ok mixed Try.func62 rfl (Nat.le_of_ble_eq_true rfl) rfl ?_
  show V _ _ _ _ _ _ (FinK _ _ (bool (k != 3 && k != 4)) _)
  by_cases h3 : k = 3
  · subst h3
    ((repeat ((conv => whnf); (first | (refine LetN.pre ?_; first | ((conv => arg 1; whnf); refine LetN.mk ?_)) | (refine As.pre ?_; first | refine As.mk rfl ?_) | (refine LetV.pre ?_; first | refine LetV.mk (.sc (.int _ _)) rfl ?_) | (refine LetB.pre ?_; first | refine LetB.ff rfl ?_) | (refine Gd.pre ?_; first | refine Gd.pass rfl ?_) | (refine Ck.pre ?_; first | refine Ck.mk rfl ?_)))); (try (conv => whnf)))
    exact ⟨.inl rfl, ⟨_, rfl, rfl⟩, trivial⟩
  · have e3 : (k != 3) = true := by simpa using h3
    rw [e3]
    by_cases h4 : k = 4
    · subst h4
      ((repeat ((conv => whnf); (first | (refine LetN.pre ?_; first | ((conv => arg 1; whnf); refine LetN.mk ?_)) | (refine As.pre ?_; first | refine As.mk rfl ?_) | (refine LetV.pre ?_; first | refine LetV.mk (.sc (.int _ _)) rfl ?_) | (refine LetB.pre ?_; first | refine LetB.tt rfl ?_ | refine LetB.ff rfl ?_) | (refine Gd.pre ?_; first | refine Gd.run rfl ?_) | (refine Ck.pre ?_; first | refine Ck.mk rfl ?_)))); (try (conv => whnf)))
      exact ⟨.inl rfl, ⟨_, rfl, rfl⟩, trivial⟩
    · have e4 : (k != 4) = true := by simpa using h4
      rw [e4]
      ((repeat ((conv => whnf); (first | (refine LetN.pre ?_; first | ((conv => arg 1; whnf); refine LetN.mk ?_)) | (refine As.pre ?_; first | refine As.mk rfl ?_) | (refine LetV.pre ?_; first | refine LetV.mk (.sc (.int _ _)) rfl ?_) | (refine LetB.pre ?_; first | refine LetB.tt (by assumption) ?_) | (refine Gd.pre ?_; first | refine Gd.run rfl ?_) | (refine Ck.pre ?_; first | refine Ck.mk rfl ?_)))); (try (conv => whnf)))
      exact ⟨.inl rfl, ⟨_, rfl, rfl⟩, trivial⟩
theorem within_f (n a b : Int) : AFun Try.prog 45 0 [int n, int a, int b] [] (bool (decide (a ≤ n ∧ n ≤ b))) [] := by
  refine AFun.of_W T_ok mixed Try.func45 rfl (Nat.le_of_ble_eq_true rfl) rfl ?_
  repeat' ((conv => whnf); (first | (refine As.pre ?_; first | refine As.mk rfl ?_) | (refine LetB.pre ?_; first | (refine LetB.dec (fun _ => ?_) (fun _ => ?_))) | (refine Gd.pre ?_; first | refine Gd.run rfl ?_ | refine Gd.pass rfl ?_) | (refine Ck.pre ?_; first | refine Ck.mk rfl ?_)))
  all_goals (refine ⟨by first | exact .inl rfl | exact .inr rfl, ⟨_, rfl, congrArg (fun b => Go.Proofs.Ytjnmbmdplchfkaa.Am.AV.sc (Go.Value.bool b)) (by first | exact (decide_eq_true (by omega)).symm | exact (decide_eq_false (by omega)).symm | exact Bool.eq_iff_iff.2 (by simp only [decide_eq_true_eq, decide_eq_false_iff_not]; omega) | rfl)⟩, trivial⟩)
def okC (c : Co) : Prop := (1 ≤ c.1 ∧ c.1 ≤ 8) ∧ okCode c.2
open Classical in
theorem right_f {c : Co} (h : okC c) : AFun Try.prog 53 0 [coA c] [] (bool true) [] := by
  refine AFun.of_W T_ok mixed Try.func53 rfl (Nat.le_of_ble_eq_true rfl) rfl ?_
  have h1 := within_f c.1 1 8
  rw [decide_eq_true h.1] at h1
  have h2 := Code_f c.2
  rw [decide_eq_true h.2] at h2
  ((repeat ((conv => whnf); (first | (refine LetN.pre ?_; first | ((conv => arg 1; whnf); refine LetN.mk ?_)) | (refine As.pre ?_; first | refine As.mk rfl ?_) | (refine LetV.pre ?_; first | refine LetV.mk (.sc (.int _ _)) rfl ?_ | refine LetV.mk (.sc _) rfl ?_) | (refine Gd.pre ?_; first | refine Gd.run rfl ?_) | (refine Ck.pre ?_; first | refine Ck.mk rfl ?_) | (refine CallN.pre ?_; first | refine CallN.pure h1 rfl rfl ?_ | refine CallN.pure h2 rfl rfl ?_)))); (try (conv => whnf)))
  exact ⟨.inl rfl, ⟨_, rfl, rfl⟩, trivial⟩
end Pb
end Go.Proofs.Ytjnmbmdplchfkaa
namespace Go.Proofs.Ytjnmbmdplchfkaa
open Go.Proofs.Ytjnmbmdplchfkaa.Am
set_option maxRecDepth 100000
variable [Lo]
namespace Pb
/-! ### Right nodes -/
/-- What nodes with courses have in common. -/
structure okS (m : Int) (s : List Co) : Prop where
  m : -1000 ≤ m ∧ m ≤ 1000
  n : 1 ≤ s.length ∧ s.length ≤ 12
  c : ∀ c ∈ s, okC c
  o : ∀ i, i + 1 < s.length → prec (s.getD i (0, ⟨#[]⟩)) (s.getD (i + 1) (0, ⟨#[]⟩)) = true
/-- A node is right. -/
inductive okN : Nd → Prop
  | course (m : Int) (s : List Co) : okS m s → okN (.mk 1 0 m s [])
  | credits (n m : Int) (s : List Co) : 1 ≤ n ∧ n ≤ 600 → okS m s → okN (.mk 2 n m s [])
  | all (l : List Nd) : 0 < l.length → l.length ≤ 24 → okN (.mk 3 0 0 [] l)
  | some (n : Int) (l : List Nd) : 1 ≤ n ∧ n ≤ l.length → 0 < l.length → l.length ≤ 24 → okN (.mk 4 n 0 [] l)
/-- A requirement is right. -/
structure WN (x : Nd) : Prop where
  all : ∀ y ∈ x.nodes, okN y
  n : x.nodes.length ≤ 24
  d : x.deep 1 0 ≤ 5
  h : x.hgt ≤ 5
  l : 1 ≤ (x.nodes.filter lfN).length ∧ (x.nodes.filter lfN).length ≤ 8
abbrev leS (N : List Nd) : Nat × List Nd → AS
  | (j, L) => ⟨[(2, .slm {} 0 5 0 L.length), (14, .ro {} 5 (N.map nd)), (15, int N.length), (16, int j)], [(0, .row 5 nty (L.map nd))], 1⟩
theorem leN (L : List Nd) (ok : Nat → Bool) : namesAll ok [(0, .row 5 nty (L.map nd))] = true := namesAll.row (pure_nd _) rfl
set_option maxHeartbeats 1600000 in
set_option maxRecDepth 100000 in
theorem Leaves_f {x : Nd} (h : WN x) : AFun Try.prog 46 0 [nd x] [] (.ro {} 5 ((x.nodes.filter lfN).map nd)) [] := by
  refine AFun.frz1 (H := []) (id := 0) (len := (x.nodes.filter lfN).length) (ty := nty) ?_ rfl (pure_nd _) (by simp)
  have hL := list_f x (by have := h.n; omega) (by have := h.h; omega)
  have hall := h.all
  have hn := h.n
  clear h
  generalize x.nodes = N at hL hall hn ⊢
  generalize x.deep 1 0 = d at hL
  obtain ⟨k, n, m, s, l⟩ := x
  rw [nd_mk] at hL ⊢
  refine AFun.of_S T_ok mixed Try.func46 rfl (Nat.le_of_ble_eq_true rfl) rfl ?_
  have hmN : (N.map nd).length = N.length := List.length_map _
  ((repeat ((conv => whnf); (first | (refine LetN.pre ?_; first | ((conv => arg 1; whnf); refine LetN.mk ?_)) | (refine As.pre ?_; first | refine As.mk rfl ?_) | (refine LetV.pre ?_; first | refine LetV.mk (.agg _) rfl ?_) | (refine LetI.pre ?_; first | refine LetI.mk _ rfl ?_) | (refine Ck.pre ?_; first | refine Ck.mk rfl ?_) | (refine CallN.pre ?_; first | refine CallN.pure hL rfl rfl ?_)))); (try (conv => whnf)))
  refine LoopN.weak (s1 := leS N (0, [])) ?sw1 ?_
  case sw1 => exact SW.mk (fun i => i + 1) rfl rfl rfl ⟨VLe2.nilslm, .refl _, VLe2.int (by rw [hmN]), .refl _, trivial⟩ (haveV.nil (Nat.le_refl _) trivial)
  clear hL
  refine LoopN.ind T_ok mixed (S := leS N) (fun i => N.length - i.1) (fun i => i.1 ≤ N.length ∧ i.2 = (N.take i.1).filter lfN) (fun _ => rfl) (fun i hi ih => ?_) (0, []) ⟨Nat.zero_le _, rfl⟩
  obtain ⟨j, L⟩ := i
  obtain ⟨h1, h2⟩ := hi
  dsimp only at h1 h2
  by_cases hlt : j < N.length
  case neg =>
    clear ih
    rw [List.take_of_length_le (by omega)] at h2
    rw [← h2]
    ((repeat ((conv => whnf); (first | (refine As.pre ?_; first | refine As.mk rfl ?_) | (refine LetB.pre ?_; first | refine LetB.decf (by omega) ?_) | (refine Br.pre ?_; first | refine Br.ff rfl ?_) | (refine Ck.pre ?_; first | refine Ck.mk rfl ?_)))); (try (conv => whnf)))
    exact ⟨⟨[(2, .slm {} 0 5 0 L.length)], [(0, .row 5 nty (L.map nd))], 1⟩, SW.mk id rfl rfl (leN _ _) ⟨.refl _, trivial⟩ (haveV.row (pure_nd _) rfl trivial), .inl rfl, ⟨_, rfl, rfl⟩, rfl, trivial⟩
  have hLl : L.length ≤ j := by rw [h2]; exact Nat.le_trans (List.length_filter_le _ _) (by rw [List.length_take]; omega)
  have hld := ld_nd hlt
  have hy := hall _ (getD_mem' hlt)
  have ht : (N.take (j + 1)).filter lfN = L ++ [N.getD j nd0].filter lfN := by
    rw [List.take_succ_eq_append_getElem hlt, List.filter_append, ← h2, List.getD_eq_getElem?_getD, List.getElem?_eq_getElem hlt]; rfl
  generalize N.getD j nd0 = y at hld hy ht
  have hlf := leaf_f y
  have hst : ∀ (k n m : Int) (s : List Co) (l : List Nd), storables [AV.agg [int k, int n, int m, .ro {} 2 (s.map coA), .ro {} 5 (l.map nd)]] = true := fun _ _ _ _ _ => rfl
  have hr := room_nd (n := L.length + 1) (by omega)
  have hml : (L.map nd).length = L.length := List.length_map _
  cases hb : lfN y with
  | false =>
    have hnx := ih (j + 1, L) ⟨hlt, by dsimp only; rw [ht]; simp [hb]⟩ (by show N.length - (j + 1) < N.length - j; omega)
    clear ih ht h2
    rw [hb] at hlf
    clear hb hy
    obtain ⟨k', n', m', s', l'⟩ := y
    rw [nd_mk] at hlf hld
    ((repeat ((conv => whnf); (first | (refine LetN.pre ?_; first | ((conv => arg 1; whnf); refine LetN.mk ?_)) | (refine As.pre ?_; first | refine As.mk rfl ?_ | (refine As.mk ?_ ?_; · ((repeat' (refine andT ?_ ?_)) <;> (first | rfl | assumption | exact decide_eq_true (by omega) | exact decide_eq_true (by dsimp only; omega) | exact decide_eq_true (by simp; omega) | (simp; done))))) | (refine LetV.pre ?_; first | refine LetV.mk (t := 34) _ hld ?_ | refine LetV.mk (.agg _) rfl ?_) | (refine LetI.pre ?_; first | refine LetI.wrap (by omega) (by omega) ?_) | (refine LetB.pre ?_; first | refine LetB.dect (by omega) ?_) | (refine Br.pre ?_; first | refine Br.tt rfl ?_ | refine Br.ff rfl ?_) | (refine Ck.pre ?_; first | refine Ck.mk rfl ?_) | (refine LetL.pre ?_; first | refine LetL.mk (ty := nty) [.agg [_, _, _, _, _]] rfl ?_) | (refine CallN.pre ?_; first | refine CallN.pure hlf rfl rfl ?_)))); (try (conv => whnf)))



    refine LoopN.weak ?sw2 hnx
    case sw2 => exact SW.mk id rfl rfl (leN _ _) ⟨.refl _, .refl _, .refl _, VLe2.int (by omega), trivial⟩ (haveV.row (pure_nd _) rfl trivial)
  | true =>
    have hnx := ih (j + 1, L ++ [y]) ⟨hlt, by dsimp only; rw [ht]; simp [hb]⟩ (by show N.length - (j + 1) < N.length - j; omega)
    clear ih ht h2
    rw [hb] at hlf
    obtain ⟨k', n', m', s', l'⟩ := y
    have hl0 : l' = [] ∧ s'.length ≤ 1000 := by
      cases hy with
      | course m s h => exact ⟨rfl, by have := h.n; omega⟩
      | credits n m s h1 h => exact ⟨rfl, by have := h.n; omega⟩
      | all => cases hb
      | some => cases hb
    obtain ⟨rfl, hs⟩ := hl0
    have hcp := copied_f k' n' m' s' hs
    have a1 := app_nd L (.mk k' n' m' s' []) L.length rfl
    have l1 : (L ++ [Nd.mk k' n' m' s' []]).length = L.length + 1 := by simp
    clear hb hy
    rw [nd_mk] at hlf hld a1 hcp
    have h1st := hst k' n' m' s' []
    clear hst
    ((repeat ((conv => whnf); (first | (refine LetN.pre ?_; first | ((conv => arg 1; whnf); refine LetN.mk ?_)) | (refine As.pre ?_; first | refine As.mk rfl ?_ | (refine As.mk ?_ ?_; · ((repeat' (refine andT ?_ ?_)) <;> (first | rfl | assumption | exact decide_eq_true (by omega) | exact decide_eq_true (by dsimp only; omega) | exact decide_eq_true (by simp; omega) | (simp; done))))) | (refine LetV.pre ?_; first | refine LetV.mk (t := 34) _ hld ?_ | refine LetV.mk (.agg _) rfl ?_) | (refine LetI.pre ?_; first | refine LetI.wrap (by omega) (by omega) ?_) | (refine LetB.pre ?_; first | refine LetB.dect (by omega) ?_) | (refine Br.pre ?_; first | refine Br.tt rfl ?_) | (refine Ck.pre ?_; first | refine Ck.mk rfl ?_) | (refine LetL.pre ?_; first | refine LetL.mk (ty := nty) _ a1 ?_ | refine LetL.mk (ty := nty) [.agg [_, _, _, _, _]] rfl ?_) | (refine CallN.pre ?_; first | refine CallN.pure hlf rfl rfl ?_ | refine CallN.pure hcp rfl rfl ?_)))); (try (conv => whnf)))





    refine LoopN.weak ?sw3 hnx
    case sw3 => exact SW.mk (fun i => i + 2) rfl rfl (leN _ _) ⟨VLe2.slm_of l1, .refl _, .refl _, VLe2.int (by omega), trivial⟩ (haveV.row (pure_nd _) rfl trivial)
end Pb
end Go.Proofs.Ytjnmbmdplchfkaa
namespace Go.Proofs.Ytjnmbmdplchfkaa
open Go.Proofs.Ytjnmbmdplchfkaa.Am
set_option maxRecDepth 100000
variable [Lo]
namespace Pb
/-! ### Nodes with courses -/
abbrev co0 : Co := (0, ⟨#[]⟩)
theorem ld_co {l : List Co} {k : Nat} (h : k < l.length) : coA (l.getD k co0) = (l.map coA).getD k (.sc undef) := mapD co0 h
theorem co_mem {l : List Co} {k : Nat} (h : k < l.length) : l.getD k co0 ∈ l := by
  rw [List.getD_eq_getElem?_getD, List.getElem?_eq_getElem h]; exact List.getElem_mem h
theorem wrong_f {c : Co} (h : okC c) : AFun Try.prog 86 0 [coA c] [] (bool false) [] := by
  refine AFun.of_W T_ok mixed Try.func86 rfl (Nat.le_of_ble_eq_true rfl) rfl ?_
  have h1 := right_f h
  ((repeat ((conv => whnf); (first | (refine LetN.pre ?_; first | ((conv => arg 1; whnf); refine LetN.mk ?_)) | (refine As.pre ?_; first | refine As.mk rfl ?_) | (refine LetV.pre ?_; first | refine LetV.mk (.agg _) rfl ?_) | (refine Ck.pre ?_; first | refine Ck.mk rfl ?_) | (refine CallN.pre ?_; first | refine CallN.pure h1 rfl rfl ?_)))); (try (conv => whnf)))
  exact ⟨.inl rfl, ⟨_, rfl, rfl⟩, trivial⟩
set_option maxRecDepth 100000 in
theorem IndexW_f (s : List Co) (h : ∀ c ∈ s, okC c) (hs : s.length ≤ 1000) : AFun Try.prog 95 0 [.ro {} 2 (s.map coA), .clo 86 []] [] (int (-1)) [] := by
  refine AFun.of_W T_ok mixed Try.func95 rfl (Nat.le_of_ble_eq_true rfl) rfl ?_
  have hm : (s.map coA).length = s.length := List.length_map _
  ((repeat ((conv => whnf); (first | (refine As.pre ?_; first | refine As.mk rfl ?_) | (refine LetI.pre ?_; first | refine LetI.mk _ rfl ?_) | (refine Ck.pre ?_; first | refine Ck.mk rfl ?_)))); (try (conv => whnf)))
  refine LoopN.weak (s1 := ⟨[(0, .ro {} 2 (s.map coA)), (1, .clo 86 []), (7, int s.length), (8, int (0 : Nat))], [], 0⟩) (SW.fr0 (Nat.le_refl _) rfl ⟨.refl _, .refl _, VLe2.int (by rw [List.length_map]), .refl _, trivial⟩) ?_
  refine LoopN.ind T_ok mixed (S := fun k : Nat => ⟨[(0, .ro {} 2 (s.map coA)), (1, .clo 86 []), (7, int s.length), (8, int k)], [], 0⟩) (fun k => s.length - k) (fun k => k ≤ s.length) (fun _ => rfl) (fun k hk ih => ?_) 0 (Nat.zero_le _)
  by_cases hlt : k < s.length
  case neg =>
    clear ih
    ((repeat ((conv => whnf); (first | (refine As.pre ?_; first | refine As.mk rfl ?_) | (refine LetB.pre ?_; first | refine LetB.decf (by omega) ?_) | (refine Br.pre ?_; first | refine Br.ff rfl ?_) | (refine Ck.pre ?_; first | refine Ck.mk rfl ?_)))); (try (conv => whnf)))
    exact ⟨.inl rfl, ⟨_, rfl, rfl⟩, trivial⟩
  have hld := ld_co hlt
  have hF := wrong_f (h _ (co_mem hlt))
  generalize s.getD k co0 = e at hld hF
  have hnx := ih (k + 1) (by omega) (by omega)
  clear ih
  ((repeat ((conv => whnf); (first | (refine As.pre ?_; first | refine As.mk rfl ?_ | (refine As.mk ?_ ?_; · ((repeat' (refine andT ?_ ?_)) <;> (first | rfl | assumption | exact decide_eq_true (by omega) | exact decide_eq_true (by dsimp only; omega) | exact decide_eq_true (by simp; omega) | (simp; done))))) | (refine LetV.pre ?_; first | refine LetV.mk (t := 33) _ hld ?_ | refine LetV.mk (.agg _) rfl ?_) | (refine LetI.pre ?_; first | refine LetI.wrap (by omega) (by omega) ?_) | (refine LetB.pre ?_; first | refine LetB.dect (by omega) ?_) | (refine Br.pre ?_; first | refine Br.tt rfl ?_ | refine Br.ff rfl ?_) | (refine Ck.pre ?_; first | refine Ck.mk rfl ?_) | (refine CallN.pre ?_; first | refine CallN.pure hF rfl rfl ?_)))); (try (conv => whnf)))
  refine LoopN.weak ?_ hnx
  exact SW.fr0 (Nat.le_refl _) rfl ⟨.refl _, .refl _, .refl _, VLe2.int (by omega), trivial⟩
theorem ContainsW_f (s : List Co) (h : ∀ c ∈ s, okC c) (hs : s.length ≤ 1000) : AFun Try.prog 85 0 [.ro {} 2 (s.map coA), .clo 86 []] [] (bool false) [] := by
  refine AFun.of_W T_ok mixed Try.func85 rfl (Nat.le_of_ble_eq_true rfl) rfl ?_
  have hI := IndexW_f s h hs
  ((repeat ((conv => whnf); (first | (refine As.pre ?_; first | refine As.mk rfl ?_) | (refine LetB.pre ?_; first | refine LetB.ff rfl ?_) | (refine Ck.pre ?_; first | refine Ck.mk rfl ?_) | (refine CallN.pre ?_; first | refine CallN.pure hI rfl rfl ?_)))); (try (conv => whnf)))
  exact ⟨.inl rfl, ⟨_, rfl, rfl⟩, trivial⟩
abbrev csS (k n m : Int) (s : List Co) (l : List Nd) (j : Nat) : AS := ⟨[(1, .ptr 0 5 0 0), (22, .ro {} 2 (s.map coA)), (23, int s.length), (24, int j)], [(0, .row 5 nty [.agg [int k, int n, int m, .ro {} 2 (s.map coA), .ro {} 5 (l.map nd)]])], 1⟩
set_option maxRecDepth 100000 in
theorem courses_f (k n m : Int) (s : List Co) (l : List Nd) (h : okS m s) : AFun Try.prog 66 0 [nd (.mk k n m s l)] [] (int 0) [] := by
  rw [nd_mk]
  refine AFun.of_W T_ok mixed Try.func66 rfl (Nat.le_of_ble_eq_true rfl) rfl ?_
  have h1 := within_f m (-1000) 1000
  rw [decide_eq_true h.m] at h1
  have h2 := within_f ((s.map coA).length : Nat) 1 12
  rw [decide_eq_true (by have := h.n; rw [List.length_map]; omega)] at h2
  have h3 := ContainsW_f s h.c (by have := h.n; omega)
  have hm : (s.map coA).length = s.length := List.length_map _
  have hn := h.n
  have ho := h.o
  clear h
  ((repeat ((conv => whnf); (first | (refine LetN.pre ?_; first | ((conv => arg 1; whnf); refine LetN.mk ?_)) | (refine As.pre ?_; first | refine As.mk rfl ?_) | (refine LetV.pre ?_; first | refine LetV.mk (.sc (.int _ _)) rfl ?_ | refine LetV.mk (.ro _ _ _) rfl ?_) | (refine LetI.pre ?_; first | refine LetI.mk _ rfl ?_) | (refine Br.pre ?_; first | refine Br.tt rfl ?_ | refine Br.ff rfl ?_) | (refine Ck.pre ?_; first | refine Ck.mk rfl ?_) | (refine CallN.pre ?_; first | refine CallN.pure h1 rfl rfl ?_ | refine CallN.pure h2 rfl rfl ?_ | refine CallN.pure h3 rfl rfl ?_)))); (try (conv => whnf)))
  clear h1 h2 h3
  refine LoopN.weak (s1 := csS k n m s l 0) ?sw1 ?_
  case sw1 => exact SW.mk id rfl rfl (namesAll.row rfl rfl) ⟨.refl _, .refl _, VLe2.int (by rw [hm]), .refl _, trivial⟩ (haveV.row rfl rfl trivial)
  refine LoopN.ind T_ok mixed (S := csS k n m s l) (fun j => s.length - j) (fun j => j ≤ s.length) (fun _ => rfl) (fun j hj ih => ?_) 0 (Nat.zero_le _)
  by_cases hlt : j < s.length
  case neg =>
    clear ih ho
    ((repeat ((conv => whnf); (first | (refine As.pre ?_; first | refine As.mk rfl ?_) | (refine LetB.pre ?_; first | refine LetB.decf (by omega) ?_) | (refine Br.pre ?_; first | refine Br.ff rfl ?_) | (refine Ck.pre ?_; first | refine Ck.mk rfl ?_)))); (try (conv => whnf)))
    exact ⟨.inl rfl, ⟨_, rfl, rfl⟩, trivial⟩
  have hld := ld_co hlt
  have hnx := ih (j + 1) hlt (by omega)
  clear ih
  cases j with
  | zero =>
    clear ho
    generalize s.getD 0 co0 = e at hld
    ((repeat ((conv => whnf); (first | (refine LetN.pre ?_; first | ((conv => arg 1; whnf); refine LetN.mk ?_)) | (refine As.pre ?_; first | refine As.mk rfl ?_ | (refine As.mk ?_ ?_; · ((repeat' (refine andT ?_ ?_)) <;> (first | rfl | assumption | exact decide_eq_true (by omega) | exact decide_eq_true (by dsimp only; omega) | exact decide_eq_true (by simp; omega) | (simp; done))))) | (refine LetV.pre ?_; first | refine LetV.mk (t := 33) _ hld ?_ | refine LetV.mk (.agg _) rfl ?_) | (refine LetI.pre ?_; first | refine LetI.wrap (by omega) (by omega) ?_) | (refine LetB.pre ?_; first | refine LetB.ff rfl ?_ | refine LetB.dect (by omega) ?_) | (refine Gd.pre ?_; first | refine Gd.pass rfl ?_) | (refine Br.pre ?_; first | refine Br.tt rfl ?_ | refine Br.ff rfl ?_) | (refine Ck.pre ?_; first | refine Ck.drawn (by kernel_rfl) ?_ | refine Ck.mk rfl ?_) | (refine LetL.pre ?_; first | refine LetL.mk [_] rfl ?_)))); (try (conv => whnf)))
    refine LoopN.weak ?sw2 hnx
    case sw2 => exact SW.mk id rfl rfl (namesAll.row rfl rfl) ⟨.refl _, .refl _, .refl _, VLe2.int rfl, trivial⟩ (haveV.row rfl rfl trivial)
  | succ i =>
    have hld2 := ld_co (show i < s.length by omega)
    have hp := (cmpC_neg _ _).2 (ho i hlt)
    have hc := compare_f (s.getD i co0) (s.getD (i + 1) co0)
    clear ho
    generalize s.getD i co0 = a at hld2 hp hc
    generalize s.getD (i + 1) co0 = b at hld hp hc
    generalize cmpC a b = c at hp hc
    have hsub : (i : Int) = IntKind.i64.wrap (((i + 1 : Nat) : Int) - 1) := by rw [wrap_id (by omega) (by omega)]; omega
    ((repeat ((conv => whnf); (first | (refine LetN.pre ?_; first | ((conv => arg 1; whnf); refine LetN.mk ?_)) | (refine As.pre ?_; first | refine As.mk rfl ?_ | (refine As.mk ?_ ?_; · ((repeat' (refine andT ?_ ?_)) <;> (first | rfl | assumption | exact decide_eq_true (by omega) | exact decide_eq_true (by dsimp only; omega) | exact decide_eq_true (by simp; omega) | (simp; done))))) | (refine LetV.pre ?_; first | refine LetV.mk (t := 33) _ hld ?_ | refine LetV.mk (t := 33) _ hld2 ?_ | refine LetV.mk (.agg _) rfl ?_ | refine LetV.mk (.ro _ _ _) rfl ?_) | (refine LetI.pre ?_; first | refine LetI.mk (o := some .sub) (i : Int) hsub ?_ | refine LetI.wrap (by omega) (by omega) ?_) | (refine LetB.pre ?_; first | refine LetB.dect (by omega) ?_ | refine LetB.decf (by omega) ?_) | (refine Gd.pre ?_; first | refine Gd.run rfl ?_) | (refine Br.pre ?_; first | refine Br.tt rfl ?_ | refine Br.ff rfl ?_) | (refine Ck.pre ?_; first | refine Ck.drawn (by kernel_rfl) ?_ | refine Ck.mk rfl ?_) | (refine LetL.pre ?_; first | refine LetL.mk [_] rfl ?_) | (refine CallN.pre ?_; first | refine CallN.pure hc rfl rfl ?_)))); (try (conv => whnf)))




    refine LoopN.weak ?sw3 hnx
    case sw3 => exact SW.mk id rfl rfl (namesAll.row rfl rfl) ⟨.refl _, .refl _, .refl _, VLe2.int (by omega), trivial⟩ (haveV.row rfl rfl trivial)
/-! ### Kinds of nodes -/
theorem bare_f (k n : Int) (l : List Nd) (hl : 0 < l.length) (hl2 : l.length ≤ 24) : AFun Try.prog 64 0 [nd (.mk k n 0 [] l)] [] (bool true) [] := by
  rw [nd_mk]
  refine AFun.of_W T_ok mixed Try.func64 rfl (Nat.le_of_ble_eq_true rfl) rfl ?_
  have hm : (l.map nd).length = l.length := List.length_map _
  ((repeat ((conv => whnf); (first | (refine LetN.pre ?_; first | ((conv => arg 1; whnf); refine LetN.mk ?_)) | (refine As.pre ?_; first | refine As.mk rfl ?_) | (refine LetV.pre ?_; first | refine LetV.mk (.sc (.int _ _)) rfl ?_ | refine LetV.mk (.ro _ _ _) rfl ?_) | (refine LetI.pre ?_; first | refine LetI.mk _ rfl ?_) | (refine LetB.pre ?_; first | refine LetB.tt rfl ?_ | refine LetB.dect (by omega) ?_) | (refine Gd.pre ?_; first | refine Gd.run rfl ?_) | (refine Ck.pre ?_; first | refine Ck.mk rfl ?_)))); (try (conv => whnf)))
  exact ⟨.inl rfl, ⟨_, rfl, rfl⟩, trivial⟩
theorem kind1_f (m : Int) (s : List Co) (h : okS m s) : AFun Try.prog 65 0 [nd (.mk 1 0 m s [])] [] (int 0) [] := by
  have hC := courses_f 1 0 m s [] h
  rw [nd_mk] at hC ⊢
  refine AFun.of_W T_ok mixed Try.func65 rfl (Nat.le_of_ble_eq_true rfl) rfl ?_
  ((repeat ((conv => whnf); (first | (refine LetN.pre ?_; first | ((conv => arg 1; whnf); refine LetN.mk ?_)) | (refine As.pre ?_; first | refine As.mk rfl ?_) | (refine LetV.pre ?_; first | refine LetV.mk (.sc (.int _ _)) rfl ?_ | refine LetV.mk (.agg _) rfl ?_ | refine LetV.mk (.ro _ _ _) rfl ?_) | (refine LetI.pre ?_; first | refine LetI.mk _ rfl ?_) | (refine LetB.pre ?_; first | refine LetB.ff rfl ?_) | (refine Gd.pre ?_; first | refine Gd.run rfl ?_) | (refine Br.pre ?_; first | refine Br.ff rfl ?_) | (refine Ck.pre ?_; first | refine Ck.mk rfl ?_) | (refine CallN.pre ?_; first | refine CallN.pure hC rfl rfl ?_)))); (try (conv => whnf)))
  exact ⟨.inl rfl, ⟨_, rfl, rfl⟩, trivial⟩
theorem kind2_f (n m : Int) (s : List Co) (hn : 1 ≤ n ∧ n ≤ 600) (h : okS m s) : AFun Try.prog 67 0 [nd (.mk 2 n m s [])] [] (int 0) [] := by
  have hC := courses_f 2 n m s [] h
  have hw := within_f n 1 600
  rw [decide_eq_true hn] at hw
  rw [nd_mk] at hC ⊢
  refine AFun.of_W T_ok mixed Try.func67 rfl (Nat.le_of_ble_eq_true rfl) rfl ?_
  ((repeat ((conv => whnf); (first | (refine LetN.pre ?_; first | ((conv => arg 1; whnf); refine LetN.mk ?_)) | (refine As.pre ?_; first | refine As.mk rfl ?_) | (refine LetV.pre ?_; first | refine LetV.mk (.sc (.int _ _)) rfl ?_ | refine LetV.mk (.agg _) rfl ?_ | refine LetV.mk (.ro _ _ _) rfl ?_) | (refine LetI.pre ?_; first | refine LetI.mk _ rfl ?_) | (refine LetB.pre ?_; first | refine LetB.ff rfl ?_) | (refine Br.pre ?_; first | refine Br.ff rfl ?_) | (refine Ck.pre ?_; first | refine Ck.mk rfl ?_) | (refine CallN.pre ?_; first | refine CallN.pure hC rfl rfl ?_ | refine CallN.pure hw rfl rfl ?_)))); (try (conv => whnf)))
  exact ⟨.inl rfl, ⟨_, rfl, rfl⟩, trivial⟩
abbrev bareV : AV := .clo 64 []
theorem kind3_f (l : List Nd) (hl : 0 < l.length) (hl2 : l.length ≤ 24) : AFun Try.prog 68 0 [nd (.mk 3 0 0 [] l), .rp bareV 0] [] (int 0) [] := by
  have hC := bare_f 3 0 l hl hl2
  rw [nd_mk] at hC ⊢
  refine AFun.of_W T_ok mixed Try.func68 rfl (Nat.le_of_ble_eq_true rfl) rfl ?_
  ((repeat ((conv => whnf); (first | (refine LetN.pre ?_; first | ((conv => arg 1; whnf); refine LetN.mk ?_)) | (refine As.pre ?_; first | refine As.mk rfl ?_) | (refine LetV.pre ?_; first | refine LetV.mk (.sc (.int _ _)) rfl ?_ | refine LetV.mk (.agg _) rfl ?_ | refine LetV.mk (.clo _ _ _) rfl ?_) | (refine LetB.pre ?_; first | refine LetB.ff rfl ?_) | (refine Gd.pre ?_; first | refine Gd.run rfl ?_) | (refine Br.pre ?_; first | refine Br.ff rfl ?_) | (refine Ck.pre ?_; first | refine Ck.mk rfl ?_) | (refine CallN.pre ?_; first | refine CallN.pure hC rfl rfl ?_)))); (try (conv => whnf)))
  exact ⟨.inl rfl, ⟨_, rfl, rfl⟩, trivial⟩
theorem kind4_f (n : Int) (l : List Nd) (hn : 1 ≤ n ∧ n ≤ l.length) (hl : 0 < l.length) (hl2 : l.length ≤ 24) : AFun Try.prog 69 0 [nd (.mk 4 n 0 [] l), .rp bareV 0] [] (int 0) [] := by
  have hC := bare_f 4 n l hl hl2
  have hw := within_f n 1 (l.map nd).length
  rw [decide_eq_true (by rw [List.length_map]; exact hn)] at hw
  rw [nd_mk] at hC ⊢
  refine AFun.of_W T_ok mixed Try.func69 rfl (Nat.le_of_ble_eq_true rfl) rfl ?_
  ((repeat ((conv => whnf); (first | (refine LetN.pre ?_; first | ((conv => arg 1; whnf); refine LetN.mk ?_)) | (refine As.pre ?_; first | refine As.mk rfl ?_) | (refine LetV.pre ?_; first | refine LetV.mk (.sc (.int _ _)) rfl ?_ | refine LetV.mk (.agg _) rfl ?_ | refine LetV.mk (.ro _ _ _) rfl ?_ | refine LetV.mk (.clo _ _ _) rfl ?_) | (refine LetI.pre ?_; first | refine LetI.mk _ rfl ?_) | (refine Br.pre ?_; first | refine Br.ff rfl ?_) | (refine Ck.pre ?_; first | refine Ck.mk rfl ?_) | (refine CallN.pre ?_; first | refine CallN.pure hC rfl rfl ?_ | refine CallN.pure hw rfl rfl ?_)))); (try (conv => whnf)))
  exact ⟨.inl rfl, ⟨_, rfl, rfl⟩, trivial⟩
/-- The kinds. -/
abbrev knV : List (Value × AV) := [(.int .i64 1, .agg [.clo 65 []]), (.int .i64 2, .agg [.clo 67 []]), (.int .i64 3, .agg [.clo 68 [.rp bareV 0]]), (.int .i64 4, .agg [.clo 69 [.rp bareV 0]])]
theorem kinds_f : AFun Try.prog 47 0 [] [] (.mp 1) [(1, .map 4 knV)] := by
  have h : AFun Try.prog 47 0 [] [] (.mp 1) [(0, .row 1 118 [bareV]), (1, .map 4 [(.int .i64 1, .agg [.clo 65 []]), (.int .i64 2, .agg [.clo 67 []]), (.int .i64 3, .agg [.clo 68 [.ptr 0 1 0 0]]), (.int .i64 4, .agg [.clo 69 [.ptr 0 1 0 0]])])] :=
    AFun.of_evF T_ok mixed 20 0 [] [(0, some (.row 1 118 [bareV])), (1, some (.map 4 [(.int .i64 1, .agg [.clo 65 []]), (.int .i64 2, .agg [.clo 67 []]), (.int .i64 3, .agg [.clo 68 [.ptr 0 1 0 0]]), (.int .i64 4, .agg [.clo 69 [.ptr 0 1 0 0]])]))] (by kernel_rfl) rfl rfl
  exact AFun.frz [0] h rfl rfl rfl
end Pb
end Go.Proofs.Ytjnmbmdplchfkaa
namespace Go.Proofs.Ytjnmbmdplchfkaa
open Go.Proofs.Ytjnmbmdplchfkaa.Am
set_option maxRecDepth 100000
variable [Lo]
namespace Pb
/-! ### Check of a right requirement -/
abbrev chS (N : List Nd) (j : Nat) : AS := ⟨[(6, .mp 0), (37, .ro {} 5 (N.map nd)), (38, int N.length), (39, int j)], [(0, .map 4 [(.int .i64 1, .agg [.clo 65 []]), (.int .i64 2, .agg [.clo 67 []]), (.int .i64 3, .agg [.clo 68 [.rp bareV 0]]), (.int .i64 4, .agg [.clo 69 [.rp bareV 0]])])], 1⟩
set_option maxHeartbeats 1600000 in
set_option maxRecDepth 100000 in
theorem Check_f {x : Nd} (h : WN x) : AFun Try.prog 24 0 [nd x] [] (int 0) [] := by
  have hL := list_f x (by have := h.n; omega) (by have := h.h; omega)
  have hLe := Leaves_f h
  have hall := h.all
  have hn := h.n
  have hd := h.d
  have hl := h.l
  have hw := within_f ((x.nodes.filter lfN).map nd).length 1 8
  rw [decide_eq_true (by rw [List.length_map]; omega)] at hw
  clear h
  have hK := kinds_f
  generalize (x.nodes.filter lfN).map nd = LL at hLe hw
  generalize x.nodes = N at hL hall hn hl
  generalize x.deep 1 0 = d at hL hd
  obtain ⟨k, n, m, s, l⟩ := x
  rw [nd_mk] at hL hLe ⊢
  refine AFun.of_W T_ok mixed Try.func24 rfl (Nat.le_of_ble_eq_true rfl) rfl ?_
  have hmN : (N.map nd).length = N.length := List.length_map _
  have t1 : ¬ ((24 : Int) < N.length) := by omega
  have t2 : ¬ ((5 : Int) < d) := by omega
  ((repeat ((conv => whnf); (first | (refine LetN.pre ?_; first | ((conv => arg 1; whnf); refine LetN.mk ?_)) | (refine As.pre ?_; first | refine As.mk rfl ?_) | (refine LetV.pre ?_; first | refine LetV.mk (.agg _) rfl ?_) | (refine LetI.pre ?_; first | refine LetI.mk _ rfl ?_) | (refine LetB.pre ?_; first | refine LetB.decf (by omega) ?_) | (refine Gd.pre ?_; first | refine Gd.run rfl ?_) | (refine Br.pre ?_; first | refine Br.ff rfl ?_) | (refine Ck.pre ?_; first | refine Ck.mk rfl ?_) | (refine CallN.pre ?_; first | refine CallN.pure hL rfl rfl ?_ | refine CallN.pure hLe rfl rfl ?_ | refine CallN.pure hw rfl rfl ?_ | refine CallN.own (fun i => i + 1) hK (CallOk.mk' rfl rfl rfl rfl rfl rfl trivial) ?_)))); (try (conv => whnf)))
  refine LoopN.weak (s1 := chS N 0) ?sw1 ?_
  case sw1 => exact SW.mk (fun i => match i with | 0 => 2 | i => i + 3) rfl rfl rfl ⟨.refl _, .refl _, VLe2.int (by rw [hmN]), .refl _, trivial⟩ (haveV.one rfl trivial)
  clear hL hLe hw hK t1 t2 hd hl
  refine LoopN.ind T_ok mixed (S := chS N) (fun j => N.length - j) (fun j => j ≤ N.length) (fun _ => rfl) (fun j hj ih => ?_) 0 (Nat.zero_le _)
  by_cases hlt : j < N.length
  case neg =>
    clear ih
    ((repeat ((conv => whnf); (first | (refine As.pre ?_; first | refine As.mk rfl ?_) | (refine LetB.pre ?_; first | refine LetB.decf (by omega) ?_) | (refine Br.pre ?_; first | refine Br.ff rfl ?_) | (refine Ck.pre ?_; first | refine Ck.mk rfl ?_)))); (try (conv => whnf)))
    exact ⟨.inl rfl, ⟨_, rfl, rfl⟩, trivial⟩
  have hld := ld_nd hlt
  have hy := hall _ (getD_mem' hlt)
  have hnx := ih (j + 1) hlt (by omega)
  clear ih hall
  generalize N.getD j nd0 = y at hld hy
  cases hy with
  | course m s h =>
    have hk := kind1_f m s h
    clear h
    rw [nd_mk] at hk hld
    ((repeat ((conv => whnf); (first | (refine LetN.pre ?_; first | ((conv => arg 1; whnf); refine LetN.mk ?_)) | (refine As.pre ?_; first | refine As.mk rfl ?_ | (refine As.mk ?_ ?_; · ((repeat' (refine andT ?_ ?_)) <;> (first | rfl | assumption | exact decide_eq_true (by omega) | exact decide_eq_true (by dsimp only; omega) | exact decide_eq_true (by simp; omega) | (simp; done))))) | (refine LetV.pre ?_; first | refine LetV.mk (t := 34) _ hld ?_ | refine LetV.mk (t := 97) (.tup [.agg [.clo 65 []], bool true]) rfl ?_ | refine LetV.mk (.sc (.int _ _)) rfl ?_ | refine LetV.mk (.agg _) rfl ?_ | refine LetV.mk (.clo _ _ _) rfl ?_) | (refine LetI.pre ?_; first | refine LetI.wrap (by omega) (by omega) ?_) | (refine LetB.pre ?_; first | refine LetB.ff rfl ?_ | refine LetB.dect (by omega) ?_) | (refine Br.pre ?_; first | refine Br.tt rfl ?_ | refine Br.ff rfl ?_) | (refine Ck.pre ?_; first | refine Ck.mk rfl ?_) | (refine LetL.pre ?_; first | refine LetL.mk (ty := nty) [.agg [_, _, _, _, _]] rfl ?_ | refine LetL.mk [_] rfl ?_) | (refine CallN.pre ?_; first | refine CallN.pure hk rfl rfl ?_) | (refine FindN.mk (some 0) ⟨_, rfl⟩ ?_)))); (try (conv => whnf)))
    refine LoopN.weak ?sw2 hnx
    case sw2 => exact SW.mk id rfl rfl rfl ⟨.refl _, .refl _, .refl _, VLe2.int (by omega), trivial⟩ (haveV.one rfl trivial)
  | credits n m s h1 h =>
    have hk := kind2_f n m s h1 h
    clear h
    rw [nd_mk] at hk hld
    ((repeat ((conv => whnf); (first | (refine LetN.pre ?_; first | ((conv => arg 1; whnf); refine LetN.mk ?_)) | (refine As.pre ?_; first | refine As.mk rfl ?_ | (refine As.mk ?_ ?_; · ((repeat' (refine andT ?_ ?_)) <;> (first | rfl | assumption | exact decide_eq_true (by omega) | exact decide_eq_true (by dsimp only; omega) | exact decide_eq_true (by simp; omega) | (simp; done))))) | (refine LetV.pre ?_; first | refine LetV.mk (t := 34) _ hld ?_ | refine LetV.mk (t := 97) (.tup [.agg [.clo 67 []], bool true]) rfl ?_ | refine LetV.mk (.sc (.int _ _)) rfl ?_ | refine LetV.mk (.agg _) rfl ?_ | refine LetV.mk (.clo _ _ _) rfl ?_) | (refine LetI.pre ?_; first | refine LetI.wrap (by omega) (by omega) ?_) | (refine LetB.pre ?_; first | refine LetB.ff rfl ?_ | refine LetB.dect (by omega) ?_) | (refine Br.pre ?_; first | refine Br.tt rfl ?_ | refine Br.ff rfl ?_) | (refine Ck.pre ?_; first | refine Ck.mk rfl ?_) | (refine LetL.pre ?_; first | refine LetL.mk (ty := nty) [.agg [_, _, _, _, _]] rfl ?_ | refine LetL.mk [_] rfl ?_) | (refine CallN.pre ?_; first | refine CallN.pure hk rfl rfl ?_) | (refine FindN.mk (some 1) ⟨_, rfl⟩ ?_)))); (try (conv => whnf)))
    refine LoopN.weak ?sw3 hnx
    case sw3 => exact SW.mk id rfl rfl rfl ⟨.refl _, .refl _, .refl _, VLe2.int (by omega), trivial⟩ (haveV.one rfl trivial)
  | all l h1 h2 =>
    have hk := kind3_f l h1 h2
    clear h1 h2
    rw [nd_mk] at hk hld
    ((repeat ((conv => whnf); (first | (refine LetN.pre ?_; first | ((conv => arg 1; whnf); refine LetN.mk ?_)) | (refine As.pre ?_; first | refine As.mk rfl ?_ | (refine As.mk ?_ ?_; · ((repeat' (refine andT ?_ ?_)) <;> (first | rfl | assumption | exact decide_eq_true (by omega) | exact decide_eq_true (by dsimp only; omega) | exact decide_eq_true (by simp; omega) | (simp; done))))) | (refine LetV.pre ?_; first | refine LetV.mk (t := 34) _ hld ?_ | refine LetV.mk (t := 97) (.tup [.agg [.clo 68 [.rp bareV 0]], bool true]) rfl ?_ | refine LetV.mk (.sc (.int _ _)) rfl ?_ | refine LetV.mk (.agg _) rfl ?_ | refine LetV.mk (.clo _ _ _) rfl ?_) | (refine LetI.pre ?_; first | refine LetI.wrap (by omega) (by omega) ?_) | (refine LetB.pre ?_; first | refine LetB.ff rfl ?_ | refine LetB.dect (by omega) ?_) | (refine Br.pre ?_; first | refine Br.tt rfl ?_ | refine Br.ff rfl ?_) | (refine Ck.pre ?_; first | refine Ck.mk rfl ?_) | (refine LetL.pre ?_; first | refine LetL.mk (ty := nty) [.agg [_, _, _, _, _]] rfl ?_ | refine LetL.mk [_] rfl ?_) | (refine CallN.pre ?_; first | refine CallN.pure hk rfl rfl ?_) | (refine FindN.mk (some 2) ⟨_, rfl⟩ ?_)))); (try (conv => whnf)))
    refine LoopN.weak ?sw4 hnx
    case sw4 => exact SW.mk id rfl rfl rfl ⟨.refl _, .refl _, .refl _, VLe2.int (by omega), trivial⟩ (haveV.one rfl trivial)
  | some n l h1 h2 h3 =>
    have hk := kind4_f n l h1 h2 h3
    clear h1 h2
    rw [nd_mk] at hk hld
    ((repeat ((conv => whnf); (first | (refine LetN.pre ?_; first | ((conv => arg 1; whnf); refine LetN.mk ?_)) | (refine As.pre ?_; first | refine As.mk rfl ?_ | (refine As.mk ?_ ?_; · ((repeat' (refine andT ?_ ?_)) <;> (first | rfl | assumption | exact decide_eq_true (by omega) | exact decide_eq_true (by dsimp only; omega) | exact decide_eq_true (by simp; omega) | (simp; done))))) | (refine LetV.pre ?_; first | refine LetV.mk (t := 34) _ hld ?_ | refine LetV.mk (t := 97) (.tup [.agg [.clo 69 [.rp bareV 0]], bool true]) rfl ?_ | refine LetV.mk (.sc (.int _ _)) rfl ?_ | refine LetV.mk (.agg _) rfl ?_ | refine LetV.mk (.clo _ _ _) rfl ?_) | (refine LetI.pre ?_; first | refine LetI.wrap (by omega) (by omega) ?_) | (refine LetB.pre ?_; first | refine LetB.ff rfl ?_ | refine LetB.dect (by omega) ?_) | (refine Br.pre ?_; first | refine Br.tt rfl ?_ | refine Br.ff rfl ?_) | (refine Ck.pre ?_; first | refine Ck.mk rfl ?_) | (refine LetL.pre ?_; first | refine LetL.mk (ty := nty) [.agg [_, _, _, _, _]] rfl ?_ | refine LetL.mk [_] rfl ?_) | (refine CallN.pre ?_; first | refine CallN.pure hk rfl rfl ?_) | (refine FindN.mk (some 3) ⟨_, rfl⟩ ?_)))); (try (conv => whnf)))
    refine LoopN.weak ?sw5 hnx
    case sw5 => exact SW.mk id rfl rfl rfl ⟨.refl _, .refl _, .refl _, VLe2.int (by omega), trivial⟩ (haveV.one rfl trivial)
end Pb
end Go.Proofs.Ytjnmbmdplchfkaa
namespace Go.Proofs.Ytjnmbmdplchfkaa
open Go.Proofs.Ytjnmbmdplchfkaa.Am
set_option maxRecDepth 100000
variable [Lo]
namespace Pb
/-! ### Names -/
def okB (b : Nat) : Bool := decide (¬ (b < 32 ∨ 126 < b ∨ b = 34))
def okName (s : ByteArray) : Prop := (1 ≤ s.size ∧ s.size ≤ 40) ∧ ∀ i, i < s.size → okB (byt s i) = true
theorem bytes_len (s : ByteArray) : (bytesAV s).length = s.size := by rw [bytesAV, List.length_map, Array.length_toList]; rfl
theorem bytes_at {s : ByteArray} {k : Nat} (h : k < s.size) : AV.sc (.int .u8 (byt s k : Int)) = (bytesAV s).getD k (.sc undef) := by
  have h2 : k < s.data.toList.length := by rw [Array.length_toList]; exact h
  rw [bytesAV, List.getD_eq_getElem?_getD, List.getElem?_map, byt, List.getD_eq_getElem?_getD, List.getElem?_eq_getElem h2]; rfl
set_option maxRecDepth 100000 in
open Classical in
theorem named_f (s : ByteArray) (hs : s.size ≤ 1000) : AFun Try.prog 52 0 [str s] [] (bool (decide (okName s))) [] := by
  refine AFun.of_W T_ok mixed Try.func52 rfl (Nat.le_of_ble_eq_true rfl) rfl ?_
  have hbl := bytes_len s
  ((repeat ((conv => whnf); (first | (refine As.pre ?_; first | refine As.mk rfl ?_) | (refine LetI.pre ?_; first | refine LetI.mk _ rfl ?_) | (refine Ck.pre ?_; first | refine Ck.mk rfl ?_)))); (try (conv => whnf)))
  refine LoopN.weak (s1 := ⟨[(0, str s), (6, .ro {} 1 (bytesAV s)), (7, int s.size), (8, int (0 : Nat))], [], 0⟩) (SW.fr0 (Nat.le_refl _) rfl ⟨.refl _, .ro_of rfl, VLe2.int (by rw [hbl]), .refl _, trivial⟩) ?_
  refine LoopN.ind T_ok mixed (S := fun k : Nat => ⟨[(0, str s), (6, .ro {} 1 (bytesAV s)), (7, int s.size), (8, int k)], [], 0⟩) (fun k => s.size - k) (fun k => k ≤ s.size ∧ ∀ i, i < k → okB (byt s i) = true) (fun _ => rfl) (fun k hk ih => ?_) 0 ⟨Nat.zero_le _, fun i h => absurd h (by omega)⟩
  obtain ⟨h1, h2⟩ := hk
  by_cases hlt : k < s.size
  case neg =>
    have hk : k = s.size := by omega
    subst hk
    clear ih
    have hw := within_f (s.size : Nat) 1 40
    have e : okName s ↔ ((1 : Int) ≤ s.size ∧ (s.size : Int) ≤ 40) := ⟨fun h => by have := h.1; omega, fun h => ⟨by omega, h2⟩⟩
    rw [show decide (okName s) = decide ((1 : Int) ≤ s.size ∧ (s.size : Int) ≤ 40) by rw [decide_eq_decide]; exact e]
    ((repeat ((conv => whnf); (first | (refine As.pre ?_; first | refine As.mk rfl ?_) | (refine LetI.pre ?_; first | refine LetI.mk _ rfl ?_) | (refine LetB.pre ?_; first | refine LetB.decf (by omega) ?_) | (refine Br.pre ?_; first | refine Br.ff rfl ?_) | (refine Ck.pre ?_; first | refine Ck.mk rfl ?_) | (refine CallN.pre ?_; first | refine CallN.pure hw rfl rfl ?_)))); (try (conv => whnf)))
    exact ⟨.inl rfl, ⟨_, rfl, rfl⟩, trivial⟩
  have hld := bytes_at hlt
  have hb2 : byt s k < 256 := UInt8.toNat_lt _
  generalize hb : byt s k = b at hld hb2
  by_cases hw : okB b = true
  · have hw2 : ¬ (b < 32 ∨ 126 < b ∨ b = 34) := of_decide_eq_true hw
    have next := ih (k + 1) ⟨by omega, fun i hi => by
      by_cases hik : i = k
      · rw [hik, hb]; exact hw
      · exact h2 i (by omega)⟩ (by omega)
    clear ih
    have g1 : ¬ ((b : Int) < 32) := by omega
    have g2 : ¬ ((126 : Int) < b) := by omega
    have g3 : ¬ ((b : Int) = 34) := by omega
    ((repeat ((conv => whnf); (first | (refine As.pre ?_; first | refine As.mk rfl ?_ | (refine As.mk ?_ ?_; · ((repeat' (refine andT ?_ ?_)) <;> (first | rfl | assumption | exact decide_eq_true (by omega) | exact decide_eq_true (by dsimp only; omega) | exact decide_eq_true (by simp; omega) | (simp; done))))) | (refine LetV.pre ?_; first | refine LetV.mk (t := 120) _ hld ?_ | refine LetV.mk (.sc (.int _ _)) rfl ?_) | (refine LetI.pre ?_; first | refine LetI.wrap (by omega) (by omega) ?_) | (refine LetB.pre ?_; first | refine LetB.dect (by omega) ?_ | refine LetB.decf (by omega) ?_) | (refine Gd.pre ?_; first | refine Gd.run rfl ?_) | (refine Br.pre ?_; first | refine Br.tt rfl ?_ | refine Br.ff rfl ?_) | (refine Ck.pre ?_; first | refine Ck.mk rfl ?_)))); (try (conv => whnf)))
    refine LoopN.weak ?_ next
    exact SW.fr0 (Nat.le_refl _) rfl ⟨.refl _, .refl _, .refl _, VLe2.int (by omega), trivial⟩
  · have hno : ¬ okName s := fun h => by have := h.2 k hlt; rw [hb] at this; exact hw this
    rw [decide_eq_false hno]
    clear ih
    have hw2 : b < 32 ∨ 126 < b ∨ b = 34 := Decidable.byContradiction fun h => hw (decide_eq_true h)
    by_cases g1 : (b : Int) < 32
    · ((repeat ((conv => whnf); (first | (refine As.pre ?_; first | refine As.mk rfl ?_ | (refine As.mk ?_ ?_; · ((repeat' (refine andT ?_ ?_)) <;> (first | rfl | assumption | exact decide_eq_true (by omega) | exact decide_eq_true (by dsimp only; omega) | exact decide_eq_true (by simp; omega) | (simp; done))))) | (refine LetV.pre ?_; first | refine LetV.mk (t := 120) _ hld ?_ | refine LetV.mk (.sc (.int _ _)) rfl ?_) | (refine LetB.pre ?_; first | refine LetB.dect (by omega) ?_) | (refine Gd.pre ?_; first | refine Gd.pass rfl ?_) | (refine Br.pre ?_; first | refine Br.tt rfl ?_) | (refine Ck.pre ?_; first | refine Ck.mk rfl ?_)))); (try (conv => whnf)))
      exact ⟨.inl rfl, ⟨_, rfl, rfl⟩, trivial⟩
    · by_cases g2 : (126 : Int) < b
      · ((repeat ((conv => whnf); (first | (refine As.pre ?_; first | refine As.mk rfl ?_ | (refine As.mk ?_ ?_; · ((repeat' (refine andT ?_ ?_)) <;> (first | rfl | assumption | exact decide_eq_true (by omega) | exact decide_eq_true (by dsimp only; omega) | exact decide_eq_true (by simp; omega) | (simp; done))))) | (refine LetV.pre ?_; first | refine LetV.mk (t := 120) _ hld ?_ | refine LetV.mk (.sc (.int _ _)) rfl ?_) | (refine LetB.pre ?_; first | refine LetB.dect (by omega) ?_ | refine LetB.decf (by omega) ?_) | (refine Gd.pre ?_; first | refine Gd.run rfl ?_ | refine Gd.pass rfl ?_) | (refine Br.pre ?_; first | refine Br.tt rfl ?_) | (refine Ck.pre ?_; first | refine Ck.mk rfl ?_)))); (try (conv => whnf)))
        exact ⟨.inl rfl, ⟨_, rfl, rfl⟩, trivial⟩
      · have g3 : (b : Int) = 34 := by omega
        ((repeat ((conv => whnf); (first | (refine As.pre ?_; first | refine As.mk rfl ?_ | (refine As.mk ?_ ?_; · ((repeat' (refine andT ?_ ?_)) <;> (first | rfl | assumption | exact decide_eq_true (by omega) | exact decide_eq_true (by dsimp only; omega) | exact decide_eq_true (by simp; omega) | (simp; done))))) | (refine LetV.pre ?_; first | refine LetV.mk (t := 120) _ hld ?_ | refine LetV.mk (.sc (.int _ _)) rfl ?_) | (refine LetB.pre ?_; first | refine LetB.dect (by omega) ?_ | refine LetB.decf (by omega) ?_) | (refine Gd.pre ?_; first | refine Gd.run rfl ?_) | (refine Br.pre ?_; first | refine Br.tt rfl ?_) | (refine Ck.pre ?_; first | refine Ck.mk rfl ?_)))); (try (conv => whnf)))
        exact ⟨.inl rfl, ⟨_, rfl, rfl⟩, trivial⟩
end Pb
end Go.Proofs.Ytjnmbmdplchfkaa
namespace Go.Proofs.Ytjnmbmdplchfkaa
open Go.Proofs.Ytjnmbmdplchfkaa.Am
set_option maxRecDepth 100000
variable [Lo]
namespace Pb
/-! ### A right node, as the reference sees it -/
end Pb
end Go.Proofs.Ytjnmbmdplchfkaa
namespace Go.Proofs.Ytjnmbmdplchfkaa
open Go.Proofs.Ytjnmbmdplchfkaa.Am
set_option maxRecDepth 100000
variable [Lo]
namespace Pb
/-! ### The nodes with their depths -/
abbrev ity : TypeId := 114
def itA : Nd × Int → AV
  | (.mk k n m s l, d) => .agg [int k, int n, int m, .ro {} 2 (s.map coA), .ro {} 5 (l.map nd), int d]
mutual
def Nd.its : Nd → Int → List (Nd × Int)
  | .mk k n m s l, d => (.mk k n m s l, d) :: Nd.itsL l (d + 1)
def Nd.itsL : List Nd → Int → List (Nd × Int)
  | [], _ => []
  | x :: l, d => x.its d ++ Nd.itsL l d
end
theorem itsL_append : ∀ (a b : List Nd) (d : Int), Nd.itsL (a ++ b) d = Nd.itsL a d ++ Nd.itsL b d
  | [], b, d => rfl
  | x :: a, b, d => by rw [List.cons_append, Nd.itsL, Nd.itsL, itsL_append a b, List.append_assoc]
theorem itsL_take {l : List Nd} {k : Nat} (h : k < l.length) (d : Int) : Nd.itsL (l.take (k + 1)) d = Nd.itsL (l.take k) d ++ (l.getD k nd0).its d := by
  rw [List.take_succ_eq_append_getElem h, itsL_append, List.getD_eq_getElem?_getD, List.getElem?_eq_getElem h, Nd.itsL, Nd.itsL, List.append_nil]; rfl
mutual
theorem its_nodes : ∀ (x : Nd) (d : Int), (x.its d).map Prod.fst = x.nodes
  | .mk k n m s l, d => by rw [Nd.its, Nd.nodes, List.map_cons, itsL_nodes l]
theorem itsL_nodes : ∀ (l : List Nd) (d : Int), (Nd.itsL l d).map Prod.fst = Nd.nodesL l
  | [], d => rfl
  | x :: l, d => by rw [Nd.itsL, Nd.nodesL, List.map_append, its_nodes x, itsL_nodes l]
end
theorem its_len (x : Nd) (d : Int) : (x.its d).length = x.nodes.length := by rw [← its_nodes x d, List.length_map]
theorem itsL_len (l : List Nd) (d : Int) : (Nd.itsL l d).length = (Nd.nodesL l).length := by rw [← itsL_nodes l d, List.length_map]
theorem it_names (x : Nd × Int) (ok : Nat → Bool) : (itA x).names ok = true := by obtain ⟨⟨k, n, m, s, l⟩, d⟩ := x; rfl
theorem pure_it : ∀ l : List (Nd × Int), AV.namesL (fun _ => false) (l.map itA) = true
  | [] => rfl
  | p :: l => by rw [List.map_cons, AV.namesL, it_names p, pure_it l]; rfl
abbrev it0 : Nd × Int := (nd0, 0)
theorem ld_it {l : List (Nd × Int)} {k : Nat} (h : k < l.length) : itA (l.getD k it0) = (l.map itA).getD k (.sc undef) := mapD it0 h
theorem it_mem {l : List (Nd × Int)} {k : Nat} (h : k < l.length) : l.getD k it0 ∈ l := by
  rw [List.getD_eq_getElem?_getD, List.getElem?_eq_getElem h]; exact List.getElem_mem h
theorem app_it (l : List (Nd × Int)) (e : Nd × Int) (n : Nat) (h : n = l.length) : (l ++ [e]).map itA = (l.map itA).take n ++ [itA e] := by rw [List.take_of_length_le (by simp [h]), List.map_append]; rfl
theorem room_it {n : Nat} (h : n ≤ 1000000) : room n 80 = true := by
  simp only [room, Bool.and_eq_true, decide_eq_true_eq]
  exact ⟨by omega, rfl⟩
abbrev itB (q : Nat) (L : List (Nd × Int)) : AH := [(q, .row 6 ity (L.map itA))]
theorem itN (q : Nat) (L : List (Nd × Int)) (ok : Nat → Bool) : namesAll ok (itB q L) = true := namesAll.row (pure_it _) rfl
abbrev rwS (k n m : Int) (s : List Co) (l : List Nd) (d : Nat) : Nat × List (Nd × Int) → AS
  | (j, L) => ⟨[(0, .slm {} 2 6 0 L.length), (2, int d), (4, .ptr 1 5 0 0), (8, int j)], [(1, .row 5 nty [.agg [int k, int n, int m, .ro {} 2 (s.map coA), .ro {} 5 (l.map nd)]]), (2, .row 6 ity (L.map itA))], 3⟩
theorem rwN (k n m : Int) (s : List Co) (l : List Nd) (L : List (Nd × Int)) (ok : Nat → Bool) : namesAll ok [(1, .row 5 nty [.agg [int k, int n, int m, .ro {} 2 (s.map coA), .ro {} 5 (l.map nd)]]), (2, .row 6 ity (L.map itA))] = true := namesAll.row rfl (namesAll.row (pure_it _) rfl)
def rw1 : Nat → Nat | 0 => 2 | 1 => 3 | i => i
def rw2 : Nat → Nat | 2 => 3 | i => i
set_option maxHeartbeats 1600000 in
set_option maxRecDepth 100000 in
theorem rwalk_f : ∀ (K : Nat) (x : Nd) (L : List (Nd × Int)) (d : Nat), x.nodes.length ≤ K → L.length + x.nodes.length ≤ 10000 → d + x.hgt ≤ 101 →
    AFun Try.prog 59 1 [.slm {} 0 6 0 L.length, nd x, int d] (itB 0 L) (.tup [.slm {} 1 6 0 (L ++ x.its d).length, bool true]) (itB 1 (L ++ x.its d)) := by
  intro K
  induction K with
  | zero => intro x L d h; have := nodes_pos x; omega
  | succ K ihK =>
    intro x L d hK hL hd
    obtain ⟨k, n, m, s, l⟩ := x
    rw [nd_mk, Nd.its]
    rw [Nd.nodes, List.length_cons] at hK hL
    rw [Nd.hgt] at hd
    refine AFun.of_S T_ok mixed Try.func59 rfl (Nat.le_of_ble_eq_true rfl) rfl ?_
    have hml : (l.map nd).length = l.length := List.length_map _
    have hge := nodesL_ge l
    have t1 : ¬ ((100 : Int) < d) := by omega
    have t2 : ¬ ((10000 : Int) ≤ L.length) := by omega
    have hmL : (L.map itA).length = L.length := List.length_map _
    have r1 := room_it (n := L.length + 1) (by omega)
    have a1 := app_it L (.mk k n m s l, d) L.length rfl
    have l1 : (L ++ [(Nd.mk k n m s l, (d : Int))]).length = L.length + 1 := by simp
    ((repeat ((conv => whnf); (first | (refine LetN.pre ?_; first | ((conv => arg 1; whnf); refine LetN.mk ?_)) | (refine As.pre ?_; first | refine As.mk rfl ?_ | (refine As.mk ?_ ?_; · ((repeat' (refine andT ?_ ?_)) <;> (first | rfl | assumption | exact decide_eq_true (by omega) | exact decide_eq_true (by dsimp only; omega) | exact decide_eq_true (by simp; omega) | (simp; done))))) | (refine LetV.pre ?_; first | refine LetV.mk (.agg _) rfl ?_) | (refine LetI.pre ?_; first | refine LetI.mk _ rfl ?_) | (refine LetB.pre ?_; first | refine LetB.decf (by omega) ?_) | (refine Gd.pre ?_; first | refine Gd.run rfl ?_) | (refine Br.pre ?_; first | refine Br.ff rfl ?_) | (refine Ck.pre ?_; first | refine Ck.mk rfl ?_) | (refine LetL.pre ?_; first | refine LetL.mk (ty := ity) _ a1 ?_)))); (try (conv => whnf)))



    refine LoopN.weak (s1 := rwS k n m s l d (0, L ++ [(.mk k n m s l, (d : Int))])) ?sw0 ?_
    case sw0 => exact SW.mk id rfl rfl (rwN _ _ _ _ _ _ _) ⟨VLe2.slm_of l1, .refl _, .refl _, .refl _, trivial⟩ (haveV.row rfl rfl (haveV.row (pure_it _) rfl trivial))
    refine LoopN.ind T_ok mixed (S := rwS k n m s l d) (fun i => l.length - i.1) (fun i => i.1 ≤ l.length ∧ i.2 = L ++ (.mk k n m s l, (d : Int)) :: Nd.itsL (l.take i.1) (d + 1)) (fun _ => rfl) (fun i hi ih => ?_) (0, L ++ [(.mk k n m s l, (d : Int))]) ⟨Nat.zero_le _, rfl⟩
    obtain ⟨j, L'⟩ := i
    obtain ⟨h1, h2⟩ := hi
    dsimp only at h1 h2
    by_cases hlt : j < l.length
    case neg =>
      clear ih
      rw [List.take_of_length_le (by omega)] at h2
      rw [← h2]
      ((repeat ((conv => whnf); (first | (refine As.pre ?_; first | refine As.mk rfl ?_) | (refine LetV.pre ?_; first | refine LetV.mk (.ro _ _ _) rfl ?_) | (refine LetI.pre ?_; first | refine LetI.mk _ rfl ?_) | (refine LetB.pre ?_; first | refine LetB.decf (by omega) ?_) | (refine Br.pre ?_; first | refine Br.ff rfl ?_) | (refine Ck.pre ?_; first | refine Ck.mk rfl ?_)))); (try (conv => whnf)))
      exact ⟨⟨[(6, .slm {} 1 6 0 L'.length), (7, bool true)], itB 1 L', 3⟩, SW.mk (fun i => match i with | 0 => 0 | i + 1 => i + 2) rfl rfl (itN _ _ _) ⟨.refl _, .refl _, trivial⟩ (haveV.row (pure_it _) rfl trivial), .inl rfl, ⟨_, rfl, rfl⟩, rfl, trivial⟩
    have hmem := getD_mem' hlt
    have hn := nodesL_mem hmem
    have hh := hgtL_mem hmem
    have ht := nodesL_take hlt
    have hle := nodesL_take_le l (j + 1)
    rw [ht, List.length_append] at hle
    have hLl : L'.length = L.length + ((Nd.nodesL (l.take j)).length + 1) := by rw [h2, List.length_append, List.length_cons, itsL_len]
    have hrec := ihK (l.getD j nd0) L' (d + 1) (by omega) (by omega) (by omega)
    have hnx := ih (j + 1, L' ++ (l.getD j nd0).its (d + 1)) ⟨hlt, by dsimp only; rw [itsL_take hlt, h2]; simp⟩ (by show l.length - (j + 1) < l.length - j; omega)
    have hld := ld_nd hlt
    clear ih ht hle h2
    generalize l.getD j nd0 = y at hrec hnx hld hmem hn hh
    have hdd : ((d + 1 : Nat) : Int) = IntKind.i64.wrap ((d : Int) + 1) := by rw [wrap_id (by omega) (by omega)]; omega
    rw [show ((d + 1 : Nat) : Int) = (d : Int) + 1 by omega] at hrec
    generalize L' ++ y.its (d + 1) = L2 at hrec hnx
    obtain ⟨k', n', m', s', l'⟩ := y
    rw [nd_mk] at hrec hld
    rw [show (d : Int) + 1 = ((d + 1 : Nat) : Int) by omega] at hrec
    have hmL : (L'.map itA).length = L'.length := List.length_map _
    ((repeat ((conv => whnf); (first | (refine LetN.pre ?_; first | ((conv => arg 1; whnf); refine LetN.mk ?_)) | (refine As.pre ?_; first | refine As.mk rfl ?_ | (refine As.mk ?_ ?_; · ((repeat' (refine andT ?_ ?_)) <;> (first | rfl | assumption | exact decide_eq_true (by omega) | exact decide_eq_true (by dsimp only; omega) | exact decide_eq_true (by simp; omega) | (simp; done))))) | (refine LetV.pre ?_; first | refine LetV.mk (t := 34) _ hld ?_ | refine LetV.mk (.agg _) rfl ?_ | refine LetV.mk (.ro _ _ _) rfl ?_) | (refine LetI.pre ?_; first | refine LetI.mk (o := some .add) ((d + 1 : Nat) : Int) hdd ?_ | refine LetI.wrap (by omega) (by omega) ?_ | refine LetI.mk _ rfl ?_) | (refine LetB.pre ?_; first | refine LetB.dect (by omega) ?_) | (refine Br.pre ?_; first | refine Br.tt rfl ?_ | refine Br.ff rfl ?_) | (refine Ck.pre ?_; first | refine Ck.mk rfl ?_) | (refine LetL.pre ?_; first | refine LetL.mk (ty := ity) _ (renL_none (pure_it _)).symm ?_) | (refine CallN.pre ?_; first | refine CallN.own rw1 hrec (CallOk.mk' rfl rfl rfl (itN _ _ _) rfl (itN _ _ _) (haveAll.row (pure_it _) rfl trivial)) ?_)))); (try (conv => whnf)))





    refine LoopN.weak ?sw1 hnx
    case sw1 => exact SW.mk rw2 rfl rfl (rwN _ _ _ _ _ _ _) ⟨.refl _, .refl _, .refl _, VLe2.int (by omega), trivial⟩ (haveV.row rfl rfl (haveV.row (pure_it _) rfl trivial))
set_option maxHeartbeats 1600000 in
set_option maxRecDepth 100000 in
theorem rwalk0_f (x : Nd) (hL : x.nodes.length ≤ 10000) (hd : x.hgt ≤ 100) :
    AFun Try.prog 59 0 [.sc (.slice none 0 0), nd x, int 1] [] (.tup [.ro {} 6 ((x.its 1).map itA), bool true]) [] := by
  refine AFun.frzT (id := 0) (ty := ity) (len := (x.its 1).length) ?_ (pure_it _) (by simp) rfl
  obtain ⟨d, hd1⟩ : ∃ d : Nat, d = 1 := ⟨1, rfl⟩
  rw [show (1 : Int) = (d : Int) by omega]
  replace hd : d + x.hgt ≤ 101 := by omega
  clear hd1
  obtain ⟨k, n, m, s, l⟩ := x
  rw [nd_mk]
  rw [Nd.nodes, List.length_cons] at hL
  rw [Nd.hgt] at hd
  refine AFun.of_S T_ok mixed Try.func59 rfl (Nat.le_of_ble_eq_true rfl) rfl ?_
  have hml : (l.map nd).length = l.length := List.length_map _
  have hge := nodesL_ge l
  have t1 : ¬ ((100 : Int) < d) := by omega
  have r1 := room_it (n := 0 + 1) (by omega)
  have l1 : (([] : List (Nd × Int)) ++ [(Nd.mk k n m s l, (d : Int))]).length = 0 + 1 := by simp
  ((repeat ((conv => whnf); (first | (refine LetN.pre ?_; first | ((conv => arg 1; whnf); refine LetN.mk ?_)) | (refine As.pre ?_; first | refine As.mk rfl ?_) | (refine LetV.pre ?_; first | refine LetV.mk (.agg _) rfl ?_) | (refine LetI.pre ?_; first | refine LetI.mk _ rfl ?_) | (refine LetB.pre ?_; first | refine LetB.ff rfl ?_ | refine LetB.decf (by omega) ?_) | (refine Gd.pre ?_; first | refine Gd.run rfl ?_) | (refine Br.pre ?_; first | refine Br.ff rfl ?_) | (refine Ck.pre ?_; first | refine Ck.mk rfl ?_) | (refine LetL.pre ?_; first | refine LetL.mk (ty := ity) [.agg [_, _, _, _, _, _]] rfl ?_)))); (try (conv => whnf)))


  refine LoopN.weak (s1 := rwS k n m s l d (0, [] ++ [(.mk k n m s l, (d : Int))])) ?sw0 ?_
  case sw0 => exact SW.mk (fun i => i - 1) rfl rfl (rwN _ _ _ _ _ _ _) ⟨VLe2.slm_of rfl, .refl _, .refl _, .refl _, trivial⟩ (haveV.row rfl rfl (haveV.row (pure_it _) rfl trivial))
  refine LoopN.ind T_ok mixed (S := rwS k n m s l d) (fun i => l.length - i.1) (fun i => i.1 ≤ l.length ∧ i.2 = [] ++ (.mk k n m s l, (d : Int)) :: Nd.itsL (l.take i.1) (d + 1)) (fun _ => rfl) (fun i hi ih => ?_) (0, [] ++ [(.mk k n m s l, (d : Int))]) ⟨Nat.zero_le _, rfl⟩
  obtain ⟨j, L'⟩ := i
  obtain ⟨h1, h2⟩ := hi
  dsimp only at h1 h2
  by_cases hlt : j < l.length
  case neg =>
    clear ih
    rw [List.take_of_length_le (by omega)] at h2
    rw [show Nd.its (.mk k n m s l) d = L' by rw [Nd.its]; exact h2.symm]
    ((repeat ((conv => whnf); (first | (refine As.pre ?_; first | refine As.mk rfl ?_) | (refine LetV.pre ?_; first | refine LetV.mk (.ro _ _ _) rfl ?_) | (refine LetI.pre ?_; first | refine LetI.mk _ rfl ?_) | (refine LetB.pre ?_; first | refine LetB.decf (by omega) ?_) | (refine Br.pre ?_; first | refine Br.ff rfl ?_) | (refine Ck.pre ?_; first | refine Ck.mk rfl ?_)))); (try (conv => whnf)))
    exact ⟨⟨[(6, .slm {} 0 6 0 L'.length), (7, bool true)], itB 0 L', 3⟩, SW.mk (fun i => i + 2) rfl rfl (itN _ _ _) ⟨.refl _, .refl _, trivial⟩ (haveV.row (pure_it _) rfl trivial), .inl rfl, ⟨_, rfl, rfl⟩, rfl, trivial⟩
  have hmem := getD_mem' hlt
  have hn := nodesL_mem hmem
  have hh := hgtL_mem hmem
  have ht := nodesL_take hlt
  have hle := nodesL_take_le l (j + 1)
  rw [ht, List.length_append] at hle
  have hLl : L'.length = 0 + ((Nd.nodesL (l.take j)).length + 1) := by rw [h2, List.length_append, List.length_cons, itsL_len]; rfl
  have hrec := rwalk_f _ (l.getD j nd0) L' (d + 1) (Nat.le_refl _) (by omega) (by omega)
  have hnx := ih (j + 1, L' ++ (l.getD j nd0).its (d + 1)) ⟨hlt, by dsimp only; rw [itsL_take hlt, h2]; simp⟩ (by show l.length - (j + 1) < l.length - j; omega)
  have hld := ld_nd hlt
  clear ih ht hle h2
  generalize l.getD j nd0 = y at hrec hnx hld hmem hn hh
  have hdd : ((d + 1 : Nat) : Int) = IntKind.i64.wrap ((d : Int) + 1) := by rw [wrap_id (by omega) (by omega)]; omega
  rw [show ((d + 1 : Nat) : Int) = (d : Int) + 1 by omega] at hrec
  generalize L' ++ y.its (d + 1) = L2 at hrec hnx
  obtain ⟨k', n', m', s', l'⟩ := y
  rw [nd_mk] at hrec hld
  rw [show (d : Int) + 1 = ((d + 1 : Nat) : Int) by omega] at hrec
  have hmL : (L'.map itA).length = L'.length := List.length_map _
  ((repeat ((conv => whnf); (first | (refine LetN.pre ?_; first | ((conv => arg 1; whnf); refine LetN.mk ?_)) | (refine As.pre ?_; first | refine As.mk rfl ?_ | (refine As.mk ?_ ?_; · ((repeat' (refine andT ?_ ?_)) <;> (first | rfl | assumption | exact decide_eq_true (by omega) | exact decide_eq_true (by dsimp only; omega) | exact decide_eq_true (by simp; omega) | (simp; done))))) | (refine LetV.pre ?_; first | refine LetV.mk (t := 34) _ hld ?_ | refine LetV.mk (.agg _) rfl ?_ | refine LetV.mk (.ro _ _ _) rfl ?_) | (refine LetI.pre ?_; first | refine LetI.mk (o := some .add) ((d + 1 : Nat) : Int) hdd ?_ | refine LetI.wrap (by omega) (by omega) ?_ | refine LetI.mk _ rfl ?_) | (refine LetB.pre ?_; first | refine LetB.dect (by omega) ?_) | (refine Br.pre ?_; first | refine Br.tt rfl ?_ | refine Br.ff rfl ?_) | (refine Ck.pre ?_; first | refine Ck.mk rfl ?_) | (refine LetL.pre ?_; first | refine LetL.mk (ty := ity) _ (renL_none (pure_it _)).symm ?_) | (refine CallN.pre ?_; first | refine CallN.own rw1 hrec (CallOk.mk' rfl rfl rfl (itN _ _ _) rfl (itN _ _ _) (haveAll.row (pure_it _) rfl trivial)) ?_)))); (try (conv => whnf)))





  refine LoopN.weak ?sw1 hnx
  case sw1 => exact SW.mk rw2 rfl rfl (rwN _ _ _ _ _ _ _) ⟨.refl _, .refl _, .refl _, VLe2.int (by omega), trivial⟩ (haveV.row rfl rfl (haveV.row (pure_it _) rfl trivial))
/-! ### Check of a right requirement -/
end Pb
end Go.Proofs.Ytjnmbmdplchfkaa
