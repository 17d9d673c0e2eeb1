/- publish: parts of the proof, DpublishPL DpublishPM DpublishPN DpublishPO DpublishPP DpublishPQ DpublishPR DpublishPS DpublishPT DpublishPU DpublishPV DpublishPW. -/
import Derived.Test.YtjnmbmdplchfkaaL42
set_option linter.all false
namespace Go.Proofs.Ytjnmbmdplchfkaa
open Go.Proofs.Ytjnmbmdplchfkaa.Am
set_option maxRecDepth 100000
variable [Lo]
namespace Pb
/-! ### Programmes -/
abbrev pty : TypeId := 39
abbrev exty : TypeId := 66
abbrev exA (e : Co × Co) : AV := .agg [int e.1.1, str e.1.2, int e.2.1, str e.2.2]
structure Pg where
  school : Int
  id : Int
  ver : Int
  from_ : Int
  name : ByteArray
  need : Nd
  total : Int
  own : Int
  age : Int
  ex : List (Co × Co)
def pg (p : Pg) : AV := .agg [int p.school, int p.id, int p.ver, int p.from_, str p.name, int p.need.kind, int p.need.n, int p.need.min, .ro {} 2 (p.need.set.map coA), .ro {} 5 (p.need.l.map nd), int p.total, int p.own, int p.age, .ro {} 4 (p.ex.map exA)]
theorem pg_mk (school id ver from_ : Int) (name : ByteArray) (k n m : Int) (s : List Co) (l : List Nd) (total own age : Int) (ex : List (Co × Co)) : pg ⟨school, id, ver, from_, name, .mk k n m s l, total, own, age, ex⟩ = .agg [int school, int id, int ver, int from_, str name, int k, int n, int m, .ro {} 2 (s.map coA), .ro {} 5 (l.map nd), int total, int own, int age, .ro {} 4 (ex.map exA)] := rfl
def p0 : Pg := ⟨0, 0, 0, 0, ⟨#[]⟩, nd0, 0, 0, 0, []⟩
/-- What a made programme has. -/
structure WP (p : Pg) : Prop where
  need : WN p.need
  total : 0 ≤ p.total ∧ p.total ≤ 600
  own : 0 ≤ p.own ∧ p.own ≤ 600
  age : 0 ≤ p.age ∧ p.age ≤ 100
  name : p.name.size ≤ 1000
  ex : p.ex = [] ∨ ∃ e, p.ex = [e] ∧ okC e.1 ∧ okC e.2 ∧ prec e.1 e.2 = true
open Classical in
/-- The error of a programme. -/
noncomputable def ckA (p : Pg) : Int :=
  if 1 ≤ p.school ∧ p.school ≤ 8 then if (1 ≤ p.id ∧ p.id ≤ 999999) ∧ (1 ≤ p.ver ∧ p.ver ≤ 20) ∧ (0 ≤ p.from_ ∧ p.from_ ≤ 100000) then if okName p.name then 0 else 1 else 3 else 1
theorem Index0_f (fl : Fl) (e : Co × Co) : AFun Try.prog 75 0 [.ro fl 4 [], exA e] [] (int (-1)) [] := by
  refine AFun.of_W T_ok mixed Try.func75 rfl (Nat.le_of_ble_eq_true rfl) rfl ?_
  ((repeat ((conv => whnf); (first | (refine LetN.pre ?_; first | ((conv => arg 1; whnf); refine LetN.mk ?_)) | (refine As.pre ?_; first | refine As.mk rfl ?_) | (refine LetI.pre ?_; first | refine LetI.mk _ rfl ?_) | (refine Ck.pre ?_; first | refine Ck.mk rfl ?_)))); (try (conv => whnf)))
  refine LoopN.weak (s1 := ⟨[(7, int 0), (8, int 0)], [], 1⟩) (SW.fr0 (Nat.zero_le _) rfl ⟨.refl _, .refl _, trivial⟩) ?_
  refine LoopN.ind T_ok mixed (S := fun _ : Unit => ⟨[(7, int 0), (8, int 0)], [], 1⟩) (fun _ => 0) (fun _ => True) (fun _ => rfl) (fun i hi ih => ?_) () trivial
  clear ih
  ((repeat ((conv => whnf); (first | (refine As.pre ?_; first | refine As.mk rfl ?_) | (refine LetB.pre ?_; first | refine LetB.ff rfl ?_) | (refine Br.pre ?_; first | refine Br.ff rfl ?_) | (refine Ck.pre ?_; first | refine Ck.mk rfl ?_)))); (try (conv => whnf)))
  exact ⟨.inl rfl, ⟨_, rfl, rfl⟩, trivial⟩
theorem Contains0_f (fl : Fl) (e : Co × Co) : AFun Try.prog 55 0 [.ro fl 4 [], exA e] [] (bool false) [] := by
  refine AFun.of_W T_ok mixed Try.func55 rfl (Nat.le_of_ble_eq_true rfl) rfl ?_
  have h := Index0_f fl e
  ((repeat ((conv => whnf); (first | (refine LetN.pre ?_; first | ((conv => arg 1; whnf); refine LetN.mk ?_)) | (refine As.pre ?_; first | refine As.mk rfl ?_) | (refine LetV.pre ?_; first | refine LetV.mk (.agg _) rfl ?_) | (refine LetB.pre ?_; first | refine LetB.ff rfl ?_) | (refine Ck.pre ?_; first | refine Ck.mk rfl ?_) | (refine CallN.pre ?_; first | refine CallN.pure h rfl rfl ?_)))); (try (conv => whnf)))
  exact ⟨.inl rfl, ⟨_, rfl, rfl⟩, trivial⟩
set_option maxHeartbeats 1600000 in
set_option maxRecDepth 100000 in
open Classical in
theorem CheckAll_f {p : Pg} (h : WP p) : AFun Try.prog 34 0 [pg p] [] (int (ckA p)) [] := by
  have hN := named_f p.name h.name
  have hC := Check_f h.need
  obtain ⟨school, id, ver, from_, name, ⟨k, n, m, s, l⟩, total, own, age, ex⟩ := p
  have hex : ex = [] ∨ ∃ e : Co × Co, ex = [e] ∧ okC e.1 ∧ okC e.2 ∧ prec e.1 e.2 = true := h.ex
  have ht : 0 ≤ total ∧ total ≤ 600 := h.total
  have ho : 0 ≤ own ∧ own ≤ 600 := h.own
  have ha : 0 ≤ age ∧ age ≤ 100 := h.age
  clear h
  have w1 := within_f school 1 8
  have w2 := within_f id 1 999999
  have w3 := within_f ver 1 20
  have w4 := within_f from_ 0 100000
  have w5 := within_f total 0 600
  have w6 := within_f own 0 600
  have w7 := within_f age 0 100
  rw [decide_eq_true ht] at w5
  rw [decide_eq_true ho] at w6
  rw [decide_eq_true ha] at w7
  rw [pg_mk]
  rw [nd_mk] at hC
  unfold ckA
  dsimp only at hN ⊢
  refine AFun.of_W T_ok mixed Try.func34 rfl (Nat.le_of_ble_eq_true rfl) rfl ?_
  by_cases c1 : 1 ≤ school ∧ school ≤ 8
  case neg =>
    rw [decide_eq_false c1] at w1
    rw [if_neg c1]
    ((repeat ((conv => whnf); (first | (refine LetN.pre ?_; first | ((conv => arg 1; whnf); refine LetN.mk ?_)) | (refine As.pre ?_; first | refine As.mk rfl ?_) | (refine LetV.pre ?_; first | refine LetV.mk (.sc (.int _ _)) rfl ?_) | (refine Br.pre ?_; first | refine Br.tt rfl ?_) | (refine Ck.pre ?_; first | refine Ck.mk rfl ?_) | (refine CallN.pre ?_; first | refine CallN.pure w1 rfl rfl ?_)))); (try (conv => whnf)))
    exact ⟨.inl rfl, ⟨_, rfl, rfl⟩, trivial⟩
  rw [decide_eq_true c1] at w1
  rw [if_pos c1]
  by_cases c2 : 1 ≤ id ∧ id ≤ 999999
  case neg =>
    rw [decide_eq_false c2] at w2
    rw [if_neg (fun g => c2 g.1)]
    ((repeat ((conv => whnf); (first | (refine LetN.pre ?_; first | ((conv => arg 1; whnf); refine LetN.mk ?_)) | (refine As.pre ?_; first | refine As.mk rfl ?_) | (refine LetV.pre ?_; first | refine LetV.mk (.sc (.int _ _)) rfl ?_) | (refine Gd.pre ?_; first | refine Gd.pass rfl ?_) | (refine Br.pre ?_; first | refine Br.tt rfl ?_ | refine Br.ff rfl ?_) | (refine Ck.pre ?_; first | refine Ck.mk rfl ?_) | (refine CallN.pre ?_; first | refine CallN.pure w1 rfl rfl ?_ | refine CallN.pure w2 rfl rfl ?_)))); (try (conv => whnf)))
    exact ⟨.inl rfl, ⟨_, rfl, rfl⟩, trivial⟩
  rw [decide_eq_true c2] at w2
  by_cases c3 : 1 ≤ ver ∧ ver ≤ 20
  case neg =>
    rw [decide_eq_false c3] at w3
    rw [if_neg (fun g => c3 g.2.1)]
    ((repeat ((conv => whnf); (first | (refine LetN.pre ?_; first | ((conv => arg 1; whnf); refine LetN.mk ?_)) | (refine As.pre ?_; first | refine As.mk rfl ?_) | (refine LetV.pre ?_; first | refine LetV.mk (.sc (.int _ _)) rfl ?_) | (refine Gd.pre ?_; first | refine Gd.run rfl ?_ | refine Gd.pass rfl ?_) | (refine Br.pre ?_; first | refine Br.tt rfl ?_ | refine Br.ff rfl ?_) | (refine Ck.pre ?_; first | refine Ck.mk rfl ?_) | (refine CallN.pre ?_; first | refine CallN.pure w1 rfl rfl ?_ | refine CallN.pure w2 rfl rfl ?_ | refine CallN.pure w3 rfl rfl ?_)))); (try (conv => whnf)))
    exact ⟨.inl rfl, ⟨_, rfl, rfl⟩, trivial⟩
  rw [decide_eq_true c3] at w3
  by_cases c4 : 0 ≤ from_ ∧ from_ ≤ 100000
  case neg =>
    rw [decide_eq_false c4] at w4
    rw [if_neg (fun g => c4 g.2.2)]
    ((repeat ((conv => whnf); (first | (refine LetN.pre ?_; first | ((conv => arg 1; whnf); refine LetN.mk ?_)) | (refine As.pre ?_; first | refine As.mk rfl ?_) | (refine LetV.pre ?_; first | refine LetV.mk (.sc (.int _ _)) rfl ?_) | (refine Gd.pre ?_; first | refine Gd.run rfl ?_ | refine Gd.pass rfl ?_) | (refine Br.pre ?_; first | refine Br.tt rfl ?_ | refine Br.ff rfl ?_) | (refine Ck.pre ?_; first | refine Ck.mk rfl ?_) | (refine CallN.pre ?_; first | refine CallN.pure w1 rfl rfl ?_ | refine CallN.pure w2 rfl rfl ?_ | refine CallN.pure w3 rfl rfl ?_ | refine CallN.pure w4 rfl rfl ?_)))); (try (conv => whnf)))
    exact ⟨.inl rfl, ⟨_, rfl, rfl⟩, trivial⟩
  rw [decide_eq_true c4] at w4
  rw [if_pos ⟨c2, c3, c4⟩]
  by_cases c5 : okName name
  case neg =>
    rw [decide_eq_false c5] at hN
    rw [if_neg c5]
    ((repeat ((conv => whnf); (first | (refine LetN.pre ?_; first | ((conv => arg 1; whnf); refine LetN.mk ?_)) | (refine As.pre ?_; first | refine As.mk rfl ?_) | (refine LetV.pre ?_; first | refine LetV.mk (.sc (.int _ _)) rfl ?_ | refine LetV.mk (.sc _) rfl ?_) | (refine Gd.pre ?_; first | refine Gd.run rfl ?_) | (refine Br.pre ?_; first | refine Br.tt rfl ?_ | refine Br.ff rfl ?_) | (refine Ck.pre ?_; first | refine Ck.mk rfl ?_) | (refine CallN.pre ?_; first | refine CallN.pure w1 rfl rfl ?_ | refine CallN.pure w2 rfl rfl ?_ | refine CallN.pure w3 rfl rfl ?_ | refine CallN.pure w4 rfl rfl ?_ | refine CallN.pure w5 rfl rfl ?_ | refine CallN.pure w6 rfl rfl ?_ | refine CallN.pure w7 rfl rfl ?_ | refine CallN.pure hN rfl rfl ?_)))); (try (conv => whnf)))
    exact ⟨.inl rfl, ⟨_, rfl, rfl⟩, trivial⟩
  rw [decide_eq_true c5] at hN
  rw [if_pos c5]
  rcases hex with rfl | ⟨e, rfl, e1, e2, e3⟩
  · ((repeat ((conv => whnf); (first | (refine LetN.pre ?_; first | ((conv => arg 1; whnf); refine LetN.mk ?_)) | (refine As.pre ?_; first | refine As.mk rfl ?_) | (refine LetV.pre ?_; first | refine LetV.mk (.sc (.int _ _)) rfl ?_ | refine LetV.mk (.sc _) rfl ?_ | refine LetV.mk (.agg _) rfl ?_ | refine LetV.mk (.ro _ _ _) rfl ?_) | (refine LetI.pre ?_; first | refine LetI.mk _ rfl ?_) | (refine LetB.pre ?_; first | refine LetB.ff rfl ?_) | (refine Gd.pre ?_; first | refine Gd.run rfl ?_) | (refine Br.pre ?_; first | refine Br.ff rfl ?_) | (refine Ck.pre ?_; first | refine Ck.mk rfl ?_) | (refine CallN.pre ?_; first | refine CallN.pure w1 rfl rfl ?_ | refine CallN.pure w2 rfl rfl ?_ | refine CallN.pure w3 rfl rfl ?_ | refine CallN.pure w4 rfl rfl ?_ | refine CallN.pure w5 rfl rfl ?_ | refine CallN.pure w6 rfl rfl ?_ | refine CallN.pure w7 rfl rfl ?_ | refine CallN.pure hN rfl rfl ?_ | refine CallN.pure hC rfl rfl ?_)))); (try (conv => whnf)))

    refine LoopN.weak (s1 := ⟨[(1, .ptr 0 14 0 0), (62, .ro {} 4 []), (63, int 0), (64, int 0)], [(0, .row 14 pty [.agg [int school, int id, int ver, int from_, str name, int k, int n, int m, .ro {} 2 (s.map coA), .ro {} 5 (l.map nd), int total, int own, int age, .ro {} 4 []]])], 1⟩) ?sw1 ?_
    case sw1 => exact SW.mk _root_.id rfl rfl (namesAll.row rfl rfl) ⟨.refl _, .refl _, .refl _, .refl _, trivial⟩ (haveV.row rfl rfl trivial)
    refine LoopN.ind T_ok mixed (S := fun _ : Unit => ⟨[(1, .ptr 0 14 0 0), (62, .ro {} 4 []), (63, int 0), (64, int 0)], [(0, .row 14 pty [.agg [int school, int id, int ver, int from_, str name, int k, int n, int m, .ro {} 2 (s.map coA), .ro {} 5 (l.map nd), int total, int own, int age, .ro {} 4 []]])], 1⟩) (fun _ => 0) (fun _ => True) (fun _ => rfl) (fun i hi ih => ?_) () trivial
    clear ih
    ((repeat ((conv => whnf); (first | (refine As.pre ?_; first | refine As.mk rfl ?_) | (refine LetB.pre ?_; first | refine LetB.ff rfl ?_) | (refine Br.pre ?_; first | refine Br.ff rfl ?_) | (refine Ck.pre ?_; first | refine Ck.mk rfl ?_)))); (try (conv => whnf)))
    exact ⟨.inl rfl, ⟨_, rfl, rfl⟩, trivial⟩
  have hr1 := right_f e1
  have hr2 := right_f e2
  have hc := compare_f e.1 e.2
  have hc0 := (cmpC_neg e.1 e.2).2 e3
  generalize cmpC e.1 e.2 = c at hc hc0
  ((repeat ((conv => whnf); (first | (refine LetN.pre ?_; first | ((conv => arg 1; whnf); refine LetN.mk ?_)) | (refine As.pre ?_; first | refine As.mk rfl ?_) | (refine LetV.pre ?_; first | refine LetV.mk (.sc (.int _ _)) rfl ?_ | refine LetV.mk (.sc _) rfl ?_ | refine LetV.mk (.agg _) rfl ?_ | refine LetV.mk (.ro _ _ _) rfl ?_) | (refine LetI.pre ?_; first | refine LetI.mk _ rfl ?_) | (refine LetB.pre ?_; first | refine LetB.ff rfl ?_) | (refine Gd.pre ?_; first | refine Gd.run rfl ?_) | (refine Br.pre ?_; first | refine Br.ff rfl ?_) | (refine Ck.pre ?_; first | refine Ck.mk rfl ?_) | (refine CallN.pre ?_; first | refine CallN.pure w1 rfl rfl ?_ | refine CallN.pure w2 rfl rfl ?_ | refine CallN.pure w3 rfl rfl ?_ | refine CallN.pure w4 rfl rfl ?_ | refine CallN.pure w5 rfl rfl ?_ | refine CallN.pure w6 rfl rfl ?_ | refine CallN.pure w7 rfl rfl ?_ | refine CallN.pure hN rfl rfl ?_ | refine CallN.pure hC rfl rfl ?_)))); (try (conv => whnf)))
  refine LoopN.weak (s1 := (fun j : Nat => (⟨[(1, .ptr 0 14 0 0), (62, .ro {} 4 [exA e]), (63, int 1), (64, int j)], [(0, .row 14 pty [.agg [int school, int id, int ver, int from_, str name, int k, int n, int m, .ro {} 2 (s.map coA), .ro {} 5 (l.map nd), int total, int own, int age, .ro {} 4 [exA e]]])], 1⟩ : AS)) 0) ?sw1 ?_
  case sw1 => exact SW.mk _root_.id rfl rfl (namesAll.row rfl rfl) ⟨.refl _, .refl _, .refl _, .refl _, trivial⟩ (haveV.row rfl rfl trivial)
  refine LoopN.ind T_ok mixed (S := fun j : Nat => (⟨[(1, .ptr 0 14 0 0), (62, .ro {} 4 [exA e]), (63, int 1), (64, int j)], [(0, .row 14 pty [.agg [int school, int id, int ver, int from_, str name, int k, int n, int m, .ro {} 2 (s.map coA), .ro {} 5 (l.map nd), int total, int own, int age, .ro {} 4 [exA e]]])], 1⟩ : AS)) (fun j => 1 - j) (fun j => j ≤ 1) (fun _ => rfl) (fun j hj ih => ?_) 0 (Nat.zero_le _)
  by_cases hlt : j < 1
  case neg =>
    obtain rfl : j = 1 := by omega
    clear ih
    ((repeat ((conv => whnf); (first | (refine As.pre ?_; first | refine As.mk rfl ?_) | (refine LetB.pre ?_; first | refine LetB.ff rfl ?_) | (refine Br.pre ?_; first | refine Br.ff rfl ?_) | (refine Ck.pre ?_; first | refine Ck.mk rfl ?_)))); (try (conv => whnf)))
    exact ⟨.inl rfl, ⟨_, rfl, rfl⟩, trivial⟩
  obtain rfl : j = 0 := by omega
  have hnx := ih 1 (Nat.le_refl _) (by omega)
  clear ih
  ((repeat ((conv => whnf); (first | (refine LetN.pre ?_; first | ((conv => arg 1; whnf); refine LetN.mk ?_)) | (refine As.pre ?_; first | refine As.mk rfl ?_) | (refine LetV.pre ?_; first | refine LetV.mk (.agg _) rfl ?_ | refine LetV.mk (.ro _ _ _) rfl ?_) | (refine LetI.pre ?_; first | refine LetI.wrap (by omega) (by omega) ?_) | (refine LetB.pre ?_; first | refine LetB.tt rfl ?_ | refine LetB.decf (by omega) ?_) | (refine Gd.pre ?_; first | refine Gd.run rfl ?_) | (refine Br.pre ?_; first | refine Br.tt rfl ?_ | refine Br.ff rfl ?_) | (refine Ck.pre ?_; first | refine Ck.drawn (by kernel_rfl) ?_ | refine Ck.mk rfl ?_) | (refine LetL.pre ?_; first | refine LetL.mk [_] rfl ?_) | (refine CallN.pre ?_; first | refine CallN.pure hr1 rfl rfl ?_ | refine CallN.pure hr2 rfl rfl ?_ | refine CallN.pure hc rfl rfl ?_ | refine CallN.pure (Contains0_f _ _) rfl rfl ?_)))); (try (conv => whnf)))




  refine LoopN.weak ?sw2 hnx
  case sw2 => exact SW.mk _root_.id rfl rfl (namesAll.row rfl rfl) ⟨.refl _, .refl _, .refl _, VLe2.int rfl, trivial⟩ (haveV.row rfl rfl trivial)
end Pb
end Go.Proofs.Ytjnmbmdplchfkaa
namespace Go.Proofs.Ytjnmbmdplchfkaa
open Go.Proofs.Ytjnmbmdplchfkaa.Am
set_option maxRecDepth 100000
variable [Lo]
namespace Pb
end Pb
end Go.Proofs.Ytjnmbmdplchfkaa
namespace Go.Proofs.Ytjnmbmdplchfkaa
open Go.Proofs.Ytjnmbmdplchfkaa.Am
set_option maxRecDepth 100000
variable [Lo]
namespace Pb
/-! ### Copies of requirements -/
abbrev cnS (k n m : Int) (s : List Co) (l : List Nd) : Nat × List Nd → AS
  | (j, L) => ⟨[(1, .ptr 0 5 0 0), (2, .ptr 1 5 0 0), (13, .ro {} 5 (l.map nd)), (14, int l.length), (15, int j)], [(0, .row 5 nty [.agg [int k, int n, int m, .ro {} 2 (s.map coA), .slm {} 2 5 0 L.length]]), (1, .row 5 nty [.agg [int 0, int 0, int 0, .sc (.slice none 0 0), .sc (.slice none 0 0)]]), (2, .row 5 nty (L.map nd))], 3⟩
theorem cnN (k n m : Int) (s : List Co) (L : List Nd) (ok : Nat → Bool) (h : ok 2 = true) : namesAll ok [(0, .row 5 nty [.agg [int k, int n, int m, .ro {} 2 (s.map coA), .slm {} 2 5 0 L.length]]), (1, .row 5 nty [.agg [int 0, int 0, int 0, .sc (.slice none 0 0), .sc (.slice none 0 0)]]), (2, .row 5 nty (L.map nd))] = true := by
  have h1 : namesAll ok [(2, .row 5 nty (L.map nd))] = true := namesAll.row (pure_nd L) rfl
  rw [namesAll, namesAll, h1]
  simp only [Blk.names, AV.namesL, AV.names, h]; rfl
theorem frz_nd (k n m : Int) (s : List Co) (l : List Nd) (fl : Fl) : AV.frz [(0, .row 5 nty (l.map nd))] (List.contains [0]) (.agg [int k, int n, int m, .ro {} 2 (s.map coA), .slm fl 0 5 0 l.length]) = .agg [int k, int n, int m, .ro {} 2 (s.map coA), .ro fl 5 (l.map nd)] ∧ AV.frzOk [(0, .row 5 nty (l.map nd))] (List.contains [0]) (.agg [int k, int n, int m, .ro {} 2 (s.map coA), .slm fl 0 5 0 l.length]) = true := by
  have e := frz_slm (H := [(0, .row 5 nty (l.map nd))]) (F := [0]) (fl := fl) (id := 0) rfl rfl (show l.length = (l.map nd).length by simp)
  refine ⟨?_, ?_⟩
  · show AV.agg [_, _, _, _, AV.frz _ _ (.slm fl 0 5 0 l.length)] = _
    rw [e.1]; rfl
  · show (true && (true && (true && (true && (AV.frzOk [(0, .row 5 nty (l.map nd))] (List.contains [0]) (.slm fl 0 5 0 l.length) && true))))) = true
    rw [e.2]; rfl
theorem nodesL_sub {l : List Nd} {x y : Nd} (h : x ∈ l) (hy : y ∈ x.nodes) : y ∈ Nd.nodesL l := by
  induction l with
  | nil => cases h
  | cons z l ih =>
    rw [Nd.nodesL, List.mem_append]
    rcases List.mem_cons.1 h with rfl | h
    · exact .inl hy
    · exact .inr (ih h)
set_option maxHeartbeats 1600000 in
set_option maxRecDepth 100000 in
theorem copyNeed_f : ∀ (K : Nat) (x : Nd), x.nodes.length ≤ K → x.nodes.length ≤ 1000 → (∀ y ∈ x.nodes, y.set.length ≤ 1000) → AFun Try.prog 50 0 [nd x] [] (nd x) [] := by
  intro K
  induction K with
  | zero => intro x h; have := nodes_pos x; omega
  | succ K ihK =>
    intro x hK hL hs
    obtain ⟨k, n, m, s, l⟩ := x
    rw [Nd.nodes] at hK hL hs
    rw [List.length_cons] at hK hL
    have hC := CloneC_f s (hs _ (List.mem_cons_self ..))
    have hsub : ∀ y ∈ Nd.nodesL l, y.set.length ≤ 1000 := fun y hy => hs y (List.mem_cons_of_mem _ hy)
    clear hs
    have hge := nodesL_ge l
    have hml : (l.map nd).length = l.length := List.length_map _
    have e := frz_nd k n m s l {}
    rw [nd_mk]
    refine (AFun.frz [0] (?_ : AFun Try.prog 50 0 [.agg [int k, int n, int m, .ro {} 2 (s.map coA), .ro {} 5 (l.map nd)]] [] (.agg [int k, int n, int m, .ro {} 2 (s.map coA), .slm {} 0 5 0 l.length]) [(0, .row 5 nty (l.map nd))]) ?_ rfl e.2).cast e.1 rfl
    case refine_2 => show (AV.namesL (fun _ => false) (l.map nd) && true) = true; rw [pure_nd l]; rfl
    clear e
    refine AFun.of_S T_ok mixed Try.func50 rfl (Nat.le_of_ble_eq_true rfl) rfl ?_
    ((repeat ((conv => whnf); (first | (refine LetN.pre ?_; first | ((conv => arg 1; whnf); refine LetN.mk ?_)) | (refine As.pre ?_; first | refine As.mk rfl ?_) | (refine LetV.pre ?_; first | refine LetV.mk (.ro _ _ _) rfl ?_) | (refine LetI.pre ?_; first | refine LetI.mk _ rfl ?_) | (refine Ck.pre ?_; first | refine Ck.mk rfl ?_) | (refine LetL.pre ?_; first | refine LetL.mk (ty := nty) [.agg [_, _, _, _, _]] rfl ?_) | (refine CallN.pre ?_; first | refine CallN.pure hC rfl rfl ?_)))); (try (conv => whnf)))
    refine LoopN.weak (s1 := cnS k n m s l (0, [])) ?sw1 ?_
    case sw1 => exact SW.mk id rfl rfl (cnN _ _ _ _ _ _ rfl) ⟨.refl _, .refl _, .refl _, VLe2.int (by rw [hml]), .refl _, trivial⟩ (haveV.agg rfl ⟨.refl _, .refl _, .refl _, .refl _, VLe2.nilslm, trivial⟩ (haveV.one rfl (haveV.nil (Nat.le_refl _) trivial)))
    clear hC
    refine LoopN.ind T_ok mixed (S := cnS k n m s l) (fun i => l.length - i.1) (fun i => i.1 ≤ l.length ∧ i.2 = l.take i.1) (fun _ => rfl) (fun i hi ih => ?_) (0, []) ⟨Nat.zero_le _, rfl⟩
    obtain ⟨j, L⟩ := i
    obtain ⟨h1, h2⟩ := hi
    dsimp only at h1 h2
    by_cases hlt : j < l.length
    case neg =>
      clear ih ihK hsub
      rw [List.take_of_length_le (by omega)] at h2
      subst h2
      ((repeat ((conv => whnf); (first | (refine LetN.pre ?_; first | ((conv => arg 1; whnf); refine LetN.mk ?_)) | (refine As.pre ?_; first | refine As.mk rfl ?_) | (refine LetV.pre ?_; first | refine LetV.mk (.agg _) rfl ?_) | (refine LetB.pre ?_; first | refine LetB.decf (by omega) ?_) | (refine Br.pre ?_; first | refine Br.ff rfl ?_) | (refine Ck.pre ?_; first | refine Ck.mk rfl ?_) | (refine LetL.pre ?_; first | refine LetL.mk [_] rfl ?_)))); (try (conv => whnf)))
      exact ⟨⟨[(2, .ptr 1 5 0 0)], [(0, .row 5 nty (L.map nd)), (1, .row 5 nty [.agg [int k, int n, int m, .ro {} 2 (s.map coA), .slm {} 0 5 0 L.length]])], 3⟩, SW.mk (fun i => match i with | 0 => 2 | 1 => 1 | 2 => 0 | i => i) rfl rfl (namesAll.row (pure_nd _) rfl) ⟨.refl _, trivial⟩ (haveV.row (pure_nd _) rfl (haveV.one rfl trivial)), .inl rfl, ⟨_, rfl, rfl⟩, rfl, trivial⟩
    have hn := nodesL_mem (getD_mem' hlt)
    have hrec := ihK (l.getD j nd0) (by omega) (by omega) (fun y hy => hsub y (nodesL_sub (getD_mem' hlt) hy))
    have hnx := ih (j + 1, L ++ [l.getD j nd0]) ⟨hlt, by dsimp only; rw [List.take_succ_eq_append_getElem hlt, h2, List.getD_eq_getElem?_getD, List.getElem?_eq_getElem hlt]; rfl⟩ (by show l.length - (j + 1) < l.length - j; omega)
    have hld := ld_nd hlt
    have hLl : L.length ≤ 1000 := by rw [h2, List.length_take]; omega
    clear ih ihK hsub h2 hn
    generalize l.getD j nd0 = y at hrec hnx hld
    have hr := room_nd (n := L.length + 1) (by omega)
    have hmL : (L.map nd).length = L.length := List.length_map _
    have a1 := app_nd L y L.length rfl
    have l1 : (L ++ [y]).length = L.length + 1 := by simp
    obtain ⟨k', n', m', s', l'⟩ := y
    rw [nd_mk] at hrec hld a1
    ((repeat ((conv => whnf); (first | (refine LetN.pre ?_; first | ((conv => arg 1; whnf); refine LetN.mk ?_)) | (refine As.pre ?_; first | refine As.mk rfl ?_ | (refine As.mk ?_ ?_; · ((repeat' (refine andT ?_ ?_)) <;> (first | rfl | assumption | exact decide_eq_true (by omega) | exact decide_eq_true (by dsimp only; omega) | exact decide_eq_true (by simp; omega) | (simp; done))))) | (refine LetV.pre ?_; first | refine LetV.mk (t := 34) _ hld ?_ | refine LetV.mk (.agg _) rfl ?_ | refine LetV.mk (.slm _ _ _ _ _) rfl ?_) | (refine LetI.pre ?_; first | refine LetI.wrap (by omega) (by omega) ?_) | (refine LetB.pre ?_; first | refine LetB.dect (by omega) ?_) | (refine Br.pre ?_; first | refine Br.tt rfl ?_) | (refine Ck.pre ?_; first | refine Ck.drawn (by kernel_rfl) ?_ | refine Ck.mk rfl ?_) | (refine LetL.pre ?_; first | refine LetL.mk (ty := nty) _ a1 ?_ | refine LetL.mk (ty := nty) [.agg [_, _, _, _, _]] rfl ?_) | (refine CallN.pre ?_; first | refine CallN.pure hrec rfl rfl ?_)))); (try (conv => whnf)))




    refine LoopN.weak ?sw2 hnx
    case sw2 => exact SW.mk (fun i => match i with | 2 => 4 | i => i) rfl rfl (cnN _ _ _ _ _ _ rfl) ⟨.refl _, .refl _, .refl _, .refl _, VLe2.int (by omega), trivial⟩ (haveV.agg rfl ⟨.refl _, .refl _, .refl _, .refl _, VLe2.slm_of l1, trivial⟩ (haveV.one rfl (haveV.row (pure_nd _) rfl trivial)))
end Pb
end Go.Proofs.Ytjnmbmdplchfkaa
namespace Go.Proofs.Ytjnmbmdplchfkaa
open Go.Proofs.Ytjnmbmdplchfkaa.Am
set_option maxRecDepth 100000
variable [Lo]
namespace Pb
/-! ### Copies of programmes -/
theorem pure_ex : ∀ l : List (Co × Co), AV.namesL (fun _ => false) (l.map exA) = true
  | [] => rfl
  | p :: l => by simp only [List.map_cons, AV.namesL, pure_ex l]; rfl
theorem stor_ex (l : List (Co × Co)) : storables (l.map exA) = true := List.all_eq_true.2 fun a ha => by obtain ⟨x, _, rfl⟩ := List.mem_map.1 ha; rfl
theorem CloneE_s (s : List (Co × Co)) (hs : s.length ≤ 1000) : AFun Try.prog 51 0 [.ro {} 4 (s.map exA)] [] (.slm {} 0 4 0 s.length) [(0, .row 4 exty (s.map exA))] := by
  have main : ∀ fl : Fl, (fl.nn || decide (0 < (s.map exA).length)) = true → AFun Try.prog 51 0 [.ro fl 4 (s.map exA)] [] (.slm {} 0 4 0 s.length) [(0, .row 4 exty (s.map exA))] := by
    intro fl hnn
    refine AFun.of_S T_ok mixed Try.func51 rfl (Nat.le_of_ble_eq_true rfl) rfl ?_
    have hst := stor_ex s
    have hml : (s.map exA).length = s.length := List.length_map _
    ((repeat ((conv => whnf); (first | (refine LetN.pre ?_; first | ((conv => arg 1; whnf); refine LetN.mk ?_)) | (refine As.pre ?_; first | refine As.mk rfl ?_ | (refine As.mk ?_ ?_; · ((repeat' (refine andT ?_ ?_)) <;> (first | rfl | assumption | exact decide_eq_true (by omega) | exact decide_eq_true (by dsimp only; omega) | exact decide_eq_true (by simp; omega) | (simp; done))))) | (refine LetB.pre ?_; first | refine LetB.ff rfl ?_) | (refine Br.pre ?_; first | refine Br.ff rfl ?_) | (refine Ck.pre ?_; first | refine Ck.mk rfl ?_) | (refine LetL.pre ?_; first | refine LetL.mk (ty := exty) (s.map exA) (by simp) ?_)))); (try (conv => whnf)))
    exact ⟨⟨[(2, .slm {} 0 4 0 s.length)], [(0, .row 4 exty (s.map exA))], 1⟩, SW.mk (fun i => if i = 0 then 1 else i + 1) rfl rfl (namesAll.row (pure_ex _) rfl) ⟨VLe2.slm_of (by simp), trivial⟩ (haveV.row (pure_ex _) rfl trivial), .inl rfl, ⟨_, rfl, rfl⟩, rfl, trivial⟩
  cases s with
  | nil =>
    refine AFun.rocase (vs1 := []) (vs2 := []) ?_ (main ⟨false, true⟩ rfl)
    refine AFun.of_S T_ok mixed Try.func51 rfl (Nat.le_of_ble_eq_true rfl) rfl ?_
    ((repeat ((conv => whnf); (first | (refine As.pre ?_; first | refine As.mk rfl ?_) | (refine LetB.pre ?_; first | refine LetB.tt rfl ?_) | (refine Br.pre ?_; first | refine Br.tt rfl ?_) | (refine Ck.pre ?_; first | refine Ck.mk rfl ?_)))); (try (conv => whnf)))
    exact ⟨⟨[(2, .slm {} 0 4 0 0)], [(0, .row 4 exty [])], 1⟩, SW.mk id rfl rfl rfl ⟨VLe2.nilslm, trivial⟩ (haveV.nil (Nat.le_refl _) trivial), .inl rfl, ⟨_, rfl, rfl⟩, rfl, trivial⟩
  | cons c s => exact main {} (by simp)
theorem CloneE_f (s : List (Co × Co)) (hs : s.length ≤ 1000) : AFun Try.prog 51 0 [.ro {} 4 (s.map exA)] [] (.ro {} 4 (s.map exA)) [] :=
  AFun.frz1 (H := []) (CloneE_s s hs) rfl (pure_ex _) (by simp)
/-- A copied programme: its lists are not too long. -/
structure SP (p : Pg) : Prop where
  n : p.need.nodes.length ≤ 1000
  s : ∀ y ∈ p.need.nodes, y.set.length ≤ 1000
  e : p.ex.length ≤ 1000
set_option maxHeartbeats 1600000 in
set_option maxRecDepth 100000 in
theorem copiedP_f {p : Pg} (h : SP p) : AFun Try.prog 33 0 [pg p] [] (pg p) [] := by
  have hC := copyNeed_f _ p.need (Nat.le_refl _) h.n h.s
  have hE := CloneE_f p.ex h.e
  clear h
  obtain ⟨school, id, ver, from_, name, ⟨k, n, m, s, l⟩, total, own, age, ex⟩ := p
  rw [pg_mk]
  dsimp only at hC hE
  rw [nd_mk] at hC
  refine AFun.of_W T_ok mixed Try.func33 rfl (Nat.le_of_ble_eq_true rfl) rfl ?_
  ((repeat ((conv => whnf); (first | (refine LetN.pre ?_; first | ((conv => arg 1; whnf); refine LetN.mk ?_)) | (refine As.pre ?_; first | refine As.mk rfl ?_) | (refine LetV.pre ?_; first | refine LetV.mk (.agg _) rfl ?_ | refine LetV.mk (.ro _ _ _) rfl ?_) | (refine Ck.pre ?_; first | refine Ck.mk rfl ?_) | (refine LetL.pre ?_; first | refine LetL.mk [_] rfl ?_) | (refine CallN.pre ?_; first | refine CallN.pure hC rfl rfl ?_ | refine CallN.pure hE rfl rfl ?_)))); (try (conv => whnf)))
  exact ⟨.inl rfl, ⟨_, rfl, rfl⟩, trivial⟩
/-! ### Copies, by the reference -/
end Pb
end Go.Proofs.Ytjnmbmdplchfkaa
namespace Go.Proofs.Ytjnmbmdplchfkaa
open Go.Proofs.Ytjnmbmdplchfkaa.Am
set_option maxRecDepth 100000
variable [Lo]
namespace Pb
/-! ### Lists of programmes -/
theorem pg_names (p : Pg) (ok : Nat → Bool) : (pg p).names ok = true := rfl
theorem pure_pg : ∀ l : List Pg, AV.namesL (fun _ => false) (l.map pg) = true
  | [] => rfl
  | p :: l => by rw [List.map_cons, AV.namesL, pg_names p, pure_pg l]; rfl
theorem ld_pg {l : List Pg} {k : Nat} (h : k < l.length) : pg (l.getD k p0) = (l.map pg).getD k (.sc undef) := mapD p0 h
theorem pg_mem {l : List Pg} {k : Nat} (h : k < l.length) : l.getD k p0 ∈ l := by
  rw [List.getD_eq_getElem?_getD, List.getElem?_eq_getElem h]; exact List.getElem_mem h
theorem app_pg (l : List Pg) (e : Pg) (n : Nat) (h : n = l.length) : (l ++ [e]).map pg = (l.map pg).take n ++ [pg e] := by rw [List.take_of_length_le (by simp [h]), List.map_append]; rfl
theorem room_pg {n : Nat} (h : n ≤ 1000000) : room n 168 = true := by
  simp only [room, Bool.and_eq_true, decide_eq_true_eq]
  exact ⟨by omega, rfl⟩
theorem pg_take {l : List Pg} {k : Nat} (h : k < l.length) : l.take (k + 1) = l.take k ++ [l.getD k p0] := by
  rw [List.take_succ_eq_append_getElem h, List.getD_eq_getElem?_getD, List.getElem?_eq_getElem h]; rfl
end Pb
end Go.Proofs.Ytjnmbmdplchfkaa
namespace Go.Proofs.Ytjnmbmdplchfkaa
open Go.Proofs.Ytjnmbmdplchfkaa.Am
set_option maxRecDepth 100000
variable [Lo]
namespace Pb
/-! ### The last version -/
def lasS (s i : Int) (a : Pg × Bool) (p : Pg) : Pg × Bool := if p.school = s ∧ p.id = i then (p, true) else a
def lastP (B : List Pg) (s i : Int) : Pg × Bool := B.foldl (lasS s i) (p0, false)
theorem last_take {B : List Pg} {k : Nat} (h : k < B.length) (s i : Int) : lastP (B.take (k + 1)) s i = lasS s i (lastP (B.take k) s i) (B.getD k p0) := by
  rw [pg_take h, lastP, List.foldl_append]; rfl
theorem last_append (B : List Pg) (p : Pg) (s i : Int) : lastP (B ++ [p]) s i = lasS s i (lastP B s i) p := by
  rw [lastP, List.foldl_append]; rfl
theorem revInd {α : Type} {M : List α → Prop} (h0 : M []) (h : ∀ l a, M l → M (l ++ [a])) (l : List α) : M l := by
  have : ∀ m : List α, M m.reverse := fun m => by
    induction m with
    | nil => exact h0
    | cons a m ih => rw [List.reverse_cons]; exact h _ _ ih
  rw [← List.reverse_reverse l]; exact this _
theorem last_mem (s i : Int) : ∀ B : List Pg, (lastP B s i).2 = true → (lastP B s i).1 ∈ B ∧ (lastP B s i).1.school = s ∧ (lastP B s i).1.id = i := by
  refine revInd (M := fun B => (lastP B s i).2 = true → (lastP B s i).1 ∈ B ∧ (lastP B s i).1.school = s ∧ (lastP B s i).1.id = i) ?_ ?_
  · intro h; cases h
  · intro B p ih
    rw [last_append, lasS]
    split
    · rename_i h; exact fun _ => ⟨by simp, h⟩
    · exact fun h => ⟨List.mem_append_left _ (ih h).1, (ih h).2⟩
theorem last_none (s i : Int) : ∀ B : List Pg, (lastP B s i).2 = false → (lastP B s i).1 = p0 ∧ ∀ p ∈ B, ¬ (p.school = s ∧ p.id = i) := by
  refine revInd (M := fun B => (lastP B s i).2 = false → (lastP B s i).1 = p0 ∧ ∀ p ∈ B, ¬ (p.school = s ∧ p.id = i)) ?_ ?_
  · exact fun _ => ⟨rfl, fun p h => by cases h⟩
  · intro B p ih
    rw [last_append, lasS]
    split
    · intro h; cases h
    · rename_i h0
      intro h
      refine ⟨(ih h).1, fun q hq => ?_⟩
      rcases List.mem_append.1 hq with hq | hq
      · exact (ih h).2 q hq
      · rw [List.mem_singleton.1 hq]; exact h0
abbrev zpV : AV := .agg [int 0, int 0, int 0, int 0, str ⟨#[]⟩, int 0, int 0, int 0, .sc (.slice none 0 0), .sc (.slice none 0 0), int 0, int 0, int 0, .sc (.slice none 0 0)]
end Pb
end Go.Proofs.Ytjnmbmdplchfkaa
namespace Go.Proofs.Ytjnmbmdplchfkaa
open Go.Proofs.Ytjnmbmdplchfkaa.Am
set_option maxRecDepth 100000
variable [Lo]
namespace Pb
/-! ### Check of a book -/
open Classical in
/-- The error of a programme behind others. -/
noncomputable def on1 (pre : List Pg) (p : Pg) : Int :=
  if ckA p = 0 then if p.ver - 1 = (lastP pre p.school p.id).1.ver ∧ (lastP pre p.school p.id).1.from_ ≤ p.from_ then 0 else 7 else ckA p
theorem ckA_ver {p : Pg} (h : ckA p = 0) : (1 ≤ p.ver ∧ p.ver ≤ 20) ∧ (0 ≤ p.from_ ∧ p.from_ ≤ 100000) := by
  unfold ckA at h
  split at h
  · split at h
    · rename_i h2; exact ⟨h2.2.1, h2.2.2⟩
    · cases h
  · cases h
theorem on1_ck {pre : List Pg} {p : Pg} (h : on1 pre p = 0) : ckA p = 0 := by
  unfold on1 at h
  split at h
  · assumption
  · exact h
/-- All of them are right alone. -/
def Vers (B : List Pg) : Prop := ∀ p ∈ B, ckA p = 0
/-- The error of a book, from behind its beginning on. -/
noncomputable def goB (pre : List Pg) : List Pg → Int
  | [] => 0
  | p :: l => if on1 pre p = 0 then goB (pre ++ [p]) l else on1 pre p
noncomputable def ckB (B : List Pg) : Int := if 200 < B.length then 2 else goB [] B
theorem goB_end {B : List Pg} {k : Nat} (h : ¬ k < B.length) : goB (B.take k) (B.drop k) = 0 := by
  rw [List.drop_eq_nil_of_le (by omega)]; rfl
theorem goB_at {B : List Pg} {k : Nat} (h : k < B.length) : goB (B.take k) (B.drop k) = if on1 (B.take k) (B.getD k p0) = 0 then goB (B.take (k + 1)) (B.drop (k + 1)) else on1 (B.take k) (B.getD k p0) := by
  rw [List.drop_eq_getElem_cons h, goB, pg_take h, List.getD_eq_getElem?_getD, List.getElem?_eq_getElem h]; rfl
end Pb
end Go.Proofs.Ytjnmbmdplchfkaa
namespace Go.Proofs.Ytjnmbmdplchfkaa
open Go.Proofs.Ytjnmbmdplchfkaa.Am
set_option maxRecDepth 100000
variable [Lo]
namespace Pb
/-! ### Check of a book, with a map of the last versions -/
abbrev kyV (s i : Int) : Value := .agg #[.int .i64 s, .int .i64 i]
abbrev kvM (M : List ((Int × Int) × Pg)) : List (Value × AV) := M.map fun x => (kyV x.1.1 x.1.2, pg x.2)
theorem kvM_pure (M : List ((Int × Int) × Pg)) : kvPure (kvM M) = true := List.all_eq_true.2 fun x hx => by
  obtain ⟨y, _, rfl⟩ := List.mem_map.1 hx; rfl
theorem key_pair {s i : Int} (h1 : -9223372036854775808 ≤ s ∧ s ≤ 9223372036854775807) (h2 : -9223372036854775808 ≤ i ∧ i ≤ 9223372036854775807) : keyB Try.prog 84 (kyV s i) = true := by
  have hu : Try.prog.underlying 84 = some (.array 2 3) := TT.Ok.arr T_ok (t := 84) rfl rfl
  have hv : Try.prog.underlying 3 = some (.int .i64) := TT.Ok.int T_ok (t := 3) rfl rfl
  have w1 : (Lit.int .i64 s).wf = true := by
    simp only [Lit.wf, Bool.and_eq_true, decide_eq_true_eq]
    exact h1
  have w2 : (Lit.int .i64 i).wf = true := by
    simp only [Lit.wf, Bool.and_eq_true, decide_eq_true_eq]
    exact h2
  have ht : Try.prog.keyType 84 = true := by kernel_rfl
  have hc : Try.prog.cellsOf 84 = 2 := by kernel_rfl
  have hc3 : Try.prog.cellsOf 3 = 1 := by kernel_rfl
  have hs : Try.prog.types.size = 152 := by kernel_rfl
  have hl : ∀ d, Try.prog.keyLits (d + 2) 84 (kyV s i).cells.toList = some [.int .i64 s, .int .i64 i] := by
    intro d
    simp [Program.keyLits, hu, hv, hc, hc3, w1, w2, Value.cells, List.range, List.range.loop]
  have hf : (kyV s i).formed Try.prog 84 = true := by
    simp [Value.formed, hu, hc]
  unfold keyB keyOf
  rw [hu]
  simp only [ht, hf, hs]
  rw [show Try.prog.keyLits (152 + 1) 84 (kyV s i).cells.toList = _ from hl 151]
  rfl
structure InvM (M : List ((Int × Int) × Pg)) (pre : List Pg) : Prop where
  at_ : ∀ s i, (∃ (ix : Nat) (x : Pg), M[ix]? = some ((s, i), x) ∧ lastP pre s i = (x, true)) ∨ ((∀ x ∈ M, x.1 ≠ (s, i)) ∧ (lastP pre s i).2 = false)
  k : ∀ x ∈ M, (1 ≤ x.1.1 ∧ x.1.1 ≤ 8) ∧ (1 ≤ x.1.2 ∧ x.1.2 ≤ 999999)
theorem InvM.nil : InvM [] [] := ⟨fun s i => .inr ⟨(fun x h => by cases h), rfl⟩, fun x h => by cases h⟩
theorem InvM.set {M : List ((Int × Int) × Pg)} {pre : List Pg} (h : InvM M pre) {p x : Pg} {ix : Nat} (hx : M[ix]? = some ((p.school, p.id), x)) (hk : (1 ≤ p.school ∧ p.school ≤ 8) ∧ (1 ≤ p.id ∧ p.id ≤ 999999)) : InvM (M.set ix ((p.school, p.id), p)) (pre ++ [p]) := by
  have hlt := (List.getElem?_eq_some_iff.1 hx).1
  refine ⟨fun s i => ?_, fun y hy => ?_⟩
  · rw [last_append, lasS]
    by_cases c : p.school = s ∧ p.id = i
    · rw [if_pos c]
      exact .inl ⟨ix, p, by rw [List.getElem?_set_self hlt, c.1, c.2], rfl⟩
    · rw [if_neg c]
      rcases h.at_ s i with ⟨iy, y, hy, hl⟩ | ⟨hn, hl⟩
      · refine .inl ⟨iy, y, ?_, hl⟩
        rw [List.getElem?_set_ne]
        · exact hy
        · rintro rfl
          rw [hx] at hy
          injection hy with hy
          injection hy with hy _
          injection hy with a b
          exact c ⟨a, b⟩
      · refine .inr ⟨fun y hy => ?_, hl⟩
        rcases List.mem_or_eq_of_mem_set hy with hy | rfl
        · exact hn y hy
        · intro e; injection e with a b; exact c ⟨a, b⟩
  · rcases List.mem_or_eq_of_mem_set hy with hy | rfl
    · exact h.k y hy
    · exact hk
theorem InvM.add {M : List ((Int × Int) × Pg)} {pre : List Pg} (h : InvM M pre) {p : Pg} (hx : ∀ x ∈ M, x.1 ≠ (p.school, p.id)) (hk : (1 ≤ p.school ∧ p.school ≤ 8) ∧ (1 ≤ p.id ∧ p.id ≤ 999999)) : InvM (M ++ [((p.school, p.id), p)]) (pre ++ [p]) := by
  refine ⟨fun s i => ?_, fun y hy => ?_⟩
  · rw [last_append, lasS]
    by_cases c : p.school = s ∧ p.id = i
    · rw [if_pos c]
      exact .inl ⟨M.length, p, by rw [List.getElem?_append_right (Nat.le_refl _), c.1, c.2]; simp, rfl⟩
    · rw [if_neg c]
      rcases h.at_ s i with ⟨iy, y, hy, hl⟩ | ⟨hn, hl⟩
      · exact .inl ⟨iy, y, by rw [List.getElem?_append_left (List.getElem?_eq_some_iff.1 hy).1]; exact hy, hl⟩
      · refine .inr ⟨fun y hy => ?_, hl⟩
        rcases List.mem_append.1 hy with hy | hy
        · exact hn y hy
        · rw [List.mem_singleton.1 hy]; intro e; injection e with a b; exact c ⟨a, b⟩
  · rcases List.mem_append.1 hy with hy | hy
    · exact h.k y hy
    · rw [List.mem_singleton.1 hy]; exact hk
theorem ckA_key {p : Pg} (h : ckA p = 0) : (1 ≤ p.school ∧ p.school ≤ 8) ∧ (1 ≤ p.id ∧ p.id ≤ 999999) := by
  unfold ckA at h
  split at h
  · rename_i h1
    split at h
    · rename_i h2; exact ⟨h1, h2.1⟩
    · cases h
  · cases h
theorem InvM.keys {M : List ((Int × Int) × Pg)} {pre : List Pg} (h : InvM M pre) {s i : Int} (hk : (1 ≤ s ∧ s ≤ 8) ∧ (1 ≤ i ∧ i ≤ 999999)) : (keyB Try.prog 84 (kyV s i) && (kvM M).all fun x => keyB Try.prog 84 x.1) = true := by
  rw [key_pair (by omega) (by omega), Bool.true_and]
  refine List.all_eq_true.2 fun x hx => ?_
  obtain ⟨y, hy, rfl⟩ := List.mem_map.1 hx
  have := h.k y hy
  exact key_pair (by omega) (by omega)
theorem kvM_some {M : List ((Int × Int) × Pg)} {ix : Nat} {s i : Int} {x : Pg} (h : M[ix]? = some ((s, i), x)) : findOk (kvM M) (kyV s i) (some ix) ∧ pg x = kvAt (kvM M) ix := by
  have e : (kvM M)[ix]? = some (kyV s i, pg x) := by rw [kvM, List.getElem?_map, h]; rfl
  refine ⟨⟨_, e⟩, ?_⟩
  rw [kvAt, List.getD_eq_getElem?_getD, e]; rfl
theorem kvM_none {M : List ((Int × Int) × Pg)} {s i : Int} (h : ∀ x ∈ M, x.1 ≠ (s, i)) : findOk (kvM M) (kyV s i) none := fun y hy => by
  obtain ⟨x, hx, rfl⟩ := List.mem_map.1 hy
  intro e
  have e' : x.1.1 = s ∧ x.1.2 = i := by simpa [kyV] using e
  exact h x hx (Prod.ext e'.1 e'.2)
abbrev cbS (fl : Fl) (B : List Pg) : Nat × Nat × List ((Int × Int) × Pg) → AS
  | (j, ck, M) => ⟨[(3, .mp 0), (12, .ro fl 14 (B.map pg)), (13, int B.length), (14, int j)], [(0, .map ck (kvM M))], 1⟩
theorem cbN (ck : Nat) (M : List ((Int × Int) × Pg)) (ok : Nat → Bool) : namesAll ok [(0, .map ck (kvM M))] = true := namesAll.map (kvM_pure M) rfl
set_option maxHeartbeats 3200000 in
set_option maxRecDepth 100000 in
theorem CheckB_f (fl : Fl) (B : List Pg) (hB : B.length ≤ 1000) (h : ∀ p ∈ B, WP p) : AFun Try.prog 12 0 [.ro fl 14 (B.map pg)] [] (int (ckB B)) [] := by
  have hmB : (B.map pg).length = B.length := List.length_map _
  refine AFun.of_W T_ok mixed Try.func12 rfl (Nat.le_of_ble_eq_true rfl) rfl ?_
  unfold ckB
  by_cases c : 200 < B.length
  · rw [if_pos c]
    ((repeat ((conv => whnf); (first | (refine As.pre ?_; first | refine As.mk rfl ?_) | (refine LetI.pre ?_; first | refine LetI.mk _ rfl ?_) | (refine LetB.pre ?_; first | refine LetB.dect (by omega) ?_) | (refine Br.pre ?_; first | refine Br.tt rfl ?_) | (refine Ck.pre ?_; first | refine Ck.mk rfl ?_)))); (try (conv => whnf)))
    exact ⟨.inl rfl, ⟨_, rfl, rfl⟩, trivial⟩
  rw [if_neg c]
  ((repeat ((conv => whnf); (first | (refine LetN.pre ?_; first | ((conv => arg 1; whnf); refine LetN.mk ?_)) | (refine As.pre ?_; first | refine As.mk rfl ?_) | (refine LetI.pre ?_; first | refine LetI.mk _ rfl ?_) | (refine LetB.pre ?_; first | refine LetB.decf (by omega) ?_) | (refine Br.pre ?_; first | refine Br.ff rfl ?_) | (refine Ck.pre ?_; first | refine Ck.mk rfl ?_)))); (try (conv => whnf)))
  refine LoopN.weak (s1 := cbS fl B (0, 0, [])) ?sw1 ?_
  case sw1 => exact SW.mk id rfl rfl (cbN _ _ _) ⟨.refl _, .refl _, VLe2.int (by rw [hmB]), .refl _, trivial⟩ (haveV.map (kvM_pure _) rfl trivial)
  refine LoopN.ind T_ok mixed (S := cbS fl B) (fun i => B.length - i.1) (fun i => i.1 ≤ B.length ∧ Vers (B.take i.1) ∧ InvM i.2.2 (B.take i.1) ∧ goB [] B = goB (B.take i.1) (B.drop i.1)) (fun _ => rfl) (fun i hi ih => ?_) (0, 0, []) ⟨Nat.zero_le _, (fun p hp => by simp at hp), InvM.nil, rfl⟩
  obtain ⟨k, ck, M⟩ := i
  obtain ⟨h1, h2, hM, h3⟩ := hi
  dsimp only at h1 h2 hM h3
  by_cases hlt : k < B.length
  case neg =>
    rw [goB_end hlt] at h3
    rw [h3]
    clear ih
    ((repeat ((conv => whnf); (first | (refine As.pre ?_; first | refine As.mk rfl ?_) | (refine LetB.pre ?_; first | refine LetB.decf (by omega) ?_) | (refine Br.pre ?_; first | refine Br.ff rfl ?_) | (refine Ck.pre ?_; first | refine Ck.mk rfl ?_)))); (try (conv => whnf)))
    exact ⟨.inl rfl, ⟨_, rfl, rfl⟩, trivial⟩
  rw [goB_at hlt] at h3
  have hld := ld_pg hlt
  have hC := CheckAll_f (h _ (pg_mem hlt))
  clear h
  by_cases hck : ckA (B.getD k p0) = 0
  case neg =>
    rw [if_neg (fun g => hck (on1_ck g))] at h3
    have e : on1 (B.take k) (B.getD k p0) = ckA (B.getD k p0) := if_neg hck
    rw [h3, e]
    clear ih h2 hM h3 e
    generalize ckA (B.getD k p0) = e at hC hck
    generalize B.getD k p0 = y at hld hC
    obtain ⟨school, id, ver, from_, name, ⟨k', n, m, st, l⟩, total, own, age, ex⟩ := y
    rw [pg_mk] at hld hC
    ((repeat ((conv => whnf); (first | (refine LetN.pre ?_; first | ((conv => arg 1; whnf); refine LetN.mk ?_)) | (refine As.pre ?_; first | refine As.mk rfl ?_ | (refine As.mk ?_ ?_; · ((repeat' (refine andT ?_ ?_)) <;> (first | rfl | assumption | exact decide_eq_true (by omega) | exact decide_eq_true (by dsimp only; omega) | exact decide_eq_true (by simp; omega) | (simp; done))))) | (refine LetV.pre ?_; first | refine LetV.mk (t := 28) _ hld ?_ | refine LetV.mk (.agg _) rfl ?_) | (refine LetB.pre ?_; first | refine LetB.dect (by omega) ?_ | refine LetB.bnet (by omega) ?_) | (refine Br.pre ?_; first | refine Br.tt rfl ?_) | (refine Ck.pre ?_; first | refine Ck.mk rfl ?_) | (refine LetL.pre ?_; first | refine LetL.mk (ty := pty) [.agg [_, _, _, _, _, _, _, _, _, _, _, _, _, _]] rfl ?_) | (refine CallN.pre ?_; first | refine CallN.pure hC rfl rfl ?_)))); (try (conv => whnf)))
    exact ⟨.inl rfl, ⟨_, rfl, rfl⟩, trivial⟩
  have hkey := ckA_key hck
  have hver := (ckA_ver hck).1
  have hky := hM.keys hkey
  rw [hck] at hC
  have hon : on1 (B.take k) (B.getD k p0) = if (B.getD k p0).ver - 1 = (lastP (B.take k) (B.getD k p0).school (B.getD k p0).id).1.ver ∧ (lastP (B.take k) (B.getD k p0).school (B.getD k p0).id).1.from_ ≤ (B.getD k p0).from_ then 0 else 7 := if_pos hck
  have hnx : ∀ ck' M', on1 (B.take k) (B.getD k p0) = 0 → InvM M' (B.take k ++ [B.getD k p0]) → goB [] B = goB (B.take (k + 1)) (B.drop (k + 1)) → _ := fun ck' M' ho hM' hg => ih (k + 1, ck', M') ⟨hlt, fun p hp => by
      rw [pg_take hlt] at hp
      rcases List.mem_append.1 hp with hp | hp
      · exact h2 p hp
      · rw [List.mem_singleton.1 hp]; exact on1_ck ho, by dsimp only; rw [pg_take hlt]; exact hM', hg⟩ (by show B.length - (k + 1) < B.length - k; omega)
  clear ih h2 hck
  generalize goB (B.take (k + 1)) (B.drop (k + 1)) = gn at h3 hnx
  generalize goB [] B = g0 at h3 hnx ⊢
  have hsb : (B.getD k p0).ver - 1 = IntKind.i64.wrap ((B.getD k p0).ver - 1) := (wrap_id (by omega) (by omega)).symm
  rcases hM.at_ (B.getD k p0).school (B.getD k p0).id with ⟨ix, x, hx, hl⟩ | ⟨hn, hl⟩
  · have hset := hM.set hx hkey
    obtain ⟨hfi, hkv⟩ := kvM_some hx
    have hst := congrArg (fun m => some (Blk.map ck m)) (show kvM (M.set ix (((B.getD k p0).school, (B.getD k p0).id), B.getD k p0)) = (kvM M).set ix (kyV (B.getD k p0).school (B.getD k p0).id, pg (B.getD k p0)) from List.map_set)
    rw [hl] at hon
    dsimp only at hon
    replace hnx := fun ho => hnx ck _ ho hset
    clear hM hset hl hx
    generalize on1 (B.take k) (B.getD k p0) = o at hon h3 hnx
    generalize M.set ix (((B.getD k p0).school, (B.getD k p0).id), B.getD k p0) = M' at hnx hst
    generalize B.getD k p0 = y at hld hC hon hky hfi hst hsb hver hkey
    obtain ⟨school, id, ver, from_, name, ⟨k', n, m, st, l⟩, total, own, age, ex⟩ := y
    obtain ⟨xschool, xid, xver, xfrom, xname, ⟨xk, xn, xm, xs, xl⟩, xtotal, xown, xage, xex⟩ := x
    dsimp only at hon hky hfi hst hsb hver hkey
    rw [pg_mk] at hld hC hkv hst
    by_cases c1 : ver - 1 = xver
    · by_cases c2 : from_ < xfrom
      · rw [if_neg (fun g => by omega)] at hon
        rw [hon, if_neg (by decide)] at h3
        rw [h3]
        clear hnx hon h3
        ((repeat ((conv => whnf); (first | (refine LetN.pre ?_; first | ((conv => arg 1; whnf); refine LetN.mk ?_)) | (refine As.pre ?_; first | refine As.mk rfl ?_ | refine As.mk hky ?_ | (refine As.mk ?_ ?_; · ((repeat' (refine andT ?_ ?_)) <;> (first | rfl | assumption | exact decide_eq_true (by omega) | exact decide_eq_true (by dsimp only; omega) | exact decide_eq_true (by simp; omega) | (simp; done))))) | (refine LetV.pre ?_; first | refine LetV.mk (t := 28) _ hld ?_ | refine LetV.mk (t := 81) _ hkv ?_ | refine LetV.mk (.sc (.int _ _)) rfl ?_ | refine LetV.mk (.agg _) rfl ?_) | (refine LetI.pre ?_; first | refine LetI.mk (o := some .sub) _ hsb ?_) | (refine LetB.pre ?_; first | refine LetB.ff rfl ?_ | refine LetB.dect (by omega) ?_ | refine LetB.bnef (by omega) ?_) | (refine Gd.pre ?_; first | refine Gd.run rfl ?_) | (refine Br.pre ?_; first | refine Br.tt rfl ?_ | refine Br.ff rfl ?_) | (refine Ck.pre ?_; first | refine Ck.mk rfl ?_) | (refine LetL.pre ?_; first | refine LetL.mk (ty := pty) [.agg [_, _, _, _, _, _, _, _, _, _, _, _, _, _]] rfl ?_) | (refine CallN.pre ?_; first | refine CallN.pure hC rfl rfl ?_) | (refine FindN.mk (some ix) hfi ?_)))); (try (conv => whnf)))
        exact ⟨.inl rfl, ⟨_, rfl, rfl⟩, trivial⟩
      · rw [if_pos ⟨c1, by omega⟩] at hon
        rw [hon, if_pos rfl] at h3
        replace hnx := hnx hon h3
        clear hon h3
        ((repeat ((conv => whnf); (first | (refine LetN.pre ?_; first | ((conv => arg 1; whnf); refine LetN.mk ?_)) | (refine As.pre ?_; first | refine As.mk rfl ?_ | refine As.mk hky ?_ | (refine As.mk ?_ ?_; · ((repeat' (refine andT ?_ ?_)) <;> (first | rfl | assumption | exact decide_eq_true (by omega) | exact decide_eq_true (by dsimp only; omega) | exact decide_eq_true (by simp; omega) | (simp; done))))) | (refine LetV.pre ?_; first | refine LetV.mk (t := 28) _ hld ?_ | refine LetV.mk (t := 81) _ hkv ?_ | refine LetV.mk (.sc (.int _ _)) rfl ?_ | refine LetV.mk (.agg _) rfl ?_) | (refine LetI.pre ?_; first | refine LetI.mk (o := some .sub) _ hsb ?_ | refine LetI.wrap (by omega) (by omega) ?_) | (refine LetB.pre ?_; first | refine LetB.ff rfl ?_ | refine LetB.dect (by omega) ?_ | refine LetB.decf (by omega) ?_ | refine LetB.bnef (by omega) ?_) | (refine Gd.pre ?_; first | refine Gd.run rfl ?_) | (refine Br.pre ?_; first | refine Br.tt rfl ?_ | refine Br.ff rfl ?_) | (refine Ck.pre ?_; first | refine Ck.mk rfl ?_) | (refine LetL.pre ?_; first | refine LetL.mk (ty := pty) [.agg [_, _, _, _, _, _, _, _, _, _, _, _, _, _]] rfl ?_) | (refine CallN.pre ?_; first | refine CallN.pure hC rfl rfl ?_) | (refine FindN.mk (some ix) hfi ?_)))); (try (conv => whnf)))
        refine LoopN.weak ?sw2 hnx
        case sw2 => exact SW.mk _root_.id rfl rfl (cbN _ _ _) ⟨.refl _, .refl _, .refl _, VLe2.int (by omega), trivial⟩ (haveV.map (kvM_pure _) hst.symm trivial)
    · rw [if_neg (fun g => c1 g.1)] at hon
      rw [hon, if_neg (by decide)] at h3
      rw [h3]
      clear hnx hon h3
      ((repeat ((conv => whnf); (first | (refine LetN.pre ?_; first | ((conv => arg 1; whnf); refine LetN.mk ?_)) | (refine As.pre ?_; first | refine As.mk rfl ?_ | refine As.mk hky ?_ | (refine As.mk ?_ ?_; · ((repeat' (refine andT ?_ ?_)) <;> (first | rfl | assumption | exact decide_eq_true (by omega) | exact decide_eq_true (by dsimp only; omega) | exact decide_eq_true (by simp; omega) | (simp; done))))) | (refine LetV.pre ?_; first | refine LetV.mk (t := 28) _ hld ?_ | refine LetV.mk (t := 81) _ hkv ?_ | refine LetV.mk (.sc (.int _ _)) rfl ?_ | refine LetV.mk (.agg _) rfl ?_) | (refine LetI.pre ?_; first | refine LetI.mk (o := some .sub) _ hsb ?_) | (refine LetB.pre ?_; first | refine LetB.ff rfl ?_ | refine LetB.dect (by omega) ?_ | refine LetB.bnet (by omega) ?_) | (refine Gd.pre ?_; first | refine Gd.pass rfl ?_) | (refine Br.pre ?_; first | refine Br.tt rfl ?_ | refine Br.ff rfl ?_) | (refine Ck.pre ?_; first | refine Ck.mk rfl ?_) | (refine LetL.pre ?_; first | refine LetL.mk (ty := pty) [.agg [_, _, _, _, _, _, _, _, _, _, _, _, _, _]] rfl ?_) | (refine CallN.pre ?_; first | refine CallN.pure hC rfl rfl ?_) | (refine FindN.mk (some ix) hfi ?_)))); (try (conv => whnf)))
      exact ⟨.inl rfl, ⟨_, rfl, rfl⟩, trivial⟩
  · have hset := hM.add hn hkey
    have hfi := kvM_none hn
    have hst := congrArg (fun m => some (Blk.map (ck + 1) m)) (show kvM (M ++ [(((B.getD k p0).school, (B.getD k p0).id), B.getD k p0)]) = kvM M ++ [(kyV (B.getD k p0).school (B.getD k p0).id, pg (B.getD k p0))] from List.map_append)
    rw [(last_none _ _ _ hl).1] at hon
    rw [show p0.ver = 0 from rfl, show p0.from_ = 0 from rfl] at hon
    replace hnx := fun ho => hnx (ck + 1) _ ho hset
    clear hM hset hl hn
    generalize on1 (B.take k) (B.getD k p0) = o at hon h3 hnx
    generalize M ++ [(((B.getD k p0).school, (B.getD k p0).id), B.getD k p0)] = M' at hnx hst
    generalize B.getD k p0 = y at hld hC hon hky hfi hst hsb hver hkey
    obtain ⟨school, id, ver, from_, name, ⟨k', n, m, st, l⟩, total, own, age, ex⟩ := y
    dsimp only at hon hky hfi hst hsb hver hkey
    rw [pg_mk] at hld hC hst
    by_cases c1 : ver - 1 = 0
    · by_cases c2 : from_ < 0
      · rw [if_neg (fun g => by omega)] at hon
        rw [hon, if_neg (by decide)] at h3
        rw [h3]
        clear hnx hon h3
        ((repeat ((conv => whnf); (first | (refine LetN.pre ?_; first | ((conv => arg 1; whnf); refine LetN.mk ?_)) | (refine As.pre ?_; first | refine As.mk rfl ?_ | refine As.mk hky ?_ | (refine As.mk ?_ ?_; · ((repeat' (refine andT ?_ ?_)) <;> (first | rfl | assumption | exact decide_eq_true (by omega) | exact decide_eq_true (by dsimp only; omega) | exact decide_eq_true (by simp; omega) | (simp; done))))) | (refine LetV.pre ?_; first | refine LetV.mk (t := 28) _ hld ?_ | refine LetV.mk (t := 81) zpV rfl ?_ | refine LetV.mk (.sc (.int _ _)) rfl ?_ | refine LetV.mk (.agg _) rfl ?_) | (refine LetI.pre ?_; first | refine LetI.mk (o := some .sub) _ hsb ?_) | (refine LetB.pre ?_; first | refine LetB.ff rfl ?_ | refine LetB.dect (by omega) ?_ | refine LetB.bnef (by omega) ?_) | (refine Gd.pre ?_; first | refine Gd.run rfl ?_) | (refine Br.pre ?_; first | refine Br.tt rfl ?_ | refine Br.ff rfl ?_) | (refine Ck.pre ?_; first | refine Ck.mk rfl ?_) | (refine LetL.pre ?_; first | refine LetL.mk (ty := pty) [.agg [_, _, _, _, _, _, _, _, _, _, _, _, _, _]] rfl ?_) | (refine CallN.pre ?_; first | refine CallN.pure hC rfl rfl ?_) | (refine FindN.mk none hfi ?_)))); (try (conv => whnf)))
        exact ⟨.inl rfl, ⟨_, rfl, rfl⟩, trivial⟩
      · rw [if_pos ⟨c1, by omega⟩] at hon
        rw [hon, if_pos rfl] at h3
        replace hnx := hnx hon h3
        clear hon h3
        ((repeat ((conv => whnf); (first | (refine LetN.pre ?_; first | ((conv => arg 1; whnf); refine LetN.mk ?_)) | (refine As.pre ?_; first | refine As.mk rfl ?_ | refine As.mk hky ?_ | (refine As.mk ?_ ?_; · ((repeat' (refine andT ?_ ?_)) <;> (first | rfl | assumption | exact decide_eq_true (by omega) | exact decide_eq_true (by dsimp only; omega) | exact decide_eq_true (by simp; omega) | (simp; done))))) | (refine LetV.pre ?_; first | refine LetV.mk (t := 28) _ hld ?_ | refine LetV.mk (t := 81) zpV rfl ?_ | refine LetV.mk (.sc (.int _ _)) rfl ?_ | refine LetV.mk (.agg _) rfl ?_) | (refine LetI.pre ?_; first | refine LetI.mk (o := some .sub) _ hsb ?_ | refine LetI.wrap (by omega) (by omega) ?_) | (refine LetB.pre ?_; first | refine LetB.ff rfl ?_ | refine LetB.dect (by omega) ?_ | refine LetB.decf (by omega) ?_ | refine LetB.bnef (by omega) ?_) | (refine Gd.pre ?_; first | refine Gd.run rfl ?_) | (refine Br.pre ?_; first | refine Br.tt rfl ?_ | refine Br.ff rfl ?_) | (refine Ck.pre ?_; first | refine Ck.mk rfl ?_) | (refine LetL.pre ?_; first | refine LetL.mk (ty := pty) [.agg [_, _, _, _, _, _, _, _, _, _, _, _, _, _]] rfl ?_) | (refine CallN.pre ?_; first | refine CallN.pure hC rfl rfl ?_) | (refine FindN.mk none hfi ?_)))); (try (conv => whnf)))
        refine LoopN.weak ?sw3 hnx
        case sw3 => exact SW.mk _root_.id rfl rfl (cbN _ _ _) ⟨.refl _, .refl _, .refl _, VLe2.int (by omega), trivial⟩ (haveV.map (kvM_pure _) hst.symm trivial)
    · rw [if_neg (fun g => c1 g.1)] at hon
      rw [hon, if_neg (by decide)] at h3
      rw [h3]
      clear hnx hon h3
      ((repeat ((conv => whnf); (first | (refine LetN.pre ?_; first | ((conv => arg 1; whnf); refine LetN.mk ?_)) | (refine As.pre ?_; first | refine As.mk rfl ?_ | refine As.mk hky ?_ | (refine As.mk ?_ ?_; · ((repeat' (refine andT ?_ ?_)) <;> (first | rfl | assumption | exact decide_eq_true (by omega) | exact decide_eq_true (by dsimp only; omega) | exact decide_eq_true (by simp; omega) | (simp; done))))) | (refine LetV.pre ?_; first | refine LetV.mk (t := 28) _ hld ?_ | refine LetV.mk (t := 81) zpV rfl ?_ | refine LetV.mk (.sc (.int _ _)) rfl ?_ | refine LetV.mk (.agg _) rfl ?_) | (refine LetI.pre ?_; first | refine LetI.mk (o := some .sub) _ hsb ?_) | (refine LetB.pre ?_; first | refine LetB.ff rfl ?_ | refine LetB.dect (by omega) ?_ | refine LetB.bnet (by omega) ?_) | (refine Gd.pre ?_; first | refine Gd.pass rfl ?_) | (refine Br.pre ?_; first | refine Br.tt rfl ?_ | refine Br.ff rfl ?_) | (refine Ck.pre ?_; first | refine Ck.mk rfl ?_) | (refine LetL.pre ?_; first | refine LetL.mk (ty := pty) [.agg [_, _, _, _, _, _, _, _, _, _, _, _, _, _]] rfl ?_) | (refine CallN.pre ?_; first | refine CallN.pure hC rfl rfl ?_) | (refine FindN.mk none hfi ?_)))); (try (conv => whnf)))
      exact ⟨.inl rfl, ⟨_, rfl, rfl⟩, trivial⟩
end Pb
end Go.Proofs.Ytjnmbmdplchfkaa
namespace Go.Proofs.Ytjnmbmdplchfkaa
open Go.Proofs.Ytjnmbmdplchfkaa.Am
set_option maxRecDepth 100000
variable [Lo]
namespace Pb
/-! ### A version more -/
noncomputable def putE (B : List Pg) (p : Pg) : Int := if ckB B = 0 then ckB (B ++ [p]) else ckB B
noncomputable def putL (B : List Pg) (p : Pg) : List Pg := if putE B p = 0 then B ++ [p] else []
theorem goB_append (p : Pg) : ∀ (l pre : List Pg), goB pre l = 0 → goB pre (l ++ [p]) = on1 (pre ++ l) p
  | [], pre, _ => by
    rw [List.nil_append, List.append_nil, goB]
    split
    · rename_i h; rw [h]; rfl
    · rfl
  | q :: l, pre, h => by
    rw [goB] at h
    split at h
    · rename_i h0
      rw [List.cons_append, goB, if_pos h0, goB_append p l (pre ++ [q]) h, List.append_assoc]; rfl
    · rename_i h0; exact absurd h h0
theorem ckB_len {B : List Pg} (h : ckB B = 0) : B.length ≤ 200 ∧ goB [] B = 0 := by
  unfold ckB at h
  split at h
  · cases h
  · exact ⟨by omega, h⟩
theorem ckB_append {B : List Pg} (p : Pg) (h : ckB B = 0) : ckB (B ++ [p]) = if B.length = 200 then 2 else on1 B p := by
  obtain ⟨h1, h2⟩ := ckB_len h
  unfold ckB
  rw [goB_append p B [] h2, List.nil_append, List.length_append]
  by_cases c : B.length = 200
  · rw [if_pos c, if_pos (by simp; omega)]
  · rw [if_neg c, if_neg (by simp; omega)]
theorem goB_vers : ∀ (l pre : List Pg), goB pre l = 0 → ∀ p ∈ l, ckA p = 0
  | [], pre, _, p, hp => by cases hp
  | q :: l, pre, h, p, hp => by
    rw [goB] at h
    split at h
    · rename_i h0
      rcases List.mem_cons.1 hp with rfl | hp
      · exact on1_ck h0
      · exact goB_vers l _ h p hp
    · rename_i h0; exact absurd h h0
theorem ckB_vers {B : List Pg} (h : ckB B = 0) : Vers B := goB_vers B [] (ckB_len h).2
theorem Clip_f (B : List Pg) (hB : B.length ≤ 1000) : AFun Try.prog 32 0 [.ro {} 14 (B.map pg)] [] (.ro ⟨true, false⟩ 14 (B.map pg)) [] := by
  have hmB : (B.map pg).length = B.length := List.length_map _
  refine AFun.of_S T_ok mixed Try.func32 rfl (Nat.le_of_ble_eq_true rfl) rfl ?_
  have ht : B.map pg = ((B.map pg).drop 0).take ((B.map pg).length - 0) := by rw [List.drop_zero, Nat.sub_zero, List.take_length]
  ((repeat ((conv => whnf); (first | (refine As.pre ?_; first | refine As.mk rfl ?_ | (refine As.mk ?_ ?_; · ((repeat' (refine andT ?_ ?_)) <;> (first | rfl | assumption | exact decide_eq_true (by omega) | exact decide_eq_true (by dsimp only; omega) | exact decide_eq_true (by simp; omega) | (simp; done))))) | (refine LetV.pre ?_; first | refine LetV.mk (.ro _ _ _) rfl ?_) | (refine LetI.pre ?_; first | refine LetI.mk _ rfl ?_) | (refine Ck.pre ?_; first | refine Ck.mk rfl ?_)))); (try (conv => whnf)))
  exact ⟨⟨[(2, .ro ⟨true, false⟩ 14 (B.map pg))], [], 0⟩, SW.mk id rfl rfl rfl ⟨.of_eq (congrArg (AV.ro ⟨true, false⟩ 14) ht), trivial⟩ trivial, .inl rfl, ⟨_, rfl, rfl⟩, trivial⟩
theorem app_pg2 (B : List Pg) (p : Pg) : (B ++ [p]).map pg = B.map pg ++ [pg p] := by rw [List.map_append]; rfl
theorem WP.sp {p : Pg} (h : WP p) : SP p := ⟨by have := h.need.n; omega, fun y hy => by
    have := h.need.all y hy
    cases this with
    | course m s h => have := h.n; dsimp only [Nd.set]; omega
    | credits n m s h1 h => have := h.n; dsimp only [Nd.set]; omega
    | all l => exact Nat.zero_le _
    | some n l => exact Nat.zero_le _, by rcases h.ex with h | ⟨e, h, _⟩ <;> rw [h] <;> simp⟩
abbrev puS (B : List Pg) (p : AV) : Nat × List Pg → AS
  | (j, L) => ⟨[(3, .ptr 0 14 0 0), (8, .slm {} 1 14 0 L.length), (25, .ro {} 14 (B.map pg)), (26, int B.length), (27, int j)], [(0, .row 14 pty [p]), (1, .row 14 pty (L.map pg))], 2⟩
set_option maxHeartbeats 3200000 in
set_option maxRecDepth 100000 in
theorem Put_f (B : List Pg) {p : Pg} (hB : B.length ≤ 900) (h : ∀ q ∈ B, WP q) (hp : WP p) : AFun Try.prog 11 0 [.ro {} 14 (B.map pg), pg p] [] (.tup [.ro {} 14 ((putL B p).map pg), int (putE B p)]) [] := by
  have hC := CheckB_f {} B (by omega) h
  have hmB : (B.map pg).length = B.length := List.length_map _
  by_cases c : ckB B = 0
  case neg =>
    have e1 : putE B p = ckB B := if_neg c
    have e2 : putL B p = [] := if_neg (by rw [e1]; exact c)
    rw [e1, e2]
    clear e1 e2
    generalize ckB B = e at hC c ⊢
    obtain ⟨school, id, ver, from_, name, ⟨k, n, m, s, l⟩, total, own, age, ex⟩ := p
    rw [pg_mk]
    refine AFun.of_S T_ok mixed Try.func11 rfl (Nat.le_of_ble_eq_true rfl) rfl ?_
    ((repeat ((conv => whnf); (first | (refine LetN.pre ?_; first | ((conv => arg 1; whnf); refine LetN.mk ?_)) | (refine As.pre ?_; first | refine As.mk rfl ?_) | (refine LetB.pre ?_; first | refine LetB.bnet (by omega) ?_) | (refine Br.pre ?_; first | refine Br.tt rfl ?_) | (refine Ck.pre ?_; first | refine Ck.mk rfl ?_) | (refine CallN.pre ?_; first | refine CallN.pure hC rfl rfl ?_)))); (try (conv => whnf)))
    exact ⟨⟨[(4, .ro {} 14 []), (5, int e)], [], 1⟩, SW.mk _root_.id rfl rfl rfl ⟨VLe2.nilro, .refl _, trivial⟩ trivial, .inl rfl, ⟨_, rfl, rfl⟩, trivial⟩
  have e1 : putE B p = ckB (B ++ [p]) := if_pos c
  rw [c] at hC
  have hC2 := CheckB_f ⟨false, true⟩ (B ++ [p]) (by simp; omega) (fun q hq => by
    rcases List.mem_append.1 hq with hq | hq
    · exact h q hq
    · rw [List.mem_singleton.1 hq]; exact hp)
  have hcl := Clip_f B (by omega)
  have hl2 : B.length + 1 = ((B ++ [p]).map pg).length := by simp
  have hl3 : (B.map pg).length + 1 = ((B ++ [p]).map pg).length := by simp
  have hpu : AV.namesL (fun _ => false) ((B ++ [p]).map pg) = true := pure_pg _
  have hr := room_pg (n := B.length + 1) (by omega)
  have ha := app_pg2 B p
  by_cases c2 : ckB (B ++ [p]) = 0
  case neg =>
    have e2 : putL B p = [] := if_neg (by rw [e1]; exact c2)
    rw [e1, e2]
    clear e1 e2 c
    generalize ckB (B ++ [p]) = e at hC2 c2 ⊢
    generalize hX : (B ++ [p]).map pg = X at hC2 hl2 hl3 hpu ha
    obtain ⟨school, id, ver, from_, name, ⟨k, n, m, s, l⟩, total, own, age, ex⟩ := p
    rw [pg_mk] at ha ⊢
    refine AFun.of_S T_ok mixed Try.func11 rfl (Nat.le_of_ble_eq_true rfl) rfl ?_
    ((repeat ((conv => whnf); (first | (refine LetN.pre ?_; first | ((conv => arg 1; whnf); refine LetN.mk ?_)) | (refine As.pre ?_; first | refine As.mk rfl ?_ | (refine As.mk ?_ ?_; · ((repeat' (refine andT ?_ ?_)) <;> (first | rfl | assumption | exact decide_eq_true (by omega) | exact decide_eq_true (by dsimp only; omega) | exact decide_eq_true (by simp; omega) | (simp; done))))) | (refine LetV.pre ?_; first | refine LetV.mk (.agg _) rfl ?_) | (refine LetB.pre ?_; first | refine LetB.ff rfl ?_ | refine LetB.bnet (by omega) ?_) | (refine Br.pre ?_; first | refine Br.tt rfl ?_ | refine Br.ff rfl ?_) | (refine Ck.pre ?_; first | refine Ck.drawn (by kernel_rfl) ?_ | refine Ck.mk rfl ?_) | (refine LetL.pre ?_; first | refine LetL.mk (ty := pty) X ha ?_) | (refine CallN.pre ?_; first | refine CallN.pure hC rfl rfl ?_ | refine CallN.pure hcl rfl rfl ?_ | refine CallN.lend hC2 rfl (.full rfl hpu hl3 .nil) ?_)))); (try (conv => whnf)))
    exact ⟨⟨[(4, .ro {} 14 []), (5, int e)], [], 2⟩, SW.mk _root_.id rfl rfl rfl ⟨VLe2.nilro, .refl _, trivial⟩ trivial, .inl rfl, ⟨_, rfl, rfl⟩, trivial⟩
  rw [c2] at hC2
  have e2 : putL B p = B ++ [p] := if_pos (by rw [e1]; exact c2)
  rw [e1, e2, c2]
  clear e1 e2 c
  refine AFun.frzT (id := 1) (ty := pty) (len := B.length + 1) (fl := {}) ?_ (pure_pg _) hl2 rfl
  have hcp := copiedP_f hp.sp
  have hcpa : ∀ q ∈ B, SP q := fun q hq => (h q hq).sp
  clear h hp c2
  have hla : (B.map pg).length + 1 = B.length + 1 := by rw [hmB]
  generalize hX : (B ++ [p]).map pg = X at hC2 hl2 hl3 hpu ha
  obtain ⟨school, id, ver, from_, name, ⟨k, n, m, s, l⟩, total, own, age, ex⟩ := p
  rw [pg_mk] at ha hcp ⊢
  refine AFun.of_S T_ok mixed Try.func11 rfl (Nat.le_of_ble_eq_true rfl) rfl ?_
  ((repeat ((conv => whnf); (first | (refine LetN.pre ?_; first | ((conv => arg 1; whnf); refine LetN.mk ?_)) | (refine As.pre ?_; first | refine As.mk rfl ?_ | (refine As.mk ?_ ?_; · ((repeat' (refine andT ?_ ?_)) <;> (first | rfl | assumption | exact decide_eq_true (by omega) | exact decide_eq_true (by dsimp only; omega) | exact decide_eq_true (by simp; omega) | (simp; done))))) | (refine LetV.pre ?_; first | refine LetV.mk (.agg _) rfl ?_) | (refine LetI.pre ?_; first | refine LetI.mk _ rfl ?_) | (refine LetB.pre ?_; first | refine LetB.ff rfl ?_) | (refine Br.pre ?_; first | refine Br.ff rfl ?_) | (refine Ck.pre ?_; first | refine Ck.drawn (by kernel_rfl) ?_ | refine Ck.mk rfl ?_) | (refine LetL.pre ?_; first | refine LetL.mk (ty := pty) X ha ?_) | (refine CallN.pre ?_; first | refine CallN.pure hC rfl rfl ?_ | refine CallN.pure hcl rfl rfl ?_ | refine CallN.lend hC2 rfl (.full rfl hpu hl3 .nil) ?_)))); (try (conv => whnf)))
  refine LoopN.weak (s1 := puS B (pg ⟨school, id, ver, from_, name, .mk k n m s l, total, own, age, ex⟩) (0, [])) ?sw1 ?_
  case sw1 => exact SW.mk (fun i => match i with | 0 => 0 | i + 1 => i + 2) rfl rfl (namesAll.row rfl rfl) ⟨.refl _, VLe2.nilslm, .refl _, VLe2.int (by rw [hmB]), .refl _, trivial⟩ (haveV.row rfl rfl (haveV.nil (Nat.le_refl _) trivial))
  clear hC hC2 hcl hr
  refine LoopN.ind T_ok mixed (S := puS B (pg ⟨school, id, ver, from_, name, .mk k n m s l, total, own, age, ex⟩)) (fun i => B.length - i.1) (fun i => i.1 ≤ B.length ∧ i.2 = B.take i.1) (fun _ => rfl) (fun i hi ih => ?_) (0, []) ⟨Nat.zero_le _, rfl⟩
  obtain ⟨j, L⟩ := i
  obtain ⟨h1, h2⟩ := hi
  dsimp only at h1 h2
  by_cases hlt : j < B.length
  case neg =>
    clear ih hcpa
    rw [List.take_of_length_le (by omega)] at h2
    subst h2
    have hr := room_pg (n := L.length + 1) (by omega)
    have hb : X = (L.map pg).take L.length ++ [.agg [int school, int id, int ver, int from_, str name, int k, int n, int m, .ro {} 2 (s.map coA), .ro {} 5 (l.map nd), int total, int own, int age, .ro {} 4 (ex.map exA)]] := by rw [ha, List.take_of_length_le (by rw [List.length_map]; exact Nat.le_refl _)]
    rw [show (pg ⟨school, id, ver, from_, name, .mk k n m s l, total, own, age, ex⟩) = .agg [int school, int id, int ver, int from_, str name, int k, int n, int m, .ro {} 2 (s.map coA), .ro {} 5 (l.map nd), int total, int own, int age, .ro {} 4 (ex.map exA)] from rfl]
    ((repeat ((conv => whnf); (first | (refine LetN.pre ?_; first | ((conv => arg 1; whnf); refine LetN.mk ?_)) | (refine As.pre ?_; first | refine As.mk rfl ?_ | (refine As.mk ?_ ?_; · ((repeat' (refine andT ?_ ?_)) <;> (first | rfl | assumption | exact decide_eq_true (by omega) | exact decide_eq_true (by dsimp only; omega) | exact decide_eq_true (by simp; omega) | (simp; done))))) | (refine LetV.pre ?_; first | refine LetV.mk (.agg _) rfl ?_) | (refine LetB.pre ?_; first | refine LetB.decf (by omega) ?_) | (refine Br.pre ?_; first | refine Br.ff rfl ?_) | (refine Ck.pre ?_; first | refine Ck.mk rfl ?_) | (refine LetL.pre ?_; first | refine LetL.mk (ty := pty) X hb ?_) | (refine CallN.pre ?_; first | refine CallN.pure hcp rfl rfl ?_)))); (try (conv => whnf)))
    exact ⟨⟨[(4, .slm {} 1 14 0 (L.length + 1)), (5, int 0)], [(1, .row 14 pty X)], 3⟩, SW.mk (fun i => match i with | 0 => 0 | i + 1 => i + 2) rfl rfl (namesAll.row hpu rfl) ⟨VLe2.slm_of rfl, .refl _, trivial⟩ (haveV.row hpu rfl trivial), .inl rfl, ⟨_, rfl, rfl⟩, rfl, trivial⟩
  have hrec := copiedP_f (hcpa _ (pg_mem hlt))
  have hnx := ih (j + 1, L ++ [B.getD j p0]) ⟨hlt, by dsimp only; rw [pg_take hlt, h2]⟩ (by show B.length - (j + 1) < B.length - j; omega)
  have hld := ld_pg hlt
  have hLl : L.length ≤ 1000 := by rw [h2, List.length_take]; omega
  clear ih hcpa h2
  generalize B.getD j p0 = y at hrec hnx hld
  have hr := room_pg (n := L.length + 1) (by omega)
  have hmL : (L.map pg).length = L.length := List.length_map _
  have a1 := app_pg L y L.length rfl
  have l1 : (L ++ [y]).length = L.length + 1 := by simp
  obtain ⟨school', id', ver', from', name', ⟨k', n', m', s', l'⟩, total', own', age', ex'⟩ := y
  rw [pg_mk] at hrec hld a1
  ((repeat ((conv => whnf); (first | (refine LetN.pre ?_; first | ((conv => arg 1; whnf); refine LetN.mk ?_)) | (refine As.pre ?_; first | refine As.mk rfl ?_ | (refine As.mk ?_ ?_; · ((repeat' (refine andT ?_ ?_)) <;> (first | rfl | assumption | exact decide_eq_true (by omega) | exact decide_eq_true (by dsimp only; omega) | exact decide_eq_true (by simp; omega) | (simp; done))))) | (refine LetV.pre ?_; first | refine LetV.mk (t := 28) _ hld ?_ | refine LetV.mk (.agg _) rfl ?_) | (refine LetI.pre ?_; first | refine LetI.wrap (by omega) (by omega) ?_) | (refine LetB.pre ?_; first | refine LetB.dect (by omega) ?_) | (refine Br.pre ?_; first | refine Br.tt rfl ?_) | (refine Ck.pre ?_; first | refine Ck.mk rfl ?_) | (refine LetL.pre ?_; first | refine LetL.mk (ty := pty) _ a1 ?_ | refine LetL.mk (ty := pty) [.agg [_, _, _, _, _, _, _, _, _, _, _, _, _, _]] rfl ?_) | (refine CallN.pre ?_; first | refine CallN.pure hrec rfl rfl ?_)))); (try (conv => whnf)))




  refine LoopN.weak ?sw2 hnx
  case sw2 => exact SW.mk (fun i => match i with | 0 => 0 | i + 1 => i + 3) rfl rfl (namesAll.row rfl (namesAll.row (pure_pg _) rfl)) ⟨.refl _, VLe2.slm_of l1, .refl _, .refl _, VLe2.int (by omega), trivial⟩ (haveV.row rfl rfl (haveV.row (pure_pg _) rfl trivial))
end Pb
end Go.Proofs.Ytjnmbmdplchfkaa
namespace Go.Proofs.Ytjnmbmdplchfkaa
open Go.Proofs.Ytjnmbmdplchfkaa.Am
set_option maxRecDepth 100000
variable [Lo]
namespace Pb
/-! ### A version of a programme -/
def ofP (s i v : Int) : List Pg → Pg × Bool
  | [] => (p0, false)
  | p :: l => if p.school = s ∧ p.id = i ∧ p.ver = v then (p, true) else ofP s i v l
theorem ofP_end {B : List Pg} {k : Nat} (h : ¬ k < B.length) (s i v : Int) : ofP s i v (B.drop k) = (p0, false) := by
  rw [List.drop_eq_nil_of_le (by omega)]; rfl
theorem ofP_at {B : List Pg} {k : Nat} (h : k < B.length) (s i v : Int) : ofP s i v (B.drop k) = if (B.getD k p0).school = s ∧ (B.getD k p0).id = i ∧ (B.getD k p0).ver = v then (B.getD k p0, true) else ofP s i v (B.drop (k + 1)) := by
  rw [List.drop_eq_getElem_cons h, ofP, List.getD_eq_getElem?_getD, List.getElem?_eq_getElem h]; rfl
abbrev OfS (fl : Fl) (B : List Pg) (s i v : Int) (j : Nat) : AS := ⟨[(1, int s), (2, int i), (3, int v), (8, .ptr 0 14 0 0), (12, .ro fl 14 (B.map pg)), (13, int B.length), (14, int j)], [(0, .row 14 pty [zpV])], 1⟩
end Pb
end Go.Proofs.Ytjnmbmdplchfkaa
namespace Go.Proofs.Ytjnmbmdplchfkaa
open Go.Proofs.Ytjnmbmdplchfkaa.Am
set_option maxRecDepth 100000
variable [Lo]
namespace Pb
/-! ### A version more, by the reference -/
end Pb
end Go.Proofs.Ytjnmbmdplchfkaa
namespace Go.Proofs.Ytjnmbmdplchfkaa
open Go.Proofs.Ytjnmbmdplchfkaa.Am
set_option maxRecDepth 100000
variable [Lo]
namespace Pb
/-! ### What binds -/
structure Ch where
  prog : Int
  ver : Int
  begin_ : Int
  on_ : Int
abbrev chA (c : Ch) : AV := .agg [int c.prog, int c.ver, int c.begin_, int c.on_]
abbrev chy : TypeId := 60
/-- One programme more, as to what binds at the beginning. -/
def b1S (s i begin_ : Int) (a : Bool × Option Pg) (p : Pg) : Bool × Option Pg :=
  if p.school = s ∧ p.id = i then (true, if p.from_ ≤ begin_ then match a.2 with
    | none => some p
    | some b => if b.ver < p.ver then some p else some b else a.2) else a
def b1P (B : List Pg) (s i begin_ : Int) : Bool × Option Pg := B.foldl (b1S s i begin_) (false, none)
/-- A choice more. -/
def b2S (B : List Pg) (s i day : Int) (b : Pg) (c : Ch) : Pg :=
  if c.prog ≠ i ∨ day < c.on_ ∨ c.ver ≤ b.ver then b else
    if (ofP s i c.ver B).2 = true ∧ (ofP s i c.ver B).1.from_ ≤ c.on_ then (ofP s i c.ver B).1 else b
def b2P (B : List Pg) (s i day : Int) (b : Pg) (C : List Ch) : Pg := C.foldl (b2S B s i day) b
def bindQ (B : List Pg) (s i day : Int) (C : List Ch) : Bool → Option Pg → Pg × Int
  | false, _ => (p0, 5)
  | true, none => (p0, 30)
  | true, some b => (b2P B s i day b C, 0)
def bindP (B : List Pg) (s i begin_ day : Int) (C : List Ch) : Pg × Int := bindQ B s i day C (b1P B s i begin_).1 (b1P B s i begin_).2
theorem b1_take {B : List Pg} {k : Nat} (h : k < B.length) (s i be : Int) : b1P (B.take (k + 1)) s i be = b1S s i be (b1P (B.take k) s i be) (B.getD k p0) := by
  rw [pg_take h, b1P, List.foldl_append]; rfl
abbrev bi1S (B : List Pg) (C : List Ch) (s i be day : Int) : Nat × Bool × Option Pg → AS
  | (j, sm, none) => ⟨[(0, .ro {} 14 (B.map pg)), (1, int s), (2, int i), (3, int be), (4, .ro {} 4 (C.map chA)), (5, int day), (12, .ptr 0 14 0 0), (14, .sc (.pointer none)), (15, bool sm), (22, .ro {} 14 (B.map pg)), (23, int B.length), (24, int j)], [(0, .row 14 pty [zpV])], 1⟩
  | (j, sm, some b) => ⟨[(0, .ro {} 14 (B.map pg)), (1, int s), (2, int i), (3, int be), (4, .ro {} 4 (C.map chA)), (5, int day), (12, .ptr 0 14 0 0), (14, .rp (pg b) 0), (15, bool sm), (22, .ro {} 14 (B.map pg)), (23, int B.length), (24, int j)], [(0, .row 14 pty [zpV])], 1⟩
theorem b1_mem (s i be : Int) : ∀ B : List Pg, ∀ q, (b1P B s i be).2 = some q → q ∈ B := by
  refine revInd (M := fun B => ∀ q, (b1P B s i be).2 = some q → q ∈ B) (fun q h => by cases h) ?_
  intro B p ih q h
  rw [b1P, List.foldl_append] at h
  change (b1S s i be (b1P B s i be) p).2 = some q at h
  generalize b1P B s i be = a at h ih
  unfold b1S at h
  split at h
  · dsimp only at h
    split at h
    · split at h
      · injection h with h; rw [← h]; simp
      · rename_i b hb
        split at h
        · injection h with h; rw [← h]; simp
        · exact List.mem_append_left _ (ih q (hb.trans h))
    · exact List.mem_append_left _ (ih q h)
  · exact List.mem_append_left _ (ih q h)
theorem ofP_mem (s i v : Int) : ∀ B : List Pg, (ofP s i v B).2 = true → (ofP s i v B).1 ∈ B ∧ (ofP s i v B).1.school = s ∧ (ofP s i v B).1.id = i ∧ (ofP s i v B).1.ver = v
  | [], h => by cases h
  | p :: l, h => by
    rw [ofP] at h ⊢
    split
    · rename_i c; exact ⟨List.mem_cons_self .., c⟩
    · rename_i c
      rw [if_neg c] at h
      have := ofP_mem s i v l h
      exact ⟨List.mem_cons_of_mem _ this.1, this.2⟩
theorem b2_mem {B : List Pg} (s i day : Int) : ∀ (C : List Ch) (b : Pg), b ∈ B → b2P B s i day b C ∈ B
  | [], b, h => h
  | c :: C, b, h => by
    rw [b2P, List.foldl_cons]
    refine b2_mem s i day C _ ?_
    unfold b2S
    split
    · exact h
    · split
      · rename_i g; exact (ofP_mem s i c.ver B g.1).1
      · exact h
abbrev bi2S (B : List Pg) (C : List Ch) (s i day : Int) : Nat × Pg → AS
  | (j, b) => ⟨[(0, .ro {} 14 (B.map pg)), (1, int s), (2, int i), (5, int day), (12, .ptr 0 14 0 0), (14, .rp (pg b) 0), (67, .ro {} 4 (C.map chA)), (68, int C.length), (69, int j)], [(0, .row 14 pty [zpV])], 1⟩
abbrev bi3S (B : List Pg) (C : List Ch) (s i day : Int) (j : Nat) (b : Pg) (c : Ch) (k : Nat) : AS := ⟨[(0, .ro {} 14 (B.map pg)), (1, int s), (2, int i), (5, int day), (12, .ptr 0 14 0 0), (14, .rp (pg b) 0), (67, .ro {} 4 (C.map chA)), (68, int C.length), (69, int j), (19, .ptr 1 4 0 0), (92, .ro {} 14 (B.map pg)), (93, int B.length), (94, int k)], [(0, .row 14 pty [zpV]), (1, .row 4 chy [chA c])], 2⟩
abbrev ch0 : Ch := ⟨0, 0, 0, 0⟩
theorem ld_ch {l : List Ch} {k : Nat} (h : k < l.length) : chA (l.getD k ch0) = (l.map chA).getD k (.sc undef) := mapD ch0 h
theorem b2_take {B : List Pg} {C : List Ch} {k : Nat} (h : k < C.length) (s i day : Int) (b : Pg) : b2P B s i day b (C.take (k + 1)) = b2S B s i day (b2P B s i day b (C.take k)) (C.getD k ch0) := by
  rw [List.take_succ_eq_append_getElem h, b2P, List.foldl_append, List.getD_eq_getElem?_getD, List.getElem?_eq_getElem h]; rfl
set_option maxHeartbeats 3200000 in
set_option maxRecDepth 100000 in
theorem Bind_f (B : List Pg) (C : List Ch) (s i be day : Int) (hB : B.length ≤ 1000) (hC : C.length ≤ 1000) (h : ∀ q ∈ B, SP q) : AFun Try.prog 13 0 [.ro {} 14 (B.map pg), int s, int i, int be, .ro {} 4 (C.map chA), int day] [] (.tup [pg (bindP B s i be day C).1, int (bindP B s i be day C).2]) [] := by
  have hmB : (B.map pg).length = B.length := List.length_map _
  have hmC : (C.map chA).length = C.length := List.length_map _
  refine AFun.of_S T_ok mixed Try.func13 rfl (Nat.le_of_ble_eq_true rfl) rfl ?_
  ((repeat ((conv => whnf); (first | (refine LetN.pre ?_; first | ((conv => arg 1; whnf); refine LetN.mk ?_)) | (refine As.pre ?_; first | refine As.mk rfl ?_) | (refine LetI.pre ?_; first | refine LetI.mk _ rfl ?_) | (refine Ck.pre ?_; first | refine Ck.mk rfl ?_)))); (try (conv => whnf)))
  refine LoopN.weak (s1 := bi1S B C s i be day (0, false, none)) ?sw1 ?_
  case sw1 => exact SW.mk _root_.id rfl rfl rfl ⟨.refl _, .refl _, .refl _, .refl _, .refl _, .refl _, .refl _, .refl _, .refl _, .refl _, VLe2.int (by rw [hmB]), .refl _, trivial⟩ (haveV.one rfl trivial)
  refine LoopN.ind T_ok mixed (S := bi1S B C s i be day) (fun a => B.length - a.1) (fun a => a.1 ≤ B.length ∧ a.2 = b1P (B.take a.1) s i be) (fun | (_, _, none) => rfl | (_, _, some _) => rfl) (fun a ha ih => ?_) (0, false, none) ⟨Nat.zero_le _, rfl⟩
  obtain ⟨j, sm, bo⟩ := a
  obtain ⟨h1, h2⟩ := ha
  dsimp only at h1 h2
  by_cases hlt : j < B.length
  case neg =>
    rw [List.take_of_length_le (by omega)] at h2
    clear ih
    rw [show bindP B s i be day C = bindQ B s i day C sm bo by unfold bindP; rw [← h2]]
    have hmem : ∀ q, bo = some q → q ∈ B := fun q hq => b1_mem s i be B q (by rw [← h2]; exact hq)
    clear h2
    cases sm with
    | false =>
      cases bo with
      | none =>
        ((repeat ((conv => whnf); (first | (refine LetN.pre ?_; first | ((conv => arg 1; whnf); refine LetN.mk ?_)) | (refine As.pre ?_; first | refine As.mk rfl ?_) | (refine LetB.pre ?_; first | refine LetB.decf (by omega) ?_) | (refine Br.pre ?_; first | refine Br.tt rfl ?_ | refine Br.ff rfl ?_) | (refine Ck.pre ?_; first | refine Ck.mk rfl ?_) | (refine LetL.pre ?_; first | refine LetL.mk [_] rfl ?_)))); (try (conv => whnf)))
        exact ⟨⟨[(12, .ptr 0 14 0 0), (13, int 5)], [(0, .row 14 pty [pg p0])], 1⟩, SW.mk _root_.id rfl rfl rfl ⟨.refl _, .refl _, trivial⟩ (haveV.agg rfl ⟨.refl _, .refl _, .refl _, .refl _, .refl _, .refl _, .refl _, .refl _, VLe2.nilro, VLe2.nilro, .refl _, .refl _, .refl _, VLe2.nilro, trivial⟩ trivial), .inl rfl, ⟨_, rfl, rfl⟩, trivial⟩
      | some b =>
        ((repeat ((conv => whnf); (first | (refine LetN.pre ?_; first | ((conv => arg 1; whnf); refine LetN.mk ?_)) | (refine As.pre ?_; first | refine As.mk rfl ?_) | (refine LetB.pre ?_; first | refine LetB.decf (by omega) ?_) | (refine Br.pre ?_; first | refine Br.tt rfl ?_ | refine Br.ff rfl ?_) | (refine Ck.pre ?_; first | refine Ck.mk rfl ?_) | (refine LetL.pre ?_; first | refine LetL.mk [_] rfl ?_)))); (try (conv => whnf)))
        exact ⟨⟨[(12, .ptr 0 14 0 0), (13, int 5)], [(0, .row 14 pty [pg p0])], 1⟩, SW.mk _root_.id rfl rfl rfl ⟨.refl _, .refl _, trivial⟩ (haveV.agg rfl ⟨.refl _, .refl _, .refl _, .refl _, .refl _, .refl _, .refl _, .refl _, VLe2.nilro, VLe2.nilro, .refl _, .refl _, .refl _, VLe2.nilro, trivial⟩ trivial), .inl rfl, ⟨_, rfl, rfl⟩, trivial⟩
    | true =>
      cases bo with
      | none =>
        ((repeat ((conv => whnf); (first | (refine LetN.pre ?_; first | ((conv => arg 1; whnf); refine LetN.mk ?_)) | (refine As.pre ?_; first | refine As.mk rfl ?_) | (refine LetB.pre ?_; first | refine LetB.tt rfl ?_ | refine LetB.decf (by omega) ?_) | (refine Br.pre ?_; first | refine Br.tt rfl ?_ | refine Br.ff rfl ?_) | (refine Ck.pre ?_; first | refine Ck.mk rfl ?_) | (refine LetL.pre ?_; first | refine LetL.mk [_] rfl ?_)))); (try (conv => whnf)))
        exact ⟨⟨[(12, .ptr 0 14 0 0), (13, int 30)], [(0, .row 14 pty [pg p0])], 1⟩, SW.mk _root_.id rfl rfl rfl ⟨.refl _, .refl _, trivial⟩ (haveV.agg rfl ⟨.refl _, .refl _, .refl _, .refl _, .refl _, .refl _, .refl _, .refl _, VLe2.nilro, VLe2.nilro, .refl _, .refl _, .refl _, VLe2.nilro, trivial⟩ trivial), .inl rfl, ⟨_, rfl, rfl⟩, trivial⟩
      | some b0 =>
        ((repeat ((conv => whnf); (first | (refine As.pre ?_; first | refine As.mk rfl ?_) | (refine LetI.pre ?_; first | refine LetI.mk _ rfl ?_) | (refine LetB.pre ?_; first | refine LetB.ff rfl ?_ | refine LetB.decf (by omega) ?_) | (refine Br.pre ?_; first | refine Br.ff rfl ?_) | (refine Ck.pre ?_; first | refine Ck.mk rfl ?_)))); (try (conv => whnf)))
        refine LoopN.weak (s1 := bi2S B C s i day (0, b0)) ?sw11 ?_
        case sw11 => exact SW.mk _root_.id rfl rfl rfl ⟨.refl _, .refl _, .refl _, .refl _, .refl _, .refl _, .refl _, VLe2.int (by rw [hmC]), .refl _, trivial⟩ (haveV.one rfl trivial)
        have hb0 := hmem b0 rfl
        clear h1 hlt j hmem
        refine LoopN.ind T_ok mixed (S := bi2S B C s i day) (fun a => C.length - a.1) (fun a => a.1 ≤ C.length ∧ a.2 = b2P B s i day b0 (C.take a.1)) (fun _ => rfl) (fun a ha ih => ?_) (0, b0) ⟨Nat.zero_le _, rfl⟩
        obtain ⟨j, b⟩ := a
        obtain ⟨h1, h2⟩ := ha
        dsimp only at h1 h2
        by_cases hlt : j < C.length
        case neg =>
          rw [List.take_of_length_le (by omega)] at h2
          rw [show bindQ B s i day C true (some b0) = (b, 0) by rw [bindQ, h2]]
          have hcp := copiedP_f (h _ (show b ∈ B by rw [h2]; exact b2_mem s i day C b0 hb0))
          clear ih h2 h
          obtain ⟨school', id', ver', from', name', ⟨k', n', m', st', l'⟩, total', own', age', ex'⟩ := b
          rw [pg_mk] at hcp ⊢
          ((repeat ((conv => whnf); (first | (refine LetN.pre ?_; first | ((conv => arg 1; whnf); refine LetN.mk ?_)) | (refine As.pre ?_; first | refine As.mk rfl ?_) | (refine LetV.pre ?_; first | refine LetV.mk (.agg _) rfl ?_) | (refine LetB.pre ?_; first | refine LetB.decf (by omega) ?_) | (refine Br.pre ?_; first | refine Br.ff rfl ?_) | (refine Ck.pre ?_; first | refine Ck.mk rfl ?_) | (refine LetL.pre ?_; first | refine LetL.mk (ty := pty) [.agg [_, _, _, _, _, _, _, _, _, _, _, _, _, _]] rfl ?_) | (refine CallN.pre ?_; first | refine CallN.pure hcp rfl rfl ?_)))); (try (conv => whnf)))
          exact ⟨⟨[(12, .ptr 0 14 0 0), (13, int 0)], [(0, .row 14 pty [.agg [int school', int id', int ver', int from', str name', int k', int n', int m', .ro {} 2 (st'.map coA), .ro {} 5 (l'.map nd), int total', int own', int age', .ro {} 4 (ex'.map exA)]])], 1⟩, SW.mk _root_.id rfl rfl (namesAll.row rfl rfl) ⟨.refl _, .refl _, trivial⟩ (haveV.row rfl rfl trivial), .inl rfl, ⟨_, rfl, rfl⟩, trivial⟩
        have hlc := ld_ch hlt
        have hbt := b2_take hlt s i day b0 (B := B)
        rw [← h2] at hbt
        have hnx := fun q (hq : q = b2S B s i day b (C.getD j ch0)) => ih (j + 1, q) ⟨hlt, hq.trans hbt.symm⟩ (by show C.length - (j + 1) < C.length - j; omega)
        clear ih h2 hbt hb0 h
        generalize C.getD j ch0 = c at hlc hnx
        obtain ⟨cp, cv, cb, co⟩ := c
        by_cases d1 : cp = i
        case neg =>
          replace hnx := hnx b (by rw [b2S, if_pos (.inl d1)])
          obtain ⟨school', id', ver', from', name', ⟨k', n', m', st', l'⟩, total', own', age', ex'⟩ := b
          ((repeat ((conv => whnf); (first | (refine LetN.pre ?_; first | ((conv => arg 1; whnf); refine LetN.mk ?_)) | (refine As.pre ?_; first | refine As.mk rfl ?_ | (refine As.mk ?_ ?_; · ((repeat' (refine andT ?_ ?_)) <;> (first | rfl | assumption | exact decide_eq_true (by omega) | exact decide_eq_true (by dsimp only; omega) | exact decide_eq_true (by simp; omega) | (simp; done))))) | (refine LetV.pre ?_; first | refine LetV.mk (t := 29) _ hlc ?_ | refine LetV.mk (.sc (.int _ _)) rfl ?_ | refine LetV.mk (.agg _) rfl ?_) | (refine LetI.pre ?_; first | refine LetI.wrap (by omega) (by omega) ?_) | (refine LetB.pre ?_; first | refine LetB.dect (by omega) ?_ | refine LetB.bnet (by omega) ?_) | (refine Gd.pre ?_; first | refine Gd.pass rfl ?_) | (refine Br.pre ?_; first | refine Br.tt rfl ?_) | (refine Ck.pre ?_; first | refine Ck.drawn (by kernel_rfl) ?_ | refine Ck.mk rfl ?_) | (refine LetL.pre ?_; first | refine LetL.mk (ty := chy) [.agg [_, _, _, _]] rfl ?_)))); (try (conv => whnf)))
          refine LoopN.weak ?sw12 hnx
          case sw12 => exact SW.mk _root_.id rfl rfl rfl ⟨.refl _, .refl _, .refl _, .refl _, .refl _, .refl _, .refl _, .refl _, VLe2.int (by omega), trivial⟩ (haveV.one rfl trivial)
        by_cases d2 : day < co
        case pos =>
          replace hnx := hnx b (by rw [b2S, if_pos (.inr (.inl d2))])
          obtain ⟨school', id', ver', from', name', ⟨k', n', m', st', l'⟩, total', own', age', ex'⟩ := b
          ((repeat ((conv => whnf); (first | (refine LetN.pre ?_; first | ((conv => arg 1; whnf); refine LetN.mk ?_)) | (refine As.pre ?_; first | refine As.mk rfl ?_ | (refine As.mk ?_ ?_; · ((repeat' (refine andT ?_ ?_)) <;> (first | rfl | assumption | exact decide_eq_true (by omega) | exact decide_eq_true (by dsimp only; omega) | exact decide_eq_true (by simp; omega) | (simp; done))))) | (refine LetV.pre ?_; first | refine LetV.mk (t := 29) _ hlc ?_ | refine LetV.mk (.sc (.int _ _)) rfl ?_ | refine LetV.mk (.agg _) rfl ?_) | (refine LetI.pre ?_; first | refine LetI.wrap (by omega) (by omega) ?_) | (refine LetB.pre ?_; first | refine LetB.dect (by omega) ?_ | refine LetB.bnef (by omega) ?_) | (refine Gd.pre ?_; first | refine Gd.run rfl ?_ | refine Gd.pass rfl ?_) | (refine Br.pre ?_; first | refine Br.tt rfl ?_) | (refine Ck.pre ?_; first | refine Ck.drawn (by kernel_rfl) ?_ | refine Ck.mk rfl ?_) | (refine LetL.pre ?_; first | refine LetL.mk (ty := chy) [.agg [_, _, _, _]] rfl ?_)))); (try (conv => whnf)))
          refine LoopN.weak ?sw13 hnx
          case sw13 => exact SW.mk _root_.id rfl rfl rfl ⟨.refl _, .refl _, .refl _, .refl _, .refl _, .refl _, .refl _, .refl _, VLe2.int (by omega), trivial⟩ (haveV.one rfl trivial)
        by_cases d3 : cv ≤ b.ver
        case pos =>
          replace hnx := hnx b (by rw [b2S, if_pos (.inr (.inr d3))])
          obtain ⟨school', id', ver', from', name', ⟨k', n', m', st', l'⟩, total', own', age', ex'⟩ := b
          ((repeat ((conv => whnf); (first | (refine LetN.pre ?_; first | ((conv => arg 1; whnf); refine LetN.mk ?_)) | (refine As.pre ?_; first | refine As.mk rfl ?_ | (refine As.mk ?_ ?_; · ((repeat' (refine andT ?_ ?_)) <;> (first | rfl | assumption | exact decide_eq_true (by omega) | exact decide_eq_true (by dsimp only; omega) | exact decide_eq_true (by simp; omega) | (simp; done))))) | (refine LetV.pre ?_; first | refine LetV.mk (t := 29) _ hlc ?_ | refine LetV.mk (.sc (.int _ _)) rfl ?_ | refine LetV.mk (.agg _) rfl ?_) | (refine LetI.pre ?_; first | refine LetI.wrap (by omega) (by omega) ?_) | (refine LetB.pre ?_; first | refine LetB.dect (by omega) ?_ | refine LetB.decf (by omega) ?_ | refine LetB.bnef (by omega) ?_) | (refine Gd.pre ?_; first | refine Gd.run rfl ?_) | (refine Br.pre ?_; first | refine Br.tt rfl ?_) | (refine Ck.pre ?_; first | refine Ck.drawn (by kernel_rfl) ?_ | refine Ck.mk rfl ?_) | (refine LetL.pre ?_; first | refine LetL.mk (ty := chy) [.agg [_, _, _, _]] rfl ?_)))); (try (conv => whnf)))
          refine LoopN.weak ?sw14 hnx
          case sw14 => exact SW.mk _root_.id rfl rfl rfl ⟨.refl _, .refl _, .refl _, .refl _, .refl _, .refl _, .refl _, .refl _, VLe2.int (by omega), trivial⟩ (haveV.one rfl trivial)
        have hq : b2S B s i day b ⟨cp, cv, cb, co⟩ = if (ofP s i cv B).2 = true ∧ (ofP s i cv B).1.from_ ≤ co then (ofP s i cv B).1 else b := if_neg (by dsimp only; omega)
        rw [hq] at hnx
        clear hq
        obtain ⟨school', id', ver', from', name', ⟨k', n', m', st', l'⟩, total', own', age', ex'⟩ := b
        ((repeat ((conv => whnf); (first | (refine LetN.pre ?_; first | ((conv => arg 1; whnf); refine LetN.mk ?_)) | (refine As.pre ?_; first | refine As.mk rfl ?_ | (refine As.mk ?_ ?_; · ((repeat' (refine andT ?_ ?_)) <;> (first | rfl | assumption | exact decide_eq_true (by omega) | exact decide_eq_true (by dsimp only; omega) | exact decide_eq_true (by simp; omega) | (simp; done))))) | (refine LetV.pre ?_; first | refine LetV.mk (t := 29) _ hlc ?_ | refine LetV.mk (.sc (.int _ _)) rfl ?_ | refine LetV.mk (.agg _) rfl ?_) | (refine LetI.pre ?_; first | refine LetI.mk _ rfl ?_) | (refine LetB.pre ?_; first | refine LetB.dect (by omega) ?_ | refine LetB.decf (by omega) ?_ | refine LetB.bnef (by omega) ?_) | (refine Gd.pre ?_; first | refine Gd.run rfl ?_) | (refine Br.pre ?_; first | refine Br.tt rfl ?_ | refine Br.ff rfl ?_) | (refine Ck.pre ?_; first | refine Ck.drawn (by kernel_rfl) ?_ | refine Ck.mk rfl ?_) | (refine LetL.pre ?_; first | refine LetL.mk (ty := chy) [.agg [_, _, _, _]] rfl ?_)))); (try (conv => whnf)))
        refine LoopN.weak (s1 := bi3S B C s i day j ⟨school', id', ver', from', name', .mk k' n' m' st' l', total', own', age', ex'⟩ ⟨cp, cv, cb, co⟩ 0) ?sw15 ?_
        case sw15 => exact SW.mk _root_.id rfl rfl rfl ⟨.refl _, .refl _, .refl _, .refl _, .refl _, .refl _, .refl _, .refl _, .refl _, .refl _, .refl _, VLe2.int (by rw [hmB]), .refl _, trivial⟩ (haveV.row rfl rfl (haveV.row rfl rfl trivial))
        refine LoopN.ind T_ok mixed (S := bi3S B C s i day j ⟨school', id', ver', from', name', .mk k' n' m' st' l', total', own', age', ex'⟩ ⟨cp, cv, cb, co⟩) (fun k => B.length - k) (fun k => k ≤ B.length ∧ ofP s i cv B = ofP s i cv (B.drop k)) (fun _ => rfl) (fun k hk ih => ?_) 0 ⟨Nat.zero_le _, rfl⟩
        obtain ⟨g1, g2⟩ := hk
        by_cases hlk : k < B.length
        case neg =>
          rw [ofP_end hlk] at g2
          clear ih
          replace hnx := hnx _ (by rw [g2, if_neg (by simp)])
          ((repeat ((conv => whnf); (first | (refine As.pre ?_; first | refine As.mk rfl ?_) | (refine LetI.pre ?_; first | refine LetI.wrap (by omega) (by omega) ?_) | (refine LetB.pre ?_; first | refine LetB.decf (by omega) ?_) | (refine Br.pre ?_; first | refine Br.ff rfl ?_) | (refine Ck.pre ?_; first | refine Ck.mk rfl ?_)))); (try (conv => whnf)))
          refine LoopN.weak ?sw16 hnx
          case sw16 => exact SW.mk _root_.id rfl rfl rfl ⟨.refl _, .refl _, .refl _, .refl _, .refl _, .refl _, .refl _, .refl _, VLe2.int (by omega), trivial⟩ (haveV.one rfl trivial)
        have hld := ld_pg hlk
        rw [ofP_at hlk] at g2
        have hin := fun g => ih (k + 1) ⟨hlk, g⟩ (by omega)
        clear ih
        generalize ofP s i cv (B.drop (k + 1)) = r at g2 hin
        generalize B.getD k p0 = y at hld g2
        obtain ⟨school, id, ver, from_, name, ⟨k1, n, m, st, l⟩, total, own, age, ex⟩ := y
        dsimp only at g2
        by_cases e1 : school = s
        case neg =>
          have hkb : true = !(school == s && (id == i && true)) := by simp [e1]
          replace hin := hin (by rw [g2, if_neg (fun g => e1 g.1)])
          ((repeat ((conv => whnf); (first | (refine LetN.pre ?_; first | ((conv => arg 1; whnf); refine LetN.mk ?_)) | (refine As.pre ?_; first | refine As.mk rfl ?_ | (refine As.mk ?_ ?_; · ((repeat' (refine andT ?_ ?_)) <;> (first | rfl | assumption | exact decide_eq_true (by omega) | exact decide_eq_true (by dsimp only; omega) | exact decide_eq_true (by simp; omega) | (simp; done))))) | (refine LetV.pre ?_; first | refine LetV.mk (t := 28) _ hld ?_ | refine LetV.mk (.sc (.int _ _)) rfl ?_ | refine LetV.mk (.agg _) rfl ?_) | (refine LetI.pre ?_; first | refine LetI.wrap (by omega) (by omega) ?_) | (refine LetB.pre ?_; first | refine LetB.mk (o := some .neq) _ hkb ?_ | refine LetB.dect (by omega) ?_) | (refine Gd.pre ?_; first | refine Gd.pass rfl ?_) | (refine Br.pre ?_; first | refine Br.tt rfl ?_) | (refine Ck.pre ?_; first | refine Ck.mk rfl ?_) | (refine LetL.pre ?_; first | refine LetL.mk (ty := pty) [.agg [_, _, _, _, _, _, _, _, _, _, _, _, _, _]] rfl ?_)))); (try (conv => whnf)))
          refine LoopN.weak ?sw17 hin
          case sw17 => exact SW.mk _root_.id rfl rfl rfl ⟨.refl _, .refl _, .refl _, .refl _, .refl _, .refl _, .refl _, .refl _, .refl _, .refl _, .refl _, .refl _, VLe2.int (by omega), trivial⟩ (haveV.row rfl rfl (haveV.row rfl rfl trivial))
        by_cases e2 : id = i
        case neg =>
          have hkb : true = !(school == s && (id == i && true)) := by simp [e2]
          replace hin := hin (by rw [g2, if_neg (fun g => e2 g.2.1)])
          ((repeat ((conv => whnf); (first | (refine LetN.pre ?_; first | ((conv => arg 1; whnf); refine LetN.mk ?_)) | (refine As.pre ?_; first | refine As.mk rfl ?_ | (refine As.mk ?_ ?_; · ((repeat' (refine andT ?_ ?_)) <;> (first | rfl | assumption | exact decide_eq_true (by omega) | exact decide_eq_true (by dsimp only; omega) | exact decide_eq_true (by simp; omega) | (simp; done))))) | (refine LetV.pre ?_; first | refine LetV.mk (t := 28) _ hld ?_ | refine LetV.mk (.sc (.int _ _)) rfl ?_ | refine LetV.mk (.agg _) rfl ?_) | (refine LetI.pre ?_; first | refine LetI.wrap (by omega) (by omega) ?_) | (refine LetB.pre ?_; first | refine LetB.mk (o := some .neq) _ hkb ?_ | refine LetB.dect (by omega) ?_) | (refine Gd.pre ?_; first | refine Gd.pass rfl ?_) | (refine Br.pre ?_; first | refine Br.tt rfl ?_) | (refine Ck.pre ?_; first | refine Ck.mk rfl ?_) | (refine LetL.pre ?_; first | refine LetL.mk (ty := pty) [.agg [_, _, _, _, _, _, _, _, _, _, _, _, _, _]] rfl ?_)))); (try (conv => whnf)))
          refine LoopN.weak ?sw18 hin
          case sw18 => exact SW.mk _root_.id rfl rfl rfl ⟨.refl _, .refl _, .refl _, .refl _, .refl _, .refl _, .refl _, .refl _, .refl _, .refl _, .refl _, .refl _, VLe2.int (by omega), trivial⟩ (haveV.row rfl rfl (haveV.row rfl rfl trivial))
        have hkb : false = !(school == s && (id == i && true)) := by simp [e1, e2]
        by_cases e3 : ver = cv
        case neg =>
          replace hin := hin (by rw [g2, if_neg (fun g => e3 g.2.2)])
          ((repeat ((conv => whnf); (first | (refine LetN.pre ?_; first | ((conv => arg 1; whnf); refine LetN.mk ?_)) | (refine As.pre ?_; first | refine As.mk rfl ?_ | (refine As.mk ?_ ?_; · ((repeat' (refine andT ?_ ?_)) <;> (first | rfl | assumption | exact decide_eq_true (by omega) | exact decide_eq_true (by dsimp only; omega) | exact decide_eq_true (by simp; omega) | (simp; done))))) | (refine LetV.pre ?_; first | refine LetV.mk (t := 28) _ hld ?_ | refine LetV.mk (.sc (.int _ _)) rfl ?_ | refine LetV.mk (.agg _) rfl ?_) | (refine LetI.pre ?_; first | refine LetI.wrap (by omega) (by omega) ?_) | (refine LetB.pre ?_; first | refine LetB.mk (o := some .neq) _ hkb ?_ | refine LetB.dect (by omega) ?_ | refine LetB.bnet (by omega) ?_) | (refine Gd.pre ?_; first | refine Gd.run rfl ?_) | (refine Br.pre ?_; first | refine Br.tt rfl ?_) | (refine Ck.pre ?_; first | refine Ck.mk rfl ?_) | (refine LetL.pre ?_; first | refine LetL.mk (ty := pty) [.agg [_, _, _, _, _, _, _, _, _, _, _, _, _, _]] rfl ?_)))); (try (conv => whnf)))
          refine LoopN.weak ?sw19 hin
          case sw19 => exact SW.mk _root_.id rfl rfl rfl ⟨.refl _, .refl _, .refl _, .refl _, .refl _, .refl _, .refl _, .refl _, .refl _, .refl _, .refl _, .refl _, VLe2.int (by omega), trivial⟩ (haveV.row rfl rfl (haveV.row rfl rfl trivial))
        rw [if_pos ⟨e1, e2, e3⟩] at g2
        clear hin
        by_cases e4 : from_ ≤ co
        · replace hnx := hnx _ (by rw [g2, if_pos ⟨rfl, e4⟩])
          ((repeat ((conv => whnf); (first | (refine LetN.pre ?_; first | ((conv => arg 1; whnf); refine LetN.mk ?_)) | (refine As.pre ?_; first | refine As.mk rfl ?_ | (refine As.mk ?_ ?_; · ((repeat' (refine andT ?_ ?_)) <;> (first | rfl | assumption | exact decide_eq_true (by omega) | exact decide_eq_true (by dsimp only; omega) | exact decide_eq_true (by simp; omega) | (simp; done))))) | (refine LetV.pre ?_; first | refine LetV.mk (t := 28) _ hld ?_ | refine LetV.mk (.sc (.int _ _)) rfl ?_ | refine LetV.mk (.agg _) rfl ?_) | (refine LetI.pre ?_; first | refine LetI.wrap (by omega) (by omega) ?_) | (refine LetB.pre ?_; first | refine LetB.mk (o := some .neq) _ hkb ?_ | refine LetB.dect (by omega) ?_ | refine LetB.bnef (by omega) ?_) | (refine Gd.pre ?_; first | refine Gd.run rfl ?_) | (refine Br.pre ?_; first | refine Br.tt rfl ?_ | refine Br.ff rfl ?_) | (refine Ck.pre ?_; first | refine Ck.mk rfl ?_) | (refine LetL.pre ?_; first | refine LetL.mk (ty := pty) [.agg [_, _, _, _, _, _, _, _, _, _, _, _, _, _]] rfl ?_)))); (try (conv => whnf)))
          refine LoopN.weak ?sw20 hnx
          case sw20 => exact SW.mk _root_.id rfl rfl rfl ⟨.refl _, .refl _, .refl _, .refl _, .refl _, .refl _, .refl _, .refl _, VLe2.int (by omega), trivial⟩ (haveV.one rfl trivial)
        · replace hnx := hnx _ (by rw [g2, if_neg (fun g => e4 g.2)])
          ((repeat ((conv => whnf); (first | (refine LetN.pre ?_; first | ((conv => arg 1; whnf); refine LetN.mk ?_)) | (refine As.pre ?_; first | refine As.mk rfl ?_ | (refine As.mk ?_ ?_; · ((repeat' (refine andT ?_ ?_)) <;> (first | rfl | assumption | exact decide_eq_true (by omega) | exact decide_eq_true (by dsimp only; omega) | exact decide_eq_true (by simp; omega) | (simp; done))))) | (refine LetV.pre ?_; first | refine LetV.mk (t := 28) _ hld ?_ | refine LetV.mk (.sc (.int _ _)) rfl ?_ | refine LetV.mk (.agg _) rfl ?_) | (refine LetI.pre ?_; first | refine LetI.wrap (by omega) (by omega) ?_) | (refine LetB.pre ?_; first | refine LetB.mk (o := some .neq) _ hkb ?_ | refine LetB.dect (by omega) ?_ | refine LetB.decf (by omega) ?_ | refine LetB.bnef (by omega) ?_) | (refine Gd.pre ?_; first | refine Gd.run rfl ?_) | (refine Br.pre ?_; first | refine Br.tt rfl ?_ | refine Br.ff rfl ?_) | (refine Ck.pre ?_; first | refine Ck.mk rfl ?_) | (refine LetL.pre ?_; first | refine LetL.mk (ty := pty) [.agg [_, _, _, _, _, _, _, _, _, _, _, _, _, _]] rfl ?_)))); (try (conv => whnf)))
          refine LoopN.weak ?sw21 hnx
          case sw21 => exact SW.mk _root_.id rfl rfl rfl ⟨.refl _, .refl _, .refl _, .refl _, .refl _, .refl _, .refl _, .refl _, VLe2.int (by omega), trivial⟩ (haveV.one rfl trivial)
  have hld := ld_pg hlt
  have hbt := b1_take hlt s i be
  rw [← h2] at hbt
  have hnx := fun q (hq : q = b1S s i be (sm, bo) (B.getD j p0)) => ih (j + 1, q) ⟨hlt, hq.trans hbt.symm⟩ (by show B.length - (j + 1) < B.length - j; omega)
  clear ih h h2 hbt
  generalize B.getD j p0 = y at hld hnx
  obtain ⟨school, id, ver, from_, name, ⟨k, n, m, st, l⟩, total, own, age, ex⟩ := y
  by_cases c1 : school = s
  case neg =>
    have hkb : true = !(school == s && (id == i && true)) := by simp [c1]
    replace hnx := hnx (sm, bo) (by rw [b1S, if_neg (fun g => c1 g.1)])
    cases bo with
    | none =>
      ((repeat ((conv => whnf); (first | (refine LetN.pre ?_; first | ((conv => arg 1; whnf); refine LetN.mk ?_)) | (refine As.pre ?_; first | refine As.mk rfl ?_ | (refine As.mk ?_ ?_; · ((repeat' (refine andT ?_ ?_)) <;> (first | rfl | assumption | exact decide_eq_true (by omega) | exact decide_eq_true (by dsimp only; omega) | exact decide_eq_true (by simp; omega) | (simp; done))))) | (refine LetV.pre ?_; first | refine LetV.mk (t := 28) _ hld ?_ | refine LetV.mk (.sc (.int _ _)) rfl ?_ | refine LetV.mk (.agg _) rfl ?_) | (refine LetI.pre ?_; first | refine LetI.wrap (by omega) (by omega) ?_) | (refine LetB.pre ?_; first | refine LetB.mk (o := some .neq) _ hkb ?_ | refine LetB.dect (by omega) ?_) | (refine Br.pre ?_; first | refine Br.tt rfl ?_) | (refine Ck.pre ?_; first | refine Ck.mk rfl ?_) | (refine LetL.pre ?_; first | refine LetL.mk (ty := pty) [.agg [_, _, _, _, _, _, _, _, _, _, _, _, _, _]] rfl ?_)))); (try (conv => whnf)))
      refine LoopN.weak ?sw2 hnx
      case sw2 => exact SW.mk _root_.id rfl rfl rfl ⟨.refl _, .refl _, .refl _, .refl _, .refl _, .refl _, .refl _, .refl _, .refl _, .refl _, .refl _, VLe2.int (by omega), trivial⟩ (haveV.one rfl trivial)
    | some b =>
      ((repeat ((conv => whnf); (first | (refine LetN.pre ?_; first | ((conv => arg 1; whnf); refine LetN.mk ?_)) | (refine As.pre ?_; first | refine As.mk rfl ?_ | (refine As.mk ?_ ?_; · ((repeat' (refine andT ?_ ?_)) <;> (first | rfl | assumption | exact decide_eq_true (by omega) | exact decide_eq_true (by dsimp only; omega) | exact decide_eq_true (by simp; omega) | (simp; done))))) | (refine LetV.pre ?_; first | refine LetV.mk (t := 28) _ hld ?_ | refine LetV.mk (.sc (.int _ _)) rfl ?_ | refine LetV.mk (.agg _) rfl ?_) | (refine LetI.pre ?_; first | refine LetI.wrap (by omega) (by omega) ?_) | (refine LetB.pre ?_; first | refine LetB.mk (o := some .neq) _ hkb ?_ | refine LetB.dect (by omega) ?_) | (refine Br.pre ?_; first | refine Br.tt rfl ?_) | (refine Ck.pre ?_; first | refine Ck.mk rfl ?_) | (refine LetL.pre ?_; first | refine LetL.mk (ty := pty) [.agg [_, _, _, _, _, _, _, _, _, _, _, _, _, _]] rfl ?_)))); (try (conv => whnf)))
      refine LoopN.weak ?sw3 hnx
      case sw3 => exact SW.mk _root_.id rfl rfl rfl ⟨.refl _, .refl _, .refl _, .refl _, .refl _, .refl _, .refl _, .refl _, .refl _, .refl _, .refl _, VLe2.int (by omega), trivial⟩ (haveV.one rfl trivial)
  by_cases c2 : id = i
  case neg =>
    have hkb : true = !(school == s && (id == i && true)) := by simp [c2]
    replace hnx := hnx (sm, bo) (by rw [b1S, if_neg (fun g => c2 g.2)])
    cases bo with
    | none =>
      ((repeat ((conv => whnf); (first | (refine LetN.pre ?_; first | ((conv => arg 1; whnf); refine LetN.mk ?_)) | (refine As.pre ?_; first | refine As.mk rfl ?_ | (refine As.mk ?_ ?_; · ((repeat' (refine andT ?_ ?_)) <;> (first | rfl | assumption | exact decide_eq_true (by omega) | exact decide_eq_true (by dsimp only; omega) | exact decide_eq_true (by simp; omega) | (simp; done))))) | (refine LetV.pre ?_; first | refine LetV.mk (t := 28) _ hld ?_ | refine LetV.mk (.sc (.int _ _)) rfl ?_ | refine LetV.mk (.agg _) rfl ?_) | (refine LetI.pre ?_; first | refine LetI.wrap (by omega) (by omega) ?_) | (refine LetB.pre ?_; first | refine LetB.mk (o := some .neq) _ hkb ?_ | refine LetB.dect (by omega) ?_) | (refine Br.pre ?_; first | refine Br.tt rfl ?_) | (refine Ck.pre ?_; first | refine Ck.mk rfl ?_) | (refine LetL.pre ?_; first | refine LetL.mk (ty := pty) [.agg [_, _, _, _, _, _, _, _, _, _, _, _, _, _]] rfl ?_)))); (try (conv => whnf)))
      refine LoopN.weak ?sw4 hnx
      case sw4 => exact SW.mk _root_.id rfl rfl rfl ⟨.refl _, .refl _, .refl _, .refl _, .refl _, .refl _, .refl _, .refl _, .refl _, .refl _, .refl _, VLe2.int (by omega), trivial⟩ (haveV.one rfl trivial)
    | some b =>
      ((repeat ((conv => whnf); (first | (refine LetN.pre ?_; first | ((conv => arg 1; whnf); refine LetN.mk ?_)) | (refine As.pre ?_; first | refine As.mk rfl ?_ | (refine As.mk ?_ ?_; · ((repeat' (refine andT ?_ ?_)) <;> (first | rfl | assumption | exact decide_eq_true (by omega) | exact decide_eq_true (by dsimp only; omega) | exact decide_eq_true (by simp; omega) | (simp; done))))) | (refine LetV.pre ?_; first | refine LetV.mk (t := 28) _ hld ?_ | refine LetV.mk (.sc (.int _ _)) rfl ?_ | refine LetV.mk (.agg _) rfl ?_) | (refine LetI.pre ?_; first | refine LetI.wrap (by omega) (by omega) ?_) | (refine LetB.pre ?_; first | refine LetB.mk (o := some .neq) _ hkb ?_ | refine LetB.dect (by omega) ?_) | (refine Br.pre ?_; first | refine Br.tt rfl ?_) | (refine Ck.pre ?_; first | refine Ck.mk rfl ?_) | (refine LetL.pre ?_; first | refine LetL.mk (ty := pty) [.agg [_, _, _, _, _, _, _, _, _, _, _, _, _, _]] rfl ?_)))); (try (conv => whnf)))
      refine LoopN.weak ?sw5 hnx
      case sw5 => exact SW.mk _root_.id rfl rfl rfl ⟨.refl _, .refl _, .refl _, .refl _, .refl _, .refl _, .refl _, .refl _, .refl _, .refl _, .refl _, VLe2.int (by omega), trivial⟩ (haveV.one rfl trivial)
  have hkb : false = !(school == s && (id == i && true)) := by simp [c1, c2]
  by_cases c3 : from_ ≤ be
  case neg =>
    replace hnx := hnx (true, bo) (by rw [b1S, if_pos ⟨c1, c2⟩, if_neg c3])
    cases bo with
    | none =>
      ((repeat ((conv => whnf); (first | (refine LetN.pre ?_; first | ((conv => arg 1; whnf); refine LetN.mk ?_)) | (refine As.pre ?_; first | refine As.mk rfl ?_ | (refine As.mk ?_ ?_; · ((repeat' (refine andT ?_ ?_)) <;> (first | rfl | assumption | exact decide_eq_true (by omega) | exact decide_eq_true (by dsimp only; omega) | exact decide_eq_true (by simp; omega) | (simp; done))))) | (refine LetV.pre ?_; first | refine LetV.mk (t := 28) _ hld ?_ | refine LetV.mk (.sc (.int _ _)) rfl ?_ | refine LetV.mk (.agg _) rfl ?_) | (refine LetI.pre ?_; first | refine LetI.wrap (by omega) (by omega) ?_) | (refine LetB.pre ?_; first | refine LetB.mk (o := some .neq) _ hkb ?_ | refine LetB.dect (by omega) ?_ | refine LetB.decf (by omega) ?_) | (refine Gd.pre ?_; first | refine Gd.pass rfl ?_) | (refine Br.pre ?_; first | refine Br.tt rfl ?_ | refine Br.ff rfl ?_) | (refine Ck.pre ?_; first | refine Ck.drawn (by kernel_rfl) ?_ | refine Ck.mk rfl ?_) | (refine LetL.pre ?_; first | refine LetL.mk (ty := pty) [.agg [_, _, _, _, _, _, _, _, _, _, _, _, _, _]] rfl ?_)))); (try (conv => whnf)))
      refine LoopN.weak ?sw6 hnx
      case sw6 => exact SW.mk _root_.id rfl rfl rfl ⟨.refl _, .refl _, .refl _, .refl _, .refl _, .refl _, .refl _, .refl _, .refl _, .refl _, .refl _, VLe2.int (by omega), trivial⟩ (haveV.one rfl trivial)
    | some b =>
      ((repeat ((conv => whnf); (first | (refine LetN.pre ?_; first | ((conv => arg 1; whnf); refine LetN.mk ?_)) | (refine As.pre ?_; first | refine As.mk rfl ?_ | (refine As.mk ?_ ?_; · ((repeat' (refine andT ?_ ?_)) <;> (first | rfl | assumption | exact decide_eq_true (by omega) | exact decide_eq_true (by dsimp only; omega) | exact decide_eq_true (by simp; omega) | (simp; done))))) | (refine LetV.pre ?_; first | refine LetV.mk (t := 28) _ hld ?_ | refine LetV.mk (.sc (.int _ _)) rfl ?_ | refine LetV.mk (.agg _) rfl ?_) | (refine LetI.pre ?_; first | refine LetI.wrap (by omega) (by omega) ?_) | (refine LetB.pre ?_; first | refine LetB.mk (o := some .neq) _ hkb ?_ | refine LetB.dect (by omega) ?_ | refine LetB.decf (by omega) ?_) | (refine Gd.pre ?_; first | refine Gd.pass rfl ?_) | (refine Br.pre ?_; first | refine Br.tt rfl ?_ | refine Br.ff rfl ?_) | (refine Ck.pre ?_; first | refine Ck.drawn (by kernel_rfl) ?_ | refine Ck.mk rfl ?_) | (refine LetL.pre ?_; first | refine LetL.mk (ty := pty) [.agg [_, _, _, _, _, _, _, _, _, _, _, _, _, _]] rfl ?_)))); (try (conv => whnf)))
      refine LoopN.weak ?sw7 hnx
      case sw7 => exact SW.mk _root_.id rfl rfl rfl ⟨.refl _, .refl _, .refl _, .refl _, .refl _, .refl _, .refl _, .refl _, .refl _, .refl _, .refl _, VLe2.int (by omega), trivial⟩ (haveV.one rfl trivial)
  cases bo with
  | none =>
    replace hnx := hnx (true, some ⟨school, id, ver, from_, name, .mk k n m st l, total, own, age, ex⟩) (by rw [b1S, if_pos ⟨c1, c2⟩, if_pos c3])
    ((repeat ((conv => whnf); (first | (refine LetN.pre ?_; first | ((conv => arg 1; whnf); refine LetN.mk ?_)) | (refine As.pre ?_; first | refine As.mk rfl ?_ | (refine As.mk ?_ ?_; · ((repeat' (refine andT ?_ ?_)) <;> (first | rfl | assumption | exact decide_eq_true (by omega) | exact decide_eq_true (by dsimp only; omega) | exact decide_eq_true (by simp; omega) | (simp; done))))) | (refine LetV.pre ?_; first | refine LetV.mk (t := 28) _ hld ?_ | refine LetV.mk (.sc (.int _ _)) rfl ?_ | refine LetV.mk (.agg _) rfl ?_) | (refine LetI.pre ?_; first | refine LetI.wrap (by omega) (by omega) ?_) | (refine LetB.pre ?_; first | refine LetB.tt rfl ?_ | refine LetB.mk (o := some .neq) _ hkb ?_ | refine LetB.dect (by omega) ?_) | (refine Gd.pre ?_; first | refine Gd.run rfl ?_ | refine Gd.pass rfl ?_) | (refine Br.pre ?_; first | refine Br.tt rfl ?_ | refine Br.ff rfl ?_) | (refine Ck.pre ?_; first | refine Ck.drawn (by kernel_rfl) ?_ | refine Ck.mk rfl ?_) | (refine LetL.pre ?_; first | refine LetL.mk (ty := pty) [.agg [_, _, _, _, _, _, _, _, _, _, _, _, _, _]] rfl ?_)))); (try (conv => whnf)))
    refine LoopN.weak ?sw8 hnx
    case sw8 => exact SW.mk _root_.id rfl rfl rfl ⟨.refl _, .refl _, .refl _, .refl _, .refl _, .refl _, .refl _, .refl _, .refl _, .refl _, .refl _, VLe2.int (by omega), trivial⟩ (haveV.one rfl trivial)
  | some b =>
    by_cases c4 : b.ver < ver
    · replace hnx := hnx (true, some ⟨school, id, ver, from_, name, .mk k n m st l, total, own, age, ex⟩) (by rw [b1S, if_pos ⟨c1, c2⟩, if_pos c3]; dsimp only; rw [if_pos c4])
      obtain ⟨school', id', ver', from', name', ⟨k', n', m', st', l'⟩, total', own', age', ex'⟩ := b
      ((repeat ((conv => whnf); (first | (refine LetN.pre ?_; first | ((conv => arg 1; whnf); refine LetN.mk ?_)) | (refine As.pre ?_; first | refine As.mk rfl ?_ | (refine As.mk ?_ ?_; · ((repeat' (refine andT ?_ ?_)) <;> (first | rfl | assumption | exact decide_eq_true (by omega) | exact decide_eq_true (by dsimp only; omega) | exact decide_eq_true (by simp; omega) | (simp; done))))) | (refine LetV.pre ?_; first | refine LetV.mk (t := 28) _ hld ?_ | refine LetV.mk (.sc (.int _ _)) rfl ?_ | refine LetV.mk (.agg _) rfl ?_) | (refine LetI.pre ?_; first | refine LetI.wrap (by omega) (by omega) ?_) | (refine LetB.pre ?_; first | refine LetB.ff rfl ?_ | refine LetB.mk (o := some .neq) _ hkb ?_ | refine LetB.dect (by omega) ?_) | (refine Gd.pre ?_; first | refine Gd.run rfl ?_) | (refine Br.pre ?_; first | refine Br.tt rfl ?_ | refine Br.ff rfl ?_) | (refine Ck.pre ?_; first | refine Ck.drawn (by kernel_rfl) ?_ | refine Ck.mk rfl ?_) | (refine LetL.pre ?_; first | refine LetL.mk (ty := pty) [.agg [_, _, _, _, _, _, _, _, _, _, _, _, _, _]] rfl ?_)))); (try (conv => whnf)))
      refine LoopN.weak ?sw9 hnx
      case sw9 => exact SW.mk _root_.id rfl rfl rfl ⟨.refl _, .refl _, .refl _, .refl _, .refl _, .refl _, .refl _, .refl _, .refl _, .refl _, .refl _, VLe2.int (by omega), trivial⟩ (haveV.one rfl trivial)
    · replace hnx := hnx (true, some b) (by rw [b1S, if_pos ⟨c1, c2⟩, if_pos c3]; dsimp only; rw [if_neg c4])
      obtain ⟨school', id', ver', from', name', ⟨k', n', m', st', l'⟩, total', own', age', ex'⟩ := b
      ((repeat ((conv => whnf); (first | (refine LetN.pre ?_; first | ((conv => arg 1; whnf); refine LetN.mk ?_)) | (refine As.pre ?_; first | refine As.mk rfl ?_ | (refine As.mk ?_ ?_; · ((repeat' (refine andT ?_ ?_)) <;> (first | rfl | assumption | exact decide_eq_true (by omega) | exact decide_eq_true (by dsimp only; omega) | exact decide_eq_true (by simp; omega) | (simp; done))))) | (refine LetV.pre ?_; first | refine LetV.mk (t := 28) _ hld ?_ | refine LetV.mk (.sc (.int _ _)) rfl ?_ | refine LetV.mk (.agg _) rfl ?_) | (refine LetI.pre ?_; first | refine LetI.wrap (by omega) (by omega) ?_) | (refine LetB.pre ?_; first | refine LetB.ff rfl ?_ | refine LetB.mk (o := some .neq) _ hkb ?_ | refine LetB.dect (by omega) ?_ | refine LetB.decf (by omega) ?_) | (refine Gd.pre ?_; first | refine Gd.run rfl ?_) | (refine Br.pre ?_; first | refine Br.tt rfl ?_ | refine Br.ff rfl ?_) | (refine Ck.pre ?_; first | refine Ck.drawn (by kernel_rfl) ?_ | refine Ck.mk rfl ?_) | (refine LetL.pre ?_; first | refine LetL.mk (ty := pty) [.agg [_, _, _, _, _, _, _, _, _, _, _, _, _, _]] rfl ?_)))); (try (conv => whnf)))
      refine LoopN.weak ?sw10 hnx
      case sw10 => exact SW.mk _root_.id rfl rfl rfl ⟨.refl _, .refl _, .refl _, .refl _, .refl _, .refl _, .refl _, .refl _, .refl _, .refl _, .refl _, VLe2.int (by omega), trivial⟩ (haveV.one rfl trivial)
end Pb
end Go.Proofs.Ytjnmbmdplchfkaa
