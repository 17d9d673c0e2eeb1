/- Ytcfokhkdphodoaa: YtcfokhkdphodoaaF. -/
import Derived.Test.YtcfokhkdphodoaaR
import Derived.Test.YtcfokhkdphodoaaAmMF
namespace Go.Proofs.Ytcfokhkdphodoaa
open Go.Proofs.Ytcfokhkdphodoaa.Am
namespace Nt
abbrev int (a : Int) : AV := .sc (.int .i64 a)
abbrev u16 (x : BitVec 16) : AV := .sc (.int .u16 x.toNat)
abbrev par (p : Int × Int × ByteArray) : AV := .agg [int p.1, int p.2.1, .sc (.string p.2.2)]
abbrev Pc := Int × Int × ByteArray
abbrev netC (n : Int) (cu : Nat → BitVec 16) (k : Nat) : AV := .agg [int n, u16 (cu 0), u16 (cu 1), u16 (cu 2), u16 (cu 3), u16 (cu 4), u16 (cu 5), u16 (cu 6), u16 (cu 7), u16 (cu 8), .slm {} 1 3 0 k]
abbrev netH (n : Int) (cu : Nat → BitVec 16) (ps : List Pc) : AH := [(0, .row 11 56 [netC n cu ps.length]), (1, .row 3 33 (ps.map par))]
abbrev T0 : AV := .ptr 0 11 0 0
theorem pure_par : ∀ ps : List Pc, AV.namesL (fun _ => false) (ps.map par) = true
  | [] => rfl
  | p :: l => by simp only [List.map_cons, AV.namesL, pure_par l]; rfl
section
variable (n : Int) (cu : Nat → BitVec 16) (ps : List Pc)
theorem none_f : AFun Try.prog 33 2 [T0] (netH n cu ps) (.sc (.bool (n == 0))) (netH n cu ps) := by
  refine AFun.of_W T_ok mixed Try.func33 rfl (by decide) rfl ?_
  ((repeat ((conv => whnf); (first | refine Ck.drawn (by kernel_rfl) ?_ | refine Ck.mk rfl ?_ | refine As.mk rfl ?_ | (refine As.mk ?_ ?_; · decide +kernel) | refine As.mk (andT (nor_self _) rfl) ?_ | refine As.mk (andT (nor_self _) (or_t _)) ?_ | refine As.mk (andT (or_t _) (or_nself _)) ?_ | refine As.mk (andT (or_t _) (or_t _)) ?_ | refine As.mk (andT (nor_self _) (andT (nor_self _) rfl)) ?_ | (refine As.mk ?_ ?_; · ((repeat' (refine andT ?_ ?_)) <;> (first | rfl | assumption | exact decide_eq_true (by omega) | exact decide_eq_true (by dsimp only; omega) | exact decide_eq_true (by simp; omega) | (simp; done)))) | (fail) | refine LetI.wrap (by omega) (by omega) ?_ | refine LetI.mk _ rfl ?_ | refine LetV.mk (.sc (.int _ _)) rfl ?_ | refine LetV.mk (.sc (.bool _)) rfl ?_ | refine LetV.mk (.sc _) rfl ?_ | refine LetV.mk (.agg _) rfl ?_ | refine LetV.mk (.slm _ _ _ _ _) rfl ?_ | refine LetV.mk (.ro _ _ _) rfl ?_ | refine LetV.mk (.ptr _ _ _ _) rfl ?_ | refine Br.tt rfl ?_ | refine Br.ff rfl ?_ | refine Br.tt (by assumption) ?_ | refine Br.ff (by assumption) ?_ | (refine Br.tt ?_ ?_; · decide +kernel) | (refine Br.ff ?_ ?_; · decide +kernel) | refine Gd.run rfl ?_ | refine Gd.pass rfl ?_ | refine Gd.run (by assumption) ?_ | refine Gd.pass (by assumption) ?_ | (refine Gd.run ?_ ?_; · decide +kernel) | (refine Gd.pass ?_ ?_; · decide +kernel) | refine Gd.both ?_ | refine LetL.mk [_] rfl ?_ | refine LetL.mk _ rfl ?_))); (try (conv => whnf)))
  exact ⟨.inl rfl, ⟨_, rfl, rfl⟩, rfl, rfl, trivial⟩
/-- A call on the net. -/
theorem sameOk {vs : List AV} {v : AV} {Hc : AH} (hk : keysOk 2 id [0, 1] [0, 1] (Hc.map Prod.fst) = true) (h1 : AV.namesL (fun i => decide (i < 2)) vs = true) (h2 : AV.namesL (fun i => decide (i < 2) || [0, 1].contains i) [v] = true) (h3 : AV.renL id vs = vs)
    (g0 : Hc.get 0 = some (.row 11 56 [netC n cu ps.length])) (g1 : Hc.get 1 = some (.row 3 33 (ps.map par))) : CallOk 2 id vs (netH n cu ps) v (netH n cu ps) Hc vs := by
  refine CallOk.mk' hk h3.symm h1 ?_ ?_ ?_ ?_
  · simp only [netH, namesAll, Blk.names, AV.namesL, AV.names, namesL_none (pure_par ps)]; rfl
  · simp only [AV.namesL, Bool.and_true] at h2; exact h2
  · simp only [netH, namesAll, Blk.names, AV.namesL, AV.names, namesL_none (pure_par ps)]; rfl
  · simp only [netH, haveAll, Blk.ren, renL_none (pure_par ps)]
    exact ⟨g0, g1, trivial⟩
theorem link_f (hn : (n == 0) = false) (a b : Int) : AFun Try.prog 29 2 [T0, int a, int b] (netH n cu ps) (.sc (.bool (decide (0 < a) && decide (0 < b) && decide (a ≤ n) && decide (b ≤ n) && a != b))) (netH n cu ps) := by
  refine AFun.of_W T_ok mixed Try.func29 rfl (Nat.le_of_ble_eq_true rfl) rfl ?_
  repeat' ((conv => whnf); (first | refine Ck.drawn (by kernel_rfl) ?_ | refine Ck.mk rfl ?_ | refine As.mk rfl ?_ | (refine As.mk ?_ ?_; · decide +kernel) | refine As.mk (andT (nor_self _) rfl) ?_ | refine As.mk (andT (nor_self _) (or_t _)) ?_ | refine As.mk (andT (or_t _) (or_nself _)) ?_ | refine As.mk (andT (or_t _) (or_t _)) ?_ | refine As.mk (andT (nor_self _) (andT (nor_self _) rfl)) ?_ | (refine As.mk ?_ ?_; · ((repeat' (refine andT ?_ ?_)) <;> (first | rfl | assumption | exact decide_eq_true (by omega) | exact decide_eq_true (by dsimp only; omega) | exact decide_eq_true (by simp; omega) | (simp; done)))) | (refine CallN.read id (none_f n cu ps) (sameOk n cu ps rfl rfl rfl rfl rfl rfl) ?_) | refine LetI.wrap (by omega) (by omega) ?_ | refine LetI.mk _ rfl ?_ | refine LetV.mk (.sc (.int _ _)) rfl ?_ | refine LetV.mk (.sc (.bool _)) rfl ?_ | refine LetV.mk (.sc _) rfl ?_ | refine LetV.mk (.agg _) rfl ?_ | refine LetV.mk (.slm _ _ _ _ _) rfl ?_ | refine LetV.mk (.ro _ _ _) rfl ?_ | refine LetV.mk (.ptr _ _ _ _) rfl ?_ | refine Br.tt rfl ?_ | refine Br.ff rfl ?_ | refine Br.tt (by assumption) ?_ | refine Br.ff (by assumption) ?_ | (refine Br.tt ?_ ?_; · decide +kernel) | (refine Br.ff ?_ ?_; · decide +kernel) | refine Gd.run rfl ?_ | refine Gd.pass rfl ?_ | refine Gd.run (by assumption) ?_ | refine Gd.pass (by assumption) ?_ | (refine Gd.run ?_ ?_; · decide +kernel) | (refine Gd.pass ?_ ?_; · decide +kernel) | refine Gd.both ?_ | refine LetL.mk [_] rfl ?_ | refine LetL.mk _ rfl ?_ | (refine Br.split ?_ ?_ <;> intro _)))
  refine ⟨.inl rfl, ⟨_, rfl, congrArg (fun b => AV.sc (.bool b)) ?_⟩, rfl, rfl, trivial⟩
  simp [hn]
theorem netcell (w : AV) (n : AV) {a : Int} (h0 : 0 ≤ a) (h8 : a ≤ 8) : u16 (cu a.toNat) = Am.part false 1 (0 + 1 + a.toNat * 1) 11 (.agg [n, u16 (cu 0), u16 (cu 1), u16 (cu 2), u16 (cu 3), u16 (cu 4), u16 (cu 5), u16 (cu 6), u16 (cu 7), u16 (cu 8), w]) := by
  have : a = 0 ∨ a = 1 ∨ a = 2 ∨ a = 3 ∨ a = 4 ∨ a = 5 ∨ a = 6 ∨ a = 7 ∨ a = 8 := by omega
  rcases this with rfl | rfl | rfl | rfl | rfl | rfl | rfl | rfl | rfl <;> rfl
/-- One row of links, written. -/
def upd (cu : Nat → BitVec 16) (a : Nat) (x : BitVec 16) : Nat → BitVec 16 := fun i => if i = a then x else cu i
theorem netput (w : AV) (n : AV) {a : Int} (h0 : 0 ≤ a) (h8 : a ≤ 8) (x : BitVec 16) : [AV.agg [n, u16 (upd cu a.toNat x 0), u16 (upd cu a.toNat x 1), u16 (upd cu a.toNat x 2), u16 (upd cu a.toNat x 3), u16 (upd cu a.toNat x 4), u16 (upd cu a.toNat x 5), u16 (upd cu a.toNat x 6), u16 (upd cu a.toNat x 7), u16 (upd cu a.toNat x 8), w]] =
    [AV.agg [n, u16 (cu 0), u16 (cu 1), u16 (cu 2), u16 (cu 3), u16 (cu 4), u16 (cu 5), u16 (cu 6), u16 (cu 7), u16 (cu 8), w]].set 0 (putPart (0 + 1 + a.toNat * 1) 11 (AV.agg [n, u16 (cu 0), u16 (cu 1), u16 (cu 2), u16 (cu 3), u16 (cu 4), u16 (cu 5), u16 (cu 6), u16 (cu 7), u16 (cu 8), w]) (u16 x)) := by
  have : a = 0 ∨ a = 1 ∨ a = 2 ∨ a = 3 ∨ a = 4 ∨ a = 5 ∨ a = 6 ∨ a = 7 ∨ a = 8 := by omega
  rcases this with rfl | rfl | rfl | rfl | rfl | rfl | rfl | rfl | rfl <;> rfl
theorem fdiv_nat (m k : Nat) (hk : k ≤ 16) : ((m : Nat) : Int).fdiv (2 ^ min k 16) = ((m / 2 ^ k : Nat) : Int) := by
  rw [Nat.min_eq_left hk]
  rw [Int.fdiv_eq_ediv_of_nonneg _ (by exact_mod_cast Nat.zero_le _)]
  norm_cast
theorem wrap16 (x : BitVec 16) : IntKind.u16.wrap (x.toNat : Int) = x.toNat := by
  have := x.isLt
  simp only [IntKind.wrap, IntKind.signed, IntKind.bits]
  simp
  omega
theorem bit_shr (x : BitVec 16) {b : Int} (h0 : 0 ≤ b) (h8 : b ≤ 8) : (IntKind.u16.wrap ((BitVec.ofInt 16 (((x.toNat : Nat) : Int).fdiv (2 ^ min b.toNat 16)) &&& BitVec.ofInt 16 1).toNat : Int) == 1) = x.getLsbD b.toNat := by
  obtain ⟨k, rfl⟩ := Int.eq_ofNat_of_zero_le h0
  rw [Int.toNat_natCast, fdiv_nat _ _ (by omega), wrap16, BitVec.ofInt_natCast]
  have : BitVec.ofInt 16 1 = 1#16 := rfl
  rw [this, BitVec.toNat_and, BitVec.toNat_ofNat]
  have hx := x.isLt
  have h2 : x.toNat / 2 ^ k ≤ x.toNat := Nat.div_le_self _ _
  rw [Nat.mod_eq_of_lt (by omega)]
  show ((((x.toNat / 2 ^ k &&& 1 : Nat)) : Int) == 1) = _
  rw [Nat.and_one_is_mod]
  have h3 : x.getLsbD k = x.toNat.testBit k := rfl
  rw [h3, Nat.testBit_eq_decide_div_mod_eq]
  rw [Bool.eq_iff_iff]
  simp only [beq_iff_eq, decide_eq_true_eq]
  omega
theorem cut_f {a b : Int} (a0 : 0 ≤ a) (a8 : a ≤ 8) (b0 : 0 ≤ b) (b8 : b ≤ 8) : AFun Try.prog 30 2 [T0, int a, int b] (netH n cu ps) (.sc (.bool ((cu a.toNat).getLsbD b.toNat))) (netH n cu ps) := by
  refine AFun.of_W T_ok mixed Try.func30 rfl (Nat.le_of_ble_eq_true rfl) rfl ?_
  ((repeat ((conv => whnf); (first | refine Ck.drawn (by kernel_rfl) ?_ | refine Ck.mk rfl ?_ | refine As.mk rfl ?_ | (refine As.mk ?_ ?_; · decide +kernel) | refine As.mk (andT (nor_self _) rfl) ?_ | refine As.mk (andT (nor_self _) (or_t _)) ?_ | refine As.mk (andT (or_t _) (or_nself _)) ?_ | refine As.mk (andT (or_t _) (or_t _)) ?_ | refine As.mk (andT (nor_self _) (andT (nor_self _) rfl)) ?_ | (refine As.mk ?_ ?_; · ((repeat' (refine andT ?_ ?_)) <;> (first | rfl | assumption | exact decide_eq_true (by omega) | exact decide_eq_true (by dsimp only; omega) | exact decide_eq_true (by simp; omega) | (simp; done)))) | (first | refine LetV.mk (t := 53) _ (netcell _ _ _ a0 a8) ?_) | refine LetI.wrap (by omega) (by omega) ?_ | refine LetI.mk _ rfl ?_ | refine LetV.mk (.sc (.int _ _)) rfl ?_ | refine LetV.mk (.sc (.bool _)) rfl ?_ | refine LetV.mk (.sc _) rfl ?_ | refine LetV.mk (.agg _) rfl ?_ | refine LetV.mk (.slm _ _ _ _ _) rfl ?_ | refine LetV.mk (.ro _ _ _) rfl ?_ | refine LetV.mk (.ptr _ _ _ _) rfl ?_ | refine Br.tt rfl ?_ | refine Br.ff rfl ?_ | refine Br.tt (by assumption) ?_ | refine Br.ff (by assumption) ?_ | (refine Br.tt ?_ ?_; · decide +kernel) | (refine Br.ff ?_ ?_; · decide +kernel) | refine Gd.run rfl ?_ | refine Gd.pass rfl ?_ | refine Gd.run (by assumption) ?_ | refine Gd.pass (by assumption) ?_ | (refine Gd.run ?_ ?_; · decide +kernel) | (refine Gd.pass ?_ ?_; · decide +kernel) | refine Gd.both ?_ | refine LetL.mk [_] rfl ?_ | refine LetL.mk _ rfl ?_))); (try (conv => whnf)))
  refine ⟨.inl rfl, ⟨_, rfl, congrArg (fun b => AV.sc (.bool b)) ?_⟩, rfl, rfl, trivial⟩
  exact bit_shr _ b0 b8
/-- A row of links, one set. -/
def setB (x : BitVec 16) (b : Nat) (y : Bool) : BitVec 16 := bif y then (x &&& ~~~(1#16 <<< b)) ||| (1#16 <<< b) else x &&& ~~~(1#16 <<< b)
theorem shl_one {b : Int} (h0 : 0 ≤ b) (h8 : b ≤ 8) : BitVec.ofInt 16 (IntKind.u16.wrap (1 * 2 ^ min b.toNat 16)) = 1#16 <<< b.toNat := by
  have : b = 0 ∨ b = 1 ∨ b = 2 ∨ b = 3 ∨ b = 4 ∨ b = 5 ∨ b = 6 ∨ b = 7 ∨ b = 8 := by omega
  rcases this with rfl | rfl | rfl | rfl | rfl | rfl | rfl | rfl | rfl <;> decide
theorem bit_not (x : BitVec 16) {b : Int} (h0 : 0 ≤ b) (h8 : b ≤ 8) : ((x &&& ~~~(1#16 <<< b.toNat)).toNat : Int) = IntKind.u16.wrap ((BitVec.ofInt 16 (x.toNat : Int) &&& ~~~BitVec.ofInt 16 (IntKind.u16.wrap (1 * 2 ^ min b.toNat 16))).toNat : Int) := by
  rw [shl_one h0 h8, wrap16, BitVec.ofInt_natCast, BitVec.ofNat_toNat, BitVec.setWidth_eq]
theorem bit_or (x : BitVec 16) {b : Int} (h0 : 0 ≤ b) (h8 : b ≤ 8) : ((x ||| (1#16 <<< b.toNat)).toNat : Int) = IntKind.u16.wrap ((BitVec.ofInt 16 (x.toNat : Int) ||| BitVec.ofInt 16 (IntKind.u16.wrap (1 * 2 ^ min b.toNat 16))).toNat : Int) := by
  rw [shl_one h0 h8, wrap16, BitVec.ofInt_natCast, BitVec.ofNat_toNat, BitVec.setWidth_eq]
/-- One way of a link, cut or mended. -/
def set1 (cu : Nat → BitVec 16) (a b : Nat) (y : Bool) : Nat → BitVec 16 :=
  bif y then upd (upd cu a (cu a &&& ~~~(1#16 <<< b))) a (upd cu a (cu a &&& ~~~(1#16 <<< b)) a ||| (1#16 <<< b)) else upd cu a (cu a &&& ~~~(1#16 <<< b))
/-- The links, one cut or mended. -/
def setC (cu : Nat → BitVec 16) (a b : Nat) (y : Bool) : Nat → BitVec 16 := set1 (set1 cu a b y) b a y
theorem Cut_no {a b : Int} (y : Bool) (h : ¬ (0 < a ∧ 0 < b ∧ a ≤ n ∧ b ≤ n ∧ a ≠ b)) (hn : (n == 0) = false) : AFun Try.prog 15 2 [T0, int a, int b, .sc (.bool y)] (netH n cu ps) (int 1) (netH n cu ps) := by
  refine AFun.of_W T_ok mixed Try.func15 rfl (Nat.le_of_ble_eq_true rfl) rfl ?_
  ((repeat ((conv => whnf); (first | refine Ck.drawn (by kernel_rfl) ?_ | refine Ck.mk rfl ?_ | refine As.mk rfl ?_ | (refine As.mk ?_ ?_; · decide +kernel) | refine As.mk (andT (nor_self _) rfl) ?_ | refine As.mk (andT (nor_self _) (or_t _)) ?_ | refine As.mk (andT (or_t _) (or_nself _)) ?_ | refine As.mk (andT (or_t _) (or_t _)) ?_ | refine As.mk (andT (nor_self _) (andT (nor_self _) rfl)) ?_ | (refine As.mk ?_ ?_; · ((repeat' (refine andT ?_ ?_)) <;> (first | rfl | assumption | exact decide_eq_true (by omega) | exact decide_eq_true (by dsimp only; omega) | exact decide_eq_true (by simp; omega) | (simp; done)))) | (first | refine CallN.read id (link_f n cu ps hn a b) (sameOk n cu ps rfl rfl rfl rfl rfl rfl) ?_) | refine LetI.wrap (by omega) (by omega) ?_ | refine LetI.mk _ rfl ?_ | refine LetV.mk (.sc (.int _ _)) rfl ?_ | refine LetV.mk (.sc (.bool _)) rfl ?_ | refine LetV.mk (.sc _) rfl ?_ | refine LetV.mk (.agg _) rfl ?_ | refine LetV.mk (.slm _ _ _ _ _) rfl ?_ | refine LetV.mk (.ro _ _ _) rfl ?_ | refine LetV.mk (.ptr _ _ _ _) rfl ?_ | refine Br.tt rfl ?_ | refine Br.ff rfl ?_ | refine Br.tt (by assumption) ?_ | refine Br.ff (by assumption) ?_ | (refine Br.tt ?_ ?_; · decide +kernel) | (refine Br.ff ?_ ?_; · decide +kernel) | refine Gd.run rfl ?_ | refine Gd.pass rfl ?_ | refine Gd.run (by assumption) ?_ | refine Gd.pass (by assumption) ?_ | (refine Gd.run ?_ ?_; · decide +kernel) | (refine Gd.pass ?_ ?_; · decide +kernel) | refine Gd.both ?_ | refine LetL.mk [_] rfl ?_ | refine LetL.mk _ rfl ?_))); (try (conv => whnf)))
  refine Br.tt ?_ ?_
  · simp; omega
  ((repeat ((conv => whnf); (first | refine Ck.drawn (by kernel_rfl) ?_ | refine Ck.mk rfl ?_ | refine As.mk rfl ?_ | (refine As.mk ?_ ?_; · decide +kernel) | refine As.mk (andT (nor_self _) rfl) ?_ | refine As.mk (andT (nor_self _) (or_t _)) ?_ | refine As.mk (andT (or_t _) (or_nself _)) ?_ | refine As.mk (andT (or_t _) (or_t _)) ?_ | refine As.mk (andT (nor_self _) (andT (nor_self _) rfl)) ?_ | (refine As.mk ?_ ?_; · ((repeat' (refine andT ?_ ?_)) <;> (first | rfl | assumption | exact decide_eq_true (by omega) | exact decide_eq_true (by dsimp only; omega) | exact decide_eq_true (by simp; omega) | (simp; done)))) | (fail) | refine LetI.wrap (by omega) (by omega) ?_ | refine LetI.mk _ rfl ?_ | refine LetV.mk (.sc (.int _ _)) rfl ?_ | refine LetV.mk (.sc (.bool _)) rfl ?_ | refine LetV.mk (.sc _) rfl ?_ | refine LetV.mk (.agg _) rfl ?_ | refine LetV.mk (.slm _ _ _ _ _) rfl ?_ | refine LetV.mk (.ro _ _ _) rfl ?_ | refine LetV.mk (.ptr _ _ _ _) rfl ?_ | refine Br.tt rfl ?_ | refine Br.ff rfl ?_ | refine Br.tt (by assumption) ?_ | refine Br.ff (by assumption) ?_ | (refine Br.tt ?_ ?_; · decide +kernel) | (refine Br.ff ?_ ?_; · decide +kernel) | refine Gd.run rfl ?_ | refine Gd.pass rfl ?_ | refine Gd.run (by assumption) ?_ | refine Gd.pass (by assumption) ?_ | (refine Gd.run ?_ ?_; · decide +kernel) | (refine Gd.pass ?_ ?_; · decide +kernel) | refine Gd.both ?_ | refine LetL.mk [_] rfl ?_ | refine LetL.mk _ rfl ?_))); (try (conv => whnf)))
  exact ⟨.inl rfl, ⟨_, rfl, rfl⟩, rfl, rfl, trivial⟩
set_option maxHeartbeats 4000000 in
theorem Cut_yes {a b : Int} (y : Bool) (ha : 0 < a) (hb : 0 < b) (han : a ≤ n) (hbn : b ≤ n) (hab : a ≠ b) (hn8 : n ≤ 8) : AFun Try.prog 15 2 [T0, int a, int b, .sc (.bool y)] (netH n cu ps) (int 0) (netH n (setC cu a.toNat b.toNat y) ps) := by
  have hn : (n == 0) = false := by simp; omega
  have a0 : 0 ≤ a := Int.le_of_lt ha
  have b0 : 0 ≤ b := Int.le_of_lt hb
  have a8 : a ≤ 8 := by omega
  have b8 : b ≤ 8 := by omega
  cases y
  all_goals
    refine AFun.of_W T_ok mixed Try.func15 rfl (Nat.le_of_ble_eq_true rfl) rfl ?_
    ((repeat ((conv => whnf); (first | refine Ck.drawn (by kernel_rfl) ?_ | refine Ck.mk rfl ?_ | refine As.mk rfl ?_ | (refine As.mk ?_ ?_; · decide +kernel) | refine As.mk (andT (nor_self _) rfl) ?_ | refine As.mk (andT (nor_self _) (or_t _)) ?_ | refine As.mk (andT (or_t _) (or_nself _)) ?_ | refine As.mk (andT (or_t _) (or_t _)) ?_ | refine As.mk (andT (nor_self _) (andT (nor_self _) rfl)) ?_ | (refine As.mk ?_ ?_; · ((repeat' (refine andT ?_ ?_)) <;> (first | rfl | assumption | exact decide_eq_true (by omega) | exact decide_eq_true (by dsimp only; omega) | exact decide_eq_true (by simp; omega) | (simp; done)))) | (first | refine CallN.read id (link_f n cu ps hn a b) (sameOk n cu ps rfl rfl rfl rfl rfl rfl) ?_) | refine LetI.wrap (by omega) (by omega) ?_ | refine LetI.mk _ rfl ?_ | refine LetV.mk (.sc (.int _ _)) rfl ?_ | refine LetV.mk (.sc (.bool _)) rfl ?_ | refine LetV.mk (.sc _) rfl ?_ | refine LetV.mk (.agg _) rfl ?_ | refine LetV.mk (.slm _ _ _ _ _) rfl ?_ | refine LetV.mk (.ro _ _ _) rfl ?_ | refine LetV.mk (.ptr _ _ _ _) rfl ?_ | refine Br.tt rfl ?_ | refine Br.ff rfl ?_ | refine Br.tt (by assumption) ?_ | refine Br.ff (by assumption) ?_ | (refine Br.tt ?_ ?_; · decide +kernel) | (refine Br.ff ?_ ?_; · decide +kernel) | refine Gd.run rfl ?_ | refine Gd.pass rfl ?_ | refine Gd.run (by assumption) ?_ | refine Gd.pass (by assumption) ?_ | (refine Gd.run ?_ ?_; · decide +kernel) | (refine Gd.pass ?_ ?_; · decide +kernel) | refine Gd.both ?_ | refine LetL.mk [_] rfl ?_ | refine LetL.mk _ rfl ?_))); (try (conv => whnf)))
    refine Br.ff ?_ ?_
    · simp; omega
    ((repeat ((conv => whnf); (first | refine Ck.drawn (by kernel_rfl) ?_ | refine Ck.mk rfl ?_ | refine As.mk rfl ?_ | (refine As.mk ?_ ?_; · decide +kernel) | refine As.mk (andT (nor_self _) rfl) ?_ | refine As.mk (andT (nor_self _) (or_t _)) ?_ | refine As.mk (andT (or_t _) (or_nself _)) ?_ | refine As.mk (andT (or_t _) (or_t _)) ?_ | refine As.mk (andT (nor_self _) (andT (nor_self _) rfl)) ?_ | (refine As.mk ?_ ?_; · ((repeat' (refine andT ?_ ?_)) <;> (first | rfl | assumption | exact decide_eq_true (by omega) | exact decide_eq_true (by dsimp only; omega) | exact decide_eq_true (by simp; omega) | (simp; done)))) | (fail) | refine LetI.wrap (by omega) (by omega) ?_ | refine LetI.mk _ rfl ?_ | refine LetV.mk (.sc (.int _ _)) rfl ?_ | refine LetV.mk (.sc (.bool _)) rfl ?_ | refine LetV.mk (.sc _) rfl ?_ | refine LetV.mk (.agg _) rfl ?_ | refine LetV.mk (.slm _ _ _ _ _) rfl ?_ | refine LetV.mk (.ro _ _ _) rfl ?_ | refine LetV.mk (.ptr _ _ _ _) rfl ?_ | refine Br.tt rfl ?_ | refine Br.ff rfl ?_ | refine Br.tt (by assumption) ?_ | refine Br.ff (by assumption) ?_ | (refine Br.tt ?_ ?_; · decide +kernel) | (refine Br.ff ?_ ?_; · decide +kernel) | refine Gd.run rfl ?_ | refine Gd.pass rfl ?_ | refine Gd.run (by assumption) ?_ | refine Gd.pass (by assumption) ?_ | (refine Gd.run ?_ ?_; · decide +kernel) | (refine Gd.pass ?_ ?_; · decide +kernel) | refine Gd.both ?_ | refine LetL.mk [_] rfl ?_ | refine LetL.mk _ rfl ?_))); (try (conv => whnf)))
    refine LoopN.round T_ok mixed rfl ?_
    ((repeat ((conv => whnf); (first | refine Ck.drawn (by kernel_rfl) ?_ | refine Ck.mk rfl ?_ | refine As.mk rfl ?_ | (refine As.mk ?_ ?_; · decide +kernel) | refine As.mk (andT (nor_self _) rfl) ?_ | refine As.mk (andT (nor_self _) (or_t _)) ?_ | refine As.mk (andT (or_t _) (or_nself _)) ?_ | refine As.mk (andT (or_t _) (or_t _)) ?_ | refine As.mk (andT (nor_self _) (andT (nor_self _) rfl)) ?_ | (refine As.mk ?_ ?_; · ((repeat' (refine andT ?_ ?_)) <;> (first | rfl | assumption | exact decide_eq_true (by omega) | exact decide_eq_true (by dsimp only; omega) | exact decide_eq_true (by simp; omega) | (simp; done)))) | (first | refine LetV.mk (t := 53) _ (netcell _ _ _ a0 a8) ?_ | refine LetI.mk (o := some .andNot) _ (bit_not _ b0 b8) ?_ | refine LetI.mk (o := some .or) _ (bit_or _ b0 b8) ?_ | refine LetL.mk (ty := 56) _ (netput _ _ _ a0 a8 _) ?_) | refine LetI.wrap (by omega) (by omega) ?_ | refine LetI.mk _ rfl ?_ | refine LetV.mk (.sc (.int _ _)) rfl ?_ | refine LetV.mk (.sc (.bool _)) rfl ?_ | refine LetV.mk (.sc _) rfl ?_ | refine LetV.mk (.agg _) rfl ?_ | refine LetV.mk (.slm _ _ _ _ _) rfl ?_ | refine LetV.mk (.ro _ _ _) rfl ?_ | refine LetV.mk (.ptr _ _ _ _) rfl ?_ | refine Br.tt rfl ?_ | refine Br.ff rfl ?_ | refine Br.tt (by assumption) ?_ | refine Br.ff (by assumption) ?_ | (refine Br.tt ?_ ?_; · decide +kernel) | (refine Br.ff ?_ ?_; · decide +kernel) | refine Gd.run rfl ?_ | refine Gd.pass rfl ?_ | refine Gd.run (by assumption) ?_ | refine Gd.pass (by assumption) ?_ | (refine Gd.run ?_ ?_; · decide +kernel) | (refine Gd.pass ?_ ?_; · decide +kernel) | refine Gd.both ?_ | refine LetL.mk [_] rfl ?_ | refine LetL.mk _ rfl ?_))); (try (conv => whnf)))
    refine LoopN.round T_ok mixed rfl ?_
    ((repeat ((conv => whnf); (first | refine Ck.drawn (by kernel_rfl) ?_ | refine Ck.mk rfl ?_ | refine As.mk rfl ?_ | (refine As.mk ?_ ?_; · decide +kernel) | refine As.mk (andT (nor_self _) rfl) ?_ | refine As.mk (andT (nor_self _) (or_t _)) ?_ | refine As.mk (andT (or_t _) (or_nself _)) ?_ | refine As.mk (andT (or_t _) (or_t _)) ?_ | refine As.mk (andT (nor_self _) (andT (nor_self _) rfl)) ?_ | (refine As.mk ?_ ?_; · ((repeat' (refine andT ?_ ?_)) <;> (first | rfl | assumption | exact decide_eq_true (by omega) | exact decide_eq_true (by dsimp only; omega) | exact decide_eq_true (by simp; omega) | (simp; done)))) | (first | refine LetV.mk (t := 53) _ (netcell _ _ _ b0 b8) ?_ | refine LetI.mk (o := some .andNot) _ (bit_not _ a0 a8) ?_ | refine LetI.mk (o := some .or) _ (bit_or _ a0 a8) ?_ | refine LetL.mk (ty := 56) _ (netput _ _ _ b0 b8 _) ?_) | refine LetI.wrap (by omega) (by omega) ?_ | refine LetI.mk _ rfl ?_ | refine LetV.mk (.sc (.int _ _)) rfl ?_ | refine LetV.mk (.sc (.bool _)) rfl ?_ | refine LetV.mk (.sc _) rfl ?_ | refine LetV.mk (.agg _) rfl ?_ | refine LetV.mk (.slm _ _ _ _ _) rfl ?_ | refine LetV.mk (.ro _ _ _) rfl ?_ | refine LetV.mk (.ptr _ _ _ _) rfl ?_ | refine Br.tt rfl ?_ | refine Br.ff rfl ?_ | refine Br.tt (by assumption) ?_ | refine Br.ff (by assumption) ?_ | (refine Br.tt ?_ ?_; · decide +kernel) | (refine Br.ff ?_ ?_; · decide +kernel) | refine Gd.run rfl ?_ | refine Gd.pass rfl ?_ | refine Gd.run (by assumption) ?_ | refine Gd.pass (by assumption) ?_ | (refine Gd.run ?_ ?_; · decide +kernel) | (refine Gd.pass ?_ ?_; · decide +kernel) | refine Gd.both ?_ | refine LetL.mk [_] rfl ?_ | refine LetL.mk _ rfl ?_))); (try (conv => whnf)))
    refine LoopN.round T_ok mixed rfl ?_
    ((repeat ((conv => whnf); (first | refine Ck.drawn (by kernel_rfl) ?_ | refine Ck.mk rfl ?_ | refine As.mk rfl ?_ | (refine As.mk ?_ ?_; · decide +kernel) | refine As.mk (andT (nor_self _) rfl) ?_ | refine As.mk (andT (nor_self _) (or_t _)) ?_ | refine As.mk (andT (or_t _) (or_nself _)) ?_ | refine As.mk (andT (or_t _) (or_t _)) ?_ | refine As.mk (andT (nor_self _) (andT (nor_self _) rfl)) ?_ | (refine As.mk ?_ ?_; · ((repeat' (refine andT ?_ ?_)) <;> (first | rfl | assumption | exact decide_eq_true (by omega) | exact decide_eq_true (by dsimp only; omega) | exact decide_eq_true (by simp; omega) | (simp; done)))) | (fail) | refine LetI.wrap (by omega) (by omega) ?_ | refine LetI.mk _ rfl ?_ | refine LetV.mk (.sc (.int _ _)) rfl ?_ | refine LetV.mk (.sc (.bool _)) rfl ?_ | refine LetV.mk (.sc _) rfl ?_ | refine LetV.mk (.agg _) rfl ?_ | refine LetV.mk (.slm _ _ _ _ _) rfl ?_ | refine LetV.mk (.ro _ _ _) rfl ?_ | refine LetV.mk (.ptr _ _ _ _) rfl ?_ | refine Br.tt rfl ?_ | refine Br.ff rfl ?_ | refine Br.tt (by assumption) ?_ | refine Br.ff (by assumption) ?_ | (refine Br.tt ?_ ?_; · decide +kernel) | (refine Br.ff ?_ ?_; · decide +kernel) | refine Gd.run rfl ?_ | refine Gd.pass rfl ?_ | refine Gd.run (by assumption) ?_ | refine Gd.pass (by assumption) ?_ | (refine Gd.run ?_ ?_; · decide +kernel) | (refine Gd.pass ?_ ?_; · decide +kernel) | refine Gd.both ?_ | refine LetL.mk [_] rfl ?_ | refine LetL.mk _ rfl ?_))); (try (conv => whnf)))
    exact ⟨.inl rfl, ⟨_, rfl, rfl⟩, rfl, rfl, trivial⟩
end
end Nt
end Go.Proofs.Ytcfokhkdphodoaa
