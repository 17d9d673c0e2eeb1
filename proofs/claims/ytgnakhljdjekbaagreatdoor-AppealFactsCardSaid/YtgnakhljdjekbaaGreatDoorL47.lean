/- appealZD: parts of the proof, DappealZDUM DappealZDUN DappealZDTH DappealZDTI DappealZDTC DappealZDTJ DappealZDUO DappealZDUP DappealZDTS DappealZDTK DappealZDTL DappealZDTV. -/
import Derived.Test.YtgnakhljdjekbaaGreatDoorL46
import Derived.Sort.Walk13a
import Derived.Test.YtgnakhljdjekbaaGreatDoorL42
import Derived.Lib.ItoaNum
import Derived.Lib.Join
import Derived.Test.YtgnakhljdjekbaaGreatDoorL35
import Derived.Room.Shelf.Join48
import Derived.Shelf.Strconv.Itoa3
import Derived.Lib.ItoaLen
import Derived.Test.YtgnakhljdjekbaaGreatDoorAmRX
import Derived.LaidMore
import Derived.LaidHandle
import Derived.OpenShut
import Derived.Stop.Joined
import Derived.ProofKit
set_option linter.all false
namespace Go.Proofs.YtgnakhljdjekbaaGreatDoor
open Go.Proofs.YtgnakhljdjekbaaGreatDoor.Am
set_option maxRecDepth 100000
namespace En
/-! ### pdqsort of up to 16 facts -/
theorem swoF : Sort.SWO ltF where
  irrefl x := ltF_irr x
  trans x y z h1 h2 := by
    cases h : ltF x z with
    | true => rfl
    | false =>
      have h3 := ord_F.asym _ _ h2
      rw [ord_F.trans _ _ _ h h3] at h1
      cases h1
  ntrans x y z h1 h2 := ord_F.trans _ _ _ h1 h2
theorem rd_c1 {D : Array Fa} {a b limit : Nat} {wb wp : Bool} (h : 8 ≤ b - a) (h2 : b - a < 50) :
    (Sort.rd ltF D a b limit wb wp).c = ((chv (Sort.rd ltF D a b limit wb wp).d1 a b).1, if (chv (Sort.rd ltF D a b limit wb wp).d1 a b).2 = 0 then .increasing else .unknown) := by
  rw [Sort.rd_c, choose_eq _ h h2]
theorem rd_nd {D : Array Fa} {a b limit : Nat} {wb wp : Bool} (h : 8 ≤ b - a) (h2 : b - a < 50) : (Sort.rd ltF D a b limit wb wp).c.2 ≠ .decreasing := by
  rw [rd_c1 h h2]
  dsimp only
  split <;> intro h <;> cases h
/-- What a round does ahead of the partition, for 13 to 49 facts. -/
theorem rd_pi {D : Array Fa} {a b limit : Nat} {wb wp : Bool} (h : 8 ≤ b - a) (h2 : b - a < 50) :
    (Sort.rd ltF D a b limit wb wp).pi = ((Sort.rd ltF D a b limit wb wp).d1, wb && wp && decide ((chv (Sort.rd ltF D a b limit wb wp).d1 a b).2 = 0) && decide (Sort.scanSorted ltF (Sort.rd ltF D a b limit wb wp).d1 b (a + 1) = b)) ∧
    (Sort.rd ltF D a b limit wb wp).pivot = (chv (Sort.rd ltF D a b limit wb wp).d1 a b).1 := by
  obtain ⟨e1, e2, e3⟩ := Sort.rd_not (rd_nd (D := D) (limit := limit) (wb := wb) (wp := wp) h h2)
  have hc := rd_c1 (D := D) (limit := limit) (wb := wb) (wp := wp) h h2
  refine ⟨?_, by rw [e2, hc]⟩
  have hh : decide ((Sort.rd ltF D a b limit wb wp).hint = .increasing) = decide ((chv (Sort.rd ltF D a b limit wb wp).d1 a b).2 = 0) := by
    rw [e3, hc, decide_eq_decide]
    dsimp only
    split
    · rename_i h; exact ⟨fun _ => h, fun _ => rfl⟩
    · rename_i h; exact ⟨fun g => (by cases g), fun g => absurd g h⟩
  cases hb : (wb && wp && decide ((Sort.rd ltF D a b limit wb wp).hint = .increasing)) with
  | true => rw [Sort.rd_pi_yes hb, e1, partial_small _ _ _ h2, ← hh, hb, Bool.true_and]
  | false => rw [Sort.rd_pi_no hb, e1, ← hh, hb, Bool.false_and]
abbrev pqS (n : Nat) (fl : Fl) (a b limit : Nat) (wb wp : Bool) (D : Array Fa) : AS := ⟨[(0, .slm fl 0 7 0 n), (1, int a), (2, int b), (3, int limit), (4, cmpC), (10, bool wb), (11, bool wp)], [(0, rwD D)], 1⟩
abbrev pqT (n : Nat) (fl : Fl) (a b limit : Nat) (wb wp : Bool) (l : Nat) (D : Array Fa) : AS := ⟨[(0, .slm fl 0 7 0 n), (1, int a), (2, int b), (3, int limit), (4, cmpC), (10, bool wb), (11, bool wp), (12, int l)], [(0, rwD D)], 1⟩
abbrev pqU (n : Nat) (fl : Fl) (a b limit : Nat) (wb wp : Bool) (l c : Nat) (hint : Int) (D : Array Fa) : AS := ⟨[(0, .slm fl 0 7 0 n), (1, int a), (2, int b), (3, int limit), (4, cmpC), (10, bool wb), (11, bool wp), (12, int l), (13, int c), (14, int hint)], [(0, rwD D)], 1⟩
abbrev pqV (n : Nat) (fl : Fl) (a b limit : Nat) (wb wp : Bool) (l c : Nat) (D : Array Fa) : AS := ⟨[(0, .slm fl 0 7 0 n), (1, int a), (2, int b), (3, int limit), (4, cmpC), (10, bool wb), (11, bool wp), (12, int l), (13, int c)], [(0, rwD D)], 1⟩
abbrev pqW (n : Nat) (fl : Fl) (a b limit : Nat) (wp : Bool) (l mid : Nat) (ap : Bool) (D : Array Fa) : AS := ⟨[(0, .slm fl 0 7 0 n), (1, int a), (2, int b), (3, int limit), (4, cmpC), (11, bool wp), (12, int l), (16, int mid), (17, bool ap)], [(0, rwD D)], 1⟩
structure PQ (n a b limit : Nat) (D : Array Fa) : Prop where
  ab : a ≤ b
  bn : b ≤ n
  sz : D.size = n
  len : b - a ≤ 16
  lim : b - a ≤ 12 + limit
  bel : Sort.Below ltF a b D
set_option maxHeartbeats 6400000 in
set_option maxRecDepth 100000 in
theorem Gpdq_f (n : Nat) (fl : Fl) (hn : n ≤ 1000) : ∀ (N a b limit : Nat) (D : Array Fa), b - a < N → limit ≤ 10 → PQ n a b limit D → AFun Tryz.prog 93 1 [.slm fl 0 7 0 n, int a, int b, int limit, cmpC] [(0, rwD D)] (.tup []) [(0, rwD (Sort.pdq ltF D a b limit true true))] := by
  intro N
  induction N with
  | zero => intro a b limit D h; exact absurd h (Nat.not_lt_zero _)
  | succ N IH =>
  intro a0 b0 limit0 D0 hN hlim hq0
  obtain ⟨R, hR⟩ : ∃ R, Sort.pdq ltF D0 a0 b0 limit0 true true = R := ⟨_, rfl⟩
  rw [hR]
  refine AFun.of_VS T_ok Tryz.func93 rfl (Nat.le_of_ble_eq_true rfl) ?_
  refine VS.cut T_ok mixed rfl ?_
  ((repeat ((conv => whnf); (first | (refine As.pre ?_; first | refine As.mk rfl ?_) | (refine Ck.pre ?_; first | refine Ck.mk rfl ?_)))); (try (conv => whnf)))
  refine VS.cut T_ok mixed rfl ?_
  ((repeat ((conv => whnf); (first | (refine As.pre ?_; first | refine As.mk rfl ?_) | (refine Ck.pre ?_; first | refine Ck.mk rfl ?_)))); (try (conv => whnf)))
  refine VS.block (VS.loop ?_)
  refine LoopN.weak (s1 := pqS n fl a0 b0 limit0 true true D0) ?sw0 ?_
  case sw0 => exact SW.mk id rfl rfl (namesAll.row (pure_fa _) rfl) ⟨.refl _, .refl _, .refl _, .refl _, .refl _, .refl _, .refl _, trivial⟩ (haveV.row (pure_fa _) rfl trivial)
  refine LoopN.indS (S := fun v : Nat × Nat × Nat × Bool × Bool × Array Fa => pqS n fl v.1 v.2.1 v.2.2.1 v.2.2.2.1 v.2.2.2.2.1 v.2.2.2.2.2) (fun v => v.2.1 - v.1) (fun v => v.2.1 - v.1 < N + 1 ∧ v.2.2.1 ≤ 10 ∧ PQ n v.1 v.2.1 v.2.2.1 v.2.2.2.2.2 ∧ Sort.pdq ltF v.2.2.2.2.2 v.1 v.2.1 v.2.2.1 v.2.2.2.1 v.2.2.2.2.1 = R) (fun v hv ih => ?_) (a0, b0, limit0, true, true, D0) ⟨hN, hlim, hq0, hR⟩
  clear hN hlim hq0 hR
  obtain ⟨a, b, limit, wb, wp, D⟩ := v
  obtain ⟨hN, hlim, hq, hR⟩ := hv
  dsimp only at hN hlim hq hR ih
  obtain ⟨q1, q2, q3, q4, q5, q6⟩ := hq
  refine VS.block ?_
  refine VS.weak (s1 := pqS n fl a b limit wb wp D) SW.refl ?_
  by_cases h12 : b - a ≤ 12
  · have hI := Ginsertion_f D a b fl (by omega) q1 (by omega)
    rw [Sort.pdq_small h12] at hR
    rw [q3, hR] at hI
    clear ih IH
    have w0 : ((b - a : Nat) : Int) = IntKind.i64.wrap ((b : Int) - a) := by rw [wrap_id (by omega) (by omega)]; omega
    refine VS.cut T_ok mixed rfl ?_
    ((repeat ((conv => whnf); (first | (refine As.pre ?_; first | refine As.mk rfl ?_) | (refine LetI.pre ?_; first | refine LetI.mk (o := some .sub) ((b - a : Nat) : Int) w0 ?_) | (refine Ck.pre ?_; first | refine Ck.mk rfl ?_)))); (try (conv => whnf)))
    refine VS.cut T_ok mixed rfl ?_
    ((repeat ((conv => whnf); (first | (refine LetN.pre ?_; first | ((conv => arg 1; whnf); refine LetN.mk ?_)) | (refine As.pre ?_; first | refine As.mk rfl ?_) | (refine LetB.pre ?_; first | refine LetB.dect (by omega) ?_) | (refine Br.pre ?_; first | refine Br.tt rfl ?_) | (refine Ck.pre ?_; first | refine Ck.mk rfl ?_) | (refine LetL.pre ?_; first | refine LetL.mk _ rfl ?_) | (refine CallN.pre ?_; first | refine CallN.own id hI (CallOk.mk' rfl rfl rfl (namesAll.row (pure_fa _) rfl) rfl (namesAll.row (pure_fa _) rfl) (haveAll.row (pure_fa _) rfl trivial)) ?_)))); (try (conv => whnf)))

    exact ⟨⟨[], [(0, rwD R)], 1⟩, SW.mk id rfl rfl (namesAll.row (pure_fa _) rfl) trivial (haveV.row (pure_fa _) (congrArg (fun x => some (Blk.row 7 fty x)) (renL_none (pure_fa _))) trivial), .inl rfl, ⟨_, rfl, rfl⟩, rfl, trivial⟩
  obtain ⟨l, hl⟩ : ∃ l, l = b - a := ⟨_, rfl⟩
  have w0 : (l : Int) = IntKind.i64.wrap ((b : Int) - a) := by rw [wrap_id (by omega) (by omega)]; omega
  refine VS.cut T_ok mixed rfl ?_
  ((repeat ((conv => whnf); (first | (refine As.pre ?_; first | refine As.mk rfl ?_) | (refine LetI.pre ?_; first | refine LetI.mk (o := some .sub) (l : Int) w0 ?_) | (refine Ck.pre ?_; first | refine Ck.mk rfl ?_)))); (try (conv => whnf)))
  refine VS.weak (s1 := pqT n fl a b limit wb wp l D) ?sw1 ?_
  case sw1 => exact SW.mk id rfl rfl (namesAll.row (pure_fa _) rfl) ⟨.refl _, .refl _, .refl _, .refl _, .refl _, .refl _, .refl _, .refl _, trivial⟩ (haveV.row (pure_fa _) rfl trivial)
  refine VS.cut T_ok mixed rfl ?_
  ((repeat ((conv => whnf); (first | (refine As.pre ?_; first | refine As.mk rfl ?_) | (refine LetB.pre ?_; first | refine LetB.decf (by omega) ?_) | (refine Br.pre ?_; first | refine Br.ff rfl ?_) | (refine Ck.pre ?_; first | refine Ck.mk rfl ?_)))); (try (conv => whnf)))
  refine VS.cut T_ok mixed rfl ?_
  ((repeat ((conv => whnf); (first | (refine As.pre ?_; first | refine As.mk rfl ?_) | (refine LetB.pre ?_; first | refine LetB.decf (by omega) ?_) | (refine Br.pre ?_; first | refine Br.ff rfl ?_) | (refine Ck.pre ?_; first | refine Ck.mk rfl ?_)))); (try (conv => whnf)))
  have h8 : 8 ≤ b - a := by omega
  have h50 : b - a < 50 := by omega
  have hl0 : ¬ limit = 0 := by omega
  obtain ⟨hpi, hpv⟩ := rd_pi (D := D) (a := a) (b := b) (limit := limit) (wb := wb) (wp := wp) h8 h50
  have hfacts := Sort.rd_facts (d := D) (a := a) (b := b) (limit := limit) (wb := wb) (wp := wp) swoF Sort.partialInsertionSort_holds Sort.reverseRange_holds (by omega) (by omega) q6
  have hbk := Gbreak_f D a b fl (by omega) ⟨by omega, by omega⟩ (by omega)
  rw [q3] at hbk
  refine VS.joinN (fun _ : Unit => pqT n fl a b (Sort.rd ltF D a b limit wb wp).lim wb wp l (Sort.rd ltF D a b limit wb wp).d1) (fun _ => True) ?_ ?_
  case refine_1 =>
    clear ih IH hfacts hpi hpv
    cases wb with
    | true =>
      refine VS.of_V T_ok mixed rfl ?_
      ((repeat ((conv => whnf); (first | (refine As.pre ?_; first | refine As.mk rfl ?_) | (refine Br.pre ?_; first | refine Br.ff rfl ?_) | (refine Ck.pre ?_; first | refine Ck.mk rfl ?_)))); (try (conv => whnf)))
      exact ⟨rfl, (), trivial, SW.mk id rfl rfl (namesAll.row (pure_fa _) rfl) ⟨.refl _, .refl _, .refl _, .refl _, .refl _, .refl _, .refl _, .refl _, trivial⟩ (haveV.row (pure_fa _) rfl trivial)⟩
    | false =>
      refine VS.of_V T_ok mixed rfl ?_
      ((repeat ((conv => whnf); (first | (refine LetN.pre ?_; first | ((conv => arg 1; whnf); refine LetN.mk ?_)) | (refine As.pre ?_; first | refine As.mk rfl ?_) | (refine LetI.pre ?_; first | refine LetI.wrap (by omega) (by omega) ?_) | (refine Br.pre ?_; first | refine Br.tt rfl ?_) | (refine Ck.pre ?_; first | refine Ck.mk rfl ?_) | (refine LetL.pre ?_; first | refine LetL.mk _ rfl ?_) | (refine CallN.pre ?_; first | refine CallN.own id hbk (CallOk.mk' rfl rfl rfl (namesAll.row (pure_fa _) rfl) rfl (namesAll.row (pure_fa _) rfl) (haveAll.row (pure_fa _) rfl trivial)) ?_)))); (try (conv => whnf)))

      exact ⟨rfl, (), trivial, SW.mk id rfl rfl (namesAll.row (pure_fa _) rfl) ⟨.refl _, .refl _, .refl _, VLe2.int (by show ((limit - 1 : Nat) : Int) = (limit : Int) - 1; omega), .refl _, .refl _, .refl _, .refl _, trivial⟩ (haveV.row (pure_fa _) (congrArg (fun x => some (Blk.row 7 fty x)) (renL_none (pure_fa _))) trivial)⟩
  rintro _ -
  clear hbk
  obtain ⟨f1, f2, -, -, -, -, -, -⟩ := hfacts
  have hlm : (Sort.rd ltF D a b limit wb wp).lim ≤ limit ∧ limit ≤ (Sort.rd ltF D a b limit wb wp).lim + 1 := by
    refine ⟨Sort.rd_lim_le, ?_⟩
    show limit ≤ (if (!wb) = true then limit - 1 else limit) + 1
    split <;> omega
  rw [Sort.pdq_unfold, if_neg h12, if_neg hl0, hpi, hpv] at hR
  clear hpi hpv
  dsimp only at hR
  generalize (Sort.rd ltF D a b limit wb wp).d1 = D1 at f1 f2 hR ⊢
  generalize (Sort.rd ltF D a b limit wb wp).lim = lm at hlm hR ⊢
  rw [q3] at f1
  have hch := Gchoose_f D1 a b fl (by omega) h8 h50 (by omega)
  have hci := chv_in D1 h8
  rw [f1] at hch
  generalize chv D1 a b = ch at hch hci hR
  obtain ⟨c, sw⟩ := ch
  dsimp only at hch hci hR
  obtain ⟨hint, hh⟩ : ∃ h : Int, h = if sw = 0 then 1 else 0 := ⟨_, rfl⟩
  rw [← hh] at hch
  have hh2 : ¬ hint = 2 := by rw [hh]; split <;> decide
  have hh1 : hint = 1 ↔ sw = 0 := by
    rw [hh]
    constructor
    · intro h; by_cases g : sw = 0
      · exact g
      · rw [if_neg g] at h; cases h
    · intro h; rw [if_pos h]
  clear hh
  refine VS.cut T_ok mixed rfl ?_
  ((repeat ((conv => whnf); (first | (refine LetN.pre ?_; first | ((conv => arg 1; whnf); refine LetN.mk ?_)) | (refine As.pre ?_; first | refine As.mk rfl ?_) | (refine Ck.pre ?_; first | refine Ck.mk rfl ?_) | (refine LetL.pre ?_; first | refine LetL.mk _ rfl ?_) | (refine CallN.pre ?_; first | refine CallN.own id hch (CallOk.mk' rfl rfl rfl (namesAll.row (pure_fa _) rfl) rfl (namesAll.row (pure_fa _) rfl) (haveAll.row (pure_fa _) rfl trivial)) ?_)))); (try (conv => whnf)))

  refine VS.weak (s1 := pqU n fl a b lm wb wp l c hint D1) ?sw2 ?_
  case sw2 => exact SW.mk id rfl rfl (namesAll.row (pure_fa _) rfl) ⟨.refl _, .refl _, .refl _, .refl _, .refl _, .refl _, .refl _, .refl _, .refl _, .refl _, trivial⟩ (haveV.row (pure_fa _) (congrArg (fun x => some (Blk.row 7 fty x)) (renL_none (pure_fa _))) trivial)
  clear hch
  refine VS.cut T_ok mixed rfl ?_
  ((repeat ((conv => whnf); (first | (refine As.pre ?_; first | refine As.mk rfl ?_) | (refine LetB.pre ?_; first | refine LetB.decf (by omega) ?_) | (refine Br.pre ?_; first | refine Br.ff rfl ?_) | (refine Ck.pre ?_; first | refine Ck.mk rfl ?_)))); (try (conv => whnf)))
  have hpa := Gpartial_f D1 a b fl (by omega) (by omega) (by omega) h50
  rw [f1] at hpa
  obtain ⟨srt, hsr⟩ : ∃ x, x = decide (Sort.scanSorted ltF D1 b (a + 1) = b) := ⟨_, rfl⟩
  rw [← hsr] at hpa hR
  clear hsr
  have hdn : (wb && wp && decide (sw = 0) && srt) = true ∨ (wb && wp && decide (sw = 0) && srt) = false := by
    cases (wb && wp && decide (sw = 0) && srt) with
    | true => exact .inl rfl
    | false => exact .inr rfl
  rcases hdn with hdn | hdn
  · rw [hdn, if_pos rfl] at hR
    simp only [Bool.and_eq_true, decide_eq_true_eq] at hdn
    obtain ⟨⟨⟨rfl, rfl⟩, g3⟩, rfl⟩ := hdn
    have g4 := hh1.2 g3
    subst g4
    subst hR
    clear ih IH
    refine VS.cut T_ok mixed rfl ?_
    ((repeat ((conv => whnf); (first | (refine LetN.pre ?_; first | ((conv => arg 1; whnf); refine LetN.mk ?_)) | (refine As.pre ?_; first | refine As.mk rfl ?_) | (refine LetB.pre ?_; first | refine LetB.tt rfl ?_) | (refine Gd.pre ?_; first | refine Gd.run rfl ?_) | (refine Br.pre ?_; first | refine Br.tt rfl ?_) | (refine Ck.pre ?_; first | refine Ck.mk rfl ?_) | (refine LetL.pre ?_; first | refine LetL.mk _ rfl ?_) | (refine CallN.pre ?_; first | refine CallN.own id hpa (CallOk.mk' rfl rfl rfl (namesAll.row (pure_fa _) rfl) rfl (namesAll.row (pure_fa _) rfl) (haveAll.row (pure_fa _) rfl trivial)) ?_)))); (try (conv => whnf)))

    exact ⟨⟨[], [(0, rwD D1)], 1⟩, SW.mk id rfl rfl (namesAll.row (pure_fa _) rfl) trivial (haveV.row (pure_fa _) (congrArg (fun x => some (Blk.row 7 fty x)) (renL_none (pure_fa _))) trivial), .inl rfl, ⟨_, rfl, rfl⟩, rfl, trivial⟩
  rw [hdn, if_neg Bool.false_ne_true] at hR
  refine VS.joinN (fun _ : Unit => pqV n fl a b lm wb wp l c D1) (fun _ => True) ?_ ?_
  case refine_1 =>
    clear ih IH hR
    cases wb with
    | false =>
      refine VS.of_V T_ok mixed rfl ?_
      ((repeat ((conv => whnf); (first | (refine As.pre ?_; first | refine As.mk rfl ?_) | (refine Gd.pre ?_; first | refine Gd.pass rfl ?_) | (refine Br.pre ?_; first | refine Br.ff rfl ?_) | (refine Ck.pre ?_; first | refine Ck.mk rfl ?_)))); (try (conv => whnf)))
      exact ⟨rfl, (), trivial, SW.mk id rfl rfl (namesAll.row (pure_fa _) rfl) ⟨.refl _, .refl _, .refl _, .refl _, .refl _, .refl _, .refl _, .refl _, .refl _, trivial⟩ (haveV.row (pure_fa _) rfl trivial)⟩
    | true =>
    cases wp with
    | false =>
      refine VS.of_V T_ok mixed rfl ?_
      ((repeat ((conv => whnf); (first | (refine As.pre ?_; first | refine As.mk rfl ?_) | (refine Gd.pre ?_; first | refine Gd.run rfl ?_ | refine Gd.pass rfl ?_) | (refine Br.pre ?_; first | refine Br.ff rfl ?_) | (refine Ck.pre ?_; first | refine Ck.mk rfl ?_)))); (try (conv => whnf)))
      exact ⟨rfl, (), trivial, SW.mk id rfl rfl (namesAll.row (pure_fa _) rfl) ⟨.refl _, .refl _, .refl _, .refl _, .refl _, .refl _, .refl _, .refl _, .refl _, trivial⟩ (haveV.row (pure_fa _) rfl trivial)⟩
    | true =>
      by_cases g1 : hint = 1
      · have g2 := hh1.1 g1
        rw [g2] at hdn
        have g3 : srt = false := hdn
        subst g3
        refine VS.of_V T_ok mixed rfl ?_
        ((repeat ((conv => whnf); (first | (refine LetN.pre ?_; first | ((conv => arg 1; whnf); refine LetN.mk ?_)) | (refine As.pre ?_; first | refine As.mk rfl ?_) | (refine LetB.pre ?_; first | refine LetB.dect (by omega) ?_) | (refine Gd.pre ?_; first | refine Gd.run rfl ?_) | (refine Br.pre ?_; first | refine Br.tt rfl ?_ | refine Br.ff rfl ?_) | (refine Ck.pre ?_; first | refine Ck.mk rfl ?_) | (refine LetL.pre ?_; first | refine LetL.mk _ rfl ?_) | (refine CallN.pre ?_; first | refine CallN.own id hpa (CallOk.mk' rfl rfl rfl (namesAll.row (pure_fa _) rfl) rfl (namesAll.row (pure_fa _) rfl) (haveAll.row (pure_fa _) rfl trivial)) ?_)))); (try (conv => whnf)))
        exact ⟨rfl, (), trivial, SW.mk id rfl rfl (namesAll.row (pure_fa _) rfl) ⟨.refl _, .refl _, .refl _, .refl _, .refl _, .refl _, .refl _, .refl _, .refl _, trivial⟩ (haveV.row (pure_fa _) (congrArg (fun x => some (Blk.row 7 fty x)) (renL_none (pure_fa _))) trivial)⟩
      · refine VS.of_V T_ok mixed rfl ?_
        ((repeat ((conv => whnf); (first | (refine As.pre ?_; first | refine As.mk rfl ?_) | (refine LetB.pre ?_; first | refine LetB.decf (by omega) ?_) | (refine Gd.pre ?_; first | refine Gd.run rfl ?_) | (refine Br.pre ?_; first | refine Br.ff rfl ?_) | (refine Ck.pre ?_; first | refine Ck.mk rfl ?_)))); (try (conv => whnf)))
        exact ⟨rfl, (), trivial, SW.mk id rfl rfl (namesAll.row (pure_fa _) rfl) ⟨.refl _, .refl _, .refl _, .refl _, .refl _, .refl _, .refl _, .refl _, .refl _, trivial⟩ (haveV.row (pure_fa _) rfl trivial)⟩
  rintro _ -
  clear hpa hdn hh1 hh2
  have hm := sizeD D1
  by_cases ht : (decide (a > 0) && !ltF D1[a - 1]! D1[c]!) = true
  · rw [if_pos ht] at hR
    simp only [Bool.and_eq_true, decide_eq_true_eq, Bool.not_eq_true'] at ht
    obtain ⟨ha0, hnl⟩ := ht
    have hpe := Gpeq_f D1 a b c fl (by omega) hci.1 hci.2.1 (by omega)
    rw [f1] at hpe
    obtain ⟨⟨mid, D2⟩, hx⟩ : ∃ r, Sort.partitionEqual ltF D1 a b c = r := ⟨_, rfl⟩
    obtain ⟨e1, e2, e3, e4, -⟩ := Sort.round_eq swoF (Sort.partitionEqual_holds ltF) ha0 hci.1 hci.2.1 (by omega) f2 hnl hx
    rw [hx] at hR hpe
    dsimp only at hR hpe
    rw [if_pos ⟨e1, e2⟩] at hR
    have hnx := ih (mid, b, lm, wb, wp, D2) ⟨by dsimp only; omega, by dsimp only; omega, ⟨e2, q2, by rw [e3]; exact f1, by dsimp only; omega, by dsimp only; omega, e4⟩, hR⟩ (by show b - mid < b - a; omega)
    clear ih IH hR hx
    obtain ⟨a1, rfl⟩ : ∃ k, a = k + 1 := ⟨a - 1, by omega⟩
    have hld1 := ldD (D := D1) (i := a1) (by omega)
    have hld2 := ldD (D := D1) (i := c) (by omega)
    have hsub := wrapN a1 (by omega)
    have hcmp := compareF_f D1[a1]! D1[c]!
    rw [Nat.add_sub_cancel] at hnl
    unfold ltF at hnl
    generalize D1[a1]! = x at hld1 hcmp hnl
    generalize D1[c]! = y at hld2 hcmp hnl
    generalize cmpF x y = r at hcmp hnl
    have hr : ¬ r < 0 := of_decide_eq_false hnl
    refine VS.cut T_ok mixed rfl ?_
    ((repeat ((conv => whnf); (first | (refine LetN.pre ?_; first | ((conv => arg 1; whnf); refine LetN.mk ?_)) | (refine As.pre ?_; first | refine As.mk rfl ?_ | (refine As.mk ?_ ?_; · ((repeat' (refine andT ?_ ?_)) <;> (first | rfl | assumption | exact decide_eq_true (by omega) | exact decide_eq_true (by dsimp only; omega) | exact decide_eq_true (by simp; omega) | (simp; done))))) | (refine LetV.pre ?_; first | refine LetV.mk (t := fty) _ hld1 ?_ | refine LetV.mk (t := fty) _ hld2 ?_) | (refine LetI.pre ?_; first | refine LetI.mk (o := some .sub) (a1 : Int) hsub ?_) | (refine LetB.pre ?_; first | refine LetB.ff (by assumption) ?_ | refine LetB.dect (by omega) ?_) | (refine Gd.pre ?_; first | refine Gd.run rfl ?_) | (refine Br.pre ?_; first | refine Br.tt rfl ?_) | (refine Ck.pre ?_; first | refine Ck.drawn (by kernel_rfl) ?_ | refine Ck.mk rfl ?_) | (refine LetL.pre ?_; first | refine LetL.mk _ rfl ?_) | (refine CallN.pre ?_; first | refine CallN.pure hcmp rfl rfl ?_ | refine CallN.own id hpe (CallOk.mk' rfl rfl rfl (namesAll.row (pure_fa _) rfl) rfl (namesAll.row (pure_fa _) rfl) (haveAll.row (pure_fa _) rfl trivial)) ?_)))); (try (conv => whnf)))





    refine LoopN.weak ?sw5 hnx
    case sw5 => exact SW.mk id rfl rfl (namesAll.row (pure_fa _) rfl) ⟨.refl _, .refl _, .refl _, .refl _, .refl _, .refl _, .refl _, trivial⟩ (haveV.row (pure_fa _) (congrArg (fun x => some (Blk.row 7 fty x)) (renL_none (pure_fa _))) trivial)
  rw [if_neg ht] at hR
  refine VS.joinN (fun _ : Unit => pqV n fl a b lm wb wp l c D1) (fun _ => True) ?_ ?_
  case refine_1 =>
    clear ih IH hR
    by_cases ha0 : a = 0
    · subst ha0
      refine VS.of_V T_ok mixed rfl ?_
      ((repeat ((conv => whnf); (first | (refine As.pre ?_; first | refine As.mk rfl ?_) | (refine LetB.pre ?_; first | refine LetB.ff rfl ?_) | (refine Gd.pre ?_; first | refine Gd.pass rfl ?_) | (refine Br.pre ?_; first | refine Br.ff rfl ?_) | (refine Ck.pre ?_; first | refine Ck.drawn (by kernel_rfl) ?_ | refine Ck.mk rfl ?_)))); (try (conv => whnf)))
      exact ⟨rfl, (), trivial, SW.mk id rfl rfl (namesAll.row (pure_fa _) rfl) ⟨.refl _, .refl _, .refl _, .refl _, .refl _, .refl _, .refl _, .refl _, .refl _, trivial⟩ (haveV.row (pure_fa _) rfl trivial)⟩
    obtain ⟨a1, rfl⟩ : ∃ k, a = k + 1 := ⟨a - 1, by omega⟩
    have hld1 := ldD (D := D1) (i := a1) (by omega)
    have hld2 := ldD (D := D1) (i := c) (by omega)
    have hsub := wrapN a1 (by omega)
    have hcmp := compareF_f D1[a1]! D1[c]!
    rw [Nat.add_sub_cancel] at ht
    unfold ltF at ht
    generalize D1[a1]! = x at hld1 hcmp ht
    generalize D1[c]! = y at hld2 hcmp ht
    generalize cmpF x y = r at hcmp ht
    have hr : r < 0 := by
      by_cases g : r < 0
      · exact g
      · exact absurd (by simp [g]) ht
    refine VS.of_V T_ok mixed rfl ?_
    ((repeat ((conv => whnf); (first | (refine As.pre ?_; first | refine As.mk rfl ?_ | (refine As.mk ?_ ?_; · ((repeat' (refine andT ?_ ?_)) <;> (first | rfl | assumption | exact decide_eq_true (by omega) | exact decide_eq_true (by dsimp only; omega) | exact decide_eq_true (by simp; omega) | (simp; done))))) | (refine LetV.pre ?_; first | refine LetV.mk (t := fty) _ hld1 ?_ | refine LetV.mk (t := fty) _ hld2 ?_) | (refine LetI.pre ?_; first | refine LetI.mk (o := some .sub) (a1 : Int) hsub ?_) | (refine LetB.pre ?_; first | refine LetB.dect (by omega) ?_) | (refine Gd.pre ?_; first | refine Gd.run rfl ?_) | (refine Br.pre ?_; first | refine Br.ff rfl ?_) | (refine Ck.pre ?_; first | refine Ck.drawn (by kernel_rfl) ?_ | refine Ck.mk rfl ?_) | (refine CallN.pre ?_; first | refine CallN.pure hcmp rfl rfl ?_)))); (try (conv => whnf)))




    exact ⟨rfl, (), trivial, SW.mk id rfl rfl (namesAll.row (pure_fa _) rfl) ⟨.refl _, .refl _, .refl _, .refl _, .refl _, .refl _, .refl _, .refl _, .refl _, trivial⟩ (haveV.row (pure_fa _) rfl trivial)⟩
  rintro _ -
  clear ht hm
  have hpt := Gpartition_f D1 a b c fl (by omega) hci.1 hci.2.1 (by omega)
  rw [f1] at hpt
  obtain ⟨⟨mid, ap, D2⟩, hx⟩ : ∃ r, Sort.partition ltF D1 a b c = r := ⟨_, rfl⟩
  obtain ⟨e1, e2, e3, e4, e5, e6, e7⟩ := Sort.round_part swoF (Sort.partition_holds ltF) hci.1 hci.2.1 (by omega) f2 hx
  rw [hx] at hR hpt
  dsimp only at hR hpt
  rw [if_pos ⟨e1, e2⟩] at hR
  rw [f1] at e3
  clear hx hci f1 f2
  refine VS.cut T_ok mixed rfl ?_
  ((repeat ((conv => whnf); (first | (refine LetN.pre ?_; first | ((conv => arg 1; whnf); refine LetN.mk ?_)) | (refine As.pre ?_; first | refine As.mk rfl ?_) | (refine Ck.pre ?_; first | refine Ck.mk rfl ?_) | (refine LetL.pre ?_; first | refine LetL.mk _ rfl ?_) | (refine CallN.pre ?_; first | refine CallN.own id hpt (CallOk.mk' rfl rfl rfl (namesAll.row (pure_fa _) rfl) rfl (namesAll.row (pure_fa _) rfl) (haveAll.row (pure_fa _) rfl trivial)) ?_)))); (try (conv => whnf)))
  refine VS.weak (s1 := pqW n fl a b lm wp l mid ap D2) ?sw6 ?_
  case sw6 => exact SW.mk id rfl rfl (namesAll.row (pure_fa _) rfl) ⟨.refl _, .refl _, .refl _, .refl _, .refl _, .refl _, .refl _, .refl _, .refl _, trivial⟩ (haveV.row (pure_fa _) (congrArg (fun x => some (Blk.row 7 fty x)) (renL_none (pure_fa _))) trivial)
  have w1 : ((mid - a : Nat) : Int) = IntKind.i64.wrap ((mid : Int) - a) := by rw [wrap_id (by omega) (by omega)]; omega
  have w2 : ((b - mid : Nat) : Int) = IntKind.i64.wrap ((b : Int) - mid) := by rw [wrap_id (by omega) (by omega)]; omega
  have w8 : ((l / 8 : Nat) : Int) = IntKind.i64.wrap ((l : Int).tdiv 8) := by
    rw [Int.tdiv_eq_ediv_of_nonneg (by omega), wrap_id (by omega) (by omega)]; omega
  rw [← hl] at hR
  obtain ⟨l8, hl8⟩ : ∃ x, x = l / 8 := ⟨_, rfl⟩
  rw [← hl8] at hR w8
  obtain ⟨lf, hlf⟩ : ∃ x, x = mid - a := ⟨_, rfl⟩
  obtain ⟨rt, hrt⟩ : ∃ x, x = b - mid := ⟨_, rfl⟩
  rw [← hlf, ← hrt] at hR
  rw [← hlf] at w1
  rw [← hrt] at w2
  refine VS.cut T_ok mixed rfl ?_
  ((repeat ((conv => whnf); (first | (refine As.pre ?_; first | refine As.mk rfl ?_) | (refine Ck.pre ?_; first | refine Ck.mk rfl ?_)))); (try (conv => whnf)))
  refine VS.cut T_ok mixed rfl ?_
  ((repeat ((conv => whnf); (first | (refine As.pre ?_; first | refine As.mk rfl ?_) | (refine LetI.pre ?_; first | refine LetI.mk (o := some .sub) (lf : Int) w1 ?_ | refine LetI.mk (o := some .sub) (rt : Int) w2 ?_) | (refine Ck.pre ?_; first | refine Ck.mk rfl ?_)))); (try (conv => whnf)))
  refine VS.cut T_ok mixed rfl ?_
  ((repeat ((conv => whnf); (first | (refine As.pre ?_; first | refine As.mk rfl ?_) | (refine LetI.pre ?_; first | refine LetI.mk (o := some .quo) (l8 : Int) w8 ?_) | (refine Ck.pre ?_; first | refine Ck.mk rfl ?_)))); (try (conv => whnf)))
  by_cases hlr : lf < rt
  · rw [if_pos hlr] at hR
    have hI := IH a mid lm D2 (by omega) (by omega) ⟨e1, by omega, e3, by omega, by omega, e4⟩
    obtain ⟨p1, p2⟩ := Sort.pdq_sorts ltF swoF D2 a mid lm true true e1 (by omega) e4
    obtain ⟨L, hL⟩ : ∃ x, x = Sort.pdq ltF D2 a mid lm true true := ⟨_, rfl⟩
    rw [← hL] at hI p1 p2 hR
    obtain ⟨p3, -⟩ := e6 L p1 p2
    obtain ⟨wb', hwb⟩ : ∃ x, x = decide (lf ≥ l8) := ⟨_, rfl⟩
    rw [← hwb] at hR
    have hgb : wb' = decide ((lf : Int) ≥ (l8 : Int)) := by rw [hwb, decide_eq_decide]; omega
    have hnx := ih (mid + 1, b, lm, wb', ap, L) ⟨by dsimp only; omega, by dsimp only; omega, ⟨by dsimp only; omega, q2, by rw [p1.1]; exact e3, by dsimp only; omega, by dsimp only; omega, p3⟩, hR⟩ (by show b - (mid + 1) < b - a; omega)
    clear ih IH hR hL e4 e5 e6 e7 p1 p2 p3 hwb
    refine VS.of_V T_ok mixed rfl ?_
    ((repeat ((conv => whnf); (first | (refine LetN.pre ?_; first | ((conv => arg 1; whnf); refine LetN.mk ?_)) | (refine As.pre ?_; first | refine As.mk rfl ?_) | (refine LetI.pre ?_; first | refine LetI.wrap (by omega) (by omega) ?_) | (refine LetB.pre ?_; first | refine LetB.mk (o := some .geq) wb' hgb ?_ | refine LetB.dect (by omega) ?_) | (refine Br.pre ?_; first | refine Br.tt rfl ?_) | (refine Ck.pre ?_; first | refine Ck.mk rfl ?_) | (refine LetL.pre ?_; first | refine LetL.mk _ rfl ?_) | (refine CallN.pre ?_; first | refine CallN.own id hI (CallOk.mk' rfl rfl rfl (namesAll.row (pure_fa _) rfl) rfl (namesAll.row (pure_fa _) rfl) (haveAll.row (pure_fa _) rfl trivial)) ?_)))); (try (conv => whnf)))
    refine LoopN.weak ?sw7 hnx
    case sw7 => exact SW.mk id rfl rfl (namesAll.row (pure_fa _) rfl) ⟨.refl _, VLe2.int (by dsimp only; omega), .refl _, .refl _, .refl _, .refl _, .refl _, trivial⟩ (haveV.row (pure_fa _) (congrArg (fun x => some (Blk.row 7 fty x)) (renL_none (pure_fa _))) trivial)
  · rw [if_neg hlr] at hR
    have hI := IH (mid + 1) b lm D2 (by omega) (by omega) ⟨by omega, q2, e3, by omega, by omega, e5⟩
    obtain ⟨p1, p2⟩ := Sort.pdq_sorts ltF swoF D2 (mid + 1) b lm true true (by omega) (by omega) e5
    obtain ⟨L, hL⟩ : ∃ x, x = Sort.pdq ltF D2 (mid + 1) b lm true true := ⟨_, rfl⟩
    rw [← hL] at hI p1 p2 hR
    obtain ⟨p3, -⟩ := e7 L p1 p2
    obtain ⟨wb', hwb⟩ : ∃ x, x = decide (rt ≥ l8) := ⟨_, rfl⟩
    rw [← hwb] at hR
    have hgb : wb' = decide ((rt : Int) ≥ (l8 : Int)) := by rw [hwb, decide_eq_decide]; omega
    have had : ((mid + 1 : Nat) : Int) = IntKind.i64.wrap ((mid : Int) + 1) := by rw [wrap_id (by omega) (by omega)]; omega
    have hnx := ih (a, mid, lm, wb', ap, L) ⟨by dsimp only; omega, by dsimp only; omega, ⟨e1, by dsimp only; omega, by rw [p1.1]; exact e3, by dsimp only; omega, by dsimp only; omega, p3⟩, hR⟩ (by show mid - a < b - a; omega)
    clear ih IH hR hL e4 e5 e6 e7 p1 p2 p3 hwb
    refine VS.of_V T_ok mixed rfl ?_
    ((repeat ((conv => whnf); (first | (refine LetN.pre ?_; first | ((conv => arg 1; whnf); refine LetN.mk ?_)) | (refine As.pre ?_; first | refine As.mk rfl ?_) | (refine LetI.pre ?_; first | refine LetI.mk (o := some .add) ((mid + 1 : Nat) : Int) had ?_) | (refine LetB.pre ?_; first | refine LetB.mk (o := some .geq) wb' hgb ?_ | refine LetB.decf (by omega) ?_) | (refine Br.pre ?_; first | refine Br.ff rfl ?_) | (refine Ck.pre ?_; first | refine Ck.mk rfl ?_) | (refine LetL.pre ?_; first | refine LetL.mk _ rfl ?_) | (refine CallN.pre ?_; first | refine CallN.own id hI (CallOk.mk' rfl rfl rfl (namesAll.row (pure_fa _) rfl) rfl (namesAll.row (pure_fa _) rfl) (haveAll.row (pure_fa _) rfl trivial)) ?_)))); (try (conv => whnf)))
    refine LoopN.weak ?sw8 hnx
    case sw8 => exact SW.mk id rfl rfl (namesAll.row (pure_fa _) rfl) ⟨.refl _, .refl _, .refl _, .refl _, .refl _, .refl _, .refl _, trivial⟩ (haveV.row (pure_fa _) (congrArg (fun x => some (Blk.row 7 fty x)) (renL_none (pure_fa _))) trivial)
end En
end Go.Proofs.YtgnakhljdjekbaaGreatDoor
namespace Go.Proofs.YtgnakhljdjekbaaGreatDoor
open Go.Proofs.YtgnakhljdjekbaaGreatDoor.Am
set_option maxRecDepth 100000
namespace En
/-! ### SortFunc of up to 16 facts -/
theorem sorted_eq {l : List Fa} {D : Array Fa} (h1 : Sort.PermIn 0 l.length l.toArray D) (h2 : Sort.SortedIn ltF 0 l.length D) : D.toList = sortS ltF l := by
  have e1 := Sort.sorted_unique_holds swoF (fun x y => ltF_tri) l.toArray D (by simpa using h1) (by simpa using h2)
  have hp : (sortS ltF l).Perm l := S_perm ltF l
  have hlen : (sortS ltF l).length = l.length := hp.length_eq
  have e2 := Sort.sorted_unique_holds swoF (fun x y => ltF_tri) l.toArray (sortS ltF l).toArray ?_ ?_
  · rw [e1, ← e2]
  · refine ⟨by simpa using hlen, fun i hi => ?_, ?_⟩
    · have hi : l.length ≤ i := by
        rcases hi with h | h
        · omega
        · simpa using h
      rw [getA, getA, List.getD_eq_getElem?_getD, List.getD_eq_getElem?_getD, List.getElem?_eq_none (by simp; omega), List.getElem?_eq_none (by simpa using hi)]
    · have a1 : (l.toArray.extract 0 l.toArray.size).toList = l := by simp
      have a2 : ((sortS ltF l).toArray.extract 0 l.toArray.size).toList = sortS ltF l := by
        simp [hlen.symm]
      rw [a1, a2]; exact hp
  · intro i j _ hij hj
    have hj' : j < (sortS ltF l).length := by rw [hlen]; simpa using hj
    have hs := S_sorted ord_F l
    rw [getA, getA, List.getD_eq_getElem?_getD, List.getD_eq_getElem?_getD, List.getElem?_eq_getElem (by simpa using hj'), List.getElem?_eq_getElem (by simp; omega)]
    exact List.pairwise_iff_getElem.1 hs i j (by omega) hj' hij
theorem pdq16_f (l : List Fa) (fl : Fl) (k : Nat) (hl : l.length ≤ 16) (hk : l.length ≤ 12 + k) (hk2 : k ≤ 10) : AFun Tryz.prog 93 1 [.slm fl 0 7 0 l.length, int 0, int l.length, int k, cmpC] [(0, rwF l)] (.tup []) [(0, rwF (sortS ltF l))] := by
  have h := Gpdq_f l.length fl (by omega) (l.length + 1) 0 l.length k l.toArray (by omega) hk2 ⟨Nat.zero_le _, Nat.le_refl _, by simp, by omega, by omega, .inl rfl⟩
  obtain ⟨h1, h2⟩ := Sort.pdq_sorts ltF swoF l.toArray 0 l.length k true true (Nat.zero_le _) (by simp) (.inl rfl)
  have e := sorted_eq h1 h2
  show AFun _ _ _ _ [(0, .row 7 fty (l.map fa))] _ [(0, .row 7 fty ((sortS ltF l).map fa))]
  rw [← e]
  exact h
theorem SortFunc16_f (l : List Fa) (fl : Fl) (hl : l.length ≤ 16) : AFun Tryz.prog 76 1 [.slm fl 0 7 0 l.length, cmpC] [(0, rwF l)] (.tup []) [(0, rwF (sortS ltF l))] := by
  obtain ⟨v, hv, hv2, hL⟩ : ∃ v : Nat, v ≤ 10 ∧ l.length ≤ 12 + v ∧ AFun Tryz.prog 94 0 [u64 l.length] [] (int v) [] := by
    by_cases h12 : l.length ≤ 12
    · obtain ⟨v, h1, _, h3⟩ := Len_f l.length hl
      exact ⟨v.toNat, by omega, by omega, by rw [Int.toNat_of_nonneg h1.1]; exact h3⟩
    · have : l.length = 13 ∨ l.length = 14 ∨ l.length = 15 ∨ l.length = 16 := by omega
      rcases this with h | h | h | h <;> rw [h]
      · exact ⟨4, by decide, by decide, AFun.of_calls (evF_sound T_ok mixed 20 _ _ [] 0 _ (by kernel_rfl))⟩
      · exact ⟨4, by decide, by decide, AFun.of_calls (evF_sound T_ok mixed 20 _ _ [] 0 _ (by kernel_rfl))⟩
      · exact ⟨4, by decide, by decide, AFun.of_calls (evF_sound T_ok mixed 20 _ _ [] 0 _ (by kernel_rfl))⟩
      · exact ⟨5, by decide, by decide, AFun.of_calls (evF_sound T_ok mixed 20 _ _ [] 0 _ (by kernel_rfl))⟩
  have hw : IntKind.u64.wrap (l.length : Int) = l.length := by rw [IntKind.wrap_u64]; omega
  have hL : AFun Tryz.prog 94 0 [u64 (IntKind.u64.wrap (l.length : Int))] [] (int v) [] := by rw [hw]; exact hL
  have hI := pdq16_f l fl v hl hv2 hv
  refine AFun.of_S T_ok mixed Tryz.func76 rfl (Nat.le_of_ble_eq_true rfl) rfl ?_
  ((repeat ((conv => whnf); (first | (refine LetN.pre ?_; first | ((conv => arg 1; whnf); refine LetN.mk ?_)) | (refine As.pre ?_; first | refine As.mk rfl ?_) | (refine LetI.pre ?_; first | refine LetI.mk _ rfl ?_) | (refine Ck.pre ?_; first | refine Ck.mk rfl ?_) | (refine LetL.pre ?_; first | refine LetL.mk (ty := fty) _ (renL_none (pure_fa _)).symm ?_) | (refine CallN.pre ?_; first | refine CallN.pure hL rfl rfl ?_ | (refine CallN.own id hI (CallOk.mk' rfl rfl rfl (namesAll.row (pure_fa _) rfl) rfl (namesAll.row (pure_fa _) rfl) (haveAll.row (pure_fa _) rfl trivial)) ?_))))); (try (conv => whnf)))
  exact ⟨⟨[], [(0, rwF (sortS ltF l))], 1⟩, SW.mk id rfl rfl (namesAll.row (pure_fa _) rfl) trivial (haveV.row (pure_fa _) rfl trivial), .inr rfl, ⟨_, rfl, rfl⟩, rfl, trivial⟩
end En
end Go.Proofs.YtgnakhljdjekbaaGreatDoor
namespace Go.Proofs.YtgnakhljdjekbaaGreatDoor
open Go.Proofs.YtgnakhljdjekbaaGreatDoor.Am
set_option maxRecDepth 100000
namespace En
/-! ### Facts as keys -/
abbrev okI (n : Int) : Prop := -9223372036854775808 ≤ n ∧ n ≤ 9223372036854775807
/-- The numbers of a fact fit. -/
abbrev okF (f : Fa) : Prop := okI f.kind ∧ okI f.student ∧ okI f.id ∧ okI f.term ∧ okI f.n ∧ okI f.school ∧ f.code.size ≤ maxLen
theorem litsF_int {n : Int} (d : Nat) (h : okI n) : Tryz.prog.keyLits (d + 1) 3 [.int .i64 n] = some [.int .i64 n] := by
  have hu : Tryz.prog.underlying 3 = some (.int .i64) := TT.Ok.int T_ok (t := 3) rfl rfl
  have hw : (Lit.int .i64 n).wf = true := by
    simp only [Lit.wf, Bool.and_eq_true, decide_eq_true_eq]
    exact h
  simp [Program.keyLits, hu, hw]
theorem litsF_str {s : ByteArray} (d : Nat) (h : s.size ≤ maxLen) : Tryz.prog.keyLits (d + 1) 9 [.string s] = some [.string s.data.toList] := by
  have hu : Tryz.prog.underlying 9 = some .string := TT.Ok.str T_ok (t := 9) rfl rfl
  simp [Program.keyLits, hu, h]
theorem litsF_course {n : Int} {s : ByteArray} (d : Nat) (h : okI n) (hs : s.size ≤ maxLen) : (Tryz.prog.keyLits (d + 2) 29 [.int .i64 n, .string s]).isSome = true := by
  obtain ⟨fs, hu, hl⟩ := TT.Ok.struct T_ok (t := 29) rfl rfl
  have hcell : Tryz.prog.cellsOf 29 = 2 := TT.Ok.cellsOf T_ok (t := 29) rfl
  have hc3 : Tryz.prog.cellsOf 3 = 1 := TT.Ok.cellsOf T_ok (t := 3) rfl
  have hc9 : Tryz.prog.cellsOf 9 = 1 := TT.Ok.cellsOf T_ok (t := 9) rfl
  have hb : noBlank Tryz.prog 29 = true := by kernel_rfl
  unfold noBlank at hb
  rw [hu] at hb
  simp only at hb
  have hb2 : fs.all (fun f => f.name != "_") = true := by rw [← Array.all_toList]; exact hb
  unfold Program.keyLits
  simp only [hu, hcell, hb2]
  have h3 : ∃ a b, fs.toList = [a, b] ∧ (a.offset = 0 ∧ a.type = 3) ∧ b.offset = 1 ∧ b.type = 9 := by
    generalize fs.toList = l at hl
    rcases l with _ | ⟨a, _ | ⟨b, _ | ⟨c, l⟩⟩⟩
    all_goals simp at hl
    exact ⟨a, b, rfl, hl.1, hl.2⟩
  obtain ⟨a, b, e, ⟨a1, a2⟩, b1, b2⟩ := h3
  rw [e]
  have q1 := litsF_int d h
  have q2 := litsF_str d hs
  simp [a1, a2, b1, b2, hc3, hc9, q1, q2]
theorem key_fact {f : Fa} (h : okF f) : keyB Tryz.prog 31 (kyF f) = true := by
  obtain ⟨h1, h2, h3, h4, h5, h6, h7⟩ := h
  obtain ⟨fs, hu, hl⟩ := TT.Ok.struct T_ok (t := 31) rfl rfl
  have hcell : Tryz.prog.cellsOf 31 = 7 := TT.Ok.cellsOf T_ok (t := 31) rfl
  have hc3 : Tryz.prog.cellsOf 3 = 1 := TT.Ok.cellsOf T_ok (t := 3) rfl
  have hcc : Tryz.prog.cellsOf 29 = 2 := TT.Ok.cellsOf T_ok (t := 29) rfl
  have hb : noBlank Tryz.prog 31 = true := by kernel_rfl
  have hk : Tryz.prog.keyType 31 = true := by kernel_rfl
  have hd : ∃ d, Tryz.prog.types.size = d + 2 := ⟨Tryz.prog.types.size - 2, by
    have h0 : decide (1 < Tryz.prog.types.size) = true := by kernel_rfl
    have h1 := of_decide_eq_true h0
    omega⟩
  obtain ⟨d, hd⟩ := hd
  unfold noBlank at hb
  rw [hu] at hb
  simp only at hb
  have hb2 : fs.all (fun f => f.name != "_") = true := by rw [← Array.all_toList]; exact hb
  unfold keyB keyOf
  simp only [hu, hk, Value.formed, hcell, hd]
  unfold Program.keyLits
  simp only [hu, hcell, hb2, Value.cells]
  have h8 : ∃ a b c d e g, fs.toList = [a, b, c, d, e, g] ∧ (a.offset = 0 ∧ a.type = 3) ∧ (b.offset = 1 ∧ b.type = 3) ∧ (c.offset = 2 ∧ c.type = 3) ∧ (d.offset = 3 ∧ d.type = 3) ∧ (e.offset = 4 ∧ e.type = 3) ∧ g.offset = 5 ∧ g.type = 29 := by
    generalize fs.toList = l at hl
    rcases l with _ | ⟨a, _ | ⟨b, _ | ⟨c, _ | ⟨d, _ | ⟨e, _ | ⟨g, _ | ⟨i, l⟩⟩⟩⟩⟩⟩⟩
    all_goals simp at hl
    obtain ⟨l1, l2, l3, l4, l5, l6⟩ := hl
    exact ⟨a, b, c, d, e, g, rfl, l1, l2, l3, l4, l5, l6⟩
  obtain ⟨a, b, c, x, e, g, eq, ⟨a1, a2⟩, ⟨b1, b2⟩, ⟨c1, c2⟩, ⟨x1, x2⟩, ⟨e1, e2⟩, g1, g2⟩ := h8
  rw [eq]
  have q1 := litsF_int (d + 1) h1
  have q2 := litsF_int (d + 1) h2
  have q3 := litsF_int (d + 1) h3
  have q4 := litsF_int (d + 1) h4
  have q5 := litsF_int (d + 1) h5
  have q6 := litsF_course d h6 h7
  obtain ⟨z, hz⟩ := Option.isSome_iff_exists.1 q6
  simp [a1, a2, b1, b2, c1, c2, x1, x2, e1, e2, g1, g2, hc3, hcc, q1, q2, q3, q4, q5, hz]
theorem keys_F {M : List Fa} (h : ∀ x ∈ M, okF x) {f : Fa} (hf : okF f) : (keyB Tryz.prog 31 (kyF f) && (kvF M).all fun x => keyB Tryz.prog 31 x.1) = true := by
  rw [key_fact hf, Bool.true_and]
  refine List.all_eq_true.2 fun x hx => ?_
  obtain ⟨y, hy, rfl⟩ := List.mem_map.1 hx
  exact key_fact (h y hy)
end En
end Go.Proofs.YtgnakhljdjekbaaGreatDoor
namespace Go.Proofs.YtgnakhljdjekbaaGreatDoor
open Go.Proofs.YtgnakhljdjekbaaGreatDoor.Am
set_option maxRecDepth 100000
namespace En
/-! ### What one list has and another one lacks -/
def addM (M : List Fa) (f : Fa) : List Fa := if f ∈ M then M else M ++ [f]
/-- The facts of a, each once, without those of b, in their order. -/
def setP (a b : List Fa) : List Fa := b.foldl (fun M f => M.erase f) (a.foldl addM [])
def misP (a b : List Fa) : List Fa := sortS ltF (setP a b)
theorem add_mem {M : List Fa} {f x : Fa} : x ∈ addM M f ↔ x ∈ M ∨ x = f := by
  unfold addM
  split
  · constructor
    · exact .inl
    · rintro (h | rfl)
      · exact h
      · assumption
  · rw [List.mem_append, List.mem_singleton]
theorem add_nodup {M : List Fa} {f : Fa} (h : M.Nodup) : (addM M f).Nodup := by
  unfold addM
  split
  · exact h
  · rename_i hf
    refine List.nodup_append.2 ⟨h, List.pairwise_singleton _ _, fun a ha b hb => ?_⟩
    rw [List.mem_singleton.1 hb]
    rintro rfl
    exact hf ha
theorem adds_spec : ∀ (a M : List Fa), M.Nodup → (a.foldl addM M).Nodup ∧ ∀ x, x ∈ a.foldl addM M ↔ x ∈ M ∨ x ∈ a
  | [], M, h => ⟨h, fun x => by simp⟩
  | f :: a, M, h => by
    obtain ⟨h1, h2⟩ := adds_spec a (addM M f) (add_nodup h)
    refine ⟨h1, fun x => ?_⟩
    rw [List.foldl_cons, h2, add_mem, List.mem_cons, or_assoc]
theorem dels_spec : ∀ (b M : List Fa), M.Nodup → (b.foldl (fun M f => M.erase f) M).Nodup ∧ ∀ x, x ∈ b.foldl (fun M f => M.erase f) M ↔ x ∈ M ∧ x ∉ b
  | [], M, h => ⟨h, fun x => by simp⟩
  | f :: b, M, h => by
    obtain ⟨h1, h2⟩ := dels_spec b (M.erase f) (h.erase f)
    refine ⟨h1, fun x => ?_⟩
    rw [List.foldl_cons, h2, h.mem_erase_iff, List.mem_cons, not_or]
    exact ⟨fun ⟨⟨a, b⟩, c⟩ => ⟨b, a, c⟩, fun ⟨a, b, c⟩ => ⟨⟨b, a⟩, c⟩⟩
theorem set_spec (a b : List Fa) : (setP a b).Nodup ∧ ∀ x, x ∈ setP a b ↔ x ∈ a ∧ x ∉ b := by
  obtain ⟨h1, h2⟩ := adds_spec a [] List.nodup_nil
  obtain ⟨h3, h4⟩ := dels_spec b _ h1
  refine ⟨h3, fun x => ?_⟩
  rw [setP, h4, h2]
  simp
theorem mis_spec (a b : List Fa) : upF (misP a b) ∧ ∀ x, x ∈ misP a b ↔ x ∈ a ∧ x ∉ b :=
  ⟨S_up (set_spec a b).1, fun x => by rw [misP, S_mem, (set_spec a b).2]⟩
theorem set_len (a b : List Fa) : (setP a b).length ≤ a.length := nodup_len (set_spec a b).1 fun x hx => (((set_spec a b).2 x).1 hx).1
theorem mis_len (a b : List Fa) : (misP a b).length ≤ a.length := by
  rw [misP, (S_perm ltF _).length_eq]; exact set_len a b
/-! Where a fact stands in the map. -/
theorem kvF_some {M : List Fa} {f : Fa} (h : f ∈ M) : ∃ i, findOk (kvF M) (kyF f) (some i) ∧ (kvF M).set i (kyF f, bool true) = kvF M ∧ (kvF M).eraseIdx i = kvF (M.erase f) := by
  induction M with
  | nil => exact absurd h List.not_mem_nil
  | cons x M ih =>
    by_cases e : x = f
    · subst e
      exact ⟨0, ⟨bool true, rfl⟩, rfl, by rw [List.erase_cons_head]; rfl⟩
    · obtain ⟨i, ⟨v, h1⟩, h2, h3⟩ := ih ((List.mem_cons.1 h).resolve_left fun g => e g.symm)
      refine ⟨i + 1, ⟨v, h1⟩, ?_, ?_⟩
      · show (kyF x, bool true) :: (kvF M).set i (kyF f, bool true) = _
        rw [h2]; rfl
      · rw [List.erase_cons_tail (by simpa using e)]
        show (kyF x, bool true) :: (kvF M).eraseIdx i = _
        rw [h3]; rfl
theorem kvF_none {M : List Fa} {f : Fa} (h : f ∉ M) : findOk (kvF M) (kyF f) none := fun y hy => by
  obtain ⟨x, hx, rfl⟩ := List.mem_map.1 hy
  intro e
  exact h (ky_inj e ▸ hx)
theorem fa_ld {l : List Fa} {k : Nat} (h : k < l.length) : fa (l.getD k fa0) = (l.map fa).getD k (.sc undef) := mapD fa0 h
theorem foldl_at {α β : Type} (g : β → α → β) (b : β) {l : List α} {k : Nat} (h : k < l.length) (d : α) : (l.take (k + 1)).foldl g b = g ((l.take k).foldl g b) (l.getD k d) := by
  rw [List.take_succ_eq_append_getElem h, List.foldl_append, List.getD_eq_getElem?_getD, List.getElem?_eq_getElem h]; rfl
abbrev m1S (a b : List Fa) (f1 f2 : Fl) : Nat × Nat × List Fa → AS
  | (k, ck, M) => ⟨[(1, .ro f2 7 (b.map fa)), (5, .mp 0), (11, .ro f1 7 (a.map fa)), (12, int a.length), (13, int k)], [(0, .map ck (kvF M))], 1⟩
abbrev m2S (b : List Fa) (f2 : Fl) : Nat × Nat × List Fa → AS
  | (k, ck, M) => ⟨[(5, .mp 0), (20, .ro f2 7 (b.map fa)), (21, int b.length), (22, int k)], [(0, .map ck (kvF M))], 1⟩
theorem mN (ck : Nat) (M : List Fa) (ok : Nat → Bool) : namesAll ok [(0, .map ck (kvF M))] = true := namesAll.map (kvF_pure M) rfl
theorem foldl_ok {a : List Fa} (h : ∀ x ∈ a, okF x) : ∀ x ∈ a.foldl addM [], okF x := fun x hx => by
  rcases ((adds_spec a [] List.nodup_nil).2 x).1 hx with h1 | h1
  · exact absurd h1 List.not_mem_nil
  · exact h x h1
set_option maxHeartbeats 1600000 in
set_option maxRecDepth 100000 in
theorem missing_s (a b : List Fa) (f1 f2 : Fl) (ha : a.length ≤ 12) (hb : b.length ≤ 1000) (ka : ∀ x ∈ a, okF x) (kb : ∀ x ∈ b, okF x) : AFun Tryz.prog 29 0 [.ro f1 7 (a.map fa), .ro f2 7 (b.map fa)] [] (.slm {} 0 7 0 (misP a b).length) [(0, rwF (misP a b))] := by
  refine AFun.of_S T_ok mixed Tryz.func29 rfl (Nat.le_of_ble_eq_true rfl) rfl ?_
  have hma : (a.map fa).length = a.length := List.length_map _
  have hmb : (b.map fa).length = b.length := List.length_map _
  ((repeat ((conv => whnf); (first | (refine LetN.pre ?_; first | ((conv => arg 1; whnf); refine LetN.mk ?_)) | (refine As.pre ?_; first | refine As.mk rfl ?_) | (refine LetI.pre ?_; first | refine LetI.mk _ rfl ?_) | (refine Ck.pre ?_; first | refine Ck.mk rfl ?_)))); (try (conv => whnf)))
  refine LoopN.weak (s1 := m1S a b f1 f2 (0, 0, [])) ?sw1 ?_
  case sw1 => exact SW.mk id rfl rfl (mN _ _ _) ⟨.refl _, .refl _, .refl _, VLe2.int (by rw [hma]), .refl _, trivial⟩ (haveV.map (kvF_pure _) rfl trivial)
  refine LoopN.ind T_ok mixed (S := m1S a b f1 f2) (fun i => a.length - i.1) (fun i => i.1 ≤ a.length ∧ i.2.2 = (a.take i.1).foldl addM []) (fun _ => rfl) (fun i hi ih => ?_) (0, 0, []) ⟨Nat.zero_le _, rfl⟩
  obtain ⟨k, ck, M⟩ := i
  obtain ⟨h1, h2⟩ := hi
  dsimp only at h1 h2
  by_cases hlt : k < a.length
  · have hld := fa_ld hlt
    have hnx : ∀ ck', _ := fun ck' => ih (k + 1, ck', addM M (a.getD k fa0)) ⟨hlt, by rw [h2, foldl_at addM [] hlt fa0]⟩ (by show a.length - (k + 1) < a.length - k; omega)
    have hok : ∀ x ∈ M, okF x := by rw [h2]; exact foldl_ok fun x hx => ka x (List.mem_of_mem_take hx)
    have hky := keys_F hok (ka _ (getD_memF hlt))
    clear ih h2 ka
    generalize a.getD k fa0 = f at hld hnx hky
    by_cases hm : f ∈ M
    · obtain ⟨i, hfi, hset, _⟩ := kvF_some hm
      have e : addM M f = M := if_pos hm
      rw [e] at hnx
      ((repeat ((conv => whnf); (first | (refine LetN.pre ?_; first | ((conv => arg 1; whnf); refine LetN.mk ?_)) | (refine As.pre ?_; first | refine As.mk rfl ?_ | refine As.mk hky ?_ | (refine As.mk ?_ ?_; · ((repeat' (refine andT ?_ ?_)) <;> (first | rfl | assumption | exact decide_eq_true (by omega) | exact decide_eq_true (by dsimp only; omega) | exact decide_eq_true (by simp; omega) | (simp; done))))) | (refine LetV.pre ?_; first | refine LetV.mk (t := fsl) _ hld ?_ | refine LetV.mk (.agg _) rfl ?_) | (refine LetI.pre ?_; first | refine LetI.wrap (by omega) (by omega) ?_) | (refine LetB.pre ?_; first | refine LetB.dect (by omega) ?_) | (refine Br.pre ?_; first | refine Br.tt rfl ?_) | (refine Ck.pre ?_; first | refine Ck.mk rfl ?_) | (refine LetL.pre ?_; first | refine LetL.mk [_] rfl ?_) | (refine FindN.mk (some i) hfi ?_)))); (try (conv => whnf)))




      refine LoopN.weak ?sw2 (hnx ck)
      case sw2 => exact SW.mk id rfl rfl (mN _ _ _) ⟨.refl _, .refl _, .refl _, .refl _, VLe2.int (by omega), trivial⟩ (haveV.map (kvF_pure _) (congrArg (fun m => some (Blk.map ck m)) hset) trivial)
    · have hfi := kvF_none hm
      have e : addM M f = M ++ [f] := if_neg hm
      rw [e] at hnx
      ((repeat ((conv => whnf); (first | (refine LetN.pre ?_; first | ((conv => arg 1; whnf); refine LetN.mk ?_)) | (refine As.pre ?_; first | refine As.mk rfl ?_ | refine As.mk hky ?_ | (refine As.mk ?_ ?_; · ((repeat' (refine andT ?_ ?_)) <;> (first | rfl | assumption | exact decide_eq_true (by omega) | exact decide_eq_true (by dsimp only; omega) | exact decide_eq_true (by simp; omega) | (simp; done))))) | (refine LetV.pre ?_; first | refine LetV.mk (t := fsl) _ hld ?_ | refine LetV.mk (.agg _) rfl ?_) | (refine LetI.pre ?_; first | refine LetI.wrap (by omega) (by omega) ?_) | (refine LetB.pre ?_; first | refine LetB.dect (by omega) ?_) | (refine Br.pre ?_; first | refine Br.tt rfl ?_) | (refine Ck.pre ?_; first | refine Ck.mk rfl ?_) | (refine LetL.pre ?_; first | refine LetL.mk [_] rfl ?_) | (refine FindN.mk none hfi ?_)))); (try (conv => whnf)))




      refine LoopN.weak ?sw3 (hnx (ck + 1))
      case sw3 => exact SW.mk id rfl rfl (mN _ _ _) ⟨.refl _, .refl _, .refl _, .refl _, VLe2.int (by omega), trivial⟩ (haveV.map (kvF_pure _) (congrArg (fun m => some (Blk.map (ck + 1) m)) (show kvF M ++ [(kyF f, bool true)] = kvF (M ++ [f]) by simp [kvF])) trivial)
  · clear ih
    rw [List.take_of_length_le (by omega)] at h2
    have hS : misP a b = sortS ltF (b.foldl (fun M f => M.erase f) M) := by rw [misP, setP, h2]
    have hMn : M.Nodup := by rw [h2]; exact (adds_spec a [] List.nodup_nil).1
    have hMo : ∀ x ∈ M, okF x := by rw [h2]; exact foldl_ok ka
    have hMl : M.length ≤ 12 := by
      rw [h2]
      refine Nat.le_trans (nodup_len (adds_spec a [] List.nodup_nil).1 (M := a) fun x hx => ?_) ha
      rcases ((adds_spec a [] List.nodup_nil).2 x).1 hx with g | g
      · exact absurd g List.not_mem_nil
      · exact g
    clear h2
    generalize misP a b = S at hS
    ((repeat ((conv => whnf); (first | (refine As.pre ?_; first | refine As.mk rfl ?_) | (refine LetI.pre ?_; first | refine LetI.mk _ rfl ?_) | (refine LetB.pre ?_; first | refine LetB.decf (by omega) ?_) | (refine Br.pre ?_; first | refine Br.ff rfl ?_) | (refine Ck.pre ?_; first | refine Ck.mk rfl ?_)))); (try (conv => whnf)))
    refine LoopN.weak (s1 := m2S b f2 (0, ck, M)) ?sw4 ?_
    case sw4 => exact SW.mk id rfl rfl (mN _ _ _) ⟨.refl _, .refl _, VLe2.int (by rw [hmb]), .refl _, trivial⟩ (haveV.map (kvF_pure _) rfl trivial)
    refine LoopN.ind T_ok mixed (S := m2S b f2) (fun i => b.length - i.1) (fun i => i.1 ≤ b.length ∧ i.2.2 = (b.take i.1).foldl (fun M f => M.erase f) M) (fun _ => rfl) (fun i hi ih => ?_) (0, ck, M) ⟨Nat.zero_le _, rfl⟩
    obtain ⟨k, ck, N⟩ := i
    obtain ⟨h1, h2⟩ := hi
    dsimp only at h1 h2
    have hNs := dels_spec (b.take k) M hMn
    rw [← h2] at hNs
    have hok : ∀ x ∈ N, okF x := fun x hx => hMo x ((hNs.2 x).1 hx).1
    have hNl : N.length ≤ 12 := Nat.le_trans (nodup_len hNs.1 fun x hx => ((hNs.2 x).1 hx).1) hMl
    by_cases hlt : k < b.length
    · have hld := fa_ld hlt
      have hnx : ∀ ck', _ := fun ck' => ih (k + 1, ck', N.erase (b.getD k fa0)) ⟨hlt, by rw [h2, foldl_at _ _ hlt fa0]⟩ (by show b.length - (k + 1) < b.length - k; omega)
      have hky := keys_F hok (kb _ (getD_memF hlt))
      clear ih h2 kb ka
      generalize b.getD k fa0 = f at hld hnx hky
      by_cases hm : f ∈ N
      · obtain ⟨i, hfi, _, hset⟩ := kvF_some hm
        ((repeat ((conv => whnf); (first | (refine LetN.pre ?_; first | ((conv => arg 1; whnf); refine LetN.mk ?_)) | (refine As.pre ?_; first | refine As.mk rfl ?_ | refine As.mk hky ?_ | (refine As.mk ?_ ?_; · ((repeat' (refine andT ?_ ?_)) <;> (first | rfl | assumption | exact decide_eq_true (by omega) | exact decide_eq_true (by dsimp only; omega) | exact decide_eq_true (by simp; omega) | (simp; done))))) | (refine LetV.pre ?_; first | refine LetV.mk (t := fsl) _ hld ?_ | refine LetV.mk (.agg _) rfl ?_) | (refine LetI.pre ?_; first | refine LetI.wrap (by omega) (by omega) ?_) | (refine LetB.pre ?_; first | refine LetB.dect (by omega) ?_) | (refine Br.pre ?_; first | refine Br.tt rfl ?_) | (refine Ck.pre ?_; first | refine Ck.mk rfl ?_) | (refine LetL.pre ?_; first | refine LetL.mk [_] rfl ?_) | (refine FindN.mk (some i) hfi ?_)))); (try (conv => whnf)))




        refine LoopN.weak ?sw5 (hnx ck)
        case sw5 => exact SW.mk id rfl rfl (mN _ _ _) ⟨.refl _, .refl _, .refl _, VLe2.int (by omega), trivial⟩ (haveV.map (kvF_pure _) (congrArg (fun m => some (Blk.map ck m)) hset) trivial)
      · have hfi := kvF_none hm
        rw [List.erase_of_not_mem hm] at hnx
        ((repeat ((conv => whnf); (first | (refine LetN.pre ?_; first | ((conv => arg 1; whnf); refine LetN.mk ?_)) | (refine As.pre ?_; first | refine As.mk rfl ?_ | refine As.mk hky ?_ | (refine As.mk ?_ ?_; · ((repeat' (refine andT ?_ ?_)) <;> (first | rfl | assumption | exact decide_eq_true (by omega) | exact decide_eq_true (by dsimp only; omega) | exact decide_eq_true (by simp; omega) | (simp; done))))) | (refine LetV.pre ?_; first | refine LetV.mk (t := fsl) _ hld ?_ | refine LetV.mk (.agg _) rfl ?_) | (refine LetI.pre ?_; first | refine LetI.wrap (by omega) (by omega) ?_) | (refine LetB.pre ?_; first | refine LetB.dect (by omega) ?_) | (refine Br.pre ?_; first | refine Br.tt rfl ?_) | (refine Ck.pre ?_; first | refine Ck.mk rfl ?_) | (refine LetL.pre ?_; first | refine LetL.mk [_] rfl ?_) | (refine FindN.mk none hfi ?_)))); (try (conv => whnf)))




        refine LoopN.weak ?sw6 (hnx ck)
        case sw6 => exact SW.mk id rfl rfl (mN _ _ _) ⟨.refl _, .refl _, .refl _, VLe2.int (by omega), trivial⟩ (haveV.map (kvF_pure _) rfl trivial)
    · clear ih
      rw [List.take_of_length_le (by omega)] at h2
      rw [← h2] at hS
      have hK := Keys_f N ck
      have hF := SortedFunc_f N ck hNs.1 hNl
      rw [← hS] at hF
      clear hS h2
      ((repeat ((conv => whnf); (first | (refine LetN.pre ?_; first | ((conv => arg 1; whnf); refine LetN.mk ?_)) | (refine As.pre ?_; first | refine As.mk rfl ?_) | (refine LetB.pre ?_; first | refine LetB.decf (by omega) ?_) | (refine Br.pre ?_; first | refine Br.ff rfl ?_) | (refine Ck.pre ?_; first | refine Ck.mk rfl ?_) | (refine LetL.pre ?_; first | refine LetL.mk (ty := fty) _ (renL_none (pure_fa _)).symm ?_ | refine LetL.mk [_] rfl ?_) | (refine CallN.pre ?_; first | (refine CallN.own id hK (CallOk.mk' rfl rfl rfl (mN _ _ _) rfl (namesAll.map (kvF_pure N) rfl) (haveAll.map (kvF_pure N) rfl trivial)) ?_) | (refine CallN.own id hF (CallOk.mk' rfl rfl rfl (namesAll.map (kvF_pure N) rfl) rfl (sqN ck N S _ rfl) (haveAll.map (kvF_pure N) (by show some (Blk.map _ _) = _; rw [kv_ren (kvF_pure N)]) ⟨rfl, trivial⟩)) ?_))))); (try (conv => whnf)))



      exact ⟨⟨[(4, .slm {} 0 7 0 S.length)], [(0, rwF S)], 1⟩, SW.mk (fun _ => 2) rfl rfl (namesAll.row (pure_fa _) rfl) ⟨.refl _, trivial⟩ (haveV.row (pure_fa _) rfl trivial), .inl rfl, ⟨_, rfl, rfl⟩, rfl, trivial⟩
end En
end Go.Proofs.YtgnakhljdjekbaaGreatDoor
namespace Go.Proofs.YtgnakhljdjekbaaGreatDoor
open Go.Proofs.YtgnakhljdjekbaaGreatDoor.Am
set_option maxRecDepth 100000
namespace En
/-! ### The text of a change, as plain Lean -/
abbrev tI (n : Int) : List UInt8 := Go.Lib.itoa n
def wordL (k : Int) : List UInt8 :=
  if k = 1 then [101, 97, 114, 110, 101, 100] else if k = 2 then [116, 97, 107, 101, 110] else if k = 3 then [109, 101, 116] else if k = 4 then [115, 116, 97, 110, 100, 105, 110, 103]
  else if k = 5 then [115, 116, 105, 112, 101, 110, 100] else if k = 6 then [97, 119, 97, 114, 100] else if k = 7 then [118, 101, 114, 115, 105, 111, 110] else [102, 97, 99, 116]
/-- A change: the fact, gone, kept, the entry. -/
structure Cg where
  f : Fa
  gone : Bool
  kept : Bool
  entry : Int
  deriving DecidableEq
abbrev cgA (c : Cg) : AV := .agg [int c.f.kind, int c.f.student, int c.f.id, int c.f.term, int c.f.n, int c.f.school, str c.f.code, bool c.gone, bool c.kept, int c.entry]
def pieces (c : Cg) : List (List UInt8) :=
  [(if c.gone then 45 else 43) :: wordL c.f.kind, tI c.f.student, tI c.f.id, tI c.f.term, tI c.f.n, tI c.f.school ++ 58 :: c.f.code.data.toList, [98, 121], tI c.entry] ++ if c.kept then [[107, 101, 112, 116]] else []
def textP (c : Cg) : ByteArray := ⟨(Go.Lib.join (pieces c) [32]).toArray⟩
/-! Numerals. -/
/-! What stands between two marks. -/
theorem join_cons2 (x y : List UInt8) (l : List (List UInt8)) : Go.Lib.join (x :: y :: l) [32] = x ++ 32 :: Go.Lib.join (y :: l) [32] := by
  rw [Go.Lib.join_cons, Go.Lib.join_cons]
  simp [Go.Lib.joinTail]
end En
end Go.Proofs.YtgnakhljdjekbaaGreatDoor
namespace Go.Proofs.YtgnakhljdjekbaaGreatDoor
open Go.Proofs.YtgnakhljdjekbaaGreatDoor.Am
set_option maxRecDepth 100000
namespace En
/-! ### What has changed -/
theorem missing_f (a b : List Fa) (f1 f2 : Fl) (ha : a.length ≤ 12) (hb : b.length ≤ 1000) (ka : ∀ x ∈ a, okF x) (kb : ∀ x ∈ b, okF x) : AFun Tryz.prog 29 0 [.ro f1 7 (a.map fa), .ro f2 7 (b.map fa)] [] (.ro {} 7 ((misP a b).map fa)) [] :=
  AFun.frz1 (H := []) (missing_s a b f1 f2 ha hb ka kb) rfl (pure_fa _) (by simp)
abbrev wr (n : Int) : Int := IntKind.i64.wrap n
def lastW (t : Int) : Int := wr (wr (wr (100 * t) + 100) - 1)
theorem BeginW_f (t : Int) : AFun Tryz.prog 59 0 [int t] [] (int (wr (100 * t))) [] := by
  refine AFun.of_W T_ok mixed Tryz.func59 rfl (Nat.le_of_ble_eq_true rfl) rfl ?_
  obtain ⟨x, hx⟩ : ∃ x, x = wr (100 * t) := ⟨_, rfl⟩
  rw [← hx]
  ((repeat ((conv => whnf); (first | (refine As.pre ?_; first | refine As.mk rfl ?_) | (refine LetI.pre ?_; first | refine LetI.mk (o := some .mul) x hx ?_) | (refine Ck.pre ?_; first | refine Ck.mk rfl ?_)))); (try (conv => whnf)))
  exact ⟨.inl rfl, ⟨_, rfl, rfl⟩, trivial⟩
theorem LastW_f (t : Int) : AFun Tryz.prog 34 0 [int t] [] (int (lastW t)) [] := by
  refine AFun.of_W T_ok mixed Tryz.func34 rfl (Nat.le_of_ble_eq_true rfl) rfl ?_
  have hB := BeginW_f t
  unfold lastW
  generalize wr (100 * t) = x at hB ⊢
  obtain ⟨y, hy⟩ : ∃ y, y = wr (x + 100) := ⟨_, rfl⟩
  rw [← hy]
  obtain ⟨z, hz⟩ : ∃ z, z = wr (y - 1) := ⟨_, rfl⟩
  rw [← hz]
  ((repeat ((conv => whnf); (first | (refine As.pre ?_; first | refine As.mk rfl ?_) | (refine LetI.pre ?_; first | refine LetI.mk (o := some .add) y hy ?_ | refine LetI.mk (o := some .sub) z hz ?_) | (refine Ck.pre ?_; first | refine Ck.mk rfl ?_) | (refine CallN.pre ?_; first | refine CallN.pure hB rfl rfl ?_)))); (try (conv => whnf)))
  exact ⟨.inl rfl, ⟨_, rfl, rfl⟩, trivial⟩
def keptP (f : Fa) (day : Int) : Bool := decide (f.kind = 5) && decide (lastW f.term < day)
theorem Kept_f (f : Fa) (e : E) : AFun Tryz.prog 14 0 [fa f, en e] [] (bool (keptP f e.day)) [] := by
  refine AFun.of_W T_ok mixed Tryz.func14 rfl (Nat.le_of_ble_eq_true rfl) rfl ?_
  have hL := LastW_f f.term
  unfold keptP
  generalize lastW f.term = x at hL ⊢
  by_cases h5 : f.kind = 5
  · rw [decide_eq_true h5, Bool.true_and]
    ((repeat ((conv => whnf); (first | (refine LetN.pre ?_; first | ((conv => arg 1; whnf); refine LetN.mk ?_)) | (refine As.pre ?_; first | refine As.mk rfl ?_) | (refine LetV.pre ?_; first | refine LetV.mk (.sc (.int _ _)) rfl ?_) | (refine LetB.pre ?_; first | refine LetB.dect (by omega) ?_ | refine LetB.mk _ rfl ?_) | (refine Gd.pre ?_; first | refine Gd.run rfl ?_) | (refine Ck.pre ?_; first | refine Ck.drawn (by kernel_rfl) ?_ | refine Ck.mk rfl ?_) | (refine CallN.pre ?_; first | refine CallN.pure hL rfl rfl ?_)))); (try (conv => whnf)))
    exact ⟨.inl rfl, ⟨_, rfl, rfl⟩, trivial⟩
  · rw [decide_eq_false h5, Bool.false_and]
    ((repeat ((conv => whnf); (first | (refine LetN.pre ?_; first | ((conv => arg 1; whnf); refine LetN.mk ?_)) | (refine As.pre ?_; first | refine As.mk rfl ?_) | (refine LetV.pre ?_; first | refine LetV.mk (.sc (.int _ _)) rfl ?_) | (refine LetB.pre ?_; first | refine LetB.decf (by omega) ?_) | (refine Gd.pre ?_; first | refine Gd.pass rfl ?_) | (refine Ck.pre ?_; first | refine Ck.drawn (by kernel_rfl) ?_ | refine Ck.mk rfl ?_)))); (try (conv => whnf)))
    exact ⟨.inl rfl, ⟨_, rfl, rfl⟩, trivial⟩
abbrev cty : TypeId := 38
abbrev csl : TypeId := 34
abbrev rwC (L : List Cg) : Blk := .row 10 cty (L.map cgA)
theorem pure_cg : ∀ l : List Cg, AV.namesL (fun _ => false) (l.map cgA) = true
  | [] => rfl
  | p :: l => by simp only [List.map_cons, AV.namesL, pure_cg l]; rfl
theorem app_cg (l : List Cg) (e : Cg) (n : Nat) (h : n = l.length) : (l ++ [e]).map cgA = (l.map cgA).take n ++ [cgA e] := by rw [List.take_of_length_le (by simp [h]), List.map_append]; rfl
theorem room_cg {n : Nat} (h : n ≤ 100000) : room n 80 = true := by
  simp only [room, Bool.and_eq_true, decide_eq_true_eq]
  exact ⟨by omega, rfl⟩
def goneP (e : E) (f : Fa) : Cg := ⟨f, true, keptP f e.day, e.id⟩
def cameP (e : E) (f : Fa) : Cg := ⟨f, false, false, e.id⟩
def difP (a b : List Fa) (e : E) : List Cg := (misP a b).map (goneP e) ++ (misP b a).map (cameP e)
abbrev d1S (a b G : List Fa) (f1 f2 : Fl) (e : E) : Nat × List Cg → AS
  | (k, L) => ⟨[(0, .ro f1 7 (a.map fa)), (1, .ro f2 7 (b.map fa)), (5, .ptr 0 15 0 0), (7, .slm {} 1 10 0 L.length), (14, .ro {} 7 (G.map fa)), (15, int G.length), (16, int k)], [(0, .row 15 25 [en e]), (1, rwC L)], 2⟩
abbrev d2S (G : List Fa) (e : E) : Nat × List Cg → AS
  | (k, L) => ⟨[(5, .ptr 0 15 0 0), (7, .slm {} 1 10 0 L.length), (33, .ro {} 7 (G.map fa)), (34, int G.length), (35, int k)], [(0, .row 15 25 [en e]), (1, rwC L)], 2⟩
theorem dN (e : E) (L : List Cg) (ok : Nat → Bool) : namesAll ok [(0, .row 15 25 [en e]), (1, rwC L)] = true := namesAll.row rfl (namesAll.row (pure_cg _) rfl)
def rd3 : Nat → Nat | 1 => 3 | i => i
set_option maxHeartbeats 1600000 in
set_option maxRecDepth 100000 in
theorem Differ_s (a b : List Fa) (e : E) (f1 f2 : Fl) (ha : a.length ≤ 12) (hb : b.length ≤ 12) (ka : ∀ x ∈ a, okF x) (kb : ∀ x ∈ b, okF x) : AFun Tryz.prog 9 0 [.ro f1 7 (a.map fa), .ro f2 7 (b.map fa), en e] [] (.slm {} 0 10 0 (difP a b e).length) [(0, rwC (difP a b e))] := by
  refine AFun.of_S T_ok mixed Tryz.func9 rfl (Nat.le_of_ble_eq_true rfl) rfl ?_
  have hG := missing_f a b f1 f2 ha (by omega) ka kb
  have hC := missing_f b a f2 f1 hb (by omega) kb ka
  have lG := mis_len a b
  have lC := mis_len b a
  rw [difP]
  generalize misP a b = G at hG lG ⊢
  generalize misP b a = C at hC lC ⊢
  have hmG : (G.map fa).length = G.length := List.length_map _
  have hmC : (C.map fa).length = C.length := List.length_map _
  ((repeat ((conv => whnf); (first | (refine LetN.pre ?_; first | ((conv => arg 1; whnf); refine LetN.mk ?_)) | (refine As.pre ?_; first | refine As.mk rfl ?_) | (refine LetI.pre ?_; first | refine LetI.mk _ rfl ?_) | (refine Ck.pre ?_; first | refine Ck.mk rfl ?_) | (refine CallN.pre ?_; first | refine CallN.pure hG rfl rfl ?_)))); (try (conv => whnf)))
  clear hG
  refine LoopN.weak (s1 := d1S a b G f1 f2 e (0, [])) ?sw1 ?_
  case sw1 => exact SW.mk id rfl rfl (dN _ _ _) ⟨.refl _, .refl _, .refl _, VLe2.nilslm, .refl _, VLe2.int (by rw [hmG]), .refl _, trivial⟩ (haveV.one rfl (haveV.nil (Nat.le_of_ble_eq_true rfl) trivial))
  refine LoopN.ind T_ok mixed (S := d1S a b G f1 f2 e) (fun i => G.length - i.1) (fun i => i.1 ≤ G.length ∧ i.2 = (G.take i.1).map (goneP e)) (fun _ => rfl) (fun i hi ih => ?_) (0, []) ⟨Nat.zero_le _, rfl⟩
  obtain ⟨k, L⟩ := i
  obtain ⟨h1, h2⟩ := hi
  dsimp only at h1 h2
  have hLl : L.length = k := by rw [h2, List.length_map, List.length_take]; omega
  by_cases hlt : k < G.length
  · have hld := fa_ld hlt
    have hnx := ih (k + 1, L ++ [goneP e (G.getD k fa0)]) ⟨hlt, by dsimp only; rw [h2, List.take_succ_eq_append_getElem hlt, List.map_append, List.getD_eq_getElem?_getD, List.getElem?_eq_getElem hlt]; rfl⟩ (by show G.length - (k + 1) < G.length - k; omega)
    clear ih h2
    generalize G.getD k fa0 = f at hld hnx
    have hK := Kept_f f e
    have r1 := room_cg (n := L.length + 1) (by omega)
    have a1 := app_cg L (goneP e f) L.length rfl
    have l1 : (L ++ [goneP e f]).length = L.length + 1 := by simp
    unfold goneP at a1 l1 hnx
    generalize keptP f e.day = kp at hK a1 l1 hnx
    ((repeat ((conv => whnf); (first | (refine LetN.pre ?_; first | ((conv => arg 1; whnf); refine LetN.mk ?_)) | (refine As.pre ?_; first | refine As.mk rfl ?_ | (refine As.mk ?_ ?_; · ((repeat' (refine andT ?_ ?_)) <;> (first | rfl | assumption | exact decide_eq_true (by omega) | exact decide_eq_true (by dsimp only; omega) | exact decide_eq_true (by simp; omega) | (simp; done))))) | (refine LetV.pre ?_; first | refine LetV.mk (t := fsl) _ hld ?_ | refine LetV.mk (.sc (.int _ _)) rfl ?_ | refine LetV.mk (.agg _) rfl ?_) | (refine LetI.pre ?_; first | refine LetI.wrap (by omega) (by omega) ?_) | (refine LetB.pre ?_; first | refine LetB.dect (by omega) ?_) | (refine Br.pre ?_; first | refine Br.tt rfl ?_) | (refine Ck.pre ?_; first | refine Ck.drawn (by kernel_rfl) ?_ | refine Ck.mk rfl ?_) | (refine LetL.pre ?_; first | refine LetL.mk (ty := cty) _ a1 ?_ | refine LetL.mk [_] rfl ?_) | (refine CallN.pre ?_; first | refine CallN.pure hK rfl rfl ?_)))); (try (conv => whnf)))



    refine LoopN.weak ?sw2 hnx
    case sw2 => exact SW.mk rd3 rfl rfl (dN _ _ _) ⟨.refl _, .refl _, .refl _, VLe2.slm_of l1, .refl _, .refl _, VLe2.int (by omega), trivial⟩ (haveV.one rfl (haveV.row (pure_cg _) rfl trivial))
  · clear ih
    rw [List.take_of_length_le (by omega)] at h2
    rw [← h2]
    clear h2
    generalize hR : L ++ C.map (cameP e) = R
    ((repeat ((conv => whnf); (first | (refine As.pre ?_; first | refine As.mk rfl ?_) | (refine LetI.pre ?_; first | refine LetI.mk _ rfl ?_) | (refine LetB.pre ?_; first | refine LetB.decf (by omega) ?_) | (refine Br.pre ?_; first | refine Br.ff rfl ?_) | (refine Ck.pre ?_; first | refine Ck.mk rfl ?_) | (refine CallN.pre ?_; first | refine CallN.pure hC rfl rfl ?_)))); (try (conv => whnf)))
    clear hC
    refine LoopN.weak (s1 := d2S C e (0, L)) ?sw3 ?_
    case sw3 => exact SW.mk id rfl rfl (dN _ _ _) ⟨.refl _, .refl _, .refl _, VLe2.int (by rw [hmC]), .refl _, trivial⟩ (haveV.one rfl (haveV.row (pure_cg _) rfl trivial))
    refine LoopN.ind T_ok mixed (S := d2S C e) (fun i => C.length - i.1) (fun i => i.1 ≤ C.length ∧ i.2 = L ++ (C.take i.1).map (cameP e)) (fun _ => rfl) (fun i hi ih => ?_) (0, L) ⟨Nat.zero_le _, by simp⟩
    obtain ⟨j, N⟩ := i
    obtain ⟨g1, g2⟩ := hi
    dsimp only at g1 g2
    have hNl : N.length = L.length + j := by rw [g2, List.length_append, List.length_map, List.length_take]; omega
    by_cases hlt : j < C.length
    · have hld := fa_ld hlt
      have hnx := ih (j + 1, N ++ [cameP e (C.getD j fa0)]) ⟨hlt, by dsimp only; rw [g2, List.take_succ_eq_append_getElem hlt, List.map_append, List.append_assoc, List.getD_eq_getElem?_getD, List.getElem?_eq_getElem hlt]; rfl⟩ (by show C.length - (j + 1) < C.length - j; omega)
      clear ih g2 hR
      generalize C.getD j fa0 = f at hld hnx
      have r1 := room_cg (n := N.length + 1) (by omega)
      have a1 := app_cg N (cameP e f) N.length rfl
      have l1 : (N ++ [cameP e f]).length = N.length + 1 := by simp
      unfold cameP at a1 l1 hnx
      ((repeat ((conv => whnf); (first | (refine LetN.pre ?_; first | ((conv => arg 1; whnf); refine LetN.mk ?_)) | (refine As.pre ?_; first | refine As.mk rfl ?_ | (refine As.mk ?_ ?_; · ((repeat' (refine andT ?_ ?_)) <;> (first | rfl | assumption | exact decide_eq_true (by omega) | exact decide_eq_true (by dsimp only; omega) | exact decide_eq_true (by simp; omega) | (simp; done))))) | (refine LetV.pre ?_; first | refine LetV.mk (t := fsl) _ hld ?_ | refine LetV.mk (.sc (.int _ _)) rfl ?_ | refine LetV.mk (.agg _) rfl ?_) | (refine LetI.pre ?_; first | refine LetI.wrap (by omega) (by omega) ?_) | (refine LetB.pre ?_; first | refine LetB.dect (by omega) ?_) | (refine Br.pre ?_; first | refine Br.tt rfl ?_) | (refine Ck.pre ?_; first | refine Ck.mk rfl ?_) | (refine LetL.pre ?_; first | refine LetL.mk (ty := cty) _ a1 ?_ | refine LetL.mk [_] rfl ?_)))); (try (conv => whnf)))


      refine LoopN.weak ?sw4 hnx
      case sw4 => exact SW.mk rd3 rfl rfl (dN _ _ _) ⟨.refl _, VLe2.slm_of l1, .refl _, .refl _, VLe2.int (by omega), trivial⟩ (haveV.one rfl (haveV.row (pure_cg _) rfl trivial))
    · clear ih
      rw [List.take_of_length_le (by omega), hR] at g2
      subst g2
      ((repeat ((conv => whnf); (first | (refine As.pre ?_; first | refine As.mk rfl ?_) | (refine LetB.pre ?_; first | refine LetB.decf (by omega) ?_) | (refine Br.pre ?_; first | refine Br.ff rfl ?_) | (refine Ck.pre ?_; first | refine Ck.mk rfl ?_)))); (try (conv => whnf)))
      exact ⟨⟨[(6, .slm {} 0 10 0 N.length)], [(0, rwC N)], 1⟩, SW.mk (fun _ => 1) rfl rfl (namesAll.row (pure_cg _) rfl) ⟨.refl _, trivial⟩ (haveV.row (pure_cg _) rfl trivial), .inl rfl, ⟨_, rfl, rfl⟩, rfl, trivial⟩
theorem Differ_f (a b : List Fa) (e : E) (f1 f2 : Fl) (ha : a.length ≤ 12) (hb : b.length ≤ 12) (ka : ∀ x ∈ a, okF x) (kb : ∀ x ∈ b, okF x) : AFun Tryz.prog 9 0 [.ro f1 7 (a.map fa), .ro f2 7 (b.map fa), en e] [] (.ro {} 10 ((difP a b e).map cgA)) [] :=
  AFun.frz1 (H := []) (Differ_s a b e f1 f2 ha hb ka kb) rfl (pure_cg _) (by simp)
end En
end Go.Proofs.YtgnakhljdjekbaaGreatDoor
namespace Go.Proofs.YtgnakhljdjekbaaGreatDoor
open Go.Proofs.YtgnakhljdjekbaaGreatDoor.Am
set_option maxRecDepth 100000
namespace En
/-! ### Differ of up to 16 facts -/
set_option maxHeartbeats 1600000 in
set_option maxRecDepth 100000 in
theorem SortedFunc16_f (M : List Fa) (ck : Nat) (hM : M.Nodup) (hl : M.length ≤ 16) : AFun Tryz.prog 50 2 [keysC, cmpC] (kmH ck M) (.slm {} 2 7 0 (sortS ltF M).length) (sqH ck M (sortS ltF M)) := by
  refine AFun.of_DFun (J := fun v H' => v = .slm {} 2 7 0 (sortS ltF M).length ∧ H' = sqH ck M (sortS ltF M)) ?_ fun v1 H1 h => h
  refine DFun.of_D T_ok Tryz.func50 rfl (Nat.le_of_ble_eq_true rfl) ?_
  refine DRuns.seq (DRuns.of_VS (VS.of_V T_ok mixed rfl ?_))
  ((repeat ((conv => whnf); (first | (refine As.pre ?_; first | refine As.mk rfl ?_) | (refine Ck.pre ?_; first | refine Ck.mk rfl ?_)))); (try (conv => whnf)))
  refine DRuns.seq (DRuns.opx' T_ok 1 rfl (Nat.le_of_ble_eq_true rfl) rfl ?_)
  ((repeat ((conv => whnf); (first | (refine As.pre ?_; first | refine As.mk rfl ?_) | (refine Ck.pre ?_; first | refine Ck.mk rfl ?_)))); (try (conv => whnf)))
  refine OpX.call rfl rfl rfl rfl (by kernel_rfl) (v0 := .slm {} 2 7 0 0) (H0 := sqH ck M []) id (Collect_D M ck hM (by omega)) ?ok0 ?okA ?k
  case ok0 => exact CallOk.mk' rfl rfl rfl (namesAll.map (kvF_pure M) rfl) rfl (sqN ck M [] _ rfl) (haveAll.map (kvF_pure M) rfl ⟨rfl, trivial⟩)
  case okA =>
    rintro v H' ⟨L, hL, rfl, rfl⟩
    exact CallOk.mk' rfl rfl rfl (namesAll.map (kvF_pure M) rfl) rfl (sqN ck M L _ rfl) (haveAll.map (kvF_pure M) rfl ⟨rfl, trivial⟩)
  case k =>
    rintro v H' ⟨L, ⟨hL, hm⟩, rfl, rfl⟩
    have e : atCall id (kmH ck M) (.slm {} 2 7 0 L.length) (sqH ck M L) = { v := .slm {} 2 7 0 L.length, D := [0, 1], δ := [(0, some (.map ck (kvF M))), (1, some (.row 1 mty [.mp 0])), (2, some (rwF L))] } := by
      show ({ v := _, D := _, δ := [(0, some (.map ck ((kvF M).map fun x => (x.1, x.2.ren id)))), (1, _), (2, some (.row 7 fty (AV.renL id (L.map fa))))] } : Out) = _
      rw [kv_ren (kvF_pure M), renL_none (pure_fa L)]; rfl
    rw [e]
    have hS : sortS ltF L = sortS ltF M := S_same hL hM hm
    have hlL : L.length = M.length := Nat.le_antisymm (nodup_len hL fun x hx => (hm x).1 hx) (nodup_len hM fun x hx => (hm x).2 hx)
    have hlS : (sortS ltF M).length = L.length := by rw [hlL]; exact (S_perm ltF M).length_eq
    have hF := SortFunc16_f L {} (by omega)
    rw [hS] at hF
    rw [hlS]
    generalize sortS ltF M = S at hF hlS
    refine ⟨rfl, ?_⟩
    ((repeat ((conv => whnf); (first | (refine As.pre ?_; first | refine As.mk rfl ?_) | (refine Ck.pre ?_; first | refine Ck.mk rfl ?_)))); (try (conv => whnf)))
    refine DRuns.of_VS (VS.of_V T_ok mixed rfl ?_)
    ((repeat ((conv => whnf); (first | (refine LetN.pre ?_; first | ((conv => arg 1; whnf); refine LetN.mk ?_)) | (refine As.pre ?_; first | refine As.mk rfl ?_) | (refine Ck.pre ?_; first | refine Ck.mk rfl ?_) | (refine LetL.pre ?_; first | refine LetL.mk (ty := fty) _ (renL_none (pure_fa _)).symm ?_) | (refine CallN.pre ?_; first | (refine CallN.own rs2 hF (CallOk.mk' rfl rfl rfl (namesAll.row (pure_fa _) rfl) rfl (namesAll.row (pure_fa _) rfl) (haveAll.row (pure_fa _) rfl trivial)) ?_))))); (try (conv => whnf)))


    refine ⟨_, _, ⟨rfl, rfl⟩, ?_⟩
    exact ⟨⟨[(4, .slm {} 2 7 0 L.length)], sqH ck M S, 3⟩, SW.mk id rfl rfl (sqN ck M S _ rfl) ⟨.refl _, trivial⟩ (haveV.map (kvF_pure M) rfl (haveV.one rfl (haveV.row (pure_fa _) rfl trivial))), .inl rfl, ⟨_, rfl, rfl⟩, rfl, rfl, rfl, trivial⟩
set_option maxHeartbeats 1600000 in
set_option maxRecDepth 100000 in
theorem missing16_s (a b : List Fa) (f1 f2 : Fl) (ha : a.length ≤ 16) (hb : b.length ≤ 1000) (ka : ∀ x ∈ a, okF x) (kb : ∀ x ∈ b, okF x) : AFun Tryz.prog 29 0 [.ro f1 7 (a.map fa), .ro f2 7 (b.map fa)] [] (.slm {} 0 7 0 (misP a b).length) [(0, rwF (misP a b))] := by
  refine AFun.of_S T_ok mixed Tryz.func29 rfl (Nat.le_of_ble_eq_true rfl) rfl ?_
  have hma : (a.map fa).length = a.length := List.length_map _
  have hmb : (b.map fa).length = b.length := List.length_map _
  ((repeat ((conv => whnf); (first | (refine LetN.pre ?_; first | ((conv => arg 1; whnf); refine LetN.mk ?_)) | (refine As.pre ?_; first | refine As.mk rfl ?_) | (refine LetI.pre ?_; first | refine LetI.mk _ rfl ?_) | (refine Ck.pre ?_; first | refine Ck.mk rfl ?_)))); (try (conv => whnf)))
  refine LoopN.weak (s1 := m1S a b f1 f2 (0, 0, [])) ?sw1 ?_
  case sw1 => exact SW.mk id rfl rfl (mN _ _ _) ⟨.refl _, .refl _, .refl _, VLe2.int (by rw [hma]), .refl _, trivial⟩ (haveV.map (kvF_pure _) rfl trivial)
  refine LoopN.ind T_ok mixed (S := m1S a b f1 f2) (fun i => a.length - i.1) (fun i => i.1 ≤ a.length ∧ i.2.2 = (a.take i.1).foldl addM []) (fun _ => rfl) (fun i hi ih => ?_) (0, 0, []) ⟨Nat.zero_le _, rfl⟩
  obtain ⟨k, ck, M⟩ := i
  obtain ⟨h1, h2⟩ := hi
  dsimp only at h1 h2
  by_cases hlt : k < a.length
  · have hld := fa_ld hlt
    have hnx : ∀ ck', _ := fun ck' => ih (k + 1, ck', addM M (a.getD k fa0)) ⟨hlt, by rw [h2, foldl_at addM [] hlt fa0]⟩ (by show a.length - (k + 1) < a.length - k; omega)
    have hok : ∀ x ∈ M, okF x := by rw [h2]; exact foldl_ok fun x hx => ka x (List.mem_of_mem_take hx)
    have hky := keys_F hok (ka _ (getD_memF hlt))
    clear ih h2 ka
    generalize a.getD k fa0 = f at hld hnx hky
    by_cases hm : f ∈ M
    · obtain ⟨i, hfi, hset, _⟩ := kvF_some hm
      have e : addM M f = M := if_pos hm
      rw [e] at hnx
      ((repeat ((conv => whnf); (first | (refine LetN.pre ?_; first | ((conv => arg 1; whnf); refine LetN.mk ?_)) | (refine As.pre ?_; first | refine As.mk rfl ?_ | refine As.mk hky ?_ | (refine As.mk ?_ ?_; · ((repeat' (refine andT ?_ ?_)) <;> (first | rfl | assumption | exact decide_eq_true (by omega) | exact decide_eq_true (by dsimp only; omega) | exact decide_eq_true (by simp; omega) | (simp; done))))) | (refine LetV.pre ?_; first | refine LetV.mk (t := fsl) _ hld ?_ | refine LetV.mk (.agg _) rfl ?_) | (refine LetI.pre ?_; first | refine LetI.wrap (by omega) (by omega) ?_) | (refine LetB.pre ?_; first | refine LetB.dect (by omega) ?_) | (refine Br.pre ?_; first | refine Br.tt rfl ?_) | (refine Ck.pre ?_; first | refine Ck.mk rfl ?_) | (refine LetL.pre ?_; first | refine LetL.mk [_] rfl ?_) | (refine FindN.mk (some i) hfi ?_)))); (try (conv => whnf)))




      refine LoopN.weak ?sw2 (hnx ck)
      case sw2 => exact SW.mk id rfl rfl (mN _ _ _) ⟨.refl _, .refl _, .refl _, .refl _, VLe2.int (by omega), trivial⟩ (haveV.map (kvF_pure _) (congrArg (fun m => some (Blk.map ck m)) hset) trivial)
    · have hfi := kvF_none hm
      have e : addM M f = M ++ [f] := if_neg hm
      rw [e] at hnx
      ((repeat ((conv => whnf); (first | (refine LetN.pre ?_; first | ((conv => arg 1; whnf); refine LetN.mk ?_)) | (refine As.pre ?_; first | refine As.mk rfl ?_ | refine As.mk hky ?_ | (refine As.mk ?_ ?_; · ((repeat' (refine andT ?_ ?_)) <;> (first | rfl | assumption | exact decide_eq_true (by omega) | exact decide_eq_true (by dsimp only; omega) | exact decide_eq_true (by simp; omega) | (simp; done))))) | (refine LetV.pre ?_; first | refine LetV.mk (t := fsl) _ hld ?_ | refine LetV.mk (.agg _) rfl ?_) | (refine LetI.pre ?_; first | refine LetI.wrap (by omega) (by omega) ?_) | (refine LetB.pre ?_; first | refine LetB.dect (by omega) ?_) | (refine Br.pre ?_; first | refine Br.tt rfl ?_) | (refine Ck.pre ?_; first | refine Ck.mk rfl ?_) | (refine LetL.pre ?_; first | refine LetL.mk [_] rfl ?_) | (refine FindN.mk none hfi ?_)))); (try (conv => whnf)))




      refine LoopN.weak ?sw3 (hnx (ck + 1))
      case sw3 => exact SW.mk id rfl rfl (mN _ _ _) ⟨.refl _, .refl _, .refl _, .refl _, VLe2.int (by omega), trivial⟩ (haveV.map (kvF_pure _) (congrArg (fun m => some (Blk.map (ck + 1) m)) (show kvF M ++ [(kyF f, bool true)] = kvF (M ++ [f]) by simp [kvF])) trivial)
  · clear ih
    rw [List.take_of_length_le (by omega)] at h2
    have hS : misP a b = sortS ltF (b.foldl (fun M f => M.erase f) M) := by rw [misP, setP, h2]
    have hMn : M.Nodup := by rw [h2]; exact (adds_spec a [] List.nodup_nil).1
    have hMo : ∀ x ∈ M, okF x := by rw [h2]; exact foldl_ok ka
    have hMl : M.length ≤ 16 := by
      rw [h2]
      refine Nat.le_trans (nodup_len (adds_spec a [] List.nodup_nil).1 (M := a) fun x hx => ?_) ha
      rcases ((adds_spec a [] List.nodup_nil).2 x).1 hx with g | g
      · exact absurd g List.not_mem_nil
      · exact g
    clear h2
    generalize misP a b = S at hS
    ((repeat ((conv => whnf); (first | (refine As.pre ?_; first | refine As.mk rfl ?_) | (refine LetI.pre ?_; first | refine LetI.mk _ rfl ?_) | (refine LetB.pre ?_; first | refine LetB.decf (by omega) ?_) | (refine Br.pre ?_; first | refine Br.ff rfl ?_) | (refine Ck.pre ?_; first | refine Ck.mk rfl ?_)))); (try (conv => whnf)))
    refine LoopN.weak (s1 := m2S b f2 (0, ck, M)) ?sw4 ?_
    case sw4 => exact SW.mk id rfl rfl (mN _ _ _) ⟨.refl _, .refl _, VLe2.int (by rw [hmb]), .refl _, trivial⟩ (haveV.map (kvF_pure _) rfl trivial)
    refine LoopN.ind T_ok mixed (S := m2S b f2) (fun i => b.length - i.1) (fun i => i.1 ≤ b.length ∧ i.2.2 = (b.take i.1).foldl (fun M f => M.erase f) M) (fun _ => rfl) (fun i hi ih => ?_) (0, ck, M) ⟨Nat.zero_le _, rfl⟩
    obtain ⟨k, ck, N⟩ := i
    obtain ⟨h1, h2⟩ := hi
    dsimp only at h1 h2
    have hNs := dels_spec (b.take k) M hMn
    rw [← h2] at hNs
    have hok : ∀ x ∈ N, okF x := fun x hx => hMo x ((hNs.2 x).1 hx).1
    have hNl : N.length ≤ 16 := Nat.le_trans (nodup_len hNs.1 fun x hx => ((hNs.2 x).1 hx).1) hMl
    by_cases hlt : k < b.length
    · have hld := fa_ld hlt
      have hnx : ∀ ck', _ := fun ck' => ih (k + 1, ck', N.erase (b.getD k fa0)) ⟨hlt, by rw [h2, foldl_at _ _ hlt fa0]⟩ (by show b.length - (k + 1) < b.length - k; omega)
      have hky := keys_F hok (kb _ (getD_memF hlt))
      clear ih h2 kb ka
      generalize b.getD k fa0 = f at hld hnx hky
      by_cases hm : f ∈ N
      · obtain ⟨i, hfi, _, hset⟩ := kvF_some hm
        ((repeat ((conv => whnf); (first | (refine LetN.pre ?_; first | ((conv => arg 1; whnf); refine LetN.mk ?_)) | (refine As.pre ?_; first | refine As.mk rfl ?_ | refine As.mk hky ?_ | (refine As.mk ?_ ?_; · ((repeat' (refine andT ?_ ?_)) <;> (first | rfl | assumption | exact decide_eq_true (by omega) | exact decide_eq_true (by dsimp only; omega) | exact decide_eq_true (by simp; omega) | (simp; done))))) | (refine LetV.pre ?_; first | refine LetV.mk (t := fsl) _ hld ?_ | refine LetV.mk (.agg _) rfl ?_) | (refine LetI.pre ?_; first | refine LetI.wrap (by omega) (by omega) ?_) | (refine LetB.pre ?_; first | refine LetB.dect (by omega) ?_) | (refine Br.pre ?_; first | refine Br.tt rfl ?_) | (refine Ck.pre ?_; first | refine Ck.mk rfl ?_) | (refine LetL.pre ?_; first | refine LetL.mk [_] rfl ?_) | (refine FindN.mk (some i) hfi ?_)))); (try (conv => whnf)))




        refine LoopN.weak ?sw5 (hnx ck)
        case sw5 => exact SW.mk id rfl rfl (mN _ _ _) ⟨.refl _, .refl _, .refl _, VLe2.int (by omega), trivial⟩ (haveV.map (kvF_pure _) (congrArg (fun m => some (Blk.map ck m)) hset) trivial)
      · have hfi := kvF_none hm
        rw [List.erase_of_not_mem hm] at hnx
        ((repeat ((conv => whnf); (first | (refine LetN.pre ?_; first | ((conv => arg 1; whnf); refine LetN.mk ?_)) | (refine As.pre ?_; first | refine As.mk rfl ?_ | refine As.mk hky ?_ | (refine As.mk ?_ ?_; · ((repeat' (refine andT ?_ ?_)) <;> (first | rfl | assumption | exact decide_eq_true (by omega) | exact decide_eq_true (by dsimp only; omega) | exact decide_eq_true (by simp; omega) | (simp; done))))) | (refine LetV.pre ?_; first | refine LetV.mk (t := fsl) _ hld ?_ | refine LetV.mk (.agg _) rfl ?_) | (refine LetI.pre ?_; first | refine LetI.wrap (by omega) (by omega) ?_) | (refine LetB.pre ?_; first | refine LetB.dect (by omega) ?_) | (refine Br.pre ?_; first | refine Br.tt rfl ?_) | (refine Ck.pre ?_; first | refine Ck.mk rfl ?_) | (refine LetL.pre ?_; first | refine LetL.mk [_] rfl ?_) | (refine FindN.mk none hfi ?_)))); (try (conv => whnf)))




        refine LoopN.weak ?sw6 (hnx ck)
        case sw6 => exact SW.mk id rfl rfl (mN _ _ _) ⟨.refl _, .refl _, .refl _, VLe2.int (by omega), trivial⟩ (haveV.map (kvF_pure _) rfl trivial)
    · clear ih
      rw [List.take_of_length_le (by omega)] at h2
      rw [← h2] at hS
      have hK := Keys_f N ck
      have hF := SortedFunc16_f N ck hNs.1 hNl
      rw [← hS] at hF
      clear hS h2
      ((repeat ((conv => whnf); (first | (refine LetN.pre ?_; first | ((conv => arg 1; whnf); refine LetN.mk ?_)) | (refine As.pre ?_; first | refine As.mk rfl ?_) | (refine LetB.pre ?_; first | refine LetB.decf (by omega) ?_) | (refine Br.pre ?_; first | refine Br.ff rfl ?_) | (refine Ck.pre ?_; first | refine Ck.mk rfl ?_) | (refine LetL.pre ?_; first | refine LetL.mk (ty := fty) _ (renL_none (pure_fa _)).symm ?_ | refine LetL.mk [_] rfl ?_) | (refine CallN.pre ?_; first | (refine CallN.own id hK (CallOk.mk' rfl rfl rfl (mN _ _ _) rfl (namesAll.map (kvF_pure N) rfl) (haveAll.map (kvF_pure N) rfl trivial)) ?_) | (refine CallN.own id hF (CallOk.mk' rfl rfl rfl (namesAll.map (kvF_pure N) rfl) rfl (sqN ck N S _ rfl) (haveAll.map (kvF_pure N) (by show some (Blk.map _ _) = _; rw [kv_ren (kvF_pure N)]) ⟨rfl, trivial⟩)) ?_))))); (try (conv => whnf)))



      exact ⟨⟨[(4, .slm {} 0 7 0 S.length)], [(0, rwF S)], 1⟩, SW.mk (fun _ => 2) rfl rfl (namesAll.row (pure_fa _) rfl) ⟨.refl _, trivial⟩ (haveV.row (pure_fa _) rfl trivial), .inl rfl, ⟨_, rfl, rfl⟩, rfl, trivial⟩
theorem missing16_f (a b : List Fa) (f1 f2 : Fl) (ha : a.length ≤ 16) (hb : b.length ≤ 1000) (ka : ∀ x ∈ a, okF x) (kb : ∀ x ∈ b, okF x) : AFun Tryz.prog 29 0 [.ro f1 7 (a.map fa), .ro f2 7 (b.map fa)] [] (.ro {} 7 ((misP a b).map fa)) [] :=
  AFun.frz1 (H := []) (missing16_s a b f1 f2 ha hb ka kb) rfl (pure_fa _) (by simp)
set_option maxHeartbeats 1600000 in
set_option maxRecDepth 100000 in
theorem Differ16_s (a b : List Fa) (e : E) (f1 f2 : Fl) (ha : a.length ≤ 16) (hb : b.length ≤ 16) (ka : ∀ x ∈ a, okF x) (kb : ∀ x ∈ b, okF x) : AFun Tryz.prog 9 0 [.ro f1 7 (a.map fa), .ro f2 7 (b.map fa), en e] [] (.slm {} 0 10 0 (difP a b e).length) [(0, rwC (difP a b e))] := by
  refine AFun.of_S T_ok mixed Tryz.func9 rfl (Nat.le_of_ble_eq_true rfl) rfl ?_
  have hG := missing16_f a b f1 f2 ha (by omega) ka kb
  have hC := missing16_f b a f2 f1 hb (by omega) kb ka
  have lG := mis_len a b
  have lC := mis_len b a
  rw [difP]
  generalize misP a b = G at hG lG ⊢
  generalize misP b a = C at hC lC ⊢
  have hmG : (G.map fa).length = G.length := List.length_map _
  have hmC : (C.map fa).length = C.length := List.length_map _
  ((repeat ((conv => whnf); (first | (refine LetN.pre ?_; first | ((conv => arg 1; whnf); refine LetN.mk ?_)) | (refine As.pre ?_; first | refine As.mk rfl ?_) | (refine LetI.pre ?_; first | refine LetI.mk _ rfl ?_) | (refine Ck.pre ?_; first | refine Ck.mk rfl ?_) | (refine CallN.pre ?_; first | refine CallN.pure hG rfl rfl ?_)))); (try (conv => whnf)))
  clear hG
  refine LoopN.weak (s1 := d1S a b G f1 f2 e (0, [])) ?sw1 ?_
  case sw1 => exact SW.mk id rfl rfl (dN _ _ _) ⟨.refl _, .refl _, .refl _, VLe2.nilslm, .refl _, VLe2.int (by rw [hmG]), .refl _, trivial⟩ (haveV.one rfl (haveV.nil (Nat.le_of_ble_eq_true rfl) trivial))
  refine LoopN.ind T_ok mixed (S := d1S a b G f1 f2 e) (fun i => G.length - i.1) (fun i => i.1 ≤ G.length ∧ i.2 = (G.take i.1).map (goneP e)) (fun _ => rfl) (fun i hi ih => ?_) (0, []) ⟨Nat.zero_le _, rfl⟩
  obtain ⟨k, L⟩ := i
  obtain ⟨h1, h2⟩ := hi
  dsimp only at h1 h2
  have hLl : L.length = k := by rw [h2, List.length_map, List.length_take]; omega
  by_cases hlt : k < G.length
  · have hld := fa_ld hlt
    have hnx := ih (k + 1, L ++ [goneP e (G.getD k fa0)]) ⟨hlt, by dsimp only; rw [h2, List.take_succ_eq_append_getElem hlt, List.map_append, List.getD_eq_getElem?_getD, List.getElem?_eq_getElem hlt]; rfl⟩ (by show G.length - (k + 1) < G.length - k; omega)
    clear ih h2
    generalize G.getD k fa0 = f at hld hnx
    have hK := Kept_f f e
    have r1 := room_cg (n := L.length + 1) (by omega)
    have a1 := app_cg L (goneP e f) L.length rfl
    have l1 : (L ++ [goneP e f]).length = L.length + 1 := by simp
    unfold goneP at a1 l1 hnx
    generalize keptP f e.day = kp at hK a1 l1 hnx
    ((repeat ((conv => whnf); (first | (refine LetN.pre ?_; first | ((conv => arg 1; whnf); refine LetN.mk ?_)) | (refine As.pre ?_; first | refine As.mk rfl ?_ | (refine As.mk ?_ ?_; · ((repeat' (refine andT ?_ ?_)) <;> (first | rfl | assumption | exact decide_eq_true (by omega) | exact decide_eq_true (by dsimp only; omega) | exact decide_eq_true (by simp; omega) | (simp; done))))) | (refine LetV.pre ?_; first | refine LetV.mk (t := fsl) _ hld ?_ | refine LetV.mk (.sc (.int _ _)) rfl ?_ | refine LetV.mk (.agg _) rfl ?_) | (refine LetI.pre ?_; first | refine LetI.wrap (by omega) (by omega) ?_) | (refine LetB.pre ?_; first | refine LetB.dect (by omega) ?_) | (refine Br.pre ?_; first | refine Br.tt rfl ?_) | (refine Ck.pre ?_; first | refine Ck.drawn (by kernel_rfl) ?_ | refine Ck.mk rfl ?_) | (refine LetL.pre ?_; first | refine LetL.mk (ty := cty) _ a1 ?_ | refine LetL.mk [_] rfl ?_) | (refine CallN.pre ?_; first | refine CallN.pure hK rfl rfl ?_)))); (try (conv => whnf)))



    refine LoopN.weak ?sw2 hnx
    case sw2 => exact SW.mk rd3 rfl rfl (dN _ _ _) ⟨.refl _, .refl _, .refl _, VLe2.slm_of l1, .refl _, .refl _, VLe2.int (by omega), trivial⟩ (haveV.one rfl (haveV.row (pure_cg _) rfl trivial))
  · clear ih
    rw [List.take_of_length_le (by omega)] at h2
    rw [← h2]
    clear h2
    generalize hR : L ++ C.map (cameP e) = R
    ((repeat ((conv => whnf); (first | (refine As.pre ?_; first | refine As.mk rfl ?_) | (refine LetI.pre ?_; first | refine LetI.mk _ rfl ?_) | (refine LetB.pre ?_; first | refine LetB.decf (by omega) ?_) | (refine Br.pre ?_; first | refine Br.ff rfl ?_) | (refine Ck.pre ?_; first | refine Ck.mk rfl ?_) | (refine CallN.pre ?_; first | refine CallN.pure hC rfl rfl ?_)))); (try (conv => whnf)))
    clear hC
    refine LoopN.weak (s1 := d2S C e (0, L)) ?sw3 ?_
    case sw3 => exact SW.mk id rfl rfl (dN _ _ _) ⟨.refl _, .refl _, .refl _, VLe2.int (by rw [hmC]), .refl _, trivial⟩ (haveV.one rfl (haveV.row (pure_cg _) rfl trivial))
    refine LoopN.ind T_ok mixed (S := d2S C e) (fun i => C.length - i.1) (fun i => i.1 ≤ C.length ∧ i.2 = L ++ (C.take i.1).map (cameP e)) (fun _ => rfl) (fun i hi ih => ?_) (0, L) ⟨Nat.zero_le _, by simp⟩
    obtain ⟨j, N⟩ := i
    obtain ⟨g1, g2⟩ := hi
    dsimp only at g1 g2
    have hNl : N.length = L.length + j := by rw [g2, List.length_append, List.length_map, List.length_take]; omega
    by_cases hlt : j < C.length
    · have hld := fa_ld hlt
      have hnx := ih (j + 1, N ++ [cameP e (C.getD j fa0)]) ⟨hlt, by dsimp only; rw [g2, List.take_succ_eq_append_getElem hlt, List.map_append, List.append_assoc, List.getD_eq_getElem?_getD, List.getElem?_eq_getElem hlt]; rfl⟩ (by show C.length - (j + 1) < C.length - j; omega)
      clear ih g2 hR
      generalize C.getD j fa0 = f at hld hnx
      have r1 := room_cg (n := N.length + 1) (by omega)
      have a1 := app_cg N (cameP e f) N.length rfl
      have l1 : (N ++ [cameP e f]).length = N.length + 1 := by simp
      unfold cameP at a1 l1 hnx
      ((repeat ((conv => whnf); (first | (refine LetN.pre ?_; first | ((conv => arg 1; whnf); refine LetN.mk ?_)) | (refine As.pre ?_; first | refine As.mk rfl ?_ | (refine As.mk ?_ ?_; · ((repeat' (refine andT ?_ ?_)) <;> (first | rfl | assumption | exact decide_eq_true (by omega) | exact decide_eq_true (by dsimp only; omega) | exact decide_eq_true (by simp; omega) | (simp; done))))) | (refine LetV.pre ?_; first | refine LetV.mk (t := fsl) _ hld ?_ | refine LetV.mk (.sc (.int _ _)) rfl ?_ | refine LetV.mk (.agg _) rfl ?_) | (refine LetI.pre ?_; first | refine LetI.wrap (by omega) (by omega) ?_) | (refine LetB.pre ?_; first | refine LetB.dect (by omega) ?_) | (refine Br.pre ?_; first | refine Br.tt rfl ?_) | (refine Ck.pre ?_; first | refine Ck.mk rfl ?_) | (refine LetL.pre ?_; first | refine LetL.mk (ty := cty) _ a1 ?_ | refine LetL.mk [_] rfl ?_)))); (try (conv => whnf)))


      refine LoopN.weak ?sw4 hnx
      case sw4 => exact SW.mk rd3 rfl rfl (dN _ _ _) ⟨.refl _, VLe2.slm_of l1, .refl _, .refl _, VLe2.int (by omega), trivial⟩ (haveV.one rfl (haveV.row (pure_cg _) rfl trivial))
    · clear ih
      rw [List.take_of_length_le (by omega), hR] at g2
      subst g2
      ((repeat ((conv => whnf); (first | (refine As.pre ?_; first | refine As.mk rfl ?_) | (refine LetB.pre ?_; first | refine LetB.decf (by omega) ?_) | (refine Br.pre ?_; first | refine Br.ff rfl ?_) | (refine Ck.pre ?_; first | refine Ck.mk rfl ?_)))); (try (conv => whnf)))
      exact ⟨⟨[(6, .slm {} 0 10 0 N.length)], [(0, rwC N)], 1⟩, SW.mk (fun _ => 1) rfl rfl (namesAll.row (pure_cg _) rfl) ⟨.refl _, trivial⟩ (haveV.row (pure_cg _) rfl trivial), .inl rfl, ⟨_, rfl, rfl⟩, rfl, trivial⟩
end En
end Go.Proofs.YtgnakhljdjekbaaGreatDoor
namespace Go.Proofs.YtgnakhljdjekbaaGreatDoor
open Go.Proofs.YtgnakhljdjekbaaGreatDoor.Am
set_option maxRecDepth 100000
namespace En
/-! ### The reference: Less -/
abbrev six (f : Fa) : List Int := [f.kind, f.student, f.id, f.term, f.n, f.school]
def lt6 (s : Bool) : List Int → List Int → Bool
  | x :: xs, y :: ys => if x = y then lt6 s xs ys else decide (x < y)
  | _, _ => s
theorem nz_step (x y : Int) (r : List Int) (X Y : List Int) (s : Bool) (h : decide (firstNZ r < 0) = lt6 s X Y) : decide (firstNZ (cmpI x y :: r) < 0) = lt6 s (x :: X) (y :: Y) := by
  rw [lt6]
  by_cases e : x = y
  · rw [if_pos e, ← h]
    have : cmpI x y = 0 := (cmpI_0 x y).2 e
    rw [this]; rfl
  · rw [if_neg e, decide_eq_decide, ← cmpI_neg' x y]
    have : cmpI x y ≠ 0 := fun g => e ((cmpI_0 x y).1 g)
    unfold firstNZ
    rw [if_neg this]
theorem ltF_6 (a b : Fa) : ltF a b = lt6 (decide (cmpS a.code b.code < 0)) (six a) (six b) := by
  unfold ltF cmpF cmpsF
  refine nz_step _ _ _ _ _ _ (nz_step _ _ _ _ _ _ (nz_step _ _ _ _ _ _ (nz_step _ _ _ _ _ _ (nz_step _ _ _ _ _ _ (nz_step _ _ _ _ _ _ ?_)))))
  show decide (firstNZ [cmpS a.code b.code] < 0) = decide (cmpS a.code b.code < 0)
  unfold firstNZ
  split
  · rename_i h; rw [h]; rfl
  · rfl
theorem lt6_drop (s : Bool) {xs ys : List Int} {k : Nat} (h1 : k < xs.length) (h2 : k < ys.length) : lt6 s (xs.drop k) (ys.drop k) = if xs.getD k 0 = ys.getD k 0 then lt6 s (xs.drop (k + 1)) (ys.drop (k + 1)) else decide (xs.getD k 0 < ys.getD k 0) := by
  rw [List.drop_eq_getElem_cons h1, List.drop_eq_getElem_cons h2, lt6, List.getD_eq_getElem?_getD, List.getD_eq_getElem?_getD, List.getElem?_eq_getElem h1, List.getElem?_eq_getElem h2]; rfl
theorem less_cmp : ∀ x y : List UInt8, Op.bytesLess x y = decide (Go.Lib.compareBytes x y < 0)
  | [], [] => rfl
  | [], _ :: _ => rfl
  | _ :: _, [] => rfl
  | x :: xs, y :: ys => by
    have ih := less_cmp xs ys
    unfold Op.bytesLess Go.Lib.compareBytes
    by_cases h1 : x < y
    · simp [h1]
    · by_cases h2 : y < x
      · simp [h1, h2]
        intro e; subst e; exact absurd h2 h1
      · simp [h1, h2, ih]
        intro _; exact UInt8.le_antisymm (UInt8.not_lt.1 h2) (UInt8.not_lt.1 h1)
abbrev lsB (a b : Fa) (k : Nat) : AS := ⟨[(2, .ptr 0 7 0 0), (3, .ptr 1 7 0 0), (5, .ro {} 1 ((six a).map int)), (6, .ro {} 1 ((six b).map int)), (7, int k)], [(0, .row 7 fty [fa a]), (1, .row 7 fty [fa b])], 2⟩
set_option maxHeartbeats 1600000 in
set_option maxRecDepth 100000 in
theorem rLess_f (a b : Fa) : AFun Tryz.prog 17 0 [fa a, fa b] [] (bool (ltF a b)) [] := by
  rw [ltF_6]
  generalize hs : decide (cmpS a.code b.code < 0) = s
  obtain ⟨r, hr⟩ : ∃ r, lt6 s (six a) (six b) = r := ⟨_, rfl⟩
  rw [hr]
  refine AFun.of_W T_ok mixed Tryz.func17 rfl (Nat.le_of_ble_eq_true rfl) rfl ?_
  ((repeat ((conv => whnf); (first | (refine LetN.pre ?_; first | ((conv => arg 1; whnf); refine LetN.mk ?_)) | (refine As.pre ?_; first | refine As.mk rfl ?_) | (refine LetV.pre ?_; first | refine LetV.mk (.sc (.int _ _)) rfl ?_) | (refine Ck.pre ?_; first | refine Ck.mk rfl ?_)))); (try (conv => whnf)))
  refine LoopN.weak (s1 := lsB a b 0) ?sw1 ?_
  case sw1 => exact SW.mk id rfl rfl rfl ⟨.refl _, .refl _, VLe2.ro_of rfl, VLe2.ro_of rfl, .refl _, trivial⟩ (haveV.row rfl rfl (haveV.row rfl rfl trivial))
  refine LoopN.ind T_ok mixed (S := lsB a b) (fun k => 6 - k) (fun k => k ≤ 6 ∧ lt6 s ((six a).drop k) ((six b).drop k) = r) (fun _ => rfl) (fun k hk ih => ?_) 0 ⟨Nat.zero_le _, hr⟩
  obtain ⟨h1, h2⟩ := hk
  by_cases hlt : k < 6
  case neg =>
    have : k = 6 := by omega
    subst this
    have e : s = r := h2
    subst e
    subst hs
    clear ih
    ((repeat ((conv => whnf); (first | (refine As.pre ?_; first | refine As.mk rfl ?_) | (refine LetV.pre ?_; first | refine LetV.mk (.sc _) rfl ?_) | (refine LetI.pre ?_; first | refine LetI.mk _ rfl ?_) | (refine LetB.pre ?_; first | refine LetB.ff rfl ?_ | refine LetB.mk _ rfl ?_) | (refine Br.pre ?_; first | refine Br.ff rfl ?_) | (refine Ck.pre ?_; first | refine Ck.mk rfl ?_)))); (try (conv => whnf)))
    have hb : ∀ x : ByteArray, x.toList = x.data.toList := fun x => Go.Lib.toList_data x
    exact ⟨.inl rfl, ⟨_, rfl, congrArg (fun b => AV.sc (.bool b)) ((congr (congrArg Op.bytesLess (hb a.code)) (hb b.code)).trans (less_cmp _ _))⟩, trivial⟩
  have hma : ((six a).map int).length = 6 := rfl
  have hmb : ((six b).map int).length = 6 := rfl
  have hla : int ((six a).getD k 0) = ((six a).map int).getD k (.sc undef) := mapD 0 hlt
  have hlb : int ((six b).getD k 0) = ((six b).map int).getD k (.sc undef) := mapD 0 hlt
  rw [lt6_drop s (xs := six a) (ys := six b) hlt hlt] at h2
  generalize (six a).getD k 0 = x at hla h2
  generalize (six b).getD k 0 = y at hlb h2
  by_cases hxy : x = y
  · rw [if_pos hxy] at h2
    have hnx := ih (k + 1) ⟨by omega, h2⟩ (by omega)
    clear ih h2
    ((repeat ((conv => whnf); (first | (refine As.pre ?_; first | refine As.mk rfl ?_ | (refine As.mk ?_ ?_; · ((repeat' (refine andT ?_ ?_)) <;> (first | rfl | assumption | exact decide_eq_true (by omega) | exact decide_eq_true (by dsimp only; omega) | exact decide_eq_true (by simp; omega) | (simp; done))))) | (refine LetV.pre ?_; first | refine LetV.mk (t := 43) _ hla ?_ | refine LetV.mk (t := 43) _ hlb ?_ | refine LetV.mk (.sc (.int _ _)) rfl ?_) | (refine LetI.pre ?_; first | refine LetI.wrap (by omega) (by omega) ?_ | refine LetI.mk _ rfl ?_) | (refine LetB.pre ?_; first | refine LetB.dect (by omega) ?_ | refine LetB.bnef (by omega) ?_) | (refine Br.pre ?_; first | refine Br.tt rfl ?_ | refine Br.ff rfl ?_) | (refine Ck.pre ?_; first | refine Ck.drawn (by kernel_rfl) ?_ | refine Ck.mk rfl ?_)))); (try (conv => whnf)))
    refine LoopN.weak ?sw2 hnx
    case sw2 => exact SW.mk id rfl rfl rfl ⟨.refl _, .refl _, .refl _, .refl _, VLe2.int (by omega), trivial⟩ (haveV.row rfl rfl (haveV.row rfl rfl trivial))
  · rw [if_neg hxy] at h2
    clear ih
    ((repeat ((conv => whnf); (first | (refine As.pre ?_; first | refine As.mk rfl ?_ | (refine As.mk ?_ ?_; · ((repeat' (refine andT ?_ ?_)) <;> (first | rfl | assumption | exact decide_eq_true (by omega) | exact decide_eq_true (by dsimp only; omega) | exact decide_eq_true (by simp; omega) | (simp; done))))) | (refine LetV.pre ?_; first | refine LetV.mk (t := 43) _ hla ?_ | refine LetV.mk (t := 43) _ hlb ?_ | refine LetV.mk (.sc (.int _ _)) rfl ?_) | (refine LetI.pre ?_; first | refine LetI.mk _ rfl ?_) | (refine LetB.pre ?_; first | refine LetB.dect (by omega) ?_ | refine LetB.bnet (by omega) ?_ | refine LetB.mk _ rfl ?_) | (refine Br.pre ?_; first | refine Br.tt rfl ?_) | (refine Ck.pre ?_; first | refine Ck.drawn (by kernel_rfl) ?_ | refine Ck.mk rfl ?_)))); (try (conv => whnf)))
    exact ⟨.inl rfl, ⟨_, rfl, congrArg (fun b => AV.sc (.bool b)) h2⟩, trivial⟩
end En
end Go.Proofs.YtgnakhljdjekbaaGreatDoor
namespace Go.Proofs.YtgnakhljdjekbaaGreatDoor
open Go.Shelf
/-! The library's contracts at this program: where its functions and types lie. -/
def lays156_ren : Go.Shelf.Ren := ⟨fun | 156 => 32 | 165 => 55 | 166 => 56 | 169 => 57 | 240 => 79 | 241 => 80 | 276 => 99 | 277 => 100 | n => n, fun | 31 => 71 | 9 => 9 | 3 => 3 | 4 => 4 | 0 => 0 | 20 => 20 | 72 => 103 | 76 => 107 | 70 => 100 | 37 => 101 | 75 => 106 | 127 => 125 | 164 => 142 | 5 => 5 | 80 => 109 | n => n, fun | n => n⟩
theorem lays156 : Go.Proofs.Lays.n156 Tryz.prog lays156_ren where
  mixed := by kernel_rfl
  f156 := Tryz.func32.trans (congrArg some (by kernel_rfl))
  f165 := Tryz.func55.trans (congrArg some (by kernel_rfl))
  f166 := Tryz.func56.trans (congrArg some (by kernel_rfl))
  f169 := Tryz.func57.trans (congrArg some (by kernel_rfl))
  f240 := Tryz.func79.trans (congrArg some (by kernel_rfl))
  f241 := Tryz.func80.trans (congrArg some (by kernel_rfl))
  f276 := Tryz.func99.trans (congrArg some (by kernel_rfl))
  f277 := Tryz.func100.trans (congrArg some (by kernel_rfl))
  t0 := Tryz.underlying0
  a0 := Tryz.isAgg0
  z0 := Tryz.sizeOf0
  v0 := Tryz.zeroValue0
  t3 := Tryz.underlying3
  a3 := Tryz.isAgg3
  z3 := Tryz.sizeOf3
  v3 := Tryz.zeroValue3
  t4 := Tryz.underlying4
  a4 := Tryz.isAgg4
  z4 := Tryz.sizeOf4
  v4 := Tryz.zeroValue4
  t9 := Tryz.underlying9
  a9 := Tryz.isAgg9
  z9 := Tryz.sizeOf9
  v9 := Tryz.zeroValue9
  t20 := Tryz.underlying20
  a20 := Tryz.isAgg20
  z20 := Tryz.sizeOf20
  v20 := Tryz.zeroValue20
  t31 := Tryz.underlying71
  a31 := Tryz.isAgg71
  z31 := Tryz.sizeOf71
  v31 := Tryz.zeroValue71
  t37 := Tryz.underlying101
  a37 := Tryz.isAgg101
  z37 := Tryz.sizeOf101
  v37 := Tryz.zeroValue101
  t70 := Tryz.underlying100
  a70 := Tryz.isAgg100
  z70 := Tryz.sizeOf100
  v70 := Tryz.zeroValue100
  t72 := Tryz.underlying103
  a72 := Tryz.isAgg103
  z72 := Tryz.sizeOf103
  v72 := Tryz.zeroValue103
  t75 := Tryz.underlying106
  a75 := Tryz.isAgg106
  z75 := Tryz.sizeOf106
  v75 := Tryz.zeroValue106
  t76 := Tryz.underlying107
  a76 := Tryz.isAgg107
  z76 := Tryz.sizeOf107
  v76 := Tryz.zeroValue107
  t127 := Tryz.underlying125
  a127 := Tryz.isAgg125
  z127 := Tryz.sizeOf125
  v127 := Tryz.zeroValue125
  t164 := Tryz.underlying142
  a164 := Tryz.isAgg142
  z164 := Tryz.sizeOf142
  v164 := Tryz.zeroValue142
theorem xtra : Go.Proofs.Builder.Extra Tryz.prog lays156_ren where
  sizeBuilder := by kernel_rfl
  liesBuilder := by kernel_rfl
  t5 := Tryz.underlying5
  a5 := Tryz.isAgg5
  z5 := Tryz.sizeOf5
  v5 := Tryz.zeroValue5
  infoByte := by kernel_rfl
  cellsByte := by kernel_rfl
  sizeByte := by kernel_rfl
  neB5 := by decide
def lays171_ren : Go.Shelf.Ren := ⟨fun | 171 => 31 | 243 => 54 | 246 => 78 | 283 => 95 | 284 => 96 | 285 => 97 | 286 => 98 | 129 => 127 | 317 => 128 | 318 => 129 | 319 => 130 | 320 => 131 | 337 => 141 | 338 => 142 | n => n, fun | 3 => 3 | 9 => 9 | 2 => 2 | 4 => 4 | 171 => 136 | 0 => 0 | 53 => 137 | 37 => 101 | 5 => 5 | 173 => 140 | 212 => 163 | 51 => 161 | 20 => 20 | 213 => 164 | 46 => 135 | 232 => 177 | 233 => 178 | n => n, fun | 17 => 2 | 18 => 3 | 19 => 4 | n => n⟩
theorem lays171 : Go.Proofs.Lays.n171 Tryz.prog lays171_ren where
  mixed := by kernel_rfl
  f129 := Tryz.func127.trans (congrArg some (by kernel_rfl))
  f171 := Tryz.func31.trans (congrArg some (by kernel_rfl))
  f243 := Tryz.func54.trans (congrArg some (by kernel_rfl))
  f246 := Tryz.func78.trans (congrArg some (by kernel_rfl))
  f283 := Tryz.func95.trans (congrArg some (by kernel_rfl))
  f284 := Tryz.func96.trans (congrArg some (by kernel_rfl))
  f285 := Tryz.func97.trans (congrArg some (by kernel_rfl))
  f286 := Tryz.func98.trans (congrArg some (by kernel_rfl))
  f317 := Tryz.func128.trans (congrArg some (by kernel_rfl))
  f318 := Tryz.func129.trans (congrArg some (by kernel_rfl))
  f319 := Tryz.func130.trans (congrArg some (by kernel_rfl))
  f320 := Tryz.func131.trans (congrArg some (by kernel_rfl))
  f337 := Tryz.func141.trans (congrArg some (by kernel_rfl))
  f338 := Tryz.func142.trans (congrArg some (by kernel_rfl))
  t0 := Tryz.underlying0
  a0 := Tryz.isAgg0
  z0 := Tryz.sizeOf0
  v0 := Tryz.zeroValue0
  t2 := Tryz.underlying2
  a2 := Tryz.isAgg2
  z2 := Tryz.sizeOf2
  v2 := Tryz.zeroValue2
  t3 := Tryz.underlying3
  a3 := Tryz.isAgg3
  z3 := Tryz.sizeOf3
  v3 := Tryz.zeroValue3
  t4 := Tryz.underlying4
  a4 := Tryz.isAgg4
  z4 := Tryz.sizeOf4
  v4 := Tryz.zeroValue4
  t5 := Tryz.underlying5
  a5 := Tryz.isAgg5
  z5 := Tryz.sizeOf5
  v5 := Tryz.zeroValue5
  t9 := Tryz.underlying9
  a9 := Tryz.isAgg9
  z9 := Tryz.sizeOf9
  v9 := Tryz.zeroValue9
  t20 := Tryz.underlying20
  a20 := Tryz.isAgg20
  z20 := Tryz.sizeOf20
  v20 := Tryz.zeroValue20
  t37 := Tryz.underlying101
  a37 := Tryz.isAgg101
  z37 := Tryz.sizeOf101
  v37 := Tryz.zeroValue101
  t46 := Tryz.underlying135
  a46 := Tryz.isAgg135
  z46 := Tryz.sizeOf135
  v46 := Tryz.zeroValue135
  t51 := Tryz.underlying161
  a51 := Tryz.isAgg161
  z51 := Tryz.sizeOf161
  v51 := Tryz.zeroValue161
  t53 := Tryz.underlying137
  a53 := Tryz.isAgg137
  z53 := Tryz.sizeOf137
  v53 := Tryz.zeroValue137
  t171 := Tryz.underlying136
  a171 := Tryz.isAgg136
  z171 := Tryz.sizeOf136
  v171 := Tryz.zeroValue136
  t173 := Tryz.underlying140
  a173 := Tryz.isAgg140
  z173 := Tryz.sizeOf140
  v173 := Tryz.zeroValue140
  t212 := Tryz.underlying163
  a212 := Tryz.isAgg163
  z212 := Tryz.sizeOf163
  v212 := Tryz.zeroValue163
  t213 := Tryz.underlying164
  a213 := Tryz.isAgg164
  z213 := Tryz.sizeOf164
  t232 := Tryz.underlying177
  a232 := Tryz.isAgg177
  z232 := Tryz.sizeOf177
  v232 := Tryz.zeroValue177
  t233 := Tryz.underlying178
  a233 := Tryz.isAgg178
  z233 := Tryz.sizeOf178
  v233 := Tryz.zeroValue178
  g17 := by kernel_rfl
  g18 := by kernel_rfl
  g19 := by kernel_rfl
def laysM171_ren : Go.Shelf.Ren := ⟨fun | 171 => 31 | 243 => 54 | 246 => 78 | 283 => 95 | 284 => 96 | 285 => 97 | 286 => 98 | 129 => 127 | 317 => 128 | 318 => 129 | 319 => 130 | 320 => 131 | 337 => 141 | 338 => 142 | n => n, fun | 3 => 3 | 9 => 9 | 2 => 2 | 4 => 4 | 171 => 136 | 0 => 0 | 53 => 137 | 37 => 101 | 5 => 5 | 173 => 140 | 212 => 163 | 51 => 161 | 20 => 20 | 213 => 164 | 46 => 135 | 232 => 177 | 233 => 178 | n => n, fun | 17 => 2 | 18 => 3 | 19 => 4 | n => n⟩
theorem laysM171 : Go.Proofs.LaysM.n171 Tryz.prog laysM171_ren where
  mixed := by kernel_rfl
  f129 := Tryz.func127.trans (congrArg some (by kernel_rfl))
  f171 := Tryz.func31.trans (congrArg some (by kernel_rfl))
  f243 := Tryz.func54.trans (congrArg some (by kernel_rfl))
  f246 := Tryz.func78.trans (congrArg some (by kernel_rfl))
  f283 := Tryz.func95.trans (congrArg some (by kernel_rfl))
  f284 := Tryz.func96.trans (congrArg some (by kernel_rfl))
  f285 := Tryz.func97.trans (congrArg some (by kernel_rfl))
  f286 := Tryz.func98.trans (congrArg some (by kernel_rfl))
  f317 := Tryz.func128.trans (congrArg some (by kernel_rfl))
  f318 := Tryz.func129.trans (congrArg some (by kernel_rfl))
  f319 := Tryz.func130.trans (congrArg some (by kernel_rfl))
  f320 := Tryz.func131.trans (congrArg some (by kernel_rfl))
  f337 := Tryz.func141.trans (congrArg some (by kernel_rfl))
  f338 := Tryz.func142.trans (congrArg some (by kernel_rfl))
  t0 := Tryz.underlying0
  a0 := Tryz.isAgg0
  z0 := Tryz.sizeOf0
  v0 := Tryz.zeroValue0
  t2 := Tryz.underlying2
  a2 := Tryz.isAgg2
  z2 := Tryz.sizeOf2
  v2 := Tryz.zeroValue2
  t3 := Tryz.underlying3
  a3 := Tryz.isAgg3
  z3 := Tryz.sizeOf3
  v3 := Tryz.zeroValue3
  t4 := Tryz.underlying4
  a4 := Tryz.isAgg4
  z4 := Tryz.sizeOf4
  v4 := Tryz.zeroValue4
  t5 := Tryz.underlying5
  a5 := Tryz.isAgg5
  z5 := Tryz.sizeOf5
  v5 := Tryz.zeroValue5
  t9 := Tryz.underlying9
  a9 := Tryz.isAgg9
  z9 := Tryz.sizeOf9
  v9 := Tryz.zeroValue9
  t20 := Tryz.underlying20
  a20 := Tryz.isAgg20
  z20 := Tryz.sizeOf20
  v20 := Tryz.zeroValue20
  t37 := Tryz.underlying101
  a37 := Tryz.isAgg101
  z37 := Tryz.sizeOf101
  v37 := Tryz.zeroValue101
  t46 := Tryz.underlying135
  a46 := Tryz.isAgg135
  z46 := Tryz.sizeOf135
  v46 := Tryz.zeroValue135
  t51 := Tryz.underlying161
  a51 := Tryz.isAgg161
  z51 := Tryz.sizeOf161
  v51 := Tryz.zeroValue161
  t53 := Tryz.underlying137
  a53 := Tryz.isAgg137
  z53 := Tryz.sizeOf137
  v53 := Tryz.zeroValue137
  t171 := Tryz.underlying136
  a171 := Tryz.isAgg136
  z171 := Tryz.sizeOf136
  v171 := Tryz.zeroValue136
  t173 := Tryz.underlying140
  a173 := Tryz.isAgg140
  z173 := Tryz.sizeOf140
  v173 := Tryz.zeroValue140
  t212 := Tryz.underlying163
  a212 := Tryz.isAgg163
  z212 := Tryz.sizeOf163
  v212 := Tryz.zeroValue163
  t213 := Tryz.underlying164
  a213 := Tryz.isAgg164
  z213 := Tryz.sizeOf164
  t232 := Tryz.underlying177
  a232 := Tryz.isAgg177
  z232 := Tryz.sizeOf177
  v232 := Tryz.zeroValue177
  t233 := Tryz.underlying178
  a233 := Tryz.isAgg178
  z233 := Tryz.sizeOf178
  v233 := Tryz.zeroValue178
  g17 := by kernel_rfl
  g18 := by kernel_rfl
  g19 := by kernel_rfl
  i0 := by kernel_rfl
  i2 := by kernel_rfl
  i3 := by kernel_rfl
  i4 := by kernel_rfl
  i5 := by kernel_rfl
  i9 := by kernel_rfl
  i20 := by kernel_rfl
  i37 := by kernel_rfl
  i46 := by kernel_rfl
  i51 := by kernel_rfl
  i53 := by kernel_rfl
  i171 := by kernel_rfl
  i173 := by kernel_rfl
  i212 := by kernel_rfl
  i232 := by kernel_rfl
  i233 := by kernel_rfl
  m17 := by kernel_rfl
  m18 := by kernel_rfl
  m19 := by kernel_rfl
end Go.Proofs.YtgnakhljdjekbaaGreatDoor
namespace Go.Proofs.YtgnakhljdjekbaaGreatDoor
open Go.Proofs.YtgnakhljdjekbaaGreatDoor.Am
set_option maxRecDepth 100000
namespace En
/-! ### Numerals and joined strings, by the library's contracts -/
theorem of_below {p : Nat} {w w' : World} {g : Gh} (hH : HRel w g []) (h : Go.RowKit.Below w.heap.size w w') : AdvP p w g [] w' g [] ∧ HRel w' g [] := by
  have hI : ∀ b, g.I b → g.I b ∧ w'.heap[b]? = w.heap[b]? := fun b hb => ⟨hb, h.block b (hH.lt b hb)⟩
  refine ⟨⟨fun _ _ => rfl, hI, fun b cs ty fz hb => ⟨cs, (h.block b (heap_lt hb)).trans hb, rfl⟩, ⟨h.os, h.tape, h.output, h.size, fun b hb _ => h.block b hb⟩, (fun id B b E hi => by cases hi), fun b hb _ => .inl hb⟩, ?_⟩
  exact ⟨(fun id B hB => by cases hB), (fun i j b E E' A B hi => by cases hi), (fun i b E B hi => by cases hi), fun b hb => Nat.lt_of_lt_of_le (hH.lt b hb) h.size, hH.gl.mono hI⟩
theorem ItoaS_f (n : Int) (h : 0 ≤ n ∧ n < 100) : AFun Tryz.prog 31 0 [int n] [] (str ⟨(tI n).toArray⟩) [] := by
  intro w g xs hl hx hH _
  obtain ⟨x, rfl⟩ : ∃ x, xs = #[x] := by
    rcases xs with ⟨l⟩
    rcases l with _ | ⟨a, _ | ⟨b, l⟩⟩
    all_goals simp at hl
    exact ⟨a, rfl⟩
  have h0 := (hx 0 _ x rfl rfl).sc_inv
  subst h0
  obtain ⟨i, rfl⟩ : ∃ i : Nat, n = i := ⟨n.toNat, by omega⟩
  have e : tI (i : Int) = Go.Lib.decDigits i := by
    unfold tI Go.Lib.itoa
    rw [if_neg (by omega)]; rfl
  rw [e]
  refine (Any.strconv_Itoa_small lays171 i (by omega) w).mono ?_
  rintro e w' ⟨rfl, rfl⟩
  exact ⟨_, g, rfl, AdvP.refl .., .sc _ rfl, hH⟩
abbrev joinB (xs : List ByteArray) (sep : ByteArray) : ByteArray := ⟨(Go.Lib.join (xs.map (·.data.toList)) sep.data.toList).toArray⟩
theorem Join_f (xs : List ByteArray) (sep : ByteArray) (fl : Fl) (hne : xs ≠ []) (hN : xs.length ≤ 1000) (hlen : (Go.Lib.join (xs.map (·.data.toList)) sep.data.toList).length ≤ 281474976710656) :
    AFun Tryz.prog 32 0 [.ro fl 1 (xs.map str), str sep] [] (str (joinB xs sep)) [] := by
  intro w g vs hl hx hH _
  obtain ⟨x, y, rfl⟩ : ∃ x y, vs = #[x, y] := by
    rcases vs with ⟨l⟩
    rcases l with _ | ⟨a, _ | ⟨b, _ | ⟨d, l⟩⟩⟩
    all_goals simp at hl
    exact ⟨a, b, rfl⟩
  have h0 := hx 0 _ x rfl rfl
  have h1 := (hx 1 _ y rfl rfl).sc_inv
  subst h1
  obtain ⟨x0, xs', hxs⟩ := List.exists_cons_of_ne_nil hne
  generalize hes : xs.map str = es at h0
  cases h0 with
  | roz h1 h2 h3 => rw [hxs] at hes; cases hes
  | ro X k1 k2 k3 k4 k5 k6 =>
    rename_i b o cap
    subst hes
    rw [List.length_map] at k2 ⊢
    refine (Any.strings_Join_48 lays156 xtra b o cap xs sep w (fun j x hj => ?_) (hH.lt b k1) (by omega) k2 hlen).mono ?_
    · have e1 : (xs.map str)[j]? = some (str x) := by rw [List.getElem?_map, hj]; rfl
      have c1 := k5 j 0 (str x) (str x) e1 rfl
      have c2 := (k6 j 0 (str x) (str x) e1 rfl).sc_inv
      rw [c2] at c1
      simpa using c1
    · rintro e w' ⟨rfl, hb⟩
      obtain ⟨hA, hH'⟩ := of_below (p := 0) hH hb
      exact ⟨_, g, rfl, hA, .sc _ rfl, hH'⟩
end En
end Go.Proofs.YtgnakhljdjekbaaGreatDoor
namespace Go.Proofs.YtgnakhljdjekbaaGreatDoor
open Go.Proofs.YtgnakhljdjekbaaGreatDoor.Am
set_option maxRecDepth 100000
namespace En
/-! ### The text of a change -/
abbrev bsB (l : List UInt8) : ByteArray := ⟨l.toArray⟩
def kk (k : Int) : Int := if 1 ≤ k ∧ k ≤ 7 then k else 0
abbrev sgn (g : Bool) : UInt8 := if g then 45 else 43
abbrev txH (c : Cg) : AH := [(0, .row 10 cty [cgA c]), (1, .row 7 fty [fa c.f])]
abbrev tx0 (c : Cg) : AS := ⟨[(1, .ptr 0 10 0 0), (3, .ptr 1 7 0 0), (4, str (bsB [sgn c.gone]))], txH c, 2⟩
abbrev tx1 (c : Cg) : AS := ⟨[(1, .ptr 0 10 0 0), (3, .ptr 1 7 0 0), (4, str (bsB [sgn c.gone])), (5, int (kk c.f.kind))], txH c, 2⟩
abbrev tx2 (c : Cg) : AS := ⟨[(1, .ptr 0 10 0 0), (3, .ptr 1 7 0 0), (6, .ro ⟨true, true⟩ 1 [str (bsB (sgn c.gone :: wordL c.f.kind))])], txH c, 2⟩
abbrev txS (c : Cg) (l : List ByteArray) : AS := ⟨[(1, .ptr 0 10 0 0), (3, .ptr 1 7 0 0), (6, .slm {} 2 1 0 l.length)], txH c ++ [(2, .row 1 9 (l.map str))], 3⟩
def rt5 : Nat → Nat | 2 => 5 | i => i
theorem As.mk0 {b : Bool} {K : Prop} (h : b = true) (k : K) : As b K := .mk h k
def rt3 : Nat → Nat | 2 => 3 | i => i
theorem pure_str : ∀ l : List ByteArray, AV.namesL (fun _ => false) (l.map str) = true
  | [] => rfl
  | p :: l => by simp only [List.map_cons, AV.namesL, pure_str l]; rfl
theorem ttN (a b : Blk) (l : List ByteArray) (ok : Nat → Bool) (ha : a.names ok = true := by rfl) (hb : b.names ok = true := by rfl) : namesAll ok ([(0, a), (1, b)] ++ [(2, .row 1 9 (l.map str))]) = true := by
  have h2 : namesAll ok [(2, .row 1 9 (l.map str))] = true := namesAll.row (pure_str _) rfl
  show namesAll ok ((0, a) :: (1, b) :: [(2, _)]) = true
  rw [namesAll, namesAll, h2, ha, hb]; rfl
theorem wordL_kk (k : Int) : wordL (kk k) = wordL k := by
  unfold kk
  split
  · rfl
  · unfold wordL
    repeat rw [if_neg (by omega)]
set_option maxHeartbeats 3200000 in
set_option maxRecDepth 100000 in
theorem Text_f (c : Cg) (hI : ∀ n, n ∈ [c.f.student, c.f.id, c.f.term, c.f.n, c.f.school, c.entry] → AFun Tryz.prog 31 0 [int n] [] (str (bsB (tI n))) [])
    (hn : ∀ n, n ∈ [c.f.student, c.f.id, c.f.term, c.f.n, c.f.school, c.entry] → okI n) (hc : c.f.code.size ≤ 1000) : AFun Tryz.prog 12 0 [cgA c] [] (str (textP c)) [] := by
  refine AFun.of_VS T_ok Tryz.func12 rfl (Nat.le_of_ble_eq_true rfl) ?_
  refine VS.cut T_ok mixed rfl ?_
  ((repeat ((conv => whnf); (first | (refine LetN.pre ?_; first | ((conv => arg 1; whnf); refine LetN.mk ?_)) | (refine As.pre ?_; first | refine As.mk rfl ?_) | (refine Ck.pre ?_; first | refine Ck.mk rfl ?_)))); (try (conv => whnf)))
  refine VS.cut T_ok mixed rfl ?_
  ((repeat ((conv => whnf); (first | (refine LetN.pre ?_; first | ((conv => arg 1; whnf); refine LetN.mk ?_)) | (refine As.pre ?_; first | refine As.mk rfl ?_) | (refine LetV.pre ?_; first | refine LetV.mk (.agg _) rfl ?_) | (refine Ck.pre ?_; first | refine Ck.mk rfl ?_) | (refine LetL.pre ?_; first | refine LetL.mk [_] rfl ?_)))); (try (conv => whnf)))
  refine VS.cut T_ok mixed rfl ?_
  ((repeat ((conv => whnf); (first | (refine As.pre ?_; first | refine As.mk rfl ?_) | (refine Ck.pre ?_; first | refine Ck.mk rfl ?_)))); (try (conv => whnf)))
  refine VS.joinN (fun _ : Unit => tx0 c) (fun _ => True) ?p0 ?_
  case p0 =>
    refine VS.of_V T_ok mixed rfl ?_
    clear hI hn
    obtain ⟨f, g, kp, en⟩ := c
    cases g <;>
    · ((repeat ((conv => whnf); (first | (refine As.pre ?_; first | refine As.mk rfl ?_) | (refine LetV.pre ?_; first | refine LetV.mk (.sc (.bool _)) rfl ?_) | (refine Br.pre ?_; first | refine Br.tt rfl ?_ | refine Br.ff rfl ?_) | (refine Ck.pre ?_; first | refine Ck.mk rfl ?_)))); (try (conv => whnf)))
      exact ⟨rfl, (), trivial, SW.mk id rfl rfl rfl ⟨.refl _, .refl _, .refl _, trivial⟩ (haveV.one rfl (haveV.one rfl trivial))⟩
  intro _ _
  refine VS.cut T_ok mixed rfl ?_
  ((repeat ((conv => whnf); (first | (refine As.pre ?_; first | refine As.mk rfl ?_) | (refine LetV.pre ?_; first | refine LetV.mk (.sc (.int _ _)) rfl ?_) | (refine Ck.pre ?_; first | refine Ck.mk rfl ?_)))); (try (conv => whnf)))
  refine VS.joinN (fun _ : Unit => tx1 c) (fun _ => True) ?p1 ?_
  case p1 =>
    refine VS.of_V T_ok mixed rfl ?_
    clear hI hn
    obtain ⟨⟨k, st, i, t, n, sc, co⟩, g, kp, en⟩ := c
    by_cases h1 : k < 1
    · have e : kk k = 0 := if_neg (by omega)
      ((repeat ((conv => whnf); (first | (refine As.pre ?_; first | refine As.mk rfl ?_) | (refine LetB.pre ?_; first | refine LetB.dect (by omega) ?_) | (refine Gd.pre ?_; first | refine Gd.pass rfl ?_) | (refine Br.pre ?_; first | refine Br.tt rfl ?_) | (refine Ck.pre ?_; first | refine Ck.mk rfl ?_)))); (try (conv => whnf)))
      exact ⟨rfl, (), trivial, SW.mk id rfl rfl rfl ⟨.refl _, .refl _, .refl _, VLe2.int e, trivial⟩ (haveV.one rfl (haveV.one rfl trivial))⟩
    · by_cases h2 : 8 ≤ k
      · have e : kk k = 0 := if_neg (by omega)
        ((repeat ((conv => whnf); (first | (refine As.pre ?_; first | refine As.mk rfl ?_) | (refine LetB.pre ?_; first | refine LetB.dect (by omega) ?_ | refine LetB.decf (by omega) ?_) | (refine Gd.pre ?_; first | refine Gd.run rfl ?_) | (refine Br.pre ?_; first | refine Br.tt rfl ?_) | (refine Ck.pre ?_; first | refine Ck.mk rfl ?_)))); (try (conv => whnf)))
        exact ⟨rfl, (), trivial, SW.mk id rfl rfl rfl ⟨.refl _, .refl _, .refl _, VLe2.int e, trivial⟩ (haveV.one rfl (haveV.one rfl trivial))⟩
      · have e : kk k = k := if_pos (by omega)
        ((repeat ((conv => whnf); (first | (refine As.pre ?_; first | refine As.mk rfl ?_) | (refine LetB.pre ?_; first | refine LetB.decf (by omega) ?_) | (refine Gd.pre ?_; first | refine Gd.run rfl ?_) | (refine Br.pre ?_; first | refine Br.ff rfl ?_) | (refine Ck.pre ?_; first | refine Ck.mk rfl ?_)))); (try (conv => whnf)))
        exact ⟨rfl, (), trivial, SW.mk id rfl rfl rfl ⟨.refl _, .refl _, .refl _, VLe2.int e, trivial⟩ (haveV.one rfl (haveV.one rfl trivial))⟩
  intro _ _
  refine VS.joinN (fun _ : Unit => tx2 c) (fun _ => True) ?p2 ?_
  case p2 =>
    refine VS.of_V T_ok mixed rfl ?_
    clear hI hn hc
    have hk : kk c.f.kind = 0 ∨ kk c.f.kind = 1 ∨ kk c.f.kind = 2 ∨ kk c.f.kind = 3 ∨ kk c.f.kind = 4 ∨ kk c.f.kind = 5 ∨ kk c.f.kind = 6 ∨ kk c.f.kind = 7 := by
      unfold kk
      split <;> omega
    have hw := wordL_kk c.f.kind
    obtain ⟨f, g, kp, en⟩ := c
    obtain ⟨k, st, i, t, n, sc, co⟩ := f
    dsimp only at hk hw
    unfold tx1 tx2
    dsimp only
    rw [← hw]
    generalize kk k = q at hk
    rcases hk with rfl | rfl | rfl | rfl | rfl | rfl | rfl | rfl <;> cases g <;>
    · ((repeat ((conv => whnf); (first | (refine As.pre ?_; first | refine As.mk rfl ?_) | (refine LetV.pre ?_; first | refine LetV.mk (.sc _) rfl ?_ | refine LetV.mk (.agg _) rfl ?_) | (refine Ck.pre ?_; first | refine Ck.mk rfl ?_)))); (try (conv => whnf)))
      exact ⟨rfl, (), trivial, SW.mk id rfl rfl rfl ⟨.refl _, .refl _, VLe2.of_eq rfl, trivial⟩ (haveV.one rfl (haveV.one rfl trivial))⟩
  intro _ _
  have i1 := hI c.f.student (by simp)
  have i2 := hI c.f.id (by simp)
  have i3 := hI c.f.term (by simp)
  have i4 := hI c.f.n (by simp)
  have i5 := hI c.f.school (by simp)
  have i6 := hI c.entry (by simp)
  clear hI
  refine VS.joinN (fun _ : Unit => txS c [bsB (sgn c.gone :: wordL c.f.kind), bsB (tI c.f.student), bsB (tI c.f.id), bsB (tI c.f.term), bsB (tI c.f.n)]) (fun _ => True) ?p3 ?_
  case p3 =>
    refine VS.of_V T_ok mixed rfl ?_
    clear i5 i6 hn hc
    unfold tx2 txS txH
    generalize bsB (sgn c.gone :: wordL c.f.kind) = w0
    generalize bsB (tI c.f.student) = s1 at i1 ⊢
    generalize bsB (tI c.f.id) = s2 at i2 ⊢
    generalize bsB (tI c.f.term) = s3 at i3 ⊢
    generalize bsB (tI c.f.n) = s4 at i4 ⊢
    obtain ⟨⟨k, st, i, t, n, sc, co⟩, g, kp, en⟩ := c
    dsimp only at i1 i2 i3 i4
    ((repeat ((conv => whnf); (first | (refine As.pre ?_; first | refine As.mk rfl ?_) | (refine LetV.pre ?_; first | refine LetV.mk (.sc (.int _ _)) rfl ?_) | (refine Ck.pre ?_; first | refine Ck.mk rfl ?_)))); (try (conv => whnf)))
    refine LoopN.round T_ok mixed rfl ?_
    ((repeat ((conv => whnf); (first | (refine LetN.pre ?_; first | ((conv => arg 1; whnf); refine LetN.mk ?_)) | (refine As.pre ?_; first | refine As.mk rfl ?_) | (refine LetV.pre ?_; first | refine LetV.mk (.sc (.int _ _)) rfl ?_) | (refine LetI.pre ?_; first | refine LetI.wrap (by omega) (by omega) ?_) | (refine LetB.pre ?_; first | refine LetB.tt rfl ?_) | (refine Br.pre ?_; first | refine Br.tt rfl ?_) | (refine Ck.pre ?_; first | refine Ck.mk rfl ?_) | (refine LetL.pre ?_; first | refine LetL.mk (ty := 9) [_, _] rfl ?_) | (refine CallN.pre ?_; first | refine CallN.pure i1 rfl rfl ?_)))); (try (conv => whnf)))
    refine LoopN.round T_ok mixed rfl ?_
    ((repeat ((conv => whnf); (first | (refine LetN.pre ?_; first | ((conv => arg 1; whnf); refine LetN.mk ?_)) | (refine As.pre ?_; first | refine As.mk rfl ?_) | (refine LetV.pre ?_; first | refine LetV.mk (.sc (.int _ _)) rfl ?_) | (refine LetI.pre ?_; first | refine LetI.wrap (by omega) (by omega) ?_) | (refine LetB.pre ?_; first | refine LetB.tt rfl ?_) | (refine Br.pre ?_; first | refine Br.tt rfl ?_) | (refine Ck.pre ?_; first | refine Ck.mk rfl ?_) | (refine LetL.pre ?_; first | refine LetL.mk (ty := 9) [_, _, _] rfl ?_) | (refine CallN.pre ?_; first | refine CallN.pure i2 rfl rfl ?_)))); (try (conv => whnf)))
    refine LoopN.round T_ok mixed rfl ?_
    ((repeat ((conv => whnf); (first | (refine LetN.pre ?_; first | ((conv => arg 1; whnf); refine LetN.mk ?_)) | (refine As.pre ?_; first | refine As.mk rfl ?_) | (refine LetV.pre ?_; first | refine LetV.mk (.sc (.int _ _)) rfl ?_) | (refine LetI.pre ?_; first | refine LetI.wrap (by omega) (by omega) ?_) | (refine LetB.pre ?_; first | refine LetB.tt rfl ?_) | (refine Br.pre ?_; first | refine Br.tt rfl ?_) | (refine Ck.pre ?_; first | refine Ck.mk rfl ?_) | (refine LetL.pre ?_; first | refine LetL.mk (ty := 9) [_, _, _, _] rfl ?_) | (refine CallN.pre ?_; first | refine CallN.pure i3 rfl rfl ?_)))); (try (conv => whnf)))
    refine LoopN.round T_ok mixed rfl ?_
    ((repeat ((conv => whnf); (first | (refine LetN.pre ?_; first | ((conv => arg 1; whnf); refine LetN.mk ?_)) | (refine As.pre ?_; first | refine As.mk rfl ?_) | (refine LetV.pre ?_; first | refine LetV.mk (.sc (.int _ _)) rfl ?_) | (refine LetI.pre ?_; first | refine LetI.wrap (by omega) (by omega) ?_) | (refine LetB.pre ?_; first | refine LetB.tt rfl ?_) | (refine Br.pre ?_; first | refine Br.tt rfl ?_) | (refine Ck.pre ?_; first | refine Ck.mk rfl ?_) | (refine LetL.pre ?_; first | refine LetL.mk (ty := 9) [_, _, _, _, _] rfl ?_) | (refine CallN.pre ?_; first | refine CallN.pure i4 rfl rfl ?_)))); (try (conv => whnf)))
    refine LoopN.round T_ok mixed rfl ?_
    ((repeat ((conv => whnf); (first | (refine As.pre ?_; first | refine As.mk rfl ?_) | (refine LetB.pre ?_; first | refine LetB.ff rfl ?_) | (refine Br.pre ?_; first | refine Br.ff rfl ?_) | (refine Ck.pre ?_; first | refine Ck.mk rfl ?_)))); (try (conv => whnf)))
    exact ⟨rfl, (), trivial, SW.mk rt5 rfl rfl rfl ⟨.refl _, .refl _, VLe2.slm_of rfl, trivial⟩ (haveV.one rfl (haveV.one rfl (haveV.row rfl rfl trivial)))⟩
  intro _ _
  have hT : textP c = joinB ([bsB (sgn c.gone :: wordL c.f.kind), bsB (tI c.f.student), bsB (tI c.f.id), bsB (tI c.f.term), bsB (tI c.f.n), bsB (tI c.f.school) ++ bsB [58] ++ c.f.code, bsB [98, 121], bsB (tI c.entry)] ++ if c.kept then [bsB [107, 101, 112, 116]] else []) (bsB [32]) := by
    unfold textP pieces joinB
    have e5 : (bsB (tI c.f.school) ++ bsB [58] ++ c.f.code).data.toList = tI c.f.school ++ 58 :: c.f.code.data.toList := by
      simp [bsB]
    cases c.kept <;> simp [e5, bsB]
  have hlen : (Go.Lib.join ((([bsB (sgn c.gone :: wordL c.f.kind), bsB (tI c.f.student), bsB (tI c.f.id), bsB (tI c.f.term), bsB (tI c.f.n), bsB (tI c.f.school) ++ bsB [58] ++ c.f.code, bsB [98, 121], bsB (tI c.entry)] ++ if c.kept then [bsB [107, 101, 112, 116]] else [])).map (·.data.toList)) (bsB [32]).data.toList).length ≤ 281474976710656 := by
    have z : ∀ n, n ∈ [c.f.student, c.f.id, c.f.term, c.f.n, c.f.school, c.entry] → (tI n).length ≤ 21 := fun n h => Go.Lib.itoa_length_le n (hn n h).1 (hn n h).2
    have z1 := z c.f.student (by simp)
    have z2 := z c.f.id (by simp)
    have z3 := z c.f.term (by simp)
    have z4 := z c.f.n (by simp)
    have z5 := z c.f.school (by simp)
    have z6 := z c.entry (by simp)
    have zw : (wordL c.f.kind).length ≤ 8 := by
      unfold wordL
      repeat' split
      all_goals decide
    have zc : c.f.code.data.toList.length ≤ 1000 := by simpa using hc
    have e5 : (bsB (tI c.f.school) ++ bsB [58] ++ c.f.code).data.toList = tI c.f.school ++ 58 :: c.f.code.data.toList := by simp [bsB]
    rw [List.map_append, List.map_cons, List.cons_append, Go.Lib.join_length]
    cases c.kept <;> simp only [Go.Lib.lens, List.map_cons, List.map_nil, List.cons_append, List.nil_append, List.append_nil, List.length_cons, List.length_nil, List.sum_cons, List.sum_nil, e5, List.length_append, if_true, if_false, Bool.false_eq_true] <;> omega
  refine VS.joinN (fun _ : Unit => txS c [bsB (sgn c.gone :: wordL c.f.kind), bsB (tI c.f.student), bsB (tI c.f.id), bsB (tI c.f.term), bsB (tI c.f.n), bsB (tI c.f.school) ++ bsB [58] ++ c.f.code, bsB [98, 121], bsB (tI c.entry)]) (fun _ => True) ?p4 ?_
  case p4 =>
    refine VS.of_V T_ok mixed rfl ?_
    have hz5 : (bsB (tI c.f.school)).size ≤ 21 := by
      have := hn c.f.school (by simp)
      exact Go.Lib.itoa_length_le c.f.school this.1 this.2
    clear hlen hT i1 i2 i3 i4 hn
    unfold txS txH
    generalize bsB (sgn c.gone :: wordL c.f.kind) = w0
    generalize bsB (tI c.f.student) = s1
    generalize bsB (tI c.f.id) = s2
    generalize bsB (tI c.f.term) = s3
    generalize bsB (tI c.f.n) = s4
    generalize bsB (tI c.f.school) = s5 at i5 hz5 ⊢
    generalize bsB (tI c.entry) = s6 at i6 ⊢
    obtain ⟨⟨k, st, i, t, n, sc, co⟩, g, kp, en⟩ := c
    dsimp only at i5 i6 hc
    have q1 : decide (((s5.size + (ByteArray.mk #[58]).size : Nat) : Int) ≤ IntKind.i64.max) = true := decide_eq_true (by
      have e1 : (ByteArray.mk #[58]).size = 1 := rfl
      have e2 : IntKind.i64.max = 9223372036854775807 := rfl
      rw [e1, e2]; omega)
    have q2 : decide ((((s5 ++ (ByteArray.mk #[58])).size + co.size : Nat) : Int) ≤ IntKind.i64.max) = true := decide_eq_true (by
      have e1 : (s5 ++ (ByteArray.mk #[58])).size = s5.size + 1 := by rw [ByteArray.size_append]; rfl
      have e2 : IntKind.i64.max = 9223372036854775807 := rfl
      rw [e1, e2]; omega)
    clear hz5 hc
    ((repeat ((conv => whnf); (first | (refine LetN.pre ?_; first | ((conv => arg 1; whnf); refine LetN.mk ?_)) | (refine As.pre ?_; first | (refine As.mk0 ?_ ?_; · (with_reducible exact q1)) | (refine As.mk0 ?_ ?_; · (with_reducible exact q2)) | refine As.mk rfl ?_) | (refine LetV.pre ?_; first | refine LetV.mk (.sc (.int _ _)) rfl ?_ | refine LetV.mk (.sc _) rfl ?_) | (refine Ck.pre ?_; first | refine Ck.drawn (by kernel_rfl) ?_ | refine Ck.mk rfl ?_) | (refine LetL.pre ?_; first | refine LetL.mk (ty := 9) [_, _, _, _, _, _, _, _] rfl ?_) | (refine CallN.pre ?_; first | refine CallN.pure i5 rfl rfl ?_ | refine CallN.pure i6 rfl rfl ?_)))); (try (conv => whnf)))
    exact ⟨rfl, (), trivial, SW.mk rt3 rfl rfl rfl ⟨.refl _, .refl _, VLe2.slm_of rfl, trivial⟩ (haveV.one rfl (haveV.one rfl (haveV.row rfl rfl trivial)))⟩
  intro _ _
  clear i1 i2 i3 i4 i5 i6 hn hc
  obtain ⟨L, hL⟩ : ∃ L : List ByteArray, L = [bsB (sgn c.gone :: wordL c.f.kind), bsB (tI c.f.student), bsB (tI c.f.id), bsB (tI c.f.term), bsB (tI c.f.n), bsB (tI c.f.school) ++ bsB [58] ++ c.f.code, bsB [98, 121], bsB (tI c.entry)] := ⟨_, rfl⟩
  have hLl : L.length = 8 := by rw [hL]; rfl
  rw [← hL] at hT hlen ⊢
  clear hL
  refine VS.joinN (fun _ : Unit => txS c (L ++ if c.kept then [bsB [107, 101, 112, 116]] else [])) (fun _ => True) ?p5 ?_
  case p5 =>
    refine VS.of_V T_ok mixed rfl ?_
    clear hlen hT
    have hml : (L.map str).length = L.length := List.length_map _
    unfold txS txH
    obtain ⟨⟨k, st, i, t, n, sc, co⟩, g, kp, en⟩ := c
    cases kp with
    | false =>
      ((repeat ((conv => whnf); (first | (refine As.pre ?_; first | refine As.mk rfl ?_) | (refine LetV.pre ?_; first | refine LetV.mk (.sc (.bool _)) rfl ?_) | (refine Br.pre ?_; first | refine Br.ff rfl ?_) | (refine Ck.pre ?_; first | refine Ck.mk rfl ?_)))); (try (conv => whnf)))
      exact ⟨rfl, (), trivial, SW.mk id rfl rfl (ttN _ _ _ _) ⟨.refl _, .refl _, VLe2.slm_of (by simp), trivial⟩ (haveV.one rfl (haveV.one rfl (haveV.row (pure_str _) (by simp [AH.get]) trivial)))⟩
    | true =>
      have a1 : (L ++ [bsB [107, 101, 112, 116]]).map str = (L.map str).take L.length ++ [str (bsB [107, 101, 112, 116])] := by
        rw [List.take_of_length_le (by simp), List.map_append]; rfl
      have r1 : room (L.length + 1) 16 = true := by rw [hLl]; rfl
      ((repeat ((conv => whnf); (first | (refine LetN.pre ?_; first | ((conv => arg 1; whnf); refine LetN.mk ?_)) | (refine As.pre ?_; first | refine As.mk rfl ?_ | (refine As.mk ?_ ?_; · ((repeat' (refine andT ?_ ?_)) <;> (first | rfl | assumption | exact decide_eq_true (by omega) | exact decide_eq_true (by dsimp only; omega) | exact decide_eq_true (by simp; omega) | (simp; done))))) | (refine LetV.pre ?_; first | refine LetV.mk (.sc (.bool _)) rfl ?_) | (refine Br.pre ?_; first | refine Br.tt rfl ?_) | (refine Ck.pre ?_; first | refine Ck.mk rfl ?_) | (refine LetL.pre ?_; first | refine LetL.mk (ty := 9) _ a1 ?_)))); (try (conv => whnf)))
      exact ⟨rfl, (), trivial, SW.mk rt3 rfl rfl (ttN _ _ _ _) ⟨.refl _, .refl _, VLe2.slm_of (by simp), trivial⟩ (haveV.one rfl (haveV.one rfl (haveV.row (pure_str _) rfl trivial)))⟩
  intro _ _
  have hne : L ++ (if c.kept then [bsB [107, 101, 112, 116]] else []) ≠ [] := by
    intro h
    have := congrArg List.length h
    rw [List.length_append, hLl] at this
    simp at this
  have hN : (L ++ (if c.kept then [bsB [107, 101, 112, 116]] else [])).length ≤ 1000 := by
    rw [List.length_append, hLl]
    cases c.kept <;> simp
  generalize (L ++ if c.kept then [bsB [107, 101, 112, 116]] else []) = N at hT hlen hne hN ⊢
  have hJ := Join_f N (bsB [32]) {} hne hN hlen
  rw [← hT] at hJ
  refine VS.of_V T_ok mixed rfl ?_
  generalize textP c = tx at hJ ⊢
  have n1 := pure_str N
  have m1 : N.length = (N.map str).length := (List.length_map _).symm
  clear hT hlen hne hN
  ((repeat ((conv => whnf); (first | (refine As.pre ?_; first | refine As.mk rfl ?_) | (refine Ck.pre ?_; first | refine Ck.mk rfl ?_) | (refine CallN.pre ?_; first | refine CallN.lend hJ rfl (.full rfl n1 m1 (.same rfl .nil)) ?_)))); (try (conv => whnf)))
  exact ⟨_, SW.refl, .inl rfl, ⟨_, rfl, rfl⟩, trivial⟩
end En
end Go.Proofs.YtgnakhljdjekbaaGreatDoor
namespace Go.Proofs.YtgnakhljdjekbaaGreatDoor
open Go.Proofs.YtgnakhljdjekbaaGreatDoor.Am Go.ChangeShapes Go.WideShapes Go.ChangeAt Go.RowKit
set_option maxRecDepth 100000
/-! What the rows list of package-level variables, as the machine reads it. -/
theorem gWords : Tryz.prog.globalNamed "quadrivium/appeal.words" = some 0 := by kernel_rfl
theorem tWords : (Tryz.prog.globals[0]?).map (·.type) = some 74 := by kernel_rfl
theorem gPow : Tryz.prog.globalNamed "internal/strconv.uint64pow10" = some 2 := by kernel_rfl
theorem tPow : (Tryz.prog.globals[2]?).map (·.type) = some 163 := by kernel_rfl
abbrev laidAll : List (String × DataW Unit) := [("math/bits.deBruijn32tab", Rows.laid_math_bits_deBruijn32tab), ("math/bits.deBruijn64tab", Rows.laid_math_bits_deBruijn64tab), ("internal/strconv.uint64pow10", Rows.laid_internal_strconv_uint64pow10), ("quadrivium/appeal.words", Rows.laid_quadrivium_appeal_words)]
/-- The door's own heap meets the condition. -/
theorem door_met (os : Os) (args : Array Value) : laidMetH Tryz.prog laidAll ((World.doorLaid Tryz.prog 4000 os).forCall (fun _ _ => 0) ⟨#[], args, []⟩).memory :=
  laidMetH_of_parts3 (fuel := 8) (laidMet_of_run' 8 (by kernel_rfl) (by kernel_rfl)) (by kernel_rfl) (by kernel_rfl)
def pow10L : List Int := [1, 10, 100, 1000, 10000, 100000, 1000000, 10000000, 100000000, 1000000000, 10000000000, 100000000000, 1000000000000, 10000000000000, 100000000000000, 1000000000000000, 10000000000000000, 100000000000000000, 1000000000000000000, 10000000000000000000]
def wordsB : List (List UInt8) := [[102, 97, 99, 116], [101, 97, 114, 110, 101, 100], [116, 97, 107, 101, 110], [109, 101, 116], [115, 116, 97, 110, 100, 105, 110, 103], [115, 116, 105, 112, 101, 110, 100], [97, 119, 97, 114, 100], [118, 101, 114, 115, 105, 111, 110]]
theorem glob_of_laid {W : World} (h : laidMetH Tryz.prog laidAll W) : GlobW W := by
  rw [MakeChecks.laidMetH_plain _ _ _ (by kernel_rfl)] at h
  obtain ⟨ps, ⟨g0, t0, cs0, f0, p0, q0, hg0, ht0, hv0, hd0, ⟨g1, t1, cs1, f1, p1, q1, hg1, ht1, hv1, hd1, ⟨g2, t2, cs2, f2, p2, q2, hg2, ht2, hv2, hd2, ⟨g3, t3, cs3, f3, p3, q3, hg3, ht3, hv3, hd3, _, _⟩, _⟩, _⟩, _⟩, _⟩ := h
  clear hg0 ht0 hv0 hd0 hg1 ht1 hv1 hd1
  obtain rfl := Option.some.inj (gPow.symm.trans hg2)
  obtain rfl := Option.some.inj (tPow.symm.trans ht2)
  obtain rfl := Option.some.inj (gWords.symm.trans hg3)
  obtain rfl := Option.some.inj (tWords.symm.trans ht3)
  obtain ⟨xs, m1, rfl, hx1, hlen, hn, hel⟩ := DataW.trod_array Tryz.underlying74 hd3
  have c9 : Tryz.prog.cellsOf 9 = 1 := by kernel_rfl
  have hmap : xs.map (·.1) = wordsB.map fun l => (.lit (.string l) : DataW Unit) := by
    have := congrArg Prod.fst hx1
    simp only [Rows.laid_quadrivium_appeal_words, DataW.agg.injEq] at this
    exact this.symm
  have hcell : ∀ (i : Nat) (l : List UInt8), wordsB[i]? = some l → cs3[i]? = some (.string ⟨l.toArray⟩) := by
    intro i l hi
    have hlt : i < 8 := (List.getElem?_eq_some_iff.1 hi).1
    have h1 := hel i hlt
    have h2 : (xs.map (·.1))[i]? = some (.lit (.string l)) := by rw [hmap, List.getElem?_map, hi]; rfl
    rw [List.getElem?_map] at h2
    obtain ⟨x, hx, hx2⟩ := Option.map_eq_some_iff.1 h2
    rw [hx] at h1
    obtain ⟨s, e1, e2, _⟩ := DataW.trod_string Tryz.underlying9 h1
    rw [e2] at hx2
    simp only [DataW.lit.injEq, Lit.string.injEq] at hx2
    subst hx2
    rw [c9, Nat.mul_one] at e1
    have e3 : (cs3.toList.drop i)[0]? = some (.string s) := by
      have := congrArg (fun l => l[0]?) e1
      rw [List.getElem?_take] at this
      simpa using this
    rw [List.getElem?_drop, Nat.add_zero, Array.getElem?_toList] at e3
    exact e3
  have hh : ∃ ty fz, W.heap[0]? = some (.cells cs3 ty fz) := by
    simp only [World.var?, gWords, Option.bind_some] at hv3
    split at hv3
    · rename_i cs ty fz he
      injection hv3 with e
      subst e
      exact ⟨ty, fz, he⟩
    · cases hv3
  obtain ⟨ty, fz, hh⟩ := hh
  obtain ⟨ys, m2, rfl, hy1, hlen2, hn2, hel2⟩ := DataW.trod_array Tryz.underlying163 hd2
  have c137 : Tryz.prog.cellsOf 137 = 1 := by kernel_rfl
  have hmap2 : ys.map (·.1) = pow10L.map fun n => (.lit (.int .u64 n) : DataW Unit) := by
    have := congrArg Prod.fst hy1
    simp only [Rows.laid_internal_strconv_uint64pow10, DataW.agg.injEq] at this
    exact this.symm
  have hcell2 : ∀ (i : Nat) (n : Int), pow10L[i]? = some n → cs2[i]? = some (.int .u64 n) := by
    intro i n hi
    have hlt : i < 20 := (List.getElem?_eq_some_iff.1 hi).1
    have h1 := hel2 i hlt
    have h2 : (ys.map (·.1))[i]? = some (.lit (.int .u64 n)) := by rw [hmap2, List.getElem?_map, hi]; rfl
    rw [List.getElem?_map] at h2
    obtain ⟨x, hx, hx2⟩ := Option.map_eq_some_iff.1 h2
    rw [hx] at h1
    obtain ⟨s, e1, e2, _⟩ := DataW.trod_int Tryz.underlying137 h1
    rw [e2] at hx2
    simp only [DataW.lit.injEq, Lit.int.injEq, true_and] at hx2
    subst hx2
    rw [c137, Nat.mul_one] at e1
    have e3 : (cs2.toList.drop i)[0]? = some (.int .u64 s) := by
      have := congrArg (fun l => l[0]?) e1
      rw [List.getElem?_take] at this
      simpa using this
    rw [List.getElem?_drop, Nat.add_zero, Array.getElem?_toList] at e3
    exact e3
  have hh2 : ∃ ty fz, W.heap[2]? = some (.cells cs2 ty fz) := by
    simp only [World.var?, gPow, Option.bind_some] at hv2
    split at hv2
    · rename_i cs ty fz he
      injection hv2 with e
      subst e
      exact ⟨ty, fz, he⟩
    · cases hv2
  obtain ⟨ty2, fz2, hh2⟩ := hh2
  intro x hx
  have hx' : x = (0, wordsB.map fun l => .string ⟨l.toArray⟩) ∨ x = (2, pow10L.map fun n => .int .u64 n) := by
    rcases List.mem_cons.1 hx with h | h
    · exact .inl h
    · exact .inr (List.mem_singleton.1 h)
  rcases hx' with rfl | rfl
  · refine ⟨(Array.getElem?_eq_some_iff.1 hh).1, cs3, ty, fz, hh, fun j c hj => ?_, (show cs3.toList.length = 8 from hlen.trans (by kernel_rfl))⟩
    rw [List.getElem?_map] at hj
    obtain ⟨l, hl, rfl⟩ := Option.map_eq_some_iff.1 hj
    exact ⟨hcell j l hl, rfl⟩
  · refine ⟨(Array.getElem?_eq_some_iff.1 hh2).1, cs2, ty2, fz2, hh2, fun j c hj => ?_, (show cs2.toList.length = 20 from hlen2.trans (by kernel_rfl))⟩
    rw [List.getElem?_map] at hj
    obtain ⟨l, hl, rfl⟩ := Option.map_eq_some_iff.1 hj
    exact ⟨hcell2 j l hl, rfl⟩
end Go.Proofs.YtgnakhljdjekbaaGreatDoor
