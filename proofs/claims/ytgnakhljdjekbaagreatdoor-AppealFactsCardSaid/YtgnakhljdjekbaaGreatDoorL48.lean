/- appealZD: parts of the proof, DappealZDUQ DappealZDUR DappealZDJB DappealZDJC DappealZDJD DappealZDJE DappealZDFE DappealZDFF DappealZDFG DappealZDFH DappealZDFI DappealZDFJ DappealZDFK DappealZDFL DappealZDFM DappealZDFN DappealZDFO DappealZDFP DappealZDFQ DappealZDFR DappealZDFS DappealZDFT. -/
import Derived.Test.YtgnakhljdjekbaaGreatDoorL47
import Derived.WalkSmall
import Derived.Test.YtgnakhljdjekbaaGreatDoorL42
import Derived.Shelf.GgClosure.StringsIndexFunc
set_option linter.all false
namespace Go.Proofs.YtgnakhljdjekbaaGreatDoor
open Go.Proofs.YtgnakhljdjekbaaGreatDoor.Am
set_option maxRecDepth 100000
namespace En
/-! ### Numerals of any number, in both texts -/
theorem tab_gl {w : World} {g : Gh} (h : Glob w g) : Go.Lib.TabIs Tryz.prog w "internal/strconv.uint64pow10" .u64 Go.Lib.pow10Tab := by
  obtain ⟨_, cs, ty, fz, h2, h3, h4⟩ := h (2, pow10L.map fun n => .int .u64 n) (List.mem_cons_of_mem _ (List.mem_cons_self ..))
  show (Tryz.prog.globalNamed _).bind _ = _
  rw [gPow, Option.bind_some]
  show (match w.heap[2]? with | some (.cells cs _ _) => some cs | _ => none) = _
  rw [h2]
  have hL : Go.Lib.pow10Tab = pow10L := by decide
  rw [hL]
  refine congrArg some (Array.ext' (List.ext_getElem? fun j => ?_))
  rw [Array.getElem?_toList, List.toList_toArray, List.getElem?_map]
  have h4' : cs.size = 20 := h4
  by_cases hj : j < 20
  · have := (h3 j (.int .u64 (pow10L.getD j 0)) (by
      show (pow10L.map fun n => Value.int .u64 n)[j]? = _
      rw [List.getElem?_map, List.getElem?_eq_getElem (show j < pow10L.length from hj), List.getD_eq_getElem?_getD, List.getElem?_eq_getElem (show j < pow10L.length from hj)]; rfl)).1
    rw [this, List.getElem?_eq_getElem (show j < pow10L.length from hj), List.getD_eq_getElem?_getD, List.getElem?_eq_getElem (show j < pow10L.length from hj)]; rfl
  · rw [Array.getElem?_eq_none (by omega), List.getElem?_eq_none (show pow10L.length ≤ j from Nat.le_of_not_lt hj)]; rfl
theorem ItoaF_f (n : Int) (h : okI n) : AFun Tryz.prog 31 0 [int n] [] (str ⟨(tI n).toArray⟩) [] := by
  intro w g xs hl hx hH _
  obtain ⟨x, rfl⟩ : ∃ x, xs = #[x] := by
    rcases xs with ⟨l⟩
    rcases l with _ | ⟨a, _ | ⟨b, l⟩⟩
    all_goals simp at hl
    exact ⟨a, rfl⟩
  have h0 := (hx 0 _ x rfl rfl).sc_inv
  subst h0
  refine (Any.strconv_Itoa laysM171 n h.1 h.2 w (tab_gl hH.gl)).mono ?_
  rintro e w' ⟨rfl, k, os, rfl⟩
  have hb : Go.RowKit.Below w.heap.size w (Go.Sort.grow (w.drewN k) os) := ⟨rfl, rfl, rfl, by simp [Go.Sort.grow, World.drewN], fun b hb => by
    simp only [Go.Sort.grow, World.drewN]
    rw [Array.getElem?_append_left hb]⟩
  obtain ⟨hA, hH'⟩ := of_below (p := 0) hH hb
  exact ⟨_, g, rfl, hA, .sc _ rfl, hH'⟩
theorem TextF_f {c : Cg} (hn : ∀ n, n ∈ [c.f.student, c.f.id, c.f.term, c.f.n, c.f.school, c.entry] → okI n) (hc : c.f.code.size ≤ 1000) : AFun Tryz.prog 12 0 [cgA c] [] (str (textP c)) [] :=
  Text_f c (fun n h => ItoaF_f n (hn n h)) hn hc
/-! The reference's numerals. -/
theorem tI_dig {n : Int} (h : 0 ≤ n ∧ n < 10) : tI n = [UInt8.ofNat (48 + n).toNat] := by
  unfold tI Go.Lib.itoa
  rw [if_neg (by omega), Go.Lib.decDigits_one (by omega), show (48 + n).toNat = 48 + n.toNat by omega]
theorem tI_pos {n : Int} (h : 10 ≤ n) : tI n = tI (n.tdiv 10) ++ tI (n.tmod 10) := by
  obtain ⟨u, rfl⟩ : ∃ u : Nat, n = u := ⟨n.toNat, by omega⟩
  have e1 : (u : Int).tdiv 10 = ((u / 10 : Nat) : Int) := rfl
  have e2 : (u : Int).tmod 10 = ((u % 10 : Nat) : Int) := rfl
  rw [e1, e2]
  unfold tI
  rw [Go.Lib.itoa_nonneg, Go.Lib.itoa_nonneg, Go.Lib.itoa_nonneg, Go.Lib.decDigits, dif_neg (by omega), Go.Lib.decDigits_one (Nat.mod_lt u (by decide : 10 > 0))]
theorem tI_neg1 {n : Int} (h : -10 < n ∧ n < 0) : tI n = 45 :: tI (-n) := by
  obtain ⟨u, rfl⟩ : ∃ u : Nat, n = -(u : Int) := ⟨(-n).toNat, by omega⟩
  unfold tI
  rw [Go.Lib.itoa_neg u (by omega), Int.neg_neg, Go.Lib.itoa_nonneg]
theorem tI_neg {n : Int} (h : n ≤ -10) : tI n = tI (n.tdiv 10) ++ tI (-(n.tmod 10)) := by
  obtain ⟨u, rfl⟩ : ∃ u : Nat, n = -(u : Int) := ⟨(-n).toNat, by omega⟩
  have e1 : (-(u : Int)).tdiv 10 = -((u / 10 : Nat) : Int) := by rw [Int.neg_tdiv]; rfl
  have e2 : -((-(u : Int)).tmod 10) = ((u % 10 : Nat) : Int) := by rw [Int.neg_tmod, Int.neg_neg]; rfl
  rw [e1, e2]
  unfold tI
  rw [Go.Lib.itoa_neg u (by omega), Go.Lib.itoa_neg (u / 10) (by omega), Go.Lib.itoa_nonneg, Go.Lib.decDigits, dif_neg (by omega), Go.Lib.decDigits_one (Nat.mod_lt u (by decide : 10 > 0))]; rfl
theorem bsB_app (a b : List UInt8) : bsB (a ++ b) = bsB a ++ bsB b := by
  refine ByteArray.ext (Array.ext' ?_)
  simp [bsB]
theorem bsB_size (a : List UInt8) : (bsB a).size = a.length := rfl
theorem strOf1 {n : Int} (h : 0 ≤ n ∧ n < 10) : strOf [48 + n] = bsB (tI n) := by rw [tI_dig h]; rfl
theorem qr_pos {n : Int} (h : 10 ≤ n) : ∃ q r, q = n.tdiv 10 ∧ r = n.tmod 10 ∧ 0 ≤ r ∧ r < 10 ∧ 1 ≤ q ∧ q < n := by
  obtain ⟨u, rfl⟩ : ∃ u : Nat, n = u := ⟨n.toNat, by omega⟩
  exact ⟨((u / 10 : Nat) : Int), ((u % 10 : Nat) : Int), rfl, rfl, by omega, by omega, by omega, by omega⟩
theorem qr_neg {n : Int} (h : n < 0) : ∃ q r, q = n.tdiv 10 ∧ r = n.tmod 10 ∧ -10 < r ∧ r ≤ 0 ∧ n < q ∧ q ≤ 0 ∧ (q = 0 → r = n ∧ -10 < n) ∧ (q ≠ 0 → n ≤ -10) := by
  obtain ⟨u, rfl⟩ : ∃ u : Nat, n = -(u : Int) := ⟨(-n).toNat, by omega⟩
  refine ⟨-((u / 10 : Nat) : Int), -((u % 10 : Nat) : Int), ?_, ?_, by omega, by omega, by omega, by omega, by omega, by omega⟩
  · rw [Int.neg_tdiv]; rfl
  · rw [Int.neg_tmod]; rfl
theorem add_ok {a b : ByteArray} (ha : a.size ≤ 1000000) (hb : b.size ≤ 1000000) : decide (((a.size + b.size : Nat) : Int) ≤ IntKind.i64.max) = true := decide_eq_true (by
  have e2 : IntKind.i64.max = 9223372036854775807 := rfl
  rw [e2]; omega)
theorem tI_len {n : Int} (h : okI n) : (bsB (tI n)).size ≤ 21 := Go.Lib.itoa_length_le n h.1 h.2
set_option maxHeartbeats 1600000 in
set_option maxRecDepth 100000 in
theorem rDec_dig (n : Int) (h10 : 0 ≤ n ∧ n < 10) : AFun Tryz.prog 81 0 [int n] [] (str (bsB (tI n))) [] := by
  have hw : 48 + n = IntKind.u8.wrap (48 + n) := by rw [IntKind.wrap_u8]; omega
  have hs := strOf1 h10
  have hby : bytesOf [AV.sc (Value.int IntKind.u8 (48 + n))] = some [48 + n] := rfl
  generalize bsB (tI n) = s at hs ⊢
  refine AFun.of_W T_ok mixed Tryz.func81 rfl (Nat.le_of_ble_eq_true rfl) rfl ?_
  ((repeat ((conv => whnf); (first | (refine As.pre ?_; first | refine As.mk rfl ?_) | (refine LetI.pre ?_; first | refine LetI.mk (o := none) (48 + n) hw ?_ | refine LetI.wrap (by omega) (by omega) ?_) | (refine LetB.pre ?_; first | refine LetB.dect (by omega) ?_) | (refine Gd.pre ?_; first | refine Gd.run rfl ?_) | (refine Br.pre ?_; first | refine Br.tt rfl ?_) | (refine Ck.pre ?_; first | refine Ck.mk rfl ?_) | (refine BytesN.mk _ hby ?_)))); (try (conv => whnf)))
  exact ⟨.inl rfl, ⟨_, rfl, congrArg (fun b => AV.sc (.string b)) hs⟩, trivial⟩
set_option maxHeartbeats 1600000 in
set_option maxRecDepth 100000 in
theorem rDec_f (k : Nat) : ∀ n : Int, okI n → n.natAbs < k → AFun Tryz.prog 81 0 [int n] [] (str (bsB (tI n))) [] := by
  induction k with
  | zero => intro n _ h; omega
  | succ k ih =>
    intro n hn hk
    by_cases h10 : 0 ≤ n ∧ n < 10
    · exact rDec_dig n h10
    · by_cases hneg : n < 0
      · obtain ⟨q, r, hq, hr, b1, b2, b3, b4, b5, b6⟩ := qr_neg hneg
        have hqw : q = IntKind.i64.wrap (n.tdiv 10) := by rw [← hq, wrap_id (by omega) (by have := hn.1; omega)]
        have hnr : -r = IntKind.i64.wrap (0 - r) := by rw [wrap_id (by omega) (by omega)]; omega
        have ihr := rDec_dig (-r)
        have tl := tI_len (n := -r) ⟨by omega, by omega⟩
        by_cases hq0 : q = 0
        · obtain ⟨b7, b8⟩ := b5 hq0
          have ihr := ihr ⟨by omega, by omega⟩
          have hs : bsB [45] ++ bsB (tI (-r)) = bsB (tI n) := by rw [tI_neg1 ⟨b8, hneg⟩, b7, ← bsB_app]; rfl
          clear ih b5 b6
          generalize bsB (tI (-r)) = s1 at ihr hs tl
          generalize bsB (tI n) = s at hs ⊢
          have q1 := add_ok (a := ByteArray.mk #[45]) (b := s1) (by decide) (by omega)
          generalize -r = r' at hnr ihr
          refine AFun.of_W T_ok mixed Tryz.func81 rfl (Nat.le_of_ble_eq_true rfl) rfl ?_
          ((repeat ((conv => whnf); (first | (refine As.pre ?_; first | (refine As.mk0 ?_ ?_; · (with_reducible exact q1)) | refine As.mk rfl ?_) | (refine LetI.pre ?_; first | refine LetI.mk (o := some .rem) r hr ?_ | refine LetI.mk (o := some .quo) q hqw ?_ | refine LetI.mk (o := none) r' hnr ?_) | (refine LetB.pre ?_; first | refine LetB.dect (by omega) ?_ | refine LetB.decf (by omega) ?_) | (refine Gd.pre ?_; first | refine Gd.pass rfl ?_) | (refine Br.pre ?_; first | refine Br.tt rfl ?_ | refine Br.ff rfl ?_) | (refine Ck.pre ?_; first | refine Ck.mk rfl ?_) | (refine CallN.pre ?_; first | refine CallN.pure ihr rfl rfl ?_)))); (try (conv => whnf)))
          exact ⟨.inl rfl, ⟨_, rfl, congrArg (fun b => AV.sc (.string b)) hs⟩, trivial⟩
        · have b9 := b6 hq0
          have hqn : okI q := ⟨by have := hn.1; omega, by omega⟩
          have ihr := ihr ⟨by omega, by omega⟩
          have ihq := ih q hqn (by omega)
          have tq := tI_len hqn
          have hs : bsB (tI q) ++ bsB (tI (-r)) = bsB (tI n) := by rw [tI_neg b9, ← hq, ← hr, bsB_app]
          clear ih b5 b6
          generalize bsB (tI (-r)) = s1 at ihr hs tl
          generalize bsB (tI q) = s2 at ihq hs tq
          generalize bsB (tI n) = s at hs ⊢
          have q1 := add_ok (a := s2) (b := s1) (by omega) (by omega)
          generalize -r = r' at hnr ihr
          refine AFun.of_W T_ok mixed Tryz.func81 rfl (Nat.le_of_ble_eq_true rfl) rfl ?_
          ((repeat ((conv => whnf); (first | (refine As.pre ?_; first | (refine As.mk0 ?_ ?_; · (with_reducible exact q1)) | refine As.mk rfl ?_) | (refine LetI.pre ?_; first | refine LetI.mk (o := some .rem) r hr ?_ | refine LetI.mk (o := some .quo) q hqw ?_ | refine LetI.mk (o := none) r' hnr ?_) | (refine LetB.pre ?_; first | refine LetB.dect (by omega) ?_ | refine LetB.decf (by omega) ?_) | (refine Gd.pre ?_; first | refine Gd.pass rfl ?_) | (refine Br.pre ?_; first | refine Br.tt rfl ?_ | refine Br.ff rfl ?_) | (refine Ck.pre ?_; first | refine Ck.mk rfl ?_) | (refine CallN.pre ?_; first | refine CallN.pure ihq rfl rfl ?_ | refine CallN.pure ihr rfl rfl ?_)))); (try (conv => whnf)))
          exact ⟨.inl rfl, ⟨_, rfl, congrArg (fun b => AV.sc (.string b)) hs⟩, trivial⟩
      · have h11 : 10 ≤ n := by omega
        obtain ⟨q, r, hq, hr, b1, b2, b3, b4⟩ := qr_pos h11
        have hqw : q = IntKind.i64.wrap (n.tdiv 10) := by rw [← hq, wrap_id (by omega) (by have := hn.2; omega)]
        have hqn : okI q := ⟨by omega, by have := hn.2; omega⟩
        have ihr := rDec_dig r ⟨by omega, by omega⟩
        have ihq := ih q hqn (by omega)
        have tl := tI_len (n := r) ⟨by omega, by omega⟩
        have tq := tI_len hqn
        have hs : bsB (tI q) ++ bsB (tI r) = bsB (tI n) := by rw [tI_pos h11, ← hq, ← hr, bsB_app]
        clear ih
        generalize bsB (tI r) = s1 at ihr hs tl
        generalize bsB (tI q) = s2 at ihq hs tq
        generalize bsB (tI n) = s at hs ⊢
        have q1 := add_ok (a := s2) (b := s1) (by omega) (by omega)
        refine AFun.of_W T_ok mixed Tryz.func81 rfl (Nat.le_of_ble_eq_true rfl) rfl ?_
        ((repeat ((conv => whnf); (first | (refine As.pre ?_; first | (refine As.mk0 ?_ ?_; · (with_reducible exact q1)) | refine As.mk rfl ?_) | (refine LetI.pre ?_; first | refine LetI.mk (o := some .rem) r hr ?_ | refine LetI.mk (o := some .quo) q hqw ?_) | (refine LetB.pre ?_; first | refine LetB.dect (by omega) ?_ | refine LetB.decf (by omega) ?_) | (refine Gd.pre ?_; first | refine Gd.run rfl ?_) | (refine Br.pre ?_; first | refine Br.ff rfl ?_) | (refine Ck.pre ?_; first | refine Ck.mk rfl ?_) | (refine CallN.pre ?_; first | refine CallN.pure ihq rfl rfl ?_ | refine CallN.pure ihr rfl rfl ?_)))); (try (conv => whnf)))
        exact ⟨.inl rfl, ⟨_, rfl, congrArg (fun b => AV.sc (.string b)) hs⟩, trivial⟩
theorem rInt_f (n : Int) (h : okI n) : AFun Tryz.prog 58 0 [int n] [] (str (bsB (tI n) ++ ByteArray.mk #[59])) [] := by
  have hd := rDec_f _ n h (Nat.lt_succ_self _)
  have tl := tI_len h
  generalize bsB (tI n) = s at hd tl ⊢
  have q1 := add_ok (a := s) (b := ByteArray.mk #[59]) (by omega) (by decide)
  refine AFun.of_W T_ok mixed Tryz.func58 rfl (Nat.le_of_ble_eq_true rfl) rfl ?_
  ((repeat ((conv => whnf); (first | (refine As.pre ?_; first | (refine As.mk0 ?_ ?_; · (with_reducible exact q1)) | refine As.mk rfl ?_) | (refine Ck.pre ?_; first | refine Ck.mk rfl ?_) | (refine CallN.pre ?_; first | refine CallN.pure hd rfl rfl ?_)))); (try (conv => whnf)))
  exact ⟨.inl rfl, ⟨_, rfl, rfl⟩, trivial⟩
theorem cut_last (s t : ByteArray) : (s ++ t).extract 0 s.size = s := by
  refine ByteArray.ext (Array.ext' ?_)
  rw [ByteArray.data_extract, Array.toList_extract, ByteArray.data_append, Array.toList_append]
  have h : s.data.toList.length = s.size := by simp
  show List.take s.size (List.drop 0 (s.data.toList ++ t.data.toList)) = _
  rw [List.drop_zero]
  exact List.take_left' h
theorem rD_f (n : Int) (h : okI n) : AFun Tryz.prog 33 0 [int n] [] (str (bsB (tI n))) [] := by
  have hd := rInt_f n h
  have tl := tI_len h
  generalize bsB (tI n) = s at hd tl ⊢
  have hz : (s ++ ByteArray.mk #[59]).size = s.size + 1 := ByteArray.size_append
  have hc := cut_last s (ByteArray.mk #[59])
  generalize s ++ ByteArray.mk #[59] = t at hd hz hc
  have hm : ((s.size : Nat) : Int) = IntKind.i64.wrap ((t.size : Nat) - 1) := by rw [hz, wrap_id (by omega) (by omega)]; omega
  refine AFun.of_W T_ok mixed Tryz.func33 rfl (Nat.le_of_ble_eq_true rfl) rfl ?_
  ((repeat ((conv => whnf); (first | (refine As.pre ?_; first | refine As.mk rfl ?_ | (refine As.mk ?_ ?_; · ((repeat' (refine andT ?_ ?_)) <;> (first | rfl | assumption | exact decide_eq_true (by omega) | exact decide_eq_true (by dsimp only; omega) | exact decide_eq_true (by simp; omega) | (simp; done))))) | (refine LetV.pre ?_; first | refine LetV.mk (.sc _) rfl ?_) | (refine LetI.pre ?_; first | refine LetI.mk (o := some .sub) _ hm ?_ | refine LetI.mk _ rfl ?_) | (refine Ck.pre ?_; first | refine Ck.mk rfl ?_) | (refine CallN.pre ?_; first | refine CallN.pure hd rfl rfl ?_)))); (try (conv => whnf)))
  exact ⟨.inl rfl, ⟨_, rfl, congrArg (fun b => AV.sc (.string b)) hc⟩, trivial⟩
/-! The reference's text of a change. -/
def sumP (c : Cg) : ByteArray := bsB [sgn c.gone] ++ bsB (wordL c.f.kind) ++ bsB [32] ++ bsB (tI c.f.student) ++ bsB [32] ++ bsB (tI c.f.id) ++ bsB [32] ++ bsB (tI c.f.term) ++ bsB [32] ++ bsB (tI c.f.n) ++ bsB [32] ++ bsB (tI c.f.school) ++ bsB [58] ++ c.f.code ++ bsB [32, 98, 121, 32] ++ bsB (tI c.entry)
theorem textP_sum (c : Cg) : textP c = if c.kept then sumP c ++ bsB [32, 107, 101, 112, 116] else sumP c := by
  unfold textP pieces
  cases c.kept
  · simp only [if_neg Bool.false_ne_true, List.append_nil, join_cons2, Go.Lib.join_one]
    refine ByteArray.ext (Array.ext' ?_)
    simp [sumP, bsB, sgn]
  · simp only [if_true, List.cons_append, List.nil_append, join_cons2, Go.Lib.join_one]
    refine ByteArray.ext (Array.ext' ?_)
    simp [sumP, bsB, sgn]
abbrev txr (c : Cg) : AH := [(0, .row 10 cty [cgA c])]
abbrev txr0 (c : Cg) : AS := ⟨[(1, .ptr 0 10 0 0), (3, str (bsB [sgn c.gone]))], txr c, 1⟩
abbrev txr1 (c : Cg) : AS := ⟨[(1, .ptr 0 10 0 0), (3, str (bsB [sgn c.gone])), (4, str (bsB (wordL c.f.kind)))], txr c, 1⟩
abbrev txr2 (c : Cg) : AS := ⟨[(1, .ptr 0 10 0 0), (3, str (sumP c))], txr c, 1⟩
set_option maxHeartbeats 3200000 in
set_option maxRecDepth 100000 in
theorem rText_f {c : Cg} (hn : ∀ n, n ∈ [c.f.student, c.f.id, c.f.term, c.f.n, c.f.school, c.entry] → okI n) (hc : c.f.code.size ≤ 1000) : AFun Tryz.prog 13 0 [cgA c] [] (str (textP c)) [] := by
  refine AFun.of_VS T_ok Tryz.func13 rfl (Nat.le_of_ble_eq_true rfl) ?_
  refine VS.cut T_ok mixed rfl ?_
  ((repeat ((conv => whnf); (first | (refine LetN.pre ?_; first | ((conv => arg 1; whnf); refine LetN.mk ?_)) | (refine As.pre ?_; first | refine As.mk rfl ?_) | (refine Ck.pre ?_; first | refine Ck.mk rfl ?_)))); (try (conv => whnf)))
  refine VS.cut T_ok mixed rfl ?_
  ((repeat ((conv => whnf); (first | (refine As.pre ?_; first | refine As.mk rfl ?_) | (refine Ck.pre ?_; first | refine Ck.mk rfl ?_)))); (try (conv => whnf)))
  refine VS.joinN (fun _ : Unit => txr0 c) (fun _ => True) ?p0 ?_
  case p0 =>
    refine VS.of_V T_ok mixed rfl ?_
    clear hn
    obtain ⟨f, g, kp, en⟩ := c
    cases g <;>
    · ((repeat ((conv => whnf); (first | (refine As.pre ?_; first | refine As.mk rfl ?_) | (refine LetV.pre ?_; first | refine LetV.mk (.sc (.bool _)) rfl ?_) | (refine Br.pre ?_; first | refine Br.tt rfl ?_ | refine Br.ff rfl ?_) | (refine Ck.pre ?_; first | refine Ck.mk rfl ?_)))); (try (conv => whnf)))
      exact ⟨rfl, (), trivial, SW.mk id rfl rfl rfl ⟨.refl _, .refl _, trivial⟩ (haveV.one rfl trivial)⟩
  intro _ _
  refine VS.cut T_ok mixed rfl ?_
  ((repeat ((conv => whnf); (first | (refine As.pre ?_; first | refine As.mk rfl ?_) | (refine Ck.pre ?_; first | refine Ck.mk rfl ?_)))); (try (conv => whnf)))
  refine VS.joinN (fun _ : Unit => txr1 c) (fun _ => True) ?p1 ?_
  case p1 =>
    refine VS.of_V T_ok mixed rfl ?_
    clear hn
    obtain ⟨⟨k, st, i, t, n, sc, co⟩, g, kp, en⟩ := c
    dsimp only [txr0, txr1, txr, cgA]
    by_cases hk : k = 1 ∨ k = 2 ∨ k = 3 ∨ k = 4 ∨ k = 5 ∨ k = 6 ∨ k = 7
    · rcases hk with rfl | rfl | rfl | rfl | rfl | rfl | rfl <;>
      · ((repeat ((conv => whnf); (first | (refine As.pre ?_; first | refine As.mk rfl ?_) | (refine LetV.pre ?_; first | refine LetV.mk (.sc (.int _ _)) rfl ?_ | refine LetV.mk (.sc _) rfl ?_) | (refine LetI.pre ?_; first | refine LetI.wrap (by omega) (by omega) ?_) | (refine LetB.pre ?_; first | refine LetB.tt rfl ?_) | (refine Gd.pre ?_; first | refine Gd.run rfl ?_) | (refine Br.pre ?_; first | refine Br.tt rfl ?_) | (refine Ck.pre ?_; first | refine Ck.mk rfl ?_)))); (try (conv => whnf)))
        exact ⟨rfl, (), trivial, SW.mk id rfl rfl rfl ⟨.refl _, .refl _, .refl _, trivial⟩ (haveV.one rfl trivial)⟩
    · have e : wordL k = [102, 97, 99, 116] := by
        unfold wordL
        repeat rw [if_neg (by omega)]
      by_cases h1 : k < 1
      · ((repeat ((conv => whnf); (first | (refine As.pre ?_; first | refine As.mk rfl ?_) | (refine LetV.pre ?_; first | refine LetV.mk (.sc (.int _ _)) rfl ?_) | (refine LetB.pre ?_; first | refine LetB.decf (by omega) ?_) | (refine Gd.pre ?_; first | refine Gd.pass rfl ?_) | (refine Br.pre ?_; first | refine Br.ff rfl ?_) | (refine Ck.pre ?_; first | refine Ck.mk rfl ?_)))); (try (conv => whnf)))
        exact ⟨rfl, (), trivial, SW.mk id rfl rfl rfl ⟨.refl _, .refl _, VLe2.of_eq (congrArg (fun l => str (bsB l)) e), trivial⟩ (haveV.one rfl trivial)⟩
      · have h2 : 8 ≤ k := by omega
        ((repeat ((conv => whnf); (first | (refine As.pre ?_; first | refine As.mk rfl ?_) | (refine LetV.pre ?_; first | refine LetV.mk (.sc (.int _ _)) rfl ?_) | (refine LetB.pre ?_; first | refine LetB.dect (by omega) ?_ | refine LetB.decf (by omega) ?_) | (refine Gd.pre ?_; first | refine Gd.run rfl ?_) | (refine Br.pre ?_; first | refine Br.ff rfl ?_) | (refine Ck.pre ?_; first | refine Ck.mk rfl ?_)))); (try (conv => whnf)))
        exact ⟨rfl, (), trivial, SW.mk id rfl rfl rfl ⟨.refl _, .refl _, VLe2.of_eq (congrArg (fun l => str (bsB l)) e), trivial⟩ (haveV.one rfl trivial)⟩
  intro _ _
  rw [textP_sum]
  have i1 := rD_f c.f.student (hn _ (by simp))
  have i2 := rD_f c.f.id (hn _ (by simp))
  have i3 := rD_f c.f.term (hn _ (by simp))
  have i4 := rD_f c.f.n (hn _ (by simp))
  have i5 := rD_f c.f.school (hn _ (by simp))
  have i6 := rD_f c.entry (hn _ (by simp))
  have z1 := tI_len (hn c.f.student (by simp))
  have z2 := tI_len (hn c.f.id (by simp))
  have z3 := tI_len (hn c.f.term (by simp))
  have z4 := tI_len (hn c.f.n (by simp))
  have z5 := tI_len (hn c.f.school (by simp))
  have z6 := tI_len (hn c.entry (by simp))
  have zw : (bsB (wordL c.f.kind)).size ≤ 8 := by
    rw [bsB_size]
    unfold wordL
    repeat' split
    all_goals decide
  clear hn
  refine VS.cut T_ok mixed rfl ?_
  ((repeat ((conv => whnf); (first | (refine LetN.pre ?_; first | ((conv => arg 1; whnf); refine LetN.mk ?_)) | (refine As.pre ?_; first | refine As.mk rfl ?_) | (refine LetV.pre ?_; first | refine LetV.mk (.agg _) rfl ?_) | (refine Ck.pre ?_; first | refine Ck.mk rfl ?_) | (refine LetL.pre ?_; first | refine LetL.mk [_] rfl ?_)))); (try (conv => whnf)))
  have zz : (sumP c).size ≤ 2000 := by
    unfold sumP
    simp only [ByteArray.size_append]
    have e1 : (bsB [sgn c.gone]).size = 1 := rfl
    have e2 : (bsB [32]).size = 1 := rfl
    have e3 : (bsB [58]).size = 1 := rfl
    have e4 : (bsB [32, 98, 121, 32]).size = 4 := rfl
    omega
  refine VS.joinN (fun _ : Unit => txr2 c) (fun _ => True) ?p2 ?_
  case p2 =>
    refine VS.of_V T_ok mixed rfl ?_
    clear zz
    unfold txr2 sumP txr
    generalize bsB (wordL c.f.kind) = w1 at zw ⊢
    generalize bsB (tI c.f.student) = s1 at i1 z1 ⊢
    generalize bsB (tI c.f.id) = s2 at i2 z2 ⊢
    generalize bsB (tI c.f.term) = s3 at i3 z3 ⊢
    generalize bsB (tI c.f.n) = s4 at i4 z4 ⊢
    generalize bsB (tI c.f.school) = s5 at i5 z5 ⊢
    generalize bsB (tI c.entry) = s6 at i6 z6 ⊢
    have e1 : (bsB [sgn c.gone]).size = 1 := rfl
    generalize bsB [sgn c.gone] = w0 at e1 ⊢
    have e2 : (ByteArray.mk #[32]).size = 1 := rfl
    have e3 : (ByteArray.mk #[58]).size = 1 := rfl
    have e4 : (ByteArray.mk #[32, 98, 121, 32]).size = 4 := rfl
    obtain ⟨⟨k, st, i, t, n, sc, co⟩, g, kp, en⟩ := c
    dsimp only at i1 i2 i3 i4 i5 i6 hc
    ((repeat ((conv => whnf); (first | (refine As.pre ?_; first | (refine As.mk0 ?_ ?_; · ((with_reducible refine add_ok ?_ ?_) <;> ((try simp only [ByteArray.size_append, e2, e3, e4]); omega))) | refine As.mk rfl ?_) | (refine LetV.pre ?_; first | refine LetV.mk (.sc (.int _ _)) rfl ?_ | refine LetV.mk (.sc _) rfl ?_) | (refine Ck.pre ?_; first | refine Ck.drawn (by kernel_rfl) ?_ | refine Ck.mk rfl ?_) | (refine CallN.pre ?_; first | refine CallN.pure i1 rfl rfl ?_ | refine CallN.pure i2 rfl rfl ?_ | refine CallN.pure i3 rfl rfl ?_ | refine CallN.pure i4 rfl rfl ?_ | refine CallN.pure i5 rfl rfl ?_ | refine CallN.pure i6 rfl rfl ?_)))); (try (conv => whnf)))
    exact ⟨rfl, (), trivial, SW.mk id rfl rfl rfl ⟨.refl _, .refl _, trivial⟩ (haveV.one rfl trivial)⟩
  intro _ _
  clear i1 i2 i3 i4 i5 i6
  unfold txr2 txr
  generalize sumP c = s at zz ⊢
  have q1 := add_ok (a := s) (b := ByteArray.mk #[32, 107, 101, 112, 116]) (by omega) (by decide)
  refine VS.of_V T_ok mixed rfl ?_
  obtain ⟨f, g, kp, en⟩ := c
  cases kp <;>
  · ((repeat ((conv => whnf); (first | (refine As.pre ?_; first | (refine As.mk0 ?_ ?_; · (with_reducible exact q1)) | refine As.mk rfl ?_) | (refine LetV.pre ?_; first | refine LetV.mk (.sc (.bool _)) rfl ?_) | (refine Br.pre ?_; first | refine Br.tt rfl ?_ | refine Br.ff rfl ?_) | (refine Ck.pre ?_; first | refine Ck.mk rfl ?_)))); (try (conv => whnf)))
    exact ⟨_, SW.refl, .inl rfl, ⟨_, rfl, rfl⟩, trivial⟩
/-! Kept. -/
theorem RLastW_f (t : Int) : AFun Tryz.prog 35 0 [int t] [] (int (lastW t)) [] := by
  refine AFun.of_W T_ok mixed Tryz.func35 rfl (Nat.le_of_ble_eq_true rfl) rfl ?_
  unfold lastW
  obtain ⟨x, hx⟩ : ∃ x, x = wr (100 * t) := ⟨_, rfl⟩
  have hx' : x = wr (t * 100) := by rw [hx, Int.mul_comm]
  rw [← hx]
  obtain ⟨y, hy⟩ : ∃ y, y = wr (x + 100) := ⟨_, rfl⟩
  rw [← hy]
  obtain ⟨z, hz⟩ : ∃ z, z = wr (y - 1) := ⟨_, rfl⟩
  rw [← hz]
  ((repeat ((conv => whnf); (first | (refine As.pre ?_; first | refine As.mk rfl ?_) | (refine LetI.pre ?_; first | refine LetI.mk (o := some .mul) x hx' ?_ | refine LetI.mk (o := some .add) y hy ?_ | refine LetI.mk (o := some .sub) z hz ?_) | (refine Ck.pre ?_; first | refine Ck.mk rfl ?_)))); (try (conv => whnf)))
  exact ⟨.inl rfl, ⟨_, rfl, rfl⟩, trivial⟩
theorem rKept_f (f : Fa) (e : E) : AFun Tryz.prog 15 0 [fa f, en e] [] (bool (keptP f e.day)) [] := by
  refine AFun.of_W T_ok mixed Tryz.func15 rfl (Nat.le_of_ble_eq_true rfl) rfl ?_
  have hL := RLastW_f f.term
  unfold keptP
  generalize lastW f.term = x at hL ⊢
  by_cases h5 : f.kind = 5
  · rw [decide_eq_true h5, Bool.true_and]
    ((repeat ((conv => whnf); (first | (refine LetN.pre ?_; first | ((conv => arg 1; whnf); refine LetN.mk ?_)) | (refine As.pre ?_; first | refine As.mk rfl ?_) | (refine LetV.pre ?_; first | refine LetV.mk (.sc (.int _ _)) rfl ?_) | (refine LetB.pre ?_; first | refine LetB.dect (by omega) ?_ | refine LetB.mk _ rfl ?_) | (refine Gd.pre ?_; first | refine Gd.run rfl ?_) | (refine Ck.pre ?_; first | refine Ck.drawn (by kernel_rfl) ?_ | refine Ck.mk rfl ?_) | (refine CallN.pre ?_; first | refine CallN.pure hL rfl rfl ?_)))); (try (conv => whnf)))
    exact ⟨.inl rfl, ⟨_, rfl, rfl⟩, trivial⟩
  · rw [decide_eq_false h5, Bool.false_and]
    ((repeat ((conv => whnf); (first | (refine LetN.pre ?_; first | ((conv => arg 1; whnf); refine LetN.mk ?_)) | (refine As.pre ?_; first | refine As.mk rfl ?_) | (refine LetV.pre ?_; first | refine LetV.mk (.sc (.int _ _)) rfl ?_) | (refine LetB.pre ?_; first | refine LetB.decf (by omega) ?_) | (refine Gd.pre ?_; first | refine Gd.pass rfl ?_) | (refine Ck.pre ?_; first | refine Ck.drawn (by kernel_rfl) ?_ | refine Ck.mk rfl ?_)))); (try (conv => whnf)))
    exact ⟨.inl rfl, ⟨_, rfl, rfl⟩, trivial⟩
end En
end Go.Proofs.YtgnakhljdjekbaaGreatDoor
namespace Go.Proofs.YtgnakhljdjekbaaGreatDoor
open Go.Proofs.YtgnakhljdjekbaaGreatDoor.Am
set_option maxRecDepth 100000
namespace En
/-! ### The reference's lists in order, as plain Lean -/
theorem ltF_trans {a b c : Fa} (h1 : ltF a b = true) (h2 : ltF b c = true) : ltF a c = true := by
  simp only [ltF, decide_eq_true_eq] at *
  have := P3.cmpF.tr a b c (by omega) (by omega)
  omega
theorem put_up {l m : List Fa} {f : Fa} {n : Nat} (hl : upF l) (hm : upF m) (hmem : ∀ x, x ∈ m ↔ x ∈ l ∨ x = f) (h1 : ∀ x ∈ l.take n, ltF x f = true) (h2 : ∀ x ∈ l.drop n, ltF x f = false) (h3 : f ∉ l) : l.take n ++ f :: l.drop n = m := by
  have hu : upF (l.take n ++ f :: l.drop n) := by
    refine List.pairwise_append.2 ⟨List.Pairwise.sublist (List.take_sublist ..) hl, List.pairwise_cons.2 ⟨fun x hx => ?_, List.Pairwise.sublist (List.drop_sublist ..) hl⟩, fun x hx y hy => ?_⟩
    · cases e : ltF f x with
      | true => rfl
      | false =>
        have := ltF_tri e (h2 x hx)
        subst this
        exact absurd (List.mem_of_mem_drop hx) h3
    · rcases List.mem_cons.1 hy with rfl | hy
      · exact h1 x hx
      · have : upF (l.take n ++ l.drop n) := by rw [List.take_append_drop]; exact hl
        exact (List.pairwise_append.1 this).2.2 x hx y hy
  refine upF_ext hu hm fun x => ?_
  rw [hmem, List.mem_append, List.mem_cons]
  constructor
  · rintro (h | rfl | h)
    · exact .inl (List.mem_of_mem_take h)
    · exact .inr rfl
    · exact .inl (List.mem_of_mem_drop h)
  · rintro (h | rfl)
    · rw [← List.take_append_drop n l] at h
      rcases List.mem_append.1 h with h | h
      · exact .inl h
      · exact .inr (.inr h)
    · exact .inr (.inl rfl)
theorem take_lt {l : List Fa} {f : Fa} {n : Nat} (hl : upF l) (hn : n ≤ l.length) (h : n = 0 ∨ ltF (l.getD (n - 1) fa0) f = true) : ∀ x ∈ l.take n, ltF x f = true := fun x hx => by
  rcases h with rfl | h
  · simp at hx
  · cases n with
    | zero => simp at hx
    | succ n =>
      rw [Nat.add_sub_cancel] at h
      have hlt : n < l.length := hn
      rw [List.take_succ_eq_append_getElem hlt] at hx
      rw [List.getD_eq_getElem?_getD, List.getElem?_eq_getElem hlt] at h
      rcases List.mem_append.1 hx with hx | hx
      · have hd : upF (l.take n ++ l.drop n) := by rw [List.take_append_drop]; exact hl
        rw [List.drop_eq_getElem_cons hlt] at hd
        exact ltF_trans ((List.pairwise_append.1 hd).2.2 x hx _ (List.mem_cons_self ..)) h
      · rw [List.mem_singleton.1 hx]; exact h
theorem put_not {l : List Fa} {f : Fa} {n : Nat} (hl : upF l) (h1 : ∀ x ∈ l.take n, ltF x f = true) (h2 : ∀ x ∈ l.drop n, ltF x f = false) (hn : ¬ n < l.length ∨ (n < l.length ∧ ¬ l.getD n fa0 = f)) : f ∉ l := fun hf => by
  rw [← List.take_append_drop n l] at hf
  rcases List.mem_append.1 hf with hf | hf
  · have := h1 f hf
    rw [ltF_irr] at this; cases this
  · rcases hn with hn | ⟨hn, he⟩
    · rw [List.drop_eq_nil_of_le (by omega)] at hf; cases hf
    · have hd : upF (l.drop n) := List.Pairwise.sublist (List.drop_sublist ..) hl
      rw [List.drop_eq_getElem_cons hn] at hf hd h2
      rw [List.getD_eq_getElem?_getD, List.getElem?_eq_getElem hn] at he
      rcases List.mem_cons.1 hf with e | hf
      · exact he e.symm
      · have a := (List.pairwise_cons.1 hd).1 f hf
        have b := h2 _ (List.mem_cons_self ..)
        rw [a] at b; cases b
theorem put_is {l m : List Fa} {f : Fa} (hl : upF l) (hm : upF m) (hmem : ∀ x, x ∈ m ↔ x ∈ l ∨ x = f) (hf : f ∈ l) : m = l := upF_ext hm hl fun x => by
  rw [hmem]
  exact ⟨fun h => h.elim id fun e => e ▸ hf, .inl⟩
theorem mis_nil (b : List Fa) : misP [] b = [] := by
  have := mis_len [] b
  exact List.eq_nil_of_length_eq_zero (Nat.le_zero.1 this)
theorem mis_has {a b : List Fa} {k : Nat} (hk : k < a.length) (h : a.getD k fa0 ∈ b) : misP (a.take (k + 1)) b = misP (a.take k) b := by
  refine upF_ext (mis_spec _ _).1 (mis_spec _ _).1 fun x => ?_
  rw [(mis_spec _ _).2, (mis_spec _ _).2, List.take_succ_eq_append_getElem hk, List.mem_append, List.mem_singleton]
  rw [List.getD_eq_getElem?_getD, List.getElem?_eq_getElem hk] at h
  constructor
  · rintro ⟨h1 | rfl, h2⟩
    · exact ⟨h1, h2⟩
    · exact absurd h h2
  · rintro ⟨h1, h2⟩
    exact ⟨.inl h1, h2⟩
theorem mis_put {a b : List Fa} {k : Nat} (hk : k < a.length) (h : a.getD k fa0 ∉ b) : ∀ x, x ∈ misP (a.take (k + 1)) b ↔ x ∈ misP (a.take k) b ∨ x = a.getD k fa0 := fun x => by
  rw [(mis_spec _ _).2, (mis_spec _ _).2, List.take_succ_eq_append_getElem hk, List.mem_append, List.mem_singleton]
  rw [List.getD_eq_getElem?_getD, List.getElem?_eq_getElem hk] at h ⊢
  constructor
  · rintro ⟨h1 | rfl, h2⟩
    · exact .inl ⟨h1, h2⟩
    · exact .inr rfl
  · rintro (⟨h1, h2⟩ | rfl)
    · exact ⟨.inl h1, h2⟩
    · exact ⟨.inr rfl, h⟩

/-! ### The reference's lists in order: the walks -/
theorem str_eqZ {s t : ByteArray} : (s.toList == t.toList) = decide (s = t) := by
  rw [Bool.eq_iff_iff, beq_iff_eq, decide_eq_true_eq, ByteArray.toList_eq, ByteArray.toList_eq]
  exact ⟨fun h => ByteArray.ext (Array.ext' h), fun h => by rw [h]⟩
theorem fact_eqZ (a b : Fa) : (a.kind == b.kind && (a.student == b.student && (a.id == b.id && (a.term == b.term && (a.n == b.n && (a.school == b.school && (a.code.toList == b.code.toList && true) && true)))))) = decide (a = b) := by
  rw [str_eqZ, Bool.eq_iff_iff, decide_eq_true_eq]
  simp only [Bool.and_eq_true, beq_iff_eq, decide_eq_true_eq, and_true]
  obtain ⟨a1, a2, a3, a4, a5, a6, a7⟩ := a
  obtain ⟨b1, b2, b3, b4, b5, b6, b7⟩ := b
  simp only [Fa.mk.injEq]
theorem cg_eqZ (a b : Cg) : (a.f.kind == b.f.kind && (a.f.student == b.f.student && (a.f.id == b.f.id && (a.f.term == b.f.term && (a.f.n == b.f.n && (a.f.school == b.f.school && (a.f.code.toList == b.f.code.toList && true) && true))))) && (a.gone == b.gone && (a.kept == b.kept && (a.entry == b.entry && true)))) = decide (a = b) := by
  rw [fact_eqZ, Bool.eq_iff_iff, decide_eq_true_eq]
  simp only [Bool.and_eq_true, beq_iff_eq, decide_eq_true_eq, and_true]
  obtain ⟨a1, a2, a3, a4⟩ := a
  obtain ⟨b1, b2, b3, b4⟩ := b
  simp only [Cg.mk.injEq]
abbrev hasS (l : List Fa) (fl : Fl) (f : Fa) (k : Nat) : AS := ⟨[(0, .ro fl 7 (l.map fa)), (3, .ptr 0 7 0 0), (5, int k)], [(0, .row 7 fty [fa f])], 1⟩
set_option maxHeartbeats 1600000 in
set_option maxRecDepth 100000 in
theorem rHas_f (l : List Fa) (f : Fa) (fl : Fl) (hl : l.length ≤ 100000) : AFun Tryz.prog 52 0 [.ro fl 7 (l.map fa), fa f] [] (bool (decide (f ∈ l))) [] := by
  refine AFun.of_W T_ok mixed Tryz.func52 rfl (Nat.le_of_ble_eq_true rfl) rfl ?_
  have hm : (l.map fa).length = l.length := List.length_map _
  obtain ⟨R, hR⟩ : ∃ R, R = decide (f ∈ l) := ⟨_, rfl⟩
  rw [← hR]
  ((repeat ((conv => whnf); (first | (refine LetN.pre ?_; first | ((conv => arg 1; whnf); refine LetN.mk ?_)) | (refine As.pre ?_; first | refine As.mk rfl ?_) | (refine Ck.pre ?_; first | refine Ck.mk rfl ?_)))); (try (conv => whnf)))
  refine LoopN.weak (s1 := hasS l fl f 0) (SW.mk id rfl rfl rfl ⟨.refl _, .refl _, .refl _, trivial⟩ (haveV.one rfl trivial)) ?_
  refine LoopN.ind T_ok mixed (S := hasS l fl f) (fun k => l.length - k) (fun k => k ≤ l.length ∧ f ∉ l.take k) (fun _ => rfl) (fun k hk ih => ?_) 0 ⟨Nat.zero_le _, by simp⟩
  obtain ⟨h1, h2⟩ := hk
  by_cases hlt : k < l.length
  case neg =>
    rw [List.take_of_length_le (by omega)] at h2
    rw [decide_eq_false h2] at hR
    subst hR
    clear ih
    ((repeat ((conv => whnf); (first | (refine As.pre ?_; first | refine As.mk rfl ?_) | (refine LetI.pre ?_; first | refine LetI.mk _ rfl ?_) | (refine LetB.pre ?_; first | refine LetB.decf (by omega) ?_) | (refine Br.pre ?_; first | refine Br.ff rfl ?_) | (refine Ck.pre ?_; first | refine Ck.mk rfl ?_)))); (try (conv => whnf)))
    exact ⟨.inl rfl, ⟨_, rfl, rfl⟩, trivial⟩
  have hld := fa_ld hlt
  have hmem : l.getD k fa0 ∈ l := getD_memF hlt
  have hnx := fun (g : ¬ l.getD k fa0 = f) => ih (k + 1) ⟨hlt, by
    rw [List.take_succ_eq_append_getElem hlt, List.mem_append, List.mem_singleton]
    rintro (h | h)
    · exact h2 h
    · exact g (by rw [List.getD_eq_getElem?_getD, List.getElem?_eq_getElem hlt]; exact h.symm)⟩ (by omega)
  clear ih h2
  generalize l.getD k fa0 = x at hld hmem hnx
  have hq := fact_eqZ x f
  by_cases e : x = f
  · subst e
    rw [decide_eq_true hmem] at hR
    subst hR
    rw [decide_eq_true rfl] at hq
    clear hnx
    have hq' := hq.symm
    ((repeat ((conv => whnf); (first | (refine As.pre ?_; first | refine As.mk rfl ?_ | (refine As.mk ?_ ?_; · ((repeat' (refine andT ?_ ?_)) <;> (first | rfl | assumption | exact decide_eq_true (by omega) | exact decide_eq_true (by dsimp only; omega) | exact decide_eq_true (by simp; omega) | (simp; done))))) | (refine LetV.pre ?_; first | refine LetV.mk (t := fsl) _ hld ?_ | refine LetV.mk (.agg _) rfl ?_) | (refine LetI.pre ?_; first | refine LetI.mk _ rfl ?_) | (refine LetB.pre ?_; first | refine LetB.tt (by assumption) ?_ | refine LetB.dect (by omega) ?_) | (refine Br.pre ?_; first | refine Br.tt rfl ?_) | (refine Ck.pre ?_; first | refine Ck.drawn (by kernel_rfl) ?_ | refine Ck.mk rfl ?_)))); (try (conv => whnf)))
    exact ⟨.inl rfl, ⟨_, rfl, rfl⟩, trivial⟩
  · replace hnx := hnx e
    rw [decide_eq_false e] at hq
    have hq' := hq.symm
    clear hR
    ((repeat ((conv => whnf); (first | (refine As.pre ?_; first | refine As.mk rfl ?_ | (refine As.mk ?_ ?_; · ((repeat' (refine andT ?_ ?_)) <;> (first | rfl | assumption | exact decide_eq_true (by omega) | exact decide_eq_true (by dsimp only; omega) | exact decide_eq_true (by simp; omega) | (simp; done))))) | (refine LetV.pre ?_; first | refine LetV.mk (t := fsl) _ hld ?_ | refine LetV.mk (.agg _) rfl ?_) | (refine LetI.pre ?_; first | refine LetI.wrap (by omega) (by omega) ?_ | refine LetI.mk _ rfl ?_) | (refine LetB.pre ?_; first | refine LetB.ff (by assumption) ?_ | refine LetB.dect (by omega) ?_) | (refine Br.pre ?_; first | refine Br.tt rfl ?_ | refine Br.ff rfl ?_) | (refine Ck.pre ?_; first | refine Ck.drawn (by kernel_rfl) ?_ | refine Ck.mk rfl ?_)))); (try (conv => whnf)))
    refine LoopN.weak ?sw hnx
    case sw => exact SW.mk id rfl rfl rfl ⟨.refl _, .refl _, VLe2.int (by omega), trivial⟩ (haveV.one rfl trivial)
/-! Put. -/
abbrev putS (l : List Fa) (fl : Fl) (f : Fa) (k : Nat) : AS := ⟨[(0, .ro fl 7 (l.map fa)), (3, .ptr 0 7 0 0), (5, int k)], [(0, .row 7 fty [fa f])], 1⟩
def PutAt (l : List Fa) (f : Fa) (n : Nat) : Prop := n ≤ l.length ∧ (∀ x ∈ l.take n, ltF x f = true) ∧ ∀ x ∈ l.drop n, ltF x f = false
theorem stor_fa : ∀ l : List Fa, storables (l.map fa) = true
  | [] => rfl
  | f :: l => by
    have := stor_fa l
    simp only [List.map_cons, storables, List.all_cons] at this ⊢
    rw [this]; rfl


theorem put_gt {l : List Fa} {f : Fa} {n : Nat} (h2 : ∀ x ∈ l.drop (n + 1), ltF x f = false) (hlt : n < l.length) (h : ltF (l.getD n fa0) f = false) : ∀ x ∈ l.drop n, ltF x f = false := fun x hx => by
  rw [List.drop_eq_getElem_cons hlt] at hx
  rw [List.getD_eq_getElem?_getD, List.getElem?_eq_getElem hlt] at h
  rcases List.mem_cons.1 hx with rfl | hx
  · exact h
  · exact h2 x hx
set_option maxHeartbeats 1600000 in
set_option maxRecDepth 100000 in
theorem rPut_in (l : List Fa) (f : Fa) (fl : Fl) (hl : l.length ≤ 100000) (hu : upF l) (hf : f ∈ l) : AFun Tryz.prog 53 0 [.ro fl 7 (l.map fa), fa f] [] (.ro {} 7 (l.map fa)) [] := by
  refine AFun.of_VS T_ok Tryz.func53 rfl (Nat.le_of_ble_eq_true rfl) ?_
  have hm : (l.map fa).length = l.length := List.length_map _
  refine VS.cut T_ok mixed rfl ?_
  ((repeat ((conv => whnf); (first | (refine LetN.pre ?_; first | ((conv => arg 1; whnf); refine LetN.mk ?_)) | (refine As.pre ?_; first | refine As.mk rfl ?_) | (refine Ck.pre ?_; first | refine Ck.mk rfl ?_)))); (try (conv => whnf)))
  refine VS.cut T_ok mixed rfl ?_
  ((repeat ((conv => whnf); (first | (refine As.pre ?_; first | refine As.mk rfl ?_) | (refine LetI.pre ?_; first | refine LetI.mk _ rfl ?_) | (refine Ck.pre ?_; first | refine Ck.mk rfl ?_)))); (try (conv => whnf)))
  refine VS.joinN (fun n : Nat => putS l fl f n) (fun n => PutAt l f n) ?loop ?rest
  case loop =>
    refine VS.of_V T_ok mixed rfl ?_
    ((try (conv => whnf)))
    refine LoopN.weak (s1 := putS l fl f l.length) ?sw1 ?_
    case sw1 => exact SW.mk id rfl rfl rfl ⟨.refl _, .refl _, VLe2.int (by rw [hm]), trivial⟩ (haveV.one rfl trivial)
    refine LoopN.ind T_ok mixed (S := putS l fl f) (fun k => k) (fun k => k ≤ l.length ∧ ∀ x ∈ l.drop k, ltF x f = false) (fun _ => rfl) (fun k hk ih => ?_) l.length ⟨Nat.le_refl _, fun x hx => by rw [List.drop_length] at hx; cases hx⟩
    obtain ⟨h1, h2⟩ := hk
    rcases k with _ | k
    · clear ih
      ((repeat ((conv => whnf); (first | (refine As.pre ?_; first | refine As.mk rfl ?_) | (refine LetB.pre ?_; first | refine LetB.ff rfl ?_) | (refine Gd.pre ?_; first | refine Gd.pass rfl ?_) | (refine Br.pre ?_; first | refine Br.ff rfl ?_) | (refine Ck.pre ?_; first | refine Ck.drawn (by kernel_rfl) ?_ | refine Ck.mk rfl ?_)))); (try (conv => whnf)))
      exact ⟨rfl, 0, ⟨h1, take_lt hu h1 (.inl rfl), h2⟩, SW.mk id rfl rfl rfl ⟨.refl _, .refl _, .refl _, trivial⟩ (haveV.one rfl trivial)⟩
    have hlt : k < l.length := h1
    have hld := fa_ld hlt
    have hk : (k : Int) = IntKind.i64.wrap (((k + 1 : Nat) : Int) - 1) := by rw [wrap_id (by omega) (by omega)]; omega
    have hnx := fun g => ih k ⟨by omega, put_gt h2 hlt g⟩ (by omega)
    have hex := fun g => take_lt (f := f) hu h1 (.inr g)
    rw [Nat.add_sub_cancel] at hex
    clear ih
    generalize l.getD k fa0 = x at hld hnx hex
    have hL := rLess_f x f
    cases e : ltF x f with
    | true =>
      rw [e] at hL
      clear hnx
      ((repeat ((conv => whnf); (first | (refine As.pre ?_; first | refine As.mk rfl ?_ | (refine As.mk ?_ ?_; · ((repeat' (refine andT ?_ ?_)) <;> (first | rfl | assumption | exact decide_eq_true (by omega) | exact decide_eq_true (by dsimp only; omega) | exact decide_eq_true (by simp; omega) | (simp; done))))) | (refine LetV.pre ?_; first | refine LetV.mk (t := fsl) _ hld ?_ | refine LetV.mk (.agg _) rfl ?_) | (refine LetI.pre ?_; first | refine LetI.mk (o := some .sub) _ hk ?_) | (refine LetB.pre ?_; first | refine LetB.dect (by omega) ?_) | (refine Gd.pre ?_; first | refine Gd.run rfl ?_) | (refine Br.pre ?_; first | refine Br.ff rfl ?_) | (refine Ck.pre ?_; first | refine Ck.drawn (by kernel_rfl) ?_ | refine Ck.mk rfl ?_) | (refine CallN.pre ?_; first | refine CallN.pure hL rfl rfl ?_)))); (try (conv => whnf)))
      exact ⟨rfl, k + 1, ⟨h1, hex e, h2⟩, SW.mk id rfl rfl rfl ⟨.refl _, .refl _, .refl _, trivial⟩ (haveV.one rfl trivial)⟩
    | false =>
      rw [e] at hL
      replace hnx := hnx e
      clear hex h2
      ((repeat ((conv => whnf); (first | (refine As.pre ?_; first | refine As.mk rfl ?_ | (refine As.mk ?_ ?_; · ((repeat' (refine andT ?_ ?_)) <;> (first | rfl | assumption | exact decide_eq_true (by omega) | exact decide_eq_true (by dsimp only; omega) | exact decide_eq_true (by simp; omega) | (simp; done))))) | (refine LetV.pre ?_; first | refine LetV.mk (t := fsl) _ hld ?_ | refine LetV.mk (.agg _) rfl ?_) | (refine LetI.pre ?_; first | refine LetI.mk (o := some .sub) _ hk ?_) | (refine LetB.pre ?_; first | refine LetB.dect (by omega) ?_) | (refine Gd.pre ?_; first | refine Gd.run rfl ?_) | (refine Br.pre ?_; first | refine Br.tt rfl ?_) | (refine Ck.pre ?_; first | refine Ck.drawn (by kernel_rfl) ?_ | refine Ck.mk rfl ?_) | (refine CallN.pre ?_; first | refine CallN.pure hL rfl rfl ?_)))); (try (conv => whnf)))
      refine LoopN.weak ?sw2 hnx
      case sw2 => exact SW.mk id rfl rfl rfl ⟨.refl _, .refl _, .refl _, trivial⟩ (haveV.one rfl trivial)
  case rest =>
    rintro n ⟨h1, h2, h3⟩
    have hin : n < l.length ∧ l.getD n fa0 = f := by
      apply Classical.byContradiction
      intro h
      refine put_not hu h2 h3 ?_ hf
      by_cases c : n < l.length
      · exact .inr ⟨c, fun e => h ⟨c, e⟩⟩
      · exact .inl c
    obtain ⟨hlt, he⟩ := hin
    have hld := fa_ld hlt
    rw [he] at hld
    clear he h2 h3 hu hf
    have hq' := ((fact_eqZ f f).trans (decide_eq_true rfl)).symm
    refine VS.of_V T_ok mixed rfl ?_
    ((repeat ((conv => whnf); (first | (refine As.pre ?_; first | refine As.mk rfl ?_ | (refine As.mk ?_ ?_; · ((repeat' (refine andT ?_ ?_)) <;> (first | rfl | assumption | exact decide_eq_true (by omega) | exact decide_eq_true (by dsimp only; omega) | exact decide_eq_true (by simp; omega) | (simp; done))))) | (refine LetV.pre ?_; first | refine LetV.mk (t := fsl) _ hld ?_ | refine LetV.mk (.agg _) rfl ?_) | (refine LetI.pre ?_; first | refine LetI.mk _ rfl ?_) | (refine LetB.pre ?_; first | refine LetB.mk (o := some .eql) true hq' ?_ | refine LetB.dect (by omega) ?_) | (refine Gd.pre ?_; first | refine Gd.run rfl ?_) | (refine Br.pre ?_; first | refine Br.tt rfl ?_) | (refine Ck.pre ?_; first | refine Ck.drawn (by kernel_rfl) ?_ | refine Ck.mk rfl ?_)))); (try (conv => whnf)))
    exact ⟨⟨[(4, .ro {} 7 (l.map fa))], [], 1⟩, SW.mk id rfl rfl rfl ⟨VLe2.ro_of rfl, trivial⟩ trivial, .inl rfl, ⟨_, rfl, rfl⟩, trivial⟩
set_option maxHeartbeats 1600000 in
set_option maxRecDepth 100000 in
theorem rPut_out (l m : List Fa) (f : Fa) (fl : Fl) (hl : l.length ≤ 1000) (hu : upF l) (hum : upF m) (hmem : ∀ x, x ∈ m ↔ x ∈ l ∨ x = f) (hf : f ∉ l) : AFun Tryz.prog 53 0 [.ro fl 7 (l.map fa), fa f] [] (.slm {} 0 7 0 m.length) [(0, .row 7 fty (m.map fa))] := by
  refine AFun.of_VS T_ok Tryz.func53 rfl (Nat.le_of_ble_eq_true rfl) ?_
  have hm : (l.map fa).length = l.length := List.length_map _
  refine VS.cut T_ok mixed rfl ?_
  ((repeat ((conv => whnf); (first | (refine LetN.pre ?_; first | ((conv => arg 1; whnf); refine LetN.mk ?_)) | (refine As.pre ?_; first | refine As.mk rfl ?_) | (refine Ck.pre ?_; first | refine Ck.mk rfl ?_)))); (try (conv => whnf)))
  refine VS.cut T_ok mixed rfl ?_
  ((repeat ((conv => whnf); (first | (refine As.pre ?_; first | refine As.mk rfl ?_) | (refine LetI.pre ?_; first | refine LetI.mk _ rfl ?_) | (refine Ck.pre ?_; first | refine Ck.mk rfl ?_)))); (try (conv => whnf)))
  refine VS.joinN (fun n : Nat => putS l fl f n) (fun n => PutAt l f n) ?loop ?rest
  case loop =>
    refine VS.of_V T_ok mixed rfl ?_
    ((try (conv => whnf)))
    refine LoopN.weak (s1 := putS l fl f l.length) ?sw1 ?_
    case sw1 => exact SW.mk id rfl rfl rfl ⟨.refl _, .refl _, VLe2.int (by rw [hm]), trivial⟩ (haveV.one rfl trivial)
    refine LoopN.ind T_ok mixed (S := putS l fl f) (fun k => k) (fun k => k ≤ l.length ∧ ∀ x ∈ l.drop k, ltF x f = false) (fun _ => rfl) (fun k hk ih => ?_) l.length ⟨Nat.le_refl _, fun x hx => by rw [List.drop_length] at hx; cases hx⟩
    obtain ⟨h1, h2⟩ := hk
    rcases k with _ | k
    · clear ih
      ((repeat ((conv => whnf); (first | (refine As.pre ?_; first | refine As.mk rfl ?_) | (refine LetB.pre ?_; first | refine LetB.ff rfl ?_) | (refine Gd.pre ?_; first | refine Gd.pass rfl ?_) | (refine Br.pre ?_; first | refine Br.ff rfl ?_) | (refine Ck.pre ?_; first | refine Ck.drawn (by kernel_rfl) ?_ | refine Ck.mk rfl ?_)))); (try (conv => whnf)))
      exact ⟨rfl, 0, ⟨h1, take_lt hu h1 (.inl rfl), h2⟩, SW.mk id rfl rfl rfl ⟨.refl _, .refl _, .refl _, trivial⟩ (haveV.one rfl trivial)⟩
    have hlt : k < l.length := h1
    have hld := fa_ld hlt
    have hk : (k : Int) = IntKind.i64.wrap (((k + 1 : Nat) : Int) - 1) := by rw [wrap_id (by omega) (by omega)]; omega
    have hnx := fun g => ih k ⟨by omega, put_gt h2 hlt g⟩ (by omega)
    have hex := fun g => take_lt (f := f) hu h1 (.inr g)
    rw [Nat.add_sub_cancel] at hex
    clear ih
    generalize l.getD k fa0 = x at hld hnx hex
    have hL := rLess_f x f
    cases e : ltF x f with
    | true =>
      rw [e] at hL
      clear hnx
      ((repeat ((conv => whnf); (first | (refine As.pre ?_; first | refine As.mk rfl ?_ | (refine As.mk ?_ ?_; · ((repeat' (refine andT ?_ ?_)) <;> (first | rfl | assumption | exact decide_eq_true (by omega) | exact decide_eq_true (by dsimp only; omega) | exact decide_eq_true (by simp; omega) | (simp; done))))) | (refine LetV.pre ?_; first | refine LetV.mk (t := fsl) _ hld ?_ | refine LetV.mk (.agg _) rfl ?_) | (refine LetI.pre ?_; first | refine LetI.mk (o := some .sub) _ hk ?_) | (refine LetB.pre ?_; first | refine LetB.dect (by omega) ?_) | (refine Gd.pre ?_; first | refine Gd.run rfl ?_) | (refine Br.pre ?_; first | refine Br.ff rfl ?_) | (refine Ck.pre ?_; first | refine Ck.drawn (by kernel_rfl) ?_ | refine Ck.mk rfl ?_) | (refine CallN.pre ?_; first | refine CallN.pure hL rfl rfl ?_)))); (try (conv => whnf)))
      exact ⟨rfl, k + 1, ⟨h1, hex e, h2⟩, SW.mk id rfl rfl rfl ⟨.refl _, .refl _, .refl _, trivial⟩ (haveV.one rfl trivial)⟩
    | false =>
      rw [e] at hL
      replace hnx := hnx e
      clear hex h2
      ((repeat ((conv => whnf); (first | (refine As.pre ?_; first | refine As.mk rfl ?_ | (refine As.mk ?_ ?_; · ((repeat' (refine andT ?_ ?_)) <;> (first | rfl | assumption | exact decide_eq_true (by omega) | exact decide_eq_true (by dsimp only; omega) | exact decide_eq_true (by simp; omega) | (simp; done))))) | (refine LetV.pre ?_; first | refine LetV.mk (t := fsl) _ hld ?_ | refine LetV.mk (.agg _) rfl ?_) | (refine LetI.pre ?_; first | refine LetI.mk (o := some .sub) _ hk ?_) | (refine LetB.pre ?_; first | refine LetB.dect (by omega) ?_) | (refine Gd.pre ?_; first | refine Gd.run rfl ?_) | (refine Br.pre ?_; first | refine Br.tt rfl ?_) | (refine Ck.pre ?_; first | refine Ck.drawn (by kernel_rfl) ?_ | refine Ck.mk rfl ?_) | (refine CallN.pre ?_; first | refine CallN.pure hL rfl rfl ?_)))); (try (conv => whnf)))
      refine LoopN.weak ?sw2 hnx
      case sw2 => exact SW.mk id rfl rfl rfl ⟨.refl _, .refl _, .refl _, trivial⟩ (haveV.one rfl trivial)
  case rest =>
    rintro n ⟨h1, h2, h3⟩
    have hM := put_up hu hum hmem h2 h3 hf
    have s1 : storables (List.take (n - 0) (List.drop 0 (l.map fa))) = true := by rw [List.drop_zero, Nat.sub_zero, ← List.map_take]; exact stor_fa _
    have s2 : storables (List.take ((l.map fa).length - n) (List.drop n (l.map fa))) = true := by rw [List.take_of_length_le (by simp), ← List.map_drop]; exact stor_fa _
    have c1 : (List.take (n - 0) (List.drop 0 (l.map fa))).length = n := by simp; omega
    have c2 : (List.take ((l.map fa).length - n) (List.drop n (l.map fa))).length = l.length - n := by simp
    have r1 : room (0 + (List.take (n - 0) (List.drop 0 (l.map fa))).length) 64 = true := room_fa (by rw [c1]; omega)
    have r2 : room (0 + (List.take (n - 0) (List.drop 0 (l.map fa))).length + 1) 64 = true := room_fa (by rw [c1]; omega)
    have r3 : room (0 + (List.take (n - 0) (List.drop 0 (l.map fa))).length + 1 + (List.take ((l.map fa).length - n) (List.drop n (l.map fa))).length) 64 = true := room_fa (by rw [c1, c2]; omega)
    have hT : List.take (n - 0) (List.drop 0 (l.map fa)) = (l.take n).map fa := by rw [List.drop_zero, Nat.sub_zero, List.map_take]
    have hD : List.take ((l.map fa).length - n) (List.drop n (l.map fa)) = (l.drop n).map fa := by rw [List.take_of_length_le (by simp), List.map_drop]
    have hlm : m.length = 0 + (List.take (n - 0) (List.drop 0 (l.map fa))).length + 1 + (List.take ((l.map fa).length - n) (List.drop n (l.map fa))).length := by
      rw [c1, c2, ← hM]; simp; omega
    have hrow : List.take (0 + (List.take (n - 0) (List.drop 0 (l.map fa))).length + 1) (List.take (0 + (List.take (n - 0) (List.drop 0 (l.map fa))).length) (List.take 0 [] ++ List.take (n - 0) (List.drop 0 (l.map fa))) ++ [fa f]) ++ List.take ((l.map fa).length - n) (List.drop n (l.map fa)) = m.map fa := by
      rw [hT, hD, ← hM]
      rw [show List.take 0 ([] : List AV) ++ (l.take n).map fa = (l.take n).map fa from rfl, List.take_of_length_le (l := (l.take n).map fa) (by omega), List.take_of_length_le (by simp)]
      simp
    have hq : n < l.length → false = ((l.getD n fa0).kind == f.kind && ((l.getD n fa0).student == f.student && ((l.getD n fa0).id == f.id && ((l.getD n fa0).term == f.term && ((l.getD n fa0).n == f.n && ((l.getD n fa0).school == f.school && ((l.getD n fa0).code.toList == f.code.toList && true) && true)))))) := fun hlt => by
      rw [fact_eqZ]
      refine (decide_eq_false fun e => hf ?_).symm
      rw [← e]; exact getD_memF hlt
    by_cases hlt : n < l.length
    · have hld := fa_ld hlt
      have hq' := hq hlt
      clear hq h2 h3 hu hum hmem hf
      generalize l.getD n fa0 = x at hld hq'
      refine VS.of_V T_ok mixed rfl ?_
      ((repeat ((conv => whnf); (first | (refine LetN.pre ?_; first | ((conv => arg 1; whnf); refine LetN.mk ?_)) | (refine As.pre ?_; first | refine As.mk rfl ?_ | (refine As.mk ?_ ?_; · ((repeat' (refine andT ?_ ?_)) <;> (first | rfl | assumption | exact decide_eq_true (by omega) | exact decide_eq_true (by dsimp only; omega) | exact decide_eq_true (by simp; omega) | (simp; done))))) | (refine LetV.pre ?_; first | refine LetV.mk (t := fsl) _ hld ?_ | refine LetV.mk (.agg _) rfl ?_ | refine LetV.mk (.ro _ _ _) rfl ?_) | (refine LetI.pre ?_; first | refine LetI.mk _ rfl ?_) | (refine LetB.pre ?_; first | refine LetB.mk (o := some .eql) false hq' ?_ | refine LetB.dect (by omega) ?_) | (refine Gd.pre ?_; first | refine Gd.run rfl ?_) | (refine Br.pre ?_; first | refine Br.ff rfl ?_) | (refine Ck.pre ?_; first | refine Ck.drawn (by kernel_rfl) ?_ | refine Ck.mk rfl ?_) | (refine LetL.pre ?_; first | refine LetL.mk _ rfl ?_)))); (try (conv => whnf)))
      exact ⟨⟨[(4, .slm {} 0 7 0 m.length)], [(0, .row 7 fty (m.map fa))], 1⟩, SW.mk (fun _ => 4) rfl rfl (namesAll.row (pure_fa _) rfl) ⟨VLe2.slm_of hlm, trivial⟩ (haveV.row (pure_fa _) (congrArg (fun es => some (Blk.row 7 fty es)) hrow) trivial), .inl rfl, ⟨_, rfl, rfl⟩, rfl, trivial⟩
    · clear hq h2 h3 hu hum hmem hf
      refine VS.of_V T_ok mixed rfl ?_
      ((repeat ((conv => whnf); (first | (refine LetN.pre ?_; first | ((conv => arg 1; whnf); refine LetN.mk ?_)) | (refine As.pre ?_; first | refine As.mk rfl ?_ | (refine As.mk ?_ ?_; · ((repeat' (refine andT ?_ ?_)) <;> (first | rfl | assumption | exact decide_eq_true (by omega) | exact decide_eq_true (by dsimp only; omega) | exact decide_eq_true (by simp; omega) | (simp; done))))) | (refine LetV.pre ?_; first | refine LetV.mk (.agg _) rfl ?_ | refine LetV.mk (.ro _ _ _) rfl ?_) | (refine LetI.pre ?_; first | refine LetI.mk _ rfl ?_) | (refine LetB.pre ?_; first | refine LetB.decf (by omega) ?_) | (refine Gd.pre ?_; first | refine Gd.pass rfl ?_) | (refine Br.pre ?_; first | refine Br.ff rfl ?_) | (refine Ck.pre ?_; first | refine Ck.drawn (by kernel_rfl) ?_ | refine Ck.mk rfl ?_) | (refine LetL.pre ?_; first | refine LetL.mk _ rfl ?_)))); (try (conv => whnf)))
      exact ⟨⟨[(4, .slm {} 0 7 0 m.length)], [(0, .row 7 fty (m.map fa))], 1⟩, SW.mk (fun _ => 4) rfl rfl (namesAll.row (pure_fa _) rfl) ⟨VLe2.slm_of hlm, trivial⟩ (haveV.row (pure_fa _) (congrArg (fun es => some (Blk.row 7 fty es)) hrow) trivial), .inl rfl, ⟨_, rfl, rfl⟩, rfl, trivial⟩
theorem rPut_put (l m : List Fa) (f : Fa) (fl : Fl) (hl : l.length ≤ 1000) (hu : upF l) (hum : upF m) (hmem : ∀ x, x ∈ m ↔ x ∈ l ∨ x = f) : AFun Tryz.prog 53 0 [.ro fl 7 (l.map fa), fa f] [] (.ro {} 7 (m.map fa)) [] := by
  by_cases hf : f ∈ l
  · rw [put_is hu hum hmem hf]
    exact rPut_in l f fl (by omega) hu hf
  · exact AFun.frz1 (H := []) (rPut_out l m f fl hl hu hum hmem hf) rfl (pure_fa _) (by simp)
/-! missing. -/
abbrev rmiS (a b : List Fa) (f1 f2 : Fl) (k : Nat) : AS := ⟨[(0, .ro f1 7 (a.map fa)), (1, .ro f2 7 (b.map fa)), (5, .ro {} 7 ((misP (a.take k) b).map fa)), (6, int k)], [], 0⟩
set_option maxHeartbeats 1600000 in
set_option maxRecDepth 100000 in
theorem rMissing_f (a b : List Fa) (f1 f2 : Fl) (ha : a.length ≤ 1000) (hb : b.length ≤ 1000) : AFun Tryz.prog 30 0 [.ro f1 7 (a.map fa), .ro f2 7 (b.map fa)] [] (.ro {} 7 ((misP a b).map fa)) [] := by
  refine AFun.of_S T_ok mixed Tryz.func30 rfl (Nat.le_of_ble_eq_true rfl) rfl ?_
  have hma : (a.map fa).length = a.length := List.length_map _
  ((repeat ((conv => whnf); (first | (refine As.pre ?_; first | refine As.mk rfl ?_) | (refine Ck.pre ?_; first | refine Ck.mk rfl ?_)))); (try (conv => whnf)))
  refine LoopN.weak (s1 := rmiS a b f1 f2 0) ?sw1 ?_
  case sw1 => exact SW.mk id rfl rfl rfl ⟨.refl _, .refl _, by rw [List.take_zero, mis_nil]; exact VLe2.nilro, .refl _, trivial⟩ trivial
  refine LoopN.ind T_ok mixed (S := rmiS a b f1 f2) (fun k => a.length - k) (fun k => k ≤ a.length) (fun _ => rfl) (fun k hk ih => ?_) 0 (Nat.zero_le _)
  by_cases hlt : k < a.length
  case neg =>
    clear ih
    have e : misP (a.take k) b = misP a b := by rw [List.take_of_length_le (by omega)]
    rw [← e]
    dsimp only [rmiS]
    generalize misP (a.take k) b = m
    ((repeat ((conv => whnf); (first | (refine As.pre ?_; first | refine As.mk rfl ?_) | (refine LetI.pre ?_; first | refine LetI.mk _ rfl ?_) | (refine LetB.pre ?_; first | refine LetB.decf (by omega) ?_) | (refine Br.pre ?_; first | refine Br.ff rfl ?_) | (refine Ck.pre ?_; first | refine Ck.mk rfl ?_)))); (try (conv => whnf)))
    exact ⟨⟨[(4, .ro {} 7 (m.map fa))], [], 0⟩, SW.mk id rfl rfl rfl ⟨VLe2.ro_of rfl, trivial⟩ trivial, .inl rfl, ⟨_, rfl, rfl⟩, trivial⟩
  have hld := fa_ld hlt
  have hH := rHas_f b (a.getD k fa0) f2 (by omega)
  have hP := fun g => rPut_put (misP (a.take k) b) (misP (a.take (k + 1)) b) (a.getD k fa0) {} (Nat.le_trans (mis_len _ _) (by rw [List.length_take]; omega)) (mis_spec _ _).1 (mis_spec _ _).1 (mis_put hlt g)
  have hS := fun g => mis_has (b := b) hlt g
  have hnx := ih (k + 1) hlt (by omega)
  clear ih
  dsimp only [rmiS] at hnx ⊢
  generalize misP (a.take (k + 1)) b = m' at hP hS hnx
  generalize misP (a.take k) b = m at hP hS hnx ⊢
  generalize a.getD k fa0 = x at hld hH hP hS
  by_cases hb' : x ∈ b
  · rw [decide_eq_true hb'] at hH
    have e := hS hb'
    subst e
    clear hP hS
    ((repeat ((conv => whnf); (first | (refine As.pre ?_; first | refine As.mk rfl ?_ | (refine As.mk ?_ ?_; · ((repeat' (refine andT ?_ ?_)) <;> (first | rfl | assumption | exact decide_eq_true (by omega) | exact decide_eq_true (by dsimp only; omega) | exact decide_eq_true (by simp; omega) | (simp; done))))) | (refine LetV.pre ?_; first | refine LetV.mk (t := fsl) _ hld ?_ | refine LetV.mk (.agg _) rfl ?_) | (refine LetI.pre ?_; first | refine LetI.wrap (by omega) (by omega) ?_ | refine LetI.mk _ rfl ?_) | (refine LetB.pre ?_; first | refine LetB.dect (by omega) ?_) | (refine Br.pre ?_; first | refine Br.tt rfl ?_ | refine Br.ff rfl ?_) | (refine Ck.pre ?_; first | refine Ck.mk rfl ?_) | (refine CallN.pre ?_; first | refine CallN.pure hH rfl rfl ?_)))); (try (conv => whnf)))
    refine LoopN.weak ?sw2 hnx
    case sw2 => exact SW.mk id rfl rfl rfl ⟨.refl _, .refl _, .refl _, VLe2.int (by omega), trivial⟩ trivial
  · rw [decide_eq_false hb'] at hH
    replace hP := hP hb'
    clear hS
    ((repeat ((conv => whnf); (first | (refine As.pre ?_; first | refine As.mk rfl ?_ | (refine As.mk ?_ ?_; · ((repeat' (refine andT ?_ ?_)) <;> (first | rfl | assumption | exact decide_eq_true (by omega) | exact decide_eq_true (by dsimp only; omega) | exact decide_eq_true (by simp; omega) | (simp; done))))) | (refine LetV.pre ?_; first | refine LetV.mk (t := fsl) _ hld ?_ | refine LetV.mk (.agg _) rfl ?_) | (refine LetI.pre ?_; first | refine LetI.wrap (by omega) (by omega) ?_ | refine LetI.mk _ rfl ?_) | (refine LetB.pre ?_; first | refine LetB.dect (by omega) ?_) | (refine Br.pre ?_; first | refine Br.tt rfl ?_) | (refine Ck.pre ?_; first | refine Ck.mk rfl ?_) | (refine CallN.pre ?_; first | refine CallN.pure hH rfl rfl ?_ | refine CallN.pure hP rfl rfl ?_)))); (try (conv => whnf)))
    refine LoopN.weak ?sw3 hnx
    case sw3 => exact SW.mk id rfl rfl rfl ⟨.refl _, .refl _, .refl _, VLe2.int (by omega), trivial⟩ trivial
/-! Differ. -/
def rd2 : Nat → Nat | 1 => 2 | i => i
abbrev rd1S (a b G : List Fa) (f1 f2 : Fl) (e : E) : Nat × List Cg → AS
  | (k, L) => ⟨[(0, .ro f1 7 (a.map fa)), (1, .ro f2 7 (b.map fa)), (5, .ptr 0 15 0 0), (7, .slm {} 1 10 0 L.length), (8, .ro {} 7 (G.map fa)), (9, int k)], [(0, .row 15 25 [en e]), (1, rwC L)], 2⟩
abbrev rd2S (G : List Fa) (e : E) : Nat × List Cg → AS
  | (k, L) => ⟨[(5, .ptr 0 15 0 0), (7, .slm {} 1 10 0 L.length), (10, .ro {} 7 (G.map fa)), (11, int k)], [(0, .row 15 25 [en e]), (1, rwC L)], 2⟩
set_option maxHeartbeats 1600000 in
set_option maxRecDepth 100000 in
theorem rDiffer_s (a b : List Fa) (e : E) (f1 f2 : Fl) (ha : a.length ≤ 16) (hb : b.length ≤ 16) : AFun Tryz.prog 10 0 [.ro f1 7 (a.map fa), .ro f2 7 (b.map fa), en e] [] (.slm {} 0 10 0 (difP a b e).length) [(0, rwC (difP a b e))] := by
  refine AFun.of_S T_ok mixed Tryz.func10 rfl (Nat.le_of_ble_eq_true rfl) rfl ?_
  have hG := rMissing_f a b f1 f2 (by omega) (by omega)
  have hC := rMissing_f b a f2 f1 (by omega) (by omega)
  have lG := mis_len a b
  have lC := mis_len b a
  rw [difP]
  generalize misP a b = G at hG lG ⊢
  generalize misP b a = C at hC lC ⊢
  have hmG : (G.map fa).length = G.length := List.length_map _
  have hmC : (C.map fa).length = C.length := List.length_map _
  ((repeat ((conv => whnf); (first | (refine LetN.pre ?_; first | ((conv => arg 1; whnf); refine LetN.mk ?_)) | (refine As.pre ?_; first | refine As.mk rfl ?_) | (refine Ck.pre ?_; first | refine Ck.mk rfl ?_) | (refine CallN.pre ?_; first | refine CallN.pure hG rfl rfl ?_)))); (try (conv => whnf)))
  clear hG
  refine LoopN.weak (s1 := rd1S a b G f1 f2 e (0, [])) ?sw1 ?_
  case sw1 => exact SW.mk id rfl rfl (dN _ _ _) ⟨.refl _, .refl _, .refl _, VLe2.nilslm, .refl _, .refl _, trivial⟩ (haveV.one rfl (haveV.nil (Nat.le_of_ble_eq_true rfl) trivial))
  refine LoopN.ind T_ok mixed (S := rd1S a b G f1 f2 e) (fun i => G.length - i.1) (fun i => i.1 ≤ G.length ∧ i.2 = (G.take i.1).map (goneP e)) (fun _ => rfl) (fun i hi ih => ?_) (0, []) ⟨Nat.zero_le _, rfl⟩
  obtain ⟨k, L⟩ := i
  obtain ⟨h1, h2⟩ := hi
  dsimp only at h1 h2
  have hLl : L.length = k := by rw [h2, List.length_map, List.length_take]; omega
  by_cases hlt : k < G.length
  · have hld := fa_ld hlt
    have hnx := ih (k + 1, L ++ [goneP e (G.getD k fa0)]) ⟨hlt, by dsimp only; rw [h2, List.take_succ_eq_append_getElem hlt, List.map_append, List.getD_eq_getElem?_getD, List.getElem?_eq_getElem hlt]; rfl⟩ (by show G.length - (k + 1) < G.length - k; omega)
    clear ih h2
    generalize G.getD k fa0 = f at hld hnx
    have hK := rKept_f f e
    have r1 := room_cg (n := L.length + 1) (by omega)
    have a1 := app_cg L (goneP e f) L.length rfl
    have l1 : (L ++ [goneP e f]).length = L.length + 1 := by simp
    unfold goneP at a1 l1 hnx
    generalize keptP f e.day = kp at hK a1 l1 hnx
    ((repeat ((conv => whnf); (first | (refine LetN.pre ?_; first | ((conv => arg 1; whnf); refine LetN.mk ?_)) | (refine As.pre ?_; first | refine As.mk rfl ?_ | (refine As.mk ?_ ?_; · ((repeat' (refine andT ?_ ?_)) <;> (first | rfl | assumption | exact decide_eq_true (by omega) | exact decide_eq_true (by dsimp only; omega) | exact decide_eq_true (by simp; omega) | (simp; done))))) | (refine LetV.pre ?_; first | refine LetV.mk (t := fsl) _ hld ?_ | refine LetV.mk (.sc (.int _ _)) rfl ?_ | refine LetV.mk (.agg _) rfl ?_) | (refine LetI.pre ?_; first | refine LetI.wrap (by omega) (by omega) ?_ | refine LetI.mk _ rfl ?_) | (refine LetB.pre ?_; first | refine LetB.dect (by omega) ?_) | (refine Br.pre ?_; first | refine Br.tt rfl ?_) | (refine Ck.pre ?_; first | refine Ck.drawn (by kernel_rfl) ?_ | refine Ck.mk rfl ?_) | (refine LetL.pre ?_; first | refine LetL.mk (ty := cty) _ a1 ?_) | (refine CallN.pre ?_; first | refine CallN.pure hK rfl rfl ?_)))); (try (conv => whnf)))



    refine LoopN.weak ?sw2 hnx
    case sw2 => exact SW.mk rd2 rfl rfl (dN _ _ _) ⟨.refl _, .refl _, .refl _, VLe2.slm_of l1, .refl _, VLe2.int (by omega), trivial⟩ (haveV.one rfl (haveV.row (pure_cg _) rfl trivial))
  · clear ih
    rw [List.take_of_length_le (by omega)] at h2
    rw [← h2]
    clear h2
    generalize hR : L ++ C.map (cameP e) = R
    ((repeat ((conv => whnf); (first | (refine As.pre ?_; first | refine As.mk rfl ?_) | (refine LetI.pre ?_; first | refine LetI.mk _ rfl ?_) | (refine LetB.pre ?_; first | refine LetB.decf (by omega) ?_) | (refine Br.pre ?_; first | refine Br.ff rfl ?_) | (refine Ck.pre ?_; first | refine Ck.mk rfl ?_) | (refine CallN.pre ?_; first | refine CallN.pure hC rfl rfl ?_)))); (try (conv => whnf)))
    clear hC
    refine LoopN.weak (s1 := rd2S C e (0, L)) ?sw3 ?_
    case sw3 => exact SW.mk id rfl rfl (dN _ _ _) ⟨.refl _, .refl _, .refl _, .refl _, trivial⟩ (haveV.one rfl (haveV.row (pure_cg _) rfl trivial))
    refine LoopN.ind T_ok mixed (S := rd2S C e) (fun i => C.length - i.1) (fun i => i.1 ≤ C.length ∧ i.2 = L ++ (C.take i.1).map (cameP e)) (fun _ => rfl) (fun i hi ih => ?_) (0, L) ⟨Nat.zero_le _, by simp⟩
    obtain ⟨j, N⟩ := i
    obtain ⟨g1, g2⟩ := hi
    dsimp only at g1 g2
    have hNl : N.length = L.length + j := by rw [g2, List.length_append, List.length_map, List.length_take]; omega
    by_cases hlt : j < C.length
    · have hld := fa_ld hlt
      have hnx := ih (j + 1, N ++ [cameP e (C.getD j fa0)]) ⟨hlt, by dsimp only; rw [g2, List.take_succ_eq_append_getElem hlt, List.map_append, List.append_assoc, List.getD_eq_getElem?_getD, List.getElem?_eq_getElem hlt]; rfl⟩ (by show C.length - (j + 1) < C.length - j; omega)
      clear ih g2 hR
      generalize C.getD j fa0 = f at hld hnx
      have r1 := room_cg (n := N.length + 1) (by omega)
      have a1 := app_cg N (cameP e f) N.length rfl
      have l1 : (N ++ [cameP e f]).length = N.length + 1 := by simp
      unfold cameP at a1 l1 hnx
      ((repeat ((conv => whnf); (first | (refine LetN.pre ?_; first | ((conv => arg 1; whnf); refine LetN.mk ?_)) | (refine As.pre ?_; first | refine As.mk rfl ?_ | (refine As.mk ?_ ?_; · ((repeat' (refine andT ?_ ?_)) <;> (first | rfl | assumption | exact decide_eq_true (by omega) | exact decide_eq_true (by dsimp only; omega) | exact decide_eq_true (by simp; omega) | (simp; done))))) | (refine LetV.pre ?_; first | refine LetV.mk (t := fsl) _ hld ?_ | refine LetV.mk (.sc (.int _ _)) rfl ?_ | refine LetV.mk (.agg _) rfl ?_) | (refine LetI.pre ?_; first | refine LetI.wrap (by omega) (by omega) ?_ | refine LetI.mk _ rfl ?_) | (refine LetB.pre ?_; first | refine LetB.dect (by omega) ?_) | (refine Br.pre ?_; first | refine Br.tt rfl ?_) | (refine Ck.pre ?_; first | refine Ck.drawn (by kernel_rfl) ?_ | refine Ck.mk rfl ?_) | (refine LetL.pre ?_; first | refine LetL.mk (ty := cty) _ a1 ?_)))); (try (conv => whnf)))


      refine LoopN.weak ?sw4 hnx
      case sw4 => exact SW.mk rd2 rfl rfl (dN _ _ _) ⟨.refl _, VLe2.slm_of l1, .refl _, VLe2.int (by omega), trivial⟩ (haveV.one rfl (haveV.row (pure_cg _) rfl trivial))
    · clear ih
      rw [List.take_of_length_le (by omega), hR] at g2
      subst g2
      ((repeat ((conv => whnf); (first | (refine As.pre ?_; first | refine As.mk rfl ?_) | (refine LetI.pre ?_; first | refine LetI.mk _ rfl ?_) | (refine LetB.pre ?_; first | refine LetB.decf (by omega) ?_) | (refine Br.pre ?_; first | refine Br.ff rfl ?_) | (refine Ck.pre ?_; first | refine Ck.mk rfl ?_)))); (try (conv => whnf)))
      exact ⟨⟨[(6, .slm {} 0 10 0 N.length)], [(0, rwC N)], 1⟩, SW.mk (fun _ => 1) rfl rfl (namesAll.row (pure_cg _) rfl) ⟨.refl _, trivial⟩ (haveV.row (pure_cg _) rfl trivial), .inl rfl, ⟨_, rfl, rfl⟩, rfl, trivial⟩
/-! SameChanges, of equal lists. -/
abbrev cg0' : Cg := ⟨fa0, false, false, 0⟩
abbrev scS (L : List Cg) (f1 f2 : Fl) (k : Nat) : AS := ⟨[(0, .ro f1 10 (L.map cgA)), (1, .ro f2 10 (L.map cgA)), (5, int k)], [], 0⟩
set_option maxHeartbeats 1600000 in
set_option maxRecDepth 100000 in
theorem rSame_f (L : List Cg) (f1 f2 : Fl) (hl : L.length ≤ 1000) : AFun Tryz.prog 11 0 [.ro f1 10 (L.map cgA), .ro f2 10 (L.map cgA)] [] (bool true) [] := by
  refine AFun.of_W T_ok mixed Tryz.func11 rfl (Nat.le_of_ble_eq_true rfl) rfl ?_
  have hmL : (L.map cgA).length = L.length := List.length_map _
  ((repeat ((conv => whnf); (first | (refine As.pre ?_; first | refine As.mk rfl ?_) | (refine LetI.pre ?_; first | refine LetI.mk _ rfl ?_) | (refine LetB.pre ?_; first | refine LetB.bnef (by omega) ?_) | (refine Br.pre ?_; first | refine Br.ff rfl ?_) | (refine Ck.pre ?_; first | refine Ck.mk rfl ?_)))); (try (conv => whnf)))
  refine LoopN.weak (s1 := scS L f1 f2 0) (SW.mk id rfl rfl rfl ⟨.refl _, .refl _, .refl _, trivial⟩ trivial) ?_
  refine LoopN.ind T_ok mixed (S := scS L f1 f2) (fun k => L.length - k) (fun k => k ≤ L.length) (fun _ => rfl) (fun k hk ih => ?_) 0 (Nat.zero_le _)
  by_cases hlt : k < L.length
  case neg =>
    clear ih
    ((repeat ((conv => whnf); (first | (refine As.pre ?_; first | refine As.mk rfl ?_) | (refine LetI.pre ?_; first | refine LetI.mk _ rfl ?_) | (refine LetB.pre ?_; first | refine LetB.decf (by omega) ?_) | (refine Br.pre ?_; first | refine Br.ff rfl ?_) | (refine Ck.pre ?_; first | refine Ck.mk rfl ?_)))); (try (conv => whnf)))
    exact ⟨.inl rfl, ⟨_, rfl, rfl⟩, trivial⟩
  have hld : cgA (L.getD k cg0') = (L.map cgA).getD k (.sc undef) := mapD cg0' hlt
  have hnx := ih (k + 1) hlt (by omega)
  clear ih
  generalize L.getD k cg0' = c at hld
  have hq := congrArg (fun b => !b) ((cg_eqZ c c).trans (decide_eq_true rfl))
  have hq' := hq.symm
  clear hq
  ((repeat ((conv => whnf); (first | (refine As.pre ?_; first | refine As.mk rfl ?_ | (refine As.mk ?_ ?_; · ((repeat' (refine andT ?_ ?_)) <;> (first | rfl | assumption | exact decide_eq_true (by omega) | exact decide_eq_true (by dsimp only; omega) | exact decide_eq_true (by simp; omega) | (simp; done))))) | (refine LetV.pre ?_; first | refine LetV.mk (t := csl) _ hld ?_ | refine LetV.mk (.agg _) rfl ?_) | (refine LetI.pre ?_; first | refine LetI.wrap (by omega) (by omega) ?_ | refine LetI.mk _ rfl ?_) | (refine LetB.pre ?_; first | refine LetB.mk (o := some .neq) false hq' ?_ | refine LetB.dect (by omega) ?_) | (refine Br.pre ?_; first | refine Br.tt rfl ?_ | refine Br.ff rfl ?_) | (refine Ck.pre ?_; first | refine Ck.drawn (by kernel_rfl) ?_ | refine Ck.mk rfl ?_)))); (try (conv => whnf)))
  refine LoopN.weak ?sw hnx
  case sw => exact SW.mk id rfl rfl rfl ⟨.refl _, .refl _, VLe2.int (by omega), trivial⟩ trivial
end En
end Go.Proofs.YtgnakhljdjekbaaGreatDoor
namespace Go.Proofs.YtgnakhljdjekbaaGreatDoor
open Go.Proofs.YtgnakhljdjekbaaGreatDoor.Am
set_option maxRecDepth 100000
namespace En
/-! ### Pieces that change places -/
abbrev ety : TypeId := 25
end En
end Go.Proofs.YtgnakhljdjekbaaGreatDoor
namespace Go.Proofs.YtgnakhljdjekbaaGreatDoor
open Go.Proofs.YtgnakhljdjekbaaGreatDoor.Am
set_option maxRecDepth 100000
namespace En
/-! ### Two sorted pieces that are merged -/
end En
end Go.Proofs.YtgnakhljdjekbaaGreatDoor
namespace Go.Proofs.YtgnakhljdjekbaaGreatDoor
open Go.Proofs.YtgnakhljdjekbaaGreatDoor.Am
set_option maxRecDepth 100000
namespace En
end En
end Go.Proofs.YtgnakhljdjekbaaGreatDoor
namespace Go.Proofs.YtgnakhljdjekbaaGreatDoor
open Go.Proofs.YtgnakhljdjekbaaGreatDoor.Am
set_option maxRecDepth 100000
namespace En
/-! ### A piece that is sorted by insertion -/
end En
end Go.Proofs.YtgnakhljdjekbaaGreatDoor
namespace Go.Proofs.YtgnakhljdjekbaaGreatDoor
open Go.Proofs.YtgnakhljdjekbaaGreatDoor.Am
set_option maxRecDepth 100000
namespace En
/-! ### The stable sort of a list of less than 40 entries -/
end En
end Go.Proofs.YtgnakhljdjekbaaGreatDoor
namespace Go.Proofs.YtgnakhljdjekbaaGreatDoor
open Go.Proofs.YtgnakhljdjekbaaGreatDoor.Am
set_option maxRecDepth 100000
namespace En
/-- A choice. -/
structure Ch where
  pr : Int
  ver : Int
  beg : Int
  on_ : Int
end En
end Go.Proofs.YtgnakhljdjekbaaGreatDoor
namespace Go.Proofs.YtgnakhljdjekbaaGreatDoor
open Go.Proofs.YtgnakhljdjekbaaGreatDoor.Am
set_option maxRecDepth 100000
namespace En
def atR (l : List E) (a o : Int) : List E := srt false (chos l [cCounts a o])
end En
end Go.Proofs.YtgnakhljdjekbaaGreatDoor
namespace Go.Proofs.YtgnakhljdjekbaaGreatDoor
open Go.Proofs.YtgnakhljdjekbaaGreatDoor.Am
set_option maxRecDepth 100000
namespace En
end En
end Go.Proofs.YtgnakhljdjekbaaGreatDoor
namespace Go.Proofs.YtgnakhljdjekbaaGreatDoor
open Go.Proofs.YtgnakhljdjekbaaGreatDoor.Am
set_option maxRecDepth 100000
namespace En
/-! ### Lifted -/
/-! ### Known -/
/-! ### Awards -/
end En
end Go.Proofs.YtgnakhljdjekbaaGreatDoor
namespace Go.Proofs.YtgnakhljdjekbaaGreatDoor
open Go.Proofs.YtgnakhljdjekbaaGreatDoor.Am
set_option maxRecDepth 100000
namespace En
end En
end Go.Proofs.YtgnakhljdjekbaaGreatDoor
namespace Go.Proofs.YtgnakhljdjekbaaGreatDoor
open Go.Proofs.YtgnakhljdjekbaaGreatDoor.Am
set_option maxRecDepth 100000
namespace En
def c0 : Ch := ⟨0, 0, 0, 0⟩
end En
end Go.Proofs.YtgnakhljdjekbaaGreatDoor
namespace Go.Proofs.YtgnakhljdjekbaaGreatDoor
open Go.Proofs.YtgnakhljdjekbaaGreatDoor.Am
set_option maxRecDepth 100000
namespace En
end En
end Go.Proofs.YtgnakhljdjekbaaGreatDoor
namespace Go.Proofs.YtgnakhljdjekbaaGreatDoor
open Go.Proofs.YtgnakhljdjekbaaGreatDoor.Am
set_option maxRecDepth 100000
namespace En
/-- A rune that no code has. -/
def wrongR (c : Nat) : Bool := decide ((c < 65 ∨ 90 < c) ∧ (c < 48 ∨ 57 < c))
theorem wrong_calls (w : World) : Go.Proofs.PredAt Tryz.prog 132 #[] Go.Proofs.encR wrongR w := by
  intro W x _
  show Calls Tryz.prog 132 #[.int .i32 (x : Int)] W _
  unfold wrongR
  go_enter Tryz.func132, Tryz.ntmps132
  go_wp2
  all_goals
    go_ret
    refine ⟨?_, 0, rfl⟩
  all_goals
    refine congrArg (fun b => Ending.returned (.bool b)) (Bool.eq_iff_iff.2 ?_)
    simp only [Bool.and_eq_true, Bool.or_eq_true, decide_eq_true_eq, Bool.false_eq_true, false_iff, true_iff]
    try omega
def lays : Go.Shelf.Ren := ⟨fun n => match n with | 315 => 143 | n => n, fun t => match t with | 0 => 0 | 3 => 3 | 4 => 4 | 9 => 9 | 21 => 21 | 40 => 166 | t => t, fun g => g⟩
theorem lays_ok : Go.Proofs.Lays.n315 Tryz.prog lays where
  mixed := mixed
  f315 := by kernel_rfl
  t0 := by kernel_rfl
  a0 := fun w => TT.Ok.isAgg T_ok (t := 0) rfl w
  z0 := fun w => TT.Ok.sizeOf T_ok (t := 0) rfl w
  v0 := fun w => TT.Ok.zero T_ok (t := 0) rfl w
  t3 := by kernel_rfl
  a3 := fun w => TT.Ok.isAgg T_ok (t := 3) rfl w
  z3 := fun w => TT.Ok.sizeOf T_ok (t := 3) rfl w
  v3 := fun w => TT.Ok.zero T_ok (t := 3) rfl w
  t4 := by kernel_rfl
  a4 := fun w => TT.Ok.isAgg T_ok (t := 4) rfl w
  z4 := fun w => TT.Ok.sizeOf T_ok (t := 4) rfl w
  v4 := fun w => TT.Ok.zero T_ok (t := 4) rfl w
  t9 := by kernel_rfl
  a9 := fun w => TT.Ok.isAgg T_ok (t := 9) rfl w
  z9 := fun w => TT.Ok.sizeOf T_ok (t := 9) rfl w
  v9 := fun w => TT.Ok.zero T_ok (t := 9) rfl w
  t21 := by kernel_rfl
  a21 := fun w => TT.Ok.isAgg T_ok (t := 21) rfl w
  z21 := fun w => TT.Ok.sizeOf T_ok (t := 21) rfl w
  v21 := fun w => TT.Ok.zero T_ok (t := 21) rfl w
  t40 := by kernel_rfl
  a40 := fun w => TT.Ok.isAgg T_ok (t := 166) rfl w
  z40 := fun w => TT.Ok.sizeOf T_ok (t := 166) rfl w
  v40 := fun w => TT.Ok.zero T_ok (t := 166) rfl w
theorem indexFunc_f (s : ByteArray) : AFun Tryz.prog 143 0 [str s, .clo 132 [], bool true] [] (int (Go.Lib.idxFunc wrongR true s)) [] := by
  intro w g xs hl hx hH _
  obtain ⟨a, b, c, rfl⟩ : ∃ a b c, xs = #[a, b, c] := by
    rcases xs with ⟨l⟩
    rcases l with _ | ⟨a, _ | ⟨b, _ | ⟨c, _ | ⟨d, l⟩⟩⟩⟩
    all_goals simp at hl
    exact ⟨a, b, c, rfl⟩
  have h0 := (hx 0 _ a rfl rfl).sc_inv
  have h1 := hx 1 _ b rfl rfl
  have h2 := (hx 2 _ c rfl rfl).sc_inv
  subst h0 h2
  cases h1 with
  | clo hk hc hv =>
    rename_i fs xs
    have e1 : fs = #[] := Array.eq_empty_of_size_eq_zero hk
    subst e1
    simp at hc
    have e2 : xs = #[] := Array.eq_empty_of_size_eq_zero hc.symm
    subst e2
    have := Go.Proofs.Any.strings_indexFunc lays_ok 132 #[] (fun args w => callFunc_run (by kernel_rfl) args w) wrongR true s w (wrong_calls w)
    refine this.mono fun e w' ⟨he, hb⟩ => ⟨_, g, he, ?_, .sc _ rfl, ?_⟩
    · exact ⟨fun _ _ => rfl, fun b h => ⟨h, hb.block b (hH.lt b h)⟩, fun b cs ty fz h => ⟨cs, (hb.block b (heap_lt h)).trans h, rfl⟩, ⟨hb.os, hb.tape, hb.output, hb.size, fun b hlt _ => hb.block b hlt⟩, fun id B b E h => (by cases h), fun b h _ => .inl h⟩
    · exact ⟨fun id B h => (by cases h), fun i j b E E' A B h => (by cases h), fun i b E B h => (by cases h), fun b h => Nat.lt_of_lt_of_le (hH.lt b h) hb.size, hH.gl.mono fun b h => ⟨h, hb.block b (hH.lt b h)⟩⟩
end En
end Go.Proofs.YtgnakhljdjekbaaGreatDoor
namespace Go.Proofs.YtgnakhljdjekbaaGreatDoor
open Go.Proofs.YtgnakhljdjekbaaGreatDoor.Am
set_option maxRecDepth 100000
namespace En
theorem decode_low {s : ByteArray} {i : Nat} (h : (s.get! i).toNat < 128) : Utf8.decode s i = ((s.get! i).toNat, 1) := by
  unfold Utf8.decode
  simp only [Nat.add_zero]
  rw [if_pos h]
theorem decode_high {s : ByteArray} {i : Nat} (h : 128 ≤ (s.get! i).toNat) : 128 ≤ (Utf8.decode s i).1 := by
  unfold Utf8.decode
  simp only [Nat.add_zero]
  rw [if_neg (by omega)]
  split
  · split
    · assumption
    · decide
  · split
    · split
      · rename_i h1
        simp only [Bool.and_eq_true, decide_eq_true_eq] at h1
        exact Nat.le_trans (by omega) h1.1
      · decide
    · split
      · split
        · rename_i h1
          simp only [Bool.and_eq_true, decide_eq_true_eq] at h1
          exact Nat.le_trans (by omega) h1.1
        · decide
      · decide
theorem wrong_high {c : Nat} (h : 128 ≤ c) : wrongR c = true := by
  unfold wrongR
  rw [decide_eq_true_eq]; omega
theorem idx_code (s : ByteArray) : ∀ (f pos : Nat), s.size ≤ pos + f → (Go.Lib.idxFuncFrom wrongR true s f pos < 0 ↔ ∀ i, pos ≤ i → i < s.size → wrongR (s.get! i).toNat = false)
  | 0, pos, h => by
    simp only [Go.Lib.idxFuncFrom]
    exact ⟨fun _ i h1 h2 => by omega, fun _ => by omega⟩
  | f + 1, pos, h => by
    unfold Go.Lib.idxFuncFrom
    split
    · rename_i hp
      by_cases hw : wrongR (s.get! pos).toNat = true
      · have : wrongR (Utf8.decode s pos).1 = true := by
          by_cases hl : (s.get! pos).toNat < 128
          · rw [decode_low hl]; exact hw
          · exact wrong_high (decode_high (by omega))
        rw [if_pos this]
        refine ⟨fun h => by omega, fun h => ?_⟩
        have := h pos (Nat.le_refl _) hp
        rw [hw] at this; cases this
      · have hl : (s.get! pos).toNat < 128 := by
          rcases Nat.lt_or_ge (s.get! pos).toNat 128 with h | h
          · exact h
          · exact absurd (wrong_high h) hw
        rw [decode_low hl]
        simp only
        rw [if_neg hw, idx_code s f (pos + 1) (by omega)]
        refine ⟨fun h i h1 h2 => ?_, fun h i h1 h2 => h i (by omega) h2⟩
        by_cases hi : i = pos
        · subst hi; simpa using hw
        · exact h i (by omega) h2
    · exact ⟨fun _ i h1 h2 => by omega, fun _ => by omega⟩
/-- The byte at i. -/
abbrev byt (s : ByteArray) (i : Nat) : Nat := (s.data.toList.getD i 0).toNat
theorem byt_eq (s : ByteArray) (i : Nat) : (s.get! i).toNat = byt s i := by
  obtain ⟨d⟩ := s
  show (d[i]!).toNat = (d.toList.getD i 0).toNat
  rw [List.getD_eq_getElem?_getD, Array.getElem?_toList, getElem!_def]
  cases d[i]? <;> rfl
/-- A string is a code. -/
def okCode (s : ByteArray) : Prop := (1 ≤ s.size ∧ s.size ≤ 8) ∧ ∀ i, i < s.size → wrongR (byt s i) = false
theorem nilStr (s : ByteArray) : (s.toList == (⟨#[]⟩ : ByteArray).toList) = decide (s.size = 0) := by
  rw [Bool.eq_iff_iff, beq_iff_eq, decide_eq_true_eq, ByteArray.toList_eq, ByteArray.toList_eq]
  show s.data.toList = [] ↔ s.data.size = 0
  rw [← Array.length_toList]
  exact List.length_eq_zero_iff.symm
theorem IndexFunc_f (s : ByteArray) : AFun Tryz.prog 133 0 [str s, .clo 132 []] [] (int (Go.Lib.idxFunc wrongR true s)) [] := by
  refine AFun.of_W T_ok mixed Tryz.func133 rfl (Nat.le_of_ble_eq_true rfl) rfl ?_
  ((repeat ((conv => whnf); (first | (refine As.pre ?_; first | refine As.mk rfl ?_) | (refine Ck.pre ?_; first | refine Ck.mk rfl ?_) | (refine CallN.pre ?_; first | refine CallN.pure (indexFunc_f s) rfl rfl ?_)))); (try (conv => whnf)))
  exact ⟨.inl rfl, ⟨_, rfl, rfl⟩, trivial⟩
open Classical in
theorem Code_f (s : ByteArray) : AFun Tryz.prog 106 0 [str s] [] (bool (decide (okCode s))) [] := by
  refine AFun.of_W T_ok mixed Tryz.func106 rfl (Nat.le_of_ble_eq_true rfl) rfl ?_
  have hi := IndexFunc_f s
  have hx := idx_code s s.size 0 (by omega)
  rw [show Go.Lib.idxFuncFrom wrongR true s s.size 0 = Go.Lib.idxFunc wrongR true s from rfl] at hx
  generalize Go.Lib.idxFunc wrongR true s = r at hi hx
  have hn := nilStr s
  by_cases h0 : s.size = 0
  · have hb : (!(s.toList == (⟨#[]⟩ : ByteArray).toList)) = false := by rw [hn, decide_eq_true h0]; rfl
    ((repeat ((conv => whnf); (first | (refine As.pre ?_; first | refine As.mk rfl ?_) | (refine LetB.pre ?_; first | refine LetB.ff (by assumption) ?_) | (refine Gd.pre ?_; first | refine Gd.pass rfl ?_) | (refine Ck.pre ?_; first | refine Ck.mk rfl ?_)))); (try (conv => whnf)))
    exact ⟨.inl rfl, ⟨_, rfl, congrArg bool (decide_eq_false fun h => by have := h.1.1; omega).symm⟩, trivial⟩
  · have hb : (!(s.toList == (⟨#[]⟩ : ByteArray).toList)) = true := by rw [hn, decide_eq_false h0]; rfl
    by_cases h8 : s.size ≤ 8
    · by_cases hr : r < 0
      · ((repeat ((conv => whnf); (first | (refine As.pre ?_; first | refine As.mk rfl ?_) | (refine LetI.pre ?_; first | refine LetI.mk _ rfl ?_) | (refine LetB.pre ?_; first | refine LetB.tt (by assumption) ?_ | refine LetB.dect (by omega) ?_) | (refine Gd.pre ?_; first | refine Gd.run rfl ?_) | (refine Ck.pre ?_; first | refine Ck.mk rfl ?_) | (refine CallN.pre ?_; first | refine CallN.pure hi rfl rfl ?_)))); (try (conv => whnf)))
        exact ⟨.inl rfl, ⟨_, rfl, congrArg bool (decide_eq_true ⟨⟨by omega, h8⟩, fun i h => by rw [← byt_eq]; exact hx.1 hr i (Nat.zero_le _) h⟩).symm⟩, trivial⟩
      · ((repeat ((conv => whnf); (first | (refine As.pre ?_; first | refine As.mk rfl ?_) | (refine LetI.pre ?_; first | refine LetI.mk _ rfl ?_) | (refine LetB.pre ?_; first | refine LetB.tt (by assumption) ?_ | refine LetB.dect (by omega) ?_ | refine LetB.decf (by omega) ?_) | (refine Gd.pre ?_; first | refine Gd.run rfl ?_) | (refine Ck.pre ?_; first | refine Ck.mk rfl ?_) | (refine CallN.pre ?_; first | refine CallN.pure hi rfl rfl ?_)))); (try (conv => whnf)))
        exact ⟨.inl rfl, ⟨_, rfl, congrArg bool (decide_eq_false fun h => hr (hx.2 fun i _ hi => by rw [byt_eq]; exact h.2 i hi)).symm⟩, trivial⟩
    · ((repeat ((conv => whnf); (first | (refine As.pre ?_; first | refine As.mk rfl ?_) | (refine LetI.pre ?_; first | refine LetI.mk _ rfl ?_) | (refine LetB.pre ?_; first | refine LetB.tt (by assumption) ?_ | refine LetB.decf (by omega) ?_) | (refine Gd.pre ?_; first | refine Gd.run rfl ?_ | refine Gd.pass rfl ?_) | (refine Ck.pre ?_; first | refine Ck.mk rfl ?_)))); (try (conv => whnf)))
      exact ⟨.inl rfl, ⟨_, rfl, congrArg bool (decide_eq_false fun h => h8 h.1.2).symm⟩, trivial⟩
end En
end Go.Proofs.YtgnakhljdjekbaaGreatDoor
namespace Go.Proofs.YtgnakhljdjekbaaGreatDoor
open Go.Proofs.YtgnakhljdjekbaaGreatDoor.Am
set_option maxRecDepth 100000
namespace En
open Classical
theorem beyond_f (n a b : Int) : AFun Tryz.prog 102 0 [int n, int a, int b] [] (bool (decide (n < a ∨ b < n))) [] := by
  refine AFun.of_W T_ok mixed Tryz.func102 rfl (Nat.le_of_ble_eq_true rfl) rfl ?_
  repeat' ((conv => whnf); (first | (refine As.pre ?_; first | refine As.mk rfl ?_) | (refine LetB.pre ?_; first | (refine LetB.dec (fun _ => ?_) (fun _ => ?_))) | (refine Gd.pre ?_; first | refine Gd.run rfl ?_ | refine Gd.pass rfl ?_) | (refine Ck.pre ?_; first | refine Ck.mk rfl ?_)))
  all_goals (refine ⟨by first | exact .inl rfl | exact .inr rfl, ⟨_, rfl, congrArg (fun b => Go.Proofs.YtgnakhljdjekbaaGreatDoor.Am.AV.sc (Go.Value.bool b)) (by first | exact (decide_eq_true (by omega)).symm | exact (decide_eq_false (by omega)).symm | exact Bool.eq_iff_iff.2 (by simp only [decide_eq_true_eq, decide_eq_false_iff_not]; omega) | rfl)⟩, trivial⟩)
def hasK (k : Int) : Int := if k = 1 ∨ k = 8 then 32 else if k = 2 then 96 else if k = 3 then 7 else if k = 4 then 12 else if k = 5 ∨ k = 6 ∨ k = 9 then 8 else if k = 7 then 16 else 0
theorem has_f (k : Int) : AFun Tryz.prog 104 0 [int k] [] (int (hasK k)) [] := by
  refine AFun.of_W T_ok mixed Tryz.func104 rfl (Nat.le_of_ble_eq_true rfl) rfl ?_
  unfold hasK
  repeat' ((conv => whnf); (first | (refine As.pre ?_; first | refine As.mk rfl ?_) | (refine LetB.pre ?_; first | (refine LetB.dec (fun _ => ?_) (fun _ => ?_))) | (refine Br.pre ?_; first | refine Br.tt rfl ?_ | refine Br.ff rfl ?_) | (refine Ck.pre ?_; first | refine Ck.mk rfl ?_)))
  all_goals
    refine ⟨.inl rfl, ⟨_, rfl, congrArg int ?_⟩, trivial⟩
    repeat' split
    all_goals first | rfl | (exfalso; omega)
def orB (acc : Int) (k : Nat) (b : Bool) : Int := bif b then IntKind.i64.wrap ((BitVec.ofInt 64 acc) ||| (BitVec.ofInt 64 (IntKind.i64.wrap (1 * 2 ^ (min (k : Int).toNat 64))))).toNat else acc
def fillA : List Bool → Nat → Int → Int
  | [], _, acc => acc
  | b :: l, k, acc => fillA l (k + 1) (orB acc k b)
def fillB (e : E) : List Bool := [!(e.course.toList == (⟨#[]⟩ : ByteArray).toList), e.credits != 0, e.grade != 0, e.ref != 0, e.frm != 0, e.programme != 0, e.version != 0]
theorem fill_drop {l : List Bool} {k : Nat} (h : k < l.length) (acc : Int) : fillA (l.drop k) k acc = fillA (l.drop (k + 1)) (k + 1) (orB acc k (l.getD k false)) := by
  rw [List.drop_eq_getElem_cons h, List.getD_eq_getElem?_getD, List.getElem?_eq_getElem h]; rfl
theorem filled_f (e : E) : AFun Tryz.prog 103 0 [en e] [] (int (fillA (fillB e) 0 0)) [] := by
  refine AFun.of_W T_ok mixed Tryz.func103 rfl (Nat.le_of_ble_eq_true rfl) rfl ?_
  ((repeat ((conv => whnf); (first | (refine LetN.pre ?_; first | ((conv => arg 1; whnf); refine LetN.mk ?_)) | (refine As.pre ?_; first | refine As.mk rfl ?_) | (refine LetV.pre ?_; first | refine LetV.mk (.sc (.int _ _)) rfl ?_ | refine LetV.mk (.sc _) rfl ?_) | (refine LetI.pre ?_; first | refine LetI.mk _ rfl ?_) | (refine LetB.pre ?_; first | refine LetB.mk _ rfl ?_) | (refine Ck.pre ?_; first | refine Ck.mk rfl ?_)))); (try (conv => whnf)))
  have hlen : (fillB e).length = 7 := rfl
  refine LoopN.weak (s1 := ⟨[(3, int 0), (27, .ro {} 1 ((fillB e).map bool)), (28, int (fillB e).length), (29, int (0 : Nat))], [], 1⟩) (SW.mk id rfl rfl rfl ⟨.refl _, VLe2.ro_of rfl, .refl _, .refl _, trivial⟩ trivial) ?_
  generalize fillB e = bs at hlen ⊢
  generalize hR : fillA bs 0 0 = R
  refine LoopN.ind T_ok mixed (S := fun i : Nat × Int => ⟨[(3, int i.2), (27, .ro {} 1 (bs.map bool)), (28, int bs.length), (29, int i.1)], [], 1⟩) (fun i => bs.length - i.1) (fun i => i.1 ≤ bs.length ∧ R = fillA (bs.drop i.1) i.1 i.2) (fun _ => rfl) (fun i hi ih => ?_) (0, 0) ⟨Nat.zero_le _, hR.symm⟩
  obtain ⟨k, acc⟩ := i
  obtain ⟨h1, h2⟩ := hi
  simp only at h1 h2 ih ⊢
  have hm : (bs.map bool).length = bs.length := List.length_map _
  by_cases hlt : k < bs.length
  case neg =>
    rw [List.drop_eq_nil_of_le (by omega)] at h2
    rw [h2]
    clear ih
    ((repeat ((conv => whnf); (first | (refine As.pre ?_; first | refine As.mk rfl ?_) | (refine LetB.pre ?_; first | refine LetB.decf (by omega) ?_) | (refine Br.pre ?_; first | refine Br.ff rfl ?_) | (refine Ck.pre ?_; first | refine Ck.mk rfl ?_)))); (try (conv => whnf)))
    exact ⟨.inl rfl, ⟨_, rfl, rfl⟩, trivial⟩
  have hld : bool (bs.getD k false) = (bs.map bool).getD k (.sc undef) := mapD false hlt
  rw [fill_drop hlt] at h2
  generalize bs.getD k false = b at hld h2
  have next := ih (k + 1, orB acc k b) ⟨by omega, h2⟩ (by show bs.length - (k + 1) < bs.length - k; omega)
  clear ih
  cases b with
  | true =>
    ((repeat ((conv => whnf); (first | (refine As.pre ?_; first | refine As.mk rfl ?_ | (refine As.mk ?_ ?_; · ((repeat' (refine andT ?_ ?_)) <;> (first | rfl | assumption | exact decide_eq_true (by omega) | exact decide_eq_true (by dsimp only; omega) | exact decide_eq_true (by simp; omega) | (simp; done))))) | (refine LetV.pre ?_; first | refine LetV.mk (t := 165) _ hld ?_ | refine LetV.mk (.sc (.bool _)) rfl ?_) | (refine LetI.pre ?_; first | refine LetI.wrap (by omega) (by omega) ?_ | refine LetI.mk _ rfl ?_) | (refine LetB.pre ?_; first | refine LetB.dect (by omega) ?_) | (refine Br.pre ?_; first | refine Br.tt rfl ?_) | (refine Ck.pre ?_; first | refine Ck.mk rfl ?_)))); (try (conv => whnf)))
    refine LoopN.weak ?_ next
    exact SW.mk id rfl rfl rfl ⟨.refl _, .refl _, .refl _, VLe2.int (by omega), trivial⟩ trivial
  | false =>
    ((repeat ((conv => whnf); (first | (refine As.pre ?_; first | refine As.mk rfl ?_ | (refine As.mk ?_ ?_; · ((repeat' (refine andT ?_ ?_)) <;> (first | rfl | assumption | exact decide_eq_true (by omega) | exact decide_eq_true (by dsimp only; omega) | exact decide_eq_true (by simp; omega) | (simp; done))))) | (refine LetV.pre ?_; first | refine LetV.mk (t := 165) _ hld ?_ | refine LetV.mk (.sc (.bool _)) rfl ?_) | (refine LetI.pre ?_; first | refine LetI.wrap (by omega) (by omega) ?_) | (refine LetB.pre ?_; first | refine LetB.dect (by omega) ?_) | (refine Br.pre ?_; first | refine Br.tt rfl ?_ | refine Br.ff rfl ?_) | (refine Ck.pre ?_; first | refine Ck.mk rfl ?_)))); (try (conv => whnf)))
    refine LoopN.weak ?_ next
    exact SW.mk id rfl rfl rfl ⟨.refl _, .refl _, .refl _, VLe2.int (by omega), trivial⟩ trivial
theorem ck1_f (e : E) : AFun Tryz.prog 105 0 [.rp (en e) 0] [] (bool (!decide (okCode e.course))) [] := by
  refine AFun.of_W T_ok mixed Tryz.func105 rfl (Nat.le_of_ble_eq_true rfl) rfl ?_
  ((repeat ((conv => whnf); (first | (refine As.pre ?_; first | refine As.mk rfl ?_) | (refine LetV.pre ?_; first | refine LetV.mk (.sc _) rfl ?_) | (refine Ck.pre ?_; first | refine Ck.mk rfl ?_) | (refine CallN.pre ?_; first | refine CallN.pure (Code_f _) rfl rfl ?_)))); (try (conv => whnf)))
  exact ⟨.inl rfl, ⟨_, rfl, rfl⟩, trivial⟩
theorem ck2_f (e : E) : AFun Tryz.prog 107 0 [.rp (en e) 0] [] (bool (decide (e.credits < 1 ∨ 60 < e.credits))) [] := by
  refine AFun.of_W T_ok mixed Tryz.func107 rfl (Nat.le_of_ble_eq_true rfl) rfl ?_
  ((repeat ((conv => whnf); (first | (refine As.pre ?_; first | refine As.mk rfl ?_) | (refine LetV.pre ?_; first | refine LetV.mk (.sc (.int _ _)) rfl ?_) | (refine Ck.pre ?_; first | refine Ck.mk rfl ?_) | (refine CallN.pre ?_; first | refine CallN.pure (beyond_f _ _ _) rfl rfl ?_)))); (try (conv => whnf)))
  exact ⟨.inl rfl, ⟨_, rfl, rfl⟩, trivial⟩
theorem ck3_f (e : E) : AFun Tryz.prog 108 0 [.rp (en e) 0] [] (bool (decide (e.grade < -1000 ∨ 1000 < e.grade))) [] := by
  refine AFun.of_W T_ok mixed Tryz.func108 rfl (Nat.le_of_ble_eq_true rfl) rfl ?_
  ((repeat ((conv => whnf); (first | (refine As.pre ?_; first | refine As.mk rfl ?_) | (refine LetV.pre ?_; first | refine LetV.mk (.sc (.int _ _)) rfl ?_) | (refine Ck.pre ?_; first | refine Ck.mk rfl ?_) | (refine CallN.pre ?_; first | refine CallN.pure (beyond_f _ _ _) rfl rfl ?_)))); (try (conv => whnf)))
  exact ⟨.inl rfl, ⟨_, rfl, rfl⟩, trivial⟩
theorem ck4_f (e : E) : AFun Tryz.prog 109 0 [.rp (en e) 0] [] (bool (decide (e.programme < 1))) [] := by
  refine AFun.of_W T_ok mixed Tryz.func109 rfl (Nat.le_of_ble_eq_true rfl) rfl ?_
  ((repeat ((conv => whnf); (first | (refine As.pre ?_; first | refine As.mk rfl ?_) | (refine LetV.pre ?_; first | refine LetV.mk (.sc (.int _ _)) rfl ?_) | (refine LetB.pre ?_; first | refine LetB.mk _ rfl ?_) | (refine Ck.pre ?_; first | refine Ck.mk rfl ?_)))); (try (conv => whnf)))
  exact ⟨.inl rfl, ⟨_, rfl, rfl⟩, trivial⟩
theorem ck5_f (e : E) : AFun Tryz.prog 110 0 [.rp (en e) 0] [] (bool (decide (e.version < 1))) [] := by
  refine AFun.of_W T_ok mixed Tryz.func110 rfl (Nat.le_of_ble_eq_true rfl) rfl ?_
  ((repeat ((conv => whnf); (first | (refine As.pre ?_; first | refine As.mk rfl ?_) | (refine LetV.pre ?_; first | refine LetV.mk (.sc (.int _ _)) rfl ?_) | (refine LetB.pre ?_; first | refine LetB.mk _ rfl ?_) | (refine Ck.pre ?_; first | refine Ck.mk rfl ?_)))); (try (conv => whnf)))
  exact ⟨.inl rfl, ⟨_, rfl, rfl⟩, trivial⟩
theorem ck6_f (e : E) : AFun Tryz.prog 111 0 [.rp (en e) 0] [] (bool (decide ((e.frm < 1 ∨ 8 < e.frm) ∨ e.frm = e.school))) [] := by
  refine AFun.of_W T_ok mixed Tryz.func111 rfl (Nat.le_of_ble_eq_true rfl) rfl ?_
  repeat' ((conv => whnf); (first | (refine As.pre ?_; first | refine As.mk rfl ?_) | (refine LetV.pre ?_; first | refine LetV.mk (.sc (.int _ _)) rfl ?_) | (refine LetB.pre ?_; first | (refine LetB.dec (fun _ => ?_) (fun _ => ?_))) | (refine Gd.pre ?_; first | refine Gd.run rfl ?_ | refine Gd.pass rfl ?_) | (refine Ck.pre ?_; first | refine Ck.mk rfl ?_) | (refine CallN.pre ?_; first | refine CallN.dec (beyond_f _ _ _) rfl (fun _ => ?_) (fun _ => ?_))))
  all_goals (refine ⟨by first | exact .inl rfl | exact .inr rfl, ⟨_, rfl, congrArg (fun b => Go.Proofs.YtgnakhljdjekbaaGreatDoor.Am.AV.sc (Go.Value.bool b)) (by first | exact (decide_eq_true (by omega)).symm | exact (decide_eq_false (by omega)).symm | exact Bool.eq_iff_iff.2 (by simp only [decide_eq_true_eq, decide_eq_false_iff_not]; omega) | rfl)⟩, trivial⟩)
theorem ck7_f (e : E) : AFun Tryz.prog 112 0 [.rp (en e) 0] [] (bool (decide ((e.ref < 1 ∨ 899999 < e.ref) ∨ e.ref = e.id))) [] := by
  refine AFun.of_W T_ok mixed Tryz.func112 rfl (Nat.le_of_ble_eq_true rfl) rfl ?_
  repeat' ((conv => whnf); (first | (refine As.pre ?_; first | refine As.mk rfl ?_) | (refine LetV.pre ?_; first | refine LetV.mk (.sc (.int _ _)) rfl ?_) | (refine LetB.pre ?_; first | (refine LetB.dec (fun _ => ?_) (fun _ => ?_))) | (refine Gd.pre ?_; first | refine Gd.run rfl ?_ | refine Gd.pass rfl ?_) | (refine Ck.pre ?_; first | refine Ck.mk rfl ?_) | (refine CallN.pre ?_; first | refine CallN.dec (beyond_f _ _ _) rfl (fun _ => ?_) (fun _ => ?_))))
  all_goals (refine ⟨by first | exact .inl rfl | exact .inr rfl, ⟨_, rfl, congrArg (fun b => Go.Proofs.YtgnakhljdjekbaaGreatDoor.Am.AV.sc (Go.Value.bool b)) (by first | exact (decide_eq_true (by omega)).symm | exact (decide_eq_false (by omega)).symm | exact Bool.eq_iff_iff.2 (by simp only [decide_eq_true_eq, decide_eq_false_iff_not]; omega) | rfl)⟩, trivial⟩)
end En
end Go.Proofs.YtgnakhljdjekbaaGreatDoor
namespace Go.Proofs.YtgnakhljdjekbaaGreatDoor
open Go.Proofs.YtgnakhljdjekbaaGreatDoor.Am
set_option maxRecDepth 100000
namespace En
open Classical
/-- The error of the fields that a kind has. -/
def fldE (oc : Bool) (e : E) : Int :=
  if e.kind = 3 then (if oc = false then 12 else if e.credits < 1 ∨ 60 < e.credits then 3 else if e.grade < -1000 ∨ 1000 < e.grade then 3 else 0)
  else if e.kind = 1 ∨ e.kind = 8 then (if e.programme < 1 then 3 else 0)
  else if e.kind = 2 then (if e.programme < 1 ∨ e.version < 1 then 3 else 0)
  else if e.kind = 7 then (if (e.frm < 1 ∨ 8 < e.frm) ∨ e.frm = e.school then 3 else 0)
  else if e.kind = 4 then (if e.grade < -1000 ∨ 1000 < e.grade then 3 else if (e.ref < 1 ∨ 899999 < e.ref) ∨ e.ref = e.id then 21 else 0)
  else (if (e.ref < 1 ∨ 899999 < e.ref) ∨ e.ref = e.id then 21 else 0)
/-- No field but those of its kind is filled. -/
def onlyF (k : Int) : List Bool → Bool
  | [c, cr, g, r, f, p, v] =>
    if k = 1 ∨ k = 8 then !(c || cr || g || r || f || v)
    else if k = 2 then !(c || cr || g || r || f)
    else if k = 3 then !(r || f || p || v)
    else if k = 4 then !(c || cr || f || p || v)
    else if k = 7 then !(c || cr || g || r || p || v)
    else !(c || cr || g || f || p || v)
  | _ => false
def entX (oc on : Bool) (e : E) : Int :=
  if (e.id < 1 ∨ 899999 < e.id) ∨ (e.school < 1 ∨ 8 < e.school) ∨ (e.student < 1 ∨ 999999 < e.student) then 1
  else if (e.kind < 1 ∨ 9 < e.kind) ∨ on = false then 20
  else if (e.day < 0 ∨ 100000 < e.day) ∨ (e.on_ < 0 ∨ e.day < e.on_) then 23
  else fldE oc e
noncomputable def entE (e : E) : Int := entX (decide (okCode e.course)) (onlyF e.kind (fillB e)) e
theorem mask (k : Int) (hk : k = 1 ∨ k = 2 ∨ k = 3 ∨ k = 4 ∨ k = 5 ∨ k = 6 ∨ k = 7 ∨ k = 8 ∨ k = 9) : ∀ c cr g r f p v : Bool, (IntKind.i64.wrap ((BitVec.ofInt 64 (fillA [c, cr, g, r, f, p, v] 0 0)) &&& ~~~(BitVec.ofInt 64 (hasK k))).toNat != 0) = !(onlyF k [c, cr, g, r, f, p, v]) := by
  rcases hk with rfl | rfl | rfl | rfl | rfl | rfl | rfl | rfl | rfl <;> decide +kernel
theorem maskE (e : E) (hk : e.kind = 1 ∨ e.kind = 2 ∨ e.kind = 3 ∨ e.kind = 4 ∨ e.kind = 5 ∨ e.kind = 6 ∨ e.kind = 7 ∨ e.kind = 8 ∨ e.kind = 9) : (IntKind.i64.wrap ((BitVec.ofInt 64 (fillA (fillB e) 0 0)) &&& ~~~(BitVec.ofInt 64 (hasK e.kind))).toNat != 0) = !(onlyF e.kind (fillB e)) := mask _ hk ..
/-! ### The rules -/
theorem entX_arg {oc on : Bool} {e : E} (h : (e.id < 1 ∨ 899999 < e.id) ∨ (e.school < 1 ∨ 8 < e.school) ∨ (e.student < 1 ∨ 999999 < e.student)) : entX oc on e = 1 := if_pos h
theorem entX_kind {oc on : Bool} {e : E} (h : ¬ ((e.id < 1 ∨ 899999 < e.id) ∨ (e.school < 1 ∨ 8 < e.school) ∨ (e.student < 1 ∨ 999999 < e.student))) (k : (e.kind < 1 ∨ 9 < e.kind) ∨ on = false) : entX oc on e = 20 := (if_neg h).trans (if_pos k)
theorem entX_date {oc on : Bool} {e : E} (h : ¬ ((e.id < 1 ∨ 899999 < e.id) ∨ (e.school < 1 ∨ 8 < e.school) ∨ (e.student < 1 ∨ 999999 < e.student))) (k : ¬ (e.kind < 1 ∨ 9 < e.kind)) (o : on = true) (d : (e.day < 0 ∨ 100000 < e.day) ∨ (e.on_ < 0 ∨ e.day < e.on_)) : entX oc on e = 23 :=
  (if_neg h).trans ((if_neg (by rintro (h | h); exact k h; rw [o] at h; cases h)).trans (if_pos d))
theorem entX_fld {oc on : Bool} {e : E} (h : ¬ ((e.id < 1 ∨ 899999 < e.id) ∨ (e.school < 1 ∨ 8 < e.school) ∨ (e.student < 1 ∨ 999999 < e.student))) (k : ¬ (e.kind < 1 ∨ 9 < e.kind)) (o : on = true) (d : ¬ ((e.day < 0 ∨ 100000 < e.day) ∨ (e.on_ < 0 ∨ e.day < e.on_))) : entX oc on e = fldE oc e :=
  (if_neg h).trans ((if_neg (by rintro (h | h); exact k h; rw [o] at h; cases h)).trans (if_neg d))
structure Rule where
  f : Int
  fn : Nat
  w : Bool
  err : Int
abbrev ruleA (r : Rule) : AV := .agg [int r.f, .clo r.fn [.ptr 0 15 0 0], int r.err]
abbrev rty : TypeId := 148
def mk2 (hv f : Int) : Bool := IntKind.i64.wrap ((BitVec.ofInt 64 hv) &&& (BitVec.ofInt 64 f)).toNat != 0
def ruleE (hv : Int) : List Rule → Int
  | [] => 0
  | r :: l => if mk2 hv r.f && r.w then r.err else ruleE hv l
structure Rule.Ok (e : E) (r : Rule) : Prop where
  run : AFun Tryz.prog r.fn 0 [.rp (en e) 0] [] (bool r.w) []
  call : callable Tryz.prog r.fn = true
noncomputable def rulesOf (e : E) : List Rule := [⟨1, 105, !decide (okCode e.course), 12⟩, ⟨2, 107, decide (e.credits < 1 ∨ 60 < e.credits), 3⟩, ⟨4, 108, decide (e.grade < -1000 ∨ 1000 < e.grade), 3⟩, ⟨32, 109, decide (e.programme < 1), 3⟩,
  ⟨64, 110, decide (e.version < 1), 3⟩, ⟨16, 111, decide ((e.frm < 1 ∨ 8 < e.frm) ∨ e.frm = e.school), 3⟩, ⟨8, 112, decide ((e.ref < 1 ∨ 899999 < e.ref) ∨ e.ref = e.id), 21⟩]
theorem rulesOf_ok (e : E) : ∀ r ∈ rulesOf e, r.Ok e := by
  intro r hr
  simp only [rulesOf, List.mem_cons, List.not_mem_nil, or_false] at hr
  rcases hr with rfl | rfl | rfl | rfl | rfl | rfl | rfl
  · exact ⟨ck1_f e, by kernel_rfl⟩
  · exact ⟨ck2_f e, by kernel_rfl⟩
  · exact ⟨ck3_f e, by kernel_rfl⟩
  · exact ⟨ck4_f e, by kernel_rfl⟩
  · exact ⟨ck5_f e, by kernel_rfl⟩
  · exact ⟨ck6_f e, by kernel_rfl⟩
  · exact ⟨ck7_f e, by kernel_rfl⟩
theorem ruleE_fld (e : E) (hk : e.kind = 1 ∨ e.kind = 2 ∨ e.kind = 3 ∨ e.kind = 4 ∨ e.kind = 5 ∨ e.kind = 6 ∨ e.kind = 7 ∨ e.kind = 8 ∨ e.kind = 9) : ruleE (hasK e.kind) (rulesOf e) = fldE (decide (okCode e.course)) e := by
  have key : ∀ c cr g p v f r : Bool, ∀ k : Int, (k = 1 ∨ k = 2 ∨ k = 3 ∨ k = 4 ∨ k = 5 ∨ k = 6 ∨ k = 7 ∨ k = 8 ∨ k = 9) →
      ruleE (hasK k) [⟨1, 0, !c, 12⟩, ⟨2, 0, cr, 3⟩, ⟨4, 0, g, 3⟩, ⟨32, 0, p, 3⟩, ⟨64, 0, v, 3⟩, ⟨16, 0, f, 3⟩, ⟨8, 0, r, 21⟩] =
      if k = 3 then (if c = false then 12 else if cr = true then 3 else if g = true then 3 else 0)
      else if k = 1 ∨ k = 8 then (if p = true then 3 else 0)
      else if k = 2 then (if p = true ∨ v = true then 3 else 0)
      else if k = 7 then (if f = true then 3 else 0)
      else if k = 4 then (if g = true then 3 else if r = true then 21 else 0)
      else (if r = true then 21 else 0) := by
    intro c cr g p v f r k hk
    rcases hk with rfl | rfl | rfl | rfl | rfl | rfl | rfl | rfl | rfl <;> revert c cr g p v f r <;> decide +kernel
  have := key (decide (okCode e.course)) (decide (e.credits < 1 ∨ 60 < e.credits)) (decide (e.grade < -1000 ∨ 1000 < e.grade)) (decide (e.programme < 1)) (decide (e.version < 1)) (decide ((e.frm < 1 ∨ 8 < e.frm) ∨ e.frm = e.school)) (decide ((e.ref < 1 ∨ 899999 < e.ref) ∨ e.ref = e.id)) e.kind hk
  simp only [decide_eq_true_eq] at this
  exact this
abbrev chkS (e : E) (rs : List Rule) (k : Nat) : AS := ⟨[(1, .ptr 0 15 0 0), (51, .slm {} 1 3 0 rs.length), (52, int rs.length), (53, int k)], [(0, .row 15 ety [en e]), (1, .row 3 rty (rs.map ruleA))], 2⟩
theorem rule_names (rs : List Rule) (ok : Nat → Bool) (h : ok 0 = true) : AV.namesL ok (rs.map ruleA) = true := by
  rw [namesL_all, List.all_map]
  refine List.all_eq_true.2 fun r _ => ?_
  simp only [Function.comp_def, AV.names, AV.namesL, h]; rfl
theorem chkNames (e : E) (rs : List Rule) (ok : Nat → Bool) (h : ok 0 = true) : namesAll ok [(0, .row 15 ety [en e]), (1, .row 3 rty (rs.map ruleA))] = true := by
  simp only [namesAll, Blk.names, rule_names rs ok h]; rfl
theorem rule_ren (rs : List Rule) : AV.renL id (rs.map ruleA) = rs.map ruleA := by
  rw [renL_map, List.map_map]; rfl
theorem getD_rule {l : List Rule} {k : Nat} (d : Rule) (h : k < l.length) : ruleA (l.getD k d) = Am.part true 3 0 3 ((l.map ruleA).getD (0 + k) (.sc undef)) := by
  rw [Nat.zero_add, List.getD_eq_getElem?_getD, List.getD_eq_getElem?_getD, List.getElem?_map, List.getElem?_eq_getElem h]; rfl
set_option maxHeartbeats 1600000 in
set_option maxRecDepth 100000 in
theorem Check_f (e : E) : AFun Tryz.prog 84 0 [en e] [] (int (entE e)) [] := by
  have hfl := filled_f e
  have hh := has_f e.kind
  have hm := maskE e
  have hru := ruleE_fld e
  have hrk := rulesOf_ok e
  have hrl : (rulesOf e).length = 7 := rfl
  have hra : (rulesOf e).map ruleA = [.agg [int 1, .clo 105 [.ptr 0 15 0 0], int 12], .agg [int 2, .clo 107 [.ptr 0 15 0 0], int 3], .agg [int 4, .clo 108 [.ptr 0 15 0 0], int 3], .agg [int 32, .clo 109 [.ptr 0 15 0 0], int 3],
    .agg [int 64, .clo 110 [.ptr 0 15 0 0], int 3], .agg [int 16, .clo 111 [.ptr 0 15 0 0], int 3], .agg [int 8, .clo 112 [.ptr 0 15 0 0], int 21]] := rfl
  unfold entE
  generalize onlyF e.kind (fillB e) = on at hm ⊢
  generalize fillA (fillB e) 0 0 = fl at hm hfl
  generalize decide (okCode e.course) = oc at hru ⊢
  generalize hasK e.kind = hv at hm hh hru
  generalize rulesOf e = rs at hru hrk hrl hra
  refine AFun.of_W T_ok mixed Tryz.func84 rfl (Nat.le_of_ble_eq_true rfl) rfl ?_
  by_cases a1 : e.id < 1 ∨ 899999 < e.id
  case pos =>
    ((repeat ((conv => whnf); (first | (refine LetN.pre ?_; first | ((conv => arg 1; whnf); refine LetN.mk ?_)) | (refine As.pre ?_; first | refine As.mk rfl ?_) | (refine LetV.pre ?_; first | refine LetV.mk (.sc (.int _ _)) rfl ?_) | (refine Br.pre ?_; first | refine Br.tt rfl ?_) | (refine Ck.pre ?_; first | refine Ck.mk rfl ?_) | (refine CallN.pre ?_; first | refine CallN.dect (beyond_f _ _ _) rfl (by assumption) ?_)))); (try (conv => whnf)))




    exact ⟨.inl rfl, ⟨_, rfl, congrArg int (entX_arg (.inl a1)).symm⟩, trivial⟩
  by_cases a2 : e.school < 1 ∨ 8 < e.school
  case pos =>
    ((repeat ((conv => whnf); (first | (refine LetN.pre ?_; first | ((conv => arg 1; whnf); refine LetN.mk ?_)) | (refine As.pre ?_; first | refine As.mk rfl ?_) | (refine LetV.pre ?_; first | refine LetV.mk (.sc (.int _ _)) rfl ?_) | (refine Br.pre ?_; first | refine Br.tt rfl ?_ | refine Br.ff rfl ?_) | (refine Ck.pre ?_; first | refine Ck.mk rfl ?_) | (refine CallN.pre ?_; first | refine CallN.dect (beyond_f _ _ _) rfl (by assumption) ?_ | refine CallN.decf (beyond_f _ _ _) rfl (by assumption) ?_)))); (try (conv => whnf)))




    exact ⟨.inl rfl, ⟨_, rfl, congrArg int (entX_arg (.inr (.inl a2))).symm⟩, trivial⟩
  by_cases a3 : e.student < 1 ∨ 999999 < e.student
  case pos =>
    ((repeat ((conv => whnf); (first | (refine LetN.pre ?_; first | ((conv => arg 1; whnf); refine LetN.mk ?_)) | (refine As.pre ?_; first | refine As.mk rfl ?_) | (refine LetV.pre ?_; first | refine LetV.mk (.sc (.int _ _)) rfl ?_) | (refine Br.pre ?_; first | refine Br.tt rfl ?_ | refine Br.ff rfl ?_) | (refine Ck.pre ?_; first | refine Ck.mk rfl ?_) | (refine CallN.pre ?_; first | refine CallN.dect (beyond_f _ _ _) rfl (by assumption) ?_ | refine CallN.decf (beyond_f _ _ _) rfl (by assumption) ?_)))); (try (conv => whnf)))




    exact ⟨.inl rfl, ⟨_, rfl, congrArg int (entX_arg (.inr (.inr a3))).symm⟩, trivial⟩
  have hA : ¬ ((e.id < 1 ∨ 899999 < e.id) ∨ (e.school < 1 ∨ 8 < e.school) ∨ (e.student < 1 ∨ 999999 < e.student)) := by rintro (h | h | h) <;> contradiction
  by_cases a4 : e.kind < 1 ∨ 9 < e.kind
  case pos =>
    ((repeat ((conv => whnf); (first | (refine LetN.pre ?_; first | ((conv => arg 1; whnf); refine LetN.mk ?_)) | (refine As.pre ?_; first | refine As.mk rfl ?_) | (refine LetV.pre ?_; first | refine LetV.mk (.sc (.int _ _)) rfl ?_) | (refine Br.pre ?_; first | refine Br.tt rfl ?_ | refine Br.ff rfl ?_) | (refine Ck.pre ?_; first | refine Ck.mk rfl ?_) | (refine CallN.pre ?_; first | refine CallN.dect (beyond_f _ _ _) rfl (by assumption) ?_ | refine CallN.decf (beyond_f _ _ _) rfl (by assumption) ?_)))); (try (conv => whnf)))




    exact ⟨.inl rfl, ⟨_, rfl, congrArg int (entX_kind hA (.inl a4)).symm⟩, trivial⟩
  have hp := PLift.up (hm (by omega))
  replace hru := hru (by omega)
  clear hm
  cases on <;> simp only [Bool.not_true, Bool.not_false] at hp
  case false =>
    ((repeat ((conv => whnf); (first | (refine LetN.pre ?_; first | ((conv => arg 1; whnf); refine LetN.mk ?_)) | (refine As.pre ?_; first | refine As.mk rfl ?_) | (refine LetV.pre ?_; first | refine LetV.mk (.sc (.int _ _)) rfl ?_ | refine LetV.mk (.agg _) rfl ?_) | (refine LetI.pre ?_; first | refine LetI.mk _ rfl ?_) | (refine LetB.pre ?_; first | refine LetB.tt hp.down ?_) | (refine Br.pre ?_; first | refine Br.tt rfl ?_ | refine Br.ff rfl ?_) | (refine Ck.pre ?_; first | refine Ck.drawn (by kernel_rfl) ?_ | refine Ck.mk rfl ?_) | (refine CallN.pre ?_; first | refine CallN.pure hfl rfl rfl ?_ | refine CallN.pure hh rfl rfl ?_ | refine CallN.decf (beyond_f _ _ _) rfl (by assumption) ?_)))); (try (conv => whnf)))






    exact ⟨.inl rfl, ⟨_, rfl, congrArg int (entX_kind hA (.inr rfl)).symm⟩, trivial⟩
  by_cases d1 : e.day < 0 ∨ 100000 < e.day
  case pos =>
    ((repeat ((conv => whnf); (first | (refine LetN.pre ?_; first | ((conv => arg 1; whnf); refine LetN.mk ?_)) | (refine As.pre ?_; first | refine As.mk rfl ?_) | (refine LetV.pre ?_; first | refine LetV.mk (.sc (.int _ _)) rfl ?_ | refine LetV.mk (.agg _) rfl ?_) | (refine LetI.pre ?_; first | refine LetI.mk _ rfl ?_) | (refine LetB.pre ?_; first | refine LetB.ff hp.down ?_) | (refine Br.pre ?_; first | refine Br.tt rfl ?_ | refine Br.ff rfl ?_) | (refine Ck.pre ?_; first | refine Ck.drawn (by kernel_rfl) ?_ | refine Ck.mk rfl ?_) | (refine CallN.pre ?_; first | refine CallN.pure hfl rfl rfl ?_ | refine CallN.pure hh rfl rfl ?_ | refine CallN.dect (beyond_f _ _ _) rfl (by assumption) ?_ | refine CallN.decf (beyond_f _ _ _) rfl (by assumption) ?_)))); (try (conv => whnf)))






    exact ⟨.inl rfl, ⟨_, rfl, congrArg int (entX_date hA a4 rfl (.inl d1)).symm⟩, trivial⟩
  by_cases d2 : e.on_ < 0 ∨ e.day < e.on_
  case pos =>
    ((repeat ((conv => whnf); (first | (refine LetN.pre ?_; first | ((conv => arg 1; whnf); refine LetN.mk ?_)) | (refine As.pre ?_; first | refine As.mk rfl ?_) | (refine LetV.pre ?_; first | refine LetV.mk (.sc (.int _ _)) rfl ?_ | refine LetV.mk (.agg _) rfl ?_) | (refine LetI.pre ?_; first | refine LetI.mk _ rfl ?_) | (refine LetB.pre ?_; first | refine LetB.ff hp.down ?_) | (refine Br.pre ?_; first | refine Br.tt rfl ?_ | refine Br.ff rfl ?_) | (refine Ck.pre ?_; first | refine Ck.drawn (by kernel_rfl) ?_ | refine Ck.mk rfl ?_) | (refine CallN.pre ?_; first | refine CallN.pure hfl rfl rfl ?_ | refine CallN.pure hh rfl rfl ?_ | refine CallN.dect (beyond_f _ _ _) rfl (by assumption) ?_ | refine CallN.decf (beyond_f _ _ _) rfl (by assumption) ?_)))); (try (conv => whnf)))






    exact ⟨.inl rfl, ⟨_, rfl, congrArg int (entX_date hA a4 rfl (.inr d2)).symm⟩, trivial⟩
  have hD : ¬ ((e.day < 0 ∨ 100000 < e.day) ∨ (e.on_ < 0 ∨ e.day < e.on_)) := by rintro (h | h) <;> contradiction
  rw [entX_fld hA a4 rfl hD, ← hru]
  ((repeat ((conv => whnf); (first | (refine LetN.pre ?_; first | ((conv => arg 1; whnf); refine LetN.mk ?_)) | (refine As.pre ?_; first | refine As.mk rfl ?_) | (refine LetV.pre ?_; first | refine LetV.mk (.sc (.int _ _)) rfl ?_ | refine LetV.mk (.agg _) rfl ?_) | (refine LetI.pre ?_; first | refine LetI.mk _ rfl ?_) | (refine LetB.pre ?_; first | refine LetB.ff hp.down ?_) | (refine Br.pre ?_; first | refine Br.ff rfl ?_) | (refine Ck.pre ?_; first | refine Ck.drawn (by kernel_rfl) ?_ | refine Ck.mk rfl ?_) | (refine CallN.pre ?_; first | refine CallN.pure hfl rfl rfl ?_ | refine CallN.pure hh rfl rfl ?_ | refine CallN.decf (beyond_f _ _ _) rfl (by assumption) ?_)))); (try (conv => whnf)))






  refine LoopN.weak (s1 := chkS e rs 0) ?sw1 ?_
  case sw1 => exact SW.mk id rfl rfl (chkNames e rs _ rfl) ⟨.refl _, VLe2.slm_of hrl, VLe2.int (by rw [hrl]), .refl _, trivial⟩ (haveV.row rfl rfl (haveV.one (by rw [Blk.ren, rule_ren, hra] <;> rfl) trivial))
  generalize hX : ruleE hv rs = X
  have hrm : (rs.map ruleA).length = rs.length := List.length_map _
  clear hra hp hfl hru
  refine LoopN.ind T_ok mixed (S := chkS e rs) (fun k => rs.length - k) (fun k => k ≤ rs.length ∧ X = ruleE hv (rs.drop k)) (fun _ => rfl) (fun k hi ih => ?_) 0 ⟨Nat.zero_le _, hX.symm⟩
  obtain ⟨g1, g2⟩ := hi
  by_cases hlt : k < rs.length
  case neg =>
    rw [List.drop_eq_nil_of_le (by omega)] at g2
    rw [g2]
    clear ih
    ((repeat ((conv => whnf); (first | (refine As.pre ?_; first | refine As.mk rfl ?_) | (refine LetB.pre ?_; first | refine LetB.decf (by omega) ?_) | (refine Br.pre ?_; first | refine Br.ff rfl ?_) | (refine Ck.pre ?_; first | refine Ck.mk rfl ?_)))); (try (conv => whnf)))
    exact ⟨.inl rfl, ⟨_, rfl, rfl⟩, trivial⟩
  have hld : ruleA (rs.getD k ⟨0, 0, false, 0⟩) = Am.part true 3 0 3 ((rs.map ruleA).getD (0 + k) (.sc undef)) := getD_rule _ hlt
  have hin : rs.getD k ⟨0, 0, false, 0⟩ ∈ rs := by
    rw [List.getD_eq_getElem?_getD, List.getElem?_eq_getElem hlt]
    exact List.getElem_mem _
  rw [List.drop_eq_getElem_cons hlt, show rs[k] = rs.getD k ⟨0, 0, false, 0⟩ by rw [List.getD_eq_getElem?_getD, List.getElem?_eq_getElem hlt]; rfl, ruleE] at g2
  obtain ⟨hr, hcl⟩ := hrk _ hin
  generalize rs.getD k ⟨0, 0, false, 0⟩ = r at hld g2 hr hcl
  have hmk : (IntKind.i64.wrap ((BitVec.ofInt 64 hv) &&& (BitVec.ofInt 64 r.f)).toNat != 0) = mk2 hv r.f := rfl
  have next : X = ruleE hv (rs.drop (k + 1)) → LoopN Tryz.prog 0 Tryz.f84.ntmps _ (chkS e rs (k + 1)) _ := fun h => ih (k + 1) ⟨by omega, h⟩ (by omega)
  clear ih hrk
  cases hb : mk2 hv r.f with
  | false =>
    rw [hb] at hmk g2
    have hp := PLift.up hmk
    clear hmk
    ((repeat ((conv => whnf); (first | (refine LetN.pre ?_; first | ((conv => arg 1; whnf); refine LetN.mk ?_)) | (refine As.pre ?_; first | refine As.mk rfl ?_ | (refine As.mk ?_ ?_; · ((repeat' (refine andT ?_ ?_)) <;> (first | rfl | assumption | exact decide_eq_true (by omega) | exact decide_eq_true (by dsimp only; omega) | exact decide_eq_true (by simp; omega) | (simp; done))))) | (refine LetV.pre ?_; first | refine LetV.mk (t := rty) _ hld ?_ | refine LetV.mk (.sc (.int _ _)) rfl ?_) | (refine LetI.pre ?_; first | refine LetI.wrap (by omega) (by omega) ?_ | refine LetI.mk _ rfl ?_) | (refine LetB.pre ?_; first | refine LetB.ff (by assumption) ?_ | refine LetB.dect (by omega) ?_) | (refine Gd.pre ?_; first | refine Gd.pass rfl ?_) | (refine Br.pre ?_; first | refine Br.tt rfl ?_ | refine Br.ff rfl ?_) | (refine Ck.pre ?_; first | refine Ck.drawn (by kernel_rfl) ?_ | refine Ck.mk rfl ?_) | (refine LetL.pre ?_; first | refine LetL.mk [_] rfl ?_) | (refine CallN.pre ?_; first | refine CallN.pure hh rfl rfl ?_)))); (try (conv => whnf)))



    refine LoopN.weak ?sw2 (next g2)
    case sw2 => exact SW.mk id rfl rfl (chkNames e rs _ rfl) ⟨.refl _, .refl _, .refl _, VLe2.int (by omega), trivial⟩ (haveV.row rfl rfl (haveV.one (by rw [Blk.ren, rule_ren]; rfl) trivial))
  | true =>
    rw [hb] at hmk g2
    have hp := PLift.up hmk
    clear hmk
    cases hw : r.w with
    | false =>
      rw [hw] at hr g2
      ((repeat ((conv => whnf); (first | (refine LetN.pre ?_; first | ((conv => arg 1; whnf); refine LetN.mk ?_)) | (refine As.pre ?_; first | refine As.mk rfl ?_ | (refine As.mk ?_ ?_; · ((repeat' (refine andT ?_ ?_)) <;> (first | rfl | assumption | exact decide_eq_true (by omega) | exact decide_eq_true (by dsimp only; omega) | exact decide_eq_true (by simp; omega) | (simp; done))))) | (refine LetV.pre ?_; first | refine LetV.mk (t := rty) _ hld ?_ | refine LetV.mk (.sc (.int _ _)) rfl ?_ | refine LetV.mk (.clo _ _ _) rfl ?_) | (refine LetI.pre ?_; first | refine LetI.wrap (by omega) (by omega) ?_ | refine LetI.mk _ rfl ?_) | (refine LetB.pre ?_; first | refine LetB.tt (by assumption) ?_ | refine LetB.dect (by omega) ?_) | (refine Gd.pre ?_; first | refine Gd.run rfl ?_) | (refine Br.pre ?_; first | refine Br.tt rfl ?_ | refine Br.ff rfl ?_) | (refine Ck.pre ?_; first | refine Ck.drawn (by kernel_rfl) ?_ | refine Ck.mk rfl ?_ | refine Ck.mk hcl ?_) | (refine LetL.pre ?_; first | refine LetL.mk [_] rfl ?_) | (refine CallN.pre ?_; first | refine CallN.pure hh rfl rfl ?_ | refine CallN.lend hr rfl (.ptr rfl rfl rfl .nil) ?_)))); (try (conv => whnf)))





      refine LoopN.weak ?sw3 (next g2)
      case sw3 => exact SW.mk id rfl rfl (chkNames e rs _ rfl) ⟨.refl _, .refl _, .refl _, VLe2.int (by omega), trivial⟩ (haveV.row rfl rfl (haveV.one (by rw [Blk.ren, rule_ren]; rfl) trivial))
    | true =>
      rw [hw] at hr g2
      simp only [Bool.and_self, if_true] at g2
      rw [g2]
      ((repeat ((conv => whnf); (first | (refine LetN.pre ?_; first | ((conv => arg 1; whnf); refine LetN.mk ?_)) | (refine As.pre ?_; first | refine As.mk rfl ?_ | (refine As.mk ?_ ?_; · ((repeat' (refine andT ?_ ?_)) <;> (first | rfl | assumption | exact decide_eq_true (by omega) | exact decide_eq_true (by dsimp only; omega) | exact decide_eq_true (by simp; omega) | (simp; done))))) | (refine LetV.pre ?_; first | refine LetV.mk (t := rty) _ hld ?_ | refine LetV.mk (.sc (.int _ _)) rfl ?_ | refine LetV.mk (.clo _ _ _) rfl ?_) | (refine LetI.pre ?_; first | refine LetI.mk _ rfl ?_) | (refine LetB.pre ?_; first | refine LetB.tt (by assumption) ?_ | refine LetB.dect (by omega) ?_) | (refine Gd.pre ?_; first | refine Gd.run rfl ?_) | (refine Br.pre ?_; first | refine Br.tt rfl ?_) | (refine Ck.pre ?_; first | refine Ck.drawn (by kernel_rfl) ?_ | refine Ck.mk rfl ?_ | refine Ck.mk hcl ?_) | (refine LetL.pre ?_; first | refine LetL.mk [_] rfl ?_) | (refine CallN.pre ?_; first | refine CallN.pure hh rfl rfl ?_ | refine CallN.lend hr rfl (.ptr rfl rfl rfl .nil) ?_)))); (try (conv => whnf)))





      exact ⟨.inl rfl, ⟨_, rfl, rfl⟩, trivial⟩
end En
end Go.Proofs.YtgnakhljdjekbaaGreatDoor
namespace Go.Proofs.YtgnakhljdjekbaaGreatDoor
open Go.Proofs.YtgnakhljdjekbaaGreatDoor.Am
set_option maxRecDepth 100000
namespace En
open Classical
/-! ### The reference's Check of an entry -/
end En
end Go.Proofs.YtgnakhljdjekbaaGreatDoor
namespace Go.Proofs.YtgnakhljdjekbaaGreatDoor
open Go.Proofs.YtgnakhljdjekbaaGreatDoor.Am
set_option maxRecDepth 100000
namespace En
open Classical
/-! ### Check of entries -/
theorem IndexE_f {c : Cd} (hc : c.Ok) (l : List E) (fl : Fl) (hl : l.length ≤ 100000) : AFun Tryz.prog 66 0 [.ro fl 15 (l.map en), c.av] [] (int (fidx c.p l 0)) [] := by
  refine AFun.of_W T_ok mixed Tryz.func66 rfl (Nat.le_of_ble_eq_true rfl) rfl ?_
  generalize hR : fidx c.p l 0 = R
  ((repeat ((conv => whnf); (first | (refine As.pre ?_; first | refine As.mk rfl ?_) | (refine LetI.pre ?_; first | refine LetI.mk _ rfl ?_) | (refine Ck.pre ?_; first | refine Ck.mk rfl ?_)))); (try (conv => whnf)))
  have hm : (l.map en).length = l.length := List.length_map _
  have hcn : frNames (fun i => decide (i < 0) || List.contains [] i) [(0, .ro fl 15 (l.map en)), (1, c.av), (6, .ro fl 15 (l.map en)), (7, int l.length), (8, int (0 : Nat))] = true := by
    simp only [frNames, List.all_cons, AV.names, AV.namesL, namesL_none hc.pure]; rfl
  refine LoopN.weak (s1 := ⟨[(0, .ro fl 15 (l.map en)), (1, c.av), (6, .ro fl 15 (l.map en)), (7, int l.length), (8, int (0 : Nat))], [], 0⟩) (SW.fr0 (Nat.le_refl _) hcn ⟨.refl _, VLe2.of_eq (ren_id _), .refl _, VLe2.int (by rw [hm]), .refl _, trivial⟩) ?_
  refine LoopN.ind T_ok mixed (S := fun k : Nat => ⟨[(0, .ro fl 15 (l.map en)), (1, c.av), (6, .ro fl 15 (l.map en)), (7, int l.length), (8, int k)], [], 0⟩) (fun k => l.length - k) (fun k => k ≤ l.length ∧ R = fidx c.p (l.drop k) k) (fun _ => rfl) (fun k hk ih => ?_) 0 ⟨Nat.zero_le _, hR.symm⟩
  obtain ⟨h1, h2⟩ := hk
  by_cases hlt : k < l.length
  case neg =>
    rw [fidx_end hlt] at h2
    rw [h2]
    clear ih
    ((repeat ((conv => whnf); (first | (refine As.pre ?_; first | refine As.mk rfl ?_) | (refine LetB.pre ?_; first | refine LetB.decf (by omega) ?_) | (refine Br.pre ?_; first | refine Br.ff rfl ?_) | (refine Ck.pre ?_; first | refine Ck.mk rfl ?_)))); (try (conv => whnf)))
    exact ⟨.inl rfl, ⟨_, rfl, rfl⟩, trivial⟩
  case pos =>
    rw [fidx_drop hlt e0] at h2
    have hld : en (l.getD k e0) = (l.map en).getD k (.sc undef) := mapD e0 hlt
    generalize l.getD k e0 = e at hld h2
    have hck := hc.run e
    cases hp : c.p e with
    | false =>
      rw [hp] at hck h2
      simp only [Bool.false_eq_true, if_false] at h2
      ((repeat ((conv => whnf); (first | (refine As.pre ?_; first | refine As.mk rfl ?_ | (refine As.mk ?_ ?_; · ((repeat' (refine andT ?_ ?_)) <;> (first | rfl | assumption | exact decide_eq_true (by omega) | exact decide_eq_true (by dsimp only; omega) | exact decide_eq_true (by simp; omega) | (simp; done))))) | (refine LetV.pre ?_; first | refine LetV.mk (t := 33) _ hld ?_ | refine LetV.mk (.agg _) rfl ?_) | (refine LetI.pre ?_; first | refine LetI.wrap (by omega) (by omega) ?_) | (refine LetB.pre ?_; first | refine LetB.dect (by omega) ?_) | (refine Br.pre ?_; first | refine Br.tt rfl ?_ | refine Br.ff rfl ?_) | (refine Ck.pre ?_; first | refine Ck.mk rfl ?_ | refine Ck.mk hc.call ?_) | (refine CallN.pre ?_; first | refine CallN.pure hck (hc.names e) rfl ?_) | refine forceAs.pass ?_))); (try (conv => whnf)))



      refine LoopN.weak ?_ (ih (k + 1) ⟨by omega, h2⟩ (by omega))
      refine SW.fr0 (Nat.le_refl _) ?_ ⟨.refl _, VLe2.of_eq (ren_id _), .refl _, .refl _, VLe2.int (by omega), trivial⟩
      exact hcn
    | true =>
      rw [hp] at hck h2
      simp only [if_true] at h2
      rw [h2]
      clear ih
      ((repeat ((conv => whnf); (first | (refine As.pre ?_; first | refine As.mk rfl ?_ | (refine As.mk ?_ ?_; · ((repeat' (refine andT ?_ ?_)) <;> (first | rfl | assumption | exact decide_eq_true (by omega) | exact decide_eq_true (by dsimp only; omega) | exact decide_eq_true (by simp; omega) | (simp; done))))) | (refine LetV.pre ?_; first | refine LetV.mk (t := 33) _ hld ?_ | refine LetV.mk (.agg _) rfl ?_) | (refine LetB.pre ?_; first | refine LetB.dect (by omega) ?_) | (refine Br.pre ?_; first | refine Br.tt rfl ?_) | (refine Ck.pre ?_; first | refine Ck.mk rfl ?_ | refine Ck.mk hc.call ?_) | (refine CallN.pre ?_; first | refine CallN.pure hck (hc.names e) rfl ?_) | refine forceAs.pass ?_))); (try (conv => whnf)))



      exact ⟨.inl rfl, ⟨_, rfl, rfl⟩, trivial⟩
theorem ContainsE_f {c : Cd} (hc : c.Ok) (l : List E) (fl : Fl) (hl : l.length ≤ 100000) : AFun Tryz.prog 40 0 [.ro fl 15 (l.map en), c.av] [] (bool (l.any c.p)) [] := by
  refine AFun.of_W T_ok mixed Tryz.func40 rfl (Nat.le_of_ble_eq_true rfl) rfl ?_
  have hi := IndexE_f hc l fl hl
  have hk := fidx_nonneg (p := c.p) l 0
  generalize fidx c.p l 0 = r at hi hk
  have hb : decide (r ≥ 0) = l.any c.p := Bool.eq_iff_iff.2 (by simp only [decide_eq_true_eq]; exact hk)
  have hn : AV.namesL (fun _ => false) [.ro fl 15 (l.map en), c.av] = true := by
    simp only [AV.namesL, AV.names, hc.pure]; rfl
  ((repeat ((conv => whnf); (first | (refine As.pre ?_; first | refine As.mk rfl ?_) | (refine LetB.pre ?_; first | refine LetB.mk _ hb.symm ?_) | (refine Ck.pre ?_; first | refine Ck.mk rfl ?_) | (refine CallN.pre ?_; first | refine CallN.pure hi hn rfl ?_) | refine forceAs.pass ?_))); (try (conv => whnf)))


  exact ⟨.inl rfl, ⟨_, rfl, rfl⟩, trivial⟩
theorem check1_f (x e : E) : AFun Tryz.prog 85 0 [en x, .rp (en e) 0] [] (bool (decide (x.id = e.id))) [] := by
  refine AFun.of_W T_ok mixed Tryz.func85 rfl (Nat.le_of_ble_eq_true rfl) rfl ?_
  repeat' ((conv => whnf); (first | (refine LetN.pre ?_; first | ((conv => arg 1; whnf); refine LetN.mk ?_)) | (refine As.pre ?_; first | refine As.mk rfl ?_) | (refine LetV.pre ?_; first | refine LetV.mk (.sc (.int _ _)) rfl ?_) | (refine LetB.pre ?_; first | (refine LetB.dec (fun _ => ?_) (fun _ => ?_))) | (refine Ck.pre ?_; first | refine Ck.mk rfl ?_)))
  all_goals (refine ⟨by first | exact .inl rfl | exact .inr rfl, ⟨_, rfl, congrArg (fun b => Go.Proofs.YtgnakhljdjekbaaGreatDoor.Am.AV.sc (Go.Value.bool b)) (by first | exact (decide_eq_true (by omega)).symm | exact (decide_eq_false (by omega)).symm | exact Bool.eq_iff_iff.2 (by simp only [decide_eq_true_eq, decide_eq_false_iff_not]; omega) | rfl)⟩, trivial⟩)
theorem check2_f (x e : E) (kd : Int) : AFun Tryz.prog 87 0 [en x, .rp (en e) 0, .rp (int kd) 0] [] (bool (decide (x.id = e.ref ∧ x.kind = kd ∧ x.student = e.student))) [] := by
  refine AFun.of_W T_ok mixed Tryz.func87 rfl (Nat.le_of_ble_eq_true rfl) rfl ?_
  repeat' ((conv => whnf); (first | (refine LetN.pre ?_; first | ((conv => arg 1; whnf); refine LetN.mk ?_)) | (refine As.pre ?_; first | refine As.mk rfl ?_) | (refine LetV.pre ?_; first | refine LetV.mk (.sc (.int _ _)) rfl ?_) | (refine LetB.pre ?_; first | (refine LetB.dec (fun _ => ?_) (fun _ => ?_))) | (refine Gd.pre ?_; first | refine Gd.run rfl ?_ | refine Gd.pass rfl ?_) | (refine Ck.pre ?_; first | refine Ck.mk rfl ?_)))
  all_goals (refine ⟨by first | exact .inl rfl | exact .inr rfl, ⟨_, rfl, congrArg (fun b => Go.Proofs.YtgnakhljdjekbaaGreatDoor.Am.AV.sc (Go.Value.bool b)) (by first | exact (decide_eq_true (by omega)).symm | exact (decide_eq_false (by omega)).symm | exact Bool.eq_iff_iff.2 (by simp only [decide_eq_true_eq, decide_eq_false_iff_not]; omega) | rfl)⟩, trivial⟩)
abbrev cSame (e : E) : Cd := ⟨85, [.rp (en e) 0], fun x => decide (x.id = e.id)⟩
abbrev cRef (e : E) (kd : Int) : Cd := ⟨87, [.rp (en e) 0, .rp (int kd) 0], fun x => decide (x.id = e.ref ∧ x.kind = kd ∧ x.student = e.student)⟩
theorem cSame_ok (e : E) : (cSame e).Ok := ⟨fun x => check1_f x e, by kernel_rfl, rfl⟩
theorem cRef_ok (e : E) (kd : Int) : (cRef e kd).Ok := ⟨fun x => check2_f x e kd, by kernel_rfl, rfl⟩
theorem targets_f : AFun Tryz.prog 86 0 [] [] (.mp 0) [(0, .map 4 [(.int .i64 4, int 3), (.int .i64 5, int 3), (.int .i64 6, int 5), (.int .i64 9, int 8)])] :=
  AFun.of_evF T_ok mixed 20 0 [] [(0, some (.map 4 [(.int .i64 4, int 3), (.int .i64 5, int 3), (.int .i64 6, int 5), (.int .i64 9, int 8)]))] (by kernel_rfl) rfl rfl
def tgt (k : Int) : Int := if k = 4 ∨ k = 5 then 3 else if k = 6 then 5 else if k = 9 then 8 else 0
end En
end Go.Proofs.YtgnakhljdjekbaaGreatDoor
namespace Go.Proofs.YtgnakhljdjekbaaGreatDoor
open Go.Proofs.YtgnakhljdjekbaaGreatDoor.Am
set_option maxRecDepth 100000
namespace En
open Classical
noncomputable def oneE (b : List E) (e : E) : Int :=
  if entE e ≠ 0 then entE e
  else if b ≠ [] ∧ (b.getD 0 e0).school ≠ e.school then 22
  else if b.any (fun x => decide (x.id = e.id)) = true then 6
  else if b ≠ [] ∧ e.day < (b.getD (b.length - 1) e0).day then 7
  else if tgt e.kind = 0 then 0
  else if fidx (cRef e (tgt e.kind)).p b 0 < 0 then 21
  else if e.on_ < (b.getD (fidx (cRef e (tgt e.kind)).p b 0).toNat e0).on_ then 23
  else 0
theorem entE_kind {e : E} (h : entE e = 0) : 1 ≤ e.kind ∧ e.kind ≤ 9 := by
  unfold entE entX at h
  split at h
  · cases h
  · split at h
    · cases h
    · rename_i h2
      omega
theorem key_int {n : Int} (h : -9223372036854775808 ≤ n ∧ n ≤ 9223372036854775807) : keyB Tryz.prog 3 (.int .i64 n) = true := by
  have hu : Tryz.prog.underlying 3 = some (.int .i64) := TT.Ok.int T_ok (t := 3) rfl rfl
  have hw : (Lit.int .i64 n).wf = true := by
    simp only [Lit.wf, Bool.and_eq_true, decide_eq_true_eq]
    exact h
  unfold keyB keyOf
  simp [hu, mapKey, hw]
theorem fidx_range {α : Type} (p : α → Bool) : ∀ (l : List α) (k : Nat), fidx p l k < (k + l.length : Nat) ∧ -1 ≤ fidx p l k
  | [], k => by simp only [fidx]; omega
  | a :: l, k => by
    unfold fidx
    have := fidx_range p l (k + 1)
    simp only [List.length_cons]
    split <;> omega
abbrev tkv : List (Value × AV) := [(.int .i64 4, int 3), (.int .i64 5, int 3), (.int .i64 6, int 5), (.int .i64 9, int 8)]
theorem tgt_none {k : Int} (h : tgt k = 0) : findOk tkv (.int .i64 k) none := by
  intro x hx
  unfold tgt at h
  simp only [List.mem_cons, List.not_mem_nil, or_false] at hx
  rcases hx with rfl | rfl | rfl | rfl <;>
    (intro he
     simp only [Value.int.injEq, true_and] at he
     subst he
     simp at h)
theorem tgt_some {k : Int} (h : tgt k ≠ 0) : ∃ ix, findOk tkv (.int .i64 k) (some ix) ∧ (AV.tup [int (tgt k), .sc (.bool true)]) = .tup [kvAt tkv ix, .sc (.bool true)] := by
  unfold tgt at h ⊢
  by_cases h4 : k = 4
  · subst h4; exact ⟨0, ⟨int 3, rfl⟩, rfl⟩
  by_cases h5 : k = 5
  · subst h5; exact ⟨1, ⟨int 3, rfl⟩, rfl⟩
  by_cases h6 : k = 6
  · subst h6; exact ⟨2, ⟨int 5, rfl⟩, rfl⟩
  by_cases h9 : k = 9
  · subst h9; exact ⟨3, ⟨int 8, rfl⟩, rfl⟩
  · exfalso
    rw [if_neg (by omega), if_neg (by omega), if_neg (by omega)] at h
    exact h rfl
theorem key_kind {k : Int} (h : 1 ≤ k ∧ k ≤ 9) : (keyB Tryz.prog 3 (.int .i64 k) && tkv.all fun x => keyB Tryz.prog 3 x.1) = true := by
  simp only [List.all_cons, List.all_nil, Bool.and_true, Bool.and_eq_true]
  exact ⟨key_int (by omega), key_int (by omega), key_int (by omega), key_int (by omega), key_int (by omega)⟩
theorem one_tail {b : List E} {e : E} (h0 : entE e = 0) (h1 : ¬ (b ≠ [] ∧ (b.getD 0 e0).school ≠ e.school)) (h2 : b.any (fun x => decide (x.id = e.id)) = false) (h3 : ¬ (b ≠ [] ∧ e.day < (b.getD (b.length - 1) e0).day)) :
    oneE b e = if tgt e.kind = 0 then 0 else if fidx (cRef e (tgt e.kind)).p b 0 < 0 then 21 else if e.on_ < (b.getD (fidx (cRef e (tgt e.kind)).p b 0).toNat e0).on_ then 23 else 0 := by
  unfold oneE
  rw [if_neg (by rw [h0]; simp), if_neg h1, if_neg (by rw [h2]; simp), if_neg h3]
set_option maxHeartbeats 3200000 in
set_option maxRecDepth 100000 in
theorem check_f (b : List E) (e : E) (fl : Fl) (hl : b.length ≤ 100000) : AFun Tryz.prog 65 0 [en e, .ro fl 15 (b.map en)] [] (int (oneE b e)) [] := by
  have hC := Check_f e
  refine AFun.of_W T_ok mixed Tryz.func65 rfl (Nat.le_of_ble_eq_true rfl) rfl ?_
  by_cases hE : entE e = 0
  case neg =>
    rw [show oneE b e = entE e from if_pos hE]
    generalize entE e = z at hC hE ⊢
    ((repeat ((conv => whnf); (first | (refine LetN.pre ?_; first | ((conv => arg 1; whnf); refine LetN.mk ?_)) | (refine As.pre ?_; first | refine As.mk rfl ?_) | (refine LetV.pre ?_; first | refine LetV.mk (.agg _) rfl ?_) | (refine LetB.pre ?_; first | refine LetB.bnet (by omega) ?_) | (refine Br.pre ?_; first | refine Br.tt rfl ?_) | (refine Ck.pre ?_; first | refine Ck.mk rfl ?_) | (refine CallN.pre ?_; first | refine CallN.pure hC rfl rfl ?_)))); (try (conv => whnf)))

    exact ⟨.inl rfl, ⟨_, rfl, rfl⟩, trivial⟩
  have hky := key_kind (entE_kind hE)
  have hm : (b.map en).length = b.length := List.length_map _
  rw [hE] at hC
  by_cases hb : b.length = 0
  case pos =>
    have hbn : b = [] := List.length_eq_zero_iff.1 hb
    have hs : ¬ (b ≠ [] ∧ (b.getD 0 e0).school ≠ e.school) := fun h => h.1 hbn
    have ha : b.any (fun x => decide (x.id = e.id)) = false := by rw [hbn]; rfl
    have hd : ¬ (b ≠ [] ∧ e.day < (b.getD (b.length - 1) e0).day) := fun h => h.1 hbn
    by_cases ht : tgt e.kind = 0
    case pos =>
      have hno : findOk tkv (.int .i64 e.kind) none := tgt_none ht
      ((repeat ((conv => whnf); (first | (refine LetN.pre ?_; first | ((conv => arg 1; whnf); refine LetN.mk ?_)) | (refine As.pre ?_; first | refine As.mk rfl ?_ | refine As.mk hky ?_) | (refine LetV.pre ?_; first | refine LetV.mk (t := 61) (.tup [int 0, .sc (.bool false)]) rfl ?_ | refine LetV.mk (.sc (.int _ _)) rfl ?_ | refine LetV.mk (.agg _) rfl ?_) | (refine LetI.pre ?_; first | refine LetI.mk _ rfl ?_) | (refine LetB.pre ?_; first | refine LetB.ff rfl ?_ | refine LetB.decf (by omega) ?_) | (refine Br.pre ?_; first | refine Br.tt rfl ?_ | refine Br.ff rfl ?_) | (refine Ck.pre ?_; first | refine Ck.drawn (by kernel_rfl) ?_ | refine Ck.mk rfl ?_) | (refine LetL.pre ?_; first | refine LetL.mk [_] rfl ?_) | (refine CallN.pre ?_; first | refine CallN.pure hC rfl rfl ?_ | refine CallN.own (fun _ => 7) targets_f (CallOk.mk' rfl rfl rfl rfl rfl rfl trivial) ?_) | (refine FindN.mk none hno ?_)))); (try (conv => whnf)))





      exact ⟨.inl rfl, ⟨_, rfl, congrArg int ((one_tail hE hs ha hd).trans (if_pos ht)).symm⟩, trivial⟩
    obtain ⟨ix, hfi, hkv⟩ := tgt_some ht
    rw [one_tail hE hs ha hd, if_neg ht]
    generalize hkd : tgt e.kind = kd at hkv
    have hI := fun kd => IndexE_f (cRef_ok e kd) b fl hl
    replace hI := hI kd
    have hrr := fidx_range (cRef e kd).p b 0
    generalize fidx (cRef e kd).p b 0 = r at hI hrr ⊢
    have hr : r < 0 := by omega
    ((repeat ((conv => whnf); (first | (refine LetN.pre ?_; first | ((conv => arg 1; whnf); refine LetN.mk ?_)) | (refine As.pre ?_; first | refine As.mk rfl ?_ | refine As.mk hky ?_) | (refine LetV.pre ?_; first | refine LetV.mk (t := 61) (.tup [int kd, .sc (.bool true)]) hkv ?_ | refine LetV.mk (.sc (.int _ _)) rfl ?_ | refine LetV.mk (.agg _) rfl ?_) | (refine LetI.pre ?_; first | refine LetI.mk _ rfl ?_) | (refine LetB.pre ?_; first | refine LetB.ff rfl ?_ | refine LetB.dect (by omega) ?_ | refine LetB.decf (by omega) ?_) | (refine Br.pre ?_; first | refine Br.tt rfl ?_ | refine Br.ff rfl ?_) | (refine Ck.pre ?_; first | refine Ck.drawn (by kernel_rfl) ?_ | refine Ck.mk rfl ?_) | (refine LetL.pre ?_; first | refine LetL.mk [_] rfl ?_) | (refine CallN.pre ?_; first | refine CallN.pure hC rfl rfl ?_ | refine CallN.own (fun _ => 7) targets_f (CallOk.mk' rfl rfl rfl rfl rfl rfl trivial) ?_ | refine CallN.lend hI rfl (.same rfl (.clo (.ptr rfl rfl rfl (.ptr rfl rfl rfl .nil)) .nil)) ?_) | (refine FindN.mk (some ix) hfi ?_)))); (try (conv => whnf)))






    exact ⟨.inl rfl, ⟨_, rfl, congrArg int (if_pos hr).symm⟩, trivial⟩
  have hbn : b ≠ [] := fun h => hb (by rw [h]; rfl)
  have hld0 : en (b.getD 0 e0) = (b.map en).getD 0 (.sc undef) := mapD e0 (by omega)
  have hldl : en (b.getD (b.length - 1) e0) = (b.map en).getD (b.length - 1) (.sc undef) := mapD e0 (by omega)
  have hsub : ((b.length - 1 : Nat) : Int) = IntKind.i64.wrap (((b.map en).length : Int) - 1) := by
    rw [hm, wrap_id (by omega) (by omega)]; omega
  have hA := ContainsE_f (cSame_ok e) b fl hl
  simp only at hA
  by_cases s1 : (b.getD 0 e0).school ≠ e.school
  case pos =>
    rw [show oneE b e = 22 from (if_neg (by rw [hE]; simp)).trans (if_pos ⟨hbn, s1⟩)]
    generalize b.getD 0 e0 = x0 at hld0 s1
    ((repeat ((conv => whnf); (first | (refine LetN.pre ?_; first | ((conv => arg 1; whnf); refine LetN.mk ?_)) | (refine As.pre ?_; first | refine As.mk rfl ?_ | (refine As.mk ?_ ?_; · ((repeat' (refine andT ?_ ?_)) <;> (first | rfl | assumption | exact decide_eq_true (by omega) | exact decide_eq_true (by dsimp only; omega) | exact decide_eq_true (by simp; omega) | (simp; done))))) | (refine LetV.pre ?_; first | refine LetV.mk (t := 33) _ hld0 ?_ | refine LetV.mk (.sc (.int _ _)) rfl ?_ | refine LetV.mk (.agg _) rfl ?_) | (refine LetI.pre ?_; first | refine LetI.mk _ rfl ?_) | (refine LetB.pre ?_; first | refine LetB.ff rfl ?_ | refine LetB.dect (by omega) ?_ | refine LetB.bnet (by omega) ?_) | (refine Br.pre ?_; first | refine Br.tt rfl ?_ | refine Br.ff rfl ?_) | (refine Ck.pre ?_; first | refine Ck.drawn (by kernel_rfl) ?_ | refine Ck.mk rfl ?_) | (refine CallN.pre ?_; first | refine CallN.pure hC rfl rfl ?_)))); (try (conv => whnf)))


    exact ⟨.inl rfl, ⟨_, rfl, rfl⟩, trivial⟩
  have hs : ¬ (b ≠ [] ∧ (b.getD 0 e0).school ≠ e.school) := fun h => s1 h.2
  cases ha : b.any (fun x => decide (x.id = e.id)) with
  | true =>
    rw [show oneE b e = 6 from (if_neg (by rw [hE]; simp)).trans ((if_neg hs).trans (if_pos ha))]
    rw [ha] at hA
    clear hs
    generalize b.getD 0 e0 = x0 at hld0 s1
    replace s1 : x0.school = e.school := Classical.not_not.1 s1
    ((repeat ((conv => whnf); (first | (refine LetN.pre ?_; first | ((conv => arg 1; whnf); refine LetN.mk ?_)) | (refine As.pre ?_; first | refine As.mk rfl ?_ | (refine As.mk ?_ ?_; · ((repeat' (refine andT ?_ ?_)) <;> (first | rfl | assumption | exact decide_eq_true (by omega) | exact decide_eq_true (by dsimp only; omega) | exact decide_eq_true (by simp; omega) | (simp; done))))) | (refine LetV.pre ?_; first | refine LetV.mk (t := 33) _ hld0 ?_ | refine LetV.mk (.sc (.int _ _)) rfl ?_ | refine LetV.mk (.agg _) rfl ?_) | (refine LetI.pre ?_; first | refine LetI.mk _ rfl ?_) | (refine LetB.pre ?_; first | refine LetB.ff rfl ?_ | refine LetB.dect (by omega) ?_ | refine LetB.bnef (by omega) ?_) | (refine Br.pre ?_; first | refine Br.tt rfl ?_ | refine Br.ff rfl ?_) | (refine Ck.pre ?_; first | refine Ck.drawn (by kernel_rfl) ?_ | refine Ck.mk rfl ?_) | (refine CallN.pre ?_; first | refine CallN.pure hC rfl rfl ?_ | refine CallN.lend hA rfl (.same rfl (.clo (.ptr rfl rfl rfl .nil) .nil)) ?_)))); (try (conv => whnf)))



    exact ⟨.inl rfl, ⟨_, rfl, rfl⟩, trivial⟩
  | false =>
    rw [ha] at hA
    by_cases s2 : e.day < (b.getD (b.length - 1) e0).day
    case pos =>
      rw [show oneE b e = 7 from (if_neg (by rw [hE]; simp)).trans ((if_neg hs).trans ((if_neg (by rw [ha]; simp)).trans (if_pos ⟨hbn, s2⟩)))]
      clear hs
      generalize b.getD 0 e0 = x0 at hld0 s1
      generalize b.getD (b.length - 1) e0 = xl at hldl s2
      replace s1 : x0.school = e.school := Classical.not_not.1 s1
      ((repeat ((conv => whnf); (first | (refine LetN.pre ?_; first | ((conv => arg 1; whnf); refine LetN.mk ?_)) | (refine As.pre ?_; first | refine As.mk rfl ?_ | (refine As.mk ?_ ?_; · ((repeat' (refine andT ?_ ?_)) <;> (first | rfl | assumption | exact decide_eq_true (by omega) | exact decide_eq_true (by dsimp only; omega) | exact decide_eq_true (by simp; omega) | (simp; done))))) | (refine LetV.pre ?_; first | refine LetV.mk (t := 33) _ hld0 ?_ | refine LetV.mk (t := 33) _ hldl ?_ | refine LetV.mk (.sc (.int _ _)) rfl ?_ | refine LetV.mk (.agg _) rfl ?_) | (refine LetI.pre ?_; first | refine LetI.mk (o := some .sub) ((b.length - 1 : Nat) : Int) hsub ?_ | refine LetI.mk _ rfl ?_) | (refine LetB.pre ?_; first | refine LetB.ff rfl ?_ | refine LetB.dect (by omega) ?_ | refine LetB.bnef (by omega) ?_) | (refine Br.pre ?_; first | refine Br.tt rfl ?_ | refine Br.ff rfl ?_) | (refine Ck.pre ?_; first | refine Ck.drawn (by kernel_rfl) ?_ | refine Ck.mk rfl ?_) | (refine CallN.pre ?_; first | refine CallN.pure hC rfl rfl ?_ | refine CallN.lend hA rfl (.same rfl (.clo (.ptr rfl rfl rfl .nil) .nil)) ?_)))); (try (conv => whnf)))





      exact ⟨.inl rfl, ⟨_, rfl, rfl⟩, trivial⟩
    have hd : ¬ (b ≠ [] ∧ e.day < (b.getD (b.length - 1) e0).day) := fun h => s2 h.2
    have s1' : (b.getD 0 e0).school = e.school := Classical.not_not.1 s1
    clear s1
    by_cases ht : tgt e.kind = 0
    case pos =>
      have hno : findOk tkv (.int .i64 e.kind) none := tgt_none ht
      ((repeat ((conv => whnf); (first | (refine LetN.pre ?_; first | ((conv => arg 1; whnf); refine LetN.mk ?_)) | (refine As.pre ?_; first | refine As.mk rfl ?_ | refine As.mk hky ?_ | (refine As.mk ?_ ?_; · ((repeat' (refine andT ?_ ?_)) <;> (first | rfl | assumption | exact decide_eq_true (by omega) | exact decide_eq_true (by dsimp only; omega) | exact decide_eq_true (by simp; omega) | (simp; done))))) | (refine LetV.pre ?_; first | refine LetV.mk (t := 33) _ hld0 ?_ | refine LetV.mk (t := 33) _ hldl ?_ | refine LetV.mk (t := 61) (.tup [int 0, .sc (.bool false)]) rfl ?_ | refine LetV.mk (.sc (.int _ _)) rfl ?_ | refine LetV.mk (.agg _) rfl ?_) | (refine LetI.pre ?_; first | refine LetI.mk (o := some .sub) ((b.length - 1 : Nat) : Int) hsub ?_ | refine LetI.mk _ rfl ?_) | (refine LetB.pre ?_; first | refine LetB.ff rfl ?_ | refine LetB.dect (by omega) ?_ | refine LetB.decf (by omega) ?_ | refine LetB.bnef (by omega) ?_) | (refine Br.pre ?_; first | refine Br.tt rfl ?_ | refine Br.ff rfl ?_) | (refine Ck.pre ?_; first | refine Ck.drawn (by kernel_rfl) ?_ | refine Ck.mk rfl ?_) | (refine LetL.pre ?_; first | refine LetL.mk [_] rfl ?_) | (refine CallN.pre ?_; first | refine CallN.pure hC rfl rfl ?_ | refine CallN.own (fun _ => 7) targets_f (CallOk.mk' rfl rfl rfl rfl rfl rfl trivial) ?_ | refine CallN.lend hA rfl (.same rfl (.clo (.ptr rfl rfl rfl .nil) .nil)) ?_) | (refine FindN.mk none hno ?_)))); (try (conv => whnf)))









      exact ⟨.inl rfl, ⟨_, rfl, congrArg int ((one_tail hE hs ha hd).trans (if_pos ht)).symm⟩, trivial⟩
    obtain ⟨ix, hfi, hkv⟩ := tgt_some ht
    rw [one_tail hE hs ha hd, if_neg ht]
    generalize hkd : tgt e.kind = kd at hkv
    have hI := fun kd => IndexE_f (cRef_ok e kd) b fl hl
    replace hI := hI kd
    have hrr := fidx_range (cRef e kd).p b 0
    generalize fidx (cRef e kd).p b 0 = r at hI hrr ⊢
    by_cases hr : r < 0
    case pos =>
      ((repeat ((conv => whnf); (first | (refine LetN.pre ?_; first | ((conv => arg 1; whnf); refine LetN.mk ?_)) | (refine As.pre ?_; first | refine As.mk rfl ?_ | refine As.mk hky ?_ | (refine As.mk ?_ ?_; · ((repeat' (refine andT ?_ ?_)) <;> (first | rfl | assumption | exact decide_eq_true (by omega) | exact decide_eq_true (by dsimp only; omega) | exact decide_eq_true (by simp; omega) | (simp; done))))) | (refine LetV.pre ?_; first | refine LetV.mk (t := 33) _ hld0 ?_ | refine LetV.mk (t := 33) _ hldl ?_ | refine LetV.mk (t := 61) (.tup [int kd, .sc (.bool true)]) hkv ?_ | refine LetV.mk (.sc (.int _ _)) rfl ?_ | refine LetV.mk (.agg _) rfl ?_) | (refine LetI.pre ?_; first | refine LetI.mk (o := some .sub) ((b.length - 1 : Nat) : Int) hsub ?_ | refine LetI.mk _ rfl ?_) | (refine LetB.pre ?_; first | refine LetB.ff rfl ?_ | refine LetB.dect (by omega) ?_ | refine LetB.decf (by omega) ?_ | refine LetB.bnef (by omega) ?_) | (refine Br.pre ?_; first | refine Br.tt rfl ?_ | refine Br.ff rfl ?_) | (refine Ck.pre ?_; first | refine Ck.drawn (by kernel_rfl) ?_ | refine Ck.mk rfl ?_) | (refine LetL.pre ?_; first | refine LetL.mk [_] rfl ?_) | (refine CallN.pre ?_; first | refine CallN.pure hC rfl rfl ?_ | refine CallN.own (fun _ => 7) targets_f (CallOk.mk' rfl rfl rfl rfl rfl rfl trivial) ?_ | refine CallN.lend hA rfl (.same rfl (.clo (.ptr rfl rfl rfl .nil) .nil)) ?_ | refine CallN.lend hI rfl (.same rfl (.clo (.ptr rfl rfl rfl (.ptr rfl rfl rfl .nil)) .nil)) ?_) | (refine FindN.mk (some ix) hfi ?_)))); (try (conv => whnf)))










      exact ⟨.inl rfl, ⟨_, rfl, congrArg int (if_pos hr).symm⟩, trivial⟩
    have hrl : r.toNat < b.length := by omega
    have hldi : en (b.getD r.toNat e0) = (b.map en).getD r.toNat (.sc undef) := mapD e0 hrl
    generalize hxi : b.getD r.toNat e0 = xi at hldi ⊢
    by_cases ho : e.on_ < xi.on_
    case pos =>
      ((repeat ((conv => whnf); (first | (refine LetN.pre ?_; first | ((conv => arg 1; whnf); refine LetN.mk ?_)) | (refine As.pre ?_; first | refine As.mk rfl ?_ | refine As.mk hky ?_ | (refine As.mk ?_ ?_; · ((repeat' (refine andT ?_ ?_)) <;> (first | rfl | assumption | exact decide_eq_true (by omega) | exact decide_eq_true (by dsimp only; omega) | exact decide_eq_true (by simp; omega) | (simp; done))))) | (refine LetV.pre ?_; first | refine LetV.mk (t := 33) _ hld0 ?_ | refine LetV.mk (t := 33) _ hldl ?_ | refine LetV.mk (t := 33) _ hldi ?_ | refine LetV.mk (t := 61) (.tup [int kd, .sc (.bool true)]) hkv ?_ | refine LetV.mk (.sc (.int _ _)) rfl ?_ | refine LetV.mk (.agg _) rfl ?_) | (refine LetI.pre ?_; first | refine LetI.mk (o := some .sub) ((b.length - 1 : Nat) : Int) hsub ?_ | refine LetI.mk _ rfl ?_) | (refine LetB.pre ?_; first | refine LetB.ff rfl ?_ | refine LetB.dect (by omega) ?_ | refine LetB.decf (by omega) ?_ | refine LetB.bnef (by omega) ?_) | (refine Br.pre ?_; first | refine Br.tt rfl ?_ | refine Br.ff rfl ?_) | (refine Ck.pre ?_; first | refine Ck.drawn (by kernel_rfl) ?_ | refine Ck.mk rfl ?_) | (refine LetL.pre ?_; first | refine LetL.mk [_] rfl ?_) | (refine CallN.pre ?_; first | refine CallN.pure hC rfl rfl ?_ | refine CallN.own (fun _ => 7) targets_f (CallOk.mk' rfl rfl rfl rfl rfl rfl trivial) ?_ | refine CallN.lend hA rfl (.same rfl (.clo (.ptr rfl rfl rfl .nil) .nil)) ?_ | refine CallN.lend hI rfl (.same rfl (.clo (.ptr rfl rfl rfl (.ptr rfl rfl rfl .nil)) .nil)) ?_) | (refine FindN.mk (some ix) hfi ?_)))); (try (conv => whnf)))











      exact ⟨.inl rfl, ⟨_, rfl, congrArg int ((if_neg hr).trans (if_pos ho)).symm⟩, trivial⟩
    ((repeat ((conv => whnf); (first | (refine LetN.pre ?_; first | ((conv => arg 1; whnf); refine LetN.mk ?_)) | (refine As.pre ?_; first | refine As.mk rfl ?_ | refine As.mk hky ?_ | (refine As.mk ?_ ?_; · ((repeat' (refine andT ?_ ?_)) <;> (first | rfl | assumption | exact decide_eq_true (by omega) | exact decide_eq_true (by dsimp only; omega) | exact decide_eq_true (by simp; omega) | (simp; done))))) | (refine LetV.pre ?_; first | refine LetV.mk (t := 33) _ hld0 ?_ | refine LetV.mk (t := 33) _ hldl ?_ | refine LetV.mk (t := 33) _ hldi ?_ | refine LetV.mk (t := 61) (.tup [int kd, .sc (.bool true)]) hkv ?_ | refine LetV.mk (.sc (.int _ _)) rfl ?_ | refine LetV.mk (.agg _) rfl ?_) | (refine LetI.pre ?_; first | refine LetI.mk (o := some .sub) ((b.length - 1 : Nat) : Int) hsub ?_ | refine LetI.mk _ rfl ?_) | (refine LetB.pre ?_; first | refine LetB.ff rfl ?_ | refine LetB.dect (by omega) ?_ | refine LetB.decf (by omega) ?_ | refine LetB.bnef (by omega) ?_) | (refine Br.pre ?_; first | refine Br.tt rfl ?_ | refine Br.ff rfl ?_) | (refine Ck.pre ?_; first | refine Ck.drawn (by kernel_rfl) ?_ | refine Ck.mk rfl ?_) | (refine LetL.pre ?_; first | refine LetL.mk [_] rfl ?_) | (refine CallN.pre ?_; first | refine CallN.pure hC rfl rfl ?_ | refine CallN.own (fun _ => 7) targets_f (CallOk.mk' rfl rfl rfl rfl rfl rfl trivial) ?_ | refine CallN.lend hA rfl (.same rfl (.clo (.ptr rfl rfl rfl .nil) .nil)) ?_ | refine CallN.lend hI rfl (.same rfl (.clo (.ptr rfl rfl rfl (.ptr rfl rfl rfl .nil)) .nil)) ?_) | (refine FindN.mk (some ix) hfi ?_)))); (try (conv => whnf)))











    exact ⟨.inl rfl, ⟨_, rfl, congrArg int ((if_neg hr).trans (if_neg ho)).symm⟩, trivial⟩
end En
end Go.Proofs.YtgnakhljdjekbaaGreatDoor
namespace Go.Proofs.YtgnakhljdjekbaaGreatDoor
open Go.Proofs.YtgnakhljdjekbaaGreatDoor.Am
set_option maxRecDepth 100000
namespace En
open Classical
/-- What Check says of entries. -/
noncomputable def chkL : List E → List E → Int
  | _, [] => 0
  | b, e :: r => if oneE b e = 0 then chkL (b ++ [e]) r else oneE b e
noncomputable def chkE (l : List E) : Int := if 2000 < l.length then 2 else chkL [] l
theorem chkL_step {l : List E} {k : Nat} (h : k < l.length) : chkL (l.take k) (l.drop k) = if oneE (l.take k) (l.getD k e0) = 0 then chkL (l.take (k + 1)) (l.drop (k + 1)) else oneE (l.take k) (l.getD k e0) := by
  rw [List.drop_eq_getElem_cons h, chkL, List.take_succ_eq_append_getElem h, List.getD_eq_getElem?_getD, List.getElem?_eq_getElem h]; rfl
theorem take_en2 (l : List E) (k : Nat) : ((l.map en).drop (0 : Int).toNat).take ((k : Int).toNat - (0 : Int).toNat) = (l.take k).map en := by
  simp [List.map_take]
theorem Check_l (l : List E) (fl : Fl) : AFun Tryz.prog 38 0 [.ro fl 15 (l.map en)] [] (int (chkE l)) [] := by
  refine AFun.of_W T_ok mixed Tryz.func38 rfl (Nat.le_of_ble_eq_true rfl) rfl ?_
  have hm : (l.map en).length = l.length := List.length_map _
  unfold chkE
  by_cases hlen : 2000 < l.length
  · rw [if_pos hlen]
    ((repeat ((conv => whnf); (first | (refine As.pre ?_; first | refine As.mk rfl ?_) | (refine LetI.pre ?_; first | refine LetI.mk _ rfl ?_) | (refine LetB.pre ?_; first | refine LetB.dect (by omega) ?_) | (refine Br.pre ?_; first | refine Br.tt rfl ?_) | (refine Ck.pre ?_; first | refine Ck.mk rfl ?_)))); (try (conv => whnf)))
    exact ⟨.inl rfl, ⟨_, rfl, rfl⟩, trivial⟩
  rw [if_neg hlen]
  generalize hX : chkL [] l = X
  ((repeat ((conv => whnf); (first | (refine As.pre ?_; first | refine As.mk rfl ?_) | (refine LetI.pre ?_; first | refine LetI.mk _ rfl ?_) | (refine LetB.pre ?_; first | refine LetB.decf (by omega) ?_) | (refine Br.pre ?_; first | refine Br.ff rfl ?_) | (refine Ck.pre ?_; first | refine Ck.mk rfl ?_)))); (try (conv => whnf)))
  refine LoopN.weak (s1 := ⟨[(0, .ro fl 15 (l.map en)), (9, .ro fl 15 (l.map en)), (10, int l.length), (11, int (0 : Nat))], [], 0⟩) (SW.fr0 (Nat.le_refl _) rfl ⟨.refl _, .refl _, VLe2.int (by rw [hm]), .refl _, trivial⟩) ?_
  refine LoopN.ind T_ok mixed (S := fun k : Nat => ⟨[(0, .ro fl 15 (l.map en)), (9, .ro fl 15 (l.map en)), (10, int l.length), (11, int k)], [], 0⟩) (fun k => l.length - k) (fun k => k ≤ l.length ∧ X = chkL (l.take k) (l.drop k)) (fun _ => rfl) (fun k hk ih => ?_) 0 ⟨Nat.zero_le _, hX.symm⟩
  obtain ⟨h1, h2⟩ := hk
  by_cases hlt : k < l.length
  case neg =>
    rw [List.drop_eq_nil_of_le (by omega)] at h2
    rw [h2]
    clear ih
    ((repeat ((conv => whnf); (first | (refine As.pre ?_; first | refine As.mk rfl ?_) | (refine LetB.pre ?_; first | refine LetB.decf (by omega) ?_) | (refine Br.pre ?_; first | refine Br.ff rfl ?_) | (refine Ck.pre ?_; first | refine Ck.mk rfl ?_)))); (try (conv => whnf)))
    exact ⟨.inl rfl, ⟨_, rfl, rfl⟩, trivial⟩
  have hld : en (l.getD k e0) = (l.map en).getD k (.sc undef) := mapD e0 hlt
  rw [chkL_step hlt] at h2
  have hck := fun fl' => check_f (l.take k) (l.getD k e0) fl' (by simp; omega)
  have next : X = chkL (l.take (k + 1)) (l.drop (k + 1)) → LoopN Tryz.prog 0 Tryz.f38.ntmps _ ⟨[(0, .ro fl 15 (l.map en)), (9, .ro fl 15 (l.map en)), (10, int l.length), (11, int (k + 1 : Nat))], [], 0⟩ _ := fun h => ih (k + 1) ⟨by omega, h⟩ (by omega)
  clear ih
  have htk : (l.take k).map en = ((l.map en).drop (0 : Int).toNat).take ((k : Int).toNat - (0 : Int).toNat) := (take_en2 l k).symm
  generalize oneE (l.take k) (l.getD k e0) = z at hck h2
  generalize l.getD k e0 = e at hld hck
  by_cases hz : z = 0
  · rw [if_pos hz] at h2
    ((repeat ((conv => whnf); (first | (refine LetN.pre ?_; first | ((conv => arg 1; whnf); refine LetN.mk ?_)) | (refine As.pre ?_; first | refine As.mk rfl ?_ | (refine As.mk ?_ ?_; · ((repeat' (refine andT ?_ ?_)) <;> (first | rfl | assumption | exact decide_eq_true (by omega) | exact decide_eq_true (by dsimp only; omega) | exact decide_eq_true (by simp; omega) | (simp; done))))) | (refine LetV.pre ?_; first | refine LetV.mk (t := 33) _ hld ?_ | refine LetV.mk (t := 33) (.ro _ 15 ((l.take k).map en)) (congrArg (AV.ro _ 15) htk) ?_ | refine LetV.mk (.agg _) rfl ?_) | (refine LetI.pre ?_; first | refine LetI.wrap (by omega) (by omega) ?_) | (refine LetB.pre ?_; first | refine LetB.dect (by omega) ?_ | refine LetB.bnef (by omega) ?_) | (refine Br.pre ?_; first | refine Br.tt rfl ?_ | refine Br.ff rfl ?_) | (refine Ck.pre ?_; first | refine Ck.drawn (by kernel_rfl) ?_ | refine Ck.mk rfl ?_) | (refine LetL.pre ?_; first | refine LetL.mk [_] rfl ?_) | (refine CallN.pre ?_; first | refine CallN.pure (hck _) rfl rfl ?_)))); (try (conv => whnf)))



    refine LoopN.weak ?_ (next h2)
    exact SW.mk id rfl rfl rfl ⟨.refl _, .refl _, .refl _, VLe2.int (by omega), trivial⟩ trivial
  · rw [if_neg hz] at h2
    rw [h2]
    ((repeat ((conv => whnf); (first | (refine LetN.pre ?_; first | ((conv => arg 1; whnf); refine LetN.mk ?_)) | (refine As.pre ?_; first | refine As.mk rfl ?_ | (refine As.mk ?_ ?_; · ((repeat' (refine andT ?_ ?_)) <;> (first | rfl | assumption | exact decide_eq_true (by omega) | exact decide_eq_true (by dsimp only; omega) | exact decide_eq_true (by simp; omega) | (simp; done))))) | (refine LetV.pre ?_; first | refine LetV.mk (t := 33) _ hld ?_ | refine LetV.mk (t := 33) (.ro _ 15 ((l.take k).map en)) (congrArg (AV.ro _ 15) htk) ?_ | refine LetV.mk (.agg _) rfl ?_) | (refine LetB.pre ?_; first | refine LetB.dect (by omega) ?_ | refine LetB.bnet (by omega) ?_) | (refine Br.pre ?_; first | refine Br.tt rfl ?_) | (refine Ck.pre ?_; first | refine Ck.drawn (by kernel_rfl) ?_ | refine Ck.mk rfl ?_) | (refine LetL.pre ?_; first | refine LetL.mk [_] rfl ?_) | (refine CallN.pre ?_; first | refine CallN.pure (hck _) rfl rfl ?_)))); (try (conv => whnf)))



    exact ⟨.inl rfl, ⟨_, rfl, rfl⟩, trivial⟩
end En
end Go.Proofs.YtgnakhljdjekbaaGreatDoor
