/- net: parts of the proof, DnetX. -/
import Derived.Test.YtcfokhkdphodoaaL40
import Derived.Test.YtcfokhkdphodoaaAmOR
set_option linter.all false
namespace Go.Proofs.Ytcfokhkdphodoaa
open Go.Proofs.Ytcfokhkdphodoaa.Am
namespace Nt
theorem set1_bit (cu : Nat → BitVec 16) (a b i j : Nat) (hj : j < 16) : (set1 cu a b false i).getLsbD j = if i = a ∧ j = b then false else (cu i).getLsbD j := by
  simp only [set1, upd, cond_false]
  by_cases hi : i = a
  · subst hi
    by_cases hb : j = b
    · subst hb; simp [hj]
    · simp [hb, hj]; omega
  · simp [hi]
theorem setC_bit (cu : Nat → BitVec 16) (a b i j : Nat) (hj : j < 16) : (setC cu a b false i).getLsbD j = if (i = a ∧ j = b) ∨ (i = b ∧ j = a) then false else (cu i).getLsbD j := by
  rw [setC, set1_bit _ _ _ _ _ hj, set1_bit _ _ _ _ _ hj]
  by_cases h1 : i = b ∧ j = a
  · rw [if_pos h1, if_pos (.inr h1)]
  · rw [if_neg h1]
    by_cases h2 : i = a ∧ j = b
    · rw [if_pos h2, if_pos (.inl h2)]
    · rw [if_neg h2, if_neg (by rintro (h | h) <;> contradiction)]
/-- The links that have been mended. -/
def Clr (cu : Nat → BitVec 16) (a b : Nat) : Prop := ∀ i j : Nat, 1 ≤ j → j < i → i ≤ 4 → (i < a ∨ (i = a ∧ j < b)) → (cu i).getLsbD j = false ∧ (cu j).getLsbD i = false
theorem Clr.step {cu : Nat → BitVec 16} {a b : Nat} (h : Clr cu a b) (ha : a ≤ 4) : Clr (setC cu a b false) a (b + 1) := fun i j h1 h2 h3 h4 => by
  rw [setC_bit _ _ _ _ _ (by omega), setC_bit _ _ _ _ _ (by omega)]
  by_cases e : i = a ∧ j = b
  · rw [if_pos (.inl e), if_pos (.inr ⟨e.2, e.1⟩)]; exact ⟨rfl, rfl⟩
  · have := h i j h1 h2 h3 (by omega)
    constructor
    · split
      · rfl
      · exact this.1
    · split
      · rfl
      · exact this.2
abbrev arrH (cu : Nat → BitVec 16) (ps : List Pc) (m : Tm) : AH := netH 4 cu ps ++ [(2, .map m.length (kvOf m))]
theorem arrNames (cu : Nat → BitVec 16) (ps : List Pc) (m : Tm) (ok : Nat → Bool) (h0 : ok 0 = true) (h1 : ok 1 = true) : namesAll ok (arrH cu ps m) = true := by
  simp only [arrH, netH, List.cons_append, List.nil_append, namesAll, Blk.names, AV.namesL, AV.names, namesL_none (pure_par ps), h1, pure_kv]; rfl
theorem haveKv {ρ : Nat → Nat} {Hc : AH} {nx ck : Nat} {kv : List (Value × AV)} {m : Tm} {H : AH} (h : Hc.get (ρ 2) = some (.map ck kv)) (hck : ck = m.length) (e : kv = kvOf m) (k : haveV ρ Hc nx H) : haveV ρ Hc nx ((2, .map m.length (kvOf m)) :: H) := by
  subst hck e
  exact haveV.one (by rw [ren_kv]; exact h) k
theorem Kp_of {p : Pc} (h : Good 4 p) (hs : p.2.2.size ≤ 20) : Kp p := by
  unfold Good at h
  refine ⟨by omega, by omega, ?_⟩
  unfold maxLen; omega
abbrev arrS (l : List Od) : Nat × List Pc × (Nat → BitVec 16) × Tm → AS
  | (k, ps, cu, m) => ⟨[(0, .ro {} 5 (l.map opA)), (3, .sc (.bool true)), (4, T0), (5, .mp 2), (6, int ps.length), (7, int k)], arrH cu ps m, 3⟩
/-- Behind one more round. -/
structure Okr (k : Nat) (i : List Pc × (Nat → BitVec 16) × Tm) : Prop where
  len : i.1.length ≤ k
  good : ∀ p ∈ i.1, Good 4 p
  size : ∀ p ∈ i.1, p.2.2.size ≤ 20
  inv : Inv i.2.2 i.1
  keys : ∀ x ∈ i.2.2, Kp x.1
theorem Okr.mono {k k' : Nat} {i : List Pc × (Nat → BitVec 16) × Tm} (h : Okr k i) (hk : k ≤ k') : Okr k' i := { h with len := Nat.le_trans h.len hk }
theorem find_new (m : Tm) (p : Pc) : findOk (kvOf m ++ [(pv p, int 0)]) (pv p) (some m.length) := ⟨int 0, by rw [List.getElem?_append_right (by simp)]; simp⟩
theorem at_new (m : Tm) (p : Pc) : int 0 = kvAt (kvOf m ++ [(pv p, int 0)]) m.length := by
  unfold kvAt
  rw [List.getD_eq_getElem?_getD, List.getElem?_append_right (by simp)]; simp
theorem key_new {p : Pc} {m : Tm} (h : Kp p) (hm : ∀ x ∈ m, Kp x.1) : (keyB Try.prog 33 (pv p) && (kvOf m ++ [(pv p, int 0)]).all fun x => keyB Try.prog 33 x.1) = true := by
  have := key_ok h hm
  rw [Bool.and_eq_true] at this ⊢
  refine ⟨this.1, ?_⟩
  rw [List.all_append, this.2, List.all_cons, this.1]; rfl
abbrev mendS (ps : List Pc) (m : Tm) : Nat × (Nat → BitVec 16) → AS
  | (a, cu) => ⟨[(3, .sc (.bool true)), (4, T0), (5, .mp 2), (6, int ps.length), (11, int a)], arrH cu ps m, 3⟩
abbrev mendT (ps : List Pc) (m : Tm) (a : Nat) : Nat × (Nat → BitVec 16) → AS
  | (b, cu) => ⟨[(3, .sc (.bool true)), (4, T0), (5, .mp 2), (6, int ps.length), (11, int a), (12, int b)], arrH cu ps m, 3⟩
abbrev endS (cu : Nat → BitVec 16) : List Pc × Tm → AS
  | (ps, m) => ⟨[(3, .sc (.bool true)), (4, T0), (5, .mp 2), (6, int ps.length)], arrH cu ps m, 3⟩
abbrev arrB (l : List Od) (k : Nat) (s : Od) (ps : List Pc) (cu : Nat → BitVec 16) (m : Tm) : AS := ⟨[(0, .ro {} 5 (l.map opA)), (3, .sc (.bool true)), (4, T0), (5, .mp 2), (6, int ps.length), (7, int k), (8, .ptr 3 5 0 0)], arrH cu ps m ++ [(3, .row 5 28 [opA s])], 4⟩
theorem arrBN (cu : Nat → BitVec 16) (ps : List Pc) (m : Tm) (s : Od) (ok : Nat → Bool) (h0 : ok 0 = true) (h1 : ok 1 = true) : namesAll ok (arrH cu ps m ++ [(3, .row 5 28 [opA s])]) = true := by
  simp only [arrH, netH, List.cons_append, List.nil_append, namesAll, Blk.names, AV.namesL, AV.names, namesL_none (pure_par ps), h1, pure_kv]; rfl
abbrev arrC (l : List Od) (k : Nat) (s : Od) (many : Int) (ps : List Pc) (cu : Nat → BitVec 16) (m : Tm) : AS := ⟨[(0, .ro {} 5 (l.map opA)), (3, .sc (.bool true)), (4, T0), (5, .mp 2), (6, int many), (7, int k), (8, .ptr 3 5 0 0)], arrH cu ps m ++ [(3, .row 5 28 [opA s])], 4⟩
abbrev arrD (l : List Od) (k : Nat) (many : Int) (ps : List Pc) (cu : Nat → BitVec 16) (m : Tm) : AS := ⟨[(0, .ro {} 5 (l.map opA)), (3, .sc (.bool true)), (4, T0), (5, .mp 2), (6, int many), (7, int k)], arrH cu ps m, 3⟩
abbrev arrE (l : List Od) (k : Nat) (r : Pc) (many : Int) (ps : List Pc) (cu : Nat → BitVec 16) (m : Tm) : AS := ⟨[(0, .ro {} 5 (l.map opA)), (3, .sc (.bool true)), (4, T0), (5, .mp 2), (6, int many), (7, int k), (9, .ptr 3 3 0 0)], arrH cu ps m ++ [(3, .row 3 33 [par r])], 4⟩
theorem arrEN (cu : Nat → BitVec 16) (ps : List Pc) (m : Tm) (r : Pc) (ok : Nat → Bool) (h0 : ok 0 = true) (h1 : ok 1 = true) : namesAll ok (arrH cu ps m ++ [(3, .row 3 33 [par r])]) = true := by
  simp only [arrH, netH, List.cons_append, List.nil_append, namesAll, Blk.names, AV.namesL, AV.names, namesL_none (pure_par ps), h1, pure_kv]; rfl
theorem Okr.erase {k : Nat} {ps : List Pc} {cu : Nat → BitVec 16} {m m' : Tm} (h : Okr k (ps, cu, m)) (j : Nat) (hi : Inv m' (ps.eraseIdx j)) (hk : ∀ x ∈ m', Kp x.1) : Okr k (ps.eraseIdx j, cu, m') :=
  ⟨Nat.le_trans (List.length_eraseIdx_le ..) h.len, fun p hp => h.good p (List.mem_of_mem_eraseIdx hp), fun p hp => h.size p (List.mem_of_mem_eraseIdx hp), hi, hk⟩
theorem Okr.send {k : Nat} {ps : List Pc} {cu : Nat → BitVec 16} {m m' : Tm} {p : Pc} (h : Okr k (ps, cu, m)) (hg : Good 4 p) (hs : p.2.2.size ≤ 20) (hi : Inv m' (ps ++ [p])) (hk : ∀ x ∈ m', Kp x.1) : Okr (k + 1) (ps ++ [p], cu, m') :=
  ⟨by have := h.len; simp; exact this, fun r hr => by
    rcases List.mem_append.1 hr with hr | hr
    · exact h.good r hr
    · simp at hr; subst hr; exact hg, fun r hr => by
    rcases List.mem_append.1 hr with hr | hr
    · exact h.size r hr
    · simp at hr; subst hr; exact hs, hi, hk⟩
theorem keys_set {m : Tm} {p : Pc} {i : Nat} {c : Int} (h : ∀ x ∈ m, Kp x.1) (hp : Kp p) : ∀ x ∈ m.set i (p, c), Kp x.1 := fun x hx => by
  rcases List.mem_or_eq_of_mem_set hx with hx | rfl
  · exact h x hx
  · exact hp
theorem keys_add {m : Tm} {p : Pc} {c : Int} (h : ∀ x ∈ m, Kp x.1) (hp : Kp p) : ∀ x ∈ m ++ [(p, c)], Kp x.1 := fun x hx => by
  rcases List.mem_append.1 hx with hx | hx
  · exact h x hx
  · simp at hx; subst hx; exact hp
abbrev endB (cu : Nat → BitVec 16) (ps : List Pc) (m : Tm) (many : Int) : AS := ⟨[(3, .sc (.bool true)), (4, T0), (5, .mp 2), (6, int many)], arrH cu ps m, 3⟩
abbrev endE (cu : Nat → BitVec 16) (r : Pc) (ps : List Pc) (m : Tm) (many : Int) : AS := ⟨[(3, .sc (.bool true)), (4, T0), (5, .mp 2), (6, int many), (13, .ptr 3 3 0 0)], arrH cu ps m ++ [(3, .row 3 33 [par r])], 4⟩
set_option maxHeartbeats 16000000 in
set_option maxRecDepth 100000 in
theorem arrives (l : List Od) (hl : l.length ≤ 9223372036854775807) : AFun Try.prog 3 0 [.ro {} 5 (l.map opA)] [] (.sc (.bool true)) [] := by
  refine AFun.of_VS T_ok Try.func3 rfl (Nat.le_of_ble_eq_true rfl) ?_
  have hml : (l.map opA).length = l.length := List.length_map _
  refine VS.cut T_ok mixed rfl ?_
  ((repeat ((conv => whnf); (first | (refine As.pre ?_; first | refine As.mk rfl ?_) | (refine Ck.pre ?_; first | refine Ck.mk rfl ?_)))); (try (conv => whnf)))
  refine VS.cut T_ok mixed rfl ?_
  ((repeat ((conv => whnf); (first | (refine As.pre ?_; first | refine As.mk rfl ?_) | (refine Ck.pre ?_; first | refine Ck.mk rfl ?_) | (refine CallN.pre ?_; first | refine CallN.pure sanity_f rfl rfl ?_)))); (try (conv => whnf)))
  refine VS.cut T_ok mixed rfl ?_
  ((repeat ((conv => whnf); (first | (refine LetN.pre ?_; first | ((conv => arg 1; whnf); refine LetN.mk ?_)) | (refine As.pre ?_; first | refine As.mk rfl ?_) | (refine Ck.pre ?_; first | refine Ck.mk rfl ?_) | (refine LetL.pre ?_; first | refine LetL.mk [_] rfl ?_ | refine LetL.mk _ rfl ?_) | (refine CallN.pre ?_; first | refine CallN.own id (New_ok 4 (by omega) (by omega)) (CallOk.mk' rfl rfl rfl rfl rfl rfl trivial) ?_)))); (try (conv => whnf)))
  refine VS.cut T_ok mixed rfl ?_
  ((repeat ((conv => whnf); (first | (refine As.pre ?_; first | refine As.mk rfl ?_) | (refine LetB.pre ?_; first | refine LetB.ff rfl ?_) | (refine Br.pre ?_; first | refine Br.ff rfl ?_) | (refine Ck.pre ?_; first | refine Ck.mk rfl ?_)))); (try (conv => whnf)))
  refine VS.cut T_ok mixed rfl ?_
  ((repeat ((conv => whnf); (first | (refine LetN.pre ?_; first | ((conv => arg 1; whnf); refine LetN.mk ?_)) | (refine As.pre ?_; first | refine As.mk rfl ?_) | (refine Ck.pre ?_; first | refine Ck.mk rfl ?_)))); (try (conv => whnf)))
  refine VS.cut T_ok mixed rfl ?_
  ((repeat ((conv => whnf); (first | (refine As.pre ?_; first | refine As.mk rfl ?_) | (refine Ck.pre ?_; first | refine Ck.mk rfl ?_)))); (try (conv => whnf)))
  refine VS.joinN (fun i : List Pc × (Nat → BitVec 16) × Tm => endS i.2.1 (i.1, i.2.2)) (fun i => Okr 40 i) ?_ ?_
  case refine_1 =>
    refine VS.cut T_ok mixed rfl ?_
    ((repeat ((conv => whnf); (first | (refine As.pre ?_; first | refine As.mk rfl ?_) | (refine Ck.pre ?_; first | refine Ck.mk rfl ?_)))); (try (conv => whnf)))
    refine VS.block (VS.loop ?_)
    refine LoopN.weak (s1 := arrS l (0, [], c0, [])) (SW.mk id rfl rfl (arrNames _ _ _ _ rfl rfl) ⟨.refl _, .refl _, .refl _, .refl _, .refl _, .refl _, trivial⟩ (haveV.one rfl (haveV.one rfl (haveKv rfl rfl rfl trivial)))) ?_
    refine LoopN.indS (S := arrS l) (fun i => 40 - i.1) (fun i => i.1 ≤ l.length ∧ i.1 ≤ 40 ∧ Okr i.1 i.2) (fun i hi ih => ?_) (0, [], c0, []) ⟨Nat.zero_le _, Nat.zero_le _, Nat.le_refl _, (fun p hp => by cases hp), (fun p hp => by cases hp), Inv.nil, fun x hx => by cases hx⟩
    obtain ⟨k, ps, cu, m⟩ := i
    obtain ⟨h1, h2, hok⟩ := hi
    dsimp only at h1 h2 hok
    by_cases hlt : k < l.length ∧ k < 40
    case neg =>
      clear ih
      have hb : (bif decide ((k : Int) < ((l.map opA).length : Int)) then decide ((k : Int) < 40) else false) = false := by
        by_cases c : (k : Int) < ((l.map opA).length : Int)
        · rw [decide_eq_true c]; exact decide_eq_false (by omega)
        · rw [decide_eq_false c]; rfl
      refine VS.of_V T_ok mixed rfl ?_
      by_cases c : k < l.length
      · ((repeat ((conv => whnf); (first | (refine As.pre ?_; first | refine As.mk rfl ?_) | (refine LetI.pre ?_; first | refine LetI.mk _ rfl ?_) | (refine LetB.pre ?_; first | refine LetB.dect (by omega) ?_ | refine LetB.decf (by omega) ?_) | (refine Gd.pre ?_; first | refine Gd.run rfl ?_) | (refine Br.pre ?_; first | refine Br.ff rfl ?_) | (refine Ck.pre ?_; first | refine Ck.mk rfl ?_)))); (try (conv => whnf)))
        exact ⟨rfl, (ps, cu, m), hok.mono h2, SW.mk id rfl rfl (arrNames _ _ _ _ rfl rfl) ⟨.refl _, .refl _, .refl _, .refl _, trivial⟩ (haveV.one rfl (haveV.row (pure_par _) rfl (haveKv rfl rfl rfl trivial)))⟩
      · ((repeat ((conv => whnf); (first | (refine As.pre ?_; first | refine As.mk rfl ?_) | (refine LetI.pre ?_; first | refine LetI.mk _ rfl ?_) | (refine LetB.pre ?_; first | refine LetB.decf (by omega) ?_) | (refine Gd.pre ?_; first | refine Gd.pass rfl ?_) | (refine Br.pre ?_; first | refine Br.ff rfl ?_) | (refine Ck.pre ?_; first | refine Ck.mk rfl ?_)))); (try (conv => whnf)))
        exact ⟨rfl, (ps, cu, m), hok.mono h2, SW.mk id rfl rfl (arrNames _ _ _ _ rfl rfl) ⟨.refl _, .refl _, .refl _, .refl _, trivial⟩ (haveV.one rfl (haveV.row (pure_par _) rfl (haveKv rfl rfl rfl trivial)))⟩
    obtain ⟨hlk, hk40⟩ := hlt
    refine VS.cut T_ok mixed rfl ?_
    ((repeat ((conv => whnf); (first | (refine As.pre ?_; first | refine As.mk rfl ?_) | (refine LetI.pre ?_; first | refine LetI.mk _ rfl ?_) | (refine LetB.pre ?_; first | refine LetB.dect (by omega) ?_) | (refine Gd.pre ?_; first | refine Gd.run rfl ?_) | (refine Br.pre ?_; first | refine Br.tt rfl ?_) | (refine Ck.pre ?_; first | refine Ck.mk rfl ?_)))); (try (conv => whnf)))
    refine VS.joinN (fun i : List Pc × (Nat → BitVec 16) × Tm => arrS l (k, i)) (fun i => Okr (k + 1) i) ?_ ?_
    case refine_2 =>
      intro i hi
      have hnx := ih (k + 1, i) ⟨hlk, hk40, hi⟩ (by show 40 - (k + 1) < 40 - k; omega)
      obtain ⟨ps', cu', m'⟩ := i
      clear ih
      refine VS.of_V T_ok mixed rfl ?_
      ((repeat ((conv => whnf); (first | (refine As.pre ?_; first | refine As.mk rfl ?_) | (refine LetI.pre ?_; first | refine LetI.wrap (by omega) (by omega) ?_) | (refine Ck.pre ?_; first | refine Ck.mk rfl ?_)))); (try (conv => whnf)))
      refine LoopN.weak ?sw1 hnx
      case sw1 => exact SW.mk id rfl rfl (arrNames _ _ _ _ rfl rfl) ⟨.refl _, .refl _, .refl _, .refl _, .refl _, VLe2.int (by omega), trivial⟩ (haveV.one rfl (haveV.row (pure_par _) rfl (haveKv rfl rfl rfl trivial)))
    clear ih
    refine VS.block ?_
    have hld : opA (l.getD k o0) = (l.map opA).getD k (.sc undef) := mapD (f := opA) (l := l) (i := k) o0 hlk
    have hsm := Small_f (l.getD k o0)
    have hrg := small_range (l.getD k o0)
    have hsz := cut20_size (small (l.getD k o0)).2.2.2.2
    generalize small (l.getD k o0) = s at hsm hrg hsz
    obtain ⟨q0, A, B, y, body⟩ := s
    have hpar := Parcel_f (q0, A, B, y, body)
    replace hsm : AFun Try.prog 11 0 [opA (l.getD k o0)] [] (.agg [.sc (.int .u8 q0), int A, int B, .sc (.bool y), .sc (.string body)]) [] := hsm
    replace hpar : AFun Try.prog 13 0 [.agg [.sc (.int .u8 q0), int A, int B, .sc (.bool y), .sc (.string body)]] [] (par (parOf (q0, A, B, y, body))) [] := hpar
    have hp12 : (parOf (q0, A, B, y, body)).1 = A ∧ (parOf (q0, A, B, y, body)).2.1 = B := ⟨rfl, rfl⟩
    have hpsz : (parOf (q0, A, B, y, body)).2.2.size ≤ 20 := hsz
    generalize hpp : parOf (q0, A, B, y, body) = p at hpar hrg hp12 hpsz
    clear hpp hsz
    generalize l.getD k o0 = o at hld hsm
    refine VS.cut T_ok mixed rfl ?_
    ((repeat ((conv => whnf); (first | (refine LetN.pre ?_; first | ((conv => arg 1; whnf); refine LetN.mk ?_)) | (refine As.pre ?_; first | refine As.mk rfl ?_ | (refine As.mk ?_ ?_; · ((repeat' (refine andT ?_ ?_)) <;> (first | rfl | assumption | exact decide_eq_true (by omega) | exact decide_eq_true (by dsimp only; omega) | exact decide_eq_true (by simp; omega) | (simp; done))))) | (refine LetV.pre ?_; first | refine LetV.mk (t := 22) _ hld ?_ | refine LetV.mk (.agg _) rfl ?_) | (refine Ck.pre ?_; first | refine Ck.mk rfl ?_) | (refine LetL.pre ?_; first | refine LetL.mk [_] rfl ?_) | (refine CallN.pre ?_; first | refine CallN.pure hsm rfl rfl ?_)))); (try (conv => whnf)))


    refine VS.weak (s1 := arrB l k (q0, A, B, y, body) ps cu m) ?sw2 ?_
    case sw2 => exact SW.mk id rfl rfl (arrBN _ _ _ _ _ rfl rfl) ⟨.refl _, .refl _, .refl _, .refl _, .refl _, .refl _, .refl _, trivial⟩ (haveV.one rfl (haveV.row (pure_par _) rfl (haveKv rfl rfl rfl (haveV.one rfl trivial))))
    clear hld hsm
    generalize hq : q0.tmod 4 = q
    have hqc : (q = 0 ∨ q = 1) ∨ q = 2 ∨ q = 3 ∨ (q ≠ 0 ∧ q ≠ 1 ∧ q ≠ 2 ∧ q ≠ 3) := by omega
    refine VS.joinN (fun i : List Pc × (Nat → BitVec 16) × Tm => arrS l (k, i)) (fun i => Okr (k + 1) i) ?_ ?_
    case refine_2 =>
      intro i hi
      obtain ⟨ps', cu', m'⟩ := i
      have hl' := hi.len
      have hmp' : (ps'.map par).length = ps'.length := List.length_map _
      have hW := Waiting_f 4 cu' ps' rfl (by dsimp only at hl'; omega)
      refine VS.of_V T_ok mixed rfl ?_
      ((repeat ((conv => whnf); (first | (refine As.pre ?_; first | refine As.mk rfl ?_) | (refine LetI.pre ?_; first | refine LetI.mk _ rfl ?_) | (refine LetB.pre ?_; first | refine LetB.bnef (by omega) ?_) | (refine Br.pre ?_; first | refine Br.ff rfl ?_) | (refine Ck.pre ?_; first | refine Ck.mk rfl ?_) | (refine CallN.pre ?_; first | refine CallN.read id hW (netOk' 4 cu' ps' rfl rfl rfl rfl rfl rfl) ?_)))); (try (conv => whnf)))
      exact ⟨rfl, (ps', cu', m'), hi, SW.mk id rfl rfl (arrNames _ _ _ _ rfl rfl) ⟨.refl _, .refl _, .refl _, .refl _, .refl _, .refl _, trivial⟩ (haveV.one rfl (haveV.row (pure_par _) rfl (haveKv rfl rfl rfl trivial)))⟩
    refine VS.cut T_ok mixed rfl ?_
    ((repeat ((conv => whnf); (first | (refine As.pre ?_; first | refine As.mk rfl ?_) | (refine LetV.pre ?_; first | refine LetV.mk (.sc (.int _ _)) rfl ?_) | (refine LetI.pre ?_; first | refine LetI.mk (o := some .rem) q hq.symm ?_) | (refine Ck.pre ?_; first | refine Ck.mk rfl ?_)))); (try (conv => whnf)))

    refine VS.block ?_
    have hs200 : ¬ (262144 < p.2.2.size ∨ 200 ≤ ps.length) := by have := hok.len; dsimp only at this; omega
    have hlen : ps.length ≤ k := hok.len
    rcases hqc with hqc | hqc | hqc | hqc
    · -- a parcel is sent
      by_cases hg : Good 4 p
      case neg =>
        refine VS.of_V T_ok mixed rfl ?_
        rcases hqc with rfl | rfl
        all_goals
          ((repeat ((conv => whnf); (first | (refine As.pre ?_; first | refine As.mk rfl ?_) | (refine LetV.pre ?_; first | refine LetV.mk (.agg _) rfl ?_) | (refine LetB.pre ?_; first | refine LetB.tt rfl ?_ | refine LetB.ff rfl ?_) | (refine Br.pre ?_; first | refine Br.tt rfl ?_ | refine Br.ff rfl ?_) | (refine Ck.pre ?_; first | refine Ck.mk rfl ?_) | (refine CallN.pre ?_; first | refine CallN.pure hpar rfl rfl ?_ | refine CallN.read id (Send_no 4 cu ps rfl p hg) (netOk' 4 cu ps rfl rfl rfl rfl rfl rfl) ?_)))); (try (conv => whnf)))


          exact ⟨rfl, (ps, cu, m), hok.mono (Nat.le_succ _), SW.mk id rfl rfl (arrNames _ _ _ _ rfl rfl) ⟨.refl _, .refl _, .refl _, .refl _, .refl _, .refl _, trivial⟩ (haveV.one rfl (haveV.row (pure_par _) rfl (haveKv rfl rfl rfl trivial)))⟩
      have hKp := Kp_of hg hpsz
      cases hbit : (cu p.1.toNat).getLsbD p.2.1.toNat
      case true =>
        refine VS.of_V T_ok mixed rfl ?_
        rcases hqc with rfl | rfl
        all_goals
          ((repeat ((conv => whnf); (first | (refine As.pre ?_; first | refine As.mk rfl ?_) | (refine LetV.pre ?_; first | refine LetV.mk (.agg _) rfl ?_) | (refine LetB.pre ?_; first | refine LetB.tt rfl ?_ | refine LetB.ff rfl ?_) | (refine Br.pre ?_; first | refine Br.tt rfl ?_ | refine Br.ff rfl ?_) | (refine Ck.pre ?_; first | refine Ck.mk rfl ?_) | (refine CallN.pre ?_; first | refine CallN.pure hpar rfl rfl ?_ | refine CallN.read id (Send_cut 4 cu ps rfl (by omega) p hg hs200 hbit) (netOk' 4 cu ps rfl rfl rfl rfl rfl rfl) ?_)))); (try (conv => whnf)))


          exact ⟨rfl, (ps, cu, m), hok.mono (Nat.le_succ _), SW.mk id rfl rfl (arrNames _ _ _ _ rfl rfl) ⟨.refl _, .refl _, .refl _, .refl _, .refl _, .refl _, trivial⟩ (haveV.one rfl (haveV.row (pure_par _) rfl (haveKv rfl rfl rfl trivial)))⟩
      have hln : (ps ++ [p]).length = ps.length + 1 := by simp
      have hinv : Inv m ps := hok.inv
      have hks : ∀ x ∈ m, Kp x.1 := hok.keys
      have hkl : (kvOf m).length = m.length := List.length_map _
      have hck : (m.length == (kvOf m).length) = true := by simp
      have hkl2 : (kvOf m ++ [(pv p, int 0)]).length = m.length + 1 := by rw [List.length_append, hkl]; rfl
      have hck2 : (m.length + 1 == (kvOf m ++ [(pv p, int 0)]).length) = true := by rw [hkl2]; simp
      rcases hinv.pos p with ⟨i, hi⟩ | ⟨hi, h0⟩
      · have hil := (List.getElem?_eq_some_iff.1 hi).1
        have hct : (cnt p ps : Int) ≤ 40 ∧ (0 : Int) ≤ cnt p ps := by have := cnt_le p ps; omega
        have hfin := hok.send hg hpsz (hinv.send hi) (keys_set hks hKp)
        generalize ((cnt p ps : Nat) : Int) = c at hi hct hfin
        rcases hqc with rfl | rfl
        all_goals
          refine VS.cut T_ok mixed rfl ?_
          ((repeat ((conv => whnf); (first | (refine As.pre ?_; first | refine As.mk rfl ?_) | (refine LetB.pre ?_; first | refine LetB.tt rfl ?_ | refine LetB.ff rfl ?_) | (refine Br.pre ?_; first | refine Br.tt rfl ?_ | refine Br.ff rfl ?_) | (refine Ck.pre ?_; first | refine Ck.mk rfl ?_)))); (try (conv => whnf)))
          refine VS.condT rfl rfl ?_
          refine VS.cut T_ok mixed rfl ?_
          ((repeat ((conv => whnf); (first | (refine LetN.pre ?_; first | ((conv => arg 1; whnf); refine LetN.mk ?_)) | (refine As.pre ?_; first | refine As.mk rfl ?_) | (refine LetV.pre ?_; first | refine LetV.mk (.agg _) rfl ?_) | (refine LetB.pre ?_; first | refine LetB.tt rfl ?_) | (refine Ck.pre ?_; first | refine Ck.mk rfl ?_) | (refine LetL.pre ?_; first | refine LetL.mk (ty := 33) _ (renL_none (pure_par _)).symm ?_ | refine LetL.mk [_] rfl ?_) | (refine CallN.pre ?_; first | refine CallN.pure hpar rfl rfl ?_ | refine CallN.own (fun i => if i < 2 then i else 40) (Send_ok 4 cu ps rfl (by omega) p hg hs200 hbit) (netOk 4 cu ps rfl rfl rfl rfl rfl rfl) ?_)))); (try (conv => whnf)))



          refine VS.condT rfl rfl ?_
          refine VS.weak (s1 := arrC l k (q0, A, B, y, body) ps.length (ps ++ [p]) cu m) ?sw3 ?_
          case sw3 => exact SW.mk (fun i => if i = 1 then 40 else i) rfl rfl (arrBN _ _ _ _ _ rfl rfl) ⟨.refl _, .refl _, .refl _, .refl _, .refl _, .refl _, .refl _, trivial⟩ (haveV.one rfl (haveV.row (pure_par _) rfl (haveKv rfl rfl rfl (haveV.one rfl trivial))))
          refine VS.seq ?_
          refine VS.two T_ok mixed 5 3 [0, 1, 2, 3, 4, 5, 6, 7] [0, 1, 2, 3, 4, 5, 6, 7] [0, 1, 2, 4, 5, 3, 6, 7] [0, 1, 2, 5, 3, 4, 6, 7] (arrD l k ps.length (ps ++ [p]) cu (m.set i (p, c + 1))) (by kernel_rfl) (by kernel_rfl) (by decide) rfl ?v1 ?v2 ?v3
          case v1 =>
            ((repeat ((conv => whnf); (first | (refine LetN.pre ?_; first | ((conv => arg 1; whnf); refine LetN.mk ?_)) | (refine As.pre ?_; first | refine As.mk rfl ?_ | refine As.mk (key_ok hKp hok.keys) ?_ | (refine As.mk ?_ ?_; · ((repeat' (refine andT ?_ ?_)) <;> (first | rfl | assumption | exact decide_eq_true (by omega) | exact decide_eq_true (by dsimp only; omega) | exact decide_eq_true (by simp; omega) | (simp; done))))) | (refine LetV.pre ?_; first | refine LetV.mk (t := 26) (int c) (kvAt_some hi) ?_ | refine LetV.mk (.agg _) rfl ?_) | (refine LetI.pre ?_; first | refine LetI.wrap (by omega) (by omega) ?_) | (refine Ck.pre ?_; first | refine Ck.drawn (by kernel_rfl) ?_ | refine Ck.mk rfl ?_) | (refine CallN.pre ?_; first | refine CallN.pure hpar rfl rfl ?_) | (refine FindN.mk (some i) (find_some hi) ?_) | refine forceAs.pass ?_))); (try (conv => whnf)))





            exact ⟨rfl, SW.mk id rfl rfl (arrNames _ _ _ _ rfl rfl) ⟨.refl _, .refl _, .refl _, .refl _, .refl _, .refl _, trivial⟩ (haveV.one rfl (haveV.row (pure_par _) rfl (haveKv rfl (by simp) (set_kv hi _) trivial)))⟩
          case v2 =>
            ((repeat ((conv => whnf); (first | (refine LetN.pre ?_; first | ((conv => arg 1; whnf); refine LetN.mk ?_)) | (refine As.pre ?_; first | refine As.mk rfl ?_ | refine As.mk (key_ok hKp hok.keys) ?_ | (refine As.mk ?_ ?_; · ((repeat' (refine andT ?_ ?_)) <;> (first | rfl | assumption | exact decide_eq_true (by omega) | exact decide_eq_true (by dsimp only; omega) | exact decide_eq_true (by simp; omega) | (simp; done))))) | (refine LetV.pre ?_; first | refine LetV.mk (t := 26) (int c) (kvAt_some hi) ?_ | refine LetV.mk (.agg _) rfl ?_) | (refine LetI.pre ?_; first | refine LetI.wrap (by omega) (by omega) ?_) | (refine Ck.pre ?_; first | refine Ck.drawn (by kernel_rfl) ?_ | refine Ck.mk rfl ?_) | (refine CallN.pre ?_; first | refine CallN.pure hpar rfl rfl ?_) | (refine FindN.mk (some i) (find_some hi) ?_) | refine forceAs.pass ?_))); (try (conv => whnf)))





            exact ⟨rfl, SW.mk id rfl rfl (arrNames _ _ _ _ rfl rfl) ⟨.refl _, .refl _, .refl _, .refl _, .refl _, .refl _, trivial⟩ (haveV.one rfl (haveV.row (pure_par _) rfl (haveKv rfl (by simp) (set_kv hi _) trivial)))⟩
          case v3 =>
            dsimp only
            refine VS.of_V T_ok mixed rfl ?_
            ((repeat ((conv => whnf); (first | (refine As.pre ?_; first | refine As.mk rfl ?_) | (refine LetI.pre ?_; first | refine LetI.wrap (by omega) (by omega) ?_) | (refine Ck.pre ?_; first | refine Ck.mk rfl ?_)))); (try (conv => whnf)))
            exact ⟨rfl, (ps ++ [p], cu, m.set i (p, c + 1)), hfin, SW.mk id rfl rfl (arrNames _ _ _ _ rfl rfl) ⟨.refl _, .refl _, .refl _, .refl _, VLe2.int (by rw [hln]; omega), .refl _, trivial⟩ (haveV.one rfl (haveV.row (pure_par _) rfl (haveKv rfl rfl rfl trivial)))⟩
      · have hfin := hok.send hg hpsz (hinv.add hi h0) (keys_add hks hKp)
        rcases hqc with rfl | rfl
        all_goals
          refine VS.cut T_ok mixed rfl ?_
          ((repeat ((conv => whnf); (first | (refine As.pre ?_; first | refine As.mk rfl ?_) | (refine LetB.pre ?_; first | refine LetB.tt rfl ?_ | refine LetB.ff rfl ?_) | (refine Br.pre ?_; first | refine Br.tt rfl ?_ | refine Br.ff rfl ?_) | (refine Ck.pre ?_; first | refine Ck.mk rfl ?_)))); (try (conv => whnf)))
          refine VS.condT rfl rfl ?_
          refine VS.cut T_ok mixed rfl ?_
          ((repeat ((conv => whnf); (first | (refine LetN.pre ?_; first | ((conv => arg 1; whnf); refine LetN.mk ?_)) | (refine As.pre ?_; first | refine As.mk rfl ?_) | (refine LetV.pre ?_; first | refine LetV.mk (.agg _) rfl ?_) | (refine LetB.pre ?_; first | refine LetB.tt rfl ?_) | (refine Ck.pre ?_; first | refine Ck.mk rfl ?_) | (refine LetL.pre ?_; first | refine LetL.mk (ty := 33) _ (renL_none (pure_par _)).symm ?_ | refine LetL.mk [_] rfl ?_) | (refine CallN.pre ?_; first | refine CallN.pure hpar rfl rfl ?_ | refine CallN.own (fun i => if i < 2 then i else 40) (Send_ok 4 cu ps rfl (by omega) p hg hs200 hbit) (netOk 4 cu ps rfl rfl rfl rfl rfl rfl) ?_)))); (try (conv => whnf)))



          refine VS.condT rfl rfl ?_
          refine VS.weak (s1 := arrC l k (q0, A, B, y, body) ps.length (ps ++ [p]) cu m) ?sw3 ?_
          case sw3 => exact SW.mk (fun i => if i = 1 then 40 else i) rfl rfl (arrBN _ _ _ _ _ rfl rfl) ⟨.refl _, .refl _, .refl _, .refl _, .refl _, .refl _, .refl _, trivial⟩ (haveV.one rfl (haveV.row (pure_par _) rfl (haveKv rfl rfl rfl (haveV.one rfl trivial))))
          refine VS.seq ?_
          refine VS.two T_ok mixed 5 3 [0, 1, 2, 3, 4, 5, 6, 7] [0, 1, 2, 3, 4, 5, 6, 7] [0, 1, 2, 4, 5, 3, 6, 7] [0, 1, 2, 5, 3, 4, 6, 7] (arrD l k ps.length (ps ++ [p]) cu (m ++ [(p, 1)])) (by kernel_rfl) (by kernel_rfl) (by decide) rfl ?v1 ?v2 ?v3
          case v1 =>
            ((repeat ((conv => whnf); (first | (refine LetN.pre ?_; first | ((conv => arg 1; whnf); refine LetN.mk ?_)) | (refine As.pre ?_; first | refine As.mk rfl ?_ | refine As.mk (key_ok hKp hok.keys) ?_ | (refine As.mk ?_ ?_; · ((repeat' (refine andT ?_ ?_)) <;> (first | rfl | assumption | exact decide_eq_true (by omega) | exact decide_eq_true (by dsimp only; omega) | exact decide_eq_true (by simp; omega) | (simp; done))))) | (refine LetV.pre ?_; first | refine LetV.mk (.sc (.int _ _)) rfl ?_ | refine LetV.mk (.agg _) rfl ?_) | (refine LetI.pre ?_; first | refine LetI.wrap (by omega) (by omega) ?_) | (refine Ck.pre ?_; first | refine Ck.drawn (by kernel_rfl) ?_ | refine Ck.mk rfl ?_) | (refine CallN.pre ?_; first | refine CallN.pure hpar rfl rfl ?_) | (refine FindN.mk none (find_none hi) ?_)))); (try (conv => whnf)))




            exact ⟨rfl, SW.mk id rfl rfl (arrNames _ _ _ _ rfl rfl) ⟨.refl _, .refl _, .refl _, .refl _, .refl _, .refl _, trivial⟩ (haveV.one rfl (haveV.row (pure_par _) rfl (haveKv rfl (by simp) (set_new m p _ _) trivial)))⟩
          case v2 =>
            ((repeat ((conv => whnf); (first | (refine LetN.pre ?_; first | ((conv => arg 1; whnf); refine LetN.mk ?_)) | (refine As.pre ?_; first | refine As.mk rfl ?_ | refine As.mk (key_ok hKp hok.keys) ?_ | refine As.mk (key_new hKp hok.keys) ?_ | (refine As.mk ?_ ?_; · ((repeat' (refine andT ?_ ?_)) <;> (first | rfl | assumption | exact decide_eq_true (by omega) | exact decide_eq_true (by dsimp only; omega) | exact decide_eq_true (by simp; omega) | (simp; done))))) | (refine LetV.pre ?_; first | refine LetV.mk (t := 26) (int 0) (at_new m p) ?_ | refine LetV.mk (.agg _) rfl ?_) | (refine LetI.pre ?_; first | refine LetI.wrap (by omega) (by omega) ?_) | (refine Ck.pre ?_; first | refine Ck.drawn (by kernel_rfl) ?_ | refine Ck.mk rfl ?_) | (refine CallN.pre ?_; first | refine CallN.pure hpar rfl rfl ?_) | (refine FindN.mk none (find_none hi) ?_) | (refine FindN.mk (some m.length) (find_new m p) ?_)))); (try (conv => whnf)))







            exact ⟨rfl, SW.mk id rfl rfl (arrNames _ _ _ _ rfl rfl) ⟨.refl _, .refl _, .refl _, .refl _, .refl _, .refl _, trivial⟩ (haveV.one rfl (haveV.row (pure_par _) rfl (haveKv rfl (by simp) (set_new m p _ _) trivial)))⟩
          case v3 =>
            dsimp only
            refine VS.of_V T_ok mixed rfl ?_
            ((repeat ((conv => whnf); (first | (refine As.pre ?_; first | refine As.mk rfl ?_) | (refine LetI.pre ?_; first | refine LetI.wrap (by omega) (by omega) ?_) | (refine Ck.pre ?_; first | refine Ck.mk rfl ?_)))); (try (conv => whnf)))
            exact ⟨rfl, (ps ++ [p], cu, m ++ [(p, 1)]), hfin, SW.mk id rfl rfl (arrNames _ _ _ _ rfl rfl) ⟨.refl _, .refl _, .refl _, .refl _, VLe2.int (by rw [hln]; omega), .refl _, trivial⟩ (haveV.one rfl (haveV.row (pure_par _) rfl (haveKv rfl rfl rfl trivial)))⟩
    · -- a parcel is taken
      subst hqc
      have hA : 0 ≤ A := by omega
      by_cases hAk : A < ps.length
      case neg =>
        refine VS.of_V T_ok mixed rfl ?_
        ((repeat ((conv => whnf); (first | (refine LetN.pre ?_; first | ((conv => arg 1; whnf); refine LetN.mk ?_)) | (refine As.pre ?_; first | refine As.mk rfl ?_) | (refine LetV.pre ?_; first | refine LetV.mk (.sc (.int _ _)) rfl ?_) | (refine LetB.pre ?_; first | refine LetB.tt rfl ?_ | refine LetB.ff rfl ?_) | (refine Br.pre ?_; first | refine Br.tt rfl ?_ | refine Br.ff rfl ?_) | (refine Ck.pre ?_; first | refine Ck.mk rfl ?_) | (refine LetL.pre ?_; first | refine LetL.mk [_] rfl ?_) | (refine CallN.pre ?_; first | refine CallN.read id (Take_none 4 cu ps rfl (k := A) (by omega) false) (netOk' 4 cu ps rfl rfl rfl rfl rfl rfl) ?_)))); (try (conv => whnf)))

        exact ⟨rfl, (ps, cu, m), hok.mono (Nat.le_succ _), SW.mk id rfl rfl (arrNames _ _ _ _ rfl rfl) ⟨.refl _, .refl _, .refl _, .refl _, .refl _, .refl _, trivial⟩ (haveV.one rfl (haveV.row (pure_par _) rfl (haveKv rfl rfl rfl trivial)))⟩
      obtain ⟨r, hr⟩ : ∃ r, ps.getD A.toNat p0 = r := ⟨_, rfl⟩
      have hrm : r ∈ ps := by rw [← hr, List.getD_eq_getElem?_getD, List.getElem?_eq_getElem (by omega)]; exact List.getElem_mem _
      have hrg4 : Good 4 r := hok.good r hrm
      have hrs : r.2.2.size ≤ 20 := hok.size r hrm
      have hrO := hrg4.ok (by omega)
      cases hbit : (cu r.1.toNat).getLsbD r.2.1.toNat
      case true =>
        refine VS.of_V T_ok mixed rfl ?_
        ((repeat ((conv => whnf); (first | (refine LetN.pre ?_; first | ((conv => arg 1; whnf); refine LetN.mk ?_)) | (refine As.pre ?_; first | refine As.mk rfl ?_) | (refine LetV.pre ?_; first | refine LetV.mk (.sc (.int _ _)) rfl ?_) | (refine LetB.pre ?_; first | refine LetB.tt rfl ?_ | refine LetB.ff rfl ?_) | (refine Br.pre ?_; first | refine Br.tt rfl ?_ | refine Br.ff rfl ?_) | (refine Ck.pre ?_; first | refine Ck.mk rfl ?_) | (refine LetL.pre ?_; first | refine LetL.mk [_] rfl ?_) | (refine CallN.pre ?_; first | refine CallN.read id (Take_cut 4 cu ps rfl hA hAk hr hrO false hbit) (netOk' 4 cu ps rfl rfl rfl rfl rfl rfl) ?_)))); (try (conv => whnf)))

        exact ⟨rfl, (ps, cu, m), hok.mono (Nat.le_succ _), SW.mk id rfl rfl (arrNames _ _ _ _ rfl rfl) ⟨.refl _, .refl _, .refl _, .refl _, .refl _, .refl _, trivial⟩ (haveV.one rfl (haveV.row (pure_par _) rfl (haveKv rfl rfl rfl trivial)))⟩
      have hinv : Inv m ps := hok.inv
      have hks : ∀ x ∈ m, Kp x.1 := hok.keys
      have hKp := Kp_of hrg4 hrs
      have hkl : (kvOf m).length = m.length := List.length_map _
      have hck : (m.length == (kvOf m).length) = true := by simp
      obtain ⟨i, c, hi, hc1, hI⟩ := hinv.take (k := A.toNat) (by omega) hr
      have hil := (List.getElem?_eq_some_iff.1 hi).1
      have hcb : c ≤ 40 := by have := hinv.ct i r c hi; have := cnt_le r ps; omega
      have hi' := get_set hi (c - 1)
      have hfin := (hok.mono (Nat.le_succ _)).erase A.toNat hI (keys_set hks hKp)
      have hel : (ps.eraseIdx A.toNat).length + 1 = ps.length := by rw [List.length_eraseIdx]; split <;> omega
      refine VS.cut T_ok mixed rfl ?_
      ((repeat ((conv => whnf); (first | (refine As.pre ?_; first | refine As.mk rfl ?_) | (refine LetB.pre ?_; first | refine LetB.ff rfl ?_) | (refine Br.pre ?_; first | refine Br.ff rfl ?_) | (refine Ck.pre ?_; first | refine Ck.mk rfl ?_)))); (try (conv => whnf)))
      refine VS.condF rfl rfl ?_
      refine VS.cut T_ok mixed rfl ?_
      ((repeat ((conv => whnf); (first | (refine As.pre ?_; first | refine As.mk rfl ?_) | (refine LetB.pre ?_; first | refine LetB.tt rfl ?_) | (refine Ck.pre ?_; first | refine Ck.mk rfl ?_)))); (try (conv => whnf)))
      refine VS.condT rfl rfl ?_
      refine VS.cut T_ok mixed rfl ?_
      ((repeat ((conv => whnf); (first | (refine LetN.pre ?_; first | ((conv => arg 1; whnf); refine LetN.mk ?_)) | (refine As.pre ?_; first | refine As.mk rfl ?_) | (refine LetV.pre ?_; first | refine LetV.mk (.sc (.int _ _)) rfl ?_) | (refine Ck.pre ?_; first | refine Ck.mk rfl ?_) | (refine LetL.pre ?_; first | refine LetL.mk (ty := 33) _ (renL_none (pure_par _)).symm ?_ | refine LetL.mk [_] rfl ?_) | (refine CallN.pre ?_; first | refine CallN.own (fun i => if i < 2 then i else 40) (Take_one 4 cu ps rfl hA hAk (by omega) hr hrO hbit) (netOk 4 cu ps rfl rfl rfl rfl rfl rfl) ?_)))); (try (conv => whnf)))


      refine VS.cut T_ok mixed rfl ?_
      ((repeat ((conv => whnf); (first | (refine As.pre ?_; first | refine As.mk rfl ?_) | (refine LetB.pre ?_; first | refine LetB.tt rfl ?_) | (refine Ck.pre ?_; first | refine Ck.mk rfl ?_)))); (try (conv => whnf)))
      refine VS.condT rfl rfl ?_
      refine VS.weak (s1 := arrE l k r ps.length (ps.eraseIdx A.toNat) cu m) ?sw4 ?_
      case sw4 => exact SW.mk (fun i => if i = 1 then 40 else if i = 3 then 41 else i) rfl rfl (arrEN _ _ _ _ _ rfl rfl) ⟨.refl _, .refl _, .refl _, .refl _, .refl _, .refl _, .refl _, trivial⟩ (haveV.one rfl (haveV.row (pure_par _) rfl (haveKv rfl rfl rfl (haveV.one rfl trivial))))
      refine VS.seq ?_
      refine VS.two T_ok mixed 4 2 [0, 1, 2, 3, 4, 5, 6] [0, 1, 2, 3, 4, 5, 6] [0, 1, 3, 4, 2, 5, 6] [0, 1, 4, 2, 3, 5, 6] (arrE l k r ps.length (ps.eraseIdx A.toNat) cu (m.set i (r, c - 1))) (by kernel_rfl) (by kernel_rfl) (by decide) rfl ?v1 ?v2 ?v3
      case v1 =>
        ((repeat ((conv => whnf); (first | (refine LetN.pre ?_; first | ((conv => arg 1; whnf); refine LetN.mk ?_)) | (refine As.pre ?_; first | refine As.mk rfl ?_ | refine As.mk (key_ok hKp hks) ?_ | (refine As.mk ?_ ?_; · ((repeat' (refine andT ?_ ?_)) <;> (first | rfl | assumption | exact decide_eq_true (by omega) | exact decide_eq_true (by dsimp only; omega) | exact decide_eq_true (by simp; omega) | (simp; done))))) | (refine LetV.pre ?_; first | refine LetV.mk (t := 26) (int c) (kvAt_some hi) ?_ | refine LetV.mk (.agg _) rfl ?_) | (refine LetI.pre ?_; first | refine LetI.wrap (by omega) (by omega) ?_) | (refine Ck.pre ?_; first | refine Ck.drawn (by kernel_rfl) ?_ | refine Ck.mk rfl ?_) | (refine FindN.mk (some i) (find_some hi) ?_) | refine forceAs.pass ?_))); (try (conv => whnf)))




        exact ⟨rfl, SW.mk id rfl rfl (arrEN _ _ _ _ _ rfl rfl) ⟨.refl _, .refl _, .refl _, .refl _, .refl _, .refl _, .refl _, trivial⟩ (haveV.one rfl (haveV.row (pure_par _) rfl (haveKv rfl (by simp) (set_kv hi _) (haveV.one rfl trivial))))⟩
      case v2 =>
        ((repeat ((conv => whnf); (first | (refine LetN.pre ?_; first | ((conv => arg 1; whnf); refine LetN.mk ?_)) | (refine As.pre ?_; first | refine As.mk rfl ?_ | refine As.mk (key_ok hKp hks) ?_ | (refine As.mk ?_ ?_; · ((repeat' (refine andT ?_ ?_)) <;> (first | rfl | assumption | exact decide_eq_true (by omega) | exact decide_eq_true (by dsimp only; omega) | exact decide_eq_true (by simp; omega) | (simp; done))))) | (refine LetV.pre ?_; first | refine LetV.mk (t := 26) (int c) (kvAt_some hi) ?_ | refine LetV.mk (.agg _) rfl ?_) | (refine LetI.pre ?_; first | refine LetI.wrap (by omega) (by omega) ?_) | (refine Ck.pre ?_; first | refine Ck.drawn (by kernel_rfl) ?_ | refine Ck.mk rfl ?_) | (refine FindN.mk (some i) (find_some hi) ?_) | refine forceAs.pass ?_))); (try (conv => whnf)))




        exact ⟨rfl, SW.mk id rfl rfl (arrEN _ _ _ _ _ rfl rfl) ⟨.refl _, .refl _, .refl _, .refl _, .refl _, .refl _, .refl _, trivial⟩ (haveV.one rfl (haveV.row (pure_par _) rfl (haveKv rfl (by simp) (set_kv hi _) (haveV.one rfl trivial))))⟩
      case v3 =>
        dsimp only
        refine VS.of_V T_ok mixed rfl ?_
        have hks' : ∀ x ∈ m.set i (r, c - 1), Kp x.1 := keys_set hks hKp
        ((repeat ((conv => whnf); (first | (refine As.pre ?_; first | refine As.mk rfl ?_ | refine As.mk (key_ok hKp hks') ?_) | (refine LetV.pre ?_; first | refine LetV.mk (t := 26) (int (c - 1)) (kvAt_some hi') ?_ | refine LetV.mk (.agg _) rfl ?_) | (refine LetI.pre ?_; first | refine LetI.wrap (by omega) (by omega) ?_) | (refine LetB.pre ?_; first | refine LetB.decf (by omega) ?_) | (refine Br.pre ?_; first | refine Br.ff rfl ?_) | (refine Ck.pre ?_; first | refine Ck.mk rfl ?_) | (refine FindN.mk (some i) (find_some hi') ?_)))); (try (conv => whnf)))




        exact ⟨rfl, (ps.eraseIdx A.toNat, cu, m.set i (r, c - 1)), hfin, SW.mk id rfl rfl (arrNames _ _ _ _ rfl rfl) ⟨.refl _, .refl _, .refl _, .refl _, VLe2.int (by omega), .refl _, trivial⟩ (haveV.one rfl (haveV.row (pure_par _) rfl (haveKv rfl rfl rfl trivial)))⟩
    · -- a link is cut or mended
      subst hqc
      refine VS.of_V T_ok mixed rfl ?_
      by_cases hg : 0 < A ∧ 0 < B ∧ A ≤ 4 ∧ B ≤ 4 ∧ A ≠ B
      · ((repeat ((conv => whnf); (first | (refine LetN.pre ?_; first | ((conv => arg 1; whnf); refine LetN.mk ?_)) | (refine As.pre ?_; first | refine As.mk rfl ?_) | (refine LetV.pre ?_; first | refine LetV.mk (.sc (.int _ _)) rfl ?_ | refine LetV.mk (.sc (.bool _)) rfl ?_) | (refine LetB.pre ?_; first | refine LetB.tt rfl ?_ | refine LetB.ff rfl ?_) | (refine Br.pre ?_; first | refine Br.tt rfl ?_ | refine Br.ff rfl ?_) | (refine Ck.pre ?_; first | refine Ck.mk rfl ?_) | (refine LetL.pre ?_; first | refine LetL.mk (ty := 33) _ (renL_none (pure_par _)).symm ?_ | refine LetL.mk [_] rfl ?_) | (refine CallN.pre ?_; first | refine CallN.own id (Cut_yes 4 cu ps y hg.1 hg.2.1 hg.2.2.1 hg.2.2.2.1 hg.2.2.2.2 (by omega)) (netOk'' 4 cu ps rfl rfl rfl rfl rfl rfl) ?_)))); (try (conv => whnf)))


        exact ⟨rfl, (ps, setC cu A.toNat B.toNat y, m), ⟨Nat.le_succ_of_le hok.len, hok.good, hok.size, hok.inv, hok.keys⟩, SW.mk id rfl rfl (arrNames _ _ _ _ rfl rfl) ⟨.refl _, .refl _, .refl _, .refl _, .refl _, .refl _, trivial⟩ (haveV.one rfl (haveV.row (pure_par _) rfl (haveKv rfl rfl rfl trivial)))⟩
      · ((repeat ((conv => whnf); (first | (refine As.pre ?_; first | refine As.mk rfl ?_) | (refine LetV.pre ?_; first | refine LetV.mk (.sc (.int _ _)) rfl ?_ | refine LetV.mk (.sc (.bool _)) rfl ?_) | (refine LetB.pre ?_; first | refine LetB.tt rfl ?_ | refine LetB.ff rfl ?_) | (refine Br.pre ?_; first | refine Br.tt rfl ?_ | refine Br.ff rfl ?_) | (refine Ck.pre ?_; first | refine Ck.mk rfl ?_) | (refine CallN.pre ?_; first | refine CallN.read id (Cut_no 4 cu ps y hg rfl) (netOk' 4 cu ps rfl rfl rfl rfl rfl rfl) ?_)))); (try (conv => whnf)))

        exact ⟨rfl, (ps, cu, m), hok.mono (Nat.le_succ _), SW.mk id rfl rfl (arrNames _ _ _ _ rfl rfl) ⟨.refl _, .refl _, .refl _, .refl _, .refl _, .refl _, trivial⟩ (haveV.one rfl (haveV.row (pure_par _) rfl (haveKv rfl rfl rfl trivial)))⟩
    · -- nothing
      obtain ⟨n0, n1, n2, n3⟩ := hqc
      refine VS.of_V T_ok mixed rfl ?_
      ((repeat ((conv => whnf); (first | (refine As.pre ?_; first | refine As.mk rfl ?_) | (refine LetB.pre ?_; first | refine LetB.decf (by omega) ?_) | (refine Br.pre ?_; first | refine Br.ff rfl ?_) | (refine Ck.pre ?_; first | refine Ck.mk rfl ?_)))); (try (conv => whnf)))
      exact ⟨rfl, (ps, cu, m), hok.mono (Nat.le_succ _), SW.mk id rfl rfl (arrNames _ _ _ _ rfl rfl) ⟨.refl _, .refl _, .refl _, .refl _, .refl _, .refl _, trivial⟩ (haveV.one rfl (haveV.row (pure_par _) rfl (haveKv rfl rfl rfl trivial)))⟩
  intro i hi
  obtain ⟨ps, cu, m⟩ := i
  dsimp only
  have hpl : ps.length ≤ 40 := hi.len
  refine VS.joinN (fun cu' : Nat → BitVec 16 => endS cu' (ps, m)) (fun cu' => Clr cu' 5 1) ?_ ?_
  case refine_1 =>
    refine VS.cut T_ok mixed rfl ?_
    ((repeat ((conv => whnf); (first | (refine As.pre ?_; first | refine As.mk rfl ?_) | (refine Ck.pre ?_; first | refine Ck.mk rfl ?_)))); (try (conv => whnf)))
    refine VS.block (VS.loop ?_)
    refine LoopN.weak (s1 := mendS ps m (1, cu)) ?swa ?_
    case swa => exact SW.mk id rfl rfl (arrNames _ _ _ _ rfl rfl) ⟨.refl _, .refl _, .refl _, .refl _, .refl _, trivial⟩ (haveV.one rfl (haveV.row (pure_par _) rfl (haveKv rfl rfl rfl trivial)))
    refine LoopN.indS (S := mendS ps m) (fun i => 5 - i.1) (fun i => 1 ≤ i.1 ∧ i.1 ≤ 5 ∧ Clr i.2 i.1 1) (fun i hi ih => ?_) (1, cu) ⟨Nat.le_refl _, by show 1 ≤ 5; omega, fun i j h1 h2 h3 h4 => by omega⟩
    obtain ⟨a, cu⟩ := i
    obtain ⟨h1, h2, h3⟩ := hi
    dsimp only at h1 h2 h3
    by_cases ha : a < 5
    case neg =>
      clear ih
      have : a = 5 := by omega
      subst this
      refine VS.of_V T_ok mixed rfl ?_
      ((repeat ((conv => whnf); (first | (refine As.pre ?_; first | refine As.mk rfl ?_) | (refine LetB.pre ?_; first | refine LetB.ff rfl ?_) | (refine Br.pre ?_; first | refine Br.ff rfl ?_) | (refine Ck.pre ?_; first | refine Ck.mk rfl ?_)))); (try (conv => whnf)))
      exact ⟨rfl, cu, h3, SW.mk id rfl rfl (arrNames _ _ _ _ rfl rfl) ⟨.refl _, .refl _, .refl _, .refl _, trivial⟩ (haveV.one rfl (haveV.row (pure_par _) rfl (haveKv rfl rfl rfl trivial)))⟩
    refine VS.cut T_ok mixed rfl ?_
    ((repeat ((conv => whnf); (first | (refine As.pre ?_; first | refine As.mk rfl ?_) | (refine LetB.pre ?_; first | refine LetB.dect (by omega) ?_) | (refine Br.pre ?_; first | refine Br.tt rfl ?_) | (refine Ck.pre ?_; first | refine Ck.mk rfl ?_)))); (try (conv => whnf)))
    refine VS.joinN (fun cu' : Nat → BitVec 16 => mendS ps m (a, cu')) (fun cu' => Clr cu' (a + 1) 1) ?_ ?_
    case refine_2 =>
      intro cu' hc
      have hnx := ih (a + 1, cu') ⟨by dsimp only; omega, by dsimp only; omega, hc⟩ (by show 5 - (a + 1) < 5 - a; omega)
      clear ih
      refine VS.of_V T_ok mixed rfl ?_
      ((repeat ((conv => whnf); (first | (refine As.pre ?_; first | refine As.mk rfl ?_) | (refine LetI.pre ?_; first | refine LetI.wrap (by omega) (by omega) ?_) | (refine Ck.pre ?_; first | refine Ck.mk rfl ?_)))); (try (conv => whnf)))
      refine LoopN.weak ?swb hnx
      case swb => exact SW.mk id rfl rfl (arrNames _ _ _ _ rfl rfl) ⟨.refl _, .refl _, .refl _, .refl _, VLe2.int (by omega), trivial⟩ (haveV.one rfl (haveV.row (pure_par _) rfl (haveKv rfl rfl rfl trivial)))
    clear ih
    refine VS.block ?_
    refine VS.cut T_ok mixed rfl ?_
    ((repeat ((conv => whnf); (first | (refine As.pre ?_; first | refine As.mk rfl ?_) | (refine Ck.pre ?_; first | refine Ck.mk rfl ?_)))); (try (conv => whnf)))
    refine VS.block (VS.loop ?_)
    refine LoopN.weak (s1 := mendT ps m a (1, cu)) ?swc ?_
    case swc => exact SW.mk id rfl rfl (arrNames _ _ _ _ rfl rfl) ⟨.refl _, .refl _, .refl _, .refl _, .refl _, .refl _, trivial⟩ (haveV.one rfl (haveV.row (pure_par _) rfl (haveKv rfl rfl rfl trivial)))
    refine LoopN.indS (S := mendT ps m a) (fun i => a - i.1) (fun i => 1 ≤ i.1 ∧ i.1 ≤ a ∧ Clr i.2 a i.1) (fun i hi ih => ?_) (1, cu) ⟨Nat.le_refl _, h1, h3⟩
    obtain ⟨b, cv⟩ := i
    obtain ⟨g1, g2, g3⟩ := hi
    dsimp only at g1 g2 g3
    clear h3
    by_cases hb : b < a
    case neg =>
      clear ih
      have : b = a := by omega
      subst this
      refine VS.of_V T_ok mixed rfl ?_
      ((repeat ((conv => whnf); (first | (refine As.pre ?_; first | refine As.mk rfl ?_) | (refine LetB.pre ?_; first | refine LetB.decf (by omega) ?_) | (refine Br.pre ?_; first | refine Br.ff rfl ?_) | (refine Ck.pre ?_; first | refine Ck.mk rfl ?_)))); (try (conv => whnf)))
      exact ⟨rfl, cv, fun i j q1 q2 q3 q4 => g3 i j q1 q2 q3 (by omega), SW.mk id rfl rfl (arrNames _ _ _ _ rfl rfl) ⟨.refl _, .refl _, .refl _, .refl _, .refl _, trivial⟩ (haveV.one rfl (haveV.row (pure_par _) rfl (haveKv rfl rfl rfl trivial)))⟩
    have hst := g3.step (a := a) (b := b) (by omega)
    have hnx := ih (b + 1, setC cv a b false) ⟨by dsimp only; omega, hb, hst⟩ (by show a - (b + 1) < a - b; omega)
    clear ih
    obtain ⟨hb1, hb2⟩ := hst a b g1 hb (by omega) (.inr ⟨rfl, Nat.lt_succ_self _⟩)
    have hCut := Cut_yes 4 cv ps (a := (a : Int)) (b := (b : Int)) false (by omega) (by omega) (by omega) (by omega) (by omega) (by omega)
    have hL1 := Linked_val 4 (setC cv a b false) ps rfl (by omega) (a : Int) (b : Int) true (by
      rw [decide_eq_true (show (0 : Int) < a by omega), decide_eq_true (show (0 : Int) < b by omega), decide_eq_true (show (a : Int) ≤ 4 by omega), decide_eq_true (show (b : Int) ≤ 4 by omega), bne_iff_ne.2 (show (a : Int) ≠ b by omega)]
      show (true && !((setC cv a b false) ((a : Int)).toNat).getLsbD ((b : Int)).toNat) = true
      rw [Int.toNat_natCast, Int.toNat_natCast, hb1]; rfl)
    have hL2 := Linked_val 4 (setC cv a b false) ps rfl (by omega) (b : Int) (a : Int) true (by
      rw [decide_eq_true (show (0 : Int) < a by omega), decide_eq_true (show (0 : Int) < b by omega), decide_eq_true (show (a : Int) ≤ 4 by omega), decide_eq_true (show (b : Int) ≤ 4 by omega), bne_iff_ne.2 (show (b : Int) ≠ a by omega)]
      show (true && !((setC cv a b false) ((b : Int)).toNat).getLsbD ((a : Int)).toNat) = true
      rw [Int.toNat_natCast, Int.toNat_natCast, hb2]; rfl)
    rw [Int.toNat_natCast, Int.toNat_natCast] at hCut
    clear hb1 hb2 hst g3
    generalize setC cv a b false = cw at hnx hCut hL1 hL2
    refine VS.of_V T_ok mixed rfl ?_
    ((repeat ((conv => whnf); (first | (refine LetN.pre ?_; first | ((conv => arg 1; whnf); refine LetN.mk ?_)) | (refine As.pre ?_; first | refine As.mk rfl ?_) | (refine LetI.pre ?_; first | refine LetI.wrap (by omega) (by omega) ?_) | (refine LetB.pre ?_; first | refine LetB.ff rfl ?_ | refine LetB.dect (by omega) ?_) | (refine Gd.pre ?_; first | refine Gd.run rfl ?_) | (refine Br.pre ?_; first | refine Br.tt rfl ?_ | refine Br.ff rfl ?_) | (refine Ck.pre ?_; first | refine Ck.mk rfl ?_) | (refine LetL.pre ?_; first | refine LetL.mk (ty := 33) _ (renL_none (pure_par _)).symm ?_ | refine LetL.mk [_] rfl ?_) | (refine CallN.pre ?_; first | refine CallN.own id hCut (netOk'' 4 cv ps rfl rfl rfl rfl rfl rfl) ?_ | refine CallN.read id hL1 (netOk' 4 cw ps rfl rfl rfl rfl rfl rfl) ?_ | refine CallN.read id hL2 (netOk' 4 cw ps rfl rfl rfl rfl rfl rfl) ?_)))); (try (conv => whnf)))




    refine LoopN.weak ?swd hnx
    case swd => exact SW.mk id rfl rfl (arrNames _ _ _ _ rfl rfl) ⟨.refl _, .refl _, .refl _, .refl _, .refl _, VLe2.int (by omega), trivial⟩ (haveV.one rfl (haveV.row (pure_par _) rfl (haveKv rfl rfl rfl trivial)))
  intro cv hclr
  have hgood : ∀ p ∈ ps, Good 4 p := hi.good
  have hsize : ∀ p ∈ ps, p.2.2.size ≤ 20 := hi.size
  have hinv : Inv m ps := hi.inv
  have hkeys : ∀ x ∈ m, Kp x.1 := hi.keys
  clear hi
  refine VS.joinN (fun m' : Tm => endS cv ([], m')) (fun _ => True) ?_ ?_
  case refine_2 =>
    intro m' _
    have hW := Waiting_f 4 cv [] rfl (by simp)
    refine VS.of_V T_ok mixed rfl ?_
    ((repeat ((conv => whnf); (first | (refine As.pre ?_; first | refine As.mk rfl ?_) | (refine LetI.pre ?_; first | refine LetI.mk _ rfl ?_) | (refine LetB.pre ?_; first | refine LetB.tt rfl ?_) | (refine Gd.pre ?_; first | refine Gd.run rfl ?_) | (refine Ck.pre ?_; first | refine Ck.mk rfl ?_) | (refine CallN.pre ?_; first | refine CallN.read id hW (netOk' 4 cv [] rfl rfl rfl rfl rfl rfl) ?_)))); (try (conv => whnf)))
    exact ⟨⟨[(2, .sc (.bool true))], [], 0⟩, SW.fr0 (Nat.le_refl _) rfl ⟨.refl _, trivial⟩, .inl rfl, ⟨_, rfl, rfl⟩, trivial⟩
  refine VS.block (VS.loop ?_)
  refine LoopN.indS (S := endS cv) (fun i => i.1.length) (fun i => i.1.length ≤ 40 ∧ (∀ p ∈ i.1, Good 4 p) ∧ (∀ p ∈ i.1, p.2.2.size ≤ 20) ∧ Inv i.2 i.1 ∧ ∀ x ∈ i.2, Kp x.1) (fun i hi ih => ?_) (ps, m) ⟨hpl, hgood, hsize, hinv, hkeys⟩
  clear hpl hgood hsize hinv hkeys
  obtain ⟨ps, m⟩ := i
  obtain ⟨h1, h2, h3, h4, h5⟩ := hi
  dsimp only at h1 h2 h3 h4 h5
  by_cases h0 : ps = []
  · subst h0
    clear ih
    refine VS.of_V T_ok mixed rfl ?_
    ((repeat ((conv => whnf); (first | (refine As.pre ?_; first | refine As.mk rfl ?_) | (refine LetB.pre ?_; first | refine LetB.ff rfl ?_) | (refine Br.pre ?_; first | refine Br.ff rfl ?_) | (refine Ck.pre ?_; first | refine Ck.mk rfl ?_)))); (try (conv => whnf)))
    exact ⟨rfl, m, trivial, SW.mk id rfl rfl (arrNames _ _ _ _ rfl rfl) ⟨.refl _, .refl _, .refl _, .refl _, trivial⟩ (haveV.one rfl (haveV.row (pure_par _) rfl (haveKv rfl rfl rfl trivial)))⟩
  have hpos : 0 < ps.length := List.length_pos_iff.2 h0
  obtain ⟨A, hAe⟩ : ∃ A : Int, A = (ps.length : Int).tdiv 2 := ⟨_, rfl⟩
  have hA2 : A = (ps.length : Int) / 2 := by rw [hAe, Int.tdiv_eq_ediv_of_nonneg (by omega)]
  have hA : 0 ≤ A := by omega
  have hAk : A < ps.length := by omega
  obtain ⟨r, hr⟩ : ∃ r, ps.getD A.toNat p0 = r := ⟨_, rfl⟩
  have hrm : r ∈ ps := by rw [← hr, List.getD_eq_getElem?_getD, List.getElem?_eq_getElem (by omega)]; exact List.getElem_mem _
  have hrg4 : Good 4 r := h2 r hrm
  have hrs : r.2.2.size ≤ 20 := h3 r hrm
  have hrO := hrg4.ok (by omega)
  have hbit : (cv r.1.toNat).getLsbD r.2.1.toNat = false := by
    unfold Good at hrg4
    by_cases hlt : r.1.toNat < r.2.1.toNat
    · exact (hclr r.2.1.toNat r.1.toNat (by omega) hlt (by omega) (by omega)).2
    · exact (hclr r.1.toNat r.2.1.toNat (by omega) (by omega) (by omega) (by omega)).1
  have hKp := Kp_of hrg4 hrs
  have hkl : (kvOf m).length = m.length := List.length_map _
  have hck : (m.length == (kvOf m).length) = true := by simp
  obtain ⟨i, c, hi, hc1, hI⟩ := h4.take (k := A.toNat) (by omega) hr
  have hil := (List.getElem?_eq_some_iff.1 hi).1
  have hcb : c ≤ 40 := by have := h4.ct i r c hi; have := cnt_le r ps; omega
  have hi' := get_set hi (c - 1)
  have hel : (ps.eraseIdx A.toNat).length + 1 = ps.length := by rw [List.length_eraseIdx]; split <;> omega
  have hks' : ∀ x ∈ m.set i (r, c - 1), Kp x.1 := keys_set h5 hKp
  have hnx := ih (ps.eraseIdx A.toNat, m.set i (r, c - 1)) ⟨by dsimp only; omega, fun p hp => h2 p (List.mem_of_mem_eraseIdx hp), fun p hp => h3 p (List.mem_of_mem_eraseIdx hp), hI, hks'⟩ (by show (ps.eraseIdx A.toNat).length < ps.length; omega)
  clear ih h2 h3 hrm hI h0
  refine VS.cut T_ok mixed rfl ?_
  ((repeat ((conv => whnf); (first | (refine As.pre ?_; first | refine As.mk rfl ?_) | (refine LetB.pre ?_; first | refine LetB.dect (by omega) ?_) | (refine Br.pre ?_; first | refine Br.tt rfl ?_) | (refine Ck.pre ?_; first | refine Ck.mk rfl ?_)))); (try (conv => whnf)))
  refine VS.joinN (fun _ : Unit => endB cv (ps.eraseIdx A.toNat) (m.set i (r, c - 1)) ps.length) (fun _ => True) ?_ ?_
  case refine_2 =>
    intro _ _
    refine VS.of_V T_ok mixed rfl ?_
    ((repeat ((conv => whnf); (first | (refine As.pre ?_; first | refine As.mk rfl ?_) | (refine LetI.pre ?_; first | refine LetI.wrap (by omega) (by omega) ?_) | (refine Ck.pre ?_; first | refine Ck.mk rfl ?_)))); (try (conv => whnf)))
    refine LoopN.weak ?swe hnx
    case swe => exact SW.mk id rfl rfl (arrNames _ _ _ _ rfl rfl) ⟨.refl _, .refl _, .refl _, VLe2.int (by omega), trivial⟩ (haveV.one rfl (haveV.row (pure_par _) rfl (haveKv rfl rfl rfl trivial)))
  clear hnx
  subst hAe
  refine VS.block ?_
  refine VS.cut T_ok mixed rfl ?_
  ((repeat ((conv => whnf); (first | (refine LetN.pre ?_; first | ((conv => arg 1; whnf); refine LetN.mk ?_)) | (refine As.pre ?_; first | refine As.mk rfl ?_) | (refine LetI.pre ?_; first | refine LetI.wrap (by omega) (by omega) ?_) | (refine Ck.pre ?_; first | refine Ck.mk rfl ?_) | (refine LetL.pre ?_; first | refine LetL.mk (ty := 33) _ (renL_none (pure_par _)).symm ?_ | refine LetL.mk [_] rfl ?_) | (refine CallN.pre ?_; first | refine CallN.own (fun i => if i < 2 then i else 40) (Take_one 4 cv ps rfl hA hAk (by omega) hr hrO hbit) (netOk 4 cv ps rfl rfl rfl rfl rfl rfl) ?_)))); (try (conv => whnf)))


  refine VS.cut T_ok mixed rfl ?_
  ((repeat ((conv => whnf); (first | (refine As.pre ?_; first | refine As.mk rfl ?_) | (refine LetB.pre ?_; first | refine LetB.ff rfl ?_) | (refine Br.pre ?_; first | refine Br.ff rfl ?_) | (refine Ck.pre ?_; first | refine Ck.mk rfl ?_)))); (try (conv => whnf)))
  refine VS.weak (s1 := endE cv r (ps.eraseIdx ((ps.length : Int).tdiv 2).toNat) m ps.length) ?swf ?_
  case swf => exact SW.mk (fun i => if i = 1 then 40 else if i = 3 then 41 else i) rfl rfl (arrEN _ _ _ _ _ rfl rfl) ⟨.refl _, .refl _, .refl _, .refl _, .refl _, trivial⟩ (haveV.one rfl (haveV.row (pure_par _) rfl (haveKv rfl rfl rfl (haveV.one rfl trivial))))
  refine VS.seq ?_
  refine VS.two T_ok mixed 4 2 [0, 1, 2, 3, 4, 5, 6] [0, 1, 2, 3, 4, 5, 6] [0, 1, 3, 4, 2, 5, 6] [0, 1, 4, 2, 3, 5, 6] (endE cv r (ps.eraseIdx ((ps.length : Int).tdiv 2).toNat) (m.set i (r, c - 1)) ps.length) (by kernel_rfl) (by kernel_rfl) (by decide) rfl ?v1 ?v2 ?v3
  case v1 =>
    ((repeat ((conv => whnf); (first | (refine LetN.pre ?_; first | ((conv => arg 1; whnf); refine LetN.mk ?_)) | (refine As.pre ?_; first | refine As.mk rfl ?_ | refine As.mk (key_ok hKp h5) ?_ | (refine As.mk ?_ ?_; · ((repeat' (refine andT ?_ ?_)) <;> (first | rfl | assumption | exact decide_eq_true (by omega) | exact decide_eq_true (by dsimp only; omega) | exact decide_eq_true (by simp; omega) | (simp; done))))) | (refine LetV.pre ?_; first | refine LetV.mk (t := 26) (int c) (kvAt_some hi) ?_ | refine LetV.mk (.agg _) rfl ?_) | (refine LetI.pre ?_; first | refine LetI.wrap (by omega) (by omega) ?_) | (refine Ck.pre ?_; first | refine Ck.drawn (by kernel_rfl) ?_ | refine Ck.mk rfl ?_) | (refine FindN.mk (some i) (find_some hi) ?_) | refine forceAs.pass ?_))); (try (conv => whnf)))




    exact ⟨rfl, SW.mk id rfl rfl (arrEN _ _ _ _ _ rfl rfl) ⟨.refl _, .refl _, .refl _, .refl _, .refl _, trivial⟩ (haveV.one rfl (haveV.row (pure_par _) rfl (haveKv rfl (by simp) (set_kv hi _) (haveV.one rfl trivial))))⟩
  case v2 =>
    ((repeat ((conv => whnf); (first | (refine LetN.pre ?_; first | ((conv => arg 1; whnf); refine LetN.mk ?_)) | (refine As.pre ?_; first | refine As.mk rfl ?_ | refine As.mk (key_ok hKp h5) ?_ | (refine As.mk ?_ ?_; · ((repeat' (refine andT ?_ ?_)) <;> (first | rfl | assumption | exact decide_eq_true (by omega) | exact decide_eq_true (by dsimp only; omega) | exact decide_eq_true (by simp; omega) | (simp; done))))) | (refine LetV.pre ?_; first | refine LetV.mk (t := 26) (int c) (kvAt_some hi) ?_ | refine LetV.mk (.agg _) rfl ?_) | (refine LetI.pre ?_; first | refine LetI.wrap (by omega) (by omega) ?_) | (refine Ck.pre ?_; first | refine Ck.drawn (by kernel_rfl) ?_ | refine Ck.mk rfl ?_) | (refine FindN.mk (some i) (find_some hi) ?_) | refine forceAs.pass ?_))); (try (conv => whnf)))




    exact ⟨rfl, SW.mk id rfl rfl (arrEN _ _ _ _ _ rfl rfl) ⟨.refl _, .refl _, .refl _, .refl _, .refl _, trivial⟩ (haveV.one rfl (haveV.row (pure_par _) rfl (haveKv rfl (by simp) (set_kv hi _) (haveV.one rfl trivial))))⟩
  case v3 =>
    dsimp only
    refine VS.of_V T_ok mixed rfl ?_
    ((repeat ((conv => whnf); (first | (refine As.pre ?_; first | refine As.mk rfl ?_ | refine As.mk (key_ok hKp hks') ?_) | (refine LetV.pre ?_; first | refine LetV.mk (t := 26) (int (c - 1)) (kvAt_some hi') ?_ | refine LetV.mk (.agg _) rfl ?_) | (refine LetB.pre ?_; first | refine LetB.decf (by omega) ?_) | (refine Br.pre ?_; first | refine Br.ff rfl ?_) | (refine Ck.pre ?_; first | refine Ck.mk rfl ?_) | (refine FindN.mk (some i) (find_some hi') ?_)))); (try (conv => whnf)))




    exact ⟨rfl, (), trivial, SW.mk id rfl rfl (arrNames _ _ _ _ rfl rfl) ⟨.refl _, .refl _, .refl _, .refl _, trivial⟩ (haveV.one rfl (haveV.row (pure_par _) rfl (haveKv rfl rfl rfl trivial)))⟩
end Nt
end Go.Proofs.Ytcfokhkdphodoaa
