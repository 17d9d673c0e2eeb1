/- appealD: parts of the proof, DappealDTD DappealDTE DappealDTF DappealDTG DappealDTH DappealDTI DappealDTC. -/
import Derived.Test.YtgnakhljdjekbaaDoorL42
import Derived.Test.YtgnakhljdjekbaaDoorAmKN
import Derived.Test.YtgnakhljdjekbaaDoorAmFZ
import Derived.Lib.ItoaNum
import Derived.Lib.Join
set_option linter.all false
namespace Go.Proofs.YtgnakhljdjekbaaDoor
open Go.Proofs.YtgnakhljdjekbaaDoor.Am
set_option maxRecDepth 100000
namespace En
/-! ### The keys of a map of facts -/
abbrev kyF (f : Fa) : Value := .agg #[.int .i64 f.kind, .int .i64 f.student, .int .i64 f.id, .int .i64 f.term, .int .i64 f.n, .int .i64 f.school, .string f.code]
def kfF : Value → AV
  | .agg xs => .agg (xs.toList.map .sc)
  | v => .sc v
theorem kfF_ky (f : Fa) : kfF (kyF f) = fa f := rfl
theorem ky_inj {f g : Fa} (h : kyF f = kyF g) : f = g := by
  obtain ⟨a1, a2, a3, a4, a5, a6, a7⟩ := f
  obtain ⟨b1, b2, b3, b4, b5, b6, b7⟩ := g
  simp only [kyF, Value.agg.injEq, Array.mk.injEq, List.cons.injEq, Value.int.injEq, Value.string.injEq, true_and, and_true] at h
  obtain ⟨h1, h2, h3, h4, h5, h6, h7⟩ := h
  rw [h1, h2, h3, h4, h5, h6, h7]
abbrev kvF (M : List Fa) : List (Value × AV) := M.map fun f => (kyF f, bool true)
theorem kvF_pure (M : List Fa) : kvPure (kvF M) = true := List.all_eq_true.2 fun x hx => by
  obtain ⟨y, _, rfl⟩ := List.mem_map.1 hx; rfl
theorem kvF_solid (M : List Fa) : ((kvF M).all fun x => x.2.solid) = true := List.all_eq_true.2 fun x hx => by
  obtain ⟨y, _, rfl⟩ := List.mem_map.1 hx; rfl
abbrev mty : TypeId := 27
abbrev fsl : TypeId := 25
abbrev bxF (id n : Nat) : Blk := .row 1 fsl [.slm {} id 7 0 n]
abbrev rwF (L : List Fa) : Blk := .row 7 fty (L.map fa)
/-! What the loop's body is given and leaves. -/
abbrev apH (L : List Fa) : AH := [(0, bxF 1 L.length), (1, rwF L)]
abbrev apT (L : List Fa) : AH := [(0, bxF 2 L.length), (2, rwF L)]
abbrev kmH (ck : Nat) (M : List Fa) : AH := [(0, .map ck (kvF M)), (1, .row 1 mty [.mp 0])]
abbrev kH (ck : Nat) (M : List Fa) : AH := kmH ck M ++ [(2, bxF 3 0), (3, rwF [])]
abbrev kT (ck : Nat) (M L : List Fa) : AH := kmH ck M ++ [(2, bxF 4 L.length), (4, rwF L)]
abbrev kL (L : List Fa) : AH := [(1, .row 1 mty [.mp 0]), (2, bxF 4 L.length), (4, rwF L)]
abbrev kZ (id : Nat) (L : List Fa) : AH := [(1, .row 1 mty [.mp 0]), (2, bxF id L.length), (id, rwF L)]
theorem apN (L : List Fa) (ok : Nat → Bool) (h : ok 1 = true) : namesAll ok (apH L) = true := by
  have h2 : namesAll ok [(1, rwF L)] = true := namesAll.row (pure_fa _) rfl
  rw [namesAll, h2]
  simp only [Blk.names, AV.namesL, AV.names, h]; rfl
theorem aptN (L : List Fa) (ok : Nat → Bool) (h : ok 2 = true) : namesAll ok (apT L) = true := by
  have h2 : namesAll ok [(2, rwF L)] = true := namesAll.row (pure_fa _) rfl
  rw [namesAll, h2]
  simp only [Blk.names, AV.namesL, AV.names, h]; rfl
theorem klN (id : Nat) (L : List Fa) (ok : Nat → Bool) (h0 : ok 0 = true) (h : ok id = true) : namesAll ok (kZ id L) = true := by
  have h2 : namesAll ok [(id, rwF L)] = true := namesAll.row (pure_fa _) rfl
  rw [namesAll, namesAll, h2]
  simp only [Blk.names, AV.namesL, AV.names, h, h0]; rfl
theorem ktN (ck : Nat) (M L : List Fa) (ok : Nat → Bool) (h0 : ok 0 = true) (h : ok 4 = true) : namesAll ok (kT ck M L) = true := namesAll.map (kvF_pure M) (klN 4 L ok h0 h)
def rk4 : Nat → Nat | 4 => 3 | i => i
def rk6 : Nat → Nat | 4 => 6 | i => i
def rka : Nat → Nat | 0 => 2 | 1 => 4 | 2 => 6 | i => i + 7
/-- The state at the head of the loop. -/
abbrev kyS (rb : Nat) (y : AV) : Array Nat × List Fa → AS
  | (_, L) => ⟨[(0, y), (5, .sc (.pointer (some ⟨rb, 0, none⟩)))], kL L, 5⟩
abbrev kyE (rb : Nat) (y : AV) (L : List Fa) (b : Bool) : AS := ⟨[(0, y), (5, .sc (.pointer (some ⟨rb, 0, none⟩))), (7, bool b)], kL L, 5⟩
abbrev kyG (rb : Nat) (y : AV) (L : List Fa) (f : Fa) : AS := ⟨[(0, y), (3, .ptr 5 7 0 0), (5, .sc (.pointer (some ⟨rb, 0, none⟩)))], kL L ++ [(5, .row 7 fty [fa f])], 6⟩
theorem kgN (L : List Fa) (f : Fa) (ok : Nat → Bool) (h0 : ok 0 = true) (h : ok 4 = true) : namesAll ok (kL L ++ [(5, .row 7 fty [fa f])]) = true := by
  have h2 : namesAll ok [(4, rwF L), (5, .row 7 fty [fa f])] = true := namesAll.row (pure_fa _) (namesAll.row rfl rfl)
  show namesAll ok ((1, _) :: (2, _) :: [(4, rwF L), (5, .row 7 fty [fa f])]) = true
  rw [namesAll, namesAll, h2]
  simp only [Blk.names, AV.namesL, AV.names, h, h0]; rfl
/-- What has come out: the facts whose entries were seen. -/
structure KInv (ents : Array MapEntry) (M : List Fa) (i : Array Nat × List Fa) : Prop where
  nd : i.2.Nodup
  sub : ∀ f ∈ i.2, f ∈ M
  seen : ∀ e ∈ ents.toList, ∀ f, e.key = kyF f → (f ∈ i.2 ↔ i.1.contains e.born = true)
theorem ents_mem {M : List Fa} {ck : Nat} {ents : Array MapEntry} (h : EntsOk (kvF M) ck ents) {e : MapEntry} (he : e ∈ ents.toList) : ∃ f ∈ M, e.key = kyF f := by
  obtain ⟨i, hi, rfl⟩ := List.getElem_of_mem he
  have hl : i < (kvF M).length := by rw [h.len]; simpa using hi
  have hl' : i < M.length := by simpa using hl
  refine ⟨M[i], List.getElem_mem _, ?_⟩
  refine h.key i (kyF M[i]) (bool true) _ ?_ ?_
  · rw [List.getElem?_map, List.getElem?_eq_getElem hl']; rfl
  · rw [← Array.getElem?_toList, List.getElem?_eq_getElem hi]
theorem ents_of {M : List Fa} {ck : Nat} {ents : Array MapEntry} (h : EntsOk (kvF M) ck ents) {f : Fa} (hf : f ∈ M) : ∃ e ∈ ents.toList, e.key = kyF f := by
  obtain ⟨i, hi, rfl⟩ := List.getElem_of_mem hf
  have hl : i < ents.toList.length := by
    have := h.len
    simp only [List.length_map] at this
    simp; omega
  refine ⟨ents.toList[i], List.getElem_mem _, ?_⟩
  refine h.key i (kyF M[i]) (bool true) _ ?_ ?_
  · rw [List.getElem?_map, List.getElem?_eq_getElem hi]; rfl
  · rw [← Array.getElem?_toList, List.getElem?_eq_getElem hl]
theorem ents_uniq {M : List Fa} {ck : Nat} {ents : Array MapEntry} (h : EntsOk (kvF M) ck ents) (hM : M.Nodup) {d e : MapEntry} (hd : d ∈ ents.toList) (he : e ∈ ents.toList) (hk : d.key = e.key) : d = e := by
  obtain ⟨i, hi, rfl⟩ := List.getElem_of_mem hd
  obtain ⟨j, hj, rfl⟩ := List.getElem_of_mem he
  have hlen := h.len
  simp only [List.length_map] at hlen
  have hi' : i < M.length := by simp at hi; omega
  have hj' : j < M.length := by simp at hj; omega
  have e1 := h.key i (kyF M[i]) (bool true) _ (by rw [List.getElem?_map, List.getElem?_eq_getElem hi']; rfl) (by rw [← Array.getElem?_toList, List.getElem?_eq_getElem hi])
  have e2 := h.key j (kyF M[j]) (bool true) _ (by rw [List.getElem?_map, List.getElem?_eq_getElem hj']; rfl) (by rw [← Array.getElem?_toList, List.getElem?_eq_getElem hj])
  rw [e1, e2] at hk
  have := ky_inj hk
  have : i = j := (List.getElem_inj hM).1 this
  subst this; rfl
theorem ents_born {kv : List (Value × AV)} {ck : Nat} {ents : Array MapEntry} (h : EntsOk kv ck ents) : (ents.toList.map (·.born)).Nodup := by
  rw [List.Nodup, List.pairwise_map, List.pairwise_iff_getElem]
  intro i j hi hj hij e
  have := h.inc i j _ _ hij (by rw [← Array.getElem?_toList, List.getElem?_eq_getElem hi]) (by rw [← Array.getElem?_toList, List.getElem?_eq_getElem hj])
  rw [e] at this
  exact Nat.lt_irrefl _ this
theorem KInv.nil (ents : Array MapEntry) (M : List Fa) : KInv ents M (#[], []) := ⟨List.nodup_nil, (fun f h => absurd h List.not_mem_nil), (fun e _ f _ => by simp)⟩
theorem KInv.add {ents : Array MapEntry} {M : List Fa} {ck : Nat} (hE : EntsOk (kvF M) ck ents) (hM : M.Nodup) {seen : Array Nat} {L : List Fa} (h : KInv ents M (seen, L)) {e : MapEntry} (he : e ∈ (leftOf ents seen).toList) {f : Fa} (hf : f ∈ M) (hk : e.key = kyF f) : KInv ents M (seen.push e.born, L ++ [f]) := by
  obtain ⟨he1, he2⟩ := mem_left he
  have hnot : f ∉ L := fun hm => by
    have := (h.seen e he1 f hk).1 hm
    rw [he2] at this; cases this
  refine ⟨?_, fun g hg => ?_, fun d hd g hg => ?_⟩
  · refine List.nodup_append.2 ⟨h.nd, List.pairwise_singleton _ _, fun a ha b hb => ?_⟩
    rw [List.mem_singleton.1 hb]
    rintro rfl
    exact hnot ha
  · rcases List.mem_append.1 hg with hg | hg
    · exact h.sub g hg
    · rw [List.mem_singleton.1 hg]; exact hf
  · have h1 := h.seen d hd g hg
    simp only at h1
    have h2 : (seen.push e.born).contains d.born = true ↔ seen.contains d.born = true ∨ d.born = e.born := by simp
    rw [h2, List.mem_append, h1, List.mem_singleton]
    constructor
    · rintro (a | rfl)
      · exact .inl a
      · have := ents_uniq hE hM hd he1 (hg.trans hk.symm)
        rw [this]; exact .inr rfl
    · rintro (a | a)
      · exact .inl a
      · have : d = e := by
          have hb := ents_born hE
          obtain ⟨i, hi, rfl⟩ := List.getElem_of_mem hd
          obtain ⟨j, hj, rfl⟩ := List.getElem_of_mem he1
          have hi' : i < (ents.toList.map (·.born)).length := by simpa using hi
          have hj' : j < (ents.toList.map (·.born)).length := by simpa using hj
          have : i = j := (List.getElem_inj (h₀ := hi') (h₁ := hj') hb).1 (by simpa using a)
          subst this; rfl
        subst this
        exact .inr (ky_inj (hg.symm.trans hk))
theorem KInv.all {ents : Array MapEntry} {M : List Fa} {ck : Nat} (hE : EntsOk (kvF M) ck ents) {seen : Array Nat} {L : List Fa} (h : KInv ents M (seen, L)) (h0 : (leftOf ents seen).size = 0) : L.Nodup ∧ ∀ x, x ∈ L ↔ x ∈ M := by
  refine ⟨h.nd, fun x => ⟨h.sub x, fun hx => ?_⟩⟩
  obtain ⟨e, he, hk⟩ := ents_of hE hx
  exact (h.seen e he x hk).2 (all_seen ents seen h0 e he)
theorem nodup_len {α : Type} [DecidableEq α] : ∀ {L M : List α}, L.Nodup → (∀ x ∈ L, x ∈ M) → L.length ≤ M.length
  | [], M, _, _ => Nat.zero_le _
  | x :: L, M, h, hs => by
    obtain ⟨h1, h2⟩ := List.nodup_cons.1 h
    have hx := hs x (List.mem_cons_self ..)
    have := nodup_len (M := M.erase x) h2 fun y hy => (List.mem_erase_of_ne (fun e => h1 (by rw [← e]; exact hy))).2 (hs y (List.mem_cons_of_mem _ hy))
    rw [List.length_erase_of_mem hx] at this
    have : 0 < M.length := List.length_pos_of_mem hx
    rw [List.length_cons]; omega
theorem Keys_f (M : List Fa) (ck : Nat) : AFun Tryd.prog 33 1 [.mp 0] [(0, .map ck (kvF M))] (.clo 49 [.ptr 1 1 0 0]) (kmH ck M) := by
  refine AFun.of_W T_ok mixed Tryd.func33 rfl (Nat.le_of_ble_eq_true rfl) rfl ?_
  ((repeat ((conv => whnf); (first | (refine LetN.pre ?_; first | ((conv => arg 1; whnf); refine LetN.mk ?_)) | (refine As.pre ?_; first | refine As.mk rfl ?_ | (refine As.mk ?_ ?_; · decide +kernel) | refine As.mk (andT (nor_self _) rfl) ?_ | refine As.mk (andT (nor_self _) (or_t _)) ?_ | refine As.mk (andT (or_t _) (or_nself _)) ?_ | refine As.mk (andT (or_t _) (or_t _)) ?_ | refine As.mk (andT (nor_self _) (andT (nor_self _) rfl)) ?_ | (refine As.mk ?_ ?_; · ((repeat' (refine andT ?_ ?_)) <;> (first | rfl | assumption | exact decide_eq_true (by omega) | exact decide_eq_true (by dsimp only; omega) | exact decide_eq_true (by simp; omega) | (simp; done))))) | (refine LetV.pre ?_; first | refine LetV.mk (.sc (.int _ _)) rfl ?_ | refine LetV.mk (.sc (.bool _)) rfl ?_ | refine LetV.mk (.sc _) rfl ?_ | refine LetV.mk (.agg _) rfl ?_ | refine LetV.mk (.slm _ _ _ _ _) rfl ?_ | refine LetV.mk (.ro _ _ _) rfl ?_ | refine LetV.mk (.ptr _ _ _ _) rfl ?_ | refine LetV.mk (.clo _ _ _) rfl ?_ | refine LetV.mk (.rp _ _) rfl ?_) | (refine LetI.pre ?_; first | refine LetI.wrap (by omega) (by omega) ?_ | refine LetI.mk _ rfl ?_) | (refine LetB.pre ?_; first | refine LetB.tt rfl ?_ | refine LetB.ff rfl ?_ | refine LetB.tt (by assumption) ?_ | refine LetB.ff (by assumption) ?_ | refine LetB.dect (by omega) ?_ | refine LetB.decf (by omega) ?_ | refine LetB.beqt (by omega) ?_ | refine LetB.beqf (by omega) ?_ | refine LetB.bnet (by omega) ?_ | refine LetB.bnef (by omega) ?_ | refine LetB.mk _ rfl ?_) | (refine Gd.pre ?_; first | refine Gd.run rfl ?_ | refine Gd.pass rfl ?_ | refine Gd.run (by assumption) ?_ | refine Gd.pass (by assumption) ?_ | (refine Gd.run ?_ ?_; · decide +kernel) | (refine Gd.pass ?_ ?_; · decide +kernel) | refine Gd.both ?_) | (refine Br.pre ?_; first | refine Br.tt rfl ?_ | refine Br.ff rfl ?_ | refine Br.tt (by assumption) ?_ | refine Br.ff (by assumption) ?_ | (refine Br.tt ?_ ?_; · decide +kernel) | (refine Br.ff ?_ ?_; · decide +kernel)) | (refine Ck.pre ?_; first | refine Ck.drawn (by kernel_rfl) ?_ | refine Ck.mk rfl ?_) | (refine LetL.pre ?_; first | refine LetL.mk [_] rfl ?_ | refine LetL.mk _ rfl ?_) | refine forceAs.pass ?_ | refine forceEs.pass ?_ | refine forceC.pass ?_))); (try (conv => whnf)))
  exact ⟨.inl rfl, ⟨_, rfl, rfl⟩, rfl, rfl, trivial⟩
set_option maxHeartbeats 1600000 in
set_option maxRecDepth 100000 in
theorem Keys1_D (M : List Fa) (ck : Nat) (hM : M.Nodup) (hl : M.length ≤ 1000) (lp : Nat) (rc : Loop) (hps : rc.params.size = 1) (ks : List Nat)
    (hy : ∀ (L : List Fa) (f : Fa), L.length ≤ 1000 → AFunC (CY Tryd.prog lp rc) 2 [.yl lp rc ks [.ptr 0 1 0 0], fa f] (apH L) (bool true) (apT (L ++ [f]))) :
    DFun Tryd.prog 49 4 [.yl lp rc ks [.ptr 2 1 0 0], .ptr 1 1 0 0] (kH ck M) fun v H' => v = .tup [] ∧ ∃ L : List Fa, (L.Nodup ∧ ∀ x, x ∈ L ↔ x ∈ M) ∧ H' = kT ck M L := by
  refine DFun.of_D T_ok Tryd.func49 rfl (Nat.le_of_ble_eq_true rfl) ?_
  refine DRuns.range T_ok (mid := 0) (ck := ck) (kv := kvF M) 1 rfl (Nat.le_refl _) rfl (by decide) (fun x hx => ?hv) ?_
  case hv =>
    obtain ⟨y, _, rfl⟩ := List.mem_map.1 hx
    exact ⟨_, rfl⟩
  ((repeat ((conv => whnf); (first | (refine LetN.pre ?_; first | ((conv => arg 1; whnf); refine LetN.mk ?_)) | (refine As.pre ?_; first | refine As.mk rfl ?_ | (refine As.mk ?_ ?_; · decide +kernel) | refine As.mk (andT (nor_self _) rfl) ?_ | refine As.mk (andT (nor_self _) (or_t _)) ?_ | refine As.mk (andT (or_t _) (or_nself _)) ?_ | refine As.mk (andT (or_t _) (or_t _)) ?_ | refine As.mk (andT (nor_self _) (andT (nor_self _) rfl)) ?_ | (refine As.mk ?_ ?_; · ((repeat' (refine andT ?_ ?_)) <;> (first | rfl | assumption | exact decide_eq_true (by omega) | exact decide_eq_true (by dsimp only; omega) | exact decide_eq_true (by simp; omega) | (simp; done))))) | (refine LetV.pre ?_; first | refine LetV.mk (t := mty) (.mp _) rfl ?_ | refine LetV.mk (.sc (.int _ _)) rfl ?_ | refine LetV.mk (.sc (.bool _)) rfl ?_ | refine LetV.mk (.sc _) rfl ?_ | refine LetV.mk (.agg _) rfl ?_ | refine LetV.mk (.slm _ _ _ _ _) rfl ?_ | refine LetV.mk (.ro _ _ _) rfl ?_ | refine LetV.mk (.ptr _ _ _ _) rfl ?_ | refine LetV.mk (.clo _ _ _) rfl ?_ | refine LetV.mk (.rp _ _) rfl ?_) | (refine LetI.pre ?_; first | refine LetI.wrap (by omega) (by omega) ?_ | refine LetI.mk _ rfl ?_) | (refine LetB.pre ?_; first | refine LetB.tt rfl ?_ | refine LetB.ff rfl ?_ | refine LetB.tt (by assumption) ?_ | refine LetB.ff (by assumption) ?_ | refine LetB.dect (by omega) ?_ | refine LetB.decf (by omega) ?_ | refine LetB.beqt (by omega) ?_ | refine LetB.beqf (by omega) ?_ | refine LetB.bnet (by omega) ?_ | refine LetB.bnef (by omega) ?_ | refine LetB.mk _ rfl ?_) | (refine Gd.pre ?_; first | refine Gd.run rfl ?_ | refine Gd.pass rfl ?_ | refine Gd.run (by assumption) ?_ | refine Gd.pass (by assumption) ?_ | (refine Gd.run ?_ ?_; · decide +kernel) | (refine Gd.pass ?_ ?_; · decide +kernel) | refine Gd.both ?_) | (refine Br.pre ?_; first | refine Br.tt rfl ?_ | refine Br.ff rfl ?_ | refine Br.tt (by assumption) ?_ | refine Br.ff (by assumption) ?_ | (refine Br.tt ?_ ?_; · decide +kernel) | (refine Br.ff ?_ ?_; · decide +kernel)) | (refine Ck.pre ?_; first | refine Ck.drawn (by kernel_rfl) ?_ | refine Ck.mk rfl ?_) | (refine LetL.pre ?_; first | refine LetL.mk [_] rfl ?_ | refine LetL.mk _ rfl ?_) | refine forceAs.pass ?_ | refine forceEs.pass ?_ | refine forceC.pass ?_))); (try (conv => whnf)))
  refine ⟨_, 31, 4, _, rfl, by kernel_rfl, rfl, rfl, rfl, rfl, fun rb => ?_⟩
  ((repeat ((conv => whnf); (first | (refine LetN.pre ?_; first | ((conv => arg 1; whnf); refine LetN.mk ?_)) | (refine As.pre ?_; first | refine As.mk rfl ?_ | (refine As.mk ?_ ?_; · decide +kernel) | refine As.mk (andT (nor_self _) rfl) ?_ | refine As.mk (andT (nor_self _) (or_t _)) ?_ | refine As.mk (andT (or_t _) (or_nself _)) ?_ | refine As.mk (andT (or_t _) (or_t _)) ?_ | refine As.mk (andT (nor_self _) (andT (nor_self _) rfl)) ?_ | (refine As.mk ?_ ?_; · ((repeat' (refine andT ?_ ?_)) <;> (first | rfl | assumption | exact decide_eq_true (by omega) | exact decide_eq_true (by dsimp only; omega) | exact decide_eq_true (by simp; omega) | (simp; done))))) | (refine LetV.pre ?_; first | refine LetV.mk (.sc (.int _ _)) rfl ?_ | refine LetV.mk (.sc (.bool _)) rfl ?_ | refine LetV.mk (.sc _) rfl ?_ | refine LetV.mk (.agg _) rfl ?_ | refine LetV.mk (.slm _ _ _ _ _) rfl ?_ | refine LetV.mk (.ro _ _ _) rfl ?_ | refine LetV.mk (.ptr _ _ _ _) rfl ?_ | refine LetV.mk (.clo _ _ _) rfl ?_ | refine LetV.mk (.rp _ _) rfl ?_) | (refine LetI.pre ?_; first | refine LetI.wrap (by omega) (by omega) ?_ | refine LetI.mk _ rfl ?_) | (refine LetB.pre ?_; first | refine LetB.tt rfl ?_ | refine LetB.ff rfl ?_ | refine LetB.tt (by assumption) ?_ | refine LetB.ff (by assumption) ?_ | refine LetB.dect (by omega) ?_ | refine LetB.decf (by omega) ?_ | refine LetB.beqt (by omega) ?_ | refine LetB.beqf (by omega) ?_ | refine LetB.bnet (by omega) ?_ | refine LetB.bnef (by omega) ?_ | refine LetB.mk _ rfl ?_) | (refine Gd.pre ?_; first | refine Gd.run rfl ?_ | refine Gd.pass rfl ?_ | refine Gd.run (by assumption) ?_ | refine Gd.pass (by assumption) ?_ | (refine Gd.run ?_ ?_; · decide +kernel) | (refine Gd.pass ?_ ?_; · decide +kernel) | refine Gd.both ?_) | (refine Br.pre ?_; first | refine Br.tt rfl ?_ | refine Br.ff rfl ?_ | refine Br.tt (by assumption) ?_ | refine Br.ff (by assumption) ?_ | (refine Br.tt ?_ ?_; · decide +kernel) | (refine Br.ff ?_ ?_; · decide +kernel)) | (refine Ck.pre ?_; first | refine Ck.drawn (by kernel_rfl) ?_ | refine Ck.mk rfl ?_) | (refine LetL.pre ?_; first | refine LetL.mk [_] rfl ?_ | refine LetL.mk _ rfl ?_) | refine forceAs.pass ?_ | refine forceEs.pass ?_ | refine forceC.pass ?_))); (try (conv => whnf)))
  refine ⟨rfl, fun mb ents w0 g0 H0 hE hrb hne => ?_⟩
  refine KRuns.pre (s1 := kyS rb (.yl lp rc ks [.ptr 2 1 0 0]) (#[], [])) ?sw1 ?_
  case sw1 => exact SW.mk rk4 rfl rfl (klN 4 _ _ rfl rfl) ⟨.refl _, .refl _, trivial⟩ (haveV.one rfl (haveV.one rfl (haveV.row rfl rfl trivial)))
  refine KRuns.block ?_
  refine KRuns.loop (kyS rb (.yl lp rc ks [.ptr 2 1 0 0])) (fun i => [(rb, .mapIter (some mb) ck i.1 ck), (mb, .map ents ck)]) (fun i => (leftOf ents i.1).size) (KInv ents M) (fun i hi => ?_) (#[], []) (KInv.nil ents M)
  obtain ⟨seen, L⟩ := i
  have hold : ∀ x ∈ ents.toList, x.born < ck := fun x hx => by
    obtain ⟨j, hj, rfl⟩ := List.getElem_of_mem hx
    exact hE.old j _ (by rw [← Array.getElem?_toList, List.getElem?_eq_getElem hj])
  have hkf : ∀ e ∈ ents.toList, ∀ w g, Cv w g (kfF e.key) e.key := fun e he w g => by
    obtain ⟨f, _, hk⟩ := ents_mem hE he
    rw [hk, kfF_ky]
    refine .agg rfl fun j c x hj hx => ?_
    match j with
    | 0 | 1 | 2 | 3 | 4 | 5 | 6 => simp at hj hx; subst hj hx; exact .sc _ rfl
    | j + 7 => simp at hj
  have hlL : L.length ≤ 1000 := Nat.le_trans (nodup_len hi.nd hi.sub) hl
  refine KRuns.seq (KRuns.mono (KRuns.next T_ok 0 rfl (Nat.le_of_ble_eq_true rfl) rfl hold (Nat.le_refl _) hne hrb hkf
    (R0 := fun s' => SW 4 Tryd.f49.ntmps s' (kyE rb (.yl lp rc ks [.ptr 2 1 0 0]) L false)) (R1 := fun _ s' => SW 4 Tryd.f49.ntmps s' (kyE rb (.yl lp rc ks [.ptr 2 1 0 0]) L true)) ?v) ?post)
  case v =>
    refine ⟨_, rfl, rfl, rfl, rfl, fun h0 => ?_, fun e he => ?_⟩
    · ((repeat ((conv => whnf); (first | (refine LetN.pre ?_; first | ((conv => arg 1; whnf); refine LetN.mk ?_)) | (refine As.pre ?_; first | refine As.mk rfl ?_ | (refine As.mk ?_ ?_; · decide +kernel) | refine As.mk (andT (nor_self _) rfl) ?_ | refine As.mk (andT (nor_self _) (or_t _)) ?_ | refine As.mk (andT (or_t _) (or_nself _)) ?_ | refine As.mk (andT (or_t _) (or_t _)) ?_ | refine As.mk (andT (nor_self _) (andT (nor_self _) rfl)) ?_ | (refine As.mk ?_ ?_; · ((repeat' (refine andT ?_ ?_)) <;> (first | rfl | assumption | exact decide_eq_true (by omega) | exact decide_eq_true (by dsimp only; omega) | exact decide_eq_true (by simp; omega) | (simp; done))))) | (refine LetV.pre ?_; first | refine LetV.mk (.sc (.int _ _)) rfl ?_ | refine LetV.mk (.sc (.bool _)) rfl ?_ | refine LetV.mk (.sc _) rfl ?_ | refine LetV.mk (.agg _) rfl ?_ | refine LetV.mk (.slm _ _ _ _ _) rfl ?_ | refine LetV.mk (.ro _ _ _) rfl ?_ | refine LetV.mk (.ptr _ _ _ _) rfl ?_ | refine LetV.mk (.clo _ _ _) rfl ?_ | refine LetV.mk (.rp _ _) rfl ?_) | (refine LetI.pre ?_; first | refine LetI.wrap (by omega) (by omega) ?_ | refine LetI.mk _ rfl ?_) | (refine LetB.pre ?_; first | refine LetB.tt rfl ?_ | refine LetB.ff rfl ?_ | refine LetB.tt (by assumption) ?_ | refine LetB.ff (by assumption) ?_ | refine LetB.dect (by omega) ?_ | refine LetB.decf (by omega) ?_ | refine LetB.beqt (by omega) ?_ | refine LetB.beqf (by omega) ?_ | refine LetB.bnet (by omega) ?_ | refine LetB.bnef (by omega) ?_ | refine LetB.mk _ rfl ?_) | (refine Gd.pre ?_; first | refine Gd.run rfl ?_ | refine Gd.pass rfl ?_ | refine Gd.run (by assumption) ?_ | refine Gd.pass (by assumption) ?_ | (refine Gd.run ?_ ?_; · decide +kernel) | (refine Gd.pass ?_ ?_; · decide +kernel) | refine Gd.both ?_) | (refine Br.pre ?_; first | refine Br.tt rfl ?_ | refine Br.ff rfl ?_ | refine Br.tt (by assumption) ?_ | refine Br.ff (by assumption) ?_ | (refine Br.tt ?_ ?_; · decide +kernel) | (refine Br.ff ?_ ?_; · decide +kernel)) | (refine Ck.pre ?_; first | refine Ck.drawn (by kernel_rfl) ?_ | refine Ck.mk rfl ?_) | (refine LetL.pre ?_; first | refine LetL.mk [_] rfl ?_ | refine LetL.mk _ rfl ?_) | refine forceAs.pass ?_ | refine forceEs.pass ?_ | refine forceC.pass ?_))); (try (conv => whnf)))
      exact SW.mk id rfl rfl (klN 4 _ _ rfl rfl) ⟨.refl _, .refl _, .refl _, trivial⟩ (haveV.one rfl (haveV.one rfl (haveV.row (pure_fa _) rfl trivial)))
    · ((repeat ((conv => whnf); (first | (refine LetN.pre ?_; first | ((conv => arg 1; whnf); refine LetN.mk ?_)) | (refine As.pre ?_; first | refine As.mk rfl ?_ | (refine As.mk ?_ ?_; · decide +kernel) | refine As.mk (andT (nor_self _) rfl) ?_ | refine As.mk (andT (nor_self _) (or_t _)) ?_ | refine As.mk (andT (or_t _) (or_nself _)) ?_ | refine As.mk (andT (or_t _) (or_t _)) ?_ | refine As.mk (andT (nor_self _) (andT (nor_self _) rfl)) ?_ | (refine As.mk ?_ ?_; · ((repeat' (refine andT ?_ ?_)) <;> (first | rfl | assumption | exact decide_eq_true (by omega) | exact decide_eq_true (by dsimp only; omega) | exact decide_eq_true (by simp; omega) | (simp; done))))) | (refine LetV.pre ?_; first | refine LetV.mk (.sc (.int _ _)) rfl ?_ | refine LetV.mk (.sc (.bool _)) rfl ?_ | refine LetV.mk (.sc _) rfl ?_ | refine LetV.mk (.agg _) rfl ?_ | refine LetV.mk (.slm _ _ _ _ _) rfl ?_ | refine LetV.mk (.ro _ _ _) rfl ?_ | refine LetV.mk (.ptr _ _ _ _) rfl ?_ | refine LetV.mk (.clo _ _ _) rfl ?_ | refine LetV.mk (.rp _ _) rfl ?_) | (refine LetI.pre ?_; first | refine LetI.wrap (by omega) (by omega) ?_ | refine LetI.mk _ rfl ?_) | (refine LetB.pre ?_; first | refine LetB.tt rfl ?_ | refine LetB.ff rfl ?_ | refine LetB.tt (by assumption) ?_ | refine LetB.ff (by assumption) ?_ | refine LetB.dect (by omega) ?_ | refine LetB.decf (by omega) ?_ | refine LetB.beqt (by omega) ?_ | refine LetB.beqf (by omega) ?_ | refine LetB.bnet (by omega) ?_ | refine LetB.bnef (by omega) ?_ | refine LetB.mk _ rfl ?_) | (refine Gd.pre ?_; first | refine Gd.run rfl ?_ | refine Gd.pass rfl ?_ | refine Gd.run (by assumption) ?_ | refine Gd.pass (by assumption) ?_ | (refine Gd.run ?_ ?_; · decide +kernel) | (refine Gd.pass ?_ ?_; · decide +kernel) | refine Gd.both ?_) | (refine Br.pre ?_; first | refine Br.tt rfl ?_ | refine Br.ff rfl ?_ | refine Br.tt (by assumption) ?_ | refine Br.ff (by assumption) ?_ | (refine Br.tt ?_ ?_; · decide +kernel) | (refine Br.ff ?_ ?_; · decide +kernel)) | (refine Ck.pre ?_; first | refine Ck.drawn (by kernel_rfl) ?_ | refine Ck.mk rfl ?_) | (refine LetL.pre ?_; first | refine LetL.mk [_] rfl ?_ | refine LetL.mk _ rfl ?_) | refine forceAs.pass ?_ | refine forceEs.pass ?_ | refine forceC.pass ?_))); (try (conv => whnf)))
      exact SW.mk id rfl rfl (klN 4 _ _ rfl rfl) ⟨.refl _, .refl _, .refl _, trivial⟩ (haveV.one rfl (haveV.one rfl (haveV.row (pure_fa _) rfl trivial)))
  case post =>
    rintro e s1 q ⟨rfl, ⟨h0, hR, rfl⟩ | ⟨en, hen, hR, rfl⟩⟩
    · refine KRuns.pre hR ?_
      refine KRuns.of_D (DRuns.of_VS (VS.seq (VS.condF rfl rfl (VS.exit ?_)))) (fun _ _ h => h)
      refine .inr ⟨(fun h => by cases h), ?_⟩
      obtain ⟨hnd, hmem⟩ := hi.all hE h0
      refine ⟨List.mem_cons_of_mem _ (List.mem_cons_self ..), .tup [], kT ck M L, ⟨rfl, L, ⟨hnd, hmem⟩, rfl⟩, ?_⟩
      exact ⟨⟨[], kT ck M L, 5⟩, SW.mk id rfl rfl (ktN ck M L _ rfl rfl) trivial (haveV.map (kvF_pure M) rfl (haveV.one rfl (haveV.one rfl (haveV.row (pure_fa _) rfl trivial)))), .inr rfl, ⟨_, rfl, rfl⟩, rfl, rfl, rfl, rfl, trivial⟩
    · obtain ⟨f, hf, hk⟩ := ents_mem hE (mem_left hen).1
      refine KRuns.pre hR (KRuns.seq (KRuns.of_D (DRuns.of_VS (VS.condT rfl rfl (VS.skip (Q := fun e s1 => e = .normal ∧ s1 = kyE rb (.yl lp rc ks [.ptr 2 1 0 0]) L true) ⟨rfl, rfl⟩))) ?_))
      rintro e s1 ⟨rfl, rfl⟩
      refine KRuns.block (KRuns.seq (KRuns.mono (KRuns.entry T_ok 0 rfl (Nat.le_of_ble_eq_true rfl) rfl (mem_left hen).1 (ents_born hE) (hkf en (mem_left hen).1)
        (R1 := fun s' => SW 4 Tryd.f49.ntmps s' (kyG rb (.yl lp rc ks [.ptr 2 1 0 0]) L f)) ?v2) ?post2))
      case v2 =>
        refine ⟨_, rfl, rfl, rfl, rfl, ?_⟩
        rw [hk, kfF_ky]
        ((repeat ((conv => whnf); (first | (refine LetN.pre ?_; first | ((conv => arg 1; whnf); refine LetN.mk ?_)) | (refine As.pre ?_; first | refine As.mk rfl ?_ | (refine As.mk ?_ ?_; · decide +kernel) | refine As.mk (andT (nor_self _) rfl) ?_ | refine As.mk (andT (nor_self _) (or_t _)) ?_ | refine As.mk (andT (or_t _) (or_nself _)) ?_ | refine As.mk (andT (or_t _) (or_t _)) ?_ | refine As.mk (andT (nor_self _) (andT (nor_self _) rfl)) ?_ | (refine As.mk ?_ ?_; · ((repeat' (refine andT ?_ ?_)) <;> (first | rfl | assumption | exact decide_eq_true (by omega) | exact decide_eq_true (by dsimp only; omega) | exact decide_eq_true (by simp; omega) | (simp; done))))) | (refine LetV.pre ?_; first | refine LetV.mk (.sc (.int _ _)) rfl ?_ | refine LetV.mk (.sc (.bool _)) rfl ?_ | refine LetV.mk (.sc _) rfl ?_ | refine LetV.mk (.agg _) rfl ?_ | refine LetV.mk (.slm _ _ _ _ _) rfl ?_ | refine LetV.mk (.ro _ _ _) rfl ?_ | refine LetV.mk (.ptr _ _ _ _) rfl ?_ | refine LetV.mk (.clo _ _ _) rfl ?_ | refine LetV.mk (.rp _ _) rfl ?_) | (refine LetI.pre ?_; first | refine LetI.wrap (by omega) (by omega) ?_ | refine LetI.mk _ rfl ?_) | (refine LetB.pre ?_; first | refine LetB.tt rfl ?_ | refine LetB.ff rfl ?_ | refine LetB.tt (by assumption) ?_ | refine LetB.ff (by assumption) ?_ | refine LetB.dect (by omega) ?_ | refine LetB.decf (by omega) ?_ | refine LetB.beqt (by omega) ?_ | refine LetB.beqf (by omega) ?_ | refine LetB.bnet (by omega) ?_ | refine LetB.bnef (by omega) ?_ | refine LetB.mk _ rfl ?_) | (refine Gd.pre ?_; first | refine Gd.run rfl ?_ | refine Gd.pass rfl ?_ | refine Gd.run (by assumption) ?_ | refine Gd.pass (by assumption) ?_ | (refine Gd.run ?_ ?_; · decide +kernel) | (refine Gd.pass ?_ ?_; · decide +kernel) | refine Gd.both ?_) | (refine Br.pre ?_; first | refine Br.tt rfl ?_ | refine Br.ff rfl ?_ | refine Br.tt (by assumption) ?_ | refine Br.ff (by assumption) ?_ | (refine Br.tt ?_ ?_; · decide +kernel) | (refine Br.ff ?_ ?_; · decide +kernel)) | (refine Ck.pre ?_; first | refine Ck.drawn (by kernel_rfl) ?_ | refine Ck.mk rfl ?_) | (refine LetL.pre ?_; first | refine LetL.mk [_] rfl ?_ | refine LetL.mk _ rfl ?_) | refine forceAs.pass ?_ | refine forceEs.pass ?_ | refine forceC.pass ?_))); (try (conv => whnf)))
        exact SW.mk id rfl rfl (kgN L f _ rfl rfl) ⟨.refl _, .refl _, .refl _, trivial⟩ (haveV.one rfl (haveV.one rfl (haveV.row (pure_fa _) rfl (haveV.row rfl rfl trivial))))
      case post2 =>
        rintro e s1 q ⟨rfl, hR1, rfl⟩
        refine KRuns.pre hR1 ?_
        have hyi := hy L f hlL
        refine KRuns.of_D (DRuns.of_VS (VS.of_V T_ok mixed rfl (Q := fun e s1 => e = .normal ∧ SW 4 Tryd.f49.ntmps s1 (kyS rb (.yl lp rc ks [.ptr 2 1 0 0]) (seen.push en.born, L ++ [f]))) ?v3)) ?fin
        case fin =>
          rintro e s1 ⟨rfl, hS⟩
          exact .inl ⟨rfl, (seen.push en.born, L ++ [f]), hi.add hE hM hen hf hk, left_shrinks ents seen en hen, rfl, hS⟩
        case v3 =>
          ((repeat ((conv => whnf); (first | (refine LetN.pre ?_; first | ((conv => arg 1; whnf); refine LetN.mk ?_)) | (refine As.pre ?_; first | refine As.mk rfl ?_ | (refine As.mk ?_ ?_; · decide +kernel) | refine As.mk (andT (nor_self _) rfl) ?_ | refine As.mk (andT (nor_self _) (or_t _)) ?_ | refine As.mk (andT (or_t _) (or_nself _)) ?_ | refine As.mk (andT (or_t _) (or_t _)) ?_ | refine As.mk (andT (nor_self _) (andT (nor_self _) rfl)) ?_ | (refine As.mk ?_ ?_; · ((repeat' (refine andT ?_ ?_)) <;> (first | rfl | assumption | exact decide_eq_true (by omega) | exact decide_eq_true (by dsimp only; omega) | exact decide_eq_true (by simp; omega) | (simp; done))))) | (refine LetV.pre ?_; first | refine LetV.mk (.sc (.int _ _)) rfl ?_ | refine LetV.mk (.sc (.bool _)) rfl ?_ | refine LetV.mk (.sc _) rfl ?_ | refine LetV.mk (.agg _) rfl ?_ | refine LetV.mk (.slm _ _ _ _ _) rfl ?_ | refine LetV.mk (.ro _ _ _) rfl ?_ | refine LetV.mk (.ptr _ _ _ _) rfl ?_ | refine LetV.mk (.clo _ _ _) rfl ?_ | refine LetV.mk (.rp _ _) rfl ?_) | (refine LetI.pre ?_; first | refine LetI.wrap (by omega) (by omega) ?_ | refine LetI.mk _ rfl ?_) | (refine LetB.pre ?_; first | refine LetB.tt rfl ?_ | refine LetB.ff rfl ?_ | refine LetB.tt (by assumption) ?_ | refine LetB.ff (by assumption) ?_ | refine LetB.dect (by omega) ?_ | refine LetB.decf (by omega) ?_ | refine LetB.beqt (by omega) ?_ | refine LetB.beqf (by omega) ?_ | refine LetB.bnet (by omega) ?_ | refine LetB.bnef (by omega) ?_ | refine LetB.mk _ rfl ?_) | (refine Gd.pre ?_; first | refine Gd.run rfl ?_ | refine Gd.pass rfl ?_ | refine Gd.run (by assumption) ?_ | refine Gd.pass (by assumption) ?_ | (refine Gd.run ?_ ?_; · decide +kernel) | (refine Gd.pass ?_ ?_; · decide +kernel) | refine Gd.both ?_) | (refine Br.pre ?_; first | refine Br.tt rfl ?_ | refine Br.ff rfl ?_ | refine Br.tt (by assumption) ?_ | refine Br.ff (by assumption) ?_ | (refine Br.tt ?_ ?_; · decide +kernel) | (refine Br.ff ?_ ?_; · decide +kernel)) | (refine Ck.pre ?_; first | refine Ck.drawn (by kernel_rfl) ?_ | refine Ck.mk rfl ?_) | (refine LetL.pre ?_; first | refine LetL.mk (ty := fty) _ (renL_none (pure_fa _)).symm ?_ | refine LetL.mk [_] rfl ?_ | refine LetL.mk _ rfl ?_) | ((refine YieldN.own rka hyi (by rw [hps]; rfl) (CallOk.mk' rfl rfl rfl (apN _ _ rfl) rfl (aptN _ _ rfl) ⟨rfl, haveAll.row (pure_fa _) rfl trivial⟩) ?_)) | refine forceAs.pass ?_ | refine forceEs.pass ?_ | refine forceC.pass ?_))); (try (conv => whnf)))


          refine ⟨rfl, ?_⟩
          exact SW.mk rk6 rfl rfl (klN 4 _ _ rfl rfl) ⟨.refl _, .refl _, trivial⟩ (haveV.one rfl (haveV.one rfl (haveV.row (pure_fa _) rfl trivial)))
end En
end Go.Proofs.YtgnakhljdjekbaaDoor
namespace Go.Proofs.YtgnakhljdjekbaaDoor
open Go.Proofs.YtgnakhljdjekbaaDoor.Am
set_option maxRecDepth 100000
namespace En
/-! ### The keys collected and sorted -/
theorem app_fa (l : List Fa) (e : Fa) (n : Nat) (h : n = l.length) : (l ++ [e]).map fa = (l.map fa).take n ++ [fa e] := by rw [List.take_of_length_le (by simp [h]), List.map_append]; rfl
theorem room_fa {n : Nat} (h : n ≤ 1000000) : room n 64 = true := by
  simp only [room, Bool.and_eq_true, decide_eq_true_eq]
  exact ⟨by omega, rfl⟩
theorem kt_call (ck : Nat) (M L : List Fa) : atCall id (kH ck M) (.tup []) (kT ck M L) = { v := .tup [], D := [0, 1, 2, 3], δ := [(0, some (.map ck (kvF M))), (1, some (.row 1 mty [.mp 0])), (2, some (bxF 4 L.length)), (4, some (rwF L)), (3, none)] } := by
  show ({ v := _, D := _, δ := [(0, some (.map ck ((kvF M).map fun x => (x.1, x.2.ren id)))), (1, _), (2, _), (4, some (.row 7 fty (AV.renL id (L.map fa)))), (3, none)] } : Out) = _
  rw [kv_ren (kvF_pure M), renL_none (pure_fa L)]; rfl
abbrev keysC : AV := .clo 49 [.ptr 1 1 0 0]
abbrev sqH (ck : Nat) (M : List Fa) (L : List Fa) : AH := kmH ck M ++ [(2, rwF L)]
theorem sqN (ck : Nat) (M L : List Fa) (ok : Nat → Bool) (h0 : ok 0 = true) : namesAll ok (sqH ck M L) = true := namesAll.map (kvF_pure M) (by
  have h2 : namesAll ok [(2, rwF L)] = true := namesAll.row (pure_fa _) rfl
  show namesAll ok ((1, _) :: [(2, rwF L)]) = true
  rw [namesAll, h2]
  simp only [Blk.names, AV.namesL, AV.names, h0]; rfl)
def rk2 : Nat → Nat | 2 => 4 | i => i
/-- What the collection may be: the facts of the map, each once. -/
def JSeq (ck : Nat) (M : List Fa) (v : AV) (H : AH) : Prop := ∃ L : List Fa, (L.Nodup ∧ ∀ x, x ∈ L ↔ x ∈ M) ∧ v = .slm {} 2 7 0 L.length ∧ H = sqH ck M L
set_option maxHeartbeats 1600000 in
set_option maxRecDepth 100000 in
theorem AppendSeq_D (M : List Fa) (ck : Nat) (hM : M.Nodup) (hl : M.length ≤ 1000) : DFun Tryd.prog 66 2 [.sc (.slice none 0 0), keysC] (kmH ck M) (JSeq ck M) := by
  refine DFun.of_D T_ok Tryd.func66 rfl (Nat.le_of_ble_eq_true rfl) ?_
  refine DRuns.seq (DRuns.of_VS (VS.of_V T_ok mixed rfl ?_))
  ((repeat ((conv => whnf); (first | (refine LetN.pre ?_; first | ((conv => arg 1; whnf); refine LetN.mk ?_)) | (refine As.pre ?_; first | refine As.mk rfl ?_ | (refine As.mk ?_ ?_; · decide +kernel) | refine As.mk (andT (nor_self _) rfl) ?_ | refine As.mk (andT (nor_self _) (or_t _)) ?_ | refine As.mk (andT (or_t _) (or_nself _)) ?_ | refine As.mk (andT (or_t _) (or_t _)) ?_ | refine As.mk (andT (nor_self _) (andT (nor_self _) rfl)) ?_ | (refine As.mk ?_ ?_; · ((repeat' (refine andT ?_ ?_)) <;> (first | rfl | assumption | exact decide_eq_true (by omega) | exact decide_eq_true (by dsimp only; omega) | exact decide_eq_true (by simp; omega) | (simp; done))))) | (refine LetV.pre ?_; first | refine LetV.mk (.sc (.int _ _)) rfl ?_ | refine LetV.mk (.sc (.bool _)) rfl ?_ | refine LetV.mk (.sc _) rfl ?_ | refine LetV.mk (.agg _) rfl ?_ | refine LetV.mk (.slm _ _ _ _ _) rfl ?_ | refine LetV.mk (.ro _ _ _) rfl ?_ | refine LetV.mk (.ptr _ _ _ _) rfl ?_ | refine LetV.mk (.clo _ _ _) rfl ?_ | refine LetV.mk (.rp _ _) rfl ?_) | (refine LetI.pre ?_; first | refine LetI.wrap (by omega) (by omega) ?_ | refine LetI.mk _ rfl ?_) | (refine LetB.pre ?_; first | refine LetB.tt rfl ?_ | refine LetB.ff rfl ?_ | refine LetB.tt (by assumption) ?_ | refine LetB.ff (by assumption) ?_ | refine LetB.dect (by omega) ?_ | refine LetB.decf (by omega) ?_ | refine LetB.beqt (by omega) ?_ | refine LetB.beqf (by omega) ?_ | refine LetB.bnet (by omega) ?_ | refine LetB.bnef (by omega) ?_ | refine LetB.mk _ rfl ?_) | (refine Gd.pre ?_; first | refine Gd.run rfl ?_ | refine Gd.pass rfl ?_ | refine Gd.run (by assumption) ?_ | refine Gd.pass (by assumption) ?_ | (refine Gd.run ?_ ?_; · decide +kernel) | (refine Gd.pass ?_ ?_; · decide +kernel) | refine Gd.both ?_) | (refine Br.pre ?_; first | refine Br.tt rfl ?_ | refine Br.ff rfl ?_ | refine Br.tt (by assumption) ?_ | refine Br.ff (by assumption) ?_ | (refine Br.tt ?_ ?_; · decide +kernel) | (refine Br.ff ?_ ?_; · decide +kernel)) | (refine Ck.pre ?_; first | refine Ck.drawn (by kernel_rfl) ?_ | refine Ck.mk rfl ?_) | (refine LetL.pre ?_; first | refine LetL.mk [_] rfl ?_ | refine LetL.mk _ rfl ?_) | refine forceAs.pass ?_ | refine forceEs.pass ?_ | refine forceC.pass ?_))); (try (conv => whnf)))
  refine DRuns.seq (DRuns.seq (DRuns.of_VS (VS.of_V T_ok mixed rfl ?_)))
  ((repeat ((conv => whnf); (first | (refine LetN.pre ?_; first | ((conv => arg 1; whnf); refine LetN.mk ?_)) | (refine As.pre ?_; first | refine As.mk rfl ?_ | (refine As.mk ?_ ?_; · decide +kernel) | refine As.mk (andT (nor_self _) rfl) ?_ | refine As.mk (andT (nor_self _) (or_t _)) ?_ | refine As.mk (andT (or_t _) (or_nself _)) ?_ | refine As.mk (andT (or_t _) (or_t _)) ?_ | refine As.mk (andT (nor_self _) (andT (nor_self _) rfl)) ?_ | (refine As.mk ?_ ?_; · ((repeat' (refine andT ?_ ?_)) <;> (first | rfl | assumption | exact decide_eq_true (by omega) | exact decide_eq_true (by dsimp only; omega) | exact decide_eq_true (by simp; omega) | (simp; done))))) | (refine LetV.pre ?_; first | refine LetV.mk (.sc (.int _ _)) rfl ?_ | refine LetV.mk (.sc (.bool _)) rfl ?_ | refine LetV.mk (.sc _) rfl ?_ | refine LetV.mk (.agg _) rfl ?_ | refine LetV.mk (.slm _ _ _ _ _) rfl ?_ | refine LetV.mk (.ro _ _ _) rfl ?_ | refine LetV.mk (.ptr _ _ _ _) rfl ?_ | refine LetV.mk (.clo _ _ _) rfl ?_ | refine LetV.mk (.rp _ _) rfl ?_) | (refine LetI.pre ?_; first | refine LetI.wrap (by omega) (by omega) ?_ | refine LetI.mk _ rfl ?_) | (refine LetB.pre ?_; first | refine LetB.tt rfl ?_ | refine LetB.ff rfl ?_ | refine LetB.tt (by assumption) ?_ | refine LetB.ff (by assumption) ?_ | refine LetB.dect (by omega) ?_ | refine LetB.decf (by omega) ?_ | refine LetB.beqt (by omega) ?_ | refine LetB.beqf (by omega) ?_ | refine LetB.bnet (by omega) ?_ | refine LetB.bnef (by omega) ?_ | refine LetB.mk _ rfl ?_) | (refine Gd.pre ?_; first | refine Gd.run rfl ?_ | refine Gd.pass rfl ?_ | refine Gd.run (by assumption) ?_ | refine Gd.pass (by assumption) ?_ | (refine Gd.run ?_ ?_; · decide +kernel) | (refine Gd.pass ?_ ?_; · decide +kernel) | refine Gd.both ?_) | (refine Br.pre ?_; first | refine Br.tt rfl ?_ | refine Br.ff rfl ?_ | refine Br.tt (by assumption) ?_ | refine Br.ff (by assumption) ?_ | (refine Br.tt ?_ ?_; · decide +kernel) | (refine Br.ff ?_ ?_; · decide +kernel)) | (refine Ck.pre ?_; first | refine Ck.drawn (by kernel_rfl) ?_ | refine Ck.mk rfl ?_) | (refine LetL.pre ?_; first | refine LetL.mk [_] rfl ?_ | refine LetL.mk _ rfl ?_) | refine forceAs.pass ?_ | refine forceEs.pass ?_ | refine forceC.pass ?_))); (try (conv => whnf)))
  refine DRuns.pre (s1 := ⟨[(2, .ptr 2 1 0 0), (6, keysC)], kH ck M, 4⟩) ?sw ?_
  case sw =>
    refine SW.trans (SW.box (id := 2) (ty := fsl) (x := .sc (.slice none 0 0)) (y := .slm {} 3 7 0 0) rfl rfl rfl VLe2.nilslm.cle) ?_
    exact SW.mk id rfl rfl (namesAll.map (kvF_pure M) rfl) ⟨.refl _, .refl _, trivial⟩ (haveV.map (kvF_pure M) rfl (haveV.one rfl (haveV.one rfl (haveV.nil (Nat.le_of_ble_eq_true rfl) trivial))))
  refine DRuns.blockN (DRuns.mono (DRuns.rangeFunc (J := fun r => ∃ L : List Fa, (L.Nodup ∧ ∀ x, x ∈ L ↔ x ∈ M) ∧ r = atCall id (kH ck M) (.tup []) (kT ck M L)) [2] (Nat.le_of_ble_eq_true rfl) rfl rfl (by kernel_rfl) (fun lp rc h1 h2 h3 h4 h5 h6 w g xs hxl hx hH hN => ?it) ?hJ) ?fin)
  case hJ =>
    rintro r ⟨L, _, rfl⟩
    rw [kt_call]
    exact ⟨rfl, solidH.map (kvF_solid M) (solidH.row rfl (solidH.row rfl (solidH.row (solid_fa _) rfl)))⟩
  case it =>
    refine (DFun.calls (v0 := .tup []) (H0 := kT ck M []) id (Keys1_D M ck hM hl lp rc (by rw [h1]; rfl) [2] fun L f hL => ?hy) (CallOk.mk' rfl rfl rfl (namesAll.map (kvF_pure M) rfl) rfl (ktN ck M [] _ rfl rfl) (haveAll.map (kvF_pure M) rfl ⟨rfl, rfl, rfl, trivial⟩)) ?okA w g xs hxl hx hH ?hn).mono ?_
    case hy =>
      refine yield_of_V T_ok mixed h1 h2 h3 h4 h5 h6 rfl rfl rfl (solidH.row rfl (solidH.row (solid_fa _) rfl)) rfl ?_
      ((repeat ((conv => whnf); (first | (refine LetN.pre ?_; first | ((conv => arg 1; whnf); refine LetN.mk ?_)) | (refine As.pre ?_; first | refine As.mk rfl ?_ | (refine As.mk ?_ ?_; · decide +kernel) | refine As.mk (andT (nor_self _) rfl) ?_ | refine As.mk (andT (nor_self _) (or_t _)) ?_ | refine As.mk (andT (or_t _) (or_nself _)) ?_ | refine As.mk (andT (or_t _) (or_t _)) ?_ | refine As.mk (andT (nor_self _) (andT (nor_self _) rfl)) ?_ | (refine As.mk ?_ ?_; · ((repeat' (refine andT ?_ ?_)) <;> (first | rfl | assumption | exact decide_eq_true (by omega) | exact decide_eq_true (by dsimp only; omega) | exact decide_eq_true (by simp; omega) | (simp; done))))) | (refine LetV.pre ?_; first | refine LetV.mk (.sc (.int _ _)) rfl ?_ | refine LetV.mk (.sc (.bool _)) rfl ?_ | refine LetV.mk (.sc _) rfl ?_ | refine LetV.mk (.agg _) rfl ?_ | refine LetV.mk (.slm _ _ _ _ _) rfl ?_ | refine LetV.mk (.ro _ _ _) rfl ?_ | refine LetV.mk (.ptr _ _ _ _) rfl ?_ | refine LetV.mk (.clo _ _ _) rfl ?_ | refine LetV.mk (.rp _ _) rfl ?_) | (refine LetI.pre ?_; first | refine LetI.wrap (by omega) (by omega) ?_ | refine LetI.mk _ rfl ?_) | (refine LetB.pre ?_; first | refine LetB.tt rfl ?_ | refine LetB.ff rfl ?_ | refine LetB.tt (by assumption) ?_ | refine LetB.ff (by assumption) ?_ | refine LetB.dect (by omega) ?_ | refine LetB.decf (by omega) ?_ | refine LetB.beqt (by omega) ?_ | refine LetB.beqf (by omega) ?_ | refine LetB.bnet (by omega) ?_ | refine LetB.bnef (by omega) ?_ | refine LetB.mk _ rfl ?_) | (refine Gd.pre ?_; first | refine Gd.run rfl ?_ | refine Gd.pass rfl ?_ | refine Gd.run (by assumption) ?_ | refine Gd.pass (by assumption) ?_ | (refine Gd.run ?_ ?_; · decide +kernel) | (refine Gd.pass ?_ ?_; · decide +kernel) | refine Gd.both ?_) | (refine Br.pre ?_; first | refine Br.tt rfl ?_ | refine Br.ff rfl ?_ | refine Br.tt (by assumption) ?_ | refine Br.ff (by assumption) ?_ | (refine Br.tt ?_ ?_; · decide +kernel) | (refine Br.ff ?_ ?_; · decide +kernel)) | (refine Ck.pre ?_; first | refine Ck.drawn (by kernel_rfl) ?_ | refine Ck.mk rfl ?_) | (refine LetL.pre ?_; first | refine LetL.mk [_] rfl ?_ | refine LetL.mk _ rfl ?_) | refine forceAs.pass ?_ | refine forceEs.pass ?_ | refine forceC.pass ?_))); (try (conv => whnf)))
      refine ⟨rfl, ?_⟩
      have r1 := room_fa (n := L.length + 1) (by omega)
      have a1 := app_fa L f L.length rfl
      have l1 : (L ++ [f]).length = L.length + 1 := by simp
      ((repeat ((conv => whnf); (first | (refine LetN.pre ?_; first | ((conv => arg 1; whnf); refine LetN.mk ?_)) | (refine As.pre ?_; first | refine As.mk rfl ?_ | (refine As.mk ?_ ?_; · decide +kernel) | refine As.mk (andT (nor_self _) rfl) ?_ | refine As.mk (andT (nor_self _) (or_t _)) ?_ | refine As.mk (andT (or_t _) (or_nself _)) ?_ | refine As.mk (andT (or_t _) (or_t _)) ?_ | refine As.mk (andT (nor_self _) (andT (nor_self _) rfl)) ?_ | (refine As.mk ?_ ?_; · ((repeat' (refine andT ?_ ?_)) <;> (first | rfl | assumption | exact decide_eq_true (by omega) | exact decide_eq_true (by dsimp only; omega) | exact decide_eq_true (by simp; omega) | (simp; done))))) | (refine LetV.pre ?_; first | refine LetV.mk (.sc (.int _ _)) rfl ?_ | refine LetV.mk (.sc (.bool _)) rfl ?_ | refine LetV.mk (.sc _) rfl ?_ | refine LetV.mk (.agg _) rfl ?_ | refine LetV.mk (.slm _ _ _ _ _) rfl ?_ | refine LetV.mk (.ro _ _ _) rfl ?_ | refine LetV.mk (.ptr _ _ _ _) rfl ?_ | refine LetV.mk (.clo _ _ _) rfl ?_ | refine LetV.mk (.rp _ _) rfl ?_) | (refine LetI.pre ?_; first | refine LetI.wrap (by omega) (by omega) ?_ | refine LetI.mk _ rfl ?_) | (refine LetB.pre ?_; first | refine LetB.tt rfl ?_ | refine LetB.ff rfl ?_ | refine LetB.tt (by assumption) ?_ | refine LetB.ff (by assumption) ?_ | refine LetB.dect (by omega) ?_ | refine LetB.decf (by omega) ?_ | refine LetB.beqt (by omega) ?_ | refine LetB.beqf (by omega) ?_ | refine LetB.bnet (by omega) ?_ | refine LetB.bnef (by omega) ?_ | refine LetB.mk _ rfl ?_) | (refine Gd.pre ?_; first | refine Gd.run rfl ?_ | refine Gd.pass rfl ?_ | refine Gd.run (by assumption) ?_ | refine Gd.pass (by assumption) ?_ | (refine Gd.run ?_ ?_; · decide +kernel) | (refine Gd.pass ?_ ?_; · decide +kernel) | refine Gd.both ?_) | (refine Br.pre ?_; first | refine Br.tt rfl ?_ | refine Br.ff rfl ?_ | refine Br.tt (by assumption) ?_ | refine Br.ff (by assumption) ?_ | (refine Br.tt ?_ ?_; · decide +kernel) | (refine Br.ff ?_ ?_; · decide +kernel)) | (refine Ck.pre ?_; first | refine Ck.drawn (by kernel_rfl) ?_ | refine Ck.mk rfl ?_) | (refine LetL.pre ?_; first | refine LetL.mk (ty := fty) _ a1 ?_ | refine LetL.mk [_] rfl ?_ | refine LetL.mk _ rfl ?_) | refine forceAs.pass ?_ | refine forceEs.pass ?_ | refine forceC.pass ?_))); (try (conv => whnf)))
      refine ⟨rfl, ⟨[], apT (L ++ [f]), 3⟩, ?_, rfl⟩
      refine SW.trans (SW.box (id := 0) (ty := fsl) (x := .slm _ 3 7 0 _) (y := .slm {} 3 7 0 (L ++ [f]).length) rfl rfl rfl (VLe2.slm_of l1).cle) ?_
      exact SW.mk (fun i => match i with | 2 => 3 | i => i) rfl rfl (aptN _ _ rfl) trivial (haveV.one rfl (haveV.row (pure_fa _) rfl trivial))
    case okA =>
      rintro v H' ⟨rfl, L, hL, rfl⟩
      exact CallOk.mk' rfl rfl rfl (namesAll.map (kvF_pure M) rfl) rfl (ktN ck M L _ rfl rfl) (haveAll.map (kvF_pure M) rfl ⟨rfl, rfl, rfl, trivial⟩)
    case hn =>
      rintro v H' ⟨rfl, L, hL, rfl⟩ q hq hn
      have hnw : newOk (kH ck M) 4 (atCall id (kH ck M) (.tup []) (kT ck M L)).δ = true := by rw [kt_call]; rfl
      have := List.all_eq_true.1 hnw q hq
      rw [show (kH ck M).get q.1 = none from hn] at this
      exact hN q.1 (by simpa using this)
    · rintro e w' ⟨x, rfl, v, H', ⟨rfl, L, hL, rfl⟩, hP⟩
      exact ⟨x, rfl, _, ⟨L, hL, rfl⟩, hP⟩
  case fin =>
    rintro e s' ⟨r, ⟨L, hL, rfl⟩, rfl, rfl⟩
    refine ⟨rfl, ?_⟩
    rw [kt_call]
    refine DRuns.of_VS (VS.of_V T_ok mixed rfl ?_)
    ((repeat ((conv => whnf); (first | (refine LetN.pre ?_; first | ((conv => arg 1; whnf); refine LetN.mk ?_)) | (refine As.pre ?_; first | refine As.mk rfl ?_ | (refine As.mk ?_ ?_; · decide +kernel) | refine As.mk (andT (nor_self _) rfl) ?_ | refine As.mk (andT (nor_self _) (or_t _)) ?_ | refine As.mk (andT (or_t _) (or_nself _)) ?_ | refine As.mk (andT (or_t _) (or_t _)) ?_ | refine As.mk (andT (nor_self _) (andT (nor_self _) rfl)) ?_ | (refine As.mk ?_ ?_; · ((repeat' (refine andT ?_ ?_)) <;> (first | rfl | assumption | exact decide_eq_true (by omega) | exact decide_eq_true (by dsimp only; omega) | exact decide_eq_true (by simp; omega) | (simp; done))))) | (refine LetV.pre ?_; first | refine LetV.mk (.sc (.int _ _)) rfl ?_ | refine LetV.mk (.sc (.bool _)) rfl ?_ | refine LetV.mk (.sc _) rfl ?_ | refine LetV.mk (.agg _) rfl ?_ | refine LetV.mk (.slm _ _ _ _ _) rfl ?_ | refine LetV.mk (.ro _ _ _) rfl ?_ | refine LetV.mk (.ptr _ _ _ _) rfl ?_ | refine LetV.mk (.clo _ _ _) rfl ?_ | refine LetV.mk (.rp _ _) rfl ?_) | (refine LetI.pre ?_; first | refine LetI.wrap (by omega) (by omega) ?_ | refine LetI.mk _ rfl ?_) | (refine LetB.pre ?_; first | refine LetB.tt rfl ?_ | refine LetB.ff rfl ?_ | refine LetB.tt (by assumption) ?_ | refine LetB.ff (by assumption) ?_ | refine LetB.dect (by omega) ?_ | refine LetB.decf (by omega) ?_ | refine LetB.beqt (by omega) ?_ | refine LetB.beqf (by omega) ?_ | refine LetB.bnet (by omega) ?_ | refine LetB.bnef (by omega) ?_ | refine LetB.mk _ rfl ?_) | (refine Gd.pre ?_; first | refine Gd.run rfl ?_ | refine Gd.pass rfl ?_ | refine Gd.run (by assumption) ?_ | refine Gd.pass (by assumption) ?_ | (refine Gd.run ?_ ?_; · decide +kernel) | (refine Gd.pass ?_ ?_; · decide +kernel) | refine Gd.both ?_) | (refine Br.pre ?_; first | refine Br.tt rfl ?_ | refine Br.ff rfl ?_ | refine Br.tt (by assumption) ?_ | refine Br.ff (by assumption) ?_ | (refine Br.tt ?_ ?_; · decide +kernel) | (refine Br.ff ?_ ?_; · decide +kernel)) | (refine Ck.pre ?_; first | refine Ck.drawn (by kernel_rfl) ?_ | refine Ck.mk rfl ?_) | (refine LetL.pre ?_; first | refine LetL.mk [_] rfl ?_ | refine LetL.mk _ rfl ?_) | refine forceAs.pass ?_ | refine forceEs.pass ?_ | refine forceC.pass ?_))); (try (conv => whnf)))
    refine ⟨.slm {} 2 7 0 L.length, sqH ck M L, ⟨L, hL, rfl, rfl⟩, ?_⟩
    exact ⟨⟨[(4, .slm {} 2 7 0 L.length)], sqH ck M L, 3⟩, SW.mk rk2 rfl rfl (sqN ck M L _ rfl) ⟨.refl _, trivial⟩ (haveV.map (kvF_pure M) rfl (haveV.one rfl (haveV.row (pure_fa _) rfl trivial))), .inl rfl, ⟨_, rfl, rfl⟩, rfl, rfl, rfl, trivial⟩
end En
end Go.Proofs.YtgnakhljdjekbaaDoor
namespace Go.Proofs.YtgnakhljdjekbaaDoor
open Go.Proofs.YtgnakhljdjekbaaDoor.Am
set_option maxRecDepth 100000
namespace En
set_option maxHeartbeats 1600000 in
set_option maxRecDepth 100000 in
theorem Collect_D (M : List Fa) (ck : Nat) (hM : M.Nodup) (hl : M.length ≤ 1000) : DFun Tryd.prog 47 2 [keysC] (kmH ck M) (JSeq ck M) := by
  refine DFun.of_D T_ok Tryd.func47 rfl (Nat.le_of_ble_eq_true rfl) ?_
  refine DRuns.seq (DRuns.of_VS (VS.of_V T_ok mixed rfl ?_))
  ((repeat ((conv => whnf); (first | (refine LetN.pre ?_; first | ((conv => arg 1; whnf); refine LetN.mk ?_)) | (refine As.pre ?_; first | refine As.mk rfl ?_ | (refine As.mk ?_ ?_; · decide +kernel) | refine As.mk (andT (nor_self _) rfl) ?_ | refine As.mk (andT (nor_self _) (or_t _)) ?_ | refine As.mk (andT (or_t _) (or_nself _)) ?_ | refine As.mk (andT (or_t _) (or_t _)) ?_ | refine As.mk (andT (nor_self _) (andT (nor_self _) rfl)) ?_ | (refine As.mk ?_ ?_; · ((repeat' (refine andT ?_ ?_)) <;> (first | rfl | assumption | exact decide_eq_true (by omega) | exact decide_eq_true (by dsimp only; omega) | exact decide_eq_true (by simp; omega) | (simp; done))))) | (refine LetV.pre ?_; first | refine LetV.mk (.sc (.int _ _)) rfl ?_ | refine LetV.mk (.sc (.bool _)) rfl ?_ | refine LetV.mk (.sc _) rfl ?_ | refine LetV.mk (.agg _) rfl ?_ | refine LetV.mk (.slm _ _ _ _ _) rfl ?_ | refine LetV.mk (.ro _ _ _) rfl ?_ | refine LetV.mk (.ptr _ _ _ _) rfl ?_ | refine LetV.mk (.clo _ _ _) rfl ?_ | refine LetV.mk (.rp _ _) rfl ?_) | (refine LetI.pre ?_; first | refine LetI.wrap (by omega) (by omega) ?_ | refine LetI.mk _ rfl ?_) | (refine LetB.pre ?_; first | refine LetB.tt rfl ?_ | refine LetB.ff rfl ?_ | refine LetB.tt (by assumption) ?_ | refine LetB.ff (by assumption) ?_ | refine LetB.dect (by omega) ?_ | refine LetB.decf (by omega) ?_ | refine LetB.beqt (by omega) ?_ | refine LetB.beqf (by omega) ?_ | refine LetB.bnet (by omega) ?_ | refine LetB.bnef (by omega) ?_ | refine LetB.mk _ rfl ?_) | (refine Gd.pre ?_; first | refine Gd.run rfl ?_ | refine Gd.pass rfl ?_ | refine Gd.run (by assumption) ?_ | refine Gd.pass (by assumption) ?_ | (refine Gd.run ?_ ?_; · decide +kernel) | (refine Gd.pass ?_ ?_; · decide +kernel) | refine Gd.both ?_) | (refine Br.pre ?_; first | refine Br.tt rfl ?_ | refine Br.ff rfl ?_ | refine Br.tt (by assumption) ?_ | refine Br.ff (by assumption) ?_ | (refine Br.tt ?_ ?_; · decide +kernel) | (refine Br.ff ?_ ?_; · decide +kernel)) | (refine Ck.pre ?_; first | refine Ck.drawn (by kernel_rfl) ?_ | refine Ck.mk rfl ?_) | (refine LetL.pre ?_; first | refine LetL.mk [_] rfl ?_ | refine LetL.mk _ rfl ?_) | refine forceAs.pass ?_ | refine forceEs.pass ?_ | refine forceC.pass ?_))); (try (conv => whnf)))
  refine DRuns.seq (DRuns.opx' T_ok 1 rfl (Nat.le_of_ble_eq_true rfl) rfl ?_)
  ((repeat ((conv => whnf); (first | (refine LetN.pre ?_; first | ((conv => arg 1; whnf); refine LetN.mk ?_)) | (refine As.pre ?_; first | refine As.mk rfl ?_ | (refine As.mk ?_ ?_; · decide +kernel) | refine As.mk (andT (nor_self _) rfl) ?_ | refine As.mk (andT (nor_self _) (or_t _)) ?_ | refine As.mk (andT (or_t _) (or_nself _)) ?_ | refine As.mk (andT (or_t _) (or_t _)) ?_ | refine As.mk (andT (nor_self _) (andT (nor_self _) rfl)) ?_ | (refine As.mk ?_ ?_; · ((repeat' (refine andT ?_ ?_)) <;> (first | rfl | assumption | exact decide_eq_true (by omega) | exact decide_eq_true (by dsimp only; omega) | exact decide_eq_true (by simp; omega) | (simp; done))))) | (refine LetV.pre ?_; first | refine LetV.mk (.sc (.int _ _)) rfl ?_ | refine LetV.mk (.sc (.bool _)) rfl ?_ | refine LetV.mk (.sc _) rfl ?_ | refine LetV.mk (.agg _) rfl ?_ | refine LetV.mk (.slm _ _ _ _ _) rfl ?_ | refine LetV.mk (.ro _ _ _) rfl ?_ | refine LetV.mk (.ptr _ _ _ _) rfl ?_ | refine LetV.mk (.clo _ _ _) rfl ?_ | refine LetV.mk (.rp _ _) rfl ?_) | (refine LetI.pre ?_; first | refine LetI.wrap (by omega) (by omega) ?_ | refine LetI.mk _ rfl ?_) | (refine LetB.pre ?_; first | refine LetB.tt rfl ?_ | refine LetB.ff rfl ?_ | refine LetB.tt (by assumption) ?_ | refine LetB.ff (by assumption) ?_ | refine LetB.dect (by omega) ?_ | refine LetB.decf (by omega) ?_ | refine LetB.beqt (by omega) ?_ | refine LetB.beqf (by omega) ?_ | refine LetB.bnet (by omega) ?_ | refine LetB.bnef (by omega) ?_ | refine LetB.mk _ rfl ?_) | (refine Gd.pre ?_; first | refine Gd.run rfl ?_ | refine Gd.pass rfl ?_ | refine Gd.run (by assumption) ?_ | refine Gd.pass (by assumption) ?_ | (refine Gd.run ?_ ?_; · decide +kernel) | (refine Gd.pass ?_ ?_; · decide +kernel) | refine Gd.both ?_) | (refine Br.pre ?_; first | refine Br.tt rfl ?_ | refine Br.ff rfl ?_ | refine Br.tt (by assumption) ?_ | refine Br.ff (by assumption) ?_ | (refine Br.tt ?_ ?_; · decide +kernel) | (refine Br.ff ?_ ?_; · decide +kernel)) | (refine Ck.pre ?_; first | refine Ck.drawn (by kernel_rfl) ?_ | refine Ck.mk rfl ?_) | (refine LetL.pre ?_; first | refine LetL.mk [_] rfl ?_ | refine LetL.mk _ rfl ?_) | refine forceAs.pass ?_ | refine forceEs.pass ?_ | refine forceC.pass ?_))); (try (conv => whnf)))
  refine OpX.call rfl rfl rfl rfl (by kernel_rfl) (v0 := .slm {} 2 7 0 0) (H0 := sqH ck M []) id (AppendSeq_D M ck hM hl) ?ok0 ?okA ?k
  case ok0 => exact CallOk.mk' rfl rfl rfl (namesAll.map (kvF_pure M) rfl) rfl (sqN ck M [] _ rfl) (haveAll.map (kvF_pure M) rfl ⟨rfl, trivial⟩)
  case okA =>
    rintro v H' ⟨L, hL, rfl, rfl⟩
    exact CallOk.mk' rfl rfl rfl (namesAll.map (kvF_pure M) rfl) rfl (sqN ck M L _ rfl) (haveAll.map (kvF_pure M) rfl ⟨rfl, trivial⟩)
  case k =>
    rintro v H' ⟨L, hL, rfl, rfl⟩
    have e : atCall id (kmH ck M) (.slm {} 2 7 0 L.length) (sqH ck M L) = { v := .slm {} 2 7 0 L.length, D := [0, 1], δ := [(0, some (.map ck (kvF M))), (1, some (.row 1 mty [.mp 0])), (2, some (rwF L))] } := by
      show ({ v := _, D := _, δ := [(0, some (.map ck ((kvF M).map fun x => (x.1, x.2.ren id)))), (1, _), (2, some (.row 7 fty (AV.renL id (L.map fa))))] } : Out) = _
      rw [kv_ren (kvF_pure M), renL_none (pure_fa L)]; rfl
    rw [e]
    refine ⟨rfl, ?_⟩
    ((repeat ((conv => whnf); (first | (refine LetN.pre ?_; first | ((conv => arg 1; whnf); refine LetN.mk ?_)) | (refine As.pre ?_; first | refine As.mk rfl ?_ | (refine As.mk ?_ ?_; · decide +kernel) | refine As.mk (andT (nor_self _) rfl) ?_ | refine As.mk (andT (nor_self _) (or_t _)) ?_ | refine As.mk (andT (or_t _) (or_nself _)) ?_ | refine As.mk (andT (or_t _) (or_t _)) ?_ | refine As.mk (andT (nor_self _) (andT (nor_self _) rfl)) ?_ | (refine As.mk ?_ ?_; · ((repeat' (refine andT ?_ ?_)) <;> (first | rfl | assumption | exact decide_eq_true (by omega) | exact decide_eq_true (by dsimp only; omega) | exact decide_eq_true (by simp; omega) | (simp; done))))) | (refine LetV.pre ?_; first | refine LetV.mk (.sc (.int _ _)) rfl ?_ | refine LetV.mk (.sc (.bool _)) rfl ?_ | refine LetV.mk (.sc _) rfl ?_ | refine LetV.mk (.agg _) rfl ?_ | refine LetV.mk (.slm _ _ _ _ _) rfl ?_ | refine LetV.mk (.ro _ _ _) rfl ?_ | refine LetV.mk (.ptr _ _ _ _) rfl ?_ | refine LetV.mk (.clo _ _ _) rfl ?_ | refine LetV.mk (.rp _ _) rfl ?_) | (refine LetI.pre ?_; first | refine LetI.wrap (by omega) (by omega) ?_ | refine LetI.mk _ rfl ?_) | (refine LetB.pre ?_; first | refine LetB.tt rfl ?_ | refine LetB.ff rfl ?_ | refine LetB.tt (by assumption) ?_ | refine LetB.ff (by assumption) ?_ | refine LetB.dect (by omega) ?_ | refine LetB.decf (by omega) ?_ | refine LetB.beqt (by omega) ?_ | refine LetB.beqf (by omega) ?_ | refine LetB.bnet (by omega) ?_ | refine LetB.bnef (by omega) ?_ | refine LetB.mk _ rfl ?_) | (refine Gd.pre ?_; first | refine Gd.run rfl ?_ | refine Gd.pass rfl ?_ | refine Gd.run (by assumption) ?_ | refine Gd.pass (by assumption) ?_ | (refine Gd.run ?_ ?_; · decide +kernel) | (refine Gd.pass ?_ ?_; · decide +kernel) | refine Gd.both ?_) | (refine Br.pre ?_; first | refine Br.tt rfl ?_ | refine Br.ff rfl ?_ | refine Br.tt (by assumption) ?_ | refine Br.ff (by assumption) ?_ | (refine Br.tt ?_ ?_; · decide +kernel) | (refine Br.ff ?_ ?_; · decide +kernel)) | (refine Ck.pre ?_; first | refine Ck.drawn (by kernel_rfl) ?_ | refine Ck.mk rfl ?_) | (refine LetL.pre ?_; first | refine LetL.mk [_] rfl ?_ | refine LetL.mk _ rfl ?_) | refine forceAs.pass ?_ | refine forceEs.pass ?_ | refine forceC.pass ?_))); (try (conv => whnf)))
    refine DRuns.of_VS (VS.of_V T_ok mixed rfl ?_)
    ((repeat ((conv => whnf); (first | (refine LetN.pre ?_; first | ((conv => arg 1; whnf); refine LetN.mk ?_)) | (refine As.pre ?_; first | refine As.mk rfl ?_ | (refine As.mk ?_ ?_; · decide +kernel) | refine As.mk (andT (nor_self _) rfl) ?_ | refine As.mk (andT (nor_self _) (or_t _)) ?_ | refine As.mk (andT (or_t _) (or_nself _)) ?_ | refine As.mk (andT (or_t _) (or_t _)) ?_ | refine As.mk (andT (nor_self _) (andT (nor_self _) rfl)) ?_ | (refine As.mk ?_ ?_; · ((repeat' (refine andT ?_ ?_)) <;> (first | rfl | assumption | exact decide_eq_true (by omega) | exact decide_eq_true (by dsimp only; omega) | exact decide_eq_true (by simp; omega) | (simp; done))))) | (refine LetV.pre ?_; first | refine LetV.mk (.sc (.int _ _)) rfl ?_ | refine LetV.mk (.sc (.bool _)) rfl ?_ | refine LetV.mk (.sc _) rfl ?_ | refine LetV.mk (.agg _) rfl ?_ | refine LetV.mk (.slm _ _ _ _ _) rfl ?_ | refine LetV.mk (.ro _ _ _) rfl ?_ | refine LetV.mk (.ptr _ _ _ _) rfl ?_ | refine LetV.mk (.clo _ _ _) rfl ?_ | refine LetV.mk (.rp _ _) rfl ?_) | (refine LetI.pre ?_; first | refine LetI.wrap (by omega) (by omega) ?_ | refine LetI.mk _ rfl ?_) | (refine LetB.pre ?_; first | refine LetB.tt rfl ?_ | refine LetB.ff rfl ?_ | refine LetB.tt (by assumption) ?_ | refine LetB.ff (by assumption) ?_ | refine LetB.dect (by omega) ?_ | refine LetB.decf (by omega) ?_ | refine LetB.beqt (by omega) ?_ | refine LetB.beqf (by omega) ?_ | refine LetB.bnet (by omega) ?_ | refine LetB.bnef (by omega) ?_ | refine LetB.mk _ rfl ?_) | (refine Gd.pre ?_; first | refine Gd.run rfl ?_ | refine Gd.pass rfl ?_ | refine Gd.run (by assumption) ?_ | refine Gd.pass (by assumption) ?_ | (refine Gd.run ?_ ?_; · decide +kernel) | (refine Gd.pass ?_ ?_; · decide +kernel) | refine Gd.both ?_) | (refine Br.pre ?_; first | refine Br.tt rfl ?_ | refine Br.ff rfl ?_ | refine Br.tt (by assumption) ?_ | refine Br.ff (by assumption) ?_ | (refine Br.tt ?_ ?_; · decide +kernel) | (refine Br.ff ?_ ?_; · decide +kernel)) | (refine Ck.pre ?_; first | refine Ck.drawn (by kernel_rfl) ?_ | refine Ck.mk rfl ?_) | (refine LetL.pre ?_; first | refine LetL.mk [_] rfl ?_ | refine LetL.mk _ rfl ?_) | refine forceAs.pass ?_ | refine forceEs.pass ?_ | refine forceC.pass ?_))); (try (conv => whnf)))
    refine ⟨.slm {} 2 7 0 L.length, sqH ck M L, ⟨L, hL, rfl, rfl⟩, ?_⟩
    exact ⟨⟨[(2, .slm {} 2 7 0 L.length)], sqH ck M L, 3⟩, SW.mk id rfl rfl (sqN ck M L _ rfl) ⟨.refl _, trivial⟩ (haveV.map (kvF_pure M) rfl (haveV.one rfl (haveV.row (pure_fa _) rfl trivial))), .inl rfl, ⟨_, rfl, rfl⟩, rfl, rfl, rfl, trivial⟩
end En
end Go.Proofs.YtgnakhljdjekbaaDoor
namespace Go.Proofs.YtgnakhljdjekbaaDoor
open Go.Proofs.YtgnakhljdjekbaaDoor.Am
set_option maxRecDepth 100000
namespace En
abbrev u64 (n : Int) : AV := .sc (.int .u64 n)
theorem Len_f : ∀ n : Nat, n ≤ 16 → ∃ v : Int, (0 ≤ v ∧ v ≤ 5) ∧ (0 < n → 0 < v) ∧ AFun Tryd.prog 68 0 [u64 n] [] (int v) []
  | 0, _ => ⟨0, by decide, by decide, AFun.of_calls (evF_sound T_ok mixed 20 _ _ [] 0 _ (by kernel_rfl))⟩
  | 1, _ => ⟨1, by decide, by decide, AFun.of_calls (evF_sound T_ok mixed 20 _ _ [] 0 _ (by kernel_rfl))⟩
  | 2, _ => ⟨2, by decide, by decide, AFun.of_calls (evF_sound T_ok mixed 20 _ _ [] 0 _ (by kernel_rfl))⟩
  | 3, _ => ⟨2, by decide, by decide, AFun.of_calls (evF_sound T_ok mixed 20 _ _ [] 0 _ (by kernel_rfl))⟩
  | 4, _ => ⟨3, by decide, by decide, AFun.of_calls (evF_sound T_ok mixed 20 _ _ [] 0 _ (by kernel_rfl))⟩
  | 5, _ => ⟨3, by decide, by decide, AFun.of_calls (evF_sound T_ok mixed 20 _ _ [] 0 _ (by kernel_rfl))⟩
  | 6, _ => ⟨3, by decide, by decide, AFun.of_calls (evF_sound T_ok mixed 20 _ _ [] 0 _ (by kernel_rfl))⟩
  | 7, _ => ⟨3, by decide, by decide, AFun.of_calls (evF_sound T_ok mixed 20 _ _ [] 0 _ (by kernel_rfl))⟩
  | 8, _ => ⟨4, by decide, by decide, AFun.of_calls (evF_sound T_ok mixed 20 _ _ [] 0 _ (by kernel_rfl))⟩
  | 9, _ => ⟨4, by decide, by decide, AFun.of_calls (evF_sound T_ok mixed 20 _ _ [] 0 _ (by kernel_rfl))⟩
  | 10, _ => ⟨4, by decide, by decide, AFun.of_calls (evF_sound T_ok mixed 20 _ _ [] 0 _ (by kernel_rfl))⟩
  | 11, _ => ⟨4, by decide, by decide, AFun.of_calls (evF_sound T_ok mixed 20 _ _ [] 0 _ (by kernel_rfl))⟩
  | 12, _ => ⟨4, by decide, by decide, AFun.of_calls (evF_sound T_ok mixed 20 _ _ [] 0 _ (by kernel_rfl))⟩
  | 13, _ => ⟨4, by decide, by decide, AFun.of_calls (evF_sound T_ok mixed 20 _ _ [] 0 _ (by kernel_rfl))⟩
  | 14, _ => ⟨4, by decide, by decide, AFun.of_calls (evF_sound T_ok mixed 20 _ _ [] 0 _ (by kernel_rfl))⟩
  | 15, _ => ⟨4, by decide, by decide, AFun.of_calls (evF_sound T_ok mixed 20 _ _ [] 0 _ (by kernel_rfl))⟩
  | 16, _ => ⟨5, by decide, by decide, AFun.of_calls (evF_sound T_ok mixed 20 _ _ [] 0 _ (by kernel_rfl))⟩
  | n + 17, h => absurd h (by omega)
abbrev cmpC : AV := .clo 31 []
theorem pdq_f (l : List Fa) (fl : Fl) (k : Int) (hl : l.length ≤ 12) : AFun Tryd.prog 67 1 [.slm fl 0 7 0 l.length, int 0, int l.length, int k, cmpC] [(0, rwF l)] (.tup []) [(0, rwF (sortS ltF l))] := by
  have hI := Finsertion_f l fl (by omega)
  rw [Fsrt_S] at hI
  refine AFun.of_S T_ok mixed Tryd.func67 rfl (Nat.le_of_ble_eq_true rfl) rfl ?_
  ((repeat ((conv => whnf); (first | (refine LetN.pre ?_; first | ((conv => arg 1; whnf); refine LetN.mk ?_)) | (refine As.pre ?_; first | refine As.mk rfl ?_ | (refine As.mk ?_ ?_; · decide +kernel) | refine As.mk (andT (nor_self _) rfl) ?_ | refine As.mk (andT (nor_self _) (or_t _)) ?_ | refine As.mk (andT (or_t _) (or_nself _)) ?_ | refine As.mk (andT (or_t _) (or_t _)) ?_ | refine As.mk (andT (nor_self _) (andT (nor_self _) rfl)) ?_ | (refine As.mk ?_ ?_; · ((repeat' (refine andT ?_ ?_)) <;> (first | rfl | assumption | exact decide_eq_true (by omega) | exact decide_eq_true (by dsimp only; omega) | exact decide_eq_true (by simp; omega) | (simp; done))))) | (refine LetV.pre ?_; first | refine LetV.mk (.sc (.int _ _)) rfl ?_ | refine LetV.mk (.sc (.bool _)) rfl ?_ | refine LetV.mk (.sc _) rfl ?_ | refine LetV.mk (.agg _) rfl ?_ | refine LetV.mk (.slm _ _ _ _ _) rfl ?_ | refine LetV.mk (.ro _ _ _) rfl ?_ | refine LetV.mk (.ptr _ _ _ _) rfl ?_ | refine LetV.mk (.clo _ _ _) rfl ?_ | refine LetV.mk (.rp _ _) rfl ?_) | (refine LetI.pre ?_; first | refine LetI.wrap (by omega) (by omega) ?_ | refine LetI.mk _ rfl ?_) | (refine LetB.pre ?_; first | refine LetB.tt rfl ?_ | refine LetB.ff rfl ?_ | refine LetB.tt (by assumption) ?_ | refine LetB.ff (by assumption) ?_ | refine LetB.dect (by omega) ?_ | refine LetB.decf (by omega) ?_ | refine LetB.beqt (by omega) ?_ | refine LetB.beqf (by omega) ?_ | refine LetB.bnet (by omega) ?_ | refine LetB.bnef (by omega) ?_ | refine LetB.mk _ rfl ?_) | (refine Gd.pre ?_; first | refine Gd.run rfl ?_ | refine Gd.pass rfl ?_ | refine Gd.run (by assumption) ?_ | refine Gd.pass (by assumption) ?_ | (refine Gd.run ?_ ?_; · decide +kernel) | (refine Gd.pass ?_ ?_; · decide +kernel) | refine Gd.both ?_) | (refine Br.pre ?_; first | refine Br.tt rfl ?_ | refine Br.ff rfl ?_ | refine Br.tt (by assumption) ?_ | refine Br.ff (by assumption) ?_ | (refine Br.tt ?_ ?_; · decide +kernel) | (refine Br.ff ?_ ?_; · decide +kernel)) | (refine Ck.pre ?_; first | refine Ck.drawn (by kernel_rfl) ?_ | refine Ck.mk rfl ?_) | (refine LetL.pre ?_; first | refine LetL.mk [_] rfl ?_ | refine LetL.mk _ rfl ?_) | refine forceAs.pass ?_ | refine forceEs.pass ?_ | refine forceC.pass ?_))); (try (conv => whnf)))
  refine LoopN.round T_ok mixed rfl ?_
  ((repeat ((conv => whnf); (first | (refine LetN.pre ?_; first | ((conv => arg 1; whnf); refine LetN.mk ?_)) | (refine As.pre ?_; first | refine As.mk rfl ?_ | (refine As.mk ?_ ?_; · decide +kernel) | refine As.mk (andT (nor_self _) rfl) ?_ | refine As.mk (andT (nor_self _) (or_t _)) ?_ | refine As.mk (andT (or_t _) (or_nself _)) ?_ | refine As.mk (andT (or_t _) (or_t _)) ?_ | refine As.mk (andT (nor_self _) (andT (nor_self _) rfl)) ?_ | (refine As.mk ?_ ?_; · ((repeat' (refine andT ?_ ?_)) <;> (first | rfl | assumption | exact decide_eq_true (by omega) | exact decide_eq_true (by dsimp only; omega) | exact decide_eq_true (by simp; omega) | (simp; done))))) | (refine LetV.pre ?_; first | refine LetV.mk (.sc (.int _ _)) rfl ?_ | refine LetV.mk (.sc (.bool _)) rfl ?_ | refine LetV.mk (.sc _) rfl ?_ | refine LetV.mk (.agg _) rfl ?_ | refine LetV.mk (.slm _ _ _ _ _) rfl ?_ | refine LetV.mk (.ro _ _ _) rfl ?_ | refine LetV.mk (.ptr _ _ _ _) rfl ?_ | refine LetV.mk (.clo _ _ _) rfl ?_ | refine LetV.mk (.rp _ _) rfl ?_) | (refine LetI.pre ?_; first | refine LetI.wrap (by omega) (by omega) ?_ | refine LetI.mk _ rfl ?_) | (refine LetB.pre ?_; first | refine LetB.tt rfl ?_ | refine LetB.ff rfl ?_ | refine LetB.tt (by assumption) ?_ | refine LetB.ff (by assumption) ?_ | refine LetB.dect (by omega) ?_ | refine LetB.decf (by omega) ?_ | refine LetB.beqt (by omega) ?_ | refine LetB.beqf (by omega) ?_ | refine LetB.bnet (by omega) ?_ | refine LetB.bnef (by omega) ?_ | refine LetB.mk _ rfl ?_) | (refine Gd.pre ?_; first | refine Gd.run rfl ?_ | refine Gd.pass rfl ?_ | refine Gd.run (by assumption) ?_ | refine Gd.pass (by assumption) ?_ | (refine Gd.run ?_ ?_; · decide +kernel) | (refine Gd.pass ?_ ?_; · decide +kernel) | refine Gd.both ?_) | (refine Br.pre ?_; first | refine Br.tt rfl ?_ | refine Br.ff rfl ?_ | refine Br.tt (by assumption) ?_ | refine Br.ff (by assumption) ?_ | (refine Br.tt ?_ ?_; · decide +kernel) | (refine Br.ff ?_ ?_; · decide +kernel)) | (refine Ck.pre ?_; first | refine Ck.drawn (by kernel_rfl) ?_ | refine Ck.mk rfl ?_) | (refine LetL.pre ?_; first | refine LetL.mk (ty := fty) _ (renL_none (pure_fa _)).symm ?_ | refine LetL.mk [_] rfl ?_ | refine LetL.mk _ rfl ?_) | (refine CallN.pre ?_; first | (refine CallN.own id hI (CallOk.mk' rfl rfl rfl (namesAll.row (pure_fa _) rfl) rfl (namesAll.row (pure_fa _) rfl) (haveAll.row (pure_fa _) rfl trivial)) ?_)) | refine forceAs.pass ?_ | refine forceEs.pass ?_ | refine forceC.pass ?_))); (try (conv => whnf)))
  exact ⟨⟨[], [(0, rwF (sortS ltF l))], 1⟩, SW.mk id rfl rfl (namesAll.row (pure_fa _) rfl) trivial (haveV.row (pure_fa _) rfl trivial), .inl rfl, ⟨_, rfl, rfl⟩, rfl, trivial⟩
theorem SortFunc_f (l : List Fa) (fl : Fl) (hl : l.length ≤ 12) : AFun Tryd.prog 48 1 [.slm fl 0 7 0 l.length, cmpC] [(0, rwF l)] (.tup []) [(0, rwF (sortS ltF l))] := by
  obtain ⟨v, _, _, hL⟩ := Len_f l.length (by omega)
  have hw : IntKind.u64.wrap (l.length : Int) = l.length := by rw [IntKind.wrap_u64]; omega
  have hL : AFun Tryd.prog 68 0 [u64 (IntKind.u64.wrap (l.length : Int))] [] (int v) [] := by rw [hw]; exact hL
  have hI := pdq_f l fl v hl
  refine AFun.of_S T_ok mixed Tryd.func48 rfl (Nat.le_of_ble_eq_true rfl) rfl ?_
  ((repeat ((conv => whnf); (first | (refine LetN.pre ?_; first | ((conv => arg 1; whnf); refine LetN.mk ?_)) | (refine As.pre ?_; first | refine As.mk rfl ?_ | (refine As.mk ?_ ?_; · decide +kernel) | refine As.mk (andT (nor_self _) rfl) ?_ | refine As.mk (andT (nor_self _) (or_t _)) ?_ | refine As.mk (andT (or_t _) (or_nself _)) ?_ | refine As.mk (andT (or_t _) (or_t _)) ?_ | refine As.mk (andT (nor_self _) (andT (nor_self _) rfl)) ?_ | (refine As.mk ?_ ?_; · ((repeat' (refine andT ?_ ?_)) <;> (first | rfl | assumption | exact decide_eq_true (by omega) | exact decide_eq_true (by dsimp only; omega) | exact decide_eq_true (by simp; omega) | (simp; done))))) | (refine LetV.pre ?_; first | refine LetV.mk (.sc (.int _ _)) rfl ?_ | refine LetV.mk (.sc (.bool _)) rfl ?_ | refine LetV.mk (.sc _) rfl ?_ | refine LetV.mk (.agg _) rfl ?_ | refine LetV.mk (.slm _ _ _ _ _) rfl ?_ | refine LetV.mk (.ro _ _ _) rfl ?_ | refine LetV.mk (.ptr _ _ _ _) rfl ?_ | refine LetV.mk (.clo _ _ _) rfl ?_ | refine LetV.mk (.rp _ _) rfl ?_) | (refine LetI.pre ?_; first | refine LetI.wrap (by omega) (by omega) ?_ | refine LetI.mk _ rfl ?_) | (refine LetB.pre ?_; first | refine LetB.tt rfl ?_ | refine LetB.ff rfl ?_ | refine LetB.tt (by assumption) ?_ | refine LetB.ff (by assumption) ?_ | refine LetB.dect (by omega) ?_ | refine LetB.decf (by omega) ?_ | refine LetB.beqt (by omega) ?_ | refine LetB.beqf (by omega) ?_ | refine LetB.bnet (by omega) ?_ | refine LetB.bnef (by omega) ?_ | refine LetB.mk _ rfl ?_) | (refine Gd.pre ?_; first | refine Gd.run rfl ?_ | refine Gd.pass rfl ?_ | refine Gd.run (by assumption) ?_ | refine Gd.pass (by assumption) ?_ | (refine Gd.run ?_ ?_; · decide +kernel) | (refine Gd.pass ?_ ?_; · decide +kernel) | refine Gd.both ?_) | (refine Br.pre ?_; first | refine Br.tt rfl ?_ | refine Br.ff rfl ?_ | refine Br.tt (by assumption) ?_ | refine Br.ff (by assumption) ?_ | (refine Br.tt ?_ ?_; · decide +kernel) | (refine Br.ff ?_ ?_; · decide +kernel)) | (refine Ck.pre ?_; first | refine Ck.drawn (by kernel_rfl) ?_ | refine Ck.mk rfl ?_) | (refine LetL.pre ?_; first | refine LetL.mk (ty := fty) _ (renL_none (pure_fa _)).symm ?_ | refine LetL.mk [_] rfl ?_ | refine LetL.mk _ rfl ?_) | (refine CallN.pre ?_; first | refine CallN.pure hL rfl rfl ?_ | (refine CallN.own id hI (CallOk.mk' rfl rfl rfl (namesAll.row (pure_fa _) rfl) rfl (namesAll.row (pure_fa _) rfl) (haveAll.row (pure_fa _) rfl trivial)) ?_)) | refine forceAs.pass ?_ | refine forceEs.pass ?_ | refine forceC.pass ?_))); (try (conv => whnf)))
  exact ⟨⟨[], [(0, rwF (sortS ltF l))], 1⟩, SW.mk id rfl rfl (namesAll.row (pure_fa _) rfl) trivial (haveV.row (pure_fa _) rfl trivial), .inr rfl, ⟨_, rfl, rfl⟩, rfl, trivial⟩
def rs2 : Nat → Nat | 0 => 2 | i => i + 7
set_option maxHeartbeats 1600000 in
set_option maxRecDepth 100000 in
theorem SortedFunc_f (M : List Fa) (ck : Nat) (hM : M.Nodup) (hl : M.length ≤ 12) : AFun Tryd.prog 32 2 [keysC, cmpC] (kmH ck M) (.slm {} 2 7 0 (sortS ltF M).length) (sqH ck M (sortS ltF M)) := by
  refine AFun.of_DFun (J := fun v H' => v = .slm {} 2 7 0 (sortS ltF M).length ∧ H' = sqH ck M (sortS ltF M)) ?_ fun v1 H1 h => h
  refine DFun.of_D T_ok Tryd.func32 rfl (Nat.le_of_ble_eq_true rfl) ?_
  refine DRuns.seq (DRuns.of_VS (VS.of_V T_ok mixed rfl ?_))
  ((repeat ((conv => whnf); (first | (refine LetN.pre ?_; first | ((conv => arg 1; whnf); refine LetN.mk ?_)) | (refine As.pre ?_; first | refine As.mk rfl ?_ | (refine As.mk ?_ ?_; · decide +kernel) | refine As.mk (andT (nor_self _) rfl) ?_ | refine As.mk (andT (nor_self _) (or_t _)) ?_ | refine As.mk (andT (or_t _) (or_nself _)) ?_ | refine As.mk (andT (or_t _) (or_t _)) ?_ | refine As.mk (andT (nor_self _) (andT (nor_self _) rfl)) ?_ | (refine As.mk ?_ ?_; · ((repeat' (refine andT ?_ ?_)) <;> (first | rfl | assumption | exact decide_eq_true (by omega) | exact decide_eq_true (by dsimp only; omega) | exact decide_eq_true (by simp; omega) | (simp; done))))) | (refine LetV.pre ?_; first | refine LetV.mk (.sc (.int _ _)) rfl ?_ | refine LetV.mk (.sc (.bool _)) rfl ?_ | refine LetV.mk (.sc _) rfl ?_ | refine LetV.mk (.agg _) rfl ?_ | refine LetV.mk (.slm _ _ _ _ _) rfl ?_ | refine LetV.mk (.ro _ _ _) rfl ?_ | refine LetV.mk (.ptr _ _ _ _) rfl ?_ | refine LetV.mk (.clo _ _ _) rfl ?_ | refine LetV.mk (.rp _ _) rfl ?_) | (refine LetI.pre ?_; first | refine LetI.wrap (by omega) (by omega) ?_ | refine LetI.mk _ rfl ?_) | (refine LetB.pre ?_; first | refine LetB.tt rfl ?_ | refine LetB.ff rfl ?_ | refine LetB.tt (by assumption) ?_ | refine LetB.ff (by assumption) ?_ | refine LetB.dect (by omega) ?_ | refine LetB.decf (by omega) ?_ | refine LetB.beqt (by omega) ?_ | refine LetB.beqf (by omega) ?_ | refine LetB.bnet (by omega) ?_ | refine LetB.bnef (by omega) ?_ | refine LetB.mk _ rfl ?_) | (refine Gd.pre ?_; first | refine Gd.run rfl ?_ | refine Gd.pass rfl ?_ | refine Gd.run (by assumption) ?_ | refine Gd.pass (by assumption) ?_ | (refine Gd.run ?_ ?_; · decide +kernel) | (refine Gd.pass ?_ ?_; · decide +kernel) | refine Gd.both ?_) | (refine Br.pre ?_; first | refine Br.tt rfl ?_ | refine Br.ff rfl ?_ | refine Br.tt (by assumption) ?_ | refine Br.ff (by assumption) ?_ | (refine Br.tt ?_ ?_; · decide +kernel) | (refine Br.ff ?_ ?_; · decide +kernel)) | (refine Ck.pre ?_; first | refine Ck.drawn (by kernel_rfl) ?_ | refine Ck.mk rfl ?_) | (refine LetL.pre ?_; first | refine LetL.mk [_] rfl ?_ | refine LetL.mk _ rfl ?_) | refine forceAs.pass ?_ | refine forceEs.pass ?_ | refine forceC.pass ?_))); (try (conv => whnf)))
  refine DRuns.seq (DRuns.opx' T_ok 1 rfl (Nat.le_of_ble_eq_true rfl) rfl ?_)
  ((repeat ((conv => whnf); (first | (refine LetN.pre ?_; first | ((conv => arg 1; whnf); refine LetN.mk ?_)) | (refine As.pre ?_; first | refine As.mk rfl ?_ | (refine As.mk ?_ ?_; · decide +kernel) | refine As.mk (andT (nor_self _) rfl) ?_ | refine As.mk (andT (nor_self _) (or_t _)) ?_ | refine As.mk (andT (or_t _) (or_nself _)) ?_ | refine As.mk (andT (or_t _) (or_t _)) ?_ | refine As.mk (andT (nor_self _) (andT (nor_self _) rfl)) ?_ | (refine As.mk ?_ ?_; · ((repeat' (refine andT ?_ ?_)) <;> (first | rfl | assumption | exact decide_eq_true (by omega) | exact decide_eq_true (by dsimp only; omega) | exact decide_eq_true (by simp; omega) | (simp; done))))) | (refine LetV.pre ?_; first | refine LetV.mk (.sc (.int _ _)) rfl ?_ | refine LetV.mk (.sc (.bool _)) rfl ?_ | refine LetV.mk (.sc _) rfl ?_ | refine LetV.mk (.agg _) rfl ?_ | refine LetV.mk (.slm _ _ _ _ _) rfl ?_ | refine LetV.mk (.ro _ _ _) rfl ?_ | refine LetV.mk (.ptr _ _ _ _) rfl ?_ | refine LetV.mk (.clo _ _ _) rfl ?_ | refine LetV.mk (.rp _ _) rfl ?_) | (refine LetI.pre ?_; first | refine LetI.wrap (by omega) (by omega) ?_ | refine LetI.mk _ rfl ?_) | (refine LetB.pre ?_; first | refine LetB.tt rfl ?_ | refine LetB.ff rfl ?_ | refine LetB.tt (by assumption) ?_ | refine LetB.ff (by assumption) ?_ | refine LetB.dect (by omega) ?_ | refine LetB.decf (by omega) ?_ | refine LetB.beqt (by omega) ?_ | refine LetB.beqf (by omega) ?_ | refine LetB.bnet (by omega) ?_ | refine LetB.bnef (by omega) ?_ | refine LetB.mk _ rfl ?_) | (refine Gd.pre ?_; first | refine Gd.run rfl ?_ | refine Gd.pass rfl ?_ | refine Gd.run (by assumption) ?_ | refine Gd.pass (by assumption) ?_ | (refine Gd.run ?_ ?_; · decide +kernel) | (refine Gd.pass ?_ ?_; · decide +kernel) | refine Gd.both ?_) | (refine Br.pre ?_; first | refine Br.tt rfl ?_ | refine Br.ff rfl ?_ | refine Br.tt (by assumption) ?_ | refine Br.ff (by assumption) ?_ | (refine Br.tt ?_ ?_; · decide +kernel) | (refine Br.ff ?_ ?_; · decide +kernel)) | (refine Ck.pre ?_; first | refine Ck.drawn (by kernel_rfl) ?_ | refine Ck.mk rfl ?_) | (refine LetL.pre ?_; first | refine LetL.mk [_] rfl ?_ | refine LetL.mk _ rfl ?_) | refine forceAs.pass ?_ | refine forceEs.pass ?_ | refine forceC.pass ?_))); (try (conv => whnf)))
  refine OpX.call rfl rfl rfl rfl (by kernel_rfl) (v0 := .slm {} 2 7 0 0) (H0 := sqH ck M []) id (Collect_D M ck hM (by omega)) ?ok0 ?okA ?k
  case ok0 => exact CallOk.mk' rfl rfl rfl (namesAll.map (kvF_pure M) rfl) rfl (sqN ck M [] _ rfl) (haveAll.map (kvF_pure M) rfl ⟨rfl, trivial⟩)
  case okA =>
    rintro v H' ⟨L, hL, rfl, rfl⟩
    exact CallOk.mk' rfl rfl rfl (namesAll.map (kvF_pure M) rfl) rfl (sqN ck M L _ rfl) (haveAll.map (kvF_pure M) rfl ⟨rfl, trivial⟩)
  case k =>
    rintro v H' ⟨L, ⟨hL, hm⟩, rfl, rfl⟩
    have e : atCall id (kmH ck M) (.slm {} 2 7 0 L.length) (sqH ck M L) = { v := .slm {} 2 7 0 L.length, D := [0, 1], δ := [(0, some (.map ck (kvF M))), (1, some (.row 1 mty [.mp 0])), (2, some (rwF L))] } := by
      show ({ v := _, D := _, δ := [(0, some (.map ck ((kvF M).map fun x => (x.1, x.2.ren id)))), (1, _), (2, some (.row 7 fty (AV.renL id (L.map fa))))] } : Out) = _
      rw [kv_ren (kvF_pure M), renL_none (pure_fa L)]; rfl
    rw [e]
    have hS : sortS ltF L = sortS ltF M := S_same hL hM hm
    have hlL : L.length = M.length := Nat.le_antisymm (nodup_len hL fun x hx => (hm x).1 hx) (nodup_len hM fun x hx => (hm x).2 hx)
    have hlS : (sortS ltF M).length = L.length := by rw [hlL]; exact (S_perm ltF M).length_eq
    have hF := SortFunc_f L {} (by omega)
    rw [hS] at hF
    rw [hlS]
    generalize sortS ltF M = S at hF hlS
    refine ⟨rfl, ?_⟩
    ((repeat ((conv => whnf); (first | (refine LetN.pre ?_; first | ((conv => arg 1; whnf); refine LetN.mk ?_)) | (refine As.pre ?_; first | refine As.mk rfl ?_ | (refine As.mk ?_ ?_; · decide +kernel) | refine As.mk (andT (nor_self _) rfl) ?_ | refine As.mk (andT (nor_self _) (or_t _)) ?_ | refine As.mk (andT (or_t _) (or_nself _)) ?_ | refine As.mk (andT (or_t _) (or_t _)) ?_ | refine As.mk (andT (nor_self _) (andT (nor_self _) rfl)) ?_ | (refine As.mk ?_ ?_; · ((repeat' (refine andT ?_ ?_)) <;> (first | rfl | assumption | exact decide_eq_true (by omega) | exact decide_eq_true (by dsimp only; omega) | exact decide_eq_true (by simp; omega) | (simp; done))))) | (refine LetV.pre ?_; first | refine LetV.mk (.sc (.int _ _)) rfl ?_ | refine LetV.mk (.sc (.bool _)) rfl ?_ | refine LetV.mk (.sc _) rfl ?_ | refine LetV.mk (.agg _) rfl ?_ | refine LetV.mk (.slm _ _ _ _ _) rfl ?_ | refine LetV.mk (.ro _ _ _) rfl ?_ | refine LetV.mk (.ptr _ _ _ _) rfl ?_ | refine LetV.mk (.clo _ _ _) rfl ?_ | refine LetV.mk (.rp _ _) rfl ?_) | (refine LetI.pre ?_; first | refine LetI.wrap (by omega) (by omega) ?_ | refine LetI.mk _ rfl ?_) | (refine LetB.pre ?_; first | refine LetB.tt rfl ?_ | refine LetB.ff rfl ?_ | refine LetB.tt (by assumption) ?_ | refine LetB.ff (by assumption) ?_ | refine LetB.dect (by omega) ?_ | refine LetB.decf (by omega) ?_ | refine LetB.beqt (by omega) ?_ | refine LetB.beqf (by omega) ?_ | refine LetB.bnet (by omega) ?_ | refine LetB.bnef (by omega) ?_ | refine LetB.mk _ rfl ?_) | (refine Gd.pre ?_; first | refine Gd.run rfl ?_ | refine Gd.pass rfl ?_ | refine Gd.run (by assumption) ?_ | refine Gd.pass (by assumption) ?_ | (refine Gd.run ?_ ?_; · decide +kernel) | (refine Gd.pass ?_ ?_; · decide +kernel) | refine Gd.both ?_) | (refine Br.pre ?_; first | refine Br.tt rfl ?_ | refine Br.ff rfl ?_ | refine Br.tt (by assumption) ?_ | refine Br.ff (by assumption) ?_ | (refine Br.tt ?_ ?_; · decide +kernel) | (refine Br.ff ?_ ?_; · decide +kernel)) | (refine Ck.pre ?_; first | refine Ck.drawn (by kernel_rfl) ?_ | refine Ck.mk rfl ?_) | (refine LetL.pre ?_; first | refine LetL.mk [_] rfl ?_ | refine LetL.mk _ rfl ?_) | refine forceAs.pass ?_ | refine forceEs.pass ?_ | refine forceC.pass ?_))); (try (conv => whnf)))
    refine DRuns.of_VS (VS.of_V T_ok mixed rfl ?_)
    ((repeat ((conv => whnf); (first | (refine LetN.pre ?_; first | ((conv => arg 1; whnf); refine LetN.mk ?_)) | (refine As.pre ?_; first | refine As.mk rfl ?_ | (refine As.mk ?_ ?_; · decide +kernel) | refine As.mk (andT (nor_self _) rfl) ?_ | refine As.mk (andT (nor_self _) (or_t _)) ?_ | refine As.mk (andT (or_t _) (or_nself _)) ?_ | refine As.mk (andT (or_t _) (or_t _)) ?_ | refine As.mk (andT (nor_self _) (andT (nor_self _) rfl)) ?_ | (refine As.mk ?_ ?_; · ((repeat' (refine andT ?_ ?_)) <;> (first | rfl | assumption | exact decide_eq_true (by omega) | exact decide_eq_true (by dsimp only; omega) | exact decide_eq_true (by simp; omega) | (simp; done))))) | (refine LetV.pre ?_; first | refine LetV.mk (.sc (.int _ _)) rfl ?_ | refine LetV.mk (.sc (.bool _)) rfl ?_ | refine LetV.mk (.sc _) rfl ?_ | refine LetV.mk (.agg _) rfl ?_ | refine LetV.mk (.slm _ _ _ _ _) rfl ?_ | refine LetV.mk (.ro _ _ _) rfl ?_ | refine LetV.mk (.ptr _ _ _ _) rfl ?_ | refine LetV.mk (.clo _ _ _) rfl ?_ | refine LetV.mk (.rp _ _) rfl ?_) | (refine LetI.pre ?_; first | refine LetI.wrap (by omega) (by omega) ?_ | refine LetI.mk _ rfl ?_) | (refine LetB.pre ?_; first | refine LetB.tt rfl ?_ | refine LetB.ff rfl ?_ | refine LetB.tt (by assumption) ?_ | refine LetB.ff (by assumption) ?_ | refine LetB.dect (by omega) ?_ | refine LetB.decf (by omega) ?_ | refine LetB.beqt (by omega) ?_ | refine LetB.beqf (by omega) ?_ | refine LetB.bnet (by omega) ?_ | refine LetB.bnef (by omega) ?_ | refine LetB.mk _ rfl ?_) | (refine Gd.pre ?_; first | refine Gd.run rfl ?_ | refine Gd.pass rfl ?_ | refine Gd.run (by assumption) ?_ | refine Gd.pass (by assumption) ?_ | (refine Gd.run ?_ ?_; · decide +kernel) | (refine Gd.pass ?_ ?_; · decide +kernel) | refine Gd.both ?_) | (refine Br.pre ?_; first | refine Br.tt rfl ?_ | refine Br.ff rfl ?_ | refine Br.tt (by assumption) ?_ | refine Br.ff (by assumption) ?_ | (refine Br.tt ?_ ?_; · decide +kernel) | (refine Br.ff ?_ ?_; · decide +kernel)) | (refine Ck.pre ?_; first | refine Ck.drawn (by kernel_rfl) ?_ | refine Ck.mk rfl ?_) | (refine LetL.pre ?_; first | refine LetL.mk (ty := fty) _ (renL_none (pure_fa _)).symm ?_ | refine LetL.mk [_] rfl ?_ | refine LetL.mk _ rfl ?_) | (refine CallN.pre ?_; first | (refine CallN.own rs2 hF (CallOk.mk' rfl rfl rfl (namesAll.row (pure_fa _) rfl) rfl (namesAll.row (pure_fa _) rfl) (haveAll.row (pure_fa _) rfl trivial)) ?_)) | refine forceAs.pass ?_ | refine forceEs.pass ?_ | refine forceC.pass ?_))); (try (conv => whnf)))


    refine ⟨_, _, ⟨rfl, rfl⟩, ?_⟩
    exact ⟨⟨[(4, .slm {} 2 7 0 L.length)], sqH ck M S, 3⟩, SW.mk id rfl rfl (sqN ck M S _ rfl) ⟨.refl _, trivial⟩ (haveV.map (kvF_pure M) rfl (haveV.one rfl (haveV.row (pure_fa _) rfl trivial))), .inl rfl, ⟨_, rfl, rfl⟩, rfl, rfl, rfl, trivial⟩
end En
end Go.Proofs.YtgnakhljdjekbaaDoor
namespace Go.Proofs.YtgnakhljdjekbaaDoor
open Go.Proofs.YtgnakhljdjekbaaDoor.Am
set_option maxRecDepth 100000
namespace En
/-! ### Facts as keys -/
abbrev okI (n : Int) : Prop := -9223372036854775808 ≤ n ∧ n ≤ 9223372036854775807
/-- The numbers of a fact fit. -/
abbrev okF (f : Fa) : Prop := okI f.kind ∧ okI f.student ∧ okI f.id ∧ okI f.term ∧ okI f.n ∧ okI f.school ∧ f.code.size ≤ maxLen
theorem litsF_int {n : Int} (d : Nat) (h : okI n) : Tryd.prog.keyLits (d + 1) 3 [.int .i64 n] = some [.int .i64 n] := by
  have hu : Tryd.prog.underlying 3 = some (.int .i64) := TT.Ok.int T_ok (t := 3) rfl rfl
  have hw : (Lit.int .i64 n).wf = true := by
    simp only [Lit.wf, Bool.and_eq_true, decide_eq_true_eq]
    exact h
  simp [Program.keyLits, hu, hw]
theorem litsF_str {s : ByteArray} (d : Nat) (h : s.size ≤ maxLen) : Tryd.prog.keyLits (d + 1) 9 [.string s] = some [.string s.data.toList] := by
  have hu : Tryd.prog.underlying 9 = some .string := TT.Ok.str T_ok (t := 9) rfl rfl
  simp [Program.keyLits, hu, h]
theorem litsF_course {n : Int} {s : ByteArray} (d : Nat) (h : okI n) (hs : s.size ≤ maxLen) : (Tryd.prog.keyLits (d + 2) 29 [.int .i64 n, .string s]).isSome = true := by
  obtain ⟨fs, hu, hl⟩ := TT.Ok.struct T_ok (t := 29) rfl rfl
  have hcell : Tryd.prog.cellsOf 29 = 2 := TT.Ok.cellsOf T_ok (t := 29) rfl
  have hc3 : Tryd.prog.cellsOf 3 = 1 := TT.Ok.cellsOf T_ok (t := 3) rfl
  have hc9 : Tryd.prog.cellsOf 9 = 1 := TT.Ok.cellsOf T_ok (t := 9) rfl
  have hb : noBlank Tryd.prog 29 = true := by kernel_rfl
  unfold noBlank at hb
  rw [hu] at hb
  simp only at hb
  have hb2 : fs.all (fun f => f.name != "_") = true := by rw [← Array.all_toList]; exact hb
  unfold Program.keyLits
  simp only [hu, hcell, hb2]
  have h3 : ∃ a b, fs.toList = [a, b] ∧ (a.offset = 0 ∧ a.type = 3) ∧ b.offset = 1 ∧ b.type = 9 := by
    generalize fs.toList = l at hl
    rcases l with _ | ⟨a, _ | ⟨b, _ | ⟨c, l⟩⟩⟩
    all_goals simp at hl
    exact ⟨a, b, rfl, hl.1, hl.2⟩
  obtain ⟨a, b, e, ⟨a1, a2⟩, b1, b2⟩ := h3
  rw [e]
  have q1 := litsF_int d h
  have q2 := litsF_str d hs
  simp [a1, a2, b1, b2, hc3, hc9, q1, q2]
theorem key_fact {f : Fa} (h : okF f) : keyB Tryd.prog 31 (kyF f) = true := by
  obtain ⟨h1, h2, h3, h4, h5, h6, h7⟩ := h
  obtain ⟨fs, hu, hl⟩ := TT.Ok.struct T_ok (t := 31) rfl rfl
  have hcell : Tryd.prog.cellsOf 31 = 7 := TT.Ok.cellsOf T_ok (t := 31) rfl
  have hc3 : Tryd.prog.cellsOf 3 = 1 := TT.Ok.cellsOf T_ok (t := 3) rfl
  have hcc : Tryd.prog.cellsOf 29 = 2 := TT.Ok.cellsOf T_ok (t := 29) rfl
  have hb : noBlank Tryd.prog 31 = true := by kernel_rfl
  have hk : Tryd.prog.keyType 31 = true := by kernel_rfl
  have hd : ∃ d, Tryd.prog.types.size = d + 2 := ⟨Tryd.prog.types.size - 2, by
    have h0 : decide (1 < Tryd.prog.types.size) = true := by kernel_rfl
    have h1 := of_decide_eq_true h0
    omega⟩
  obtain ⟨d, hd⟩ := hd
  unfold noBlank at hb
  rw [hu] at hb
  simp only at hb
  have hb2 : fs.all (fun f => f.name != "_") = true := by rw [← Array.all_toList]; exact hb
  unfold keyB keyOf
  simp only [hu, hk, Value.formed, hcell, hd]
  unfold Program.keyLits
  simp only [hu, hcell, hb2, Value.cells]
  have h8 : ∃ a b c d e g, fs.toList = [a, b, c, d, e, g] ∧ (a.offset = 0 ∧ a.type = 3) ∧ (b.offset = 1 ∧ b.type = 3) ∧ (c.offset = 2 ∧ c.type = 3) ∧ (d.offset = 3 ∧ d.type = 3) ∧ (e.offset = 4 ∧ e.type = 3) ∧ g.offset = 5 ∧ g.type = 29 := by
    generalize fs.toList = l at hl
    rcases l with _ | ⟨a, _ | ⟨b, _ | ⟨c, _ | ⟨d, _ | ⟨e, _ | ⟨g, _ | ⟨i, l⟩⟩⟩⟩⟩⟩⟩
    all_goals simp at hl
    obtain ⟨l1, l2, l3, l4, l5, l6⟩ := hl
    exact ⟨a, b, c, d, e, g, rfl, l1, l2, l3, l4, l5, l6⟩
  obtain ⟨a, b, c, x, e, g, eq, ⟨a1, a2⟩, ⟨b1, b2⟩, ⟨c1, c2⟩, ⟨x1, x2⟩, ⟨e1, e2⟩, g1, g2⟩ := h8
  rw [eq]
  have q1 := litsF_int (d + 1) h1
  have q2 := litsF_int (d + 1) h2
  have q3 := litsF_int (d + 1) h3
  have q4 := litsF_int (d + 1) h4
  have q5 := litsF_int (d + 1) h5
  have q6 := litsF_course d h6 h7
  obtain ⟨z, hz⟩ := Option.isSome_iff_exists.1 q6
  simp [a1, a2, b1, b2, c1, c2, x1, x2, e1, e2, g1, g2, hc3, hcc, q1, q2, q3, q4, q5, hz]
theorem keys_F {M : List Fa} (h : ∀ x ∈ M, okF x) {f : Fa} (hf : okF f) : (keyB Tryd.prog 31 (kyF f) && (kvF M).all fun x => keyB Tryd.prog 31 x.1) = true := by
  rw [key_fact hf, Bool.true_and]
  refine List.all_eq_true.2 fun x hx => ?_
  obtain ⟨y, hy, rfl⟩ := List.mem_map.1 hx
  exact key_fact (h y hy)
end En
end Go.Proofs.YtgnakhljdjekbaaDoor
namespace Go.Proofs.YtgnakhljdjekbaaDoor
open Go.Proofs.YtgnakhljdjekbaaDoor.Am
set_option maxRecDepth 100000
namespace En
/-! ### What one list has and another one lacks -/
def addM (M : List Fa) (f : Fa) : List Fa := if f ∈ M then M else M ++ [f]
/-- The facts of a, each once, without those of b, in their order. -/
def setP (a b : List Fa) : List Fa := b.foldl (fun M f => M.erase f) (a.foldl addM [])
def misP (a b : List Fa) : List Fa := sortS ltF (setP a b)
theorem add_mem {M : List Fa} {f x : Fa} : x ∈ addM M f ↔ x ∈ M ∨ x = f := by
  unfold addM
  split
  · constructor
    · exact .inl
    · rintro (h | rfl)
      · exact h
      · assumption
  · rw [List.mem_append, List.mem_singleton]
theorem add_nodup {M : List Fa} {f : Fa} (h : M.Nodup) : (addM M f).Nodup := by
  unfold addM
  split
  · exact h
  · rename_i hf
    refine List.nodup_append.2 ⟨h, List.pairwise_singleton _ _, fun a ha b hb => ?_⟩
    rw [List.mem_singleton.1 hb]
    rintro rfl
    exact hf ha
theorem adds_spec : ∀ (a M : List Fa), M.Nodup → (a.foldl addM M).Nodup ∧ ∀ x, x ∈ a.foldl addM M ↔ x ∈ M ∨ x ∈ a
  | [], M, h => ⟨h, fun x => by simp⟩
  | f :: a, M, h => by
    obtain ⟨h1, h2⟩ := adds_spec a (addM M f) (add_nodup h)
    refine ⟨h1, fun x => ?_⟩
    rw [List.foldl_cons, h2, add_mem, List.mem_cons, or_assoc]
theorem dels_spec : ∀ (b M : List Fa), M.Nodup → (b.foldl (fun M f => M.erase f) M).Nodup ∧ ∀ x, x ∈ b.foldl (fun M f => M.erase f) M ↔ x ∈ M ∧ x ∉ b
  | [], M, h => ⟨h, fun x => by simp⟩
  | f :: b, M, h => by
    obtain ⟨h1, h2⟩ := dels_spec b (M.erase f) (h.erase f)
    refine ⟨h1, fun x => ?_⟩
    rw [List.foldl_cons, h2, h.mem_erase_iff, List.mem_cons, not_or]
    exact ⟨fun ⟨⟨a, b⟩, c⟩ => ⟨b, a, c⟩, fun ⟨a, b, c⟩ => ⟨⟨b, a⟩, c⟩⟩
theorem set_spec (a b : List Fa) : (setP a b).Nodup ∧ ∀ x, x ∈ setP a b ↔ x ∈ a ∧ x ∉ b := by
  obtain ⟨h1, h2⟩ := adds_spec a [] List.nodup_nil
  obtain ⟨h3, h4⟩ := dels_spec b _ h1
  refine ⟨h3, fun x => ?_⟩
  rw [setP, h4, h2]
  simp
theorem mis_spec (a b : List Fa) : upF (misP a b) ∧ ∀ x, x ∈ misP a b ↔ x ∈ a ∧ x ∉ b :=
  ⟨S_up (set_spec a b).1, fun x => by rw [misP, S_mem, (set_spec a b).2]⟩
theorem set_len (a b : List Fa) : (setP a b).length ≤ a.length := nodup_len (set_spec a b).1 fun x hx => (((set_spec a b).2 x).1 hx).1
theorem mis_len (a b : List Fa) : (misP a b).length ≤ a.length := by
  rw [misP, (S_perm ltF _).length_eq]; exact set_len a b
/-! Where a fact stands in the map. -/
theorem kvF_some {M : List Fa} {f : Fa} (h : f ∈ M) : ∃ i, findOk (kvF M) (kyF f) (some i) ∧ (kvF M).set i (kyF f, bool true) = kvF M ∧ (kvF M).eraseIdx i = kvF (M.erase f) := by
  induction M with
  | nil => exact absurd h List.not_mem_nil
  | cons x M ih =>
    by_cases e : x = f
    · subst e
      exact ⟨0, ⟨bool true, rfl⟩, rfl, by rw [List.erase_cons_head]; rfl⟩
    · obtain ⟨i, ⟨v, h1⟩, h2, h3⟩ := ih ((List.mem_cons.1 h).resolve_left fun g => e g.symm)
      refine ⟨i + 1, ⟨v, h1⟩, ?_, ?_⟩
      · show (kyF x, bool true) :: (kvF M).set i (kyF f, bool true) = _
        rw [h2]; rfl
      · rw [List.erase_cons_tail (by simpa using e)]
        show (kyF x, bool true) :: (kvF M).eraseIdx i = _
        rw [h3]; rfl
theorem kvF_none {M : List Fa} {f : Fa} (h : f ∉ M) : findOk (kvF M) (kyF f) none := fun y hy => by
  obtain ⟨x, hx, rfl⟩ := List.mem_map.1 hy
  intro e
  exact h (ky_inj e ▸ hx)
theorem fa_ld {l : List Fa} {k : Nat} (h : k < l.length) : fa (l.getD k fa0) = (l.map fa).getD k (.sc undef) := mapD fa0 h
theorem foldl_at {α β : Type} (g : β → α → β) (b : β) {l : List α} {k : Nat} (h : k < l.length) (d : α) : (l.take (k + 1)).foldl g b = g ((l.take k).foldl g b) (l.getD k d) := by
  rw [List.take_succ_eq_append_getElem h, List.foldl_append, List.getD_eq_getElem?_getD, List.getElem?_eq_getElem h]; rfl
abbrev m1S (a b : List Fa) (f1 f2 : Fl) : Nat × Nat × List Fa → AS
  | (k, ck, M) => ⟨[(1, .ro f2 7 (b.map fa)), (5, .mp 0), (11, .ro f1 7 (a.map fa)), (12, int a.length), (13, int k)], [(0, .map ck (kvF M))], 1⟩
abbrev m2S (b : List Fa) (f2 : Fl) : Nat × Nat × List Fa → AS
  | (k, ck, M) => ⟨[(5, .mp 0), (20, .ro f2 7 (b.map fa)), (21, int b.length), (22, int k)], [(0, .map ck (kvF M))], 1⟩
theorem mN (ck : Nat) (M : List Fa) (ok : Nat → Bool) : namesAll ok [(0, .map ck (kvF M))] = true := namesAll.map (kvF_pure M) rfl
theorem foldl_ok {a : List Fa} (h : ∀ x ∈ a, okF x) : ∀ x ∈ a.foldl addM [], okF x := fun x hx => by
  rcases ((adds_spec a [] List.nodup_nil).2 x).1 hx with h1 | h1
  · exact absurd h1 List.not_mem_nil
  · exact h x h1
set_option maxHeartbeats 1600000 in
set_option maxRecDepth 100000 in
theorem missing_s (a b : List Fa) (f1 f2 : Fl) (ha : a.length ≤ 12) (hb : b.length ≤ 1000) (ka : ∀ x ∈ a, okF x) (kb : ∀ x ∈ b, okF x) : AFun Tryd.prog 19 0 [.ro f1 7 (a.map fa), .ro f2 7 (b.map fa)] [] (.slm {} 0 7 0 (misP a b).length) [(0, rwF (misP a b))] := by
  refine AFun.of_S T_ok mixed Tryd.func19 rfl (Nat.le_of_ble_eq_true rfl) rfl ?_
  have hma : (a.map fa).length = a.length := List.length_map _
  have hmb : (b.map fa).length = b.length := List.length_map _
  ((repeat ((conv => whnf); (first | (refine LetN.pre ?_; first | ((conv => arg 1; whnf); refine LetN.mk ?_)) | (refine As.pre ?_; first | refine As.mk rfl ?_ | (refine As.mk ?_ ?_; · decide +kernel) | refine As.mk (andT (nor_self _) rfl) ?_ | refine As.mk (andT (nor_self _) (or_t _)) ?_ | refine As.mk (andT (or_t _) (or_nself _)) ?_ | refine As.mk (andT (or_t _) (or_t _)) ?_ | refine As.mk (andT (nor_self _) (andT (nor_self _) rfl)) ?_ | (refine As.mk ?_ ?_; · ((repeat' (refine andT ?_ ?_)) <;> (first | rfl | assumption | exact decide_eq_true (by omega) | exact decide_eq_true (by dsimp only; omega) | exact decide_eq_true (by simp; omega) | (simp; done))))) | (refine LetV.pre ?_; first | refine LetV.mk (.sc (.int _ _)) rfl ?_ | refine LetV.mk (.sc (.bool _)) rfl ?_ | refine LetV.mk (.sc _) rfl ?_ | refine LetV.mk (.agg _) rfl ?_ | refine LetV.mk (.slm _ _ _ _ _) rfl ?_ | refine LetV.mk (.ro _ _ _) rfl ?_ | refine LetV.mk (.ptr _ _ _ _) rfl ?_ | refine LetV.mk (.clo _ _ _) rfl ?_ | refine LetV.mk (.rp _ _) rfl ?_) | (refine LetI.pre ?_; first | refine LetI.wrap (by omega) (by omega) ?_ | refine LetI.mk _ rfl ?_) | (refine LetB.pre ?_; first | refine LetB.tt rfl ?_ | refine LetB.ff rfl ?_ | refine LetB.tt (by assumption) ?_ | refine LetB.ff (by assumption) ?_ | refine LetB.dect (by omega) ?_ | refine LetB.decf (by omega) ?_ | refine LetB.beqt (by omega) ?_ | refine LetB.beqf (by omega) ?_ | refine LetB.bnet (by omega) ?_ | refine LetB.bnef (by omega) ?_ | refine LetB.mk _ rfl ?_) | (refine Gd.pre ?_; first | refine Gd.run rfl ?_ | refine Gd.pass rfl ?_ | refine Gd.run (by assumption) ?_ | refine Gd.pass (by assumption) ?_ | (refine Gd.run ?_ ?_; · decide +kernel) | (refine Gd.pass ?_ ?_; · decide +kernel) | refine Gd.both ?_) | (refine Br.pre ?_; first | refine Br.tt rfl ?_ | refine Br.ff rfl ?_ | refine Br.tt (by assumption) ?_ | refine Br.ff (by assumption) ?_ | (refine Br.tt ?_ ?_; · decide +kernel) | (refine Br.ff ?_ ?_; · decide +kernel)) | (refine Ck.pre ?_; first | refine Ck.drawn (by kernel_rfl) ?_ | refine Ck.mk rfl ?_) | (refine LetL.pre ?_; first | refine LetL.mk [_] rfl ?_ | refine LetL.mk _ rfl ?_) | refine forceAs.pass ?_ | refine forceEs.pass ?_ | refine forceC.pass ?_))); (try (conv => whnf)))
  refine LoopN.weak (s1 := m1S a b f1 f2 (0, 0, [])) ?sw1 ?_
  case sw1 => exact SW.mk id rfl rfl (mN _ _ _) ⟨.refl _, .refl _, .refl _, VLe2.int (by rw [hma]), .refl _, trivial⟩ (haveV.map (kvF_pure _) rfl trivial)
  refine LoopN.ind T_ok mixed (S := m1S a b f1 f2) (fun i => a.length - i.1) (fun i => i.1 ≤ a.length ∧ i.2.2 = (a.take i.1).foldl addM []) (fun _ => rfl) (fun i hi ih => ?_) (0, 0, []) ⟨Nat.zero_le _, rfl⟩
  obtain ⟨k, ck, M⟩ := i
  obtain ⟨h1, h2⟩ := hi
  dsimp only at h1 h2
  by_cases hlt : k < a.length
  · have hld := fa_ld hlt
    have hnx : ∀ ck', _ := fun ck' => ih (k + 1, ck', addM M (a.getD k fa0)) ⟨hlt, by rw [h2, foldl_at addM [] hlt fa0]⟩ (by show a.length - (k + 1) < a.length - k; omega)
    have hok : ∀ x ∈ M, okF x := by rw [h2]; exact foldl_ok fun x hx => ka x (List.mem_of_mem_take hx)
    have hky := keys_F hok (ka _ (getD_memF hlt))
    clear ih h2 ka
    generalize a.getD k fa0 = f at hld hnx hky
    by_cases hm : f ∈ M
    · obtain ⟨i, hfi, hset, _⟩ := kvF_some hm
      have e : addM M f = M := if_pos hm
      rw [e] at hnx
      ((repeat ((conv => whnf); (first | (refine LetN.pre ?_; first | ((conv => arg 1; whnf); refine LetN.mk ?_)) | (refine As.pre ?_; first | refine As.mk rfl ?_ | refine As.mk hky ?_ | (refine As.mk ?_ ?_; · decide +kernel) | refine As.mk (andT (nor_self _) rfl) ?_ | refine As.mk (andT (nor_self _) (or_t _)) ?_ | refine As.mk (andT (or_t _) (or_nself _)) ?_ | refine As.mk (andT (or_t _) (or_t _)) ?_ | refine As.mk (andT (nor_self _) (andT (nor_self _) rfl)) ?_ | (refine As.mk ?_ ?_; · ((repeat' (refine andT ?_ ?_)) <;> (first | rfl | assumption | exact decide_eq_true (by omega) | exact decide_eq_true (by dsimp only; omega) | exact decide_eq_true (by simp; omega) | (simp; done))))) | (refine LetV.pre ?_; first | refine LetV.mk (t := fsl) _ hld ?_ | refine LetV.mk (t := mty) (.mp _) rfl ?_ | refine LetV.mk (.sc (.int _ _)) rfl ?_ | refine LetV.mk (.sc (.bool _)) rfl ?_ | refine LetV.mk (.sc _) rfl ?_ | refine LetV.mk (.agg _) rfl ?_ | refine LetV.mk (.slm _ _ _ _ _) rfl ?_ | refine LetV.mk (.ro _ _ _) rfl ?_ | refine LetV.mk (.ptr _ _ _ _) rfl ?_ | refine LetV.mk (.clo _ _ _) rfl ?_ | refine LetV.mk (.rp _ _) rfl ?_) | (refine LetI.pre ?_; first | refine LetI.wrap (by omega) (by omega) ?_ | refine LetI.mk _ rfl ?_) | (refine LetB.pre ?_; first | refine LetB.tt rfl ?_ | refine LetB.ff rfl ?_ | refine LetB.tt (by assumption) ?_ | refine LetB.ff (by assumption) ?_ | refine LetB.dect (by omega) ?_ | refine LetB.decf (by omega) ?_ | refine LetB.beqt (by omega) ?_ | refine LetB.beqf (by omega) ?_ | refine LetB.bnet (by omega) ?_ | refine LetB.bnef (by omega) ?_ | refine LetB.mk _ rfl ?_) | (refine Gd.pre ?_; first | refine Gd.run rfl ?_ | refine Gd.pass rfl ?_ | refine Gd.run (by assumption) ?_ | refine Gd.pass (by assumption) ?_ | (refine Gd.run ?_ ?_; · decide +kernel) | (refine Gd.pass ?_ ?_; · decide +kernel) | refine Gd.both ?_) | (refine Br.pre ?_; first | refine Br.tt rfl ?_ | refine Br.ff rfl ?_ | refine Br.tt (by assumption) ?_ | refine Br.ff (by assumption) ?_ | (refine Br.tt ?_ ?_; · decide +kernel) | (refine Br.ff ?_ ?_; · decide +kernel)) | (refine Ck.pre ?_; first | refine Ck.drawn (by kernel_rfl) ?_ | refine Ck.mk rfl ?_) | (refine LetL.pre ?_; first | refine LetL.mk [_] rfl ?_ | refine LetL.mk _ rfl ?_) | (refine FindN.mk (some i) hfi ?_) | refine forceAs.pass ?_ | refine forceEs.pass ?_ | refine forceC.pass ?_))); (try (conv => whnf)))




      refine LoopN.weak ?sw2 (hnx ck)
      case sw2 => exact SW.mk id rfl rfl (mN _ _ _) ⟨.refl _, .refl _, .refl _, .refl _, VLe2.int (by omega), trivial⟩ (haveV.map (kvF_pure _) (congrArg (fun m => some (Blk.map ck m)) hset) trivial)
    · have hfi := kvF_none hm
      have e : addM M f = M ++ [f] := if_neg hm
      rw [e] at hnx
      ((repeat ((conv => whnf); (first | (refine LetN.pre ?_; first | ((conv => arg 1; whnf); refine LetN.mk ?_)) | (refine As.pre ?_; first | refine As.mk rfl ?_ | refine As.mk hky ?_ | (refine As.mk ?_ ?_; · decide +kernel) | refine As.mk (andT (nor_self _) rfl) ?_ | refine As.mk (andT (nor_self _) (or_t _)) ?_ | refine As.mk (andT (or_t _) (or_nself _)) ?_ | refine As.mk (andT (or_t _) (or_t _)) ?_ | refine As.mk (andT (nor_self _) (andT (nor_self _) rfl)) ?_ | (refine As.mk ?_ ?_; · ((repeat' (refine andT ?_ ?_)) <;> (first | rfl | assumption | exact decide_eq_true (by omega) | exact decide_eq_true (by dsimp only; omega) | exact decide_eq_true (by simp; omega) | (simp; done))))) | (refine LetV.pre ?_; first | refine LetV.mk (t := fsl) _ hld ?_ | refine LetV.mk (t := mty) (.mp _) rfl ?_ | refine LetV.mk (.sc (.int _ _)) rfl ?_ | refine LetV.mk (.sc (.bool _)) rfl ?_ | refine LetV.mk (.sc _) rfl ?_ | refine LetV.mk (.agg _) rfl ?_ | refine LetV.mk (.slm _ _ _ _ _) rfl ?_ | refine LetV.mk (.ro _ _ _) rfl ?_ | refine LetV.mk (.ptr _ _ _ _) rfl ?_ | refine LetV.mk (.clo _ _ _) rfl ?_ | refine LetV.mk (.rp _ _) rfl ?_) | (refine LetI.pre ?_; first | refine LetI.wrap (by omega) (by omega) ?_ | refine LetI.mk _ rfl ?_) | (refine LetB.pre ?_; first | refine LetB.tt rfl ?_ | refine LetB.ff rfl ?_ | refine LetB.tt (by assumption) ?_ | refine LetB.ff (by assumption) ?_ | refine LetB.dect (by omega) ?_ | refine LetB.decf (by omega) ?_ | refine LetB.beqt (by omega) ?_ | refine LetB.beqf (by omega) ?_ | refine LetB.bnet (by omega) ?_ | refine LetB.bnef (by omega) ?_ | refine LetB.mk _ rfl ?_) | (refine Gd.pre ?_; first | refine Gd.run rfl ?_ | refine Gd.pass rfl ?_ | refine Gd.run (by assumption) ?_ | refine Gd.pass (by assumption) ?_ | (refine Gd.run ?_ ?_; · decide +kernel) | (refine Gd.pass ?_ ?_; · decide +kernel) | refine Gd.both ?_) | (refine Br.pre ?_; first | refine Br.tt rfl ?_ | refine Br.ff rfl ?_ | refine Br.tt (by assumption) ?_ | refine Br.ff (by assumption) ?_ | (refine Br.tt ?_ ?_; · decide +kernel) | (refine Br.ff ?_ ?_; · decide +kernel)) | (refine Ck.pre ?_; first | refine Ck.drawn (by kernel_rfl) ?_ | refine Ck.mk rfl ?_) | (refine LetL.pre ?_; first | refine LetL.mk [_] rfl ?_ | refine LetL.mk _ rfl ?_) | (refine FindN.mk none hfi ?_) | refine forceAs.pass ?_ | refine forceEs.pass ?_ | refine forceC.pass ?_))); (try (conv => whnf)))




      refine LoopN.weak ?sw3 (hnx (ck + 1))
      case sw3 => exact SW.mk id rfl rfl (mN _ _ _) ⟨.refl _, .refl _, .refl _, .refl _, VLe2.int (by omega), trivial⟩ (haveV.map (kvF_pure _) (congrArg (fun m => some (Blk.map (ck + 1) m)) (show kvF M ++ [(kyF f, bool true)] = kvF (M ++ [f]) by simp [kvF])) trivial)
  · clear ih
    rw [List.take_of_length_le (by omega)] at h2
    have hS : misP a b = sortS ltF (b.foldl (fun M f => M.erase f) M) := by rw [misP, setP, h2]
    have hMn : M.Nodup := by rw [h2]; exact (adds_spec a [] List.nodup_nil).1
    have hMo : ∀ x ∈ M, okF x := by rw [h2]; exact foldl_ok ka
    have hMl : M.length ≤ 12 := by
      rw [h2]
      refine Nat.le_trans (nodup_len (adds_spec a [] List.nodup_nil).1 (M := a) fun x hx => ?_) ha
      rcases ((adds_spec a [] List.nodup_nil).2 x).1 hx with g | g
      · exact absurd g List.not_mem_nil
      · exact g
    clear h2
    generalize misP a b = S at hS
    ((repeat ((conv => whnf); (first | (refine LetN.pre ?_; first | ((conv => arg 1; whnf); refine LetN.mk ?_)) | (refine As.pre ?_; first | refine As.mk rfl ?_ | (refine As.mk ?_ ?_; · decide +kernel) | refine As.mk (andT (nor_self _) rfl) ?_ | refine As.mk (andT (nor_self _) (or_t _)) ?_ | refine As.mk (andT (or_t _) (or_nself _)) ?_ | refine As.mk (andT (or_t _) (or_t _)) ?_ | refine As.mk (andT (nor_self _) (andT (nor_self _) rfl)) ?_ | (refine As.mk ?_ ?_; · ((repeat' (refine andT ?_ ?_)) <;> (first | rfl | assumption | exact decide_eq_true (by omega) | exact decide_eq_true (by dsimp only; omega) | exact decide_eq_true (by simp; omega) | (simp; done))))) | (refine LetV.pre ?_; first | refine LetV.mk (.sc (.int _ _)) rfl ?_ | refine LetV.mk (.sc (.bool _)) rfl ?_ | refine LetV.mk (.sc _) rfl ?_ | refine LetV.mk (.agg _) rfl ?_ | refine LetV.mk (.slm _ _ _ _ _) rfl ?_ | refine LetV.mk (.ro _ _ _) rfl ?_ | refine LetV.mk (.ptr _ _ _ _) rfl ?_ | refine LetV.mk (.clo _ _ _) rfl ?_ | refine LetV.mk (.rp _ _) rfl ?_) | (refine LetI.pre ?_; first | refine LetI.wrap (by omega) (by omega) ?_ | refine LetI.mk _ rfl ?_) | (refine LetB.pre ?_; first | refine LetB.tt rfl ?_ | refine LetB.ff rfl ?_ | refine LetB.tt (by assumption) ?_ | refine LetB.ff (by assumption) ?_ | refine LetB.dect (by omega) ?_ | refine LetB.decf (by omega) ?_ | refine LetB.beqt (by omega) ?_ | refine LetB.beqf (by omega) ?_ | refine LetB.bnet (by omega) ?_ | refine LetB.bnef (by omega) ?_ | refine LetB.mk _ rfl ?_) | (refine Gd.pre ?_; first | refine Gd.run rfl ?_ | refine Gd.pass rfl ?_ | refine Gd.run (by assumption) ?_ | refine Gd.pass (by assumption) ?_ | (refine Gd.run ?_ ?_; · decide +kernel) | (refine Gd.pass ?_ ?_; · decide +kernel) | refine Gd.both ?_) | (refine Br.pre ?_; first | refine Br.tt rfl ?_ | refine Br.ff rfl ?_ | refine Br.tt (by assumption) ?_ | refine Br.ff (by assumption) ?_ | (refine Br.tt ?_ ?_; · decide +kernel) | (refine Br.ff ?_ ?_; · decide +kernel)) | (refine Ck.pre ?_; first | refine Ck.drawn (by kernel_rfl) ?_ | refine Ck.mk rfl ?_) | (refine LetL.pre ?_; first | refine LetL.mk [_] rfl ?_ | refine LetL.mk _ rfl ?_) | refine forceAs.pass ?_ | refine forceEs.pass ?_ | refine forceC.pass ?_))); (try (conv => whnf)))
    refine LoopN.weak (s1 := m2S b f2 (0, ck, M)) ?sw4 ?_
    case sw4 => exact SW.mk id rfl rfl (mN _ _ _) ⟨.refl _, .refl _, VLe2.int (by rw [hmb]), .refl _, trivial⟩ (haveV.map (kvF_pure _) rfl trivial)
    refine LoopN.ind T_ok mixed (S := m2S b f2) (fun i => b.length - i.1) (fun i => i.1 ≤ b.length ∧ i.2.2 = (b.take i.1).foldl (fun M f => M.erase f) M) (fun _ => rfl) (fun i hi ih => ?_) (0, ck, M) ⟨Nat.zero_le _, rfl⟩
    obtain ⟨k, ck, N⟩ := i
    obtain ⟨h1, h2⟩ := hi
    dsimp only at h1 h2
    have hNs := dels_spec (b.take k) M hMn
    rw [← h2] at hNs
    have hok : ∀ x ∈ N, okF x := fun x hx => hMo x ((hNs.2 x).1 hx).1
    have hNl : N.length ≤ 12 := Nat.le_trans (nodup_len hNs.1 fun x hx => ((hNs.2 x).1 hx).1) hMl
    by_cases hlt : k < b.length
    · have hld := fa_ld hlt
      have hnx : ∀ ck', _ := fun ck' => ih (k + 1, ck', N.erase (b.getD k fa0)) ⟨hlt, by rw [h2, foldl_at _ _ hlt fa0]⟩ (by show b.length - (k + 1) < b.length - k; omega)
      have hky := keys_F hok (kb _ (getD_memF hlt))
      clear ih h2 kb ka
      generalize b.getD k fa0 = f at hld hnx hky
      by_cases hm : f ∈ N
      · obtain ⟨i, hfi, _, hset⟩ := kvF_some hm
        ((repeat ((conv => whnf); (first | (refine LetN.pre ?_; first | ((conv => arg 1; whnf); refine LetN.mk ?_)) | (refine As.pre ?_; first | refine As.mk rfl ?_ | refine As.mk hky ?_ | (refine As.mk ?_ ?_; · decide +kernel) | refine As.mk (andT (nor_self _) rfl) ?_ | refine As.mk (andT (nor_self _) (or_t _)) ?_ | refine As.mk (andT (or_t _) (or_nself _)) ?_ | refine As.mk (andT (or_t _) (or_t _)) ?_ | refine As.mk (andT (nor_self _) (andT (nor_self _) rfl)) ?_ | (refine As.mk ?_ ?_; · ((repeat' (refine andT ?_ ?_)) <;> (first | rfl | assumption | exact decide_eq_true (by omega) | exact decide_eq_true (by dsimp only; omega) | exact decide_eq_true (by simp; omega) | (simp; done))))) | (refine LetV.pre ?_; first | refine LetV.mk (t := fsl) _ hld ?_ | refine LetV.mk (t := mty) (.mp _) rfl ?_ | refine LetV.mk (.sc (.int _ _)) rfl ?_ | refine LetV.mk (.sc (.bool _)) rfl ?_ | refine LetV.mk (.sc _) rfl ?_ | refine LetV.mk (.agg _) rfl ?_ | refine LetV.mk (.slm _ _ _ _ _) rfl ?_ | refine LetV.mk (.ro _ _ _) rfl ?_ | refine LetV.mk (.ptr _ _ _ _) rfl ?_ | refine LetV.mk (.clo _ _ _) rfl ?_ | refine LetV.mk (.rp _ _) rfl ?_) | (refine LetI.pre ?_; first | refine LetI.wrap (by omega) (by omega) ?_ | refine LetI.mk _ rfl ?_) | (refine LetB.pre ?_; first | refine LetB.tt rfl ?_ | refine LetB.ff rfl ?_ | refine LetB.tt (by assumption) ?_ | refine LetB.ff (by assumption) ?_ | refine LetB.dect (by omega) ?_ | refine LetB.decf (by omega) ?_ | refine LetB.beqt (by omega) ?_ | refine LetB.beqf (by omega) ?_ | refine LetB.bnet (by omega) ?_ | refine LetB.bnef (by omega) ?_ | refine LetB.mk _ rfl ?_) | (refine Gd.pre ?_; first | refine Gd.run rfl ?_ | refine Gd.pass rfl ?_ | refine Gd.run (by assumption) ?_ | refine Gd.pass (by assumption) ?_ | (refine Gd.run ?_ ?_; · decide +kernel) | (refine Gd.pass ?_ ?_; · decide +kernel) | refine Gd.both ?_) | (refine Br.pre ?_; first | refine Br.tt rfl ?_ | refine Br.ff rfl ?_ | refine Br.tt (by assumption) ?_ | refine Br.ff (by assumption) ?_ | (refine Br.tt ?_ ?_; · decide +kernel) | (refine Br.ff ?_ ?_; · decide +kernel)) | (refine Ck.pre ?_; first | refine Ck.drawn (by kernel_rfl) ?_ | refine Ck.mk rfl ?_) | (refine LetL.pre ?_; first | refine LetL.mk [_] rfl ?_ | refine LetL.mk _ rfl ?_) | (refine FindN.mk (some i) hfi ?_) | refine forceAs.pass ?_ | refine forceEs.pass ?_ | refine forceC.pass ?_))); (try (conv => whnf)))




        refine LoopN.weak ?sw5 (hnx ck)
        case sw5 => exact SW.mk id rfl rfl (mN _ _ _) ⟨.refl _, .refl _, .refl _, VLe2.int (by omega), trivial⟩ (haveV.map (kvF_pure _) (congrArg (fun m => some (Blk.map ck m)) hset) trivial)
      · have hfi := kvF_none hm
        rw [List.erase_of_not_mem hm] at hnx
        ((repeat ((conv => whnf); (first | (refine LetN.pre ?_; first | ((conv => arg 1; whnf); refine LetN.mk ?_)) | (refine As.pre ?_; first | refine As.mk rfl ?_ | refine As.mk hky ?_ | (refine As.mk ?_ ?_; · decide +kernel) | refine As.mk (andT (nor_self _) rfl) ?_ | refine As.mk (andT (nor_self _) (or_t _)) ?_ | refine As.mk (andT (or_t _) (or_nself _)) ?_ | refine As.mk (andT (or_t _) (or_t _)) ?_ | refine As.mk (andT (nor_self _) (andT (nor_self _) rfl)) ?_ | (refine As.mk ?_ ?_; · ((repeat' (refine andT ?_ ?_)) <;> (first | rfl | assumption | exact decide_eq_true (by omega) | exact decide_eq_true (by dsimp only; omega) | exact decide_eq_true (by simp; omega) | (simp; done))))) | (refine LetV.pre ?_; first | refine LetV.mk (t := fsl) _ hld ?_ | refine LetV.mk (t := mty) (.mp _) rfl ?_ | refine LetV.mk (.sc (.int _ _)) rfl ?_ | refine LetV.mk (.sc (.bool _)) rfl ?_ | refine LetV.mk (.sc _) rfl ?_ | refine LetV.mk (.agg _) rfl ?_ | refine LetV.mk (.slm _ _ _ _ _) rfl ?_ | refine LetV.mk (.ro _ _ _) rfl ?_ | refine LetV.mk (.ptr _ _ _ _) rfl ?_ | refine LetV.mk (.clo _ _ _) rfl ?_ | refine LetV.mk (.rp _ _) rfl ?_) | (refine LetI.pre ?_; first | refine LetI.wrap (by omega) (by omega) ?_ | refine LetI.mk _ rfl ?_) | (refine LetB.pre ?_; first | refine LetB.tt rfl ?_ | refine LetB.ff rfl ?_ | refine LetB.tt (by assumption) ?_ | refine LetB.ff (by assumption) ?_ | refine LetB.dect (by omega) ?_ | refine LetB.decf (by omega) ?_ | refine LetB.beqt (by omega) ?_ | refine LetB.beqf (by omega) ?_ | refine LetB.bnet (by omega) ?_ | refine LetB.bnef (by omega) ?_ | refine LetB.mk _ rfl ?_) | (refine Gd.pre ?_; first | refine Gd.run rfl ?_ | refine Gd.pass rfl ?_ | refine Gd.run (by assumption) ?_ | refine Gd.pass (by assumption) ?_ | (refine Gd.run ?_ ?_; · decide +kernel) | (refine Gd.pass ?_ ?_; · decide +kernel) | refine Gd.both ?_) | (refine Br.pre ?_; first | refine Br.tt rfl ?_ | refine Br.ff rfl ?_ | refine Br.tt (by assumption) ?_ | refine Br.ff (by assumption) ?_ | (refine Br.tt ?_ ?_; · decide +kernel) | (refine Br.ff ?_ ?_; · decide +kernel)) | (refine Ck.pre ?_; first | refine Ck.drawn (by kernel_rfl) ?_ | refine Ck.mk rfl ?_) | (refine LetL.pre ?_; first | refine LetL.mk [_] rfl ?_ | refine LetL.mk _ rfl ?_) | (refine FindN.mk none hfi ?_) | refine forceAs.pass ?_ | refine forceEs.pass ?_ | refine forceC.pass ?_))); (try (conv => whnf)))




        refine LoopN.weak ?sw6 (hnx ck)
        case sw6 => exact SW.mk id rfl rfl (mN _ _ _) ⟨.refl _, .refl _, .refl _, VLe2.int (by omega), trivial⟩ (haveV.map (kvF_pure _) rfl trivial)
    · clear ih
      rw [List.take_of_length_le (by omega)] at h2
      rw [← h2] at hS
      have hK := Keys_f N ck
      have hF := SortedFunc_f N ck hNs.1 hNl
      rw [← hS] at hF
      clear hS h2
      ((repeat ((conv => whnf); (first | (refine LetN.pre ?_; first | ((conv => arg 1; whnf); refine LetN.mk ?_)) | (refine As.pre ?_; first | refine As.mk rfl ?_ | (refine As.mk ?_ ?_; · decide +kernel) | refine As.mk (andT (nor_self _) rfl) ?_ | refine As.mk (andT (nor_self _) (or_t _)) ?_ | refine As.mk (andT (or_t _) (or_nself _)) ?_ | refine As.mk (andT (or_t _) (or_t _)) ?_ | refine As.mk (andT (nor_self _) (andT (nor_self _) rfl)) ?_ | (refine As.mk ?_ ?_; · ((repeat' (refine andT ?_ ?_)) <;> (first | rfl | assumption | exact decide_eq_true (by omega) | exact decide_eq_true (by dsimp only; omega) | exact decide_eq_true (by simp; omega) | (simp; done))))) | (refine LetV.pre ?_; first | refine LetV.mk (.sc (.int _ _)) rfl ?_ | refine LetV.mk (.sc (.bool _)) rfl ?_ | refine LetV.mk (.sc _) rfl ?_ | refine LetV.mk (.agg _) rfl ?_ | refine LetV.mk (.slm _ _ _ _ _) rfl ?_ | refine LetV.mk (.ro _ _ _) rfl ?_ | refine LetV.mk (.ptr _ _ _ _) rfl ?_ | refine LetV.mk (.clo _ _ _) rfl ?_ | refine LetV.mk (.rp _ _) rfl ?_) | (refine LetI.pre ?_; first | refine LetI.wrap (by omega) (by omega) ?_ | refine LetI.mk _ rfl ?_) | (refine LetB.pre ?_; first | refine LetB.tt rfl ?_ | refine LetB.ff rfl ?_ | refine LetB.tt (by assumption) ?_ | refine LetB.ff (by assumption) ?_ | refine LetB.dect (by omega) ?_ | refine LetB.decf (by omega) ?_ | refine LetB.beqt (by omega) ?_ | refine LetB.beqf (by omega) ?_ | refine LetB.bnet (by omega) ?_ | refine LetB.bnef (by omega) ?_ | refine LetB.mk _ rfl ?_) | (refine Gd.pre ?_; first | refine Gd.run rfl ?_ | refine Gd.pass rfl ?_ | refine Gd.run (by assumption) ?_ | refine Gd.pass (by assumption) ?_ | (refine Gd.run ?_ ?_; · decide +kernel) | (refine Gd.pass ?_ ?_; · decide +kernel) | refine Gd.both ?_) | (refine Br.pre ?_; first | refine Br.tt rfl ?_ | refine Br.ff rfl ?_ | refine Br.tt (by assumption) ?_ | refine Br.ff (by assumption) ?_ | (refine Br.tt ?_ ?_; · decide +kernel) | (refine Br.ff ?_ ?_; · decide +kernel)) | (refine Ck.pre ?_; first | refine Ck.drawn (by kernel_rfl) ?_ | refine Ck.mk rfl ?_) | (refine LetL.pre ?_; first | refine LetL.mk (ty := fty) _ (renL_none (pure_fa _)).symm ?_ | refine LetL.mk [_] rfl ?_ | refine LetL.mk _ rfl ?_) | (refine CallN.pre ?_; first | (refine CallN.own id hK (CallOk.mk' rfl rfl rfl (mN _ _ _) rfl (namesAll.map (kvF_pure N) rfl) (haveAll.map (kvF_pure N) rfl trivial)) ?_) | (refine CallN.own id hF (CallOk.mk' rfl rfl rfl (namesAll.map (kvF_pure N) rfl) rfl (sqN ck N S _ rfl) (haveAll.map (kvF_pure N) (by show some (Blk.map _ _) = _; rw [kv_ren (kvF_pure N)]) ⟨rfl, trivial⟩)) ?_)) | refine forceAs.pass ?_ | refine forceEs.pass ?_ | refine forceC.pass ?_))); (try (conv => whnf)))



      exact ⟨⟨[(4, .slm {} 0 7 0 S.length)], [(0, rwF S)], 1⟩, SW.mk (fun _ => 2) rfl rfl (namesAll.row (pure_fa _) rfl) ⟨.refl _, trivial⟩ (haveV.row (pure_fa _) rfl trivial), .inl rfl, ⟨_, rfl, rfl⟩, rfl, trivial⟩
end En
end Go.Proofs.YtgnakhljdjekbaaDoor
namespace Go.Proofs.YtgnakhljdjekbaaDoor
open Go.Proofs.YtgnakhljdjekbaaDoor.Am
set_option maxRecDepth 100000
namespace En
/-! ### The text of a change, as plain Lean -/
abbrev tI (n : Int) : List UInt8 := Go.Lib.itoa n
def wordL (k : Int) : List UInt8 :=
  if k = 1 then [101, 97, 114, 110, 101, 100] else if k = 2 then [116, 97, 107, 101, 110] else if k = 3 then [109, 101, 116] else if k = 4 then [115, 116, 97, 110, 100, 105, 110, 103]
  else if k = 5 then [115, 116, 105, 112, 101, 110, 100] else if k = 6 then [97, 119, 97, 114, 100] else if k = 7 then [118, 101, 114, 115, 105, 111, 110] else [102, 97, 99, 116]
/-- A change: the fact, gone, kept, the entry. -/
structure Cg where
  f : Fa
  gone : Bool
  kept : Bool
  entry : Int
  deriving DecidableEq
abbrev cgA (c : Cg) : AV := .agg [int c.f.kind, int c.f.student, int c.f.id, int c.f.term, int c.f.n, int c.f.school, str c.f.code, bool c.gone, bool c.kept, int c.entry]
def pieces (c : Cg) : List (List UInt8) :=
  [(if c.gone then 45 else 43) :: wordL c.f.kind, tI c.f.student, tI c.f.id, tI c.f.term, tI c.f.n, tI c.f.school ++ 58 :: c.f.code.data.toList, [98, 121], tI c.entry] ++ if c.kept then [[107, 101, 112, 116]] else []
def textP (c : Cg) : ByteArray := ⟨(Go.Lib.join (pieces c) [32]).toArray⟩
/-! Numerals. -/
def valD (l : List UInt8) : Nat := l.foldl (fun a d => 10 * a + (d.toNat - 48)) 0
theorem u8_dig {d : Nat} (h : d < 10) : (UInt8.ofNat (48 + d)).toNat = 48 + d := by
  rw [UInt8.toNat_ofNat']; exact Nat.mod_eq_of_lt (by omega)
theorem val_dec (u : Nat) : valD (Go.Lib.decDigits u) = u := by
  induction u using Nat.strongRecOn with
  | _ u ih =>
    rw [Go.Lib.decDigits]
    by_cases h : u < 10
    · rw [dif_pos h]
      show 10 * 0 + ((UInt8.ofNat (48 + u)).toNat - 48) = u
      rw [u8_dig h]; omega
    · rw [dif_neg h, valD, List.foldl_append]
      have := ih (u / 10) (by omega)
      rw [valD] at this
      rw [this]
      show 10 * (u / 10) + ((UInt8.ofNat (48 + u % 10)).toNat - 48) = u
      rw [u8_dig (Nat.mod_lt _ (by decide))]; omega
theorem mem_dec (u : Nat) : ∀ x ∈ Go.Lib.decDigits u, 48 ≤ x.toNat ∧ x.toNat ≤ 57 := by
  induction u using Nat.strongRecOn with
  | _ u ih =>
    rw [Go.Lib.decDigits]
    intro x hx
    by_cases h : u < 10
    · rw [dif_pos h, List.mem_singleton] at hx
      rw [hx, u8_dig h]; omega
    · rw [dif_neg h] at hx
      rcases List.mem_append.1 hx with hx | hx
      · exact ih (u / 10) (by omega) x hx
      · rw [List.mem_singleton.1 hx, u8_dig (Nat.mod_lt _ (by decide))]
        have := Nat.mod_lt u (show 10 > 0 by decide)
        omega
theorem mem_tI (n : Int) : ∀ x ∈ tI n, x.toNat = 45 ∨ (48 ≤ x.toNat ∧ x.toNat ≤ 57) := by
  intro x hx
  unfold tI Go.Lib.itoa at hx
  split at hx
  · rcases List.mem_cons.1 hx with h | h
    · left; rw [h]; rfl
    · exact .inr (mem_dec _ x h)
  · exact .inr (mem_dec _ x hx)
theorem dec_ne (u : Nat) : Go.Lib.decDigits u ≠ [] := by
  rw [Go.Lib.decDigits]
  split <;> simp
theorem tI_inj {m n : Int} (h : tI m = tI n) : m = n := by
  unfold tI Go.Lib.itoa at h
  split at h <;> split at h
  · injection h with _ h
    have := congrArg valD h
    rw [val_dec, val_dec] at this
    omega
  · exfalso
    have := mem_dec n.toNat 45 (by rw [← h]; exact List.mem_cons_self ..)
    have e : (45 : UInt8).toNat = 45 := rfl
    omega
  · exfalso
    have := mem_dec m.toNat 45 (by rw [h]; exact List.mem_cons_self ..)
    have e : (45 : UInt8).toNat = 45 := rfl
    omega
  · have := congrArg valD h
    rw [val_dec, val_dec] at this
    omega
/-! What stands between two marks. -/
theorem cut_at {c : UInt8} : ∀ {a b r s : List UInt8}, c ∉ a → c ∉ b → a ++ c :: r = b ++ c :: s → a = b ∧ r = s
  | [], [], r, s, _, _, h => by injection h with _ h; exact ⟨rfl, h⟩
  | [], y :: b, r, s, _, h2, h => by
    injection h with h _
    exact absurd (h ▸ List.mem_cons_self ..) h2
  | x :: a, [], r, s, h1, _, h => by
    injection h with h _
    exact absurd (h ▸ List.mem_cons_self ..) h1
  | x :: a, y :: b, r, s, h1, h2, h => by
    injection h with h0 h
    obtain ⟨e1, e2⟩ := cut_at (fun g => h1 (List.mem_cons_of_mem _ g)) (fun g => h2 (List.mem_cons_of_mem _ g)) h
    exact ⟨by rw [h0, e1], e2⟩
theorem join_cons2 (x y : List UInt8) (l : List (List UInt8)) : Go.Lib.join (x :: y :: l) [32] = x ++ 32 :: Go.Lib.join (y :: l) [32] := by
  rw [Go.Lib.join_cons, Go.Lib.join_cons]
  simp [Go.Lib.joinTail]
theorem join_inj : ∀ {xs ys : List (List UInt8)}, xs ≠ [] → ys ≠ [] → (∀ x ∈ xs, (32 : UInt8) ∉ x) → (∀ x ∈ ys, (32 : UInt8) ∉ x) → Go.Lib.join xs [32] = Go.Lib.join ys [32] → xs = ys
  | [], _, h, _, _, _, _ => absurd rfl h
  | _ :: _, [], _, h, _, _, _ => absurd rfl h
  | [x], [y], _, _, _, _, h => by rw [Go.Lib.join_one, Go.Lib.join_one] at h; rw [h]
  | [x], y :: z :: ys, _, _, h1, _, h => by
    rw [Go.Lib.join_one, join_cons2] at h
    exact absurd (by rw [h]; simp) (h1 x (List.mem_cons_self ..))
  | x :: w :: xs, [y], _, _, _, h2, h => by
    rw [Go.Lib.join_one, join_cons2] at h
    exact absurd (by rw [← h]; simp) (h2 y (List.mem_cons_self ..))
  | x :: w :: xs, y :: z :: ys, _, _, h1, h2, h => by
    rw [join_cons2, join_cons2] at h
    obtain ⟨e1, e2⟩ := cut_at (h1 x (List.mem_cons_self ..)) (h2 y (List.mem_cons_self ..)) h
    rw [e1, join_inj (by simp) (by simp) (fun u hu => h1 u (List.mem_cons_of_mem _ hu)) (fun u hu => h2 u (List.mem_cons_of_mem _ hu)) e2]
theorem wordL_inj {m n : Int} (hm : 1 ≤ m ∧ m ≤ 7) (hn : 1 ≤ n ∧ n ≤ 7) (h : wordL m = wordL n) : m = n := by
  have e1 : m = 1 ∨ m = 2 ∨ m = 3 ∨ m = 4 ∨ m = 5 ∨ m = 6 ∨ m = 7 := by omega
  have e2 : n = 1 ∨ n = 2 ∨ n = 3 ∨ n = 4 ∨ n = 5 ∨ n = 6 ∨ n = 7 := by omega
  rcases e1 with rfl | rfl | rfl | rfl | rfl | rfl | rfl <;> rcases e2 with rfl | rfl | rfl | rfl | rfl | rfl | rfl <;> first | rfl | (exfalso; revert h; decide)
theorem wordL_sp (n : Int) : (32 : UInt8) ∉ wordL n := by
  unfold wordL
  repeat' split
  all_goals decide
theorem tI_sp (n : Int) : (32 : UInt8) ∉ tI n := fun h => by
  have := mem_tI n 32 h
  have e : (32 : UInt8).toNat = 32 := rfl
  omega
theorem tI_co (n : Int) : (58 : UInt8) ∉ tI n := fun h => by
  have := mem_tI n 58 h
  have e : (58 : UInt8).toNat = 58 := rfl
  omega
/-- Texts of changes whose codes have no blank tell the changes. -/
theorem text_inj {a b : Cg} (ha : 1 ≤ a.f.kind ∧ a.f.kind ≤ 7) (hb : 1 ≤ b.f.kind ∧ b.f.kind ≤ 7) (ca : (32 : UInt8) ∉ a.f.code.data.toList) (cb : (32 : UInt8) ∉ b.f.code.data.toList) (h : textP a = textP b) : a = b := by
  have sp : ∀ c : Cg, (32 : UInt8) ∉ c.f.code.data.toList → ∀ x ∈ pieces c, (32 : UInt8) ∉ x := by
    intro c hc x hx
    unfold pieces at hx
    rcases List.mem_append.1 hx with hx | hx
    · simp only [List.mem_cons, List.not_mem_nil, or_false] at hx
      rcases hx with rfl | rfl | rfl | rfl | rfl | rfl | rfl | rfl
      · intro g
        rcases List.mem_cons.1 g with g | g
        · split at g <;> exact absurd g (by decide)
        · exact wordL_sp _ g
      · exact tI_sp _
      · exact tI_sp _
      · exact tI_sp _
      · exact tI_sp _
      · intro g
        rcases List.mem_append.1 g with g | g
        · exact tI_sp _ g
        · rcases List.mem_cons.1 g with g | g
          · exact absurd g (by decide)
          · exact hc g
      · decide
      · exact tI_sp _
    · split at hx
      · rw [List.mem_singleton.1 hx]; decide
      · exact absurd hx List.not_mem_nil
  have hj : Go.Lib.join (pieces a) [32] = Go.Lib.join (pieces b) [32] := by
    have := congrArg (fun x => x.data.toList) h
    simpa [textP] using this
  have hp := join_inj (by simp [pieces]) (by simp [pieces]) (sp a ca) (sp b cb) hj
  obtain ⟨⟨k, st, i, t, n, sc, co⟩, g, kp, e⟩ := a
  obtain ⟨⟨k', st', i', t', n', sc', co'⟩, g', kp', e'⟩ := b
  simp only [pieces, List.cons_append, List.nil_append, List.cons.injEq] at hp
  simp only at ha hb
  obtain ⟨⟨h0, h1⟩, h2, h3, h4, h5, h6, _, h7, h8⟩ := hp
  obtain ⟨h9, h10⟩ := cut_at (tI_co _) (tI_co _) h6
  have hg : g = g' := by cases g <;> cases g' <;> first | rfl | (exfalso; simp at h0)
  have hk : kp = kp' := by cases kp <;> cases kp' <;> first | rfl | exact absurd h8 (by simp)
  have hc : co = co' := ByteArray.ext (Array.ext' h10)
  rw [hg, hk, hc, wordL_inj ha hb h1, tI_inj h2, tI_inj h3, tI_inj h4, tI_inj h5, tI_inj h9, tI_inj h7]
end En
end Go.Proofs.YtgnakhljdjekbaaDoor
