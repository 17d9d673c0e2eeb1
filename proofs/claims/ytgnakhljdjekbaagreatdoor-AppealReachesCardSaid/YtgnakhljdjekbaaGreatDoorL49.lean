/- appealZD: parts of the proof, DappealZDTD DappealZDTE DappealZDTF DappealZDTG DappealZDTH DappealZDTI DappealZDTC DappealZDTJ DappealZDTS DappealZDTK DappealZDTL DappealZDTN DappealZDUB DappealZDUE. -/
import Derived.Test.YtgnakhljdjekbaaGreatDoorL45
import Derived.Test.YtgnakhljdjekbaaGreatDoorAmKN
import Derived.Test.YtgnakhljdjekbaaGreatDoorAmFZ
import Derived.Lib.ItoaNum
import Derived.Lib.Join
import Derived.Test.YtgnakhljdjekbaaGreatDoorL35
import Derived.Room.Shelf.Join48
import Derived.Shelf.Strconv.Itoa3
import Derived.Lib.ItoaLen
import Derived.Test.YtgnakhljdjekbaaGreatDoorL44
set_option linter.all false
namespace Go.Proofs.YtgnakhljdjekbaaGreatDoor
open Go.Proofs.YtgnakhljdjekbaaGreatDoor.Am
set_option maxRecDepth 100000
namespace En
/-! ### The keys of a map of facts -/
abbrev kyF (f : Fa) : Value := .agg #[.int .i64 f.kind, .int .i64 f.student, .int .i64 f.id, .int .i64 f.term, .int .i64 f.n, .int .i64 f.school, .string f.code]
def kfF : Value → AV
  | .agg xs => .agg (xs.toList.map .sc)
  | v => .sc v
theorem kfF_ky (f : Fa) : kfF (kyF f) = fa f := rfl
theorem ky_inj {f g : Fa} (h : kyF f = kyF g) : f = g := by
  obtain ⟨a1, a2, a3, a4, a5, a6, a7⟩ := f
  obtain ⟨b1, b2, b3, b4, b5, b6, b7⟩ := g
  simp only [kyF, Value.agg.injEq, Array.mk.injEq, List.cons.injEq, Value.int.injEq, Value.string.injEq, true_and, and_true] at h
  obtain ⟨h1, h2, h3, h4, h5, h6, h7⟩ := h
  rw [h1, h2, h3, h4, h5, h6, h7]
abbrev kvF (M : List Fa) : List (Value × AV) := M.map fun f => (kyF f, bool true)
theorem kvF_pure (M : List Fa) : kvPure (kvF M) = true := List.all_eq_true.2 fun x hx => by
  obtain ⟨y, _, rfl⟩ := List.mem_map.1 hx; rfl
theorem kvF_solid (M : List Fa) : ((kvF M).all fun x => x.2.solid) = true := List.all_eq_true.2 fun x hx => by
  obtain ⟨y, _, rfl⟩ := List.mem_map.1 hx; rfl
abbrev mty : TypeId := 93
abbrev fsl : TypeId := 23
abbrev bxF (id n : Nat) : Blk := .row 1 fsl [.slm {} id 7 0 n]
abbrev rwF (L : List Fa) : Blk := .row 7 fty (L.map fa)
/-! What the loop's body is given and leaves. -/
abbrev apH (L : List Fa) : AH := [(0, bxF 1 L.length), (1, rwF L)]
abbrev apT (L : List Fa) : AH := [(0, bxF 2 L.length), (2, rwF L)]
abbrev kmH (ck : Nat) (M : List Fa) : AH := [(0, .map ck (kvF M)), (1, .row 1 mty [.mp 0])]
abbrev kH (ck : Nat) (M : List Fa) : AH := kmH ck M ++ [(2, bxF 3 0), (3, rwF [])]
abbrev kT (ck : Nat) (M L : List Fa) : AH := kmH ck M ++ [(2, bxF 4 L.length), (4, rwF L)]
abbrev kL (L : List Fa) : AH := [(1, .row 1 mty [.mp 0]), (2, bxF 4 L.length), (4, rwF L)]
abbrev kZ (id : Nat) (L : List Fa) : AH := [(1, .row 1 mty [.mp 0]), (2, bxF id L.length), (id, rwF L)]
theorem apN (L : List Fa) (ok : Nat → Bool) (h : ok 1 = true) : namesAll ok (apH L) = true := by
  have h2 : namesAll ok [(1, rwF L)] = true := namesAll.row (pure_fa _) rfl
  rw [namesAll, h2]
  simp only [Blk.names, AV.namesL, AV.names, h]; rfl
theorem aptN (L : List Fa) (ok : Nat → Bool) (h : ok 2 = true) : namesAll ok (apT L) = true := by
  have h2 : namesAll ok [(2, rwF L)] = true := namesAll.row (pure_fa _) rfl
  rw [namesAll, h2]
  simp only [Blk.names, AV.namesL, AV.names, h]; rfl
theorem klN (id : Nat) (L : List Fa) (ok : Nat → Bool) (h0 : ok 0 = true) (h : ok id = true) : namesAll ok (kZ id L) = true := by
  have h2 : namesAll ok [(id, rwF L)] = true := namesAll.row (pure_fa _) rfl
  rw [namesAll, namesAll, h2]
  simp only [Blk.names, AV.namesL, AV.names, h, h0]; rfl
theorem ktN (ck : Nat) (M L : List Fa) (ok : Nat → Bool) (h0 : ok 0 = true) (h : ok 4 = true) : namesAll ok (kT ck M L) = true := namesAll.map (kvF_pure M) (klN 4 L ok h0 h)
def rk4 : Nat → Nat | 4 => 3 | i => i
def rk6 : Nat → Nat | 4 => 6 | i => i
def rka : Nat → Nat | 0 => 2 | 1 => 4 | 2 => 6 | i => i + 7
/-- The state at the head of the loop. -/
abbrev kyS (rb : Nat) (y : AV) : Array Nat × List Fa → AS
  | (_, L) => ⟨[(0, y), (5, .sc (.pointer (some ⟨rb, 0, none⟩)))], kL L, 5⟩
abbrev kyE (rb : Nat) (y : AV) (L : List Fa) (b : Bool) : AS := ⟨[(0, y), (5, .sc (.pointer (some ⟨rb, 0, none⟩))), (7, bool b)], kL L, 5⟩
abbrev kyG (rb : Nat) (y : AV) (L : List Fa) (f : Fa) : AS := ⟨[(0, y), (3, .ptr 5 7 0 0), (5, .sc (.pointer (some ⟨rb, 0, none⟩)))], kL L ++ [(5, .row 7 fty [fa f])], 6⟩
theorem kgN (L : List Fa) (f : Fa) (ok : Nat → Bool) (h0 : ok 0 = true) (h : ok 4 = true) : namesAll ok (kL L ++ [(5, .row 7 fty [fa f])]) = true := by
  have h2 : namesAll ok [(4, rwF L), (5, .row 7 fty [fa f])] = true := namesAll.row (pure_fa _) (namesAll.row rfl rfl)
  show namesAll ok ((1, _) :: (2, _) :: [(4, rwF L), (5, .row 7 fty [fa f])]) = true
  rw [namesAll, namesAll, h2]
  simp only [Blk.names, AV.namesL, AV.names, h, h0]; rfl
/-- What has come out: the facts whose entries were seen. -/
structure KInv (ents : Array MapEntry) (M : List Fa) (i : Array Nat × List Fa) : Prop where
  nd : i.2.Nodup
  sub : ∀ f ∈ i.2, f ∈ M
  seen : ∀ e ∈ ents.toList, ∀ f, e.key = kyF f → (f ∈ i.2 ↔ i.1.contains e.born = true)
theorem ents_mem {M : List Fa} {ck : Nat} {ents : Array MapEntry} (h : EntsOk (kvF M) ck ents) {e : MapEntry} (he : e ∈ ents.toList) : ∃ f ∈ M, e.key = kyF f := by
  obtain ⟨i, hi, rfl⟩ := List.getElem_of_mem he
  have hl : i < (kvF M).length := by rw [h.len]; simpa using hi
  have hl' : i < M.length := by simpa using hl
  refine ⟨M[i], List.getElem_mem _, ?_⟩
  refine h.key i (kyF M[i]) (bool true) _ ?_ ?_
  · rw [List.getElem?_map, List.getElem?_eq_getElem hl']; rfl
  · rw [← Array.getElem?_toList, List.getElem?_eq_getElem hi]
theorem ents_of {M : List Fa} {ck : Nat} {ents : Array MapEntry} (h : EntsOk (kvF M) ck ents) {f : Fa} (hf : f ∈ M) : ∃ e ∈ ents.toList, e.key = kyF f := by
  obtain ⟨i, hi, rfl⟩ := List.getElem_of_mem hf
  have hl : i < ents.toList.length := by
    have := h.len
    simp only [List.length_map] at this
    simp; omega
  refine ⟨ents.toList[i], List.getElem_mem _, ?_⟩
  refine h.key i (kyF M[i]) (bool true) _ ?_ ?_
  · rw [List.getElem?_map, List.getElem?_eq_getElem hi]; rfl
  · rw [← Array.getElem?_toList, List.getElem?_eq_getElem hl]
theorem ents_uniq {M : List Fa} {ck : Nat} {ents : Array MapEntry} (h : EntsOk (kvF M) ck ents) (hM : M.Nodup) {d e : MapEntry} (hd : d ∈ ents.toList) (he : e ∈ ents.toList) (hk : d.key = e.key) : d = e := by
  obtain ⟨i, hi, rfl⟩ := List.getElem_of_mem hd
  obtain ⟨j, hj, rfl⟩ := List.getElem_of_mem he
  have hlen := h.len
  simp only [List.length_map] at hlen
  have hi' : i < M.length := by simp at hi; omega
  have hj' : j < M.length := by simp at hj; omega
  have e1 := h.key i (kyF M[i]) (bool true) _ (by rw [List.getElem?_map, List.getElem?_eq_getElem hi']; rfl) (by rw [← Array.getElem?_toList, List.getElem?_eq_getElem hi])
  have e2 := h.key j (kyF M[j]) (bool true) _ (by rw [List.getElem?_map, List.getElem?_eq_getElem hj']; rfl) (by rw [← Array.getElem?_toList, List.getElem?_eq_getElem hj])
  rw [e1, e2] at hk
  have := ky_inj hk
  have : i = j := (List.getElem_inj hM).1 this
  subst this; rfl
theorem ents_born {kv : List (Value × AV)} {ck : Nat} {ents : Array MapEntry} (h : EntsOk kv ck ents) : (ents.toList.map (·.born)).Nodup := by
  rw [List.Nodup, List.pairwise_map, List.pairwise_iff_getElem]
  intro i j hi hj hij e
  have := h.inc i j _ _ hij (by rw [← Array.getElem?_toList, List.getElem?_eq_getElem hi]) (by rw [← Array.getElem?_toList, List.getElem?_eq_getElem hj])
  rw [e] at this
  exact Nat.lt_irrefl _ this
theorem KInv.nil (ents : Array MapEntry) (M : List Fa) : KInv ents M (#[], []) := ⟨List.nodup_nil, (fun f h => absurd h List.not_mem_nil), (fun e _ f _ => by simp)⟩
theorem KInv.add {ents : Array MapEntry} {M : List Fa} {ck : Nat} (hE : EntsOk (kvF M) ck ents) (hM : M.Nodup) {seen : Array Nat} {L : List Fa} (h : KInv ents M (seen, L)) {e : MapEntry} (he : e ∈ (leftOf ents seen).toList) {f : Fa} (hf : f ∈ M) (hk : e.key = kyF f) : KInv ents M (seen.push e.born, L ++ [f]) := by
  obtain ⟨he1, he2⟩ := mem_left he
  have hnot : f ∉ L := fun hm => by
    have := (h.seen e he1 f hk).1 hm
    rw [he2] at this; cases this
  refine ⟨?_, fun g hg => ?_, fun d hd g hg => ?_⟩
  · refine List.nodup_append.2 ⟨h.nd, List.pairwise_singleton _ _, fun a ha b hb => ?_⟩
    rw [List.mem_singleton.1 hb]
    rintro rfl
    exact hnot ha
  · rcases List.mem_append.1 hg with hg | hg
    · exact h.sub g hg
    · rw [List.mem_singleton.1 hg]; exact hf
  · have h1 := h.seen d hd g hg
    simp only at h1
    have h2 : (seen.push e.born).contains d.born = true ↔ seen.contains d.born = true ∨ d.born = e.born := by simp
    rw [h2, List.mem_append, h1, List.mem_singleton]
    constructor
    · rintro (a | rfl)
      · exact .inl a
      · have := ents_uniq hE hM hd he1 (hg.trans hk.symm)
        rw [this]; exact .inr rfl
    · rintro (a | a)
      · exact .inl a
      · have : d = e := by
          have hb := ents_born hE
          obtain ⟨i, hi, rfl⟩ := List.getElem_of_mem hd
          obtain ⟨j, hj, rfl⟩ := List.getElem_of_mem he1
          have hi' : i < (ents.toList.map (·.born)).length := by simpa using hi
          have hj' : j < (ents.toList.map (·.born)).length := by simpa using hj
          have : i = j := (List.getElem_inj (h₀ := hi') (h₁ := hj') hb).1 (by simpa using a)
          subst this; rfl
        subst this
        exact .inr (ky_inj (hg.symm.trans hk))
theorem KInv.all {ents : Array MapEntry} {M : List Fa} {ck : Nat} (hE : EntsOk (kvF M) ck ents) {seen : Array Nat} {L : List Fa} (h : KInv ents M (seen, L)) (h0 : (leftOf ents seen).size = 0) : L.Nodup ∧ ∀ x, x ∈ L ↔ x ∈ M := by
  refine ⟨h.nd, fun x => ⟨h.sub x, fun hx => ?_⟩⟩
  obtain ⟨e, he, hk⟩ := ents_of hE hx
  exact (h.seen e he x hk).2 (all_seen ents seen h0 e he)
theorem nodup_len {α : Type} [DecidableEq α] : ∀ {L M : List α}, L.Nodup → (∀ x ∈ L, x ∈ M) → L.length ≤ M.length
  | [], M, _, _ => Nat.zero_le _
  | x :: L, M, h, hs => by
    obtain ⟨h1, h2⟩ := List.nodup_cons.1 h
    have hx := hs x (List.mem_cons_self ..)
    have := nodup_len (M := M.erase x) h2 fun y hy => (List.mem_erase_of_ne (fun e => h1 (by rw [← e]; exact hy))).2 (hs y (List.mem_cons_of_mem _ hy))
    rw [List.length_erase_of_mem hx] at this
    have : 0 < M.length := List.length_pos_of_mem hx
    rw [List.length_cons]; omega
theorem Keys_f (M : List Fa) (ck : Nat) : AFun Tryz.prog 51 1 [.mp 0] [(0, .map ck (kvF M))] (.clo 77 [.ptr 1 1 0 0]) (kmH ck M) := by
  refine AFun.of_W T_ok mixed Tryz.func51 rfl (Nat.le_of_ble_eq_true rfl) rfl ?_
  ((repeat ((conv => whnf); (first | (refine LetN.pre ?_; first | ((conv => arg 1; whnf); refine LetN.mk ?_)) | (refine As.pre ?_; first | refine As.mk rfl ?_) | (refine Ck.pre ?_; first | refine Ck.mk rfl ?_)))); (try (conv => whnf)))
  exact ⟨.inl rfl, ⟨_, rfl, rfl⟩, rfl, rfl, trivial⟩
set_option maxHeartbeats 1600000 in
set_option maxRecDepth 100000 in
theorem Keys1_D (M : List Fa) (ck : Nat) (hM : M.Nodup) (hl : M.length ≤ 1000) (lp : Nat) (rc : Loop) (hps : rc.params.size = 1) (ks : List Nat)
    (hy : ∀ (L : List Fa) (f : Fa), L.length ≤ 1000 → AFunC (CY Tryz.prog lp rc) 2 [.yl lp rc ks [.ptr 0 1 0 0], fa f] (apH L) (bool true) (apT (L ++ [f]))) :
    DFun Tryz.prog 77 4 [.yl lp rc ks [.ptr 2 1 0 0], .ptr 1 1 0 0] (kH ck M) fun v H' => v = .tup [] ∧ ∃ L : List Fa, (L.Nodup ∧ ∀ x, x ∈ L ↔ x ∈ M) ∧ H' = kT ck M L := by
  refine DFun.of_D T_ok Tryz.func77 rfl (Nat.le_of_ble_eq_true rfl) ?_
  refine DRuns.range T_ok (mid := 0) (ck := ck) (kv := kvF M) 1 rfl (Nat.le_refl _) rfl (by decide) (fun x hx => ?hv) ?_
  case hv =>
    obtain ⟨y, _, rfl⟩ := List.mem_map.1 hx
    exact ⟨_, rfl⟩
  ((repeat ((conv => whnf); (first | (refine As.pre ?_; first | refine As.mk rfl ?_) | (refine LetV.pre ?_; first | refine LetV.mk (t := mty) (.mp _) rfl ?_) | (refine Ck.pre ?_; first | refine Ck.mk rfl ?_)))); (try (conv => whnf)))
  refine ⟨_, 31, 4, _, rfl, by kernel_rfl, rfl, rfl, rfl, rfl, fun rb => ?_⟩
  ((try (conv => whnf)))
  refine ⟨rfl, fun mb ents w0 g0 H0 hE hrb hne => ?_⟩
  refine KRuns.pre (s1 := kyS rb (.yl lp rc ks [.ptr 2 1 0 0]) (#[], [])) ?sw1 ?_
  case sw1 => exact SW.mk rk4 rfl rfl (klN 4 _ _ rfl rfl) ⟨.refl _, .refl _, trivial⟩ (haveV.one rfl (haveV.one rfl (haveV.row rfl rfl trivial)))
  refine KRuns.block ?_
  refine KRuns.loop (kyS rb (.yl lp rc ks [.ptr 2 1 0 0])) (fun i => [(rb, .mapIter (some mb) ck i.1 ck), (mb, .map ents ck)]) (fun i => (leftOf ents i.1).size) (KInv ents M) (fun i hi => ?_) (#[], []) (KInv.nil ents M)
  obtain ⟨seen, L⟩ := i
  have hold : ∀ x ∈ ents.toList, x.born < ck := fun x hx => by
    obtain ⟨j, hj, rfl⟩ := List.getElem_of_mem hx
    exact hE.old j _ (by rw [← Array.getElem?_toList, List.getElem?_eq_getElem hj])
  have hkf : ∀ e ∈ ents.toList, ∀ w g, Cv w g (kfF e.key) e.key := fun e he w g => by
    obtain ⟨f, _, hk⟩ := ents_mem hE he
    rw [hk, kfF_ky]
    refine .agg rfl fun j c x hj hx => ?_
    match j with
    | 0 | 1 | 2 | 3 | 4 | 5 | 6 => simp at hj hx; subst hj hx; exact .sc _ rfl
    | j + 7 => simp at hj
  have hlL : L.length ≤ 1000 := Nat.le_trans (nodup_len hi.nd hi.sub) hl
  refine KRuns.seq (KRuns.mono (KRuns.next T_ok 0 rfl (Nat.le_of_ble_eq_true rfl) rfl hold (Nat.le_refl _) hne hrb hkf
    (R0 := fun s' => SW 4 Tryz.f77.ntmps s' (kyE rb (.yl lp rc ks [.ptr 2 1 0 0]) L false)) (R1 := fun _ s' => SW 4 Tryz.f77.ntmps s' (kyE rb (.yl lp rc ks [.ptr 2 1 0 0]) L true)) ?v) ?post)
  case v =>
    refine ⟨_, rfl, rfl, rfl, rfl, fun h0 => ?_, fun e he => ?_⟩
    · ((repeat ((conv => whnf); (first | (refine As.pre ?_; first | refine As.mk rfl ?_) | (refine Ck.pre ?_; first | refine Ck.mk rfl ?_)))); (try (conv => whnf)))
      exact SW.mk id rfl rfl (klN 4 _ _ rfl rfl) ⟨.refl _, .refl _, .refl _, trivial⟩ (haveV.one rfl (haveV.one rfl (haveV.row (pure_fa _) rfl trivial)))
    · ((repeat ((conv => whnf); (first | (refine As.pre ?_; first | refine As.mk rfl ?_) | (refine Ck.pre ?_; first | refine Ck.mk rfl ?_)))); (try (conv => whnf)))
      exact SW.mk id rfl rfl (klN 4 _ _ rfl rfl) ⟨.refl _, .refl _, .refl _, trivial⟩ (haveV.one rfl (haveV.one rfl (haveV.row (pure_fa _) rfl trivial)))
  case post =>
    rintro e s1 q ⟨rfl, ⟨h0, hR, rfl⟩ | ⟨en, hen, hR, rfl⟩⟩
    · refine KRuns.pre hR ?_
      refine KRuns.of_D (DRuns.of_VS (VS.seq (VS.condF rfl rfl (VS.exit ?_)))) (fun _ _ h => h)
      refine .inr ⟨(fun h => by cases h), ?_⟩
      obtain ⟨hnd, hmem⟩ := hi.all hE h0
      refine ⟨List.mem_cons_of_mem _ (List.mem_cons_self ..), .tup [], kT ck M L, ⟨rfl, L, ⟨hnd, hmem⟩, rfl⟩, ?_⟩
      exact ⟨⟨[], kT ck M L, 5⟩, SW.mk id rfl rfl (ktN ck M L _ rfl rfl) trivial (haveV.map (kvF_pure M) rfl (haveV.one rfl (haveV.one rfl (haveV.row (pure_fa _) rfl trivial)))), .inr rfl, ⟨_, rfl, rfl⟩, rfl, rfl, rfl, rfl, trivial⟩
    · obtain ⟨f, hf, hk⟩ := ents_mem hE (mem_left hen).1
      refine KRuns.pre hR (KRuns.seq (KRuns.of_D (DRuns.of_VS (VS.condT rfl rfl (VS.skip (Q := fun e s1 => e = .normal ∧ s1 = kyE rb (.yl lp rc ks [.ptr 2 1 0 0]) L true) ⟨rfl, rfl⟩))) ?_))
      rintro e s1 ⟨rfl, rfl⟩
      refine KRuns.block (KRuns.seq (KRuns.mono (KRuns.entry T_ok 0 rfl (Nat.le_of_ble_eq_true rfl) rfl (mem_left hen).1 (ents_born hE) (hkf en (mem_left hen).1)
        (R1 := fun s' => SW 4 Tryz.f77.ntmps s' (kyG rb (.yl lp rc ks [.ptr 2 1 0 0]) L f)) ?v2) ?post2))
      case v2 =>
        refine ⟨_, rfl, rfl, rfl, rfl, ?_⟩
        rw [hk, kfF_ky]
        ((repeat ((conv => whnf); (first | (refine LetN.pre ?_; first | ((conv => arg 1; whnf); refine LetN.mk ?_)) | (refine As.pre ?_; first | refine As.mk rfl ?_) | (refine Ck.pre ?_; first | refine Ck.mk rfl ?_) | (refine LetL.pre ?_; first | refine LetL.mk [_] rfl ?_)))); (try (conv => whnf)))
        exact SW.mk id rfl rfl (kgN L f _ rfl rfl) ⟨.refl _, .refl _, .refl _, trivial⟩ (haveV.one rfl (haveV.one rfl (haveV.row (pure_fa _) rfl (haveV.row rfl rfl trivial))))
      case post2 =>
        rintro e s1 q ⟨rfl, hR1, rfl⟩
        refine KRuns.pre hR1 ?_
        have hyi := hy L f hlL
        refine KRuns.of_D (DRuns.of_VS (VS.of_V T_ok mixed rfl (Q := fun e s1 => e = .normal ∧ SW 4 Tryz.f77.ntmps s1 (kyS rb (.yl lp rc ks [.ptr 2 1 0 0]) (seen.push en.born, L ++ [f]))) ?v3)) ?fin
        case fin =>
          rintro e s1 ⟨rfl, hS⟩
          exact .inl ⟨rfl, (seen.push en.born, L ++ [f]), hi.add hE hM hen hf hk, left_shrinks ents seen en hen, rfl, hS⟩
        case v3 =>
          ((repeat ((conv => whnf); (first | (refine LetN.pre ?_; first | ((conv => arg 1; whnf); refine LetN.mk ?_)) | (refine As.pre ?_; first | refine As.mk rfl ?_) | (refine LetV.pre ?_; first | refine LetV.mk (.agg _) rfl ?_) | (refine Br.pre ?_; first | refine Br.ff rfl ?_) | (refine Ck.pre ?_; first | refine Ck.mk rfl ?_) | (refine LetL.pre ?_; first | refine LetL.mk (ty := fty) _ (renL_none (pure_fa _)).symm ?_ | refine LetL.mk [_] rfl ?_) | ((refine YieldN.own rka hyi (by rw [hps]; rfl) (CallOk.mk' rfl rfl rfl (apN _ _ rfl) rfl (aptN _ _ rfl) ⟨rfl, haveAll.row (pure_fa _) rfl trivial⟩) ?_))))); (try (conv => whnf)))


          refine ⟨rfl, ?_⟩
          exact SW.mk rk6 rfl rfl (klN 4 _ _ rfl rfl) ⟨.refl _, .refl _, trivial⟩ (haveV.one rfl (haveV.one rfl (haveV.row (pure_fa _) rfl trivial)))
end En
end Go.Proofs.YtgnakhljdjekbaaGreatDoor
namespace Go.Proofs.YtgnakhljdjekbaaGreatDoor
open Go.Proofs.YtgnakhljdjekbaaGreatDoor.Am
set_option maxRecDepth 100000
namespace En
/-! ### The keys collected and sorted -/
theorem app_fa (l : List Fa) (e : Fa) (n : Nat) (h : n = l.length) : (l ++ [e]).map fa = (l.map fa).take n ++ [fa e] := by rw [List.take_of_length_le (by simp [h]), List.map_append]; rfl
theorem room_fa {n : Nat} (h : n ≤ 1000000) : room n 64 = true := by
  simp only [room, Bool.and_eq_true, decide_eq_true_eq]
  exact ⟨by omega, rfl⟩
theorem kt_call (ck : Nat) (M L : List Fa) : atCall id (kH ck M) (.tup []) (kT ck M L) = { v := .tup [], D := [0, 1, 2, 3], δ := [(0, some (.map ck (kvF M))), (1, some (.row 1 mty [.mp 0])), (2, some (bxF 4 L.length)), (4, some (rwF L)), (3, none)] } := by
  show ({ v := _, D := _, δ := [(0, some (.map ck ((kvF M).map fun x => (x.1, x.2.ren id)))), (1, _), (2, _), (4, some (.row 7 fty (AV.renL id (L.map fa)))), (3, none)] } : Out) = _
  rw [kv_ren (kvF_pure M), renL_none (pure_fa L)]; rfl
abbrev keysC : AV := .clo 77 [.ptr 1 1 0 0]
abbrev sqH (ck : Nat) (M : List Fa) (L : List Fa) : AH := kmH ck M ++ [(2, rwF L)]
theorem sqN (ck : Nat) (M L : List Fa) (ok : Nat → Bool) (h0 : ok 0 = true) : namesAll ok (sqH ck M L) = true := namesAll.map (kvF_pure M) (by
  have h2 : namesAll ok [(2, rwF L)] = true := namesAll.row (pure_fa _) rfl
  show namesAll ok ((1, _) :: [(2, rwF L)]) = true
  rw [namesAll, h2]
  simp only [Blk.names, AV.namesL, AV.names, h0]; rfl)
def rk2 : Nat → Nat | 2 => 4 | i => i
/-- What the collection may be: the facts of the map, each once. -/
def JSeq (ck : Nat) (M : List Fa) (v : AV) (H : AH) : Prop := ∃ L : List Fa, (L.Nodup ∧ ∀ x, x ∈ L ↔ x ∈ M) ∧ v = .slm {} 2 7 0 L.length ∧ H = sqH ck M L
set_option maxHeartbeats 1600000 in
set_option maxRecDepth 100000 in
theorem AppendSeq_D (M : List Fa) (ck : Nat) (hM : M.Nodup) (hl : M.length ≤ 1000) : DFun Tryz.prog 92 2 [.sc (.slice none 0 0), keysC] (kmH ck M) (JSeq ck M) := by
  refine DFun.of_D T_ok Tryz.func92 rfl (Nat.le_of_ble_eq_true rfl) ?_
  refine DRuns.seq (DRuns.of_VS (VS.of_V T_ok mixed rfl ?_))
  ((repeat ((conv => whnf); (first | (refine LetN.pre ?_; first | ((conv => arg 1; whnf); refine LetN.mk ?_)) | (refine As.pre ?_; first | refine As.mk rfl ?_) | (refine Ck.pre ?_; first | refine Ck.mk rfl ?_)))); (try (conv => whnf)))
  refine DRuns.seq (DRuns.seq (DRuns.of_VS (VS.of_V T_ok mixed rfl ?_)))
  ((repeat ((conv => whnf); (first | (refine As.pre ?_; first | refine As.mk rfl ?_) | (refine Ck.pre ?_; first | refine Ck.mk rfl ?_)))); (try (conv => whnf)))
  refine DRuns.pre (s1 := ⟨[(2, .ptr 2 1 0 0), (6, keysC)], kH ck M, 4⟩) ?sw ?_
  case sw =>
    refine SW.trans (SW.box (id := 2) (ty := fsl) (x := .sc (.slice none 0 0)) (y := .slm {} 3 7 0 0) rfl rfl rfl VLe2.nilslm.cle) ?_
    exact SW.mk id rfl rfl (namesAll.map (kvF_pure M) rfl) ⟨.refl _, .refl _, trivial⟩ (haveV.map (kvF_pure M) rfl (haveV.one rfl (haveV.one rfl (haveV.nil (Nat.le_of_ble_eq_true rfl) trivial))))
  refine DRuns.blockN (DRuns.mono (DRuns.rangeFunc (J := fun r => ∃ L : List Fa, (L.Nodup ∧ ∀ x, x ∈ L ↔ x ∈ M) ∧ r = atCall id (kH ck M) (.tup []) (kT ck M L)) [2] (Nat.le_of_ble_eq_true rfl) rfl rfl (by kernel_rfl) (fun lp rc h1 h2 h3 h4 h5 h6 w g xs hxl hx hH hN => ?it) ?hJ) ?fin)
  case hJ =>
    rintro r ⟨L, _, rfl⟩
    rw [kt_call]
    exact ⟨rfl, solidH.map (kvF_solid M) (solidH.row rfl (solidH.row rfl (solidH.row (solid_fa _) rfl)))⟩
  case it =>
    refine (DFun.calls (v0 := .tup []) (H0 := kT ck M []) id (Keys1_D M ck hM hl lp rc (by rw [h1]; rfl) [2] fun L f hL => ?hy) (CallOk.mk' rfl rfl rfl (namesAll.map (kvF_pure M) rfl) rfl (ktN ck M [] _ rfl rfl) (haveAll.map (kvF_pure M) rfl ⟨rfl, rfl, rfl, trivial⟩)) ?okA w g xs hxl hx hH ?hn).mono ?_
    case hy =>
      refine yield_of_V T_ok mixed h1 h2 h3 h4 h5 h6 rfl rfl rfl (solidH.row rfl (solidH.row (solid_fa _) rfl)) rfl ?_
      ((repeat ((conv => whnf); (first | (refine LetN.pre ?_; first | ((conv => arg 1; whnf); refine LetN.mk ?_)) | (refine As.pre ?_; first | refine As.mk rfl ?_) | (refine Ck.pre ?_; first | refine Ck.mk rfl ?_) | (refine LetL.pre ?_; first | refine LetL.mk [_] rfl ?_)))); (try (conv => whnf)))
      refine ⟨rfl, ?_⟩
      have r1 := room_fa (n := L.length + 1) (by omega)
      have a1 := app_fa L f L.length rfl
      have l1 : (L ++ [f]).length = L.length + 1 := by simp
      ((repeat ((conv => whnf); (first | (refine LetN.pre ?_; first | ((conv => arg 1; whnf); refine LetN.mk ?_)) | (refine As.pre ?_; first | refine As.mk rfl ?_ | (refine As.mk ?_ ?_; · ((repeat' (refine andT ?_ ?_)) <;> (first | rfl | assumption | exact decide_eq_true (by omega) | exact decide_eq_true (by dsimp only; omega) | exact decide_eq_true (by simp; omega) | (simp; done))))) | (refine LetV.pre ?_; first | refine LetV.mk (.agg _) rfl ?_ | refine LetV.mk (.slm _ _ _ _ _) rfl ?_) | (refine Ck.pre ?_; first | refine Ck.mk rfl ?_) | (refine LetL.pre ?_; first | refine LetL.mk (ty := fty) _ a1 ?_ | refine LetL.mk [_] rfl ?_)))); (try (conv => whnf)))
      refine ⟨rfl, ⟨[], apT (L ++ [f]), 3⟩, ?_, rfl⟩
      refine SW.trans (SW.box (id := 0) (ty := fsl) (x := .slm _ 3 7 0 _) (y := .slm {} 3 7 0 (L ++ [f]).length) rfl rfl rfl (VLe2.slm_of l1).cle) ?_
      exact SW.mk (fun i => match i with | 2 => 3 | i => i) rfl rfl (aptN _ _ rfl) trivial (haveV.one rfl (haveV.row (pure_fa _) rfl trivial))
    case okA =>
      rintro v H' ⟨rfl, L, hL, rfl⟩
      exact CallOk.mk' rfl rfl rfl (namesAll.map (kvF_pure M) rfl) rfl (ktN ck M L _ rfl rfl) (haveAll.map (kvF_pure M) rfl ⟨rfl, rfl, rfl, trivial⟩)
    case hn =>
      rintro v H' ⟨rfl, L, hL, rfl⟩ q hq hn
      have hnw : newOk (kH ck M) 4 (atCall id (kH ck M) (.tup []) (kT ck M L)).δ = true := by rw [kt_call]; rfl
      have := List.all_eq_true.1 hnw q hq
      rw [show (kH ck M).get q.1 = none from hn] at this
      exact hN q.1 (by simpa using this)
    · rintro e w' ⟨x, rfl, v, H', ⟨rfl, L, hL, rfl⟩, hP⟩
      exact ⟨x, rfl, _, ⟨L, hL, rfl⟩, hP⟩
  case fin =>
    rintro e s' ⟨r, ⟨L, hL, rfl⟩, rfl, rfl⟩
    refine ⟨rfl, ?_⟩
    rw [kt_call]
    refine DRuns.of_VS (VS.of_V T_ok mixed rfl ?_)
    ((repeat ((conv => whnf); (first | (refine As.pre ?_; first | refine As.mk rfl ?_) | (refine LetV.pre ?_; first | refine LetV.mk (.slm _ _ _ _ _) rfl ?_) | (refine Ck.pre ?_; first | refine Ck.mk rfl ?_)))); (try (conv => whnf)))
    refine ⟨.slm {} 2 7 0 L.length, sqH ck M L, ⟨L, hL, rfl, rfl⟩, ?_⟩
    exact ⟨⟨[(4, .slm {} 2 7 0 L.length)], sqH ck M L, 3⟩, SW.mk rk2 rfl rfl (sqN ck M L _ rfl) ⟨.refl _, trivial⟩ (haveV.map (kvF_pure M) rfl (haveV.one rfl (haveV.row (pure_fa _) rfl trivial))), .inl rfl, ⟨_, rfl, rfl⟩, rfl, rfl, rfl, trivial⟩
end En
end Go.Proofs.YtgnakhljdjekbaaGreatDoor
namespace Go.Proofs.YtgnakhljdjekbaaGreatDoor
open Go.Proofs.YtgnakhljdjekbaaGreatDoor.Am
set_option maxRecDepth 100000
namespace En
set_option maxHeartbeats 1600000 in
set_option maxRecDepth 100000 in
theorem Collect_D (M : List Fa) (ck : Nat) (hM : M.Nodup) (hl : M.length ≤ 1000) : DFun Tryz.prog 75 2 [keysC] (kmH ck M) (JSeq ck M) := by
  refine DFun.of_D T_ok Tryz.func75 rfl (Nat.le_of_ble_eq_true rfl) ?_
  refine DRuns.seq (DRuns.of_VS (VS.of_V T_ok mixed rfl ?_))
  ((repeat ((conv => whnf); (first | (refine As.pre ?_; first | refine As.mk rfl ?_) | (refine Ck.pre ?_; first | refine Ck.mk rfl ?_)))); (try (conv => whnf)))
  refine DRuns.seq (DRuns.opx' T_ok 1 rfl (Nat.le_of_ble_eq_true rfl) rfl ?_)
  ((repeat ((conv => whnf); (first | (refine As.pre ?_; first | refine As.mk rfl ?_) | (refine Ck.pre ?_; first | refine Ck.mk rfl ?_)))); (try (conv => whnf)))
  refine OpX.call rfl rfl rfl rfl (by kernel_rfl) (v0 := .slm {} 2 7 0 0) (H0 := sqH ck M []) id (AppendSeq_D M ck hM hl) ?ok0 ?okA ?k
  case ok0 => exact CallOk.mk' rfl rfl rfl (namesAll.map (kvF_pure M) rfl) rfl (sqN ck M [] _ rfl) (haveAll.map (kvF_pure M) rfl ⟨rfl, trivial⟩)
  case okA =>
    rintro v H' ⟨L, hL, rfl, rfl⟩
    exact CallOk.mk' rfl rfl rfl (namesAll.map (kvF_pure M) rfl) rfl (sqN ck M L _ rfl) (haveAll.map (kvF_pure M) rfl ⟨rfl, trivial⟩)
  case k =>
    rintro v H' ⟨L, hL, rfl, rfl⟩
    have e : atCall id (kmH ck M) (.slm {} 2 7 0 L.length) (sqH ck M L) = { v := .slm {} 2 7 0 L.length, D := [0, 1], δ := [(0, some (.map ck (kvF M))), (1, some (.row 1 mty [.mp 0])), (2, some (rwF L))] } := by
      show ({ v := _, D := _, δ := [(0, some (.map ck ((kvF M).map fun x => (x.1, x.2.ren id)))), (1, _), (2, some (.row 7 fty (AV.renL id (L.map fa))))] } : Out) = _
      rw [kv_ren (kvF_pure M), renL_none (pure_fa L)]; rfl
    rw [e]
    refine ⟨rfl, ?_⟩
    ((repeat ((conv => whnf); (first | (refine As.pre ?_; first | refine As.mk rfl ?_) | (refine Ck.pre ?_; first | refine Ck.mk rfl ?_)))); (try (conv => whnf)))
    refine DRuns.of_VS (VS.of_V T_ok mixed rfl ?_)
    ((try (conv => whnf)))
    refine ⟨.slm {} 2 7 0 L.length, sqH ck M L, ⟨L, hL, rfl, rfl⟩, ?_⟩
    exact ⟨⟨[(2, .slm {} 2 7 0 L.length)], sqH ck M L, 3⟩, SW.mk id rfl rfl (sqN ck M L _ rfl) ⟨.refl _, trivial⟩ (haveV.map (kvF_pure M) rfl (haveV.one rfl (haveV.row (pure_fa _) rfl trivial))), .inl rfl, ⟨_, rfl, rfl⟩, rfl, rfl, rfl, trivial⟩
end En
end Go.Proofs.YtgnakhljdjekbaaGreatDoor
namespace Go.Proofs.YtgnakhljdjekbaaGreatDoor
open Go.Proofs.YtgnakhljdjekbaaGreatDoor.Am
set_option maxRecDepth 100000
namespace En
abbrev u64 (n : Int) : AV := .sc (.int .u64 n)
theorem Len_f : ∀ n : Nat, n ≤ 16 → ∃ v : Int, (0 ≤ v ∧ v ≤ 5) ∧ (0 < n → 0 < v) ∧ AFun Tryz.prog 94 0 [u64 n] [] (int v) []
  | 0, _ => ⟨0, by decide, by decide, AFun.of_calls (evF_sound T_ok mixed 20 _ _ [] 0 _ (by kernel_rfl))⟩
  | 1, _ => ⟨1, by decide, by decide, AFun.of_calls (evF_sound T_ok mixed 20 _ _ [] 0 _ (by kernel_rfl))⟩
  | 2, _ => ⟨2, by decide, by decide, AFun.of_calls (evF_sound T_ok mixed 20 _ _ [] 0 _ (by kernel_rfl))⟩
  | 3, _ => ⟨2, by decide, by decide, AFun.of_calls (evF_sound T_ok mixed 20 _ _ [] 0 _ (by kernel_rfl))⟩
  | 4, _ => ⟨3, by decide, by decide, AFun.of_calls (evF_sound T_ok mixed 20 _ _ [] 0 _ (by kernel_rfl))⟩
  | 5, _ => ⟨3, by decide, by decide, AFun.of_calls (evF_sound T_ok mixed 20 _ _ [] 0 _ (by kernel_rfl))⟩
  | 6, _ => ⟨3, by decide, by decide, AFun.of_calls (evF_sound T_ok mixed 20 _ _ [] 0 _ (by kernel_rfl))⟩
  | 7, _ => ⟨3, by decide, by decide, AFun.of_calls (evF_sound T_ok mixed 20 _ _ [] 0 _ (by kernel_rfl))⟩
  | 8, _ => ⟨4, by decide, by decide, AFun.of_calls (evF_sound T_ok mixed 20 _ _ [] 0 _ (by kernel_rfl))⟩
  | 9, _ => ⟨4, by decide, by decide, AFun.of_calls (evF_sound T_ok mixed 20 _ _ [] 0 _ (by kernel_rfl))⟩
  | 10, _ => ⟨4, by decide, by decide, AFun.of_calls (evF_sound T_ok mixed 20 _ _ [] 0 _ (by kernel_rfl))⟩
  | 11, _ => ⟨4, by decide, by decide, AFun.of_calls (evF_sound T_ok mixed 20 _ _ [] 0 _ (by kernel_rfl))⟩
  | 12, _ => ⟨4, by decide, by decide, AFun.of_calls (evF_sound T_ok mixed 20 _ _ [] 0 _ (by kernel_rfl))⟩
  | 13, _ => ⟨4, by decide, by decide, AFun.of_calls (evF_sound T_ok mixed 20 _ _ [] 0 _ (by kernel_rfl))⟩
  | 14, _ => ⟨4, by decide, by decide, AFun.of_calls (evF_sound T_ok mixed 20 _ _ [] 0 _ (by kernel_rfl))⟩
  | 15, _ => ⟨4, by decide, by decide, AFun.of_calls (evF_sound T_ok mixed 20 _ _ [] 0 _ (by kernel_rfl))⟩
  | 16, _ => ⟨5, by decide, by decide, AFun.of_calls (evF_sound T_ok mixed 20 _ _ [] 0 _ (by kernel_rfl))⟩
  | n + 17, h => absurd h (by omega)
abbrev cmpC : AV := .clo 36 []
theorem pdq_f (l : List Fa) (fl : Fl) (k : Int) (hl : l.length ≤ 12) : AFun Tryz.prog 93 1 [.slm fl 0 7 0 l.length, int 0, int l.length, int k, cmpC] [(0, rwF l)] (.tup []) [(0, rwF (sortS ltF l))] := by
  have hI := Finsertion_f l fl (by omega)
  rw [Fsrt_S] at hI
  refine AFun.of_S T_ok mixed Tryz.func93 rfl (Nat.le_of_ble_eq_true rfl) rfl ?_
  ((repeat ((conv => whnf); (first | (refine As.pre ?_; first | refine As.mk rfl ?_) | (refine Ck.pre ?_; first | refine Ck.mk rfl ?_)))); (try (conv => whnf)))
  refine LoopN.round T_ok mixed rfl ?_
  ((repeat ((conv => whnf); (first | (refine LetN.pre ?_; first | ((conv => arg 1; whnf); refine LetN.mk ?_)) | (refine As.pre ?_; first | refine As.mk rfl ?_) | (refine LetI.pre ?_; first | refine LetI.wrap (by omega) (by omega) ?_) | (refine LetB.pre ?_; first | refine LetB.dect (by omega) ?_) | (refine Br.pre ?_; first | refine Br.tt rfl ?_) | (refine Ck.pre ?_; first | refine Ck.mk rfl ?_) | (refine LetL.pre ?_; first | refine LetL.mk (ty := fty) _ (renL_none (pure_fa _)).symm ?_) | (refine CallN.pre ?_; first | (refine CallN.own id hI (CallOk.mk' rfl rfl rfl (namesAll.row (pure_fa _) rfl) rfl (namesAll.row (pure_fa _) rfl) (haveAll.row (pure_fa _) rfl trivial)) ?_))))); (try (conv => whnf)))
  exact ⟨⟨[], [(0, rwF (sortS ltF l))], 1⟩, SW.mk id rfl rfl (namesAll.row (pure_fa _) rfl) trivial (haveV.row (pure_fa _) rfl trivial), .inl rfl, ⟨_, rfl, rfl⟩, rfl, trivial⟩
theorem SortFunc_f (l : List Fa) (fl : Fl) (hl : l.length ≤ 12) : AFun Tryz.prog 76 1 [.slm fl 0 7 0 l.length, cmpC] [(0, rwF l)] (.tup []) [(0, rwF (sortS ltF l))] := by
  obtain ⟨v, _, _, hL⟩ := Len_f l.length (by omega)
  have hw : IntKind.u64.wrap (l.length : Int) = l.length := by rw [IntKind.wrap_u64]; omega
  have hL : AFun Tryz.prog 94 0 [u64 (IntKind.u64.wrap (l.length : Int))] [] (int v) [] := by rw [hw]; exact hL
  have hI := pdq_f l fl v hl
  refine AFun.of_S T_ok mixed Tryz.func76 rfl (Nat.le_of_ble_eq_true rfl) rfl ?_
  ((repeat ((conv => whnf); (first | (refine LetN.pre ?_; first | ((conv => arg 1; whnf); refine LetN.mk ?_)) | (refine As.pre ?_; first | refine As.mk rfl ?_) | (refine LetI.pre ?_; first | refine LetI.mk _ rfl ?_) | (refine Ck.pre ?_; first | refine Ck.mk rfl ?_) | (refine LetL.pre ?_; first | refine LetL.mk (ty := fty) _ (renL_none (pure_fa _)).symm ?_) | (refine CallN.pre ?_; first | refine CallN.pure hL rfl rfl ?_ | (refine CallN.own id hI (CallOk.mk' rfl rfl rfl (namesAll.row (pure_fa _) rfl) rfl (namesAll.row (pure_fa _) rfl) (haveAll.row (pure_fa _) rfl trivial)) ?_))))); (try (conv => whnf)))
  exact ⟨⟨[], [(0, rwF (sortS ltF l))], 1⟩, SW.mk id rfl rfl (namesAll.row (pure_fa _) rfl) trivial (haveV.row (pure_fa _) rfl trivial), .inr rfl, ⟨_, rfl, rfl⟩, rfl, trivial⟩
def rs2 : Nat → Nat | 0 => 2 | i => i + 7
set_option maxHeartbeats 1600000 in
set_option maxRecDepth 100000 in
theorem SortedFunc_f (M : List Fa) (ck : Nat) (hM : M.Nodup) (hl : M.length ≤ 12) : AFun Tryz.prog 50 2 [keysC, cmpC] (kmH ck M) (.slm {} 2 7 0 (sortS ltF M).length) (sqH ck M (sortS ltF M)) := by
  refine AFun.of_DFun (J := fun v H' => v = .slm {} 2 7 0 (sortS ltF M).length ∧ H' = sqH ck M (sortS ltF M)) ?_ fun v1 H1 h => h
  refine DFun.of_D T_ok Tryz.func50 rfl (Nat.le_of_ble_eq_true rfl) ?_
  refine DRuns.seq (DRuns.of_VS (VS.of_V T_ok mixed rfl ?_))
  ((repeat ((conv => whnf); (first | (refine As.pre ?_; first | refine As.mk rfl ?_) | (refine Ck.pre ?_; first | refine Ck.mk rfl ?_)))); (try (conv => whnf)))
  refine DRuns.seq (DRuns.opx' T_ok 1 rfl (Nat.le_of_ble_eq_true rfl) rfl ?_)
  ((repeat ((conv => whnf); (first | (refine As.pre ?_; first | refine As.mk rfl ?_) | (refine Ck.pre ?_; first | refine Ck.mk rfl ?_)))); (try (conv => whnf)))
  refine OpX.call rfl rfl rfl rfl (by kernel_rfl) (v0 := .slm {} 2 7 0 0) (H0 := sqH ck M []) id (Collect_D M ck hM (by omega)) ?ok0 ?okA ?k
  case ok0 => exact CallOk.mk' rfl rfl rfl (namesAll.map (kvF_pure M) rfl) rfl (sqN ck M [] _ rfl) (haveAll.map (kvF_pure M) rfl ⟨rfl, trivial⟩)
  case okA =>
    rintro v H' ⟨L, hL, rfl, rfl⟩
    exact CallOk.mk' rfl rfl rfl (namesAll.map (kvF_pure M) rfl) rfl (sqN ck M L _ rfl) (haveAll.map (kvF_pure M) rfl ⟨rfl, trivial⟩)
  case k =>
    rintro v H' ⟨L, ⟨hL, hm⟩, rfl, rfl⟩
    have e : atCall id (kmH ck M) (.slm {} 2 7 0 L.length) (sqH ck M L) = { v := .slm {} 2 7 0 L.length, D := [0, 1], δ := [(0, some (.map ck (kvF M))), (1, some (.row 1 mty [.mp 0])), (2, some (rwF L))] } := by
      show ({ v := _, D := _, δ := [(0, some (.map ck ((kvF M).map fun x => (x.1, x.2.ren id)))), (1, _), (2, some (.row 7 fty (AV.renL id (L.map fa))))] } : Out) = _
      rw [kv_ren (kvF_pure M), renL_none (pure_fa L)]; rfl
    rw [e]
    have hS : sortS ltF L = sortS ltF M := S_same hL hM hm
    have hlL : L.length = M.length := Nat.le_antisymm (nodup_len hL fun x hx => (hm x).1 hx) (nodup_len hM fun x hx => (hm x).2 hx)
    have hlS : (sortS ltF M).length = L.length := by rw [hlL]; exact (S_perm ltF M).length_eq
    have hF := SortFunc_f L {} (by omega)
    rw [hS] at hF
    rw [hlS]
    generalize sortS ltF M = S at hF hlS
    refine ⟨rfl, ?_⟩
    ((repeat ((conv => whnf); (first | (refine As.pre ?_; first | refine As.mk rfl ?_) | (refine Ck.pre ?_; first | refine Ck.mk rfl ?_)))); (try (conv => whnf)))
    refine DRuns.of_VS (VS.of_V T_ok mixed rfl ?_)
    ((repeat ((conv => whnf); (first | (refine LetN.pre ?_; first | ((conv => arg 1; whnf); refine LetN.mk ?_)) | (refine As.pre ?_; first | refine As.mk rfl ?_) | (refine Ck.pre ?_; first | refine Ck.mk rfl ?_) | (refine LetL.pre ?_; first | refine LetL.mk (ty := fty) _ (renL_none (pure_fa _)).symm ?_) | (refine CallN.pre ?_; first | (refine CallN.own rs2 hF (CallOk.mk' rfl rfl rfl (namesAll.row (pure_fa _) rfl) rfl (namesAll.row (pure_fa _) rfl) (haveAll.row (pure_fa _) rfl trivial)) ?_))))); (try (conv => whnf)))


    refine ⟨_, _, ⟨rfl, rfl⟩, ?_⟩
    exact ⟨⟨[(4, .slm {} 2 7 0 L.length)], sqH ck M S, 3⟩, SW.mk id rfl rfl (sqN ck M S _ rfl) ⟨.refl _, trivial⟩ (haveV.map (kvF_pure M) rfl (haveV.one rfl (haveV.row (pure_fa _) rfl trivial))), .inl rfl, ⟨_, rfl, rfl⟩, rfl, rfl, rfl, trivial⟩
end En
end Go.Proofs.YtgnakhljdjekbaaGreatDoor
namespace Go.Proofs.YtgnakhljdjekbaaGreatDoor
open Go.Proofs.YtgnakhljdjekbaaGreatDoor.Am
set_option maxRecDepth 100000
namespace En
/-! ### Facts as keys -/
abbrev okI (n : Int) : Prop := -9223372036854775808 ≤ n ∧ n ≤ 9223372036854775807
/-- The numbers of a fact fit. -/
abbrev okF (f : Fa) : Prop := okI f.kind ∧ okI f.student ∧ okI f.id ∧ okI f.term ∧ okI f.n ∧ okI f.school ∧ f.code.size ≤ maxLen
theorem litsF_int {n : Int} (d : Nat) (h : okI n) : Tryz.prog.keyLits (d + 1) 3 [.int .i64 n] = some [.int .i64 n] := by
  have hu : Tryz.prog.underlying 3 = some (.int .i64) := TT.Ok.int T_ok (t := 3) rfl rfl
  have hw : (Lit.int .i64 n).wf = true := by
    simp only [Lit.wf, Bool.and_eq_true, decide_eq_true_eq]
    exact h
  simp [Program.keyLits, hu, hw]
theorem litsF_str {s : ByteArray} (d : Nat) (h : s.size ≤ maxLen) : Tryz.prog.keyLits (d + 1) 9 [.string s] = some [.string s.data.toList] := by
  have hu : Tryz.prog.underlying 9 = some .string := TT.Ok.str T_ok (t := 9) rfl rfl
  simp [Program.keyLits, hu, h]
theorem litsF_course {n : Int} {s : ByteArray} (d : Nat) (h : okI n) (hs : s.size ≤ maxLen) : (Tryz.prog.keyLits (d + 2) 29 [.int .i64 n, .string s]).isSome = true := by
  obtain ⟨fs, hu, hl⟩ := TT.Ok.struct T_ok (t := 29) rfl rfl
  have hcell : Tryz.prog.cellsOf 29 = 2 := TT.Ok.cellsOf T_ok (t := 29) rfl
  have hc3 : Tryz.prog.cellsOf 3 = 1 := TT.Ok.cellsOf T_ok (t := 3) rfl
  have hc9 : Tryz.prog.cellsOf 9 = 1 := TT.Ok.cellsOf T_ok (t := 9) rfl
  have hb : noBlank Tryz.prog 29 = true := by kernel_rfl
  unfold noBlank at hb
  rw [hu] at hb
  simp only at hb
  have hb2 : fs.all (fun f => f.name != "_") = true := by rw [← Array.all_toList]; exact hb
  unfold Program.keyLits
  simp only [hu, hcell, hb2]
  have h3 : ∃ a b, fs.toList = [a, b] ∧ (a.offset = 0 ∧ a.type = 3) ∧ b.offset = 1 ∧ b.type = 9 := by
    generalize fs.toList = l at hl
    rcases l with _ | ⟨a, _ | ⟨b, _ | ⟨c, l⟩⟩⟩
    all_goals simp at hl
    exact ⟨a, b, rfl, hl.1, hl.2⟩
  obtain ⟨a, b, e, ⟨a1, a2⟩, b1, b2⟩ := h3
  rw [e]
  have q1 := litsF_int d h
  have q2 := litsF_str d hs
  simp [a1, a2, b1, b2, hc3, hc9, q1, q2]
theorem key_fact {f : Fa} (h : okF f) : keyB Tryz.prog 31 (kyF f) = true := by
  obtain ⟨h1, h2, h3, h4, h5, h6, h7⟩ := h
  obtain ⟨fs, hu, hl⟩ := TT.Ok.struct T_ok (t := 31) rfl rfl
  have hcell : Tryz.prog.cellsOf 31 = 7 := TT.Ok.cellsOf T_ok (t := 31) rfl
  have hc3 : Tryz.prog.cellsOf 3 = 1 := TT.Ok.cellsOf T_ok (t := 3) rfl
  have hcc : Tryz.prog.cellsOf 29 = 2 := TT.Ok.cellsOf T_ok (t := 29) rfl
  have hb : noBlank Tryz.prog 31 = true := by kernel_rfl
  have hk : Tryz.prog.keyType 31 = true := by kernel_rfl
  have hd : ∃ d, Tryz.prog.types.size = d + 2 := ⟨Tryz.prog.types.size - 2, by
    have h0 : decide (1 < Tryz.prog.types.size) = true := by kernel_rfl
    have h1 := of_decide_eq_true h0
    omega⟩
  obtain ⟨d, hd⟩ := hd
  unfold noBlank at hb
  rw [hu] at hb
  simp only at hb
  have hb2 : fs.all (fun f => f.name != "_") = true := by rw [← Array.all_toList]; exact hb
  unfold keyB keyOf
  simp only [hu, hk, Value.formed, hcell, hd]
  unfold Program.keyLits
  simp only [hu, hcell, hb2, Value.cells]
  have h8 : ∃ a b c d e g, fs.toList = [a, b, c, d, e, g] ∧ (a.offset = 0 ∧ a.type = 3) ∧ (b.offset = 1 ∧ b.type = 3) ∧ (c.offset = 2 ∧ c.type = 3) ∧ (d.offset = 3 ∧ d.type = 3) ∧ (e.offset = 4 ∧ e.type = 3) ∧ g.offset = 5 ∧ g.type = 29 := by
    generalize fs.toList = l at hl
    rcases l with _ | ⟨a, _ | ⟨b, _ | ⟨c, _ | ⟨d, _ | ⟨e, _ | ⟨g, _ | ⟨i, l⟩⟩⟩⟩⟩⟩⟩
    all_goals simp at hl
    obtain ⟨l1, l2, l3, l4, l5, l6⟩ := hl
    exact ⟨a, b, c, d, e, g, rfl, l1, l2, l3, l4, l5, l6⟩
  obtain ⟨a, b, c, x, e, g, eq, ⟨a1, a2⟩, ⟨b1, b2⟩, ⟨c1, c2⟩, ⟨x1, x2⟩, ⟨e1, e2⟩, g1, g2⟩ := h8
  rw [eq]
  have q1 := litsF_int (d + 1) h1
  have q2 := litsF_int (d + 1) h2
  have q3 := litsF_int (d + 1) h3
  have q4 := litsF_int (d + 1) h4
  have q5 := litsF_int (d + 1) h5
  have q6 := litsF_course d h6 h7
  obtain ⟨z, hz⟩ := Option.isSome_iff_exists.1 q6
  simp [a1, a2, b1, b2, c1, c2, x1, x2, e1, e2, g1, g2, hc3, hcc, q1, q2, q3, q4, q5, hz]
theorem keys_F {M : List Fa} (h : ∀ x ∈ M, okF x) {f : Fa} (hf : okF f) : (keyB Tryz.prog 31 (kyF f) && (kvF M).all fun x => keyB Tryz.prog 31 x.1) = true := by
  rw [key_fact hf, Bool.true_and]
  refine List.all_eq_true.2 fun x hx => ?_
  obtain ⟨y, hy, rfl⟩ := List.mem_map.1 hx
  exact key_fact (h y hy)
end En
end Go.Proofs.YtgnakhljdjekbaaGreatDoor
namespace Go.Proofs.YtgnakhljdjekbaaGreatDoor
open Go.Proofs.YtgnakhljdjekbaaGreatDoor.Am
set_option maxRecDepth 100000
namespace En
/-! ### What one list has and another one lacks -/
def addM (M : List Fa) (f : Fa) : List Fa := if f ∈ M then M else M ++ [f]
/-- The facts of a, each once, without those of b, in their order. -/
def setP (a b : List Fa) : List Fa := b.foldl (fun M f => M.erase f) (a.foldl addM [])
def misP (a b : List Fa) : List Fa := sortS ltF (setP a b)
theorem add_mem {M : List Fa} {f x : Fa} : x ∈ addM M f ↔ x ∈ M ∨ x = f := by
  unfold addM
  split
  · constructor
    · exact .inl
    · rintro (h | rfl)
      · exact h
      · assumption
  · rw [List.mem_append, List.mem_singleton]
theorem add_nodup {M : List Fa} {f : Fa} (h : M.Nodup) : (addM M f).Nodup := by
  unfold addM
  split
  · exact h
  · rename_i hf
    refine List.nodup_append.2 ⟨h, List.pairwise_singleton _ _, fun a ha b hb => ?_⟩
    rw [List.mem_singleton.1 hb]
    rintro rfl
    exact hf ha
theorem adds_spec : ∀ (a M : List Fa), M.Nodup → (a.foldl addM M).Nodup ∧ ∀ x, x ∈ a.foldl addM M ↔ x ∈ M ∨ x ∈ a
  | [], M, h => ⟨h, fun x => by simp⟩
  | f :: a, M, h => by
    obtain ⟨h1, h2⟩ := adds_spec a (addM M f) (add_nodup h)
    refine ⟨h1, fun x => ?_⟩
    rw [List.foldl_cons, h2, add_mem, List.mem_cons, or_assoc]
theorem dels_spec : ∀ (b M : List Fa), M.Nodup → (b.foldl (fun M f => M.erase f) M).Nodup ∧ ∀ x, x ∈ b.foldl (fun M f => M.erase f) M ↔ x ∈ M ∧ x ∉ b
  | [], M, h => ⟨h, fun x => by simp⟩
  | f :: b, M, h => by
    obtain ⟨h1, h2⟩ := dels_spec b (M.erase f) (h.erase f)
    refine ⟨h1, fun x => ?_⟩
    rw [List.foldl_cons, h2, h.mem_erase_iff, List.mem_cons, not_or]
    exact ⟨fun ⟨⟨a, b⟩, c⟩ => ⟨b, a, c⟩, fun ⟨a, b, c⟩ => ⟨⟨b, a⟩, c⟩⟩
theorem set_spec (a b : List Fa) : (setP a b).Nodup ∧ ∀ x, x ∈ setP a b ↔ x ∈ a ∧ x ∉ b := by
  obtain ⟨h1, h2⟩ := adds_spec a [] List.nodup_nil
  obtain ⟨h3, h4⟩ := dels_spec b _ h1
  refine ⟨h3, fun x => ?_⟩
  rw [setP, h4, h2]
  simp
theorem mis_spec (a b : List Fa) : upF (misP a b) ∧ ∀ x, x ∈ misP a b ↔ x ∈ a ∧ x ∉ b :=
  ⟨S_up (set_spec a b).1, fun x => by rw [misP, S_mem, (set_spec a b).2]⟩
theorem set_len (a b : List Fa) : (setP a b).length ≤ a.length := nodup_len (set_spec a b).1 fun x hx => (((set_spec a b).2 x).1 hx).1
theorem mis_len (a b : List Fa) : (misP a b).length ≤ a.length := by
  rw [misP, (S_perm ltF _).length_eq]; exact set_len a b
/-! Where a fact stands in the map. -/
theorem kvF_some {M : List Fa} {f : Fa} (h : f ∈ M) : ∃ i, findOk (kvF M) (kyF f) (some i) ∧ (kvF M).set i (kyF f, bool true) = kvF M ∧ (kvF M).eraseIdx i = kvF (M.erase f) := by
  induction M with
  | nil => exact absurd h List.not_mem_nil
  | cons x M ih =>
    by_cases e : x = f
    · subst e
      exact ⟨0, ⟨bool true, rfl⟩, rfl, by rw [List.erase_cons_head]; rfl⟩
    · obtain ⟨i, ⟨v, h1⟩, h2, h3⟩ := ih ((List.mem_cons.1 h).resolve_left fun g => e g.symm)
      refine ⟨i + 1, ⟨v, h1⟩, ?_, ?_⟩
      · show (kyF x, bool true) :: (kvF M).set i (kyF f, bool true) = _
        rw [h2]; rfl
      · rw [List.erase_cons_tail (by simpa using e)]
        show (kyF x, bool true) :: (kvF M).eraseIdx i = _
        rw [h3]; rfl
theorem kvF_none {M : List Fa} {f : Fa} (h : f ∉ M) : findOk (kvF M) (kyF f) none := fun y hy => by
  obtain ⟨x, hx, rfl⟩ := List.mem_map.1 hy
  intro e
  exact h (ky_inj e ▸ hx)
theorem fa_ld {l : List Fa} {k : Nat} (h : k < l.length) : fa (l.getD k fa0) = (l.map fa).getD k (.sc undef) := mapD fa0 h
theorem foldl_at {α β : Type} (g : β → α → β) (b : β) {l : List α} {k : Nat} (h : k < l.length) (d : α) : (l.take (k + 1)).foldl g b = g ((l.take k).foldl g b) (l.getD k d) := by
  rw [List.take_succ_eq_append_getElem h, List.foldl_append, List.getD_eq_getElem?_getD, List.getElem?_eq_getElem h]; rfl
abbrev m1S (a b : List Fa) (f1 f2 : Fl) : Nat × Nat × List Fa → AS
  | (k, ck, M) => ⟨[(1, .ro f2 7 (b.map fa)), (5, .mp 0), (11, .ro f1 7 (a.map fa)), (12, int a.length), (13, int k)], [(0, .map ck (kvF M))], 1⟩
abbrev m2S (b : List Fa) (f2 : Fl) : Nat × Nat × List Fa → AS
  | (k, ck, M) => ⟨[(5, .mp 0), (20, .ro f2 7 (b.map fa)), (21, int b.length), (22, int k)], [(0, .map ck (kvF M))], 1⟩
theorem mN (ck : Nat) (M : List Fa) (ok : Nat → Bool) : namesAll ok [(0, .map ck (kvF M))] = true := namesAll.map (kvF_pure M) rfl
theorem foldl_ok {a : List Fa} (h : ∀ x ∈ a, okF x) : ∀ x ∈ a.foldl addM [], okF x := fun x hx => by
  rcases ((adds_spec a [] List.nodup_nil).2 x).1 hx with h1 | h1
  · exact absurd h1 List.not_mem_nil
  · exact h x h1
set_option maxHeartbeats 1600000 in
set_option maxRecDepth 100000 in
theorem missing_s (a b : List Fa) (f1 f2 : Fl) (ha : a.length ≤ 12) (hb : b.length ≤ 1000) (ka : ∀ x ∈ a, okF x) (kb : ∀ x ∈ b, okF x) : AFun Tryz.prog 29 0 [.ro f1 7 (a.map fa), .ro f2 7 (b.map fa)] [] (.slm {} 0 7 0 (misP a b).length) [(0, rwF (misP a b))] := by
  refine AFun.of_S T_ok mixed Tryz.func29 rfl (Nat.le_of_ble_eq_true rfl) rfl ?_
  have hma : (a.map fa).length = a.length := List.length_map _
  have hmb : (b.map fa).length = b.length := List.length_map _
  ((repeat ((conv => whnf); (first | (refine LetN.pre ?_; first | ((conv => arg 1; whnf); refine LetN.mk ?_)) | (refine As.pre ?_; first | refine As.mk rfl ?_) | (refine LetI.pre ?_; first | refine LetI.mk _ rfl ?_) | (refine Ck.pre ?_; first | refine Ck.mk rfl ?_)))); (try (conv => whnf)))
  refine LoopN.weak (s1 := m1S a b f1 f2 (0, 0, [])) ?sw1 ?_
  case sw1 => exact SW.mk id rfl rfl (mN _ _ _) ⟨.refl _, .refl _, .refl _, VLe2.int (by rw [hma]), .refl _, trivial⟩ (haveV.map (kvF_pure _) rfl trivial)
  refine LoopN.ind T_ok mixed (S := m1S a b f1 f2) (fun i => a.length - i.1) (fun i => i.1 ≤ a.length ∧ i.2.2 = (a.take i.1).foldl addM []) (fun _ => rfl) (fun i hi ih => ?_) (0, 0, []) ⟨Nat.zero_le _, rfl⟩
  obtain ⟨k, ck, M⟩ := i
  obtain ⟨h1, h2⟩ := hi
  dsimp only at h1 h2
  by_cases hlt : k < a.length
  · have hld := fa_ld hlt
    have hnx : ∀ ck', _ := fun ck' => ih (k + 1, ck', addM M (a.getD k fa0)) ⟨hlt, by rw [h2, foldl_at addM [] hlt fa0]⟩ (by show a.length - (k + 1) < a.length - k; omega)
    have hok : ∀ x ∈ M, okF x := by rw [h2]; exact foldl_ok fun x hx => ka x (List.mem_of_mem_take hx)
    have hky := keys_F hok (ka _ (getD_memF hlt))
    clear ih h2 ka
    generalize a.getD k fa0 = f at hld hnx hky
    by_cases hm : f ∈ M
    · obtain ⟨i, hfi, hset, _⟩ := kvF_some hm
      have e : addM M f = M := if_pos hm
      rw [e] at hnx
      ((repeat ((conv => whnf); (first | (refine LetN.pre ?_; first | ((conv => arg 1; whnf); refine LetN.mk ?_)) | (refine As.pre ?_; first | refine As.mk rfl ?_ | refine As.mk hky ?_ | (refine As.mk ?_ ?_; · ((repeat' (refine andT ?_ ?_)) <;> (first | rfl | assumption | exact decide_eq_true (by omega) | exact decide_eq_true (by dsimp only; omega) | exact decide_eq_true (by simp; omega) | (simp; done))))) | (refine LetV.pre ?_; first | refine LetV.mk (t := fsl) _ hld ?_ | refine LetV.mk (.agg _) rfl ?_) | (refine LetI.pre ?_; first | refine LetI.wrap (by omega) (by omega) ?_) | (refine LetB.pre ?_; first | refine LetB.dect (by omega) ?_) | (refine Br.pre ?_; first | refine Br.tt rfl ?_) | (refine Ck.pre ?_; first | refine Ck.mk rfl ?_) | (refine LetL.pre ?_; first | refine LetL.mk [_] rfl ?_) | (refine FindN.mk (some i) hfi ?_)))); (try (conv => whnf)))




      refine LoopN.weak ?sw2 (hnx ck)
      case sw2 => exact SW.mk id rfl rfl (mN _ _ _) ⟨.refl _, .refl _, .refl _, .refl _, VLe2.int (by omega), trivial⟩ (haveV.map (kvF_pure _) (congrArg (fun m => some (Blk.map ck m)) hset) trivial)
    · have hfi := kvF_none hm
      have e : addM M f = M ++ [f] := if_neg hm
      rw [e] at hnx
      ((repeat ((conv => whnf); (first | (refine LetN.pre ?_; first | ((conv => arg 1; whnf); refine LetN.mk ?_)) | (refine As.pre ?_; first | refine As.mk rfl ?_ | refine As.mk hky ?_ | (refine As.mk ?_ ?_; · ((repeat' (refine andT ?_ ?_)) <;> (first | rfl | assumption | exact decide_eq_true (by omega) | exact decide_eq_true (by dsimp only; omega) | exact decide_eq_true (by simp; omega) | (simp; done))))) | (refine LetV.pre ?_; first | refine LetV.mk (t := fsl) _ hld ?_ | refine LetV.mk (.agg _) rfl ?_) | (refine LetI.pre ?_; first | refine LetI.wrap (by omega) (by omega) ?_) | (refine LetB.pre ?_; first | refine LetB.dect (by omega) ?_) | (refine Br.pre ?_; first | refine Br.tt rfl ?_) | (refine Ck.pre ?_; first | refine Ck.mk rfl ?_) | (refine LetL.pre ?_; first | refine LetL.mk [_] rfl ?_) | (refine FindN.mk none hfi ?_)))); (try (conv => whnf)))




      refine LoopN.weak ?sw3 (hnx (ck + 1))
      case sw3 => exact SW.mk id rfl rfl (mN _ _ _) ⟨.refl _, .refl _, .refl _, .refl _, VLe2.int (by omega), trivial⟩ (haveV.map (kvF_pure _) (congrArg (fun m => some (Blk.map (ck + 1) m)) (show kvF M ++ [(kyF f, bool true)] = kvF (M ++ [f]) by simp [kvF])) trivial)
  · clear ih
    rw [List.take_of_length_le (by omega)] at h2
    have hS : misP a b = sortS ltF (b.foldl (fun M f => M.erase f) M) := by rw [misP, setP, h2]
    have hMn : M.Nodup := by rw [h2]; exact (adds_spec a [] List.nodup_nil).1
    have hMo : ∀ x ∈ M, okF x := by rw [h2]; exact foldl_ok ka
    have hMl : M.length ≤ 12 := by
      rw [h2]
      refine Nat.le_trans (nodup_len (adds_spec a [] List.nodup_nil).1 (M := a) fun x hx => ?_) ha
      rcases ((adds_spec a [] List.nodup_nil).2 x).1 hx with g | g
      · exact absurd g List.not_mem_nil
      · exact g
    clear h2
    generalize misP a b = S at hS
    ((repeat ((conv => whnf); (first | (refine As.pre ?_; first | refine As.mk rfl ?_) | (refine LetI.pre ?_; first | refine LetI.mk _ rfl ?_) | (refine LetB.pre ?_; first | refine LetB.decf (by omega) ?_) | (refine Br.pre ?_; first | refine Br.ff rfl ?_) | (refine Ck.pre ?_; first | refine Ck.mk rfl ?_)))); (try (conv => whnf)))
    refine LoopN.weak (s1 := m2S b f2 (0, ck, M)) ?sw4 ?_
    case sw4 => exact SW.mk id rfl rfl (mN _ _ _) ⟨.refl _, .refl _, VLe2.int (by rw [hmb]), .refl _, trivial⟩ (haveV.map (kvF_pure _) rfl trivial)
    refine LoopN.ind T_ok mixed (S := m2S b f2) (fun i => b.length - i.1) (fun i => i.1 ≤ b.length ∧ i.2.2 = (b.take i.1).foldl (fun M f => M.erase f) M) (fun _ => rfl) (fun i hi ih => ?_) (0, ck, M) ⟨Nat.zero_le _, rfl⟩
    obtain ⟨k, ck, N⟩ := i
    obtain ⟨h1, h2⟩ := hi
    dsimp only at h1 h2
    have hNs := dels_spec (b.take k) M hMn
    rw [← h2] at hNs
    have hok : ∀ x ∈ N, okF x := fun x hx => hMo x ((hNs.2 x).1 hx).1
    have hNl : N.length ≤ 12 := Nat.le_trans (nodup_len hNs.1 fun x hx => ((hNs.2 x).1 hx).1) hMl
    by_cases hlt : k < b.length
    · have hld := fa_ld hlt
      have hnx : ∀ ck', _ := fun ck' => ih (k + 1, ck', N.erase (b.getD k fa0)) ⟨hlt, by rw [h2, foldl_at _ _ hlt fa0]⟩ (by show b.length - (k + 1) < b.length - k; omega)
      have hky := keys_F hok (kb _ (getD_memF hlt))
      clear ih h2 kb ka
      generalize b.getD k fa0 = f at hld hnx hky
      by_cases hm : f ∈ N
      · obtain ⟨i, hfi, _, hset⟩ := kvF_some hm
        ((repeat ((conv => whnf); (first | (refine LetN.pre ?_; first | ((conv => arg 1; whnf); refine LetN.mk ?_)) | (refine As.pre ?_; first | refine As.mk rfl ?_ | refine As.mk hky ?_ | (refine As.mk ?_ ?_; · ((repeat' (refine andT ?_ ?_)) <;> (first | rfl | assumption | exact decide_eq_true (by omega) | exact decide_eq_true (by dsimp only; omega) | exact decide_eq_true (by simp; omega) | (simp; done))))) | (refine LetV.pre ?_; first | refine LetV.mk (t := fsl) _ hld ?_ | refine LetV.mk (.agg _) rfl ?_) | (refine LetI.pre ?_; first | refine LetI.wrap (by omega) (by omega) ?_) | (refine LetB.pre ?_; first | refine LetB.dect (by omega) ?_) | (refine Br.pre ?_; first | refine Br.tt rfl ?_) | (refine Ck.pre ?_; first | refine Ck.mk rfl ?_) | (refine LetL.pre ?_; first | refine LetL.mk [_] rfl ?_) | (refine FindN.mk (some i) hfi ?_)))); (try (conv => whnf)))




        refine LoopN.weak ?sw5 (hnx ck)
        case sw5 => exact SW.mk id rfl rfl (mN _ _ _) ⟨.refl _, .refl _, .refl _, VLe2.int (by omega), trivial⟩ (haveV.map (kvF_pure _) (congrArg (fun m => some (Blk.map ck m)) hset) trivial)
      · have hfi := kvF_none hm
        rw [List.erase_of_not_mem hm] at hnx
        ((repeat ((conv => whnf); (first | (refine LetN.pre ?_; first | ((conv => arg 1; whnf); refine LetN.mk ?_)) | (refine As.pre ?_; first | refine As.mk rfl ?_ | refine As.mk hky ?_ | (refine As.mk ?_ ?_; · ((repeat' (refine andT ?_ ?_)) <;> (first | rfl | assumption | exact decide_eq_true (by omega) | exact decide_eq_true (by dsimp only; omega) | exact decide_eq_true (by simp; omega) | (simp; done))))) | (refine LetV.pre ?_; first | refine LetV.mk (t := fsl) _ hld ?_ | refine LetV.mk (.agg _) rfl ?_) | (refine LetI.pre ?_; first | refine LetI.wrap (by omega) (by omega) ?_) | (refine LetB.pre ?_; first | refine LetB.dect (by omega) ?_) | (refine Br.pre ?_; first | refine Br.tt rfl ?_) | (refine Ck.pre ?_; first | refine Ck.mk rfl ?_) | (refine LetL.pre ?_; first | refine LetL.mk [_] rfl ?_) | (refine FindN.mk none hfi ?_)))); (try (conv => whnf)))




        refine LoopN.weak ?sw6 (hnx ck)
        case sw6 => exact SW.mk id rfl rfl (mN _ _ _) ⟨.refl _, .refl _, .refl _, VLe2.int (by omega), trivial⟩ (haveV.map (kvF_pure _) rfl trivial)
    · clear ih
      rw [List.take_of_length_le (by omega)] at h2
      rw [← h2] at hS
      have hK := Keys_f N ck
      have hF := SortedFunc_f N ck hNs.1 hNl
      rw [← hS] at hF
      clear hS h2
      ((repeat ((conv => whnf); (first | (refine LetN.pre ?_; first | ((conv => arg 1; whnf); refine LetN.mk ?_)) | (refine As.pre ?_; first | refine As.mk rfl ?_) | (refine LetB.pre ?_; first | refine LetB.decf (by omega) ?_) | (refine Br.pre ?_; first | refine Br.ff rfl ?_) | (refine Ck.pre ?_; first | refine Ck.mk rfl ?_) | (refine LetL.pre ?_; first | refine LetL.mk (ty := fty) _ (renL_none (pure_fa _)).symm ?_ | refine LetL.mk [_] rfl ?_) | (refine CallN.pre ?_; first | (refine CallN.own id hK (CallOk.mk' rfl rfl rfl (mN _ _ _) rfl (namesAll.map (kvF_pure N) rfl) (haveAll.map (kvF_pure N) rfl trivial)) ?_) | (refine CallN.own id hF (CallOk.mk' rfl rfl rfl (namesAll.map (kvF_pure N) rfl) rfl (sqN ck N S _ rfl) (haveAll.map (kvF_pure N) (by show some (Blk.map _ _) = _; rw [kv_ren (kvF_pure N)]) ⟨rfl, trivial⟩)) ?_))))); (try (conv => whnf)))



      exact ⟨⟨[(4, .slm {} 0 7 0 S.length)], [(0, rwF S)], 1⟩, SW.mk (fun _ => 2) rfl rfl (namesAll.row (pure_fa _) rfl) ⟨.refl _, trivial⟩ (haveV.row (pure_fa _) rfl trivial), .inl rfl, ⟨_, rfl, rfl⟩, rfl, trivial⟩
end En
end Go.Proofs.YtgnakhljdjekbaaGreatDoor
namespace Go.Proofs.YtgnakhljdjekbaaGreatDoor
open Go.Proofs.YtgnakhljdjekbaaGreatDoor.Am
set_option maxRecDepth 100000
namespace En
/-! ### The text of a change, as plain Lean -/
abbrev tI (n : Int) : List UInt8 := Go.Lib.itoa n
def wordL (k : Int) : List UInt8 :=
  if k = 1 then [101, 97, 114, 110, 101, 100] else if k = 2 then [116, 97, 107, 101, 110] else if k = 3 then [109, 101, 116] else if k = 4 then [115, 116, 97, 110, 100, 105, 110, 103]
  else if k = 5 then [115, 116, 105, 112, 101, 110, 100] else if k = 6 then [97, 119, 97, 114, 100] else if k = 7 then [118, 101, 114, 115, 105, 111, 110] else [102, 97, 99, 116]
/-- A change: the fact, gone, kept, the entry. -/
structure Cg where
  f : Fa
  gone : Bool
  kept : Bool
  entry : Int
  deriving DecidableEq
abbrev cgA (c : Cg) : AV := .agg [int c.f.kind, int c.f.student, int c.f.id, int c.f.term, int c.f.n, int c.f.school, str c.f.code, bool c.gone, bool c.kept, int c.entry]
def pieces (c : Cg) : List (List UInt8) :=
  [(if c.gone then 45 else 43) :: wordL c.f.kind, tI c.f.student, tI c.f.id, tI c.f.term, tI c.f.n, tI c.f.school ++ 58 :: c.f.code.data.toList, [98, 121], tI c.entry] ++ if c.kept then [[107, 101, 112, 116]] else []
def textP (c : Cg) : ByteArray := ⟨(Go.Lib.join (pieces c) [32]).toArray⟩
/-! Numerals. -/
def valD (l : List UInt8) : Nat := l.foldl (fun a d => 10 * a + (d.toNat - 48)) 0
theorem u8_dig {d : Nat} (h : d < 10) : (UInt8.ofNat (48 + d)).toNat = 48 + d := by
  rw [UInt8.toNat_ofNat']; exact Nat.mod_eq_of_lt (by omega)
theorem val_dec (u : Nat) : valD (Go.Lib.decDigits u) = u := by
  induction u using Nat.strongRecOn with
  | _ u ih =>
    rw [Go.Lib.decDigits]
    by_cases h : u < 10
    · rw [dif_pos h]
      show 10 * 0 + ((UInt8.ofNat (48 + u)).toNat - 48) = u
      rw [u8_dig h]; omega
    · rw [dif_neg h, valD, List.foldl_append]
      have := ih (u / 10) (by omega)
      rw [valD] at this
      rw [this]
      show 10 * (u / 10) + ((UInt8.ofNat (48 + u % 10)).toNat - 48) = u
      rw [u8_dig (Nat.mod_lt _ (by decide))]; omega
theorem mem_dec (u : Nat) : ∀ x ∈ Go.Lib.decDigits u, 48 ≤ x.toNat ∧ x.toNat ≤ 57 := by
  induction u using Nat.strongRecOn with
  | _ u ih =>
    rw [Go.Lib.decDigits]
    intro x hx
    by_cases h : u < 10
    · rw [dif_pos h, List.mem_singleton] at hx
      rw [hx, u8_dig h]; omega
    · rw [dif_neg h] at hx
      rcases List.mem_append.1 hx with hx | hx
      · exact ih (u / 10) (by omega) x hx
      · rw [List.mem_singleton.1 hx, u8_dig (Nat.mod_lt _ (by decide))]
        have := Nat.mod_lt u (show 10 > 0 by decide)
        omega
theorem mem_tI (n : Int) : ∀ x ∈ tI n, x.toNat = 45 ∨ (48 ≤ x.toNat ∧ x.toNat ≤ 57) := by
  intro x hx
  unfold tI Go.Lib.itoa at hx
  split at hx
  · rcases List.mem_cons.1 hx with h | h
    · left; rw [h]; rfl
    · exact .inr (mem_dec _ x h)
  · exact .inr (mem_dec _ x hx)
theorem dec_ne (u : Nat) : Go.Lib.decDigits u ≠ [] := by
  rw [Go.Lib.decDigits]
  split <;> simp
theorem tI_inj {m n : Int} (h : tI m = tI n) : m = n := by
  unfold tI Go.Lib.itoa at h
  split at h <;> split at h
  · injection h with _ h
    have := congrArg valD h
    rw [val_dec, val_dec] at this
    omega
  · exfalso
    have := mem_dec n.toNat 45 (by rw [← h]; exact List.mem_cons_self ..)
    have e : (45 : UInt8).toNat = 45 := rfl
    omega
  · exfalso
    have := mem_dec m.toNat 45 (by rw [h]; exact List.mem_cons_self ..)
    have e : (45 : UInt8).toNat = 45 := rfl
    omega
  · have := congrArg valD h
    rw [val_dec, val_dec] at this
    omega
/-! What stands between two marks. -/
theorem cut_at {c : UInt8} : ∀ {a b r s : List UInt8}, c ∉ a → c ∉ b → a ++ c :: r = b ++ c :: s → a = b ∧ r = s
  | [], [], r, s, _, _, h => by injection h with _ h; exact ⟨rfl, h⟩
  | [], y :: b, r, s, _, h2, h => by
    injection h with h _
    exact absurd (h ▸ List.mem_cons_self ..) h2
  | x :: a, [], r, s, h1, _, h => by
    injection h with h _
    exact absurd (h ▸ List.mem_cons_self ..) h1
  | x :: a, y :: b, r, s, h1, h2, h => by
    injection h with h0 h
    obtain ⟨e1, e2⟩ := cut_at (fun g => h1 (List.mem_cons_of_mem _ g)) (fun g => h2 (List.mem_cons_of_mem _ g)) h
    exact ⟨by rw [h0, e1], e2⟩
theorem join_cons2 (x y : List UInt8) (l : List (List UInt8)) : Go.Lib.join (x :: y :: l) [32] = x ++ 32 :: Go.Lib.join (y :: l) [32] := by
  rw [Go.Lib.join_cons, Go.Lib.join_cons]
  simp [Go.Lib.joinTail]
theorem join_inj : ∀ {xs ys : List (List UInt8)}, xs ≠ [] → ys ≠ [] → (∀ x ∈ xs, (32 : UInt8) ∉ x) → (∀ x ∈ ys, (32 : UInt8) ∉ x) → Go.Lib.join xs [32] = Go.Lib.join ys [32] → xs = ys
  | [], _, h, _, _, _, _ => absurd rfl h
  | _ :: _, [], _, h, _, _, _ => absurd rfl h
  | [x], [y], _, _, _, _, h => by rw [Go.Lib.join_one, Go.Lib.join_one] at h; rw [h]
  | [x], y :: z :: ys, _, _, h1, _, h => by
    rw [Go.Lib.join_one, join_cons2] at h
    exact absurd (by rw [h]; simp) (h1 x (List.mem_cons_self ..))
  | x :: w :: xs, [y], _, _, _, h2, h => by
    rw [Go.Lib.join_one, join_cons2] at h
    exact absurd (by rw [← h]; simp) (h2 y (List.mem_cons_self ..))
  | x :: w :: xs, y :: z :: ys, _, _, h1, h2, h => by
    rw [join_cons2, join_cons2] at h
    obtain ⟨e1, e2⟩ := cut_at (h1 x (List.mem_cons_self ..)) (h2 y (List.mem_cons_self ..)) h
    rw [e1, join_inj (by simp) (by simp) (fun u hu => h1 u (List.mem_cons_of_mem _ hu)) (fun u hu => h2 u (List.mem_cons_of_mem _ hu)) e2]
theorem wordL_inj {m n : Int} (hm : 1 ≤ m ∧ m ≤ 7) (hn : 1 ≤ n ∧ n ≤ 7) (h : wordL m = wordL n) : m = n := by
  have e1 : m = 1 ∨ m = 2 ∨ m = 3 ∨ m = 4 ∨ m = 5 ∨ m = 6 ∨ m = 7 := by omega
  have e2 : n = 1 ∨ n = 2 ∨ n = 3 ∨ n = 4 ∨ n = 5 ∨ n = 6 ∨ n = 7 := by omega
  rcases e1 with rfl | rfl | rfl | rfl | rfl | rfl | rfl <;> rcases e2 with rfl | rfl | rfl | rfl | rfl | rfl | rfl <;> first | rfl | (exfalso; revert h; decide)
theorem wordL_sp (n : Int) : (32 : UInt8) ∉ wordL n := by
  unfold wordL
  repeat' split
  all_goals decide
theorem tI_sp (n : Int) : (32 : UInt8) ∉ tI n := fun h => by
  have := mem_tI n 32 h
  have e : (32 : UInt8).toNat = 32 := rfl
  omega
theorem tI_co (n : Int) : (58 : UInt8) ∉ tI n := fun h => by
  have := mem_tI n 58 h
  have e : (58 : UInt8).toNat = 58 := rfl
  omega
/-- Texts of changes whose codes have no blank tell the changes. -/
theorem text_inj {a b : Cg} (ha : 1 ≤ a.f.kind ∧ a.f.kind ≤ 7) (hb : 1 ≤ b.f.kind ∧ b.f.kind ≤ 7) (ca : (32 : UInt8) ∉ a.f.code.data.toList) (cb : (32 : UInt8) ∉ b.f.code.data.toList) (h : textP a = textP b) : a = b := by
  have sp : ∀ c : Cg, (32 : UInt8) ∉ c.f.code.data.toList → ∀ x ∈ pieces c, (32 : UInt8) ∉ x := by
    intro c hc x hx
    unfold pieces at hx
    rcases List.mem_append.1 hx with hx | hx
    · simp only [List.mem_cons, List.not_mem_nil, or_false] at hx
      rcases hx with rfl | rfl | rfl | rfl | rfl | rfl | rfl | rfl
      · intro g
        rcases List.mem_cons.1 g with g | g
        · split at g <;> exact absurd g (by decide)
        · exact wordL_sp _ g
      · exact tI_sp _
      · exact tI_sp _
      · exact tI_sp _
      · exact tI_sp _
      · intro g
        rcases List.mem_append.1 g with g | g
        · exact tI_sp _ g
        · rcases List.mem_cons.1 g with g | g
          · exact absurd g (by decide)
          · exact hc g
      · decide
      · exact tI_sp _
    · split at hx
      · rw [List.mem_singleton.1 hx]; decide
      · exact absurd hx List.not_mem_nil
  have hj : Go.Lib.join (pieces a) [32] = Go.Lib.join (pieces b) [32] := by
    have := congrArg (fun x => x.data.toList) h
    simpa [textP] using this
  have hp := join_inj (by simp [pieces]) (by simp [pieces]) (sp a ca) (sp b cb) hj
  obtain ⟨⟨k, st, i, t, n, sc, co⟩, g, kp, e⟩ := a
  obtain ⟨⟨k', st', i', t', n', sc', co'⟩, g', kp', e'⟩ := b
  simp only [pieces, List.cons_append, List.nil_append, List.cons.injEq] at hp
  simp only at ha hb
  obtain ⟨⟨h0, h1⟩, h2, h3, h4, h5, h6, _, h7, h8⟩ := hp
  obtain ⟨h9, h10⟩ := cut_at (tI_co _) (tI_co _) h6
  have hg : g = g' := by cases g <;> cases g' <;> first | rfl | (exfalso; simp at h0)
  have hk : kp = kp' := by cases kp <;> cases kp' <;> first | rfl | exact absurd h8 (by simp)
  have hc : co = co' := ByteArray.ext (Array.ext' h10)
  rw [hg, hk, hc, wordL_inj ha hb h1, tI_inj h2, tI_inj h3, tI_inj h4, tI_inj h5, tI_inj h9, tI_inj h7]
end En
end Go.Proofs.YtgnakhljdjekbaaGreatDoor
namespace Go.Proofs.YtgnakhljdjekbaaGreatDoor
open Go.Proofs.YtgnakhljdjekbaaGreatDoor.Am
set_option maxRecDepth 100000
namespace En
/-! ### What has changed -/
theorem missing_f (a b : List Fa) (f1 f2 : Fl) (ha : a.length ≤ 12) (hb : b.length ≤ 1000) (ka : ∀ x ∈ a, okF x) (kb : ∀ x ∈ b, okF x) : AFun Tryz.prog 29 0 [.ro f1 7 (a.map fa), .ro f2 7 (b.map fa)] [] (.ro {} 7 ((misP a b).map fa)) [] :=
  AFun.frz1 (H := []) (missing_s a b f1 f2 ha hb ka kb) rfl (pure_fa _) (by simp)
abbrev wr (n : Int) : Int := IntKind.i64.wrap n
def lastW (t : Int) : Int := wr (wr (wr (100 * t) + 100) - 1)
theorem lastW_small {t : Int} (h : -1000000 ≤ t ∧ t ≤ 1000000) : lastW t = 100 * t + 99 := by
  unfold lastW wr
  rw [wrap_id (x := 100 * t) (by omega) (by omega), wrap_id (x := 100 * t + 100) (by omega) (by omega), wrap_id (by omega) (by omega)]; omega
theorem BeginW_f (t : Int) : AFun Tryz.prog 59 0 [int t] [] (int (wr (100 * t))) [] := by
  refine AFun.of_W T_ok mixed Tryz.func59 rfl (Nat.le_of_ble_eq_true rfl) rfl ?_
  obtain ⟨x, hx⟩ : ∃ x, x = wr (100 * t) := ⟨_, rfl⟩
  rw [← hx]
  ((repeat ((conv => whnf); (first | (refine As.pre ?_; first | refine As.mk rfl ?_) | (refine LetI.pre ?_; first | refine LetI.mk (o := some .mul) x hx ?_) | (refine Ck.pre ?_; first | refine Ck.mk rfl ?_)))); (try (conv => whnf)))
  exact ⟨.inl rfl, ⟨_, rfl, rfl⟩, trivial⟩
theorem LastW_f (t : Int) : AFun Tryz.prog 34 0 [int t] [] (int (lastW t)) [] := by
  refine AFun.of_W T_ok mixed Tryz.func34 rfl (Nat.le_of_ble_eq_true rfl) rfl ?_
  have hB := BeginW_f t
  unfold lastW
  generalize wr (100 * t) = x at hB ⊢
  obtain ⟨y, hy⟩ : ∃ y, y = wr (x + 100) := ⟨_, rfl⟩
  rw [← hy]
  obtain ⟨z, hz⟩ : ∃ z, z = wr (y - 1) := ⟨_, rfl⟩
  rw [← hz]
  ((repeat ((conv => whnf); (first | (refine As.pre ?_; first | refine As.mk rfl ?_) | (refine LetI.pre ?_; first | refine LetI.mk (o := some .add) y hy ?_ | refine LetI.mk (o := some .sub) z hz ?_) | (refine Ck.pre ?_; first | refine Ck.mk rfl ?_) | (refine CallN.pre ?_; first | refine CallN.pure hB rfl rfl ?_)))); (try (conv => whnf)))
  exact ⟨.inl rfl, ⟨_, rfl, rfl⟩, trivial⟩
def keptP (f : Fa) (day : Int) : Bool := decide (f.kind = 5) && decide (lastW f.term < day)
theorem Kept_f (f : Fa) (e : E) : AFun Tryz.prog 14 0 [fa f, en e] [] (bool (keptP f e.day)) [] := by
  refine AFun.of_W T_ok mixed Tryz.func14 rfl (Nat.le_of_ble_eq_true rfl) rfl ?_
  have hL := LastW_f f.term
  unfold keptP
  generalize lastW f.term = x at hL ⊢
  by_cases h5 : f.kind = 5
  · rw [decide_eq_true h5, Bool.true_and]
    ((repeat ((conv => whnf); (first | (refine LetN.pre ?_; first | ((conv => arg 1; whnf); refine LetN.mk ?_)) | (refine As.pre ?_; first | refine As.mk rfl ?_) | (refine LetV.pre ?_; first | refine LetV.mk (.sc (.int _ _)) rfl ?_) | (refine LetB.pre ?_; first | refine LetB.dect (by omega) ?_ | refine LetB.mk _ rfl ?_) | (refine Gd.pre ?_; first | refine Gd.run rfl ?_) | (refine Ck.pre ?_; first | refine Ck.drawn (by kernel_rfl) ?_ | refine Ck.mk rfl ?_) | (refine CallN.pre ?_; first | refine CallN.pure hL rfl rfl ?_)))); (try (conv => whnf)))
    exact ⟨.inl rfl, ⟨_, rfl, rfl⟩, trivial⟩
  · rw [decide_eq_false h5, Bool.false_and]
    ((repeat ((conv => whnf); (first | (refine LetN.pre ?_; first | ((conv => arg 1; whnf); refine LetN.mk ?_)) | (refine As.pre ?_; first | refine As.mk rfl ?_) | (refine LetV.pre ?_; first | refine LetV.mk (.sc (.int _ _)) rfl ?_) | (refine LetB.pre ?_; first | refine LetB.decf (by omega) ?_) | (refine Gd.pre ?_; first | refine Gd.pass rfl ?_) | (refine Ck.pre ?_; first | refine Ck.drawn (by kernel_rfl) ?_ | refine Ck.mk rfl ?_)))); (try (conv => whnf)))
    exact ⟨.inl rfl, ⟨_, rfl, rfl⟩, trivial⟩
abbrev cty : TypeId := 38
abbrev csl : TypeId := 34
abbrev rwC (L : List Cg) : Blk := .row 10 cty (L.map cgA)
theorem pure_cg : ∀ l : List Cg, AV.namesL (fun _ => false) (l.map cgA) = true
  | [] => rfl
  | p :: l => by simp only [List.map_cons, AV.namesL, pure_cg l]; rfl
theorem app_cg (l : List Cg) (e : Cg) (n : Nat) (h : n = l.length) : (l ++ [e]).map cgA = (l.map cgA).take n ++ [cgA e] := by rw [List.take_of_length_le (by simp [h]), List.map_append]; rfl
theorem room_cg {n : Nat} (h : n ≤ 100000) : room n 80 = true := by
  simp only [room, Bool.and_eq_true, decide_eq_true_eq]
  exact ⟨by omega, rfl⟩
def goneP (e : E) (f : Fa) : Cg := ⟨f, true, keptP f e.day, e.id⟩
def cameP (e : E) (f : Fa) : Cg := ⟨f, false, false, e.id⟩
def difP (a b : List Fa) (e : E) : List Cg := (misP a b).map (goneP e) ++ (misP b a).map (cameP e)
abbrev d1S (a b G : List Fa) (f1 f2 : Fl) (e : E) : Nat × List Cg → AS
  | (k, L) => ⟨[(0, .ro f1 7 (a.map fa)), (1, .ro f2 7 (b.map fa)), (5, .ptr 0 15 0 0), (7, .slm {} 1 10 0 L.length), (14, .ro {} 7 (G.map fa)), (15, int G.length), (16, int k)], [(0, .row 15 25 [en e]), (1, rwC L)], 2⟩
abbrev d2S (G : List Fa) (e : E) : Nat × List Cg → AS
  | (k, L) => ⟨[(5, .ptr 0 15 0 0), (7, .slm {} 1 10 0 L.length), (33, .ro {} 7 (G.map fa)), (34, int G.length), (35, int k)], [(0, .row 15 25 [en e]), (1, rwC L)], 2⟩
theorem dN (e : E) (L : List Cg) (ok : Nat → Bool) : namesAll ok [(0, .row 15 25 [en e]), (1, rwC L)] = true := namesAll.row rfl (namesAll.row (pure_cg _) rfl)
def rd3 : Nat → Nat | 1 => 3 | i => i
set_option maxHeartbeats 1600000 in
set_option maxRecDepth 100000 in
theorem Differ_s (a b : List Fa) (e : E) (f1 f2 : Fl) (ha : a.length ≤ 12) (hb : b.length ≤ 12) (ka : ∀ x ∈ a, okF x) (kb : ∀ x ∈ b, okF x) : AFun Tryz.prog 9 0 [.ro f1 7 (a.map fa), .ro f2 7 (b.map fa), en e] [] (.slm {} 0 10 0 (difP a b e).length) [(0, rwC (difP a b e))] := by
  refine AFun.of_S T_ok mixed Tryz.func9 rfl (Nat.le_of_ble_eq_true rfl) rfl ?_
  have hG := missing_f a b f1 f2 ha (by omega) ka kb
  have hC := missing_f b a f2 f1 hb (by omega) kb ka
  have lG := mis_len a b
  have lC := mis_len b a
  rw [difP]
  generalize misP a b = G at hG lG ⊢
  generalize misP b a = C at hC lC ⊢
  have hmG : (G.map fa).length = G.length := List.length_map _
  have hmC : (C.map fa).length = C.length := List.length_map _
  ((repeat ((conv => whnf); (first | (refine LetN.pre ?_; first | ((conv => arg 1; whnf); refine LetN.mk ?_)) | (refine As.pre ?_; first | refine As.mk rfl ?_) | (refine LetI.pre ?_; first | refine LetI.mk _ rfl ?_) | (refine Ck.pre ?_; first | refine Ck.mk rfl ?_) | (refine CallN.pre ?_; first | refine CallN.pure hG rfl rfl ?_)))); (try (conv => whnf)))
  clear hG
  refine LoopN.weak (s1 := d1S a b G f1 f2 e (0, [])) ?sw1 ?_
  case sw1 => exact SW.mk id rfl rfl (dN _ _ _) ⟨.refl _, .refl _, .refl _, VLe2.nilslm, .refl _, VLe2.int (by rw [hmG]), .refl _, trivial⟩ (haveV.one rfl (haveV.nil (Nat.le_of_ble_eq_true rfl) trivial))
  refine LoopN.ind T_ok mixed (S := d1S a b G f1 f2 e) (fun i => G.length - i.1) (fun i => i.1 ≤ G.length ∧ i.2 = (G.take i.1).map (goneP e)) (fun _ => rfl) (fun i hi ih => ?_) (0, []) ⟨Nat.zero_le _, rfl⟩
  obtain ⟨k, L⟩ := i
  obtain ⟨h1, h2⟩ := hi
  dsimp only at h1 h2
  have hLl : L.length = k := by rw [h2, List.length_map, List.length_take]; omega
  by_cases hlt : k < G.length
  · have hld := fa_ld hlt
    have hnx := ih (k + 1, L ++ [goneP e (G.getD k fa0)]) ⟨hlt, by dsimp only; rw [h2, List.take_succ_eq_append_getElem hlt, List.map_append, List.getD_eq_getElem?_getD, List.getElem?_eq_getElem hlt]; rfl⟩ (by show G.length - (k + 1) < G.length - k; omega)
    clear ih h2
    generalize G.getD k fa0 = f at hld hnx
    have hK := Kept_f f e
    have r1 := room_cg (n := L.length + 1) (by omega)
    have a1 := app_cg L (goneP e f) L.length rfl
    have l1 : (L ++ [goneP e f]).length = L.length + 1 := by simp
    unfold goneP at a1 l1 hnx
    generalize keptP f e.day = kp at hK a1 l1 hnx
    ((repeat ((conv => whnf); (first | (refine LetN.pre ?_; first | ((conv => arg 1; whnf); refine LetN.mk ?_)) | (refine As.pre ?_; first | refine As.mk rfl ?_ | (refine As.mk ?_ ?_; · ((repeat' (refine andT ?_ ?_)) <;> (first | rfl | assumption | exact decide_eq_true (by omega) | exact decide_eq_true (by dsimp only; omega) | exact decide_eq_true (by simp; omega) | (simp; done))))) | (refine LetV.pre ?_; first | refine LetV.mk (t := fsl) _ hld ?_ | refine LetV.mk (.sc (.int _ _)) rfl ?_ | refine LetV.mk (.agg _) rfl ?_) | (refine LetI.pre ?_; first | refine LetI.wrap (by omega) (by omega) ?_) | (refine LetB.pre ?_; first | refine LetB.dect (by omega) ?_) | (refine Br.pre ?_; first | refine Br.tt rfl ?_) | (refine Ck.pre ?_; first | refine Ck.drawn (by kernel_rfl) ?_ | refine Ck.mk rfl ?_) | (refine LetL.pre ?_; first | refine LetL.mk (ty := cty) _ a1 ?_ | refine LetL.mk [_] rfl ?_) | (refine CallN.pre ?_; first | refine CallN.pure hK rfl rfl ?_)))); (try (conv => whnf)))



    refine LoopN.weak ?sw2 hnx
    case sw2 => exact SW.mk rd3 rfl rfl (dN _ _ _) ⟨.refl _, .refl _, .refl _, VLe2.slm_of l1, .refl _, .refl _, VLe2.int (by omega), trivial⟩ (haveV.one rfl (haveV.row (pure_cg _) rfl trivial))
  · clear ih
    rw [List.take_of_length_le (by omega)] at h2
    rw [← h2]
    clear h2
    generalize hR : L ++ C.map (cameP e) = R
    ((repeat ((conv => whnf); (first | (refine As.pre ?_; first | refine As.mk rfl ?_) | (refine LetI.pre ?_; first | refine LetI.mk _ rfl ?_) | (refine LetB.pre ?_; first | refine LetB.decf (by omega) ?_) | (refine Br.pre ?_; first | refine Br.ff rfl ?_) | (refine Ck.pre ?_; first | refine Ck.mk rfl ?_) | (refine CallN.pre ?_; first | refine CallN.pure hC rfl rfl ?_)))); (try (conv => whnf)))
    clear hC
    refine LoopN.weak (s1 := d2S C e (0, L)) ?sw3 ?_
    case sw3 => exact SW.mk id rfl rfl (dN _ _ _) ⟨.refl _, .refl _, .refl _, VLe2.int (by rw [hmC]), .refl _, trivial⟩ (haveV.one rfl (haveV.row (pure_cg _) rfl trivial))
    refine LoopN.ind T_ok mixed (S := d2S C e) (fun i => C.length - i.1) (fun i => i.1 ≤ C.length ∧ i.2 = L ++ (C.take i.1).map (cameP e)) (fun _ => rfl) (fun i hi ih => ?_) (0, L) ⟨Nat.zero_le _, by simp⟩
    obtain ⟨j, N⟩ := i
    obtain ⟨g1, g2⟩ := hi
    dsimp only at g1 g2
    have hNl : N.length = L.length + j := by rw [g2, List.length_append, List.length_map, List.length_take]; omega
    by_cases hlt : j < C.length
    · have hld := fa_ld hlt
      have hnx := ih (j + 1, N ++ [cameP e (C.getD j fa0)]) ⟨hlt, by dsimp only; rw [g2, List.take_succ_eq_append_getElem hlt, List.map_append, List.append_assoc, List.getD_eq_getElem?_getD, List.getElem?_eq_getElem hlt]; rfl⟩ (by show C.length - (j + 1) < C.length - j; omega)
      clear ih g2 hR
      generalize C.getD j fa0 = f at hld hnx
      have r1 := room_cg (n := N.length + 1) (by omega)
      have a1 := app_cg N (cameP e f) N.length rfl
      have l1 : (N ++ [cameP e f]).length = N.length + 1 := by simp
      unfold cameP at a1 l1 hnx
      ((repeat ((conv => whnf); (first | (refine LetN.pre ?_; first | ((conv => arg 1; whnf); refine LetN.mk ?_)) | (refine As.pre ?_; first | refine As.mk rfl ?_ | (refine As.mk ?_ ?_; · ((repeat' (refine andT ?_ ?_)) <;> (first | rfl | assumption | exact decide_eq_true (by omega) | exact decide_eq_true (by dsimp only; omega) | exact decide_eq_true (by simp; omega) | (simp; done))))) | (refine LetV.pre ?_; first | refine LetV.mk (t := fsl) _ hld ?_ | refine LetV.mk (.sc (.int _ _)) rfl ?_ | refine LetV.mk (.agg _) rfl ?_) | (refine LetI.pre ?_; first | refine LetI.wrap (by omega) (by omega) ?_) | (refine LetB.pre ?_; first | refine LetB.dect (by omega) ?_) | (refine Br.pre ?_; first | refine Br.tt rfl ?_) | (refine Ck.pre ?_; first | refine Ck.mk rfl ?_) | (refine LetL.pre ?_; first | refine LetL.mk (ty := cty) _ a1 ?_ | refine LetL.mk [_] rfl ?_)))); (try (conv => whnf)))


      refine LoopN.weak ?sw4 hnx
      case sw4 => exact SW.mk rd3 rfl rfl (dN _ _ _) ⟨.refl _, VLe2.slm_of l1, .refl _, .refl _, VLe2.int (by omega), trivial⟩ (haveV.one rfl (haveV.row (pure_cg _) rfl trivial))
    · clear ih
      rw [List.take_of_length_le (by omega), hR] at g2
      subst g2
      ((repeat ((conv => whnf); (first | (refine As.pre ?_; first | refine As.mk rfl ?_) | (refine LetB.pre ?_; first | refine LetB.decf (by omega) ?_) | (refine Br.pre ?_; first | refine Br.ff rfl ?_) | (refine Ck.pre ?_; first | refine Ck.mk rfl ?_)))); (try (conv => whnf)))
      exact ⟨⟨[(6, .slm {} 0 10 0 N.length)], [(0, rwC N)], 1⟩, SW.mk (fun _ => 1) rfl rfl (namesAll.row (pure_cg _) rfl) ⟨.refl _, trivial⟩ (haveV.row (pure_cg _) rfl trivial), .inl rfl, ⟨_, rfl, rfl⟩, rfl, trivial⟩
theorem Differ_f (a b : List Fa) (e : E) (f1 f2 : Fl) (ha : a.length ≤ 12) (hb : b.length ≤ 12) (ka : ∀ x ∈ a, okF x) (kb : ∀ x ∈ b, okF x) : AFun Tryz.prog 9 0 [.ro f1 7 (a.map fa), .ro f2 7 (b.map fa), en e] [] (.ro {} 10 ((difP a b e).map cgA)) [] :=
  AFun.frz1 (H := []) (Differ_s a b e f1 f2 ha hb ka kb) rfl (pure_cg _) (by simp)
end En
end Go.Proofs.YtgnakhljdjekbaaGreatDoor
namespace Go.Proofs.YtgnakhljdjekbaaGreatDoor
open Go.Shelf
/-! The library's contracts at this program: where its functions and types lie. -/
def lays156_ren : Go.Shelf.Ren := ⟨fun | 156 => 32 | 165 => 55 | 166 => 56 | 169 => 57 | 240 => 79 | 241 => 80 | 276 => 99 | 277 => 100 | n => n, fun | 31 => 71 | 9 => 9 | 3 => 3 | 4 => 4 | 0 => 0 | 20 => 20 | 72 => 103 | 76 => 107 | 70 => 100 | 37 => 101 | 75 => 106 | 127 => 125 | 164 => 142 | 5 => 5 | 80 => 109 | n => n, fun | n => n⟩
theorem lays156 : Go.Proofs.Lays.n156 Tryz.prog lays156_ren where
  mixed := by kernel_rfl
  f156 := Tryz.func32.trans (congrArg some (by kernel_rfl))
  f165 := Tryz.func55.trans (congrArg some (by kernel_rfl))
  f166 := Tryz.func56.trans (congrArg some (by kernel_rfl))
  f169 := Tryz.func57.trans (congrArg some (by kernel_rfl))
  f240 := Tryz.func79.trans (congrArg some (by kernel_rfl))
  f241 := Tryz.func80.trans (congrArg some (by kernel_rfl))
  f276 := Tryz.func99.trans (congrArg some (by kernel_rfl))
  f277 := Tryz.func100.trans (congrArg some (by kernel_rfl))
  t0 := Tryz.underlying0
  a0 := Tryz.isAgg0
  z0 := Tryz.sizeOf0
  v0 := Tryz.zeroValue0
  t3 := Tryz.underlying3
  a3 := Tryz.isAgg3
  z3 := Tryz.sizeOf3
  v3 := Tryz.zeroValue3
  t4 := Tryz.underlying4
  a4 := Tryz.isAgg4
  z4 := Tryz.sizeOf4
  v4 := Tryz.zeroValue4
  t9 := Tryz.underlying9
  a9 := Tryz.isAgg9
  z9 := Tryz.sizeOf9
  v9 := Tryz.zeroValue9
  t20 := Tryz.underlying20
  a20 := Tryz.isAgg20
  z20 := Tryz.sizeOf20
  v20 := Tryz.zeroValue20
  t31 := Tryz.underlying71
  a31 := Tryz.isAgg71
  z31 := Tryz.sizeOf71
  v31 := Tryz.zeroValue71
  t37 := Tryz.underlying101
  a37 := Tryz.isAgg101
  z37 := Tryz.sizeOf101
  v37 := Tryz.zeroValue101
  t70 := Tryz.underlying100
  a70 := Tryz.isAgg100
  z70 := Tryz.sizeOf100
  v70 := Tryz.zeroValue100
  t72 := Tryz.underlying103
  a72 := Tryz.isAgg103
  z72 := Tryz.sizeOf103
  v72 := Tryz.zeroValue103
  t75 := Tryz.underlying106
  a75 := Tryz.isAgg106
  z75 := Tryz.sizeOf106
  v75 := Tryz.zeroValue106
  t76 := Tryz.underlying107
  a76 := Tryz.isAgg107
  z76 := Tryz.sizeOf107
  v76 := Tryz.zeroValue107
  t127 := Tryz.underlying125
  a127 := Tryz.isAgg125
  z127 := Tryz.sizeOf125
  v127 := Tryz.zeroValue125
  t164 := Tryz.underlying142
  a164 := Tryz.isAgg142
  z164 := Tryz.sizeOf142
  v164 := Tryz.zeroValue142
theorem xtra : Go.Proofs.Builder.Extra Tryz.prog lays156_ren where
  sizeBuilder := by kernel_rfl
  liesBuilder := by kernel_rfl
  t5 := Tryz.underlying5
  a5 := Tryz.isAgg5
  z5 := Tryz.sizeOf5
  v5 := Tryz.zeroValue5
  infoByte := by kernel_rfl
  cellsByte := by kernel_rfl
  sizeByte := by kernel_rfl
  neB5 := by decide
def lays171_ren : Go.Shelf.Ren := ⟨fun | 171 => 31 | 243 => 54 | 246 => 78 | 283 => 95 | 284 => 96 | 285 => 97 | 286 => 98 | 129 => 127 | 317 => 128 | 318 => 129 | 319 => 130 | 320 => 131 | 337 => 141 | 338 => 142 | n => n, fun | 3 => 3 | 9 => 9 | 2 => 2 | 4 => 4 | 171 => 136 | 0 => 0 | 53 => 137 | 37 => 101 | 5 => 5 | 173 => 140 | 212 => 163 | 51 => 161 | 20 => 20 | 213 => 164 | 46 => 135 | 232 => 177 | 233 => 178 | n => n, fun | 17 => 2 | 18 => 3 | 19 => 4 | n => n⟩
theorem lays171 : Go.Proofs.Lays.n171 Tryz.prog lays171_ren where
  mixed := by kernel_rfl
  f129 := Tryz.func127.trans (congrArg some (by kernel_rfl))
  f171 := Tryz.func31.trans (congrArg some (by kernel_rfl))
  f243 := Tryz.func54.trans (congrArg some (by kernel_rfl))
  f246 := Tryz.func78.trans (congrArg some (by kernel_rfl))
  f283 := Tryz.func95.trans (congrArg some (by kernel_rfl))
  f284 := Tryz.func96.trans (congrArg some (by kernel_rfl))
  f285 := Tryz.func97.trans (congrArg some (by kernel_rfl))
  f286 := Tryz.func98.trans (congrArg some (by kernel_rfl))
  f317 := Tryz.func128.trans (congrArg some (by kernel_rfl))
  f318 := Tryz.func129.trans (congrArg some (by kernel_rfl))
  f319 := Tryz.func130.trans (congrArg some (by kernel_rfl))
  f320 := Tryz.func131.trans (congrArg some (by kernel_rfl))
  f337 := Tryz.func141.trans (congrArg some (by kernel_rfl))
  f338 := Tryz.func142.trans (congrArg some (by kernel_rfl))
  t0 := Tryz.underlying0
  a0 := Tryz.isAgg0
  z0 := Tryz.sizeOf0
  v0 := Tryz.zeroValue0
  t2 := Tryz.underlying2
  a2 := Tryz.isAgg2
  z2 := Tryz.sizeOf2
  v2 := Tryz.zeroValue2
  t3 := Tryz.underlying3
  a3 := Tryz.isAgg3
  z3 := Tryz.sizeOf3
  v3 := Tryz.zeroValue3
  t4 := Tryz.underlying4
  a4 := Tryz.isAgg4
  z4 := Tryz.sizeOf4
  v4 := Tryz.zeroValue4
  t5 := Tryz.underlying5
  a5 := Tryz.isAgg5
  z5 := Tryz.sizeOf5
  v5 := Tryz.zeroValue5
  t9 := Tryz.underlying9
  a9 := Tryz.isAgg9
  z9 := Tryz.sizeOf9
  v9 := Tryz.zeroValue9
  t20 := Tryz.underlying20
  a20 := Tryz.isAgg20
  z20 := Tryz.sizeOf20
  v20 := Tryz.zeroValue20
  t37 := Tryz.underlying101
  a37 := Tryz.isAgg101
  z37 := Tryz.sizeOf101
  v37 := Tryz.zeroValue101
  t46 := Tryz.underlying135
  a46 := Tryz.isAgg135
  z46 := Tryz.sizeOf135
  v46 := Tryz.zeroValue135
  t51 := Tryz.underlying161
  a51 := Tryz.isAgg161
  z51 := Tryz.sizeOf161
  v51 := Tryz.zeroValue161
  t53 := Tryz.underlying137
  a53 := Tryz.isAgg137
  z53 := Tryz.sizeOf137
  v53 := Tryz.zeroValue137
  t171 := Tryz.underlying136
  a171 := Tryz.isAgg136
  z171 := Tryz.sizeOf136
  v171 := Tryz.zeroValue136
  t173 := Tryz.underlying140
  a173 := Tryz.isAgg140
  z173 := Tryz.sizeOf140
  v173 := Tryz.zeroValue140
  t212 := Tryz.underlying163
  a212 := Tryz.isAgg163
  z212 := Tryz.sizeOf163
  v212 := Tryz.zeroValue163
  t213 := Tryz.underlying164
  a213 := Tryz.isAgg164
  z213 := Tryz.sizeOf164
  t232 := Tryz.underlying177
  a232 := Tryz.isAgg177
  z232 := Tryz.sizeOf177
  v232 := Tryz.zeroValue177
  t233 := Tryz.underlying178
  a233 := Tryz.isAgg178
  z233 := Tryz.sizeOf178
  v233 := Tryz.zeroValue178
  g17 := by kernel_rfl
  g18 := by kernel_rfl
  g19 := by kernel_rfl
def laysM171_ren : Go.Shelf.Ren := ⟨fun | 171 => 31 | 243 => 54 | 246 => 78 | 283 => 95 | 284 => 96 | 285 => 97 | 286 => 98 | 129 => 127 | 317 => 128 | 318 => 129 | 319 => 130 | 320 => 131 | 337 => 141 | 338 => 142 | n => n, fun | 3 => 3 | 9 => 9 | 2 => 2 | 4 => 4 | 171 => 136 | 0 => 0 | 53 => 137 | 37 => 101 | 5 => 5 | 173 => 140 | 212 => 163 | 51 => 161 | 20 => 20 | 213 => 164 | 46 => 135 | 232 => 177 | 233 => 178 | n => n, fun | 17 => 2 | 18 => 3 | 19 => 4 | n => n⟩
theorem laysM171 : Go.Proofs.LaysM.n171 Tryz.prog laysM171_ren where
  mixed := by kernel_rfl
  f129 := Tryz.func127.trans (congrArg some (by kernel_rfl))
  f171 := Tryz.func31.trans (congrArg some (by kernel_rfl))
  f243 := Tryz.func54.trans (congrArg some (by kernel_rfl))
  f246 := Tryz.func78.trans (congrArg some (by kernel_rfl))
  f283 := Tryz.func95.trans (congrArg some (by kernel_rfl))
  f284 := Tryz.func96.trans (congrArg some (by kernel_rfl))
  f285 := Tryz.func97.trans (congrArg some (by kernel_rfl))
  f286 := Tryz.func98.trans (congrArg some (by kernel_rfl))
  f317 := Tryz.func128.trans (congrArg some (by kernel_rfl))
  f318 := Tryz.func129.trans (congrArg some (by kernel_rfl))
  f319 := Tryz.func130.trans (congrArg some (by kernel_rfl))
  f320 := Tryz.func131.trans (congrArg some (by kernel_rfl))
  f337 := Tryz.func141.trans (congrArg some (by kernel_rfl))
  f338 := Tryz.func142.trans (congrArg some (by kernel_rfl))
  t0 := Tryz.underlying0
  a0 := Tryz.isAgg0
  z0 := Tryz.sizeOf0
  v0 := Tryz.zeroValue0
  t2 := Tryz.underlying2
  a2 := Tryz.isAgg2
  z2 := Tryz.sizeOf2
  v2 := Tryz.zeroValue2
  t3 := Tryz.underlying3
  a3 := Tryz.isAgg3
  z3 := Tryz.sizeOf3
  v3 := Tryz.zeroValue3
  t4 := Tryz.underlying4
  a4 := Tryz.isAgg4
  z4 := Tryz.sizeOf4
  v4 := Tryz.zeroValue4
  t5 := Tryz.underlying5
  a5 := Tryz.isAgg5
  z5 := Tryz.sizeOf5
  v5 := Tryz.zeroValue5
  t9 := Tryz.underlying9
  a9 := Tryz.isAgg9
  z9 := Tryz.sizeOf9
  v9 := Tryz.zeroValue9
  t20 := Tryz.underlying20
  a20 := Tryz.isAgg20
  z20 := Tryz.sizeOf20
  v20 := Tryz.zeroValue20
  t37 := Tryz.underlying101
  a37 := Tryz.isAgg101
  z37 := Tryz.sizeOf101
  v37 := Tryz.zeroValue101
  t46 := Tryz.underlying135
  a46 := Tryz.isAgg135
  z46 := Tryz.sizeOf135
  v46 := Tryz.zeroValue135
  t51 := Tryz.underlying161
  a51 := Tryz.isAgg161
  z51 := Tryz.sizeOf161
  v51 := Tryz.zeroValue161
  t53 := Tryz.underlying137
  a53 := Tryz.isAgg137
  z53 := Tryz.sizeOf137
  v53 := Tryz.zeroValue137
  t171 := Tryz.underlying136
  a171 := Tryz.isAgg136
  z171 := Tryz.sizeOf136
  v171 := Tryz.zeroValue136
  t173 := Tryz.underlying140
  a173 := Tryz.isAgg140
  z173 := Tryz.sizeOf140
  v173 := Tryz.zeroValue140
  t212 := Tryz.underlying163
  a212 := Tryz.isAgg163
  z212 := Tryz.sizeOf163
  v212 := Tryz.zeroValue163
  t213 := Tryz.underlying164
  a213 := Tryz.isAgg164
  z213 := Tryz.sizeOf164
  t232 := Tryz.underlying177
  a232 := Tryz.isAgg177
  z232 := Tryz.sizeOf177
  v232 := Tryz.zeroValue177
  t233 := Tryz.underlying178
  a233 := Tryz.isAgg178
  z233 := Tryz.sizeOf178
  v233 := Tryz.zeroValue178
  g17 := by kernel_rfl
  g18 := by kernel_rfl
  g19 := by kernel_rfl
  i0 := by kernel_rfl
  i2 := by kernel_rfl
  i3 := by kernel_rfl
  i4 := by kernel_rfl
  i5 := by kernel_rfl
  i9 := by kernel_rfl
  i20 := by kernel_rfl
  i37 := by kernel_rfl
  i46 := by kernel_rfl
  i51 := by kernel_rfl
  i53 := by kernel_rfl
  i171 := by kernel_rfl
  i173 := by kernel_rfl
  i212 := by kernel_rfl
  i232 := by kernel_rfl
  i233 := by kernel_rfl
  m17 := by kernel_rfl
  m18 := by kernel_rfl
  m19 := by kernel_rfl
end Go.Proofs.YtgnakhljdjekbaaGreatDoor
namespace Go.Proofs.YtgnakhljdjekbaaGreatDoor
open Go.Proofs.YtgnakhljdjekbaaGreatDoor.Am
set_option maxRecDepth 100000
namespace En
/-! ### Numerals and joined strings, by the library's contracts -/
theorem of_below {p : Nat} {w w' : World} {g : Gh} (hH : HRel w g []) (h : Go.RowKit.Below w.heap.size w w') : AdvP p w g [] w' g [] ∧ HRel w' g [] := by
  have hI : ∀ b, g.I b → g.I b ∧ w'.heap[b]? = w.heap[b]? := fun b hb => ⟨hb, h.block b (hH.lt b hb)⟩
  refine ⟨⟨fun _ _ => rfl, hI, fun b cs ty fz hb => ⟨cs, (h.block b (heap_lt hb)).trans hb, rfl⟩, ⟨h.os, h.tape, h.output, h.size, fun b hb _ => h.block b hb⟩, (fun id B b E hi => by cases hi), fun b hb _ => .inl hb⟩, ?_⟩
  exact ⟨(fun id B hB => by cases hB), (fun i j b E E' A B hi => by cases hi), (fun i b E B hi => by cases hi), fun b hb => Nat.lt_of_lt_of_le (hH.lt b hb) h.size, hH.gl.mono hI⟩
theorem ItoaS_f (n : Int) (h : 0 ≤ n ∧ n < 100) : AFun Tryz.prog 31 0 [int n] [] (str ⟨(tI n).toArray⟩) [] := by
  intro w g xs hl hx hH _
  obtain ⟨x, rfl⟩ : ∃ x, xs = #[x] := by
    rcases xs with ⟨l⟩
    rcases l with _ | ⟨a, _ | ⟨b, l⟩⟩
    all_goals simp at hl
    exact ⟨a, rfl⟩
  have h0 := (hx 0 _ x rfl rfl).sc_inv
  subst h0
  obtain ⟨i, rfl⟩ : ∃ i : Nat, n = i := ⟨n.toNat, by omega⟩
  have e : tI (i : Int) = Go.Lib.decDigits i := by
    unfold tI Go.Lib.itoa
    rw [if_neg (by omega)]; rfl
  rw [e]
  refine (Any.strconv_Itoa_small lays171 i (by omega) w).mono ?_
  rintro e w' ⟨rfl, rfl⟩
  exact ⟨_, g, rfl, AdvP.refl .., .sc _ rfl, hH⟩
abbrev joinB (xs : List ByteArray) (sep : ByteArray) : ByteArray := ⟨(Go.Lib.join (xs.map (·.data.toList)) sep.data.toList).toArray⟩
theorem Join_f (xs : List ByteArray) (sep : ByteArray) (fl : Fl) (hne : xs ≠ []) (hN : xs.length ≤ 1000) (hlen : (Go.Lib.join (xs.map (·.data.toList)) sep.data.toList).length ≤ 281474976710656) :
    AFun Tryz.prog 32 0 [.ro fl 1 (xs.map str), str sep] [] (str (joinB xs sep)) [] := by
  intro w g vs hl hx hH _
  obtain ⟨x, y, rfl⟩ : ∃ x y, vs = #[x, y] := by
    rcases vs with ⟨l⟩
    rcases l with _ | ⟨a, _ | ⟨b, _ | ⟨d, l⟩⟩⟩
    all_goals simp at hl
    exact ⟨a, b, rfl⟩
  have h0 := hx 0 _ x rfl rfl
  have h1 := (hx 1 _ y rfl rfl).sc_inv
  subst h1
  obtain ⟨x0, xs', hxs⟩ := List.exists_cons_of_ne_nil hne
  generalize hes : xs.map str = es at h0
  cases h0 with
  | roz h1 h2 h3 => rw [hxs] at hes; cases hes
  | ro X k1 k2 k3 k4 k5 k6 =>
    rename_i b o cap
    subst hes
    rw [List.length_map] at k2 ⊢
    refine (Any.strings_Join_48 lays156 xtra b o cap xs sep w (fun j x hj => ?_) (hH.lt b k1) (by omega) k2 hlen).mono ?_
    · have e1 : (xs.map str)[j]? = some (str x) := by rw [List.getElem?_map, hj]; rfl
      have c1 := k5 j 0 (str x) (str x) e1 rfl
      have c2 := (k6 j 0 (str x) (str x) e1 rfl).sc_inv
      rw [c2] at c1
      simpa using c1
    · rintro e w' ⟨rfl, hb⟩
      obtain ⟨hA, hH'⟩ := of_below (p := 0) hH hb
      exact ⟨_, g, rfl, hA, .sc _ rfl, hH'⟩
end En
end Go.Proofs.YtgnakhljdjekbaaGreatDoor
namespace Go.Proofs.YtgnakhljdjekbaaGreatDoor
open Go.Proofs.YtgnakhljdjekbaaGreatDoor.Am
set_option maxRecDepth 100000
namespace En
/-! ### The text of a change -/
abbrev bsB (l : List UInt8) : ByteArray := ⟨l.toArray⟩
def kk (k : Int) : Int := if 1 ≤ k ∧ k ≤ 7 then k else 0
abbrev sgn (g : Bool) : UInt8 := if g then 45 else 43
abbrev txH (c : Cg) : AH := [(0, .row 10 cty [cgA c]), (1, .row 7 fty [fa c.f])]
abbrev tx0 (c : Cg) : AS := ⟨[(1, .ptr 0 10 0 0), (3, .ptr 1 7 0 0), (4, str (bsB [sgn c.gone]))], txH c, 2⟩
abbrev tx1 (c : Cg) : AS := ⟨[(1, .ptr 0 10 0 0), (3, .ptr 1 7 0 0), (4, str (bsB [sgn c.gone])), (5, int (kk c.f.kind))], txH c, 2⟩
abbrev tx2 (c : Cg) : AS := ⟨[(1, .ptr 0 10 0 0), (3, .ptr 1 7 0 0), (6, .ro ⟨true, true⟩ 1 [str (bsB (sgn c.gone :: wordL c.f.kind))])], txH c, 2⟩
abbrev txS (c : Cg) (l : List ByteArray) : AS := ⟨[(1, .ptr 0 10 0 0), (3, .ptr 1 7 0 0), (6, .slm {} 2 1 0 l.length)], txH c ++ [(2, .row 1 9 (l.map str))], 3⟩
def rt5 : Nat → Nat | 2 => 5 | i => i
theorem As.mk0 {b : Bool} {K : Prop} (h : b = true) (k : K) : As b K := .mk h k
def rt3 : Nat → Nat | 2 => 3 | i => i
theorem pure_str : ∀ l : List ByteArray, AV.namesL (fun _ => false) (l.map str) = true
  | [] => rfl
  | p :: l => by simp only [List.map_cons, AV.namesL, pure_str l]; rfl
theorem ttN (a b : Blk) (l : List ByteArray) (ok : Nat → Bool) (ha : a.names ok = true := by rfl) (hb : b.names ok = true := by rfl) : namesAll ok ([(0, a), (1, b)] ++ [(2, .row 1 9 (l.map str))]) = true := by
  have h2 : namesAll ok [(2, .row 1 9 (l.map str))] = true := namesAll.row (pure_str _) rfl
  show namesAll ok ((0, a) :: (1, b) :: [(2, _)]) = true
  rw [namesAll, namesAll, h2, ha, hb]; rfl
theorem wordL_kk (k : Int) : wordL (kk k) = wordL k := by
  unfold kk
  split
  · rfl
  · unfold wordL
    repeat rw [if_neg (by omega)]
set_option maxHeartbeats 3200000 in
set_option maxRecDepth 100000 in
theorem Text_f (c : Cg) (hI : ∀ n, n ∈ [c.f.student, c.f.id, c.f.term, c.f.n, c.f.school, c.entry] → AFun Tryz.prog 31 0 [int n] [] (str (bsB (tI n))) [])
    (hn : ∀ n, n ∈ [c.f.student, c.f.id, c.f.term, c.f.n, c.f.school, c.entry] → okI n) (hc : c.f.code.size ≤ 1000) : AFun Tryz.prog 12 0 [cgA c] [] (str (textP c)) [] := by
  refine AFun.of_VS T_ok Tryz.func12 rfl (Nat.le_of_ble_eq_true rfl) ?_
  refine VS.cut T_ok mixed rfl ?_
  ((repeat ((conv => whnf); (first | (refine LetN.pre ?_; first | ((conv => arg 1; whnf); refine LetN.mk ?_)) | (refine As.pre ?_; first | refine As.mk rfl ?_) | (refine Ck.pre ?_; first | refine Ck.mk rfl ?_)))); (try (conv => whnf)))
  refine VS.cut T_ok mixed rfl ?_
  ((repeat ((conv => whnf); (first | (refine LetN.pre ?_; first | ((conv => arg 1; whnf); refine LetN.mk ?_)) | (refine As.pre ?_; first | refine As.mk rfl ?_) | (refine LetV.pre ?_; first | refine LetV.mk (.agg _) rfl ?_) | (refine Ck.pre ?_; first | refine Ck.mk rfl ?_) | (refine LetL.pre ?_; first | refine LetL.mk [_] rfl ?_)))); (try (conv => whnf)))
  refine VS.cut T_ok mixed rfl ?_
  ((repeat ((conv => whnf); (first | (refine As.pre ?_; first | refine As.mk rfl ?_) | (refine Ck.pre ?_; first | refine Ck.mk rfl ?_)))); (try (conv => whnf)))
  refine VS.joinN (fun _ : Unit => tx0 c) (fun _ => True) ?p0 ?_
  case p0 =>
    refine VS.of_V T_ok mixed rfl ?_
    clear hI hn
    obtain ⟨f, g, kp, en⟩ := c
    cases g <;>
    · ((repeat ((conv => whnf); (first | (refine As.pre ?_; first | refine As.mk rfl ?_) | (refine LetV.pre ?_; first | refine LetV.mk (.sc (.bool _)) rfl ?_) | (refine Br.pre ?_; first | refine Br.tt rfl ?_ | refine Br.ff rfl ?_) | (refine Ck.pre ?_; first | refine Ck.mk rfl ?_)))); (try (conv => whnf)))
      exact ⟨rfl, (), trivial, SW.mk id rfl rfl rfl ⟨.refl _, .refl _, .refl _, trivial⟩ (haveV.one rfl (haveV.one rfl trivial))⟩
  intro _ _
  refine VS.cut T_ok mixed rfl ?_
  ((repeat ((conv => whnf); (first | (refine As.pre ?_; first | refine As.mk rfl ?_) | (refine LetV.pre ?_; first | refine LetV.mk (.sc (.int _ _)) rfl ?_) | (refine Ck.pre ?_; first | refine Ck.mk rfl ?_)))); (try (conv => whnf)))
  refine VS.joinN (fun _ : Unit => tx1 c) (fun _ => True) ?p1 ?_
  case p1 =>
    refine VS.of_V T_ok mixed rfl ?_
    clear hI hn
    obtain ⟨⟨k, st, i, t, n, sc, co⟩, g, kp, en⟩ := c
    by_cases h1 : k < 1
    · have e : kk k = 0 := if_neg (by omega)
      ((repeat ((conv => whnf); (first | (refine As.pre ?_; first | refine As.mk rfl ?_) | (refine LetB.pre ?_; first | refine LetB.dect (by omega) ?_) | (refine Gd.pre ?_; first | refine Gd.pass rfl ?_) | (refine Br.pre ?_; first | refine Br.tt rfl ?_) | (refine Ck.pre ?_; first | refine Ck.mk rfl ?_)))); (try (conv => whnf)))
      exact ⟨rfl, (), trivial, SW.mk id rfl rfl rfl ⟨.refl _, .refl _, .refl _, VLe2.int e, trivial⟩ (haveV.one rfl (haveV.one rfl trivial))⟩
    · by_cases h2 : 8 ≤ k
      · have e : kk k = 0 := if_neg (by omega)
        ((repeat ((conv => whnf); (first | (refine As.pre ?_; first | refine As.mk rfl ?_) | (refine LetB.pre ?_; first | refine LetB.dect (by omega) ?_ | refine LetB.decf (by omega) ?_) | (refine Gd.pre ?_; first | refine Gd.run rfl ?_) | (refine Br.pre ?_; first | refine Br.tt rfl ?_) | (refine Ck.pre ?_; first | refine Ck.mk rfl ?_)))); (try (conv => whnf)))
        exact ⟨rfl, (), trivial, SW.mk id rfl rfl rfl ⟨.refl _, .refl _, .refl _, VLe2.int e, trivial⟩ (haveV.one rfl (haveV.one rfl trivial))⟩
      · have e : kk k = k := if_pos (by omega)
        ((repeat ((conv => whnf); (first | (refine As.pre ?_; first | refine As.mk rfl ?_) | (refine LetB.pre ?_; first | refine LetB.decf (by omega) ?_) | (refine Gd.pre ?_; first | refine Gd.run rfl ?_) | (refine Br.pre ?_; first | refine Br.ff rfl ?_) | (refine Ck.pre ?_; first | refine Ck.mk rfl ?_)))); (try (conv => whnf)))
        exact ⟨rfl, (), trivial, SW.mk id rfl rfl rfl ⟨.refl _, .refl _, .refl _, VLe2.int e, trivial⟩ (haveV.one rfl (haveV.one rfl trivial))⟩
  intro _ _
  refine VS.joinN (fun _ : Unit => tx2 c) (fun _ => True) ?p2 ?_
  case p2 =>
    refine VS.of_V T_ok mixed rfl ?_
    clear hI hn hc
    have hk : kk c.f.kind = 0 ∨ kk c.f.kind = 1 ∨ kk c.f.kind = 2 ∨ kk c.f.kind = 3 ∨ kk c.f.kind = 4 ∨ kk c.f.kind = 5 ∨ kk c.f.kind = 6 ∨ kk c.f.kind = 7 := by
      unfold kk
      split <;> omega
    have hw := wordL_kk c.f.kind
    obtain ⟨f, g, kp, en⟩ := c
    obtain ⟨k, st, i, t, n, sc, co⟩ := f
    dsimp only at hk hw
    unfold tx1 tx2
    dsimp only
    rw [← hw]
    generalize kk k = q at hk
    rcases hk with rfl | rfl | rfl | rfl | rfl | rfl | rfl | rfl <;> cases g <;>
    · ((repeat ((conv => whnf); (first | (refine As.pre ?_; first | refine As.mk rfl ?_) | (refine LetV.pre ?_; first | refine LetV.mk (.sc _) rfl ?_ | refine LetV.mk (.agg _) rfl ?_) | (refine Ck.pre ?_; first | refine Ck.mk rfl ?_)))); (try (conv => whnf)))
      exact ⟨rfl, (), trivial, SW.mk id rfl rfl rfl ⟨.refl _, .refl _, VLe2.of_eq rfl, trivial⟩ (haveV.one rfl (haveV.one rfl trivial))⟩
  intro _ _
  have i1 := hI c.f.student (by simp)
  have i2 := hI c.f.id (by simp)
  have i3 := hI c.f.term (by simp)
  have i4 := hI c.f.n (by simp)
  have i5 := hI c.f.school (by simp)
  have i6 := hI c.entry (by simp)
  clear hI
  refine VS.joinN (fun _ : Unit => txS c [bsB (sgn c.gone :: wordL c.f.kind), bsB (tI c.f.student), bsB (tI c.f.id), bsB (tI c.f.term), bsB (tI c.f.n)]) (fun _ => True) ?p3 ?_
  case p3 =>
    refine VS.of_V T_ok mixed rfl ?_
    clear i5 i6 hn hc
    unfold tx2 txS txH
    generalize bsB (sgn c.gone :: wordL c.f.kind) = w0
    generalize bsB (tI c.f.student) = s1 at i1 ⊢
    generalize bsB (tI c.f.id) = s2 at i2 ⊢
    generalize bsB (tI c.f.term) = s3 at i3 ⊢
    generalize bsB (tI c.f.n) = s4 at i4 ⊢
    obtain ⟨⟨k, st, i, t, n, sc, co⟩, g, kp, en⟩ := c
    dsimp only at i1 i2 i3 i4
    ((repeat ((conv => whnf); (first | (refine As.pre ?_; first | refine As.mk rfl ?_) | (refine LetV.pre ?_; first | refine LetV.mk (.sc (.int _ _)) rfl ?_) | (refine Ck.pre ?_; first | refine Ck.mk rfl ?_)))); (try (conv => whnf)))
    refine LoopN.round T_ok mixed rfl ?_
    ((repeat ((conv => whnf); (first | (refine LetN.pre ?_; first | ((conv => arg 1; whnf); refine LetN.mk ?_)) | (refine As.pre ?_; first | refine As.mk rfl ?_) | (refine LetV.pre ?_; first | refine LetV.mk (.sc (.int _ _)) rfl ?_) | (refine LetI.pre ?_; first | refine LetI.wrap (by omega) (by omega) ?_) | (refine LetB.pre ?_; first | refine LetB.tt rfl ?_) | (refine Br.pre ?_; first | refine Br.tt rfl ?_) | (refine Ck.pre ?_; first | refine Ck.mk rfl ?_) | (refine LetL.pre ?_; first | refine LetL.mk (ty := 9) [_, _] rfl ?_) | (refine CallN.pre ?_; first | refine CallN.pure i1 rfl rfl ?_)))); (try (conv => whnf)))
    refine LoopN.round T_ok mixed rfl ?_
    ((repeat ((conv => whnf); (first | (refine LetN.pre ?_; first | ((conv => arg 1; whnf); refine LetN.mk ?_)) | (refine As.pre ?_; first | refine As.mk rfl ?_) | (refine LetV.pre ?_; first | refine LetV.mk (.sc (.int _ _)) rfl ?_) | (refine LetI.pre ?_; first | refine LetI.wrap (by omega) (by omega) ?_) | (refine LetB.pre ?_; first | refine LetB.tt rfl ?_) | (refine Br.pre ?_; first | refine Br.tt rfl ?_) | (refine Ck.pre ?_; first | refine Ck.mk rfl ?_) | (refine LetL.pre ?_; first | refine LetL.mk (ty := 9) [_, _, _] rfl ?_) | (refine CallN.pre ?_; first | refine CallN.pure i2 rfl rfl ?_)))); (try (conv => whnf)))
    refine LoopN.round T_ok mixed rfl ?_
    ((repeat ((conv => whnf); (first | (refine LetN.pre ?_; first | ((conv => arg 1; whnf); refine LetN.mk ?_)) | (refine As.pre ?_; first | refine As.mk rfl ?_) | (refine LetV.pre ?_; first | refine LetV.mk (.sc (.int _ _)) rfl ?_) | (refine LetI.pre ?_; first | refine LetI.wrap (by omega) (by omega) ?_) | (refine LetB.pre ?_; first | refine LetB.tt rfl ?_) | (refine Br.pre ?_; first | refine Br.tt rfl ?_) | (refine Ck.pre ?_; first | refine Ck.mk rfl ?_) | (refine LetL.pre ?_; first | refine LetL.mk (ty := 9) [_, _, _, _] rfl ?_) | (refine CallN.pre ?_; first | refine CallN.pure i3 rfl rfl ?_)))); (try (conv => whnf)))
    refine LoopN.round T_ok mixed rfl ?_
    ((repeat ((conv => whnf); (first | (refine LetN.pre ?_; first | ((conv => arg 1; whnf); refine LetN.mk ?_)) | (refine As.pre ?_; first | refine As.mk rfl ?_) | (refine LetV.pre ?_; first | refine LetV.mk (.sc (.int _ _)) rfl ?_) | (refine LetI.pre ?_; first | refine LetI.wrap (by omega) (by omega) ?_) | (refine LetB.pre ?_; first | refine LetB.tt rfl ?_) | (refine Br.pre ?_; first | refine Br.tt rfl ?_) | (refine Ck.pre ?_; first | refine Ck.mk rfl ?_) | (refine LetL.pre ?_; first | refine LetL.mk (ty := 9) [_, _, _, _, _] rfl ?_) | (refine CallN.pre ?_; first | refine CallN.pure i4 rfl rfl ?_)))); (try (conv => whnf)))
    refine LoopN.round T_ok mixed rfl ?_
    ((repeat ((conv => whnf); (first | (refine As.pre ?_; first | refine As.mk rfl ?_) | (refine LetB.pre ?_; first | refine LetB.ff rfl ?_) | (refine Br.pre ?_; first | refine Br.ff rfl ?_) | (refine Ck.pre ?_; first | refine Ck.mk rfl ?_)))); (try (conv => whnf)))
    exact ⟨rfl, (), trivial, SW.mk rt5 rfl rfl rfl ⟨.refl _, .refl _, VLe2.slm_of rfl, trivial⟩ (haveV.one rfl (haveV.one rfl (haveV.row rfl rfl trivial)))⟩
  intro _ _
  have hT : textP c = joinB ([bsB (sgn c.gone :: wordL c.f.kind), bsB (tI c.f.student), bsB (tI c.f.id), bsB (tI c.f.term), bsB (tI c.f.n), bsB (tI c.f.school) ++ bsB [58] ++ c.f.code, bsB [98, 121], bsB (tI c.entry)] ++ if c.kept then [bsB [107, 101, 112, 116]] else []) (bsB [32]) := by
    unfold textP pieces joinB
    have e5 : (bsB (tI c.f.school) ++ bsB [58] ++ c.f.code).data.toList = tI c.f.school ++ 58 :: c.f.code.data.toList := by
      simp [bsB]
    cases c.kept <;> simp [e5, bsB]
  have hlen : (Go.Lib.join ((([bsB (sgn c.gone :: wordL c.f.kind), bsB (tI c.f.student), bsB (tI c.f.id), bsB (tI c.f.term), bsB (tI c.f.n), bsB (tI c.f.school) ++ bsB [58] ++ c.f.code, bsB [98, 121], bsB (tI c.entry)] ++ if c.kept then [bsB [107, 101, 112, 116]] else [])).map (·.data.toList)) (bsB [32]).data.toList).length ≤ 281474976710656 := by
    have z : ∀ n, n ∈ [c.f.student, c.f.id, c.f.term, c.f.n, c.f.school, c.entry] → (tI n).length ≤ 21 := fun n h => Go.Lib.itoa_length_le n (hn n h).1 (hn n h).2
    have z1 := z c.f.student (by simp)
    have z2 := z c.f.id (by simp)
    have z3 := z c.f.term (by simp)
    have z4 := z c.f.n (by simp)
    have z5 := z c.f.school (by simp)
    have z6 := z c.entry (by simp)
    have zw : (wordL c.f.kind).length ≤ 8 := by
      unfold wordL
      repeat' split
      all_goals decide
    have zc : c.f.code.data.toList.length ≤ 1000 := by simpa using hc
    have e5 : (bsB (tI c.f.school) ++ bsB [58] ++ c.f.code).data.toList = tI c.f.school ++ 58 :: c.f.code.data.toList := by simp [bsB]
    rw [List.map_append, List.map_cons, List.cons_append, Go.Lib.join_length]
    cases c.kept <;> simp only [Go.Lib.lens, List.map_cons, List.map_nil, List.cons_append, List.nil_append, List.append_nil, List.length_cons, List.length_nil, List.sum_cons, List.sum_nil, e5, List.length_append, if_true, if_false, Bool.false_eq_true] <;> omega
  refine VS.joinN (fun _ : Unit => txS c [bsB (sgn c.gone :: wordL c.f.kind), bsB (tI c.f.student), bsB (tI c.f.id), bsB (tI c.f.term), bsB (tI c.f.n), bsB (tI c.f.school) ++ bsB [58] ++ c.f.code, bsB [98, 121], bsB (tI c.entry)]) (fun _ => True) ?p4 ?_
  case p4 =>
    refine VS.of_V T_ok mixed rfl ?_
    have hz5 : (bsB (tI c.f.school)).size ≤ 21 := by
      have := hn c.f.school (by simp)
      exact Go.Lib.itoa_length_le c.f.school this.1 this.2
    clear hlen hT i1 i2 i3 i4 hn
    unfold txS txH
    generalize bsB (sgn c.gone :: wordL c.f.kind) = w0
    generalize bsB (tI c.f.student) = s1
    generalize bsB (tI c.f.id) = s2
    generalize bsB (tI c.f.term) = s3
    generalize bsB (tI c.f.n) = s4
    generalize bsB (tI c.f.school) = s5 at i5 hz5 ⊢
    generalize bsB (tI c.entry) = s6 at i6 ⊢
    obtain ⟨⟨k, st, i, t, n, sc, co⟩, g, kp, en⟩ := c
    dsimp only at i5 i6 hc
    have q1 : decide (((s5.size + (ByteArray.mk #[58]).size : Nat) : Int) ≤ IntKind.i64.max) = true := decide_eq_true (by
      have e1 : (ByteArray.mk #[58]).size = 1 := rfl
      have e2 : IntKind.i64.max = 9223372036854775807 := rfl
      rw [e1, e2]; omega)
    have q2 : decide ((((s5 ++ (ByteArray.mk #[58])).size + co.size : Nat) : Int) ≤ IntKind.i64.max) = true := decide_eq_true (by
      have e1 : (s5 ++ (ByteArray.mk #[58])).size = s5.size + 1 := by rw [ByteArray.size_append]; rfl
      have e2 : IntKind.i64.max = 9223372036854775807 := rfl
      rw [e1, e2]; omega)
    clear hz5 hc
    ((repeat ((conv => whnf); (first | (refine LetN.pre ?_; first | ((conv => arg 1; whnf); refine LetN.mk ?_)) | (refine As.pre ?_; first | (refine As.mk0 ?_ ?_; · (with_reducible exact q1)) | (refine As.mk0 ?_ ?_; · (with_reducible exact q2)) | refine As.mk rfl ?_) | (refine LetV.pre ?_; first | refine LetV.mk (.sc (.int _ _)) rfl ?_ | refine LetV.mk (.sc _) rfl ?_) | (refine Ck.pre ?_; first | refine Ck.drawn (by kernel_rfl) ?_ | refine Ck.mk rfl ?_) | (refine LetL.pre ?_; first | refine LetL.mk (ty := 9) [_, _, _, _, _, _, _, _] rfl ?_) | (refine CallN.pre ?_; first | refine CallN.pure i5 rfl rfl ?_ | refine CallN.pure i6 rfl rfl ?_)))); (try (conv => whnf)))
    exact ⟨rfl, (), trivial, SW.mk rt3 rfl rfl rfl ⟨.refl _, .refl _, VLe2.slm_of rfl, trivial⟩ (haveV.one rfl (haveV.one rfl (haveV.row rfl rfl trivial)))⟩
  intro _ _
  clear i1 i2 i3 i4 i5 i6 hn hc
  obtain ⟨L, hL⟩ : ∃ L : List ByteArray, L = [bsB (sgn c.gone :: wordL c.f.kind), bsB (tI c.f.student), bsB (tI c.f.id), bsB (tI c.f.term), bsB (tI c.f.n), bsB (tI c.f.school) ++ bsB [58] ++ c.f.code, bsB [98, 121], bsB (tI c.entry)] := ⟨_, rfl⟩
  have hLl : L.length = 8 := by rw [hL]; rfl
  rw [← hL] at hT hlen ⊢
  clear hL
  refine VS.joinN (fun _ : Unit => txS c (L ++ if c.kept then [bsB [107, 101, 112, 116]] else [])) (fun _ => True) ?p5 ?_
  case p5 =>
    refine VS.of_V T_ok mixed rfl ?_
    clear hlen hT
    have hml : (L.map str).length = L.length := List.length_map _
    unfold txS txH
    obtain ⟨⟨k, st, i, t, n, sc, co⟩, g, kp, en⟩ := c
    cases kp with
    | false =>
      ((repeat ((conv => whnf); (first | (refine As.pre ?_; first | refine As.mk rfl ?_) | (refine LetV.pre ?_; first | refine LetV.mk (.sc (.bool _)) rfl ?_) | (refine Br.pre ?_; first | refine Br.ff rfl ?_) | (refine Ck.pre ?_; first | refine Ck.mk rfl ?_)))); (try (conv => whnf)))
      exact ⟨rfl, (), trivial, SW.mk id rfl rfl (ttN _ _ _ _) ⟨.refl _, .refl _, VLe2.slm_of (by simp), trivial⟩ (haveV.one rfl (haveV.one rfl (haveV.row (pure_str _) (by simp [AH.get]) trivial)))⟩
    | true =>
      have a1 : (L ++ [bsB [107, 101, 112, 116]]).map str = (L.map str).take L.length ++ [str (bsB [107, 101, 112, 116])] := by
        rw [List.take_of_length_le (by simp), List.map_append]; rfl
      have r1 : room (L.length + 1) 16 = true := by rw [hLl]; rfl
      ((repeat ((conv => whnf); (first | (refine LetN.pre ?_; first | ((conv => arg 1; whnf); refine LetN.mk ?_)) | (refine As.pre ?_; first | refine As.mk rfl ?_ | (refine As.mk ?_ ?_; · ((repeat' (refine andT ?_ ?_)) <;> (first | rfl | assumption | exact decide_eq_true (by omega) | exact decide_eq_true (by dsimp only; omega) | exact decide_eq_true (by simp; omega) | (simp; done))))) | (refine LetV.pre ?_; first | refine LetV.mk (.sc (.bool _)) rfl ?_) | (refine Br.pre ?_; first | refine Br.tt rfl ?_) | (refine Ck.pre ?_; first | refine Ck.mk rfl ?_) | (refine LetL.pre ?_; first | refine LetL.mk (ty := 9) _ a1 ?_)))); (try (conv => whnf)))
      exact ⟨rfl, (), trivial, SW.mk rt3 rfl rfl (ttN _ _ _ _) ⟨.refl _, .refl _, VLe2.slm_of (by simp), trivial⟩ (haveV.one rfl (haveV.one rfl (haveV.row (pure_str _) rfl trivial)))⟩
  intro _ _
  have hne : L ++ (if c.kept then [bsB [107, 101, 112, 116]] else []) ≠ [] := by
    intro h
    have := congrArg List.length h
    rw [List.length_append, hLl] at this
    simp at this
  have hN : (L ++ (if c.kept then [bsB [107, 101, 112, 116]] else [])).length ≤ 1000 := by
    rw [List.length_append, hLl]
    cases c.kept <;> simp
  generalize (L ++ if c.kept then [bsB [107, 101, 112, 116]] else []) = N at hT hlen hne hN ⊢
  have hJ := Join_f N (bsB [32]) {} hne hN hlen
  rw [← hT] at hJ
  refine VS.of_V T_ok mixed rfl ?_
  generalize textP c = tx at hJ ⊢
  have n1 := pure_str N
  have m1 : N.length = (N.map str).length := (List.length_map _).symm
  clear hT hlen hne hN
  ((repeat ((conv => whnf); (first | (refine As.pre ?_; first | refine As.mk rfl ?_) | (refine Ck.pre ?_; first | refine Ck.mk rfl ?_) | (refine CallN.pre ?_; first | refine CallN.lend hJ rfl (.full rfl n1 m1 (.same rfl .nil)) ?_)))); (try (conv => whnf)))
  exact ⟨_, SW.refl, .inl rfl, ⟨_, rfl, rfl⟩, trivial⟩
end En
end Go.Proofs.YtgnakhljdjekbaaGreatDoor
namespace Go.Proofs.YtgnakhljdjekbaaGreatDoor
open Go.Proofs.YtgnakhljdjekbaaGreatDoor.Am
set_option maxRecDepth 100000
namespace En
/-! ### The examples -/
def eG (i k r : Int) : E := ⟨i, 1, 5, k, 100 * i, 100 * i, ⟨#[]⟩, 0, 0, r, 0, 0, 0, 0, ⟨#[]⟩⟩
def eG1 : E := ⟨1, 1, 5, 3, 100, 100, ⟨#[65, 49]⟩, 5, 0, 0, 0, 0, 0, 0, ⟨#[]⟩⟩
def exG : List E := [eG1, eG 2 5 1, eG 3 6 2, eG 4 6 2]
theorem exG1_f (i k r : Int) (h : 0 ≤ i ∧ i ≤ 100) : AFun Tryz.prog 49 0 [int i, int k, int r] [] (en (eG i k r)) [] := by
  refine AFun.of_W T_ok mixed Tryz.func49 rfl (Nat.le_of_ble_eq_true rfl) rfl ?_
  unfold eG
  ((repeat ((conv => whnf); (first | (refine LetN.pre ?_; first | ((conv => arg 1; whnf); refine LetN.mk ?_)) | (refine As.pre ?_; first | refine As.mk rfl ?_) | (refine LetI.pre ?_; first | refine LetI.wrap (by omega) (by omega) ?_) | (refine Ck.pre ?_; first | refine Ck.mk rfl ?_) | (refine LetL.pre ?_; first | refine LetL.mk [_] rfl ?_)))); (try (conv => whnf)))
  exact ⟨.inl rfl, ⟨_, rfl, rfl⟩, trivial⟩
theorem exampleG_s : AFun Tryz.prog 26 0 [] [] (.slm ⟨false, true⟩ 0 15 0 4) [(0, .row 15 ety (exG.map en))] := by
  refine AFun.of_S T_ok mixed Tryz.func26 rfl (Nat.le_of_ble_eq_true rfl) rfl ?_
  have h1 := exG1_f 1 3 0 (by omega)
  have h2 := exG1_f 2 5 1 (by omega)
  have h3 := exG1_f 3 6 2 (by omega)
  have h4 := exG1_f 4 6 2 (by omega)
  ((repeat ((conv => whnf); (first | (refine LetN.pre ?_; first | ((conv => arg 1; whnf); refine LetN.mk ?_)) | (refine As.pre ?_; first | refine As.mk rfl ?_) | (refine Ck.pre ?_; first | refine Ck.mk rfl ?_) | (refine LetL.pre ?_; first | refine LetL.mk _ rfl ?_) | (refine CallN.pre ?_; first | refine CallN.pure h1 rfl rfl ?_ | refine CallN.pure h2 rfl rfl ?_ | refine CallN.pure h3 rfl rfl ?_ | refine CallN.pure h4 rfl rfl ?_)))); (try (conv => whnf)))
  exact ⟨_, SW.refl, .inl rfl, ⟨_, rfl, rfl⟩, rfl, trivial⟩
theorem exampleG_f : AFun Tryz.prog 26 0 [] [] (.ro ⟨false, true⟩ 15 (exG.map en)) [] := AFun.frz1 (H := []) exampleG_s rfl (pure_en _) rfl
abbrev fS : Fa := ⟨5, 5, 0, 4, 0, 0, ⟨#[]⟩⟩
abbrev gS : Fa := ⟨6, 5, 9, 0, 1, 0, ⟨#[]⟩⟩
abbrev eS (id day : Int) : E := ⟨id, 0, 0, 0, day, 0, ⟨#[]⟩, 0, 0, 0, 0, 0, 0, 0, ⟨#[]⟩⟩
theorem kS1 : keptP fS 500 = true := by decide
theorem kS2 : keptP fS 499 = false := by decide
theorem kS3 : keptP gS 900 = false := by decide
theorem dS : difP [fS, gS] [gS] (eS 17 600) = [⟨fS, true, true, 17⟩] := by kernel_rfl
theorem tS : textP ⟨fS, true, true, 17⟩ = ⟨#[45, 115, 116, 105, 112, 101, 110, 100, 32, 53, 32, 48, 32, 52, 32, 48, 32, 48, 58, 32, 98, 121, 32, 49, 55, 32, 107, 101, 112, 116]⟩ := by kernel_rfl
theorem lS : ltF fS gS = true := by decide
open Classical in
theorem enG1 : entE eG1 = 0 := by
  have hc : okCode eG1.course := ⟨⟨by decide, by decide⟩, by decide⟩
  unfold entE
  rw [decide_eq_true hc]
  decide +kernel
open Classical in
theorem enG2 : entE (eG 2 5 1) = 0 := by
  unfold entE
  generalize decide (okCode (eG 2 5 1).course) = oc
  cases oc <;> decide +kernel
open Classical in
theorem enG3 : entE (eG 3 6 2) = 0 := by
  unfold entE
  generalize decide (okCode (eG 3 6 2).course) = oc
  cases oc <;> decide +kernel
open Classical in
theorem enG4 : entE (eG 4 6 2) = 0 := by
  unfold entE
  generalize decide (okCode (eG 4 6 2).course) = oc
  cases oc <;> decide +kernel
theorem onG1 : oneE [] eG1 = 0 := by unfold oneE; rw [enG1]; decide
theorem onG2 : oneE [eG1] (eG 2 5 1) = 0 := by unfold oneE; rw [enG2]; decide
theorem onG3 : oneE [eG1, eG 2 5 1] (eG 3 6 2) = 0 := by unfold oneE; rw [enG3]; decide
theorem onG4 : oneE [eG1, eG 2 5 1, eG 3 6 2] (eG 4 6 2) = 0 := by unfold oneE; rw [enG4]; decide
theorem ckG2 : chkE [eG1, eG 2 5 1] = 0 := by
  rw [chkE, if_neg (by decide)]
  simp only [chkL, List.nil_append, List.cons_append, onG1, onG2, if_true]
theorem ckG3 : chkE [eG1, eG 2 5 1, eG 3 6 2] = 0 := by
  rw [chkE, if_neg (by decide)]
  simp only [chkL, List.nil_append, List.cons_append, onG1, onG2, onG3, if_true]
theorem ckG4 : chkE [eG1, eG 2 5 1, eG 3 6 2, eG 4 6 2] = 0 := by
  rw [chkE, if_neg (by decide)]
  simp only [chkL, List.nil_append, List.cons_append, onG1, onG2, onG3, onG4, if_true]
theorem mS1 : mayP [eG1, eG 2 5 1] (eG 3 6 2) = 0 := by
  rw [mayP, ckG2, if_neg (fun h => h rfl)]
  show (if chkE [eG1, eG 2 5 1, eG 3 6 2] ≠ 0 then _ else _) = _
  rw [ckG3, if_neg (fun h => h rfl)]
  decide
theorem mS2 : mayP [eG1, eG 2 5 1, eG 3 6 2] (eG 4 6 2) = 6 := by
  rw [mayP, ckG3, if_neg (fun h => h rfl)]
  show (if chkE [eG1, eG 2 5 1, eG 3 6 2, eG 4 6 2] ≠ 0 then _ else _) = _
  rw [ckG4, if_neg (fun h => h rfl)]
  decide
theorem okI_small {n : Int} (h : 0 ≤ n ∧ n < 100) : okI n := ⟨by omega, by omega⟩
set_option maxHeartbeats 1600000 in
set_option maxRecDepth 100000 in
theorem sanity_f : AFun Tryz.prog 6 0 [] [] (bool true) [] := by
  have k1 := Kept_f fS (eS 0 500)
  have k2 := Kept_f fS (eS 0 499)
  have k3 := Kept_f gS (eS 0 900)
  rw [kS1] at k1
  rw [kS2] at k2
  rw [kS3] at k3
  have hd := Differ_f [fS, gS] [gS] (eS 17 600) ⟨true, true⟩ ⟨true, true⟩ (by decide) (by decide) (fun x hx => by
    rcases List.mem_cons.1 hx with rfl | hx
    · decide
    · rw [List.mem_singleton.1 hx]; decide) (fun x hx => by rw [List.mem_singleton.1 hx]; decide)
  rw [dS] at hd
  have ht := Text_f ⟨fS, true, true, 17⟩ (fun n hn => by
    simp only [List.mem_cons, List.not_mem_nil, or_false] at hn
    exact ItoaS_f n (by omega)) (fun n hn => by
    simp only [List.mem_cons, List.not_mem_nil, or_false] at hn
    exact okI_small (by omega)) (by decide)
  rw [tS] at ht
  have hl := Less_f fS gS
  rw [lS] at hl
  have hm1 := fun fl => May_f [eG1, eG 2 5 1] (eG 3 6 2) fl (by decide)
  rw [mS1] at hm1
  have hm2 := fun fl => May_f [eG1, eG 2 5 1, eG 3 6 2] (eG 4 6 2) fl (by decide)
  rw [mS2] at hm2
  refine AFun.of_VS T_ok Tryz.func6 rfl (Nat.le_of_ble_eq_true rfl) ?_
  refine VS.of_V T_ok mixed rfl ?_
  ((repeat ((conv => whnf); (first | (refine LetN.pre ?_; first | ((conv => arg 1; whnf); refine LetN.mk ?_)) | (refine As.pre ?_; first | refine As.mk rfl ?_) | (refine LetV.pre ?_; first | refine LetV.mk (.agg _) rfl ?_ | refine LetV.mk (.ro _ _ _) rfl ?_) | (refine LetI.pre ?_; first | refine LetI.mk _ rfl ?_) | (refine LetB.pre ?_; first | refine LetB.tt rfl ?_ | (refine LetB.tt ?_ ?_; · (decide +kernel))) | (refine Gd.pre ?_; first | refine Gd.run rfl ?_) | (refine Ck.pre ?_; first | refine Ck.drawn (by kernel_rfl) ?_ | refine Ck.mk rfl ?_) | (refine LetL.pre ?_; first | refine LetL.mk [_] rfl ?_) | (refine CallN.pre ?_; first | refine CallN.pure k1 rfl rfl ?_ | refine CallN.pure k2 rfl rfl ?_ | refine CallN.pure k3 rfl rfl ?_ | refine CallN.pure hd rfl rfl ?_ | refine CallN.pure ht rfl rfl ?_ | refine CallN.pure exampleG_f rfl rfl ?_ | refine CallN.pure hl rfl rfl ?_ | refine CallN.pure (hm1 _) rfl rfl ?_ | refine CallN.pure (hm2 _) rfl rfl ?_)))); (try (conv => whnf)))










  exact ⟨_, SW.refl, .inl rfl, ⟨_, rfl, rfl⟩, trivial⟩
end En
end Go.Proofs.YtgnakhljdjekbaaGreatDoor
namespace Go.Proofs.YtgnakhljdjekbaaGreatDoor
open Go.Proofs.YtgnakhljdjekbaaGreatDoor.Am
set_option maxRecDepth 100000
namespace En
/-! ### AppealMay -/
theorem M10.bE {sc day : Int} {l : List E} (h : M10 sc day l) (hsc : 1 ≤ sc ∧ sc ≤ 3) (hl : l.length ≤ 1000) (hd : day ≤ 600) : ∀ e ∈ l, En.bE e := fun e he => by
  have h1 := h.ok e he
  obtain ⟨i, hi, rfl⟩ := List.getElem_of_mem he
  have h2 := h.ids i hi
  rw [List.getD_eq_getElem?_getD, List.getElem?_eq_getElem hi] at h2
  simp only [Option.getD_some] at h2
  have a := h1.school
  have b := h1.day
  have c := h1.on
  have d := h1.course
  exact ⟨by omega, by omega, by omega, by omega, by omega⟩
theorem getD_memL {l : List E} {k : Nat} (h : k < l.length) : l.getD k e0 ∈ l := by
  rw [List.getD_eq_getElem?_getD, List.getElem?_eq_getElem h]; exact List.getElem_mem _
abbrev w8 (v : Int) : AV := .sc (.int .u8 v)
abbrev csA (xs : List Int) (s m a b : Int) : AV := .agg [.ro {} 1 (xs.map int), w8 s, w8 m, int a, int b]
abbrev eZ : E := ⟨0, 0, 0, 0, 0, 0, ⟨#[]⟩, 0, 0, 0, 0, 0, 0, 0, ⟨#[]⟩⟩
/-- What made gives: nothing, or a beginning of made entries, the next one, and that one with a change. -/
abbrev madeA (l : List E) (e o : E) (b : Bool) (fl : Fl) : AV := .tup [.ro fl 15 (l.map en), en e, en o, bool b]
structure MD (all : List E) (k : Nat) (sc : Int) (o : E) : Prop where
  len : all.length ≤ 24
  lt : k < all.length
  m10 : M10 sc 600 all
  scs : 1 ≤ sc ∧ sc ≤ 3
  odd : bE o
theorem take_len {l : List E} {k : Nat} (h : k < l.length) : (l.take k).length = k := by rw [List.length_take]; omega
set_option maxHeartbeats 3200000 in
set_option maxRecDepth 100000 in
theorem made_c (xs : List Int) (s m a b : Int) (hx : xs.length ≤ 9223372036854775807) (hs : 0 ≤ s ∧ s ≤ 255) (hm : 0 ≤ m ∧ m ≤ 255) :
    AFun Tryz.prog 18 0 [csA xs s m a b] [] (.tup [.sc (.slice none 0 0), en eZ, en eZ, bool false]) [] ∨
    ∃ all k sc o, MD all k sc o ∧ AFun Tryz.prog 18 0 [csA xs s m a b] [] (madeA (all.take k) (all.getD k e0) o true ⟨true, false⟩) [] := by
  have w1 : s = IntKind.i64.wrap s := (wrap_id (by omega) (by omega)).symm
  have b1 := tmod_bound s (m := 3) (by omega)
  have b2 : 0 ≤ s.tmod 3 := Int.tmod_nonneg _ hs.1
  obtain ⟨r, hr⟩ : ∃ r, r = s.tmod 3 := ⟨_, rfl⟩
  rw [← hr] at b1 b2
  obtain ⟨all, ⟨hal, hM⟩, hMade⟩ := Made10_f xs {} hx (1 + r) (by omega)
  have hma : (all.map en).length = all.length := List.length_map _
  by_cases h0 : all.length = 0
  · left
    refine AFun.of_VS T_ok Tryz.func18 rfl (Nat.le_of_ble_eq_true rfl) ?_
    refine VS.of_V T_ok mixed rfl ?_
    ((repeat ((conv => whnf); (first | (refine LetN.pre ?_; first | ((conv => arg 1; whnf); refine LetN.mk ?_)) | (refine As.pre ?_; first | refine As.mk rfl ?_) | (refine LetV.pre ?_; first | refine LetV.mk (.sc (.int _ _)) rfl ?_ | refine LetV.mk (.ro _ _ _) rfl ?_) | (refine LetI.pre ?_; first | refine LetI.mk (o := none) s w1 ?_ | refine LetI.mk (o := some .rem) r hr ?_ | refine LetI.wrap (by omega) (by omega) ?_ | refine LetI.mk _ rfl ?_) | (refine LetB.pre ?_; first | refine LetB.dect (by omega) ?_) | (refine Br.pre ?_; first | refine Br.tt rfl ?_) | (refine Ck.pre ?_; first | refine Ck.mk rfl ?_) | (refine LetL.pre ?_; first | refine LetL.mk (ty := ety) [.agg [_, _, _, _, _, _, _, _, _, _, _, _, _, _, _]] rfl ?_) | (refine CallN.pre ?_; first | refine CallN.pure hMade rfl rfl ?_)))); (try (conv => whnf)))




    exact ⟨_, SW.refl, .inl rfl, ⟨_, rfl, rfl⟩, trivial⟩
  right
  have w2 : m = IntKind.i64.wrap m := (wrap_id (by omega) (by omega)).symm
  have d1 := tmod_bound m (m := (all.length : Int)) (by omega)
  have d2 : 0 ≤ m.tmod (all.length : Int) := Int.tmod_nonneg _ hm.1
  obtain ⟨k, hk⟩ : ∃ k : Nat, (k : Int) = m.tmod (all.length : Int) := ⟨(m.tmod (all.length : Int)).toNat, Int.toNat_of_nonneg d2⟩
  rw [← hk] at d1 d2
  have hq : (k : Int) = m.tmod ((all.map en).length : Int) := by rw [hma]; exact hk
  have hnz : (((all.map en).length : Int) != 0) = true := bne_iff_ne.2 (by omega)
  have hlt : k < all.length := by omega
  clear hk d1 d2
  have hbe := hM.bE (by omega) (by omega) (by omega)
  obtain ⟨o, hb', hod⟩ := Odd10_f (all.getD k e0) a b (hbe _ (getD_memL hlt))
  refine ⟨all, k, 1 + r, o, ⟨hal, hlt, hM, by omega, hb'⟩, ?_⟩
  clear hM hbe hb'
  have hld := ld_en hlt
  have htk : (all.take k).map en = ((all.map en).drop 0).take (k - 0) := by simp [List.map_take]
  show AFun _ _ 0 _ [] (.tup [.ro ⟨true, false⟩ 15 ((all.take k).map en), en (all.getD k e0), en o, bool true]) []
  generalize all.getD k e0 = e at hld hod ⊢
  generalize (all.take k).map en = tk at htk ⊢
  refine AFun.of_VS T_ok Tryz.func18 rfl (Nat.le_of_ble_eq_true rfl) ?_
  refine VS.of_V T_ok mixed rfl ?_
  ((repeat ((conv => whnf); (first | (refine LetN.pre ?_; first | ((conv => arg 1; whnf); refine LetN.mk ?_)) | (refine As.pre ?_; first | refine As.mk rfl ?_ | refine As.mk hnz ?_ | (refine As.mk ?_ ?_; · ((repeat' (refine andT ?_ ?_)) <;> (first | rfl | assumption | exact decide_eq_true (by omega) | exact decide_eq_true (by dsimp only; omega) | exact decide_eq_true (by simp; omega) | (simp; done))))) | (refine LetV.pre ?_; first | refine LetV.mk (t := 33) _ hld ?_ | refine LetV.mk (.sc (.int _ _)) rfl ?_ | refine LetV.mk (.agg _) rfl ?_ | refine LetV.mk (.ro _ _ _) rfl ?_) | (refine LetI.pre ?_; first | refine LetI.mk (o := none) s w1 ?_ | refine LetI.mk (o := none) m w2 ?_ | refine LetI.mk (o := some .rem) r hr ?_ | refine LetI.mk (o := some .rem) (k : Int) hq ?_ | refine LetI.wrap (by omega) (by omega) ?_ | refine LetI.mk _ rfl ?_) | (refine LetB.pre ?_; first | refine LetB.decf (by omega) ?_) | (refine Br.pre ?_; first | refine Br.ff rfl ?_) | (refine Ck.pre ?_; first | refine Ck.drawn (by kernel_rfl) ?_ | refine Ck.mk rfl ?_) | (refine LetL.pre ?_; first | refine LetL.mk (ty := ety) [.agg [_, _, _, _, _, _, _, _, _, _, _, _, _, _, _]] rfl ?_) | (refine CallN.pre ?_; first | refine CallN.pure hMade rfl rfl ?_ | refine CallN.pure hod rfl rfl ?_)))); (try (conv => whnf)))









  refine ⟨⟨[(2, .ro ⟨true, false⟩ 15 tk), (3, .ptr 1 15 0 0), (4, .ptr 2 15 0 0), (5, bool true)], [(1, .row 15 ety [en e]), (2, .row 15 ety [en o])], 3⟩, SW.mk id rfl rfl rfl ⟨VLe2.of_eq (congrArg (AV.ro ⟨true, false⟩ 15) htk), .refl _, .refl _, .refl _, trivial⟩ (haveV.one rfl (haveV.one rfl trivial)), .inl rfl, ⟨[.ro ⟨true, false⟩ 15 tk, en e, en o, bool true], rfl, rfl⟩, trivial⟩
end En
end Go.Proofs.YtgnakhljdjekbaaGreatDoor
namespace Go.Proofs.YtgnakhljdjekbaaGreatDoor
open Go.Proofs.YtgnakhljdjekbaaGreatDoor.Am
set_option maxRecDepth 100000
namespace En
/-! ### AppealReaches: an entry changes standings of its student only -/
/-- Entries with an id each, that refer to entries of the same student. -/
structure LK (A : List E) : Prop where
  uni : ∀ x ∈ A, ∀ y ∈ A, x.id = y.id → x = y
  ref : ∀ x ∈ A, refsK x.kind → ∃ y ∈ A, y.id = x.ref ∧ y.student = x.student
theorem memI {l : List E} {x : E} (h : x ∈ l) : ∃ i, i < l.length ∧ l.getD i e0 = x := by
  obtain ⟨i, hi, rfl⟩ := List.mem_iff_getElem.1 h
  exact ⟨i, hi, by rw [List.getD_eq_getElem?_getD, List.getElem?_eq_getElem hi]; rfl⟩
theorem M10.lk {sc d : Int} {A : List E} (h : M10 sc d A) : LK A := by
  refine ⟨fun x hx y hy e => ?_, fun x hx hr => ?_⟩
  · obtain ⟨i, hi, rfl⟩ := memI hx
    obtain ⟨j, hj, rfl⟩ := memI hy
    have h1 := h.ids i hi
    have h2 := h.ids j hj
    have : i = j := by omega
    rw [this]
  · obtain ⟨i, hi, rfl⟩ := memI hx
    obtain ⟨j, hj, h1, h2, _⟩ := h.refs i hi hr
    exact ⟨_, getD_memL (Nat.lt_trans hj hi), h1, h2⟩
theorem any_filt (p : E → Bool) (l : List E) : l.any p = (l.filter p).any fun _ => true := by
  induction l with
  | nil => rfl
  | cons x l ih =>
    rw [List.any_cons, List.filter_cons]
    cases p x with
    | true => rfl
    | false => rw [Bool.false_or, ih]; rfl
theorem at_filt {l : List E} {e : E} (a o : Int) (p : E → Bool) (hp : p e = false) : (atR (l ++ [e]) a o).filter p = (atR l a o).filter p := by
  unfold atR
  rw [srt_S, srt_S, S_filter (ord_E false), S_filter (ord_E false)]
  refine congrArg _ ?_
  show ((l ++ [e]).filter _).filter p = _
  rw [List.filter_append, List.filter_append]
  have : ([e].filter fun e => [cCounts a o].all (·.p e)).filter p = [] := by
    rw [List.filter_eq_nil_iff]
    intro x hx
    rw [List.mem_singleton.1 (List.mem_filter.1 hx).1, hp]
    exact Bool.false_ne_true
  rw [this, List.append_nil]
theorem at_mem {l : List E} {a o : Int} {x : E} (h : x ∈ atR l a o) : x ∈ l := by
  unfold atR at h
  rw [srt_S] at h
  exact (List.mem_filter.1 ((S_perm _ _).mem_iff.1 h)).1
theorem at_out {l : List E} {e : E} {a o : Int} (h : ¬ (e.day ≤ a ∧ e.on_ ≤ o)) : atR (l ++ [e]) a o = atR l a o := by
  unfold atR
  refine congrArg _ ?_
  show (l ++ [e]).filter _ = _
  rw [List.filter_append]
  have : ([e].filter fun e => [cCounts a o].all (·.p e)) = [] := by
    rw [List.filter_eq_nil_iff]
    intro x hx
    rw [List.mem_singleton.1 hx]
    simpa using h
  rw [this, List.append_nil]
theorem at_late {l : List E} {e : E} {a o : Int} (h : ¬ (e.day ≤ a ∧ e.on_ ≤ o)) : atP (l ++ [e]) a o = atP l a o := by
  unfold atP
  rw [at_out h]
theorem chos_same {l : List E} {e : E} {a o : Int} (cs : List Cd) (h : (cs.all (·.p e)) = false) : chos (atR (l ++ [e]) a o) cs = chos (atR l a o) cs := at_filt a o _ h
theorem stand_same {A : List E} (hA : LK A) {l : List E} {e : E} (hl : ∀ x ∈ l, x ∈ A) (he : e ∈ A) (a o : Int) {g : E} (hg : g ∈ l) (hs : g.student ≠ e.student) : stand (atR (l ++ [e]) a o) a o g = stand (atR l a o) a o g := by
  have hno : ∀ k, refsK k → ([cOf k, cTo g.id].all (·.p e)) = false := fun k hk => by
    by_cases h1 : e.kind = k
    case neg => simp [h1]
    by_cases h2 : e.ref = g.id
    case neg => simp [h2]
    obtain ⟨y, hy, h3, h4⟩ := hA.ref e he (h1 ▸ hk)
    exact absurd ((hA.uni y hy g (hl g hg) (h3.trans h2)) ▸ h4) hs
  have hc : corr (atR (l ++ [e]) a o) g = corr (atR l a o) g := by
    unfold corr
    rw [chos_same _ (hno 4 (.inl rfl))]
  have hv : voidP (atR (l ++ [e]) a o) a o g = voidP (atR l a o) a o g := by
    unfold voidP
    rw [chos_same _ (hno 5 (.inr (.inl rfl)))]
    refine Bool.eq_iff_iff.2 ?_
    simp only [List.any_eq_true]
    have key : ∀ f ∈ chos (atR l a o) [cOf 5, cTo g.id], liftedP (atR (l ++ [e]) a o) f.id a o = liftedP (atR l a o) f.id a o := fun f hf => by
      obtain ⟨hf1, hf2⟩ := List.mem_filter.1 hf
      have hfl := at_mem hf1
      have hk : f.kind = 5 ∧ f.ref = g.id := by simpa using hf2
      unfold liftedP
      rw [any_filt, at_filt, ← any_filt]
      by_cases h1 : e.kind = 6
      case neg => simp [h1]
      by_cases h2 : e.ref = f.id
      case neg => simp [h2]
      obtain ⟨y, hy, h3, h4⟩ := hA.ref e he (.inr (.inr (.inl h1)))
      obtain rfl := hA.uni y hy f (hl f hfl) (h3.trans h2)
      obtain ⟨z, hz, h5, h6⟩ := hA.ref _ hy (.inr (.inl hk.1))
      obtain rfl := hA.uni z hz g (hl g hg) (h5.trans hk.2)
      exact absurd (h6.trans h4) hs
    constructor
    · rintro ⟨f, hf, h⟩; exact ⟨f, hf, by rw [← key f hf]; exact h⟩
    · rintro ⟨f, hf, h⟩; exact ⟨f, hf, by rw [key f hf]; exact h⟩
  unfold stand
  rw [hc, hv]
theorem reach_same {A : List E} (hA : LK A) {l : List E} {e : E} (hl : ∀ x ∈ l, x ∈ A) (he : e ∈ A) (a o : Int) (stu : Int → Int) (hs : ∀ x ∈ l ++ [e], stu x.id = x.student) :
    (atP (l ++ [e]) a o).filter (fun s => decide (stu s.entry ≠ e.student)) = (atP l a o).filter (fun s => decide (stu s.entry ≠ e.student)) := by
  unfold atP
  rw [List.filter_map, List.filter_map]
  have h1 : ∀ R : List E, (chos R [cOf 3]).filter ((fun s : St => decide (stu s.entry ≠ e.student)) ∘ stand (atR (l ++ [e]) a o) a o) = R.filter fun g => decide (stu g.id ≠ e.student) && decide (g.kind = 3) := fun R => by
    show (R.filter _).filter _ = _
    rw [List.filter_filter]
    refine List.filter_congr fun g _ => ?_
    exact congrArg (fun b => decide (stu g.id ≠ e.student) && b) (Bool.and_true (decide (g.kind = 3)))
  have h2 : ∀ R : List E, (chos R [cOf 3]).filter ((fun s : St => decide (stu s.entry ≠ e.student)) ∘ stand (atR l a o) a o) = R.filter fun g => decide (stu g.id ≠ e.student) && decide (g.kind = 3) := fun R => by
    show (R.filter _).filter _ = _
    rw [List.filter_filter]
    refine List.filter_congr fun g _ => ?_
    exact congrArg (fun b => decide (stu g.id ≠ e.student) && b) (Bool.and_true (decide (g.kind = 3)))
  have hse := hs e (List.mem_append_right _ (List.mem_singleton.2 rfl))
  rw [h1, h2, at_filt a o _ (by simp [hse])]
  refine List.map_congr_left fun g hg => ?_
  obtain ⟨hg1, hg2⟩ := List.mem_filter.1 hg
  have hgl := at_mem hg1
  refine stand_same hA hl he a o hgl fun h => ?_
  have h3 := hs g (List.mem_append_left _ hgl)
  have h4 : stu g.id ≠ e.student ∧ g.kind = 3 := by simpa using hg2
  exact h4.1 (h3.trans h)
theorem at_ent {l : List E} {a o : Int} {s : St} (h : s ∈ atP l a o) : ∃ g ∈ l, g.id = s.entry := by
  obtain ⟨g, hg, rfl⟩ := List.mem_map.1 h
  exact ⟨g, at_mem (List.mem_filter.1 hg).1, rfl⟩
/-! The map of students. -/
abbrev kvS (N : List E) : List (Value × AV) := N.map fun e => (.int .i64 e.id, int e.student)
theorem kvS_pure : ∀ N : List E, kvPure (kvS N) = true
  | [] => rfl
  | _ :: N => kvS_pure N
theorem kvS_app (N : List E) (e : E) : kvS (N ++ [e]) = kvS N ++ [(.int .i64 e.id, int e.student)] := List.map_append
theorem findS_none {N : List E} {k : Int} (h : ∀ x ∈ N, x.id ≠ k) : findOk (kvS N) (.int .i64 k) none := by
  intro x hx
  obtain ⟨y, hy, rfl⟩ := List.mem_map.1 hx
  intro e
  simp only [Value.int.injEq, true_and] at e
  exact h y hy e
theorem findS_some {N : List E} {e : E} (h : e ∈ N) : ∃ i, findOk (kvS N) (.int .i64 e.id) (some i) ∧ int e.student = kvAt (kvS N) i := by
  obtain ⟨i, hi, rfl⟩ := List.mem_iff_getElem.1 h
  refine ⟨i, ⟨int N[i].student, ?_⟩, ?_⟩
  · rw [List.getElem?_map, List.getElem?_eq_getElem hi]; rfl
  · unfold kvAt
    rw [List.getD_eq_getElem?_getD, List.getElem?_map, List.getElem?_eq_getElem hi]; rfl
theorem key_intS {n : Int} (h : okI n) : keyB Tryz.prog 3 (.int .i64 n) = true := by
  have hu : Tryz.prog.underlying 3 = some (.int .i64) := TT.Ok.int T_ok (t := 3) rfl rfl
  have hw : (Lit.int .i64 n).wf = true := by
    simp only [Lit.wf, Bool.and_eq_true, decide_eq_true_eq]
    exact h
  unfold keyB keyOf
  simp [hu, mapKey, hw]
theorem keys_S {N : List E} (h : ∀ x ∈ N, okI x.id) {n : Int} (hn : okI n) : (keyB Tryz.prog 3 (.int .i64 n) && (kvS N).all fun x => keyB Tryz.prog 3 x.1) = true := by
  rw [key_intS hn, Bool.true_and]
  refine List.all_eq_true.2 fun x hx => ?_
  obtain ⟨y, hy, rfl⟩ := List.mem_map.1 hx
  exact key_intS (h y hy)
end En
end Go.Proofs.YtgnakhljdjekbaaGreatDoor
