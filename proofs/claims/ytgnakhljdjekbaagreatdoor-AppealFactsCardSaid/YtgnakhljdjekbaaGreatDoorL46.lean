/- appealZD: parts of the proof, DappealZDTD DappealZDTE DappealZDTF DappealZDTG DappealZDUH DappealZDUI DappealZDUJ DappealZDUK DappealZDUL. -/
import Derived.Test.YtgnakhljdjekbaaGreatDoorL42
import Derived.Test.YtgnakhljdjekbaaGreatDoorAmKN
import Derived.Test.YtgnakhljdjekbaaGreatDoorAmFZ
import Derived.Sort.AssemblyPlain
set_option linter.all false
namespace Go.Proofs.YtgnakhljdjekbaaGreatDoor
open Go.Proofs.YtgnakhljdjekbaaGreatDoor.Am
set_option maxRecDepth 100000
namespace En
/-! ### The keys of a map of facts -/
abbrev kyF (f : Fa) : Value := .agg #[.int .i64 f.kind, .int .i64 f.student, .int .i64 f.id, .int .i64 f.term, .int .i64 f.n, .int .i64 f.school, .string f.code]
def kfF : Value → AV
  | .agg xs => .agg (xs.toList.map .sc)
  | v => .sc v
theorem kfF_ky (f : Fa) : kfF (kyF f) = fa f := rfl
theorem ky_inj {f g : Fa} (h : kyF f = kyF g) : f = g := by
  obtain ⟨a1, a2, a3, a4, a5, a6, a7⟩ := f
  obtain ⟨b1, b2, b3, b4, b5, b6, b7⟩ := g
  simp only [kyF, Value.agg.injEq, Array.mk.injEq, List.cons.injEq, Value.int.injEq, Value.string.injEq, true_and, and_true] at h
  obtain ⟨h1, h2, h3, h4, h5, h6, h7⟩ := h
  rw [h1, h2, h3, h4, h5, h6, h7]
abbrev kvF (M : List Fa) : List (Value × AV) := M.map fun f => (kyF f, bool true)
theorem kvF_pure (M : List Fa) : kvPure (kvF M) = true := List.all_eq_true.2 fun x hx => by
  obtain ⟨y, _, rfl⟩ := List.mem_map.1 hx; rfl
theorem kvF_solid (M : List Fa) : ((kvF M).all fun x => x.2.solid) = true := List.all_eq_true.2 fun x hx => by
  obtain ⟨y, _, rfl⟩ := List.mem_map.1 hx; rfl
abbrev mty : TypeId := 93
abbrev fsl : TypeId := 23
abbrev bxF (id n : Nat) : Blk := .row 1 fsl [.slm {} id 7 0 n]
abbrev rwF (L : List Fa) : Blk := .row 7 fty (L.map fa)
/-! What the loop's body is given and leaves. -/
abbrev apH (L : List Fa) : AH := [(0, bxF 1 L.length), (1, rwF L)]
abbrev apT (L : List Fa) : AH := [(0, bxF 2 L.length), (2, rwF L)]
abbrev kmH (ck : Nat) (M : List Fa) : AH := [(0, .map ck (kvF M)), (1, .row 1 mty [.mp 0])]
abbrev kH (ck : Nat) (M : List Fa) : AH := kmH ck M ++ [(2, bxF 3 0), (3, rwF [])]
abbrev kT (ck : Nat) (M L : List Fa) : AH := kmH ck M ++ [(2, bxF 4 L.length), (4, rwF L)]
abbrev kL (L : List Fa) : AH := [(1, .row 1 mty [.mp 0]), (2, bxF 4 L.length), (4, rwF L)]
abbrev kZ (id : Nat) (L : List Fa) : AH := [(1, .row 1 mty [.mp 0]), (2, bxF id L.length), (id, rwF L)]
theorem apN (L : List Fa) (ok : Nat → Bool) (h : ok 1 = true) : namesAll ok (apH L) = true := by
  have h2 : namesAll ok [(1, rwF L)] = true := namesAll.row (pure_fa _) rfl
  rw [namesAll, h2]
  simp only [Blk.names, AV.namesL, AV.names, h]; rfl
theorem aptN (L : List Fa) (ok : Nat → Bool) (h : ok 2 = true) : namesAll ok (apT L) = true := by
  have h2 : namesAll ok [(2, rwF L)] = true := namesAll.row (pure_fa _) rfl
  rw [namesAll, h2]
  simp only [Blk.names, AV.namesL, AV.names, h]; rfl
theorem klN (id : Nat) (L : List Fa) (ok : Nat → Bool) (h0 : ok 0 = true) (h : ok id = true) : namesAll ok (kZ id L) = true := by
  have h2 : namesAll ok [(id, rwF L)] = true := namesAll.row (pure_fa _) rfl
  rw [namesAll, namesAll, h2]
  simp only [Blk.names, AV.namesL, AV.names, h, h0]; rfl
theorem ktN (ck : Nat) (M L : List Fa) (ok : Nat → Bool) (h0 : ok 0 = true) (h : ok 4 = true) : namesAll ok (kT ck M L) = true := namesAll.map (kvF_pure M) (klN 4 L ok h0 h)
def rk4 : Nat → Nat | 4 => 3 | i => i
def rk6 : Nat → Nat | 4 => 6 | i => i
def rka : Nat → Nat | 0 => 2 | 1 => 4 | 2 => 6 | i => i + 7
/-- The state at the head of the loop. -/
abbrev kyS (rb : Nat) (y : AV) : Array Nat × List Fa → AS
  | (_, L) => ⟨[(0, y), (5, .sc (.pointer (some ⟨rb, 0, none⟩)))], kL L, 5⟩
abbrev kyE (rb : Nat) (y : AV) (L : List Fa) (b : Bool) : AS := ⟨[(0, y), (5, .sc (.pointer (some ⟨rb, 0, none⟩))), (7, bool b)], kL L, 5⟩
abbrev kyG (rb : Nat) (y : AV) (L : List Fa) (f : Fa) : AS := ⟨[(0, y), (3, .ptr 5 7 0 0), (5, .sc (.pointer (some ⟨rb, 0, none⟩)))], kL L ++ [(5, .row 7 fty [fa f])], 6⟩
theorem kgN (L : List Fa) (f : Fa) (ok : Nat → Bool) (h0 : ok 0 = true) (h : ok 4 = true) : namesAll ok (kL L ++ [(5, .row 7 fty [fa f])]) = true := by
  have h2 : namesAll ok [(4, rwF L), (5, .row 7 fty [fa f])] = true := namesAll.row (pure_fa _) (namesAll.row rfl rfl)
  show namesAll ok ((1, _) :: (2, _) :: [(4, rwF L), (5, .row 7 fty [fa f])]) = true
  rw [namesAll, namesAll, h2]
  simp only [Blk.names, AV.namesL, AV.names, h, h0]; rfl
/-- What has come out: the facts whose entries were seen. -/
structure KInv (ents : Array MapEntry) (M : List Fa) (i : Array Nat × List Fa) : Prop where
  nd : i.2.Nodup
  sub : ∀ f ∈ i.2, f ∈ M
  seen : ∀ e ∈ ents.toList, ∀ f, e.key = kyF f → (f ∈ i.2 ↔ i.1.contains e.born = true)
theorem ents_mem {M : List Fa} {ck : Nat} {ents : Array MapEntry} (h : EntsOk (kvF M) ck ents) {e : MapEntry} (he : e ∈ ents.toList) : ∃ f ∈ M, e.key = kyF f := by
  obtain ⟨i, hi, rfl⟩ := List.getElem_of_mem he
  have hl : i < (kvF M).length := by rw [h.len]; simpa using hi
  have hl' : i < M.length := by simpa using hl
  refine ⟨M[i], List.getElem_mem _, ?_⟩
  refine h.key i (kyF M[i]) (bool true) _ ?_ ?_
  · rw [List.getElem?_map, List.getElem?_eq_getElem hl']; rfl
  · rw [← Array.getElem?_toList, List.getElem?_eq_getElem hi]
theorem ents_of {M : List Fa} {ck : Nat} {ents : Array MapEntry} (h : EntsOk (kvF M) ck ents) {f : Fa} (hf : f ∈ M) : ∃ e ∈ ents.toList, e.key = kyF f := by
  obtain ⟨i, hi, rfl⟩ := List.getElem_of_mem hf
  have hl : i < ents.toList.length := by
    have := h.len
    simp only [List.length_map] at this
    simp; omega
  refine ⟨ents.toList[i], List.getElem_mem _, ?_⟩
  refine h.key i (kyF M[i]) (bool true) _ ?_ ?_
  · rw [List.getElem?_map, List.getElem?_eq_getElem hi]; rfl
  · rw [← Array.getElem?_toList, List.getElem?_eq_getElem hl]
theorem ents_uniq {M : List Fa} {ck : Nat} {ents : Array MapEntry} (h : EntsOk (kvF M) ck ents) (hM : M.Nodup) {d e : MapEntry} (hd : d ∈ ents.toList) (he : e ∈ ents.toList) (hk : d.key = e.key) : d = e := by
  obtain ⟨i, hi, rfl⟩ := List.getElem_of_mem hd
  obtain ⟨j, hj, rfl⟩ := List.getElem_of_mem he
  have hlen := h.len
  simp only [List.length_map] at hlen
  have hi' : i < M.length := by simp at hi; omega
  have hj' : j < M.length := by simp at hj; omega
  have e1 := h.key i (kyF M[i]) (bool true) _ (by rw [List.getElem?_map, List.getElem?_eq_getElem hi']; rfl) (by rw [← Array.getElem?_toList, List.getElem?_eq_getElem hi])
  have e2 := h.key j (kyF M[j]) (bool true) _ (by rw [List.getElem?_map, List.getElem?_eq_getElem hj']; rfl) (by rw [← Array.getElem?_toList, List.getElem?_eq_getElem hj])
  rw [e1, e2] at hk
  have := ky_inj hk
  have : i = j := (List.getElem_inj hM).1 this
  subst this; rfl
theorem ents_born {kv : List (Value × AV)} {ck : Nat} {ents : Array MapEntry} (h : EntsOk kv ck ents) : (ents.toList.map (·.born)).Nodup := by
  rw [List.Nodup, List.pairwise_map, List.pairwise_iff_getElem]
  intro i j hi hj hij e
  have := h.inc i j _ _ hij (by rw [← Array.getElem?_toList, List.getElem?_eq_getElem hi]) (by rw [← Array.getElem?_toList, List.getElem?_eq_getElem hj])
  rw [e] at this
  exact Nat.lt_irrefl _ this
theorem KInv.nil (ents : Array MapEntry) (M : List Fa) : KInv ents M (#[], []) := ⟨List.nodup_nil, (fun f h => absurd h List.not_mem_nil), (fun e _ f _ => by simp)⟩
theorem KInv.add {ents : Array MapEntry} {M : List Fa} {ck : Nat} (hE : EntsOk (kvF M) ck ents) (hM : M.Nodup) {seen : Array Nat} {L : List Fa} (h : KInv ents M (seen, L)) {e : MapEntry} (he : e ∈ (leftOf ents seen).toList) {f : Fa} (hf : f ∈ M) (hk : e.key = kyF f) : KInv ents M (seen.push e.born, L ++ [f]) := by
  obtain ⟨he1, he2⟩ := mem_left he
  have hnot : f ∉ L := fun hm => by
    have := (h.seen e he1 f hk).1 hm
    rw [he2] at this; cases this
  refine ⟨?_, fun g hg => ?_, fun d hd g hg => ?_⟩
  · refine List.nodup_append.2 ⟨h.nd, List.pairwise_singleton _ _, fun a ha b hb => ?_⟩
    rw [List.mem_singleton.1 hb]
    rintro rfl
    exact hnot ha
  · rcases List.mem_append.1 hg with hg | hg
    · exact h.sub g hg
    · rw [List.mem_singleton.1 hg]; exact hf
  · have h1 := h.seen d hd g hg
    simp only at h1
    have h2 : (seen.push e.born).contains d.born = true ↔ seen.contains d.born = true ∨ d.born = e.born := by simp
    rw [h2, List.mem_append, h1, List.mem_singleton]
    constructor
    · rintro (a | rfl)
      · exact .inl a
      · have := ents_uniq hE hM hd he1 (hg.trans hk.symm)
        rw [this]; exact .inr rfl
    · rintro (a | a)
      · exact .inl a
      · have : d = e := by
          have hb := ents_born hE
          obtain ⟨i, hi, rfl⟩ := List.getElem_of_mem hd
          obtain ⟨j, hj, rfl⟩ := List.getElem_of_mem he1
          have hi' : i < (ents.toList.map (·.born)).length := by simpa using hi
          have hj' : j < (ents.toList.map (·.born)).length := by simpa using hj
          have : i = j := (List.getElem_inj (h₀ := hi') (h₁ := hj') hb).1 (by simpa using a)
          subst this; rfl
        subst this
        exact .inr (ky_inj (hg.symm.trans hk))
theorem KInv.all {ents : Array MapEntry} {M : List Fa} {ck : Nat} (hE : EntsOk (kvF M) ck ents) {seen : Array Nat} {L : List Fa} (h : KInv ents M (seen, L)) (h0 : (leftOf ents seen).size = 0) : L.Nodup ∧ ∀ x, x ∈ L ↔ x ∈ M := by
  refine ⟨h.nd, fun x => ⟨h.sub x, fun hx => ?_⟩⟩
  obtain ⟨e, he, hk⟩ := ents_of hE hx
  exact (h.seen e he x hk).2 (all_seen ents seen h0 e he)
theorem nodup_len {α : Type} [DecidableEq α] : ∀ {L M : List α}, L.Nodup → (∀ x ∈ L, x ∈ M) → L.length ≤ M.length
  | [], M, _, _ => Nat.zero_le _
  | x :: L, M, h, hs => by
    obtain ⟨h1, h2⟩ := List.nodup_cons.1 h
    have hx := hs x (List.mem_cons_self ..)
    have := nodup_len (M := M.erase x) h2 fun y hy => (List.mem_erase_of_ne (fun e => h1 (by rw [← e]; exact hy))).2 (hs y (List.mem_cons_of_mem _ hy))
    rw [List.length_erase_of_mem hx] at this
    have : 0 < M.length := List.length_pos_of_mem hx
    rw [List.length_cons]; omega
theorem Keys_f (M : List Fa) (ck : Nat) : AFun Tryz.prog 51 1 [.mp 0] [(0, .map ck (kvF M))] (.clo 77 [.ptr 1 1 0 0]) (kmH ck M) := by
  refine AFun.of_W T_ok mixed Tryz.func51 rfl (Nat.le_of_ble_eq_true rfl) rfl ?_
  ((repeat ((conv => whnf); (first | (refine LetN.pre ?_; first | ((conv => arg 1; whnf); refine LetN.mk ?_)) | (refine As.pre ?_; first | refine As.mk rfl ?_) | (refine Ck.pre ?_; first | refine Ck.mk rfl ?_)))); (try (conv => whnf)))
  exact ⟨.inl rfl, ⟨_, rfl, rfl⟩, rfl, rfl, trivial⟩
set_option maxHeartbeats 1600000 in
set_option maxRecDepth 100000 in
theorem Keys1_D (M : List Fa) (ck : Nat) (hM : M.Nodup) (hl : M.length ≤ 1000) (lp : Nat) (rc : Loop) (hps : rc.params.size = 1) (ks : List Nat)
    (hy : ∀ (L : List Fa) (f : Fa), L.length ≤ 1000 → AFunC (CY Tryz.prog lp rc) 2 [.yl lp rc ks [.ptr 0 1 0 0], fa f] (apH L) (bool true) (apT (L ++ [f]))) :
    DFun Tryz.prog 77 4 [.yl lp rc ks [.ptr 2 1 0 0], .ptr 1 1 0 0] (kH ck M) fun v H' => v = .tup [] ∧ ∃ L : List Fa, (L.Nodup ∧ ∀ x, x ∈ L ↔ x ∈ M) ∧ H' = kT ck M L := by
  refine DFun.of_D T_ok Tryz.func77 rfl (Nat.le_of_ble_eq_true rfl) ?_
  refine DRuns.range T_ok (mid := 0) (ck := ck) (kv := kvF M) 1 rfl (Nat.le_refl _) rfl (by decide) (fun x hx => ?hv) ?_
  case hv =>
    obtain ⟨y, _, rfl⟩ := List.mem_map.1 hx
    exact ⟨_, rfl⟩
  ((repeat ((conv => whnf); (first | (refine As.pre ?_; first | refine As.mk rfl ?_) | (refine LetV.pre ?_; first | refine LetV.mk (t := mty) (.mp _) rfl ?_) | (refine Ck.pre ?_; first | refine Ck.mk rfl ?_)))); (try (conv => whnf)))
  refine ⟨_, 31, 4, _, rfl, by kernel_rfl, rfl, rfl, rfl, rfl, fun rb => ?_⟩
  ((try (conv => whnf)))
  refine ⟨rfl, fun mb ents w0 g0 H0 hE hrb hne => ?_⟩
  refine KRuns.pre (s1 := kyS rb (.yl lp rc ks [.ptr 2 1 0 0]) (#[], [])) ?sw1 ?_
  case sw1 => exact SW.mk rk4 rfl rfl (klN 4 _ _ rfl rfl) ⟨.refl _, .refl _, trivial⟩ (haveV.one rfl (haveV.one rfl (haveV.row rfl rfl trivial)))
  refine KRuns.block ?_
  refine KRuns.loop (kyS rb (.yl lp rc ks [.ptr 2 1 0 0])) (fun i => [(rb, .mapIter (some mb) ck i.1 ck), (mb, .map ents ck)]) (fun i => (leftOf ents i.1).size) (KInv ents M) (fun i hi => ?_) (#[], []) (KInv.nil ents M)
  obtain ⟨seen, L⟩ := i
  have hold : ∀ x ∈ ents.toList, x.born < ck := fun x hx => by
    obtain ⟨j, hj, rfl⟩ := List.getElem_of_mem hx
    exact hE.old j _ (by rw [← Array.getElem?_toList, List.getElem?_eq_getElem hj])
  have hkf : ∀ e ∈ ents.toList, ∀ w g, Cv w g (kfF e.key) e.key := fun e he w g => by
    obtain ⟨f, _, hk⟩ := ents_mem hE he
    rw [hk, kfF_ky]
    refine .agg rfl fun j c x hj hx => ?_
    match j with
    | 0 | 1 | 2 | 3 | 4 | 5 | 6 => simp at hj hx; subst hj hx; exact .sc _ rfl
    | j + 7 => simp at hj
  have hlL : L.length ≤ 1000 := Nat.le_trans (nodup_len hi.nd hi.sub) hl
  refine KRuns.seq (KRuns.mono (KRuns.next T_ok 0 rfl (Nat.le_of_ble_eq_true rfl) rfl hold (Nat.le_refl _) hne hrb hkf
    (R0 := fun s' => SW 4 Tryz.f77.ntmps s' (kyE rb (.yl lp rc ks [.ptr 2 1 0 0]) L false)) (R1 := fun _ s' => SW 4 Tryz.f77.ntmps s' (kyE rb (.yl lp rc ks [.ptr 2 1 0 0]) L true)) ?v) ?post)
  case v =>
    refine ⟨_, rfl, rfl, rfl, rfl, fun h0 => ?_, fun e he => ?_⟩
    · ((repeat ((conv => whnf); (first | (refine As.pre ?_; first | refine As.mk rfl ?_) | (refine Ck.pre ?_; first | refine Ck.mk rfl ?_)))); (try (conv => whnf)))
      exact SW.mk id rfl rfl (klN 4 _ _ rfl rfl) ⟨.refl _, .refl _, .refl _, trivial⟩ (haveV.one rfl (haveV.one rfl (haveV.row (pure_fa _) rfl trivial)))
    · ((repeat ((conv => whnf); (first | (refine As.pre ?_; first | refine As.mk rfl ?_) | (refine Ck.pre ?_; first | refine Ck.mk rfl ?_)))); (try (conv => whnf)))
      exact SW.mk id rfl rfl (klN 4 _ _ rfl rfl) ⟨.refl _, .refl _, .refl _, trivial⟩ (haveV.one rfl (haveV.one rfl (haveV.row (pure_fa _) rfl trivial)))
  case post =>
    rintro e s1 q ⟨rfl, ⟨h0, hR, rfl⟩ | ⟨en, hen, hR, rfl⟩⟩
    · refine KRuns.pre hR ?_
      refine KRuns.of_D (DRuns.of_VS (VS.seq (VS.condF rfl rfl (VS.exit ?_)))) (fun _ _ h => h)
      refine .inr ⟨(fun h => by cases h), ?_⟩
      obtain ⟨hnd, hmem⟩ := hi.all hE h0
      refine ⟨List.mem_cons_of_mem _ (List.mem_cons_self ..), .tup [], kT ck M L, ⟨rfl, L, ⟨hnd, hmem⟩, rfl⟩, ?_⟩
      exact ⟨⟨[], kT ck M L, 5⟩, SW.mk id rfl rfl (ktN ck M L _ rfl rfl) trivial (haveV.map (kvF_pure M) rfl (haveV.one rfl (haveV.one rfl (haveV.row (pure_fa _) rfl trivial)))), .inr rfl, ⟨_, rfl, rfl⟩, rfl, rfl, rfl, rfl, trivial⟩
    · obtain ⟨f, hf, hk⟩ := ents_mem hE (mem_left hen).1
      refine KRuns.pre hR (KRuns.seq (KRuns.of_D (DRuns.of_VS (VS.condT rfl rfl (VS.skip (Q := fun e s1 => e = .normal ∧ s1 = kyE rb (.yl lp rc ks [.ptr 2 1 0 0]) L true) ⟨rfl, rfl⟩))) ?_))
      rintro e s1 ⟨rfl, rfl⟩
      refine KRuns.block (KRuns.seq (KRuns.mono (KRuns.entry T_ok 0 rfl (Nat.le_of_ble_eq_true rfl) rfl (mem_left hen).1 (ents_born hE) (hkf en (mem_left hen).1)
        (R1 := fun s' => SW 4 Tryz.f77.ntmps s' (kyG rb (.yl lp rc ks [.ptr 2 1 0 0]) L f)) ?v2) ?post2))
      case v2 =>
        refine ⟨_, rfl, rfl, rfl, rfl, ?_⟩
        rw [hk, kfF_ky]
        ((repeat ((conv => whnf); (first | (refine LetN.pre ?_; first | ((conv => arg 1; whnf); refine LetN.mk ?_)) | (refine As.pre ?_; first | refine As.mk rfl ?_) | (refine Ck.pre ?_; first | refine Ck.mk rfl ?_) | (refine LetL.pre ?_; first | refine LetL.mk [_] rfl ?_)))); (try (conv => whnf)))
        exact SW.mk id rfl rfl (kgN L f _ rfl rfl) ⟨.refl _, .refl _, .refl _, trivial⟩ (haveV.one rfl (haveV.one rfl (haveV.row (pure_fa _) rfl (haveV.row rfl rfl trivial))))
      case post2 =>
        rintro e s1 q ⟨rfl, hR1, rfl⟩
        refine KRuns.pre hR1 ?_
        have hyi := hy L f hlL
        refine KRuns.of_D (DRuns.of_VS (VS.of_V T_ok mixed rfl (Q := fun e s1 => e = .normal ∧ SW 4 Tryz.f77.ntmps s1 (kyS rb (.yl lp rc ks [.ptr 2 1 0 0]) (seen.push en.born, L ++ [f]))) ?v3)) ?fin
        case fin =>
          rintro e s1 ⟨rfl, hS⟩
          exact .inl ⟨rfl, (seen.push en.born, L ++ [f]), hi.add hE hM hen hf hk, left_shrinks ents seen en hen, rfl, hS⟩
        case v3 =>
          ((repeat ((conv => whnf); (first | (refine LetN.pre ?_; first | ((conv => arg 1; whnf); refine LetN.mk ?_)) | (refine As.pre ?_; first | refine As.mk rfl ?_) | (refine LetV.pre ?_; first | refine LetV.mk (.agg _) rfl ?_) | (refine Br.pre ?_; first | refine Br.ff rfl ?_) | (refine Ck.pre ?_; first | refine Ck.mk rfl ?_) | (refine LetL.pre ?_; first | refine LetL.mk (ty := fty) _ (renL_none (pure_fa _)).symm ?_ | refine LetL.mk [_] rfl ?_) | ((refine YieldN.own rka hyi (by rw [hps]; rfl) (CallOk.mk' rfl rfl rfl (apN _ _ rfl) rfl (aptN _ _ rfl) ⟨rfl, haveAll.row (pure_fa _) rfl trivial⟩) ?_))))); (try (conv => whnf)))


          refine ⟨rfl, ?_⟩
          exact SW.mk rk6 rfl rfl (klN 4 _ _ rfl rfl) ⟨.refl _, .refl _, trivial⟩ (haveV.one rfl (haveV.one rfl (haveV.row (pure_fa _) rfl trivial)))
end En
end Go.Proofs.YtgnakhljdjekbaaGreatDoor
namespace Go.Proofs.YtgnakhljdjekbaaGreatDoor
open Go.Proofs.YtgnakhljdjekbaaGreatDoor.Am
set_option maxRecDepth 100000
namespace En
/-! ### The keys collected and sorted -/
theorem app_fa (l : List Fa) (e : Fa) (n : Nat) (h : n = l.length) : (l ++ [e]).map fa = (l.map fa).take n ++ [fa e] := by rw [List.take_of_length_le (by simp [h]), List.map_append]; rfl
theorem room_fa {n : Nat} (h : n ≤ 1000000) : room n 64 = true := by
  simp only [room, Bool.and_eq_true, decide_eq_true_eq]
  exact ⟨by omega, rfl⟩
theorem kt_call (ck : Nat) (M L : List Fa) : atCall id (kH ck M) (.tup []) (kT ck M L) = { v := .tup [], D := [0, 1, 2, 3], δ := [(0, some (.map ck (kvF M))), (1, some (.row 1 mty [.mp 0])), (2, some (bxF 4 L.length)), (4, some (rwF L)), (3, none)] } := by
  show ({ v := _, D := _, δ := [(0, some (.map ck ((kvF M).map fun x => (x.1, x.2.ren id)))), (1, _), (2, _), (4, some (.row 7 fty (AV.renL id (L.map fa)))), (3, none)] } : Out) = _
  rw [kv_ren (kvF_pure M), renL_none (pure_fa L)]; rfl
abbrev keysC : AV := .clo 77 [.ptr 1 1 0 0]
abbrev sqH (ck : Nat) (M : List Fa) (L : List Fa) : AH := kmH ck M ++ [(2, rwF L)]
theorem sqN (ck : Nat) (M L : List Fa) (ok : Nat → Bool) (h0 : ok 0 = true) : namesAll ok (sqH ck M L) = true := namesAll.map (kvF_pure M) (by
  have h2 : namesAll ok [(2, rwF L)] = true := namesAll.row (pure_fa _) rfl
  show namesAll ok ((1, _) :: [(2, rwF L)]) = true
  rw [namesAll, h2]
  simp only [Blk.names, AV.namesL, AV.names, h0]; rfl)
def rk2 : Nat → Nat | 2 => 4 | i => i
/-- What the collection may be: the facts of the map, each once. -/
def JSeq (ck : Nat) (M : List Fa) (v : AV) (H : AH) : Prop := ∃ L : List Fa, (L.Nodup ∧ ∀ x, x ∈ L ↔ x ∈ M) ∧ v = .slm {} 2 7 0 L.length ∧ H = sqH ck M L
set_option maxHeartbeats 1600000 in
set_option maxRecDepth 100000 in
theorem AppendSeq_D (M : List Fa) (ck : Nat) (hM : M.Nodup) (hl : M.length ≤ 1000) : DFun Tryz.prog 92 2 [.sc (.slice none 0 0), keysC] (kmH ck M) (JSeq ck M) := by
  refine DFun.of_D T_ok Tryz.func92 rfl (Nat.le_of_ble_eq_true rfl) ?_
  refine DRuns.seq (DRuns.of_VS (VS.of_V T_ok mixed rfl ?_))
  ((repeat ((conv => whnf); (first | (refine LetN.pre ?_; first | ((conv => arg 1; whnf); refine LetN.mk ?_)) | (refine As.pre ?_; first | refine As.mk rfl ?_) | (refine Ck.pre ?_; first | refine Ck.mk rfl ?_)))); (try (conv => whnf)))
  refine DRuns.seq (DRuns.seq (DRuns.of_VS (VS.of_V T_ok mixed rfl ?_)))
  ((repeat ((conv => whnf); (first | (refine As.pre ?_; first | refine As.mk rfl ?_) | (refine Ck.pre ?_; first | refine Ck.mk rfl ?_)))); (try (conv => whnf)))
  refine DRuns.pre (s1 := ⟨[(2, .ptr 2 1 0 0), (6, keysC)], kH ck M, 4⟩) ?sw ?_
  case sw =>
    refine SW.trans (SW.box (id := 2) (ty := fsl) (x := .sc (.slice none 0 0)) (y := .slm {} 3 7 0 0) rfl rfl rfl VLe2.nilslm.cle) ?_
    exact SW.mk id rfl rfl (namesAll.map (kvF_pure M) rfl) ⟨.refl _, .refl _, trivial⟩ (haveV.map (kvF_pure M) rfl (haveV.one rfl (haveV.one rfl (haveV.nil (Nat.le_of_ble_eq_true rfl) trivial))))
  refine DRuns.blockN (DRuns.mono (DRuns.rangeFunc (J := fun r => ∃ L : List Fa, (L.Nodup ∧ ∀ x, x ∈ L ↔ x ∈ M) ∧ r = atCall id (kH ck M) (.tup []) (kT ck M L)) [2] (Nat.le_of_ble_eq_true rfl) rfl rfl (by kernel_rfl) (fun lp rc h1 h2 h3 h4 h5 h6 w g xs hxl hx hH hN => ?it) ?hJ) ?fin)
  case hJ =>
    rintro r ⟨L, _, rfl⟩
    rw [kt_call]
    exact ⟨rfl, solidH.map (kvF_solid M) (solidH.row rfl (solidH.row rfl (solidH.row (solid_fa _) rfl)))⟩
  case it =>
    refine (DFun.calls (v0 := .tup []) (H0 := kT ck M []) id (Keys1_D M ck hM hl lp rc (by rw [h1]; rfl) [2] fun L f hL => ?hy) (CallOk.mk' rfl rfl rfl (namesAll.map (kvF_pure M) rfl) rfl (ktN ck M [] _ rfl rfl) (haveAll.map (kvF_pure M) rfl ⟨rfl, rfl, rfl, trivial⟩)) ?okA w g xs hxl hx hH ?hn).mono ?_
    case hy =>
      refine yield_of_V T_ok mixed h1 h2 h3 h4 h5 h6 rfl rfl rfl (solidH.row rfl (solidH.row (solid_fa _) rfl)) rfl ?_
      ((repeat ((conv => whnf); (first | (refine LetN.pre ?_; first | ((conv => arg 1; whnf); refine LetN.mk ?_)) | (refine As.pre ?_; first | refine As.mk rfl ?_) | (refine Ck.pre ?_; first | refine Ck.mk rfl ?_) | (refine LetL.pre ?_; first | refine LetL.mk [_] rfl ?_)))); (try (conv => whnf)))
      refine ⟨rfl, ?_⟩
      have r1 := room_fa (n := L.length + 1) (by omega)
      have a1 := app_fa L f L.length rfl
      have l1 : (L ++ [f]).length = L.length + 1 := by simp
      ((repeat ((conv => whnf); (first | (refine LetN.pre ?_; first | ((conv => arg 1; whnf); refine LetN.mk ?_)) | (refine As.pre ?_; first | refine As.mk rfl ?_ | (refine As.mk ?_ ?_; · ((repeat' (refine andT ?_ ?_)) <;> (first | rfl | assumption | exact decide_eq_true (by omega) | exact decide_eq_true (by dsimp only; omega) | exact decide_eq_true (by simp; omega) | (simp; done))))) | (refine LetV.pre ?_; first | refine LetV.mk (.agg _) rfl ?_ | refine LetV.mk (.slm _ _ _ _ _) rfl ?_) | (refine Ck.pre ?_; first | refine Ck.mk rfl ?_) | (refine LetL.pre ?_; first | refine LetL.mk (ty := fty) _ a1 ?_ | refine LetL.mk [_] rfl ?_)))); (try (conv => whnf)))
      refine ⟨rfl, ⟨[], apT (L ++ [f]), 3⟩, ?_, rfl⟩
      refine SW.trans (SW.box (id := 0) (ty := fsl) (x := .slm _ 3 7 0 _) (y := .slm {} 3 7 0 (L ++ [f]).length) rfl rfl rfl (VLe2.slm_of l1).cle) ?_
      exact SW.mk (fun i => match i with | 2 => 3 | i => i) rfl rfl (aptN _ _ rfl) trivial (haveV.one rfl (haveV.row (pure_fa _) rfl trivial))
    case okA =>
      rintro v H' ⟨rfl, L, hL, rfl⟩
      exact CallOk.mk' rfl rfl rfl (namesAll.map (kvF_pure M) rfl) rfl (ktN ck M L _ rfl rfl) (haveAll.map (kvF_pure M) rfl ⟨rfl, rfl, rfl, trivial⟩)
    case hn =>
      rintro v H' ⟨rfl, L, hL, rfl⟩ q hq hn
      have hnw : newOk (kH ck M) 4 (atCall id (kH ck M) (.tup []) (kT ck M L)).δ = true := by rw [kt_call]; rfl
      have := List.all_eq_true.1 hnw q hq
      rw [show (kH ck M).get q.1 = none from hn] at this
      exact hN q.1 (by simpa using this)
    · rintro e w' ⟨x, rfl, v, H', ⟨rfl, L, hL, rfl⟩, hP⟩
      exact ⟨x, rfl, _, ⟨L, hL, rfl⟩, hP⟩
  case fin =>
    rintro e s' ⟨r, ⟨L, hL, rfl⟩, rfl, rfl⟩
    refine ⟨rfl, ?_⟩
    rw [kt_call]
    refine DRuns.of_VS (VS.of_V T_ok mixed rfl ?_)
    ((repeat ((conv => whnf); (first | (refine As.pre ?_; first | refine As.mk rfl ?_) | (refine LetV.pre ?_; first | refine LetV.mk (.slm _ _ _ _ _) rfl ?_) | (refine Ck.pre ?_; first | refine Ck.mk rfl ?_)))); (try (conv => whnf)))
    refine ⟨.slm {} 2 7 0 L.length, sqH ck M L, ⟨L, hL, rfl, rfl⟩, ?_⟩
    exact ⟨⟨[(4, .slm {} 2 7 0 L.length)], sqH ck M L, 3⟩, SW.mk rk2 rfl rfl (sqN ck M L _ rfl) ⟨.refl _, trivial⟩ (haveV.map (kvF_pure M) rfl (haveV.one rfl (haveV.row (pure_fa _) rfl trivial))), .inl rfl, ⟨_, rfl, rfl⟩, rfl, rfl, rfl, trivial⟩
end En
end Go.Proofs.YtgnakhljdjekbaaGreatDoor
namespace Go.Proofs.YtgnakhljdjekbaaGreatDoor
open Go.Proofs.YtgnakhljdjekbaaGreatDoor.Am
set_option maxRecDepth 100000
namespace En
set_option maxHeartbeats 1600000 in
set_option maxRecDepth 100000 in
theorem Collect_D (M : List Fa) (ck : Nat) (hM : M.Nodup) (hl : M.length ≤ 1000) : DFun Tryz.prog 75 2 [keysC] (kmH ck M) (JSeq ck M) := by
  refine DFun.of_D T_ok Tryz.func75 rfl (Nat.le_of_ble_eq_true rfl) ?_
  refine DRuns.seq (DRuns.of_VS (VS.of_V T_ok mixed rfl ?_))
  ((repeat ((conv => whnf); (first | (refine As.pre ?_; first | refine As.mk rfl ?_) | (refine Ck.pre ?_; first | refine Ck.mk rfl ?_)))); (try (conv => whnf)))
  refine DRuns.seq (DRuns.opx' T_ok 1 rfl (Nat.le_of_ble_eq_true rfl) rfl ?_)
  ((repeat ((conv => whnf); (first | (refine As.pre ?_; first | refine As.mk rfl ?_) | (refine Ck.pre ?_; first | refine Ck.mk rfl ?_)))); (try (conv => whnf)))
  refine OpX.call rfl rfl rfl rfl (by kernel_rfl) (v0 := .slm {} 2 7 0 0) (H0 := sqH ck M []) id (AppendSeq_D M ck hM hl) ?ok0 ?okA ?k
  case ok0 => exact CallOk.mk' rfl rfl rfl (namesAll.map (kvF_pure M) rfl) rfl (sqN ck M [] _ rfl) (haveAll.map (kvF_pure M) rfl ⟨rfl, trivial⟩)
  case okA =>
    rintro v H' ⟨L, hL, rfl, rfl⟩
    exact CallOk.mk' rfl rfl rfl (namesAll.map (kvF_pure M) rfl) rfl (sqN ck M L _ rfl) (haveAll.map (kvF_pure M) rfl ⟨rfl, trivial⟩)
  case k =>
    rintro v H' ⟨L, hL, rfl, rfl⟩
    have e : atCall id (kmH ck M) (.slm {} 2 7 0 L.length) (sqH ck M L) = { v := .slm {} 2 7 0 L.length, D := [0, 1], δ := [(0, some (.map ck (kvF M))), (1, some (.row 1 mty [.mp 0])), (2, some (rwF L))] } := by
      show ({ v := _, D := _, δ := [(0, some (.map ck ((kvF M).map fun x => (x.1, x.2.ren id)))), (1, _), (2, some (.row 7 fty (AV.renL id (L.map fa))))] } : Out) = _
      rw [kv_ren (kvF_pure M), renL_none (pure_fa L)]; rfl
    rw [e]
    refine ⟨rfl, ?_⟩
    ((repeat ((conv => whnf); (first | (refine As.pre ?_; first | refine As.mk rfl ?_) | (refine Ck.pre ?_; first | refine Ck.mk rfl ?_)))); (try (conv => whnf)))
    refine DRuns.of_VS (VS.of_V T_ok mixed rfl ?_)
    ((try (conv => whnf)))
    refine ⟨.slm {} 2 7 0 L.length, sqH ck M L, ⟨L, hL, rfl, rfl⟩, ?_⟩
    exact ⟨⟨[(2, .slm {} 2 7 0 L.length)], sqH ck M L, 3⟩, SW.mk id rfl rfl (sqN ck M L _ rfl) ⟨.refl _, trivial⟩ (haveV.map (kvF_pure M) rfl (haveV.one rfl (haveV.row (pure_fa _) rfl trivial))), .inl rfl, ⟨_, rfl, rfl⟩, rfl, rfl, rfl, trivial⟩
end En
end Go.Proofs.YtgnakhljdjekbaaGreatDoor
namespace Go.Proofs.YtgnakhljdjekbaaGreatDoor
open Go.Proofs.YtgnakhljdjekbaaGreatDoor.Am
set_option maxRecDepth 100000
namespace En
abbrev u64 (n : Int) : AV := .sc (.int .u64 n)
theorem Len_f : ∀ n : Nat, n ≤ 16 → ∃ v : Int, (0 ≤ v ∧ v ≤ 5) ∧ (0 < n → 0 < v) ∧ AFun Tryz.prog 94 0 [u64 n] [] (int v) []
  | 0, _ => ⟨0, by decide, by decide, AFun.of_calls (evF_sound T_ok mixed 20 _ _ [] 0 _ (by kernel_rfl))⟩
  | 1, _ => ⟨1, by decide, by decide, AFun.of_calls (evF_sound T_ok mixed 20 _ _ [] 0 _ (by kernel_rfl))⟩
  | 2, _ => ⟨2, by decide, by decide, AFun.of_calls (evF_sound T_ok mixed 20 _ _ [] 0 _ (by kernel_rfl))⟩
  | 3, _ => ⟨2, by decide, by decide, AFun.of_calls (evF_sound T_ok mixed 20 _ _ [] 0 _ (by kernel_rfl))⟩
  | 4, _ => ⟨3, by decide, by decide, AFun.of_calls (evF_sound T_ok mixed 20 _ _ [] 0 _ (by kernel_rfl))⟩
  | 5, _ => ⟨3, by decide, by decide, AFun.of_calls (evF_sound T_ok mixed 20 _ _ [] 0 _ (by kernel_rfl))⟩
  | 6, _ => ⟨3, by decide, by decide, AFun.of_calls (evF_sound T_ok mixed 20 _ _ [] 0 _ (by kernel_rfl))⟩
  | 7, _ => ⟨3, by decide, by decide, AFun.of_calls (evF_sound T_ok mixed 20 _ _ [] 0 _ (by kernel_rfl))⟩
  | 8, _ => ⟨4, by decide, by decide, AFun.of_calls (evF_sound T_ok mixed 20 _ _ [] 0 _ (by kernel_rfl))⟩
  | 9, _ => ⟨4, by decide, by decide, AFun.of_calls (evF_sound T_ok mixed 20 _ _ [] 0 _ (by kernel_rfl))⟩
  | 10, _ => ⟨4, by decide, by decide, AFun.of_calls (evF_sound T_ok mixed 20 _ _ [] 0 _ (by kernel_rfl))⟩
  | 11, _ => ⟨4, by decide, by decide, AFun.of_calls (evF_sound T_ok mixed 20 _ _ [] 0 _ (by kernel_rfl))⟩
  | 12, _ => ⟨4, by decide, by decide, AFun.of_calls (evF_sound T_ok mixed 20 _ _ [] 0 _ (by kernel_rfl))⟩
  | 13, _ => ⟨4, by decide, by decide, AFun.of_calls (evF_sound T_ok mixed 20 _ _ [] 0 _ (by kernel_rfl))⟩
  | 14, _ => ⟨4, by decide, by decide, AFun.of_calls (evF_sound T_ok mixed 20 _ _ [] 0 _ (by kernel_rfl))⟩
  | 15, _ => ⟨4, by decide, by decide, AFun.of_calls (evF_sound T_ok mixed 20 _ _ [] 0 _ (by kernel_rfl))⟩
  | 16, _ => ⟨5, by decide, by decide, AFun.of_calls (evF_sound T_ok mixed 20 _ _ [] 0 _ (by kernel_rfl))⟩
  | n + 17, h => absurd h (by omega)
abbrev cmpC : AV := .clo 36 []
theorem pdq_f (l : List Fa) (fl : Fl) (k : Int) (hl : l.length ≤ 12) : AFun Tryz.prog 93 1 [.slm fl 0 7 0 l.length, int 0, int l.length, int k, cmpC] [(0, rwF l)] (.tup []) [(0, rwF (sortS ltF l))] := by
  have hI := Finsertion_f l fl (by omega)
  rw [Fsrt_S] at hI
  refine AFun.of_S T_ok mixed Tryz.func93 rfl (Nat.le_of_ble_eq_true rfl) rfl ?_
  ((repeat ((conv => whnf); (first | (refine As.pre ?_; first | refine As.mk rfl ?_) | (refine Ck.pre ?_; first | refine Ck.mk rfl ?_)))); (try (conv => whnf)))
  refine LoopN.round T_ok mixed rfl ?_
  ((repeat ((conv => whnf); (first | (refine LetN.pre ?_; first | ((conv => arg 1; whnf); refine LetN.mk ?_)) | (refine As.pre ?_; first | refine As.mk rfl ?_) | (refine LetI.pre ?_; first | refine LetI.wrap (by omega) (by omega) ?_) | (refine LetB.pre ?_; first | refine LetB.dect (by omega) ?_) | (refine Br.pre ?_; first | refine Br.tt rfl ?_) | (refine Ck.pre ?_; first | refine Ck.mk rfl ?_) | (refine LetL.pre ?_; first | refine LetL.mk (ty := fty) _ (renL_none (pure_fa _)).symm ?_) | (refine CallN.pre ?_; first | (refine CallN.own id hI (CallOk.mk' rfl rfl rfl (namesAll.row (pure_fa _) rfl) rfl (namesAll.row (pure_fa _) rfl) (haveAll.row (pure_fa _) rfl trivial)) ?_))))); (try (conv => whnf)))
  exact ⟨⟨[], [(0, rwF (sortS ltF l))], 1⟩, SW.mk id rfl rfl (namesAll.row (pure_fa _) rfl) trivial (haveV.row (pure_fa _) rfl trivial), .inl rfl, ⟨_, rfl, rfl⟩, rfl, trivial⟩
theorem SortFunc_f (l : List Fa) (fl : Fl) (hl : l.length ≤ 12) : AFun Tryz.prog 76 1 [.slm fl 0 7 0 l.length, cmpC] [(0, rwF l)] (.tup []) [(0, rwF (sortS ltF l))] := by
  obtain ⟨v, _, _, hL⟩ := Len_f l.length (by omega)
  have hw : IntKind.u64.wrap (l.length : Int) = l.length := by rw [IntKind.wrap_u64]; omega
  have hL : AFun Tryz.prog 94 0 [u64 (IntKind.u64.wrap (l.length : Int))] [] (int v) [] := by rw [hw]; exact hL
  have hI := pdq_f l fl v hl
  refine AFun.of_S T_ok mixed Tryz.func76 rfl (Nat.le_of_ble_eq_true rfl) rfl ?_
  ((repeat ((conv => whnf); (first | (refine LetN.pre ?_; first | ((conv => arg 1; whnf); refine LetN.mk ?_)) | (refine As.pre ?_; first | refine As.mk rfl ?_) | (refine LetI.pre ?_; first | refine LetI.mk _ rfl ?_) | (refine Ck.pre ?_; first | refine Ck.mk rfl ?_) | (refine LetL.pre ?_; first | refine LetL.mk (ty := fty) _ (renL_none (pure_fa _)).symm ?_) | (refine CallN.pre ?_; first | refine CallN.pure hL rfl rfl ?_ | (refine CallN.own id hI (CallOk.mk' rfl rfl rfl (namesAll.row (pure_fa _) rfl) rfl (namesAll.row (pure_fa _) rfl) (haveAll.row (pure_fa _) rfl trivial)) ?_))))); (try (conv => whnf)))
  exact ⟨⟨[], [(0, rwF (sortS ltF l))], 1⟩, SW.mk id rfl rfl (namesAll.row (pure_fa _) rfl) trivial (haveV.row (pure_fa _) rfl trivial), .inr rfl, ⟨_, rfl, rfl⟩, rfl, trivial⟩
def rs2 : Nat → Nat | 0 => 2 | i => i + 7
set_option maxHeartbeats 1600000 in
set_option maxRecDepth 100000 in
theorem SortedFunc_f (M : List Fa) (ck : Nat) (hM : M.Nodup) (hl : M.length ≤ 12) : AFun Tryz.prog 50 2 [keysC, cmpC] (kmH ck M) (.slm {} 2 7 0 (sortS ltF M).length) (sqH ck M (sortS ltF M)) := by
  refine AFun.of_DFun (J := fun v H' => v = .slm {} 2 7 0 (sortS ltF M).length ∧ H' = sqH ck M (sortS ltF M)) ?_ fun v1 H1 h => h
  refine DFun.of_D T_ok Tryz.func50 rfl (Nat.le_of_ble_eq_true rfl) ?_
  refine DRuns.seq (DRuns.of_VS (VS.of_V T_ok mixed rfl ?_))
  ((repeat ((conv => whnf); (first | (refine As.pre ?_; first | refine As.mk rfl ?_) | (refine Ck.pre ?_; first | refine Ck.mk rfl ?_)))); (try (conv => whnf)))
  refine DRuns.seq (DRuns.opx' T_ok 1 rfl (Nat.le_of_ble_eq_true rfl) rfl ?_)
  ((repeat ((conv => whnf); (first | (refine As.pre ?_; first | refine As.mk rfl ?_) | (refine Ck.pre ?_; first | refine Ck.mk rfl ?_)))); (try (conv => whnf)))
  refine OpX.call rfl rfl rfl rfl (by kernel_rfl) (v0 := .slm {} 2 7 0 0) (H0 := sqH ck M []) id (Collect_D M ck hM (by omega)) ?ok0 ?okA ?k
  case ok0 => exact CallOk.mk' rfl rfl rfl (namesAll.map (kvF_pure M) rfl) rfl (sqN ck M [] _ rfl) (haveAll.map (kvF_pure M) rfl ⟨rfl, trivial⟩)
  case okA =>
    rintro v H' ⟨L, hL, rfl, rfl⟩
    exact CallOk.mk' rfl rfl rfl (namesAll.map (kvF_pure M) rfl) rfl (sqN ck M L _ rfl) (haveAll.map (kvF_pure M) rfl ⟨rfl, trivial⟩)
  case k =>
    rintro v H' ⟨L, ⟨hL, hm⟩, rfl, rfl⟩
    have e : atCall id (kmH ck M) (.slm {} 2 7 0 L.length) (sqH ck M L) = { v := .slm {} 2 7 0 L.length, D := [0, 1], δ := [(0, some (.map ck (kvF M))), (1, some (.row 1 mty [.mp 0])), (2, some (rwF L))] } := by
      show ({ v := _, D := _, δ := [(0, some (.map ck ((kvF M).map fun x => (x.1, x.2.ren id)))), (1, _), (2, some (.row 7 fty (AV.renL id (L.map fa))))] } : Out) = _
      rw [kv_ren (kvF_pure M), renL_none (pure_fa L)]; rfl
    rw [e]
    have hS : sortS ltF L = sortS ltF M := S_same hL hM hm
    have hlL : L.length = M.length := Nat.le_antisymm (nodup_len hL fun x hx => (hm x).1 hx) (nodup_len hM fun x hx => (hm x).2 hx)
    have hlS : (sortS ltF M).length = L.length := by rw [hlL]; exact (S_perm ltF M).length_eq
    have hF := SortFunc_f L {} (by omega)
    rw [hS] at hF
    rw [hlS]
    generalize sortS ltF M = S at hF hlS
    refine ⟨rfl, ?_⟩
    ((repeat ((conv => whnf); (first | (refine As.pre ?_; first | refine As.mk rfl ?_) | (refine Ck.pre ?_; first | refine Ck.mk rfl ?_)))); (try (conv => whnf)))
    refine DRuns.of_VS (VS.of_V T_ok mixed rfl ?_)
    ((repeat ((conv => whnf); (first | (refine LetN.pre ?_; first | ((conv => arg 1; whnf); refine LetN.mk ?_)) | (refine As.pre ?_; first | refine As.mk rfl ?_) | (refine Ck.pre ?_; first | refine Ck.mk rfl ?_) | (refine LetL.pre ?_; first | refine LetL.mk (ty := fty) _ (renL_none (pure_fa _)).symm ?_) | (refine CallN.pre ?_; first | (refine CallN.own rs2 hF (CallOk.mk' rfl rfl rfl (namesAll.row (pure_fa _) rfl) rfl (namesAll.row (pure_fa _) rfl) (haveAll.row (pure_fa _) rfl trivial)) ?_))))); (try (conv => whnf)))


    refine ⟨_, _, ⟨rfl, rfl⟩, ?_⟩
    exact ⟨⟨[(4, .slm {} 2 7 0 L.length)], sqH ck M S, 3⟩, SW.mk id rfl rfl (sqN ck M S _ rfl) ⟨.refl _, trivial⟩ (haveV.map (kvF_pure M) rfl (haveV.one rfl (haveV.row (pure_fa _) rfl trivial))), .inl rfl, ⟨_, rfl, rfl⟩, rfl, rfl, rfl, trivial⟩
end En
end Go.Proofs.YtgnakhljdjekbaaGreatDoor
namespace Go.Proofs.YtgnakhljdjekbaaGreatDoor
open Go.Proofs.YtgnakhljdjekbaaGreatDoor.Am
set_option maxRecDepth 100000
namespace En
/-! ### Sorting more than 12 facts: the library's plain twin (Go.Sort) over rows of facts -/
instance : Inhabited Fa := ⟨fa0⟩
abbrev rwD (D : Array Fa) : Blk := .row 7 fty (D.toList.map fa)
theorem getA (D : Array Fa) (i : Nat) : D[i]! = D.toList.getD i fa0 := by
  rw [List.getD_eq_getElem?_getD, getElem!_def, Array.getElem?_toList]
  cases D[i]? <;> rfl
theorem ldD {D : Array Fa} {i : Nat} (h : i < D.size) : fa D[i]! = Am.part true 7 0 7 ((D.toList.map fa).getD (0 + i) (.sc undef)) := by
  rw [getA]; exact getD_fa (by rwa [Array.length_toList])
theorem setD (D : Array Fa) (i : Nat) (x : Fa) : (D.setIfInBounds i x).toList.map fa = (D.toList.map fa).set (0 + i) (fa x) := by
  rw [Array.toList_setIfInBounds, List.map_set, Nat.zero_add]
theorem sizeD (D : Array Fa) : (D.toList.map fa).length = D.size := by rw [List.length_map, Array.length_toList]
theorem swp_size (D : Array Fa) (i j : Nat) : (Sort.swp D i j).size = D.size := by simp [Sort.swp]
theorem swpD (D : Array Fa) (i j : Nat) : (Sort.swp D i j).toList.map fa = (((D.setIfInBounds i D[j]!).toList).map fa).set (0 + j) (fa D[i]!) := by
  rw [Sort.swp, setD]
theorem wrapN (k : Nat) (h : k ≤ 1000000) : ((k : Nat) : Int) = IntKind.i64.wrap (((k + 1 : Nat) : Int) - 1) := by
  rw [wrap_id (by omega) (by omega)]; omega
theorem inner_size (a : Nat) : ∀ (j : Nat) (D : Array Fa), (Sort.insInner ltF a j D).size = D.size
  | 0, D => rfl
  | j + 1, D => by
    unfold Sort.insInner
    split
    · rw [inner_size a j, swp_size]
    · rfl
theorem sizeS (D : Array Fa) (i : Nat) (x : Fa) : ((D.setIfInBounds i x).toList.map fa).length = D.size := by rw [sizeD, Array.size_setIfInBounds]
abbrev gOF (n a b : Nat) (fl : Fl) : Nat × Array Fa → AS
  | (i, D) => ⟨[(0, .slm fl 0 7 0 n), (1, int a), (2, int b), (3, cmpC), (8, int i)], [(0, rwD D)], 1⟩
abbrev gIF (n a b : Nat) (fl : Fl) (i : Nat) : Nat × Array Fa → AS
  | (j, D) => ⟨[(0, .slm fl 0 7 0 n), (1, int a), (2, int b), (3, cmpC), (8, int i), (9, int j)], [(0, rwD D)], 1⟩
set_option maxHeartbeats 1600000 in
set_option maxRecDepth 100000 in
theorem Ginsertion_f (D : Array Fa) (a b : Nat) (fl : Fl) (hn : D.size ≤ 1000) (hab : a ≤ b) (hb : b ≤ D.size) : AFun Tryz.prog 118 1 [.slm fl 0 7 0 D.size, int a, int b, cmpC] [(0, rwD D)] (.tup []) [(0, rwD (Sort.insertionSort ltF D a b))] := by
  obtain ⟨n, hn'⟩ : ∃ n, n = D.size := ⟨_, rfl⟩
  have hs : Sort.insertionSort ltF D a b = Sort.insOuter ltF a b (a + 1) D := rfl
  generalize hR : Sort.insertionSort ltF D a b = R at hs
  rw [← hn']
  refine AFun.of_S T_ok mixed Tryz.func118 rfl (Nat.le_of_ble_eq_true rfl) rfl ?_
  ((repeat ((conv => whnf); (first | (refine As.pre ?_; first | refine As.mk rfl ?_) | (refine LetI.pre ?_; first | refine LetI.wrap (by omega) (by omega) ?_) | (refine Ck.pre ?_; first | refine Ck.mk rfl ?_)))); (try (conv => whnf)))
  refine LoopN.weak (s1 := gOF n a b fl (a + 1, D)) ?sw1 ?_
  case sw1 => exact SW.mk id rfl rfl (namesAll.row (pure_fa _) rfl) ⟨.refl _, .refl _, .refl _, .refl _, VLe2.int (by omega), trivial⟩ (haveV.row (pure_fa _) rfl trivial)
  refine LoopN.ind T_ok mixed (S := gOF n a b fl) (fun i => n + 1 - i.1) (fun i => a < i.1 ∧ i.1 ≤ n + 1 ∧ i.2.size = n ∧ R = Sort.insOuter ltF a b i.1 i.2) (fun _ => rfl) (fun i hi ih => ?_) (a + 1, D) ⟨Nat.lt_succ_self _, by dsimp only; omega, hn'.symm, hs⟩
  obtain ⟨i, m⟩ := i
  obtain ⟨h0, h00, h1, h2⟩ := hi
  dsimp only at h0 h00 h1 h2 ih
  rw [Sort.insOuter] at h2
  by_cases hlt : i < b
  case neg =>
    rw [if_neg hlt] at h2
    subst h2
    clear ih
    ((repeat ((conv => whnf); (first | (refine As.pre ?_; first | refine As.mk rfl ?_) | (refine LetB.pre ?_; first | refine LetB.decf (by omega) ?_) | (refine Br.pre ?_; first | refine Br.ff rfl ?_) | (refine Ck.pre ?_; first | refine Ck.mk rfl ?_)))); (try (conv => whnf)))
    exact ⟨⟨[], [(0, rwD R)], 1⟩, SW.mk id rfl rfl (namesAll.row (pure_fa _) rfl) trivial (haveV.row (pure_fa _) rfl trivial), .inr rfl, ⟨_, rfl, rfl⟩, rfl, trivial⟩
  case pos =>
    rw [if_pos hlt] at h2
    have hsl := inner_size a i m
    generalize hQ : Sort.insInner ltF a i m = Q at h2 hsl
    ((repeat ((conv => whnf); (first | (refine As.pre ?_; first | refine As.mk rfl ?_) | (refine LetB.pre ?_; first | refine LetB.dect (by omega) ?_) | (refine Br.pre ?_; first | refine Br.tt rfl ?_) | (refine Ck.pre ?_; first | refine Ck.mk rfl ?_)))); (try (conv => whnf)))
    refine LoopN.weak (s1 := gIF n a b fl i (i, m)) ?sw2 ?_
    case sw2 => exact SW.mk id rfl rfl (namesAll.row (pure_fa _) rfl) ⟨.refl _, .refl _, .refl _, .refl _, .refl _, .refl _, trivial⟩ (haveV.row (pure_fa _) rfl trivial)
    refine LoopN.ind T_ok mixed (S := gIF n a b fl i) (fun j => j.1) (fun j => j.1 ≤ i ∧ j.2.size = n ∧ Q = Sort.insInner ltF a j.1 j.2) (fun _ => rfl) (fun j hj ih2 => ?_) (i, m) ⟨Nat.le_refl _, h1, hQ.symm⟩
    obtain ⟨j, m'⟩ := j
    obtain ⟨g0, g1, g2⟩ := hj
    dsimp only at g0 g1 g2 ih2
    by_cases hja : j ≤ a
    · have hQ' : Q = m' := by
        cases j with
        | zero => exact g2
        | succ j => rw [Sort.insInner, if_neg (by simp; omega)] at g2; exact g2
      subst hQ'
      clear ih2
      ((repeat ((conv => whnf); (first | (refine As.pre ?_; first | refine As.mk rfl ?_) | (refine LetI.pre ?_; first | refine LetI.wrap (by omega) (by omega) ?_) | (refine LetB.pre ?_; first | refine LetB.decf (by omega) ?_) | (refine Gd.pre ?_; first | refine Gd.pass rfl ?_) | (refine Br.pre ?_; first | refine Br.ff rfl ?_) | (refine Ck.pre ?_; first | refine Ck.drawn (by kernel_rfl) ?_ | refine Ck.mk rfl ?_)))); (try (conv => whnf)))
      refine LoopN.weak ?sw3 (ih (i + 1, Q) ⟨by dsimp only; omega, by dsimp only; omega, g1, h2⟩ (by dsimp only; omega))
      case sw3 => exact SW.mk id rfl rfl (namesAll.row (pure_fa _) rfl) ⟨.refl _, .refl _, .refl _, .refl _, VLe2.int (by omega), trivial⟩ (haveV.row (pure_fa _) rfl trivial)
    obtain ⟨j, rfl⟩ : ∃ k, j = k + 1 := ⟨j - 1, by omega⟩
    have hm := sizeD m'
    have hld1 := ldD (D := m') (i := j + 1) (by omega)
    have hld2 := ldD (D := m') (i := j) (by omega)
    have hsub := wrapN j (by omega)
    have hset1 := setD m' (j + 1) m'[j]!
    have hset := swpD m' (j + 1) j
    have hz := swp_size m' (j + 1) j
    have hz2 := sizeS m' (j + 1) m'[j]!
    have hcmp := compareF_f m'[j + 1]! m'[j]!
    have hg : Q = if ltF m'[j + 1]! m'[j]! = true then Sort.insInner ltF a j (Sort.swp m' (j + 1) j) else m' := by
      rw [g2, Sort.insInner]
      have : decide (j + 1 > a) = true := by simp; omega
      simp only [this, Bool.true_and]
    clear g2
    unfold ltF at hg
    generalize m'.setIfInBounds (j + 1) m'[j]! = m2 at hset1 hset hz2
    generalize Sort.swp m' (j + 1) j = m3 at hset hz hg
    generalize m'[j + 1]! = x at hld1 hset hcmp hg
    generalize m'[j]! = y at hld2 hset1 hcmp hg
    generalize cmpF x y = r at hcmp hg
    by_cases hr : r < 0
    · rw [if_pos (decide_eq_true hr)] at hg
      ((repeat ((conv => whnf); (first | (refine LetN.pre ?_; first | ((conv => arg 1; whnf); refine LetN.mk ?_)) | (refine As.pre ?_; first | refine As.mk rfl ?_ | (refine As.mk ?_ ?_; · ((repeat' (refine andT ?_ ?_)) <;> (first | rfl | assumption | exact decide_eq_true (by omega) | exact decide_eq_true (by dsimp only; omega) | exact decide_eq_true (by simp; omega) | (simp; done))))) | (refine LetV.pre ?_; first | refine LetV.mk (t := fty) _ hld1 ?_ | refine LetV.mk (t := fty) _ hld2 ?_) | (refine LetI.pre ?_; first | refine LetI.mk (o := some .sub) (j : Int) hsub ?_) | (refine LetB.pre ?_; first | refine LetB.dect (by omega) ?_) | (refine Gd.pre ?_; first | refine Gd.run rfl ?_) | (refine Br.pre ?_; first | refine Br.tt rfl ?_) | (refine Ck.pre ?_; first | refine Ck.drawn (by kernel_rfl) ?_ | refine Ck.mk rfl ?_) | (refine LetL.pre ?_; first | refine LetL.mk (ty := fty) _ hset1 ?_ | refine LetL.mk (ty := fty) _ hset ?_) | (refine CallN.pre ?_; first | refine CallN.pure hcmp rfl rfl ?_)))); (try (conv => whnf)))






      refine LoopN.weak ?sw4 (ih2 (j, m3) ⟨by dsimp only; omega, by dsimp only; omega, hg⟩ (by dsimp only; omega))
      case sw4 => exact SW.mk id rfl rfl (namesAll.row (pure_fa _) rfl) ⟨.refl _, .refl _, .refl _, .refl _, .refl _, .refl _, trivial⟩ (haveV.row (pure_fa _) rfl trivial)
    · rw [if_neg (by simpa using hr)] at hg
      subst hg
      clear ih2
      ((repeat ((conv => whnf); (first | (refine As.pre ?_; first | refine As.mk rfl ?_ | (refine As.mk ?_ ?_; · ((repeat' (refine andT ?_ ?_)) <;> (first | rfl | assumption | exact decide_eq_true (by omega) | exact decide_eq_true (by dsimp only; omega) | exact decide_eq_true (by simp; omega) | (simp; done))))) | (refine LetV.pre ?_; first | refine LetV.mk (t := fty) _ hld1 ?_ | refine LetV.mk (t := fty) _ hld2 ?_) | (refine LetI.pre ?_; first | refine LetI.mk (o := some .sub) (j : Int) hsub ?_ | refine LetI.wrap (by omega) (by omega) ?_) | (refine LetB.pre ?_; first | refine LetB.dect (by omega) ?_ | refine LetB.decf (by omega) ?_) | (refine Gd.pre ?_; first | refine Gd.run rfl ?_) | (refine Br.pre ?_; first | refine Br.ff rfl ?_) | (refine Ck.pre ?_; first | refine Ck.drawn (by kernel_rfl) ?_ | refine Ck.mk rfl ?_) | (refine CallN.pre ?_; first | refine CallN.pure hcmp rfl rfl ?_)))); (try (conv => whnf)))




      refine LoopN.weak ?sw3 (ih (i + 1, Q) ⟨by dsimp only; omega, by dsimp only; omega, g1, h2⟩ (by dsimp only; omega))
      case sw3 => exact SW.mk id rfl rfl (namesAll.row (pure_fa _) rfl) ⟨.refl _, .refl _, .refl _, .refl _, VLe2.int (by omega), trivial⟩ (haveV.row (pure_fa _) rfl trivial)
end En
end Go.Proofs.YtgnakhljdjekbaaGreatDoor
namespace Go.Proofs.YtgnakhljdjekbaaGreatDoor
open Go.Proofs.YtgnakhljdjekbaaGreatDoor.Am
set_option maxRecDepth 100000
namespace En
/-! ### partialInsertionSort, choosePivot -/
theorem scan_ge (D : Array Fa) (b : Nat) : ∀ (m i : Nat), b - i ≤ m → i ≤ b → i ≤ Sort.scanSorted ltF D b i ∧ Sort.scanSorted ltF D b i ≤ b
  | 0, i, h, hb => by
    rw [Sort.scanSorted, if_neg (by simp; omega)]; exact ⟨Nat.le_refl _, hb⟩
  | m + 1, i, h, hb => by
    rw [Sort.scanSorted]
    split
    · rename_i hc
      have hlt : i < b := by simp at hc; exact hc.1
      have := scan_ge D b m (i + 1) (by omega) (by omega)
      omega
    · exact ⟨Nat.le_refl _, hb⟩
theorem partial_small (D : Array Fa) (a b : Nat) (h : b - a < 50) : Sort.partialInsertionSort ltF D a b = (D, decide (Sort.scanSorted ltF D b (a + 1) = b)) := by
  unfold Sort.partialInsertionSort Sort.partialIns
  by_cases hc : Sort.scanSorted ltF D b (a + 1) = b
  · simp [hc]
  · simp [hc, h]
abbrev pIS (n a b : Nat) (fl : Fl) (D : Array Fa) (i : Nat) : AS :=
  ⟨[(0, .slm fl 0 7 0 n), (1, int a), (2, int b), (3, cmpC), (8, bool false), (9, int i), (10, int 0)], [(0, rwD D)], 1⟩
set_option maxHeartbeats 1600000 in
set_option maxRecDepth 100000 in
theorem Gpartial_f (D : Array Fa) (a b : Nat) (fl : Fl) (hn : D.size ≤ 1000) (hab : a < b) (hb : b ≤ D.size) (h50 : b - a < 50) : AFun Tryz.prog 123 1 [.slm fl 0 7 0 D.size, int a, int b, cmpC] [(0, rwD D)] (bool (decide (Sort.scanSorted ltF D b (a + 1) = b))) [(0, rwD D)] := by
  obtain ⟨n, hn'⟩ : ∃ n, n = D.size := ⟨_, rfl⟩
  have hge := scan_ge D b b (a + 1) (by omega) (by omega)
  generalize hR : Sort.scanSorted ltF D b (a + 1) = R at hge
  have hm := sizeD D
  rw [← hn']
  refine AFun.of_S T_ok mixed Tryz.func123 rfl (Nat.le_of_ble_eq_true rfl) rfl ?_
  ((repeat ((conv => whnf); (first | (refine As.pre ?_; first | refine As.mk rfl ?_) | (refine LetI.pre ?_; first | refine LetI.wrap (by omega) (by omega) ?_) | (refine Ck.pre ?_; first | refine Ck.mk rfl ?_)))); (try (conv => whnf)))
  refine LoopN.round T_ok mixed rfl ?_
  ((repeat ((conv => whnf); (first | (refine As.pre ?_; first | refine As.mk rfl ?_) | (refine LetB.pre ?_; first | refine LetB.tt rfl ?_) | (refine Br.pre ?_; first | refine Br.tt rfl ?_) | (refine Ck.pre ?_; first | refine Ck.mk rfl ?_)))); (try (conv => whnf)))
  refine LoopN.weak (s1 := pIS n a b fl D (a + 1)) ?sw1 ?_
  case sw1 => exact SW.mk id rfl rfl (namesAll.row (pure_fa _) rfl) ⟨.refl _, .refl _, .refl _, .refl _, .refl _, VLe2.int (by omega), .refl _, trivial⟩ (haveV.row (pure_fa _) rfl trivial)
  refine LoopN.ind T_ok mixed (S := pIS n a b fl D) (fun i => b - i) (fun i => a < i ∧ i ≤ b ∧ Sort.scanSorted ltF D b i = R) (fun _ => rfl) (fun i hi ih => ?_) (a + 1) ⟨Nat.lt_succ_self _, hab, hR⟩
  obtain ⟨h0, h1, h2⟩ := hi
  rw [Sort.scanSorted] at h2
  by_cases hlt : i < b
  case neg =>
    have hib : i = b := by omega
    rw [if_neg (by simp [hlt])] at h2
    subst h2
    clear ih
    subst hib
    rw [show decide (i = i) = true from decide_eq_true rfl]
    ((repeat ((conv => whnf); (first | (refine As.pre ?_; first | refine As.mk rfl ?_) | (refine LetB.pre ?_; first | refine LetB.dect (by omega) ?_ | refine LetB.decf (by omega) ?_) | (refine Gd.pre ?_; first | refine Gd.pass rfl ?_) | (refine Br.pre ?_; first | refine Br.tt rfl ?_ | refine Br.ff rfl ?_) | (refine Ck.pre ?_; first | refine Ck.drawn (by kernel_rfl) ?_ | refine Ck.mk rfl ?_)))); (try (conv => whnf)))
    exact ⟨⟨[(8, bool true)], [(0, rwD D)], 1⟩, SW.mk id rfl rfl (namesAll.row (pure_fa _) rfl) ⟨.refl _, trivial⟩ (haveV.row (pure_fa _) rfl trivial), .inl rfl, ⟨_, rfl, rfl⟩, rfl, trivial⟩
  obtain ⟨j, rfl⟩ : ∃ k, i = k + 1 := ⟨i - 1, by omega⟩
  have hld1 := ldD (D := D) (i := j + 1) (by omega)
  have hld2 := ldD (D := D) (i := j) (by omega)
  have hsub := wrapN j (by omega)
  have hcmp := compareF_f D[j + 1]! D[j]!
  have hg : (if ltF D[j + 1]! D[j]! = true then j + 1 else Sort.scanSorted ltF D b (j + 1 + 1)) = R := by
    rw [← h2]
    simp only [hlt, decide_true, Bool.true_and, Nat.add_sub_cancel]
    cases ltF D[j + 1]! D[j]! <;> rfl
  clear h2
  unfold ltF at hg
  generalize D[j + 1]! = x at hld1 hcmp hg
  generalize D[j]! = y at hld2 hcmp hg
  generalize cmpF x y = r at hcmp hg
  by_cases hr : r < 0
  · rw [if_pos (decide_eq_true hr)] at hg
    have hRb : decide (R = b) = false := decide_eq_false (by omega)
    rw [hRb]
    clear ih
    ((repeat ((conv => whnf); (first | (refine As.pre ?_; first | refine As.mk rfl ?_ | (refine As.mk ?_ ?_; · ((repeat' (refine andT ?_ ?_)) <;> (first | rfl | assumption | exact decide_eq_true (by omega) | exact decide_eq_true (by dsimp only; omega) | exact decide_eq_true (by simp; omega) | (simp; done))))) | (refine LetV.pre ?_; first | refine LetV.mk (t := fty) _ hld1 ?_ | refine LetV.mk (t := fty) _ hld2 ?_) | (refine LetI.pre ?_; first | refine LetI.mk (o := some .sub) (j : Int) hsub ?_ | refine LetI.wrap (by omega) (by omega) ?_) | (refine LetB.pre ?_; first | refine LetB.dect (by omega) ?_ | refine LetB.decf (by omega) ?_) | (refine Gd.pre ?_; first | refine Gd.run rfl ?_) | (refine Br.pre ?_; first | refine Br.tt rfl ?_ | refine Br.ff rfl ?_) | (refine Ck.pre ?_; first | refine Ck.drawn (by kernel_rfl) ?_ | refine Ck.mk rfl ?_) | (refine CallN.pre ?_; first | refine CallN.pure hcmp rfl rfl ?_)))); (try (conv => whnf)))




    exact ⟨⟨[(8, bool false)], [(0, rwD D)], 1⟩, SW.mk id rfl rfl (namesAll.row (pure_fa _) rfl) ⟨.refl _, trivial⟩ (haveV.row (pure_fa _) rfl trivial), .inl rfl, ⟨_, rfl, rfl⟩, rfl, trivial⟩
  · rw [if_neg (by simpa using hr)] at hg
    ((repeat ((conv => whnf); (first | (refine As.pre ?_; first | refine As.mk rfl ?_ | (refine As.mk ?_ ?_; · ((repeat' (refine andT ?_ ?_)) <;> (first | rfl | assumption | exact decide_eq_true (by omega) | exact decide_eq_true (by dsimp only; omega) | exact decide_eq_true (by simp; omega) | (simp; done))))) | (refine LetV.pre ?_; first | refine LetV.mk (t := fty) _ hld1 ?_ | refine LetV.mk (t := fty) _ hld2 ?_) | (refine LetI.pre ?_; first | refine LetI.mk (o := some .sub) (j : Int) hsub ?_ | refine LetI.wrap (by omega) (by omega) ?_) | (refine LetB.pre ?_; first | refine LetB.dect (by omega) ?_ | refine LetB.decf (by omega) ?_) | (refine Gd.pre ?_; first | refine Gd.run rfl ?_) | (refine Br.pre ?_; first | refine Br.tt rfl ?_) | (refine Ck.pre ?_; first | refine Ck.drawn (by kernel_rfl) ?_ | refine Ck.mk rfl ?_) | (refine CallN.pre ?_; first | refine CallN.pure hcmp rfl rfl ?_)))); (try (conv => whnf)))




    refine LoopN.weak ?sw4 (ih (j + 1 + 1) ⟨by omega, by omega, hg⟩ (by omega))
    case sw4 => exact SW.mk id rfl rfl (namesAll.row (pure_fa _) rfl) ⟨.refl _, .refl _, .refl _, .refl _, .refl _, VLe2.int (by omega), .refl _, trivial⟩ (haveV.row (pure_fa _) rfl trivial)
/-! order2, median -/
abbrev bxN (s : Nat) : Blk := .row 1 3 [int s]
set_option maxHeartbeats 1600000 in
set_option maxRecDepth 100000 in
theorem Gorder2_f (D : Array Fa) (a b s : Nat) (fl : Fl) (hn : D.size ≤ 1000) (ha : a < D.size) (hb : b < D.size) (hs : s ≤ 100) : AFun Tryz.prog 145 2 [.slm fl 0 7 0 D.size, int a, int b, .ptr 1 1 0 0, cmpC] [(0, rwD D), (1, bxN s)] (.tup [int (Sort.order2 ltF D a b s).1, int (Sort.order2 ltF D a b s).2.1]) [(0, rwD D), (1, bxN (Sort.order2 ltF D a b s).2.2)] := by
  have hm := sizeD D
  have hld1 := ldD (D := D) (i := b) hb
  have hld2 := ldD (D := D) (i := a) ha
  have hcmp := compareF_f D[b]! D[a]!
  unfold Sort.order2 ltF
  generalize D[b]! = x at hld1 hcmp ⊢
  generalize D[a]! = y at hld2 hcmp ⊢
  generalize cmpF x y = r at hcmp ⊢
  generalize D.size = n at ha hb hm ⊢
  have hadd : ((s + 1 : Nat) : Int) = IntKind.i64.wrap ((s : Int) + 1) := by rw [wrap_id (by omega) (by omega)]; omega
  refine AFun.of_S T_ok mixed Tryz.func145 rfl (Nat.le_of_ble_eq_true rfl) rfl ?_
  by_cases hr : r < 0
  · rw [if_pos (decide_eq_true hr)]
    ((repeat ((conv => whnf); (first | (refine LetN.pre ?_; first | ((conv => arg 1; whnf); refine LetN.mk ?_)) | (refine As.pre ?_; first | refine As.mk rfl ?_ | (refine As.mk ?_ ?_; · ((repeat' (refine andT ?_ ?_)) <;> (first | rfl | assumption | exact decide_eq_true (by omega) | exact decide_eq_true (by dsimp only; omega) | exact decide_eq_true (by simp; omega) | (simp; done))))) | (refine LetV.pre ?_; first | refine LetV.mk (t := fty) _ hld1 ?_ | refine LetV.mk (t := fty) _ hld2 ?_ | refine LetV.mk (.sc (.int _ _)) rfl ?_) | (refine LetI.pre ?_; first | refine LetI.mk (o := some .add) ((s + 1 : Nat) : Int) hadd ?_) | (refine LetB.pre ?_; first | refine LetB.dect (by omega) ?_) | (refine Br.pre ?_; first | refine Br.tt rfl ?_) | (refine Ck.pre ?_; first | refine Ck.drawn (by kernel_rfl) ?_ | refine Ck.mk rfl ?_) | (refine LetL.pre ?_; first | refine LetL.mk [_] rfl ?_) | (refine CallN.pre ?_; first | refine CallN.pure hcmp rfl rfl ?_)))); (try (conv => whnf)))




    exact ⟨⟨[(10, int b), (11, int a)], [(0, rwD D), (1, bxN (s + 1))], 2⟩, SW.mk id rfl rfl (namesAll.row (pure_fa _) (namesAll.row rfl rfl)) ⟨.refl _, .refl _, trivial⟩ (haveV.row (pure_fa _) rfl (haveV.row rfl rfl trivial)), .inl rfl, ⟨_, rfl, rfl⟩, rfl, rfl, trivial⟩
  · rw [if_neg (by simpa using hr)]
    ((repeat ((conv => whnf); (first | (refine As.pre ?_; first | refine As.mk rfl ?_ | (refine As.mk ?_ ?_; · ((repeat' (refine andT ?_ ?_)) <;> (first | rfl | assumption | exact decide_eq_true (by omega) | exact decide_eq_true (by dsimp only; omega) | exact decide_eq_true (by simp; omega) | (simp; done))))) | (refine LetV.pre ?_; first | refine LetV.mk (t := fty) _ hld1 ?_ | refine LetV.mk (t := fty) _ hld2 ?_) | (refine LetB.pre ?_; first | refine LetB.decf (by omega) ?_) | (refine Br.pre ?_; first | refine Br.ff rfl ?_) | (refine Ck.pre ?_; first | refine Ck.drawn (by kernel_rfl) ?_ | refine Ck.mk rfl ?_) | (refine CallN.pre ?_; first | refine CallN.pure hcmp rfl rfl ?_)))); (try (conv => whnf)))



    exact ⟨⟨[(10, int a), (11, int b)], [(0, rwD D), (1, bxN s)], 2⟩, SW.mk id rfl rfl (namesAll.row (pure_fa _) (namesAll.row rfl rfl)) ⟨.refl _, .refl _, trivial⟩ (haveV.row (pure_fa _) rfl (haveV.row rfl rfl trivial)), .inl rfl, ⟨_, rfl, rfl⟩, rfl, rfl, trivial⟩
theorem order2_lt (D : Array Fa) (a b s : Nat) {N : Nat} (ha : a < N) (hb : b < N) : (Sort.order2 ltF D a b s).1 < N ∧ (Sort.order2 ltF D a b s).2.1 < N ∧ (Sort.order2 ltF D a b s).2.2 ≤ s + 1 := by
  unfold Sort.order2
  split
  · exact ⟨hb, ha, Nat.le_refl _⟩
  · exact ⟨ha, hb, Nat.le_succ _⟩
theorem order2_ge (D : Array Fa) (a b s : Nat) {N : Nat} (ha : N ≤ a) (hb : N ≤ b) : N ≤ (Sort.order2 ltF D a b s).1 ∧ N ≤ (Sort.order2 ltF D a b s).2.1 := by
  unfold Sort.order2
  split
  · exact ⟨hb, ha⟩
  · exact ⟨ha, hb⟩
theorem median_lt (D : Array Fa) (a b c s : Nat) {N : Nat} (ha : a < N) (hb : b < N) (hc : c < N) : (Sort.median ltF D a b c s).1 < N ∧ (Sort.median ltF D a b c s).2 ≤ s + 3 := by
  unfold Sort.median
  have h1 := order2_lt D a b s ha hb
  have h2 := order2_lt D (Sort.order2 ltF D a b s).2.1 c (Sort.order2 ltF D a b s).2.2 h1.2.1 hc
  have h3 := order2_lt D (Sort.order2 ltF D a b s).1 (Sort.order2 ltF D (Sort.order2 ltF D a b s).2.1 c (Sort.order2 ltF D a b s).2.2).1 (Sort.order2 ltF D (Sort.order2 ltF D a b s).2.1 c (Sort.order2 ltF D a b s).2.2).2.2 h1.1 h2.1
  exact ⟨h3.2.1, by dsimp only; omega⟩
theorem median_ge (D : Array Fa) (a b c s : Nat) {N : Nat} (ha : N ≤ a) (hb : N ≤ b) (hc : N ≤ c) : N ≤ (Sort.median ltF D a b c s).1 := by
  unfold Sort.median
  have h1 := order2_ge D a b s ha hb
  have h2 := order2_ge D (Sort.order2 ltF D a b s).2.1 c (Sort.order2 ltF D a b s).2.2 h1.2 hc
  exact (order2_ge D (Sort.order2 ltF D a b s).1 (Sort.order2 ltF D (Sort.order2 ltF D a b s).2.1 c (Sort.order2 ltF D a b s).2.2).1 (Sort.order2 ltF D (Sort.order2 ltF D a b s).2.1 c (Sort.order2 ltF D a b s).2.2).2.2 h1.1 h2.1).2
abbrev swH (D : Array Fa) (s : Nat) : AH := [(0, rwD D), (1, bxN s)]
theorem swHN (D : Array Fa) (s : Nat) (ok : Nat → Bool) : namesAll ok (swH D s) = true := namesAll.row (pure_fa _) (namesAll.row rfl rfl)
theorem swHV {D : Array Fa} {s : Nat} {H : AH} {n : Nat} (h0 : AH.get H 0 = some (rwD D)) (h1 : AH.get H 1 = some (bxN s)) : haveV id H n (swH D s) := haveV.row (pure_fa _) h0 (haveV.row rfl h1 trivial)
abbrev mdZ (n : Nat) (fl : Fl) (D : Array Fa) (x y z s : Nat) : AS := ⟨[(0, .slm fl 0 7 0 n), (1, int x), (2, int y), (3, int z), (4, .ptr 1 1 0 0), (5, cmpC)], swH D s, 2⟩
set_option maxHeartbeats 1600000 in
set_option maxRecDepth 100000 in
theorem Gmedian_f (D : Array Fa) (a b c s : Nat) (fl : Fl) (hn : D.size ≤ 1000) (ha : a < D.size) (hb : b < D.size) (hc : c < D.size) (hs : s ≤ 50) : AFun Tryz.prog 140 2 [.slm fl 0 7 0 D.size, int a, int b, int c, .ptr 1 1 0 0, cmpC] (swH D s) (int (Sort.median ltF D a b c s).1) (swH D (Sort.median ltF D a b c s).2) := by
  have k1 := order2_lt D a b s ha hb
  have c1 := Gorder2_f D a b s fl hn ha hb (by omega)
  unfold Sort.median
  generalize Sort.order2 ltF D a b s = r1 at k1 c1 ⊢
  obtain ⟨x1, y1, s1⟩ := r1
  dsimp only at k1 c1 ⊢
  have k2 := order2_lt D y1 c s1 k1.2.1 hc
  have c2 := Gorder2_f D y1 c s1 fl hn k1.2.1 hc (by omega)
  generalize Sort.order2 ltF D y1 c s1 = r2 at k2 c2 ⊢
  obtain ⟨x2, y2, s2⟩ := r2
  dsimp only at k2 c2 ⊢
  have k3 := order2_lt D x1 x2 s2 k1.1 k2.1
  have c3 := Gorder2_f D x1 x2 s2 fl hn k1.1 k2.1 (by omega)
  generalize Sort.order2 ltF D x1 x2 s2 = r3 at k3 c3 ⊢
  obtain ⟨x3, y3, s3⟩ := r3
  dsimp only at k3 c3 ⊢
  generalize D.size = n at c1 c2 c3 hn
  refine AFun.of_VS T_ok Tryz.func140 rfl (Nat.le_of_ble_eq_true rfl) ?_
  refine VS.cut T_ok mixed rfl ?_
  ((repeat ((conv => whnf); (first | (refine As.pre ?_; first | refine As.mk rfl ?_) | (refine Ck.pre ?_; first | refine Ck.mk rfl ?_)))); (try (conv => whnf)))
  refine VS.cut T_ok mixed rfl ?_
  ((repeat ((conv => whnf); (first | (refine LetN.pre ?_; first | ((conv => arg 1; whnf); refine LetN.mk ?_)) | (refine As.pre ?_; first | refine As.mk rfl ?_) | (refine Ck.pre ?_; first | refine Ck.mk rfl ?_) | (refine LetL.pre ?_; first | refine LetL.mk [_] rfl ?_ | refine LetL.mk _ rfl ?_) | (refine CallN.pre ?_; first | refine CallN.own id c1 (CallOk.mk' rfl rfl rfl (swHN ..) rfl (swHN ..) (haveAll.row (pure_fa _) rfl (haveAll.row rfl rfl trivial))) ?_)))); (try (conv => whnf)))
  refine VS.weak (s1 := mdZ n fl D x1 y1 c s1) ?sw1 ?_
  case sw1 => exact SW.mk id rfl rfl (swHN ..) ⟨.refl _, .refl _, .refl _, .refl _, .refl _, .refl _, trivial⟩ (haveV.row (pure_fa _) (congrArg (fun x => some (Blk.row 7 fty x)) (renL_none (pure_fa _))) (haveV.row rfl rfl trivial))
  refine VS.cut T_ok mixed rfl ?_
  ((repeat ((conv => whnf); (first | (refine LetN.pre ?_; first | ((conv => arg 1; whnf); refine LetN.mk ?_)) | (refine As.pre ?_; first | refine As.mk rfl ?_) | (refine Ck.pre ?_; first | refine Ck.mk rfl ?_) | (refine LetL.pre ?_; first | refine LetL.mk [_] rfl ?_ | refine LetL.mk _ rfl ?_) | (refine CallN.pre ?_; first | refine CallN.own id c2 (CallOk.mk' rfl rfl rfl (swHN ..) rfl (swHN ..) (haveAll.row (pure_fa _) rfl (haveAll.row rfl rfl trivial))) ?_)))); (try (conv => whnf)))
  refine VS.weak (s1 := mdZ n fl D x1 x2 y2 s2) ?sw2 ?_
  case sw2 => exact SW.mk id rfl rfl (swHN ..) ⟨.refl _, .refl _, .refl _, .refl _, .refl _, .refl _, trivial⟩ (haveV.row (pure_fa _) (congrArg (fun x => some (Blk.row 7 fty x)) (renL_none (pure_fa _))) (haveV.row rfl rfl trivial))
  refine VS.cut T_ok mixed rfl ?_
  ((repeat ((conv => whnf); (first | (refine LetN.pre ?_; first | ((conv => arg 1; whnf); refine LetN.mk ?_)) | (refine As.pre ?_; first | refine As.mk rfl ?_) | (refine Ck.pre ?_; first | refine Ck.mk rfl ?_) | (refine LetL.pre ?_; first | refine LetL.mk [_] rfl ?_ | refine LetL.mk _ rfl ?_) | (refine CallN.pre ?_; first | refine CallN.own id c3 (CallOk.mk' rfl rfl rfl (swHN ..) rfl (swHN ..) (haveAll.row (pure_fa _) rfl (haveAll.row rfl rfl trivial))) ?_)))); (try (conv => whnf)))
  refine VS.weak (s1 := mdZ n fl D x3 y3 y2 s3) ?sw3 ?_
  case sw3 => exact SW.mk id rfl rfl (swHN ..) ⟨.refl _, .refl _, .refl _, .refl _, .refl _, .refl _, trivial⟩ (haveV.row (pure_fa _) (congrArg (fun x => some (Blk.row 7 fty x)) (renL_none (pure_fa _))) (haveV.row rfl rfl trivial))
  refine VS.of_V T_ok mixed rfl ?_
  ((repeat ((conv => whnf); (first | (refine As.pre ?_; first | refine As.mk rfl ?_) | (refine Ck.pre ?_; first | refine Ck.mk rfl ?_)))); (try (conv => whnf)))
  exact ⟨⟨[(12, int y3)], swH D s3, 2⟩, SW.mk id rfl rfl (swHN ..) ⟨.refl _, trivial⟩ (swHV rfl rfl), .inl rfl, ⟨_, rfl, rfl⟩, rfl, rfl, trivial⟩
/-- A part of 13 to 49 facts: its pivot, and whether it looks sorted. -/
def chv (D : Array Fa) (a b : Nat) : Nat × Nat := Sort.median ltF D (a + (b - a) / 4 * 1) (a + (b - a) / 4 * 2) (a + (b - a) / 4 * 3) 0
theorem chv_in (D : Array Fa) {a b : Nat} (h : 8 ≤ b - a) : a ≤ (chv D a b).1 ∧ (chv D a b).1 < b ∧ (chv D a b).2 ≤ 3 := by
  have h1 := median_lt D (a + (b - a) / 4 * 1) (a + (b - a) / 4 * 2) (a + (b - a) / 4 * 3) 0 (N := b) (by omega) (by omega) (by omega)
  have h2 := median_ge D (a + (b - a) / 4 * 1) (a + (b - a) / 4 * 2) (a + (b - a) / 4 * 3) 0 (N := a) (by omega) (by omega) (by omega)
  exact ⟨h2, h1.1, by have := h1.2; unfold chv; omega⟩
theorem choose_eq (D : Array Fa) {a b : Nat} (h : 8 ≤ b - a) (h2 : b - a < 50) : Sort.choosePivot ltF D a b = ((chv D a b).1, if (chv D a b).2 = 0 then .increasing else .unknown) := by
  have h3 := (chv_in D h).2.2
  unfold Sort.choosePivot
  simp only [ge_iff_le, h, if_true, show ¬ 50 ≤ b - a by omega, if_false]
  show ((chv D a b).1, if (chv D a b).2 = 0 then Sort.Hint.increasing else if (chv D a b).2 = 12 then .decreasing else .unknown) = _
  rw [if_neg (show ¬ (chv D a b).2 = 12 by omega)]
abbrev chZ (n : Nat) (fl : Fl) (D : Array Fa) (a b l i1 i2 i3 s : Nat) : AS := ⟨[(0, .slm fl 0 7 0 n), (1, int a), (2, int b), (3, cmpC), (10, int l), (11, .ptr 1 1 0 0), (12, int i1), (13, int i2), (14, int i3)], swH D s, 2⟩
abbrev chY (n : Nat) (fl : Fl) (D : Array Fa) (a b j s : Nat) : AS := ⟨[(0, .slm fl 0 7 0 n), (1, int a), (2, int b), (3, cmpC), (11, .ptr 1 1 0 0), (13, int j)], swH D s, 2⟩
set_option maxHeartbeats 1600000 in
set_option maxRecDepth 100000 in
theorem Gchoose_f (D : Array Fa) (a b : Nat) (fl : Fl) (hn : D.size ≤ 1000) (hab : 8 ≤ b - a) (h50 : b - a < 50) (hb : b ≤ D.size) : AFun Tryz.prog 121 1 [.slm fl 0 7 0 D.size, int a, int b, cmpC] [(0, rwD D)] (.tup [int (chv D a b).1, int (if (chv D a b).2 = 0 then 1 else 0 : Int)]) [(0, rwD D)] := by
  have hin := chv_in D hab
  have hc := Gmedian_f D (a + (b - a) / 4 * 1) (a + (b - a) / 4 * 2) (a + (b - a) / 4 * 3) 0 fl hn (by omega) (by omega) (by omega) (by omega)
  change AFun _ _ _ _ _ (int (chv D a b).1) (swH D (chv D a b).2) at hc
  generalize chv D a b = r at hc hin ⊢
  obtain ⟨j, sw⟩ := r
  dsimp only at hc hin ⊢
  obtain ⟨l, hl⟩ : ∃ l, l = b - a := ⟨_, rfl⟩
  rw [← hl] at hc hab h50
  have q1 : ((a + l / 4 * 1 : Nat) : Int) = (a : Int) + (l : Int) / 4 * 1 := by omega
  have q2 : ((a + l / 4 * 2 : Nat) : Int) = (a : Int) + (l : Int) / 4 * 2 := by omega
  have q3 : ((a + l / 4 * 3 : Nat) : Int) = (a : Int) + (l : Int) / 4 * 3 := by omega
  generalize a + l / 4 * 1 = i1 at q1 hc
  generalize a + l / 4 * 2 = i2 at q2 hc
  generalize a + l / 4 * 3 = i3 at q3 hc
  have w0 : (l : Int) = IntKind.i64.wrap ((b : Int) - a) := by rw [wrap_id (by omega) (by omega)]; omega
  generalize D.size = n at hc hn hb
  refine AFun.of_VS T_ok Tryz.func121 rfl (Nat.le_of_ble_eq_true rfl) ?_
  refine VS.cut T_ok mixed rfl ?_
  ((repeat ((conv => whnf); (first | (refine As.pre ?_; first | refine As.mk rfl ?_) | (refine Ck.pre ?_; first | refine Ck.mk rfl ?_)))); (try (conv => whnf)))
  refine VS.cut T_ok mixed rfl ?_
  ((repeat ((conv => whnf); (first | (refine As.pre ?_; first | refine As.mk rfl ?_) | (refine LetI.pre ?_; first | refine LetI.mk (o := some .sub) (l : Int) w0 ?_) | (refine Ck.pre ?_; first | refine Ck.mk rfl ?_)))); (try (conv => whnf)))
  have wq : ((l / 4 : Nat) : Int) = IntKind.i64.wrap ((l : Int).tdiv 4) := by
    rw [Int.tdiv_eq_ediv_of_nonneg (by omega), wrap_id (by omega) (by omega)]; omega
  have m1 : (i1 : Int) = IntKind.i64.wrap ((a : Int) + ((l / 4 : Nat) : Int) * 1) := by rw [wrap_id (by omega) (by omega)]; omega
  have m2 : (i2 : Int) = IntKind.i64.wrap ((a : Int) + ((l / 4 : Nat) : Int) * 2) := by rw [wrap_id (by omega) (by omega)]; omega
  have m3 : (i3 : Int) = IntKind.i64.wrap ((a : Int) + ((l / 4 : Nat) : Int) * 3) := by rw [wrap_id (by omega) (by omega)]; omega
  have ql : (l / 4 : Nat) ≤ 12 := by omega
  clear q1 q2 q3
  generalize l / 4 = l4 at wq m1 m2 m3 ql
  refine VS.cut T_ok mixed rfl ?_
  ((repeat ((conv => whnf); (first | (refine LetN.pre ?_; first | ((conv => arg 1; whnf); refine LetN.mk ?_)) | (refine As.pre ?_; first | refine As.mk rfl ?_) | (refine Ck.pre ?_; first | refine Ck.mk rfl ?_)))); (try (conv => whnf)))
  refine VS.cut T_ok mixed rfl ?_
  ((repeat ((conv => whnf); (first | (refine As.pre ?_; first | refine As.mk rfl ?_) | (refine LetI.pre ?_; first | refine LetI.mk (o := some .quo) (l4 : Int) wq ?_ | refine LetI.mk (o := some .add) (i1 : Int) m1 ?_ | refine LetI.wrap (by omega) (by omega) ?_) | (refine Ck.pre ?_; first | refine Ck.mk rfl ?_)))); (try (conv => whnf)))
  refine VS.cut T_ok mixed rfl ?_
  ((repeat ((conv => whnf); (first | (refine As.pre ?_; first | refine As.mk rfl ?_) | (refine LetI.pre ?_; first | refine LetI.mk (o := some .quo) (l4 : Int) wq ?_ | refine LetI.mk (o := some .add) (i2 : Int) m2 ?_ | refine LetI.wrap (by omega) (by omega) ?_) | (refine Ck.pre ?_; first | refine Ck.mk rfl ?_)))); (try (conv => whnf)))
  refine VS.cut T_ok mixed rfl ?_
  ((repeat ((conv => whnf); (first | (refine As.pre ?_; first | refine As.mk rfl ?_) | (refine LetI.pre ?_; first | refine LetI.mk (o := some .quo) (l4 : Int) wq ?_ | refine LetI.mk (o := some .add) (i3 : Int) m3 ?_ | refine LetI.wrap (by omega) (by omega) ?_) | (refine Ck.pre ?_; first | refine Ck.mk rfl ?_)))); (try (conv => whnf)))
  refine VS.weak (s1 := chZ n fl D a b l i1 i2 i3 0) ?sw1 ?_
  case sw1 => exact SW.mk id rfl rfl (swHN ..) ⟨.refl _, .refl _, .refl _, .refl _, .refl _, .refl _, .refl _, .refl _, .refl _, trivial⟩ (swHV rfl rfl)
  refine VS.cut T_ok mixed rfl ?_
  ((repeat ((conv => whnf); (first | (refine LetN.pre ?_; first | ((conv => arg 1; whnf); refine LetN.mk ?_)) | (refine As.pre ?_; first | refine As.mk rfl ?_) | (refine LetB.pre ?_; first | refine LetB.dect (by omega) ?_ | refine LetB.decf (by omega) ?_) | (refine Br.pre ?_; first | refine Br.tt rfl ?_ | refine Br.ff rfl ?_) | (refine Ck.pre ?_; first | refine Ck.mk rfl ?_) | (refine LetL.pre ?_; first | refine LetL.mk [_] rfl ?_ | refine LetL.mk _ rfl ?_) | (refine CallN.pre ?_; first | refine CallN.own id hc (CallOk.mk' rfl rfl rfl (swHN ..) rfl (swHN ..) (haveAll.row (pure_fa _) rfl (haveAll.row rfl rfl trivial))) ?_)))); (try (conv => whnf)))
  refine VS.weak (s1 := chY n fl D a b j sw) ?sw2 ?_
  case sw2 => exact SW.mk id rfl rfl (swHN ..) ⟨.refl _, .refl _, .refl _, .refl _, .refl _, .refl _, trivial⟩ (haveV.row (pure_fa _) (congrArg (fun x => some (Blk.row 7 fty x)) (renL_none (pure_fa _))) (haveV.row rfl rfl trivial))
  have hj : (if sw = 0 then 1 else 0 : Int) = 1 ∧ sw = 0 ∨ (if sw = 0 then 1 else 0 : Int) = 0 ∧ 0 < sw := by
    by_cases h : sw = 0
    · exact .inl ⟨if_pos h, h⟩
    · exact .inr ⟨if_neg h, by omega⟩
  generalize (if sw = 0 then 1 else 0 : Int) = hint at hj ⊢
  rcases hj with ⟨rfl, h0⟩ | ⟨rfl, h0⟩
  · refine VS.of_V T_ok mixed rfl ?_
    ((repeat ((conv => whnf); (first | (refine As.pre ?_; first | refine As.mk rfl ?_) | (refine LetV.pre ?_; first | refine LetV.mk (.sc (.int _ _)) rfl ?_) | (refine LetB.pre ?_; first | refine LetB.dect (by omega) ?_) | (refine Br.pre ?_; first | refine Br.tt rfl ?_) | (refine Ck.pre ?_; first | refine Ck.mk rfl ?_)))); (try (conv => whnf)))
    exact ⟨⟨[(8, int j), (9, int 1)], [(0, rwD D)], 2⟩, SW.mk id rfl rfl (namesAll.row (pure_fa _) rfl) ⟨.refl _, .refl _, trivial⟩ (haveV.row (pure_fa _) rfl trivial), .inl rfl, ⟨_, rfl, rfl⟩, rfl, trivial⟩
  · refine VS.of_V T_ok mixed rfl ?_
    ((repeat ((conv => whnf); (first | (refine As.pre ?_; first | refine As.mk rfl ?_) | (refine LetV.pre ?_; first | refine LetV.mk (.sc (.int _ _)) rfl ?_) | (refine LetB.pre ?_; first | refine LetB.decf (by omega) ?_) | (refine Br.pre ?_; first | refine Br.ff rfl ?_) | (refine Ck.pre ?_; first | refine Ck.mk rfl ?_)))); (try (conv => whnf)))
    exact ⟨⟨[(8, int j), (9, int 0)], [(0, rwD D)], 2⟩, SW.mk id rfl rfl (namesAll.row (pure_fa _) rfl) ⟨.refl _, .refl _, trivial⟩ (haveV.row (pure_fa _) rfl trivial), .inl rfl, ⟨_, rfl, rfl⟩, rfl, trivial⟩
end En
end Go.Proofs.YtgnakhljdjekbaaGreatDoor
namespace Go.Proofs.YtgnakhljdjekbaaGreatDoor
open Go.Proofs.YtgnakhljdjekbaaGreatDoor.Am
set_option maxRecDepth 100000
namespace En
/-! ### partition -/
theorem p_break (a i j : Nat) (D : Array Fa) {i2 j2 : Nat} (h1 : Sort.scanUp (fun x => ltF x D[a]!) D j i = i2) (h2 : Sort.scanDown (fun x => !ltF x D[a]!) D i2 j = j2) (h : j2 < i2) : Sort.partLoop ltF a i j D = (j2, D) := by
  subst h1; subst h2
  rw [Sort.partLoop_eq, if_pos h]
theorem p_go (a i j : Nat) (D : Array Fa) {i2 j2 : Nat} (h1 : Sort.scanUp (fun x => ltF x D[a]!) D j i = i2) (h2 : Sort.scanDown (fun x => !ltF x D[a]!) D i2 j = j2) (h : ¬ i2 > j2) : Sort.partLoop ltF a i j D = Sort.partLoop ltF a (i2 + 1) (j2 - 1) (Sort.swp D i2 j2) := by
  subst h1; subst h2
  rw [Sort.partLoop_eq, if_neg h]
theorem p_lt (a i j : Nat) (D : Array Fa) (h0 : 0 < i) {i2 j2 : Nat} (h1 : Sort.scanUp (fun x => ltF x D[a]!) D j i = i2) (h2 : Sort.scanDown (fun x => !ltF x D[a]!) D i2 j = j2) (h : i2 ≤ j2) : i2 < j2 := by
  obtain ⟨u1, _, _, u4⟩ := Sort.scanUp_spec (fun x => ltF x D[a]!) D j _ i rfl
  rw [h1] at u1 u4
  obtain ⟨v1, _, _, v4⟩ := Sort.scanDown_spec (fun x => !ltF x D[a]!) D i2 j
  rw [h2] at v1 v4
  rcases Nat.lt_or_ge i2 j2 with h' | h'
  · exact h'
  · have e : j2 = i2 := by omega
    have f1 := u4 (by omega)
    have f2 := v4 h (by omega)
    rw [e] at f2
    simp only [f1] at f2
    cases f2
theorem p_first (D : Array Fa) (a b pivot : Nat) {E : Array Fa} {i2 j2 : Nat} (hE : E = Sort.swp D a pivot) (h1 : Sort.scanUp (fun x => ltF x E[a]!) E (b - 1) (a + 1) = i2) (h2 : Sort.scanDown (fun x => !ltF x E[a]!) E i2 (b - 1) = j2) :
    Sort.partition ltF D a b pivot = if i2 > j2 then (j2, true, Sort.swp E j2 a) else ((Sort.partLoop ltF a (i2 + 1) (j2 - 1) (Sort.swp E i2 j2)).1, false, Sort.swp (Sort.partLoop ltF a (i2 + 1) (j2 - 1) (Sort.swp E i2 j2)).2 (Sort.partLoop ltF a (i2 + 1) (j2 - 1) (Sort.swp E i2 j2)).1 a) := by
  subst hE; subst h1; subst h2
  rfl
theorem scans_in (a i j : Nat) (D : Array Fa) {i2 j2 : Nat} (h1 : Sort.scanUp (fun x => ltF x D[a]!) D j i = i2) (h2 : Sort.scanDown (fun x => !ltF x D[a]!) D i2 j = j2) (h : i ≤ j + 1) : i ≤ i2 ∧ i2 ≤ j + 1 ∧ j2 ≤ j ∧ i2 ≤ j2 + 1 := by
  obtain ⟨u1, u2, _, _⟩ := Sort.scanUp_spec (fun x => ltF x D[a]!) D j _ i rfl
  rw [h1] at u1 u2
  obtain ⟨v1, v2, _, _⟩ := Sort.scanDown_spec (fun x => !ltF x D[a]!) D i2 j
  rw [h2] at v1 v2
  exact ⟨u1, u2 h, v1, v2 (u2 h)⟩
abbrev paS (n : Nat) (fl : Fl) (a i j : Nat) (D : Array Fa) : AS := ⟨[(0, .slm fl 0 7 0 n), (1, int a), (4, cmpC), (12, int i), (13, int j)], [(0, rwD D)], 1⟩
abbrev paT (n : Nat) (fl : Fl) (a j : Nat) (D : Array Fa) : AS := ⟨[(0, .slm fl 0 7 0 n), (1, int a), (13, int j)], [(0, rwD D)], 1⟩
abbrev paZ (m : Nat) (t : Bool) (D : Array Fa) : AS := ⟨[(10, int m), (11, bool t)], [(0, rwD D)], 1⟩
set_option maxHeartbeats 6400000 in
set_option maxRecDepth 100000 in
theorem Gpartition_f (D : Array Fa) (a b pivot : Nat) (fl : Fl) (hn : D.size ≤ 1000) (ha : a ≤ pivot) (hp : pivot < b) (hb : b ≤ D.size) : AFun Tryz.prog 125 1 [.slm fl 0 7 0 D.size, int a, int b, int pivot, cmpC] [(0, rwD D)] (.tup [int (Sort.partition ltF D a b pivot).1, bool (Sort.partition ltF D a b pivot).2.1]) [(0, rwD (Sort.partition ltF D a b pivot).2.2)] := by
  obtain ⟨n, hn'⟩ : ∃ n, n = D.size := ⟨_, rfl⟩
  obtain ⟨jb, hjb⟩ : ∃ j, j = b - 1 := ⟨_, rfl⟩
  obtain ⟨⟨mid, ap, R⟩, hP⟩ : ∃ r, Sort.partition ltF D a b pivot = r := ⟨_, rfl⟩
  rw [hP]
  dsimp only
  rw [← hn']
  refine AFun.of_VS T_ok Tryz.func125 rfl (Nat.le_of_ble_eq_true rfl) ?_
  refine VS.cut T_ok mixed rfl ?_
  ((repeat ((conv => whnf); (first | (refine As.pre ?_; first | refine As.mk rfl ?_) | (refine Ck.pre ?_; first | refine Ck.mk rfl ?_)))); (try (conv => whnf)))
  have hldi := ldD (D := D) (i := a) (by omega)
  have hldj := ldD (D := D) (i := pivot) (by omega)
  have hs1 := setD D a D[pivot]!
  have hs2 := swpD D a pivot
  have hzE := swp_size D a pivot
  have hz2 := sizeS D a D[pivot]!
  have hm := sizeD D
  obtain ⟨E, hE⟩ : ∃ zz, zz = Sort.swp D a pivot := ⟨_, rfl⟩
  rw [← hE] at hs2 hzE
  generalize D.setIfInBounds a D[pivot]! = E2 at hs1 hs2 hz2
  generalize D[a]! = x at hldi hs2
  generalize D[pivot]! = y at hldj hs1
  refine VS.cut T_ok mixed rfl ?_
  ((repeat ((conv => whnf); (first | (refine LetN.pre ?_; first | ((conv => arg 1; whnf); refine LetN.mk ?_)) | (refine As.pre ?_; first | refine As.mk rfl ?_ | (refine As.mk ?_ ?_; · ((repeat' (refine andT ?_ ?_)) <;> (first | rfl | assumption | exact decide_eq_true (by omega) | exact decide_eq_true (by dsimp only; omega) | exact decide_eq_true (by simp; omega) | (simp; done))))) | (refine LetV.pre ?_; first | refine LetV.mk (t := fty) _ hldi ?_ | refine LetV.mk (t := fty) _ hldj ?_) | (refine Ck.pre ?_; first | refine Ck.drawn (by kernel_rfl) ?_ | refine Ck.mk rfl ?_) | (refine LetL.pre ?_; first | refine LetL.mk (ty := fty) _ hs1 ?_ | refine LetL.mk (ty := fty) _ hs2 ?_)))); (try (conv => whnf)))




  clear hldi hldj hs1 hs2 hz2 hm
  obtain ⟨I2, h1⟩ : ∃ r, Sort.scanUp (fun x => ltF x E[a]!) E jb (a + 1) = r := ⟨_, rfl⟩
  obtain ⟨J2, h2⟩ : ∃ r, Sort.scanDown (fun x => !ltF x E[a]!) E I2 jb = r := ⟨_, rfl⟩
  have hin := scans_in a (a + 1) jb E h1 h2 (by omega)
  have hF := p_first D a b pivot hE (hjb ▸ h1) (hjb ▸ h2)
  rw [hP] at hF
  refine VS.cut T_ok mixed rfl ?_
  ((repeat ((conv => whnf); (first | (refine As.pre ?_; first | refine As.mk rfl ?_) | (refine LetI.pre ?_; first | refine LetI.wrap (by omega) (by omega) ?_) | (refine Ck.pre ?_; first | refine Ck.mk rfl ?_)))); (try (conv => whnf)))
  refine VS.weak (s1 := paS n fl a (a + 1) jb E) ?sw1 ?_
  case sw1 => exact SW.mk id rfl rfl (namesAll.row (pure_fa _) rfl) ⟨.refl _, .refl _, .refl _, VLe2.int (by omega), VLe2.int (by omega), trivial⟩ (haveV.row (pure_fa _) rfl trivial)
  refine VS.joinN (fun _ : Unit => paS n fl a I2 jb E) (fun _ => True) ?_ ?_
  case refine_1 =>
    refine VS.block (VS.loop ?_)
    refine LoopN.indS (S := fun v => paS n fl a v jb E) (fun w => jb + 1 - w) (fun w => a < w ∧ w ≤ jb + 1 ∧ Sort.scanUp (fun x => ltF x E[a]!) E jb w = I2) (fun v hv ih => ?_) (a + 1) ⟨by omega, by omega, h1⟩
    obtain ⟨u0, u1, u2⟩ := hv
    rw [Sort.scanUp] at u2
    by_cases hlt : v ≤ jb
    case neg =>
      rw [if_neg (by simp [hlt])] at u2
      rw [u2] at hlt u0 u1
      rw [u2]
      clear ih
      refine VS.of_V T_ok mixed rfl ?_
      ((repeat ((conv => whnf); (first | (refine As.pre ?_; first | refine As.mk rfl ?_) | (refine LetB.pre ?_; first | refine LetB.decf (by omega) ?_) | (refine Gd.pre ?_; first | refine Gd.pass rfl ?_) | (refine Br.pre ?_; first | refine Br.ff rfl ?_) | (refine Ck.pre ?_; first | refine Ck.drawn (by kernel_rfl) ?_ | refine Ck.mk rfl ?_)))); (try (conv => whnf)))
      exact ⟨rfl, (), trivial, SW.mk id rfl rfl (namesAll.row (pure_fa _) rfl) ⟨.refl _, .refl _, .refl _, .refl _, .refl _, trivial⟩ (haveV.row (pure_fa _) rfl trivial)⟩
    have hld1 := ldD (D := E) (i := v) (by omega)
    have hld2 := ldD (D := E) (i := a) (by omega)
    have hm := sizeD E
    have hcmp := compareF_f E[v]! E[a]!
    have hg : (if ltF E[v]! E[a]! = true then Sort.scanUp (fun x => ltF x E[a]!) E jb (v + 1) else v) = I2 := by
      rw [← u2]
      simp only [hlt, decide_true, Bool.true_and]
    clear u2
    obtain ⟨x, hx⟩ : ∃ x, x = E[v]! := ⟨_, rfl⟩
    obtain ⟨y, hy⟩ : ∃ y, y = E[a]! := ⟨_, rfl⟩
    rw [← hx] at hld1
    rw [← hy] at hld2
    rw [← hx, ← hy] at hcmp
    have hl : ltF E[v]! E[a]! = decide (cmpF x y < 0) := by rw [hx, hy]; rfl
    rw [hl] at hg
    clear hl hx hy
    generalize cmpF x y = r at hcmp hg
    by_cases hr : r < 0
    case pos =>
      rw [if_pos (decide_eq_true hr)] at hg
      have hnx := ih (v + 1) ⟨by omega, by omega, hg⟩ (by omega)
      clear ih hg
      refine VS.of_V T_ok mixed rfl ?_
      ((repeat ((conv => whnf); (first | (refine As.pre ?_; first | refine As.mk rfl ?_ | (refine As.mk ?_ ?_; · ((repeat' (refine andT ?_ ?_)) <;> (first | rfl | assumption | exact decide_eq_true (by omega) | exact decide_eq_true (by dsimp only; omega) | exact decide_eq_true (by simp; omega) | (simp; done))))) | (refine LetV.pre ?_; first | refine LetV.mk (t := fty) _ hld1 ?_ | refine LetV.mk (t := fty) _ hld2 ?_) | (refine LetI.pre ?_; first | refine LetI.wrap (by omega) (by omega) ?_) | (refine LetB.pre ?_; first | refine LetB.dect (by omega) ?_) | (refine Gd.pre ?_; first | refine Gd.run rfl ?_) | (refine Br.pre ?_; first | refine Br.tt rfl ?_) | (refine Ck.pre ?_; first | refine Ck.drawn (by kernel_rfl) ?_ | refine Ck.mk rfl ?_) | (refine CallN.pre ?_; first | refine CallN.pure hcmp rfl rfl ?_)))); (try (conv => whnf)))
      refine LoopN.weak ?sws hnx
      case sws => exact SW.mk id rfl rfl (namesAll.row (pure_fa _) rfl) ⟨.refl _, .refl _, .refl _, VLe2.int (by omega), .refl _, trivial⟩ (haveV.row (pure_fa _) rfl trivial)
    case neg =>
      rw [if_neg (by simpa using hr)] at hg
      rw [hg] at hld1 hlt u0 u1
      rw [hg]
      clear ih hg
      refine VS.of_V T_ok mixed rfl ?_
      ((repeat ((conv => whnf); (first | (refine As.pre ?_; first | refine As.mk rfl ?_ | (refine As.mk ?_ ?_; · ((repeat' (refine andT ?_ ?_)) <;> (first | rfl | assumption | exact decide_eq_true (by omega) | exact decide_eq_true (by dsimp only; omega) | exact decide_eq_true (by simp; omega) | (simp; done))))) | (refine LetV.pre ?_; first | refine LetV.mk (t := fty) _ hld1 ?_ | refine LetV.mk (t := fty) _ hld2 ?_) | (refine LetB.pre ?_; first | refine LetB.dect (by omega) ?_ | refine LetB.decf (by omega) ?_) | (refine Gd.pre ?_; first | refine Gd.run rfl ?_) | (refine Br.pre ?_; first | refine Br.ff rfl ?_) | (refine Ck.pre ?_; first | refine Ck.drawn (by kernel_rfl) ?_ | refine Ck.mk rfl ?_) | (refine CallN.pre ?_; first | refine CallN.pure hcmp rfl rfl ?_)))); (try (conv => whnf)))
      exact ⟨rfl, (), trivial, SW.mk id rfl rfl (namesAll.row (pure_fa _) rfl) ⟨.refl _, .refl _, .refl _, .refl _, .refl _, trivial⟩ (haveV.row (pure_fa _) rfl trivial)⟩
  rintro _ -
  refine VS.joinN (fun _ : Unit => paS n fl a I2 J2 E) (fun _ => True) ?_ ?_
  case refine_1 =>
    refine VS.block (VS.loop ?_)
    refine LoopN.indS (S := fun v => paS n fl a I2 v E) (fun w => w) (fun w => w ≤ jb ∧ I2 ≤ w + 1 ∧ Sort.scanDown (fun x => !ltF x E[a]!) E I2 w = J2) (fun v hv ih => ?_) jb ⟨by omega, by omega, h2⟩
    obtain ⟨u0, u1, u2⟩ := hv
    by_cases hlt : I2 ≤ v
    case neg =>
      have u3 : Sort.scanDown (fun x => !ltF x E[a]!) E I2 v = v := by
        cases v with
        | zero => rfl
        | succ v => rw [Sort.scanDown, if_neg (by simp [hlt])]
      rw [u3] at u2
      clear u3
      rw [u2] at hlt u0 u1
      rw [u2]
      clear ih
      refine VS.of_V T_ok mixed rfl ?_
      ((repeat ((conv => whnf); (first | (refine As.pre ?_; first | refine As.mk rfl ?_) | (refine LetB.pre ?_; first | refine LetB.decf (by omega) ?_) | (refine Gd.pre ?_; first | refine Gd.pass rfl ?_) | (refine Br.pre ?_; first | refine Br.ff rfl ?_) | (refine Ck.pre ?_; first | refine Ck.drawn (by kernel_rfl) ?_ | refine Ck.mk rfl ?_)))); (try (conv => whnf)))
      exact ⟨rfl, (), trivial, SW.mk id rfl rfl (namesAll.row (pure_fa _) rfl) ⟨.refl _, .refl _, .refl _, .refl _, .refl _, trivial⟩ (haveV.row (pure_fa _) rfl trivial)⟩
    obtain ⟨v, rfl⟩ : ∃ k, v = k + 1 := ⟨v - 1, by omega⟩
    have hld1 := ldD (D := E) (i := (v + 1)) (by omega)
    have hld2 := ldD (D := E) (i := a) (by omega)
    have hm := sizeD E
    have hcmp := compareF_f E[(v + 1)]! E[a]!
    have hg : (if ltF E[v + 1]! E[a]! = true then v + 1 else Sort.scanDown (fun x => !ltF x E[a]!) E I2 v) = J2 := by
      rw [← u2, Sort.scanDown]
      simp only [hlt, decide_true, Bool.true_and]
      cases ltF E[v + 1]! E[a]! <;> rfl
    clear u2
    obtain ⟨x, hx⟩ : ∃ x, x = E[(v + 1)]! := ⟨_, rfl⟩
    obtain ⟨y, hy⟩ : ∃ y, y = E[a]! := ⟨_, rfl⟩
    rw [← hx] at hld1
    rw [← hy] at hld2
    rw [← hx, ← hy] at hcmp
    have hl : ltF E[(v + 1)]! E[a]! = decide (cmpF x y < 0) := by rw [hx, hy]; rfl
    rw [hl] at hg
    clear hl hx hy
    generalize cmpF x y = r at hcmp hg
    by_cases hr : r < 0
    case pos =>
      rw [if_pos (decide_eq_true hr)] at hg
      rw [hg] at hld1 hlt u0 u1
      rw [hg]
      clear ih hg
      refine VS.of_V T_ok mixed rfl ?_
      ((repeat ((conv => whnf); (first | (refine As.pre ?_; first | refine As.mk rfl ?_ | (refine As.mk ?_ ?_; · ((repeat' (refine andT ?_ ?_)) <;> (first | rfl | assumption | exact decide_eq_true (by omega) | exact decide_eq_true (by dsimp only; omega) | exact decide_eq_true (by simp; omega) | (simp; done))))) | (refine LetV.pre ?_; first | refine LetV.mk (t := fty) _ hld1 ?_ | refine LetV.mk (t := fty) _ hld2 ?_) | (refine LetB.pre ?_; first | refine LetB.dect (by omega) ?_) | (refine Gd.pre ?_; first | refine Gd.run rfl ?_) | (refine Br.pre ?_; first | refine Br.ff rfl ?_) | (refine Ck.pre ?_; first | refine Ck.drawn (by kernel_rfl) ?_ | refine Ck.mk rfl ?_) | (refine CallN.pre ?_; first | refine CallN.pure hcmp rfl rfl ?_)))); (try (conv => whnf)))
      exact ⟨rfl, (), trivial, SW.mk id rfl rfl (namesAll.row (pure_fa _) rfl) ⟨.refl _, .refl _, .refl _, .refl _, .refl _, trivial⟩ (haveV.row (pure_fa _) rfl trivial)⟩
    case neg =>
      rw [if_neg (by simpa using hr)] at hg
      have hnx := ih v ⟨by omega, by omega, hg⟩ (by omega)
      clear ih hg
      refine VS.of_V T_ok mixed rfl ?_
      ((repeat ((conv => whnf); (first | (refine As.pre ?_; first | refine As.mk rfl ?_ | (refine As.mk ?_ ?_; · ((repeat' (refine andT ?_ ?_)) <;> (first | rfl | assumption | exact decide_eq_true (by omega) | exact decide_eq_true (by dsimp only; omega) | exact decide_eq_true (by simp; omega) | (simp; done))))) | (refine LetV.pre ?_; first | refine LetV.mk (t := fty) _ hld1 ?_ | refine LetV.mk (t := fty) _ hld2 ?_) | (refine LetI.pre ?_; first | refine LetI.wrap (by omega) (by omega) ?_) | (refine LetB.pre ?_; first | refine LetB.dect (by omega) ?_ | refine LetB.decf (by omega) ?_) | (refine Gd.pre ?_; first | refine Gd.run rfl ?_) | (refine Br.pre ?_; first | refine Br.tt rfl ?_) | (refine Ck.pre ?_; first | refine Ck.drawn (by kernel_rfl) ?_ | refine Ck.mk rfl ?_) | (refine CallN.pre ?_; first | refine CallN.pure hcmp rfl rfl ?_)))); (try (conv => whnf)))
      refine LoopN.weak ?sws hnx
      case sws => exact SW.mk id rfl rfl (namesAll.row (pure_fa _) rfl) ⟨.refl _, .refl _, .refl _, .refl _, VLe2.int (by omega), trivial⟩ (haveV.row (pure_fa _) rfl trivial)
  rintro _ -
  by_cases hgt : I2 > J2
  · rw [if_pos hgt] at hF
    injection hF with e1 hF
    injection hF with e2 e3
    subst e1; subst e2; subst e3
    have hldi := ldD (D := E) (i := mid) (by omega)
    have hldj := ldD (D := E) (i := a) (by omega)
    have hs1 := setD E mid E[a]!
    have hs2 := swpD E mid a
    have hzF := swp_size E mid a
    have hz2 := sizeS E mid E[a]!
    have hm := sizeD E
    obtain ⟨F, hF⟩ : ∃ zz, zz = Sort.swp E mid a := ⟨_, rfl⟩
    rw [← hF] at hs2 hzF
    generalize E.setIfInBounds mid E[a]! = E2 at hs1 hs2 hz2
    generalize E[mid]! = x at hldi hs2
    generalize E[a]! = y at hldj hs1
    refine VS.cut T_ok mixed rfl ?_
    ((repeat ((conv => whnf); (first | (refine LetN.pre ?_; first | ((conv => arg 1; whnf); refine LetN.mk ?_)) | (refine As.pre ?_; first | refine As.mk rfl ?_ | (refine As.mk ?_ ?_; · ((repeat' (refine andT ?_ ?_)) <;> (first | rfl | assumption | exact decide_eq_true (by omega) | exact decide_eq_true (by dsimp only; omega) | exact decide_eq_true (by simp; omega) | (simp; done))))) | (refine LetV.pre ?_; first | refine LetV.mk (t := fty) _ hldi ?_ | refine LetV.mk (t := fty) _ hldj ?_) | (refine LetB.pre ?_; first | refine LetB.dect (by omega) ?_) | (refine Br.pre ?_; first | refine Br.tt rfl ?_) | (refine Ck.pre ?_; first | refine Ck.drawn (by kernel_rfl) ?_ | refine Ck.mk rfl ?_) | (refine LetL.pre ?_; first | refine LetL.mk (ty := fty) _ hs1 ?_ | refine LetL.mk (ty := fty) _ hs2 ?_)))); (try (conv => whnf)))




    clear hldi hldj hs1 hs2 hz2 hm
    exact ⟨paZ mid true F, SW.mk id rfl rfl (namesAll.row (pure_fa _) rfl) ⟨.refl _, .refl _, trivial⟩ (haveV.row (pure_fa _) rfl trivial), .inl rfl, ⟨_, rfl, rfl⟩, congrArg (fun x => some (rwD x)) hF, trivial⟩
  rw [if_neg hgt] at hF
  have hij := p_lt a (a + 1) jb E (Nat.succ_pos _) h1 h2 (by omega)
  refine VS.cut T_ok mixed rfl ?_
  ((repeat ((conv => whnf); (first | (refine As.pre ?_; first | refine As.mk rfl ?_) | (refine LetB.pre ?_; first | refine LetB.decf (by omega) ?_) | (refine Br.pre ?_; first | refine Br.ff rfl ?_) | (refine Ck.pre ?_; first | refine Ck.mk rfl ?_)))); (try (conv => whnf)))
  have hldi := ldD (D := E) (i := I2) (by omega)
  have hldj := ldD (D := E) (i := J2) (by omega)
  have hs1 := setD E I2 E[J2]!
  have hs2 := swpD E I2 J2
  have hzF := swp_size E I2 J2
  have hz2 := sizeS E I2 E[J2]!
  have hm := sizeD E
  obtain ⟨F, hF'⟩ : ∃ zz, zz = Sort.swp E I2 J2 := ⟨_, rfl⟩
  rw [← hF'] at hs2 hzF
  generalize E.setIfInBounds I2 E[J2]! = E2 at hs1 hs2 hz2
  generalize E[I2]! = x at hldi hs2
  generalize E[J2]! = y at hldj hs1
  refine VS.cut T_ok mixed rfl ?_
  ((repeat ((conv => whnf); (first | (refine LetN.pre ?_; first | ((conv => arg 1; whnf); refine LetN.mk ?_)) | (refine As.pre ?_; first | refine As.mk rfl ?_ | (refine As.mk ?_ ?_; · ((repeat' (refine andT ?_ ?_)) <;> (first | rfl | assumption | exact decide_eq_true (by omega) | exact decide_eq_true (by dsimp only; omega) | exact decide_eq_true (by simp; omega) | (simp; done))))) | (refine LetV.pre ?_; first | refine LetV.mk (t := fty) _ hldi ?_ | refine LetV.mk (t := fty) _ hldj ?_) | (refine Ck.pre ?_; first | refine Ck.drawn (by kernel_rfl) ?_ | refine Ck.mk rfl ?_) | (refine LetL.pre ?_; first | refine LetL.mk (ty := fty) _ hs1 ?_ | refine LetL.mk (ty := fty) _ hs2 ?_)))); (try (conv => whnf)))




  clear hldi hldj hs1 hs2 hz2 hm
  rw [← hF'] at hF
  refine VS.cut T_ok mixed rfl ?_
  ((repeat ((conv => whnf); (first | (refine As.pre ?_; first | refine As.mk rfl ?_) | (refine LetI.pre ?_; first | refine LetI.wrap (by omega) (by omega) ?_) | (refine Ck.pre ?_; first | refine Ck.mk rfl ?_)))); (try (conv => whnf)))
  refine VS.cut T_ok mixed rfl ?_
  ((repeat ((conv => whnf); (first | (refine As.pre ?_; first | refine As.mk rfl ?_) | (refine LetI.pre ?_; first | refine LetI.wrap (by omega) (by omega) ?_) | (refine Ck.pre ?_; first | refine Ck.mk rfl ?_)))); (try (conv => whnf)))
  refine VS.weak (s1 := paS n fl a (I2 + 1) (J2 - 1) F) ?sw2 ?_
  case sw2 => exact SW.mk id rfl rfl (namesAll.row (pure_fa _) rfl) ⟨.refl _, .refl _, .refl _, VLe2.int (by omega), VLe2.int (by omega), trivial⟩ (haveV.row (pure_fa _) rfl trivial)
  obtain ⟨⟨J, G⟩, hL⟩ : ∃ r, Sort.partLoop ltF a (I2 + 1) (J2 - 1) F = r := ⟨_, rfl⟩
  rw [hL] at hF
  injection hF with e1 hF
  injection hF with e2 e3
  dsimp only at e1 e3
  subst e1; subst e2
  refine VS.joinN (fun _ : Unit => paT n fl a mid G) (fun _ => G.size = n ∧ mid < n) ?_ ?_
  case refine_1 =>
    refine VS.block (VS.loop ?_)
    refine LoopN.indS (S := fun v : Nat × Nat × Array Fa => paS n fl a v.1 v.2.1 v.2.2) (fun v => v.2.1 + 1 - v.1) (fun v => a < v.1 ∧ v.1 ≤ v.2.1 + 1 ∧ v.2.1 < n ∧ v.2.2.size = n ∧ Sort.partLoop ltF a v.1 v.2.1 v.2.2 = (mid, G)) (fun v hv ihL => ?_) (I2 + 1, J2 - 1, F) ⟨by dsimp only; omega, by dsimp only; omega, by dsimp only; omega, by dsimp only; omega, hL⟩
    obtain ⟨i, j, M⟩ := v
    obtain ⟨v0, v1, v2, v3, v4⟩ := hv
    dsimp only at v0 v1 v2 v3 v4 ihL
    clear h1 h2 hin hL hij hgt
    obtain ⟨I3, h1⟩ : ∃ r, Sort.scanUp (fun x => ltF x M[a]!) M j i = r := ⟨_, rfl⟩
    obtain ⟨J3, h2⟩ : ∃ r, Sort.scanDown (fun x => !ltF x M[a]!) M I3 j = r := ⟨_, rfl⟩
    have hin := scans_in a i j M h1 h2 (by omega)
    refine VS.block ?_
    refine VS.joinN (fun _ : Unit => paS n fl a I3 j M) (fun _ => True) ?_ ?_
    case refine_1 =>
      refine VS.block (VS.loop ?_)
      refine LoopN.indS (S := fun v => paS n fl a v j M) (fun w => j + 1 - w) (fun w => a < w ∧ w ≤ j + 1 ∧ Sort.scanUp (fun x => ltF x M[a]!) M j w = I3) (fun v hv ih => ?_) i ⟨by omega, by omega, h1⟩
      obtain ⟨u0, u1, u2⟩ := hv
      rw [Sort.scanUp] at u2
      by_cases hlt : v ≤ j
      case neg =>
        rw [if_neg (by simp [hlt])] at u2
        rw [u2] at hlt u0 u1
        rw [u2]
        clear ih
        refine VS.of_V T_ok mixed rfl ?_
        ((repeat ((conv => whnf); (first | (refine As.pre ?_; first | refine As.mk rfl ?_) | (refine LetB.pre ?_; first | refine LetB.decf (by omega) ?_) | (refine Gd.pre ?_; first | refine Gd.pass rfl ?_) | (refine Br.pre ?_; first | refine Br.ff rfl ?_) | (refine Ck.pre ?_; first | refine Ck.drawn (by kernel_rfl) ?_ | refine Ck.mk rfl ?_)))); (try (conv => whnf)))
        exact ⟨rfl, (), trivial, SW.mk id rfl rfl (namesAll.row (pure_fa _) rfl) ⟨.refl _, .refl _, .refl _, .refl _, .refl _, trivial⟩ (haveV.row (pure_fa _) rfl trivial)⟩
      have hld1 := ldD (D := M) (i := v) (by omega)
      have hld2 := ldD (D := M) (i := a) (by omega)
      have hm := sizeD M
      have hcmp := compareF_f M[v]! M[a]!
      have hg : (if ltF M[v]! M[a]! = true then Sort.scanUp (fun x => ltF x M[a]!) M j (v + 1) else v) = I3 := by
        rw [← u2]
        simp only [hlt, decide_true, Bool.true_and]
      clear u2
      obtain ⟨x, hx⟩ : ∃ x, x = M[v]! := ⟨_, rfl⟩
      obtain ⟨y, hy⟩ : ∃ y, y = M[a]! := ⟨_, rfl⟩
      rw [← hx] at hld1
      rw [← hy] at hld2
      rw [← hx, ← hy] at hcmp
      have hl : ltF M[v]! M[a]! = decide (cmpF x y < 0) := by rw [hx, hy]; rfl
      rw [hl] at hg
      clear hl hx hy
      generalize cmpF x y = r at hcmp hg
      by_cases hr : r < 0
      case pos =>
        rw [if_pos (decide_eq_true hr)] at hg
        have hnx := ih (v + 1) ⟨by omega, by omega, hg⟩ (by omega)
        clear ih hg
        refine VS.of_V T_ok mixed rfl ?_
        ((repeat ((conv => whnf); (first | (refine As.pre ?_; first | refine As.mk rfl ?_ | (refine As.mk ?_ ?_; · ((repeat' (refine andT ?_ ?_)) <;> (first | rfl | assumption | exact decide_eq_true (by omega) | exact decide_eq_true (by dsimp only; omega) | exact decide_eq_true (by simp; omega) | (simp; done))))) | (refine LetV.pre ?_; first | refine LetV.mk (t := fty) _ hld1 ?_ | refine LetV.mk (t := fty) _ hld2 ?_) | (refine LetI.pre ?_; first | refine LetI.wrap (by omega) (by omega) ?_) | (refine LetB.pre ?_; first | refine LetB.dect (by omega) ?_) | (refine Gd.pre ?_; first | refine Gd.run rfl ?_) | (refine Br.pre ?_; first | refine Br.tt rfl ?_) | (refine Ck.pre ?_; first | refine Ck.drawn (by kernel_rfl) ?_ | refine Ck.mk rfl ?_) | (refine CallN.pre ?_; first | refine CallN.pure hcmp rfl rfl ?_)))); (try (conv => whnf)))
        refine LoopN.weak ?sws hnx
        case sws => exact SW.mk id rfl rfl (namesAll.row (pure_fa _) rfl) ⟨.refl _, .refl _, .refl _, VLe2.int (by omega), .refl _, trivial⟩ (haveV.row (pure_fa _) rfl trivial)
      case neg =>
        rw [if_neg (by simpa using hr)] at hg
        rw [hg] at hld1 hlt u0 u1
        rw [hg]
        clear ih hg
        refine VS.of_V T_ok mixed rfl ?_
        ((repeat ((conv => whnf); (first | (refine As.pre ?_; first | refine As.mk rfl ?_ | (refine As.mk ?_ ?_; · ((repeat' (refine andT ?_ ?_)) <;> (first | rfl | assumption | exact decide_eq_true (by omega) | exact decide_eq_true (by dsimp only; omega) | exact decide_eq_true (by simp; omega) | (simp; done))))) | (refine LetV.pre ?_; first | refine LetV.mk (t := fty) _ hld1 ?_ | refine LetV.mk (t := fty) _ hld2 ?_) | (refine LetB.pre ?_; first | refine LetB.dect (by omega) ?_ | refine LetB.decf (by omega) ?_) | (refine Gd.pre ?_; first | refine Gd.run rfl ?_) | (refine Br.pre ?_; first | refine Br.ff rfl ?_) | (refine Ck.pre ?_; first | refine Ck.drawn (by kernel_rfl) ?_ | refine Ck.mk rfl ?_) | (refine CallN.pre ?_; first | refine CallN.pure hcmp rfl rfl ?_)))); (try (conv => whnf)))
        exact ⟨rfl, (), trivial, SW.mk id rfl rfl (namesAll.row (pure_fa _) rfl) ⟨.refl _, .refl _, .refl _, .refl _, .refl _, trivial⟩ (haveV.row (pure_fa _) rfl trivial)⟩
    rintro _ -
    refine VS.joinN (fun _ : Unit => paS n fl a I3 J3 M) (fun _ => True) ?_ ?_
    case refine_1 =>
      refine VS.block (VS.loop ?_)
      refine LoopN.indS (S := fun v => paS n fl a I3 v M) (fun w => w) (fun w => w ≤ j ∧ I3 ≤ w + 1 ∧ Sort.scanDown (fun x => !ltF x M[a]!) M I3 w = J3) (fun v hv ih => ?_) j ⟨by omega, by omega, h2⟩
      obtain ⟨u0, u1, u2⟩ := hv
      by_cases hlt : I3 ≤ v
      case neg =>
        have u3 : Sort.scanDown (fun x => !ltF x M[a]!) M I3 v = v := by
          cases v with
          | zero => rfl
          | succ v => rw [Sort.scanDown, if_neg (by simp [hlt])]
        rw [u3] at u2
        clear u3
        rw [u2] at hlt u0 u1
        rw [u2]
        clear ih
        refine VS.of_V T_ok mixed rfl ?_
        ((repeat ((conv => whnf); (first | (refine As.pre ?_; first | refine As.mk rfl ?_) | (refine LetB.pre ?_; first | refine LetB.decf (by omega) ?_) | (refine Gd.pre ?_; first | refine Gd.pass rfl ?_) | (refine Br.pre ?_; first | refine Br.ff rfl ?_) | (refine Ck.pre ?_; first | refine Ck.drawn (by kernel_rfl) ?_ | refine Ck.mk rfl ?_)))); (try (conv => whnf)))
        exact ⟨rfl, (), trivial, SW.mk id rfl rfl (namesAll.row (pure_fa _) rfl) ⟨.refl _, .refl _, .refl _, .refl _, .refl _, trivial⟩ (haveV.row (pure_fa _) rfl trivial)⟩
      obtain ⟨v, rfl⟩ : ∃ k, v = k + 1 := ⟨v - 1, by omega⟩
      have hld1 := ldD (D := M) (i := (v + 1)) (by omega)
      have hld2 := ldD (D := M) (i := a) (by omega)
      have hm := sizeD M
      have hcmp := compareF_f M[(v + 1)]! M[a]!
      have hg : (if ltF M[v + 1]! M[a]! = true then v + 1 else Sort.scanDown (fun x => !ltF x M[a]!) M I3 v) = J3 := by
        rw [← u2, Sort.scanDown]
        simp only [hlt, decide_true, Bool.true_and]
        cases ltF M[v + 1]! M[a]! <;> rfl
      clear u2
      obtain ⟨x, hx⟩ : ∃ x, x = M[(v + 1)]! := ⟨_, rfl⟩
      obtain ⟨y, hy⟩ : ∃ y, y = M[a]! := ⟨_, rfl⟩
      rw [← hx] at hld1
      rw [← hy] at hld2
      rw [← hx, ← hy] at hcmp
      have hl : ltF M[(v + 1)]! M[a]! = decide (cmpF x y < 0) := by rw [hx, hy]; rfl
      rw [hl] at hg
      clear hl hx hy
      generalize cmpF x y = r at hcmp hg
      by_cases hr : r < 0
      case pos =>
        rw [if_pos (decide_eq_true hr)] at hg
        rw [hg] at hld1 hlt u0 u1
        rw [hg]
        clear ih hg
        refine VS.of_V T_ok mixed rfl ?_
        ((repeat ((conv => whnf); (first | (refine As.pre ?_; first | refine As.mk rfl ?_ | (refine As.mk ?_ ?_; · ((repeat' (refine andT ?_ ?_)) <;> (first | rfl | assumption | exact decide_eq_true (by omega) | exact decide_eq_true (by dsimp only; omega) | exact decide_eq_true (by simp; omega) | (simp; done))))) | (refine LetV.pre ?_; first | refine LetV.mk (t := fty) _ hld1 ?_ | refine LetV.mk (t := fty) _ hld2 ?_) | (refine LetB.pre ?_; first | refine LetB.dect (by omega) ?_) | (refine Gd.pre ?_; first | refine Gd.run rfl ?_) | (refine Br.pre ?_; first | refine Br.ff rfl ?_) | (refine Ck.pre ?_; first | refine Ck.drawn (by kernel_rfl) ?_ | refine Ck.mk rfl ?_) | (refine CallN.pre ?_; first | refine CallN.pure hcmp rfl rfl ?_)))); (try (conv => whnf)))
        exact ⟨rfl, (), trivial, SW.mk id rfl rfl (namesAll.row (pure_fa _) rfl) ⟨.refl _, .refl _, .refl _, .refl _, .refl _, trivial⟩ (haveV.row (pure_fa _) rfl trivial)⟩
      case neg =>
        rw [if_neg (by simpa using hr)] at hg
        have hnx := ih v ⟨by omega, by omega, hg⟩ (by omega)
        clear ih hg
        refine VS.of_V T_ok mixed rfl ?_
        ((repeat ((conv => whnf); (first | (refine As.pre ?_; first | refine As.mk rfl ?_ | (refine As.mk ?_ ?_; · ((repeat' (refine andT ?_ ?_)) <;> (first | rfl | assumption | exact decide_eq_true (by omega) | exact decide_eq_true (by dsimp only; omega) | exact decide_eq_true (by simp; omega) | (simp; done))))) | (refine LetV.pre ?_; first | refine LetV.mk (t := fty) _ hld1 ?_ | refine LetV.mk (t := fty) _ hld2 ?_) | (refine LetI.pre ?_; first | refine LetI.wrap (by omega) (by omega) ?_) | (refine LetB.pre ?_; first | refine LetB.dect (by omega) ?_ | refine LetB.decf (by omega) ?_) | (refine Gd.pre ?_; first | refine Gd.run rfl ?_) | (refine Br.pre ?_; first | refine Br.tt rfl ?_) | (refine Ck.pre ?_; first | refine Ck.drawn (by kernel_rfl) ?_ | refine Ck.mk rfl ?_) | (refine CallN.pre ?_; first | refine CallN.pure hcmp rfl rfl ?_)))); (try (conv => whnf)))
        refine LoopN.weak ?sws hnx
        case sws => exact SW.mk id rfl rfl (namesAll.row (pure_fa _) rfl) ⟨.refl _, .refl _, .refl _, .refl _, VLe2.int (by omega), trivial⟩ (haveV.row (pure_fa _) rfl trivial)
    rintro _ -
    by_cases hgt : I3 > J3
    · rw [p_break a i j M h1 h2 hgt] at v4
      injection v4 with e1 e4
      subst e1; subst e4
      clear ihL
      refine VS.cut T_ok mixed rfl ?_
      ((repeat ((conv => whnf); (first | (refine As.pre ?_; first | refine As.mk rfl ?_) | (refine LetB.pre ?_; first | refine LetB.dect (by omega) ?_) | (refine Br.pre ?_; first | refine Br.tt rfl ?_) | (refine Ck.pre ?_; first | refine Ck.mk rfl ?_)))); (try (conv => whnf)))
      exact ⟨rfl, (), ⟨v3, by omega⟩, SW.mk id rfl rfl (namesAll.row (pure_fa _) rfl) ⟨.refl _, .refl _, .refl _, trivial⟩ (haveV.row (pure_fa _) rfl trivial)⟩
    have hij := p_lt a i j M (by omega) h1 h2 (by omega)
    rw [p_go a i j M h1 h2 hgt] at v4
    refine VS.cut T_ok mixed rfl ?_
    ((repeat ((conv => whnf); (first | (refine As.pre ?_; first | refine As.mk rfl ?_) | (refine LetB.pre ?_; first | refine LetB.decf (by omega) ?_) | (refine Br.pre ?_; first | refine Br.ff rfl ?_) | (refine Ck.pre ?_; first | refine Ck.mk rfl ?_)))); (try (conv => whnf)))
    have hldi := ldD (D := M) (i := I3) (by omega)
    have hldj := ldD (D := M) (i := J3) (by omega)
    have hs1 := setD M I3 M[J3]!
    have hs2 := swpD M I3 J3
    have hzM2 := swp_size M I3 J3
    have hz2 := sizeS M I3 M[J3]!
    have hm := sizeD M
    obtain ⟨M2, hM2⟩ : ∃ zz, zz = Sort.swp M I3 J3 := ⟨_, rfl⟩
    rw [← hM2] at hs2 hzM2
    generalize M.setIfInBounds I3 M[J3]! = E2 at hs1 hs2 hz2
    generalize M[I3]! = x at hldi hs2
    generalize M[J3]! = y at hldj hs1
    refine VS.cut T_ok mixed rfl ?_
    ((repeat ((conv => whnf); (first | (refine LetN.pre ?_; first | ((conv => arg 1; whnf); refine LetN.mk ?_)) | (refine As.pre ?_; first | refine As.mk rfl ?_ | (refine As.mk ?_ ?_; · ((repeat' (refine andT ?_ ?_)) <;> (first | rfl | assumption | exact decide_eq_true (by omega) | exact decide_eq_true (by dsimp only; omega) | exact decide_eq_true (by simp; omega) | (simp; done))))) | (refine LetV.pre ?_; first | refine LetV.mk (t := fty) _ hldi ?_ | refine LetV.mk (t := fty) _ hldj ?_) | (refine Ck.pre ?_; first | refine Ck.drawn (by kernel_rfl) ?_ | refine Ck.mk rfl ?_) | (refine LetL.pre ?_; first | refine LetL.mk (ty := fty) _ hs1 ?_ | refine LetL.mk (ty := fty) _ hs2 ?_)))); (try (conv => whnf)))




    clear hldi hldj hs1 hs2 hz2 hm
    rw [← hM2] at v4
    have hnx := ihL (I3 + 1, J3 - 1, M2) ⟨by dsimp only; omega, by show I3 + 1 ≤ J3 - 1 + 1; omega, by show J3 - 1 < n; omega, by dsimp only; omega, v4⟩ (by show J3 - 1 + 1 - (I3 + 1) < j + 1 - i; omega)
    clear ihL
    refine VS.of_V T_ok mixed rfl ?_
    ((repeat ((conv => whnf); (first | (refine As.pre ?_; first | refine As.mk rfl ?_) | (refine LetI.pre ?_; first | refine LetI.wrap (by omega) (by omega) ?_) | (refine Ck.pre ?_; first | refine Ck.mk rfl ?_)))); (try (conv => whnf)))
    refine LoopN.weak ?sw5 hnx
    case sw5 => exact SW.mk id rfl rfl (namesAll.row (pure_fa _) rfl) ⟨.refl _, .refl _, .refl _, VLe2.int (by dsimp only; omega), VLe2.int (by dsimp only; omega), trivial⟩ (haveV.row (pure_fa _) rfl trivial)
  rintro _ ⟨hGn, hmid⟩
  clear h1 h2 hin hL hij hgt
  have hldi := ldD (D := G) (i := mid) (by omega)
  have hldj := ldD (D := G) (i := a) (by omega)
  have hs1 := setD G mid G[a]!
  have hs2 := swpD G mid a
  have hzR2 := swp_size G mid a
  have hz2 := sizeS G mid G[a]!
  have hm := sizeD G
  obtain ⟨R2, hR2⟩ : ∃ zz, zz = Sort.swp G mid a := ⟨_, rfl⟩
  rw [← hR2] at hs2 hzR2
  generalize G.setIfInBounds mid G[a]! = E2 at hs1 hs2 hz2
  generalize G[mid]! = x at hldi hs2
  generalize G[a]! = y at hldj hs1
  refine VS.cut T_ok mixed rfl ?_
  ((repeat ((conv => whnf); (first | (refine LetN.pre ?_; first | ((conv => arg 1; whnf); refine LetN.mk ?_)) | (refine As.pre ?_; first | refine As.mk rfl ?_ | (refine As.mk ?_ ?_; · ((repeat' (refine andT ?_ ?_)) <;> (first | rfl | assumption | exact decide_eq_true (by omega) | exact decide_eq_true (by dsimp only; omega) | exact decide_eq_true (by simp; omega) | (simp; done))))) | (refine LetV.pre ?_; first | refine LetV.mk (t := fty) _ hldi ?_ | refine LetV.mk (t := fty) _ hldj ?_) | (refine Ck.pre ?_; first | refine Ck.drawn (by kernel_rfl) ?_ | refine Ck.mk rfl ?_) | (refine LetL.pre ?_; first | refine LetL.mk (ty := fty) _ hs1 ?_ | refine LetL.mk (ty := fty) _ hs2 ?_)))); (try (conv => whnf)))




  clear hldi hldj hs1 hs2 hz2 hm
  refine VS.of_V T_ok mixed rfl ?_
  ((repeat ((conv => whnf); (first | (refine As.pre ?_; first | refine As.mk rfl ?_) | (refine Ck.pre ?_; first | refine Ck.mk rfl ?_)))); (try (conv => whnf)))
  exact ⟨paZ mid false R2, SW.mk id rfl rfl (namesAll.row (pure_fa _) rfl) ⟨.refl _, .refl _, trivial⟩ (haveV.row (pure_fa _) rfl trivial), .inl rfl, ⟨_, rfl, rfl⟩, congrArg (fun x => some (rwD x)) (hR2.trans e3.symm), trivial⟩
end En
end Go.Proofs.YtgnakhljdjekbaaGreatDoor
namespace Go.Proofs.YtgnakhljdjekbaaGreatDoor
open Go.Proofs.YtgnakhljdjekbaaGreatDoor.Am
set_option maxRecDepth 100000
namespace En
/-! ### breakPatterns for 13 to 16 facts: the drawn places are numbers -/
abbrev xty : TypeId := 168
def xo (a b : Int) : Int := IntKind.u64.wrap ((BitVec.ofInt 64 a ^^^ BitVec.ofInt 64 b).toNat)
def nxI (x : Int) : Int :=
  let a := xo x (IntKind.u64.wrap (x * 2 ^ 13))
  let b := xo a (a.fdiv (2 ^ 7))
  xo b (IntKind.u64.wrap (b * 2 ^ 17))
abbrev xBx (x : Int) : Blk := .row 1 xty [u64 x]
abbrev xnS (x : Int) : AS := ⟨[(0, .ptr 0 1 0 0)], [(0, xBx x)], 1⟩
set_option maxHeartbeats 1600000 in
set_option maxRecDepth 100000 in
theorem xNext_f (x : Int) : AFun Tryz.prog 138 1 [.ptr 0 1 0 0] [(0, xBx x)] (u64 (nxI x)) [(0, xBx (nxI x))] := by
  obtain ⟨a, ha⟩ : ∃ a, a = xo x (IntKind.u64.wrap (x * 2 ^ 13)) := ⟨_, rfl⟩
  obtain ⟨b, hb⟩ : ∃ b, b = xo a (a.fdiv (2 ^ 7)) := ⟨_, rfl⟩
  obtain ⟨c, hc⟩ : ∃ c, c = xo b (IntKind.u64.wrap (b * 2 ^ 17)) := ⟨_, rfl⟩
  have hn : nxI x = c := by rw [hc, hb, ha]; rfl
  rw [hn]
  clear hn
  refine AFun.of_VS T_ok Tryz.func138 rfl (Nat.le_of_ble_eq_true rfl) ?_
  refine VS.cut T_ok mixed rfl ?_
  ((repeat ((conv => whnf); (first | (refine As.pre ?_; first | refine As.mk rfl ?_) | (refine Ck.pre ?_; first | refine Ck.mk rfl ?_)))); (try (conv => whnf)))
  refine VS.cut T_ok mixed rfl ?_
  ((repeat ((conv => whnf); (first | (refine LetN.pre ?_; first | ((conv => arg 1; whnf); refine LetN.mk ?_)) | (refine As.pre ?_; first | refine As.mk rfl ?_) | (refine LetV.pre ?_; first | refine LetV.mk (.sc (.int _ _)) rfl ?_) | (refine LetI.pre ?_; first | refine LetI.mk _ rfl ?_) | (refine Ck.pre ?_; first | refine Ck.drawn (by kernel_rfl) ?_ | refine Ck.mk rfl ?_) | (refine LetL.pre ?_; first | refine LetL.mk [_] rfl ?_)))); (try (conv => whnf)))
  refine VS.weak (s1 := xnS a) ?sw1 ?_
  case sw1 => exact SW.mk id rfl rfl (namesAll.row rfl rfl) ⟨.refl _, trivial⟩ (haveV.row rfl (by rw [ha]; rfl) trivial)
  clear ha
  refine VS.cut T_ok mixed rfl ?_
  ((repeat ((conv => whnf); (first | (refine LetN.pre ?_; first | ((conv => arg 1; whnf); refine LetN.mk ?_)) | (refine As.pre ?_; first | refine As.mk rfl ?_) | (refine LetV.pre ?_; first | refine LetV.mk (.sc (.int _ _)) rfl ?_) | (refine LetI.pre ?_; first | refine LetI.mk _ rfl ?_) | (refine Ck.pre ?_; first | refine Ck.drawn (by kernel_rfl) ?_ | refine Ck.mk rfl ?_) | (refine LetL.pre ?_; first | refine LetL.mk [_] rfl ?_)))); (try (conv => whnf)))
  refine VS.weak (s1 := xnS b) ?sw2 ?_
  case sw2 => exact SW.mk id rfl rfl (namesAll.row rfl rfl) ⟨.refl _, trivial⟩ (haveV.row rfl (by rw [hb]; rfl) trivial)
  clear hb
  refine VS.cut T_ok mixed rfl ?_
  ((repeat ((conv => whnf); (first | (refine LetN.pre ?_; first | ((conv => arg 1; whnf); refine LetN.mk ?_)) | (refine As.pre ?_; first | refine As.mk rfl ?_) | (refine LetV.pre ?_; first | refine LetV.mk (.sc (.int _ _)) rfl ?_) | (refine LetI.pre ?_; first | refine LetI.mk _ rfl ?_) | (refine Ck.pre ?_; first | refine Ck.drawn (by kernel_rfl) ?_ | refine Ck.mk rfl ?_) | (refine LetL.pre ?_; first | refine LetL.mk [_] rfl ?_)))); (try (conv => whnf)))
  refine VS.weak (s1 := xnS c) ?sw3 ?_
  case sw3 => exact SW.mk id rfl rfl (namesAll.row rfl rfl) ⟨.refl _, trivial⟩ (haveV.row rfl (by rw [hc]; rfl) trivial)
  clear hc
  refine VS.of_V T_ok mixed rfl ?_
  ((repeat ((conv => whnf); (first | (refine As.pre ?_; first | refine As.mk rfl ?_) | (refine LetV.pre ?_; first | refine LetV.mk (.sc (.int _ _)) rfl ?_) | (refine Ck.pre ?_; first | refine Ck.mk rfl ?_)))); (try (conv => whnf)))
  exact ⟨⟨[(2, u64 c)], [(0, xBx c)], 1⟩, SW.mk id rfl rfl (namesAll.row rfl rfl) ⟨.refl _, trivial⟩ (haveV.row rfl rfl trivial), .inl rfl, ⟨_, rfl, rfl⟩, rfl, trivial⟩
theorem npow_f : ∀ l : Nat, 13 ≤ l ∧ l ≤ 16 → AFun Tryz.prog 137 0 [int l] [] (u64 ((1 <<< Sort.bitsLen l : Nat) : Int)) []
  | 13, _ => AFun.of_calls (evF_sound T_ok mixed 20 _ _ [] 0 _ (by kernel_rfl))
  | 14, _ => AFun.of_calls (evF_sound T_ok mixed 20 _ _ [] 0 _ (by kernel_rfl))
  | 15, _ => AFun.of_calls (evF_sound T_ok mixed 20 _ _ [] 0 _ (by kernel_rfl))
  | 16, _ => AFun.of_calls (evF_sound T_ok mixed 20 _ _ [] 0 _ (by kernel_rfl))
  | 0, h => absurd h (by omega)
  | 1, h => absurd h (by omega)
  | 2, h => absurd h (by omega)
  | 3, h => absurd h (by omega)
  | 4, h => absurd h (by omega)
  | 5, h => absurd h (by omega)
  | 6, h => absurd h (by omega)
  | 7, h => absurd h (by omega)
  | 8, h => absurd h (by omega)
  | 9, h => absurd h (by omega)
  | 10, h => absurd h (by omega)
  | 11, h => absurd h (by omega)
  | 12, h => absurd h (by omega)
  | n + 17, h => absurd h (by omega)
/-- One place that is drawn. -/
def ot0 (l : Nat) (x : Int) : Nat := x.toNat &&& (1 <<< Sort.bitsLen l - 1)
def oth (l : Nat) (x : Int) : Nat := if ot0 l x ≥ l then ot0 l x - l else ot0 l x
def wOk (l : Nat) (x : Int) : Prop := ((ot0 l x : Nat) : Int) = IntKind.i64.wrap (IntKind.u64.wrap ((BitVec.ofInt 64 x &&& BitVec.ofInt 64 (IntKind.u64.wrap (((1 <<< Sort.bitsLen l : Nat) : Int) - 1))).toNat)) ∧ ot0 l x < 2 * l
instance (l : Nat) (x : Int) : Decidable (wOk l x) := by unfold wOk; infer_instance
structure XOk (l : Nat) (x1 x2 x3 : Int) : Prop where
  e1 : nxI l = x1
  e2 : nxI x1 = x2
  e3 : nxI x2 = x3
  u1 : Sort.xorNext (UInt64.ofNat l) = UInt64.ofNat x1.toNat
  u2 : Sort.xorNext (UInt64.ofNat x1.toNat) = UInt64.ofNat x2.toNat
  u3 : Sort.xorNext (UInt64.ofNat x2.toNat) = UInt64.ofNat x3.toNat
  b1 : 0 ≤ x1 ∧ x1 < 18446744073709551616
  b2 : 0 ≤ x2 ∧ x2 < 18446744073709551616
  b3 : 0 ≤ x3 ∧ x3 < 18446744073709551616
  w1 : wOk l x1
  w2 : wOk l x2
  w3 : wOk l x3
theorem xok : ∀ l : Nat, 13 ≤ l ∧ l ≤ 16 → ∃ x1 x2 x3, XOk l x1 x2 x3
  | 13, _ => ⟨_, _, _, rfl, rfl, rfl, by decide +kernel, by decide +kernel, by decide +kernel, by decide +kernel, by decide +kernel, by decide +kernel, by decide +kernel, by decide +kernel, by decide +kernel⟩
  | 14, _ => ⟨_, _, _, rfl, rfl, rfl, by decide +kernel, by decide +kernel, by decide +kernel, by decide +kernel, by decide +kernel, by decide +kernel, by decide +kernel, by decide +kernel, by decide +kernel⟩
  | 15, _ => ⟨_, _, _, rfl, rfl, rfl, by decide +kernel, by decide +kernel, by decide +kernel, by decide +kernel, by decide +kernel, by decide +kernel, by decide +kernel, by decide +kernel, by decide +kernel⟩
  | 16, _ => ⟨_, _, _, rfl, rfl, rfl, by decide +kernel, by decide +kernel, by decide +kernel, by decide +kernel, by decide +kernel, by decide +kernel, by decide +kernel, by decide +kernel, by decide +kernel⟩
  | 0, h => absurd h (by omega)
  | 1, h => absurd h (by omega)
  | 2, h => absurd h (by omega)
  | 3, h => absurd h (by omega)
  | 4, h => absurd h (by omega)
  | 5, h => absurd h (by omega)
  | 6, h => absurd h (by omega)
  | 7, h => absurd h (by omega)
  | 8, h => absurd h (by omega)
  | 9, h => absurd h (by omega)
  | 10, h => absurd h (by omega)
  | 11, h => absurd h (by omega)
  | 12, h => absurd h (by omega)
  | n + 17, h => absurd h (by omega)
theorem break_eq (D : Array Fa) {a b l : Nat} {x1 x2 x3 : Int} (hl : l = b - a) (h8 : 13 ≤ l) (h : XOk l x1 x2 x3) :
    Sort.breakPatterns D a b = Sort.swp (Sort.swp (Sort.swp D (a + l / 4 * 2 - 1) (a + oth l x1)) (a + l / 4 * 2 - 1 + 1) (a + oth l x2)) (a + l / 4 * 2 - 1 + 2) (a + oth l x3) := by
  have t1 : (UInt64.ofNat x1.toNat).toNat = x1.toNat := by rw [UInt64.toNat_ofNat']; have := h.b1; omega
  have t2 : (UInt64.ofNat x2.toNat).toNat = x2.toNat := by rw [UInt64.toNat_ofNat']; have := h.b2; omega
  have t3 : (UInt64.ofNat x3.toNat).toNat = x3.toNat := by rw [UInt64.toNat_ofNat']; have := h.b3; omega
  unfold Sort.breakPatterns
  simp only [← hl]
  rw [if_pos (by omega)]
  simp only [Sort.breakStep, h.u1, h.u2, h.u3, t1, t2, t3]
  rfl
abbrev bkS (n : Nat) (fl : Fl) (a l m i : Nat) (X : Nat → Int) (DD : Nat → Array Fa) (k : Nat) : AS := ⟨[(0, .slm fl 0 7 0 n), (1, int a), (8, int l), (9, .ptr 1 1 0 0), (10, u64 m), (11, int ((i + k : Nat) : Int))], [(0, rwD (DD k)), (1, xBx (X k))], 2⟩
abbrev bkT (n : Nat) (fl : Fl) (a l m i : Nat) (o : Nat) (X : Nat → Int) (DD : Nat → Array Fa) (k : Nat) : AS := ⟨[(0, .slm fl 0 7 0 n), (1, int a), (8, int l), (9, .ptr 1 1 0 0), (10, u64 m), (11, int ((i + k : Nat) : Int)), (12, int o)], [(0, rwD (DD k)), (1, xBx (X (k + 1)))], 2⟩
theorem bkN (D : Array Fa) (x : Int) (ok : Nat → Bool) : namesAll ok [(0, rwD D), (1, xBx x)] = true := namesAll.row (pure_fa _) (namesAll.row rfl rfl)
set_option maxHeartbeats 3200000 in
set_option maxRecDepth 100000 in
theorem Gbreak_f (D : Array Fa) (a b : Nat) (fl : Fl) (hn : D.size ≤ 1000) (hl : 13 ≤ b - a ∧ b - a ≤ 16) (hb : b ≤ D.size) : AFun Tryz.prog 120 1 [.slm fl 0 7 0 D.size, int a, int b, cmpC] [(0, rwD D)] (.tup []) [(0, rwD (Sort.breakPatterns D a b))] := by
  obtain ⟨l, hl'⟩ : ∃ l, l = b - a := ⟨_, rfl⟩
  rw [← hl'] at hl
  obtain ⟨x1, x2, x3, hX⟩ := xok l hl
  have hpow := npow_f l hl
  have heq := break_eq D hl' hl.1 hX
  obtain ⟨n, hn'⟩ : ∃ n, n = D.size := ⟨_, rfl⟩
  obtain ⟨i, hi⟩ : ∃ i, i = a + l / 4 * 2 - 1 := ⟨_, rfl⟩
  rw [← hi] at heq
  obtain ⟨R, hR⟩ : ∃ R, R = Sort.breakPatterns D a b := ⟨_, rfl⟩
  rw [← hR] at heq ⊢
  obtain ⟨X, hXX⟩ : ∃ X : Nat → Int, X = fun k => match k with | 0 => (l : Int) | 1 => x1 | 2 => x2 | _ => x3 := ⟨_, rfl⟩
  obtain ⟨DD, hDD⟩ : ∃ DD : Nat → Array Fa, DD = fun k => match k with | 0 => D | 1 => Sort.swp D i (a + oth l x1) | 2 => Sort.swp (Sort.swp D i (a + oth l x1)) (i + 1) (a + oth l x2) | _ => R := ⟨_, rfl⟩
  have hstep : ∀ k, k < 3 → nxI (X k) = X (k + 1) ∧ wOk l (X (k + 1)) ∧ DD (k + 1) = Sort.swp (DD k) (i + k) (a + oth l (X (k + 1))) := by
    intro k hk
    have : k = 0 ∨ k = 1 ∨ k = 2 := by omega
    subst hXX; subst hDD
    rcases this with rfl | rfl | rfl
    · exact ⟨hX.e1, hX.w1, rfl⟩
    · exact ⟨hX.e2, hX.w2, rfl⟩
    · exact ⟨hX.e3, hX.w3, heq⟩
  have hX0 : X 0 = (l : Int) := by rw [hXX]; rfl
  have hD0 : DD 0 = D := by rw [hDD]; rfl
  have hD3 : DD 3 = R := by rw [hDD]; rfl
  clear hX heq hR hXX hDD
  have w0 : (l : Int) = IntKind.i64.wrap ((b : Int) - a) := by rw [wrap_id (by omega) (by omega)]; omega
  have wu : (l : Int) = IntKind.u64.wrap (l : Int) := by rw [IntKind.wrap_u64]; omega
  have wq : ((l / 4 : Nat) : Int) = IntKind.i64.wrap ((l : Int).tdiv 4) := by
    rw [Int.tdiv_eq_ediv_of_nonneg (by omega), wrap_id (by omega) (by omega)]; omega
  have ql : l / 4 ≤ 4 ∧ 3 ≤ l / 4 := by omega
  obtain ⟨l4, hl4⟩ : ∃ l4, l4 = l / 4 := ⟨_, rfl⟩
  rw [← hl4] at wq ql hi
  have m1 : (i : Int) = IntKind.i64.wrap ((a : Int) + (l4 : Int) * 2 - 1) := by rw [wrap_id (by omega) (by omega)]; omega
  rw [← hn']
  obtain ⟨m, hm⟩ : ∃ m, m = 1 <<< Sort.bitsLen l := ⟨_, rfl⟩
  rw [← hm] at hpow
  refine AFun.of_VS T_ok Tryz.func120 rfl (Nat.le_of_ble_eq_true rfl) ?_
  refine VS.cut T_ok mixed rfl ?_
  ((repeat ((conv => whnf); (first | (refine As.pre ?_; first | refine As.mk rfl ?_) | (refine LetI.pre ?_; first | refine LetI.mk (o := some .sub) (l : Int) w0 ?_) | (refine Ck.pre ?_; first | refine Ck.mk rfl ?_)))); (try (conv => whnf)))
  refine VS.cut T_ok mixed rfl ?_
  ((repeat ((conv => whnf); (first | (refine As.pre ?_; first | refine As.mk rfl ?_) | (refine LetB.pre ?_; first | refine LetB.dect (by omega) ?_) | (refine Ck.pre ?_; first | refine Ck.mk rfl ?_)))); (try (conv => whnf)))
  refine VS.condT rfl rfl ?_
  refine VS.cut T_ok mixed rfl ?_
  ((repeat ((conv => whnf); (first | (refine LetN.pre ?_; first | ((conv => arg 1; whnf); refine LetN.mk ?_)) | (refine As.pre ?_; first | refine As.mk rfl ?_) | (refine LetI.pre ?_; first | refine LetI.mk (o := none) (l : Int) wu ?_) | (refine Ck.pre ?_; first | refine Ck.mk rfl ?_) | (refine LetL.pre ?_; first | refine LetL.mk [_] rfl ?_)))); (try (conv => whnf)))
  refine VS.cut T_ok mixed rfl ?_
  ((repeat ((conv => whnf); (first | (refine As.pre ?_; first | refine As.mk rfl ?_) | (refine Ck.pre ?_; first | refine Ck.mk rfl ?_) | (refine CallN.pre ?_; first | refine CallN.pure hpow rfl rfl ?_)))); (try (conv => whnf)))
  refine VS.cut T_ok mixed rfl ?_
  ((repeat ((conv => whnf); (first | (refine As.pre ?_; first | refine As.mk rfl ?_) | (refine LetI.pre ?_; first | refine LetI.mk (o := some .quo) (l4 : Int) wq ?_ | refine LetI.mk (o := some .sub) (i : Int) m1 ?_ | refine LetI.wrap (by omega) (by omega) ?_) | (refine Ck.pre ?_; first | refine Ck.mk rfl ?_)))); (try (conv => whnf)))
  refine VS.weak (s1 := bkS n fl a l m i X DD 0) ?sw1 ?_
  case sw1 => exact SW.mk id rfl rfl (bkN ..) ⟨.refl _, .refl _, .refl _, .refl _, .refl _, .refl _, trivial⟩ (haveV.row (pure_fa _) (congrArg (fun x => some (rwD x)) hD0.symm) (haveV.row rfl (congrArg (fun x => some (xBx x)) hX0.symm) trivial))
  have hsz : ∀ k, k ≤ 3 → (DD k).size = n := by
    intro k
    induction k with
    | zero => intro _; rw [hD0, hn']
    | succ k ih => intro h; rw [(hstep k (by omega)).2.2, swp_size]; exact ih (by omega)
  refine VS.block (VS.loop ?_)
  refine LoopN.indS (S := bkS n fl a l m i X DD) (fun k => 3 - k) (fun k => k ≤ 3) (fun k hk ih => ?_) 0 (Nat.zero_le _)
  by_cases hk3 : k < 3
  case neg =>
    have : k = 3 := by omega
    subst this
    clear ih hstep
    refine VS.of_V T_ok mixed rfl ?_
    ((repeat ((conv => whnf); (first | (refine As.pre ?_; first | refine As.mk rfl ?_) | (refine LetI.pre ?_; first | refine LetI.mk (o := some .quo) (l4 : Int) wq ?_ | refine LetI.wrap (by omega) (by omega) ?_) | (refine LetB.pre ?_; first | refine LetB.decf (by omega) ?_) | (refine Br.pre ?_; first | refine Br.ff rfl ?_) | (refine Ck.pre ?_; first | refine Ck.mk rfl ?_)))); (try (conv => whnf)))
    exact ⟨⟨[], [(0, rwD R)], 2⟩, SW.mk id rfl rfl (namesAll.row (pure_fa _) rfl) trivial (haveV.row (pure_fa _) (congrArg (fun x => some (rwD x)) hD3) trivial), .inr rfl, ⟨_, rfl, rfl⟩, rfl, trivial⟩
  obtain ⟨e1, e2, e3⟩ := hstep k hk3
  have hnx := ih (k + 1) hk3 (by omega)
  have hs := hsz k hk
  have hs' := hsz (k + 1) hk3
  have hx := xNext_f (X k)
  rw [e1] at hx
  obtain ⟨hw, hq⟩ := e2
  rw [← hm] at hw
  have ho : oth l (X (k + 1)) = if ot0 l (X (k + 1)) ≥ l then ot0 l (X (k + 1)) - l else ot0 l (X (k + 1)) := rfl
  clear ih hstep hsz hpow hX0 hD0 hD3
  generalize oth l (X (k + 1)) = o at ho e3
  generalize ot0 l (X (k + 1)) = q at hw hq ho
  refine VS.cut T_ok mixed rfl ?_
  ((repeat ((conv => whnf); (first | (refine As.pre ?_; first | refine As.mk rfl ?_) | (refine LetI.pre ?_; first | refine LetI.mk (o := some .quo) (l4 : Int) wq ?_ | refine LetI.wrap (by omega) (by omega) ?_) | (refine LetB.pre ?_; first | refine LetB.dect (by omega) ?_) | (refine Br.pre ?_; first | refine Br.tt rfl ?_) | (refine Ck.pre ?_; first | refine Ck.mk rfl ?_)))); (try (conv => whnf)))
  have hra : a + o < n ∧ i + k < n ∧ o ≤ 100 := by
    by_cases h : q ≥ l
    · rw [if_pos h] at ho; omega
    · rw [if_neg h] at ho; omega
  refine VS.seq (VS.block ?_)
  refine VS.cut T_ok mixed rfl ?_
  ((repeat ((conv => whnf); (first | (refine LetN.pre ?_; first | ((conv => arg 1; whnf); refine LetN.mk ?_)) | (refine As.pre ?_; first | refine As.mk rfl ?_) | (refine LetI.pre ?_; first | refine LetI.mk (o := none) (q : Int) hw ?_ | refine LetI.mk _ rfl ?_) | (refine Ck.pre ?_; first | refine Ck.mk rfl ?_) | (refine LetL.pre ?_; first | refine LetL.mk [_] rfl ?_) | (refine CallN.pre ?_; first | refine CallN.own (fun _ => 1) hx (CallOk.mk' rfl rfl rfl (namesAll.row rfl rfl) rfl (namesAll.row rfl rfl) (haveAll.row rfl rfl trivial)) ?_)))); (try (conv => whnf)))


  refine VS.joinN (fun _ : Unit => bkT n fl a l m i o X DD k) (fun _ => True) ?_ ?_
  case refine_1 =>
    by_cases h : q ≥ l
    · rw [if_pos h] at ho
      have wo : (o : Int) = IntKind.i64.wrap ((q : Int) - l) := by rw [wrap_id (by omega) (by omega)]; omega
      refine VS.of_V T_ok mixed rfl ?_
      ((repeat ((conv => whnf); (first | (refine As.pre ?_; first | refine As.mk rfl ?_) | (refine LetI.pre ?_; first | refine LetI.mk (o := some .sub) (o : Int) wo ?_) | (refine LetB.pre ?_; first | refine LetB.dect (by omega) ?_) | (refine Br.pre ?_; first | refine Br.tt rfl ?_) | (refine Ck.pre ?_; first | refine Ck.mk rfl ?_)))); (try (conv => whnf)))
      exact ⟨rfl, (), trivial, SW.mk id rfl rfl (bkN ..) ⟨.refl _, .refl _, .refl _, .refl _, .refl _, .refl _, .refl _, trivial⟩ (haveV.row (pure_fa _) rfl (haveV.row rfl rfl trivial))⟩
    · rw [if_neg h] at ho
      subst ho
      refine VS.of_V T_ok mixed rfl ?_
      ((repeat ((conv => whnf); (first | (refine As.pre ?_; first | refine As.mk rfl ?_) | (refine LetB.pre ?_; first | refine LetB.decf (by omega) ?_) | (refine Br.pre ?_; first | refine Br.ff rfl ?_) | (refine Ck.pre ?_; first | refine Ck.mk rfl ?_)))); (try (conv => whnf)))
      exact ⟨rfl, (), trivial, SW.mk id rfl rfl (bkN ..) ⟨.refl _, .refl _, .refl _, .refl _, .refl _, .refl _, .refl _, trivial⟩ (haveV.row (pure_fa _) rfl (haveV.row rfl rfl trivial))⟩
  rintro _ -
  have hldi := ldD (D := DD k) (i := i + k) (by omega)
  have hldj := ldD (D := DD k) (i := a + o) (by omega)
  have hs1 := setD (DD k) (i + k) (DD k)[a + o]!
  have hs2 := swpD (DD k) (i + k) (a + o)
  have hz2 := sizeS (DD k) (i + k) (DD k)[a + o]!
  have hmm := sizeD (DD k)
  have had : ((a + o : Nat) : Int) = IntKind.i64.wrap ((a : Int) + o) := by rw [wrap_id (by omega) (by omega)]; omega
  rw [← e3] at hs2
  generalize (DD k).setIfInBounds (i + k) (DD k)[a + o]! = E2 at hs1 hs2 hz2
  generalize (DD k)[i + k]! = x at hldi hs2
  generalize (DD k)[a + o]! = y at hldj hs1
  refine VS.of_V T_ok mixed rfl ?_
  ((repeat ((conv => whnf); (first | (refine LetN.pre ?_; first | ((conv => arg 1; whnf); refine LetN.mk ?_)) | (refine As.pre ?_; first | refine As.mk rfl ?_ | (refine As.mk ?_ ?_; · ((repeat' (refine andT ?_ ?_)) <;> (first | rfl | assumption | exact decide_eq_true (by omega) | exact decide_eq_true (by dsimp only; omega) | exact decide_eq_true (by simp; omega) | (simp; done))))) | (refine LetV.pre ?_; first | refine LetV.mk (t := fty) _ hldi ?_ | refine LetV.mk (t := fty) _ hldj ?_) | (refine LetI.pre ?_; first | refine LetI.mk (o := some .add) ((a + o : Nat) : Int) had ?_) | (refine Ck.pre ?_; first | refine Ck.drawn (by kernel_rfl) ?_ | refine Ck.mk rfl ?_) | (refine LetL.pre ?_; first | refine LetL.mk (ty := fty) _ hs1 ?_ | refine LetL.mk (ty := fty) _ hs2 ?_)))); (try (conv => whnf)))





  refine VS.of_V T_ok mixed rfl ?_
  ((repeat ((conv => whnf); (first | (refine As.pre ?_; first | refine As.mk rfl ?_) | (refine LetI.pre ?_; first | refine LetI.wrap (by omega) (by omega) ?_) | (refine Ck.pre ?_; first | refine Ck.mk rfl ?_)))); (try (conv => whnf)))
  refine LoopN.weak ?sw3 hnx
  case sw3 => exact SW.mk id rfl rfl (bkN ..) ⟨.refl _, .refl _, .refl _, .refl _, .refl _, VLe2.int (by omega), trivial⟩ (haveV.row (pure_fa _) rfl (haveV.row rfl rfl trivial))
end En
end Go.Proofs.YtgnakhljdjekbaaGreatDoor
namespace Go.Proofs.YtgnakhljdjekbaaGreatDoor
open Go.Proofs.YtgnakhljdjekbaaGreatDoor.Am
set_option maxRecDepth 100000
namespace En
/-! ### partitionEqual -/
theorem q_break (a i j : Nat) (D : Array Fa) {i2 j2 : Nat} (h1 : Sort.scanUp (fun x => !ltF D[a]! x) D j i = i2) (h2 : Sort.scanDown (fun x => ltF D[a]! x) D i2 j = j2) (h : j2 < i2) : Sort.partEqLoop ltF a i j D = (i2, D) := by
  subst h1; subst h2
  rw [Sort.partEqLoop_eq, if_pos h]
theorem q_go (a i j : Nat) (D : Array Fa) {i2 j2 : Nat} (h1 : Sort.scanUp (fun x => !ltF D[a]! x) D j i = i2) (h2 : Sort.scanDown (fun x => ltF D[a]! x) D i2 j = j2) (h : ¬ i2 > j2) : Sort.partEqLoop ltF a i j D = Sort.partEqLoop ltF a (i2 + 1) (j2 - 1) (Sort.swp D i2 j2) := by
  subst h1; subst h2
  rw [Sort.partEqLoop_eq, if_neg h]
theorem q_lt (a i j : Nat) (D : Array Fa) (h0 : 0 < i) {i2 j2 : Nat} (h1 : Sort.scanUp (fun x => !ltF D[a]! x) D j i = i2) (h2 : Sort.scanDown (fun x => ltF D[a]! x) D i2 j = j2) (h : i2 ≤ j2) : i2 < j2 := by
  obtain ⟨u1, _, _, u4⟩ := Sort.scanUp_spec (fun x => !ltF D[a]! x) D j _ i rfl
  rw [h1] at u1 u4
  obtain ⟨v1, _, _, v4⟩ := Sort.scanDown_spec (fun x => ltF D[a]! x) D i2 j
  rw [h2] at v1 v4
  rcases Nat.lt_or_ge i2 j2 with h' | h'
  · exact h'
  · have e : j2 = i2 := by omega
    have f1 := u4 (by omega)
    have f2 := v4 h (by omega)
    rw [e] at f2
    simp only [f2] at f1
    cases f1
theorem q_in (a i j : Nat) (D : Array Fa) {i2 j2 : Nat} (h1 : Sort.scanUp (fun x => !ltF D[a]! x) D j i = i2) (h2 : Sort.scanDown (fun x => ltF D[a]! x) D i2 j = j2) (h : i ≤ j + 1) : i ≤ i2 ∧ i2 ≤ j + 1 ∧ j2 ≤ j ∧ i2 ≤ j2 + 1 := by
  obtain ⟨u1, u2, _, _⟩ := Sort.scanUp_spec (fun x => !ltF D[a]! x) D j _ i rfl
  rw [h1] at u1 u2
  obtain ⟨v1, v2, _, _⟩ := Sort.scanDown_spec (fun x => ltF D[a]! x) D i2 j
  rw [h2] at v1 v2
  exact ⟨u1, u2 h, v1, v2 (u2 h)⟩
abbrev peS (n : Nat) (fl : Fl) (a i j : Nat) (D : Array Fa) : AS := ⟨[(0, .slm fl 0 7 0 n), (1, int a), (4, cmpC), (11, int i), (12, int j)], [(0, rwD D)], 1⟩
abbrev peT (m : Nat) (D : Array Fa) : AS := ⟨[(11, int m)], [(0, rwD D)], 1⟩
set_option maxHeartbeats 6400000 in
set_option maxRecDepth 100000 in
theorem Gpeq_f (D : Array Fa) (a b pivot : Nat) (fl : Fl) (hn : D.size ≤ 1000) (ha : a ≤ pivot) (hp : pivot < b) (hb : b ≤ D.size) : AFun Tryz.prog 124 1 [.slm fl 0 7 0 D.size, int a, int b, int pivot, cmpC] [(0, rwD D)] (int (Sort.partitionEqual ltF D a b pivot).1) [(0, rwD (Sort.partitionEqual ltF D a b pivot).2)] := by
  obtain ⟨n, hn'⟩ : ∃ n, n = D.size := ⟨_, rfl⟩
  obtain ⟨jb, hjb⟩ : ∃ j, j = b - 1 := ⟨_, rfl⟩
  obtain ⟨⟨mid, G⟩, hP⟩ : ∃ r, Sort.partitionEqual ltF D a b pivot = r := ⟨_, rfl⟩
  rw [hP]
  dsimp only
  rw [← hn']
  unfold Sort.partitionEqual at hP
  rw [← hjb] at hP
  refine AFun.of_VS T_ok Tryz.func124 rfl (Nat.le_of_ble_eq_true rfl) ?_
  refine VS.cut T_ok mixed rfl ?_
  ((repeat ((conv => whnf); (first | (refine As.pre ?_; first | refine As.mk rfl ?_) | (refine Ck.pre ?_; first | refine Ck.mk rfl ?_)))); (try (conv => whnf)))
  have hldi := ldD (D := D) (i := a) (by omega)
  have hldj := ldD (D := D) (i := pivot) (by omega)
  have hs1 := setD D a D[pivot]!
  have hs2 := swpD D a pivot
  have hzE := swp_size D a pivot
  have hz2 := sizeS D a D[pivot]!
  have hm := sizeD D
  obtain ⟨E, hE⟩ : ∃ zz, zz = Sort.swp D a pivot := ⟨_, rfl⟩
  rw [← hE] at hs2 hzE
  generalize D.setIfInBounds a D[pivot]! = E2 at hs1 hs2 hz2
  generalize D[a]! = x at hldi hs2
  generalize D[pivot]! = y at hldj hs1
  refine VS.cut T_ok mixed rfl ?_
  ((repeat ((conv => whnf); (first | (refine LetN.pre ?_; first | ((conv => arg 1; whnf); refine LetN.mk ?_)) | (refine As.pre ?_; first | refine As.mk rfl ?_ | (refine As.mk ?_ ?_; · ((repeat' (refine andT ?_ ?_)) <;> (first | rfl | assumption | exact decide_eq_true (by omega) | exact decide_eq_true (by dsimp only; omega) | exact decide_eq_true (by simp; omega) | (simp; done))))) | (refine LetV.pre ?_; first | refine LetV.mk (t := fty) _ hldi ?_ | refine LetV.mk (t := fty) _ hldj ?_) | (refine Ck.pre ?_; first | refine Ck.drawn (by kernel_rfl) ?_ | refine Ck.mk rfl ?_) | (refine LetL.pre ?_; first | refine LetL.mk (ty := fty) _ hs1 ?_ | refine LetL.mk (ty := fty) _ hs2 ?_)))); (try (conv => whnf)))




  clear hldi hldj hs1 hs2 hz2 hm
  rw [← hE] at hP
  refine VS.cut T_ok mixed rfl ?_
  ((repeat ((conv => whnf); (first | (refine As.pre ?_; first | refine As.mk rfl ?_) | (refine LetI.pre ?_; first | refine LetI.wrap (by omega) (by omega) ?_) | (refine Ck.pre ?_; first | refine Ck.mk rfl ?_)))); (try (conv => whnf)))
  refine VS.weak (s1 := peS n fl a (a + 1) jb E) ?sw1 ?_
  case sw1 => exact SW.mk id rfl rfl (namesAll.row (pure_fa _) rfl) ⟨.refl _, .refl _, .refl _, VLe2.int (by omega), VLe2.int (by omega), trivial⟩ (haveV.row (pure_fa _) rfl trivial)
  refine VS.joinN (fun _ : Unit => peT mid G) (fun _ => True) ?_ ?_
  case refine_1 =>
    refine VS.block (VS.loop ?_)
    refine LoopN.indS (S := fun v : Nat × Nat × Array Fa => peS n fl a v.1 v.2.1 v.2.2) (fun v => v.2.1 + 1 - v.1) (fun v => a < v.1 ∧ v.1 ≤ v.2.1 + 1 ∧ v.2.1 < n ∧ v.2.2.size = n ∧ Sort.partEqLoop ltF a v.1 v.2.1 v.2.2 = (mid, G)) (fun v hv ihL => ?_) (a + 1, jb, E) ⟨by dsimp only; omega, by dsimp only; omega, by dsimp only; omega, by dsimp only; omega, hP⟩
    obtain ⟨i, j, M⟩ := v
    obtain ⟨v0, v1, v2, v3, v4⟩ := hv
    dsimp only at v0 v1 v2 v3 v4 ihL
    obtain ⟨I3, h1⟩ : ∃ r, Sort.scanUp (fun x => !ltF M[a]! x) M j i = r := ⟨_, rfl⟩
    obtain ⟨J3, h2⟩ : ∃ r, Sort.scanDown (fun x => ltF M[a]! x) M I3 j = r := ⟨_, rfl⟩
    have hin := q_in a i j M h1 h2 (by omega)
    refine VS.block ?_
    refine VS.joinN (fun _ : Unit => peS n fl a I3 j M) (fun _ => True) ?_ ?_
    case refine_1 =>
      refine VS.block (VS.loop ?_)
      refine LoopN.indS (S := fun v => peS n fl a v j M) (fun w => j + 1 - w) (fun w => a < w ∧ w ≤ j + 1 ∧ Sort.scanUp (fun x => !ltF M[a]! x) M j w = I3) (fun v hv ih => ?_) i ⟨by omega, by omega, h1⟩
      obtain ⟨u0, u1, u2⟩ := hv
      rw [Sort.scanUp] at u2
      by_cases hlt : v ≤ j
      case neg =>
        rw [if_neg (by simp [hlt])] at u2
        rw [u2] at hlt u0 u1
        rw [u2]
        clear ih
        refine VS.of_V T_ok mixed rfl ?_
        ((repeat ((conv => whnf); (first | (refine As.pre ?_; first | refine As.mk rfl ?_) | (refine LetB.pre ?_; first | refine LetB.decf (by omega) ?_) | (refine Gd.pre ?_; first | refine Gd.pass rfl ?_) | (refine Br.pre ?_; first | refine Br.ff rfl ?_) | (refine Ck.pre ?_; first | refine Ck.drawn (by kernel_rfl) ?_ | refine Ck.mk rfl ?_)))); (try (conv => whnf)))
        exact ⟨rfl, (), trivial, SW.mk id rfl rfl (namesAll.row (pure_fa _) rfl) ⟨.refl _, .refl _, .refl _, .refl _, .refl _, trivial⟩ (haveV.row (pure_fa _) rfl trivial)⟩
      have hld1 := ldD (D := M) (i := v) (by omega)
      have hld2 := ldD (D := M) (i := a) (by omega)
      have hm := sizeD M
      have hcmp := compareF_f M[a]! M[v]!
      have hg : (if ltF M[a]! M[v]! = true then v else Sort.scanUp (fun x => !ltF M[a]! x) M j (v + 1)) = I3 := by
        rw [← u2]
        simp only [hlt, decide_true, Bool.true_and]
        cases ltF M[a]! M[v]! <;> rfl
      clear u2
      obtain ⟨x, hx⟩ : ∃ x, x = M[v]! := ⟨_, rfl⟩
      obtain ⟨y, hy⟩ : ∃ y, y = M[a]! := ⟨_, rfl⟩
      rw [← hx] at hld1
      rw [← hy] at hld2
      rw [← hx, ← hy] at hcmp
      have hl : ltF M[a]! M[v]! = decide (cmpF y x < 0) := by rw [hx, hy]; rfl
      rw [hl] at hg
      clear hl hx hy
      generalize cmpF y x = r at hcmp hg
      by_cases hr : r < 0
      case pos =>
        rw [if_pos (decide_eq_true hr)] at hg
        rw [hg] at hld1 hlt u0 u1
        rw [hg]
        clear ih hg
        refine VS.of_V T_ok mixed rfl ?_
        ((repeat ((conv => whnf); (first | (refine As.pre ?_; first | refine As.mk rfl ?_ | (refine As.mk ?_ ?_; · ((repeat' (refine andT ?_ ?_)) <;> (first | rfl | assumption | exact decide_eq_true (by omega) | exact decide_eq_true (by dsimp only; omega) | exact decide_eq_true (by simp; omega) | (simp; done))))) | (refine LetV.pre ?_; first | refine LetV.mk (t := fty) _ hld1 ?_ | refine LetV.mk (t := fty) _ hld2 ?_) | (refine LetB.pre ?_; first | refine LetB.dect (by omega) ?_) | (refine Gd.pre ?_; first | refine Gd.run rfl ?_) | (refine Br.pre ?_; first | refine Br.ff rfl ?_) | (refine Ck.pre ?_; first | refine Ck.drawn (by kernel_rfl) ?_ | refine Ck.mk rfl ?_) | (refine CallN.pre ?_; first | refine CallN.pure hcmp rfl rfl ?_)))); (try (conv => whnf)))
        exact ⟨rfl, (), trivial, SW.mk id rfl rfl (namesAll.row (pure_fa _) rfl) ⟨.refl _, .refl _, .refl _, .refl _, .refl _, trivial⟩ (haveV.row (pure_fa _) rfl trivial)⟩
      case neg =>
        rw [if_neg (by simpa using hr)] at hg
        have hnx := ih (v + 1) ⟨by omega, by omega, hg⟩ (by omega)
        clear ih hg
        refine VS.of_V T_ok mixed rfl ?_
        ((repeat ((conv => whnf); (first | (refine As.pre ?_; first | refine As.mk rfl ?_ | (refine As.mk ?_ ?_; · ((repeat' (refine andT ?_ ?_)) <;> (first | rfl | assumption | exact decide_eq_true (by omega) | exact decide_eq_true (by dsimp only; omega) | exact decide_eq_true (by simp; omega) | (simp; done))))) | (refine LetV.pre ?_; first | refine LetV.mk (t := fty) _ hld1 ?_ | refine LetV.mk (t := fty) _ hld2 ?_) | (refine LetI.pre ?_; first | refine LetI.wrap (by omega) (by omega) ?_) | (refine LetB.pre ?_; first | refine LetB.dect (by omega) ?_ | refine LetB.decf (by omega) ?_) | (refine Gd.pre ?_; first | refine Gd.run rfl ?_) | (refine Br.pre ?_; first | refine Br.tt rfl ?_) | (refine Ck.pre ?_; first | refine Ck.drawn (by kernel_rfl) ?_ | refine Ck.mk rfl ?_) | (refine CallN.pre ?_; first | refine CallN.pure hcmp rfl rfl ?_)))); (try (conv => whnf)))
        refine LoopN.weak ?sws hnx
        case sws => exact SW.mk id rfl rfl (namesAll.row (pure_fa _) rfl) ⟨.refl _, .refl _, .refl _, VLe2.int (by omega), .refl _, trivial⟩ (haveV.row (pure_fa _) rfl trivial)
    rintro _ -
    refine VS.joinN (fun _ : Unit => peS n fl a I3 J3 M) (fun _ => True) ?_ ?_
    case refine_1 =>
      refine VS.block (VS.loop ?_)
      refine LoopN.indS (S := fun v => peS n fl a I3 v M) (fun w => w) (fun w => w ≤ j ∧ I3 ≤ w + 1 ∧ Sort.scanDown (fun x => ltF M[a]! x) M I3 w = J3) (fun v hv ih => ?_) j ⟨by omega, by omega, h2⟩
      obtain ⟨u0, u1, u2⟩ := hv
      by_cases hlt : I3 ≤ v
      case neg =>
        have u3 : Sort.scanDown (fun x => ltF M[a]! x) M I3 v = v := by
          cases v with
          | zero => rfl
          | succ v => rw [Sort.scanDown, if_neg (by simp [hlt])]
        rw [u3] at u2
        clear u3
        rw [u2] at hlt u0 u1
        rw [u2]
        clear ih
        refine VS.of_V T_ok mixed rfl ?_
        ((repeat ((conv => whnf); (first | (refine As.pre ?_; first | refine As.mk rfl ?_) | (refine LetB.pre ?_; first | refine LetB.decf (by omega) ?_) | (refine Gd.pre ?_; first | refine Gd.pass rfl ?_) | (refine Br.pre ?_; first | refine Br.ff rfl ?_) | (refine Ck.pre ?_; first | refine Ck.drawn (by kernel_rfl) ?_ | refine Ck.mk rfl ?_)))); (try (conv => whnf)))
        exact ⟨rfl, (), trivial, SW.mk id rfl rfl (namesAll.row (pure_fa _) rfl) ⟨.refl _, .refl _, .refl _, .refl _, .refl _, trivial⟩ (haveV.row (pure_fa _) rfl trivial)⟩
      obtain ⟨v, rfl⟩ : ∃ k, v = k + 1 := ⟨v - 1, by omega⟩
      have hld1 := ldD (D := M) (i := (v + 1)) (by omega)
      have hld2 := ldD (D := M) (i := a) (by omega)
      have hm := sizeD M
      have hcmp := compareF_f M[a]! M[(v + 1)]!
      have hg : (if ltF M[a]! M[v + 1]! = true then Sort.scanDown (fun x => ltF M[a]! x) M I3 v else v + 1) = J3 := by
        rw [← u2, Sort.scanDown]
        simp only [hlt, decide_true, Bool.true_and]
      clear u2
      obtain ⟨x, hx⟩ : ∃ x, x = M[(v + 1)]! := ⟨_, rfl⟩
      obtain ⟨y, hy⟩ : ∃ y, y = M[a]! := ⟨_, rfl⟩
      rw [← hx] at hld1
      rw [← hy] at hld2
      rw [← hx, ← hy] at hcmp
      have hl : ltF M[a]! M[(v + 1)]! = decide (cmpF y x < 0) := by rw [hx, hy]; rfl
      rw [hl] at hg
      clear hl hx hy
      generalize cmpF y x = r at hcmp hg
      by_cases hr : r < 0
      case pos =>
        rw [if_pos (decide_eq_true hr)] at hg
        have hnx := ih v ⟨by omega, by omega, hg⟩ (by omega)
        clear ih hg
        refine VS.of_V T_ok mixed rfl ?_
        ((repeat ((conv => whnf); (first | (refine As.pre ?_; first | refine As.mk rfl ?_ | (refine As.mk ?_ ?_; · ((repeat' (refine andT ?_ ?_)) <;> (first | rfl | assumption | exact decide_eq_true (by omega) | exact decide_eq_true (by dsimp only; omega) | exact decide_eq_true (by simp; omega) | (simp; done))))) | (refine LetV.pre ?_; first | refine LetV.mk (t := fty) _ hld1 ?_ | refine LetV.mk (t := fty) _ hld2 ?_) | (refine LetI.pre ?_; first | refine LetI.wrap (by omega) (by omega) ?_) | (refine LetB.pre ?_; first | refine LetB.dect (by omega) ?_) | (refine Gd.pre ?_; first | refine Gd.run rfl ?_) | (refine Br.pre ?_; first | refine Br.tt rfl ?_) | (refine Ck.pre ?_; first | refine Ck.drawn (by kernel_rfl) ?_ | refine Ck.mk rfl ?_) | (refine CallN.pre ?_; first | refine CallN.pure hcmp rfl rfl ?_)))); (try (conv => whnf)))
        refine LoopN.weak ?sws hnx
        case sws => exact SW.mk id rfl rfl (namesAll.row (pure_fa _) rfl) ⟨.refl _, .refl _, .refl _, .refl _, VLe2.int (by omega), trivial⟩ (haveV.row (pure_fa _) rfl trivial)
      case neg =>
        rw [if_neg (by simpa using hr)] at hg
        rw [hg] at hld1 hlt u0 u1
        rw [hg]
        clear ih hg
        refine VS.of_V T_ok mixed rfl ?_
        ((repeat ((conv => whnf); (first | (refine As.pre ?_; first | refine As.mk rfl ?_ | (refine As.mk ?_ ?_; · ((repeat' (refine andT ?_ ?_)) <;> (first | rfl | assumption | exact decide_eq_true (by omega) | exact decide_eq_true (by dsimp only; omega) | exact decide_eq_true (by simp; omega) | (simp; done))))) | (refine LetV.pre ?_; first | refine LetV.mk (t := fty) _ hld1 ?_ | refine LetV.mk (t := fty) _ hld2 ?_) | (refine LetB.pre ?_; first | refine LetB.dect (by omega) ?_ | refine LetB.decf (by omega) ?_) | (refine Gd.pre ?_; first | refine Gd.run rfl ?_) | (refine Br.pre ?_; first | refine Br.ff rfl ?_) | (refine Ck.pre ?_; first | refine Ck.drawn (by kernel_rfl) ?_ | refine Ck.mk rfl ?_) | (refine CallN.pre ?_; first | refine CallN.pure hcmp rfl rfl ?_)))); (try (conv => whnf)))
        exact ⟨rfl, (), trivial, SW.mk id rfl rfl (namesAll.row (pure_fa _) rfl) ⟨.refl _, .refl _, .refl _, .refl _, .refl _, trivial⟩ (haveV.row (pure_fa _) rfl trivial)⟩
    rintro _ -
    by_cases hgt : I3 > J3
    · rw [q_break a i j M h1 h2 hgt] at v4
      injection v4 with e1 e4
      subst e1; subst e4
      clear ihL
      refine VS.cut T_ok mixed rfl ?_
      ((repeat ((conv => whnf); (first | (refine As.pre ?_; first | refine As.mk rfl ?_) | (refine LetB.pre ?_; first | refine LetB.dect (by omega) ?_) | (refine Br.pre ?_; first | refine Br.tt rfl ?_) | (refine Ck.pre ?_; first | refine Ck.mk rfl ?_)))); (try (conv => whnf)))
      exact ⟨rfl, (), trivial, SW.mk id rfl rfl (namesAll.row (pure_fa _) rfl) ⟨.refl _, trivial⟩ (haveV.row (pure_fa _) rfl trivial)⟩
    have hij := q_lt a i j M (by omega) h1 h2 (by omega)
    rw [q_go a i j M h1 h2 hgt] at v4
    refine VS.cut T_ok mixed rfl ?_
    ((repeat ((conv => whnf); (first | (refine As.pre ?_; first | refine As.mk rfl ?_) | (refine LetB.pre ?_; first | refine LetB.decf (by omega) ?_) | (refine Br.pre ?_; first | refine Br.ff rfl ?_) | (refine Ck.pre ?_; first | refine Ck.mk rfl ?_)))); (try (conv => whnf)))
    have hldi := ldD (D := M) (i := I3) (by omega)
    have hldj := ldD (D := M) (i := J3) (by omega)
    have hs1 := setD M I3 M[J3]!
    have hs2 := swpD M I3 J3
    have hzM2 := swp_size M I3 J3
    have hz2 := sizeS M I3 M[J3]!
    have hm := sizeD M
    obtain ⟨M2, hM2⟩ : ∃ zz, zz = Sort.swp M I3 J3 := ⟨_, rfl⟩
    rw [← hM2] at hs2 hzM2
    generalize M.setIfInBounds I3 M[J3]! = E2 at hs1 hs2 hz2
    generalize M[I3]! = x at hldi hs2
    generalize M[J3]! = y at hldj hs1
    refine VS.cut T_ok mixed rfl ?_
    ((repeat ((conv => whnf); (first | (refine LetN.pre ?_; first | ((conv => arg 1; whnf); refine LetN.mk ?_)) | (refine As.pre ?_; first | refine As.mk rfl ?_ | (refine As.mk ?_ ?_; · ((repeat' (refine andT ?_ ?_)) <;> (first | rfl | assumption | exact decide_eq_true (by omega) | exact decide_eq_true (by dsimp only; omega) | exact decide_eq_true (by simp; omega) | (simp; done))))) | (refine LetV.pre ?_; first | refine LetV.mk (t := fty) _ hldi ?_ | refine LetV.mk (t := fty) _ hldj ?_) | (refine Ck.pre ?_; first | refine Ck.drawn (by kernel_rfl) ?_ | refine Ck.mk rfl ?_) | (refine LetL.pre ?_; first | refine LetL.mk (ty := fty) _ hs1 ?_ | refine LetL.mk (ty := fty) _ hs2 ?_)))); (try (conv => whnf)))




    clear hldi hldj hs1 hs2 hz2 hm
    rw [← hM2] at v4
    have hnx := ihL (I3 + 1, J3 - 1, M2) ⟨by dsimp only; omega, by show I3 + 1 ≤ J3 - 1 + 1; omega, by show J3 - 1 < n; omega, by dsimp only; omega, v4⟩ (by show J3 - 1 + 1 - (I3 + 1) < j + 1 - i; omega)
    clear ihL
    refine VS.of_V T_ok mixed rfl ?_
    ((repeat ((conv => whnf); (first | (refine As.pre ?_; first | refine As.mk rfl ?_) | (refine LetI.pre ?_; first | refine LetI.wrap (by omega) (by omega) ?_) | (refine Ck.pre ?_; first | refine Ck.mk rfl ?_)))); (try (conv => whnf)))
    refine LoopN.weak ?sw5 hnx
    case sw5 => exact SW.mk id rfl rfl (namesAll.row (pure_fa _) rfl) ⟨.refl _, .refl _, .refl _, VLe2.int (by dsimp only; omega), VLe2.int (by dsimp only; omega), trivial⟩ (haveV.row (pure_fa _) rfl trivial)
  rintro _ -
  refine VS.of_V T_ok mixed rfl ?_
  ((repeat ((conv => whnf); (first | (refine As.pre ?_; first | refine As.mk rfl ?_) | (refine Ck.pre ?_; first | refine Ck.mk rfl ?_)))); (try (conv => whnf)))
  exact ⟨⟨[(10, int mid)], [(0, rwD G)], 1⟩, SW.mk id rfl rfl (namesAll.row (pure_fa _) rfl) ⟨.refl _, trivial⟩ (haveV.row (pure_fa _) rfl trivial), .inl rfl, ⟨_, rfl, rfl⟩, rfl, trivial⟩
end En
end Go.Proofs.YtgnakhljdjekbaaGreatDoor
