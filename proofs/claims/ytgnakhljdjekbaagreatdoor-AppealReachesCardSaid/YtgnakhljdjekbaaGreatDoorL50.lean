/- appealZD: parts of the proof, DappealZDUF DappealZDUG DappealZDTV. -/
import Derived.Test.YtgnakhljdjekbaaGreatDoorL49
import Derived.Test.YtgnakhljdjekbaaGreatDoorL43
import Derived.Test.YtgnakhljdjekbaaGreatDoorAmSH
import Derived.Test.YtgnakhljdjekbaaGreatDoorL35
import Derived.Test.YtgnakhljdjekbaaGreatDoorAmRX
import Derived.LaidMore
import Derived.LaidHandle
import Derived.OpenShut
import Derived.Stop.Joined
import Derived.ProofKit
set_option linter.all false
namespace Go.Proofs.YtgnakhljdjekbaaGreatDoor
open Go.Proofs.YtgnakhljdjekbaaGreatDoor.Am
set_option maxRecDepth 100000
namespace En
abbrev roE' (l : List E) : AV := .ro {} 15 (l.map en)
abbrev roS (l : List St) : AV := .ro {} 4 (l.map stA)
abbrev mb' (e : E) : Blk := .row 15 ety [en e]
abbrev u16r (v : Int) : AV := .sc (.int .u16 v)
abbrev rsA (l N : List E) (e : E) (a o : Int) : AS := ⟨[(5, bool true), (6, roE' l), (7, .ptr 0 15 0 0), (10, int e.student), (11, int e.on_), (12, int a), (13, int o), (14, .slm {} 1 15 0 N.length)], [(0, mb' e), (1, .row 15 ety (N.map en))], 2⟩
abbrev rsB (l N : List E) (e : E) (a o : Int) : AS := ⟨[(5, bool true), (6, roE' l), (7, .ptr 0 15 0 0), (10, int e.student), (11, int e.on_), (12, int a), (13, int o), (14, roE' N)], [(0, mb' e)], 2⟩
/-- The first loop: who each entry is of. -/
abbrev rsM (N : List E) (e : E) (a o : Int) (B C : List St) (k : Nat) : AS := ⟨[(5, bool true), (7, .ptr 0 15 0 0), (10, int e.student), (11, int e.on_), (12, int a), (13, int o), (15, roS B), (16, roS C), (17, .mp 1), (94, roE' N), (95, int N.length), (96, int k)], [(0, mb' e), (1, .map k (kvS (N.take k)))], 2⟩
abbrev rsN (N : List E) (e : E) (a o : Int) (B C : List St) : AS := ⟨[(5, bool true), (7, .ptr 0 15 0 0), (10, int e.student), (11, int e.on_), (12, int a), (13, int o), (15, roS B), (16, roS C), (17, .mp 1)], [(0, mb' e), (1, .map N.length (kvS N))], 2⟩
theorem rsFrz {q r : Nat} (l N : List E) (e : E) (a o : Int) : SW q r (rsA l N e a o) (rsB l N e a o) := by
  have h := SW.frz (p := q) (n := r) (s := rsA l N e a o) [1] ?_ ?_ ?_
  · have e : (⟨frFrz (rsA l N e a o).H [1].contains (rsA l N e a o).fr, AH.frz (rsA l N e a o).H (rsA l N e a o).H [1].contains, (rsA l N e a o).nx⟩ : AS) = rsB l N e a o := by
      refine congr (congr (congrArg AS.mk ?_) ?_) rfl
      · simp [frFrz, AV.frz, AH.get]
        exact List.take_of_length_le (by simp)
      · rfl
    exact e ▸ h
  · have := pure_en N
    simp only [rowsOk, AH.get, List.all_cons, List.all_nil, Bool.and_true]
    exact this
  · rfl
  · simp [frFrzOk, AV.frzOk, AH.get]
theorem at_len (l : List E) (a o : Int) : (atP l a o).length ≤ l.length := by
  unfold atP atR
  rw [List.length_map]
  refine Nat.le_trans (List.length_filter_le _ _) ?_
  rw [srt_length]
  exact List.length_filter_le _ _
def stuOf (N : List E) (k : Int) : Int := (N.getD (k - 1).toNat e0).student
theorem stuOf_id {N : List E} (h : ∀ i, i < N.length → (N.getD i e0).id = i + 1) {x : E} (hx : x ∈ N) : stuOf N x.id = x.student := by
  obtain ⟨i, hi, rfl⟩ := memI hx
  have : ((N.getD i e0).id - 1).toNat = i := by rw [h i hi]; omega
  rw [stuOf, this]
theorem take_filt {α : Type} (d : α) (p : α → Bool) {l : List α} {k : Nat} (h : k < l.length) : (l.take (k + 1)).filter p = (l.take k).filter p ++ if p (l.getD k d) then [l.getD k d] else [] := by
  rw [List.take_succ_eq_append_getElem h, List.filter_append, List.getD_eq_getElem?_getD, List.getElem?_eq_getElem h]
  show _ ++ [l[k]].filter p = _ ++ if p l[k] = true then [l[k]] else []
  by_cases hp : p l[k] = true
  · rw [if_pos hp, List.filter_cons_of_pos hp]; rfl
  · rw [if_neg hp, List.filter_cons_of_neg hp]; rfl
theorem map_take_s {N : List E} {k : Nat} (h : k < N.length) : kvS (N.take (k + 1)) = kvS (N.take k) ++ [(.int .i64 (N.getD k e0).id, int (N.getD k e0).student)] := by
  rw [List.take_succ_eq_append_getElem h, kvS_app, List.getD_eq_getElem?_getD, List.getElem?_eq_getElem h]; rfl
theorem hpu' {kv : List (Value × AV)} (k v : Int) (h : kvPure kv = true) : kvPure (kv ++ [(.int .i64 k, int v)]) = true := by
  unfold kvPure at h ⊢
  rw [List.all_append, h]; rfl
theorem getD_memS {l : List St} {k : Nat} (h : k < l.length) : l.getD k s0 ∈ l := by
  rw [List.getD_eq_getElem?_getD, List.getElem?_eq_getElem h]; exact List.getElem_mem _
abbrev nilV : AV := .sc (.slice none 0 0)
abbrev rsO (N : List E) (e : E) (a o : Int) (B C : List St) : AS := ⟨[(5, bool true), (7, .ptr 0 15 0 0), (10, int e.student), (11, int e.on_), (12, int a), (13, int o), (15, roS B), (16, roS C), (17, .mp 1), (20, nilV), (21, nilV)], [(0, mb' e), (1, .map N.length (kvS N))], 2⟩
abbrev rsF (N : List E) (e : E) (a o : Int) (B C : List St) : Nat × List St → AS
  | (k, out) => ⟨[(5, bool true), (7, .ptr 0 15 0 0), (10, int e.student), (11, int e.on_), (12, int a), (13, int o), (15, roS B), (16, roS C), (17, .mp 1), (20, .slm {} 2 4 0 out.length), (21, nilV), (106, roS B), (107, int B.length), (108, int k)], [(0, mb' e), (1, .map N.length (kvS N)), (2, .row 4 sty (out.map stA))], 3⟩
abbrev rsG (N : List E) (e : E) (a o : Int) (B C L : List St) : AS := ⟨[(5, bool true), (7, .ptr 0 15 0 0), (10, int e.student), (11, int e.on_), (12, int a), (13, int o), (15, roS B), (16, roS C), (17, .mp 1), (20, .slm {} 2 4 0 L.length), (21, nilV)], [(0, mb' e), (1, .map N.length (kvS N)), (2, .row 4 sty (L.map stA))], 3⟩
abbrev rsH (N : List E) (e : E) (a o : Int) (B C L : List St) : Nat × List St → AS
  | (k, out) => ⟨[(5, bool true), (7, .ptr 0 15 0 0), (10, int e.student), (11, int e.on_), (12, int a), (13, int o), (15, roS B), (16, roS C), (17, .mp 1), (20, .slm {} 2 4 0 L.length), (21, .slm {} 3 4 0 out.length), (128, roS C), (129, int C.length), (130, int k)], [(0, mb' e), (1, .map N.length (kvS N)), (2, .row 4 sty (L.map stA)), (3, .row 4 sty (out.map stA))], 4⟩
abbrev rsI (e : E) (a o : Int) (B C L M : List St) : AS := ⟨[(5, bool true), (7, .ptr 0 15 0 0), (12, int a), (13, int o), (15, roS B), (16, roS C), (20, .slm {} 2 4 0 L.length), (21, .slm {} 3 4 0 M.length)], [(0, mb' e), (2, .row 4 sty (L.map stA)), (3, .row 4 sty (M.map stA))], 4⟩
abbrev rsJ (e : E) (a o : Int) (B C L M : List St) : AS := ⟨[(5, bool true), (7, .ptr 0 15 0 0), (12, int a), (13, int o), (15, roS B), (16, roS C), (20, roS L), (21, roS M)], [(0, mb' e)], 4⟩
theorem rsFN (N : List E) (e : E) (L : List St) (ok : Nat → Bool) (H : AH) (h : namesAll ok H = true) : namesAll ok ((0, mb' e) :: (1, .map N.length (kvS N)) :: (2, .row 4 sty (L.map stA)) :: H) = true :=
  namesAll.row rfl (namesAll.map (kvS_pure _) (namesAll.row (pure_st _) h))
theorem rsFz2 {q r : Nat} (e : E) (a o : Int) (B C L M : List St) : SW q r (rsI e a o B C L M) (rsJ e a o B C L M) := by
  have h := SW.frz (p := q) (n := r) (s := rsI e a o B C L M) [2, 3] ?_ ?_ ?_
  · have e : (⟨frFrz (rsI e a o B C L M).H [2, 3].contains (rsI e a o B C L M).fr, AH.frz (rsI e a o B C L M).H (rsI e a o B C L M).H [2, 3].contains, (rsI e a o B C L M).nx⟩ : AS) = rsJ e a o B C L M := by
      refine congr (congr (congrArg AS.mk ?_) ?_) rfl
      · simp [frFrz, AV.frz, AH.get]
        exact ⟨List.take_of_length_le (by simp), List.take_of_length_le (by simp)⟩
      · rfl
    exact e ▸ h
  · have h1 := pure_st L
    have h2 := pure_st M
    simp only [rowsOk, AH.get, List.all_cons, List.all_nil, Bool.and_true, Bool.and_eq_true]
    exact ⟨h1, h2⟩
  · rfl
  · simp [frFrzOk, AV.frzOk, AH.get]
set_option maxHeartbeats 6400000 in
set_option maxRecDepth 100000 in
theorem reachesLaw_f (xs : List Int) (s m a b d0 d1 : Int) (hx : xs.length ≤ 9223372036854775807) (hs : 0 ≤ s ∧ s ≤ 255) (hm : 0 ≤ m ∧ m ≤ 255) (hd0 : 0 ≤ d0 ∧ d0 ≤ 65535) (hd1 : 0 ≤ d1 ∧ d1 ≤ 65535) :
    AFun Tryz.prog 5 0 [csA xs s m a b, .agg [u16r d0, u16r d1]] [] (bool true) [] := by
  rcases made_c xs s m a b hx hs hm with hM | ⟨all, k, sc, oo, hD, hM⟩
  · refine AFun.of_VS T_ok Tryz.func5 rfl (Nat.le_of_ble_eq_true rfl) ?_
    refine VS.of_V T_ok mixed rfl ?_
    ((repeat ((conv => whnf); (first | (refine LetN.pre ?_; first | ((conv => arg 1; whnf); refine LetN.mk ?_)) | (refine As.pre ?_; first | refine As.mk rfl ?_) | (refine LetV.pre ?_; first | refine LetV.mk (.agg _) rfl ?_) | (refine Gd.pre ?_; first | refine Gd.pass rfl ?_) | (refine Br.pre ?_; first | refine Br.tt rfl ?_) | (refine Ck.pre ?_; first | refine Ck.mk rfl ?_) | (refine LetL.pre ?_; first | refine LetL.mk (ty := ety) [.agg [_, _, _, _, _, _, _, _, _, _, _, _, _, _, _]] rfl ?_) | (refine CallN.pre ?_; first | refine CallN.pure sanity_f rfl rfl ?_ | refine CallN.pure hM rfl rfl ?_)))); (try (conv => whnf)))



    exact ⟨_, SW.refl, .inl rfl, ⟨_, rfl, rfl⟩, trivial⟩
  obtain ⟨hal, hlt, hM10, hsc, hbo⟩ := hD
  have hlk := hM10.lk
  have hNi : ∀ i, i < (all.take k ++ [all.getD k e0]).length → ((all.take k ++ [all.getD k e0]).getD i e0).id = i + 1 := by
    have e : all.take k ++ [all.getD k e0] = all.take (k + 1) := by
      rw [List.take_succ_eq_append_getElem hlt, List.getD_eq_getElem?_getD, List.getElem?_eq_getElem hlt]; rfl
    intro i hi
    rw [e, List.length_take] at hi
    rw [e, List.getD_eq_getElem?_getD, List.getElem?_take, if_pos (by omega), ← List.getD_eq_getElem?_getD]
    exact hM10.ids i (by omega)
  have hea := getD_memL hlt
  have hla : ∀ x ∈ all.take k, x ∈ all := fun x hx => List.mem_of_mem_take hx
  clear hM10 hbo
  have hlen := take_len hlt
  have hl24 : (all.take k).length ≤ 23 := by omega
  replace hM : AFun Tryz.prog 18 0 [csA xs s m a b] [] (.tup [.ro ⟨true, false⟩ 15 ((all.take k).map en), en (all.getD k e0), en oo, bool true]) [] := hM
  clear hlen
  generalize all.take k = l at hM hl24 hla hNi
  generalize all.getD k e0 = e at hM hea hNi
  clear hlt hal hsc
  clear k sc
  have hMay := fun fl => May_f l e fl (by omega)
  have hRea := fun fl => Reach_f l e fl (by omega)
  obtain ⟨mm, hmm⟩ : ∃ mm, mm = mayP l e := ⟨_, rfl⟩
  rw [← hmm] at hMay
  by_cases h0 : mm = 0
  case neg =>
    clear hRea hmm
    refine AFun.of_VS T_ok Tryz.func5 rfl (Nat.le_of_ble_eq_true rfl) ?_
    refine VS.of_V T_ok mixed rfl ?_
    ((repeat ((conv => whnf); (first | (refine LetN.pre ?_; first | ((conv => arg 1; whnf); refine LetN.mk ?_)) | (refine As.pre ?_; first | refine As.mk rfl ?_) | (refine LetV.pre ?_; first | refine LetV.mk (.agg _) rfl ?_) | (refine LetB.pre ?_; first | refine LetB.bnet (by omega) ?_) | (refine Gd.pre ?_; first | refine Gd.run rfl ?_) | (refine Br.pre ?_; first | refine Br.tt rfl ?_) | (refine Ck.pre ?_; first | refine Ck.mk rfl ?_) | (refine LetL.pre ?_; first | refine LetL.mk (ty := ety) [.agg [_, _, _, _, _, _, _, _, _, _, _, _, _, _, _]] rfl ?_) | (refine CallN.pre ?_; first | refine CallN.pure sanity_f rfl rfl ?_ | refine CallN.pure hM rfl rfl ?_ | refine CallN.pure (hMay _) rfl rfl ?_)))); (try (conv => whnf)))




    exact ⟨_, SW.refl, .inl rfl, ⟨_, rfl, rfl⟩, trivial⟩
  subst h0
  by_cases h7 : e.kind = 7
  · have hr : reaP l e = (0, 0) := if_pos (.inl h7)
    rw [hr] at hRea
    clear hr hmm
    refine AFun.of_VS T_ok Tryz.func5 rfl (Nat.le_of_ble_eq_true rfl) ?_
    refine VS.of_V T_ok mixed rfl ?_
    ((repeat ((conv => whnf); (first | (refine LetN.pre ?_; first | ((conv => arg 1; whnf); refine LetN.mk ?_)) | (refine As.pre ?_; first | refine As.mk rfl ?_) | (refine LetV.pre ?_; first | refine LetV.mk (.sc (.int _ _)) rfl ?_ | refine LetV.mk (.agg _) rfl ?_) | (refine LetB.pre ?_; first | refine LetB.tt rfl ?_ | refine LetB.ff rfl ?_ | refine LetB.dect (by omega) ?_) | (refine Gd.pre ?_; first | refine Gd.run rfl ?_) | (refine Br.pre ?_; first | refine Br.tt rfl ?_ | refine Br.ff rfl ?_) | (refine Ck.pre ?_; first | refine Ck.mk rfl ?_) | (refine LetL.pre ?_; first | refine LetL.mk (ty := ety) [.agg [_, _, _, _, _, _, _, _, _, _, _, _, _, _, _]] rfl ?_) | (refine CallN.pre ?_; first | refine CallN.pure sanity_f rfl rfl ?_ | refine CallN.pure hM rfl rfl ?_ | refine CallN.pure (hMay _) rfl rfl ?_ | refine CallN.pure (hRea _) rfl rfl ?_)))); (try (conv => whnf)))





    exact ⟨_, SW.refl, .inl rfl, ⟨_, rfl, rfl⟩, trivial⟩
  have hr : reaP l e = (e.student, e.on_) := if_neg (fun h => h.elim h7 fun g => g hmm.symm)
  rw [hr] at hRea
  clear hr hmm
  have w0 : d0 = IntKind.i64.wrap d0 := (wrap_id (by omega) (by omega)).symm
  have w1 : d1 = IntKind.i64.wrap d1 := (wrap_id (by omega) (by omega)).symm
  obtain ⟨ao, has⟩ : ∃ r, r = d0.tmod 700 := ⟨_, rfl⟩
  obtain ⟨on, hon⟩ : ∃ r, r = d1.tmod 700 := ⟨_, rfl⟩
  have b1 := tmod_bound d0 (m := 700) (by omega)
  have b2 := tmod_bound d1 (m := 700) (by omega)
  rw [← has] at b1
  rw [← hon] at b2
  have hml : (l.map en).length = l.length := List.length_map _
  have hs0 := stor0 l
  have r1 := room_en (n := l.length + 1) (by omega)
  have r2 : room (0 + (l.map en).length) 136 = true := room_en (by omega)
  have r3 : room (0 + (l.map en).length + 1) 136 = true := room_en (by omega)
  have a0 : l.map en = List.take 0 ([] : List AV) ++ l.map en := rfl
  have hrow : (l ++ [e]).map en = List.take (0 + (l.map en).length) (l.map en) ++ [en e] := (row_app l e).symm
  refine AFun.of_VS T_ok Tryz.func5 rfl (Nat.le_of_ble_eq_true rfl) ?_
  refine VS.cut T_ok mixed rfl ?_
  ((repeat ((conv => whnf); (first | (refine LetN.pre ?_; first | ((conv => arg 1; whnf); refine LetN.mk ?_)) | (refine As.pre ?_; first | refine As.mk rfl ?_) | (refine Ck.pre ?_; first | refine Ck.mk rfl ?_)))); (try (conv => whnf)))
  refine VS.cut T_ok mixed rfl ?_
  ((repeat ((conv => whnf); (first | (refine As.pre ?_; first | refine As.mk rfl ?_) | (refine Ck.pre ?_; first | refine Ck.mk rfl ?_) | (refine CallN.pre ?_; first | refine CallN.pure sanity_f rfl rfl ?_)))); (try (conv => whnf)))
  refine VS.cut T_ok mixed rfl ?_
  ((repeat ((conv => whnf); (first | (refine LetN.pre ?_; first | ((conv => arg 1; whnf); refine LetN.mk ?_)) | (refine As.pre ?_; first | refine As.mk rfl ?_) | (refine LetV.pre ?_; first | refine LetV.mk (.agg _) rfl ?_) | (refine Ck.pre ?_; first | refine Ck.mk rfl ?_) | (refine LetL.pre ?_; first | refine LetL.mk (ty := ety) [.agg [_, _, _, _, _, _, _, _, _, _, _, _, _, _, _]] rfl ?_) | (refine CallN.pre ?_; first | refine CallN.pure hM rfl rfl ?_)))); (try (conv => whnf)))
  clear hM
  refine VS.cut T_ok mixed rfl ?_
  ((repeat ((conv => whnf); (first | (refine As.pre ?_; first | refine As.mk rfl ?_) | (refine LetV.pre ?_; first | refine LetV.mk (.agg _) rfl ?_) | (refine LetB.pre ?_; first | refine LetB.ff rfl ?_) | (refine Gd.pre ?_; first | refine Gd.run rfl ?_) | (refine Br.pre ?_; first | refine Br.ff rfl ?_) | (refine Ck.pre ?_; first | refine Ck.mk rfl ?_) | (refine CallN.pre ?_; first | refine CallN.pure (hMay _) rfl rfl ?_)))); (try (conv => whnf)))
  clear hMay
  refine VS.cut T_ok mixed rfl ?_
  ((repeat ((conv => whnf); (first | (refine As.pre ?_; first | refine As.mk rfl ?_) | (refine LetV.pre ?_; first | refine LetV.mk (.agg _) rfl ?_) | (refine Ck.pre ?_; first | refine Ck.mk rfl ?_) | (refine CallN.pre ?_; first | refine CallN.pure (hRea _) rfl rfl ?_)))); (try (conv => whnf)))
  clear hRea
  refine VS.cut T_ok mixed rfl ?_
  ((repeat ((conv => whnf); (first | (refine As.pre ?_; first | refine As.mk rfl ?_) | (refine LetV.pre ?_; first | refine LetV.mk (.sc (.int _ _)) rfl ?_) | (refine LetB.pre ?_; first | refine LetB.decf (by omega) ?_) | (refine Br.pre ?_; first | refine Br.ff rfl ?_) | (refine Ck.pre ?_; first | refine Ck.mk rfl ?_)))); (try (conv => whnf)))
  refine VS.cut T_ok mixed rfl ?_
  ((repeat ((conv => whnf); (first | (refine As.pre ?_; first | refine As.mk rfl ?_) | (refine LetV.pre ?_; first | refine LetV.mk (.sc (.int _ _)) rfl ?_) | (refine LetB.pre ?_; first | refine LetB.bnef (by omega) ?_) | (refine Gd.pre ?_; first | refine Gd.run rfl ?_) | (refine Br.pre ?_; first | refine Br.ff rfl ?_) | (refine Ck.pre ?_; first | refine Ck.mk rfl ?_)))); (try (conv => whnf)))
  refine VS.cut T_ok mixed rfl ?_
  ((repeat ((conv => whnf); (first | (refine As.pre ?_; first | refine As.mk rfl ?_) | (refine LetV.pre ?_; first | refine LetV.mk (.sc (.int _ _)) rfl ?_) | (refine LetI.pre ?_; first | refine LetI.mk (o := none) d0 w0 ?_ | refine LetI.mk (o := none) d1 w1 ?_ | refine LetI.mk (o := some .rem) ao has ?_ | refine LetI.mk (o := some .rem) on hon ?_) | (refine Ck.pre ?_; first | refine Ck.drawn (by kernel_rfl) ?_ | refine Ck.mk rfl ?_)))); (try (conv => whnf)))





  refine VS.cut T_ok mixed rfl ?_
  ((repeat ((conv => whnf); (first | (refine LetN.pre ?_; first | ((conv => arg 1; whnf); refine LetN.mk ?_)) | (refine As.pre ?_; first | refine As.mk rfl ?_ | (refine As.mk ?_ ?_; · ((repeat' (refine andT ?_ ?_)) <;> (first | rfl | assumption | exact decide_eq_true (by omega) | exact decide_eq_true (by dsimp only; omega) | exact decide_eq_true (by simp; omega) | (simp; done))))) | (refine LetV.pre ?_; first | refine LetV.mk (.agg _) rfl ?_) | (refine Ck.pre ?_; first | refine Ck.drawn (by kernel_rfl) ?_ | refine Ck.mk rfl ?_) | (refine LetL.pre ?_; first | refine LetL.mk (ty := ety) _ a0 ?_ | refine LetL.mk (ty := ety) _ hrow ?_)))); (try (conv => whnf)))


  refine VS.weak (s1 := rsA l (l ++ [e]) e ao on) ?sw0 ?_
  case sw0 => exact SW.mk (fun i => if i = 0 then 2 else if i = 1 then 6 else i + 8) rfl rfl (namesAll.row rfl (namesAll.row (pure_en _) rfl)) ⟨.refl _, VLe2.ro_of rfl, .refl _, .refl _, .refl _, .refl _, .refl _, VLe2.slm_of (by rw [hml, List.length_append]; simp), trivial⟩ (haveV.row rfl rfl (haveV.row (pure_en _) rfl trivial))
  refine VS.weak (rsFrz l (l ++ [e]) e ao on) ?_
  clear r1 r2 r3 a0 hrow hs0 hml
  have hNl : (l ++ [e]).length ≤ 24 := by rw [List.length_append]; show l.length + 1 ≤ 24; omega
  have hA1 := At_f l ao on {} (by omega)
  have hA2 := At_f (l ++ [e]) ao on {} (by omega)
  have hB : ∀ s ∈ atP l ao on, ∃ g ∈ l ++ [e], g.id = s.entry := fun s hs => by
    obtain ⟨g, hg, h⟩ := at_ent hs
    exact ⟨g, List.mem_append_left _ hg, h⟩
  have hC : ∀ s ∈ atP (l ++ [e]) ao on, ∃ g ∈ l ++ [e], g.id = s.entry := fun s hs => at_ent hs
  have hBl : (atP l ao on).length ≤ 24 := Nat.le_trans (at_len ..) (by omega)
  have hCl : (atP (l ++ [e]) ao on).length ≤ 24 := Nat.le_trans (at_len ..) hNl
  have hstu : ∀ x ∈ l ++ [e], stuOf (l ++ [e]) x.id = x.student := fun x hx => stuOf_id hNi hx
  have hFG : (e.day ≤ ao ∨ atP (l ++ [e]) ao on = atP l ao on) ∧ (atP l ao on).filter (fun s => decide (on < e.on_ ∨ stuOf (l ++ [e]) s.entry ≠ e.student)) = (atP (l ++ [e]) ao on).filter (fun s => decide (on < e.on_ ∨ stuOf (l ++ [e]) s.entry ≠ e.student)) := by
    by_cases hc : e.day ≤ ao ∧ e.on_ ≤ on
    · refine ⟨.inl hc.1, ?_⟩
      have h := reach_same hlk hla hea ao on (stuOf (l ++ [e])) hstu
      have e1 : (fun s : St => decide (on < e.on_ ∨ stuOf (l ++ [e]) s.entry ≠ e.student)) = fun s => decide (stuOf (l ++ [e]) s.entry ≠ e.student) := by
        funext s
        rw [decide_eq_decide]
        exact ⟨fun h => h.resolve_left (by omega), .inr⟩
      rw [e1]
      exact h.symm
    · have h := at_late (l := l) hc
      exact ⟨.inr h, by rw [h]⟩
  clear hlk hla hea
  obtain ⟨hG, hF⟩ := hFG
  generalize atP l ao on = B at hA1 hB hBl hG hF
  generalize atP (l ++ [e]) ao on = C at hA2 hC hCl hG hF
  generalize hN : l ++ [e] = N at hNi hNl hA2 hB hC hstu hF
  refine VS.cut T_ok mixed rfl ?_
  ((repeat ((conv => whnf); (first | (refine As.pre ?_; first | refine As.mk rfl ?_) | (refine Ck.pre ?_; first | refine Ck.mk rfl ?_) | (refine CallN.pre ?_; first | refine CallN.pure hA1 rfl rfl ?_ | refine CallN.pure hA2 rfl rfl ?_)))); (try (conv => whnf)))
  clear hA1 hA2 hN hl24
  refine VS.cut T_ok mixed rfl ?_
  ((repeat ((conv => whnf); (first | (refine LetN.pre ?_; first | ((conv => arg 1; whnf); refine LetN.mk ?_)) | (refine As.pre ?_; first | refine As.mk rfl ?_) | (refine Ck.pre ?_; first | refine Ck.mk rfl ?_)))); (try (conv => whnf)))
  have hok : ∀ k x, x ∈ N.take k → okI x.id := fun k x hx => by
    obtain ⟨i, hi, rfl⟩ := memI (List.mem_of_mem_take hx)
    have := hNi i hi
    unfold okI; omega
  refine VS.joinN (fun _ : Unit => rsN N e ao on B C) (fun _ => True) ?_ ?_
  case refine_1 =>
    refine VS.cut T_ok mixed rfl ?_
    ((repeat ((conv => whnf); (first | (refine As.pre ?_; first | refine As.mk rfl ?_) | (refine LetI.pre ?_; first | refine LetI.mk _ rfl ?_) | (refine Ck.pre ?_; first | refine Ck.mk rfl ?_)))); (try (conv => whnf)))
    have hmN : (N.map en).length = N.length := List.length_map _
    refine VS.block (VS.loop ?_)
    refine LoopN.weak (s1 := rsM N e ao on B C 0) ?sw1 ?_
    case sw1 => exact SW.mk (fun i => if i = 0 then 0 else i + 1) rfl rfl (namesAll.row rfl (namesAll.map (kvS_pure _) rfl)) ⟨.refl _, .refl _, .refl _, .refl _, .refl _, .refl _, .refl _, .refl _, .refl _, .refl _, VLe2.int (by rw [hmN]), .refl _, trivial⟩ (haveV.row rfl rfl (haveV.map rfl rfl trivial))
    refine LoopN.indS (S := rsM N e ao on B C) (fun i => N.length - i) (fun i => i ≤ N.length) (fun k hk ih => ?_) 0 (Nat.zero_le _)
    by_cases hlt : k < N.length
    case neg =>
      have hke : k = N.length := by omega
      subst hke
      clear ih
      refine VS.of_V T_ok mixed rfl ?_
      ((repeat ((conv => whnf); (first | (refine As.pre ?_; first | refine As.mk rfl ?_) | (refine LetB.pre ?_; first | refine LetB.decf (by omega) ?_) | (refine Br.pre ?_; first | refine Br.ff rfl ?_) | (refine Ck.pre ?_; first | refine Ck.mk rfl ?_)))); (try (conv => whnf)))
      exact ⟨rfl, (), trivial, SW.mk id rfl rfl (namesAll.row rfl (namesAll.map (kvS_pure _) rfl)) ⟨.refl _, .refl _, .refl _, .refl _, .refl _, .refl _, .refl _, .refl _, .refl _, trivial⟩ (haveV.row rfl rfl (haveV.map (kvS_pure _) (congrArg (fun x => some (Blk.map N.length (kvS x))) List.take_length) trivial))⟩
    have hld := ld_en (l := N) hlt
    have hnx := ih (k + 1) hlt (by omega)
    rw [rsM, map_take_s hlt] at hnx
    have hky := keys_S (hok k) (n := (N.getD k e0).id) (by have := hNi k hlt; unfold okI; omega)
    have hfi : findOk (kvS (N.take k)) (.int .i64 (N.getD k e0).id) none := findS_none fun x hx => by
      obtain ⟨i, hi, rfl⟩ := memI hx
      have h1 : i < k := Nat.lt_of_lt_of_le hi (List.length_take_le k N)
      have h2 : (N.take k).getD i e0 = N.getD i e0 := by rw [List.getD_eq_getElem?_getD, List.getD_eq_getElem?_getD, List.getElem?_take, if_pos h1]
      rw [h2, hNi i (by omega), hNi k hlt]
      omega
    clear ih hNi hok hstu hB hC hF hG
    have hpu := kvS_pure (N.take k)
    generalize N.getD k e0 = x at hld hky hfi hnx
    refine VS.of_V T_ok mixed ?hb ?_
    case hb => rfl
    ((repeat ((conv => whnf); (first | (refine LetN.pre ?_; first | ((conv => arg 1; whnf); refine LetN.mk ?_)) | (refine As.pre ?_; first | refine As.mk rfl ?_ | refine As.mk hky ?_ | (refine As.mk ?_ ?_; · ((repeat' (refine andT ?_ ?_)) <;> (first | rfl | assumption | exact decide_eq_true (by omega) | exact decide_eq_true (by dsimp only; omega) | exact decide_eq_true (by simp; omega) | (simp; done))))) | (refine LetV.pre ?_; first | refine LetV.mk (t := 33) _ hld ?_ | refine LetV.mk (.sc (.int _ _)) rfl ?_ | refine LetV.mk (.agg _) rfl ?_) | (refine LetI.pre ?_; first | refine LetI.wrap (by omega) (by omega) ?_) | (refine LetB.pre ?_; first | refine LetB.dect (by omega) ?_) | (refine Br.pre ?_; first | refine Br.tt rfl ?_) | (refine Ck.pre ?_; first | refine Ck.mk rfl ?_) | (refine LetL.pre ?_; first | refine LetL.mk (ty := ety) [.agg [_, _, _, _, _, _, _, _, _, _, _, _, _, _, _]] rfl ?_) | (refine FindN.mk none hfi ?_)))); (try (conv => whnf)))





    refine LoopN.weak ?sw2 hnx
    case sw2 => exact SW.mk id rfl rfl (namesAll.row rfl (namesAll.map (hpu' _ _ hpu) rfl)) ⟨.refl _, .refl _, .refl _, .refl _, .refl _, .refl _, .refl _, .refl _, .refl _, .refl _, .refl _, VLe2.int (by omega), trivial⟩ (haveV.row rfl rfl (haveV.map (hpu' _ _ hpu) rfl trivial))
  intro _ _
  refine VS.cut T_ok mixed rfl ?_
  ((repeat ((conv => whnf); (first | (refine As.pre ?_; first | refine As.mk rfl ?_) | (refine Ck.pre ?_; first | refine Ck.mk rfl ?_)))); (try (conv => whnf)))
  have hok' : ∀ x ∈ N, okI x.id := fun x hx => hok N.length x (by rw [List.take_length]; exact hx)
  clear hok
  obtain ⟨cf, hcfd⟩ : ∃ cf : St → Bool, ∀ s, cf s = decide (on < e.on_ ∨ stuOf N s.entry ≠ e.student) := ⟨_, fun _ => rfl⟩
  have hcfe : (fun s : St => decide (on < e.on_ ∨ stuOf N s.entry ≠ e.student)) = cf := funext fun s => (hcfd s).symm
  rw [hcfe] at hF
  refine VS.joinN (fun _ : Unit => rsG N e ao on B C (B.filter cf)) (fun _ => True) ?_ ?_
  case refine_1 =>
    refine VS.cut T_ok mixed rfl ?_
    ((repeat ((conv => whnf); (first | (refine As.pre ?_; first | refine As.mk rfl ?_) | (refine LetI.pre ?_; first | refine LetI.mk _ rfl ?_) | (refine Ck.pre ?_; first | refine Ck.mk rfl ?_)))); (try (conv => whnf)))
    have hmX : (B.map stA).length = B.length := List.length_map _
    refine VS.block (VS.loop ?_)
    refine LoopN.weak (s1 := rsF N e ao on B C (0, [])) ?sw1 ?_
    case sw1 => exact SW.mk id rfl rfl (rsFN _ _ _ _ _ rfl) ⟨.refl _, .refl _, .refl _, .refl _, .refl _, .refl _, .refl _, .refl _, .refl _, VLe2.nilslm, .refl _, .refl _, VLe2.int (by rw [hmX]), .refl _, trivial⟩ (haveV.row rfl rfl (haveV.map (kvS_pure _) rfl (haveV.nil (Nat.le_refl _) trivial)))
    refine LoopN.indS (S := rsF N e ao on B C) (fun i => B.length - i.1) (fun i => i.1 ≤ B.length ∧ i.2 = (B.take i.1).filter cf) (fun i hi ih => ?_) (0, []) ⟨Nat.zero_le _, rfl⟩
    obtain ⟨k, out⟩ := i
    obtain ⟨hk, ho⟩ := hi
    dsimp only at hk ho
    by_cases hlt : k < B.length
    case neg =>
      have hke : k = B.length := by omega
      subst hke
      rw [List.take_length] at ho
      subst ho
      clear ih
      refine VS.of_V T_ok mixed rfl ?_
      ((repeat ((conv => whnf); (first | (refine As.pre ?_; first | refine As.mk rfl ?_) | (refine LetB.pre ?_; first | refine LetB.decf (by omega) ?_) | (refine Br.pre ?_; first | refine Br.ff rfl ?_) | (refine Ck.pre ?_; first | refine Ck.mk rfl ?_)))); (try (conv => whnf)))
      exact ⟨rfl, (), trivial, SW.mk id rfl rfl (rsFN _ _ _ _ _ rfl) ⟨.refl _, .refl _, .refl _, .refl _, .refl _, .refl _, .refl _, .refl _, .refl _, .refl _, .refl _, trivial⟩ (haveV.row rfl rfl (haveV.map (kvS_pure _) rfl (haveV.row (pure_st _) rfl trivial)))⟩
    have hld : stA (B.getD k s0) = (B.map stA).getD k (.sc undef) := mapD s0 hlt
    obtain ⟨g, hg, hge⟩ := hB _ (getD_memS hlt)
    have hgs := hstu g hg
    have hnT : cf (B.getD k s0) = true → _ := fun h => ih (k + 1, out ++ [B.getD k s0]) ⟨hlt, by rw [take_filt s0 cf hlt, if_pos h, ho]⟩ (by show B.length - (k + 1) < B.length - k; omega)
    have hnF : cf (B.getD k s0) = false → _ := fun h => ih (k + 1, out) ⟨hlt, by dsimp only; rw [take_filt s0 cf hlt, if_neg (by rw [h]; exact Bool.false_ne_true), ho, List.append_nil]⟩ (by show B.length - (k + 1) < B.length - k; omega)
    have hol : out.length ≤ 24 := by
      rw [ho]; exact Nat.le_trans (List.length_filter_le _ _) (by rw [List.length_take]; omega)
    obtain ⟨ix, hfi, hkv⟩ := findS_some hg
    have hky := keys_S hok' (n := g.id) (hok' g hg)
    have hr := room_st (n := out.length + 1) (by omega)
    have hol2 : (out.map stA).length = out.length := List.length_map _
    rw [hge] at hgs hfi hky
    have hcf : cf (B.getD k s0) = decide (on < e.on_ ∨ g.student ≠ e.student) := by rw [hcfd, hgs]
    clear ih ho hge hgs hF hG hB hC hstu hNi
    generalize B.getD k s0 = x at hld hfi hky hnT hnF hcf
    by_cases q1 : on < e.on_
    · have hn := hnT (by rw [hcf]; exact decide_eq_true (.inl q1))
      clear hnT hnF
      refine VS.of_V T_ok mixed rfl ?_
      ((repeat ((conv => whnf); (first | (refine LetN.pre ?_; first | ((conv => arg 1; whnf); refine LetN.mk ?_)) | (refine As.pre ?_; first | refine As.mk rfl ?_ | (refine As.mk ?_ ?_; · ((repeat' (refine andT ?_ ?_)) <;> (first | rfl | assumption | exact decide_eq_true (by omega) | exact decide_eq_true (by dsimp only; omega) | exact decide_eq_true (by simp; omega) | (simp; done))))) | (refine LetV.pre ?_; first | refine LetV.mk (t := 59) _ hld ?_ | refine LetV.mk (.agg _) rfl ?_) | (refine LetI.pre ?_; first | refine LetI.wrap (by omega) (by omega) ?_) | (refine LetB.pre ?_; first | refine LetB.dect (by omega) ?_) | (refine Gd.pre ?_; first | refine Gd.pass rfl ?_) | (refine Br.pre ?_; first | refine Br.tt rfl ?_) | (refine Ck.pre ?_; first | refine Ck.mk rfl ?_) | (refine LetL.pre ?_; first | refine LetL.mk (ty := sty) [.agg [_, _, _, _]] rfl ?_ | refine LetL.mk (ty := sty) _ (app_st out x _ rfl) ?_)))); (try (conv => whnf)))



      refine LoopN.weak ?sw2 hn
      case sw2 => exact SW.mk (fun i => if i = 2 then 4 else i) rfl rfl (rsFN _ _ _ _ _ rfl) ⟨.refl _, .refl _, .refl _, .refl _, .refl _, .refl _, .refl _, .refl _, .refl _, VLe2.slm_of (by simp), .refl _, .refl _, .refl _, VLe2.int (by omega), trivial⟩ (haveV.row rfl rfl (haveV.map (kvS_pure _) rfl (haveV.row (pure_st _) rfl trivial)))
    by_cases q2 : g.student = e.student
    · have hn := hnF (by rw [hcf]; exact decide_eq_false (by rintro (h | h); exact q1 h; exact h q2))
      clear hnT hnF
      refine VS.of_V T_ok mixed rfl ?_
      ((repeat ((conv => whnf); (first | (refine LetN.pre ?_; first | ((conv => arg 1; whnf); refine LetN.mk ?_)) | (refine As.pre ?_; first | refine As.mk rfl ?_ | refine As.mk hky ?_ | (refine As.mk ?_ ?_; · ((repeat' (refine andT ?_ ?_)) <;> (first | rfl | assumption | exact decide_eq_true (by omega) | exact decide_eq_true (by dsimp only; omega) | exact decide_eq_true (by simp; omega) | (simp; done))))) | (refine LetV.pre ?_; first | refine LetV.mk (t := 59) _ hld ?_ | refine LetV.mk (t := 61) _ hkv ?_ | refine LetV.mk (.sc (.int _ _)) rfl ?_ | refine LetV.mk (.agg _) rfl ?_) | (refine LetI.pre ?_; first | refine LetI.wrap (by omega) (by omega) ?_) | (refine LetB.pre ?_; first | refine LetB.dect (by omega) ?_ | refine LetB.decf (by omega) ?_ | refine LetB.bnef (by omega) ?_) | (refine Gd.pre ?_; first | refine Gd.run rfl ?_) | (refine Br.pre ?_; first | refine Br.tt rfl ?_ | refine Br.ff rfl ?_) | (refine Ck.pre ?_; first | refine Ck.mk rfl ?_) | (refine LetL.pre ?_; first | refine LetL.mk (ty := sty) [.agg [_, _, _, _]] rfl ?_) | (refine FindN.mk (some ix) hfi ?_)))); (try (conv => whnf)))







      refine LoopN.weak ?sw3 hn
      case sw3 => exact SW.mk id rfl rfl (rsFN _ _ _ _ _ rfl) ⟨.refl _, .refl _, .refl _, .refl _, .refl _, .refl _, .refl _, .refl _, .refl _, .refl _, .refl _, .refl _, .refl _, VLe2.int (by omega), trivial⟩ (haveV.row rfl rfl (haveV.map (kvS_pure _) rfl (haveV.row (pure_st _) rfl trivial)))
    · have hn := hnT (by rw [hcf]; exact decide_eq_true (.inr q2))
      clear hnT hnF
      refine VS.of_V T_ok mixed rfl ?_
      ((repeat ((conv => whnf); (first | (refine LetN.pre ?_; first | ((conv => arg 1; whnf); refine LetN.mk ?_)) | (refine As.pre ?_; first | refine As.mk rfl ?_ | refine As.mk hky ?_ | (refine As.mk ?_ ?_; · ((repeat' (refine andT ?_ ?_)) <;> (first | rfl | assumption | exact decide_eq_true (by omega) | exact decide_eq_true (by dsimp only; omega) | exact decide_eq_true (by simp; omega) | (simp; done))))) | (refine LetV.pre ?_; first | refine LetV.mk (t := 59) _ hld ?_ | refine LetV.mk (t := 61) _ hkv ?_ | refine LetV.mk (.sc (.int _ _)) rfl ?_ | refine LetV.mk (.agg _) rfl ?_) | (refine LetI.pre ?_; first | refine LetI.wrap (by omega) (by omega) ?_) | (refine LetB.pre ?_; first | refine LetB.dect (by omega) ?_ | refine LetB.decf (by omega) ?_ | refine LetB.bnet (by omega) ?_) | (refine Gd.pre ?_; first | refine Gd.run rfl ?_) | (refine Br.pre ?_; first | refine Br.tt rfl ?_) | (refine Ck.pre ?_; first | refine Ck.mk rfl ?_) | (refine LetL.pre ?_; first | refine LetL.mk (ty := sty) [.agg [_, _, _, _]] rfl ?_ | refine LetL.mk (ty := sty) _ (app_st out x _ rfl) ?_) | (refine FindN.mk (some ix) hfi ?_)))); (try (conv => whnf)))







      refine LoopN.weak ?sw4 hn
      case sw4 => exact SW.mk (fun i => if i = 2 then 4 else i) rfl rfl (rsFN _ _ _ _ _ rfl) ⟨.refl _, .refl _, .refl _, .refl _, .refl _, .refl _, .refl _, .refl _, .refl _, VLe2.slm_of (by simp), .refl _, .refl _, .refl _, VLe2.int (by omega), trivial⟩ (haveV.row rfl rfl (haveV.map (kvS_pure _) rfl (haveV.row (pure_st _) rfl trivial)))
  intro _ _
  have hLl : (B.filter cf).length ≤ 24 := Nat.le_trans (List.length_filter_le _ _) hBl
  generalize B.filter cf = L at hF hLl
  refine VS.joinN (fun _ : Unit => rsI e ao on B C L (C.filter cf)) (fun _ => True) ?_ ?_
  case refine_1 =>
    refine VS.cut T_ok mixed rfl ?_
    ((repeat ((conv => whnf); (first | (refine As.pre ?_; first | refine As.mk rfl ?_) | (refine LetI.pre ?_; first | refine LetI.mk _ rfl ?_) | (refine Ck.pre ?_; first | refine Ck.mk rfl ?_)))); (try (conv => whnf)))
    have hmX : (C.map stA).length = C.length := List.length_map _
    refine VS.block (VS.loop ?_)
    refine LoopN.weak (s1 := rsH N e ao on B C L (0, [])) ?sw1 ?_
    case sw1 => exact SW.mk id rfl rfl (rsFN _ _ _ _ _ (namesAll.row (pure_st _) rfl)) ⟨.refl _, .refl _, .refl _, .refl _, .refl _, .refl _, .refl _, .refl _, .refl _, .refl _, VLe2.nilslm, .refl _, VLe2.int (by rw [hmX]), .refl _, trivial⟩ (haveV.row rfl rfl (haveV.map (kvS_pure _) rfl (haveV.row (pure_st _) rfl (haveV.nil (Nat.le_refl _) trivial))))
    refine LoopN.indS (S := rsH N e ao on B C L) (fun i => C.length - i.1) (fun i => i.1 ≤ C.length ∧ i.2 = (C.take i.1).filter cf) (fun i hi ih => ?_) (0, []) ⟨Nat.zero_le _, rfl⟩
    obtain ⟨k, out⟩ := i
    obtain ⟨hk, ho⟩ := hi
    dsimp only at hk ho
    by_cases hlt : k < C.length
    case neg =>
      have hke : k = C.length := by omega
      subst hke
      rw [List.take_length] at ho
      subst ho
      clear ih
      refine VS.of_V T_ok mixed rfl ?_
      ((repeat ((conv => whnf); (first | (refine As.pre ?_; first | refine As.mk rfl ?_) | (refine LetB.pre ?_; first | refine LetB.decf (by omega) ?_) | (refine Br.pre ?_; first | refine Br.ff rfl ?_) | (refine Ck.pre ?_; first | refine Ck.mk rfl ?_)))); (try (conv => whnf)))
      exact ⟨rfl, (), trivial, SW.mk id rfl rfl (namesAll.row rfl (namesAll.row (pure_st _) (namesAll.row (pure_st _) rfl))) ⟨.refl _, .refl _, .refl _, .refl _, .refl _, .refl _, .refl _, .refl _, trivial⟩ (haveV.row rfl rfl (haveV.row (pure_st _) rfl (haveV.row (pure_st _) rfl trivial)))⟩
    have hld : stA (C.getD k s0) = (C.map stA).getD k (.sc undef) := mapD s0 hlt
    obtain ⟨g, hg, hge⟩ := hC _ (getD_memS hlt)
    have hgs := hstu g hg
    have hnT : cf (C.getD k s0) = true → _ := fun h => ih (k + 1, out ++ [C.getD k s0]) ⟨hlt, by rw [take_filt s0 cf hlt, if_pos h, ho]⟩ (by show C.length - (k + 1) < C.length - k; omega)
    have hnF : cf (C.getD k s0) = false → _ := fun h => ih (k + 1, out) ⟨hlt, by dsimp only; rw [take_filt s0 cf hlt, if_neg (by rw [h]; exact Bool.false_ne_true), ho, List.append_nil]⟩ (by show C.length - (k + 1) < C.length - k; omega)
    have hol : out.length ≤ 24 := by
      rw [ho]; exact Nat.le_trans (List.length_filter_le _ _) (by rw [List.length_take]; omega)
    obtain ⟨ix, hfi, hkv⟩ := findS_some hg
    have hky := keys_S hok' (n := g.id) (hok' g hg)
    have hr := room_st (n := out.length + 1) (by omega)
    have hol2 : (out.map stA).length = out.length := List.length_map _
    rw [hge] at hgs hfi hky
    have hcf : cf (C.getD k s0) = decide (on < e.on_ ∨ g.student ≠ e.student) := by rw [hcfd, hgs]
    clear ih ho hge hgs hF hG hB hC hstu hNi
    generalize C.getD k s0 = x at hld hfi hky hnT hnF hcf
    by_cases q1 : on < e.on_
    · have hn := hnT (by rw [hcf]; exact decide_eq_true (.inl q1))
      clear hnT hnF
      refine VS.of_V T_ok mixed rfl ?_
      ((repeat ((conv => whnf); (first | (refine LetN.pre ?_; first | ((conv => arg 1; whnf); refine LetN.mk ?_)) | (refine As.pre ?_; first | refine As.mk rfl ?_ | (refine As.mk ?_ ?_; · ((repeat' (refine andT ?_ ?_)) <;> (first | rfl | assumption | exact decide_eq_true (by omega) | exact decide_eq_true (by dsimp only; omega) | exact decide_eq_true (by simp; omega) | (simp; done))))) | (refine LetV.pre ?_; first | refine LetV.mk (t := 59) _ hld ?_ | refine LetV.mk (.agg _) rfl ?_) | (refine LetI.pre ?_; first | refine LetI.wrap (by omega) (by omega) ?_) | (refine LetB.pre ?_; first | refine LetB.dect (by omega) ?_) | (refine Gd.pre ?_; first | refine Gd.pass rfl ?_) | (refine Br.pre ?_; first | refine Br.tt rfl ?_) | (refine Ck.pre ?_; first | refine Ck.mk rfl ?_) | (refine LetL.pre ?_; first | refine LetL.mk (ty := sty) [.agg [_, _, _, _]] rfl ?_ | refine LetL.mk (ty := sty) _ (app_st out x _ rfl) ?_)))); (try (conv => whnf)))



      refine LoopN.weak ?sw2 hn
      case sw2 => exact SW.mk (fun i => if i = 3 then 5 else i) rfl rfl (rsFN _ _ _ _ _ (namesAll.row (pure_st _) rfl)) ⟨.refl _, .refl _, .refl _, .refl _, .refl _, .refl _, .refl _, .refl _, .refl _, .refl _, VLe2.slm_of (by simp), .refl _, .refl _, VLe2.int (by omega), trivial⟩ (haveV.row rfl rfl (haveV.map (kvS_pure _) rfl (haveV.row (pure_st _) rfl (haveV.row (pure_st _) rfl trivial))))
    by_cases q2 : g.student = e.student
    · have hn := hnF (by rw [hcf]; exact decide_eq_false (by rintro (h | h); exact q1 h; exact h q2))
      clear hnT hnF
      refine VS.of_V T_ok mixed rfl ?_
      ((repeat ((conv => whnf); (first | (refine LetN.pre ?_; first | ((conv => arg 1; whnf); refine LetN.mk ?_)) | (refine As.pre ?_; first | refine As.mk rfl ?_ | refine As.mk hky ?_ | (refine As.mk ?_ ?_; · ((repeat' (refine andT ?_ ?_)) <;> (first | rfl | assumption | exact decide_eq_true (by omega) | exact decide_eq_true (by dsimp only; omega) | exact decide_eq_true (by simp; omega) | (simp; done))))) | (refine LetV.pre ?_; first | refine LetV.mk (t := 59) _ hld ?_ | refine LetV.mk (t := 61) _ hkv ?_ | refine LetV.mk (.sc (.int _ _)) rfl ?_ | refine LetV.mk (.agg _) rfl ?_) | (refine LetI.pre ?_; first | refine LetI.wrap (by omega) (by omega) ?_) | (refine LetB.pre ?_; first | refine LetB.dect (by omega) ?_ | refine LetB.decf (by omega) ?_ | refine LetB.bnef (by omega) ?_) | (refine Gd.pre ?_; first | refine Gd.run rfl ?_) | (refine Br.pre ?_; first | refine Br.tt rfl ?_ | refine Br.ff rfl ?_) | (refine Ck.pre ?_; first | refine Ck.mk rfl ?_) | (refine LetL.pre ?_; first | refine LetL.mk (ty := sty) [.agg [_, _, _, _]] rfl ?_) | (refine FindN.mk (some ix) hfi ?_)))); (try (conv => whnf)))







      refine LoopN.weak ?sw3 hn
      case sw3 => exact SW.mk id rfl rfl (rsFN _ _ _ _ _ (namesAll.row (pure_st _) rfl)) ⟨.refl _, .refl _, .refl _, .refl _, .refl _, .refl _, .refl _, .refl _, .refl _, .refl _, .refl _, .refl _, .refl _, VLe2.int (by omega), trivial⟩ (haveV.row rfl rfl (haveV.map (kvS_pure _) rfl (haveV.row (pure_st _) rfl (haveV.row (pure_st _) rfl trivial))))
    · have hn := hnT (by rw [hcf]; exact decide_eq_true (.inr q2))
      clear hnT hnF
      refine VS.of_V T_ok mixed rfl ?_
      ((repeat ((conv => whnf); (first | (refine LetN.pre ?_; first | ((conv => arg 1; whnf); refine LetN.mk ?_)) | (refine As.pre ?_; first | refine As.mk rfl ?_ | refine As.mk hky ?_ | (refine As.mk ?_ ?_; · ((repeat' (refine andT ?_ ?_)) <;> (first | rfl | assumption | exact decide_eq_true (by omega) | exact decide_eq_true (by dsimp only; omega) | exact decide_eq_true (by simp; omega) | (simp; done))))) | (refine LetV.pre ?_; first | refine LetV.mk (t := 59) _ hld ?_ | refine LetV.mk (t := 61) _ hkv ?_ | refine LetV.mk (.sc (.int _ _)) rfl ?_ | refine LetV.mk (.agg _) rfl ?_) | (refine LetI.pre ?_; first | refine LetI.wrap (by omega) (by omega) ?_) | (refine LetB.pre ?_; first | refine LetB.dect (by omega) ?_ | refine LetB.decf (by omega) ?_ | refine LetB.bnet (by omega) ?_) | (refine Gd.pre ?_; first | refine Gd.run rfl ?_) | (refine Br.pre ?_; first | refine Br.tt rfl ?_) | (refine Ck.pre ?_; first | refine Ck.mk rfl ?_) | (refine LetL.pre ?_; first | refine LetL.mk (ty := sty) [.agg [_, _, _, _]] rfl ?_ | refine LetL.mk (ty := sty) _ (app_st out x _ rfl) ?_) | (refine FindN.mk (some ix) hfi ?_)))); (try (conv => whnf)))







      refine LoopN.weak ?sw4 hn
      case sw4 => exact SW.mk (fun i => if i = 3 then 5 else i) rfl rfl (rsFN _ _ _ _ _ (namesAll.row (pure_st _) rfl)) ⟨.refl _, .refl _, .refl _, .refl _, .refl _, .refl _, .refl _, .refl _, .refl _, .refl _, VLe2.slm_of (by simp), .refl _, .refl _, VLe2.int (by omega), trivial⟩ (haveV.row rfl rfl (haveV.map (kvS_pure _) rfl (haveV.row (pure_st _) rfl (haveV.row (pure_st _) rfl trivial))))
  intro _ _
  rw [← hF]
  refine VS.weak (rsFz2 e ao on B C L L) ?_
  have hS1 := Same_f L {} {} (by omega)
  have hS2 : C = B → _ := fun h => Same_f B {} {} (by omega)
  by_cases hd : e.day ≤ ao
  · clear hS2
    refine VS.of_V T_ok mixed rfl ?_
    ((repeat ((conv => whnf); (first | (refine As.pre ?_; first | refine As.mk rfl ?_) | (refine LetV.pre ?_; first | refine LetV.mk (.sc (.int _ _)) rfl ?_) | (refine LetB.pre ?_; first | refine LetB.dect (by omega) ?_) | (refine Gd.pre ?_; first | refine Gd.run rfl ?_ | refine Gd.pass rfl ?_) | (refine Ck.pre ?_; first | refine Ck.mk rfl ?_) | (refine CallN.pre ?_; first | refine CallN.pure hS1 rfl rfl ?_)))); (try (conv => whnf)))
    exact ⟨⟨[(4, bool true)], [], 0⟩, SW.fr0 (Nat.zero_le _) rfl ⟨.refl _, trivial⟩, .inl rfl, ⟨_, rfl, rfl⟩, trivial⟩
  · obtain rfl := hG.resolve_left hd
    have hS3 := hS2 rfl
    clear hS2
    refine VS.of_V T_ok mixed rfl ?_
    ((repeat ((conv => whnf); (first | (refine As.pre ?_; first | refine As.mk rfl ?_) | (refine LetV.pre ?_; first | refine LetV.mk (.sc (.int _ _)) rfl ?_) | (refine LetB.pre ?_; first | refine LetB.decf (by omega) ?_) | (refine Gd.pre ?_; first | refine Gd.run rfl ?_) | (refine Ck.pre ?_; first | refine Ck.mk rfl ?_) | (refine CallN.pre ?_; first | refine CallN.pure hS1 rfl rfl ?_ | refine CallN.pure hS3 rfl rfl ?_)))); (try (conv => whnf)))
    exact ⟨⟨[(4, bool true)], [], 0⟩, SW.fr0 (Nat.zero_le _) rfl ⟨.refl _, trivial⟩, .inl rfl, ⟨_, rfl, rfl⟩, trivial⟩
end En
end Go.Proofs.YtgnakhljdjekbaaGreatDoor
namespace Go.Proofs.YtgnakhljdjekbaaGreatDoor
open Go.Proofs.YtgnakhljdjekbaaGreatDoor.Am
set_option maxRecDepth 100000
namespace En
abbrev CXB : Type := List Int × Int × Int × Int × Int
abbrev cxB (x : CXB) : AV := .agg [.ro {} 1 (x.1.map fun n => mkE false [int n]), .sc (.int .u8 x.2.1), .sc (.int .u8 x.2.2.1), int x.2.2.2.1, int x.2.2.2.2]
theorem reaches_row (x : CXB) (k : x.1.length ≤ maxLen) (ks : IntKind.u8.min ≤ x.2.1 ∧ x.2.1 ≤ IntKind.u8.max) (km : IntKind.u8.min ≤ x.2.2.1 ∧ x.2.2.1 ≤ IntKind.u8.max) (y : Int × Int) (k0 : IntKind.u16.min ≤ y.1 ∧ y.1 ≤ IntKind.u16.max) (k1 : IntKind.u16.min ≤ y.2 ∧ y.2 ≤ IntKind.u16.max) :
    AFun Tryz.prog 5 0 [cxB x, .agg [.sc (.int .u16 y.1), .sc (.int .u16 y.2)]] [] (bool true) [] :=
  reachesLaw_f x.1 x.2.1 x.2.2.1 x.2.2.2.1 x.2.2.2.2 y.1 y.2 k ks km k0 k1
end En
end Go.Proofs.YtgnakhljdjekbaaGreatDoor
namespace Go.Proofs.YtgnakhljdjekbaaGreatDoor
open Go.Proofs.YtgnakhljdjekbaaGreatDoor.Am Go.ChangeShapes Go.WideShapes Go.ChangeAt Go.RowKit
set_option maxRecDepth 100000
/-! What the rows list of package-level variables, as the machine reads it. -/
theorem gWords : Tryz.prog.globalNamed "quadrivium/appeal.words" = some 0 := by kernel_rfl
theorem tWords : (Tryz.prog.globals[0]?).map (·.type) = some 74 := by kernel_rfl
theorem gPow : Tryz.prog.globalNamed "internal/strconv.uint64pow10" = some 2 := by kernel_rfl
theorem tPow : (Tryz.prog.globals[2]?).map (·.type) = some 163 := by kernel_rfl
abbrev laidAll : List (String × DataW Unit) := [("math/bits.deBruijn32tab", Rows.laid_math_bits_deBruijn32tab), ("math/bits.deBruijn64tab", Rows.laid_math_bits_deBruijn64tab), ("internal/strconv.uint64pow10", Rows.laid_internal_strconv_uint64pow10), ("quadrivium/appeal.words", Rows.laid_quadrivium_appeal_words)]
/-- The door's own heap meets the condition. -/
theorem door_met (os : Os) (args : Array Value) : laidMetH Tryz.prog laidAll ((World.doorLaid Tryz.prog 4000 os).forCall (fun _ _ => 0) ⟨#[], args, []⟩).memory :=
  laidMetH_of_parts3 (fuel := 8) (laidMet_of_run' 8 (by kernel_rfl) (by kernel_rfl)) (by kernel_rfl) (by kernel_rfl)
def pow10L : List Int := [1, 10, 100, 1000, 10000, 100000, 1000000, 10000000, 100000000, 1000000000, 10000000000, 100000000000, 1000000000000, 10000000000000, 100000000000000, 1000000000000000, 10000000000000000, 100000000000000000, 1000000000000000000, 10000000000000000000]
def wordsB : List (List UInt8) := [[102, 97, 99, 116], [101, 97, 114, 110, 101, 100], [116, 97, 107, 101, 110], [109, 101, 116], [115, 116, 97, 110, 100, 105, 110, 103], [115, 116, 105, 112, 101, 110, 100], [97, 119, 97, 114, 100], [118, 101, 114, 115, 105, 111, 110]]
theorem glob_of_laid {W : World} (h : laidMetH Tryz.prog laidAll W) : GlobW W := by
  rw [MakeChecks.laidMetH_plain _ _ _ (by kernel_rfl)] at h
  obtain ⟨ps, ⟨g0, t0, cs0, f0, p0, q0, hg0, ht0, hv0, hd0, ⟨g1, t1, cs1, f1, p1, q1, hg1, ht1, hv1, hd1, ⟨g2, t2, cs2, f2, p2, q2, hg2, ht2, hv2, hd2, ⟨g3, t3, cs3, f3, p3, q3, hg3, ht3, hv3, hd3, _, _⟩, _⟩, _⟩, _⟩, _⟩ := h
  clear hg0 ht0 hv0 hd0 hg1 ht1 hv1 hd1
  obtain rfl := Option.some.inj (gPow.symm.trans hg2)
  obtain rfl := Option.some.inj (tPow.symm.trans ht2)
  obtain rfl := Option.some.inj (gWords.symm.trans hg3)
  obtain rfl := Option.some.inj (tWords.symm.trans ht3)
  obtain ⟨xs, m1, rfl, hx1, hlen, hn, hel⟩ := DataW.trod_array Tryz.underlying74 hd3
  have c9 : Tryz.prog.cellsOf 9 = 1 := by kernel_rfl
  have hmap : xs.map (·.1) = wordsB.map fun l => (.lit (.string l) : DataW Unit) := by
    have := congrArg Prod.fst hx1
    simp only [Rows.laid_quadrivium_appeal_words, DataW.agg.injEq] at this
    exact this.symm
  have hcell : ∀ (i : Nat) (l : List UInt8), wordsB[i]? = some l → cs3[i]? = some (.string ⟨l.toArray⟩) := by
    intro i l hi
    have hlt : i < 8 := (List.getElem?_eq_some_iff.1 hi).1
    have h1 := hel i hlt
    have h2 : (xs.map (·.1))[i]? = some (.lit (.string l)) := by rw [hmap, List.getElem?_map, hi]; rfl
    rw [List.getElem?_map] at h2
    obtain ⟨x, hx, hx2⟩ := Option.map_eq_some_iff.1 h2
    rw [hx] at h1
    obtain ⟨s, e1, e2, _⟩ := DataW.trod_string Tryz.underlying9 h1
    rw [e2] at hx2
    simp only [DataW.lit.injEq, Lit.string.injEq] at hx2
    subst hx2
    rw [c9, Nat.mul_one] at e1
    have e3 : (cs3.toList.drop i)[0]? = some (.string s) := by
      have := congrArg (fun l => l[0]?) e1
      rw [List.getElem?_take] at this
      simpa using this
    rw [List.getElem?_drop, Nat.add_zero, Array.getElem?_toList] at e3
    exact e3
  have hh : ∃ ty fz, W.heap[0]? = some (.cells cs3 ty fz) := by
    simp only [World.var?, gWords, Option.bind_some] at hv3
    split at hv3
    · rename_i cs ty fz he
      injection hv3 with e
      subst e
      exact ⟨ty, fz, he⟩
    · cases hv3
  obtain ⟨ty, fz, hh⟩ := hh
  obtain ⟨ys, m2, rfl, hy1, hlen2, hn2, hel2⟩ := DataW.trod_array Tryz.underlying163 hd2
  have c137 : Tryz.prog.cellsOf 137 = 1 := by kernel_rfl
  have hmap2 : ys.map (·.1) = pow10L.map fun n => (.lit (.int .u64 n) : DataW Unit) := by
    have := congrArg Prod.fst hy1
    simp only [Rows.laid_internal_strconv_uint64pow10, DataW.agg.injEq] at this
    exact this.symm
  have hcell2 : ∀ (i : Nat) (n : Int), pow10L[i]? = some n → cs2[i]? = some (.int .u64 n) := by
    intro i n hi
    have hlt : i < 20 := (List.getElem?_eq_some_iff.1 hi).1
    have h1 := hel2 i hlt
    have h2 : (ys.map (·.1))[i]? = some (.lit (.int .u64 n)) := by rw [hmap2, List.getElem?_map, hi]; rfl
    rw [List.getElem?_map] at h2
    obtain ⟨x, hx, hx2⟩ := Option.map_eq_some_iff.1 h2
    rw [hx] at h1
    obtain ⟨s, e1, e2, _⟩ := DataW.trod_int Tryz.underlying137 h1
    rw [e2] at hx2
    simp only [DataW.lit.injEq, Lit.int.injEq, true_and] at hx2
    subst hx2
    rw [c137, Nat.mul_one] at e1
    have e3 : (cs2.toList.drop i)[0]? = some (.int .u64 s) := by
      have := congrArg (fun l => l[0]?) e1
      rw [List.getElem?_take] at this
      simpa using this
    rw [List.getElem?_drop, Nat.add_zero, Array.getElem?_toList] at e3
    exact e3
  have hh2 : ∃ ty fz, W.heap[2]? = some (.cells cs2 ty fz) := by
    simp only [World.var?, gPow, Option.bind_some] at hv2
    split at hv2
    · rename_i cs ty fz he
      injection hv2 with e
      subst e
      exact ⟨ty, fz, he⟩
    · cases hv2
  obtain ⟨ty2, fz2, hh2⟩ := hh2
  intro x hx
  have hx' : x = (0, wordsB.map fun l => .string ⟨l.toArray⟩) ∨ x = (2, pow10L.map fun n => .int .u64 n) := by
    rcases List.mem_cons.1 hx with h | h
    · exact .inl h
    · exact .inr (List.mem_singleton.1 h)
  rcases hx' with rfl | rfl
  · refine ⟨(Array.getElem?_eq_some_iff.1 hh).1, cs3, ty, fz, hh, fun j c hj => ?_⟩
    rw [List.getElem?_map] at hj
    obtain ⟨l, hl, rfl⟩ := Option.map_eq_some_iff.1 hj
    exact ⟨hcell j l hl, rfl⟩
  · refine ⟨(Array.getElem?_eq_some_iff.1 hh2).1, cs2, ty2, fz2, hh2, fun j c hj => ?_⟩
    rw [List.getElem?_map] at hj
    obtain ⟨l, hl, rfl⟩ := Option.map_eq_some_iff.1 hj
    exact ⟨hcell2 j l hl, rfl⟩
end Go.Proofs.YtgnakhljdjekbaaGreatDoor
