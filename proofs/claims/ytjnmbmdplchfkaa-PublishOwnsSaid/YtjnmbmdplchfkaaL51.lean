/- publish: parts of the proof, DpublishQD DpublishQE DpublishQF DpublishQG DpublishQH DpublishQI DpublishQJ DpublishQK DpublishQL DpublishQM. -/
import Derived.Test.YtjnmbmdplchfkaaL50
import Derived.Test.YtjnmbmdplchfkaaL43
set_option linter.all false
namespace Go.Proofs.Ytjnmbmdplchfkaa
open Go.Proofs.Ytjnmbmdplchfkaa.Am
set_option maxRecDepth 100000
variable [Lo]
namespace Pb
theorem frzN {f : FuncId} {vs : List AV} {H0 : AH} {fl : Fl} {xs : List Int} {a : Nat} {k n m : Int} {s : List Co} {l : List Nd} (h : AFun Try.prog f 1 vs H0 (.agg [int k, int n, int m, .ro {} 2 (s.map coA), .slm {} 1 5 0 l.length]) [(0, drawB fl xs a), (1, .row 5 nty (l.map nd))]) : AFun Try.prog f 1 vs H0 (nd (.mk k n m s l)) [(0, drawB fl xs a)] := by
  have e := frz_slm (H := [(0, drawB fl xs a), (1, .row 5 nty (l.map nd))]) (F := [1]) (fl := {}) (id := 1) rfl rfl (show l.length = (l.map nd).length by simp)
  rw [nd_mk]
  refine (AFun.frz [1] h (by show (AV.namesL (fun _ => false) (l.map nd) && true) = true; rw [pure_nd l]; rfl) rfl ?_).cast ?_ rfl
  · show (true && (true && (true && (true && (AV.frzOk [(0, drawB fl xs a), (1, .row 5 nty (l.map nd))] (List.contains [1]) (.slm {} 1 5 0 l.length) && true))))) = true
    rw [e.2]; rfl
  · show AV.agg [_, _, _, _, AV.frz [(0, drawB fl xs a), (1, .row 5 nty (l.map nd))] (List.contains [1]) (.slm {} 1 5 0 l.length)] = _
    rw [e.1]; rfl
theorem min_get3 (n : Int) (h : 0 ≤ n ∧ n < 3) : ∃ c : Int, (-1000 ≤ c ∧ c ≤ 1000) ∧ int c = ([int 0, int 50, int 60] : List AV).getD n.toNat (.sc undef) := by
  obtain ⟨m, rfl⟩ : ∃ m : Nat, n = m := ⟨n.toNat, by omega⟩
  have : m = 0 ∨ m = 1 ∨ m = 2 := by omega
  rcases this with rfl | rfl | rfl <;> exact ⟨_, by decide, rfl⟩
theorem min_get4 (n : Int) (h : 0 ≤ n ∧ n < 4) : ∃ c : Int, (-1000 ≤ c ∧ c ≤ 1000) ∧ int c = ([int 0, int 50, int 60, int 80] : List AV).getD n.toNat (.sc undef) := by
  obtain ⟨m, rfl⟩ : ∃ m : Nat, n = m := ⟨n.toNat, by omega⟩
  have : m = 0 ∨ m = 1 ∨ m = 2 ∨ m = 3 := by omega
  rcases this with rfl | rfl | rfl | rfl <;> exact ⟨_, by decide, rfl⟩
abbrev zz5 : AV := .agg [int 0, int 0, int 0, .sc (.slice none 0 0), .sc (.slice none 0 0)]
abbrev leS2 (fl : Fl) (xs : List Int) (n : Nat) (lv v0 : Int) (a1 : Nat) : AS := ⟨[(0, .ptr 0 2 0 0), (1, int n), (2, int lv), (6, .ptr 1 5 0 0), (7, int v0), (22, bool true)], [(0, drawB fl xs a1), (1, .row 5 nty [zz5])], 2⟩
set_option maxHeartbeats 3200000 in
set_option maxRecDepth 100000 in
theorem made_leaf (fl : Fl) (xs : List Int) (hx : xs.length ≤ 9223372036854775807) (n : Nat) (hn : n ≤ 3) (lv : Int) (hlv : 0 ≤ lv ∧ lv ≤ 6) (at_ : Nat) (v0 : Int) (a1 : Nat) (r0 : 0 ≤ v0 ∧ v0 < 6) (q1 : a1 ≤ xs.length)
    (N0 : AFun Try.prog 28 1 [.ptr 0 2 0 0, int 6] [(0, drawB fl xs at_)] (int v0) [(0, drawB fl xs a1)])
    (hc : n = 0 ∨ lv < 2 ∨ v0 < 2) : ∃ x a, MN n lv x ∧ a ≤ xs.length ∧
    AFun Try.prog 31 1 [.ptr 0 2 0 0, int n, int lv] [(0, drawB fl xs at_)] (nd x) [(0, drawB fl xs a)] := by
  obtain ⟨v1, a2, r1, q2, N1⟩ := made_next fl xs hx a1 3 q1 (by omega)
  by_cases e1 : v1 = 0
  · obtain ⟨v2, a3, r2, q3, N2⟩ := made_next fl xs hx a2 12 q2 (by omega)
    obtain ⟨v3, a4, r3, q4, N3⟩ := made_next fl xs hx a3 3 q3 (by omega)
    obtain ⟨m, hm, km⟩ := min_get3 v3 r3
    obtain ⟨s, a5, hs, q5, N4⟩ := set_f fl xs hx a4 q4
    refine ⟨.mk 2 (1 + v2) m s [], a5, .leaf rfl (.credits _ _ _ (by omega) (hs m hm)), q5, ?_⟩
    rw [nd_mk]
    clear hs
    refine AFun.of_VS T_ok Try.func31 rfl (Nat.le_of_ble_eq_true rfl) ?_
    refine VS.cut T_ok mixed rfl ?_
    ((repeat ((conv => whnf); (first | (refine LetN.pre ?_; first | ((conv => arg 1; whnf); refine LetN.mk ?_)) | (refine As.pre ?_; first | refine As.mk rfl ?_) | (refine Ck.pre ?_; first | refine Ck.mk rfl ?_)))); (try (conv => whnf)))
    refine VS.cut T_ok mixed rfl ?_
    ((repeat ((conv => whnf); (first | (refine LetN.pre ?_; first | ((conv => arg 1; whnf); refine LetN.mk ?_)) | (refine As.pre ?_; first | refine As.mk rfl ?_) | (refine Ck.pre ?_; first | refine Ck.mk rfl ?_) | (refine LetL.pre ?_; first | refine LetL.mk [_] rfl ?_) | (refine CallN.pre ?_; first | refine CallN.own (fun _ => 0) N0 (CallOk.mk' rfl rfl rfl (namesAll.row rfl rfl) rfl (namesAll.row rfl rfl) (haveAll.row rfl rfl trivial)) ?_)))); (try (conv => whnf)))
    refine VS.seq ?_
    refine VS.joinN (fun _ : Unit => leS2 fl xs n lv v0 a1) (fun _ => True) ?_ ?_
    case refine_1 =>
      refine VS.of_V T_ok mixed rfl ?_
      by_cases c1 : (n : Int) ≤ 0
      · ((repeat ((conv => whnf); (first | (refine As.pre ?_; first | refine As.mk rfl ?_) | (refine LetB.pre ?_; first | refine LetB.dect (by omega) ?_) | (refine Gd.pre ?_; first | refine Gd.pass rfl ?_) | (refine Ck.pre ?_; first | refine Ck.mk rfl ?_)))); (try (conv => whnf)))
        exact ⟨rfl, (), trivial, SW.mk id rfl rfl rfl ⟨.refl _, .refl _, .refl _, .refl _, .refl _, .refl _, trivial⟩ (haveV.row rfl rfl (haveV.one rfl trivial))⟩
      · by_cases c2 : lv < 2
        · ((repeat ((conv => whnf); (first | (refine As.pre ?_; first | refine As.mk rfl ?_) | (refine LetB.pre ?_; first | refine LetB.dect (by omega) ?_ | refine LetB.decf (by omega) ?_) | (refine Gd.pre ?_; first | refine Gd.run rfl ?_ | refine Gd.pass rfl ?_) | (refine Ck.pre ?_; first | refine Ck.mk rfl ?_)))); (try (conv => whnf)))
          exact ⟨rfl, (), trivial, SW.mk id rfl rfl rfl ⟨.refl _, .refl _, .refl _, .refl _, .refl _, .refl _, trivial⟩ (haveV.row rfl rfl (haveV.one rfl trivial))⟩
        · have c3 : v0 < 2 := by omega
          ((repeat ((conv => whnf); (first | (refine As.pre ?_; first | refine As.mk rfl ?_) | (refine LetB.pre ?_; first | refine LetB.dect (by omega) ?_ | refine LetB.decf (by omega) ?_) | (refine Gd.pre ?_; first | refine Gd.run rfl ?_) | (refine Ck.pre ?_; first | refine Ck.mk rfl ?_)))); (try (conv => whnf)))
          exact ⟨rfl, (), trivial, SW.mk id rfl rfl rfl ⟨.refl _, .refl _, .refl _, .refl _, .refl _, .refl _, trivial⟩ (haveV.row rfl rfl (haveV.one rfl trivial))⟩
    intro _ _
    refine VS.condT rfl rfl ?_
    refine VS.seq ?_
    refine VS.cut T_ok mixed rfl ?_
    ((repeat ((conv => whnf); (first | (refine LetN.pre ?_; first | ((conv => arg 1; whnf); refine LetN.mk ?_)) | (refine As.pre ?_; first | refine As.mk rfl ?_) | (refine LetB.pre ?_; first | refine LetB.dect (by omega) ?_) | (refine Ck.pre ?_; first | refine Ck.mk rfl ?_) | (refine LetL.pre ?_; first | refine LetL.mk [_] rfl ?_) | (refine CallN.pre ?_; first | refine CallN.own (fun _ => 0) N1 (CallOk.mk' rfl rfl rfl (namesAll.row rfl rfl) rfl (namesAll.row rfl rfl) (haveAll.row rfl rfl trivial)) ?_)))); (try (conv => whnf)))
    refine VS.condT rfl rfl ?_
    refine VS.of_V T_ok mixed rfl ?_
    ((repeat ((conv => whnf); (first | (refine LetN.pre ?_; first | ((conv => arg 1; whnf); refine LetN.mk ?_)) | (refine As.pre ?_; first | refine As.mk rfl ?_ | (refine As.mk ?_ ?_; · ((repeat' (refine andT ?_ ?_)) <;> (first | rfl | assumption | exact decide_eq_true (by omega) | exact decide_eq_true (by dsimp only; omega) | exact decide_eq_true (by simp; omega) | (simp; done))))) | (refine LetV.pre ?_; first | refine LetV.mk (t := 26) _ km ?_ | refine LetV.mk (.sc (.int _ _)) rfl ?_) | (refine LetI.pre ?_; first | refine LetI.wrap (by omega) (by omega) ?_) | (refine Ck.pre ?_; first | refine Ck.drawn (by kernel_rfl) ?_ | refine Ck.mk rfl ?_) | (refine LetL.pre ?_; first | refine LetL.mk (ty := nty) [.agg [_, _, _, _, _]] rfl ?_ | refine LetL.mk [_] rfl ?_) | (refine CallN.pre ?_; first | refine CallN.own (fun _ => 0) N2 (CallOk.mk' rfl rfl rfl (namesAll.row rfl rfl) rfl (namesAll.row rfl rfl) (haveAll.row rfl rfl trivial)) ?_ | refine CallN.own (fun _ => 0) N3 (CallOk.mk' rfl rfl rfl (namesAll.row rfl rfl) rfl (namesAll.row rfl rfl) (haveAll.row rfl rfl trivial)) ?_ | refine CallN.own (fun _ => 0) N4 (CallOk.mk' rfl rfl rfl (namesAll.row rfl rfl) rfl (namesAll.row rfl rfl) (haveAll.row rfl rfl trivial)) ?_)))); (try (conv => whnf)))
    exact ⟨⟨[(6, .ptr 1 5 0 0)], [(0, drawB fl xs a5), (1, .row 5 nty [.agg [int 2, int (1 + v2), int m, .ro {} 2 (s.map coA), .ro {} 5 []]])], 2⟩, SW.mk id rfl rfl rfl ⟨.refl _, trivial⟩ (haveV.row rfl rfl (haveV.agg rfl ⟨.refl _, .refl _, .refl _, .refl _, VLe2.nilro, trivial⟩ trivial)), .inl rfl, ⟨_, rfl, rfl⟩, rfl, trivial⟩
  · obtain ⟨v3, a4, r3, q4, N3⟩ := made_next fl xs hx a2 4 q2 (by omega)
    obtain ⟨m, hm, km⟩ := min_get4 v3 r3
    obtain ⟨s, a5, hs, q5, N4⟩ := set_f fl xs hx a4 q4
    refine ⟨.mk 1 0 m s [], a5, .leaf rfl (.course _ _ (hs m hm)), q5, ?_⟩
    rw [nd_mk]
    clear hs
    refine AFun.of_VS T_ok Try.func31 rfl (Nat.le_of_ble_eq_true rfl) ?_
    refine VS.cut T_ok mixed rfl ?_
    ((repeat ((conv => whnf); (first | (refine LetN.pre ?_; first | ((conv => arg 1; whnf); refine LetN.mk ?_)) | (refine As.pre ?_; first | refine As.mk rfl ?_) | (refine Ck.pre ?_; first | refine Ck.mk rfl ?_)))); (try (conv => whnf)))
    refine VS.cut T_ok mixed rfl ?_
    ((repeat ((conv => whnf); (first | (refine LetN.pre ?_; first | ((conv => arg 1; whnf); refine LetN.mk ?_)) | (refine As.pre ?_; first | refine As.mk rfl ?_) | (refine Ck.pre ?_; first | refine Ck.mk rfl ?_) | (refine LetL.pre ?_; first | refine LetL.mk [_] rfl ?_) | (refine CallN.pre ?_; first | refine CallN.own (fun _ => 0) N0 (CallOk.mk' rfl rfl rfl (namesAll.row rfl rfl) rfl (namesAll.row rfl rfl) (haveAll.row rfl rfl trivial)) ?_)))); (try (conv => whnf)))
    refine VS.seq ?_
    refine VS.joinN (fun _ : Unit => leS2 fl xs n lv v0 a1) (fun _ => True) ?_ ?_
    case refine_1 =>
      refine VS.of_V T_ok mixed rfl ?_
      by_cases c1 : (n : Int) ≤ 0
      · ((repeat ((conv => whnf); (first | (refine As.pre ?_; first | refine As.mk rfl ?_) | (refine LetB.pre ?_; first | refine LetB.dect (by omega) ?_) | (refine Gd.pre ?_; first | refine Gd.pass rfl ?_) | (refine Ck.pre ?_; first | refine Ck.mk rfl ?_)))); (try (conv => whnf)))
        exact ⟨rfl, (), trivial, SW.mk id rfl rfl rfl ⟨.refl _, .refl _, .refl _, .refl _, .refl _, .refl _, trivial⟩ (haveV.row rfl rfl (haveV.one rfl trivial))⟩
      · by_cases c2 : lv < 2
        · ((repeat ((conv => whnf); (first | (refine As.pre ?_; first | refine As.mk rfl ?_) | (refine LetB.pre ?_; first | refine LetB.dect (by omega) ?_ | refine LetB.decf (by omega) ?_) | (refine Gd.pre ?_; first | refine Gd.run rfl ?_ | refine Gd.pass rfl ?_) | (refine Ck.pre ?_; first | refine Ck.mk rfl ?_)))); (try (conv => whnf)))
          exact ⟨rfl, (), trivial, SW.mk id rfl rfl rfl ⟨.refl _, .refl _, .refl _, .refl _, .refl _, .refl _, trivial⟩ (haveV.row rfl rfl (haveV.one rfl trivial))⟩
        · have c3 : v0 < 2 := by omega
          ((repeat ((conv => whnf); (first | (refine As.pre ?_; first | refine As.mk rfl ?_) | (refine LetB.pre ?_; first | refine LetB.dect (by omega) ?_ | refine LetB.decf (by omega) ?_) | (refine Gd.pre ?_; first | refine Gd.run rfl ?_) | (refine Ck.pre ?_; first | refine Ck.mk rfl ?_)))); (try (conv => whnf)))
          exact ⟨rfl, (), trivial, SW.mk id rfl rfl rfl ⟨.refl _, .refl _, .refl _, .refl _, .refl _, .refl _, trivial⟩ (haveV.row rfl rfl (haveV.one rfl trivial))⟩
    intro _ _
    refine VS.condT rfl rfl ?_
    refine VS.seq ?_
    refine VS.cut T_ok mixed rfl ?_
    ((repeat ((conv => whnf); (first | (refine LetN.pre ?_; first | ((conv => arg 1; whnf); refine LetN.mk ?_)) | (refine As.pre ?_; first | refine As.mk rfl ?_) | (refine LetB.pre ?_; first | refine LetB.decf (by omega) ?_) | (refine Ck.pre ?_; first | refine Ck.mk rfl ?_) | (refine LetL.pre ?_; first | refine LetL.mk [_] rfl ?_) | (refine CallN.pre ?_; first | refine CallN.own (fun _ => 0) N1 (CallOk.mk' rfl rfl rfl (namesAll.row rfl rfl) rfl (namesAll.row rfl rfl) (haveAll.row rfl rfl trivial)) ?_)))); (try (conv => whnf)))
    refine VS.condF rfl rfl (VS.skip ?_)
    refine VS.of_V T_ok mixed rfl ?_
    ((repeat ((conv => whnf); (first | (refine LetN.pre ?_; first | ((conv => arg 1; whnf); refine LetN.mk ?_)) | (refine As.pre ?_; first | refine As.mk rfl ?_ | (refine As.mk ?_ ?_; · ((repeat' (refine andT ?_ ?_)) <;> (first | rfl | assumption | exact decide_eq_true (by omega) | exact decide_eq_true (by dsimp only; omega) | exact decide_eq_true (by simp; omega) | (simp; done))))) | (refine LetV.pre ?_; first | refine LetV.mk (t := 26) _ km ?_ | refine LetV.mk (.sc (.int _ _)) rfl ?_) | (refine Ck.pre ?_; first | refine Ck.drawn (by kernel_rfl) ?_ | refine Ck.mk rfl ?_) | (refine LetL.pre ?_; first | refine LetL.mk (ty := nty) [.agg [_, _, _, _, _]] rfl ?_ | refine LetL.mk [_] rfl ?_) | (refine CallN.pre ?_; first | refine CallN.own (fun _ => 0) N3 (CallOk.mk' rfl rfl rfl (namesAll.row rfl rfl) rfl (namesAll.row rfl rfl) (haveAll.row rfl rfl trivial)) ?_ | refine CallN.own (fun _ => 0) N4 (CallOk.mk' rfl rfl rfl (namesAll.row rfl rfl) rfl (namesAll.row rfl rfl) (haveAll.row rfl rfl trivial)) ?_)))); (try (conv => whnf)))
    exact ⟨⟨[(6, .ptr 1 5 0 0)], [(0, drawB fl xs a5), (1, .row 5 nty [.agg [int 1, int 0, int m, .ro {} 2 (s.map coA), .ro {} 5 []]])], 2⟩, SW.mk id rfl rfl rfl ⟨.refl _, trivial⟩ (haveV.row rfl rfl (haveV.agg rfl ⟨.refl _, .refl _, .refl _, .refl _, VLe2.nilro, trivial⟩ trivial)), .inl rfl, ⟨_, rfl, rfl⟩, rfl, trivial⟩
end Pb
end Go.Proofs.Ytjnmbmdplchfkaa
namespace Go.Proofs.Ytjnmbmdplchfkaa
open Go.Proofs.Ytjnmbmdplchfkaa.Am
set_option maxRecDepth 100000
variable [Lo]
namespace Pb
abbrev z5 : AV := .agg [int 0, int 0, int 0, .sc (.slice none 0 0), .sc (.slice none 0 0)]
abbrev nb5 (k n : Int) (len : Nat) : AV := .agg [int k, int n, int 0, .ro {} 2 [], .slm {} 3 5 0 len]
abbrev mdH (fl : Fl) (xs : List Int) (at_ : Nat) (l : List Nd) : AH := [(0, drawB fl xs at_), (1, .row 5 nty [z5]), (2, .row 5 nty [nb5 3 0 l.length]), (3, .row 5 nty (l.map nd))]
abbrev mdS (fl : Fl) (xs : List Int) (n lv v0 many : Int) : Nat × Nat × List Nd → AS
  | (k, at_, l) => ⟨[(0, .ptr 0 2 0 0), (1, int n), (2, int lv), (6, .ptr 1 5 0 0), (7, int v0), (8, int many), (9, .ptr 2 5 0 0), (10, int k)], mdH fl xs at_ l, 4⟩
abbrev mdT (fl : Fl) (xs : List Int) (n lv v0 many : Int) : Nat × List Nd → AS
  | (at_, l) => ⟨[(0, .ptr 0 2 0 0), (1, int n), (2, int lv), (6, .ptr 1 5 0 0), (7, int v0), (8, int many), (9, .ptr 2 5 0 0)], mdH fl xs at_ l, 4⟩
abbrev mdU (fl : Fl) (xs : List Int) (k u : Int) : Nat × List Nd → AS
  | (at_, l) => ⟨[(6, .ptr 1 5 0 0), (9, .ptr 2 5 0 0)], [(0, drawB fl xs at_), (1, .row 5 nty [z5]), (2, .row 5 nty [nb5 k u l.length]), (3, .row 5 nty (l.map nd))], 4⟩
theorem mdM (fl : Fl) (xs : List Int) (at_ : Nat) (k u : Int) (l : List Nd) (ok : Nat → Bool) (h : ok 3 = true) : namesAll ok [(0, drawB fl xs at_), (1, .row 5 nty [z5]), (2, .row 5 nty [nb5 k u l.length]), (3, .row 5 nty (l.map nd))] = true := by
  have h1 : namesAll ok [(3, .row 5 nty (l.map nd))] = true := namesAll.row (pure_nd l) rfl
  rw [namesAll, namesAll, namesAll, h1]
  simp only [Blk.names, AV.namesL, AV.names, h]; rfl
abbrev nb51 (k n : Int) (len : Nat) : AV := .agg [int k, int n, int 0, .ro {} 2 [], .slm {} 1 5 0 len]
theorem mdK (fl : Fl) (xs : List Int) (at_ : Nat) (k u : Int) (l : List Nd) (ok : Nat → Bool) (h : ok 1 = true) : namesAll ok [(0, drawB fl xs at_), (1, .row 5 nty (l.map nd)), (2, .row 5 nty [nb51 k u l.length])] = true := by
  have h1 : namesAll ok [(2, .row 5 nty [nb51 k u l.length])] = true := by
    rw [namesAll]; simp only [Blk.names, AV.namesL, AV.names, h]; rfl
  exact namesAll.row rfl (namesAll.row (pure_nd l) h1)
theorem mdN (fl : Fl) (xs : List Int) (at_ : Nat) (l : List Nd) (ok : Nat → Bool) (h : ok 3 = true) : namesAll ok (mdH fl xs at_ l) = true := by
  have h1 : namesAll ok [(3, .row 5 nty (l.map nd))] = true := namesAll.row (pure_nd l) rfl
  rw [namesAll, namesAll, namesAll, h1]
  simp only [Blk.names, AV.namesL, AV.names, h]; rfl
theorem tdiv_many {lv many : Int} (h : 2 ≤ lv ∧ lv ≤ 6) (hm : 1 ≤ many ∧ many ≤ 3 ∧ many ≤ lv) : 0 ≤ lv.tdiv many ∧ lv.tdiv many ≤ 6 ∧ many * lv.tdiv many ≤ lv := by
  have e1 : lv = 2 ∨ lv = 3 ∨ lv = 4 ∨ lv = 5 ∨ lv = 6 := by omega
  have e2 : many = 1 ∨ many = 2 ∨ many = 3 := by omega
  rcases e1 with rfl | rfl | rfl | rfl | rfl <;> rcases e2 with rfl | rfl | rfl <;> decide
theorem frzM {f : FuncId} {vs : List AV} {H0 : AH} {fl : Fl} {xs : List Int} {a : Nat} {k n : Int} {l : List Nd} (h : AFun Try.prog f 1 vs H0 (.agg [int k, int n, int 0, .ro {} 2 [], .slm {} 1 5 0 l.length]) [(0, drawB fl xs a), (1, .row 5 nty (l.map nd))]) : AFun Try.prog f 1 vs H0 (nd (.mk k n 0 [] l)) [(0, drawB fl xs a)] := frzN (s := []) h
set_option maxHeartbeats 6400000 in
set_option maxRecDepth 100000 in
theorem made_node (fl : Fl) (xs : List Int) (hx : xs.length ≤ 9223372036854775807) (n : Nat) (hn : n ≤ 2) (lv : Int) (hlv : 2 ≤ lv ∧ lv ≤ 6) (at_ : Nat) (v0 : Int) (a1 : Nat) (r0 : 2 ≤ v0 ∧ v0 < 6) (q1 : a1 ≤ xs.length)
    (N0 : AFun Try.prog 28 1 [.ptr 0 2 0 0, int 6] [(0, drawB fl xs at_)] (int v0) [(0, drawB fl xs a1)])
    (ih : ∀ (b : Int) (at_ : Nat), 0 ≤ b ∧ b ≤ 6 → at_ ≤ xs.length → ∃ x a, MN n b x ∧ a ≤ xs.length ∧ AFun Try.prog 31 1 [.ptr 0 2 0 0, int n, int b] [(0, drawB fl xs at_)] (nd x) [(0, drawB fl xs a)]) :
    ∃ x : (Int × Int × List Nd) × Nat, (MN (n + 1) lv (.mk x.1.1 x.1.2.1 0 [] x.1.2.2) ∧ x.2 ≤ xs.length) ∧
    AFun Try.prog 31 1 [.ptr 0 2 0 0, int (n + 1 : Nat), int lv] [(0, drawB fl xs at_)] (.agg [int x.1.1, int x.1.2.1, int 0, .ro {} 2 [], .slm {} 1 5 0 x.1.2.2.length]) [(0, drawB fl xs x.2), (1, .row 5 nty (x.1.2.2.map nd))] := by
  obtain ⟨w, a2, r1, q2, N1⟩ := made_next fl xs hx a1 (min 3 lv) q1 (by omega)
  refine AFun.of_VSE (p := 1) (H := [(0, drawB fl xs at_)]) T_ok (v := fun x : (Int × Int × List Nd) × Nat => .agg [int x.1.1, int x.1.2.1, int 0, .ro {} 2 [], .slm {} 1 5 0 x.1.2.2.length]) (H' := fun x : (Int × Int × List Nd) × Nat => [(0, drawB fl xs x.2), (1, .row 5 nty (x.1.2.2.map nd))]) Try.func31 rfl (Nat.le_of_ble_eq_true rfl) ?_
  refine VS.cut T_ok mixed rfl ?_
  ((repeat ((conv => whnf); (first | (refine LetN.pre ?_; first | ((conv => arg 1; whnf); refine LetN.mk ?_)) | (refine As.pre ?_; first | refine As.mk rfl ?_) | (refine Ck.pre ?_; first | refine Ck.mk rfl ?_)))); (try (conv => whnf)))
  refine VS.cut T_ok mixed rfl ?_
  ((repeat ((conv => whnf); (first | (refine LetN.pre ?_; first | ((conv => arg 1; whnf); refine LetN.mk ?_)) | (refine As.pre ?_; first | refine As.mk rfl ?_) | (refine Ck.pre ?_; first | refine Ck.mk rfl ?_) | (refine LetL.pre ?_; first | refine LetL.mk [_] rfl ?_) | (refine CallN.pre ?_; first | refine CallN.own (fun _ => 0) N0 (CallOk.mk' rfl rfl rfl (namesAll.row rfl rfl) rfl (namesAll.row rfl rfl) (haveAll.row rfl rfl trivial)) ?_)))); (try (conv => whnf)))
  refine VS.seq ?_
  refine VS.joinN (fun _ : Unit => ⟨[(0, .ptr 0 2 0 0), (1, int (n + 1 : Nat)), (2, int lv), (6, .ptr 1 5 0 0), (7, int v0), (22, bool false)], [(0, drawB fl xs a1), (1, .row 5 nty [zz5])], 2⟩) (fun _ => True) ?_ ?_
  case refine_1 =>
    refine VS.of_V T_ok mixed rfl ?_
    ((repeat ((conv => whnf); (first | (refine As.pre ?_; first | refine As.mk rfl ?_) | (refine LetB.pre ?_; first | refine LetB.ff rfl ?_ | refine LetB.decf (by omega) ?_) | (refine Gd.pre ?_; first | refine Gd.run rfl ?_) | (refine Ck.pre ?_; first | refine Ck.mk rfl ?_)))); (try (conv => whnf)))
    exact ⟨rfl, (), trivial, SW.mk id rfl rfl rfl ⟨.refl _, .refl _, .refl _, .refl _, .refl _, .refl _, trivial⟩ (haveV.row rfl rfl (haveV.one rfl trivial))⟩
  intro _ _
  refine VS.condF rfl rfl (VS.skip ?_)
  refine VS.cut T_ok mixed rfl ?_
  ((repeat ((conv => whnf); (first | (refine LetN.pre ?_; first | ((conv => arg 1; whnf); refine LetN.mk ?_)) | (refine As.pre ?_; first | refine As.mk rfl ?_) | (refine LetI.pre ?_; first | refine LetI.wrap (by omega) (by omega) ?_ | refine LetI.mk _ rfl ?_) | (refine Ck.pre ?_; first | refine Ck.mk rfl ?_) | (refine LetL.pre ?_; first | refine LetL.mk [_] rfl ?_) | (refine CallN.pre ?_; first | refine CallN.own (fun _ => 0) N1 (CallOk.mk' rfl rfl rfl (namesAll.row rfl rfl) rfl (namesAll.row rfl rfl) (haveAll.row rfl rfl trivial)) ?_)))); (try (conv => whnf)))
  refine VS.cut T_ok mixed rfl ?_
  ((repeat ((conv => whnf); (first | (refine LetN.pre ?_; first | ((conv => arg 1; whnf); refine LetN.mk ?_)) | (refine As.pre ?_; first | refine As.mk rfl ?_) | (refine Ck.pre ?_; first | refine Ck.mk rfl ?_) | (refine LetL.pre ?_; first | refine LetL.mk [_] rfl ?_)))); (try (conv => whnf)))
  have hm : 1 ≤ 1 + w ∧ 1 + w ≤ 3 ∧ 1 + w ≤ lv := by omega
  have htd := tdiv_many hlv hm
  have hnz : ((1 + w) != 0) = true := by simp; omega
  generalize hb : lv.tdiv (1 + w) = b at htd
  have hq : b = IntKind.i64.wrap (lv.tdiv (1 + w)) := by rw [hb, wrap_id (by omega) (by omega)]
  refine VS.joinN (fun x : Nat × List Nd => mdT fl xs (n + 1 : Nat) lv v0 (1 + w) x) (fun x => x.1 ≤ xs.length ∧ (x.2.length : Int) = 1 + w ∧ ∀ y ∈ x.2, MN n b y) ?_ ?_
  case refine_1 =>
    refine VS.of_V T_ok mixed rfl ?_
    ((repeat ((conv => whnf); (first | (refine As.pre ?_; first | refine As.mk rfl ?_) | (refine Ck.pre ?_; first | refine Ck.mk rfl ?_)))); (try (conv => whnf)))
    refine LoopN.weak (s1 := mdS fl xs (n + 1 : Nat) lv v0 (1 + w) (0, a2, [])) ?sw1 ?_
    case sw1 => exact SW.mk id rfl rfl (mdN _ _ _ _ _ rfl) ⟨.refl _, .refl _, .refl _, .refl _, .refl _, .refl _, .refl _, .refl _, trivial⟩ (haveV.row rfl rfl (haveV.one rfl (haveV.agg rfl ⟨.refl _, .refl _, .refl _, VLe2.nilro, VLe2.nilslm, trivial⟩ (haveV.nil (Nat.le_of_ble_eq_true rfl) trivial))))
    refine LoopN.ind T_ok mixed (S := mdS fl xs (n + 1 : Nat) lv v0 (1 + w)) (fun i => 24 - i.1) (fun i => ((i.1 : Int) ≤ 1 + w ∧ i.2.1 ≤ xs.length) ∧ i.2.2.length = i.1 ∧ (∀ x ∈ i.2.2, MN n b x)) (fun _ => rfl) (fun i hi ih' => ?_) (0, a2, []) ⟨⟨by show (0 : Int) ≤ 1 + w; omega, q2⟩, rfl, fun c h => absurd h List.not_mem_nil⟩
    obtain ⟨k, a3, l⟩ := i
    obtain ⟨⟨h1, h2⟩, h3, h4⟩ := hi
    dsimp only at h1 h2 h3 h4
    by_cases hlt : (k : Int) < 1 + w
    case neg =>
      clear ih ih' hq
      have hlen : (l.length : Int) = 1 + w := by omega
      ((repeat ((conv => whnf); (first | (refine As.pre ?_; first | refine As.mk rfl ?_) | (refine LetB.pre ?_; first | refine LetB.decf (by omega) ?_) | (refine Br.pre ?_; first | refine Br.ff rfl ?_) | (refine Ck.pre ?_; first | refine Ck.mk rfl ?_)))); (try (conv => whnf)))
      exact ⟨rfl, (a3, l), ⟨h2, hlen, h4⟩, SW.mk id rfl rfl (mdN _ _ _ _ _ rfl) ⟨.refl _, .refl _, .refl _, .refl _, .refl _, .refl _, .refl _, trivial⟩ (haveV.row rfl rfl (haveV.one rfl (haveV.one rfl (haveV.row (pure_nd _) rfl trivial))))⟩
    obtain ⟨x, a4, m4, q4, N4⟩ := ih b a3 ⟨htd.1, htd.2.1⟩ h2
    have hnx := ih' (k + 1, a4, l ++ [x]) ⟨⟨by show ((k + 1 : Nat) : Int) ≤ _; omega, q4⟩, by show (l ++ [x]).length = k + 1; rw [List.length_append, h3]; rfl, by
      intro y hy
      rcases List.mem_append.1 hy with e | e
      · exact h4 y e
      · rw [List.mem_singleton.1 e]; exact m4⟩ (by show 24 - (k + 1) < 24 - k; omega)
    clear ih ih' htd h4 m4
    have hr := room_nd (n := l.length + 1) (by omega)
    have hmL : (l.map nd).length = l.length := List.length_map _
    have a1 := app_nd l x l.length rfl
    have l1 : (l ++ [x]).length = l.length + 1 := by simp
    obtain ⟨k', n', m', s', l'⟩ := x
    rw [nd_mk] at N4 a1
    have hn1 : ((n + 1 : Nat) : Int) - 1 = n := by omega
    have hsub : (n : Int) = IntKind.i64.wrap (((n + 1 : Nat) : Int) - 1) := by rw [hn1, wrap_id (by omega) (by omega)]
    ((repeat ((conv => whnf); (first | (refine LetN.pre ?_; first | ((conv => arg 1; whnf); refine LetN.mk ?_)) | (refine As.pre ?_; first | refine As.mk rfl ?_ | refine As.mk hnz ?_ | (refine As.mk ?_ ?_; · ((repeat' (refine andT ?_ ?_)) <;> (first | rfl | assumption | exact decide_eq_true (by omega) | exact decide_eq_true (by dsimp only; omega) | exact decide_eq_true (by simp; omega) | (simp; done))))) | (refine LetV.pre ?_; first | refine LetV.mk (.slm _ _ _ _ _) rfl ?_) | (refine LetI.pre ?_; first | refine LetI.mk (o := some .sub) n hsub ?_ | refine LetI.mk (o := some .quo) b hq ?_ | refine LetI.wrap (by omega) (by omega) ?_) | (refine LetB.pre ?_; first | refine LetB.dect (by omega) ?_) | (refine Br.pre ?_; first | refine Br.tt rfl ?_) | (refine Ck.pre ?_; first | refine Ck.drawn (by kernel_rfl) ?_ | refine Ck.mk rfl ?_) | (refine LetL.pre ?_; first | refine LetL.mk (ty := nty) _ a1 ?_ | refine LetL.mk (ty := nty) [.agg [_, _, _, _, _]] rfl ?_ | refine LetL.mk [_] rfl ?_) | (refine CallN.pre ?_; first | refine CallN.own (fun _ => 0) N4 (CallOk.mk' rfl rfl rfl (namesAll.row rfl rfl) rfl (namesAll.row rfl rfl) (haveAll.row rfl rfl trivial)) ?_)))); (try (conv => whnf)))






    refine LoopN.weak ?sw2 hnx
    case sw2 => exact SW.mk (fun i => match i with | 3 => 4 | i => i) rfl rfl (mdN _ _ _ _ _ rfl) ⟨.refl _, .refl _, .refl _, .refl _, .refl _, .refl _, .refl _, VLe2.int (by omega), trivial⟩ (haveV.row rfl rfl (haveV.one rfl (haveV.agg rfl ⟨.refl _, .refl _, .refl _, .refl _, VLe2.slm_of l1, trivial⟩ (haveV.row (pure_nd _) rfl trivial))))
  rintro ⟨a3, l⟩ ⟨h2, hlen, h4⟩
  dsimp only at h2 hlen h4 ⊢
  clear ih N0 N1 hq hnz
  refine VS.seq ?_
  refine VS.cut T_ok mixed rfl ?_
  by_cases c : 3 < v0
  · obtain ⟨u, a4, r4, q4, N4⟩ := made_next fl xs hx a3 (1 + w) h2 (by omega)
    ((repeat ((conv => whnf); (first | (refine As.pre ?_; first | refine As.mk rfl ?_) | (refine LetB.pre ?_; first | refine LetB.dect (by omega) ?_) | (refine Ck.pre ?_; first | refine Ck.mk rfl ?_)))); (try (conv => whnf)))
    refine VS.condT rfl rfl ?_
    refine VS.cut T_ok mixed rfl ?_
    ((repeat ((conv => whnf); (first | (refine LetN.pre ?_; first | ((conv => arg 1; whnf); refine LetN.mk ?_)) | (refine As.pre ?_; first | refine As.mk rfl ?_) | (refine Ck.pre ?_; first | refine Ck.mk rfl ?_) | (refine LetL.pre ?_; first | refine LetL.mk [_] rfl ?_)))); (try (conv => whnf)))
    refine VS.of_V T_ok mixed rfl ?_
    ((repeat ((conv => whnf); (first | (refine LetN.pre ?_; first | ((conv => arg 1; whnf); refine LetN.mk ?_)) | (refine As.pre ?_; first | refine As.mk rfl ?_) | (refine LetI.pre ?_; first | refine LetI.wrap (by omega) (by omega) ?_) | (refine Ck.pre ?_; first | refine Ck.mk rfl ?_) | (refine LetL.pre ?_; first | refine LetL.mk (ty := nty) [.agg [_, _, _, _, _]] rfl ?_ | refine LetL.mk [_] rfl ?_) | (refine CallN.pre ?_; first | refine CallN.own (fun _ => 0) N4 (CallOk.mk' rfl rfl rfl (namesAll.row rfl rfl) rfl (namesAll.row rfl rfl) (haveAll.row rfl rfl trivial)) ?_)))); (try (conv => whnf)))


    refine VS.weak (s1 := mdU fl xs 4 (1 + u) (a4, l)) ?sw3 ?_
    case sw3 => exact SW.mk id rfl rfl (mdM _ _ _ _ _ _ _ rfl) ⟨.refl _, .refl _, trivial⟩ (haveV.row rfl rfl (haveV.one rfl (haveV.one rfl (haveV.row (pure_nd _) rfl trivial))))
    refine VS.of_V T_ok mixed rfl ?_
    ((repeat ((conv => whnf); (first | (refine LetN.pre ?_; first | ((conv => arg 1; whnf); refine LetN.mk ?_)) | (refine As.pre ?_; first | refine As.mk rfl ?_) | (refine LetV.pre ?_; first | refine LetV.mk (.agg _) rfl ?_) | (refine Ck.pre ?_; first | refine Ck.mk rfl ?_) | (refine LetL.pre ?_; first | refine LetL.mk (ty := nty) [.agg [_, _, _, _, _]] rfl ?_)))); (try (conv => whnf)))
    have hN : MN (n + 1) lv (.mk 4 (1 + u) 0 [] l) := MN.node (by omega) (by omega) (by omega) (by rw [hlen]; exact htd.2.2) htd.1 (.inr ⟨rfl, by omega, by omega⟩) h4
    exact ⟨((4, 1 + u, l), a4), ⟨hN, q4⟩, ⟨[(6, .ptr 2 5 0 0)], [(0, drawB fl xs a4), (1, .row 5 nty (l.map nd)), (2, .row 5 nty [nb51 4 (1 + u) l.length])], 3⟩, SW.mk (fun i => match i with | 1 => 3 | 2 => 1 | i => i) rfl rfl (mdK _ _ _ _ _ _ _ rfl) ⟨.refl _, trivial⟩ (haveV.row rfl rfl (haveV.row (pure_nd _) rfl (haveV.one rfl trivial))), .inl rfl, ⟨_, rfl, rfl⟩, rfl, rfl, trivial⟩
  · ((repeat ((conv => whnf); (first | (refine As.pre ?_; first | refine As.mk rfl ?_) | (refine LetB.pre ?_; first | refine LetB.decf (by omega) ?_) | (refine Ck.pre ?_; first | refine Ck.mk rfl ?_)))); (try (conv => whnf)))
    refine VS.condF rfl rfl (VS.skip ?_)
    refine VS.weak (s1 := mdU fl xs 3 0 (a3, l)) ?sw4 ?_
    case sw4 => exact SW.mk id rfl rfl (mdM _ _ _ _ _ _ _ rfl) ⟨.refl _, .refl _, trivial⟩ (haveV.row rfl rfl (haveV.one rfl (haveV.one rfl (haveV.row (pure_nd _) rfl trivial))))
    refine VS.of_V T_ok mixed rfl ?_
    ((repeat ((conv => whnf); (first | (refine LetN.pre ?_; first | ((conv => arg 1; whnf); refine LetN.mk ?_)) | (refine As.pre ?_; first | refine As.mk rfl ?_) | (refine LetV.pre ?_; first | refine LetV.mk (.agg _) rfl ?_) | (refine Ck.pre ?_; first | refine Ck.mk rfl ?_) | (refine LetL.pre ?_; first | refine LetL.mk (ty := nty) [.agg [_, _, _, _, _]] rfl ?_)))); (try (conv => whnf)))
    have hN : MN (n + 1) lv (.mk 3 0 0 [] l) := MN.node (by omega) (by omega) (by omega) (by rw [hlen]; exact htd.2.2) htd.1 (.inl ⟨rfl, rfl⟩) h4
    exact ⟨((3, 0, l), a3), ⟨hN, h2⟩, ⟨[(6, .ptr 2 5 0 0)], [(0, drawB fl xs a3), (1, .row 5 nty (l.map nd)), (2, .row 5 nty [nb51 3 0 l.length])], 3⟩, SW.mk (fun i => match i with | 1 => 3 | 2 => 1 | i => i) rfl rfl (mdK _ _ _ _ _ _ _ rfl) ⟨.refl _, trivial⟩ (haveV.row rfl rfl (haveV.row (pure_nd _) rfl (haveV.one rfl trivial))), .inl rfl, ⟨_, rfl, rfl⟩, rfl, rfl, trivial⟩
theorem made_f (fl : Fl) (xs : List Int) (hx : xs.length ≤ 9223372036854775807) : ∀ (n : Nat), n ≤ 3 → ∀ (lv : Int) (at_ : Nat), 0 ≤ lv ∧ lv ≤ 6 → at_ ≤ xs.length → ∃ x a, MN n lv x ∧ a ≤ xs.length ∧
    AFun Try.prog 31 1 [.ptr 0 2 0 0, int n, int lv] [(0, drawB fl xs at_)] (nd x) [(0, drawB fl xs a)] := by
  intro n
  induction n with
  | zero =>
    intro hn lv at_ hlv ha
    obtain ⟨v0, a1, r0, q1, N0⟩ := made_next fl xs hx at_ 6 ha (by omega)
    exact made_leaf fl xs hx 0 hn lv hlv at_ v0 a1 r0 q1 N0 (.inl rfl)
  | succ n ihn =>
    intro hn lv at_ hlv ha
    obtain ⟨v0, a1, r0, q1, N0⟩ := made_next fl xs hx at_ 6 ha (by omega)
    by_cases hc : lv < 2 ∨ v0 < 2
    · exact made_leaf fl xs hx (n + 1) hn lv hlv at_ v0 a1 r0 q1 N0 (.inr hc)
    · obtain ⟨⟨⟨k, m, l⟩, a⟩, ⟨h1, h2⟩, h⟩ := made_node fl xs hx n (by omega) lv (by omega) at_ v0 a1 (by omega) q1 N0 (fun b at_ hb ha => ihn (by omega) b at_ hb ha)
      exact ⟨_, a, h1, h2, frzM h⟩
end Pb
end Go.Proofs.Ytjnmbmdplchfkaa
namespace Go.Proofs.Ytjnmbmdplchfkaa
open Go.Proofs.Ytjnmbmdplchfkaa.Am
set_option maxRecDepth 100000
variable [Lo]
namespace Pb
/-! ### A programme -/
theorem name_get (n : Int) (h : 0 ≤ n ∧ n < 3) : ∃ s : ByteArray, okName s ∧ str s = ([str ⟨#[77, 117, 115, 105, 99]⟩, str ⟨#[76, 97, 119]⟩, str ⟨#[79, 108, 100, 32, 109, 97, 112, 115]⟩] : List AV).getD n.toNat (.sc undef) := by
  obtain ⟨m, rfl⟩ : ∃ m : Nat, n = m := ⟨n.toNat, by omega⟩
  have : m = 0 ∨ m = 1 ∨ m = 2 := by omega
  rcases this with rfl | rfl | rfl
  · exact ⟨⟨#[77, 117, 115, 105, 99]⟩, ⟨⟨by show 1 ≤ 5; omega, by show 5 ≤ 40; omega⟩, fun i h => by
      have : i < 5 := h
      have : i = 0 ∨ i = 1 ∨ i = 2 ∨ i = 3 ∨ i = 4 := by omega
      rcases this with rfl | rfl | rfl | rfl | rfl <;> rfl⟩, rfl⟩
  · exact ⟨⟨#[76, 97, 119]⟩, ⟨⟨by show 1 ≤ 3; omega, by show 3 ≤ 40; omega⟩, fun i h => by
      have : i < 3 := h
      have : i = 0 ∨ i = 1 ∨ i = 2 := by omega
      rcases this with rfl | rfl | rfl <;> rfl⟩, rfl⟩
  · exact ⟨⟨#[79, 108, 100, 32, 109, 97, 112, 115]⟩, ⟨⟨by show 1 ≤ 8; omega, by show 8 ≤ 40; omega⟩, fun i h => by
      have : i < 8 := h
      have : i = 0 ∨ i = 1 ∨ i = 2 ∨ i = 3 ∨ i = 4 ∨ i = 5 ∨ i = 6 ∨ i = 7 := by omega
      rcases this with rfl | rfl | rfl | rfl | rfl | rfl | rfl | rfl <;> rfl⟩, rfl⟩
theorem age_get (n : Int) (h : 0 ≤ n ∧ n < 5) : ∃ c : Int, (0 ≤ c ∧ c ≤ 5) ∧ int c = ([int 0, int 0, int 0, int 2, int 5] : List AV).getD n.toNat (.sc undef) := by
  obtain ⟨m, rfl⟩ : ∃ m : Nat, n = m := ⟨n.toNat, by omega⟩
  have : m = 0 ∨ m = 1 ∨ m = 2 ∨ m = 3 ∨ m = 4 := by omega
  rcases this with rfl | rfl | rfl | rfl | rfl <;> exact ⟨_, by decide, rfl⟩
theorem mul_own {a b : Int} (h : 0 ≤ a ∧ a < 3) (h' : 0 ≤ b ∧ b < 6) : 0 ≤ a * b ∧ a * b ≤ 10 := by
  have : a = 0 ∨ a = 1 ∨ a = 2 := by omega
  rcases this with rfl | rfl | rfl <;> omega
theorem okName_le {s : ByteArray} (h : okName s) : s.size ≤ 1000 := by have := h.1; omega
set_option maxHeartbeats 6400000 in
set_option maxRecDepth 100000 in
theorem MadeAll_f (fl : Fl) (xs : List Int) (hx : xs.length ≤ 9223372036854775807) : ∃ p : Pg, (WP p ∧ p.school = 1 ∧ (1 ≤ p.id ∧ p.id ≤ 3) ∧ (1 ≤ p.ver ∧ p.ver ≤ 3) ∧ (0 ≤ p.from_ ∧ p.from_ ≤ 400) ∧ okName p.name) ∧
    AFun Try.prog 10 0 [.ro fl 1 (xs.map int)] [] (pg p) [] := by
  obtain ⟨v1, a1, r1, q1, N1⟩ := made_next fl xs hx 0 3 (Nat.zero_le _) (by omega)
  obtain ⟨v2, a2, r2, q2, N2⟩ := made_next fl xs hx a1 3 q1 (by omega)
  obtain ⟨v3, a3, r3, q3, N3⟩ := made_next fl xs hx a2 5 q2 (by omega)
  obtain ⟨v4, a4, r4, q4, N4⟩ := made_next fl xs hx a3 3 q3 (by omega)
  obtain ⟨v5, a5, r5, q5, N5⟩ := made_next fl xs hx a4 20 q4 (by omega)
  obtain ⟨v6, a6, r6, q6, N6⟩ := made_next fl xs hx a5 3 q5 (by omega)
  obtain ⟨v7, a7, r7, q7, N7⟩ := made_next fl xs hx a6 6 q6 (by omega)
  obtain ⟨v8, a8, r8, q8, N8⟩ := made_next fl xs hx a7 5 q7 (by omega)
  obtain ⟨v9, a9, r9, q9, N9⟩ := made_next fl xs hx a8 3 q8 (by omega)
  obtain ⟨nm, hnm, k4⟩ := name_get v4 r4
  obtain ⟨age, hage, k8⟩ := age_get v8 r8
  have hown := mul_own r6 r7
  generalize hu : v6 * v7 = u at hown
  have hq : u = IntKind.i64.wrap (v6 * v7) := by rw [hu, wrap_id (by omega) (by omega)]
  by_cases c9 : v9 = 0
  · obtain ⟨ca, a10, oa, q10, N10⟩ := course_f fl xs hx a9 q9
    obtain ⟨cb, a11, ob, q11, N11⟩ := course_f fl xs hx a10 q10
    have hP := rPrecedes_f ca cb
    obtain ⟨x, a12, mx, q12, N12⟩ := made_f fl xs hx 3 (Nat.le_refl _) 6 a11 (by omega) q11
    subst c9
    cases hpr : prec ca cb with
    | true =>
      rw [hpr] at hP
      refine ⟨⟨1, 1 + v1, 1 + v2, 100 * v3, nm, x, v5, u, age, [(ca, cb)]⟩, ⟨⟨mx.wn (Nat.le_refl _), by show 0 ≤ v5 ∧ v5 ≤ 600; omega, by show 0 ≤ u ∧ u ≤ 600; omega, by show 0 ≤ age ∧ age ≤ 100; omega, okName_le hnm, .inr ⟨_, rfl, oa, ob, hpr⟩⟩, rfl, by show 1 ≤ 1 + v1 ∧ 1 + v1 ≤ 3; omega, by show 1 ≤ 1 + v2 ∧ 1 + v2 ≤ 3; omega, by show 0 ≤ 100 * v3 ∧ 100 * v3 ≤ 400; omega, hnm⟩, ?_⟩
      clear mx hnm oa ob q1 q2 q3 q4 q5 q6 q7 q8 q9 q10 q11 q12 hage hpr
      obtain ⟨k, n, m, s, l⟩ := x
      rw [pg_mk]
      rw [nd_mk] at N12
      obtain ⟨ca1, ca2⟩ := ca
      obtain ⟨cb1, cb2⟩ := cb
      refine AFun.of_S T_ok mixed Try.func10 rfl (Nat.le_of_ble_eq_true rfl) rfl ?_
      ((repeat ((conv => whnf); (first | (refine LetN.pre ?_; first | ((conv => arg 1; whnf); refine LetN.mk ?_)) | (refine As.pre ?_; first | refine As.mk rfl ?_ | (refine As.mk ?_ ?_; · ((repeat' (refine andT ?_ ?_)) <;> (first | rfl | assumption | exact decide_eq_true (by omega) | exact decide_eq_true (by dsimp only; omega) | exact decide_eq_true (by simp; omega) | (simp; done))))) | (refine LetV.pre ?_; first | refine LetV.mk (t := 75) _ k4 ?_ | refine LetV.mk (t := 26) _ k8 ?_ | refine LetV.mk (.sc (.int _ _)) rfl ?_ | refine LetV.mk (.sc _) rfl ?_ | refine LetV.mk (.agg _) rfl ?_) | (refine LetI.pre ?_; first | refine LetI.mk (o := some .mul) u hq ?_ | refine LetI.wrap (by omega) (by omega) ?_) | (refine LetB.pre ?_; first | refine LetB.tt rfl ?_) | (refine Br.pre ?_; first | refine Br.tt rfl ?_) | (refine Ck.pre ?_; first | refine Ck.drawn (by kernel_rfl) ?_ | refine Ck.mk rfl ?_) | (refine LetL.pre ?_; first | refine LetL.mk [_] rfl ?_) | (refine CallN.pre ?_; first | refine CallN.own (fun _ => 1) N1 (CallOk.mk' rfl rfl rfl (namesAll.row rfl rfl) rfl (namesAll.row rfl rfl) (haveAll.row rfl rfl trivial)) ?_ | refine CallN.own (fun _ => 1) N2 (CallOk.mk' rfl rfl rfl (namesAll.row rfl rfl) rfl (namesAll.row rfl rfl) (haveAll.row rfl rfl trivial)) ?_ | refine CallN.own (fun _ => 1) N3 (CallOk.mk' rfl rfl rfl (namesAll.row rfl rfl) rfl (namesAll.row rfl rfl) (haveAll.row rfl rfl trivial)) ?_ | refine CallN.own (fun _ => 1) N4 (CallOk.mk' rfl rfl rfl (namesAll.row rfl rfl) rfl (namesAll.row rfl rfl) (haveAll.row rfl rfl trivial)) ?_ | refine CallN.own (fun _ => 1) N5 (CallOk.mk' rfl rfl rfl (namesAll.row rfl rfl) rfl (namesAll.row rfl rfl) (haveAll.row rfl rfl trivial)) ?_ | refine CallN.own (fun _ => 1) N6 (CallOk.mk' rfl rfl rfl (namesAll.row rfl rfl) rfl (namesAll.row rfl rfl) (haveAll.row rfl rfl trivial)) ?_ | refine CallN.own (fun _ => 1) N7 (CallOk.mk' rfl rfl rfl (namesAll.row rfl rfl) rfl (namesAll.row rfl rfl) (haveAll.row rfl rfl trivial)) ?_ | refine CallN.own (fun _ => 1) N8 (CallOk.mk' rfl rfl rfl (namesAll.row rfl rfl) rfl (namesAll.row rfl rfl) (haveAll.row rfl rfl trivial)) ?_ | refine CallN.own (fun _ => 1) N9 (CallOk.mk' rfl rfl rfl (namesAll.row rfl rfl) rfl (namesAll.row rfl rfl) (haveAll.row rfl rfl trivial)) ?_ | refine CallN.own (fun _ => 1) N10 (CallOk.mk' rfl rfl rfl (namesAll.row rfl rfl) rfl (namesAll.row rfl rfl) (haveAll.row rfl rfl trivial)) ?_ | refine CallN.own (fun _ => 1) N11 (CallOk.mk' rfl rfl rfl (namesAll.row rfl rfl) rfl (namesAll.row rfl rfl) (haveAll.row rfl rfl trivial)) ?_ | refine CallN.own (fun _ => 1) N12 (CallOk.mk' rfl rfl rfl (namesAll.row rfl rfl) rfl (namesAll.row rfl rfl) (haveAll.row rfl rfl trivial)) ?_ | refine CallN.pure hP rfl rfl ?_)))); (try (conv => whnf)))
      exact ⟨⟨[(2, .ptr 0 14 0 0)], [(0, .row 14 pty [pg ⟨1, 1 + v1, 1 + v2, 100 * v3, nm, .mk k n m s l, v5, u, age, [((ca1, ca2), (cb1, cb2))]⟩])], 1⟩, SW.mk id rfl rfl rfl ⟨.refl _, trivial⟩ (haveV.agg rfl ⟨.refl _, .refl _, .refl _, .refl _, .refl _, .refl _, .refl _, .refl _, .refl _, .refl _, .refl _, .refl _, .refl _, .ro_of rfl, trivial⟩ trivial), .inl rfl, ⟨_, rfl, rfl⟩, trivial⟩
    | false =>
      rw [hpr] at hP
      refine ⟨⟨1, 1 + v1, 1 + v2, 100 * v3, nm, x, v5, u, age, []⟩, ⟨⟨mx.wn (Nat.le_refl _), by show 0 ≤ v5 ∧ v5 ≤ 600; omega, by show 0 ≤ u ∧ u ≤ 600; omega, by show 0 ≤ age ∧ age ≤ 100; omega, okName_le hnm, .inl rfl⟩, rfl, by show 1 ≤ 1 + v1 ∧ 1 + v1 ≤ 3; omega, by show 1 ≤ 1 + v2 ∧ 1 + v2 ≤ 3; omega, by show 0 ≤ 100 * v3 ∧ 100 * v3 ≤ 400; omega, hnm⟩, ?_⟩
      clear mx hnm oa ob q1 q2 q3 q4 q5 q6 q7 q8 q9 q10 q11 q12 hage hpr
      obtain ⟨k, n, m, s, l⟩ := x
      rw [pg_mk]
      rw [nd_mk] at N12
      obtain ⟨ca1, ca2⟩ := ca
      obtain ⟨cb1, cb2⟩ := cb
      refine AFun.of_S T_ok mixed Try.func10 rfl (Nat.le_of_ble_eq_true rfl) rfl ?_
      ((repeat ((conv => whnf); (first | (refine LetN.pre ?_; first | ((conv => arg 1; whnf); refine LetN.mk ?_)) | (refine As.pre ?_; first | refine As.mk rfl ?_ | (refine As.mk ?_ ?_; · ((repeat' (refine andT ?_ ?_)) <;> (first | rfl | assumption | exact decide_eq_true (by omega) | exact decide_eq_true (by dsimp only; omega) | exact decide_eq_true (by simp; omega) | (simp; done))))) | (refine LetV.pre ?_; first | refine LetV.mk (t := 75) _ k4 ?_ | refine LetV.mk (t := 26) _ k8 ?_ | refine LetV.mk (.sc (.int _ _)) rfl ?_ | refine LetV.mk (.sc _) rfl ?_ | refine LetV.mk (.agg _) rfl ?_) | (refine LetI.pre ?_; first | refine LetI.mk (o := some .mul) u hq ?_ | refine LetI.wrap (by omega) (by omega) ?_) | (refine LetB.pre ?_; first | refine LetB.tt rfl ?_) | (refine Br.pre ?_; first | refine Br.tt rfl ?_ | refine Br.ff rfl ?_) | (refine Ck.pre ?_; first | refine Ck.drawn (by kernel_rfl) ?_ | refine Ck.mk rfl ?_) | (refine LetL.pre ?_; first | refine LetL.mk [_] rfl ?_) | (refine CallN.pre ?_; first | refine CallN.own (fun _ => 1) N1 (CallOk.mk' rfl rfl rfl (namesAll.row rfl rfl) rfl (namesAll.row rfl rfl) (haveAll.row rfl rfl trivial)) ?_ | refine CallN.own (fun _ => 1) N2 (CallOk.mk' rfl rfl rfl (namesAll.row rfl rfl) rfl (namesAll.row rfl rfl) (haveAll.row rfl rfl trivial)) ?_ | refine CallN.own (fun _ => 1) N3 (CallOk.mk' rfl rfl rfl (namesAll.row rfl rfl) rfl (namesAll.row rfl rfl) (haveAll.row rfl rfl trivial)) ?_ | refine CallN.own (fun _ => 1) N4 (CallOk.mk' rfl rfl rfl (namesAll.row rfl rfl) rfl (namesAll.row rfl rfl) (haveAll.row rfl rfl trivial)) ?_ | refine CallN.own (fun _ => 1) N5 (CallOk.mk' rfl rfl rfl (namesAll.row rfl rfl) rfl (namesAll.row rfl rfl) (haveAll.row rfl rfl trivial)) ?_ | refine CallN.own (fun _ => 1) N6 (CallOk.mk' rfl rfl rfl (namesAll.row rfl rfl) rfl (namesAll.row rfl rfl) (haveAll.row rfl rfl trivial)) ?_ | refine CallN.own (fun _ => 1) N7 (CallOk.mk' rfl rfl rfl (namesAll.row rfl rfl) rfl (namesAll.row rfl rfl) (haveAll.row rfl rfl trivial)) ?_ | refine CallN.own (fun _ => 1) N8 (CallOk.mk' rfl rfl rfl (namesAll.row rfl rfl) rfl (namesAll.row rfl rfl) (haveAll.row rfl rfl trivial)) ?_ | refine CallN.own (fun _ => 1) N9 (CallOk.mk' rfl rfl rfl (namesAll.row rfl rfl) rfl (namesAll.row rfl rfl) (haveAll.row rfl rfl trivial)) ?_ | refine CallN.own (fun _ => 1) N10 (CallOk.mk' rfl rfl rfl (namesAll.row rfl rfl) rfl (namesAll.row rfl rfl) (haveAll.row rfl rfl trivial)) ?_ | refine CallN.own (fun _ => 1) N11 (CallOk.mk' rfl rfl rfl (namesAll.row rfl rfl) rfl (namesAll.row rfl rfl) (haveAll.row rfl rfl trivial)) ?_ | refine CallN.own (fun _ => 1) N12 (CallOk.mk' rfl rfl rfl (namesAll.row rfl rfl) rfl (namesAll.row rfl rfl) (haveAll.row rfl rfl trivial)) ?_ | refine CallN.pure hP rfl rfl ?_)))); (try (conv => whnf)))
      exact ⟨⟨[(2, .ptr 0 14 0 0)], [(0, .row 14 pty [pg ⟨1, 1 + v1, 1 + v2, 100 * v3, nm, .mk k n m s l, v5, u, age, []⟩])], 1⟩, SW.mk id rfl rfl rfl ⟨.refl _, trivial⟩ (haveV.agg rfl ⟨.refl _, .refl _, .refl _, .refl _, .refl _, .refl _, .refl _, .refl _, .refl _, .refl _, .refl _, .refl _, .refl _, VLe2.nilro, trivial⟩ trivial), .inl rfl, ⟨_, rfl, rfl⟩, trivial⟩
  · obtain ⟨x, a12, mx, q12, N12⟩ := made_f fl xs hx 3 (Nat.le_refl _) 6 a9 (by omega) q9
    refine ⟨⟨1, 1 + v1, 1 + v2, 100 * v3, nm, x, v5, u, age, []⟩, ⟨⟨mx.wn (Nat.le_refl _), by show 0 ≤ v5 ∧ v5 ≤ 600; omega, by show 0 ≤ u ∧ u ≤ 600; omega, by show 0 ≤ age ∧ age ≤ 100; omega, okName_le hnm, .inl rfl⟩, rfl, by show 1 ≤ 1 + v1 ∧ 1 + v1 ≤ 3; omega, by show 1 ≤ 1 + v2 ∧ 1 + v2 ≤ 3; omega, by show 0 ≤ 100 * v3 ∧ 100 * v3 ≤ 400; omega, hnm⟩, ?_⟩
    clear mx hnm q1 q2 q3 q4 q5 q6 q7 q8 q9 q12 hage
    obtain ⟨k, n, m, s, l⟩ := x
    rw [pg_mk]
    rw [nd_mk] at N12
    refine AFun.of_S T_ok mixed Try.func10 rfl (Nat.le_of_ble_eq_true rfl) rfl ?_
    ((repeat ((conv => whnf); (first | (refine LetN.pre ?_; first | ((conv => arg 1; whnf); refine LetN.mk ?_)) | (refine As.pre ?_; first | refine As.mk rfl ?_ | (refine As.mk ?_ ?_; · ((repeat' (refine andT ?_ ?_)) <;> (first | rfl | assumption | exact decide_eq_true (by omega) | exact decide_eq_true (by dsimp only; omega) | exact decide_eq_true (by simp; omega) | (simp; done))))) | (refine LetV.pre ?_; first | refine LetV.mk (t := 75) _ k4 ?_ | refine LetV.mk (t := 26) _ k8 ?_ | refine LetV.mk (.sc (.int _ _)) rfl ?_ | refine LetV.mk (.sc _) rfl ?_ | refine LetV.mk (.agg _) rfl ?_) | (refine LetI.pre ?_; first | refine LetI.mk (o := some .mul) u hq ?_ | refine LetI.wrap (by omega) (by omega) ?_) | (refine LetB.pre ?_; first | refine LetB.decf (by omega) ?_) | (refine Br.pre ?_; first | refine Br.ff rfl ?_) | (refine Ck.pre ?_; first | refine Ck.drawn (by kernel_rfl) ?_ | refine Ck.mk rfl ?_) | (refine LetL.pre ?_; first | refine LetL.mk [_] rfl ?_) | (refine CallN.pre ?_; first | refine CallN.own (fun _ => 1) N1 (CallOk.mk' rfl rfl rfl (namesAll.row rfl rfl) rfl (namesAll.row rfl rfl) (haveAll.row rfl rfl trivial)) ?_ | refine CallN.own (fun _ => 1) N2 (CallOk.mk' rfl rfl rfl (namesAll.row rfl rfl) rfl (namesAll.row rfl rfl) (haveAll.row rfl rfl trivial)) ?_ | refine CallN.own (fun _ => 1) N3 (CallOk.mk' rfl rfl rfl (namesAll.row rfl rfl) rfl (namesAll.row rfl rfl) (haveAll.row rfl rfl trivial)) ?_ | refine CallN.own (fun _ => 1) N4 (CallOk.mk' rfl rfl rfl (namesAll.row rfl rfl) rfl (namesAll.row rfl rfl) (haveAll.row rfl rfl trivial)) ?_ | refine CallN.own (fun _ => 1) N5 (CallOk.mk' rfl rfl rfl (namesAll.row rfl rfl) rfl (namesAll.row rfl rfl) (haveAll.row rfl rfl trivial)) ?_ | refine CallN.own (fun _ => 1) N6 (CallOk.mk' rfl rfl rfl (namesAll.row rfl rfl) rfl (namesAll.row rfl rfl) (haveAll.row rfl rfl trivial)) ?_ | refine CallN.own (fun _ => 1) N7 (CallOk.mk' rfl rfl rfl (namesAll.row rfl rfl) rfl (namesAll.row rfl rfl) (haveAll.row rfl rfl trivial)) ?_ | refine CallN.own (fun _ => 1) N8 (CallOk.mk' rfl rfl rfl (namesAll.row rfl rfl) rfl (namesAll.row rfl rfl) (haveAll.row rfl rfl trivial)) ?_ | refine CallN.own (fun _ => 1) N9 (CallOk.mk' rfl rfl rfl (namesAll.row rfl rfl) rfl (namesAll.row rfl rfl) (haveAll.row rfl rfl trivial)) ?_ | refine CallN.own (fun _ => 1) N12 (CallOk.mk' rfl rfl rfl (namesAll.row rfl rfl) rfl (namesAll.row rfl rfl) (haveAll.row rfl rfl trivial)) ?_)))); (try (conv => whnf)))
    exact ⟨⟨[(2, .ptr 0 14 0 0)], [(0, .row 14 pty [pg ⟨1, 1 + v1, 1 + v2, 100 * v3, nm, .mk k n m s l, v5, u, age, []⟩])], 1⟩, SW.mk id rfl rfl rfl ⟨.refl _, trivial⟩ (haveV.agg rfl ⟨.refl _, .refl _, .refl _, .refl _, .refl _, .refl _, .refl _, .refl _, .refl _, .refl _, .refl _, .refl _, .refl _, VLe2.nilro, trivial⟩ trivial), .inl rfl, ⟨_, rfl, rfl⟩, trivial⟩
end Pb
end Go.Proofs.Ytjnmbmdplchfkaa
namespace Go.Proofs.Ytjnmbmdplchfkaa
open Go.Proofs.Ytjnmbmdplchfkaa.Am
set_option maxRecDepth 100000
variable [Lo]
namespace Pb
theorem part_pg {B : List Pg} {k : Nat} (h : k < B.length) : pg (B.getD k p0) = Am.part true 14 0 14 ((B.map pg).getD (0 + k) (.sc undef)) := by
  rw [Nat.zero_add, List.getD_eq_getElem?_getD, List.getD_eq_getElem?_getD, List.getElem?_map, List.getElem?_eq_getElem h]; rfl
theorem fldS {B : List Pg} {k : Nat} (h : k < B.length) : int (B.getD k p0).school = Am.part false 1 0 14 ((B.map pg).getD (0 + k) (.sc undef)) := by
  rw [Nat.zero_add, ← mapD p0 h]; rfl
theorem fldI {B : List Pg} {k : Nat} (h : k < B.length) : int (B.getD k p0).id = Am.part false 1 1 14 ((B.map pg).getD (0 + k) (.sc undef)) := by
  rw [Nat.zero_add, ← mapD p0 h]; rfl
abbrev lsS2 (B : List Pg) (n : Nat) (s i : Int) : Nat → AS
  | 0 => ⟨[(0, .slm {} 0 14 0 n), (1, int s), (2, int i), (6, .ptr 1 14 0 0), (8, int (-1))], [(0, .row 14 pty (B.map pg)), (1, .row 14 pty [zpV])], 2⟩
  | j + 1 => ⟨[(0, .slm {} 0 14 0 n), (1, int s), (2, int i), (6, .ptr 1 14 0 0), (8, int j)], [(0, .row 14 pty (B.map pg)), (1, .row 14 pty [zpV])], 2⟩
set_option maxHeartbeats 1600000 in
set_option maxRecDepth 100000 in
theorem last_s (B : List Pg) (s i : Int) (hB : B.length ≤ 100000) : AFun Try.prog 38 1 [.slm {} 0 14 0 B.length, int s, int i] [(0, .row 14 pty (B.map pg))] (.tup [pg (lastP B s i).1, bool (lastP B s i).2]) [(0, .row 14 pty (B.map pg))] := by
  have hmB : (B.map pg).length = B.length := List.length_map _
  refine AFun.of_S T_ok mixed Try.func38 rfl (Nat.le_of_ble_eq_true rfl) rfl ?_
  have e0 : lastP B s i = lastP (B.take B.length) s i := by rw [List.take_length]
  have hsb : ∀ n : Nat, n = B.length → IntKind.i64.wrap ((n : Int) - 1) = (n : Int) - 1 := fun n h => wrap_id (by omega) (by omega)
  ((repeat ((conv => whnf); (first | (refine LetN.pre ?_; first | ((conv => arg 1; whnf); refine LetN.mk ?_)) | (refine As.pre ?_; first | refine As.mk rfl ?_) | (refine LetI.pre ?_; first | refine LetI.wrap (by omega) (by omega) ?_ | refine LetI.mk _ rfl ?_) | (refine Ck.pre ?_; first | refine Ck.mk rfl ?_)))); (try (conv => whnf)))
  refine LoopN.weak (s1 := lsS2 B B.length s i B.length) ?sw1 ?_
  case sw1 =>
    generalize hn : B.length = n at hmB
    cases n with
    | zero => exact SW.mk id rfl rfl (namesAll.row (pure_pg B) rfl) ⟨.refl _, .refl _, .refl _, .refl _, VLe2.int (by omega), trivial⟩ (haveV.row (pure_pg B) rfl (haveV.one rfl trivial))
    | succ n => exact SW.mk id rfl rfl (namesAll.row (pure_pg B) rfl) ⟨.refl _, .refl _, .refl _, .refl _, VLe2.int (by omega), trivial⟩ (haveV.row (pure_pg B) rfl (haveV.one rfl trivial))
  refine LoopN.ind T_ok mixed (S := lsS2 B B.length s i) (fun k => k) (fun k => k ≤ B.length ∧ lastP B s i = lastP (B.take k) s i) (fun | 0 => rfl | _ + 1 => rfl) (fun k hk ih => ?_) B.length ⟨Nat.le_refl _, e0⟩
  clear e0 hsb
  obtain ⟨h1, h2⟩ := hk
  cases k with
  | zero =>
    clear ih
    rw [h2]
    ((repeat ((conv => whnf); (first | (refine LetN.pre ?_; first | ((conv => arg 1; whnf); refine LetN.mk ?_)) | (refine As.pre ?_; first | refine As.mk rfl ?_) | (refine LetB.pre ?_; first | refine LetB.ff rfl ?_) | (refine Br.pre ?_; first | refine Br.ff rfl ?_) | (refine Ck.pre ?_; first | refine Ck.mk rfl ?_) | (refine LetL.pre ?_; first | refine LetL.mk [_] rfl ?_)))); (try (conv => whnf)))
    exact ⟨⟨[(6, .ptr 1 14 0 0), (7, bool false)], [(0, .row 14 pty (B.map pg)), (1, .row 14 pty [pg p0])], 2⟩, SW.mk id rfl rfl (namesAll.row (pure_pg B) rfl) ⟨.refl _, .refl _, trivial⟩ (haveV.row (pure_pg B) rfl (haveV.agg rfl ⟨.refl _, .refl _, .refl _, .refl _, .refl _, .refl _, .refl _, .refl _, VLe2.nilro, VLe2.nilro, .refl _, .refl _, .refl _, VLe2.nilro, trivial⟩ trivial)), .inl rfl, ⟨_, rfl, rfl⟩, rfl, trivial⟩
  | succ j =>
    have hlt : j < B.length := h1
    have hld := part_pg hlt
    have hs := fldS hlt
    have hi := fldI hlt
    rw [last_take hlt] at h2
    have hnx := fun h => ih j ⟨by omega, h⟩ (by omega)
    clear ih
    rw [h2]
    generalize B.getD j p0 = y at hld hs hi h2
    by_cases c : y.school = s ∧ y.id = i
    · rw [lasS, if_pos c]
      clear hnx h2
      obtain ⟨c1, c2⟩ := c
      obtain ⟨school, id, ver, from_, name, ⟨k, n, m, st, l⟩, total, own, age, ex⟩ := y
      dsimp only at hs hi
      dsimp only at c1 c2
      rw [pg_mk] at hld ⊢
      ((repeat ((conv => whnf); (first | (refine LetN.pre ?_; first | ((conv => arg 1; whnf); refine LetN.mk ?_)) | (refine As.pre ?_; first | refine As.mk rfl ?_ | (refine As.mk ?_ ?_; · ((repeat' (refine andT ?_ ?_)) <;> (first | rfl | assumption | exact decide_eq_true (by omega) | exact decide_eq_true (by dsimp only; omega) | exact decide_eq_true (by simp; omega) | (simp; done))))) | (refine LetV.pre ?_; first | refine LetV.mk (t := 3) (int school) hs ?_ | refine LetV.mk (t := 3) (int id) hi ?_ | refine LetV.mk (t := pty) _ hld ?_) | (refine LetB.pre ?_; first | refine LetB.tt rfl ?_ | refine LetB.dect (by omega) ?_) | (refine Gd.pre ?_; first | refine Gd.run rfl ?_) | (refine Br.pre ?_; first | refine Br.tt rfl ?_) | (refine Ck.pre ?_; first | refine Ck.mk rfl ?_) | (refine LetL.pre ?_; first | refine LetL.mk [_] rfl ?_)))); (try (conv => whnf)))
      exact ⟨⟨[(6, .ptr 1 14 0 0), (7, bool true)], [(0, .row 14 pty (B.map pg)), (1, .row 14 pty [.agg [int school, int id, int ver, int from_, str name, int k, int n, int m, .ro {} 2 (st.map coA), .ro {} 5 (l.map nd), int total, int own, int age, .ro {} 4 (ex.map exA)]])], 2⟩, SW.mk _root_.id rfl rfl (namesAll.row (pure_pg B) (namesAll.row rfl rfl)) ⟨.refl _, .refl _, trivial⟩ (haveV.row (pure_pg B) rfl (haveV.row rfl rfl trivial)), .inl rfl, ⟨_, rfl, rfl⟩, rfl, trivial⟩
    · rw [lasS, if_neg c] at h2 ⊢
      replace hnx := hnx h2
      rw [← h2]
      clear h2
      obtain ⟨school, id, ver, from_, name, ⟨k, n, m, st, l⟩, total, own, age, ex⟩ := y
      dsimp only at hs hi
      rw [pg_mk] at hld
      have hsub : (j : Int) - 1 = IntKind.i64.wrap ((j : Int) - 1) := (wrap_id (by omega) (by omega)).symm
      by_cases c1 : school = s
      · have c2 : ¬ id = i := fun h => c ⟨c1, h⟩
        ((repeat ((conv => whnf); (first | (refine As.pre ?_; first | refine As.mk rfl ?_ | (refine As.mk ?_ ?_; · ((repeat' (refine andT ?_ ?_)) <;> (first | rfl | assumption | exact decide_eq_true (by omega) | exact decide_eq_true (by dsimp only; omega) | exact decide_eq_true (by simp; omega) | (simp; done))))) | (refine LetV.pre ?_; first | refine LetV.mk (t := 3) (int school) hs ?_ | refine LetV.mk (t := 3) (int id) hi ?_) | (refine LetI.pre ?_; first | refine LetI.mk (o := some .sub) _ hsub ?_) | (refine LetB.pre ?_; first | refine LetB.tt rfl ?_ | refine LetB.dect (by omega) ?_ | refine LetB.decf (by omega) ?_) | (refine Gd.pre ?_; first | refine Gd.run rfl ?_) | (refine Br.pre ?_; first | refine Br.tt rfl ?_ | refine Br.ff rfl ?_) | (refine Ck.pre ?_; first | refine Ck.mk rfl ?_)))); (try (conv => whnf)))
        refine LoopN.weak ?sw2 hnx
        case sw2 =>
          cases j with
          | zero => exact SW.mk _root_.id rfl rfl (namesAll.row (pure_pg B) rfl) ⟨.refl _, .refl _, .refl _, .refl _, VLe2.int (by omega), trivial⟩ (haveV.row (pure_pg B) rfl (haveV.one rfl trivial))
          | succ j => exact SW.mk _root_.id rfl rfl (namesAll.row (pure_pg B) rfl) ⟨.refl _, .refl _, .refl _, .refl _, VLe2.int (by omega), trivial⟩ (haveV.row (pure_pg B) rfl (haveV.one rfl trivial))
      · ((repeat ((conv => whnf); (first | (refine As.pre ?_; first | refine As.mk rfl ?_ | (refine As.mk ?_ ?_; · ((repeat' (refine andT ?_ ?_)) <;> (first | rfl | assumption | exact decide_eq_true (by omega) | exact decide_eq_true (by dsimp only; omega) | exact decide_eq_true (by simp; omega) | (simp; done))))) | (refine LetV.pre ?_; first | refine LetV.mk (t := 3) (int school) hs ?_) | (refine LetI.pre ?_; first | refine LetI.mk (o := some .sub) _ hsub ?_) | (refine LetB.pre ?_; first | refine LetB.tt rfl ?_ | refine LetB.decf (by omega) ?_) | (refine Gd.pre ?_; first | refine Gd.pass rfl ?_) | (refine Br.pre ?_; first | refine Br.tt rfl ?_ | refine Br.ff rfl ?_) | (refine Ck.pre ?_; first | refine Ck.mk rfl ?_)))); (try (conv => whnf)))
        refine LoopN.weak ?sw3 hnx
        case sw3 =>
          cases j with
          | zero => exact SW.mk _root_.id rfl rfl (namesAll.row (pure_pg B) rfl) ⟨.refl _, .refl _, .refl _, .refl _, VLe2.int (by omega), trivial⟩ (haveV.row (pure_pg B) rfl (haveV.one rfl trivial))
          | succ j => exact SW.mk _root_.id rfl rfl (namesAll.row (pure_pg B) rfl) ⟨.refl _, .refl _, .refl _, .refl _, VLe2.int (by omega), trivial⟩ (haveV.row (pure_pg B) rfl (haveV.one rfl trivial))
/-! ### Choices -/
abbrev iA (x : Fl × List Int) : AV := .ro x.1 1 (x.2.map int)
abbrev L0 : Fl × List Int := ({}, [])
theorem pure_ch : ∀ l : List Ch, AV.namesL (fun _ => false) (l.map chA) = true
  | [] => rfl
  | p :: l => by rw [List.map_cons, AV.namesL, pure_ch l]; rfl
theorem app_ch (l : List Ch) (e : Ch) (n : Nat) (h : n = l.length) : (l ++ [e]).map chA = (l.map chA).take n ++ [chA e] := by rw [List.take_of_length_le (by simp [h]), List.map_append]; rfl
theorem room_ch {n : Nat} (h : n ≤ 1000000) : room n 32 = true := by
  simp only [room, Bool.and_eq_true, decide_eq_true_eq]
  exact ⟨by omega, rfl⟩
/-- What is known of made choices. -/
structure CK (C : List Ch) : Prop where
  len : C.length ≤ 5
  on_ : ∀ c ∈ C, 0 ≤ c.on_ ∧ c.on_ < 700
abbrev choS (fl : Fl) (L : List (Fl × List Int)) : Nat × List Ch → AS
  | (k, C) => ⟨[(0, .ro fl 1 (L.map iA)), (3, .slm {} 0 4 0 C.length), (4, int k)], [(0, .row 4 chy (C.map chA))], 1⟩
set_option maxHeartbeats 3200000 in
set_option maxRecDepth 100000 in
theorem Choices_s (fl : Fl) (L : List (Fl × List Int)) (hL : L.length ≤ 9223372036854775807) (hxs : ∀ x ∈ L, x.2.length ≤ 9223372036854775807) : ∃ C : List Ch, CK C ∧ AFun Try.prog 27 0 [.ro fl 1 (L.map iA)] [] (.slm {} 0 4 0 C.length) [(0, .row 4 chy (C.map chA))] := by
  refine AFun.of_SE T_ok mixed (p := 0) (H := []) (v := fun C : List Ch => .slm {} 0 4 0 C.length) (H' := fun C : List Ch => [(0, .row 4 chy (C.map chA))]) Try.func27 rfl (Nat.le_of_ble_eq_true rfl) rfl ?_
  have hml : (L.map iA).length = L.length := List.length_map _
  ((repeat ((conv => whnf); (first | (refine As.pre ?_; first | refine As.mk rfl ?_) | (refine Ck.pre ?_; first | refine Ck.mk rfl ?_)))); (try (conv => whnf)))
  refine LoopN.weak (s1 := choS fl L (0, [])) ?sw1 ?_
  case sw1 => exact SW.mk id rfl rfl rfl ⟨.refl _, VLe2.nilslm, .refl _, trivial⟩ (haveV.nil (Nat.le_refl _) trivial)
  refine LoopN.ind T_ok mixed (S := choS fl L) (fun i => 24 - i.1) (fun i => i.1 ≤ 5 ∧ i.2.length = i.1 ∧ ∀ c ∈ i.2, 0 ≤ c.on_ ∧ c.on_ < 700) (fun _ => rfl) (fun i hi ih => ?_) (0, []) ⟨Nat.zero_le _, rfl, fun c h => absurd h List.not_mem_nil⟩
  obtain ⟨k, C⟩ := i
  obtain ⟨h1, h2, h3⟩ := hi
  dsimp only at h1 h2 h3
  by_cases hlt : k < L.length
  case neg =>
    clear ih
    ((repeat ((conv => whnf); (first | (refine As.pre ?_; first | refine As.mk rfl ?_) | (refine LetI.pre ?_; first | refine LetI.mk _ rfl ?_) | (refine LetB.pre ?_; first | refine LetB.decf (by omega) ?_) | (refine Gd.pre ?_; first | refine Gd.pass rfl ?_) | (refine Br.pre ?_; first | refine Br.ff rfl ?_) | (refine Ck.pre ?_; first | refine Ck.mk rfl ?_)))); (try (conv => whnf)))
    exact ⟨C, ⟨by omega, h3⟩, ⟨[(2, .slm {} 0 4 0 C.length)], [(0, .row 4 chy (C.map chA))], 1⟩, SW.mk id rfl rfl (namesAll.row (pure_ch _) rfl) ⟨.refl _, trivial⟩ (haveV.row (pure_ch _) rfl trivial), .inl rfl, ⟨_, rfl, rfl⟩, rfl, trivial⟩
  by_cases hk5 : k < 5
  case neg =>
    clear ih
    ((repeat ((conv => whnf); (first | (refine As.pre ?_; first | refine As.mk rfl ?_) | (refine LetI.pre ?_; first | refine LetI.mk _ rfl ?_) | (refine LetB.pre ?_; first | refine LetB.dect (by omega) ?_ | refine LetB.decf (by omega) ?_) | (refine Gd.pre ?_; first | refine Gd.run rfl ?_) | (refine Br.pre ?_; first | refine Br.ff rfl ?_) | (refine Ck.pre ?_; first | refine Ck.mk rfl ?_)))); (try (conv => whnf)))
    exact ⟨C, ⟨by omega, h3⟩, ⟨[(2, .slm {} 0 4 0 C.length)], [(0, .row 4 chy (C.map chA))], 1⟩, SW.mk id rfl rfl (namesAll.row (pure_ch _) rfl) ⟨.refl _, trivial⟩ (haveV.row (pure_ch _) rfl trivial), .inl rfl, ⟨_, rfl, rfl⟩, rfl, trivial⟩
  have hld : iA (L.getD k L0) = (L.map iA).getD k (.sc undef) := mapD L0 hlt
  have hx := hxs (L.getD k L0) (by rw [List.getD_eq_getElem?_getD, List.getElem?_eq_getElem hlt]; exact List.getElem_mem _)
  generalize L.getD k L0 = x at hld hx
  obtain ⟨fx, xs⟩ := x
  dsimp only at hx hld
  obtain ⟨v0, a0, r0, q0, N0⟩ := made_next1 fx xs hx 0 2 (Nat.zero_le _) (by omega)
  obtain ⟨v1, a1, r1, q1, N1⟩ := made_next1 fx xs hx a0 5 q0 (by omega)
  obtain ⟨v2, a2, r2, q2, N2⟩ := made_next1 fx xs hx a1 600 q1 (by omega)
  obtain ⟨v3, a3, r3, q3, N3⟩ := made_next1 fx xs hx a2 700 q2 (by omega)
  have hnx := ih (k + 1, C ++ [⟨1 + v0, v1, v2, v3⟩]) ⟨hk5, by show (C ++ [_]).length = k + 1; rw [List.length_append, h2]; rfl, by
    intro c hc
    rcases List.mem_append.1 hc with e | e
    · exact h3 c e
    · rw [List.mem_singleton.1 e]; exact r3⟩ (by show 24 - (k + 1) < 24 - k; omega)
  clear ih h3
  have hr := room_ch (n := C.length + 1) (by omega)
  have hmC : (C.map chA).length = C.length := List.length_map _
  have e1 := app_ch C ⟨1 + v0, v1, v2, v3⟩ C.length rfl
  have l1 : (C ++ [(⟨1 + v0, v1, v2, v3⟩ : Ch)]).length = C.length + 1 := by simp
  ((repeat ((conv => whnf); (first | (refine LetN.pre ?_; first | ((conv => arg 1; whnf); refine LetN.mk ?_)) | (refine As.pre ?_; first | refine As.mk rfl ?_ | (refine As.mk ?_ ?_; · ((repeat' (refine andT ?_ ?_)) <;> (first | rfl | assumption | exact decide_eq_true (by omega) | exact decide_eq_true (by dsimp only; omega) | exact decide_eq_true (by simp; omega) | (simp; done))))) | (refine LetV.pre ?_; first | refine LetV.mk (t := 22) _ hld ?_ | refine LetV.mk (.ro _ _ _) rfl ?_) | (refine LetI.pre ?_; first | refine LetI.wrap (by omega) (by omega) ?_ | refine LetI.mk _ rfl ?_) | (refine LetB.pre ?_; first | refine LetB.dect (by omega) ?_) | (refine Gd.pre ?_; first | refine Gd.run rfl ?_) | (refine Br.pre ?_; first | refine Br.tt rfl ?_) | (refine Ck.pre ?_; first | refine Ck.mk rfl ?_) | (refine LetL.pre ?_; first | refine LetL.mk (ty := chy) _ e1 ?_ | refine LetL.mk [_] rfl ?_) | (refine CallN.pre ?_; first | refine CallN.own (fun _ => 1) N0 (CallOk.mk' rfl rfl rfl (namesAll.row rfl rfl) rfl (namesAll.row rfl rfl) (haveAll.row rfl rfl trivial)) ?_ | refine CallN.own (fun _ => 1) N1 (CallOk.mk' rfl rfl rfl (namesAll.row rfl rfl) rfl (namesAll.row rfl rfl) (haveAll.row rfl rfl trivial)) ?_ | refine CallN.own (fun _ => 1) N2 (CallOk.mk' rfl rfl rfl (namesAll.row rfl rfl) rfl (namesAll.row rfl rfl) (haveAll.row rfl rfl trivial)) ?_ | refine CallN.own (fun _ => 1) N3 (CallOk.mk' rfl rfl rfl (namesAll.row rfl rfl) rfl (namesAll.row rfl rfl) (haveAll.row rfl rfl trivial)) ?_)))); (try (conv => whnf)))






  refine LoopN.weak ?sw2 hnx
  case sw2 => exact SW.mk (fun i => if i = 0 then 2 else i) rfl rfl (namesAll.row (pure_ch _) rfl) ⟨.refl _, VLe2.slm_of l1, VLe2.int (by omega), trivial⟩ (haveV.row (pure_ch _) rfl trivial)
theorem Choices_f (fl : Fl) (L : List (Fl × List Int)) (hL : L.length ≤ 9223372036854775807) (hxs : ∀ x ∈ L, x.2.length ≤ 9223372036854775807) : ∃ C : List Ch, CK C ∧ AFun Try.prog 27 0 [.ro fl 1 (L.map iA)] [] (.ro {} 4 (C.map chA)) [] := by
  obtain ⟨C, h1, h2⟩ := Choices_s fl L hL hxs
  exact ⟨C, h1, AFun.frz1 (H := []) h2 rfl (pure_ch C) (by simp)⟩
end Pb
end Go.Proofs.Ytjnmbmdplchfkaa
namespace Go.Proofs.Ytjnmbmdplchfkaa
open Go.Proofs.Ytjnmbmdplchfkaa.Am
set_option maxRecDepth 100000
variable [Lo]
namespace Pb
/-! ### A book -/
/-- What is known of a made book. -/
structure BK (B : List Pg) : Prop where
  len : B.length ≤ 6
  wp : ∀ p ∈ B, WP p
  ck : ckB B = 0
  ver : ∀ p ∈ B, p.ver ≤ B.length
  frm : ∀ p ∈ B, p.from_ ≤ 200 + 300 * B.length
theorem BK.nil : BK [] := ⟨Nat.zero_le _, fun _ h => absurd h List.not_mem_nil, rfl, fun _ h => absurd h List.not_mem_nil, fun _ h => absurd h List.not_mem_nil⟩
theorem ckA_ok {p : Pg} (h1 : 1 ≤ p.school ∧ p.school ≤ 8) (h2 : 1 ≤ p.id ∧ p.id ≤ 999999) (h3 : 1 ≤ p.ver ∧ p.ver ≤ 20) (h4 : 0 ≤ p.from_ ∧ p.from_ ≤ 100000) (h5 : okName p.name) : ckA p = 0 := by
  unfold ckA
  rw [if_pos h1, if_pos ⟨h2, h3, h4⟩, if_pos h5]
theorem on1_ok {B : List Pg} {p : Pg} (h : ckA p = 0) (h1 : p.ver = (lastP B p.school p.id).1.ver + 1) (h2 : (lastP B p.school p.id).1.from_ ≤ p.from_) : on1 B p = 0 := by
  unfold on1
  rw [if_pos h, if_pos ⟨by omega, h2⟩]
theorem BK.last {B : List Pg} (h : BK B) (s i : Int) : (0 ≤ (lastP B s i).1.ver ∧ (lastP B s i).1.ver ≤ B.length) ∧ (0 ≤ (lastP B s i).1.from_ ∧ (lastP B s i).1.from_ ≤ 200 + 300 * B.length) := by
  cases hb : (lastP B s i).2 with
  | true =>
    have hm := (last_mem s i B hb).1
    have := ckA_ver (ckB_vers h.ck _ hm)
    have := h.ver _ hm
    have := h.frm _ hm
    omega
  | false =>
    rw [(last_none s i B hb).1]
    refine ⟨⟨Int.le_refl _, ?_⟩, ⟨Int.le_refl _, ?_⟩⟩
    · show (0 : Int) ≤ _; omega
    · show (0 : Int) ≤ _; omega
theorem BK.add {B : List Pg} (h : BK B) (hl : B.length < 6) {p : Pg} (hp : WP p) (hn : okName p.name) (h1 : 1 ≤ p.school ∧ p.school ≤ 8) (h2 : 1 ≤ p.id ∧ p.id ≤ 999999) (h3 : p.ver = (lastP B p.school p.id).1.ver + 1) (h4 : (lastP B p.school p.id).1.from_ ≤ p.from_) (h5 : p.from_ ≤ 500 + 300 * B.length) : BK (B ++ [p]) := by
  have hL := h.last p.school p.id
  have hA : ckA p = 0 := ckA_ok h1 h2 (by omega) (by omega) hn
  have el : (B ++ [p]).length = B.length + 1 := by simp
  refine ⟨by omega, fun q hq => ?_, ?_, fun q hq => ?_, fun q hq => ?_⟩
  · rcases List.mem_append.1 hq with e | e
    · exact h.wp q e
    · rw [List.mem_singleton.1 e]; exact hp
  · rw [ckB_append p h.ck, if_neg (by omega)]
    exact on1_ok hA h3 h4
  · rw [el]
    rcases List.mem_append.1 hq with e | e
    · have := h.ver q e; omega
    · rw [List.mem_singleton.1 e]; omega
  · rw [el]
    rcases List.mem_append.1 hq with e | e
    · have := h.frm q e; omega
    · rw [List.mem_singleton.1 e]; omega
abbrev mbS (fl : Fl) (L : List (Fl × List Int)) : Nat × List Pg → AS
  | (k, B) => ⟨[(0, .ro fl 1 (L.map iA)), (3, .slm {} 0 14 0 B.length), (4, int k)], [(0, .row 14 pty (B.map pg))], 1⟩
theorem WP.upd {p q : Pg} (h : WP p) (e1 : q.need = p.need) (e2 : q.total = p.total) (e3 : q.own = p.own) (e4 : q.age = p.age) (e5 : q.name = p.name) (e6 : q.ex = p.ex) : WP q :=
  ⟨e1 ▸ h.need, e2 ▸ h.total, e3 ▸ h.own, e4 ▸ h.age, e5 ▸ h.name, e6 ▸ h.ex⟩
set_option maxHeartbeats 6400000 in
set_option maxRecDepth 100000 in
theorem Made_s (fl : Fl) (L : List (Fl × List Int)) (hL : L.length ≤ 9223372036854775807) (hxs : ∀ x ∈ L, x.2.length ≤ 9223372036854775807) : ∃ B : List Pg, BK B ∧ AFun Try.prog 16 0 [.ro fl 1 (L.map iA)] [] (.slm {} 0 14 0 B.length) [(0, .row 14 pty (B.map pg))] := by
  refine AFun.of_SE T_ok mixed (p := 0) (H := []) (v := fun B : List Pg => .slm {} 0 14 0 B.length) (H' := fun B : List Pg => [(0, .row 14 pty (B.map pg))]) Try.func16 rfl (Nat.le_of_ble_eq_true rfl) rfl ?_
  have hml : (L.map iA).length = L.length := List.length_map _
  ((repeat ((conv => whnf); (first | (refine As.pre ?_; first | refine As.mk rfl ?_) | (refine Ck.pre ?_; first | refine Ck.mk rfl ?_)))); (try (conv => whnf)))
  refine LoopN.weak (s1 := mbS fl L (0, [])) ?sw1 ?_
  case sw1 => exact SW.mk id rfl rfl rfl ⟨.refl _, VLe2.nilslm, .refl _, trivial⟩ (haveV.nil (Nat.le_refl _) trivial)
  refine LoopN.ind T_ok mixed (S := mbS fl L) (fun i => 24 - i.1) (fun i => i.1 ≤ 6 ∧ i.2.length = i.1 ∧ BK i.2) (fun _ => rfl) (fun i hi ih => ?_) (0, []) ⟨Nat.zero_le _, rfl, BK.nil⟩
  obtain ⟨k, B⟩ := i
  obtain ⟨h1, h2, h3⟩ := hi
  dsimp only at h1 h2 h3
  by_cases hlt : k < L.length
  case neg =>
    clear ih
    ((repeat ((conv => whnf); (first | (refine As.pre ?_; first | refine As.mk rfl ?_) | (refine LetI.pre ?_; first | refine LetI.mk _ rfl ?_) | (refine LetB.pre ?_; first | refine LetB.decf (by omega) ?_) | (refine Gd.pre ?_; first | refine Gd.pass rfl ?_) | (refine Br.pre ?_; first | refine Br.ff rfl ?_) | (refine Ck.pre ?_; first | refine Ck.mk rfl ?_)))); (try (conv => whnf)))
    exact ⟨B, h3, ⟨[(2, .slm {} 0 14 0 B.length)], [(0, .row 14 pty (B.map pg))], 1⟩, SW.mk id rfl rfl (namesAll.row (pure_pg _) rfl) ⟨.refl _, trivial⟩ (haveV.row (pure_pg _) rfl trivial), .inl rfl, ⟨_, rfl, rfl⟩, rfl, trivial⟩
  by_cases hk6 : k < 6
  case neg =>
    clear ih
    ((repeat ((conv => whnf); (first | (refine As.pre ?_; first | refine As.mk rfl ?_) | (refine LetI.pre ?_; first | refine LetI.mk _ rfl ?_) | (refine LetB.pre ?_; first | refine LetB.dect (by omega) ?_ | refine LetB.decf (by omega) ?_) | (refine Gd.pre ?_; first | refine Gd.run rfl ?_) | (refine Br.pre ?_; first | refine Br.ff rfl ?_) | (refine Ck.pre ?_; first | refine Ck.mk rfl ?_)))); (try (conv => whnf)))
    exact ⟨B, h3, ⟨[(2, .slm {} 0 14 0 B.length)], [(0, .row 14 pty (B.map pg))], 1⟩, SW.mk id rfl rfl (namesAll.row (pure_pg _) rfl) ⟨.refl _, trivial⟩ (haveV.row (pure_pg _) rfl trivial), .inl rfl, ⟨_, rfl, rfl⟩, rfl, trivial⟩
  have hld : iA (L.getD k L0) = (L.map iA).getD k (.sc undef) := mapD L0 hlt
  have hx := hxs (L.getD k L0) (by rw [List.getD_eq_getElem?_getD, List.getElem?_eq_getElem hlt]; exact List.getElem_mem _)
  generalize L.getD k L0 = x at hld hx
  obtain ⟨fx, xs⟩ := x
  dsimp only at hx hld
  obtain ⟨v0, a0, r0, q0, N0⟩ := made_next1 fx xs hx 0 3 (Nat.zero_le _) (by omega)
  obtain ⟨v1, a1, r1, q1, N1⟩ := made_next1 fx xs hx a0 2 q0 (by omega)
  obtain ⟨v2, a2, r2, q2, N2⟩ := made_next1 fx xs hx a1 2 q1 (by omega)
  obtain ⟨p, ⟨wp, _, _, _, _, wn⟩, hM⟩ := MadeAll_f fx xs hx
  obtain ⟨v3, a3, r3, q3, N3⟩ := made_next1 fx xs hx a2 7 q2 (by omega)
  have hsc : 0 ≤ v0 * v1 ∧ v0 * v1 ≤ 2 := by
    have e : v1 = 0 ∨ v1 = 1 := by omega
    rcases e with rfl | rfl <;> omega
  generalize hs : v0 * v1 = sc at hsc
  have hqs : sc = IntKind.i64.wrap (v0 * v1) := by rw [hs, wrap_id (by omega) (by omega)]
  have hla := last_s B (1 + sc) (1 + v2) (by omega)
  have hLa := h3.last (1 + sc) (1 + v2)
  have hadd : ∀ f : Int, (lastP B (1 + sc) (1 + v2)).1.from_ ≤ f → f ≤ 500 + 300 * B.length → BK (B ++ [⟨1 + sc, 1 + v2, (lastP B (1 + sc) (1 + v2)).1.ver + 1, f, p.name, p.need, p.total, p.own, p.age, p.ex⟩]) := fun f e1 e2 =>
    h3.add (by omega) (wp.upd rfl rfl rfl rfl rfl rfl) wn (by show 1 ≤ 1 + sc ∧ 1 + sc ≤ 8; omega) (by show 1 ≤ 1 + v2 ∧ 1 + v2 ≤ 999999; omega) rfl e1 e2
  have hB : B.length ≤ 5 := by omega
  have hb0 : (lastP B (1 + sc) (1 + v2)).1.ver = 0 → (lastP B (1 + sc) (1 + v2)).1.from_ = 0 := fun h => by
    cases hb : (lastP B (1 + sc) (1 + v2)).2 with
    | true =>
      have hm := (last_mem _ _ B hb).1
      have := ckA_ver (ckB_vers h3.ck _ hm)
      omega
    | false => rw [(last_none _ _ B hb).1]; rfl
  generalize lastP B (1 + sc) (1 + v2) = la at hla hLa hadd hb0
  obtain ⟨x, bx⟩ := la
  dsimp only at hla hLa hadd hb0
  have hnx : ∀ q : Pg, BK (B ++ [q]) → LoopN _ _ _ _ _ _ := fun q h => ih (k + 1, B ++ [q]) ⟨hk6, by show (B ++ [_]).length = k + 1; rw [List.length_append, h2]; rfl, h⟩ (by show 24 - (k + 1) < 24 - k; omega)
  clear ih h3 wp wn
  have hr := room_pg (n := B.length + 1) (by omega)
  have hmB : (B.map pg).length = B.length := List.length_map _
  by_cases c : x.ver = 0
  · obtain ⟨v4, a4, r4, q4, N4⟩ := made_next1 fx xs hx a3 3 q3 (by omega)
    have hnx' := hnx _ (hadd (100 * v4) (by have := hb0 c; omega) (by omega))
    have e1 := app_pg B ⟨1 + sc, 1 + v2, x.ver + 1, 100 * v4, p.name, p.need, p.total, p.own, p.age, p.ex⟩ B.length rfl
    have l1 : (B ++ [(⟨1 + sc, 1 + v2, x.ver + 1, 100 * v4, p.name, p.need, p.total, p.own, p.age, p.ex⟩ : Pg)]).length = B.length + 1 := by simp
    clear hnx hadd
    obtain ⟨xs1, xs2, xs3, xs4, xs5, ⟨xk, xn, xm, xset, xl⟩, xs6, xs7, xs8, xs9⟩ := x
    obtain ⟨ps1, ps2, ps3, ps4, ps5, ⟨pk, pn, pm, pset, pl⟩, ps6, ps7, ps8, ps9⟩ := p
    dsimp only at c hLa e1 l1 hnx' hb0
    rw [pg_mk] at hla hM e1
    ((repeat ((conv => whnf); (first | (refine LetN.pre ?_; first | ((conv => arg 1; whnf); refine LetN.mk ?_)) | (refine As.pre ?_; first | refine As.mk rfl ?_ | (refine As.mk ?_ ?_; · ((repeat' (refine andT ?_ ?_)) <;> (first | rfl | assumption | exact decide_eq_true (by omega) | exact decide_eq_true (by dsimp only; omega) | exact decide_eq_true (by simp; omega) | (simp; done))))) | (refine LetV.pre ?_; first | refine LetV.mk (t := 22) _ hld ?_ | refine LetV.mk (.sc (.int _ _)) rfl ?_ | refine LetV.mk (.agg _) rfl ?_ | refine LetV.mk (.ro _ _ _) rfl ?_) | (refine LetI.pre ?_; first | refine LetI.mk (o := some .mul) sc hqs ?_ | refine LetI.wrap (by omega) (by omega) ?_ | refine LetI.mk _ rfl ?_) | (refine LetB.pre ?_; first | refine LetB.dect (by omega) ?_) | (refine Gd.pre ?_; first | refine Gd.run rfl ?_) | (refine Br.pre ?_; first | refine Br.tt rfl ?_) | (refine Ck.pre ?_; first | refine Ck.drawn (by kernel_rfl) ?_ | refine Ck.mk rfl ?_) | (refine LetL.pre ?_; first | refine LetL.mk (ty := pty) _ e1 ?_ | refine LetL.mk (ty := pty) _ (renL_none (pure_pg _)).symm ?_ | refine LetL.mk (ty := pty) [.agg [_, _, _, _, _, _, _, _, _, _, _, _, _, _]] rfl ?_ | refine LetL.mk [_] rfl ?_) | (refine CallN.pre ?_; first | refine CallN.own (fun _ => 1) N0 (CallOk.mk' rfl rfl rfl (namesAll.row rfl rfl) rfl (namesAll.row rfl rfl) (haveAll.row rfl rfl trivial)) ?_ | refine CallN.own (fun _ => 1) N1 (CallOk.mk' rfl rfl rfl (namesAll.row rfl rfl) rfl (namesAll.row rfl rfl) (haveAll.row rfl rfl trivial)) ?_ | refine CallN.own (fun _ => 1) N2 (CallOk.mk' rfl rfl rfl (namesAll.row rfl rfl) rfl (namesAll.row rfl rfl) (haveAll.row rfl rfl trivial)) ?_ | refine CallN.own (fun _ => 1) N3 (CallOk.mk' rfl rfl rfl (namesAll.row rfl rfl) rfl (namesAll.row rfl rfl) (haveAll.row rfl rfl trivial)) ?_ | refine CallN.own (fun _ => 1) N4 (CallOk.mk' rfl rfl rfl (namesAll.row rfl rfl) rfl (namesAll.row rfl rfl) (haveAll.row rfl rfl trivial)) ?_ | refine CallN.pure hM rfl rfl ?_ | refine CallN.own (fun i => i) hla (CallOk.mk' rfl rfl rfl (namesAll.row (pure_pg _) rfl) rfl (namesAll.row (pure_pg _) rfl) (haveAll.row (pure_pg _) rfl trivial)) ?_)))); (try (conv => whnf)))












    refine LoopN.weak ?sw2 hnx'
    case sw2 => exact SW.mk (fun i => if i = 0 then 4 else i) rfl rfl (namesAll.row (pure_pg _) rfl) ⟨.refl _, VLe2.slm_of l1, VLe2.int (by omega), trivial⟩ (haveV.row (pure_pg _) rfl trivial)
  · have hnx' := hnx _ (hadd (x.from_ + 50 * v3) (by omega) (by omega))
    have e1 := app_pg B ⟨1 + sc, 1 + v2, x.ver + 1, x.from_ + 50 * v3, p.name, p.need, p.total, p.own, p.age, p.ex⟩ B.length rfl
    have l1 : (B ++ [(⟨1 + sc, 1 + v2, x.ver + 1, x.from_ + 50 * v3, p.name, p.need, p.total, p.own, p.age, p.ex⟩ : Pg)]).length = B.length + 1 := by simp
    clear hnx hadd
    obtain ⟨xs1, xs2, xs3, xs4, xs5, ⟨xk, xn, xm, xset, xl⟩, xs6, xs7, xs8, xs9⟩ := x
    obtain ⟨ps1, ps2, ps3, ps4, ps5, ⟨pk, pn, pm, pset, pl⟩, ps6, ps7, ps8, ps9⟩ := p
    dsimp only at c hLa e1 l1 hnx' hb0
    rw [pg_mk] at hla hM e1
    ((repeat ((conv => whnf); (first | (refine LetN.pre ?_; first | ((conv => arg 1; whnf); refine LetN.mk ?_)) | (refine As.pre ?_; first | refine As.mk rfl ?_ | (refine As.mk ?_ ?_; · ((repeat' (refine andT ?_ ?_)) <;> (first | rfl | assumption | exact decide_eq_true (by omega) | exact decide_eq_true (by dsimp only; omega) | exact decide_eq_true (by simp; omega) | (simp; done))))) | (refine LetV.pre ?_; first | refine LetV.mk (t := 22) _ hld ?_ | refine LetV.mk (.sc (.int _ _)) rfl ?_ | refine LetV.mk (.agg _) rfl ?_ | refine LetV.mk (.ro _ _ _) rfl ?_) | (refine LetI.pre ?_; first | refine LetI.mk (o := some .mul) sc hqs ?_ | refine LetI.wrap (by omega) (by omega) ?_ | refine LetI.mk _ rfl ?_) | (refine LetB.pre ?_; first | refine LetB.dect (by omega) ?_ | refine LetB.decf (by omega) ?_) | (refine Gd.pre ?_; first | refine Gd.run rfl ?_) | (refine Br.pre ?_; first | refine Br.tt rfl ?_ | refine Br.ff rfl ?_) | (refine Ck.pre ?_; first | refine Ck.drawn (by kernel_rfl) ?_ | refine Ck.mk rfl ?_) | (refine LetL.pre ?_; first | refine LetL.mk (ty := pty) _ e1 ?_ | refine LetL.mk (ty := pty) _ (renL_none (pure_pg _)).symm ?_ | refine LetL.mk (ty := pty) [.agg [_, _, _, _, _, _, _, _, _, _, _, _, _, _]] rfl ?_ | refine LetL.mk [_] rfl ?_) | (refine CallN.pre ?_; first | refine CallN.own (fun _ => 1) N0 (CallOk.mk' rfl rfl rfl (namesAll.row rfl rfl) rfl (namesAll.row rfl rfl) (haveAll.row rfl rfl trivial)) ?_ | refine CallN.own (fun _ => 1) N1 (CallOk.mk' rfl rfl rfl (namesAll.row rfl rfl) rfl (namesAll.row rfl rfl) (haveAll.row rfl rfl trivial)) ?_ | refine CallN.own (fun _ => 1) N2 (CallOk.mk' rfl rfl rfl (namesAll.row rfl rfl) rfl (namesAll.row rfl rfl) (haveAll.row rfl rfl trivial)) ?_ | refine CallN.own (fun _ => 1) N3 (CallOk.mk' rfl rfl rfl (namesAll.row rfl rfl) rfl (namesAll.row rfl rfl) (haveAll.row rfl rfl trivial)) ?_ | refine CallN.pure hM rfl rfl ?_ | refine CallN.own (fun i => i) hla (CallOk.mk' rfl rfl rfl (namesAll.row (pure_pg _) rfl) rfl (namesAll.row (pure_pg _) rfl) (haveAll.row (pure_pg _) rfl trivial)) ?_)))); (try (conv => whnf)))











    refine LoopN.weak ?sw3 hnx'
    case sw3 => exact SW.mk (fun i => if i = 0 then 4 else i) rfl rfl (namesAll.row (pure_pg _) rfl) ⟨.refl _, VLe2.slm_of l1, VLe2.int (by omega), trivial⟩ (haveV.row (pure_pg _) rfl trivial)
theorem Made_f (fl : Fl) (L : List (Fl × List Int)) (hL : L.length ≤ 9223372036854775807) (hxs : ∀ x ∈ L, x.2.length ≤ 9223372036854775807) : ∃ B : List Pg, BK B ∧ AFun Try.prog 16 0 [.ro fl 1 (L.map iA)] [] (.ro {} 14 (B.map pg)) [] := by
  obtain ⟨B, h1, h2⟩ := Made_s fl L hL hxs
  exact ⟨B, h1, AFun.frz1 (H := []) h2 rfl (pure_pg B) (by simp)⟩
end Pb
end Go.Proofs.Ytjnmbmdplchfkaa
namespace Go.Proofs.Ytjnmbmdplchfkaa.Am
variable [Lo]
open Go
theorem CLe.agg {cs cs' : List AV} (h : VLe2L cs cs') : CLe (.agg cs) (.agg cs') := fun w g x hx => by
  obtain ⟨h1, h2⟩ := h.get
  cases hx with
  | agg a b =>
    refine .agg (by rw [← h1]; exact a) fun i c y hi hy => ?_
    obtain ⟨d, hd, hle⟩ := h2 i c hi
    exact hle w g y (b i d y hd hy)
def CLeL : List AV → List AV → Prop
  | [], [] => True
  | a :: l, b :: m => CLe a b ∧ CLeL l m
  | _, _ => False
theorem CLeL.get : ∀ {l m : List AV}, CLeL l m → l.length = m.length ∧ ∀ (i : Nat) (b : AV), m[i]? = some b → ∃ a, l[i]? = some a ∧ CLe a b
  | [], [], _ => ⟨rfl, fun i b h => by simp at h⟩
  | a :: l, b :: m, h => by
    obtain ⟨h3, h4⟩ := CLeL.get h.2
    refine ⟨by simp [h3], fun i c hc => ?_⟩
    cases i with
    | zero => simp at hc; subst hc; exact ⟨a, rfl, h.1⟩
    | succ i => exact h4 i c hc
  | [], _ :: _, h => by cases h
  | _ :: _, [], h => by cases h
theorem AFun.le {P : Program} {f : FuncId} {p : Nat} {vs vs' : List AV} {H H1 : AH} {v : AV} (h : AFun P f p vs H v H1) (hle : CLeL vs' vs) : AFun P f p vs' H v H1 := fun w g xs hl hx hH hN =>
  h w g xs (by rw [← hle.get.1]; exact hl) (fun i b x hb hx' => by
    obtain ⟨a, ha, hc⟩ := hle.get.2 i b hb
    exact hc w g x (hx i a x ha hx')) hH hN
end Go.Proofs.Ytjnmbmdplchfkaa.Am
namespace Go.Proofs.Ytjnmbmdplchfkaa
open Go.Proofs.Ytjnmbmdplchfkaa.Am
set_option maxRecDepth 100000
variable [Lo]
namespace Pb
/-! ### The examples -/
abbrev sA1 : ByteArray := ⟨#[65, 49]⟩
abbrev sLaw : ByteArray := ⟨#[76, 97, 119]⟩
abbrev vs (n f : Int) : Pg := ⟨1, 7, n, f, sLaw, .mk 1 0 (10 * n) [(1, sA1)] [], 0, 0, 0, []⟩
abbrev vsA (n f : Int) : AV := .agg [int 1, int 7, int n, int f, str sLaw, int 1, int 0, int (10 * n), .ro {} 2 [.agg [int 1, str sA1]], .ro {} 5 [], int 0, int 0, int 0, .ro {} 4 []]
abbrev VB : List Pg := [vs 1 0, vs 2 200, vs 3 400]
set_option maxRecDepth 100000 in
theorem version_f (n f : Int) (hn : 0 ≤ n ∧ n ≤ 100) : AFun Try.prog 26 0 [int n, int f] [] (vsA n f) [] := by
  refine AFun.of_S T_ok mixed Try.func26 rfl (Nat.le_of_ble_eq_true rfl) rfl ?_
  ((repeat ((conv => whnf); (first | (refine LetN.pre ?_; first | ((conv => arg 1; whnf); refine LetN.mk ?_)) | (refine As.pre ?_; first | refine As.mk rfl ?_) | (refine LetI.pre ?_; first | refine LetI.wrap (by omega) (by omega) ?_) | (refine Ck.pre ?_; first | refine Ck.mk rfl ?_) | (refine LetL.pre ?_; first | refine LetL.mk [_] rfl ?_)))); (try (conv => whnf)))
  exact ⟨⟨[(4, .ptr 0 14 0 0)], [(0, .row 14 pty [vsA n f])], 1⟩, SW.mk id rfl rfl rfl ⟨.refl _, trivial⟩ (haveV.agg rfl ⟨.refl _, .refl _, .refl _, .refl _, .refl _, .refl _, .refl _, .refl _, .ro_of rfl, VLe2.nilro, .refl _, .refl _, .refl _, VLe2.nilro, trivial⟩ trivial), .inl rfl, ⟨_, rfl, rfl⟩, trivial⟩
theorem okA1 : okCode sA1 := okCode2 (by decide)
theorem okLaw : okName sLaw := ⟨⟨by show 1 ≤ 3; omega, by show 3 ≤ 40; omega⟩, fun i h => by
  have : i < 3 := h
  have : i = 0 ∨ i = 1 ∨ i = 2 := by omega
  rcases this with rfl | rfl | rfl <;> rfl⟩
theorem vs_wp (n f : Int) (hn : 1 ≤ n ∧ n ≤ 20) : WP (vs n f) :=
  ⟨(MN.leaf (n := 3) (lv := 6) rfl (.course _ _ ⟨by omega, ⟨Nat.le_refl _, by show 1 ≤ 12; omega⟩, fun c hc => by rw [List.mem_singleton.1 hc]; exact ⟨by show (1 : Int) ≤ 1 ∧ (1 : Int) ≤ 8; omega, okA1⟩, fun i h => by have h : i + 1 < 1 := h; omega⟩)).wn (Nat.le_refl _), by show (0 : Int) ≤ 0 ∧ (0 : Int) ≤ 600; omega, by show (0 : Int) ≤ 0 ∧ (0 : Int) ≤ 600; omega, by show (0 : Int) ≤ 0 ∧ (0 : Int) ≤ 100; omega, by show 3 ≤ 1000; omega, .inl rfl⟩
theorem vs_ck (n f : Int) (hn : 1 ≤ n ∧ n ≤ 20) (hf : 0 ≤ f ∧ f ≤ 100000) : ckA (vs n f) = 0 := ckA_ok (by show (1 : Int) ≤ 1 ∧ (1 : Int) ≤ 8; omega) (by show (1 : Int) ≤ 7 ∧ (7 : Int) ≤ 999999; omega) hn hf okLaw
theorem bk1 : BK [vs 1 0] := BK.nil.add (by decide) (vs_wp _ _ (by decide)) okLaw (by decide) (by decide) rfl (by decide) (by decide)
theorem bk2 : BK [vs 1 0, vs 2 200] := bk1.add (by decide) (vs_wp _ _ (by decide)) okLaw (by decide) (by decide) rfl (by decide) (by decide)
theorem bkV : BK VB := bk2.add (by decide) (vs_wp _ _ (by decide)) okLaw (by decide) (by decide) rfl (by decide) (by decide)
theorem putE_ok {B : List Pg} {p : Pg} (h : ckB B = 0) (h2 : B.length < 200) (h3 : on1 B p = 0) : putE B p = 0 ∧ putL B p = B ++ [p] ∧ ckB (B ++ [p]) = 0 := by
  have e2 : ckB (B ++ [p]) = 0 := by rw [ckB_append p h, if_neg (by omega), h3]
  have e : putE B p = 0 := by unfold putE; rw [if_pos h, e2]
  exact ⟨e, by unfold putL; rw [if_pos e], e2⟩
theorem putE_no {B : List Pg} {p : Pg} (h : ckB B = 0) (h2 : B.length < 200) (h3 : on1 B p = 7) : putE B p = 7 ∧ putL B p = [] := by
  have e : putE B p = 7 := by unfold putE; rw [if_pos h, ckB_append p h, if_neg (by omega), h3]
  exact ⟨e, by unfold putL; rw [e]; rfl⟩
theorem on1_no {B : List Pg} {p : Pg} (h : ckA p = 0) (h1 : ¬ (p.ver - 1 = (lastP B p.school p.id).1.ver ∧ (lastP B p.school p.id).1.from_ ≤ p.from_)) : on1 B p = 7 := by
  unfold on1
  rw [if_pos h, if_neg h1]
theorem spV : ∀ q ∈ VB, SP q := fun q h => (bkV.wp q h).sp
abbrev VBA : AV := .ro ⟨true, true⟩ 14 [vsA 1 0, vsA 2 200, vsA 3 400]
set_option maxRecDepth 100000 in
open Classical in
theorem binds_f (be day w : Int) (C : List Ch) (hC : C.length ≤ 1000) (hw : 1 ≤ w ∧ w ≤ 3) (h : bindP VB 1 7 be day C = (vs w (200 * w - 200), 0)) : AFun Try.prog 25 0 [int be, int day, int w, .ro {} 4 (C.map chA)] [] (bool true) [] := by
  have hB := Bind_f VB C 1 7 be day (by decide) hC spV
  rw [h] at hB
  replace hB : AFun Try.prog 13 0 [VBA, int 1, int 7, int be, .ro {} 4 (C.map chA), int day] [] (.tup [vsA w (200 * w - 200), int 0]) [] := hB.le ⟨(VLe2.ro_of rfl).cle, (VLe2.refl _).cle, (VLe2.refl _).cle, (VLe2.refl _).cle, (VLe2.refl _).cle, (VLe2.refl _).cle, trivial⟩
  have h1 := version_f 1 0 (by decide)
  have h2 := version_f 2 200 (by decide)
  have h3 := version_f 3 400 (by decide)
  have h4 := version_f w (200 * w - 200) (by omega)
  have hS := SameAll_f (vs_wp w (200 * w - 200) (by omega)).cp (vs_wp w (200 * w - 200) (by omega)).cp
  rw [decide_eq_true rfl] at hS
  replace hS : AFun Try.prog 14 0 [vsA w (200 * w - 200), vsA w (200 * w - 200)] [] (bool true) [] := hS
  refine AFun.of_W T_ok mixed Try.func25 rfl (Nat.le_of_ble_eq_true rfl) rfl ?_
  ((repeat ((conv => whnf); (first | (refine LetN.pre ?_; first | ((conv => arg 1; whnf); refine LetN.mk ?_)) | (refine As.pre ?_; first | refine As.mk rfl ?_) | (refine LetV.pre ?_; first | refine LetV.mk (.agg _) rfl ?_) | (refine LetI.pre ?_; first | refine LetI.wrap (by omega) (by omega) ?_) | (refine LetB.pre ?_; first | refine LetB.tt rfl ?_ | refine LetB.decf (by omega) ?_) | (refine Gd.pre ?_; first | refine Gd.run rfl ?_) | (refine Br.pre ?_; first | refine Br.ff rfl ?_) | (refine Ck.pre ?_; first | refine Ck.drawn (by kernel_rfl) ?_ | refine Ck.mk rfl ?_) | (refine LetL.pre ?_; first | refine LetL.mk [_] rfl ?_) | (refine CallN.pre ?_; first | refine CallN.pure h1 rfl rfl ?_ | refine CallN.pure h2 rfl rfl ?_ | refine CallN.pure h3 rfl rfl ?_ | refine CallN.pure h4 rfl rfl ?_ | refine CallN.pure hB rfl rfl ?_ | refine CallN.pure hS rfl rfl ?_)))); (try (conv => whnf)))
  exact ⟨.inl rfl, ⟨_, rfl, rfl⟩, trivial⟩
set_option maxRecDepth 100000 in
open Classical in
theorem binds_0 (be day : Int) (C : List Ch) (hC : C.length ≤ 1000) (h : bindP VB 1 7 be day C = (p0, 30)) : AFun Try.prog 25 0 [int be, int day, int 0, .ro {} 4 (C.map chA)] [] (bool true) [] := by
  have hB := Bind_f VB C 1 7 be day (by decide) hC spV
  rw [h] at hB
  replace hB : AFun Try.prog 13 0 [VBA, int 1, int 7, int be, .ro {} 4 (C.map chA), int day] [] (.tup [pg p0, int 30]) [] := hB.le ⟨(VLe2.ro_of rfl).cle, (VLe2.refl _).cle, (VLe2.refl _).cle, (VLe2.refl _).cle, (VLe2.refl _).cle, (VLe2.refl _).cle, trivial⟩
  have h1 := version_f 1 0 (by decide)
  have h2 := version_f 2 200 (by decide)
  have h3 := version_f 3 400 (by decide)
  have hS := SameAll_f cp0 cp0
  rw [decide_eq_true rfl] at hS
  replace hS : AFun Try.prog 14 0 [pg p0, zpV] [] (bool true) [] := hS.le ⟨(VLe2.refl _).cle, CLe.agg ⟨.refl _, .refl _, .refl _, .refl _, .refl _, .refl _, .refl _, .refl _, VLe2.nilro, VLe2.nilro, .refl _, .refl _, .refl _, VLe2.nilro, trivial⟩, trivial⟩
  refine AFun.of_W T_ok mixed Try.func25 rfl (Nat.le_of_ble_eq_true rfl) rfl ?_
  ((repeat ((conv => whnf); (first | (refine LetN.pre ?_; first | ((conv => arg 1; whnf); refine LetN.mk ?_)) | (refine As.pre ?_; first | refine As.mk rfl ?_) | (refine LetV.pre ?_; first | refine LetV.mk (.agg _) rfl ?_) | (refine LetB.pre ?_; first | refine LetB.tt rfl ?_) | (refine Gd.pre ?_; first | refine Gd.run rfl ?_) | (refine Br.pre ?_; first | refine Br.tt rfl ?_) | (refine Ck.pre ?_; first | refine Ck.mk rfl ?_) | (refine LetL.pre ?_; first | refine LetL.mk [_] rfl ?_) | (refine CallN.pre ?_; first | refine CallN.pure h1 rfl rfl ?_ | refine CallN.pure h2 rfl rfl ?_ | refine CallN.pure h3 rfl rfl ?_ | refine CallN.pure hB rfl rfl ?_ | refine CallN.pure hS rfl rfl ?_)))); (try (conv => whnf)))
  exact ⟨.inl rfl, ⟨_, rfl, rfl⟩, trivial⟩
theorem bdP0 : bindP VB 1 7 199 500 [] = (vs 1 0, 0) := by kernel_rfl
theorem bd0 : AFun Try.prog 25 0 [int 199, int 500, int 1, .sc (.slice none 0 0)] [] (bool true) [] :=
  (binds_f 199 500 1 [] (by decide) (by decide) bdP0).le ⟨(VLe2.refl _).cle, (VLe2.refl _).cle, (VLe2.refl _).cle, VLe2.nilro.cle, trivial⟩
theorem bdP1 : bindP VB 1 7 200 500 [] = (vs 2 200, 0) := by kernel_rfl
theorem bd1 : AFun Try.prog 25 0 [int 200, int 500, int 2, .sc (.slice none 0 0)] [] (bool true) [] :=
  (binds_f 200 500 2 [] (by decide) (by decide) bdP1).le ⟨(VLe2.refl _).cle, (VLe2.refl _).cle, (VLe2.refl _).cle, VLe2.nilro.cle, trivial⟩
theorem bdP2 : bindP VB 1 7 1000 500 [] = (vs 3 400, 0) := by kernel_rfl
theorem bd2 : AFun Try.prog 25 0 [int 1000, int 500, int 3, .sc (.slice none 0 0)] [] (bool true) [] :=
  (binds_f 1000 500 3 [] (by decide) (by decide) bdP2).le ⟨(VLe2.refl _).cle, (VLe2.refl _).cle, (VLe2.refl _).cle, VLe2.nilro.cle, trivial⟩
theorem bdP3 : bindP VB 1 7 100 249 [⟨7, 2, 0, 250⟩] = (vs 1 0, 0) := by kernel_rfl
theorem bd3 : AFun Try.prog 25 0 [int 100, int 249, int 1, .ro ⟨true, true⟩ 4 [.agg [int 7, int 2, int 0, int 250]]] [] (bool true) [] :=
  (binds_f 100 249 1 [⟨7, 2, 0, 250⟩] (by decide) (by decide) bdP3).le ⟨(VLe2.refl _).cle, (VLe2.refl _).cle, (VLe2.refl _).cle, (VLe2.ro_of rfl).cle, trivial⟩
theorem bdP4 : bindP VB 1 7 100 250 [⟨7, 2, 0, 250⟩] = (vs 2 200, 0) := by kernel_rfl
theorem bd4 : AFun Try.prog 25 0 [int 100, int 250, int 2, .ro ⟨true, true⟩ 4 [.agg [int 7, int 2, int 0, int 250]]] [] (bool true) [] :=
  (binds_f 100 250 2 [⟨7, 2, 0, 250⟩] (by decide) (by decide) bdP4).le ⟨(VLe2.refl _).cle, (VLe2.refl _).cle, (VLe2.refl _).cle, (VLe2.ro_of rfl).cle, trivial⟩
theorem bdP5 : bindP VB 1 7 100 500 [⟨7, 3, 0, 250⟩] = (vs 1 0, 0) := by kernel_rfl
theorem bd5 : AFun Try.prog 25 0 [int 100, int 500, int 1, .ro ⟨true, true⟩ 4 [.agg [int 7, int 3, int 0, int 250]]] [] (bool true) [] :=
  (binds_f 100 500 1 [⟨7, 3, 0, 250⟩] (by decide) (by decide) bdP5).le ⟨(VLe2.refl _).cle, (VLe2.refl _).cle, (VLe2.refl _).cle, (VLe2.ro_of rfl).cle, trivial⟩
theorem bdP6 : bindP VB 1 7 200 500 [⟨7, 1, 0, 250⟩] = (vs 2 200, 0) := by kernel_rfl
theorem bd6 : AFun Try.prog 25 0 [int 200, int 500, int 2, .ro ⟨true, true⟩ 4 [.agg [int 7, int 1, int 0, int 250]]] [] (bool true) [] :=
  (binds_f 200 500 2 [⟨7, 1, 0, 250⟩] (by decide) (by decide) bdP6).le ⟨(VLe2.refl _).cle, (VLe2.refl _).cle, (VLe2.refl _).cle, (VLe2.ro_of rfl).cle, trivial⟩
theorem bdP7 : bindP VB 1 7 (-1) 500 [] = (p0, 30) := by kernel_rfl
theorem bd7 : AFun Try.prog 25 0 [int (-1), int 500, int 0, .sc (.slice none 0 0)] [] (bool true) [] :=
  (binds_0 (-1) 500 [] (by decide) bdP7).le ⟨(VLe2.refl _).cle, (VLe2.refl _).cle, (VLe2.refl _).cle, VLe2.nilro.cle, trivial⟩
theorem none_f : AFun Try.prog 13 0 [VBA, int 1, int 8, int 100, .sc (.slice none 0 0), int 500] [] (.tup [pg p0, int 5]) [] := by
  have hB := Bind_f VB [] 1 8 100 500 (by decide) (by decide) spV
  rw [show bindP VB 1 8 100 500 [] = (p0, 5) by kernel_rfl] at hB
  exact hB.le ⟨(VLe2.ro_of rfl).cle, (VLe2.refl _).cle, (VLe2.refl _).cle, (VLe2.refl _).cle, VLe2.nilro.cle, (VLe2.refl _).cle, trivial⟩
theorem five_f : AFun Try.prog 11 0 [VBA, vsA 5 400] [] (.tup [.ro {} 14 [], int 7]) [] := by
  have hB := Put_f VB (by decide) bkV.wp (vs_wp 5 400 (by decide))
  obtain ⟨e1, e2⟩ := putE_no (p := vs 5 400) bkV.ck (by decide) (on1_no (vs_ck 5 400 (by decide) (by decide)) (by decide))
  rw [e1, e2] at hB
  exact hB.le ⟨(VLe2.ro_of rfl).cle, (VLe2.refl _).cle, trivial⟩
theorem early_f : AFun Try.prog 11 0 [VBA, vsA 4 399] [] (.tup [.ro {} 14 [], int 7]) [] := by
  have hB := Put_f VB (by decide) bkV.wp (vs_wp 4 399 (by decide))
  obtain ⟨e1, e2⟩ := putE_no (p := vs 4 399) bkV.ck (by decide) (on1_no (vs_ck 4 399 (by decide) (by decide)) (by decide))
  rw [e1, e2] at hB
  exact hB.le ⟨(VLe2.ro_of rfl).cle, (VLe2.refl _).cle, trivial⟩
theorem on1_4 : on1 VB (vs 4 400) = 0 := on1_ok (vs_ck 4 400 (by decide) (by decide)) rfl (by decide)
theorem more_f : AFun Try.prog 11 0 [VBA, vsA 4 400] [] (.tup [.ro {} 14 [vsA 1 0, vsA 2 200, vsA 3 400, vsA 4 400], int 0]) [] := by
  have hB := Put_f VB (by decide) bkV.wp (vs_wp 4 400 (by decide))
  obtain ⟨e1, e2, _⟩ := putE_ok (p := vs 4 400) bkV.ck (by decide) on1_4
  rw [e1, e2] at hB
  exact hB.le ⟨(VLe2.ro_of rfl).cle, (VLe2.refl _).cle, trivial⟩
theorem moreCk_f : AFun Try.prog 12 0 [.ro {} 14 [vsA 1 0, vsA 2 200, vsA 3 400, vsA 4 400]] [] (int 0) [] := by
  obtain ⟨_, _, e⟩ := putE_ok (p := vs 4 400) bkV.ck (by decide) on1_4
  have hC := CheckB_f {} (VB ++ [vs 4 400]) (by decide) (fun p hp => by
    rcases List.mem_append.1 hp with h | h
    · exact bkV.wp p h
    · rw [List.mem_singleton.1 h]; exact vs_wp 4 400 (by decide))
  rw [e] at hC
  exact hC
set_option maxHeartbeats 1600000 in
set_option maxRecDepth 100000 in
theorem sanity_f : AFun Try.prog 8 0 [] [] (bool true) [] := by
  have h1 := version_f 1 0 (by decide)
  have h2 := version_f 2 200 (by decide)
  have h3 := version_f 3 400 (by decide)
  have h4 := version_f 5 400 (by decide)
  have h5 := version_f 4 399 (by decide)
  have h6 := version_f 4 400 (by decide)
  refine AFun.of_W T_ok mixed Try.func8 rfl (Nat.le_of_ble_eq_true rfl) rfl ?_
  ((repeat ((conv => whnf); (first | (refine LetN.pre ?_; first | ((conv => arg 1; whnf); refine LetN.mk ?_)) | (refine As.pre ?_; first | refine As.mk rfl ?_) | (refine LetV.pre ?_; first | refine LetV.mk (.agg _) rfl ?_) | (refine LetI.pre ?_; first | refine LetI.mk _ rfl ?_) | (refine LetB.pre ?_; first | refine LetB.tt rfl ?_) | (refine Gd.pre ?_; first | refine Gd.run rfl ?_) | (refine Ck.pre ?_; first | refine Ck.mk rfl ?_) | (refine LetL.pre ?_; first | refine LetL.mk [_] rfl ?_) | (refine CallN.pre ?_; first | refine CallN.pure h1 rfl rfl ?_ | refine CallN.pure h2 rfl rfl ?_ | refine CallN.pure h3 rfl rfl ?_ | refine CallN.pure h4 rfl rfl ?_ | refine CallN.pure h5 rfl rfl ?_ | refine CallN.pure h6 rfl rfl ?_ | refine CallN.pure bd0 rfl rfl ?_ | refine CallN.pure bd1 rfl rfl ?_ | refine CallN.pure bd2 rfl rfl ?_ | refine CallN.pure bd3 rfl rfl ?_ | refine CallN.pure bd4 rfl rfl ?_ | refine CallN.pure bd5 rfl rfl ?_ | refine CallN.pure bd6 rfl rfl ?_ | refine CallN.pure bd7 rfl rfl ?_ | refine CallN.pure none_f rfl rfl ?_ | refine CallN.pure five_f rfl rfl ?_ | refine CallN.pure early_f rfl rfl ?_ | refine CallN.pure more_f rfl rfl ?_ | refine CallN.pure moreCk_f rfl rfl ?_)))); (try (conv => whnf)))
  exact ⟨.inl rfl, ⟨_, rfl, rfl⟩, trivial⟩
end Pb
end Go.Proofs.Ytjnmbmdplchfkaa
namespace Go.Proofs.Ytjnmbmdplchfkaa
open Go.Proofs.Ytjnmbmdplchfkaa.Am
set_option maxRecDepth 100000
variable [Lo]
namespace Pb
/-! ### Equality of the reference, on equal arguments -/
theorem co_ne (a : Co) : false = !(a.1 == a.1 && (a.2.toList == a.2.toList && true)) := by simp
theorem ex_ne (a : Co × Co) : false = !((a.1.1 == a.1.1 && (a.1.2.toList == a.1.2.toList && true)) && ((a.2.1 == a.2.1 && (a.2.2.toList == a.2.2.toList && true)) && true)) := by simp
theorem str_ne (s : ByteArray) : false = !(s.toList == s.toList) := by simp
set_option maxRecDepth 100000 in
theorem rEqual_f (x : Nd) (hs : x.set.length ≤ 1000) : AFun Try.prog 60 0 [nd x, nd x] [] (bool true) [] := by
  obtain ⟨k, n, m, s, l⟩ := x
  replace hs : s.length ≤ 1000 := hs
  have hms : (s.map coA).length = s.length := List.length_map _
  have hml : (l.map nd).length = l.length := List.length_map _
  rw [nd_mk]
  refine AFun.of_W T_ok mixed Try.func60 rfl (Nat.le_of_ble_eq_true rfl) rfl ?_
  ((repeat ((conv => whnf); (first | (refine LetN.pre ?_; first | ((conv => arg 1; whnf); refine LetN.mk ?_)) | (refine As.pre ?_; first | refine As.mk rfl ?_) | (refine LetV.pre ?_; first | refine LetV.mk (.sc (.int _ _)) rfl ?_ | refine LetV.mk (.ro _ _ _) rfl ?_) | (refine LetI.pre ?_; first | refine LetI.mk _ rfl ?_) | (refine LetB.pre ?_; first | refine LetB.bnef (by omega) ?_) | (refine Gd.pre ?_; first | refine Gd.run rfl ?_) | (refine Br.pre ?_; first | refine Br.ff rfl ?_) | (refine Ck.pre ?_; first | refine Ck.mk rfl ?_)))); (try (conv => whnf)))
  refine LoopN.weak (s1 := ⟨[(2, .ptr 0 5 0 0), (3, .ptr 1 5 0 0), (5, int (0 : Nat))], [(0, .row 5 nty [.agg [int k, int n, int m, .ro {} 2 (s.map coA), .ro {} 5 (l.map nd)]]), (1, .row 5 nty [.agg [int k, int n, int m, .ro {} 2 (s.map coA), .ro {} 5 (l.map nd)]])], 2⟩) ?sw1 ?_
  case sw1 => exact SW.mk id rfl rfl (namesAll.row rfl (namesAll.row rfl rfl)) ⟨.refl _, .refl _, .refl _, trivial⟩ (haveV.row rfl rfl (haveV.row rfl rfl trivial))
  refine LoopN.ind T_ok mixed (S := fun j : Nat => ⟨[(2, .ptr 0 5 0 0), (3, .ptr 1 5 0 0), (5, int j)], [(0, .row 5 nty [.agg [int k, int n, int m, .ro {} 2 (s.map coA), .ro {} 5 (l.map nd)]]), (1, .row 5 nty [.agg [int k, int n, int m, .ro {} 2 (s.map coA), .ro {} 5 (l.map nd)]])], 2⟩) (fun k => s.length - k) (fun k => k ≤ s.length) (fun _ => rfl) (fun j hj ih => ?_) 0 (Nat.zero_le _)
  by_cases hlt : j < s.length
  case neg =>
    clear ih
    ((repeat ((conv => whnf); (first | (refine As.pre ?_; first | refine As.mk rfl ?_) | (refine LetV.pre ?_; first | refine LetV.mk (.ro _ _ _) rfl ?_) | (refine LetI.pre ?_; first | refine LetI.mk _ rfl ?_) | (refine LetB.pre ?_; first | refine LetB.decf (by omega) ?_) | (refine Br.pre ?_; first | refine Br.ff rfl ?_) | (refine Ck.pre ?_; first | refine Ck.mk rfl ?_)))); (try (conv => whnf)))
    exact ⟨.inl rfl, ⟨_, rfl, rfl⟩, trivial⟩
  have hld := ld_co hlt
  have hnx := ih (j + 1) hlt (by omega)
  clear ih
  generalize s.getD j co0 = a at hld
  have hkb := co_ne a
  ((repeat ((conv => whnf); (first | (refine As.pre ?_; first | refine As.mk rfl ?_ | (refine As.mk ?_ ?_; · ((repeat' (refine andT ?_ ?_)) <;> (first | rfl | assumption | exact decide_eq_true (by omega) | exact decide_eq_true (by dsimp only; omega) | exact decide_eq_true (by simp; omega) | (simp; done))))) | (refine LetV.pre ?_; first | refine LetV.mk (t := 33) _ hld ?_ | refine LetV.mk (.agg _) rfl ?_ | refine LetV.mk (.ro _ _ _) rfl ?_) | (refine LetI.pre ?_; first | refine LetI.wrap (by omega) (by omega) ?_ | refine LetI.mk _ rfl ?_) | (refine LetB.pre ?_; first | refine LetB.mk (o := some .neq) _ hkb ?_ | refine LetB.dect (by omega) ?_) | (refine Br.pre ?_; first | refine Br.tt rfl ?_ | refine Br.ff rfl ?_) | (refine Ck.pre ?_; first | refine Ck.drawn (by kernel_rfl) ?_ | refine Ck.mk rfl ?_)))); (try (conv => whnf)))
  refine LoopN.weak ?sw2 hnx
  case sw2 => exact SW.mk id rfl rfl (namesAll.row rfl (namesAll.row rfl rfl)) ⟨.refl _, .refl _, VLe2.int (by omega), trivial⟩ (haveV.row rfl rfl (haveV.row rfl rfl trivial))
abbrev rsmS (I : List (Nd × Int)) (j : Nat) : AS := ⟨[(5, .ro {} 6 (I.map itA)), (7, .ro {} 6 (I.map itA)), (9, int j)], [], 0⟩
set_option maxRecDepth 100000 in
theorem rSame_f (x : Nd) (h : SN x) (hd : x.hgt ≤ 100) : AFun Try.prog 43 0 [nd x, nd x] [] (bool true) [] := by
  have hW := rwalk0_f x (by have := h.n; omega) hd
  have hall : ∀ y ∈ x.its 1, y.1.set.length ≤ 1000 := fun y hy => h.s _ (by rw [← its_nodes x 1]; exact List.mem_map_of_mem hy)
  have hn : (x.its 1).length ≤ 1000 := by rw [its_len]; exact h.n
  clear h hd
  generalize x.its 1 = I at hW hall hn
  have hmI : (I.map itA).length = I.length := List.length_map _
  obtain ⟨k, n, m, s, l⟩ := x
  rw [nd_mk] at hW ⊢
  refine AFun.of_W T_ok mixed Try.func43 rfl (Nat.le_of_ble_eq_true rfl) rfl ?_
  ((repeat ((conv => whnf); (first | (refine LetN.pre ?_; first | ((conv => arg 1; whnf); refine LetN.mk ?_)) | (refine As.pre ?_; first | refine As.mk rfl ?_) | (refine LetV.pre ?_; first | refine LetV.mk (.agg _) rfl ?_) | (refine LetI.pre ?_; first | refine LetI.mk _ rfl ?_) | (refine LetB.pre ?_; first | refine LetB.bnef (by omega) ?_) | (refine Gd.pre ?_; first | refine Gd.run rfl ?_) | (refine Br.pre ?_; first | refine Br.ff rfl ?_) | (refine Ck.pre ?_; first | refine Ck.mk rfl ?_) | (refine CallN.pre ?_; first | refine CallN.pure hW rfl rfl ?_)))); (try (conv => whnf)))
  clear hW
  refine LoopN.weak (s1 := rsmS I 0) ?sw1 ?_
  case sw1 => exact SW.fr0 (Nat.zero_le _) rfl ⟨.refl _, .refl _, .refl _, trivial⟩
  refine LoopN.ind T_ok mixed (S := rsmS I) (fun j => I.length - j) (fun j => j ≤ I.length) (fun _ => rfl) (fun j hj ih => ?_) 0 (Nat.zero_le _)
  by_cases hlt : j < I.length
  case neg =>
    clear ih hall
    ((repeat ((conv => whnf); (first | (refine As.pre ?_; first | refine As.mk rfl ?_) | (refine LetI.pre ?_; first | refine LetI.mk _ rfl ?_) | (refine LetB.pre ?_; first | refine LetB.decf (by omega) ?_) | (refine Br.pre ?_; first | refine Br.ff rfl ?_) | (refine Ck.pre ?_; first | refine Ck.mk rfl ?_)))); (try (conv => whnf)))
    exact ⟨.inl rfl, ⟨_, rfl, rfl⟩, trivial⟩
  have hld := ld_it hlt
  have hone := rEqual_f (I.getD j it0).1 (hall _ (it_mem hlt))
  have hnx := ih (j + 1) hlt (by omega)
  clear ih hall
  generalize I.getD j it0 = y at hld hone
  obtain ⟨y, d⟩ := y
  dsimp only at hone
  obtain ⟨k', n', m', s', l'⟩ := y
  rw [nd_mk] at hone
  ((repeat ((conv => whnf); (first | (refine As.pre ?_; first | refine As.mk rfl ?_ | (refine As.mk ?_ ?_; · ((repeat' (refine andT ?_ ?_)) <;> (first | rfl | assumption | exact decide_eq_true (by omega) | exact decide_eq_true (by dsimp only; omega) | exact decide_eq_true (by simp; omega) | (simp; done))))) | (refine LetV.pre ?_; first | refine LetV.mk (t := 110) (.agg [int k', int n', int m', .ro {} 2 (s'.map coA), .ro {} 5 (l'.map nd), int d]) hld ?_ | refine LetV.mk (.sc (.int _ _)) rfl ?_ | refine LetV.mk (.agg _) rfl ?_) | (refine LetI.pre ?_; first | refine LetI.wrap (by omega) (by omega) ?_ | refine LetI.mk _ rfl ?_) | (refine LetB.pre ?_; first | refine LetB.dect (by omega) ?_ | refine LetB.bnef (by omega) ?_) | (refine Gd.pre ?_; first | refine Gd.run rfl ?_) | (refine Br.pre ?_; first | refine Br.tt rfl ?_ | refine Br.ff rfl ?_) | (refine Ck.pre ?_; first | refine Ck.drawn (by kernel_rfl) ?_ | refine Ck.mk rfl ?_) | (refine CallN.pre ?_; first | refine CallN.pure hone rfl rfl ?_)))); (try (conv => whnf)))
  refine LoopN.weak ?sw2 hnx
  case sw2 => exact SW.fr0 (Nat.zero_le _) rfl ⟨.refl _, .refl _, VLe2.int (by omega), trivial⟩
set_option maxHeartbeats 1600000 in
set_option maxRecDepth 100000 in
theorem rSameAll_f {p : Pg} (h : CP p) : AFun Try.prog 22 0 [pg p, pg p] [] (bool true) [] := by
  have hS := rSame_f p.need h.s h.h
  have he := h.e
  clear h
  obtain ⟨school, id, ver, from_, name, ⟨k, n, m, s, l⟩, total, own, age, ex⟩ := p
  dsimp only at hS he
  rw [nd_mk] at hS
  rw [pg_mk]
  have hme : (ex.map exA).length = ex.length := List.length_map _
  have hkn := str_ne name
  refine AFun.of_W T_ok mixed Try.func22 rfl (Nat.le_of_ble_eq_true rfl) rfl ?_
  ((repeat ((conv => whnf); (first | (refine LetN.pre ?_; first | ((conv => arg 1; whnf); refine LetN.mk ?_)) | (refine As.pre ?_; first | refine As.mk rfl ?_) | (refine LetV.pre ?_; first | refine LetV.mk (.sc (.int _ _)) rfl ?_ | refine LetV.mk (.sc _) rfl ?_ | refine LetV.mk (.ro _ _ _) rfl ?_) | (refine LetI.pre ?_; first | refine LetI.mk _ rfl ?_) | (refine LetB.pre ?_; first | refine LetB.mk (o := some .neq) _ hkn ?_ | refine LetB.bnef (by omega) ?_) | (refine Gd.pre ?_; first | refine Gd.run rfl ?_) | (refine Br.pre ?_; first | refine Br.ff rfl ?_) | (refine Ck.pre ?_; first | refine Ck.mk rfl ?_)))); (try (conv => whnf)))
  refine LoopN.weak (s1 := ⟨[(2, .ptr 0 14 0 0), (3, .ptr 1 14 0 0), (5, int (0 : Nat))], [(0, .row 14 pty [.agg [int school, int id, int ver, int from_, str name, int k, int n, int m, .ro {} 2 (s.map coA), .ro {} 5 (l.map nd), int total, int own, int age, .ro {} 4 (ex.map exA)]]), (1, .row 14 pty [.agg [int school, int id, int ver, int from_, str name, int k, int n, int m, .ro {} 2 (s.map coA), .ro {} 5 (l.map nd), int total, int own, int age, .ro {} 4 (ex.map exA)]])], 2⟩) ?sw1 ?_
  case sw1 => exact SW.mk _root_.id rfl rfl (namesAll.row rfl (namesAll.row rfl rfl)) ⟨.refl _, .refl _, .refl _, trivial⟩ (haveV.row rfl rfl (haveV.row rfl rfl trivial))
  refine LoopN.ind T_ok mixed (S := fun j : Nat => ⟨[(2, .ptr 0 14 0 0), (3, .ptr 1 14 0 0), (5, int j)], [(0, .row 14 pty [.agg [int school, int id, int ver, int from_, str name, int k, int n, int m, .ro {} 2 (s.map coA), .ro {} 5 (l.map nd), int total, int own, int age, .ro {} 4 (ex.map exA)]]), (1, .row 14 pty [.agg [int school, int id, int ver, int from_, str name, int k, int n, int m, .ro {} 2 (s.map coA), .ro {} 5 (l.map nd), int total, int own, int age, .ro {} 4 (ex.map exA)]])], 2⟩) (fun k => ex.length - k) (fun k => k ≤ ex.length) (fun _ => rfl) (fun j hj ih => ?_) 0 (Nat.zero_le _)
  by_cases hlt : j < ex.length
  case neg =>
    clear ih
    ((repeat ((conv => whnf); (first | (refine As.pre ?_; first | refine As.mk rfl ?_) | (refine LetV.pre ?_; first | refine LetV.mk (.agg _) rfl ?_ | refine LetV.mk (.ro _ _ _) rfl ?_) | (refine LetI.pre ?_; first | refine LetI.mk _ rfl ?_) | (refine LetB.pre ?_; first | refine LetB.decf (by omega) ?_) | (refine Br.pre ?_; first | refine Br.ff rfl ?_) | (refine Ck.pre ?_; first | refine Ck.mk rfl ?_) | (refine CallN.pre ?_; first | refine CallN.pure hS rfl rfl ?_)))); (try (conv => whnf)))
    exact ⟨.inl rfl, ⟨_, rfl, rfl⟩, trivial⟩
  have hld := ld_ex hlt
  have hnx := ih (j + 1) hlt (by omega)
  clear ih
  generalize ex.getD j ex0 = a at hld
  have hkb := ex_ne a
  ((repeat ((conv => whnf); (first | (refine As.pre ?_; first | refine As.mk rfl ?_ | (refine As.mk ?_ ?_; · ((repeat' (refine andT ?_ ?_)) <;> (first | rfl | assumption | exact decide_eq_true (by omega) | exact decide_eq_true (by dsimp only; omega) | exact decide_eq_true (by simp; omega) | (simp; done))))) | (refine LetV.pre ?_; first | refine LetV.mk (t := 37) _ hld ?_ | refine LetV.mk (.agg _) rfl ?_ | refine LetV.mk (.ro _ _ _) rfl ?_) | (refine LetI.pre ?_; first | refine LetI.wrap (by omega) (by omega) ?_ | refine LetI.mk _ rfl ?_) | (refine LetB.pre ?_; first | refine LetB.mk (o := some .neq) _ hkb ?_ | refine LetB.dect (by omega) ?_) | (refine Br.pre ?_; first | refine Br.tt rfl ?_ | refine Br.ff rfl ?_) | (refine Ck.pre ?_; first | refine Ck.drawn (by kernel_rfl) ?_ | refine Ck.mk rfl ?_)))); (try (conv => whnf)))
  refine LoopN.weak ?sw2 hnx
  case sw2 => exact SW.mk _root_.id rfl rfl (namesAll.row rfl (namesAll.row rfl rfl)) ⟨.refl _, .refl _, VLe2.int (by omega), trivial⟩ (haveV.row rfl rfl (haveV.row rfl rfl trivial))
set_option maxRecDepth 100000 in
theorem rSameAllB_f (fl fl' : Fl) (B : List Pg) (hB : B.length ≤ 1000) (h : ∀ p ∈ B, CP p) : AFun Try.prog 15 0 [.ro fl 14 (B.map pg), .ro fl' 14 (B.map pg)] [] (bool true) [] := by
  have hmB : (B.map pg).length = B.length := List.length_map _
  refine AFun.of_W T_ok mixed Try.func15 rfl (Nat.le_of_ble_eq_true rfl) rfl ?_
  ((repeat ((conv => whnf); (first | (refine As.pre ?_; first | refine As.mk rfl ?_) | (refine LetI.pre ?_; first | refine LetI.mk _ rfl ?_) | (refine LetB.pre ?_; first | refine LetB.bnef (by omega) ?_) | (refine Br.pre ?_; first | refine Br.ff rfl ?_) | (refine Ck.pre ?_; first | refine Ck.mk rfl ?_)))); (try (conv => whnf)))
  refine LoopN.weak (s1 := ⟨[(0, .ro fl 14 (B.map pg)), (1, .ro fl' 14 (B.map pg)), (5, int (0 : Nat))], [], 0⟩) (SW.fr0 (Nat.le_refl _) rfl ⟨.refl _, .refl _, .refl _, trivial⟩) ?_
  refine LoopN.ind T_ok mixed (S := fun j : Nat => ⟨[(0, .ro fl 14 (B.map pg)), (1, .ro fl' 14 (B.map pg)), (5, int j)], [], 0⟩) (fun k => B.length - k) (fun k => k ≤ B.length) (fun _ => rfl) (fun j hj ih => ?_) 0 (Nat.zero_le _)
  by_cases hlt : j < B.length
  case neg =>
    clear ih h
    ((repeat ((conv => whnf); (first | (refine As.pre ?_; first | refine As.mk rfl ?_) | (refine LetI.pre ?_; first | refine LetI.mk _ rfl ?_) | (refine LetB.pre ?_; first | refine LetB.decf (by omega) ?_) | (refine Br.pre ?_; first | refine Br.ff rfl ?_) | (refine Ck.pre ?_; first | refine Ck.mk rfl ?_)))); (try (conv => whnf)))
    exact ⟨.inl rfl, ⟨_, rfl, rfl⟩, trivial⟩
  have hld := ld_pg hlt
  have hS := rSameAll_f (h (B.getD j p0) (by rw [List.getD_eq_getElem?_getD, List.getElem?_eq_getElem hlt]; exact List.getElem_mem hlt))
  have hnx := ih (j + 1) hlt (by omega)
  clear ih h
  generalize B.getD j p0 = y at hld hS
  obtain ⟨school, id, ver, from_, name, ⟨k, n, m, s, l⟩, total, own, age, ex⟩ := y
  rw [pg_mk] at hld hS
  ((repeat ((conv => whnf); (first | (refine As.pre ?_; first | refine As.mk rfl ?_ | (refine As.mk ?_ ?_; · ((repeat' (refine andT ?_ ?_)) <;> (first | rfl | assumption | exact decide_eq_true (by omega) | exact decide_eq_true (by dsimp only; omega) | exact decide_eq_true (by simp; omega) | (simp; done))))) | (refine LetV.pre ?_; first | refine LetV.mk (t := 28) _ hld ?_ | refine LetV.mk (.agg _) rfl ?_) | (refine LetI.pre ?_; first | refine LetI.wrap (by omega) (by omega) ?_ | refine LetI.mk _ rfl ?_) | (refine LetB.pre ?_; first | refine LetB.dect (by omega) ?_) | (refine Br.pre ?_; first | refine Br.tt rfl ?_ | refine Br.ff rfl ?_) | (refine Ck.pre ?_; first | refine Ck.drawn (by kernel_rfl) ?_ | refine Ck.mk rfl ?_) | (refine CallN.pre ?_; first | refine CallN.pure hS rfl rfl ?_)))); (try (conv => whnf)))
  refine LoopN.weak ?sw2 hnx
  case sw2 => exact SW.fr0 (Nat.zero_le _) rfl ⟨.refl _, .refl _, VLe2.int (by omega), trivial⟩
end Pb
end Go.Proofs.Ytjnmbmdplchfkaa
namespace Go.Proofs.Ytjnmbmdplchfkaa
open Go.Proofs.Ytjnmbmdplchfkaa.Am
set_option maxRecDepth 100000
variable [Lo]
namespace Pb
/-! ### Plain facts: beginnings of books, versions -/
theorem goB_split : ∀ (l pre m : List Pg), goB pre (l ++ m) = 0 ↔ goB pre l = 0 ∧ goB (pre ++ l) m = 0
  | [], pre, m => by rw [List.nil_append, List.append_nil]; exact ⟨fun h => ⟨rfl, h⟩, fun h => h.2⟩
  | p :: l, pre, m => by
    rw [List.cons_append, goB, goB]
    by_cases c : on1 pre p = 0
    · rw [if_pos c, if_pos c, goB_split l (pre ++ [p]) m, List.append_assoc]; rfl
    · rw [if_neg c, if_neg c]
      exact ⟨fun h => absurd h c, fun h => absurd h.1 c⟩
theorem ckB_zero {B : List Pg} : ckB B = 0 ↔ B.length ≤ 200 ∧ goB [] B = 0 := by
  constructor
  · exact ckB_len
  · rintro ⟨h1, h2⟩
    unfold ckB
    rw [if_neg (by omega)]; exact h2
theorem ckB_pre {A B : List Pg} (h : ckB (A ++ B) = 0) : ckB A = 0 := by
  rw [ckB_zero] at h ⊢
  rw [List.length_append] at h
  exact ⟨by omega, ((goB_split A [] B).1 h.2).1⟩
theorem ckB_snoc {B : List Pg} {p : Pg} (h : ckB (B ++ [p]) = 0) : ckB B = 0 ∧ on1 B p = 0 := by
  refine ⟨ckB_pre h, ?_⟩
  have h2 := ((goB_split B [] [p]).1 (ckB_zero.1 h).2).2
  rw [List.nil_append, goB] at h2
  split at h2
  · assumption
  · exact h2
theorem on1_ver {B : List Pg} {p : Pg} (h : on1 B p = 0) : p.ver = (lastP B p.school p.id).1.ver + 1 ∧ (lastP B p.school p.id).1.from_ ≤ p.from_ := by
  have hc := on1_ck h
  unfold on1 at h
  rw [if_pos hc] at h
  split at h
  · rename_i c; exact ⟨by omega, c.2⟩
  · cases h
/-- The last version is the greatest and the latest. -/
theorem last_max (s i : Int) : ∀ B : List Pg, ckB B = 0 → ∀ y ∈ B, y.school = s → y.id = i → y.ver ≤ (lastP B s i).1.ver ∧ y.from_ ≤ (lastP B s i).1.from_ := by
  refine revInd (M := fun B => ckB B = 0 → ∀ y ∈ B, y.school = s → y.id = i → y.ver ≤ (lastP B s i).1.ver ∧ y.from_ ≤ (lastP B s i).1.from_) (fun _ y h => (by cases h)) ?_
  intro B p ih h y hy h1 h2
  obtain ⟨hB, hp⟩ := ckB_snoc h
  obtain ⟨v1, v2⟩ := on1_ver hp
  rw [last_append, lasS]
  rcases List.mem_append.1 hy with e | e
  · have := ih hB y e h1 h2
    split
    · rename_i c
      rw [c.1, c.2] at v1 v2
      dsimp only
      omega
    · exact this
  · rw [List.mem_singleton.1 e] at h1 h2 ⊢
    rw [if_pos ⟨h1, h2⟩]
    exact ⟨Int.le_refl _, Int.le_refl _⟩
/-- A version is there once. -/
theorem ver_uniq : ∀ B : List Pg, ckB B = 0 → ∀ x ∈ B, ∀ y ∈ B, x.school = y.school → x.id = y.id → x.ver = y.ver → x = y := by
  refine revInd (M := fun B => ckB B = 0 → ∀ x ∈ B, ∀ y ∈ B, x.school = y.school → x.id = y.id → x.ver = y.ver → x = y) (fun _ y h => by cases h) ?_
  intro B p ih h x hx y hy h1 h2 h3
  obtain ⟨hB, hp⟩ := ckB_snoc h
  obtain ⟨v1, _⟩ := on1_ver hp
  rcases List.mem_append.1 hx with e | e <;> rcases List.mem_append.1 hy with f | f
  · exact ih hB x e y f h1 h2 h3
  · rw [List.mem_singleton.1 f] at h1 h2 h3
    have := (last_max p.school p.id B hB x e h1 h2).1
    omega
  · rw [List.mem_singleton.1 e] at h1 h2 h3
    have := (last_max p.school p.id B hB y f h1.symm h2.symm).1
    omega
  · rw [List.mem_singleton.1 e, List.mem_singleton.1 f]
theorem ofP_none {s i v : Int} : ∀ B : List Pg, (ofP s i v B).2 = false → (ofP s i v B).1 = p0 ∧ ∀ x ∈ B, ¬ (x.school = s ∧ x.id = i ∧ x.ver = v)
  | [], _ => ⟨rfl, fun x h => by cases h⟩
  | p :: l, h => by
    rw [ofP] at h ⊢
    by_cases c : p.school = s ∧ p.id = i ∧ p.ver = v
    · rw [if_pos c] at h; cases h
    · rw [if_neg c] at h ⊢
      obtain ⟨a, b⟩ := ofP_none l h
      exact ⟨a, fun x hx => by
        rcases List.mem_cons.1 hx with e | e
        · rw [e]; exact c
        · exact b x e⟩
theorem ofP_some {B : List Pg} (h : ckB B = 0) {x : Pg} (hx : x ∈ B) : ofP x.school x.id x.ver B = (x, true) := by
  cases hb : (ofP x.school x.id x.ver B).2 with
  | false => exact absurd ⟨rfl, rfl, rfl⟩ ((ofP_none B hb).2 x hx)
  | true =>
    obtain ⟨a, b, c, d⟩ := ofP_mem _ _ _ B hb
    exact Prod.ext (ver_uniq B h _ a _ hx b c d) hb
/-! ### What binds -/
theorem b1_append (B : List Pg) (p : Pg) (s i be : Int) : b1P (B ++ [p]) s i be = b1S s i be (b1P B s i be) p := by
  rw [b1P, List.foldl_append]; rfl
/-- What the first loop finds. -/
structure B1 (B : List Pg) (s i be : Int) : Prop where
  sm : (b1P B s i be).1 = true ↔ ∃ x ∈ B, x.school = s ∧ x.id = i
  no : (b1P B s i be).2 = none → ∀ x ∈ B, x.school = s → x.id = i → be < x.from_
  so : ∀ b, (b1P B s i be).2 = some b → b ∈ B ∧ (b.school = s ∧ b.id = i ∧ b.from_ ≤ be) ∧ ∀ x ∈ B, x.school = s → x.id = i → x.from_ ≤ be → x.ver ≤ b.ver
theorem b1_spec (s i be : Int) : ∀ B : List Pg, B1 B s i be := by
  refine revInd (M := fun B => B1 B s i be) ⟨⟨fun h => (by cases h), fun ⟨x, h, _⟩ => (by cases h)⟩, fun _ x h => (by cases h), fun b h => (by cases h)⟩ ?_
  intro B p ih
  obtain ⟨i1, i2, i3⟩ := ih
  have e := b1_append B p s i be
  unfold b1S at e
  by_cases c : p.school = s ∧ p.id = i
  case neg =>
    rw [if_neg c] at e
    refine ⟨?_, ?_, ?_⟩
    · rw [e, i1]
      constructor
      · rintro ⟨x, hx, h⟩; exact ⟨x, List.mem_append_left _ hx, h⟩
      · rintro ⟨x, hx, h⟩
        rcases List.mem_append.1 hx with g | g
        · exact ⟨x, g, h⟩
        · rw [List.mem_singleton.1 g] at h; exact absurd h c
    · rw [e]; intro h x hx h1 h2
      rcases List.mem_append.1 hx with g | g
      · exact i2 h x g h1 h2
      · rw [List.mem_singleton.1 g] at h1 h2; exact absurd ⟨h1, h2⟩ c
    · rw [e]; intro b h
      obtain ⟨a1, a2, a3⟩ := i3 b h
      refine ⟨List.mem_append_left _ a1, a2, fun x hx h1 h2 h3 => ?_⟩
      rcases List.mem_append.1 hx with g | g
      · exact a3 x g h1 h2 h3
      · rw [List.mem_singleton.1 g] at h1 h2; exact absurd ⟨h1, h2⟩ c
  rw [if_pos c] at e
  have sm : (b1P (B ++ [p]) s i be).1 = true ↔ ∃ x ∈ B ++ [p], x.school = s ∧ x.id = i := by
    rw [e]; exact ⟨fun _ => ⟨p, by simp, c⟩, fun _ => rfl⟩
  generalize b1P B s i be = a at e i2 i3
  by_cases f : p.from_ ≤ be
  case neg =>
    rw [if_neg f] at e
    refine ⟨sm, ?_, ?_⟩
    · rw [e]; intro h x hx h1 h2
      rcases List.mem_append.1 hx with g | g
      · exact i2 h x g h1 h2
      · rw [List.mem_singleton.1 g]; omega
    · rw [e]; intro b h
      obtain ⟨a1, a2, a3⟩ := i3 b h
      refine ⟨List.mem_append_left _ a1, a2, fun x hx h1 h2 h3 => ?_⟩
      rcases List.mem_append.1 hx with g | g
      · exact a3 x g h1 h2 h3
      · rw [List.mem_singleton.1 g] at h3; exact absurd h3 f
  rw [if_pos f] at e
  cases ha : a.2 with
  | none =>
    rw [ha] at e
    refine ⟨sm, ?_, ?_⟩
    · rw [e]; intro h; cases h
    · rw [e]; intro b h; injection h with h; subst h
      refine ⟨by simp, ⟨c.1, c.2, f⟩, fun x hx h1 h2 h3 => ?_⟩
      rcases List.mem_append.1 hx with g | g
      · have := i2 ha x g h1 h2; omega
      · rw [List.mem_singleton.1 g]; exact Int.le_refl _
  | some b =>
    rw [ha] at e
    dsimp only at e
    obtain ⟨a1, a2, a3⟩ := i3 b ha
    by_cases v : b.ver < p.ver
    · rw [if_pos v] at e
      refine ⟨sm, ?_, ?_⟩
      · rw [e]; intro h; cases h
      · rw [e]; intro b' h; injection h with h; subst h
        refine ⟨by simp, ⟨c.1, c.2, f⟩, fun x hx h1 h2 h3 => ?_⟩
        rcases List.mem_append.1 hx with g | g
        · have := a3 x g h1 h2 h3; omega
        · rw [List.mem_singleton.1 g]; exact Int.le_refl _
    · rw [if_neg v] at e
      refine ⟨sm, ?_, ?_⟩
      · rw [e]; intro h; cases h
      · rw [e]; intro b' h; injection h with h; subst h
        refine ⟨List.mem_append_left _ a1, a2, fun x hx h1 h2 h3 => ?_⟩
        rcases List.mem_append.1 hx with g | g
        · exact a3 x g h1 h2 h3
        · rw [List.mem_singleton.1 g]; omega
/-- What the choices come to. -/
theorem b2_spec {B : List Pg} (s i day : Int) : ∀ (C : List Ch) (b : Pg), b ∈ B → b.school = s → b.id = i →
    (b2P B s i day b C ∈ B ∧ (b2P B s i day b C).school = s ∧ (b2P B s i day b C).id = i) ∧ b.ver ≤ (b2P B s i day b C).ver ∧
      (b2P B s i day b C = b ∨ ∃ c ∈ C, c.prog = i ∧ c.ver = (b2P B s i day b C).ver ∧ (b2P B s i day b C).from_ ≤ c.on_ ∧ c.on_ ≤ day)
  | [], b, h, h1, h2 => ⟨⟨h, h1, h2⟩, Int.le_refl _, .inl rfl⟩
  | c :: C, b, h, h1, h2 => by
    rw [b2P, List.foldl_cons]
    change (b2P B s i day (b2S B s i day b c) C ∈ B ∧ _) ∧ _
    by_cases e1 : c.prog ≠ i ∨ day < c.on_ ∨ c.ver ≤ b.ver
    · have e : b2S B s i day b c = b := by rw [b2S, if_pos e1]
      rw [e]
      obtain ⟨a1, a2, a3⟩ := b2_spec s i day C b h h1 h2
      refine ⟨a1, a2, a3.imp id ?_⟩
      rintro ⟨c', hc, h⟩; exact ⟨c', List.mem_cons_of_mem _ hc, h⟩
    · by_cases e2 : (ofP s i c.ver B).2 = true ∧ (ofP s i c.ver B).1.from_ ≤ c.on_
      · have e : b2S B s i day b c = (ofP s i c.ver B).1 := by rw [b2S, if_neg e1, if_pos e2]
        obtain ⟨o1, o2, o3, o4⟩ := ofP_mem s i c.ver B e2.1
        rw [e]
        obtain ⟨a1, a2, a3⟩ := b2_spec s i day C _ o1 o2 o3
        refine ⟨a1, Int.le_trans (show b.ver ≤ (ofP s i c.ver B).1.ver by omega) a2, .inr ?_⟩
        rcases a3 with a3 | ⟨c', hc, h⟩
        · change b2P B s i day (ofP s i c.ver B).1 C = _ at a3
          refine ⟨c, List.mem_cons_self .., by omega, ?_⟩
          change c.ver = (b2P B s i day (ofP s i c.ver B).1 C).ver ∧ (b2P B s i day (ofP s i c.ver B).1 C).from_ ≤ _ ∧ _
          rw [a3]
          exact ⟨o4.symm, e2.2, by omega⟩
        · exact ⟨c', List.mem_cons_of_mem _ hc, h⟩
      · have e : b2S B s i day b c = b := by rw [b2S, if_neg e1, if_neg e2]
        rw [e]
        obtain ⟨a1, a2, a3⟩ := b2_spec s i day C b h h1 h2
        refine ⟨a1, a2, a3.imp id ?_⟩
        rintro ⟨c', hc, h⟩; exact ⟨c', List.mem_cons_of_mem _ hc, h⟩
/-- The three answers. -/
theorem bind_cases (B : List Pg) (s i be day : Int) :
    ((∀ C, bindP B s i be day C = (p0, 5)) ∧ ∀ x ∈ B, ¬ (x.school = s ∧ x.id = i)) ∨
    ((∀ C, bindP B s i be day C = (p0, 30)) ∧ (∃ x ∈ B, x.school = s ∧ x.id = i) ∧ ∀ x ∈ B, x.school = s → x.id = i → be < x.from_) ∨
    ∃ b, (∀ C, bindP B s i be day C = (b2P B s i day b C, 0)) ∧ b1P B s i be = (true, some b) ∧ b ∈ B ∧ (b.school = s ∧ b.id = i ∧ b.from_ ≤ be) ∧ ∀ x ∈ B, x.school = s → x.id = i → x.from_ ≤ be → x.ver ≤ b.ver := by
  obtain ⟨i1, i2, i3⟩ := b1_spec s i be B
  cases h1 : (b1P B s i be).1 with
  | false =>
    refine .inl ⟨fun C => by unfold bindP; rw [h1]; rfl, fun x hx h => ?_⟩
    rw [i1.2 ⟨x, hx, h⟩] at h1; cases h1
  | true =>
    cases h2 : (b1P B s i be).2 with
    | none => exact .inr (.inl ⟨fun C => by unfold bindP; rw [h1, h2]; rfl, i1.1 h1, i2 h2⟩)
    | some b =>
      obtain ⟨a1, a2, a3⟩ := i3 b h2
      exact .inr (.inr ⟨b, fun C => by unfold bindP; rw [h1, h2]; rfl, Prod.ext h1 h2, a1, a2, a3⟩)
/-! ### Later publications -/
/-! ### Other programmes play no part -/
end Pb
end Go.Proofs.Ytjnmbmdplchfkaa
namespace Go.Proofs.Ytjnmbmdplchfkaa
open Go.Proofs.Ytjnmbmdplchfkaa.Am
set_option maxRecDepth 100000
variable [Lo]
namespace Pb
/-! ### The case -/
abbrev u8' (a : Int) : AV := .sc (.int .u8 a)
abbrev u16 (a : Int) : AV := .sc (.int .u16 a)
abbrev Case := (Fl × List (Fl × List Int)) × (Fl × List (Fl × List Int)) × Int × Int × Int × Int
abbrev csA (c : Case) : AV := .agg [.ro c.1.1 1 (c.1.2.map iA), .ro c.2.1.1 1 (c.2.1.2.map iA), u8' c.2.2.1, u8' c.2.2.2.1, u16 c.2.2.2.2.1, u16 c.2.2.2.2.2]
structure CaseOk (c : Case) : Prop where
  l : c.1.2.length ≤ 9223372036854775807
  lx : ∀ x ∈ c.1.2, x.2.length ≤ 9223372036854775807
  m : c.2.1.2.length ≤ 9223372036854775807
  mx : ∀ x ∈ c.2.1.2, x.2.length ≤ 9223372036854775807
  s : 0 ≤ c.2.2.1 ∧ c.2.2.1 ≤ 255
  i : 0 ≤ c.2.2.2.1 ∧ c.2.2.2.1 ≤ 255
  b : 0 ≤ c.2.2.2.2.1 ∧ c.2.2.2.2.1 ≤ 65535
  d : 0 ≤ c.2.2.2.2.2 ∧ c.2.2.2.2.2 ≤ 65535
set_option maxRecDepth 100000 in
theorem made_case (c : Case) (h : CaseOk c) : ∃ (B : List Pg) (C : List Ch) (s i be day : Int), BK B ∧ CK C ∧ (1 ≤ s ∧ s ≤ 3) ∧ (1 ≤ i ∧ i ≤ 2) ∧ (0 ≤ be ∧ be < 700) ∧ (0 ≤ day ∧ day < 700) ∧
    AFun Try.prog 16 0 [.ro c.1.1 1 (c.1.2.map iA)] [] (.ro {} 14 (B.map pg)) [] ∧
    AFun Try.prog 9 0 [csA c] [] (.tup [.ro {} 14 (B.map pg), .ro {} 4 (C.map chA), .agg [int s, int i, int be, int day]]) [] := by
  obtain ⟨⟨fl, L⟩, ⟨fl', M⟩, s, i, b, d⟩ := c
  obtain ⟨l, lx, m, mx, hs, hi, hb, hd⟩ := h
  dsimp only at l lx m mx hs hi hb hd ⊢
  obtain ⟨B, hB, fB⟩ := Made_f fl L l lx
  obtain ⟨C, hC, fC⟩ := Choices_f fl' M m mx
  have b1 := tmod_bound s (m := 3) (by omega)
  have p1 := tmod_pos 3 hs.1
  have b2 := tmod_bound i (m := 2) (by omega)
  have p2 := tmod_pos 2 hi.1
  have b3 := tmod_bound b (m := 700) (by omega)
  have p3 := tmod_pos 700 hb.1
  have b4 := tmod_bound d (m := 700) (by omega)
  have p4 := tmod_pos 700 hd.1
  refine ⟨B, C, 1 + s.tmod 3, 1 + i.tmod 2, b.tmod 700, d.tmod 700, hB, hC, by omega, by omega, by omega, by omega, fB, ?_⟩
  clear l lx m mx hB hC
  have w1 : s = IntKind.i64.wrap s := (wrap_id (by omega) (by omega)).symm
  have w2 : i = IntKind.i64.wrap i := (wrap_id (by omega) (by omega)).symm
  have w3 : b = IntKind.i64.wrap b := (wrap_id (by omega) (by omega)).symm
  have w4 : d = IntKind.i64.wrap d := (wrap_id (by omega) (by omega)).symm
  refine AFun.of_W T_ok mixed Try.func9 rfl (Nat.le_of_ble_eq_true rfl) rfl ?_
  ((repeat ((conv => whnf); (first | (refine LetN.pre ?_; first | ((conv => arg 1; whnf); refine LetN.mk ?_)) | (refine As.pre ?_; first | refine As.mk rfl ?_) | (refine LetV.pre ?_; first | refine LetV.mk (.sc (.int _ _)) rfl ?_ | refine LetV.mk (.ro _ _ _) rfl ?_) | (refine LetI.pre ?_; first | refine LetI.mk (o := none) s w1 ?_ | refine LetI.mk (o := none) i w2 ?_ | refine LetI.mk (o := none) b w3 ?_ | refine LetI.mk (o := none) d w4 ?_ | refine LetI.wrap (by omega) (by omega) ?_ | refine LetI.mk _ rfl ?_) | (refine Ck.pre ?_; first | refine Ck.drawn (by kernel_rfl) ?_ | refine Ck.mk rfl ?_) | (refine LetL.pre ?_; first | refine LetL.mk [_] rfl ?_) | (refine CallN.pre ?_; first | refine CallN.pure fB rfl rfl ?_ | refine CallN.pure fC rfl rfl ?_)))); (try (conv => whnf)))






  exact ⟨.inl rfl, ⟨_, rfl, rfl⟩, trivial⟩
end Pb
end Go.Proofs.Ytjnmbmdplchfkaa
namespace Go.Proofs.Ytjnmbmdplchfkaa
open Go.Proofs.Ytjnmbmdplchfkaa.Am
set_option maxRecDepth 100000
variable [Lo]
namespace Pb
/-! ### PublishOne -/
abbrev aty : TypeId := 30
abbrev nB (s i be day : Int) : Blk := .row 4 aty [.agg [int s, int i, int be, int day]]
end Pb
end Go.Proofs.Ytjnmbmdplchfkaa
