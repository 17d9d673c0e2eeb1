/- publish: parts of the proof, DpublishQP DpublishQK DpublishQL DpublishQQ DpublishQV. -/
import Derived.Test.YtjnmbmdplchfkaaL45
import Derived.Test.YtjnmbmdplchfkaaAmAL
import Derived.Test.YtjnmbmdplchfkaaL44
import Derived.Test.YtjnmbmdplchfkaaL43
set_option linter.all false
namespace Go.Proofs.Ytjnmbmdplchfkaa.Am
open Go
/-- A row, told with less. -/
theorem SW.rows {p n id E : Nat} {s : AS} {ty : TypeId} {es es' : List AV} (h : s.H.get id = some (.row E ty es)) (hl : es.length = es'.length) (hle : ∀ (i : Nat) (e' : AV), es'[i]? = some e' → ∃ e, es[i]? = some e ∧ VLe2L e.cells e'.cells) : SW p n s ⟨s.fr, s.H.set id (.row E ty es'), s.nx⟩ := fun w g a hs => by
  have hg : ∀ j B, (s.H.set id (.row E ty es')).get j = some B → (j = id ∧ B = .row E ty es') ∨ (j ≠ id ∧ s.H.get j = some B) := fun j B hj => by
    rw [AH.get_set] at hj
    split at hj
    · rename_i e; injection hj with hj; exact .inl ⟨e, hj.symm⟩
    · rename_i e; exact .inr ⟨e, hj⟩
  have hex : ∀ j B, (s.H.set id (.row E ty es')).get j = some B → ∃ B', s.H.get j = some B' := fun j B hj => by
    rcases hg j B hj with ⟨rfl, _⟩ | ⟨_, h⟩
    · exact ⟨_, by assumption⟩
    · exact ⟨_, h⟩
  refine ⟨g, ⟨fun _ _ => rfl, fun _ h => ⟨h, rfl⟩, fun _ cs _ _ h => ⟨cs, h, rfl⟩, Ext.refl w g s.H, fun j B b E hi hb _ => ?_, fun _ h _ => .inl h⟩, ⟨hs.fr, ⟨fun j B hj => ?_, fun i j b E E' A B hi hj h1 h2 => ?_, fun i b E B hi h1 => ?_, hs.H.lt, hs.H.gl⟩, hs.nx⟩⟩
  · obtain ⟨B', hB⟩ := hex j B hi
    exact ⟨j, B', E, hB, hb⟩
  · rcases hg j B hj with ⟨rfl, rfl⟩ | ⟨_, h⟩
    · obtain ⟨h0, hr⟩ := hs.H.rel _ _ h
      refine ⟨fun e' he => ?_, ?_⟩
      · obtain ⟨i, hi⟩ := List.mem_iff_getElem?.1 he
        obtain ⟨e, h1, h2⟩ := hle i e' hi
        rw [← h2.get.1]
        exact h0 e (List.mem_of_getElem? h1)
      · rcases hr with ⟨h1, h2⟩ | ⟨b, cs, h1, h2, h3, h4⟩
        · refine .inl ⟨h1, List.eq_nil_of_length_eq_zero (by rw [← hl, h2]; rfl)⟩
        · refine .inr ⟨b, cs, h1, h2, by rw [← hl]; exact h3, fun i k e' c' hi hk => ?_⟩
          obtain ⟨e, g1, g2⟩ := hle i e' hi
          obtain ⟨c, g3, g4⟩ := g2.get.2 k c' hk
          obtain ⟨x, hx, hc⟩ := h4 i k e c g1 g3
          exact ⟨x, hx, g4 _ _ _ hc⟩
    · exact hs.H.rel _ _ h
  · obtain ⟨_, hA⟩ := hex i A hi
    obtain ⟨_, hB⟩ := hex j B hj
    exact hs.H.apart _ _ _ _ _ _ _ hA hB h1 h2
  · obtain ⟨_, hB⟩ := hex i B hi
    exact hs.H.imm _ _ _ _ hB h1
theorem VLe2L.refl : ∀ l : List AV, VLe2L l l
  | [] => trivial
  | a :: l => ⟨.refl a, VLe2L.refl l⟩
theorem rows_last (l : List AV) {a b : AV} (h : VLe2L a.cells b.cells) (i : Nat) (e' : AV) (he : (l ++ [b])[i]? = some e') : ∃ e, (l ++ [a])[i]? = some e ∧ VLe2L e.cells e'.cells := by
  by_cases c : i < l.length
  · rw [List.getElem?_append_left c] at he ⊢
    exact ⟨e', he, VLe2L.refl _⟩
  · rw [List.getElem?_append_right (by omega)] at he ⊢
    cases k : i - l.length with
    | zero =>
      rw [k] at he
      simp only [List.getElem?_cons_zero, Option.some.injEq] at he ⊢
      subst he
      exact ⟨a, rfl, h⟩
    | succ j => rw [k] at he; simp at he
end Go.Proofs.Ytjnmbmdplchfkaa.Am
namespace Go.Proofs.Ytjnmbmdplchfkaa
open Go.Proofs.Ytjnmbmdplchfkaa.Am
set_option maxRecDepth 100000
namespace Pb
/-! ### Books in which something is changed -/
theorem set_pg (B : List Pg) (k off : Nat) (v : AV) (y : Pg) (h : k < B.length) (hy : pg y = putPart off 14 (pg (B.getD k p0)) v) : (B.set k y).map pg = (B.map pg).set (0 + k) (putPart off 14 ((B.map pg).getD (0 + k) (.sc undef)) v) := by
  rw [Nat.zero_add, ← mapD p0 h, ← hy]
  exact List.map_set
theorem set_wp {B : List Pg} {k : Nat} {y : Pg} (h : ∀ p ∈ B, WP p) (hy : WP y) : ∀ p ∈ B.set k y, WP p := fun p hp => by
  rcases List.mem_or_eq_of_mem_set hp with h' | h'
  · exact h p h'
  · rw [h']; exact hy
theorem pg_mem0 {B : List Pg} {k : Nat} (h : k < B.length) : B.getD k p0 ∈ B := by
  rw [List.getD_eq_getElem?_getD, List.getElem?_eq_getElem h]; exact List.getElem_mem h
theorem oname_get (n : Int) (h : 0 ≤ n ∧ n < 3) : ∃ s : ByteArray, s.size ≤ 1000 ∧ str s = ([str ⟨#[]⟩, str ⟨#[120]⟩, str ⟨#[97, 34, 98]⟩] : List AV).getD n.toNat (.sc undef) := by
  obtain ⟨m, rfl⟩ : ∃ m : Nat, n = m := ⟨n.toNat, by omega⟩
  have : m = 0 ∨ m = 1 ∨ m = 2 := by omega
  rcases this with rfl | rfl | rfl <;> exact ⟨_, by decide, rfl⟩
set_option maxHeartbeats 1600000 in
set_option maxRecDepth 100000 in
theorem Odd_0 (B : List Pg) (q : Int × Int × Int) (n : Int) (k : Nat) (hB : B.length ≤ 500) (hsp : ∀ p ∈ B, SP p) (hk : k < B.length) (hn : 0 ≤ n ∧ n < 40) 
    (h0 : AFun Try.prog 40 0 [int q.1, int 7] [] (int 0) []) (h1 : AFun Try.prog 40 0 [int q.2.1, int 40] [] (int n) []) (h2 : AFun Try.prog 40 0 [int q.2.2, int B.length] [] (int k) []) :
    AFun Try.prog 17 0 [.ro {} 14 (B.map pg), .agg [int q.1, int q.2.1, int q.2.2]] [] (.slm {} 0 14 0 (B.set k { (B.getD k p0) with ver := (n.tmod 24 - 1) }).length) [(0, .row 14 pty ((B.set k { (B.getD k p0) with ver := (n.tmod 24 - 1) }).map pg))] := by
  have hcl := rCopyL_s B (by omega) hsp
  clear hsp
  refine AFun.of_S T_ok mixed Try.func17 rfl (Nat.le_of_ble_eq_true rfl) rfl ?_
  have hmB : (B.map pg).length = B.length := List.length_map _
  have b1 := tmod_bound n (m := 24) (by omega)
  have p1 := tmod_pos 24 hn.1
  generalize hX : B.getD k p0 = x at *
  ((repeat ((conv => whnf); (first | (refine LetN.pre ?_; first | ((conv => arg 1; whnf); refine LetN.mk ?_)) | (refine As.pre ?_; first | refine As.mk rfl ?_ | (refine As.mk ?_ ?_; · ((repeat' (refine andT ?_ ?_)) <;> (first | rfl | assumption | exact decide_eq_true (by omega) | exact decide_eq_true (by dsimp only; omega) | exact decide_eq_true (by simp; omega) | (simp; done))))) | (refine LetV.pre ?_; first | refine LetV.mk (.sc (.int _ _)) rfl ?_) | (refine LetI.pre ?_; first | refine LetI.wrap (by omega) (by omega) ?_ | refine LetI.mk _ rfl ?_) | (refine LetB.pre ?_; first | refine LetB.tt rfl ?_ | refine LetB.decf (by omega) ?_) | (refine Br.pre ?_; first | refine Br.tt rfl ?_ | refine Br.ff rfl ?_) | (refine Ck.pre ?_; first | refine Ck.mk rfl ?_) | (refine LetL.pre ?_; first | refine LetL.mk (ty := pty) (B.map pg) (renL_none (pure_pg _)).symm ?_ | refine LetL.mk (ty := pty) _ (set_pg B k 2 (int (n.tmod 24 - 1)) { x with ver := (n.tmod 24 - 1) } hk (by rw [hX]; rfl)) ?_) | (refine CallN.pre ?_; first | refine CallN.own (fun i => i + 1) hcl (CallOk.mk' rfl rfl rfl rfl rfl (pgN _ _ _) trivial) ?_ | refine CallN.pure h0 rfl rfl ?_ | refine CallN.pure h1 rfl rfl ?_ | refine CallN.pure h2 rfl rfl ?_)))); (try (conv => whnf)))




  exact ⟨⟨[(4, .slm {} 0 14 0 (B.set k { x with ver := (n.tmod 24 - 1) }).length)], [(0, .row 14 pty ((B.set k { x with ver := (n.tmod 24 - 1) }).map pg))], 9⟩, SW.mk (fun _ => 1) rfl rfl (namesAll.row (pure_pg _) rfl) ⟨VLe2.slm_of (by simp), trivial⟩ (haveV.row (pure_pg _) rfl trivial), .inl rfl, ⟨_, rfl, rfl⟩, rfl, trivial⟩
set_option maxHeartbeats 1600000 in
set_option maxRecDepth 100000 in
theorem Odd_1 (B : List Pg) (q : Int × Int × Int) (n : Int) (k : Nat) (hB : B.length ≤ 500) (hsp : ∀ p ∈ B, SP p) (hk : k < B.length) (hn : 0 ≤ n ∧ n < 40) 
    (h0 : AFun Try.prog 40 0 [int q.1, int 7] [] (int 1) []) (h1 : AFun Try.prog 40 0 [int q.2.1, int 40] [] (int n) []) (h2 : AFun Try.prog 40 0 [int q.2.2, int B.length] [] (int k) []) :
    AFun Try.prog 17 0 [.ro {} 14 (B.map pg), .agg [int q.1, int q.2.1, int q.2.2]] [] (.slm {} 0 14 0 (B.set k { (B.getD k p0) with from_ := (20 * n - 20) }).length) [(0, .row 14 pty ((B.set k { (B.getD k p0) with from_ := (20 * n - 20) }).map pg))] := by
  have hcl := rCopyL_s B (by omega) hsp
  clear hsp
  refine AFun.of_S T_ok mixed Try.func17 rfl (Nat.le_of_ble_eq_true rfl) rfl ?_
  have hmB : (B.map pg).length = B.length := List.length_map _
  have b1 := tmod_bound n (m := 24) (by omega)
  have p1 := tmod_pos 24 hn.1
  generalize hX : B.getD k p0 = x at *
  ((repeat ((conv => whnf); (first | (refine LetN.pre ?_; first | ((conv => arg 1; whnf); refine LetN.mk ?_)) | (refine As.pre ?_; first | refine As.mk rfl ?_ | (refine As.mk ?_ ?_; · ((repeat' (refine andT ?_ ?_)) <;> (first | rfl | assumption | exact decide_eq_true (by omega) | exact decide_eq_true (by dsimp only; omega) | exact decide_eq_true (by simp; omega) | (simp; done))))) | (refine LetV.pre ?_; first | refine LetV.mk (.sc (.int _ _)) rfl ?_) | (refine LetI.pre ?_; first | refine LetI.wrap (by omega) (by omega) ?_ | refine LetI.mk _ rfl ?_) | (refine LetB.pre ?_; first | refine LetB.tt rfl ?_ | refine LetB.ff rfl ?_ | refine LetB.decf (by omega) ?_) | (refine Br.pre ?_; first | refine Br.tt rfl ?_ | refine Br.ff rfl ?_) | (refine Ck.pre ?_; first | refine Ck.mk rfl ?_) | (refine LetL.pre ?_; first | refine LetL.mk (ty := pty) (B.map pg) (renL_none (pure_pg _)).symm ?_ | refine LetL.mk (ty := pty) _ (set_pg B k 3 (int (20 * n - 20)) { x with from_ := (20 * n - 20) } hk (by rw [hX]; rfl)) ?_) | (refine CallN.pre ?_; first | refine CallN.own (fun i => i + 1) hcl (CallOk.mk' rfl rfl rfl rfl rfl (pgN _ _ _) trivial) ?_ | refine CallN.pure h0 rfl rfl ?_ | refine CallN.pure h1 rfl rfl ?_ | refine CallN.pure h2 rfl rfl ?_)))); (try (conv => whnf)))




  exact ⟨⟨[(4, .slm {} 0 14 0 (B.set k { x with from_ := (20 * n - 20) }).length)], [(0, .row 14 pty ((B.set k { x with from_ := (20 * n - 20) }).map pg))], 9⟩, SW.mk (fun _ => 1) rfl rfl (namesAll.row (pure_pg _) rfl) ⟨VLe2.slm_of (by simp), trivial⟩ (haveV.row (pure_pg _) rfl trivial), .inl rfl, ⟨_, rfl, rfl⟩, rfl, trivial⟩
set_option maxHeartbeats 1600000 in
set_option maxRecDepth 100000 in
theorem Odd_2 (B : List Pg) (q : Int × Int × Int) (n : Int) (k : Nat) (hB : B.length ≤ 500) (hsp : ∀ p ∈ B, SP p) (hk : k < B.length) (hn : 0 ≤ n ∧ n < 40) 
    (h0 : AFun Try.prog 40 0 [int q.1, int 7] [] (int 2) []) (h1 : AFun Try.prog 40 0 [int q.2.1, int 40] [] (int n) []) (h2 : AFun Try.prog 40 0 [int q.2.2, int B.length] [] (int k) []) :
    AFun Try.prog 17 0 [.ro {} 14 (B.map pg), .agg [int q.1, int q.2.1, int q.2.2]] [] (.slm {} 0 14 0 (B.set k { (B.getD k p0) with id := (n.tmod 4) }).length) [(0, .row 14 pty ((B.set k { (B.getD k p0) with id := (n.tmod 4) }).map pg))] := by
  have hcl := rCopyL_s B (by omega) hsp
  clear hsp
  refine AFun.of_S T_ok mixed Try.func17 rfl (Nat.le_of_ble_eq_true rfl) rfl ?_
  have hmB : (B.map pg).length = B.length := List.length_map _
  have b1 := tmod_bound n (m := 4) (by omega)
  have p1 := tmod_pos 4 hn.1
  generalize hX : B.getD k p0 = x at *
  ((repeat ((conv => whnf); (first | (refine LetN.pre ?_; first | ((conv => arg 1; whnf); refine LetN.mk ?_)) | (refine As.pre ?_; first | refine As.mk rfl ?_ | (refine As.mk ?_ ?_; · ((repeat' (refine andT ?_ ?_)) <;> (first | rfl | assumption | exact decide_eq_true (by omega) | exact decide_eq_true (by dsimp only; omega) | exact decide_eq_true (by simp; omega) | (simp; done))))) | (refine LetV.pre ?_; first | refine LetV.mk (.sc (.int _ _)) rfl ?_) | (refine LetI.pre ?_; first | refine LetI.mk _ rfl ?_) | (refine LetB.pre ?_; first | refine LetB.tt rfl ?_ | refine LetB.ff rfl ?_ | refine LetB.decf (by omega) ?_) | (refine Br.pre ?_; first | refine Br.tt rfl ?_ | refine Br.ff rfl ?_) | (refine Ck.pre ?_; first | refine Ck.mk rfl ?_) | (refine LetL.pre ?_; first | refine LetL.mk (ty := pty) (B.map pg) (renL_none (pure_pg _)).symm ?_ | refine LetL.mk (ty := pty) _ (set_pg B k 1 (int (n.tmod 4)) { x with id := (n.tmod 4) } hk (by rw [hX]; rfl)) ?_) | (refine CallN.pre ?_; first | refine CallN.own (fun i => i + 1) hcl (CallOk.mk' rfl rfl rfl rfl rfl (pgN _ _ _) trivial) ?_ | refine CallN.pure h0 rfl rfl ?_ | refine CallN.pure h1 rfl rfl ?_ | refine CallN.pure h2 rfl rfl ?_)))); (try (conv => whnf)))




  exact ⟨⟨[(4, .slm {} 0 14 0 (B.set k { x with id := (n.tmod 4) }).length)], [(0, .row 14 pty ((B.set k { x with id := (n.tmod 4) }).map pg))], 9⟩, SW.mk (fun _ => 1) rfl rfl (namesAll.row (pure_pg _) rfl) ⟨VLe2.slm_of (by simp), trivial⟩ (haveV.row (pure_pg _) rfl trivial), .inl rfl, ⟨_, rfl, rfl⟩, rfl, trivial⟩
set_option maxHeartbeats 1600000 in
set_option maxRecDepth 100000 in
theorem Odd_3 (B : List Pg) (q : Int × Int × Int) (n : Int) (k : Nat) (hB : B.length ≤ 500) (hsp : ∀ p ∈ B, SP p) (hk : k < B.length) (hn : 0 ≤ n ∧ n < 40) (nm : ByteArray) (hnm : str nm = ([str ⟨#[]⟩, str ⟨#[120]⟩, str ⟨#[97, 34, 98]⟩] : List AV).getD (n.tmod 3).toNat (.sc undef)) 
    (h0 : AFun Try.prog 40 0 [int q.1, int 7] [] (int 3) []) (h1 : AFun Try.prog 40 0 [int q.2.1, int 40] [] (int n) []) (h2 : AFun Try.prog 40 0 [int q.2.2, int B.length] [] (int k) []) :
    AFun Try.prog 17 0 [.ro {} 14 (B.map pg), .agg [int q.1, int q.2.1, int q.2.2]] [] (.slm {} 0 14 0 (B.set k { (B.getD k p0) with name := nm }).length) [(0, .row 14 pty ((B.set k { (B.getD k p0) with name := nm }).map pg))] := by
  have hcl := rCopyL_s B (by omega) hsp
  clear hsp
  refine AFun.of_S T_ok mixed Try.func17 rfl (Nat.le_of_ble_eq_true rfl) rfl ?_
  have hmB : (B.map pg).length = B.length := List.length_map _
  have b1 := tmod_bound n (m := 3) (by omega)
  have p1 := tmod_pos 3 hn.1
  generalize hX : B.getD k p0 = x at *
  ((repeat ((conv => whnf); (first | (refine LetN.pre ?_; first | ((conv => arg 1; whnf); refine LetN.mk ?_)) | (refine As.pre ?_; first | refine As.mk rfl ?_ | (refine As.mk ?_ ?_; · ((repeat' (refine andT ?_ ?_)) <;> (first | rfl | assumption | exact decide_eq_true (by omega) | exact decide_eq_true (by dsimp only; omega) | exact decide_eq_true (by simp; omega) | (simp; done))))) | (refine LetV.pre ?_; first | refine LetV.mk (t := 75) _ hnm ?_ | refine LetV.mk (.sc (.int _ _)) rfl ?_ | refine LetV.mk (.sc _) rfl ?_) | (refine LetI.pre ?_; first | refine LetI.mk _ rfl ?_) | (refine LetB.pre ?_; first | refine LetB.tt rfl ?_ | refine LetB.ff rfl ?_ | refine LetB.decf (by omega) ?_) | (refine Br.pre ?_; first | refine Br.tt rfl ?_ | refine Br.ff rfl ?_) | (refine Ck.pre ?_; first | refine Ck.mk rfl ?_) | (refine LetL.pre ?_; first | refine LetL.mk (ty := pty) (B.map pg) (renL_none (pure_pg _)).symm ?_ | refine LetL.mk (ty := pty) _ (set_pg B k 4 (str nm) { x with name := nm } hk (by rw [hX]; rfl)) ?_) | (refine CallN.pre ?_; first | refine CallN.own (fun i => i + 1) hcl (CallOk.mk' rfl rfl rfl rfl rfl (pgN _ _ _) trivial) ?_ | refine CallN.pure h0 rfl rfl ?_ | refine CallN.pure h1 rfl rfl ?_ | refine CallN.pure h2 rfl rfl ?_)))); (try (conv => whnf)))




  exact ⟨⟨[(4, .slm {} 0 14 0 (B.set k { x with name := nm }).length)], [(0, .row 14 pty ((B.set k { x with name := nm }).map pg))], 9⟩, SW.mk (fun _ => 1) rfl rfl (namesAll.row (pure_pg _) rfl) ⟨VLe2.slm_of (by simp), trivial⟩ (haveV.row (pure_pg _) rfl trivial), .inl rfl, ⟨_, rfl, rfl⟩, rfl, trivial⟩
set_option maxHeartbeats 1600000 in
set_option maxRecDepth 100000 in
theorem Odd_4 (B : List Pg) (q : Int × Int × Int) (n : Int) (k : Nat) (hB : B.length ≤ 500) (hsp : ∀ p ∈ B, SP p) (hk : k < B.length) (hn : 0 ≤ n ∧ n < 40) 
    (h0 : AFun Try.prog 40 0 [int q.1, int 7] [] (int 4) []) (h1 : AFun Try.prog 40 0 [int q.2.1, int 40] [] (int n) []) (h2 : AFun Try.prog 40 0 [int q.2.2, int B.length] [] (int k) []) :
    AFun Try.prog 17 0 [.ro {} 14 (B.map pg), .agg [int q.1, int q.2.1, int q.2.2]] [] (.slm {} 0 14 0 (B.set k { (B.getD k p0) with school := (n.tmod 10) }).length) [(0, .row 14 pty ((B.set k { (B.getD k p0) with school := (n.tmod 10) }).map pg))] := by
  have hcl := rCopyL_s B (by omega) hsp
  clear hsp
  refine AFun.of_S T_ok mixed Try.func17 rfl (Nat.le_of_ble_eq_true rfl) rfl ?_
  have hmB : (B.map pg).length = B.length := List.length_map _
  have b1 := tmod_bound n (m := 10) (by omega)
  have p1 := tmod_pos 10 hn.1
  generalize hX : B.getD k p0 = x at *
  ((repeat ((conv => whnf); (first | (refine LetN.pre ?_; first | ((conv => arg 1; whnf); refine LetN.mk ?_)) | (refine As.pre ?_; first | refine As.mk rfl ?_ | (refine As.mk ?_ ?_; · ((repeat' (refine andT ?_ ?_)) <;> (first | rfl | assumption | exact decide_eq_true (by omega) | exact decide_eq_true (by dsimp only; omega) | exact decide_eq_true (by simp; omega) | (simp; done))))) | (refine LetV.pre ?_; first | refine LetV.mk (.sc (.int _ _)) rfl ?_) | (refine LetI.pre ?_; first | refine LetI.mk _ rfl ?_) | (refine LetB.pre ?_; first | refine LetB.tt rfl ?_ | refine LetB.ff rfl ?_ | refine LetB.decf (by omega) ?_) | (refine Br.pre ?_; first | refine Br.tt rfl ?_ | refine Br.ff rfl ?_) | (refine Ck.pre ?_; first | refine Ck.mk rfl ?_) | (refine LetL.pre ?_; first | refine LetL.mk (ty := pty) (B.map pg) (renL_none (pure_pg _)).symm ?_ | refine LetL.mk (ty := pty) _ (set_pg B k 0 (int (n.tmod 10)) { x with school := (n.tmod 10) } hk (by rw [hX]; rfl)) ?_) | (refine CallN.pre ?_; first | refine CallN.own (fun i => i + 1) hcl (CallOk.mk' rfl rfl rfl rfl rfl (pgN _ _ _) trivial) ?_ | refine CallN.pure h0 rfl rfl ?_ | refine CallN.pure h1 rfl rfl ?_ | refine CallN.pure h2 rfl rfl ?_)))); (try (conv => whnf)))




  exact ⟨⟨[(4, .slm {} 0 14 0 (B.set k { x with school := (n.tmod 10) }).length)], [(0, .row 14 pty ((B.set k { x with school := (n.tmod 10) }).map pg))], 9⟩, SW.mk (fun _ => 1) rfl rfl (namesAll.row (pure_pg _) rfl) ⟨VLe2.slm_of (by simp), trivial⟩ (haveV.row (pure_pg _) rfl trivial), .inl rfl, ⟨_, rfl, rfl⟩, rfl, trivial⟩
set_option maxHeartbeats 1600000 in
set_option maxRecDepth 100000 in
theorem Odd_5 (B : List Pg) (q : Int × Int × Int) (n : Int) (k : Nat) (hB : B.length ≤ 500) (hsp : ∀ p ∈ B, SP p) (hk : k < B.length) (hn : 0 ≤ n ∧ n < 40)
    (h0 : AFun Try.prog 40 0 [int q.1, int 7] [] (int 5) []) (h1 : AFun Try.prog 40 0 [int q.2.1, int 40] [] (int n) []) (h2 : AFun Try.prog 40 0 [int q.2.2, int B.length] [] (int k) []) :
    AFun Try.prog 17 0 [.ro {} 14 (B.map pg), .agg [int q.1, int q.2.1, int q.2.2]] [] (.slm {} 0 14 0 (B ++ [B.getD 0 p0]).length) [(0, .row 14 pty ((B ++ [B.getD 0 p0]).map pg))] := by
  have hcl := rCopyL_s B (by omega) hsp
  clear hsp
  refine AFun.of_S T_ok mixed Try.func17 rfl (Nat.le_of_ble_eq_true rfl) rfl ?_
  have hmB : (B.map pg).length = B.length := List.length_map _
  have hx : pg (B.getD 0 p0) = Am.part true 14 0 14 ((B.map pg).getD (0 + 0) (.sc undef)) := part_pg (by omega)
  generalize hX : B.getD 0 p0 = x at *
  have hr := room_pg (n := B.length + 1) (by omega)
  have e1 := app_pg B x B.length rfl
  have l1 : (B ++ [x]).length = B.length + 1 := by simp
  ((repeat ((conv => whnf); (first | (refine LetN.pre ?_; first | ((conv => arg 1; whnf); refine LetN.mk ?_)) | (refine As.pre ?_; first | refine As.mk rfl ?_ | (refine As.mk ?_ ?_; · ((repeat' (refine andT ?_ ?_)) <;> (first | rfl | assumption | exact decide_eq_true (by omega) | exact decide_eq_true (by dsimp only; omega) | exact decide_eq_true (by simp; omega) | (simp; done))))) | (refine LetV.pre ?_; first | refine LetV.mk (t := pty) _ hx ?_ | refine LetV.mk (.sc (.int _ _)) rfl ?_) | (refine LetI.pre ?_; first | refine LetI.mk _ rfl ?_) | (refine LetB.pre ?_; first | refine LetB.tt rfl ?_ | refine LetB.ff rfl ?_ | refine LetB.decf (by omega) ?_) | (refine Br.pre ?_; first | refine Br.tt rfl ?_ | refine Br.ff rfl ?_) | (refine Ck.pre ?_; first | refine Ck.mk rfl ?_) | (refine LetL.pre ?_; first | refine LetL.mk (ty := pty) (B.map pg) (renL_none (pure_pg _)).symm ?_ | refine LetL.mk (ty := pty) _ e1 ?_) | (refine CallN.pre ?_; first | refine CallN.own (fun i => i + 1) hcl (CallOk.mk' rfl rfl rfl rfl rfl (pgN _ _ _) trivial) ?_ | refine CallN.pure h0 rfl rfl ?_ | refine CallN.pure h1 rfl rfl ?_ | refine CallN.pure h2 rfl rfl ?_)))); (try (conv => whnf)))





  exact ⟨⟨[(4, .slm {} 0 14 0 (B ++ [x]).length)], [(0, .row 14 pty ((B ++ [x]).map pg))], 9⟩, SW.mk (fun _ => 2) rfl rfl (namesAll.row (pure_pg _) rfl) ⟨VLe2.slm_of (by simp), trivial⟩ (haveV.row (pure_pg _) rfl trivial), .inl rfl, ⟨_, rfl, rfl⟩, rfl, trivial⟩
abbrev o6z (x : Nd) (l : Nat) : Pg := ⟨8, l, 1, 0, ⟨#[120]⟩, x, 0, 0, 0, []⟩
def fillN (x : Nd) (B : List Pg) : Nat → List Pg
  | 0 => B
  | j + 1 => fillN x B j ++ [o6z x (fillN x B j).length]
theorem fillN_len (x : Nd) (B : List Pg) : ∀ j, (fillN x B j).length = B.length + j
  | 0 => rfl
  | j + 1 => by rw [fillN, List.length_append, fillN_len x B j]; rfl
theorem fillN_get (x : Nd) {B : List Pg} {k : Nat} (h : k < B.length) : ∀ j, (fillN x B j).getD k p0 = B.getD k p0
  | 0 => rfl
  | j + 1 => by
    have hl := fillN_len x B j
    rw [fillN, List.getD_eq_getElem?_getD, List.getElem?_append_left (by omega), ← List.getD_eq_getElem?_getD]
    exact fillN_get x h j
theorem fillN_wp {x : Nd} (hz : ∀ l : Nat, WP (o6z x l)) {B : List Pg} (h : ∀ p ∈ B, WP p) : ∀ j, ∀ p ∈ fillN x B j, WP p
  | 0 => h
  | j + 1 => fun p hp => by
    rw [fillN] at hp
    rcases List.mem_append.1 hp with g | g
    · exact fillN_wp hz h j p g
    · rw [List.mem_singleton.1 g]; exact hz _
abbrev o6S (x : Nd) (B : List Pg) (n : Int) (k : Nat) : Nat × Option (List Pg) → AS
  | (j, none) => ⟨[(5, .slm {} 0 14 0 (fillN x B j).length), (6, int n), (7, .ptr 0 14 k 0)], [(0, .row 14 pty ((fillN x B j).map pg))], 1⟩
  | (j, some C) => ⟨[(5, .slm {} 1 14 0 (fillN x B j).length), (6, int n), (7, .ptr 0 14 k 0)], [(0, .row 14 pty (C.map pg)), (1, .row 14 pty ((fillN x B j).map pg))], 2⟩
theorem ld_need {O : List Pg} {k : Nat} {x : Nd} (h : k < O.length) (hx : (O.getD k p0).need = x) : AV.agg [int x.kind, int x.n, int x.min, .ro {} 2 (x.set.map coA), .ro {} 5 (x.l.map nd)] = Am.part true 5 5 14 ((O.map pg).getD k (.sc undef)) := by
  rw [← mapD p0 h, ← hx]; rfl
theorem o6N (B O : List Pg) (ok : Nat → Bool) : namesAll ok [(0, .row 14 pty (B.map pg)), (1, .row 14 pty (O.map pg))] = true := namesAll.row (pure_pg _) (namesAll.row (pure_pg _) rfl)
abbrev o6raw (O : List Pg) (x : Nd) : List AV := (O.map pg).take O.length ++ [.agg [int 8, int O.length, int 1, int 0, str ⟨#[120]⟩, int x.kind, int x.n, int x.min, .ro {} 2 (x.set.map coA), .ro {} 5 (x.l.map nd), int 0, int 0, int 0, .sc (.slice none 0 0)]]
theorem namesL_app (ok : Nat → Bool) : ∀ l m : List AV, AV.namesL ok (l ++ m) = (AV.namesL ok l && AV.namesL ok m)
  | [], m => by rw [List.nil_append, AV.namesL, Bool.true_and]
  | a :: l, m => by rw [List.cons_append, AV.namesL, AV.namesL, namesL_app ok l m, Bool.and_assoc]
theorem o6_pure (O : List Pg) (x : Nd) : AV.namesL (fun _ => false) (o6raw O x) = true := by
  rw [namesL_app, List.take_of_length_le (by simp), pure_pg]; rfl
theorem o6_row (O : List Pg) (x : Nd) (i : Nat) (e' : AV) (h : ((O ++ [o6z x O.length]).map pg)[i]? = some e') : ∃ e, ((O.map pg).take O.length ++ [.agg [int 8, int O.length, int 1, int 0, str ⟨#[120]⟩, int x.kind, int x.n, int x.min, .ro {} 2 (x.set.map coA), .ro {} 5 (x.l.map nd), int 0, int 0, int 0, .sc (.slice none 0 0)]])[i]? = some e ∧ VLe2L e.cells e'.cells := by
  rw [app_pg O _ O.length rfl] at h
  exact rows_last _ (a := .agg [int 8, int O.length, int 1, int 0, str ⟨#[120]⟩, int x.kind, int x.n, int x.min, .ro {} 2 (x.set.map coA), .ro {} 5 (x.l.map nd), int 0, int 0, int 0, .sc (.slice none 0 0)]) (b := pg (o6z x O.length)) (show VLe2L [_, _, _, _, _, _, _, _, _, _, _, _, _, _] [_, _, _, _, _, _, _, _, _, _, _, _, _, _] from ⟨.refl _, .refl _, .refl _, .refl _, .refl _, .refl _, .refl _, .refl _, .refl _, .refl _, .refl _, .refl _, .refl _, VLe2.nilro, trivial⟩) i e' h
abbrev o6E (O : List Pg) : AS := ⟨[(5, .slm {} 0 14 0 O.length)], [(0, .row 14 pty (O.map pg))], 1⟩
set_option maxHeartbeats 1600000 in
set_option maxRecDepth 100000 in
theorem Odd_6 (B : List Pg) (q : Int × Int × Int) (n : Int) (k : Nat) (hB : B.length ≤ 500) (hw : ∀ p ∈ B, WP p) (hk : k < B.length) (hn : 0 ≤ n ∧ n < 40)
    (h0 : AFun Try.prog 40 0 [int q.1, int 7] [] (int 6) []) (h1 : AFun Try.prog 40 0 [int q.2.1, int 40] [] (int n) []) (h2 : AFun Try.prog 40 0 [int q.2.2, int B.length] [] (int k) []) :
    ∃ O : List Pg, (O.length ≤ B.length + 204 ∧ ∀ p ∈ O, WP p) ∧
    AFun Try.prog 17 0 [.ro {} 14 (B.map pg), .agg [int q.1, int q.2.1, int q.2.2]] [] (.slm {} 0 14 0 O.length) [(0, .row 14 pty (O.map pg))] := by
  have hcl := rCopyL_s B (by omega) (fun p hp => (hw p hp).sp)
  have hwk := hw _ (pg_mem0 hk)
  have hmB : (B.map pg).length = B.length := List.length_map _
  have b1 := tmod_bound n (m := 10) (by omega)
  have p1 := tmod_pos 10 hn.1
  have hwn := hwk.need
  clear hwk
  obtain ⟨x, hx⟩ : ∃ x, (B.getD k p0).need = x := ⟨_, rfl⟩
  rw [hx] at hwn
  have hz : ∀ l : Nat, WP (o6z x l) := fun l => ⟨hwn, by show (0 : Int) ≤ 0 ∧ (0 : Int) ≤ 600; omega, by show (0 : Int) ≤ 0 ∧ (0 : Int) ≤ 600; omega, by show (0 : Int) ≤ 0 ∧ (0 : Int) ≤ 100; omega, by show 1 ≤ 1000; omega, .inl rfl⟩
  clear hwn
  obtain ⟨je, hje⟩ : ∃ je : Nat, je = (195 + n.tmod 10 - B.length).toNat := ⟨_, rfl⟩
  refine ⟨fillN x B je, ⟨by rw [fillN_len]; omega, fillN_wp hz hw je⟩, ?_⟩
  have hle := fillN_len x B je
  refine AFun.of_VS T_ok Try.func17 rfl (Nat.le_of_ble_eq_true rfl) ?_
  refine VS.cut T_ok mixed rfl ?_
  ((repeat ((conv => whnf); (first | (refine LetN.pre ?_; first | ((conv => arg 1; whnf); refine LetN.mk ?_)) | (refine As.pre ?_; first | refine As.mk rfl ?_) | (refine Ck.pre ?_; first | refine Ck.mk rfl ?_)))); (try (conv => whnf)))
  refine VS.cut T_ok mixed rfl ?_
  ((repeat ((conv => whnf); (first | (refine LetN.pre ?_; first | ((conv => arg 1; whnf); refine LetN.mk ?_)) | (refine As.pre ?_; first | refine As.mk rfl ?_) | (refine Ck.pre ?_; first | refine Ck.mk rfl ?_) | (refine LetL.pre ?_; first | refine LetL.mk (ty := pty) (B.map pg) (renL_none (pure_pg _)).symm ?_) | (refine CallN.pre ?_; first | refine CallN.own (fun i => i + 1) hcl (CallOk.mk' rfl rfl rfl rfl rfl (pgN _ _ _) trivial) ?_)))); (try (conv => whnf)))


  refine VS.cut T_ok mixed rfl ?_
  ((repeat ((conv => whnf); (first | (refine As.pre ?_; first | refine As.mk rfl ?_) | (refine LetV.pre ?_; first | refine LetV.mk (.sc (.int _ _)) rfl ?_) | (refine Ck.pre ?_; first | refine Ck.mk rfl ?_) | (refine CallN.pre ?_; first | refine CallN.pure h1 rfl rfl ?_)))); (try (conv => whnf)))
  refine VS.cut T_ok mixed rfl ?_
  ((repeat ((conv => whnf); (first | (refine As.pre ?_; first | refine As.mk rfl ?_) | (refine LetI.pre ?_; first | refine LetI.mk _ rfl ?_) | (refine LetB.pre ?_; first | refine LetB.decf (by omega) ?_) | (refine Br.pre ?_; first | refine Br.ff rfl ?_) | (refine Ck.pre ?_; first | refine Ck.mk rfl ?_)))); (try (conv => whnf)))
  refine VS.cut T_ok mixed rfl ?_
  ((repeat ((conv => whnf); (first | (refine As.pre ?_; first | refine As.mk rfl ?_ | (refine As.mk ?_ ?_; · ((repeat' (refine andT ?_ ?_)) <;> (first | rfl | assumption | exact decide_eq_true (by omega) | exact decide_eq_true (by dsimp only; omega) | exact decide_eq_true (by simp; omega) | (simp; done))))) | (refine LetV.pre ?_; first | refine LetV.mk (.sc (.int _ _)) rfl ?_) | (refine LetI.pre ?_; first | refine LetI.mk _ rfl ?_) | (refine Ck.pre ?_; first | refine Ck.mk rfl ?_) | (refine CallN.pre ?_; first | refine CallN.pure h2 rfl rfl ?_)))); (try (conv => whnf)))
  refine VS.joinN (fun _ : Unit => o6E (fillN x B je)) (fun _ => True) ?_ ?_
  case refine_2 =>
    intro _ _
    refine VS.of_V T_ok mixed rfl ?_
    ((repeat ((conv => whnf); (first | (refine As.pre ?_; first | refine As.mk rfl ?_) | (refine Ck.pre ?_; first | refine Ck.mk rfl ?_)))); (try (conv => whnf)))
    exact ⟨⟨[(4, .slm {} 0 14 0 (fillN x B je).length)], [(0, .row 14 pty ((fillN x B je).map pg))], 1⟩, SW.mk id rfl rfl (pgN _ _ _) ⟨.refl _, trivial⟩ (haveV.row (pure_pg _) rfl trivial), .inl rfl, ⟨_, rfl, rfl⟩, rfl, trivial⟩
  refine VS.cut T_ok mixed rfl ?_
  ((repeat ((conv => whnf); (first | (refine As.pre ?_; first | refine As.mk rfl ?_) | (refine LetV.pre ?_; first | refine LetV.mk (.sc (.int _ _)) rfl ?_) | (refine Ck.pre ?_; first | refine Ck.mk rfl ?_) | (refine CallN.pre ?_; first | refine CallN.pure h0 rfl rfl ?_)))); (try (conv => whnf)))
  refine VS.weak (s1 := ⟨[(5, .slm {} 0 14 0 B.length), (6, int n), (7, .ptr 0 14 k 0), (26, int 6)], [(0, .row 14 pty (B.map pg))], 1⟩) ?sw0 ?_
  case sw0 => exact SW.mk (fun i => i + 1) rfl rfl (pgN _ _ _) ⟨VLe2.slm_of rfl, .refl _, .of_eq (show AV.ptr 1 14 k 0 = AV.ptr 1 14 (0 + (k : Int).toNat) 0 by simp), .refl _, trivial⟩ (haveV.row (pure_pg _) rfl trivial)
  clear h0 h1 h2 hcl
  refine VS.block ?_
  refine VS.cut T_ok mixed rfl ?_
  ((repeat ((conv => whnf); (first | (refine As.pre ?_; first | refine As.mk rfl ?_) | (refine LetB.pre ?_; first | refine LetB.ff rfl ?_) | (refine Ck.pre ?_; first | refine Ck.mk rfl ?_)))); (try (conv => whnf)))
  refine VS.condF rfl rfl ?_
  refine VS.cut T_ok mixed rfl ?_
  ((repeat ((conv => whnf); (first | (refine As.pre ?_; first | refine As.mk rfl ?_) | (refine LetB.pre ?_; first | refine LetB.ff rfl ?_) | (refine Ck.pre ?_; first | refine Ck.mk rfl ?_)))); (try (conv => whnf)))
  refine VS.condF rfl rfl ?_
  refine VS.cut T_ok mixed rfl ?_
  ((repeat ((conv => whnf); (first | (refine As.pre ?_; first | refine As.mk rfl ?_) | (refine LetB.pre ?_; first | refine LetB.ff rfl ?_) | (refine Ck.pre ?_; first | refine Ck.mk rfl ?_)))); (try (conv => whnf)))
  refine VS.condF rfl rfl ?_
  refine VS.cut T_ok mixed rfl ?_
  ((repeat ((conv => whnf); (first | (refine As.pre ?_; first | refine As.mk rfl ?_) | (refine LetB.pre ?_; first | refine LetB.ff rfl ?_) | (refine Ck.pre ?_; first | refine Ck.mk rfl ?_)))); (try (conv => whnf)))
  refine VS.condF rfl rfl ?_
  refine VS.cut T_ok mixed rfl ?_
  ((repeat ((conv => whnf); (first | (refine As.pre ?_; first | refine As.mk rfl ?_) | (refine LetB.pre ?_; first | refine LetB.ff rfl ?_) | (refine Ck.pre ?_; first | refine Ck.mk rfl ?_)))); (try (conv => whnf)))
  refine VS.condF rfl rfl ?_
  refine VS.cut T_ok mixed rfl ?_
  ((repeat ((conv => whnf); (first | (refine As.pre ?_; first | refine As.mk rfl ?_) | (refine LetB.pre ?_; first | refine LetB.ff rfl ?_) | (refine Ck.pre ?_; first | refine Ck.mk rfl ?_)))); (try (conv => whnf)))
  refine VS.condF rfl rfl ?_
  refine VS.cut T_ok mixed rfl ?_
  ((repeat ((conv => whnf); (first | (refine As.pre ?_; first | refine As.mk rfl ?_) | (refine LetB.pre ?_; first | refine LetB.tt rfl ?_) | (refine Ck.pre ?_; first | refine Ck.mk rfl ?_)))); (try (conv => whnf)))
  refine VS.condT rfl rfl ?_
  refine VS.weak (s1 := o6S x B n k (0, none)) ?sw1 ?_
  case sw1 => exact SW.mk id rfl rfl (pgN _ _ _) ⟨.refl _, .refl _, .refl _, trivial⟩ (haveV.row (pure_pg _) rfl trivial)
  refine ⟨.normal, o6E (fillN x B je), ARuns.of_D (DRuns.block (DRuns.loop (R := fun e s1 => e = .exit 1 ∧ (Exit.normal = Exit.normal ∧ SW 0 Try.f17.ntmps s1 (o6E (fillN x B je)))) (o6S x B n k) (fun i => je - i.1) (fun i => i.1 ≤ je ∧ ∀ C, i.2 = some C → k < C.length ∧ (C.getD k p0).need = x) (fun i hi => ?_) (0, none) ⟨Nat.zero_le _, fun C h => (by cases h)⟩)) (fun e1 s1 h => h), rfl, (), trivial, SW.refl⟩
  obtain ⟨j, o⟩ := i
  obtain ⟨g1, g2⟩ := hi
  dsimp only at g1 g2
  have hlj := fillN_len x B j
  have hgj := fillN_get x hk j
  have hnext : fillN x B (j + 1) = fillN x B j ++ [o6z x (fillN x B j).length] := rfl
  have hmO : ((fillN x B j).map pg).length = (fillN x B j).length := List.length_map _
  by_cases hlt : j < je
  case neg =>
    have : j = je := by omega
    subst this
    have hge : ¬ ((fillN x B j).length : Int) < 195 + n.tmod 10 := by omega
    clear hnext hgj hx hz hw
    cases o with
    | none =>
      refine DRuns.of_VS (VS.of_V T_ok mixed rfl ?_)
      ((repeat ((conv => whnf); (first | (refine As.pre ?_; first | refine As.mk rfl ?_) | (refine LetI.pre ?_; first | refine LetI.wrap (by omega) (by omega) ?_ | refine LetI.mk _ rfl ?_) | (refine LetB.pre ?_; first | refine LetB.decf (by omega) ?_) | (refine Br.pre ?_; first | refine Br.ff rfl ?_) | (refine Ck.pre ?_; first | refine Ck.mk rfl ?_)))); (try (conv => whnf)))
      exact .inr ⟨(fun h => by cases h), rfl, rfl, SW.mk id rfl rfl (pgN _ _ _) ⟨.refl _, trivial⟩ (haveV.row (pure_pg _) rfl trivial)⟩
    | some C =>
      refine DRuns.of_VS (VS.of_V T_ok mixed rfl ?_)
      ((repeat ((conv => whnf); (first | (refine As.pre ?_; first | refine As.mk rfl ?_) | (refine LetI.pre ?_; first | refine LetI.wrap (by omega) (by omega) ?_ | refine LetI.mk _ rfl ?_) | (refine LetB.pre ?_; first | refine LetB.decf (by omega) ?_) | (refine Br.pre ?_; first | refine Br.ff rfl ?_) | (refine Ck.pre ?_; first | refine Ck.mk rfl ?_)))); (try (conv => whnf)))
      exact .inr ⟨(fun h => by cases h), rfl, rfl, SW.mk (fun i => i + 1) rfl rfl (pgN _ _ _) ⟨.refl _, trivial⟩ (haveV.row (pure_pg _) rfl trivial)⟩
  have hlo : ((fillN x B j).length : Int) < 195 + n.tmod 10 := by omega
  have hr := room_pg (n := (fillN x B j).length + 1) (by omega)
  have l1 : (fillN x B (j + 1)).length = (fillN x B j).length + 1 := by rw [hnext]; simp
  have hmz : je - (j + 1) < je - j := by omega
  cases o with
  | some C =>
    obtain ⟨c1, c2⟩ := g2 C rfl
    have hx5 := ld_need c1 c2
    refine DRuns.of_VS (VS.of_V T_ok mixed rfl ?_)
    ((repeat ((conv => whnf); (first | (refine LetN.pre ?_; first | ((conv => arg 1; whnf); refine LetN.mk ?_)) | (refine As.pre ?_; first | refine As.mk rfl ?_ | (refine As.mk ?_ ?_; · ((repeat' (refine andT ?_ ?_)) <;> (first | rfl | assumption | exact decide_eq_true (by omega) | exact decide_eq_true (by dsimp only; omega) | exact decide_eq_true (by simp; omega) | (simp; done))))) | (refine LetV.pre ?_; first | refine LetV.mk (t := nty) _ hx5 ?_) | (refine LetI.pre ?_; first | refine LetI.wrap (by omega) (by omega) ?_ | refine LetI.mk _ rfl ?_) | (refine LetB.pre ?_; first | refine LetB.dect (by omega) ?_) | (refine Br.pre ?_; first | refine Br.tt rfl ?_) | (refine Ck.pre ?_; first | refine Ck.mk rfl ?_) | (refine LetL.pre ?_; first | refine LetL.mk _ rfl ?_)))); (try (conv => whnf)))
    refine .inl ⟨rfl, (j + 1, some C), ⟨hlt, fun C' h => by injection h with h; subst h; exact ⟨c1, c2⟩⟩, hmz, ?_⟩
    exact SW.trans (SW.mk (nx2 := 2) (fr2 := [(5, .slm {} 1 14 0 (fillN x B (j + 1)).length), (6, int n), (7, .ptr 0 14 k 0)]) (H2 := [(0, .row 14 pty (C.map pg)), (1, .row 14 pty (o6raw (fillN x B j) x))]) (fun i => match i with | 1 => 2 | i => i) rfl rfl (namesAll.row (pure_pg _) (namesAll.row (o6_pure _ _) rfl)) ⟨VLe2.slm_of l1, .refl _, .refl _, trivial⟩ (haveV.row (pure_pg _) rfl (haveV.row (o6_pure _ _) rfl trivial))) (SW.rows (id := 1) (es' := (fillN x B (j + 1)).map pg) rfl (by rw [hnext]; simp) (fun i e' h => o6_row (fillN x B j) x i e' h))
  | none =>
    have hkO : k < (fillN x B j).length := by omega
    have hxO : ((fillN x B j).getD k p0).need = x := by rw [hgj, hx]
    have hx5 := ld_need hkO hxO
    have hpos : 0 < (fillN x B j).length := by omega
    refine DRuns.seq (DRuns.of_VS (VS.of_V T_ok mixed rfl ?_))
    ((repeat ((conv => whnf); (first | (refine As.pre ?_; first | refine As.mk rfl ?_) | (refine LetI.pre ?_; first | refine LetI.wrap (by omega) (by omega) ?_ | refine LetI.mk _ rfl ?_) | (refine LetB.pre ?_; first | refine LetB.dect (by omega) ?_) | (refine Br.pre ?_; first | refine Br.tt rfl ?_) | (refine Ck.pre ?_; first | refine Ck.mk rfl ?_)))); (try (conv => whnf)))
    refine DRuns.pre (s1 := o6S x B n k (j, none)) (SW.mk id rfl rfl (pgN _ _ _) ⟨.refl _, .refl _, .refl _, trivial⟩ (haveV.row (pure_pg _) rfl trivial)) ?_
    refine DRuns.blockN ?_
    refine DRuns.app2' T_ok 9 rfl (Nat.zero_le _) rfl ?_
    ((repeat ((conv => whnf); (first | (refine As.pre ?_; first | refine As.mk rfl ?_ | (refine As.mk ?_ ?_; · ((repeat' (refine andT ?_ ?_)) <;> (first | rfl | assumption | exact decide_eq_true (by omega) | exact decide_eq_true (by dsimp only; omega) | exact decide_eq_true (by simp; omega) | (simp; done))))) | (refine LetV.pre ?_; first | refine LetV.mk (t := nty) _ hx5 ?_) | (refine LetI.pre ?_; first | refine LetI.mk _ rfl ?_) | (refine Ck.pre ?_; first | refine Ck.mk rfl ?_)))); (try (conv => whnf)))
    refine ⟨_, _, _, _, _, _, _, _, _, _, _, _, _, _, rfl, rfl, rfl, rfl, rfl, rfl, rfl, rfl, rfl, ⟨hpos, by rw [hmO]; exact Nat.le_refl _⟩, hr, rfl, rfl, ?_, ?_⟩
    · ((repeat ((conv => whnf); (first | (refine As.pre ?_; first | refine As.mk rfl ?_) | (refine Ck.pre ?_; first | refine Ck.mk rfl ?_)))); (try (conv => whnf)))
      refine ⟨rfl, .inl ⟨rfl, (j + 1, none), ⟨hlt, fun C' h => (by cases h)⟩, hmz, ?_⟩⟩
      exact SW.trans (SW.mk (nx2 := 1) (fr2 := [(5, .slm {} 0 14 0 (fillN x B (j + 1)).length), (6, int n), (7, .ptr 0 14 k 0)]) (H2 := [(0, .row 14 pty (o6raw (fillN x B j) x))]) id rfl rfl (namesAll.row (o6_pure _ _) rfl) ⟨VLe2.slm_of l1, .refl _, .refl _, trivial⟩ (haveV.row (o6_pure _ _) rfl trivial)) (SW.rows (id := 0) (es' := (fillN x B (j + 1)).map pg) rfl (by rw [hnext]; simp) (fun i e' h => o6_row (fillN x B j) x i e' h))
    · ((repeat ((conv => whnf); (first | (refine As.pre ?_; first | refine As.mk rfl ?_) | (refine Ck.pre ?_; first | refine Ck.mk rfl ?_)))); (try (conv => whnf)))
      refine ⟨rfl, .inl ⟨rfl, (j + 1, some (fillN x B j)), ⟨hlt, fun C' h => by injection h with h; subst h; exact ⟨hkO, hxO⟩⟩, hmz, ?_⟩⟩
      exact SW.trans (SW.mk (nx2 := 2) (fr2 := [(5, .slm {} 1 14 0 (fillN x B (j + 1)).length), (6, int n), (7, .ptr 0 14 k 0)]) (H2 := [(0, .row 14 pty ((fillN x B j).map pg)), (1, .row 14 pty (o6raw (fillN x B j) x))]) id rfl rfl (namesAll.row (pure_pg _) (namesAll.row (o6_pure _ _) rfl)) ⟨VLe2.slm_of l1, .refl _, .refl _, trivial⟩ (haveV.row (pure_pg _) rfl (haveV.row (o6_pure _ _) rfl trivial))) (SW.rows (id := 1) (es' := (fillN x B (j + 1)).map pg) rfl (by rw [hnext]; simp) (fun i e' h => o6_row (fillN x B j) x i e' h))
set_option maxRecDepth 100000 in
theorem Odd_nil (q : Int × Int × Int) : AFun Try.prog 17 0 [.ro {} 14 (([] : List Pg).map pg), .agg [int q.1, int q.2.1, int q.2.2]] [] (.slm {} 0 14 0 ([] : List Pg).length) [(0, .row 14 pty (([] : List Pg).map pg))] := by
  have hcl := rCopyL_s [] (by decide) (fun p hp => absurd hp List.not_mem_nil)
  have h1 := Mod_f q.2.1 40 (by omega)
  refine AFun.of_S T_ok mixed Try.func17 rfl (Nat.le_of_ble_eq_true rfl) rfl ?_
  ((repeat ((conv => whnf); (first | (refine LetN.pre ?_; first | ((conv => arg 1; whnf); refine LetN.mk ?_)) | (refine As.pre ?_; first | refine As.mk rfl ?_) | (refine LetV.pre ?_; first | refine LetV.mk (.sc (.int _ _)) rfl ?_) | (refine LetI.pre ?_; first | refine LetI.mk _ rfl ?_) | (refine LetB.pre ?_; first | refine LetB.tt rfl ?_) | (refine Br.pre ?_; first | refine Br.tt rfl ?_) | (refine Ck.pre ?_; first | refine Ck.mk rfl ?_) | (refine LetL.pre ?_; first | refine LetL.mk _ rfl ?_) | (refine CallN.pre ?_; first | refine CallN.own (fun i => i + 1) hcl (CallOk.mk' rfl rfl rfl rfl rfl (pgN _ _ _) trivial) ?_ | refine CallN.pure h1 rfl rfl ?_)))); (try (conv => whnf)))


  exact ⟨⟨[(4, .slm {} 0 14 0 0)], [(0, .row 14 pty [])], 9⟩, SW.mk (fun _ => 1) rfl rfl rfl ⟨VLe2.slm_of rfl, trivial⟩ (haveV.row rfl rfl trivial), .inl rfl, ⟨_, rfl, rfl⟩, rfl, trivial⟩
theorem Odd_f (B : List Pg) (q : Int × Int × Int) (hB : B.length ≤ 500) (hw : ∀ p ∈ B, WP p) : ∃ O : List Pg, (O.length ≤ B.length + 204 ∧ ∀ p ∈ O, WP p) ∧
    AFun Try.prog 17 0 [.ro {} 14 (B.map pg), .agg [int q.1, int q.2.1, int q.2.2]] [] (.ro {} 14 (O.map pg)) [] := by
  suffices h : ∃ O : List Pg, (O.length ≤ B.length + 204 ∧ ∀ p ∈ O, WP p) ∧ AFun Try.prog 17 0 [.ro {} 14 (B.map pg), .agg [int q.1, int q.2.1, int q.2.2]] [] (.slm {} 0 14 0 O.length) [(0, .row 14 pty (O.map pg))] by
    obtain ⟨O, h1, h2⟩ := h
    exact ⟨O, h1, AFun.frz1 (H := []) h2 rfl (pure_pg O) (by simp)⟩
  cases hb : B with
  | nil => exact ⟨[], ⟨by simp, fun p hp => absurd hp List.not_mem_nil⟩, Odd_nil q⟩
  | cons p0' l =>
    rw [← hb]
    have hl : 0 < B.length := by rw [hb]; exact Nat.succ_pos _
    clear hb
    have b0 := tmod_bound q.1 (m := 7) (by omega)
    have p0 := tmod_pos 7 (a := q.1.tmod 7 + 7) (by omega)
    have b0' := tmod_bound (q.1.tmod 7 + 7) (m := 7) (by omega)
    have b1 := tmod_bound q.2.1 (m := 40) (by omega)
    have p1 := tmod_pos 40 (a := q.2.1.tmod 40 + 40) (by omega)
    have b1' := tmod_bound (q.2.1.tmod 40 + 40) (m := 40) (by omega)
    have b2 := tmod_bound q.2.2 (m := (B.length : Int)) (by omega)
    have p2 : 0 ≤ (q.2.2.tmod B.length + B.length).tmod B.length := Int.tmod_nonneg _ (by omega)
    have b2' := tmod_bound (q.2.2.tmod B.length + B.length) (m := (B.length : Int)) (by omega)
    have h0 := Mod_f q.1 7 (by omega)
    have h1 := Mod_f q.2.1 40 (by omega)
    have h2 := Mod_f q.2.2 B.length (by omega)
    obtain ⟨k, hk⟩ : ∃ k : Nat, (k : Int) = (q.2.2.tmod B.length + B.length).tmod B.length := ⟨((q.2.2.tmod B.length + B.length).tmod B.length).toNat, by omega⟩
    rw [← hk] at h2 p2 b2'
    have hkl : k < B.length := by omega
    generalize (q.2.1.tmod 40 + 40).tmod 40 = n at h1 p1 b1'
    generalize (q.1.tmod 7 + 7).tmod 7 = m at h0 p0 b0'
    have hsp : ∀ p ∈ B, SP p := fun p hp => (hw p hp).sp
    have hy := hw _ (pg_mem0 hkl)
    have hn : 0 ≤ n ∧ n < 40 := ⟨by omega, by omega⟩
    have hm : m = 0 ∨ m = 1 ∨ m = 2 ∨ m = 3 ∨ m = 4 ∨ m = 5 ∨ m = 6 := by omega
    clear b0 p0 b0' b1 p1 b1' b2 p2 b2' hk
    rcases hm with rfl | rfl | rfl | rfl | rfl | rfl | rfl
    · refine ⟨_, ?_, Odd_0 B q n k hB hsp hkl hn h0 h1 h2⟩
      exact ⟨by simp, set_wp hw (hy.upd rfl rfl rfl rfl rfl rfl)⟩
    · refine ⟨_, ?_, Odd_1 B q n k hB hsp hkl hn h0 h1 h2⟩
      exact ⟨by simp, set_wp hw (hy.upd rfl rfl rfl rfl rfl rfl)⟩
    · refine ⟨_, ?_, Odd_2 B q n k hB hsp hkl hn h0 h1 h2⟩
      exact ⟨by simp, set_wp hw (hy.upd rfl rfl rfl rfl rfl rfl)⟩
    · have b3 := tmod_bound n (m := 3) (by omega)
      have p3 := tmod_pos 3 hn.1
      obtain ⟨nm, hs, hnm⟩ := oname_get (n.tmod 3) (by omega)
      refine ⟨_, ?_, Odd_3 B q n k hB hsp hkl hn nm hnm h0 h1 h2⟩
      exact ⟨by simp, set_wp hw ⟨hy.need, hy.total, hy.own, hy.age, hs, hy.ex⟩⟩
    · refine ⟨_, ?_, Odd_4 B q n k hB hsp hkl hn h0 h1 h2⟩
      exact ⟨by simp, set_wp hw (hy.upd rfl rfl rfl rfl rfl rfl)⟩
    · refine ⟨_, ⟨?_, fun p hp => ?_⟩, Odd_5 B q n k hB hsp hkl hn h0 h1 h2⟩
      · simp
      · rcases List.mem_append.1 hp with g | g
        · exact hw p g
        · rw [List.mem_singleton.1 g]; exact hw _ (pg_mem0 (by omega))
    · exact Odd_6 B q n k hB hw hkl hn h0 h1 h2
end Pb
end Go.Proofs.Ytjnmbmdplchfkaa
namespace Go.Proofs.Ytjnmbmdplchfkaa
open Go.Proofs.Ytjnmbmdplchfkaa.Am
set_option maxRecDepth 100000
namespace Pb
/-! ### Plain facts: beginnings of books, versions -/
theorem goB_split : ∀ (l pre m : List Pg), goB pre (l ++ m) = 0 ↔ goB pre l = 0 ∧ goB (pre ++ l) m = 0
  | [], pre, m => by rw [List.nil_append, List.append_nil]; exact ⟨fun h => ⟨rfl, h⟩, fun h => h.2⟩
  | p :: l, pre, m => by
    rw [List.cons_append, goB, goB]
    by_cases c : on1 pre p = 0
    · rw [if_pos c, if_pos c, goB_split l (pre ++ [p]) m, List.append_assoc]; rfl
    · rw [if_neg c, if_neg c]
      exact ⟨fun h => absurd h c, fun h => absurd h.1 c⟩
theorem ckB_zero {B : List Pg} : ckB B = 0 ↔ B.length ≤ 200 ∧ goB [] B = 0 := by
  constructor
  · exact ckB_len
  · rintro ⟨h1, h2⟩
    unfold ckB
    rw [if_neg (by omega)]; exact h2
theorem ckB_pre {A B : List Pg} (h : ckB (A ++ B) = 0) : ckB A = 0 := by
  rw [ckB_zero] at h ⊢
  rw [List.length_append] at h
  exact ⟨by omega, ((goB_split A [] B).1 h.2).1⟩
theorem ckB_snoc {B : List Pg} {p : Pg} (h : ckB (B ++ [p]) = 0) : ckB B = 0 ∧ on1 B p = 0 := by
  refine ⟨ckB_pre h, ?_⟩
  have h2 := ((goB_split B [] [p]).1 (ckB_zero.1 h).2).2
  rw [List.nil_append, goB] at h2
  split at h2
  · assumption
  · exact h2
theorem on1_ver {B : List Pg} {p : Pg} (h : on1 B p = 0) : p.ver = (lastP B p.school p.id).1.ver + 1 ∧ (lastP B p.school p.id).1.from_ ≤ p.from_ := by
  have hc := on1_ck h
  unfold on1 at h
  rw [if_pos hc] at h
  split at h
  · rename_i c; exact ⟨by omega, c.2⟩
  · cases h
/-- The last version is the greatest and the latest. -/
theorem last_max (s i : Int) : ∀ B : List Pg, ckB B = 0 → ∀ y ∈ B, y.school = s → y.id = i → y.ver ≤ (lastP B s i).1.ver ∧ y.from_ ≤ (lastP B s i).1.from_ := by
  refine revInd (M := fun B => ckB B = 0 → ∀ y ∈ B, y.school = s → y.id = i → y.ver ≤ (lastP B s i).1.ver ∧ y.from_ ≤ (lastP B s i).1.from_) (fun _ y h => (by cases h)) ?_
  intro B p ih h y hy h1 h2
  obtain ⟨hB, hp⟩ := ckB_snoc h
  obtain ⟨v1, v2⟩ := on1_ver hp
  rw [last_append, lasS]
  rcases List.mem_append.1 hy with e | e
  · have := ih hB y e h1 h2
    split
    · rename_i c
      rw [c.1, c.2] at v1 v2
      dsimp only
      omega
    · exact this
  · rw [List.mem_singleton.1 e] at h1 h2 ⊢
    rw [if_pos ⟨h1, h2⟩]
    exact ⟨Int.le_refl _, Int.le_refl _⟩
/-- A version is there once. -/
theorem ver_uniq : ∀ B : List Pg, ckB B = 0 → ∀ x ∈ B, ∀ y ∈ B, x.school = y.school → x.id = y.id → x.ver = y.ver → x = y := by
  refine revInd (M := fun B => ckB B = 0 → ∀ x ∈ B, ∀ y ∈ B, x.school = y.school → x.id = y.id → x.ver = y.ver → x = y) (fun _ y h => by cases h) ?_
  intro B p ih h x hx y hy h1 h2 h3
  obtain ⟨hB, hp⟩ := ckB_snoc h
  obtain ⟨v1, _⟩ := on1_ver hp
  rcases List.mem_append.1 hx with e | e <;> rcases List.mem_append.1 hy with f | f
  · exact ih hB x e y f h1 h2 h3
  · rw [List.mem_singleton.1 f] at h1 h2 h3
    have := (last_max p.school p.id B hB x e h1 h2).1
    omega
  · rw [List.mem_singleton.1 e] at h1 h2 h3
    have := (last_max p.school p.id B hB y f h1.symm h2.symm).1
    omega
  · rw [List.mem_singleton.1 e, List.mem_singleton.1 f]
theorem ofP_none {s i v : Int} : ∀ B : List Pg, (ofP s i v B).2 = false → (ofP s i v B).1 = p0 ∧ ∀ x ∈ B, ¬ (x.school = s ∧ x.id = i ∧ x.ver = v)
  | [], _ => ⟨rfl, fun x h => by cases h⟩
  | p :: l, h => by
    rw [ofP] at h ⊢
    by_cases c : p.school = s ∧ p.id = i ∧ p.ver = v
    · rw [if_pos c] at h; cases h
    · rw [if_neg c] at h ⊢
      obtain ⟨a, b⟩ := ofP_none l h
      exact ⟨a, fun x hx => by
        rcases List.mem_cons.1 hx with e | e
        · rw [e]; exact c
        · exact b x e⟩
theorem ofP_some {B : List Pg} (h : ckB B = 0) {x : Pg} (hx : x ∈ B) : ofP x.school x.id x.ver B = (x, true) := by
  cases hb : (ofP x.school x.id x.ver B).2 with
  | false => exact absurd ⟨rfl, rfl, rfl⟩ ((ofP_none B hb).2 x hx)
  | true =>
    obtain ⟨a, b, c, d⟩ := ofP_mem _ _ _ B hb
    exact Prod.ext (ver_uniq B h _ a _ hx b c d) hb
theorem ofP_append (s i v : Int) (p : Pg) : ∀ B : List Pg, ofP s i v (B ++ [p]) = if (ofP s i v B).2 = true then ofP s i v B else ofP s i v [p]
  | [] => by rw [List.nil_append]; rfl
  | q :: l => by
    rw [List.cons_append, ofP, ofP]
    by_cases c : q.school = s ∧ q.id = i ∧ q.ver = v
    · rw [if_pos c, if_pos c, if_pos rfl]
    · rw [if_neg c, if_neg c]; exact ofP_append s i v p l
/-! ### What binds -/
theorem b1_append (B : List Pg) (p : Pg) (s i be : Int) : b1P (B ++ [p]) s i be = b1S s i be (b1P B s i be) p := by
  rw [b1P, List.foldl_append]; rfl
/-- What the first loop finds. -/
structure B1 (B : List Pg) (s i be : Int) : Prop where
  sm : (b1P B s i be).1 = true ↔ ∃ x ∈ B, x.school = s ∧ x.id = i
  no : (b1P B s i be).2 = none → ∀ x ∈ B, x.school = s → x.id = i → be < x.from_
  so : ∀ b, (b1P B s i be).2 = some b → b ∈ B ∧ (b.school = s ∧ b.id = i ∧ b.from_ ≤ be) ∧ ∀ x ∈ B, x.school = s → x.id = i → x.from_ ≤ be → x.ver ≤ b.ver
theorem b1_spec (s i be : Int) : ∀ B : List Pg, B1 B s i be := by
  refine revInd (M := fun B => B1 B s i be) ⟨⟨fun h => (by cases h), fun ⟨x, h, _⟩ => (by cases h)⟩, fun _ x h => (by cases h), fun b h => (by cases h)⟩ ?_
  intro B p ih
  obtain ⟨i1, i2, i3⟩ := ih
  have e := b1_append B p s i be
  unfold b1S at e
  by_cases c : p.school = s ∧ p.id = i
  case neg =>
    rw [if_neg c] at e
    refine ⟨?_, ?_, ?_⟩
    · rw [e, i1]
      constructor
      · rintro ⟨x, hx, h⟩; exact ⟨x, List.mem_append_left _ hx, h⟩
      · rintro ⟨x, hx, h⟩
        rcases List.mem_append.1 hx with g | g
        · exact ⟨x, g, h⟩
        · rw [List.mem_singleton.1 g] at h; exact absurd h c
    · rw [e]; intro h x hx h1 h2
      rcases List.mem_append.1 hx with g | g
      · exact i2 h x g h1 h2
      · rw [List.mem_singleton.1 g] at h1 h2; exact absurd ⟨h1, h2⟩ c
    · rw [e]; intro b h
      obtain ⟨a1, a2, a3⟩ := i3 b h
      refine ⟨List.mem_append_left _ a1, a2, fun x hx h1 h2 h3 => ?_⟩
      rcases List.mem_append.1 hx with g | g
      · exact a3 x g h1 h2 h3
      · rw [List.mem_singleton.1 g] at h1 h2; exact absurd ⟨h1, h2⟩ c
  rw [if_pos c] at e
  have sm : (b1P (B ++ [p]) s i be).1 = true ↔ ∃ x ∈ B ++ [p], x.school = s ∧ x.id = i := by
    rw [e]; exact ⟨fun _ => ⟨p, by simp, c⟩, fun _ => rfl⟩
  generalize b1P B s i be = a at e i2 i3
  by_cases f : p.from_ ≤ be
  case neg =>
    rw [if_neg f] at e
    refine ⟨sm, ?_, ?_⟩
    · rw [e]; intro h x hx h1 h2
      rcases List.mem_append.1 hx with g | g
      · exact i2 h x g h1 h2
      · rw [List.mem_singleton.1 g]; omega
    · rw [e]; intro b h
      obtain ⟨a1, a2, a3⟩ := i3 b h
      refine ⟨List.mem_append_left _ a1, a2, fun x hx h1 h2 h3 => ?_⟩
      rcases List.mem_append.1 hx with g | g
      · exact a3 x g h1 h2 h3
      · rw [List.mem_singleton.1 g] at h3; exact absurd h3 f
  rw [if_pos f] at e
  cases ha : a.2 with
  | none =>
    rw [ha] at e
    refine ⟨sm, ?_, ?_⟩
    · rw [e]; intro h; cases h
    · rw [e]; intro b h; injection h with h; subst h
      refine ⟨by simp, ⟨c.1, c.2, f⟩, fun x hx h1 h2 h3 => ?_⟩
      rcases List.mem_append.1 hx with g | g
      · have := i2 ha x g h1 h2; omega
      · rw [List.mem_singleton.1 g]; exact Int.le_refl _
  | some b =>
    rw [ha] at e
    dsimp only at e
    obtain ⟨a1, a2, a3⟩ := i3 b ha
    by_cases v : b.ver < p.ver
    · rw [if_pos v] at e
      refine ⟨sm, ?_, ?_⟩
      · rw [e]; intro h; cases h
      · rw [e]; intro b' h; injection h with h; subst h
        refine ⟨by simp, ⟨c.1, c.2, f⟩, fun x hx h1 h2 h3 => ?_⟩
        rcases List.mem_append.1 hx with g | g
        · have := a3 x g h1 h2 h3; omega
        · rw [List.mem_singleton.1 g]; exact Int.le_refl _
    · rw [if_neg v] at e
      refine ⟨sm, ?_, ?_⟩
      · rw [e]; intro h; cases h
      · rw [e]; intro b' h; injection h with h; subst h
        refine ⟨List.mem_append_left _ a1, a2, fun x hx h1 h2 h3 => ?_⟩
        rcases List.mem_append.1 hx with g | g
        · exact a3 x g h1 h2 h3
        · rw [List.mem_singleton.1 g]; omega
/-- What the choices come to. -/
theorem b2_spec {B : List Pg} (s i day : Int) : ∀ (C : List Ch) (b : Pg), b ∈ B → b.school = s → b.id = i →
    (b2P B s i day b C ∈ B ∧ (b2P B s i day b C).school = s ∧ (b2P B s i day b C).id = i) ∧ b.ver ≤ (b2P B s i day b C).ver ∧
      (b2P B s i day b C = b ∨ ∃ c ∈ C, c.prog = i ∧ c.ver = (b2P B s i day b C).ver ∧ (b2P B s i day b C).from_ ≤ c.on_ ∧ c.on_ ≤ day)
  | [], b, h, h1, h2 => ⟨⟨h, h1, h2⟩, Int.le_refl _, .inl rfl⟩
  | c :: C, b, h, h1, h2 => by
    rw [b2P, List.foldl_cons]
    change (b2P B s i day (b2S B s i day b c) C ∈ B ∧ _) ∧ _
    by_cases e1 : c.prog ≠ i ∨ day < c.on_ ∨ c.ver ≤ b.ver
    · have e : b2S B s i day b c = b := by rw [b2S, if_pos e1]
      rw [e]
      obtain ⟨a1, a2, a3⟩ := b2_spec s i day C b h h1 h2
      refine ⟨a1, a2, a3.imp id ?_⟩
      rintro ⟨c', hc, h⟩; exact ⟨c', List.mem_cons_of_mem _ hc, h⟩
    · by_cases e2 : (ofP s i c.ver B).2 = true ∧ (ofP s i c.ver B).1.from_ ≤ c.on_
      · have e : b2S B s i day b c = (ofP s i c.ver B).1 := by rw [b2S, if_neg e1, if_pos e2]
        obtain ⟨o1, o2, o3, o4⟩ := ofP_mem s i c.ver B e2.1
        rw [e]
        obtain ⟨a1, a2, a3⟩ := b2_spec s i day C _ o1 o2 o3
        refine ⟨a1, Int.le_trans (show b.ver ≤ (ofP s i c.ver B).1.ver by omega) a2, .inr ?_⟩
        rcases a3 with a3 | ⟨c', hc, h⟩
        · change b2P B s i day (ofP s i c.ver B).1 C = _ at a3
          refine ⟨c, List.mem_cons_self .., by omega, ?_⟩
          change c.ver = (b2P B s i day (ofP s i c.ver B).1 C).ver ∧ (b2P B s i day (ofP s i c.ver B).1 C).from_ ≤ _ ∧ _
          rw [a3]
          exact ⟨o4.symm, e2.2, by omega⟩
        · exact ⟨c', List.mem_cons_of_mem _ hc, h⟩
      · have e : b2S B s i day b c = b := by rw [b2S, if_neg e1, if_neg e2]
        rw [e]
        obtain ⟨a1, a2, a3⟩ := b2_spec s i day C b h h1 h2
        refine ⟨a1, a2, a3.imp id ?_⟩
        rintro ⟨c', hc, h⟩; exact ⟨c', List.mem_cons_of_mem _ hc, h⟩
theorem bindP_nil (B : List Pg) (s i be day : Int) (C : List Ch) : (bindP B s i be day C).2 = (bindP B s i be day []).2 := by
  unfold bindP
  cases (b1P B s i be).1 <;> cases (b1P B s i be).2 <;> rfl
/-- The three answers. -/
theorem bind_cases (B : List Pg) (s i be day : Int) :
    ((∀ C, bindP B s i be day C = (p0, 5)) ∧ ∀ x ∈ B, ¬ (x.school = s ∧ x.id = i)) ∨
    ((∀ C, bindP B s i be day C = (p0, 30)) ∧ (∃ x ∈ B, x.school = s ∧ x.id = i) ∧ ∀ x ∈ B, x.school = s → x.id = i → be < x.from_) ∨
    ∃ b, (∀ C, bindP B s i be day C = (b2P B s i day b C, 0)) ∧ b1P B s i be = (true, some b) ∧ b ∈ B ∧ (b.school = s ∧ b.id = i ∧ b.from_ ≤ be) ∧ ∀ x ∈ B, x.school = s → x.id = i → x.from_ ≤ be → x.ver ≤ b.ver := by
  obtain ⟨i1, i2, i3⟩ := b1_spec s i be B
  cases h1 : (b1P B s i be).1 with
  | false =>
    refine .inl ⟨fun C => by unfold bindP; rw [h1]; rfl, fun x hx h => ?_⟩
    rw [i1.2 ⟨x, hx, h⟩] at h1; cases h1
  | true =>
    cases h2 : (b1P B s i be).2 with
    | none => exact .inr (.inl ⟨fun C => by unfold bindP; rw [h1, h2]; rfl, i1.1 h1, i2 h2⟩)
    | some b =>
      obtain ⟨a1, a2, a3⟩ := i3 b h2
      exact .inr (.inr ⟨b, fun C => by unfold bindP; rw [h1, h2]; rfl, Prod.ext h1 h2, a1, a2, a3⟩)
/-! ### Later publications -/
theorem b2_later {B : List Pg} {p : Pg} (s i day : Int) : ∀ (C : List Ch) (b : Pg), (∀ c ∈ C, c.on_ < p.from_) → b2P (B ++ [p]) s i day b C = b2P B s i day b C
  | [], b, _ => rfl
  | c :: C, b, h => by
    have hc := h c (List.mem_cons_self ..)
    rw [b2P, List.foldl_cons, b2P, List.foldl_cons]
    change b2P (B ++ [p]) s i day (b2S (B ++ [p]) s i day b c) C = b2P B s i day (b2S B s i day b c) C
    rw [b2_later s i day C _ (fun c' h' => h c' (List.mem_cons_of_mem _ h'))]
    have e : b2S (B ++ [p]) s i day b c = b2S B s i day b c := by
      unfold b2S
      by_cases e1 : c.prog ≠ i ∨ day < c.on_ ∨ c.ver ≤ b.ver
      · rw [if_pos e1, if_pos e1]
      · rw [if_neg e1, if_neg e1, ofP_append]
        by_cases e2 : (ofP s i c.ver B).2 = true
        · rw [if_pos e2]
        · rw [if_neg e2, if_neg (fun g : (ofP s i c.ver B).2 = true ∧ _ => e2 g.1)]
          refine if_neg fun g => ?_
          rw [ofP] at g
          split at g
          · have := g.2; dsimp only at this; omega
          · have g1 := g.1; rw [ofP] at g1; cases g1
    rw [e]
theorem bind_later {B : List Pg} {p : Pg} (s i be day : Int) (C : List Ch) (h1 : p.school = s ∧ p.id = i) (hf : be < p.from_) (hC : ∀ c ∈ C, c.on_ < p.from_) :
    bindP (B ++ [p]) s i be day C = if (bindP B s i be day C).2 = 5 then (p0, 30) else bindP B s i be day C := by
  have e : b1P (B ++ [p]) s i be = (true, (b1P B s i be).2) := by
    rw [b1_append, b1S, if_pos h1, if_neg (by omega)]
  unfold bindP
  rw [e]
  cases k1 : (b1P B s i be).1 with
  | false =>
    cases k2 : (b1P B s i be).2 with
    | none => rfl
    | some b =>
      have := (b1_spec s i be B).1.2 ⟨b, ((b1_spec s i be B).so b k2).1, ((b1_spec s i be B).so b k2).2.1.1, ((b1_spec s i be B).so b k2).2.1.2.1⟩
      rw [k1] at this; cases this
  | true =>
    cases k2 : (b1P B s i be).2 with
    | none => rfl
    | some b =>
      show (b2P (B ++ [p]) s i day b C, (0 : Int)) = _
      rw [b2_later s i day C b hC]; rfl
theorem b2_stay {B : List Pg} (s i day : Int) {b : Pg} (hm : ∀ x ∈ B, x.school = s → x.id = i → x.ver ≤ b.ver) : ∀ C : List Ch, b2P B s i day b C = b
  | [] => rfl
  | c :: C => by
    rw [b2P, List.foldl_cons]
    have e : b2S B s i day b c = b := by
      unfold b2S
      by_cases e1 : c.prog ≠ i ∨ day < c.on_ ∨ c.ver ≤ b.ver
      · rw [if_pos e1]
      · rw [if_neg e1]
        refine if_neg fun g => ?_
        obtain ⟨o1, o2, o3, o4⟩ := ofP_mem s i c.ver B g.1
        have := hm _ o1 o2 o3
        omega
    rw [e]; exact b2_stay s i day hm C
theorem bind_new {B : List Pg} {p : Pg} (hB : ckB B = 0) (hp : on1 B p = 0) (day : Int) (C : List Ch) : bindP (B ++ [p]) p.school p.id p.from_ day C = (p, 0) := by
  obtain ⟨v1, v2⟩ := on1_ver hp
  have hlt : ∀ x ∈ B, x.school = p.school → x.id = p.id → x.ver < p.ver := fun x hx h1 h2 => by
    have := (last_max _ _ B hB x hx h1 h2).1; omega
  have e : b1P (B ++ [p]) p.school p.id p.from_ = (true, some p) := by
    rw [b1_append, b1S, if_pos ⟨rfl, rfl⟩, if_pos (Int.le_refl _)]
    cases k : (b1P B p.school p.id p.from_).2 with
    | none => rfl
    | some b =>
      obtain ⟨a1, a2, _⟩ := (b1_spec p.school p.id p.from_ B).so b k
      dsimp only
      rw [if_pos (hlt b a1 a2.1 a2.2.1)]
  unfold bindP
  rw [e]
  show (b2P (B ++ [p]) p.school p.id day p C, (0 : Int)) = _
  rw [b2_stay _ _ _ (fun x hx h1 h2 => ?_)]
  rcases List.mem_append.1 hx with g | g
  · exact Int.le_of_lt (hlt x g h1 h2)
  · rw [List.mem_singleton.1 g]; exact Int.le_refl _
/-! ### Other programmes play no part -/
def ownP (s i : Int) (B : List Pg) : List Pg := B.filter fun p => decide (p.school = s) && decide (p.id = i)
theorem own_of (s i v : Int) : ∀ B : List Pg, ofP s i v (ownP s i B) = ofP s i v B
  | [] => rfl
  | p :: l => by
    unfold ownP
    rw [List.filter_cons]
    by_cases c : p.school = s ∧ p.id = i
    · rw [if_pos (by simp [c])]
      rw [ofP, ofP]
      have := own_of s i v l
      unfold ownP at this
      rw [this]
    · rw [if_neg (by simpa using c)]
      have := own_of s i v l
      unfold ownP at this
      rw [this]
      rw [ofP, if_neg (fun h => c ⟨h.1, h.2.1⟩)]
theorem own_b1 (s i be : Int) : ∀ (B : List Pg) (a : Bool × Option Pg), (ownP s i B).foldl (b1S s i be) a = B.foldl (b1S s i be) a
  | [], a => rfl
  | p :: l, a => by
    unfold ownP
    rw [List.filter_cons, List.foldl_cons]
    by_cases c : p.school = s ∧ p.id = i
    · rw [if_pos (by simp [c]), List.foldl_cons]; exact own_b1 s i be l _
    · rw [if_neg (by simpa using c)]
      have e : b1S s i be a p = a := by rw [b1S, if_neg c]
      rw [e]; exact own_b1 s i be l a
theorem own_b2 {B : List Pg} (s i day : Int) : ∀ (C : List Ch) (b : Pg), b2P (ownP s i B) s i day b C = b2P B s i day b C
  | [], b => rfl
  | c :: C, b => by
    rw [b2P, List.foldl_cons, b2P, List.foldl_cons]
    have e : b2S (ownP s i B) s i day b c = b2S B s i day b c := by unfold b2S; rw [own_of]
    rw [e]; exact own_b2 s i day C _
theorem own_bind (B : List Pg) (s i be day : Int) (C : List Ch) : bindP (ownP s i B) s i be day C = bindP B s i be day C := by
  have e : b1P (ownP s i B) s i be = b1P B s i be := own_b1 s i be B _
  unfold bindP
  rw [e]
  cases (b1P B s i be).1 with
  | false => rfl
  | true =>
    cases (b1P B s i be).2 with
    | none => rfl
    | some b => show (b2P _ s i day b C, (0 : Int)) = _; rw [own_b2]; rfl
end Pb
end Go.Proofs.Ytjnmbmdplchfkaa
namespace Go.Proofs.Ytjnmbmdplchfkaa
open Go.Proofs.Ytjnmbmdplchfkaa.Am
set_option maxRecDepth 100000
namespace Pb
/-! ### The case -/
abbrev u8' (a : Int) : AV := .sc (.int .u8 a)
abbrev u16 (a : Int) : AV := .sc (.int .u16 a)
abbrev Case := (Fl × List (Fl × List Int)) × (Fl × List (Fl × List Int)) × Int × Int × Int × Int
abbrev csA (c : Case) : AV := .agg [.ro c.1.1 1 (c.1.2.map iA), .ro c.2.1.1 1 (c.2.1.2.map iA), u8' c.2.2.1, u8' c.2.2.2.1, u16 c.2.2.2.2.1, u16 c.2.2.2.2.2]
structure CaseOk (c : Case) : Prop where
  l : c.1.2.length ≤ 9223372036854775807
  lx : ∀ x ∈ c.1.2, x.2.length ≤ 9223372036854775807
  m : c.2.1.2.length ≤ 9223372036854775807
  mx : ∀ x ∈ c.2.1.2, x.2.length ≤ 9223372036854775807
  s : 0 ≤ c.2.2.1 ∧ c.2.2.1 ≤ 255
  i : 0 ≤ c.2.2.2.1 ∧ c.2.2.2.1 ≤ 255
  b : 0 ≤ c.2.2.2.2.1 ∧ c.2.2.2.2.1 ≤ 65535
  d : 0 ≤ c.2.2.2.2.2 ∧ c.2.2.2.2.2 ≤ 65535
set_option maxRecDepth 100000 in
theorem made_case (c : Case) (h : CaseOk c) : ∃ (B : List Pg) (C : List Ch) (s i be day : Int), BK B ∧ CK C ∧ (1 ≤ s ∧ s ≤ 3) ∧ (1 ≤ i ∧ i ≤ 2) ∧ (0 ≤ be ∧ be < 700) ∧ (0 ≤ day ∧ day < 700) ∧
    AFun Try.prog 16 0 [.ro c.1.1 1 (c.1.2.map iA)] [] (.ro {} 14 (B.map pg)) [] ∧
    AFun Try.prog 9 0 [csA c] [] (.tup [.ro {} 14 (B.map pg), .ro {} 4 (C.map chA), .agg [int s, int i, int be, int day]]) [] := by
  obtain ⟨⟨fl, L⟩, ⟨fl', M⟩, s, i, b, d⟩ := c
  obtain ⟨l, lx, m, mx, hs, hi, hb, hd⟩ := h
  dsimp only at l lx m mx hs hi hb hd ⊢
  obtain ⟨B, hB, fB⟩ := Made_f fl L l lx
  obtain ⟨C, hC, fC⟩ := Choices_f fl' M m mx
  have b1 := tmod_bound s (m := 3) (by omega)
  have p1 := tmod_pos 3 hs.1
  have b2 := tmod_bound i (m := 2) (by omega)
  have p2 := tmod_pos 2 hi.1
  have b3 := tmod_bound b (m := 700) (by omega)
  have p3 := tmod_pos 700 hb.1
  have b4 := tmod_bound d (m := 700) (by omega)
  have p4 := tmod_pos 700 hd.1
  refine ⟨B, C, 1 + s.tmod 3, 1 + i.tmod 2, b.tmod 700, d.tmod 700, hB, hC, by omega, by omega, by omega, by omega, fB, ?_⟩
  clear l lx m mx hB hC
  have w1 : s = IntKind.i64.wrap s := (wrap_id (by omega) (by omega)).symm
  have w2 : i = IntKind.i64.wrap i := (wrap_id (by omega) (by omega)).symm
  have w3 : b = IntKind.i64.wrap b := (wrap_id (by omega) (by omega)).symm
  have w4 : d = IntKind.i64.wrap d := (wrap_id (by omega) (by omega)).symm
  refine AFun.of_W T_ok mixed Try.func9 rfl (Nat.le_of_ble_eq_true rfl) rfl ?_
  ((repeat ((conv => whnf); (first | (refine LetN.pre ?_; first | ((conv => arg 1; whnf); refine LetN.mk ?_)) | (refine As.pre ?_; first | refine As.mk rfl ?_) | (refine LetV.pre ?_; first | refine LetV.mk (.sc (.int _ _)) rfl ?_ | refine LetV.mk (.ro _ _ _) rfl ?_) | (refine LetI.pre ?_; first | refine LetI.mk (o := none) s w1 ?_ | refine LetI.mk (o := none) i w2 ?_ | refine LetI.mk (o := none) b w3 ?_ | refine LetI.mk (o := none) d w4 ?_ | refine LetI.wrap (by omega) (by omega) ?_ | refine LetI.mk _ rfl ?_) | (refine Ck.pre ?_; first | refine Ck.drawn (by kernel_rfl) ?_ | refine Ck.mk rfl ?_) | (refine LetL.pre ?_; first | refine LetL.mk [_] rfl ?_) | (refine CallN.pre ?_; first | refine CallN.pure fB rfl rfl ?_ | refine CallN.pure fC rfl rfl ?_)))); (try (conv => whnf)))






  exact ⟨.inl rfl, ⟨_, rfl, rfl⟩, trivial⟩
end Pb
end Go.Proofs.Ytjnmbmdplchfkaa
namespace Go.Proofs.Ytjnmbmdplchfkaa
open Go.Proofs.Ytjnmbmdplchfkaa.Am
set_option maxRecDepth 100000
namespace Pb
/-! ### PublishBooks -/
abbrev bkA (X : List Pg) : AV := .ro {} 14 (X.map pg)
abbrev q6 (q r : Int × Int × Int) : AV := .agg [int q.1, int q.2.1, int q.2.2, int r.1, int r.2.1, int r.2.2]
theorem ofP_cp {X : List Pg} (h : ∀ p ∈ X, WP p) (s i v : Int) : CP (ofP s i v X).1 := by
  cases hb : (ofP s i v X).2 with
  | true => exact (h _ (ofP_mem s i v X hb).1).cp
  | false => rw [(ofP_none X hb).1]; exact cp0
theorem putL_cp {X : List Pg} {p : Pg} (h : ∀ p ∈ X, WP p) (hp : WP p) : (putL X p).length ≤ X.length + 1 ∧ ∀ q ∈ putL X p, CP q := by
  unfold putL
  split
  · refine ⟨by simp, fun q hq => ?_⟩
    rcases List.mem_append.1 hq with g | g
    · exact (h q g).cp
    · rw [List.mem_singleton.1 g]; exact hp.cp
  · exact ⟨Nat.zero_le _, fun q hq => absurd hq List.not_mem_nil⟩
abbrev bkS (p : Pg) (Xs : List (List Pg)) (k : Nat) : AS := ⟨[(9, bool true), (12, .ptr 0 14 0 0), (42, .ro {} 1 (Xs.map bkA)), (43, int Xs.length), (44, int k)], [(0, .row 14 pty [pg p])], 1⟩
abbrev bkT (p : Pg) (Xs : List (List Pg)) (k : Nat) (X : List Pg) : AS := ⟨[(9, bool true), (12, .ptr 0 14 0 0), (42, .ro {} 1 (Xs.map bkA)), (43, int Xs.length), (44, int k), (14, bkA X)], [(0, .row 14 pty [pg p])], 1⟩
set_option maxHeartbeats 3200000 in
set_option maxRecDepth 100000 in
theorem booksLaw_f (fl : Fl) (L : List (Fl × List Int)) (hL : L.length ≤ 9223372036854775807) (hxs : ∀ x ∈ L, x.2.length ≤ 9223372036854775807) (q r : Int × Int × Int) (fl' : Fl) (xs : List Int) (hx : xs.length ≤ 9223372036854775807) (v : Int) (hv : 0 ≤ v ∧ v ≤ 255) :
    AFun Try.prog 5 0 [.ro fl 1 (L.map iA), q6 q r, .ro fl' 1 (xs.map int), u8' v] [] (bool true) [] := by
  obtain ⟨B, hB, hM⟩ := Made_f fl L hL hxs
  have hl := hB.len
  obtain ⟨O1, ⟨l1, w1⟩, hO1⟩ := Odd_f B q (by omega) hB.wp
  obtain ⟨O2, ⟨l2, w2⟩, hO2⟩ := Odd_f O1 r (by omega) w1
  obtain ⟨p, ⟨wp, _⟩, hQ⟩ := MadeAll_f fl' xs hx
  have b1 := tmod_bound v (m := 6) (by omega)
  have p1 := tmod_pos 6 hv.1
  have e1 : v = IntKind.i64.wrap v := (wrap_id (by omega) (by omega)).symm
  refine AFun.of_VS T_ok Try.func5 rfl (Nat.le_of_ble_eq_true rfl) ?_
  refine VS.cut T_ok mixed rfl ?_
  ((repeat ((conv => whnf); (first | (refine LetN.pre ?_; first | ((conv => arg 1; whnf); refine LetN.mk ?_)) | (refine As.pre ?_; first | refine As.mk rfl ?_) | (refine Ck.pre ?_; first | refine Ck.mk rfl ?_)))); (try (conv => whnf)))
  refine VS.cut T_ok mixed rfl ?_
  ((repeat ((conv => whnf); (first | (refine As.pre ?_; first | refine As.mk rfl ?_) | (refine Ck.pre ?_; first | refine Ck.mk rfl ?_) | (refine CallN.pre ?_; first | refine CallN.pure sanity_f rfl rfl ?_)))); (try (conv => whnf)))
  refine VS.cut T_ok mixed rfl ?_
  ((repeat ((conv => whnf); (first | (refine As.pre ?_; first | refine As.mk rfl ?_) | (refine Ck.pre ?_; first | refine Ck.mk rfl ?_) | (refine CallN.pre ?_; first | refine CallN.pure hM rfl rfl ?_)))); (try (conv => whnf)))
  refine VS.cut T_ok mixed rfl ?_
  ((repeat ((conv => whnf); (first | (refine As.pre ?_; first | refine As.mk rfl ?_) | (refine LetV.pre ?_; first | refine LetV.mk (.agg _) rfl ?_) | (refine Ck.pre ?_; first | refine Ck.mk rfl ?_) | (refine CallN.pre ?_; first | refine CallN.pure hO1 rfl rfl ?_)))); (try (conv => whnf)))
  refine VS.cut T_ok mixed rfl ?_
  ((repeat ((conv => whnf); (first | (refine LetN.pre ?_; first | ((conv => arg 1; whnf); refine LetN.mk ?_)) | (refine As.pre ?_; first | refine As.mk rfl ?_) | (refine Ck.pre ?_; first | refine Ck.mk rfl ?_) | (refine LetL.pre ?_; first | refine LetL.mk [_] rfl ?_) | (refine CallN.pre ?_; first | refine CallN.pure hQ rfl rfl ?_)))); (try (conv => whnf)))
  refine VS.cut T_ok mixed rfl ?_
  ((repeat ((conv => whnf); (first | (refine LetN.pre ?_; first | ((conv => arg 1; whnf); refine LetN.mk ?_)) | (refine As.pre ?_; first | refine As.mk rfl ?_) | (refine LetI.pre ?_; first | refine LetI.mk (o := none) v e1 ?_ | refine LetI.mk _ rfl ?_) | (refine Ck.pre ?_; first | refine Ck.mk rfl ?_) | (refine LetL.pre ?_; first | refine LetL.mk [_] rfl ?_)))); (try (conv => whnf)))
  refine VS.of_V T_ok mixed rfl ?_
  ((repeat ((conv => whnf); (first | (refine As.pre ?_; first | refine As.mk rfl ?_) | (refine LetV.pre ?_; first | refine LetV.mk (.agg _) rfl ?_) | (refine LetI.pre ?_; first | refine LetI.mk _ rfl ?_) | (refine Ck.pre ?_; first | refine Ck.mk rfl ?_) | (refine CallN.pre ?_; first | refine CallN.pure hO2 rfl rfl ?_)))); (try (conv => whnf)))
  obtain ⟨Xs, hXs⟩ : ∃ Xs, Xs = [B, O1, O2] := ⟨_, rfl⟩
  have hX3 : Xs.length = 3 := by rw [hXs]; rfl
  have hXw : ∀ X ∈ Xs, X.length ≤ 900 ∧ ∀ p ∈ X, WP p := fun X h => by
    rw [hXs] at h
    simp only [List.mem_cons, List.not_mem_nil, or_false] at h
    rcases h with rfl | rfl | rfl
    · exact ⟨by omega, hB.wp⟩
    · exact ⟨by omega, w1⟩
    · exact ⟨by omega, w2⟩
  have wp' : WP ⟨p.school, p.id, v.tmod 6, p.from_, p.name, p.need, p.total, p.own, p.age, p.ex⟩ := wp.upd rfl rfl rfl rfl rfl rfl
  refine LoopN.weak (s1 := bkS ⟨p.school, p.id, v.tmod 6, p.from_, p.name, p.need, p.total, p.own, p.age, p.ex⟩ Xs 0) ?sw0 ?_
  case sw0 => exact SW.mk (fun i => i + 1) rfl rfl rfl ⟨.refl _, .refl _, .ro_of (by rw [hXs]; rfl), VLe2.int (by rw [hX3]; rfl), .refl _, trivial⟩ (haveV.row rfl rfl trivial)
  generalize (⟨p.school, p.id, v.tmod 6, p.from_, p.name, p.need, p.total, p.own, p.age, p.ex⟩ : Pg) = p' at wp'
  clear hM hO1 hO2 hQ hXs w1 w2 l1 l2 wp hB hl b1 p1 e1 hv hx
  refine LoopN.indS (S := bkS p' Xs) (fun k => Xs.length - k) (fun k => k ≤ Xs.length) (fun k hk ih => ?_) 0 (Nat.zero_le _)
  have hmX : (Xs.map bkA).length = Xs.length := List.length_map _
  by_cases hlt : k < Xs.length
  case neg =>
    clear ih
    refine VS.of_V T_ok mixed rfl ?_
    ((repeat ((conv => whnf); (first | (refine As.pre ?_; first | refine As.mk rfl ?_) | (refine LetB.pre ?_; first | refine LetB.decf (by omega) ?_) | (refine Br.pre ?_; first | refine Br.ff rfl ?_) | (refine Ck.pre ?_; first | refine Ck.mk rfl ?_)))); (try (conv => whnf)))
    exact ⟨⟨[(8, bool true)], [], 0⟩, SW.fr0 (Nat.le_refl _) rfl ⟨.refl _, trivial⟩, .inl rfl, ⟨_, rfl, rfl⟩, trivial⟩
  have hld : bkA (Xs.getD k []) = (Xs.map bkA).getD k (.sc undef) := mapD [] hlt
  obtain ⟨hX1, hX2⟩ := hXw (Xs.getD k []) (by rw [List.getD_eq_getElem?_getD, List.getElem?_eq_getElem hlt]; exact List.getElem_mem hlt)
  have hnx := ih (k + 1) hlt (by omega)
  clear ih hXw
  generalize Xs.getD k [] = X at hld hX1 hX2
  have hC1 := CheckB_f {} X (by omega) hX2
  have hC2 := rCheckB_f X (by omega) hX2
  have hP1 := Put_f X hX1 hX2 wp'
  have hP2 := rPut_f X hX1 hX2 wp'
  have hF1 := Of_f {} X p'.school p'.id p'.ver (by omega) (fun q hq => (hX2 q hq).sp)
  have hF2 := rOf_f {} X p'.school p'.id p'.ver (by omega) (fun q hq => (hX2 q hq).sp)
  obtain ⟨g1, g2⟩ := putL_cp hX2 wp'
  have hS1 := rSameAllB_f {} {} (putL X p') (by omega) g2
  have hS2 := rSameAll_f (ofP_cp hX2 p'.school p'.id p'.ver)
  generalize putL X p' = Y at hP1 hP2 hS1
  generalize putE X p' = e at hP1 hP2
  generalize ckB X = c at hC1 hC2
  generalize (ofP p'.school p'.id p'.ver X).1 = u at hF1 hF2 hS2
  generalize (ofP p'.school p'.id p'.ver X).2 = b at hF1 hF2
  clear g1 g2 hX1 hX2
  refine VS.cut T_ok mixed rfl ?_
  ((repeat ((conv => whnf); (first | (refine As.pre ?_; first | refine As.mk rfl ?_) | (refine LetB.pre ?_; first | refine LetB.dect (by omega) ?_) | (refine Ck.pre ?_; first | refine Ck.mk rfl ?_)))); (try (conv => whnf)))
  refine VS.cut T_ok mixed rfl ?_
  ((repeat ((conv => whnf); (first | (refine Br.pre ?_; first | refine Br.tt rfl ?_) | (refine Ck.pre ?_; first | refine Ck.mk rfl ?_)))); (try (conv => whnf)))
  refine VS.joinN (fun _ : Unit => bkS p' Xs k) (fun _ => True) ?_ ?_
  case refine_2 =>
    intro _ _
    refine VS.of_V T_ok mixed rfl ?_
    ((repeat ((conv => whnf); (first | (refine As.pre ?_; first | refine As.mk rfl ?_) | (refine LetI.pre ?_; first | refine LetI.wrap (by omega) (by omega) ?_) | (refine Ck.pre ?_; first | refine Ck.mk rfl ?_)))); (try (conv => whnf)))
    refine LoopN.weak ?sw2 hnx
    case sw2 => exact SW.mk id rfl rfl rfl ⟨.refl _, .refl _, .refl _, .refl _, VLe2.int (by omega), trivial⟩ (haveV.row rfl rfl trivial)
  refine VS.block ?_
  refine VS.cut T_ok mixed rfl ?_
  ((repeat ((conv => whnf); (first | (refine As.pre ?_; first | refine As.mk rfl ?_ | (refine As.mk ?_ ?_; · ((repeat' (refine andT ?_ ?_)) <;> (first | rfl | assumption | exact decide_eq_true (by omega) | exact decide_eq_true (by dsimp only; omega) | exact decide_eq_true (by simp; omega) | (simp; done))))) | (refine LetV.pre ?_; first | refine LetV.mk (t := 55) _ hld ?_ | refine LetV.mk (.ro _ _ _) rfl ?_) | (refine Ck.pre ?_; first | refine Ck.mk rfl ?_)))); (try (conv => whnf)))
  refine VS.cut T_ok mixed rfl ?_
  ((repeat ((conv => whnf); (first | (refine As.pre ?_; first | refine As.mk rfl ?_) | (refine LetB.pre ?_; first | refine LetB.bnef (by omega) ?_) | (refine Br.pre ?_; first | refine Br.ff rfl ?_) | (refine Ck.pre ?_; first | refine Ck.mk rfl ?_) | (refine CallN.pre ?_; first | refine CallN.pure hC1 rfl rfl ?_ | refine CallN.pure hC2 rfl rfl ?_)))); (try (conv => whnf)))
  refine VS.cut T_ok mixed rfl ?_
  ((repeat ((conv => whnf); (first | (refine As.pre ?_; first | refine As.mk rfl ?_) | (refine LetV.pre ?_; first | refine LetV.mk (.agg _) rfl ?_) | (refine Ck.pre ?_; first | refine Ck.mk rfl ?_) | (refine CallN.pre ?_; first | refine CallN.pure hP1 rfl rfl ?_)))); (try (conv => whnf)))
  refine VS.cut T_ok mixed rfl ?_
  ((repeat ((conv => whnf); (first | (refine As.pre ?_; first | refine As.mk rfl ?_) | (refine LetV.pre ?_; first | refine LetV.mk (.agg _) rfl ?_) | (refine Ck.pre ?_; first | refine Ck.mk rfl ?_) | (refine CallN.pre ?_; first | refine CallN.pure hP2 rfl rfl ?_)))); (try (conv => whnf)))
  refine VS.cut T_ok mixed rfl ?_
  ((repeat ((conv => whnf); (first | (refine LetN.pre ?_; first | ((conv => arg 1; whnf); refine LetN.mk ?_)) | (refine As.pre ?_; first | refine As.mk rfl ?_) | (refine LetV.pre ?_; first | refine LetV.mk (.sc (.int _ _)) rfl ?_) | (refine Ck.pre ?_; first | refine Ck.mk rfl ?_) | (refine LetL.pre ?_; first | refine LetL.mk [_] rfl ?_) | (refine CallN.pre ?_; first | refine CallN.pure hF1 rfl rfl ?_)))); (try (conv => whnf)))
  refine VS.cut T_ok mixed rfl ?_
  ((repeat ((conv => whnf); (first | (refine LetN.pre ?_; first | ((conv => arg 1; whnf); refine LetN.mk ?_)) | (refine As.pre ?_; first | refine As.mk rfl ?_) | (refine LetV.pre ?_; first | refine LetV.mk (.sc (.int _ _)) rfl ?_) | (refine Ck.pre ?_; first | refine Ck.mk rfl ?_) | (refine LetL.pre ?_; first | refine LetL.mk [_] rfl ?_) | (refine CallN.pre ?_; first | refine CallN.pure hF2 rfl rfl ?_)))); (try (conv => whnf)))
  refine VS.of_V T_ok mixed rfl ?_
  cases b <;>
  · ((repeat ((conv => whnf); (first | (refine As.pre ?_; first | refine As.mk rfl ?_) | (refine LetV.pre ?_; first | refine LetV.mk (.agg _) rfl ?_) | (refine LetB.pre ?_; first | refine LetB.ff rfl ?_ | refine LetB.bnef (by omega) ?_) | (refine Gd.pre ?_; first | refine Gd.run rfl ?_) | (refine Br.pre ?_; first | refine Br.ff rfl ?_) | (refine Ck.pre ?_; first | refine Ck.mk rfl ?_) | (refine CallN.pre ?_; first | refine CallN.pure hS1 rfl rfl ?_ | refine CallN.pure hS2 rfl rfl ?_)))); (try (conv => whnf)))
    exact ⟨rfl, (), trivial, SW.mk id rfl rfl rfl ⟨.refl _, .refl _, .refl _, .refl _, .refl _, trivial⟩ (haveV.row rfl rfl trivial)⟩
end Pb
end Go.Proofs.Ytjnmbmdplchfkaa
namespace Go.Proofs.Ytjnmbmdplchfkaa
open Go.Proofs.Ytjnmbmdplchfkaa.Am
set_option maxRecDepth 100000
namespace Pb
theorem books_row (L : List (List Int)) (hL : L.length ≤ 9223372036854775807) (hxs : ∀ l ∈ L, l.length ≤ 9223372036854775807) (q : (Int × Int × Int) × (Int × Int × Int)) (xs : List Int) (hx : xs.length ≤ 9223372036854775807) (v : Int) (hv : 0 ≤ v ∧ v ≤ 255) :
    AFun Try.prog 5 0 [.ro {} 1 (L.map fun l => .ro {} 1 (l.map int)), .agg [int q.1.1, int q.1.2.1, int q.1.2.2, int q.2.1, int q.2.2.1, int q.2.2.2], .ro {} 1 (xs.map int), u8' v] [] (bool true) [] := by
  have h1 := booksLaw_f {} (L.map fun l => (({} : Fl), l)) (by rw [List.length_map]; exact hL) (fun y hy => by
    obtain ⟨l, hl, rfl⟩ := List.mem_map.1 hy; exact hxs l hl) q.1 q.2 {} xs hx v hv
  rw [List.map_map] at h1
  exact h1
end Pb
end Go.Proofs.Ytjnmbmdplchfkaa
