/- earn: parts of the proof, DearnLE DearnHM DearnHN DearnHO DearnHP DearnHQ DearnHR DearnHS. -/
import Derived.Test.YtiefcppgbnfbfaaL41
import Derived.Test.YtiefcppgbnfbfaaL43
set_option linter.all false
namespace Go.Proofs.Ytiefcppgbnfbfaa
open Go.Proofs.Ytiefcppgbnfbfaa.Am
set_option maxRecDepth 100000
namespace En
/-! ### Entries with a change -/
/-- What made entries and their changes keep to. -/
structure bE (e : E) : Prop where
  school : -1000 ≤ e.school ∧ e.school ≤ 1000
  id : -1000000000 ≤ e.id ∧ e.id ≤ 1000000000
  day : -1 ≤ e.day ∧ e.day ≤ 200000
  on : -1 ≤ e.on_ ∧ e.on_ ≤ 200001
abbrev od (e : E) (a b : Int) (e' : E) : Prop := AFun Try.prog 11 0 [en e, .agg [int a, int b]] [] (en e') []
theorem od0 (n : Int) (h : 0 ≤ n ∧ n < 4) : ∃ c : Int, (0 ≤ c ∧ c ≤ 900000) ∧ int c = ([int 0, int 1, int 899999, int 900000] : List AV).getD n.toNat (.sc undef) := by
  obtain ⟨m, rfl⟩ : ∃ m : Nat, n = m := ⟨n.toNat, by omega⟩
  have : m = 0 ∨ m = 1 ∨ m = 2 ∨ m = 3 := by omega
  rcases this with rfl | rfl | rfl | rfl <;> exact ⟨_, by omega, rfl⟩
theorem od2 (n : Int) (h : 0 ≤ n ∧ n < 4) : ∃ c : Int, (0 ≤ c ∧ c ≤ 1000000) ∧ int c = ([int 0, int 999999, int 1000000, int 2] : List AV).getD n.toNat (.sc undef) := by
  obtain ⟨m, rfl⟩ : ∃ m : Nat, n = m := ⟨n.toNat, by omega⟩
  have : m = 0 ∨ m = 1 ∨ m = 2 ∨ m = 3 := by omega
  rcases this with rfl | rfl | rfl | rfl <;> exact ⟨_, by omega, rfl⟩
theorem od4 (n : Int) (h : 0 ≤ n ∧ n < 4) : ∃ c : Int, (-1 ≤ c ∧ c ≤ 100001) ∧ int c = ([int (-1), int 0, int 100000, int 100001] : List AV).getD n.toNat (.sc undef) := by
  obtain ⟨m, rfl⟩ : ∃ m : Nat, n = m := ⟨n.toNat, by omega⟩
  have : m = 0 ∨ m = 1 ∨ m = 2 ∨ m = 3 := by omega
  rcases this with rfl | rfl | rfl | rfl <;> exact ⟨_, by omega, rfl⟩
theorem od5 (d : Int) (n : Int) (h : 0 ≤ n ∧ n < 4) (hd : -1 ≤ d ∧ d ≤ 200000) : ∃ c : Int, (-1 ≤ c ∧ c ≤ 200001) ∧ int c = ([int (-1), int 0, int d, int (d + 1)] : List AV).getD n.toNat (.sc undef) := by
  obtain ⟨m, rfl⟩ : ∃ m : Nat, n = m := ⟨n.toNat, by omega⟩
  have : m = 0 ∨ m = 1 ∨ m = 2 ∨ m = 3 := by omega
  rcases this with rfl | rfl | rfl | rfl <;> exact ⟨_, by omega, rfl⟩
theorem od6 (n : Int) (h : 0 ≤ n ∧ n < 5) : ∃ c : ByteArray, str c = ([str ⟨#[]⟩, str ⟨#[65, 49]⟩, str ⟨#[66, 50]⟩, str ⟨#[97]⟩, str ⟨#[65, 66, 67, 68, 69, 70, 71, 72, 73]⟩] : List AV).getD n.toNat (.sc undef) := by
  obtain ⟨m, rfl⟩ : ∃ m : Nat, n = m := ⟨n.toNat, by omega⟩
  have : m = 0 ∨ m = 1 ∨ m = 2 ∨ m = 3 ∨ m = 4 := by omega
  rcases this with rfl | rfl | rfl | rfl | rfl <;> exact ⟨_, rfl⟩
theorem od7 (n : Int) (h : 0 ≤ n ∧ n < 4) : ∃ c : Int, (0 ≤ c ∧ c ≤ 61) ∧ int c = ([int 0, int 1, int 60, int 61] : List AV).getD n.toNat (.sc undef) := by
  obtain ⟨m, rfl⟩ : ∃ m : Nat, n = m := ⟨n.toNat, by omega⟩
  have : m = 0 ∨ m = 1 ∨ m = 2 ∨ m = 3 := by omega
  rcases this with rfl | rfl | rfl | rfl <;> exact ⟨_, by omega, rfl⟩
theorem od8 (k : Int) (n : Int) (h : 0 ≤ n ∧ n < 6) (hk : 0 ≤ k ∧ k < 40) : ∃ c : Int, (-1001 ≤ c ∧ c ≤ 1001) ∧ int c = ([int 0, int (-1000), int (-1001), int 1000, int 1001, int (5 * k)] : List AV).getD n.toNat (.sc undef) := by
  obtain ⟨m, rfl⟩ : ∃ m : Nat, n = m := ⟨n.toNat, by omega⟩
  have : m = 0 ∨ m = 1 ∨ m = 2 ∨ m = 3 ∨ m = 4 ∨ m = 5 := by omega
  rcases this with rfl | rfl | rfl | rfl | rfl | rfl <;> exact ⟨_, by omega, rfl⟩
theorem od9 (i k : Int) (n : Int) (h : 0 ≤ n ∧ n < 6) : ∃ c : Int, int c = ([int 0, int i, int 1, int 899999, int 900000, int k] : List AV).getD n.toNat (.sc undef) := by
  obtain ⟨m, rfl⟩ : ∃ m : Nat, n = m := ⟨n.toNat, by omega⟩
  have : m = 0 ∨ m = 1 ∨ m = 2 ∨ m = 3 ∨ m = 4 ∨ m = 5 := by omega
  rcases this with rfl | rfl | rfl | rfl | rfl | rfl <;> exact ⟨_, rfl⟩
theorem od14 (n : Int) (h : 0 ≤ n ∧ n < 4) : ∃ c : ByteArray, str c = ([str ⟨#[]⟩, str ⟨#[109, 97, 114, 107]⟩, str ⟨#[48, 58]⟩, str ⟨#[49, 50, 51, 52, 53, 54, 55, 56]⟩] : List AV).getD n.toNat (.sc undef) := by
  obtain ⟨m, rfl⟩ : ∃ m : Nat, n = m := ⟨n.toNat, by omega⟩
  have : m = 0 ∨ m = 1 ∨ m = 2 ∨ m = 3 := by omega
  rcases this with rfl | rfl | rfl | rfl <;> exact ⟨_, rfl⟩
set_option maxRecDepth 100000 in
theorem odd_0 (e : E) (a b n : Int) (hb : bE e) (h : 0 ≤ n ∧ n < 40) (hn : (b.tmod 40 + 40).tmod 40 = n) (hm : (a.tmod 15 + 15).tmod 15 = 0) : ∃ e', bE e' ∧ od e a b e' := by
  obtain ⟨r, hr, hr0⟩ : ∃ r : Int, r = n.tmod 4 ∧ 0 ≤ r ∧ r < 4 := ⟨_, rfl, by have := tmod_bound n (m := 4) (by omega); have := tmod_pos 4 (a := n) h.1; omega⟩
  obtain ⟨c, hc, hv⟩ := od0 r hr0
  have hd3 : 0 ≤ n.tdiv 4 ∧ n.tdiv 4 < 40 := (by rw [Int.tdiv_eq_ediv_of_nonneg h.1]; omega)
  refine ⟨{ e with id := c + n.tdiv 4 }, ⟨hb.school, by dsimp only; omega, hb.day, hb.on⟩, ?_⟩
  have hd := hb.day
  refine AFun.of_W T_ok mixed Try.func11 rfl (Nat.le_of_ble_eq_true rfl) rfl ?_
  have hM1 := Mod_f b 40 (by omega)
  have hM2 := Mod_f a 15 (by omega)
  rw [hn] at hM1
  rw [hm] at hM2
  ((repeat ((conv => whnf); (first | (refine LetN.pre ?_; first | ((conv => arg 1; whnf); refine LetN.mk ?_)) | (refine As.pre ?_; first | refine As.mk rfl ?_ | (refine As.mk ?_ ?_; · ((repeat' (refine andT ?_ ?_)) <;> (first | rfl | assumption | exact decide_eq_true (by omega) | exact decide_eq_true (by dsimp only; omega) | exact decide_eq_true (by simp; omega) | (simp; done))))) | (refine LetV.pre ?_; first | refine LetV.mk (t := 22) _ hv ?_ | refine LetV.mk (.sc (.int _ _)) rfl ?_ | refine LetV.mk (.agg _) rfl ?_) | (refine LetI.pre ?_; first | refine LetI.mk (o := some .rem) r hr ?_ | refine LetI.wrap (by omega) (by omega) ?_) | (refine LetB.pre ?_; first | refine LetB.tt rfl ?_) | (refine Br.pre ?_; first | refine Br.tt rfl ?_) | (refine Ck.pre ?_; first | refine Ck.mk rfl ?_) | (refine LetL.pre ?_; first | refine LetL.mk (ty := ety) [.agg [_, _, _, _, _, _, _, _, _, _, _, _, _, _, _]] rfl ?_) | (refine CallN.pre ?_; first | refine CallN.pure hM1 rfl rfl ?_ | refine CallN.pure hM2 rfl rfl ?_)))); (try (conv => whnf)))





  exact ⟨.inl rfl, ⟨_, rfl, rfl⟩, trivial⟩
set_option maxRecDepth 100000 in
theorem odd_1 (e : E) (a b n : Int) (hb : bE e) (h : 0 ≤ n ∧ n < 40) (hn : (b.tmod 40 + 40).tmod 40 = n) (hm : (a.tmod 15 + 15).tmod 15 = 1) : ∃ e', bE e' ∧ od e a b e' := by
  obtain ⟨r, hr, hr0⟩ : ∃ r : Int, r = n.tmod 11 ∧ 0 ≤ r ∧ r < 11 := ⟨_, rfl, by have := tmod_bound n (m := 11) (by omega); have := tmod_pos 11 (a := n) h.1; omega⟩
  refine ⟨{ e with school := r - 1 }, ⟨by dsimp only; omega, hb.id, hb.day, hb.on⟩, ?_⟩
  have hd := hb.day
  refine AFun.of_W T_ok mixed Try.func11 rfl (Nat.le_of_ble_eq_true rfl) rfl ?_
  have hM1 := Mod_f b 40 (by omega)
  have hM2 := Mod_f a 15 (by omega)
  rw [hn] at hM1
  rw [hm] at hM2
  ((repeat ((conv => whnf); (first | (refine LetN.pre ?_; first | ((conv => arg 1; whnf); refine LetN.mk ?_)) | (refine As.pre ?_; first | refine As.mk rfl ?_) | (refine LetV.pre ?_; first | refine LetV.mk (.sc (.int _ _)) rfl ?_ | refine LetV.mk (.agg _) rfl ?_) | (refine LetI.pre ?_; first | refine LetI.mk (o := some .rem) r hr ?_ | refine LetI.wrap (by omega) (by omega) ?_) | (refine LetB.pre ?_; first | refine LetB.tt rfl ?_ | refine LetB.ff rfl ?_) | (refine Br.pre ?_; first | refine Br.tt rfl ?_ | refine Br.ff rfl ?_) | (refine Ck.pre ?_; first | refine Ck.mk rfl ?_) | (refine LetL.pre ?_; first | refine LetL.mk (ty := ety) [.agg [_, _, _, _, _, _, _, _, _, _, _, _, _, _, _]] rfl ?_) | (refine CallN.pre ?_; first | refine CallN.pure hM1 rfl rfl ?_ | refine CallN.pure hM2 rfl rfl ?_)))); (try (conv => whnf)))




  exact ⟨.inl rfl, ⟨_, rfl, rfl⟩, trivial⟩
set_option maxRecDepth 100000 in
theorem odd_2 (e : E) (a b n : Int) (hb : bE e) (h : 0 ≤ n ∧ n < 40) (hn : (b.tmod 40 + 40).tmod 40 = n) (hm : (a.tmod 15 + 15).tmod 15 = 2) : ∃ e', bE e' ∧ od e a b e' := by
  obtain ⟨r, hr, hr0⟩ : ∃ r : Int, r = n.tmod 4 ∧ 0 ≤ r ∧ r < 4 := ⟨_, rfl, by have := tmod_bound n (m := 4) (by omega); have := tmod_pos 4 (a := n) h.1; omega⟩
  obtain ⟨c, hc, hv⟩ := od2 r hr0
  refine ⟨{ e with student := c }, ⟨hb.school, hb.id, hb.day, hb.on⟩, ?_⟩
  have hd := hb.day
  refine AFun.of_W T_ok mixed Try.func11 rfl (Nat.le_of_ble_eq_true rfl) rfl ?_
  have hM1 := Mod_f b 40 (by omega)
  have hM2 := Mod_f a 15 (by omega)
  rw [hn] at hM1
  rw [hm] at hM2
  ((repeat ((conv => whnf); (first | (refine LetN.pre ?_; first | ((conv => arg 1; whnf); refine LetN.mk ?_)) | (refine As.pre ?_; first | refine As.mk rfl ?_ | (refine As.mk ?_ ?_; · ((repeat' (refine andT ?_ ?_)) <;> (first | rfl | assumption | exact decide_eq_true (by omega) | exact decide_eq_true (by dsimp only; omega) | exact decide_eq_true (by simp; omega) | (simp; done))))) | (refine LetV.pre ?_; first | refine LetV.mk (t := 22) _ hv ?_ | refine LetV.mk (.sc (.int _ _)) rfl ?_ | refine LetV.mk (.agg _) rfl ?_) | (refine LetI.pre ?_; first | refine LetI.mk (o := some .rem) r hr ?_) | (refine LetB.pre ?_; first | refine LetB.tt rfl ?_ | refine LetB.ff rfl ?_) | (refine Br.pre ?_; first | refine Br.tt rfl ?_ | refine Br.ff rfl ?_) | (refine Ck.pre ?_; first | refine Ck.mk rfl ?_) | (refine LetL.pre ?_; first | refine LetL.mk (ty := ety) [.agg [_, _, _, _, _, _, _, _, _, _, _, _, _, _, _]] rfl ?_) | (refine CallN.pre ?_; first | refine CallN.pure hM1 rfl rfl ?_ | refine CallN.pure hM2 rfl rfl ?_)))); (try (conv => whnf)))





  exact ⟨.inl rfl, ⟨_, rfl, rfl⟩, trivial⟩
set_option maxRecDepth 100000 in
theorem odd_3 (e : E) (a b n : Int) (hb : bE e) (h : 0 ≤ n ∧ n < 40) (hn : (b.tmod 40 + 40).tmod 40 = n) (hm : (a.tmod 15 + 15).tmod 15 = 3) : ∃ e', bE e' ∧ od e a b e' := by
  obtain ⟨r, hr, hr0⟩ : ∃ r : Int, r = n.tmod 12 ∧ 0 ≤ r ∧ r < 12 := ⟨_, rfl, by have := tmod_bound n (m := 12) (by omega); have := tmod_pos 12 (a := n) h.1; omega⟩
  refine ⟨{ e with kind := r }, ⟨hb.school, hb.id, hb.day, hb.on⟩, ?_⟩
  have hd := hb.day
  refine AFun.of_W T_ok mixed Try.func11 rfl (Nat.le_of_ble_eq_true rfl) rfl ?_
  have hM1 := Mod_f b 40 (by omega)
  have hM2 := Mod_f a 15 (by omega)
  rw [hn] at hM1
  rw [hm] at hM2
  ((repeat ((conv => whnf); (first | (refine LetN.pre ?_; first | ((conv => arg 1; whnf); refine LetN.mk ?_)) | (refine As.pre ?_; first | refine As.mk rfl ?_) | (refine LetV.pre ?_; first | refine LetV.mk (.sc (.int _ _)) rfl ?_ | refine LetV.mk (.agg _) rfl ?_) | (refine LetI.pre ?_; first | refine LetI.mk (o := some .rem) r hr ?_) | (refine LetB.pre ?_; first | refine LetB.tt rfl ?_ | refine LetB.ff rfl ?_) | (refine Br.pre ?_; first | refine Br.tt rfl ?_ | refine Br.ff rfl ?_) | (refine Ck.pre ?_; first | refine Ck.mk rfl ?_) | (refine LetL.pre ?_; first | refine LetL.mk (ty := ety) [.agg [_, _, _, _, _, _, _, _, _, _, _, _, _, _, _]] rfl ?_) | (refine CallN.pre ?_; first | refine CallN.pure hM1 rfl rfl ?_ | refine CallN.pure hM2 rfl rfl ?_)))); (try (conv => whnf)))




  exact ⟨.inl rfl, ⟨_, rfl, rfl⟩, trivial⟩
set_option maxRecDepth 100000 in
theorem odd_4 (e : E) (a b n : Int) (hb : bE e) (h : 0 ≤ n ∧ n < 40) (hn : (b.tmod 40 + 40).tmod 40 = n) (hm : (a.tmod 15 + 15).tmod 15 = 4) : ∃ e', bE e' ∧ od e a b e' := by
  obtain ⟨r, hr, hr0⟩ : ∃ r : Int, r = n.tmod 4 ∧ 0 ≤ r ∧ r < 4 := ⟨_, rfl, by have := tmod_bound n (m := 4) (by omega); have := tmod_pos 4 (a := n) h.1; omega⟩
  obtain ⟨c, hc, hv⟩ := od4 r hr0
  refine ⟨{ e with day := c }, ⟨hb.school, hb.id, by dsimp only; omega, hb.on⟩, ?_⟩
  have hd := hb.day
  refine AFun.of_W T_ok mixed Try.func11 rfl (Nat.le_of_ble_eq_true rfl) rfl ?_
  have hM1 := Mod_f b 40 (by omega)
  have hM2 := Mod_f a 15 (by omega)
  rw [hn] at hM1
  rw [hm] at hM2
  ((repeat ((conv => whnf); (first | (refine LetN.pre ?_; first | ((conv => arg 1; whnf); refine LetN.mk ?_)) | (refine As.pre ?_; first | refine As.mk rfl ?_ | (refine As.mk ?_ ?_; · ((repeat' (refine andT ?_ ?_)) <;> (first | rfl | assumption | exact decide_eq_true (by omega) | exact decide_eq_true (by dsimp only; omega) | exact decide_eq_true (by simp; omega) | (simp; done))))) | (refine LetV.pre ?_; first | refine LetV.mk (t := 22) _ hv ?_ | refine LetV.mk (.sc (.int _ _)) rfl ?_ | refine LetV.mk (.agg _) rfl ?_) | (refine LetI.pre ?_; first | refine LetI.mk (o := some .rem) r hr ?_) | (refine LetB.pre ?_; first | refine LetB.tt rfl ?_ | refine LetB.ff rfl ?_) | (refine Br.pre ?_; first | refine Br.tt rfl ?_ | refine Br.ff rfl ?_) | (refine Ck.pre ?_; first | refine Ck.mk rfl ?_) | (refine LetL.pre ?_; first | refine LetL.mk (ty := ety) [.agg [_, _, _, _, _, _, _, _, _, _, _, _, _, _, _]] rfl ?_) | (refine CallN.pre ?_; first | refine CallN.pure hM1 rfl rfl ?_ | refine CallN.pure hM2 rfl rfl ?_)))); (try (conv => whnf)))





  exact ⟨.inl rfl, ⟨_, rfl, rfl⟩, trivial⟩
set_option maxRecDepth 100000 in
theorem odd_5 (e : E) (a b n : Int) (hb : bE e) (h : 0 ≤ n ∧ n < 40) (hn : (b.tmod 40 + 40).tmod 40 = n) (hm : (a.tmod 15 + 15).tmod 15 = 5) : ∃ e', bE e' ∧ od e a b e' := by
  obtain ⟨r, hr, hr0⟩ : ∃ r : Int, r = n.tmod 4 ∧ 0 ≤ r ∧ r < 4 := ⟨_, rfl, by have := tmod_bound n (m := 4) (by omega); have := tmod_pos 4 (a := n) h.1; omega⟩
  obtain ⟨c, hc, hv⟩ := od5 e.day r hr0 hb.day
  refine ⟨{ e with on_ := c }, ⟨hb.school, hb.id, hb.day, by dsimp only; omega⟩, ?_⟩
  have hd := hb.day
  refine AFun.of_W T_ok mixed Try.func11 rfl (Nat.le_of_ble_eq_true rfl) rfl ?_
  have hM1 := Mod_f b 40 (by omega)
  have hM2 := Mod_f a 15 (by omega)
  rw [hn] at hM1
  rw [hm] at hM2
  ((repeat ((conv => whnf); (first | (refine LetN.pre ?_; first | ((conv => arg 1; whnf); refine LetN.mk ?_)) | (refine As.pre ?_; first | refine As.mk rfl ?_ | (refine As.mk ?_ ?_; · ((repeat' (refine andT ?_ ?_)) <;> (first | rfl | assumption | exact decide_eq_true (by omega) | exact decide_eq_true (by dsimp only; omega) | exact decide_eq_true (by simp; omega) | (simp; done))))) | (refine LetV.pre ?_; first | refine LetV.mk (t := 22) _ hv ?_ | refine LetV.mk (.sc (.int _ _)) rfl ?_ | refine LetV.mk (.agg _) rfl ?_) | (refine LetI.pre ?_; first | refine LetI.mk (o := some .rem) r hr ?_ | refine LetI.wrap (by omega) (by omega) ?_) | (refine LetB.pre ?_; first | refine LetB.tt rfl ?_ | refine LetB.ff rfl ?_) | (refine Br.pre ?_; first | refine Br.tt rfl ?_ | refine Br.ff rfl ?_) | (refine Ck.pre ?_; first | refine Ck.mk rfl ?_) | (refine LetL.pre ?_; first | refine LetL.mk (ty := ety) [.agg [_, _, _, _, _, _, _, _, _, _, _, _, _, _, _]] rfl ?_) | (refine CallN.pre ?_; first | refine CallN.pure hM1 rfl rfl ?_ | refine CallN.pure hM2 rfl rfl ?_)))); (try (conv => whnf)))





  exact ⟨.inl rfl, ⟨_, rfl, rfl⟩, trivial⟩
set_option maxRecDepth 100000 in
theorem odd_6 (e : E) (a b n : Int) (hb : bE e) (h : 0 ≤ n ∧ n < 40) (hn : (b.tmod 40 + 40).tmod 40 = n) (hm : (a.tmod 15 + 15).tmod 15 = 6) : ∃ e', bE e' ∧ od e a b e' := by
  obtain ⟨r, hr, hr0⟩ : ∃ r : Int, r = n.tmod 5 ∧ 0 ≤ r ∧ r < 5 := ⟨_, rfl, by have := tmod_bound n (m := 5) (by omega); have := tmod_pos 5 (a := n) h.1; omega⟩
  obtain ⟨c, hv⟩ := od6 r hr0
  refine ⟨{ e with course := c }, ⟨hb.school, hb.id, hb.day, hb.on⟩, ?_⟩
  have hd := hb.day
  refine AFun.of_W T_ok mixed Try.func11 rfl (Nat.le_of_ble_eq_true rfl) rfl ?_
  have hM1 := Mod_f b 40 (by omega)
  have hM2 := Mod_f a 15 (by omega)
  rw [hn] at hM1
  rw [hm] at hM2
  ((repeat ((conv => whnf); (first | (refine LetN.pre ?_; first | ((conv => arg 1; whnf); refine LetN.mk ?_)) | (refine As.pre ?_; first | refine As.mk rfl ?_ | (refine As.mk ?_ ?_; · ((repeat' (refine andT ?_ ?_)) <;> (first | rfl | assumption | exact decide_eq_true (by omega) | exact decide_eq_true (by dsimp only; omega) | exact decide_eq_true (by simp; omega) | (simp; done))))) | (refine LetV.pre ?_; first | refine LetV.mk (t := 72) _ hv ?_ | refine LetV.mk (.sc (.int _ _)) rfl ?_ | refine LetV.mk (.sc _) rfl ?_ | refine LetV.mk (.agg _) rfl ?_) | (refine LetI.pre ?_; first | refine LetI.mk (o := some .rem) r hr ?_) | (refine LetB.pre ?_; first | refine LetB.tt rfl ?_ | refine LetB.ff rfl ?_) | (refine Br.pre ?_; first | refine Br.tt rfl ?_ | refine Br.ff rfl ?_) | (refine Ck.pre ?_; first | refine Ck.mk rfl ?_) | (refine LetL.pre ?_; first | refine LetL.mk (ty := ety) [.agg [_, _, _, _, _, _, _, _, _, _, _, _, _, _, _]] rfl ?_) | (refine CallN.pre ?_; first | refine CallN.pure hM1 rfl rfl ?_ | refine CallN.pure hM2 rfl rfl ?_)))); (try (conv => whnf)))





  exact ⟨.inl rfl, ⟨_, rfl, rfl⟩, trivial⟩
set_option maxRecDepth 100000 in
theorem odd_7 (e : E) (a b n : Int) (hb : bE e) (h : 0 ≤ n ∧ n < 40) (hn : (b.tmod 40 + 40).tmod 40 = n) (hm : (a.tmod 15 + 15).tmod 15 = 7) : ∃ e', bE e' ∧ od e a b e' := by
  obtain ⟨r, hr, hr0⟩ : ∃ r : Int, r = n.tmod 4 ∧ 0 ≤ r ∧ r < 4 := ⟨_, rfl, by have := tmod_bound n (m := 4) (by omega); have := tmod_pos 4 (a := n) h.1; omega⟩
  obtain ⟨c, hc, hv⟩ := od7 r hr0
  refine ⟨{ e with credits := c }, ⟨hb.school, hb.id, hb.day, hb.on⟩, ?_⟩
  have hd := hb.day
  refine AFun.of_W T_ok mixed Try.func11 rfl (Nat.le_of_ble_eq_true rfl) rfl ?_
  have hM1 := Mod_f b 40 (by omega)
  have hM2 := Mod_f a 15 (by omega)
  rw [hn] at hM1
  rw [hm] at hM2
  ((repeat ((conv => whnf); (first | (refine LetN.pre ?_; first | ((conv => arg 1; whnf); refine LetN.mk ?_)) | (refine As.pre ?_; first | refine As.mk rfl ?_ | (refine As.mk ?_ ?_; · ((repeat' (refine andT ?_ ?_)) <;> (first | rfl | assumption | exact decide_eq_true (by omega) | exact decide_eq_true (by dsimp only; omega) | exact decide_eq_true (by simp; omega) | (simp; done))))) | (refine LetV.pre ?_; first | refine LetV.mk (t := 22) _ hv ?_ | refine LetV.mk (.sc (.int _ _)) rfl ?_ | refine LetV.mk (.agg _) rfl ?_) | (refine LetI.pre ?_; first | refine LetI.mk (o := some .rem) r hr ?_) | (refine LetB.pre ?_; first | refine LetB.tt rfl ?_ | refine LetB.ff rfl ?_) | (refine Br.pre ?_; first | refine Br.tt rfl ?_ | refine Br.ff rfl ?_) | (refine Ck.pre ?_; first | refine Ck.mk rfl ?_) | (refine LetL.pre ?_; first | refine LetL.mk (ty := ety) [.agg [_, _, _, _, _, _, _, _, _, _, _, _, _, _, _]] rfl ?_) | (refine CallN.pre ?_; first | refine CallN.pure hM1 rfl rfl ?_ | refine CallN.pure hM2 rfl rfl ?_)))); (try (conv => whnf)))





  exact ⟨.inl rfl, ⟨_, rfl, rfl⟩, trivial⟩
set_option maxRecDepth 100000 in
theorem odd_8 (e : E) (a b n : Int) (hb : bE e) (h : 0 ≤ n ∧ n < 40) (hn : (b.tmod 40 + 40).tmod 40 = n) (hm : (a.tmod 15 + 15).tmod 15 = 8) : ∃ e', bE e' ∧ od e a b e' := by
  obtain ⟨r, hr, hr0⟩ : ∃ r : Int, r = n.tmod 6 ∧ 0 ≤ r ∧ r < 6 := ⟨_, rfl, by have := tmod_bound n (m := 6) (by omega); have := tmod_pos 6 (a := n) h.1; omega⟩
  obtain ⟨c, hc, hv⟩ := od8 n r hr0 h
  refine ⟨{ e with grade := c }, ⟨hb.school, hb.id, hb.day, hb.on⟩, ?_⟩
  have hd := hb.day
  refine AFun.of_W T_ok mixed Try.func11 rfl (Nat.le_of_ble_eq_true rfl) rfl ?_
  have hM1 := Mod_f b 40 (by omega)
  have hM2 := Mod_f a 15 (by omega)
  rw [hn] at hM1
  rw [hm] at hM2
  ((repeat ((conv => whnf); (first | (refine LetN.pre ?_; first | ((conv => arg 1; whnf); refine LetN.mk ?_)) | (refine As.pre ?_; first | refine As.mk rfl ?_ | (refine As.mk ?_ ?_; · ((repeat' (refine andT ?_ ?_)) <;> (first | rfl | assumption | exact decide_eq_true (by omega) | exact decide_eq_true (by dsimp only; omega) | exact decide_eq_true (by simp; omega) | (simp; done))))) | (refine LetV.pre ?_; first | refine LetV.mk (t := 22) _ hv ?_ | refine LetV.mk (.sc (.int _ _)) rfl ?_ | refine LetV.mk (.agg _) rfl ?_) | (refine LetI.pre ?_; first | refine LetI.mk (o := some .rem) r hr ?_ | refine LetI.wrap (by omega) (by omega) ?_) | (refine LetB.pre ?_; first | refine LetB.tt rfl ?_ | refine LetB.ff rfl ?_) | (refine Br.pre ?_; first | refine Br.tt rfl ?_ | refine Br.ff rfl ?_) | (refine Ck.pre ?_; first | refine Ck.mk rfl ?_) | (refine LetL.pre ?_; first | refine LetL.mk (ty := ety) [.agg [_, _, _, _, _, _, _, _, _, _, _, _, _, _, _]] rfl ?_) | (refine CallN.pre ?_; first | refine CallN.pure hM1 rfl rfl ?_ | refine CallN.pure hM2 rfl rfl ?_)))); (try (conv => whnf)))





  exact ⟨.inl rfl, ⟨_, rfl, rfl⟩, trivial⟩
set_option maxRecDepth 100000 in
theorem odd_9 (e : E) (a b n : Int) (hb : bE e) (h : 0 ≤ n ∧ n < 40) (hn : (b.tmod 40 + 40).tmod 40 = n) (hm : (a.tmod 15 + 15).tmod 15 = 9) : ∃ e', bE e' ∧ od e a b e' := by
  obtain ⟨r, hr, hr0⟩ : ∃ r : Int, r = n.tmod 6 ∧ 0 ≤ r ∧ r < 6 := ⟨_, rfl, by have := tmod_bound n (m := 6) (by omega); have := tmod_pos 6 (a := n) h.1; omega⟩
  obtain ⟨c, hv⟩ := od9 e.id n r hr0
  refine ⟨{ e with ref := c }, ⟨hb.school, hb.id, hb.day, hb.on⟩, ?_⟩
  have hd := hb.day
  refine AFun.of_W T_ok mixed Try.func11 rfl (Nat.le_of_ble_eq_true rfl) rfl ?_
  have hM1 := Mod_f b 40 (by omega)
  have hM2 := Mod_f a 15 (by omega)
  rw [hn] at hM1
  rw [hm] at hM2
  ((repeat ((conv => whnf); (first | (refine LetN.pre ?_; first | ((conv => arg 1; whnf); refine LetN.mk ?_)) | (refine As.pre ?_; first | refine As.mk rfl ?_ | (refine As.mk ?_ ?_; · ((repeat' (refine andT ?_ ?_)) <;> (first | rfl | assumption | exact decide_eq_true (by omega) | exact decide_eq_true (by dsimp only; omega) | exact decide_eq_true (by simp; omega) | (simp; done))))) | (refine LetV.pre ?_; first | refine LetV.mk (t := 22) _ hv ?_ | refine LetV.mk (.sc (.int _ _)) rfl ?_ | refine LetV.mk (.agg _) rfl ?_) | (refine LetI.pre ?_; first | refine LetI.mk (o := some .rem) r hr ?_) | (refine LetB.pre ?_; first | refine LetB.tt rfl ?_ | refine LetB.ff rfl ?_) | (refine Br.pre ?_; first | refine Br.tt rfl ?_ | refine Br.ff rfl ?_) | (refine Ck.pre ?_; first | refine Ck.mk rfl ?_) | (refine LetL.pre ?_; first | refine LetL.mk (ty := ety) [.agg [_, _, _, _, _, _, _, _, _, _, _, _, _, _, _]] rfl ?_) | (refine CallN.pre ?_; first | refine CallN.pure hM1 rfl rfl ?_ | refine CallN.pure hM2 rfl rfl ?_)))); (try (conv => whnf)))





  exact ⟨.inl rfl, ⟨_, rfl, rfl⟩, trivial⟩
set_option maxRecDepth 100000 in
theorem odd_10 (e : E) (a b n : Int) (hb : bE e) (h : 0 ≤ n ∧ n < 40) (hn : (b.tmod 40 + 40).tmod 40 = n) (hm : (a.tmod 15 + 15).tmod 15 = 10) : ∃ e', bE e' ∧ od e a b e' := by
  obtain ⟨r, hr, hr0⟩ : ∃ r : Int, r = n.tmod 10 ∧ 0 ≤ r ∧ r < 10 := ⟨_, rfl, by have := tmod_bound n (m := 10) (by omega); have := tmod_pos 10 (a := n) h.1; omega⟩
  refine ⟨{ e with frm := r }, ⟨hb.school, hb.id, hb.day, hb.on⟩, ?_⟩
  have hd := hb.day
  refine AFun.of_W T_ok mixed Try.func11 rfl (Nat.le_of_ble_eq_true rfl) rfl ?_
  have hM1 := Mod_f b 40 (by omega)
  have hM2 := Mod_f a 15 (by omega)
  rw [hn] at hM1
  rw [hm] at hM2
  ((repeat ((conv => whnf); (first | (refine LetN.pre ?_; first | ((conv => arg 1; whnf); refine LetN.mk ?_)) | (refine As.pre ?_; first | refine As.mk rfl ?_) | (refine LetV.pre ?_; first | refine LetV.mk (.sc (.int _ _)) rfl ?_ | refine LetV.mk (.agg _) rfl ?_) | (refine LetI.pre ?_; first | refine LetI.mk (o := some .rem) r hr ?_) | (refine LetB.pre ?_; first | refine LetB.tt rfl ?_ | refine LetB.ff rfl ?_) | (refine Br.pre ?_; first | refine Br.tt rfl ?_ | refine Br.ff rfl ?_) | (refine Ck.pre ?_; first | refine Ck.mk rfl ?_) | (refine LetL.pre ?_; first | refine LetL.mk (ty := ety) [.agg [_, _, _, _, _, _, _, _, _, _, _, _, _, _, _]] rfl ?_) | (refine CallN.pre ?_; first | refine CallN.pure hM1 rfl rfl ?_ | refine CallN.pure hM2 rfl rfl ?_)))); (try (conv => whnf)))




  exact ⟨.inl rfl, ⟨_, rfl, rfl⟩, trivial⟩
set_option maxRecDepth 100000 in
theorem odd_11 (e : E) (a b n : Int) (hb : bE e) (h : 0 ≤ n ∧ n < 40) (hn : (b.tmod 40 + 40).tmod 40 = n) (hm : (a.tmod 15 + 15).tmod 15 = 11) : ∃ e', bE e' ∧ od e a b e' := by
  obtain ⟨r, hr, hr0⟩ : ∃ r : Int, r = n.tmod 4 ∧ 0 ≤ r ∧ r < 4 := ⟨_, rfl, by have := tmod_bound n (m := 4) (by omega); have := tmod_pos 4 (a := n) h.1; omega⟩
  refine ⟨{ e with programme := r - 1 }, ⟨hb.school, hb.id, hb.day, hb.on⟩, ?_⟩
  have hd := hb.day
  refine AFun.of_W T_ok mixed Try.func11 rfl (Nat.le_of_ble_eq_true rfl) rfl ?_
  have hM1 := Mod_f b 40 (by omega)
  have hM2 := Mod_f a 15 (by omega)
  rw [hn] at hM1
  rw [hm] at hM2
  ((repeat ((conv => whnf); (first | (refine LetN.pre ?_; first | ((conv => arg 1; whnf); refine LetN.mk ?_)) | (refine As.pre ?_; first | refine As.mk rfl ?_) | (refine LetV.pre ?_; first | refine LetV.mk (.sc (.int _ _)) rfl ?_ | refine LetV.mk (.agg _) rfl ?_) | (refine LetI.pre ?_; first | refine LetI.mk (o := some .rem) r hr ?_ | refine LetI.wrap (by omega) (by omega) ?_) | (refine LetB.pre ?_; first | refine LetB.tt rfl ?_ | refine LetB.ff rfl ?_) | (refine Br.pre ?_; first | refine Br.tt rfl ?_ | refine Br.ff rfl ?_) | (refine Ck.pre ?_; first | refine Ck.mk rfl ?_) | (refine LetL.pre ?_; first | refine LetL.mk (ty := ety) [.agg [_, _, _, _, _, _, _, _, _, _, _, _, _, _, _]] rfl ?_) | (refine CallN.pre ?_; first | refine CallN.pure hM1 rfl rfl ?_ | refine CallN.pure hM2 rfl rfl ?_)))); (try (conv => whnf)))




  exact ⟨.inl rfl, ⟨_, rfl, rfl⟩, trivial⟩
set_option maxRecDepth 100000 in
theorem odd_12 (e : E) (a b n : Int) (hb : bE e) (h : 0 ≤ n ∧ n < 40) (hn : (b.tmod 40 + 40).tmod 40 = n) (hm : (a.tmod 15 + 15).tmod 15 = 12) : ∃ e', bE e' ∧ od e a b e' := by
  obtain ⟨r, hr, hr0⟩ : ∃ r : Int, r = n.tmod 4 ∧ 0 ≤ r ∧ r < 4 := ⟨_, rfl, by have := tmod_bound n (m := 4) (by omega); have := tmod_pos 4 (a := n) h.1; omega⟩
  refine ⟨{ e with version := r - 1 }, ⟨hb.school, hb.id, hb.day, hb.on⟩, ?_⟩
  have hd := hb.day
  refine AFun.of_W T_ok mixed Try.func11 rfl (Nat.le_of_ble_eq_true rfl) rfl ?_
  have hM1 := Mod_f b 40 (by omega)
  have hM2 := Mod_f a 15 (by omega)
  rw [hn] at hM1
  rw [hm] at hM2
  ((repeat ((conv => whnf); (first | (refine LetN.pre ?_; first | ((conv => arg 1; whnf); refine LetN.mk ?_)) | (refine As.pre ?_; first | refine As.mk rfl ?_) | (refine LetV.pre ?_; first | refine LetV.mk (.sc (.int _ _)) rfl ?_ | refine LetV.mk (.agg _) rfl ?_) | (refine LetI.pre ?_; first | refine LetI.mk (o := some .rem) r hr ?_ | refine LetI.wrap (by omega) (by omega) ?_) | (refine LetB.pre ?_; first | refine LetB.tt rfl ?_ | refine LetB.ff rfl ?_) | (refine Br.pre ?_; first | refine Br.tt rfl ?_ | refine Br.ff rfl ?_) | (refine Ck.pre ?_; first | refine Ck.mk rfl ?_) | (refine LetL.pre ?_; first | refine LetL.mk (ty := ety) [.agg [_, _, _, _, _, _, _, _, _, _, _, _, _, _, _]] rfl ?_) | (refine CallN.pre ?_; first | refine CallN.pure hM1 rfl rfl ?_ | refine CallN.pure hM2 rfl rfl ?_)))); (try (conv => whnf)))




  exact ⟨.inl rfl, ⟨_, rfl, rfl⟩, trivial⟩
set_option maxRecDepth 100000 in
theorem odd_13 (e : E) (a b n : Int) (hb : bE e) (h : 0 ≤ n ∧ n < 40) (hn : (b.tmod 40 + 40).tmod 40 = n) (hm : (a.tmod 15 + 15).tmod 15 = 13) : ∃ e', bE e' ∧ od e a b e' := by
  refine ⟨{ e with key := n - 3 }, ⟨hb.school, hb.id, hb.day, hb.on⟩, ?_⟩
  have hd := hb.day
  refine AFun.of_W T_ok mixed Try.func11 rfl (Nat.le_of_ble_eq_true rfl) rfl ?_
  have hM1 := Mod_f b 40 (by omega)
  have hM2 := Mod_f a 15 (by omega)
  rw [hn] at hM1
  rw [hm] at hM2
  ((repeat ((conv => whnf); (first | (refine LetN.pre ?_; first | ((conv => arg 1; whnf); refine LetN.mk ?_)) | (refine As.pre ?_; first | refine As.mk rfl ?_) | (refine LetV.pre ?_; first | refine LetV.mk (.sc (.int _ _)) rfl ?_ | refine LetV.mk (.agg _) rfl ?_) | (refine LetI.pre ?_; first | refine LetI.wrap (by omega) (by omega) ?_) | (refine LetB.pre ?_; first | refine LetB.tt rfl ?_ | refine LetB.ff rfl ?_) | (refine Br.pre ?_; first | refine Br.tt rfl ?_ | refine Br.ff rfl ?_) | (refine Ck.pre ?_; first | refine Ck.mk rfl ?_) | (refine LetL.pre ?_; first | refine LetL.mk (ty := ety) [.agg [_, _, _, _, _, _, _, _, _, _, _, _, _, _, _]] rfl ?_) | (refine CallN.pre ?_; first | refine CallN.pure hM1 rfl rfl ?_ | refine CallN.pure hM2 rfl rfl ?_)))); (try (conv => whnf)))



  exact ⟨.inl rfl, ⟨_, rfl, rfl⟩, trivial⟩
set_option maxRecDepth 100000 in
theorem odd_14 (e : E) (a b n : Int) (hb : bE e) (h : 0 ≤ n ∧ n < 40) (hn : (b.tmod 40 + 40).tmod 40 = n) (hm : (a.tmod 15 + 15).tmod 15 = 14) : ∃ e', bE e' ∧ od e a b e' := by
  obtain ⟨r, hr, hr0⟩ : ∃ r : Int, r = n.tmod 4 ∧ 0 ≤ r ∧ r < 4 := ⟨_, rfl, by have := tmod_bound n (m := 4) (by omega); have := tmod_pos 4 (a := n) h.1; omega⟩
  obtain ⟨c, hv⟩ := od14 r hr0
  refine ⟨{ e with mark := c }, ⟨hb.school, hb.id, hb.day, hb.on⟩, ?_⟩
  have hd := hb.day
  refine AFun.of_W T_ok mixed Try.func11 rfl (Nat.le_of_ble_eq_true rfl) rfl ?_
  have hM1 := Mod_f b 40 (by omega)
  have hM2 := Mod_f a 15 (by omega)
  rw [hn] at hM1
  rw [hm] at hM2
  ((repeat ((conv => whnf); (first | (refine LetN.pre ?_; first | ((conv => arg 1; whnf); refine LetN.mk ?_)) | (refine As.pre ?_; first | refine As.mk rfl ?_ | (refine As.mk ?_ ?_; · ((repeat' (refine andT ?_ ?_)) <;> (first | rfl | assumption | exact decide_eq_true (by omega) | exact decide_eq_true (by dsimp only; omega) | exact decide_eq_true (by simp; omega) | (simp; done))))) | (refine LetV.pre ?_; first | refine LetV.mk (t := 72) _ hv ?_ | refine LetV.mk (.sc (.int _ _)) rfl ?_ | refine LetV.mk (.sc _) rfl ?_ | refine LetV.mk (.agg _) rfl ?_) | (refine LetI.pre ?_; first | refine LetI.mk (o := some .rem) r hr ?_) | (refine LetB.pre ?_; first | refine LetB.tt rfl ?_ | refine LetB.ff rfl ?_) | (refine Br.pre ?_; first | refine Br.tt rfl ?_ | refine Br.ff rfl ?_) | (refine Ck.pre ?_; first | refine Ck.mk rfl ?_) | (refine LetL.pre ?_; first | refine LetL.mk (ty := ety) [.agg [_, _, _, _, _, _, _, _, _, _, _, _, _, _, _]] rfl ?_) | (refine CallN.pre ?_; first | refine CallN.pure hM1 rfl rfl ?_ | refine CallN.pure hM2 rfl rfl ?_)))); (try (conv => whnf)))





  exact ⟨.inl rfl, ⟨_, rfl, rfl⟩, trivial⟩
theorem Odd10_f (e : E) (a b : Int) (hb : bE e) : ∃ e', bE e' ∧ od e a b e' := by
  have b1 := tmod_bound b (m := 40) (by omega)
  have p1 := tmod_pos 40 (a := b.tmod 40 + 40) (by omega)
  have b2 := tmod_bound a (m := 15) (by omega)
  have p2 := tmod_pos 15 (a := a.tmod 15 + 15) (by omega)
  have b3 := tmod_bound (b.tmod 40 + 40) (m := 40) (by omega)
  have b4 := tmod_bound (a.tmod 15 + 15) (m := 15) (by omega)
  obtain ⟨m, hm⟩ : ∃ m : Int, m = (a.tmod 15 + 15).tmod 15 := ⟨_, rfl⟩
  have hn : 0 ≤ (b.tmod 40 + 40).tmod 40 ∧ (b.tmod 40 + 40).tmod 40 < 40 := by omega
  have : m = 0 ∨ m = 1 ∨ m = 2 ∨ m = 3 ∨ m = 4 ∨ m = 5 ∨ m = 6 ∨ m = 7 ∨ m = 8 ∨ m = 9 ∨ m = 10 ∨ m = 11 ∨ m = 12 ∨ m = 13 ∨ m = 14 := by omega
  rcases this with rfl | rfl | rfl | rfl | rfl | rfl | rfl | rfl | rfl | rfl | rfl | rfl | rfl | rfl | rfl
  · exact odd_0 e a b _ hb hn rfl hm.symm
  · exact odd_1 e a b _ hb hn rfl hm.symm
  · exact odd_2 e a b _ hb hn rfl hm.symm
  · exact odd_3 e a b _ hb hn rfl hm.symm
  · exact odd_4 e a b _ hb hn rfl hm.symm
  · exact odd_5 e a b _ hb hn rfl hm.symm
  · exact odd_6 e a b _ hb hn rfl hm.symm
  · exact odd_7 e a b _ hb hn rfl hm.symm
  · exact odd_8 e a b _ hb hn rfl hm.symm
  · exact odd_9 e a b _ hb hn rfl hm.symm
  · exact odd_10 e a b _ hb hn rfl hm.symm
  · exact odd_11 e a b _ hb hn rfl hm.symm
  · exact odd_12 e a b _ hb hn rfl hm.symm
  · exact odd_13 e a b _ hb hn rfl hm.symm
  · exact odd_14 e a b _ hb hn rfl hm.symm
end En
end Go.Proofs.Ytiefcppgbnfbfaa
namespace Go.Proofs.Ytiefcppgbnfbfaa
open Go.Proofs.Ytiefcppgbnfbfaa.Am
set_option maxRecDepth 100000
namespace En
def lessR (a b : Ac) : Bool :=
  if a.school = b.school then
    if a.code = b.code then
      if a.day = b.day then
        if cmpLs a.src b.src = 0 then
          if cmpLs a.path b.path = 0 then
            if a.bundle = b.bundle then
              if a.credits = b.credits then decide (a.grade < b.grade) else decide (a.credits < b.credits)
            else decide (a.bundle < b.bundle)
          else decide (cmpLs a.path b.path < 0)
        else decide (cmpLs a.src b.src < 0)
      else decide (a.day < b.day)
    else Op.bytesLess a.code.toList b.code.toList
  else decide (a.school < b.school)
set_option maxHeartbeats 1600000 in
set_option maxRecDepth 100000 in
theorem refLessA_f (a b : Ac) (ha : okA a) (hb : okA b) : AFun Try.prog 31 0 [acA a, acA b] [] (bool (lessR a b)) [] := by
  refine AFun.of_W T_ok mixed Try.func31 rfl (Nat.le_of_ble_eq_true rfl) rfl ?_
  have hS := refCompareL_f a.src b.src {} {} ha.1 hb.1
  have hP := refCompareL_f a.path b.path {} {} ha.2 hb.2
  have hc : (a.code.toList != b.code.toList) = !decide (a.code = b.code) := congrArg (! ·) (toL_eq a.code b.code)
  unfold lessR
  generalize cmpLs a.src b.src = qs at hS ⊢
  generalize cmpLs a.path b.path = qp at hP ⊢
  by_cases h1 : a.school = b.school
  case neg =>
    rw [if_neg h1]
    ((repeat ((conv => whnf); (first | (refine LetN.pre ?_; first | ((conv => arg 1; whnf); refine LetN.mk ?_)) | (refine As.pre ?_; first | refine As.mk rfl ?_) | (refine LetV.pre ?_; first | refine LetV.mk (.sc (.int _ _)) rfl ?_) | (refine LetB.pre ?_; first | refine LetB.bnet (by omega) ?_ | refine LetB.mk _ rfl ?_) | (refine Br.pre ?_; first | refine Br.tt rfl ?_) | (refine Ck.pre ?_; first | refine Ck.mk rfl ?_)))); (try (conv => whnf)))
    exact ⟨.inl rfl, ⟨_, rfl, rfl⟩, trivial⟩
  rw [if_pos h1]
  by_cases h2 : a.code = b.code
  case neg =>
    rw [if_neg h2]
    have hq : (a.code.toList != b.code.toList) = true := by rw [hc, decide_eq_false h2]; rfl
    ((repeat ((conv => whnf); (first | (refine LetN.pre ?_; first | ((conv => arg 1; whnf); refine LetN.mk ?_)) | (refine As.pre ?_; first | refine As.mk rfl ?_) | (refine LetV.pre ?_; first | refine LetV.mk (.sc (.int _ _)) rfl ?_ | refine LetV.mk (.sc _) rfl ?_) | (refine LetB.pre ?_; first | refine LetB.tt (by assumption) ?_ | refine LetB.bnef (by omega) ?_ | refine LetB.mk _ rfl ?_) | (refine Br.pre ?_; first | refine Br.tt rfl ?_ | refine Br.ff rfl ?_) | (refine Ck.pre ?_; first | refine Ck.mk rfl ?_)))); (try (conv => whnf)))
    exact ⟨.inl rfl, ⟨_, rfl, rfl⟩, trivial⟩
  rw [if_pos h2]
  have hq : (a.code.toList != b.code.toList) = false := by rw [hc, decide_eq_true h2]; rfl
  by_cases h3 : a.day = b.day
  case neg =>
    rw [if_neg h3]
    ((repeat ((conv => whnf); (first | (refine LetN.pre ?_; first | ((conv => arg 1; whnf); refine LetN.mk ?_)) | (refine As.pre ?_; first | refine As.mk rfl ?_) | (refine LetV.pre ?_; first | refine LetV.mk (.sc (.int _ _)) rfl ?_ | refine LetV.mk (.sc _) rfl ?_) | (refine LetB.pre ?_; first | refine LetB.ff (by assumption) ?_ | refine LetB.bnet (by omega) ?_ | refine LetB.bnef (by omega) ?_ | refine LetB.mk _ rfl ?_) | (refine Br.pre ?_; first | refine Br.tt rfl ?_ | refine Br.ff rfl ?_) | (refine Ck.pre ?_; first | refine Ck.mk rfl ?_)))); (try (conv => whnf)))
    exact ⟨.inl rfl, ⟨_, rfl, rfl⟩, trivial⟩
  rw [if_pos h3]
  by_cases h4 : qs = 0
  case neg =>
    rw [if_neg h4]
    ((repeat ((conv => whnf); (first | (refine LetN.pre ?_; first | ((conv => arg 1; whnf); refine LetN.mk ?_)) | (refine As.pre ?_; first | refine As.mk rfl ?_) | (refine LetV.pre ?_; first | refine LetV.mk (.sc (.int _ _)) rfl ?_ | refine LetV.mk (.sc _) rfl ?_ | refine LetV.mk (.ro _ _ _) rfl ?_) | (refine LetB.pre ?_; first | refine LetB.ff (by assumption) ?_ | refine LetB.bnet (by omega) ?_ | refine LetB.bnef (by omega) ?_ | refine LetB.mk _ rfl ?_) | (refine Br.pre ?_; first | refine Br.tt rfl ?_ | refine Br.ff rfl ?_) | (refine Ck.pre ?_; first | refine Ck.mk rfl ?_) | (refine CallN.pre ?_; first | refine CallN.pure hS rfl rfl ?_)))); (try (conv => whnf)))
    exact ⟨.inl rfl, ⟨_, rfl, rfl⟩, trivial⟩
  rw [if_pos h4]
  by_cases h5 : qp = 0
  case neg =>
    rw [if_neg h5]
    ((repeat ((conv => whnf); (first | (refine LetN.pre ?_; first | ((conv => arg 1; whnf); refine LetN.mk ?_)) | (refine As.pre ?_; first | refine As.mk rfl ?_) | (refine LetV.pre ?_; first | refine LetV.mk (.sc (.int _ _)) rfl ?_ | refine LetV.mk (.sc _) rfl ?_ | refine LetV.mk (.ro _ _ _) rfl ?_) | (refine LetB.pre ?_; first | refine LetB.ff (by assumption) ?_ | refine LetB.bnet (by omega) ?_ | refine LetB.bnef (by omega) ?_ | refine LetB.mk _ rfl ?_) | (refine Br.pre ?_; first | refine Br.tt rfl ?_ | refine Br.ff rfl ?_) | (refine Ck.pre ?_; first | refine Ck.mk rfl ?_) | (refine CallN.pre ?_; first | refine CallN.pure hS rfl rfl ?_ | refine CallN.pure hP rfl rfl ?_)))); (try (conv => whnf)))
    exact ⟨.inl rfl, ⟨_, rfl, rfl⟩, trivial⟩
  rw [if_pos h5]
  by_cases h6 : a.bundle = b.bundle
  case neg =>
    rw [if_neg h6]
    ((repeat ((conv => whnf); (first | (refine LetN.pre ?_; first | ((conv => arg 1; whnf); refine LetN.mk ?_)) | (refine As.pre ?_; first | refine As.mk rfl ?_) | (refine LetV.pre ?_; first | refine LetV.mk (.sc (.int _ _)) rfl ?_ | refine LetV.mk (.sc _) rfl ?_ | refine LetV.mk (.ro _ _ _) rfl ?_) | (refine LetB.pre ?_; first | refine LetB.ff (by assumption) ?_ | refine LetB.bnet (by omega) ?_ | refine LetB.bnef (by omega) ?_ | refine LetB.mk _ rfl ?_) | (refine Br.pre ?_; first | refine Br.tt rfl ?_ | refine Br.ff rfl ?_) | (refine Ck.pre ?_; first | refine Ck.mk rfl ?_) | (refine CallN.pre ?_; first | refine CallN.pure hS rfl rfl ?_ | refine CallN.pure hP rfl rfl ?_)))); (try (conv => whnf)))
    exact ⟨.inl rfl, ⟨_, rfl, rfl⟩, trivial⟩
  rw [if_pos h6]
  by_cases h7 : a.credits = b.credits
  case neg =>
    rw [if_neg h7]
    ((repeat ((conv => whnf); (first | (refine LetN.pre ?_; first | ((conv => arg 1; whnf); refine LetN.mk ?_)) | (refine As.pre ?_; first | refine As.mk rfl ?_) | (refine LetV.pre ?_; first | refine LetV.mk (.sc (.int _ _)) rfl ?_ | refine LetV.mk (.sc _) rfl ?_ | refine LetV.mk (.ro _ _ _) rfl ?_) | (refine LetB.pre ?_; first | refine LetB.ff (by assumption) ?_ | refine LetB.bnet (by omega) ?_ | refine LetB.bnef (by omega) ?_ | refine LetB.mk _ rfl ?_) | (refine Br.pre ?_; first | refine Br.tt rfl ?_ | refine Br.ff rfl ?_) | (refine Ck.pre ?_; first | refine Ck.mk rfl ?_) | (refine CallN.pre ?_; first | refine CallN.pure hS rfl rfl ?_ | refine CallN.pure hP rfl rfl ?_)))); (try (conv => whnf)))
    exact ⟨.inl rfl, ⟨_, rfl, rfl⟩, trivial⟩
  rw [if_pos h7]
  ((repeat ((conv => whnf); (first | (refine LetN.pre ?_; first | ((conv => arg 1; whnf); refine LetN.mk ?_)) | (refine As.pre ?_; first | refine As.mk rfl ?_) | (refine LetV.pre ?_; first | refine LetV.mk (.sc (.int _ _)) rfl ?_ | refine LetV.mk (.sc _) rfl ?_ | refine LetV.mk (.ro _ _ _) rfl ?_) | (refine LetB.pre ?_; first | refine LetB.ff (by assumption) ?_ | refine LetB.bnef (by omega) ?_ | refine LetB.mk _ rfl ?_) | (refine Br.pre ?_; first | refine Br.ff rfl ?_) | (refine Ck.pre ?_; first | refine Ck.mk rfl ?_) | (refine CallN.pre ?_; first | refine CallN.pure hS rfl rfl ?_ | refine CallN.pure hP rfl rfl ?_)))); (try (conv => whnf)))
  exact ⟨.inl rfl, ⟨_, rfl, rfl⟩, trivial⟩
end En
end Go.Proofs.Ytiefcppgbnfbfaa
namespace Go.Proofs.Ytiefcppgbnfbfaa
open Go.Proofs.Ytiefcppgbnfbfaa.Am
set_option maxRecDepth 100000
namespace En
/-! ### The order, as plain Lean -/
/-- Three-way orders. -/
structure P3 {α : Type} (c : α → α → Int) : Prop where
  neg : ∀ a b, c b a = -c a b
  tr : ∀ a b d, c a b ≤ 0 → c b d ≤ 0 → c a d ≤ 0 ∧ (c a d = 0 ↔ c a b = 0 ∧ c b d = 0)
theorem P3.pull {α β : Type} {c : α → α → Int} (h : P3 c) (f : β → α) : P3 fun a b => c (f a) (f b) := ⟨fun a b => h.neg _ _, fun a b d => h.tr _ _ _⟩
theorem P3.nil {α : Type} : P3 fun _ _ : α => firstNZ [] := ⟨fun _ _ => rfl, fun _ _ _ _ _ => ⟨Int.le_refl _, ⟨fun _ => ⟨rfl, rfl⟩, fun _ => rfl⟩⟩⟩
theorem firstNZ_cons (x : Int) (l : List Int) : firstNZ (x :: l) = if x = 0 then firstNZ l else x := rfl
theorem P3.cons {α : Type} {c : α → α → Int} {L : α → α → List Int} (h : P3 c) (k : P3 fun a b => firstNZ (L a b)) : P3 fun a b => firstNZ (c a b :: L a b) := by
  constructor
  · intro a b
    have h1 := h.neg a b
    have h2 : firstNZ (L b a) = -firstNZ (L a b) := k.neg a b
    simp only [firstNZ_cons]
    split <;> split <;> omega
  · intro a b d
    have h1 := h.tr a b d
    have h2 : firstNZ (L a b) ≤ 0 → firstNZ (L b d) ≤ 0 → firstNZ (L a d) ≤ 0 ∧ (firstNZ (L a d) = 0 ↔ firstNZ (L a b) = 0 ∧ firstNZ (L b d) = 0) := k.tr a b d
    simp only [firstNZ_cons]
    generalize firstNZ (L a b) = p at h2 ⊢
    generalize firstNZ (L b d) = q at h2 ⊢
    generalize firstNZ (L a d) = r at h2 ⊢
    generalize c a b = x at h1 ⊢
    generalize c b d = y at h1 ⊢
    generalize c a d = z at h1 ⊢
    intro h3 h4
    have hx : x ≤ 0 := by split at h3 <;> omega
    have hy : y ≤ 0 := by split at h4 <;> omega
    obtain ⟨hz, he⟩ := h1 hx hy
    by_cases hx0 : x = 0 <;> by_cases hy0 : y = 0
    · have hz0 : z = 0 := he.2 ⟨hx0, hy0⟩
      rw [if_pos hx0] at h3 ⊢
      rw [if_pos hy0] at h4 ⊢
      rw [if_pos hz0]
      exact h2 h3 h4
    all_goals
      have hz0 : z ≠ 0 := fun e => by have := he.1 e; omega
      rw [if_neg hz0]
      refine ⟨hz, fun e => absurd e hz0, fun ⟨e1, e2⟩ => ?_⟩
      split at e1 <;> split at e2 <;> omega
theorem cmpI_0 (a b : Int) : cmpI a b = 0 ↔ a = b := by unfold cmpI; split <;> (try split) <;> omega
theorem cmpI_neg' (a b : Int) : cmpI a b < 0 ↔ a < b := by unfold cmpI; split <;> (try split) <;> omega
theorem P3.cmpI : P3 cmpI := by
  constructor
  · intro a b; unfold En.cmpI; split <;> split <;> (try split) <;> omega
  · intro a b d h1 h2
    have a1 := cmpI_0 a b
    have a2 := cmpI_neg' a b
    have b1 := cmpI_0 b d
    have b2 := cmpI_neg' b d
    have c1 := cmpI_0 a d
    have c2 := cmpI_neg' a d
    omega
theorem cmpLs_cons (x y : Int) (xs ys : List Int) : cmpLs (x :: xs) (y :: ys) = firstNZ [cmpI x y, cmpLs xs ys] := by
  show (if cmpI x y = 0 then cmpLs xs ys else cmpI x y) = if cmpI x y = 0 then (if cmpLs xs ys = 0 then 0 else cmpLs xs ys) else cmpI x y
  split
  · split
    · assumption
    · rfl
  · rfl
theorem cmpLs_neg : ∀ xs ys : List Int, cmpLs ys xs = -cmpLs xs ys
  | [], [] => rfl
  | [], _ :: _ => rfl
  | _ :: _, [] => rfl
  | x :: xs, y :: ys => by
    rw [cmpLs_cons, cmpLs_cons]
    have h1 := P3.cmpI.neg x y
    have h2 := cmpLs_neg xs ys
    simp only [firstNZ]
    repeat' split
    all_goals omega
theorem cmpLs_tr : ∀ xs ys zs : List Int, cmpLs xs ys ≤ 0 → cmpLs ys zs ≤ 0 → cmpLs xs zs ≤ 0 ∧ (cmpLs xs zs = 0 ↔ cmpLs xs ys = 0 ∧ cmpLs ys zs = 0)
  | [], [], [], _, _ => by simp [cmpLs]
  | [], [], _ :: _, _, _ => by simp [cmpLs]
  | [], _ :: _, [], _, h => by simp [cmpLs] at h
  | [], _ :: _, _ :: _, _, _ => by simp [cmpLs]
  | _ :: _, [], _, h, _ => by simp [cmpLs] at h
  | _ :: _, _ :: _, [], _, h => by simp [cmpLs] at h
  | x :: xs, y :: ys, z :: zs, h1, h2 => by
    have k1 := P3.cmpI.tr x y z
    have k2 := cmpLs_tr xs ys zs
    unfold cmpLs at h1 h2 ⊢
    generalize cmpLs xs ys = p at *
    generalize cmpLs ys zs = q at *
    generalize cmpLs xs zs = r at *
    generalize En.cmpI x y = u at *
    generalize En.cmpI y z = v at *
    generalize En.cmpI x z = t at *
    have hu : u ≤ 0 := by split at h1 <;> omega
    have hv : v ≤ 0 := by split at h2 <;> omega
    obtain ⟨ht, he⟩ := k1 hu hv
    by_cases u0 : u = 0 <;> by_cases v0 : v = 0
    · have t0 : t = 0 := he.2 ⟨u0, v0⟩
      rw [if_pos u0] at h1 ⊢
      rw [if_pos v0] at h2 ⊢
      rw [if_pos t0]
      exact k2 h1 h2
    all_goals
      have t0 : t ≠ 0 := fun e => by have := he.1 e; omega
      rw [if_neg t0]
      refine ⟨ht, fun e => absurd e t0, fun ⟨e1, e2⟩ => ?_⟩
      split at e1 <;> split at e2 <;> omega
theorem P3.cmpLs : P3 cmpLs := ⟨cmpLs_neg, cmpLs_tr⟩
def bts (s : ByteArray) : List Int := s.data.toList.map fun b => (b.toNat : Int)
theorem bytes_cmp : ∀ a b : List UInt8, Go.Lib.compareBytes a b = En.cmpLs (a.map fun b => (b.toNat : Int)) (b.map fun b => (b.toNat : Int))
  | [], [] => rfl
  | [], _ :: _ => rfl
  | _ :: _, [] => rfl
  | x :: xs, y :: ys => by
    have h := bytes_cmp xs ys
    show (if x < y then -1 else if y < x then 1 else Go.Lib.compareBytes xs ys) = (if En.cmpI x.toNat y.toNat = 0 then En.cmpLs (xs.map fun b => (b.toNat : Int)) (ys.map fun b => (b.toNat : Int)) else En.cmpI x.toNat y.toNat)
    by_cases h1 : x.toNat < y.toNat
    · rw [if_pos (UInt8.lt_iff_toNat_lt.2 h1), cmpI_lt (by omega)]; rfl
    · by_cases h2 : y.toNat < x.toNat
      · rw [if_neg (fun n => h1 (UInt8.lt_iff_toNat_lt.1 n)), if_pos (UInt8.lt_iff_toNat_lt.2 h2), cmpI_gt (by omega)]; rfl
      · rw [if_neg (fun n => h1 (UInt8.lt_iff_toNat_lt.1 n)), if_neg (fun n => h2 (UInt8.lt_iff_toNat_lt.1 n)), cmpI_eq (by omega), h]; rfl
theorem P3.cmpS : P3 En.cmpS := by
  have : En.cmpS = fun a b => En.cmpLs (bts a) (bts b) := by funext a b; exact bytes_cmp _ _
  rw [this]
  exact P3.cmpLs.pull bts
theorem P3.cmpA : P3 cmpA := (P3.cmpI.pull Ac.school).cons ((P3.cmpS.pull Ac.code).cons ((P3.cmpI.pull Ac.day).cons ((P3.cmpLs.pull Ac.src).cons ((P3.cmpLs.pull Ac.path).cons ((P3.cmpI.pull Ac.bundle).cons ((P3.cmpI.pull Ac.credits).cons ((P3.cmpI.pull Ac.grade).cons P3.nil)))))))
/-! ### What is equal -/
theorem cmpLs_0 : ∀ a b : List Int, En.cmpLs a b = 0 ↔ a = b
  | [], [] => by simp [En.cmpLs]
  | [], _ :: _ => by simp [En.cmpLs]
  | _ :: _, [] => by simp [En.cmpLs]
  | x :: xs, y :: ys => by
    have h1 := cmpI_0 x y
    have h2 := cmpLs_0 xs ys
    rw [List.cons.injEq, ← h1, ← h2, cmpLs_cons]
    simp only [firstNZ]
    repeat' split
    all_goals omega
theorem bts_inj {a b : ByteArray} : bts a = bts b ↔ a = b := by
  refine ⟨fun h => ?_, fun h => by rw [h]⟩
  have : a.data.toList = b.data.toList := (List.map_inj_right fun x y h => by
    have : x.toNat = y.toNat := by omega
    exact UInt8.toNat_inj.1 this).1 h
  exact ByteArray.ext (Array.ext' this)
theorem cmpS_0 (a b : ByteArray) : En.cmpS a b = 0 ↔ a = b := by
  rw [show En.cmpS a b = En.cmpLs (bts a) (bts b) from bytes_cmp _ _, cmpLs_0, bts_inj]
theorem same_eq (a b : Ac) : sameR a b = decide (En.cmpA a b = 0) := by
  have e : En.cmpA a b = 0 ↔ a.school = b.school ∧ a.code = b.code ∧ a.day = b.day ∧ a.src = b.src ∧ a.path = b.path ∧ a.bundle = b.bundle ∧ a.credits = b.credits ∧ a.grade = b.grade := by
    rw [← cmpI_0 a.school, ← cmpS_0, ← cmpI_0 a.day, ← cmpLs_0 a.src, ← cmpLs_0 a.path, ← cmpI_0 a.bundle, ← cmpI_0 a.credits, ← cmpI_0 a.grade]
    unfold En.cmpA cmpsA
    simp only [firstNZ]
    repeat' split
    all_goals omega
  rw [Bool.eq_iff_iff, decide_eq_true_eq, e]
  unfold sameR
  simp only [Bool.and_eq_true, decide_eq_true_eq]
  constructor
  · rintro ⟨⟨⟨⟨⟨⟨h1, h2⟩, h3, h4⟩, h5⟩, h6⟩, h7⟩, h8⟩; exact ⟨h3, h4, h7, h1, h2, h8, h5, h6⟩
  · rintro ⟨h3, h4, h7, h1, h2, h8, h5, h6⟩; exact ⟨⟨⟨⟨⟨⟨h1, h2⟩, h3, h4⟩, h5⟩, h6⟩, h7⟩, h8⟩
end En
end Go.Proofs.Ytiefcppgbnfbfaa
namespace Go.Proofs.Ytiefcppgbnfbfaa
open Go.Proofs.Ytiefcppgbnfbfaa.Am
set_option maxRecDepth 100000
namespace En
theorem nz0 {x : Int} {l : List Int} (h : x = 0) : firstNZ (x :: l) = firstNZ l := if_pos h
theorem nz1 {x : Int} {l : List Int} (h : x ≠ 0) : firstNZ (x :: l) = x := if_neg h
theorem bytesLess_eq : ∀ a b : List UInt8, Op.bytesLess a b = decide (Go.Lib.compareBytes a b < 0)
  | [], [] => rfl
  | _ :: _, [] => rfl
  | [], _ :: _ => rfl
  | x :: xs, y :: ys => by
    have h := bytesLess_eq xs ys
    show (decide (x < y) || (x == y && Op.bytesLess xs ys)) = decide ((if x < y then -1 else if y < x then 1 else Go.Lib.compareBytes xs ys) < 0)
    by_cases h1 : x < y
    · rw [if_pos h1, decide_eq_true h1]; rfl
    · rw [if_neg h1, decide_eq_false h1, Bool.false_or]
      by_cases h2 : y < x
      · rw [if_pos h2, beq_eq_false_iff_ne.2 (fun e => by subst e; exact h1 h2)]; rfl
      · have e : x = y := UInt8.toNat_inj.1 (by have := mt UInt8.lt_iff_toNat_lt.2 h1; have := mt UInt8.lt_iff_toNat_lt.2 h2; omega)
        rw [if_neg h2, beq_iff_eq.2 e, Bool.true_and, h]
theorem less_eq (a b : Ac) : lessR a b = decide (cmpA a b < 0) := by
  unfold lessR cmpA cmpsA
  by_cases h1 : a.school = b.school
  case neg => rw [if_neg h1, nz1 (fun e => h1 ((cmpI_0 _ _).1 e))]; exact decide_eq_decide.2 (cmpI_neg' _ _).symm
  rw [if_pos h1, nz0 ((cmpI_0 _ _).2 h1)]
  by_cases h2 : a.code = b.code
  case neg => rw [if_neg h2, nz1 (fun e => h2 ((cmpS_0 _ _).1 e)), bytesLess_eq, ByteArray.toList_eq, ByteArray.toList_eq]
  rw [if_pos h2, nz0 ((cmpS_0 _ _).2 h2)]
  by_cases h3 : a.day = b.day
  case neg => rw [if_neg h3, nz1 (fun e => h3 ((cmpI_0 _ _).1 e))]; exact decide_eq_decide.2 (cmpI_neg' _ _).symm
  rw [if_pos h3, nz0 ((cmpI_0 _ _).2 h3)]
  by_cases h4 : cmpLs a.src b.src = 0
  case neg => rw [if_neg h4, nz1 h4]
  rw [if_pos h4, nz0 h4]
  by_cases h5 : cmpLs a.path b.path = 0
  case neg => rw [if_neg h5, nz1 h5]
  rw [if_pos h5, nz0 h5]
  by_cases h6 : a.bundle = b.bundle
  case neg => rw [if_neg h6, nz1 (fun e => h6 ((cmpI_0 _ _).1 e))]; exact decide_eq_decide.2 (cmpI_neg' _ _).symm
  rw [if_pos h6, nz0 ((cmpI_0 _ _).2 h6)]
  by_cases h7 : a.credits = b.credits
  case neg => rw [if_neg h7, nz1 (fun e => h7 ((cmpI_0 _ _).1 e))]; exact decide_eq_decide.2 (cmpI_neg' _ _).symm
  rw [if_pos h7, nz0 ((cmpI_0 _ _).2 h7)]
  by_cases h8 : a.grade = b.grade
  · rw [nz0 ((cmpI_0 _ _).2 h8)]; exact decide_eq_decide.2 ⟨fun h => by omega, fun h => by simp [firstNZ] at h⟩
  · rw [nz1 (fun e => h8 ((cmpI_0 _ _).1 e))]; exact decide_eq_decide.2 (cmpI_neg' _ _).symm
theorem frP_iff : ∀ l : List Ac, frP l = true ↔ l.Pairwise fun a b => apP a b = true
  | [] => by simp [frP]
  | a :: l => by
    rw [List.pairwise_cons, frP, Bool.and_eq_true, frP_iff l]
    refine and_congr_left fun _ => ?_
    simp
theorem frR_iff (l : List Ac) : frR l = true ↔ l.Pairwise fun a b => apP a b = true := by
  rw [List.pairwise_iff_getElem]
  unfold frR
  rw [List.all_eq_true]
  constructor
  · intro h i j hi hj hij
    have := List.all_eq_true.1 (h j (by simpa using hj)) l[i] (List.mem_take_iff_getElem.2 ⟨i, by omega, rfl⟩)
    rw [List.getD_eq_getElem?_getD, List.getElem?_eq_getElem hj] at this
    exact this
  · intro h k hk
    have hk : k < l.length := by simpa using hk
    refine List.all_eq_true.2 fun a ha => ?_
    obtain ⟨i, hi, rfl⟩ := List.mem_take_iff_getElem.1 ha
    rw [List.getD_eq_getElem?_getD, List.getElem?_eq_getElem hk]
    exact h i k (by omega) hk (by omega)
theorem free_eq (l : List Ac) : frR l = frP l := by rw [Bool.eq_iff_iff, frR_iff, frP_iff]
end En
end Go.Proofs.Ytiefcppgbnfbfaa
namespace Go.Proofs.Ytiefcppgbnfbfaa
open Go.Proofs.Ytiefcppgbnfbfaa.Am
set_option maxRecDepth 100000
namespace En
/-! ### Made achievements -/
/-- What is known of a made achievement. -/
def okM (a : Ach) : Prop := (a.bundle = 0 ∧ pthL a.path = [] ∨ (1 ≤ a.bundle ∧ a.bundle ≤ 3) ∧ pthL a.path = [a.bundle]) ∧ a.src.2.length ≤ 2
structure MdA (i : Nat) (out : List Ach) : Prop where
  len : out.length ≤ i
  ok : ∀ a ∈ out, okM a
theorem MdA.add {i : Nat} {out : List Ach} {a : Ach} (h : MdA i out) (k : okM a) : MdA (i + 1) (out ++ [a]) := by
  refine ⟨by have := h.len; simp; omega, fun x hx => ?_⟩
  rcases List.mem_append.1 hx with h1 | h1
  · exact h.ok x h1
  · simp only [List.mem_cons, List.not_mem_nil, or_false] at h1
    subst h1; exact k
abbrev mdR (L : List (Fl × List Int)) (fl : Fl) (i : Nat) (out : List Ach) (fx : Fl) (xs : List Int) (at_ : Nat) (a : Ach) : AS :=
  ⟨[(0, .ro fl 1 (L.map iA)), (3, .slm {} 0 8 0 out.length), (4, int i), (5, .ptr 1 2 0 0), (6, .ptr 2 8 0 0)], [(0, .row 8 aty (out.map achA)), (1, drawB fx xs at_), (2, .row 8 aty [achA a])], 3⟩
abbrev mdR7 (L : List (Fl × List Int)) (fl : Fl) (i : Nat) (out : List Ach) (fx : Fl) (xs : List Int) (at_ : Nat) (a : Ach) (n : Int) : AS :=
  ⟨[(0, .ro fl 1 (L.map iA)), (3, .slm {} 0 8 0 out.length), (4, int i), (5, .ptr 1 2 0 0), (6, .ptr 2 8 0 0), (7, int n)], [(0, .row 8 aty (out.map achA)), (1, drawB fx xs at_), (2, .row 8 aty [achA a])], 3⟩
abbrev mdS (L : List (Fl × List Int)) (fl : Fl) : Nat × List Ach → AS
  | (i, out) => ⟨[(0, .ro fl 1 (L.map iA)), (3, .slm {} 0 8 0 out.length), (4, int i)], [(0, .row 8 aty (out.map achA))], 1⟩
theorem cred_get (n : Int) (h : 0 ≤ n ∧ n < 3) : ∃ c : Int, int c = ([int 5, int 6, int 10] : List AV).getD n.toNat (.sc undef) := by
  obtain ⟨m, rfl⟩ : ∃ m : Nat, n = m := ⟨n.toNat, by omega⟩
  have : m = 0 ∨ m = 1 ∨ m = 2 := by omega
  rcases this with rfl | rfl | rfl <;> exact ⟨_, rfl⟩
set_option maxHeartbeats 16000000 in
set_option maxRecDepth 100000 in
theorem Made_f (L : List (Fl × List Int)) (fl : Fl) (hL : L.length ≤ 9223372036854775807) (hxs : ∀ x ∈ L, x.2.length ≤ 9223372036854775807) : ∃ l : List Ach, MdA 8 l ∧ AFun Try.prog 19 0 [.ro fl 1 (L.map iA)] [] (.slm {} 0 8 0 l.length) [(0, .row 8 aty (l.map achA))] := by
  refine AFun.of_SE T_ok mixed (H' := fun l : List Ach => [(0, .row 8 aty (l.map achA))]) Try.func19 rfl (Nat.le_of_ble_eq_true rfl) rfl ?_
  have hml : (L.map iA).length = L.length := List.length_map _
  ((repeat ((conv => whnf); (first | (refine As.pre ?_; first | refine As.mk rfl ?_) | (refine Ck.pre ?_; first | refine Ck.mk rfl ?_)))); (try (conv => whnf)))
  refine LoopN.weak (s1 := mdS L fl (0, [])) ?sw1 ?_
  case sw1 => exact SW.mk id rfl rfl rfl ⟨.refl _, VLe2.nilslm, .refl _, trivial⟩ (haveV.nil (Nat.le_refl _) trivial)
  refine LoopN.indS (S := mdS L fl) (fun i => 8 - i.1) (fun i => i.1 ≤ 8 ∧ MdA i.1 i.2) (fun i hi ih => ?_) (0, []) ⟨Nat.zero_le _, Nat.zero_le _, fun a h => absurd h List.not_mem_nil⟩
  obtain ⟨i, out⟩ := i
  obtain ⟨h1, h3⟩ := hi
  simp only at h1 h3 ih
  have hfin : MdA 8 out := ⟨by have := h3.len; omega, h3.ok⟩
  by_cases hlt : i < L.length
  case neg =>
    clear ih
    refine VS.of_V T_ok mixed rfl ?_
    ((repeat ((conv => whnf); (first | (refine As.pre ?_; first | refine As.mk rfl ?_) | (refine LetI.pre ?_; first | refine LetI.mk _ rfl ?_) | (refine LetB.pre ?_; first | refine LetB.decf (by omega) ?_) | (refine Gd.pre ?_; first | refine Gd.pass rfl ?_) | (refine Br.pre ?_; first | refine Br.ff rfl ?_) | (refine Ck.pre ?_; first | refine Ck.mk rfl ?_)))); (try (conv => whnf)))
    exact ⟨out, hfin, ⟨[(2, .slm {} 0 8 0 out.length)], [(0, .row 8 aty (out.map achA))], 1⟩, SW.mk id rfl rfl (namesAll.row (pure_ach _) rfl) ⟨.refl _, trivial⟩ (haveV.row (pure_ach _) rfl trivial), .inl rfl, ⟨_, rfl, rfl⟩, rfl, trivial⟩
  by_cases h8 : i < 8
  case neg =>
    clear ih
    refine VS.of_V T_ok mixed rfl ?_
    ((repeat ((conv => whnf); (first | (refine As.pre ?_; first | refine As.mk rfl ?_) | (refine LetI.pre ?_; first | refine LetI.mk _ rfl ?_) | (refine LetB.pre ?_; first | refine LetB.dect (by omega) ?_ | refine LetB.decf (by omega) ?_) | (refine Gd.pre ?_; first | refine Gd.run rfl ?_) | (refine Br.pre ?_; first | refine Br.ff rfl ?_) | (refine Ck.pre ?_; first | refine Ck.mk rfl ?_)))); (try (conv => whnf)))
    exact ⟨out, hfin, ⟨[(2, .slm {} 0 8 0 out.length)], [(0, .row 8 aty (out.map achA))], 1⟩, SW.mk id rfl rfl (namesAll.row (pure_ach _) rfl) ⟨.refl _, trivial⟩ (haveV.row (pure_ach _) rfl trivial), .inl rfl, ⟨_, rfl, rfl⟩, rfl, trivial⟩
  have hld : iA (L.getD i L0) = (L.map iA).getD i (.sc undef) := mapD L0 hlt
  have hx := hxs (L.getD i L0) (by rw [List.getD_eq_getElem?_getD, List.getElem?_eq_getElem hlt]; exact List.getElem_mem _)
  generalize L.getD i L0 = x at hld hx
  obtain ⟨fx, xs⟩ := x
  simp only at hx hld
  obtain ⟨v0, a0, r0, q0, N0⟩ := made_next fx xs hx 0 6 (Nat.zero_le _) (by omega)
  obtain ⟨v1, a1, r1, q1, N1⟩ := made_next fx xs hx a0 3 q0 (by omega)
  obtain ⟨v2, a2, r2, q2, N2⟩ := made_next fx xs hx a1 11 q1 (by omega)
  obtain ⟨v3, a3, r3, q3, N3⟩ := made_next fx xs hx a2 60 q2 (by omega)
  obtain ⟨v4, a4, r4, q4, N4⟩ := made_next fx xs hx a3 9 q3 (by omega)
  obtain ⟨v5, a5, r5, q5, N5⟩ := made_next fx xs hx a4 3 q4 (by omega)
  obtain ⟨v6, a6, r6, q6, N6⟩ := made_next fx xs hx a5 3 q5 (by omega)
  obtain ⟨v7, a7, r7, q7, N7⟩ := made_next fx xs hx a6 4 q6 (by omega)
  obtain ⟨v8, a8, r8, q8, N8⟩ := made_next fx xs hx a7 3 q7 (by omega)
  obtain ⟨v9, a9, r9, q9, N9⟩ := made_next fx xs hx a8 3 q8 (by omega)
  obtain ⟨v10, a10, r10, q10, N10⟩ := made_next fx xs hx a8 3 q8 (by omega)
  obtain ⟨v11, a11, r11, q11, N11⟩ := made_next fx xs hx a9 3 q9 (by omega)
  obtain ⟨s, hs2, hs⟩ := codes_get v0 r0
  obtain ⟨c, hc⟩ := cred_get v1 r1
  have hlen := h3.len
  have hcl : (codesL.map str).length = 6 := rfl
  have hr := room_ach (n := out.length + 1) (by omega)
  have hol2 : (out.map achA).length = out.length := List.length_map _
  refine VS.cut T_ok mixed rfl ?_
  ((repeat ((conv => whnf); (first | (refine As.pre ?_; first | refine As.mk rfl ?_) | (refine LetI.pre ?_; first | refine LetI.mk _ rfl ?_) | (refine LetB.pre ?_; first | refine LetB.dect (by omega) ?_) | (refine Gd.pre ?_; first | refine Gd.run rfl ?_) | (refine Br.pre ?_; first | refine Br.tt rfl ?_) | (refine Ck.pre ?_; first | refine Ck.mk rfl ?_)))); (try (conv => whnf)))
  refine VS.seq (VS.block ?_)
  refine VS.cut T_ok mixed rfl ?_
  ((repeat ((conv => whnf); (first | (refine LetN.pre ?_; first | ((conv => arg 1; whnf); refine LetN.mk ?_)) | (refine As.pre ?_; first | refine As.mk rfl ?_ | (refine As.mk ?_ ?_; · ((repeat' (refine andT ?_ ?_)) <;> (first | rfl | assumption | exact decide_eq_true (by omega) | exact decide_eq_true (by dsimp only; omega) | exact decide_eq_true (by simp; omega) | (simp; done))))) | (refine LetV.pre ?_; first | refine LetV.mk (t := 50) _ hld ?_ | refine LetV.mk (.ro _ _ _) rfl ?_) | (refine Ck.pre ?_; first | refine Ck.mk rfl ?_)))); (try (conv => whnf)))





  refine VS.cut T_ok mixed rfl ?_
  ((repeat ((conv => whnf); (first | (refine LetN.pre ?_; first | ((conv => arg 1; whnf); refine LetN.mk ?_)) | (refine As.pre ?_; first | refine As.mk rfl ?_ | (refine As.mk ?_ ?_; · ((repeat' (refine andT ?_ ?_)) <;> (first | rfl | assumption | exact decide_eq_true (by omega) | exact decide_eq_true (by dsimp only; omega) | exact decide_eq_true (by simp; omega) | (simp; done))))) | (refine LetV.pre ?_; first | refine LetV.mk (t := 72) _ hs ?_ | refine LetV.mk (.sc _) rfl ?_) | (refine Ck.pre ?_; first | refine Ck.mk rfl ?_) | (refine LetL.pre ?_; first | refine LetL.mk (ty := aty) [.agg [_, _, _, _, _, _, _, _]] rfl ?_ | refine LetL.mk [_] rfl ?_) | (refine CallN.pre ?_; first | refine CallN.pure Codes_f rfl rfl ?_ | refine CallN.own (fun _ => 1) N0 (CallOk.mk' rfl rfl rfl (namesAll.row rfl rfl) rfl (namesAll.row rfl rfl) (haveAll.row rfl rfl trivial)) ?_)))); (try (conv => whnf)))






  refine VS.cut T_ok mixed rfl ?_
  ((repeat ((conv => whnf); (first | (refine LetN.pre ?_; first | ((conv => arg 1; whnf); refine LetN.mk ?_)) | (refine As.pre ?_; first | refine As.mk rfl ?_ | (refine As.mk ?_ ?_; · ((repeat' (refine andT ?_ ?_)) <;> (first | rfl | assumption | exact decide_eq_true (by omega) | exact decide_eq_true (by dsimp only; omega) | exact decide_eq_true (by simp; omega) | (simp; done))))) | (refine LetV.pre ?_; first | refine LetV.mk (t := 22) _ hc ?_ | refine LetV.mk (.sc (.int _ _)) rfl ?_) | (refine Ck.pre ?_; first | refine Ck.mk rfl ?_) | (refine LetL.pre ?_; first | refine LetL.mk (ty := aty) [.agg [_, _, _, _, _, _, _, _]] rfl ?_ | refine LetL.mk [_] rfl ?_) | (refine CallN.pre ?_; first | refine CallN.own (fun _ => 1) N1 (CallOk.mk' rfl rfl rfl (namesAll.row rfl rfl) rfl (namesAll.row rfl rfl) (haveAll.row rfl rfl trivial)) ?_)))); (try (conv => whnf)))






  refine VS.cut T_ok mixed rfl ?_
  ((repeat ((conv => whnf); (first | (refine LetN.pre ?_; first | ((conv => arg 1; whnf); refine LetN.mk ?_)) | (refine As.pre ?_; first | refine As.mk rfl ?_) | (refine LetI.pre ?_; first | refine LetI.wrap (by omega) (by omega) ?_) | (refine Ck.pre ?_; first | refine Ck.mk rfl ?_) | (refine LetL.pre ?_; first | refine LetL.mk (ty := aty) [.agg [_, _, _, _, _, _, _, _]] rfl ?_ | refine LetL.mk [_] rfl ?_) | (refine CallN.pre ?_; first | refine CallN.own (fun _ => 1) N2 (CallOk.mk' rfl rfl rfl (namesAll.row rfl rfl) rfl (namesAll.row rfl rfl) (haveAll.row rfl rfl trivial)) ?_)))); (try (conv => whnf)))






  refine VS.cut T_ok mixed rfl ?_
  ((repeat ((conv => whnf); (first | (refine LetN.pre ?_; first | ((conv => arg 1; whnf); refine LetN.mk ?_)) | (refine As.pre ?_; first | refine As.mk rfl ?_) | (refine LetI.pre ?_; first | refine LetI.wrap (by omega) (by omega) ?_) | (refine Ck.pre ?_; first | refine Ck.mk rfl ?_) | (refine LetL.pre ?_; first | refine LetL.mk (ty := aty) [.agg [_, _, _, _, _, _, _, _]] rfl ?_ | refine LetL.mk [_] rfl ?_) | (refine CallN.pre ?_; first | refine CallN.own (fun _ => 1) N3 (CallOk.mk' rfl rfl rfl (namesAll.row rfl rfl) rfl (namesAll.row rfl rfl) (haveAll.row rfl rfl trivial)) ?_)))); (try (conv => whnf)))






  refine VS.cut T_ok mixed rfl ?_
  ((repeat ((conv => whnf); (first | (refine LetN.pre ?_; first | ((conv => arg 1; whnf); refine LetN.mk ?_)) | (refine As.pre ?_; first | refine As.mk rfl ?_) | (refine LetI.pre ?_; first | refine LetI.wrap (by omega) (by omega) ?_) | (refine Ck.pre ?_; first | refine Ck.mk rfl ?_) | (refine LetL.pre ?_; first | refine LetL.mk (ty := aty) [.agg [_, _, _, _, _, _, _, _]] rfl ?_ | refine LetL.mk [_] rfl ?_) | (refine CallN.pre ?_; first | refine CallN.own (fun _ => 1) N4 (CallOk.mk' rfl rfl rfl (namesAll.row rfl rfl) rfl (namesAll.row rfl rfl) (haveAll.row rfl rfl trivial)) ?_)))); (try (conv => whnf)))






  refine VS.weak (s1 := mdR L fl i out fx xs a4 ⟨1, s, c, 50 + 5 * v2, 10 * v3, (⟨true, true⟩, [1000001 + v4]), 0, none⟩) ?swa ?_
  case swa => exact SW.mk id rfl rfl (namesAll.row (pure_ach _) (namesAll.row rfl (namesAll.row rfl rfl))) ⟨.refl _, .refl _, .refl _, .refl _, .refl _, trivial⟩ (haveV.row (pure_ach _) rfl (haveV.row rfl rfl (haveV.row rfl rfl trivial)))
  refine VS.seq ?_
  refine VS.cut T_ok mixed rfl ?_
  ((repeat ((conv => whnf); (first | (refine LetN.pre ?_; first | ((conv => arg 1; whnf); refine LetN.mk ?_)) | (refine As.pre ?_; first | refine As.mk rfl ?_) | (refine LetB.pre ?_; first | refine LetB.mk _ rfl ?_) | (refine Ck.pre ?_; first | refine Ck.mk rfl ?_) | (refine LetL.pre ?_; first | refine LetL.mk [_] rfl ?_) | (refine CallN.pre ?_; first | refine CallN.own (fun _ => 1) N5 (CallOk.mk' rfl rfl rfl (namesAll.row rfl rfl) rfl (namesAll.row rfl rfl) (haveAll.row rfl rfl trivial)) ?_)))); (try (conv => whnf)))






  by_cases h5 : v5 = 0
  case neg =>
    rw [show (v5 == 0) = false from beq_eq_false_iff_ne.2 h5]
    refine VS.condF rfl rfl (VS.skip ?_)
    refine VS.weak (s1 := mdR L fl i out fx xs a5 ⟨1, s, c, 50 + 5 * v2, 10 * v3, (⟨true, true⟩, [1000001 + v4]), 0, none⟩) ?swb ?_
    case swb => exact SW.mk id rfl rfl (namesAll.row (pure_ach _) (namesAll.row rfl (namesAll.row rfl rfl))) ⟨.refl _, .refl _, .refl _, .refl _, .refl _, trivial⟩ (haveV.row (pure_ach _) rfl (haveV.row rfl rfl (haveV.row rfl rfl trivial)))
    refine VS.of_V T_ok mixed rfl ?_
    ((repeat ((conv => whnf); (first | (refine LetN.pre ?_; first | ((conv => arg 1; whnf); refine LetN.mk ?_)) | (refine As.pre ?_; first | refine As.mk rfl ?_ | (refine As.mk ?_ ?_; · ((repeat' (refine andT ?_ ?_)) <;> (first | rfl | assumption | exact decide_eq_true (by omega) | exact decide_eq_true (by dsimp only; omega) | exact decide_eq_true (by simp; omega) | (simp; done))))) | (refine LetV.pre ?_; first | refine LetV.mk (.agg _) rfl ?_) | (refine Ck.pre ?_; first | refine Ck.mk rfl ?_) | (refine LetL.pre ?_; first | refine LetL.mk (ty := aty) _ (app_ach out (⟨1, s, c, 50 + 5 * v2, 10 * v3, (⟨true, true⟩, [1000001 + v4]), 0, none⟩) _ rfl) ?_)))); (try (conv => whnf)))






    refine VS.of_V T_ok mixed rfl ?_
    ((repeat ((conv => whnf); (first | (refine As.pre ?_; first | refine As.mk rfl ?_) | (refine LetI.pre ?_; first | refine LetI.wrap (by omega) (by omega) ?_) | (refine Ck.pre ?_; first | refine Ck.mk rfl ?_)))); (try (conv => whnf)))
    refine LoopN.weak ?sw1 (ih (i + 1, out ++ [⟨1, s, c, 50 + 5 * v2, 10 * v3, (⟨true, true⟩, [1000001 + v4]), 0, none⟩]) ⟨by omega, h3.add ⟨.inl ⟨rfl, rfl⟩, Nat.le_of_ble_eq_true rfl⟩⟩ (by omega))
    case sw1 => exact SW.mk (fun _ => 3) rfl rfl (namesAll.row (pure_ach _) rfl) ⟨.refl _, VLe2.slm_of (by simp), VLe2.int (by omega), trivial⟩ (haveV.row (pure_ach _) rfl trivial)
  rw [show (v5 == 0) = true from beq_iff_eq.2 h5]
  refine VS.condT rfl rfl ?_
  refine VS.cut T_ok mixed rfl ?_
  ((repeat ((conv => whnf); (first | (refine LetN.pre ?_; first | ((conv => arg 1; whnf); refine LetN.mk ?_)) | (refine As.pre ?_; first | refine As.mk rfl ?_) | (refine LetI.pre ?_; first | refine LetI.wrap (by omega) (by omega) ?_) | (refine Ck.pre ?_; first | refine Ck.mk rfl ?_) | (refine LetL.pre ?_; first | refine LetL.mk (ty := aty) [.agg [_, _, _, _, _, _, _, _]] rfl ?_ | refine LetL.mk [_] rfl ?_) | (refine CallN.pre ?_; first | refine CallN.own (fun _ => 1) N6 (CallOk.mk' rfl rfl rfl (namesAll.row rfl rfl) rfl (namesAll.row rfl rfl) (haveAll.row rfl rfl trivial)) ?_)))); (try (conv => whnf)))






  refine VS.cut T_ok mixed rfl ?_
  ((repeat ((conv => whnf); (first | (refine LetN.pre ?_; first | ((conv => arg 1; whnf); refine LetN.mk ?_)) | (refine As.pre ?_; first | refine As.mk rfl ?_) | (refine LetI.pre ?_; first | refine LetI.wrap (by omega) (by omega) ?_) | (refine Ck.pre ?_; first | refine Ck.mk rfl ?_) | (refine LetL.pre ?_; first | refine LetL.mk [_] rfl ?_) | (refine CallN.pre ?_; first | refine CallN.own (fun _ => 1) N7 (CallOk.mk' rfl rfl rfl (namesAll.row rfl rfl) rfl (namesAll.row rfl rfl) (haveAll.row rfl rfl trivial)) ?_)))); (try (conv => whnf)))






  refine VS.cut T_ok mixed rfl ?_
  ((repeat ((conv => whnf); (first | (refine LetN.pre ?_; first | ((conv => arg 1; whnf); refine LetN.mk ?_)) | (refine As.pre ?_; first | refine As.mk rfl ?_) | (refine Ck.pre ?_; first | refine Ck.mk rfl ?_) | (refine LetL.pre ?_; first | refine LetL.mk (ty := aty) [.agg [_, _, _, _, _, _, _, _]] rfl ?_)))); (try (conv => whnf)))





  refine VS.weak (s1 := mdR7 L fl i out fx xs a7 ⟨1 + v6, s, c, 50 + 5 * v2, 10 * v3, (⟨true, true⟩, [2000001 + v7]), 0, none⟩ (2000001 + v7)) ?swc ?_
  case swc => exact SW.mk id rfl rfl (namesAll.row (pure_ach _) (namesAll.row rfl (namesAll.row rfl rfl))) ⟨.refl _, .refl _, .refl _, .refl _, .refl _, .refl _, trivial⟩ (haveV.row (pure_ach _) rfl (haveV.row rfl rfl (haveV.row rfl rfl trivial)))
  refine VS.seq ?_
  refine VS.cut T_ok mixed rfl ?_
  ((repeat ((conv => whnf); (first | (refine LetN.pre ?_; first | ((conv => arg 1; whnf); refine LetN.mk ?_)) | (refine As.pre ?_; first | refine As.mk rfl ?_) | (refine LetB.pre ?_; first | refine LetB.mk _ rfl ?_) | (refine Ck.pre ?_; first | refine Ck.mk rfl ?_) | (refine LetL.pre ?_; first | refine LetL.mk [_] rfl ?_) | (refine CallN.pre ?_; first | refine CallN.own (fun _ => 1) N8 (CallOk.mk' rfl rfl rfl (namesAll.row rfl rfl) rfl (namesAll.row rfl rfl) (haveAll.row rfl rfl trivial)) ?_)))); (try (conv => whnf)))






  by_cases h8 : v8 = 0
  case neg =>
    rw [show (v8 == 0) = false from beq_eq_false_iff_ne.2 h8]
    refine VS.condF rfl rfl (VS.skip ?_)
    refine VS.weak (s1 := mdR L fl i out fx xs a8 ⟨1 + v6, s, c, 50 + 5 * v2, 10 * v3, (⟨true, true⟩, [2000001 + v7]), 0, none⟩) ?swd ?_
    case swd => exact SW.mk id rfl rfl (namesAll.row (pure_ach _) (namesAll.row rfl (namesAll.row rfl rfl))) ⟨.refl _, .refl _, .refl _, .refl _, .refl _, trivial⟩ (haveV.row (pure_ach _) rfl (haveV.row rfl rfl (haveV.row rfl rfl trivial)))
    refine VS.cut T_ok mixed rfl ?_
    ((repeat ((conv => whnf); (first | (refine LetN.pre ?_; first | ((conv => arg 1; whnf); refine LetN.mk ?_)) | (refine As.pre ?_; first | refine As.mk rfl ?_) | (refine LetI.pre ?_; first | refine LetI.wrap (by omega) (by omega) ?_) | (refine Ck.pre ?_; first | refine Ck.mk rfl ?_) | (refine LetL.pre ?_; first | refine LetL.mk (ty := aty) [.agg [_, _, _, _, _, _, _, _]] rfl ?_ | refine LetL.mk [_] rfl ?_) | (refine CallN.pre ?_; first | refine CallN.own (fun _ => 1) N10 (CallOk.mk' rfl rfl rfl (namesAll.row rfl rfl) rfl (namesAll.row rfl rfl) (haveAll.row rfl rfl trivial)) ?_)))); (try (conv => whnf)))






    refine VS.of_V T_ok mixed rfl ?_
    ((repeat ((conv => whnf); (first | (refine LetN.pre ?_; first | ((conv => arg 1; whnf); refine LetN.mk ?_)) | (refine As.pre ?_; first | refine As.mk rfl ?_) | (refine LetV.pre ?_; first | refine LetV.mk (.sc (.int _ _)) rfl ?_) | (refine Ck.pre ?_; first | refine Ck.mk rfl ?_) | (refine LetL.pre ?_; first | refine LetL.mk (ty := aty) [.agg [_, _, _, _, _, _, _, _]] rfl ?_)))); (try (conv => whnf)))





    refine VS.weak (s1 := mdR L fl i out fx xs a10 ⟨1 + v6, s, c, 50 + 5 * v2, 10 * v3, (⟨true, true⟩, [2000001 + v7]), 1 + v10, some (⟨true, true⟩, [1 + v10])⟩) ?swe ?_
    case swe => exact SW.mk id rfl rfl (namesAll.row (pure_ach _) (namesAll.row rfl (namesAll.row rfl rfl))) ⟨.refl _, .refl _, .refl _, .refl _, .refl _, trivial⟩ (haveV.row (pure_ach _) rfl (haveV.row rfl rfl (haveV.row rfl rfl trivial)))
    refine VS.of_V T_ok mixed rfl ?_
    ((repeat ((conv => whnf); (first | (refine LetN.pre ?_; first | ((conv => arg 1; whnf); refine LetN.mk ?_)) | (refine As.pre ?_; first | refine As.mk rfl ?_ | (refine As.mk ?_ ?_; · ((repeat' (refine andT ?_ ?_)) <;> (first | rfl | assumption | exact decide_eq_true (by omega) | exact decide_eq_true (by dsimp only; omega) | exact decide_eq_true (by simp; omega) | (simp; done))))) | (refine LetV.pre ?_; first | refine LetV.mk (.agg _) rfl ?_) | (refine Ck.pre ?_; first | refine Ck.mk rfl ?_) | (refine LetL.pre ?_; first | refine LetL.mk (ty := aty) _ (app_ach out (⟨1 + v6, s, c, 50 + 5 * v2, 10 * v3, (⟨true, true⟩, [2000001 + v7]), 1 + v10, some (⟨true, true⟩, [1 + v10])⟩) _ rfl) ?_)))); (try (conv => whnf)))






    refine VS.of_V T_ok mixed rfl ?_
    ((repeat ((conv => whnf); (first | (refine As.pre ?_; first | refine As.mk rfl ?_) | (refine LetI.pre ?_; first | refine LetI.wrap (by omega) (by omega) ?_) | (refine Ck.pre ?_; first | refine Ck.mk rfl ?_)))); (try (conv => whnf)))
    refine LoopN.weak ?sw2 (ih (i + 1, out ++ [⟨1 + v6, s, c, 50 + 5 * v2, 10 * v3, (⟨true, true⟩, [2000001 + v7]), 1 + v10, some (⟨true, true⟩, [1 + v10])⟩]) ⟨by omega, h3.add ⟨.inr ⟨⟨by show (1 : Int) ≤ 1 + v10; omega, by show 1 + v10 ≤ (3 : Int); omega⟩, rfl⟩, Nat.le_of_ble_eq_true rfl⟩⟩ (by omega))
    case sw2 => exact SW.mk (fun _ => 3) rfl rfl (namesAll.row (pure_ach _) rfl) ⟨.refl _, VLe2.slm_of (by simp), VLe2.int (by omega), trivial⟩ (haveV.row (pure_ach _) rfl trivial)
  rw [show (v8 == 0) = true from beq_iff_eq.2 h8]
  refine VS.condT rfl rfl ?_
  refine VS.of_V T_ok mixed rfl ?_
  ((repeat ((conv => whnf); (first | (refine LetN.pre ?_; first | ((conv => arg 1; whnf); refine LetN.mk ?_)) | (refine As.pre ?_; first | refine As.mk rfl ?_) | (refine LetI.pre ?_; first | refine LetI.wrap (by omega) (by omega) ?_) | (refine Ck.pre ?_; first | refine Ck.mk rfl ?_) | (refine LetL.pre ?_; first | refine LetL.mk (ty := aty) [.agg [_, _, _, _, _, _, _, _]] rfl ?_ | refine LetL.mk [_] rfl ?_) | (refine CallN.pre ?_; first | refine CallN.own (fun _ => 1) N9 (CallOk.mk' rfl rfl rfl (namesAll.row rfl rfl) rfl (namesAll.row rfl rfl) (haveAll.row rfl rfl trivial)) ?_)))); (try (conv => whnf)))






  refine VS.weak (s1 := mdR L fl i out fx xs a9 ⟨1 + v6, s, c, 50 + 5 * v2, 10 * v3, (⟨true, true⟩, [2000001 + v7, 2000001 + v7 + 1 + v9]), 0, none⟩) ?swf ?_
  case swf => exact SW.mk id rfl rfl (namesAll.row (pure_ach _) (namesAll.row rfl (namesAll.row rfl rfl))) ⟨.refl _, .refl _, .refl _, .refl _, .refl _, trivial⟩ (haveV.row (pure_ach _) rfl (haveV.row rfl rfl (haveV.row rfl rfl trivial)))
  refine VS.cut T_ok mixed rfl ?_
  ((repeat ((conv => whnf); (first | (refine LetN.pre ?_; first | ((conv => arg 1; whnf); refine LetN.mk ?_)) | (refine As.pre ?_; first | refine As.mk rfl ?_) | (refine LetI.pre ?_; first | refine LetI.wrap (by omega) (by omega) ?_) | (refine Ck.pre ?_; first | refine Ck.mk rfl ?_) | (refine LetL.pre ?_; first | refine LetL.mk (ty := aty) [.agg [_, _, _, _, _, _, _, _]] rfl ?_ | refine LetL.mk [_] rfl ?_) | (refine CallN.pre ?_; first | refine CallN.own (fun _ => 1) N11 (CallOk.mk' rfl rfl rfl (namesAll.row rfl rfl) rfl (namesAll.row rfl rfl) (haveAll.row rfl rfl trivial)) ?_)))); (try (conv => whnf)))






  refine VS.of_V T_ok mixed rfl ?_
  ((repeat ((conv => whnf); (first | (refine LetN.pre ?_; first | ((conv => arg 1; whnf); refine LetN.mk ?_)) | (refine As.pre ?_; first | refine As.mk rfl ?_) | (refine LetV.pre ?_; first | refine LetV.mk (.sc (.int _ _)) rfl ?_) | (refine Ck.pre ?_; first | refine Ck.mk rfl ?_) | (refine LetL.pre ?_; first | refine LetL.mk (ty := aty) [.agg [_, _, _, _, _, _, _, _]] rfl ?_)))); (try (conv => whnf)))





  refine VS.weak (s1 := mdR L fl i out fx xs a11 ⟨1 + v6, s, c, 50 + 5 * v2, 10 * v3, (⟨true, true⟩, [2000001 + v7, 2000001 + v7 + 1 + v9]), 1 + v11, some (⟨true, true⟩, [1 + v11])⟩) ?swg ?_
  case swg => exact SW.mk id rfl rfl (namesAll.row (pure_ach _) (namesAll.row rfl (namesAll.row rfl rfl))) ⟨.refl _, .refl _, .refl _, .refl _, .refl _, trivial⟩ (haveV.row (pure_ach _) rfl (haveV.row rfl rfl (haveV.row rfl rfl trivial)))
  refine VS.of_V T_ok mixed rfl ?_
  ((repeat ((conv => whnf); (first | (refine LetN.pre ?_; first | ((conv => arg 1; whnf); refine LetN.mk ?_)) | (refine As.pre ?_; first | refine As.mk rfl ?_ | (refine As.mk ?_ ?_; · ((repeat' (refine andT ?_ ?_)) <;> (first | rfl | assumption | exact decide_eq_true (by omega) | exact decide_eq_true (by dsimp only; omega) | exact decide_eq_true (by simp; omega) | (simp; done))))) | (refine LetV.pre ?_; first | refine LetV.mk (.agg _) rfl ?_) | (refine Ck.pre ?_; first | refine Ck.mk rfl ?_) | (refine LetL.pre ?_; first | refine LetL.mk (ty := aty) _ (app_ach out (⟨1 + v6, s, c, 50 + 5 * v2, 10 * v3, (⟨true, true⟩, [2000001 + v7, 2000001 + v7 + 1 + v9]), 1 + v11, some (⟨true, true⟩, [1 + v11])⟩) _ rfl) ?_)))); (try (conv => whnf)))






  refine VS.of_V T_ok mixed rfl ?_
  ((repeat ((conv => whnf); (first | (refine As.pre ?_; first | refine As.mk rfl ?_) | (refine LetI.pre ?_; first | refine LetI.wrap (by omega) (by omega) ?_) | (refine Ck.pre ?_; first | refine Ck.mk rfl ?_)))); (try (conv => whnf)))
  refine LoopN.weak ?sw3 (ih (i + 1, out ++ [⟨1 + v6, s, c, 50 + 5 * v2, 10 * v3, (⟨true, true⟩, [2000001 + v7, 2000001 + v7 + 1 + v9]), 1 + v11, some (⟨true, true⟩, [1 + v11])⟩]) ⟨by omega, h3.add ⟨.inr ⟨⟨by show (1 : Int) ≤ 1 + v11; omega, by show 1 + v11 ≤ (3 : Int); omega⟩, rfl⟩, Nat.le_of_ble_eq_true rfl⟩⟩ (by omega))
  case sw3 => exact SW.mk (fun _ => 3) rfl rfl (namesAll.row (pure_ach _) rfl) ⟨.refl _, VLe2.slm_of (by simp), VLe2.int (by omega), trivial⟩ (haveV.row (pure_ach _) rfl trivial)
end En
end Go.Proofs.Ytiefcppgbnfbfaa
namespace Go.Proofs.Ytiefcppgbnfbfaa.Am
open Go
/-- An owned row, told with less. -/
theorem AFun.rowle {P : Program} {f : FuncId} {p : Nat} {vs : List AV} {H : AH} {v : AV} {id E : Nat} {ty : TypeId} {es es' : List AV} (h : AFun P f p vs H v [(id, .row E ty es)]) (hl : es.length = es'.length) (hc : ∀ (i : Nat) (e' : AV), es'[i]? = some e' → ∃ e, es[i]? = some e ∧ VLe2L e.cells e'.cells) : AFun P f p vs H v [(id, .row E ty es')] := fun w g xs hn hx hH hN =>
  (h w g xs hn hx hH hN).mono fun e w' ⟨x, g', he, hA, hcv, hH'⟩ => by
    have g1 : ∀ {es : List AV} {j : Nat} {B : Blk}, AH.get [(id, Blk.row E ty es)] j = some B → j = id ∧ B = .row E ty es := fun {es j B} hg => by
      simp only [AH.get] at hg
      split at hg
      · rename_i e; injection hg with hg; exact ⟨e, hg.symm⟩
      · cases hg
    have g0 : ∀ {es : List AV}, AH.get [(id, Blk.row E ty es)] id = some (.row E ty es) := by simp [AH.get]
    refine ⟨x, g', he, ⟨hA.φ, hA.I, hA.sz, hA.ext, fun j B b F hi hb hlt => ?_, hA.imm⟩, hcv, ⟨fun j B hi => ?_, fun i j b F F' A B hi hj h1 h2 => ?_, fun j b F B hi h1 => ?_, hH'.lt⟩⟩
    · obtain ⟨rfl, rfl⟩ := g1 hi
      exact hA.own _ _ b F g0 hb hlt
    · obtain ⟨rfl, rfl⟩ := g1 hi
      obtain ⟨h0, hr⟩ := hH'.rel _ _ g0
      refine ⟨fun e he => ?_, ?_⟩
      · obtain ⟨i, hi⟩ := List.getElem?_of_mem he
        obtain ⟨d, hd, hle⟩ := hc i e hi
        rw [← hle.get.1]; exact h0 d (List.mem_of_getElem? hd)
      · rcases hr with ⟨h1, h2⟩ | ⟨b, cs, h1, h2, h3, h4⟩
        · exact .inl ⟨h1, List.eq_nil_of_length_eq_zero (by rw [← hl, h2]; rfl)⟩
        · refine .inr ⟨b, cs, h1, h2, by rw [← hl]; exact h3, fun i k e c hi hk => ?_⟩
          obtain ⟨d, hd, hle⟩ := hc i e hi
          obtain ⟨a, ha, hcl⟩ := hle.get.2 k c hk
          obtain ⟨y, hy, hcy⟩ := h4 i k d a hd ha
          exact ⟨y, hy, hcl _ _ _ hcy⟩
    · obtain ⟨rfl, rfl⟩ := g1 hi
      obtain ⟨rfl, rfl⟩ := g1 hj
      rfl
    · obtain ⟨rfl, rfl⟩ := g1 hi
      exact hH'.imm _ _ _ _ g0 h1
end Go.Proofs.Ytiefcppgbnfbfaa.Am
namespace Go.Proofs.Ytiefcppgbnfbfaa
open Go.Proofs.Ytiefcppgbnfbfaa.Am
set_option maxRecDepth 100000
namespace En
/-- What is known of a made achievement. -/
def okC (a : Ac) : Prop := (a.bundle = 0 ∧ a.path = [] ∨ (1 ≤ a.bundle ∧ a.bundle ≤ 3) ∧ a.path = [a.bundle]) ∧ a.src.length ≤ 2
theorem Made_c (L : List (Fl × List Int)) (fl : Fl) (hL : L.length ≤ 9223372036854775807) (hxs : ∀ x ∈ L, x.2.length ≤ 9223372036854775807) : ∃ l : List Ac, (l.length ≤ 8 ∧ ∀ a ∈ l, okC a) ∧ AFun Try.prog 19 0 [.ro fl 1 (L.map iA)] [] (.slm {} 0 8 0 l.length) [(0, .row 8 aty (l.map acA))] := by
  obtain ⟨l, h, hM⟩ := Made_f L fl hL hxs
  refine ⟨l.map Ach.ac, ⟨by rw [List.length_map]; exact h.len, fun a ha => ?_⟩, ?_⟩
  · obtain ⟨x, hx, rfl⟩ := List.mem_map.1 ha
    exact h.ok x hx
  · rw [List.length_map]
    refine hM.rowle (by simp) fun i e he => ?_
    rw [List.getElem?_map, List.getElem?_map] at he
    cases hx : l[i]? with
    | none => rw [hx] at he; cases he
    | some x =>
      rw [hx] at he
      injection he with he
      subst he
      exact ⟨achA x, by rw [List.getElem?_map, hx]; rfl, ac_le x⟩
abbrev ity : TypeId := 3
abbrev cpA (a : Ac) (es ps : List AV) : AV := .agg [int a.school, str a.code, int a.credits, int a.grade, int a.day, .slm ⟨false, true⟩ 3 1 0 (0 + es.length), int a.bundle, .slm ⟨false, true⟩ 5 1 0 (0 + ps.length)]
theorem stor_int (l : List Int) : storables (l.map int) = true := by
  refine List.all_eq_true.2 fun e he => ?_
  obtain ⟨x, _, rfl⟩ := List.mem_map.1 he
  rfl
set_option maxRecDepth 100000 in
theorem Copy_s (a : Ac) (es ps : List AV) (he : es.length ≤ 1000) (hp : ps.length ≤ 1000) (hse : storables es = true) (hsp : storables ps = true) : AFun Try.prog 53 0 [.agg [int a.school, str a.code, int a.credits, int a.grade, int a.day, .ro {} 1 es, int a.bundle, .ro {} 1 ps]] [] (cpA a es ps) [(3, .row 1 ity es), (5, .row 1 ity ps)] := by
  refine AFun.of_W T_ok mixed Try.func53 rfl (Nat.le_of_ble_eq_true rfl) rfl ?_
  have hr1 := room_int (n := 0 + es.length) (by omega)
  have hr2 := room_int (n := 0 + ps.length) (by omega)
  ((repeat ((conv => whnf); (first | (refine LetN.pre ?_; first | ((conv => arg 1; whnf); refine LetN.mk ?_)) | (refine As.pre ?_; first | refine As.mk rfl ?_ | (refine As.mk ?_ ?_; · ((repeat' (refine andT ?_ ?_)) <;> (first | rfl | assumption | exact decide_eq_true (by omega) | exact decide_eq_true (by dsimp only; omega) | exact decide_eq_true (by simp; omega) | (simp; done))))) | (refine LetV.pre ?_; first | refine LetV.mk (.agg _) rfl ?_ | refine LetV.mk (.ro _ _ _) rfl ?_) | (refine Ck.pre ?_; first | refine Ck.mk rfl ?_) | (refine LetL.pre ?_; first | refine LetL.mk (ty := aty) [.agg [_, _, _, _, _, _, _, _]] rfl ?_ | refine LetL.mk _ rfl ?_)))); (try (conv => whnf)))


  exact ⟨.inl rfl, ⟨_, rfl, rfl⟩, rfl, rfl, trivial⟩
/-- What Odd gives: one number more at the most. -/
def okO (a o : Ac) : Prop := o.src.length ≤ a.src.length + 1 ∧ o.path.length ≤ a.path.length + 1
theorem frzA {f : FuncId} {vs : List AV} {i j n m : Nat} {f1 f2 : Fl} (o : Ac) (h : AFun Try.prog f 0 vs [] (.agg [int o.school, str o.code, int o.credits, int o.grade, int o.day, .slm f1 i 1 0 n, int o.bundle, .slm f2 j 1 0 m]) [(i, .row 1 ity (o.src.map int)), (j, .row 1 ity (o.path.map int))]) (hij : i ≠ j) (hn : n = o.src.length) (hm : m = o.path.length) : AFun Try.prog f 0 vs [] (acA o) [] := by
  subst hn hm
  have h1 : AH.get [(i, Blk.row 1 ity (o.src.map int)), (j, .row 1 ity (o.path.map int))] i = some (.row 1 ity (o.src.map int)) := by simp [AH.get]
  have h2 : AH.get [(i, Blk.row 1 ity (o.src.map int)), (j, .row 1 ity (o.path.map int))] j = some (.row 1 ity (o.path.map int)) := by simp [AH.get, Ne.symm hij]
  have hF := AFun.frz [i, j] h (by simp [rowsOk, h1, h2, pure_int]) (by simp [AH.frzOk]) (by simp [AV.frzOk, AV.frzOkL, h1, h2])
  refine (hF.cast (v' := .agg [int o.school, str o.code, int o.credits, int o.grade, int o.day, ro1 f1 o.src, int o.bundle, ro1 f2 o.path]) (H' := []) ?_ ?_).res (CLe.agg ⟨.refl _, .refl _, .refl _, .refl _, .refl _, VLe2.ro_of rfl, .refl _, VLe2.ro_of rfl, trivial⟩)
  · simp [AV.frz, AV.frzL, h1, h2, List.take_of_length_le]
  · simp [AH.frz]
theorem word4 (n : Int) (h : 0 ≤ n ∧ n < 4) : ∃ s : ByteArray, str s = ([str ⟨#[65, 49]⟩, str ⟨#[66, 49]⟩, str ⟨#[]⟩, str ⟨#[65]⟩] : List AV).getD n.toNat (.sc undef) := by
  obtain ⟨m, rfl⟩ : ∃ m : Nat, n = m := ⟨n.toNat, by omega⟩
  have : m = 0 ∨ m = 1 ∨ m = 2 ∨ m = 3 := by omega
  rcases this with rfl | rfl | rfl | rfl <;> exact ⟨_, rfl⟩
theorem app_int (l : List Int) (e : Int) (n : Nat) (h : n = 0 + l.length) : (l ++ [e]).map int = (l.map int).take n ++ [int e] := by rw [List.take_of_length_le (by simp [h]), List.map_append]; rfl
set_option maxHeartbeats 1600000 in
set_option maxRecDepth 100000 in
theorem Odd_0 (a : Ac) (n : Int) (o : Ac) (ho : o = { a with school := n.tmod 9 }) (q : Int × Int) (ha : a.src.length ≤ 900 ∧ a.path.length ≤ 900) (hn2 : 0 ≤ n ∧ n < 40) (hn : (q.2.tmod 40 + 40).tmod 40 = n) (hm : (q.1.tmod 8 + 8).tmod 8 = 0) : AFun Try.prog 26 0 [acA a, .agg [int q.1, int q.2]] [] (acA o) [] := by
  refine frzA (i := 3) (j := 5) (n := (0 + (a.src.map int).length)) (m := (0 + (a.path.map int).length)) (f1 := ⟨false, true⟩) (f2 := ⟨false, true⟩) o ?_ (by decide) (by subst ho; simp) (by subst ho; simp)
  subst ho
  refine AFun.of_W T_ok mixed Try.func26 rfl (Nat.le_of_ble_eq_true rfl) rfl ?_
  have hC := Copy_s a (a.src.map int) (a.path.map int) (by simp; omega) (by simp; omega) (stor_int _) (stor_int _)
  have hok : CallOk 0 (fun i => i) _ _ _ _ [(0, .row 8 aty [acA a]), (1, .row 2 28 [.agg [int q.1, int q.2]]), (2, .row 8 aty [.agg [int 0, str ⟨#[]⟩, int 0, int 0, int 0, .sc (.slice none 0 0), int 0, .sc (.slice none 0 0)]])] _ := CallOk.mk' (vs := [acA a]) (H := []) (v := cpA a (a.src.map int) (a.path.map int)) (H' := [(3, .row 1 ity (a.src.map int)), (5, .row 1 ity (a.path.map int))]) rfl rfl rfl rfl rfl (namesAll.row (pure_int _) (namesAll.row (pure_int _) rfl)) trivial
  have hM1 := Mod_f q.2 40 (by omega)
  have hM2 := Mod_f q.1 8 (by omega)
  rw [hn] at hM1
  rw [hm] at hM2
  have b9 := tmod_bound n (m := 9) (by omega)
  have b5 := tmod_bound n (m := 5) (by omega)
  have b4 := tmod_bound n (m := 4) (by omega)
  have b3 := tmod_bound n (m := 3) (by omega)
  have p4 := tmod_pos 4 hn2.1
  have hl1 : (a.src.map int).length = a.src.length := List.length_map _
  have hl2 : (a.path.map int).length = a.path.length := List.length_map _
  have hr1 := room_int (n := (0 + (a.src.map int).length) + 1) (by omega)
  have hr2 := room_int (n := (0 + (a.path.map int).length) + 1) (by omega)
  ((repeat ((conv => whnf); (first | (refine LetN.pre ?_; first | ((conv => arg 1; whnf); refine LetN.mk ?_)) | (refine As.pre ?_; first | refine As.mk rfl ?_) | (refine LetV.pre ?_; first | refine LetV.mk (.sc (.int _ _)) rfl ?_ | refine LetV.mk (.agg _) rfl ?_) | (refine LetI.pre ?_; first | refine LetI.mk _ rfl ?_) | (refine LetB.pre ?_; first | refine LetB.tt rfl ?_) | (refine Br.pre ?_; first | refine Br.tt rfl ?_) | (refine Ck.pre ?_; first | refine Ck.mk rfl ?_) | (refine LetL.pre ?_; first | refine LetL.mk (ty := aty) [.agg [_, _, _, _, _, _, _, _]] rfl ?_ | refine LetL.mk (ty := ity) _ (renL_none (pure_int _)).symm ?_) | (refine CallN.pre ?_; first | refine CallN.own (fun i => i) hC hok ?_ | refine CallN.pure hM1 rfl rfl ?_ | refine CallN.pure hM2 rfl rfl ?_)))); (try (conv => whnf)))





  exact ⟨.inl rfl, ⟨_, rfl, rfl⟩, rfl, rfl, trivial⟩
set_option maxHeartbeats 1600000 in
set_option maxRecDepth 100000 in
theorem Odd_1 (a : Ac) (n : Int) (s : ByteArray) (hs : str s = ([str ⟨#[65, 49]⟩, str ⟨#[66, 49]⟩, str ⟨#[]⟩, str ⟨#[65]⟩] : List AV).getD (n.tmod 4).toNat (.sc undef)) (o : Ac) (ho : o = { a with code := s }) (q : Int × Int) (ha : a.src.length ≤ 900 ∧ a.path.length ≤ 900) (hn2 : 0 ≤ n ∧ n < 40) (hn : (q.2.tmod 40 + 40).tmod 40 = n) (hm : (q.1.tmod 8 + 8).tmod 8 = 1) : AFun Try.prog 26 0 [acA a, .agg [int q.1, int q.2]] [] (acA o) [] := by
  refine frzA (i := 3) (j := 5) (n := (0 + (a.src.map int).length)) (m := (0 + (a.path.map int).length)) (f1 := ⟨false, true⟩) (f2 := ⟨false, true⟩) o ?_ (by decide) (by subst ho; simp) (by subst ho; simp)
  subst ho
  refine AFun.of_W T_ok mixed Try.func26 rfl (Nat.le_of_ble_eq_true rfl) rfl ?_
  have hC := Copy_s a (a.src.map int) (a.path.map int) (by simp; omega) (by simp; omega) (stor_int _) (stor_int _)
  have hok : CallOk 0 (fun i => i) _ _ _ _ [(0, .row 8 aty [acA a]), (1, .row 2 28 [.agg [int q.1, int q.2]]), (2, .row 8 aty [.agg [int 0, str ⟨#[]⟩, int 0, int 0, int 0, .sc (.slice none 0 0), int 0, .sc (.slice none 0 0)]])] _ := CallOk.mk' (vs := [acA a]) (H := []) (v := cpA a (a.src.map int) (a.path.map int)) (H' := [(3, .row 1 ity (a.src.map int)), (5, .row 1 ity (a.path.map int))]) rfl rfl rfl rfl rfl (namesAll.row (pure_int _) (namesAll.row (pure_int _) rfl)) trivial
  have hM1 := Mod_f q.2 40 (by omega)
  have hM2 := Mod_f q.1 8 (by omega)
  rw [hn] at hM1
  rw [hm] at hM2
  have b9 := tmod_bound n (m := 9) (by omega)
  have b5 := tmod_bound n (m := 5) (by omega)
  have b4 := tmod_bound n (m := 4) (by omega)
  have b3 := tmod_bound n (m := 3) (by omega)
  have p4 := tmod_pos 4 hn2.1
  have hl1 : (a.src.map int).length = a.src.length := List.length_map _
  have hl2 : (a.path.map int).length = a.path.length := List.length_map _
  have hr1 := room_int (n := (0 + (a.src.map int).length) + 1) (by omega)
  have hr2 := room_int (n := (0 + (a.path.map int).length) + 1) (by omega)
  ((repeat ((conv => whnf); (first | (refine LetN.pre ?_; first | ((conv => arg 1; whnf); refine LetN.mk ?_)) | (refine As.pre ?_; first | refine As.mk rfl ?_ | (refine As.mk ?_ ?_; · ((repeat' (refine andT ?_ ?_)) <;> (first | rfl | assumption | exact decide_eq_true (by omega) | exact decide_eq_true (by dsimp only; omega) | exact decide_eq_true (by simp; omega) | (simp; done))))) | (refine LetV.pre ?_; first | refine LetV.mk (t := 72) _ hs ?_ | refine LetV.mk (.sc (.int _ _)) rfl ?_ | refine LetV.mk (.sc _) rfl ?_ | refine LetV.mk (.agg _) rfl ?_) | (refine LetI.pre ?_; first | refine LetI.mk _ rfl ?_) | (refine LetB.pre ?_; first | refine LetB.tt rfl ?_ | refine LetB.ff rfl ?_) | (refine Br.pre ?_; first | refine Br.tt rfl ?_ | refine Br.ff rfl ?_) | (refine Ck.pre ?_; first | refine Ck.mk rfl ?_) | (refine LetL.pre ?_; first | refine LetL.mk (ty := aty) [.agg [_, _, _, _, _, _, _, _]] rfl ?_ | refine LetL.mk (ty := ity) _ (renL_none (pure_int _)).symm ?_) | (refine CallN.pre ?_; first | refine CallN.own (fun i => i) hC hok ?_ | refine CallN.pure hM1 rfl rfl ?_ | refine CallN.pure hM2 rfl rfl ?_)))); (try (conv => whnf)))






  exact ⟨.inl rfl, ⟨_, rfl, rfl⟩, rfl, rfl, trivial⟩
set_option maxHeartbeats 1600000 in
set_option maxRecDepth 100000 in
theorem Odd_2 (a : Ac) (n : Int) (o : Ac) (ho : o = { a with credits := n }) (q : Int × Int) (ha : a.src.length ≤ 900 ∧ a.path.length ≤ 900) (hn2 : 0 ≤ n ∧ n < 40) (hn : (q.2.tmod 40 + 40).tmod 40 = n) (hm : (q.1.tmod 8 + 8).tmod 8 = 2) : AFun Try.prog 26 0 [acA a, .agg [int q.1, int q.2]] [] (acA o) [] := by
  refine frzA (i := 3) (j := 5) (n := (0 + (a.src.map int).length)) (m := (0 + (a.path.map int).length)) (f1 := ⟨false, true⟩) (f2 := ⟨false, true⟩) o ?_ (by decide) (by subst ho; simp) (by subst ho; simp)
  subst ho
  refine AFun.of_W T_ok mixed Try.func26 rfl (Nat.le_of_ble_eq_true rfl) rfl ?_
  have hC := Copy_s a (a.src.map int) (a.path.map int) (by simp; omega) (by simp; omega) (stor_int _) (stor_int _)
  have hok : CallOk 0 (fun i => i) _ _ _ _ [(0, .row 8 aty [acA a]), (1, .row 2 28 [.agg [int q.1, int q.2]]), (2, .row 8 aty [.agg [int 0, str ⟨#[]⟩, int 0, int 0, int 0, .sc (.slice none 0 0), int 0, .sc (.slice none 0 0)]])] _ := CallOk.mk' (vs := [acA a]) (H := []) (v := cpA a (a.src.map int) (a.path.map int)) (H' := [(3, .row 1 ity (a.src.map int)), (5, .row 1 ity (a.path.map int))]) rfl rfl rfl rfl rfl (namesAll.row (pure_int _) (namesAll.row (pure_int _) rfl)) trivial
  have hM1 := Mod_f q.2 40 (by omega)
  have hM2 := Mod_f q.1 8 (by omega)
  rw [hn] at hM1
  rw [hm] at hM2
  have b9 := tmod_bound n (m := 9) (by omega)
  have b5 := tmod_bound n (m := 5) (by omega)
  have b4 := tmod_bound n (m := 4) (by omega)
  have b3 := tmod_bound n (m := 3) (by omega)
  have p4 := tmod_pos 4 hn2.1
  have hl1 : (a.src.map int).length = a.src.length := List.length_map _
  have hl2 : (a.path.map int).length = a.path.length := List.length_map _
  have hr1 := room_int (n := (0 + (a.src.map int).length) + 1) (by omega)
  have hr2 := room_int (n := (0 + (a.path.map int).length) + 1) (by omega)
  ((repeat ((conv => whnf); (first | (refine LetN.pre ?_; first | ((conv => arg 1; whnf); refine LetN.mk ?_)) | (refine As.pre ?_; first | refine As.mk rfl ?_) | (refine LetV.pre ?_; first | refine LetV.mk (.sc (.int _ _)) rfl ?_ | refine LetV.mk (.agg _) rfl ?_) | (refine LetB.pre ?_; first | refine LetB.tt rfl ?_ | refine LetB.ff rfl ?_) | (refine Br.pre ?_; first | refine Br.tt rfl ?_ | refine Br.ff rfl ?_) | (refine Ck.pre ?_; first | refine Ck.mk rfl ?_) | (refine LetL.pre ?_; first | refine LetL.mk (ty := aty) [.agg [_, _, _, _, _, _, _, _]] rfl ?_ | refine LetL.mk (ty := ity) _ (renL_none (pure_int _)).symm ?_) | (refine CallN.pre ?_; first | refine CallN.own (fun i => i) hC hok ?_ | refine CallN.pure hM1 rfl rfl ?_ | refine CallN.pure hM2 rfl rfl ?_)))); (try (conv => whnf)))





  exact ⟨.inl rfl, ⟨_, rfl, rfl⟩, rfl, rfl, trivial⟩
set_option maxHeartbeats 1600000 in
set_option maxRecDepth 100000 in
theorem Odd_3 (a : Ac) (n : Int) (o : Ac) (ho : o = { a with grade := 5 * n - 50 }) (q : Int × Int) (ha : a.src.length ≤ 900 ∧ a.path.length ≤ 900) (hn2 : 0 ≤ n ∧ n < 40) (hn : (q.2.tmod 40 + 40).tmod 40 = n) (hm : (q.1.tmod 8 + 8).tmod 8 = 3) : AFun Try.prog 26 0 [acA a, .agg [int q.1, int q.2]] [] (acA o) [] := by
  refine frzA (i := 3) (j := 5) (n := (0 + (a.src.map int).length)) (m := (0 + (a.path.map int).length)) (f1 := ⟨false, true⟩) (f2 := ⟨false, true⟩) o ?_ (by decide) (by subst ho; simp) (by subst ho; simp)
  subst ho
  refine AFun.of_W T_ok mixed Try.func26 rfl (Nat.le_of_ble_eq_true rfl) rfl ?_
  have hC := Copy_s a (a.src.map int) (a.path.map int) (by simp; omega) (by simp; omega) (stor_int _) (stor_int _)
  have hok : CallOk 0 (fun i => i) _ _ _ _ [(0, .row 8 aty [acA a]), (1, .row 2 28 [.agg [int q.1, int q.2]]), (2, .row 8 aty [.agg [int 0, str ⟨#[]⟩, int 0, int 0, int 0, .sc (.slice none 0 0), int 0, .sc (.slice none 0 0)]])] _ := CallOk.mk' (vs := [acA a]) (H := []) (v := cpA a (a.src.map int) (a.path.map int)) (H' := [(3, .row 1 ity (a.src.map int)), (5, .row 1 ity (a.path.map int))]) rfl rfl rfl rfl rfl (namesAll.row (pure_int _) (namesAll.row (pure_int _) rfl)) trivial
  have hM1 := Mod_f q.2 40 (by omega)
  have hM2 := Mod_f q.1 8 (by omega)
  rw [hn] at hM1
  rw [hm] at hM2
  have b9 := tmod_bound n (m := 9) (by omega)
  have b5 := tmod_bound n (m := 5) (by omega)
  have b4 := tmod_bound n (m := 4) (by omega)
  have b3 := tmod_bound n (m := 3) (by omega)
  have p4 := tmod_pos 4 hn2.1
  have hl1 : (a.src.map int).length = a.src.length := List.length_map _
  have hl2 : (a.path.map int).length = a.path.length := List.length_map _
  have hr1 := room_int (n := (0 + (a.src.map int).length) + 1) (by omega)
  have hr2 := room_int (n := (0 + (a.path.map int).length) + 1) (by omega)
  ((repeat ((conv => whnf); (first | (refine LetN.pre ?_; first | ((conv => arg 1; whnf); refine LetN.mk ?_)) | (refine As.pre ?_; first | refine As.mk rfl ?_) | (refine LetV.pre ?_; first | refine LetV.mk (.sc (.int _ _)) rfl ?_ | refine LetV.mk (.agg _) rfl ?_) | (refine LetI.pre ?_; first | refine LetI.wrap (by omega) (by omega) ?_) | (refine LetB.pre ?_; first | refine LetB.tt rfl ?_ | refine LetB.ff rfl ?_) | (refine Br.pre ?_; first | refine Br.tt rfl ?_ | refine Br.ff rfl ?_) | (refine Ck.pre ?_; first | refine Ck.mk rfl ?_) | (refine LetL.pre ?_; first | refine LetL.mk (ty := aty) [.agg [_, _, _, _, _, _, _, _]] rfl ?_ | refine LetL.mk (ty := ity) _ (renL_none (pure_int _)).symm ?_) | (refine CallN.pre ?_; first | refine CallN.own (fun i => i) hC hok ?_ | refine CallN.pure hM1 rfl rfl ?_ | refine CallN.pure hM2 rfl rfl ?_)))); (try (conv => whnf)))





  exact ⟨.inl rfl, ⟨_, rfl, rfl⟩, rfl, rfl, trivial⟩
set_option maxHeartbeats 1600000 in
set_option maxRecDepth 100000 in
theorem Odd_4 (a : Ac) (n : Int) (o : Ac) (ho : o = { a with day := 20 * n }) (q : Int × Int) (ha : a.src.length ≤ 900 ∧ a.path.length ≤ 900) (hn2 : 0 ≤ n ∧ n < 40) (hn : (q.2.tmod 40 + 40).tmod 40 = n) (hm : (q.1.tmod 8 + 8).tmod 8 = 4) : AFun Try.prog 26 0 [acA a, .agg [int q.1, int q.2]] [] (acA o) [] := by
  refine frzA (i := 3) (j := 5) (n := (0 + (a.src.map int).length)) (m := (0 + (a.path.map int).length)) (f1 := ⟨false, true⟩) (f2 := ⟨false, true⟩) o ?_ (by decide) (by subst ho; simp) (by subst ho; simp)
  subst ho
  refine AFun.of_W T_ok mixed Try.func26 rfl (Nat.le_of_ble_eq_true rfl) rfl ?_
  have hC := Copy_s a (a.src.map int) (a.path.map int) (by simp; omega) (by simp; omega) (stor_int _) (stor_int _)
  have hok : CallOk 0 (fun i => i) _ _ _ _ [(0, .row 8 aty [acA a]), (1, .row 2 28 [.agg [int q.1, int q.2]]), (2, .row 8 aty [.agg [int 0, str ⟨#[]⟩, int 0, int 0, int 0, .sc (.slice none 0 0), int 0, .sc (.slice none 0 0)]])] _ := CallOk.mk' (vs := [acA a]) (H := []) (v := cpA a (a.src.map int) (a.path.map int)) (H' := [(3, .row 1 ity (a.src.map int)), (5, .row 1 ity (a.path.map int))]) rfl rfl rfl rfl rfl (namesAll.row (pure_int _) (namesAll.row (pure_int _) rfl)) trivial
  have hM1 := Mod_f q.2 40 (by omega)
  have hM2 := Mod_f q.1 8 (by omega)
  rw [hn] at hM1
  rw [hm] at hM2
  have b9 := tmod_bound n (m := 9) (by omega)
  have b5 := tmod_bound n (m := 5) (by omega)
  have b4 := tmod_bound n (m := 4) (by omega)
  have b3 := tmod_bound n (m := 3) (by omega)
  have p4 := tmod_pos 4 hn2.1
  have hl1 : (a.src.map int).length = a.src.length := List.length_map _
  have hl2 : (a.path.map int).length = a.path.length := List.length_map _
  have hr1 := room_int (n := (0 + (a.src.map int).length) + 1) (by omega)
  have hr2 := room_int (n := (0 + (a.path.map int).length) + 1) (by omega)
  ((repeat ((conv => whnf); (first | (refine LetN.pre ?_; first | ((conv => arg 1; whnf); refine LetN.mk ?_)) | (refine As.pre ?_; first | refine As.mk rfl ?_) | (refine LetV.pre ?_; first | refine LetV.mk (.sc (.int _ _)) rfl ?_ | refine LetV.mk (.agg _) rfl ?_) | (refine LetI.pre ?_; first | refine LetI.wrap (by omega) (by omega) ?_) | (refine LetB.pre ?_; first | refine LetB.tt rfl ?_ | refine LetB.ff rfl ?_) | (refine Br.pre ?_; first | refine Br.tt rfl ?_ | refine Br.ff rfl ?_) | (refine Ck.pre ?_; first | refine Ck.mk rfl ?_) | (refine LetL.pre ?_; first | refine LetL.mk (ty := aty) [.agg [_, _, _, _, _, _, _, _]] rfl ?_ | refine LetL.mk (ty := ity) _ (renL_none (pure_int _)).symm ?_) | (refine CallN.pre ?_; first | refine CallN.own (fun i => i) hC hok ?_ | refine CallN.pure hM1 rfl rfl ?_ | refine CallN.pure hM2 rfl rfl ?_)))); (try (conv => whnf)))





  exact ⟨.inl rfl, ⟨_, rfl, rfl⟩, rfl, rfl, trivial⟩
set_option maxHeartbeats 1600000 in
set_option maxRecDepth 100000 in
theorem Odd_5 (a : Ac) (n : Int) (o : Ac) (ho : o = { a with src := a.src ++ [1000000 + n] }) (q : Int × Int) (ha : a.src.length ≤ 900 ∧ a.path.length ≤ 900) (hn2 : 0 ≤ n ∧ n < 40) (hn : (q.2.tmod 40 + 40).tmod 40 = n) (hm : (q.1.tmod 8 + 8).tmod 8 = 5) : AFun Try.prog 26 0 [acA a, .agg [int q.1, int q.2]] [] (acA o) [] := by
  refine frzA (i := 7) (j := 5) (n := ((0 + (a.src.map int).length) + 1)) (m := (0 + (a.path.map int).length)) (f1 := ⟨false, true⟩) (f2 := ⟨false, true⟩) o ?_ (by decide) (by subst ho; simp) (by subst ho; simp)
  subst ho
  refine AFun.of_W T_ok mixed Try.func26 rfl (Nat.le_of_ble_eq_true rfl) rfl ?_
  have hC := Copy_s a (a.src.map int) (a.path.map int) (by simp; omega) (by simp; omega) (stor_int _) (stor_int _)
  have hok : CallOk 0 (fun i => i) _ _ _ _ [(0, .row 8 aty [acA a]), (1, .row 2 28 [.agg [int q.1, int q.2]]), (2, .row 8 aty [.agg [int 0, str ⟨#[]⟩, int 0, int 0, int 0, .sc (.slice none 0 0), int 0, .sc (.slice none 0 0)]])] _ := CallOk.mk' (vs := [acA a]) (H := []) (v := cpA a (a.src.map int) (a.path.map int)) (H' := [(3, .row 1 ity (a.src.map int)), (5, .row 1 ity (a.path.map int))]) rfl rfl rfl rfl rfl (namesAll.row (pure_int _) (namesAll.row (pure_int _) rfl)) trivial
  have hM1 := Mod_f q.2 40 (by omega)
  have hM2 := Mod_f q.1 8 (by omega)
  rw [hn] at hM1
  rw [hm] at hM2
  have b9 := tmod_bound n (m := 9) (by omega)
  have b5 := tmod_bound n (m := 5) (by omega)
  have b4 := tmod_bound n (m := 4) (by omega)
  have b3 := tmod_bound n (m := 3) (by omega)
  have p4 := tmod_pos 4 hn2.1
  have hl1 : (a.src.map int).length = a.src.length := List.length_map _
  have hl2 : (a.path.map int).length = a.path.length := List.length_map _
  have hr1 := room_int (n := (0 + (a.src.map int).length) + 1) (by omega)
  have hr2 := room_int (n := (0 + (a.path.map int).length) + 1) (by omega)
  ((repeat ((conv => whnf); (first | (refine LetN.pre ?_; first | ((conv => arg 1; whnf); refine LetN.mk ?_)) | (refine As.pre ?_; first | refine As.mk rfl ?_ | (refine As.mk ?_ ?_; · ((repeat' (refine andT ?_ ?_)) <;> (first | rfl | assumption | exact decide_eq_true (by omega) | exact decide_eq_true (by dsimp only; omega) | exact decide_eq_true (by simp; omega) | (simp; done))))) | (refine LetV.pre ?_; first | refine LetV.mk (.sc (.int _ _)) rfl ?_ | refine LetV.mk (.agg _) rfl ?_ | refine LetV.mk (.slm _ _ _ _ _) rfl ?_) | (refine LetI.pre ?_; first | refine LetI.wrap (by omega) (by omega) ?_) | (refine LetB.pre ?_; first | refine LetB.tt rfl ?_ | refine LetB.ff rfl ?_) | (refine Br.pre ?_; first | refine Br.tt rfl ?_ | refine Br.ff rfl ?_) | (refine Ck.pre ?_; first | refine Ck.mk rfl ?_) | (refine LetL.pre ?_; first | refine LetL.mk (ty := aty) [.agg [_, _, _, _, _, _, _, _]] rfl ?_ | refine LetL.mk (ty := ity) _ (app_int a.src (1000000 + n) _ (by rw [List.length_map])) ?_ | refine LetL.mk (ty := ity) _ (renL_none (pure_int _)).symm ?_) | (refine CallN.pre ?_; first | refine CallN.own (fun i => i) hC hok ?_ | refine CallN.pure hM1 rfl rfl ?_ | refine CallN.pure hM2 rfl rfl ?_)))); (try (conv => whnf)))






  exact ⟨.inl rfl, ⟨_, rfl, rfl⟩, rfl, rfl, trivial⟩
set_option maxHeartbeats 1600000 in
set_option maxRecDepth 100000 in
theorem Odd_6 (a : Ac) (n : Int) (o : Ac) (ho : o = { a with bundle := n.tmod 5 - 1 }) (q : Int × Int) (ha : a.src.length ≤ 900 ∧ a.path.length ≤ 900) (hn2 : 0 ≤ n ∧ n < 40) (hn : (q.2.tmod 40 + 40).tmod 40 = n) (hm : (q.1.tmod 8 + 8).tmod 8 = 6) : AFun Try.prog 26 0 [acA a, .agg [int q.1, int q.2]] [] (acA o) [] := by
  refine frzA (i := 3) (j := 5) (n := (0 + (a.src.map int).length)) (m := (0 + (a.path.map int).length)) (f1 := ⟨false, true⟩) (f2 := ⟨false, true⟩) o ?_ (by decide) (by subst ho; simp) (by subst ho; simp)
  subst ho
  refine AFun.of_W T_ok mixed Try.func26 rfl (Nat.le_of_ble_eq_true rfl) rfl ?_
  have hC := Copy_s a (a.src.map int) (a.path.map int) (by simp; omega) (by simp; omega) (stor_int _) (stor_int _)
  have hok : CallOk 0 (fun i => i) _ _ _ _ [(0, .row 8 aty [acA a]), (1, .row 2 28 [.agg [int q.1, int q.2]]), (2, .row 8 aty [.agg [int 0, str ⟨#[]⟩, int 0, int 0, int 0, .sc (.slice none 0 0), int 0, .sc (.slice none 0 0)]])] _ := CallOk.mk' (vs := [acA a]) (H := []) (v := cpA a (a.src.map int) (a.path.map int)) (H' := [(3, .row 1 ity (a.src.map int)), (5, .row 1 ity (a.path.map int))]) rfl rfl rfl rfl rfl (namesAll.row (pure_int _) (namesAll.row (pure_int _) rfl)) trivial
  have hM1 := Mod_f q.2 40 (by omega)
  have hM2 := Mod_f q.1 8 (by omega)
  rw [hn] at hM1
  rw [hm] at hM2
  have b9 := tmod_bound n (m := 9) (by omega)
  have b5 := tmod_bound n (m := 5) (by omega)
  have b4 := tmod_bound n (m := 4) (by omega)
  have b3 := tmod_bound n (m := 3) (by omega)
  have p4 := tmod_pos 4 hn2.1
  have hl1 : (a.src.map int).length = a.src.length := List.length_map _
  have hl2 : (a.path.map int).length = a.path.length := List.length_map _
  have hr1 := room_int (n := (0 + (a.src.map int).length) + 1) (by omega)
  have hr2 := room_int (n := (0 + (a.path.map int).length) + 1) (by omega)
  ((repeat ((conv => whnf); (first | (refine LetN.pre ?_; first | ((conv => arg 1; whnf); refine LetN.mk ?_)) | (refine As.pre ?_; first | refine As.mk rfl ?_) | (refine LetV.pre ?_; first | refine LetV.mk (.sc (.int _ _)) rfl ?_ | refine LetV.mk (.agg _) rfl ?_) | (refine LetI.pre ?_; first | refine LetI.wrap (by omega) (by omega) ?_ | refine LetI.mk _ rfl ?_) | (refine LetB.pre ?_; first | refine LetB.tt rfl ?_ | refine LetB.ff rfl ?_) | (refine Br.pre ?_; first | refine Br.tt rfl ?_ | refine Br.ff rfl ?_) | (refine Ck.pre ?_; first | refine Ck.mk rfl ?_) | (refine LetL.pre ?_; first | refine LetL.mk (ty := aty) [.agg [_, _, _, _, _, _, _, _]] rfl ?_ | refine LetL.mk (ty := ity) _ (renL_none (pure_int _)).symm ?_) | (refine CallN.pre ?_; first | refine CallN.own (fun i => i) hC hok ?_ | refine CallN.pure hM1 rfl rfl ?_ | refine CallN.pure hM2 rfl rfl ?_)))); (try (conv => whnf)))





  exact ⟨.inl rfl, ⟨_, rfl, rfl⟩, rfl, rfl, trivial⟩
set_option maxHeartbeats 1600000 in
set_option maxRecDepth 100000 in
theorem Odd_7 (a : Ac) (n : Int) (o : Ac) (ho : o = { a with path := a.path ++ [n.tmod 3] }) (q : Int × Int) (ha : a.src.length ≤ 900 ∧ a.path.length ≤ 900) (hn2 : 0 ≤ n ∧ n < 40) (hn : (q.2.tmod 40 + 40).tmod 40 = n) (hm : (q.1.tmod 8 + 8).tmod 8 = 7) : AFun Try.prog 26 0 [acA a, .agg [int q.1, int q.2]] [] (acA o) [] := by
  refine frzA (i := 3) (j := 7) (n := (0 + (a.src.map int).length)) (m := ((0 + (a.path.map int).length) + 1)) (f1 := ⟨false, true⟩) (f2 := ⟨false, true⟩) o ?_ (by decide) (by subst ho; simp) (by subst ho; simp)
  subst ho
  refine AFun.of_W T_ok mixed Try.func26 rfl (Nat.le_of_ble_eq_true rfl) rfl ?_
  have hC := Copy_s a (a.src.map int) (a.path.map int) (by simp; omega) (by simp; omega) (stor_int _) (stor_int _)
  have hok : CallOk 0 (fun i => i) _ _ _ _ [(0, .row 8 aty [acA a]), (1, .row 2 28 [.agg [int q.1, int q.2]]), (2, .row 8 aty [.agg [int 0, str ⟨#[]⟩, int 0, int 0, int 0, .sc (.slice none 0 0), int 0, .sc (.slice none 0 0)]])] _ := CallOk.mk' (vs := [acA a]) (H := []) (v := cpA a (a.src.map int) (a.path.map int)) (H' := [(3, .row 1 ity (a.src.map int)), (5, .row 1 ity (a.path.map int))]) rfl rfl rfl rfl rfl (namesAll.row (pure_int _) (namesAll.row (pure_int _) rfl)) trivial
  have hM1 := Mod_f q.2 40 (by omega)
  have hM2 := Mod_f q.1 8 (by omega)
  rw [hn] at hM1
  rw [hm] at hM2
  have b9 := tmod_bound n (m := 9) (by omega)
  have b5 := tmod_bound n (m := 5) (by omega)
  have b4 := tmod_bound n (m := 4) (by omega)
  have b3 := tmod_bound n (m := 3) (by omega)
  have p4 := tmod_pos 4 hn2.1
  have hl1 : (a.src.map int).length = a.src.length := List.length_map _
  have hl2 : (a.path.map int).length = a.path.length := List.length_map _
  have hr1 := room_int (n := (0 + (a.src.map int).length) + 1) (by omega)
  have hr2 := room_int (n := (0 + (a.path.map int).length) + 1) (by omega)
  ((repeat ((conv => whnf); (first | (refine LetN.pre ?_; first | ((conv => arg 1; whnf); refine LetN.mk ?_)) | (refine As.pre ?_; first | refine As.mk rfl ?_ | (refine As.mk ?_ ?_; · ((repeat' (refine andT ?_ ?_)) <;> (first | rfl | assumption | exact decide_eq_true (by omega) | exact decide_eq_true (by dsimp only; omega) | exact decide_eq_true (by simp; omega) | (simp; done))))) | (refine LetV.pre ?_; first | refine LetV.mk (.sc (.int _ _)) rfl ?_ | refine LetV.mk (.agg _) rfl ?_ | refine LetV.mk (.slm _ _ _ _ _) rfl ?_) | (refine LetI.pre ?_; first | refine LetI.mk _ rfl ?_) | (refine LetB.pre ?_; first | refine LetB.tt rfl ?_ | refine LetB.ff rfl ?_) | (refine Br.pre ?_; first | refine Br.tt rfl ?_ | refine Br.ff rfl ?_) | (refine Ck.pre ?_; first | refine Ck.mk rfl ?_) | (refine LetL.pre ?_; first | refine LetL.mk (ty := aty) [.agg [_, _, _, _, _, _, _, _]] rfl ?_ | refine LetL.mk (ty := ity) _ (app_int a.path (n.tmod 3) _ (by rw [List.length_map])) ?_ | refine LetL.mk (ty := ity) _ (renL_none (pure_int _)).symm ?_) | (refine CallN.pre ?_; first | refine CallN.own (fun i => i) hC hok ?_ | refine CallN.pure hM1 rfl rfl ?_ | refine CallN.pure hM2 rfl rfl ?_)))); (try (conv => whnf)))






  exact ⟨.inl rfl, ⟨_, rfl, rfl⟩, rfl, rfl, trivial⟩
theorem Odd_f (a : Ac) (q : Int × Int) (ha : a.src.length ≤ 900 ∧ a.path.length ≤ 900) : ∃ o : Ac, okO a o ∧ AFun Try.prog 26 0 [acA a, .agg [int q.1, int q.2]] [] (acA o) [] := by
  have b0 := tmod_bound q.1 (m := 8) (by omega)
  have p0 := tmod_pos 8 (a := q.1.tmod 8 + 8) (by omega)
  have b1 := tmod_bound q.2 (m := 40) (by omega)
  have p1 := tmod_pos 40 (a := q.2.tmod 40 + 40) (by omega)
  obtain ⟨n, hn⟩ : ∃ n : Int, (q.2.tmod 40 + 40).tmod 40 = n := ⟨_, rfl⟩
  have hn2 : 0 ≤ n ∧ n < 40 := by omega
  have b4 := tmod_bound n (m := 4) (by omega)
  have p4 := tmod_pos 4 hn2.1
  obtain ⟨s, hs⟩ := word4 (n.tmod 4) (by omega)
  have hc : (q.1.tmod 8 + 8).tmod 8 = 0 ∨ (q.1.tmod 8 + 8).tmod 8 = 1 ∨ (q.1.tmod 8 + 8).tmod 8 = 2 ∨ (q.1.tmod 8 + 8).tmod 8 = 3 ∨ (q.1.tmod 8 + 8).tmod 8 = 4 ∨ (q.1.tmod 8 + 8).tmod 8 = 5 ∨ (q.1.tmod 8 + 8).tmod 8 = 6 ∨ (q.1.tmod 8 + 8).tmod 8 = 7 := by omega
  rcases hc with h | h | h | h | h | h | h | h
  · exact ⟨_, ⟨by simp, by simp⟩, Odd_0 a n _ rfl q ha hn2 hn h⟩
  · exact ⟨_, ⟨by simp, by simp⟩, Odd_1 a n s hs _ rfl q ha hn2 hn h⟩
  · exact ⟨_, ⟨by simp, by simp⟩, Odd_2 a n _ rfl q ha hn2 hn h⟩
  · exact ⟨_, ⟨by simp, by simp⟩, Odd_3 a n _ rfl q ha hn2 hn h⟩
  · exact ⟨_, ⟨by simp, by simp⟩, Odd_4 a n _ rfl q ha hn2 hn h⟩
  · exact ⟨_, ⟨by simp, by simp⟩, Odd_5 a n _ rfl q ha hn2 hn h⟩
  · exact ⟨_, ⟨by simp, by simp⟩, Odd_6 a n _ rfl q ha hn2 hn h⟩
  · exact ⟨_, ⟨by simp, by simp⟩, Odd_7 a n _ rfl q ha hn2 hn h⟩
end En
end Go.Proofs.Ytiefcppgbnfbfaa
namespace Go.Proofs.Ytiefcppgbnfbfaa
open Go.Proofs.Ytiefcppgbnfbfaa.Am
set_option maxRecDepth 100000
namespace En
/-! ### EarnApart -/
theorem nself (b : Bool) : (b != b) = false := by cases b <;> rfl
theorem app_ac (l : List Ac) (e : Ac) (n : Nat) (h : n = l.length) : (l ++ [e]).map acA = (l.map acA).take n ++ [acA e] := by rw [List.take_of_length_le (by simp [h]), List.map_append]; rfl
theorem row_ac {l : List Ac} {k : Nat} (h : k < l.length) : acA (l.getD k ac0) = Am.part true 8 0 8 ((l.map acA).getD (0 + k) (.sc undef)) := by
  rw [Nat.zero_add, List.getD_eq_getElem?_getD, List.getD_eq_getElem?_getD, List.getElem?_map, List.getElem?_eq_getElem h]; rfl
abbrev lstO (all : List Ac) (k : Nat) : AS :=
  ⟨[(5, bool true), (6, .slm {} 0 8 0 all.length), (37, .slm {} 0 8 0 all.length), (38, int all.length), (39, int k)], [(0, .row 8 aty (all.map acA))], 1⟩
abbrev lstI (all : List Ac) (k : Nat) (a : Ac) (j : Nat) : AS :=
  ⟨[(5, bool true), (6, .slm {} 0 8 0 all.length), (7, int k), (8, .ptr 1 8 0 0), (37, .slm {} 0 8 0 all.length), (38, int all.length), (39, int k), (44, .slm {} 0 8 0 all.length), (45, int all.length), (46, int j)], [(0, .row 8 aty (all.map acA)), (1, .row 8 aty [acA a])], 2⟩
theorem acs_names (all : List Ac) (ok : Nat → Bool) (H : AH) (h : namesAll ok H = true) : namesAll ok ((0, .row 8 aty (all.map acA)) :: H) = true := namesAll.row (pure_ac _) h
set_option maxHeartbeats 1600000 in
set_option maxRecDepth 100000 in
theorem eapart (L : List (Fl × List Int)) (fl : Fl) (hL : L.length ≤ 9223372036854775807) (hxs : ∀ x ∈ L, x.2.length ≤ 9223372036854775807) (q : Int × Int × Int) : AFun Try.prog 7 0 [.ro fl 1 (L.map iA), .agg [int q.1, int q.2.1, int q.2.2]] [] (bool true) [] := by
  obtain ⟨l, hm, hM⟩ := Made_c L fl hL hxs
  refine AFun.of_W T_ok mixed Try.func7 rfl (Nat.le_of_ble_eq_true rfl) rfl ?_
  by_cases h0 : l = []
  · subst h0
    ((repeat ((conv => whnf); (first | (refine LetN.pre ?_; first | ((conv => arg 1; whnf); refine LetN.mk ?_)) | (refine As.pre ?_; first | refine As.mk rfl ?_) | (refine LetI.pre ?_; first | refine LetI.mk _ rfl ?_) | (refine LetB.pre ?_; first | refine LetB.ff rfl ?_) | (refine Br.pre ?_; first | refine Br.ff rfl ?_) | (refine Ck.pre ?_; first | refine Ck.mk rfl ?_) | (refine LetL.pre ?_; first | refine LetL.mk _ rfl ?_) | (refine CallN.pre ?_; first | refine CallN.pure sanity_f rfl rfl ?_ | refine CallN.own (fun _ => 1) hM (CallOk.mk' rfl rfl rfl rfl rfl rfl trivial) ?_)))); (try (conv => whnf)))
    refine LoopN.round T_ok mixed rfl ?_
    ((repeat ((conv => whnf); (first | (refine As.pre ?_; first | refine As.mk rfl ?_) | (refine LetB.pre ?_; first | refine LetB.ff rfl ?_) | (refine Br.pre ?_; first | refine Br.ff rfl ?_) | (refine Ck.pre ?_; first | refine Ck.mk rfl ?_)))); (try (conv => whnf)))
    exact ⟨.inl rfl, ⟨_, rfl, rfl⟩, trivial⟩
  have hpos : 0 < l.length := List.length_pos_iff.2 h0
  obtain ⟨hm1, hm2⟩ := hm
  obtain ⟨u, hu⟩ : ∃ u : Int, u = IntKind.u64.wrap q.2.2 := ⟨_, rfl⟩
  have hub : 0 ≤ u := by rw [hu]; exact Int.emod_nonneg _ (by decide)
  have hn : (l.length : Int) = IntKind.u64.wrap (l.length : Int) := by
    show _ = (l.length : Int) % _
    rw [Int.emod_eq_of_lt (by omega) (by have : (l.length : Int) ≤ 8 := by omega
                                         exact Int.lt_of_le_of_lt this (by decide))]
  obtain ⟨k, hk, hkk⟩ : ∃ k : Nat, k < l.length ∧ (k : Int) = u.tmod (l.length : Int) := by
    have h1 := Int.tmod_nonneg (l.length : Int) hub
    have h2 := Int.tmod_lt_of_pos u (b := (l.length : Int)) (by omega)
    exact ⟨(u.tmod (l.length : Int)).toNat, by omega, by omega⟩
  have hnz : ((l.length : Int) != 0) = true := bne_iff_ne.2 (by omega)
  have hwk : (k : Int) = IntKind.i64.wrap (k : Int) := (wrap_id (by omega) (by omega)).symm
  have hld := row_ac hk
  have hok : ∀ a ∈ l, a.src.length ≤ 2 ∧ a.path.length ≤ 1 := fun a ha => by
    obtain ⟨h1, h2⟩ := hm2 a ha
    refine ⟨h2, ?_⟩
    rcases h1 with ⟨_, h⟩ | ⟨_, h⟩ <;> rw [h] <;> simp
  have hka := hok _ (getD_mem hk)
  obtain ⟨o, ho, hO⟩ := Odd_f (l.getD k ac0) (q.1, q.2.1) (by omega)
  have hml : (l.map acA).length = l.length := List.length_map _
  have hr := room_ach (n := l.length + 1) (by omega)
  have hall : ∀ a ∈ l ++ [o], okA a := fun a ha => by
    rcases List.mem_append.1 ha with h | h
    · have := hok a h; omega
    · simp only [List.mem_cons, List.not_mem_nil, or_false] at h
      subst h
      have := ho.1
      have := ho.2
      omega
  have hlen : (l ++ [o]).length = l.length + 1 := by simp
  have happ := app_ac l o l.length rfl
  generalize l.getD k ac0 = a0 at hld hO
  ((repeat ((conv => whnf); (first | (refine LetN.pre ?_; first | ((conv => arg 1; whnf); refine LetN.mk ?_)) | (refine As.pre ?_; first | refine As.mk rfl ?_ | refine As.mk hnz ?_ | (refine As.mk ?_ ?_; · ((repeat' (refine andT ?_ ?_)) <;> (first | rfl | assumption | exact decide_eq_true (by omega) | exact decide_eq_true (by dsimp only; omega) | exact decide_eq_true (by simp; omega) | (simp; done))))) | (refine LetV.pre ?_; first | refine LetV.mk (t := aty) _ hld ?_ | refine LetV.mk (.sc (.int _ _)) rfl ?_) | (refine LetI.pre ?_; first | refine LetI.mk (o := none) u hu ?_ | refine LetI.mk (o := none) (l.length : Int) hn ?_ | refine LetI.mk (o := some .rem) (k : Int) hkk ?_ | refine LetI.mk (o := none) (k : Int) hwk ?_ | refine LetI.mk _ rfl ?_) | (refine LetB.pre ?_; first | refine LetB.dect (by omega) ?_) | (refine Br.pre ?_; first | refine Br.tt rfl ?_) | (refine Ck.pre ?_; first | refine Ck.drawn (by kernel_rfl) ?_ | refine Ck.mk rfl ?_) | (refine LetL.pre ?_; first | refine LetL.mk (ty := aty) _ (renL_none (pure_ac _)).symm ?_ | refine LetL.mk (ty := aty) _ happ ?_) | (refine CallN.pre ?_; first | refine CallN.pure sanity_f rfl rfl ?_ | refine CallN.own (fun _ => 1) hM (CallOk.mk' rfl rfl rfl rfl rfl (namesAll.row (pure_ac _) rfl) trivial) ?_ | refine CallN.pure hO rfl rfl ?_)))); (try (conv => whnf)))











  refine LoopN.weak (s1 := lstO (l ++ [o]) 0) ?sw1 ?_
  case sw1 => exact SW.mk (fun _ => 2) rfl rfl (acs_names _ _ _ rfl) ⟨.refl _, VLe2.slm_of hlen, VLe2.slm_of hlen, VLe2.int (by rw [hlen]; rfl), .refl _, trivial⟩ (haveV.row (pure_ac _) rfl trivial)
  have hlen2 : (l ++ [o]).length ≤ 9 := by omega
  clear happ hO hM hm1 hm2 hld hka hok hr hkk hwk hnz hn hub hlen ho
  generalize l ++ [o] = all at hall hlen2 ⊢
  clear hk
  have hma : (all.map acA).length = all.length := List.length_map _
  refine LoopN.ind T_ok mixed (S := lstO all) (fun k => all.length - k) (fun k => k ≤ all.length) (fun _ => rfl) (fun k hk ih => ?_) 0 (Nat.zero_le _)
  by_cases hlt : k < all.length
  case neg =>
    clear ih
    ((repeat ((conv => whnf); (first | (refine As.pre ?_; first | refine As.mk rfl ?_) | (refine LetB.pre ?_; first | refine LetB.decf (by omega) ?_) | (refine Br.pre ?_; first | refine Br.ff rfl ?_) | (refine Ck.pre ?_; first | refine Ck.mk rfl ?_)))); (try (conv => whnf)))
    exact ⟨.inl rfl, ⟨_, rfl, rfl⟩, trivial⟩
  have hld := row_ac hlt
  have ha := hall _ (getD_mem hlt)
  generalize all.getD k ac0 = a at hld ha
  ((repeat ((conv => whnf); (first | (refine LetN.pre ?_; first | ((conv => arg 1; whnf); refine LetN.mk ?_)) | (refine As.pre ?_; first | refine As.mk rfl ?_ | (refine As.mk ?_ ?_; · ((repeat' (refine andT ?_ ?_)) <;> (first | rfl | assumption | exact decide_eq_true (by omega) | exact decide_eq_true (by dsimp only; omega) | exact decide_eq_true (by simp; omega) | (simp; done))))) | (refine LetV.pre ?_; first | refine LetV.mk (t := aty) _ hld ?_) | (refine LetI.pre ?_; first | refine LetI.mk _ rfl ?_) | (refine LetB.pre ?_; first | refine LetB.dect (by omega) ?_) | (refine Br.pre ?_; first | refine Br.tt rfl ?_) | (refine Ck.pre ?_; first | refine Ck.mk rfl ?_) | (refine LetL.pre ?_; first | refine LetL.mk [_] rfl ?_)))); (try (conv => whnf)))
  refine LoopN.weak (s1 := lstI all k a 0) ?sw2 ?_
  case sw2 => exact SW.mk (fun i => if i = 1 then 1 else i) rfl rfl (acs_names _ _ _ rfl) ⟨.refl _, .refl _, .refl _, .refl _, .refl _, .refl _, .refl _, .refl _, .refl _, .refl _, trivial⟩ (haveV.row (pure_ac _) rfl (haveV.row rfl rfl trivial))
  clear hld
  refine LoopN.ind T_ok mixed (S := lstI all k a) (fun j => all.length - j) (fun j => j ≤ all.length) (fun _ => rfl) (fun j hj ihj => ?_) 0 (Nat.zero_le _)
  by_cases hlj : j < all.length
  case pos =>
    have hld := row_ac hlj
    have hb := hall _ (getD_mem hlj)
    generalize all.getD j ac0 = b at hld hb
    have h1 := Apart_f a b ha hb
    have h2 := refApart_f a b ha hb
    have h3 := SameA_f a b ha hb
    have h4 := refSameA_f a b ha hb
    have h5 := LessA_f a b ha hb
    have h6 := refLessA_f a b ha hb
    rw [same_eq] at h4
    rw [less_eq] at h6
    generalize apP a b = m1 at h1 h2
    generalize decide (cmpA a b = 0) = m2 at h3 h4
    generalize decide (cmpA a b < 0) = m3 at h5 h6
    clear ih
    ((repeat ((conv => whnf); (first | (refine LetN.pre ?_; first | ((conv => arg 1; whnf); refine LetN.mk ?_)) | (refine As.pre ?_; first | refine As.mk rfl ?_ | (refine As.mk ?_ ?_; · ((repeat' (refine andT ?_ ?_)) <;> (first | rfl | assumption | exact decide_eq_true (by omega) | exact decide_eq_true (by dsimp only; omega) | exact decide_eq_true (by simp; omega) | (simp; done))))) | (refine LetV.pre ?_; first | refine LetV.mk (t := aty) _ hld ?_ | refine LetV.mk (.agg _) rfl ?_) | (refine LetI.pre ?_; first | refine LetI.wrap (by omega) (by omega) ?_) | (refine LetB.pre ?_; first | refine LetB.ff (nself _) ?_ | refine LetB.dect (by omega) ?_) | (refine Gd.pre ?_; first | refine Gd.run rfl ?_) | (refine Br.pre ?_; first | refine Br.tt rfl ?_ | refine Br.ff rfl ?_) | (refine Ck.pre ?_; first | refine Ck.drawn (by kernel_rfl) ?_ | refine Ck.mk rfl ?_) | (refine LetL.pre ?_; first | refine LetL.mk [_] rfl ?_) | (refine CallN.pre ?_; first | refine CallN.pure h1 rfl rfl ?_ | refine CallN.pure h2 rfl rfl ?_ | refine CallN.pure h3 rfl rfl ?_ | refine CallN.pure h4 rfl rfl ?_ | refine CallN.pure h5 rfl rfl ?_ | refine CallN.pure h6 rfl rfl ?_)))); (try (conv => whnf)))








    refine LoopN.weak ?sw3 (ihj (j + 1) (by omega) (by omega))
    case sw3 => exact SW.mk id rfl rfl (acs_names _ _ _ rfl) ⟨.refl _, .refl _, .refl _, .refl _, .refl _, .refl _, .refl _, .refl _, .refl _, VLe2.int (by omega), trivial⟩ (haveV.row (pure_ac _) rfl (haveV.row rfl rfl trivial))
  case neg =>
    clear ihj
    have f1 := fun fl => Free_f (all.drop k) fl (by simp; omega) (fun b hb => hall b (List.mem_of_mem_drop hb))
    have f2 := fun fl => refFree_f (all.drop k) fl (by simp; omega) (fun b hb => hall b (List.mem_of_mem_drop hb))
    have f3 := fun fl => Free_f (all.take k) fl (by simp; omega) (fun b hb => hall b (List.mem_of_mem_take hb))
    have f4 := fun fl => refFree_f (all.take k) fl (by simp; omega) (fun b hb => hall b (List.mem_of_mem_take hb))
    rw [free_eq] at f2 f4
    have e1 : ((all.map acA).drop k).take (all.length - k) = (all.drop k).map acA := by rw [List.map_drop, List.take_of_length_le (by simp)]
    have e2 : ((all.map acA).drop 0).take k = (all.take k).map acA := by rw [List.map_take, List.drop_zero]
    generalize frP (all.drop k) = m1 at f1 f2
    generalize frP (all.take k) = m2 at f3 f4
    have s1 : ∀ fl, AV.slm fl 0 8 k (all.length - k) = .slm fl 0 8 ((0 : Nat) + (k : Int).toNat) ((all.length : Int).toNat - (k : Int).toNat) := fun fl => by simp
    have s2 : ∀ fl, AV.slm fl 0 8 0 k = .slm fl 0 8 0 ((k : Int).toNat - 0) := fun fl => by simp
    ((repeat ((conv => whnf); (first | (refine As.pre ?_; first | refine As.mk rfl ?_ | (refine As.mk ?_ ?_; · ((repeat' (refine andT ?_ ?_)) <;> (first | rfl | assumption | exact decide_eq_true (by omega) | exact decide_eq_true (by dsimp only; omega) | exact decide_eq_true (by simp; omega) | (simp; done))))) | (refine LetV.pre ?_; first | refine LetV.mk (t := 41) _ (s1 _) ?_ | refine LetV.mk (t := 41) _ (s2 _) ?_) | (refine LetI.pre ?_; first | refine LetI.wrap (by omega) (by omega) ?_) | (refine LetB.pre ?_; first | refine LetB.ff (nself _) ?_ | refine LetB.decf (by omega) ?_) | (refine Gd.pre ?_; first | refine Gd.run rfl ?_) | (refine Br.pre ?_; first | refine Br.ff rfl ?_) | (refine Ck.pre ?_; first | refine Ck.drawn (by kernel_rfl) ?_ | refine Ck.mk rfl ?_) | (refine CallN.pre ?_; first | refine CallN.lend (f1 _) rfl (.part rfl (pure_ac _) (by omega) e1 .nil) ?_ | refine CallN.lend (f2 _) rfl (.part rfl (pure_ac _) (by omega) e1 .nil) ?_ | refine CallN.lend (f3 _) rfl (.part rfl (pure_ac _) (by omega) e2 .nil) ?_ | refine CallN.lend (f4 _) rfl (.part rfl (pure_ac _) (by omega) e2 .nil) ?_)))); (try (conv => whnf)))







    refine LoopN.weak ?sw4 (ih (k + 1) (by omega) (by omega))
    case sw4 => exact SW.mk id rfl rfl (acs_names _ _ _ rfl) ⟨.refl _, .refl _, .refl _, .refl _, VLe2.int (by omega), trivial⟩ (haveV.row (pure_ac _) rfl trivial)
theorem eapart_row (x : List (List Int)) (hL : x.length ≤ 9223372036854775807) (hxs : ∀ l ∈ x, l.length ≤ 9223372036854775807) (q : Int × Int × Int) : AFun Try.prog 7 0 [.ro {} 1 (x.map fun l => .ro {} 1 (l.map int)), .agg [int q.1, int q.2.1, int q.2.2]] [] (bool true) [] := by
  have h := eapart (x.map fun l => (({} : Fl), l)) {} (by rw [List.length_map]; exact hL) (fun y hy => by
    obtain ⟨l, hl, rfl⟩ := List.mem_map.1 hy
    exact hxs l hl) q
  rw [List.map_map] at h
  exact h
end En
end Go.Proofs.Ytiefcppgbnfbfaa
namespace Go.Proofs.Ytiefcppgbnfbfaa
open Go.Proofs.Ytiefcppgbnfbfaa.Am
set_option maxRecDepth 100000
namespace En
/-! ### EarnOrder -/
abbrev ordO (all : List Ac) (k : Nat) : AS :=
  ⟨[(5, bool true), (6, .slm {} 0 8 0 all.length), (41, .slm {} 0 8 0 all.length), (42, int all.length), (43, int k)], [(0, .row 8 aty (all.map acA))], 1⟩
abbrev ordI (all : List Ac) (k : Nat) (a : Ac) (j : Nat) : AS :=
  ⟨[(5, bool true), (6, .slm {} 0 8 0 all.length), (8, .ptr 1 8 0 0), (41, .slm {} 0 8 0 all.length), (42, int all.length), (43, int k), (47, .slm {} 0 8 0 all.length), (48, int all.length), (49, int j)], [(0, .row 8 aty (all.map acA)), (1, .row 8 aty [acA a])], 2⟩
abbrev ordZ (all : List Ac) (k : Nat) (a : Ac) (j : Nat) (b : Ac) (x y : Bool) (i : Nat) : AS :=
  ⟨[(5, bool true), (6, .slm {} 0 8 0 all.length), (8, .ptr 1 8 0 0), (10, .ptr 2 8 0 0), (11, bool x), (12, bool y), (41, .slm {} 0 8 0 all.length), (42, int all.length), (43, int k), (47, .slm {} 0 8 0 all.length), (48, int all.length), (49, int j), (75, .slm {} 0 8 0 all.length), (76, int all.length), (77, int i)], [(0, .row 8 aty (all.map acA)), (1, .row 8 aty [acA a]), (2, .row 8 aty [acA b])], 3⟩
set_option maxHeartbeats 1600000 in
set_option maxRecDepth 100000 in
theorem eorder (L : List (Fl × List Int)) (fl : Fl) (hL : L.length ≤ 9223372036854775807) (hxs : ∀ x ∈ L, x.2.length ≤ 9223372036854775807) (q : Int × Int × Int) : AFun Try.prog 8 0 [.ro fl 1 (L.map iA), .agg [int q.1, int q.2.1, int q.2.2]] [] (bool true) [] := by
  obtain ⟨l, hm, hM⟩ := Made_c L fl hL hxs
  refine AFun.of_W T_ok mixed Try.func8 rfl (Nat.le_of_ble_eq_true rfl) rfl ?_
  by_cases h0 : l = []
  · subst h0
    ((repeat ((conv => whnf); (first | (refine LetN.pre ?_; first | ((conv => arg 1; whnf); refine LetN.mk ?_)) | (refine As.pre ?_; first | refine As.mk rfl ?_) | (refine LetI.pre ?_; first | refine LetI.mk _ rfl ?_) | (refine LetB.pre ?_; first | refine LetB.ff rfl ?_) | (refine Br.pre ?_; first | refine Br.ff rfl ?_) | (refine Ck.pre ?_; first | refine Ck.mk rfl ?_) | (refine LetL.pre ?_; first | refine LetL.mk _ rfl ?_) | (refine CallN.pre ?_; first | refine CallN.pure sanity_f rfl rfl ?_ | refine CallN.own (fun _ => 1) hM (CallOk.mk' rfl rfl rfl rfl rfl rfl trivial) ?_)))); (try (conv => whnf)))
    refine LoopN.round T_ok mixed rfl ?_
    ((repeat ((conv => whnf); (first | (refine As.pre ?_; first | refine As.mk rfl ?_) | (refine LetB.pre ?_; first | refine LetB.ff rfl ?_) | (refine Br.pre ?_; first | refine Br.ff rfl ?_) | (refine Ck.pre ?_; first | refine Ck.mk rfl ?_)))); (try (conv => whnf)))
    exact ⟨.inl rfl, ⟨_, rfl, rfl⟩, trivial⟩
  have hpos : 0 < l.length := List.length_pos_iff.2 h0
  obtain ⟨hm1, hm2⟩ := hm
  obtain ⟨u, hu⟩ : ∃ u : Int, u = IntKind.u64.wrap q.2.2 := ⟨_, rfl⟩
  have hub : 0 ≤ u := by rw [hu]; exact Int.emod_nonneg _ (by decide)
  have hn : (l.length : Int) = IntKind.u64.wrap (l.length : Int) := by
    show _ = (l.length : Int) % _
    rw [Int.emod_eq_of_lt (by omega) (by have : (l.length : Int) ≤ 8 := by omega
                                         exact Int.lt_of_le_of_lt this (by decide))]
  obtain ⟨k, hk, hkk⟩ : ∃ k : Nat, k < l.length ∧ (k : Int) = u.tmod (l.length : Int) := by
    have h1 := Int.tmod_nonneg (l.length : Int) hub
    have h2 := Int.tmod_lt_of_pos u (b := (l.length : Int)) (by omega)
    exact ⟨(u.tmod (l.length : Int)).toNat, by omega, by omega⟩
  have hnz : ((l.length : Int) != 0) = true := bne_iff_ne.2 (by omega)
  have hwk : (k : Int) = IntKind.i64.wrap (k : Int) := (wrap_id (by omega) (by omega)).symm
  have hld := row_ac hk
  have hok : ∀ a ∈ l, a.src.length ≤ 2 ∧ a.path.length ≤ 1 := fun a ha => by
    obtain ⟨h1, h2⟩ := hm2 a ha
    refine ⟨h2, ?_⟩
    rcases h1 with ⟨_, h⟩ | ⟨_, h⟩ <;> rw [h] <;> simp
  have hka := hok _ (getD_mem hk)
  obtain ⟨o, ho, hO⟩ := Odd_f (l.getD k ac0) (q.1, q.2.1) (by omega)
  have hml : (l.map acA).length = l.length := List.length_map _
  have hr := room_ach (n := l.length + 1) (by omega)
  have hall : ∀ a ∈ l ++ [o], okA a := fun a ha => by
    rcases List.mem_append.1 ha with h | h
    · have := hok a h; omega
    · simp only [List.mem_cons, List.not_mem_nil, or_false] at h
      subst h
      have := ho.1
      have := ho.2
      omega
  have hlen : (l ++ [o]).length = l.length + 1 := by simp
  have happ := app_ac l o l.length rfl
  generalize l.getD k ac0 = a0 at hld hO
  ((repeat ((conv => whnf); (first | (refine LetN.pre ?_; first | ((conv => arg 1; whnf); refine LetN.mk ?_)) | (refine As.pre ?_; first | refine As.mk rfl ?_ | refine As.mk hnz ?_ | (refine As.mk ?_ ?_; · ((repeat' (refine andT ?_ ?_)) <;> (first | rfl | assumption | exact decide_eq_true (by omega) | exact decide_eq_true (by dsimp only; omega) | exact decide_eq_true (by simp; omega) | (simp; done))))) | (refine LetV.pre ?_; first | refine LetV.mk (t := aty) _ hld ?_ | refine LetV.mk (.sc (.int _ _)) rfl ?_) | (refine LetI.pre ?_; first | refine LetI.mk (o := none) u hu ?_ | refine LetI.mk (o := none) (l.length : Int) hn ?_ | refine LetI.mk (o := some .rem) (k : Int) hkk ?_ | refine LetI.mk (o := none) (k : Int) hwk ?_ | refine LetI.mk _ rfl ?_) | (refine LetB.pre ?_; first | refine LetB.dect (by omega) ?_) | (refine Br.pre ?_; first | refine Br.tt rfl ?_) | (refine Ck.pre ?_; first | refine Ck.drawn (by kernel_rfl) ?_ | refine Ck.mk rfl ?_) | (refine LetL.pre ?_; first | refine LetL.mk (ty := aty) _ (renL_none (pure_ac _)).symm ?_ | refine LetL.mk (ty := aty) _ happ ?_) | (refine CallN.pre ?_; first | refine CallN.pure sanity_f rfl rfl ?_ | refine CallN.own (fun _ => 1) hM (CallOk.mk' rfl rfl rfl rfl rfl (namesAll.row (pure_ac _) rfl) trivial) ?_ | refine CallN.pure hO rfl rfl ?_)))); (try (conv => whnf)))











  refine LoopN.weak (s1 := ordO (l ++ [o]) 0) ?sw1 ?_
  case sw1 => exact SW.mk (fun _ => 2) rfl rfl (acs_names _ _ _ rfl) ⟨.refl _, VLe2.slm_of hlen, VLe2.slm_of hlen, VLe2.int (by rw [hlen]; rfl), .refl _, trivial⟩ (haveV.row (pure_ac _) rfl trivial)
  have hlen2 : (l ++ [o]).length ≤ 9 := by omega
  clear happ hO hM hm1 hm2 hld hka hok hr hkk hwk hnz hn hub hlen ho
  generalize l ++ [o] = all at hall hlen2 ⊢
  clear hk
  have hma : (all.map acA).length = all.length := List.length_map _
  refine LoopN.ind T_ok mixed (S := ordO all) (fun k => all.length - k) (fun k => k ≤ all.length) (fun _ => rfl) (fun k hk ih => ?_) 0 (Nat.zero_le _)
  by_cases hlt : k < all.length
  case neg =>
    clear ih
    ((repeat ((conv => whnf); (first | (refine As.pre ?_; first | refine As.mk rfl ?_) | (refine LetB.pre ?_; first | refine LetB.decf (by omega) ?_) | (refine Br.pre ?_; first | refine Br.ff rfl ?_) | (refine Ck.pre ?_; first | refine Ck.mk rfl ?_)))); (try (conv => whnf)))
    exact ⟨.inl rfl, ⟨_, rfl, rfl⟩, trivial⟩
  have hld := row_ac hlt
  have ha := hall _ (getD_mem hlt)
  generalize all.getD k ac0 = a at hld ha
  ((repeat ((conv => whnf); (first | (refine LetN.pre ?_; first | ((conv => arg 1; whnf); refine LetN.mk ?_)) | (refine As.pre ?_; first | refine As.mk rfl ?_ | (refine As.mk ?_ ?_; · ((repeat' (refine andT ?_ ?_)) <;> (first | rfl | assumption | exact decide_eq_true (by omega) | exact decide_eq_true (by dsimp only; omega) | exact decide_eq_true (by simp; omega) | (simp; done))))) | (refine LetV.pre ?_; first | refine LetV.mk (t := aty) _ hld ?_) | (refine LetI.pre ?_; first | refine LetI.mk _ rfl ?_) | (refine LetB.pre ?_; first | refine LetB.dect (by omega) ?_) | (refine Br.pre ?_; first | refine Br.tt rfl ?_) | (refine Ck.pre ?_; first | refine Ck.mk rfl ?_) | (refine LetL.pre ?_; first | refine LetL.mk [_] rfl ?_)))); (try (conv => whnf)))
  refine LoopN.weak (s1 := ordI all k a 0) ?sw2 ?_
  case sw2 => exact SW.mk id rfl rfl (acs_names _ _ _ rfl) ⟨.refl _, .refl _, .refl _, .refl _, .refl _, .refl _, .refl _, .refl _, .refl _, trivial⟩ (haveV.row (pure_ac _) rfl (haveV.row rfl rfl trivial))
  clear hld
  refine LoopN.ind T_ok mixed (S := ordI all k a) (fun j => all.length - j) (fun j => j ≤ all.length) (fun _ => rfl) (fun j hj ihj => ?_) 0 (Nat.zero_le _)
  by_cases hlj : j < all.length
  case neg =>
    clear ihj
    ((repeat ((conv => whnf); (first | (refine As.pre ?_; first | refine As.mk rfl ?_) | (refine LetI.pre ?_; first | refine LetI.wrap (by omega) (by omega) ?_) | (refine LetB.pre ?_; first | refine LetB.decf (by omega) ?_) | (refine Br.pre ?_; first | refine Br.ff rfl ?_) | (refine Ck.pre ?_; first | refine Ck.mk rfl ?_)))); (try (conv => whnf)))
    refine LoopN.weak ?sw4 (ih (k + 1) (by omega) (by omega))
    case sw4 => exact SW.mk id rfl rfl (acs_names _ _ _ rfl) ⟨.refl _, .refl _, .refl _, .refl _, VLe2.int (by omega), trivial⟩ (haveV.row (pure_ac _) rfl trivial)
  clear ih
  have hld := row_ac hlj
  have hb := hall _ (getD_mem hlj)
  generalize all.getD j ac0 = b at hld hb
  have h1 := LessA_f a b ha hb
  have h2 := LessA_f b a hb ha
  have h3 := SameA_f a b ha hb
  have hneg := P3.cmpA.neg a b
  have htr := P3.cmpA.tr a b
  have hxy : ∃ x y s : Bool, decide (cmpA a b < 0) = x ∧ decide (cmpA b a < 0) = y ∧ decide (cmpA a b = 0) = s ∧ (x = true ∧ y = false ∧ s = false ∨ x = false ∧ y = false ∧ s = true ∨ x = false ∧ y = true ∧ s = false) := by
    refine ⟨_, _, _, rfl, rfl, rfl, ?_⟩
    rw [hneg]
    have : cmpA a b < 0 ∨ cmpA a b = 0 ∨ 0 < cmpA a b := by omega
    rcases this with h | h | h
    · exact .inl ⟨decide_eq_true h, decide_eq_false (by omega), decide_eq_false (by omega)⟩
    · exact .inr (.inl ⟨decide_eq_false (by omega), decide_eq_false (by omega), decide_eq_true h⟩)
    · exact .inr (.inr ⟨decide_eq_false (by omega), decide_eq_true (by omega), decide_eq_false (by omega)⟩)
  obtain ⟨x, y, s, hx, hy, hs, hxy⟩ := hxy
  rw [hx] at h1
  rw [hy] at h2
  rw [hs] at h3
  have hz : ∀ z : Ac, x = true → cmpA b z < 0 → cmpA a z < 0 := fun z hxt h => by
    rw [hxt] at hx
    have h5 := of_decide_eq_true hx
    have h6 := htr z (by omega) (by omega)
    omega
  clear hx hy hs hneg htr
  rcases hxy with ⟨rfl, rfl, rfl⟩ | ⟨rfl, rfl, rfl⟩ | ⟨rfl, rfl, rfl⟩
  · ((repeat ((conv => whnf); (first | (refine LetN.pre ?_; first | ((conv => arg 1; whnf); refine LetN.mk ?_)) | (refine As.pre ?_; first | refine As.mk rfl ?_ | (refine As.mk ?_ ?_; · ((repeat' (refine andT ?_ ?_)) <;> (first | rfl | assumption | exact decide_eq_true (by omega) | exact decide_eq_true (by dsimp only; omega) | exact decide_eq_true (by simp; omega) | (simp; done))))) | (refine LetV.pre ?_; first | refine LetV.mk (t := aty) _ hld ?_ | refine LetV.mk (.agg _) rfl ?_) | (refine LetI.pre ?_; first | refine LetI.mk _ rfl ?_) | (refine LetB.pre ?_; first | refine LetB.ff rfl ?_ | refine LetB.dect (by omega) ?_) | (refine Gd.pre ?_; first | refine Gd.run rfl ?_ | refine Gd.pass rfl ?_) | (refine Br.pre ?_; first | refine Br.tt rfl ?_ | refine Br.ff rfl ?_) | (refine Ck.pre ?_; first | refine Ck.drawn (by kernel_rfl) ?_ | refine Ck.mk rfl ?_) | (refine LetL.pre ?_; first | refine LetL.mk [_] rfl ?_) | (refine CallN.pre ?_; first | refine CallN.pure h1 rfl rfl ?_ | refine CallN.pure h2 rfl rfl ?_ | refine CallN.pure h3 rfl rfl ?_)))); (try (conv => whnf)))




    refine LoopN.weak (s1 := ordZ all k a j b true false 0) ?sw5a ?_
    case sw5a => exact SW.mk id rfl rfl (acs_names _ _ _ rfl) ⟨.refl _, .refl _, .refl _, .refl _, .refl _, .refl _, .refl _, .refl _, .refl _, .refl _, .refl _, .refl _, .refl _, .refl _, .refl _, trivial⟩ (haveV.row (pure_ac _) rfl (haveV.row rfl rfl (haveV.row rfl rfl trivial)))
    clear h1 h2 h3 hld
    refine LoopN.ind T_ok mixed (S := ordZ all k a j b true false) (fun i => all.length - i) (fun i => i ≤ all.length) (fun _ => rfl) (fun i hi ihi => ?_) 0 (Nat.zero_le _)
    by_cases hli : i < all.length
    case neg =>
      clear ihi
      ((repeat ((conv => whnf); (first | (refine As.pre ?_; first | refine As.mk rfl ?_) | (refine LetI.pre ?_; first | refine LetI.wrap (by omega) (by omega) ?_) | (refine LetB.pre ?_; first | refine LetB.decf (by omega) ?_) | (refine Br.pre ?_; first | refine Br.ff rfl ?_) | (refine Ck.pre ?_; first | refine Ck.mk rfl ?_)))); (try (conv => whnf)))
      refine LoopN.weak ?sw6a (ihj (j + 1) (by omega) (by omega))
      case sw6a => exact SW.mk id rfl rfl (acs_names _ _ _ rfl) ⟨.refl _, .refl _, .refl _, .refl _, .refl _, .refl _, .refl _, .refl _, VLe2.int (by omega), trivial⟩ (haveV.row (pure_ac _) rfl (haveV.row rfl rfl trivial))
    clear ihj
    have hld := row_ac hli
    have hzz := hall _ (getD_mem hli)
    generalize all.getD i ac0 = z at hld hzz
    have sw7 := ihi (i + 1) (by omega) (by omega)
    clear ihi
    have h1 := LessA_f b z hb hzz
    have h2 := LessA_f a z ha hzz
    have hz := hz z rfl
    by_cases hu : cmpA b z < 0
    · rw [decide_eq_true hu] at h1
      rw [decide_eq_true (hz hu)] at h2
      ((repeat ((conv => whnf); (first | (refine LetN.pre ?_; first | ((conv => arg 1; whnf); refine LetN.mk ?_)) | (refine As.pre ?_; first | refine As.mk rfl ?_ | (refine As.mk ?_ ?_; · ((repeat' (refine andT ?_ ?_)) <;> (first | rfl | assumption | exact decide_eq_true (by omega) | exact decide_eq_true (by dsimp only; omega) | exact decide_eq_true (by simp; omega) | (simp; done))))) | (refine LetV.pre ?_; first | refine LetV.mk (t := aty) _ hld ?_ | refine LetV.mk (.agg _) rfl ?_) | (refine LetI.pre ?_; first | refine LetI.wrap (by omega) (by omega) ?_) | (refine LetB.pre ?_; first | refine LetB.dect (by omega) ?_) | (refine Gd.pre ?_; first | refine Gd.run rfl ?_) | (refine Br.pre ?_; first | refine Br.tt rfl ?_ | refine Br.ff rfl ?_) | (refine Ck.pre ?_; first | refine Ck.mk rfl ?_) | (refine LetL.pre ?_; first | refine LetL.mk [_] rfl ?_) | (refine CallN.pre ?_; first | refine CallN.pure h1 rfl rfl ?_ | refine CallN.pure h2 rfl rfl ?_)))); (try (conv => whnf)))
      refine LoopN.weak ?sw7a sw7
      case sw7a => exact SW.mk id rfl rfl (acs_names _ _ _ rfl) ⟨.refl _, .refl _, .refl _, .refl _, .refl _, .refl _, .refl _, .refl _, .refl _, .refl _, .refl _, .refl _, .refl _, .refl _, VLe2.int (by omega), trivial⟩ (haveV.row (pure_ac _) rfl (haveV.row rfl rfl (haveV.row rfl rfl trivial)))
    · rw [decide_eq_false hu] at h1
      ((repeat ((conv => whnf); (first | (refine LetN.pre ?_; first | ((conv => arg 1; whnf); refine LetN.mk ?_)) | (refine As.pre ?_; first | refine As.mk rfl ?_ | (refine As.mk ?_ ?_; · ((repeat' (refine andT ?_ ?_)) <;> (first | rfl | assumption | exact decide_eq_true (by omega) | exact decide_eq_true (by dsimp only; omega) | exact decide_eq_true (by simp; omega) | (simp; done))))) | (refine LetV.pre ?_; first | refine LetV.mk (t := aty) _ hld ?_ | refine LetV.mk (.agg _) rfl ?_) | (refine LetI.pre ?_; first | refine LetI.wrap (by omega) (by omega) ?_) | (refine LetB.pre ?_; first | refine LetB.dect (by omega) ?_) | (refine Gd.pre ?_; first | refine Gd.run rfl ?_ | refine Gd.pass rfl ?_) | (refine Br.pre ?_; first | refine Br.tt rfl ?_ | refine Br.ff rfl ?_) | (refine Ck.pre ?_; first | refine Ck.mk rfl ?_) | (refine LetL.pre ?_; first | refine LetL.mk [_] rfl ?_) | (refine CallN.pre ?_; first | refine CallN.pure h1 rfl rfl ?_)))); (try (conv => whnf)))
      refine LoopN.weak ?sw8a sw7
      case sw8a => exact SW.mk id rfl rfl (acs_names _ _ _ rfl) ⟨.refl _, .refl _, .refl _, .refl _, .refl _, .refl _, .refl _, .refl _, .refl _, .refl _, .refl _, .refl _, .refl _, .refl _, VLe2.int (by omega), trivial⟩ (haveV.row (pure_ac _) rfl (haveV.row rfl rfl (haveV.row rfl rfl trivial)))
  · ((repeat ((conv => whnf); (first | (refine LetN.pre ?_; first | ((conv => arg 1; whnf); refine LetN.mk ?_)) | (refine As.pre ?_; first | refine As.mk rfl ?_ | (refine As.mk ?_ ?_; · ((repeat' (refine andT ?_ ?_)) <;> (first | rfl | assumption | exact decide_eq_true (by omega) | exact decide_eq_true (by dsimp only; omega) | exact decide_eq_true (by simp; omega) | (simp; done))))) | (refine LetV.pre ?_; first | refine LetV.mk (t := aty) _ hld ?_ | refine LetV.mk (.agg _) rfl ?_) | (refine LetI.pre ?_; first | refine LetI.mk _ rfl ?_) | (refine LetB.pre ?_; first | refine LetB.ff rfl ?_ | refine LetB.dect (by omega) ?_) | (refine Gd.pre ?_; first | refine Gd.run rfl ?_ | refine Gd.pass rfl ?_) | (refine Br.pre ?_; first | refine Br.tt rfl ?_ | refine Br.ff rfl ?_) | (refine Ck.pre ?_; first | refine Ck.drawn (by kernel_rfl) ?_ | refine Ck.mk rfl ?_) | (refine LetL.pre ?_; first | refine LetL.mk [_] rfl ?_) | (refine CallN.pre ?_; first | refine CallN.pure h1 rfl rfl ?_ | refine CallN.pure h2 rfl rfl ?_ | refine CallN.pure h3 rfl rfl ?_)))); (try (conv => whnf)))




    refine LoopN.weak (s1 := ordZ all k a j b false false 0) ?sw5b ?_
    case sw5b => exact SW.mk id rfl rfl (acs_names _ _ _ rfl) ⟨.refl _, .refl _, .refl _, .refl _, .refl _, .refl _, .refl _, .refl _, .refl _, .refl _, .refl _, .refl _, .refl _, .refl _, .refl _, trivial⟩ (haveV.row (pure_ac _) rfl (haveV.row rfl rfl (haveV.row rfl rfl trivial)))
    clear h1 h2 h3 hld
    refine LoopN.ind T_ok mixed (S := ordZ all k a j b false false) (fun i => all.length - i) (fun i => i ≤ all.length) (fun _ => rfl) (fun i hi ihi => ?_) 0 (Nat.zero_le _)
    by_cases hli : i < all.length
    case neg =>
      clear ihi
      ((repeat ((conv => whnf); (first | (refine As.pre ?_; first | refine As.mk rfl ?_) | (refine LetI.pre ?_; first | refine LetI.wrap (by omega) (by omega) ?_) | (refine LetB.pre ?_; first | refine LetB.decf (by omega) ?_) | (refine Br.pre ?_; first | refine Br.ff rfl ?_) | (refine Ck.pre ?_; first | refine Ck.mk rfl ?_)))); (try (conv => whnf)))
      refine LoopN.weak ?sw6b (ihj (j + 1) (by omega) (by omega))
      case sw6b => exact SW.mk id rfl rfl (acs_names _ _ _ rfl) ⟨.refl _, .refl _, .refl _, .refl _, .refl _, .refl _, .refl _, .refl _, VLe2.int (by omega), trivial⟩ (haveV.row (pure_ac _) rfl (haveV.row rfl rfl trivial))
    clear ihj
    have hld := row_ac hli
    have hzz := hall _ (getD_mem hli)
    generalize all.getD i ac0 = z at hld hzz
    have sw7 := ihi (i + 1) (by omega) (by omega)
    clear ihi
    ((repeat ((conv => whnf); (first | (refine LetN.pre ?_; first | ((conv => arg 1; whnf); refine LetN.mk ?_)) | (refine As.pre ?_; first | refine As.mk rfl ?_ | (refine As.mk ?_ ?_; · ((repeat' (refine andT ?_ ?_)) <;> (first | rfl | assumption | exact decide_eq_true (by omega) | exact decide_eq_true (by dsimp only; omega) | exact decide_eq_true (by simp; omega) | (simp; done))))) | (refine LetV.pre ?_; first | refine LetV.mk (t := aty) _ hld ?_) | (refine LetI.pre ?_; first | refine LetI.wrap (by omega) (by omega) ?_) | (refine LetB.pre ?_; first | refine LetB.dect (by omega) ?_) | (refine Gd.pre ?_; first | refine Gd.pass rfl ?_) | (refine Br.pre ?_; first | refine Br.tt rfl ?_ | refine Br.ff rfl ?_) | (refine Ck.pre ?_; first | refine Ck.mk rfl ?_) | (refine LetL.pre ?_; first | refine LetL.mk [_] rfl ?_)))); (try (conv => whnf)))
    refine LoopN.weak ?sw7b sw7
    case sw7b => exact SW.mk id rfl rfl (acs_names _ _ _ rfl) ⟨.refl _, .refl _, .refl _, .refl _, .refl _, .refl _, .refl _, .refl _, .refl _, .refl _, .refl _, .refl _, .refl _, .refl _, VLe2.int (by omega), trivial⟩ (haveV.row (pure_ac _) rfl (haveV.row rfl rfl (haveV.row rfl rfl trivial)))
  · ((repeat ((conv => whnf); (first | (refine LetN.pre ?_; first | ((conv => arg 1; whnf); refine LetN.mk ?_)) | (refine As.pre ?_; first | refine As.mk rfl ?_ | (refine As.mk ?_ ?_; · ((repeat' (refine andT ?_ ?_)) <;> (first | rfl | assumption | exact decide_eq_true (by omega) | exact decide_eq_true (by dsimp only; omega) | exact decide_eq_true (by simp; omega) | (simp; done))))) | (refine LetV.pre ?_; first | refine LetV.mk (t := aty) _ hld ?_ | refine LetV.mk (.agg _) rfl ?_) | (refine LetI.pre ?_; first | refine LetI.mk _ rfl ?_) | (refine LetB.pre ?_; first | refine LetB.ff rfl ?_ | refine LetB.dect (by omega) ?_) | (refine Gd.pre ?_; first | refine Gd.run rfl ?_ | refine Gd.pass rfl ?_) | (refine Br.pre ?_; first | refine Br.tt rfl ?_ | refine Br.ff rfl ?_) | (refine Ck.pre ?_; first | refine Ck.drawn (by kernel_rfl) ?_ | refine Ck.mk rfl ?_) | (refine LetL.pre ?_; first | refine LetL.mk [_] rfl ?_) | (refine CallN.pre ?_; first | refine CallN.pure h1 rfl rfl ?_ | refine CallN.pure h2 rfl rfl ?_ | refine CallN.pure h3 rfl rfl ?_)))); (try (conv => whnf)))




    refine LoopN.weak (s1 := ordZ all k a j b false true 0) ?sw5c ?_
    case sw5c => exact SW.mk id rfl rfl (acs_names _ _ _ rfl) ⟨.refl _, .refl _, .refl _, .refl _, .refl _, .refl _, .refl _, .refl _, .refl _, .refl _, .refl _, .refl _, .refl _, .refl _, .refl _, trivial⟩ (haveV.row (pure_ac _) rfl (haveV.row rfl rfl (haveV.row rfl rfl trivial)))
    clear h1 h2 h3 hld
    refine LoopN.ind T_ok mixed (S := ordZ all k a j b false true) (fun i => all.length - i) (fun i => i ≤ all.length) (fun _ => rfl) (fun i hi ihi => ?_) 0 (Nat.zero_le _)
    by_cases hli : i < all.length
    case neg =>
      clear ihi
      ((repeat ((conv => whnf); (first | (refine As.pre ?_; first | refine As.mk rfl ?_) | (refine LetI.pre ?_; first | refine LetI.wrap (by omega) (by omega) ?_) | (refine LetB.pre ?_; first | refine LetB.decf (by omega) ?_) | (refine Br.pre ?_; first | refine Br.ff rfl ?_) | (refine Ck.pre ?_; first | refine Ck.mk rfl ?_)))); (try (conv => whnf)))
      refine LoopN.weak ?sw6c (ihj (j + 1) (by omega) (by omega))
      case sw6c => exact SW.mk id rfl rfl (acs_names _ _ _ rfl) ⟨.refl _, .refl _, .refl _, .refl _, .refl _, .refl _, .refl _, .refl _, VLe2.int (by omega), trivial⟩ (haveV.row (pure_ac _) rfl (haveV.row rfl rfl trivial))
    clear ihj
    have hld := row_ac hli
    have hzz := hall _ (getD_mem hli)
    generalize all.getD i ac0 = z at hld hzz
    have sw7 := ihi (i + 1) (by omega) (by omega)
    clear ihi
    ((repeat ((conv => whnf); (first | (refine LetN.pre ?_; first | ((conv => arg 1; whnf); refine LetN.mk ?_)) | (refine As.pre ?_; first | refine As.mk rfl ?_ | (refine As.mk ?_ ?_; · ((repeat' (refine andT ?_ ?_)) <;> (first | rfl | assumption | exact decide_eq_true (by omega) | exact decide_eq_true (by dsimp only; omega) | exact decide_eq_true (by simp; omega) | (simp; done))))) | (refine LetV.pre ?_; first | refine LetV.mk (t := aty) _ hld ?_) | (refine LetI.pre ?_; first | refine LetI.wrap (by omega) (by omega) ?_) | (refine LetB.pre ?_; first | refine LetB.dect (by omega) ?_) | (refine Gd.pre ?_; first | refine Gd.pass rfl ?_) | (refine Br.pre ?_; first | refine Br.tt rfl ?_ | refine Br.ff rfl ?_) | (refine Ck.pre ?_; first | refine Ck.mk rfl ?_) | (refine LetL.pre ?_; first | refine LetL.mk [_] rfl ?_)))); (try (conv => whnf)))
    refine LoopN.weak ?sw7c sw7
    case sw7c => exact SW.mk id rfl rfl (acs_names _ _ _ rfl) ⟨.refl _, .refl _, .refl _, .refl _, .refl _, .refl _, .refl _, .refl _, .refl _, .refl _, .refl _, .refl _, .refl _, .refl _, VLe2.int (by omega), trivial⟩ (haveV.row (pure_ac _) rfl (haveV.row rfl rfl (haveV.row rfl rfl trivial)))
theorem eorder_row (x : List (List Int)) (hL : x.length ≤ 9223372036854775807) (hxs : ∀ l ∈ x, l.length ≤ 9223372036854775807) (q : Int × Int × Int) : AFun Try.prog 8 0 [.ro {} 1 (x.map fun l => .ro {} 1 (l.map int)), .agg [int q.1, int q.2.1, int q.2.2]] [] (bool true) [] := by
  have h := eorder (x.map fun l => (({} : Fl), l)) {} (by rw [List.length_map]; exact hL) (fun y hy => by
    obtain ⟨l, hl, rfl⟩ := List.mem_map.1 hy
    exact hxs l hl) q
  rw [List.map_map] at h
  exact h
end En
end Go.Proofs.Ytiefcppgbnfbfaa
