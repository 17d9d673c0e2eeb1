/- appealD: parts of the proof, DappealDTU DappealDTW DappealDTV. -/
import Derived.Test.YtgnakhljdjekbaaDoorL49
import Derived.Test.YtgnakhljdjekbaaDoorAmSH
import Derived.Test.YtgnakhljdjekbaaDoorL35
import Derived.Test.YtgnakhljdjekbaaDoorAmRX
import Derived.LaidMore
import Derived.LaidHandle
import Derived.OpenShut
import Derived.Stop.Joined
import Derived.ProofKit
set_option linter.all false
namespace Go.Proofs.YtgnakhljdjekbaaDoor
open Go.Proofs.YtgnakhljdjekbaaDoor.Am
set_option maxRecDepth 100000
namespace En
/-! ### AppealDiffers -/
theorem mis_self (a : List Fa) : misP a a = [] := by
  cases h : misP a a with
  | nil => rfl
  | cons x l =>
    have := ((mis_spec a a).2 x).1 (by rw [h]; exact List.mem_cons_self ..)
    exact absurd this.1 this.2
theorem upF_nodup {l : List Fa} (h : upF l) : l.Nodup := h.imp fun {a b} hab e => by
  subst e
  rw [ltF_irr] at hab; cases hab
theorem take_mem {l : List Fa} (h : l.Nodup) {j : Nat} (hj : j < l.length) : l.getD j fa0 ∉ l.take j ∧ ∀ x, x ∈ l.take (j + 1) ↔ x ∈ l.take j ∨ x = l.getD j fa0 := by
  rw [List.getD_eq_getElem?_getD, List.getElem?_eq_getElem hj]
  refine ⟨fun hm => ?_, fun x => ?_⟩
  · obtain ⟨i, hi, he⟩ := List.getElem_of_mem hm
    rw [List.getElem_take] at he
    rw [List.length_take] at hi
    have := (List.getElem_inj h).1 he
    omega
  · rw [List.take_succ_eq_append_getElem hj, List.mem_append, List.mem_singleton]; rfl
theorem erase_mem {M : List Fa} (h : M.Nodup) (f x : Fa) : x ∈ M.erase f ↔ x ∈ M ∧ x ≠ f := by
  rw [h.mem_erase_iff]; exact ⟨fun g => ⟨g.2, g.1⟩, fun g => ⟨g.2, g.1⟩⟩
/-- The map behind j changes. -/
structure DInv (a b : List Fa) (j : Nat) (came : Bool) (M : List Fa) : Prop where
  nd : M.Nodup
  sub : ∀ x ∈ M, x ∈ a ∨ x ∈ b
  g : j ≤ (misP a b).length → came = false ∧ ∀ x, x ∈ M ↔ x ∈ a ∧ x ∉ (misP a b).take j
  c : (misP a b).length ≤ j → ∀ x, x ∈ M ↔ (x ∈ a ∧ x ∉ misP a b) ∨ x ∈ (misP b a).take (j - (misP a b).length)
theorem DInv.nil (a b : List Fa) : DInv a b 0 false (a.foldl addM []) := by
  obtain ⟨h1, h2⟩ := adds_spec a [] List.nodup_nil
  refine ⟨h1, fun x hx => .inl (((h2 x).1 hx).resolve_left List.not_mem_nil), fun _ => ⟨rfl, fun x => by rw [h2]; simp⟩, fun h x => ?_⟩
  have : misP a b = [] := List.eq_nil_of_length_eq_zero (by omega)
  rw [h2, this]; simp
theorem DInv.gone {a b : List Fa} {j : Nat} {cm : Bool} {M : List Fa} (h : DInv a b j cm M) (hj : j < (misP a b).length) : (misP a b).getD j fa0 ∈ M ∧ DInv a b (j + 1) false (M.erase ((misP a b).getD j fa0)) := by
  obtain ⟨_, hg⟩ := h.g (by omega)
  have hG := mis_spec a b
  have hm := getD_memF hj
  obtain ⟨t1, t2⟩ := take_mem (upF_nodup hG.1) hj
  have hin : (misP a b).getD j fa0 ∈ M := (hg _).2 ⟨((hG.2 _).1 hm).1, t1⟩
  have key : ∀ x, x ∈ M.erase ((misP a b).getD j fa0) ↔ x ∈ a ∧ x ∉ (misP a b).take (j + 1) := fun x => by
    rw [erase_mem h.nd, hg, t2, not_or, and_assoc]
  refine ⟨hin, h.nd.erase _, fun x hx => h.sub x (List.mem_of_mem_erase hx), fun _ => ⟨rfl, key⟩, fun hl x => ?_⟩
  have e : j + 1 = (misP a b).length := by omega
  rw [key, e, List.take_length, Nat.sub_self]
  simp
theorem DInv.came {a b : List Fa} {j : Nat} {cm : Bool} {M : List Fa} (h : DInv a b j cm M) (hj : (misP a b).length ≤ j) (hj2 : j - (misP a b).length < (misP b a).length) :
    (misP b a).getD (j - (misP a b).length) fa0 ∉ M ∧ DInv a b (j + 1) true (M ++ [(misP b a).getD (j - (misP a b).length) fa0]) := by
  have hc := h.c hj
  have hC := mis_spec b a
  have hm := (hC.2 _).1 (getD_memF hj2)
  obtain ⟨t1, t2⟩ := take_mem (upF_nodup hC.1) hj2
  have hno : (misP b a).getD (j - (misP a b).length) fa0 ∉ M := fun hin => by
    rcases (hc _).1 hin with ⟨g, _⟩ | g
    · exact hm.2 g
    · exact t1 g
  refine ⟨hno, ?_, fun x hx => ?_, fun hl => by omega, fun _ x => ?_⟩
  · refine List.nodup_append.2 ⟨h.nd, List.pairwise_singleton _ _, fun y hy z hz => ?_⟩
    rw [List.mem_singleton.1 hz]
    rintro rfl
    exact hno hy
  · rcases List.mem_append.1 hx with g | g
    · exact h.sub x g
    · rw [List.mem_singleton.1 g]; exact .inr hm.1
  · rw [List.mem_append, List.mem_singleton, hc, show j + 1 - (misP a b).length = j - (misP a b).length + 1 by omega, t2, or_assoc]
theorem DInv.all {a b : List Fa} {j : Nat} {cm : Bool} {M : List Fa} (h : DInv a b j cm M) (hj : j = (misP a b).length + (misP b a).length) : ∀ x, x ∈ M ↔ x ∈ b := fun x => by
  rw [h.c (by omega), show j - (misP a b).length = (misP b a).length by omega, List.take_length, (mis_spec a b).2, (mis_spec b a).2]
  constructor
  · rintro (⟨h1, h2⟩ | ⟨h1, _⟩)
    · exact Classical.byContradiction fun g => h2 ⟨h1, g⟩
    · exact h1
  · intro hb
    by_cases ha : x ∈ a
    · exact .inl ⟨ha, fun g => g.2 hb⟩
    · exact .inr ⟨hb, ha⟩
theorem dif_len (a b : List Fa) (e : E) : (difP a b e).length = (misP a b).length + (misP b a).length := by
  rw [difP, List.length_append, List.length_map, List.length_map]
theorem dif_gone {a b : List Fa} (e : E) {j : Nat} (hj : j < (misP a b).length) : (difP a b e).getD j cg0 = goneP e ((misP a b).getD j fa0) := by
  rw [difP, List.getD_eq_getElem?_getD, List.getElem?_append_left (by rw [List.length_map]; exact hj), List.getElem?_map, List.getD_eq_getElem?_getD, List.getElem?_eq_getElem hj]; rfl
theorem dif_came {a b : List Fa} (e : E) {j : Nat} (hj : (misP a b).length ≤ j) (hj2 : j - (misP a b).length < (misP b a).length) : (difP a b e).getD j cg0 = cameP e ((misP b a).getD (j - (misP a b).length) fa0) := by
  rw [difP, List.getD_eq_getElem?_getD, List.getElem?_append_right (by rw [List.length_map]; exact hj), List.length_map, List.getElem?_map, List.getD_eq_getElem?_getD, List.getElem?_eq_getElem hj2]; rfl
theorem kvF_at {M : List Fa} {f : Fa} (h : f ∈ M) : ∃ i, findOk (kvF M) (kyF f) (some i) ∧ (kvF M).set i (kyF f, bool true) = kvF M ∧ (kvF M).eraseIdx i = kvF (M.erase f) ∧ bool true = kvAt (kvF M) i := by
  obtain ⟨i, ⟨v, h1⟩, h2, h3⟩ := kvF_some h
  refine ⟨i, ⟨v, h1⟩, h2, h3, ?_⟩
  have hm := List.mem_of_getElem? h1
  obtain ⟨g, _, hg⟩ := List.mem_map.1 hm
  have e : v = bool true := (congrArg Prod.snd hg).symm
  rw [kvAt, List.getD_eq_getElem?_getD, h1, e]; rfl
abbrev w16 (v : Int) : AV := .sc (.int .u16 v)
abbrev eD (id day : Int) : E := ⟨id, 0, 0, 0, day, 0, ⟨#[]⟩, 0, 0, 0, 0, 0, 0, 0, ⟨#[]⟩⟩
abbrev df1 (a b : List Fa) (id day : Int) : Nat × Nat × List Fa → AS
  | (k, ck, M) => ⟨[(2, int id), (3, w16 day), (9, bool true), (10, .ro {} 7 (a.map fa)), (11, .ro {} 7 (b.map fa)), (12, .mp 0), (30, .ro {} 7 (a.map fa)), (31, int a.length), (32, int k)], [(0, .map ck (kvF M))], 1⟩
abbrev df1e (a b : List Fa) (id day : Int) : Nat × List Fa → AS
  | (ck, M) => ⟨[(2, int id), (3, w16 day), (9, bool true), (10, .ro {} 7 (a.map fa)), (11, .ro {} 7 (b.map fa)), (12, .mp 0)], [(0, .map ck (kvF M))], 1⟩
abbrev dfH (e : E) (ck : Nat) (M : List Fa) : AH := [(0, .map ck (kvF M)), (1, .row 15 ety [en e])]
abbrev df2 (a b : List Fa) (e : E) (D : List Cg) : Nat × Bool × Nat × List Fa → AS
  | (j, came, ck, M) => ⟨[(2, int e.id), (9, bool true), (10, .ro {} 7 (a.map fa)), (11, .ro {} 7 (b.map fa)), (12, .mp 0), (15, .ptr 1 15 0 0), (16, bool came), (47, .ro {} 10 (D.map cgA)), (48, int D.length), (49, int j)], dfH e ck M, 2⟩
abbrev df2s (a b : List Fa) (e : E) : Nat × List Fa → AS
  | (ck, M) => ⟨[(2, int e.id), (9, bool true), (10, .ro {} 7 (a.map fa)), (11, .ro {} 7 (b.map fa)), (12, .mp 0), (15, .ptr 1 15 0 0), (16, bool false)], dfH e ck M, 2⟩
abbrev df2e (a b : List Fa) (e : E) : Nat × List Fa → AS
  | (ck, M) => ⟨[(9, bool true), (10, .ro {} 7 (a.map fa)), (11, .ro {} 7 (b.map fa)), (12, .mp 0), (15, .ptr 1 15 0 0)], dfH e ck M, 2⟩
abbrev df3 (a b : List Fa) (e : E) (ck : Nat) (M : List Fa) (k : Nat) : AS :=
  ⟨[(9, bool true), (10, .ro {} 7 (a.map fa)), (11, .ro {} 7 (b.map fa)), (12, .mp 0), (15, .ptr 1 15 0 0), (135, .ro {} 7 (b.map fa)), (136, int b.length), (137, int k)], dfH e ck M, 2⟩
abbrev df4 (a b : List Fa) (e : E) (ck : Nat) (M : List Fa) : Nat × Nat × List Fa → AS
  | (k, ck2, N) => ⟨[(9, bool true), (10, .ro {} 7 (a.map fa)), (12, .mp 0), (15, .ptr 1 15 0 0), (21, .mp 2), (147, .ro {} 7 (b.map fa)), (148, int b.length), (149, int k)], dfH e ck M ++ [(2, .map ck2 (kvF N))], 3⟩
abbrev df4e (a : List Fa) (e : E) (ck : Nat) (M : List Fa) : Nat × List Fa → AS
  | (ck2, N) => ⟨[(9, bool true), (10, .ro {} 7 (a.map fa)), (12, .mp 0), (15, .ptr 1 15 0 0), (21, .mp 2)], dfH e ck M ++ [(2, .map ck2 (kvF N))], 3⟩
theorem dfN (e : E) (ck : Nat) (M : List Fa) (ok : Nat → Bool) : namesAll ok (dfH e ck M) = true := namesAll.map (kvF_pure M) (namesAll.row rfl rfl)
theorem df4N (e : E) (ck ck2 : Nat) (M N : List Fa) (ok : Nat → Bool) : namesAll ok (dfH e ck M ++ [(2, .map ck2 (kvF N))]) = true := namesAll.map (kvF_pure M) (namesAll.row rfl (namesAll.map (kvF_pure N) rfl))
set_option maxHeartbeats 6400000 in
set_option maxRecDepth 100000 in
theorem differsLaw_f (L1 L2 : List (Fl × List Int)) (id day : Int) (hL1 : L1.length ≤ 9223372036854775807) (hx1 : ∀ x ∈ L1, x.2.length ≤ 9223372036854775807) (hL2 : L2.length ≤ 9223372036854775807) (hx2 : ∀ x ∈ L2, x.2.length ≤ 9223372036854775807) (hd : 0 ≤ day ∧ day ≤ 65535) :
    AFun Tryd.prog 3 0 [.ro {} 1 (L1.map iA), .ro {} 1 (L2.map iA), int id, w16 day] [] (bool true) [] := by
  obtain ⟨a, ⟨la, Ma⟩, hA⟩ := Made24_f L1 {} hL1 hx1
  obtain ⟨b, ⟨lb, Mb⟩, hB⟩ := Made24_f L2 {} hL2 hx2
  have ka : ∀ x ∈ a, okF x := fun x hx => (Ma x hx).ok
  have kb : ∀ x ∈ b, okF x := fun x hx => (Mb x hx).ok
  have hma : (a.map fa).length = a.length := List.length_map _
  have hmb : (b.map fa).length = b.length := List.length_map _
  clear hx1 hx2 hL1 hL2
  refine AFun.of_VS T_ok Tryd.func3 rfl (Nat.le_of_ble_eq_true rfl) ?_
  refine VS.cut T_ok mixed rfl ?_
  ((repeat ((conv => whnf); (first | (refine LetN.pre ?_; first | ((conv => arg 1; whnf); refine LetN.mk ?_)) | (refine As.pre ?_; first | refine As.mk rfl ?_ | (refine As.mk ?_ ?_; · decide +kernel) | refine As.mk (andT (nor_self _) rfl) ?_ | refine As.mk (andT (nor_self _) (or_t _)) ?_ | refine As.mk (andT (or_t _) (or_nself _)) ?_ | refine As.mk (andT (or_t _) (or_t _)) ?_ | refine As.mk (andT (nor_self _) (andT (nor_self _) rfl)) ?_ | (refine As.mk ?_ ?_; · ((repeat' (refine andT ?_ ?_)) <;> (first | rfl | assumption | exact decide_eq_true (by omega) | exact decide_eq_true (by dsimp only; omega) | exact decide_eq_true (by simp; omega) | (simp; done))))) | (refine LetV.pre ?_; first | refine LetV.mk (.sc (.int _ _)) rfl ?_ | refine LetV.mk (.sc (.bool _)) rfl ?_ | refine LetV.mk (.sc _) rfl ?_ | refine LetV.mk (.agg _) rfl ?_ | refine LetV.mk (.slm _ _ _ _ _) rfl ?_ | refine LetV.mk (.ro _ _ _) rfl ?_ | refine LetV.mk (.ptr _ _ _ _) rfl ?_ | refine LetV.mk (.clo _ _ _) rfl ?_ | refine LetV.mk (.rp _ _) rfl ?_) | (refine LetI.pre ?_; first | refine LetI.wrap (by omega) (by omega) ?_ | refine LetI.mk _ rfl ?_) | (refine LetB.pre ?_; first | refine LetB.tt rfl ?_ | refine LetB.ff rfl ?_ | refine LetB.tt (by assumption) ?_ | refine LetB.ff (by assumption) ?_ | refine LetB.dect (by omega) ?_ | refine LetB.decf (by omega) ?_ | refine LetB.beqt (by omega) ?_ | refine LetB.beqf (by omega) ?_ | refine LetB.bnet (by omega) ?_ | refine LetB.bnef (by omega) ?_ | refine LetB.mk _ rfl ?_) | (refine Gd.pre ?_; first | refine Gd.run rfl ?_ | refine Gd.pass rfl ?_ | refine Gd.run (by assumption) ?_ | refine Gd.pass (by assumption) ?_ | (refine Gd.run ?_ ?_; · decide +kernel) | (refine Gd.pass ?_ ?_; · decide +kernel) | refine Gd.both ?_) | (refine Br.pre ?_; first | refine Br.tt rfl ?_ | refine Br.ff rfl ?_ | refine Br.tt (by assumption) ?_ | refine Br.ff (by assumption) ?_ | (refine Br.tt ?_ ?_; · decide +kernel) | (refine Br.ff ?_ ?_; · decide +kernel)) | (refine Ck.pre ?_; first | refine Ck.drawn (by kernel_rfl) ?_ | refine Ck.mk rfl ?_) | (refine LetL.pre ?_; first | refine LetL.mk [_] rfl ?_ | refine LetL.mk _ rfl ?_) | refine forceAs.pass ?_ | refine forceEs.pass ?_ | refine forceC.pass ?_))); (try (conv => whnf)))
  refine VS.cut T_ok mixed rfl ?_
  ((repeat ((conv => whnf); (first | (refine LetN.pre ?_; first | ((conv => arg 1; whnf); refine LetN.mk ?_)) | (refine As.pre ?_; first | refine As.mk rfl ?_ | (refine As.mk ?_ ?_; · decide +kernel) | refine As.mk (andT (nor_self _) rfl) ?_ | refine As.mk (andT (nor_self _) (or_t _)) ?_ | refine As.mk (andT (or_t _) (or_nself _)) ?_ | refine As.mk (andT (or_t _) (or_t _)) ?_ | refine As.mk (andT (nor_self _) (andT (nor_self _) rfl)) ?_ | (refine As.mk ?_ ?_; · ((repeat' (refine andT ?_ ?_)) <;> (first | rfl | assumption | exact decide_eq_true (by omega) | exact decide_eq_true (by dsimp only; omega) | exact decide_eq_true (by simp; omega) | (simp; done))))) | (refine LetV.pre ?_; first | refine LetV.mk (.sc (.int _ _)) rfl ?_ | refine LetV.mk (.sc (.bool _)) rfl ?_ | refine LetV.mk (.sc _) rfl ?_ | refine LetV.mk (.agg _) rfl ?_ | refine LetV.mk (.slm _ _ _ _ _) rfl ?_ | refine LetV.mk (.ro _ _ _) rfl ?_ | refine LetV.mk (.ptr _ _ _ _) rfl ?_ | refine LetV.mk (.clo _ _ _) rfl ?_ | refine LetV.mk (.rp _ _) rfl ?_) | (refine LetI.pre ?_; first | refine LetI.wrap (by omega) (by omega) ?_ | refine LetI.mk _ rfl ?_) | (refine LetB.pre ?_; first | refine LetB.tt rfl ?_ | refine LetB.ff rfl ?_ | refine LetB.tt (by assumption) ?_ | refine LetB.ff (by assumption) ?_ | refine LetB.dect (by omega) ?_ | refine LetB.decf (by omega) ?_ | refine LetB.beqt (by omega) ?_ | refine LetB.beqf (by omega) ?_ | refine LetB.bnet (by omega) ?_ | refine LetB.bnef (by omega) ?_ | refine LetB.mk _ rfl ?_) | (refine Gd.pre ?_; first | refine Gd.run rfl ?_ | refine Gd.pass rfl ?_ | refine Gd.run (by assumption) ?_ | refine Gd.pass (by assumption) ?_ | (refine Gd.run ?_ ?_; · decide +kernel) | (refine Gd.pass ?_ ?_; · decide +kernel) | refine Gd.both ?_) | (refine Br.pre ?_; first | refine Br.tt rfl ?_ | refine Br.ff rfl ?_ | refine Br.tt (by assumption) ?_ | refine Br.ff (by assumption) ?_ | (refine Br.tt ?_ ?_; · decide +kernel) | (refine Br.ff ?_ ?_; · decide +kernel)) | (refine Ck.pre ?_; first | refine Ck.drawn (by kernel_rfl) ?_ | refine Ck.mk rfl ?_) | (refine LetL.pre ?_; first | refine LetL.mk [_] rfl ?_ | refine LetL.mk _ rfl ?_) | (refine CallN.pre ?_; first | refine CallN.pure sanity_f rfl rfl ?_) | refine forceAs.pass ?_ | refine forceEs.pass ?_ | refine forceC.pass ?_))); (try (conv => whnf)))
  refine VS.cut T_ok mixed rfl ?_
  ((repeat ((conv => whnf); (first | (refine LetN.pre ?_; first | ((conv => arg 1; whnf); refine LetN.mk ?_)) | (refine As.pre ?_; first | refine As.mk rfl ?_ | (refine As.mk ?_ ?_; · decide +kernel) | refine As.mk (andT (nor_self _) rfl) ?_ | refine As.mk (andT (nor_self _) (or_t _)) ?_ | refine As.mk (andT (or_t _) (or_nself _)) ?_ | refine As.mk (andT (or_t _) (or_t _)) ?_ | refine As.mk (andT (nor_self _) (andT (nor_self _) rfl)) ?_ | (refine As.mk ?_ ?_; · ((repeat' (refine andT ?_ ?_)) <;> (first | rfl | assumption | exact decide_eq_true (by omega) | exact decide_eq_true (by dsimp only; omega) | exact decide_eq_true (by simp; omega) | (simp; done))))) | (refine LetV.pre ?_; first | refine LetV.mk (.sc (.int _ _)) rfl ?_ | refine LetV.mk (.sc (.bool _)) rfl ?_ | refine LetV.mk (.sc _) rfl ?_ | refine LetV.mk (.agg _) rfl ?_ | refine LetV.mk (.slm _ _ _ _ _) rfl ?_ | refine LetV.mk (.ro _ _ _) rfl ?_ | refine LetV.mk (.ptr _ _ _ _) rfl ?_ | refine LetV.mk (.clo _ _ _) rfl ?_ | refine LetV.mk (.rp _ _) rfl ?_) | (refine LetI.pre ?_; first | refine LetI.wrap (by omega) (by omega) ?_ | refine LetI.mk _ rfl ?_) | (refine LetB.pre ?_; first | refine LetB.tt rfl ?_ | refine LetB.ff rfl ?_ | refine LetB.tt (by assumption) ?_ | refine LetB.ff (by assumption) ?_ | refine LetB.dect (by omega) ?_ | refine LetB.decf (by omega) ?_ | refine LetB.beqt (by omega) ?_ | refine LetB.beqf (by omega) ?_ | refine LetB.bnet (by omega) ?_ | refine LetB.bnef (by omega) ?_ | refine LetB.mk _ rfl ?_) | (refine Gd.pre ?_; first | refine Gd.run rfl ?_ | refine Gd.pass rfl ?_ | refine Gd.run (by assumption) ?_ | refine Gd.pass (by assumption) ?_ | (refine Gd.run ?_ ?_; · decide +kernel) | (refine Gd.pass ?_ ?_; · decide +kernel) | refine Gd.both ?_) | (refine Br.pre ?_; first | refine Br.tt rfl ?_ | refine Br.ff rfl ?_ | refine Br.tt (by assumption) ?_ | refine Br.ff (by assumption) ?_ | (refine Br.tt ?_ ?_; · decide +kernel) | (refine Br.ff ?_ ?_; · decide +kernel)) | (refine Ck.pre ?_; first | refine Ck.drawn (by kernel_rfl) ?_ | refine Ck.mk rfl ?_) | (refine LetL.pre ?_; first | refine LetL.mk [_] rfl ?_ | refine LetL.mk _ rfl ?_) | (refine CallN.pre ?_; first | refine CallN.pure hA rfl rfl ?_ | refine CallN.pure hB rfl rfl ?_) | refine forceAs.pass ?_ | refine forceEs.pass ?_ | refine forceC.pass ?_))); (try (conv => whnf)))
  clear hA hB
  refine VS.cut T_ok mixed rfl ?_
  ((repeat ((conv => whnf); (first | (refine LetN.pre ?_; first | ((conv => arg 1; whnf); refine LetN.mk ?_)) | (refine As.pre ?_; first | refine As.mk rfl ?_ | (refine As.mk ?_ ?_; · decide +kernel) | refine As.mk (andT (nor_self _) rfl) ?_ | refine As.mk (andT (nor_self _) (or_t _)) ?_ | refine As.mk (andT (or_t _) (or_nself _)) ?_ | refine As.mk (andT (or_t _) (or_t _)) ?_ | refine As.mk (andT (nor_self _) (andT (nor_self _) rfl)) ?_ | (refine As.mk ?_ ?_; · ((repeat' (refine andT ?_ ?_)) <;> (first | rfl | assumption | exact decide_eq_true (by omega) | exact decide_eq_true (by dsimp only; omega) | exact decide_eq_true (by simp; omega) | (simp; done))))) | (refine LetV.pre ?_; first | refine LetV.mk (.sc (.int _ _)) rfl ?_ | refine LetV.mk (.sc (.bool _)) rfl ?_ | refine LetV.mk (.sc _) rfl ?_ | refine LetV.mk (.agg _) rfl ?_ | refine LetV.mk (.slm _ _ _ _ _) rfl ?_ | refine LetV.mk (.ro _ _ _) rfl ?_ | refine LetV.mk (.ptr _ _ _ _) rfl ?_ | refine LetV.mk (.clo _ _ _) rfl ?_ | refine LetV.mk (.rp _ _) rfl ?_) | (refine LetI.pre ?_; first | refine LetI.wrap (by omega) (by omega) ?_ | refine LetI.mk _ rfl ?_) | (refine LetB.pre ?_; first | refine LetB.tt rfl ?_ | refine LetB.ff rfl ?_ | refine LetB.tt (by assumption) ?_ | refine LetB.ff (by assumption) ?_ | refine LetB.dect (by omega) ?_ | refine LetB.decf (by omega) ?_ | refine LetB.beqt (by omega) ?_ | refine LetB.beqf (by omega) ?_ | refine LetB.bnet (by omega) ?_ | refine LetB.bnef (by omega) ?_ | refine LetB.mk _ rfl ?_) | (refine Gd.pre ?_; first | refine Gd.run rfl ?_ | refine Gd.pass rfl ?_ | refine Gd.run (by assumption) ?_ | refine Gd.pass (by assumption) ?_ | (refine Gd.run ?_ ?_; · decide +kernel) | (refine Gd.pass ?_ ?_; · decide +kernel) | refine Gd.both ?_) | (refine Br.pre ?_; first | refine Br.tt rfl ?_ | refine Br.ff rfl ?_ | refine Br.tt (by assumption) ?_ | refine Br.ff (by assumption) ?_ | (refine Br.tt ?_ ?_; · decide +kernel) | (refine Br.ff ?_ ?_; · decide +kernel)) | (refine Ck.pre ?_; first | refine Ck.drawn (by kernel_rfl) ?_ | refine Ck.mk rfl ?_) | (refine LetL.pre ?_; first | refine LetL.mk [_] rfl ?_ | refine LetL.mk _ rfl ?_) | refine forceAs.pass ?_ | refine forceEs.pass ?_ | refine forceC.pass ?_))); (try (conv => whnf)))
  refine VS.joinN (df1e a b id day) (fun q => q.2 = a.foldl addM []) ?l1 ?r1
  case l1 =>
    refine VS.of_V T_ok mixed rfl ?_
    ((repeat ((conv => whnf); (first | (refine LetN.pre ?_; first | ((conv => arg 1; whnf); refine LetN.mk ?_)) | (refine As.pre ?_; first | refine As.mk rfl ?_ | (refine As.mk ?_ ?_; · decide +kernel) | refine As.mk (andT (nor_self _) rfl) ?_ | refine As.mk (andT (nor_self _) (or_t _)) ?_ | refine As.mk (andT (or_t _) (or_nself _)) ?_ | refine As.mk (andT (or_t _) (or_t _)) ?_ | refine As.mk (andT (nor_self _) (andT (nor_self _) rfl)) ?_ | (refine As.mk ?_ ?_; · ((repeat' (refine andT ?_ ?_)) <;> (first | rfl | assumption | exact decide_eq_true (by omega) | exact decide_eq_true (by dsimp only; omega) | exact decide_eq_true (by simp; omega) | (simp; done))))) | (refine LetV.pre ?_; first | refine LetV.mk (.sc (.int _ _)) rfl ?_ | refine LetV.mk (.sc (.bool _)) rfl ?_ | refine LetV.mk (.sc _) rfl ?_ | refine LetV.mk (.agg _) rfl ?_ | refine LetV.mk (.slm _ _ _ _ _) rfl ?_ | refine LetV.mk (.ro _ _ _) rfl ?_ | refine LetV.mk (.ptr _ _ _ _) rfl ?_ | refine LetV.mk (.clo _ _ _) rfl ?_ | refine LetV.mk (.rp _ _) rfl ?_) | (refine LetI.pre ?_; first | refine LetI.wrap (by omega) (by omega) ?_ | refine LetI.mk _ rfl ?_) | (refine LetB.pre ?_; first | refine LetB.tt rfl ?_ | refine LetB.ff rfl ?_ | refine LetB.tt (by assumption) ?_ | refine LetB.ff (by assumption) ?_ | refine LetB.dect (by omega) ?_ | refine LetB.decf (by omega) ?_ | refine LetB.beqt (by omega) ?_ | refine LetB.beqf (by omega) ?_ | refine LetB.bnet (by omega) ?_ | refine LetB.bnef (by omega) ?_ | refine LetB.mk _ rfl ?_) | (refine Gd.pre ?_; first | refine Gd.run rfl ?_ | refine Gd.pass rfl ?_ | refine Gd.run (by assumption) ?_ | refine Gd.pass (by assumption) ?_ | (refine Gd.run ?_ ?_; · decide +kernel) | (refine Gd.pass ?_ ?_; · decide +kernel) | refine Gd.both ?_) | (refine Br.pre ?_; first | refine Br.tt rfl ?_ | refine Br.ff rfl ?_ | refine Br.tt (by assumption) ?_ | refine Br.ff (by assumption) ?_ | (refine Br.tt ?_ ?_; · decide +kernel) | (refine Br.ff ?_ ?_; · decide +kernel)) | (refine Ck.pre ?_; first | refine Ck.drawn (by kernel_rfl) ?_ | refine Ck.mk rfl ?_) | (refine LetL.pre ?_; first | refine LetL.mk [_] rfl ?_ | refine LetL.mk _ rfl ?_) | refine forceAs.pass ?_ | refine forceEs.pass ?_ | refine forceC.pass ?_))); (try (conv => whnf)))
    refine LoopN.weak (s1 := df1 a b id day (0, 0, [])) ?sw1 ?_
    case sw1 => exact SW.mk _root_.id rfl rfl (mN _ _ _) ⟨.refl _, .refl _, .refl _, .refl _, .refl _, .refl _, .refl _, VLe2.int (by rw [hma]), .refl _, trivial⟩ (haveV.map (kvF_pure _) rfl trivial)
    refine LoopN.ind T_ok mixed (S := df1 a b id day) (fun i => a.length - i.1) (fun i => i.1 ≤ a.length ∧ i.2.2 = (a.take i.1).foldl addM []) (fun _ => rfl) (fun i hi ih => ?_) (0, 0, []) ⟨Nat.zero_le _, rfl⟩
    obtain ⟨k, ck, M⟩ := i
    obtain ⟨h1, h2⟩ := hi
    dsimp only at h1 h2
    by_cases hlt : k < a.length
    case neg =>
      clear ih
      rw [List.take_of_length_le (by omega)] at h2
      ((repeat ((conv => whnf); (first | (refine LetN.pre ?_; first | ((conv => arg 1; whnf); refine LetN.mk ?_)) | (refine As.pre ?_; first | refine As.mk rfl ?_ | (refine As.mk ?_ ?_; · decide +kernel) | refine As.mk (andT (nor_self _) rfl) ?_ | refine As.mk (andT (nor_self _) (or_t _)) ?_ | refine As.mk (andT (or_t _) (or_nself _)) ?_ | refine As.mk (andT (or_t _) (or_t _)) ?_ | refine As.mk (andT (nor_self _) (andT (nor_self _) rfl)) ?_ | (refine As.mk ?_ ?_; · ((repeat' (refine andT ?_ ?_)) <;> (first | rfl | assumption | exact decide_eq_true (by omega) | exact decide_eq_true (by dsimp only; omega) | exact decide_eq_true (by simp; omega) | (simp; done))))) | (refine LetV.pre ?_; first | refine LetV.mk (.sc (.int _ _)) rfl ?_ | refine LetV.mk (.sc (.bool _)) rfl ?_ | refine LetV.mk (.sc _) rfl ?_ | refine LetV.mk (.agg _) rfl ?_ | refine LetV.mk (.slm _ _ _ _ _) rfl ?_ | refine LetV.mk (.ro _ _ _) rfl ?_ | refine LetV.mk (.ptr _ _ _ _) rfl ?_ | refine LetV.mk (.clo _ _ _) rfl ?_ | refine LetV.mk (.rp _ _) rfl ?_) | (refine LetI.pre ?_; first | refine LetI.wrap (by omega) (by omega) ?_ | refine LetI.mk _ rfl ?_) | (refine LetB.pre ?_; first | refine LetB.tt rfl ?_ | refine LetB.ff rfl ?_ | refine LetB.tt (by assumption) ?_ | refine LetB.ff (by assumption) ?_ | refine LetB.dect (by omega) ?_ | refine LetB.decf (by omega) ?_ | refine LetB.beqt (by omega) ?_ | refine LetB.beqf (by omega) ?_ | refine LetB.bnet (by omega) ?_ | refine LetB.bnef (by omega) ?_ | refine LetB.mk _ rfl ?_) | (refine Gd.pre ?_; first | refine Gd.run rfl ?_ | refine Gd.pass rfl ?_ | refine Gd.run (by assumption) ?_ | refine Gd.pass (by assumption) ?_ | (refine Gd.run ?_ ?_; · decide +kernel) | (refine Gd.pass ?_ ?_; · decide +kernel) | refine Gd.both ?_) | (refine Br.pre ?_; first | refine Br.tt rfl ?_ | refine Br.ff rfl ?_ | refine Br.tt (by assumption) ?_ | refine Br.ff (by assumption) ?_ | (refine Br.tt ?_ ?_; · decide +kernel) | (refine Br.ff ?_ ?_; · decide +kernel)) | (refine Ck.pre ?_; first | refine Ck.drawn (by kernel_rfl) ?_ | refine Ck.mk rfl ?_) | (refine LetL.pre ?_; first | refine LetL.mk [_] rfl ?_ | refine LetL.mk _ rfl ?_) | refine forceAs.pass ?_ | refine forceEs.pass ?_ | refine forceC.pass ?_))); (try (conv => whnf)))
      exact ⟨rfl, (ck, M), h2, SW.mk _root_.id rfl rfl (mN _ _ _) ⟨.refl _, .refl _, .refl _, .refl _, .refl _, .refl _, trivial⟩ (haveV.map (kvF_pure _) rfl trivial)⟩
    have hld := fa_ld hlt
    have hnx : ∀ ck', _ := fun ck' => ih (k + 1, ck', addM M (a.getD k fa0)) ⟨hlt, by rw [h2, foldl_at addM [] hlt fa0]⟩ (by show a.length - (k + 1) < a.length - k; omega)
    have hok : ∀ x ∈ M, okF x := by rw [h2]; exact foldl_ok fun x hx => ka x (List.mem_of_mem_take hx)
    have hky := keys_F hok (ka _ (getD_memF hlt))
    clear ih h2 ka kb Ma Mb
    generalize a.getD k fa0 = f at hld hnx hky
    by_cases hm : f ∈ M
    · obtain ⟨i, hfi, hset, _⟩ := kvF_some hm
      have e : addM M f = M := if_pos hm
      rw [e] at hnx
      ((repeat ((conv => whnf); (first | (refine LetN.pre ?_; first | ((conv => arg 1; whnf); refine LetN.mk ?_)) | (refine As.pre ?_; first | refine As.mk rfl ?_ | refine As.mk hky ?_ | (refine As.mk ?_ ?_; · decide +kernel) | refine As.mk (andT (nor_self _) rfl) ?_ | refine As.mk (andT (nor_self _) (or_t _)) ?_ | refine As.mk (andT (or_t _) (or_nself _)) ?_ | refine As.mk (andT (or_t _) (or_t _)) ?_ | refine As.mk (andT (nor_self _) (andT (nor_self _) rfl)) ?_ | (refine As.mk ?_ ?_; · ((repeat' (refine andT ?_ ?_)) <;> (first | rfl | assumption | exact decide_eq_true (by omega) | exact decide_eq_true (by dsimp only; omega) | exact decide_eq_true (by simp; omega) | (simp; done))))) | (refine LetV.pre ?_; first | refine LetV.mk (t := fsl) _ hld ?_ | refine LetV.mk (t := mty) (.mp _) rfl ?_ | refine LetV.mk (.sc (.int _ _)) rfl ?_ | refine LetV.mk (.sc (.bool _)) rfl ?_ | refine LetV.mk (.sc _) rfl ?_ | refine LetV.mk (.agg _) rfl ?_ | refine LetV.mk (.slm _ _ _ _ _) rfl ?_ | refine LetV.mk (.ro _ _ _) rfl ?_ | refine LetV.mk (.ptr _ _ _ _) rfl ?_ | refine LetV.mk (.clo _ _ _) rfl ?_ | refine LetV.mk (.rp _ _) rfl ?_) | (refine LetI.pre ?_; first | refine LetI.wrap (by omega) (by omega) ?_ | refine LetI.mk _ rfl ?_) | (refine LetB.pre ?_; first | refine LetB.tt rfl ?_ | refine LetB.ff rfl ?_ | refine LetB.tt (by assumption) ?_ | refine LetB.ff (by assumption) ?_ | refine LetB.dect (by omega) ?_ | refine LetB.decf (by omega) ?_ | refine LetB.beqt (by omega) ?_ | refine LetB.beqf (by omega) ?_ | refine LetB.bnet (by omega) ?_ | refine LetB.bnef (by omega) ?_ | refine LetB.mk _ rfl ?_) | (refine Gd.pre ?_; first | refine Gd.run rfl ?_ | refine Gd.pass rfl ?_ | refine Gd.run (by assumption) ?_ | refine Gd.pass (by assumption) ?_ | (refine Gd.run ?_ ?_; · decide +kernel) | (refine Gd.pass ?_ ?_; · decide +kernel) | refine Gd.both ?_) | (refine Br.pre ?_; first | refine Br.tt rfl ?_ | refine Br.ff rfl ?_ | refine Br.tt (by assumption) ?_ | refine Br.ff (by assumption) ?_ | (refine Br.tt ?_ ?_; · decide +kernel) | (refine Br.ff ?_ ?_; · decide +kernel)) | (refine Ck.pre ?_; first | refine Ck.drawn (by kernel_rfl) ?_ | refine Ck.mk rfl ?_) | (refine LetL.pre ?_; first | refine LetL.mk [_] rfl ?_ | refine LetL.mk _ rfl ?_) | (refine FindN.mk (some i) hfi ?_) | refine forceAs.pass ?_ | refine forceEs.pass ?_ | refine forceC.pass ?_))); (try (conv => whnf)))




      refine LoopN.weak ?sw2 (hnx ck)
      case sw2 => exact SW.mk _root_.id rfl rfl (mN _ _ _) ⟨.refl _, .refl _, .refl _, .refl _, .refl _, .refl _, .refl _, .refl _, VLe2.int (by omega), trivial⟩ (haveV.map (kvF_pure _) (congrArg (fun m => some (Blk.map ck m)) hset) trivial)
    · have hfi := kvF_none hm
      have e : addM M f = M ++ [f] := if_neg hm
      rw [e] at hnx
      ((repeat ((conv => whnf); (first | (refine LetN.pre ?_; first | ((conv => arg 1; whnf); refine LetN.mk ?_)) | (refine As.pre ?_; first | refine As.mk rfl ?_ | refine As.mk hky ?_ | (refine As.mk ?_ ?_; · decide +kernel) | refine As.mk (andT (nor_self _) rfl) ?_ | refine As.mk (andT (nor_self _) (or_t _)) ?_ | refine As.mk (andT (or_t _) (or_nself _)) ?_ | refine As.mk (andT (or_t _) (or_t _)) ?_ | refine As.mk (andT (nor_self _) (andT (nor_self _) rfl)) ?_ | (refine As.mk ?_ ?_; · ((repeat' (refine andT ?_ ?_)) <;> (first | rfl | assumption | exact decide_eq_true (by omega) | exact decide_eq_true (by dsimp only; omega) | exact decide_eq_true (by simp; omega) | (simp; done))))) | (refine LetV.pre ?_; first | refine LetV.mk (t := fsl) _ hld ?_ | refine LetV.mk (t := mty) (.mp _) rfl ?_ | refine LetV.mk (.sc (.int _ _)) rfl ?_ | refine LetV.mk (.sc (.bool _)) rfl ?_ | refine LetV.mk (.sc _) rfl ?_ | refine LetV.mk (.agg _) rfl ?_ | refine LetV.mk (.slm _ _ _ _ _) rfl ?_ | refine LetV.mk (.ro _ _ _) rfl ?_ | refine LetV.mk (.ptr _ _ _ _) rfl ?_ | refine LetV.mk (.clo _ _ _) rfl ?_ | refine LetV.mk (.rp _ _) rfl ?_) | (refine LetI.pre ?_; first | refine LetI.wrap (by omega) (by omega) ?_ | refine LetI.mk _ rfl ?_) | (refine LetB.pre ?_; first | refine LetB.tt rfl ?_ | refine LetB.ff rfl ?_ | refine LetB.tt (by assumption) ?_ | refine LetB.ff (by assumption) ?_ | refine LetB.dect (by omega) ?_ | refine LetB.decf (by omega) ?_ | refine LetB.beqt (by omega) ?_ | refine LetB.beqf (by omega) ?_ | refine LetB.bnet (by omega) ?_ | refine LetB.bnef (by omega) ?_ | refine LetB.mk _ rfl ?_) | (refine Gd.pre ?_; first | refine Gd.run rfl ?_ | refine Gd.pass rfl ?_ | refine Gd.run (by assumption) ?_ | refine Gd.pass (by assumption) ?_ | (refine Gd.run ?_ ?_; · decide +kernel) | (refine Gd.pass ?_ ?_; · decide +kernel) | refine Gd.both ?_) | (refine Br.pre ?_; first | refine Br.tt rfl ?_ | refine Br.ff rfl ?_ | refine Br.tt (by assumption) ?_ | refine Br.ff (by assumption) ?_ | (refine Br.tt ?_ ?_; · decide +kernel) | (refine Br.ff ?_ ?_; · decide +kernel)) | (refine Ck.pre ?_; first | refine Ck.drawn (by kernel_rfl) ?_ | refine Ck.mk rfl ?_) | (refine LetL.pre ?_; first | refine LetL.mk [_] rfl ?_ | refine LetL.mk _ rfl ?_) | (refine FindN.mk none hfi ?_) | refine forceAs.pass ?_ | refine forceEs.pass ?_ | refine forceC.pass ?_))); (try (conv => whnf)))




      refine LoopN.weak ?sw3 (hnx (ck + 1))
      case sw3 => exact SW.mk _root_.id rfl rfl (mN _ _ _) ⟨.refl _, .refl _, .refl _, .refl _, .refl _, .refl _, .refl _, .refl _, VLe2.int (by omega), trivial⟩ (haveV.map (kvF_pure _) (congrArg (fun m => some (Blk.map (ck + 1) m)) (show kvF M ++ [(kyF f, bool true)] = kvF (M ++ [f]) by simp [kvF])) trivial)
  rintro ⟨ck0, M0⟩ hM0
  dsimp only at hM0
  have w1 : day = IntKind.i64.wrap day := (wrap_id (by omega) (by omega)).symm
  have b1 := tmod_bound day (m := 800) (by omega)
  have b2 : 0 ≤ day.tmod 800 := Int.tmod_nonneg _ hd.1
  obtain ⟨dy, hdy⟩ : ∃ dy, dy = day.tmod 800 := ⟨_, rfl⟩
  rw [← hdy] at b1 b2
  refine VS.cut T_ok mixed rfl ?_
  ((repeat ((conv => whnf); (first | (refine LetN.pre ?_; first | ((conv => arg 1; whnf); refine LetN.mk ?_)) | (refine As.pre ?_; first | refine As.mk rfl ?_ | (refine As.mk ?_ ?_; · decide +kernel) | refine As.mk (andT (nor_self _) rfl) ?_ | refine As.mk (andT (nor_self _) (or_t _)) ?_ | refine As.mk (andT (or_t _) (or_nself _)) ?_ | refine As.mk (andT (or_t _) (or_t _)) ?_ | refine As.mk (andT (nor_self _) (andT (nor_self _) rfl)) ?_ | (refine As.mk ?_ ?_; · ((repeat' (refine andT ?_ ?_)) <;> (first | rfl | assumption | exact decide_eq_true (by omega) | exact decide_eq_true (by dsimp only; omega) | exact decide_eq_true (by simp; omega) | (simp; done))))) | (refine LetV.pre ?_; first | refine LetV.mk (.sc (.int _ _)) rfl ?_ | refine LetV.mk (.sc (.bool _)) rfl ?_ | refine LetV.mk (.sc _) rfl ?_ | refine LetV.mk (.agg _) rfl ?_ | refine LetV.mk (.slm _ _ _ _ _) rfl ?_ | refine LetV.mk (.ro _ _ _) rfl ?_ | refine LetV.mk (.ptr _ _ _ _) rfl ?_ | refine LetV.mk (.clo _ _ _) rfl ?_ | refine LetV.mk (.rp _ _) rfl ?_) | (refine LetI.pre ?_; first | refine LetI.mk (o := none) day w1 ?_ | refine LetI.mk (o := some .rem) dy hdy ?_ | refine LetI.wrap (by omega) (by omega) ?_ | refine LetI.mk _ rfl ?_) | (refine LetB.pre ?_; first | refine LetB.tt rfl ?_ | refine LetB.ff rfl ?_ | refine LetB.tt (by assumption) ?_ | refine LetB.ff (by assumption) ?_ | refine LetB.dect (by omega) ?_ | refine LetB.decf (by omega) ?_ | refine LetB.beqt (by omega) ?_ | refine LetB.beqf (by omega) ?_ | refine LetB.bnet (by omega) ?_ | refine LetB.bnef (by omega) ?_ | refine LetB.mk _ rfl ?_) | (refine Gd.pre ?_; first | refine Gd.run rfl ?_ | refine Gd.pass rfl ?_ | refine Gd.run (by assumption) ?_ | refine Gd.pass (by assumption) ?_ | (refine Gd.run ?_ ?_; · decide +kernel) | (refine Gd.pass ?_ ?_; · decide +kernel) | refine Gd.both ?_) | (refine Br.pre ?_; first | refine Br.tt rfl ?_ | refine Br.ff rfl ?_ | refine Br.tt (by assumption) ?_ | refine Br.ff (by assumption) ?_ | (refine Br.tt ?_ ?_; · decide +kernel) | (refine Br.ff ?_ ?_; · decide +kernel)) | (refine Ck.pre ?_; first | refine Ck.drawn (by kernel_rfl) ?_ | refine Ck.mk rfl ?_) | (refine LetL.pre ?_; first | refine LetL.mk [_] rfl ?_ | refine LetL.mk _ rfl ?_) | refine forceAs.pass ?_ | refine forceEs.pass ?_ | refine forceC.pass ?_))); (try (conv => whnf)))
  clear w1 hdy hd
  refine VS.cut T_ok mixed rfl ?_
  ((repeat ((conv => whnf); (first | (refine LetN.pre ?_; first | ((conv => arg 1; whnf); refine LetN.mk ?_)) | (refine As.pre ?_; first | refine As.mk rfl ?_ | (refine As.mk ?_ ?_; · decide +kernel) | refine As.mk (andT (nor_self _) rfl) ?_ | refine As.mk (andT (nor_self _) (or_t _)) ?_ | refine As.mk (andT (or_t _) (or_nself _)) ?_ | refine As.mk (andT (or_t _) (or_t _)) ?_ | refine As.mk (andT (nor_self _) (andT (nor_self _) rfl)) ?_ | (refine As.mk ?_ ?_; · ((repeat' (refine andT ?_ ?_)) <;> (first | rfl | assumption | exact decide_eq_true (by omega) | exact decide_eq_true (by dsimp only; omega) | exact decide_eq_true (by simp; omega) | (simp; done))))) | (refine LetV.pre ?_; first | refine LetV.mk (.sc (.int _ _)) rfl ?_ | refine LetV.mk (.sc (.bool _)) rfl ?_ | refine LetV.mk (.sc _) rfl ?_ | refine LetV.mk (.agg _) rfl ?_ | refine LetV.mk (.slm _ _ _ _ _) rfl ?_ | refine LetV.mk (.ro _ _ _) rfl ?_ | refine LetV.mk (.ptr _ _ _ _) rfl ?_ | refine LetV.mk (.clo _ _ _) rfl ?_ | refine LetV.mk (.rp _ _) rfl ?_) | (refine LetI.pre ?_; first | refine LetI.wrap (by omega) (by omega) ?_ | refine LetI.mk _ rfl ?_) | (refine LetB.pre ?_; first | refine LetB.tt rfl ?_ | refine LetB.ff rfl ?_ | refine LetB.tt (by assumption) ?_ | refine LetB.ff (by assumption) ?_ | refine LetB.dect (by omega) ?_ | refine LetB.decf (by omega) ?_ | refine LetB.beqt (by omega) ?_ | refine LetB.beqf (by omega) ?_ | refine LetB.bnet (by omega) ?_ | refine LetB.bnef (by omega) ?_ | refine LetB.mk _ rfl ?_) | (refine Gd.pre ?_; first | refine Gd.run rfl ?_ | refine Gd.pass rfl ?_ | refine Gd.run (by assumption) ?_ | refine Gd.pass (by assumption) ?_ | (refine Gd.run ?_ ?_; · decide +kernel) | (refine Gd.pass ?_ ?_; · decide +kernel) | refine Gd.both ?_) | (refine Br.pre ?_; first | refine Br.tt rfl ?_ | refine Br.ff rfl ?_ | refine Br.tt (by assumption) ?_ | refine Br.ff (by assumption) ?_ | (refine Br.tt ?_ ?_; · decide +kernel) | (refine Br.ff ?_ ?_; · decide +kernel)) | (refine Ck.pre ?_; first | refine Ck.drawn (by kernel_rfl) ?_ | refine Ck.mk rfl ?_) | (refine LetL.pre ?_; first | refine LetL.mk [_] rfl ?_ | refine LetL.mk _ rfl ?_) | refine forceAs.pass ?_ | refine forceEs.pass ?_ | refine forceC.pass ?_))); (try (conv => whnf)))
  refine VS.weak (s1 := df2s a b (eD id dy) (ck0, M0)) ?sw0 ?_
  case sw0 => exact SW.mk _root_.id rfl rfl (dfN _ _ _ _) ⟨.refl _, .refl _, .refl _, .refl _, .refl _, .refl _, .refl _, trivial⟩ (haveV.map (kvF_pure _) rfl (haveV.one rfl trivial))
  generalize eD id dy = e
  clear b1 b2
  clear dy
  have hD := Differ_f a b e {} {} la lb ka kb
  have hI0 : DInv a b 0 false M0 := by rw [hM0]; exact DInv.nil a b
  refine VS.joinN (df2e a b e) (fun q => q.2.Nodup ∧ (∀ x ∈ q.2, x ∈ a ∨ x ∈ b) ∧ ∀ x, x ∈ q.2 ↔ x ∈ b) ?l2 ?r2
  case l2 =>
    refine VS.of_V T_ok mixed rfl ?_
    ((repeat ((conv => whnf); (first | (refine LetN.pre ?_; first | ((conv => arg 1; whnf); refine LetN.mk ?_)) | (refine As.pre ?_; first | refine As.mk rfl ?_ | (refine As.mk ?_ ?_; · decide +kernel) | refine As.mk (andT (nor_self _) rfl) ?_ | refine As.mk (andT (nor_self _) (or_t _)) ?_ | refine As.mk (andT (or_t _) (or_nself _)) ?_ | refine As.mk (andT (or_t _) (or_t _)) ?_ | refine As.mk (andT (nor_self _) (andT (nor_self _) rfl)) ?_ | (refine As.mk ?_ ?_; · ((repeat' (refine andT ?_ ?_)) <;> (first | rfl | assumption | exact decide_eq_true (by omega) | exact decide_eq_true (by dsimp only; omega) | exact decide_eq_true (by simp; omega) | (simp; done))))) | (refine LetV.pre ?_; first | refine LetV.mk (.sc (.int _ _)) rfl ?_ | refine LetV.mk (.sc (.bool _)) rfl ?_ | refine LetV.mk (.sc _) rfl ?_ | refine LetV.mk (.agg _) rfl ?_ | refine LetV.mk (.slm _ _ _ _ _) rfl ?_ | refine LetV.mk (.ro _ _ _) rfl ?_ | refine LetV.mk (.ptr _ _ _ _) rfl ?_ | refine LetV.mk (.clo _ _ _) rfl ?_ | refine LetV.mk (.rp _ _) rfl ?_) | (refine LetI.pre ?_; first | refine LetI.wrap (by omega) (by omega) ?_ | refine LetI.mk _ rfl ?_) | (refine LetB.pre ?_; first | refine LetB.tt rfl ?_ | refine LetB.ff rfl ?_ | refine LetB.tt (by assumption) ?_ | refine LetB.ff (by assumption) ?_ | refine LetB.dect (by omega) ?_ | refine LetB.decf (by omega) ?_ | refine LetB.beqt (by omega) ?_ | refine LetB.beqf (by omega) ?_ | refine LetB.bnet (by omega) ?_ | refine LetB.bnef (by omega) ?_ | refine LetB.mk _ rfl ?_) | (refine Gd.pre ?_; first | refine Gd.run rfl ?_ | refine Gd.pass rfl ?_ | refine Gd.run (by assumption) ?_ | refine Gd.pass (by assumption) ?_ | (refine Gd.run ?_ ?_; · decide +kernel) | (refine Gd.pass ?_ ?_; · decide +kernel) | refine Gd.both ?_) | (refine Br.pre ?_; first | refine Br.tt rfl ?_ | refine Br.ff rfl ?_ | refine Br.tt (by assumption) ?_ | refine Br.ff (by assumption) ?_ | (refine Br.tt ?_ ?_; · decide +kernel) | (refine Br.ff ?_ ?_; · decide +kernel)) | (refine Ck.pre ?_; first | refine Ck.drawn (by kernel_rfl) ?_ | refine Ck.mk rfl ?_) | (refine LetL.pre ?_; first | refine LetL.mk [_] rfl ?_ | refine LetL.mk _ rfl ?_) | (refine CallN.pre ?_; first | refine CallN.pure hD rfl rfl ?_) | refine forceAs.pass ?_ | refine forceEs.pass ?_ | refine forceC.pass ?_))); (try (conv => whnf)))
    clear hD
    have hmD : ((difP a b e).map cgA).length = (difP a b e).length := List.length_map _
    refine LoopN.weak (s1 := df2 a b e (difP a b e) (0, false, ck0, M0)) ?sw4 ?_
    case sw4 => exact SW.mk _root_.id rfl rfl (dfN _ _ _ _) ⟨.refl _, .refl _, .refl _, .refl _, .refl _, .refl _, .refl _, .refl _, VLe2.int (by rw [hmD]), .refl _, trivial⟩ (haveV.map (kvF_pure _) rfl (haveV.one rfl trivial))
    have hDl := dif_len a b e
    have hDb : (difP a b e).length ≤ 24 := by
      have g1 := mis_len a b
      have g2 := mis_len b a
      omega
    refine LoopN.ind T_ok mixed (S := df2 a b e (difP a b e)) (fun i => (difP a b e).length - i.1) (fun i => i.1 ≤ (difP a b e).length ∧ DInv a b i.1 i.2.1 i.2.2.2) (fun _ => rfl) (fun i hi ih => ?_) (0, false, ck0, M0) ⟨Nat.zero_le _, hI0⟩
    clear hI0 hM0
    clear M0
    obtain ⟨j, came, ck, M⟩ := i
    obtain ⟨h1, hI⟩ := hi
    dsimp only at h1 hI
    by_cases hlt : j < (difP a b e).length
    case neg =>
      clear ih
      have hfin := hI.all (by omega)
      ((repeat ((conv => whnf); (first | (refine LetN.pre ?_; first | ((conv => arg 1; whnf); refine LetN.mk ?_)) | (refine As.pre ?_; first | refine As.mk rfl ?_ | (refine As.mk ?_ ?_; · decide +kernel) | refine As.mk (andT (nor_self _) rfl) ?_ | refine As.mk (andT (nor_self _) (or_t _)) ?_ | refine As.mk (andT (or_t _) (or_nself _)) ?_ | refine As.mk (andT (or_t _) (or_t _)) ?_ | refine As.mk (andT (nor_self _) (andT (nor_self _) rfl)) ?_ | (refine As.mk ?_ ?_; · ((repeat' (refine andT ?_ ?_)) <;> (first | rfl | assumption | exact decide_eq_true (by omega) | exact decide_eq_true (by dsimp only; omega) | exact decide_eq_true (by simp; omega) | (simp; done))))) | (refine LetV.pre ?_; first | refine LetV.mk (.sc (.int _ _)) rfl ?_ | refine LetV.mk (.sc (.bool _)) rfl ?_ | refine LetV.mk (.sc _) rfl ?_ | refine LetV.mk (.agg _) rfl ?_ | refine LetV.mk (.slm _ _ _ _ _) rfl ?_ | refine LetV.mk (.ro _ _ _) rfl ?_ | refine LetV.mk (.ptr _ _ _ _) rfl ?_ | refine LetV.mk (.clo _ _ _) rfl ?_ | refine LetV.mk (.rp _ _) rfl ?_) | (refine LetI.pre ?_; first | refine LetI.wrap (by omega) (by omega) ?_ | refine LetI.mk _ rfl ?_) | (refine LetB.pre ?_; first | refine LetB.tt rfl ?_ | refine LetB.ff rfl ?_ | refine LetB.tt (by assumption) ?_ | refine LetB.ff (by assumption) ?_ | refine LetB.dect (by omega) ?_ | refine LetB.decf (by omega) ?_ | refine LetB.beqt (by omega) ?_ | refine LetB.beqf (by omega) ?_ | refine LetB.bnet (by omega) ?_ | refine LetB.bnef (by omega) ?_ | refine LetB.mk _ rfl ?_) | (refine Gd.pre ?_; first | refine Gd.run rfl ?_ | refine Gd.pass rfl ?_ | refine Gd.run (by assumption) ?_ | refine Gd.pass (by assumption) ?_ | (refine Gd.run ?_ ?_; · decide +kernel) | (refine Gd.pass ?_ ?_; · decide +kernel) | refine Gd.both ?_) | (refine Br.pre ?_; first | refine Br.tt rfl ?_ | refine Br.ff rfl ?_ | refine Br.tt (by assumption) ?_ | refine Br.ff (by assumption) ?_ | (refine Br.tt ?_ ?_; · decide +kernel) | (refine Br.ff ?_ ?_; · decide +kernel)) | (refine Ck.pre ?_; first | refine Ck.drawn (by kernel_rfl) ?_ | refine Ck.mk rfl ?_) | (refine LetL.pre ?_; first | refine LetL.mk [_] rfl ?_ | refine LetL.mk _ rfl ?_) | refine forceAs.pass ?_ | refine forceEs.pass ?_ | refine forceC.pass ?_))); (try (conv => whnf)))
      exact ⟨rfl, (ck, M), ⟨hI.nd, hI.sub, hfin⟩, SW.mk _root_.id rfl rfl (dfN _ _ _ _) ⟨.refl _, .refl _, .refl _, .refl _, .refl _, trivial⟩ (haveV.map (kvF_pure _) rfl (haveV.one rfl trivial))⟩
    have hid : false = (e.id != e.id) := by simp
    have hld := cg_ld hlt
    have hok : ∀ x ∈ M, okF x := fun x hx => (hI.sub x hx).elim (ka x) (kb x)
    by_cases hj : j < (misP a b).length
    · obtain ⟨hin, hI2⟩ := hI.gone hj
      have hcm := (hI.g (by omega)).1
      subst hcm
      have hmf := Ma _ (((mis_spec a b).2 _).1 (getD_memF hj)).1
      rw [dif_gone e hj] at hld
      have hnx : ∀ ck', _ := fun ck' => ih (j + 1, false, ck', M.erase ((misP a b).getD j fa0)) ⟨hlt, hI2⟩ (by show (difP a b e).length - (j + 1) < (difP a b e).length - j; omega)
      have hky := keys_F hok hmf.ok
      clear ih hI hI2 hok ka kb Ma Mb hj
      generalize (misP a b).getD j fa0 = f at hin hmf hld hnx hky
      obtain ⟨i, hfi, _, hera, hkv⟩ := kvF_at hin
      have ht := hmf.term
      have hlw : lastW f.term = 100 * f.term + 99 := lastW_small (by omega)
      have hkp : keptP f e.day = (decide (f.kind = 5) && decide (100 * f.term + 99 < e.day)) := by rw [keptP, hlw]
      unfold goneP at hld
      rw [hkp] at hld
      clear hkp hlw hin hmf
      by_cases h5 : f.kind = 5
      · by_cases h6 : 100 * f.term + 99 < e.day
        · rw [decide_eq_true h5, decide_eq_true h6] at hld
          replace hld : AV.agg [int f.kind, int f.student, int f.id, int f.term, int f.n, int f.school, str f.code, bool true, bool true, int e.id] = _ := hld
          ((repeat ((conv => whnf); (first | (refine LetN.pre ?_; first | ((conv => arg 1; whnf); refine LetN.mk ?_)) | (refine As.pre ?_; first | refine As.mk rfl ?_ | refine As.mk hky ?_ | (refine As.mk ?_ ?_; · decide +kernel) | refine As.mk (andT (nor_self _) rfl) ?_ | refine As.mk (andT (nor_self _) (or_t _)) ?_ | refine As.mk (andT (or_t _) (or_nself _)) ?_ | refine As.mk (andT (or_t _) (or_t _)) ?_ | refine As.mk (andT (nor_self _) (andT (nor_self _) rfl)) ?_ | (refine As.mk ?_ ?_; · ((repeat' (refine andT ?_ ?_)) <;> (first | rfl | assumption | exact decide_eq_true (by omega) | exact decide_eq_true (by dsimp only; omega) | exact decide_eq_true (by simp; omega) | (simp; done))))) | (refine LetV.pre ?_; first | refine LetV.mk (t := csl) _ hld ?_ | refine LetV.mk (t := mty) (bool true) hkv ?_ | refine LetV.mk (t := mty) (.mp _) rfl ?_ | refine LetV.mk (.sc (.int _ _)) rfl ?_ | refine LetV.mk (.sc (.bool _)) rfl ?_ | refine LetV.mk (.sc _) rfl ?_ | refine LetV.mk (.agg _) rfl ?_ | refine LetV.mk (.slm _ _ _ _ _) rfl ?_ | refine LetV.mk (.ro _ _ _) rfl ?_ | refine LetV.mk (.ptr _ _ _ _) rfl ?_ | refine LetV.mk (.clo _ _ _) rfl ?_ | refine LetV.mk (.rp _ _) rfl ?_) | (refine LetI.pre ?_; first | refine LetI.wrap (by omega) (by omega) ?_ | refine LetI.mk _ rfl ?_) | (refine LetB.pre ?_; first | refine LetB.tt rfl ?_ | refine LetB.ff rfl ?_ | refine LetB.tt (by assumption) ?_ | refine LetB.ff (by assumption) ?_ | refine LetB.mk (o := some .neq) false hid ?_ | refine LetB.mk (o := some .neq) false hid ?_ | refine LetB.dect (by omega) ?_ | refine LetB.decf (by omega) ?_ | refine LetB.beqt (by omega) ?_ | refine LetB.beqf (by omega) ?_ | refine LetB.bnet (by omega) ?_ | refine LetB.bnef (by omega) ?_ | refine LetB.mk _ rfl ?_) | (refine Gd.pre ?_; first | refine Gd.run rfl ?_ | refine Gd.pass rfl ?_ | refine Gd.run (by assumption) ?_ | refine Gd.pass (by assumption) ?_ | (refine Gd.run ?_ ?_; · decide +kernel) | (refine Gd.pass ?_ ?_; · decide +kernel) | refine Gd.both ?_) | (refine Br.pre ?_; first | refine Br.tt rfl ?_ | refine Br.ff rfl ?_ | refine Br.tt (by assumption) ?_ | refine Br.ff (by assumption) ?_ | (refine Br.tt ?_ ?_; · decide +kernel) | (refine Br.ff ?_ ?_; · decide +kernel)) | (refine Ck.pre ?_; first | refine Ck.drawn (by kernel_rfl) ?_ | refine Ck.mk rfl ?_) | (refine LetL.pre ?_; first | refine LetL.mk [_] rfl ?_ | refine LetL.mk _ rfl ?_) | (refine FindN.mk (some i) hfi ?_) | refine forceAs.pass ?_ | refine forceEs.pass ?_ | refine forceC.pass ?_))); (try (conv => whnf)))







          refine LoopN.weak ?sw6 (hnx ck)
          case sw6 => exact SW.mk _root_.id rfl rfl (dfN _ _ _ _) ⟨.refl _, .refl _, .refl _, .refl _, .refl _, .refl _, .refl _, .refl _, .refl _, VLe2.int (by omega), trivial⟩ (haveV.map (kvF_pure _) (congrArg (fun m => some (Blk.map ck m)) hera) (haveV.one rfl trivial))
        · rw [decide_eq_true h5, decide_eq_false h6] at hld
          replace hld : AV.agg [int f.kind, int f.student, int f.id, int f.term, int f.n, int f.school, str f.code, bool true, bool false, int e.id] = _ := hld
          ((repeat ((conv => whnf); (first | (refine LetN.pre ?_; first | ((conv => arg 1; whnf); refine LetN.mk ?_)) | (refine As.pre ?_; first | refine As.mk rfl ?_ | refine As.mk hky ?_ | (refine As.mk ?_ ?_; · decide +kernel) | refine As.mk (andT (nor_self _) rfl) ?_ | refine As.mk (andT (nor_self _) (or_t _)) ?_ | refine As.mk (andT (or_t _) (or_nself _)) ?_ | refine As.mk (andT (or_t _) (or_t _)) ?_ | refine As.mk (andT (nor_self _) (andT (nor_self _) rfl)) ?_ | (refine As.mk ?_ ?_; · ((repeat' (refine andT ?_ ?_)) <;> (first | rfl | assumption | exact decide_eq_true (by omega) | exact decide_eq_true (by dsimp only; omega) | exact decide_eq_true (by simp; omega) | (simp; done))))) | (refine LetV.pre ?_; first | refine LetV.mk (t := csl) _ hld ?_ | refine LetV.mk (t := mty) (bool true) hkv ?_ | refine LetV.mk (t := mty) (.mp _) rfl ?_ | refine LetV.mk (.sc (.int _ _)) rfl ?_ | refine LetV.mk (.sc (.bool _)) rfl ?_ | refine LetV.mk (.sc _) rfl ?_ | refine LetV.mk (.agg _) rfl ?_ | refine LetV.mk (.slm _ _ _ _ _) rfl ?_ | refine LetV.mk (.ro _ _ _) rfl ?_ | refine LetV.mk (.ptr _ _ _ _) rfl ?_ | refine LetV.mk (.clo _ _ _) rfl ?_ | refine LetV.mk (.rp _ _) rfl ?_) | (refine LetI.pre ?_; first | refine LetI.wrap (by omega) (by omega) ?_ | refine LetI.mk _ rfl ?_) | (refine LetB.pre ?_; first | refine LetB.tt rfl ?_ | refine LetB.ff rfl ?_ | refine LetB.tt (by assumption) ?_ | refine LetB.ff (by assumption) ?_ | refine LetB.mk (o := some .neq) false hid ?_ | refine LetB.mk (o := some .neq) false hid ?_ | refine LetB.dect (by omega) ?_ | refine LetB.decf (by omega) ?_ | refine LetB.beqt (by omega) ?_ | refine LetB.beqf (by omega) ?_ | refine LetB.bnet (by omega) ?_ | refine LetB.bnef (by omega) ?_ | refine LetB.mk _ rfl ?_) | (refine Gd.pre ?_; first | refine Gd.run rfl ?_ | refine Gd.pass rfl ?_ | refine Gd.run (by assumption) ?_ | refine Gd.pass (by assumption) ?_ | (refine Gd.run ?_ ?_; · decide +kernel) | (refine Gd.pass ?_ ?_; · decide +kernel) | refine Gd.both ?_) | (refine Br.pre ?_; first | refine Br.tt rfl ?_ | refine Br.ff rfl ?_ | refine Br.tt (by assumption) ?_ | refine Br.ff (by assumption) ?_ | (refine Br.tt ?_ ?_; · decide +kernel) | (refine Br.ff ?_ ?_; · decide +kernel)) | (refine Ck.pre ?_; first | refine Ck.drawn (by kernel_rfl) ?_ | refine Ck.mk rfl ?_) | (refine LetL.pre ?_; first | refine LetL.mk [_] rfl ?_ | refine LetL.mk _ rfl ?_) | (refine FindN.mk (some i) hfi ?_) | refine forceAs.pass ?_ | refine forceEs.pass ?_ | refine forceC.pass ?_))); (try (conv => whnf)))







          refine LoopN.weak ?sw7 (hnx ck)
          case sw7 => exact SW.mk _root_.id rfl rfl (dfN _ _ _ _) ⟨.refl _, .refl _, .refl _, .refl _, .refl _, .refl _, .refl _, .refl _, .refl _, VLe2.int (by omega), trivial⟩ (haveV.map (kvF_pure _) (congrArg (fun m => some (Blk.map ck m)) hera) (haveV.one rfl trivial))
      · rw [decide_eq_false h5, Bool.false_and] at hld
        replace hld : AV.agg [int f.kind, int f.student, int f.id, int f.term, int f.n, int f.school, str f.code, bool true, bool false, int e.id] = _ := hld
        ((repeat ((conv => whnf); (first | (refine LetN.pre ?_; first | ((conv => arg 1; whnf); refine LetN.mk ?_)) | (refine As.pre ?_; first | refine As.mk rfl ?_ | refine As.mk hky ?_ | (refine As.mk ?_ ?_; · decide +kernel) | refine As.mk (andT (nor_self _) rfl) ?_ | refine As.mk (andT (nor_self _) (or_t _)) ?_ | refine As.mk (andT (or_t _) (or_nself _)) ?_ | refine As.mk (andT (or_t _) (or_t _)) ?_ | refine As.mk (andT (nor_self _) (andT (nor_self _) rfl)) ?_ | (refine As.mk ?_ ?_; · ((repeat' (refine andT ?_ ?_)) <;> (first | rfl | assumption | exact decide_eq_true (by omega) | exact decide_eq_true (by dsimp only; omega) | exact decide_eq_true (by simp; omega) | (simp; done))))) | (refine LetV.pre ?_; first | refine LetV.mk (t := csl) _ hld ?_ | refine LetV.mk (t := mty) (bool true) hkv ?_ | refine LetV.mk (t := mty) (.mp _) rfl ?_ | refine LetV.mk (.sc (.int _ _)) rfl ?_ | refine LetV.mk (.sc (.bool _)) rfl ?_ | refine LetV.mk (.sc _) rfl ?_ | refine LetV.mk (.agg _) rfl ?_ | refine LetV.mk (.slm _ _ _ _ _) rfl ?_ | refine LetV.mk (.ro _ _ _) rfl ?_ | refine LetV.mk (.ptr _ _ _ _) rfl ?_ | refine LetV.mk (.clo _ _ _) rfl ?_ | refine LetV.mk (.rp _ _) rfl ?_) | (refine LetI.pre ?_; first | refine LetI.wrap (by omega) (by omega) ?_ | refine LetI.mk _ rfl ?_) | (refine LetB.pre ?_; first | refine LetB.tt rfl ?_ | refine LetB.ff rfl ?_ | refine LetB.tt (by assumption) ?_ | refine LetB.ff (by assumption) ?_ | refine LetB.mk (o := some .neq) false hid ?_ | refine LetB.mk (o := some .neq) false hid ?_ | refine LetB.dect (by omega) ?_ | refine LetB.decf (by omega) ?_ | refine LetB.beqt (by omega) ?_ | refine LetB.beqf (by omega) ?_ | refine LetB.bnet (by omega) ?_ | refine LetB.bnef (by omega) ?_ | refine LetB.mk _ rfl ?_) | (refine Gd.pre ?_; first | refine Gd.run rfl ?_ | refine Gd.pass rfl ?_ | refine Gd.run (by assumption) ?_ | refine Gd.pass (by assumption) ?_ | (refine Gd.run ?_ ?_; · decide +kernel) | (refine Gd.pass ?_ ?_; · decide +kernel) | refine Gd.both ?_) | (refine Br.pre ?_; first | refine Br.tt rfl ?_ | refine Br.ff rfl ?_ | refine Br.tt (by assumption) ?_ | refine Br.ff (by assumption) ?_ | (refine Br.tt ?_ ?_; · decide +kernel) | (refine Br.ff ?_ ?_; · decide +kernel)) | (refine Ck.pre ?_; first | refine Ck.drawn (by kernel_rfl) ?_ | refine Ck.mk rfl ?_) | (refine LetL.pre ?_; first | refine LetL.mk [_] rfl ?_ | refine LetL.mk _ rfl ?_) | (refine FindN.mk (some i) hfi ?_) | refine forceAs.pass ?_ | refine forceEs.pass ?_ | refine forceC.pass ?_))); (try (conv => whnf)))







        refine LoopN.weak ?sw8 (hnx ck)
        case sw8 => exact SW.mk _root_.id rfl rfl (dfN _ _ _ _) ⟨.refl _, .refl _, .refl _, .refl _, .refl _, .refl _, .refl _, .refl _, .refl _, VLe2.int (by omega), trivial⟩ (haveV.map (kvF_pure _) (congrArg (fun m => some (Blk.map ck m)) hera) (haveV.one rfl trivial))
    · obtain ⟨hno, hI2⟩ := hI.came (by omega) (by omega)
      have hmf := Mb _ (((mis_spec b a).2 _).1 (getD_memF (l := misP b a) (k := j - (misP a b).length) (by omega))).1
      rw [dif_came e (by omega) (by omega)] at hld
      have hnx : ∀ ck', _ := fun ck' => ih (j + 1, true, ck', M ++ [(misP b a).getD (j - (misP a b).length) fa0]) ⟨hlt, hI2⟩ (by show (difP a b e).length - (j + 1) < (difP a b e).length - j; omega)
      have hky := keys_F hok hmf.ok
      clear ih hI hI2 hok ka kb Ma Mb hj
      generalize (misP b a).getD (j - (misP a b).length) fa0 = f at hno hmf hld hnx hky
      have hfi := kvF_none hno
      unfold cameP at hld
      replace hld : AV.agg [int f.kind, int f.student, int f.id, int f.term, int f.n, int f.school, str f.code, bool false, bool false, int e.id] = _ := hld
      clear hmf hno
      cases came <;>
      · ((repeat ((conv => whnf); (first | (refine LetN.pre ?_; first | ((conv => arg 1; whnf); refine LetN.mk ?_)) | (refine As.pre ?_; first | refine As.mk rfl ?_ | refine As.mk hky ?_ | (refine As.mk ?_ ?_; · decide +kernel) | refine As.mk (andT (nor_self _) rfl) ?_ | refine As.mk (andT (nor_self _) (or_t _)) ?_ | refine As.mk (andT (or_t _) (or_nself _)) ?_ | refine As.mk (andT (or_t _) (or_t _)) ?_ | refine As.mk (andT (nor_self _) (andT (nor_self _) rfl)) ?_ | (refine As.mk ?_ ?_; · ((repeat' (refine andT ?_ ?_)) <;> (first | rfl | assumption | exact decide_eq_true (by omega) | exact decide_eq_true (by dsimp only; omega) | exact decide_eq_true (by simp; omega) | (simp; done))))) | (refine LetV.pre ?_; first | refine LetV.mk (t := csl) _ hld ?_ | refine LetV.mk (t := mty) (.mp _) rfl ?_ | refine LetV.mk (.sc (.int _ _)) rfl ?_ | refine LetV.mk (.sc (.bool _)) rfl ?_ | refine LetV.mk (.sc _) rfl ?_ | refine LetV.mk (.agg _) rfl ?_ | refine LetV.mk (.slm _ _ _ _ _) rfl ?_ | refine LetV.mk (.ro _ _ _) rfl ?_ | refine LetV.mk (.ptr _ _ _ _) rfl ?_ | refine LetV.mk (.clo _ _ _) rfl ?_ | refine LetV.mk (.rp _ _) rfl ?_) | (refine LetI.pre ?_; first | refine LetI.wrap (by omega) (by omega) ?_ | refine LetI.mk _ rfl ?_) | (refine LetB.pre ?_; first | refine LetB.tt rfl ?_ | refine LetB.ff rfl ?_ | refine LetB.tt (by assumption) ?_ | refine LetB.ff (by assumption) ?_ | refine LetB.mk (o := some .neq) false hid ?_ | refine LetB.mk (o := some .neq) false hid ?_ | refine LetB.dect (by omega) ?_ | refine LetB.decf (by omega) ?_ | refine LetB.beqt (by omega) ?_ | refine LetB.beqf (by omega) ?_ | refine LetB.bnet (by omega) ?_ | refine LetB.bnef (by omega) ?_ | refine LetB.mk _ rfl ?_) | (refine Gd.pre ?_; first | refine Gd.run rfl ?_ | refine Gd.pass rfl ?_ | refine Gd.run (by assumption) ?_ | refine Gd.pass (by assumption) ?_ | (refine Gd.run ?_ ?_; · decide +kernel) | (refine Gd.pass ?_ ?_; · decide +kernel) | refine Gd.both ?_) | (refine Br.pre ?_; first | refine Br.tt rfl ?_ | refine Br.ff rfl ?_ | refine Br.tt (by assumption) ?_ | refine Br.ff (by assumption) ?_ | (refine Br.tt ?_ ?_; · decide +kernel) | (refine Br.ff ?_ ?_; · decide +kernel)) | (refine Ck.pre ?_; first | refine Ck.drawn (by kernel_rfl) ?_ | refine Ck.mk rfl ?_) | (refine LetL.pre ?_; first | refine LetL.mk [_] rfl ?_ | refine LetL.mk _ rfl ?_) | (refine FindN.mk none hfi ?_) | refine forceAs.pass ?_ | refine forceEs.pass ?_ | refine forceC.pass ?_))); (try (conv => whnf)))






        refine LoopN.weak ?sw9 (hnx (ck + 1))
        case sw9 => exact SW.mk _root_.id rfl rfl (dfN _ _ _ _) ⟨.refl _, .refl _, .refl _, .refl _, .refl _, .refl _, .refl _, .refl _, .refl _, VLe2.int (by omega), trivial⟩ (haveV.map (kvF_pure _) (congrArg (fun m => some (Blk.map (ck + 1) m)) (show kvF M ++ [(kyF f, bool true)] = kvF (M ++ [f]) by simp [kvF])) (haveV.one rfl trivial))
  clear hI0 hM0 hD
  clear M0
  rintro ⟨ck1, M⟩ ⟨hMn, hMs, hMb⟩
  dsimp only at hMn hMs hMb
  have hok : ∀ x ∈ M, okF x := fun x hx => (hMs x hx).elim (ka x) (kb x)
  refine VS.joinN (fun _ : Unit => df2e a b e (ck1, M)) (fun _ => True) ?l3 ?r3
  case l3 =>
    refine VS.of_V T_ok mixed rfl ?_
    ((repeat ((conv => whnf); (first | (refine LetN.pre ?_; first | ((conv => arg 1; whnf); refine LetN.mk ?_)) | (refine As.pre ?_; first | refine As.mk rfl ?_ | (refine As.mk ?_ ?_; · decide +kernel) | refine As.mk (andT (nor_self _) rfl) ?_ | refine As.mk (andT (nor_self _) (or_t _)) ?_ | refine As.mk (andT (or_t _) (or_nself _)) ?_ | refine As.mk (andT (or_t _) (or_t _)) ?_ | refine As.mk (andT (nor_self _) (andT (nor_self _) rfl)) ?_ | (refine As.mk ?_ ?_; · ((repeat' (refine andT ?_ ?_)) <;> (first | rfl | assumption | exact decide_eq_true (by omega) | exact decide_eq_true (by dsimp only; omega) | exact decide_eq_true (by simp; omega) | (simp; done))))) | (refine LetV.pre ?_; first | refine LetV.mk (.sc (.int _ _)) rfl ?_ | refine LetV.mk (.sc (.bool _)) rfl ?_ | refine LetV.mk (.sc _) rfl ?_ | refine LetV.mk (.agg _) rfl ?_ | refine LetV.mk (.slm _ _ _ _ _) rfl ?_ | refine LetV.mk (.ro _ _ _) rfl ?_ | refine LetV.mk (.ptr _ _ _ _) rfl ?_ | refine LetV.mk (.clo _ _ _) rfl ?_ | refine LetV.mk (.rp _ _) rfl ?_) | (refine LetI.pre ?_; first | refine LetI.wrap (by omega) (by omega) ?_ | refine LetI.mk _ rfl ?_) | (refine LetB.pre ?_; first | refine LetB.tt rfl ?_ | refine LetB.ff rfl ?_ | refine LetB.tt (by assumption) ?_ | refine LetB.ff (by assumption) ?_ | refine LetB.dect (by omega) ?_ | refine LetB.decf (by omega) ?_ | refine LetB.beqt (by omega) ?_ | refine LetB.beqf (by omega) ?_ | refine LetB.bnet (by omega) ?_ | refine LetB.bnef (by omega) ?_ | refine LetB.mk _ rfl ?_) | (refine Gd.pre ?_; first | refine Gd.run rfl ?_ | refine Gd.pass rfl ?_ | refine Gd.run (by assumption) ?_ | refine Gd.pass (by assumption) ?_ | (refine Gd.run ?_ ?_; · decide +kernel) | (refine Gd.pass ?_ ?_; · decide +kernel) | refine Gd.both ?_) | (refine Br.pre ?_; first | refine Br.tt rfl ?_ | refine Br.ff rfl ?_ | refine Br.tt (by assumption) ?_ | refine Br.ff (by assumption) ?_ | (refine Br.tt ?_ ?_; · decide +kernel) | (refine Br.ff ?_ ?_; · decide +kernel)) | (refine Ck.pre ?_; first | refine Ck.drawn (by kernel_rfl) ?_ | refine Ck.mk rfl ?_) | (refine LetL.pre ?_; first | refine LetL.mk [_] rfl ?_ | refine LetL.mk _ rfl ?_) | refine forceAs.pass ?_ | refine forceEs.pass ?_ | refine forceC.pass ?_))); (try (conv => whnf)))
    refine LoopN.weak (s1 := df3 a b e ck1 M 0) ?sw10 ?_
    case sw10 => exact SW.mk _root_.id rfl rfl (dfN _ _ _ _) ⟨.refl _, .refl _, .refl _, .refl _, .refl _, .refl _, VLe2.int (by rw [hmb]), .refl _, trivial⟩ (haveV.map (kvF_pure _) rfl (haveV.one rfl trivial))
    refine LoopN.ind T_ok mixed (S := df3 a b e ck1 M) (fun k => b.length - k) (fun k => k ≤ b.length) (fun _ => rfl) (fun k hk ih => ?_) 0 (Nat.zero_le _)
    by_cases hlt : k < b.length
    case neg =>
      clear ih
      ((repeat ((conv => whnf); (first | (refine LetN.pre ?_; first | ((conv => arg 1; whnf); refine LetN.mk ?_)) | (refine As.pre ?_; first | refine As.mk rfl ?_ | (refine As.mk ?_ ?_; · decide +kernel) | refine As.mk (andT (nor_self _) rfl) ?_ | refine As.mk (andT (nor_self _) (or_t _)) ?_ | refine As.mk (andT (or_t _) (or_nself _)) ?_ | refine As.mk (andT (or_t _) (or_t _)) ?_ | refine As.mk (andT (nor_self _) (andT (nor_self _) rfl)) ?_ | (refine As.mk ?_ ?_; · ((repeat' (refine andT ?_ ?_)) <;> (first | rfl | assumption | exact decide_eq_true (by omega) | exact decide_eq_true (by dsimp only; omega) | exact decide_eq_true (by simp; omega) | (simp; done))))) | (refine LetV.pre ?_; first | refine LetV.mk (.sc (.int _ _)) rfl ?_ | refine LetV.mk (.sc (.bool _)) rfl ?_ | refine LetV.mk (.sc _) rfl ?_ | refine LetV.mk (.agg _) rfl ?_ | refine LetV.mk (.slm _ _ _ _ _) rfl ?_ | refine LetV.mk (.ro _ _ _) rfl ?_ | refine LetV.mk (.ptr _ _ _ _) rfl ?_ | refine LetV.mk (.clo _ _ _) rfl ?_ | refine LetV.mk (.rp _ _) rfl ?_) | (refine LetI.pre ?_; first | refine LetI.wrap (by omega) (by omega) ?_ | refine LetI.mk _ rfl ?_) | (refine LetB.pre ?_; first | refine LetB.tt rfl ?_ | refine LetB.ff rfl ?_ | refine LetB.tt (by assumption) ?_ | refine LetB.ff (by assumption) ?_ | refine LetB.dect (by omega) ?_ | refine LetB.decf (by omega) ?_ | refine LetB.beqt (by omega) ?_ | refine LetB.beqf (by omega) ?_ | refine LetB.bnet (by omega) ?_ | refine LetB.bnef (by omega) ?_ | refine LetB.mk _ rfl ?_) | (refine Gd.pre ?_; first | refine Gd.run rfl ?_ | refine Gd.pass rfl ?_ | refine Gd.run (by assumption) ?_ | refine Gd.pass (by assumption) ?_ | (refine Gd.run ?_ ?_; · decide +kernel) | (refine Gd.pass ?_ ?_; · decide +kernel) | refine Gd.both ?_) | (refine Br.pre ?_; first | refine Br.tt rfl ?_ | refine Br.ff rfl ?_ | refine Br.tt (by assumption) ?_ | refine Br.ff (by assumption) ?_ | (refine Br.tt ?_ ?_; · decide +kernel) | (refine Br.ff ?_ ?_; · decide +kernel)) | (refine Ck.pre ?_; first | refine Ck.drawn (by kernel_rfl) ?_ | refine Ck.mk rfl ?_) | (refine LetL.pre ?_; first | refine LetL.mk [_] rfl ?_ | refine LetL.mk _ rfl ?_) | refine forceAs.pass ?_ | refine forceEs.pass ?_ | refine forceC.pass ?_))); (try (conv => whnf)))
      exact ⟨rfl, (), trivial, SW.mk _root_.id rfl rfl (dfN _ _ _ _) ⟨.refl _, .refl _, .refl _, .refl _, .refl _, trivial⟩ (haveV.map (kvF_pure _) rfl (haveV.one rfl trivial))⟩
    have hld := fa_ld hlt
    have hin := (hMb _).2 (getD_memF hlt)
    have hky := keys_F hok (kb _ (getD_memF hlt))
    have hnx := ih (k + 1) hlt (by omega)
    clear ih hMb hMs hok ka kb Ma Mb
    generalize b.getD k fa0 = f at hld hin hky
    obtain ⟨i, hfi, _, _, hkv⟩ := kvF_at hin
    ((repeat ((conv => whnf); (first | (refine LetN.pre ?_; first | ((conv => arg 1; whnf); refine LetN.mk ?_)) | (refine As.pre ?_; first | refine As.mk rfl ?_ | refine As.mk hky ?_ | (refine As.mk ?_ ?_; · decide +kernel) | refine As.mk (andT (nor_self _) rfl) ?_ | refine As.mk (andT (nor_self _) (or_t _)) ?_ | refine As.mk (andT (or_t _) (or_nself _)) ?_ | refine As.mk (andT (or_t _) (or_t _)) ?_ | refine As.mk (andT (nor_self _) (andT (nor_self _) rfl)) ?_ | (refine As.mk ?_ ?_; · ((repeat' (refine andT ?_ ?_)) <;> (first | rfl | assumption | exact decide_eq_true (by omega) | exact decide_eq_true (by dsimp only; omega) | exact decide_eq_true (by simp; omega) | (simp; done))))) | (refine LetV.pre ?_; first | refine LetV.mk (t := fsl) _ hld ?_ | refine LetV.mk (t := mty) (bool true) hkv ?_ | refine LetV.mk (t := mty) (.mp _) rfl ?_ | refine LetV.mk (.sc (.int _ _)) rfl ?_ | refine LetV.mk (.sc (.bool _)) rfl ?_ | refine LetV.mk (.sc _) rfl ?_ | refine LetV.mk (.agg _) rfl ?_ | refine LetV.mk (.slm _ _ _ _ _) rfl ?_ | refine LetV.mk (.ro _ _ _) rfl ?_ | refine LetV.mk (.ptr _ _ _ _) rfl ?_ | refine LetV.mk (.clo _ _ _) rfl ?_ | refine LetV.mk (.rp _ _) rfl ?_) | (refine LetI.pre ?_; first | refine LetI.wrap (by omega) (by omega) ?_ | refine LetI.mk _ rfl ?_) | (refine LetB.pre ?_; first | refine LetB.tt rfl ?_ | refine LetB.ff rfl ?_ | refine LetB.tt (by assumption) ?_ | refine LetB.ff (by assumption) ?_ | refine LetB.dect (by omega) ?_ | refine LetB.decf (by omega) ?_ | refine LetB.beqt (by omega) ?_ | refine LetB.beqf (by omega) ?_ | refine LetB.bnet (by omega) ?_ | refine LetB.bnef (by omega) ?_ | refine LetB.mk _ rfl ?_) | (refine Gd.pre ?_; first | refine Gd.run rfl ?_ | refine Gd.pass rfl ?_ | refine Gd.run (by assumption) ?_ | refine Gd.pass (by assumption) ?_ | (refine Gd.run ?_ ?_; · decide +kernel) | (refine Gd.pass ?_ ?_; · decide +kernel) | refine Gd.both ?_) | (refine Br.pre ?_; first | refine Br.tt rfl ?_ | refine Br.ff rfl ?_ | refine Br.tt (by assumption) ?_ | refine Br.ff (by assumption) ?_ | (refine Br.tt ?_ ?_; · decide +kernel) | (refine Br.ff ?_ ?_; · decide +kernel)) | (refine Ck.pre ?_; first | refine Ck.drawn (by kernel_rfl) ?_ | refine Ck.mk rfl ?_) | (refine LetL.pre ?_; first | refine LetL.mk [_] rfl ?_ | refine LetL.mk _ rfl ?_) | (refine FindN.mk (some i) hfi ?_) | refine forceAs.pass ?_ | refine forceEs.pass ?_ | refine forceC.pass ?_))); (try (conv => whnf)))





    refine LoopN.weak ?sw11 hnx
    case sw11 => exact SW.mk _root_.id rfl rfl (dfN _ _ _ _) ⟨.refl _, .refl _, .refl _, .refl _, .refl _, .refl _, .refl _, VLe2.int (by omega), trivial⟩ (haveV.map (kvF_pure _) rfl (haveV.one rfl trivial))
  intro _ _
  refine VS.cut T_ok mixed rfl ?_
  ((repeat ((conv => whnf); (first | (refine LetN.pre ?_; first | ((conv => arg 1; whnf); refine LetN.mk ?_)) | (refine As.pre ?_; first | refine As.mk rfl ?_ | (refine As.mk ?_ ?_; · decide +kernel) | refine As.mk (andT (nor_self _) rfl) ?_ | refine As.mk (andT (nor_self _) (or_t _)) ?_ | refine As.mk (andT (or_t _) (or_nself _)) ?_ | refine As.mk (andT (or_t _) (or_t _)) ?_ | refine As.mk (andT (nor_self _) (andT (nor_self _) rfl)) ?_ | (refine As.mk ?_ ?_; · ((repeat' (refine andT ?_ ?_)) <;> (first | rfl | assumption | exact decide_eq_true (by omega) | exact decide_eq_true (by dsimp only; omega) | exact decide_eq_true (by simp; omega) | (simp; done))))) | (refine LetV.pre ?_; first | refine LetV.mk (.sc (.int _ _)) rfl ?_ | refine LetV.mk (.sc (.bool _)) rfl ?_ | refine LetV.mk (.sc _) rfl ?_ | refine LetV.mk (.agg _) rfl ?_ | refine LetV.mk (.slm _ _ _ _ _) rfl ?_ | refine LetV.mk (.ro _ _ _) rfl ?_ | refine LetV.mk (.ptr _ _ _ _) rfl ?_ | refine LetV.mk (.clo _ _ _) rfl ?_ | refine LetV.mk (.rp _ _) rfl ?_) | (refine LetI.pre ?_; first | refine LetI.wrap (by omega) (by omega) ?_ | refine LetI.mk _ rfl ?_) | (refine LetB.pre ?_; first | refine LetB.tt rfl ?_ | refine LetB.ff rfl ?_ | refine LetB.tt (by assumption) ?_ | refine LetB.ff (by assumption) ?_ | refine LetB.dect (by omega) ?_ | refine LetB.decf (by omega) ?_ | refine LetB.beqt (by omega) ?_ | refine LetB.beqf (by omega) ?_ | refine LetB.bnet (by omega) ?_ | refine LetB.bnef (by omega) ?_ | refine LetB.mk _ rfl ?_) | (refine Gd.pre ?_; first | refine Gd.run rfl ?_ | refine Gd.pass rfl ?_ | refine Gd.run (by assumption) ?_ | refine Gd.pass (by assumption) ?_ | (refine Gd.run ?_ ?_; · decide +kernel) | (refine Gd.pass ?_ ?_; · decide +kernel) | refine Gd.both ?_) | (refine Br.pre ?_; first | refine Br.tt rfl ?_ | refine Br.ff rfl ?_ | refine Br.tt (by assumption) ?_ | refine Br.ff (by assumption) ?_ | (refine Br.tt ?_ ?_; · decide +kernel) | (refine Br.ff ?_ ?_; · decide +kernel)) | (refine Ck.pre ?_; first | refine Ck.drawn (by kernel_rfl) ?_ | refine Ck.mk rfl ?_) | (refine LetL.pre ?_; first | refine LetL.mk [_] rfl ?_ | refine LetL.mk _ rfl ?_) | refine forceAs.pass ?_ | refine forceEs.pass ?_ | refine forceC.pass ?_))); (try (conv => whnf)))
  refine VS.joinN (df4e a e ck1 M) (fun q => q.2 = b.foldl addM []) ?l4 ?r4
  case l4 =>
    refine VS.of_V T_ok mixed rfl ?_
    ((repeat ((conv => whnf); (first | (refine LetN.pre ?_; first | ((conv => arg 1; whnf); refine LetN.mk ?_)) | (refine As.pre ?_; first | refine As.mk rfl ?_ | (refine As.mk ?_ ?_; · decide +kernel) | refine As.mk (andT (nor_self _) rfl) ?_ | refine As.mk (andT (nor_self _) (or_t _)) ?_ | refine As.mk (andT (or_t _) (or_nself _)) ?_ | refine As.mk (andT (or_t _) (or_t _)) ?_ | refine As.mk (andT (nor_self _) (andT (nor_self _) rfl)) ?_ | (refine As.mk ?_ ?_; · ((repeat' (refine andT ?_ ?_)) <;> (first | rfl | assumption | exact decide_eq_true (by omega) | exact decide_eq_true (by dsimp only; omega) | exact decide_eq_true (by simp; omega) | (simp; done))))) | (refine LetV.pre ?_; first | refine LetV.mk (.sc (.int _ _)) rfl ?_ | refine LetV.mk (.sc (.bool _)) rfl ?_ | refine LetV.mk (.sc _) rfl ?_ | refine LetV.mk (.agg _) rfl ?_ | refine LetV.mk (.slm _ _ _ _ _) rfl ?_ | refine LetV.mk (.ro _ _ _) rfl ?_ | refine LetV.mk (.ptr _ _ _ _) rfl ?_ | refine LetV.mk (.clo _ _ _) rfl ?_ | refine LetV.mk (.rp _ _) rfl ?_) | (refine LetI.pre ?_; first | refine LetI.wrap (by omega) (by omega) ?_ | refine LetI.mk _ rfl ?_) | (refine LetB.pre ?_; first | refine LetB.tt rfl ?_ | refine LetB.ff rfl ?_ | refine LetB.tt (by assumption) ?_ | refine LetB.ff (by assumption) ?_ | refine LetB.dect (by omega) ?_ | refine LetB.decf (by omega) ?_ | refine LetB.beqt (by omega) ?_ | refine LetB.beqf (by omega) ?_ | refine LetB.bnet (by omega) ?_ | refine LetB.bnef (by omega) ?_ | refine LetB.mk _ rfl ?_) | (refine Gd.pre ?_; first | refine Gd.run rfl ?_ | refine Gd.pass rfl ?_ | refine Gd.run (by assumption) ?_ | refine Gd.pass (by assumption) ?_ | (refine Gd.run ?_ ?_; · decide +kernel) | (refine Gd.pass ?_ ?_; · decide +kernel) | refine Gd.both ?_) | (refine Br.pre ?_; first | refine Br.tt rfl ?_ | refine Br.ff rfl ?_ | refine Br.tt (by assumption) ?_ | refine Br.ff (by assumption) ?_ | (refine Br.tt ?_ ?_; · decide +kernel) | (refine Br.ff ?_ ?_; · decide +kernel)) | (refine Ck.pre ?_; first | refine Ck.drawn (by kernel_rfl) ?_ | refine Ck.mk rfl ?_) | (refine LetL.pre ?_; first | refine LetL.mk [_] rfl ?_ | refine LetL.mk _ rfl ?_) | refine forceAs.pass ?_ | refine forceEs.pass ?_ | refine forceC.pass ?_))); (try (conv => whnf)))
    refine LoopN.weak (s1 := df4 a b e ck1 M (0, 0, [])) ?sw12 ?_
    case sw12 => exact SW.mk _root_.id rfl rfl (df4N _ _ _ _ _ _) ⟨.refl _, .refl _, .refl _, .refl _, .refl _, .refl _, VLe2.int (by rw [hmb]), .refl _, trivial⟩ (haveV.map (kvF_pure _) rfl (haveV.one rfl (haveV.map (kvF_pure _) rfl trivial)))
    refine LoopN.ind T_ok mixed (S := df4 a b e ck1 M) (fun i => b.length - i.1) (fun i => i.1 ≤ b.length ∧ i.2.2 = (b.take i.1).foldl addM []) (fun _ => rfl) (fun i hi ih => ?_) (0, 0, []) ⟨Nat.zero_le _, rfl⟩
    obtain ⟨k, ck, N⟩ := i
    obtain ⟨h1, h2⟩ := hi
    dsimp only at h1 h2
    by_cases hlt : k < b.length
    case neg =>
      clear ih
      rw [List.take_of_length_le (by omega)] at h2
      ((repeat ((conv => whnf); (first | (refine LetN.pre ?_; first | ((conv => arg 1; whnf); refine LetN.mk ?_)) | (refine As.pre ?_; first | refine As.mk rfl ?_ | (refine As.mk ?_ ?_; · decide +kernel) | refine As.mk (andT (nor_self _) rfl) ?_ | refine As.mk (andT (nor_self _) (or_t _)) ?_ | refine As.mk (andT (or_t _) (or_nself _)) ?_ | refine As.mk (andT (or_t _) (or_t _)) ?_ | refine As.mk (andT (nor_self _) (andT (nor_self _) rfl)) ?_ | (refine As.mk ?_ ?_; · ((repeat' (refine andT ?_ ?_)) <;> (first | rfl | assumption | exact decide_eq_true (by omega) | exact decide_eq_true (by dsimp only; omega) | exact decide_eq_true (by simp; omega) | (simp; done))))) | (refine LetV.pre ?_; first | refine LetV.mk (.sc (.int _ _)) rfl ?_ | refine LetV.mk (.sc (.bool _)) rfl ?_ | refine LetV.mk (.sc _) rfl ?_ | refine LetV.mk (.agg _) rfl ?_ | refine LetV.mk (.slm _ _ _ _ _) rfl ?_ | refine LetV.mk (.ro _ _ _) rfl ?_ | refine LetV.mk (.ptr _ _ _ _) rfl ?_ | refine LetV.mk (.clo _ _ _) rfl ?_ | refine LetV.mk (.rp _ _) rfl ?_) | (refine LetI.pre ?_; first | refine LetI.wrap (by omega) (by omega) ?_ | refine LetI.mk _ rfl ?_) | (refine LetB.pre ?_; first | refine LetB.tt rfl ?_ | refine LetB.ff rfl ?_ | refine LetB.tt (by assumption) ?_ | refine LetB.ff (by assumption) ?_ | refine LetB.dect (by omega) ?_ | refine LetB.decf (by omega) ?_ | refine LetB.beqt (by omega) ?_ | refine LetB.beqf (by omega) ?_ | refine LetB.bnet (by omega) ?_ | refine LetB.bnef (by omega) ?_ | refine LetB.mk _ rfl ?_) | (refine Gd.pre ?_; first | refine Gd.run rfl ?_ | refine Gd.pass rfl ?_ | refine Gd.run (by assumption) ?_ | refine Gd.pass (by assumption) ?_ | (refine Gd.run ?_ ?_; · decide +kernel) | (refine Gd.pass ?_ ?_; · decide +kernel) | refine Gd.both ?_) | (refine Br.pre ?_; first | refine Br.tt rfl ?_ | refine Br.ff rfl ?_ | refine Br.tt (by assumption) ?_ | refine Br.ff (by assumption) ?_ | (refine Br.tt ?_ ?_; · decide +kernel) | (refine Br.ff ?_ ?_; · decide +kernel)) | (refine Ck.pre ?_; first | refine Ck.drawn (by kernel_rfl) ?_ | refine Ck.mk rfl ?_) | (refine LetL.pre ?_; first | refine LetL.mk [_] rfl ?_ | refine LetL.mk _ rfl ?_) | refine forceAs.pass ?_ | refine forceEs.pass ?_ | refine forceC.pass ?_))); (try (conv => whnf)))
      exact ⟨rfl, (ck, N), h2, SW.mk _root_.id rfl rfl (df4N _ _ _ _ _ _) ⟨.refl _, .refl _, .refl _, .refl _, .refl _, trivial⟩ (haveV.map (kvF_pure _) rfl (haveV.one rfl (haveV.map (kvF_pure _) rfl trivial)))⟩
    have hld := fa_ld hlt
    have hnx : ∀ ck', _ := fun ck' => ih (k + 1, ck', addM N (b.getD k fa0)) ⟨hlt, by rw [h2, foldl_at addM [] hlt fa0]⟩ (by show b.length - (k + 1) < b.length - k; omega)
    have hok2 : ∀ x ∈ N, okF x := by rw [h2]; exact foldl_ok fun x hx => kb x (List.mem_of_mem_take hx)
    have hky := keys_F hok2 (kb _ (getD_memF hlt))
    clear ih h2 ka kb Ma Mb hok hok2 hMs hMb
    generalize b.getD k fa0 = f at hld hnx hky
    by_cases hm : f ∈ N
    · obtain ⟨i, hfi, hset, _⟩ := kvF_some hm
      rw [show addM N f = N from if_pos hm] at hnx
      ((repeat ((conv => whnf); (first | (refine LetN.pre ?_; first | ((conv => arg 1; whnf); refine LetN.mk ?_)) | (refine As.pre ?_; first | refine As.mk rfl ?_ | refine As.mk hky ?_ | (refine As.mk ?_ ?_; · decide +kernel) | refine As.mk (andT (nor_self _) rfl) ?_ | refine As.mk (andT (nor_self _) (or_t _)) ?_ | refine As.mk (andT (or_t _) (or_nself _)) ?_ | refine As.mk (andT (or_t _) (or_t _)) ?_ | refine As.mk (andT (nor_self _) (andT (nor_self _) rfl)) ?_ | (refine As.mk ?_ ?_; · ((repeat' (refine andT ?_ ?_)) <;> (first | rfl | assumption | exact decide_eq_true (by omega) | exact decide_eq_true (by dsimp only; omega) | exact decide_eq_true (by simp; omega) | (simp; done))))) | (refine LetV.pre ?_; first | refine LetV.mk (t := fsl) _ hld ?_ | refine LetV.mk (t := mty) (.mp _) rfl ?_ | refine LetV.mk (.sc (.int _ _)) rfl ?_ | refine LetV.mk (.sc (.bool _)) rfl ?_ | refine LetV.mk (.sc _) rfl ?_ | refine LetV.mk (.agg _) rfl ?_ | refine LetV.mk (.slm _ _ _ _ _) rfl ?_ | refine LetV.mk (.ro _ _ _) rfl ?_ | refine LetV.mk (.ptr _ _ _ _) rfl ?_ | refine LetV.mk (.clo _ _ _) rfl ?_ | refine LetV.mk (.rp _ _) rfl ?_) | (refine LetI.pre ?_; first | refine LetI.wrap (by omega) (by omega) ?_ | refine LetI.mk _ rfl ?_) | (refine LetB.pre ?_; first | refine LetB.tt rfl ?_ | refine LetB.ff rfl ?_ | refine LetB.tt (by assumption) ?_ | refine LetB.ff (by assumption) ?_ | refine LetB.dect (by omega) ?_ | refine LetB.decf (by omega) ?_ | refine LetB.beqt (by omega) ?_ | refine LetB.beqf (by omega) ?_ | refine LetB.bnet (by omega) ?_ | refine LetB.bnef (by omega) ?_ | refine LetB.mk _ rfl ?_) | (refine Gd.pre ?_; first | refine Gd.run rfl ?_ | refine Gd.pass rfl ?_ | refine Gd.run (by assumption) ?_ | refine Gd.pass (by assumption) ?_ | (refine Gd.run ?_ ?_; · decide +kernel) | (refine Gd.pass ?_ ?_; · decide +kernel) | refine Gd.both ?_) | (refine Br.pre ?_; first | refine Br.tt rfl ?_ | refine Br.ff rfl ?_ | refine Br.tt (by assumption) ?_ | refine Br.ff (by assumption) ?_ | (refine Br.tt ?_ ?_; · decide +kernel) | (refine Br.ff ?_ ?_; · decide +kernel)) | (refine Ck.pre ?_; first | refine Ck.drawn (by kernel_rfl) ?_ | refine Ck.mk rfl ?_) | (refine LetL.pre ?_; first | refine LetL.mk [_] rfl ?_ | refine LetL.mk _ rfl ?_) | (refine FindN.mk (some i) hfi ?_) | refine forceAs.pass ?_ | refine forceEs.pass ?_ | refine forceC.pass ?_))); (try (conv => whnf)))




      refine LoopN.weak ?sw13 (hnx ck)
      case sw13 => exact SW.mk _root_.id rfl rfl (df4N _ _ _ _ _ _) ⟨.refl _, .refl _, .refl _, .refl _, .refl _, .refl _, .refl _, VLe2.int (by omega), trivial⟩ (haveV.map (kvF_pure _) rfl (haveV.one rfl (haveV.map (kvF_pure _) (congrArg (fun m => some (Blk.map ck m)) hset) trivial)))
    · have hfi := kvF_none hm
      rw [show addM N f = N ++ [f] from if_neg hm] at hnx
      ((repeat ((conv => whnf); (first | (refine LetN.pre ?_; first | ((conv => arg 1; whnf); refine LetN.mk ?_)) | (refine As.pre ?_; first | refine As.mk rfl ?_ | refine As.mk hky ?_ | (refine As.mk ?_ ?_; · decide +kernel) | refine As.mk (andT (nor_self _) rfl) ?_ | refine As.mk (andT (nor_self _) (or_t _)) ?_ | refine As.mk (andT (or_t _) (or_nself _)) ?_ | refine As.mk (andT (or_t _) (or_t _)) ?_ | refine As.mk (andT (nor_self _) (andT (nor_self _) rfl)) ?_ | (refine As.mk ?_ ?_; · ((repeat' (refine andT ?_ ?_)) <;> (first | rfl | assumption | exact decide_eq_true (by omega) | exact decide_eq_true (by dsimp only; omega) | exact decide_eq_true (by simp; omega) | (simp; done))))) | (refine LetV.pre ?_; first | refine LetV.mk (t := fsl) _ hld ?_ | refine LetV.mk (t := mty) (.mp _) rfl ?_ | refine LetV.mk (.sc (.int _ _)) rfl ?_ | refine LetV.mk (.sc (.bool _)) rfl ?_ | refine LetV.mk (.sc _) rfl ?_ | refine LetV.mk (.agg _) rfl ?_ | refine LetV.mk (.slm _ _ _ _ _) rfl ?_ | refine LetV.mk (.ro _ _ _) rfl ?_ | refine LetV.mk (.ptr _ _ _ _) rfl ?_ | refine LetV.mk (.clo _ _ _) rfl ?_ | refine LetV.mk (.rp _ _) rfl ?_) | (refine LetI.pre ?_; first | refine LetI.wrap (by omega) (by omega) ?_ | refine LetI.mk _ rfl ?_) | (refine LetB.pre ?_; first | refine LetB.tt rfl ?_ | refine LetB.ff rfl ?_ | refine LetB.tt (by assumption) ?_ | refine LetB.ff (by assumption) ?_ | refine LetB.dect (by omega) ?_ | refine LetB.decf (by omega) ?_ | refine LetB.beqt (by omega) ?_ | refine LetB.beqf (by omega) ?_ | refine LetB.bnet (by omega) ?_ | refine LetB.bnef (by omega) ?_ | refine LetB.mk _ rfl ?_) | (refine Gd.pre ?_; first | refine Gd.run rfl ?_ | refine Gd.pass rfl ?_ | refine Gd.run (by assumption) ?_ | refine Gd.pass (by assumption) ?_ | (refine Gd.run ?_ ?_; · decide +kernel) | (refine Gd.pass ?_ ?_; · decide +kernel) | refine Gd.both ?_) | (refine Br.pre ?_; first | refine Br.tt rfl ?_ | refine Br.ff rfl ?_ | refine Br.tt (by assumption) ?_ | refine Br.ff (by assumption) ?_ | (refine Br.tt ?_ ?_; · decide +kernel) | (refine Br.ff ?_ ?_; · decide +kernel)) | (refine Ck.pre ?_; first | refine Ck.drawn (by kernel_rfl) ?_ | refine Ck.mk rfl ?_) | (refine LetL.pre ?_; first | refine LetL.mk [_] rfl ?_ | refine LetL.mk _ rfl ?_) | (refine FindN.mk none hfi ?_) | refine forceAs.pass ?_ | refine forceEs.pass ?_ | refine forceC.pass ?_))); (try (conv => whnf)))




      refine LoopN.weak ?sw14 (hnx (ck + 1))
      case sw14 => exact SW.mk _root_.id rfl rfl (df4N _ _ _ _ _ _) ⟨.refl _, .refl _, .refl _, .refl _, .refl _, .refl _, .refl _, VLe2.int (by omega), trivial⟩ (haveV.map (kvF_pure _) rfl (haveV.one rfl (haveV.map (kvF_pure _) (congrArg (fun m => some (Blk.map (ck + 1) m)) (show kvF N ++ [(kyF f, bool true)] = kvF (N ++ [f]) by simp [kvF])) trivial)))
  rintro ⟨ck2, N⟩ hN
  dsimp only at hN
  obtain ⟨n1, n2⟩ := adds_spec b [] List.nodup_nil
  rw [← hN] at n1 n2
  have hlen : M.length = N.length := Nat.le_antisymm (nodup_len hMn fun x hx => (n2 x).2 (.inr ((hMb x).1 hx))) (nodup_len n1 fun x hx => (hMb x).2 (((n2 x).1 hx).resolve_left List.not_mem_nil))
  have hDS := Differ_f a a e {} {} la la ka ka
  rw [show difP a a e = [] by rw [difP, mis_self]; rfl] at hDS
  clear hN n1 n2 hMn hMs hMb hok ka kb Ma Mb
  have hmM : (kvF M).length = M.length := List.length_map _
  have hmN : (kvF N).length = N.length := List.length_map _
  refine VS.of_V T_ok mixed rfl ?_
  ((repeat ((conv => whnf); (first | (refine LetN.pre ?_; first | ((conv => arg 1; whnf); refine LetN.mk ?_)) | (refine As.pre ?_; first | refine As.mk rfl ?_ | (refine As.mk ?_ ?_; · decide +kernel) | refine As.mk (andT (nor_self _) rfl) ?_ | refine As.mk (andT (nor_self _) (or_t _)) ?_ | refine As.mk (andT (or_t _) (or_nself _)) ?_ | refine As.mk (andT (or_t _) (or_t _)) ?_ | refine As.mk (andT (nor_self _) (andT (nor_self _) rfl)) ?_ | (refine As.mk ?_ ?_; · ((repeat' (refine andT ?_ ?_)) <;> (first | rfl | assumption | exact decide_eq_true (by omega) | exact decide_eq_true (by dsimp only; omega) | exact decide_eq_true (by simp; omega) | (simp; done))))) | (refine LetV.pre ?_; first | refine LetV.mk (.sc (.int _ _)) rfl ?_ | refine LetV.mk (.sc (.bool _)) rfl ?_ | refine LetV.mk (.sc _) rfl ?_ | refine LetV.mk (.agg _) rfl ?_ | refine LetV.mk (.slm _ _ _ _ _) rfl ?_ | refine LetV.mk (.ro _ _ _) rfl ?_ | refine LetV.mk (.ptr _ _ _ _) rfl ?_ | refine LetV.mk (.clo _ _ _) rfl ?_ | refine LetV.mk (.rp _ _) rfl ?_) | (refine LetI.pre ?_; first | refine LetI.wrap (by omega) (by omega) ?_ | refine LetI.mk _ rfl ?_) | (refine LetB.pre ?_; first | refine LetB.tt rfl ?_ | refine LetB.ff rfl ?_ | refine LetB.tt (by assumption) ?_ | refine LetB.ff (by assumption) ?_ | refine LetB.dect (by omega) ?_ | refine LetB.decf (by omega) ?_ | refine LetB.beqt (by omega) ?_ | refine LetB.beqf (by omega) ?_ | refine LetB.bnet (by omega) ?_ | refine LetB.bnef (by omega) ?_ | refine LetB.mk _ rfl ?_) | (refine Gd.pre ?_; first | refine Gd.run rfl ?_ | refine Gd.pass rfl ?_ | refine Gd.run (by assumption) ?_ | refine Gd.pass (by assumption) ?_ | (refine Gd.run ?_ ?_; · decide +kernel) | (refine Gd.pass ?_ ?_; · decide +kernel) | refine Gd.both ?_) | (refine Br.pre ?_; first | refine Br.tt rfl ?_ | refine Br.ff rfl ?_ | refine Br.tt (by assumption) ?_ | refine Br.ff (by assumption) ?_ | (refine Br.tt ?_ ?_; · decide +kernel) | (refine Br.ff ?_ ?_; · decide +kernel)) | (refine Ck.pre ?_; first | refine Ck.drawn (by kernel_rfl) ?_ | refine Ck.mk rfl ?_) | (refine LetL.pre ?_; first | refine LetL.mk [_] rfl ?_ | refine LetL.mk _ rfl ?_) | (refine CallN.pre ?_; first | refine CallN.pure hDS rfl rfl ?_) | refine forceAs.pass ?_ | refine forceEs.pass ?_ | refine forceC.pass ?_))); (try (conv => whnf)))
  exact ⟨_, SW.refl, .inl rfl, ⟨_, rfl, rfl⟩, trivial⟩
end En
end Go.Proofs.YtgnakhljdjekbaaDoor
namespace Go.Proofs.YtgnakhljdjekbaaDoor
open Go.Proofs.YtgnakhljdjekbaaDoor.Am
set_option maxRecDepth 100000
namespace En
theorem differs_row (x : List (List Int)) (k : x.length ≤ maxLen) (kk : ∀ l ∈ x, l.length ≤ maxLen) (y : List (List Int)) (ky : y.length ≤ maxLen) (kyy : ∀ l ∈ y, l.length ≤ maxLen) (id : Int) (day : Int) (hd : IntKind.u16.min ≤ day ∧ day ≤ IntKind.u16.max) :
    AFun Tryd.prog 3 0 (Sh.av (.sl false (.sl false (.int .i64))) x ++ (Sh.av (.sl false (.sl false (.int .i64))) y ++ (Sh.av (.int .i64) id ++ Sh.av (.int .u16) day))) [] (bool true) [] := by
  have h := differsLaw_f (x.map fun l => (({} : Fl), l)) (y.map fun l => (({} : Fl), l)) id day (by rw [List.length_map]; exact k) (fun z hz => by
    obtain ⟨l, hl, rfl⟩ := List.mem_map.1 hz
    exact kk l hl) (by rw [List.length_map]; exact ky) (fun z hz => by
    obtain ⟨l, hl, rfl⟩ := List.mem_map.1 hz
    exact kyy l hl) hd
  rw [List.map_map, List.map_map] at h
  exact h
end En
end Go.Proofs.YtgnakhljdjekbaaDoor
namespace Go.Proofs.YtgnakhljdjekbaaDoor
open Go.Proofs.YtgnakhljdjekbaaDoor.Am Go.ChangeShapes Go.WideShapes Go.ChangeAt Go.RowKit
set_option maxRecDepth 100000
/-! What the rows list of package-level variables, as the machine reads it. -/
theorem gWords : Tryd.prog.globalNamed "quadrivium/appeal.words" = some 0 := by kernel_rfl
theorem tWords : (Tryd.prog.globals[0]?).map (·.type) = some 71 := by kernel_rfl
abbrev laidAll : List (String × DataW Unit) := [("math/bits.deBruijn32tab", Rows.laid_math_bits_deBruijn32tab), ("math/bits.deBruijn64tab", Rows.laid_math_bits_deBruijn64tab), ("internal/strconv.uint64pow10", Rows.laid_internal_strconv_uint64pow10), ("quadrivium/appeal.words", Rows.laid_quadrivium_appeal_words)]
/-- The door's own heap meets the condition. -/
theorem door_met (os : Os) (args : Array Value) : laidMetH Tryd.prog laidAll ((World.doorLaid Tryd.prog 4000 os).forCall (fun _ _ => 0) ⟨#[], args, []⟩).memory :=
  laidMetH_of_parts3 (fuel := 8) (laidMet_of_run' 8 (by kernel_rfl) (by kernel_rfl)) (by kernel_rfl) (by kernel_rfl)
def wordsB : List (List UInt8) := [[102, 97, 99, 116], [101, 97, 114, 110, 101, 100], [116, 97, 107, 101, 110], [109, 101, 116], [115, 116, 97, 110, 100, 105, 110, 103], [115, 116, 105, 112, 101, 110, 100], [97, 119, 97, 114, 100], [118, 101, 114, 115, 105, 111, 110]]
theorem glob_of_laid {W : World} (h : laidMetH Tryd.prog laidAll W) : GlobW W := by
  rw [MakeChecks.laidMetH_plain _ _ _ (by kernel_rfl)] at h
  obtain ⟨ps, ⟨g0, t0, cs0, f0, p0, q0, hg0, ht0, hv0, hd0, ⟨g1, t1, cs1, f1, p1, q1, hg1, ht1, hv1, hd1, ⟨g2, t2, cs2, f2, p2, q2, hg2, ht2, hv2, hd2, ⟨g3, t3, cs3, f3, p3, q3, hg3, ht3, hv3, hd3, _, _⟩, _⟩, _⟩, _⟩, _⟩ := h
  clear hg0 ht0 hv0 hd0 hg1 ht1 hv1 hd1 hg2 ht2 hv2 hd2
  obtain rfl := Option.some.inj (gWords.symm.trans hg3)
  obtain rfl := Option.some.inj (tWords.symm.trans ht3)
  obtain ⟨xs, m1, rfl, hx1, hlen, hn, hel⟩ := DataW.trod_array Tryd.underlying71 hd3
  have c9 : Tryd.prog.cellsOf 9 = 1 := by kernel_rfl
  have hmap : xs.map (·.1) = wordsB.map fun l => (.lit (.string l) : DataW Unit) := by
    have := congrArg Prod.fst hx1
    simp only [Rows.laid_quadrivium_appeal_words, DataW.agg.injEq] at this
    exact this.symm
  have hcell : ∀ (i : Nat) (l : List UInt8), wordsB[i]? = some l → cs3[i]? = some (.string ⟨l.toArray⟩) := by
    intro i l hi
    have hlt : i < 8 := (List.getElem?_eq_some_iff.1 hi).1
    have h1 := hel i hlt
    have h2 : (xs.map (·.1))[i]? = some (.lit (.string l)) := by rw [hmap, List.getElem?_map, hi]; rfl
    rw [List.getElem?_map] at h2
    obtain ⟨x, hx, hx2⟩ := Option.map_eq_some_iff.1 h2
    rw [hx] at h1
    obtain ⟨s, e1, e2, _⟩ := DataW.trod_string Tryd.underlying9 h1
    rw [e2] at hx2
    simp only [DataW.lit.injEq, Lit.string.injEq] at hx2
    subst hx2
    rw [c9, Nat.mul_one] at e1
    have e3 : (cs3.toList.drop i)[0]? = some (.string s) := by
      have := congrArg (fun l => l[0]?) e1
      rw [List.getElem?_take] at this
      simpa using this
    rw [List.getElem?_drop, Nat.add_zero, Array.getElem?_toList] at e3
    exact e3
  have hh : ∃ ty fz, W.heap[0]? = some (.cells cs3 ty fz) := by
    simp only [World.var?, gWords, Option.bind_some] at hv3
    split at hv3
    · rename_i cs ty fz he
      injection hv3 with e
      subst e
      exact ⟨ty, fz, he⟩
    · cases hv3
  obtain ⟨ty, fz, hh⟩ := hh
  intro x hx
  have hx' : x = (0, wordsB.map fun l => .string ⟨l.toArray⟩) := List.mem_singleton.1 hx
  subst hx'
  refine ⟨(Array.getElem?_eq_some_iff.1 hh).1, cs3, ty, fz, hh, fun j c hj => ?_⟩
  rw [List.getElem?_map] at hj
  obtain ⟨l, hl, rfl⟩ := Option.map_eq_some_iff.1 hj
  exact ⟨hcell j l hl, rfl⟩
end Go.Proofs.YtgnakhljdjekbaaDoor
