/- earn: parts of the proof, DearnJK. -/
import Derived.Test.YtiefcppgbnfbfaaL42
set_option linter.all false
namespace Go.Proofs.Ytiefcppgbnfbfaa
open Go.Proofs.Ytiefcppgbnfbfaa.Am
set_option maxRecDepth 100000
namespace En
/-! ### EarnOwn -/
abbrev scty : TypeId := 32
abbrev kvI (sn : List Int) : List (Value × AV) := sn.map fun x => (.int .i64 x, bool true)
theorem kvI_pure : ∀ m : List Int, kvPure (kvI m) = true
  | [] => rfl
  | x :: m => kvI_pure m
theorem kvI_app (m : List Int) (x : Int) : kvI (m ++ [x]) = kvI m ++ [(.int .i64 x, bool true)] := List.map_append
theorem findI_none {m : List Int} {k : Int} (h : k ∉ m) : findOk (kvI m) (.int .i64 k) none := by
  intro x hx
  obtain ⟨y, hy, rfl⟩ := List.mem_map.1 hx
  intro e
  simp only [Value.int.injEq, true_and] at e
  exact h (e ▸ hy)
theorem keysI {m : List Int} (h : ∀ x ∈ m, okI x) {n : Int} (hn : okI n) : (keyB Try.prog 3 (.int .i64 n) && (kvI m).all fun x => keyB Try.prog 3 x.1) = true := by
  rw [key_intE hn, Bool.true_and]
  refine List.all_eq_true.2 fun x hx => ?_
  obtain ⟨y, hy, rfl⟩ := List.mem_map.1 hx
  exact key_intE (h y hy)
theorem snNames (s : Sc.Scl) (sn : List Int) (ok : Nat → Bool) (H : AH) (h : namesAll ok H = true) : namesAll ok ((0, .row 3 scty [Sc.scA s]) :: (1, .map sn.length (kvI sn)) :: H) = true := namesAll.row rfl (namesAll.map (kvI_pure _) h)
abbrev owO (l : List E) (s : Sc.Scl) (a o : Int) : Nat × List Int → AS
  | (st, sn) => ⟨[(3, bool true), (4, .ro {} 15 (l.map en)), (5, .ptr 0 3 0 0), (6, int a), (7, int o), (8, .mp 1), (9, int (st : Nat))], [(0, .row 3 scty [Sc.scA s]), (1, .map sn.length (kvI sn))], 2⟩
abbrev owI (l : List E) (s : Sc.Scl) (a o : Int) (st : Nat) (A : List Ac) : Nat × List Int → AS
  | (k, sn) => ⟨[(3, bool true), (4, .ro {} 15 (l.map en)), (5, .ptr 0 3 0 0), (6, int a), (7, int o), (8, .mp 1), (9, int (st : Nat)), (10, .ro {} 8 (A.map acA)), (37, .ro {} 8 (A.map acA)), (38, int A.length), (39, int (k : Nat))], [(0, .row 3 scty [Sc.scA s]), (1, .map sn.length (kvI sn))], 2⟩
/-- The achievement, its one source written out. -/
abbrev acV (x : Ac) (sv : Int) : AV := .agg [int x.school, str x.code, int x.credits, int x.grade, int x.day, .ro {} 1 [int sv], int x.bundle, .ro {} 1 (x.path.map int)]
abbrev owF (l : List E) (s : Sc.Scl) (a o : Int) (st : Nat) (A : List Ac) (k : Nat) (sn : List Int) (x : Ac) (sv : Int) : Nat × Bool → AS
  | (j, f) => ⟨[(3, bool true), (4, .ro {} 15 (l.map en)), (5, .ptr 0 3 0 0), (6, int a), (7, int o), (8, .mp 1), (9, int (st : Nat)), (10, .ro {} 8 (A.map acA)), (37, .ro {} 8 (A.map acA)), (38, int A.length), (39, int (k : Nat)), (11, int (k : Nat)), (12, .ptr 2 8 0 0), (13, bool f), (85, .ro {} 15 (l.map en)), (86, int l.length), (87, int j)], [(0, .row 3 scty [Sc.scA s]), (1, .map sn.length (kvI sn)), (2, .row 8 aty [acV x sv])], 3⟩
abbrev owG (l : List E) (s : Sc.Scl) (a o : Int) (st : Nat) (A : List Ac) (k : Nat) (sn : List Int) (x : Ac) (sv : Int) (f : Bool) : AS :=
  ⟨[(3, bool true), (4, .ro {} 15 (l.map en)), (5, .ptr 0 3 0 0), (6, int a), (7, int o), (8, .mp 1), (9, int (st : Nat)), (10, .ro {} 8 (A.map acA)), (37, .ro {} 8 (A.map acA)), (38, int A.length), (39, int (k : Nat)), (11, int (k : Nat)), (12, .ptr 2 8 0 0), (13, bool f)], [(0, .row 3 scty [Sc.scA s]), (1, .map sn.length (kvI sn)), (2, .row 8 aty [acV x sv])], 3⟩
abbrev owB (l : List E) (s : Sc.Scl) (a o : Int) (st : Nat) (A : List Ac) (k : Nat) (sn : List Int) (x : Ac) (sv : Int) (fl : Fl) : Nat → AS
  | i => ⟨[(3, bool true), (4, .ro {} 15 (l.map en)), (5, .ptr 0 3 0 0), (6, int a), (7, int o), (8, .mp 1), (9, int (st : Nat)), (10, .ro {} 8 (A.map acA)), (37, .ro {} 8 (A.map acA)), (38, int A.length), (39, int (k : Nat)), (12, .ptr 2 8 0 0), (154, .ro fl 8 ((A.take k).map acA)), (155, int (k : Nat)), (156, int i)], [(0, .row 3 scty [Sc.scA s]), (1, .map sn.length (kvI sn)), (2, .row 8 aty [acV x sv])], 3⟩
/-- An entry from which an achievement comes, as the law tests it. -/
abbrev fndX (x : Ac) (sv : Int) (st : Int) (a : Int) (e : E) : Bool := bif (bif (bif (bif (bif (bif (bif (e.kind == 3) then (e.student == st) else false) then (e.id == sv.tmod 1000000) else false) then (e.school == x.school) else false) then (e.course.toList == x.code.toList) else false) then (e.credits == x.credits) else false) then (e.on_ == x.day) else false) then decide (e.day ≤ a) else false
theorem fnd_self {g : E} {gr : Int} {st a : Int} (h3 : g.kind = 3) (hs : g.student = st) (hd : g.day ≤ a) (hi : 0 ≤ g.id ∧ g.id < 1000000) (hsc : 0 ≤ g.school) : fndX (owC g gr) (srcG g) st a g = true := by
  have h1 : (1000000 * g.school + g.id).tmod 1000000 = g.id := by
    rw [Int.tmod_eq_emod_of_nonneg (by omega)]; omega
  show (bif (bif (bif (bif (bif (bif (bif (g.kind == 3) then (g.student == st) else false) then (g.id == (1000000 * g.school + g.id).tmod 1000000) else false) then (g.school == g.school) else false) then (g.course.toList == g.course.toList) else false) then (g.credits == g.credits) else false) then (g.on_ == g.on_) else false) then decide (g.day ≤ a) else false) = true
  rw [h1]
  simp [h3, hs, hd]
theorem fg_other {l : List E} (h : Ids l) (s : Sc.Scl) (a o : Int) : fgP l s 4 a o = [] ∨ ∃ g ∈ l, g.student = 4 := by
  cases hf : fgP l s 4 a o with
  | nil => exact .inl rfl
  | cons g L =>
    have := mem_fg (l := l) (s := s) (st := 4) (a := a) (o := o) (g := g) (by rw [hf]; exact List.mem_cons_self ..)
    exact .inr ⟨g, this.1, this.2.2.2.2.1⟩
set_option maxHeartbeats 6400000 in
set_option maxRecDepth 100000 in
theorem eown (xs : List Int) (fl : Fl) (hx : xs.length ≤ 9223372036854775807) (q : Int × Int × Int) (h1 : 0 ≤ q.1 ∧ q.1 ≤ 255) (h2 : 0 ≤ q.2.1 ∧ q.2.1 ≤ 65535) (h3 : 0 ≤ q.2.2 ∧ q.2.2 ≤ 65535) :
    AFun Try.prog 5 0 [.agg [.ro fl 1 (xs.map int), u8' q.1, u16 q.2.1, u16 q.2.2]] [] (bool true) [] := by
  obtain ⟨sc, l, a, o, hsc, ⟨hl, hM⟩, ha, ho, hC⟩ := made_f xs fl hx q h1 h2 h3
  clear h1 h2 h3
  generalize sclOf sc = s at hC
  have hI := hM.toIds
  have hb := hM.okL hsc (by omega)
  have hstu : ∀ g ∈ l, 1 ≤ g.student ∧ g.student ≤ 3 := fun g hg => (hM.ok g hg).student
  have hsch : ∀ g ∈ l, g.school = sc := fun g hg => (hM.ok g hg).school
  clear hM
  have hOf := fun st : Int => OfC_f l s st a o (by omega) hI hb
  have hml : (l.map en).length = l.length := List.length_map _
  refine AFun.of_W T_ok mixed Try.func5 rfl (Nat.le_of_ble_eq_true rfl) rfl ?_
  ((repeat ((conv => whnf); (first | (refine LetN.pre ?_; first | ((conv => arg 1; whnf); refine LetN.mk ?_)) | (refine As.pre ?_; first | refine As.mk rfl ?_) | (refine LetV.pre ?_; first | refine LetV.mk (.agg _) rfl ?_) | (refine Ck.pre ?_; first | refine Ck.mk rfl ?_) | (refine LetL.pre ?_; first | refine LetL.mk (ty := scty) [.agg [_, _, _]] rfl ?_) | (refine CallN.pre ?_; first | refine CallN.pure sanity_f rfl rfl ?_ | refine CallN.pure hC rfl rfl ?_)))); (try (conv => whnf)))



  refine LoopN.weak (s1 := owO l s a o (1, [])) ?sw1 ?_
  case sw1 => exact SW.mk (fun i => if i = 0 then 1 else if i = 1 then 2 else i) rfl rfl (snNames _ _ _ _ rfl) ⟨.refl _, .refl _, .refl _, .refl _, .refl _, .refl _, .refl _, trivial⟩ (haveV.row rfl rfl (haveV.map (kvI_pure _) rfl trivial))
  clear hC
  refine LoopN.indS (S := owO l s a o) (fun i => 4 - i.1) (fun i => (1 ≤ i.1 ∧ i.1 ≤ 4) ∧ ∀ x ∈ i.2, ∃ h ∈ l, srcG h = x ∧ h.student < (i.1 : Int)) (fun i hi ih => ?_) (1, []) ⟨⟨Nat.le_refl _, by decide⟩, fun x h => absurd h List.not_mem_nil⟩
  obtain ⟨st, sn⟩ := i
  obtain ⟨g1, g2⟩ := hi
  simp only at g1 g2
  by_cases hlt : st < 4
  case neg =>
    clear ih
    have h4 : st = 4 := by omega
    subst h4
    have hn : ofC l s 4 a o = [] := by
      rcases fg_other hI s a o with h | ⟨g, hg, h⟩
      · rw [ofC, h]; rfl
      · have := hstu g hg; omega
    have hO4 := hOf 4
    rw [hn] at hO4
    refine VS.of_V T_ok mixed rfl ?_
    ((repeat ((conv => whnf); (first | (refine As.pre ?_; first | refine As.mk rfl ?_) | (refine LetV.pre ?_; first | refine LetV.mk (.agg _) rfl ?_) | (refine LetI.pre ?_; first | refine LetI.mk _ rfl ?_) | (refine LetB.pre ?_; first | refine LetB.tt rfl ?_ | refine LetB.ff rfl ?_) | (refine Gd.pre ?_; first | refine Gd.run rfl ?_) | (refine Br.pre ?_; first | refine Br.ff rfl ?_) | (refine Ck.pre ?_; first | refine Ck.mk rfl ?_) | (refine CallN.pre ?_; first | refine CallN.pure hO4 rfl rfl ?_)))); (try (conv => whnf)))
    exact ⟨.inl rfl, ⟨_, rfl, rfl⟩, trivial⟩
  have hA : ∀ k, k < (ofC l s st a o).length → ∃ g gr, g = (fgP l s st a o).getD k e0 ∧ g ∈ fgP l s st a o ∧ gr = (stS l a o g).grade ∧ (ofC l s st a o).getD k ac0 = owC g gr := fun k hk => by
    have hk2 : k < (fgP l s st a o).length := by rw [ofC, List.length_map] at hk; exact hk
    refine ⟨_, _, rfl, getD_mem' hk2, rfl, ?_⟩
    rw [ofC, List.getD_eq_getElem?_getD, List.getElem?_map, List.getElem?_eq_getElem hk2, List.getD_eq_getElem?_getD, List.getElem?_eq_getElem hk2]; rfl
  have hup := fg_up hI s st a o
  have hfl : (ofC l s st a o).length = (fgP l s st a o).length := List.length_map _
  have hfl2 := fg_len l s st a o
  have hO := hOf st
  clear hOf
  generalize ofC l s st a o = A at hA hO hfl
  have hmA : (A.map acA).length = A.length := List.length_map _
  refine VS.cut T_ok mixed rfl ?_
  ((repeat ((conv => whnf); (first | (refine As.pre ?_; first | refine As.mk rfl ?_) | (refine LetB.pre ?_; first | refine LetB.dect (by omega) ?_) | (refine Br.pre ?_; first | refine Br.tt rfl ?_) | (refine Ck.pre ?_; first | refine Ck.mk rfl ?_)))); (try (conv => whnf)))
  refine VS.seq (VS.block ?_)
  refine VS.cut T_ok mixed rfl ?_
  ((repeat ((conv => whnf); (first | (refine As.pre ?_; first | refine As.mk rfl ?_) | (refine LetV.pre ?_; first | refine LetV.mk (.agg _) rfl ?_) | (refine Ck.pre ?_; first | refine Ck.mk rfl ?_) | (refine CallN.pre ?_; first | refine CallN.pure hO rfl rfl ?_)))); (try (conv => whnf)))
  refine VS.endN (fun sn' => owO l s a o (st, sn')) (fun sn' => ∀ x ∈ sn', ∃ h ∈ l, srcG h = x ∧ h.student < ((st + 1 : Nat) : Int)) ?_ ?_
  case refine_2 =>
    intro sn' s1 hsn hw
    refine VS.weak hw ?_
    refine VS.of_V T_ok mixed rfl ?_
    ((repeat ((conv => whnf); (first | (refine As.pre ?_; first | refine As.mk rfl ?_) | (refine LetI.pre ?_; first | refine LetI.wrap (by omega) (by omega) ?_) | (refine Ck.pre ?_; first | refine Ck.mk rfl ?_)))); (try (conv => whnf)))
    refine LoopN.weak ?sw2 (ih (st + 1, sn') ⟨by omega, hsn⟩ (by show 4 - (st + 1) < 4 - st; omega))
    case sw2 => exact SW.mk id rfl rfl (snNames _ _ _ _ rfl) ⟨.refl _, .refl _, .refl _, .refl _, .refl _, .refl _, VLe2.int (by omega), trivial⟩ (haveV.row rfl rfl (haveV.map (kvI_pure _) rfl trivial))
  clear ih
  refine VS.cut T_ok mixed rfl ?_
  ((repeat ((conv => whnf); (first | (refine As.pre ?_; first | refine As.mk rfl ?_) | (refine LetI.pre ?_; first | refine LetI.mk _ rfl ?_) | (refine Ck.pre ?_; first | refine Ck.mk rfl ?_)))); (try (conv => whnf)))
  refine VS.block (VS.loop ?_)
  refine LoopN.weak (s1 := owI l s a o st A (0, sn)) ?sw3 ?_
  case sw3 => exact SW.mk id rfl rfl (snNames _ _ _ _ rfl) ⟨.refl _, .refl _, .refl _, .refl _, .refl _, .refl _, .refl _, .refl _, .refl _, VLe2.int (by rw [List.length_map]), .refl _, trivial⟩ (haveV.row rfl rfl (haveV.map (kvI_pure _) rfl trivial))
  refine LoopN.indS (S := owI l s a o st A) (fun i => A.length - i.1) (fun i => i.1 ≤ A.length ∧ ∀ x ∈ i.2, ∃ h ∈ l, srcG h = x ∧ (h.student < (st : Int) ∨ h.student = st ∧ ∃ j, j < i.1 ∧ h = (fgP l s st a o).getD j e0)) (fun i hi ihk => ?_) (0, sn) ⟨Nat.zero_le _, fun x hx => by
    obtain ⟨h, h1, h2, h3⟩ := g2 x hx
    exact ⟨h, h1, h2, .inl h3⟩⟩
  clear g2 sn
  obtain ⟨k, sn⟩ := i
  obtain ⟨u1, u2⟩ := hi
  simp only at u1 u2
  by_cases hlk : k < A.length
  case neg =>
    clear ihk
    refine VS.of_V T_ok mixed rfl ?_
    ((repeat ((conv => whnf); (first | (refine As.pre ?_; first | refine As.mk rfl ?_) | (refine LetB.pre ?_; first | refine LetB.decf (by omega) ?_) | (refine Br.pre ?_; first | refine Br.ff rfl ?_) | (refine Ck.pre ?_; first | refine Ck.mk rfl ?_)))); (try (conv => whnf)))
    exact ⟨rfl, sn, fun x hx => by
      obtain ⟨h, e1, e2, e3⟩ := u2 x hx
      refine ⟨h, e1, e2, ?_⟩
      rcases e3 with e3 | ⟨e3, _⟩ <;> omega, SW.mk id rfl rfl (snNames _ _ _ _ rfl) ⟨.refl _, .refl _, .refl _, .refl _, .refl _, .refl _, .refl _, trivial⟩ (haveV.row rfl rfl (haveV.map (kvI_pure _) rfl trivial))⟩
  have hld : acA (A.getD k ac0) = (A.map acA).getD k (.sc undef) := mapD ac0 hlk
  obtain ⟨g, gr, hg, hgm, hgr, hge⟩ := hA k hlk
  rw [hge] at hld
  obtain ⟨m1, m2, m3, m4, m5, m6⟩ := mem_fg hgm
  rw [← hgr] at m6
  have hgid := hI.range m1
  have hgs := hsch g m1
  have hnot : srcG g ∉ sn := fun hx => by
    obtain ⟨h, e1, e2, e3⟩ := u2 _ hx
    have hsame : h = g := hI.eq e1 m1 (by have := hsch h e1; unfold srcG at e2; omega)
    rcases e3 with e3 | ⟨_, j, j1, j2⟩
    · rw [hsame] at e3; omega
    · have := List.pairwise_iff_getElem.1 hup j k (by omega) (by omega) j1
      have q1 : (fgP l s st a o).getD j e0 = (fgP l s st a o)[j]'(by omega) := by rw [List.getD_eq_getElem?_getD, List.getElem?_eq_getElem (by omega)]; rfl
      have q2 : (fgP l s st a o).getD k e0 = (fgP l s st a o)[k]'(by omega) := by rw [List.getD_eq_getElem?_getD, List.getElem?_eq_getElem (by omega)]; rfl
      rw [← q1, ← j2, hsame, ← q2, ← hg] at this
      omega
  have hkeys := keysI (m := sn) (fun x hx => by
    obtain ⟨h, e1, e2, _⟩ := u2 x hx
    have := hI.range e1
    have := hsch h e1
    unfold srcG at e2
    constructor <;> omega) (n := srcG g) (by unfold srcG; constructor <;> omega)
  have hfn := findI_none hnot
  have hP := Sc.refPassed_f s gr
  rw [decide_eq_true m6] at hP
  have hnx := fun (hh : ∀ x ∈ sn ++ [srcG g], ∃ h ∈ l, srcG h = x ∧ (h.student < (st : Int) ∨ h.student = st ∧ ∃ j, j < k + 1 ∧ h = (fgP l s st a o).getD j e0)) => ihk (k + 1, sn ++ [srcG g]) ⟨by show k + 1 ≤ A.length; omega, hh⟩ (by show A.length - (k + 1) < A.length - k; omega)
  replace hnx := hnx fun x hx => by
    rcases List.mem_append.1 hx with hx | hx
    · obtain ⟨h, e1, e2, e3⟩ := u2 x hx
      refine ⟨h, e1, e2, e3.imp id fun ⟨e4, j, j1, j2⟩ => ⟨e4, j, by omega, j2⟩⟩
    · rw [List.mem_singleton.1 hx]
      exact ⟨g, m1, rfl, .inr ⟨m5, k, by omega, hg⟩⟩
  have hAk : ∀ i, i < k → ∃ g' gr', (A.take k).getD i ac0 = owC g' gr' ∧ g'.id ≠ g.id ∧ g'.school = sc ∧ g' ∈ l := fun i hi => by
    obtain ⟨g', gr', e1, e2, _, e4⟩ := hA i (by omega)
    refine ⟨g', gr', ?_, ?_, hsch g' (mem_fg e2).1, (mem_fg e2).1⟩
    · rw [← e4, List.getD_eq_getElem?_getD, List.getD_eq_getElem?_getD, List.getElem?_take_of_lt hi]
    · have := List.pairwise_iff_getElem.1 hup i k (by omega) (by omega) hi
      have q1 : (fgP l s st a o).getD i e0 = (fgP l s st a o)[i]'(by omega) := by rw [List.getD_eq_getElem?_getD, List.getElem?_eq_getElem (by omega)]; rfl
      have q2 : (fgP l s st a o).getD k e0 = (fgP l s st a o)[k]'(by omega) := by rw [List.getD_eq_getElem?_getD, List.getElem?_eq_getElem (by omega)]; rfl
      rw [e1, hg, q1, q2]; omega
  clear ihk u2 hA hge hnot hup hgm hg
  have hlenL := hml
  obtain ⟨x, hxd⟩ : ∃ x, x = owC g gr := ⟨_, rfl⟩
  have hfx : fndX x (srcG g) st a g = true := by rw [hxd]; exact fnd_self m2 m5 m3 (by omega) (by omega)
  have hxs : x.src = [srcG g] := by rw [hxd]; rfl
  have hxa : acV x (srcG g) = .agg [int g.school, str g.course, int g.credits, int gr, int g.on_, .ro {} 1 [int (srcG g)], int 0, .ro {} 1 []] := by rw [hxd]; rfl
  have hxc : acA x = acV x (srcG g) := by rw [hxd]; rfl
  refine VS.cut T_ok mixed rfl ?_
  ((repeat ((conv => whnf); (first | (refine As.pre ?_; first | refine As.mk rfl ?_) | (refine LetB.pre ?_; first | refine LetB.dect (by omega) ?_) | (refine Ck.pre ?_; first | refine Ck.mk rfl ?_)))); (try (conv => whnf)))
  refine VS.cut T_ok mixed rfl ?_
  ((repeat ((conv => whnf); (first | (refine Br.pre ?_; first | refine Br.tt rfl ?_) | (refine Ck.pre ?_; first | refine Ck.mk rfl ?_)))); (try (conv => whnf)))
  refine VS.seq (VS.block ?_)
  have hld2 : AV.agg [int g.school, str g.course, int g.credits, int gr, int g.on_, .ro {} 1 [int (srcG g)], int 0, .ro {} 1 []] = (A.map acA).getD k (.sc undef) := hld
  refine VS.cut T_ok mixed rfl ?_
  ((repeat ((conv => whnf); (first | (refine LetN.pre ?_; first | ((conv => arg 1; whnf); refine LetN.mk ?_)) | (refine As.pre ?_; first | refine As.mk rfl ?_ | (refine As.mk ?_ ?_; · ((repeat' (refine andT ?_ ?_)) <;> (first | rfl | assumption | exact decide_eq_true (by omega) | exact decide_eq_true (by dsimp only; omega) | exact decide_eq_true (by simp; omega) | (simp; done))))) | (refine LetV.pre ?_; first | refine LetV.mk (t := 41) _ hld2 ?_ | refine LetV.mk (.agg _) rfl ?_) | (refine Ck.pre ?_; first | refine Ck.mk rfl ?_) | (refine LetL.pre ?_; first | refine LetL.mk [_] rfl ?_)))); (try (conv => whnf)))
  refine VS.seq ?_
  refine VS.cut T_ok mixed rfl ?_
  ((repeat ((conv => whnf); (first | (refine As.pre ?_; first | refine As.mk rfl ?_ | refine As.mk hkeys ?_) | (refine LetV.pre ?_; first | refine LetV.mk (.sc (.int _ _)) rfl ?_ | refine LetV.mk (.sc (.bool _)) rfl ?_ | refine LetV.mk (.agg _) rfl ?_ | refine LetV.mk (.ro _ _ _) rfl ?_) | (refine LetI.pre ?_; first | refine LetI.mk _ rfl ?_) | (refine LetB.pre ?_; first | refine LetB.ff rfl ?_ | refine LetB.decf (by omega) ?_) | (refine Gd.pre ?_; first | refine Gd.run rfl ?_) | (refine Ck.pre ?_; first | refine Ck.mk rfl ?_) | (refine CallN.pre ?_; first | refine CallN.pure hP rfl rfl ?_) | (refine FindN.mk none hfn ?_)))); (try (conv => whnf)))




  refine VS.condF rfl rfl (VS.skip ?_)
  refine VS.cut T_ok mixed rfl ?_
  ((repeat ((conv => whnf); (first | (refine LetN.pre ?_; first | ((conv => arg 1; whnf); refine LetN.mk ?_)) | (refine As.pre ?_; first | refine As.mk rfl ?_ | refine As.mk hkeys ?_) | (refine LetV.pre ?_; first | refine LetV.mk (.sc (.int _ _)) rfl ?_ | refine LetV.mk (.ro _ _ _) rfl ?_) | (refine Ck.pre ?_; first | refine Ck.mk rfl ?_) | (refine FindN.mk none hfn ?_)))); (try (conv => whnf)))



  refine VS.cut T_ok mixed rfl ?_
  ((repeat ((conv => whnf); (first | (refine As.pre ?_; first | refine As.mk rfl ?_) | (refine Ck.pre ?_; first | refine Ck.mk rfl ?_)))); (try (conv => whnf)))
  obtain ⟨sn', hsn'⟩ : ∃ sn', sn' = sn ++ [srcG g] := ⟨_, rfl⟩
  rw [← hsn'] at hnx
  have hmap : (Blk.map (sn.length + 1) (kvI sn ++ [(.int .i64 (srcG g), bool true)])) = .map sn'.length (kvI sn') := by rw [hsn', kvI_app]; simp
  refine VS.weak (s1 := owG l s a o st A k sn' x (srcG g) false) ?sw4 ?_
  case sw4 => exact SW.mk id rfl rfl (snNames _ _ _ _ (namesAll.row rfl rfl)) ⟨.refl _, .refl _, .refl _, .refl _, .refl _, .refl _, .refl _, .refl _, .refl _, .refl _, .refl _, .refl _, .refl _, .refl _, trivial⟩ (haveV.row rfl rfl (haveV.map (kvI_pure _) (by rw [← hmap]; rfl) (haveV.row rfl (by rw [hxa]; rfl) trivial)))
  clear hkeys hfn hld hld2 hP hmap hsn'
  clear sn
  have hx1 : x.src.length = 1 := by rw [hxs]; rfl
  refine VS.joinN (fun f => owG l s a o st A k sn' x (srcG g) f) (fun f => f = true) ?_ ?_
  · clear hnx hAk
    refine VS.cut T_ok mixed rfl ?_
    ((repeat ((conv => whnf); (first | (refine As.pre ?_; first | refine As.mk rfl ?_) | (refine LetI.pre ?_; first | refine LetI.mk _ rfl ?_) | (refine Ck.pre ?_; first | refine Ck.mk rfl ?_)))); (try (conv => whnf)))
    refine VS.block (VS.loop ?_)
    refine LoopN.weak (s1 := owF l s a o st A k sn' x (srcG g) (0, false)) ?sw5 ?_
    case sw5 => exact SW.mk id rfl rfl (snNames _ _ _ _ (namesAll.row rfl rfl)) ⟨.refl _, .refl _, .refl _, .refl _, .refl _, .refl _, .refl _, .refl _, .refl _, .refl _, .refl _, .refl _, .refl _, .refl _, .refl _, VLe2.int (by rw [List.length_map]), .refl _, trivial⟩ (haveV.row rfl rfl (haveV.map (kvI_pure _) rfl (haveV.row rfl rfl trivial)))
    refine LoopN.ind T_ok mixed (S := owF l s a o st A k sn' x (srcG g)) (fun j => l.length - j.1) (fun j => j.1 ≤ l.length ∧ true = (j.2 || (l.drop j.1).any (fndX x (srcG g) st a))) (fun _ => rfl) (fun j hj ihj => ?_) (0, false) ⟨Nat.zero_le _, by rw [Bool.false_or, List.drop_zero]; exact (List.any_eq_true.2 ⟨g, m1, hfx⟩).symm⟩
    obtain ⟨j, f⟩ := j
    obtain ⟨w1, w2⟩ := hj
    simp only at w1 w2
    by_cases hlj : j < l.length
    case neg =>
      clear ihj
      rw [List.drop_eq_nil_of_le (by omega), List.any_nil, Bool.or_false] at w2
      ((repeat ((conv => whnf); (first | (refine As.pre ?_; first | refine As.mk rfl ?_) | (refine LetB.pre ?_; first | refine LetB.decf (by omega) ?_) | (refine Br.pre ?_; first | refine Br.ff rfl ?_) | (refine Ck.pre ?_; first | refine Ck.mk rfl ?_)))); (try (conv => whnf)))
      exact ⟨rfl, f, w2.symm, SW.mk id rfl rfl (snNames _ _ _ _ (namesAll.row rfl rfl)) ⟨.refl _, .refl _, .refl _, .refl _, .refl _, .refl _, .refl _, .refl _, .refl _, .refl _, .refl _, .refl _, .refl _, .refl _, trivial⟩ (haveV.row rfl rfl (haveV.map (kvI_pure _) rfl (haveV.row rfl rfl trivial)))⟩
    have hle := ld_en hlj
    rw [any_drop _ hlj e0] at w2
    generalize l.getD j e0 = e at hle w2
    cases f with
    | true =>
      have hn2 := ihj (j + 1, true) ⟨by show j + 1 ≤ l.length; omega, rfl⟩ (by show l.length - (j + 1) < l.length - j; omega)
      clear ihj w2
      ((repeat ((conv => whnf); (first | (refine LetN.pre ?_; first | ((conv => arg 1; whnf); refine LetN.mk ?_)) | (refine As.pre ?_; first | refine As.mk rfl ?_ | (refine As.mk ?_ ?_; · ((repeat' (refine andT ?_ ?_)) <;> (first | rfl | assumption | exact decide_eq_true (by omega) | exact decide_eq_true (by dsimp only; omega) | exact decide_eq_true (by simp; omega) | (simp; done))))) | (refine LetV.pre ?_; first | refine LetV.mk (t := 30) _ hle ?_ | refine LetV.mk (.agg _) rfl ?_) | (refine LetI.pre ?_; first | refine LetI.wrap (by omega) (by omega) ?_) | (refine LetB.pre ?_; first | refine LetB.dect (by omega) ?_) | (refine Gd.pre ?_; first | refine Gd.pass rfl ?_) | (refine Br.pre ?_; first | refine Br.tt rfl ?_) | (refine Ck.pre ?_; first | refine Ck.drawn (by kernel_rfl) ?_ | refine Ck.mk rfl ?_) | (refine LetL.pre ?_; first | refine LetL.mk [_] rfl ?_)))); (try (conv => whnf)))
      refine LoopN.weak ?sw6 hn2
      case sw6 => exact SW.mk id rfl rfl (snNames _ _ _ _ (namesAll.row rfl rfl)) ⟨.refl _, .refl _, .refl _, .refl _, .refl _, .refl _, .refl _, .refl _, .refl _, .refl _, .refl _, .refl _, .refl _, .refl _, .refl _, .refl _, VLe2.int (by omega), trivial⟩ (haveV.row rfl rfl (haveV.map (kvI_pure _) rfl (haveV.row rfl rfl trivial)))
    | false =>
      have hn2 := ihj (j + 1, fndX x (srcG g) st a e) ⟨by show j + 1 ≤ l.length; omega, by rw [w2, Bool.false_or]⟩ (by show l.length - (j + 1) < l.length - j; omega)
      clear ihj w2
      ((repeat ((conv => whnf); (first | (refine LetN.pre ?_; first | ((conv => arg 1; whnf); refine LetN.mk ?_)) | (refine As.pre ?_; first | refine As.mk rfl ?_ | refine As.mk (andT (nor_self _) rfl) ?_ | refine As.mk (andT (nor_self _) (or_t _)) ?_ | refine As.mk (andT (nor_self _) (andT (nor_self _) rfl)) ?_ | (refine As.mk ?_ ?_; · ((repeat' (refine andT ?_ ?_)) <;> (first | rfl | assumption | exact decide_eq_true (by omega) | exact decide_eq_true (by dsimp only; omega) | exact decide_eq_true (by simp; omega) | (simp; done))))) | (refine LetV.pre ?_; first | refine LetV.mk (t := 30) _ hle ?_ | refine LetV.mk (.sc (.int _ _)) rfl ?_ | refine LetV.mk (.agg _) rfl ?_) | (refine LetI.pre ?_; first | refine LetI.wrap (by omega) (by omega) ?_) | (refine LetB.pre ?_; first | refine LetB.dect (by omega) ?_ | refine LetB.mk _ rfl ?_) | (refine Gd.pre ?_; first | refine Gd.run rfl ?_ | refine Gd.both ?_) | (refine Br.pre ?_; first | refine Br.tt rfl ?_) | (refine Ck.pre ?_; first | refine Ck.drawn (by kernel_rfl) ?_ | refine Ck.mk rfl ?_) | (refine LetL.pre ?_; first | refine LetL.mk [_] rfl ?_)))); (try (conv => whnf)))

      refine LoopN.weak ?sw7 hn2
      case sw7 => exact SW.mk id rfl rfl (snNames _ _ _ _ (namesAll.row rfl rfl)) ⟨.refl _, .refl _, .refl _, .refl _, .refl _, .refl _, .refl _, .refl _, .refl _, .refl _, .refl _, .refl _, .refl _, VLe2.of_eq rfl, .refl _, .refl _, VLe2.int (by omega), trivial⟩ (haveV.row rfl rfl (haveV.map (kvI_pure _) rfl (haveV.row rfl rfl trivial)))
  intro f hf
  subst hf
  refine VS.seq ?_
  refine VS.cut T_ok mixed rfl ?_
  ((repeat ((conv => whnf); (first | (refine As.pre ?_; first | refine As.mk rfl ?_) | (refine Ck.pre ?_; first | refine Ck.mk rfl ?_)))); (try (conv => whnf)))
  refine VS.condF rfl rfl (VS.skip ?_)
  refine VS.endN (fun _ : Unit => owI l s a o st A (k, sn')) (fun _ => True) ?_ ?_
  case refine_2 =>
    intro _ s1 _ hw
    refine VS.weak hw ?_
    refine VS.of_V T_ok mixed rfl ?_
    ((repeat ((conv => whnf); (first | (refine As.pre ?_; first | refine As.mk rfl ?_) | (refine LetI.pre ?_; first | refine LetI.wrap (by omega) (by omega) ?_) | (refine Ck.pre ?_; first | refine Ck.mk rfl ?_)))); (try (conv => whnf)))
    refine LoopN.weak ?sw8 hnx
    case sw8 => exact SW.mk id rfl rfl (snNames _ _ _ _ rfl) ⟨.refl _, .refl _, .refl _, .refl _, .refl _, .refl _, .refl _, .refl _, .refl _, .refl _, VLe2.int (by omega), trivial⟩ (haveV.row rfl rfl (haveV.map (kvI_pure _) rfl trivial))
  clear hnx
  have hdr : AV.ro {} 8 ((A.take k).map acA) = .ro {} 8 (List.take (((k : Int)).toNat - 0) (List.drop 0 (A.map acA))) := by simp
  refine VS.cut T_ok mixed rfl ?_
  ((repeat ((conv => whnf); (first | (refine As.pre ?_; first | refine As.mk rfl ?_ | (refine As.mk ?_ ?_; · ((repeat' (refine andT ?_ ?_)) <;> (first | rfl | assumption | exact decide_eq_true (by omega) | exact decide_eq_true (by dsimp only; omega) | exact decide_eq_true (by simp; omega) | (simp; done))))) | (refine LetV.pre ?_; first | refine LetV.mk (t := 41) _ hdr ?_) | (refine LetI.pre ?_; first | refine LetI.mk _ rfl ?_) | (refine Ck.pre ?_; first | refine Ck.mk rfl ?_)))); (try (conv => whnf)))
  refine VS.block (VS.loop ?_)
  refine LoopN.weak (s1 := owB l s a o st A k sn' x (srcG g) {} 0) ?sw9 ?_
  case sw9 => exact SW.mk id rfl rfl (snNames _ _ _ _ (namesAll.row rfl rfl)) ⟨.refl _, .refl _, .refl _, .refl _, .refl _, .refl _, .refl _, .refl _, .refl _, .refl _, .refl _, .refl _, .refl _, VLe2.int (by simp; omega), .refl _, trivial⟩ (haveV.row rfl rfl (haveV.map (kvI_pure _) rfl (haveV.row rfl rfl trivial)))
  have hmk : ((A.take k).map acA).length = k := by simp; omega
  refine LoopN.ind T_ok mixed (S := owB l s a o st A k sn' x (srcG g) {}) (fun i => k - i) (fun i => i ≤ k) (fun _ => rfl) (fun i hi ihi => ?_) 0 (Nat.zero_le _)
  by_cases hli : i < k
  case neg =>
    clear ihi
    ((repeat ((conv => whnf); (first | (refine As.pre ?_; first | refine As.mk rfl ?_) | (refine LetB.pre ?_; first | refine LetB.decf (by omega) ?_) | (refine Br.pre ?_; first | refine Br.ff rfl ?_) | (refine Ck.pre ?_; first | refine Ck.mk rfl ?_)))); (try (conv => whnf)))
    exact ⟨rfl, (), trivial, SW.mk id rfl rfl (snNames _ _ _ _ rfl) ⟨.refl _, .refl _, .refl _, .refl _, .refl _, .refl _, .refl _, .refl _, .refl _, .refl _, .refl _, trivial⟩ (haveV.row rfl rfl (haveV.map (kvI_pure _) rfl trivial))⟩
  have hlb : acA ((A.take k).getD i ac0) = ((A.take k).map acA).getD i (.sc undef) := mapD ac0 (by simp; omega)
  obtain ⟨g', gr', b1, b2, b3, b4⟩ := hAk i hli
  rw [b1] at hlb
  obtain ⟨b, hbd⟩ : ∃ b, b = owC g' gr' := ⟨_, rfl⟩
  rw [← hbd] at hlb
  have hbs : b.src = [srcG g'] := by rw [hbd]; rfl
  have okx : okA x := ⟨by omega, by rw [hxd]; exact Nat.zero_le _⟩
  have okb : okA b := ⟨by rw [hbs]; simp, by rw [hbd]; exact Nat.zero_le _⟩
  have hAp := Apart_f x b okx okb
  have hcm : cmn x.src b.src = false := by
    rw [← Bool.not_eq_true, cmn_iff, hxs, hbs]
    rintro ⟨y, y1, y2⟩
    rw [List.mem_singleton.1 y1] at y2
    have := List.mem_singleton.1 y2
    unfold srcG at this
    omega
  have hap : apP x b = !(decide (x.school = b.school) && decide (x.code = b.code)) := by
    unfold apP
    rw [hcm]; simp
  rw [hap, hxc] at hAp
  have hc := toL_eq x.code b.code
  have hce : (x.school == b.school && (x.code.toList == b.code.toList && true)) = (decide (x.school = b.school) && decide (x.code = b.code)) := by
    rw [hc, Bool.and_true]; rfl
  obtain ⟨C, hC⟩ : ∃ C, C = (decide (x.school = b.school) && decide (x.code = b.code)) := ⟨_, rfl⟩
  rw [← hC] at hAp hce
  have hn2 := ihi (i + 1) (by omega) (by omega)
  clear ihi hap hC hc b1 b2 b3 b4 hcm hAk
  cases C with
  | true =>
    have hce2 : (!(x.school == b.school && (x.code.toList == b.code.toList && true))) = false := by rw [hce]; rfl
    ((repeat ((conv => whnf); (first | (refine LetN.pre ?_; first | ((conv => arg 1; whnf); refine LetN.mk ?_)) | (refine As.pre ?_; first | refine As.mk rfl ?_ | (refine As.mk ?_ ?_; · ((repeat' (refine andT ?_ ?_)) <;> (first | rfl | assumption | exact decide_eq_true (by omega) | exact decide_eq_true (by dsimp only; omega) | exact decide_eq_true (by simp; omega) | (simp; done))))) | (refine LetV.pre ?_; first | refine LetV.mk (t := 41) _ hlb ?_ | refine LetV.mk (.agg _) rfl ?_) | (refine LetI.pre ?_; first | refine LetI.wrap (by omega) (by omega) ?_) | (refine LetB.pre ?_; first | refine LetB.ff rfl ?_ | refine LetB.ff (by assumption) ?_ | refine LetB.dect (by omega) ?_) | (refine Br.pre ?_; first | refine Br.tt rfl ?_ | refine Br.ff rfl ?_) | (refine Ck.pre ?_; first | refine Ck.drawn (by kernel_rfl) ?_ | refine Ck.mk rfl ?_) | (refine LetL.pre ?_; first | refine LetL.mk [_] rfl ?_) | (refine CallN.pre ?_; first | refine CallN.pure hAp rfl rfl ?_)))); (try (conv => whnf)))



    refine LoopN.weak ?swA hn2
    case swA => exact SW.mk id rfl rfl (snNames _ _ _ _ (namesAll.row rfl rfl)) ⟨.refl _, .refl _, .refl _, .refl _, .refl _, .refl _, .refl _, .refl _, .refl _, .refl _, .refl _, .refl _, .refl _, .refl _, VLe2.int (by omega), trivial⟩ (haveV.row rfl rfl (haveV.map (kvI_pure _) rfl (haveV.row rfl rfl trivial)))
  | false =>
    have hce2 : (!(x.school == b.school && (x.code.toList == b.code.toList && true))) = true := by rw [hce]; rfl
    ((repeat ((conv => whnf); (first | (refine LetN.pre ?_; first | ((conv => arg 1; whnf); refine LetN.mk ?_)) | (refine As.pre ?_; first | refine As.mk rfl ?_ | (refine As.mk ?_ ?_; · ((repeat' (refine andT ?_ ?_)) <;> (first | rfl | assumption | exact decide_eq_true (by omega) | exact decide_eq_true (by dsimp only; omega) | exact decide_eq_true (by simp; omega) | (simp; done))))) | (refine LetV.pre ?_; first | refine LetV.mk (t := 41) _ hlb ?_ | refine LetV.mk (.agg _) rfl ?_) | (refine LetI.pre ?_; first | refine LetI.wrap (by omega) (by omega) ?_) | (refine LetB.pre ?_; first | refine LetB.ff rfl ?_ | refine LetB.tt (by assumption) ?_ | refine LetB.dect (by omega) ?_) | (refine Br.pre ?_; first | refine Br.tt rfl ?_ | refine Br.ff rfl ?_) | (refine Ck.pre ?_; first | refine Ck.drawn (by kernel_rfl) ?_ | refine Ck.mk rfl ?_) | (refine LetL.pre ?_; first | refine LetL.mk [_] rfl ?_) | (refine CallN.pre ?_; first | refine CallN.pure hAp rfl rfl ?_)))); (try (conv => whnf)))



    refine LoopN.weak ?swB hn2
    case swB => exact SW.mk id rfl rfl (snNames _ _ _ _ (namesAll.row rfl rfl)) ⟨.refl _, .refl _, .refl _, .refl _, .refl _, .refl _, .refl _, .refl _, .refl _, .refl _, .refl _, .refl _, .refl _, .refl _, VLe2.int (by omega), trivial⟩ (haveV.row rfl rfl (haveV.map (kvI_pure _) rfl (haveV.row rfl rfl trivial)))
theorem eown_row (x : List Int × Int × Int × Int) (hx : x.1.length ≤ 9223372036854775807) (h1 : 0 ≤ x.2.1 ∧ x.2.1 ≤ 255) (h2 : 0 ≤ x.2.2.1 ∧ x.2.2.1 ≤ 65535) (h3 : 0 ≤ x.2.2.2 ∧ x.2.2.2 ≤ 65535) :
    AFun Try.prog 5 0 [.agg [.ro {} 1 (x.1.map int), u8' x.2.1, u16 x.2.2.1, u16 x.2.2.2]] [] (bool true) [] := eown x.1 {} hx x.2 h1 h2 h3
end En
end Go.Proofs.Ytiefcppgbnfbfaa
