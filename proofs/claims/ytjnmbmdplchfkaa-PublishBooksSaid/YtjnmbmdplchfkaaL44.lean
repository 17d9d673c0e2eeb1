/- publish: parts of the proof, DpublishPW DpublishPX DpublishPY DpublishPZ DpublishQA DpublishQB DpublishQC DpublishQD DpublishQE. -/
import Derived.Test.YtjnmbmdplchfkaaL43
set_option linter.all false
namespace Go.Proofs.Ytjnmbmdplchfkaa
open Go.Proofs.Ytjnmbmdplchfkaa.Am
set_option maxRecDepth 100000
namespace Pb
/-! ### What binds -/
structure Ch where
  prog : Int
  ver : Int
  begin_ : Int
  on_ : Int
abbrev chA (c : Ch) : AV := .agg [int c.prog, int c.ver, int c.begin_, int c.on_]
abbrev chy : TypeId := 60
def bestV : Option Pg → AV
  | none => .sc (.pointer none)
  | some b => .rp (pg b) 0
/-- One programme more, as to what binds at the beginning. -/
def b1S (s i begin_ : Int) (a : Bool × Option Pg) (p : Pg) : Bool × Option Pg :=
  if p.school = s ∧ p.id = i then (true, if p.from_ ≤ begin_ then match a.2 with
    | none => some p
    | some b => if b.ver < p.ver then some p else some b else a.2) else a
def b1P (B : List Pg) (s i begin_ : Int) : Bool × Option Pg := B.foldl (b1S s i begin_) (false, none)
/-- A choice more. -/
def b2S (B : List Pg) (s i day : Int) (b : Pg) (c : Ch) : Pg :=
  if c.prog ≠ i ∨ day < c.on_ ∨ c.ver ≤ b.ver then b else
    if (ofP s i c.ver B).2 = true ∧ (ofP s i c.ver B).1.from_ ≤ c.on_ then (ofP s i c.ver B).1 else b
def b2P (B : List Pg) (s i day : Int) (b : Pg) (C : List Ch) : Pg := C.foldl (b2S B s i day) b
def bindQ (B : List Pg) (s i day : Int) (C : List Ch) : Bool → Option Pg → Pg × Int
  | false, _ => (p0, 5)
  | true, none => (p0, 30)
  | true, some b => (b2P B s i day b C, 0)
def bindP (B : List Pg) (s i begin_ day : Int) (C : List Ch) : Pg × Int := bindQ B s i day C (b1P B s i begin_).1 (b1P B s i begin_).2
theorem b1_take {B : List Pg} {k : Nat} (h : k < B.length) (s i be : Int) : b1P (B.take (k + 1)) s i be = b1S s i be (b1P (B.take k) s i be) (B.getD k p0) := by
  rw [pg_take h, b1P, List.foldl_append]; rfl
abbrev bi1S (B : List Pg) (C : List Ch) (s i be day : Int) : Nat × Bool × Option Pg → AS
  | (j, sm, none) => ⟨[(0, .ro {} 14 (B.map pg)), (1, int s), (2, int i), (3, int be), (4, .ro {} 4 (C.map chA)), (5, int day), (12, .ptr 0 14 0 0), (14, .sc (.pointer none)), (15, bool sm), (22, .ro {} 14 (B.map pg)), (23, int B.length), (24, int j)], [(0, .row 14 pty [zpV])], 1⟩
  | (j, sm, some b) => ⟨[(0, .ro {} 14 (B.map pg)), (1, int s), (2, int i), (3, int be), (4, .ro {} 4 (C.map chA)), (5, int day), (12, .ptr 0 14 0 0), (14, .rp (pg b) 0), (15, bool sm), (22, .ro {} 14 (B.map pg)), (23, int B.length), (24, int j)], [(0, .row 14 pty [zpV])], 1⟩
theorem b1_mem (s i be : Int) : ∀ B : List Pg, ∀ q, (b1P B s i be).2 = some q → q ∈ B := by
  refine revInd (M := fun B => ∀ q, (b1P B s i be).2 = some q → q ∈ B) (fun q h => by cases h) ?_
  intro B p ih q h
  rw [b1P, List.foldl_append] at h
  change (b1S s i be (b1P B s i be) p).2 = some q at h
  generalize b1P B s i be = a at h ih
  unfold b1S at h
  split at h
  · dsimp only at h
    split at h
    · split at h
      · injection h with h; rw [← h]; simp
      · rename_i b hb
        split at h
        · injection h with h; rw [← h]; simp
        · exact List.mem_append_left _ (ih q (hb.trans h))
    · exact List.mem_append_left _ (ih q h)
  · exact List.mem_append_left _ (ih q h)
theorem ofP_mem (s i v : Int) : ∀ B : List Pg, (ofP s i v B).2 = true → (ofP s i v B).1 ∈ B ∧ (ofP s i v B).1.school = s ∧ (ofP s i v B).1.id = i ∧ (ofP s i v B).1.ver = v
  | [], h => by cases h
  | p :: l, h => by
    rw [ofP] at h ⊢
    split
    · rename_i c; exact ⟨List.mem_cons_self .., c⟩
    · rename_i c
      rw [if_neg c] at h
      have := ofP_mem s i v l h
      exact ⟨List.mem_cons_of_mem _ this.1, this.2⟩
theorem b2_mem {B : List Pg} (s i day : Int) : ∀ (C : List Ch) (b : Pg), b ∈ B → b2P B s i day b C ∈ B
  | [], b, h => h
  | c :: C, b, h => by
    rw [b2P, List.foldl_cons]
    refine b2_mem s i day C _ ?_
    unfold b2S
    split
    · exact h
    · split
      · rename_i g; exact (ofP_mem s i c.ver B g.1).1
      · exact h
abbrev bi2S (B : List Pg) (C : List Ch) (s i day : Int) : Nat × Pg → AS
  | (j, b) => ⟨[(0, .ro {} 14 (B.map pg)), (1, int s), (2, int i), (5, int day), (12, .ptr 0 14 0 0), (14, .rp (pg b) 0), (67, .ro {} 4 (C.map chA)), (68, int C.length), (69, int j)], [(0, .row 14 pty [zpV])], 1⟩
abbrev bi3S (B : List Pg) (C : List Ch) (s i day : Int) (j : Nat) (b : Pg) (c : Ch) (k : Nat) : AS := ⟨[(0, .ro {} 14 (B.map pg)), (1, int s), (2, int i), (5, int day), (12, .ptr 0 14 0 0), (14, .rp (pg b) 0), (67, .ro {} 4 (C.map chA)), (68, int C.length), (69, int j), (19, .ptr 1 4 0 0), (92, .ro {} 14 (B.map pg)), (93, int B.length), (94, int k)], [(0, .row 14 pty [zpV]), (1, .row 4 chy [chA c])], 2⟩
abbrev ch0 : Ch := ⟨0, 0, 0, 0⟩
theorem ld_ch {l : List Ch} {k : Nat} (h : k < l.length) : chA (l.getD k ch0) = (l.map chA).getD k (.sc undef) := mapD ch0 h
theorem b2_take {B : List Pg} {C : List Ch} {k : Nat} (h : k < C.length) (s i day : Int) (b : Pg) : b2P B s i day b (C.take (k + 1)) = b2S B s i day (b2P B s i day b (C.take k)) (C.getD k ch0) := by
  rw [List.take_succ_eq_append_getElem h, b2P, List.foldl_append, List.getD_eq_getElem?_getD, List.getElem?_eq_getElem h]; rfl
set_option maxHeartbeats 3200000 in
set_option maxRecDepth 100000 in
theorem Bind_f (B : List Pg) (C : List Ch) (s i be day : Int) (hB : B.length ≤ 1000) (hC : C.length ≤ 1000) (h : ∀ q ∈ B, SP q) : AFun Try.prog 13 0 [.ro {} 14 (B.map pg), int s, int i, int be, .ro {} 4 (C.map chA), int day] [] (.tup [pg (bindP B s i be day C).1, int (bindP B s i be day C).2]) [] := by
  have hmB : (B.map pg).length = B.length := List.length_map _
  have hmC : (C.map chA).length = C.length := List.length_map _
  refine AFun.of_S T_ok mixed Try.func13 rfl (Nat.le_of_ble_eq_true rfl) rfl ?_
  ((repeat ((conv => whnf); (first | (refine LetN.pre ?_; first | ((conv => arg 1; whnf); refine LetN.mk ?_)) | (refine As.pre ?_; first | refine As.mk rfl ?_) | (refine LetI.pre ?_; first | refine LetI.mk _ rfl ?_) | (refine Ck.pre ?_; first | refine Ck.mk rfl ?_)))); (try (conv => whnf)))
  refine LoopN.weak (s1 := bi1S B C s i be day (0, false, none)) ?sw1 ?_
  case sw1 => exact SW.mk _root_.id rfl rfl rfl ⟨.refl _, .refl _, .refl _, .refl _, .refl _, .refl _, .refl _, .refl _, .refl _, .refl _, VLe2.int (by rw [hmB]), .refl _, trivial⟩ (haveV.one rfl trivial)
  refine LoopN.ind T_ok mixed (S := bi1S B C s i be day) (fun a => B.length - a.1) (fun a => a.1 ≤ B.length ∧ a.2 = b1P (B.take a.1) s i be) (fun | (_, _, none) => rfl | (_, _, some _) => rfl) (fun a ha ih => ?_) (0, false, none) ⟨Nat.zero_le _, rfl⟩
  obtain ⟨j, sm, bo⟩ := a
  obtain ⟨h1, h2⟩ := ha
  dsimp only at h1 h2
  by_cases hlt : j < B.length
  case neg =>
    rw [List.take_of_length_le (by omega)] at h2
    clear ih
    rw [show bindP B s i be day C = bindQ B s i day C sm bo by unfold bindP; rw [← h2]]
    have hmem : ∀ q, bo = some q → q ∈ B := fun q hq => b1_mem s i be B q (by rw [← h2]; exact hq)
    clear h2
    cases sm with
    | false =>
      cases bo with
      | none =>
        ((repeat ((conv => whnf); (first | (refine LetN.pre ?_; first | ((conv => arg 1; whnf); refine LetN.mk ?_)) | (refine As.pre ?_; first | refine As.mk rfl ?_) | (refine LetB.pre ?_; first | refine LetB.decf (by omega) ?_) | (refine Br.pre ?_; first | refine Br.tt rfl ?_ | refine Br.ff rfl ?_) | (refine Ck.pre ?_; first | refine Ck.mk rfl ?_) | (refine LetL.pre ?_; first | refine LetL.mk [_] rfl ?_)))); (try (conv => whnf)))
        exact ⟨⟨[(12, .ptr 0 14 0 0), (13, int 5)], [(0, .row 14 pty [pg p0])], 1⟩, SW.mk _root_.id rfl rfl rfl ⟨.refl _, .refl _, trivial⟩ (haveV.agg rfl ⟨.refl _, .refl _, .refl _, .refl _, .refl _, .refl _, .refl _, .refl _, VLe2.nilro, VLe2.nilro, .refl _, .refl _, .refl _, VLe2.nilro, trivial⟩ trivial), .inl rfl, ⟨_, rfl, rfl⟩, trivial⟩
      | some b =>
        ((repeat ((conv => whnf); (first | (refine LetN.pre ?_; first | ((conv => arg 1; whnf); refine LetN.mk ?_)) | (refine As.pre ?_; first | refine As.mk rfl ?_) | (refine LetB.pre ?_; first | refine LetB.decf (by omega) ?_) | (refine Br.pre ?_; first | refine Br.tt rfl ?_ | refine Br.ff rfl ?_) | (refine Ck.pre ?_; first | refine Ck.mk rfl ?_) | (refine LetL.pre ?_; first | refine LetL.mk [_] rfl ?_)))); (try (conv => whnf)))
        exact ⟨⟨[(12, .ptr 0 14 0 0), (13, int 5)], [(0, .row 14 pty [pg p0])], 1⟩, SW.mk _root_.id rfl rfl rfl ⟨.refl _, .refl _, trivial⟩ (haveV.agg rfl ⟨.refl _, .refl _, .refl _, .refl _, .refl _, .refl _, .refl _, .refl _, VLe2.nilro, VLe2.nilro, .refl _, .refl _, .refl _, VLe2.nilro, trivial⟩ trivial), .inl rfl, ⟨_, rfl, rfl⟩, trivial⟩
    | true =>
      cases bo with
      | none =>
        ((repeat ((conv => whnf); (first | (refine LetN.pre ?_; first | ((conv => arg 1; whnf); refine LetN.mk ?_)) | (refine As.pre ?_; first | refine As.mk rfl ?_) | (refine LetB.pre ?_; first | refine LetB.tt rfl ?_ | refine LetB.decf (by omega) ?_) | (refine Br.pre ?_; first | refine Br.tt rfl ?_ | refine Br.ff rfl ?_) | (refine Ck.pre ?_; first | refine Ck.mk rfl ?_) | (refine LetL.pre ?_; first | refine LetL.mk [_] rfl ?_)))); (try (conv => whnf)))
        exact ⟨⟨[(12, .ptr 0 14 0 0), (13, int 30)], [(0, .row 14 pty [pg p0])], 1⟩, SW.mk _root_.id rfl rfl rfl ⟨.refl _, .refl _, trivial⟩ (haveV.agg rfl ⟨.refl _, .refl _, .refl _, .refl _, .refl _, .refl _, .refl _, .refl _, VLe2.nilro, VLe2.nilro, .refl _, .refl _, .refl _, VLe2.nilro, trivial⟩ trivial), .inl rfl, ⟨_, rfl, rfl⟩, trivial⟩
      | some b0 =>
        ((repeat ((conv => whnf); (first | (refine As.pre ?_; first | refine As.mk rfl ?_) | (refine LetI.pre ?_; first | refine LetI.mk _ rfl ?_) | (refine LetB.pre ?_; first | refine LetB.ff rfl ?_ | refine LetB.decf (by omega) ?_) | (refine Br.pre ?_; first | refine Br.ff rfl ?_) | (refine Ck.pre ?_; first | refine Ck.mk rfl ?_)))); (try (conv => whnf)))
        refine LoopN.weak (s1 := bi2S B C s i day (0, b0)) ?sw11 ?_
        case sw11 => exact SW.mk _root_.id rfl rfl rfl ⟨.refl _, .refl _, .refl _, .refl _, .refl _, .refl _, .refl _, VLe2.int (by rw [hmC]), .refl _, trivial⟩ (haveV.one rfl trivial)
        have hb0 := hmem b0 rfl
        clear h1 hlt j hmem
        refine LoopN.ind T_ok mixed (S := bi2S B C s i day) (fun a => C.length - a.1) (fun a => a.1 ≤ C.length ∧ a.2 = b2P B s i day b0 (C.take a.1)) (fun _ => rfl) (fun a ha ih => ?_) (0, b0) ⟨Nat.zero_le _, rfl⟩
        obtain ⟨j, b⟩ := a
        obtain ⟨h1, h2⟩ := ha
        dsimp only at h1 h2
        by_cases hlt : j < C.length
        case neg =>
          rw [List.take_of_length_le (by omega)] at h2
          rw [show bindQ B s i day C true (some b0) = (b, 0) by rw [bindQ, h2]]
          have hcp := copiedP_f (h _ (show b ∈ B by rw [h2]; exact b2_mem s i day C b0 hb0))
          clear ih h2 h
          obtain ⟨school', id', ver', from', name', ⟨k', n', m', st', l'⟩, total', own', age', ex'⟩ := b
          rw [pg_mk] at hcp ⊢
          ((repeat ((conv => whnf); (first | (refine LetN.pre ?_; first | ((conv => arg 1; whnf); refine LetN.mk ?_)) | (refine As.pre ?_; first | refine As.mk rfl ?_) | (refine LetV.pre ?_; first | refine LetV.mk (.agg _) rfl ?_) | (refine LetB.pre ?_; first | refine LetB.decf (by omega) ?_) | (refine Br.pre ?_; first | refine Br.ff rfl ?_) | (refine Ck.pre ?_; first | refine Ck.mk rfl ?_) | (refine LetL.pre ?_; first | refine LetL.mk (ty := pty) [.agg [_, _, _, _, _, _, _, _, _, _, _, _, _, _]] rfl ?_) | (refine CallN.pre ?_; first | refine CallN.pure hcp rfl rfl ?_)))); (try (conv => whnf)))
          exact ⟨⟨[(12, .ptr 0 14 0 0), (13, int 0)], [(0, .row 14 pty [.agg [int school', int id', int ver', int from', str name', int k', int n', int m', .ro {} 2 (st'.map coA), .ro {} 5 (l'.map nd), int total', int own', int age', .ro {} 4 (ex'.map exA)]])], 1⟩, SW.mk _root_.id rfl rfl (namesAll.row rfl rfl) ⟨.refl _, .refl _, trivial⟩ (haveV.row rfl rfl trivial), .inl rfl, ⟨_, rfl, rfl⟩, trivial⟩
        have hlc := ld_ch hlt
        have hbt := b2_take hlt s i day b0 (B := B)
        rw [← h2] at hbt
        have hnx := fun q (hq : q = b2S B s i day b (C.getD j ch0)) => ih (j + 1, q) ⟨hlt, hq.trans hbt.symm⟩ (by show C.length - (j + 1) < C.length - j; omega)
        clear ih h2 hbt hb0 h
        generalize C.getD j ch0 = c at hlc hnx
        obtain ⟨cp, cv, cb, co⟩ := c
        by_cases d1 : cp = i
        case neg =>
          replace hnx := hnx b (by rw [b2S, if_pos (.inl d1)])
          obtain ⟨school', id', ver', from', name', ⟨k', n', m', st', l'⟩, total', own', age', ex'⟩ := b
          ((repeat ((conv => whnf); (first | (refine LetN.pre ?_; first | ((conv => arg 1; whnf); refine LetN.mk ?_)) | (refine As.pre ?_; first | refine As.mk rfl ?_ | (refine As.mk ?_ ?_; · ((repeat' (refine andT ?_ ?_)) <;> (first | rfl | assumption | exact decide_eq_true (by omega) | exact decide_eq_true (by dsimp only; omega) | exact decide_eq_true (by simp; omega) | (simp; done))))) | (refine LetV.pre ?_; first | refine LetV.mk (t := 29) _ hlc ?_ | refine LetV.mk (.sc (.int _ _)) rfl ?_ | refine LetV.mk (.agg _) rfl ?_) | (refine LetI.pre ?_; first | refine LetI.wrap (by omega) (by omega) ?_) | (refine LetB.pre ?_; first | refine LetB.dect (by omega) ?_ | refine LetB.bnet (by omega) ?_) | (refine Gd.pre ?_; first | refine Gd.pass rfl ?_) | (refine Br.pre ?_; first | refine Br.tt rfl ?_) | (refine Ck.pre ?_; first | refine Ck.drawn (by kernel_rfl) ?_ | refine Ck.mk rfl ?_) | (refine LetL.pre ?_; first | refine LetL.mk (ty := chy) [.agg [_, _, _, _]] rfl ?_)))); (try (conv => whnf)))
          refine LoopN.weak ?sw12 hnx
          case sw12 => exact SW.mk _root_.id rfl rfl rfl ⟨.refl _, .refl _, .refl _, .refl _, .refl _, .refl _, .refl _, .refl _, VLe2.int (by omega), trivial⟩ (haveV.one rfl trivial)
        by_cases d2 : day < co
        case pos =>
          replace hnx := hnx b (by rw [b2S, if_pos (.inr (.inl d2))])
          obtain ⟨school', id', ver', from', name', ⟨k', n', m', st', l'⟩, total', own', age', ex'⟩ := b
          ((repeat ((conv => whnf); (first | (refine LetN.pre ?_; first | ((conv => arg 1; whnf); refine LetN.mk ?_)) | (refine As.pre ?_; first | refine As.mk rfl ?_ | (refine As.mk ?_ ?_; · ((repeat' (refine andT ?_ ?_)) <;> (first | rfl | assumption | exact decide_eq_true (by omega) | exact decide_eq_true (by dsimp only; omega) | exact decide_eq_true (by simp; omega) | (simp; done))))) | (refine LetV.pre ?_; first | refine LetV.mk (t := 29) _ hlc ?_ | refine LetV.mk (.sc (.int _ _)) rfl ?_ | refine LetV.mk (.agg _) rfl ?_) | (refine LetI.pre ?_; first | refine LetI.wrap (by omega) (by omega) ?_) | (refine LetB.pre ?_; first | refine LetB.dect (by omega) ?_ | refine LetB.bnef (by omega) ?_) | (refine Gd.pre ?_; first | refine Gd.run rfl ?_ | refine Gd.pass rfl ?_) | (refine Br.pre ?_; first | refine Br.tt rfl ?_) | (refine Ck.pre ?_; first | refine Ck.drawn (by kernel_rfl) ?_ | refine Ck.mk rfl ?_) | (refine LetL.pre ?_; first | refine LetL.mk (ty := chy) [.agg [_, _, _, _]] rfl ?_)))); (try (conv => whnf)))
          refine LoopN.weak ?sw13 hnx
          case sw13 => exact SW.mk _root_.id rfl rfl rfl ⟨.refl _, .refl _, .refl _, .refl _, .refl _, .refl _, .refl _, .refl _, VLe2.int (by omega), trivial⟩ (haveV.one rfl trivial)
        by_cases d3 : cv ≤ b.ver
        case pos =>
          replace hnx := hnx b (by rw [b2S, if_pos (.inr (.inr d3))])
          obtain ⟨school', id', ver', from', name', ⟨k', n', m', st', l'⟩, total', own', age', ex'⟩ := b
          ((repeat ((conv => whnf); (first | (refine LetN.pre ?_; first | ((conv => arg 1; whnf); refine LetN.mk ?_)) | (refine As.pre ?_; first | refine As.mk rfl ?_ | (refine As.mk ?_ ?_; · ((repeat' (refine andT ?_ ?_)) <;> (first | rfl | assumption | exact decide_eq_true (by omega) | exact decide_eq_true (by dsimp only; omega) | exact decide_eq_true (by simp; omega) | (simp; done))))) | (refine LetV.pre ?_; first | refine LetV.mk (t := 29) _ hlc ?_ | refine LetV.mk (.sc (.int _ _)) rfl ?_ | refine LetV.mk (.agg _) rfl ?_) | (refine LetI.pre ?_; first | refine LetI.wrap (by omega) (by omega) ?_) | (refine LetB.pre ?_; first | refine LetB.dect (by omega) ?_ | refine LetB.decf (by omega) ?_ | refine LetB.bnef (by omega) ?_) | (refine Gd.pre ?_; first | refine Gd.run rfl ?_) | (refine Br.pre ?_; first | refine Br.tt rfl ?_) | (refine Ck.pre ?_; first | refine Ck.drawn (by kernel_rfl) ?_ | refine Ck.mk rfl ?_) | (refine LetL.pre ?_; first | refine LetL.mk (ty := chy) [.agg [_, _, _, _]] rfl ?_)))); (try (conv => whnf)))
          refine LoopN.weak ?sw14 hnx
          case sw14 => exact SW.mk _root_.id rfl rfl rfl ⟨.refl _, .refl _, .refl _, .refl _, .refl _, .refl _, .refl _, .refl _, VLe2.int (by omega), trivial⟩ (haveV.one rfl trivial)
        have hq : b2S B s i day b ⟨cp, cv, cb, co⟩ = if (ofP s i cv B).2 = true ∧ (ofP s i cv B).1.from_ ≤ co then (ofP s i cv B).1 else b := if_neg (by dsimp only; omega)
        rw [hq] at hnx
        clear hq
        obtain ⟨school', id', ver', from', name', ⟨k', n', m', st', l'⟩, total', own', age', ex'⟩ := b
        ((repeat ((conv => whnf); (first | (refine LetN.pre ?_; first | ((conv => arg 1; whnf); refine LetN.mk ?_)) | (refine As.pre ?_; first | refine As.mk rfl ?_ | (refine As.mk ?_ ?_; · ((repeat' (refine andT ?_ ?_)) <;> (first | rfl | assumption | exact decide_eq_true (by omega) | exact decide_eq_true (by dsimp only; omega) | exact decide_eq_true (by simp; omega) | (simp; done))))) | (refine LetV.pre ?_; first | refine LetV.mk (t := 29) _ hlc ?_ | refine LetV.mk (.sc (.int _ _)) rfl ?_ | refine LetV.mk (.agg _) rfl ?_) | (refine LetI.pre ?_; first | refine LetI.mk _ rfl ?_) | (refine LetB.pre ?_; first | refine LetB.dect (by omega) ?_ | refine LetB.decf (by omega) ?_ | refine LetB.bnef (by omega) ?_) | (refine Gd.pre ?_; first | refine Gd.run rfl ?_) | (refine Br.pre ?_; first | refine Br.tt rfl ?_ | refine Br.ff rfl ?_) | (refine Ck.pre ?_; first | refine Ck.drawn (by kernel_rfl) ?_ | refine Ck.mk rfl ?_) | (refine LetL.pre ?_; first | refine LetL.mk (ty := chy) [.agg [_, _, _, _]] rfl ?_)))); (try (conv => whnf)))
        refine LoopN.weak (s1 := bi3S B C s i day j ⟨school', id', ver', from', name', .mk k' n' m' st' l', total', own', age', ex'⟩ ⟨cp, cv, cb, co⟩ 0) ?sw15 ?_
        case sw15 => exact SW.mk _root_.id rfl rfl rfl ⟨.refl _, .refl _, .refl _, .refl _, .refl _, .refl _, .refl _, .refl _, .refl _, .refl _, .refl _, VLe2.int (by rw [hmB]), .refl _, trivial⟩ (haveV.row rfl rfl (haveV.row rfl rfl trivial))
        refine LoopN.ind T_ok mixed (S := bi3S B C s i day j ⟨school', id', ver', from', name', .mk k' n' m' st' l', total', own', age', ex'⟩ ⟨cp, cv, cb, co⟩) (fun k => B.length - k) (fun k => k ≤ B.length ∧ ofP s i cv B = ofP s i cv (B.drop k)) (fun _ => rfl) (fun k hk ih => ?_) 0 ⟨Nat.zero_le _, rfl⟩
        obtain ⟨g1, g2⟩ := hk
        by_cases hlk : k < B.length
        case neg =>
          rw [ofP_end hlk] at g2
          clear ih
          replace hnx := hnx _ (by rw [g2, if_neg (by simp)])
          ((repeat ((conv => whnf); (first | (refine As.pre ?_; first | refine As.mk rfl ?_) | (refine LetI.pre ?_; first | refine LetI.wrap (by omega) (by omega) ?_) | (refine LetB.pre ?_; first | refine LetB.decf (by omega) ?_) | (refine Br.pre ?_; first | refine Br.ff rfl ?_) | (refine Ck.pre ?_; first | refine Ck.mk rfl ?_)))); (try (conv => whnf)))
          refine LoopN.weak ?sw16 hnx
          case sw16 => exact SW.mk _root_.id rfl rfl rfl ⟨.refl _, .refl _, .refl _, .refl _, .refl _, .refl _, .refl _, .refl _, VLe2.int (by omega), trivial⟩ (haveV.one rfl trivial)
        have hld := ld_pg hlk
        rw [ofP_at hlk] at g2
        have hin := fun g => ih (k + 1) ⟨hlk, g⟩ (by omega)
        clear ih
        generalize ofP s i cv (B.drop (k + 1)) = r at g2 hin
        generalize B.getD k p0 = y at hld g2
        obtain ⟨school, id, ver, from_, name, ⟨k1, n, m, st, l⟩, total, own, age, ex⟩ := y
        dsimp only at g2
        by_cases e1 : school = s
        case neg =>
          have hkb : true = !(school == s && (id == i && true)) := by simp [e1]
          replace hin := hin (by rw [g2, if_neg (fun g => e1 g.1)])
          ((repeat ((conv => whnf); (first | (refine LetN.pre ?_; first | ((conv => arg 1; whnf); refine LetN.mk ?_)) | (refine As.pre ?_; first | refine As.mk rfl ?_ | (refine As.mk ?_ ?_; · ((repeat' (refine andT ?_ ?_)) <;> (first | rfl | assumption | exact decide_eq_true (by omega) | exact decide_eq_true (by dsimp only; omega) | exact decide_eq_true (by simp; omega) | (simp; done))))) | (refine LetV.pre ?_; first | refine LetV.mk (t := 28) _ hld ?_ | refine LetV.mk (.sc (.int _ _)) rfl ?_ | refine LetV.mk (.agg _) rfl ?_) | (refine LetI.pre ?_; first | refine LetI.wrap (by omega) (by omega) ?_) | (refine LetB.pre ?_; first | refine LetB.mk (o := some .neq) _ hkb ?_ | refine LetB.dect (by omega) ?_) | (refine Gd.pre ?_; first | refine Gd.pass rfl ?_) | (refine Br.pre ?_; first | refine Br.tt rfl ?_) | (refine Ck.pre ?_; first | refine Ck.mk rfl ?_) | (refine LetL.pre ?_; first | refine LetL.mk (ty := pty) [.agg [_, _, _, _, _, _, _, _, _, _, _, _, _, _]] rfl ?_)))); (try (conv => whnf)))
          refine LoopN.weak ?sw17 hin
          case sw17 => exact SW.mk _root_.id rfl rfl rfl ⟨.refl _, .refl _, .refl _, .refl _, .refl _, .refl _, .refl _, .refl _, .refl _, .refl _, .refl _, .refl _, VLe2.int (by omega), trivial⟩ (haveV.row rfl rfl (haveV.row rfl rfl trivial))
        by_cases e2 : id = i
        case neg =>
          have hkb : true = !(school == s && (id == i && true)) := by simp [e2]
          replace hin := hin (by rw [g2, if_neg (fun g => e2 g.2.1)])
          ((repeat ((conv => whnf); (first | (refine LetN.pre ?_; first | ((conv => arg 1; whnf); refine LetN.mk ?_)) | (refine As.pre ?_; first | refine As.mk rfl ?_ | (refine As.mk ?_ ?_; · ((repeat' (refine andT ?_ ?_)) <;> (first | rfl | assumption | exact decide_eq_true (by omega) | exact decide_eq_true (by dsimp only; omega) | exact decide_eq_true (by simp; omega) | (simp; done))))) | (refine LetV.pre ?_; first | refine LetV.mk (t := 28) _ hld ?_ | refine LetV.mk (.sc (.int _ _)) rfl ?_ | refine LetV.mk (.agg _) rfl ?_) | (refine LetI.pre ?_; first | refine LetI.wrap (by omega) (by omega) ?_) | (refine LetB.pre ?_; first | refine LetB.mk (o := some .neq) _ hkb ?_ | refine LetB.dect (by omega) ?_) | (refine Gd.pre ?_; first | refine Gd.pass rfl ?_) | (refine Br.pre ?_; first | refine Br.tt rfl ?_) | (refine Ck.pre ?_; first | refine Ck.mk rfl ?_) | (refine LetL.pre ?_; first | refine LetL.mk (ty := pty) [.agg [_, _, _, _, _, _, _, _, _, _, _, _, _, _]] rfl ?_)))); (try (conv => whnf)))
          refine LoopN.weak ?sw18 hin
          case sw18 => exact SW.mk _root_.id rfl rfl rfl ⟨.refl _, .refl _, .refl _, .refl _, .refl _, .refl _, .refl _, .refl _, .refl _, .refl _, .refl _, .refl _, VLe2.int (by omega), trivial⟩ (haveV.row rfl rfl (haveV.row rfl rfl trivial))
        have hkb : false = !(school == s && (id == i && true)) := by simp [e1, e2]
        by_cases e3 : ver = cv
        case neg =>
          replace hin := hin (by rw [g2, if_neg (fun g => e3 g.2.2)])
          ((repeat ((conv => whnf); (first | (refine LetN.pre ?_; first | ((conv => arg 1; whnf); refine LetN.mk ?_)) | (refine As.pre ?_; first | refine As.mk rfl ?_ | (refine As.mk ?_ ?_; · ((repeat' (refine andT ?_ ?_)) <;> (first | rfl | assumption | exact decide_eq_true (by omega) | exact decide_eq_true (by dsimp only; omega) | exact decide_eq_true (by simp; omega) | (simp; done))))) | (refine LetV.pre ?_; first | refine LetV.mk (t := 28) _ hld ?_ | refine LetV.mk (.sc (.int _ _)) rfl ?_ | refine LetV.mk (.agg _) rfl ?_) | (refine LetI.pre ?_; first | refine LetI.wrap (by omega) (by omega) ?_) | (refine LetB.pre ?_; first | refine LetB.mk (o := some .neq) _ hkb ?_ | refine LetB.dect (by omega) ?_ | refine LetB.bnet (by omega) ?_) | (refine Gd.pre ?_; first | refine Gd.run rfl ?_) | (refine Br.pre ?_; first | refine Br.tt rfl ?_) | (refine Ck.pre ?_; first | refine Ck.mk rfl ?_) | (refine LetL.pre ?_; first | refine LetL.mk (ty := pty) [.agg [_, _, _, _, _, _, _, _, _, _, _, _, _, _]] rfl ?_)))); (try (conv => whnf)))
          refine LoopN.weak ?sw19 hin
          case sw19 => exact SW.mk _root_.id rfl rfl rfl ⟨.refl _, .refl _, .refl _, .refl _, .refl _, .refl _, .refl _, .refl _, .refl _, .refl _, .refl _, .refl _, VLe2.int (by omega), trivial⟩ (haveV.row rfl rfl (haveV.row rfl rfl trivial))
        rw [if_pos ⟨e1, e2, e3⟩] at g2
        clear hin
        by_cases e4 : from_ ≤ co
        · replace hnx := hnx _ (by rw [g2, if_pos ⟨rfl, e4⟩])
          ((repeat ((conv => whnf); (first | (refine LetN.pre ?_; first | ((conv => arg 1; whnf); refine LetN.mk ?_)) | (refine As.pre ?_; first | refine As.mk rfl ?_ | (refine As.mk ?_ ?_; · ((repeat' (refine andT ?_ ?_)) <;> (first | rfl | assumption | exact decide_eq_true (by omega) | exact decide_eq_true (by dsimp only; omega) | exact decide_eq_true (by simp; omega) | (simp; done))))) | (refine LetV.pre ?_; first | refine LetV.mk (t := 28) _ hld ?_ | refine LetV.mk (.sc (.int _ _)) rfl ?_ | refine LetV.mk (.agg _) rfl ?_) | (refine LetI.pre ?_; first | refine LetI.wrap (by omega) (by omega) ?_) | (refine LetB.pre ?_; first | refine LetB.mk (o := some .neq) _ hkb ?_ | refine LetB.dect (by omega) ?_ | refine LetB.bnef (by omega) ?_) | (refine Gd.pre ?_; first | refine Gd.run rfl ?_) | (refine Br.pre ?_; first | refine Br.tt rfl ?_ | refine Br.ff rfl ?_) | (refine Ck.pre ?_; first | refine Ck.mk rfl ?_) | (refine LetL.pre ?_; first | refine LetL.mk (ty := pty) [.agg [_, _, _, _, _, _, _, _, _, _, _, _, _, _]] rfl ?_)))); (try (conv => whnf)))
          refine LoopN.weak ?sw20 hnx
          case sw20 => exact SW.mk _root_.id rfl rfl rfl ⟨.refl _, .refl _, .refl _, .refl _, .refl _, .refl _, .refl _, .refl _, VLe2.int (by omega), trivial⟩ (haveV.one rfl trivial)
        · replace hnx := hnx _ (by rw [g2, if_neg (fun g => e4 g.2)])
          ((repeat ((conv => whnf); (first | (refine LetN.pre ?_; first | ((conv => arg 1; whnf); refine LetN.mk ?_)) | (refine As.pre ?_; first | refine As.mk rfl ?_ | (refine As.mk ?_ ?_; · ((repeat' (refine andT ?_ ?_)) <;> (first | rfl | assumption | exact decide_eq_true (by omega) | exact decide_eq_true (by dsimp only; omega) | exact decide_eq_true (by simp; omega) | (simp; done))))) | (refine LetV.pre ?_; first | refine LetV.mk (t := 28) _ hld ?_ | refine LetV.mk (.sc (.int _ _)) rfl ?_ | refine LetV.mk (.agg _) rfl ?_) | (refine LetI.pre ?_; first | refine LetI.wrap (by omega) (by omega) ?_) | (refine LetB.pre ?_; first | refine LetB.mk (o := some .neq) _ hkb ?_ | refine LetB.dect (by omega) ?_ | refine LetB.decf (by omega) ?_ | refine LetB.bnef (by omega) ?_) | (refine Gd.pre ?_; first | refine Gd.run rfl ?_) | (refine Br.pre ?_; first | refine Br.tt rfl ?_ | refine Br.ff rfl ?_) | (refine Ck.pre ?_; first | refine Ck.mk rfl ?_) | (refine LetL.pre ?_; first | refine LetL.mk (ty := pty) [.agg [_, _, _, _, _, _, _, _, _, _, _, _, _, _]] rfl ?_)))); (try (conv => whnf)))
          refine LoopN.weak ?sw21 hnx
          case sw21 => exact SW.mk _root_.id rfl rfl rfl ⟨.refl _, .refl _, .refl _, .refl _, .refl _, .refl _, .refl _, .refl _, VLe2.int (by omega), trivial⟩ (haveV.one rfl trivial)
  have hld := ld_pg hlt
  have hbt := b1_take hlt s i be
  rw [← h2] at hbt
  have hnx := fun q (hq : q = b1S s i be (sm, bo) (B.getD j p0)) => ih (j + 1, q) ⟨hlt, hq.trans hbt.symm⟩ (by show B.length - (j + 1) < B.length - j; omega)
  clear ih h h2 hbt
  generalize B.getD j p0 = y at hld hnx
  obtain ⟨school, id, ver, from_, name, ⟨k, n, m, st, l⟩, total, own, age, ex⟩ := y
  by_cases c1 : school = s
  case neg =>
    have hkb : true = !(school == s && (id == i && true)) := by simp [c1]
    replace hnx := hnx (sm, bo) (by rw [b1S, if_neg (fun g => c1 g.1)])
    cases bo with
    | none =>
      ((repeat ((conv => whnf); (first | (refine LetN.pre ?_; first | ((conv => arg 1; whnf); refine LetN.mk ?_)) | (refine As.pre ?_; first | refine As.mk rfl ?_ | (refine As.mk ?_ ?_; · ((repeat' (refine andT ?_ ?_)) <;> (first | rfl | assumption | exact decide_eq_true (by omega) | exact decide_eq_true (by dsimp only; omega) | exact decide_eq_true (by simp; omega) | (simp; done))))) | (refine LetV.pre ?_; first | refine LetV.mk (t := 28) _ hld ?_ | refine LetV.mk (.sc (.int _ _)) rfl ?_ | refine LetV.mk (.agg _) rfl ?_) | (refine LetI.pre ?_; first | refine LetI.wrap (by omega) (by omega) ?_) | (refine LetB.pre ?_; first | refine LetB.mk (o := some .neq) _ hkb ?_ | refine LetB.dect (by omega) ?_) | (refine Br.pre ?_; first | refine Br.tt rfl ?_) | (refine Ck.pre ?_; first | refine Ck.mk rfl ?_) | (refine LetL.pre ?_; first | refine LetL.mk (ty := pty) [.agg [_, _, _, _, _, _, _, _, _, _, _, _, _, _]] rfl ?_)))); (try (conv => whnf)))
      refine LoopN.weak ?sw2 hnx
      case sw2 => exact SW.mk _root_.id rfl rfl rfl ⟨.refl _, .refl _, .refl _, .refl _, .refl _, .refl _, .refl _, .refl _, .refl _, .refl _, .refl _, VLe2.int (by omega), trivial⟩ (haveV.one rfl trivial)
    | some b =>
      ((repeat ((conv => whnf); (first | (refine LetN.pre ?_; first | ((conv => arg 1; whnf); refine LetN.mk ?_)) | (refine As.pre ?_; first | refine As.mk rfl ?_ | (refine As.mk ?_ ?_; · ((repeat' (refine andT ?_ ?_)) <;> (first | rfl | assumption | exact decide_eq_true (by omega) | exact decide_eq_true (by dsimp only; omega) | exact decide_eq_true (by simp; omega) | (simp; done))))) | (refine LetV.pre ?_; first | refine LetV.mk (t := 28) _ hld ?_ | refine LetV.mk (.sc (.int _ _)) rfl ?_ | refine LetV.mk (.agg _) rfl ?_) | (refine LetI.pre ?_; first | refine LetI.wrap (by omega) (by omega) ?_) | (refine LetB.pre ?_; first | refine LetB.mk (o := some .neq) _ hkb ?_ | refine LetB.dect (by omega) ?_) | (refine Br.pre ?_; first | refine Br.tt rfl ?_) | (refine Ck.pre ?_; first | refine Ck.mk rfl ?_) | (refine LetL.pre ?_; first | refine LetL.mk (ty := pty) [.agg [_, _, _, _, _, _, _, _, _, _, _, _, _, _]] rfl ?_)))); (try (conv => whnf)))
      refine LoopN.weak ?sw3 hnx
      case sw3 => exact SW.mk _root_.id rfl rfl rfl ⟨.refl _, .refl _, .refl _, .refl _, .refl _, .refl _, .refl _, .refl _, .refl _, .refl _, .refl _, VLe2.int (by omega), trivial⟩ (haveV.one rfl trivial)
  by_cases c2 : id = i
  case neg =>
    have hkb : true = !(school == s && (id == i && true)) := by simp [c2]
    replace hnx := hnx (sm, bo) (by rw [b1S, if_neg (fun g => c2 g.2)])
    cases bo with
    | none =>
      ((repeat ((conv => whnf); (first | (refine LetN.pre ?_; first | ((conv => arg 1; whnf); refine LetN.mk ?_)) | (refine As.pre ?_; first | refine As.mk rfl ?_ | (refine As.mk ?_ ?_; · ((repeat' (refine andT ?_ ?_)) <;> (first | rfl | assumption | exact decide_eq_true (by omega) | exact decide_eq_true (by dsimp only; omega) | exact decide_eq_true (by simp; omega) | (simp; done))))) | (refine LetV.pre ?_; first | refine LetV.mk (t := 28) _ hld ?_ | refine LetV.mk (.sc (.int _ _)) rfl ?_ | refine LetV.mk (.agg _) rfl ?_) | (refine LetI.pre ?_; first | refine LetI.wrap (by omega) (by omega) ?_) | (refine LetB.pre ?_; first | refine LetB.mk (o := some .neq) _ hkb ?_ | refine LetB.dect (by omega) ?_) | (refine Br.pre ?_; first | refine Br.tt rfl ?_) | (refine Ck.pre ?_; first | refine Ck.mk rfl ?_) | (refine LetL.pre ?_; first | refine LetL.mk (ty := pty) [.agg [_, _, _, _, _, _, _, _, _, _, _, _, _, _]] rfl ?_)))); (try (conv => whnf)))
      refine LoopN.weak ?sw4 hnx
      case sw4 => exact SW.mk _root_.id rfl rfl rfl ⟨.refl _, .refl _, .refl _, .refl _, .refl _, .refl _, .refl _, .refl _, .refl _, .refl _, .refl _, VLe2.int (by omega), trivial⟩ (haveV.one rfl trivial)
    | some b =>
      ((repeat ((conv => whnf); (first | (refine LetN.pre ?_; first | ((conv => arg 1; whnf); refine LetN.mk ?_)) | (refine As.pre ?_; first | refine As.mk rfl ?_ | (refine As.mk ?_ ?_; · ((repeat' (refine andT ?_ ?_)) <;> (first | rfl | assumption | exact decide_eq_true (by omega) | exact decide_eq_true (by dsimp only; omega) | exact decide_eq_true (by simp; omega) | (simp; done))))) | (refine LetV.pre ?_; first | refine LetV.mk (t := 28) _ hld ?_ | refine LetV.mk (.sc (.int _ _)) rfl ?_ | refine LetV.mk (.agg _) rfl ?_) | (refine LetI.pre ?_; first | refine LetI.wrap (by omega) (by omega) ?_) | (refine LetB.pre ?_; first | refine LetB.mk (o := some .neq) _ hkb ?_ | refine LetB.dect (by omega) ?_) | (refine Br.pre ?_; first | refine Br.tt rfl ?_) | (refine Ck.pre ?_; first | refine Ck.mk rfl ?_) | (refine LetL.pre ?_; first | refine LetL.mk (ty := pty) [.agg [_, _, _, _, _, _, _, _, _, _, _, _, _, _]] rfl ?_)))); (try (conv => whnf)))
      refine LoopN.weak ?sw5 hnx
      case sw5 => exact SW.mk _root_.id rfl rfl rfl ⟨.refl _, .refl _, .refl _, .refl _, .refl _, .refl _, .refl _, .refl _, .refl _, .refl _, .refl _, VLe2.int (by omega), trivial⟩ (haveV.one rfl trivial)
  have hkb : false = !(school == s && (id == i && true)) := by simp [c1, c2]
  by_cases c3 : from_ ≤ be
  case neg =>
    replace hnx := hnx (true, bo) (by rw [b1S, if_pos ⟨c1, c2⟩, if_neg c3])
    cases bo with
    | none =>
      ((repeat ((conv => whnf); (first | (refine LetN.pre ?_; first | ((conv => arg 1; whnf); refine LetN.mk ?_)) | (refine As.pre ?_; first | refine As.mk rfl ?_ | (refine As.mk ?_ ?_; · ((repeat' (refine andT ?_ ?_)) <;> (first | rfl | assumption | exact decide_eq_true (by omega) | exact decide_eq_true (by dsimp only; omega) | exact decide_eq_true (by simp; omega) | (simp; done))))) | (refine LetV.pre ?_; first | refine LetV.mk (t := 28) _ hld ?_ | refine LetV.mk (.sc (.int _ _)) rfl ?_ | refine LetV.mk (.agg _) rfl ?_) | (refine LetI.pre ?_; first | refine LetI.wrap (by omega) (by omega) ?_) | (refine LetB.pre ?_; first | refine LetB.mk (o := some .neq) _ hkb ?_ | refine LetB.dect (by omega) ?_ | refine LetB.decf (by omega) ?_) | (refine Gd.pre ?_; first | refine Gd.pass rfl ?_) | (refine Br.pre ?_; first | refine Br.tt rfl ?_ | refine Br.ff rfl ?_) | (refine Ck.pre ?_; first | refine Ck.drawn (by kernel_rfl) ?_ | refine Ck.mk rfl ?_) | (refine LetL.pre ?_; first | refine LetL.mk (ty := pty) [.agg [_, _, _, _, _, _, _, _, _, _, _, _, _, _]] rfl ?_)))); (try (conv => whnf)))
      refine LoopN.weak ?sw6 hnx
      case sw6 => exact SW.mk _root_.id rfl rfl rfl ⟨.refl _, .refl _, .refl _, .refl _, .refl _, .refl _, .refl _, .refl _, .refl _, .refl _, .refl _, VLe2.int (by omega), trivial⟩ (haveV.one rfl trivial)
    | some b =>
      ((repeat ((conv => whnf); (first | (refine LetN.pre ?_; first | ((conv => arg 1; whnf); refine LetN.mk ?_)) | (refine As.pre ?_; first | refine As.mk rfl ?_ | (refine As.mk ?_ ?_; · ((repeat' (refine andT ?_ ?_)) <;> (first | rfl | assumption | exact decide_eq_true (by omega) | exact decide_eq_true (by dsimp only; omega) | exact decide_eq_true (by simp; omega) | (simp; done))))) | (refine LetV.pre ?_; first | refine LetV.mk (t := 28) _ hld ?_ | refine LetV.mk (.sc (.int _ _)) rfl ?_ | refine LetV.mk (.agg _) rfl ?_) | (refine LetI.pre ?_; first | refine LetI.wrap (by omega) (by omega) ?_) | (refine LetB.pre ?_; first | refine LetB.mk (o := some .neq) _ hkb ?_ | refine LetB.dect (by omega) ?_ | refine LetB.decf (by omega) ?_) | (refine Gd.pre ?_; first | refine Gd.pass rfl ?_) | (refine Br.pre ?_; first | refine Br.tt rfl ?_ | refine Br.ff rfl ?_) | (refine Ck.pre ?_; first | refine Ck.drawn (by kernel_rfl) ?_ | refine Ck.mk rfl ?_) | (refine LetL.pre ?_; first | refine LetL.mk (ty := pty) [.agg [_, _, _, _, _, _, _, _, _, _, _, _, _, _]] rfl ?_)))); (try (conv => whnf)))
      refine LoopN.weak ?sw7 hnx
      case sw7 => exact SW.mk _root_.id rfl rfl rfl ⟨.refl _, .refl _, .refl _, .refl _, .refl _, .refl _, .refl _, .refl _, .refl _, .refl _, .refl _, VLe2.int (by omega), trivial⟩ (haveV.one rfl trivial)
  cases bo with
  | none =>
    replace hnx := hnx (true, some ⟨school, id, ver, from_, name, .mk k n m st l, total, own, age, ex⟩) (by rw [b1S, if_pos ⟨c1, c2⟩, if_pos c3])
    ((repeat ((conv => whnf); (first | (refine LetN.pre ?_; first | ((conv => arg 1; whnf); refine LetN.mk ?_)) | (refine As.pre ?_; first | refine As.mk rfl ?_ | (refine As.mk ?_ ?_; · ((repeat' (refine andT ?_ ?_)) <;> (first | rfl | assumption | exact decide_eq_true (by omega) | exact decide_eq_true (by dsimp only; omega) | exact decide_eq_true (by simp; omega) | (simp; done))))) | (refine LetV.pre ?_; first | refine LetV.mk (t := 28) _ hld ?_ | refine LetV.mk (.sc (.int _ _)) rfl ?_ | refine LetV.mk (.agg _) rfl ?_) | (refine LetI.pre ?_; first | refine LetI.wrap (by omega) (by omega) ?_) | (refine LetB.pre ?_; first | refine LetB.tt rfl ?_ | refine LetB.mk (o := some .neq) _ hkb ?_ | refine LetB.dect (by omega) ?_) | (refine Gd.pre ?_; first | refine Gd.run rfl ?_ | refine Gd.pass rfl ?_) | (refine Br.pre ?_; first | refine Br.tt rfl ?_ | refine Br.ff rfl ?_) | (refine Ck.pre ?_; first | refine Ck.drawn (by kernel_rfl) ?_ | refine Ck.mk rfl ?_) | (refine LetL.pre ?_; first | refine LetL.mk (ty := pty) [.agg [_, _, _, _, _, _, _, _, _, _, _, _, _, _]] rfl ?_)))); (try (conv => whnf)))
    refine LoopN.weak ?sw8 hnx
    case sw8 => exact SW.mk _root_.id rfl rfl rfl ⟨.refl _, .refl _, .refl _, .refl _, .refl _, .refl _, .refl _, .refl _, .refl _, .refl _, .refl _, VLe2.int (by omega), trivial⟩ (haveV.one rfl trivial)
  | some b =>
    by_cases c4 : b.ver < ver
    · replace hnx := hnx (true, some ⟨school, id, ver, from_, name, .mk k n m st l, total, own, age, ex⟩) (by rw [b1S, if_pos ⟨c1, c2⟩, if_pos c3]; dsimp only; rw [if_pos c4])
      obtain ⟨school', id', ver', from', name', ⟨k', n', m', st', l'⟩, total', own', age', ex'⟩ := b
      ((repeat ((conv => whnf); (first | (refine LetN.pre ?_; first | ((conv => arg 1; whnf); refine LetN.mk ?_)) | (refine As.pre ?_; first | refine As.mk rfl ?_ | (refine As.mk ?_ ?_; · ((repeat' (refine andT ?_ ?_)) <;> (first | rfl | assumption | exact decide_eq_true (by omega) | exact decide_eq_true (by dsimp only; omega) | exact decide_eq_true (by simp; omega) | (simp; done))))) | (refine LetV.pre ?_; first | refine LetV.mk (t := 28) _ hld ?_ | refine LetV.mk (.sc (.int _ _)) rfl ?_ | refine LetV.mk (.agg _) rfl ?_) | (refine LetI.pre ?_; first | refine LetI.wrap (by omega) (by omega) ?_) | (refine LetB.pre ?_; first | refine LetB.ff rfl ?_ | refine LetB.mk (o := some .neq) _ hkb ?_ | refine LetB.dect (by omega) ?_) | (refine Gd.pre ?_; first | refine Gd.run rfl ?_) | (refine Br.pre ?_; first | refine Br.tt rfl ?_ | refine Br.ff rfl ?_) | (refine Ck.pre ?_; first | refine Ck.drawn (by kernel_rfl) ?_ | refine Ck.mk rfl ?_) | (refine LetL.pre ?_; first | refine LetL.mk (ty := pty) [.agg [_, _, _, _, _, _, _, _, _, _, _, _, _, _]] rfl ?_)))); (try (conv => whnf)))
      refine LoopN.weak ?sw9 hnx
      case sw9 => exact SW.mk _root_.id rfl rfl rfl ⟨.refl _, .refl _, .refl _, .refl _, .refl _, .refl _, .refl _, .refl _, .refl _, .refl _, .refl _, VLe2.int (by omega), trivial⟩ (haveV.one rfl trivial)
    · replace hnx := hnx (true, some b) (by rw [b1S, if_pos ⟨c1, c2⟩, if_pos c3]; dsimp only; rw [if_neg c4])
      obtain ⟨school', id', ver', from', name', ⟨k', n', m', st', l'⟩, total', own', age', ex'⟩ := b
      ((repeat ((conv => whnf); (first | (refine LetN.pre ?_; first | ((conv => arg 1; whnf); refine LetN.mk ?_)) | (refine As.pre ?_; first | refine As.mk rfl ?_ | (refine As.mk ?_ ?_; · ((repeat' (refine andT ?_ ?_)) <;> (first | rfl | assumption | exact decide_eq_true (by omega) | exact decide_eq_true (by dsimp only; omega) | exact decide_eq_true (by simp; omega) | (simp; done))))) | (refine LetV.pre ?_; first | refine LetV.mk (t := 28) _ hld ?_ | refine LetV.mk (.sc (.int _ _)) rfl ?_ | refine LetV.mk (.agg _) rfl ?_) | (refine LetI.pre ?_; first | refine LetI.wrap (by omega) (by omega) ?_) | (refine LetB.pre ?_; first | refine LetB.ff rfl ?_ | refine LetB.mk (o := some .neq) _ hkb ?_ | refine LetB.dect (by omega) ?_ | refine LetB.decf (by omega) ?_) | (refine Gd.pre ?_; first | refine Gd.run rfl ?_) | (refine Br.pre ?_; first | refine Br.tt rfl ?_ | refine Br.ff rfl ?_) | (refine Ck.pre ?_; first | refine Ck.drawn (by kernel_rfl) ?_ | refine Ck.mk rfl ?_) | (refine LetL.pre ?_; first | refine LetL.mk (ty := pty) [.agg [_, _, _, _, _, _, _, _, _, _, _, _, _, _]] rfl ?_)))); (try (conv => whnf)))
      refine LoopN.weak ?sw10 hnx
      case sw10 => exact SW.mk _root_.id rfl rfl rfl ⟨.refl _, .refl _, .refl _, .refl _, .refl _, .refl _, .refl _, .refl _, .refl _, .refl _, .refl _, VLe2.int (by omega), trivial⟩ (haveV.one rfl trivial)
end Pb
end Go.Proofs.Ytjnmbmdplchfkaa
namespace Go.Proofs.Ytjnmbmdplchfkaa
open Go.Proofs.Ytjnmbmdplchfkaa.Am
set_option maxRecDepth 100000
namespace Pb
/-! ### Equality -/
theorem take_eq {α : Type} {s t : List α} {k : Nat} (d : α) (hs : k < s.length) (ht : k < t.length) (h : s.take k = t.take k) (e : s.getD k d = t.getD k d) : s.take (k + 1) = t.take (k + 1) := by
  rw [List.take_succ_eq_append_getElem hs, List.take_succ_eq_append_getElem ht, h]
  rw [List.getD_eq_getElem?_getD, List.getElem?_eq_getElem hs, List.getD_eq_getElem?_getD, List.getElem?_eq_getElem ht] at e
  exact congrArg _ (congrArg (fun x => [x]) e)
theorem str_eq {a b : ByteArray} : (a.toList == b.toList) = decide (a = b) := by
  rw [Bool.eq_iff_iff, beq_iff_eq, decide_eq_true_eq, ByteArray.toList_eq, ByteArray.toList_eq]
  constructor
  · intro h
    obtain ⟨⟨a⟩⟩ := a
    obtain ⟨⟨b⟩⟩ := b
    simpa using h
  · rintro rfl; rfl
theorem co_eq (a b : Co) : (a.1 == b.1 && (a.2.toList == b.2.toList && true)) = decide (a = b) := by
  rw [str_eq, Bool.and_true, Bool.eq_iff_iff, Bool.and_eq_true, beq_iff_eq, decide_eq_true_eq, decide_eq_true_eq, Prod.ext_iff]
set_option maxRecDepth 100000 in
theorem EqualC_f (s t : List Co) (hs : s.length ≤ 1000) (ht : t.length ≤ 1000) : AFun Try.prog 76 0 [.ro {} 2 (s.map coA), .ro {} 2 (t.map coA)] [] (bool (decide (s = t))) [] := by
  have hms : (s.map coA).length = s.length := List.length_map _
  have hmt : (t.map coA).length = t.length := List.length_map _
  refine AFun.of_W T_ok mixed Try.func76 rfl (Nat.le_of_ble_eq_true rfl) rfl ?_
  by_cases hl : s.length = t.length
  case neg =>
    rw [decide_eq_false (fun h => hl (by rw [h]))]
    ((repeat ((conv => whnf); (first | (refine As.pre ?_; first | refine As.mk rfl ?_) | (refine LetI.pre ?_; first | refine LetI.mk _ rfl ?_) | (refine LetB.pre ?_; first | refine LetB.bnet (by omega) ?_) | (refine Br.pre ?_; first | refine Br.tt rfl ?_) | (refine Ck.pre ?_; first | refine Ck.mk rfl ?_)))); (try (conv => whnf)))
    exact ⟨.inl rfl, ⟨_, rfl, rfl⟩, trivial⟩
  ((repeat ((conv => whnf); (first | (refine As.pre ?_; first | refine As.mk rfl ?_) | (refine LetI.pre ?_; first | refine LetI.mk _ rfl ?_) | (refine LetB.pre ?_; first | refine LetB.bnef (by omega) ?_) | (refine Br.pre ?_; first | refine Br.ff rfl ?_) | (refine Ck.pre ?_; first | refine Ck.mk rfl ?_)))); (try (conv => whnf)))
  refine LoopN.weak (s1 := ⟨[(0, .ro {} 2 (s.map coA)), (1, .ro {} 2 (t.map coA)), (12, int s.length), (13, int (0 : Nat))], [], 0⟩) (SW.fr0 (Nat.le_refl _) rfl ⟨.refl _, .refl _, VLe2.int (by rw [hms]), .refl _, trivial⟩) ?_
  refine LoopN.ind T_ok mixed (S := fun k : Nat => ⟨[(0, .ro {} 2 (s.map coA)), (1, .ro {} 2 (t.map coA)), (12, int s.length), (13, int k)], [], 0⟩) (fun k => s.length - k) (fun k => k ≤ s.length ∧ s.take k = t.take k) (fun _ => rfl) (fun k hk ih => ?_) 0 ⟨Nat.zero_le _, rfl⟩
  obtain ⟨h1, h2⟩ := hk
  by_cases hlt : k < s.length
  case neg =>
    rw [List.take_of_length_le (by omega), List.take_of_length_le (by omega)] at h2
    rw [decide_eq_true h2]
    clear ih
    ((repeat ((conv => whnf); (first | (refine As.pre ?_; first | refine As.mk rfl ?_) | (refine LetB.pre ?_; first | refine LetB.decf (by omega) ?_) | (refine Br.pre ?_; first | refine Br.ff rfl ?_) | (refine Ck.pre ?_; first | refine Ck.mk rfl ?_)))); (try (conv => whnf)))
    exact ⟨.inl rfl, ⟨_, rfl, rfl⟩, trivial⟩
  have hld := ld_co hlt
  have hld2 := ld_co (show k < t.length by omega)
  have hnx := fun e => ih (k + 1) ⟨hlt, take_eq co0 hlt (by omega) h2 e⟩ (by omega)
  have hne : s.getD k co0 ≠ t.getD k co0 → s ≠ t := fun h e => h (by rw [e])
  clear ih h2
  generalize s.getD k co0 = a at hld hnx hne
  generalize t.getD k co0 = b at hld2 hnx hne
  have hco := co_eq a b
  by_cases e : a = b
  · rw [decide_eq_true e] at hco
    have hkb : false = !(a.1 == b.1 && (a.2.toList == b.2.toList && true)) := by rw [hco]; rfl
    replace hnx := hnx e
    ((repeat ((conv => whnf); (first | (refine As.pre ?_; first | refine As.mk rfl ?_ | (refine As.mk ?_ ?_; · ((repeat' (refine andT ?_ ?_)) <;> (first | rfl | assumption | exact decide_eq_true (by omega) | exact decide_eq_true (by dsimp only; omega) | exact decide_eq_true (by simp; omega) | (simp; done))))) | (refine LetV.pre ?_; first | refine LetV.mk (t := 33) _ hld ?_ | refine LetV.mk (t := 33) _ hld2 ?_ | refine LetV.mk (.agg _) rfl ?_) | (refine LetI.pre ?_; first | refine LetI.wrap (by omega) (by omega) ?_) | (refine LetB.pre ?_; first | refine LetB.mk (o := some .neq) _ hkb ?_ | refine LetB.dect (by omega) ?_) | (refine Br.pre ?_; first | refine Br.tt rfl ?_ | refine Br.ff rfl ?_) | (refine Ck.pre ?_; first | refine Ck.drawn (by kernel_rfl) ?_ | refine Ck.mk rfl ?_)))); (try (conv => whnf)))
    refine LoopN.weak ?sw2 hnx
    case sw2 => exact SW.fr0 (Nat.le_refl _) rfl ⟨.refl _, .refl _, .refl _, VLe2.int (by omega), trivial⟩
  · rw [decide_eq_false e] at hco
    have hkb : true = !(a.1 == b.1 && (a.2.toList == b.2.toList && true)) := by rw [hco]; rfl
    rw [decide_eq_false (hne e)]
    clear hnx
    ((repeat ((conv => whnf); (first | (refine As.pre ?_; first | refine As.mk rfl ?_ | (refine As.mk ?_ ?_; · ((repeat' (refine andT ?_ ?_)) <;> (first | rfl | assumption | exact decide_eq_true (by omega) | exact decide_eq_true (by dsimp only; omega) | exact decide_eq_true (by simp; omega) | (simp; done))))) | (refine LetV.pre ?_; first | refine LetV.mk (t := 33) _ hld ?_ | refine LetV.mk (t := 33) _ hld2 ?_ | refine LetV.mk (.agg _) rfl ?_) | (refine LetB.pre ?_; first | refine LetB.mk (o := some .neq) _ hkb ?_ | refine LetB.dect (by omega) ?_) | (refine Br.pre ?_; first | refine Br.tt rfl ?_) | (refine Ck.pre ?_; first | refine Ck.drawn (by kernel_rfl) ?_ | refine Ck.mk rfl ?_)))); (try (conv => whnf)))
    exact ⟨.inl rfl, ⟨_, rfl, rfl⟩, trivial⟩
end Pb
end Go.Proofs.Ytjnmbmdplchfkaa
namespace Go.Proofs.Ytjnmbmdplchfkaa
open Go.Proofs.Ytjnmbmdplchfkaa.Am
set_option maxRecDepth 100000
namespace Pb
abbrev ex0 : Co × Co := (co0, co0)
theorem ld_ex {l : List (Co × Co)} {k : Nat} (h : k < l.length) : exA (l.getD k ex0) = (l.map exA).getD k (.sc undef) := mapD ex0 h
theorem ex_eq (a b : Co × Co) : ((a.1.1 == b.1.1 && (a.1.2.toList == b.1.2.toList && true)) && ((a.2.1 == b.2.1 && (a.2.2.toList == b.2.2.toList && true)) && true)) = decide (a = b) := by
  rw [co_eq a.1 b.1, co_eq a.2 b.2, Bool.and_true, Bool.eq_iff_iff, Bool.and_eq_true, decide_eq_true_eq, decide_eq_true_eq, decide_eq_true_eq]
  exact ⟨fun h => Prod.ext h.1 h.2, fun h => by rw [h]; exact ⟨rfl, rfl⟩⟩
set_option maxRecDepth 100000 in
theorem EqualE_f (s t : List (Co × Co)) (hs : s.length ≤ 1000) (ht : t.length ≤ 1000) : AFun Try.prog 35 0 [.ro {} 4 (s.map exA), .ro {} 4 (t.map exA)] [] (bool (decide (s = t))) [] := by
  have hms : (s.map exA).length = s.length := List.length_map _
  have hmt : (t.map exA).length = t.length := List.length_map _
  refine AFun.of_W T_ok mixed Try.func35 rfl (Nat.le_of_ble_eq_true rfl) rfl ?_
  by_cases hl : s.length = t.length
  case neg =>
    rw [decide_eq_false (fun h => hl (by rw [h]))]
    ((repeat ((conv => whnf); (first | (refine As.pre ?_; first | refine As.mk rfl ?_) | (refine LetI.pre ?_; first | refine LetI.mk _ rfl ?_) | (refine LetB.pre ?_; first | refine LetB.bnet (by omega) ?_) | (refine Br.pre ?_; first | refine Br.tt rfl ?_) | (refine Ck.pre ?_; first | refine Ck.mk rfl ?_)))); (try (conv => whnf)))
    exact ⟨.inl rfl, ⟨_, rfl, rfl⟩, trivial⟩
  ((repeat ((conv => whnf); (first | (refine As.pre ?_; first | refine As.mk rfl ?_) | (refine LetI.pre ?_; first | refine LetI.mk _ rfl ?_) | (refine LetB.pre ?_; first | refine LetB.bnef (by omega) ?_) | (refine Br.pre ?_; first | refine Br.ff rfl ?_) | (refine Ck.pre ?_; first | refine Ck.mk rfl ?_)))); (try (conv => whnf)))
  refine LoopN.weak (s1 := ⟨[(0, .ro {} 4 (s.map exA)), (1, .ro {} 4 (t.map exA)), (12, int s.length), (13, int (0 : Nat))], [], 0⟩) (SW.fr0 (Nat.le_refl _) rfl ⟨.refl _, .refl _, VLe2.int (by rw [hms]), .refl _, trivial⟩) ?_
  refine LoopN.ind T_ok mixed (S := fun k : Nat => ⟨[(0, .ro {} 4 (s.map exA)), (1, .ro {} 4 (t.map exA)), (12, int s.length), (13, int k)], [], 0⟩) (fun k => s.length - k) (fun k => k ≤ s.length ∧ s.take k = t.take k) (fun _ => rfl) (fun k hk ih => ?_) 0 ⟨Nat.zero_le _, rfl⟩
  obtain ⟨h1, h2⟩ := hk
  by_cases hlt : k < s.length
  case neg =>
    rw [List.take_of_length_le (by omega), List.take_of_length_le (by omega)] at h2
    rw [decide_eq_true h2]
    clear ih
    ((repeat ((conv => whnf); (first | (refine As.pre ?_; first | refine As.mk rfl ?_) | (refine LetB.pre ?_; first | refine LetB.decf (by omega) ?_) | (refine Br.pre ?_; first | refine Br.ff rfl ?_) | (refine Ck.pre ?_; first | refine Ck.mk rfl ?_)))); (try (conv => whnf)))
    exact ⟨.inl rfl, ⟨_, rfl, rfl⟩, trivial⟩
  have hld := ld_ex hlt
  have hld2 := ld_ex (show k < t.length by omega)
  have hnx := fun e => ih (k + 1) ⟨hlt, take_eq ex0 hlt (by omega) h2 e⟩ (by omega)
  have hne : s.getD k ex0 ≠ t.getD k ex0 → s ≠ t := fun h e => h (by rw [e])
  clear ih h2
  generalize s.getD k ex0 = a at hld hnx hne
  generalize t.getD k ex0 = b at hld2 hnx hne
  have hco := ex_eq a b
  by_cases e : a = b
  · rw [decide_eq_true e] at hco
    have hkb : false = !((a.1.1 == b.1.1 && (a.1.2.toList == b.1.2.toList && true)) && ((a.2.1 == b.2.1 && (a.2.2.toList == b.2.2.toList && true)) && true)) := by rw [hco]; rfl
    replace hnx := hnx e
    ((repeat ((conv => whnf); (first | (refine As.pre ?_; first | refine As.mk rfl ?_ | (refine As.mk ?_ ?_; · ((repeat' (refine andT ?_ ?_)) <;> (first | rfl | assumption | exact decide_eq_true (by omega) | exact decide_eq_true (by dsimp only; omega) | exact decide_eq_true (by simp; omega) | (simp; done))))) | (refine LetV.pre ?_; first | refine LetV.mk (t := 37) _ hld ?_ | refine LetV.mk (t := 37) _ hld2 ?_ | refine LetV.mk (.agg _) rfl ?_) | (refine LetI.pre ?_; first | refine LetI.wrap (by omega) (by omega) ?_) | (refine LetB.pre ?_; first | refine LetB.mk (o := some .neq) _ hkb ?_ | refine LetB.dect (by omega) ?_) | (refine Br.pre ?_; first | refine Br.tt rfl ?_ | refine Br.ff rfl ?_) | (refine Ck.pre ?_; first | refine Ck.drawn (by kernel_rfl) ?_ | refine Ck.mk rfl ?_)))); (try (conv => whnf)))
    refine LoopN.weak ?sw2 hnx
    case sw2 => exact SW.fr0 (Nat.le_refl _) rfl ⟨.refl _, .refl _, .refl _, VLe2.int (by omega), trivial⟩
  · rw [decide_eq_false e] at hco
    have hkb : true = !((a.1.1 == b.1.1 && (a.1.2.toList == b.1.2.toList && true)) && ((a.2.1 == b.2.1 && (a.2.2.toList == b.2.2.toList && true)) && true)) := by rw [hco]; rfl
    rw [decide_eq_false (hne e)]
    clear hnx
    ((repeat ((conv => whnf); (first | (refine As.pre ?_; first | refine As.mk rfl ?_ | (refine As.mk ?_ ?_; · ((repeat' (refine andT ?_ ?_)) <;> (first | rfl | assumption | exact decide_eq_true (by omega) | exact decide_eq_true (by dsimp only; omega) | exact decide_eq_true (by simp; omega) | (simp; done))))) | (refine LetV.pre ?_; first | refine LetV.mk (t := 37) _ hld ?_ | refine LetV.mk (t := 37) _ hld2 ?_ | refine LetV.mk (.agg _) rfl ?_) | (refine LetB.pre ?_; first | refine LetB.mk (o := some .neq) _ hkb ?_ | refine LetB.dect (by omega) ?_) | (refine Br.pre ?_; first | refine Br.tt rfl ?_) | (refine Ck.pre ?_; first | refine Ck.drawn (by kernel_rfl) ?_ | refine Ck.mk rfl ?_)))); (try (conv => whnf)))
    exact ⟨.inl rfl, ⟨_, rfl, rfl⟩, trivial⟩
/-! ### Equality of requirements -/
set_option maxRecDepth 100000 in
open Classical in
theorem EqualF_f (l l' : List Nd) (hl : l.length ≤ 1000) (hl' : l'.length ≤ 1000) (hf : ∀ k, k < l.length → k < l'.length → AFun Try.prog 56 0 [nd (l.getD k nd0), nd (l'.getD k nd0)] [] (bool (decide (l.getD k nd0 = l'.getD k nd0))) []) : AFun Try.prog 91 0 [.ro {} 5 (l.map nd), .ro {} 5 (l'.map nd), .clo 56 []] [] (bool (decide (l = l'))) [] := by
  have hms : (l.map nd).length = l.length := List.length_map _
  have hmt : (l'.map nd).length = l'.length := List.length_map _
  refine AFun.of_W T_ok mixed Try.func91 rfl (Nat.le_of_ble_eq_true rfl) rfl ?_
  by_cases hll : l.length = l'.length
  case neg =>
    rw [decide_eq_false (fun h => hll (by rw [h]))]
    ((repeat ((conv => whnf); (first | (refine As.pre ?_; first | refine As.mk rfl ?_) | (refine LetI.pre ?_; first | refine LetI.mk _ rfl ?_) | (refine LetB.pre ?_; first | refine LetB.bnet (by omega) ?_) | (refine Br.pre ?_; first | refine Br.tt rfl ?_) | (refine Ck.pre ?_; first | refine Ck.mk rfl ?_)))); (try (conv => whnf)))
    exact ⟨.inl rfl, ⟨_, rfl, rfl⟩, trivial⟩
  ((repeat ((conv => whnf); (first | (refine As.pre ?_; first | refine As.mk rfl ?_) | (refine LetI.pre ?_; first | refine LetI.mk _ rfl ?_) | (refine LetB.pre ?_; first | refine LetB.bnef (by omega) ?_) | (refine Br.pre ?_; first | refine Br.ff rfl ?_) | (refine Ck.pre ?_; first | refine Ck.mk rfl ?_)))); (try (conv => whnf)))
  refine LoopN.weak (s1 := ⟨[(1, .ro {} 5 (l'.map nd)), (2, .clo 56 []), (15, .ro {} 5 (l.map nd)), (16, int l.length), (17, int (0 : Nat))], [], 0⟩) (SW.fr0 (Nat.le_refl _) rfl ⟨.refl _, .refl _, .refl _, VLe2.int (by rw [hms]), .refl _, trivial⟩) ?_
  refine LoopN.ind T_ok mixed (S := fun k : Nat => ⟨[(1, .ro {} 5 (l'.map nd)), (2, .clo 56 []), (15, .ro {} 5 (l.map nd)), (16, int l.length), (17, int k)], [], 0⟩) (fun k => l.length - k) (fun k => k ≤ l.length ∧ l.take k = l'.take k) (fun _ => rfl) (fun k hk ih => ?_) 0 ⟨Nat.zero_le _, rfl⟩
  obtain ⟨h1, h2⟩ := hk
  by_cases hlt : k < l.length
  case neg =>
    rw [List.take_of_length_le (by omega), List.take_of_length_le (by omega)] at h2
    rw [decide_eq_true h2]
    clear ih hf
    ((repeat ((conv => whnf); (first | (refine As.pre ?_; first | refine As.mk rfl ?_) | (refine LetB.pre ?_; first | refine LetB.decf (by omega) ?_) | (refine Br.pre ?_; first | refine Br.ff rfl ?_) | (refine Ck.pre ?_; first | refine Ck.mk rfl ?_)))); (try (conv => whnf)))
    exact ⟨.inl rfl, ⟨_, rfl, rfl⟩, trivial⟩
  have hld := ld_nd hlt
  have hld2 := ld_nd (show k < l'.length by omega)
  have hF := hf k hlt (by omega)
  have hnx := fun e => ih (k + 1) ⟨hlt, take_eq nd0 hlt (by omega) h2 e⟩ (by omega)
  have hne : l.getD k nd0 ≠ l'.getD k nd0 → l ≠ l' := fun h e => h (by rw [e])
  clear ih h2 hf
  generalize l.getD k nd0 = a at hld hnx hne hF
  generalize l'.getD k nd0 = b at hld2 hnx hne hF
  by_cases e : a = b
  · rw [decide_eq_true e] at hF
    replace hnx := hnx e
    clear hne e
    obtain ⟨k1, n1, m1, s1, l1⟩ := a
    obtain ⟨k2, n2, m2, s2, l2⟩ := b
    rw [nd_mk] at hld hld2
    rw [nd_mk, nd_mk] at hF
    ((repeat ((conv => whnf); (first | (refine LetN.pre ?_; first | ((conv => arg 1; whnf); refine LetN.mk ?_)) | (refine As.pre ?_; first | refine As.mk rfl ?_ | (refine As.mk ?_ ?_; · ((repeat' (refine andT ?_ ?_)) <;> (first | rfl | assumption | exact decide_eq_true (by omega) | exact decide_eq_true (by dsimp only; omega) | exact decide_eq_true (by simp; omega) | (simp; done))))) | (refine LetV.pre ?_; first | refine LetV.mk (t := 34) _ hld ?_ | refine LetV.mk (t := 34) _ hld2 ?_ | refine LetV.mk (.agg _) rfl ?_) | (refine LetI.pre ?_; first | refine LetI.wrap (by omega) (by omega) ?_) | (refine LetB.pre ?_; first | refine LetB.dect (by omega) ?_) | (refine Br.pre ?_; first | refine Br.tt rfl ?_ | refine Br.ff rfl ?_) | (refine Ck.pre ?_; first | refine Ck.mk rfl ?_) | (refine LetL.pre ?_; first | refine LetL.mk (ty := nty) [.agg [_, _, _, _, _]] rfl ?_) | (refine CallN.pre ?_; first | refine CallN.pure hF rfl rfl ?_)))); (try (conv => whnf)))
    refine LoopN.weak ?sw2 hnx
    case sw2 => exact SW.fr0 (Nat.zero_le _) rfl ⟨.refl _, .refl _, .refl _, .refl _, VLe2.int (by omega), trivial⟩
  · rw [decide_eq_false e] at hF
    rw [decide_eq_false (hne e)]
    clear hnx hne e
    obtain ⟨k1, n1, m1, s1, l1⟩ := a
    obtain ⟨k2, n2, m2, s2, l2⟩ := b
    rw [nd_mk] at hld hld2
    rw [nd_mk, nd_mk] at hF
    ((repeat ((conv => whnf); (first | (refine LetN.pre ?_; first | ((conv => arg 1; whnf); refine LetN.mk ?_)) | (refine As.pre ?_; first | refine As.mk rfl ?_ | (refine As.mk ?_ ?_; · ((repeat' (refine andT ?_ ?_)) <;> (first | rfl | assumption | exact decide_eq_true (by omega) | exact decide_eq_true (by dsimp only; omega) | exact decide_eq_true (by simp; omega) | (simp; done))))) | (refine LetV.pre ?_; first | refine LetV.mk (t := 34) _ hld ?_ | refine LetV.mk (t := 34) _ hld2 ?_ | refine LetV.mk (.agg _) rfl ?_) | (refine LetB.pre ?_; first | refine LetB.dect (by omega) ?_) | (refine Br.pre ?_; first | refine Br.tt rfl ?_) | (refine Ck.pre ?_; first | refine Ck.mk rfl ?_) | (refine LetL.pre ?_; first | refine LetL.mk (ty := nty) [.agg [_, _, _, _, _]] rfl ?_) | (refine CallN.pre ?_; first | refine CallN.pure hF rfl rfl ?_)))); (try (conv => whnf)))
    exact ⟨.inl rfl, ⟨_, rfl, rfl⟩, trivial⟩
/-- A requirement that is not too great. -/
structure SN (x : Nd) : Prop where
  n : x.nodes.length ≤ 1000
  s : ∀ y ∈ x.nodes, y.set.length ≤ 1000
theorem SN.sub {k n m : Int} {s : List Co} {l : List Nd} (h : SN (.mk k n m s l)) : s.length ≤ 1000 ∧ l.length ≤ 1000 ∧ ∀ x ∈ l, SN x ∧ x.nodes.length < (Nd.mk k n m s l).nodes.length := by
  obtain ⟨h1, h2⟩ := h
  rw [Nd.nodes] at h1 h2 ⊢
  rw [List.length_cons] at h1 ⊢
  have hge := nodesL_ge l
  refine ⟨h2 _ (List.mem_cons_self ..), by omega, fun x hx => ?_⟩
  have := nodesL_mem hx
  exact ⟨⟨by omega, fun y hy => h2 y (List.mem_cons_of_mem _ (nodesL_sub hx hy))⟩, by omega⟩
set_option maxHeartbeats 1600000 in
set_option maxRecDepth 100000 in
open Classical in
theorem same_f : ∀ (K : Nat) (x y : Nd), x.nodes.length ≤ K → SN x → SN y → AFun Try.prog 56 0 [nd x, nd y] [] (bool (decide (x = y))) [] := by
  intro K
  induction K with
  | zero => intro x y h; have := nodes_pos x; omega
  | succ K ihK =>
    intro x y hK hx hy
    obtain ⟨k, n, m, s, l⟩ := x
    obtain ⟨k', n', m', s', l'⟩ := y
    obtain ⟨a1, a2, a3⟩ := hx.sub
    obtain ⟨b1, b2, b3⟩ := hy.sub
    have hS := EqualC_f s s' a1 b1
    have hL := EqualF_f l l' a2 b2 (fun i h1 h2 => ihK _ _ (by have := (a3 _ (getD_mem' h1)).2; omega) (a3 _ (getD_mem' h1)).1 (b3 _ (getD_mem' h2)).1)
    have hE : AFun Try.prog 77 0 [.ro {} 5 (l.map nd), .ro {} 5 (l'.map nd), .clo 56 []] [] (bool (decide (l = l'))) [] := by
      refine AFun.of_W T_ok mixed Try.func77 rfl (Nat.le_of_ble_eq_true rfl) rfl ?_
      ((repeat ((conv => whnf); (first | (refine As.pre ?_; first | refine As.mk rfl ?_) | (refine Ck.pre ?_; first | refine Ck.mk rfl ?_) | (refine CallN.pre ?_; first | refine CallN.pure hL rfl rfl ?_)))); (try (conv => whnf)))
      exact ⟨.inl rfl, ⟨_, rfl, rfl⟩, trivial⟩
    clear hL a3 b3 hx hy hK ihK
    rw [nd_mk, nd_mk]
    refine AFun.of_W T_ok mixed Try.func56 rfl (Nat.le_of_ble_eq_true rfl) rfl ?_
    by_cases c1 : k = k'
    case neg =>
      rw [decide_eq_false (fun h => c1 (by injection h))]
      ((repeat ((conv => whnf); (first | (refine LetN.pre ?_; first | ((conv => arg 1; whnf); refine LetN.mk ?_)) | (refine As.pre ?_; first | refine As.mk rfl ?_) | (refine LetV.pre ?_; first | refine LetV.mk (.sc (.int _ _)) rfl ?_) | (refine LetB.pre ?_; first | refine LetB.decf (by omega) ?_) | (refine Gd.pre ?_; first | refine Gd.pass rfl ?_) | (refine Ck.pre ?_; first | refine Ck.mk rfl ?_)))); (try (conv => whnf)))
      exact ⟨.inl rfl, ⟨_, rfl, rfl⟩, trivial⟩
    by_cases c2 : n = n'
    case neg =>
      rw [decide_eq_false (fun h => c2 (by injection h))]
      ((repeat ((conv => whnf); (first | (refine LetN.pre ?_; first | ((conv => arg 1; whnf); refine LetN.mk ?_)) | (refine As.pre ?_; first | refine As.mk rfl ?_) | (refine LetV.pre ?_; first | refine LetV.mk (.sc (.int _ _)) rfl ?_) | (refine LetB.pre ?_; first | refine LetB.dect (by omega) ?_ | refine LetB.decf (by omega) ?_) | (refine Gd.pre ?_; first | refine Gd.run rfl ?_ | refine Gd.pass rfl ?_) | (refine Ck.pre ?_; first | refine Ck.mk rfl ?_)))); (try (conv => whnf)))
      exact ⟨.inl rfl, ⟨_, rfl, rfl⟩, trivial⟩
    by_cases c3 : m = m'
    case neg =>
      rw [decide_eq_false (fun h => c3 (by injection h))]
      ((repeat ((conv => whnf); (first | (refine LetN.pre ?_; first | ((conv => arg 1; whnf); refine LetN.mk ?_)) | (refine As.pre ?_; first | refine As.mk rfl ?_) | (refine LetV.pre ?_; first | refine LetV.mk (.sc (.int _ _)) rfl ?_) | (refine LetB.pre ?_; first | refine LetB.dect (by omega) ?_ | refine LetB.decf (by omega) ?_) | (refine Gd.pre ?_; first | refine Gd.run rfl ?_ | refine Gd.pass rfl ?_) | (refine Ck.pre ?_; first | refine Ck.mk rfl ?_)))); (try (conv => whnf)))
      exact ⟨.inl rfl, ⟨_, rfl, rfl⟩, trivial⟩
    by_cases c4 : s = s'
    case neg =>
      rw [decide_eq_false c4] at hS
      rw [decide_eq_false (fun h => c4 (by injection h))]
      ((repeat ((conv => whnf); (first | (refine LetN.pre ?_; first | ((conv => arg 1; whnf); refine LetN.mk ?_)) | (refine As.pre ?_; first | refine As.mk rfl ?_) | (refine LetV.pre ?_; first | refine LetV.mk (.sc (.int _ _)) rfl ?_ | refine LetV.mk (.ro _ _ _) rfl ?_) | (refine LetB.pre ?_; first | refine LetB.dect (by omega) ?_) | (refine Gd.pre ?_; first | refine Gd.run rfl ?_ | refine Gd.pass rfl ?_) | (refine Ck.pre ?_; first | refine Ck.mk rfl ?_) | (refine CallN.pre ?_; first | refine CallN.pure hS rfl rfl ?_)))); (try (conv => whnf)))
      exact ⟨.inl rfl, ⟨_, rfl, rfl⟩, trivial⟩
    rw [decide_eq_true c4] at hS
    by_cases c5 : l = l'
    case neg =>
      rw [decide_eq_false c5] at hE
      rw [decide_eq_false (fun h => c5 (by injection h))]
      ((repeat ((conv => whnf); (first | (refine LetN.pre ?_; first | ((conv => arg 1; whnf); refine LetN.mk ?_)) | (refine As.pre ?_; first | refine As.mk rfl ?_) | (refine LetV.pre ?_; first | refine LetV.mk (.sc (.int _ _)) rfl ?_ | refine LetV.mk (.ro _ _ _) rfl ?_) | (refine LetB.pre ?_; first | refine LetB.dect (by omega) ?_) | (refine Gd.pre ?_; first | refine Gd.run rfl ?_) | (refine Ck.pre ?_; first | refine Ck.mk rfl ?_) | (refine CallN.pre ?_; first | refine CallN.pure hS rfl rfl ?_ | refine CallN.pure hE rfl rfl ?_)))); (try (conv => whnf)))
      exact ⟨.inl rfl, ⟨_, rfl, rfl⟩, trivial⟩
    rw [decide_eq_true c5] at hE
    rw [decide_eq_true (by rw [c1, c2, c3, c4, c5])]
    ((repeat ((conv => whnf); (first | (refine LetN.pre ?_; first | ((conv => arg 1; whnf); refine LetN.mk ?_)) | (refine As.pre ?_; first | refine As.mk rfl ?_) | (refine LetV.pre ?_; first | refine LetV.mk (.sc (.int _ _)) rfl ?_ | refine LetV.mk (.ro _ _ _) rfl ?_) | (refine LetB.pre ?_; first | refine LetB.dect (by omega) ?_) | (refine Gd.pre ?_; first | refine Gd.run rfl ?_) | (refine Ck.pre ?_; first | refine Ck.mk rfl ?_) | (refine CallN.pre ?_; first | refine CallN.pure hS rfl rfl ?_ | refine CallN.pure hE rfl rfl ?_)))); (try (conv => whnf)))
    exact ⟨.inl rfl, ⟨_, rfl, rfl⟩, trivial⟩
end Pb
end Go.Proofs.Ytjnmbmdplchfkaa
namespace Go.Proofs.Ytjnmbmdplchfkaa
open Go.Proofs.Ytjnmbmdplchfkaa.Am
set_option maxRecDepth 100000
namespace Pb
/-! ### Equality of programmes -/
set_option maxRecDepth 100000 in
open Classical in
theorem Same_f (x y : Nd) (hx : SN x) (hy : SN y) (gx : x.hgt ≤ 100) (gy : y.hgt ≤ 100) : AFun Try.prog 36 0 [nd x, nd y] [] (bool (decide (x = y))) [] := by
  have l1 := list_f x (by have := hx.n; omega) gx
  have l2 := list_f y (by have := hy.n; omega) gy
  have hs := same_f _ x y (Nat.le_refl _) hx hy
  clear hx hy gx gy
  generalize decide (x = y) = b at hs ⊢
  generalize x.nodes = N1 at l1
  generalize y.nodes = N2 at l2
  generalize x.deep 1 0 = d1 at l1
  generalize y.deep 1 0 = d2 at l2
  obtain ⟨k1, n1, m1, s1, q1⟩ := x
  obtain ⟨k2, n2, m2, s2, q2⟩ := y
  rw [nd_mk] at l1 l2 ⊢
  rw [nd_mk, nd_mk] at hs
  rw [nd_mk]
  refine AFun.of_W T_ok mixed Try.func36 rfl (Nat.le_of_ble_eq_true rfl) rfl ?_
  cases b <;>
  · ((repeat ((conv => whnf); (first | (refine LetN.pre ?_; first | ((conv => arg 1; whnf); refine LetN.mk ?_)) | (refine As.pre ?_; first | refine As.mk rfl ?_) | (refine LetV.pre ?_; first | refine LetV.mk (.agg _) rfl ?_) | (refine Gd.pre ?_; first | refine Gd.run rfl ?_) | (refine Ck.pre ?_; first | refine Ck.mk rfl ?_) | (refine CallN.pre ?_; first | refine CallN.pure l1 rfl rfl ?_ | refine CallN.pure l2 rfl rfl ?_ | refine CallN.pure hs rfl rfl ?_)))); (try (conv => whnf)))
    exact ⟨.inl rfl, ⟨_, rfl, rfl⟩, trivial⟩
/-- A programme that may be compared. -/
structure CP (p : Pg) : Prop where
  s : SN p.need
  h : p.need.hgt ≤ 100
  e : p.ex.length ≤ 1000
theorem WP.cp {p : Pg} (h : WP p) : CP p := ⟨⟨h.sp.n, h.sp.s⟩, by have := h.need.h; omega, h.sp.e⟩
theorem cp0 : CP p0 := ⟨⟨by decide, by decide⟩, by decide, by decide⟩
set_option maxHeartbeats 3200000 in
set_option maxRecDepth 100000 in
open Classical in
theorem SameAll_f {p q : Pg} (hp : CP p) (hq : CP q) : AFun Try.prog 14 0 [pg p, pg q] [] (bool (decide (p = q))) [] := by
  have hE := EqualE_f p.ex q.ex hp.e hq.e
  have hS := Same_f p.need q.need hp.s hq.s hp.h hq.h
  clear hp hq
  obtain ⟨school, id, ver, from_, name, x, total, own, age, ex⟩ := p
  obtain ⟨school', id', ver', from', name', y, total', own', age', ex'⟩ := q
  dsimp only at hE hS
  have hN : (name.toList == name'.toList) = decide (name = name') := str_eq
  obtain ⟨b, hb⟩ : ∃ b, b = decide ((⟨school, id, ver, from_, name, x, total, own, age, ex⟩ : Pg) = ⟨school', id', ver', from', name', y, total', own', age', ex'⟩) := ⟨_, rfl⟩
  rw [← hb]
  generalize hxy : decide (x = y) = bxy at hS
  have hxy' : bxy = true ↔ x = y := by rw [← hxy, decide_eq_true_eq]
  clear hxy
  rw [eq_comm, ← Bool.coe_iff_coe, decide_eq_true_eq, Pg.mk.injEq] at hb
  rw [← hxy'] at hb
  clear hxy'
  replace hb := hb.symm
  obtain ⟨k, n, m, s, l⟩ := x
  obtain ⟨k', n', m', s', l'⟩ := y
  rw [pg_mk, pg_mk]
  rw [nd_mk, nd_mk] at hS
  refine AFun.of_W T_ok mixed Try.func14 rfl (Nat.le_of_ble_eq_true rfl) rfl ?_
  by_cases c0 : school = school'
  case neg =>
    obtain rfl : b = false := by
      rw [Bool.eq_false_iff]; intro h; have := hb.1 h; exact c0 this.1
    clear hb
    ((repeat ((conv => whnf); (first | (refine LetN.pre ?_; first | ((conv => arg 1; whnf); refine LetN.mk ?_)) | (refine As.pre ?_; first | refine As.mk rfl ?_) | (refine LetV.pre ?_; first | refine LetV.mk (.sc (.int _ _)) rfl ?_) | (refine LetB.pre ?_; first | refine LetB.decf (by omega) ?_) | (refine Gd.pre ?_; first | refine Gd.pass rfl ?_) | (refine Ck.pre ?_; first | refine Ck.mk rfl ?_)))); (try (conv => whnf)))
    exact ⟨.inl rfl, ⟨_, rfl, rfl⟩, trivial⟩
  by_cases c1 : id = id'
  case neg =>
    obtain rfl : b = false := by
      rw [Bool.eq_false_iff]; intro h; have := hb.1 h; exact c1 this.2.1
    clear hb
    ((repeat ((conv => whnf); (first | (refine LetN.pre ?_; first | ((conv => arg 1; whnf); refine LetN.mk ?_)) | (refine As.pre ?_; first | refine As.mk rfl ?_) | (refine LetV.pre ?_; first | refine LetV.mk (.sc (.int _ _)) rfl ?_) | (refine LetB.pre ?_; first | refine LetB.dect (by omega) ?_ | refine LetB.decf (by omega) ?_) | (refine Gd.pre ?_; first | refine Gd.run rfl ?_ | refine Gd.pass rfl ?_) | (refine Ck.pre ?_; first | refine Ck.mk rfl ?_)))); (try (conv => whnf)))
    exact ⟨.inl rfl, ⟨_, rfl, rfl⟩, trivial⟩
  by_cases c2 : ver = ver'
  case neg =>
    obtain rfl : b = false := by
      rw [Bool.eq_false_iff]; intro h; have := hb.1 h; exact c2 this.2.2.1
    clear hb
    ((repeat ((conv => whnf); (first | (refine LetN.pre ?_; first | ((conv => arg 1; whnf); refine LetN.mk ?_)) | (refine As.pre ?_; first | refine As.mk rfl ?_) | (refine LetV.pre ?_; first | refine LetV.mk (.sc (.int _ _)) rfl ?_) | (refine LetB.pre ?_; first | refine LetB.dect (by omega) ?_ | refine LetB.decf (by omega) ?_) | (refine Gd.pre ?_; first | refine Gd.run rfl ?_ | refine Gd.pass rfl ?_) | (refine Ck.pre ?_; first | refine Ck.mk rfl ?_)))); (try (conv => whnf)))
    exact ⟨.inl rfl, ⟨_, rfl, rfl⟩, trivial⟩
  by_cases c3 : from_ = from'
  case neg =>
    obtain rfl : b = false := by
      rw [Bool.eq_false_iff]; intro h; have := hb.1 h; exact c3 this.2.2.2.1
    clear hb
    ((repeat ((conv => whnf); (first | (refine LetN.pre ?_; first | ((conv => arg 1; whnf); refine LetN.mk ?_)) | (refine As.pre ?_; first | refine As.mk rfl ?_) | (refine LetV.pre ?_; first | refine LetV.mk (.sc (.int _ _)) rfl ?_) | (refine LetB.pre ?_; first | refine LetB.dect (by omega) ?_ | refine LetB.decf (by omega) ?_) | (refine Gd.pre ?_; first | refine Gd.run rfl ?_ | refine Gd.pass rfl ?_) | (refine Ck.pre ?_; first | refine Ck.mk rfl ?_)))); (try (conv => whnf)))
    exact ⟨.inl rfl, ⟨_, rfl, rfl⟩, trivial⟩
  by_cases c4 : name = name'
  case neg =>
    obtain rfl : b = false := by
      rw [Bool.eq_false_iff]; intro h; have := hb.1 h; exact c4 this.2.2.2.2.1
    clear hb
    rw [decide_eq_false c4] at hN
    ((repeat ((conv => whnf); (first | (refine LetN.pre ?_; first | ((conv => arg 1; whnf); refine LetN.mk ?_)) | (refine As.pre ?_; first | refine As.mk rfl ?_) | (refine LetV.pre ?_; first | refine LetV.mk (.sc (.int _ _)) rfl ?_ | refine LetV.mk (.sc _) rfl ?_) | (refine LetB.pre ?_; first | refine LetB.ff (by assumption) ?_ | refine LetB.dect (by omega) ?_) | (refine Gd.pre ?_; first | refine Gd.run rfl ?_ | refine Gd.pass rfl ?_) | (refine Ck.pre ?_; first | refine Ck.mk rfl ?_)))); (try (conv => whnf)))
    exact ⟨.inl rfl, ⟨_, rfl, rfl⟩, trivial⟩
  rw [decide_eq_true c4] at hN
  by_cases c5 : total = total'
  case neg =>
    obtain rfl : b = false := by
      rw [Bool.eq_false_iff]; intro h; have := hb.1 h; exact c5 this.2.2.2.2.2.2.1
    clear hb
    ((repeat ((conv => whnf); (first | (refine LetN.pre ?_; first | ((conv => arg 1; whnf); refine LetN.mk ?_)) | (refine As.pre ?_; first | refine As.mk rfl ?_) | (refine LetV.pre ?_; first | refine LetV.mk (.sc (.int _ _)) rfl ?_ | refine LetV.mk (.sc _) rfl ?_) | (refine LetB.pre ?_; first | refine LetB.tt (by assumption) ?_ | refine LetB.dect (by omega) ?_ | refine LetB.decf (by omega) ?_) | (refine Gd.pre ?_; first | refine Gd.run rfl ?_ | refine Gd.pass rfl ?_) | (refine Ck.pre ?_; first | refine Ck.mk rfl ?_)))); (try (conv => whnf)))
    exact ⟨.inl rfl, ⟨_, rfl, rfl⟩, trivial⟩
  by_cases c6 : own = own'
  case neg =>
    obtain rfl : b = false := by
      rw [Bool.eq_false_iff]; intro h; have := hb.1 h; exact c6 this.2.2.2.2.2.2.2.1
    clear hb
    ((repeat ((conv => whnf); (first | (refine LetN.pre ?_; first | ((conv => arg 1; whnf); refine LetN.mk ?_)) | (refine As.pre ?_; first | refine As.mk rfl ?_) | (refine LetV.pre ?_; first | refine LetV.mk (.sc (.int _ _)) rfl ?_ | refine LetV.mk (.sc _) rfl ?_) | (refine LetB.pre ?_; first | refine LetB.tt (by assumption) ?_ | refine LetB.dect (by omega) ?_ | refine LetB.decf (by omega) ?_) | (refine Gd.pre ?_; first | refine Gd.run rfl ?_ | refine Gd.pass rfl ?_) | (refine Ck.pre ?_; first | refine Ck.mk rfl ?_)))); (try (conv => whnf)))
    exact ⟨.inl rfl, ⟨_, rfl, rfl⟩, trivial⟩
  by_cases c7 : age = age'
  case neg =>
    obtain rfl : b = false := by
      rw [Bool.eq_false_iff]; intro h; have := hb.1 h; exact c7 this.2.2.2.2.2.2.2.2.1
    clear hb
    ((repeat ((conv => whnf); (first | (refine LetN.pre ?_; first | ((conv => arg 1; whnf); refine LetN.mk ?_)) | (refine As.pre ?_; first | refine As.mk rfl ?_) | (refine LetV.pre ?_; first | refine LetV.mk (.sc (.int _ _)) rfl ?_ | refine LetV.mk (.sc _) rfl ?_) | (refine LetB.pre ?_; first | refine LetB.tt (by assumption) ?_ | refine LetB.dect (by omega) ?_ | refine LetB.decf (by omega) ?_) | (refine Gd.pre ?_; first | refine Gd.run rfl ?_ | refine Gd.pass rfl ?_) | (refine Ck.pre ?_; first | refine Ck.mk rfl ?_)))); (try (conv => whnf)))
    exact ⟨.inl rfl, ⟨_, rfl, rfl⟩, trivial⟩
  by_cases c8 : ex = ex'
  case neg =>
    rw [decide_eq_false c8] at hE
    obtain rfl : b = false := by
      rw [Bool.eq_false_iff]; intro h; have := hb.1 h; exact c8 this.2.2.2.2.2.2.2.2.2
    clear hb
    ((repeat ((conv => whnf); (first | (refine LetN.pre ?_; first | ((conv => arg 1; whnf); refine LetN.mk ?_)) | (refine As.pre ?_; first | refine As.mk rfl ?_) | (refine LetV.pre ?_; first | refine LetV.mk (.sc (.int _ _)) rfl ?_ | refine LetV.mk (.sc _) rfl ?_ | refine LetV.mk (.ro _ _ _) rfl ?_) | (refine LetB.pre ?_; first | refine LetB.tt (by assumption) ?_ | refine LetB.dect (by omega) ?_) | (refine Gd.pre ?_; first | refine Gd.run rfl ?_ | refine Gd.pass rfl ?_) | (refine Ck.pre ?_; first | refine Ck.mk rfl ?_) | (refine CallN.pre ?_; first | refine CallN.pure hE rfl rfl ?_)))); (try (conv => whnf)))
    exact ⟨.inl rfl, ⟨_, rfl, rfl⟩, trivial⟩
  rw [decide_eq_true c8] at hE
  obtain rfl : b = bxy := by
    rw [Bool.eq_iff_iff, hb]; exact ⟨fun h => h.2.2.2.2.2.1, fun h => ⟨c0, c1, c2, c3, c4, h, c5, c6, c7, c8⟩⟩
  clear hb
  cases b <;>
  · ((repeat ((conv => whnf); (first | (refine LetN.pre ?_; first | ((conv => arg 1; whnf); refine LetN.mk ?_)) | (refine As.pre ?_; first | refine As.mk rfl ?_) | (refine LetV.pre ?_; first | refine LetV.mk (.sc (.int _ _)) rfl ?_ | refine LetV.mk (.sc _) rfl ?_ | refine LetV.mk (.agg _) rfl ?_ | refine LetV.mk (.ro _ _ _) rfl ?_) | (refine LetB.pre ?_; first | refine LetB.tt (by assumption) ?_ | refine LetB.dect (by omega) ?_) | (refine Gd.pre ?_; first | refine Gd.run rfl ?_) | (refine Ck.pre ?_; first | refine Ck.mk rfl ?_) | (refine CallN.pre ?_; first | refine CallN.pure hE rfl rfl ?_ | refine CallN.pure hS rfl rfl ?_)))); (try (conv => whnf)))
    exact ⟨.inl rfl, ⟨_, rfl, rfl⟩, trivial⟩
end Pb
end Go.Proofs.Ytjnmbmdplchfkaa
namespace Go.Proofs.Ytjnmbmdplchfkaa
open Go.Proofs.Ytjnmbmdplchfkaa.Am
set_option maxRecDepth 100000
namespace Pb
/-! ### Numbers that are drawn -/
abbrev dty : TypeId := 73
abbrev drawB (fl : Fl) (xs : List Int) (at_ : Nat) : Blk := .row 2 dty [.agg [.ro fl 1 (xs.map int), int at_]]
def dv (xs : List Int) (at_ : Nat) (most : Int) : Int := if at_ < xs.length then ((xs.getD at_ 0).tmod most + most).tmod most else 0
def da (xs : List Int) (at_ : Nat) : Nat := if at_ < xs.length then at_ + 1 else at_
theorem dv_range (xs : List Int) (at_ : Nat) {most : Int} (h : 0 < most) : 0 ≤ dv xs at_ most ∧ dv xs at_ most < most := by
  unfold dv
  split
  · have h1 := tmod_bound (xs.getD at_ 0) h
    rw [Int.tmod_eq_emod_of_nonneg (by omega)]
    exact ⟨Int.emod_nonneg _ (by omega), Int.emod_lt_of_pos _ h⟩
  · omega
theorem da_le {xs : List Int} {at_ : Nat} (h : at_ ≤ xs.length) : da xs at_ ≤ xs.length := by
  unfold da; split <;> omega
theorem Next_f (fl : Fl) (xs : List Int) (at_ : Nat) (most : Int) (hl : xs.length ≤ 9223372036854775807) (ha : at_ ≤ xs.length) (hm : 0 < most ∧ most ≤ 1000000) :
    AFun Try.prog 28 1 [.ptr 0 2 0 0, int most] [(0, drawB fl xs at_)] (int (dv xs at_ most)) [(0, drawB fl xs (da xs at_))] := by
  refine AFun.of_W T_ok mixed Try.func28 rfl (Nat.le_of_ble_eq_true rfl) rfl ?_
  have hml : (xs.map int).length = xs.length := List.length_map _
  have hnz : (most != 0) = true := by simp; omega
  unfold dv da
  by_cases hlt : at_ < xs.length
  · rw [if_pos hlt, if_pos hlt]
    have hld : int (xs.getD at_ 0) = (xs.map int).getD at_ (.sc undef) := mapD 0 hlt
    generalize xs.getD at_ 0 = x at hld ⊢
    have hb := tmod_bound x hm.1
    ((repeat ((conv => whnf); (first | (refine LetN.pre ?_; first | ((conv => arg 1; whnf); refine LetN.mk ?_)) | (refine As.pre ?_; first | refine As.mk rfl ?_ | refine As.mk hnz ?_ | (refine As.mk ?_ ?_; · ((repeat' (refine andT ?_ ?_)) <;> (first | rfl | assumption | exact decide_eq_true (by omega) | exact decide_eq_true (by dsimp only; omega) | exact decide_eq_true (by simp; omega) | (simp; done))))) | (refine LetV.pre ?_; first | refine LetV.mk (t := 26) _ hld ?_ | refine LetV.mk (.sc (.int _ _)) rfl ?_ | refine LetV.mk (.ro _ _ _) rfl ?_) | (refine LetI.pre ?_; first | refine LetI.wrap (by omega) (by omega) ?_ | refine LetI.mk _ rfl ?_) | (refine LetB.pre ?_; first | refine LetB.decf (by omega) ?_) | (refine Br.pre ?_; first | refine Br.ff rfl ?_) | (refine Ck.pre ?_; first | refine Ck.drawn (by kernel_rfl) ?_ | refine Ck.mk rfl ?_) | (refine LetL.pre ?_; first | refine LetL.mk [_] rfl ?_)))); (try (conv => whnf)))


    exact ⟨.inl rfl, ⟨_, rfl, rfl⟩, rfl, trivial⟩
  · rw [if_neg hlt, if_neg hlt]
    ((repeat ((conv => whnf); (first | (refine As.pre ?_; first | refine As.mk rfl ?_) | (refine LetV.pre ?_; first | refine LetV.mk (.sc (.int _ _)) rfl ?_ | refine LetV.mk (.ro _ _ _) rfl ?_) | (refine LetI.pre ?_; first | refine LetI.mk _ rfl ?_) | (refine LetB.pre ?_; first | refine LetB.dect (by omega) ?_) | (refine Br.pre ?_; first | refine Br.tt rfl ?_) | (refine Ck.pre ?_; first | refine Ck.drawn (by kernel_rfl) ?_ | refine Ck.mk rfl ?_)))); (try (conv => whnf)))
    exact ⟨.inl rfl, ⟨_, rfl, rfl⟩, rfl, trivial⟩
def codesL : List ByteArray := [⟨#[65, 49]⟩, ⟨#[66, 49]⟩, ⟨#[66, 50]⟩, ⟨#[67, 49]⟩, ⟨#[68, 49]⟩, ⟨#[69, 57]⟩]
theorem Codes_f : AFun Try.prog 48 0 [] [] (.ro ⟨true, true⟩ 1 (codesL.map str)) [] := AFun.of_ev T_ok mixed 20 (by kernel_rfl)
abbrev dty1 : TypeId := 89
abbrev drawB1 (fl : Fl) (xs : List Int) (at_ : Nat) : Blk := .row 2 dty1 [.agg [.ro fl 1 (xs.map int), int at_]]
theorem Mod_f (x m : Int) (h : 0 < m ∧ m ≤ 1000000) : AFun Try.prog 40 0 [int x, int m] [] (int ((x.tmod m + m).tmod m)) [] := by
  refine AFun.of_W T_ok mixed Try.func40 rfl (Nat.le_of_ble_eq_true rfl) rfl ?_
  have hnz : (m != 0) = true := by simp; omega
  have hb := tmod_bound x h.1
  ((repeat ((conv => whnf); (first | (refine As.pre ?_; first | refine As.mk rfl ?_ | refine As.mk hnz ?_) | (refine LetI.pre ?_; first | refine LetI.wrap (by omega) (by omega) ?_ | refine LetI.mk _ rfl ?_) | (refine Ck.pre ?_; first | refine Ck.mk rfl ?_)))); (try (conv => whnf)))
  exact ⟨.inl rfl, ⟨_, rfl, rfl⟩, trivial⟩
theorem Next1_f (fl : Fl) (xs : List Int) (at_ : Nat) (most : Int) (hl : xs.length ≤ 9223372036854775807) (ha : at_ ≤ xs.length) (hm : 0 < most ∧ most ≤ 1000000) :
    AFun Try.prog 37 1 [.ptr 0 2 0 0, int most] [(0, drawB1 fl xs at_)] (int (dv xs at_ most)) [(0, drawB1 fl xs (da xs at_))] := by
  refine AFun.of_W T_ok mixed Try.func37 rfl (Nat.le_of_ble_eq_true rfl) rfl ?_
  have hml : (xs.map int).length = xs.length := List.length_map _
  have hnz : (most != 0) = true := by simp; omega
  unfold dv da
  by_cases hlt : at_ < xs.length
  · rw [if_pos hlt, if_pos hlt]
    have hld : int (xs.getD at_ 0) = (xs.map int).getD at_ (.sc undef) := mapD 0 hlt
    have hld2 : int (xs.getD at_ 0) = (xs.map int).getD ((at_ : Int) + 1 - 1).toNat (.sc undef) := by rw [show ((at_ : Int) + 1 - 1).toNat = at_ by omega]; exact hld
    generalize xs.getD at_ 0 = x at hld hld2 ⊢
    have hM := Mod_f x most hm
    ((repeat ((conv => whnf); (first | (refine LetN.pre ?_; first | ((conv => arg 1; whnf); refine LetN.mk ?_)) | (refine As.pre ?_; first | refine As.mk rfl ?_ | (refine As.mk ?_ ?_; · ((repeat' (refine andT ?_ ?_)) <;> (first | rfl | assumption | exact decide_eq_true (by omega) | exact decide_eq_true (by dsimp only; omega) | exact decide_eq_true (by simp; omega) | (simp; done))))) | (refine LetV.pre ?_; first | refine LetV.mk (t := 26) _ hld2 ?_ | refine LetV.mk (.sc (.int _ _)) rfl ?_ | refine LetV.mk (.ro _ _ _) rfl ?_) | (refine LetI.pre ?_; first | refine LetI.wrap (by omega) (by omega) ?_ | refine LetI.mk _ rfl ?_) | (refine LetB.pre ?_; first | refine LetB.decf (by omega) ?_) | (refine Br.pre ?_; first | refine Br.ff rfl ?_) | (refine Ck.pre ?_; first | refine Ck.drawn (by kernel_rfl) ?_ | refine Ck.mk rfl ?_) | (refine LetL.pre ?_; first | refine LetL.mk [_] rfl ?_) | (refine CallN.pre ?_; first | refine CallN.pure hM rfl rfl ?_)))); (try (conv => whnf)))



    exact ⟨.inl rfl, ⟨_, rfl, rfl⟩, rfl, trivial⟩
  · rw [if_neg hlt, if_neg hlt]
    ((repeat ((conv => whnf); (first | (refine As.pre ?_; first | refine As.mk rfl ?_) | (refine LetV.pre ?_; first | refine LetV.mk (.sc (.int _ _)) rfl ?_ | refine LetV.mk (.ro _ _ _) rfl ?_) | (refine LetI.pre ?_; first | refine LetI.mk _ rfl ?_) | (refine LetB.pre ?_; first | refine LetB.dect (by omega) ?_) | (refine Br.pre ?_; first | refine Br.tt rfl ?_) | (refine Ck.pre ?_; first | refine Ck.drawn (by kernel_rfl) ?_ | refine Ck.mk rfl ?_)))); (try (conv => whnf)))
    exact ⟨.inl rfl, ⟨_, rfl, rfl⟩, rfl, trivial⟩
theorem AFun.of_SE {P : Program} {T : TT} (hT : T.Ok P) {p : Nat} (hm : P.follows .mixedOrders = true) {f : FuncId} {fn : Func} {c : Code} {vs : List AV} {H : AH} {α : Type} {I : α → Prop} {v : α → AV} {H' : α → AH} (hf : P.funcs[f]? = some fn) (hb : fn.body = some c) (hn : vs.length ≤ fn.ntmps) (hB : H.all (fun x => decide (x.1 < p)) = true)
    (h : V P T p fn.ntmps c ⟨argFr vs 0, H, p⟩ (fun e s => ∃ x, I x ∧ FinS T fn p (v x) (H' x) e s)) : ∃ x, I x ∧ AFun P f p vs H (v x) (H' x) := by
  obtain ⟨e, s', h1, _, x, hI, s2, hw, he, ⟨rv, hr, hv⟩, hH⟩ := V_sound hT hm c _ _ h (HB.of_all hB)
  exact ⟨x, hI, (AFun.of_body hT hf hb hn he (h1.post hw) hr hv rfl).forget hH.get⟩
theorem made_next (fl : Fl) (xs : List Int) (hl : xs.length ≤ 9223372036854775807) (at_ : Nat) (most : Int) (ha : at_ ≤ xs.length) (hm : 0 < most ∧ most ≤ 1000000) : ∃ v a, (0 ≤ v ∧ v < most) ∧ a ≤ xs.length ∧
    AFun Try.prog 28 1 [.ptr 0 2 0 0, int most] [(0, drawB fl xs at_)] (int v) [(0, drawB fl xs a)] :=
  ⟨_, _, dv_range xs at_ hm.1, da_le ha, Next_f fl xs at_ most hl ha hm⟩
theorem made_next1 (fl : Fl) (xs : List Int) (hl : xs.length ≤ 9223372036854775807) (at_ : Nat) (most : Int) (ha : at_ ≤ xs.length) (hm : 0 < most ∧ most ≤ 1000000) : ∃ v a, (0 ≤ v ∧ v < most) ∧ a ≤ xs.length ∧
    AFun Try.prog 37 1 [.ptr 0 2 0 0, int most] [(0, drawB1 fl xs at_)] (int v) [(0, drawB1 fl xs a)] :=
  ⟨_, _, dv_range xs at_ hm.1, da_le ha, Next1_f fl xs at_ most hl ha hm⟩
/-! ### A course -/
theorem okCode2 {a b : UInt8} (h : ∀ i, i < 2 → wrongR (byt ⟨#[a, b]⟩ i) = false) : okCode ⟨#[a, b]⟩ := ⟨⟨by show (1 : Nat) ≤ 2; omega, by show (2 : Nat) ≤ 8; omega⟩, h⟩
theorem codes_get (n : Int) (h : 0 ≤ n ∧ n < 6) : ∃ s : ByteArray, okCode s ∧ str s = ([str ⟨#[65, 49]⟩, str ⟨#[66, 49]⟩, str ⟨#[66, 50]⟩, str ⟨#[67, 49]⟩, str ⟨#[68, 49]⟩, str ⟨#[69, 57]⟩] : List AV).getD n.toNat (.sc undef) := by
  obtain ⟨m, rfl⟩ : ∃ m : Nat, n = m := ⟨n.toNat, by omega⟩
  have : m = 0 ∨ m = 1 ∨ m = 2 ∨ m = 3 ∨ m = 4 ∨ m = 5 := by omega
  rcases this with rfl | rfl | rfl | rfl | rfl | rfl <;> exact ⟨_, okCode2 (by decide), rfl⟩
theorem school_get (n : Int) (h : 0 ≤ n ∧ n < 6) : ∃ c : Int, (1 ≤ c ∧ c ≤ 8) ∧ int c = ([int 1, int 1, int 1, int 2, int 2, int 3] : List AV).getD n.toNat (.sc undef) := by
  obtain ⟨m, rfl⟩ : ∃ m : Nat, n = m := ⟨n.toNat, by omega⟩
  have : m = 0 ∨ m = 1 ∨ m = 2 ∨ m = 3 ∨ m = 4 ∨ m = 5 := by omega
  rcases this with rfl | rfl | rfl | rfl | rfl | rfl <;> exact ⟨_, by decide, rfl⟩
theorem course_f (fl : Fl) (xs : List Int) (hl : xs.length ≤ 9223372036854775807) (at_ : Nat) (ha : at_ ≤ xs.length) : ∃ c a, okC c ∧ a ≤ xs.length ∧
    AFun Try.prog 29 1 [.ptr 0 2 0 0] [(0, drawB fl xs at_)] (coA c) [(0, drawB fl xs a)] := by
  obtain ⟨v1, a1, r1, q1, N1⟩ := made_next fl xs hl at_ 6 ha (by omega)
  obtain ⟨v2, a2, r2, q2, N2⟩ := made_next fl xs hl a1 6 q1 (by omega)
  obtain ⟨sc, h1, k1⟩ := school_get v1 r1
  obtain ⟨cd, h2, k2⟩ := codes_get v2 r2
  refine ⟨(sc, cd), a2, ⟨h1, h2⟩, q2, ?_⟩
  have hC : AFun Try.prog 48 0 [] [] (.ro ⟨true, true⟩ 1 [str ⟨#[65, 49]⟩, str ⟨#[66, 49]⟩, str ⟨#[66, 50]⟩, str ⟨#[67, 49]⟩, str ⟨#[68, 49]⟩, str ⟨#[69, 57]⟩]) [] := Codes_f
  refine AFun.of_W T_ok mixed Try.func29 rfl (Nat.le_of_ble_eq_true rfl) rfl ?_
  ((repeat ((conv => whnf); (first | (refine LetN.pre ?_; first | ((conv => arg 1; whnf); refine LetN.mk ?_)) | (refine As.pre ?_; first | refine As.mk rfl ?_ | (refine As.mk ?_ ?_; · ((repeat' (refine andT ?_ ?_)) <;> (first | rfl | assumption | exact decide_eq_true (by omega) | exact decide_eq_true (by dsimp only; omega) | exact decide_eq_true (by simp; omega) | (simp; done))))) | (refine LetV.pre ?_; first | refine LetV.mk (t := 26) _ k1 ?_ | refine LetV.mk (t := 75) _ k2 ?_ | refine LetV.mk (.sc (.int _ _)) rfl ?_ | refine LetV.mk (.sc _) rfl ?_) | (refine LetI.pre ?_; first | refine LetI.mk _ rfl ?_) | (refine Ck.pre ?_; first | refine Ck.mk rfl ?_) | (refine LetL.pre ?_; first | refine LetL.mk [_] rfl ?_) | (refine CallN.pre ?_; first | refine CallN.pure hC rfl rfl ?_ | refine CallN.own (fun _ => 0) N1 (CallOk.mk' rfl rfl rfl (namesAll.row rfl rfl) rfl (namesAll.row rfl rfl) (haveAll.row rfl rfl trivial)) ?_ | refine CallN.own (fun _ => 0) N2 (CallOk.mk' rfl rfl rfl (namesAll.row rfl rfl) rfl (namesAll.row rfl rfl) (haveAll.row rfl rfl trivial)) ?_)))); (try (conv => whnf)))





  exact ⟨.inl rfl, ⟨_, rfl, rfl⟩, rfl, trivial⟩
end Pb
end Go.Proofs.Ytjnmbmdplchfkaa
namespace Go.Proofs.Ytjnmbmdplchfkaa
open Go.Proofs.Ytjnmbmdplchfkaa.Am
set_option maxRecDepth 100000
namespace Pb
/-! ### A set of courses -/
theorem frzD {f : FuncId} {vs : List AV} {H0 : AH} {fl fl' : Fl} {xs : List Int} {a E len : Nat} {ty : TypeId} {es : List AV} (h : AFun Try.prog f 1 vs H0 (.slm fl' 1 E 0 len) [(0, drawB fl xs a), (1, .row E ty es)]) (hp : AV.namesL (fun _ => false) es = true) (hl : len = es.length) : AFun Try.prog f 1 vs H0 (.ro fl' E es) [(0, drawB fl xs a)] :=
  (AFun.frz [1] h (by show (AV.namesL (fun _ => false) es && true) = true; rw [hp]; rfl) rfl (frz_slm rfl rfl hl).2).cast (frz_slm rfl rfl hl).1 rfl
/-- Courses in order. -/
def ordS : List Co → Prop
  | [] => True
  | [_] => True
  | a :: b :: l => prec a b = true ∧ ordS (b :: l)
theorem ordS_at : ∀ (s : List Co), ordS s → ∀ i, i + 1 < s.length → prec (s.getD i (0, ⟨#[]⟩)) (s.getD (i + 1) (0, ⟨#[]⟩)) = true
  | [], _, i, h => by simp at h
  | [_], _, i, h => by simp at h
  | a :: b :: l, hs, 0, _ => hs.1
  | a :: b :: l, hs, i + 1, h => ordS_at (b :: l) hs.2 i (by simpa using h)
theorem less_tot : ∀ a b : List UInt8, a ≠ b → Op.bytesLess a b = false → Op.bytesLess b a = true
  | [], [], h, _ => absurd rfl h
  | _ :: _, [], _, _ => rfl
  | [], _ :: _, _, h => by cases h
  | x :: xs, y :: ys, hn, h => by
    replace h : (decide (x < y) || (x == y && Op.bytesLess xs ys)) = false := h
    show (decide (y < x) || (y == x && Op.bytesLess ys xs)) = true
    rw [Bool.or_eq_false_iff, decide_eq_false_iff_not] at h
    by_cases h2 : y < x
    · rw [decide_eq_true h2]; rfl
    · have e : x = y := UInt8.toNat_inj.1 (by have := mt UInt8.lt_iff_toNat_lt.2 h.1; have := mt UInt8.lt_iff_toNat_lt.2 h2; omega)
      subst e
      have h3 : Op.bytesLess xs ys = false := by have := h.2; simpa using this
      rw [less_tot xs ys (fun e => hn (by rw [e])) h3]; simp
theorem ltB_tot {a b : ByteArray} (h : a.toList ≠ b.toList) (h2 : ltB a b = false) : ltB b a = true := less_tot _ _ h h2
theorem prec_tot {a b : Co} (h : prec a b = false) (hn : a ≠ b) : prec b a = true := by
  obtain ⟨a1, a2⟩ := a
  obtain ⟨b1, b2⟩ := b
  unfold prec at h ⊢
  dsimp only at h ⊢
  rw [Bool.or_eq_false_iff, decide_eq_false_iff_not] at h
  by_cases h1 : b1 < a1
  · rw [decide_eq_true h1]; rfl
  · have e : a1 = b1 := by have := h.1; omega
    subst e
    have h3 : ltB a2 b2 = false := by have := h.2; simpa using this
    have h4 : a2.toList ≠ b2.toList := fun e => hn (by
      have : a2 = b2 := by
        have e' := @str_eq a2 b2
        rw [beq_iff_eq.2 e] at e'
        exact of_decide_eq_true e'.symm
      rw [this])
    rw [ltB_tot h4 h3]; simp
theorem stN (q : Nat) (fl : Fl) (xs : List Int) (a : Nat) (out : List Co) (ok : Nat → Bool) : namesAll ok [(0, drawB fl xs a), (q, .row 2 cty (out.map coA))] = true := namesAll.row rfl (namesAll.row (pure_co _) rfl)
abbrev stS (fl : Fl) (xs : List Int) (many : Int) : Nat × Nat × List Co → AS
  | (k, at_, out) => ⟨[(0, .ptr 0 2 0 0), (3, int many), (4, .slm {} 1 2 0 out.length), (5, int k)], [(0, drawB fl xs at_), (1, .row 2 cty (out.map coA))], 2⟩
theorem room_co {n : Nat} (h : n ≤ 1000000) : room n 24 = true := by
  simp only [room, Bool.and_eq_true, decide_eq_true_eq]
  exact ⟨by omega, rfl⟩
theorem eq_tt {a b : Co} (h : a = b) : true = (a.1 == b.1 && (a.2.toList == b.2.toList && true)) := by subst h; simp
theorem eq_ff {a b : Co} (h : a ≠ b) : false = (a.1 == b.1 && (a.2.toList == b.2.toList && true)) := by rw [co_eq, decide_eq_false h]
set_option maxHeartbeats 6400000 in
set_option maxRecDepth 100000 in
theorem set_s (fl : Fl) (xs : List Int) (hx : xs.length ≤ 9223372036854775807) (at_ : Nat) (ha : at_ ≤ xs.length) : ∃ x : List Co × Nat, ((1 ≤ x.1.length ∧ x.1.length ≤ 3) ∧ (∀ c ∈ x.1, okC c) ∧ ordS x.1 ∧ x.2 ≤ xs.length) ∧
    AFun Try.prog 49 1 [.ptr 0 2 0 0] [(0, drawB fl xs at_)] (.slm {} 1 2 0 x.1.length) [(0, drawB fl xs x.2), (1, .row 2 cty (x.1.map coA))] := by
  refine AFun.of_SE (p := 1) (H := [(0, drawB fl xs at_)]) T_ok mixed (v := fun x : List Co × Nat => .slm {} 1 2 0 x.1.length) (H' := fun x : List Co × Nat => [(0, drawB fl xs x.2), (1, .row 2 cty (x.1.map coA))]) Try.func49 rfl (Nat.le_of_ble_eq_true rfl) rfl ?_
  obtain ⟨v1, a1, r1, q1, N1⟩ := made_next fl xs hx at_ 3 ha (by omega)
  ((repeat ((conv => whnf); (first | (refine LetN.pre ?_; first | ((conv => arg 1; whnf); refine LetN.mk ?_)) | (refine As.pre ?_; first | refine As.mk rfl ?_) | (refine LetI.pre ?_; first | refine LetI.wrap (by omega) (by omega) ?_) | (refine Ck.pre ?_; first | refine Ck.mk rfl ?_) | (refine LetL.pre ?_; first | refine LetL.mk [_] rfl ?_) | (refine CallN.pre ?_; first | refine CallN.own (fun _ => 0) N1 (CallOk.mk' rfl rfl rfl (namesAll.row rfl rfl) rfl (namesAll.row rfl rfl) (haveAll.row rfl rfl trivial)) ?_)))); (try (conv => whnf)))

  refine LoopN.weak (s1 := stS fl xs (1 + v1) (0, a1, [])) ?sw1 ?_
  case sw1 => exact SW.mk id rfl rfl (stN _ _ _ _ _ _) ⟨.refl _, .refl _, VLe2.nilslm, .refl _, trivial⟩ (haveV.row rfl rfl (haveV.nil (Nat.le_of_ble_eq_true rfl) trivial))
  refine LoopN.ind T_ok mixed (S := stS fl xs (1 + v1)) (fun i => 24 - i.1) (fun i => ((i.1 : Int) ≤ 1 + v1 ∧ i.2.1 ≤ xs.length) ∧ (i.2.2.length ≤ i.1 ∧ (0 < i.1 → 1 ≤ i.2.2.length)) ∧ (∀ c ∈ i.2.2, okC c) ∧ ordS i.2.2) (fun _ => rfl) (fun i hi ih => ?_) (0, a1, []) ⟨⟨by show (0 : Int) ≤ 1 + v1; omega, q1⟩, ⟨Nat.le_refl _, fun h => absurd h (Nat.lt_irrefl _)⟩, ⟨fun c h => absurd h List.not_mem_nil, trivial⟩⟩
  clear N1 q1 a1 ha at_
  obtain ⟨k, at_, out⟩ := i
  obtain ⟨⟨h1, h2⟩, ⟨h3, h4⟩, h5, h6⟩ := hi
  dsimp only at h1 h2 h3 h4 h5 h6
  by_cases hlt : (k : Int) < 1 + v1
  case neg =>
    clear ih
    ((repeat ((conv => whnf); (first | (refine As.pre ?_; first | refine As.mk rfl ?_) | (refine LetB.pre ?_; first | refine LetB.decf (by omega) ?_) | (refine Br.pre ?_; first | refine Br.ff rfl ?_) | (refine Ck.pre ?_; first | refine Ck.mk rfl ?_)))); (try (conv => whnf)))
    exact ⟨(out, at_), ⟨⟨by show 1 ≤ out.length; exact h4 (by omega), by show out.length ≤ 3; omega⟩, h5, h6, h2⟩, ⟨[(2, .slm {} 1 2 0 out.length)], [(0, drawB fl xs at_), (1, .row 2 cty (out.map coA))], 2⟩, SW.mk id rfl rfl (stN _ _ _ _ _ _) ⟨.refl _, trivial⟩ (haveV.row rfl rfl (haveV.row (pure_co _) rfl trivial)), .inl rfl, ⟨_, rfl, rfl⟩, rfl, rfl, trivial⟩
  obtain ⟨c, a2, oc, q2, N2⟩ := course_f fl xs hx at_ h2
  have hnx : ∀ out' : List Co, (1 ≤ out'.length ∧ out'.length ≤ k + 1) → (∀ c ∈ out', okC c) → ordS out' → LoopN _ _ _ _ _ _ := fun out' e1 e2 e3 => ih (k + 1, a2, out') ⟨⟨by show ((k + 1 : Nat) : Int) ≤ _; omega, q2⟩, ⟨e1.2, fun _ => e1.1⟩, e2, e3⟩ (by show 24 - (k + 1) < 24 - k; omega)
  clear ih
  have hr := room_co (n := out.length + 1) (by omega)
-- BODY
  match out, h3, h4, h5, h6, hr with
  | [], h3, h4, h5, h6, hr =>
    ((repeat ((conv => whnf); (first | (refine LetN.pre ?_; first | ((conv => arg 1; whnf); refine LetN.mk ?_)) | (refine As.pre ?_; first | refine As.mk rfl ?_) | (refine LetB.pre ?_; first | refine LetB.dect (by omega) ?_) | (refine Br.pre ?_; first | refine Br.tt rfl ?_) | (refine Ck.pre ?_; first | refine Ck.mk rfl ?_) | (refine LetL.pre ?_; first | refine LetL.mk [_] rfl ?_) | (refine CallN.pre ?_; first | refine CallN.own (fun _ => 0) N2 (CallOk.mk' rfl rfl rfl (namesAll.row rfl rfl) rfl (namesAll.row rfl rfl) (haveAll.row rfl rfl trivial)) ?_)))); (try (conv => whnf)))

    refine LoopN.round T_ok mixed rfl ?_
    ((repeat ((conv => whnf); (first | (refine LetN.pre ?_; first | ((conv => arg 1; whnf); refine LetN.mk ?_)) | (refine As.pre ?_; first | refine As.mk rfl ?_) | (refine LetV.pre ?_; first | refine LetV.mk (.agg _) rfl ?_ | refine LetV.mk (.slm _ _ _ _ _) rfl ?_) | (refine LetI.pre ?_; first | refine LetI.wrap (by omega) (by omega) ?_ | refine LetI.mk _ rfl ?_) | (refine LetB.pre ?_; first | refine LetB.ff rfl ?_) | (refine Gd.pre ?_; first | refine Gd.pass rfl ?_) | (refine Br.pre ?_; first | refine Br.ff rfl ?_) | (refine Ck.pre ?_; first | refine Ck.drawn (by kernel_rfl) ?_ | refine Ck.mk rfl ?_) | (refine LetL.pre ?_; first | refine LetL.mk [_] rfl ?_)))); (try (conv => whnf)))

    refine LoopN.weak ?sw_1 (hnx [c] ⟨Nat.le_refl _, Nat.succ_le_succ (Nat.zero_le _)⟩ (by intro x hx; simp only [List.mem_cons, List.not_mem_nil, or_false] at hx; rcases hx with rfl <;> first | exact oc | exact h5 _ (by simp)) (by exact trivial))
    case sw_1 => exact SW.mk (fun i => match i with | 1 => 3 | i => i) rfl rfl (stN _ _ _ _ _ _) ⟨.refl _, .refl _, VLe2.slm_of rfl, VLe2.int (by omega), trivial⟩ (haveV.row rfl rfl (haveV.row (pure_co _) rfl trivial))
  | [a], h3, h4, h5, h6, hr =>
    have p1 := rPrecedes_f a c
    cases e1 : prec a c with
    | true =>
      rw [e1] at p1
      ((repeat ((conv => whnf); (first | (refine LetN.pre ?_; first | ((conv => arg 1; whnf); refine LetN.mk ?_)) | (refine As.pre ?_; first | refine As.mk rfl ?_) | (refine LetB.pre ?_; first | refine LetB.dect (by omega) ?_) | (refine Br.pre ?_; first | refine Br.tt rfl ?_) | (refine Ck.pre ?_; first | refine Ck.mk rfl ?_) | (refine LetL.pre ?_; first | refine LetL.mk [_] rfl ?_) | (refine CallN.pre ?_; first | refine CallN.own (fun _ => 0) N2 (CallOk.mk' rfl rfl rfl (namesAll.row rfl rfl) rfl (namesAll.row rfl rfl) (haveAll.row rfl rfl trivial)) ?_)))); (try (conv => whnf)))


      refine LoopN.round T_ok mixed rfl ?_
      ((repeat ((conv => whnf); (first | (refine As.pre ?_; first | refine As.mk rfl ?_) | (refine LetV.pre ?_; first | refine LetV.mk (.agg _) rfl ?_) | (refine LetI.pre ?_; first | refine LetI.wrap (by omega) (by omega) ?_ | refine LetI.mk _ rfl ?_) | (refine LetB.pre ?_; first | refine LetB.tt rfl ?_) | (refine Gd.pre ?_; first | refine Gd.run rfl ?_) | (refine Br.pre ?_; first | refine Br.tt rfl ?_) | (refine Ck.pre ?_; first | refine Ck.drawn (by kernel_rfl) ?_ | refine Ck.mk rfl ?_) | (refine CallN.pre ?_; first | refine CallN.pure p1 rfl rfl ?_)))); (try (conv => whnf)))


      refine LoopN.round T_ok mixed rfl ?_
      ((repeat ((conv => whnf); (first | (refine LetN.pre ?_; first | ((conv => arg 1; whnf); refine LetN.mk ?_)) | (refine As.pre ?_; first | refine As.mk rfl ?_) | (refine LetV.pre ?_; first | refine LetV.mk (.agg _) rfl ?_ | refine LetV.mk (.slm _ _ _ _ _) rfl ?_) | (refine LetI.pre ?_; first | refine LetI.wrap (by omega) (by omega) ?_ | refine LetI.mk _ rfl ?_) | (refine LetB.pre ?_; first | refine LetB.ff rfl ?_) | (refine Gd.pre ?_; first | refine Gd.pass rfl ?_) | (refine Br.pre ?_; first | refine Br.ff rfl ?_) | (refine Ck.pre ?_; first | refine Ck.drawn (by kernel_rfl) ?_ | refine Ck.mk rfl ?_) | (refine LetL.pre ?_; first | refine LetL.mk _ rfl ?_)))); (try (conv => whnf)))


      refine LoopN.weak ?sw_2 (hnx [a, c] ⟨by show 1 ≤ 2; omega, by show 2 ≤ k + 1; have : 1 ≤ k := h3; omega⟩ (by intro x hx; simp only [List.mem_cons, List.not_mem_nil, or_false] at hx; rcases hx with rfl | rfl <;> first | exact oc | exact h5 _ (by simp)) (by exact ⟨e1, trivial⟩))
      case sw_2 => exact SW.mk (fun i => match i with | 1 => 3 | i => i) rfl rfl (stN _ _ _ _ _ _) ⟨.refl _, .refl _, VLe2.slm_of rfl, VLe2.int (by omega), trivial⟩ (haveV.row rfl rfl (haveV.row (pure_co _) rfl trivial))
    | false =>
      rw [e1] at p1
      by_cases e2 : a = c
      · have hkb := eq_tt e2
        ((repeat ((conv => whnf); (first | (refine LetN.pre ?_; first | ((conv => arg 1; whnf); refine LetN.mk ?_)) | (refine As.pre ?_; first | refine As.mk rfl ?_) | (refine LetB.pre ?_; first | refine LetB.dect (by omega) ?_) | (refine Br.pre ?_; first | refine Br.tt rfl ?_) | (refine Ck.pre ?_; first | refine Ck.mk rfl ?_) | (refine LetL.pre ?_; first | refine LetL.mk [_] rfl ?_) | (refine CallN.pre ?_; first | refine CallN.own (fun _ => 0) N2 (CallOk.mk' rfl rfl rfl (namesAll.row rfl rfl) rfl (namesAll.row rfl rfl) (haveAll.row rfl rfl trivial)) ?_)))); (try (conv => whnf)))



        refine LoopN.round T_ok mixed rfl ?_
        ((repeat ((conv => whnf); (first | (refine As.pre ?_; first | refine As.mk rfl ?_) | (refine LetV.pre ?_; first | refine LetV.mk (.agg _) rfl ?_) | (refine LetI.pre ?_; first | refine LetI.wrap (by omega) (by omega) ?_ | refine LetI.mk _ rfl ?_) | (refine LetB.pre ?_; first | refine LetB.tt rfl ?_ | refine LetB.mk (o := some .eql) _ hkb ?_) | (refine Gd.pre ?_; first | refine Gd.run rfl ?_) | (refine Br.pre ?_; first | refine Br.tt rfl ?_ | refine Br.ff rfl ?_) | (refine Ck.pre ?_; first | refine Ck.drawn (by kernel_rfl) ?_ | refine Ck.mk rfl ?_) | (refine CallN.pre ?_; first | refine CallN.pure p1 rfl rfl ?_)))); (try (conv => whnf)))



        refine LoopN.weak ?sw_3 (hnx [a] ⟨Nat.le_refl _, Nat.succ_le_succ (Nat.zero_le _)⟩ (by exact h5) (by exact trivial))
        case sw_3 => exact SW.mk id rfl rfl (stN _ _ _ _ _ _) ⟨.refl _, .refl _, VLe2.slm_of rfl, VLe2.int (by omega), trivial⟩ (haveV.row rfl rfl (haveV.row (pure_co _) rfl trivial))
      · have hkb := eq_ff e2
        have e3 := prec_tot e1 e2
        ((repeat ((conv => whnf); (first | (refine LetN.pre ?_; first | ((conv => arg 1; whnf); refine LetN.mk ?_)) | (refine As.pre ?_; first | refine As.mk rfl ?_) | (refine LetB.pre ?_; first | refine LetB.dect (by omega) ?_) | (refine Br.pre ?_; first | refine Br.tt rfl ?_) | (refine Ck.pre ?_; first | refine Ck.mk rfl ?_) | (refine LetL.pre ?_; first | refine LetL.mk [_] rfl ?_) | (refine CallN.pre ?_; first | refine CallN.own (fun _ => 0) N2 (CallOk.mk' rfl rfl rfl (namesAll.row rfl rfl) rfl (namesAll.row rfl rfl) (haveAll.row rfl rfl trivial)) ?_)))); (try (conv => whnf)))



        refine LoopN.round T_ok mixed rfl ?_
        ((repeat ((conv => whnf); (first | (refine LetN.pre ?_; first | ((conv => arg 1; whnf); refine LetN.mk ?_)) | (refine As.pre ?_; first | refine As.mk rfl ?_) | (refine LetV.pre ?_; first | refine LetV.mk (.agg _) rfl ?_ | refine LetV.mk (.slm _ _ _ _ _) rfl ?_) | (refine LetI.pre ?_; first | refine LetI.wrap (by omega) (by omega) ?_ | refine LetI.mk _ rfl ?_) | (refine LetB.pre ?_; first | refine LetB.tt rfl ?_ | refine LetB.mk (o := some .eql) _ hkb ?_) | (refine Gd.pre ?_; first | refine Gd.run rfl ?_) | (refine Br.pre ?_; first | refine Br.ff rfl ?_) | (refine Ck.pre ?_; first | refine Ck.drawn (by kernel_rfl) ?_ | refine Ck.mk rfl ?_) | (refine LetL.pre ?_; first | refine LetL.mk _ rfl ?_) | (refine CallN.pre ?_; first | refine CallN.pure p1 rfl rfl ?_)))); (try (conv => whnf)))



        refine LoopN.weak ?sw_4 (hnx [c, a] ⟨by show 1 ≤ 2; omega, by show 2 ≤ k + 1; have : 1 ≤ k := h3; omega⟩ (by intro x hx; simp only [List.mem_cons, List.not_mem_nil, or_false] at hx; rcases hx with rfl | rfl <;> first | exact oc | exact h5 _ (by simp)) (by exact ⟨e3, trivial⟩))
        case sw_4 => exact SW.mk (fun i => match i with | 1 => 3 | i => i) rfl rfl (stN _ _ _ _ _ _) ⟨.refl _, .refl _, VLe2.slm_of rfl, VLe2.int (by omega), trivial⟩ (haveV.row rfl rfl (haveV.row (pure_co _) rfl trivial))
  | [a, b], h3, h4, h5, h6, hr =>
    have p1 := rPrecedes_f a c
    have p2 := rPrecedes_f b c
    cases e1 : prec a c with
    | false =>
      rw [e1] at p1
      by_cases e2 : a = c
      · have hkb := eq_tt e2
        ((repeat ((conv => whnf); (first | (refine LetN.pre ?_; first | ((conv => arg 1; whnf); refine LetN.mk ?_)) | (refine As.pre ?_; first | refine As.mk rfl ?_) | (refine LetB.pre ?_; first | refine LetB.dect (by omega) ?_) | (refine Br.pre ?_; first | refine Br.tt rfl ?_) | (refine Ck.pre ?_; first | refine Ck.mk rfl ?_) | (refine LetL.pre ?_; first | refine LetL.mk [_] rfl ?_) | (refine CallN.pre ?_; first | refine CallN.own (fun _ => 0) N2 (CallOk.mk' rfl rfl rfl (namesAll.row rfl rfl) rfl (namesAll.row rfl rfl) (haveAll.row rfl rfl trivial)) ?_)))); (try (conv => whnf)))



        refine LoopN.round T_ok mixed rfl ?_
        ((repeat ((conv => whnf); (first | (refine As.pre ?_; first | refine As.mk rfl ?_) | (refine LetV.pre ?_; first | refine LetV.mk (.agg _) rfl ?_) | (refine LetI.pre ?_; first | refine LetI.wrap (by omega) (by omega) ?_ | refine LetI.mk _ rfl ?_) | (refine LetB.pre ?_; first | refine LetB.tt rfl ?_ | refine LetB.mk (o := some .eql) _ hkb ?_) | (refine Gd.pre ?_; first | refine Gd.run rfl ?_) | (refine Br.pre ?_; first | refine Br.tt rfl ?_ | refine Br.ff rfl ?_) | (refine Ck.pre ?_; first | refine Ck.drawn (by kernel_rfl) ?_ | refine Ck.mk rfl ?_) | (refine CallN.pre ?_; first | refine CallN.pure p1 rfl rfl ?_)))); (try (conv => whnf)))



        refine LoopN.weak ?sw_5 (hnx [a, b] ⟨by show 1 ≤ 2; omega, by show 2 ≤ k + 1; have : 2 ≤ k := h3; omega⟩ (by exact h5) (by exact h6))
        case sw_5 => exact SW.mk id rfl rfl (stN _ _ _ _ _ _) ⟨.refl _, .refl _, VLe2.slm_of rfl, VLe2.int (by omega), trivial⟩ (haveV.row rfl rfl (haveV.row (pure_co _) rfl trivial))
      · have hkb := eq_ff e2
        have e3 := prec_tot e1 e2
        ((repeat ((conv => whnf); (first | (refine LetN.pre ?_; first | ((conv => arg 1; whnf); refine LetN.mk ?_)) | (refine As.pre ?_; first | refine As.mk rfl ?_) | (refine LetB.pre ?_; first | refine LetB.dect (by omega) ?_) | (refine Br.pre ?_; first | refine Br.tt rfl ?_) | (refine Ck.pre ?_; first | refine Ck.mk rfl ?_) | (refine LetL.pre ?_; first | refine LetL.mk [_] rfl ?_) | (refine CallN.pre ?_; first | refine CallN.own (fun _ => 0) N2 (CallOk.mk' rfl rfl rfl (namesAll.row rfl rfl) rfl (namesAll.row rfl rfl) (haveAll.row rfl rfl trivial)) ?_)))); (try (conv => whnf)))



        refine LoopN.round T_ok mixed rfl ?_
        ((repeat ((conv => whnf); (first | (refine LetN.pre ?_; first | ((conv => arg 1; whnf); refine LetN.mk ?_)) | (refine As.pre ?_; first | refine As.mk rfl ?_) | (refine LetV.pre ?_; first | refine LetV.mk (.agg _) rfl ?_ | refine LetV.mk (.slm _ _ _ _ _) rfl ?_) | (refine LetI.pre ?_; first | refine LetI.wrap (by omega) (by omega) ?_ | refine LetI.mk _ rfl ?_) | (refine LetB.pre ?_; first | refine LetB.tt rfl ?_ | refine LetB.mk (o := some .eql) _ hkb ?_) | (refine Gd.pre ?_; first | refine Gd.run rfl ?_) | (refine Br.pre ?_; first | refine Br.ff rfl ?_) | (refine Ck.pre ?_; first | refine Ck.drawn (by kernel_rfl) ?_ | refine Ck.mk rfl ?_) | (refine LetL.pre ?_; first | refine LetL.mk _ rfl ?_) | (refine CallN.pre ?_; first | refine CallN.pure p1 rfl rfl ?_)))); (try (conv => whnf)))



        refine LoopN.weak ?sw_6 (hnx [c, a, b] ⟨by show 1 ≤ 3; omega, by show 3 ≤ k + 1; have : 2 ≤ k := h3; omega⟩ (by intro x hx; simp only [List.mem_cons, List.not_mem_nil, or_false] at hx; rcases hx with rfl | rfl | rfl <;> first | exact oc | exact h5 _ (by simp)) (by exact ⟨e3, h6⟩))
        case sw_6 => exact SW.mk (fun i => match i with | 1 => 3 | i => i) rfl rfl (stN _ _ _ _ _ _) ⟨.refl _, .refl _, VLe2.slm_of rfl, VLe2.int (by omega), trivial⟩ (haveV.row rfl rfl (haveV.row (pure_co _) rfl trivial))
    | true =>
      rw [e1] at p1
      cases e4 : prec b c with
      | true =>
        rw [e4] at p2
        ((repeat ((conv => whnf); (first | (refine LetN.pre ?_; first | ((conv => arg 1; whnf); refine LetN.mk ?_)) | (refine As.pre ?_; first | refine As.mk rfl ?_) | (refine LetB.pre ?_; first | refine LetB.dect (by omega) ?_) | (refine Br.pre ?_; first | refine Br.tt rfl ?_) | (refine Ck.pre ?_; first | refine Ck.mk rfl ?_) | (refine LetL.pre ?_; first | refine LetL.mk [_] rfl ?_) | (refine CallN.pre ?_; first | refine CallN.own (fun _ => 0) N2 (CallOk.mk' rfl rfl rfl (namesAll.row rfl rfl) rfl (namesAll.row rfl rfl) (haveAll.row rfl rfl trivial)) ?_)))); (try (conv => whnf)))



        refine LoopN.round T_ok mixed rfl ?_
        ((repeat ((conv => whnf); (first | (refine As.pre ?_; first | refine As.mk rfl ?_) | (refine LetV.pre ?_; first | refine LetV.mk (.agg _) rfl ?_) | (refine LetI.pre ?_; first | refine LetI.wrap (by omega) (by omega) ?_ | refine LetI.mk _ rfl ?_) | (refine LetB.pre ?_; first | refine LetB.tt rfl ?_) | (refine Gd.pre ?_; first | refine Gd.run rfl ?_) | (refine Br.pre ?_; first | refine Br.tt rfl ?_) | (refine Ck.pre ?_; first | refine Ck.drawn (by kernel_rfl) ?_ | refine Ck.mk rfl ?_) | (refine CallN.pre ?_; first | refine CallN.pure p1 rfl rfl ?_)))); (try (conv => whnf)))



        refine LoopN.round T_ok mixed rfl ?_
        ((repeat ((conv => whnf); (first | (refine As.pre ?_; first | refine As.mk rfl ?_) | (refine LetV.pre ?_; first | refine LetV.mk (.agg _) rfl ?_) | (refine LetI.pre ?_; first | refine LetI.wrap (by omega) (by omega) ?_ | refine LetI.mk _ rfl ?_) | (refine LetB.pre ?_; first | refine LetB.tt rfl ?_) | (refine Gd.pre ?_; first | refine Gd.run rfl ?_) | (refine Br.pre ?_; first | refine Br.tt rfl ?_) | (refine Ck.pre ?_; first | refine Ck.drawn (by kernel_rfl) ?_ | refine Ck.mk rfl ?_) | (refine CallN.pre ?_; first | refine CallN.pure p2 rfl rfl ?_)))); (try (conv => whnf)))



        refine LoopN.round T_ok mixed rfl ?_
        ((repeat ((conv => whnf); (first | (refine LetN.pre ?_; first | ((conv => arg 1; whnf); refine LetN.mk ?_)) | (refine As.pre ?_; first | refine As.mk rfl ?_) | (refine LetV.pre ?_; first | refine LetV.mk (.agg _) rfl ?_ | refine LetV.mk (.slm _ _ _ _ _) rfl ?_) | (refine LetI.pre ?_; first | refine LetI.wrap (by omega) (by omega) ?_ | refine LetI.mk _ rfl ?_) | (refine LetB.pre ?_; first | refine LetB.ff rfl ?_) | (refine Gd.pre ?_; first | refine Gd.pass rfl ?_) | (refine Br.pre ?_; first | refine Br.ff rfl ?_) | (refine Ck.pre ?_; first | refine Ck.drawn (by kernel_rfl) ?_ | refine Ck.mk rfl ?_) | (refine LetL.pre ?_; first | refine LetL.mk _ rfl ?_)))); (try (conv => whnf)))



        refine LoopN.weak ?sw_7 (hnx [a, b, c] ⟨by show 1 ≤ 3; omega, by show 3 ≤ k + 1; have : 2 ≤ k := h3; omega⟩ (by intro x hx; simp only [List.mem_cons, List.not_mem_nil, or_false] at hx; rcases hx with rfl | rfl | rfl <;> first | exact oc | exact h5 _ (by simp)) (by exact ⟨h6.1, e4, trivial⟩))
        case sw_7 => exact SW.mk (fun i => match i with | 1 => 3 | i => i) rfl rfl (stN _ _ _ _ _ _) ⟨.refl _, .refl _, VLe2.slm_of rfl, VLe2.int (by omega), trivial⟩ (haveV.row rfl rfl (haveV.row (pure_co _) rfl trivial))
      | false =>
        rw [e4] at p2
        by_cases e2 : b = c
        · have hkb := eq_tt e2
          ((repeat ((conv => whnf); (first | (refine LetN.pre ?_; first | ((conv => arg 1; whnf); refine LetN.mk ?_)) | (refine As.pre ?_; first | refine As.mk rfl ?_) | (refine LetB.pre ?_; first | refine LetB.dect (by omega) ?_) | (refine Br.pre ?_; first | refine Br.tt rfl ?_) | (refine Ck.pre ?_; first | refine Ck.mk rfl ?_) | (refine LetL.pre ?_; first | refine LetL.mk [_] rfl ?_) | (refine CallN.pre ?_; first | refine CallN.own (fun _ => 0) N2 (CallOk.mk' rfl rfl rfl (namesAll.row rfl rfl) rfl (namesAll.row rfl rfl) (haveAll.row rfl rfl trivial)) ?_)))); (try (conv => whnf)))




          refine LoopN.round T_ok mixed rfl ?_
          ((repeat ((conv => whnf); (first | (refine As.pre ?_; first | refine As.mk rfl ?_) | (refine LetV.pre ?_; first | refine LetV.mk (.agg _) rfl ?_) | (refine LetI.pre ?_; first | refine LetI.wrap (by omega) (by omega) ?_ | refine LetI.mk _ rfl ?_) | (refine LetB.pre ?_; first | refine LetB.tt rfl ?_) | (refine Gd.pre ?_; first | refine Gd.run rfl ?_) | (refine Br.pre ?_; first | refine Br.tt rfl ?_) | (refine Ck.pre ?_; first | refine Ck.drawn (by kernel_rfl) ?_ | refine Ck.mk rfl ?_) | (refine CallN.pre ?_; first | refine CallN.pure p1 rfl rfl ?_)))); (try (conv => whnf)))




          refine LoopN.round T_ok mixed rfl ?_
          ((repeat ((conv => whnf); (first | (refine As.pre ?_; first | refine As.mk rfl ?_) | (refine LetV.pre ?_; first | refine LetV.mk (.agg _) rfl ?_) | (refine LetI.pre ?_; first | refine LetI.wrap (by omega) (by omega) ?_ | refine LetI.mk _ rfl ?_) | (refine LetB.pre ?_; first | refine LetB.tt rfl ?_ | refine LetB.mk (o := some .eql) _ hkb ?_) | (refine Gd.pre ?_; first | refine Gd.run rfl ?_) | (refine Br.pre ?_; first | refine Br.tt rfl ?_ | refine Br.ff rfl ?_) | (refine Ck.pre ?_; first | refine Ck.drawn (by kernel_rfl) ?_ | refine Ck.mk rfl ?_) | (refine CallN.pre ?_; first | refine CallN.pure p2 rfl rfl ?_)))); (try (conv => whnf)))




          refine LoopN.weak ?sw_8 (hnx [a, b] ⟨by show 1 ≤ 2; omega, by show 2 ≤ k + 1; have : 2 ≤ k := h3; omega⟩ (by exact h5) (by exact h6))
          case sw_8 => exact SW.mk id rfl rfl (stN _ _ _ _ _ _) ⟨.refl _, .refl _, VLe2.slm_of rfl, VLe2.int (by omega), trivial⟩ (haveV.row rfl rfl (haveV.row (pure_co _) rfl trivial))
        · have hkb := eq_ff e2
          have e3 := prec_tot e4 e2
          ((repeat ((conv => whnf); (first | (refine LetN.pre ?_; first | ((conv => arg 1; whnf); refine LetN.mk ?_)) | (refine As.pre ?_; first | refine As.mk rfl ?_) | (refine LetB.pre ?_; first | refine LetB.dect (by omega) ?_) | (refine Br.pre ?_; first | refine Br.tt rfl ?_) | (refine Ck.pre ?_; first | refine Ck.mk rfl ?_) | (refine LetL.pre ?_; first | refine LetL.mk [_] rfl ?_) | (refine CallN.pre ?_; first | refine CallN.own (fun _ => 0) N2 (CallOk.mk' rfl rfl rfl (namesAll.row rfl rfl) rfl (namesAll.row rfl rfl) (haveAll.row rfl rfl trivial)) ?_)))); (try (conv => whnf)))




          refine LoopN.round T_ok mixed rfl ?_
          ((repeat ((conv => whnf); (first | (refine As.pre ?_; first | refine As.mk rfl ?_) | (refine LetV.pre ?_; first | refine LetV.mk (.agg _) rfl ?_) | (refine LetI.pre ?_; first | refine LetI.wrap (by omega) (by omega) ?_ | refine LetI.mk _ rfl ?_) | (refine LetB.pre ?_; first | refine LetB.tt rfl ?_) | (refine Gd.pre ?_; first | refine Gd.run rfl ?_) | (refine Br.pre ?_; first | refine Br.tt rfl ?_) | (refine Ck.pre ?_; first | refine Ck.drawn (by kernel_rfl) ?_ | refine Ck.mk rfl ?_) | (refine CallN.pre ?_; first | refine CallN.pure p1 rfl rfl ?_)))); (try (conv => whnf)))




          refine LoopN.round T_ok mixed rfl ?_
          ((repeat ((conv => whnf); (first | (refine LetN.pre ?_; first | ((conv => arg 1; whnf); refine LetN.mk ?_)) | (refine As.pre ?_; first | refine As.mk rfl ?_) | (refine LetV.pre ?_; first | refine LetV.mk (.agg _) rfl ?_ | refine LetV.mk (.slm _ _ _ _ _) rfl ?_) | (refine LetI.pre ?_; first | refine LetI.wrap (by omega) (by omega) ?_ | refine LetI.mk _ rfl ?_) | (refine LetB.pre ?_; first | refine LetB.tt rfl ?_ | refine LetB.mk (o := some .eql) _ hkb ?_) | (refine Gd.pre ?_; first | refine Gd.run rfl ?_) | (refine Br.pre ?_; first | refine Br.ff rfl ?_) | (refine Ck.pre ?_; first | refine Ck.drawn (by kernel_rfl) ?_ | refine Ck.mk rfl ?_) | (refine LetL.pre ?_; first | refine LetL.mk _ rfl ?_) | (refine CallN.pre ?_; first | refine CallN.pure p2 rfl rfl ?_)))); (try (conv => whnf)))




          refine LoopN.weak ?sw_9 (hnx [a, c, b] ⟨by show 1 ≤ 3; omega, by show 3 ≤ k + 1; have : 2 ≤ k := h3; omega⟩ (by intro x hx; simp only [List.mem_cons, List.not_mem_nil, or_false] at hx; rcases hx with rfl | rfl | rfl <;> first | exact oc | exact h5 _ (by simp)) (by exact ⟨e1, e3, trivial⟩))
          case sw_9 => exact SW.mk (fun i => match i with | 1 => 3 | i => i) rfl rfl (stN _ _ _ _ _ _) ⟨.refl _, .refl _, VLe2.slm_of rfl, VLe2.int (by omega), trivial⟩ (haveV.row rfl rfl (haveV.row (pure_co _) rfl trivial))
  | a :: b :: c' :: l, h3, h4, h5, h6, hr =>
    exact absurd h3 (by show ¬ (l.length + 1 + 1 + 1 ≤ k); omega)
-- END
end Pb
end Go.Proofs.Ytjnmbmdplchfkaa
namespace Go.Proofs.Ytjnmbmdplchfkaa
open Go.Proofs.Ytjnmbmdplchfkaa.Am
set_option maxRecDepth 100000
namespace Pb
theorem set_f (fl : Fl) (xs : List Int) (hx : xs.length ≤ 9223372036854775807) (at_ : Nat) (ha : at_ ≤ xs.length) : ∃ s a, (∀ m, -1000 ≤ m ∧ m ≤ 1000 → okS m s) ∧ a ≤ xs.length ∧
    AFun Try.prog 49 1 [.ptr 0 2 0 0] [(0, drawB fl xs at_)] (.ro {} 2 (s.map coA)) [(0, drawB fl xs a)] := by
  obtain ⟨⟨s, a⟩, ⟨h1, h2, h3, h4⟩, h⟩ := set_s fl xs hx at_ ha
  dsimp only at h1 h2 h3 h4 h
  exact ⟨s, a, fun m hm => ⟨hm, ⟨h1.1, by omega⟩, h2, ordS_at s h3⟩, h4, frzD h (pure_co s) (by simp)⟩
/-! ### A requirement -/
/-- What is known of a made requirement. -/
structure MN (n : Nat) (lv : Int) (x : Nd) : Prop where
  all : ∀ y ∈ x.nodes, okN y
  h : x.hgt ≤ n + 1
  l1 : 1 ≤ (x.nodes.filter lfN).length
  l2 : ((x.nodes.filter lfN).length : Int) ≤ max 1 lv
  n : (x.nodes.length : Int) ≤ 1 + n * max 1 lv
theorem mx_mul (c lv b : Int) (n : Nat) (hn : n ≤ 3) (h1 : 1 ≤ c ∧ c ≤ 3) (h2 : c ≤ lv) (h3 : c * b ≤ lv) (hb : 0 ≤ b) : c * max 1 b ≤ max 1 lv ∧ 1 + c * (1 + (n : Int) * max 1 b) ≤ 1 + ((n + 1 : Nat) : Int) * max 1 lv := by
  have hc : c = 1 ∨ c = 2 ∨ c = 3 := by omega
  have hn' : n = 0 ∨ n = 1 ∨ n = 2 ∨ n = 3 := by omega
  rcases hc with rfl | rfl | rfl <;> rcases hn' with rfl | rfl | rfl | rfl <;> constructor <;> omega
theorem leaf_cnt (k n m : Int) (s : List Co) (l : List Nd) (h : lfN (.mk k n m s l) = false) : (Nd.nodes (.mk k n m s l)).filter lfN = (Nd.nodesL l).filter lfN := by
  rw [Nd.nodes, List.filter_cons, h]; rfl
theorem MNs {n : Nat} {b : Int} : ∀ {l : List Nd}, (∀ x ∈ l, MN n b x) → (∀ y ∈ Nd.nodesL l, okN y) ∧ Nd.hgtL l ≤ n + 1 ∧ l.length ≤ ((Nd.nodesL l).filter lfN).length ∧ (((Nd.nodesL l).filter lfN).length : Int) ≤ l.length * max 1 b ∧ ((Nd.nodesL l).length : Int) ≤ l.length * (1 + n * max 1 b)
  | [], _ => by
    rw [Nd.nodesL, Nd.hgtL]
    exact ⟨fun y hy => absurd hy List.not_mem_nil, Nat.zero_le _, Nat.le_refl _, by simp, by simp⟩
  | x :: l, h => by
    have hx := h x (List.mem_cons_self ..)
    obtain ⟨a1, a2, a3, a4, a5⟩ := MNs (l := l) (fun y hy => h y (List.mem_cons_of_mem _ hy))
    have h1 := hx.l1
    have h2 := hx.l2
    have h3 := hx.n
    have h4 := hx.h
    rw [Nd.nodesL, Nd.hgtL]
    refine ⟨fun y hy => ?_, by omega, ?_, ?_, ?_⟩
    · rcases List.mem_append.1 hy with e | e
      · exact hx.all y e
      · exact a1 y e
    · rw [List.filter_append, List.length_append, List.length_cons]; omega
    · rw [List.filter_append, List.length_append, List.length_cons, Int.natCast_add, Int.natCast_add, Int.add_mul]
      omega
    · rw [List.length_append, List.length_cons, Int.natCast_add, Int.natCast_add, Int.add_mul]
      omega
mutual
theorem deep_le : ∀ (x : Nd) (d : Nat) (a : Int), x.deep d a ≤ max a (d + x.hgt - 1)
  | .mk k n m s l, d, a => by
    rw [Nd.deep, Nd.hgt]
    have := deepL_le l (d + 1) (max a d)
    omega
theorem deepL_le : ∀ (l : List Nd) (d : Nat) (a : Int), Nd.deepL l d a ≤ max a (d + Nd.hgtL l - 1)
  | [], d, a => by rw [Nd.deepL]; omega
  | x :: l, d, a => by
    rw [Nd.deepL, Nd.hgtL]
    have h1 := deep_le x d a
    have h2 := deepL_le l d (x.deep d a)
    omega
end
theorem MN.wn {n : Nat} {x : Nd} (hn : n ≤ 3) (h : MN n 6 x) : WN x := by
  have h1 := h.n
  have h2 := h.h
  have h3 := deep_le x 1 0
  have h4 := h.l2
  have e : n = 0 ∨ n = 1 ∨ n = 2 ∨ n = 3 := by omega
  refine ⟨h.all, ?_, by omega, by omega, h.l1, by omega⟩
  rcases e with rfl | rfl | rfl | rfl <;> omega
/-- A leaf. -/
theorem MN.leaf {n : Nat} {lv : Int} {k m mm : Int} {s : List Co} (hk : lfN (.mk k m mm s []) = true) (h : okN (.mk k m mm s [])) : MN n lv (.mk k m mm s []) := by
  have e : Nd.nodes (.mk k m mm s []) = [.mk k m mm s []] := by rw [Nd.nodes]; rfl
  refine ⟨?_, ?_, ?_, ?_, ?_⟩
  · rw [e]; intro y hy; rw [List.mem_singleton.1 hy]; exact h
  · rw [Nd.hgt]; show 0 + 1 ≤ n + 1; omega
  · rw [e, List.filter_cons, hk]; exact Nat.le_refl _
  · rw [e, List.filter_cons, hk]; show ((1 : Nat) : Int) ≤ _; omega
  · rw [e]
    show ((1 : Nat) : Int) ≤ 1 + (n : Int) * max 1 lv
    have : 0 ≤ (n : Int) * max 1 lv := Int.mul_nonneg (by omega) (by omega)
    omega
/-- A node with others. -/
theorem MN.node {n : Nat} {lv b : Int} {k m : Int} {l : List Nd} (hn : n ≤ 3) (hl : 1 ≤ l.length ∧ l.length ≤ 3) (h2 : (l.length : Int) ≤ lv) (h3 : (l.length : Int) * b ≤ lv) (hb : 0 ≤ b) (hk : (k = 3 ∧ m = 0) ∨ (k = 4 ∧ 1 ≤ m ∧ m ≤ l.length)) (h : ∀ x ∈ l, MN n b x) : MN (n + 1) lv (.mk k m 0 [] l) := by
  obtain ⟨a1, a2, a3, a4, a5⟩ := MNs h
  have hlf : lfN (.mk k m 0 [] l) = false := by rcases hk with ⟨rfl, _⟩ | ⟨rfl, _⟩ <;> rfl
  have hmx := mx_mul l.length lv b n hn (by omega) h2 h3 hb
  have hok : okN (.mk k m 0 [] l) := by
    rcases hk with ⟨rfl, rfl⟩ | ⟨rfl, h⟩
    · exact .all l (by omega) (by omega)
    · exact .some m l h (by omega) (by omega)
  refine ⟨?_, ?_, ?_, ?_, ?_⟩
  · rw [Nd.nodes]; intro y hy
    rcases List.mem_cons.1 hy with e | e
    · rw [e]; exact hok
    · exact a1 y e
  · rw [Nd.hgt]; omega
  · rw [leaf_cnt _ _ _ _ _ hlf]; omega
  · rw [leaf_cnt _ _ _ _ _ hlf]; omega
  · rw [Nd.nodes, List.length_cons]
    have := hmx.2
    omega
end Pb
end Go.Proofs.Ytjnmbmdplchfkaa
namespace Go.Proofs.Ytjnmbmdplchfkaa
open Go.Proofs.Ytjnmbmdplchfkaa.Am
set_option maxRecDepth 100000
namespace Pb
theorem frzN {f : FuncId} {vs : List AV} {H0 : AH} {fl : Fl} {xs : List Int} {a : Nat} {k n m : Int} {s : List Co} {l : List Nd} (h : AFun Try.prog f 1 vs H0 (.agg [int k, int n, int m, .ro {} 2 (s.map coA), .slm {} 1 5 0 l.length]) [(0, drawB fl xs a), (1, .row 5 nty (l.map nd))]) : AFun Try.prog f 1 vs H0 (nd (.mk k n m s l)) [(0, drawB fl xs a)] := by
  have e := frz_slm (H := [(0, drawB fl xs a), (1, .row 5 nty (l.map nd))]) (F := [1]) (fl := {}) (id := 1) rfl rfl (show l.length = (l.map nd).length by simp)
  rw [nd_mk]
  refine (AFun.frz [1] h (by show (AV.namesL (fun _ => false) (l.map nd) && true) = true; rw [pure_nd l]; rfl) rfl ?_).cast ?_ rfl
  · show (true && (true && (true && (true && (AV.frzOk [(0, drawB fl xs a), (1, .row 5 nty (l.map nd))] (List.contains [1]) (.slm {} 1 5 0 l.length) && true))))) = true
    rw [e.2]; rfl
  · show AV.agg [_, _, _, _, AV.frz [(0, drawB fl xs a), (1, .row 5 nty (l.map nd))] (List.contains [1]) (.slm {} 1 5 0 l.length)] = _
    rw [e.1]; rfl
theorem min_get3 (n : Int) (h : 0 ≤ n ∧ n < 3) : ∃ c : Int, (-1000 ≤ c ∧ c ≤ 1000) ∧ int c = ([int 0, int 50, int 60] : List AV).getD n.toNat (.sc undef) := by
  obtain ⟨m, rfl⟩ : ∃ m : Nat, n = m := ⟨n.toNat, by omega⟩
  have : m = 0 ∨ m = 1 ∨ m = 2 := by omega
  rcases this with rfl | rfl | rfl <;> exact ⟨_, by decide, rfl⟩
theorem min_get4 (n : Int) (h : 0 ≤ n ∧ n < 4) : ∃ c : Int, (-1000 ≤ c ∧ c ≤ 1000) ∧ int c = ([int 0, int 50, int 60, int 80] : List AV).getD n.toNat (.sc undef) := by
  obtain ⟨m, rfl⟩ : ∃ m : Nat, n = m := ⟨n.toNat, by omega⟩
  have : m = 0 ∨ m = 1 ∨ m = 2 ∨ m = 3 := by omega
  rcases this with rfl | rfl | rfl | rfl <;> exact ⟨_, by decide, rfl⟩
theorem dN (fl : Fl) (xs : List Int) (a : Nat) (ok : Nat → Bool) : namesAll ok [(0, drawB fl xs a)] = true := namesAll.row rfl rfl
abbrev zz5 : AV := .agg [int 0, int 0, int 0, .sc (.slice none 0 0), .sc (.slice none 0 0)]
abbrev leS2 (fl : Fl) (xs : List Int) (n : Nat) (lv v0 : Int) (a1 : Nat) : AS := ⟨[(0, .ptr 0 2 0 0), (1, int n), (2, int lv), (6, .ptr 1 5 0 0), (7, int v0), (22, bool true)], [(0, drawB fl xs a1), (1, .row 5 nty [zz5])], 2⟩
set_option maxHeartbeats 3200000 in
set_option maxRecDepth 100000 in
theorem made_leaf (fl : Fl) (xs : List Int) (hx : xs.length ≤ 9223372036854775807) (n : Nat) (hn : n ≤ 3) (lv : Int) (hlv : 0 ≤ lv ∧ lv ≤ 6) (at_ : Nat) (v0 : Int) (a1 : Nat) (r0 : 0 ≤ v0 ∧ v0 < 6) (q1 : a1 ≤ xs.length)
    (N0 : AFun Try.prog 28 1 [.ptr 0 2 0 0, int 6] [(0, drawB fl xs at_)] (int v0) [(0, drawB fl xs a1)])
    (hc : n = 0 ∨ lv < 2 ∨ v0 < 2) : ∃ x a, MN n lv x ∧ a ≤ xs.length ∧
    AFun Try.prog 31 1 [.ptr 0 2 0 0, int n, int lv] [(0, drawB fl xs at_)] (nd x) [(0, drawB fl xs a)] := by
  obtain ⟨v1, a2, r1, q2, N1⟩ := made_next fl xs hx a1 3 q1 (by omega)
  by_cases e1 : v1 = 0
  · obtain ⟨v2, a3, r2, q3, N2⟩ := made_next fl xs hx a2 12 q2 (by omega)
    obtain ⟨v3, a4, r3, q4, N3⟩ := made_next fl xs hx a3 3 q3 (by omega)
    obtain ⟨m, hm, km⟩ := min_get3 v3 r3
    obtain ⟨s, a5, hs, q5, N4⟩ := set_f fl xs hx a4 q4
    refine ⟨.mk 2 (1 + v2) m s [], a5, .leaf rfl (.credits _ _ _ (by omega) (hs m hm)), q5, ?_⟩
    rw [nd_mk]
    clear hs
    refine AFun.of_VS T_ok Try.func31 rfl (Nat.le_of_ble_eq_true rfl) ?_
    refine VS.cut T_ok mixed rfl ?_
    ((repeat ((conv => whnf); (first | (refine LetN.pre ?_; first | ((conv => arg 1; whnf); refine LetN.mk ?_)) | (refine As.pre ?_; first | refine As.mk rfl ?_) | (refine Ck.pre ?_; first | refine Ck.mk rfl ?_)))); (try (conv => whnf)))
    refine VS.cut T_ok mixed rfl ?_
    ((repeat ((conv => whnf); (first | (refine LetN.pre ?_; first | ((conv => arg 1; whnf); refine LetN.mk ?_)) | (refine As.pre ?_; first | refine As.mk rfl ?_) | (refine Ck.pre ?_; first | refine Ck.mk rfl ?_) | (refine LetL.pre ?_; first | refine LetL.mk [_] rfl ?_) | (refine CallN.pre ?_; first | refine CallN.own (fun _ => 0) N0 (CallOk.mk' rfl rfl rfl (namesAll.row rfl rfl) rfl (namesAll.row rfl rfl) (haveAll.row rfl rfl trivial)) ?_)))); (try (conv => whnf)))
    refine VS.seq ?_
    refine VS.joinN (fun _ : Unit => leS2 fl xs n lv v0 a1) (fun _ => True) ?_ ?_
    case refine_1 =>
      refine VS.of_V T_ok mixed rfl ?_
      by_cases c1 : (n : Int) ≤ 0
      · ((repeat ((conv => whnf); (first | (refine As.pre ?_; first | refine As.mk rfl ?_) | (refine LetB.pre ?_; first | refine LetB.dect (by omega) ?_) | (refine Gd.pre ?_; first | refine Gd.pass rfl ?_) | (refine Ck.pre ?_; first | refine Ck.mk rfl ?_)))); (try (conv => whnf)))
        exact ⟨rfl, (), trivial, SW.mk id rfl rfl rfl ⟨.refl _, .refl _, .refl _, .refl _, .refl _, .refl _, trivial⟩ (haveV.row rfl rfl (haveV.one rfl trivial))⟩
      · by_cases c2 : lv < 2
        · ((repeat ((conv => whnf); (first | (refine As.pre ?_; first | refine As.mk rfl ?_) | (refine LetB.pre ?_; first | refine LetB.dect (by omega) ?_ | refine LetB.decf (by omega) ?_) | (refine Gd.pre ?_; first | refine Gd.run rfl ?_ | refine Gd.pass rfl ?_) | (refine Ck.pre ?_; first | refine Ck.mk rfl ?_)))); (try (conv => whnf)))
          exact ⟨rfl, (), trivial, SW.mk id rfl rfl rfl ⟨.refl _, .refl _, .refl _, .refl _, .refl _, .refl _, trivial⟩ (haveV.row rfl rfl (haveV.one rfl trivial))⟩
        · have c3 : v0 < 2 := by omega
          ((repeat ((conv => whnf); (first | (refine As.pre ?_; first | refine As.mk rfl ?_) | (refine LetB.pre ?_; first | refine LetB.dect (by omega) ?_ | refine LetB.decf (by omega) ?_) | (refine Gd.pre ?_; first | refine Gd.run rfl ?_) | (refine Ck.pre ?_; first | refine Ck.mk rfl ?_)))); (try (conv => whnf)))
          exact ⟨rfl, (), trivial, SW.mk id rfl rfl rfl ⟨.refl _, .refl _, .refl _, .refl _, .refl _, .refl _, trivial⟩ (haveV.row rfl rfl (haveV.one rfl trivial))⟩
    intro _ _
    refine VS.condT rfl rfl ?_
    refine VS.seq ?_
    refine VS.cut T_ok mixed rfl ?_
    ((repeat ((conv => whnf); (first | (refine LetN.pre ?_; first | ((conv => arg 1; whnf); refine LetN.mk ?_)) | (refine As.pre ?_; first | refine As.mk rfl ?_) | (refine LetB.pre ?_; first | refine LetB.dect (by omega) ?_) | (refine Ck.pre ?_; first | refine Ck.mk rfl ?_) | (refine LetL.pre ?_; first | refine LetL.mk [_] rfl ?_) | (refine CallN.pre ?_; first | refine CallN.own (fun _ => 0) N1 (CallOk.mk' rfl rfl rfl (namesAll.row rfl rfl) rfl (namesAll.row rfl rfl) (haveAll.row rfl rfl trivial)) ?_)))); (try (conv => whnf)))
    refine VS.condT rfl rfl ?_
    refine VS.of_V T_ok mixed rfl ?_
    ((repeat ((conv => whnf); (first | (refine LetN.pre ?_; first | ((conv => arg 1; whnf); refine LetN.mk ?_)) | (refine As.pre ?_; first | refine As.mk rfl ?_ | (refine As.mk ?_ ?_; · ((repeat' (refine andT ?_ ?_)) <;> (first | rfl | assumption | exact decide_eq_true (by omega) | exact decide_eq_true (by dsimp only; omega) | exact decide_eq_true (by simp; omega) | (simp; done))))) | (refine LetV.pre ?_; first | refine LetV.mk (t := 26) _ km ?_ | refine LetV.mk (.sc (.int _ _)) rfl ?_) | (refine LetI.pre ?_; first | refine LetI.wrap (by omega) (by omega) ?_) | (refine Ck.pre ?_; first | refine Ck.drawn (by kernel_rfl) ?_ | refine Ck.mk rfl ?_) | (refine LetL.pre ?_; first | refine LetL.mk (ty := nty) [.agg [_, _, _, _, _]] rfl ?_ | refine LetL.mk [_] rfl ?_) | (refine CallN.pre ?_; first | refine CallN.own (fun _ => 0) N2 (CallOk.mk' rfl rfl rfl (namesAll.row rfl rfl) rfl (namesAll.row rfl rfl) (haveAll.row rfl rfl trivial)) ?_ | refine CallN.own (fun _ => 0) N3 (CallOk.mk' rfl rfl rfl (namesAll.row rfl rfl) rfl (namesAll.row rfl rfl) (haveAll.row rfl rfl trivial)) ?_ | refine CallN.own (fun _ => 0) N4 (CallOk.mk' rfl rfl rfl (namesAll.row rfl rfl) rfl (namesAll.row rfl rfl) (haveAll.row rfl rfl trivial)) ?_)))); (try (conv => whnf)))
    exact ⟨⟨[(6, .ptr 1 5 0 0)], [(0, drawB fl xs a5), (1, .row 5 nty [.agg [int 2, int (1 + v2), int m, .ro {} 2 (s.map coA), .ro {} 5 []]])], 2⟩, SW.mk id rfl rfl rfl ⟨.refl _, trivial⟩ (haveV.row rfl rfl (haveV.agg rfl ⟨.refl _, .refl _, .refl _, .refl _, VLe2.nilro, trivial⟩ trivial)), .inl rfl, ⟨_, rfl, rfl⟩, rfl, trivial⟩
  · obtain ⟨v3, a4, r3, q4, N3⟩ := made_next fl xs hx a2 4 q2 (by omega)
    obtain ⟨m, hm, km⟩ := min_get4 v3 r3
    obtain ⟨s, a5, hs, q5, N4⟩ := set_f fl xs hx a4 q4
    refine ⟨.mk 1 0 m s [], a5, .leaf rfl (.course _ _ (hs m hm)), q5, ?_⟩
    rw [nd_mk]
    clear hs
    refine AFun.of_VS T_ok Try.func31 rfl (Nat.le_of_ble_eq_true rfl) ?_
    refine VS.cut T_ok mixed rfl ?_
    ((repeat ((conv => whnf); (first | (refine LetN.pre ?_; first | ((conv => arg 1; whnf); refine LetN.mk ?_)) | (refine As.pre ?_; first | refine As.mk rfl ?_) | (refine Ck.pre ?_; first | refine Ck.mk rfl ?_)))); (try (conv => whnf)))
    refine VS.cut T_ok mixed rfl ?_
    ((repeat ((conv => whnf); (first | (refine LetN.pre ?_; first | ((conv => arg 1; whnf); refine LetN.mk ?_)) | (refine As.pre ?_; first | refine As.mk rfl ?_) | (refine Ck.pre ?_; first | refine Ck.mk rfl ?_) | (refine LetL.pre ?_; first | refine LetL.mk [_] rfl ?_) | (refine CallN.pre ?_; first | refine CallN.own (fun _ => 0) N0 (CallOk.mk' rfl rfl rfl (namesAll.row rfl rfl) rfl (namesAll.row rfl rfl) (haveAll.row rfl rfl trivial)) ?_)))); (try (conv => whnf)))
    refine VS.seq ?_
    refine VS.joinN (fun _ : Unit => leS2 fl xs n lv v0 a1) (fun _ => True) ?_ ?_
    case refine_1 =>
      refine VS.of_V T_ok mixed rfl ?_
      by_cases c1 : (n : Int) ≤ 0
      · ((repeat ((conv => whnf); (first | (refine As.pre ?_; first | refine As.mk rfl ?_) | (refine LetB.pre ?_; first | refine LetB.dect (by omega) ?_) | (refine Gd.pre ?_; first | refine Gd.pass rfl ?_) | (refine Ck.pre ?_; first | refine Ck.mk rfl ?_)))); (try (conv => whnf)))
        exact ⟨rfl, (), trivial, SW.mk id rfl rfl rfl ⟨.refl _, .refl _, .refl _, .refl _, .refl _, .refl _, trivial⟩ (haveV.row rfl rfl (haveV.one rfl trivial))⟩
      · by_cases c2 : lv < 2
        · ((repeat ((conv => whnf); (first | (refine As.pre ?_; first | refine As.mk rfl ?_) | (refine LetB.pre ?_; first | refine LetB.dect (by omega) ?_ | refine LetB.decf (by omega) ?_) | (refine Gd.pre ?_; first | refine Gd.run rfl ?_ | refine Gd.pass rfl ?_) | (refine Ck.pre ?_; first | refine Ck.mk rfl ?_)))); (try (conv => whnf)))
          exact ⟨rfl, (), trivial, SW.mk id rfl rfl rfl ⟨.refl _, .refl _, .refl _, .refl _, .refl _, .refl _, trivial⟩ (haveV.row rfl rfl (haveV.one rfl trivial))⟩
        · have c3 : v0 < 2 := by omega
          ((repeat ((conv => whnf); (first | (refine As.pre ?_; first | refine As.mk rfl ?_) | (refine LetB.pre ?_; first | refine LetB.dect (by omega) ?_ | refine LetB.decf (by omega) ?_) | (refine Gd.pre ?_; first | refine Gd.run rfl ?_) | (refine Ck.pre ?_; first | refine Ck.mk rfl ?_)))); (try (conv => whnf)))
          exact ⟨rfl, (), trivial, SW.mk id rfl rfl rfl ⟨.refl _, .refl _, .refl _, .refl _, .refl _, .refl _, trivial⟩ (haveV.row rfl rfl (haveV.one rfl trivial))⟩
    intro _ _
    refine VS.condT rfl rfl ?_
    refine VS.seq ?_
    refine VS.cut T_ok mixed rfl ?_
    ((repeat ((conv => whnf); (first | (refine LetN.pre ?_; first | ((conv => arg 1; whnf); refine LetN.mk ?_)) | (refine As.pre ?_; first | refine As.mk rfl ?_) | (refine LetB.pre ?_; first | refine LetB.decf (by omega) ?_) | (refine Ck.pre ?_; first | refine Ck.mk rfl ?_) | (refine LetL.pre ?_; first | refine LetL.mk [_] rfl ?_) | (refine CallN.pre ?_; first | refine CallN.own (fun _ => 0) N1 (CallOk.mk' rfl rfl rfl (namesAll.row rfl rfl) rfl (namesAll.row rfl rfl) (haveAll.row rfl rfl trivial)) ?_)))); (try (conv => whnf)))
    refine VS.condF rfl rfl (VS.skip ?_)
    refine VS.of_V T_ok mixed rfl ?_
    ((repeat ((conv => whnf); (first | (refine LetN.pre ?_; first | ((conv => arg 1; whnf); refine LetN.mk ?_)) | (refine As.pre ?_; first | refine As.mk rfl ?_ | (refine As.mk ?_ ?_; · ((repeat' (refine andT ?_ ?_)) <;> (first | rfl | assumption | exact decide_eq_true (by omega) | exact decide_eq_true (by dsimp only; omega) | exact decide_eq_true (by simp; omega) | (simp; done))))) | (refine LetV.pre ?_; first | refine LetV.mk (t := 26) _ km ?_ | refine LetV.mk (.sc (.int _ _)) rfl ?_) | (refine Ck.pre ?_; first | refine Ck.drawn (by kernel_rfl) ?_ | refine Ck.mk rfl ?_) | (refine LetL.pre ?_; first | refine LetL.mk (ty := nty) [.agg [_, _, _, _, _]] rfl ?_ | refine LetL.mk [_] rfl ?_) | (refine CallN.pre ?_; first | refine CallN.own (fun _ => 0) N3 (CallOk.mk' rfl rfl rfl (namesAll.row rfl rfl) rfl (namesAll.row rfl rfl) (haveAll.row rfl rfl trivial)) ?_ | refine CallN.own (fun _ => 0) N4 (CallOk.mk' rfl rfl rfl (namesAll.row rfl rfl) rfl (namesAll.row rfl rfl) (haveAll.row rfl rfl trivial)) ?_)))); (try (conv => whnf)))
    exact ⟨⟨[(6, .ptr 1 5 0 0)], [(0, drawB fl xs a5), (1, .row 5 nty [.agg [int 1, int 0, int m, .ro {} 2 (s.map coA), .ro {} 5 []]])], 2⟩, SW.mk id rfl rfl rfl ⟨.refl _, trivial⟩ (haveV.row rfl rfl (haveV.agg rfl ⟨.refl _, .refl _, .refl _, .refl _, VLe2.nilro, trivial⟩ trivial)), .inl rfl, ⟨_, rfl, rfl⟩, rfl, trivial⟩
end Pb
end Go.Proofs.Ytjnmbmdplchfkaa
namespace Go.Proofs.Ytjnmbmdplchfkaa
open Go.Proofs.Ytjnmbmdplchfkaa.Am
set_option maxRecDepth 100000
namespace Pb
abbrev z5 : AV := .agg [int 0, int 0, int 0, .sc (.slice none 0 0), .sc (.slice none 0 0)]
abbrev nb5 (k n : Int) (len : Nat) : AV := .agg [int k, int n, int 0, .ro {} 2 [], .slm {} 3 5 0 len]
abbrev mdH (fl : Fl) (xs : List Int) (at_ : Nat) (l : List Nd) : AH := [(0, drawB fl xs at_), (1, .row 5 nty [z5]), (2, .row 5 nty [nb5 3 0 l.length]), (3, .row 5 nty (l.map nd))]
abbrev mdS (fl : Fl) (xs : List Int) (n lv v0 many : Int) : Nat × Nat × List Nd → AS
  | (k, at_, l) => ⟨[(0, .ptr 0 2 0 0), (1, int n), (2, int lv), (6, .ptr 1 5 0 0), (7, int v0), (8, int many), (9, .ptr 2 5 0 0), (10, int k)], mdH fl xs at_ l, 4⟩
abbrev mdT (fl : Fl) (xs : List Int) (n lv v0 many : Int) : Nat × List Nd → AS
  | (at_, l) => ⟨[(0, .ptr 0 2 0 0), (1, int n), (2, int lv), (6, .ptr 1 5 0 0), (7, int v0), (8, int many), (9, .ptr 2 5 0 0)], mdH fl xs at_ l, 4⟩
abbrev mdU (fl : Fl) (xs : List Int) (k u : Int) : Nat × List Nd → AS
  | (at_, l) => ⟨[(6, .ptr 1 5 0 0), (9, .ptr 2 5 0 0)], [(0, drawB fl xs at_), (1, .row 5 nty [z5]), (2, .row 5 nty [nb5 k u l.length]), (3, .row 5 nty (l.map nd))], 4⟩
theorem mdM (fl : Fl) (xs : List Int) (at_ : Nat) (k u : Int) (l : List Nd) (ok : Nat → Bool) (h : ok 3 = true) : namesAll ok [(0, drawB fl xs at_), (1, .row 5 nty [z5]), (2, .row 5 nty [nb5 k u l.length]), (3, .row 5 nty (l.map nd))] = true := by
  have h1 : namesAll ok [(3, .row 5 nty (l.map nd))] = true := namesAll.row (pure_nd l) rfl
  rw [namesAll, namesAll, namesAll, h1]
  simp only [Blk.names, AV.namesL, AV.names, h]; rfl
abbrev nb51 (k n : Int) (len : Nat) : AV := .agg [int k, int n, int 0, .ro {} 2 [], .slm {} 1 5 0 len]
theorem mdK (fl : Fl) (xs : List Int) (at_ : Nat) (k u : Int) (l : List Nd) (ok : Nat → Bool) (h : ok 1 = true) : namesAll ok [(0, drawB fl xs at_), (1, .row 5 nty (l.map nd)), (2, .row 5 nty [nb51 k u l.length])] = true := by
  have h1 : namesAll ok [(2, .row 5 nty [nb51 k u l.length])] = true := by
    rw [namesAll]; simp only [Blk.names, AV.namesL, AV.names, h]; rfl
  exact namesAll.row rfl (namesAll.row (pure_nd l) h1)
theorem mdN (fl : Fl) (xs : List Int) (at_ : Nat) (l : List Nd) (ok : Nat → Bool) (h : ok 3 = true) : namesAll ok (mdH fl xs at_ l) = true := by
  have h1 : namesAll ok [(3, .row 5 nty (l.map nd))] = true := namesAll.row (pure_nd l) rfl
  rw [namesAll, namesAll, namesAll, h1]
  simp only [Blk.names, AV.namesL, AV.names, h]; rfl
theorem tdiv_many {lv many : Int} (h : 2 ≤ lv ∧ lv ≤ 6) (hm : 1 ≤ many ∧ many ≤ 3 ∧ many ≤ lv) : 0 ≤ lv.tdiv many ∧ lv.tdiv many ≤ 6 ∧ many * lv.tdiv many ≤ lv := by
  have e1 : lv = 2 ∨ lv = 3 ∨ lv = 4 ∨ lv = 5 ∨ lv = 6 := by omega
  have e2 : many = 1 ∨ many = 2 ∨ many = 3 := by omega
  rcases e1 with rfl | rfl | rfl | rfl | rfl <;> rcases e2 with rfl | rfl | rfl <;> decide
theorem frzM {f : FuncId} {vs : List AV} {H0 : AH} {fl : Fl} {xs : List Int} {a : Nat} {k n : Int} {l : List Nd} (h : AFun Try.prog f 1 vs H0 (.agg [int k, int n, int 0, .ro {} 2 [], .slm {} 1 5 0 l.length]) [(0, drawB fl xs a), (1, .row 5 nty (l.map nd))]) : AFun Try.prog f 1 vs H0 (nd (.mk k n 0 [] l)) [(0, drawB fl xs a)] := frzN (s := []) h
set_option maxHeartbeats 6400000 in
set_option maxRecDepth 100000 in
theorem made_node (fl : Fl) (xs : List Int) (hx : xs.length ≤ 9223372036854775807) (n : Nat) (hn : n ≤ 2) (lv : Int) (hlv : 2 ≤ lv ∧ lv ≤ 6) (at_ : Nat) (v0 : Int) (a1 : Nat) (r0 : 2 ≤ v0 ∧ v0 < 6) (q1 : a1 ≤ xs.length)
    (N0 : AFun Try.prog 28 1 [.ptr 0 2 0 0, int 6] [(0, drawB fl xs at_)] (int v0) [(0, drawB fl xs a1)])
    (ih : ∀ (b : Int) (at_ : Nat), 0 ≤ b ∧ b ≤ 6 → at_ ≤ xs.length → ∃ x a, MN n b x ∧ a ≤ xs.length ∧ AFun Try.prog 31 1 [.ptr 0 2 0 0, int n, int b] [(0, drawB fl xs at_)] (nd x) [(0, drawB fl xs a)]) :
    ∃ x : (Int × Int × List Nd) × Nat, (MN (n + 1) lv (.mk x.1.1 x.1.2.1 0 [] x.1.2.2) ∧ x.2 ≤ xs.length) ∧
    AFun Try.prog 31 1 [.ptr 0 2 0 0, int (n + 1 : Nat), int lv] [(0, drawB fl xs at_)] (.agg [int x.1.1, int x.1.2.1, int 0, .ro {} 2 [], .slm {} 1 5 0 x.1.2.2.length]) [(0, drawB fl xs x.2), (1, .row 5 nty (x.1.2.2.map nd))] := by
  obtain ⟨w, a2, r1, q2, N1⟩ := made_next fl xs hx a1 (min 3 lv) q1 (by omega)
  refine AFun.of_VSE (p := 1) (H := [(0, drawB fl xs at_)]) T_ok (v := fun x : (Int × Int × List Nd) × Nat => .agg [int x.1.1, int x.1.2.1, int 0, .ro {} 2 [], .slm {} 1 5 0 x.1.2.2.length]) (H' := fun x : (Int × Int × List Nd) × Nat => [(0, drawB fl xs x.2), (1, .row 5 nty (x.1.2.2.map nd))]) Try.func31 rfl (Nat.le_of_ble_eq_true rfl) ?_
  refine VS.cut T_ok mixed rfl ?_
  ((repeat ((conv => whnf); (first | (refine LetN.pre ?_; first | ((conv => arg 1; whnf); refine LetN.mk ?_)) | (refine As.pre ?_; first | refine As.mk rfl ?_) | (refine Ck.pre ?_; first | refine Ck.mk rfl ?_)))); (try (conv => whnf)))
  refine VS.cut T_ok mixed rfl ?_
  ((repeat ((conv => whnf); (first | (refine LetN.pre ?_; first | ((conv => arg 1; whnf); refine LetN.mk ?_)) | (refine As.pre ?_; first | refine As.mk rfl ?_) | (refine Ck.pre ?_; first | refine Ck.mk rfl ?_) | (refine LetL.pre ?_; first | refine LetL.mk [_] rfl ?_) | (refine CallN.pre ?_; first | refine CallN.own (fun _ => 0) N0 (CallOk.mk' rfl rfl rfl (namesAll.row rfl rfl) rfl (namesAll.row rfl rfl) (haveAll.row rfl rfl trivial)) ?_)))); (try (conv => whnf)))
  refine VS.seq ?_
  refine VS.joinN (fun _ : Unit => ⟨[(0, .ptr 0 2 0 0), (1, int (n + 1 : Nat)), (2, int lv), (6, .ptr 1 5 0 0), (7, int v0), (22, bool false)], [(0, drawB fl xs a1), (1, .row 5 nty [zz5])], 2⟩) (fun _ => True) ?_ ?_
  case refine_1 =>
    refine VS.of_V T_ok mixed rfl ?_
    ((repeat ((conv => whnf); (first | (refine As.pre ?_; first | refine As.mk rfl ?_) | (refine LetB.pre ?_; first | refine LetB.ff rfl ?_ | refine LetB.decf (by omega) ?_) | (refine Gd.pre ?_; first | refine Gd.run rfl ?_) | (refine Ck.pre ?_; first | refine Ck.mk rfl ?_)))); (try (conv => whnf)))
    exact ⟨rfl, (), trivial, SW.mk id rfl rfl rfl ⟨.refl _, .refl _, .refl _, .refl _, .refl _, .refl _, trivial⟩ (haveV.row rfl rfl (haveV.one rfl trivial))⟩
  intro _ _
  refine VS.condF rfl rfl (VS.skip ?_)
  refine VS.cut T_ok mixed rfl ?_
  ((repeat ((conv => whnf); (first | (refine LetN.pre ?_; first | ((conv => arg 1; whnf); refine LetN.mk ?_)) | (refine As.pre ?_; first | refine As.mk rfl ?_) | (refine LetI.pre ?_; first | refine LetI.wrap (by omega) (by omega) ?_ | refine LetI.mk _ rfl ?_) | (refine Ck.pre ?_; first | refine Ck.mk rfl ?_) | (refine LetL.pre ?_; first | refine LetL.mk [_] rfl ?_) | (refine CallN.pre ?_; first | refine CallN.own (fun _ => 0) N1 (CallOk.mk' rfl rfl rfl (namesAll.row rfl rfl) rfl (namesAll.row rfl rfl) (haveAll.row rfl rfl trivial)) ?_)))); (try (conv => whnf)))
  refine VS.cut T_ok mixed rfl ?_
  ((repeat ((conv => whnf); (first | (refine LetN.pre ?_; first | ((conv => arg 1; whnf); refine LetN.mk ?_)) | (refine As.pre ?_; first | refine As.mk rfl ?_) | (refine Ck.pre ?_; first | refine Ck.mk rfl ?_) | (refine LetL.pre ?_; first | refine LetL.mk [_] rfl ?_)))); (try (conv => whnf)))
  have hm : 1 ≤ 1 + w ∧ 1 + w ≤ 3 ∧ 1 + w ≤ lv := by omega
  have htd := tdiv_many hlv hm
  have hnz : ((1 + w) != 0) = true := by simp; omega
  generalize hb : lv.tdiv (1 + w) = b at htd
  have hq : b = IntKind.i64.wrap (lv.tdiv (1 + w)) := by rw [hb, wrap_id (by omega) (by omega)]
  refine VS.joinN (fun x : Nat × List Nd => mdT fl xs (n + 1 : Nat) lv v0 (1 + w) x) (fun x => x.1 ≤ xs.length ∧ (x.2.length : Int) = 1 + w ∧ ∀ y ∈ x.2, MN n b y) ?_ ?_
  case refine_1 =>
    refine VS.of_V T_ok mixed rfl ?_
    ((repeat ((conv => whnf); (first | (refine As.pre ?_; first | refine As.mk rfl ?_) | (refine Ck.pre ?_; first | refine Ck.mk rfl ?_)))); (try (conv => whnf)))
    refine LoopN.weak (s1 := mdS fl xs (n + 1 : Nat) lv v0 (1 + w) (0, a2, [])) ?sw1 ?_
    case sw1 => exact SW.mk id rfl rfl (mdN _ _ _ _ _ rfl) ⟨.refl _, .refl _, .refl _, .refl _, .refl _, .refl _, .refl _, .refl _, trivial⟩ (haveV.row rfl rfl (haveV.one rfl (haveV.agg rfl ⟨.refl _, .refl _, .refl _, VLe2.nilro, VLe2.nilslm, trivial⟩ (haveV.nil (Nat.le_of_ble_eq_true rfl) trivial))))
    refine LoopN.ind T_ok mixed (S := mdS fl xs (n + 1 : Nat) lv v0 (1 + w)) (fun i => 24 - i.1) (fun i => ((i.1 : Int) ≤ 1 + w ∧ i.2.1 ≤ xs.length) ∧ i.2.2.length = i.1 ∧ (∀ x ∈ i.2.2, MN n b x)) (fun _ => rfl) (fun i hi ih' => ?_) (0, a2, []) ⟨⟨by show (0 : Int) ≤ 1 + w; omega, q2⟩, rfl, fun c h => absurd h List.not_mem_nil⟩
    obtain ⟨k, a3, l⟩ := i
    obtain ⟨⟨h1, h2⟩, h3, h4⟩ := hi
    dsimp only at h1 h2 h3 h4
    by_cases hlt : (k : Int) < 1 + w
    case neg =>
      clear ih ih' hq
      have hlen : (l.length : Int) = 1 + w := by omega
      ((repeat ((conv => whnf); (first | (refine As.pre ?_; first | refine As.mk rfl ?_) | (refine LetB.pre ?_; first | refine LetB.decf (by omega) ?_) | (refine Br.pre ?_; first | refine Br.ff rfl ?_) | (refine Ck.pre ?_; first | refine Ck.mk rfl ?_)))); (try (conv => whnf)))
      exact ⟨rfl, (a3, l), ⟨h2, hlen, h4⟩, SW.mk id rfl rfl (mdN _ _ _ _ _ rfl) ⟨.refl _, .refl _, .refl _, .refl _, .refl _, .refl _, .refl _, trivial⟩ (haveV.row rfl rfl (haveV.one rfl (haveV.one rfl (haveV.row (pure_nd _) rfl trivial))))⟩
    obtain ⟨x, a4, m4, q4, N4⟩ := ih b a3 ⟨htd.1, htd.2.1⟩ h2
    have hnx := ih' (k + 1, a4, l ++ [x]) ⟨⟨by show ((k + 1 : Nat) : Int) ≤ _; omega, q4⟩, by show (l ++ [x]).length = k + 1; rw [List.length_append, h3]; rfl, by
      intro y hy
      rcases List.mem_append.1 hy with e | e
      · exact h4 y e
      · rw [List.mem_singleton.1 e]; exact m4⟩ (by show 24 - (k + 1) < 24 - k; omega)
    clear ih ih' htd h4 m4
    have hr := room_nd (n := l.length + 1) (by omega)
    have hmL : (l.map nd).length = l.length := List.length_map _
    have a1 := app_nd l x l.length rfl
    have l1 : (l ++ [x]).length = l.length + 1 := by simp
    obtain ⟨k', n', m', s', l'⟩ := x
    rw [nd_mk] at N4 a1
    have hn1 : ((n + 1 : Nat) : Int) - 1 = n := by omega
    have hsub : (n : Int) = IntKind.i64.wrap (((n + 1 : Nat) : Int) - 1) := by rw [hn1, wrap_id (by omega) (by omega)]
    ((repeat ((conv => whnf); (first | (refine LetN.pre ?_; first | ((conv => arg 1; whnf); refine LetN.mk ?_)) | (refine As.pre ?_; first | refine As.mk rfl ?_ | refine As.mk hnz ?_ | (refine As.mk ?_ ?_; · ((repeat' (refine andT ?_ ?_)) <;> (first | rfl | assumption | exact decide_eq_true (by omega) | exact decide_eq_true (by dsimp only; omega) | exact decide_eq_true (by simp; omega) | (simp; done))))) | (refine LetV.pre ?_; first | refine LetV.mk (.slm _ _ _ _ _) rfl ?_) | (refine LetI.pre ?_; first | refine LetI.mk (o := some .sub) n hsub ?_ | refine LetI.mk (o := some .quo) b hq ?_ | refine LetI.wrap (by omega) (by omega) ?_) | (refine LetB.pre ?_; first | refine LetB.dect (by omega) ?_) | (refine Br.pre ?_; first | refine Br.tt rfl ?_) | (refine Ck.pre ?_; first | refine Ck.drawn (by kernel_rfl) ?_ | refine Ck.mk rfl ?_) | (refine LetL.pre ?_; first | refine LetL.mk (ty := nty) _ a1 ?_ | refine LetL.mk (ty := nty) [.agg [_, _, _, _, _]] rfl ?_ | refine LetL.mk [_] rfl ?_) | (refine CallN.pre ?_; first | refine CallN.own (fun _ => 0) N4 (CallOk.mk' rfl rfl rfl (namesAll.row rfl rfl) rfl (namesAll.row rfl rfl) (haveAll.row rfl rfl trivial)) ?_)))); (try (conv => whnf)))






    refine LoopN.weak ?sw2 hnx
    case sw2 => exact SW.mk (fun i => match i with | 3 => 4 | i => i) rfl rfl (mdN _ _ _ _ _ rfl) ⟨.refl _, .refl _, .refl _, .refl _, .refl _, .refl _, .refl _, VLe2.int (by omega), trivial⟩ (haveV.row rfl rfl (haveV.one rfl (haveV.agg rfl ⟨.refl _, .refl _, .refl _, .refl _, VLe2.slm_of l1, trivial⟩ (haveV.row (pure_nd _) rfl trivial))))
  rintro ⟨a3, l⟩ ⟨h2, hlen, h4⟩
  dsimp only at h2 hlen h4 ⊢
  clear ih N0 N1 hq hnz
  refine VS.seq ?_
  refine VS.cut T_ok mixed rfl ?_
  by_cases c : 3 < v0
  · obtain ⟨u, a4, r4, q4, N4⟩ := made_next fl xs hx a3 (1 + w) h2 (by omega)
    ((repeat ((conv => whnf); (first | (refine As.pre ?_; first | refine As.mk rfl ?_) | (refine LetB.pre ?_; first | refine LetB.dect (by omega) ?_) | (refine Ck.pre ?_; first | refine Ck.mk rfl ?_)))); (try (conv => whnf)))
    refine VS.condT rfl rfl ?_
    refine VS.cut T_ok mixed rfl ?_
    ((repeat ((conv => whnf); (first | (refine LetN.pre ?_; first | ((conv => arg 1; whnf); refine LetN.mk ?_)) | (refine As.pre ?_; first | refine As.mk rfl ?_) | (refine Ck.pre ?_; first | refine Ck.mk rfl ?_) | (refine LetL.pre ?_; first | refine LetL.mk [_] rfl ?_)))); (try (conv => whnf)))
    refine VS.of_V T_ok mixed rfl ?_
    ((repeat ((conv => whnf); (first | (refine LetN.pre ?_; first | ((conv => arg 1; whnf); refine LetN.mk ?_)) | (refine As.pre ?_; first | refine As.mk rfl ?_) | (refine LetI.pre ?_; first | refine LetI.wrap (by omega) (by omega) ?_) | (refine Ck.pre ?_; first | refine Ck.mk rfl ?_) | (refine LetL.pre ?_; first | refine LetL.mk (ty := nty) [.agg [_, _, _, _, _]] rfl ?_ | refine LetL.mk [_] rfl ?_) | (refine CallN.pre ?_; first | refine CallN.own (fun _ => 0) N4 (CallOk.mk' rfl rfl rfl (namesAll.row rfl rfl) rfl (namesAll.row rfl rfl) (haveAll.row rfl rfl trivial)) ?_)))); (try (conv => whnf)))


    refine VS.weak (s1 := mdU fl xs 4 (1 + u) (a4, l)) ?sw3 ?_
    case sw3 => exact SW.mk id rfl rfl (mdM _ _ _ _ _ _ _ rfl) ⟨.refl _, .refl _, trivial⟩ (haveV.row rfl rfl (haveV.one rfl (haveV.one rfl (haveV.row (pure_nd _) rfl trivial))))
    refine VS.of_V T_ok mixed rfl ?_
    ((repeat ((conv => whnf); (first | (refine LetN.pre ?_; first | ((conv => arg 1; whnf); refine LetN.mk ?_)) | (refine As.pre ?_; first | refine As.mk rfl ?_) | (refine LetV.pre ?_; first | refine LetV.mk (.agg _) rfl ?_) | (refine Ck.pre ?_; first | refine Ck.mk rfl ?_) | (refine LetL.pre ?_; first | refine LetL.mk (ty := nty) [.agg [_, _, _, _, _]] rfl ?_)))); (try (conv => whnf)))
    have hN : MN (n + 1) lv (.mk 4 (1 + u) 0 [] l) := MN.node (by omega) (by omega) (by omega) (by rw [hlen]; exact htd.2.2) htd.1 (.inr ⟨rfl, by omega, by omega⟩) h4
    exact ⟨((4, 1 + u, l), a4), ⟨hN, q4⟩, ⟨[(6, .ptr 2 5 0 0)], [(0, drawB fl xs a4), (1, .row 5 nty (l.map nd)), (2, .row 5 nty [nb51 4 (1 + u) l.length])], 3⟩, SW.mk (fun i => match i with | 1 => 3 | 2 => 1 | i => i) rfl rfl (mdK _ _ _ _ _ _ _ rfl) ⟨.refl _, trivial⟩ (haveV.row rfl rfl (haveV.row (pure_nd _) rfl (haveV.one rfl trivial))), .inl rfl, ⟨_, rfl, rfl⟩, rfl, rfl, trivial⟩
  · ((repeat ((conv => whnf); (first | (refine As.pre ?_; first | refine As.mk rfl ?_) | (refine LetB.pre ?_; first | refine LetB.decf (by omega) ?_) | (refine Ck.pre ?_; first | refine Ck.mk rfl ?_)))); (try (conv => whnf)))
    refine VS.condF rfl rfl (VS.skip ?_)
    refine VS.weak (s1 := mdU fl xs 3 0 (a3, l)) ?sw4 ?_
    case sw4 => exact SW.mk id rfl rfl (mdM _ _ _ _ _ _ _ rfl) ⟨.refl _, .refl _, trivial⟩ (haveV.row rfl rfl (haveV.one rfl (haveV.one rfl (haveV.row (pure_nd _) rfl trivial))))
    refine VS.of_V T_ok mixed rfl ?_
    ((repeat ((conv => whnf); (first | (refine LetN.pre ?_; first | ((conv => arg 1; whnf); refine LetN.mk ?_)) | (refine As.pre ?_; first | refine As.mk rfl ?_) | (refine LetV.pre ?_; first | refine LetV.mk (.agg _) rfl ?_) | (refine Ck.pre ?_; first | refine Ck.mk rfl ?_) | (refine LetL.pre ?_; first | refine LetL.mk (ty := nty) [.agg [_, _, _, _, _]] rfl ?_)))); (try (conv => whnf)))
    have hN : MN (n + 1) lv (.mk 3 0 0 [] l) := MN.node (by omega) (by omega) (by omega) (by rw [hlen]; exact htd.2.2) htd.1 (.inl ⟨rfl, rfl⟩) h4
    exact ⟨((3, 0, l), a3), ⟨hN, h2⟩, ⟨[(6, .ptr 2 5 0 0)], [(0, drawB fl xs a3), (1, .row 5 nty (l.map nd)), (2, .row 5 nty [nb51 3 0 l.length])], 3⟩, SW.mk (fun i => match i with | 1 => 3 | 2 => 1 | i => i) rfl rfl (mdK _ _ _ _ _ _ _ rfl) ⟨.refl _, trivial⟩ (haveV.row rfl rfl (haveV.row (pure_nd _) rfl (haveV.one rfl trivial))), .inl rfl, ⟨_, rfl, rfl⟩, rfl, rfl, trivial⟩
theorem made_f (fl : Fl) (xs : List Int) (hx : xs.length ≤ 9223372036854775807) : ∀ (n : Nat), n ≤ 3 → ∀ (lv : Int) (at_ : Nat), 0 ≤ lv ∧ lv ≤ 6 → at_ ≤ xs.length → ∃ x a, MN n lv x ∧ a ≤ xs.length ∧
    AFun Try.prog 31 1 [.ptr 0 2 0 0, int n, int lv] [(0, drawB fl xs at_)] (nd x) [(0, drawB fl xs a)] := by
  intro n
  induction n with
  | zero =>
    intro hn lv at_ hlv ha
    obtain ⟨v0, a1, r0, q1, N0⟩ := made_next fl xs hx at_ 6 ha (by omega)
    exact made_leaf fl xs hx 0 hn lv hlv at_ v0 a1 r0 q1 N0 (.inl rfl)
  | succ n ihn =>
    intro hn lv at_ hlv ha
    obtain ⟨v0, a1, r0, q1, N0⟩ := made_next fl xs hx at_ 6 ha (by omega)
    by_cases hc : lv < 2 ∨ v0 < 2
    · exact made_leaf fl xs hx (n + 1) hn lv hlv at_ v0 a1 r0 q1 N0 (.inr hc)
    · obtain ⟨⟨⟨k, m, l⟩, a⟩, ⟨h1, h2⟩, h⟩ := made_node fl xs hx n (by omega) lv (by omega) at_ v0 a1 (by omega) q1 N0 (fun b at_ hb ha => ihn (by omega) b at_ hb ha)
      exact ⟨_, a, h1, h2, frzM h⟩
end Pb
end Go.Proofs.Ytjnmbmdplchfkaa
