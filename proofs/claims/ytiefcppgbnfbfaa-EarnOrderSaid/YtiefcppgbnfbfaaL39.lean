/- earn: parts of the proof, DearnFA DearnFB DearnFC DearnFD DearnFE DearnHA DearnHB DearnSA DearnHC DearnHD DearnHE DearnHF. -/
import Derived.Test.YtiefcppgbnfbfaaL33
import Derived.Test.YtiefcppgbnfbfaaAmVC
set_option linter.all false
namespace Go.Proofs.Ytiefcppgbnfbfaa
open Go.Proofs.Ytiefcppgbnfbfaa.Am
set_option maxRecDepth 100000
namespace En
abbrev int (a : Int) : AV := .sc (.int .i64 a)
abbrev bool (b : Bool) : AV := .sc (.bool b)
abbrev str (s : ByteArray) : AV := .sc (.string s)
/-- An entry. -/
structure E where
  id : Int
  school : Int
  student : Int
  kind : Int
  day : Int
  on_ : Int
  course : ByteArray
  credits : Int
  grade : Int
  ref : Int
  frm : Int
  programme : Int
  version : Int
  key : Int
  mark : ByteArray
abbrev en (e : E) : AV := .agg [int e.id, int e.school, int e.student, int e.kind, int e.day, int e.on_, str e.course, int e.credits, int e.grade, int e.ref, int e.frm, int e.programme, int e.version, int e.key, str e.mark]
def e0 : E := ⟨0, 0, 0, 0, 0, 0, ⟨#[]⟩, 0, 0, 0, 0, 0, 0, 0, ⟨#[]⟩⟩
theorem pure_en : ∀ l : List E, AV.namesL (fun _ => false) (l.map en) = true
  | [] => rfl
  | p :: l => by simp only [List.map_cons, AV.namesL, pure_en l]; rfl
theorem plain_en : ∀ l : List E, AV.plainL (l.map en) = true
  | [] => rfl
  | p :: l => by simp only [List.map_cons, AV.plainL, plain_en l]; rfl
theorem stor_en (l : List E) (i j : Nat) : storables (((l.map en).drop i).take j) = true := by
  refine List.all_eq_true.2 fun e he => ?_
  obtain ⟨p, _, rfl⟩ := List.mem_map.1 (List.mem_of_mem_drop (List.mem_of_mem_take he))
  rfl
/-! ### Conditions -/
theorem counts1_f (e : E) (asof on : Int) : AFun Try.prog 89 0 [en e, .rp (int asof) 0, .rp (int on) 0] [] (bool (decide (e.day ≤ asof ∧ e.on_ ≤ on))) [] := by
  refine AFun.of_W T_ok mixed Try.func89 rfl (Nat.le_of_ble_eq_true rfl) rfl ?_
  repeat' ((conv => whnf); (first | (refine LetN.pre ?_; first | ((conv => arg 1; whnf); refine LetN.mk ?_)) | (refine As.pre ?_; first | refine As.mk rfl ?_) | (refine LetV.pre ?_; first | refine LetV.mk (.sc (.int _ _)) rfl ?_) | (refine LetB.pre ?_; first | (refine LetB.dec (fun _ => ?_) (fun _ => ?_))) | (refine Gd.pre ?_; first | refine Gd.run rfl ?_ | refine Gd.pass rfl ?_) | (refine Ck.pre ?_; first | refine Ck.mk rfl ?_)))
  all_goals (refine ⟨by first | exact .inl rfl | exact .inr rfl, ⟨_, rfl, congrArg (fun b => Go.Proofs.Ytiefcppgbnfbfaa.Am.AV.sc (Go.Value.bool b)) (by first | exact (decide_eq_true (by omega)).symm | exact (decide_eq_false (by omega)).symm | exact Bool.eq_iff_iff.2 (by simp only [decide_eq_true_eq, decide_eq_false_iff_not]; omega) | rfl)⟩, trivial⟩)
theorem of1_f (e : E) (k : Int) : AFun Try.prog 90 0 [en e, .rp (int k) 0] [] (bool (decide (e.kind = k))) [] := by
  refine AFun.of_W T_ok mixed Try.func90 rfl (Nat.le_of_ble_eq_true rfl) rfl ?_
  repeat' ((conv => whnf); (first | (refine LetN.pre ?_; first | ((conv => arg 1; whnf); refine LetN.mk ?_)) | (refine As.pre ?_; first | refine As.mk rfl ?_) | (refine LetV.pre ?_; first | refine LetV.mk (.sc (.int _ _)) rfl ?_) | (refine LetB.pre ?_; first | (refine LetB.dec (fun _ => ?_) (fun _ => ?_))) | (refine Ck.pre ?_; first | refine Ck.mk rfl ?_)))
  all_goals (refine ⟨by first | exact .inl rfl | exact .inr rfl, ⟨_, rfl, congrArg (fun b => Go.Proofs.Ytiefcppgbnfbfaa.Am.AV.sc (Go.Value.bool b)) (by first | exact (decide_eq_true (by omega)).symm | exact (decide_eq_false (by omega)).symm | exact Bool.eq_iff_iff.2 (by simp only [decide_eq_true_eq, decide_eq_false_iff_not]; omega) | rfl)⟩, trivial⟩)
theorem to1_f (e : E) (k : Int) : AFun Try.prog 91 0 [en e, .rp (int k) 0] [] (bool (decide (e.ref = k))) [] := by
  refine AFun.of_W T_ok mixed Try.func91 rfl (Nat.le_of_ble_eq_true rfl) rfl ?_
  repeat' ((conv => whnf); (first | (refine LetN.pre ?_; first | ((conv => arg 1; whnf); refine LetN.mk ?_)) | (refine As.pre ?_; first | refine As.mk rfl ?_) | (refine LetV.pre ?_; first | refine LetV.mk (.sc (.int _ _)) rfl ?_) | (refine LetB.pre ?_; first | (refine LetB.dec (fun _ => ?_) (fun _ => ?_))) | (refine Ck.pre ?_; first | refine Ck.mk rfl ?_)))
  all_goals (refine ⟨by first | exact .inl rfl | exact .inr rfl, ⟨_, rfl, congrArg (fun b => Go.Proofs.Ytiefcppgbnfbfaa.Am.AV.sc (Go.Value.bool b)) (by first | exact (decide_eq_true (by omega)).symm | exact (decide_eq_false (by omega)).symm | exact Bool.eq_iff_iff.2 (by simp only [decide_eq_true_eq, decide_eq_false_iff_not]; omega) | rfl)⟩, trivial⟩)
/-- A condition on entries: a closure, and what it says. -/
structure Cd where
  f : Nat
  caps : List AV
  p : E → Bool
abbrev Cd.av (c : Cd) : AV := .clo c.f c.caps
structure Cd.Ok (c : Cd) : Prop where
  run : ∀ e, AFun Try.prog c.f 0 (en e :: c.caps) [] (bool (c.p e)) []
  call : callable Try.prog c.f = true
  pure : AV.namesL (fun _ => false) c.caps = true
theorem Cd.Ok.names {c : Cd} (h : c.Ok) (e : E) : AV.namesL (fun _ => false) (en e :: c.caps) = true := by
  simp only [AV.namesL, h.pure]; rfl
theorem Cd.Ok.names1 {c : Cd} (h : c.Ok) (e : E) : AV.namesL (fun _ => false) [c.av, .rp (en e) 0] = true := by
  simp only [AV.namesL, AV.names, h.pure]; rfl
abbrev cCounts (asof on : Int) : Cd := ⟨89, [.rp (int asof) 0, .rp (int on) 0], fun e => decide (e.day ≤ asof ∧ e.on_ ≤ on)⟩
abbrev cOf (k : Int) : Cd := ⟨90, [.rp (int k) 0], fun e => decide (e.kind = k)⟩
abbrev cTo (k : Int) : Cd := ⟨91, [.rp (int k) 0], fun e => decide (e.ref = k)⟩
theorem cCounts_ok (asof on : Int) : (cCounts asof on).Ok := ⟨fun e => counts1_f e asof on, by kernel_rfl, rfl⟩
theorem cOf_ok (k : Int) : (cOf k).Ok := ⟨fun e => of1_f e k, by kernel_rfl, rfl⟩
theorem cTo_ok (k : Int) : (cTo k).Ok := ⟨fun e => to1_f e k, by kernel_rfl, rfl⟩
theorem counts_f (asof on : Int) : AFun Try.prog 64 0 [int asof, int on] [] (cCounts asof on).av [] := by
  have h : AFun Try.prog 64 0 [int asof, int on] [] (.clo 89 [.ptr 0 1 0 0, .ptr 1 1 0 0]) [(0, .row 1 3 [int asof]), (1, .row 1 3 [int on])] := by
    refine AFun.of_W T_ok mixed Try.func64 rfl (Nat.le_of_ble_eq_true rfl) rfl ?_
    ((repeat ((conv => whnf); (first | (refine LetN.pre ?_; first | ((conv => arg 1; whnf); refine LetN.mk ?_)) | (refine As.pre ?_; first | refine As.mk rfl ?_) | (refine Ck.pre ?_; first | refine Ck.mk rfl ?_)))); (try (conv => whnf)))
    exact ⟨.inl rfl, ⟨_, rfl, rfl⟩, rfl, rfl, trivial⟩
  exact AFun.frz [0, 1] h rfl rfl rfl
theorem of_f (k : Int) : AFun Try.prog 65 0 [int k] [] (cOf k).av [] := by
  have h : AFun Try.prog 65 0 [int k] [] (.clo 90 [.ptr 0 1 0 0]) [(0, .row 1 3 [int k])] := by
    refine AFun.of_W T_ok mixed Try.func65 rfl (Nat.le_of_ble_eq_true rfl) rfl ?_
    ((repeat ((conv => whnf); (first | (refine LetN.pre ?_; first | ((conv => arg 1; whnf); refine LetN.mk ?_)) | (refine As.pre ?_; first | refine As.mk rfl ?_) | (refine Ck.pre ?_; first | refine Ck.mk rfl ?_)))); (try (conv => whnf)))
    exact ⟨.inl rfl, ⟨_, rfl, rfl⟩, rfl, trivial⟩
  exact AFun.frz [0] h rfl rfl rfl
theorem to_f (k : Int) : AFun Try.prog 66 0 [int k] [] (cTo k).av [] := by
  have h : AFun Try.prog 66 0 [int k] [] (.clo 91 [.ptr 0 1 0 0]) [(0, .row 1 3 [int k])] := by
    refine AFun.of_W T_ok mixed Try.func66 rfl (Nat.le_of_ble_eq_true rfl) rfl ?_
    ((repeat ((conv => whnf); (first | (refine LetN.pre ?_; first | ((conv => arg 1; whnf); refine LetN.mk ?_)) | (refine As.pre ?_; first | refine As.mk rfl ?_) | (refine Ck.pre ?_; first | refine Ck.mk rfl ?_)))); (try (conv => whnf)))
    exact ⟨.inl rfl, ⟨_, rfl, rfl⟩, rfl, trivial⟩
  exact AFun.frz [0] h rfl rfl rfl
/-! ### The entries for which all conditions hold -/
theorem chosen1_f {c : Cd} (hc : c.Ok) (e : E) : AFun Try.prog 88 0 [c.av, .rp (en e) 0] [] (bool (!c.p e)) [] := by
  refine AFun.of_W T_ok mixed Try.func88 rfl (Nat.le_of_ble_eq_true rfl) rfl ?_
  ((repeat ((conv => whnf); (first | (refine As.pre ?_; first | refine As.mk rfl ?_) | (refine LetV.pre ?_; first | refine LetV.mk (.agg _) rfl ?_) | (refine Ck.pre ?_; first | refine Ck.mk rfl ?_ | refine Ck.mk hc.call ?_) | (refine CallN.pre ?_; first | refine CallN.pure (hc.run e) (hc.names e) rfl ?_) | refine forceAs.pass ?_))); (try (conv => whnf)))


  exact ⟨.inl rfl, ⟨_, rfl, rfl⟩, trivial⟩
/-- The first index at which p holds, from k on; -1: none. -/
def fidx {α : Type} (p : α → Bool) : List α → Nat → Int
  | [], _ => -1
  | a :: l, k => if p a then (k : Int) else fidx p l (k + 1)
theorem fidx_drop {α : Type} {p : α → Bool} {l : List α} {k : Nat} (h : k < l.length) (d : α) : fidx p (l.drop k) k = if p (l.getD k d) then (k : Int) else fidx p (l.drop (k + 1)) (k + 1) := by
  rw [List.drop_eq_getElem_cons h, List.getD_eq_getElem?_getD, List.getElem?_eq_getElem h]; rfl
theorem fidx_end {α : Type} {p : α → Bool} {l : List α} {k : Nat} (h : ¬ k < l.length) : fidx p (l.drop k) k = -1 := by
  rw [List.drop_eq_nil_of_le (by omega)]; rfl
theorem fidx_nonneg {α : Type} {p : α → Bool} : ∀ (l : List α) (k : Nat), (0 ≤ fidx p l k) ↔ l.any p = true
  | [], k => by simp [fidx]
  | a :: l, k => by
    unfold fidx
    cases hp : p a with
    | true => simp [hp]
    | false => simp [hp, fidx_nonneg l (k + 1)]
abbrev cd0 : Cd := cOf 0
abbrev clos (cs : List Cd) : List AV := cs.map Cd.av
theorem IndexC_f (cs : List Cd) (hc : ∀ c ∈ cs, c.Ok) (e : E) (fl : Fl) (hl : cs.length ≤ 1000) : AFun Try.prog 103 0 [.ro fl 1 (clos cs), .clo 88 [.rp (en e) 0]] [] (int (fidx (fun c => !c.p e) cs 0)) [] := by
  refine AFun.of_W T_ok mixed Try.func103 rfl (Nat.le_of_ble_eq_true rfl) rfl ?_
  ((repeat ((conv => whnf); (first | (refine As.pre ?_; first | refine As.mk rfl ?_) | (refine LetI.pre ?_; first | refine LetI.mk _ rfl ?_) | (refine Ck.pre ?_; first | refine Ck.mk rfl ?_)))); (try (conv => whnf)))
  have hn : AV.namesL (fun _ => false) (clos cs) = true := by
    rw [namesL_all, List.all_map]
    exact List.all_eq_true.2 fun c h => (hc c h).pure
  have hm : (clos cs).length = cs.length := List.length_map _
  refine LoopN.weak (s1 := ⟨[(0, .ro fl 1 (clos cs)), (1, .clo 88 [.rp (en e) 0]), (6, .ro fl 1 (clos cs)), (7, int cs.length), (8, int (0 : Nat))], [], 0⟩) (SW.fr0 (Nat.le_refl _) rfl ⟨.refl _, .refl _, .refl _, VLe2.int (by rw [hm]), .refl _, trivial⟩) ?_
  refine LoopN.ind T_ok mixed (S := fun k : Nat => ⟨[(0, .ro fl 1 (clos cs)), (1, .clo 88 [.rp (en e) 0]), (6, .ro fl 1 (clos cs)), (7, int cs.length), (8, int k)], [], 0⟩) (fun k => cs.length - k) (fun k => k ≤ cs.length ∧ fidx (fun c => !c.p e) cs 0 = fidx (fun c => !c.p e) (cs.drop k) k) (fun _ => rfl) (fun k hk ih => ?_) 0 ⟨Nat.zero_le _, rfl⟩
  obtain ⟨h1, h2⟩ := hk
  by_cases hlt : k < cs.length
  case neg =>
    rw [fidx_end hlt] at h2
    rw [h2]
    clear ih
    ((repeat ((conv => whnf); (first | (refine As.pre ?_; first | refine As.mk rfl ?_) | (refine LetB.pre ?_; first | refine LetB.decf (by omega) ?_) | (refine Br.pre ?_; first | refine Br.ff rfl ?_) | (refine Ck.pre ?_; first | refine Ck.mk rfl ?_)))); (try (conv => whnf)))
    exact ⟨.inl rfl, ⟨_, rfl, rfl⟩, trivial⟩
  case pos =>
    rw [fidx_drop hlt cd0] at h2
    have hld : (cs.getD k cd0).av = (clos cs).getD k (.sc undef) := mapD cd0 hlt
    have hin : cs.getD k cd0 ∈ cs := by
      rw [List.getD_eq_getElem?_getD, List.getElem?_eq_getElem hlt]
      exact List.getElem_mem _
    have hok := hc _ hin
    generalize cs.getD k cd0 = c at hld h2 hok
    have hck := chosen1_f hok e
    cases hp : c.p e with
    | true =>
      rw [hp] at hck h2
      simp only [Bool.not_true, Bool.false_eq_true, if_false] at h2 hck
      ((repeat ((conv => whnf); (first | (refine As.pre ?_; first | refine As.mk rfl ?_ | (refine As.mk ?_ ?_; · ((repeat' (refine andT ?_ ?_)) <;> (first | rfl | assumption | exact decide_eq_true (by omega) | exact decide_eq_true (by dsimp only; omega) | exact decide_eq_true (by simp; omega) | (simp; done))))) | (refine LetV.pre ?_; first | refine LetV.mk (t := 124) _ hld ?_ | refine LetV.mk (.clo _ _ _) rfl ?_) | (refine LetI.pre ?_; first | refine LetI.wrap (by omega) (by omega) ?_) | (refine LetB.pre ?_; first | refine LetB.dect (by omega) ?_) | (refine Br.pre ?_; first | refine Br.tt rfl ?_ | refine Br.ff rfl ?_) | (refine Ck.pre ?_; first | refine Ck.mk rfl ?_) | (refine CallN.pre ?_; first | refine CallN.pure hck (hok.names1 e) rfl ?_) | refine forceAs.pass ?_))); (try (conv => whnf)))


      refine LoopN.weak ?_ (ih (k + 1) ⟨by omega, h2⟩ (by omega))
      exact SW.fr0 (Nat.le_refl _) rfl ⟨.refl _, .refl _, .refl _, .refl _, VLe2.int (by omega), trivial⟩
    | false =>
      rw [hp] at hck h2
      simp only [Bool.not_false, if_true] at h2 hck
      rw [h2]
      clear ih
      ((repeat ((conv => whnf); (first | (refine As.pre ?_; first | refine As.mk rfl ?_ | (refine As.mk ?_ ?_; · ((repeat' (refine andT ?_ ?_)) <;> (first | rfl | assumption | exact decide_eq_true (by omega) | exact decide_eq_true (by dsimp only; omega) | exact decide_eq_true (by simp; omega) | (simp; done))))) | (refine LetV.pre ?_; first | refine LetV.mk (t := 124) _ hld ?_ | refine LetV.mk (.clo _ _ _) rfl ?_) | (refine LetB.pre ?_; first | refine LetB.dect (by omega) ?_) | (refine Br.pre ?_; first | refine Br.tt rfl ?_) | (refine Ck.pre ?_; first | refine Ck.mk rfl ?_) | (refine CallN.pre ?_; first | refine CallN.pure hck (hok.names1 e) rfl ?_) | refine forceAs.pass ?_))); (try (conv => whnf)))


      exact ⟨.inl rfl, ⟨_, rfl, rfl⟩, trivial⟩
end En
end Go.Proofs.Ytiefcppgbnfbfaa
namespace Go.Proofs.Ytiefcppgbnfbfaa
open Go.Proofs.Ytiefcppgbnfbfaa.Am
set_option maxRecDepth 100000
namespace En
theorem ContainsC_f (cs : List Cd) (hc : ∀ c ∈ cs, c.Ok) (e : E) (fl : Fl) (hl : cs.length ≤ 1000) : AFun Try.prog 87 0 [.ro fl 1 (clos cs), .clo 88 [.rp (en e) 0]] [] (bool (cs.any (fun c => !c.p e))) [] := by
  refine AFun.of_W T_ok mixed Try.func87 rfl (Nat.le_of_ble_eq_true rfl) rfl ?_
  have hi := IndexC_f cs hc e fl hl
  have hk := fidx_nonneg (p := fun c : Cd => !c.p e) cs 0
  generalize fidx (fun c : Cd => !c.p e) cs 0 = r at hi hk
  have hb : decide (r ≥ 0) = cs.any (fun c => !c.p e) := Bool.eq_iff_iff.2 (by simp only [decide_eq_true_eq]; exact hk)
  ((repeat ((conv => whnf); (first | (refine As.pre ?_; first | refine As.mk rfl ?_) | (refine LetB.pre ?_; first | refine LetB.mk _ hb.symm ?_) | (refine Ck.pre ?_; first | refine Ck.mk rfl ?_) | (refine CallN.pre ?_; first | refine CallN.pure hi rfl rfl ?_)))); (try (conv => whnf)))


  exact ⟨.inl rfl, ⟨_, rfl, rfl⟩, trivial⟩
/-- The entries for which all conditions hold. -/
abbrev chos (l : List E) (cs : List Cd) : List E := l.filter fun e => cs.all (·.p e)
theorem any_all (cs : List Cd) (e : E) : (!(cs.any fun c => !c.p e)) = cs.all (·.p e) := by
  rw [Bool.eq_iff_iff]; simp
theorem stor1 (e : E) : storables [en e] = true := rfl
theorem take_en (l : List E) (n : Nat) (h : n = l.length) : (l.map en).take n = l.map en := List.take_of_length_le (by simp [h])
theorem app_en (l : List E) (e : E) (n : Nat) (h : n = l.length) : (l ++ [e]).map en = (l.map en).take n ++ [en e] := by rw [take_en l n h, List.map_append]; rfl
theorem room_en {n : Nat} (h : n ≤ 1000000) : room n 136 = true := by
  simp only [room, Bool.and_eq_true, decide_eq_true_eq]
  exact ⟨by omega, rfl⟩
theorem filt_succ {α : Type} {q : α → Bool} {l : List α} {k : Nat} (h : k < l.length) (d : α) : (l.take (k + 1)).filter q = (l.take k).filter q ++ if q (l.getD k d) then [l.getD k d] else [] := by
  rw [List.take_succ_eq_append_getElem h, List.filter_append, List.getD_eq_getElem?_getD, List.getElem?_eq_getElem h]
  congr 1
  simp [List.filter_cons]
theorem en_app_names (l : List E) (ok : Nat → Bool) : AV.namesL ok (l.map en) = true := namesL_none (pure_en l)
abbrev chosS (l : List E) (cs : List Cd) (fl fl' : Fl) : Nat × List E → AS
  | (k, out) => ⟨[(0, .ro fl 15 (l.map en)), (1, .ro fl' 1 (clos cs)), (4, .slm {} 0 15 0 out.length), (7, .ro fl 15 (l.map en)), (8, int l.length), (9, int k)], [(0, .row 15 37 (out.map en))], 1⟩
theorem chosen_s (l : List E) (cs : List Cd) (hc : ∀ c ∈ cs, c.Ok) (fl fl' : Fl) (hl : l.length ≤ 100000) (hl2 : cs.length ≤ 1000) : AFun Try.prog 63 0 [.ro fl 15 (l.map en), .ro fl' 1 (clos cs)] [] (.slm {} 0 15 0 (chos l cs).length) [(0, .row 15 37 ((chos l cs).map en))] := by
  refine AFun.of_S T_ok mixed Try.func63 rfl (Nat.le_of_ble_eq_true rfl) rfl ?_
  ((repeat ((conv => whnf); (first | (refine As.pre ?_; first | refine As.mk rfl ?_) | (refine LetI.pre ?_; first | refine LetI.mk _ rfl ?_) | (refine Ck.pre ?_; first | refine Ck.mk rfl ?_)))); (try (conv => whnf)))
  refine LoopN.weak (s1 := chosS l cs fl fl' (0, [])) ?sw1 ?_
  case sw1 => exact SW.mk id rfl rfl rfl ⟨.refl _, .refl _, VLe2.nilslm, .refl _, VLe2.int (by rw [List.length_map]), .refl _, trivial⟩ (haveV.nil (Nat.le_refl _) trivial)
  refine LoopN.ind T_ok mixed (S := chosS l cs fl fl') (fun i => l.length - i.1) (fun i => i.1 ≤ l.length ∧ i.2 = (l.take i.1).filter fun e => cs.all (·.p e)) (fun _ => rfl) (fun i hi ih => ?_) (0, []) ⟨Nat.zero_le _, rfl⟩
  obtain ⟨k, out⟩ := i
  obtain ⟨h1, h2⟩ := hi
  simp only at h1 h2 ih
  by_cases hlt : k < l.length
  case neg =>
    have hk : k = l.length := by omega
    subst hk
    rw [List.take_length] at h2
    subst h2
    clear ih
    ((repeat ((conv => whnf); (first | (refine As.pre ?_; first | refine As.mk rfl ?_) | (refine LetB.pre ?_; first | refine LetB.decf (by omega) ?_) | (refine Br.pre ?_; first | refine Br.ff rfl ?_) | (refine Ck.pre ?_; first | refine Ck.mk rfl ?_)))); (try (conv => whnf)))
    exact ⟨⟨[(4, .slm {} 0 15 0 (chos l cs).length)], [(0, .row 15 37 ((chos l cs).map en))], 1⟩, SW.mk id rfl rfl (namesAll.row (pure_en _) rfl) ⟨.refl _, trivial⟩ (haveV.row (pure_en _) rfl trivial), .inl rfl, ⟨_, rfl, rfl⟩, rfl, trivial⟩
  case pos =>
    have hld : en (l.getD k e0) = (l.map en).getD k (.sc undef) := mapD e0 hlt
    have hq := filt_succ (q := fun e => cs.all (·.p e)) hlt e0
    rw [← h2] at hq
    have hol : out.length ≤ 100000 := by
      rw [h2]
      have := List.length_filter_le (fun e => cs.all (·.p e)) (l.take k)
      simp only [List.length_take] at this
      omega
    clear h2
    generalize l.getD k e0 = e at hld hq
    have hcon := ContainsC_f cs hc e fl' hl2
    have haa := any_all cs e
    have hr := room_en (n := out.length + 1) (by omega)
    have hcl : (l.map en).length = l.length := List.length_map _
    have hol2 : (out.map en).length = out.length := List.length_map _
    cases hp : cs.all (·.p e) with
    | true =>
      simp only [hp, if_true] at hq
      rw [hp] at haa
      have hcf : (cs.any fun c => !c.p e) = false := by simpa using haa
      rw [hcf] at hcon
      ((repeat ((conv => whnf); (first | (refine LetN.pre ?_; first | ((conv => arg 1; whnf); refine LetN.mk ?_)) | (refine As.pre ?_; first | refine As.mk rfl ?_ | (refine As.mk ?_ ?_; · ((repeat' (refine andT ?_ ?_)) <;> (first | rfl | assumption | exact decide_eq_true (by omega) | exact decide_eq_true (by dsimp only; omega) | exact decide_eq_true (by simp; omega) | (simp; done))))) | (refine LetV.pre ?_; first | refine LetV.mk (t := 30) _ hld ?_ | refine LetV.mk (.agg _) rfl ?_) | (refine LetI.pre ?_; first | refine LetI.wrap (by omega) (by omega) ?_) | (refine LetB.pre ?_; first | refine LetB.dect (by omega) ?_) | (refine Br.pre ?_; first | refine Br.tt rfl ?_) | (refine Ck.pre ?_; first | refine Ck.mk rfl ?_) | (refine LetL.pre ?_; first | refine LetL.mk (ty := 37) _ (app_en out e _ (by omega)) ?_ | refine LetL.mk [_] rfl ?_) | (refine CallN.pre ?_; first | refine CallN.lend hcon rfl (.same rfl (.clo (.ptr rfl rfl rfl .nil) .nil)) ?_)))); (try (conv => whnf)))



      refine LoopN.weak ?sw2 (ih (k + 1, out ++ [e]) ⟨by omega, hq.symm⟩ (by omega))
      case sw2 => exact SW.mk (fun _ => 2) rfl rfl (namesAll.row (pure_en _) rfl) ⟨.refl _, .refl _, VLe2.slm_of (by simp), .refl _, .refl _, VLe2.int (by omega), trivial⟩ (haveV.row (pure_en _) rfl trivial)
    | false =>
      simp only [hp, Bool.false_eq_true, if_false, List.append_nil] at hq
      rw [hp] at haa
      have hcf : (cs.any fun c => !c.p e) = true := by simpa using haa
      rw [hcf] at hcon
      ((repeat ((conv => whnf); (first | (refine LetN.pre ?_; first | ((conv => arg 1; whnf); refine LetN.mk ?_)) | (refine As.pre ?_; first | refine As.mk rfl ?_ | (refine As.mk ?_ ?_; · ((repeat' (refine andT ?_ ?_)) <;> (first | rfl | assumption | exact decide_eq_true (by omega) | exact decide_eq_true (by dsimp only; omega) | exact decide_eq_true (by simp; omega) | (simp; done))))) | (refine LetV.pre ?_; first | refine LetV.mk (t := 30) _ hld ?_ | refine LetV.mk (.agg _) rfl ?_) | (refine LetI.pre ?_; first | refine LetI.wrap (by omega) (by omega) ?_) | (refine LetB.pre ?_; first | refine LetB.dect (by omega) ?_) | (refine Br.pre ?_; first | refine Br.tt rfl ?_ | refine Br.ff rfl ?_) | (refine Ck.pre ?_; first | refine Ck.mk rfl ?_) | (refine LetL.pre ?_; first | refine LetL.mk [_] rfl ?_) | (refine CallN.pre ?_; first | refine CallN.lend hcon rfl (.same rfl (.clo (.ptr rfl rfl rfl .nil) .nil)) ?_)))); (try (conv => whnf)))


      refine LoopN.weak ?sw3 (ih (k + 1, out) ⟨by omega, hq.symm⟩ (by omega))
      case sw3 => exact SW.mk id rfl rfl (namesAll.row (pure_en _) rfl) ⟨.refl _, .refl _, .refl _, .refl _, .refl _, VLe2.int (by omega), trivial⟩ (haveV.row (pure_en _) rfl trivial)
theorem chosen_f (l : List E) (cs : List Cd) (hc : ∀ c ∈ cs, c.Ok) (fl fl' : Fl) (hl : l.length ≤ 100000) (hl2 : cs.length ≤ 1000) : AFun Try.prog 63 0 [.ro fl 15 (l.map en), .ro fl' 1 (clos cs)] [] (.ro {} 15 ((chos l cs).map en)) [] :=
  AFun.frz1 (H := []) (chosen_s l cs hc fl fl' hl hl2) rfl (pure_en _) (by simp)
end En
end Go.Proofs.Ytiefcppgbnfbfaa
namespace Go.Proofs.Ytiefcppgbnfbfaa
open Go.Proofs.Ytiefcppgbnfbfaa.Am
set_option maxRecDepth 100000
namespace En
/-- The order of two numbers. -/
def cmpI (a b : Int) : Int := if a < b then -1 else if b < a then 1 else 0
def firstNZ : List Int → Int
  | [] => 0
  | x :: l => if x = 0 then firstNZ l else x
theorem isNaN_f (a : Int) : AFun Try.prog 100 0 [int a] [] (bool false) [] := by
  refine AFun.of_W T_ok mixed Try.func100 rfl (Nat.le_of_ble_eq_true rfl) rfl ?_
  have h : (a != a) = false := by simp
  ((repeat ((conv => whnf); (first | (refine As.pre ?_; first | refine As.mk rfl ?_) | (refine LetB.pre ?_; first | refine LetB.ff (by assumption) ?_) | (refine Ck.pre ?_; first | refine Ck.mk rfl ?_)))); (try (conv => whnf)))
  exact ⟨.inl rfl, ⟨_, rfl, rfl⟩, trivial⟩
theorem Compare_f (a b : Int) : AFun Try.prog 82 0 [int a, int b] [] (int (cmpI a b)) [] := by
  refine AFun.of_W T_ok mixed Try.func82 rfl (Nat.le_of_ble_eq_true rfl) rfl ?_
  unfold cmpI
  repeat' ((conv => whnf); (first | (refine As.pre ?_; first | refine As.mk rfl ?_) | (refine LetB.pre ?_; first | (refine LetB.dec (fun _ => ?_) (fun _ => ?_))) | (refine Br.pre ?_; first | refine Br.tt rfl ?_ | refine Br.ff rfl ?_) | (refine Ck.pre ?_; first | refine Ck.mk rfl ?_) | (refine CallN.pre ?_; first | refine CallN.pure (isNaN_f _) rfl rfl ?_)))
  all_goals
    refine ⟨.inl rfl, ⟨_, rfl, congrArg int ?_⟩, trivial⟩
    first | (rw [if_pos (by omega)]; done) | (rw [if_neg (by omega), if_pos (by omega)]; done) | (rw [if_neg (by omega), if_neg (by omega)]; done)
theorem Or_f (xs : List Int) (fl : Fl) (hl : xs.length ≤ 1000) : AFun Try.prog 81 0 [.ro fl 1 (xs.map int)] [] (int (firstNZ xs)) [] := by
  refine AFun.of_W T_ok mixed Try.func81 rfl (Nat.le_of_ble_eq_true rfl) rfl ?_
  ((repeat ((conv => whnf); (first | (refine As.pre ?_; first | refine As.mk rfl ?_) | (refine LetI.pre ?_; first | refine LetI.mk _ rfl ?_) | (refine Ck.pre ?_; first | refine Ck.mk rfl ?_)))); (try (conv => whnf)))
  refine LoopN.weak (s1 := ⟨[(3, int 0), (6, .ro fl 1 (xs.map int)), (7, int xs.length), (8, int (0 : Nat))], [], 0⟩) (SW.fr0 (Nat.le_refl _) rfl ⟨.refl _, .refl _, VLe2.int (by rw [List.length_map]), .refl _, trivial⟩) ?_
  refine LoopN.ind T_ok mixed (S := fun k : Nat => ⟨[(3, int 0), (6, .ro fl 1 (xs.map int)), (7, int xs.length), (8, int k)], [], 0⟩) (fun k => xs.length - k) (fun k => k ≤ xs.length ∧ firstNZ xs = firstNZ (xs.drop k)) (fun _ => rfl) (fun k hk ih => ?_) 0 ⟨Nat.zero_le _, rfl⟩
  obtain ⟨h1, h2⟩ := hk
  have hm : (xs.map int).length = xs.length := List.length_map _
  by_cases hlt : k < xs.length
  case neg =>
    rw [List.drop_eq_nil_of_le (by omega)] at h2
    rw [h2]
    clear ih
    ((repeat ((conv => whnf); (first | (refine As.pre ?_; first | refine As.mk rfl ?_) | (refine LetB.pre ?_; first | refine LetB.decf (by omega) ?_) | (refine Br.pre ?_; first | refine Br.ff rfl ?_) | (refine Ck.pre ?_; first | refine Ck.mk rfl ?_)))); (try (conv => whnf)))
    exact ⟨.inl rfl, ⟨_, rfl, rfl⟩, trivial⟩
  case pos =>
    have hld : int (xs.getD k 0) = (xs.map int).getD k (.sc undef) := mapD 0 hlt
    rw [List.drop_eq_getElem_cons hlt, show xs[k] = xs.getD k 0 by rw [List.getD_eq_getElem?_getD, List.getElem?_eq_getElem hlt]; rfl] at h2
    generalize xs.getD k 0 = x at hld h2
    by_cases hx : x = 0
    · rw [firstNZ, if_pos hx] at h2
      ((repeat ((conv => whnf); (first | (refine As.pre ?_; first | refine As.mk rfl ?_ | (refine As.mk ?_ ?_; · ((repeat' (refine andT ?_ ?_)) <;> (first | rfl | assumption | exact decide_eq_true (by omega) | exact decide_eq_true (by dsimp only; omega) | exact decide_eq_true (by simp; omega) | (simp; done))))) | (refine LetV.pre ?_; first | refine LetV.mk (t := 22) _ hld ?_ | refine LetV.mk (.sc (.int _ _)) rfl ?_) | (refine LetI.pre ?_; first | refine LetI.wrap (by omega) (by omega) ?_) | (refine LetB.pre ?_; first | refine LetB.dect (by omega) ?_ | refine LetB.bnef (by omega) ?_) | (refine Br.pre ?_; first | refine Br.tt rfl ?_ | refine Br.ff rfl ?_) | (refine Ck.pre ?_; first | refine Ck.mk rfl ?_)))); (try (conv => whnf)))
      refine LoopN.weak ?_ (ih (k + 1) ⟨by omega, h2⟩ (by omega))
      exact SW.fr0 (Nat.le_refl _) rfl ⟨.refl _, .refl _, .refl _, VLe2.int (by omega), trivial⟩
    · rw [firstNZ, if_neg hx] at h2
      rw [h2]
      clear ih
      ((repeat ((conv => whnf); (first | (refine As.pre ?_; first | refine As.mk rfl ?_ | (refine As.mk ?_ ?_; · ((repeat' (refine andT ?_ ?_)) <;> (first | rfl | assumption | exact decide_eq_true (by omega) | exact decide_eq_true (by dsimp only; omega) | exact decide_eq_true (by simp; omega) | (simp; done))))) | (refine LetV.pre ?_; first | refine LetV.mk (t := 22) _ hld ?_ | refine LetV.mk (.sc (.int _ _)) rfl ?_) | (refine LetB.pre ?_; first | refine LetB.dect (by omega) ?_ | refine LetB.bnet (by omega) ?_) | (refine Br.pre ?_; first | refine Br.tt rfl ?_) | (refine Ck.pre ?_; first | refine Ck.mk rfl ?_)))); (try (conv => whnf)))
      exact ⟨.inl rfl, ⟨_, rfl, rfl⟩, trivial⟩
theorem Or2_f (x y : Int) (fl : Fl) : AFun Try.prog 81 0 [.ro fl 1 [int x, int y]] [] (int (firstNZ [x, y])) [] := Or_f [x, y] fl (by simp)
/-- The order of entries. -/
def cmpE (o : Bool) (a b : E) : Int := if o then firstNZ [cmpI a.on_ b.on_, cmpI a.id b.id] else cmpI a.id b.id
theorem compare_f (o : Bool) (a b : E) : AFun Try.prog 86 0 [.agg [bool o], en a, en b] [] (int (cmpE o a b)) [] := by
  refine AFun.of_W T_ok mixed Try.func86 rfl (Nat.le_of_ble_eq_true rfl) rfl ?_
  cases o <;>
  (((repeat ((conv => whnf); (first | (refine LetN.pre ?_; first | ((conv => arg 1; whnf); refine LetN.mk ?_)) | (refine As.pre ?_; first | refine As.mk rfl ?_) | (refine LetV.pre ?_; first | refine LetV.mk (.sc (.int _ _)) rfl ?_ | refine LetV.mk (.sc (.bool _)) rfl ?_) | (refine Br.pre ?_; first | refine Br.tt rfl ?_ | refine Br.ff rfl ?_) | (refine Ck.pre ?_; first | refine Ck.drawn (by kernel_rfl) ?_ | refine Ck.mk rfl ?_) | (refine CallN.pre ?_; first | refine CallN.pure (Compare_f _ _) rfl rfl ?_ | refine CallN.pure (Or2_f _ _ _) rfl rfl ?_)))); (try (conv => whnf)))
   exact ⟨.inl rfl, ⟨_, rfl, rfl⟩, trivial⟩)
end En
end Go.Proofs.Ytiefcppgbnfbfaa
namespace Go.Proofs.Ytiefcppgbnfbfaa
open Go.Proofs.Ytiefcppgbnfbfaa.Am
set_option maxRecDepth 100000
namespace En
/-- The entry at j sinks to its place. -/
def sink (o : Bool) : List E → Nat → List E
  | l, 0 => l
  | l, j + 1 => if cmpE o (l.getD (j + 1) e0) (l.getD j e0) < 0 then sink o ((l.set (j + 1) (l.getD j e0)).set j (l.getD (j + 1) e0)) j else l
theorem sink_length (o : Bool) : ∀ (j : Nat) (l : List E), (sink o l j).length = l.length
  | 0, l => rfl
  | j + 1, l => by
    unfold sink
    split
    · rw [sink_length o j]; simp
    · rfl
def isr (o : Bool) : Nat → Nat → List E → List E
  | 0, _, l => l
  | f + 1, i, l => isr o f (i + 1) (sink o l i)
theorem isr_length (o : Bool) : ∀ (f i : Nat) (l : List E), (isr o f i l).length = l.length
  | 0, i, l => rfl
  | f + 1, i, l => by rw [isr, isr_length o f, sink_length]
/-- What the library's sorting by insertion gives. -/
def srt (o : Bool) (l : List E) : List E := isr o (l.length - 1) 1 l
theorem srt_length (o : Bool) (l : List E) : (srt o l).length = l.length := isr_length ..
theorem getD_en {l : List E} {k : Nat} (h : k < l.length) : en (l.getD k e0) = Am.part true 15 0 15 ((l.map en).getD (0 + k) (.sc undef)) := by
  rw [Nat.zero_add, List.getD_eq_getElem?_getD, List.getD_eq_getElem?_getD, List.getElem?_map, List.getElem?_eq_getElem h]; rfl
abbrev insO (o : Bool) (n : Nat) (fl : Fl) : Nat × List E → AS
  | (i, l) => ⟨[(0, .slm fl 0 15 0 n), (1, int 0), (2, int n), (3, .clo 86 [.agg [bool o]] 1), (8, int i)], [(0, .row 15 37 (l.map en))], 1⟩
abbrev insI (o : Bool) (n : Nat) (fl : Fl) (i : Nat) : Nat × List E → AS
  | (j, l) => ⟨[(0, .slm fl 0 15 0 n), (1, int 0), (2, int n), (3, .clo 86 [.agg [bool o]] 1), (8, int i), (9, int j)], [(0, .row 15 37 (l.map en))], 1⟩
set_option maxRecDepth 100000 in
theorem insertion_f (o : Bool) (l : List E) (fl : Fl) (hl : l.length ≤ 1000) : AFun Try.prog 106 1 [.slm fl 0 15 0 l.length, int 0, int l.length, .clo 86 [.agg [bool o]] 1] [(0, .row 15 37 (l.map en))] (.tup []) [(0, .row 15 37 ((srt o l).map en))] := by
  obtain ⟨n, hn⟩ : ∃ n, n = l.length := ⟨_, rfl⟩
  have hs : srt o l = isr o (n - 1) 1 l := by rw [hn]; rfl
  generalize hR : srt o l = R at hs
  rw [← hn]
  refine AFun.of_S T_ok mixed Try.func106 rfl (Nat.le_of_ble_eq_true rfl) rfl ?_
  ((repeat ((conv => whnf); (first | (refine As.pre ?_; first | refine As.mk rfl ?_) | (refine LetI.pre ?_; first | refine LetI.wrap (by omega) (by omega) ?_) | (refine Ck.pre ?_; first | refine Ck.mk rfl ?_)))); (try (conv => whnf)))
  refine LoopN.weak (s1 := insO o n fl (1, l)) ?sw1 ?_
  case sw1 => exact SW.mk id rfl rfl (namesAll.row (pure_en _) rfl) ⟨.refl _, .refl _, .refl _, .refl _, VLe2.int rfl, trivial⟩ (haveV.row (pure_en _) rfl trivial)
  refine LoopN.ind T_ok mixed (S := insO o n fl) (fun i => n - i.1) (fun i => 1 ≤ i.1 ∧ i.2.length = n ∧ R = isr o (n - i.1) i.1 i.2) (fun _ => rfl) (fun i hi ih => ?_) (1, l) ⟨Nat.le_refl _, hn.symm, hs⟩
  obtain ⟨i, m⟩ := i
  obtain ⟨h0, h1, h2⟩ := hi
  simp only at h0 h1 h2 ih
  by_cases hlt : i < n
  case neg =>
    rw [show n - i = 0 by omega, isr] at h2
    subst h2
    clear ih
    ((repeat ((conv => whnf); (first | (refine As.pre ?_; first | refine As.mk rfl ?_) | (refine LetB.pre ?_; first | refine LetB.decf (by omega) ?_) | (refine Br.pre ?_; first | refine Br.ff rfl ?_) | (refine Ck.pre ?_; first | refine Ck.mk rfl ?_)))); (try (conv => whnf)))
    exact ⟨⟨[], [(0, .row 15 37 (R.map en))], 1⟩, SW.mk id rfl rfl (namesAll.row (pure_en _) rfl) trivial (haveV.row (pure_en _) rfl trivial), .inr rfl, ⟨_, rfl, rfl⟩, rfl, trivial⟩
  case pos =>
    rw [show n - i = (n - (i + 1)) + 1 by omega, isr] at h2
    have hsl := sink_length o i m
    generalize hQ : sink o m i = Q at h2 hsl
    ((repeat ((conv => whnf); (first | (refine As.pre ?_; first | refine As.mk rfl ?_) | (refine LetB.pre ?_; first | refine LetB.dect (by omega) ?_) | (refine Br.pre ?_; first | refine Br.tt rfl ?_) | (refine Ck.pre ?_; first | refine Ck.mk rfl ?_)))); (try (conv => whnf)))
    refine LoopN.weak (s1 := insI o n fl i (i, m)) ?sw2 ?_
    case sw2 => exact SW.mk id rfl rfl (namesAll.row (pure_en _) rfl) ⟨.refl _, .refl _, .refl _, .refl _, .refl _, .refl _, trivial⟩ (haveV.row (pure_en _) rfl trivial)
    refine LoopN.ind T_ok mixed (S := insI o n fl i) (fun j => j.1) (fun j => j.1 ≤ i ∧ j.2.length = n ∧ Q = sink o j.2 j.1) (fun _ => rfl) (fun j hj ih2 => ?_) (i, m) ⟨Nat.le_refl _, h1, hQ.symm⟩
    obtain ⟨j, m'⟩ := j
    obtain ⟨g0, g1, g2⟩ := hj
    simp only at g0 g1 g2 ih2
    cases j with
    | zero =>
      rw [sink] at g2
      subst g2
      clear ih2
      ((repeat ((conv => whnf); (first | (refine As.pre ?_; first | refine As.mk rfl ?_) | (refine LetI.pre ?_; first | refine LetI.wrap (by omega) (by omega) ?_) | (refine LetB.pre ?_; first | refine LetB.ff rfl ?_) | (refine Gd.pre ?_; first | refine Gd.pass rfl ?_) | (refine Br.pre ?_; first | refine Br.ff rfl ?_) | (refine Ck.pre ?_; first | refine Ck.drawn (by kernel_rfl) ?_ | refine Ck.mk rfl ?_)))); (try (conv => whnf)))
      refine LoopN.weak ?sw3 (ih (i + 1, Q) ⟨by omega, by omega, h2⟩ (by omega))
      case sw3 => exact SW.mk id rfl rfl (namesAll.row (pure_en _) rfl) ⟨.refl _, .refl _, .refl _, .refl _, VLe2.int (by omega), trivial⟩ (haveV.row (pure_en _) rfl trivial)
    | succ j =>
      rw [sink] at g2
      have hm : (m'.map en).length = n := by rw [List.length_map]; exact g1
      have hld1 : en (m'.getD (j + 1) e0) = Am.part true 15 0 15 ((m'.map en).getD (0 + (j + 1)) (.sc undef)) := getD_en (by omega)
      have hld2 : en (m'.getD j e0) = Am.part true 15 0 15 ((m'.map en).getD (0 + j) (.sc undef)) := getD_en (by omega)
      have hsub : (j : Int) = IntKind.i64.wrap (((j + 1 : Nat) : Int) - 1) := by
        rw [wrap_id (by omega) (by omega)]; omega
      have hset1 : (m'.set (j + 1) (m'.getD j e0)).map en = (m'.map en).set (0 + (j + 1)) (en (m'.getD j e0)) := by rw [Nat.zero_add]; exact List.map_set
      have hset : ((m'.set (j + 1) (m'.getD j e0)).set j (m'.getD (j + 1) e0)).map en = ((m'.set (j + 1) (m'.getD j e0)).map en).set (0 + j) (en (m'.getD (j + 1) e0)) := by rw [Nat.zero_add]; exact List.map_set
      have hcmp := compare_f o (m'.getD (j + 1) e0) (m'.getD j e0)
      generalize ha : m'.getD (j + 1) e0 = a at hld1 hset hset1 hcmp g2
      generalize hb : m'.getD j e0 = b at hld2 hset hset1 hcmp g2
      generalize cmpE o a b = r at hcmp g2
      by_cases hr : r < 0
      · rw [if_pos hr] at g2
        ((repeat ((conv => whnf); (first | (refine LetN.pre ?_; first | ((conv => arg 1; whnf); refine LetN.mk ?_)) | (refine As.pre ?_; first | refine As.mk rfl ?_ | (refine As.mk ?_ ?_; · ((repeat' (refine andT ?_ ?_)) <;> (first | rfl | assumption | exact decide_eq_true (by omega) | exact decide_eq_true (by dsimp only; omega) | exact decide_eq_true (by simp; omega) | (simp; done))))) | (refine LetV.pre ?_; first | refine LetV.mk (t := 37) _ hld1 ?_ | refine LetV.mk (t := 37) _ hld2 ?_) | (refine LetI.pre ?_; first | refine LetI.mk (o := some .sub) (j : Int) hsub ?_) | (refine LetB.pre ?_; first | refine LetB.dect (by omega) ?_) | (refine Gd.pre ?_; first | refine Gd.run rfl ?_) | (refine Br.pre ?_; first | refine Br.tt rfl ?_) | (refine Ck.pre ?_; first | refine Ck.drawn (by kernel_rfl) ?_ | refine Ck.mk rfl ?_) | (refine LetL.pre ?_; first | refine LetL.mk (ty := 37) _ hset1 ?_ | refine LetL.mk (ty := 37) _ hset ?_) | (refine CallN.pre ?_; first | refine CallN.pure hcmp rfl rfl ?_)))); (try (conv => whnf)))






        refine LoopN.weak ?sw4 (ih2 (j, (m'.set (j + 1) b).set j a) ⟨by omega, by simp [g1], g2⟩ (by omega))
        case sw4 => exact SW.mk id rfl rfl (namesAll.row (pure_en _) rfl) ⟨.refl _, .refl _, .refl _, .refl _, .refl _, .refl _, trivial⟩ (haveV.row (pure_en _) rfl trivial)
      · rw [if_neg hr] at g2
        subst g2
        clear ih2
        ((repeat ((conv => whnf); (first | (refine As.pre ?_; first | refine As.mk rfl ?_ | (refine As.mk ?_ ?_; · ((repeat' (refine andT ?_ ?_)) <;> (first | rfl | assumption | exact decide_eq_true (by omega) | exact decide_eq_true (by dsimp only; omega) | exact decide_eq_true (by simp; omega) | (simp; done))))) | (refine LetV.pre ?_; first | refine LetV.mk (t := 37) _ hld1 ?_ | refine LetV.mk (t := 37) _ hld2 ?_) | (refine LetI.pre ?_; first | refine LetI.mk (o := some .sub) (j : Int) hsub ?_ | refine LetI.wrap (by omega) (by omega) ?_) | (refine LetB.pre ?_; first | refine LetB.dect (by omega) ?_ | refine LetB.decf (by omega) ?_) | (refine Gd.pre ?_; first | refine Gd.run rfl ?_) | (refine Br.pre ?_; first | refine Br.ff rfl ?_) | (refine Ck.pre ?_; first | refine Ck.drawn (by kernel_rfl) ?_ | refine Ck.mk rfl ?_) | (refine CallN.pre ?_; first | refine CallN.pure hcmp rfl rfl ?_)))); (try (conv => whnf)))




        refine LoopN.weak ?sw3 (ih (i + 1, Q) ⟨by omega, by omega, h2⟩ (by omega))
        case sw3 => exact SW.mk id rfl rfl (namesAll.row (pure_en _) rfl) ⟨.refl _, .refl _, .refl _, .refl _, VLe2.int (by omega), trivial⟩ (haveV.row (pure_en _) rfl trivial)
end En
end Go.Proofs.Ytiefcppgbnfbfaa
namespace Go.Proofs.Ytiefcppgbnfbfaa
open Go.Proofs.Ytiefcppgbnfbfaa.Am
set_option maxRecDepth 100000
namespace En
abbrev ety : TypeId := 37
abbrev cmpV (o : Bool) : AV := .clo 86 [.agg [bool o]] 1
theorem rowOk1 (l l' : List E) (vs : List AV) (v : AV) (hv : AV.namesL (fun i => decide (i < 1)) vs = true) (hv2 : v.names (fun i => decide (i < 1) || [0].contains i) = true) (he : AV.renL id vs = vs) : CallOk 1 id vs [(0, .row 15 ety (l.map en))] v [(0, .row 15 ety (l'.map en))] [(0, .row 15 ety (l.map en))] vs :=
  CallOk.mk' rfl he.symm hv (namesAll.row (pure_en _) rfl) hv2 (namesAll.row (pure_en _) rfl) (haveAll.row (pure_en _) rfl trivial)
set_option maxRecDepth 100000 in
theorem stable_f (o : Bool) (l : List E) (fl : Fl) (hl : l.length < 20) : AFun Try.prog 102 1 [.slm fl 0 15 0 l.length, int l.length, cmpV o] [(0, .row 15 ety (l.map en))] (.tup []) [(0, .row 15 ety ((srt o l).map en))] := by
  refine AFun.of_S T_ok mixed Try.func102 rfl (Nat.le_of_ble_eq_true rfl) rfl ?_
  have hi := insertion_f o l fl (by omega)
  have ok := rowOk1 l (srt o l) [.slm fl 0 15 0 l.length, int 0, int l.length, cmpV o] (.tup []) rfl rfl rfl
  generalize srt o l = R at hi ok ⊢
  ((repeat ((conv => whnf); (first | (refine As.pre ?_; first | refine As.mk rfl ?_) | (refine Ck.pre ?_; first | refine Ck.mk rfl ?_)))); (try (conv => whnf)))
  refine LoopN.round T_ok mixed rfl ?_
  ((repeat ((conv => whnf); (first | (refine LetN.pre ?_; first | ((conv => arg 1; whnf); refine LetN.mk ?_)) | (refine As.pre ?_; first | refine As.mk rfl ?_) | (refine LetB.pre ?_; first | refine LetB.decf (by omega) ?_) | (refine Br.pre ?_; first | refine Br.ff rfl ?_) | (refine Ck.pre ?_; first | refine Ck.mk rfl ?_) | (refine LetL.pre ?_; first | refine LetL.mk (ty := ety) _ (renL_none (pure_en _)).symm ?_) | (refine CallN.pre ?_; first | refine CallN.own id hi ok ?_)))); (try (conv => whnf)))


  refine LoopN.round T_ok mixed rfl ?_
  ((repeat ((conv => whnf); (first | (refine As.pre ?_; first | refine As.mk rfl ?_) | (refine LetB.pre ?_; first | refine LetB.decf (by omega) ?_) | (refine Br.pre ?_; first | refine Br.ff rfl ?_) | (refine Ck.pre ?_; first | refine Ck.mk rfl ?_)))); (try (conv => whnf)))
  exact ⟨⟨[], [(0, .row 15 ety (R.map en))], 1⟩, SW.mk id rfl rfl (namesAll.row (pure_en _) rfl) trivial (haveV.row (pure_en _) (by rfl) trivial), .inr rfl, ⟨_, rfl, rfl⟩, rfl, trivial⟩
theorem sortStable_f (o : Bool) (l : List E) (fl : Fl) (hl : l.length < 20) : AFun Try.prog 85 1 [.slm fl 0 15 0 l.length, cmpV o] [(0, .row 15 ety (l.map en))] (.tup []) [(0, .row 15 ety ((srt o l).map en))] := by
  refine AFun.of_W T_ok mixed Try.func85 rfl (Nat.le_of_ble_eq_true rfl) rfl ?_
  have hi := stable_f o l fl hl
  have ok := rowOk1 l (srt o l) [.slm fl 0 15 0 l.length, int l.length, cmpV o] (.tup []) rfl rfl rfl
  generalize srt o l = R at hi ok ⊢
  ((repeat ((conv => whnf); (first | (refine LetN.pre ?_; first | ((conv => arg 1; whnf); refine LetN.mk ?_)) | (refine As.pre ?_; first | refine As.mk rfl ?_) | (refine LetI.pre ?_; first | refine LetI.mk _ rfl ?_) | (refine Ck.pre ?_; first | refine Ck.mk rfl ?_) | (refine LetL.pre ?_; first | refine LetL.mk (ty := ety) _ (renL_none (pure_en _)).symm ?_) | (refine CallN.pre ?_; first | refine CallN.own id hi ok ?_)))); (try (conv => whnf)))


  exact ⟨.inr rfl, ⟨_, rfl, rfl⟩, rfl, trivial⟩
theorem sorted_f (o : Bool) (l : List E) (fl : Fl) (hl : l.length < 20) : AFun Try.prog 62 1 [.slm fl 0 15 0 l.length, .agg [bool o]] [(0, .row 15 ety (l.map en))] (.slm fl 0 15 0 l.length) [(0, .row 15 ety ((srt o l).map en))] := by
  refine AFun.of_W T_ok mixed Try.func62 rfl (Nat.le_of_ble_eq_true rfl) rfl ?_
  have hi := sortStable_f o l fl hl
  have hnR : ∀ R : List E, CallOk 1 id [.slm fl 0 15 0 l.length, cmpV o] [(0, .row 15 ety (l.map en))] (.tup []) [(0, .row 15 ety (R.map en))] [(0, .row 15 ety (l.map en)), (1, .row 1 109 [.agg [bool o]])] [.slm fl 0 15 0 l.length, cmpV o] := fun R =>
    CallOk.mk' rfl rfl rfl (namesAll.row (pure_en _) rfl) rfl (namesAll.row (pure_en _) rfl) (haveAll.row (pure_en _) rfl trivial)
  generalize srt o l = R at hi ⊢
  have ok := hnR R
  ((repeat ((conv => whnf); (first | (refine LetN.pre ?_; first | ((conv => arg 1; whnf); refine LetN.mk ?_)) | (refine As.pre ?_; first | refine As.mk rfl ?_) | (refine LetV.pre ?_; first | refine LetV.mk (.agg _) rfl ?_) | (refine Ck.pre ?_; first | refine Ck.mk rfl ?_) | (refine LetL.pre ?_; first | refine LetL.mk (ty := ety) _ (renL_none (pure_en _)).symm ?_) | (refine CallN.pre ?_; first | refine CallN.own id hi ok ?_)))); (try (conv => whnf)))


  exact ⟨.inl rfl, ⟨_, rfl, rfl⟩, rfl, trivial⟩
end En
end Go.Proofs.Ytiefcppgbnfbfaa
namespace Go.Proofs.Ytiefcppgbnfbfaa
open Go.Proofs.Ytiefcppgbnfbfaa.Am
set_option maxRecDepth 100000
namespace En
theorem oks1 {a : Cd} (h : a.Ok) : ∀ c ∈ [a], c.Ok := by simpa using h
theorem oks2 {a b : Cd} (h : a.Ok) (k : b.Ok) : ∀ c ∈ [a, b], c.Ok := by
  intro c hc
  simp at hc
  rcases hc with rfl | rfl <;> assumption
theorem oks3 {a b d : Cd} (h : a.Ok) (k : b.Ok) (l : d.Ok) : ∀ c ∈ [a, b, d], c.Ok := by
  intro c hc
  simp at hc
  rcases hc with rfl | rfl | rfl <;> assumption
/-- A finding is lifted. -/
def liftedP (l : List E) (f a o : Int) : Bool := l.any fun e => decide (e.kind = 6) && decide (e.ref = f) && decide (e.day ≤ a ∧ e.on_ ≤ o)
theorem lifted_len (l : List E) (f a o : Int) : liftedP l f a o = decide (((((chos l [cOf 6, cTo f, cCounts a o]).map en).length : Int)) > 0) := by
  rw [Bool.eq_iff_iff, decide_eq_true_eq, List.length_map]
  have : ((chos l [cOf 6, cTo f, cCounts a o]).length : Int) > 0 ↔ 0 < (chos l [cOf 6, cTo f, cCounts a o]).length := by omega
  rw [this, List.length_pos_iff_exists_mem]
  simp [liftedP, chos, and_assoc]
theorem Lifted_f (l : List E) (f a o : Int) (fl : Fl) (hl : l.length ≤ 100000) : AFun Try.prog 67 0 [.ro fl 15 (l.map en), int f, int a, int o] [] (bool (liftedP l f a o)) [] := by
  refine AFun.of_W T_ok mixed Try.func67 rfl (Nat.le_of_ble_eq_true rfl) rfl ?_
  have hc := fun fl' => chosen_f l [cOf 6, cTo f, cCounts a o] (oks3 (cOf_ok 6) (cTo_ok f) (cCounts_ok a o)) fl fl' hl (by simp)
  have hb := lifted_len l f a o
  generalize liftedP l f a o = b at hb ⊢
  generalize chos l [cOf 6, cTo f, cCounts a o] = C at hc hb
  ((repeat ((conv => whnf); (first | (refine As.pre ?_; first | refine As.mk rfl ?_) | (refine LetI.pre ?_; first | refine LetI.mk _ rfl ?_) | (refine LetB.pre ?_; first | refine LetB.mk _ hb ?_) | (refine Ck.pre ?_; first | refine Ck.mk rfl ?_) | (refine CallN.pre ?_; first | refine CallN.pure (of_f _) rfl rfl ?_ | refine CallN.pure (to_f _) rfl rfl ?_ | refine CallN.pure (counts_f _ _) rfl rfl ?_ | refine CallN.pure (hc _) rfl rfl ?_)))); (try (conv => whnf)))





  exact ⟨.inl rfl, ⟨_, rfl, rfl⟩, trivial⟩
theorem take_map_succ {α β : Type} (g : α → β) {l : List α} {k : Nat} (h : k < l.length) (d : α) : (l.take (k + 1)).map g = (l.take k).map g ++ [g (l.getD k d)] := by
  rw [List.take_succ_eq_append_getElem h, List.map_append, List.getD_eq_getElem?_getD, List.getElem?_eq_getElem h]; rfl
end En
end Go.Proofs.Ytiefcppgbnfbfaa
namespace Go.Proofs.Ytiefcppgbnfbfaa
open Go.Proofs.Ytiefcppgbnfbfaa.Am
set_option maxRecDepth 100000
namespace En
/-- A standing. -/
structure St where
  entry : Int
  by_ : Int
  grade : Int
  void : Bool
abbrev stA (s : St) : AV := .agg [int s.entry, int s.by_, int s.grade, bool s.void]
abbrev sty : TypeId := 80
theorem pure_st : ∀ l : List St, AV.namesL (fun _ => false) (l.map stA) = true
  | [] => rfl
  | p :: l => by simp only [List.map_cons, AV.namesL, pure_st l]; rfl
theorem plain_st : ∀ l : List St, AV.plainL (l.map stA) = true
  | [] => rfl
  | p :: l => by simp only [List.map_cons, AV.plainL, plain_st l]; rfl
theorem app_st (l : List St) (e : St) (n : Nat) (h : n = l.length) : (l ++ [e]).map stA = (l.map stA).take n ++ [stA e] := by rw [List.take_of_length_le (by simp [h]), List.map_append]; rfl
theorem room_st {n : Nat} (h : n ≤ 1000000) : room n 32 = true := by
  simp only [room, Bool.and_eq_true, decide_eq_true_eq]
  exact ⟨by omega, rfl⟩
/-- The latest correction: by which entry, its grade, its day, whether there is one. -/
def stepC (x : Int × Int × Int × Bool) (c : E) : Int × Int × Int × Bool := if x.2.2.2 = false ∨ x.2.2.1 < c.day ∨ (c.day = x.2.2.1 ∧ x.1 < c.id) then (c.id, c.grade, c.day, true) else x
def corr (R : List E) (g : E) : Int × Int × Int × Bool := (chos R [cOf 4, cTo g.id]).foldl stepC (0, g.grade, 0, false)
def voidP (R : List E) (a o : Int) (g : E) : Bool := (chos R [cOf 5, cTo g.id]).any fun f => !liftedP R f.id a o
def stand (R : List E) (a o : Int) (g : E) : St := ⟨g.id, (corr R g).1, (corr R g).2.1, voidP R a o g⟩
def atR (l : List E) (a o : Int) : List E := srt false (chos l [cCounts a o])
def atP (l : List E) (a o : Int) : List St := (chos (atR l a o) [cOf 3]).map (stand (atR l a o) a o)
theorem foldl_drop {α β : Type} (f : β → α → β) {l : List α} {k : Nat} (h : k < l.length) (d : α) (x : β) : (l.drop k).foldl f x = (l.drop (k + 1)).foldl f (f x (l.getD k d)) := by
  rw [List.drop_eq_getElem_cons h, List.foldl_cons, List.getD_eq_getElem?_getD, List.getElem?_eq_getElem h]; rfl
theorem any_drop {α : Type} (f : α → Bool) {l : List α} {k : Nat} (h : k < l.length) (d : α) : (l.drop k).any f = (f (l.getD k d) || (l.drop (k + 1)).any f) := by
  rw [List.drop_eq_getElem_cons h, List.any_cons, List.getD_eq_getElem?_getD, List.getElem?_eq_getElem h]; rfl
abbrev atS (R G : List E) (a o : Int) : Nat × List St → AS
  | (k, out) => ⟨[(0, .slm {} 0 15 0 R.length), (1, int a), (2, int o), (6, .slm {} 2 4 0 out.length), (27, .slm {} 1 15 0 G.length), (28, int G.length), (29, int k)], [(0, .row 15 ety (R.map en)), (1, .row 15 ety (G.map en)), (2, .row 4 sty (out.map stA))], 3⟩
abbrev atA (R G C : List E) (a o : Int) (k : Nat) (out : List St) (g : E) : Nat × Int × Int × Int × Bool → AS
  | (i, b, gr, d, s) => ⟨[(0, .slm {} 0 15 0 R.length), (1, int a), (2, int o), (6, .slm {} 2 4 0 out.length), (27, .slm {} 1 15 0 G.length), (28, int G.length), (29, int k), (8, .ptr 3 15 0 0), (9, .ptr 4 4 0 0), (10, int d), (11, bool s), (44, .slm {} 5 15 0 C.length), (45, int C.length), (46, int i)],
      [(0, .row 15 ety (R.map en)), (1, .row 15 ety (G.map en)), (2, .row 4 sty (out.map stA)), (3, .row 15 ety [en g]), (4, .row 4 sty [stA ⟨g.id, b, gr, false⟩]), (5, .row 15 ety (C.map en))], 6⟩
abbrev atB (R G C : List E) (a o : Int) (k : Nat) (out : List St) (g : E) (b gr : Int) : Nat × Bool → AS
  | (i, v) => ⟨[(0, .slm {} 0 15 0 R.length), (1, int a), (2, int o), (6, .slm {} 2 4 0 out.length), (27, .slm {} 1 15 0 G.length), (28, int G.length), (29, int k), (9, .ptr 4 4 0 0), (86, .slm {} 5 15 0 C.length), (87, int C.length), (88, int i)],
      [(0, .row 15 ety (R.map en)), (1, .row 15 ety (G.map en)), (2, .row 4 sty (out.map stA)), (4, .row 4 sty [stA ⟨g.id, b, gr, v⟩]), (5, .row 15 ety (C.map en))], 6⟩
theorem atNames (R G : List E) (out : List St) (ok : Nat → Bool) (H : AH) (h : namesAll ok H = true) : namesAll ok ((0, .row 15 ety (R.map en)) :: (1, .row 15 ety (G.map en)) :: (2, .row 4 sty (out.map stA)) :: H) = true :=
  namesAll.row (pure_en _) (namesAll.row (pure_en _) (namesAll.row (pure_st _) h))
set_option maxHeartbeats 1600000 in
set_option maxRecDepth 100000 in
theorem At_s (l : List E) (a o : Int) (fl : Fl) (hl : l.length < 20) : AFun Try.prog 39 0 [.ro fl 15 (l.map en), int a, int o] [] (.slm {} 0 4 0 (atP l a o).length) [(0, .row 4 sty ((atP l a o).map stA))] := by
  refine AFun.of_S T_ok mixed Try.func39 rfl (Nat.le_of_ble_eq_true rfl) rfl ?_
  have hc := fun fl' => chosen_s l [cCounts a o] (oks1 (cCounts_ok a o)) fl fl' (by omega) (by simp)
  have hl2 : (chos l [cCounts a o]).length ≤ l.length := List.length_filter_le _ _
  rw [atP, atR]
  generalize chos l [cCounts a o] = D at hc hl2 ⊢
  have hs := sorted_f false D {} (by omega)
  have hrl : D.length = (srt false D).length := (srt_length ..).symm
  generalize srt false D = R at hs hrl ⊢
  have hrl2 : D.length = (R.map en).length := by rw [List.length_map, hrl]
  have hc2 := fun fl' => chosen_s R [cOf 3] (oks1 (cOf_ok 3)) {} fl' (by omega) (by simp)
  have hl3 : (chos R [cOf 3]).length ≤ R.length := List.length_filter_le _ _
  generalize chos R [cOf 3] = G at hc2 hl3 ⊢
  ((repeat ((conv => whnf); (first | (refine LetN.pre ?_; first | ((conv => arg 1; whnf); refine LetN.mk ?_)) | (refine As.pre ?_; first | refine As.mk rfl ?_) | (refine LetI.pre ?_; first | refine LetI.mk _ rfl ?_) | (refine Ck.pre ?_; first | refine Ck.mk rfl ?_) | (refine LetL.pre ?_; first | refine LetL.mk (ty := ety) _ (renL_none (pure_en _)).symm ?_ | refine LetL.mk _ rfl ?_) | (refine CallN.pre ?_; first | refine CallN.pure (of_f _) rfl rfl ?_ | refine CallN.pure (counts_f _ _) rfl rfl ?_ | refine CallN.lendOwn 0 (hc _) (.same rfl (.same rfl .nil)) rfl rfl rfl (plain_en _) ?_ | refine CallN.own (fun _ => 0) hs (CallOk.mk' rfl rfl rfl (namesAll.row (pure_en _) rfl) rfl (namesAll.row (pure_en _) rfl) (haveAll.row (pure_en _) rfl trivial)) ?_ | refine CallN.lendOwn 1 (hc2 _) (.full rfl (pure_en _) hrl2 (.same rfl .nil)) rfl rfl rfl (plain_en _) ?_)))); (try (conv => whnf)))






  refine LoopN.weak (s1 := atS R G a o (0, [])) ?sw1 ?_
  case sw1 => exact SW.mk id rfl rfl (atNames _ _ _ _ _ rfl) ⟨VLe2.slm_of hrl.symm, .refl _, .refl _, VLe2.nilslm, .refl _, .refl _, .refl _, trivial⟩ (haveV.row (pure_en _) rfl (haveV.row (pure_en _) rfl (haveV.nil (Nat.le_refl _) trivial)))
  refine LoopN.ind T_ok mixed (S := atS R G a o) (fun i => G.length - i.1) (fun i => i.1 ≤ G.length ∧ i.2 = (G.take i.1).map (stand R a o)) (fun _ => rfl) (fun i hi ih => ?_) (0, []) ⟨Nat.zero_le _, rfl⟩
  obtain ⟨k, out⟩ := i
  obtain ⟨h1, h2⟩ := hi
  simp only at h1 h2 ih
  by_cases hlt : k < G.length
  case neg =>
    have hk : k = G.length := by omega
    subst hk
    rw [List.take_length] at h2
    rw [← h2]
    clear ih
    ((repeat ((conv => whnf); (first | (refine As.pre ?_; first | refine As.mk rfl ?_) | (refine LetB.pre ?_; first | refine LetB.decf (by omega) ?_) | (refine Br.pre ?_; first | refine Br.ff rfl ?_) | (refine Ck.pre ?_; first | refine Ck.mk rfl ?_)))); (try (conv => whnf)))
    exact ⟨⟨[(6, .slm {} 0 4 0 out.length)], [(0, .row 4 sty (out.map stA))], 3⟩, SW.mk (fun _ => 2) rfl rfl (namesAll.row (pure_st _) rfl) ⟨.refl _, trivial⟩ (haveV.row (pure_st _) rfl trivial), .inl rfl, ⟨_, rfl, rfl⟩, rfl, trivial⟩
  have hld : en (G.getD k e0) = Am.part true 15 0 15 ((G.map en).getD (0 + k) (.sc undef)) := getD_en hlt
  have hq := take_map_succ (stand R a o) hlt e0
  rw [← h2] at hq
  have hol : out.length = k := by rw [h2]; simp; omega
  clear h2
  generalize G.getD k e0 = g at hld hq
  have hcC := fun fl' => chosen_s R [cOf 4, cTo g.id] (oks2 (cOf_ok 4) (cTo_ok g.id)) {} fl' (by omega) (by simp)
  have hlC : (chos R [cOf 4, cTo g.id]).length ≤ R.length := List.length_filter_le _ _
  have hcF := fun fl' => chosen_s R [cOf 5, cTo g.id] (oks2 (cOf_ok 5) (cTo_ok g.id)) {} fl' (by omega) (by simp)
  have hlF : (chos R [cOf 5, cTo g.id]).length ≤ R.length := List.length_filter_le _ _
  have hst : stand R a o g = ⟨g.id, ((chos R [cOf 4, cTo g.id]).foldl stepC (0, g.grade, 0, false)).1, ((chos R [cOf 4, cTo g.id]).foldl stepC (0, g.grade, 0, false)).2.1, (chos R [cOf 5, cTo g.id]).any fun f => !liftedP R f.id a o⟩ := rfl
  generalize chos R [cOf 4, cTo g.id] = C at hcC hlC hst
  generalize chos R [cOf 5, cTo g.id] = F at hcF hlF hst
  have hRR : R.length = (R.map en).length := by rw [List.length_map]
  ((repeat ((conv => whnf); (first | (refine LetN.pre ?_; first | ((conv => arg 1; whnf); refine LetN.mk ?_)) | (refine As.pre ?_; first | refine As.mk rfl ?_ | (refine As.mk ?_ ?_; · ((repeat' (refine andT ?_ ?_)) <;> (first | rfl | assumption | exact decide_eq_true (by omega) | exact decide_eq_true (by dsimp only; omega) | exact decide_eq_true (by simp; omega) | (simp; done))))) | (refine LetV.pre ?_; first | refine LetV.mk (t := ety) _ hld ?_ | refine LetV.mk (.sc (.int _ _)) rfl ?_) | (refine LetI.pre ?_; first | refine LetI.mk _ rfl ?_) | (refine LetB.pre ?_; first | refine LetB.dect (by omega) ?_) | (refine Br.pre ?_; first | refine Br.tt rfl ?_) | (refine Ck.pre ?_; first | refine Ck.drawn (by kernel_rfl) ?_ | refine Ck.mk rfl ?_) | (refine LetL.pre ?_; first | refine LetL.mk [_] rfl ?_ | refine LetL.mk _ rfl ?_) | (refine CallN.pre ?_; first | refine CallN.pure (of_f _) rfl rfl ?_ | refine CallN.pure (to_f _) rfl rfl ?_ | refine CallN.lendOwn 5 (hcC _) (.full rfl (pure_en _) hRR (.same rfl .nil)) rfl rfl rfl (plain_en _) ?_)))); (try (conv => whnf)))




  refine LoopN.weak (s1 := atA R G C a o k out g (0, 0, g.grade, 0, false)) ?sw2 ?_
  case sw2 => exact SW.mk id rfl rfl (atNames _ _ _ _ _ (namesAll.row rfl (namesAll.row rfl (namesAll.row (pure_en _) rfl)))) ⟨.refl _, .refl _, .refl _, .refl _, .refl _, .refl _, .refl _, .refl _, .refl _, .refl _, .refl _, .refl _, .refl _, .refl _, trivial⟩ (haveV.row (pure_en _) rfl (haveV.row (pure_en _) rfl (haveV.row (pure_st _) rfl (haveV.row rfl rfl (haveV.row rfl rfl (haveV.row (pure_en _) rfl trivial))))))
  generalize hX : C.foldl stepC (0, g.grade, 0, false) = X at hst
  refine LoopN.ind T_ok mixed (S := atA R G C a o k out g) (fun i => C.length - i.1) (fun i => i.1 ≤ C.length ∧ X = (C.drop i.1).foldl stepC i.2) (fun _ => rfl) (fun i hi ihA => ?_) (0, 0, g.grade, 0, false) ⟨Nat.zero_le _, hX.symm⟩
  obtain ⟨i, b, gr, d, s⟩ := i
  obtain ⟨g1, g2⟩ := hi
  simp only at g1 g2 ihA
  by_cases hiC : i < C.length
  case pos =>
    have hldc : en (C.getD i e0) = Am.part true 15 0 15 ((C.map en).getD (0 + i) (.sc undef)) := getD_en hiC
    rw [foldl_drop stepC hiC e0] at g2
    generalize C.getD i e0 = c at hldc g2
    have next : ∀ (b' gr' d' : Int) (s' : Bool), stepC (b, gr, d, s) c = (b', gr', d', s') → LoopN Try.prog 0 Try.f39.ntmps _ (atA R G C a o k out g (i + 1, b', gr', d', s')) _ := fun b' gr' d' s' hs' => ihA (i + 1, b', gr', d', s') ⟨by omega, by rw [← hs']; exact g2⟩ (by omega)
    clear ihA ih hc hc2 hcC hcF hs
    have fin : ∀ (b' gr' d' : Int) (s' : Bool), namesAll (fun i => decide (i < 0) || (List.map Prod.fst (atA R G C a o k out g (i, b', gr', d', s')).H).contains i) (atA R G C a o k out g (i, b', gr', d', s')).H = true := fun b' gr' d' s' => atNames _ _ _ _ _ (namesAll.row rfl (namesAll.row rfl (namesAll.row (pure_en _) rfl)))
    cases s with
    | false =>
      ((repeat ((conv => whnf); (first | (refine LetN.pre ?_; first | ((conv => arg 1; whnf); refine LetN.mk ?_)) | (refine As.pre ?_; first | refine As.mk rfl ?_ | (refine As.mk ?_ ?_; · ((repeat' (refine andT ?_ ?_)) <;> (first | rfl | assumption | exact decide_eq_true (by omega) | exact decide_eq_true (by dsimp only; omega) | exact decide_eq_true (by simp; omega) | (simp; done))))) | (refine LetV.pre ?_; first | refine LetV.mk (t := ety) _ hldc ?_ | refine LetV.mk (.sc (.int _ _)) rfl ?_) | (refine LetI.pre ?_; first | refine LetI.wrap (by omega) (by omega) ?_) | (refine LetB.pre ?_; first | refine LetB.dect (by omega) ?_) | (refine Gd.pre ?_; first | refine Gd.pass rfl ?_) | (refine Br.pre ?_; first | refine Br.tt rfl ?_) | (refine Ck.pre ?_; first | refine Ck.drawn (by kernel_rfl) ?_ | refine Ck.mk rfl ?_) | (refine LetL.pre ?_; first | refine LetL.mk [_] rfl ?_)))); (try (conv => whnf)))
      refine LoopN.weak ?sw3 (next c.id c.grade c.day true (if_pos (.inl rfl)))
      case sw3 => exact SW.mk id rfl rfl (atNames _ _ _ _ _ (namesAll.row rfl (namesAll.row rfl (namesAll.row (pure_en _) rfl)))) ⟨.refl _, .refl _, .refl _, .refl _, .refl _, .refl _, .refl _, .refl _, .refl _, .refl _, .refl _, .refl _, .refl _, VLe2.int (by omega), trivial⟩ (haveV.row (pure_en _) rfl (haveV.row (pure_en _) rfl (haveV.row (pure_st _) rfl (haveV.row rfl rfl (haveV.row rfl rfl (haveV.row (pure_en _) rfl trivial))))))
    | true =>
      by_cases q1 : d < c.day
      · ((repeat ((conv => whnf); (first | (refine LetN.pre ?_; first | ((conv => arg 1; whnf); refine LetN.mk ?_)) | (refine As.pre ?_; first | refine As.mk rfl ?_ | (refine As.mk ?_ ?_; · ((repeat' (refine andT ?_ ?_)) <;> (first | rfl | assumption | exact decide_eq_true (by omega) | exact decide_eq_true (by dsimp only; omega) | exact decide_eq_true (by simp; omega) | (simp; done))))) | (refine LetV.pre ?_; first | refine LetV.mk (t := ety) _ hldc ?_ | refine LetV.mk (.sc (.int _ _)) rfl ?_) | (refine LetI.pre ?_; first | refine LetI.wrap (by omega) (by omega) ?_) | (refine LetB.pre ?_; first | refine LetB.dect (by omega) ?_) | (refine Gd.pre ?_; first | refine Gd.run rfl ?_ | refine Gd.pass rfl ?_) | (refine Br.pre ?_; first | refine Br.tt rfl ?_) | (refine Ck.pre ?_; first | refine Ck.drawn (by kernel_rfl) ?_ | refine Ck.mk rfl ?_) | (refine LetL.pre ?_; first | refine LetL.mk [_] rfl ?_)))); (try (conv => whnf)))
        refine LoopN.weak ?sw4 (next c.id c.grade c.day true (if_pos (.inr (.inl q1))))
        case sw4 => exact SW.mk id rfl rfl (atNames _ _ _ _ _ (namesAll.row rfl (namesAll.row rfl (namesAll.row (pure_en _) rfl)))) ⟨.refl _, .refl _, .refl _, .refl _, .refl _, .refl _, .refl _, .refl _, .refl _, .refl _, .refl _, .refl _, .refl _, VLe2.int (by omega), trivial⟩ (haveV.row (pure_en _) rfl (haveV.row (pure_en _) rfl (haveV.row (pure_st _) rfl (haveV.row rfl rfl (haveV.row rfl rfl (haveV.row (pure_en _) rfl trivial))))))
      · by_cases q2 : c.day = d
        · by_cases q3 : b < c.id
          · ((repeat ((conv => whnf); (first | (refine LetN.pre ?_; first | ((conv => arg 1; whnf); refine LetN.mk ?_)) | (refine As.pre ?_; first | refine As.mk rfl ?_ | (refine As.mk ?_ ?_; · ((repeat' (refine andT ?_ ?_)) <;> (first | rfl | assumption | exact decide_eq_true (by omega) | exact decide_eq_true (by dsimp only; omega) | exact decide_eq_true (by simp; omega) | (simp; done))))) | (refine LetV.pre ?_; first | refine LetV.mk (t := ety) _ hldc ?_ | refine LetV.mk (.sc (.int _ _)) rfl ?_) | (refine LetI.pre ?_; first | refine LetI.wrap (by omega) (by omega) ?_) | (refine LetB.pre ?_; first | refine LetB.dect (by omega) ?_ | refine LetB.decf (by omega) ?_) | (refine Gd.pre ?_; first | refine Gd.run rfl ?_) | (refine Br.pre ?_; first | refine Br.tt rfl ?_) | (refine Ck.pre ?_; first | refine Ck.drawn (by kernel_rfl) ?_ | refine Ck.mk rfl ?_) | (refine LetL.pre ?_; first | refine LetL.mk [_] rfl ?_)))); (try (conv => whnf)))
            refine LoopN.weak ?sw5 (next c.id c.grade c.day true (if_pos (.inr (.inr ⟨q2, q3⟩))))
            case sw5 => exact SW.mk id rfl rfl (atNames _ _ _ _ _ (namesAll.row rfl (namesAll.row rfl (namesAll.row (pure_en _) rfl)))) ⟨.refl _, .refl _, .refl _, .refl _, .refl _, .refl _, .refl _, .refl _, .refl _, .refl _, .refl _, .refl _, .refl _, VLe2.int (by omega), trivial⟩ (haveV.row (pure_en _) rfl (haveV.row (pure_en _) rfl (haveV.row (pure_st _) rfl (haveV.row rfl rfl (haveV.row rfl rfl (haveV.row (pure_en _) rfl trivial))))))
          · ((repeat ((conv => whnf); (first | (refine LetN.pre ?_; first | ((conv => arg 1; whnf); refine LetN.mk ?_)) | (refine As.pre ?_; first | refine As.mk rfl ?_ | (refine As.mk ?_ ?_; · ((repeat' (refine andT ?_ ?_)) <;> (first | rfl | assumption | exact decide_eq_true (by omega) | exact decide_eq_true (by dsimp only; omega) | exact decide_eq_true (by simp; omega) | (simp; done))))) | (refine LetV.pre ?_; first | refine LetV.mk (t := ety) _ hldc ?_ | refine LetV.mk (.sc (.int _ _)) rfl ?_) | (refine LetI.pre ?_; first | refine LetI.wrap (by omega) (by omega) ?_) | (refine LetB.pre ?_; first | refine LetB.dect (by omega) ?_ | refine LetB.decf (by omega) ?_) | (refine Gd.pre ?_; first | refine Gd.run rfl ?_) | (refine Br.pre ?_; first | refine Br.tt rfl ?_ | refine Br.ff rfl ?_) | (refine Ck.pre ?_; first | refine Ck.mk rfl ?_) | (refine LetL.pre ?_; first | refine LetL.mk [_] rfl ?_)))); (try (conv => whnf)))
            refine LoopN.weak ?sw6 (next b gr d true (if_neg (by rintro (h | h | h) <;> simp at h <;> omega)))
            case sw6 => exact SW.mk id rfl rfl (atNames _ _ _ _ _ (namesAll.row rfl (namesAll.row rfl (namesAll.row (pure_en _) rfl)))) ⟨.refl _, .refl _, .refl _, .refl _, .refl _, .refl _, .refl _, .refl _, .refl _, .refl _, .refl _, .refl _, .refl _, VLe2.int (by omega), trivial⟩ (haveV.row (pure_en _) rfl (haveV.row (pure_en _) rfl (haveV.row (pure_st _) rfl (haveV.row rfl rfl (haveV.row rfl rfl (haveV.row (pure_en _) rfl trivial))))))
        · ((repeat ((conv => whnf); (first | (refine LetN.pre ?_; first | ((conv => arg 1; whnf); refine LetN.mk ?_)) | (refine As.pre ?_; first | refine As.mk rfl ?_ | (refine As.mk ?_ ?_; · ((repeat' (refine andT ?_ ?_)) <;> (first | rfl | assumption | exact decide_eq_true (by omega) | exact decide_eq_true (by dsimp only; omega) | exact decide_eq_true (by simp; omega) | (simp; done))))) | (refine LetV.pre ?_; first | refine LetV.mk (t := ety) _ hldc ?_ | refine LetV.mk (.sc (.int _ _)) rfl ?_) | (refine LetI.pre ?_; first | refine LetI.wrap (by omega) (by omega) ?_) | (refine LetB.pre ?_; first | refine LetB.dect (by omega) ?_ | refine LetB.decf (by omega) ?_) | (refine Gd.pre ?_; first | refine Gd.run rfl ?_ | refine Gd.pass rfl ?_) | (refine Br.pre ?_; first | refine Br.tt rfl ?_ | refine Br.ff rfl ?_) | (refine Ck.pre ?_; first | refine Ck.mk rfl ?_) | (refine LetL.pre ?_; first | refine LetL.mk [_] rfl ?_)))); (try (conv => whnf)))
          refine LoopN.weak ?sw7 (next b gr d true (if_neg (by rintro (h | h | h) <;> simp at h <;> omega)))
          case sw7 => exact SW.mk id rfl rfl (atNames _ _ _ _ _ (namesAll.row rfl (namesAll.row rfl (namesAll.row (pure_en _) rfl)))) ⟨.refl _, .refl _, .refl _, .refl _, .refl _, .refl _, .refl _, .refl _, .refl _, .refl _, .refl _, .refl _, .refl _, VLe2.int (by omega), trivial⟩ (haveV.row (pure_en _) rfl (haveV.row (pure_en _) rfl (haveV.row (pure_st _) rfl (haveV.row rfl rfl (haveV.row rfl rfl (haveV.row (pure_en _) rfl trivial))))))
  case neg =>
    clear ihA
    rw [List.drop_eq_nil_of_le (by omega), List.foldl_nil] at g2
    rw [g2] at hst
    simp only at hst
    ((repeat ((conv => whnf); (first | (refine LetN.pre ?_; first | ((conv => arg 1; whnf); refine LetN.mk ?_)) | (refine As.pre ?_; first | refine As.mk rfl ?_) | (refine LetV.pre ?_; first | refine LetV.mk (.sc (.int _ _)) rfl ?_) | (refine LetI.pre ?_; first | refine LetI.mk _ rfl ?_) | (refine LetB.pre ?_; first | refine LetB.decf (by omega) ?_) | (refine Br.pre ?_; first | refine Br.ff rfl ?_) | (refine Ck.pre ?_; first | refine Ck.drawn (by kernel_rfl) ?_ | refine Ck.mk rfl ?_) | (refine LetL.pre ?_; first | refine LetL.mk _ rfl ?_) | (refine CallN.pre ?_; first | refine CallN.pure (of_f _) rfl rfl ?_ | refine CallN.pure (to_f _) rfl rfl ?_ | refine CallN.lendOwn 6 (hcF _) (.full rfl (pure_en _) hRR (.same rfl .nil)) rfl rfl rfl (plain_en _) ?_)))); (try (conv => whnf)))



    refine LoopN.weak (s1 := atB R G F a o k out g b gr (0, false)) ?sw8 ?_
    case sw8 => exact SW.mk (fun i => if i = 5 then 6 else i) rfl rfl (atNames _ _ _ _ _ (namesAll.row rfl (namesAll.row (pure_en _) rfl))) ⟨.refl _, .refl _, .refl _, .refl _, .refl _, .refl _, .refl _, .refl _, .refl _, .refl _, .refl _, trivial⟩ (haveV.row (pure_en _) rfl (haveV.row (pure_en _) rfl (haveV.row (pure_st _) rfl (haveV.row rfl rfl (haveV.row (pure_en _) rfl trivial)))))
    generalize hY : (F.any fun f => !liftedP R f.id a o) = Y at hst
    refine LoopN.ind T_ok mixed (S := atB R G F a o k out g b gr) (fun i => F.length - i.1) (fun i => i.1 ≤ F.length ∧ Y = (i.2 || (F.drop i.1).any fun f => !liftedP R f.id a o)) (fun _ => rfl) (fun i hi ihB => ?_) (0, false) ⟨Nat.zero_le _, by rw [← hY]; rfl⟩
    obtain ⟨i, v⟩ := i
    obtain ⟨g3, g4⟩ := hi
    simp only at g3 g4 ihB
    by_cases hiF : i < F.length
    case pos =>
      have hldf : en (F.getD i e0) = Am.part true 15 0 15 ((F.map en).getD (0 + i) (.sc undef)) := getD_en hiF
      rw [any_drop _ hiF e0] at g4
      generalize F.getD i e0 = f at hldf g4
      have hL := Lifted_f R f.id a o {} (by omega)
      generalize liftedP R f.id a o = u at hL g4
      have hgo : Y = ((v || !u) || (F.drop (i + 1)).any fun f => !liftedP R f.id a o) := by rw [g4, Bool.or_assoc]
      clear g4 ih hc hc2 hcC hcF hs
      cases v with
      | true =>
        ((repeat ((conv => whnf); (first | (refine LetN.pre ?_; first | ((conv => arg 1; whnf); refine LetN.mk ?_)) | (refine As.pre ?_; first | refine As.mk rfl ?_ | (refine As.mk ?_ ?_; · ((repeat' (refine andT ?_ ?_)) <;> (first | rfl | assumption | exact decide_eq_true (by omega) | exact decide_eq_true (by dsimp only; omega) | exact decide_eq_true (by simp; omega) | (simp; done))))) | (refine LetV.pre ?_; first | refine LetV.mk (t := ety) _ hldf ?_ | refine LetV.mk (.sc (.bool _)) rfl ?_) | (refine LetI.pre ?_; first | refine LetI.wrap (by omega) (by omega) ?_) | (refine LetB.pre ?_; first | refine LetB.dect (by omega) ?_) | (refine Gd.pre ?_; first | refine Gd.pass rfl ?_) | (refine Br.pre ?_; first | refine Br.tt rfl ?_) | (refine Ck.pre ?_; first | refine Ck.mk rfl ?_) | (refine LetL.pre ?_; first | refine LetL.mk [_] rfl ?_)))); (try (conv => whnf)))
        refine LoopN.weak ?sw9 (ihB (i + 1, true) ⟨by omega, hgo⟩ (by omega))
        case sw9 => exact SW.mk id rfl rfl (atNames _ _ _ _ _ (namesAll.row rfl (namesAll.row (pure_en _) rfl))) ⟨.refl _, .refl _, .refl _, .refl _, .refl _, .refl _, .refl _, .refl _, .refl _, .refl _, VLe2.int (by omega), trivial⟩ (haveV.row (pure_en _) rfl (haveV.row (pure_en _) rfl (haveV.row (pure_st _) rfl (haveV.row rfl rfl (haveV.row (pure_en _) rfl trivial)))))
      | false =>
        ((repeat ((conv => whnf); (first | (refine LetN.pre ?_; first | ((conv => arg 1; whnf); refine LetN.mk ?_)) | (refine As.pre ?_; first | refine As.mk rfl ?_ | (refine As.mk ?_ ?_; · ((repeat' (refine andT ?_ ?_)) <;> (first | rfl | assumption | exact decide_eq_true (by omega) | exact decide_eq_true (by dsimp only; omega) | exact decide_eq_true (by simp; omega) | (simp; done))))) | (refine LetV.pre ?_; first | refine LetV.mk (t := ety) _ hldf ?_ | refine LetV.mk (.sc (.int _ _)) rfl ?_ | refine LetV.mk (.sc (.bool _)) rfl ?_) | (refine LetI.pre ?_; first | refine LetI.wrap (by omega) (by omega) ?_) | (refine LetB.pre ?_; first | refine LetB.dect (by omega) ?_) | (refine Gd.pre ?_; first | refine Gd.run rfl ?_) | (refine Br.pre ?_; first | refine Br.tt rfl ?_) | (refine Ck.pre ?_; first | refine Ck.mk rfl ?_) | (refine LetL.pre ?_; first | refine LetL.mk [_] rfl ?_) | (refine CallN.pre ?_; first | refine CallN.lend hL rfl (.full rfl (pure_en _) hRR (.same rfl (.same rfl (.same rfl .nil)))) ?_)))); (try (conv => whnf)))


        refine LoopN.weak ?sw10 (ihB (i + 1, !u) ⟨by omega, hgo⟩ (by omega))
        case sw10 => exact SW.mk id rfl rfl (atNames _ _ _ _ _ (namesAll.row rfl (namesAll.row (pure_en _) rfl))) ⟨.refl _, .refl _, .refl _, .refl _, .refl _, .refl _, .refl _, .refl _, .refl _, .refl _, VLe2.int (by omega), trivial⟩ (haveV.row (pure_en _) rfl (haveV.row (pure_en _) rfl (haveV.row (pure_st _) rfl (haveV.row rfl rfl (haveV.row (pure_en _) rfl trivial)))))
    case neg =>
      clear ihB
      rw [List.drop_eq_nil_of_le (by omega), List.any_nil, Bool.or_false] at g4
      rw [g4] at hst
      rw [hst] at hq
      have hr := room_st (n := out.length + 1) (by omega)
      have hol2 : (out.map stA).length = out.length := List.length_map _
      ((repeat ((conv => whnf); (first | (refine LetN.pre ?_; first | ((conv => arg 1; whnf); refine LetN.mk ?_)) | (refine As.pre ?_; first | refine As.mk rfl ?_ | (refine As.mk ?_ ?_; · ((repeat' (refine andT ?_ ?_)) <;> (first | rfl | assumption | exact decide_eq_true (by omega) | exact decide_eq_true (by dsimp only; omega) | exact decide_eq_true (by simp; omega) | (simp; done))))) | (refine LetV.pre ?_; first | refine LetV.mk (.agg _) rfl ?_) | (refine LetI.pre ?_; first | refine LetI.wrap (by omega) (by omega) ?_) | (refine LetB.pre ?_; first | refine LetB.decf (by omega) ?_) | (refine Br.pre ?_; first | refine Br.ff rfl ?_) | (refine Ck.pre ?_; first | refine Ck.mk rfl ?_) | (refine LetL.pre ?_; first | refine LetL.mk (ty := sty) _ (app_st out ⟨g.id, b, gr, v⟩ _ rfl) ?_)))); (try (conv => whnf)))

      refine LoopN.weak ?sw11 (ih (k + 1, out ++ [⟨g.id, b, gr, v⟩]) ⟨by omega, hq.symm⟩ (by omega))
      case sw11 => exact SW.mk (fun i => if i = 2 then 6 else i) rfl rfl (atNames _ _ _ _ _ rfl) ⟨.refl _, .refl _, .refl _, VLe2.slm_of (by simp), .refl _, .refl _, VLe2.int (by omega), trivial⟩ (haveV.row (pure_en _) rfl (haveV.row (pure_en _) rfl (haveV.row (pure_st _) rfl trivial)))
theorem At_f (l : List E) (a o : Int) (fl : Fl) (hl : l.length < 20) : AFun Try.prog 39 0 [.ro fl 15 (l.map en), int a, int o] [] (.ro {} 4 ((atP l a o).map stA)) [] :=
  AFun.frz1 (H := []) (At_s l a o fl hl) rfl (pure_st _) (by simp)
end En
end Go.Proofs.Ytiefcppgbnfbfaa
namespace Go.Proofs.Ytiefcppgbnfbfaa
open Go.Proofs.Ytiefcppgbnfbfaa.Am
set_option maxRecDepth 100000
namespace Sc
abbrev int (a : Int) : AV := .sc (.int .i64 a)
abbrev bool (b : Bool) : AV := .sc (.bool b)
abbrev Scl := Int × Int × Int
abbrev scA (s : Scl) : AV := .agg [int s.1, int s.2.1, int s.2.2]
def lim (n a b : Int) : Int := max (min a b) (min n (max a b))
theorem lim_spec (n a b : Int) : lim n a b = max (min a b) (min n (max a b)) := rfl
theorem limited_f (n a b : Int) : AFun Try.prog 72 0 [int n, int a, int b] [] (int (lim n a b)) [] := by
  refine AFun.of_W T_ok mixed Try.func72 rfl (Nat.le_of_ble_eq_true rfl) rfl ?_
  ((repeat ((conv => whnf); (first | (refine As.pre ?_; first | refine As.mk rfl ?_) | (refine LetI.pre ?_; first | refine LetI.mk _ rfl ?_) | (refine Ck.pre ?_; first | refine Ck.mk rfl ?_)))); (try (conv => whnf)))
  refine ⟨.inl rfl, ⟨_, rfl, congrArg int ?_⟩, trivial⟩
  simp only [lim, Bool.false_eq_true, if_false, if_true]
  repeat' split
  all_goals omega
theorem near_f (n m : Int) (hm : 0 ≤ m ∧ m ≤ 100000) : AFun Try.prog 74 0 [int n, int m] [] (bool (decide (-m ≤ n ∧ n ≤ m))) [] := by
  refine AFun.of_W T_ok mixed Try.func74 rfl (Nat.le_of_ble_eq_true rfl) rfl ?_
  repeat' ((conv => whnf); (first | (refine As.pre ?_; first | refine As.mk rfl ?_) | (refine LetI.pre ?_; first | refine LetI.wrap (by omega) (by omega) ?_) | (refine LetB.pre ?_; first | (refine LetB.dec (fun _ => ?_) (fun _ => ?_))) | (refine Gd.pre ?_; first | refine Gd.run rfl ?_ | refine Gd.pass rfl ?_) | (refine Ck.pre ?_; first | refine Ck.mk rfl ?_)))
  all_goals (refine ⟨by first | exact .inl rfl | exact .inr rfl, ⟨_, rfl, congrArg (fun b => Go.Proofs.Ytiefcppgbnfbfaa.Am.AV.sc (Go.Value.bool b)) (by first | exact (decide_eq_true (by omega)).symm | exact (decide_eq_false (by omega)).symm | exact Bool.eq_iff_iff.2 (by simp only [decide_eq_true_eq, decide_eq_false_iff_not]; omega) | rfl)⟩, trivial⟩)
/-- A scale is right. -/
abbrev okS (s : Scl) : Prop := (-1000 ≤ s.1 ∧ s.1 ≤ 1000) ∧ (-1000 ≤ s.2.1 ∧ s.2.1 ≤ 1000) ∧ s.1 ≠ s.2.1 ∧ min s.1 s.2.1 ≤ s.2.2 ∧ s.2.2 ≤ max s.1 s.2.1
def chk (s : Scl) : Int := if okS s then 0 else 10
theorem chk_spec (s : Scl) : (chk s = 0 ∧ okS s) ∨ (chk s = 10 ∧ ¬ okS s) := by
  unfold chk; split
  · exact .inl ⟨rfl, by assumption⟩
  · exact .inr ⟨rfl, by assumption⟩
theorem Check_f (s : Scl) : AFun Try.prog 104 0 [scA s] [] (int (chk s)) [] := by
  refine AFun.of_W T_ok mixed Try.func104 rfl (Nat.le_of_ble_eq_true rfl) rfl ?_
  have h0 := chk_spec s
  have h1 := lim_spec s.1 (-1000) 1000
  have h2 := lim_spec s.2.1 (-1000) 1000
  have h3 := lim_spec s.2.2 s.1 s.2.1
  ((repeat ((conv => whnf); (first | (refine LetN.pre ?_; first | ((conv => arg 1; whnf); refine LetN.mk ?_)) | (refine As.pre ?_; first | refine As.mk rfl ?_) | (refine LetV.pre ?_; first | refine LetV.mk (.sc (.int _ _)) rfl ?_) | (refine LetI.pre ?_; first | refine LetI.mk _ rfl ?_) | (refine Ck.pre ?_; first | refine Ck.mk rfl ?_)))); (try (conv => whnf)))
  refine LoopN.round T_ok mixed rfl ?_
  repeat' ((conv => whnf); (first | (refine As.pre ?_; first | refine As.mk rfl ?_) | (refine LetV.pre ?_; first | refine LetV.mk (.sc (.int _ _)) rfl ?_) | (refine LetI.pre ?_; first | refine LetI.wrap (by omega) (by omega) ?_) | (refine LetB.pre ?_; first | refine LetB.tt rfl ?_ | refine LetB.ff rfl ?_ | (refine LetB.dec (fun _ => ?_) (fun _ => ?_)) | (refine LetB.bne (fun _ => ?_) (fun _ => ?_))) | (refine Gd.pre ?_; first | refine Gd.run rfl ?_ | refine Gd.pass rfl ?_) | (refine Br.pre ?_; first | refine Br.tt rfl ?_ | refine Br.ff rfl ?_) | (refine Ck.pre ?_; first | refine Ck.drawn (by kernel_rfl) ?_ | refine Ck.mk rfl ?_) | (refine CallN.pre ?_; first | refine CallN.pure (limited_f _ _ _) rfl rfl ?_) | (refine LoopN.round T_ok mixed rfl ?_)))
  all_goals (refine ⟨by first | exact .inl rfl | exact .inr rfl, ⟨_, rfl, congrArg (fun b => Go.Proofs.Ytiefcppgbnfbfaa.Am.AV.sc (Go.Value.int .i64 b)) (by first | omega | rfl)⟩, trivial⟩)
theorem refCheck_f (s : Scl) : AFun Try.prog 99 0 [scA s] [] (int (chk s)) [] := by
  refine AFun.of_W T_ok mixed Try.func99 rfl (Nat.le_of_ble_eq_true rfl) rfl ?_
  have h0 := chk_spec s
  repeat' ((conv => whnf); (first | (refine LetN.pre ?_; first | ((conv => arg 1; whnf); refine LetN.mk ?_)) | (refine As.pre ?_; first | refine As.mk rfl ?_) | (refine LetV.pre ?_; first | refine LetV.mk (.sc (.int _ _)) rfl ?_) | (refine LetI.pre ?_; first | refine LetI.mk _ rfl ?_) | (refine LetB.pre ?_; first | (refine LetB.dec (fun _ => ?_) (fun _ => ?_))) | (refine Gd.pre ?_; first | refine Gd.run rfl ?_ | refine Gd.pass rfl ?_) | (refine Br.pre ?_; first | refine Br.tt rfl ?_ | refine Br.ff rfl ?_) | (refine Ck.pre ?_; first | refine Ck.mk rfl ?_) | (refine CallN.pre ?_; first | refine CallN.dec (near_f _ 1000 (by omega)) rfl (fun _ => ?_) (fun _ => ?_))))
  all_goals (refine ⟨by first | exact .inl rfl | exact .inr rfl, ⟨_, rfl, congrArg (fun b => Go.Proofs.Ytiefcppgbnfbfaa.Am.AV.sc (Go.Value.int .i64 b)) (by first | omega | rfl)⟩, trivial⟩)
/-- A grade lies on a scale. -/
abbrev onS (s : Scl) (g : Int) : Prop := okS s ∧ min s.1 s.2.1 ≤ g ∧ g ≤ max s.1 s.2.1
abbrev rgt (s : Scl) (g : Int) : Bool := decide (onS s g)
theorem Right_f (s : Scl) (g : Int) : AFun Try.prog 92 0 [scA s, int g] [] (bool (rgt s g)) [] := by
  refine AFun.of_W T_ok mixed Try.func92 rfl (Nat.le_of_ble_eq_true rfl) rfl ?_
  have h0 := chk_spec s
  have h1 := lim_spec g s.1 s.2.1
  repeat' ((conv => whnf); (first | (refine LetN.pre ?_; first | ((conv => arg 1; whnf); refine LetN.mk ?_)) | (refine As.pre ?_; first | refine As.mk rfl ?_) | (refine LetV.pre ?_; first | refine LetV.mk (.sc (.int _ _)) rfl ?_ | refine LetV.mk (.agg _) rfl ?_) | (refine LetB.pre ?_; first | (refine LetB.dec (fun _ => ?_) (fun _ => ?_))) | (refine Gd.pre ?_; first | refine Gd.run rfl ?_ | refine Gd.pass rfl ?_) | (refine Ck.pre ?_; first | refine Ck.mk rfl ?_) | (refine CallN.pre ?_; first | refine CallN.pure (Check_f s) rfl rfl ?_ | refine CallN.pure (limited_f _ _ _) rfl rfl ?_)))
  all_goals (refine ⟨by first | exact .inl rfl | exact .inr rfl, ⟨_, rfl, congrArg (fun b => Go.Proofs.Ytiefcppgbnfbfaa.Am.AV.sc (Go.Value.bool b)) (by first | exact (decide_eq_true (by omega)).symm | exact (decide_eq_false (by omega)).symm | exact Bool.eq_iff_iff.2 (by simp only [decide_eq_true_eq, decide_eq_false_iff_not]; omega) | rfl)⟩, trivial⟩)
theorem refRight_f (s : Scl) (g : Int) : AFun Try.prog 80 0 [scA s, int g] [] (bool (rgt s g)) [] := by
  refine AFun.of_W T_ok mixed Try.func80 rfl (Nat.le_of_ble_eq_true rfl) rfl ?_
  have h0 := chk_spec s
  repeat' ((conv => whnf); (first | (refine LetN.pre ?_; first | ((conv => arg 1; whnf); refine LetN.mk ?_)) | (refine As.pre ?_; first | refine As.mk rfl ?_) | (refine LetV.pre ?_; first | refine LetV.mk (.sc (.int _ _)) rfl ?_ | refine LetV.mk (.agg _) rfl ?_) | (refine LetI.pre ?_; first | refine LetI.mk _ rfl ?_) | (refine LetB.pre ?_; first | (refine LetB.dec (fun _ => ?_) (fun _ => ?_))) | (refine Gd.pre ?_; first | refine Gd.run rfl ?_ | refine Gd.pass rfl ?_) | (refine Ck.pre ?_; first | refine Ck.mk rfl ?_) | (refine CallN.pre ?_; first | refine CallN.pure (refCheck_f s) rfl rfl ?_)))
  all_goals (refine ⟨by first | exact .inl rfl | exact .inr rfl, ⟨_, rfl, congrArg (fun b => Go.Proofs.Ytiefcppgbnfbfaa.Am.AV.sc (Go.Value.bool b)) (by first | exact (decide_eq_true (by omega)).symm | exact (decide_eq_false (by omega)).symm | exact Bool.eq_iff_iff.2 (by simp only [decide_eq_true_eq, decide_eq_false_iff_not]; omega) | rfl)⟩, trivial⟩)
/-- A grade reaches another. -/
abbrev rea (s : Scl) (g m : Int) : Prop := onS s g ∧ (g = m ∨ (m < g ↔ s.1 < s.2.1))
theorem Reaches_f (s : Scl) (g m : Int) : AFun Try.prog 68 0 [scA s, int g, int m] [] (bool (decide (rea s g m))) [] := by
  refine AFun.of_W T_ok mixed Try.func68 rfl (Nat.le_of_ble_eq_true rfl) rfl ?_
  repeat' ((conv => whnf); (first | (refine LetN.pre ?_; first | ((conv => arg 1; whnf); refine LetN.mk ?_)) | (refine As.pre ?_; first | refine As.mk rfl ?_) | (refine LetV.pre ?_; first | refine LetV.mk (.sc (.int _ _)) rfl ?_ | refine LetV.mk (.agg _) rfl ?_) | (refine LetB.pre ?_; first | refine LetB.tt rfl ?_ | refine LetB.ff rfl ?_ | (refine LetB.dec (fun _ => ?_) (fun _ => ?_))) | (refine Gd.pre ?_; first | refine Gd.run rfl ?_ | refine Gd.pass rfl ?_) | (refine Ck.pre ?_; first | refine Ck.mk rfl ?_) | (refine CallN.pre ?_; first | refine CallN.dec (Right_f s _) rfl (fun _ => ?_) (fun _ => ?_))))
  all_goals (refine ⟨by first | exact .inl rfl | exact .inr rfl, ⟨_, rfl, congrArg (fun b => Go.Proofs.Ytiefcppgbnfbfaa.Am.AV.sc (Go.Value.bool b)) (by first | exact (decide_eq_true (by omega)).symm | exact (decide_eq_false (by omega)).symm | exact Bool.eq_iff_iff.2 (by simp only [decide_eq_true_eq, decide_eq_false_iff_not]; omega) | rfl)⟩, trivial⟩)
theorem refReaches_f (s : Scl) (g m : Int) : AFun Try.prog 52 0 [scA s, int g, int m] [] (bool (decide (rea s g m))) [] := by
  refine AFun.of_W T_ok mixed Try.func52 rfl (Nat.le_of_ble_eq_true rfl) rfl ?_
  repeat' ((conv => whnf); (first | (refine LetN.pre ?_; first | ((conv => arg 1; whnf); refine LetN.mk ?_)) | (refine As.pre ?_; first | refine As.mk rfl ?_) | (refine LetV.pre ?_; first | refine LetV.mk (.sc (.int _ _)) rfl ?_ | refine LetV.mk (.agg _) rfl ?_) | (refine LetB.pre ?_; first | (refine LetB.dec (fun _ => ?_) (fun _ => ?_))) | (refine Br.pre ?_; first | refine Br.tt rfl ?_ | refine Br.ff rfl ?_) | (refine Ck.pre ?_; first | refine Ck.mk rfl ?_) | (refine CallN.pre ?_; first | refine CallN.dec (refRight_f s _) rfl (fun _ => ?_) (fun _ => ?_))))
  all_goals (refine ⟨by first | exact .inl rfl | exact .inr rfl, ⟨_, rfl, congrArg (fun b => Go.Proofs.Ytiefcppgbnfbfaa.Am.AV.sc (Go.Value.bool b)) (by first | exact (decide_eq_true (by omega)).symm | exact (decide_eq_false (by omega)).symm | exact Bool.eq_iff_iff.2 (by simp only [decide_eq_true_eq, decide_eq_false_iff_not]; omega) | rfl)⟩, trivial⟩)
theorem Passed_f (s : Scl) (g : Int) : AFun Try.prog 40 0 [scA s, int g] [] (bool (decide (rea s g s.2.2))) [] := by
  refine AFun.of_W T_ok mixed Try.func40 rfl (Nat.le_of_ble_eq_true rfl) rfl ?_
  repeat' ((conv => whnf); (first | (refine LetN.pre ?_; first | ((conv => arg 1; whnf); refine LetN.mk ?_)) | (refine As.pre ?_; first | refine As.mk rfl ?_) | (refine LetV.pre ?_; first | refine LetV.mk (.sc (.int _ _)) rfl ?_ | refine LetV.mk (.agg _) rfl ?_) | (refine Ck.pre ?_; first | refine Ck.mk rfl ?_) | (refine CallN.pre ?_; first | refine CallN.pure (Reaches_f s _ _) rfl rfl ?_)))
  all_goals (refine ⟨by first | exact .inl rfl | exact .inr rfl, ⟨_, rfl, congrArg (fun b => Go.Proofs.Ytiefcppgbnfbfaa.Am.AV.sc (Go.Value.bool b)) (by first | exact (decide_eq_true (by omega)).symm | exact (decide_eq_false (by omega)).symm | exact Bool.eq_iff_iff.2 (by simp only [decide_eq_true_eq, decide_eq_false_iff_not]; omega) | rfl)⟩, trivial⟩)
theorem refPassed_f (s : Scl) (g : Int) : AFun Try.prog 22 0 [scA s, int g] [] (bool (decide (rea s g s.2.2))) [] := by
  refine AFun.of_W T_ok mixed Try.func22 rfl (Nat.le_of_ble_eq_true rfl) rfl ?_
  repeat' ((conv => whnf); (first | (refine LetN.pre ?_; first | ((conv => arg 1; whnf); refine LetN.mk ?_)) | (refine As.pre ?_; first | refine As.mk rfl ?_) | (refine LetV.pre ?_; first | refine LetV.mk (.sc (.int _ _)) rfl ?_ | refine LetV.mk (.agg _) rfl ?_) | (refine Ck.pre ?_; first | refine Ck.mk rfl ?_) | (refine CallN.pre ?_; first | refine CallN.pure (refReaches_f s _ _) rfl rfl ?_)))
  all_goals (refine ⟨by first | exact .inl rfl | exact .inr rfl, ⟨_, rfl, congrArg (fun b => Go.Proofs.Ytiefcppgbnfbfaa.Am.AV.sc (Go.Value.bool b)) (by first | exact (decide_eq_true (by omega)).symm | exact (decide_eq_false (by omega)).symm | exact Bool.eq_iff_iff.2 (by simp only [decide_eq_true_eq, decide_eq_false_iff_not]; omega) | rfl)⟩, trivial⟩)
end Sc
end Go.Proofs.Ytiefcppgbnfbfaa
namespace Go.Proofs.Ytiefcppgbnfbfaa
open Go.Proofs.Ytiefcppgbnfbfaa.Am
set_option maxRecDepth 100000
namespace En
/-! ### The grades, by their Ids -/
def putM : List (Int × E) → E → List (Int × E)
  | [], e => [(e.id, e)]
  | x :: m, e => if x.1 = e.id then (e.id, e) :: m else x :: putM m e
def ixM : List (Int × E) → Int → Option Nat
  | [], _ => none
  | x :: m, k => if x.1 = k then some 0 else (ixM m k).map (· + 1)
abbrev kvM (m : List (Int × E)) : List (Value × AV) := m.map fun x => (.int .i64 x.1, en x.2)
theorem ix_none : ∀ {m : List (Int × E)} {k : Int}, ixM m k = none → ∀ x ∈ m, x.1 ≠ k
  | [], k, _, x, hx => absurd hx List.not_mem_nil
  | y :: m, k, h, x, hx => by
    unfold ixM at h
    by_cases hy : y.1 = k
    · rw [if_pos hy] at h; cases h
    · rw [if_neg hy] at h
      rcases List.mem_cons.1 hx with e | e
      · rw [e]; exact hy
      · exact ix_none (Option.map_eq_none_iff.1 h) x e
theorem ix_some : ∀ {m : List (Int × E)} {k : Int} {i : Nat}, ixM m k = some i → ∃ e, m[i]? = some (k, e)
  | [], k, i, h => by cases h
  | y :: m, k, i, h => by
    unfold ixM at h
    by_cases hy : y.1 = k
    · rw [if_pos hy] at h; injection h with h; subst h; exact ⟨y.2, by rw [← hy]; rfl⟩
    · rw [if_neg hy] at h
      obtain ⟨j, hj, rfl⟩ := Option.map_eq_some_iff.1 h
      obtain ⟨e, he⟩ := ix_some hj
      exact ⟨e, by simpa using he⟩
theorem find_none {m : List (Int × E)} {k : Int} (h : ixM m k = none) : findOk (kvM m) (.int .i64 k) none := by
  intro x hx
  obtain ⟨y, hy, rfl⟩ := List.mem_map.1 hx
  intro e
  simp only [Value.int.injEq, true_and] at e
  exact ix_none h y hy e
theorem find_some {m : List (Int × E)} {k : Int} {i : Nat} (h : ixM m k = some i) : findOk (kvM m) (.int .i64 k) (some i) := by
  obtain ⟨e, he⟩ := ix_some h
  exact ⟨en e, by rw [List.getElem?_map, he]; rfl⟩
theorem put_none : ∀ {m : List (Int × E)} {e : E}, ixM m e.id = none → putM m e = m ++ [(e.id, e)]
  | [], e, _ => rfl
  | y :: m, e, h => by
    unfold ixM at h
    by_cases hy : y.1 = e.id
    · rw [if_pos hy] at h; cases h
    · rw [if_neg hy] at h
      rw [putM, if_neg hy, put_none (Option.map_eq_none_iff.1 h)]; rfl
theorem put_some : ∀ {m : List (Int × E)} {e : E} {i : Nat}, ixM m e.id = some i → putM m e = m.set i (e.id, e)
  | [], e, i, h => by cases h
  | y :: m, e, i, h => by
    unfold ixM at h
    by_cases hy : y.1 = e.id
    · rw [if_pos hy] at h; injection h with h; subst h; rw [putM, if_pos hy]; rfl
    · rw [if_neg hy] at h
      obtain ⟨j, hj, rfl⟩ := Option.map_eq_some_iff.1 h
      rw [putM, if_neg hy, put_some hj]; rfl
theorem kvM_pure : ∀ m : List (Int × E), kvPure (kvM m) = true
  | [] => rfl
  | x :: m => kvM_pure m
theorem kvM_solid : ∀ m : List (Int × E), ((kvM m).all fun x => x.2.solid) = true
  | [] => rfl
  | x :: m => kvM_solid m
theorem solid_en : ∀ l : List E, AV.solidL (l.map en) = true
  | [] => rfl
  | p :: l => by simp only [List.map_cons, AV.solidL, solid_en l]; rfl
theorem kvM_put_none {m : List (Int × E)} {e : E} (h : ixM m e.id = none) : kvM (putM m e) = kvM m ++ [(.int .i64 e.id, en e)] := by
  rw [put_none h, kvM, List.map_append]; rfl
theorem kvM_put_some {m : List (Int × E)} {e : E} {i : Nat} (h : ixM m e.id = some i) : kvM (putM m e) = (kvM m).set i (.int .i64 e.id, en e) := by
  rw [put_some h, kvM, List.map_set]
/-- The grades of a list, put in from its end on. -/
def mB : List E → List (Int × E)
  | [] => []
  | e :: l => if e.kind = 3 then putM (mB l) e else mB l
theorem mB_drop {l : List E} {k : Nat} (h : k < l.length) : mB (l.drop k) = if (l.getD k e0).kind = 3 then putM (mB (l.drop (k + 1))) (l.getD k e0) else mB (l.drop (k + 1)) := by
  rw [List.drop_eq_getElem_cons h, List.getD_eq_getElem?_getD, List.getElem?_eq_getElem h]; rfl
/-- The keys of a map are numbers that a word holds. -/
abbrev okI (n : Int) : Prop := -9223372036854775808 ≤ n ∧ n ≤ 9223372036854775807
theorem getD_memE {l : List E} {k : Nat} (h : k < l.length) : l.getD k e0 ∈ l := by
  rw [List.getD_eq_getElem?_getD, List.getElem?_eq_getElem h]; exact List.getElem_mem _
theorem key_intE {n : Int} (h : okI n) : keyB Try.prog 3 (.int .i64 n) = true := by
  have hu : Try.prog.underlying 3 = some (.int .i64) := TT.Ok.int T_ok (t := 3) rfl rfl
  have hw : (Lit.int .i64 n).wf = true := by
    simp only [Lit.wf, Bool.and_eq_true, decide_eq_true_eq]
    exact h
  unfold keyB keyOf
  simp [hu, mapKey, hw]
theorem keys_M {m : List (Int × E)} (h : ∀ x ∈ m, okI x.1) {n : Int} (hn : okI n) : (keyB Try.prog 3 (.int .i64 n) && (kvM m).all fun x => keyB Try.prog 3 x.1) = true := by
  rw [key_intE hn, Bool.true_and]
  refine List.all_eq_true.2 fun x hx => ?_
  obtain ⟨y, hy, rfl⟩ := List.mem_map.1 hx
  exact key_intE (h y hy)
theorem mem_put {m : List (Int × E)} {e : E} : ∀ x ∈ putM m e, x = (e.id, e) ∨ x ∈ m := by
  induction m with
  | nil => intro x hx; simp only [putM, List.mem_singleton] at hx; exact .inl hx
  | cons y m ih =>
    intro x hx
    unfold putM at hx
    split at hx
    · rcases List.mem_cons.1 hx with h | h
      · exact .inl h
      · exact .inr (List.mem_cons_of_mem _ h)
    · rcases List.mem_cons.1 hx with h | h
      · exact .inr (h ▸ List.mem_cons_self ..)
      · exact (ih x h).imp id (List.mem_cons_of_mem _)
theorem mem_mB : ∀ {l : List E}, ∀ x ∈ mB l, ∃ e ∈ l, x = (e.id, e)
  | [], x, hx => absurd hx List.not_mem_nil
  | e :: l, x, hx => by
    unfold mB at hx
    split at hx
    · rcases mem_put x hx with h | h
      · exact ⟨e, List.mem_cons_self .., h⟩
      · obtain ⟨y, hy, h⟩ := mem_mB x h; exact ⟨y, List.mem_cons_of_mem _ hy, h⟩
    · obtain ⟨y, hy, h⟩ := mem_mB x hx; exact ⟨y, List.mem_cons_of_mem _ hy, h⟩
theorem mB_keys {l : List E} (h : ∀ e ∈ l, okI e.id) : ∀ x ∈ mB l, okI x.1 := by
  intro x hx
  obtain ⟨e, he, rfl⟩ := mem_mB x hx
  exact h e he
/-- The grade with an Id. -/
def gradeM (m : List (Int × E)) (k : Int) : E := match ixM m k with
  | some i => (m.getD i (0, e0)).2
  | none => e0
/-! ### Backward -/
theorem Backward_f (l : List E) (fl : Fl) : AFun Try.prog 38 0 [.ro fl 15 (l.map en)] [] (.clo 61 [.rp (.ro fl 15 (l.map en)) 0]) [] := by
  have h : AFun Try.prog 38 0 [.ro fl 15 (l.map en)] [] (.clo 61 [.ptr 0 1 0 0]) [(0, .row 1 30 [.ro fl 15 (l.map en)])] := by
    refine AFun.of_W T_ok mixed Try.func38 rfl (Nat.le_of_ble_eq_true rfl) rfl ?_
    ((repeat ((conv => whnf); (first | (refine LetN.pre ?_; first | ((conv => arg 1; whnf); refine LetN.mk ?_)) | (refine As.pre ?_; first | refine As.mk rfl ?_) | (refine Ck.pre ?_; first | refine Ck.mk rfl ?_)))); (try (conv => whnf)))
    exact ⟨.inl rfl, ⟨_, rfl, rfl⟩, rfl, trivial⟩
  exact AFun.frz [0] h rfl rfl rfl
abbrev bkH (m : List (Int × E)) : AH := [(0, .map m.length (kvM m)), (1, .row 1 73 [.mp 0])]
abbrev bkS (l : List E) (fl : Fl) (y : AV) : Nat → AS
  | j => ⟨[(0, y), (1, .rp (.ro fl 15 (l.map en)) 0), (3, int ((j : Int) - 1))], bkH (mB (l.drop j)), 2⟩
set_option maxRecDepth 100000 in
theorem Back1_f (l : List E) (fl : Fl) (hl : l.length ≤ 1000) (lp : Nat) (rc : Loop) (hps : rc.params.size = 2) (ks : List Nat)
    (hy : ∀ j, j < l.length → AFunC (CY Try.prog lp rc) 2 [.yl lp rc ks [.ptr 1 1 0 0], int j, en (l.getD j e0)] (bkH (mB (l.drop (j + 1)))) (bool true) (bkH (mB (l.drop j)))) :
    AFun Try.prog 61 2 [.yl lp rc ks [.ptr 1 1 0 0], .rp (.ro fl 15 (l.map en)) 0] (bkH []) (.tup []) (bkH (mB l)) := by
  refine AFun.of_S T_ok mixed Try.func61 rfl (Nat.le_of_ble_eq_true rfl) rfl ?_
  have hml : (l.map en).length = l.length := List.length_map _
  have hbn : ∀ (m : List (Int × E)) (ok : Nat → Bool), ok 0 = true → namesAll ok (bkH m) = true := fun m ok h => namesAll.map (kvM_pure _) (by simp only [namesAll, Blk.names, AV.namesL, AV.names, h]; rfl)
  ((repeat ((conv => whnf); (first | (refine As.pre ?_; first | refine As.mk rfl ?_) | (refine LetV.pre ?_; first | refine LetV.mk (.ro _ _ _) rfl ?_) | (refine LetI.pre ?_; first | refine LetI.wrap (by omega) (by omega) ?_ | refine LetI.mk _ rfl ?_) | (refine Ck.pre ?_; first | refine Ck.mk rfl ?_)))); (try (conv => whnf)))
  refine LoopN.weak (s1 := bkS l fl (.yl lp rc ks [.ptr 1 1 0 0]) l.length) ?sw1 ?_
  case sw1 => exact SW.mk id rfl rfl (hbn _ _ rfl) ⟨.refl _, .refl _, VLe2.int (by rw [hml]), trivial⟩ (haveV.map (kvM_pure _) (by rw [List.drop_length]; rfl) (haveV.one rfl trivial))
  refine LoopN.ind T_ok mixed (S := bkS l fl (.yl lp rc ks [.ptr 1 1 0 0])) (fun j => j) (fun j => j ≤ l.length) (fun _ => rfl) (fun j hj ih => ?_) l.length (Nat.le_refl _)
  cases j with
  | zero =>
    clear ih hy
    ((repeat ((conv => whnf); (first | (refine As.pre ?_; first | refine As.mk rfl ?_) | (refine LetB.pre ?_; first | refine LetB.ff rfl ?_) | (refine Br.pre ?_; first | refine Br.ff rfl ?_) | (refine Ck.pre ?_; first | refine Ck.mk rfl ?_)))); (try (conv => whnf)))
    exact ⟨⟨[], bkH (mB l), 2⟩, SW.mk id rfl rfl (hbn _ _ rfl) trivial (haveV.map (kvM_pure _) rfl (haveV.one rfl trivial)), .inr rfl, ⟨_, rfl, rfl⟩, rfl, rfl, trivial⟩
  | succ i =>
    have hi : i < l.length := by omega
    have hld : en (l.getD i e0) = (l.map en).getD i (.sc undef) := mapD e0 hi
    have hyi := hy i hi
    have next := ih i (by omega) (by omega)
    clear ih hy
    have e1 : bkS l fl (.yl lp rc ks [.ptr 1 1 0 0]) (i + 1) = ⟨[(0, .yl lp rc ks [.ptr 1 1 0 0]), (1, .rp (.ro fl 15 (l.map en)) 0), (3, int (i : Int))], bkH (mB (l.drop (i + 1))), 2⟩ := by
      have e : (((i + 1 : Nat) : Int) - 1) = (i : Int) := by omega
      show (⟨[(0, _), (1, _), (3, int (((i + 1 : Nat) : Int) - 1))], _, _⟩ : AS) = _
      rw [e]
    rw [e1]
    clear e1
    generalize mB (l.drop (i + 1)) = m at hyi
    generalize hm' : mB (l.drop i) = m' at hyi
    generalize l.getD i e0 = e at hld hyi
    ((repeat ((conv => whnf); (first | (refine LetN.pre ?_; first | ((conv => arg 1; whnf); refine LetN.mk ?_)) | (refine As.pre ?_; first | refine As.mk rfl ?_ | (refine As.mk ?_ ?_; · ((repeat' (refine andT ?_ ?_)) <;> (first | rfl | assumption | exact decide_eq_true (by omega) | exact decide_eq_true (by dsimp only; omega) | exact decide_eq_true (by simp; omega) | (simp; done))))) | (refine LetV.pre ?_; first | refine LetV.mk (t := 30) _ hld ?_ | refine LetV.mk (.agg _) rfl ?_ | refine LetV.mk (.ro _ _ _) rfl ?_) | (refine LetI.pre ?_; first | refine LetI.wrap (by omega) (by omega) ?_) | (refine LetB.pre ?_; first | refine LetB.tt rfl ?_) | (refine Br.pre ?_; first | refine Br.tt rfl ?_ | refine Br.ff rfl ?_) | (refine Ck.pre ?_; first | refine Ck.mk rfl ?_) | (refine LetL.pre ?_; first | refine LetL.mk [_] rfl ?_) | ((refine YieldN.own id hyi (by rw [hps]; rfl) (CallOk.mk' rfl rfl rfl (hbn _ _ rfl) rfl (hbn _ _ rfl) (haveAll.map (kvM_pure _) rfl ⟨rfl, trivial⟩)) ?_))))); (try (conv => whnf)))


    refine LoopN.weak ?sw2 next
    case sw2 => exact SW.mk id rfl rfl (hbn _ _ rfl) ⟨.refl _, .refl _, VLe2.int rfl, trivial⟩ (haveV.map (kvM_pure _) (by show some (Blk.map _ _) = _; rw [kv_ren (kvM_pure _), hm']) (haveV.one rfl trivial))
end En
end Go.Proofs.Ytiefcppgbnfbfaa
namespace Go.Proofs.Ytiefcppgbnfbfaa
open Go.Proofs.Ytiefcppgbnfbfaa.Am
set_option maxRecDepth 100000
namespace En
/-! ### Achievements -/
structure Ach where
  school : Int
  code : ByteArray
  credits : Int
  grade : Int
  day : Int
  src : Fl × List Int
  bundle : Int
  path : Option (Fl × List Int)
abbrev ints (p : Fl × List Int) : AV := .ro p.1 1 (p.2.map int)
def pthA : Option (Fl × List Int) → AV
  | none => .sc (.slice none 0 0)
  | some p => ints p
abbrev achA (a : Ach) : AV := .agg [int a.school, str a.code, int a.credits, int a.grade, int a.day, ints a.src, int a.bundle, pthA a.path]
abbrev aty : TypeId := 55
theorem pth_pure (p : Option (Fl × List Int)) : (pthA p).names (fun _ => false) = true := by cases p <;> rfl
theorem pure_ach : ∀ l : List Ach, AV.namesL (fun _ => false) (l.map achA) = true
  | [] => rfl
  | p :: l => by simp only [List.map_cons, AV.namesL, pure_ach l, AV.names, pth_pure]; rfl
theorem app_ach (l : List Ach) (e : Ach) (n : Nat) (h : n = l.length) : (l ++ [e]).map achA = (l.map achA).take n ++ [achA e] := by rw [List.take_of_length_le (by simp [h]), List.map_append]; rfl
theorem room_ach {n : Nat} (h : n ≤ 1000000) : room n 104 = true := by
  simp only [room, Bool.and_eq_true, decide_eq_true_eq]
  exact ⟨by omega, rfl⟩
/-- A school's own achievement. -/
def ownA (e : E) (g : Int) : Ach := ⟨e.school, e.course, e.credits, g, e.on_, (⟨true, true⟩, [1000000 * e.school + e.id]), 0, none⟩
def keepA (m : List (Int × E)) (s : Sc.Scl) (st : Int) (x : St) : Bool := !(x.void || ((gradeM m x.entry).student != st || !decide (Sc.rea s x.grade s.2.2)))
def ofP (l : List E) (s : Sc.Scl) (st a o : Int) : List Ach := ((atP l a o).filter (keepA (mB l) s st)).map fun x => ownA (gradeM (mB l) x.entry) x.grade
theorem bk_call (m : List (Int × E)) : atCall (fun i => i + 1) (bkH []) (.tup []) (bkH m) = { v := .tup [], D := [1, 2], δ := [(1, some (.map m.length (kvM m))), (2, some (.row 1 73 [.mp 1]))] } := by
  show ({ v := _, D := _, δ := [(1, some (.map m.length ((kvM m).map fun x => (x.1, x.2.ren (fun i => i + 1))))), (2, some (.row 1 _ [.mp 1]))] } : Out) = _
  rw [kv_ren (kvM_pure m)]; rfl
theorem mem_sink (o : Bool) : ∀ (j : Nat) (l : List E) (e : E), j < l.length → e ∈ sink o l j → e ∈ l
  | 0, l, e, _, h => h
  | j + 1, l, e, hj, h => by
    unfold sink at h
    split at h
    · have := mem_sink o j _ e (by simp only [List.length_set]; omega) h
      rcases List.mem_or_eq_of_mem_set this with h | h
      · rcases List.mem_or_eq_of_mem_set h with h | h
        · exact h
        · rw [h]; exact getD_memE (by omega)
      · rw [h]; exact getD_memE hj
    · exact h
theorem mem_isr (o : Bool) : ∀ (f i : Nat) (l : List E) (e : E), (∀ k, k < f → i + k < l.length) → e ∈ isr o f i l → e ∈ l
  | 0, i, l, e, _, h => h
  | f + 1, i, l, e, hk, h => by
    have h0 := hk 0 (by omega)
    exact mem_sink o i l e h0 (mem_isr o f (i + 1) _ e (fun k hk' => by rw [sink_length]; have := hk (k + 1) (by omega); omega) h)
theorem mem_srt {o : Bool} {l : List E} {e : E} (h : e ∈ srt o l) : e ∈ l := mem_isr o _ _ _ _ (fun k hk => by omega) h
theorem mem_at {l : List E} {a o : Int} {x : St} (h : x ∈ atP l a o) : ∃ e ∈ l, x.entry = e.id := by
  obtain ⟨g, hg, rfl⟩ := List.mem_map.1 h
  exact ⟨g, (List.mem_filter.1 (mem_srt (List.mem_filter.1 hg).1)).1, rfl⟩
/-- The numbers of entries that are small. -/
abbrev okB (e : E) : Prop := (-1000 ≤ e.school ∧ e.school ≤ 1000) ∧ (-1000000000 ≤ e.id ∧ e.id ≤ 1000000000)
abbrev ofS (m : List (Int × E)) (s : Sc.Scl) (st : Int) (A : List St) : Nat × List Ach → AS
  | (k, out) => ⟨[(2, int st), (6, .ptr 0 3 0 0), (11, .ptr 2 1 0 0), (14, .slm {} 3 8 0 out.length), (33, .ro {} 4 (A.map stA)), (34, int A.length), (35, int k)],
      [(0, .row 3 32 [Sc.scA s]), (1, .map m.length (kvM m)), (2, .row 1 73 [.mp 1]), (3, .row 8 aty (out.map achA))], 4⟩
theorem ofNames (m : List (Int × E)) (s : Sc.Scl) (out : List Ach) (ok : Nat → Bool) (h : ok 1 = true) : namesAll ok [(0, .row 3 32 [Sc.scA s]), (1, .map m.length (kvM m)), (2, .row 1 73 [.mp 1]), (3, .row 8 aty (out.map achA))] = true :=
  namesAll.row rfl (namesAll.map (kvM_pure _) (by
    have h2 : namesAll ok [(3, .row 8 aty (out.map achA))] = true := namesAll.row (pure_ach _) rfl
    rw [namesAll, h2]
    simp only [Blk.names, AV.namesL, AV.names, h]; rfl))
theorem filter_map_succ {α β : Type} (p : α → Bool) (g : α → β) {l : List α} {k : Nat} (h : k < l.length) (d : α) : ((l.take (k + 1)).filter p).map g = ((l.take k).filter p).map g ++ if p (l.getD k d) then [g (l.getD k d)] else [] := by
  rw [List.take_succ_eq_append_getElem h, List.filter_append, List.map_append, List.getD_eq_getElem?_getD, List.getElem?_eq_getElem h, List.filter_cons]
  simp only [Option.getD_some]
  split <;> rfl
abbrev st0 : St := ⟨0, 0, 0, false⟩
theorem getD_st {l : List St} {k : Nat} (h : k < l.length) : stA (l.getD k st0) = (l.map stA).getD k (.sc undef) := mapD st0 h
set_option maxHeartbeats 1600000 in
set_option maxRecDepth 100000 in
theorem Of_s (l : List E) (s : Sc.Scl) (st a o : Int) (fl : Fl) (hl : l.length < 20) (hb : ∀ e ∈ l, okB e) : AFun Try.prog 12 0 [.ro fl 15 (l.map en), Sc.scA s, int st, int a, int o] [] (.slm {} 0 8 0 (ofP l s st a o).length) [(0, .row 8 aty ((ofP l s st a o).map achA))] := by
  refine AFun.of_S T_ok mixed Try.func12 rfl (Nat.le_of_ble_eq_true rfl) rfl ?_
  have hA := At_f l a o fl hl
  have hB := Backward_f l fl
  have hkey : ∀ e ∈ l, okI e.id := fun e he => by have := hb e he; omega
  have hbn : ∀ (m : List (Int × E)) (ok : Nat → Bool), ok 0 = true → namesAll ok (bkH m) = true := fun m ok h => namesAll.map (kvM_pure _) (by simp only [namesAll, Blk.names, AV.namesL, AV.names, h]; rfl)
  ((repeat ((conv => whnf); (first | (refine LetN.pre ?_; first | ((conv => arg 1; whnf); refine LetN.mk ?_)) | (refine As.pre ?_; first | refine As.mk rfl ?_) | (refine Ck.pre ?_; first | refine Ck.mk rfl ?_) | (refine LetL.pre ?_; first | refine LetL.mk [_] rfl ?_) | (refine CallN.pre ?_; first | refine CallN.pure hB rfl rfl ?_)))); (try (conv => whnf)))
  refine RfN.iter (r := { v := .tup [], D := [1, 2], δ := [(1, some (.map (mB l).length (kvM (mB l)))), (2, some (.row 1 73 [.mp 1]))] }) [11] (Nat.le_of_ble_eq_true rfl) rfl rfl (by kernel_rfl) (fun lp rc h1 h2 h3 h4 h5 h6 => ?it) rfl ?sol rfl ?rest
  case it =>
    rw [← bk_call]
    refine ACalls.of_fun (fun i => i + 1) (Back1_f l fl (by omega) lp rc (by rw [h1]; rfl) [11] fun j hj => ?_) (CallOk.mk' rfl rfl rfl (hbn _ _ rfl) rfl (hbn _ _ rfl) (haveAll.map (kvM_pure _) rfl ⟨rfl, trivial⟩))
    rw [mB_drop hj]
    have hk1 := keys_M (mB_keys fun e he => hkey e (List.mem_of_mem_drop he)) (hkey _ (getD_memE hj)) (m := mB (l.drop (j + 1)))
    generalize mB (l.drop (j + 1)) = m at hk1 ⊢
    generalize l.getD j e0 = e at hk1 ⊢
    refine yield_of_V T_ok mixed h1 h2 h3 h4 h5 h6 rfl rfl rfl (solidH.map (kvM_solid _) (solidH.row rfl rfl)) rfl ?_
    by_cases h3 : e.kind = 3
    · rw [if_pos h3]
      cases hix : ixM m e.id with
      | none =>
        have hfi := find_none hix
        have hput := kvM_put_none hix
        have hlen : (putM m e).length = m.length + 1 := by rw [put_none hix, List.length_append]; rfl
        ((repeat ((conv => whnf); (first | (refine LetN.pre ?_; first | ((conv => arg 1; whnf); refine LetN.mk ?_)) | (refine As.pre ?_; first | refine As.mk rfl ?_) | (refine Ck.pre ?_; first | refine Ck.mk rfl ?_) | (refine LetL.pre ?_; first | refine LetL.mk [_] rfl ?_)))); (try (conv => whnf)))
        refine ⟨rfl, ?_⟩
        ((repeat ((conv => whnf); (first | (refine LetN.pre ?_; first | ((conv => arg 1; whnf); refine LetN.mk ?_)) | (refine As.pre ?_; first | refine As.mk rfl ?_ | refine As.mk hk1 ?_) | (refine LetV.pre ?_; first | refine LetV.mk (t := 73) (.mp _) rfl ?_ | refine LetV.mk (.sc (.int _ _)) rfl ?_ | refine LetV.mk (.agg _) rfl ?_) | (refine LetB.pre ?_; first | refine LetB.dect (by omega) ?_) | (refine Br.pre ?_; first | refine Br.tt rfl ?_) | (refine Ck.pre ?_; first | refine Ck.mk rfl ?_) | (refine FindN.mk none hfi ?_)))); (try (conv => whnf)))



        exact ⟨rfl, ⟨[], bkH (putM m e), 2⟩, SW.mk id rfl rfl (hbn _ _ rfl) trivial (haveV.map (kvM_pure _) (by rw [hput, hlen]; rfl) (haveV.one rfl trivial)), rfl⟩
      | some i =>
        have hfi := find_some hix
        have hput := kvM_put_some hix
        have hlen : (putM m e).length = m.length := by rw [put_some hix, List.length_set]
        ((repeat ((conv => whnf); (first | (refine LetN.pre ?_; first | ((conv => arg 1; whnf); refine LetN.mk ?_)) | (refine As.pre ?_; first | refine As.mk rfl ?_) | (refine Ck.pre ?_; first | refine Ck.mk rfl ?_) | (refine LetL.pre ?_; first | refine LetL.mk [_] rfl ?_)))); (try (conv => whnf)))
        refine ⟨rfl, ?_⟩
        ((repeat ((conv => whnf); (first | (refine LetN.pre ?_; first | ((conv => arg 1; whnf); refine LetN.mk ?_)) | (refine As.pre ?_; first | refine As.mk rfl ?_ | refine As.mk hk1 ?_) | (refine LetV.pre ?_; first | refine LetV.mk (t := 73) (.mp _) rfl ?_ | refine LetV.mk (.sc (.int _ _)) rfl ?_ | refine LetV.mk (.agg _) rfl ?_) | (refine LetB.pre ?_; first | refine LetB.dect (by omega) ?_) | (refine Br.pre ?_; first | refine Br.tt rfl ?_) | (refine Ck.pre ?_; first | refine Ck.mk rfl ?_) | (refine FindN.mk (some i) hfi ?_)))); (try (conv => whnf)))



        exact ⟨rfl, ⟨[], bkH (putM m e), 2⟩, SW.mk id rfl rfl (hbn _ _ rfl) trivial (haveV.map (kvM_pure _) (by rw [hput, hlen]; rfl) (haveV.one rfl trivial)), rfl⟩
    · rw [if_neg h3]
      ((repeat ((conv => whnf); (first | (refine LetN.pre ?_; first | ((conv => arg 1; whnf); refine LetN.mk ?_)) | (refine As.pre ?_; first | refine As.mk rfl ?_) | (refine Ck.pre ?_; first | refine Ck.mk rfl ?_) | (refine LetL.pre ?_; first | refine LetL.mk [_] rfl ?_)))); (try (conv => whnf)))
      refine ⟨rfl, ?_⟩
      ((repeat ((conv => whnf); (first | (refine As.pre ?_; first | refine As.mk rfl ?_) | (refine LetV.pre ?_; first | refine LetV.mk (.sc (.int _ _)) rfl ?_) | (refine LetB.pre ?_; first | refine LetB.decf (by omega) ?_) | (refine Br.pre ?_; first | refine Br.ff rfl ?_) | (refine Ck.pre ?_; first | refine Ck.mk rfl ?_)))); (try (conv => whnf)))
      exact ⟨rfl, ⟨[], bkH m, 2⟩, SW.mk id rfl rfl (hbn _ _ rfl) trivial (haveV.map (kvM_pure _) rfl (haveV.one rfl trivial)), rfl⟩
  case sol => exact solidH.row rfl (solidH.map (kvM_solid _) (solidH.row rfl rfl))
  case rest =>
    have hgb : ∀ k, okB (gradeM (mB l) k) := fun k => by
      unfold gradeM
      split
      · rename_i i hi
        obtain ⟨e, he⟩ := ix_some hi
        rw [List.getD_eq_getElem?_getD, he]
        obtain ⟨e', he', h⟩ := mem_mB _ (List.mem_of_getElem? he)
        injection h with _ h
        show okB e
        rw [h]; exact hb e' he'
      · exact ⟨⟨by decide, by decide⟩, by decide, by decide⟩
    have hk1 : ∀ {k : Int}, okI k → _ := fun {k} h => keys_M (m := mB l) (mB_keys hkey) (n := k) h
    rw [ofP]
    generalize mB l = m at hgb hk1 ⊢
    ((repeat ((conv => whnf); (first | (refine As.pre ?_; first | refine As.mk rfl ?_) | (refine LetI.pre ?_; first | refine LetI.mk _ rfl ?_) | (refine Ck.pre ?_; first | refine Ck.mk rfl ?_) | (refine CallN.pre ?_; first | refine CallN.pure hA rfl rfl ?_)))); (try (conv => whnf)))
    have hid : ∀ x ∈ atP l a o, okI x.entry := fun x hx => by
      obtain ⟨e, he, h⟩ := mem_at hx
      rw [h]; exact hkey e he
    have hAl : (atP l a o).length < 20 := by
      have h1 : (chos (atR l a o) [cOf 3]).length ≤ _ := List.length_filter_le _ _
      have h2 : (chos l [cCounts a o]).length ≤ _ := List.length_filter_le _ _
      have h3 : (atR l a o).length = _ := srt_length false _
      have h4 : (atP l a o).length = _ := List.length_map _
      omega
    generalize atP l a o = A at hid hAl ⊢
    clear hA hB hkey hb hl
    refine LoopN.weak (s1 := ofS m s st A (0, [])) ?sw1 ?_
    case sw1 => exact SW.mk id rfl rfl (ofNames _ _ _ _ rfl) ⟨.refl _, .refl _, .refl _, VLe2.nilslm, .refl _, VLe2.int (by rw [List.length_map]), .refl _, trivial⟩ (haveV.row rfl rfl (haveV.map (kvM_pure _) rfl (haveV.one rfl (haveV.nil (Nat.le_refl _) trivial))))
    refine LoopN.ind T_ok mixed (S := ofS m s st A) (fun i => A.length - i.1) (fun i => i.1 ≤ A.length ∧ i.2 = ((A.take i.1).filter (keepA m s st)).map fun x => ownA (gradeM m x.entry) x.grade) (fun _ => rfl) (fun i hi ih => ?_) (0, []) ⟨Nat.zero_le _, rfl⟩
    obtain ⟨k, out⟩ := i
    obtain ⟨h1, h2⟩ := hi
    simp only at h1 h2 ih
    by_cases hlt : k < A.length
    case neg =>
      have hk : k = A.length := by omega
      subst hk
      rw [List.take_length] at h2
      rw [← h2]
      clear ih
      ((repeat ((conv => whnf); (first | (refine As.pre ?_; first | refine As.mk rfl ?_) | (refine LetB.pre ?_; first | refine LetB.decf (by omega) ?_) | (refine Br.pre ?_; first | refine Br.ff rfl ?_) | (refine Ck.pre ?_; first | refine Ck.mk rfl ?_)))); (try (conv => whnf)))
      exact ⟨⟨[(10, .slm {} 0 8 0 out.length)], [(0, .row 8 aty (out.map achA))], 4⟩, SW.mk (fun _ => 3) rfl rfl (namesAll.row (pure_ach _) rfl) ⟨.refl _, trivial⟩ (haveV.row (pure_ach _) rfl trivial), .inl rfl, ⟨_, rfl, rfl⟩, rfl, trivial⟩
    have hld := getD_st hlt
    have hq := filter_map_succ (keepA m s st) (fun x => ownA (gradeM m x.entry) x.grade) hlt st0
    rw [← h2] at hq
    have hol : out.length ≤ k := by
      have := List.length_filter_le (keepA m s st) (A.take k)
      rw [h2, List.length_map]
      rw [List.length_take] at this
      omega
    have hxe : okI (A.getD k st0).entry := hid _ (by rw [List.getD_eq_getElem?_getD, List.getElem?_eq_getElem hlt]; exact List.getElem_mem _)
    clear h2
    generalize A.getD k st0 = x at hld hq hxe
    have hk2 := hk1 hxe
    obtain ⟨xe, xb, xg, xv⟩ := x
    have hP := Sc.Passed_f s xg
    cases hix : ixM m xe with
    | none =>
      have hfi := find_none hix
      have hge : gradeM m xe = e0 := by unfold gradeM; rw [hix]
      have heb : okB e0 := ⟨⟨by decide, by decide⟩, by decide, by decide⟩
      cases xv with
      | true =>
        rw [if_neg (by simp [keepA]), List.append_nil] at hq
        ((repeat ((conv => whnf); (first | (refine LetN.pre ?_; first | ((conv => arg 1; whnf); refine LetN.mk ?_)) | (refine As.pre ?_; first | refine As.mk rfl ?_ | refine As.mk hk2 ?_ | (refine As.mk ?_ ?_; · ((repeat' (refine andT ?_ ?_)) <;> (first | rfl | assumption | exact decide_eq_true (by omega) | exact decide_eq_true (by dsimp only; omega) | exact decide_eq_true (by simp; omega) | (simp; done))))) | (refine LetV.pre ?_; first | refine LetV.mk (t := 73) (.mp _) rfl ?_ | refine LetV.mk (t := 77) _ hld ?_ | refine LetV.mk (.sc (.int _ _)) rfl ?_ | refine LetV.mk (.sc (.bool _)) rfl ?_ | refine LetV.mk (.agg _) rfl ?_) | (refine LetI.pre ?_; first | refine LetI.wrap (by omega) (by omega) ?_) | (refine LetB.pre ?_; first | refine LetB.dect (by omega) ?_) | (refine Gd.pre ?_; first | refine Gd.pass rfl ?_) | (refine Br.pre ?_; first | refine Br.tt rfl ?_) | (refine Ck.pre ?_; first | refine Ck.mk rfl ?_) | (refine LetL.pre ?_; first | refine LetL.mk [_] rfl ?_) | (refine FindN.mk none hfi ?_)))); (try (conv => whnf)))




        refine LoopN.weak ?sw2 (ih (k + 1, out) ⟨by omega, hq.symm⟩ (by omega))
        case sw2 => exact SW.mk id rfl rfl (ofNames _ _ _ _ rfl) ⟨.refl _, .refl _, .refl _, .refl _, .refl _, .refl _, VLe2.int (by omega), trivial⟩ (haveV.row rfl rfl (haveV.map (kvM_pure _) rfl (haveV.one rfl (haveV.row (pure_ach _) rfl trivial))))
      | false =>
        by_cases hs : (0 : Int) = st
        case neg =>
          rw [if_neg (by simp [keepA, hge, e0, hs]), List.append_nil] at hq
          ((repeat ((conv => whnf); (first | (refine LetN.pre ?_; first | ((conv => arg 1; whnf); refine LetN.mk ?_)) | (refine As.pre ?_; first | refine As.mk rfl ?_ | refine As.mk hk2 ?_ | (refine As.mk ?_ ?_; · ((repeat' (refine andT ?_ ?_)) <;> (first | rfl | assumption | exact decide_eq_true (by omega) | exact decide_eq_true (by dsimp only; omega) | exact decide_eq_true (by simp; omega) | (simp; done))))) | (refine LetV.pre ?_; first | refine LetV.mk (t := 73) (.mp _) rfl ?_ | refine LetV.mk (t := 77) _ hld ?_ | refine LetV.mk (.sc (.int _ _)) rfl ?_ | refine LetV.mk (.sc (.bool _)) rfl ?_ | refine LetV.mk (.agg _) rfl ?_) | (refine LetI.pre ?_; first | refine LetI.wrap (by omega) (by omega) ?_) | (refine LetB.pre ?_; first | refine LetB.dect (by omega) ?_ | refine LetB.bnet (by omega) ?_) | (refine Gd.pre ?_; first | refine Gd.run rfl ?_ | refine Gd.pass rfl ?_) | (refine Br.pre ?_; first | refine Br.tt rfl ?_) | (refine Ck.pre ?_; first | refine Ck.mk rfl ?_) | (refine LetL.pre ?_; first | refine LetL.mk [_] rfl ?_) | (refine FindN.mk none hfi ?_)))); (try (conv => whnf)))




          refine LoopN.weak ?sw3 (ih (k + 1, out) ⟨by omega, hq.symm⟩ (by omega))
          case sw3 => exact SW.mk id rfl rfl (ofNames _ _ _ _ rfl) ⟨.refl _, .refl _, .refl _, .refl _, .refl _, .refl _, VLe2.int (by omega), trivial⟩ (haveV.row rfl rfl (haveV.map (kvM_pure _) rfl (haveV.one rfl (haveV.row (pure_ach _) rfl trivial))))
        case pos =>
          by_cases hp : Sc.rea s xg s.2.2
          case neg =>
            rw [if_neg (by simp [keepA, hge, e0, hs, hp]), List.append_nil] at hq
            ((repeat ((conv => whnf); (first | (refine LetN.pre ?_; first | ((conv => arg 1; whnf); refine LetN.mk ?_)) | (refine As.pre ?_; first | refine As.mk rfl ?_ | refine As.mk hk2 ?_ | (refine As.mk ?_ ?_; · ((repeat' (refine andT ?_ ?_)) <;> (first | rfl | assumption | exact decide_eq_true (by omega) | exact decide_eq_true (by dsimp only; omega) | exact decide_eq_true (by simp; omega) | (simp; done))))) | (refine LetV.pre ?_; first | refine LetV.mk (t := 73) (.mp _) rfl ?_ | refine LetV.mk (t := 77) _ hld ?_ | refine LetV.mk (.sc (.int _ _)) rfl ?_ | refine LetV.mk (.sc (.bool _)) rfl ?_ | refine LetV.mk (.agg _) rfl ?_) | (refine LetI.pre ?_; first | refine LetI.wrap (by omega) (by omega) ?_) | (refine LetB.pre ?_; first | refine LetB.dect (by omega) ?_ | refine LetB.bnef (by omega) ?_) | (refine Gd.pre ?_; first | refine Gd.run rfl ?_) | (refine Br.pre ?_; first | refine Br.tt rfl ?_) | (refine Ck.pre ?_; first | refine Ck.mk rfl ?_) | (refine LetL.pre ?_; first | refine LetL.mk [_] rfl ?_) | (refine CallN.pre ?_; first | refine CallN.dec hP rfl (fun h => absurd h hp) (fun _ => ?_)) | (refine FindN.mk none hfi ?_)))); (try (conv => whnf)))





            refine LoopN.weak ?sw4 (ih (k + 1, out) ⟨by omega, hq.symm⟩ (by omega))
            case sw4 => exact SW.mk id rfl rfl (ofNames _ _ _ _ rfl) ⟨.refl _, .refl _, .refl _, .refl _, .refl _, .refl _, VLe2.int (by omega), trivial⟩ (haveV.row rfl rfl (haveV.map (kvM_pure _) rfl (haveV.one rfl (haveV.row (pure_ach _) rfl trivial))))
          case pos =>
            rw [if_pos (by simp [keepA, hge, e0, hs, hp])] at hq
            have hr := room_ach (n := out.length + 1) (by omega)
            have hol2 : (out.map achA).length = out.length := List.length_map _
            ((repeat ((conv => whnf); (first | (refine LetN.pre ?_; first | ((conv => arg 1; whnf); refine LetN.mk ?_)) | (refine As.pre ?_; first | refine As.mk rfl ?_ | refine As.mk hk2 ?_ | (refine As.mk ?_ ?_; · ((repeat' (refine andT ?_ ?_)) <;> (first | rfl | assumption | exact decide_eq_true (by omega) | exact decide_eq_true (by dsimp only; omega) | exact decide_eq_true (by simp; omega) | (simp; done))))) | (refine LetV.pre ?_; first | refine LetV.mk (t := 73) (.mp _) rfl ?_ | refine LetV.mk (t := 77) _ hld ?_ | refine LetV.mk (.sc (.int _ _)) rfl ?_ | refine LetV.mk (.sc (.bool _)) rfl ?_ | refine LetV.mk (.sc _) rfl ?_ | refine LetV.mk (.agg _) rfl ?_) | (refine LetI.pre ?_; first | refine LetI.wrap (by omega) (by omega) ?_) | (refine LetB.pre ?_; first | refine LetB.dect (by omega) ?_ | refine LetB.bnef (by omega) ?_) | (refine Gd.pre ?_; first | refine Gd.run rfl ?_) | (refine Br.pre ?_; first | refine Br.tt rfl ?_ | refine Br.ff rfl ?_) | (refine Ck.pre ?_; first | refine Ck.mk rfl ?_) | (refine LetL.pre ?_; first | refine LetL.mk (ty := aty) _ (app_ach out (ownA e0 xg) _ rfl) ?_ | refine LetL.mk [_] rfl ?_) | (refine CallN.pre ?_; first | refine CallN.dec hP rfl (fun _ => ?_) (fun h => absurd hp h)) | (refine FindN.mk none hfi ?_)))); (try (conv => whnf)))






            refine LoopN.weak ?swk1 (ih (k + 1, out ++ [ownA e0 xg]) ⟨by omega, by rw [hq, hge]⟩ (by omega))
            case swk1 => exact SW.mk (fun i => if i = 3 then 6 else i) rfl rfl (ofNames _ _ _ _ rfl) ⟨.refl _, .refl _, .refl _, VLe2.slm_of (by simp), .refl _, .refl _, VLe2.int (by omega), trivial⟩ (haveV.row rfl rfl (haveV.map (kvM_pure _) rfl (haveV.one rfl (haveV.row (pure_ach _) rfl trivial))))
    | some i =>
      have hfi := find_some hix
      obtain ⟨e, he⟩ := ix_some hix
      have hge : gradeM m xe = e := by unfold gradeM; rw [hix]; show (m.getD i (0, e0)).2 = e; rw [List.getD_eq_getElem?_getD, he]; rfl
      have heb : okB e := hge ▸ hgb xe
      have hv : en e = kvAt (kvM m) i := by unfold kvAt; rw [List.getD_eq_getElem?_getD, List.getElem?_map, he]; rfl
      cases xv with
      | true =>
        rw [if_neg (by simp [keepA]), List.append_nil] at hq
        ((repeat ((conv => whnf); (first | (refine LetN.pre ?_; first | ((conv => arg 1; whnf); refine LetN.mk ?_)) | (refine As.pre ?_; first | refine As.mk rfl ?_ | refine As.mk hk2 ?_ | (refine As.mk ?_ ?_; · ((repeat' (refine andT ?_ ?_)) <;> (first | rfl | assumption | exact decide_eq_true (by omega) | exact decide_eq_true (by dsimp only; omega) | exact decide_eq_true (by simp; omega) | (simp; done))))) | (refine LetV.pre ?_; first | refine LetV.mk (t := 73) (.mp _) rfl ?_ | refine LetV.mk (t := 73) (en e) hv ?_ | refine LetV.mk (t := 77) _ hld ?_ | refine LetV.mk (.sc (.int _ _)) rfl ?_ | refine LetV.mk (.sc (.bool _)) rfl ?_ | refine LetV.mk (.agg _) rfl ?_) | (refine LetI.pre ?_; first | refine LetI.wrap (by omega) (by omega) ?_) | (refine LetB.pre ?_; first | refine LetB.dect (by omega) ?_) | (refine Gd.pre ?_; first | refine Gd.pass rfl ?_) | (refine Br.pre ?_; first | refine Br.tt rfl ?_) | (refine Ck.pre ?_; first | refine Ck.mk rfl ?_) | (refine LetL.pre ?_; first | refine LetL.mk [_] rfl ?_) | (refine FindN.mk (some i) hfi ?_)))); (try (conv => whnf)))





        refine LoopN.weak ?sw5 (ih (k + 1, out) ⟨by omega, hq.symm⟩ (by omega))
        case sw5 => exact SW.mk id rfl rfl (ofNames _ _ _ _ rfl) ⟨.refl _, .refl _, .refl _, .refl _, .refl _, .refl _, VLe2.int (by omega), trivial⟩ (haveV.row rfl rfl (haveV.map (kvM_pure _) rfl (haveV.one rfl (haveV.row (pure_ach _) rfl trivial))))
      | false =>
        by_cases hs : e.student = st
        case neg =>
          rw [if_neg (by simp [keepA, hge, hs]), List.append_nil] at hq
          ((repeat ((conv => whnf); (first | (refine LetN.pre ?_; first | ((conv => arg 1; whnf); refine LetN.mk ?_)) | (refine As.pre ?_; first | refine As.mk rfl ?_ | refine As.mk hk2 ?_ | (refine As.mk ?_ ?_; · ((repeat' (refine andT ?_ ?_)) <;> (first | rfl | assumption | exact decide_eq_true (by omega) | exact decide_eq_true (by dsimp only; omega) | exact decide_eq_true (by simp; omega) | (simp; done))))) | (refine LetV.pre ?_; first | refine LetV.mk (t := 73) (.mp _) rfl ?_ | refine LetV.mk (t := 73) (en e) hv ?_ | refine LetV.mk (t := 77) _ hld ?_ | refine LetV.mk (.sc (.int _ _)) rfl ?_ | refine LetV.mk (.sc (.bool _)) rfl ?_ | refine LetV.mk (.agg _) rfl ?_) | (refine LetI.pre ?_; first | refine LetI.wrap (by omega) (by omega) ?_) | (refine LetB.pre ?_; first | refine LetB.dect (by omega) ?_ | refine LetB.bnet (by omega) ?_) | (refine Gd.pre ?_; first | refine Gd.run rfl ?_ | refine Gd.pass rfl ?_) | (refine Br.pre ?_; first | refine Br.tt rfl ?_) | (refine Ck.pre ?_; first | refine Ck.mk rfl ?_) | (refine LetL.pre ?_; first | refine LetL.mk [_] rfl ?_) | (refine FindN.mk (some i) hfi ?_)))); (try (conv => whnf)))





          refine LoopN.weak ?sw6 (ih (k + 1, out) ⟨by omega, hq.symm⟩ (by omega))
          case sw6 => exact SW.mk id rfl rfl (ofNames _ _ _ _ rfl) ⟨.refl _, .refl _, .refl _, .refl _, .refl _, .refl _, VLe2.int (by omega), trivial⟩ (haveV.row rfl rfl (haveV.map (kvM_pure _) rfl (haveV.one rfl (haveV.row (pure_ach _) rfl trivial))))
        case pos =>
          by_cases hp : Sc.rea s xg s.2.2
          case neg =>
            rw [if_neg (by simp [keepA, hge, hs, hp]), List.append_nil] at hq
            ((repeat ((conv => whnf); (first | (refine LetN.pre ?_; first | ((conv => arg 1; whnf); refine LetN.mk ?_)) | (refine As.pre ?_; first | refine As.mk rfl ?_ | refine As.mk hk2 ?_ | (refine As.mk ?_ ?_; · ((repeat' (refine andT ?_ ?_)) <;> (first | rfl | assumption | exact decide_eq_true (by omega) | exact decide_eq_true (by dsimp only; omega) | exact decide_eq_true (by simp; omega) | (simp; done))))) | (refine LetV.pre ?_; first | refine LetV.mk (t := 73) (.mp _) rfl ?_ | refine LetV.mk (t := 73) (en e) hv ?_ | refine LetV.mk (t := 77) _ hld ?_ | refine LetV.mk (.sc (.int _ _)) rfl ?_ | refine LetV.mk (.sc (.bool _)) rfl ?_ | refine LetV.mk (.agg _) rfl ?_) | (refine LetI.pre ?_; first | refine LetI.wrap (by omega) (by omega) ?_) | (refine LetB.pre ?_; first | refine LetB.dect (by omega) ?_ | refine LetB.bnef (by omega) ?_) | (refine Gd.pre ?_; first | refine Gd.run rfl ?_) | (refine Br.pre ?_; first | refine Br.tt rfl ?_) | (refine Ck.pre ?_; first | refine Ck.mk rfl ?_) | (refine LetL.pre ?_; first | refine LetL.mk [_] rfl ?_) | (refine CallN.pre ?_; first | refine CallN.dec hP rfl (fun h => absurd h hp) (fun _ => ?_)) | (refine FindN.mk (some i) hfi ?_)))); (try (conv => whnf)))






            refine LoopN.weak ?sw7 (ih (k + 1, out) ⟨by omega, hq.symm⟩ (by omega))
            case sw7 => exact SW.mk id rfl rfl (ofNames _ _ _ _ rfl) ⟨.refl _, .refl _, .refl _, .refl _, .refl _, .refl _, VLe2.int (by omega), trivial⟩ (haveV.row rfl rfl (haveV.map (kvM_pure _) rfl (haveV.one rfl (haveV.row (pure_ach _) rfl trivial))))
          case pos =>
            rw [if_pos (by simp [keepA, hge, hs, hp])] at hq
            have hr := room_ach (n := out.length + 1) (by omega)
            have hol2 : (out.map achA).length = out.length := List.length_map _
            ((repeat ((conv => whnf); (first | (refine LetN.pre ?_; first | ((conv => arg 1; whnf); refine LetN.mk ?_)) | (refine As.pre ?_; first | refine As.mk rfl ?_ | refine As.mk hk2 ?_ | (refine As.mk ?_ ?_; · ((repeat' (refine andT ?_ ?_)) <;> (first | rfl | assumption | exact decide_eq_true (by omega) | exact decide_eq_true (by dsimp only; omega) | exact decide_eq_true (by simp; omega) | (simp; done))))) | (refine LetV.pre ?_; first | refine LetV.mk (t := 73) (.mp _) rfl ?_ | refine LetV.mk (t := 73) (en e) hv ?_ | refine LetV.mk (t := 77) _ hld ?_ | refine LetV.mk (.sc (.int _ _)) rfl ?_ | refine LetV.mk (.sc (.bool _)) rfl ?_ | refine LetV.mk (.sc _) rfl ?_ | refine LetV.mk (.agg _) rfl ?_) | (refine LetI.pre ?_; first | refine LetI.wrap (by omega) (by omega) ?_) | (refine LetB.pre ?_; first | refine LetB.dect (by omega) ?_ | refine LetB.bnef (by omega) ?_) | (refine Gd.pre ?_; first | refine Gd.run rfl ?_) | (refine Br.pre ?_; first | refine Br.tt rfl ?_ | refine Br.ff rfl ?_) | (refine Ck.pre ?_; first | refine Ck.mk rfl ?_) | (refine LetL.pre ?_; first | refine LetL.mk (ty := aty) _ (app_ach out (ownA e xg) _ rfl) ?_ | refine LetL.mk [_] rfl ?_) | (refine CallN.pre ?_; first | refine CallN.dec hP rfl (fun _ => ?_) (fun h => absurd hp h)) | (refine FindN.mk (some i) hfi ?_)))); (try (conv => whnf)))







            refine LoopN.weak ?swk2 (ih (k + 1, out ++ [ownA e xg]) ⟨by omega, by rw [hq, hge]⟩ (by omega))
            case swk2 => exact SW.mk (fun i => if i = 3 then 6 else i) rfl rfl (ofNames _ _ _ _ rfl) ⟨.refl _, .refl _, .refl _, VLe2.slm_of (by simp), .refl _, .refl _, VLe2.int (by omega), trivial⟩ (haveV.row rfl rfl (haveV.map (kvM_pure _) rfl (haveV.one rfl (haveV.row (pure_ach _) rfl trivial))))
theorem Of_f (l : List E) (s : Sc.Scl) (st a o : Int) (fl : Fl) (hl : l.length < 20) (hb : ∀ e ∈ l, okB e) : AFun Try.prog 12 0 [.ro fl 15 (l.map en), Sc.scA s, int st, int a, int o] [] (.ro {} 8 ((ofP l s st a o).map achA)) [] :=
  AFun.frz1 (H := []) (Of_s l s st a o fl hl hb) rfl (pure_ach _) (by simp)
end En
end Go.Proofs.Ytiefcppgbnfbfaa
namespace Go.Proofs.Ytiefcppgbnfbfaa
open Go.Proofs.Ytiefcppgbnfbfaa.Am
set_option maxRecDepth 100000
namespace En
/-! ### What every law asks first -/
abbrev ex1 : E := ⟨1, 2, 7, 3, 100, 100, ⟨#[65, 49]⟩, 5, 2, 0, 0, 0, 0, 0, ⟨#[]⟩⟩
abbrev ex2 : E := ⟨2, 2, 7, 3, 100, 100, ⟨#[66, 49]⟩, 5, 4, 0, 0, 0, 0, 0, ⟨#[]⟩⟩
abbrev ex3 : E := ⟨3, 2, 7, 3, 100, 100, ⟨#[66, 50]⟩, 10, 3, 0, 0, 0, 0, 0, ⟨#[]⟩⟩
abbrev ex4 : E := ⟨4, 2, 7, 4, 150, 100, ⟨#[]⟩, 0, 3, 2, 0, 0, 0, 0, ⟨#[]⟩⟩
abbrev ex5 : E := ⟨5, 2, 7, 5, 160, 160, ⟨#[]⟩, 0, 0, 3, 0, 0, 0, 0, ⟨#[]⟩⟩
abbrev exl : List E := [ex1, ex2, ex3, ex4, ex5]
theorem example1_f (i k d o : Int) : AFun Try.prog 58 0 [int i, int k, int d, int o] [] (en ⟨i, 2, 7, k, d, o, ⟨#[]⟩, 0, 0, 0, 0, 0, 0, 0, ⟨#[]⟩⟩) [] := by
  refine AFun.of_W T_ok mixed Try.func58 rfl (Nat.le_of_ble_eq_true rfl) rfl ?_
  ((repeat ((conv => whnf); (first | (refine LetN.pre ?_; first | ((conv => arg 1; whnf); refine LetN.mk ?_)) | (refine As.pre ?_; first | refine As.mk rfl ?_) | (refine Ck.pre ?_; first | refine Ck.mk rfl ?_) | (refine LetL.pre ?_; first | refine LetL.mk [_] rfl ?_)))); (try (conv => whnf)))
  exact ⟨.inl rfl, ⟨_, rfl, rfl⟩, trivial⟩
set_option maxRecDepth 100000 in
theorem example_s : AFun Try.prog 33 0 [] [] (.slm ⟨false, true⟩ 0 15 0 5) [(0, .row 15 ety (exl.map en))] := by
  refine AFun.of_S T_ok mixed Try.func33 rfl (Nat.le_of_ble_eq_true rfl) rfl ?_
  ((repeat ((conv => whnf); (first | (refine LetN.pre ?_; first | ((conv => arg 1; whnf); refine LetN.mk ?_)) | (refine As.pre ?_; first | refine As.mk rfl ?_) | (refine Ck.pre ?_; first | refine Ck.mk rfl ?_) | (refine LetL.pre ?_; first | refine LetL.mk _ rfl ?_) | (refine CallN.pre ?_; first | refine CallN.pure (example1_f _ _ _ _) rfl rfl ?_)))); (try (conv => whnf)))
  exact ⟨⟨[(0, .slm ⟨false, true⟩ 0 15 0 5)], [(0, .row 15 ety (exl.map en))], 1⟩, SW.mk id rfl rfl rfl ⟨.refl _, trivial⟩ (haveV.one rfl trivial), .inl rfl, ⟨_, rfl, rfl⟩, rfl, trivial⟩
theorem example_f : AFun Try.prog 33 0 [] [] (.ro ⟨false, true⟩ 15 (exl.map en)) [] := AFun.frz1 (H := []) example_s rfl (pure_en _) rfl
abbrev sc5 : Sc.Scl := (5, 1, 3)
abbrev acA1 : Ach := ⟨2, ⟨#[65, 49]⟩, 5, 2, 100, (⟨true, true⟩, [2000001]), 0, none⟩
abbrev acB1 : Ach := ⟨2, ⟨#[66, 49]⟩, 5, 3, 100, (⟨true, true⟩, [2000002]), 0, none⟩
abbrev acB2 : Ach := ⟨2, ⟨#[66, 50]⟩, 10, 3, 100, (⟨true, true⟩, [2000003]), 0, none⟩
theorem exl_ok : ∀ e ∈ exl, okB e := by
  intro e he
  simp only [exl, List.mem_cons, List.not_mem_nil, or_false] at he
  rcases he with rfl | rfl | rfl | rfl | rfl <;> exact ⟨⟨by decide, by decide⟩, by decide, by decide⟩
theorem of1 : (ofP exl sc5 7 100 100).map achA = [achA acA1, achA acB2] := by kernel_rfl
theorem of2 : (ofP exl sc5 7 150 100).map achA = [achA acA1, achA acB1, achA acB2] := by kernel_rfl
theorem of3 : (ofP exl sc5 7 160 160).map achA = [achA acA1, achA acB1] := by kernel_rfl
theorem of4 : (ofP exl sc5 7 160 159).map achA = [achA acA1, achA acB1, achA acB2] := by kernel_rfl
theorem of5 : (ofP exl sc5 8 160 160).map achA = [] := by kernel_rfl
theorem exO (st a o : Int) {L : List AV} (h : (ofP exl sc5 st a o).map achA = L) : AFun Try.prog 12 0 [.ro ⟨false, true⟩ 15 (exl.map en), Sc.scA sc5, int st, int a, int o] [] (.ro {} 8 L) [] := h ▸ Of_f exl sc5 st a o ⟨false, true⟩ (Nat.le_of_ble_eq_true rfl) exl_ok
abbrev sA1 : AV := str ⟨#[65, 49]⟩
abbrev sB1 : AV := str ⟨#[66, 49]⟩
abbrev sB2 : AV := str ⟨#[66, 50]⟩
theorem cd1 : AFun Try.prog 34 0 [.ro {} 8 [achA acA1, achA acB2], .ro ⟨true, true⟩ 1 [sA1, sB2]] [] (bool true) [] := AFun.of_calls (evF_sound T_ok mixed 20 _ _ [] 0 _ (by kernel_rfl))
theorem cd2 : AFun Try.prog 34 0 [.ro {} 8 [achA acA1, achA acB1, achA acB2], .ro ⟨true, true⟩ 1 [sA1, sB1, sB2]] [] (bool true) [] := AFun.of_calls (evF_sound T_ok mixed 20 _ _ [] 0 _ (by kernel_rfl))
theorem cd3 : AFun Try.prog 34 0 [.ro {} 8 [achA acA1, achA acB1], .ro ⟨true, true⟩ 1 [sA1, sB1]] [] (bool true) [] := AFun.of_calls (evF_sound T_ok mixed 20 _ _ [] 0 _ (by kernel_rfl))
theorem cd4 : AFun Try.prog 34 0 [.ro {} 8 [], .sc (.slice none 0 0)] [] (bool true) [] := AFun.of_calls (evF_sound T_ok mixed 20 _ _ [] 0 _ (by kernel_rfl))
theorem mean1 : AFun Try.prog 14 0 [.ro {} 8 [achA acA1, achA acB2]] [] (.tup [.agg [int 8, int 3], bool true]) [] := AFun.of_calls (evF_sound T_ok mixed 60 _ _ [] 0 _ (by kernel_rfl))
theorem cred1 : AFun Try.prog 17 0 [.ro {} 8 [achA acA1, achA acB2]] [] (int 15) [] := AFun.of_calls (evF_sound T_ok mixed 20 _ _ [] 0 _ (by kernel_rfl))
theorem ap1 : AFun Try.prog 20 0 [achA acA1, achA acA1] [] (bool false) [] := AFun.of_calls (evF_sound T_ok mixed 20 _ _ [] 0 _ (by kernel_rfl))
abbrev acX : Ach := ⟨1, ⟨#[65, 49]⟩, 0, 0, 0, (⟨true, true⟩, [5]), 0, none⟩
abbrev acY : Ach := ⟨1, ⟨#[66, 49]⟩, 0, 0, 0, (⟨true, true⟩, [5]), 0, none⟩
abbrev acX2 : Ach := ⟨1, ⟨#[65, 49]⟩, 0, 0, 0, (⟨true, true⟩, [5]), 2, some (⟨true, true⟩, [9])⟩
abbrev acY2 : Ach := ⟨1, ⟨#[66, 49]⟩, 0, 0, 0, (⟨true, true⟩, [5]), 2, some (⟨true, true⟩, [9])⟩
theorem ap2 : AFun Try.prog 20 0 [achA acX, achA acY] [] (bool false) [] := AFun.of_calls (evF_sound T_ok mixed 40 _ _ [] 0 _ (by kernel_rfl))
theorem ap3 : AFun Try.prog 20 0 [achA acX2, achA acY2] [] (bool true) [] := AFun.of_calls (evF_sound T_ok mixed 40 _ _ [] 0 _ (by kernel_rfl))
theorem fr1 : AFun Try.prog 21 0 [.ro {} 8 [achA acA1, achA acB2]] [] (bool true) [] := AFun.of_calls (evF_sound T_ok mixed 40 _ _ [] 0 _ (by kernel_rfl))
theorem fr2 : AFun Try.prog 21 0 [.ro ⟨true, true⟩ 8 [achA acX, achA acY]] [] (bool false) [] := AFun.of_calls (evF_sound T_ok mixed 40 _ _ [] 0 _ (by kernel_rfl))
set_option maxHeartbeats 1600000 in
set_option maxRecDepth 100000 in
theorem sanity_f : AFun Try.prog 9 0 [] [] (bool true) [] := by
  refine AFun.of_W T_ok mixed Try.func9 rfl (Nat.le_of_ble_eq_true rfl) rfl ?_
  ((repeat ((conv => whnf); (first | (refine LetN.pre ?_; first | ((conv => arg 1; whnf); refine LetN.mk ?_)) | (refine As.pre ?_; first | refine As.mk rfl ?_) | (refine LetV.pre ?_; first | refine LetV.mk (.sc (.int _ _)) rfl ?_ | refine LetV.mk (.agg _) rfl ?_ | refine LetV.mk (.ro _ _ _) rfl ?_) | (refine LetI.pre ?_; first | refine LetI.mk _ rfl ?_) | (refine LetB.pre ?_; first | refine LetB.tt rfl ?_ | refine LetB.ff rfl ?_) | (refine Gd.pre ?_; first | refine Gd.run rfl ?_) | (refine Br.pre ?_; first | refine Br.ff rfl ?_) | (refine Ck.pre ?_; first | refine Ck.drawn (by kernel_rfl) ?_ | refine Ck.mk rfl ?_) | (refine LetL.pre ?_; first | refine LetL.mk [_] rfl ?_) | (refine CallN.pre ?_; first | refine CallN.pure example_f rfl rfl ?_ | refine CallN.pure (exO 7 100 100 of1) rfl rfl ?_ | refine CallN.pure (exO 7 150 100 of2) rfl rfl ?_ | refine CallN.pure (exO 7 160 160 of3) rfl rfl ?_ | refine CallN.pure (exO 7 160 159 of4) rfl rfl ?_ | refine CallN.pure (exO 8 160 160 of5) rfl rfl ?_ | refine CallN.pure cd1 rfl rfl ?_ | refine CallN.pure cd2 rfl rfl ?_ | refine CallN.pure cd3 rfl rfl ?_ | refine CallN.pure cd4 rfl rfl ?_ | refine CallN.pure mean1 rfl rfl ?_ | refine CallN.pure cred1 rfl rfl ?_ | refine CallN.pure ap1 rfl rfl ?_ | refine CallN.pure ap2 rfl rfl ?_ | refine CallN.pure ap3 rfl rfl ?_ | refine CallN.pure fr1 rfl rfl ?_ | refine CallN.pure fr2 rfl rfl ?_)))); (try (conv => whnf)))

















  exact ⟨.inl rfl, ⟨_, rfl, rfl⟩, trivial⟩
end En
end Go.Proofs.Ytiefcppgbnfbfaa
namespace Go.Proofs.Ytiefcppgbnfbfaa
open Go.Proofs.Ytiefcppgbnfbfaa.Am
set_option maxRecDepth 100000
namespace En
/-! ### Lists of numbers -/
abbrev ro1 (fl : Fl) (xs : List Int) : AV := .ro fl 1 (xs.map int)
theorem drop_eq {xs ys : List Int} {k : Nat} (h1 : k < xs.length) (h2 : k < ys.length) : xs.drop k = ys.drop k ↔ xs.getD k 0 = ys.getD k 0 ∧ xs.drop (k + 1) = ys.drop (k + 1) := by
  rw [List.drop_eq_getElem_cons h1, List.drop_eq_getElem_cons h2, List.getD_eq_getElem?_getD, List.getD_eq_getElem?_getD, List.getElem?_eq_getElem h1, List.getElem?_eq_getElem h2]
  rw [List.cons.injEq]; exact Iff.rfl
theorem getD_int {xs : List Int} {k : Nat} (h : k < xs.length) : int (xs.getD k 0) = (xs.map int).getD k (.sc undef) := mapD 0 h
set_option maxRecDepth 100000 in
theorem Equal_f (xs ys : List Int) (fl fl' : Fl) (hx : xs.length ≤ 1000) (hy : ys.length ≤ 1000) : AFun Try.prog 48 0 [ro1 fl xs, ro1 fl' ys] [] (bool (decide (xs = ys))) [] := by
  refine AFun.of_W T_ok mixed Try.func48 rfl (Nat.le_of_ble_eq_true rfl) rfl ?_
  have hmx : (xs.map int).length = xs.length := List.length_map _
  have hmy : (ys.map int).length = ys.length := List.length_map _
  by_cases hl : xs.length = ys.length
  case neg =>
    have hr : decide (xs = ys) = false := decide_eq_false fun h => hl (by rw [h])
    rw [hr]
    ((repeat ((conv => whnf); (first | (refine As.pre ?_; first | refine As.mk rfl ?_) | (refine LetI.pre ?_; first | refine LetI.mk _ rfl ?_) | (refine LetB.pre ?_; first | refine LetB.bnet (by omega) ?_) | (refine Br.pre ?_; first | refine Br.tt rfl ?_) | (refine Ck.pre ?_; first | refine Ck.mk rfl ?_)))); (try (conv => whnf)))
    exact ⟨.inl rfl, ⟨_, rfl, rfl⟩, trivial⟩
  ((repeat ((conv => whnf); (first | (refine As.pre ?_; first | refine As.mk rfl ?_) | (refine LetI.pre ?_; first | refine LetI.mk _ rfl ?_) | (refine LetB.pre ?_; first | refine LetB.bnef (by omega) ?_) | (refine Br.pre ?_; first | refine Br.ff rfl ?_) | (refine Ck.pre ?_; first | refine Ck.mk rfl ?_)))); (try (conv => whnf)))
  refine LoopN.weak (s1 := ⟨[(0, ro1 fl xs), (1, ro1 fl' ys), (12, int xs.length), (13, int (0 : Nat))], [], 0⟩) (SW.fr0 (Nat.le_refl _) rfl ⟨.refl _, .refl _, VLe2.int (by rw [List.length_map]), .refl _, trivial⟩) ?_
  refine LoopN.ind T_ok mixed (S := fun k : Nat => ⟨[(0, ro1 fl xs), (1, ro1 fl' ys), (12, int xs.length), (13, int k)], [], 0⟩) (fun k => xs.length - k) (fun k => k ≤ xs.length ∧ decide (xs = ys) = decide (xs.drop k = ys.drop k)) (fun _ => rfl) (fun k hk ih => ?_) 0 ⟨Nat.zero_le _, rfl⟩
  obtain ⟨h1, h2⟩ := hk
  by_cases hlt : k < xs.length
  case neg =>
    rw [List.drop_eq_nil_of_le (by omega), List.drop_eq_nil_of_le (by omega)] at h2
    rw [h2]
    clear ih
    ((repeat ((conv => whnf); (first | (refine As.pre ?_; first | refine As.mk rfl ?_) | (refine LetB.pre ?_; first | refine LetB.decf (by omega) ?_) | (refine Br.pre ?_; first | refine Br.ff rfl ?_) | (refine Ck.pre ?_; first | refine Ck.mk rfl ?_)))); (try (conv => whnf)))
    exact ⟨.inl rfl, ⟨_, rfl, rfl⟩, trivial⟩
  case pos =>
    have hlx := getD_int hlt
    have hly := getD_int (xs := ys) (k := k) (by omega)
    have hd := drop_eq hlt (show k < ys.length by omega)
    generalize xs.getD k 0 = x at hlx hd
    generalize ys.getD k 0 = y at hly hd
    by_cases hxy : x = y
    · have h3 : decide (xs = ys) = decide (xs.drop (k + 1) = ys.drop (k + 1)) := by rw [h2]; exact decide_eq_decide.2 (hd.trans ⟨fun h => h.2, fun h => ⟨hxy, h⟩⟩)
      clear h2 hd
      ((repeat ((conv => whnf); (first | (refine As.pre ?_; first | refine As.mk rfl ?_ | (refine As.mk ?_ ?_; · ((repeat' (refine andT ?_ ?_)) <;> (first | rfl | assumption | exact decide_eq_true (by omega) | exact decide_eq_true (by dsimp only; omega) | exact decide_eq_true (by simp; omega) | (simp; done))))) | (refine LetV.pre ?_; first | refine LetV.mk (t := 22) _ hlx ?_ | refine LetV.mk (t := 22) _ hly ?_ | refine LetV.mk (.sc (.int _ _)) rfl ?_) | (refine LetI.pre ?_; first | refine LetI.wrap (by omega) (by omega) ?_) | (refine LetB.pre ?_; first | refine LetB.dect (by omega) ?_ | refine LetB.bnef (by omega) ?_) | (refine Br.pre ?_; first | refine Br.tt rfl ?_ | refine Br.ff rfl ?_) | (refine Ck.pre ?_; first | refine Ck.drawn (by kernel_rfl) ?_ | refine Ck.mk rfl ?_)))); (try (conv => whnf)))
      refine LoopN.weak ?_ (ih (k + 1) ⟨by omega, h3⟩ (by omega))
      exact SW.fr0 (Nat.le_refl _) rfl ⟨.refl _, .refl _, .refl _, VLe2.int (by omega), trivial⟩
    · have h3 : decide (xs = ys) = false := by rw [h2]; exact decide_eq_false fun h => hxy (hd.1 h).1
      rw [h3]
      clear ih h2 hd
      ((repeat ((conv => whnf); (first | (refine As.pre ?_; first | refine As.mk rfl ?_ | (refine As.mk ?_ ?_; · ((repeat' (refine andT ?_ ?_)) <;> (first | rfl | assumption | exact decide_eq_true (by omega) | exact decide_eq_true (by dsimp only; omega) | exact decide_eq_true (by simp; omega) | (simp; done))))) | (refine LetV.pre ?_; first | refine LetV.mk (t := 22) _ hlx ?_ | refine LetV.mk (t := 22) _ hly ?_ | refine LetV.mk (.sc (.int _ _)) rfl ?_) | (refine LetB.pre ?_; first | refine LetB.dect (by omega) ?_ | refine LetB.bnet (by omega) ?_) | (refine Br.pre ?_; first | refine Br.tt rfl ?_) | (refine Ck.pre ?_; first | refine Ck.drawn (by kernel_rfl) ?_ | refine Ck.mk rfl ?_)))); (try (conv => whnf)))
      exact ⟨.inl rfl, ⟨_, rfl, rfl⟩, trivial⟩
set_option maxRecDepth 100000 in
theorem SameInts_f (xs ys : List Int) (fl fl' : Fl) (hx : xs.length ≤ 1000) (hy : ys.length ≤ 1000) : AFun Try.prog 55 0 [ro1 fl xs, ro1 fl' ys] [] (bool (decide (xs = ys))) [] := by
  refine AFun.of_W T_ok mixed Try.func55 rfl (Nat.le_of_ble_eq_true rfl) rfl ?_
  have hmx : (xs.map int).length = xs.length := List.length_map _
  have hmy : (ys.map int).length = ys.length := List.length_map _
  by_cases hl : xs.length = ys.length
  case neg =>
    have hr : decide (xs = ys) = false := decide_eq_false fun h => hl (by rw [h])
    rw [hr]
    ((repeat ((conv => whnf); (first | (refine As.pre ?_; first | refine As.mk rfl ?_) | (refine LetI.pre ?_; first | refine LetI.mk _ rfl ?_) | (refine LetB.pre ?_; first | refine LetB.bnet (by omega) ?_) | (refine Br.pre ?_; first | refine Br.tt rfl ?_) | (refine Ck.pre ?_; first | refine Ck.mk rfl ?_)))); (try (conv => whnf)))
    exact ⟨.inl rfl, ⟨_, rfl, rfl⟩, trivial⟩
  ((repeat ((conv => whnf); (first | (refine As.pre ?_; first | refine As.mk rfl ?_) | (refine LetI.pre ?_; first | refine LetI.mk _ rfl ?_) | (refine LetB.pre ?_; first | refine LetB.bnef (by omega) ?_) | (refine Br.pre ?_; first | refine Br.ff rfl ?_) | (refine Ck.pre ?_; first | refine Ck.mk rfl ?_)))); (try (conv => whnf)))
  refine LoopN.weak (s1 := ⟨[(0, ro1 fl xs), (1, ro1 fl' ys), (5, int (0 : Nat))], [], 0⟩) (SW.fr0 (Nat.le_refl _) rfl ⟨.refl _, .refl _, .refl _, trivial⟩) ?_
  refine LoopN.ind T_ok mixed (S := fun k : Nat => ⟨[(0, ro1 fl xs), (1, ro1 fl' ys), (5, int k)], [], 0⟩) (fun k => xs.length - k) (fun k => k ≤ xs.length ∧ decide (xs = ys) = decide (xs.drop k = ys.drop k)) (fun _ => rfl) (fun k hk ih => ?_) 0 ⟨Nat.zero_le _, rfl⟩
  obtain ⟨h1, h2⟩ := hk
  by_cases hlt : k < xs.length
  case neg =>
    rw [List.drop_eq_nil_of_le (by omega), List.drop_eq_nil_of_le (by omega)] at h2
    rw [h2]
    clear ih
    ((repeat ((conv => whnf); (first | (refine As.pre ?_; first | refine As.mk rfl ?_) | (refine LetI.pre ?_; first | refine LetI.mk _ rfl ?_) | (refine LetB.pre ?_; first | refine LetB.decf (by omega) ?_) | (refine Br.pre ?_; first | refine Br.ff rfl ?_) | (refine Ck.pre ?_; first | refine Ck.mk rfl ?_)))); (try (conv => whnf)))
    exact ⟨.inl rfl, ⟨_, rfl, rfl⟩, trivial⟩
  case pos =>
    have hlx := getD_int hlt
    have hly := getD_int (xs := ys) (k := k) (by omega)
    have hd := drop_eq hlt (show k < ys.length by omega)
    generalize xs.getD k 0 = x at hlx hd
    generalize ys.getD k 0 = y at hly hd
    by_cases hxy : x = y
    · have h3 : decide (xs = ys) = decide (xs.drop (k + 1) = ys.drop (k + 1)) := by rw [h2]; exact decide_eq_decide.2 (hd.trans ⟨fun h => h.2, fun h => ⟨hxy, h⟩⟩)
      clear h2 hd
      ((repeat ((conv => whnf); (first | (refine As.pre ?_; first | refine As.mk rfl ?_ | (refine As.mk ?_ ?_; · ((repeat' (refine andT ?_ ?_)) <;> (first | rfl | assumption | exact decide_eq_true (by omega) | exact decide_eq_true (by dsimp only; omega) | exact decide_eq_true (by simp; omega) | (simp; done))))) | (refine LetV.pre ?_; first | refine LetV.mk (t := 22) _ hlx ?_ | refine LetV.mk (t := 22) _ hly ?_ | refine LetV.mk (.sc (.int _ _)) rfl ?_) | (refine LetI.pre ?_; first | refine LetI.wrap (by omega) (by omega) ?_ | refine LetI.mk _ rfl ?_) | (refine LetB.pre ?_; first | refine LetB.dect (by omega) ?_ | refine LetB.bnef (by omega) ?_) | (refine Br.pre ?_; first | refine Br.tt rfl ?_ | refine Br.ff rfl ?_) | (refine Ck.pre ?_; first | refine Ck.drawn (by kernel_rfl) ?_ | refine Ck.mk rfl ?_)))); (try (conv => whnf)))
      refine LoopN.weak ?_ (ih (k + 1) ⟨by omega, h3⟩ (by omega))
      exact SW.fr0 (Nat.le_refl _) rfl ⟨.refl _, .refl _, VLe2.int (by omega), trivial⟩
    · have h3 : decide (xs = ys) = false := by rw [h2]; exact decide_eq_false fun h => hxy (hd.1 h).1
      rw [h3]
      clear ih h2 hd
      ((repeat ((conv => whnf); (first | (refine As.pre ?_; first | refine As.mk rfl ?_ | (refine As.mk ?_ ?_; · ((repeat' (refine andT ?_ ?_)) <;> (first | rfl | assumption | exact decide_eq_true (by omega) | exact decide_eq_true (by dsimp only; omega) | exact decide_eq_true (by simp; omega) | (simp; done))))) | (refine LetV.pre ?_; first | refine LetV.mk (t := 22) _ hlx ?_ | refine LetV.mk (t := 22) _ hly ?_ | refine LetV.mk (.sc (.int _ _)) rfl ?_) | (refine LetI.pre ?_; first | refine LetI.mk _ rfl ?_) | (refine LetB.pre ?_; first | refine LetB.dect (by omega) ?_ | refine LetB.bnet (by omega) ?_) | (refine Br.pre ?_; first | refine Br.tt rfl ?_) | (refine Ck.pre ?_; first | refine Ck.drawn (by kernel_rfl) ?_ | refine Ck.mk rfl ?_)))); (try (conv => whnf)))
      exact ⟨.inl rfl, ⟨_, rfl, rfl⟩, trivial⟩
/-! ### A common number -/
set_option maxRecDepth 100000 in
theorem IndexI_f (xs : List Int) (a : Int) (fl : Fl) (hx : xs.length ≤ 1000) : AFun Try.prog 98 0 [ro1 fl xs, int a] [] (int (fidx (fun x => decide (a = x)) xs 0)) [] := by
  refine AFun.of_W T_ok mixed Try.func98 rfl (Nat.le_of_ble_eq_true rfl) rfl ?_
  have hmx : (xs.map int).length = xs.length := List.length_map _
  ((repeat ((conv => whnf); (first | (refine As.pre ?_; first | refine As.mk rfl ?_) | (refine LetI.pre ?_; first | refine LetI.mk _ rfl ?_) | (refine Ck.pre ?_; first | refine Ck.mk rfl ?_)))); (try (conv => whnf)))
  refine LoopN.weak (s1 := ⟨[(0, ro1 fl xs), (1, int a), (7, int xs.length), (8, int (0 : Nat))], [], 0⟩) (SW.fr0 (Nat.le_refl _) rfl ⟨.refl _, .refl _, VLe2.int (by rw [List.length_map]), .refl _, trivial⟩) ?_
  refine LoopN.ind T_ok mixed (S := fun k : Nat => ⟨[(0, ro1 fl xs), (1, int a), (7, int xs.length), (8, int k)], [], 0⟩) (fun k => xs.length - k) (fun k => k ≤ xs.length ∧ fidx (fun x => decide (a = x)) xs 0 = fidx (fun x => decide (a = x)) (xs.drop k) k) (fun _ => rfl) (fun k hk ih => ?_) 0 ⟨Nat.zero_le _, rfl⟩
  obtain ⟨h1, h2⟩ := hk
  by_cases hlt : k < xs.length
  case neg =>
    rw [fidx_end hlt] at h2
    rw [h2]
    clear ih
    ((repeat ((conv => whnf); (first | (refine As.pre ?_; first | refine As.mk rfl ?_) | (refine LetB.pre ?_; first | refine LetB.decf (by omega) ?_) | (refine Br.pre ?_; first | refine Br.ff rfl ?_) | (refine Ck.pre ?_; first | refine Ck.mk rfl ?_)))); (try (conv => whnf)))
    exact ⟨.inl rfl, ⟨_, rfl, rfl⟩, trivial⟩
  case pos =>
    have hlx := getD_int hlt
    rw [fidx_drop hlt 0] at h2
    generalize xs.getD k 0 = x at hlx h2
    by_cases hxy : a = x
    · rw [if_pos (decide_eq_true hxy)] at h2
      rw [h2]
      clear ih h2
      ((repeat ((conv => whnf); (first | (refine As.pre ?_; first | refine As.mk rfl ?_ | (refine As.mk ?_ ?_; · ((repeat' (refine andT ?_ ?_)) <;> (first | rfl | assumption | exact decide_eq_true (by omega) | exact decide_eq_true (by dsimp only; omega) | exact decide_eq_true (by simp; omega) | (simp; done))))) | (refine LetV.pre ?_; first | refine LetV.mk (t := 22) _ hlx ?_ | refine LetV.mk (.sc (.int _ _)) rfl ?_) | (refine LetB.pre ?_; first | refine LetB.dect (by omega) ?_) | (refine Br.pre ?_; first | refine Br.tt rfl ?_) | (refine Ck.pre ?_; first | refine Ck.mk rfl ?_)))); (try (conv => whnf)))
      exact ⟨.inl rfl, ⟨_, rfl, rfl⟩, trivial⟩
    · rw [if_neg (by simpa using hxy)] at h2
      ((repeat ((conv => whnf); (first | (refine As.pre ?_; first | refine As.mk rfl ?_ | (refine As.mk ?_ ?_; · ((repeat' (refine andT ?_ ?_)) <;> (first | rfl | assumption | exact decide_eq_true (by omega) | exact decide_eq_true (by dsimp only; omega) | exact decide_eq_true (by simp; omega) | (simp; done))))) | (refine LetV.pre ?_; first | refine LetV.mk (t := 22) _ hlx ?_ | refine LetV.mk (.sc (.int _ _)) rfl ?_) | (refine LetI.pre ?_; first | refine LetI.wrap (by omega) (by omega) ?_) | (refine LetB.pre ?_; first | refine LetB.dect (by omega) ?_ | refine LetB.decf (by omega) ?_) | (refine Br.pre ?_; first | refine Br.tt rfl ?_ | refine Br.ff rfl ?_) | (refine Ck.pre ?_; first | refine Ck.mk rfl ?_)))); (try (conv => whnf)))
      refine LoopN.weak ?_ (ih (k + 1) ⟨by omega, h2⟩ (by omega))
      exact SW.fr0 (Nat.le_refl _) rfl ⟨.refl _, .refl _, .refl _, VLe2.int (by omega), trivial⟩
abbrev hasI (xs : List Int) (a : Int) : Bool := xs.any fun x => decide (a = x)
theorem ge_any {α : Type} (p : α → Bool) (l : List α) : decide (fidx p l 0 ≥ 0) = l.any p := by
  have := fidx_nonneg (p := p) l 0
  cases h : l.any p with
  | true => exact decide_eq_true (this.2 h)
  | false => exact decide_eq_false fun n => by rw [this.1 n] at h; cases h
theorem ContainsI_f (xs : List Int) (a : Int) (fl : Fl) (hx : xs.length ≤ 1000) : AFun Try.prog 78 0 [ro1 fl xs, int a] [] (bool (hasI xs a)) [] := by
  refine AFun.of_W T_ok mixed Try.func78 rfl (Nat.le_of_ble_eq_true rfl) rfl ?_
  have h := IndexI_f xs a fl hx
  rw [hasI, ← ge_any]
  generalize fidx (fun x => decide (a = x)) xs 0 = i at h ⊢
  ((repeat ((conv => whnf); (first | (refine As.pre ?_; first | refine As.mk rfl ?_) | (refine LetB.pre ?_; first | refine LetB.mk _ rfl ?_) | (refine Ck.pre ?_; first | refine Ck.mk rfl ?_) | (refine CallN.pre ?_; first | refine CallN.pure h rfl rfl ?_)))); (try (conv => whnf)))
  exact ⟨.inl rfl, ⟨_, rfl, rfl⟩, trivial⟩
theorem meet1_f (ys : List Int) (a : Int) (fl : Fl) (hy : ys.length ≤ 1000) : AFun Try.prog 77 0 [int a, .rp (ro1 fl ys) 0] [] (bool (hasI ys a)) [] := by
  refine AFun.of_W T_ok mixed Try.func77 rfl (Nat.le_of_ble_eq_true rfl) rfl ?_
  have h := ContainsI_f ys a fl hy
  ((repeat ((conv => whnf); (first | (refine As.pre ?_; first | refine As.mk rfl ?_) | (refine LetV.pre ?_; first | refine LetV.mk (.ro _ _ _) rfl ?_) | (refine Ck.pre ?_; first | refine Ck.mk rfl ?_) | (refine CallN.pre ?_; first | refine CallN.pure h rfl rfl ?_)))); (try (conv => whnf)))
  exact ⟨.inl rfl, ⟨_, rfl, rfl⟩, trivial⟩
end En
end Go.Proofs.Ytiefcppgbnfbfaa
