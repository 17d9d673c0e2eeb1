/- force: parts of the proof, DforceFA DforceFB DforceFC DforceFD DforceFE DforceFF DforceFG DforceFH DforceFI. -/
import Derived.Test.YtjnohedknlibmaaL33
import Derived.Test.YtjnohedknlibmaaAmMI
set_option linter.all false
namespace Go.Proofs.Ytjnohedknlibmaa
open Go.Proofs.Ytjnohedknlibmaa.Am
namespace En
abbrev int (a : Int) : AV := .sc (.int .i64 a)
abbrev bool (b : Bool) : AV := .sc (.bool b)
abbrev str (s : ByteArray) : AV := .sc (.string s)
/-- An entry. -/
structure E where
  id : Int
  school : Int
  student : Int
  kind : Int
  day : Int
  on_ : Int
  course : ByteArray
  credits : Int
  grade : Int
  ref : Int
  frm : Int
  programme : Int
  version : Int
  key : Int
  mark : ByteArray
abbrev en (e : E) : AV := .agg [int e.id, int e.school, int e.student, int e.kind, int e.day, int e.on_, str e.course, int e.credits, int e.grade, int e.ref, int e.frm, int e.programme, int e.version, int e.key, str e.mark]
def e0 : E := ⟨0, 0, 0, 0, 0, 0, ⟨#[]⟩, 0, 0, 0, 0, 0, 0, 0, ⟨#[]⟩⟩
theorem pure_en : ∀ l : List E, AV.namesL (fun _ => false) (l.map en) = true
  | [] => rfl
  | p :: l => by simp only [List.map_cons, AV.namesL, pure_en l]; rfl
theorem plain_en : ∀ l : List E, AV.plainL (l.map en) = true
  | [] => rfl
  | p :: l => by simp only [List.map_cons, AV.plainL, plain_en l]; rfl
theorem stor_en (l : List E) (i j : Nat) : storables (((l.map en).drop i).take j) = true := by
  refine List.all_eq_true.2 fun e he => ?_
  obtain ⟨p, _, rfl⟩ := List.mem_map.1 (List.mem_of_mem_drop (List.mem_of_mem_take he))
  rfl
/-! ### Conditions -/
theorem counts1_f (e : E) (asof on : Int) : AFun Try.prog 55 0 [en e, .rp (int asof) 0, .rp (int on) 0] [] (bool (decide (e.day ≤ asof ∧ e.on_ ≤ on))) [] := by
  refine AFun.of_W T_ok mixed Try.func55 rfl (Nat.le_of_ble_eq_true rfl) rfl ?_
  repeat' ((conv => whnf); (first | (refine LetN.pre ?_; first | ((conv => arg 1; whnf); refine LetN.mk ?_)) | (refine As.pre ?_; first | refine As.mk rfl ?_) | (refine LetV.pre ?_; first | refine LetV.mk (.sc (.int _ _)) rfl ?_) | (refine LetB.pre ?_; first | (refine LetB.dec (fun _ => ?_) (fun _ => ?_))) | (refine Gd.pre ?_; first | refine Gd.run rfl ?_ | refine Gd.pass rfl ?_) | (refine Ck.pre ?_; first | refine Ck.mk rfl ?_)))
  all_goals (refine ⟨by first | exact .inl rfl | exact .inr rfl, ⟨_, rfl, congrArg (fun b => Go.Proofs.Ytjnohedknlibmaa.Am.AV.sc (Go.Value.bool b)) (by first | exact (decide_eq_true (by omega)).symm | exact (decide_eq_false (by omega)).symm | exact Bool.eq_iff_iff.2 (by simp only [decide_eq_true_eq, decide_eq_false_iff_not]; omega) | rfl)⟩, trivial⟩)
theorem of1_f (e : E) (k : Int) : AFun Try.prog 56 0 [en e, .rp (int k) 0] [] (bool (decide (e.kind = k))) [] := by
  refine AFun.of_W T_ok mixed Try.func56 rfl (Nat.le_of_ble_eq_true rfl) rfl ?_
  repeat' ((conv => whnf); (first | (refine LetN.pre ?_; first | ((conv => arg 1; whnf); refine LetN.mk ?_)) | (refine As.pre ?_; first | refine As.mk rfl ?_) | (refine LetV.pre ?_; first | refine LetV.mk (.sc (.int _ _)) rfl ?_) | (refine LetB.pre ?_; first | (refine LetB.dec (fun _ => ?_) (fun _ => ?_))) | (refine Ck.pre ?_; first | refine Ck.mk rfl ?_)))
  all_goals (refine ⟨by first | exact .inl rfl | exact .inr rfl, ⟨_, rfl, congrArg (fun b => Go.Proofs.Ytjnohedknlibmaa.Am.AV.sc (Go.Value.bool b)) (by first | exact (decide_eq_true (by omega)).symm | exact (decide_eq_false (by omega)).symm | exact Bool.eq_iff_iff.2 (by simp only [decide_eq_true_eq, decide_eq_false_iff_not]; omega) | rfl)⟩, trivial⟩)
theorem to1_f (e : E) (k : Int) : AFun Try.prog 57 0 [en e, .rp (int k) 0] [] (bool (decide (e.ref = k))) [] := by
  refine AFun.of_W T_ok mixed Try.func57 rfl (Nat.le_of_ble_eq_true rfl) rfl ?_
  repeat' ((conv => whnf); (first | (refine LetN.pre ?_; first | ((conv => arg 1; whnf); refine LetN.mk ?_)) | (refine As.pre ?_; first | refine As.mk rfl ?_) | (refine LetV.pre ?_; first | refine LetV.mk (.sc (.int _ _)) rfl ?_) | (refine LetB.pre ?_; first | (refine LetB.dec (fun _ => ?_) (fun _ => ?_))) | (refine Ck.pre ?_; first | refine Ck.mk rfl ?_)))
  all_goals (refine ⟨by first | exact .inl rfl | exact .inr rfl, ⟨_, rfl, congrArg (fun b => Go.Proofs.Ytjnohedknlibmaa.Am.AV.sc (Go.Value.bool b)) (by first | exact (decide_eq_true (by omega)).symm | exact (decide_eq_false (by omega)).symm | exact Bool.eq_iff_iff.2 (by simp only [decide_eq_true_eq, decide_eq_false_iff_not]; omega) | rfl)⟩, trivial⟩)
/-- A condition on entries: a closure, and what it says. -/
structure Cd where
  f : Nat
  caps : List AV
  p : E → Bool
abbrev Cd.av (c : Cd) : AV := .clo c.f c.caps
structure Cd.Ok (c : Cd) : Prop where
  run : ∀ e, AFun Try.prog c.f 0 (en e :: c.caps) [] (bool (c.p e)) []
  call : callable Try.prog c.f = true
  pure : AV.namesL (fun _ => false) c.caps = true
theorem Cd.Ok.names {c : Cd} (h : c.Ok) (e : E) : AV.namesL (fun _ => false) (en e :: c.caps) = true := by
  simp only [AV.namesL, h.pure]; rfl
theorem Cd.Ok.names1 {c : Cd} (h : c.Ok) (e : E) : AV.namesL (fun _ => false) [c.av, .rp (en e) 0] = true := by
  simp only [AV.namesL, AV.names, h.pure]; rfl
abbrev cCounts (asof on : Int) : Cd := ⟨55, [.rp (int asof) 0, .rp (int on) 0], fun e => decide (e.day ≤ asof ∧ e.on_ ≤ on)⟩
abbrev cOf (k : Int) : Cd := ⟨56, [.rp (int k) 0], fun e => decide (e.kind = k)⟩
abbrev cTo (k : Int) : Cd := ⟨57, [.rp (int k) 0], fun e => decide (e.ref = k)⟩
theorem cCounts_ok (asof on : Int) : (cCounts asof on).Ok := ⟨fun e => counts1_f e asof on, by kernel_rfl, rfl⟩
theorem cOf_ok (k : Int) : (cOf k).Ok := ⟨fun e => of1_f e k, by kernel_rfl, rfl⟩
theorem cTo_ok (k : Int) : (cTo k).Ok := ⟨fun e => to1_f e k, by kernel_rfl, rfl⟩
theorem counts_f (asof on : Int) : AFun Try.prog 31 0 [int asof, int on] [] (cCounts asof on).av [] := by
  have h : AFun Try.prog 31 0 [int asof, int on] [] (.clo 55 [.ptr 0 1 0 0, .ptr 1 1 0 0]) [(0, .row 1 3 [int asof]), (1, .row 1 3 [int on])] := by
    refine AFun.of_W T_ok mixed Try.func31 rfl (Nat.le_of_ble_eq_true rfl) rfl ?_
    ((repeat ((conv => whnf); (first | (refine LetN.pre ?_; first | ((conv => arg 1; whnf); refine LetN.mk ?_)) | (refine As.pre ?_; first | refine As.mk rfl ?_) | (refine Ck.pre ?_; first | refine Ck.mk rfl ?_)))); (try (conv => whnf)))
    exact ⟨.inl rfl, ⟨_, rfl, rfl⟩, rfl, rfl, trivial⟩
  exact AFun.frz [0, 1] h rfl rfl rfl
theorem of_f (k : Int) : AFun Try.prog 32 0 [int k] [] (cOf k).av [] := by
  have h : AFun Try.prog 32 0 [int k] [] (.clo 56 [.ptr 0 1 0 0]) [(0, .row 1 3 [int k])] := by
    refine AFun.of_W T_ok mixed Try.func32 rfl (Nat.le_of_ble_eq_true rfl) rfl ?_
    ((repeat ((conv => whnf); (first | (refine LetN.pre ?_; first | ((conv => arg 1; whnf); refine LetN.mk ?_)) | (refine As.pre ?_; first | refine As.mk rfl ?_) | (refine Ck.pre ?_; first | refine Ck.mk rfl ?_)))); (try (conv => whnf)))
    exact ⟨.inl rfl, ⟨_, rfl, rfl⟩, rfl, trivial⟩
  exact AFun.frz [0] h rfl rfl rfl
theorem to_f (k : Int) : AFun Try.prog 33 0 [int k] [] (cTo k).av [] := by
  have h : AFun Try.prog 33 0 [int k] [] (.clo 57 [.ptr 0 1 0 0]) [(0, .row 1 3 [int k])] := by
    refine AFun.of_W T_ok mixed Try.func33 rfl (Nat.le_of_ble_eq_true rfl) rfl ?_
    ((repeat ((conv => whnf); (first | (refine LetN.pre ?_; first | ((conv => arg 1; whnf); refine LetN.mk ?_)) | (refine As.pre ?_; first | refine As.mk rfl ?_) | (refine Ck.pre ?_; first | refine Ck.mk rfl ?_)))); (try (conv => whnf)))
    exact ⟨.inl rfl, ⟨_, rfl, rfl⟩, rfl, trivial⟩
  exact AFun.frz [0] h rfl rfl rfl
/-! ### The entries for which all conditions hold -/
theorem chosen1_f {c : Cd} (hc : c.Ok) (e : E) : AFun Try.prog 54 0 [c.av, .rp (en e) 0] [] (bool (!c.p e)) [] := by
  refine AFun.of_W T_ok mixed Try.func54 rfl (Nat.le_of_ble_eq_true rfl) rfl ?_
  ((repeat ((conv => whnf); (first | (refine As.pre ?_; first | refine As.mk rfl ?_) | (refine LetV.pre ?_; first | refine LetV.mk (.agg _) rfl ?_) | (refine Ck.pre ?_; first | refine Ck.mk rfl ?_ | refine Ck.mk hc.call ?_) | (refine CallN.pre ?_; first | refine CallN.pure (hc.run e) (hc.names e) rfl ?_) | refine forceAs.pass ?_))); (try (conv => whnf)))


  exact ⟨.inl rfl, ⟨_, rfl, rfl⟩, trivial⟩
/-- The first index at which p holds, from k on; -1: none. -/
def fidx {α : Type} (p : α → Bool) : List α → Nat → Int
  | [], _ => -1
  | a :: l, k => if p a then (k : Int) else fidx p l (k + 1)
theorem fidx_drop {α : Type} {p : α → Bool} {l : List α} {k : Nat} (h : k < l.length) (d : α) : fidx p (l.drop k) k = if p (l.getD k d) then (k : Int) else fidx p (l.drop (k + 1)) (k + 1) := by
  rw [List.drop_eq_getElem_cons h, List.getD_eq_getElem?_getD, List.getElem?_eq_getElem h]; rfl
theorem fidx_end {α : Type} {p : α → Bool} {l : List α} {k : Nat} (h : ¬ k < l.length) : fidx p (l.drop k) k = -1 := by
  rw [List.drop_eq_nil_of_le (by omega)]; rfl
theorem fidx_nonneg {α : Type} {p : α → Bool} : ∀ (l : List α) (k : Nat), (0 ≤ fidx p l k) ↔ l.any p = true
  | [], k => by simp [fidx]
  | a :: l, k => by
    unfold fidx
    cases hp : p a with
    | true => simp [hp]
    | false => simp [hp, fidx_nonneg l (k + 1)]
abbrev cd0 : Cd := cOf 0
abbrev clos (cs : List Cd) : List AV := cs.map Cd.av
theorem IndexC_f (cs : List Cd) (hc : ∀ c ∈ cs, c.Ok) (e : E) (fl : Fl) (hl : cs.length ≤ 1000) : AFun Try.prog 69 0 [.ro fl 1 (clos cs), .clo 54 [.rp (en e) 0]] [] (int (fidx (fun c => !c.p e) cs 0)) [] := by
  refine AFun.of_W T_ok mixed Try.func69 rfl (Nat.le_of_ble_eq_true rfl) rfl ?_
  ((repeat ((conv => whnf); (first | (refine As.pre ?_; first | refine As.mk rfl ?_) | (refine LetI.pre ?_; first | refine LetI.mk _ rfl ?_) | (refine Ck.pre ?_; first | refine Ck.mk rfl ?_)))); (try (conv => whnf)))
  have hn : AV.namesL (fun _ => false) (clos cs) = true := by
    rw [namesL_all, List.all_map]
    exact List.all_eq_true.2 fun c h => (hc c h).pure
  have hm : (clos cs).length = cs.length := List.length_map _
  refine LoopN.weak (s1 := ⟨[(0, .ro fl 1 (clos cs)), (1, .clo 54 [.rp (en e) 0]), (6, .ro fl 1 (clos cs)), (7, int cs.length), (8, int (0 : Nat))], [], 0⟩) (SW.fr0 (Nat.le_refl _) rfl ⟨.refl _, .refl _, .refl _, VLe2.int (by rw [hm]), .refl _, trivial⟩) ?_
  refine LoopN.ind T_ok mixed (S := fun k : Nat => ⟨[(0, .ro fl 1 (clos cs)), (1, .clo 54 [.rp (en e) 0]), (6, .ro fl 1 (clos cs)), (7, int cs.length), (8, int k)], [], 0⟩) (fun k => cs.length - k) (fun k => k ≤ cs.length ∧ fidx (fun c => !c.p e) cs 0 = fidx (fun c => !c.p e) (cs.drop k) k) (fun _ => rfl) (fun k hk ih => ?_) 0 ⟨Nat.zero_le _, rfl⟩
  obtain ⟨h1, h2⟩ := hk
  by_cases hlt : k < cs.length
  case neg =>
    rw [fidx_end hlt] at h2
    rw [h2]
    clear ih
    ((repeat ((conv => whnf); (first | (refine As.pre ?_; first | refine As.mk rfl ?_) | (refine LetB.pre ?_; first | refine LetB.decf (by omega) ?_) | (refine Br.pre ?_; first | refine Br.ff rfl ?_) | (refine Ck.pre ?_; first | refine Ck.mk rfl ?_)))); (try (conv => whnf)))
    exact ⟨.inl rfl, ⟨_, rfl, rfl⟩, trivial⟩
  case pos =>
    rw [fidx_drop hlt cd0] at h2
    have hld : (cs.getD k cd0).av = (clos cs).getD k (.sc undef) := mapD cd0 hlt
    have hin : cs.getD k cd0 ∈ cs := by
      rw [List.getD_eq_getElem?_getD, List.getElem?_eq_getElem hlt]
      exact List.getElem_mem _
    have hok := hc _ hin
    generalize cs.getD k cd0 = c at hld h2 hok
    have hck := chosen1_f hok e
    cases hp : c.p e with
    | true =>
      rw [hp] at hck h2
      simp only [Bool.not_true, Bool.false_eq_true, if_false] at h2 hck
      ((repeat ((conv => whnf); (first | (refine As.pre ?_; first | refine As.mk rfl ?_ | (refine As.mk ?_ ?_; · ((repeat' (refine andT ?_ ?_)) <;> (first | rfl | assumption | exact decide_eq_true (by omega) | exact decide_eq_true (by dsimp only; omega) | exact decide_eq_true (by simp; omega) | (simp; done))))) | (refine LetV.pre ?_; first | refine LetV.mk (t := 90) _ hld ?_ | refine LetV.mk (.clo _ _ _) rfl ?_) | (refine LetI.pre ?_; first | refine LetI.wrap (by omega) (by omega) ?_) | (refine LetB.pre ?_; first | refine LetB.dect (by omega) ?_) | (refine Br.pre ?_; first | refine Br.tt rfl ?_ | refine Br.ff rfl ?_) | (refine Ck.pre ?_; first | refine Ck.mk rfl ?_) | (refine CallN.pre ?_; first | refine CallN.pure hck (hok.names1 e) rfl ?_) | refine forceAs.pass ?_))); (try (conv => whnf)))


      refine LoopN.weak ?_ (ih (k + 1) ⟨by omega, h2⟩ (by omega))
      exact SW.fr0 (Nat.le_refl _) rfl ⟨.refl _, .refl _, .refl _, .refl _, VLe2.int (by omega), trivial⟩
    | false =>
      rw [hp] at hck h2
      simp only [Bool.not_false, if_true] at h2 hck
      rw [h2]
      clear ih
      ((repeat ((conv => whnf); (first | (refine As.pre ?_; first | refine As.mk rfl ?_ | (refine As.mk ?_ ?_; · ((repeat' (refine andT ?_ ?_)) <;> (first | rfl | assumption | exact decide_eq_true (by omega) | exact decide_eq_true (by dsimp only; omega) | exact decide_eq_true (by simp; omega) | (simp; done))))) | (refine LetV.pre ?_; first | refine LetV.mk (t := 90) _ hld ?_ | refine LetV.mk (.clo _ _ _) rfl ?_) | (refine LetB.pre ?_; first | refine LetB.dect (by omega) ?_) | (refine Br.pre ?_; first | refine Br.tt rfl ?_) | (refine Ck.pre ?_; first | refine Ck.mk rfl ?_) | (refine CallN.pre ?_; first | refine CallN.pure hck (hok.names1 e) rfl ?_) | refine forceAs.pass ?_))); (try (conv => whnf)))


      exact ⟨.inl rfl, ⟨_, rfl, rfl⟩, trivial⟩
end En
end Go.Proofs.Ytjnohedknlibmaa
namespace Go.Proofs.Ytjnohedknlibmaa
open Go.Proofs.Ytjnohedknlibmaa.Am
namespace En
theorem ContainsC_f (cs : List Cd) (hc : ∀ c ∈ cs, c.Ok) (e : E) (fl : Fl) (hl : cs.length ≤ 1000) : AFun Try.prog 53 0 [.ro fl 1 (clos cs), .clo 54 [.rp (en e) 0]] [] (bool (cs.any (fun c => !c.p e))) [] := by
  refine AFun.of_W T_ok mixed Try.func53 rfl (Nat.le_of_ble_eq_true rfl) rfl ?_
  have hi := IndexC_f cs hc e fl hl
  have hk := fidx_nonneg (p := fun c : Cd => !c.p e) cs 0
  generalize fidx (fun c : Cd => !c.p e) cs 0 = r at hi hk
  have hb : decide (r ≥ 0) = cs.any (fun c => !c.p e) := Bool.eq_iff_iff.2 (by simp only [decide_eq_true_eq]; exact hk)
  ((repeat ((conv => whnf); (first | (refine As.pre ?_; first | refine As.mk rfl ?_) | (refine LetB.pre ?_; first | refine LetB.mk _ hb.symm ?_) | (refine Ck.pre ?_; first | refine Ck.mk rfl ?_) | (refine CallN.pre ?_; first | refine CallN.pure hi rfl rfl ?_)))); (try (conv => whnf)))


  exact ⟨.inl rfl, ⟨_, rfl, rfl⟩, trivial⟩
/-- The entries for which all conditions hold. -/
abbrev chos (l : List E) (cs : List Cd) : List E := l.filter fun e => cs.all (·.p e)
theorem any_all (cs : List Cd) (e : E) : (!(cs.any fun c => !c.p e)) = cs.all (·.p e) := by
  rw [Bool.eq_iff_iff]; simp
theorem stor1 (e : E) : storables [en e] = true := rfl
theorem take_en (l : List E) (n : Nat) (h : n = l.length) : (l.map en).take n = l.map en := List.take_of_length_le (by simp [h])
theorem app_en (l : List E) (e : E) (n : Nat) (h : n = l.length) : (l ++ [e]).map en = (l.map en).take n ++ [en e] := by rw [take_en l n h, List.map_append]; rfl
theorem room_en {n : Nat} (h : n ≤ 1000000) : room n 136 = true := by
  simp only [room, Bool.and_eq_true, decide_eq_true_eq]
  exact ⟨by omega, rfl⟩
theorem filt_succ {α : Type} {q : α → Bool} {l : List α} {k : Nat} (h : k < l.length) (d : α) : (l.take (k + 1)).filter q = (l.take k).filter q ++ if q (l.getD k d) then [l.getD k d] else [] := by
  rw [List.take_succ_eq_append_getElem h, List.filter_append, List.getD_eq_getElem?_getD, List.getElem?_eq_getElem h]
  congr 1
  simp [List.filter_cons]
theorem en_app_names (l : List E) (ok : Nat → Bool) : AV.namesL ok (l.map en) = true := namesL_none (pure_en l)
abbrev chosS (l : List E) (cs : List Cd) (fl fl' : Fl) : Nat × List E → AS
  | (k, out) => ⟨[(0, .ro fl 15 (l.map en)), (1, .ro fl' 1 (clos cs)), (4, .slm {} 0 15 0 out.length), (7, .ro fl 15 (l.map en)), (8, int l.length), (9, int k)], [(0, .row 15 33 (out.map en))], 1⟩
theorem chosen_s (l : List E) (cs : List Cd) (hc : ∀ c ∈ cs, c.Ok) (fl fl' : Fl) (hl : l.length ≤ 100000) (hl2 : cs.length ≤ 1000) : AFun Try.prog 30 0 [.ro fl 15 (l.map en), .ro fl' 1 (clos cs)] [] (.slm {} 0 15 0 (chos l cs).length) [(0, .row 15 33 ((chos l cs).map en))] := by
  refine AFun.of_S T_ok mixed Try.func30 rfl (Nat.le_of_ble_eq_true rfl) rfl ?_
  ((repeat ((conv => whnf); (first | (refine As.pre ?_; first | refine As.mk rfl ?_) | (refine LetI.pre ?_; first | refine LetI.mk _ rfl ?_) | (refine Ck.pre ?_; first | refine Ck.mk rfl ?_)))); (try (conv => whnf)))
  refine LoopN.weak (s1 := chosS l cs fl fl' (0, [])) ?sw1 ?_
  case sw1 => exact SW.mk id rfl rfl rfl ⟨.refl _, .refl _, VLe2.nilslm, .refl _, VLe2.int (by rw [List.length_map]), .refl _, trivial⟩ (haveV.nil (Nat.le_refl _) trivial)
  refine LoopN.ind T_ok mixed (S := chosS l cs fl fl') (fun i => l.length - i.1) (fun i => i.1 ≤ l.length ∧ i.2 = (l.take i.1).filter fun e => cs.all (·.p e)) (fun _ => rfl) (fun i hi ih => ?_) (0, []) ⟨Nat.zero_le _, rfl⟩
  obtain ⟨k, out⟩ := i
  obtain ⟨h1, h2⟩ := hi
  simp only at h1 h2 ih
  by_cases hlt : k < l.length
  case neg =>
    have hk : k = l.length := by omega
    subst hk
    rw [List.take_length] at h2
    subst h2
    clear ih
    ((repeat ((conv => whnf); (first | (refine As.pre ?_; first | refine As.mk rfl ?_) | (refine LetB.pre ?_; first | refine LetB.decf (by omega) ?_) | (refine Br.pre ?_; first | refine Br.ff rfl ?_) | (refine Ck.pre ?_; first | refine Ck.mk rfl ?_)))); (try (conv => whnf)))
    exact ⟨⟨[(4, .slm {} 0 15 0 (chos l cs).length)], [(0, .row 15 33 ((chos l cs).map en))], 1⟩, SW.mk id rfl rfl (namesAll.row (pure_en _) rfl) ⟨.refl _, trivial⟩ (haveV.row (pure_en _) rfl trivial), .inl rfl, ⟨_, rfl, rfl⟩, rfl, trivial⟩
  case pos =>
    have hld : en (l.getD k e0) = (l.map en).getD k (.sc undef) := mapD e0 hlt
    have hq := filt_succ (q := fun e => cs.all (·.p e)) hlt e0
    rw [← h2] at hq
    have hol : out.length ≤ 100000 := by
      rw [h2]
      have := List.length_filter_le (fun e => cs.all (·.p e)) (l.take k)
      simp only [List.length_take] at this
      omega
    clear h2
    generalize l.getD k e0 = e at hld hq
    have hcon := ContainsC_f cs hc e fl' hl2
    have haa := any_all cs e
    have hr := room_en (n := out.length + 1) (by omega)
    have hcl : (l.map en).length = l.length := List.length_map _
    have hol2 : (out.map en).length = out.length := List.length_map _
    cases hp : cs.all (·.p e) with
    | true =>
      simp only [hp, if_true] at hq
      rw [hp] at haa
      have hcf : (cs.any fun c => !c.p e) = false := by simpa using haa
      rw [hcf] at hcon
      ((repeat ((conv => whnf); (first | (refine LetN.pre ?_; first | ((conv => arg 1; whnf); refine LetN.mk ?_)) | (refine As.pre ?_; first | refine As.mk rfl ?_ | (refine As.mk ?_ ?_; · ((repeat' (refine andT ?_ ?_)) <;> (first | rfl | assumption | exact decide_eq_true (by omega) | exact decide_eq_true (by dsimp only; omega) | exact decide_eq_true (by simp; omega) | (simp; done))))) | (refine LetV.pre ?_; first | refine LetV.mk (t := 29) _ hld ?_ | refine LetV.mk (.agg _) rfl ?_) | (refine LetI.pre ?_; first | refine LetI.wrap (by omega) (by omega) ?_) | (refine LetB.pre ?_; first | refine LetB.dect (by omega) ?_) | (refine Br.pre ?_; first | refine Br.tt rfl ?_) | (refine Ck.pre ?_; first | refine Ck.mk rfl ?_) | (refine LetL.pre ?_; first | refine LetL.mk (ty := 33) _ (app_en out e _ (by omega)) ?_ | refine LetL.mk [_] rfl ?_) | (refine CallN.pre ?_; first | refine CallN.lend hcon rfl (.same rfl (.clo (.ptr rfl rfl rfl .nil) .nil)) ?_)))); (try (conv => whnf)))



      refine LoopN.weak ?sw2 (ih (k + 1, out ++ [e]) ⟨by omega, hq.symm⟩ (by omega))
      case sw2 => exact SW.mk (fun _ => 2) rfl rfl (namesAll.row (pure_en _) rfl) ⟨.refl _, .refl _, VLe2.slm_of (by simp), .refl _, .refl _, VLe2.int (by omega), trivial⟩ (haveV.row (pure_en _) rfl trivial)
    | false =>
      simp only [hp, Bool.false_eq_true, if_false, List.append_nil] at hq
      rw [hp] at haa
      have hcf : (cs.any fun c => !c.p e) = true := by simpa using haa
      rw [hcf] at hcon
      ((repeat ((conv => whnf); (first | (refine LetN.pre ?_; first | ((conv => arg 1; whnf); refine LetN.mk ?_)) | (refine As.pre ?_; first | refine As.mk rfl ?_ | (refine As.mk ?_ ?_; · ((repeat' (refine andT ?_ ?_)) <;> (first | rfl | assumption | exact decide_eq_true (by omega) | exact decide_eq_true (by dsimp only; omega) | exact decide_eq_true (by simp; omega) | (simp; done))))) | (refine LetV.pre ?_; first | refine LetV.mk (t := 29) _ hld ?_ | refine LetV.mk (.agg _) rfl ?_) | (refine LetI.pre ?_; first | refine LetI.wrap (by omega) (by omega) ?_) | (refine LetB.pre ?_; first | refine LetB.dect (by omega) ?_) | (refine Br.pre ?_; first | refine Br.tt rfl ?_ | refine Br.ff rfl ?_) | (refine Ck.pre ?_; first | refine Ck.mk rfl ?_) | (refine LetL.pre ?_; first | refine LetL.mk [_] rfl ?_) | (refine CallN.pre ?_; first | refine CallN.lend hcon rfl (.same rfl (.clo (.ptr rfl rfl rfl .nil) .nil)) ?_)))); (try (conv => whnf)))


      refine LoopN.weak ?sw3 (ih (k + 1, out) ⟨by omega, hq.symm⟩ (by omega))
      case sw3 => exact SW.mk id rfl rfl (namesAll.row (pure_en _) rfl) ⟨.refl _, .refl _, .refl _, .refl _, .refl _, VLe2.int (by omega), trivial⟩ (haveV.row (pure_en _) rfl trivial)
theorem chosen_f (l : List E) (cs : List Cd) (hc : ∀ c ∈ cs, c.Ok) (fl fl' : Fl) (hl : l.length ≤ 100000) (hl2 : cs.length ≤ 1000) : AFun Try.prog 30 0 [.ro fl 15 (l.map en), .ro fl' 1 (clos cs)] [] (.ro {} 15 ((chos l cs).map en)) [] :=
  AFun.frz1 (H := []) (chosen_s l cs hc fl fl' hl hl2) rfl (pure_en _) (by simp)
end En
end Go.Proofs.Ytjnohedknlibmaa
namespace Go.Proofs.Ytjnohedknlibmaa
open Go.Proofs.Ytjnohedknlibmaa.Am
namespace En
/-- The order of two numbers. -/
def cmpI (a b : Int) : Int := if a < b then -1 else if b < a then 1 else 0
def firstNZ : List Int → Int
  | [] => 0
  | x :: l => if x = 0 then firstNZ l else x
theorem isNaN_f (a : Int) : AFun Try.prog 83 0 [int a] [] (bool false) [] := by
  refine AFun.of_W T_ok mixed Try.func83 rfl (Nat.le_of_ble_eq_true rfl) rfl ?_
  have h : (a != a) = false := by simp
  ((repeat ((conv => whnf); (first | (refine As.pre ?_; first | refine As.mk rfl ?_) | (refine LetB.pre ?_; first | refine LetB.ff (by assumption) ?_) | (refine Ck.pre ?_; first | refine Ck.mk rfl ?_)))); (try (conv => whnf)))
  exact ⟨.inl rfl, ⟨_, rfl, rfl⟩, trivial⟩
theorem Compare_f (a b : Int) : AFun Try.prog 68 0 [int a, int b] [] (int (cmpI a b)) [] := by
  refine AFun.of_W T_ok mixed Try.func68 rfl (Nat.le_of_ble_eq_true rfl) rfl ?_
  unfold cmpI
  repeat' ((conv => whnf); (first | (refine As.pre ?_; first | refine As.mk rfl ?_) | (refine LetB.pre ?_; first | (refine LetB.dec (fun _ => ?_) (fun _ => ?_))) | (refine Br.pre ?_; first | refine Br.tt rfl ?_ | refine Br.ff rfl ?_) | (refine Ck.pre ?_; first | refine Ck.mk rfl ?_) | (refine CallN.pre ?_; first | refine CallN.pure (isNaN_f _) rfl rfl ?_)))
  all_goals
    refine ⟨.inl rfl, ⟨_, rfl, congrArg int ?_⟩, trivial⟩
    first | (rw [if_pos (by omega)]; done) | (rw [if_neg (by omega), if_pos (by omega)]; done) | (rw [if_neg (by omega), if_neg (by omega)]; done)
theorem Or_f (xs : List Int) (fl : Fl) (hl : xs.length ≤ 1000) : AFun Try.prog 67 0 [.ro fl 1 (xs.map int)] [] (int (firstNZ xs)) [] := by
  refine AFun.of_W T_ok mixed Try.func67 rfl (Nat.le_of_ble_eq_true rfl) rfl ?_
  ((repeat ((conv => whnf); (first | (refine As.pre ?_; first | refine As.mk rfl ?_) | (refine LetI.pre ?_; first | refine LetI.mk _ rfl ?_) | (refine Ck.pre ?_; first | refine Ck.mk rfl ?_)))); (try (conv => whnf)))
  refine LoopN.weak (s1 := ⟨[(3, int 0), (6, .ro fl 1 (xs.map int)), (7, int xs.length), (8, int (0 : Nat))], [], 0⟩) (SW.fr0 (Nat.le_refl _) rfl ⟨.refl _, .refl _, VLe2.int (by rw [List.length_map]), .refl _, trivial⟩) ?_
  refine LoopN.ind T_ok mixed (S := fun k : Nat => ⟨[(3, int 0), (6, .ro fl 1 (xs.map int)), (7, int xs.length), (8, int k)], [], 0⟩) (fun k => xs.length - k) (fun k => k ≤ xs.length ∧ firstNZ xs = firstNZ (xs.drop k)) (fun _ => rfl) (fun k hk ih => ?_) 0 ⟨Nat.zero_le _, rfl⟩
  obtain ⟨h1, h2⟩ := hk
  have hm : (xs.map int).length = xs.length := List.length_map _
  by_cases hlt : k < xs.length
  case neg =>
    rw [List.drop_eq_nil_of_le (by omega)] at h2
    rw [h2]
    clear ih
    ((repeat ((conv => whnf); (first | (refine As.pre ?_; first | refine As.mk rfl ?_) | (refine LetB.pre ?_; first | refine LetB.decf (by omega) ?_) | (refine Br.pre ?_; first | refine Br.ff rfl ?_) | (refine Ck.pre ?_; first | refine Ck.mk rfl ?_)))); (try (conv => whnf)))
    exact ⟨.inl rfl, ⟨_, rfl, rfl⟩, trivial⟩
  case pos =>
    have hld : int (xs.getD k 0) = (xs.map int).getD k (.sc undef) := mapD 0 hlt
    rw [List.drop_eq_getElem_cons hlt, show xs[k] = xs.getD k 0 by rw [List.getD_eq_getElem?_getD, List.getElem?_eq_getElem hlt]; rfl] at h2
    generalize xs.getD k 0 = x at hld h2
    by_cases hx : x = 0
    · rw [firstNZ, if_pos hx] at h2
      ((repeat ((conv => whnf); (first | (refine As.pre ?_; first | refine As.mk rfl ?_ | (refine As.mk ?_ ?_; · ((repeat' (refine andT ?_ ?_)) <;> (first | rfl | assumption | exact decide_eq_true (by omega) | exact decide_eq_true (by dsimp only; omega) | exact decide_eq_true (by simp; omega) | (simp; done))))) | (refine LetV.pre ?_; first | refine LetV.mk (t := 79) _ hld ?_ | refine LetV.mk (.sc (.int _ _)) rfl ?_) | (refine LetI.pre ?_; first | refine LetI.wrap (by omega) (by omega) ?_) | (refine LetB.pre ?_; first | refine LetB.dect (by omega) ?_ | refine LetB.bnef (by omega) ?_) | (refine Br.pre ?_; first | refine Br.tt rfl ?_ | refine Br.ff rfl ?_) | (refine Ck.pre ?_; first | refine Ck.mk rfl ?_)))); (try (conv => whnf)))
      refine LoopN.weak ?_ (ih (k + 1) ⟨by omega, h2⟩ (by omega))
      exact SW.fr0 (Nat.le_refl _) rfl ⟨.refl _, .refl _, .refl _, VLe2.int (by omega), trivial⟩
    · rw [firstNZ, if_neg hx] at h2
      rw [h2]
      clear ih
      ((repeat ((conv => whnf); (first | (refine As.pre ?_; first | refine As.mk rfl ?_ | (refine As.mk ?_ ?_; · ((repeat' (refine andT ?_ ?_)) <;> (first | rfl | assumption | exact decide_eq_true (by omega) | exact decide_eq_true (by dsimp only; omega) | exact decide_eq_true (by simp; omega) | (simp; done))))) | (refine LetV.pre ?_; first | refine LetV.mk (t := 79) _ hld ?_ | refine LetV.mk (.sc (.int _ _)) rfl ?_) | (refine LetB.pre ?_; first | refine LetB.dect (by omega) ?_ | refine LetB.bnet (by omega) ?_) | (refine Br.pre ?_; first | refine Br.tt rfl ?_) | (refine Ck.pre ?_; first | refine Ck.mk rfl ?_)))); (try (conv => whnf)))
      exact ⟨.inl rfl, ⟨_, rfl, rfl⟩, trivial⟩
theorem Or2_f (x y : Int) (fl : Fl) : AFun Try.prog 67 0 [.ro fl 1 [int x, int y]] [] (int (firstNZ [x, y])) [] := Or_f [x, y] fl (by simp)
/-- The order of entries. -/
def cmpE (o : Bool) (a b : E) : Int := if o then firstNZ [cmpI a.on_ b.on_, cmpI a.id b.id] else cmpI a.id b.id
theorem compare_f (o : Bool) (a b : E) : AFun Try.prog 52 0 [.agg [bool o], en a, en b] [] (int (cmpE o a b)) [] := by
  refine AFun.of_W T_ok mixed Try.func52 rfl (Nat.le_of_ble_eq_true rfl) rfl ?_
  cases o <;>
  (((repeat ((conv => whnf); (first | (refine LetN.pre ?_; first | ((conv => arg 1; whnf); refine LetN.mk ?_)) | (refine As.pre ?_; first | refine As.mk rfl ?_) | (refine LetV.pre ?_; first | refine LetV.mk (.sc (.int _ _)) rfl ?_ | refine LetV.mk (.sc (.bool _)) rfl ?_) | (refine Br.pre ?_; first | refine Br.tt rfl ?_ | refine Br.ff rfl ?_) | (refine Ck.pre ?_; first | refine Ck.drawn (by kernel_rfl) ?_ | refine Ck.mk rfl ?_) | (refine CallN.pre ?_; first | refine CallN.pure (Compare_f _ _) rfl rfl ?_ | refine CallN.pure (Or2_f _ _ _) rfl rfl ?_)))); (try (conv => whnf)))
   exact ⟨.inl rfl, ⟨_, rfl, rfl⟩, trivial⟩)
end En
end Go.Proofs.Ytjnohedknlibmaa
namespace Go.Proofs.Ytjnohedknlibmaa
open Go.Proofs.Ytjnohedknlibmaa.Am
namespace En
/-- The entry at j sinks to its place. -/
def sink (o : Bool) : List E → Nat → List E
  | l, 0 => l
  | l, j + 1 => if cmpE o (l.getD (j + 1) e0) (l.getD j e0) < 0 then sink o ((l.set (j + 1) (l.getD j e0)).set j (l.getD (j + 1) e0)) j else l
theorem sink_length (o : Bool) : ∀ (j : Nat) (l : List E), (sink o l j).length = l.length
  | 0, l => rfl
  | j + 1, l => by
    unfold sink
    split
    · rw [sink_length o j]; simp
    · rfl
def isr (o : Bool) : Nat → Nat → List E → List E
  | 0, _, l => l
  | f + 1, i, l => isr o f (i + 1) (sink o l i)
theorem isr_length (o : Bool) : ∀ (f i : Nat) (l : List E), (isr o f i l).length = l.length
  | 0, i, l => rfl
  | f + 1, i, l => by rw [isr, isr_length o f, sink_length]
/-- What the library's sorting by insertion gives. -/
def srt (o : Bool) (l : List E) : List E := isr o (l.length - 1) 1 l
theorem srt_length (o : Bool) (l : List E) : (srt o l).length = l.length := isr_length ..
theorem getD_en {l : List E} {k : Nat} (h : k < l.length) : en (l.getD k e0) = Am.part true 15 0 15 ((l.map en).getD (0 + k) (.sc undef)) := by
  rw [Nat.zero_add, List.getD_eq_getElem?_getD, List.getD_eq_getElem?_getD, List.getElem?_map, List.getElem?_eq_getElem h]; rfl
abbrev insO (o : Bool) (n : Nat) (fl : Fl) : Nat × List E → AS
  | (i, l) => ⟨[(0, .slm fl 0 15 0 n), (1, int 0), (2, int n), (3, .clo 52 [.agg [bool o]] 1), (8, int i)], [(0, .row 15 33 (l.map en))], 1⟩
abbrev insI (o : Bool) (n : Nat) (fl : Fl) (i : Nat) : Nat × List E → AS
  | (j, l) => ⟨[(0, .slm fl 0 15 0 n), (1, int 0), (2, int n), (3, .clo 52 [.agg [bool o]] 1), (8, int i), (9, int j)], [(0, .row 15 33 (l.map en))], 1⟩
set_option maxRecDepth 100000 in
theorem insertion_f (o : Bool) (l : List E) (fl : Fl) (hl : l.length ≤ 1000) : AFun Try.prog 81 1 [.slm fl 0 15 0 l.length, int 0, int l.length, .clo 52 [.agg [bool o]] 1] [(0, .row 15 33 (l.map en))] (.tup []) [(0, .row 15 33 ((srt o l).map en))] := by
  obtain ⟨n, hn⟩ : ∃ n, n = l.length := ⟨_, rfl⟩
  have hs : srt o l = isr o (n - 1) 1 l := by rw [hn]; rfl
  generalize hR : srt o l = R at hs
  rw [← hn]
  refine AFun.of_S T_ok mixed Try.func81 rfl (Nat.le_of_ble_eq_true rfl) rfl ?_
  ((repeat ((conv => whnf); (first | (refine As.pre ?_; first | refine As.mk rfl ?_) | (refine LetI.pre ?_; first | refine LetI.wrap (by omega) (by omega) ?_) | (refine Ck.pre ?_; first | refine Ck.mk rfl ?_)))); (try (conv => whnf)))
  refine LoopN.weak (s1 := insO o n fl (1, l)) ?sw1 ?_
  case sw1 => exact SW.mk id rfl rfl (namesAll.row (pure_en _) rfl) ⟨.refl _, .refl _, .refl _, .refl _, VLe2.int rfl, trivial⟩ (haveV.row (pure_en _) rfl trivial)
  refine LoopN.ind T_ok mixed (S := insO o n fl) (fun i => n - i.1) (fun i => 1 ≤ i.1 ∧ i.2.length = n ∧ R = isr o (n - i.1) i.1 i.2) (fun _ => rfl) (fun i hi ih => ?_) (1, l) ⟨Nat.le_refl _, hn.symm, hs⟩
  obtain ⟨i, m⟩ := i
  obtain ⟨h0, h1, h2⟩ := hi
  simp only at h0 h1 h2 ih
  by_cases hlt : i < n
  case neg =>
    rw [show n - i = 0 by omega, isr] at h2
    subst h2
    clear ih
    ((repeat ((conv => whnf); (first | (refine As.pre ?_; first | refine As.mk rfl ?_) | (refine LetB.pre ?_; first | refine LetB.decf (by omega) ?_) | (refine Br.pre ?_; first | refine Br.ff rfl ?_) | (refine Ck.pre ?_; first | refine Ck.mk rfl ?_)))); (try (conv => whnf)))
    exact ⟨⟨[], [(0, .row 15 33 (R.map en))], 1⟩, SW.mk id rfl rfl (namesAll.row (pure_en _) rfl) trivial (haveV.row (pure_en _) rfl trivial), .inr rfl, ⟨_, rfl, rfl⟩, rfl, trivial⟩
  case pos =>
    rw [show n - i = (n - (i + 1)) + 1 by omega, isr] at h2
    have hsl := sink_length o i m
    generalize hQ : sink o m i = Q at h2 hsl
    ((repeat ((conv => whnf); (first | (refine As.pre ?_; first | refine As.mk rfl ?_) | (refine LetB.pre ?_; first | refine LetB.dect (by omega) ?_) | (refine Br.pre ?_; first | refine Br.tt rfl ?_) | (refine Ck.pre ?_; first | refine Ck.mk rfl ?_)))); (try (conv => whnf)))
    refine LoopN.weak (s1 := insI o n fl i (i, m)) ?sw2 ?_
    case sw2 => exact SW.mk id rfl rfl (namesAll.row (pure_en _) rfl) ⟨.refl _, .refl _, .refl _, .refl _, .refl _, .refl _, trivial⟩ (haveV.row (pure_en _) rfl trivial)
    refine LoopN.ind T_ok mixed (S := insI o n fl i) (fun j => j.1) (fun j => j.1 ≤ i ∧ j.2.length = n ∧ Q = sink o j.2 j.1) (fun _ => rfl) (fun j hj ih2 => ?_) (i, m) ⟨Nat.le_refl _, h1, hQ.symm⟩
    obtain ⟨j, m'⟩ := j
    obtain ⟨g0, g1, g2⟩ := hj
    simp only at g0 g1 g2 ih2
    cases j with
    | zero =>
      rw [sink] at g2
      subst g2
      clear ih2
      ((repeat ((conv => whnf); (first | (refine As.pre ?_; first | refine As.mk rfl ?_) | (refine LetI.pre ?_; first | refine LetI.wrap (by omega) (by omega) ?_) | (refine LetB.pre ?_; first | refine LetB.ff rfl ?_) | (refine Gd.pre ?_; first | refine Gd.pass rfl ?_) | (refine Br.pre ?_; first | refine Br.ff rfl ?_) | (refine Ck.pre ?_; first | refine Ck.drawn (by kernel_rfl) ?_ | refine Ck.mk rfl ?_)))); (try (conv => whnf)))
      refine LoopN.weak ?sw3 (ih (i + 1, Q) ⟨by omega, by omega, h2⟩ (by omega))
      case sw3 => exact SW.mk id rfl rfl (namesAll.row (pure_en _) rfl) ⟨.refl _, .refl _, .refl _, .refl _, VLe2.int (by omega), trivial⟩ (haveV.row (pure_en _) rfl trivial)
    | succ j =>
      rw [sink] at g2
      have hm : (m'.map en).length = n := by rw [List.length_map]; exact g1
      have hld1 : en (m'.getD (j + 1) e0) = Am.part true 15 0 15 ((m'.map en).getD (0 + (j + 1)) (.sc undef)) := getD_en (by omega)
      have hld2 : en (m'.getD j e0) = Am.part true 15 0 15 ((m'.map en).getD (0 + j) (.sc undef)) := getD_en (by omega)
      have hsub : (j : Int) = IntKind.i64.wrap (((j + 1 : Nat) : Int) - 1) := by
        rw [wrap_id (by omega) (by omega)]; omega
      have hset1 : (m'.set (j + 1) (m'.getD j e0)).map en = (m'.map en).set (0 + (j + 1)) (en (m'.getD j e0)) := by rw [Nat.zero_add]; exact List.map_set
      have hset : ((m'.set (j + 1) (m'.getD j e0)).set j (m'.getD (j + 1) e0)).map en = ((m'.set (j + 1) (m'.getD j e0)).map en).set (0 + j) (en (m'.getD (j + 1) e0)) := by rw [Nat.zero_add]; exact List.map_set
      have hcmp := compare_f o (m'.getD (j + 1) e0) (m'.getD j e0)
      generalize ha : m'.getD (j + 1) e0 = a at hld1 hset hset1 hcmp g2
      generalize hb : m'.getD j e0 = b at hld2 hset hset1 hcmp g2
      generalize cmpE o a b = r at hcmp g2
      by_cases hr : r < 0
      · rw [if_pos hr] at g2
        ((repeat ((conv => whnf); (first | (refine LetN.pre ?_; first | ((conv => arg 1; whnf); refine LetN.mk ?_)) | (refine As.pre ?_; first | refine As.mk rfl ?_ | (refine As.mk ?_ ?_; · ((repeat' (refine andT ?_ ?_)) <;> (first | rfl | assumption | exact decide_eq_true (by omega) | exact decide_eq_true (by dsimp only; omega) | exact decide_eq_true (by simp; omega) | (simp; done))))) | (refine LetV.pre ?_; first | refine LetV.mk (t := 33) _ hld1 ?_ | refine LetV.mk (t := 33) _ hld2 ?_) | (refine LetI.pre ?_; first | refine LetI.mk (o := some .sub) (j : Int) hsub ?_) | (refine LetB.pre ?_; first | refine LetB.dect (by omega) ?_) | (refine Gd.pre ?_; first | refine Gd.run rfl ?_) | (refine Br.pre ?_; first | refine Br.tt rfl ?_) | (refine Ck.pre ?_; first | refine Ck.drawn (by kernel_rfl) ?_ | refine Ck.mk rfl ?_) | (refine LetL.pre ?_; first | refine LetL.mk (ty := 33) _ hset1 ?_ | refine LetL.mk (ty := 33) _ hset ?_) | (refine CallN.pre ?_; first | refine CallN.pure hcmp rfl rfl ?_)))); (try (conv => whnf)))






        refine LoopN.weak ?sw4 (ih2 (j, (m'.set (j + 1) b).set j a) ⟨by omega, by simp [g1], g2⟩ (by omega))
        case sw4 => exact SW.mk id rfl rfl (namesAll.row (pure_en _) rfl) ⟨.refl _, .refl _, .refl _, .refl _, .refl _, .refl _, trivial⟩ (haveV.row (pure_en _) rfl trivial)
      · rw [if_neg hr] at g2
        subst g2
        clear ih2
        ((repeat ((conv => whnf); (first | (refine As.pre ?_; first | refine As.mk rfl ?_ | (refine As.mk ?_ ?_; · ((repeat' (refine andT ?_ ?_)) <;> (first | rfl | assumption | exact decide_eq_true (by omega) | exact decide_eq_true (by dsimp only; omega) | exact decide_eq_true (by simp; omega) | (simp; done))))) | (refine LetV.pre ?_; first | refine LetV.mk (t := 33) _ hld1 ?_ | refine LetV.mk (t := 33) _ hld2 ?_) | (refine LetI.pre ?_; first | refine LetI.mk (o := some .sub) (j : Int) hsub ?_ | refine LetI.wrap (by omega) (by omega) ?_) | (refine LetB.pre ?_; first | refine LetB.dect (by omega) ?_ | refine LetB.decf (by omega) ?_) | (refine Gd.pre ?_; first | refine Gd.run rfl ?_) | (refine Br.pre ?_; first | refine Br.ff rfl ?_) | (refine Ck.pre ?_; first | refine Ck.drawn (by kernel_rfl) ?_ | refine Ck.mk rfl ?_) | (refine CallN.pre ?_; first | refine CallN.pure hcmp rfl rfl ?_)))); (try (conv => whnf)))




        refine LoopN.weak ?sw3 (ih (i + 1, Q) ⟨by omega, by omega, h2⟩ (by omega))
        case sw3 => exact SW.mk id rfl rfl (namesAll.row (pure_en _) rfl) ⟨.refl _, .refl _, .refl _, .refl _, VLe2.int (by omega), trivial⟩ (haveV.row (pure_en _) rfl trivial)
end En
end Go.Proofs.Ytjnohedknlibmaa
namespace Go.Proofs.Ytjnohedknlibmaa
open Go.Proofs.Ytjnohedknlibmaa.Am
namespace En
abbrev ety : TypeId := 33
abbrev cmpV (o : Bool) : AV := .clo 52 [.agg [bool o]] 1
theorem rowOk1 (l l' : List E) (vs : List AV) (v : AV) (hv : AV.namesL (fun i => decide (i < 1)) vs = true) (hv2 : v.names (fun i => decide (i < 1) || [0].contains i) = true) (he : AV.renL id vs = vs) : CallOk 1 id vs [(0, .row 15 ety (l.map en))] v [(0, .row 15 ety (l'.map en))] [(0, .row 15 ety (l.map en))] vs :=
  CallOk.mk' rfl he.symm hv (namesAll.row (pure_en _) rfl) hv2 (namesAll.row (pure_en _) rfl) (haveAll.row (pure_en _) rfl trivial)
set_option maxRecDepth 100000 in
theorem stable_f (o : Bool) (l : List E) (fl : Fl) (hl : l.length < 20) : AFun Try.prog 66 1 [.slm fl 0 15 0 l.length, int l.length, cmpV o] [(0, .row 15 ety (l.map en))] (.tup []) [(0, .row 15 ety ((srt o l).map en))] := by
  refine AFun.of_S T_ok mixed Try.func66 rfl (Nat.le_of_ble_eq_true rfl) rfl ?_
  have hi := insertion_f o l fl (by omega)
  have ok := rowOk1 l (srt o l) [.slm fl 0 15 0 l.length, int 0, int l.length, cmpV o] (.tup []) rfl rfl rfl
  generalize srt o l = R at hi ok ⊢
  ((repeat ((conv => whnf); (first | (refine As.pre ?_; first | refine As.mk rfl ?_) | (refine Ck.pre ?_; first | refine Ck.mk rfl ?_)))); (try (conv => whnf)))
  refine LoopN.round T_ok mixed rfl ?_
  ((repeat ((conv => whnf); (first | (refine LetN.pre ?_; first | ((conv => arg 1; whnf); refine LetN.mk ?_)) | (refine As.pre ?_; first | refine As.mk rfl ?_) | (refine LetB.pre ?_; first | refine LetB.decf (by omega) ?_) | (refine Br.pre ?_; first | refine Br.ff rfl ?_) | (refine Ck.pre ?_; first | refine Ck.mk rfl ?_) | (refine LetL.pre ?_; first | refine LetL.mk (ty := ety) _ (renL_none (pure_en _)).symm ?_) | (refine CallN.pre ?_; first | refine CallN.own id hi ok ?_)))); (try (conv => whnf)))


  refine LoopN.round T_ok mixed rfl ?_
  ((repeat ((conv => whnf); (first | (refine As.pre ?_; first | refine As.mk rfl ?_) | (refine LetB.pre ?_; first | refine LetB.decf (by omega) ?_) | (refine Br.pre ?_; first | refine Br.ff rfl ?_) | (refine Ck.pre ?_; first | refine Ck.mk rfl ?_)))); (try (conv => whnf)))
  exact ⟨⟨[], [(0, .row 15 ety (R.map en))], 1⟩, SW.mk id rfl rfl (namesAll.row (pure_en _) rfl) trivial (haveV.row (pure_en _) (by rfl) trivial), .inr rfl, ⟨_, rfl, rfl⟩, rfl, trivial⟩
theorem sortStable_f (o : Bool) (l : List E) (fl : Fl) (hl : l.length < 20) : AFun Try.prog 51 1 [.slm fl 0 15 0 l.length, cmpV o] [(0, .row 15 ety (l.map en))] (.tup []) [(0, .row 15 ety ((srt o l).map en))] := by
  refine AFun.of_W T_ok mixed Try.func51 rfl (Nat.le_of_ble_eq_true rfl) rfl ?_
  have hi := stable_f o l fl hl
  have ok := rowOk1 l (srt o l) [.slm fl 0 15 0 l.length, int l.length, cmpV o] (.tup []) rfl rfl rfl
  generalize srt o l = R at hi ok ⊢
  ((repeat ((conv => whnf); (first | (refine LetN.pre ?_; first | ((conv => arg 1; whnf); refine LetN.mk ?_)) | (refine As.pre ?_; first | refine As.mk rfl ?_) | (refine LetI.pre ?_; first | refine LetI.mk _ rfl ?_) | (refine Ck.pre ?_; first | refine Ck.mk rfl ?_) | (refine LetL.pre ?_; first | refine LetL.mk (ty := ety) _ (renL_none (pure_en _)).symm ?_) | (refine CallN.pre ?_; first | refine CallN.own id hi ok ?_)))); (try (conv => whnf)))


  exact ⟨.inr rfl, ⟨_, rfl, rfl⟩, rfl, trivial⟩
theorem sorted_f (o : Bool) (l : List E) (fl : Fl) (hl : l.length < 20) : AFun Try.prog 29 1 [.slm fl 0 15 0 l.length, .agg [bool o]] [(0, .row 15 ety (l.map en))] (.slm fl 0 15 0 l.length) [(0, .row 15 ety ((srt o l).map en))] := by
  refine AFun.of_W T_ok mixed Try.func29 rfl (Nat.le_of_ble_eq_true rfl) rfl ?_
  have hi := sortStable_f o l fl hl
  have hnR : ∀ R : List E, CallOk 1 id [.slm fl 0 15 0 l.length, cmpV o] [(0, .row 15 ety (l.map en))] (.tup []) [(0, .row 15 ety (R.map en))] [(0, .row 15 ety (l.map en)), (1, .row 1 71 [.agg [bool o]])] [.slm fl 0 15 0 l.length, cmpV o] := fun R =>
    CallOk.mk' rfl rfl rfl (namesAll.row (pure_en _) rfl) rfl (namesAll.row (pure_en _) rfl) (haveAll.row (pure_en _) rfl trivial)
  generalize srt o l = R at hi ⊢
  have ok := hnR R
  ((repeat ((conv => whnf); (first | (refine LetN.pre ?_; first | ((conv => arg 1; whnf); refine LetN.mk ?_)) | (refine As.pre ?_; first | refine As.mk rfl ?_) | (refine LetV.pre ?_; first | refine LetV.mk (.agg _) rfl ?_) | (refine Ck.pre ?_; first | refine Ck.mk rfl ?_) | (refine LetL.pre ?_; first | refine LetL.mk (ty := ety) _ (renL_none (pure_en _)).symm ?_) | (refine CallN.pre ?_; first | refine CallN.own id hi ok ?_)))); (try (conv => whnf)))


  exact ⟨.inl rfl, ⟨_, rfl, rfl⟩, rfl, trivial⟩
end En
end Go.Proofs.Ytjnohedknlibmaa
namespace Go.Proofs.Ytjnohedknlibmaa
open Go.Proofs.Ytjnohedknlibmaa.Am
namespace En
theorem oks1 {a : Cd} (h : a.Ok) : ∀ c ∈ [a], c.Ok := by simpa using h
theorem oks2 {a b : Cd} (h : a.Ok) (k : b.Ok) : ∀ c ∈ [a, b], c.Ok := by
  intro c hc
  simp at hc
  rcases hc with rfl | rfl <;> assumption
theorem oks3 {a b d : Cd} (h : a.Ok) (k : b.Ok) (l : d.Ok) : ∀ c ∈ [a, b, d], c.Ok := by
  intro c hc
  simp at hc
  rcases hc with rfl | rfl | rfl <;> assumption
/-- A finding is lifted. -/
def liftedP (l : List E) (f a o : Int) : Bool := l.any fun e => decide (e.kind = 6) && decide (e.ref = f) && decide (e.day ≤ a ∧ e.on_ ≤ o)
theorem lifted_len (l : List E) (f a o : Int) : liftedP l f a o = decide (((((chos l [cOf 6, cTo f, cCounts a o]).map en).length : Int)) > 0) := by
  rw [Bool.eq_iff_iff, decide_eq_true_eq, List.length_map]
  have : ((chos l [cOf 6, cTo f, cCounts a o]).length : Int) > 0 ↔ 0 < (chos l [cOf 6, cTo f, cCounts a o]).length := by omega
  rw [this, List.length_pos_iff_exists_mem]
  simp [liftedP, chos, and_assoc]
theorem Lifted_f (l : List E) (f a o : Int) (fl : Fl) (hl : l.length ≤ 100000) : AFun Try.prog 14 0 [.ro fl 15 (l.map en), int f, int a, int o] [] (bool (liftedP l f a o)) [] := by
  refine AFun.of_W T_ok mixed Try.func14 rfl (Nat.le_of_ble_eq_true rfl) rfl ?_
  have hc := fun fl' => chosen_f l [cOf 6, cTo f, cCounts a o] (oks3 (cOf_ok 6) (cTo_ok f) (cCounts_ok a o)) fl fl' hl (by simp)
  have hb := lifted_len l f a o
  generalize liftedP l f a o = b at hb ⊢
  generalize chos l [cOf 6, cTo f, cCounts a o] = C at hc hb
  ((repeat ((conv => whnf); (first | (refine As.pre ?_; first | refine As.mk rfl ?_) | (refine LetI.pre ?_; first | refine LetI.mk _ rfl ?_) | (refine LetB.pre ?_; first | refine LetB.mk _ hb ?_) | (refine Ck.pre ?_; first | refine Ck.mk rfl ?_) | (refine CallN.pre ?_; first | refine CallN.pure (of_f _) rfl rfl ?_ | refine CallN.pure (to_f _) rfl rfl ?_ | refine CallN.pure (counts_f _ _) rfl rfl ?_ | refine CallN.pure (hc _) rfl rfl ?_)))); (try (conv => whnf)))





  exact ⟨.inl rfl, ⟨_, rfl, rfl⟩, trivial⟩
theorem known1_f (e : E) (a : Int) : AFun Try.prog 45 0 [en e, .rp (int a) 0] [] (bool (decide (e.day ≤ a))) [] := by
  refine AFun.of_W T_ok mixed Try.func45 rfl (Nat.le_of_ble_eq_true rfl) rfl ?_
  repeat' ((conv => whnf); (first | (refine LetN.pre ?_; first | ((conv => arg 1; whnf); refine LetN.mk ?_)) | (refine As.pre ?_; first | refine As.mk rfl ?_) | (refine LetV.pre ?_; first | refine LetV.mk (.sc (.int _ _)) rfl ?_) | (refine LetB.pre ?_; first | (refine LetB.dec (fun _ => ?_) (fun _ => ?_))) | (refine Ck.pre ?_; first | refine Ck.mk rfl ?_)))
  all_goals (refine ⟨by first | exact .inl rfl | exact .inr rfl, ⟨_, rfl, congrArg (fun b => Go.Proofs.Ytjnohedknlibmaa.Am.AV.sc (Go.Value.bool b)) (by first | exact (decide_eq_true (by omega)).symm | exact (decide_eq_false (by omega)).symm | exact Bool.eq_iff_iff.2 (by simp only [decide_eq_true_eq, decide_eq_false_iff_not]; omega) | rfl)⟩, trivial⟩)
abbrev cKnown (a : Int) : Cd := ⟨45, [.rp (int a) 0], fun e => decide (e.day ≤ a)⟩
theorem cKnown_ok (a : Int) : (cKnown a).Ok := ⟨fun e => known1_f e a, by kernel_rfl, rfl⟩
abbrev knownP (l : List E) (a : Int) : List E := l.filter fun e => decide (e.day ≤ a)
theorem Known_s (l : List E) (a : Int) (fl : Fl) (hl : l.length ≤ 100000) : AFun Try.prog 21 0 [.ro fl 15 (l.map en), int a] [] (.slm {} 0 15 0 (knownP l a).length) [(0, .row 15 ety ((knownP l a).map en))] := by
  refine AFun.of_S T_ok mixed Try.func21 rfl (Nat.le_of_ble_eq_true rfl) rfl ?_
  have hc := fun fl' => chosen_s l [cKnown a] (oks1 (cKnown_ok a)) fl fl' hl (by simp)
  have hb : chos l [cKnown a] = knownP l a := by simp [chos]
  rw [hb] at hc
  generalize knownP l a = C at hc ⊢
  ((repeat ((conv => whnf); (first | (refine LetN.pre ?_; first | ((conv => arg 1; whnf); refine LetN.mk ?_)) | (refine As.pre ?_; first | refine As.mk rfl ?_) | (refine Ck.pre ?_; first | refine Ck.mk rfl ?_) | (refine LetL.pre ?_; first | refine LetL.mk _ rfl ?_) | (refine CallN.pre ?_; first | refine CallN.lendOwn 7 (hc _) (.same rfl (.rows rfl (Nat.le_of_ble_eq_true rfl) rfl rfl (.clo (.ptr rfl rfl rfl .nil) .nil) .nil)) rfl rfl rfl (plain_en _) ?_)))); (try (conv => whnf)))


  exact ⟨⟨[(4, .slm {} 0 15 0 C.length)], [(0, .row 15 ety (C.map en))], 1⟩, SW.mk (fun _ => 7) rfl rfl (namesAll.row (pure_en _) rfl) ⟨.refl _, trivial⟩ (haveV.row (pure_en _) rfl trivial), .inl rfl, ⟨_, rfl, rfl⟩, rfl, trivial⟩
theorem Known_f (l : List E) (a : Int) (fl : Fl) (hl : l.length ≤ 100000) : AFun Try.prog 21 0 [.ro fl 15 (l.map en), int a] [] (.ro {} 15 ((knownP l a).map en)) [] :=
  AFun.frz1 (H := []) (Known_s l a fl hl) rfl (pure_en _) (by simp)
/-- An award is not ended. -/
def endedP (l : List E) (e : E) : Bool := !(l.any fun x => decide (x.kind = 9) && decide (x.ref = e.id))
theorem ended_len (l : List E) (e : E) : endedP l e = ((((chos l [cOf 9, cTo e.id]).map en).length : Int) == 0) := by
  rw [Bool.eq_iff_iff, beq_iff_eq, List.length_map]
  have : ((chos l [cOf 9, cTo e.id]).length : Int) = 0 ↔ (chos l [cOf 9, cTo e.id]).length = 0 := by omega
  rw [this, List.length_eq_zero_iff]
  simp [endedP, chos, List.filter_eq_nil_iff]
theorem awards1_f (l : List E) (e : E) (fl : Fl) (hl : l.length ≤ 100000) : AFun Try.prog 38 0 [en e, .rp (.ro fl 15 (l.map en)) 0] [] (bool (endedP l e)) [] := by
  refine AFun.of_W T_ok mixed Try.func38 rfl (Nat.le_of_ble_eq_true rfl) rfl ?_
  have hc := fun fl' => chosen_f l [cOf 9, cTo e.id] (oks2 (cOf_ok 9) (cTo_ok e.id)) fl fl' hl (by simp)
  have hb := ended_len l e
  generalize endedP l e = b at hb ⊢
  generalize chos l [cOf 9, cTo e.id] = C at hc hb
  ((repeat ((conv => whnf); (first | (refine LetN.pre ?_; first | ((conv => arg 1; whnf); refine LetN.mk ?_)) | (refine As.pre ?_; first | refine As.mk rfl ?_) | (refine LetV.pre ?_; first | refine LetV.mk (.sc (.int _ _)) rfl ?_ | refine LetV.mk (.ro _ _ _) rfl ?_) | (refine LetI.pre ?_; first | refine LetI.mk _ rfl ?_) | (refine LetB.pre ?_; first | refine LetB.mk _ hb ?_) | (refine Ck.pre ?_; first | refine Ck.drawn (by kernel_rfl) ?_ | refine Ck.mk rfl ?_) | (refine CallN.pre ?_; first | refine CallN.pure (of_f _) rfl rfl ?_ | refine CallN.pure (to_f _) rfl rfl ?_ | refine CallN.pure (hc _) rfl rfl ?_)))); (try (conv => whnf)))




  exact ⟨.inl rfl, ⟨_, rfl, rfl⟩, trivial⟩
abbrev cEnded (l : List E) (fl : Fl) : Cd := ⟨38, [.rp (.ro fl 15 (l.map en)) 0], endedP l⟩
theorem cEnded_ok (l : List E) (fl : Fl) (hl : l.length ≤ 100000) : (cEnded l fl).Ok := ⟨fun e => awards1_f l e fl hl, by kernel_rfl, rfl⟩
def awardsP (l : List E) (a o : Int) : List E := srt false (chos (chos l [cCounts a o]) [cOf 8, cEnded (chos l [cCounts a o]) {}])
set_option maxRecDepth 100000 in
theorem Awards_s (l : List E) (a o : Int) (fl : Fl) (hl : l.length < 20) : AFun Try.prog 16 0 [.ro fl 15 (l.map en), int a, int o] [] (.slm {} 0 15 0 (awardsP l a o).length) [(0, .row 15 ety ((awardsP l a o).map en))] := by
  refine AFun.of_S T_ok mixed Try.func16 rfl (Nat.le_of_ble_eq_true rfl) rfl ?_
  have hc := fun fl' => chosen_f l [cCounts a o] (oks1 (cCounts_ok a o)) fl fl' (by omega) (by simp)
  have hl2 : (chos l [cCounts a o]).length ≤ l.length := List.length_filter_le _ _
  rw [awardsP, srt_length]
  generalize chos l [cCounts a o] = C at hc hl2 ⊢
  have hc2 := fun fl' => chosen_s C [cOf 8, cEnded C {}] (oks2 (cOf_ok 8) (cEnded_ok C {} (by omega))) {} fl' (by omega) (by simp)
  have hl3 : (chos C [cOf 8, cEnded C {}]).length ≤ C.length := List.length_filter_le _ _
  generalize chos C [cOf 8, cEnded C {}] = D at hc2 hl3 ⊢
  have hs := sorted_f false D {} (by omega)
  generalize srt false D = R at hs ⊢
  have hr : AV.renL id (D.map en) = D.map en := renL_none (pure_en _)
  ((repeat ((conv => whnf); (first | (refine LetN.pre ?_; first | ((conv => arg 1; whnf); refine LetN.mk ?_)) | (refine As.pre ?_; first | refine As.mk rfl ?_) | (refine LetV.pre ?_; first | refine LetV.mk (.ro _ _ _) rfl ?_) | (refine Ck.pre ?_; first | refine Ck.drawn (by kernel_rfl) ?_ | refine Ck.mk rfl ?_) | (refine LetL.pre ?_; first | refine LetL.mk (ty := ety) _ (renL_none (pure_en _)).symm ?_ | refine LetL.mk [_] rfl ?_ | refine LetL.mk _ rfl ?_) | (refine CallN.pre ?_; first | refine CallN.pure (of_f _) rfl rfl ?_ | refine CallN.pure (counts_f _ _) rfl rfl ?_ | refine CallN.pure (hc _) rfl rfl ?_ | refine CallN.lendOwn 7 (hc2 _) (.same rfl (.rows rfl (Nat.le_of_ble_eq_true rfl) rfl rfl (.same rfl (.clo (.ptr rfl rfl rfl .nil) .nil)) .nil)) rfl rfl rfl (plain_en _) ?_ | refine CallN.own (fun _ => 7) hs (CallOk.mk' rfl rfl rfl (namesAll.row (pure_en _) rfl) rfl (namesAll.row (pure_en _) rfl) (haveAll.row (pure_en _) rfl trivial)) ?_)))); (try (conv => whnf)))






  exact ⟨⟨[(6, .slm {} 0 15 0 D.length)], [(0, .row 15 ety (R.map en))], 1⟩, SW.mk (fun _ => 7) rfl rfl (namesAll.row (pure_en _) rfl) ⟨.refl _, trivial⟩ (haveV.row (pure_en _) rfl trivial), .inl rfl, ⟨_, rfl, rfl⟩, rfl, trivial⟩
theorem Awards_f (l : List E) (a o : Int) (fl : Fl) (hl : l.length < 20) : AFun Try.prog 16 0 [.ro fl 15 (l.map en), int a, int o] [] (.ro {} 15 ((awardsP l a o).map en)) [] :=
  AFun.frz1 (H := []) (Awards_s l a o fl hl) rfl (pure_en _) (by simp)
theorem enrol1_f (e : E) (st pr : Int) : AFun Try.prog 46 0 [en e, .rp (int st) 0, .rp (int pr) 0] [] (bool (decide (e.student = st ∧ e.programme = pr))) [] := by
  refine AFun.of_W T_ok mixed Try.func46 rfl (Nat.le_of_ble_eq_true rfl) rfl ?_
  repeat' ((conv => whnf); (first | (refine LetN.pre ?_; first | ((conv => arg 1; whnf); refine LetN.mk ?_)) | (refine As.pre ?_; first | refine As.mk rfl ?_) | (refine LetV.pre ?_; first | refine LetV.mk (.sc (.int _ _)) rfl ?_) | (refine LetB.pre ?_; first | (refine LetB.dec (fun _ => ?_) (fun _ => ?_))) | (refine Gd.pre ?_; first | refine Gd.run rfl ?_ | refine Gd.pass rfl ?_) | (refine Ck.pre ?_; first | refine Ck.mk rfl ?_)))
  all_goals (refine ⟨by first | exact .inl rfl | exact .inr rfl, ⟨_, rfl, congrArg (fun b => Go.Proofs.Ytjnohedknlibmaa.Am.AV.sc (Go.Value.bool b)) (by first | exact (decide_eq_true (by omega)).symm | exact (decide_eq_false (by omega)).symm | exact Bool.eq_iff_iff.2 (by simp only [decide_eq_true_eq, decide_eq_false_iff_not]; omega) | rfl)⟩, trivial⟩)
abbrev cEnrol (st pr : Int) : Cd := ⟨46, [.rp (int st) 0, .rp (int pr) 0], fun e => decide (e.student = st ∧ e.programme = pr)⟩
theorem cEnrol_ok (st pr : Int) : (cEnrol st pr).Ok := ⟨fun e => enrol1_f e st pr, by kernel_rfl, rfl⟩
/-- A choice. -/
structure Ch where
  pr : Int
  ver : Int
  beg : Int
  on_ : Int
abbrev chA (c : Ch) : AV := .agg [int c.pr, int c.ver, int c.beg, int c.on_]
theorem pure_ch : ∀ l : List Ch, AV.namesL (fun _ => false) (l.map chA) = true
  | [] => rfl
  | p :: l => by simp only [List.map_cons, AV.namesL, pure_ch l]; rfl
theorem plain_ch : ∀ l : List Ch, AV.plainL (l.map chA) = true
  | [] => rfl
  | p :: l => by simp only [List.map_cons, AV.plainL, plain_ch l]; rfl
theorem app_ch (l : List Ch) (e : Ch) (n : Nat) (h : n = l.length) : (l ++ [e]).map chA = (l.map chA).take n ++ [chA e] := by rw [List.take_of_length_le (by simp [h]), List.map_append]; rfl
/-- The entries of an enrolment, in the order of their days. -/
def enrolR (l : List E) (st pr a o : Int) : List E := srt true (chos l [cCounts a o, cEnrol st pr])
def enrolF (l : List E) (st pr a o : Int) : List E := chos (enrolR l st pr a o) [cOf 1]
def enrolC (l : List E) (st pr a o : Int) : List Ch := (chos (enrolR l st pr a o) [cOf 2]).map fun e => ⟨pr, e.version, ((enrolF l st pr a o).getD 0 e0).on_, e.on_⟩
abbrev enrS (pr : Int) (F C : List E) : Nat × List Ch → AS
  | (k, out) => ⟨[(7, .ptr 1 1 0 0), (13, .slm {} 8 15 0 F.length), (14, .slm {} 3 4 0 out.length), (36, .slm {} 9 15 0 C.length), (37, int C.length), (38, int k)], [(1, .row 1 3 [int pr]), (3, .row 4 77 (out.map chA)), (8, .row 15 ety (F.map en)), (9, .row 15 ety (C.map en))], 10⟩
theorem enrNames (pr : Int) (F C : List E) (out : List Ch) (n : Nat) (ok : Nat → Bool) : namesAll ok [(1, .row 1 3 [int pr]), (n, .row 4 77 (out.map chA)), (8, .row 15 ety (F.map en)), (9, .row 15 ety (C.map en))] = true :=
  namesAll.row rfl (namesAll.row (pure_ch _) (namesAll.row (pure_en _) (namesAll.row (pure_en _) rfl)))
theorem take_map_succ {α β : Type} (g : α → β) {l : List α} {k : Nat} (h : k < l.length) (d : α) : (l.take (k + 1)).map g = (l.take k).map g ++ [g (l.getD k d)] := by
  rw [List.take_succ_eq_append_getElem h, List.map_append, List.getD_eq_getElem?_getD, List.getElem?_eq_getElem h]; rfl
theorem room_ch {n : Nat} (h : n ≤ 1000000) : room n 32 = true := by
  simp only [room, Bool.and_eq_true, decide_eq_true_eq]
  exact ⟨by omega, rfl⟩
set_option maxRecDepth 100000 in
theorem Enrol_none (l : List E) (st pr a o : Int) (fl : Fl) (hl : l.length < 20) (h : enrolF l st pr a o = []) : AFun Try.prog 23 0 [.ro fl 15 (l.map en), int st, int pr, int a, int o] [] (.tup [int 0, .ro {} 4 [], bool false]) [] := by
  refine AFun.of_S T_ok mixed Try.func23 rfl (Nat.le_of_ble_eq_true rfl) rfl ?_
  have hc := fun fl' => chosen_s l [cCounts a o, cEnrol st pr] (oks2 (cCounts_ok a o) (cEnrol_ok st pr)) fl fl' (by omega) (by simp)
  have hl2 : (chos l [cCounts a o, cEnrol st pr]).length ≤ l.length := List.length_filter_le _ _
  rw [enrolF, enrolR] at h
  generalize chos l [cCounts a o, cEnrol st pr] = D at hc hl2 h
  have hs := sorted_f true D {} (by omega)
  have hrl : D.length = ((srt true D).map en).length := by rw [List.length_map, srt_length]
  have hrl2 := srt_length true D
  generalize srt true D = R at hs hrl hrl2 h
  have hc2 := fun fl' => chosen_s R [cOf 1] (oks1 (cOf_ok 1)) {} fl' (by omega) (by simp)
  generalize chos R [cOf 1] = F at hc2 h
  subst h
  ((repeat ((conv => whnf); (first | (refine LetN.pre ?_; first | ((conv => arg 1; whnf); refine LetN.mk ?_)) | (refine As.pre ?_; first | refine As.mk rfl ?_) | (refine LetI.pre ?_; first | refine LetI.mk _ rfl ?_) | (refine LetB.pre ?_; first | refine LetB.tt rfl ?_) | (refine Br.pre ?_; first | refine Br.tt rfl ?_) | (refine Ck.pre ?_; first | refine Ck.mk rfl ?_) | (refine LetL.pre ?_; first | refine LetL.mk (ty := ety) _ (renL_none (pure_en _)).symm ?_ | refine LetL.mk _ rfl ?_) | (refine CallN.pre ?_; first | refine CallN.pure (of_f _) rfl rfl ?_ | refine CallN.pure (counts_f _ _) rfl rfl ?_ | refine CallN.lendOwn 7 (hc _) (.same rfl (.rows rfl (Nat.le_of_ble_eq_true rfl) rfl rfl (.same rfl (.clo (.ptr rfl rfl rfl (.ptr rfl rfl rfl .nil)) .nil)) .nil)) rfl rfl rfl (plain_en _) ?_ | refine CallN.own (fun _ => 7) hs (CallOk.mk' rfl rfl rfl (namesAll.row (pure_en _) rfl) rfl (namesAll.row (pure_en _) rfl) (haveAll.row (pure_en _) rfl trivial)) ?_ | refine CallN.lendOwn 8 (hc2 _) (.full rfl (pure_en _) hrl (.same rfl .nil)) rfl rfl rfl (plain_en _) ?_)))); (try (conv => whnf)))






  exact ⟨⟨[(10, int 0), (11, .ro {} 4 []), (12, bool false)], [], 10⟩, SW.mk id rfl rfl rfl ⟨.refl _, VLe2.nilro, .refl _, trivial⟩ trivial, .inl rfl, ⟨_, rfl, rfl⟩, trivial⟩
set_option maxRecDepth 100000 in
theorem Enrol_some (l : List E) (st pr a o : Int) (fl : Fl) (hl : l.length < 20) (f0 : E) (F' : List E) (h : enrolF l st pr a o = f0 :: F') : AFun Try.prog 23 0 [.ro fl 15 (l.map en), int st, int pr, int a, int o] [] (.tup [int f0.on_, .slm {} 0 4 0 (enrolC l st pr a o).length, bool true]) [(0, .row 4 77 ((enrolC l st pr a o).map chA))] := by
  refine AFun.of_S T_ok mixed Try.func23 rfl (Nat.le_of_ble_eq_true rfl) rfl ?_
  have hc := fun fl' => chosen_s l [cCounts a o, cEnrol st pr] (oks2 (cCounts_ok a o) (cEnrol_ok st pr)) fl fl' (by omega) (by simp)
  have hl2 : (chos l [cCounts a o, cEnrol st pr]).length ≤ l.length := List.length_filter_le _ _
  rw [enrolC, h]
  rw [enrolF, enrolR] at h
  rw [enrolR]
  generalize chos l [cCounts a o, cEnrol st pr] = D at hc hl2 h ⊢
  have hs := sorted_f true D {} (by omega)
  have hrl : D.length = ((srt true D).map en).length := by rw [List.length_map, srt_length]
  have hrl2 := srt_length true D
  generalize srt true D = R at hs hrl hrl2 h ⊢
  have hc2 := fun fl' => chosen_s R [cOf 1] (oks1 (cOf_ok 1)) {} fl' (by omega) (by simp)
  rw [h] at hc2
  have hc3 := fun fl' => chosen_s R [cOf 2] (oks1 (cOf_ok 2)) {} fl' (by omega) (by simp)
  have hl3 : (chos R [cOf 2]).length ≤ R.length := List.length_filter_le _ _
  have hl4 : (f0 :: F').length ≤ R.length := by rw [← h]; exact List.length_filter_le _ _
  generalize chos R [cOf 2] = C at hc3 hl3 ⊢
  generalize hg : (fun e : E => (⟨pr, e.version, ((f0 :: F').getD 0 e0).on_, e.on_⟩ : Ch)) = g
  have hnz : (((f0 :: F').length : Int) == 0) = false := by simp; omega
  ((repeat ((conv => whnf); (first | (refine LetN.pre ?_; first | ((conv => arg 1; whnf); refine LetN.mk ?_)) | (refine As.pre ?_; first | refine As.mk rfl ?_) | (refine LetI.pre ?_; first | refine LetI.mk _ rfl ?_) | (refine LetB.pre ?_; first | refine LetB.ff rfl ?_) | (refine Br.pre ?_; first | refine Br.ff rfl ?_) | (refine Ck.pre ?_; first | refine Ck.mk rfl ?_) | (refine LetL.pre ?_; first | refine LetL.mk (ty := ety) _ (renL_none (pure_en _)).symm ?_ | refine LetL.mk _ rfl ?_) | (refine CallN.pre ?_; first | refine CallN.pure (of_f _) rfl rfl ?_ | refine CallN.pure (counts_f _ _) rfl rfl ?_ | refine CallN.lendOwn 7 (hc _) (.same rfl (.rows rfl (Nat.le_of_ble_eq_true rfl) rfl rfl (.same rfl (.clo (.ptr rfl rfl rfl (.ptr rfl rfl rfl .nil)) .nil)) .nil)) rfl rfl rfl (plain_en _) ?_ | refine CallN.own (fun _ => 7) hs (CallOk.mk' rfl rfl rfl (namesAll.row (pure_en _) rfl) rfl (namesAll.row (pure_en _) rfl) (haveAll.row (pure_en _) rfl trivial)) ?_ | refine CallN.lendOwn 8 (hc2 _) (.full rfl (pure_en _) hrl (.same rfl .nil)) rfl rfl rfl (plain_en _) ?_ | refine CallN.lendOwn 9 (hc3 _) (.full rfl (pure_en _) hrl (.same rfl .nil)) rfl rfl rfl (plain_en _) ?_)))); (try (conv => whnf)))








  refine LoopN.weak (s1 := enrS pr (f0 :: F') C (0, [])) ?sw1 ?_
  case sw1 => exact SW.mk (fun i => if i = 3 then 10 else i) rfl rfl (enrNames ..) ⟨.refl _, .refl _, VLe2.nilslm, .refl _, .refl _, .refl _, trivial⟩ (haveV.row rfl rfl (haveV.nil (Nat.le_refl _) (haveV.row (pure_en _) rfl (haveV.row (pure_en _) rfl trivial))))
  refine LoopN.ind T_ok mixed (S := enrS pr (f0 :: F') C) (fun i => C.length - i.1) (fun i => i.1 ≤ C.length ∧ i.2 = (C.take i.1).map g) (fun _ => rfl) (fun i hi ih => ?_) (0, []) ⟨Nat.zero_le _, rfl⟩
  obtain ⟨k, out⟩ := i
  obtain ⟨h1, h2⟩ := hi
  simp only at h1 h2 ih
  by_cases hlt : k < C.length
  case neg =>
    have hk : k = C.length := by omega
    subst hk
    rw [List.take_length] at h2
    subst h2
    clear ih
    ((repeat ((conv => whnf); (first | (refine As.pre ?_; first | refine As.mk rfl ?_ | (refine As.mk ?_ ?_; · ((repeat' (refine andT ?_ ?_)) <;> (first | rfl | assumption | exact decide_eq_true (by omega) | exact decide_eq_true (by dsimp only; omega) | exact decide_eq_true (by simp; omega) | (simp; done))))) | (refine LetV.pre ?_; first | refine LetV.mk (.sc (.int _ _)) rfl ?_) | (refine LetB.pre ?_; first | refine LetB.decf (by omega) ?_) | (refine Br.pre ?_; first | refine Br.ff rfl ?_) | (refine Ck.pre ?_; first | refine Ck.mk rfl ?_)))); (try (conv => whnf)))
    exact ⟨⟨[(10, int f0.on_), (11, .slm {} 0 4 0 (C.map g).length), (12, bool true)], [(0, .row 4 77 ((C.map g).map chA))], 10⟩, SW.mk (fun _ => 3) rfl rfl (namesAll.row (pure_ch _) rfl) ⟨.refl _, .refl _, .refl _, trivial⟩ (haveV.row (pure_ch _) rfl trivial), .inl rfl, ⟨_, rfl, rfl⟩, rfl, trivial⟩
  case pos =>
    have hld : en (C.getD k e0) = Am.part true 15 0 15 ((C.map en).getD (0 + k) (.sc undef)) := getD_en hlt
    have hq := take_map_succ g hlt e0
    rw [← h2] at hq
    have hol : out.length = k := by rw [h2]; simp; omega
    clear h2
    have hge : g (C.getD k e0) = ⟨pr, (C.getD k e0).version, f0.on_, (C.getD k e0).on_⟩ := by rw [← hg]; rfl
    rw [hge] at hq
    generalize C.getD k e0 = e at hld hq
    have hr := room_ch (n := out.length + 1) (by omega)
    have hol2 : (out.map chA).length = out.length := List.length_map _
    have hcl : (C.map en).length = C.length := List.length_map _
    ((repeat ((conv => whnf); (first | (refine LetN.pre ?_; first | ((conv => arg 1; whnf); refine LetN.mk ?_)) | (refine As.pre ?_; first | refine As.mk rfl ?_ | (refine As.mk ?_ ?_; · ((repeat' (refine andT ?_ ?_)) <;> (first | rfl | assumption | exact decide_eq_true (by omega) | exact decide_eq_true (by dsimp only; omega) | exact decide_eq_true (by simp; omega) | (simp; done))))) | (refine LetV.pre ?_; first | refine LetV.mk (t := ety) _ hld ?_ | refine LetV.mk (.sc (.int _ _)) rfl ?_) | (refine LetI.pre ?_; first | refine LetI.wrap (by omega) (by omega) ?_) | (refine LetB.pre ?_; first | refine LetB.dect (by omega) ?_) | (refine Br.pre ?_; first | refine Br.tt rfl ?_) | (refine Ck.pre ?_; first | refine Ck.drawn (by kernel_rfl) ?_ | refine Ck.mk rfl ?_) | (refine LetL.pre ?_; first | refine LetL.mk (ty := 77) _ (app_ch out ⟨pr, e.version, f0.on_, e.on_⟩ _ rfl) ?_ | refine LetL.mk [_] rfl ?_)))); (try (conv => whnf)))


    refine LoopN.weak ?sw2 (ih (k + 1, out ++ [⟨pr, e.version, f0.on_, e.on_⟩]) ⟨by omega, hq.symm⟩ (by omega))
    case sw2 => exact SW.mk (fun i => if i = 3 then 11 else i) rfl rfl (enrNames ..) ⟨.refl _, .refl _, VLe2.slm_of (by simp), .refl _, .refl _, VLe2.int (by omega), trivial⟩ (haveV.row rfl rfl (haveV.row (pure_ch _) rfl (haveV.row (pure_en _) rfl (haveV.row (pure_en _) rfl trivial))))
/-- What Enrol gives. -/
def enrolP (l : List E) (st pr a o : Int) : Int × List Ch × Bool := if (enrolF l st pr a o).isEmpty then (0, [], false) else (((enrolF l st pr a o).getD 0 e0).on_, enrolC l st pr a o, true)
abbrev enrolV (x : Int × List Ch × Bool) : AV := .tup [int x.1, .ro {} 4 (x.2.1.map chA), bool x.2.2]
theorem Enrol_f (l : List E) (st pr a o : Int) (fl : Fl) (hl : l.length < 20) : AFun Try.prog 23 0 [.ro fl 15 (l.map en), int st, int pr, int a, int o] [] (enrolV (enrolP l st pr a o)) [] := by
  unfold enrolP
  cases h : enrolF l st pr a o with
  | nil => exact Enrol_none l st pr a o fl hl h
  | cons f0 F' =>
    have := Enrol_some l st pr a o fl hl f0 F' h
    have k := AFun.frz [0] this (by simp only [rowsOk, List.all_cons, List.all_nil, AH.get, if_true, pure_ch]; rfl) rfl (by simp [AV.frzOk, AV.frzOkL, AH.get])
    have e1 : List.take (enrolC l st pr a o).length (List.map chA (enrolC l st pr a o)) = List.map chA (enrolC l st pr a o) := List.take_of_length_le (by simp)
    simp [AV.frz, AV.frzL, AH.get, AH.frz, e1] at k
    exact k
end En
end Go.Proofs.Ytjnohedknlibmaa
namespace Go.Proofs.Ytjnohedknlibmaa
open Go.Proofs.Ytjnohedknlibmaa.Am
namespace En
/-- A standing. -/
structure St where
  entry : Int
  by_ : Int
  grade : Int
  void : Bool
abbrev stA (s : St) : AV := .agg [int s.entry, int s.by_, int s.grade, bool s.void]
abbrev sty : TypeId := 38
theorem pure_st : ∀ l : List St, AV.namesL (fun _ => false) (l.map stA) = true
  | [] => rfl
  | p :: l => by simp only [List.map_cons, AV.namesL, pure_st l]; rfl
theorem plain_st : ∀ l : List St, AV.plainL (l.map stA) = true
  | [] => rfl
  | p :: l => by simp only [List.map_cons, AV.plainL, plain_st l]; rfl
theorem app_st (l : List St) (e : St) (n : Nat) (h : n = l.length) : (l ++ [e]).map stA = (l.map stA).take n ++ [stA e] := by rw [List.take_of_length_le (by simp [h]), List.map_append]; rfl
theorem room_st {n : Nat} (h : n ≤ 1000000) : room n 32 = true := by
  simp only [room, Bool.and_eq_true, decide_eq_true_eq]
  exact ⟨by omega, rfl⟩
/-- The latest correction: by which entry, its grade, its day, whether there is one. -/
def stepC (x : Int × Int × Int × Bool) (c : E) : Int × Int × Int × Bool := if x.2.2.2 = false ∨ x.2.2.1 < c.day ∨ (c.day = x.2.2.1 ∧ x.1 < c.id) then (c.id, c.grade, c.day, true) else x
def corr (R : List E) (g : E) : Int × Int × Int × Bool := (chos R [cOf 4, cTo g.id]).foldl stepC (0, g.grade, 0, false)
def voidP (R : List E) (a o : Int) (g : E) : Bool := (chos R [cOf 5, cTo g.id]).any fun f => !liftedP R f.id a o
def stand (R : List E) (a o : Int) (g : E) : St := ⟨g.id, (corr R g).1, (corr R g).2.1, voidP R a o g⟩
def atR (l : List E) (a o : Int) : List E := srt false (chos l [cCounts a o])
def atP (l : List E) (a o : Int) : List St := (chos (atR l a o) [cOf 3]).map (stand (atR l a o) a o)
theorem foldl_drop {α β : Type} (f : β → α → β) {l : List α} {k : Nat} (h : k < l.length) (d : α) (x : β) : (l.drop k).foldl f x = (l.drop (k + 1)).foldl f (f x (l.getD k d)) := by
  rw [List.drop_eq_getElem_cons h, List.foldl_cons, List.getD_eq_getElem?_getD, List.getElem?_eq_getElem h]; rfl
theorem any_drop {α : Type} (f : α → Bool) {l : List α} {k : Nat} (h : k < l.length) (d : α) : (l.drop k).any f = (f (l.getD k d) || (l.drop (k + 1)).any f) := by
  rw [List.drop_eq_getElem_cons h, List.any_cons, List.getD_eq_getElem?_getD, List.getElem?_eq_getElem h]; rfl
abbrev atS (R G : List E) (a o : Int) : Nat × List St → AS
  | (k, out) => ⟨[(0, .slm {} 0 15 0 R.length), (1, int a), (2, int o), (6, .slm {} 2 4 0 out.length), (27, .slm {} 1 15 0 G.length), (28, int G.length), (29, int k)], [(0, .row 15 ety (R.map en)), (1, .row 15 ety (G.map en)), (2, .row 4 sty (out.map stA))], 3⟩
abbrev atA (R G C : List E) (a o : Int) (k : Nat) (out : List St) (g : E) : Nat × Int × Int × Int × Bool → AS
  | (i, b, gr, d, s) => ⟨[(0, .slm {} 0 15 0 R.length), (1, int a), (2, int o), (6, .slm {} 2 4 0 out.length), (27, .slm {} 1 15 0 G.length), (28, int G.length), (29, int k), (8, .ptr 3 15 0 0), (9, .ptr 4 4 0 0), (10, int d), (11, bool s), (44, .slm {} 5 15 0 C.length), (45, int C.length), (46, int i)],
      [(0, .row 15 ety (R.map en)), (1, .row 15 ety (G.map en)), (2, .row 4 sty (out.map stA)), (3, .row 15 ety [en g]), (4, .row 4 sty [stA ⟨g.id, b, gr, false⟩]), (5, .row 15 ety (C.map en))], 6⟩
abbrev atB (R G C : List E) (a o : Int) (k : Nat) (out : List St) (g : E) (b gr : Int) : Nat × Bool → AS
  | (i, v) => ⟨[(0, .slm {} 0 15 0 R.length), (1, int a), (2, int o), (6, .slm {} 2 4 0 out.length), (27, .slm {} 1 15 0 G.length), (28, int G.length), (29, int k), (9, .ptr 4 4 0 0), (86, .slm {} 5 15 0 C.length), (87, int C.length), (88, int i)],
      [(0, .row 15 ety (R.map en)), (1, .row 15 ety (G.map en)), (2, .row 4 sty (out.map stA)), (4, .row 4 sty [stA ⟨g.id, b, gr, v⟩]), (5, .row 15 ety (C.map en))], 6⟩
theorem atNames (R G : List E) (out : List St) (ok : Nat → Bool) (H : AH) (h : namesAll ok H = true) : namesAll ok ((0, .row 15 ety (R.map en)) :: (1, .row 15 ety (G.map en)) :: (2, .row 4 sty (out.map stA)) :: H) = true :=
  namesAll.row (pure_en _) (namesAll.row (pure_en _) (namesAll.row (pure_st _) h))
set_option maxHeartbeats 1600000 in
set_option maxRecDepth 100000 in
theorem At_s (l : List E) (a o : Int) (fl : Fl) (hl : l.length < 20) : AFun Try.prog 11 0 [.ro fl 15 (l.map en), int a, int o] [] (.slm {} 0 4 0 (atP l a o).length) [(0, .row 4 sty ((atP l a o).map stA))] := by
  refine AFun.of_S T_ok mixed Try.func11 rfl (Nat.le_of_ble_eq_true rfl) rfl ?_
  have hc := fun fl' => chosen_s l [cCounts a o] (oks1 (cCounts_ok a o)) fl fl' (by omega) (by simp)
  have hl2 : (chos l [cCounts a o]).length ≤ l.length := List.length_filter_le _ _
  rw [atP, atR]
  generalize chos l [cCounts a o] = D at hc hl2 ⊢
  have hs := sorted_f false D {} (by omega)
  have hrl : D.length = (srt false D).length := (srt_length ..).symm
  generalize srt false D = R at hs hrl ⊢
  have hrl2 : D.length = (R.map en).length := by rw [List.length_map, hrl]
  have hc2 := fun fl' => chosen_s R [cOf 3] (oks1 (cOf_ok 3)) {} fl' (by omega) (by simp)
  have hl3 : (chos R [cOf 3]).length ≤ R.length := List.length_filter_le _ _
  generalize chos R [cOf 3] = G at hc2 hl3 ⊢
  ((repeat ((conv => whnf); (first | (refine LetN.pre ?_; first | ((conv => arg 1; whnf); refine LetN.mk ?_)) | (refine As.pre ?_; first | refine As.mk rfl ?_) | (refine LetI.pre ?_; first | refine LetI.mk _ rfl ?_) | (refine Ck.pre ?_; first | refine Ck.mk rfl ?_) | (refine LetL.pre ?_; first | refine LetL.mk (ty := ety) _ (renL_none (pure_en _)).symm ?_ | refine LetL.mk _ rfl ?_) | (refine CallN.pre ?_; first | refine CallN.pure (of_f _) rfl rfl ?_ | refine CallN.pure (counts_f _ _) rfl rfl ?_ | refine CallN.lendOwn 0 (hc _) (.same rfl (.same rfl .nil)) rfl rfl rfl (plain_en _) ?_ | refine CallN.own (fun _ => 0) hs (CallOk.mk' rfl rfl rfl (namesAll.row (pure_en _) rfl) rfl (namesAll.row (pure_en _) rfl) (haveAll.row (pure_en _) rfl trivial)) ?_ | refine CallN.lendOwn 1 (hc2 _) (.full rfl (pure_en _) hrl2 (.same rfl .nil)) rfl rfl rfl (plain_en _) ?_)))); (try (conv => whnf)))






  refine LoopN.weak (s1 := atS R G a o (0, [])) ?sw1 ?_
  case sw1 => exact SW.mk id rfl rfl (atNames _ _ _ _ _ rfl) ⟨VLe2.slm_of hrl.symm, .refl _, .refl _, VLe2.nilslm, .refl _, .refl _, .refl _, trivial⟩ (haveV.row (pure_en _) rfl (haveV.row (pure_en _) rfl (haveV.nil (Nat.le_refl _) trivial)))
  refine LoopN.ind T_ok mixed (S := atS R G a o) (fun i => G.length - i.1) (fun i => i.1 ≤ G.length ∧ i.2 = (G.take i.1).map (stand R a o)) (fun _ => rfl) (fun i hi ih => ?_) (0, []) ⟨Nat.zero_le _, rfl⟩
  obtain ⟨k, out⟩ := i
  obtain ⟨h1, h2⟩ := hi
  simp only at h1 h2 ih
  by_cases hlt : k < G.length
  case neg =>
    have hk : k = G.length := by omega
    subst hk
    rw [List.take_length] at h2
    rw [← h2]
    clear ih
    ((repeat ((conv => whnf); (first | (refine As.pre ?_; first | refine As.mk rfl ?_) | (refine LetB.pre ?_; first | refine LetB.decf (by omega) ?_) | (refine Br.pre ?_; first | refine Br.ff rfl ?_) | (refine Ck.pre ?_; first | refine Ck.mk rfl ?_)))); (try (conv => whnf)))
    exact ⟨⟨[(6, .slm {} 0 4 0 out.length)], [(0, .row 4 sty (out.map stA))], 3⟩, SW.mk (fun _ => 2) rfl rfl (namesAll.row (pure_st _) rfl) ⟨.refl _, trivial⟩ (haveV.row (pure_st _) rfl trivial), .inl rfl, ⟨_, rfl, rfl⟩, rfl, trivial⟩
  have hld : en (G.getD k e0) = Am.part true 15 0 15 ((G.map en).getD (0 + k) (.sc undef)) := getD_en hlt
  have hq := take_map_succ (stand R a o) hlt e0
  rw [← h2] at hq
  have hol : out.length = k := by rw [h2]; simp; omega
  clear h2
  generalize G.getD k e0 = g at hld hq
  have hcC := fun fl' => chosen_s R [cOf 4, cTo g.id] (oks2 (cOf_ok 4) (cTo_ok g.id)) {} fl' (by omega) (by simp)
  have hlC : (chos R [cOf 4, cTo g.id]).length ≤ R.length := List.length_filter_le _ _
  have hcF := fun fl' => chosen_s R [cOf 5, cTo g.id] (oks2 (cOf_ok 5) (cTo_ok g.id)) {} fl' (by omega) (by simp)
  have hlF : (chos R [cOf 5, cTo g.id]).length ≤ R.length := List.length_filter_le _ _
  have hst : stand R a o g = ⟨g.id, ((chos R [cOf 4, cTo g.id]).foldl stepC (0, g.grade, 0, false)).1, ((chos R [cOf 4, cTo g.id]).foldl stepC (0, g.grade, 0, false)).2.1, (chos R [cOf 5, cTo g.id]).any fun f => !liftedP R f.id a o⟩ := rfl
  generalize chos R [cOf 4, cTo g.id] = C at hcC hlC hst
  generalize chos R [cOf 5, cTo g.id] = F at hcF hlF hst
  have hRR : R.length = (R.map en).length := by rw [List.length_map]
  ((repeat ((conv => whnf); (first | (refine LetN.pre ?_; first | ((conv => arg 1; whnf); refine LetN.mk ?_)) | (refine As.pre ?_; first | refine As.mk rfl ?_ | (refine As.mk ?_ ?_; · ((repeat' (refine andT ?_ ?_)) <;> (first | rfl | assumption | exact decide_eq_true (by omega) | exact decide_eq_true (by dsimp only; omega) | exact decide_eq_true (by simp; omega) | (simp; done))))) | (refine LetV.pre ?_; first | refine LetV.mk (t := ety) _ hld ?_ | refine LetV.mk (.sc (.int _ _)) rfl ?_) | (refine LetI.pre ?_; first | refine LetI.mk _ rfl ?_) | (refine LetB.pre ?_; first | refine LetB.dect (by omega) ?_) | (refine Br.pre ?_; first | refine Br.tt rfl ?_) | (refine Ck.pre ?_; first | refine Ck.drawn (by kernel_rfl) ?_ | refine Ck.mk rfl ?_) | (refine LetL.pre ?_; first | refine LetL.mk [_] rfl ?_ | refine LetL.mk _ rfl ?_) | (refine CallN.pre ?_; first | refine CallN.pure (of_f _) rfl rfl ?_ | refine CallN.pure (to_f _) rfl rfl ?_ | refine CallN.lendOwn 5 (hcC _) (.full rfl (pure_en _) hRR (.same rfl .nil)) rfl rfl rfl (plain_en _) ?_)))); (try (conv => whnf)))




  refine LoopN.weak (s1 := atA R G C a o k out g (0, 0, g.grade, 0, false)) ?sw2 ?_
  case sw2 => exact SW.mk id rfl rfl (atNames _ _ _ _ _ (namesAll.row rfl (namesAll.row rfl (namesAll.row (pure_en _) rfl)))) ⟨.refl _, .refl _, .refl _, .refl _, .refl _, .refl _, .refl _, .refl _, .refl _, .refl _, .refl _, .refl _, .refl _, .refl _, trivial⟩ (haveV.row (pure_en _) rfl (haveV.row (pure_en _) rfl (haveV.row (pure_st _) rfl (haveV.row rfl rfl (haveV.row rfl rfl (haveV.row (pure_en _) rfl trivial))))))
  generalize hX : C.foldl stepC (0, g.grade, 0, false) = X at hst
  refine LoopN.ind T_ok mixed (S := atA R G C a o k out g) (fun i => C.length - i.1) (fun i => i.1 ≤ C.length ∧ X = (C.drop i.1).foldl stepC i.2) (fun _ => rfl) (fun i hi ihA => ?_) (0, 0, g.grade, 0, false) ⟨Nat.zero_le _, hX.symm⟩
  obtain ⟨i, b, gr, d, s⟩ := i
  obtain ⟨g1, g2⟩ := hi
  simp only at g1 g2 ihA
  by_cases hiC : i < C.length
  case pos =>
    have hldc : en (C.getD i e0) = Am.part true 15 0 15 ((C.map en).getD (0 + i) (.sc undef)) := getD_en hiC
    rw [foldl_drop stepC hiC e0] at g2
    generalize C.getD i e0 = c at hldc g2
    have next : ∀ (b' gr' d' : Int) (s' : Bool), stepC (b, gr, d, s) c = (b', gr', d', s') → LoopN Try.prog 0 Try.f11.ntmps _ (atA R G C a o k out g (i + 1, b', gr', d', s')) _ := fun b' gr' d' s' hs' => ihA (i + 1, b', gr', d', s') ⟨by omega, by rw [← hs']; exact g2⟩ (by omega)
    clear ihA ih hc hc2 hcC hcF hs
    have fin : ∀ (b' gr' d' : Int) (s' : Bool), namesAll (fun i => decide (i < 0) || (List.map Prod.fst (atA R G C a o k out g (i, b', gr', d', s')).H).contains i) (atA R G C a o k out g (i, b', gr', d', s')).H = true := fun b' gr' d' s' => atNames _ _ _ _ _ (namesAll.row rfl (namesAll.row rfl (namesAll.row (pure_en _) rfl)))
    cases s with
    | false =>
      ((repeat ((conv => whnf); (first | (refine LetN.pre ?_; first | ((conv => arg 1; whnf); refine LetN.mk ?_)) | (refine As.pre ?_; first | refine As.mk rfl ?_ | (refine As.mk ?_ ?_; · ((repeat' (refine andT ?_ ?_)) <;> (first | rfl | assumption | exact decide_eq_true (by omega) | exact decide_eq_true (by dsimp only; omega) | exact decide_eq_true (by simp; omega) | (simp; done))))) | (refine LetV.pre ?_; first | refine LetV.mk (t := ety) _ hldc ?_ | refine LetV.mk (.sc (.int _ _)) rfl ?_) | (refine LetI.pre ?_; first | refine LetI.wrap (by omega) (by omega) ?_) | (refine LetB.pre ?_; first | refine LetB.dect (by omega) ?_) | (refine Gd.pre ?_; first | refine Gd.pass rfl ?_) | (refine Br.pre ?_; first | refine Br.tt rfl ?_) | (refine Ck.pre ?_; first | refine Ck.drawn (by kernel_rfl) ?_ | refine Ck.mk rfl ?_) | (refine LetL.pre ?_; first | refine LetL.mk [_] rfl ?_)))); (try (conv => whnf)))
      refine LoopN.weak ?sw3 (next c.id c.grade c.day true (if_pos (.inl rfl)))
      case sw3 => exact SW.mk id rfl rfl (atNames _ _ _ _ _ (namesAll.row rfl (namesAll.row rfl (namesAll.row (pure_en _) rfl)))) ⟨.refl _, .refl _, .refl _, .refl _, .refl _, .refl _, .refl _, .refl _, .refl _, .refl _, .refl _, .refl _, .refl _, VLe2.int (by omega), trivial⟩ (haveV.row (pure_en _) rfl (haveV.row (pure_en _) rfl (haveV.row (pure_st _) rfl (haveV.row rfl rfl (haveV.row rfl rfl (haveV.row (pure_en _) rfl trivial))))))
    | true =>
      by_cases q1 : d < c.day
      · ((repeat ((conv => whnf); (first | (refine LetN.pre ?_; first | ((conv => arg 1; whnf); refine LetN.mk ?_)) | (refine As.pre ?_; first | refine As.mk rfl ?_ | (refine As.mk ?_ ?_; · ((repeat' (refine andT ?_ ?_)) <;> (first | rfl | assumption | exact decide_eq_true (by omega) | exact decide_eq_true (by dsimp only; omega) | exact decide_eq_true (by simp; omega) | (simp; done))))) | (refine LetV.pre ?_; first | refine LetV.mk (t := ety) _ hldc ?_ | refine LetV.mk (.sc (.int _ _)) rfl ?_) | (refine LetI.pre ?_; first | refine LetI.wrap (by omega) (by omega) ?_) | (refine LetB.pre ?_; first | refine LetB.dect (by omega) ?_) | (refine Gd.pre ?_; first | refine Gd.run rfl ?_ | refine Gd.pass rfl ?_) | (refine Br.pre ?_; first | refine Br.tt rfl ?_) | (refine Ck.pre ?_; first | refine Ck.drawn (by kernel_rfl) ?_ | refine Ck.mk rfl ?_) | (refine LetL.pre ?_; first | refine LetL.mk [_] rfl ?_)))); (try (conv => whnf)))
        refine LoopN.weak ?sw4 (next c.id c.grade c.day true (if_pos (.inr (.inl q1))))
        case sw4 => exact SW.mk id rfl rfl (atNames _ _ _ _ _ (namesAll.row rfl (namesAll.row rfl (namesAll.row (pure_en _) rfl)))) ⟨.refl _, .refl _, .refl _, .refl _, .refl _, .refl _, .refl _, .refl _, .refl _, .refl _, .refl _, .refl _, .refl _, VLe2.int (by omega), trivial⟩ (haveV.row (pure_en _) rfl (haveV.row (pure_en _) rfl (haveV.row (pure_st _) rfl (haveV.row rfl rfl (haveV.row rfl rfl (haveV.row (pure_en _) rfl trivial))))))
      · by_cases q2 : c.day = d
        · by_cases q3 : b < c.id
          · ((repeat ((conv => whnf); (first | (refine LetN.pre ?_; first | ((conv => arg 1; whnf); refine LetN.mk ?_)) | (refine As.pre ?_; first | refine As.mk rfl ?_ | (refine As.mk ?_ ?_; · ((repeat' (refine andT ?_ ?_)) <;> (first | rfl | assumption | exact decide_eq_true (by omega) | exact decide_eq_true (by dsimp only; omega) | exact decide_eq_true (by simp; omega) | (simp; done))))) | (refine LetV.pre ?_; first | refine LetV.mk (t := ety) _ hldc ?_ | refine LetV.mk (.sc (.int _ _)) rfl ?_) | (refine LetI.pre ?_; first | refine LetI.wrap (by omega) (by omega) ?_) | (refine LetB.pre ?_; first | refine LetB.dect (by omega) ?_ | refine LetB.decf (by omega) ?_) | (refine Gd.pre ?_; first | refine Gd.run rfl ?_) | (refine Br.pre ?_; first | refine Br.tt rfl ?_) | (refine Ck.pre ?_; first | refine Ck.drawn (by kernel_rfl) ?_ | refine Ck.mk rfl ?_) | (refine LetL.pre ?_; first | refine LetL.mk [_] rfl ?_)))); (try (conv => whnf)))
            refine LoopN.weak ?sw5 (next c.id c.grade c.day true (if_pos (.inr (.inr ⟨q2, q3⟩))))
            case sw5 => exact SW.mk id rfl rfl (atNames _ _ _ _ _ (namesAll.row rfl (namesAll.row rfl (namesAll.row (pure_en _) rfl)))) ⟨.refl _, .refl _, .refl _, .refl _, .refl _, .refl _, .refl _, .refl _, .refl _, .refl _, .refl _, .refl _, .refl _, VLe2.int (by omega), trivial⟩ (haveV.row (pure_en _) rfl (haveV.row (pure_en _) rfl (haveV.row (pure_st _) rfl (haveV.row rfl rfl (haveV.row rfl rfl (haveV.row (pure_en _) rfl trivial))))))
          · ((repeat ((conv => whnf); (first | (refine LetN.pre ?_; first | ((conv => arg 1; whnf); refine LetN.mk ?_)) | (refine As.pre ?_; first | refine As.mk rfl ?_ | (refine As.mk ?_ ?_; · ((repeat' (refine andT ?_ ?_)) <;> (first | rfl | assumption | exact decide_eq_true (by omega) | exact decide_eq_true (by dsimp only; omega) | exact decide_eq_true (by simp; omega) | (simp; done))))) | (refine LetV.pre ?_; first | refine LetV.mk (t := ety) _ hldc ?_ | refine LetV.mk (.sc (.int _ _)) rfl ?_) | (refine LetI.pre ?_; first | refine LetI.wrap (by omega) (by omega) ?_) | (refine LetB.pre ?_; first | refine LetB.dect (by omega) ?_ | refine LetB.decf (by omega) ?_) | (refine Gd.pre ?_; first | refine Gd.run rfl ?_) | (refine Br.pre ?_; first | refine Br.tt rfl ?_ | refine Br.ff rfl ?_) | (refine Ck.pre ?_; first | refine Ck.mk rfl ?_) | (refine LetL.pre ?_; first | refine LetL.mk [_] rfl ?_)))); (try (conv => whnf)))
            refine LoopN.weak ?sw6 (next b gr d true (if_neg (by rintro (h | h | h) <;> simp at h <;> omega)))
            case sw6 => exact SW.mk id rfl rfl (atNames _ _ _ _ _ (namesAll.row rfl (namesAll.row rfl (namesAll.row (pure_en _) rfl)))) ⟨.refl _, .refl _, .refl _, .refl _, .refl _, .refl _, .refl _, .refl _, .refl _, .refl _, .refl _, .refl _, .refl _, VLe2.int (by omega), trivial⟩ (haveV.row (pure_en _) rfl (haveV.row (pure_en _) rfl (haveV.row (pure_st _) rfl (haveV.row rfl rfl (haveV.row rfl rfl (haveV.row (pure_en _) rfl trivial))))))
        · ((repeat ((conv => whnf); (first | (refine LetN.pre ?_; first | ((conv => arg 1; whnf); refine LetN.mk ?_)) | (refine As.pre ?_; first | refine As.mk rfl ?_ | (refine As.mk ?_ ?_; · ((repeat' (refine andT ?_ ?_)) <;> (first | rfl | assumption | exact decide_eq_true (by omega) | exact decide_eq_true (by dsimp only; omega) | exact decide_eq_true (by simp; omega) | (simp; done))))) | (refine LetV.pre ?_; first | refine LetV.mk (t := ety) _ hldc ?_ | refine LetV.mk (.sc (.int _ _)) rfl ?_) | (refine LetI.pre ?_; first | refine LetI.wrap (by omega) (by omega) ?_) | (refine LetB.pre ?_; first | refine LetB.dect (by omega) ?_ | refine LetB.decf (by omega) ?_) | (refine Gd.pre ?_; first | refine Gd.run rfl ?_ | refine Gd.pass rfl ?_) | (refine Br.pre ?_; first | refine Br.tt rfl ?_ | refine Br.ff rfl ?_) | (refine Ck.pre ?_; first | refine Ck.mk rfl ?_) | (refine LetL.pre ?_; first | refine LetL.mk [_] rfl ?_)))); (try (conv => whnf)))
          refine LoopN.weak ?sw7 (next b gr d true (if_neg (by rintro (h | h | h) <;> simp at h <;> omega)))
          case sw7 => exact SW.mk id rfl rfl (atNames _ _ _ _ _ (namesAll.row rfl (namesAll.row rfl (namesAll.row (pure_en _) rfl)))) ⟨.refl _, .refl _, .refl _, .refl _, .refl _, .refl _, .refl _, .refl _, .refl _, .refl _, .refl _, .refl _, .refl _, VLe2.int (by omega), trivial⟩ (haveV.row (pure_en _) rfl (haveV.row (pure_en _) rfl (haveV.row (pure_st _) rfl (haveV.row rfl rfl (haveV.row rfl rfl (haveV.row (pure_en _) rfl trivial))))))
  case neg =>
    clear ihA
    rw [List.drop_eq_nil_of_le (by omega), List.foldl_nil] at g2
    rw [g2] at hst
    simp only at hst
    ((repeat ((conv => whnf); (first | (refine LetN.pre ?_; first | ((conv => arg 1; whnf); refine LetN.mk ?_)) | (refine As.pre ?_; first | refine As.mk rfl ?_) | (refine LetV.pre ?_; first | refine LetV.mk (.sc (.int _ _)) rfl ?_) | (refine LetI.pre ?_; first | refine LetI.mk _ rfl ?_) | (refine LetB.pre ?_; first | refine LetB.decf (by omega) ?_) | (refine Br.pre ?_; first | refine Br.ff rfl ?_) | (refine Ck.pre ?_; first | refine Ck.drawn (by kernel_rfl) ?_ | refine Ck.mk rfl ?_) | (refine LetL.pre ?_; first | refine LetL.mk _ rfl ?_) | (refine CallN.pre ?_; first | refine CallN.pure (of_f _) rfl rfl ?_ | refine CallN.pure (to_f _) rfl rfl ?_ | refine CallN.lendOwn 6 (hcF _) (.full rfl (pure_en _) hRR (.same rfl .nil)) rfl rfl rfl (plain_en _) ?_)))); (try (conv => whnf)))



    refine LoopN.weak (s1 := atB R G F a o k out g b gr (0, false)) ?sw8 ?_
    case sw8 => exact SW.mk (fun i => if i = 5 then 6 else i) rfl rfl (atNames _ _ _ _ _ (namesAll.row rfl (namesAll.row (pure_en _) rfl))) ⟨.refl _, .refl _, .refl _, .refl _, .refl _, .refl _, .refl _, .refl _, .refl _, .refl _, .refl _, trivial⟩ (haveV.row (pure_en _) rfl (haveV.row (pure_en _) rfl (haveV.row (pure_st _) rfl (haveV.row rfl rfl (haveV.row (pure_en _) rfl trivial)))))
    generalize hY : (F.any fun f => !liftedP R f.id a o) = Y at hst
    refine LoopN.ind T_ok mixed (S := atB R G F a o k out g b gr) (fun i => F.length - i.1) (fun i => i.1 ≤ F.length ∧ Y = (i.2 || (F.drop i.1).any fun f => !liftedP R f.id a o)) (fun _ => rfl) (fun i hi ihB => ?_) (0, false) ⟨Nat.zero_le _, by rw [← hY]; rfl⟩
    obtain ⟨i, v⟩ := i
    obtain ⟨g3, g4⟩ := hi
    simp only at g3 g4 ihB
    by_cases hiF : i < F.length
    case pos =>
      have hldf : en (F.getD i e0) = Am.part true 15 0 15 ((F.map en).getD (0 + i) (.sc undef)) := getD_en hiF
      rw [any_drop _ hiF e0] at g4
      generalize F.getD i e0 = f at hldf g4
      have hL := Lifted_f R f.id a o {} (by omega)
      generalize liftedP R f.id a o = u at hL g4
      have hgo : Y = ((v || !u) || (F.drop (i + 1)).any fun f => !liftedP R f.id a o) := by rw [g4, Bool.or_assoc]
      clear g4 ih hc hc2 hcC hcF hs
      cases v with
      | true =>
        ((repeat ((conv => whnf); (first | (refine LetN.pre ?_; first | ((conv => arg 1; whnf); refine LetN.mk ?_)) | (refine As.pre ?_; first | refine As.mk rfl ?_ | (refine As.mk ?_ ?_; · ((repeat' (refine andT ?_ ?_)) <;> (first | rfl | assumption | exact decide_eq_true (by omega) | exact decide_eq_true (by dsimp only; omega) | exact decide_eq_true (by simp; omega) | (simp; done))))) | (refine LetV.pre ?_; first | refine LetV.mk (t := ety) _ hldf ?_ | refine LetV.mk (.sc (.bool _)) rfl ?_) | (refine LetI.pre ?_; first | refine LetI.wrap (by omega) (by omega) ?_) | (refine LetB.pre ?_; first | refine LetB.dect (by omega) ?_) | (refine Gd.pre ?_; first | refine Gd.pass rfl ?_) | (refine Br.pre ?_; first | refine Br.tt rfl ?_) | (refine Ck.pre ?_; first | refine Ck.mk rfl ?_) | (refine LetL.pre ?_; first | refine LetL.mk [_] rfl ?_)))); (try (conv => whnf)))
        refine LoopN.weak ?sw9 (ihB (i + 1, true) ⟨by omega, hgo⟩ (by omega))
        case sw9 => exact SW.mk id rfl rfl (atNames _ _ _ _ _ (namesAll.row rfl (namesAll.row (pure_en _) rfl))) ⟨.refl _, .refl _, .refl _, .refl _, .refl _, .refl _, .refl _, .refl _, .refl _, .refl _, VLe2.int (by omega), trivial⟩ (haveV.row (pure_en _) rfl (haveV.row (pure_en _) rfl (haveV.row (pure_st _) rfl (haveV.row rfl rfl (haveV.row (pure_en _) rfl trivial)))))
      | false =>
        ((repeat ((conv => whnf); (first | (refine LetN.pre ?_; first | ((conv => arg 1; whnf); refine LetN.mk ?_)) | (refine As.pre ?_; first | refine As.mk rfl ?_ | (refine As.mk ?_ ?_; · ((repeat' (refine andT ?_ ?_)) <;> (first | rfl | assumption | exact decide_eq_true (by omega) | exact decide_eq_true (by dsimp only; omega) | exact decide_eq_true (by simp; omega) | (simp; done))))) | (refine LetV.pre ?_; first | refine LetV.mk (t := ety) _ hldf ?_ | refine LetV.mk (.sc (.int _ _)) rfl ?_ | refine LetV.mk (.sc (.bool _)) rfl ?_) | (refine LetI.pre ?_; first | refine LetI.wrap (by omega) (by omega) ?_) | (refine LetB.pre ?_; first | refine LetB.dect (by omega) ?_) | (refine Gd.pre ?_; first | refine Gd.run rfl ?_) | (refine Br.pre ?_; first | refine Br.tt rfl ?_) | (refine Ck.pre ?_; first | refine Ck.mk rfl ?_) | (refine LetL.pre ?_; first | refine LetL.mk [_] rfl ?_) | (refine CallN.pre ?_; first | refine CallN.lend hL rfl (.full rfl (pure_en _) hRR (.same rfl (.same rfl (.same rfl .nil)))) ?_)))); (try (conv => whnf)))


        refine LoopN.weak ?sw10 (ihB (i + 1, !u) ⟨by omega, hgo⟩ (by omega))
        case sw10 => exact SW.mk id rfl rfl (atNames _ _ _ _ _ (namesAll.row rfl (namesAll.row (pure_en _) rfl))) ⟨.refl _, .refl _, .refl _, .refl _, .refl _, .refl _, .refl _, .refl _, .refl _, .refl _, VLe2.int (by omega), trivial⟩ (haveV.row (pure_en _) rfl (haveV.row (pure_en _) rfl (haveV.row (pure_st _) rfl (haveV.row rfl rfl (haveV.row (pure_en _) rfl trivial)))))
    case neg =>
      clear ihB
      rw [List.drop_eq_nil_of_le (by omega), List.any_nil, Bool.or_false] at g4
      rw [g4] at hst
      rw [hst] at hq
      have hr := room_st (n := out.length + 1) (by omega)
      have hol2 : (out.map stA).length = out.length := List.length_map _
      ((repeat ((conv => whnf); (first | (refine LetN.pre ?_; first | ((conv => arg 1; whnf); refine LetN.mk ?_)) | (refine As.pre ?_; first | refine As.mk rfl ?_ | (refine As.mk ?_ ?_; · ((repeat' (refine andT ?_ ?_)) <;> (first | rfl | assumption | exact decide_eq_true (by omega) | exact decide_eq_true (by dsimp only; omega) | exact decide_eq_true (by simp; omega) | (simp; done))))) | (refine LetV.pre ?_; first | refine LetV.mk (.agg _) rfl ?_) | (refine LetI.pre ?_; first | refine LetI.wrap (by omega) (by omega) ?_) | (refine LetB.pre ?_; first | refine LetB.decf (by omega) ?_) | (refine Br.pre ?_; first | refine Br.ff rfl ?_) | (refine Ck.pre ?_; first | refine Ck.mk rfl ?_) | (refine LetL.pre ?_; first | refine LetL.mk (ty := sty) _ (app_st out ⟨g.id, b, gr, v⟩ _ rfl) ?_)))); (try (conv => whnf)))

      refine LoopN.weak ?sw11 (ih (k + 1, out ++ [⟨g.id, b, gr, v⟩]) ⟨by omega, hq.symm⟩ (by omega))
      case sw11 => exact SW.mk (fun i => if i = 2 then 6 else i) rfl rfl (atNames _ _ _ _ _ rfl) ⟨.refl _, .refl _, .refl _, VLe2.slm_of (by simp), .refl _, .refl _, VLe2.int (by omega), trivial⟩ (haveV.row (pure_en _) rfl (haveV.row (pure_en _) rfl (haveV.row (pure_st _) rfl trivial)))
theorem At_f (l : List E) (a o : Int) (fl : Fl) (hl : l.length < 20) : AFun Try.prog 11 0 [.ro fl 15 (l.map en), int a, int o] [] (.ro {} 4 ((atP l a o).map stA)) [] :=
  AFun.frz1 (H := []) (At_s l a o fl hl) rfl (pure_st _) (by simp)
end En
end Go.Proofs.Ytjnohedknlibmaa
namespace Go.Proofs.Ytjnohedknlibmaa
open Go.Proofs.Ytjnohedknlibmaa.Am
namespace En
/-- Where an element is put in: behind the last one that isn't greater. -/
def posB {α : Type} (gt : α → Bool) (d : α) (out : List α) : Nat → Nat
  | 0 => 0
  | k + 1 => if gt (out.getD k d) then posB gt d out k else k + 1
theorem posB_le {α : Type} (gt : α → Bool) (d : α) (out : List α) : ∀ k, posB gt d out k ≤ k
  | 0 => Nat.le_refl _
  | k + 1 => by
    unfold posB
    split
    · have := posB_le gt d out k; omega
    · exact Nat.le_refl _
def putB {α : Type} (gt : α → Bool) (d : α) (out : List α) (e : α) : List α := out.take (posB gt d out out.length) ++ e :: out.drop (posB gt d out out.length)
def insId (out : List E) (e : E) : List E := putB (fun x => decide (e.id < x.id)) e0 out e
theorem insId_length (out : List E) (e : E) : (insId out e).length = out.length + 1 := by
  have := posB_le (fun x => decide (e.id < x.id)) e0 out out.length
  simp only [insId, putB, List.length_append, List.length_take, List.length_cons, List.length_drop]
  omega
def cntQ (kd a o : Int) (e : E) : Bool := decide (e.kind = kd ∧ e.day ≤ a ∧ e.on_ ≤ o)
/-- The entries of a kind that count, in the order of their Ids. -/
def countP (l : List E) (kd a o : Int) : List E := (l.filter (cntQ kd a o)).foldl insId []
theorem foldl_ins_length {α : Type} (f : List α → α → List α) (h : ∀ out e, (f out e).length = out.length + 1) : ∀ (l out : List α), (l.foldl f out).length = out.length + l.length
  | [], out => rfl
  | x :: l, out => by rw [List.foldl_cons, foldl_ins_length f h l, h]; simp; omega
theorem countP_length (l : List E) (kd a o : Int) : (countP l kd a o).length ≤ l.length := by
  rw [countP, foldl_ins_length insId insId_length]
  simpa using List.length_filter_le (cntQ kd a o) l
theorem foldl_filter_drop {α β : Type} (q : α → Bool) (f : β → α → β) {l : List α} {k : Nat} (h : k < l.length) (d : α) (x : β) : ((l.drop k).filter q).foldl f x = if q (l.getD k d) then ((l.drop (k + 1)).filter q).foldl f (f x (l.getD k d)) else ((l.drop (k + 1)).filter q).foldl f x := by
  rw [List.drop_eq_getElem_cons h, List.getD_eq_getElem?_getD, List.getElem?_eq_getElem h]
  simp only [Option.getD_some, List.filter_cons]
  split <;> rfl
theorem getD_id {l : List E} {k : Nat} (h : k < l.length) : int (l.getD k e0).id = Am.part false 1 0 15 ((l.map en).getD (0 + k) (.sc undef)) := by
  rw [Nat.zero_add, List.getD_eq_getElem?_getD, List.getD_eq_getElem?_getD, List.getElem?_map, List.getElem?_eq_getElem h]; rfl
theorem copy_row (out : List E) (p x y z w : Nat) (hx : x = p + 1) (hw : w = p) (hy : y = out.length - p) (hz : z = out.length + 1 - p) (hp : p ≤ out.length) :
    ((out ++ [e0]).take (p + 1) ++ out.drop p).map en = splice ((out ++ [e0]).map en) x (((((out ++ [e0]).map en).drop w).take z).take y) := by
  subst hx hw hy hz
  have hM : ((((out ++ [e0]).map en).drop w).take (out.length + 1 - w)).take (out.length - w) = (out.drop w).map en := by
    rw [List.take_take, Nat.min_eq_left (by omega), ← List.map_drop, ← List.map_take, List.drop_append_of_le_length hp, List.take_append_of_le_length (by simp), List.take_of_length_le (by simp)]
  rw [hM]
  unfold splice
  rw [List.drop_eq_nil_of_le (i := w + 1 + _) (by simp; omega), List.append_nil, List.map_append, List.map_take]
theorem set_row (out : List E) (p : Nat) (e : E) (hp : p ≤ out.length) : (out.take p ++ e :: out.drop p).map en = (((out ++ [e0]).take (p + 1) ++ out.drop p).map en).set (0 + p) (en e) := by
  rw [Nat.zero_add, ← List.map_set]
  congr 1
  have hlt : p < (out ++ [e0]).length := by simp; omega
  rw [List.take_succ_eq_append_getElem hlt, List.append_assoc, List.take_append_of_le_length hp, List.set_append_right _ _ (by simp; omega), List.length_take, Nat.min_eq_left hp, Nat.sub_self]
  rfl
abbrev couS (l : List E) (fl : Fl) (kd a o : Int) : Nat × List E → AS
  | (k, out) => ⟨[(0, .ro fl 15 (l.map en)), (1, int kd), (2, int a), (3, int o), (9, .slm {} 0 15 0 out.length), (10, int k)], [(0, .row 15 ety (out.map en))], 1⟩
abbrev couI (l : List E) (fl : Fl) (kd a o : Int) (k : Nat) (out : List E) (e : E) : Nat → AS
  | at_ => ⟨[(0, .ro fl 15 (l.map en)), (1, int kd), (2, int a), (3, int o), (9, .slm {} 0 15 0 out.length), (10, int k), (11, .ptr 1 15 0 0), (12, int at_)], [(0, .row 15 ety (out.map en)), (1, .row 15 ety [en e])], 2⟩
set_option maxRecDepth 100000 in
theorem counting_s (l : List E) (kd a o : Int) (fl : Fl) (hl : l.length ≤ 100000) : AFun Try.prog 65 0 [.ro fl 15 (l.map en), int kd, int a, int o] [] (.slm {} 0 15 0 (countP l kd a o).length) [(0, .row 15 ety ((countP l kd a o).map en))] := by
  refine AFun.of_S T_ok mixed Try.func65 rfl (Nat.le_of_ble_eq_true rfl) rfl ?_
  unfold countP
  generalize hR : (l.filter (cntQ kd a o)).foldl insId [] = R
  ((repeat ((conv => whnf); (first | (refine As.pre ?_; first | refine As.mk rfl ?_) | (refine Ck.pre ?_; first | refine Ck.mk rfl ?_)))); (try (conv => whnf)))
  refine LoopN.weak (s1 := couS l fl kd a o (0, [])) ?sw1 ?_
  case sw1 => exact SW.mk (fun _ => 0) rfl rfl rfl ⟨.refl _, .refl _, .refl _, .refl _, VLe2.nilslm, .refl _, trivial⟩ (haveV.nil (Nat.le_refl _) trivial)
  refine LoopN.ind T_ok mixed (S := couS l fl kd a o) (fun i => l.length - i.1) (fun i => i.1 ≤ l.length ∧ i.2.length ≤ i.1 ∧ R = ((l.drop i.1).filter (cntQ kd a o)).foldl insId i.2) (fun _ => rfl) (fun i hi ih => ?_) (0, []) ⟨Nat.zero_le _, Nat.zero_le _, hR.symm⟩
  obtain ⟨k, out⟩ := i
  obtain ⟨h1, h0, h2⟩ := hi
  simp only at h0 h1 h2 ih
  have hcl : (l.map en).length = l.length := List.length_map _
  by_cases hlt : k < l.length
  case neg =>
    rw [List.drop_eq_nil_of_le (by omega)] at h2
    simp only [List.filter_nil, List.foldl_nil] at h2
    rw [h2]
    clear ih
    ((repeat ((conv => whnf); (first | (refine As.pre ?_; first | refine As.mk rfl ?_) | (refine LetI.pre ?_; first | refine LetI.mk _ rfl ?_) | (refine LetB.pre ?_; first | refine LetB.decf (by omega) ?_) | (refine Br.pre ?_; first | refine Br.ff rfl ?_) | (refine Ck.pre ?_; first | refine Ck.mk rfl ?_)))); (try (conv => whnf)))
    exact ⟨⟨[(8, .slm {} 0 15 0 out.length)], [(0, .row 15 ety (out.map en))], 1⟩, SW.mk id rfl rfl (namesAll.row (pure_en _) rfl) ⟨.refl _, trivial⟩ (haveV.row (pure_en _) rfl trivial), .inl rfl, ⟨_, rfl, rfl⟩, rfl, trivial⟩
  have hld : en (l.getD k e0) = (l.map en).getD k (.sc undef) := mapD e0 hlt
  rw [foldl_filter_drop _ _ hlt e0] at h2
  generalize l.getD k e0 = e at hld h2
  by_cases hq : e.kind = kd ∧ e.day ≤ a ∧ e.on_ ≤ o
  case neg =>
    rw [if_neg (by simpa [cntQ] using hq)] at h2
    have next := ih (k + 1, out) ⟨by omega, by show out.length ≤ k + 1; omega, h2⟩ (by show l.length - (k + 1) < l.length - k; omega)
    clear ih
    by_cases c1 : e.kind = kd
    · by_cases c2 : e.day ≤ a
      · have c3 : ¬ e.on_ ≤ o := fun h => hq ⟨c1, c2, h⟩
        ((repeat ((conv => whnf); (first | (refine LetN.pre ?_; first | ((conv => arg 1; whnf); refine LetN.mk ?_)) | (refine As.pre ?_; first | refine As.mk rfl ?_ | (refine As.mk ?_ ?_; · ((repeat' (refine andT ?_ ?_)) <;> (first | rfl | assumption | exact decide_eq_true (by omega) | exact decide_eq_true (by dsimp only; omega) | exact decide_eq_true (by simp; omega) | (simp; done))))) | (refine LetV.pre ?_; first | refine LetV.mk (t := 29) _ hld ?_ | refine LetV.mk (.sc (.int _ _)) rfl ?_ | refine LetV.mk (.agg _) rfl ?_) | (refine LetI.pre ?_; first | refine LetI.wrap (by omega) (by omega) ?_ | refine LetI.mk _ rfl ?_) | (refine LetB.pre ?_; first | refine LetB.dect (by omega) ?_ | refine LetB.decf (by omega) ?_ | refine LetB.bnef (by omega) ?_) | (refine Gd.pre ?_; first | refine Gd.run rfl ?_) | (refine Br.pre ?_; first | refine Br.tt rfl ?_) | (refine Ck.pre ?_; first | refine Ck.mk rfl ?_) | (refine LetL.pre ?_; first | refine LetL.mk [_] rfl ?_)))); (try (conv => whnf)))
        refine LoopN.weak ?sw2 next
        case sw2 => exact SW.mk id rfl rfl (namesAll.row (pure_en _) rfl) ⟨.refl _, .refl _, .refl _, .refl _, .refl _, VLe2.int (by omega), trivial⟩ (haveV.row (pure_en _) rfl trivial)
      · ((repeat ((conv => whnf); (first | (refine LetN.pre ?_; first | ((conv => arg 1; whnf); refine LetN.mk ?_)) | (refine As.pre ?_; first | refine As.mk rfl ?_ | (refine As.mk ?_ ?_; · ((repeat' (refine andT ?_ ?_)) <;> (first | rfl | assumption | exact decide_eq_true (by omega) | exact decide_eq_true (by dsimp only; omega) | exact decide_eq_true (by simp; omega) | (simp; done))))) | (refine LetV.pre ?_; first | refine LetV.mk (t := 29) _ hld ?_ | refine LetV.mk (.sc (.int _ _)) rfl ?_ | refine LetV.mk (.agg _) rfl ?_) | (refine LetI.pre ?_; first | refine LetI.wrap (by omega) (by omega) ?_ | refine LetI.mk _ rfl ?_) | (refine LetB.pre ?_; first | refine LetB.dect (by omega) ?_ | refine LetB.bnef (by omega) ?_) | (refine Gd.pre ?_; first | refine Gd.run rfl ?_ | refine Gd.pass rfl ?_) | (refine Br.pre ?_; first | refine Br.tt rfl ?_) | (refine Ck.pre ?_; first | refine Ck.mk rfl ?_) | (refine LetL.pre ?_; first | refine LetL.mk [_] rfl ?_)))); (try (conv => whnf)))
        refine LoopN.weak ?sw3 next
        case sw3 => exact SW.mk id rfl rfl (namesAll.row (pure_en _) rfl) ⟨.refl _, .refl _, .refl _, .refl _, .refl _, VLe2.int (by omega), trivial⟩ (haveV.row (pure_en _) rfl trivial)
    · ((repeat ((conv => whnf); (first | (refine LetN.pre ?_; first | ((conv => arg 1; whnf); refine LetN.mk ?_)) | (refine As.pre ?_; first | refine As.mk rfl ?_ | (refine As.mk ?_ ?_; · ((repeat' (refine andT ?_ ?_)) <;> (first | rfl | assumption | exact decide_eq_true (by omega) | exact decide_eq_true (by dsimp only; omega) | exact decide_eq_true (by simp; omega) | (simp; done))))) | (refine LetV.pre ?_; first | refine LetV.mk (t := 29) _ hld ?_ | refine LetV.mk (.sc (.int _ _)) rfl ?_ | refine LetV.mk (.agg _) rfl ?_) | (refine LetI.pre ?_; first | refine LetI.wrap (by omega) (by omega) ?_ | refine LetI.mk _ rfl ?_) | (refine LetB.pre ?_; first | refine LetB.dect (by omega) ?_ | refine LetB.bnet (by omega) ?_) | (refine Gd.pre ?_; first | refine Gd.pass rfl ?_) | (refine Br.pre ?_; first | refine Br.tt rfl ?_) | (refine Ck.pre ?_; first | refine Ck.mk rfl ?_) | (refine LetL.pre ?_; first | refine LetL.mk [_] rfl ?_)))); (try (conv => whnf)))
      refine LoopN.weak ?sw4 next
      case sw4 => exact SW.mk id rfl rfl (namesAll.row (pure_en _) rfl) ⟨.refl _, .refl _, .refl _, .refl _, .refl _, VLe2.int (by omega), trivial⟩ (haveV.row (pure_en _) rfl trivial)
  case pos =>
    rw [if_pos (by simpa [cntQ] using hq)] at h2
    have hil := insId_length out e
    have next := ih (k + 1, insId out e) ⟨by omega, by show (insId out e).length ≤ k + 1; omega, h2⟩ (by show l.length - (k + 1) < l.length - k; omega)
    rw [insId, putB] at next
    have hple := posB_le (fun x => decide (e.id < x.id)) e0 out out.length
    generalize hp : posB (fun x => decide (e.id < x.id)) e0 out out.length = p at next hple
    clear ih h2 hil hR
    obtain ⟨c1, c2, c3⟩ := hq
    ((repeat ((conv => whnf); (first | (refine LetN.pre ?_; first | ((conv => arg 1; whnf); refine LetN.mk ?_)) | (refine As.pre ?_; first | refine As.mk rfl ?_ | (refine As.mk ?_ ?_; · ((repeat' (refine andT ?_ ?_)) <;> (first | rfl | assumption | exact decide_eq_true (by omega) | exact decide_eq_true (by dsimp only; omega) | exact decide_eq_true (by simp; omega) | (simp; done))))) | (refine LetV.pre ?_; first | refine LetV.mk (t := 29) _ hld ?_ | refine LetV.mk (.sc (.int _ _)) rfl ?_ | refine LetV.mk (.agg _) rfl ?_) | (refine LetI.pre ?_; first | refine LetI.mk _ rfl ?_) | (refine LetB.pre ?_; first | refine LetB.dect (by omega) ?_ | refine LetB.decf (by omega) ?_ | refine LetB.bnef (by omega) ?_) | (refine Gd.pre ?_; first | refine Gd.run rfl ?_) | (refine Br.pre ?_; first | refine Br.tt rfl ?_ | refine Br.ff rfl ?_) | (refine Ck.pre ?_; first | refine Ck.mk rfl ?_) | (refine LetL.pre ?_; first | refine LetL.mk [_] rfl ?_)))); (try (conv => whnf)))
    refine LoopN.weak (s1 := couI l fl kd a o k out e out.length) ?sw5 ?_
    case sw5 => exact SW.mk id rfl rfl (namesAll.row (pure_en _) (namesAll.row rfl rfl)) ⟨.refl _, .refl _, .refl _, .refl _, .refl _, .refl _, .refl _, .refl _, trivial⟩ (haveV.row (pure_en _) rfl (haveV.row rfl rfl trivial))
    refine LoopN.ind T_ok mixed (S := couI l fl kd a o k out e) (fun i => i) (fun i => i ≤ out.length ∧ p = posB (fun x => decide (e.id < x.id)) e0 out i) (fun _ => rfl) (fun i hi ih2 => ?_) out.length ⟨Nat.le_refl _, hp.symm⟩
    obtain ⟨g1, g2⟩ := hi
    have hom : (out.map en).length = out.length := List.length_map _
    have hr := room_en (n := out.length + 1) (by omega)
    cases i with
    | zero =>
      clear ih2
      rw [posB] at g2
      subst g2
      ((repeat ((conv => whnf); (first | (refine LetN.pre ?_; first | ((conv => arg 1; whnf); refine LetN.mk ?_)) | (refine As.pre ?_; first | refine As.mk rfl ?_ | (refine As.mk ?_ ?_; · ((repeat' (refine andT ?_ ?_)) <;> (first | rfl | exact stor_en _ _ _ | exact decide_eq_true (by simp; omega) | (simp; done))))) | (refine LetV.pre ?_; first | refine LetV.mk (.agg _) rfl ?_ | refine LetV.mk (.slm _ _ _ _ _) rfl ?_) | (refine LetI.pre ?_; first | refine LetI.wrap (by omega) (by omega) ?_ | refine LetI.mk _ rfl ?_) | (refine LetB.pre ?_; first | refine LetB.ff rfl ?_) | (refine Gd.pre ?_; first | refine Gd.pass rfl ?_) | (refine Br.pre ?_; first | refine Br.ff rfl ?_) | (refine Ck.pre ?_; first | refine Ck.drawn (by kernel_rfl) ?_ | refine Ck.mk rfl ?_) | (refine LetL.pre ?_; first | refine LetL.mk (ty := ety) _ (app_en out e0 _ rfl) ?_ | (refine LetL.mk (ty := ety) _ (copy_row out (0) _ _ _ _ ?_ ?_ ?_ ?_ hple) ?_; iterate 4 (· (first | (simp; done) | (simp; omega)))) | refine LetL.mk (ty := ety) _ (set_row out (0) e hple) ?_)))); (try (conv => whnf)))




      refine LoopN.weak ?sw6 next
      case sw6 => exact SW.mk (fun _ => 2) rfl rfl (namesAll.row (pure_en _) rfl) ⟨.refl _, .refl _, .refl _, .refl _, VLe2.slm_of (by first | (simp; done) | (simp; omega)), VLe2.int (by omega), trivial⟩ (haveV.row (pure_en _) rfl trivial)
    | succ j =>
      rw [posB] at g2
      have hld1 : en (out.getD j e0) = Am.part true 15 0 15 ((out.map en).getD (0 + j) (.sc undef)) := getD_en (by omega)
      have hidv : int (out.getD j e0).id = Am.part false 1 0 15 ((out.map en).getD (0 + j) (.sc undef)) := getD_id (by omega)
      have hsub : (j : Int) = IntKind.i64.wrap (((j + 1 : Nat) : Int) - 1) := by
        rw [wrap_id (by omega) (by omega)]; omega
      generalize out.getD j e0 = b at hld1 hidv g2
      by_cases hg : e.id < b.id
      · simp only [hg, decide_true, if_true] at g2
        have next2 := ih2 j ⟨by omega, g2⟩ (by show j < j + 1; omega)
        clear ih2 next
        ((repeat ((conv => whnf); (first | (refine As.pre ?_; first | refine As.mk rfl ?_ | (refine As.mk ?_ ?_; · ((repeat' (refine andT ?_ ?_)) <;> (first | rfl | assumption | exact decide_eq_true (by omega) | exact decide_eq_true (by dsimp only; omega) | exact decide_eq_true (by simp; omega) | (simp; done))))) | (refine LetV.pre ?_; first | refine LetV.mk (t := 3) _ hidv ?_ | refine LetV.mk (.sc (.int _ _)) rfl ?_) | (refine LetI.pre ?_; first | refine LetI.mk (o := some .sub) (j : Int) hsub ?_) | (refine LetB.pre ?_; first | refine LetB.dect (by omega) ?_) | (refine Gd.pre ?_; first | refine Gd.run rfl ?_) | (refine Br.pre ?_; first | refine Br.tt rfl ?_) | (refine Ck.pre ?_; first | refine Ck.drawn (by kernel_rfl) ?_ | refine Ck.mk rfl ?_)))); (try (conv => whnf)))


        refine LoopN.weak ?sw7 next2
        case sw7 => exact SW.mk id rfl rfl (namesAll.row (pure_en _) (namesAll.row rfl rfl)) ⟨.refl _, .refl _, .refl _, .refl _, .refl _, .refl _, .refl _, .refl _, trivial⟩ (haveV.row (pure_en _) rfl (haveV.row rfl rfl trivial))
      · simp only [hg, decide_false, Bool.false_eq_true, if_false] at g2
        subst g2
        clear ih2
        ((repeat ((conv => whnf); (first | (refine LetN.pre ?_; first | ((conv => arg 1; whnf); refine LetN.mk ?_)) | (refine As.pre ?_; first | refine As.mk rfl ?_ | (refine As.mk ?_ ?_; · ((repeat' (refine andT ?_ ?_)) <;> (first | rfl | exact stor_en _ _ _ | exact decide_eq_true (by simp; omega) | (simp; done))))) | (refine LetV.pre ?_; first | refine LetV.mk (t := 3) _ hidv ?_ | refine LetV.mk (.sc (.int _ _)) rfl ?_ | refine LetV.mk (.agg _) rfl ?_ | refine LetV.mk (.slm _ _ _ _ _) rfl ?_) | (refine LetI.pre ?_; first | refine LetI.mk (o := some .sub) (j : Int) hsub ?_ | refine LetI.wrap (by omega) (by omega) ?_ | refine LetI.mk _ rfl ?_) | (refine LetB.pre ?_; first | refine LetB.dect (by omega) ?_ | refine LetB.decf (by omega) ?_) | (refine Gd.pre ?_; first | refine Gd.run rfl ?_) | (refine Br.pre ?_; first | refine Br.ff rfl ?_) | (refine Ck.pre ?_; first | refine Ck.drawn (by kernel_rfl) ?_ | refine Ck.mk rfl ?_) | (refine LetL.pre ?_; first | refine LetL.mk (ty := ety) _ (app_en out e0 _ rfl) ?_ | (refine LetL.mk (ty := ety) _ (copy_row out (j + 1) _ _ _ _ ?_ ?_ ?_ ?_ hple) ?_; iterate 4 (· (first | (simp; done) | (simp; omega)))) | refine LetL.mk (ty := ety) _ (set_row out (j + 1) e hple) ?_)))); (try (conv => whnf)))






        refine LoopN.weak ?sw8 next
        case sw8 => exact SW.mk (fun _ => 2) rfl rfl (namesAll.row (pure_en _) rfl) ⟨.refl _, .refl _, .refl _, .refl _, VLe2.slm_of (by first | (simp; done) | (simp; omega)), VLe2.int (by omega), trivial⟩ (haveV.row (pure_en _) rfl trivial)
theorem counting_f (l : List E) (kd a o : Int) (fl : Fl) (hl : l.length ≤ 100000) : AFun Try.prog 65 0 [.ro fl 15 (l.map en), int kd, int a, int o] [] (.ro {} 15 ((countP l kd a o).map en)) [] :=
  AFun.frz1 (H := []) (counting_s l kd a o fl hl) rfl (pure_en _) (by simp)
end En
end Go.Proofs.Ytjnohedknlibmaa
namespace Go.Proofs.Ytjnohedknlibmaa
open Go.Proofs.Ytjnohedknlibmaa.Am
namespace En
/-! ### Lifted -/
def rLiftedP (l : List E) (f a o : Int) : Bool := (countP l 6 a o).any fun e => decide (e.ref = f)
theorem rLifted_f (l : List E) (f a o : Int) (fl : Fl) (hl : l.length ≤ 100000) : AFun Try.prog 43 0 [.ro fl 15 (l.map en), int f, int a, int o] [] (bool (rLiftedP l f a o)) [] := by
  refine AFun.of_W T_ok mixed Try.func43 rfl (Nat.le_of_ble_eq_true rfl) rfl ?_
  have hc := counting_f l 6 a o fl hl
  have hcl := countP_length l 6 a o
  unfold rLiftedP
  generalize countP l 6 a o = C at hc hcl ⊢
  generalize hR : (C.any fun e => decide (e.ref = f)) = R
  ((repeat ((conv => whnf); (first | (refine As.pre ?_; first | refine As.mk rfl ?_) | (refine Ck.pre ?_; first | refine Ck.mk rfl ?_) | (refine CallN.pre ?_; first | refine CallN.pure hc rfl rfl ?_)))); (try (conv => whnf)))
  refine LoopN.weak (s1 := ⟨[(1, int f), (9, .ro {} 15 (C.map en)), (10, int (0 : Nat))], [], 0⟩) (SW.fr0 (Nat.le_refl _) rfl ⟨.refl _, .refl _, .refl _, trivial⟩) ?_
  refine LoopN.ind T_ok mixed (S := fun k : Nat => ⟨[(1, int f), (9, .ro {} 15 (C.map en)), (10, int k)], [], 0⟩) (fun k => C.length - k) (fun k => k ≤ C.length ∧ R = (C.drop k).any fun e => decide (e.ref = f)) (fun _ => rfl) (fun k hk ih => ?_) 0 ⟨Nat.zero_le _, hR.symm⟩
  obtain ⟨h1, h2⟩ := hk
  have hm : (C.map en).length = C.length := List.length_map _
  by_cases hlt : k < C.length
  case neg =>
    rw [List.drop_eq_nil_of_le (by omega)] at h2
    rw [h2]
    clear ih
    ((repeat ((conv => whnf); (first | (refine As.pre ?_; first | refine As.mk rfl ?_) | (refine LetI.pre ?_; first | refine LetI.mk _ rfl ?_) | (refine LetB.pre ?_; first | refine LetB.decf (by omega) ?_) | (refine Br.pre ?_; first | refine Br.ff rfl ?_) | (refine Ck.pre ?_; first | refine Ck.mk rfl ?_)))); (try (conv => whnf)))
    exact ⟨.inl rfl, ⟨_, rfl, rfl⟩, trivial⟩
  have hld : en (C.getD k e0) = (C.map en).getD k (.sc undef) := mapD e0 hlt
  rw [any_drop _ hlt e0] at h2
  generalize C.getD k e0 = e at hld h2
  by_cases he : e.ref = f
  · rw [decide_eq_true he, Bool.true_or] at h2
    rw [h2]
    clear ih
    ((repeat ((conv => whnf); (first | (refine As.pre ?_; first | refine As.mk rfl ?_ | (refine As.mk ?_ ?_; · ((repeat' (refine andT ?_ ?_)) <;> (first | rfl | assumption | exact decide_eq_true (by omega) | exact decide_eq_true (by dsimp only; omega) | exact decide_eq_true (by simp; omega) | (simp; done))))) | (refine LetV.pre ?_; first | refine LetV.mk (t := 29) _ hld ?_ | refine LetV.mk (.sc (.int _ _)) rfl ?_) | (refine LetI.pre ?_; first | refine LetI.mk _ rfl ?_) | (refine LetB.pre ?_; first | refine LetB.dect (by omega) ?_) | (refine Br.pre ?_; first | refine Br.tt rfl ?_) | (refine Ck.pre ?_; first | refine Ck.mk rfl ?_)))); (try (conv => whnf)))
    exact ⟨.inl rfl, ⟨_, rfl, rfl⟩, trivial⟩
  · rw [decide_eq_false he, Bool.false_or] at h2
    ((repeat ((conv => whnf); (first | (refine As.pre ?_; first | refine As.mk rfl ?_ | (refine As.mk ?_ ?_; · ((repeat' (refine andT ?_ ?_)) <;> (first | rfl | assumption | exact decide_eq_true (by omega) | exact decide_eq_true (by dsimp only; omega) | exact decide_eq_true (by simp; omega) | (simp; done))))) | (refine LetV.pre ?_; first | refine LetV.mk (t := 29) _ hld ?_ | refine LetV.mk (.sc (.int _ _)) rfl ?_) | (refine LetI.pre ?_; first | refine LetI.wrap (by omega) (by omega) ?_ | refine LetI.mk _ rfl ?_) | (refine LetB.pre ?_; first | refine LetB.dect (by omega) ?_ | refine LetB.decf (by omega) ?_) | (refine Br.pre ?_; first | refine Br.tt rfl ?_ | refine Br.ff rfl ?_) | (refine Ck.pre ?_; first | refine Ck.mk rfl ?_)))); (try (conv => whnf)))
    refine LoopN.weak ?_ (ih (k + 1) ⟨by omega, h2⟩ (by omega))
    exact SW.fr0 (Nat.le_refl _) rfl ⟨.refl _, .refl _, VLe2.int (by omega), trivial⟩
/-! ### Known -/
abbrev rknS (l : List E) (fl : Fl) (a : Int) : Nat × List E → AS
  | (k, out) => ⟨[(0, .ro fl 15 (l.map en)), (1, int a), (5, .slm {} 0 15 0 out.length), (6, int k)], [(0, .row 15 ety (out.map en))], 1⟩
theorem rKnown_s (l : List E) (a : Int) (fl : Fl) (hl : l.length ≤ 100000) : AFun Try.prog 40 0 [.ro fl 15 (l.map en), int a] [] (.slm {} 0 15 0 (knownP l a).length) [(0, .row 15 ety ((knownP l a).map en))] := by
  refine AFun.of_S T_ok mixed Try.func40 rfl (Nat.le_of_ble_eq_true rfl) rfl ?_
  ((repeat ((conv => whnf); (first | (refine As.pre ?_; first | refine As.mk rfl ?_) | (refine Ck.pre ?_; first | refine Ck.mk rfl ?_)))); (try (conv => whnf)))
  refine LoopN.weak (s1 := rknS l fl a (0, [])) ?sw1 ?_
  case sw1 => exact SW.mk id rfl rfl rfl ⟨.refl _, .refl _, VLe2.nilslm, .refl _, trivial⟩ (haveV.nil (Nat.le_refl _) trivial)
  refine LoopN.ind T_ok mixed (S := rknS l fl a) (fun i => l.length - i.1) (fun i => i.1 ≤ l.length ∧ i.2 = (l.take i.1).filter fun e => decide (e.day ≤ a)) (fun _ => rfl) (fun i hi ih => ?_) (0, []) ⟨Nat.zero_le _, rfl⟩
  obtain ⟨k, out⟩ := i
  obtain ⟨h1, h2⟩ := hi
  simp only at h1 h2 ih
  have hcl : (l.map en).length = l.length := List.length_map _
  by_cases hlt : k < l.length
  case neg =>
    have hk : k = l.length := by omega
    subst hk
    rw [List.take_length] at h2
    subst h2
    clear ih
    ((repeat ((conv => whnf); (first | (refine As.pre ?_; first | refine As.mk rfl ?_) | (refine LetI.pre ?_; first | refine LetI.mk _ rfl ?_) | (refine LetB.pre ?_; first | refine LetB.decf (by omega) ?_) | (refine Br.pre ?_; first | refine Br.ff rfl ?_) | (refine Ck.pre ?_; first | refine Ck.mk rfl ?_)))); (try (conv => whnf)))
    exact ⟨⟨[(4, .slm {} 0 15 0 (knownP l a).length)], [(0, .row 15 ety ((knownP l a).map en))], 1⟩, SW.mk id rfl rfl (namesAll.row (pure_en _) rfl) ⟨.refl _, trivial⟩ (haveV.row (pure_en _) rfl trivial), .inl rfl, ⟨_, rfl, rfl⟩, rfl, trivial⟩
  have hld : en (l.getD k e0) = (l.map en).getD k (.sc undef) := mapD e0 hlt
  have hq := filt_succ (q := fun e : E => decide (e.day ≤ a)) hlt e0
  rw [← h2] at hq
  have hol : out.length ≤ 100000 := by
    rw [h2]
    have := List.length_filter_le (fun e : E => decide (e.day ≤ a)) (l.take k)
    simp only [List.length_take] at this
    omega
  clear h2
  generalize l.getD k e0 = e at hld hq
  have hr := room_en (n := out.length + 1) (by omega)
  have hol2 : (out.map en).length = out.length := List.length_map _
  by_cases hp : e.day ≤ a
  · simp only [hp, decide_true, if_true] at hq
    ((repeat ((conv => whnf); (first | (refine LetN.pre ?_; first | ((conv => arg 1; whnf); refine LetN.mk ?_)) | (refine As.pre ?_; first | refine As.mk rfl ?_ | (refine As.mk ?_ ?_; · ((repeat' (refine andT ?_ ?_)) <;> (first | rfl | assumption | exact decide_eq_true (by omega) | exact decide_eq_true (by dsimp only; omega) | exact decide_eq_true (by simp; omega) | (simp; done))))) | (refine LetV.pre ?_; first | refine LetV.mk (t := 29) _ hld ?_ | refine LetV.mk (.sc (.int _ _)) rfl ?_ | refine LetV.mk (.agg _) rfl ?_) | (refine LetI.pre ?_; first | refine LetI.wrap (by omega) (by omega) ?_ | refine LetI.mk _ rfl ?_) | (refine LetB.pre ?_; first | refine LetB.dect (by omega) ?_) | (refine Br.pre ?_; first | refine Br.tt rfl ?_) | (refine Ck.pre ?_; first | refine Ck.mk rfl ?_) | (refine LetL.pre ?_; first | refine LetL.mk (ty := ety) _ (app_en out e _ rfl) ?_)))); (try (conv => whnf)))


    refine LoopN.weak ?sw2 (ih (k + 1, out ++ [e]) ⟨by omega, hq.symm⟩ (by omega))
    case sw2 => exact SW.mk (fun _ => 1) rfl rfl (namesAll.row (pure_en _) rfl) ⟨.refl _, .refl _, VLe2.slm_of (by simp), VLe2.int (by omega), trivial⟩ (haveV.row (pure_en _) rfl trivial)
  · simp only [hp, decide_false, Bool.false_eq_true, if_false, List.append_nil] at hq
    ((repeat ((conv => whnf); (first | (refine As.pre ?_; first | refine As.mk rfl ?_ | (refine As.mk ?_ ?_; · ((repeat' (refine andT ?_ ?_)) <;> (first | rfl | assumption | exact decide_eq_true (by omega) | exact decide_eq_true (by dsimp only; omega) | exact decide_eq_true (by simp; omega) | (simp; done))))) | (refine LetV.pre ?_; first | refine LetV.mk (t := 29) _ hld ?_ | refine LetV.mk (.sc (.int _ _)) rfl ?_) | (refine LetI.pre ?_; first | refine LetI.wrap (by omega) (by omega) ?_ | refine LetI.mk _ rfl ?_) | (refine LetB.pre ?_; first | refine LetB.dect (by omega) ?_ | refine LetB.decf (by omega) ?_) | (refine Br.pre ?_; first | refine Br.tt rfl ?_ | refine Br.ff rfl ?_) | (refine Ck.pre ?_; first | refine Ck.mk rfl ?_)))); (try (conv => whnf)))
    refine LoopN.weak ?sw3 (ih (k + 1, out) ⟨by omega, hq.symm⟩ (by omega))
    case sw3 => exact SW.mk id rfl rfl (namesAll.row (pure_en _) rfl) ⟨.refl _, .refl _, .refl _, VLe2.int (by omega), trivial⟩ (haveV.row (pure_en _) rfl trivial)
theorem rKnown_f (l : List E) (a : Int) (fl : Fl) (hl : l.length ≤ 100000) : AFun Try.prog 40 0 [.ro fl 15 (l.map en), int a] [] (.ro {} 15 ((knownP l a).map en)) [] :=
  AFun.frz1 (H := []) (rKnown_s l a fl hl) rfl (pure_en _) (by simp)
/-! ### Awards -/
def rAwardsP (l : List E) (a o : Int) : List E := (countP l 8 a o).filter fun e => !((countP l 9 a o).any fun x => decide (x.ref = e.id))
abbrev rawS (A B : List E) : Nat × List E → AS
  | (k, out) => ⟨[(7, .ro {} 15 (A.map en)), (8, .ro {} 15 (B.map en)), (9, .slm {} 0 15 0 out.length), (10, int k)], [(0, .row 15 ety (out.map en))], 1⟩
abbrev rawI (A B : List E) (k : Nat) (out : List E) : Nat × Bool → AS
  | (i, v) => ⟨[(7, .ro {} 15 (A.map en)), (8, .ro {} 15 (B.map en)), (9, .slm {} 0 15 0 out.length), (10, int k), (11, bool v), (12, int i)], [(0, .row 15 ety (out.map en))], 1⟩
theorem rAwards_s (l : List E) (a o : Int) (fl : Fl) (hl : l.length ≤ 100000) : AFun Try.prog 42 0 [.ro fl 15 (l.map en), int a, int o] [] (.slm {} 0 15 0 (rAwardsP l a o).length) [(0, .row 15 ety ((rAwardsP l a o).map en))] := by
  refine AFun.of_S T_ok mixed Try.func42 rfl (Nat.le_of_ble_eq_true rfl) rfl ?_
  have hc := counting_f l 8 a o fl hl
  have hcl := countP_length l 8 a o
  have hd := counting_f l 9 a o fl hl
  have hdl := countP_length l 9 a o
  unfold rAwardsP
  generalize countP l 8 a o = A at hc hcl ⊢
  generalize countP l 9 a o = B at hd hdl ⊢
  ((repeat ((conv => whnf); (first | (refine As.pre ?_; first | refine As.mk rfl ?_) | (refine Ck.pre ?_; first | refine Ck.mk rfl ?_) | (refine CallN.pre ?_; first | refine CallN.pure hc rfl rfl ?_ | refine CallN.pure hd rfl rfl ?_)))); (try (conv => whnf)))
  refine LoopN.weak (s1 := rawS A B (0, [])) ?sw1 ?_
  case sw1 => exact SW.mk id rfl rfl rfl ⟨.refl _, .refl _, VLe2.nilslm, .refl _, trivial⟩ (haveV.nil (Nat.le_refl _) trivial)
  refine LoopN.ind T_ok mixed (S := rawS A B) (fun i => A.length - i.1) (fun i => i.1 ≤ A.length ∧ i.2 = (A.take i.1).filter fun e => !(B.any fun x => decide (x.ref = e.id))) (fun _ => rfl) (fun i hi ih => ?_) (0, []) ⟨Nat.zero_le _, rfl⟩
  obtain ⟨k, out⟩ := i
  obtain ⟨h1, h2⟩ := hi
  simp only at h1 h2 ih
  have hAl : (A.map en).length = A.length := List.length_map _
  have hBl : (B.map en).length = B.length := List.length_map _
  by_cases hlt : k < A.length
  case neg =>
    have hk : k = A.length := by omega
    subst hk
    rw [List.take_length] at h2
    rw [← h2]
    clear ih
    ((repeat ((conv => whnf); (first | (refine As.pre ?_; first | refine As.mk rfl ?_) | (refine LetI.pre ?_; first | refine LetI.mk _ rfl ?_) | (refine LetB.pre ?_; first | refine LetB.decf (by omega) ?_) | (refine Br.pre ?_; first | refine Br.ff rfl ?_) | (refine Ck.pre ?_; first | refine Ck.mk rfl ?_)))); (try (conv => whnf)))
    exact ⟨⟨[(6, .slm {} 0 15 0 out.length)], [(0, .row 15 ety (out.map en))], 1⟩, SW.mk id rfl rfl (namesAll.row (pure_en _) rfl) ⟨.refl _, trivial⟩ (haveV.row (pure_en _) rfl trivial), .inl rfl, ⟨_, rfl, rfl⟩, rfl, trivial⟩
  have hld : en (A.getD k e0) = (A.map en).getD k (.sc undef) := mapD e0 hlt
  have hq := filt_succ (q := fun e : E => !(B.any fun x => decide (x.ref = e.id))) hlt e0
  rw [← h2] at hq
  have hol : out.length ≤ 100000 := by
    rw [h2]
    have := List.length_filter_le (fun e : E => !(B.any fun x => decide (x.ref = e.id))) (A.take k)
    simp only [List.length_take] at this
    omega
  clear h2
  generalize A.getD k e0 = e at hld hq
  have hr := room_en (n := out.length + 1) (by omega)
  have hol2 : (out.map en).length = out.length := List.length_map _
  clear hc hd
  ((repeat ((conv => whnf); (first | (refine As.pre ?_; first | refine As.mk rfl ?_) | (refine LetI.pre ?_; first | refine LetI.mk _ rfl ?_) | (refine LetB.pre ?_; first | refine LetB.dect (by omega) ?_) | (refine Br.pre ?_; first | refine Br.tt rfl ?_) | (refine Ck.pre ?_; first | refine Ck.mk rfl ?_)))); (try (conv => whnf)))
  refine LoopN.weak (s1 := rawI A B k out (0, false)) ?sw2 ?_
  case sw2 => exact SW.mk id rfl rfl (namesAll.row (pure_en _) rfl) ⟨.refl _, .refl _, .refl _, .refl _, .refl _, .refl _, trivial⟩ (haveV.row (pure_en _) rfl trivial)
  generalize hY : (B.any fun x => decide (x.ref = e.id)) = Y at hq
  refine LoopN.ind T_ok mixed (S := rawI A B k out) (fun i => B.length - i.1) (fun i => i.1 ≤ B.length ∧ Y = (i.2 || (B.drop i.1).any fun x => decide (x.ref = e.id))) (fun _ => rfl) (fun i hi ih2 => ?_) (0, false) ⟨Nat.zero_le _, by rw [← hY]; rfl⟩
  obtain ⟨i, v⟩ := i
  obtain ⟨g1, g2⟩ := hi
  simp only at g1 g2 ih2
  by_cases hiB : i < B.length
  case pos =>
    have hldb : en (B.getD i e0) = (B.map en).getD i (.sc undef) := mapD e0 hiB
    rw [any_drop _ hiB e0] at g2
    generalize B.getD i e0 = b at hldb g2
    rw [← Bool.or_assoc] at g2
    cases v with
    | true =>
      have next := ih2 (i + 1, true) ⟨by omega, g2⟩ (by show B.length - (i + 1) < B.length - i; omega)
      clear ih ih2
      ((repeat ((conv => whnf); (first | (refine As.pre ?_; first | refine As.mk rfl ?_) | (refine LetI.pre ?_; first | refine LetI.wrap (by omega) (by omega) ?_ | refine LetI.mk _ rfl ?_) | (refine LetB.pre ?_; first | refine LetB.dect (by omega) ?_) | (refine Gd.pre ?_; first | refine Gd.pass rfl ?_) | (refine Br.pre ?_; first | refine Br.tt rfl ?_) | (refine Ck.pre ?_; first | refine Ck.drawn (by kernel_rfl) ?_ | refine Ck.mk rfl ?_)))); (try (conv => whnf)))
      refine LoopN.weak ?sw3 next
      case sw3 => exact SW.mk id rfl rfl (namesAll.row (pure_en _) rfl) ⟨.refl _, .refl _, .refl _, .refl _, .refl _, VLe2.int (by omega), trivial⟩ (haveV.row (pure_en _) rfl trivial)
    | false =>
      have next := ih2 (i + 1, decide (b.ref = e.id)) ⟨by omega, g2⟩ (by show B.length - (i + 1) < B.length - i; omega)
      clear ih ih2
      by_cases hb : b.ref = e.id
      · rw [decide_eq_true hb] at next
        ((repeat ((conv => whnf); (first | (refine As.pre ?_; first | refine As.mk rfl ?_ | (refine As.mk ?_ ?_; · ((repeat' (refine andT ?_ ?_)) <;> (first | rfl | assumption | exact decide_eq_true (by omega) | exact decide_eq_true (by dsimp only; omega) | exact decide_eq_true (by simp; omega) | (simp; done))))) | (refine LetV.pre ?_; first | refine LetV.mk (t := 29) _ hldb ?_ | refine LetV.mk (t := 29) _ hld ?_ | refine LetV.mk (.sc (.int _ _)) rfl ?_) | (refine LetI.pre ?_; first | refine LetI.wrap (by omega) (by omega) ?_ | refine LetI.mk _ rfl ?_) | (refine LetB.pre ?_; first | refine LetB.dect (by omega) ?_) | (refine Gd.pre ?_; first | refine Gd.run rfl ?_) | (refine Br.pre ?_; first | refine Br.tt rfl ?_) | (refine Ck.pre ?_; first | refine Ck.drawn (by kernel_rfl) ?_ | refine Ck.mk rfl ?_)))); (try (conv => whnf)))
        refine LoopN.weak ?sw4 next
        case sw4 => exact SW.mk id rfl rfl (namesAll.row (pure_en _) rfl) ⟨.refl _, .refl _, .refl _, .refl _, .refl _, VLe2.int (by omega), trivial⟩ (haveV.row (pure_en _) rfl trivial)
      · rw [decide_eq_false hb] at next
        ((repeat ((conv => whnf); (first | (refine As.pre ?_; first | refine As.mk rfl ?_ | (refine As.mk ?_ ?_; · ((repeat' (refine andT ?_ ?_)) <;> (first | rfl | assumption | exact decide_eq_true (by omega) | exact decide_eq_true (by dsimp only; omega) | exact decide_eq_true (by simp; omega) | (simp; done))))) | (refine LetV.pre ?_; first | refine LetV.mk (t := 29) _ hldb ?_ | refine LetV.mk (t := 29) _ hld ?_ | refine LetV.mk (.sc (.int _ _)) rfl ?_) | (refine LetI.pre ?_; first | refine LetI.wrap (by omega) (by omega) ?_ | refine LetI.mk _ rfl ?_) | (refine LetB.pre ?_; first | refine LetB.dect (by omega) ?_ | refine LetB.decf (by omega) ?_) | (refine Gd.pre ?_; first | refine Gd.run rfl ?_) | (refine Br.pre ?_; first | refine Br.tt rfl ?_) | (refine Ck.pre ?_; first | refine Ck.drawn (by kernel_rfl) ?_ | refine Ck.mk rfl ?_)))); (try (conv => whnf)))
        refine LoopN.weak ?sw5 next
        case sw5 => exact SW.mk id rfl rfl (namesAll.row (pure_en _) rfl) ⟨.refl _, .refl _, .refl _, .refl _, .refl _, VLe2.int (by omega), trivial⟩ (haveV.row (pure_en _) rfl trivial)
  case neg =>
    clear ih2
    rw [List.drop_eq_nil_of_le (by omega), List.any_nil, Bool.or_false] at g2
    rw [g2] at hq
    cases v with
    | true =>
      simp only [Bool.not_true, Bool.false_eq_true, if_false, List.append_nil] at hq
      ((repeat ((conv => whnf); (first | (refine As.pre ?_; first | refine As.mk rfl ?_) | (refine LetI.pre ?_; first | refine LetI.wrap (by omega) (by omega) ?_ | refine LetI.mk _ rfl ?_) | (refine LetB.pre ?_; first | refine LetB.decf (by omega) ?_) | (refine Br.pre ?_; first | refine Br.ff rfl ?_) | (refine Ck.pre ?_; first | refine Ck.mk rfl ?_)))); (try (conv => whnf)))
      refine LoopN.weak ?sw6 (ih (k + 1, out) ⟨by omega, hq.symm⟩ (by omega))
      case sw6 => exact SW.mk id rfl rfl (namesAll.row (pure_en _) rfl) ⟨.refl _, .refl _, .refl _, VLe2.int (by omega), trivial⟩ (haveV.row (pure_en _) rfl trivial)
    | false =>
      simp only [Bool.not_false, if_true] at hq
      ((repeat ((conv => whnf); (first | (refine LetN.pre ?_; first | ((conv => arg 1; whnf); refine LetN.mk ?_)) | (refine As.pre ?_; first | refine As.mk rfl ?_ | (refine As.mk ?_ ?_; · ((repeat' (refine andT ?_ ?_)) <;> (first | rfl | assumption | exact decide_eq_true (by omega) | exact decide_eq_true (by dsimp only; omega) | exact decide_eq_true (by simp; omega) | (simp; done))))) | (refine LetV.pre ?_; first | refine LetV.mk (t := 29) _ hld ?_ | refine LetV.mk (.agg _) rfl ?_) | (refine LetI.pre ?_; first | refine LetI.wrap (by omega) (by omega) ?_ | refine LetI.mk _ rfl ?_) | (refine LetB.pre ?_; first | refine LetB.decf (by omega) ?_) | (refine Br.pre ?_; first | refine Br.tt rfl ?_ | refine Br.ff rfl ?_) | (refine Ck.pre ?_; first | refine Ck.mk rfl ?_) | (refine LetL.pre ?_; first | refine LetL.mk (ty := ety) _ (app_en out e _ rfl) ?_)))); (try (conv => whnf)))


      refine LoopN.weak ?sw7 (ih (k + 1, out ++ [e]) ⟨by omega, hq.symm⟩ (by omega))
      case sw7 => exact SW.mk (fun _ => 1) rfl rfl (namesAll.row (pure_en _) rfl) ⟨.refl _, .refl _, VLe2.slm_of (by simp), VLe2.int (by omega), trivial⟩ (haveV.row (pure_en _) rfl trivial)
theorem rAwards_f (l : List E) (a o : Int) (fl : Fl) (hl : l.length ≤ 100000) : AFun Try.prog 42 0 [.ro fl 15 (l.map en), int a, int o] [] (.ro {} 15 ((rAwardsP l a o).map en)) [] :=
  AFun.frz1 (H := []) (rAwards_s l a o fl hl) rfl (pure_en _) (by simp)
end En
end Go.Proofs.Ytjnohedknlibmaa
