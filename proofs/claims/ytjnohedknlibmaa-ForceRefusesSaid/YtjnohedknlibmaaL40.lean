/- force: parts of the proof, DforceFV DforceFW DforceFX DforceFY DforceFZ DforceGA DforceGB. -/
import Derived.Test.YtjnohedknlibmaaL39
set_option linter.all false
namespace Go.Proofs.Ytjnohedknlibmaa
open Go.Proofs.Ytjnohedknlibmaa.Am
namespace En
/-! ### Entries in which something is changed -/
theorem stor_all (l : List E) : storables (l.map en) = true := by
  have := stor_en l 0 l.length
  rwa [List.drop_zero, List.take_of_length_le (by simp)] at this
theorem set_field (l : List E) (k off : Nat) (v : AV) (y : E) (h : k < l.length) (hy : en y = putPart off 15 (en (l.getD k e0)) v) : (l.set k y).map en = (l.map en).set (0 + k) (putPart off 15 ((l.map en).getD (0 + k) (.sc undef)) v) := by
  rw [Nat.zero_add, ← mapD e0 h, ← hy]
  exact List.map_set
theorem del_row (l : List E) (k x y z : Nat) (hx : x = k) (hy : y = k + 1) (hz : z = l.length - (k + 1)) : (l.take k ++ l.drop (k + 1)).map en = (l.map en).take x ++ ((l.map en).drop y).take z := by
  subst hx hy hz
  rw [List.map_append, List.map_take, List.map_drop]
  congr 1
  rw [List.take_of_length_le (by simp)]
theorem getD_set_self {l : List E} {k : Nat} (y : E) (h : k < l.length) : (l.set k y).getD k e0 = y := by
  rw [List.getD_eq_getElem?_getD, List.getElem?_set_self h]; rfl
theorem mem_set_course {l : List E} {k : Nat} {y : E} (hk : k < l.length) (hy : y.course = (l.getD k e0).course) : ∀ e ∈ l.set k y, e.course = ⟨#[]⟩ ∨ e.course ∈ l.map (·.course) := by
  intro e he
  right
  rcases List.mem_or_eq_of_mem_set he with h | h
  · exact List.mem_map_of_mem h
  · rw [h, hy]
    rw [List.getD_eq_getElem?_getD, List.getElem?_eq_getElem hk]
    exact List.mem_map_of_mem (List.getElem_mem hk)
/-- What Odd gives. -/
def OddIs (l l' : List E) : Prop := l'.length ≤ l.length + 1 ∧ ∀ e ∈ l', e.course = ⟨#[]⟩ ∨ e.course ∈ l.map (·.course)
set_option maxRecDepth 100000 in
theorem Odd_nil (q : Int × Int × Int) (fl : Fl) : ∃ l' : List E, OddIs [] l' ∧ AFun Try.prog 28 0 [.ro fl 15 (([] : List E).map en), .agg [int q.1, int q.2.1, int q.2.2]] [] (.ro {} 15 (l'.map en)) [] := by
  have b1 := tmod_bound q.2.1 (m := 20) (by omega)
  have p1 := tmod_pos 20 (a := q.2.1.tmod 20 + 20) (by omega)
  obtain ⟨n, hn⟩ : ∃ n : Int, n = (q.2.1.tmod 20 + 20).tmod 20 := ⟨_, rfl⟩
  have hn2 : 0 ≤ n ∧ n < 20 := by omega
  have b2 := tmod_bound n (m := 10) (by omega)
  refine ⟨[⟨n, 1, 1, 1 + n.tmod 10, n, n, ⟨#[]⟩, 0, 0, 0, 0, 0, 0, 0, ⟨#[]⟩⟩], ⟨by simp, fun e he => ?_⟩, ?_⟩
  · simp only [List.mem_cons, List.not_mem_nil, or_false] at he
    subst he
    exact .inl rfl
  · refine AFun.of_S T_ok mixed Try.func28 rfl (Nat.le_of_ble_eq_true rfl) rfl ?_
    ((repeat ((conv => whnf); (first | (refine LetN.pre ?_; first | ((conv => arg 1; whnf); refine LetN.mk ?_)) | (refine As.pre ?_; first | refine As.mk rfl ?_) | (refine LetV.pre ?_; first | refine LetV.mk (.sc (.int _ _)) rfl ?_) | (refine LetI.pre ?_; first | refine LetI.mk (o := some .rem) n hn ?_ | refine LetI.wrap (by omega) (by omega) ?_ | refine LetI.mk _ rfl ?_) | (refine LetB.pre ?_; first | refine LetB.tt rfl ?_) | (refine Br.pre ?_; first | refine Br.tt rfl ?_) | (refine Ck.pre ?_; first | refine Ck.mk rfl ?_) | (refine LetL.pre ?_; first | refine LetL.mk _ rfl ?_)))); (try (conv => whnf)))

    exact ⟨⟨[(4, .ro {} 15 [en ⟨n, 1, 1, 1 + n.tmod 10, n, n, ⟨#[]⟩, 0, 0, 0, 0, 0, 0, 0, ⟨#[]⟩⟩])], [], 5⟩, SW.mk id rfl rfl rfl ⟨VLe2.ro_of rfl, trivial⟩ trivial, .inl rfl, ⟨_, rfl, rfl⟩, trivial⟩
set_option maxHeartbeats 1600000 in
set_option maxRecDepth 100000 in
theorem Odd_0 (l : List E) (q : Int × Int × Int) (fl : Fl) (n : Int) (k : Nat) (hl : l.length ≤ 100) (hk : k < l.length) (hn2 : 0 ≤ n ∧ n < 20) (hm : (0 : Int) = (q.1.tmod 12 + 12).tmod 12) (hn : n = (q.2.1.tmod 20 + 20).tmod 20) (hkk : ((k : Nat) : Int) = (q.2.2.tmod ((0 + (l.map en).length : Nat) : Int) + ((0 + (l.map en).length : Nat) : Int)).tmod ((0 + (l.map en).length : Nat) : Int)) :
    AFun Try.prog 28 0 [.ro fl 15 (l.map en), .agg [int q.1, int q.2.1, int q.2.2]] [] (.slm {} 0 15 0 (l.set k { (l.getD k e0) with id := n }).length) [(0, .row 15 ety ((l.set k { (l.getD k e0) with id := n }).map en))] := by
  refine AFun.of_S T_ok mixed Try.func28 rfl (Nat.le_of_ble_eq_true rfl) rfl ?_
  have b0 := tmod_bound q.1 (m := 12) (by omega)
  have b1 := tmod_bound q.2.1 (m := 20) (by omega)
  have hml : (l.map en).length = l.length := List.length_map _
  have b2 := tmod_bound q.2.2 (m := ((0 + (l.map en).length : Nat) : Int)) (by omega)
  have hnz : (((0 + (l.map en).length : Nat) : Int) != 0) = true := bne_iff_ne.2 (by omega)
  have hez : (((0 + (l.map en).length : Nat) : Int) == 0) = false := beq_eq_false_iff_ne.2 (by omega)
  have hst := stor_all l
  have hr := room_en (n := l.length) (by omega)
  have hr1 := room_en (n := l.length + 1) (by omega)
  have t9 := tmod_bound n (m := 9) (by omega)
  have hx : en (l.getD k e0) = Am.part true 15 0 15 ((l.map en).getD (0 + k) (.sc undef)) := getD_en hk
  generalize hX : l.getD k e0 = x at *
  ((repeat ((conv => whnf); (first | (refine LetN.pre ?_; first | ((conv => arg 1; whnf); refine LetN.mk ?_)) | (refine As.pre ?_; first | refine As.mk rfl ?_ | refine As.mk hnz ?_ | (refine As.mk ?_ ?_; · ((repeat' (refine andT ?_ ?_)) <;> (first | rfl | assumption | exact stor_en _ _ _ | exact stor_all _ | exact decide_eq_true (by simp; omega) | (simp; done) | (simp [room]; omega))))) | (refine LetV.pre ?_; first | refine LetV.mk (.sc (.int _ _)) rfl ?_) | (refine LetI.pre ?_; first | refine LetI.mk (o := some .rem) n hn ?_ | refine LetI.mk (o := some .rem) (0 : Int) hm ?_ | refine LetI.mk (o := some .rem) ((k : Nat) : Int) hkk ?_ | refine LetI.wrap (by omega) (by omega) ?_ | refine LetI.mk _ rfl ?_) | (refine LetB.pre ?_; first | refine LetB.tt rfl ?_ | refine LetB.ff (by assumption) ?_) | (refine Br.pre ?_; first | refine Br.tt rfl ?_ | refine Br.ff rfl ?_) | (refine Ck.pre ?_; first | refine Ck.mk rfl ?_) | (refine LetL.pre ?_; first | refine LetL.mk (ty := ety) (l.map en) rfl ?_ | refine LetL.mk (ty := ety) _ (set_field l k 0 (int (n)) { x with id := n } hk (by rw [hX]; rfl)) ?_)))); (try (conv => whnf)))









  exact ⟨⟨[(4, .slm {} 0 15 0 (l.set k { x with id := n }).length)], [(0, .row 15 ety ((l.set k { x with id := n }).map en))], 9⟩, SW.mk (fun _ => 2) rfl rfl (namesAll.row (pure_en _) rfl) ⟨VLe2.slm_of (by simp), trivial⟩ (haveV.row (pure_en _) rfl trivial), .inl rfl, ⟨_, rfl, rfl⟩, rfl, trivial⟩
set_option maxHeartbeats 1600000 in
set_option maxRecDepth 100000 in
theorem Odd_1 (l : List E) (q : Int × Int × Int) (fl : Fl) (n : Int) (k : Nat) (hl : l.length ≤ 100) (hk : k < l.length) (hn2 : 0 ≤ n ∧ n < 20) (hm : (1 : Int) = (q.1.tmod 12 + 12).tmod 12) (hn : n = (q.2.1.tmod 20 + 20).tmod 20) (hkk : ((k : Nat) : Int) = (q.2.2.tmod ((0 + (l.map en).length : Nat) : Int) + ((0 + (l.map en).length : Nat) : Int)).tmod ((0 + (l.map en).length : Nat) : Int)) :
    AFun Try.prog 28 0 [.ro fl 15 (l.map en), .agg [int q.1, int q.2.1, int q.2.2]] [] (.slm {} 0 15 0 (l.set k { (l.getD k e0) with school := n.tmod 9 }).length) [(0, .row 15 ety ((l.set k { (l.getD k e0) with school := n.tmod 9 }).map en))] := by
  refine AFun.of_S T_ok mixed Try.func28 rfl (Nat.le_of_ble_eq_true rfl) rfl ?_
  have b0 := tmod_bound q.1 (m := 12) (by omega)
  have b1 := tmod_bound q.2.1 (m := 20) (by omega)
  have hml : (l.map en).length = l.length := List.length_map _
  have b2 := tmod_bound q.2.2 (m := ((0 + (l.map en).length : Nat) : Int)) (by omega)
  have hnz : (((0 + (l.map en).length : Nat) : Int) != 0) = true := bne_iff_ne.2 (by omega)
  have hez : (((0 + (l.map en).length : Nat) : Int) == 0) = false := beq_eq_false_iff_ne.2 (by omega)
  have hst := stor_all l
  have hr := room_en (n := l.length) (by omega)
  have hr1 := room_en (n := l.length + 1) (by omega)
  have t9 := tmod_bound n (m := 9) (by omega)
  have hx : en (l.getD k e0) = Am.part true 15 0 15 ((l.map en).getD (0 + k) (.sc undef)) := getD_en hk
  generalize hX : l.getD k e0 = x at *
  ((repeat ((conv => whnf); (first | (refine LetN.pre ?_; first | ((conv => arg 1; whnf); refine LetN.mk ?_)) | (refine As.pre ?_; first | refine As.mk rfl ?_ | refine As.mk hnz ?_ | (refine As.mk ?_ ?_; · ((repeat' (refine andT ?_ ?_)) <;> (first | rfl | assumption | exact stor_en _ _ _ | exact stor_all _ | exact decide_eq_true (by simp; omega) | (simp; done) | (simp [room]; omega))))) | (refine LetV.pre ?_; first | refine LetV.mk (.sc (.int _ _)) rfl ?_) | (refine LetI.pre ?_; first | refine LetI.mk (o := some .rem) n hn ?_ | refine LetI.mk (o := some .rem) (1 : Int) hm ?_ | refine LetI.mk (o := some .rem) ((k : Nat) : Int) hkk ?_ | refine LetI.wrap (by omega) (by omega) ?_ | refine LetI.mk _ rfl ?_) | (refine LetB.pre ?_; first | refine LetB.tt rfl ?_ | refine LetB.ff rfl ?_ | refine LetB.ff (by assumption) ?_) | (refine Br.pre ?_; first | refine Br.tt rfl ?_ | refine Br.ff rfl ?_) | (refine Ck.pre ?_; first | refine Ck.mk rfl ?_) | (refine LetL.pre ?_; first | refine LetL.mk (ty := ety) (l.map en) rfl ?_ | refine LetL.mk (ty := ety) _ (set_field l k 1 (int (n.tmod 9)) { x with school := n.tmod 9 } hk (by rw [hX]; rfl)) ?_)))); (try (conv => whnf)))









  exact ⟨⟨[(4, .slm {} 0 15 0 (l.set k { x with school := n.tmod 9 }).length)], [(0, .row 15 ety ((l.set k { x with school := n.tmod 9 }).map en))], 9⟩, SW.mk (fun _ => 2) rfl rfl (namesAll.row (pure_en _) rfl) ⟨VLe2.slm_of (by simp), trivial⟩ (haveV.row (pure_en _) rfl trivial), .inl rfl, ⟨_, rfl, rfl⟩, rfl, trivial⟩
set_option maxHeartbeats 1600000 in
set_option maxRecDepth 100000 in
theorem Odd_2 (l : List E) (q : Int × Int × Int) (fl : Fl) (n : Int) (k : Nat) (hl : l.length ≤ 100) (hk : k < l.length) (hn2 : 0 ≤ n ∧ n < 20) (hm : (2 : Int) = (q.1.tmod 12 + 12).tmod 12) (hn : n = (q.2.1.tmod 20 + 20).tmod 20) (hkk : ((k : Nat) : Int) = (q.2.2.tmod ((0 + (l.map en).length : Nat) : Int) + ((0 + (l.map en).length : Nat) : Int)).tmod ((0 + (l.map en).length : Nat) : Int)) :
    AFun Try.prog 28 0 [.ro fl 15 (l.map en), .agg [int q.1, int q.2.1, int q.2.2]] [] (.slm {} 0 15 0 (l.set k { (l.getD k e0) with student := n.tmod 4 }).length) [(0, .row 15 ety ((l.set k { (l.getD k e0) with student := n.tmod 4 }).map en))] := by
  refine AFun.of_S T_ok mixed Try.func28 rfl (Nat.le_of_ble_eq_true rfl) rfl ?_
  have b0 := tmod_bound q.1 (m := 12) (by omega)
  have b1 := tmod_bound q.2.1 (m := 20) (by omega)
  have hml : (l.map en).length = l.length := List.length_map _
  have b2 := tmod_bound q.2.2 (m := ((0 + (l.map en).length : Nat) : Int)) (by omega)
  have hnz : (((0 + (l.map en).length : Nat) : Int) != 0) = true := bne_iff_ne.2 (by omega)
  have hez : (((0 + (l.map en).length : Nat) : Int) == 0) = false := beq_eq_false_iff_ne.2 (by omega)
  have hst := stor_all l
  have hr := room_en (n := l.length) (by omega)
  have hr1 := room_en (n := l.length + 1) (by omega)
  have t9 := tmod_bound n (m := 9) (by omega)
  have hx : en (l.getD k e0) = Am.part true 15 0 15 ((l.map en).getD (0 + k) (.sc undef)) := getD_en hk
  generalize hX : l.getD k e0 = x at *
  ((repeat ((conv => whnf); (first | (refine LetN.pre ?_; first | ((conv => arg 1; whnf); refine LetN.mk ?_)) | (refine As.pre ?_; first | refine As.mk rfl ?_ | refine As.mk hnz ?_ | (refine As.mk ?_ ?_; · ((repeat' (refine andT ?_ ?_)) <;> (first | rfl | assumption | exact stor_en _ _ _ | exact stor_all _ | exact decide_eq_true (by simp; omega) | (simp; done) | (simp [room]; omega))))) | (refine LetV.pre ?_; first | refine LetV.mk (.sc (.int _ _)) rfl ?_) | (refine LetI.pre ?_; first | refine LetI.mk (o := some .rem) n hn ?_ | refine LetI.mk (o := some .rem) (2 : Int) hm ?_ | refine LetI.mk (o := some .rem) ((k : Nat) : Int) hkk ?_ | refine LetI.wrap (by omega) (by omega) ?_ | refine LetI.mk _ rfl ?_) | (refine LetB.pre ?_; first | refine LetB.tt rfl ?_ | refine LetB.ff rfl ?_ | refine LetB.ff (by assumption) ?_) | (refine Br.pre ?_; first | refine Br.tt rfl ?_ | refine Br.ff rfl ?_) | (refine Ck.pre ?_; first | refine Ck.mk rfl ?_) | (refine LetL.pre ?_; first | refine LetL.mk (ty := ety) (l.map en) rfl ?_ | refine LetL.mk (ty := ety) _ (set_field l k 2 (int (n.tmod 4)) { x with student := n.tmod 4 } hk (by rw [hX]; rfl)) ?_)))); (try (conv => whnf)))









  exact ⟨⟨[(4, .slm {} 0 15 0 (l.set k { x with student := n.tmod 4 }).length)], [(0, .row 15 ety ((l.set k { x with student := n.tmod 4 }).map en))], 9⟩, SW.mk (fun _ => 2) rfl rfl (namesAll.row (pure_en _) rfl) ⟨VLe2.slm_of (by simp), trivial⟩ (haveV.row (pure_en _) rfl trivial), .inl rfl, ⟨_, rfl, rfl⟩, rfl, trivial⟩
set_option maxHeartbeats 1600000 in
set_option maxRecDepth 100000 in
theorem Odd_3 (l : List E) (q : Int × Int × Int) (fl : Fl) (n : Int) (k : Nat) (hl : l.length ≤ 100) (hk : k < l.length) (hn2 : 0 ≤ n ∧ n < 20) (hm : (3 : Int) = (q.1.tmod 12 + 12).tmod 12) (hn : n = (q.2.1.tmod 20 + 20).tmod 20) (hkk : ((k : Nat) : Int) = (q.2.2.tmod ((0 + (l.map en).length : Nat) : Int) + ((0 + (l.map en).length : Nat) : Int)).tmod ((0 + (l.map en).length : Nat) : Int)) :
    AFun Try.prog 28 0 [.ro fl 15 (l.map en), .agg [int q.1, int q.2.1, int q.2.2]] [] (.slm {} 0 15 0 (l.set k { (l.getD k e0) with kind := n.tmod 11 }).length) [(0, .row 15 ety ((l.set k { (l.getD k e0) with kind := n.tmod 11 }).map en))] := by
  refine AFun.of_S T_ok mixed Try.func28 rfl (Nat.le_of_ble_eq_true rfl) rfl ?_
  have b0 := tmod_bound q.1 (m := 12) (by omega)
  have b1 := tmod_bound q.2.1 (m := 20) (by omega)
  have hml : (l.map en).length = l.length := List.length_map _
  have b2 := tmod_bound q.2.2 (m := ((0 + (l.map en).length : Nat) : Int)) (by omega)
  have hnz : (((0 + (l.map en).length : Nat) : Int) != 0) = true := bne_iff_ne.2 (by omega)
  have hez : (((0 + (l.map en).length : Nat) : Int) == 0) = false := beq_eq_false_iff_ne.2 (by omega)
  have hst := stor_all l
  have hr := room_en (n := l.length) (by omega)
  have hr1 := room_en (n := l.length + 1) (by omega)
  have t9 := tmod_bound n (m := 9) (by omega)
  have hx : en (l.getD k e0) = Am.part true 15 0 15 ((l.map en).getD (0 + k) (.sc undef)) := getD_en hk
  generalize hX : l.getD k e0 = x at *
  ((repeat ((conv => whnf); (first | (refine LetN.pre ?_; first | ((conv => arg 1; whnf); refine LetN.mk ?_)) | (refine As.pre ?_; first | refine As.mk rfl ?_ | refine As.mk hnz ?_ | (refine As.mk ?_ ?_; · ((repeat' (refine andT ?_ ?_)) <;> (first | rfl | assumption | exact stor_en _ _ _ | exact stor_all _ | exact decide_eq_true (by simp; omega) | (simp; done) | (simp [room]; omega))))) | (refine LetV.pre ?_; first | refine LetV.mk (.sc (.int _ _)) rfl ?_) | (refine LetI.pre ?_; first | refine LetI.mk (o := some .rem) n hn ?_ | refine LetI.mk (o := some .rem) (3 : Int) hm ?_ | refine LetI.mk (o := some .rem) ((k : Nat) : Int) hkk ?_ | refine LetI.wrap (by omega) (by omega) ?_ | refine LetI.mk _ rfl ?_) | (refine LetB.pre ?_; first | refine LetB.tt rfl ?_ | refine LetB.ff rfl ?_ | refine LetB.ff (by assumption) ?_) | (refine Br.pre ?_; first | refine Br.tt rfl ?_ | refine Br.ff rfl ?_) | (refine Ck.pre ?_; first | refine Ck.mk rfl ?_) | (refine LetL.pre ?_; first | refine LetL.mk (ty := ety) (l.map en) rfl ?_ | refine LetL.mk (ty := ety) _ (set_field l k 3 (int (n.tmod 11)) { x with kind := n.tmod 11 } hk (by rw [hX]; rfl)) ?_)))); (try (conv => whnf)))









  exact ⟨⟨[(4, .slm {} 0 15 0 (l.set k { x with kind := n.tmod 11 }).length)], [(0, .row 15 ety ((l.set k { x with kind := n.tmod 11 }).map en))], 9⟩, SW.mk (fun _ => 2) rfl rfl (namesAll.row (pure_en _) rfl) ⟨VLe2.slm_of (by simp), trivial⟩ (haveV.row (pure_en _) rfl trivial), .inl rfl, ⟨_, rfl, rfl⟩, rfl, trivial⟩
set_option maxHeartbeats 1600000 in
set_option maxRecDepth 100000 in
theorem Odd_4 (l : List E) (q : Int × Int × Int) (fl : Fl) (n : Int) (k : Nat) (hl : l.length ≤ 100) (hk : k < l.length) (hn2 : 0 ≤ n ∧ n < 20) (hm : (4 : Int) = (q.1.tmod 12 + 12).tmod 12) (hn : n = (q.2.1.tmod 20 + 20).tmod 20) (hkk : ((k : Nat) : Int) = (q.2.2.tmod ((0 + (l.map en).length : Nat) : Int) + ((0 + (l.map en).length : Nat) : Int)).tmod ((0 + (l.map en).length : Nat) : Int)) :
    AFun Try.prog 28 0 [.ro fl 15 (l.map en), .agg [int q.1, int q.2.1, int q.2.2]] [] (.slm {} 0 15 0 (l.set k { (l.getD k e0) with day := 20 * n }).length) [(0, .row 15 ety ((l.set k { (l.getD k e0) with day := 20 * n }).map en))] := by
  refine AFun.of_S T_ok mixed Try.func28 rfl (Nat.le_of_ble_eq_true rfl) rfl ?_
  have b0 := tmod_bound q.1 (m := 12) (by omega)
  have b1 := tmod_bound q.2.1 (m := 20) (by omega)
  have hml : (l.map en).length = l.length := List.length_map _
  have b2 := tmod_bound q.2.2 (m := ((0 + (l.map en).length : Nat) : Int)) (by omega)
  have hnz : (((0 + (l.map en).length : Nat) : Int) != 0) = true := bne_iff_ne.2 (by omega)
  have hez : (((0 + (l.map en).length : Nat) : Int) == 0) = false := beq_eq_false_iff_ne.2 (by omega)
  have hst := stor_all l
  have hr := room_en (n := l.length) (by omega)
  have hr1 := room_en (n := l.length + 1) (by omega)
  have t9 := tmod_bound n (m := 9) (by omega)
  have hx : en (l.getD k e0) = Am.part true 15 0 15 ((l.map en).getD (0 + k) (.sc undef)) := getD_en hk
  generalize hX : l.getD k e0 = x at *
  ((repeat ((conv => whnf); (first | (refine LetN.pre ?_; first | ((conv => arg 1; whnf); refine LetN.mk ?_)) | (refine As.pre ?_; first | refine As.mk rfl ?_ | refine As.mk hnz ?_ | (refine As.mk ?_ ?_; · ((repeat' (refine andT ?_ ?_)) <;> (first | rfl | assumption | exact stor_en _ _ _ | exact stor_all _ | exact decide_eq_true (by simp; omega) | (simp; done) | (simp [room]; omega))))) | (refine LetV.pre ?_; first | refine LetV.mk (.sc (.int _ _)) rfl ?_) | (refine LetI.pre ?_; first | refine LetI.mk (o := some .rem) n hn ?_ | refine LetI.mk (o := some .rem) (4 : Int) hm ?_ | refine LetI.mk (o := some .rem) ((k : Nat) : Int) hkk ?_ | refine LetI.wrap (by omega) (by omega) ?_ | refine LetI.mk _ rfl ?_) | (refine LetB.pre ?_; first | refine LetB.tt rfl ?_ | refine LetB.ff rfl ?_ | refine LetB.ff (by assumption) ?_) | (refine Br.pre ?_; first | refine Br.tt rfl ?_ | refine Br.ff rfl ?_) | (refine Ck.pre ?_; first | refine Ck.mk rfl ?_) | (refine LetL.pre ?_; first | refine LetL.mk (ty := ety) (l.map en) rfl ?_ | refine LetL.mk (ty := ety) _ (set_field l k 4 (int (20 * n)) { x with day := 20 * n } hk (by rw [hX]; rfl)) ?_)))); (try (conv => whnf)))









  exact ⟨⟨[(4, .slm {} 0 15 0 (l.set k { x with day := 20 * n }).length)], [(0, .row 15 ety ((l.set k { x with day := 20 * n }).map en))], 9⟩, SW.mk (fun _ => 2) rfl rfl (namesAll.row (pure_en _) rfl) ⟨VLe2.slm_of (by simp), trivial⟩ (haveV.row (pure_en _) rfl trivial), .inl rfl, ⟨_, rfl, rfl⟩, rfl, trivial⟩
set_option maxHeartbeats 1600000 in
set_option maxRecDepth 100000 in
theorem Odd_5 (l : List E) (q : Int × Int × Int) (fl : Fl) (n : Int) (k : Nat) (hl : l.length ≤ 100) (hk : k < l.length) (hn2 : 0 ≤ n ∧ n < 20) (hm : (5 : Int) = (q.1.tmod 12 + 12).tmod 12) (hn : n = (q.2.1.tmod 20 + 20).tmod 20) (hkk : ((k : Nat) : Int) = (q.2.2.tmod ((0 + (l.map en).length : Nat) : Int) + ((0 + (l.map en).length : Nat) : Int)).tmod ((0 + (l.map en).length : Nat) : Int)) :
    AFun Try.prog 28 0 [.ro fl 15 (l.map en), .agg [int q.1, int q.2.1, int q.2.2]] [] (.slm {} 0 15 0 (l.set k { (l.getD k e0) with on_ := 20 * n - 20 }).length) [(0, .row 15 ety ((l.set k { (l.getD k e0) with on_ := 20 * n - 20 }).map en))] := by
  refine AFun.of_S T_ok mixed Try.func28 rfl (Nat.le_of_ble_eq_true rfl) rfl ?_
  have b0 := tmod_bound q.1 (m := 12) (by omega)
  have b1 := tmod_bound q.2.1 (m := 20) (by omega)
  have hml : (l.map en).length = l.length := List.length_map _
  have b2 := tmod_bound q.2.2 (m := ((0 + (l.map en).length : Nat) : Int)) (by omega)
  have hnz : (((0 + (l.map en).length : Nat) : Int) != 0) = true := bne_iff_ne.2 (by omega)
  have hez : (((0 + (l.map en).length : Nat) : Int) == 0) = false := beq_eq_false_iff_ne.2 (by omega)
  have hst := stor_all l
  have hr := room_en (n := l.length) (by omega)
  have hr1 := room_en (n := l.length + 1) (by omega)
  have t9 := tmod_bound n (m := 9) (by omega)
  have hx : en (l.getD k e0) = Am.part true 15 0 15 ((l.map en).getD (0 + k) (.sc undef)) := getD_en hk
  generalize hX : l.getD k e0 = x at *
  ((repeat ((conv => whnf); (first | (refine LetN.pre ?_; first | ((conv => arg 1; whnf); refine LetN.mk ?_)) | (refine As.pre ?_; first | refine As.mk rfl ?_ | refine As.mk hnz ?_ | (refine As.mk ?_ ?_; · ((repeat' (refine andT ?_ ?_)) <;> (first | rfl | assumption | exact stor_en _ _ _ | exact stor_all _ | exact decide_eq_true (by simp; omega) | (simp; done) | (simp [room]; omega))))) | (refine LetV.pre ?_; first | refine LetV.mk (.sc (.int _ _)) rfl ?_) | (refine LetI.pre ?_; first | refine LetI.mk (o := some .rem) n hn ?_ | refine LetI.mk (o := some .rem) (5 : Int) hm ?_ | refine LetI.mk (o := some .rem) ((k : Nat) : Int) hkk ?_ | refine LetI.wrap (by omega) (by omega) ?_ | refine LetI.mk _ rfl ?_) | (refine LetB.pre ?_; first | refine LetB.tt rfl ?_ | refine LetB.ff rfl ?_ | refine LetB.ff (by assumption) ?_) | (refine Br.pre ?_; first | refine Br.tt rfl ?_ | refine Br.ff rfl ?_) | (refine Ck.pre ?_; first | refine Ck.mk rfl ?_) | (refine LetL.pre ?_; first | refine LetL.mk (ty := ety) (l.map en) rfl ?_ | refine LetL.mk (ty := ety) _ (set_field l k 5 (int (20 * n - 20)) { x with on_ := 20 * n - 20 } hk (by rw [hX]; rfl)) ?_)))); (try (conv => whnf)))









  exact ⟨⟨[(4, .slm {} 0 15 0 (l.set k { x with on_ := 20 * n - 20 }).length)], [(0, .row 15 ety ((l.set k { x with on_ := 20 * n - 20 }).map en))], 9⟩, SW.mk (fun _ => 2) rfl rfl (namesAll.row (pure_en _) rfl) ⟨VLe2.slm_of (by simp), trivial⟩ (haveV.row (pure_en _) rfl trivial), .inl rfl, ⟨_, rfl, rfl⟩, rfl, trivial⟩
set_option maxHeartbeats 1600000 in
set_option maxRecDepth 100000 in
theorem Odd_6 (l : List E) (q : Int × Int × Int) (fl : Fl) (n : Int) (k : Nat) (hl : l.length ≤ 100) (hk : k < l.length) (hn2 : 0 ≤ n ∧ n < 20) (hm : (6 : Int) = (q.1.tmod 12 + 12).tmod 12) (hn : n = (q.2.1.tmod 20 + 20).tmod 20) (hkk : ((k : Nat) : Int) = (q.2.2.tmod ((0 + (l.map en).length : Nat) : Int) + ((0 + (l.map en).length : Nat) : Int)).tmod ((0 + (l.map en).length : Nat) : Int)) :
    AFun Try.prog 28 0 [.ro fl 15 (l.map en), .agg [int q.1, int q.2.1, int q.2.2]] [] (.slm {} 0 15 0 (l.set k { (l.getD k e0) with ref := n }).length) [(0, .row 15 ety ((l.set k { (l.getD k e0) with ref := n }).map en))] := by
  refine AFun.of_S T_ok mixed Try.func28 rfl (Nat.le_of_ble_eq_true rfl) rfl ?_
  have b0 := tmod_bound q.1 (m := 12) (by omega)
  have b1 := tmod_bound q.2.1 (m := 20) (by omega)
  have hml : (l.map en).length = l.length := List.length_map _
  have b2 := tmod_bound q.2.2 (m := ((0 + (l.map en).length : Nat) : Int)) (by omega)
  have hnz : (((0 + (l.map en).length : Nat) : Int) != 0) = true := bne_iff_ne.2 (by omega)
  have hez : (((0 + (l.map en).length : Nat) : Int) == 0) = false := beq_eq_false_iff_ne.2 (by omega)
  have hst := stor_all l
  have hr := room_en (n := l.length) (by omega)
  have hr1 := room_en (n := l.length + 1) (by omega)
  have t9 := tmod_bound n (m := 9) (by omega)
  have hx : en (l.getD k e0) = Am.part true 15 0 15 ((l.map en).getD (0 + k) (.sc undef)) := getD_en hk
  generalize hX : l.getD k e0 = x at *
  ((repeat ((conv => whnf); (first | (refine LetN.pre ?_; first | ((conv => arg 1; whnf); refine LetN.mk ?_)) | (refine As.pre ?_; first | refine As.mk rfl ?_ | refine As.mk hnz ?_ | (refine As.mk ?_ ?_; · ((repeat' (refine andT ?_ ?_)) <;> (first | rfl | assumption | exact stor_en _ _ _ | exact stor_all _ | exact decide_eq_true (by simp; omega) | (simp; done) | (simp [room]; omega))))) | (refine LetV.pre ?_; first | refine LetV.mk (.sc (.int _ _)) rfl ?_) | (refine LetI.pre ?_; first | refine LetI.mk (o := some .rem) n hn ?_ | refine LetI.mk (o := some .rem) (6 : Int) hm ?_ | refine LetI.mk (o := some .rem) ((k : Nat) : Int) hkk ?_ | refine LetI.wrap (by omega) (by omega) ?_ | refine LetI.mk _ rfl ?_) | (refine LetB.pre ?_; first | refine LetB.tt rfl ?_ | refine LetB.ff rfl ?_ | refine LetB.ff (by assumption) ?_) | (refine Br.pre ?_; first | refine Br.tt rfl ?_ | refine Br.ff rfl ?_) | (refine Ck.pre ?_; first | refine Ck.mk rfl ?_) | (refine LetL.pre ?_; first | refine LetL.mk (ty := ety) (l.map en) rfl ?_ | refine LetL.mk (ty := ety) _ (set_field l k 9 (int (n)) { x with ref := n } hk (by rw [hX]; rfl)) ?_)))); (try (conv => whnf)))









  exact ⟨⟨[(4, .slm {} 0 15 0 (l.set k { x with ref := n }).length)], [(0, .row 15 ety ((l.set k { x with ref := n }).map en))], 9⟩, SW.mk (fun _ => 2) rfl rfl (namesAll.row (pure_en _) rfl) ⟨VLe2.slm_of (by simp), trivial⟩ (haveV.row (pure_en _) rfl trivial), .inl rfl, ⟨_, rfl, rfl⟩, rfl, trivial⟩
set_option maxHeartbeats 1600000 in
set_option maxRecDepth 100000 in
theorem Odd_7 (l : List E) (q : Int × Int × Int) (fl : Fl) (n : Int) (k : Nat) (hl : l.length ≤ 100) (hk : k < l.length) (hn2 : 0 ≤ n ∧ n < 20) (hm : (7 : Int) = (q.1.tmod 12 + 12).tmod 12) (hn : n = (q.2.1.tmod 20 + 20).tmod 20) (hkk : ((k : Nat) : Int) = (q.2.2.tmod ((0 + (l.map en).length : Nat) : Int) + ((0 + (l.map en).length : Nat) : Int)).tmod ((0 + (l.map en).length : Nat) : Int)) :
    AFun Try.prog 28 0 [.ro fl 15 (l.map en), .agg [int q.1, int q.2.1, int q.2.2]] [] (.slm {} 0 15 0 (l.set k { (l.getD k e0) with grade := 10 * n }).length) [(0, .row 15 ety ((l.set k { (l.getD k e0) with grade := 10 * n }).map en))] := by
  refine AFun.of_S T_ok mixed Try.func28 rfl (Nat.le_of_ble_eq_true rfl) rfl ?_
  have b0 := tmod_bound q.1 (m := 12) (by omega)
  have b1 := tmod_bound q.2.1 (m := 20) (by omega)
  have hml : (l.map en).length = l.length := List.length_map _
  have b2 := tmod_bound q.2.2 (m := ((0 + (l.map en).length : Nat) : Int)) (by omega)
  have hnz : (((0 + (l.map en).length : Nat) : Int) != 0) = true := bne_iff_ne.2 (by omega)
  have hez : (((0 + (l.map en).length : Nat) : Int) == 0) = false := beq_eq_false_iff_ne.2 (by omega)
  have hst := stor_all l
  have hr := room_en (n := l.length) (by omega)
  have hr1 := room_en (n := l.length + 1) (by omega)
  have t9 := tmod_bound n (m := 9) (by omega)
  have hx : en (l.getD k e0) = Am.part true 15 0 15 ((l.map en).getD (0 + k) (.sc undef)) := getD_en hk
  generalize hX : l.getD k e0 = x at *
  ((repeat ((conv => whnf); (first | (refine LetN.pre ?_; first | ((conv => arg 1; whnf); refine LetN.mk ?_)) | (refine As.pre ?_; first | refine As.mk rfl ?_ | refine As.mk hnz ?_ | (refine As.mk ?_ ?_; · ((repeat' (refine andT ?_ ?_)) <;> (first | rfl | assumption | exact stor_en _ _ _ | exact stor_all _ | exact decide_eq_true (by simp; omega) | (simp; done) | (simp [room]; omega))))) | (refine LetV.pre ?_; first | refine LetV.mk (.sc (.int _ _)) rfl ?_) | (refine LetI.pre ?_; first | refine LetI.mk (o := some .rem) n hn ?_ | refine LetI.mk (o := some .rem) (7 : Int) hm ?_ | refine LetI.mk (o := some .rem) ((k : Nat) : Int) hkk ?_ | refine LetI.wrap (by omega) (by omega) ?_ | refine LetI.mk _ rfl ?_) | (refine LetB.pre ?_; first | refine LetB.tt rfl ?_ | refine LetB.ff rfl ?_ | refine LetB.ff (by assumption) ?_) | (refine Br.pre ?_; first | refine Br.tt rfl ?_ | refine Br.ff rfl ?_) | (refine Ck.pre ?_; first | refine Ck.mk rfl ?_) | (refine LetL.pre ?_; first | refine LetL.mk (ty := ety) (l.map en) rfl ?_ | refine LetL.mk (ty := ety) _ (set_field l k 8 (int (10 * n)) { x with grade := 10 * n } hk (by rw [hX]; rfl)) ?_)))); (try (conv => whnf)))









  exact ⟨⟨[(4, .slm {} 0 15 0 (l.set k { x with grade := 10 * n }).length)], [(0, .row 15 ety ((l.set k { x with grade := 10 * n }).map en))], 9⟩, SW.mk (fun _ => 2) rfl rfl (namesAll.row (pure_en _) rfl) ⟨VLe2.slm_of (by simp), trivial⟩ (haveV.row (pure_en _) rfl trivial), .inl rfl, ⟨_, rfl, rfl⟩, rfl, trivial⟩
set_option maxHeartbeats 1600000 in
set_option maxRecDepth 100000 in
theorem Odd_8 (l : List E) (q : Int × Int × Int) (fl : Fl) (n : Int) (k : Nat) (hl : l.length ≤ 100) (hk : k < l.length) (hn2 : 0 ≤ n ∧ n < 20) (hm : (8 : Int) = (q.1.tmod 12 + 12).tmod 12) (hn : n = (q.2.1.tmod 20 + 20).tmod 20) (hkk : ((k : Nat) : Int) = (q.2.2.tmod ((0 + (l.map en).length : Nat) : Int) + ((0 + (l.map en).length : Nat) : Int)).tmod ((0 + (l.map en).length : Nat) : Int)) :
    AFun Try.prog 28 0 [.ro fl 15 (l.map en), .agg [int q.1, int q.2.1, int q.2.2]] [] (.slm {} 0 15 0 (l.take k ++ l.drop (k + 1)).length) [(0, .row 15 ety ((l.take k ++ l.drop (k + 1)).map en))] := by
  refine AFun.of_S T_ok mixed Try.func28 rfl (Nat.le_of_ble_eq_true rfl) rfl ?_
  have b0 := tmod_bound q.1 (m := 12) (by omega)
  have b1 := tmod_bound q.2.1 (m := 20) (by omega)
  have hml : (l.map en).length = l.length := List.length_map _
  have b2 := tmod_bound q.2.2 (m := ((0 + (l.map en).length : Nat) : Int)) (by omega)
  have hnz : (((0 + (l.map en).length : Nat) : Int) != 0) = true := bne_iff_ne.2 (by omega)
  have hez : (((0 + (l.map en).length : Nat) : Int) == 0) = false := beq_eq_false_iff_ne.2 (by omega)
  have hst := stor_all l
  have hr := room_en (n := l.length) (by omega)
  have hr1 := room_en (n := l.length + 1) (by omega)
  have t9 := tmod_bound n (m := 9) (by omega)
  have hx : en (l.getD k e0) = Am.part true 15 0 15 ((l.map en).getD (0 + k) (.sc undef)) := getD_en hk
  generalize hX : l.getD k e0 = x at *
  ((repeat ((conv => whnf); (first | (refine LetN.pre ?_; first | ((conv => arg 1; whnf); refine LetN.mk ?_)) | (refine As.pre ?_; first | refine As.mk rfl ?_ | refine As.mk hnz ?_ | (refine As.mk ?_ ?_; · ((repeat' (refine andT ?_ ?_)) <;> (first | rfl | assumption | exact stor_en _ _ _ | exact stor_all _ | exact decide_eq_true (by simp; omega) | (simp; done) | (simp [room]; omega))))) | (refine LetV.pre ?_; first | refine LetV.mk (.sc (.int _ _)) rfl ?_ | refine LetV.mk (.slm _ _ _ _ _) rfl ?_) | (refine LetI.pre ?_; first | refine LetI.mk (o := some .rem) n hn ?_ | refine LetI.mk (o := some .rem) (8 : Int) hm ?_ | refine LetI.mk (o := some .rem) ((k : Nat) : Int) hkk ?_ | refine LetI.wrap (by omega) (by omega) ?_ | refine LetI.mk _ rfl ?_) | (refine LetB.pre ?_; first | refine LetB.tt rfl ?_ | refine LetB.ff rfl ?_ | refine LetB.ff (by assumption) ?_) | (refine Br.pre ?_; first | refine Br.tt rfl ?_ | refine Br.ff rfl ?_) | (refine Ck.pre ?_; first | refine Ck.drawn (by kernel_rfl) ?_ | refine Ck.mk rfl ?_) | (refine LetL.pre ?_; first | refine LetL.mk (ty := ety) (l.map en) rfl ?_ | (refine LetL.mk (ty := ety) _ (del_row l k _ _ _ ?_ ?_ ?_) ?_; iterate 3 (· (first | (simp; done) | (simp; omega)))))))); (try (conv => whnf)))









  exact ⟨⟨[(4, .slm {} 0 15 0 (l.take k ++ l.drop (k + 1)).length)], [(0, .row 15 ety ((l.take k ++ l.drop (k + 1)).map en))], 9⟩, SW.mk (fun _ => 3) rfl rfl (namesAll.row (pure_en _) rfl) ⟨VLe2.slm_of (by first | (simp; done) | (simp; omega)), trivial⟩ (haveV.row (pure_en _) rfl trivial), .inl rfl, ⟨_, rfl, rfl⟩, rfl, trivial⟩
set_option maxHeartbeats 1600000 in
set_option maxRecDepth 100000 in
theorem Odd_9 (l : List E) (q : Int × Int × Int) (fl : Fl) (n : Int) (k : Nat) (hl : l.length ≤ 100) (hk : k < l.length) (hn2 : 0 ≤ n ∧ n < 20) (hm : (9 : Int) = (q.1.tmod 12 + 12).tmod 12) (hn : n = (q.2.1.tmod 20 + 20).tmod 20) (hkk : ((k : Nat) : Int) = (q.2.2.tmod ((0 + (l.map en).length : Nat) : Int) + ((0 + (l.map en).length : Nat) : Int)).tmod ((0 + (l.map en).length : Nat) : Int)) :
    AFun Try.prog 28 0 [.ro fl 15 (l.map en), .agg [int q.1, int q.2.1, int q.2.2]] [] (.slm {} 0 15 0 (l ++ [{ (l.getD k e0) with id := 500 + n }]).length) [(0, .row 15 ety ((l ++ [{ (l.getD k e0) with id := 500 + n }]).map en))] := by
  refine AFun.of_S T_ok mixed Try.func28 rfl (Nat.le_of_ble_eq_true rfl) rfl ?_
  have b0 := tmod_bound q.1 (m := 12) (by omega)
  have b1 := tmod_bound q.2.1 (m := 20) (by omega)
  have hml : (l.map en).length = l.length := List.length_map _
  have b2 := tmod_bound q.2.2 (m := ((0 + (l.map en).length : Nat) : Int)) (by omega)
  have hnz : (((0 + (l.map en).length : Nat) : Int) != 0) = true := bne_iff_ne.2 (by omega)
  have hez : (((0 + (l.map en).length : Nat) : Int) == 0) = false := beq_eq_false_iff_ne.2 (by omega)
  have hst := stor_all l
  have hr := room_en (n := l.length) (by omega)
  have hr1 := room_en (n := l.length + 1) (by omega)
  have t9 := tmod_bound n (m := 9) (by omega)
  have hx : en (l.getD k e0) = Am.part true 15 0 15 ((l.map en).getD (0 + k) (.sc undef)) := getD_en hk
  generalize hX : l.getD k e0 = x at *
  ((repeat ((conv => whnf); (first | (refine LetN.pre ?_; first | ((conv => arg 1; whnf); refine LetN.mk ?_)) | (refine As.pre ?_; first | refine As.mk rfl ?_ | refine As.mk hnz ?_ | (refine As.mk ?_ ?_; · ((repeat' (refine andT ?_ ?_)) <;> (first | rfl | assumption | exact stor_en _ _ _ | exact stor_all _ | exact decide_eq_true (by simp; omega) | (simp; done) | (simp [room]; omega))))) | (refine LetV.pre ?_; first | refine LetV.mk (t := ety) _ hx ?_ | refine LetV.mk (.sc (.int _ _)) rfl ?_ | refine LetV.mk (.agg _) rfl ?_) | (refine LetI.pre ?_; first | refine LetI.mk (o := some .rem) n hn ?_ | refine LetI.mk (o := some .rem) (9 : Int) hm ?_ | refine LetI.mk (o := some .rem) ((k : Nat) : Int) hkk ?_ | refine LetI.wrap (by omega) (by omega) ?_ | refine LetI.mk _ rfl ?_) | (refine LetB.pre ?_; first | refine LetB.tt rfl ?_ | refine LetB.ff rfl ?_ | refine LetB.ff (by assumption) ?_) | (refine Br.pre ?_; first | refine Br.tt rfl ?_ | refine Br.ff rfl ?_) | (refine Ck.pre ?_; first | refine Ck.mk rfl ?_) | (refine LetL.pre ?_; first | refine LetL.mk (ty := ety) (l.map en) rfl ?_ | refine LetL.mk (ty := ety) _ (app_en l { x with id := 500 + n } _ (by simp)) ?_ | refine LetL.mk [_] rfl ?_)))); (try (conv => whnf)))









  exact ⟨⟨[(4, .slm {} 0 15 0 (l ++ [{ x with id := 500 + n }]).length)], [(0, .row 15 ety ((l ++ [{ x with id := 500 + n }]).map en))], 9⟩, SW.mk (fun _ => 4) rfl rfl (namesAll.row (pure_en _) rfl) ⟨VLe2.slm_of (by simp), trivial⟩ (haveV.row (pure_en _) rfl trivial), .inl rfl, ⟨_, rfl, rfl⟩, rfl, trivial⟩
set_option maxHeartbeats 1600000 in
set_option maxRecDepth 100000 in
theorem Odd_10 (l : List E) (q : Int × Int × Int) (fl : Fl) (n : Int) (k : Nat) (hl : l.length ≤ 100) (hk : k < l.length) (hn2 : 0 ≤ n ∧ n < 20) (hm : (10 : Int) = (q.1.tmod 12 + 12).tmod 12) (hn : n = (q.2.1.tmod 20 + 20).tmod 20) (hkk : ((k : Nat) : Int) = (q.2.2.tmod ((0 + (l.map en).length : Nat) : Int) + ((0 + (l.map en).length : Nat) : Int)).tmod ((0 + (l.map en).length : Nat) : Int)) :
    AFun Try.prog 28 0 [.ro fl 15 (l.map en), .agg [int q.1, int q.2.1, int q.2.2]] [] (.slm {} 0 15 0 ((l.set 0 (l.getD k e0)).set k (l.getD 0 e0)).length) [(0, .row 15 ety (((l.set 0 (l.getD k e0)).set k (l.getD 0 e0)).map en))] := by
  refine AFun.of_S T_ok mixed Try.func28 rfl (Nat.le_of_ble_eq_true rfl) rfl ?_
  have b0 := tmod_bound q.1 (m := 12) (by omega)
  have b1 := tmod_bound q.2.1 (m := 20) (by omega)
  have hml : (l.map en).length = l.length := List.length_map _
  have b2 := tmod_bound q.2.2 (m := ((0 + (l.map en).length : Nat) : Int)) (by omega)
  have hnz : (((0 + (l.map en).length : Nat) : Int) != 0) = true := bne_iff_ne.2 (by omega)
  have hez : (((0 + (l.map en).length : Nat) : Int) == 0) = false := beq_eq_false_iff_ne.2 (by omega)
  have hst := stor_all l
  have hr := room_en (n := l.length) (by omega)
  have hr1 := room_en (n := l.length + 1) (by omega)
  have t9 := tmod_bound n (m := 9) (by omega)
  have hx : en (l.getD k e0) = Am.part true 15 0 15 ((l.map en).getD (0 + k) (.sc undef)) := getD_en hk
  generalize hX : l.getD k e0 = x at *
  ((repeat ((conv => whnf); (first | (refine LetN.pre ?_; first | ((conv => arg 1; whnf); refine LetN.mk ?_)) | (refine As.pre ?_; first | refine As.mk rfl ?_ | refine As.mk hnz ?_ | (refine As.mk ?_ ?_; · ((repeat' (refine andT ?_ ?_)) <;> (first | rfl | assumption | exact stor_en _ _ _ | exact stor_all _ | exact decide_eq_true (by simp; omega) | (simp; done) | (simp [room]; omega))))) | (refine LetV.pre ?_; first | refine LetV.mk (t := ety) _ hx ?_ | refine LetV.mk (t := ety) (en (l.getD 0 e0)) (getD_en (k := 0) (by omega)) ?_ | refine LetV.mk (.sc (.int _ _)) rfl ?_) | (refine LetI.pre ?_; first | refine LetI.mk (o := some .rem) n hn ?_ | refine LetI.mk (o := some .rem) (10 : Int) hm ?_ | refine LetI.mk (o := some .rem) ((k : Nat) : Int) hkk ?_ | refine LetI.wrap (by omega) (by omega) ?_ | refine LetI.mk _ rfl ?_) | (refine LetB.pre ?_; first | refine LetB.tt rfl ?_ | refine LetB.ff rfl ?_ | refine LetB.ff (by assumption) ?_) | (refine Br.pre ?_; first | refine Br.tt rfl ?_ | refine Br.ff rfl ?_) | (refine Ck.pre ?_; first | refine Ck.drawn (by kernel_rfl) ?_ | refine Ck.mk rfl ?_) | (refine LetL.pre ?_; first | refine LetL.mk (ty := ety) (l.map en) rfl ?_ | refine LetL.mk (ty := ety) ((l.set 0 x).map en) (by rw [Nat.zero_add]; exact List.map_set) ?_ | refine LetL.mk (ty := ety) (((l.set 0 x).set k (l.getD 0 e0)).map en) (by rw [Nat.zero_add]; exact List.map_set) ?_)))); (try (conv => whnf)))











  exact ⟨⟨[(4, .slm {} 0 15 0 ((l.set 0 x).set k (l.getD 0 e0)).length)], [(0, .row 15 ety (((l.set 0 x).set k (l.getD 0 e0)).map en))], 9⟩, SW.mk (fun _ => 2) rfl rfl (namesAll.row (pure_en _) rfl) ⟨VLe2.slm_of (by simp), trivial⟩ (haveV.row (pure_en _) rfl trivial), .inl rfl, ⟨_, rfl, rfl⟩, rfl, trivial⟩
set_option maxHeartbeats 1600000 in
set_option maxRecDepth 100000 in
theorem Odd_11 (l : List E) (q : Int × Int × Int) (fl : Fl) (n : Int) (k : Nat) (hl : l.length ≤ 100) (hk : k < l.length) (hn2 : 0 ≤ n ∧ n < 20) (hm : (11 : Int) = (q.1.tmod 12 + 12).tmod 12) (hn : n = (q.2.1.tmod 20 + 20).tmod 20) (hkk : ((k : Nat) : Int) = (q.2.2.tmod ((0 + (l.map en).length : Nat) : Int) + ((0 + (l.map en).length : Nat) : Int)).tmod ((0 + (l.map en).length : Nat) : Int)) :
    AFun Try.prog 28 0 [.ro fl 15 (l.map en), .agg [int q.1, int q.2.1, int q.2.2]] [] (.slm {} 0 15 0 ((l.set k { (l.getD k e0) with programme := n.tmod 3 }).set k { (l.getD k e0) with programme := n.tmod 3, version := n.tmod 4 }).length) [(0, .row 15 ety (((l.set k { (l.getD k e0) with programme := n.tmod 3 }).set k { (l.getD k e0) with programme := n.tmod 3, version := n.tmod 4 }).map en))] := by
  refine AFun.of_S T_ok mixed Try.func28 rfl (Nat.le_of_ble_eq_true rfl) rfl ?_
  have b0 := tmod_bound q.1 (m := 12) (by omega)
  have b1 := tmod_bound q.2.1 (m := 20) (by omega)
  have hml : (l.map en).length = l.length := List.length_map _
  have b2 := tmod_bound q.2.2 (m := ((0 + (l.map en).length : Nat) : Int)) (by omega)
  have hnz : (((0 + (l.map en).length : Nat) : Int) != 0) = true := bne_iff_ne.2 (by omega)
  have hez : (((0 + (l.map en).length : Nat) : Int) == 0) = false := beq_eq_false_iff_ne.2 (by omega)
  have hst := stor_all l
  have hr := room_en (n := l.length) (by omega)
  have hr1 := room_en (n := l.length + 1) (by omega)
  have t9 := tmod_bound n (m := 9) (by omega)
  have hx : en (l.getD k e0) = Am.part true 15 0 15 ((l.map en).getD (0 + k) (.sc undef)) := getD_en hk
  generalize hX : l.getD k e0 = x at *
  ((repeat ((conv => whnf); (first | (refine LetN.pre ?_; first | ((conv => arg 1; whnf); refine LetN.mk ?_)) | (refine As.pre ?_; first | refine As.mk rfl ?_ | refine As.mk hnz ?_ | (refine As.mk ?_ ?_; · ((repeat' (refine andT ?_ ?_)) <;> (first | rfl | assumption | exact stor_en _ _ _ | exact stor_all _ | exact decide_eq_true (by simp; omega) | (simp; done) | (simp [room]; omega))))) | (refine LetV.pre ?_; first | refine LetV.mk (.sc (.int _ _)) rfl ?_) | (refine LetI.pre ?_; first | refine LetI.mk (o := some .rem) n hn ?_ | refine LetI.mk (o := some .rem) (11 : Int) hm ?_ | refine LetI.mk (o := some .rem) ((k : Nat) : Int) hkk ?_ | refine LetI.wrap (by omega) (by omega) ?_ | refine LetI.mk _ rfl ?_) | (refine LetB.pre ?_; first | refine LetB.ff rfl ?_ | refine LetB.ff (by assumption) ?_) | (refine Br.pre ?_; first | refine Br.ff rfl ?_) | (refine Ck.pre ?_; first | refine Ck.mk rfl ?_) | (refine LetL.pre ?_; first | refine LetL.mk (ty := ety) (l.map en) rfl ?_ | refine LetL.mk (ty := ety) _ (set_field l k 11 (int (n.tmod 3)) { x with programme := n.tmod 3 } hk (by rw [hX]; rfl)) ?_ | refine LetL.mk (ty := ety) _ (set_field (l.set k { x with programme := n.tmod 3 }) k 12 (int (n.tmod 4)) { x with programme := n.tmod 3, version := n.tmod 4 } (by simpa using hk) (by rw [getD_set_self _ hk]; rfl)) ?_)))); (try (conv => whnf)))










  exact ⟨⟨[(4, .slm {} 0 15 0 ((l.set k { x with programme := n.tmod 3 }).set k { x with programme := n.tmod 3, version := n.tmod 4 }).length)], [(0, .row 15 ety (((l.set k { x with programme := n.tmod 3 }).set k { x with programme := n.tmod 3, version := n.tmod 4 }).map en))], 9⟩, SW.mk (fun _ => 2) rfl rfl (namesAll.row (pure_en _) rfl) ⟨VLe2.slm_of (by simp), trivial⟩ (haveV.row (pure_en _) rfl trivial), .inl rfl, ⟨_, rfl, rfl⟩, rfl, trivial⟩
end En
end Go.Proofs.Ytjnohedknlibmaa
namespace Go.Proofs.Ytjnohedknlibmaa
open Go.Proofs.Ytjnohedknlibmaa.Am
namespace En
theorem odd_set {l : List E} {k : Nat} {y : E} (hk : k < l.length) (hy : y.course = (l.getD k e0).course) : OddIs l (l.set k y) :=
  ⟨by simp, mem_set_course hk hy⟩
theorem mem_courses {l l' : List E} (h : ∀ e ∈ l', e ∈ l) : ∀ e ∈ l', e.course = ⟨#[]⟩ ∨ e.course ∈ l.map (·.course) := fun e he => .inr (List.mem_map_of_mem (h e he))
theorem getD_mem {l : List E} {k : Nat} (h : k < l.length) : l.getD k e0 ∈ l := by
  rw [List.getD_eq_getElem?_getD, List.getElem?_eq_getElem h]
  exact List.getElem_mem _
theorem frz_en {f : FuncId} {vs : List AV} {l' : List E} (h : AFun Try.prog f 0 vs [] (.slm {} 0 15 0 l'.length) [(0, .row 15 ety (l'.map en))]) : AFun Try.prog f 0 vs [] (.ro {} 15 (l'.map en)) [] :=
  AFun.frz1 (H := []) h rfl (pure_en _) (by simp)
theorem Odd_f (l : List E) (q : Int × Int × Int) (fl : Fl) (hl : l.length ≤ 100) : ∃ l' : List E, OddIs l l' ∧ AFun Try.prog 28 0 [.ro fl 15 (l.map en), .agg [int q.1, int q.2.1, int q.2.2]] [] (.ro {} 15 (l'.map en)) [] := by
  by_cases h0 : l = []
  · subst h0; exact Odd_nil q fl
  have hpos : 0 < l.length := List.length_pos_iff.2 h0
  have b0 := tmod_bound q.1 (m := 12) (by omega)
  have p0 := tmod_pos 12 (a := q.1.tmod 12 + 12) (by omega)
  have b1 := tmod_bound q.2.1 (m := 20) (by omega)
  have p1 := tmod_pos 20 (a := q.2.1.tmod 20 + 20) (by omega)
  obtain ⟨n, hn⟩ : ∃ n : Int, n = (q.2.1.tmod 20 + 20).tmod 20 := ⟨_, rfl⟩
  have hn2 : 0 ≤ n ∧ n < 20 := by omega
  have hml : (0 + (l.map en).length) = l.length := by simp
  obtain ⟨k, hk, hkk⟩ : ∃ k : Nat, k < l.length ∧ ((k : Nat) : Int) = (q.2.2.tmod ((0 + (l.map en).length : Nat) : Int) + ((0 + (l.map en).length : Nat) : Int)).tmod ((0 + (l.map en).length : Nat) : Int) := by
    rw [hml]
    have b2 := tmod_bound q.2.2 (m := (l.length : Int)) (by omega)
    have h1 := Int.tmod_nonneg (l.length : Int) (a := q.2.2.tmod (l.length : Int) + (l.length : Int)) (by omega)
    have h2 := Int.tmod_lt_of_pos (q.2.2.tmod (l.length : Int) + (l.length : Int)) (b := (l.length : Int)) (by omega)
    exact ⟨((q.2.2.tmod (l.length : Int) + (l.length : Int)).tmod (l.length : Int)).toNat, by omega, by omega⟩
  have hc : (q.1.tmod 12 + 12).tmod 12 = 0 ∨ (q.1.tmod 12 + 12).tmod 12 = 1 ∨ (q.1.tmod 12 + 12).tmod 12 = 2 ∨ (q.1.tmod 12 + 12).tmod 12 = 3 ∨ (q.1.tmod 12 + 12).tmod 12 = 4 ∨ (q.1.tmod 12 + 12).tmod 12 = 5 ∨ (q.1.tmod 12 + 12).tmod 12 = 6 ∨ (q.1.tmod 12 + 12).tmod 12 = 7 ∨ (q.1.tmod 12 + 12).tmod 12 = 8 ∨ (q.1.tmod 12 + 12).tmod 12 = 9 ∨ (q.1.tmod 12 + 12).tmod 12 = 10 ∨ (q.1.tmod 12 + 12).tmod 12 = 11 := by omega
  rcases hc with h | h | h | h | h | h | h | h | h | h | h | h
  · refine ⟨_, ?_, frz_en (Odd_0 l q fl n k hl hk hn2 h.symm hn hkk)⟩
    exact odd_set hk rfl
  · refine ⟨_, ?_, frz_en (Odd_1 l q fl n k hl hk hn2 h.symm hn hkk)⟩
    exact odd_set hk rfl
  · refine ⟨_, ?_, frz_en (Odd_2 l q fl n k hl hk hn2 h.symm hn hkk)⟩
    exact odd_set hk rfl
  · refine ⟨_, ?_, frz_en (Odd_3 l q fl n k hl hk hn2 h.symm hn hkk)⟩
    exact odd_set hk rfl
  · refine ⟨_, ?_, frz_en (Odd_4 l q fl n k hl hk hn2 h.symm hn hkk)⟩
    exact odd_set hk rfl
  · refine ⟨_, ?_, frz_en (Odd_5 l q fl n k hl hk hn2 h.symm hn hkk)⟩
    exact odd_set hk rfl
  · refine ⟨_, ?_, frz_en (Odd_6 l q fl n k hl hk hn2 h.symm hn hkk)⟩
    exact odd_set hk rfl
  · refine ⟨_, ?_, frz_en (Odd_7 l q fl n k hl hk hn2 h.symm hn hkk)⟩
    exact odd_set hk rfl
  · refine ⟨_, ⟨?_, mem_courses fun e he => ?_⟩, frz_en (Odd_8 l q fl n k hl hk hn2 h.symm hn hkk)⟩
    · simp; omega
    · rcases List.mem_append.1 he with h | h
      · exact List.mem_of_mem_take h
      · exact List.mem_of_mem_drop h
  · refine ⟨_, ⟨by simp, fun e he => ?_⟩, frz_en (Odd_9 l q fl n k hl hk hn2 h.symm hn hkk)⟩
    rcases List.mem_append.1 he with h | h
    · exact .inr (List.mem_map_of_mem h)
    · simp only [List.mem_cons, List.not_mem_nil, or_false] at h
      subst h
      exact .inr (List.mem_map_of_mem (f := (·.course)) (getD_mem hk))
  · refine ⟨_, ⟨by simp, mem_courses fun e he => ?_⟩, frz_en (Odd_10 l q fl n k hl hk hn2 h.symm hn hkk)⟩
    rcases List.mem_or_eq_of_mem_set he with h | h
    · rcases List.mem_or_eq_of_mem_set h with h | h
      · exact h
      · rw [h]; exact getD_mem hk
    · rw [h]; exact getD_mem (by omega)
  · refine ⟨_, ⟨by simp, fun e he => ?_⟩, frz_en (Odd_11 l q fl n k hl hk hn2 h.symm hn hkk)⟩
    rcases List.mem_or_eq_of_mem_set he with h | h
    · exact mem_set_course (y := { (l.getD k e0) with programme := n.tmod 3 }) hk rfl e h
    · rw [h]
      exact .inr (List.mem_map_of_mem (f := (·.course)) (getD_mem hk))
end En
end Go.Proofs.Ytjnohedknlibmaa
namespace Go.Proofs.Ytjnohedknlibmaa
open Go.Proofs.Ytjnohedknlibmaa.Am
namespace En
/-! ### Made entries -/
abbrev iA (x : Fl × List Int) : AV := .ro x.1 1 (x.2.map int)
abbrev L0 : Fl × List Int := ({}, [])
/-- What is known of made entries, i lists gone through. -/
structure MadeOk (i : Nat) (out : List E) : Prop where
  chk : chkE out = 0
  len : out.length ≤ i
  school : ∀ e ∈ out, e.school = 1
  id : ∀ e ∈ out, e.id ≤ i
  day : ∀ e ∈ out, e.day ≤ 59 * i
  course : ∀ e ∈ out, e.course.size ≤ 2
theorem MadeOk.nil (i : Nat) : MadeOk i [] where
  chk := by simp [chkE, chkL]
  len := Nat.zero_le _
  school := fun e h => absurd h List.not_mem_nil
  id := fun e h => absurd h List.not_mem_nil
  day := fun e h => absurd h List.not_mem_nil
  course := fun e h => absurd h List.not_mem_nil
theorem MadeOk.more {i : Nat} {out : List E} (h : MadeOk i out) : MadeOk (i + 1) out :=
  ⟨h.chk, by have := h.len; omega, h.school, fun e he => by have := h.id e he; omega, fun e he => by have := h.day e he; omega, h.course⟩
theorem MadeOk.add {i : Nat} {out : List E} {e : E} (h : MadeOk i out) (hc : chkE (out ++ [e]) = 0) (h1 : e.school = 1) (h2 : e.id = i + 1) (h3 : e.day ≤ 59 * (i + 1)) (h4 : e.course.size ≤ 2) : MadeOk (i + 1) (out ++ [e]) := by
  have key : ∀ {q : E → Prop}, (∀ x ∈ out, q x) → q e → ∀ x ∈ out ++ [e], q x := by
    intro q ha hb x hx
    rcases List.mem_append.1 hx with h | h
    · exact ha x h
    · simp only [List.mem_cons, List.not_mem_nil, or_false] at h
      subst h; exact hb
  exact ⟨hc, by have := h.len; simp; omega, key h.school h1, key h.more.id (by rw [h2]; omega), key h.more.day (by omega), key h.course h4⟩
theorem courses_big {i : Nat} {out : List E} {e : E} (h : MadeOk i out) (h4 : e.course.size ≤ 2) : ∀ x ∈ out ++ [e], x.course.size ≤ 9223372036854775806 := by
  intro x hx
  rcases List.mem_append.1 hx with h1 | h1
  · have := h.course x h1; omega
  · simp only [List.mem_cons, List.not_mem_nil, or_false] at h1
    subst h1; omega
abbrev madS (L : List (Fl × List Int)) (fl : Fl) : Nat × Int × List E → AS
  | (i, day, out) => ⟨[(0, .ro fl 1 (L.map iA)), (3, .slm {} 0 15 0 out.length), (4, int day), (5, int i)], [(0, .row 15 ety (out.map en))], 1⟩
theorem kinds_get (n : Int) (h : 0 ≤ n ∧ n < 11) : ∃ kd : Int, (kd = 1 ∨ kd = 2 ∨ kd = 3 ∨ kd = 4 ∨ kd = 5 ∨ kd = 6 ∨ kd = 7 ∨ kd = 8 ∨ kd = 9) ∧ int kd = ([int 3, int 3, int 3, int 1, int 4, int 5, int 6, int 8, int 9, int 2, int 7] : List AV).getD n.toNat (.sc undef) := by
  obtain ⟨m, rfl⟩ : ∃ m : Nat, n = m := ⟨n.toNat, by omega⟩
  have hm : m < 11 := by omega
  have : m = 0 ∨ m = 1 ∨ m = 2 ∨ m = 3 ∨ m = 4 ∨ m = 5 ∨ m = 6 ∨ m = 7 ∨ m = 8 ∨ m = 9 ∨ m = 10 := by omega
  rcases this with rfl | rfl | rfl | rfl | rfl | rfl | rfl | rfl | rfl | rfl | rfl
  · exact ⟨3, by omega, rfl⟩
  · exact ⟨3, by omega, rfl⟩
  · exact ⟨3, by omega, rfl⟩
  · exact ⟨1, by omega, rfl⟩
  · exact ⟨4, by omega, rfl⟩
  · exact ⟨5, by omega, rfl⟩
  · exact ⟨6, by omega, rfl⟩
  · exact ⟨8, by omega, rfl⟩
  · exact ⟨9, by omega, rfl⟩
  · exact ⟨2, by omega, rfl⟩
  · exact ⟨7, by omega, rfl⟩
theorem codes_get (n : Int) (h : 0 ≤ n ∧ n < 6) : ∃ s : ByteArray, s.size ≤ 2 ∧ str s = (codesL.map str).getD n.toNat (.sc undef) := by
  obtain ⟨m, rfl⟩ : ∃ m : Nat, n = m := ⟨n.toNat, by omega⟩
  have : m = 0 ∨ m = 1 ∨ m = 2 ∨ m = 3 ∨ m = 4 ∨ m = 5 := by omega
  rcases this with rfl | rfl | rfl | rfl | rfl | rfl <;> exact ⟨_, by decide, rfl⟩
theorem made_next (fl : Fl) (xs : List Int) (hl : xs.length ≤ 9223372036854775807) (at_ : Nat) (most : Int) (ha : at_ ≤ xs.length) (hm : 0 < most ∧ most ≤ 1000000) : ∃ v a, (0 ≤ v ∧ v < most) ∧ a ≤ xs.length ∧
    AFun Try.prog 47 1 [.ptr 0 2 0 0, int most] [(0, drawB fl xs at_)] (int v) [(0, drawB fl xs a)] :=
  ⟨_, _, dv_range xs at_ hm.1, da_le ha, Next_f fl xs at_ most hl ha hm⟩
theorem copy_en (l : List E) : l.map en = List.take l.length (List.drop 0 (l.map en)) := by rw [List.drop_zero, List.take_of_length_le (by simp)]
theorem app_en2 {e e' : E} (he : e = e') (l : List E) (n : Nat) (h : n = l.length) : (l ++ [e]).map en = (l.map en).take n ++ [en e'] := he ▸ app_en l e n h
theorem AFun.of_SE {P : Program} {T : TT} (hT : T.Ok P) {p : Nat} (hm : P.follows .mixedOrders = true) {f : FuncId} {fn : Func} {c : Code} {vs : List AV} {H : AH} {α : Type} {I : α → Prop} {v : α → AV} {H' : α → AH} (hf : P.funcs[f]? = some fn) (hb : fn.body = some c) (hn : vs.length ≤ fn.ntmps) (hB : H.all (fun x => decide (x.1 < p)) = true)
    (h : V P T p fn.ntmps c ⟨argFr vs 0, H, p⟩ (fun e s => ∃ x, I x ∧ FinS T fn p (v x) (H' x) e s)) : ∃ x, I x ∧ AFun P f p vs H (v x) (H' x) := by
  obtain ⟨e, s', h1, _, x, hI, s2, hw, he, ⟨rv, hr, hv⟩, hH⟩ := V_sound hT hm c _ _ h (HB.of_all hB)
  exact ⟨x, hI, (AFun.of_body hT hf hb hn he (h1.post hw) hr hv rfl).forget hH.get⟩
set_option maxHeartbeats 16000000 in
set_option maxRecDepth 100000 in
theorem Made_f (L : List (Fl × List Int)) (fl : Fl) (hL : L.length ≤ 14) (hxs : ∀ x ∈ L, x.2.length ≤ 9223372036854775807) : ∃ l : List E, MadeOk L.length l ∧ AFun Try.prog 27 0 [.ro fl 1 (L.map iA)] [] (.ro {} 15 (l.map en)) [] := by
  suffices h : ∃ l : List E, MadeOk L.length l ∧ AFun Try.prog 27 0 [.ro fl 1 (L.map iA)] [] (.slm {} 0 15 0 l.length) [(0, .row 15 ety (l.map en))] by
    obtain ⟨l, h1, h2⟩ := h
    exact ⟨l, h1, frz_en h2⟩
  refine AFun.of_SE T_ok mixed (H' := fun l : List E => [(0, .row 15 ety (l.map en))]) Try.func27 rfl (Nat.le_of_ble_eq_true rfl) rfl ?_
  have hml : (L.map iA).length = L.length := List.length_map _
  ((repeat ((conv => whnf); (first | (refine As.pre ?_; first | refine As.mk rfl ?_) | (refine Ck.pre ?_; first | refine Ck.mk rfl ?_)))); (try (conv => whnf)))
  refine LoopN.weak (s1 := madS L fl (0, 0, [])) ?sw1 ?_
  case sw1 => exact SW.mk id rfl rfl rfl ⟨.refl _, VLe2.nilslm, .refl _, .refl _, trivial⟩ (haveV.nil (Nat.le_refl _) trivial)
  refine LoopN.ind T_ok mixed (S := madS L fl) (fun i => L.length - i.1) (fun i => i.1 ≤ L.length ∧ (0 ≤ i.2.1 ∧ i.2.1 ≤ 59 * (i.1 : Int)) ∧ MadeOk i.1 i.2.2) (fun _ => rfl) (fun i hi ih => ?_) (0, 0, []) ⟨Nat.zero_le _, ⟨Int.le_refl _, Int.le_refl _⟩, MadeOk.nil _⟩
  obtain ⟨i, day, out⟩ := i
  obtain ⟨h1, h2, h3⟩ := hi
  simp only at h1 h2 h3 ih
  by_cases hlt : i < L.length
  case neg =>
    have hi : i = L.length := by omega
    subst hi
    clear ih
    ((repeat ((conv => whnf); (first | (refine As.pre ?_; first | refine As.mk rfl ?_) | (refine LetI.pre ?_; first | refine LetI.mk _ rfl ?_) | (refine LetB.pre ?_; first | refine LetB.decf (by omega) ?_) | (refine Br.pre ?_; first | refine Br.ff rfl ?_) | (refine Ck.pre ?_; first | refine Ck.mk rfl ?_)))); (try (conv => whnf)))
    exact ⟨out, h3, ⟨[(2, .slm {} 0 15 0 out.length)], [(0, .row 15 ety (out.map en))], 1⟩, SW.mk id rfl rfl (namesAll.row (pure_en _) rfl) ⟨.refl _, trivial⟩ (haveV.row (pure_en _) rfl trivial), .inl rfl, ⟨_, rfl, rfl⟩, rfl, trivial⟩
  have hld : iA (L.getD i L0) = (L.map iA).getD i (.sc undef) := mapD L0 hlt
  have hx := hxs (L.getD i L0) (by rw [List.getD_eq_getElem?_getD, List.getElem?_eq_getElem hlt]; exact List.getElem_mem _)
  generalize L.getD i L0 = x at hld hx
  obtain ⟨fx, xs⟩ := x
  simp only at hx hld
  obtain ⟨v0, a0, r0, q0, N0⟩ := made_next fx xs hx 0 11 (Nat.zero_le _) (by omega)
  obtain ⟨v1, a1, r1, q1, N1⟩ := made_next fx xs hx a0 60 q0 (by omega)
  obtain ⟨v2, a2, r2, q2, N2⟩ := made_next fx xs hx a1 3 q1 (by omega)
  obtain ⟨v3, a3, r3, q3, N3⟩ := made_next fx xs hx a2 4 q2 (by omega)
  obtain ⟨v4, a4, r4, q4, N4⟩ := made_next fx xs hx a3 20 q3 (by omega)
  obtain ⟨v5, a5, r5, q5, N5⟩ := made_next fx xs hx a4 10 q4 (by omega)
  obtain ⟨kd, hkd, hk⟩ := kinds_get v0 r0
  have hl13 : i < 14 := by omega
  have hlen := h3.len
  have hmul : 0 ≤ v3 * v4 ∧ v3 * v4 ≤ 3 * 19 := ⟨Int.mul_nonneg r3.1 r4.1, Int.mul_le_mul (by omega) (by omega) r4.1 (by omega)⟩
  have hday : 0 ≤ day + v1 ∧ day + v1 ≤ 59 * ((i + 1 : Nat) : Int) := by omega
  have hms : L.length - (i + 1) < L.length - i := by omega
  have hd : 59 * (i : Int) ≤ 59 * 13 := by omega
  ((repeat ((conv => whnf); (first | (refine LetN.pre ?_; first | ((conv => arg 1; whnf); refine LetN.mk ?_)) | (refine As.pre ?_; first | refine As.mk rfl ?_ | (refine As.mk ?_ ?_; · ((repeat' (refine andT ?_ ?_)) <;> (first | rfl | assumption | exact decide_eq_true (by omega) | exact decide_eq_true (by dsimp only; omega) | exact decide_eq_true (by simp; omega) | (simp; done))))) | (refine LetV.pre ?_; first | refine LetV.mk (t := 22) _ hld ?_ | refine LetV.mk (t := 79) _ hk ?_ | refine LetV.mk (.sc (.int _ _)) rfl ?_ | refine LetV.mk (.ro _ _ _) rfl ?_) | (refine LetI.pre ?_; first | refine LetI.wrap (by omega) (by omega) ?_ | refine LetI.mk _ rfl ?_) | (refine LetB.pre ?_; first | refine LetB.dect (by omega) ?_ | refine LetB.mk _ rfl ?_) | (refine Br.pre ?_; first | refine Br.tt rfl ?_) | (refine Ck.pre ?_; first | refine Ck.mk rfl ?_) | (refine LetL.pre ?_; first | refine LetL.mk [_] rfl ?_) | (refine CallN.pre ?_; first | refine CallN.own (fun _ => 1) N0 (CallOk.mk' rfl rfl rfl (namesAll.row rfl rfl) rfl (namesAll.row rfl rfl) (haveAll.row rfl rfl trivial)) ?_ | refine CallN.own (fun _ => 1) N1 (CallOk.mk' rfl rfl rfl (namesAll.row rfl rfl) rfl (namesAll.row rfl rfl) (haveAll.row rfl rfl trivial)) ?_ | refine CallN.own (fun _ => 1) N2 (CallOk.mk' rfl rfl rfl (namesAll.row rfl rfl) rfl (namesAll.row rfl rfl) (haveAll.row rfl rfl trivial)) ?_ | refine CallN.own (fun _ => 1) N3 (CallOk.mk' rfl rfl rfl (namesAll.row rfl rfl) rfl (namesAll.row rfl rfl) (haveAll.row rfl rfl trivial)) ?_ | refine CallN.own (fun _ => 1) N4 (CallOk.mk' rfl rfl rfl (namesAll.row rfl rfl) rfl (namesAll.row rfl rfl) (haveAll.row rfl rfl trivial)) ?_ | refine CallN.own (fun _ => 1) N5 (CallOk.mk' rfl rfl rfl (namesAll.row rfl rfl) rfl (namesAll.row rfl rfl) (haveAll.row rfl rfl trivial)) ?_)))); (try (conv => whnf)))








  have t2 := tmod_bound v5 (m := 2) (by omega)
  have p2 := Int.tmod_nonneg 2 r5.1
  have hol : (out.map en).length = out.length := List.length_map _
  have hst := stor_all out
  have hr := room_en (n := out.length) (by omega)
  have hr1 := room_en (n := out.length + 1) (by omega)
  clear hk N0 N1 N2 N3 N4 N5 hld
  generalize hW : (max 0 (day + v1 - v3 * v4) : Int) = W
  have hWr : 0 ≤ W ∧ W ≤ 900 := by omega
  clear hW
  rcases hkd with rfl | rfl | rfl | rfl | rfl | rfl | rfl | rfl | rfl
  · obtain ⟨e, he⟩ : ∃ e : E, e = ⟨(i : Int) + 1, 1, 1 + v2, 1, day + v1, W, ⟨#[]⟩, 0, 0, 0, 0, 1 + v5.tmod 2, 0, 0, ⟨#[]⟩⟩ := ⟨_, rfl⟩
    have hsz : e.course.size ≤ 2 := by rw [he]; exact Nat.zero_le 2
    have hadd : ∀ h : chkE (out ++ [e]) = 0, MadeOk (i + 1) (out ++ [e]) := fun h => h3.add h (by rw [he]) (by rw [he]) (by rw [he]; show day + v1 ≤ 59 * ((i : Int) + 1); omega) hsz
    ((repeat ((conv => whnf); (first | (refine LetN.pre ?_; first | ((conv => arg 1; whnf); refine LetN.mk ?_)) | (refine As.pre ?_; first | refine As.mk rfl ?_ | (refine As.mk ?_ ?_; · ((repeat' (refine andT ?_ ?_)) <;> (first | rfl | assumption | exact stor_en _ _ _ | exact stor_all _ | exact decide_eq_true (by simp; omega) | (simp; done) | (simp [room]; omega))))) | (refine LetV.pre ?_; first | refine LetV.mk (.agg _) rfl ?_) | (refine LetI.pre ?_; first | refine LetI.wrap (by omega) (by omega) ?_ | refine LetI.mk _ rfl ?_) | (refine LetB.pre ?_; first | refine LetB.beq (fun h => ?_) (fun h => ?_)) | (refine Br.pre ?_; first | refine Br.tt rfl ?_) | (refine Ck.pre ?_; first | refine Ck.drawn (by kernel_rfl) ?_ | refine Ck.mk rfl ?_) | (refine LetL.pre ?_; first | refine LetL.mk (ty := ety) (out.map en) (copy_en out) ?_ | refine LetL.mk (ty := ety) _ (app_en2 he out _ (by first | rfl | (simp; done))) ?_ | refine LetL.mk [_] rfl ?_) | (refine CallN.pre ?_; first | refine CallN.lend (rCheck_l (out ++ [e]) _ (courses_big h3 hsz)) rfl (.full rfl (pure_en _) (by first | rfl | (simp; done)) .nil) ?_)))); (try (conv => whnf)))





    · refine LoopN.weak ?_ (ih (i + 1, day + v1, out ++ [e]) ⟨Nat.succ_le_of_lt hlt, hday, hadd h⟩ hms)
      exact SW.mk (fun i => if i = 0 then 5 else i) rfl rfl (namesAll.row (pure_en _) rfl) ⟨.refl _, VLe2.slm_of (by simp), .refl _, VLe2.int (by omega), trivial⟩ (haveV.row (pure_en _) rfl trivial)
    ((repeat ((conv => whnf); (first | (refine As.pre ?_; first | refine As.mk rfl ?_) | (refine LetI.pre ?_; first | refine LetI.wrap (by omega) (by omega) ?_) | (refine Br.pre ?_; first | refine Br.ff rfl ?_) | (refine Ck.pre ?_; first | refine Ck.mk rfl ?_)))); (try (conv => whnf)))
    · refine LoopN.weak ?_ (ih (i + 1, day + v1, out) ⟨Nat.succ_le_of_lt hlt, hday, h3.more⟩ hms)
      exact SW.mk id rfl rfl (namesAll.row (pure_en _) rfl) ⟨.refl _, .refl _, .refl _, VLe2.int (by omega), trivial⟩ (haveV.row (pure_en _) rfl trivial)
  · obtain ⟨v6, a6, r6, q6, N6⟩ := made_next fx xs hx a5 3 q5 (by omega)
    obtain ⟨e, he⟩ : ∃ e : E, e = ⟨(i : Int) + 1, 1, 1 + v2, 2, day + v1, W, ⟨#[]⟩, 0, 0, 0, 0, 1 + v5.tmod 2, 1 + v6, 0, ⟨#[]⟩⟩ := ⟨_, rfl⟩
    have hsz : e.course.size ≤ 2 := by rw [he]; exact Nat.zero_le 2
    have hadd : ∀ h : chkE (out ++ [e]) = 0, MadeOk (i + 1) (out ++ [e]) := fun h => h3.add h (by rw [he]) (by rw [he]) (by rw [he]; show day + v1 ≤ 59 * ((i : Int) + 1); omega) hsz
    ((repeat ((conv => whnf); (first | (refine LetN.pre ?_; first | ((conv => arg 1; whnf); refine LetN.mk ?_)) | (refine As.pre ?_; first | refine As.mk rfl ?_ | (refine As.mk ?_ ?_; · ((repeat' (refine andT ?_ ?_)) <;> (first | rfl | assumption | exact stor_en _ _ _ | exact stor_all _ | exact decide_eq_true (by simp; omega) | (simp; done) | (simp [room]; omega))))) | (refine LetV.pre ?_; first | refine LetV.mk (.agg _) rfl ?_) | (refine LetI.pre ?_; first | refine LetI.wrap (by omega) (by omega) ?_ | refine LetI.mk _ rfl ?_) | (refine LetB.pre ?_; first | refine LetB.tt rfl ?_ | refine LetB.beq (fun h => ?_) (fun h => ?_)) | (refine Br.pre ?_; first | refine Br.tt rfl ?_ | refine Br.ff rfl ?_) | (refine Ck.pre ?_; first | refine Ck.drawn (by kernel_rfl) ?_ | refine Ck.mk rfl ?_) | (refine LetL.pre ?_; first | refine LetL.mk (ty := ety) (out.map en) (copy_en out) ?_ | refine LetL.mk (ty := ety) _ (app_en2 he out _ (by first | rfl | (simp; done))) ?_ | refine LetL.mk [_] rfl ?_) | (refine CallN.pre ?_; first | refine CallN.own (fun _ => 1) N6 (CallOk.mk' rfl rfl rfl (namesAll.row rfl rfl) rfl (namesAll.row rfl rfl) (haveAll.row rfl rfl trivial)) ?_ | refine CallN.lend (rCheck_l (out ++ [e]) _ (courses_big h3 hsz)) rfl (.full rfl (pure_en _) (by first | rfl | (simp; done)) .nil) ?_)))); (try (conv => whnf)))






    · refine LoopN.weak ?_ (ih (i + 1, day + v1, out ++ [e]) ⟨Nat.succ_le_of_lt hlt, hday, hadd h⟩ hms)
      exact SW.mk (fun i => if i = 0 then 5 else i) rfl rfl (namesAll.row (pure_en _) rfl) ⟨.refl _, VLe2.slm_of (by simp), .refl _, VLe2.int (by omega), trivial⟩ (haveV.row (pure_en _) rfl trivial)
    ((repeat ((conv => whnf); (first | (refine As.pre ?_; first | refine As.mk rfl ?_) | (refine LetI.pre ?_; first | refine LetI.wrap (by omega) (by omega) ?_) | (refine Br.pre ?_; first | refine Br.ff rfl ?_) | (refine Ck.pre ?_; first | refine Ck.mk rfl ?_)))); (try (conv => whnf)))
    · refine LoopN.weak ?_ (ih (i + 1, day + v1, out) ⟨Nat.succ_le_of_lt hlt, hday, h3.more⟩ hms)
      exact SW.mk id rfl rfl (namesAll.row (pure_en _) rfl) ⟨.refl _, .refl _, .refl _, VLe2.int (by omega), trivial⟩ (haveV.row (pure_en _) rfl trivial)
  · obtain ⟨v6, a6, r6, q6, N6⟩ := made_next fx xs hx a5 12 q5 (by omega)
    obtain ⟨v7, a7, r7, q7, N7⟩ := made_next fx xs hx a6 11 q6 (by omega)
    obtain ⟨n, hn⟩ : ∃ n : Int, n = v5.tmod (((codesL.map str).length : Nat) : Int) := ⟨_, rfl⟩
    have hn0 : 0 ≤ n ∧ n < 6 := hn ▸ ⟨Int.tmod_nonneg 6 r5.1, Int.tmod_lt_of_pos v5 (by decide)⟩
    obtain ⟨sc, hsc, hcd⟩ := codes_get n hn0
    have hcl : (codesL.map str).length = 6 := rfl
    have hnz : (((codesL.map str).length : Int) != 0) = true := rfl
    have hez : (((codesL.map str).length : Int) == 0) = false := rfl
    obtain ⟨e, he⟩ : ∃ e : E, e = ⟨(i : Int) + 1, 1, 1 + v2, 3, day + v1, W, sc, 1 + v6, 10 * v7, 0, 0, 0, 0, 0, ⟨#[]⟩⟩ := ⟨_, rfl⟩
    have hsz : e.course.size ≤ 2 := by rw [he]; exact hsc
    have hadd : ∀ h : chkE (out ++ [e]) = 0, MadeOk (i + 1) (out ++ [e]) := fun h => h3.add h (by rw [he]) (by rw [he]) (by rw [he]; show day + v1 ≤ 59 * ((i : Int) + 1); omega) hsz
    ((repeat ((conv => whnf); (first | (refine LetN.pre ?_; first | ((conv => arg 1; whnf); refine LetN.mk ?_)) | (refine As.pre ?_; first | refine As.mk rfl ?_ | (refine As.mk ?_ ?_; · ((repeat' (refine andT ?_ ?_)) <;> (first | rfl | assumption | exact stor_en _ _ _ | exact stor_all _ | exact decide_eq_true (by simp; omega) | (simp; done) | (simp [room]; omega)))) | (refine As.mk ?_ ?_; · ((repeat' (refine andT ?_ ?_)) <;> (first | rfl | assumption | exact decide_eq_true (by omega) | exact decide_eq_true (by dsimp only; omega) | exact decide_eq_true (by simp; omega) | (simp; done))))) | (refine LetV.pre ?_; first | refine LetV.mk (t := 83) _ hcd ?_ | refine LetV.mk (.sc _) rfl ?_ | refine LetV.mk (.agg _) rfl ?_) | (refine LetI.pre ?_; first | refine LetI.mk (o := some .rem) n hn ?_ | refine LetI.wrap (by omega) (by omega) ?_ | refine LetI.mk _ rfl ?_) | (refine LetB.pre ?_; first | refine LetB.tt rfl ?_ | refine LetB.ff rfl ?_ | refine LetB.beq (fun h => ?_) (fun h => ?_)) | (refine Br.pre ?_; first | refine Br.tt rfl ?_ | refine Br.ff rfl ?_) | (refine Ck.pre ?_; first | refine Ck.drawn (by kernel_rfl) ?_ | refine Ck.mk rfl ?_) | (refine LetL.pre ?_; first | refine LetL.mk (ty := ety) (out.map en) (copy_en out) ?_ | refine LetL.mk (ty := ety) _ (app_en2 he out _ (by first | rfl | (simp; done))) ?_ | refine LetL.mk [_] rfl ?_) | (refine CallN.pre ?_; first | refine CallN.own (fun _ => 1) N6 (CallOk.mk' rfl rfl rfl (namesAll.row rfl rfl) rfl (namesAll.row rfl rfl) (haveAll.row rfl rfl trivial)) ?_ | refine CallN.own (fun _ => 1) N7 (CallOk.mk' rfl rfl rfl (namesAll.row rfl rfl) rfl (namesAll.row rfl rfl) (haveAll.row rfl rfl trivial)) ?_ | refine CallN.pure Codes_f rfl rfl ?_ | refine CallN.lend (rCheck_l (out ++ [e]) _ (courses_big h3 hsz)) rfl (.full rfl (pure_en _) (by first | rfl | (simp; done)) .nil) ?_)))); (try (conv => whnf)))












    · refine LoopN.weak ?_ (ih (i + 1, day + v1, out ++ [e]) ⟨Nat.succ_le_of_lt hlt, hday, hadd h⟩ hms)
      exact SW.mk (fun i => if i = 0 then 5 else i) rfl rfl (namesAll.row (pure_en _) rfl) ⟨.refl _, VLe2.slm_of (by simp), .refl _, VLe2.int (by omega), trivial⟩ (haveV.row (pure_en _) rfl trivial)
    ((repeat ((conv => whnf); (first | (refine As.pre ?_; first | refine As.mk rfl ?_) | (refine LetI.pre ?_; first | refine LetI.wrap (by omega) (by omega) ?_) | (refine Br.pre ?_; first | refine Br.ff rfl ?_) | (refine Ck.pre ?_; first | refine Ck.mk rfl ?_)))); (try (conv => whnf)))
    · refine LoopN.weak ?_ (ih (i + 1, day + v1, out) ⟨Nat.succ_le_of_lt hlt, hday, h3.more⟩ hms)
      exact SW.mk id rfl rfl (namesAll.row (pure_en _) rfl) ⟨.refl _, .refl _, .refl _, VLe2.int (by omega), trivial⟩ (haveV.row (pure_en _) rfl trivial)
  · obtain ⟨v6, a6, r6, q6, N6⟩ := made_next fx xs hx a5 11 q5 (by omega)
    have hT : AFun Try.prog 50 0 [int 4] [] (int 3) [] := target_f 4
    obtain ⟨x, b, hp⟩ : ∃ x b, AFun Try.prog 49 0 [.ro {} 15 (out.map en), int 3, int v5] [] (.tup [en x, bool b]) [] := ⟨_, _, pick_f out 3 v5 {} (by omega) r5.1⟩
    obtain ⟨e, he⟩ : ∃ e : E, e = ⟨(i : Int) + 1, 1, x.student, 4, day + v1, max W x.on_, ⟨#[]⟩, 0, 10 * v6, x.id, 0, 0, 0, 0, ⟨#[]⟩⟩ := ⟨_, rfl⟩
    have hsz : e.course.size ≤ 2 := by rw [he]; exact Nat.zero_le 2
    have hadd : ∀ h : chkE (out ++ [e]) = 0, MadeOk (i + 1) (out ++ [e]) := fun h => h3.add h (by rw [he]) (by rw [he]) (by rw [he]; show day + v1 ≤ 59 * ((i : Int) + 1); omega) hsz
    cases b
    · ((repeat ((conv => whnf); (first | (refine LetN.pre ?_; first | ((conv => arg 1; whnf); refine LetN.mk ?_)) | (refine As.pre ?_; first | refine As.mk rfl ?_) | (refine LetI.pre ?_; first | refine LetI.wrap (by omega) (by omega) ?_) | (refine LetB.pre ?_; first | refine LetB.ff rfl ?_) | (refine Br.pre ?_; first | refine Br.tt rfl ?_ | refine Br.ff rfl ?_) | (refine Ck.pre ?_; first | refine Ck.mk rfl ?_) | (refine LetL.pre ?_; first | refine LetL.mk [_] rfl ?_) | (refine CallN.pre ?_; first | refine CallN.pure hT rfl rfl ?_ | refine CallN.lend hp rfl (.full rfl (pure_en _) hol.symm (.same rfl (.same rfl .nil))) ?_)))); (try (conv => whnf)))




      · refine LoopN.weak ?_ (ih (i + 1, day + v1, out) ⟨Nat.succ_le_of_lt hlt, hday, h3.more⟩ hms)
        exact SW.mk id rfl rfl (namesAll.row (pure_en _) rfl) ⟨.refl _, .refl _, .refl _, VLe2.int (by omega), trivial⟩ (haveV.row (pure_en _) rfl trivial)
    · ((repeat ((conv => whnf); (first | (refine LetN.pre ?_; first | ((conv => arg 1; whnf); refine LetN.mk ?_)) | (refine As.pre ?_; first | refine As.mk rfl ?_ | (refine As.mk ?_ ?_; · ((repeat' (refine andT ?_ ?_)) <;> (first | rfl | assumption | exact stor_en _ _ _ | exact stor_all _ | exact decide_eq_true (by simp; omega) | (simp; done) | (simp [room]; omega))))) | (refine LetV.pre ?_; first | refine LetV.mk (.sc (.int _ _)) rfl ?_ | refine LetV.mk (.agg _) rfl ?_) | (refine LetI.pre ?_; first | refine LetI.wrap (by omega) (by omega) ?_ | refine LetI.mk _ rfl ?_) | (refine LetB.pre ?_; first | refine LetB.tt rfl ?_ | refine LetB.ff rfl ?_ | refine LetB.beq (fun h => ?_) (fun h => ?_)) | (refine Br.pre ?_; first | refine Br.tt rfl ?_ | refine Br.ff rfl ?_) | (refine Ck.pre ?_; first | refine Ck.drawn (by kernel_rfl) ?_ | refine Ck.mk rfl ?_) | (refine LetL.pre ?_; first | refine LetL.mk (ty := ety) (out.map en) (copy_en out) ?_ | refine LetL.mk (ty := ety) _ (app_en2 he out _ (by first | rfl | (simp; done))) ?_ | refine LetL.mk [_] rfl ?_) | (refine CallN.pre ?_; first | refine CallN.own (fun _ => 1) N6 (CallOk.mk' rfl rfl rfl (namesAll.row rfl rfl) rfl (namesAll.row rfl rfl) (haveAll.row rfl rfl trivial)) ?_ | refine CallN.pure hT rfl rfl ?_ | refine CallN.lend hp rfl (.full rfl (pure_en _) hol.symm (.same rfl (.same rfl .nil))) ?_ | refine CallN.lend (rCheck_l (out ++ [e]) _ (courses_big h3 hsz)) rfl (.full rfl (pure_en _) (by first | rfl | (simp; done)) .nil) ?_)))); (try (conv => whnf)))








      · refine LoopN.weak ?_ (ih (i + 1, day + v1, out ++ [e]) ⟨Nat.succ_le_of_lt hlt, hday, hadd h⟩ hms)
        exact SW.mk (fun i => if i = 0 then 6 else i) rfl rfl (namesAll.row (pure_en _) rfl) ⟨.refl _, VLe2.slm_of (by simp), .refl _, VLe2.int (by omega), trivial⟩ (haveV.row (pure_en _) rfl trivial)
      ((repeat ((conv => whnf); (first | (refine As.pre ?_; first | refine As.mk rfl ?_) | (refine LetI.pre ?_; first | refine LetI.wrap (by omega) (by omega) ?_) | (refine Br.pre ?_; first | refine Br.ff rfl ?_) | (refine Ck.pre ?_; first | refine Ck.mk rfl ?_)))); (try (conv => whnf)))
      · refine LoopN.weak ?_ (ih (i + 1, day + v1, out) ⟨Nat.succ_le_of_lt hlt, hday, h3.more⟩ hms)
        exact SW.mk id rfl rfl (namesAll.row (pure_en _) rfl) ⟨.refl _, .refl _, .refl _, VLe2.int (by omega), trivial⟩ (haveV.row (pure_en _) rfl trivial)
  · have hT : AFun Try.prog 50 0 [int 5] [] (int 3) [] := target_f 5
    obtain ⟨x, b, hp⟩ : ∃ x b, AFun Try.prog 49 0 [.ro {} 15 (out.map en), int 3, int v5] [] (.tup [en x, bool b]) [] := ⟨_, _, pick_f out 3 v5 {} (by omega) r5.1⟩
    obtain ⟨e, he⟩ : ∃ e : E, e = ⟨(i : Int) + 1, 1, x.student, 5, day + v1, max W x.on_, ⟨#[]⟩, 0, 0, x.id, 0, 0, 0, 0, ⟨#[]⟩⟩ := ⟨_, rfl⟩
    have hsz : e.course.size ≤ 2 := by rw [he]; exact Nat.zero_le 2
    have hadd : ∀ h : chkE (out ++ [e]) = 0, MadeOk (i + 1) (out ++ [e]) := fun h => h3.add h (by rw [he]) (by rw [he]) (by rw [he]; show day + v1 ≤ 59 * ((i : Int) + 1); omega) hsz
    cases b
    · ((repeat ((conv => whnf); (first | (refine LetN.pre ?_; first | ((conv => arg 1; whnf); refine LetN.mk ?_)) | (refine As.pre ?_; first | refine As.mk rfl ?_) | (refine LetI.pre ?_; first | refine LetI.wrap (by omega) (by omega) ?_) | (refine LetB.pre ?_; first | refine LetB.ff rfl ?_) | (refine Br.pre ?_; first | refine Br.tt rfl ?_ | refine Br.ff rfl ?_) | (refine Ck.pre ?_; first | refine Ck.mk rfl ?_) | (refine LetL.pre ?_; first | refine LetL.mk [_] rfl ?_) | (refine CallN.pre ?_; first | refine CallN.pure hT rfl rfl ?_ | refine CallN.lend hp rfl (.full rfl (pure_en _) hol.symm (.same rfl (.same rfl .nil))) ?_)))); (try (conv => whnf)))



      · refine LoopN.weak ?_ (ih (i + 1, day + v1, out) ⟨Nat.succ_le_of_lt hlt, hday, h3.more⟩ hms)
        exact SW.mk id rfl rfl (namesAll.row (pure_en _) rfl) ⟨.refl _, .refl _, .refl _, VLe2.int (by omega), trivial⟩ (haveV.row (pure_en _) rfl trivial)
    · ((repeat ((conv => whnf); (first | (refine LetN.pre ?_; first | ((conv => arg 1; whnf); refine LetN.mk ?_)) | (refine As.pre ?_; first | refine As.mk rfl ?_ | (refine As.mk ?_ ?_; · ((repeat' (refine andT ?_ ?_)) <;> (first | rfl | assumption | exact stor_en _ _ _ | exact stor_all _ | exact decide_eq_true (by simp; omega) | (simp; done) | (simp [room]; omega))))) | (refine LetV.pre ?_; first | refine LetV.mk (.sc (.int _ _)) rfl ?_ | refine LetV.mk (.agg _) rfl ?_) | (refine LetI.pre ?_; first | refine LetI.wrap (by omega) (by omega) ?_ | refine LetI.mk _ rfl ?_) | (refine LetB.pre ?_; first | refine LetB.ff rfl ?_ | refine LetB.beq (fun h => ?_) (fun h => ?_)) | (refine Br.pre ?_; first | refine Br.tt rfl ?_ | refine Br.ff rfl ?_) | (refine Ck.pre ?_; first | refine Ck.drawn (by kernel_rfl) ?_ | refine Ck.mk rfl ?_) | (refine LetL.pre ?_; first | refine LetL.mk (ty := ety) (out.map en) (copy_en out) ?_ | refine LetL.mk (ty := ety) _ (app_en2 he out _ (by first | rfl | (simp; done))) ?_ | refine LetL.mk [_] rfl ?_) | (refine CallN.pre ?_; first | refine CallN.pure hT rfl rfl ?_ | refine CallN.lend hp rfl (.full rfl (pure_en _) hol.symm (.same rfl (.same rfl .nil))) ?_ | refine CallN.lend (rCheck_l (out ++ [e]) _ (courses_big h3 hsz)) rfl (.full rfl (pure_en _) (by first | rfl | (simp; done)) .nil) ?_)))); (try (conv => whnf)))







      · refine LoopN.weak ?_ (ih (i + 1, day + v1, out ++ [e]) ⟨Nat.succ_le_of_lt hlt, hday, hadd h⟩ hms)
        exact SW.mk (fun i => if i = 0 then 6 else i) rfl rfl (namesAll.row (pure_en _) rfl) ⟨.refl _, VLe2.slm_of (by simp), .refl _, VLe2.int (by omega), trivial⟩ (haveV.row (pure_en _) rfl trivial)
      ((repeat ((conv => whnf); (first | (refine As.pre ?_; first | refine As.mk rfl ?_) | (refine LetI.pre ?_; first | refine LetI.wrap (by omega) (by omega) ?_) | (refine Br.pre ?_; first | refine Br.ff rfl ?_) | (refine Ck.pre ?_; first | refine Ck.mk rfl ?_)))); (try (conv => whnf)))
      · refine LoopN.weak ?_ (ih (i + 1, day + v1, out) ⟨Nat.succ_le_of_lt hlt, hday, h3.more⟩ hms)
        exact SW.mk id rfl rfl (namesAll.row (pure_en _) rfl) ⟨.refl _, .refl _, .refl _, VLe2.int (by omega), trivial⟩ (haveV.row (pure_en _) rfl trivial)
  · have hT : AFun Try.prog 50 0 [int 6] [] (int 5) [] := target_f 6
    obtain ⟨x, b, hp⟩ : ∃ x b, AFun Try.prog 49 0 [.ro {} 15 (out.map en), int 5, int v5] [] (.tup [en x, bool b]) [] := ⟨_, _, pick_f out 5 v5 {} (by omega) r5.1⟩
    obtain ⟨e, he⟩ : ∃ e : E, e = ⟨(i : Int) + 1, 1, x.student, 6, day + v1, max W x.on_, ⟨#[]⟩, 0, 0, x.id, 0, 0, 0, 0, ⟨#[]⟩⟩ := ⟨_, rfl⟩
    have hsz : e.course.size ≤ 2 := by rw [he]; exact Nat.zero_le 2
    have hadd : ∀ h : chkE (out ++ [e]) = 0, MadeOk (i + 1) (out ++ [e]) := fun h => h3.add h (by rw [he]) (by rw [he]) (by rw [he]; show day + v1 ≤ 59 * ((i : Int) + 1); omega) hsz
    cases b
    · ((repeat ((conv => whnf); (first | (refine LetN.pre ?_; first | ((conv => arg 1; whnf); refine LetN.mk ?_)) | (refine As.pre ?_; first | refine As.mk rfl ?_) | (refine LetI.pre ?_; first | refine LetI.wrap (by omega) (by omega) ?_) | (refine LetB.pre ?_; first | refine LetB.ff rfl ?_) | (refine Br.pre ?_; first | refine Br.tt rfl ?_ | refine Br.ff rfl ?_) | (refine Ck.pre ?_; first | refine Ck.mk rfl ?_) | (refine LetL.pre ?_; first | refine LetL.mk [_] rfl ?_) | (refine CallN.pre ?_; first | refine CallN.pure hT rfl rfl ?_ | refine CallN.lend hp rfl (.full rfl (pure_en _) hol.symm (.same rfl (.same rfl .nil))) ?_)))); (try (conv => whnf)))



      · refine LoopN.weak ?_ (ih (i + 1, day + v1, out) ⟨Nat.succ_le_of_lt hlt, hday, h3.more⟩ hms)
        exact SW.mk id rfl rfl (namesAll.row (pure_en _) rfl) ⟨.refl _, .refl _, .refl _, VLe2.int (by omega), trivial⟩ (haveV.row (pure_en _) rfl trivial)
    · ((repeat ((conv => whnf); (first | (refine LetN.pre ?_; first | ((conv => arg 1; whnf); refine LetN.mk ?_)) | (refine As.pre ?_; first | refine As.mk rfl ?_ | (refine As.mk ?_ ?_; · ((repeat' (refine andT ?_ ?_)) <;> (first | rfl | assumption | exact stor_en _ _ _ | exact stor_all _ | exact decide_eq_true (by simp; omega) | (simp; done) | (simp [room]; omega))))) | (refine LetV.pre ?_; first | refine LetV.mk (.sc (.int _ _)) rfl ?_ | refine LetV.mk (.agg _) rfl ?_) | (refine LetI.pre ?_; first | refine LetI.wrap (by omega) (by omega) ?_ | refine LetI.mk _ rfl ?_) | (refine LetB.pre ?_; first | refine LetB.ff rfl ?_ | refine LetB.beq (fun h => ?_) (fun h => ?_)) | (refine Br.pre ?_; first | refine Br.tt rfl ?_ | refine Br.ff rfl ?_) | (refine Ck.pre ?_; first | refine Ck.drawn (by kernel_rfl) ?_ | refine Ck.mk rfl ?_) | (refine LetL.pre ?_; first | refine LetL.mk (ty := ety) (out.map en) (copy_en out) ?_ | refine LetL.mk (ty := ety) _ (app_en2 he out _ (by first | rfl | (simp; done))) ?_ | refine LetL.mk [_] rfl ?_) | (refine CallN.pre ?_; first | refine CallN.pure hT rfl rfl ?_ | refine CallN.lend hp rfl (.full rfl (pure_en _) hol.symm (.same rfl (.same rfl .nil))) ?_ | refine CallN.lend (rCheck_l (out ++ [e]) _ (courses_big h3 hsz)) rfl (.full rfl (pure_en _) (by first | rfl | (simp; done)) .nil) ?_)))); (try (conv => whnf)))







      · refine LoopN.weak ?_ (ih (i + 1, day + v1, out ++ [e]) ⟨Nat.succ_le_of_lt hlt, hday, hadd h⟩ hms)
        exact SW.mk (fun i => if i = 0 then 6 else i) rfl rfl (namesAll.row (pure_en _) rfl) ⟨.refl _, VLe2.slm_of (by simp), .refl _, VLe2.int (by omega), trivial⟩ (haveV.row (pure_en _) rfl trivial)
      ((repeat ((conv => whnf); (first | (refine As.pre ?_; first | refine As.mk rfl ?_) | (refine LetI.pre ?_; first | refine LetI.wrap (by omega) (by omega) ?_) | (refine Br.pre ?_; first | refine Br.ff rfl ?_) | (refine Ck.pre ?_; first | refine Ck.mk rfl ?_)))); (try (conv => whnf)))
      · refine LoopN.weak ?_ (ih (i + 1, day + v1, out) ⟨Nat.succ_le_of_lt hlt, hday, h3.more⟩ hms)
        exact SW.mk id rfl rfl (namesAll.row (pure_en _) rfl) ⟨.refl _, .refl _, .refl _, VLe2.int (by omega), trivial⟩ (haveV.row (pure_en _) rfl trivial)
  · obtain ⟨e, he⟩ : ∃ e : E, e = ⟨(i : Int) + 1, 1, 1 + v2, 7, day + v1, W, ⟨#[]⟩, 0, 0, 0, 2 + v5.tmod 2, 0, 0, 0, ⟨#[]⟩⟩ := ⟨_, rfl⟩
    have hsz : e.course.size ≤ 2 := by rw [he]; exact Nat.zero_le 2
    have hadd : ∀ h : chkE (out ++ [e]) = 0, MadeOk (i + 1) (out ++ [e]) := fun h => h3.add h (by rw [he]) (by rw [he]) (by rw [he]; show day + v1 ≤ 59 * ((i : Int) + 1); omega) hsz
    ((repeat ((conv => whnf); (first | (refine LetN.pre ?_; first | ((conv => arg 1; whnf); refine LetN.mk ?_)) | (refine As.pre ?_; first | refine As.mk rfl ?_ | (refine As.mk ?_ ?_; · ((repeat' (refine andT ?_ ?_)) <;> (first | rfl | assumption | exact stor_en _ _ _ | exact stor_all _ | exact decide_eq_true (by simp; omega) | (simp; done) | (simp [room]; omega))))) | (refine LetV.pre ?_; first | refine LetV.mk (.agg _) rfl ?_) | (refine LetI.pre ?_; first | refine LetI.wrap (by omega) (by omega) ?_ | refine LetI.mk _ rfl ?_) | (refine LetB.pre ?_; first | refine LetB.tt rfl ?_ | refine LetB.ff rfl ?_ | refine LetB.beq (fun h => ?_) (fun h => ?_)) | (refine Br.pre ?_; first | refine Br.tt rfl ?_ | refine Br.ff rfl ?_) | (refine Ck.pre ?_; first | refine Ck.drawn (by kernel_rfl) ?_ | refine Ck.mk rfl ?_) | (refine LetL.pre ?_; first | refine LetL.mk (ty := ety) (out.map en) (copy_en out) ?_ | refine LetL.mk (ty := ety) _ (app_en2 he out _ (by first | rfl | (simp; done))) ?_ | refine LetL.mk [_] rfl ?_) | (refine CallN.pre ?_; first | refine CallN.lend (rCheck_l (out ++ [e]) _ (courses_big h3 hsz)) rfl (.full rfl (pure_en _) (by first | rfl | (simp; done)) .nil) ?_)))); (try (conv => whnf)))





    · refine LoopN.weak ?_ (ih (i + 1, day + v1, out ++ [e]) ⟨Nat.succ_le_of_lt hlt, hday, hadd h⟩ hms)
      exact SW.mk (fun i => if i = 0 then 5 else i) rfl rfl (namesAll.row (pure_en _) rfl) ⟨.refl _, VLe2.slm_of (by simp), .refl _, VLe2.int (by omega), trivial⟩ (haveV.row (pure_en _) rfl trivial)
    ((repeat ((conv => whnf); (first | (refine As.pre ?_; first | refine As.mk rfl ?_) | (refine LetI.pre ?_; first | refine LetI.wrap (by omega) (by omega) ?_) | (refine Br.pre ?_; first | refine Br.ff rfl ?_) | (refine Ck.pre ?_; first | refine Ck.mk rfl ?_)))); (try (conv => whnf)))
    · refine LoopN.weak ?_ (ih (i + 1, day + v1, out) ⟨Nat.succ_le_of_lt hlt, hday, h3.more⟩ hms)
      exact SW.mk id rfl rfl (namesAll.row (pure_en _) rfl) ⟨.refl _, .refl _, .refl _, VLe2.int (by omega), trivial⟩ (haveV.row (pure_en _) rfl trivial)
  · obtain ⟨e, he⟩ : ∃ e : E, e = ⟨(i : Int) + 1, 1, 1 + v2, 8, day + v1, W, ⟨#[]⟩, 0, 0, 0, 0, 1 + v5.tmod 2, 0, 0, ⟨#[]⟩⟩ := ⟨_, rfl⟩
    have hsz : e.course.size ≤ 2 := by rw [he]; exact Nat.zero_le 2
    have hadd : ∀ h : chkE (out ++ [e]) = 0, MadeOk (i + 1) (out ++ [e]) := fun h => h3.add h (by rw [he]) (by rw [he]) (by rw [he]; show day + v1 ≤ 59 * ((i : Int) + 1); omega) hsz
    ((repeat ((conv => whnf); (first | (refine LetN.pre ?_; first | ((conv => arg 1; whnf); refine LetN.mk ?_)) | (refine As.pre ?_; first | refine As.mk rfl ?_ | (refine As.mk ?_ ?_; · ((repeat' (refine andT ?_ ?_)) <;> (first | rfl | assumption | exact stor_en _ _ _ | exact stor_all _ | exact decide_eq_true (by simp; omega) | (simp; done) | (simp [room]; omega))))) | (refine LetV.pre ?_; first | refine LetV.mk (.agg _) rfl ?_) | (refine LetI.pre ?_; first | refine LetI.wrap (by omega) (by omega) ?_ | refine LetI.mk _ rfl ?_) | (refine LetB.pre ?_; first | refine LetB.tt rfl ?_ | refine LetB.ff rfl ?_ | refine LetB.beq (fun h => ?_) (fun h => ?_)) | (refine Br.pre ?_; first | refine Br.tt rfl ?_ | refine Br.ff rfl ?_) | (refine Ck.pre ?_; first | refine Ck.drawn (by kernel_rfl) ?_ | refine Ck.mk rfl ?_) | (refine LetL.pre ?_; first | refine LetL.mk (ty := ety) (out.map en) (copy_en out) ?_ | refine LetL.mk (ty := ety) _ (app_en2 he out _ (by first | rfl | (simp; done))) ?_ | refine LetL.mk [_] rfl ?_) | (refine CallN.pre ?_; first | refine CallN.lend (rCheck_l (out ++ [e]) _ (courses_big h3 hsz)) rfl (.full rfl (pure_en _) (by first | rfl | (simp; done)) .nil) ?_)))); (try (conv => whnf)))





    · refine LoopN.weak ?_ (ih (i + 1, day + v1, out ++ [e]) ⟨Nat.succ_le_of_lt hlt, hday, hadd h⟩ hms)
      exact SW.mk (fun i => if i = 0 then 5 else i) rfl rfl (namesAll.row (pure_en _) rfl) ⟨.refl _, VLe2.slm_of (by simp), .refl _, VLe2.int (by omega), trivial⟩ (haveV.row (pure_en _) rfl trivial)
    ((repeat ((conv => whnf); (first | (refine As.pre ?_; first | refine As.mk rfl ?_) | (refine LetI.pre ?_; first | refine LetI.wrap (by omega) (by omega) ?_) | (refine Br.pre ?_; first | refine Br.ff rfl ?_) | (refine Ck.pre ?_; first | refine Ck.mk rfl ?_)))); (try (conv => whnf)))
    · refine LoopN.weak ?_ (ih (i + 1, day + v1, out) ⟨Nat.succ_le_of_lt hlt, hday, h3.more⟩ hms)
      exact SW.mk id rfl rfl (namesAll.row (pure_en _) rfl) ⟨.refl _, .refl _, .refl _, VLe2.int (by omega), trivial⟩ (haveV.row (pure_en _) rfl trivial)
  · have hT : AFun Try.prog 50 0 [int 9] [] (int 8) [] := target_f 9
    obtain ⟨x, b, hp⟩ : ∃ x b, AFun Try.prog 49 0 [.ro {} 15 (out.map en), int 8, int v5] [] (.tup [en x, bool b]) [] := ⟨_, _, pick_f out 8 v5 {} (by omega) r5.1⟩
    obtain ⟨e, he⟩ : ∃ e : E, e = ⟨(i : Int) + 1, 1, x.student, 9, day + v1, max W x.on_, ⟨#[]⟩, 0, 0, x.id, 0, 0, 0, 0, ⟨#[]⟩⟩ := ⟨_, rfl⟩
    have hsz : e.course.size ≤ 2 := by rw [he]; exact Nat.zero_le 2
    have hadd : ∀ h : chkE (out ++ [e]) = 0, MadeOk (i + 1) (out ++ [e]) := fun h => h3.add h (by rw [he]) (by rw [he]) (by rw [he]; show day + v1 ≤ 59 * ((i : Int) + 1); omega) hsz
    cases b
    · ((repeat ((conv => whnf); (first | (refine LetN.pre ?_; first | ((conv => arg 1; whnf); refine LetN.mk ?_)) | (refine As.pre ?_; first | refine As.mk rfl ?_) | (refine LetI.pre ?_; first | refine LetI.wrap (by omega) (by omega) ?_) | (refine LetB.pre ?_; first | refine LetB.ff rfl ?_) | (refine Br.pre ?_; first | refine Br.tt rfl ?_ | refine Br.ff rfl ?_) | (refine Ck.pre ?_; first | refine Ck.mk rfl ?_) | (refine LetL.pre ?_; first | refine LetL.mk [_] rfl ?_) | (refine CallN.pre ?_; first | refine CallN.pure hT rfl rfl ?_ | refine CallN.lend hp rfl (.full rfl (pure_en _) hol.symm (.same rfl (.same rfl .nil))) ?_)))); (try (conv => whnf)))



      · refine LoopN.weak ?_ (ih (i + 1, day + v1, out) ⟨Nat.succ_le_of_lt hlt, hday, h3.more⟩ hms)
        exact SW.mk id rfl rfl (namesAll.row (pure_en _) rfl) ⟨.refl _, .refl _, .refl _, VLe2.int (by omega), trivial⟩ (haveV.row (pure_en _) rfl trivial)
    · ((repeat ((conv => whnf); (first | (refine LetN.pre ?_; first | ((conv => arg 1; whnf); refine LetN.mk ?_)) | (refine As.pre ?_; first | refine As.mk rfl ?_ | (refine As.mk ?_ ?_; · ((repeat' (refine andT ?_ ?_)) <;> (first | rfl | assumption | exact stor_en _ _ _ | exact stor_all _ | exact decide_eq_true (by simp; omega) | (simp; done) | (simp [room]; omega))))) | (refine LetV.pre ?_; first | refine LetV.mk (.sc (.int _ _)) rfl ?_ | refine LetV.mk (.agg _) rfl ?_) | (refine LetI.pre ?_; first | refine LetI.wrap (by omega) (by omega) ?_ | refine LetI.mk _ rfl ?_) | (refine LetB.pre ?_; first | refine LetB.ff rfl ?_ | refine LetB.beq (fun h => ?_) (fun h => ?_)) | (refine Br.pre ?_; first | refine Br.tt rfl ?_ | refine Br.ff rfl ?_) | (refine Ck.pre ?_; first | refine Ck.drawn (by kernel_rfl) ?_ | refine Ck.mk rfl ?_) | (refine LetL.pre ?_; first | refine LetL.mk (ty := ety) (out.map en) (copy_en out) ?_ | refine LetL.mk (ty := ety) _ (app_en2 he out _ (by first | rfl | (simp; done))) ?_ | refine LetL.mk [_] rfl ?_) | (refine CallN.pre ?_; first | refine CallN.pure hT rfl rfl ?_ | refine CallN.lend hp rfl (.full rfl (pure_en _) hol.symm (.same rfl (.same rfl .nil))) ?_ | refine CallN.lend (rCheck_l (out ++ [e]) _ (courses_big h3 hsz)) rfl (.full rfl (pure_en _) (by first | rfl | (simp; done)) .nil) ?_)))); (try (conv => whnf)))







      · refine LoopN.weak ?_ (ih (i + 1, day + v1, out ++ [e]) ⟨Nat.succ_le_of_lt hlt, hday, hadd h⟩ hms)
        exact SW.mk (fun i => if i = 0 then 6 else i) rfl rfl (namesAll.row (pure_en _) rfl) ⟨.refl _, VLe2.slm_of (by simp), .refl _, VLe2.int (by omega), trivial⟩ (haveV.row (pure_en _) rfl trivial)
      ((repeat ((conv => whnf); (first | (refine As.pre ?_; first | refine As.mk rfl ?_) | (refine LetI.pre ?_; first | refine LetI.wrap (by omega) (by omega) ?_) | (refine Br.pre ?_; first | refine Br.ff rfl ?_) | (refine Ck.pre ?_; first | refine Ck.mk rfl ?_)))); (try (conv => whnf)))
      · refine LoopN.weak ?_ (ih (i + 1, day + v1, out) ⟨Nat.succ_le_of_lt hlt, hday, h3.more⟩ hms)
        exact SW.mk id rfl rfl (namesAll.row (pure_en _) rfl) ⟨.refl _, .refl _, .refl _, VLe2.int (by omega), trivial⟩ (haveV.row (pure_en _) rfl trivial)
end En
end Go.Proofs.Ytjnohedknlibmaa
namespace Go.Proofs.Ytjnohedknlibmaa
open Go.Proofs.Ytjnohedknlibmaa.Am
namespace En
/-! ### What every law asks first -/
abbrev ex1 : E := ⟨1, 1, 5, 3, 10, 10, ⟨#[65]⟩, 6, 70, 0, 0, 0, 0, 0, ⟨#[]⟩⟩
abbrev ex2 : E := ⟨2, 1, 5, 4, 30, 20, ⟨#[]⟩, 0, 80, 1, 0, 0, 0, 0, ⟨#[]⟩⟩
abbrev ex3 : E := ⟨3, 1, 5, 5, 40, 10, ⟨#[]⟩, 0, 0, 1, 0, 0, 0, 0, ⟨#[]⟩⟩
abbrev ex4 : E := ⟨4, 1, 5, 6, 50, 45, ⟨#[]⟩, 0, 0, 3, 0, 0, 0, 0, ⟨#[]⟩⟩
abbrev exl : List E := [ex1, ex2, ex3, ex4]
theorem example_f : AFun Try.prog 26 0 [] [] (.ro ⟨true, true⟩ 15 (exl.map en)) [] := AFun.of_ev T_ok mixed 20 (by kernel_rfl)
set_option maxRecDepth 100000 in
theorem stands_f (a o g b : Int) (v : Bool) (h : (atP exl a o).map stA = [stA ⟨1, b, g, v⟩]) : AFun Try.prog 25 0 [int a, int o, int g, int b, bool v] [] (bool true) [] := by
  refine AFun.of_W T_ok mixed Try.func25 rfl (Nat.le_of_ble_eq_true rfl) rfl ?_
  have hA := At_f exl a o ⟨true, true⟩ (Nat.le_of_ble_eq_true rfl)
  rw [h] at hA
  ((repeat ((conv => whnf); (first | (refine As.pre ?_; first | refine As.mk rfl ?_) | (refine LetV.pre ?_; first | refine LetV.mk (.agg _) rfl ?_) | (refine LetI.pre ?_; first | refine LetI.mk _ rfl ?_) | (refine LetB.pre ?_; first | refine LetB.tt rfl ?_ | (refine LetB.tt ?_ ?_; · (simp; done))) | (refine Gd.pre ?_; first | refine Gd.run rfl ?_) | (refine Ck.pre ?_; first | refine Ck.mk rfl ?_) | (refine CallN.pre ?_; first | refine CallN.pure example_f rfl rfl ?_ | refine CallN.pure hA rfl rfl ?_)))); (try (conv => whnf)))
  exact ⟨.inl rfl, ⟨_, rfl, rfl⟩, trivial⟩
theorem at1 : (atP exl 20 20).map stA = [stA ⟨1, 0, 70, false⟩] := by kernel_rfl
theorem at2 : (atP exl 30 19).map stA = [stA ⟨1, 0, 70, false⟩] := by kernel_rfl
theorem at3 : (atP exl 30 20).map stA = [stA ⟨1, 2, 80, false⟩] := by kernel_rfl
theorem at4 : (atP exl 40 10).map stA = [stA ⟨1, 0, 70, true⟩] := by kernel_rfl
theorem at5 : (atP exl 50 44).map stA = [stA ⟨1, 2, 80, true⟩] := by kernel_rfl
theorem at6 : (atP exl 50 45).map stA = [stA ⟨1, 2, 80, false⟩] := by kernel_rfl
theorem at7 : (atP exl 9 50).map stA = [] := by kernel_rfl
theorem kn1 : (knownP exl 30).map en = [en ex1, en ex2] := by kernel_rfl
theorem li1 : liftedP exl 3 50 45 = true := by kernel_rfl
theorem li2 : liftedP exl 3 50 44 = false := by kernel_rfl
/-! ### What one gives, case by case -/
theorem one_ent {b : List E} {e : E} (h : entE e ≠ 0) : oneE b e = entE e := if_pos h
theorem one_school {b : List E} {e : E} (h : entE e = 0) (k : b ≠ [] ∧ (b.getD 0 e0).school ≠ e.school) : oneE b e = 22 := (if_neg (fun n => n h)).trans (if_pos k)
theorem one_id {b : List E} {e : E} (h : entE e = 0) (h1 : ¬ (b ≠ [] ∧ (b.getD 0 e0).school ≠ e.school)) (k : b.any (fun x => decide (x.id = e.id)) = true) : oneE b e = 6 := (if_neg (fun n => n h)).trans ((if_neg h1).trans (if_pos k))
theorem one_day {b : List E} {e : E} (h : entE e = 0) (h1 : ¬ (b ≠ [] ∧ (b.getD 0 e0).school ≠ e.school)) (h2 : b.any (fun x => decide (x.id = e.id)) = false) (k : b ≠ [] ∧ e.day < (b.getD (b.length - 1) e0).day) : oneE b e = 7 :=
  (if_neg (fun n => n h)).trans ((if_neg h1).trans ((if_neg (by rw [h2]; simp)).trans (if_pos k)))
theorem one_rest {b : List E} {e : E} (h : entE e = 0) (h1 : ¬ (b ≠ [] ∧ (b.getD 0 e0).school ≠ e.school)) (h2 : b.any (fun x => decide (x.id = e.id)) = false) (h3 : ¬ (b ≠ [] ∧ e.day < (b.getD (b.length - 1) e0).day)) :
    oneE b e = if tgt e.kind = 0 then 0 else if fidx (cRef e (tgt e.kind)).p b 0 < 0 then 21 else if e.on_ < (b.getD (fidx (cRef e (tgt e.kind)).p b 0).toNat e0).on_ then 23 else 0 :=
  (if_neg (fun n => n h)).trans ((if_neg h1).trans ((if_neg (by rw [h2]; simp)).trans (if_neg h3)))
theorem ok65 : okCode ⟨#[65]⟩ := by
  refine ⟨by decide, fun i hi => ?_⟩
  have : i = 0 := by
    have h : i < 1 := hi
    omega
  subst this
  decide
open Classical in
theorem ent1 : entE ex1 = 0 := by
  have h : ∀ b : Bool, b = true → entX b (onlyF ex1.kind (fillB ex1)) ex1 = 0 := by
    rintro b rfl
    simp [entX, fldE, onlyF, fillB]
  exact h _ (decide_eq_true ok65)
theorem ent_of {e : E} (h : ∀ oc, entX oc (onlyF e.kind (fillB e)) e = 0) : entE e = 0 := h _
theorem ent2 : entE ex2 = 0 := ent_of (by intro oc; simp [entX, fldE, onlyF, fillB])
theorem ent3 : entE ex3 = 0 := ent_of (by intro oc; simp [entX, fldE, onlyF, fillB])
theorem ent4 : entE ex4 = 0 := ent_of (by intro oc; simp [entX, fldE, onlyF, fillB])
theorem one1 : oneE [] ex1 = 0 := (one_rest ent1 (by decide) (by decide) (by decide)).trans (by decide)
theorem one2 : oneE [ex1] ex2 = 0 := (one_rest ent2 (by decide) (by decide) (by decide)).trans (by decide)
theorem one3 : oneE [ex1, ex2] ex3 = 0 := (one_rest ent3 (by decide) (by decide) (by decide)).trans (by decide)
theorem one4 : oneE [ex1, ex2, ex3] ex4 = 0 := (one_rest ent4 (by decide) (by decide) (by decide)).trans (by decide)
theorem one5 : oneE [] ex2 = 21 := (one_rest ent2 (by decide) (by decide) (by decide)).trans (by decide)
theorem chk_ok {b r : List E} {e : E} (h : oneE b e = 0) : chkL b (e :: r) = chkL (b ++ [e]) r := if_pos h
theorem chk_no {b r : List E} {e : E} (h : oneE b e ≠ 0) : chkL b (e :: r) = oneE b e := if_neg h
theorem chk_small {l : List E} (h : l.length ≤ 2000) : chkE l = chkL [] l := if_neg (by omega)
theorem chk1 : chkE exl = 0 := by
  rw [chk_small (by decide), chk_ok one1, List.nil_append, chk_ok one2]
  show chkL [ex1, ex2] [ex3, ex4] = 0
  rw [chk_ok one3]
  show chkL [ex1, ex2, ex3] [ex4] = 0
  rw [chk_ok one4]; rfl
theorem chk2 : chkE [ex2, ex1] = 21 := by
  rw [chk_small (by decide), chk_no (by rw [one5]; decide), one5]
set_option maxRecDepth 100000 in
theorem sanity_f : AFun Try.prog 9 0 [] [] (bool true) [] := by
  refine AFun.of_W T_ok mixed Try.func9 rfl (Nat.le_of_ble_eq_true rfl) rfl ?_
  have c1 := Check_l exl ⟨true, true⟩
  have c2 := Check_l [ex2, ex1] ⟨true, true⟩
  have c3 := At_f exl 9 50 ⟨true, true⟩ (Nat.le_of_ble_eq_true rfl)
  have c4 := Known_f exl 30 ⟨true, true⟩ (Nat.le_of_ble_eq_true rfl)
  have c5 := Lifted_f exl 3 50 45 ⟨true, true⟩ (Nat.le_of_ble_eq_true rfl)
  have c6 := Lifted_f exl 3 50 44 ⟨true, true⟩ (Nat.le_of_ble_eq_true rfl)
  rw [chk1] at c1
  rw [chk2] at c2
  rw [at7] at c3
  rw [kn1] at c4
  rw [li1] at c5
  rw [li2] at c6
  have s1 := stands_f _ _ _ _ _ at1
  have s2 := stands_f _ _ _ _ _ at2
  have s3 := stands_f _ _ _ _ _ at3
  have s4 := stands_f _ _ _ _ _ at4
  have s5 := stands_f _ _ _ _ _ at5
  have s6 := stands_f _ _ _ _ _ at6
  ((repeat ((conv => whnf); (first | (refine As.pre ?_; first | refine As.mk rfl ?_) | (refine LetV.pre ?_; first | refine LetV.mk (.agg _) rfl ?_) | (refine LetI.pre ?_; first | refine LetI.mk _ rfl ?_) | (refine LetB.pre ?_; first | refine LetB.tt rfl ?_) | (refine Gd.pre ?_; first | refine Gd.run rfl ?_) | (refine Ck.pre ?_; first | refine Ck.drawn (by kernel_rfl) ?_ | refine Ck.mk rfl ?_) | (refine CallN.pre ?_; first | refine CallN.pure s1 rfl rfl ?_ | refine CallN.pure s2 rfl rfl ?_ | refine CallN.pure s3 rfl rfl ?_ | refine CallN.pure s4 rfl rfl ?_ | refine CallN.pure s5 rfl rfl ?_ | refine CallN.pure s6 rfl rfl ?_ | refine CallN.pure example_f rfl rfl ?_ | refine CallN.pure c1 rfl rfl ?_ | refine CallN.pure c2 rfl rfl ?_ | refine CallN.pure c3 rfl rfl ?_ | refine CallN.pure c4 rfl rfl ?_ | refine CallN.pure c5 rfl rfl ?_ | refine CallN.pure c6 rfl rfl ?_)))); (try (conv => whnf)))













  exact ⟨.inl rfl, ⟨_, rfl, rfl⟩, trivial⟩
end En
end Go.Proofs.Ytjnohedknlibmaa
namespace Go.Proofs.Ytjnohedknlibmaa
open Go.Proofs.Ytjnohedknlibmaa.Am
namespace En
/-! ### The entries of a case -/
theorem MadeOk.mono {i j : Nat} {out : List E} (h : MadeOk i out) (k : i ≤ j) : MadeOk j out :=
  ⟨h.chk, by have := h.len; omega, h.school, fun e he => by have := h.id e he; omega, fun e he => by have := h.day e he; omega, h.course⟩
theorem take14 (L : List (Fl × List Int)) : (L.take 14).map iA = ((L.map iA).drop (0 : Int).toNat).take ((min (((L.map iA).length : Nat) : Int) 14).toNat - (0 : Int).toNat) := by
  rw [List.map_take]
  show (L.map iA).take 14 = ((L.map iA).drop 0).take _
  rw [List.drop_zero]
  refine List.take_eq_take_iff.2 ?_
  simp only [List.length_map]
  show _ = min ((min ((L.length : Nat) : Int) 14).toNat - 0) L.length
  omega
set_option maxRecDepth 100000 in
theorem made_f (L : List (Fl × List Int)) (fl : Fl) (q : Int × Int × Int) (hxs : ∀ x ∈ L, x.2.length ≤ 9223372036854775807) : ∃ l l' : List E, MadeOk 14 l ∧ OddIs l l' ∧
    AFun Try.prog 10 0 [.agg [.ro fl 1 (L.map iA), int q.1, int q.2.1, int q.2.2]] [] (.tup [.ro {} 15 (l.map en), .ro {} 15 (l'.map en)]) [] := by
  have hlt : (L.take 14).length ≤ 14 := by simp; omega
  obtain ⟨l, h0, h2⟩ := Made_f (L.take 14) { nn := fl.nn } hlt (fun x hx => hxs x (List.mem_of_mem_take hx))
  have h1 := h0.mono hlt
  obtain ⟨l', h3, h4⟩ := Odd_f l q {} (by have := h1.len; omega)
  refine ⟨l, l', h1, h3, ?_⟩
  refine AFun.of_W T_ok mixed Try.func10 rfl (Nat.le_of_ble_eq_true rfl) rfl ?_
  have htk := take14 L
  ((repeat ((conv => whnf); (first | (refine LetN.pre ?_; first | ((conv => arg 1; whnf); refine LetN.mk ?_)) | (refine As.pre ?_; first | refine As.mk rfl ?_ | (refine As.mk ?_ ?_; · ((repeat' (refine andT ?_ ?_)) <;> (first | rfl | assumption | exact decide_eq_true (by omega) | exact decide_eq_true (by dsimp only; omega) | exact decide_eq_true (by simp; omega) | (simp; done))))) | (refine LetV.pre ?_; first | refine LetV.mk (t := 22) (.ro _ 1 ((L.take 14).map iA)) (congrArg (AV.ro _ 1) htk) ?_ | refine LetV.mk (.agg _) rfl ?_ | refine LetV.mk (.ro _ _ _) rfl ?_) | (refine LetI.pre ?_; first | refine LetI.mk _ rfl ?_) | (refine Ck.pre ?_; first | refine Ck.mk rfl ?_) | (refine CallN.pre ?_; first | refine CallN.pure h2 rfl rfl ?_ | refine CallN.pure h4 rfl rfl ?_)))); (try (conv => whnf)))



  exact ⟨.inl rfl, ⟨_, rfl, rfl⟩, trivial⟩
theorem tm_lo {a m : Int} (hm : 0 < m) (h : m ≤ 1000) : 0 ≤ (a.tmod m + m).tmod m ∧ (a.tmod m + m).tmod m < m := by
  have := tmod_bound a hm
  exact ⟨Int.tmod_nonneg _ (by omega), Int.tmod_lt_of_pos _ hm⟩
def d100 (a : Int) : Int := (a.tmod 100 + 100).tmod 100 * 10
def d500 (a : Int) : Int := (a.tmod 500 + 500).tmod 500
set_option maxRecDepth 100000 in
theorem days_f (q : Int × Int) : AFun Try.prog 18 0 [.agg [int q.1, int q.2]] [] (.agg [int q.1, int q.2, int (d100 q.1), int (d100 q.2), int 1000, int (d500 q.2)]) [] := by
  refine AFun.of_W T_ok mixed Try.func18 rfl (Nat.le_of_ble_eq_true rfl) rfl ?_
  have b0 := tmod_bound q.1 (m := 100) (by omega)
  have b1 := tmod_bound q.2 (m := 100) (by omega)
  have b2 := tmod_bound q.2 (m := 500) (by omega)
  have p0 := tm_lo (a := q.1) (m := 100) (by omega) (by omega)
  have p1 := tm_lo (a := q.2) (m := 100) (by omega) (by omega)
  have p2 := tm_lo (a := q.2) (m := 500) (by omega) (by omega)
  ((repeat ((conv => whnf); (first | (refine LetN.pre ?_; first | ((conv => arg 1; whnf); refine LetN.mk ?_)) | (refine As.pre ?_; first | refine As.mk rfl ?_) | (refine LetV.pre ?_; first | refine LetV.mk (.sc (.int _ _)) rfl ?_ | refine LetV.mk (.agg _) rfl ?_) | (refine LetI.pre ?_; first | refine LetI.wrap (by omega) (by omega) ?_ | refine LetI.mk _ rfl ?_) | (refine Ck.pre ?_; first | refine Ck.mk rfl ?_) | (refine LetL.pre ?_; first | refine LetL.mk [_] rfl ?_)))); (try (conv => whnf)))
  exact ⟨.inl rfl, ⟨_, rfl, rfl⟩, trivial⟩
end En
end Go.Proofs.Ytjnohedknlibmaa
namespace Go.Proofs.Ytjnohedknlibmaa
open Go.Proofs.Ytjnohedknlibmaa.Am
namespace En
/-! ### What Check says of a longer list -/
theorem chkL_app (e : E) : ∀ (l b : List E), chkL b l = 0 → chkL b (l ++ [e]) = oneE (b ++ l) e
  | [], b, _ => by
    rw [List.nil_append, List.append_nil]
    by_cases h : oneE b e = 0
    · rw [chk_ok h, h]; rfl
    · rw [chk_no h]
  | x :: l, b, h => by
    by_cases hx : oneE b x = 0
    · rw [chk_ok hx] at h
      rw [List.cons_append, chk_ok hx, chkL_app e l _ h, List.append_assoc]; rfl
    · rw [chk_no hx] at h
      exact absurd h hx
theorem chkE_app {l : List E} (h : chkE l = 0) (hl : l.length ≤ 1000) (e : E) : chkE (l ++ [e]) = oneE l e := by
  rw [chk_small (by omega)] at h
  rw [chk_small (by simp; omega), chkL_app e l [] h, List.nil_append]
theorem chkL_at : ∀ (l b : List E), chkL b l = 0 → ∀ k, k < l.length → oneE (b ++ l.take k) (l.getD k e0) = 0
  | [], b, _, k, hk => absurd hk (Nat.not_lt_zero _)
  | x :: l, b, h, k, hk => by
    by_cases hx : oneE b x = 0
    case neg => rw [chk_no hx] at h; exact absurd h hx
    rw [chk_ok hx] at h
    cases k with
    | zero => rw [List.take_zero, List.append_nil]; exact hx
    | succ k =>
      have := chkL_at l (b ++ [x]) h k (by simpa using hk)
      rw [List.append_assoc] at this
      exact this
theorem chkE_at {l : List E} (h : chkE l = 0) (hl : l.length ≤ 1000) {k : Nat} (hk : k < l.length) : oneE (l.take k) (l.getD k e0) = 0 := by
  rw [chk_small (by omega)] at h
  have := chkL_at l [] h k hk
  rwa [List.nil_append] at this
theorem one_zero {b : List E} {e : E} (h : oneE b e = 0) : entE e = 0 ∧ ¬ (b ≠ [] ∧ (b.getD 0 e0).school ≠ e.school) ∧ b.any (fun x => decide (x.id = e.id)) = false ∧ ¬ (b ≠ [] ∧ e.day < (b.getD (b.length - 1) e0).day) := by
  have h0 : entE e = 0 := by
    by_cases k : entE e = 0
    · exact k
    · rw [one_ent k] at h; exact h
  have h1 : ¬ (b ≠ [] ∧ (b.getD 0 e0).school ≠ e.school) := fun k => by rw [one_school h0 k] at h; cases h
  have h2 : b.any (fun x => decide (x.id = e.id)) = false := by
    by_cases k : b.any (fun x => decide (x.id = e.id)) = true
    · rw [one_id h0 h1 k] at h; cases h
    · simpa using k
  exact ⟨h0, h1, h2, fun k => by rw [one_day h0 h1 h2 k] at h; cases h⟩
theorem getD_take {l : List E} {i j : Nat} (h : i < j) : (l.take j).getD i e0 = l.getD i e0 := by
  rw [List.getD_eq_getElem?_getD, List.getD_eq_getElem?_getD, List.getElem?_take, if_pos h]
theorem chk_ids {l : List E} (h : chkE l = 0) (hl : l.length ≤ 1000) {i j : Nat} (hij : i < j) (hj : j < l.length) : (l.getD i e0).id ≠ (l.getD j e0).id := by
  intro heq
  have h2 := (one_zero (chkE_at h hl hj)).2.2.1
  rw [List.any_eq_false] at h2
  have hi : i < (l.take j).length := by simp; omega
  refine h2 ((l.take j).getD i e0) (getD_mem hi) ?_
  rw [getD_take hij]
  exact decide_eq_true heq
theorem chk_id_inj {l : List E} (h : chkE l = 0) (hl : l.length ≤ 1000) {i j : Nat} (hi : i < l.length) (hj : j < l.length) (heq : (l.getD i e0).id = (l.getD j e0).id) : i = j := by
  rcases Nat.lt_trichotomy i j with k | k | k
  · exact absurd heq (chk_ids h hl k hj)
  · exact k
  · exact absurd heq.symm (chk_ids h hl k hi)
theorem mem_getD {l : List E} {x : E} (h : x ∈ l) : ∃ i, i < l.length ∧ l.getD i e0 = x := by
  obtain ⟨i, hi, rfl⟩ := List.mem_iff_getElem.1 h
  exact ⟨i, hi, by rw [List.getD_eq_getElem?_getD, List.getElem?_eq_getElem hi]; rfl⟩
theorem chk_same {l : List E} (h : chkE l = 0) (hl : l.length ≤ 1000) {x y : E} (hx : x ∈ l) (hy : y ∈ l) (heq : x.id = y.id) : x = y := by
  obtain ⟨i, hi, rfl⟩ := mem_getD hx
  obtain ⟨j, hj, rfl⟩ := mem_getD hy
  rw [chk_id_inj h hl hi hj heq]
theorem chk_ent {l : List E} (h : chkE l = 0) (hl : l.length ≤ 1000) {x : E} (hx : x ∈ l) : entE x = 0 := by
  obtain ⟨i, hi, rfl⟩ := mem_getD hx
  exact (one_zero (chkE_at h hl hi)).1
theorem ent_zero {e : E} (h : entE e = 0) : (1 ≤ e.id ∧ e.id ≤ 899999) ∧ (1 ≤ e.school ∧ e.school ≤ 8) ∧ (1 ≤ e.student ∧ e.student ≤ 999999) ∧ (1 ≤ e.kind ∧ e.kind ≤ 9) ∧ (0 ≤ e.day ∧ e.day ≤ 100000) ∧ (0 ≤ e.on_ ∧ e.on_ ≤ e.day) := by
  unfold entE entX at h
  split at h
  · cases h
  split at h
  · cases h
  split at h
  · cases h
  omega
theorem fidx_none {p : E → Bool} : ∀ (l : List E) (k : Nat), (∀ x ∈ l, p x = false) → fidx p l k = -1
  | [], _, _ => rfl
  | a :: l, k, h => by
    rw [fidx, h a (List.mem_cons_self ..), if_neg (by simp)]
    exact fidx_none l (k + 1) fun x hx => h x (List.mem_cons_of_mem _ hx)
theorem fidx_some {p : E → Bool} : ∀ (l : List E) (k i : Nat), i < l.length → p (l.getD i e0) = true → (∀ j, j < i → p (l.getD j e0) = false) → fidx p l k = ((k + i : Nat) : Int)
  | [], _, i, h, _, _ => absurd h (Nat.not_lt_zero _)
  | a :: l, k, 0, _, h, _ => by
    have h : p a = true := h
    rw [fidx, if_pos h]; simp
  | a :: l, k, i + 1, hi, h, hb => by
    have h0 : p a = false := hb 0 (by omega)
    rw [fidx, if_neg (by rw [h0]; simp)]
    have := fidx_some (p := p) l (k + 1) i (by simpa using hi) h fun j hj => hb (j + 1) (by omega)
    rw [this]
    omega
end En
end Go.Proofs.Ytjnohedknlibmaa
namespace Go.Proofs.Ytjnohedknlibmaa
open Go.Proofs.Ytjnohedknlibmaa.Am
namespace En
/-! ### ForceRefuses -/
theorem Check_nil : AFun Try.prog 13 0 [.sc (.slice none 0 0)] [] (int 0) [] := by
  refine AFun.of_W T_ok mixed Try.func13 rfl (Nat.le_of_ble_eq_true rfl) rfl ?_
  ((repeat ((conv => whnf); (first | (refine As.pre ?_; first | refine As.mk rfl ?_) | (refine LetI.pre ?_; first | refine LetI.mk _ rfl ?_) | (refine LetB.pre ?_; first | refine LetB.ff rfl ?_) | (refine Br.pre ?_; first | refine Br.ff rfl ?_) | (refine Ck.pre ?_; first | refine Ck.mk rfl ?_)))); (try (conv => whnf)))
  refine LoopN.round T_ok mixed rfl ?_
  ((repeat ((conv => whnf); (first | (refine As.pre ?_; first | refine As.mk rfl ?_) | (refine LetB.pre ?_; first | refine LetB.ff rfl ?_) | (refine Br.pre ?_; first | refine Br.ff rfl ?_) | (refine Ck.pre ?_; first | refine Ck.mk rfl ?_)))); (try (conv => whnf)))
  exact ⟨.inl rfl, ⟨_, rfl, rfl⟩, trivial⟩
theorem made_any {l : List E} (hm : MadeOk 14 l) {v : Int} (h : 800000 < v) : l.any (fun x => decide (x.id = v)) = false := by
  rw [List.any_eq_false]
  intro x hx
  have := hm.id x hx
  simp; omega
theorem made_first {l : List E} (hm : MadeOk 14 l) (hl : 0 < l.length) : (l.getD 0 e0).school = 1 := hm.school _ (getD_mem hl)
theorem ref_rest {l : List E} (hm : MadeOk 14 l) (hl : 0 < l.length) {e : E} (he : entE e = 0) (h1 : e.school = 1) (h2 : 800000 < e.id) (h3 : e.day = (l.getD (l.length - 1) e0).day) (h4 : e.kind = 5) :
    oneE l e = if fidx (cRef e 3).p l 0 < 0 then 21 else if e.on_ < (l.getD (fidx (cRef e 3).p l 0).toNat e0).on_ then 23 else 0 := by
  rw [one_rest he (fun h => h.2 (by rw [made_first hm hl, h1])) (made_any hm h2) (fun h => absurd h.2 (by omega)), h4]
  rfl
theorem ref_none {l : List E} (hm : MadeOk 14 l) (hl : 0 < l.length) {e : E} (he : entE e = 0) (h1 : e.school = 1) (h2 : 800000 < e.id) (h3 : e.day = (l.getD (l.length - 1) e0).day) (h4 : e.kind = 5) (h5 : ∀ x ∈ l, ¬ (x.id = e.ref ∧ x.kind = 3 ∧ x.student = e.student)) : oneE l e = 21 := by
  rw [ref_rest hm hl he h1 h2 h3 h4, fidx_none l 0 (fun x hx => decide_eq_false (h5 x hx))]; rfl
theorem ref_late {l : List E} (hm : MadeOk 14 l) {e : E} (he : entE e = 0) (h1 : e.school = 1) (h2 : 800000 < e.id) (h3 : e.day = (l.getD (l.length - 1) e0).day) (h4 : e.kind = 5) {k : Nat} (hk : k < l.length) (h5 : (l.getD k e0).id = e.ref ∧ (l.getD k e0).kind = 3 ∧ (l.getD k e0).student = e.student) (h6 : e.on_ < (l.getD k e0).on_) : oneE l e = 23 := by
  have hl := hm.len
  have hf : fidx (cRef e 3).p l 0 = ((0 + k : Nat) : Int) := fidx_some l 0 k hk (decide_eq_true h5) (fun j hj => decide_eq_false fun h => chk_ids hm.chk (by omega) hj hk (h.1.trans h5.1.symm))
  rw [ref_rest hm (by omega) he h1 h2 h3 h4, hf, if_neg (by omega), show (((0 + k : Nat) : Int)).toNat = k by omega, if_pos h6]
theorem chkM {l : List E} (hm : MadeOk 14 l) (e : E) : chkE (l ++ [e]) = oneE l e := chkE_app hm.chk (by have := hm.len; omega) e
end En
end Go.Proofs.Ytjnohedknlibmaa
