/- force: parts of the proof, DforceFV DforceFW DforceFX DforceFY DforceFZ DforceGA DforceGI DforceGJ DforceGK. -/
import Derived.Test.YtjnohedknlibmaaL39
import Derived.Test.YtjnohedknlibmaaL38
set_option linter.all false
namespace Go.Proofs.Ytjnohedknlibmaa
open Go.Proofs.Ytjnohedknlibmaa.Am
namespace En
/-! ### Entries in which something is changed -/
theorem stor_all (l : List E) : storables (l.map en) = true := by
  have := stor_en l 0 l.length
  rwa [List.drop_zero, List.take_of_length_le (by simp)] at this
theorem set_field (l : List E) (k off : Nat) (v : AV) (y : E) (h : k < l.length) (hy : en y = putPart off 15 (en (l.getD k e0)) v) : (l.set k y).map en = (l.map en).set (0 + k) (putPart off 15 ((l.map en).getD (0 + k) (.sc undef)) v) := by
  rw [Nat.zero_add, ← mapD e0 h, ← hy]
  exact List.map_set
theorem del_row (l : List E) (k x y z : Nat) (hx : x = k) (hy : y = k + 1) (hz : z = l.length - (k + 1)) : (l.take k ++ l.drop (k + 1)).map en = (l.map en).take x ++ ((l.map en).drop y).take z := by
  subst hx hy hz
  rw [List.map_append, List.map_take, List.map_drop]
  congr 1
  rw [List.take_of_length_le (by simp)]
theorem getD_set_self {l : List E} {k : Nat} (y : E) (h : k < l.length) : (l.set k y).getD k e0 = y := by
  rw [List.getD_eq_getElem?_getD, List.getElem?_set_self h]; rfl
theorem mem_set_course {l : List E} {k : Nat} {y : E} (hk : k < l.length) (hy : y.course = (l.getD k e0).course) : ∀ e ∈ l.set k y, e.course = ⟨#[]⟩ ∨ e.course ∈ l.map (·.course) := by
  intro e he
  right
  rcases List.mem_or_eq_of_mem_set he with h | h
  · exact List.mem_map_of_mem h
  · rw [h, hy]
    rw [List.getD_eq_getElem?_getD, List.getElem?_eq_getElem hk]
    exact List.mem_map_of_mem (List.getElem_mem hk)
/-- What Odd gives. -/
def OddIs (l l' : List E) : Prop := l'.length ≤ l.length + 1 ∧ ∀ e ∈ l', e.course = ⟨#[]⟩ ∨ e.course ∈ l.map (·.course)
set_option maxRecDepth 100000 in
theorem Odd_nil (q : Int × Int × Int) (fl : Fl) : ∃ l' : List E, OddIs [] l' ∧ AFun Try.prog 28 0 [.ro fl 15 (([] : List E).map en), .agg [int q.1, int q.2.1, int q.2.2]] [] (.ro {} 15 (l'.map en)) [] := by
  have b1 := tmod_bound q.2.1 (m := 20) (by omega)
  have p1 := tmod_pos 20 (a := q.2.1.tmod 20 + 20) (by omega)
  obtain ⟨n, hn⟩ : ∃ n : Int, n = (q.2.1.tmod 20 + 20).tmod 20 := ⟨_, rfl⟩
  have hn2 : 0 ≤ n ∧ n < 20 := by omega
  have b2 := tmod_bound n (m := 10) (by omega)
  refine ⟨[⟨n, 1, 1, 1 + n.tmod 10, n, n, ⟨#[]⟩, 0, 0, 0, 0, 0, 0, 0, ⟨#[]⟩⟩], ⟨by simp, fun e he => ?_⟩, ?_⟩
  · simp only [List.mem_cons, List.not_mem_nil, or_false] at he
    subst he
    exact .inl rfl
  · refine AFun.of_S T_ok mixed Try.func28 rfl (Nat.le_of_ble_eq_true rfl) rfl ?_
    ((repeat ((conv => whnf); (first | (refine LetN.pre ?_; first | ((conv => arg 1; whnf); refine LetN.mk ?_)) | (refine As.pre ?_; first | refine As.mk rfl ?_) | (refine LetV.pre ?_; first | refine LetV.mk (.sc (.int _ _)) rfl ?_) | (refine LetI.pre ?_; first | refine LetI.mk (o := some .rem) n hn ?_ | refine LetI.wrap (by omega) (by omega) ?_ | refine LetI.mk _ rfl ?_) | (refine LetB.pre ?_; first | refine LetB.tt rfl ?_) | (refine Br.pre ?_; first | refine Br.tt rfl ?_) | (refine Ck.pre ?_; first | refine Ck.mk rfl ?_) | (refine LetL.pre ?_; first | refine LetL.mk _ rfl ?_)))); (try (conv => whnf)))

    exact ⟨⟨[(4, .ro {} 15 [en ⟨n, 1, 1, 1 + n.tmod 10, n, n, ⟨#[]⟩, 0, 0, 0, 0, 0, 0, 0, ⟨#[]⟩⟩])], [], 5⟩, SW.mk id rfl rfl rfl ⟨VLe2.ro_of rfl, trivial⟩ trivial, .inl rfl, ⟨_, rfl, rfl⟩, trivial⟩
set_option maxHeartbeats 1600000 in
set_option maxRecDepth 100000 in
theorem Odd_0 (l : List E) (q : Int × Int × Int) (fl : Fl) (n : Int) (k : Nat) (hl : l.length ≤ 100) (hk : k < l.length) (hn2 : 0 ≤ n ∧ n < 20) (hm : (0 : Int) = (q.1.tmod 12 + 12).tmod 12) (hn : n = (q.2.1.tmod 20 + 20).tmod 20) (hkk : ((k : Nat) : Int) = (q.2.2.tmod ((0 + (l.map en).length : Nat) : Int) + ((0 + (l.map en).length : Nat) : Int)).tmod ((0 + (l.map en).length : Nat) : Int)) :
    AFun Try.prog 28 0 [.ro fl 15 (l.map en), .agg [int q.1, int q.2.1, int q.2.2]] [] (.slm {} 0 15 0 (l.set k { (l.getD k e0) with id := n }).length) [(0, .row 15 ety ((l.set k { (l.getD k e0) with id := n }).map en))] := by
  refine AFun.of_S T_ok mixed Try.func28 rfl (Nat.le_of_ble_eq_true rfl) rfl ?_
  have b0 := tmod_bound q.1 (m := 12) (by omega)
  have b1 := tmod_bound q.2.1 (m := 20) (by omega)
  have hml : (l.map en).length = l.length := List.length_map _
  have b2 := tmod_bound q.2.2 (m := ((0 + (l.map en).length : Nat) : Int)) (by omega)
  have hnz : (((0 + (l.map en).length : Nat) : Int) != 0) = true := bne_iff_ne.2 (by omega)
  have hez : (((0 + (l.map en).length : Nat) : Int) == 0) = false := beq_eq_false_iff_ne.2 (by omega)
  have hst := stor_all l
  have hr := room_en (n := l.length) (by omega)
  have hr1 := room_en (n := l.length + 1) (by omega)
  have t9 := tmod_bound n (m := 9) (by omega)
  have hx : en (l.getD k e0) = Am.part true 15 0 15 ((l.map en).getD (0 + k) (.sc undef)) := getD_en hk
  generalize hX : l.getD k e0 = x at *
  ((repeat ((conv => whnf); (first | (refine LetN.pre ?_; first | ((conv => arg 1; whnf); refine LetN.mk ?_)) | (refine As.pre ?_; first | refine As.mk rfl ?_ | refine As.mk hnz ?_ | (refine As.mk ?_ ?_; · ((repeat' (refine andT ?_ ?_)) <;> (first | rfl | assumption | exact stor_en _ _ _ | exact stor_all _ | exact decide_eq_true (by simp; omega) | (simp; done) | (simp [room]; omega))))) | (refine LetV.pre ?_; first | refine LetV.mk (.sc (.int _ _)) rfl ?_) | (refine LetI.pre ?_; first | refine LetI.mk (o := some .rem) n hn ?_ | refine LetI.mk (o := some .rem) (0 : Int) hm ?_ | refine LetI.mk (o := some .rem) ((k : Nat) : Int) hkk ?_ | refine LetI.wrap (by omega) (by omega) ?_ | refine LetI.mk _ rfl ?_) | (refine LetB.pre ?_; first | refine LetB.tt rfl ?_ | refine LetB.ff (by assumption) ?_) | (refine Br.pre ?_; first | refine Br.tt rfl ?_ | refine Br.ff rfl ?_) | (refine Ck.pre ?_; first | refine Ck.mk rfl ?_) | (refine LetL.pre ?_; first | refine LetL.mk (ty := ety) (l.map en) rfl ?_ | refine LetL.mk (ty := ety) _ (set_field l k 0 (int (n)) { x with id := n } hk (by rw [hX]; rfl)) ?_)))); (try (conv => whnf)))









  exact ⟨⟨[(4, .slm {} 0 15 0 (l.set k { x with id := n }).length)], [(0, .row 15 ety ((l.set k { x with id := n }).map en))], 9⟩, SW.mk (fun _ => 2) rfl rfl (namesAll.row (pure_en _) rfl) ⟨VLe2.slm_of (by simp), trivial⟩ (haveV.row (pure_en _) rfl trivial), .inl rfl, ⟨_, rfl, rfl⟩, rfl, trivial⟩
set_option maxHeartbeats 1600000 in
set_option maxRecDepth 100000 in
theorem Odd_1 (l : List E) (q : Int × Int × Int) (fl : Fl) (n : Int) (k : Nat) (hl : l.length ≤ 100) (hk : k < l.length) (hn2 : 0 ≤ n ∧ n < 20) (hm : (1 : Int) = (q.1.tmod 12 + 12).tmod 12) (hn : n = (q.2.1.tmod 20 + 20).tmod 20) (hkk : ((k : Nat) : Int) = (q.2.2.tmod ((0 + (l.map en).length : Nat) : Int) + ((0 + (l.map en).length : Nat) : Int)).tmod ((0 + (l.map en).length : Nat) : Int)) :
    AFun Try.prog 28 0 [.ro fl 15 (l.map en), .agg [int q.1, int q.2.1, int q.2.2]] [] (.slm {} 0 15 0 (l.set k { (l.getD k e0) with school := n.tmod 9 }).length) [(0, .row 15 ety ((l.set k { (l.getD k e0) with school := n.tmod 9 }).map en))] := by
  refine AFun.of_S T_ok mixed Try.func28 rfl (Nat.le_of_ble_eq_true rfl) rfl ?_
  have b0 := tmod_bound q.1 (m := 12) (by omega)
  have b1 := tmod_bound q.2.1 (m := 20) (by omega)
  have hml : (l.map en).length = l.length := List.length_map _
  have b2 := tmod_bound q.2.2 (m := ((0 + (l.map en).length : Nat) : Int)) (by omega)
  have hnz : (((0 + (l.map en).length : Nat) : Int) != 0) = true := bne_iff_ne.2 (by omega)
  have hez : (((0 + (l.map en).length : Nat) : Int) == 0) = false := beq_eq_false_iff_ne.2 (by omega)
  have hst := stor_all l
  have hr := room_en (n := l.length) (by omega)
  have hr1 := room_en (n := l.length + 1) (by omega)
  have t9 := tmod_bound n (m := 9) (by omega)
  have hx : en (l.getD k e0) = Am.part true 15 0 15 ((l.map en).getD (0 + k) (.sc undef)) := getD_en hk
  generalize hX : l.getD k e0 = x at *
  ((repeat ((conv => whnf); (first | (refine LetN.pre ?_; first | ((conv => arg 1; whnf); refine LetN.mk ?_)) | (refine As.pre ?_; first | refine As.mk rfl ?_ | refine As.mk hnz ?_ | (refine As.mk ?_ ?_; · ((repeat' (refine andT ?_ ?_)) <;> (first | rfl | assumption | exact stor_en _ _ _ | exact stor_all _ | exact decide_eq_true (by simp; omega) | (simp; done) | (simp [room]; omega))))) | (refine LetV.pre ?_; first | refine LetV.mk (.sc (.int _ _)) rfl ?_) | (refine LetI.pre ?_; first | refine LetI.mk (o := some .rem) n hn ?_ | refine LetI.mk (o := some .rem) (1 : Int) hm ?_ | refine LetI.mk (o := some .rem) ((k : Nat) : Int) hkk ?_ | refine LetI.wrap (by omega) (by omega) ?_ | refine LetI.mk _ rfl ?_) | (refine LetB.pre ?_; first | refine LetB.tt rfl ?_ | refine LetB.ff rfl ?_ | refine LetB.ff (by assumption) ?_) | (refine Br.pre ?_; first | refine Br.tt rfl ?_ | refine Br.ff rfl ?_) | (refine Ck.pre ?_; first | refine Ck.mk rfl ?_) | (refine LetL.pre ?_; first | refine LetL.mk (ty := ety) (l.map en) rfl ?_ | refine LetL.mk (ty := ety) _ (set_field l k 1 (int (n.tmod 9)) { x with school := n.tmod 9 } hk (by rw [hX]; rfl)) ?_)))); (try (conv => whnf)))









  exact ⟨⟨[(4, .slm {} 0 15 0 (l.set k { x with school := n.tmod 9 }).length)], [(0, .row 15 ety ((l.set k { x with school := n.tmod 9 }).map en))], 9⟩, SW.mk (fun _ => 2) rfl rfl (namesAll.row (pure_en _) rfl) ⟨VLe2.slm_of (by simp), trivial⟩ (haveV.row (pure_en _) rfl trivial), .inl rfl, ⟨_, rfl, rfl⟩, rfl, trivial⟩
set_option maxHeartbeats 1600000 in
set_option maxRecDepth 100000 in
theorem Odd_2 (l : List E) (q : Int × Int × Int) (fl : Fl) (n : Int) (k : Nat) (hl : l.length ≤ 100) (hk : k < l.length) (hn2 : 0 ≤ n ∧ n < 20) (hm : (2 : Int) = (q.1.tmod 12 + 12).tmod 12) (hn : n = (q.2.1.tmod 20 + 20).tmod 20) (hkk : ((k : Nat) : Int) = (q.2.2.tmod ((0 + (l.map en).length : Nat) : Int) + ((0 + (l.map en).length : Nat) : Int)).tmod ((0 + (l.map en).length : Nat) : Int)) :
    AFun Try.prog 28 0 [.ro fl 15 (l.map en), .agg [int q.1, int q.2.1, int q.2.2]] [] (.slm {} 0 15 0 (l.set k { (l.getD k e0) with student := n.tmod 4 }).length) [(0, .row 15 ety ((l.set k { (l.getD k e0) with student := n.tmod 4 }).map en))] := by
  refine AFun.of_S T_ok mixed Try.func28 rfl (Nat.le_of_ble_eq_true rfl) rfl ?_
  have b0 := tmod_bound q.1 (m := 12) (by omega)
  have b1 := tmod_bound q.2.1 (m := 20) (by omega)
  have hml : (l.map en).length = l.length := List.length_map _
  have b2 := tmod_bound q.2.2 (m := ((0 + (l.map en).length : Nat) : Int)) (by omega)
  have hnz : (((0 + (l.map en).length : Nat) : Int) != 0) = true := bne_iff_ne.2 (by omega)
  have hez : (((0 + (l.map en).length : Nat) : Int) == 0) = false := beq_eq_false_iff_ne.2 (by omega)
  have hst := stor_all l
  have hr := room_en (n := l.length) (by omega)
  have hr1 := room_en (n := l.length + 1) (by omega)
  have t9 := tmod_bound n (m := 9) (by omega)
  have hx : en (l.getD k e0) = Am.part true 15 0 15 ((l.map en).getD (0 + k) (.sc undef)) := getD_en hk
  generalize hX : l.getD k e0 = x at *
  ((repeat ((conv => whnf); (first | (refine LetN.pre ?_; first | ((conv => arg 1; whnf); refine LetN.mk ?_)) | (refine As.pre ?_; first | refine As.mk rfl ?_ | refine As.mk hnz ?_ | (refine As.mk ?_ ?_; · ((repeat' (refine andT ?_ ?_)) <;> (first | rfl | assumption | exact stor_en _ _ _ | exact stor_all _ | exact decide_eq_true (by simp; omega) | (simp; done) | (simp [room]; omega))))) | (refine LetV.pre ?_; first | refine LetV.mk (.sc (.int _ _)) rfl ?_) | (refine LetI.pre ?_; first | refine LetI.mk (o := some .rem) n hn ?_ | refine LetI.mk (o := some .rem) (2 : Int) hm ?_ | refine LetI.mk (o := some .rem) ((k : Nat) : Int) hkk ?_ | refine LetI.wrap (by omega) (by omega) ?_ | refine LetI.mk _ rfl ?_) | (refine LetB.pre ?_; first | refine LetB.tt rfl ?_ | refine LetB.ff rfl ?_ | refine LetB.ff (by assumption) ?_) | (refine Br.pre ?_; first | refine Br.tt rfl ?_ | refine Br.ff rfl ?_) | (refine Ck.pre ?_; first | refine Ck.mk rfl ?_) | (refine LetL.pre ?_; first | refine LetL.mk (ty := ety) (l.map en) rfl ?_ | refine LetL.mk (ty := ety) _ (set_field l k 2 (int (n.tmod 4)) { x with student := n.tmod 4 } hk (by rw [hX]; rfl)) ?_)))); (try (conv => whnf)))









  exact ⟨⟨[(4, .slm {} 0 15 0 (l.set k { x with student := n.tmod 4 }).length)], [(0, .row 15 ety ((l.set k { x with student := n.tmod 4 }).map en))], 9⟩, SW.mk (fun _ => 2) rfl rfl (namesAll.row (pure_en _) rfl) ⟨VLe2.slm_of (by simp), trivial⟩ (haveV.row (pure_en _) rfl trivial), .inl rfl, ⟨_, rfl, rfl⟩, rfl, trivial⟩
set_option maxHeartbeats 1600000 in
set_option maxRecDepth 100000 in
theorem Odd_3 (l : List E) (q : Int × Int × Int) (fl : Fl) (n : Int) (k : Nat) (hl : l.length ≤ 100) (hk : k < l.length) (hn2 : 0 ≤ n ∧ n < 20) (hm : (3 : Int) = (q.1.tmod 12 + 12).tmod 12) (hn : n = (q.2.1.tmod 20 + 20).tmod 20) (hkk : ((k : Nat) : Int) = (q.2.2.tmod ((0 + (l.map en).length : Nat) : Int) + ((0 + (l.map en).length : Nat) : Int)).tmod ((0 + (l.map en).length : Nat) : Int)) :
    AFun Try.prog 28 0 [.ro fl 15 (l.map en), .agg [int q.1, int q.2.1, int q.2.2]] [] (.slm {} 0 15 0 (l.set k { (l.getD k e0) with kind := n.tmod 11 }).length) [(0, .row 15 ety ((l.set k { (l.getD k e0) with kind := n.tmod 11 }).map en))] := by
  refine AFun.of_S T_ok mixed Try.func28 rfl (Nat.le_of_ble_eq_true rfl) rfl ?_
  have b0 := tmod_bound q.1 (m := 12) (by omega)
  have b1 := tmod_bound q.2.1 (m := 20) (by omega)
  have hml : (l.map en).length = l.length := List.length_map _
  have b2 := tmod_bound q.2.2 (m := ((0 + (l.map en).length : Nat) : Int)) (by omega)
  have hnz : (((0 + (l.map en).length : Nat) : Int) != 0) = true := bne_iff_ne.2 (by omega)
  have hez : (((0 + (l.map en).length : Nat) : Int) == 0) = false := beq_eq_false_iff_ne.2 (by omega)
  have hst := stor_all l
  have hr := room_en (n := l.length) (by omega)
  have hr1 := room_en (n := l.length + 1) (by omega)
  have t9 := tmod_bound n (m := 9) (by omega)
  have hx : en (l.getD k e0) = Am.part true 15 0 15 ((l.map en).getD (0 + k) (.sc undef)) := getD_en hk
  generalize hX : l.getD k e0 = x at *
  ((repeat ((conv => whnf); (first | (refine LetN.pre ?_; first | ((conv => arg 1; whnf); refine LetN.mk ?_)) | (refine As.pre ?_; first | refine As.mk rfl ?_ | refine As.mk hnz ?_ | (refine As.mk ?_ ?_; · ((repeat' (refine andT ?_ ?_)) <;> (first | rfl | assumption | exact stor_en _ _ _ | exact stor_all _ | exact decide_eq_true (by simp; omega) | (simp; done) | (simp [room]; omega))))) | (refine LetV.pre ?_; first | refine LetV.mk (.sc (.int _ _)) rfl ?_) | (refine LetI.pre ?_; first | refine LetI.mk (o := some .rem) n hn ?_ | refine LetI.mk (o := some .rem) (3 : Int) hm ?_ | refine LetI.mk (o := some .rem) ((k : Nat) : Int) hkk ?_ | refine LetI.wrap (by omega) (by omega) ?_ | refine LetI.mk _ rfl ?_) | (refine LetB.pre ?_; first | refine LetB.tt rfl ?_ | refine LetB.ff rfl ?_ | refine LetB.ff (by assumption) ?_) | (refine Br.pre ?_; first | refine Br.tt rfl ?_ | refine Br.ff rfl ?_) | (refine Ck.pre ?_; first | refine Ck.mk rfl ?_) | (refine LetL.pre ?_; first | refine LetL.mk (ty := ety) (l.map en) rfl ?_ | refine LetL.mk (ty := ety) _ (set_field l k 3 (int (n.tmod 11)) { x with kind := n.tmod 11 } hk (by rw [hX]; rfl)) ?_)))); (try (conv => whnf)))









  exact ⟨⟨[(4, .slm {} 0 15 0 (l.set k { x with kind := n.tmod 11 }).length)], [(0, .row 15 ety ((l.set k { x with kind := n.tmod 11 }).map en))], 9⟩, SW.mk (fun _ => 2) rfl rfl (namesAll.row (pure_en _) rfl) ⟨VLe2.slm_of (by simp), trivial⟩ (haveV.row (pure_en _) rfl trivial), .inl rfl, ⟨_, rfl, rfl⟩, rfl, trivial⟩
set_option maxHeartbeats 1600000 in
set_option maxRecDepth 100000 in
theorem Odd_4 (l : List E) (q : Int × Int × Int) (fl : Fl) (n : Int) (k : Nat) (hl : l.length ≤ 100) (hk : k < l.length) (hn2 : 0 ≤ n ∧ n < 20) (hm : (4 : Int) = (q.1.tmod 12 + 12).tmod 12) (hn : n = (q.2.1.tmod 20 + 20).tmod 20) (hkk : ((k : Nat) : Int) = (q.2.2.tmod ((0 + (l.map en).length : Nat) : Int) + ((0 + (l.map en).length : Nat) : Int)).tmod ((0 + (l.map en).length : Nat) : Int)) :
    AFun Try.prog 28 0 [.ro fl 15 (l.map en), .agg [int q.1, int q.2.1, int q.2.2]] [] (.slm {} 0 15 0 (l.set k { (l.getD k e0) with day := 20 * n }).length) [(0, .row 15 ety ((l.set k { (l.getD k e0) with day := 20 * n }).map en))] := by
  refine AFun.of_S T_ok mixed Try.func28 rfl (Nat.le_of_ble_eq_true rfl) rfl ?_
  have b0 := tmod_bound q.1 (m := 12) (by omega)
  have b1 := tmod_bound q.2.1 (m := 20) (by omega)
  have hml : (l.map en).length = l.length := List.length_map _
  have b2 := tmod_bound q.2.2 (m := ((0 + (l.map en).length : Nat) : Int)) (by omega)
  have hnz : (((0 + (l.map en).length : Nat) : Int) != 0) = true := bne_iff_ne.2 (by omega)
  have hez : (((0 + (l.map en).length : Nat) : Int) == 0) = false := beq_eq_false_iff_ne.2 (by omega)
  have hst := stor_all l
  have hr := room_en (n := l.length) (by omega)
  have hr1 := room_en (n := l.length + 1) (by omega)
  have t9 := tmod_bound n (m := 9) (by omega)
  have hx : en (l.getD k e0) = Am.part true 15 0 15 ((l.map en).getD (0 + k) (.sc undef)) := getD_en hk
  generalize hX : l.getD k e0 = x at *
  ((repeat ((conv => whnf); (first | (refine LetN.pre ?_; first | ((conv => arg 1; whnf); refine LetN.mk ?_)) | (refine As.pre ?_; first | refine As.mk rfl ?_ | refine As.mk hnz ?_ | (refine As.mk ?_ ?_; · ((repeat' (refine andT ?_ ?_)) <;> (first | rfl | assumption | exact stor_en _ _ _ | exact stor_all _ | exact decide_eq_true (by simp; omega) | (simp; done) | (simp [room]; omega))))) | (refine LetV.pre ?_; first | refine LetV.mk (.sc (.int _ _)) rfl ?_) | (refine LetI.pre ?_; first | refine LetI.mk (o := some .rem) n hn ?_ | refine LetI.mk (o := some .rem) (4 : Int) hm ?_ | refine LetI.mk (o := some .rem) ((k : Nat) : Int) hkk ?_ | refine LetI.wrap (by omega) (by omega) ?_ | refine LetI.mk _ rfl ?_) | (refine LetB.pre ?_; first | refine LetB.tt rfl ?_ | refine LetB.ff rfl ?_ | refine LetB.ff (by assumption) ?_) | (refine Br.pre ?_; first | refine Br.tt rfl ?_ | refine Br.ff rfl ?_) | (refine Ck.pre ?_; first | refine Ck.mk rfl ?_) | (refine LetL.pre ?_; first | refine LetL.mk (ty := ety) (l.map en) rfl ?_ | refine LetL.mk (ty := ety) _ (set_field l k 4 (int (20 * n)) { x with day := 20 * n } hk (by rw [hX]; rfl)) ?_)))); (try (conv => whnf)))









  exact ⟨⟨[(4, .slm {} 0 15 0 (l.set k { x with day := 20 * n }).length)], [(0, .row 15 ety ((l.set k { x with day := 20 * n }).map en))], 9⟩, SW.mk (fun _ => 2) rfl rfl (namesAll.row (pure_en _) rfl) ⟨VLe2.slm_of (by simp), trivial⟩ (haveV.row (pure_en _) rfl trivial), .inl rfl, ⟨_, rfl, rfl⟩, rfl, trivial⟩
set_option maxHeartbeats 1600000 in
set_option maxRecDepth 100000 in
theorem Odd_5 (l : List E) (q : Int × Int × Int) (fl : Fl) (n : Int) (k : Nat) (hl : l.length ≤ 100) (hk : k < l.length) (hn2 : 0 ≤ n ∧ n < 20) (hm : (5 : Int) = (q.1.tmod 12 + 12).tmod 12) (hn : n = (q.2.1.tmod 20 + 20).tmod 20) (hkk : ((k : Nat) : Int) = (q.2.2.tmod ((0 + (l.map en).length : Nat) : Int) + ((0 + (l.map en).length : Nat) : Int)).tmod ((0 + (l.map en).length : Nat) : Int)) :
    AFun Try.prog 28 0 [.ro fl 15 (l.map en), .agg [int q.1, int q.2.1, int q.2.2]] [] (.slm {} 0 15 0 (l.set k { (l.getD k e0) with on_ := 20 * n - 20 }).length) [(0, .row 15 ety ((l.set k { (l.getD k e0) with on_ := 20 * n - 20 }).map en))] := by
  refine AFun.of_S T_ok mixed Try.func28 rfl (Nat.le_of_ble_eq_true rfl) rfl ?_
  have b0 := tmod_bound q.1 (m := 12) (by omega)
  have b1 := tmod_bound q.2.1 (m := 20) (by omega)
  have hml : (l.map en).length = l.length := List.length_map _
  have b2 := tmod_bound q.2.2 (m := ((0 + (l.map en).length : Nat) : Int)) (by omega)
  have hnz : (((0 + (l.map en).length : Nat) : Int) != 0) = true := bne_iff_ne.2 (by omega)
  have hez : (((0 + (l.map en).length : Nat) : Int) == 0) = false := beq_eq_false_iff_ne.2 (by omega)
  have hst := stor_all l
  have hr := room_en (n := l.length) (by omega)
  have hr1 := room_en (n := l.length + 1) (by omega)
  have t9 := tmod_bound n (m := 9) (by omega)
  have hx : en (l.getD k e0) = Am.part true 15 0 15 ((l.map en).getD (0 + k) (.sc undef)) := getD_en hk
  generalize hX : l.getD k e0 = x at *
  ((repeat ((conv => whnf); (first | (refine LetN.pre ?_; first | ((conv => arg 1; whnf); refine LetN.mk ?_)) | (refine As.pre ?_; first | refine As.mk rfl ?_ | refine As.mk hnz ?_ | (refine As.mk ?_ ?_; · ((repeat' (refine andT ?_ ?_)) <;> (first | rfl | assumption | exact stor_en _ _ _ | exact stor_all _ | exact decide_eq_true (by simp; omega) | (simp; done) | (simp [room]; omega))))) | (refine LetV.pre ?_; first | refine LetV.mk (.sc (.int _ _)) rfl ?_) | (refine LetI.pre ?_; first | refine LetI.mk (o := some .rem) n hn ?_ | refine LetI.mk (o := some .rem) (5 : Int) hm ?_ | refine LetI.mk (o := some .rem) ((k : Nat) : Int) hkk ?_ | refine LetI.wrap (by omega) (by omega) ?_ | refine LetI.mk _ rfl ?_) | (refine LetB.pre ?_; first | refine LetB.tt rfl ?_ | refine LetB.ff rfl ?_ | refine LetB.ff (by assumption) ?_) | (refine Br.pre ?_; first | refine Br.tt rfl ?_ | refine Br.ff rfl ?_) | (refine Ck.pre ?_; first | refine Ck.mk rfl ?_) | (refine LetL.pre ?_; first | refine LetL.mk (ty := ety) (l.map en) rfl ?_ | refine LetL.mk (ty := ety) _ (set_field l k 5 (int (20 * n - 20)) { x with on_ := 20 * n - 20 } hk (by rw [hX]; rfl)) ?_)))); (try (conv => whnf)))









  exact ⟨⟨[(4, .slm {} 0 15 0 (l.set k { x with on_ := 20 * n - 20 }).length)], [(0, .row 15 ety ((l.set k { x with on_ := 20 * n - 20 }).map en))], 9⟩, SW.mk (fun _ => 2) rfl rfl (namesAll.row (pure_en _) rfl) ⟨VLe2.slm_of (by simp), trivial⟩ (haveV.row (pure_en _) rfl trivial), .inl rfl, ⟨_, rfl, rfl⟩, rfl, trivial⟩
set_option maxHeartbeats 1600000 in
set_option maxRecDepth 100000 in
theorem Odd_6 (l : List E) (q : Int × Int × Int) (fl : Fl) (n : Int) (k : Nat) (hl : l.length ≤ 100) (hk : k < l.length) (hn2 : 0 ≤ n ∧ n < 20) (hm : (6 : Int) = (q.1.tmod 12 + 12).tmod 12) (hn : n = (q.2.1.tmod 20 + 20).tmod 20) (hkk : ((k : Nat) : Int) = (q.2.2.tmod ((0 + (l.map en).length : Nat) : Int) + ((0 + (l.map en).length : Nat) : Int)).tmod ((0 + (l.map en).length : Nat) : Int)) :
    AFun Try.prog 28 0 [.ro fl 15 (l.map en), .agg [int q.1, int q.2.1, int q.2.2]] [] (.slm {} 0 15 0 (l.set k { (l.getD k e0) with ref := n }).length) [(0, .row 15 ety ((l.set k { (l.getD k e0) with ref := n }).map en))] := by
  refine AFun.of_S T_ok mixed Try.func28 rfl (Nat.le_of_ble_eq_true rfl) rfl ?_
  have b0 := tmod_bound q.1 (m := 12) (by omega)
  have b1 := tmod_bound q.2.1 (m := 20) (by omega)
  have hml : (l.map en).length = l.length := List.length_map _
  have b2 := tmod_bound q.2.2 (m := ((0 + (l.map en).length : Nat) : Int)) (by omega)
  have hnz : (((0 + (l.map en).length : Nat) : Int) != 0) = true := bne_iff_ne.2 (by omega)
  have hez : (((0 + (l.map en).length : Nat) : Int) == 0) = false := beq_eq_false_iff_ne.2 (by omega)
  have hst := stor_all l
  have hr := room_en (n := l.length) (by omega)
  have hr1 := room_en (n := l.length + 1) (by omega)
  have t9 := tmod_bound n (m := 9) (by omega)
  have hx : en (l.getD k e0) = Am.part true 15 0 15 ((l.map en).getD (0 + k) (.sc undef)) := getD_en hk
  generalize hX : l.getD k e0 = x at *
  ((repeat ((conv => whnf); (first | (refine LetN.pre ?_; first | ((conv => arg 1; whnf); refine LetN.mk ?_)) | (refine As.pre ?_; first | refine As.mk rfl ?_ | refine As.mk hnz ?_ | (refine As.mk ?_ ?_; · ((repeat' (refine andT ?_ ?_)) <;> (first | rfl | assumption | exact stor_en _ _ _ | exact stor_all _ | exact decide_eq_true (by simp; omega) | (simp; done) | (simp [room]; omega))))) | (refine LetV.pre ?_; first | refine LetV.mk (.sc (.int _ _)) rfl ?_) | (refine LetI.pre ?_; first | refine LetI.mk (o := some .rem) n hn ?_ | refine LetI.mk (o := some .rem) (6 : Int) hm ?_ | refine LetI.mk (o := some .rem) ((k : Nat) : Int) hkk ?_ | refine LetI.wrap (by omega) (by omega) ?_ | refine LetI.mk _ rfl ?_) | (refine LetB.pre ?_; first | refine LetB.tt rfl ?_ | refine LetB.ff rfl ?_ | refine LetB.ff (by assumption) ?_) | (refine Br.pre ?_; first | refine Br.tt rfl ?_ | refine Br.ff rfl ?_) | (refine Ck.pre ?_; first | refine Ck.mk rfl ?_) | (refine LetL.pre ?_; first | refine LetL.mk (ty := ety) (l.map en) rfl ?_ | refine LetL.mk (ty := ety) _ (set_field l k 9 (int (n)) { x with ref := n } hk (by rw [hX]; rfl)) ?_)))); (try (conv => whnf)))









  exact ⟨⟨[(4, .slm {} 0 15 0 (l.set k { x with ref := n }).length)], [(0, .row 15 ety ((l.set k { x with ref := n }).map en))], 9⟩, SW.mk (fun _ => 2) rfl rfl (namesAll.row (pure_en _) rfl) ⟨VLe2.slm_of (by simp), trivial⟩ (haveV.row (pure_en _) rfl trivial), .inl rfl, ⟨_, rfl, rfl⟩, rfl, trivial⟩
set_option maxHeartbeats 1600000 in
set_option maxRecDepth 100000 in
theorem Odd_7 (l : List E) (q : Int × Int × Int) (fl : Fl) (n : Int) (k : Nat) (hl : l.length ≤ 100) (hk : k < l.length) (hn2 : 0 ≤ n ∧ n < 20) (hm : (7 : Int) = (q.1.tmod 12 + 12).tmod 12) (hn : n = (q.2.1.tmod 20 + 20).tmod 20) (hkk : ((k : Nat) : Int) = (q.2.2.tmod ((0 + (l.map en).length : Nat) : Int) + ((0 + (l.map en).length : Nat) : Int)).tmod ((0 + (l.map en).length : Nat) : Int)) :
    AFun Try.prog 28 0 [.ro fl 15 (l.map en), .agg [int q.1, int q.2.1, int q.2.2]] [] (.slm {} 0 15 0 (l.set k { (l.getD k e0) with grade := 10 * n }).length) [(0, .row 15 ety ((l.set k { (l.getD k e0) with grade := 10 * n }).map en))] := by
  refine AFun.of_S T_ok mixed Try.func28 rfl (Nat.le_of_ble_eq_true rfl) rfl ?_
  have b0 := tmod_bound q.1 (m := 12) (by omega)
  have b1 := tmod_bound q.2.1 (m := 20) (by omega)
  have hml : (l.map en).length = l.length := List.length_map _
  have b2 := tmod_bound q.2.2 (m := ((0 + (l.map en).length : Nat) : Int)) (by omega)
  have hnz : (((0 + (l.map en).length : Nat) : Int) != 0) = true := bne_iff_ne.2 (by omega)
  have hez : (((0 + (l.map en).length : Nat) : Int) == 0) = false := beq_eq_false_iff_ne.2 (by omega)
  have hst := stor_all l
  have hr := room_en (n := l.length) (by omega)
  have hr1 := room_en (n := l.length + 1) (by omega)
  have t9 := tmod_bound n (m := 9) (by omega)
  have hx : en (l.getD k e0) = Am.part true 15 0 15 ((l.map en).getD (0 + k) (.sc undef)) := getD_en hk
  generalize hX : l.getD k e0 = x at *
  ((repeat ((conv => whnf); (first | (refine LetN.pre ?_; first | ((conv => arg 1; whnf); refine LetN.mk ?_)) | (refine As.pre ?_; first | refine As.mk rfl ?_ | refine As.mk hnz ?_ | (refine As.mk ?_ ?_; · ((repeat' (refine andT ?_ ?_)) <;> (first | rfl | assumption | exact stor_en _ _ _ | exact stor_all _ | exact decide_eq_true (by simp; omega) | (simp; done) | (simp [room]; omega))))) | (refine LetV.pre ?_; first | refine LetV.mk (.sc (.int _ _)) rfl ?_) | (refine LetI.pre ?_; first | refine LetI.mk (o := some .rem) n hn ?_ | refine LetI.mk (o := some .rem) (7 : Int) hm ?_ | refine LetI.mk (o := some .rem) ((k : Nat) : Int) hkk ?_ | refine LetI.wrap (by omega) (by omega) ?_ | refine LetI.mk _ rfl ?_) | (refine LetB.pre ?_; first | refine LetB.tt rfl ?_ | refine LetB.ff rfl ?_ | refine LetB.ff (by assumption) ?_) | (refine Br.pre ?_; first | refine Br.tt rfl ?_ | refine Br.ff rfl ?_) | (refine Ck.pre ?_; first | refine Ck.mk rfl ?_) | (refine LetL.pre ?_; first | refine LetL.mk (ty := ety) (l.map en) rfl ?_ | refine LetL.mk (ty := ety) _ (set_field l k 8 (int (10 * n)) { x with grade := 10 * n } hk (by rw [hX]; rfl)) ?_)))); (try (conv => whnf)))









  exact ⟨⟨[(4, .slm {} 0 15 0 (l.set k { x with grade := 10 * n }).length)], [(0, .row 15 ety ((l.set k { x with grade := 10 * n }).map en))], 9⟩, SW.mk (fun _ => 2) rfl rfl (namesAll.row (pure_en _) rfl) ⟨VLe2.slm_of (by simp), trivial⟩ (haveV.row (pure_en _) rfl trivial), .inl rfl, ⟨_, rfl, rfl⟩, rfl, trivial⟩
set_option maxHeartbeats 1600000 in
set_option maxRecDepth 100000 in
theorem Odd_8 (l : List E) (q : Int × Int × Int) (fl : Fl) (n : Int) (k : Nat) (hl : l.length ≤ 100) (hk : k < l.length) (hn2 : 0 ≤ n ∧ n < 20) (hm : (8 : Int) = (q.1.tmod 12 + 12).tmod 12) (hn : n = (q.2.1.tmod 20 + 20).tmod 20) (hkk : ((k : Nat) : Int) = (q.2.2.tmod ((0 + (l.map en).length : Nat) : Int) + ((0 + (l.map en).length : Nat) : Int)).tmod ((0 + (l.map en).length : Nat) : Int)) :
    AFun Try.prog 28 0 [.ro fl 15 (l.map en), .agg [int q.1, int q.2.1, int q.2.2]] [] (.slm {} 0 15 0 (l.take k ++ l.drop (k + 1)).length) [(0, .row 15 ety ((l.take k ++ l.drop (k + 1)).map en))] := by
  refine AFun.of_S T_ok mixed Try.func28 rfl (Nat.le_of_ble_eq_true rfl) rfl ?_
  have b0 := tmod_bound q.1 (m := 12) (by omega)
  have b1 := tmod_bound q.2.1 (m := 20) (by omega)
  have hml : (l.map en).length = l.length := List.length_map _
  have b2 := tmod_bound q.2.2 (m := ((0 + (l.map en).length : Nat) : Int)) (by omega)
  have hnz : (((0 + (l.map en).length : Nat) : Int) != 0) = true := bne_iff_ne.2 (by omega)
  have hez : (((0 + (l.map en).length : Nat) : Int) == 0) = false := beq_eq_false_iff_ne.2 (by omega)
  have hst := stor_all l
  have hr := room_en (n := l.length) (by omega)
  have hr1 := room_en (n := l.length + 1) (by omega)
  have t9 := tmod_bound n (m := 9) (by omega)
  have hx : en (l.getD k e0) = Am.part true 15 0 15 ((l.map en).getD (0 + k) (.sc undef)) := getD_en hk
  generalize hX : l.getD k e0 = x at *
  ((repeat ((conv => whnf); (first | (refine LetN.pre ?_; first | ((conv => arg 1; whnf); refine LetN.mk ?_)) | (refine As.pre ?_; first | refine As.mk rfl ?_ | refine As.mk hnz ?_ | (refine As.mk ?_ ?_; · ((repeat' (refine andT ?_ ?_)) <;> (first | rfl | assumption | exact stor_en _ _ _ | exact stor_all _ | exact decide_eq_true (by simp; omega) | (simp; done) | (simp [room]; omega))))) | (refine LetV.pre ?_; first | refine LetV.mk (.sc (.int _ _)) rfl ?_ | refine LetV.mk (.slm _ _ _ _ _) rfl ?_) | (refine LetI.pre ?_; first | refine LetI.mk (o := some .rem) n hn ?_ | refine LetI.mk (o := some .rem) (8 : Int) hm ?_ | refine LetI.mk (o := some .rem) ((k : Nat) : Int) hkk ?_ | refine LetI.wrap (by omega) (by omega) ?_ | refine LetI.mk _ rfl ?_) | (refine LetB.pre ?_; first | refine LetB.tt rfl ?_ | refine LetB.ff rfl ?_ | refine LetB.ff (by assumption) ?_) | (refine Br.pre ?_; first | refine Br.tt rfl ?_ | refine Br.ff rfl ?_) | (refine Ck.pre ?_; first | refine Ck.drawn (by kernel_rfl) ?_ | refine Ck.mk rfl ?_) | (refine LetL.pre ?_; first | refine LetL.mk (ty := ety) (l.map en) rfl ?_ | (refine LetL.mk (ty := ety) _ (del_row l k _ _ _ ?_ ?_ ?_) ?_; iterate 3 (· (first | (simp; done) | (simp; omega)))))))); (try (conv => whnf)))









  exact ⟨⟨[(4, .slm {} 0 15 0 (l.take k ++ l.drop (k + 1)).length)], [(0, .row 15 ety ((l.take k ++ l.drop (k + 1)).map en))], 9⟩, SW.mk (fun _ => 3) rfl rfl (namesAll.row (pure_en _) rfl) ⟨VLe2.slm_of (by first | (simp; done) | (simp; omega)), trivial⟩ (haveV.row (pure_en _) rfl trivial), .inl rfl, ⟨_, rfl, rfl⟩, rfl, trivial⟩
set_option maxHeartbeats 1600000 in
set_option maxRecDepth 100000 in
theorem Odd_9 (l : List E) (q : Int × Int × Int) (fl : Fl) (n : Int) (k : Nat) (hl : l.length ≤ 100) (hk : k < l.length) (hn2 : 0 ≤ n ∧ n < 20) (hm : (9 : Int) = (q.1.tmod 12 + 12).tmod 12) (hn : n = (q.2.1.tmod 20 + 20).tmod 20) (hkk : ((k : Nat) : Int) = (q.2.2.tmod ((0 + (l.map en).length : Nat) : Int) + ((0 + (l.map en).length : Nat) : Int)).tmod ((0 + (l.map en).length : Nat) : Int)) :
    AFun Try.prog 28 0 [.ro fl 15 (l.map en), .agg [int q.1, int q.2.1, int q.2.2]] [] (.slm {} 0 15 0 (l ++ [{ (l.getD k e0) with id := 500 + n }]).length) [(0, .row 15 ety ((l ++ [{ (l.getD k e0) with id := 500 + n }]).map en))] := by
  refine AFun.of_S T_ok mixed Try.func28 rfl (Nat.le_of_ble_eq_true rfl) rfl ?_
  have b0 := tmod_bound q.1 (m := 12) (by omega)
  have b1 := tmod_bound q.2.1 (m := 20) (by omega)
  have hml : (l.map en).length = l.length := List.length_map _
  have b2 := tmod_bound q.2.2 (m := ((0 + (l.map en).length : Nat) : Int)) (by omega)
  have hnz : (((0 + (l.map en).length : Nat) : Int) != 0) = true := bne_iff_ne.2 (by omega)
  have hez : (((0 + (l.map en).length : Nat) : Int) == 0) = false := beq_eq_false_iff_ne.2 (by omega)
  have hst := stor_all l
  have hr := room_en (n := l.length) (by omega)
  have hr1 := room_en (n := l.length + 1) (by omega)
  have t9 := tmod_bound n (m := 9) (by omega)
  have hx : en (l.getD k e0) = Am.part true 15 0 15 ((l.map en).getD (0 + k) (.sc undef)) := getD_en hk
  generalize hX : l.getD k e0 = x at *
  ((repeat ((conv => whnf); (first | (refine LetN.pre ?_; first | ((conv => arg 1; whnf); refine LetN.mk ?_)) | (refine As.pre ?_; first | refine As.mk rfl ?_ | refine As.mk hnz ?_ | (refine As.mk ?_ ?_; · ((repeat' (refine andT ?_ ?_)) <;> (first | rfl | assumption | exact stor_en _ _ _ | exact stor_all _ | exact decide_eq_true (by simp; omega) | (simp; done) | (simp [room]; omega))))) | (refine LetV.pre ?_; first | refine LetV.mk (t := ety) _ hx ?_ | refine LetV.mk (.sc (.int _ _)) rfl ?_ | refine LetV.mk (.agg _) rfl ?_) | (refine LetI.pre ?_; first | refine LetI.mk (o := some .rem) n hn ?_ | refine LetI.mk (o := some .rem) (9 : Int) hm ?_ | refine LetI.mk (o := some .rem) ((k : Nat) : Int) hkk ?_ | refine LetI.wrap (by omega) (by omega) ?_ | refine LetI.mk _ rfl ?_) | (refine LetB.pre ?_; first | refine LetB.tt rfl ?_ | refine LetB.ff rfl ?_ | refine LetB.ff (by assumption) ?_) | (refine Br.pre ?_; first | refine Br.tt rfl ?_ | refine Br.ff rfl ?_) | (refine Ck.pre ?_; first | refine Ck.mk rfl ?_) | (refine LetL.pre ?_; first | refine LetL.mk (ty := ety) (l.map en) rfl ?_ | refine LetL.mk (ty := ety) _ (app_en l { x with id := 500 + n } _ (by simp)) ?_ | refine LetL.mk [_] rfl ?_)))); (try (conv => whnf)))









  exact ⟨⟨[(4, .slm {} 0 15 0 (l ++ [{ x with id := 500 + n }]).length)], [(0, .row 15 ety ((l ++ [{ x with id := 500 + n }]).map en))], 9⟩, SW.mk (fun _ => 4) rfl rfl (namesAll.row (pure_en _) rfl) ⟨VLe2.slm_of (by simp), trivial⟩ (haveV.row (pure_en _) rfl trivial), .inl rfl, ⟨_, rfl, rfl⟩, rfl, trivial⟩
set_option maxHeartbeats 1600000 in
set_option maxRecDepth 100000 in
theorem Odd_10 (l : List E) (q : Int × Int × Int) (fl : Fl) (n : Int) (k : Nat) (hl : l.length ≤ 100) (hk : k < l.length) (hn2 : 0 ≤ n ∧ n < 20) (hm : (10 : Int) = (q.1.tmod 12 + 12).tmod 12) (hn : n = (q.2.1.tmod 20 + 20).tmod 20) (hkk : ((k : Nat) : Int) = (q.2.2.tmod ((0 + (l.map en).length : Nat) : Int) + ((0 + (l.map en).length : Nat) : Int)).tmod ((0 + (l.map en).length : Nat) : Int)) :
    AFun Try.prog 28 0 [.ro fl 15 (l.map en), .agg [int q.1, int q.2.1, int q.2.2]] [] (.slm {} 0 15 0 ((l.set 0 (l.getD k e0)).set k (l.getD 0 e0)).length) [(0, .row 15 ety (((l.set 0 (l.getD k e0)).set k (l.getD 0 e0)).map en))] := by
  refine AFun.of_S T_ok mixed Try.func28 rfl (Nat.le_of_ble_eq_true rfl) rfl ?_
  have b0 := tmod_bound q.1 (m := 12) (by omega)
  have b1 := tmod_bound q.2.1 (m := 20) (by omega)
  have hml : (l.map en).length = l.length := List.length_map _
  have b2 := tmod_bound q.2.2 (m := ((0 + (l.map en).length : Nat) : Int)) (by omega)
  have hnz : (((0 + (l.map en).length : Nat) : Int) != 0) = true := bne_iff_ne.2 (by omega)
  have hez : (((0 + (l.map en).length : Nat) : Int) == 0) = false := beq_eq_false_iff_ne.2 (by omega)
  have hst := stor_all l
  have hr := room_en (n := l.length) (by omega)
  have hr1 := room_en (n := l.length + 1) (by omega)
  have t9 := tmod_bound n (m := 9) (by omega)
  have hx : en (l.getD k e0) = Am.part true 15 0 15 ((l.map en).getD (0 + k) (.sc undef)) := getD_en hk
  generalize hX : l.getD k e0 = x at *
  ((repeat ((conv => whnf); (first | (refine LetN.pre ?_; first | ((conv => arg 1; whnf); refine LetN.mk ?_)) | (refine As.pre ?_; first | refine As.mk rfl ?_ | refine As.mk hnz ?_ | (refine As.mk ?_ ?_; · ((repeat' (refine andT ?_ ?_)) <;> (first | rfl | assumption | exact stor_en _ _ _ | exact stor_all _ | exact decide_eq_true (by simp; omega) | (simp; done) | (simp [room]; omega))))) | (refine LetV.pre ?_; first | refine LetV.mk (t := ety) _ hx ?_ | refine LetV.mk (t := ety) (en (l.getD 0 e0)) (getD_en (k := 0) (by omega)) ?_ | refine LetV.mk (.sc (.int _ _)) rfl ?_) | (refine LetI.pre ?_; first | refine LetI.mk (o := some .rem) n hn ?_ | refine LetI.mk (o := some .rem) (10 : Int) hm ?_ | refine LetI.mk (o := some .rem) ((k : Nat) : Int) hkk ?_ | refine LetI.wrap (by omega) (by omega) ?_ | refine LetI.mk _ rfl ?_) | (refine LetB.pre ?_; first | refine LetB.tt rfl ?_ | refine LetB.ff rfl ?_ | refine LetB.ff (by assumption) ?_) | (refine Br.pre ?_; first | refine Br.tt rfl ?_ | refine Br.ff rfl ?_) | (refine Ck.pre ?_; first | refine Ck.drawn (by kernel_rfl) ?_ | refine Ck.mk rfl ?_) | (refine LetL.pre ?_; first | refine LetL.mk (ty := ety) (l.map en) rfl ?_ | refine LetL.mk (ty := ety) ((l.set 0 x).map en) (by rw [Nat.zero_add]; exact List.map_set) ?_ | refine LetL.mk (ty := ety) (((l.set 0 x).set k (l.getD 0 e0)).map en) (by rw [Nat.zero_add]; exact List.map_set) ?_)))); (try (conv => whnf)))











  exact ⟨⟨[(4, .slm {} 0 15 0 ((l.set 0 x).set k (l.getD 0 e0)).length)], [(0, .row 15 ety (((l.set 0 x).set k (l.getD 0 e0)).map en))], 9⟩, SW.mk (fun _ => 2) rfl rfl (namesAll.row (pure_en _) rfl) ⟨VLe2.slm_of (by simp), trivial⟩ (haveV.row (pure_en _) rfl trivial), .inl rfl, ⟨_, rfl, rfl⟩, rfl, trivial⟩
set_option maxHeartbeats 1600000 in
set_option maxRecDepth 100000 in
theorem Odd_11 (l : List E) (q : Int × Int × Int) (fl : Fl) (n : Int) (k : Nat) (hl : l.length ≤ 100) (hk : k < l.length) (hn2 : 0 ≤ n ∧ n < 20) (hm : (11 : Int) = (q.1.tmod 12 + 12).tmod 12) (hn : n = (q.2.1.tmod 20 + 20).tmod 20) (hkk : ((k : Nat) : Int) = (q.2.2.tmod ((0 + (l.map en).length : Nat) : Int) + ((0 + (l.map en).length : Nat) : Int)).tmod ((0 + (l.map en).length : Nat) : Int)) :
    AFun Try.prog 28 0 [.ro fl 15 (l.map en), .agg [int q.1, int q.2.1, int q.2.2]] [] (.slm {} 0 15 0 ((l.set k { (l.getD k e0) with programme := n.tmod 3 }).set k { (l.getD k e0) with programme := n.tmod 3, version := n.tmod 4 }).length) [(0, .row 15 ety (((l.set k { (l.getD k e0) with programme := n.tmod 3 }).set k { (l.getD k e0) with programme := n.tmod 3, version := n.tmod 4 }).map en))] := by
  refine AFun.of_S T_ok mixed Try.func28 rfl (Nat.le_of_ble_eq_true rfl) rfl ?_
  have b0 := tmod_bound q.1 (m := 12) (by omega)
  have b1 := tmod_bound q.2.1 (m := 20) (by omega)
  have hml : (l.map en).length = l.length := List.length_map _
  have b2 := tmod_bound q.2.2 (m := ((0 + (l.map en).length : Nat) : Int)) (by omega)
  have hnz : (((0 + (l.map en).length : Nat) : Int) != 0) = true := bne_iff_ne.2 (by omega)
  have hez : (((0 + (l.map en).length : Nat) : Int) == 0) = false := beq_eq_false_iff_ne.2 (by omega)
  have hst := stor_all l
  have hr := room_en (n := l.length) (by omega)
  have hr1 := room_en (n := l.length + 1) (by omega)
  have t9 := tmod_bound n (m := 9) (by omega)
  have hx : en (l.getD k e0) = Am.part true 15 0 15 ((l.map en).getD (0 + k) (.sc undef)) := getD_en hk
  generalize hX : l.getD k e0 = x at *
  ((repeat ((conv => whnf); (first | (refine LetN.pre ?_; first | ((conv => arg 1; whnf); refine LetN.mk ?_)) | (refine As.pre ?_; first | refine As.mk rfl ?_ | refine As.mk hnz ?_ | (refine As.mk ?_ ?_; · ((repeat' (refine andT ?_ ?_)) <;> (first | rfl | assumption | exact stor_en _ _ _ | exact stor_all _ | exact decide_eq_true (by simp; omega) | (simp; done) | (simp [room]; omega))))) | (refine LetV.pre ?_; first | refine LetV.mk (.sc (.int _ _)) rfl ?_) | (refine LetI.pre ?_; first | refine LetI.mk (o := some .rem) n hn ?_ | refine LetI.mk (o := some .rem) (11 : Int) hm ?_ | refine LetI.mk (o := some .rem) ((k : Nat) : Int) hkk ?_ | refine LetI.wrap (by omega) (by omega) ?_ | refine LetI.mk _ rfl ?_) | (refine LetB.pre ?_; first | refine LetB.ff rfl ?_ | refine LetB.ff (by assumption) ?_) | (refine Br.pre ?_; first | refine Br.ff rfl ?_) | (refine Ck.pre ?_; first | refine Ck.mk rfl ?_) | (refine LetL.pre ?_; first | refine LetL.mk (ty := ety) (l.map en) rfl ?_ | refine LetL.mk (ty := ety) _ (set_field l k 11 (int (n.tmod 3)) { x with programme := n.tmod 3 } hk (by rw [hX]; rfl)) ?_ | refine LetL.mk (ty := ety) _ (set_field (l.set k { x with programme := n.tmod 3 }) k 12 (int (n.tmod 4)) { x with programme := n.tmod 3, version := n.tmod 4 } (by simpa using hk) (by rw [getD_set_self _ hk]; rfl)) ?_)))); (try (conv => whnf)))










  exact ⟨⟨[(4, .slm {} 0 15 0 ((l.set k { x with programme := n.tmod 3 }).set k { x with programme := n.tmod 3, version := n.tmod 4 }).length)], [(0, .row 15 ety (((l.set k { x with programme := n.tmod 3 }).set k { x with programme := n.tmod 3, version := n.tmod 4 }).map en))], 9⟩, SW.mk (fun _ => 2) rfl rfl (namesAll.row (pure_en _) rfl) ⟨VLe2.slm_of (by simp), trivial⟩ (haveV.row (pure_en _) rfl trivial), .inl rfl, ⟨_, rfl, rfl⟩, rfl, trivial⟩
end En
end Go.Proofs.Ytjnohedknlibmaa
namespace Go.Proofs.Ytjnohedknlibmaa
open Go.Proofs.Ytjnohedknlibmaa.Am
namespace En
theorem odd_set {l : List E} {k : Nat} {y : E} (hk : k < l.length) (hy : y.course = (l.getD k e0).course) : OddIs l (l.set k y) :=
  ⟨by simp, mem_set_course hk hy⟩
theorem mem_courses {l l' : List E} (h : ∀ e ∈ l', e ∈ l) : ∀ e ∈ l', e.course = ⟨#[]⟩ ∨ e.course ∈ l.map (·.course) := fun e he => .inr (List.mem_map_of_mem (h e he))
theorem getD_mem {l : List E} {k : Nat} (h : k < l.length) : l.getD k e0 ∈ l := by
  rw [List.getD_eq_getElem?_getD, List.getElem?_eq_getElem h]
  exact List.getElem_mem _
theorem frz_en {f : FuncId} {vs : List AV} {l' : List E} (h : AFun Try.prog f 0 vs [] (.slm {} 0 15 0 l'.length) [(0, .row 15 ety (l'.map en))]) : AFun Try.prog f 0 vs [] (.ro {} 15 (l'.map en)) [] :=
  AFun.frz1 (H := []) h rfl (pure_en _) (by simp)
theorem Odd_f (l : List E) (q : Int × Int × Int) (fl : Fl) (hl : l.length ≤ 100) : ∃ l' : List E, OddIs l l' ∧ AFun Try.prog 28 0 [.ro fl 15 (l.map en), .agg [int q.1, int q.2.1, int q.2.2]] [] (.ro {} 15 (l'.map en)) [] := by
  by_cases h0 : l = []
  · subst h0; exact Odd_nil q fl
  have hpos : 0 < l.length := List.length_pos_iff.2 h0
  have b0 := tmod_bound q.1 (m := 12) (by omega)
  have p0 := tmod_pos 12 (a := q.1.tmod 12 + 12) (by omega)
  have b1 := tmod_bound q.2.1 (m := 20) (by omega)
  have p1 := tmod_pos 20 (a := q.2.1.tmod 20 + 20) (by omega)
  obtain ⟨n, hn⟩ : ∃ n : Int, n = (q.2.1.tmod 20 + 20).tmod 20 := ⟨_, rfl⟩
  have hn2 : 0 ≤ n ∧ n < 20 := by omega
  have hml : (0 + (l.map en).length) = l.length := by simp
  obtain ⟨k, hk, hkk⟩ : ∃ k : Nat, k < l.length ∧ ((k : Nat) : Int) = (q.2.2.tmod ((0 + (l.map en).length : Nat) : Int) + ((0 + (l.map en).length : Nat) : Int)).tmod ((0 + (l.map en).length : Nat) : Int) := by
    rw [hml]
    have b2 := tmod_bound q.2.2 (m := (l.length : Int)) (by omega)
    have h1 := Int.tmod_nonneg (l.length : Int) (a := q.2.2.tmod (l.length : Int) + (l.length : Int)) (by omega)
    have h2 := Int.tmod_lt_of_pos (q.2.2.tmod (l.length : Int) + (l.length : Int)) (b := (l.length : Int)) (by omega)
    exact ⟨((q.2.2.tmod (l.length : Int) + (l.length : Int)).tmod (l.length : Int)).toNat, by omega, by omega⟩
  have hc : (q.1.tmod 12 + 12).tmod 12 = 0 ∨ (q.1.tmod 12 + 12).tmod 12 = 1 ∨ (q.1.tmod 12 + 12).tmod 12 = 2 ∨ (q.1.tmod 12 + 12).tmod 12 = 3 ∨ (q.1.tmod 12 + 12).tmod 12 = 4 ∨ (q.1.tmod 12 + 12).tmod 12 = 5 ∨ (q.1.tmod 12 + 12).tmod 12 = 6 ∨ (q.1.tmod 12 + 12).tmod 12 = 7 ∨ (q.1.tmod 12 + 12).tmod 12 = 8 ∨ (q.1.tmod 12 + 12).tmod 12 = 9 ∨ (q.1.tmod 12 + 12).tmod 12 = 10 ∨ (q.1.tmod 12 + 12).tmod 12 = 11 := by omega
  rcases hc with h | h | h | h | h | h | h | h | h | h | h | h
  · refine ⟨_, ?_, frz_en (Odd_0 l q fl n k hl hk hn2 h.symm hn hkk)⟩
    exact odd_set hk rfl
  · refine ⟨_, ?_, frz_en (Odd_1 l q fl n k hl hk hn2 h.symm hn hkk)⟩
    exact odd_set hk rfl
  · refine ⟨_, ?_, frz_en (Odd_2 l q fl n k hl hk hn2 h.symm hn hkk)⟩
    exact odd_set hk rfl
  · refine ⟨_, ?_, frz_en (Odd_3 l q fl n k hl hk hn2 h.symm hn hkk)⟩
    exact odd_set hk rfl
  · refine ⟨_, ?_, frz_en (Odd_4 l q fl n k hl hk hn2 h.symm hn hkk)⟩
    exact odd_set hk rfl
  · refine ⟨_, ?_, frz_en (Odd_5 l q fl n k hl hk hn2 h.symm hn hkk)⟩
    exact odd_set hk rfl
  · refine ⟨_, ?_, frz_en (Odd_6 l q fl n k hl hk hn2 h.symm hn hkk)⟩
    exact odd_set hk rfl
  · refine ⟨_, ?_, frz_en (Odd_7 l q fl n k hl hk hn2 h.symm hn hkk)⟩
    exact odd_set hk rfl
  · refine ⟨_, ⟨?_, mem_courses fun e he => ?_⟩, frz_en (Odd_8 l q fl n k hl hk hn2 h.symm hn hkk)⟩
    · simp; omega
    · rcases List.mem_append.1 he with h | h
      · exact List.mem_of_mem_take h
      · exact List.mem_of_mem_drop h
  · refine ⟨_, ⟨by simp, fun e he => ?_⟩, frz_en (Odd_9 l q fl n k hl hk hn2 h.symm hn hkk)⟩
    rcases List.mem_append.1 he with h | h
    · exact .inr (List.mem_map_of_mem h)
    · simp only [List.mem_cons, List.not_mem_nil, or_false] at h
      subst h
      exact .inr (List.mem_map_of_mem (f := (·.course)) (getD_mem hk))
  · refine ⟨_, ⟨by simp, mem_courses fun e he => ?_⟩, frz_en (Odd_10 l q fl n k hl hk hn2 h.symm hn hkk)⟩
    rcases List.mem_or_eq_of_mem_set he with h | h
    · rcases List.mem_or_eq_of_mem_set h with h | h
      · exact h
      · rw [h]; exact getD_mem hk
    · rw [h]; exact getD_mem (by omega)
  · refine ⟨_, ⟨by simp, fun e he => ?_⟩, frz_en (Odd_11 l q fl n k hl hk hn2 h.symm hn hkk)⟩
    rcases List.mem_or_eq_of_mem_set he with h | h
    · exact mem_set_course (y := { (l.getD k e0) with programme := n.tmod 3 }) hk rfl e h
    · rw [h]
      exact .inr (List.mem_map_of_mem (f := (·.course)) (getD_mem hk))
end En
end Go.Proofs.Ytjnohedknlibmaa
namespace Go.Proofs.Ytjnohedknlibmaa
open Go.Proofs.Ytjnohedknlibmaa.Am
namespace En
/-! ### Made entries -/
abbrev iA (x : Fl × List Int) : AV := .ro x.1 1 (x.2.map int)
abbrev L0 : Fl × List Int := ({}, [])
/-- What is known of made entries, i lists gone through. -/
structure MadeOk (i : Nat) (out : List E) : Prop where
  chk : chkE out = 0
  len : out.length ≤ i
  school : ∀ e ∈ out, e.school = 1
  id : ∀ e ∈ out, e.id ≤ i
  day : ∀ e ∈ out, e.day ≤ 59 * i
  course : ∀ e ∈ out, e.course.size ≤ 2
theorem MadeOk.nil (i : Nat) : MadeOk i [] where
  chk := by simp [chkE, chkL]
  len := Nat.zero_le _
  school := fun e h => absurd h List.not_mem_nil
  id := fun e h => absurd h List.not_mem_nil
  day := fun e h => absurd h List.not_mem_nil
  course := fun e h => absurd h List.not_mem_nil
theorem MadeOk.more {i : Nat} {out : List E} (h : MadeOk i out) : MadeOk (i + 1) out :=
  ⟨h.chk, by have := h.len; omega, h.school, fun e he => by have := h.id e he; omega, fun e he => by have := h.day e he; omega, h.course⟩
theorem MadeOk.add {i : Nat} {out : List E} {e : E} (h : MadeOk i out) (hc : chkE (out ++ [e]) = 0) (h1 : e.school = 1) (h2 : e.id = i + 1) (h3 : e.day ≤ 59 * (i + 1)) (h4 : e.course.size ≤ 2) : MadeOk (i + 1) (out ++ [e]) := by
  have key : ∀ {q : E → Prop}, (∀ x ∈ out, q x) → q e → ∀ x ∈ out ++ [e], q x := by
    intro q ha hb x hx
    rcases List.mem_append.1 hx with h | h
    · exact ha x h
    · simp only [List.mem_cons, List.not_mem_nil, or_false] at h
      subst h; exact hb
  exact ⟨hc, by have := h.len; simp; omega, key h.school h1, key h.more.id (by rw [h2]; omega), key h.more.day (by omega), key h.course h4⟩
theorem courses_big {i : Nat} {out : List E} {e : E} (h : MadeOk i out) (h4 : e.course.size ≤ 2) : ∀ x ∈ out ++ [e], x.course.size ≤ 9223372036854775806 := by
  intro x hx
  rcases List.mem_append.1 hx with h1 | h1
  · have := h.course x h1; omega
  · simp only [List.mem_cons, List.not_mem_nil, or_false] at h1
    subst h1; omega
abbrev madS (L : List (Fl × List Int)) (fl : Fl) : Nat × Int × List E → AS
  | (i, day, out) => ⟨[(0, .ro fl 1 (L.map iA)), (3, .slm {} 0 15 0 out.length), (4, int day), (5, int i)], [(0, .row 15 ety (out.map en))], 1⟩
theorem kinds_get (n : Int) (h : 0 ≤ n ∧ n < 11) : ∃ kd : Int, (kd = 1 ∨ kd = 2 ∨ kd = 3 ∨ kd = 4 ∨ kd = 5 ∨ kd = 6 ∨ kd = 7 ∨ kd = 8 ∨ kd = 9) ∧ int kd = ([int 3, int 3, int 3, int 1, int 4, int 5, int 6, int 8, int 9, int 2, int 7] : List AV).getD n.toNat (.sc undef) := by
  obtain ⟨m, rfl⟩ : ∃ m : Nat, n = m := ⟨n.toNat, by omega⟩
  have hm : m < 11 := by omega
  have : m = 0 ∨ m = 1 ∨ m = 2 ∨ m = 3 ∨ m = 4 ∨ m = 5 ∨ m = 6 ∨ m = 7 ∨ m = 8 ∨ m = 9 ∨ m = 10 := by omega
  rcases this with rfl | rfl | rfl | rfl | rfl | rfl | rfl | rfl | rfl | rfl | rfl
  · exact ⟨3, by omega, rfl⟩
  · exact ⟨3, by omega, rfl⟩
  · exact ⟨3, by omega, rfl⟩
  · exact ⟨1, by omega, rfl⟩
  · exact ⟨4, by omega, rfl⟩
  · exact ⟨5, by omega, rfl⟩
  · exact ⟨6, by omega, rfl⟩
  · exact ⟨8, by omega, rfl⟩
  · exact ⟨9, by omega, rfl⟩
  · exact ⟨2, by omega, rfl⟩
  · exact ⟨7, by omega, rfl⟩
theorem codes_get (n : Int) (h : 0 ≤ n ∧ n < 6) : ∃ s : ByteArray, s.size ≤ 2 ∧ str s = (codesL.map str).getD n.toNat (.sc undef) := by
  obtain ⟨m, rfl⟩ : ∃ m : Nat, n = m := ⟨n.toNat, by omega⟩
  have : m = 0 ∨ m = 1 ∨ m = 2 ∨ m = 3 ∨ m = 4 ∨ m = 5 := by omega
  rcases this with rfl | rfl | rfl | rfl | rfl | rfl <;> exact ⟨_, by decide, rfl⟩
theorem made_next (fl : Fl) (xs : List Int) (hl : xs.length ≤ 9223372036854775807) (at_ : Nat) (most : Int) (ha : at_ ≤ xs.length) (hm : 0 < most ∧ most ≤ 1000000) : ∃ v a, (0 ≤ v ∧ v < most) ∧ a ≤ xs.length ∧
    AFun Try.prog 47 1 [.ptr 0 2 0 0, int most] [(0, drawB fl xs at_)] (int v) [(0, drawB fl xs a)] :=
  ⟨_, _, dv_range xs at_ hm.1, da_le ha, Next_f fl xs at_ most hl ha hm⟩
theorem copy_en (l : List E) : l.map en = List.take l.length (List.drop 0 (l.map en)) := by rw [List.drop_zero, List.take_of_length_le (by simp)]
theorem app_en2 {e e' : E} (he : e = e') (l : List E) (n : Nat) (h : n = l.length) : (l ++ [e]).map en = (l.map en).take n ++ [en e'] := he ▸ app_en l e n h
theorem AFun.of_SE {P : Program} {T : TT} (hT : T.Ok P) {p : Nat} (hm : P.follows .mixedOrders = true) {f : FuncId} {fn : Func} {c : Code} {vs : List AV} {H : AH} {α : Type} {I : α → Prop} {v : α → AV} {H' : α → AH} (hf : P.funcs[f]? = some fn) (hb : fn.body = some c) (hn : vs.length ≤ fn.ntmps) (hB : H.all (fun x => decide (x.1 < p)) = true)
    (h : V P T p fn.ntmps c ⟨argFr vs 0, H, p⟩ (fun e s => ∃ x, I x ∧ FinS T fn p (v x) (H' x) e s)) : ∃ x, I x ∧ AFun P f p vs H (v x) (H' x) := by
  obtain ⟨e, s', h1, _, x, hI, s2, hw, he, ⟨rv, hr, hv⟩, hH⟩ := V_sound hT hm c _ _ h (HB.of_all hB)
  exact ⟨x, hI, (AFun.of_body hT hf hb hn he (h1.post hw) hr hv rfl).forget hH.get⟩
set_option maxHeartbeats 16000000 in
set_option maxRecDepth 100000 in
theorem Made_f (L : List (Fl × List Int)) (fl : Fl) (hL : L.length ≤ 14) (hxs : ∀ x ∈ L, x.2.length ≤ 9223372036854775807) : ∃ l : List E, MadeOk L.length l ∧ AFun Try.prog 27 0 [.ro fl 1 (L.map iA)] [] (.ro {} 15 (l.map en)) [] := by
  suffices h : ∃ l : List E, MadeOk L.length l ∧ AFun Try.prog 27 0 [.ro fl 1 (L.map iA)] [] (.slm {} 0 15 0 l.length) [(0, .row 15 ety (l.map en))] by
    obtain ⟨l, h1, h2⟩ := h
    exact ⟨l, h1, frz_en h2⟩
  refine AFun.of_SE T_ok mixed (H' := fun l : List E => [(0, .row 15 ety (l.map en))]) Try.func27 rfl (Nat.le_of_ble_eq_true rfl) rfl ?_
  have hml : (L.map iA).length = L.length := List.length_map _
  ((repeat ((conv => whnf); (first | (refine As.pre ?_; first | refine As.mk rfl ?_) | (refine Ck.pre ?_; first | refine Ck.mk rfl ?_)))); (try (conv => whnf)))
  refine LoopN.weak (s1 := madS L fl (0, 0, [])) ?sw1 ?_
  case sw1 => exact SW.mk id rfl rfl rfl ⟨.refl _, VLe2.nilslm, .refl _, .refl _, trivial⟩ (haveV.nil (Nat.le_refl _) trivial)
  refine LoopN.ind T_ok mixed (S := madS L fl) (fun i => L.length - i.1) (fun i => i.1 ≤ L.length ∧ (0 ≤ i.2.1 ∧ i.2.1 ≤ 59 * (i.1 : Int)) ∧ MadeOk i.1 i.2.2) (fun _ => rfl) (fun i hi ih => ?_) (0, 0, []) ⟨Nat.zero_le _, ⟨Int.le_refl _, Int.le_refl _⟩, MadeOk.nil _⟩
  obtain ⟨i, day, out⟩ := i
  obtain ⟨h1, h2, h3⟩ := hi
  simp only at h1 h2 h3 ih
  by_cases hlt : i < L.length
  case neg =>
    have hi : i = L.length := by omega
    subst hi
    clear ih
    ((repeat ((conv => whnf); (first | (refine As.pre ?_; first | refine As.mk rfl ?_) | (refine LetI.pre ?_; first | refine LetI.mk _ rfl ?_) | (refine LetB.pre ?_; first | refine LetB.decf (by omega) ?_) | (refine Br.pre ?_; first | refine Br.ff rfl ?_) | (refine Ck.pre ?_; first | refine Ck.mk rfl ?_)))); (try (conv => whnf)))
    exact ⟨out, h3, ⟨[(2, .slm {} 0 15 0 out.length)], [(0, .row 15 ety (out.map en))], 1⟩, SW.mk id rfl rfl (namesAll.row (pure_en _) rfl) ⟨.refl _, trivial⟩ (haveV.row (pure_en _) rfl trivial), .inl rfl, ⟨_, rfl, rfl⟩, rfl, trivial⟩
  have hld : iA (L.getD i L0) = (L.map iA).getD i (.sc undef) := mapD L0 hlt
  have hx := hxs (L.getD i L0) (by rw [List.getD_eq_getElem?_getD, List.getElem?_eq_getElem hlt]; exact List.getElem_mem _)
  generalize L.getD i L0 = x at hld hx
  obtain ⟨fx, xs⟩ := x
  simp only at hx hld
  obtain ⟨v0, a0, r0, q0, N0⟩ := made_next fx xs hx 0 11 (Nat.zero_le _) (by omega)
  obtain ⟨v1, a1, r1, q1, N1⟩ := made_next fx xs hx a0 60 q0 (by omega)
  obtain ⟨v2, a2, r2, q2, N2⟩ := made_next fx xs hx a1 3 q1 (by omega)
  obtain ⟨v3, a3, r3, q3, N3⟩ := made_next fx xs hx a2 4 q2 (by omega)
  obtain ⟨v4, a4, r4, q4, N4⟩ := made_next fx xs hx a3 20 q3 (by omega)
  obtain ⟨v5, a5, r5, q5, N5⟩ := made_next fx xs hx a4 10 q4 (by omega)
  obtain ⟨kd, hkd, hk⟩ := kinds_get v0 r0
  have hl13 : i < 14 := by omega
  have hlen := h3.len
  have hmul : 0 ≤ v3 * v4 ∧ v3 * v4 ≤ 3 * 19 := ⟨Int.mul_nonneg r3.1 r4.1, Int.mul_le_mul (by omega) (by omega) r4.1 (by omega)⟩
  have hday : 0 ≤ day + v1 ∧ day + v1 ≤ 59 * ((i + 1 : Nat) : Int) := by omega
  have hms : L.length - (i + 1) < L.length - i := by omega
  have hd : 59 * (i : Int) ≤ 59 * 13 := by omega
  ((repeat ((conv => whnf); (first | (refine LetN.pre ?_; first | ((conv => arg 1; whnf); refine LetN.mk ?_)) | (refine As.pre ?_; first | refine As.mk rfl ?_ | (refine As.mk ?_ ?_; · ((repeat' (refine andT ?_ ?_)) <;> (first | rfl | assumption | exact decide_eq_true (by omega) | exact decide_eq_true (by dsimp only; omega) | exact decide_eq_true (by simp; omega) | (simp; done))))) | (refine LetV.pre ?_; first | refine LetV.mk (t := 22) _ hld ?_ | refine LetV.mk (t := 79) _ hk ?_ | refine LetV.mk (.sc (.int _ _)) rfl ?_ | refine LetV.mk (.ro _ _ _) rfl ?_) | (refine LetI.pre ?_; first | refine LetI.wrap (by omega) (by omega) ?_ | refine LetI.mk _ rfl ?_) | (refine LetB.pre ?_; first | refine LetB.dect (by omega) ?_ | refine LetB.mk _ rfl ?_) | (refine Br.pre ?_; first | refine Br.tt rfl ?_) | (refine Ck.pre ?_; first | refine Ck.mk rfl ?_) | (refine LetL.pre ?_; first | refine LetL.mk [_] rfl ?_) | (refine CallN.pre ?_; first | refine CallN.own (fun _ => 1) N0 (CallOk.mk' rfl rfl rfl (namesAll.row rfl rfl) rfl (namesAll.row rfl rfl) (haveAll.row rfl rfl trivial)) ?_ | refine CallN.own (fun _ => 1) N1 (CallOk.mk' rfl rfl rfl (namesAll.row rfl rfl) rfl (namesAll.row rfl rfl) (haveAll.row rfl rfl trivial)) ?_ | refine CallN.own (fun _ => 1) N2 (CallOk.mk' rfl rfl rfl (namesAll.row rfl rfl) rfl (namesAll.row rfl rfl) (haveAll.row rfl rfl trivial)) ?_ | refine CallN.own (fun _ => 1) N3 (CallOk.mk' rfl rfl rfl (namesAll.row rfl rfl) rfl (namesAll.row rfl rfl) (haveAll.row rfl rfl trivial)) ?_ | refine CallN.own (fun _ => 1) N4 (CallOk.mk' rfl rfl rfl (namesAll.row rfl rfl) rfl (namesAll.row rfl rfl) (haveAll.row rfl rfl trivial)) ?_ | refine CallN.own (fun _ => 1) N5 (CallOk.mk' rfl rfl rfl (namesAll.row rfl rfl) rfl (namesAll.row rfl rfl) (haveAll.row rfl rfl trivial)) ?_)))); (try (conv => whnf)))








  have t2 := tmod_bound v5 (m := 2) (by omega)
  have p2 := Int.tmod_nonneg 2 r5.1
  have hol : (out.map en).length = out.length := List.length_map _
  have hst := stor_all out
  have hr := room_en (n := out.length) (by omega)
  have hr1 := room_en (n := out.length + 1) (by omega)
  clear hk N0 N1 N2 N3 N4 N5 hld
  generalize hW : (max 0 (day + v1 - v3 * v4) : Int) = W
  have hWr : 0 ≤ W ∧ W ≤ 900 := by omega
  clear hW
  rcases hkd with rfl | rfl | rfl | rfl | rfl | rfl | rfl | rfl | rfl
  · obtain ⟨e, he⟩ : ∃ e : E, e = ⟨(i : Int) + 1, 1, 1 + v2, 1, day + v1, W, ⟨#[]⟩, 0, 0, 0, 0, 1 + v5.tmod 2, 0, 0, ⟨#[]⟩⟩ := ⟨_, rfl⟩
    have hsz : e.course.size ≤ 2 := by rw [he]; exact Nat.zero_le 2
    have hadd : ∀ h : chkE (out ++ [e]) = 0, MadeOk (i + 1) (out ++ [e]) := fun h => h3.add h (by rw [he]) (by rw [he]) (by rw [he]; show day + v1 ≤ 59 * ((i : Int) + 1); omega) hsz
    ((repeat ((conv => whnf); (first | (refine LetN.pre ?_; first | ((conv => arg 1; whnf); refine LetN.mk ?_)) | (refine As.pre ?_; first | refine As.mk rfl ?_ | (refine As.mk ?_ ?_; · ((repeat' (refine andT ?_ ?_)) <;> (first | rfl | assumption | exact stor_en _ _ _ | exact stor_all _ | exact decide_eq_true (by simp; omega) | (simp; done) | (simp [room]; omega))))) | (refine LetV.pre ?_; first | refine LetV.mk (.agg _) rfl ?_) | (refine LetI.pre ?_; first | refine LetI.wrap (by omega) (by omega) ?_ | refine LetI.mk _ rfl ?_) | (refine LetB.pre ?_; first | refine LetB.beq (fun h => ?_) (fun h => ?_)) | (refine Br.pre ?_; first | refine Br.tt rfl ?_) | (refine Ck.pre ?_; first | refine Ck.drawn (by kernel_rfl) ?_ | refine Ck.mk rfl ?_) | (refine LetL.pre ?_; first | refine LetL.mk (ty := ety) (out.map en) (copy_en out) ?_ | refine LetL.mk (ty := ety) _ (app_en2 he out _ (by first | rfl | (simp; done))) ?_ | refine LetL.mk [_] rfl ?_) | (refine CallN.pre ?_; first | refine CallN.lend (rCheck_l (out ++ [e]) _ (courses_big h3 hsz)) rfl (.full rfl (pure_en _) (by first | rfl | (simp; done)) .nil) ?_)))); (try (conv => whnf)))





    · refine LoopN.weak ?_ (ih (i + 1, day + v1, out ++ [e]) ⟨Nat.succ_le_of_lt hlt, hday, hadd h⟩ hms)
      exact SW.mk (fun i => if i = 0 then 5 else i) rfl rfl (namesAll.row (pure_en _) rfl) ⟨.refl _, VLe2.slm_of (by simp), .refl _, VLe2.int (by omega), trivial⟩ (haveV.row (pure_en _) rfl trivial)
    ((repeat ((conv => whnf); (first | (refine As.pre ?_; first | refine As.mk rfl ?_) | (refine LetI.pre ?_; first | refine LetI.wrap (by omega) (by omega) ?_) | (refine Br.pre ?_; first | refine Br.ff rfl ?_) | (refine Ck.pre ?_; first | refine Ck.mk rfl ?_)))); (try (conv => whnf)))
    · refine LoopN.weak ?_ (ih (i + 1, day + v1, out) ⟨Nat.succ_le_of_lt hlt, hday, h3.more⟩ hms)
      exact SW.mk id rfl rfl (namesAll.row (pure_en _) rfl) ⟨.refl _, .refl _, .refl _, VLe2.int (by omega), trivial⟩ (haveV.row (pure_en _) rfl trivial)
  · obtain ⟨v6, a6, r6, q6, N6⟩ := made_next fx xs hx a5 3 q5 (by omega)
    obtain ⟨e, he⟩ : ∃ e : E, e = ⟨(i : Int) + 1, 1, 1 + v2, 2, day + v1, W, ⟨#[]⟩, 0, 0, 0, 0, 1 + v5.tmod 2, 1 + v6, 0, ⟨#[]⟩⟩ := ⟨_, rfl⟩
    have hsz : e.course.size ≤ 2 := by rw [he]; exact Nat.zero_le 2
    have hadd : ∀ h : chkE (out ++ [e]) = 0, MadeOk (i + 1) (out ++ [e]) := fun h => h3.add h (by rw [he]) (by rw [he]) (by rw [he]; show day + v1 ≤ 59 * ((i : Int) + 1); omega) hsz
    ((repeat ((conv => whnf); (first | (refine LetN.pre ?_; first | ((conv => arg 1; whnf); refine LetN.mk ?_)) | (refine As.pre ?_; first | refine As.mk rfl ?_ | (refine As.mk ?_ ?_; · ((repeat' (refine andT ?_ ?_)) <;> (first | rfl | assumption | exact stor_en _ _ _ | exact stor_all _ | exact decide_eq_true (by simp; omega) | (simp; done) | (simp [room]; omega))))) | (refine LetV.pre ?_; first | refine LetV.mk (.agg _) rfl ?_) | (refine LetI.pre ?_; first | refine LetI.wrap (by omega) (by omega) ?_ | refine LetI.mk _ rfl ?_) | (refine LetB.pre ?_; first | refine LetB.tt rfl ?_ | refine LetB.beq (fun h => ?_) (fun h => ?_)) | (refine Br.pre ?_; first | refine Br.tt rfl ?_ | refine Br.ff rfl ?_) | (refine Ck.pre ?_; first | refine Ck.drawn (by kernel_rfl) ?_ | refine Ck.mk rfl ?_) | (refine LetL.pre ?_; first | refine LetL.mk (ty := ety) (out.map en) (copy_en out) ?_ | refine LetL.mk (ty := ety) _ (app_en2 he out _ (by first | rfl | (simp; done))) ?_ | refine LetL.mk [_] rfl ?_) | (refine CallN.pre ?_; first | refine CallN.own (fun _ => 1) N6 (CallOk.mk' rfl rfl rfl (namesAll.row rfl rfl) rfl (namesAll.row rfl rfl) (haveAll.row rfl rfl trivial)) ?_ | refine CallN.lend (rCheck_l (out ++ [e]) _ (courses_big h3 hsz)) rfl (.full rfl (pure_en _) (by first | rfl | (simp; done)) .nil) ?_)))); (try (conv => whnf)))






    · refine LoopN.weak ?_ (ih (i + 1, day + v1, out ++ [e]) ⟨Nat.succ_le_of_lt hlt, hday, hadd h⟩ hms)
      exact SW.mk (fun i => if i = 0 then 5 else i) rfl rfl (namesAll.row (pure_en _) rfl) ⟨.refl _, VLe2.slm_of (by simp), .refl _, VLe2.int (by omega), trivial⟩ (haveV.row (pure_en _) rfl trivial)
    ((repeat ((conv => whnf); (first | (refine As.pre ?_; first | refine As.mk rfl ?_) | (refine LetI.pre ?_; first | refine LetI.wrap (by omega) (by omega) ?_) | (refine Br.pre ?_; first | refine Br.ff rfl ?_) | (refine Ck.pre ?_; first | refine Ck.mk rfl ?_)))); (try (conv => whnf)))
    · refine LoopN.weak ?_ (ih (i + 1, day + v1, out) ⟨Nat.succ_le_of_lt hlt, hday, h3.more⟩ hms)
      exact SW.mk id rfl rfl (namesAll.row (pure_en _) rfl) ⟨.refl _, .refl _, .refl _, VLe2.int (by omega), trivial⟩ (haveV.row (pure_en _) rfl trivial)
  · obtain ⟨v6, a6, r6, q6, N6⟩ := made_next fx xs hx a5 12 q5 (by omega)
    obtain ⟨v7, a7, r7, q7, N7⟩ := made_next fx xs hx a6 11 q6 (by omega)
    obtain ⟨n, hn⟩ : ∃ n : Int, n = v5.tmod (((codesL.map str).length : Nat) : Int) := ⟨_, rfl⟩
    have hn0 : 0 ≤ n ∧ n < 6 := hn ▸ ⟨Int.tmod_nonneg 6 r5.1, Int.tmod_lt_of_pos v5 (by decide)⟩
    obtain ⟨sc, hsc, hcd⟩ := codes_get n hn0
    have hcl : (codesL.map str).length = 6 := rfl
    have hnz : (((codesL.map str).length : Int) != 0) = true := rfl
    have hez : (((codesL.map str).length : Int) == 0) = false := rfl
    obtain ⟨e, he⟩ : ∃ e : E, e = ⟨(i : Int) + 1, 1, 1 + v2, 3, day + v1, W, sc, 1 + v6, 10 * v7, 0, 0, 0, 0, 0, ⟨#[]⟩⟩ := ⟨_, rfl⟩
    have hsz : e.course.size ≤ 2 := by rw [he]; exact hsc
    have hadd : ∀ h : chkE (out ++ [e]) = 0, MadeOk (i + 1) (out ++ [e]) := fun h => h3.add h (by rw [he]) (by rw [he]) (by rw [he]; show day + v1 ≤ 59 * ((i : Int) + 1); omega) hsz
    ((repeat ((conv => whnf); (first | (refine LetN.pre ?_; first | ((conv => arg 1; whnf); refine LetN.mk ?_)) | (refine As.pre ?_; first | refine As.mk rfl ?_ | (refine As.mk ?_ ?_; · ((repeat' (refine andT ?_ ?_)) <;> (first | rfl | assumption | exact stor_en _ _ _ | exact stor_all _ | exact decide_eq_true (by simp; omega) | (simp; done) | (simp [room]; omega)))) | (refine As.mk ?_ ?_; · ((repeat' (refine andT ?_ ?_)) <;> (first | rfl | assumption | exact decide_eq_true (by omega) | exact decide_eq_true (by dsimp only; omega) | exact decide_eq_true (by simp; omega) | (simp; done))))) | (refine LetV.pre ?_; first | refine LetV.mk (t := 83) _ hcd ?_ | refine LetV.mk (.sc _) rfl ?_ | refine LetV.mk (.agg _) rfl ?_) | (refine LetI.pre ?_; first | refine LetI.mk (o := some .rem) n hn ?_ | refine LetI.wrap (by omega) (by omega) ?_ | refine LetI.mk _ rfl ?_) | (refine LetB.pre ?_; first | refine LetB.tt rfl ?_ | refine LetB.ff rfl ?_ | refine LetB.beq (fun h => ?_) (fun h => ?_)) | (refine Br.pre ?_; first | refine Br.tt rfl ?_ | refine Br.ff rfl ?_) | (refine Ck.pre ?_; first | refine Ck.drawn (by kernel_rfl) ?_ | refine Ck.mk rfl ?_) | (refine LetL.pre ?_; first | refine LetL.mk (ty := ety) (out.map en) (copy_en out) ?_ | refine LetL.mk (ty := ety) _ (app_en2 he out _ (by first | rfl | (simp; done))) ?_ | refine LetL.mk [_] rfl ?_) | (refine CallN.pre ?_; first | refine CallN.own (fun _ => 1) N6 (CallOk.mk' rfl rfl rfl (namesAll.row rfl rfl) rfl (namesAll.row rfl rfl) (haveAll.row rfl rfl trivial)) ?_ | refine CallN.own (fun _ => 1) N7 (CallOk.mk' rfl rfl rfl (namesAll.row rfl rfl) rfl (namesAll.row rfl rfl) (haveAll.row rfl rfl trivial)) ?_ | refine CallN.pure Codes_f rfl rfl ?_ | refine CallN.lend (rCheck_l (out ++ [e]) _ (courses_big h3 hsz)) rfl (.full rfl (pure_en _) (by first | rfl | (simp; done)) .nil) ?_)))); (try (conv => whnf)))












    · refine LoopN.weak ?_ (ih (i + 1, day + v1, out ++ [e]) ⟨Nat.succ_le_of_lt hlt, hday, hadd h⟩ hms)
      exact SW.mk (fun i => if i = 0 then 5 else i) rfl rfl (namesAll.row (pure_en _) rfl) ⟨.refl _, VLe2.slm_of (by simp), .refl _, VLe2.int (by omega), trivial⟩ (haveV.row (pure_en _) rfl trivial)
    ((repeat ((conv => whnf); (first | (refine As.pre ?_; first | refine As.mk rfl ?_) | (refine LetI.pre ?_; first | refine LetI.wrap (by omega) (by omega) ?_) | (refine Br.pre ?_; first | refine Br.ff rfl ?_) | (refine Ck.pre ?_; first | refine Ck.mk rfl ?_)))); (try (conv => whnf)))
    · refine LoopN.weak ?_ (ih (i + 1, day + v1, out) ⟨Nat.succ_le_of_lt hlt, hday, h3.more⟩ hms)
      exact SW.mk id rfl rfl (namesAll.row (pure_en _) rfl) ⟨.refl _, .refl _, .refl _, VLe2.int (by omega), trivial⟩ (haveV.row (pure_en _) rfl trivial)
  · obtain ⟨v6, a6, r6, q6, N6⟩ := made_next fx xs hx a5 11 q5 (by omega)
    have hT : AFun Try.prog 50 0 [int 4] [] (int 3) [] := target_f 4
    obtain ⟨x, b, hp⟩ : ∃ x b, AFun Try.prog 49 0 [.ro {} 15 (out.map en), int 3, int v5] [] (.tup [en x, bool b]) [] := ⟨_, _, pick_f out 3 v5 {} (by omega) r5.1⟩
    obtain ⟨e, he⟩ : ∃ e : E, e = ⟨(i : Int) + 1, 1, x.student, 4, day + v1, max W x.on_, ⟨#[]⟩, 0, 10 * v6, x.id, 0, 0, 0, 0, ⟨#[]⟩⟩ := ⟨_, rfl⟩
    have hsz : e.course.size ≤ 2 := by rw [he]; exact Nat.zero_le 2
    have hadd : ∀ h : chkE (out ++ [e]) = 0, MadeOk (i + 1) (out ++ [e]) := fun h => h3.add h (by rw [he]) (by rw [he]) (by rw [he]; show day + v1 ≤ 59 * ((i : Int) + 1); omega) hsz
    cases b
    · ((repeat ((conv => whnf); (first | (refine LetN.pre ?_; first | ((conv => arg 1; whnf); refine LetN.mk ?_)) | (refine As.pre ?_; first | refine As.mk rfl ?_) | (refine LetI.pre ?_; first | refine LetI.wrap (by omega) (by omega) ?_) | (refine LetB.pre ?_; first | refine LetB.ff rfl ?_) | (refine Br.pre ?_; first | refine Br.tt rfl ?_ | refine Br.ff rfl ?_) | (refine Ck.pre ?_; first | refine Ck.mk rfl ?_) | (refine LetL.pre ?_; first | refine LetL.mk [_] rfl ?_) | (refine CallN.pre ?_; first | refine CallN.pure hT rfl rfl ?_ | refine CallN.lend hp rfl (.full rfl (pure_en _) hol.symm (.same rfl (.same rfl .nil))) ?_)))); (try (conv => whnf)))




      · refine LoopN.weak ?_ (ih (i + 1, day + v1, out) ⟨Nat.succ_le_of_lt hlt, hday, h3.more⟩ hms)
        exact SW.mk id rfl rfl (namesAll.row (pure_en _) rfl) ⟨.refl _, .refl _, .refl _, VLe2.int (by omega), trivial⟩ (haveV.row (pure_en _) rfl trivial)
    · ((repeat ((conv => whnf); (first | (refine LetN.pre ?_; first | ((conv => arg 1; whnf); refine LetN.mk ?_)) | (refine As.pre ?_; first | refine As.mk rfl ?_ | (refine As.mk ?_ ?_; · ((repeat' (refine andT ?_ ?_)) <;> (first | rfl | assumption | exact stor_en _ _ _ | exact stor_all _ | exact decide_eq_true (by simp; omega) | (simp; done) | (simp [room]; omega))))) | (refine LetV.pre ?_; first | refine LetV.mk (.sc (.int _ _)) rfl ?_ | refine LetV.mk (.agg _) rfl ?_) | (refine LetI.pre ?_; first | refine LetI.wrap (by omega) (by omega) ?_ | refine LetI.mk _ rfl ?_) | (refine LetB.pre ?_; first | refine LetB.tt rfl ?_ | refine LetB.ff rfl ?_ | refine LetB.beq (fun h => ?_) (fun h => ?_)) | (refine Br.pre ?_; first | refine Br.tt rfl ?_ | refine Br.ff rfl ?_) | (refine Ck.pre ?_; first | refine Ck.drawn (by kernel_rfl) ?_ | refine Ck.mk rfl ?_) | (refine LetL.pre ?_; first | refine LetL.mk (ty := ety) (out.map en) (copy_en out) ?_ | refine LetL.mk (ty := ety) _ (app_en2 he out _ (by first | rfl | (simp; done))) ?_ | refine LetL.mk [_] rfl ?_) | (refine CallN.pre ?_; first | refine CallN.own (fun _ => 1) N6 (CallOk.mk' rfl rfl rfl (namesAll.row rfl rfl) rfl (namesAll.row rfl rfl) (haveAll.row rfl rfl trivial)) ?_ | refine CallN.pure hT rfl rfl ?_ | refine CallN.lend hp rfl (.full rfl (pure_en _) hol.symm (.same rfl (.same rfl .nil))) ?_ | refine CallN.lend (rCheck_l (out ++ [e]) _ (courses_big h3 hsz)) rfl (.full rfl (pure_en _) (by first | rfl | (simp; done)) .nil) ?_)))); (try (conv => whnf)))








      · refine LoopN.weak ?_ (ih (i + 1, day + v1, out ++ [e]) ⟨Nat.succ_le_of_lt hlt, hday, hadd h⟩ hms)
        exact SW.mk (fun i => if i = 0 then 6 else i) rfl rfl (namesAll.row (pure_en _) rfl) ⟨.refl _, VLe2.slm_of (by simp), .refl _, VLe2.int (by omega), trivial⟩ (haveV.row (pure_en _) rfl trivial)
      ((repeat ((conv => whnf); (first | (refine As.pre ?_; first | refine As.mk rfl ?_) | (refine LetI.pre ?_; first | refine LetI.wrap (by omega) (by omega) ?_) | (refine Br.pre ?_; first | refine Br.ff rfl ?_) | (refine Ck.pre ?_; first | refine Ck.mk rfl ?_)))); (try (conv => whnf)))
      · refine LoopN.weak ?_ (ih (i + 1, day + v1, out) ⟨Nat.succ_le_of_lt hlt, hday, h3.more⟩ hms)
        exact SW.mk id rfl rfl (namesAll.row (pure_en _) rfl) ⟨.refl _, .refl _, .refl _, VLe2.int (by omega), trivial⟩ (haveV.row (pure_en _) rfl trivial)
  · have hT : AFun Try.prog 50 0 [int 5] [] (int 3) [] := target_f 5
    obtain ⟨x, b, hp⟩ : ∃ x b, AFun Try.prog 49 0 [.ro {} 15 (out.map en), int 3, int v5] [] (.tup [en x, bool b]) [] := ⟨_, _, pick_f out 3 v5 {} (by omega) r5.1⟩
    obtain ⟨e, he⟩ : ∃ e : E, e = ⟨(i : Int) + 1, 1, x.student, 5, day + v1, max W x.on_, ⟨#[]⟩, 0, 0, x.id, 0, 0, 0, 0, ⟨#[]⟩⟩ := ⟨_, rfl⟩
    have hsz : e.course.size ≤ 2 := by rw [he]; exact Nat.zero_le 2
    have hadd : ∀ h : chkE (out ++ [e]) = 0, MadeOk (i + 1) (out ++ [e]) := fun h => h3.add h (by rw [he]) (by rw [he]) (by rw [he]; show day + v1 ≤ 59 * ((i : Int) + 1); omega) hsz
    cases b
    · ((repeat ((conv => whnf); (first | (refine LetN.pre ?_; first | ((conv => arg 1; whnf); refine LetN.mk ?_)) | (refine As.pre ?_; first | refine As.mk rfl ?_) | (refine LetI.pre ?_; first | refine LetI.wrap (by omega) (by omega) ?_) | (refine LetB.pre ?_; first | refine LetB.ff rfl ?_) | (refine Br.pre ?_; first | refine Br.tt rfl ?_ | refine Br.ff rfl ?_) | (refine Ck.pre ?_; first | refine Ck.mk rfl ?_) | (refine LetL.pre ?_; first | refine LetL.mk [_] rfl ?_) | (refine CallN.pre ?_; first | refine CallN.pure hT rfl rfl ?_ | refine CallN.lend hp rfl (.full rfl (pure_en _) hol.symm (.same rfl (.same rfl .nil))) ?_)))); (try (conv => whnf)))



      · refine LoopN.weak ?_ (ih (i + 1, day + v1, out) ⟨Nat.succ_le_of_lt hlt, hday, h3.more⟩ hms)
        exact SW.mk id rfl rfl (namesAll.row (pure_en _) rfl) ⟨.refl _, .refl _, .refl _, VLe2.int (by omega), trivial⟩ (haveV.row (pure_en _) rfl trivial)
    · ((repeat ((conv => whnf); (first | (refine LetN.pre ?_; first | ((conv => arg 1; whnf); refine LetN.mk ?_)) | (refine As.pre ?_; first | refine As.mk rfl ?_ | (refine As.mk ?_ ?_; · ((repeat' (refine andT ?_ ?_)) <;> (first | rfl | assumption | exact stor_en _ _ _ | exact stor_all _ | exact decide_eq_true (by simp; omega) | (simp; done) | (simp [room]; omega))))) | (refine LetV.pre ?_; first | refine LetV.mk (.sc (.int _ _)) rfl ?_ | refine LetV.mk (.agg _) rfl ?_) | (refine LetI.pre ?_; first | refine LetI.wrap (by omega) (by omega) ?_ | refine LetI.mk _ rfl ?_) | (refine LetB.pre ?_; first | refine LetB.ff rfl ?_ | refine LetB.beq (fun h => ?_) (fun h => ?_)) | (refine Br.pre ?_; first | refine Br.tt rfl ?_ | refine Br.ff rfl ?_) | (refine Ck.pre ?_; first | refine Ck.drawn (by kernel_rfl) ?_ | refine Ck.mk rfl ?_) | (refine LetL.pre ?_; first | refine LetL.mk (ty := ety) (out.map en) (copy_en out) ?_ | refine LetL.mk (ty := ety) _ (app_en2 he out _ (by first | rfl | (simp; done))) ?_ | refine LetL.mk [_] rfl ?_) | (refine CallN.pre ?_; first | refine CallN.pure hT rfl rfl ?_ | refine CallN.lend hp rfl (.full rfl (pure_en _) hol.symm (.same rfl (.same rfl .nil))) ?_ | refine CallN.lend (rCheck_l (out ++ [e]) _ (courses_big h3 hsz)) rfl (.full rfl (pure_en _) (by first | rfl | (simp; done)) .nil) ?_)))); (try (conv => whnf)))







      · refine LoopN.weak ?_ (ih (i + 1, day + v1, out ++ [e]) ⟨Nat.succ_le_of_lt hlt, hday, hadd h⟩ hms)
        exact SW.mk (fun i => if i = 0 then 6 else i) rfl rfl (namesAll.row (pure_en _) rfl) ⟨.refl _, VLe2.slm_of (by simp), .refl _, VLe2.int (by omega), trivial⟩ (haveV.row (pure_en _) rfl trivial)
      ((repeat ((conv => whnf); (first | (refine As.pre ?_; first | refine As.mk rfl ?_) | (refine LetI.pre ?_; first | refine LetI.wrap (by omega) (by omega) ?_) | (refine Br.pre ?_; first | refine Br.ff rfl ?_) | (refine Ck.pre ?_; first | refine Ck.mk rfl ?_)))); (try (conv => whnf)))
      · refine LoopN.weak ?_ (ih (i + 1, day + v1, out) ⟨Nat.succ_le_of_lt hlt, hday, h3.more⟩ hms)
        exact SW.mk id rfl rfl (namesAll.row (pure_en _) rfl) ⟨.refl _, .refl _, .refl _, VLe2.int (by omega), trivial⟩ (haveV.row (pure_en _) rfl trivial)
  · have hT : AFun Try.prog 50 0 [int 6] [] (int 5) [] := target_f 6
    obtain ⟨x, b, hp⟩ : ∃ x b, AFun Try.prog 49 0 [.ro {} 15 (out.map en), int 5, int v5] [] (.tup [en x, bool b]) [] := ⟨_, _, pick_f out 5 v5 {} (by omega) r5.1⟩
    obtain ⟨e, he⟩ : ∃ e : E, e = ⟨(i : Int) + 1, 1, x.student, 6, day + v1, max W x.on_, ⟨#[]⟩, 0, 0, x.id, 0, 0, 0, 0, ⟨#[]⟩⟩ := ⟨_, rfl⟩
    have hsz : e.course.size ≤ 2 := by rw [he]; exact Nat.zero_le 2
    have hadd : ∀ h : chkE (out ++ [e]) = 0, MadeOk (i + 1) (out ++ [e]) := fun h => h3.add h (by rw [he]) (by rw [he]) (by rw [he]; show day + v1 ≤ 59 * ((i : Int) + 1); omega) hsz
    cases b
    · ((repeat ((conv => whnf); (first | (refine LetN.pre ?_; first | ((conv => arg 1; whnf); refine LetN.mk ?_)) | (refine As.pre ?_; first | refine As.mk rfl ?_) | (refine LetI.pre ?_; first | refine LetI.wrap (by omega) (by omega) ?_) | (refine LetB.pre ?_; first | refine LetB.ff rfl ?_) | (refine Br.pre ?_; first | refine Br.tt rfl ?_ | refine Br.ff rfl ?_) | (refine Ck.pre ?_; first | refine Ck.mk rfl ?_) | (refine LetL.pre ?_; first | refine LetL.mk [_] rfl ?_) | (refine CallN.pre ?_; first | refine CallN.pure hT rfl rfl ?_ | refine CallN.lend hp rfl (.full rfl (pure_en _) hol.symm (.same rfl (.same rfl .nil))) ?_)))); (try (conv => whnf)))



      · refine LoopN.weak ?_ (ih (i + 1, day + v1, out) ⟨Nat.succ_le_of_lt hlt, hday, h3.more⟩ hms)
        exact SW.mk id rfl rfl (namesAll.row (pure_en _) rfl) ⟨.refl _, .refl _, .refl _, VLe2.int (by omega), trivial⟩ (haveV.row (pure_en _) rfl trivial)
    · ((repeat ((conv => whnf); (first | (refine LetN.pre ?_; first | ((conv => arg 1; whnf); refine LetN.mk ?_)) | (refine As.pre ?_; first | refine As.mk rfl ?_ | (refine As.mk ?_ ?_; · ((repeat' (refine andT ?_ ?_)) <;> (first | rfl | assumption | exact stor_en _ _ _ | exact stor_all _ | exact decide_eq_true (by simp; omega) | (simp; done) | (simp [room]; omega))))) | (refine LetV.pre ?_; first | refine LetV.mk (.sc (.int _ _)) rfl ?_ | refine LetV.mk (.agg _) rfl ?_) | (refine LetI.pre ?_; first | refine LetI.wrap (by omega) (by omega) ?_ | refine LetI.mk _ rfl ?_) | (refine LetB.pre ?_; first | refine LetB.ff rfl ?_ | refine LetB.beq (fun h => ?_) (fun h => ?_)) | (refine Br.pre ?_; first | refine Br.tt rfl ?_ | refine Br.ff rfl ?_) | (refine Ck.pre ?_; first | refine Ck.drawn (by kernel_rfl) ?_ | refine Ck.mk rfl ?_) | (refine LetL.pre ?_; first | refine LetL.mk (ty := ety) (out.map en) (copy_en out) ?_ | refine LetL.mk (ty := ety) _ (app_en2 he out _ (by first | rfl | (simp; done))) ?_ | refine LetL.mk [_] rfl ?_) | (refine CallN.pre ?_; first | refine CallN.pure hT rfl rfl ?_ | refine CallN.lend hp rfl (.full rfl (pure_en _) hol.symm (.same rfl (.same rfl .nil))) ?_ | refine CallN.lend (rCheck_l (out ++ [e]) _ (courses_big h3 hsz)) rfl (.full rfl (pure_en _) (by first | rfl | (simp; done)) .nil) ?_)))); (try (conv => whnf)))







      · refine LoopN.weak ?_ (ih (i + 1, day + v1, out ++ [e]) ⟨Nat.succ_le_of_lt hlt, hday, hadd h⟩ hms)
        exact SW.mk (fun i => if i = 0 then 6 else i) rfl rfl (namesAll.row (pure_en _) rfl) ⟨.refl _, VLe2.slm_of (by simp), .refl _, VLe2.int (by omega), trivial⟩ (haveV.row (pure_en _) rfl trivial)
      ((repeat ((conv => whnf); (first | (refine As.pre ?_; first | refine As.mk rfl ?_) | (refine LetI.pre ?_; first | refine LetI.wrap (by omega) (by omega) ?_) | (refine Br.pre ?_; first | refine Br.ff rfl ?_) | (refine Ck.pre ?_; first | refine Ck.mk rfl ?_)))); (try (conv => whnf)))
      · refine LoopN.weak ?_ (ih (i + 1, day + v1, out) ⟨Nat.succ_le_of_lt hlt, hday, h3.more⟩ hms)
        exact SW.mk id rfl rfl (namesAll.row (pure_en _) rfl) ⟨.refl _, .refl _, .refl _, VLe2.int (by omega), trivial⟩ (haveV.row (pure_en _) rfl trivial)
  · obtain ⟨e, he⟩ : ∃ e : E, e = ⟨(i : Int) + 1, 1, 1 + v2, 7, day + v1, W, ⟨#[]⟩, 0, 0, 0, 2 + v5.tmod 2, 0, 0, 0, ⟨#[]⟩⟩ := ⟨_, rfl⟩
    have hsz : e.course.size ≤ 2 := by rw [he]; exact Nat.zero_le 2
    have hadd : ∀ h : chkE (out ++ [e]) = 0, MadeOk (i + 1) (out ++ [e]) := fun h => h3.add h (by rw [he]) (by rw [he]) (by rw [he]; show day + v1 ≤ 59 * ((i : Int) + 1); omega) hsz
    ((repeat ((conv => whnf); (first | (refine LetN.pre ?_; first | ((conv => arg 1; whnf); refine LetN.mk ?_)) | (refine As.pre ?_; first | refine As.mk rfl ?_ | (refine As.mk ?_ ?_; · ((repeat' (refine andT ?_ ?_)) <;> (first | rfl | assumption | exact stor_en _ _ _ | exact stor_all _ | exact decide_eq_true (by simp; omega) | (simp; done) | (simp [room]; omega))))) | (refine LetV.pre ?_; first | refine LetV.mk (.agg _) rfl ?_) | (refine LetI.pre ?_; first | refine LetI.wrap (by omega) (by omega) ?_ | refine LetI.mk _ rfl ?_) | (refine LetB.pre ?_; first | refine LetB.tt rfl ?_ | refine LetB.ff rfl ?_ | refine LetB.beq (fun h => ?_) (fun h => ?_)) | (refine Br.pre ?_; first | refine Br.tt rfl ?_ | refine Br.ff rfl ?_) | (refine Ck.pre ?_; first | refine Ck.drawn (by kernel_rfl) ?_ | refine Ck.mk rfl ?_) | (refine LetL.pre ?_; first | refine LetL.mk (ty := ety) (out.map en) (copy_en out) ?_ | refine LetL.mk (ty := ety) _ (app_en2 he out _ (by first | rfl | (simp; done))) ?_ | refine LetL.mk [_] rfl ?_) | (refine CallN.pre ?_; first | refine CallN.lend (rCheck_l (out ++ [e]) _ (courses_big h3 hsz)) rfl (.full rfl (pure_en _) (by first | rfl | (simp; done)) .nil) ?_)))); (try (conv => whnf)))





    · refine LoopN.weak ?_ (ih (i + 1, day + v1, out ++ [e]) ⟨Nat.succ_le_of_lt hlt, hday, hadd h⟩ hms)
      exact SW.mk (fun i => if i = 0 then 5 else i) rfl rfl (namesAll.row (pure_en _) rfl) ⟨.refl _, VLe2.slm_of (by simp), .refl _, VLe2.int (by omega), trivial⟩ (haveV.row (pure_en _) rfl trivial)
    ((repeat ((conv => whnf); (first | (refine As.pre ?_; first | refine As.mk rfl ?_) | (refine LetI.pre ?_; first | refine LetI.wrap (by omega) (by omega) ?_) | (refine Br.pre ?_; first | refine Br.ff rfl ?_) | (refine Ck.pre ?_; first | refine Ck.mk rfl ?_)))); (try (conv => whnf)))
    · refine LoopN.weak ?_ (ih (i + 1, day + v1, out) ⟨Nat.succ_le_of_lt hlt, hday, h3.more⟩ hms)
      exact SW.mk id rfl rfl (namesAll.row (pure_en _) rfl) ⟨.refl _, .refl _, .refl _, VLe2.int (by omega), trivial⟩ (haveV.row (pure_en _) rfl trivial)
  · obtain ⟨e, he⟩ : ∃ e : E, e = ⟨(i : Int) + 1, 1, 1 + v2, 8, day + v1, W, ⟨#[]⟩, 0, 0, 0, 0, 1 + v5.tmod 2, 0, 0, ⟨#[]⟩⟩ := ⟨_, rfl⟩
    have hsz : e.course.size ≤ 2 := by rw [he]; exact Nat.zero_le 2
    have hadd : ∀ h : chkE (out ++ [e]) = 0, MadeOk (i + 1) (out ++ [e]) := fun h => h3.add h (by rw [he]) (by rw [he]) (by rw [he]; show day + v1 ≤ 59 * ((i : Int) + 1); omega) hsz
    ((repeat ((conv => whnf); (first | (refine LetN.pre ?_; first | ((conv => arg 1; whnf); refine LetN.mk ?_)) | (refine As.pre ?_; first | refine As.mk rfl ?_ | (refine As.mk ?_ ?_; · ((repeat' (refine andT ?_ ?_)) <;> (first | rfl | assumption | exact stor_en _ _ _ | exact stor_all _ | exact decide_eq_true (by simp; omega) | (simp; done) | (simp [room]; omega))))) | (refine LetV.pre ?_; first | refine LetV.mk (.agg _) rfl ?_) | (refine LetI.pre ?_; first | refine LetI.wrap (by omega) (by omega) ?_ | refine LetI.mk _ rfl ?_) | (refine LetB.pre ?_; first | refine LetB.tt rfl ?_ | refine LetB.ff rfl ?_ | refine LetB.beq (fun h => ?_) (fun h => ?_)) | (refine Br.pre ?_; first | refine Br.tt rfl ?_ | refine Br.ff rfl ?_) | (refine Ck.pre ?_; first | refine Ck.drawn (by kernel_rfl) ?_ | refine Ck.mk rfl ?_) | (refine LetL.pre ?_; first | refine LetL.mk (ty := ety) (out.map en) (copy_en out) ?_ | refine LetL.mk (ty := ety) _ (app_en2 he out _ (by first | rfl | (simp; done))) ?_ | refine LetL.mk [_] rfl ?_) | (refine CallN.pre ?_; first | refine CallN.lend (rCheck_l (out ++ [e]) _ (courses_big h3 hsz)) rfl (.full rfl (pure_en _) (by first | rfl | (simp; done)) .nil) ?_)))); (try (conv => whnf)))





    · refine LoopN.weak ?_ (ih (i + 1, day + v1, out ++ [e]) ⟨Nat.succ_le_of_lt hlt, hday, hadd h⟩ hms)
      exact SW.mk (fun i => if i = 0 then 5 else i) rfl rfl (namesAll.row (pure_en _) rfl) ⟨.refl _, VLe2.slm_of (by simp), .refl _, VLe2.int (by omega), trivial⟩ (haveV.row (pure_en _) rfl trivial)
    ((repeat ((conv => whnf); (first | (refine As.pre ?_; first | refine As.mk rfl ?_) | (refine LetI.pre ?_; first | refine LetI.wrap (by omega) (by omega) ?_) | (refine Br.pre ?_; first | refine Br.ff rfl ?_) | (refine Ck.pre ?_; first | refine Ck.mk rfl ?_)))); (try (conv => whnf)))
    · refine LoopN.weak ?_ (ih (i + 1, day + v1, out) ⟨Nat.succ_le_of_lt hlt, hday, h3.more⟩ hms)
      exact SW.mk id rfl rfl (namesAll.row (pure_en _) rfl) ⟨.refl _, .refl _, .refl _, VLe2.int (by omega), trivial⟩ (haveV.row (pure_en _) rfl trivial)
  · have hT : AFun Try.prog 50 0 [int 9] [] (int 8) [] := target_f 9
    obtain ⟨x, b, hp⟩ : ∃ x b, AFun Try.prog 49 0 [.ro {} 15 (out.map en), int 8, int v5] [] (.tup [en x, bool b]) [] := ⟨_, _, pick_f out 8 v5 {} (by omega) r5.1⟩
    obtain ⟨e, he⟩ : ∃ e : E, e = ⟨(i : Int) + 1, 1, x.student, 9, day + v1, max W x.on_, ⟨#[]⟩, 0, 0, x.id, 0, 0, 0, 0, ⟨#[]⟩⟩ := ⟨_, rfl⟩
    have hsz : e.course.size ≤ 2 := by rw [he]; exact Nat.zero_le 2
    have hadd : ∀ h : chkE (out ++ [e]) = 0, MadeOk (i + 1) (out ++ [e]) := fun h => h3.add h (by rw [he]) (by rw [he]) (by rw [he]; show day + v1 ≤ 59 * ((i : Int) + 1); omega) hsz
    cases b
    · ((repeat ((conv => whnf); (first | (refine LetN.pre ?_; first | ((conv => arg 1; whnf); refine LetN.mk ?_)) | (refine As.pre ?_; first | refine As.mk rfl ?_) | (refine LetI.pre ?_; first | refine LetI.wrap (by omega) (by omega) ?_) | (refine LetB.pre ?_; first | refine LetB.ff rfl ?_) | (refine Br.pre ?_; first | refine Br.tt rfl ?_ | refine Br.ff rfl ?_) | (refine Ck.pre ?_; first | refine Ck.mk rfl ?_) | (refine LetL.pre ?_; first | refine LetL.mk [_] rfl ?_) | (refine CallN.pre ?_; first | refine CallN.pure hT rfl rfl ?_ | refine CallN.lend hp rfl (.full rfl (pure_en _) hol.symm (.same rfl (.same rfl .nil))) ?_)))); (try (conv => whnf)))



      · refine LoopN.weak ?_ (ih (i + 1, day + v1, out) ⟨Nat.succ_le_of_lt hlt, hday, h3.more⟩ hms)
        exact SW.mk id rfl rfl (namesAll.row (pure_en _) rfl) ⟨.refl _, .refl _, .refl _, VLe2.int (by omega), trivial⟩ (haveV.row (pure_en _) rfl trivial)
    · ((repeat ((conv => whnf); (first | (refine LetN.pre ?_; first | ((conv => arg 1; whnf); refine LetN.mk ?_)) | (refine As.pre ?_; first | refine As.mk rfl ?_ | (refine As.mk ?_ ?_; · ((repeat' (refine andT ?_ ?_)) <;> (first | rfl | assumption | exact stor_en _ _ _ | exact stor_all _ | exact decide_eq_true (by simp; omega) | (simp; done) | (simp [room]; omega))))) | (refine LetV.pre ?_; first | refine LetV.mk (.sc (.int _ _)) rfl ?_ | refine LetV.mk (.agg _) rfl ?_) | (refine LetI.pre ?_; first | refine LetI.wrap (by omega) (by omega) ?_ | refine LetI.mk _ rfl ?_) | (refine LetB.pre ?_; first | refine LetB.ff rfl ?_ | refine LetB.beq (fun h => ?_) (fun h => ?_)) | (refine Br.pre ?_; first | refine Br.tt rfl ?_ | refine Br.ff rfl ?_) | (refine Ck.pre ?_; first | refine Ck.drawn (by kernel_rfl) ?_ | refine Ck.mk rfl ?_) | (refine LetL.pre ?_; first | refine LetL.mk (ty := ety) (out.map en) (copy_en out) ?_ | refine LetL.mk (ty := ety) _ (app_en2 he out _ (by first | rfl | (simp; done))) ?_ | refine LetL.mk [_] rfl ?_) | (refine CallN.pre ?_; first | refine CallN.pure hT rfl rfl ?_ | refine CallN.lend hp rfl (.full rfl (pure_en _) hol.symm (.same rfl (.same rfl .nil))) ?_ | refine CallN.lend (rCheck_l (out ++ [e]) _ (courses_big h3 hsz)) rfl (.full rfl (pure_en _) (by first | rfl | (simp; done)) .nil) ?_)))); (try (conv => whnf)))







      · refine LoopN.weak ?_ (ih (i + 1, day + v1, out ++ [e]) ⟨Nat.succ_le_of_lt hlt, hday, hadd h⟩ hms)
        exact SW.mk (fun i => if i = 0 then 6 else i) rfl rfl (namesAll.row (pure_en _) rfl) ⟨.refl _, VLe2.slm_of (by simp), .refl _, VLe2.int (by omega), trivial⟩ (haveV.row (pure_en _) rfl trivial)
      ((repeat ((conv => whnf); (first | (refine As.pre ?_; first | refine As.mk rfl ?_) | (refine LetI.pre ?_; first | refine LetI.wrap (by omega) (by omega) ?_) | (refine Br.pre ?_; first | refine Br.ff rfl ?_) | (refine Ck.pre ?_; first | refine Ck.mk rfl ?_)))); (try (conv => whnf)))
      · refine LoopN.weak ?_ (ih (i + 1, day + v1, out) ⟨Nat.succ_le_of_lt hlt, hday, h3.more⟩ hms)
        exact SW.mk id rfl rfl (namesAll.row (pure_en _) rfl) ⟨.refl _, .refl _, .refl _, VLe2.int (by omega), trivial⟩ (haveV.row (pure_en _) rfl trivial)
end En
end Go.Proofs.Ytjnohedknlibmaa
namespace Go.Proofs.Ytjnohedknlibmaa
open Go.Proofs.Ytjnohedknlibmaa.Am
namespace En
/-! ### What every law asks first -/
abbrev ex1 : E := ⟨1, 1, 5, 3, 10, 10, ⟨#[65]⟩, 6, 70, 0, 0, 0, 0, 0, ⟨#[]⟩⟩
abbrev ex2 : E := ⟨2, 1, 5, 4, 30, 20, ⟨#[]⟩, 0, 80, 1, 0, 0, 0, 0, ⟨#[]⟩⟩
abbrev ex3 : E := ⟨3, 1, 5, 5, 40, 10, ⟨#[]⟩, 0, 0, 1, 0, 0, 0, 0, ⟨#[]⟩⟩
abbrev ex4 : E := ⟨4, 1, 5, 6, 50, 45, ⟨#[]⟩, 0, 0, 3, 0, 0, 0, 0, ⟨#[]⟩⟩
abbrev exl : List E := [ex1, ex2, ex3, ex4]
theorem example_f : AFun Try.prog 26 0 [] [] (.ro ⟨true, true⟩ 15 (exl.map en)) [] := AFun.of_ev T_ok mixed 20 (by kernel_rfl)
set_option maxRecDepth 100000 in
theorem stands_f (a o g b : Int) (v : Bool) (h : (atP exl a o).map stA = [stA ⟨1, b, g, v⟩]) : AFun Try.prog 25 0 [int a, int o, int g, int b, bool v] [] (bool true) [] := by
  refine AFun.of_W T_ok mixed Try.func25 rfl (Nat.le_of_ble_eq_true rfl) rfl ?_
  have hA := At_f exl a o ⟨true, true⟩ (Nat.le_of_ble_eq_true rfl)
  rw [h] at hA
  ((repeat ((conv => whnf); (first | (refine As.pre ?_; first | refine As.mk rfl ?_) | (refine LetV.pre ?_; first | refine LetV.mk (.agg _) rfl ?_) | (refine LetI.pre ?_; first | refine LetI.mk _ rfl ?_) | (refine LetB.pre ?_; first | refine LetB.tt rfl ?_ | (refine LetB.tt ?_ ?_; · (simp; done))) | (refine Gd.pre ?_; first | refine Gd.run rfl ?_) | (refine Ck.pre ?_; first | refine Ck.mk rfl ?_) | (refine CallN.pre ?_; first | refine CallN.pure example_f rfl rfl ?_ | refine CallN.pure hA rfl rfl ?_)))); (try (conv => whnf)))
  exact ⟨.inl rfl, ⟨_, rfl, rfl⟩, trivial⟩
theorem at1 : (atP exl 20 20).map stA = [stA ⟨1, 0, 70, false⟩] := by kernel_rfl
theorem at2 : (atP exl 30 19).map stA = [stA ⟨1, 0, 70, false⟩] := by kernel_rfl
theorem at3 : (atP exl 30 20).map stA = [stA ⟨1, 2, 80, false⟩] := by kernel_rfl
theorem at4 : (atP exl 40 10).map stA = [stA ⟨1, 0, 70, true⟩] := by kernel_rfl
theorem at5 : (atP exl 50 44).map stA = [stA ⟨1, 2, 80, true⟩] := by kernel_rfl
theorem at6 : (atP exl 50 45).map stA = [stA ⟨1, 2, 80, false⟩] := by kernel_rfl
theorem at7 : (atP exl 9 50).map stA = [] := by kernel_rfl
theorem kn1 : (knownP exl 30).map en = [en ex1, en ex2] := by kernel_rfl
theorem li1 : liftedP exl 3 50 45 = true := by kernel_rfl
theorem li2 : liftedP exl 3 50 44 = false := by kernel_rfl
/-! ### What one gives, case by case -/
theorem one_ent {b : List E} {e : E} (h : entE e ≠ 0) : oneE b e = entE e := if_pos h
theorem one_school {b : List E} {e : E} (h : entE e = 0) (k : b ≠ [] ∧ (b.getD 0 e0).school ≠ e.school) : oneE b e = 22 := (if_neg (fun n => n h)).trans (if_pos k)
theorem one_id {b : List E} {e : E} (h : entE e = 0) (h1 : ¬ (b ≠ [] ∧ (b.getD 0 e0).school ≠ e.school)) (k : b.any (fun x => decide (x.id = e.id)) = true) : oneE b e = 6 := (if_neg (fun n => n h)).trans ((if_neg h1).trans (if_pos k))
theorem one_day {b : List E} {e : E} (h : entE e = 0) (h1 : ¬ (b ≠ [] ∧ (b.getD 0 e0).school ≠ e.school)) (h2 : b.any (fun x => decide (x.id = e.id)) = false) (k : b ≠ [] ∧ e.day < (b.getD (b.length - 1) e0).day) : oneE b e = 7 :=
  (if_neg (fun n => n h)).trans ((if_neg h1).trans ((if_neg (by rw [h2]; simp)).trans (if_pos k)))
theorem one_rest {b : List E} {e : E} (h : entE e = 0) (h1 : ¬ (b ≠ [] ∧ (b.getD 0 e0).school ≠ e.school)) (h2 : b.any (fun x => decide (x.id = e.id)) = false) (h3 : ¬ (b ≠ [] ∧ e.day < (b.getD (b.length - 1) e0).day)) :
    oneE b e = if tgt e.kind = 0 then 0 else if fidx (cRef e (tgt e.kind)).p b 0 < 0 then 21 else if e.on_ < (b.getD (fidx (cRef e (tgt e.kind)).p b 0).toNat e0).on_ then 23 else 0 :=
  (if_neg (fun n => n h)).trans ((if_neg h1).trans ((if_neg (by rw [h2]; simp)).trans (if_neg h3)))
theorem ok65 : okCode ⟨#[65]⟩ := by
  refine ⟨by decide, fun i hi => ?_⟩
  have : i = 0 := by
    have h : i < 1 := hi
    omega
  subst this
  decide
open Classical in
theorem ent1 : entE ex1 = 0 := by
  have h : ∀ b : Bool, b = true → entX b (onlyF ex1.kind (fillB ex1)) ex1 = 0 := by
    rintro b rfl
    simp [entX, fldE, onlyF, fillB]
  exact h _ (decide_eq_true ok65)
theorem ent_of {e : E} (h : ∀ oc, entX oc (onlyF e.kind (fillB e)) e = 0) : entE e = 0 := h _
theorem ent2 : entE ex2 = 0 := ent_of (by intro oc; simp [entX, fldE, onlyF, fillB])
theorem ent3 : entE ex3 = 0 := ent_of (by intro oc; simp [entX, fldE, onlyF, fillB])
theorem ent4 : entE ex4 = 0 := ent_of (by intro oc; simp [entX, fldE, onlyF, fillB])
theorem one1 : oneE [] ex1 = 0 := (one_rest ent1 (by decide) (by decide) (by decide)).trans (by decide)
theorem one2 : oneE [ex1] ex2 = 0 := (one_rest ent2 (by decide) (by decide) (by decide)).trans (by decide)
theorem one3 : oneE [ex1, ex2] ex3 = 0 := (one_rest ent3 (by decide) (by decide) (by decide)).trans (by decide)
theorem one4 : oneE [ex1, ex2, ex3] ex4 = 0 := (one_rest ent4 (by decide) (by decide) (by decide)).trans (by decide)
theorem one5 : oneE [] ex2 = 21 := (one_rest ent2 (by decide) (by decide) (by decide)).trans (by decide)
theorem chk_ok {b r : List E} {e : E} (h : oneE b e = 0) : chkL b (e :: r) = chkL (b ++ [e]) r := if_pos h
theorem chk_no {b r : List E} {e : E} (h : oneE b e ≠ 0) : chkL b (e :: r) = oneE b e := if_neg h
theorem chk_small {l : List E} (h : l.length ≤ 2000) : chkE l = chkL [] l := if_neg (by omega)
theorem chk1 : chkE exl = 0 := by
  rw [chk_small (by decide), chk_ok one1, List.nil_append, chk_ok one2]
  show chkL [ex1, ex2] [ex3, ex4] = 0
  rw [chk_ok one3]
  show chkL [ex1, ex2, ex3] [ex4] = 0
  rw [chk_ok one4]; rfl
theorem chk2 : chkE [ex2, ex1] = 21 := by
  rw [chk_small (by decide), chk_no (by rw [one5]; decide), one5]
set_option maxRecDepth 100000 in
theorem sanity_f : AFun Try.prog 9 0 [] [] (bool true) [] := by
  refine AFun.of_W T_ok mixed Try.func9 rfl (Nat.le_of_ble_eq_true rfl) rfl ?_
  have c1 := Check_l exl ⟨true, true⟩
  have c2 := Check_l [ex2, ex1] ⟨true, true⟩
  have c3 := At_f exl 9 50 ⟨true, true⟩ (Nat.le_of_ble_eq_true rfl)
  have c4 := Known_f exl 30 ⟨true, true⟩ (Nat.le_of_ble_eq_true rfl)
  have c5 := Lifted_f exl 3 50 45 ⟨true, true⟩ (Nat.le_of_ble_eq_true rfl)
  have c6 := Lifted_f exl 3 50 44 ⟨true, true⟩ (Nat.le_of_ble_eq_true rfl)
  rw [chk1] at c1
  rw [chk2] at c2
  rw [at7] at c3
  rw [kn1] at c4
  rw [li1] at c5
  rw [li2] at c6
  have s1 := stands_f _ _ _ _ _ at1
  have s2 := stands_f _ _ _ _ _ at2
  have s3 := stands_f _ _ _ _ _ at3
  have s4 := stands_f _ _ _ _ _ at4
  have s5 := stands_f _ _ _ _ _ at5
  have s6 := stands_f _ _ _ _ _ at6
  ((repeat ((conv => whnf); (first | (refine As.pre ?_; first | refine As.mk rfl ?_) | (refine LetV.pre ?_; first | refine LetV.mk (.agg _) rfl ?_) | (refine LetI.pre ?_; first | refine LetI.mk _ rfl ?_) | (refine LetB.pre ?_; first | refine LetB.tt rfl ?_) | (refine Gd.pre ?_; first | refine Gd.run rfl ?_) | (refine Ck.pre ?_; first | refine Ck.drawn (by kernel_rfl) ?_ | refine Ck.mk rfl ?_) | (refine CallN.pre ?_; first | refine CallN.pure s1 rfl rfl ?_ | refine CallN.pure s2 rfl rfl ?_ | refine CallN.pure s3 rfl rfl ?_ | refine CallN.pure s4 rfl rfl ?_ | refine CallN.pure s5 rfl rfl ?_ | refine CallN.pure s6 rfl rfl ?_ | refine CallN.pure example_f rfl rfl ?_ | refine CallN.pure c1 rfl rfl ?_ | refine CallN.pure c2 rfl rfl ?_ | refine CallN.pure c3 rfl rfl ?_ | refine CallN.pure c4 rfl rfl ?_ | refine CallN.pure c5 rfl rfl ?_ | refine CallN.pure c6 rfl rfl ?_)))); (try (conv => whnf)))













  exact ⟨.inl rfl, ⟨_, rfl, rfl⟩, trivial⟩
end En
end Go.Proofs.Ytjnohedknlibmaa
namespace Go.Proofs.Ytjnohedknlibmaa
open Go.Proofs.Ytjnohedknlibmaa.Am
namespace En
/-! ### The entries of a case -/
theorem MadeOk.mono {i j : Nat} {out : List E} (h : MadeOk i out) (k : i ≤ j) : MadeOk j out :=
  ⟨h.chk, by have := h.len; omega, h.school, fun e he => by have := h.id e he; omega, fun e he => by have := h.day e he; omega, h.course⟩
theorem take14 (L : List (Fl × List Int)) : (L.take 14).map iA = ((L.map iA).drop (0 : Int).toNat).take ((min (((L.map iA).length : Nat) : Int) 14).toNat - (0 : Int).toNat) := by
  rw [List.map_take]
  show (L.map iA).take 14 = ((L.map iA).drop 0).take _
  rw [List.drop_zero]
  refine List.take_eq_take_iff.2 ?_
  simp only [List.length_map]
  show _ = min ((min ((L.length : Nat) : Int) 14).toNat - 0) L.length
  omega
set_option maxRecDepth 100000 in
theorem made_f (L : List (Fl × List Int)) (fl : Fl) (q : Int × Int × Int) (hxs : ∀ x ∈ L, x.2.length ≤ 9223372036854775807) : ∃ l l' : List E, MadeOk 14 l ∧ OddIs l l' ∧
    AFun Try.prog 10 0 [.agg [.ro fl 1 (L.map iA), int q.1, int q.2.1, int q.2.2]] [] (.tup [.ro {} 15 (l.map en), .ro {} 15 (l'.map en)]) [] := by
  have hlt : (L.take 14).length ≤ 14 := by simp; omega
  obtain ⟨l, h0, h2⟩ := Made_f (L.take 14) { nn := fl.nn } hlt (fun x hx => hxs x (List.mem_of_mem_take hx))
  have h1 := h0.mono hlt
  obtain ⟨l', h3, h4⟩ := Odd_f l q {} (by have := h1.len; omega)
  refine ⟨l, l', h1, h3, ?_⟩
  refine AFun.of_W T_ok mixed Try.func10 rfl (Nat.le_of_ble_eq_true rfl) rfl ?_
  have htk := take14 L
  ((repeat ((conv => whnf); (first | (refine LetN.pre ?_; first | ((conv => arg 1; whnf); refine LetN.mk ?_)) | (refine As.pre ?_; first | refine As.mk rfl ?_ | (refine As.mk ?_ ?_; · ((repeat' (refine andT ?_ ?_)) <;> (first | rfl | assumption | exact decide_eq_true (by omega) | exact decide_eq_true (by dsimp only; omega) | exact decide_eq_true (by simp; omega) | (simp; done))))) | (refine LetV.pre ?_; first | refine LetV.mk (t := 22) (.ro _ 1 ((L.take 14).map iA)) (congrArg (AV.ro _ 1) htk) ?_ | refine LetV.mk (.agg _) rfl ?_ | refine LetV.mk (.ro _ _ _) rfl ?_) | (refine LetI.pre ?_; first | refine LetI.mk _ rfl ?_) | (refine Ck.pre ?_; first | refine Ck.mk rfl ?_) | (refine CallN.pre ?_; first | refine CallN.pure h2 rfl rfl ?_ | refine CallN.pure h4 rfl rfl ?_)))); (try (conv => whnf)))



  exact ⟨.inl rfl, ⟨_, rfl, rfl⟩, trivial⟩
theorem tm_lo {a m : Int} (hm : 0 < m) (h : m ≤ 1000) : 0 ≤ (a.tmod m + m).tmod m ∧ (a.tmod m + m).tmod m < m := by
  have := tmod_bound a hm
  exact ⟨Int.tmod_nonneg _ (by omega), Int.tmod_lt_of_pos _ hm⟩
def d100 (a : Int) : Int := (a.tmod 100 + 100).tmod 100 * 10
def d500 (a : Int) : Int := (a.tmod 500 + 500).tmod 500
set_option maxRecDepth 100000 in
theorem days_f (q : Int × Int) : AFun Try.prog 18 0 [.agg [int q.1, int q.2]] [] (.agg [int q.1, int q.2, int (d100 q.1), int (d100 q.2), int 1000, int (d500 q.2)]) [] := by
  refine AFun.of_W T_ok mixed Try.func18 rfl (Nat.le_of_ble_eq_true rfl) rfl ?_
  have b0 := tmod_bound q.1 (m := 100) (by omega)
  have b1 := tmod_bound q.2 (m := 100) (by omega)
  have b2 := tmod_bound q.2 (m := 500) (by omega)
  have p0 := tm_lo (a := q.1) (m := 100) (by omega) (by omega)
  have p1 := tm_lo (a := q.2) (m := 100) (by omega) (by omega)
  have p2 := tm_lo (a := q.2) (m := 500) (by omega) (by omega)
  ((repeat ((conv => whnf); (first | (refine LetN.pre ?_; first | ((conv => arg 1; whnf); refine LetN.mk ?_)) | (refine As.pre ?_; first | refine As.mk rfl ?_) | (refine LetV.pre ?_; first | refine LetV.mk (.sc (.int _ _)) rfl ?_ | refine LetV.mk (.agg _) rfl ?_) | (refine LetI.pre ?_; first | refine LetI.wrap (by omega) (by omega) ?_ | refine LetI.mk _ rfl ?_) | (refine Ck.pre ?_; first | refine Ck.mk rfl ?_) | (refine LetL.pre ?_; first | refine LetL.mk [_] rfl ?_)))); (try (conv => whnf)))
  exact ⟨.inl rfl, ⟨_, rfl, rfl⟩, trivial⟩
end En
end Go.Proofs.Ytjnohedknlibmaa
namespace Go.Proofs.Ytjnohedknlibmaa
open Go.Proofs.Ytjnohedknlibmaa.Am
namespace En
/-! ### What Check says of a longer list -/
theorem chkL_app (e : E) : ∀ (l b : List E), chkL b l = 0 → chkL b (l ++ [e]) = oneE (b ++ l) e
  | [], b, _ => by
    rw [List.nil_append, List.append_nil]
    by_cases h : oneE b e = 0
    · rw [chk_ok h, h]; rfl
    · rw [chk_no h]
  | x :: l, b, h => by
    by_cases hx : oneE b x = 0
    · rw [chk_ok hx] at h
      rw [List.cons_append, chk_ok hx, chkL_app e l _ h, List.append_assoc]; rfl
    · rw [chk_no hx] at h
      exact absurd h hx
theorem chkE_app {l : List E} (h : chkE l = 0) (hl : l.length ≤ 1000) (e : E) : chkE (l ++ [e]) = oneE l e := by
  rw [chk_small (by omega)] at h
  rw [chk_small (by simp; omega), chkL_app e l [] h, List.nil_append]
theorem chkL_at : ∀ (l b : List E), chkL b l = 0 → ∀ k, k < l.length → oneE (b ++ l.take k) (l.getD k e0) = 0
  | [], b, _, k, hk => absurd hk (Nat.not_lt_zero _)
  | x :: l, b, h, k, hk => by
    by_cases hx : oneE b x = 0
    case neg => rw [chk_no hx] at h; exact absurd h hx
    rw [chk_ok hx] at h
    cases k with
    | zero => rw [List.take_zero, List.append_nil]; exact hx
    | succ k =>
      have := chkL_at l (b ++ [x]) h k (by simpa using hk)
      rw [List.append_assoc] at this
      exact this
theorem chkE_at {l : List E} (h : chkE l = 0) (hl : l.length ≤ 1000) {k : Nat} (hk : k < l.length) : oneE (l.take k) (l.getD k e0) = 0 := by
  rw [chk_small (by omega)] at h
  have := chkL_at l [] h k hk
  rwa [List.nil_append] at this
theorem one_zero {b : List E} {e : E} (h : oneE b e = 0) : entE e = 0 ∧ ¬ (b ≠ [] ∧ (b.getD 0 e0).school ≠ e.school) ∧ b.any (fun x => decide (x.id = e.id)) = false ∧ ¬ (b ≠ [] ∧ e.day < (b.getD (b.length - 1) e0).day) := by
  have h0 : entE e = 0 := by
    by_cases k : entE e = 0
    · exact k
    · rw [one_ent k] at h; exact h
  have h1 : ¬ (b ≠ [] ∧ (b.getD 0 e0).school ≠ e.school) := fun k => by rw [one_school h0 k] at h; cases h
  have h2 : b.any (fun x => decide (x.id = e.id)) = false := by
    by_cases k : b.any (fun x => decide (x.id = e.id)) = true
    · rw [one_id h0 h1 k] at h; cases h
    · simpa using k
  exact ⟨h0, h1, h2, fun k => by rw [one_day h0 h1 h2 k] at h; cases h⟩
theorem getD_take {l : List E} {i j : Nat} (h : i < j) : (l.take j).getD i e0 = l.getD i e0 := by
  rw [List.getD_eq_getElem?_getD, List.getD_eq_getElem?_getD, List.getElem?_take, if_pos h]
theorem chk_ids {l : List E} (h : chkE l = 0) (hl : l.length ≤ 1000) {i j : Nat} (hij : i < j) (hj : j < l.length) : (l.getD i e0).id ≠ (l.getD j e0).id := by
  intro heq
  have h2 := (one_zero (chkE_at h hl hj)).2.2.1
  rw [List.any_eq_false] at h2
  have hi : i < (l.take j).length := by simp; omega
  refine h2 ((l.take j).getD i e0) (getD_mem hi) ?_
  rw [getD_take hij]
  exact decide_eq_true heq
theorem chk_id_inj {l : List E} (h : chkE l = 0) (hl : l.length ≤ 1000) {i j : Nat} (hi : i < l.length) (hj : j < l.length) (heq : (l.getD i e0).id = (l.getD j e0).id) : i = j := by
  rcases Nat.lt_trichotomy i j with k | k | k
  · exact absurd heq (chk_ids h hl k hj)
  · exact k
  · exact absurd heq.symm (chk_ids h hl k hi)
theorem mem_getD {l : List E} {x : E} (h : x ∈ l) : ∃ i, i < l.length ∧ l.getD i e0 = x := by
  obtain ⟨i, hi, rfl⟩ := List.mem_iff_getElem.1 h
  exact ⟨i, hi, by rw [List.getD_eq_getElem?_getD, List.getElem?_eq_getElem hi]; rfl⟩
theorem chk_same {l : List E} (h : chkE l = 0) (hl : l.length ≤ 1000) {x y : E} (hx : x ∈ l) (hy : y ∈ l) (heq : x.id = y.id) : x = y := by
  obtain ⟨i, hi, rfl⟩ := mem_getD hx
  obtain ⟨j, hj, rfl⟩ := mem_getD hy
  rw [chk_id_inj h hl hi hj heq]
theorem chk_ent {l : List E} (h : chkE l = 0) (hl : l.length ≤ 1000) {x : E} (hx : x ∈ l) : entE x = 0 := by
  obtain ⟨i, hi, rfl⟩ := mem_getD hx
  exact (one_zero (chkE_at h hl hi)).1
theorem ent_zero {e : E} (h : entE e = 0) : (1 ≤ e.id ∧ e.id ≤ 899999) ∧ (1 ≤ e.school ∧ e.school ≤ 8) ∧ (1 ≤ e.student ∧ e.student ≤ 999999) ∧ (1 ≤ e.kind ∧ e.kind ≤ 9) ∧ (0 ≤ e.day ∧ e.day ≤ 100000) ∧ (0 ≤ e.on_ ∧ e.on_ ≤ e.day) := by
  unfold entE entX at h
  split at h
  · cases h
  split at h
  · cases h
  split at h
  · cases h
  omega
theorem fidx_none {p : E → Bool} : ∀ (l : List E) (k : Nat), (∀ x ∈ l, p x = false) → fidx p l k = -1
  | [], _, _ => rfl
  | a :: l, k, h => by
    rw [fidx, h a (List.mem_cons_self ..), if_neg (by simp)]
    exact fidx_none l (k + 1) fun x hx => h x (List.mem_cons_of_mem _ hx)
theorem fidx_some {p : E → Bool} : ∀ (l : List E) (k i : Nat), i < l.length → p (l.getD i e0) = true → (∀ j, j < i → p (l.getD j e0) = false) → fidx p l k = ((k + i : Nat) : Int)
  | [], _, i, h, _, _ => absurd h (Nat.not_lt_zero _)
  | a :: l, k, 0, _, h, _ => by
    have h : p a = true := h
    rw [fidx, if_pos h]; simp
  | a :: l, k, i + 1, hi, h, hb => by
    have h0 : p a = false := hb 0 (by omega)
    rw [fidx, if_neg (by rw [h0]; simp)]
    have := fidx_some (p := p) l (k + 1) i (by simpa using hi) h fun j hj => hb (j + 1) (by omega)
    rw [this]
    omega
end En
end Go.Proofs.Ytjnohedknlibmaa
namespace Go.Proofs.Ytjnohedknlibmaa
open Go.Proofs.Ytjnohedknlibmaa.Am
namespace En
/-! ### Facts on right lists -/
theorem chk_ref {l : List E} (h : chkE l = 0) (hl : l.length ≤ 1000) {k : Nat} (hk : k < l.length) (ht : tgt (l.getD k e0).kind ≠ 0) : ∃ y ∈ l.take k, y.id = (l.getD k e0).ref ∧ y.kind = tgt (l.getD k e0).kind ∧ y.student = (l.getD k e0).student := by
  have h1 := chkE_at h hl hk
  obtain ⟨a, b, c, d⟩ := one_zero h1
  rw [one_rest a b c d, if_neg ht] at h1
  by_cases hf : fidx (cRef (l.getD k e0) (tgt (l.getD k e0).kind)).p (l.take k) 0 < 0
  · rw [if_pos hf] at h1; cases h1
  · have h2 := (fidx_nonneg (p := (cRef (l.getD k e0) (tgt (l.getD k e0).kind)).p) (l.take k) 0).1 (by omega)
    obtain ⟨y, hy, hp⟩ := List.any_eq_true.1 h2
    exact ⟨y, hy, of_decide_eq_true hp⟩
theorem chk_refm {l : List E} (h : chkE l = 0) (hl : l.length ≤ 1000) {x : E} (hx : x ∈ l) (ht : tgt x.kind ≠ 0) : ∃ y ∈ l, y.id = x.ref ∧ y.kind = tgt x.kind := by
  obtain ⟨k, hk, rfl⟩ := mem_getD hx
  obtain ⟨y, hy, h1, h2, _⟩ := chk_ref h hl hk ht
  exact ⟨y, List.mem_of_mem_take hy, h1, h2⟩
theorem pair_getD {α : Type} {R : α → α → Prop} (d : α) : ∀ (l : List α), (∀ i j, i < j → j < l.length → R (l.getD i d) (l.getD j d)) → l.Pairwise R
  | [], _ => .nil
  | x :: l, h => by
    refine List.pairwise_cons.2 ⟨fun y hy => ?_, pair_getD d l fun i j h1 h2 => ?_⟩
    · obtain ⟨i, hi, rfl⟩ := List.mem_iff_getElem.1 hy
      have := h 0 (i + 1) (by omega) (by simpa using hi)
      rw [List.getD_eq_getElem?_getD, List.getD_eq_getElem?_getD, List.getElem?_cons_succ, List.getElem?_eq_getElem hi] at this
      exact this
    · have := h (i + 1) (j + 1) (by omega) (by simpa using h2)
      rw [List.getD_eq_getElem?_getD, List.getD_eq_getElem?_getD, List.getElem?_cons_succ, List.getElem?_cons_succ, ← List.getD_eq_getElem?_getD, ← List.getD_eq_getElem?_getD] at this
      exact this
theorem getD_pair {α : Type} {R : α → α → Prop} (d : α) {l : List α} (h : l.Pairwise R) {i j : Nat} (h1 : i < j) (h2 : j < l.length) : R (l.getD i d) (l.getD j d) := by
  rw [List.getD_eq_getElem?_getD, List.getD_eq_getElem?_getD, List.getElem?_eq_getElem h2, List.getElem?_eq_getElem (by omega)]
  exact List.pairwise_iff_getElem.1 h i j (by omega) h2 h1
theorem chk_pid {l : List E} (h : chkE l = 0) (hl : l.length ≤ 1000) : l.Pairwise fun a b => a.id ≠ b.id := pair_getD e0 l fun _ _ h1 h2 => chk_ids h hl h1 h2
theorem chk_next {l : List E} (h : chkE l = 0) (hl : l.length ≤ 1000) {k : Nat} (hk : k + 1 < l.length) : (l.getD k e0).day ≤ (l.getD (k + 1) e0).day := by
  have h1 := (one_zero (chkE_at h hl hk)).2.2.2
  have h2 : (l.take (k + 1)).length = k + 1 := by simp; omega
  have h3 : l.take (k + 1) ≠ [] := by
    intro hn; rw [hn] at h2; simp at h2
  have h4 : (l.take (k + 1)).getD k e0 = l.getD k e0 := getD_take (by omega)
  rw [h2, Nat.add_sub_cancel, h4] at h1
  exact Int.not_lt.1 fun hc => h1 ⟨h3, hc⟩
theorem chk_day {l : List E} (h : chkE l = 0) (hl : l.length ≤ 1000) {i : Nat} : ∀ j : Nat, i ≤ j → j < l.length → (l.getD i e0).day ≤ (l.getD j e0).day
  | 0, h1, _ => by rw [show i = 0 by omega]; exact Int.le_refl _
  | j + 1, h1, h2 => by
    by_cases he : i = j + 1
    · rw [he]; exact Int.le_refl _
    · have := chk_day (i := i) h hl j (by omega) (by omega)
      have := chk_next h hl (show j + 1 < l.length by omega)
      omega
theorem chk_pday {l : List E} (h : chkE l = 0) (hl : l.length ≤ 1000) : l.Pairwise fun a b => a.day ≤ b.day := pair_getD e0 l fun _ _ h1 h2 => chk_day h hl _ (by omega) h2
theorem chkL_take : ∀ (l b : List E) (n : Nat), chkL b l = 0 → chkL b (l.take n) = 0
  | _, _, 0, _ => rfl
  | [], _, n + 1, _ => rfl
  | x :: l, b, n + 1, h => by
    by_cases hx : oneE b x = 0
    · rw [chk_ok hx] at h
      rw [List.take_succ_cons, chk_ok hx]
      exact chkL_take l _ n h
    · rw [chk_no hx] at h; exact absurd h hx
theorem chkE_take {l : List E} (h : chkE l = 0) (hl : l.length ≤ 1000) (n : Nat) : chkE (l.take n) = 0 := by
  have := List.length_take_le' n l
  rw [chk_small (by omega)] at h ⊢
  exact chkL_take l [] n h
/-- What is known of a list in the order of the days is its beginning. -/
theorem known_take (a : Int) : ∀ (l : List E), l.Pairwise (fun x y => x.day ≤ y.day) → knownP l a = l.take (knownP l a).length
  | [], _ => rfl
  | x :: l, h => by
    obtain ⟨h1, h2⟩ := List.pairwise_cons.1 h
    by_cases hx : x.day ≤ a
    · have ih := known_take a l h2
      have e : knownP (x :: l) a = x :: knownP l a := by simp [knownP, List.filter_cons, hx]
      rw [e, List.length_cons, List.take_succ_cons, ← ih]
    · have e : knownP (x :: l) a = [] := by
        refine List.filter_eq_nil_iff.2 fun y hy => ?_
        rcases List.mem_cons.1 hy with k | k
        · rw [k]; simp; omega
        · have := h1 y k
          simp; omega
      rw [e]; rfl
theorem known_iff {a : Int} {l : List E} (h : l.Pairwise (fun x y => x.day ≤ y.day)) {i : Nat} (hi : i < l.length) : i < (knownP l a).length ↔ (l.getD i e0).day ≤ a := by
  have hk := known_take a l h
  have hle : (knownP l a).length ≤ l.length := List.length_filter_le _ _
  constructor
  · intro h1
    have h2 : (knownP l a).getD i e0 ∈ knownP l a := getD_mem h1
    have h3 : (knownP l a).getD i e0 = l.getD i e0 := by rw [hk]; exact getD_take h1
    rw [h3] at h2
    exact of_decide_eq_true (List.mem_filter.1 h2).2
  · intro h1
    have h2 : l.getD i e0 ∈ knownP l a := List.mem_filter.2 ⟨getD_mem hi, decide_eq_true h1⟩
    obtain ⟨j, hj, hje⟩ := mem_getD h2
    rw [hk, getD_take hj] at hje
    refine Nat.lt_of_not_le fun hc => ?_
    -- all of the first (knownP l a).length are known; the filter would have one more
    have h4 : (l.take (i + 1)).filter (fun e => decide (e.day ≤ a)) = l.take (i + 1) := by
      refine List.filter_eq_self.2 fun y hy => ?_
      obtain ⟨m, hm, rfl⟩ := mem_getD hy
      rw [List.length_take] at hm
      rw [getD_take (by omega)]
      by_cases hmi : m = i
      · rw [hmi]; exact decide_eq_true h1
      · have := getD_pair e0 h (show m < i by omega) hi
        exact decide_eq_true (by omega)
    have h5 : (l.take (i + 1)).length ≤ (knownP l a).length := by
      rw [← h4]
      exact ((List.take_sublist (i + 1) l).filter _).length_le
    rw [List.length_take] at h5
    omega
theorem known_chos (l : List E) (a o : Int) (cs : List Cd) : chos (knownP l a) (cCounts a o :: cs) = chos l (cCounts a o :: cs) := by
  show List.filter _ (List.filter _ l) = _
  rw [List.filter_filter]
  refine List.filter_congr fun x _ => ?_
  rw [Bool.eq_iff_iff]
  simp only [List.all_cons, Bool.and_eq_true, decide_eq_true_eq]
  exact ⟨fun h => h.1, fun h => ⟨h, h.1.1⟩⟩
theorem known_cnt (l : List E) (k a o : Int) : countP (knownP l a) k a o = countP l k a o := by
  rw [countP_S, countP_S]
  congr 1
  show List.filter _ (List.filter _ l) = _
  rw [List.filter_filter]
  refine List.filter_congr fun x _ => ?_
  rw [Bool.eq_iff_iff]
  simp only [cntQ, Bool.and_eq_true, decide_eq_true_eq]
  exact ⟨fun h => h.1, fun h => ⟨h, h.2.1⟩⟩
theorem known_lift (l : List E) (f a o : Int) : rLiftedP (knownP l a) f a o = rLiftedP l f a o := by rw [rLiftedP, known_cnt]; rfl
theorem known_at (l : List E) (a o : Int) : atP (knownP l a) a o = atP l a o := by
  rw [at_eq, at_eq, rAtP, rAtP, known_cnt, known_cnt, known_cnt]
  refine List.map_congr_left fun x _ => ?_
  simp only [rstand, known_lift]
theorem known_awards (l : List E) (a o : Int) : awardsP (knownP l a) a o = awardsP l a o := by
  rw [awards_eq, awards_eq, rAwardsP, rAwardsP, known_cnt, known_cnt]
theorem known_enrol (l : List E) (st pr a o : Int) : enrolP (knownP l a) st pr a o = enrolP l st pr a o := by
  simp only [enrolP, enrolF, enrolC, enrolR, known_chos]
  rfl
end En
end Go.Proofs.Ytjnohedknlibmaa
namespace Go.Proofs.Ytjnohedknlibmaa
open Go.Proofs.Ytjnohedknlibmaa.Am
namespace En
/-! ### ForceKnown -/
abbrev u16 (v : Int) : AV := .sc (.int .u16 v)
set_option maxHeartbeats 1600000 in
set_option maxRecDepth 100000 in
theorem fknown (L : List (Fl × List Int)) (fl : Fl) (q : Int × Int × Int) (hxs : ∀ x ∈ L, x.2.length ≤ 9223372036854775807) (w : Int × Int) (hw1 : 0 ≤ w.1 ∧ w.1 ≤ 65535) (hw2 : 0 ≤ w.2 ∧ w.2 ≤ 65535) :
    AFun Try.prog 8 0 [.agg [.ro fl 1 (L.map iA), int q.1, int q.2.1, int q.2.2], .agg [u16 w.1, u16 w.2]] [] (bool true) [] := by
  obtain ⟨l, l', h1, h2, hM⟩ := made_f L fl q hxs
  have hlen := h1.len
  obtain ⟨a, ha⟩ : ∃ a, a = w.1.tmod 1000 := ⟨_, rfl⟩
  obtain ⟨o, ho⟩ : ∃ o, o = w.2.tmod 1000 := ⟨_, rfl⟩
  have hK := Known_f l a {} (by omega)
  have hC := Check_l l {}
  rw [h1.chk] at hC
  have hC2 := Check_l (knownP l a) {}
  have hpd := chk_pday h1.chk (by omega)
  have htk := known_take a l hpd
  have hki := fun (i : Nat) (hi : i < l.length) => known_iff (a := a) hpd hi
  have hkl : (knownP l a).length ≤ l.length := List.length_filter_le _ _
  rw [show chkE (knownP l a) = 0 by rw [htk]; exact chkE_take h1.chk (by omega) _] at hC2
  have hS := SameEntries_f (knownP l a) {} {} (by omega)
  have A1 := At_f l a o {} (by omega)
  have A2 := At_f (knownP l a) a o {} (by omega)
  rw [known_at] at A2
  have A3 := Same_f (atP l a o) {} {} (by have := atP_length l a o; omega)
  generalize atP l a o = A at A1 A2 A3
  have W1 := Awards_f l a o {} (by omega)
  have W2 := Awards_f (knownP l a) a o {} (by omega)
  rw [known_awards] at W2
  have W3 := SameEntries_f (awardsP l a o) {} {} (by have := awardsP_length l a o; omega)
  generalize awardsP l a o = W at W1 W2 W3
  have E1 := fun st pr => Enrol_f l st pr a o {} (by omega)
  have E2 := fun st pr => Enrol_f (knownP l a) st pr a o {} (by omega)
  have E3 := fun st pr => sameCh_f (enrolP l st pr a o).2.1 {} {} (by have := enrolP_length l st pr a o; omega)
  simp only [known_enrol] at E2
  generalize hEN : (fun st pr => enrolP l st pr a o) = EN
  replace E1 : ∀ st pr, AFun Try.prog 23 0 [.ro {} 15 (l.map en), int st, int pr, int a, int o] [] (enrolV (EN st pr)) [] := by rw [← hEN]; exact E1
  replace E2 : ∀ st pr, AFun Try.prog 23 0 [.ro {} 15 ((knownP l a).map en), int st, int pr, int a, int o] [] (enrolV (EN st pr)) [] := by rw [← hEN]; exact E2
  replace E3 : ∀ st pr, AFun Try.prog 24 0 [.ro {} 4 ((EN st pr).2.1.map chA), .ro {} 4 ((EN st pr).2.1.map chA)] [] (bool true) [] := by rw [← hEN]; exact E3
  clear hEN hpd
  generalize knownP l a = K at hK hC2 htk hki hkl hS A2 W2 E2
  have hts : K.map en = ((l.map en).drop (0 : Int).toNat).take (((K.map en).length : Int).toNat - (0 : Int).toNat) := by
    rw [List.length_map]
    show _ = ((l.map en).drop 0).take (K.length - 0)
    rw [List.drop_zero, ← List.map_take, Nat.sub_zero, ← htk]
  clear htk
  have hml : (l.map en).length = l.length := List.length_map _
  have hmk : (K.map en).length = K.length := List.length_map _
  refine AFun.of_W T_ok mixed Try.func8 rfl (Nat.le_of_ble_eq_true rfl) rfl ?_
  ((repeat ((conv => whnf); (first | (refine LetN.pre ?_; first | ((conv => arg 1; whnf); refine LetN.mk ?_)) | (refine As.pre ?_; first | refine As.mk rfl ?_ | (refine As.mk ?_ ?_; · ((repeat' (refine andT ?_ ?_)) <;> (first | rfl | assumption | exact decide_eq_true (by omega) | exact decide_eq_true (by dsimp only; omega) | exact decide_eq_true (by simp; omega) | (simp; done))))) | (refine LetV.pre ?_; first | refine LetV.mk (t := 29) (.ro _ 15 (K.map en)) (congrArg (AV.ro _ 15) hts) ?_ | refine LetV.mk (.sc (.int _ _)) rfl ?_ | refine LetV.mk (.agg _) rfl ?_) | (refine LetI.pre ?_; first | refine LetI.mk (o := some .rem) a ha ?_ | refine LetI.mk (o := some .rem) o ho ?_ | refine LetI.wrap (by omega) (by omega) ?_ | refine LetI.mk _ rfl ?_) | (refine LetB.pre ?_; first | refine LetB.ff rfl ?_ | refine LetB.decf (by omega) ?_) | (refine Gd.pre ?_; first | refine Gd.run rfl ?_) | (refine Br.pre ?_; first | refine Br.ff rfl ?_) | (refine Ck.pre ?_; first | refine Ck.drawn (by kernel_rfl) ?_ | refine Ck.mk rfl ?_) | (refine CallN.pre ?_; first | refine CallN.pure sanity_f rfl rfl ?_ | refine CallN.pure hM rfl rfl ?_ | refine CallN.pure hK rfl rfl ?_ | refine CallN.pure hC rfl rfl ?_ | refine CallN.pure hC2 rfl rfl ?_ | refine CallN.pure hS rfl rfl ?_)))); (try (conv => whnf)))









  clear hM hK hC hC2 hS hts
  refine LoopN.weak (s1 := ⟨[(5, bool true), (6, .ro {} 15 (l.map en)), (8, int a), (9, int o), (10, .ro {} 15 (K.map en)), (11, int (0 : Nat))], [], 2⟩) (SW.mk id rfl rfl rfl ⟨.refl _, .refl _, .refl _, .refl _, .refl _, .refl _, trivial⟩ trivial) ?_
  refine LoopN.ind T_ok mixed (S := fun k : Nat => ⟨[(5, bool true), (6, .ro {} 15 (l.map en)), (8, int a), (9, int o), (10, .ro {} 15 (K.map en)), (11, int k)], [], 2⟩) (fun k => l.length - k) (fun k => k ≤ l.length) (fun _ => rfl) (fun k hk ih => ?_) 0 (Nat.zero_le _)
  by_cases hlt : k < l.length
  case neg =>
    clear ih E1 E2 E3
    ((repeat ((conv => whnf); (first | (refine As.pre ?_; first | refine As.mk rfl ?_) | (refine LetI.pre ?_; first | refine LetI.mk _ rfl ?_) | (refine LetB.pre ?_; first | refine LetB.decf (by omega) ?_) | (refine Gd.pre ?_; first | refine Gd.run rfl ?_) | (refine Br.pre ?_; first | refine Br.ff rfl ?_) | (refine Ck.pre ?_; first | refine Ck.mk rfl ?_) | (refine CallN.pre ?_; first | refine CallN.pure A1 rfl rfl ?_ | refine CallN.pure A2 rfl rfl ?_ | refine CallN.pure A3 rfl rfl ?_ | refine CallN.pure W1 rfl rfl ?_ | refine CallN.pure W2 rfl rfl ?_ | refine CallN.pure W3 rfl rfl ?_)))); (try (conv => whnf)))






    exact ⟨.inl rfl, ⟨_, rfl, rfl⟩, trivial⟩
  clear A1 A2 A3 W1 W2 W3
  have hld : en (l.getD k e0) = (l.map en).getD k (.sc undef) := mapD e0 hlt
  replace hki := hki k hlt
  generalize l.getD k e0 = e at hld hki
  have E1n := E1 e.student e.programme
  have E2n := E2 e.student e.programme
  have E3n := E3 e.student e.programme
  generalize EN e.student e.programme = x at E1n E2n E3n
  obtain ⟨x1, x2, x3⟩ := x
  clear E1 E2 E3
  have hx : (x3 != x3) = false := by simp
  have hx1 : (x1 != x1) = false := by simp
  by_cases hd : e.day ≤ a
  · have hk2 := hki.2 hd
    clear hki
    ((repeat ((conv => whnf); (first | (refine As.pre ?_; first | refine As.mk rfl ?_ | (refine As.mk ?_ ?_; · ((repeat' (refine andT ?_ ?_)) <;> (first | rfl | assumption | exact decide_eq_true (by omega) | exact decide_eq_true (by dsimp only; omega) | exact decide_eq_true (by simp; omega) | (simp; done))))) | (refine LetV.pre ?_; first | refine LetV.mk (t := 29) _ hld ?_ | refine LetV.mk (.sc (.int _ _)) rfl ?_) | (refine LetI.pre ?_; first | refine LetI.wrap (by omega) (by omega) ?_ | refine LetI.mk _ rfl ?_) | (refine LetB.pre ?_; first | refine LetB.ff rfl ?_ | refine LetB.ff (by assumption) ?_ | refine LetB.dect (by omega) ?_) | (refine Gd.pre ?_; first | refine Gd.run rfl ?_) | (refine Br.pre ?_; first | refine Br.tt rfl ?_ | refine Br.ff rfl ?_) | (refine Ck.pre ?_; first | refine Ck.drawn (by kernel_rfl) ?_ | refine Ck.mk rfl ?_) | (refine CallN.pre ?_; first | refine CallN.pure E1n rfl rfl ?_ | refine CallN.pure E2n rfl rfl ?_ | refine CallN.pure E3n rfl rfl ?_)))); (try (conv => whnf)))






    refine LoopN.weak ?_ (ih (k + 1) (by omega) (by omega))
    exact SW.mk id rfl rfl rfl ⟨.refl _, .refl _, .refl _, .refl _, .refl _, VLe2.int (by omega), trivial⟩ trivial
  · have hk2 : ¬ k < K.length := fun h => hd (hki.1 h)
    clear hki
    ((repeat ((conv => whnf); (first | (refine As.pre ?_; first | refine As.mk rfl ?_ | (refine As.mk ?_ ?_; · ((repeat' (refine andT ?_ ?_)) <;> (first | rfl | assumption | exact decide_eq_true (by omega) | exact decide_eq_true (by dsimp only; omega) | exact decide_eq_true (by simp; omega) | (simp; done))))) | (refine LetV.pre ?_; first | refine LetV.mk (t := 29) _ hld ?_ | refine LetV.mk (.sc (.int _ _)) rfl ?_) | (refine LetI.pre ?_; first | refine LetI.wrap (by omega) (by omega) ?_ | refine LetI.mk _ rfl ?_) | (refine LetB.pre ?_; first | refine LetB.ff rfl ?_ | refine LetB.ff (by assumption) ?_ | refine LetB.dect (by omega) ?_ | refine LetB.decf (by omega) ?_) | (refine Gd.pre ?_; first | refine Gd.run rfl ?_) | (refine Br.pre ?_; first | refine Br.tt rfl ?_ | refine Br.ff rfl ?_) | (refine Ck.pre ?_; first | refine Ck.drawn (by kernel_rfl) ?_ | refine Ck.mk rfl ?_) | (refine CallN.pre ?_; first | refine CallN.pure E1n rfl rfl ?_ | refine CallN.pure E2n rfl rfl ?_ | refine CallN.pure E3n rfl rfl ?_)))); (try (conv => whnf)))






    refine LoopN.weak ?_ (ih (k + 1) (by omega) (by omega))
    exact SW.mk id rfl rfl rfl ⟨.refl _, .refl _, .refl _, .refl _, .refl _, VLe2.int (by omega), trivial⟩ trivial
theorem fknown_row (x : List (List Int) × Int × Int × Int) (hxs : ∀ l ∈ x.1, l.length ≤ 9223372036854775807) (w : Int × Int) (hw1 : 0 ≤ w.1 ∧ w.1 ≤ 65535) (hw2 : 0 ≤ w.2 ∧ w.2 ≤ 65535) :
    AFun Try.prog 8 0 [.agg [.ro {} 1 (x.1.map fun l => .ro {} 1 (l.map int)), int x.2.1, int x.2.2.1, int x.2.2.2], .agg [u16 w.1, u16 w.2]] [] (bool true) [] := by
  have h := fknown (x.1.map fun l => (({} : Fl), l)) {} x.2 (fun y hy => by
    obtain ⟨l, hl, rfl⟩ := List.mem_map.1 hy
    exact hxs l hl) w hw1 hw2
  rw [List.map_map] at h
  exact h
end En
end Go.Proofs.Ytjnohedknlibmaa
namespace Go.Proofs.Ytjnohedknlibmaa
open Go.Proofs.Ytjnohedknlibmaa.Am
namespace En
/-! ### ForceAwards -/
theorem or_l {a b : Bool} (h : a = true) : (a || b) = true := by rw [h]; rfl
theorem VLe2.bool {a b : Bool} (h : b = a) : VLe2 (AV.sc (.bool a)) (.sc (.bool b)) := .of_eq (by rw [h])
abbrev endQ (a o : Int) (e x : E) : Bool := bif (bif (bif (x.kind == 9) then (x.ref == e.id) else false) then decide (x.day ≤ a) else false) then decide (x.on_ ≤ o) else false
theorem endQ_eq (a o : Int) (e x : E) : endQ a o e x = decide (x.kind = 9 ∧ x.ref = e.id ∧ x.day ≤ a ∧ x.on_ ≤ o) := by
  rw [Bool.eq_iff_iff, decide_eq_true_eq]
  simp only [endQ, Bool.cond_eq_true_distrib, beq_iff_eq, decide_eq_true_eq, Bool.false_eq_true, Bool.if_false_right, Bool.and_eq_true, and_assoc]
  simp [and_assoc]
abbrev awQ (a o : Int) (e : E) : Bool := bif (bif (e.kind == 8) then decide (e.day ≤ a) else false) then decide (e.on_ ≤ o) else false
theorem awQ_eq (a o : Int) (e : E) : awQ a o e = cntQ 8 a o e := by
  rw [Bool.eq_iff_iff, cntQ, decide_eq_true_eq]
  simp [awQ, and_assoc]
def cntA (l : List E) (a o : Int) (e : E) : Bool := awQ a o e && !(l.any (endQ a o e))
theorem aw_eq (l : List E) (a o : Int) : awardsP l a o = sortS (ltE false) (l.filter (cntA l a o)) := by
  rw [awards_eq, rAwardsP, countP_S l 8, S_filter (ord_E false), List.filter_filter]
  congr 1
  refine List.filter_congr fun x _ => ?_
  have : ((countP l 9 a o).any fun y => decide (y.ref = x.id)) = l.any (endQ a o x) := by
    refine any_iff fun y => ?_
    rw [mem_countP, endQ_eq, decide_eq_true_eq, decide_eq_true_eq]
    exact ⟨fun h => ⟨h.1.1, h.1.2.1, h.2, h.1.2.2⟩, fun h => ⟨⟨h.1, h.2.1, h.2.2.2⟩, h.2.2.1⟩⟩
  rw [this, cntA, Bool.and_comm, awQ_eq]
theorem aw_found {l : List E} (h : chkE l = 0) (hl : l.length ≤ 1000) (a o : Int) {e : E} (he : e ∈ l) : ((awardsP l a o).any fun x => enB x e) = cntA l a o e := by
  rw [aw_eq, Bool.eq_iff_iff, List.any_eq_true]
  constructor
  · rintro ⟨x, hx, hxe⟩
    have hx2 := List.mem_filter.1 ((S_perm _ _).mem_iff.1 hx)
    have hid : x.id = e.id := by
      simp only [enB, Bool.and_eq_true, beq_iff_eq] at hxe
      exact hxe.1
    rw [← chk_same h hl hx2.1 he hid]
    exact hx2.2
  · intro hc
    exact ⟨e, (S_perm _ _).mem_iff.2 (List.mem_filter.2 ⟨he, hc⟩), enB_self e⟩
theorem aw_len (l : List E) (a o : Int) : (awardsP l a o).length = (l.filter (cntA l a o)).length := by
  rw [aw_eq]; exact (S_perm _ _).length_eq
theorem sort_asc {l : List E} (hp : l.Pairwise fun a b => a.id ≠ b.id) (q : E → Bool) : (sortS (ltE false) (l.filter q)).Pairwise fun a b => a.id < b.id := by
  have h1 : (sortS (ltE false) (l.filter q)).Pairwise fun a b => a.id ≠ b.id := ((S_perm _ _).pairwise_iff (fun h => Ne.symm h)).2 (hp.sublist List.filter_sublist)
  refine (S_sorted (ord_E false) (l.filter q)).imp₂ (fun a b h k => ?_) h1
  rw [ltE_id, decide_eq_false_iff_not] at h
  omega
theorem aw_asc {l : List E} (h : chkE l = 0) (hl : l.length ≤ 1000) (a o : Int) {i j : Nat} (h1 : i < j) (h2 : j < (awardsP l a o).length) : ((awardsP l a o).getD i e0).id < ((awardsP l a o).getD j e0).id := by
  have := sort_asc (chk_pid h hl) (cntA l a o)
  rw [← aw_eq] at this
  exact getD_pair e0 this h1 h2
theorem filt_len_succ {α : Type} {q : α → Bool} {l : List α} {k : Nat} (h : k < l.length) (d : α) : ((l.take (k + 1)).filter q).length = ((l.take k).filter q).length + if q (l.getD k d) then 1 else 0 := by
  rw [filt_succ h d, List.length_append]
  congr 1
  split <;> rfl
abbrev awO (l G : List E) (a o : Int) : Nat × Nat → AS
  | (k, m) => ⟨[(5, bool true), (6, .ro {} 15 (l.map en)), (8, int a), (9, int o), (10, .ro {} 15 (G.map en)), (11, int m), (12, int k)], [], 2⟩
abbrev awI (l G : List E) (a o : Int) (k m : Nat) (e : E) : Nat × Bool → AS
  | (j, c) => ⟨[(5, bool true), (6, .ro {} 15 (l.map en)), (8, int a), (9, int o), (10, .ro {} 15 (G.map en)), (11, int m), (12, int k), (13, .ptr 2 15 0 0), (14, bool c), (15, int j)], [(2, .row 15 ety [en e])], 3⟩
abbrev awJ (l G : List E) (a o : Int) (k m : Nat) (e : E) (c : Bool) : Nat × Bool → AS
  | (j, f) => ⟨[(5, bool true), (6, .ro {} 15 (l.map en)), (8, int a), (9, int o), (10, .ro {} 15 (G.map en)), (11, int m), (12, int k), (13, .ptr 2 15 0 0), (14, bool c), (16, bool f), (17, int j)], [(2, .row 15 ety [en e])], 3⟩
set_option maxHeartbeats 1600000 in
set_option maxRecDepth 100000 in
theorem fawards (L : List (Fl × List Int)) (fl : Fl) (q : Int × Int × Int) (hxs : ∀ x ∈ L, x.2.length ≤ 9223372036854775807) (w : Int × Int) (hw1 : 0 ≤ w.1 ∧ w.1 ≤ 65535) (hw2 : 0 ≤ w.2 ∧ w.2 ≤ 65535) :
    AFun Try.prog 6 0 [.agg [.ro fl 1 (L.map iA), int q.1, int q.2.1, int q.2.2], .agg [u16 w.1, u16 w.2]] [] (bool true) [] := by
  obtain ⟨l, l', h1, h2, hM⟩ := made_f L fl q hxs
  have hlen := h1.len
  obtain ⟨a, ha⟩ : ∃ a, a = w.1.tmod 1000 := ⟨_, rfl⟩
  obtain ⟨o, ho⟩ : ∃ o, o = w.2.tmod 1000 := ⟨_, rfl⟩
  have hW := Awards_f l a o {} (by omega)
  have hfound := fun (e : E) (he : e ∈ l) => aw_found h1.chk (by omega) a o he
  have hGl := aw_len l a o
  have hGl2 := awardsP_length l a o
  have hasc := fun (i j : Nat) (h : i < j) (h2 : j < (awardsP l a o).length) => aw_asc h1.chk (by omega) a o h h2
  generalize awardsP l a o = G at hW hfound hGl hGl2 hasc
  have hml : (l.map en).length = l.length := List.length_map _
  have hmg : (G.map en).length = G.length := List.length_map _
  refine AFun.of_W T_ok mixed Try.func6 rfl (Nat.le_of_ble_eq_true rfl) rfl ?_
  ((repeat ((conv => whnf); (first | (refine LetN.pre ?_; first | ((conv => arg 1; whnf); refine LetN.mk ?_)) | (refine As.pre ?_; first | refine As.mk rfl ?_) | (refine LetV.pre ?_; first | refine LetV.mk (.sc (.int _ _)) rfl ?_ | refine LetV.mk (.agg _) rfl ?_) | (refine LetI.pre ?_; first | refine LetI.mk (o := some .rem) a ha ?_ | refine LetI.mk (o := some .rem) o ho ?_ | refine LetI.wrap (by omega) (by omega) ?_) | (refine Ck.pre ?_; first | refine Ck.drawn (by kernel_rfl) ?_ | refine Ck.mk rfl ?_) | (refine CallN.pre ?_; first | refine CallN.pure sanity_f rfl rfl ?_ | refine CallN.pure hM rfl rfl ?_ | refine CallN.pure hW rfl rfl ?_)))); (try (conv => whnf)))





  clear hM hW h1 h2 ha ho hxs hw1 hw2
  refine LoopN.weak (s1 := awO l G a o (0, 0)) (SW.mk id rfl rfl rfl ⟨.refl _, .refl _, .refl _, .refl _, .refl _, .refl _, .refl _, trivial⟩ trivial) ?_
  refine LoopN.ind T_ok mixed (S := awO l G a o) (fun i => l.length - i.1) (fun i => i.1 ≤ l.length ∧ i.2 ≤ i.1 ∧ i.2 = ((l.take i.1).filter (cntA l a o)).length) (fun _ => rfl) (fun i hi ih => ?_) (0, 0) ⟨Nat.zero_le _, Nat.le_refl _, rfl⟩
  obtain ⟨k, m⟩ := i
  obtain ⟨g1, g0, g2⟩ := hi
  simp only at g1 g0 g2 ih
  by_cases hlt : k < l.length
  case neg =>
    clear ih hfound
    have hmG : m = G.length := by rw [g2, hGl, List.take_of_length_le (by omega)]
    have hfin : ((m : Int) == ((G.map en).length : Int)) = true := by rw [hmg, hmG]; simp
    ((repeat ((conv => whnf); (first | (refine As.pre ?_; first | refine As.mk rfl ?_) | (refine LetI.pre ?_; first | refine LetI.mk _ rfl ?_) | (refine LetB.pre ?_; first | refine LetB.decf (by omega) ?_) | (refine Br.pre ?_; first | refine Br.ff rfl ?_) | (refine Ck.pre ?_; first | refine Ck.mk rfl ?_)))); (try (conv => whnf)))
    refine LoopN.weak (s1 := ⟨[(5, bool true), (10, .ro {} 15 (G.map en)), (11, int m), (18, int ((0 : Nat) + 1 : Nat))], [], 2⟩) (SW.mk id rfl rfl rfl ⟨.refl _, .refl _, .refl _, .refl _, trivial⟩ trivial) ?_
    refine LoopN.ind T_ok mixed (S := fun j : Nat => ⟨[(5, bool true), (10, .ro {} 15 (G.map en)), (11, int m), (18, int (j + 1 : Nat))], [], 2⟩) (fun j => G.length - j) (fun j => j ≤ G.length) (fun _ => rfl) (fun j hj ih => ?_) 0 (Nat.zero_le _)
    by_cases hjl : j + 1 < G.length
    case neg =>
      clear ih
      ((repeat ((conv => whnf); (first | (refine As.pre ?_; first | refine As.mk rfl ?_) | (refine LetI.pre ?_; first | refine LetI.mk _ rfl ?_) | (refine LetB.pre ?_; first | refine LetB.tt (by assumption) ?_ | refine LetB.decf (by omega) ?_) | (refine Gd.pre ?_; first | refine Gd.run rfl ?_) | (refine Br.pre ?_; first | refine Br.ff rfl ?_) | (refine Ck.pre ?_; first | refine Ck.mk rfl ?_)))); (try (conv => whnf)))
      exact ⟨.inl rfl, ⟨_, rfl, rfl⟩, trivial⟩
    have hsub : (j : Int) = IntKind.i64.wrap (((j + 1 : Nat) : Int) - 1) := by
      rw [wrap_id (by omega) (by omega)]; omega
    have hl1 : en (G.getD j e0) = (G.map en).getD j (.sc undef) := mapD e0 (by omega)
    have hl2 : en (G.getD (j + 1) e0) = (G.map en).getD (j + 1) (.sc undef) := mapD e0 hjl
    have hlt2 := hasc j (j + 1) (by omega) hjl
    generalize G.getD j e0 = x at hl1 hlt2
    generalize G.getD (j + 1) e0 = y at hl2 hlt2
    clear hasc hfin
    ((repeat ((conv => whnf); (first | (refine As.pre ?_; first | refine As.mk rfl ?_ | (refine As.mk ?_ ?_; · ((repeat' (refine andT ?_ ?_)) <;> (first | rfl | assumption | exact decide_eq_true (by omega) | exact decide_eq_true (by dsimp only; omega) | exact decide_eq_true (by simp; omega) | (simp; done))))) | (refine LetV.pre ?_; first | refine LetV.mk (t := 29) _ hl1 ?_ | refine LetV.mk (t := 29) _ hl2 ?_ | refine LetV.mk (.sc (.int _ _)) rfl ?_) | (refine LetI.pre ?_; first | refine LetI.mk (o := some .sub) (j : Int) hsub ?_ | refine LetI.wrap (by omega) (by omega) ?_ | refine LetI.mk _ rfl ?_) | (refine LetB.pre ?_; first | refine LetB.dect (by omega) ?_ | refine LetB.decf (by omega) ?_) | (refine Br.pre ?_; first | refine Br.tt rfl ?_ | refine Br.ff rfl ?_) | (refine Ck.pre ?_; first | refine Ck.drawn (by kernel_rfl) ?_ | refine Ck.mk rfl ?_)))); (try (conv => whnf)))



    refine LoopN.weak ?_ (ih (j + 1) (by omega) (by omega))
    exact SW.mk id rfl rfl rfl ⟨.refl _, .refl _, .refl _, VLe2.int (by omega), trivial⟩ trivial
  clear hasc
  have hld : en (l.getD k e0) = (l.map en).getD k (.sc undef) := mapD e0 hlt
  replace hfound := hfound _ (getD_mem hlt)
  have hq := filt_len_succ (q := cntA l a o) hlt e0
  rw [← g2] at hq
  clear g2
  have hca : cntA l a o (l.getD k e0) = (awQ a o (l.getD k e0) && !(l.any (endQ a o (l.getD k e0)))) := rfl
  generalize hZ : cntA l a o (l.getD k e0) = Z at hfound hq hca
  generalize l.getD k e0 = e at hld hfound hca
  clear hZ
  ((repeat ((conv => whnf); (first | (refine LetN.pre ?_; first | ((conv => arg 1; whnf); refine LetN.mk ?_)) | (refine As.pre ?_; first | refine As.mk rfl ?_ | refine As.mk (andT (nor_self _) rfl) ?_ | refine As.mk (andT (nor_self _) (or_t _)) ?_ | refine As.mk (andT (nor_self _) (andT (nor_self _) rfl)) ?_ | (refine As.mk ?_ ?_; · ((repeat' (refine andT ?_ ?_)) <;> (first | rfl | assumption | exact decide_eq_true (by omega) | exact decide_eq_true (by dsimp only; omega) | exact decide_eq_true (by simp; omega) | (simp; done))))) | (refine LetV.pre ?_; first | refine LetV.mk (t := 29) _ hld ?_ | refine LetV.mk (.sc (.int _ _)) rfl ?_ | refine LetV.mk (.agg _) rfl ?_) | (refine LetI.pre ?_; first | refine LetI.mk _ rfl ?_) | (refine LetB.pre ?_; first | refine LetB.dect (by omega) ?_ | refine LetB.mk _ rfl ?_) | (refine Gd.pre ?_; first | refine Gd.both ?_) | (refine Br.pre ?_; first | refine Br.tt rfl ?_) | (refine Ck.pre ?_; first | refine Ck.mk rfl ?_) | (refine LetL.pre ?_; first | refine LetL.mk [_] rfl ?_)))); (try (conv => whnf)))

  refine LoopN.weak (s1 := awI l G a o k m e (0, awQ a o e)) (SW.mk id rfl rfl rfl ⟨.refl _, .refl _, .refl _, .refl _, .refl _, .refl _, .refl _, .refl _, VLe2.bool rfl, .refl _, trivial⟩ (haveV.row rfl rfl trivial)) ?_
  refine LoopN.ind T_ok mixed (S := awI l G a o k m e) (fun i => l.length - i.1) (fun i => i.1 ≤ l.length ∧ Z = (i.2 && !((l.drop i.1).any (endQ a o e)))) (fun _ => rfl) (fun i hi ihI => ?_) (0, awQ a o e) ⟨Nat.zero_le _, hca⟩
  obtain ⟨j, c⟩ := i
  obtain ⟨u1, u2⟩ := hi
  simp only at u1 u2 ihI
  by_cases hj : j < l.length
  case pos =>
    have hlx : en (l.getD j e0) = (l.map en).getD j (.sc undef) := mapD e0 hj
    rw [any_drop _ hj e0] at u2
    generalize l.getD j e0 = x at hlx u2
    clear ih hq hld hca
    have nT : endQ a o e x = true → _ := fun hx => ihI (j + 1, false) ⟨by omega, by rw [u2, hx]; simp⟩ (by show l.length - (j + 1) < l.length - j; omega)
    have nF : endQ a o e x = false → _ := fun hx => ihI (j + 1, c) ⟨by omega, by rw [u2, hx]; rfl⟩ (by show l.length - (j + 1) < l.length - j; omega)
    clear ihI u2
    cases hk : (x.kind == 9) with
    | false =>
      ((repeat ((conv => whnf); (first | (refine As.pre ?_; first | refine As.mk rfl ?_ | (refine As.mk ?_ ?_; · ((repeat' (refine andT ?_ ?_)) <;> (first | rfl | assumption | exact decide_eq_true (by omega) | exact decide_eq_true (by dsimp only; omega) | exact decide_eq_true (by simp; omega) | (simp; done))))) | (refine LetV.pre ?_; first | refine LetV.mk (t := 29) _ hlx ?_ | refine LetV.mk (.sc (.int _ _)) rfl ?_) | (refine LetI.pre ?_; first | refine LetI.wrap (by omega) (by omega) ?_ | refine LetI.mk _ rfl ?_) | (refine LetB.pre ?_; first | refine LetB.ff (by assumption) ?_ | refine LetB.dect (by omega) ?_) | (refine Gd.pre ?_; first | refine Gd.pass rfl ?_) | (refine Br.pre ?_; first | refine Br.tt rfl ?_ | refine Br.ff rfl ?_) | (refine Ck.pre ?_; first | refine Ck.drawn (by kernel_rfl) ?_ | refine Ck.mk rfl ?_)))); (try (conv => whnf)))

      refine LoopN.weak ?_ (nF (by simp [endQ, *]))
      exact SW.mk id rfl rfl rfl ⟨.refl _, .refl _, .refl _, .refl _, .refl _, .refl _, .refl _, .refl _, .refl _, VLe2.int (by omega), trivial⟩ (haveV.row rfl rfl trivial)
    | true =>
    cases hr : (x.ref == e.id) with
    | false =>
      ((repeat ((conv => whnf); (first | (refine As.pre ?_; first | refine As.mk rfl ?_ | (refine As.mk ?_ ?_; · ((repeat' (refine andT ?_ ?_)) <;> (first | rfl | assumption | exact decide_eq_true (by omega) | exact decide_eq_true (by dsimp only; omega) | exact decide_eq_true (by simp; omega) | (simp; done))))) | (refine LetV.pre ?_; first | refine LetV.mk (t := 29) _ hlx ?_ | refine LetV.mk (.sc (.int _ _)) rfl ?_) | (refine LetI.pre ?_; first | refine LetI.wrap (by omega) (by omega) ?_ | refine LetI.mk _ rfl ?_) | (refine LetB.pre ?_; first | refine LetB.tt (by assumption) ?_ | refine LetB.ff (by assumption) ?_ | refine LetB.dect (by omega) ?_) | (refine Gd.pre ?_; first | refine Gd.run rfl ?_ | refine Gd.pass rfl ?_) | (refine Br.pre ?_; first | refine Br.tt rfl ?_ | refine Br.ff rfl ?_) | (refine Ck.pre ?_; first | refine Ck.drawn (by kernel_rfl) ?_ | refine Ck.mk rfl ?_)))); (try (conv => whnf)))

      refine LoopN.weak ?_ (nF (by simp [endQ, *]))
      exact SW.mk id rfl rfl rfl ⟨.refl _, .refl _, .refl _, .refl _, .refl _, .refl _, .refl _, .refl _, .refl _, VLe2.int (by omega), trivial⟩ (haveV.row rfl rfl trivial)
    | true =>
    by_cases hd : x.day ≤ a
    case neg =>
      ((repeat ((conv => whnf); (first | (refine As.pre ?_; first | refine As.mk rfl ?_ | (refine As.mk ?_ ?_; · ((repeat' (refine andT ?_ ?_)) <;> (first | rfl | assumption | exact decide_eq_true (by omega) | exact decide_eq_true (by dsimp only; omega) | exact decide_eq_true (by simp; omega) | (simp; done))))) | (refine LetV.pre ?_; first | refine LetV.mk (t := 29) _ hlx ?_ | refine LetV.mk (.sc (.int _ _)) rfl ?_) | (refine LetI.pre ?_; first | refine LetI.wrap (by omega) (by omega) ?_ | refine LetI.mk _ rfl ?_) | (refine LetB.pre ?_; first | refine LetB.tt (by assumption) ?_ | refine LetB.dect (by omega) ?_ | refine LetB.decf (by omega) ?_) | (refine Gd.pre ?_; first | refine Gd.run rfl ?_ | refine Gd.pass rfl ?_) | (refine Br.pre ?_; first | refine Br.tt rfl ?_ | refine Br.ff rfl ?_) | (refine Ck.pre ?_; first | refine Ck.drawn (by kernel_rfl) ?_ | refine Ck.mk rfl ?_)))); (try (conv => whnf)))

      refine LoopN.weak ?_ (nF (by simp [endQ, *]))
      exact SW.mk id rfl rfl rfl ⟨.refl _, .refl _, .refl _, .refl _, .refl _, .refl _, .refl _, .refl _, .refl _, VLe2.int (by omega), trivial⟩ (haveV.row rfl rfl trivial)
    by_cases hn : x.on_ ≤ o
    case neg =>
      ((repeat ((conv => whnf); (first | (refine As.pre ?_; first | refine As.mk rfl ?_ | (refine As.mk ?_ ?_; · ((repeat' (refine andT ?_ ?_)) <;> (first | rfl | assumption | exact decide_eq_true (by omega) | exact decide_eq_true (by dsimp only; omega) | exact decide_eq_true (by simp; omega) | (simp; done))))) | (refine LetV.pre ?_; first | refine LetV.mk (t := 29) _ hlx ?_ | refine LetV.mk (.sc (.int _ _)) rfl ?_) | (refine LetI.pre ?_; first | refine LetI.wrap (by omega) (by omega) ?_ | refine LetI.mk _ rfl ?_) | (refine LetB.pre ?_; first | refine LetB.tt (by assumption) ?_ | refine LetB.dect (by omega) ?_ | refine LetB.decf (by omega) ?_) | (refine Gd.pre ?_; first | refine Gd.run rfl ?_) | (refine Br.pre ?_; first | refine Br.tt rfl ?_ | refine Br.ff rfl ?_) | (refine Ck.pre ?_; first | refine Ck.drawn (by kernel_rfl) ?_ | refine Ck.mk rfl ?_)))); (try (conv => whnf)))

      refine LoopN.weak ?_ (nF (by simp [endQ, *]))
      exact SW.mk id rfl rfl rfl ⟨.refl _, .refl _, .refl _, .refl _, .refl _, .refl _, .refl _, .refl _, .refl _, VLe2.int (by omega), trivial⟩ (haveV.row rfl rfl trivial)
    case pos =>
      ((repeat ((conv => whnf); (first | (refine As.pre ?_; first | refine As.mk rfl ?_ | (refine As.mk ?_ ?_; · ((repeat' (refine andT ?_ ?_)) <;> (first | rfl | assumption | exact decide_eq_true (by omega) | exact decide_eq_true (by dsimp only; omega) | exact decide_eq_true (by simp; omega) | (simp; done))))) | (refine LetV.pre ?_; first | refine LetV.mk (t := 29) _ hlx ?_ | refine LetV.mk (.sc (.int _ _)) rfl ?_) | (refine LetI.pre ?_; first | refine LetI.wrap (by omega) (by omega) ?_ | refine LetI.mk _ rfl ?_) | (refine LetB.pre ?_; first | refine LetB.tt (by assumption) ?_ | refine LetB.dect (by omega) ?_) | (refine Gd.pre ?_; first | refine Gd.run rfl ?_) | (refine Br.pre ?_; first | refine Br.tt rfl ?_) | (refine Ck.pre ?_; first | refine Ck.drawn (by kernel_rfl) ?_ | refine Ck.mk rfl ?_)))); (try (conv => whnf)))

      refine LoopN.weak ?_ (nT (by simp [endQ, *]))
      exact SW.mk id rfl rfl rfl ⟨.refl _, .refl _, .refl _, .refl _, .refl _, .refl _, .refl _, .refl _, .refl _, VLe2.int (by omega), trivial⟩ (haveV.row rfl rfl trivial)
  clear ihI hca
  rw [List.drop_eq_nil_of_le (by omega), List.any_nil, Bool.not_false, Bool.and_true] at u2
  subst u2
  ((repeat ((conv => whnf); (first | (refine As.pre ?_; first | refine As.mk rfl ?_) | (refine LetI.pre ?_; first | refine LetI.mk _ rfl ?_) | (refine LetB.pre ?_; first | refine LetB.decf (by omega) ?_) | (refine Br.pre ?_; first | refine Br.ff rfl ?_) | (refine Ck.pre ?_; first | refine Ck.mk rfl ?_)))); (try (conv => whnf)))
  refine LoopN.weak (s1 := awJ l G a o k m e Z (0, false)) (SW.mk id rfl rfl rfl ⟨.refl _, .refl _, .refl _, .refl _, .refl _, .refl _, .refl _, .refl _, .refl _, .refl _, .refl _, trivial⟩ (haveV.row rfl rfl trivial)) ?_
  refine LoopN.ind T_ok mixed (S := awJ l G a o k m e Z) (fun i => G.length - i.1) (fun i => i.1 ≤ G.length ∧ Z = (i.2 || (G.drop i.1).any fun x => enB x e)) (fun _ => rfl) (fun i hi ihJ => ?_) (0, false) ⟨Nat.zero_le _, hfound.symm⟩
  obtain ⟨j, f⟩ := i
  obtain ⟨v1, v2⟩ := hi
  simp only at v1 v2 ihJ
  clear hfound
  by_cases hj : j < G.length
  case pos =>
    have hlx : en (G.getD j e0) = (G.map en).getD j (.sc undef) := mapD e0 hj
    rw [any_drop _ hj e0] at v2
    generalize G.getD j e0 = x at hlx v2
    have next := ihJ (j + 1, f || enB x e) ⟨by omega, by rw [v2, Bool.or_assoc]⟩ (by show G.length - (j + 1) < G.length - j; omega)
    clear ih hq hld ihJ v2
    cases f with
    | true =>
      ((repeat ((conv => whnf); (first | (refine As.pre ?_; first | refine As.mk rfl ?_) | (refine LetI.pre ?_; first | refine LetI.wrap (by omega) (by omega) ?_ | refine LetI.mk _ rfl ?_) | (refine LetB.pre ?_; first | refine LetB.dect (by omega) ?_) | (refine Gd.pre ?_; first | refine Gd.pass rfl ?_) | (refine Br.pre ?_; first | refine Br.tt rfl ?_) | (refine Ck.pre ?_; first | refine Ck.drawn (by kernel_rfl) ?_ | refine Ck.mk rfl ?_)))); (try (conv => whnf)))

      refine LoopN.weak ?_ next
      exact SW.mk id rfl rfl rfl ⟨.refl _, .refl _, .refl _, .refl _, .refl _, .refl _, .refl _, .refl _, .refl _, VLe2.bool rfl, VLe2.int (by omega), trivial⟩ (haveV.row rfl rfl trivial)
    | false =>
      ((repeat ((conv => whnf); (first | (refine As.pre ?_; first | refine As.mk rfl ?_ | (refine As.mk ?_ ?_; · ((repeat' (refine andT ?_ ?_)) <;> (first | rfl | assumption | exact decide_eq_true (by omega) | exact decide_eq_true (by dsimp only; omega) | exact decide_eq_true (by simp; omega) | (simp; done))))) | (refine LetV.pre ?_; first | refine LetV.mk (t := 29) _ hlx ?_ | refine LetV.mk (.agg _) rfl ?_) | (refine LetI.pre ?_; first | refine LetI.wrap (by omega) (by omega) ?_ | refine LetI.mk _ rfl ?_) | (refine LetB.pre ?_; first | refine LetB.dect (by omega) ?_ | refine LetB.mk _ rfl ?_) | (refine Gd.pre ?_; first | refine Gd.run rfl ?_) | (refine Br.pre ?_; first | refine Br.tt rfl ?_) | (refine Ck.pre ?_; first | refine Ck.drawn (by kernel_rfl) ?_ | refine Ck.mk rfl ?_)))); (try (conv => whnf)))

      refine LoopN.weak ?_ next
      exact SW.mk id rfl rfl rfl ⟨.refl _, .refl _, .refl _, .refl _, .refl _, .refl _, .refl _, .refl _, .refl _, VLe2.bool rfl, VLe2.int (by omega), trivial⟩ (haveV.row rfl rfl trivial)
  clear ihJ
  rw [List.drop_eq_nil_of_le (by omega), List.any_nil, Bool.or_false] at v2
  subst v2
  have hne : (Z != Z) = false := by simp
  have next := ih (k + 1, m + if Z = true then 1 else 0) ⟨by omega, by show (m + if Z = true then 1 else 0) ≤ k + 1; split <;> omega, hq.symm⟩ (by show l.length - (k + 1) < l.length - k; omega)
  clear ih hq
  cases Z with
  | true =>
    simp only [if_true] at next
    ((repeat ((conv => whnf); (first | (refine As.pre ?_; first | refine As.mk rfl ?_) | (refine LetI.pre ?_; first | refine LetI.wrap (by omega) (by omega) ?_ | refine LetI.mk _ rfl ?_) | (refine LetB.pre ?_; first | refine LetB.ff rfl ?_ | refine LetB.decf (by omega) ?_) | (refine Br.pre ?_; first | refine Br.tt rfl ?_ | refine Br.ff rfl ?_) | (refine Ck.pre ?_; first | refine Ck.mk rfl ?_)))); (try (conv => whnf)))
    refine LoopN.weak ?_ next
    exact SW.mk id rfl rfl rfl ⟨.refl _, .refl _, .refl _, .refl _, .refl _, VLe2.int (by omega), VLe2.int (by omega), trivial⟩ trivial
  | false =>
    simp only [Bool.false_eq_true, if_false, Nat.add_zero] at next
    ((repeat ((conv => whnf); (first | (refine As.pre ?_; first | refine As.mk rfl ?_) | (refine LetI.pre ?_; first | refine LetI.wrap (by omega) (by omega) ?_ | refine LetI.mk _ rfl ?_) | (refine LetB.pre ?_; first | refine LetB.ff rfl ?_ | refine LetB.decf (by omega) ?_) | (refine Br.pre ?_; first | refine Br.ff rfl ?_) | (refine Ck.pre ?_; first | refine Ck.mk rfl ?_)))); (try (conv => whnf)))
    refine LoopN.weak ?_ next
    exact SW.mk id rfl rfl rfl ⟨.refl _, .refl _, .refl _, .refl _, .refl _, .refl _, VLe2.int (by omega), trivial⟩ trivial
theorem fawards_row (x : List (List Int) × Int × Int × Int) (hxs : ∀ l ∈ x.1, l.length ≤ 9223372036854775807) (w : Int × Int) (hw1 : 0 ≤ w.1 ∧ w.1 ≤ 65535) (hw2 : 0 ≤ w.2 ∧ w.2 ≤ 65535) :
    AFun Try.prog 6 0 [.agg [.ro {} 1 (x.1.map fun l => .ro {} 1 (l.map int)), int x.2.1, int x.2.2.1, int x.2.2.2], .agg [u16 w.1, u16 w.2]] [] (bool true) [] := by
  have h := fawards (x.1.map fun l => (({} : Fl), l)) {} x.2 (fun y hy => by
    obtain ⟨l, hl, rfl⟩ := List.mem_map.1 hy
    exact hxs l hl) w hw1 hw2
  rw [List.map_map] at h
  exact h
end En
end Go.Proofs.Ytjnohedknlibmaa
