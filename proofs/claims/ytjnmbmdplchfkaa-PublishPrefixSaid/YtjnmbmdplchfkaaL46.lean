/- publish: parts of the proof, DpublishQN DpublishQO DpublishQU. -/
import Derived.Test.YtjnmbmdplchfkaaL45
set_option linter.all false
namespace Go.Proofs.Ytjnmbmdplchfkaa
open Go.Proofs.Ytjnmbmdplchfkaa.Am
set_option maxRecDepth 100000
namespace Pb
/-! ### PublishLater -/
def ltP (q : Pg) (v f : Int) (s i : Int) : Pg := ⟨s, i, v, f, q.name, q.need, q.total, q.own, q.age, q.ex⟩
theorem lt_wp {q : Pg} (h : WP q) (v f s i : Int) : WP (ltP q v f s i) := h.upd rfl rfl rfl rfl rfl rfl
abbrev ltA (q : Pg) (v f s i : Int) : AV := .agg [int s, int i, int v, int f, str q.name, int q.need.kind, int q.need.n, int q.need.min, .ro {} 2 (q.need.set.map coA), .ro {} 5 (q.need.l.map nd), int q.total, int q.own, int q.age, .ro {} 4 (q.ex.map exA)]
abbrev lv (B : List Pg) (s i : Int) : Int := (lastP B s i).1.ver + 1
abbrev lf (B : List Pg) (s i : Int) : Int := max 700 (lastP B s i).1.from_
abbrev l1S (B : List Pg) (C : List Ch) (s i be day : Int) (q : Pg) : Nat × Int × Int → AS
  | (k, v, f) => ⟨[(5, bool true), (6, .ro {} 14 (B.map pg)), (7, .ro {} 4 (C.map chA)), (8, .ptr 0 4 0 0), (9, .ptr 1 14 0 0), (37, .ro {} 14 (B.map pg)), (38, int B.length), (39, int k)], [(0, nB s i be day), (1, .row 14 pty [ltA q v f s i])], 2⟩
abbrev l2S (B : List Pg) (C : List Ch) (s i be day : Int) (q : Pg) (v f : Int) : AS := ⟨[(5, bool true), (6, .ro {} 14 (B.map pg)), (7, .ro {} 4 (C.map chA)), (8, .ptr 0 4 0 0), (9, .ptr 1 14 0 0)], [(0, nB s i be day), (1, .row 14 pty [pg (ltP q v f s i)])], 2⟩
set_option maxHeartbeats 3200000 in
set_option maxRecDepth 100000 in
open Classical in
theorem laterLaw_f (c : Case) (h : CaseOk c) (fl : Fl) (xs : List Int) (hx : xs.length ≤ 9223372036854775807) : AFun Try.prog 3 0 [csA c, .ro fl 1 (xs.map int)] [] (bool true) [] := by
  obtain ⟨B, C, s, i, be, day, hB, hC, rs, ri, rb, rd, _, hM⟩ := made_case c h
  clear h
  obtain ⟨q, ⟨wq, _, _, _, _, wn⟩, hQ⟩ := MadeAll_f fl xs hx
  have hl := hB.len
  have hlC := hC.len
  have hmB : (B.map pg).length = B.length := List.length_map _
  refine AFun.of_VS T_ok Try.func3 rfl (Nat.le_of_ble_eq_true rfl) ?_
  refine VS.cut T_ok mixed rfl ?_
  ((repeat ((conv => whnf); (first | (refine LetN.pre ?_; first | ((conv => arg 1; whnf); refine LetN.mk ?_)) | (refine As.pre ?_; first | refine As.mk rfl ?_) | (refine Ck.pre ?_; first | refine Ck.mk rfl ?_)))); (try (conv => whnf)))
  refine VS.cut T_ok mixed rfl ?_
  ((repeat ((conv => whnf); (first | (refine As.pre ?_; first | refine As.mk rfl ?_) | (refine Ck.pre ?_; first | refine Ck.mk rfl ?_) | (refine CallN.pre ?_; first | refine CallN.pure sanity_f rfl rfl ?_)))); (try (conv => whnf)))
  refine VS.cut T_ok mixed rfl ?_
  ((repeat ((conv => whnf); (first | (refine LetN.pre ?_; first | ((conv => arg 1; whnf); refine LetN.mk ?_)) | (refine As.pre ?_; first | refine As.mk rfl ?_) | (refine LetV.pre ?_; first | refine LetV.mk (.agg _) rfl ?_) | (refine Ck.pre ?_; first | refine Ck.mk rfl ?_) | (refine LetL.pre ?_; first | refine LetL.mk [_] rfl ?_) | (refine CallN.pre ?_; first | refine CallN.pure hM rfl rfl ?_)))); (try (conv => whnf)))
  clear hM
  refine VS.cut T_ok mixed rfl ?_
  ((repeat ((conv => whnf); (first | (refine LetN.pre ?_; first | ((conv => arg 1; whnf); refine LetN.mk ?_)) | (refine As.pre ?_; first | refine As.mk rfl ?_) | (refine Ck.pre ?_; first | refine Ck.mk rfl ?_) | (refine LetL.pre ?_; first | refine LetL.mk [_] rfl ?_) | (refine CallN.pre ?_; first | refine CallN.pure hQ rfl rfl ?_)))); (try (conv => whnf)))
  clear hQ
  refine VS.cut T_ok mixed rfl ?_
  ((repeat ((conv => whnf); (first | (refine LetN.pre ?_; first | ((conv => arg 1; whnf); refine LetN.mk ?_)) | (refine As.pre ?_; first | refine As.mk rfl ?_) | (refine LetV.pre ?_; first | refine LetV.mk (.sc (.int _ _)) rfl ?_) | (refine Ck.pre ?_; first | refine Ck.drawn (by kernel_rfl) ?_ | refine Ck.mk rfl ?_) | (refine LetL.pre ?_; first | refine LetL.mk [_] rfl ?_)))); (try (conv => whnf)))
  have hL := hB.last s i
  refine VS.joinN (fun _ : Unit => l2S B C s i be day q (lv B s i) (lf B s i)) (fun _ => True) ?_ ?_
  case refine_1 =>
    refine VS.of_V T_ok mixed rfl ?_
    ((repeat ((conv => whnf); (first | (refine As.pre ?_; first | refine As.mk rfl ?_) | (refine LetI.pre ?_; first | refine LetI.mk _ rfl ?_) | (refine Ck.pre ?_; first | refine Ck.mk rfl ?_)))); (try (conv => whnf)))
    refine LoopN.weak (s1 := l1S B C s i be day q (0, 1, 700)) ?sw0 ?_
    case sw0 => exact SW.mk (fun i => i + 1) rfl rfl rfl ⟨.refl _, .refl _, .refl _, .refl _, .refl _, .refl _, VLe2.int (by rw [hmB]), .refl _, trivial⟩ (haveV.row rfl rfl (haveV.row rfl rfl trivial))
    refine LoopN.ind T_ok mixed (S := l1S B C s i be day q) (fun x => B.length - x.1) (fun x => x.1 ≤ B.length ∧ x.2.1 = lv (B.take x.1) s i ∧ x.2.2 = lf (B.take x.1) s i) (fun _ => rfl) (fun x hx ih => ?_) (0, 1, 700) ⟨Nat.zero_le _, rfl, rfl⟩
    obtain ⟨k, v, f⟩ := x
    obtain ⟨g1, g2, g3⟩ := hx
    dsimp only at g1 g2 g3
    by_cases hlt : k < B.length
    case neg =>
      clear ih
      rw [List.take_of_length_le (by omega)] at g2 g3
      rw [← g2, ← g3]
      ((repeat ((conv => whnf); (first | (refine As.pre ?_; first | refine As.mk rfl ?_) | (refine LetB.pre ?_; first | refine LetB.decf (by omega) ?_) | (refine Br.pre ?_; first | refine Br.ff rfl ?_) | (refine Ck.pre ?_; first | refine Ck.mk rfl ?_)))); (try (conv => whnf)))
      exact ⟨rfl, (), trivial, SW.mk id rfl rfl rfl ⟨.refl _, .refl _, .refl _, .refl _, .refl _, trivial⟩ (haveV.row rfl rfl (haveV.row rfl rfl trivial))⟩
    have hld := ld_pg hlt
    have hym := getD_pg hlt
    have hck := ckA_ver (ckB_vers hB.ck _ hym)
    have hvr := hB.ver _ hym
    have hlt2 := last_take hlt s i
    have hnx := fun v' f' h1 h2 => ih (k + 1, v', f') ⟨hlt, h1, h2⟩ (by show B.length - (k + 1) < B.length - k; omega)
    clear ih hL hC hB
    dsimp only at hnx
    unfold lv at hnx g2
    unfold lf at hnx g3
    rw [hlt2] at hnx
    generalize B.getD k p0 = y at hld hck hvr hnx
    generalize lastP (B.take k) s i = la at hnx g2 g3
    unfold lasS at hnx
    clear hlt2 hym
    by_cases c1 : y.school = s
    · by_cases c2 : y.id = i
      · rw [if_pos ⟨c1, c2⟩] at hnx
        replace hnx := hnx _ _ rfl rfl
        dsimp only at hnx
        clear g2 g3
        ((repeat ((conv => whnf); (first | (refine LetN.pre ?_; first | ((conv => arg 1; whnf); refine LetN.mk ?_)) | (refine As.pre ?_; first | refine As.mk rfl ?_ | (refine As.mk ?_ ?_; · ((repeat' (refine andT ?_ ?_)) <;> (first | rfl | assumption | exact decide_eq_true (by omega) | exact decide_eq_true (by dsimp only; omega) | exact decide_eq_true (by simp; omega) | (simp; done))))) | (refine LetV.pre ?_; first | refine LetV.mk (t := 28) _ hld ?_ | refine LetV.mk (.sc (.int _ _)) rfl ?_ | refine LetV.mk (.agg _) rfl ?_) | (refine LetI.pre ?_; first | refine LetI.wrap (by omega) (by omega) ?_ | refine LetI.mk _ rfl ?_) | (refine LetB.pre ?_; first | refine LetB.dect (by omega) ?_) | (refine Gd.pre ?_; first | refine Gd.run rfl ?_) | (refine Br.pre ?_; first | refine Br.tt rfl ?_) | (refine Ck.pre ?_; first | refine Ck.drawn (by kernel_rfl) ?_ | refine Ck.mk rfl ?_) | (refine LetL.pre ?_; first | refine LetL.mk [_] rfl ?_)))); (try (conv => whnf)))
        refine LoopN.weak ?sw1 hnx
        case sw1 => exact SW.mk id rfl rfl rfl ⟨.refl _, .refl _, .refl _, .refl _, .refl _, .refl _, .refl _, VLe2.int (by omega), trivial⟩ (haveV.row rfl rfl (haveV.row rfl rfl trivial))
      · rw [if_neg (fun g => c2 g.2)] at hnx
        replace hnx := hnx _ _ g2 g3
        clear g2 g3
        ((repeat ((conv => whnf); (first | (refine LetN.pre ?_; first | ((conv => arg 1; whnf); refine LetN.mk ?_)) | (refine As.pre ?_; first | refine As.mk rfl ?_ | (refine As.mk ?_ ?_; · ((repeat' (refine andT ?_ ?_)) <;> (first | rfl | assumption | exact decide_eq_true (by omega) | exact decide_eq_true (by dsimp only; omega) | exact decide_eq_true (by simp; omega) | (simp; done))))) | (refine LetV.pre ?_; first | refine LetV.mk (t := 28) _ hld ?_ | refine LetV.mk (.sc (.int _ _)) rfl ?_ | refine LetV.mk (.agg _) rfl ?_) | (refine LetI.pre ?_; first | refine LetI.wrap (by omega) (by omega) ?_) | (refine LetB.pre ?_; first | refine LetB.dect (by omega) ?_ | refine LetB.decf (by omega) ?_) | (refine Gd.pre ?_; first | refine Gd.run rfl ?_) | (refine Br.pre ?_; first | refine Br.tt rfl ?_ | refine Br.ff rfl ?_) | (refine Ck.pre ?_; first | refine Ck.mk rfl ?_) | (refine LetL.pre ?_; first | refine LetL.mk [_] rfl ?_)))); (try (conv => whnf)))
        refine LoopN.weak ?sw2 hnx
        case sw2 => exact SW.mk id rfl rfl rfl ⟨.refl _, .refl _, .refl _, .refl _, .refl _, .refl _, .refl _, VLe2.int (by omega), trivial⟩ (haveV.row rfl rfl (haveV.row rfl rfl trivial))
    · rw [if_neg (fun g => c1 g.1)] at hnx
      replace hnx := hnx _ _ g2 g3
      clear g2 g3
      ((repeat ((conv => whnf); (first | (refine LetN.pre ?_; first | ((conv => arg 1; whnf); refine LetN.mk ?_)) | (refine As.pre ?_; first | refine As.mk rfl ?_ | (refine As.mk ?_ ?_; · ((repeat' (refine andT ?_ ?_)) <;> (first | rfl | assumption | exact decide_eq_true (by omega) | exact decide_eq_true (by dsimp only; omega) | exact decide_eq_true (by simp; omega) | (simp; done))))) | (refine LetV.pre ?_; first | refine LetV.mk (t := 28) _ hld ?_ | refine LetV.mk (.sc (.int _ _)) rfl ?_ | refine LetV.mk (.agg _) rfl ?_) | (refine LetI.pre ?_; first | refine LetI.wrap (by omega) (by omega) ?_) | (refine LetB.pre ?_; first | refine LetB.dect (by omega) ?_ | refine LetB.decf (by omega) ?_) | (refine Gd.pre ?_; first | refine Gd.pass rfl ?_) | (refine Br.pre ?_; first | refine Br.tt rfl ?_ | refine Br.ff rfl ?_) | (refine Ck.pre ?_; first | refine Ck.mk rfl ?_) | (refine LetL.pre ?_; first | refine LetL.mk [_] rfl ?_)))); (try (conv => whnf)))
      refine LoopN.weak ?sw3 hnx
      case sw3 => exact SW.mk id rfl rfl rfl ⟨.refl _, .refl _, .refl _, .refl _, .refl _, .refl _, .refl _, VLe2.int (by omega), trivial⟩ (haveV.row rfl rfl (haveV.row rfl rfl trivial))
  intro _ _
  obtain ⟨p, hp⟩ : ∃ p, p = ltP q (lv B s i) (lf B s i) s i := ⟨_, rfl⟩
  have wp : WP p := by rw [hp]; exact lt_wp wq _ _ _ _
  have hps : p.school = s ∧ p.id = i := by rw [hp]; exact ⟨rfl, rfl⟩
  have hpf : 700 ≤ p.from_ ∧ p.from_ ≤ 100000 := by rw [hp]; show 700 ≤ max 700 (lastP B s i).1.from_ ∧ max 700 (lastP B s i).1.from_ ≤ 100000; omega
  have hon : on1 B p = 0 := by
    have e1 : p.ver = (lastP B s i).1.ver + 1 := by rw [hp]; rfl
    have e2 : (lastP B s i).1.from_ ≤ p.from_ := by rw [hp]; show _ ≤ max 700 (lastP B s i).1.from_; omega
    refine on1_ok (ckA_ok ?_ ?_ ?_ ?_ ?_) ?_ ?_
    · rw [hps.1]; omega
    · rw [hps.2]; omega
    · omega
    · omega
    · rw [hp]; exact wn
    · rw [hps.1, hps.2]; exact e1
    · rw [hps.1, hps.2]; exact e2
  show VS _ _ _ _ ⟨[(5, bool true), (6, .ro {} 14 (B.map pg)), (7, .ro {} 4 (C.map chA)), (8, .ptr 0 4 0 0), (9, .ptr 1 14 0 0)], [(0, nB s i be day), (1, .row 14 pty [pg (ltP q (lv B s i) (lf B s i) s i)])], 2⟩ _
  rw [← hp]
  clear hp wq wn
  obtain ⟨e1, e2, e3⟩ := putE_ok hB.ck (by omega) hon
  have hPut := Put_f B (p := p) (by omega) hB.wp wp
  rw [e1, e2] at hPut
  have hw2 : ∀ x ∈ B ++ [p], WP x := fun x hx => by
    rcases List.mem_append.1 hx with g | g
    · exact hB.wp x g
    · rw [List.mem_singleton.1 g]; exact wp
  have hlB : (B ++ [p]).length = B.length + 1 := by simp
  have hCk := CheckB_f {} (B ++ [p]) (by omega) hw2
  rw [e3] at hCk
  have hsp : ∀ q ∈ B, SP q := fun q hq => (hB.wp q hq).sp
  have hsp2 : ∀ q ∈ B ++ [p], SP q := fun q hq => (hw2 q hq).sp
  have hB1 := Bind_f B C s i be day (by omega) (by omega) hsp
  have hB2 := Bind_f (B ++ [p]) C s i be day (by omega) (by omega) hsp2
  have hB3 := Bind_f (B ++ [p]) C s i p.from_ day (by omega) (by omega) hsp2
  rw [show bindP (B ++ [p]) s i p.from_ day C = (p, 0) by rw [← hps.1, ← hps.2]; exact bind_new hB.ck hon day C] at hB3
  rw [bind_later s i be day C hps (by omega) (fun c hc => by have := hC.on_ c hc; omega)] at hB2
  have hcs := bind_cases B s i be day
  have hbm : (bindP B s i be day C).2 ≠ 5 → CP (bindP B s i be day C).1 := fun hne => by
    rcases hcs with ⟨hb, _⟩ | ⟨hb, _⟩ | ⟨b, hb, _, h1, ⟨h2, h3, _⟩, _⟩
    · rw [hb C] at hne; exact absurd rfl hne
    · rw [hb C]; exact cp0
    · rw [hb C]; exact (hB.wp _ (b2_mem s i day C b h1)).cp
  have hS2 := SameAll_f wp.cp wp.cp
  rw [decide_eq_true rfl] at hS2
  have hlm : ((B ++ [p]).map pg).length = B.length + 1 := by rw [List.length_map, hlB]
  generalize B ++ [p] = D at hPut hCk hB2 hB3 hlm
  clear hw2 hsp hsp2 hlB e1 e2 e3 hon hcs hL hB hC
  refine VS.weak (s1 := ⟨[(5, bool true), (6, .ro {} 14 (B.map pg)), (7, .ro {} 4 (C.map chA)), (8, .ptr 0 4 0 0), (9, .ptr 1 14 0 0)], [(0, nB s i be day), (1, .row 14 pty [pg p])], 2⟩) (SW.mk id rfl rfl rfl ⟨.refl _, .refl _, .refl _, .refl _, .refl _, trivial⟩ (haveV.row rfl rfl (haveV.row rfl rfl trivial))) ?_
  refine VS.cut T_ok mixed rfl ?_
  ((repeat ((conv => whnf); (first | (refine As.pre ?_; first | refine As.mk rfl ?_) | (refine LetV.pre ?_; first | refine LetV.mk (.agg _) rfl ?_) | (refine Ck.pre ?_; first | refine Ck.mk rfl ?_) | (refine CallN.pre ?_; first | refine CallN.pure hPut rfl rfl ?_)))); (try (conv => whnf)))
  clear hPut
  refine VS.cut T_ok mixed rfl ?_
  ((repeat ((conv => whnf); (first | (refine As.pre ?_; first | refine As.mk rfl ?_) | (refine LetI.pre ?_; first | refine LetI.wrap (by omega) (by omega) ?_ | refine LetI.mk _ rfl ?_) | (refine LetB.pre ?_; first | refine LetB.ff rfl ?_ | refine LetB.bnef (by omega) ?_) | (refine Gd.pre ?_; first | refine Gd.run rfl ?_) | (refine Br.pre ?_; first | refine Br.ff rfl ?_) | (refine Ck.pre ?_; first | refine Ck.mk rfl ?_) | (refine CallN.pre ?_; first | refine CallN.pure hCk rfl rfl ?_)))); (try (conv => whnf)))
  clear hCk
  by_cases hne : (bindP B s i be day C).2 = 5
  · rw [if_pos hne] at hB2
    rw [hne] at hB1
    clear hbm hS2
    generalize (bindP B s i be day C).1 = u at hB1
    refine VS.cut T_ok mixed rfl ?_
    ((repeat ((conv => whnf); (first | (refine LetN.pre ?_; first | ((conv => arg 1; whnf); refine LetN.mk ?_)) | (refine As.pre ?_; first | refine As.mk rfl ?_) | (refine LetV.pre ?_; first | refine LetV.mk (.sc (.int _ _)) rfl ?_) | (refine Ck.pre ?_; first | refine Ck.mk rfl ?_) | (refine LetL.pre ?_; first | refine LetL.mk [_] rfl ?_) | (refine CallN.pre ?_; first | refine CallN.pure hB1 rfl rfl ?_)))); (try (conv => whnf)))
    refine VS.cut T_ok mixed rfl ?_
    ((repeat ((conv => whnf); (first | (refine LetN.pre ?_; first | ((conv => arg 1; whnf); refine LetN.mk ?_)) | (refine As.pre ?_; first | refine As.mk rfl ?_) | (refine LetV.pre ?_; first | refine LetV.mk (.sc (.int _ _)) rfl ?_) | (refine Ck.pre ?_; first | refine Ck.mk rfl ?_) | (refine LetL.pre ?_; first | refine LetL.mk [_] rfl ?_) | (refine CallN.pre ?_; first | refine CallN.pure hB2 rfl rfl ?_)))); (try (conv => whnf)))
    refine VS.of_V T_ok mixed rfl ?_
    ((repeat ((conv => whnf); (first | (refine As.pre ?_; first | refine As.mk rfl ?_) | (refine LetB.pre ?_; first | refine LetB.tt rfl ?_) | (refine Gd.pre ?_; first | refine Gd.run rfl ?_) | (refine Br.pre ?_; first | refine Br.tt rfl ?_) | (refine Ck.pre ?_; first | refine Ck.mk rfl ?_)))); (try (conv => whnf)))
    exact ⟨⟨[(4, bool true)], [], 0⟩, SW.fr0 (Nat.zero_le _) rfl ⟨.refl _, trivial⟩, .inl rfl, ⟨_, rfl, rfl⟩, trivial⟩
  · rw [if_neg hne] at hB2
    have hS1 := SameAll_f (hbm hne) (hbm hne)
    rw [decide_eq_true rfl] at hS1
    clear hbm
    generalize (bindP B s i be day C).1 = u at hB1 hB2 hS1
    generalize (bindP B s i be day C).2 = e at hB1 hB2 hne
    refine VS.cut T_ok mixed rfl ?_
    ((repeat ((conv => whnf); (first | (refine LetN.pre ?_; first | ((conv => arg 1; whnf); refine LetN.mk ?_)) | (refine As.pre ?_; first | refine As.mk rfl ?_) | (refine LetV.pre ?_; first | refine LetV.mk (.sc (.int _ _)) rfl ?_) | (refine Ck.pre ?_; first | refine Ck.mk rfl ?_) | (refine LetL.pre ?_; first | refine LetL.mk [_] rfl ?_) | (refine CallN.pre ?_; first | refine CallN.pure hB1 rfl rfl ?_)))); (try (conv => whnf)))
    refine VS.cut T_ok mixed rfl ?_
    ((repeat ((conv => whnf); (first | (refine LetN.pre ?_; first | ((conv => arg 1; whnf); refine LetN.mk ?_)) | (refine As.pre ?_; first | refine As.mk rfl ?_) | (refine LetV.pre ?_; first | refine LetV.mk (.sc (.int _ _)) rfl ?_) | (refine Ck.pre ?_; first | refine Ck.mk rfl ?_) | (refine LetL.pre ?_; first | refine LetL.mk [_] rfl ?_) | (refine CallN.pre ?_; first | refine CallN.pure hB2 rfl rfl ?_)))); (try (conv => whnf)))
    refine VS.cut T_ok mixed rfl ?_
    ((repeat ((conv => whnf); (first | (refine As.pre ?_; first | refine As.mk rfl ?_) | (refine LetB.pre ?_; first | refine LetB.decf (by omega) ?_) | (refine Br.pre ?_; first | refine Br.ff rfl ?_) | (refine Ck.pre ?_; first | refine Ck.mk rfl ?_)))); (try (conv => whnf)))
    refine VS.cut T_ok mixed rfl ?_
    ((repeat ((conv => whnf); (first | (refine LetN.pre ?_; first | ((conv => arg 1; whnf); refine LetN.mk ?_)) | (refine As.pre ?_; first | refine As.mk rfl ?_) | (refine LetV.pre ?_; first | refine LetV.mk (.sc (.int _ _)) rfl ?_) | (refine Ck.pre ?_; first | refine Ck.mk rfl ?_) | (refine LetL.pre ?_; first | refine LetL.mk [_] rfl ?_) | (refine CallN.pre ?_; first | refine CallN.pure hB3 rfl rfl ?_)))); (try (conv => whnf)))
    refine VS.of_V T_ok mixed rfl ?_
    ((repeat ((conv => whnf); (first | (refine As.pre ?_; first | refine As.mk rfl ?_) | (refine LetV.pre ?_; first | refine LetV.mk (.agg _) rfl ?_) | (refine LetB.pre ?_; first | refine LetB.tt rfl ?_ | refine LetB.dect (by omega) ?_) | (refine Gd.pre ?_; first | refine Gd.run rfl ?_) | (refine Ck.pre ?_; first | refine Ck.mk rfl ?_) | (refine CallN.pre ?_; first | refine CallN.pure hS1 rfl rfl ?_ | refine CallN.pure hS2 rfl rfl ?_)))); (try (conv => whnf)))
    exact ⟨⟨[(4, bool true)], [], 0⟩, SW.fr0 (Nat.zero_le _) rfl ⟨.refl _, trivial⟩, .inl rfl, ⟨_, rfl, rfl⟩, trivial⟩
end Pb
end Go.Proofs.Ytjnmbmdplchfkaa
namespace Go.Proofs.Ytjnmbmdplchfkaa
open Go.Proofs.Ytjnmbmdplchfkaa.Am
set_option maxRecDepth 100000
namespace Pb
/-! ### PublishPrefix -/
theorem bind_cp {B : List Pg} (hB : BK B) (s i be day : Int) (C : List Ch) : CP (bindP B s i be day C).1 := by
  rcases bind_cases B s i be day with ⟨hb, _⟩ | ⟨hb, _⟩ | ⟨b, hb, _, h1, ⟨h2, h3, _⟩, _⟩
  · rw [hb C]; exact cp0
  · rw [hb C]; exact cp0
  · rw [hb C]; exact (hB.wp _ (b2_mem s i day C b h1)).cp
theorem BK.take {B : List Pg} (h : BK B) (k : Nat) : ckB (B.take k) = 0 := ckB_pre (B := B.drop k) (by rw [List.take_append_drop]; exact h.ck)
theorem pre_put {B : List Pg} (h : BK B) {k : Nat} (hk : k < B.length) : putE (B.take k) (B.getD k p0) = 0 ∧ putL (B.take k) (B.getD k p0) = B.take (k + 1) := by
  have e : B.take (k + 1) = B.take k ++ [B.getD k p0] := by
    rw [List.take_succ_eq_append_getElem hk, List.getD_eq_getElem?_getD, List.getElem?_eq_getElem hk]; rfl
  have h1 := h.take (k + 1)
  rw [e] at h1 ⊢
  obtain ⟨a, b⟩ := ckB_snoc h1
  have hl := h.len
  obtain ⟨c, d, _⟩ := putE_ok a (by rw [List.length_take]; omega) b
  exact ⟨c, d⟩
theorem drop_getD {B : List Pg} {k j : Nat} (h : j < (B.drop k).length) : (B.drop k).getD j p0 = B.getD (k + j) p0 := by
  rw [List.getD_eq_getElem?_getD, List.getElem?_drop, List.getD_eq_getElem?_getD]
theorem own_take {B : List Pg} {k : Nat} (h : k < B.length) (s i : Int) : ownP s i (B.take (k + 1)) = ownP s i (B.take k) ++ if (B.getD k p0).school = s ∧ (B.getD k p0).id = i then [B.getD k p0] else [] := by
  unfold ownP
  rw [List.take_succ_eq_append_getElem h, List.filter_append, List.getD_eq_getElem?_getD, List.getElem?_eq_getElem h]
  congr 1
  show List.filter _ [B[k]] = _
  by_cases c : B[k].school = s ∧ B[k].id = i
  · rw [List.filter_cons_of_pos (by simp [c]), List.filter_nil]
    exact (if_pos c).symm
  · rw [List.filter_cons_of_neg (by simpa using c), List.filter_nil]
    exact (if_neg c).symm
abbrev p0S (B : List Pg) (C : List Ch) (s i be day : Int) (k : Nat) : AS := ⟨[(5, bool true), (6, .ro {} 14 (B.map pg)), (7, .ro {} 4 (C.map chA)), (8, .ptr 0 4 0 0), (9, int k), (10, .ro {} 14 ((B.take k).map pg))], [(0, nB s i be day)], 1⟩
abbrev p1S (B : List Pg) (C : List Ch) (s i be day : Int) (k : Nat) (j : Nat) : AS := ⟨[(5, bool true), (6, .ro {} 14 (B.map pg)), (7, .ro {} 4 (C.map chA)), (8, .ptr 0 4 0 0), (10, .ro {} 14 ((B.take (k + j)).map pg)), (44, .ro {} 14 ((B.drop k).map pg)), (45, int (B.drop k).length), (46, int j)], [(0, nB s i be day)], 1⟩
abbrev p2S (B : List Pg) (C : List Ch) (s i be day : Int) : AS := ⟨[(5, bool true), (6, .ro {} 14 (B.map pg)), (7, .ro {} 4 (C.map chA)), (8, .ptr 0 4 0 0), (10, .ro {} 14 (B.map pg))], [(0, nB s i be day)], 1⟩
abbrev p3S (B : List Pg) (C : List Ch) (s i be day : Int) : Nat × List Pg → AS
  | (j, O) => ⟨[(5, bool true), (6, .ro {} 14 (B.map pg)), (7, .ro {} 4 (C.map chA)), (8, .ptr 0 4 0 0), (10, .ro {} 14 (B.map pg)), (15, .slm {} 1 14 0 O.length), (60, .ro {} 14 (B.map pg)), (61, int B.length), (62, int j)], [(0, nB s i be day), (1, .row 14 pty (O.map pg))], 2⟩
abbrev p4S (B : List Pg) (C : List Ch) (s i be day : Int) (O : List Pg) : AS := ⟨[(5, bool true), (6, .ro {} 14 (B.map pg)), (7, .ro {} 4 (C.map chA)), (8, .ptr 0 4 0 0), (10, .ro {} 14 (B.map pg)), (15, .slm {} 1 14 0 O.length)], [(0, nB s i be day), (1, .row 14 pty (O.map pg))], 2⟩
abbrev p5S (B : List Pg) (C : List Ch) (s i be day : Int) (O : List Pg) : AS := ⟨[(5, bool true), (6, .ro {} 14 (B.map pg)), (7, .ro {} 4 (C.map chA)), (8, .ptr 0 4 0 0), (10, .ro {} 14 (B.map pg)), (15, .ro {} 14 (O.map pg))], [(0, nB s i be day)], 2⟩
theorem pfN (s i be day : Int) (O : List Pg) (ok : Nat → Bool) : namesAll ok [(0, nB s i be day), (1, .row 14 pty (O.map pg))] = true := namesAll.row rfl (namesAll.row (pure_pg _) rfl)
theorem pf_frz {x z : Nat} (B : List Pg) (C : List Ch) (s i be day : Int) (O : List Pg) : SW x z (p4S B C s i be day O) (p5S B C s i be day O) := by
  have h := SW.frz (p := x) (n := z) (s := p4S B C s i be day O) [1] ?_ ?_ ?_
  · have e : (⟨frFrz (p4S B C s i be day O).H [1].contains (p4S B C s i be day O).fr, AH.frz (p4S B C s i be day O).H (p4S B C s i be day O).H [1].contains, (p4S B C s i be day O).nx⟩ : AS) = p5S B C s i be day O := by
      refine congr (congr (congrArg AS.mk ?_) ?_) rfl
      · simp [frFrz, AV.frz, AH.get]
        exact List.take_of_length_le (by simp)
      · rfl
    exact e ▸ h
  · simp [rowsOk, AH.get, pure_pg]
  · rfl
  · simp [frFrzOk, AV.frzOk, AH.get]
set_option maxHeartbeats 3200000 in
set_option maxRecDepth 100000 in
open Classical in
theorem prefixLaw_f (c : Case) (h : CaseOk c) (m : Int) (hm : 0 ≤ m ∧ m ≤ 255) : AFun Try.prog 4 0 [csA c, u8' m] [] (bool true) [] := by
  obtain ⟨B, C, s, i, be, day, hB, hC, rs, ri, rb, rd, _, hM⟩ := made_case c h
  clear h
  have hl := hB.len
  have hlC := hC.len
  have hmB : (B.map pg).length = B.length := List.length_map _
  have w1 : m = IntKind.i64.wrap m := (wrap_id (by omega) (by omega)).symm
  have b1 := tmod_bound m (m := (B.length : Int) + 1) (by omega)
  have b2 : 0 ≤ m.tmod ((B.length : Int) + 1) := Int.tmod_nonneg _ hm.1
  obtain ⟨k, hk⟩ : ∃ k : Nat, (k : Int) = m.tmod ((B.length : Int) + 1) := ⟨(m.tmod ((B.length : Int) + 1)).toNat, by omega⟩
  rw [← hk] at b1 b2
  have hq : (k : Int) = m.tmod (((B.map pg).length : Int) + 1) := by rw [hmB]; exact hk
  have hnz : ((((B.map pg).length : Int) + 1) != 0) = true := by rw [hmB]; simp; omega
  have hkl : k ≤ B.length := by omega
  clear hk b2
  refine AFun.of_VS T_ok Try.func4 rfl (Nat.le_of_ble_eq_true rfl) ?_
  refine VS.cut T_ok mixed rfl ?_
  ((repeat ((conv => whnf); (first | (refine LetN.pre ?_; first | ((conv => arg 1; whnf); refine LetN.mk ?_)) | (refine As.pre ?_; first | refine As.mk rfl ?_) | (refine Ck.pre ?_; first | refine Ck.mk rfl ?_)))); (try (conv => whnf)))
  refine VS.cut T_ok mixed rfl ?_
  ((repeat ((conv => whnf); (first | (refine As.pre ?_; first | refine As.mk rfl ?_) | (refine Ck.pre ?_; first | refine Ck.mk rfl ?_) | (refine CallN.pre ?_; first | refine CallN.pure sanity_f rfl rfl ?_)))); (try (conv => whnf)))
  refine VS.cut T_ok mixed rfl ?_
  ((repeat ((conv => whnf); (first | (refine LetN.pre ?_; first | ((conv => arg 1; whnf); refine LetN.mk ?_)) | (refine As.pre ?_; first | refine As.mk rfl ?_) | (refine LetV.pre ?_; first | refine LetV.mk (.agg _) rfl ?_) | (refine Ck.pre ?_; first | refine Ck.mk rfl ?_) | (refine LetL.pre ?_; first | refine LetL.mk [_] rfl ?_) | (refine CallN.pre ?_; first | refine CallN.pure hM rfl rfl ?_)))); (try (conv => whnf)))
  clear hM
  refine VS.cut T_ok mixed rfl ?_
  ((repeat ((conv => whnf); (first | (refine As.pre ?_; first | refine As.mk rfl ?_) | (refine LetI.pre ?_; first | refine LetI.mk (o := none) m w1 ?_ | refine LetI.mk (o := some .rem) (k : Int) hq ?_ | refine LetI.wrap (by omega) (by omega) ?_ | refine LetI.mk _ rfl ?_) | (refine Ck.pre ?_; first | refine Ck.mk rfl ?_)))); (try (conv => whnf)))
  refine VS.cut T_ok mixed rfl ?_
  ((repeat ((conv => whnf); (first | (refine As.pre ?_; first | refine As.mk rfl ?_ | (refine As.mk ?_ ?_; · ((repeat' (refine andT ?_ ?_)) <;> (first | rfl | assumption | exact decide_eq_true (by omega) | exact decide_eq_true (by dsimp only; omega) | exact decide_eq_true (by simp; omega) | (simp; done))))) | (refine LetV.pre ?_; first | refine LetV.mk (.ro _ _ _) rfl ?_) | (refine Ck.pre ?_; first | refine Ck.mk rfl ?_)))); (try (conv => whnf)))
  refine VS.weak (s1 := p0S B C s i be day k) ?sw0 ?_
  case sw0 => exact SW.mk (fun i => i + 1) rfl rfl rfl ⟨.refl _, .refl _, .refl _, .refl _, .refl _, .ro_of (by simp [List.map_take]), trivial⟩ (haveV.row rfl rfl trivial)
  clear hq hnz w1
  have hCk := CheckB_f {} (B.take k) (by rw [List.length_take]; omega) (fun p hp => hB.wp p (List.mem_of_mem_take hp))
  rw [hB.take k] at hCk
  have hmk : ((B.take k).map pg).length = k := by rw [List.length_map, List.length_take]; omega
  refine VS.cut T_ok mixed rfl ?_
  ((repeat ((conv => whnf); (first | (refine As.pre ?_; first | refine As.mk rfl ?_) | (refine LetB.pre ?_; first | refine LetB.ff rfl ?_) | (refine Br.pre ?_; first | refine Br.ff rfl ?_) | (refine Ck.pre ?_; first | refine Ck.mk rfl ?_) | (refine CallN.pre ?_; first | refine CallN.pure hCk rfl rfl ?_)))); (try (conv => whnf)))
  clear hCk
  refine VS.joinN (fun _ : Unit => p2S B C s i be day) (fun _ => True) ?_ ?_
  case refine_1 =>
    refine VS.of_V T_ok mixed rfl ?_
    ((repeat ((conv => whnf); (first | (refine As.pre ?_; first | refine As.mk rfl ?_ | (refine As.mk ?_ ?_; · ((repeat' (refine andT ?_ ?_)) <;> (first | rfl | assumption | exact decide_eq_true (by omega) | exact decide_eq_true (by dsimp only; omega) | exact decide_eq_true (by simp; omega) | (simp; done))))) | (refine LetV.pre ?_; first | refine LetV.mk (.ro _ _ _) rfl ?_) | (refine LetI.pre ?_; first | refine LetI.mk _ rfl ?_) | (refine Ck.pre ?_; first | refine Ck.mk rfl ?_)))); (try (conv => whnf)))
    have hmd : ((B.drop k).map pg).length = (B.drop k).length := List.length_map _
    have hdl : (B.drop k).length = B.length - k := List.length_drop
    refine LoopN.weak (s1 := p1S B C s i be day k 0) ?sw1 ?_
    case sw1 => exact SW.mk id rfl rfl rfl ⟨.refl _, .refl _, .refl _, .refl _, .refl _, .ro_of (by simp [List.map_drop]; exact (List.take_of_length_le (by simp)).symm), VLe2.int (by simp), .refl _, trivial⟩ (haveV.row rfl rfl trivial)
    refine LoopN.ind T_ok mixed (S := p1S B C s i be day k) (fun x => (B.drop k).length - x) (fun x => x ≤ (B.drop k).length) (fun _ => rfl) (fun j hj ih => ?_) 0 (Nat.zero_le _)
    by_cases hlt : j < (B.drop k).length
    case neg =>
      clear ih
      have e : B.take (k + j) = B := List.take_of_length_le (by omega)
      rw [show p1S B C s i be day k j = ⟨[(5, bool true), (6, .ro {} 14 (B.map pg)), (7, .ro {} 4 (C.map chA)), (8, .ptr 0 4 0 0), (10, .ro {} 14 (B.map pg)), (44, .ro {} 14 ((B.drop k).map pg)), (45, int (B.drop k).length), (46, int j)], [(0, nB s i be day)], 1⟩ by unfold p1S; rw [e]]
      ((repeat ((conv => whnf); (first | (refine As.pre ?_; first | refine As.mk rfl ?_) | (refine LetB.pre ?_; first | refine LetB.decf (by omega) ?_) | (refine Br.pre ?_; first | refine Br.ff rfl ?_) | (refine Ck.pre ?_; first | refine Ck.mk rfl ?_)))); (try (conv => whnf)))
      exact ⟨rfl, (), trivial, SW.mk id rfl rfl rfl ⟨.refl _, .refl _, .refl _, .refl _, .refl _, trivial⟩ (haveV.row rfl rfl trivial)⟩
    have hld := ld_pg hlt
    rw [drop_getD hlt] at hld
    have hkj : k + j < B.length := by omega
    have hym := getD_pg hkj
    obtain ⟨e1, e2⟩ := pre_put hB hkj
    have hPut := Put_f (B.take (k + j)) (p := B.getD (k + j) p0) (by rw [List.length_take]; omega) (fun p hp => hB.wp p (List.mem_of_mem_take hp)) (hB.wp _ hym)
    rw [e1, e2] at hPut
    have hnx := ih (j + 1) hlt (by omega)
    clear ih e1 e2 hB hC hym
    have hmk2 : ((B.take (k + j)).map pg).length = k + j := by rw [List.length_map, List.length_take]; omega
    generalize B.getD (k + j) p0 = y at hld hPut
    ((repeat ((conv => whnf); (first | (refine LetN.pre ?_; first | ((conv => arg 1; whnf); refine LetN.mk ?_)) | (refine As.pre ?_; first | refine As.mk rfl ?_ | (refine As.mk ?_ ?_; · ((repeat' (refine andT ?_ ?_)) <;> (first | rfl | assumption | exact decide_eq_true (by omega) | exact decide_eq_true (by dsimp only; omega) | exact decide_eq_true (by simp; omega) | (simp; done))))) | (refine LetV.pre ?_; first | refine LetV.mk (t := 28) _ hld ?_ | refine LetV.mk (.agg _) rfl ?_) | (refine LetI.pre ?_; first | refine LetI.wrap (by omega) (by omega) ?_) | (refine LetB.pre ?_; first | refine LetB.ff rfl ?_ | refine LetB.dect (by omega) ?_) | (refine Br.pre ?_; first | refine Br.tt rfl ?_ | refine Br.ff rfl ?_) | (refine Ck.pre ?_; first | refine Ck.mk rfl ?_) | (refine LetL.pre ?_; first | refine LetL.mk [_] rfl ?_) | (refine CallN.pre ?_; first | refine CallN.pure hPut rfl rfl ?_)))); (try (conv => whnf)))
    refine LoopN.weak ?sw2 hnx
    case sw2 => exact SW.mk id rfl rfl rfl ⟨.refl _, .refl _, .refl _, .refl _, .refl _, .refl _, .refl _, VLe2.int (by omega), trivial⟩ (haveV.row rfl rfl trivial)
  intro _ _
  clear hmk b1 hkl
  clear hm
  refine VS.cut T_ok mixed rfl ?_
  ((repeat ((conv => whnf); (first | (refine As.pre ?_; first | refine As.mk rfl ?_) | (refine Ck.pre ?_; first | refine Ck.mk rfl ?_)))); (try (conv => whnf)))
  refine VS.joinN (fun _ : Unit => p4S B C s i be day (ownP s i B)) (fun _ => True) ?_ ?_
  case refine_1 =>
    refine VS.of_V T_ok mixed rfl ?_
    ((repeat ((conv => whnf); (first | (refine As.pre ?_; first | refine As.mk rfl ?_) | (refine LetI.pre ?_; first | refine LetI.mk _ rfl ?_) | (refine Ck.pre ?_; first | refine Ck.mk rfl ?_)))); (try (conv => whnf)))
    refine LoopN.weak (s1 := p3S B C s i be day (0, [])) ?sw3 ?_
    case sw3 => exact SW.mk id rfl rfl (pfN _ _ _ _ _ _) ⟨.refl _, .refl _, .refl _, .refl _, .refl _, VLe2.nilslm, .refl _, VLe2.int (by rw [hmB]), .refl _, trivial⟩ (haveV.row rfl rfl (haveV.nil (Nat.le_of_ble_eq_true rfl) trivial))
    refine LoopN.ind T_ok mixed (S := p3S B C s i be day) (fun x => B.length - x.1) (fun x => x.1 ≤ B.length ∧ x.2.length ≤ x.1 ∧ x.2 = ownP s i (B.take x.1)) (fun _ => rfl) (fun x hx ih => ?_) (0, []) ⟨Nat.zero_le _, Nat.le_refl _, rfl⟩
    obtain ⟨j, O⟩ := x
    obtain ⟨g1, g3, g2⟩ := hx
    dsimp only at g1 g2 g3
    by_cases hlt : j < B.length
    case neg =>
      clear ih
      rw [List.take_of_length_le (by omega)] at g2
      rw [← g2]
      ((repeat ((conv => whnf); (first | (refine As.pre ?_; first | refine As.mk rfl ?_) | (refine LetB.pre ?_; first | refine LetB.decf (by omega) ?_) | (refine Br.pre ?_; first | refine Br.ff rfl ?_) | (refine Ck.pre ?_; first | refine Ck.mk rfl ?_)))); (try (conv => whnf)))
      exact ⟨rfl, (), trivial, SW.mk id rfl rfl (pfN _ _ _ _ _ _) ⟨.refl _, .refl _, .refl _, .refl _, .refl _, .refl _, trivial⟩ (haveV.row rfl rfl (haveV.row (pure_pg _) rfl trivial))⟩
    have hld := ld_pg hlt
    have htk := own_take hlt s i
    rw [← g2] at htk
    have hnx := fun O' h1 h => ih (j + 1, O') ⟨hlt, h1, h⟩ (by show B.length - (j + 1) < B.length - j; omega)
    dsimp only at hnx
    rw [htk] at hnx
    clear ih hB hC g2 htk
    generalize B.getD j p0 = y at hld hnx
    have hr := room_pg (n := O.length + 1) (by omega)
    have hmO : (O.map pg).length = O.length := List.length_map _
    have a1 := app_pg O y O.length rfl
    have l1 : (O ++ [y]).length = O.length + 1 := by simp
    by_cases c1 : y.school = s
    · by_cases c2 : y.id = i
      · rw [if_pos ⟨c1, c2⟩] at hnx
        replace hnx := hnx _ (by rw [l1]; omega) rfl
        ((repeat ((conv => whnf); (first | (refine LetN.pre ?_; first | ((conv => arg 1; whnf); refine LetN.mk ?_)) | (refine As.pre ?_; first | refine As.mk rfl ?_ | (refine As.mk ?_ ?_; · ((repeat' (refine andT ?_ ?_)) <;> (first | rfl | assumption | exact decide_eq_true (by omega) | exact decide_eq_true (by dsimp only; omega) | exact decide_eq_true (by simp; omega) | (simp; done))))) | (refine LetV.pre ?_; first | refine LetV.mk (t := 28) _ hld ?_ | refine LetV.mk (.sc (.int _ _)) rfl ?_ | refine LetV.mk (.agg _) rfl ?_) | (refine LetI.pre ?_; first | refine LetI.wrap (by omega) (by omega) ?_) | (refine LetB.pre ?_; first | refine LetB.dect (by omega) ?_) | (refine Gd.pre ?_; first | refine Gd.run rfl ?_) | (refine Br.pre ?_; first | refine Br.tt rfl ?_) | (refine Ck.pre ?_; first | refine Ck.mk rfl ?_) | (refine LetL.pre ?_; first | refine LetL.mk (ty := pty) _ a1 ?_ | refine LetL.mk [_] rfl ?_)))); (try (conv => whnf)))
        refine LoopN.weak ?sw4 hnx
        case sw4 => exact SW.mk (fun i => match i with | 1 => 3 | i => i) rfl rfl (pfN _ _ _ _ _ _) ⟨.refl _, .refl _, .refl _, .refl _, .refl _, VLe2.slm_of l1, .refl _, .refl _, VLe2.int (by omega), trivial⟩ (haveV.row rfl rfl (haveV.row (pure_pg _) rfl trivial))
      · rw [if_neg (fun g => c2 g.2), List.append_nil] at hnx
        replace hnx := hnx _ (by omega) rfl
        ((repeat ((conv => whnf); (first | (refine LetN.pre ?_; first | ((conv => arg 1; whnf); refine LetN.mk ?_)) | (refine As.pre ?_; first | refine As.mk rfl ?_ | (refine As.mk ?_ ?_; · ((repeat' (refine andT ?_ ?_)) <;> (first | rfl | assumption | exact decide_eq_true (by omega) | exact decide_eq_true (by dsimp only; omega) | exact decide_eq_true (by simp; omega) | (simp; done))))) | (refine LetV.pre ?_; first | refine LetV.mk (t := 28) _ hld ?_ | refine LetV.mk (.sc (.int _ _)) rfl ?_ | refine LetV.mk (.agg _) rfl ?_) | (refine LetI.pre ?_; first | refine LetI.wrap (by omega) (by omega) ?_) | (refine LetB.pre ?_; first | refine LetB.dect (by omega) ?_ | refine LetB.decf (by omega) ?_) | (refine Gd.pre ?_; first | refine Gd.run rfl ?_) | (refine Br.pre ?_; first | refine Br.tt rfl ?_ | refine Br.ff rfl ?_) | (refine Ck.pre ?_; first | refine Ck.mk rfl ?_) | (refine LetL.pre ?_; first | refine LetL.mk [_] rfl ?_)))); (try (conv => whnf)))
        refine LoopN.weak ?sw5 hnx
        case sw5 => exact SW.mk id rfl rfl (pfN _ _ _ _ _ _) ⟨.refl _, .refl _, .refl _, .refl _, .refl _, .refl _, .refl _, .refl _, VLe2.int (by omega), trivial⟩ (haveV.row rfl rfl (haveV.row (pure_pg _) rfl trivial))
    · rw [if_neg (fun g => c1 g.1), List.append_nil] at hnx
      replace hnx := hnx _ (by omega) rfl
      ((repeat ((conv => whnf); (first | (refine LetN.pre ?_; first | ((conv => arg 1; whnf); refine LetN.mk ?_)) | (refine As.pre ?_; first | refine As.mk rfl ?_ | (refine As.mk ?_ ?_; · ((repeat' (refine andT ?_ ?_)) <;> (first | rfl | assumption | exact decide_eq_true (by omega) | exact decide_eq_true (by dsimp only; omega) | exact decide_eq_true (by simp; omega) | (simp; done))))) | (refine LetV.pre ?_; first | refine LetV.mk (t := 28) _ hld ?_ | refine LetV.mk (.sc (.int _ _)) rfl ?_ | refine LetV.mk (.agg _) rfl ?_) | (refine LetI.pre ?_; first | refine LetI.wrap (by omega) (by omega) ?_) | (refine LetB.pre ?_; first | refine LetB.dect (by omega) ?_ | refine LetB.decf (by omega) ?_) | (refine Gd.pre ?_; first | refine Gd.pass rfl ?_) | (refine Br.pre ?_; first | refine Br.tt rfl ?_ | refine Br.ff rfl ?_) | (refine Ck.pre ?_; first | refine Ck.mk rfl ?_) | (refine LetL.pre ?_; first | refine LetL.mk [_] rfl ?_)))); (try (conv => whnf)))
      refine LoopN.weak ?sw6 hnx
      case sw6 => exact SW.mk id rfl rfl (pfN _ _ _ _ _ _) ⟨.refl _, .refl _, .refl _, .refl _, .refl _, .refl _, .refl _, .refl _, VLe2.int (by omega), trivial⟩ (haveV.row rfl rfl (haveV.row (pure_pg _) rfl trivial))
  intro _ _
  have hS := SameAll_f (bind_cp hB s i be day C) (bind_cp hB s i be day C)
  rw [decide_eq_true rfl] at hS
  have hsp : ∀ q ∈ B, SP q := fun q hq => (hB.wp q hq).sp
  have hB1 := Bind_f B C s i be day (by omega) (by omega) hsp
  have hB2 := Bind_f (ownP s i B) C s i be day (Nat.le_trans (List.length_filter_le _ _) (by omega)) (by omega) (fun q hq => hsp q ((List.mem_filter.1 hq).1))
  rw [own_bind] at hB2
  have hSB := rSameAllB_f {} {} B (by omega) (fun p hp => (hB.wp p hp).cp)
  have hmO : ((ownP s i B).map pg).length = (ownP s i B).length := List.length_map _
  generalize ownP s i B = O at hB2 hmO
  generalize (bindP B s i be day C).1 = u at hB1 hB2 hS
  generalize (bindP B s i be day C).2 = e at hB1 hB2
  clear hsp hB hC
  refine VS.weak (pf_frz B C s i be day O) ?_
  refine VS.cut T_ok mixed rfl ?_
  ((repeat ((conv => whnf); (first | (refine LetN.pre ?_; first | ((conv => arg 1; whnf); refine LetN.mk ?_)) | (refine As.pre ?_; first | refine As.mk rfl ?_) | (refine LetV.pre ?_; first | refine LetV.mk (.sc (.int _ _)) rfl ?_) | (refine Ck.pre ?_; first | refine Ck.mk rfl ?_) | (refine LetL.pre ?_; first | refine LetL.mk [_] rfl ?_) | (refine CallN.pre ?_; first | refine CallN.pure hB1 rfl rfl ?_)))); (try (conv => whnf)))
  refine VS.cut T_ok mixed rfl ?_
  ((repeat ((conv => whnf); (first | (refine LetN.pre ?_; first | ((conv => arg 1; whnf); refine LetN.mk ?_)) | (refine As.pre ?_; first | refine As.mk rfl ?_) | (refine LetV.pre ?_; first | refine LetV.mk (.sc (.int _ _)) rfl ?_) | (refine Ck.pre ?_; first | refine Ck.mk rfl ?_) | (refine LetL.pre ?_; first | refine LetL.mk [_] rfl ?_) | (refine CallN.pre ?_; first | refine CallN.pure hB2 rfl rfl ?_)))); (try (conv => whnf)))
  refine VS.of_V T_ok mixed rfl ?_
  ((repeat ((conv => whnf); (first | (refine As.pre ?_; first | refine As.mk rfl ?_) | (refine LetV.pre ?_; first | refine LetV.mk (.agg _) rfl ?_) | (refine LetB.pre ?_; first | refine LetB.dect (by omega) ?_) | (refine Gd.pre ?_; first | refine Gd.run rfl ?_) | (refine Ck.pre ?_; first | refine Ck.mk rfl ?_) | (refine CallN.pre ?_; first | refine CallN.pure hSB rfl rfl ?_ | refine CallN.pure hS rfl rfl ?_)))); (try (conv => whnf)))
  exact ⟨⟨[(4, bool true)], [], 0⟩, SW.fr0 (Nat.zero_le _) rfl ⟨.refl _, trivial⟩, .inl rfl, ⟨_, rfl, rfl⟩, trivial⟩
end Pb
end Go.Proofs.Ytjnmbmdplchfkaa
namespace Go.Proofs.Ytjnmbmdplchfkaa
open Go.Proofs.Ytjnmbmdplchfkaa.Am
set_option maxRecDepth 100000
namespace Pb
theorem prefix_row (x : CX) (h : CXOk x) (m : Int) (hm : 0 ≤ m ∧ m ≤ 255) : AFun Try.prog 4 0 [cxA x, u8' m] [] (bool true) [] := by
  have h1 := prefixLaw_f (csO x) (csO_ok h) m hm
  rw [csO_eq] at h1
  exact h1
end Pb
end Go.Proofs.Ytjnmbmdplchfkaa
