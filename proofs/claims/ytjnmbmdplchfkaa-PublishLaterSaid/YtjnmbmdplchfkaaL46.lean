/- publish: parts of the proof, DpublishQN DpublishQT. -/
import Derived.Test.YtjnmbmdplchfkaaL45
set_option linter.all false
namespace Go.Proofs.Ytjnmbmdplchfkaa
open Go.Proofs.Ytjnmbmdplchfkaa.Am
set_option maxRecDepth 100000
namespace Pb
/-! ### PublishLater -/
def ltP (q : Pg) (v f : Int) (s i : Int) : Pg := ⟨s, i, v, f, q.name, q.need, q.total, q.own, q.age, q.ex⟩
theorem lt_wp {q : Pg} (h : WP q) (v f s i : Int) : WP (ltP q v f s i) := h.upd rfl rfl rfl rfl rfl rfl
abbrev ltA (q : Pg) (v f s i : Int) : AV := .agg [int s, int i, int v, int f, str q.name, int q.need.kind, int q.need.n, int q.need.min, .ro {} 2 (q.need.set.map coA), .ro {} 5 (q.need.l.map nd), int q.total, int q.own, int q.age, .ro {} 4 (q.ex.map exA)]
abbrev lv (B : List Pg) (s i : Int) : Int := (lastP B s i).1.ver + 1
abbrev lf (B : List Pg) (s i : Int) : Int := max 700 (lastP B s i).1.from_
abbrev l1S (B : List Pg) (C : List Ch) (s i be day : Int) (q : Pg) : Nat × Int × Int → AS
  | (k, v, f) => ⟨[(5, bool true), (6, .ro {} 14 (B.map pg)), (7, .ro {} 4 (C.map chA)), (8, .ptr 0 4 0 0), (9, .ptr 1 14 0 0), (37, .ro {} 14 (B.map pg)), (38, int B.length), (39, int k)], [(0, nB s i be day), (1, .row 14 pty [ltA q v f s i])], 2⟩
abbrev l2S (B : List Pg) (C : List Ch) (s i be day : Int) (q : Pg) (v f : Int) : AS := ⟨[(5, bool true), (6, .ro {} 14 (B.map pg)), (7, .ro {} 4 (C.map chA)), (8, .ptr 0 4 0 0), (9, .ptr 1 14 0 0)], [(0, nB s i be day), (1, .row 14 pty [pg (ltP q v f s i)])], 2⟩
set_option maxHeartbeats 3200000 in
set_option maxRecDepth 100000 in
open Classical in
theorem laterLaw_f (c : Case) (h : CaseOk c) (fl : Fl) (xs : List Int) (hx : xs.length ≤ 9223372036854775807) : AFun Try.prog 3 0 [csA c, .ro fl 1 (xs.map int)] [] (bool true) [] := by
  obtain ⟨B, C, s, i, be, day, hB, hC, rs, ri, rb, rd, _, hM⟩ := made_case c h
  clear h
  obtain ⟨q, ⟨wq, _, _, _, _, wn⟩, hQ⟩ := MadeAll_f fl xs hx
  have hl := hB.len
  have hlC := hC.len
  have hmB : (B.map pg).length = B.length := List.length_map _
  refine AFun.of_VS T_ok Try.func3 rfl (Nat.le_of_ble_eq_true rfl) ?_
  refine VS.cut T_ok mixed rfl ?_
  ((repeat ((conv => whnf); (first | (refine LetN.pre ?_; first | ((conv => arg 1; whnf); refine LetN.mk ?_)) | (refine As.pre ?_; first | refine As.mk rfl ?_) | (refine Ck.pre ?_; first | refine Ck.mk rfl ?_)))); (try (conv => whnf)))
  refine VS.cut T_ok mixed rfl ?_
  ((repeat ((conv => whnf); (first | (refine As.pre ?_; first | refine As.mk rfl ?_) | (refine Ck.pre ?_; first | refine Ck.mk rfl ?_) | (refine CallN.pre ?_; first | refine CallN.pure sanity_f rfl rfl ?_)))); (try (conv => whnf)))
  refine VS.cut T_ok mixed rfl ?_
  ((repeat ((conv => whnf); (first | (refine LetN.pre ?_; first | ((conv => arg 1; whnf); refine LetN.mk ?_)) | (refine As.pre ?_; first | refine As.mk rfl ?_) | (refine LetV.pre ?_; first | refine LetV.mk (.agg _) rfl ?_) | (refine Ck.pre ?_; first | refine Ck.mk rfl ?_) | (refine LetL.pre ?_; first | refine LetL.mk [_] rfl ?_) | (refine CallN.pre ?_; first | refine CallN.pure hM rfl rfl ?_)))); (try (conv => whnf)))
  clear hM
  refine VS.cut T_ok mixed rfl ?_
  ((repeat ((conv => whnf); (first | (refine LetN.pre ?_; first | ((conv => arg 1; whnf); refine LetN.mk ?_)) | (refine As.pre ?_; first | refine As.mk rfl ?_) | (refine Ck.pre ?_; first | refine Ck.mk rfl ?_) | (refine LetL.pre ?_; first | refine LetL.mk [_] rfl ?_) | (refine CallN.pre ?_; first | refine CallN.pure hQ rfl rfl ?_)))); (try (conv => whnf)))
  clear hQ
  refine VS.cut T_ok mixed rfl ?_
  ((repeat ((conv => whnf); (first | (refine LetN.pre ?_; first | ((conv => arg 1; whnf); refine LetN.mk ?_)) | (refine As.pre ?_; first | refine As.mk rfl ?_) | (refine LetV.pre ?_; first | refine LetV.mk (.sc (.int _ _)) rfl ?_) | (refine Ck.pre ?_; first | refine Ck.drawn (by kernel_rfl) ?_ | refine Ck.mk rfl ?_) | (refine LetL.pre ?_; first | refine LetL.mk [_] rfl ?_)))); (try (conv => whnf)))
  have hL := hB.last s i
  refine VS.joinN (fun _ : Unit => l2S B C s i be day q (lv B s i) (lf B s i)) (fun _ => True) ?_ ?_
  case refine_1 =>
    refine VS.of_V T_ok mixed rfl ?_
    ((repeat ((conv => whnf); (first | (refine As.pre ?_; first | refine As.mk rfl ?_) | (refine LetI.pre ?_; first | refine LetI.mk _ rfl ?_) | (refine Ck.pre ?_; first | refine Ck.mk rfl ?_)))); (try (conv => whnf)))
    refine LoopN.weak (s1 := l1S B C s i be day q (0, 1, 700)) ?sw0 ?_
    case sw0 => exact SW.mk (fun i => i + 1) rfl rfl rfl ⟨.refl _, .refl _, .refl _, .refl _, .refl _, .refl _, VLe2.int (by rw [hmB]), .refl _, trivial⟩ (haveV.row rfl rfl (haveV.row rfl rfl trivial))
    refine LoopN.ind T_ok mixed (S := l1S B C s i be day q) (fun x => B.length - x.1) (fun x => x.1 ≤ B.length ∧ x.2.1 = lv (B.take x.1) s i ∧ x.2.2 = lf (B.take x.1) s i) (fun _ => rfl) (fun x hx ih => ?_) (0, 1, 700) ⟨Nat.zero_le _, rfl, rfl⟩
    obtain ⟨k, v, f⟩ := x
    obtain ⟨g1, g2, g3⟩ := hx
    dsimp only at g1 g2 g3
    by_cases hlt : k < B.length
    case neg =>
      clear ih
      rw [List.take_of_length_le (by omega)] at g2 g3
      rw [← g2, ← g3]
      ((repeat ((conv => whnf); (first | (refine As.pre ?_; first | refine As.mk rfl ?_) | (refine LetB.pre ?_; first | refine LetB.decf (by omega) ?_) | (refine Br.pre ?_; first | refine Br.ff rfl ?_) | (refine Ck.pre ?_; first | refine Ck.mk rfl ?_)))); (try (conv => whnf)))
      exact ⟨rfl, (), trivial, SW.mk id rfl rfl rfl ⟨.refl _, .refl _, .refl _, .refl _, .refl _, trivial⟩ (haveV.row rfl rfl (haveV.row rfl rfl trivial))⟩
    have hld := ld_pg hlt
    have hym := getD_pg hlt
    have hck := ckA_ver (ckB_vers hB.ck _ hym)
    have hvr := hB.ver _ hym
    have hlt2 := last_take hlt s i
    have hnx := fun v' f' h1 h2 => ih (k + 1, v', f') ⟨hlt, h1, h2⟩ (by show B.length - (k + 1) < B.length - k; omega)
    clear ih hL hC hB
    dsimp only at hnx
    unfold lv at hnx g2
    unfold lf at hnx g3
    rw [hlt2] at hnx
    generalize B.getD k p0 = y at hld hck hvr hnx
    generalize lastP (B.take k) s i = la at hnx g2 g3
    unfold lasS at hnx
    clear hlt2 hym
    by_cases c1 : y.school = s
    · by_cases c2 : y.id = i
      · rw [if_pos ⟨c1, c2⟩] at hnx
        replace hnx := hnx _ _ rfl rfl
        dsimp only at hnx
        clear g2 g3
        ((repeat ((conv => whnf); (first | (refine LetN.pre ?_; first | ((conv => arg 1; whnf); refine LetN.mk ?_)) | (refine As.pre ?_; first | refine As.mk rfl ?_ | (refine As.mk ?_ ?_; · ((repeat' (refine andT ?_ ?_)) <;> (first | rfl | assumption | exact decide_eq_true (by omega) | exact decide_eq_true (by dsimp only; omega) | exact decide_eq_true (by simp; omega) | (simp; done))))) | (refine LetV.pre ?_; first | refine LetV.mk (t := 28) _ hld ?_ | refine LetV.mk (.sc (.int _ _)) rfl ?_ | refine LetV.mk (.agg _) rfl ?_) | (refine LetI.pre ?_; first | refine LetI.wrap (by omega) (by omega) ?_ | refine LetI.mk _ rfl ?_) | (refine LetB.pre ?_; first | refine LetB.dect (by omega) ?_) | (refine Gd.pre ?_; first | refine Gd.run rfl ?_) | (refine Br.pre ?_; first | refine Br.tt rfl ?_) | (refine Ck.pre ?_; first | refine Ck.drawn (by kernel_rfl) ?_ | refine Ck.mk rfl ?_) | (refine LetL.pre ?_; first | refine LetL.mk [_] rfl ?_)))); (try (conv => whnf)))
        refine LoopN.weak ?sw1 hnx
        case sw1 => exact SW.mk id rfl rfl rfl ⟨.refl _, .refl _, .refl _, .refl _, .refl _, .refl _, .refl _, VLe2.int (by omega), trivial⟩ (haveV.row rfl rfl (haveV.row rfl rfl trivial))
      · rw [if_neg (fun g => c2 g.2)] at hnx
        replace hnx := hnx _ _ g2 g3
        clear g2 g3
        ((repeat ((conv => whnf); (first | (refine LetN.pre ?_; first | ((conv => arg 1; whnf); refine LetN.mk ?_)) | (refine As.pre ?_; first | refine As.mk rfl ?_ | (refine As.mk ?_ ?_; · ((repeat' (refine andT ?_ ?_)) <;> (first | rfl | assumption | exact decide_eq_true (by omega) | exact decide_eq_true (by dsimp only; omega) | exact decide_eq_true (by simp; omega) | (simp; done))))) | (refine LetV.pre ?_; first | refine LetV.mk (t := 28) _ hld ?_ | refine LetV.mk (.sc (.int _ _)) rfl ?_ | refine LetV.mk (.agg _) rfl ?_) | (refine LetI.pre ?_; first | refine LetI.wrap (by omega) (by omega) ?_) | (refine LetB.pre ?_; first | refine LetB.dect (by omega) ?_ | refine LetB.decf (by omega) ?_) | (refine Gd.pre ?_; first | refine Gd.run rfl ?_) | (refine Br.pre ?_; first | refine Br.tt rfl ?_ | refine Br.ff rfl ?_) | (refine Ck.pre ?_; first | refine Ck.mk rfl ?_) | (refine LetL.pre ?_; first | refine LetL.mk [_] rfl ?_)))); (try (conv => whnf)))
        refine LoopN.weak ?sw2 hnx
        case sw2 => exact SW.mk id rfl rfl rfl ⟨.refl _, .refl _, .refl _, .refl _, .refl _, .refl _, .refl _, VLe2.int (by omega), trivial⟩ (haveV.row rfl rfl (haveV.row rfl rfl trivial))
    · rw [if_neg (fun g => c1 g.1)] at hnx
      replace hnx := hnx _ _ g2 g3
      clear g2 g3
      ((repeat ((conv => whnf); (first | (refine LetN.pre ?_; first | ((conv => arg 1; whnf); refine LetN.mk ?_)) | (refine As.pre ?_; first | refine As.mk rfl ?_ | (refine As.mk ?_ ?_; · ((repeat' (refine andT ?_ ?_)) <;> (first | rfl | assumption | exact decide_eq_true (by omega) | exact decide_eq_true (by dsimp only; omega) | exact decide_eq_true (by simp; omega) | (simp; done))))) | (refine LetV.pre ?_; first | refine LetV.mk (t := 28) _ hld ?_ | refine LetV.mk (.sc (.int _ _)) rfl ?_ | refine LetV.mk (.agg _) rfl ?_) | (refine LetI.pre ?_; first | refine LetI.wrap (by omega) (by omega) ?_) | (refine LetB.pre ?_; first | refine LetB.dect (by omega) ?_ | refine LetB.decf (by omega) ?_) | (refine Gd.pre ?_; first | refine Gd.pass rfl ?_) | (refine Br.pre ?_; first | refine Br.tt rfl ?_ | refine Br.ff rfl ?_) | (refine Ck.pre ?_; first | refine Ck.mk rfl ?_) | (refine LetL.pre ?_; first | refine LetL.mk [_] rfl ?_)))); (try (conv => whnf)))
      refine LoopN.weak ?sw3 hnx
      case sw3 => exact SW.mk id rfl rfl rfl ⟨.refl _, .refl _, .refl _, .refl _, .refl _, .refl _, .refl _, VLe2.int (by omega), trivial⟩ (haveV.row rfl rfl (haveV.row rfl rfl trivial))
  intro _ _
  obtain ⟨p, hp⟩ : ∃ p, p = ltP q (lv B s i) (lf B s i) s i := ⟨_, rfl⟩
  have wp : WP p := by rw [hp]; exact lt_wp wq _ _ _ _
  have hps : p.school = s ∧ p.id = i := by rw [hp]; exact ⟨rfl, rfl⟩
  have hpf : 700 ≤ p.from_ ∧ p.from_ ≤ 100000 := by rw [hp]; show 700 ≤ max 700 (lastP B s i).1.from_ ∧ max 700 (lastP B s i).1.from_ ≤ 100000; omega
  have hon : on1 B p = 0 := by
    have e1 : p.ver = (lastP B s i).1.ver + 1 := by rw [hp]; rfl
    have e2 : (lastP B s i).1.from_ ≤ p.from_ := by rw [hp]; show _ ≤ max 700 (lastP B s i).1.from_; omega
    refine on1_ok (ckA_ok ?_ ?_ ?_ ?_ ?_) ?_ ?_
    · rw [hps.1]; omega
    · rw [hps.2]; omega
    · omega
    · omega
    · rw [hp]; exact wn
    · rw [hps.1, hps.2]; exact e1
    · rw [hps.1, hps.2]; exact e2
  show VS _ _ _ _ ⟨[(5, bool true), (6, .ro {} 14 (B.map pg)), (7, .ro {} 4 (C.map chA)), (8, .ptr 0 4 0 0), (9, .ptr 1 14 0 0)], [(0, nB s i be day), (1, .row 14 pty [pg (ltP q (lv B s i) (lf B s i) s i)])], 2⟩ _
  rw [← hp]
  clear hp wq wn
  obtain ⟨e1, e2, e3⟩ := putE_ok hB.ck (by omega) hon
  have hPut := Put_f B (p := p) (by omega) hB.wp wp
  rw [e1, e2] at hPut
  have hw2 : ∀ x ∈ B ++ [p], WP x := fun x hx => by
    rcases List.mem_append.1 hx with g | g
    · exact hB.wp x g
    · rw [List.mem_singleton.1 g]; exact wp
  have hlB : (B ++ [p]).length = B.length + 1 := by simp
  have hCk := CheckB_f {} (B ++ [p]) (by omega) hw2
  rw [e3] at hCk
  have hsp : ∀ q ∈ B, SP q := fun q hq => (hB.wp q hq).sp
  have hsp2 : ∀ q ∈ B ++ [p], SP q := fun q hq => (hw2 q hq).sp
  have hB1 := Bind_f B C s i be day (by omega) (by omega) hsp
  have hB2 := Bind_f (B ++ [p]) C s i be day (by omega) (by omega) hsp2
  have hB3 := Bind_f (B ++ [p]) C s i p.from_ day (by omega) (by omega) hsp2
  rw [show bindP (B ++ [p]) s i p.from_ day C = (p, 0) by rw [← hps.1, ← hps.2]; exact bind_new hB.ck hon day C] at hB3
  rw [bind_later s i be day C hps (by omega) (fun c hc => by have := hC.on_ c hc; omega)] at hB2
  have hcs := bind_cases B s i be day
  have hbm : (bindP B s i be day C).2 ≠ 5 → CP (bindP B s i be day C).1 := fun hne => by
    rcases hcs with ⟨hb, _⟩ | ⟨hb, _⟩ | ⟨b, hb, _, h1, ⟨h2, h3, _⟩, _⟩
    · rw [hb C] at hne; exact absurd rfl hne
    · rw [hb C]; exact cp0
    · rw [hb C]; exact (hB.wp _ (b2_mem s i day C b h1)).cp
  have hS2 := SameAll_f wp.cp wp.cp
  rw [decide_eq_true rfl] at hS2
  have hlm : ((B ++ [p]).map pg).length = B.length + 1 := by rw [List.length_map, hlB]
  generalize B ++ [p] = D at hPut hCk hB2 hB3 hlm
  clear hw2 hsp hsp2 hlB e1 e2 e3 hon hcs hL hB hC
  refine VS.weak (s1 := ⟨[(5, bool true), (6, .ro {} 14 (B.map pg)), (7, .ro {} 4 (C.map chA)), (8, .ptr 0 4 0 0), (9, .ptr 1 14 0 0)], [(0, nB s i be day), (1, .row 14 pty [pg p])], 2⟩) (SW.mk id rfl rfl rfl ⟨.refl _, .refl _, .refl _, .refl _, .refl _, trivial⟩ (haveV.row rfl rfl (haveV.row rfl rfl trivial))) ?_
  refine VS.cut T_ok mixed rfl ?_
  ((repeat ((conv => whnf); (first | (refine As.pre ?_; first | refine As.mk rfl ?_) | (refine LetV.pre ?_; first | refine LetV.mk (.agg _) rfl ?_) | (refine Ck.pre ?_; first | refine Ck.mk rfl ?_) | (refine CallN.pre ?_; first | refine CallN.pure hPut rfl rfl ?_)))); (try (conv => whnf)))
  clear hPut
  refine VS.cut T_ok mixed rfl ?_
  ((repeat ((conv => whnf); (first | (refine As.pre ?_; first | refine As.mk rfl ?_) | (refine LetI.pre ?_; first | refine LetI.wrap (by omega) (by omega) ?_ | refine LetI.mk _ rfl ?_) | (refine LetB.pre ?_; first | refine LetB.ff rfl ?_ | refine LetB.bnef (by omega) ?_) | (refine Gd.pre ?_; first | refine Gd.run rfl ?_) | (refine Br.pre ?_; first | refine Br.ff rfl ?_) | (refine Ck.pre ?_; first | refine Ck.mk rfl ?_) | (refine CallN.pre ?_; first | refine CallN.pure hCk rfl rfl ?_)))); (try (conv => whnf)))
  clear hCk
  by_cases hne : (bindP B s i be day C).2 = 5
  · rw [if_pos hne] at hB2
    rw [hne] at hB1
    clear hbm hS2
    generalize (bindP B s i be day C).1 = u at hB1
    refine VS.cut T_ok mixed rfl ?_
    ((repeat ((conv => whnf); (first | (refine LetN.pre ?_; first | ((conv => arg 1; whnf); refine LetN.mk ?_)) | (refine As.pre ?_; first | refine As.mk rfl ?_) | (refine LetV.pre ?_; first | refine LetV.mk (.sc (.int _ _)) rfl ?_) | (refine Ck.pre ?_; first | refine Ck.mk rfl ?_) | (refine LetL.pre ?_; first | refine LetL.mk [_] rfl ?_) | (refine CallN.pre ?_; first | refine CallN.pure hB1 rfl rfl ?_)))); (try (conv => whnf)))
    refine VS.cut T_ok mixed rfl ?_
    ((repeat ((conv => whnf); (first | (refine LetN.pre ?_; first | ((conv => arg 1; whnf); refine LetN.mk ?_)) | (refine As.pre ?_; first | refine As.mk rfl ?_) | (refine LetV.pre ?_; first | refine LetV.mk (.sc (.int _ _)) rfl ?_) | (refine Ck.pre ?_; first | refine Ck.mk rfl ?_) | (refine LetL.pre ?_; first | refine LetL.mk [_] rfl ?_) | (refine CallN.pre ?_; first | refine CallN.pure hB2 rfl rfl ?_)))); (try (conv => whnf)))
    refine VS.of_V T_ok mixed rfl ?_
    ((repeat ((conv => whnf); (first | (refine As.pre ?_; first | refine As.mk rfl ?_) | (refine LetB.pre ?_; first | refine LetB.tt rfl ?_) | (refine Gd.pre ?_; first | refine Gd.run rfl ?_) | (refine Br.pre ?_; first | refine Br.tt rfl ?_) | (refine Ck.pre ?_; first | refine Ck.mk rfl ?_)))); (try (conv => whnf)))
    exact ⟨⟨[(4, bool true)], [], 0⟩, SW.fr0 (Nat.zero_le _) rfl ⟨.refl _, trivial⟩, .inl rfl, ⟨_, rfl, rfl⟩, trivial⟩
  · rw [if_neg hne] at hB2
    have hS1 := SameAll_f (hbm hne) (hbm hne)
    rw [decide_eq_true rfl] at hS1
    clear hbm
    generalize (bindP B s i be day C).1 = u at hB1 hB2 hS1
    generalize (bindP B s i be day C).2 = e at hB1 hB2 hne
    refine VS.cut T_ok mixed rfl ?_
    ((repeat ((conv => whnf); (first | (refine LetN.pre ?_; first | ((conv => arg 1; whnf); refine LetN.mk ?_)) | (refine As.pre ?_; first | refine As.mk rfl ?_) | (refine LetV.pre ?_; first | refine LetV.mk (.sc (.int _ _)) rfl ?_) | (refine Ck.pre ?_; first | refine Ck.mk rfl ?_) | (refine LetL.pre ?_; first | refine LetL.mk [_] rfl ?_) | (refine CallN.pre ?_; first | refine CallN.pure hB1 rfl rfl ?_)))); (try (conv => whnf)))
    refine VS.cut T_ok mixed rfl ?_
    ((repeat ((conv => whnf); (first | (refine LetN.pre ?_; first | ((conv => arg 1; whnf); refine LetN.mk ?_)) | (refine As.pre ?_; first | refine As.mk rfl ?_) | (refine LetV.pre ?_; first | refine LetV.mk (.sc (.int _ _)) rfl ?_) | (refine Ck.pre ?_; first | refine Ck.mk rfl ?_) | (refine LetL.pre ?_; first | refine LetL.mk [_] rfl ?_) | (refine CallN.pre ?_; first | refine CallN.pure hB2 rfl rfl ?_)))); (try (conv => whnf)))
    refine VS.cut T_ok mixed rfl ?_
    ((repeat ((conv => whnf); (first | (refine As.pre ?_; first | refine As.mk rfl ?_) | (refine LetB.pre ?_; first | refine LetB.decf (by omega) ?_) | (refine Br.pre ?_; first | refine Br.ff rfl ?_) | (refine Ck.pre ?_; first | refine Ck.mk rfl ?_)))); (try (conv => whnf)))
    refine VS.cut T_ok mixed rfl ?_
    ((repeat ((conv => whnf); (first | (refine LetN.pre ?_; first | ((conv => arg 1; whnf); refine LetN.mk ?_)) | (refine As.pre ?_; first | refine As.mk rfl ?_) | (refine LetV.pre ?_; first | refine LetV.mk (.sc (.int _ _)) rfl ?_) | (refine Ck.pre ?_; first | refine Ck.mk rfl ?_) | (refine LetL.pre ?_; first | refine LetL.mk [_] rfl ?_) | (refine CallN.pre ?_; first | refine CallN.pure hB3 rfl rfl ?_)))); (try (conv => whnf)))
    refine VS.of_V T_ok mixed rfl ?_
    ((repeat ((conv => whnf); (first | (refine As.pre ?_; first | refine As.mk rfl ?_) | (refine LetV.pre ?_; first | refine LetV.mk (.agg _) rfl ?_) | (refine LetB.pre ?_; first | refine LetB.tt rfl ?_ | refine LetB.dect (by omega) ?_) | (refine Gd.pre ?_; first | refine Gd.run rfl ?_) | (refine Ck.pre ?_; first | refine Ck.mk rfl ?_) | (refine CallN.pre ?_; first | refine CallN.pure hS1 rfl rfl ?_ | refine CallN.pure hS2 rfl rfl ?_)))); (try (conv => whnf)))
    exact ⟨⟨[(4, bool true)], [], 0⟩, SW.fr0 (Nat.zero_le _) rfl ⟨.refl _, trivial⟩, .inl rfl, ⟨_, rfl, rfl⟩, trivial⟩
end Pb
end Go.Proofs.Ytjnmbmdplchfkaa
namespace Go.Proofs.Ytjnmbmdplchfkaa
open Go.Proofs.Ytjnmbmdplchfkaa.Am
set_option maxRecDepth 100000
namespace Pb
theorem later_row (x : CX) (h : CXOk x) (xs : List Int) (hx : xs.length ≤ 9223372036854775807) : AFun Try.prog 3 0 [cxA x, .ro {} 1 (xs.map int)] [] (bool true) [] := by
  have h1 := laterLaw_f (csO x) (csO_ok h) {} xs hx
  rw [csO_eq] at h1
  exact h1
end Pb
end Go.Proofs.Ytjnmbmdplchfkaa
