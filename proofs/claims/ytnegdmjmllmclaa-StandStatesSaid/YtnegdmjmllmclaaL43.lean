/- stand: parts of the proof, DstandSF DstandSG DstandLK DstandLL DstandLM DstandLN DstandLE DstandSH. -/
import Derived.Test.YtnegdmjmllmclaaL42
import Derived.Test.YtnegdmjmllmclaaL41
set_option linter.all false
namespace Go.Proofs.Ytnegdmjmllmclaa
open Go.Proofs.Ytnegdmjmllmclaa.Am
set_option maxRecDepth 100000
namespace En
/-! ### How a student stands -/
def stdS (q : Int × Int) (x : Int) : Int := if q.2 ≤ q.1 then 1 else if x ≥ 2 then 3 else 2
/-- The states from the first term on. -/
def stdL (l : List E) (s : Sc.Scl) (st a f : Int) : Nat → Int
  | 0 => 0
  | k + 1 => stdS (crP s (grdP l st a (f + k))) (stdL l s st a f k)
abbrev fstP (l : List E) (st a : Int) : Int := max (minP (trmP l st a)) 0
def stdP (l : List E) (s : Sc.Scl) (st a t : Int) : Int :=
  if trmP l st a = [] ∨ endP t a = false ∨ minP (trmP l st a) > t then 0 else stdL l s st a (fstP l st a) (t - fstP l st a + 1).toNat
abbrev snS (rec : AV) (f : Int) (n : Nat) : Nat × Int → AS
  | (k, x) => ⟨[(11, .ptr 0 6 0 0), (12, int f), (15, int x), (50, int n), (51, int k)], [(0, .row 6 rty [rec])], 1⟩
set_option maxHeartbeats 1600000 in
set_option maxRecDepth 100000 in
theorem Standing_f (l : List E) (s : Sc.Scl) (st a t : Int) (hl : l.length < 40) (ho : ∀ e ∈ l, Dt.okW e.on_) : AFun Try.prog 17 0 [.ro {} 15 (l.map en), Sc.scA s, int st, int a, int t] [] (int (stdP l s st a t)) [] := by
  have hT := Terms_f l st a {} (by omega) ho
  have hE := ended_f l s st a t
  refine AFun.of_W T_ok mixed Try.func17 rfl (Nat.le_of_ble_eq_true rfl) rfl ?_
  unfold stdP fstP
  by_cases h0 : trmP l st a = []
  · rw [if_pos (.inl h0)]
    rw [decide_eq_false (fun h => h h0)] at hT
    ((repeat ((conv => whnf); (first | (refine LetN.pre ?_; first | ((conv => arg 1; whnf); refine LetN.mk ?_)) | (refine As.pre ?_; first | refine As.mk rfl ?_) | (refine LetV.pre ?_; first | refine LetV.mk (.agg _) rfl ?_) | (refine Gd.pre ?_; first | refine Gd.pass rfl ?_) | (refine Br.pre ?_; first | refine Br.tt rfl ?_) | (refine Ck.pre ?_; first | refine Ck.mk rfl ?_) | (refine LetL.pre ?_; first | refine LetL.mk (ty := rty) [.agg [_, _, _, _, _, _]] rfl ?_) | (refine CallN.pre ?_; first | refine CallN.pure hT rfl rfl ?_)))); (try (conv => whnf)))
    exact ⟨.inl rfl, ⟨_, rfl, rfl⟩, trivial⟩
  rw [decide_eq_true h0] at hT
  generalize hmn : minP (trmP l st a) = mn at hT
  generalize maxP (trmP l st a) = mx at hT
  cases he : endP t a with
  | false =>
    rw [if_pos (.inr (.inl rfl))]
    rw [he] at hE
    ((repeat ((conv => whnf); (first | (refine LetN.pre ?_; first | ((conv => arg 1; whnf); refine LetN.mk ?_)) | (refine As.pre ?_; first | refine As.mk rfl ?_) | (refine LetV.pre ?_; first | refine LetV.mk (.agg _) rfl ?_) | (refine Gd.pre ?_; first | refine Gd.run rfl ?_ | refine Gd.pass rfl ?_) | (refine Br.pre ?_; first | refine Br.tt rfl ?_) | (refine Ck.pre ?_; first | refine Ck.mk rfl ?_) | (refine LetL.pre ?_; first | refine LetL.mk (ty := rty) [.agg [_, _, _, _, _, _]] rfl ?_) | (refine CallN.pre ?_; first | refine CallN.pure hT rfl rfl ?_ | refine CallN.pure hE rfl rfl ?_)))); (try (conv => whnf)))
    exact ⟨.inl rfl, ⟨_, rfl, rfl⟩, trivial⟩
  | true =>
    rw [he] at hE
    have het := of_decide_eq_true he
    by_cases hm : mn > t
    · rw [if_pos (.inr (.inr hm))]
      ((repeat ((conv => whnf); (first | (refine LetN.pre ?_; first | ((conv => arg 1; whnf); refine LetN.mk ?_)) | (refine As.pre ?_; first | refine As.mk rfl ?_) | (refine LetV.pre ?_; first | refine LetV.mk (.agg _) rfl ?_) | (refine LetB.pre ?_; first | refine LetB.dect (by omega) ?_) | (refine Gd.pre ?_; first | refine Gd.run rfl ?_) | (refine Br.pre ?_; first | refine Br.tt rfl ?_) | (refine Ck.pre ?_; first | refine Ck.mk rfl ?_) | (refine LetL.pre ?_; first | refine LetL.mk (ty := rty) [.agg [_, _, _, _, _, _]] rfl ?_) | (refine CallN.pre ?_; first | refine CallN.pure hT rfl rfl ?_ | refine CallN.pure hE rfl rfl ?_)))); (try (conv => whnf)))
      exact ⟨.inl rfl, ⟨_, rfl, rfl⟩, trivial⟩
    rw [if_neg (by rintro (h | h | h); exact h0 h; cases h; exact hm h)]
    obtain ⟨f, hf⟩ : ∃ f, f = max mn 0 := ⟨_, rfl⟩
    rw [← hf]
    obtain ⟨n, hn⟩ : ∃ n, n = (t - f + 1).toNat := ⟨_, rfl⟩
    rw [← hn]
    have hfr : 0 ≤ f ∧ f ≤ t := by omega
    have hmax : f = (if mn < 0 then 0 else mn) := by split <;> omega
    ((repeat ((conv => whnf); (first | (refine LetN.pre ?_; first | ((conv => arg 1; whnf); refine LetN.mk ?_)) | (refine As.pre ?_; first | refine As.mk rfl ?_) | (refine LetV.pre ?_; first | refine LetV.mk (.agg _) rfl ?_) | (refine LetI.pre ?_; first | refine LetI.mk (o := none) f hf ?_ | refine LetI.wrap (by omega) (by omega) ?_) | (refine LetB.pre ?_; first | refine LetB.decf (by omega) ?_) | (refine Gd.pre ?_; first | refine Gd.run rfl ?_) | (refine Br.pre ?_; first | refine Br.ff rfl ?_) | (refine Ck.pre ?_; first | refine Ck.mk rfl ?_) | (refine LetL.pre ?_; first | refine LetL.mk (ty := rty) [.agg [_, _, _, _, _, _]] rfl ?_) | (refine CallN.pre ?_; first | refine CallN.pure hT rfl rfl ?_ | refine CallN.pure hE rfl rfl ?_)))); (try (conv => whnf)))
    refine LoopN.weak (s1 := snS (recA l s st a) f n (0, 0)) ?sw1 ?_
    case sw1 => exact SW.mk (fun _ => 1) rfl rfl rfl ⟨.refl _, VLe2.int (by first | rfl | omega), .refl _, VLe2.int (by omega), .refl _, trivial⟩ (haveV.row rfl rfl trivial)
    clear hT hE hmn hmax
    refine LoopN.ind T_ok mixed (S := snS (recA l s st a) f n) (fun i => n - i.1) (fun i => i.1 ≤ n ∧ i.2 = stdL l s st a f i.1 ∧ 0 ≤ i.2 ∧ i.2 ≤ 3) (fun _ => rfl) (fun i hi ih => ?_) (0, 0) ⟨Nat.zero_le _, rfl, by decide, by decide⟩
    obtain ⟨k, x⟩ := i
    obtain ⟨h1, h2, h3⟩ := hi
    simp only at h1 h2 h3
    by_cases hlt : k < n
    case neg =>
      have : k = n := by omega
      subst this
      clear ih
      rw [← h2]
      ((repeat ((conv => whnf); (first | (refine As.pre ?_; first | refine As.mk rfl ?_) | (refine LetB.pre ?_; first | refine LetB.decf (by omega) ?_) | (refine Br.pre ?_; first | refine Br.ff rfl ?_) | (refine Ck.pre ?_; first | refine Ck.mk rfl ?_)))); (try (conv => whnf)))
      exact ⟨.inl rfl, ⟨_, rfl, rfl⟩, trivial⟩
    have hC := credits_f l s st a (f + k) hl (by omega) ho
    have hx2 : stdL l s st a f (k + 1) = stdS (crP s (grdP l st a (f + k))) x := by rw [stdL, ← h2]
    generalize crP s (grdP l st a (f + k)) = q at hC hx2
    obtain ⟨p, b⟩ := q
    have hfk : f + (k : Int) = IntKind.i64.wrap (f + (k : Int)) := (wrap_id (by omega) (by omega)).symm
    clear h2
    unfold stdS at hx2
    by_cases hc : b ≤ p
    · rw [if_pos hc] at hx2
      have hnx := ih (k + 1, 1) ⟨by show k + 1 ≤ n; omega, hx2.symm, by dsimp only; omega, by dsimp only; omega⟩ (by show n - (k + 1) < n - k; omega)
      clear ih hx2
      ((repeat ((conv => whnf); (first | (refine As.pre ?_; first | refine As.mk rfl ?_) | (refine LetV.pre ?_; first | refine LetV.mk (.agg _) rfl ?_) | (refine LetI.pre ?_; first | refine LetI.mk (o := some .add) (f + (k : Int)) hfk ?_ | refine LetI.wrap (by omega) (by omega) ?_) | (refine LetB.pre ?_; first | refine LetB.dect (by omega) ?_) | (refine Br.pre ?_; first | refine Br.tt rfl ?_) | (refine Ck.pre ?_; first | refine Ck.mk rfl ?_) | (refine CallN.pre ?_; first | refine CallN.pure hC rfl rfl ?_)))); (try (conv => whnf)))
      refine LoopN.weak ?sw2 hnx
      case sw2 => exact SW.mk id rfl rfl rfl ⟨.refl _, .refl _, .refl _, .refl _, VLe2.int (by omega), trivial⟩ (haveV.row rfl rfl trivial)
    · rw [if_neg hc] at hx2
      by_cases hw : x ≥ 2
      · rw [if_pos hw] at hx2
        have hnx := ih (k + 1, 3) ⟨by show k + 1 ≤ n; omega, hx2.symm, by dsimp only; omega, by dsimp only; omega⟩ (by show n - (k + 1) < n - k; omega)
        clear ih hx2
        ((repeat ((conv => whnf); (first | (refine As.pre ?_; first | refine As.mk rfl ?_) | (refine LetV.pre ?_; first | refine LetV.mk (.agg _) rfl ?_) | (refine LetI.pre ?_; first | refine LetI.mk (o := some .add) (f + (k : Int)) hfk ?_ | refine LetI.wrap (by omega) (by omega) ?_) | (refine LetB.pre ?_; first | refine LetB.dect (by omega) ?_ | refine LetB.decf (by omega) ?_) | (refine Br.pre ?_; first | refine Br.tt rfl ?_ | refine Br.ff rfl ?_) | (refine Ck.pre ?_; first | refine Ck.mk rfl ?_) | (refine CallN.pre ?_; first | refine CallN.pure hC rfl rfl ?_)))); (try (conv => whnf)))
        refine LoopN.weak ?sw3 hnx
        case sw3 => exact SW.mk id rfl rfl rfl ⟨.refl _, .refl _, .refl _, .refl _, VLe2.int (by omega), trivial⟩ (haveV.row rfl rfl trivial)
      · rw [if_neg hw] at hx2
        have hnx := ih (k + 1, 2) ⟨by show k + 1 ≤ n; omega, hx2.symm, by dsimp only; omega, by dsimp only; omega⟩ (by show n - (k + 1) < n - k; omega)
        clear ih hx2
        ((repeat ((conv => whnf); (first | (refine As.pre ?_; first | refine As.mk rfl ?_) | (refine LetV.pre ?_; first | refine LetV.mk (.agg _) rfl ?_) | (refine LetI.pre ?_; first | refine LetI.mk (o := some .add) (f + (k : Int)) hfk ?_ | refine LetI.wrap (by omega) (by omega) ?_) | (refine LetB.pre ?_; first | refine LetB.dect (by omega) ?_ | refine LetB.decf (by omega) ?_) | (refine Br.pre ?_; first | refine Br.tt rfl ?_ | refine Br.ff rfl ?_) | (refine Ck.pre ?_; first | refine Ck.mk rfl ?_) | (refine CallN.pre ?_; first | refine CallN.pure hC rfl rfl ?_)))); (try (conv => whnf)))
        refine LoopN.weak ?sw4 hnx
        case sw4 => exact SW.mk id rfl rfl rfl ⟨.refl _, .refl _, .refl _, .refl _, VLe2.int (by omega), trivial⟩ (haveV.row rfl rfl trivial)
theorem std_end {l : List E} {s : Sc.Scl} {st a t : Int} (h : stdP l s st a t = 1) : 0 ≤ t ∧ t ≤ 1000 := by
  unfold stdP at h
  split at h
  · cases h
  · rename_i hn
    have : endP t a = true := by
      cases he : endP t a with
      | true => rfl
      | false => exact absurd (.inr (.inl he)) hn
    have := of_decide_eq_true this
    omega
def stiP (l : List E) (s : Sc.Scl) (st a t : Int) : Bool := decide (stdP l s st a t = 1 ∧ 20 ≤ (crP s (grdP l st a t)).1)
set_option maxRecDepth 100000 in
theorem Stipend_f (l : List E) (s : Sc.Scl) (st a t : Int) (hl : l.length < 40) (ho : ∀ e ∈ l, Dt.okW e.on_) : AFun Try.prog 19 0 [.ro {} 15 (l.map en), Sc.scA s, int st, int a, int t] [] (bool (stiP l s st a t)) [] := by
  have hS := Standing_f l s st a t hl ho
  refine AFun.of_W T_ok mixed Try.func19 rfl (Nat.le_of_ble_eq_true rfl) rfl ?_
  unfold stiP
  by_cases h1 : stdP l s st a t = 1
  · have hC := credits_f l s st a t hl (std_end h1) ho
    rw [h1] at hS
    generalize crP s (grdP l st a t) = q at hC ⊢
    obtain ⟨p, f⟩ := q
    have hd : decide (stdP l s st a t = 1 ∧ 20 ≤ p) = decide (p ≥ 20) := by rw [h1]; simp
    rw [hd]
    ((repeat ((conv => whnf); (first | (refine LetN.pre ?_; first | ((conv => arg 1; whnf); refine LetN.mk ?_)) | (refine As.pre ?_; first | refine As.mk rfl ?_) | (refine LetV.pre ?_; first | refine LetV.mk (.agg _) rfl ?_) | (refine LetB.pre ?_; first | refine LetB.ff rfl ?_ | refine LetB.mk _ rfl ?_) | (refine Br.pre ?_; first | refine Br.ff rfl ?_) | (refine Ck.pre ?_; first | refine Ck.mk rfl ?_) | (refine CallN.pre ?_; first | refine CallN.pure hS rfl rfl ?_ | refine CallN.pure hC rfl rfl ?_)))); (try (conv => whnf)))
    exact ⟨.inl rfl, ⟨_, rfl, rfl⟩, trivial⟩
  · rw [decide_eq_false (fun h => h1 h.1)]
    generalize stdP l s st a t = x at hS h1
    ((repeat ((conv => whnf); (first | (refine LetN.pre ?_; first | ((conv => arg 1; whnf); refine LetN.mk ?_)) | (refine As.pre ?_; first | refine As.mk rfl ?_) | (refine LetV.pre ?_; first | refine LetV.mk (.agg _) rfl ?_) | (refine LetB.pre ?_; first | refine LetB.bnet (by omega) ?_) | (refine Br.pre ?_; first | refine Br.tt rfl ?_) | (refine Ck.pre ?_; first | refine Ck.mk rfl ?_) | (refine CallN.pre ?_; first | refine CallN.pure hS rfl rfl ?_)))); (try (conv => whnf)))
    exact ⟨.inl rfl, ⟨_, rfl, rfl⟩, trivial⟩
end En
end Go.Proofs.Ytnegdmjmllmclaa
namespace Go.Proofs.Ytnegdmjmllmclaa.Am
open Go
/-- A box that holds one cell, told with less. -/
theorem SW.box {p n id : Nat} {s : AS} {ty : TypeId} {x y : AV} (h : s.H.get id = some (.row 1 ty [x])) (hx : x.cells = [x]) (hy : y.cells = [y]) (hle : CLe x y) : SW p n s ⟨s.fr, s.H.set id (.row 1 ty [y]), s.nx⟩ := fun w g a hs => by
  have hg : ∀ j B, (s.H.set id (.row 1 ty [y])).get j = some B → (j = id ∧ B = .row 1 ty [y]) ∨ (j ≠ id ∧ s.H.get j = some B) := fun j B hj => by
    rw [AH.get_set] at hj
    split at hj
    · rename_i e; injection hj with hj; exact .inl ⟨e, hj.symm⟩
    · rename_i e; exact .inr ⟨e, hj⟩
  have hex : ∀ j B, (s.H.set id (.row 1 ty [y])).get j = some B → ∃ B', s.H.get j = some B' := fun j B hj => by
    rcases hg j B hj with ⟨rfl, _⟩ | ⟨_, h⟩
    · exact ⟨_, by assumption⟩
    · exact ⟨_, h⟩
  refine ⟨g, ⟨fun _ _ => rfl, fun _ h => ⟨h, rfl⟩, fun _ cs _ _ h => ⟨cs, h, rfl⟩, Ext.refl w g s.H, fun j B b E hi hb _ => ?_, fun _ h _ => .inl h⟩, ⟨hs.fr, ⟨fun j B hj => ?_, fun i j b E E' A B hi hj h1 h2 => ?_, fun i b E B hi h1 => ?_, hs.H.lt⟩, hs.nx⟩⟩
  · obtain ⟨B', hB⟩ := hex j B hi
    exact ⟨j, B', E, hB, hb⟩
  · rcases hg j B hj with ⟨rfl, rfl⟩ | ⟨_, h⟩
    · obtain ⟨h0, hr⟩ := hs.H.rel _ _ h
      refine ⟨fun e he => by rw [List.mem_singleton.1 he, hy]; rfl, ?_⟩
      rcases hr with ⟨_, h2⟩ | ⟨b, cs, h1, h2, h3, h4⟩
      · cases h2
      · refine .inr ⟨b, cs, h1, h2, h3, fun i k e c hi hk => ?_⟩
        cases i with
        | zero =>
          simp only [List.getElem?_cons_zero, Option.some.injEq] at hi
          subst hi
          rw [hy] at hk
          cases k with
          | zero =>
            simp only [List.getElem?_cons_zero, Option.some.injEq] at hk
            subst hk
            obtain ⟨z, hz, hc⟩ := h4 0 0 x x rfl (by rw [hx]; rfl)
            exact ⟨z, hz, hle _ _ _ hc⟩
          | succ k => simp at hk
        | succ i => simp at hi
    · exact hs.H.rel _ _ h
  · obtain ⟨_, hA⟩ := hex i A hi
    obtain ⟨_, hB⟩ := hex j B hj
    exact hs.H.apart _ _ _ _ _ _ _ hA hB h1 h2
  · obtain ⟨_, hB⟩ := hex i B hi
    exact hs.H.imm _ _ _ _ hB h1
end Go.Proofs.Ytnegdmjmllmclaa.Am
namespace Go.Proofs.Ytnegdmjmllmclaa
open Go.Proofs.Ytnegdmjmllmclaa.Am
set_option maxRecDepth 100000
namespace En
/-! ### The mean of a term -/
abbrev ilty : TypeId := 22
abbrev bxS (id n : Nat) : Blk := .row 1 ilty [.slm {} id 1 0 n]
abbrev meH (gs cs : List Int) : AH := [(0, bxS 2 gs.length), (1, bxS 3 cs.length), (2, .row 1 3 (gs.map int)), (3, .row 1 3 (cs.map int))]
abbrev meC : List AV := [.ptr 0 1 0 0, .ptr 1 1 0 0]
def meS (q : List Int × List Int) (x : St × Int) : List Int × List Int := if x.1.void then q else (q.1 ++ [x.1.grade], q.2 ++ [x.2])
def meP (L : List (St × Int)) : List Int × List Int := L.foldl meS ([], [])
theorem meS_len (p f : List Int) (x : St) (n : Int) : (meS (p, f) (x, n)).1.length ≤ p.length + 1 ∧ (meS (p, f) (x, n)).2.length ≤ f.length + 1 := by
  unfold meS
  split
  · exact ⟨by simp, by simp⟩
  · exact ⟨by simp, by simp⟩
theorem meN (gs cs : List Int) (ok : Nat → Bool) (h2 : ok 2 = true) (h3 : ok 3 = true) : namesAll ok (meH gs cs) = true := by
  have h : namesAll ok [(2, .row 1 3 (gs.map int)), (3, .row 1 3 (cs.map int))] = true := namesAll.row (pure_int _) (namesAll.row (pure_int _) rfl)
  rw [namesAll, namesAll, h]
  simp only [Blk.names, AV.namesL, AV.names, h2, h3]; rfl
theorem meV {Hc : AH} {nx : Nat} {gs cs : List Int} (h0 : Hc.get 0 = some (bxS 2 gs.length)) (h1 : Hc.get 1 = some (bxS 3 cs.length)) (h2 : Hc.get 2 = some (.row 1 3 (gs.map int))) (h3 : Hc.get 3 = some (.row 1 3 (cs.map int))) : haveV id Hc nx (meH gs cs) :=
  haveV.one h0 (haveV.one h1 (haveV.row (pure_int _) h2 (haveV.row (pure_int _) h3 trivial)))
theorem meA {Hc : AH} {gs cs : List Int} (h0 : Hc.get 0 = some (bxS 2 gs.length)) (h1 : Hc.get 1 = some (bxS 3 cs.length)) (h2 : Hc.get 2 = some (.row 1 3 (gs.map int))) (h3 : Hc.get 3 = some (.row 1 3 (cs.map int))) : haveAll id Hc (meH gs cs) :=
  ⟨h0, h1, haveAll.row (pure_int _) h2 (haveAll.row (pure_int _) h3 trivial)⟩
abbrev meT (gs cs : List Int) : AH := [(0, bxS 4 gs.length), (1, bxS 5 cs.length), (4, .row 1 3 (gs.map int)), (5, .row 1 3 (cs.map int))]
theorem mtN (gs cs : List Int) (ok : Nat → Bool) (h2 : ok 4 = true) (h3 : ok 5 = true) : namesAll ok (meT gs cs) = true := by
  have h : namesAll ok [(4, .row 1 3 (gs.map int)), (5, .row 1 3 (cs.map int))] = true := namesAll.row (pure_int _) (namesAll.row (pure_int _) rfl)
  rw [namesAll, namesAll, h]
  simp only [Blk.names, AV.namesL, AV.names, h2, h3]; rfl
theorem mtV (ρ : Nat → Nat) {Hc : AH} {nx : Nat} {gs cs : List Int} (h0 : Hc.get (ρ 0) = some (bxS (ρ 4) gs.length)) (h1 : Hc.get (ρ 1) = some (bxS (ρ 5) cs.length)) (h2 : Hc.get (ρ 4) = some (.row 1 3 (gs.map int))) (h3 : Hc.get (ρ 5) = some (.row 1 3 (cs.map int))) : haveV ρ Hc nx (meT gs cs) :=
  haveV.one h0 (haveV.one h1 (haveV.row (pure_int _) h2 (haveV.row (pure_int _) h3 trivial)))
def ro7 : Nat → Nat | 2 => 4 | 3 => 5 | 4 => 7 | 5 => 8 | i => i
theorem mtA {Hc : AH} {gs cs : List Int} (h0 : Hc.get 0 = some (bxS 4 gs.length)) (h1 : Hc.get 1 = some (bxS 5 cs.length)) (h2 : Hc.get 4 = some (.row 1 3 (gs.map int))) (h3 : Hc.get 5 = some (.row 1 3 (cs.map int))) : haveAll ro7 Hc (meH gs cs) :=
  ⟨h0, h1, haveAll.row (pure_int _) h2 (haveAll.row (pure_int _) h3 trivial)⟩
def ro4 : Nat → Nat | 4 => 2 | 5 => 3 | i => i
def ro6 : Nat → Nat | 4 => 7 | 5 => 8 | i => i
def ro5 : Nat → Nat | 4 => 5 | 5 => 6 | i => i
theorem solid_int : ∀ l : List Int, AV.solidL (l.map int) = true
  | [] => rfl
  | p :: l => by simp only [List.map_cons, AV.solidL, solid_int l]; rfl
theorem meSol (gs cs : List Int) : solidH (meH gs cs) = true := solidH.row rfl (solidH.row rfl (solidH.row (solid_int _) (solidH.row (solid_int _) rfl)))
abbrev mgS (A : List St) (rec : AV) (t : Int) (y : AV) : Nat × List Int × List Int → AS
  | (j, p, f) => ⟨[(0, y), (1, .rp rec 0), (2, .rp (int t) 0), (13, .ro {} 4 (A.map stA)), (14, int A.length), (15, int j)], meT p f, 6⟩
set_option maxHeartbeats 1600000 in
set_option maxRecDepth 100000 in
theorem gradesM_f (l : List E) (s : Sc.Scl) (st a t : Int) (hl : l.length < 40) (ht : 0 ≤ t ∧ t ≤ 1000) (ho : ∀ e ∈ l, Dt.okW e.on_) (lp : Nat) (rc : Loop) (hps : rc.params.size = 2) (ks : List Nat)
    (hy : ∀ (p f : List Int) (x : St) (n : Int), p.length ≤ 40 → f.length ≤ 40 → AFunC (CY Try.prog lp rc) 4 [.yl lp rc ks meC, stA x, int n] (meH p f) (bool true) (meT (meS (p, f) (x, n)).1 (meS (p, f) (x, n)).2)) :
    AFun Try.prog 57 4 [.yl lp rc ks meC, .rp (recA l s st a) 0, .rp (int t) 0] (meH [] []) (.tup []) (meT (meP (grdP l st a t)).1 (meP (grdP l st a t)).2) := by
  refine AFun.of_S T_ok mixed Try.func57 rfl (Nat.le_of_ble_eq_true rfl) rfl ?_
  have hL := Dt.Last_f t (by omega)
  have hA := At_f l a (100 * t + 99) {} hl
  have hlen := atP_len (l := l) a (100 * t + 99)
  rw [grdP]
  generalize atP l a (100 * t + 99) = A at hA hlen ⊢
  have hml : (l.map en).length = l.length := List.length_map _
  have hmA : (A.map stA).length = A.length := List.length_map _
  generalize hR : meP (A.filterMap (gsel l st t)) = R
  have hrec : AV.namesL (fun _ => false) [recA l s st a] = true := rfl
  ((repeat ((conv => whnf); (first | (refine As.pre ?_; first | refine As.mk rfl ?_) | (refine LetV.pre ?_; first | refine LetV.mk (.sc (.int _ _)) rfl ?_ | refine LetV.mk (.ro _ _ _) rfl ?_) | (refine LetI.pre ?_; first | refine LetI.mk _ rfl ?_) | (refine Ck.pre ?_; first | refine Ck.drawn (by kernel_rfl) ?_ | refine Ck.mk rfl ?_) | (refine CallN.pre ?_; first | refine CallN.pure hL rfl rfl ?_ | refine CallN.pure hA rfl rfl ?_)))); (try (conv => whnf)))
  refine LoopN.weak (s1 := mgS A (recA l s st a) t (.yl lp rc ks meC) (0, [], [])) ?sw1 ?_
  case sw1 => exact SW.mk ro4 rfl rfl (mtN _ _ _ rfl rfl) ⟨.refl _, .refl _, .refl _, .refl _, VLe2.int (by rw [hmA]), .refl _, trivial⟩ (mtV ro4 rfl rfl rfl rfl)
  clear hL hA
  refine LoopN.ind T_ok mixed (S := mgS A (recA l s st a) t (.yl lp rc ks meC)) (fun i => A.length - i.1) (fun i => i.1 ≤ A.length ∧ (i.2.1.length ≤ i.1 ∧ i.2.2.length ≤ i.1) ∧ i.2 = meP ((A.take i.1).filterMap (gsel l st t))) (fun _ => rfl) (fun i hi ih => ?_) (0, [], []) ⟨Nat.zero_le _, ⟨Nat.zero_le _, Nat.zero_le _⟩, rfl⟩
  obtain ⟨j, p, f⟩ := i
  obtain ⟨h1, hb, h2⟩ := hi
  simp only at h1 hb h2
  by_cases hlt : j < A.length
  case neg =>
    clear ih hy
    rw [List.take_of_length_le (by omega), hR] at h2
    subst h2
    ((repeat ((conv => whnf); (first | (refine As.pre ?_; first | refine As.mk rfl ?_) | (refine LetB.pre ?_; first | refine LetB.decf (by omega) ?_) | (refine Br.pre ?_; first | refine Br.ff rfl ?_) | (refine Ck.pre ?_; first | refine Ck.mk rfl ?_)))); (try (conv => whnf)))
    exact ⟨⟨[], meT p f, 6⟩, SW.mk id rfl rfl (mtN _ _ _ rfl rfl) trivial (mtV id rfl rfl rfl rfl), .inr rfl, ⟨_, rfl, rfl⟩, rfl, rfl, rfl, rfl, trivial⟩
  have hld := stD hlt
  have hq : meP ((A.take (j + 1)).filterMap (gsel l st t)) = ((gsel l st t (A.getD j ⟨0, 0, 0, false⟩)).toList).foldl (meS) (p, f) := by
    rw [fm_succ _ hlt ⟨0, 0, 0, false⟩, meP, List.foldl_append, h2]; rfl
  clear h2 hR
  generalize A.getD j ⟨0, 0, 0, false⟩ = x at hld hq
  have hI := IndexG_f l x {} (by omega)
  have hflt := fidx_lt (isG x.entry) l 0
  generalize hgx : gsel l st t x = gx at hq
  unfold gsel at hgx
  generalize fidx (isG x.entry) l 0 = k at hI hgx hflt
  by_cases hk : k < 0
  · rw [if_pos hk] at hgx
    subst hgx
    have hnx := ih (j + 1, p, f) ⟨by show j + 1 ≤ A.length; omega, by dsimp only; omega, hq.symm⟩ (by show A.length - (j + 1) < A.length - j; omega)
    clear ih hq hy
    ((repeat ((conv => whnf); (first | (refine LetN.pre ?_; first | ((conv => arg 1; whnf); refine LetN.mk ?_)) | (refine As.pre ?_; first | refine As.mk rfl ?_ | (refine As.mk ?_ ?_; · ((repeat' (refine andT ?_ ?_)) <;> (first | rfl | assumption | exact decide_eq_true (by omega) | exact decide_eq_true (by dsimp only; omega) | exact decide_eq_true (by simp; omega) | (simp; done))))) | (refine LetV.pre ?_; first | refine LetV.mk (t := 56) _ hld ?_ | refine LetV.mk (.agg _) rfl ?_ | refine LetV.mk (.ro _ _ _) rfl ?_) | (refine LetI.pre ?_; first | refine LetI.wrap (by omega) (by omega) ?_) | (refine LetB.pre ?_; first | refine LetB.dect (by omega) ?_) | (refine Gd.pre ?_; first | refine Gd.pass rfl ?_) | (refine Br.pre ?_; first | refine Br.tt rfl ?_) | (refine Ck.pre ?_; first | refine Ck.drawn (by kernel_rfl) ?_ | refine Ck.mk rfl ?_) | (refine LetL.pre ?_; first | refine LetL.mk [_] rfl ?_) | (refine CallN.pre ?_; first | refine CallN.lend hI rfl (.same rfl (.clo (.ptr rfl rfl rfl .nil) .nil)) ?_)))); (try (conv => whnf)))


    refine LoopN.weak ?sw2 hnx
    case sw2 => exact SW.mk id rfl rfl (mtN _ _ _ rfl rfl) ⟨.refl _, .refl _, .refl _, .refl _, .refl _, VLe2.int (by omega), trivial⟩ (mtV id rfl rfl rfl rfl)
  rw [if_neg hk] at hgx
  obtain ⟨m, rfl⟩ : ∃ m : Nat, k = m := ⟨k.toNat, by omega⟩
  have hmlt : m < l.length := by omega
  simp only [Int.toNat_natCast] at hgx
  have hle := tmD hmlt
  have hoe := ho _ (getD_mem' hmlt)
  generalize l.getD m e0 = e at hle hoe hgx
  have hT := Dt.Term_f e.on_ hoe
  generalize e.on_ / 100 = t' at hT hgx
  by_cases hst : e.student = st
  case neg =>
    rw [if_neg (fun h => hst h.1)] at hgx
    subst hgx
    have hnx := ih (j + 1, p, f) ⟨by show j + 1 ≤ A.length; omega, by dsimp only; omega, hq.symm⟩ (by show A.length - (j + 1) < A.length - j; omega)
    clear ih hq hy
    ((repeat ((conv => whnf); (first | (refine LetN.pre ?_; first | ((conv => arg 1; whnf); refine LetN.mk ?_)) | (refine As.pre ?_; first | refine As.mk rfl ?_ | (refine As.mk ?_ ?_; · ((repeat' (refine andT ?_ ?_)) <;> (first | rfl | assumption | exact decide_eq_true (by omega) | exact decide_eq_true (by dsimp only; omega) | exact decide_eq_true (by simp; omega) | (simp; done))))) | (refine LetV.pre ?_; first | refine LetV.mk (t := 56) _ hld ?_ | refine LetV.mk (t := 27) _ hle ?_ | refine LetV.mk (.sc (.int _ _)) rfl ?_ | refine LetV.mk (.agg _) rfl ?_ | refine LetV.mk (.ro _ _ _) rfl ?_) | (refine LetI.pre ?_; first | refine LetI.wrap (by omega) (by omega) ?_) | (refine LetB.pre ?_; first | refine LetB.ff rfl ?_ | refine LetB.dect (by omega) ?_ | refine LetB.bnet (by omega) ?_) | (refine Gd.pre ?_; first | refine Gd.run rfl ?_ | refine Gd.pass rfl ?_) | (refine Br.pre ?_; first | refine Br.tt rfl ?_) | (refine Ck.pre ?_; first | refine Ck.drawn (by kernel_rfl) ?_ | refine Ck.mk rfl ?_) | (refine LetL.pre ?_; first | refine LetL.mk [_] rfl ?_) | (refine CallN.pre ?_; first | refine CallN.lend hI rfl (.same rfl (.clo (.ptr rfl rfl rfl .nil) .nil)) ?_)))); (try (conv => whnf)))



    refine LoopN.weak ?sw3 hnx
    case sw3 => exact SW.mk id rfl rfl (mtN _ _ _ rfl rfl) ⟨.refl _, .refl _, .refl _, .refl _, .refl _, VLe2.int (by omega), trivial⟩ (mtV id rfl rfl rfl rfl)
  by_cases htt : t' = t
  case neg =>
    rw [if_neg (fun h => htt h.2)] at hgx
    subst hgx
    have hnx := ih (j + 1, p, f) ⟨by show j + 1 ≤ A.length; omega, by dsimp only; omega, hq.symm⟩ (by show A.length - (j + 1) < A.length - j; omega)
    clear ih hq hy
    ((repeat ((conv => whnf); (first | (refine LetN.pre ?_; first | ((conv => arg 1; whnf); refine LetN.mk ?_)) | (refine As.pre ?_; first | refine As.mk rfl ?_ | (refine As.mk ?_ ?_; · ((repeat' (refine andT ?_ ?_)) <;> (first | rfl | assumption | exact decide_eq_true (by omega) | exact decide_eq_true (by dsimp only; omega) | exact decide_eq_true (by simp; omega) | (simp; done))))) | (refine LetV.pre ?_; first | refine LetV.mk (t := 56) _ hld ?_ | refine LetV.mk (t := 27) _ hle ?_ | refine LetV.mk (.sc (.int _ _)) rfl ?_ | refine LetV.mk (.agg _) rfl ?_ | refine LetV.mk (.ro _ _ _) rfl ?_) | (refine LetI.pre ?_; first | refine LetI.wrap (by omega) (by omega) ?_) | (refine LetB.pre ?_; first | refine LetB.ff rfl ?_ | refine LetB.dect (by omega) ?_ | refine LetB.bnet (by omega) ?_ | refine LetB.bnef (by omega) ?_) | (refine Gd.pre ?_; first | refine Gd.run rfl ?_) | (refine Br.pre ?_; first | refine Br.tt rfl ?_) | (refine Ck.pre ?_; first | refine Ck.drawn (by kernel_rfl) ?_ | refine Ck.mk rfl ?_) | (refine LetL.pre ?_; first | refine LetL.mk [_] rfl ?_) | (refine CallN.pre ?_; first | refine CallN.pure hT rfl rfl ?_ | refine CallN.lend hI rfl (.same rfl (.clo (.ptr rfl rfl rfl .nil) .nil)) ?_)))); (try (conv => whnf)))




    refine LoopN.weak ?sw4 hnx
    case sw4 => exact SW.mk id rfl rfl (mtN _ _ _ rfl rfl) ⟨.refl _, .refl _, .refl _, .refl _, .refl _, VLe2.int (by omega), trivial⟩ (mtV id rfl rfl rfl rfl)
  rw [if_pos ⟨hst, htt⟩] at hgx
  subst hgx
  have hyi := hy p f x e.credits (by omega) (by omega)
  obtain ⟨p', f', hpf⟩ : ∃ p' f', (p', f') = meS (p, f) (x, e.credits) := ⟨_, _, rfl⟩
  rw [← hpf] at hyi
  have hnx := ih (j + 1, p', f') ⟨by show j + 1 ≤ A.length; omega, by dsimp only; have := meS_len p f x e.credits; rw [← hpf] at this; dsimp only at this; omega, by rw [hq]; exact hpf⟩ (by show A.length - (j + 1) < A.length - j; omega)
  clear ih hq hy hpf
  ((repeat ((conv => whnf); (first | (refine LetN.pre ?_; first | ((conv => arg 1; whnf); refine LetN.mk ?_)) | (refine As.pre ?_; first | refine As.mk rfl ?_ | (refine As.mk ?_ ?_; · ((repeat' (refine andT ?_ ?_)) <;> (first | rfl | assumption | exact decide_eq_true (by omega) | exact decide_eq_true (by dsimp only; omega) | exact decide_eq_true (by simp; omega) | (simp; done))))) | (refine LetV.pre ?_; first | refine LetV.mk (t := 56) _ hld ?_ | refine LetV.mk (t := 27) _ hle ?_ | refine LetV.mk (.sc (.int _ _)) rfl ?_ | refine LetV.mk (.agg _) rfl ?_ | refine LetV.mk (.ro _ _ _) rfl ?_) | (refine LetI.pre ?_; first | refine LetI.wrap (by omega) (by omega) ?_) | (refine LetB.pre ?_; first | refine LetB.ff rfl ?_ | refine LetB.dect (by omega) ?_ | refine LetB.bnef (by omega) ?_) | (refine Gd.pre ?_; first | refine Gd.run rfl ?_) | (refine Br.pre ?_; first | refine Br.tt rfl ?_ | refine Br.ff rfl ?_) | (refine Ck.pre ?_; first | refine Ck.drawn (by kernel_rfl) ?_ | refine Ck.mk rfl ?_) | (refine LetL.pre ?_; first | refine LetL.mk (ty := 3) _ (renL_none (pure_int _)).symm ?_ | refine LetL.mk [_] rfl ?_) | (refine CallN.pre ?_; first | refine CallN.pure hT rfl rfl ?_ | refine CallN.lend hI rfl (.same rfl (.clo (.ptr rfl rfl rfl .nil) .nil)) ?_) | ((refine YieldN.own ro7 hyi (by rw [hps]; rfl) (CallOk.mk' rfl rfl rfl (meN _ _ _ rfl rfl) rfl (mtN _ _ _ rfl rfl) (mtA rfl rfl rfl rfl)) ?_))))); (try (conv => whnf)))






  refine LoopN.weak ?sw5 hnx
  case sw5 => exact SW.mk ro6 rfl rfl (mtN _ _ _ rfl rfl) ⟨.refl _, .refl _, .refl _, .refl _, .refl _, VLe2.int (by omega), trivial⟩ (mtV ro6 rfl rfl rfl rfl)
/-- The mean of a term, and whether there is one. -/
def menP (l : List E) (st a t : Int) : (Int × Int) × Bool :=
  if endP t a = true ∧ (Sc.mv (meP (grdP l st a t)).1 (meP (grdP l st a t)).2).2 = 0 then ((Sc.mv (meP (grdP l st a t)).1 (meP (grdP l st a t)).2).1, true) else ((0, 0), false)
abbrev raty : TypeId := 46
theorem me_call (gs cs : List Int) : atCall ro5 (meH [] []) (.tup []) (meT gs cs) = { v := .tup [], D := [0, 1, 2, 3], δ := [(0, some (bxS 5 gs.length)), (1, some (bxS 6 cs.length)), (5, some (.row 1 3 (gs.map int))), (6, some (.row 1 3 (cs.map int))), (2, none), (3, none)] } := by
  show ({ v := _, D := _, δ := [(0, _), (1, _), (5, some (.row 1 _ (AV.renL ro5 (gs.map int)))), (6, some (.row 1 _ (AV.renL ro5 (cs.map int)))), (2, none), (3, none)] } : Out) = _
  rw [renL_none (pure_int gs), renL_none (pure_int cs)]; rfl
theorem meP_len : ∀ (L : List (St × Int)) (q : List Int × List Int), (L.foldl meS q).1.length ≤ q.1.length + L.length ∧ (L.foldl meS q).2.length ≤ q.2.length + L.length
  | [], q => ⟨Nat.le_refl _, Nat.le_refl _⟩
  | x :: L, (p, f) => by
    have h1 := meP_len L (meS (p, f) x)
    have h2 := meS_len p f x.1 x.2
    rw [List.foldl_cons, List.length_cons]
    have e : (x.1, x.2) = x := rfl
    rw [e] at h2
    dsimp only
    omega
theorem grd_len (l : List E) (st a t : Int) : (grdP l st a t).length ≤ l.length := Nat.le_trans (List.length_filterMap_le _ _) (atP_len a _)
set_option maxHeartbeats 1600000 in
set_option maxRecDepth 100000 in
theorem Means_f (l : List E) (s : Sc.Scl) (st a t : Int) (hl : l.length < 40) (ho : ∀ e ∈ l, Dt.okW e.on_) : AFun Try.prog 15 0 [.ro {} 15 (l.map en), Sc.scA s, int st, int a, int t] [] (.tup [.agg [int (menP l st a t).1.1, int (menP l st a t).1.2], bool (menP l st a t).2]) [] := by
  have hE := ended_f l s st a t
  refine AFun.of_W T_ok mixed Try.func15 rfl (Nat.le_of_ble_eq_true rfl) rfl ?_
  unfold menP
  cases he : endP t a with
  | false =>
    rw [if_neg (fun h => by cases h.1)]
    rw [he] at hE
    ((repeat ((conv => whnf); (first | (refine LetN.pre ?_; first | ((conv => arg 1; whnf); refine LetN.mk ?_)) | (refine As.pre ?_; first | refine As.mk rfl ?_) | (refine LetV.pre ?_; first | refine LetV.mk (.agg _) rfl ?_) | (refine Br.pre ?_; first | refine Br.tt rfl ?_) | (refine Ck.pre ?_; first | refine Ck.mk rfl ?_) | (refine LetL.pre ?_; first | refine LetL.mk (ty := rty) [.agg [_, _, _, _, _, _]] rfl ?_ | refine LetL.mk [_] rfl ?_) | (refine CallN.pre ?_; first | refine CallN.pure hE rfl rfl ?_)))); (try (conv => whnf)))


    exact ⟨.inl rfl, ⟨_, rfl, rfl⟩, trivial⟩
  | true =>
  rw [he] at hE
  have het := of_decide_eq_true he
  have hG := grades_f l s st a t
  have hlen := meP_len (grdP l st a t) ([], [])
  have hlen2 := grd_len l st a t
  have hlen1 : (meP (grdP l st a t)).1.length ≤ l.length ∧ (meP (grdP l st a t)).2.length ≤ l.length := by
    unfold meP
    simp only [List.length_nil, Nat.zero_add] at hlen
    omega
  ((repeat ((conv => whnf); (first | (refine LetN.pre ?_; first | ((conv => arg 1; whnf); refine LetN.mk ?_)) | (refine As.pre ?_; first | refine As.mk rfl ?_) | (refine LetV.pre ?_; first | refine LetV.mk (.agg _) rfl ?_) | (refine Br.pre ?_; first | refine Br.ff rfl ?_) | (refine Ck.pre ?_; first | refine Ck.mk rfl ?_) | (refine LetL.pre ?_; first | refine LetL.mk (ty := rty) [.agg [_, _, _, _, _, _]] rfl ?_) | (refine CallN.pre ?_; first | refine CallN.pure hE rfl rfl ?_ | refine CallN.pure hG rfl rfl ?_)))); (try (conv => whnf)))



  have hM := Sc.Mean_f (meP (grdP l st a t)).1 (meP (grdP l st a t)).2 {} {} (by omega) (by omega)
  refine RfN.weak (s1 := ⟨[(10, .ptr 4 2 0 0), (13, .ptr 0 1 0 0), (14, .ptr 1 1 0 0), (31, grV l s st a t)], meH [] [] ++ [(4, .row 2 raty [.agg [int 0, int 0]])], 5⟩) ?sw ?_
  case sw =>
    refine SW.trans (SW.box (id := 3) (ty := ilty) (x := .sc (.slice none 0 0)) (y := .slm {} 5 1 0 0) rfl rfl rfl VLe2.nilslm.cle) ?_
    refine SW.trans (SW.box (id := 4) (ty := ilty) (x := .sc (.slice none 0 0)) (y := .slm {} 6 1 0 0) rfl rfl rfl VLe2.nilslm.cle) ?_
    exact SW.mk (fun i => match i with | 0 => 3 | 1 => 4 | 2 => 5 | 3 => 6 | 4 => 1 | i => i + 7) rfl rfl rfl ⟨.refl _, .refl _, .refl _, .refl _, trivial⟩ (haveV.one rfl (haveV.one rfl (haveV.nil (Nat.le_of_ble_eq_true rfl) (haveV.nil (Nat.le_of_ble_eq_true rfl) (haveV.one rfl trivial)))))
  refine RfN.iter (r := { v := .tup [], D := [0, 1, 2, 3], δ := [(0, some (bxS 5 (meP (grdP l st a t)).1.length)), (1, some (bxS 6 (meP (grdP l st a t)).2.length)), (5, some (.row 1 3 ((meP (grdP l st a t)).1.map int))), (6, some (.row 1 3 ((meP (grdP l st a t)).2.map int))), (2, none), (3, none)] }) [13, 14] (Nat.le_of_ble_eq_true rfl) rfl rfl (by kernel_rfl) (fun lp rc h1 h2 h3 h4 h5 h6 => ?it) rfl ?sol rfl ?rest
  case it =>
    rw [← me_call]
    refine ACalls.of_fun ro5 (gradesM_f l s st a t hl (by omega) ho lp rc (by rw [h1]; rfl) [13, 14] fun p f x n hp hf => ?_) (CallOk.mk' rfl rfl rfl rfl rfl (mtN _ _ _ rfl rfl) ⟨rfl, rfl, rfl, rfl, trivial⟩)
    obtain ⟨xe, xb, xg, xv⟩ := x
    refine yield_of_V T_ok mixed h1 h2 h3 h4 h5 h6 rfl rfl rfl (meSol p f) rfl ?_
    ((repeat ((conv => whnf); (first | (refine LetN.pre ?_; first | ((conv => arg 1; whnf); refine LetN.mk ?_)) | (refine As.pre ?_; first | refine As.mk rfl ?_) | (refine Ck.pre ?_; first | refine Ck.mk rfl ?_) | (refine LetL.pre ?_; first | refine LetL.mk [_] rfl ?_)))); (try (conv => whnf)))
    refine ⟨rfl, ?_⟩
    cases xv with
    | true =>
      ((repeat ((conv => whnf); (first | (refine As.pre ?_; first | refine As.mk rfl ?_) | (refine LetV.pre ?_; first | refine LetV.mk (.sc (.bool _)) rfl ?_) | (refine Br.pre ?_; first | refine Br.ff rfl ?_) | (refine Ck.pre ?_; first | refine Ck.mk rfl ?_)))); (try (conv => whnf)))
      exact ⟨rfl, ⟨[], meT p f, 6⟩, SW.mk ro4 rfl rfl (mtN _ _ _ rfl rfl) trivial (mtV ro4 rfl rfl rfl rfl), rfl⟩
    | false =>
      have r1 := room_int (n := p.length + 1) (by omega)
      have r2 := room_int (n := f.length + 1) (by omega)
      have a1 := app_intL p xg p.length rfl
      have a2 := app_intL f n f.length rfl
      have l1 : (p ++ [xg]).length = p.length + 1 := by simp
      have l2 : (f ++ [n]).length = f.length + 1 := by simp
      ((repeat ((conv => whnf); (first | (refine LetN.pre ?_; first | ((conv => arg 1; whnf); refine LetN.mk ?_)) | (refine As.pre ?_; first | refine As.mk rfl ?_ | (refine As.mk ?_ ?_; · ((repeat' (refine andT ?_ ?_)) <;> (first | rfl | assumption | exact decide_eq_true (by omega) | exact decide_eq_true (by dsimp only; omega) | exact decide_eq_true (by simp; omega) | (simp; done))))) | (refine LetV.pre ?_; first | refine LetV.mk (.sc (.int _ _)) rfl ?_ | refine LetV.mk (.sc (.bool _)) rfl ?_ | refine LetV.mk (.slm _ _ _ _ _) rfl ?_) | (refine Br.pre ?_; first | refine Br.tt rfl ?_) | (refine Ck.pre ?_; first | refine Ck.drawn (by kernel_rfl) ?_ | refine Ck.mk rfl ?_) | (refine LetL.pre ?_; first | refine LetL.mk (ty := 3) _ a1 ?_ | refine LetL.mk (ty := 3) _ a2 ?_ | refine LetL.mk [_] rfl ?_)))); (try (conv => whnf)))


      refine ⟨rfl, ⟨[], meT (p ++ [xg]) (f ++ [n]), 7⟩, ?_, rfl⟩
      refine SW.trans (SW.box (id := 0) (ty := ilty) (x := .slm _ 5 1 0 _) (y := .slm {} 5 1 0 (p ++ [xg]).length) rfl rfl rfl (VLe2.slm_of l1).cle) ?_
      refine SW.trans (SW.box (id := 1) (ty := ilty) (x := .slm _ 6 1 0 _) (y := .slm {} 6 1 0 (f ++ [n]).length) rfl rfl rfl (VLe2.slm_of l2).cle) ?_
      exact SW.mk ro5 rfl rfl (mtN _ _ _ rfl rfl) trivial (mtV ro5 rfl rfl rfl rfl)
  case sol => exact solidH.row rfl (solidH.row rfl (solidH.row rfl (solidH.row (solid_int _) (solidH.row (solid_int _) rfl))))
  case rest =>
    generalize meP (grdP l st a t) = R at hM hlen1 ⊢
    obtain ⟨gs, cs⟩ := R
    dsimp only at hM hlen1 ⊢
    generalize Sc.mv gs cs = M at hM ⊢
    obtain ⟨⟨n, d⟩, e⟩ := M
    have n1 := pure_int gs
    have n2 := pure_int cs
    have m1 : gs.length = (gs.map int).length := (List.length_map _).symm
    have m2 : cs.length = (cs.map int).length := (List.length_map _).symm
    dsimp only
    by_cases h0 : e = 0
    · subst h0
      rw [if_pos ⟨rfl, rfl⟩]
      ((repeat ((conv => whnf); (first | (refine LetN.pre ?_; first | ((conv => arg 1; whnf); refine LetN.mk ?_)) | (refine As.pre ?_; first | refine As.mk rfl ?_) | (refine LetV.pre ?_; first | refine LetV.mk (.agg _) rfl ?_ | refine LetV.mk (.slm _ _ _ _ _) rfl ?_) | (refine LetB.pre ?_; first | refine LetB.ff rfl ?_) | (refine Br.pre ?_; first | refine Br.ff rfl ?_) | (refine Ck.pre ?_; first | refine Ck.mk rfl ?_) | (refine LetL.pre ?_; first | refine LetL.mk [_] rfl ?_) | (refine CallN.pre ?_; first | refine CallN.lend hM rfl (.full rfl n1 m1 (.full rfl n2 m2 .nil)) ?_)))); (try (conv => whnf)))

      exact ⟨.inl rfl, ⟨_, rfl, rfl⟩, trivial⟩
    · rw [if_neg (fun h => h0 h.2)]
      ((repeat ((conv => whnf); (first | (refine LetN.pre ?_; first | ((conv => arg 1; whnf); refine LetN.mk ?_)) | (refine As.pre ?_; first | refine As.mk rfl ?_) | (refine LetV.pre ?_; first | refine LetV.mk (.slm _ _ _ _ _) rfl ?_) | (refine LetB.pre ?_; first | refine LetB.bnet (by omega) ?_) | (refine Br.pre ?_; first | refine Br.tt rfl ?_) | (refine Ck.pre ?_; first | refine Ck.mk rfl ?_) | (refine LetL.pre ?_; first | refine LetL.mk [_] rfl ?_) | (refine CallN.pre ?_; first | refine CallN.lend hM rfl (.full rfl n1 m1 (.full rfl n2 m2 .nil)) ?_)))); (try (conv => whnf)))

      exact ⟨.inl rfl, ⟨_, rfl, rfl⟩, trivial⟩
end En
end Go.Proofs.Ytnegdmjmllmclaa
namespace Go.Proofs.Ytnegdmjmllmclaa
open Go.Proofs.Ytnegdmjmllmclaa.Am
set_option maxRecDepth 100000
namespace En
/-! ### The first grade with an Id, and the grades of a term -/
def qG (id : Int) (e : E) : Bool := decide (e.kind = 3) && decide (e.id = id)
def fstG (l : List E) (id : Int) : E := (l.find? (qG id)).getD e0
theorem mem_at3 {l : List E} {a o : Int} {x : St} (h : x ∈ atP l a o) : ∃ e ∈ l, e.kind = 3 ∧ x.entry = e.id := by
  obtain ⟨g, hg, rfl⟩ := List.mem_map.1 h
  obtain ⟨h1, h2⟩ := List.mem_filter.1 hg
  refine ⟨g, (mem_atR.1 h1).1, ?_, rfl⟩
  simpa [cOf] using h2
theorem fst_mem {l : List E} {id : Int} (h : ∃ e ∈ l, e.kind = 3 ∧ id = e.id) : fstG l id ∈ l := by
  obtain ⟨e, he, h1, h2⟩ := h
  unfold fstG
  cases hf : l.find? (qG id) with
  | none =>
    have := List.find?_eq_none.1 hf e he
    simp [qG, h1, h2] at this
  | some x => exact List.mem_of_find?_eq_some hf
theorem find_drop {l : List E} {k : Nat} (p : E → Bool) (h : k < l.length) : (l.drop k).find? p = if p (l.getD k e0) then some (l.getD k e0) else (l.drop (k + 1)).find? p := by
  rw [List.drop_eq_getElem_cons h, List.getD_eq_getElem?_getD, List.getElem?_eq_getElem h, List.find?_cons]
  simp only [Option.getD_some]
  cases p l[k] <;> rfl
theorem fidx_fst (id : Int) : ∀ (l : List E) (k : Nat), (∃ e ∈ l, e.kind = 3 ∧ id = e.id) → ∃ j : Nat, fidx (isG id) l k = ((k + j : Nat) : Int) ∧ l.getD j e0 = fstG l id
  | [], _, h => by obtain ⟨e, he, _⟩ := h; cases he
  | x :: l, k, h => by
    by_cases hx : x.kind = 3 ∧ x.id = id
    · refine ⟨0, ?_, ?_⟩
      · rw [fidx, isG, if_pos (decide_eq_true hx)]; rfl
      · rw [fstG, List.find?_cons, qG, decide_eq_true hx.1, decide_eq_true hx.2]; rfl
    · have h2 : ∃ e ∈ l, e.kind = 3 ∧ id = e.id := by
        obtain ⟨e, he, h1, h2⟩ := h
        rcases List.mem_cons.1 he with rfl | he
        · exact absurd ⟨h1, h2.symm⟩ hx
        · exact ⟨e, he, h1, h2⟩
      obtain ⟨j, h3, h4⟩ := fidx_fst id l (k + 1) h2
      have hq : qG id x = false := by
        rw [qG, ← Bool.decide_and]; exact decide_eq_false hx
      refine ⟨j + 1, ?_, ?_⟩
      · rw [fidx, isG, if_neg (by rw [decide_eq_false hx]; decide), h3]; congr 1; omega
      · rw [fstG, List.find?_cons, hq]; exact h4
theorem gsel_fst (l : List E) (st t : Int) (x : St) (h : ∃ e ∈ l, e.kind = 3 ∧ x.entry = e.id) : gsel l st t x = if (fstG l x.entry).student = st ∧ (fstG l x.entry).on_ / 100 = t then some (x, (fstG l x.entry).credits) else none := by
  obtain ⟨j, h1, h2⟩ := fidx_fst x.entry l 0 h
  unfold gsel
  rw [h1, if_neg (by omega), Int.toNat_natCast, Nat.zero_add, h2]
end En
end Go.Proofs.Ytnegdmjmllmclaa
namespace Go.Proofs.Ytnegdmjmllmclaa
open Go.Proofs.Ytnegdmjmllmclaa.Am
set_option maxRecDepth 100000
namespace En
/-! ### The reference of the layer: entry, Terms, ended -/
abbrev entS (l : List E) (fl : Fl) (id : Int) (j : Nat) : AS := ⟨[(0, .ro fl 15 (l.map en)), (1, int id), (4, .ptr 0 15 0 0), (5, int (j : Nat))], [(0, .row 15 ety [en e0])], 1⟩
set_option maxRecDepth 100000 in
theorem entry_f (l : List E) (id : Int) (fl : Fl) (hl : l.length ≤ 1000) : AFun Try.prog 62 0 [.ro fl 15 (l.map en), int id] [] (en (fstG l id)) [] := by
  refine AFun.of_W T_ok mixed Try.func62 rfl (Nat.le_of_ble_eq_true rfl) rfl ?_
  have hml : (l.map en).length = l.length := List.length_map _
  unfold fstG
  generalize hR : l.find? (qG id) = R
  ((repeat ((conv => whnf); (first | (refine LetN.pre ?_; first | ((conv => arg 1; whnf); refine LetN.mk ?_)) | (refine As.pre ?_; first | refine As.mk rfl ?_) | (refine Ck.pre ?_; first | refine Ck.mk rfl ?_)))); (try (conv => whnf)))
  refine LoopN.weak (s1 := entS l fl id 0) ?sw0 ?_
  case sw0 => exact SW.mk _root_.id rfl rfl rfl ⟨.refl _, .refl _, .refl _, .refl _, trivial⟩ (haveV.row rfl rfl trivial)
  refine LoopN.ind T_ok mixed (S := entS l fl id) (fun j => l.length - j) (fun j => j ≤ l.length ∧ (l.drop j).find? (qG id) = R) (fun _ => rfl) (fun j hj ih => ?_) 0 ⟨Nat.zero_le _, hR⟩
  obtain ⟨h1, h2⟩ := hj
  by_cases hlt : j < l.length
  case neg =>
    clear ih
    rw [List.drop_eq_nil_of_le (by omega)] at h2
    subst h2
    ((repeat ((conv => whnf); (first | (refine LetN.pre ?_; first | ((conv => arg 1; whnf); refine LetN.mk ?_)) | (refine As.pre ?_; first | refine As.mk rfl ?_) | (refine LetI.pre ?_; first | refine LetI.mk _ rfl ?_) | (refine LetB.pre ?_; first | refine LetB.decf (by omega) ?_) | (refine Br.pre ?_; first | refine Br.ff rfl ?_) | (refine Ck.pre ?_; first | refine Ck.mk rfl ?_) | (refine LetL.pre ?_; first | refine LetL.mk [_] rfl ?_)))); (try (conv => whnf)))
    exact ⟨.inl rfl, ⟨_, rfl, rfl⟩, trivial⟩
  have hld := ld_en hlt
  rw [find_drop _ hlt] at h2
  generalize l.getD j e0 = e at hld h2
  by_cases c1 : e.kind = 3
  · by_cases c2 : e.id = id
    · rw [qG, decide_eq_true c1, decide_eq_true c2, Bool.and_self, if_pos rfl] at h2
      subst h2
      clear ih
      ((repeat ((conv => whnf); (first | (refine LetN.pre ?_; first | ((conv => arg 1; whnf); refine LetN.mk ?_)) | (refine As.pre ?_; first | refine As.mk rfl ?_ | (refine As.mk ?_ ?_; · ((repeat' (refine andT ?_ ?_)) <;> (first | rfl | assumption | exact decide_eq_true (by omega) | exact decide_eq_true (by dsimp only; omega) | exact decide_eq_true (by simp; omega) | (simp; done))))) | (refine LetV.pre ?_; first | refine LetV.mk (t := 27) _ hld ?_ | refine LetV.mk (.sc (.int _ _)) rfl ?_ | refine LetV.mk (.agg _) rfl ?_) | (refine LetI.pre ?_; first | refine LetI.mk _ rfl ?_) | (refine LetB.pre ?_; first | refine LetB.dect (by omega) ?_) | (refine Gd.pre ?_; first | refine Gd.run rfl ?_) | (refine Br.pre ?_; first | refine Br.tt rfl ?_) | (refine Ck.pre ?_; first | refine Ck.mk rfl ?_) | (refine LetL.pre ?_; first | refine LetL.mk [_] rfl ?_)))); (try (conv => whnf)))
      exact ⟨.inl rfl, ⟨_, rfl, rfl⟩, trivial⟩
    · rw [qG, decide_eq_false c2, Bool.and_false, if_neg Bool.false_ne_true] at h2
      have hnx := ih (j + 1) ⟨hlt, h2⟩ (by omega)
      clear ih
      ((repeat ((conv => whnf); (first | (refine As.pre ?_; first | refine As.mk rfl ?_ | (refine As.mk ?_ ?_; · ((repeat' (refine andT ?_ ?_)) <;> (first | rfl | assumption | exact decide_eq_true (by omega) | exact decide_eq_true (by dsimp only; omega) | exact decide_eq_true (by simp; omega) | (simp; done))))) | (refine LetV.pre ?_; first | refine LetV.mk (t := 27) _ hld ?_ | refine LetV.mk (.sc (.int _ _)) rfl ?_) | (refine LetI.pre ?_; first | refine LetI.wrap (by omega) (by omega) ?_ | refine LetI.mk _ rfl ?_) | (refine LetB.pre ?_; first | refine LetB.dect (by omega) ?_ | refine LetB.decf (by omega) ?_) | (refine Gd.pre ?_; first | refine Gd.run rfl ?_) | (refine Br.pre ?_; first | refine Br.tt rfl ?_ | refine Br.ff rfl ?_) | (refine Ck.pre ?_; first | refine Ck.mk rfl ?_)))); (try (conv => whnf)))
      refine LoopN.weak ?sw1 hnx
      case sw1 => exact SW.mk _root_.id rfl rfl rfl ⟨.refl _, .refl _, .refl _, VLe2.int (by omega), trivial⟩ (haveV.row rfl rfl trivial)
  · rw [qG, decide_eq_false c1, Bool.false_and, if_neg Bool.false_ne_true] at h2
    have hnx := ih (j + 1) ⟨hlt, h2⟩ (by omega)
    clear ih
    ((repeat ((conv => whnf); (first | (refine As.pre ?_; first | refine As.mk rfl ?_ | (refine As.mk ?_ ?_; · ((repeat' (refine andT ?_ ?_)) <;> (first | rfl | assumption | exact decide_eq_true (by omega) | exact decide_eq_true (by dsimp only; omega) | exact decide_eq_true (by simp; omega) | (simp; done))))) | (refine LetV.pre ?_; first | refine LetV.mk (t := 27) _ hld ?_ | refine LetV.mk (.sc (.int _ _)) rfl ?_) | (refine LetI.pre ?_; first | refine LetI.wrap (by omega) (by omega) ?_ | refine LetI.mk _ rfl ?_) | (refine LetB.pre ?_; first | refine LetB.dect (by omega) ?_ | refine LetB.decf (by omega) ?_) | (refine Gd.pre ?_; first | refine Gd.pass rfl ?_) | (refine Br.pre ?_; first | refine Br.tt rfl ?_ | refine Br.ff rfl ?_) | (refine Ck.pre ?_; first | refine Ck.mk rfl ?_)))); (try (conv => whnf)))
    refine LoopN.weak ?sw2 hnx
    case sw2 => exact SW.mk _root_.id rfl rfl rfl ⟨.refl _, .refl _, .refl _, VLe2.int (by omega), trivial⟩ (haveV.row rfl rfl trivial)
theorem mn_snoc (l : List Int) (x : Int) : minP (l ++ [x]) = if l = [] then x else min (minP l) x := by
  cases l with
  | nil => rfl
  | cons y ys =>
    rw [if_neg (by simp)]
    show (ys ++ [x]).foldl min y = min (ys.foldl min y) x
    rw [List.foldl_append]; rfl
theorem mx_snoc (l : List Int) (x : Int) : maxP (l ++ [x]) = if l = [] then x else max (maxP l) x := by
  cases l with
  | nil => rfl
  | cons y ys =>
    rw [if_neg (by simp)]
    show (ys ++ [x]).foldl max y = max (ys.foldl max y) x
    rw [List.foldl_append]; rfl
abbrev rtmS (l : List E) (fl : Fl) (st a : Int) : Nat × Int × Int × Bool → AS
  | (k, f, z, b) => ⟨[(0, .ro fl 15 (l.map en)), (1, int st), (2, int a), (9, int f), (10, int z), (11, bool b), (12, int k)], [], 0⟩
def okT (out : List Int) (i : Int × Int × Bool) : Prop := i.1 = minP out ∧ i.2.1 = maxP out ∧ i.2.2 = decide (out ≠ [])
theorem okT_snoc {out : List Int} {f z : Int} {b : Bool} (h : okT out (f, z, b)) (t : Int) : okT (out ++ [t]) (if b then min f t else t, if b then max z t else t, true) := by
  obtain ⟨h1, h2, h3⟩ := h
  dsimp only at h1 h2 h3
  refine ⟨?_, ?_, ?_⟩
  · rw [mn_snoc, h1, h3]; by_cases c : out = [] <;> simp [c]
  · rw [mx_snoc, h2, h3]; by_cases c : out = [] <;> simp [c]
  · simp
set_option maxHeartbeats 1600000 in
set_option maxRecDepth 100000 in
theorem refTerms_f (l : List E) (st a : Int) (fl : Fl) (hl : l.length ≤ 1000) (ho : ∀ e ∈ l, Dt.okW e.on_) : AFun Try.prog 14 0 [.ro fl 15 (l.map en), int st, int a] [] (.tup [int (minP (trmP l st a)), int (maxP (trmP l st a)), bool (decide (trmP l st a ≠ []))]) [] := by
  refine AFun.of_W T_ok mixed Try.func14 rfl (Nat.le_of_ble_eq_true rfl) rfl ?_
  have hml : (l.map en).length = l.length := List.length_map _
  ((repeat ((conv => whnf); (first | (refine As.pre ?_; first | refine As.mk rfl ?_) | (refine Ck.pre ?_; first | refine Ck.mk rfl ?_)))); (try (conv => whnf)))
  refine LoopN.weak (s1 := rtmS l fl st a (0, 0, 0, false)) ?sw0 ?_
  case sw0 => exact SW.fr0 (Nat.le_refl _) rfl ⟨.refl _, .refl _, .refl _, .refl _, .refl _, .refl _, .refl _, trivial⟩
  refine LoopN.ind T_ok mixed (S := rtmS l fl st a) (fun i => l.length - i.1) (fun i => i.1 ≤ l.length ∧ okT (((l.take i.1).filter (tmB st a)).map fun e => e.on_ / 100) i.2) (fun _ => rfl) (fun i hi ih => ?_) (0, 0, 0, false) ⟨Nat.zero_le _, rfl, rfl, rfl⟩
  obtain ⟨k, f, z, b⟩ := i
  obtain ⟨h1, h2⟩ := hi
  dsimp only at h1 h2
  by_cases hlt : k < l.length
  case neg =>
    clear ih
    rw [List.take_of_length_le (by omega)] at h2
    obtain ⟨e1, e2, e3⟩ := h2
    dsimp only at e1 e2 e3
    unfold trmP
    rw [← e1, ← e2, ← e3]
    ((repeat ((conv => whnf); (first | (refine As.pre ?_; first | refine As.mk rfl ?_) | (refine LetI.pre ?_; first | refine LetI.mk _ rfl ?_) | (refine LetB.pre ?_; first | refine LetB.decf (by omega) ?_) | (refine Br.pre ?_; first | refine Br.ff rfl ?_) | (refine Ck.pre ?_; first | refine Ck.mk rfl ?_)))); (try (conv => whnf)))
    exact ⟨.inl rfl, ⟨_, rfl, rfl⟩, trivial⟩
  have hld := tmD hlt
  have hoe := ho _ (getD_mem' hlt)
  have hq : ((l.take (k + 1)).filter (tmB st a)).map (fun e => e.on_ / 100) = ((l.take k).filter (tmB st a)).map (fun e => e.on_ / 100) ++ if tmB st a (l.getD k e0) then [(l.getD k e0).on_ / 100] else [] := by
    rw [List.take_succ_eq_append_getElem hlt, List.filter_append, List.map_append, List.getD_eq_getElem?_getD, List.getElem?_eq_getElem hlt]
    congr 1
    simp only [Option.getD_some, List.filter_cons, List.filter_nil]
    split <;> rfl
  generalize ((l.take k).filter (tmB st a)).map (fun e => e.on_ / 100) = out at h2 hq
  generalize l.getD k e0 = e at hld hoe hq
  by_cases hc : e.kind = 3 ∧ e.student = st ∧ e.day ≤ a
  · rw [if_pos (decide_eq_true hc)] at hq
    obtain ⟨c1, c2, c3⟩ := hc
    have hT := Dt.refTerm_f e.on_ hoe
    generalize e.on_ / 100 = t at hT hq
    have hS := okT_snoc h2 t
    rw [← hq] at hS
    have hnx := ih (k + 1, _, _, true) ⟨by show k + 1 ≤ l.length; omega, hS⟩ (by show l.length - (k + 1) < l.length - k; omega)
    clear ih hq hS h2
    cases b with
    | false =>
      ((repeat ((conv => whnf); (first | (refine As.pre ?_; first | refine As.mk rfl ?_ | (refine As.mk ?_ ?_; · ((repeat' (refine andT ?_ ?_)) <;> (first | rfl | assumption | exact decide_eq_true (by omega) | exact decide_eq_true (by dsimp only; omega) | exact decide_eq_true (by simp; omega) | (simp; done))))) | (refine LetV.pre ?_; first | refine LetV.mk (t := 27) _ hld ?_ | refine LetV.mk (.sc (.int _ _)) rfl ?_) | (refine LetI.pre ?_; first | refine LetI.wrap (by omega) (by omega) ?_ | refine LetI.mk _ rfl ?_) | (refine LetB.pre ?_; first | refine LetB.dect (by omega) ?_ | refine LetB.decf (by omega) ?_ | refine LetB.bnef (by omega) ?_) | (refine Gd.pre ?_; first | refine Gd.run rfl ?_ | refine Gd.pass rfl ?_) | (refine Br.pre ?_; first | refine Br.tt rfl ?_ | refine Br.ff rfl ?_) | (refine Ck.pre ?_; first | refine Ck.mk rfl ?_) | (refine CallN.pre ?_; first | refine CallN.pure hT rfl rfl ?_)))); (try (conv => whnf)))


      refine LoopN.weak ?sw1 hnx
      case sw1 => exact SW.fr0 (Nat.le_refl _) rfl ⟨.refl _, .refl _, .refl _, .refl _, .refl _, .refl _, VLe2.int (by omega), trivial⟩
    | true =>
      by_cases d1 : t < f
      · by_cases d2 : t > z
        · ((repeat ((conv => whnf); (first | (refine As.pre ?_; first | refine As.mk rfl ?_ | (refine As.mk ?_ ?_; · ((repeat' (refine andT ?_ ?_)) <;> (first | rfl | assumption | exact decide_eq_true (by omega) | exact decide_eq_true (by dsimp only; omega) | exact decide_eq_true (by simp; omega) | (simp; done))))) | (refine LetV.pre ?_; first | refine LetV.mk (t := 27) _ hld ?_ | refine LetV.mk (.sc (.int _ _)) rfl ?_) | (refine LetI.pre ?_; first | refine LetI.wrap (by omega) (by omega) ?_ | refine LetI.mk _ rfl ?_) | (refine LetB.pre ?_; first | refine LetB.dect (by omega) ?_ | refine LetB.decf (by omega) ?_ | refine LetB.bnef (by omega) ?_) | (refine Gd.pre ?_; first | refine Gd.run rfl ?_) | (refine Br.pre ?_; first | refine Br.tt rfl ?_ | refine Br.ff rfl ?_) | (refine Ck.pre ?_; first | refine Ck.mk rfl ?_) | (refine CallN.pre ?_; first | refine CallN.pure hT rfl rfl ?_)))); (try (conv => whnf)))


          refine LoopN.weak ?sw2 hnx
          case sw2 => exact SW.fr0 (Nat.le_refl _) rfl ⟨.refl _, .refl _, .refl _, VLe2.int (by rw [if_pos rfl]; omega), VLe2.int (by rw [if_pos rfl]; omega), .refl _, VLe2.int (by omega), trivial⟩
        · ((repeat ((conv => whnf); (first | (refine As.pre ?_; first | refine As.mk rfl ?_ | (refine As.mk ?_ ?_; · ((repeat' (refine andT ?_ ?_)) <;> (first | rfl | assumption | exact decide_eq_true (by omega) | exact decide_eq_true (by dsimp only; omega) | exact decide_eq_true (by simp; omega) | (simp; done))))) | (refine LetV.pre ?_; first | refine LetV.mk (t := 27) _ hld ?_ | refine LetV.mk (.sc (.int _ _)) rfl ?_) | (refine LetI.pre ?_; first | refine LetI.wrap (by omega) (by omega) ?_ | refine LetI.mk _ rfl ?_) | (refine LetB.pre ?_; first | refine LetB.dect (by omega) ?_ | refine LetB.decf (by omega) ?_ | refine LetB.bnef (by omega) ?_) | (refine Gd.pre ?_; first | refine Gd.run rfl ?_) | (refine Br.pre ?_; first | refine Br.tt rfl ?_ | refine Br.ff rfl ?_) | (refine Ck.pre ?_; first | refine Ck.mk rfl ?_) | (refine CallN.pre ?_; first | refine CallN.pure hT rfl rfl ?_)))); (try (conv => whnf)))


          refine LoopN.weak ?sw3 hnx
          case sw3 => exact SW.fr0 (Nat.le_refl _) rfl ⟨.refl _, .refl _, .refl _, VLe2.int (by rw [if_pos rfl]; omega), VLe2.int (by rw [if_pos rfl]; omega), .refl _, VLe2.int (by omega), trivial⟩
      · by_cases d2 : t > z
        · ((repeat ((conv => whnf); (first | (refine As.pre ?_; first | refine As.mk rfl ?_ | (refine As.mk ?_ ?_; · ((repeat' (refine andT ?_ ?_)) <;> (first | rfl | assumption | exact decide_eq_true (by omega) | exact decide_eq_true (by dsimp only; omega) | exact decide_eq_true (by simp; omega) | (simp; done))))) | (refine LetV.pre ?_; first | refine LetV.mk (t := 27) _ hld ?_ | refine LetV.mk (.sc (.int _ _)) rfl ?_) | (refine LetI.pre ?_; first | refine LetI.wrap (by omega) (by omega) ?_ | refine LetI.mk _ rfl ?_) | (refine LetB.pre ?_; first | refine LetB.dect (by omega) ?_ | refine LetB.decf (by omega) ?_ | refine LetB.bnef (by omega) ?_) | (refine Gd.pre ?_; first | refine Gd.run rfl ?_) | (refine Br.pre ?_; first | refine Br.tt rfl ?_ | refine Br.ff rfl ?_) | (refine Ck.pre ?_; first | refine Ck.mk rfl ?_) | (refine CallN.pre ?_; first | refine CallN.pure hT rfl rfl ?_)))); (try (conv => whnf)))


          refine LoopN.weak ?sw4 hnx
          case sw4 => exact SW.fr0 (Nat.le_refl _) rfl ⟨.refl _, .refl _, .refl _, VLe2.int (by rw [if_pos rfl]; omega), VLe2.int (by rw [if_pos rfl]; omega), .refl _, VLe2.int (by omega), trivial⟩
        · ((repeat ((conv => whnf); (first | (refine As.pre ?_; first | refine As.mk rfl ?_ | (refine As.mk ?_ ?_; · ((repeat' (refine andT ?_ ?_)) <;> (first | rfl | assumption | exact decide_eq_true (by omega) | exact decide_eq_true (by dsimp only; omega) | exact decide_eq_true (by simp; omega) | (simp; done))))) | (refine LetV.pre ?_; first | refine LetV.mk (t := 27) _ hld ?_ | refine LetV.mk (.sc (.int _ _)) rfl ?_) | (refine LetI.pre ?_; first | refine LetI.wrap (by omega) (by omega) ?_ | refine LetI.mk _ rfl ?_) | (refine LetB.pre ?_; first | refine LetB.dect (by omega) ?_ | refine LetB.decf (by omega) ?_ | refine LetB.bnef (by omega) ?_) | (refine Gd.pre ?_; first | refine Gd.run rfl ?_) | (refine Br.pre ?_; first | refine Br.tt rfl ?_ | refine Br.ff rfl ?_) | (refine Ck.pre ?_; first | refine Ck.mk rfl ?_) | (refine CallN.pre ?_; first | refine CallN.pure hT rfl rfl ?_)))); (try (conv => whnf)))


          refine LoopN.weak ?sw5 hnx
          case sw5 => exact SW.fr0 (Nat.le_refl _) rfl ⟨.refl _, .refl _, .refl _, VLe2.int (by rw [if_pos rfl]; omega), VLe2.int (by rw [if_pos rfl]; omega), .refl _, VLe2.int (by omega), trivial⟩
  · rw [if_neg (by simpa using hc), List.append_nil] at hq
    have hnx := ih (k + 1, f, z, b) ⟨by show k + 1 ≤ l.length; omega, by dsimp only; rw [hq]; exact h2⟩ (by show l.length - (k + 1) < l.length - k; omega)
    clear ih hq h2
    by_cases c1 : e.kind = 3
    · by_cases c2 : e.student = st
      · have c3 : ¬ e.day ≤ a := fun h => hc ⟨c1, c2, h⟩
        ((repeat ((conv => whnf); (first | (refine As.pre ?_; first | refine As.mk rfl ?_ | (refine As.mk ?_ ?_; · ((repeat' (refine andT ?_ ?_)) <;> (first | rfl | assumption | exact decide_eq_true (by omega) | exact decide_eq_true (by dsimp only; omega) | exact decide_eq_true (by simp; omega) | (simp; done))))) | (refine LetV.pre ?_; first | refine LetV.mk (t := 27) _ hld ?_ | refine LetV.mk (.sc (.int _ _)) rfl ?_) | (refine LetI.pre ?_; first | refine LetI.wrap (by omega) (by omega) ?_ | refine LetI.mk _ rfl ?_) | (refine LetB.pre ?_; first | refine LetB.dect (by omega) ?_ | refine LetB.bnef (by omega) ?_) | (refine Gd.pre ?_; first | refine Gd.run rfl ?_) | (refine Br.pre ?_; first | refine Br.tt rfl ?_) | (refine Ck.pre ?_; first | refine Ck.mk rfl ?_)))); (try (conv => whnf)))
        refine LoopN.weak ?sw6 hnx
        case sw6 => exact SW.fr0 (Nat.le_refl _) rfl ⟨.refl _, .refl _, .refl _, .refl _, .refl _, .refl _, VLe2.int (by omega), trivial⟩
      · ((repeat ((conv => whnf); (first | (refine As.pre ?_; first | refine As.mk rfl ?_ | (refine As.mk ?_ ?_; · ((repeat' (refine andT ?_ ?_)) <;> (first | rfl | assumption | exact decide_eq_true (by omega) | exact decide_eq_true (by dsimp only; omega) | exact decide_eq_true (by simp; omega) | (simp; done))))) | (refine LetV.pre ?_; first | refine LetV.mk (t := 27) _ hld ?_ | refine LetV.mk (.sc (.int _ _)) rfl ?_) | (refine LetI.pre ?_; first | refine LetI.wrap (by omega) (by omega) ?_ | refine LetI.mk _ rfl ?_) | (refine LetB.pre ?_; first | refine LetB.dect (by omega) ?_ | refine LetB.bnet (by omega) ?_ | refine LetB.bnef (by omega) ?_) | (refine Gd.pre ?_; first | refine Gd.run rfl ?_ | refine Gd.pass rfl ?_) | (refine Br.pre ?_; first | refine Br.tt rfl ?_) | (refine Ck.pre ?_; first | refine Ck.mk rfl ?_)))); (try (conv => whnf)))
        refine LoopN.weak ?sw7 hnx
        case sw7 => exact SW.fr0 (Nat.le_refl _) rfl ⟨.refl _, .refl _, .refl _, .refl _, .refl _, .refl _, VLe2.int (by omega), trivial⟩
    · ((repeat ((conv => whnf); (first | (refine As.pre ?_; first | refine As.mk rfl ?_ | (refine As.mk ?_ ?_; · ((repeat' (refine andT ?_ ?_)) <;> (first | rfl | assumption | exact decide_eq_true (by omega) | exact decide_eq_true (by dsimp only; omega) | exact decide_eq_true (by simp; omega) | (simp; done))))) | (refine LetV.pre ?_; first | refine LetV.mk (t := 27) _ hld ?_ | refine LetV.mk (.sc (.int _ _)) rfl ?_) | (refine LetI.pre ?_; first | refine LetI.wrap (by omega) (by omega) ?_ | refine LetI.mk _ rfl ?_) | (refine LetB.pre ?_; first | refine LetB.dect (by omega) ?_ | refine LetB.bnet (by omega) ?_) | (refine Gd.pre ?_; first | refine Gd.pass rfl ?_) | (refine Br.pre ?_; first | refine Br.tt rfl ?_) | (refine Ck.pre ?_; first | refine Ck.mk rfl ?_)))); (try (conv => whnf)))
      refine LoopN.weak ?sw8 hnx
      case sw8 => exact SW.fr0 (Nat.le_refl _) rfl ⟨.refl _, .refl _, .refl _, .refl _, .refl _, .refl _, VLe2.int (by omega), trivial⟩
theorem refended_f (a t : Int) : AFun Try.prog 34 0 [int t, int a] [] (bool (endP t a)) [] := by
  refine AFun.of_W T_ok mixed Try.func34 rfl (Nat.le_of_ble_eq_true rfl) rfl ?_
  unfold endP
  by_cases h1 : 0 ≤ t
  · by_cases h2 : t ≤ 1000
    · have hL := Dt.refLast_f t (by omega)
      by_cases h3 : 100 * t + 99 ≤ a
      · rw [decide_eq_true ⟨h1, h2, h3⟩]
        ((repeat ((conv => whnf); (first | (refine As.pre ?_; first | refine As.mk rfl ?_) | (refine LetB.pre ?_; first | refine LetB.dect (by omega) ?_) | (refine Gd.pre ?_; first | refine Gd.run rfl ?_) | (refine Ck.pre ?_; first | refine Ck.mk rfl ?_) | (refine CallN.pre ?_; first | refine CallN.pure hL rfl rfl ?_)))); (try (conv => whnf)))
        exact ⟨.inl rfl, ⟨_, rfl, rfl⟩, trivial⟩
      · rw [decide_eq_false (fun h => h3 h.2.2)]
        ((repeat ((conv => whnf); (first | (refine As.pre ?_; first | refine As.mk rfl ?_) | (refine LetB.pre ?_; first | refine LetB.dect (by omega) ?_ | refine LetB.decf (by omega) ?_) | (refine Gd.pre ?_; first | refine Gd.run rfl ?_) | (refine Ck.pre ?_; first | refine Ck.mk rfl ?_) | (refine CallN.pre ?_; first | refine CallN.pure hL rfl rfl ?_)))); (try (conv => whnf)))
        exact ⟨.inl rfl, ⟨_, rfl, rfl⟩, trivial⟩
    · rw [decide_eq_false (fun h => h2 h.2.1)]
      ((repeat ((conv => whnf); (first | (refine As.pre ?_; first | refine As.mk rfl ?_) | (refine LetB.pre ?_; first | refine LetB.dect (by omega) ?_ | refine LetB.decf (by omega) ?_) | (refine Gd.pre ?_; first | refine Gd.run rfl ?_ | refine Gd.pass rfl ?_) | (refine Ck.pre ?_; first | refine Ck.mk rfl ?_)))); (try (conv => whnf)))
      exact ⟨.inl rfl, ⟨_, rfl, rfl⟩, trivial⟩
  · rw [decide_eq_false (fun h => h1 h.1)]
    ((repeat ((conv => whnf); (first | (refine As.pre ?_; first | refine As.mk rfl ?_) | (refine LetB.pre ?_; first | refine LetB.decf (by omega) ?_) | (refine Gd.pre ?_; first | refine Gd.pass rfl ?_) | (refine Ck.pre ?_; first | refine Ck.mk rfl ?_)))); (try (conv => whnf)))
    exact ⟨.inl rfl, ⟨_, rfl, rfl⟩, trivial⟩
end En
end Go.Proofs.Ytnegdmjmllmclaa
namespace Go.Proofs.Ytnegdmjmllmclaa
open Go.Proofs.Ytnegdmjmllmclaa.Am
set_option maxRecDepth 100000
namespace En
/-! ### The reference's grades and credits of a term -/
abbrev gA (s : Sc.Scl) (x : St × Int) : AV := .agg [int x.1.entry, int x.1.by_, int x.1.grade, bool x.1.void, int x.2, bool (psB s x.1)]
abbrev gty : TypeId := 80
theorem pure_g (s : Sc.Scl) : ∀ l : List (St × Int), AV.namesL (fun _ => false) (l.map (gA s)) = true
  | [] => rfl
  | p :: l => by simp only [List.map_cons, AV.namesL, pure_g s l]; rfl
theorem app_g (s : Sc.Scl) (l : List (St × Int)) (e : St × Int) (n : Nat) (h : n = l.length) : (l ++ [e]).map (gA s) = (l.map (gA s)).take n ++ [gA s e] := by rw [List.take_of_length_le (by simp [h]), List.map_append]; rfl
theorem room_g {n : Nat} (h : n ≤ 1000000) : room n 48 = true := by
  simp only [room, Bool.and_eq_true, decide_eq_true_eq]
  exact ⟨by omega, rfl⟩
abbrev sx0 : St × Int := (⟨0, 0, 0, false⟩, 0)
theorem getD_g (s : Sc.Scl) {l : List (St × Int)} {k : Nat} (h : k < l.length) : gA s (l.getD k sx0) = (l.map (gA s)).getD k (.sc undef) := mapD (f := gA s) sx0 h
abbrev rgrS (l : List E) (fl : Fl) (s : Sc.Scl) (st t : Int) (A : List St) : Nat × List (St × Int) → AS
  | (k, out) => ⟨[(0, .ro fl 15 (l.map en)), (2, int st), (4, int t), (6, .ptr 0 3 0 0), (11, .slm {} 1 6 0 out.length), (12, .ro {} 4 (A.map stA)), (13, int k)], [(0, .row 3 29 [Sc.scA s]), (1, .row 6 gty (out.map (gA s)))], 2⟩
set_option maxHeartbeats 1600000 in
set_option maxRecDepth 100000 in
theorem refgrades_s (l : List E) (s : Sc.Scl) (st a t : Int) (fl : Fl) (hl : l.length < 40) (ht : 0 ≤ t ∧ t ≤ 1000) (ho : ∀ e ∈ l, Dt.okW e.on_) : AFun Try.prog 35 0 [.ro fl 15 (l.map en), Sc.scA s, int st, int a, int t] [] (.slm {} 0 6 0 (grdP l st a t).length) [(0, .row 6 gty ((grdP l st a t).map (gA s)))] := by
  refine AFun.of_S T_ok mixed Try.func35 rfl (Nat.le_of_ble_eq_true rfl) rfl ?_
  have hL := Dt.refLast_f t (by omega)
  have hA := rAt_f l a (100 * t + 99) fl (by omega)
  rw [← at_eq] at hA
  have hx3 : ∀ x ∈ atP l a (100 * t + 99), ∃ e ∈ l, e.kind = 3 ∧ x.entry = e.id := fun x hx => mem_at3 hx
  have hlen := atP_len (l := l) a (100 * t + 99)
  rw [grdP]
  generalize atP l a (100 * t + 99) = A at hA hlen hx3 ⊢
  have hml : (l.map en).length = l.length := List.length_map _
  have hmA : (A.map stA).length = A.length := List.length_map _
  generalize hR : A.filterMap (gsel l st t) = R
  ((repeat ((conv => whnf); (first | (refine LetN.pre ?_; first | ((conv => arg 1; whnf); refine LetN.mk ?_)) | (refine As.pre ?_; first | refine As.mk rfl ?_) | (refine Ck.pre ?_; first | refine Ck.mk rfl ?_) | (refine CallN.pre ?_; first | refine CallN.pure hL rfl rfl ?_ | refine CallN.pure hA rfl rfl ?_)))); (try (conv => whnf)))



  refine LoopN.weak (s1 := rgrS l fl s st t A (0, [])) ?sw0 ?_
  case sw0 => exact SW.mk id rfl rfl rfl ⟨.refl _, .refl _, .refl _, .refl _, VLe2.nilslm, .refl _, .refl _, trivial⟩ (haveV.row rfl rfl (haveV.nil (Nat.le_of_ble_eq_true rfl) trivial))
  clear hL hA
  refine LoopN.ind T_ok mixed (S := rgrS l fl s st t A) (fun i => A.length - i.1) (fun i => i.1 ≤ A.length ∧ i.2 = (A.take i.1).filterMap (gsel l st t)) (fun _ => rfl) (fun i hi ih => ?_) (0, []) ⟨Nat.zero_le _, rfl⟩
  obtain ⟨k, out⟩ := i
  obtain ⟨h1, h2⟩ := hi
  dsimp only at h1 h2
  by_cases hlt : k < A.length
  case neg =>
    clear ih
    rw [List.take_of_length_le (by omega), hR] at h2
    subst h2
    ((repeat ((conv => whnf); (first | (refine As.pre ?_; first | refine As.mk rfl ?_) | (refine LetI.pre ?_; first | refine LetI.mk _ rfl ?_) | (refine LetB.pre ?_; first | refine LetB.decf (by omega) ?_) | (refine Br.pre ?_; first | refine Br.ff rfl ?_) | (refine Ck.pre ?_; first | refine Ck.mk rfl ?_)))); (try (conv => whnf)))
    exact ⟨⟨[(10, .slm {} 0 6 0 out.length)], [(0, .row 6 gty (out.map (gA s)))], 2⟩, SW.mk (fun _ => 1) rfl rfl (namesAll.row (pure_g s _) rfl) ⟨.refl _, trivial⟩ (haveV.row (pure_g s _) rfl trivial), .inl rfl, ⟨_, rfl, rfl⟩, rfl, trivial⟩
  have hld := stD hlt
  have hq := fm_succ (gsel l st t) hlt ⟨0, 0, 0, false⟩
  rw [← h2] at hq
  have hol : out.length ≤ k := by
    have := List.length_filterMap_le (gsel l st t) (A.take k)
    rw [h2]
    rw [List.length_take] at this
    omega
  have hxm : A.getD k ⟨0, 0, 0, false⟩ ∈ A := by rw [List.getD_eq_getElem?_getD, List.getElem?_eq_getElem hlt]; exact List.getElem_mem _
  have hx := hx3 _ hxm
  rw [gsel_fst l st t _ hx] at hq
  have hem := fst_mem hx
  clear h2 hR hx3 hxm hx
  generalize A.getD k ⟨0, 0, 0, false⟩ = x at hld hq hem
  have hE := entry_f l x.entry fl (by omega)
  have hoe := ho _ hem
  generalize fstG l x.entry = e at hE hoe hq
  have hT := Dt.refTerm_f e.on_ hoe
  generalize e.on_ / 100 = t' at hT hq
  clear hem ho
  by_cases hst : e.student = st
  case neg =>
    rw [if_neg (fun h => hst h.1)] at hq
    have hnx := ih (k + 1, out) ⟨hlt, by dsimp only; rw [hq]; exact (List.append_nil _).symm⟩ (by show A.length - (k + 1) < A.length - k; omega)
    clear ih hq
    ((repeat ((conv => whnf); (first | (refine LetN.pre ?_; first | ((conv => arg 1; whnf); refine LetN.mk ?_)) | (refine As.pre ?_; first | refine As.mk rfl ?_ | (refine As.mk ?_ ?_; · ((repeat' (refine andT ?_ ?_)) <;> (first | rfl | assumption | exact decide_eq_true (by omega) | exact decide_eq_true (by dsimp only; omega) | exact decide_eq_true (by simp; omega) | (simp; done))))) | (refine LetV.pre ?_; first | refine LetV.mk (t := 56) _ hld ?_ | refine LetV.mk (.sc (.int _ _)) rfl ?_) | (refine LetI.pre ?_; first | refine LetI.wrap (by omega) (by omega) ?_ | refine LetI.mk _ rfl ?_) | (refine LetB.pre ?_; first | refine LetB.dect (by omega) ?_ | refine LetB.decf (by omega) ?_) | (refine Gd.pre ?_; first | refine Gd.pass rfl ?_) | (refine Br.pre ?_; first | refine Br.tt rfl ?_ | refine Br.ff rfl ?_) | (refine Ck.pre ?_; first | refine Ck.mk rfl ?_) | (refine LetL.pre ?_; first | refine LetL.mk [_] rfl ?_) | (refine CallN.pre ?_; first | refine CallN.pure hE rfl rfl ?_)))); (try (conv => whnf)))


    refine LoopN.weak ?sw2 hnx
    case sw2 => exact SW.mk id rfl rfl (namesAll.row rfl (namesAll.row (pure_g s _) rfl)) ⟨.refl _, .refl _, .refl _, .refl _, .refl _, .refl _, VLe2.int (by omega), trivial⟩ (haveV.row rfl rfl (haveV.row (pure_g s _) rfl trivial))
  by_cases htt : t' = t
  case neg =>
    rw [if_neg (fun h => htt h.2)] at hq
    have hnx := ih (k + 1, out) ⟨hlt, by dsimp only; rw [hq]; exact (List.append_nil _).symm⟩ (by show A.length - (k + 1) < A.length - k; omega)
    clear ih hq
    ((repeat ((conv => whnf); (first | (refine LetN.pre ?_; first | ((conv => arg 1; whnf); refine LetN.mk ?_)) | (refine As.pre ?_; first | refine As.mk rfl ?_ | (refine As.mk ?_ ?_; · ((repeat' (refine andT ?_ ?_)) <;> (first | rfl | assumption | exact decide_eq_true (by omega) | exact decide_eq_true (by dsimp only; omega) | exact decide_eq_true (by simp; omega) | (simp; done))))) | (refine LetV.pre ?_; first | refine LetV.mk (t := 56) _ hld ?_ | refine LetV.mk (.sc (.int _ _)) rfl ?_) | (refine LetI.pre ?_; first | refine LetI.wrap (by omega) (by omega) ?_ | refine LetI.mk _ rfl ?_) | (refine LetB.pre ?_; first | refine LetB.dect (by omega) ?_ | refine LetB.decf (by omega) ?_) | (refine Gd.pre ?_; first | refine Gd.run rfl ?_) | (refine Br.pre ?_; first | refine Br.tt rfl ?_ | refine Br.ff rfl ?_) | (refine Ck.pre ?_; first | refine Ck.mk rfl ?_) | (refine LetL.pre ?_; first | refine LetL.mk [_] rfl ?_) | (refine CallN.pre ?_; first | refine CallN.pure hE rfl rfl ?_ | refine CallN.pure hT rfl rfl ?_)))); (try (conv => whnf)))



    refine LoopN.weak ?sw3 hnx
    case sw3 => exact SW.mk id rfl rfl (namesAll.row rfl (namesAll.row (pure_g s _) rfl)) ⟨.refl _, .refl _, .refl _, .refl _, .refl _, .refl _, VLe2.int (by omega), trivial⟩ (haveV.row rfl rfl (haveV.row (pure_g s _) rfl trivial))
  rw [if_pos ⟨hst, htt⟩] at hq
  have hnx := ih (k + 1, out ++ [(x, e.credits)]) ⟨hlt, by dsimp only; rw [hq]; rfl⟩ (by show A.length - (k + 1) < A.length - k; omega)
  clear ih hq
  have hr := room_g (n := out.length + 1) (by omega)
  have happ := app_g s out (x, e.credits) out.length rfl
  have hlo : (out ++ [(x, e.credits)]).length = out.length + 1 := by simp
  have hP := Sc.refPassed_f s x.grade
  obtain ⟨xe, xb, xg, xv⟩ := x
  dsimp only at hP
  by_cases hp : Sc.rea s xg s.2.2
  · rw [decide_eq_true hp] at hP
    cases xv with
    | true =>
      have hps : psB s ⟨xe, xb, xg, true⟩ = false := rfl
      ((repeat ((conv => whnf); (first | (refine LetN.pre ?_; first | ((conv => arg 1; whnf); refine LetN.mk ?_)) | (refine As.pre ?_; first | refine As.mk rfl ?_ | (refine As.mk ?_ ?_; · ((repeat' (refine andT ?_ ?_)) <;> (first | rfl | assumption | exact decide_eq_true (by omega) | exact decide_eq_true (by dsimp only; omega) | exact decide_eq_true (by simp; omega) | (simp; done))))) | (refine LetV.pre ?_; first | refine LetV.mk (t := 56) _ hld ?_ | refine LetV.mk (.sc (.int _ _)) rfl ?_ | refine LetV.mk (.sc (.bool _)) rfl ?_ | refine LetV.mk (.agg _) rfl ?_) | (refine LetI.pre ?_; first | refine LetI.wrap (by omega) (by omega) ?_ | refine LetI.mk _ rfl ?_) | (refine LetB.pre ?_; first | refine LetB.dect (by omega) ?_) | (refine Gd.pre ?_; first | refine Gd.run rfl ?_) | (refine Br.pre ?_; first | refine Br.tt rfl ?_) | (refine Ck.pre ?_; first | refine Ck.drawn (by kernel_rfl) ?_ | refine Ck.mk rfl ?_) | (refine LetL.pre ?_; first | refine LetL.mk (ty := gty) _ happ ?_ | refine LetL.mk [_] rfl ?_) | (refine CallN.pre ?_; first | refine CallN.pure hE rfl rfl ?_ | refine CallN.pure hP rfl rfl ?_ | refine CallN.pure hT rfl rfl ?_)))); (try (conv => whnf)))





      refine LoopN.weak ?sw4 hnx
      case sw4 => exact SW.mk (fun i => if i = 1 then 3 else i) rfl rfl (namesAll.row rfl (namesAll.row (pure_g s _) rfl)) ⟨.refl _, .refl _, .refl _, .refl _, VLe2.slm_of hlo, .refl _, VLe2.int (by omega), trivial⟩ (haveV.row rfl rfl (haveV.row (pure_g s _) rfl trivial))
    | false =>
      have hps : psB s ⟨xe, xb, xg, false⟩ = true := decide_eq_true hp
      dsimp only [gA] at happ
      rw [hps] at happ
      ((repeat ((conv => whnf); (first | (refine LetN.pre ?_; first | ((conv => arg 1; whnf); refine LetN.mk ?_)) | (refine As.pre ?_; first | refine As.mk rfl ?_ | (refine As.mk ?_ ?_; · ((repeat' (refine andT ?_ ?_)) <;> (first | rfl | assumption | exact decide_eq_true (by omega) | exact decide_eq_true (by dsimp only; omega) | exact decide_eq_true (by simp; omega) | (simp; done))))) | (refine LetV.pre ?_; first | refine LetV.mk (t := 56) _ hld ?_ | refine LetV.mk (.sc (.int _ _)) rfl ?_ | refine LetV.mk (.sc (.bool _)) rfl ?_ | refine LetV.mk (.agg _) rfl ?_) | (refine LetI.pre ?_; first | refine LetI.wrap (by omega) (by omega) ?_ | refine LetI.mk _ rfl ?_) | (refine LetB.pre ?_; first | refine LetB.dect (by omega) ?_) | (refine Gd.pre ?_; first | refine Gd.run rfl ?_) | (refine Br.pre ?_; first | refine Br.tt rfl ?_) | (refine Ck.pre ?_; first | refine Ck.drawn (by kernel_rfl) ?_ | refine Ck.mk rfl ?_) | (refine LetL.pre ?_; first | refine LetL.mk (ty := gty) _ happ ?_ | refine LetL.mk [_] rfl ?_) | (refine CallN.pre ?_; first | refine CallN.pure hE rfl rfl ?_ | refine CallN.pure hP rfl rfl ?_ | refine CallN.pure hT rfl rfl ?_)))); (try (conv => whnf)))





      refine LoopN.weak ?sw5 hnx
      case sw5 => exact SW.mk (fun i => if i = 1 then 3 else i) rfl rfl (namesAll.row rfl (namesAll.row (pure_g s _) rfl)) ⟨.refl _, .refl _, .refl _, .refl _, VLe2.slm_of hlo, .refl _, VLe2.int (by omega), trivial⟩ (haveV.row rfl rfl (haveV.row (pure_g s _) rfl trivial))
  · rw [decide_eq_false hp] at hP
    have hps : psB s ⟨xe, xb, xg, xv⟩ = false := by unfold psB; rw [decide_eq_false hp]; exact Bool.and_false _
    dsimp only [gA] at happ
    rw [hps] at happ
    ((repeat ((conv => whnf); (first | (refine LetN.pre ?_; first | ((conv => arg 1; whnf); refine LetN.mk ?_)) | (refine As.pre ?_; first | refine As.mk rfl ?_ | (refine As.mk ?_ ?_; · ((repeat' (refine andT ?_ ?_)) <;> (first | rfl | assumption | exact decide_eq_true (by omega) | exact decide_eq_true (by dsimp only; omega) | exact decide_eq_true (by simp; omega) | (simp; done))))) | (refine LetV.pre ?_; first | refine LetV.mk (t := 56) _ hld ?_ | refine LetV.mk (.sc (.int _ _)) rfl ?_ | refine LetV.mk (.agg _) rfl ?_) | (refine LetI.pre ?_; first | refine LetI.wrap (by omega) (by omega) ?_ | refine LetI.mk _ rfl ?_) | (refine LetB.pre ?_; first | refine LetB.dect (by omega) ?_) | (refine Gd.pre ?_; first | refine Gd.run rfl ?_ | refine Gd.pass rfl ?_) | (refine Br.pre ?_; first | refine Br.tt rfl ?_) | (refine Ck.pre ?_; first | refine Ck.drawn (by kernel_rfl) ?_ | refine Ck.mk rfl ?_) | (refine LetL.pre ?_; first | refine LetL.mk (ty := gty) _ happ ?_ | refine LetL.mk [_] rfl ?_) | (refine CallN.pre ?_; first | refine CallN.pure hE rfl rfl ?_ | refine CallN.pure hP rfl rfl ?_ | refine CallN.pure hT rfl rfl ?_)))); (try (conv => whnf)))





    refine LoopN.weak ?sw6 hnx
    case sw6 => exact SW.mk (fun i => if i = 1 then 3 else i) rfl rfl (namesAll.row rfl (namesAll.row (pure_g s _) rfl)) ⟨.refl _, .refl _, .refl _, .refl _, VLe2.slm_of hlo, .refl _, VLe2.int (by omega), trivial⟩ (haveV.row rfl rfl (haveV.row (pure_g s _) rfl trivial))
theorem refgrades_f (l : List E) (s : Sc.Scl) (st a t : Int) (fl : Fl) (hl : l.length < 40) (ht : 0 ≤ t ∧ t ≤ 1000) (ho : ∀ e ∈ l, Dt.okW e.on_) : AFun Try.prog 35 0 [.ro fl 15 (l.map en), Sc.scA s, int st, int a, int t] [] (.ro {} 6 ((grdP l st a t).map (gA s))) [] :=
  AFun.frz1 (H := []) (refgrades_s l s st a t fl hl ht ho) rfl (pure_g s _) (by simp)
abbrev rcrS (s : Sc.Scl) (L : List (St × Int)) : Nat × Int × Int → AS
  | (k, p, f) => ⟨[(0, .ro {} 6 (L.map (gA s))), (4, int p), (5, int f), (6, int k)], [], 0⟩
set_option maxRecDepth 100000 in
theorem refcredits_f (s : Sc.Scl) (L : List (St × Int)) (hl : L.length ≤ 1000) : AFun Try.prog 38 0 [.ro {} 6 (L.map (gA s))] [] (.tup [int (crP s L).1, int (crP s L).2]) [] := by
  refine AFun.of_W T_ok mixed Try.func38 rfl (Nat.le_of_ble_eq_true rfl) rfl ?_
  have hml : (L.map (gA s)).length = L.length := List.length_map _
  unfold crP
  generalize hR : L.foldl (crS s) (0, 0) = R
  ((repeat ((conv => whnf); (first | (refine As.pre ?_; first | refine As.mk rfl ?_) | (refine Ck.pre ?_; first | refine Ck.mk rfl ?_)))); (try (conv => whnf)))
  refine LoopN.weak (s1 := rcrS s L (0, 0, 0)) ?sw0 ?_
  case sw0 => exact SW.fr0 (Nat.le_refl _) rfl ⟨.refl _, .refl _, .refl _, .refl _, trivial⟩
  refine LoopN.ind T_ok mixed (S := rcrS s L) (fun i => L.length - i.1) (fun i => i.1 ≤ L.length ∧ (L.drop i.1).foldl (crS s) i.2 = R) (fun _ => rfl) (fun i hi ih => ?_) (0, 0, 0) ⟨Nat.zero_le _, hR⟩
  obtain ⟨k, p, f⟩ := i
  obtain ⟨h1, h2⟩ := hi
  dsimp only at h1 h2
  by_cases hlt : k < L.length
  case neg =>
    clear ih
    rw [List.drop_eq_nil_of_le (by omega)] at h2
    subst h2
    ((repeat ((conv => whnf); (first | (refine As.pre ?_; first | refine As.mk rfl ?_) | (refine LetI.pre ?_; first | refine LetI.mk _ rfl ?_) | (refine LetB.pre ?_; first | refine LetB.decf (by omega) ?_) | (refine Br.pre ?_; first | refine Br.ff rfl ?_) | (refine Ck.pre ?_; first | refine Ck.mk rfl ?_)))); (try (conv => whnf)))
    exact ⟨.inl rfl, ⟨_, rfl, rfl⟩, trivial⟩
  have hld := getD_g s hlt
  rw [foldl_drop (crS s) hlt sx0] at h2
  generalize L.getD k sx0 = x at hld h2
  obtain ⟨p', f', hpf⟩ : ∃ p' f', (p', f') = crS s (p, f) x := ⟨_, _, rfl⟩
  rw [← hpf] at h2
  have hnx := ih (k + 1, p', f') ⟨hlt, h2⟩ (by show L.length - (k + 1) < L.length - k; omega)
  clear ih h2 hR
  unfold crS at hpf
  dsimp only [gA] at hld
  have hj : ((k + 1 : Nat) : Int) = IntKind.i64.wrap ((k : Int) + 1) := by rw [wrap_id (by omega) (by omega)]; omega
  cases hb : psB s x.1 with
  | true =>
    rw [hb] at hpf hld
    obtain ⟨rfl, rfl⟩ := Prod.mk.inj hpf
    ((repeat ((conv => whnf); (first | (refine As.pre ?_; first | refine As.mk rfl ?_ | (refine As.mk ?_ ?_; · ((repeat' (refine andT ?_ ?_)) <;> (first | rfl | assumption | exact decide_eq_true (by omega) | exact decide_eq_true (by dsimp only; omega) | exact decide_eq_true (by simp; omega) | (simp; done))))) | (refine LetV.pre ?_; first | refine LetV.mk (t := 77) _ hld ?_ | refine LetV.mk (.sc (.int _ _)) rfl ?_ | refine LetV.mk (.sc (.bool _)) rfl ?_) | (refine LetI.pre ?_; first | refine LetI.mk (o := some .add) ((k + 1 : Nat) : Int) hj ?_ | refine LetI.mk (o := some .add) (IntKind.i64.wrap (p + x.2)) rfl ?_ | refine LetI.mk _ rfl ?_) | (refine LetB.pre ?_; first | refine LetB.dect (by omega) ?_) | (refine Br.pre ?_; first | refine Br.tt rfl ?_) | (refine Ck.pre ?_; first | refine Ck.mk rfl ?_)))); (try (conv => whnf)))



    refine LoopN.weak ?sw1 hnx
    case sw1 => exact SW.fr0 (Nat.le_refl _) rfl ⟨.refl _, .refl _, .refl _, .refl _, trivial⟩
  | false =>
    rw [hb] at hpf hld
    obtain ⟨rfl, rfl⟩ := Prod.mk.inj hpf
    ((repeat ((conv => whnf); (first | (refine As.pre ?_; first | refine As.mk rfl ?_ | (refine As.mk ?_ ?_; · ((repeat' (refine andT ?_ ?_)) <;> (first | rfl | assumption | exact decide_eq_true (by omega) | exact decide_eq_true (by dsimp only; omega) | exact decide_eq_true (by simp; omega) | (simp; done))))) | (refine LetV.pre ?_; first | refine LetV.mk (t := 77) _ hld ?_ | refine LetV.mk (.sc (.int _ _)) rfl ?_ | refine LetV.mk (.sc (.bool _)) rfl ?_) | (refine LetI.pre ?_; first | refine LetI.mk (o := some .add) ((k + 1 : Nat) : Int) hj ?_ | refine LetI.mk (o := some .add) (IntKind.i64.wrap (f + x.2)) rfl ?_ | refine LetI.mk _ rfl ?_) | (refine LetB.pre ?_; first | refine LetB.dect (by omega) ?_) | (refine Br.pre ?_; first | refine Br.tt rfl ?_ | refine Br.ff rfl ?_) | (refine Ck.pre ?_; first | refine Ck.mk rfl ?_)))); (try (conv => whnf)))



    refine LoopN.weak ?sw2 hnx
    case sw2 => exact SW.fr0 (Nat.le_refl _) rfl ⟨.refl _, .refl _, .refl _, .refl _, trivial⟩
end En
end Go.Proofs.Ytnegdmjmllmclaa
namespace Go.Proofs.Ytnegdmjmllmclaa
open Go.Proofs.Ytnegdmjmllmclaa.Am
set_option maxRecDepth 100000
namespace En
/-! ### The reference's Standing, Stipend, Means -/
abbrev rstS (l : List E) (fl : Fl) (s : Sc.Scl) (st a t f : Int) : Nat × Int → AS
  | (k, x) => ⟨[(0, .ro fl 15 (l.map en)), (2, int st), (3, int a), (4, int t), (6, .ptr 0 3 0 0), (14, int x), (15, int (f + (k : Nat)))], [(0, .row 3 29 [Sc.scA s])], 1⟩
set_option maxHeartbeats 1600000 in
set_option maxRecDepth 100000 in
theorem refStanding_f (l : List E) (s : Sc.Scl) (st a t : Int) (fl : Fl) (hl : l.length < 40) (ho : ∀ e ∈ l, Dt.okW e.on_) : AFun Try.prog 18 0 [.ro fl 15 (l.map en), Sc.scA s, int st, int a, int t] [] (int (stdP l s st a t)) [] := by
  have hT := refTerms_f l st a fl (by omega) ho
  have hE := refended_f a t
  refine AFun.of_W T_ok mixed Try.func18 rfl (Nat.le_of_ble_eq_true rfl) rfl ?_
  unfold stdP fstP
  by_cases h0 : trmP l st a = []
  · rw [if_pos (.inl h0)]
    rw [decide_eq_false (fun h => h h0)] at hT
    ((repeat ((conv => whnf); (first | (refine LetN.pre ?_; first | ((conv => arg 1; whnf); refine LetN.mk ?_)) | (refine As.pre ?_; first | refine As.mk rfl ?_) | (refine Gd.pre ?_; first | refine Gd.pass rfl ?_) | (refine Br.pre ?_; first | refine Br.tt rfl ?_) | (refine Ck.pre ?_; first | refine Ck.mk rfl ?_) | (refine CallN.pre ?_; first | refine CallN.pure hT rfl rfl ?_)))); (try (conv => whnf)))
    exact ⟨.inl rfl, ⟨_, rfl, rfl⟩, trivial⟩
  rw [decide_eq_true h0] at hT
  generalize hmn : minP (trmP l st a) = mn at hT
  generalize maxP (trmP l st a) = mx at hT
  cases he : endP t a with
  | false =>
    rw [if_pos (.inr (.inl rfl))]
    rw [he] at hE
    ((repeat ((conv => whnf); (first | (refine LetN.pre ?_; first | ((conv => arg 1; whnf); refine LetN.mk ?_)) | (refine As.pre ?_; first | refine As.mk rfl ?_) | (refine Gd.pre ?_; first | refine Gd.run rfl ?_ | refine Gd.pass rfl ?_) | (refine Br.pre ?_; first | refine Br.tt rfl ?_) | (refine Ck.pre ?_; first | refine Ck.mk rfl ?_) | (refine CallN.pre ?_; first | refine CallN.pure hT rfl rfl ?_ | refine CallN.pure hE rfl rfl ?_)))); (try (conv => whnf)))
    exact ⟨.inl rfl, ⟨_, rfl, rfl⟩, trivial⟩
  | true =>
    rw [he] at hE
    have het := of_decide_eq_true he
    by_cases hm : mn > t
    · rw [if_pos (.inr (.inr hm))]
      ((repeat ((conv => whnf); (first | (refine LetN.pre ?_; first | ((conv => arg 1; whnf); refine LetN.mk ?_)) | (refine As.pre ?_; first | refine As.mk rfl ?_) | (refine LetB.pre ?_; first | refine LetB.dect (by omega) ?_) | (refine Gd.pre ?_; first | refine Gd.run rfl ?_) | (refine Br.pre ?_; first | refine Br.tt rfl ?_) | (refine Ck.pre ?_; first | refine Ck.mk rfl ?_) | (refine CallN.pre ?_; first | refine CallN.pure hT rfl rfl ?_ | refine CallN.pure hE rfl rfl ?_)))); (try (conv => whnf)))
      exact ⟨.inl rfl, ⟨_, rfl, rfl⟩, trivial⟩
    rw [if_neg (by rintro (h | h | h); exact h0 h; cases h; exact hm h)]
    obtain ⟨f, hf⟩ : ∃ f, f = max mn 0 := ⟨_, rfl⟩
    rw [← hf]
    obtain ⟨n, hn⟩ : ∃ n, n = (t - f + 1).toNat := ⟨_, rfl⟩
    rw [← hn]
    have hfr : 0 ≤ f ∧ f ≤ t := by omega
    ((repeat ((conv => whnf); (first | (refine LetN.pre ?_; first | ((conv => arg 1; whnf); refine LetN.mk ?_)) | (refine As.pre ?_; first | refine As.mk rfl ?_) | (refine LetI.pre ?_; first | refine LetI.mk (o := none) f hf ?_) | (refine LetB.pre ?_; first | refine LetB.decf (by omega) ?_) | (refine Gd.pre ?_; first | refine Gd.run rfl ?_) | (refine Br.pre ?_; first | refine Br.ff rfl ?_) | (refine Ck.pre ?_; first | refine Ck.mk rfl ?_) | (refine CallN.pre ?_; first | refine CallN.pure hT rfl rfl ?_ | refine CallN.pure hE rfl rfl ?_)))); (try (conv => whnf)))
    refine LoopN.weak (s1 := rstS l fl s st a t f (0, 0)) ?sw1 ?_
    case sw1 => exact SW.mk id rfl rfl rfl ⟨.refl _, .refl _, .refl _, .refl _, .refl _, .refl _, VLe2.int (by first | omega | rfl), trivial⟩ (haveV.row rfl rfl trivial)
    clear hT hE hmn
    refine LoopN.ind T_ok mixed (S := rstS l fl s st a t f) (fun i => n - i.1) (fun i => i.1 ≤ n ∧ i.2 = stdL l s st a f i.1 ∧ 0 ≤ i.2 ∧ i.2 ≤ 3) (fun _ => rfl) (fun i hi ih => ?_) (0, 0) ⟨Nat.zero_le _, rfl, by decide, by decide⟩
    obtain ⟨k, x⟩ := i
    obtain ⟨h1, h2, h3⟩ := hi
    simp only at h1 h2 h3
    by_cases hlt : k < n
    case neg =>
      have : k = n := by omega
      subst this
      clear ih
      rw [← h2]
      ((repeat ((conv => whnf); (first | (refine As.pre ?_; first | refine As.mk rfl ?_) | (refine LetB.pre ?_; first | refine LetB.decf (by omega) ?_) | (refine Br.pre ?_; first | refine Br.ff rfl ?_) | (refine Ck.pre ?_; first | refine Ck.mk rfl ?_)))); (try (conv => whnf)))
      exact ⟨.inl rfl, ⟨_, rfl, rfl⟩, trivial⟩
    have hG := refgrades_f l s st a (f + k) fl hl (by omega) ho
    have hC := refcredits_f s (grdP l st a (f + k)) (Nat.le_trans (grd_len ..) (by omega))
    have hx2 : stdL l s st a f (k + 1) = stdS (crP s (grdP l st a (f + k))) x := by rw [stdL, ← h2]
    generalize grdP l st a (f + k) = L at hG hC hx2
    generalize crP s L = q at hC hx2
    obtain ⟨p, b⟩ := q
    clear h2
    unfold stdS at hx2
    by_cases hc : b ≤ p
    · rw [if_pos hc] at hx2
      have hnx := ih (k + 1, 1) ⟨by show k + 1 ≤ n; omega, hx2.symm, by dsimp only; omega, by dsimp only; omega⟩ (by show n - (k + 1) < n - k; omega)
      clear ih hx2
      ((repeat ((conv => whnf); (first | (refine As.pre ?_; first | refine As.mk rfl ?_) | (refine LetV.pre ?_; first | refine LetV.mk (.agg _) rfl ?_) | (refine LetI.pre ?_; first | refine LetI.wrap (by omega) (by omega) ?_) | (refine LetB.pre ?_; first | refine LetB.dect (by omega) ?_) | (refine Br.pre ?_; first | refine Br.tt rfl ?_) | (refine Ck.pre ?_; first | refine Ck.mk rfl ?_) | (refine CallN.pre ?_; first | refine CallN.pure hC rfl rfl ?_ | refine CallN.pure hG rfl rfl ?_)))); (try (conv => whnf)))
      refine LoopN.weak ?sw2 hnx
      case sw2 => exact SW.mk id rfl rfl rfl ⟨.refl _, .refl _, .refl _, .refl _, .refl _, .refl _, VLe2.int (by omega), trivial⟩ (haveV.row rfl rfl trivial)
    · rw [if_neg hc] at hx2
      by_cases hw : x ≥ 2
      · rw [if_pos hw] at hx2
        have hnx := ih (k + 1, 3) ⟨by show k + 1 ≤ n; omega, hx2.symm, by dsimp only; omega, by dsimp only; omega⟩ (by show n - (k + 1) < n - k; omega)
        clear ih hx2
        ((repeat ((conv => whnf); (first | (refine As.pre ?_; first | refine As.mk rfl ?_) | (refine LetV.pre ?_; first | refine LetV.mk (.agg _) rfl ?_) | (refine LetI.pre ?_; first | refine LetI.wrap (by omega) (by omega) ?_) | (refine LetB.pre ?_; first | refine LetB.dect (by omega) ?_ | refine LetB.decf (by omega) ?_) | (refine Br.pre ?_; first | refine Br.tt rfl ?_ | refine Br.ff rfl ?_) | (refine Ck.pre ?_; first | refine Ck.mk rfl ?_) | (refine CallN.pre ?_; first | refine CallN.pure hC rfl rfl ?_ | refine CallN.pure hG rfl rfl ?_)))); (try (conv => whnf)))
        refine LoopN.weak ?sw3 hnx
        case sw3 => exact SW.mk id rfl rfl rfl ⟨.refl _, .refl _, .refl _, .refl _, .refl _, .refl _, VLe2.int (by omega), trivial⟩ (haveV.row rfl rfl trivial)
      · rw [if_neg hw] at hx2
        have hnx := ih (k + 1, 2) ⟨by show k + 1 ≤ n; omega, hx2.symm, by dsimp only; omega, by dsimp only; omega⟩ (by show n - (k + 1) < n - k; omega)
        clear ih hx2
        ((repeat ((conv => whnf); (first | (refine As.pre ?_; first | refine As.mk rfl ?_) | (refine LetV.pre ?_; first | refine LetV.mk (.agg _) rfl ?_) | (refine LetI.pre ?_; first | refine LetI.wrap (by omega) (by omega) ?_) | (refine LetB.pre ?_; first | refine LetB.dect (by omega) ?_ | refine LetB.decf (by omega) ?_) | (refine Br.pre ?_; first | refine Br.tt rfl ?_ | refine Br.ff rfl ?_) | (refine Ck.pre ?_; first | refine Ck.mk rfl ?_) | (refine CallN.pre ?_; first | refine CallN.pure hC rfl rfl ?_ | refine CallN.pure hG rfl rfl ?_)))); (try (conv => whnf)))
        refine LoopN.weak ?sw4 hnx
        case sw4 => exact SW.mk id rfl rfl rfl ⟨.refl _, .refl _, .refl _, .refl _, .refl _, .refl _, VLe2.int (by omega), trivial⟩ (haveV.row rfl rfl trivial)
set_option maxRecDepth 100000 in
theorem refStipend_f (l : List E) (s : Sc.Scl) (st a t : Int) (fl : Fl) (hl : l.length < 40) (ho : ∀ e ∈ l, Dt.okW e.on_) : AFun Try.prog 20 0 [.ro fl 15 (l.map en), Sc.scA s, int st, int a, int t] [] (bool (stiP l s st a t)) [] := by
  have hS := refStanding_f l s st a t fl hl ho
  refine AFun.of_W T_ok mixed Try.func20 rfl (Nat.le_of_ble_eq_true rfl) rfl ?_
  unfold stiP
  by_cases h1 : stdP l s st a t = 1
  · have hG := refgrades_f l s st a t fl hl (std_end h1) ho
    have hC := refcredits_f s (grdP l st a t) (Nat.le_trans (grd_len ..) (by omega))
    rw [h1] at hS
    generalize grdP l st a t = L at hG hC ⊢
    generalize crP s L = q at hC ⊢
    obtain ⟨p, f⟩ := q
    have hd : decide (stdP l s st a t = 1 ∧ 20 ≤ p) = decide (p ≥ 20) := by rw [h1]; simp
    rw [hd]
    ((repeat ((conv => whnf); (first | (refine LetN.pre ?_; first | ((conv => arg 1; whnf); refine LetN.mk ?_)) | (refine As.pre ?_; first | refine As.mk rfl ?_) | (refine LetV.pre ?_; first | refine LetV.mk (.agg _) rfl ?_) | (refine LetB.pre ?_; first | refine LetB.ff rfl ?_ | refine LetB.mk _ rfl ?_) | (refine Br.pre ?_; first | refine Br.ff rfl ?_) | (refine Ck.pre ?_; first | refine Ck.mk rfl ?_) | (refine CallN.pre ?_; first | refine CallN.pure hS rfl rfl ?_ | refine CallN.pure hG rfl rfl ?_ | refine CallN.pure hC rfl rfl ?_)))); (try (conv => whnf)))
    exact ⟨.inl rfl, ⟨_, rfl, rfl⟩, trivial⟩
  · rw [decide_eq_false (fun h => h1 h.1)]
    generalize stdP l s st a t = x at hS h1
    ((repeat ((conv => whnf); (first | (refine LetN.pre ?_; first | ((conv => arg 1; whnf); refine LetN.mk ?_)) | (refine As.pre ?_; first | refine As.mk rfl ?_) | (refine LetV.pre ?_; first | refine LetV.mk (.agg _) rfl ?_) | (refine LetB.pre ?_; first | refine LetB.bnet (by omega) ?_) | (refine Br.pre ?_; first | refine Br.tt rfl ?_) | (refine Ck.pre ?_; first | refine Ck.mk rfl ?_) | (refine CallN.pre ?_; first | refine CallN.pure hS rfl rfl ?_)))); (try (conv => whnf)))
    exact ⟨.inl rfl, ⟨_, rfl, rfl⟩, trivial⟩
abbrev rmnS (s : Sc.Scl) (L : List (St × Int)) : Nat × List Int × List Int → AS
  | (k, gs, cs) => ⟨[(10, .ptr 0 2 0 0), (11, bool false), (12, .ro {} 6 (L.map (gA s))), (13, .slm {} 1 1 0 gs.length), (14, .slm {} 2 1 0 cs.length), (15, int k)], [(0, .row 2 raty [.agg [int 0, int 0]]), (1, .row 1 3 (gs.map int)), (2, .row 1 3 (cs.map int))], 3⟩
theorem rmnN (gs cs : List Int) (ok : Nat → Bool) : namesAll ok [(0, .row 2 raty [.agg [int 0, int 0]]), (1, .row 1 3 (gs.map int)), (2, .row 1 3 (cs.map int))] = true := namesAll.row rfl (namesAll.row (pure_int _) (namesAll.row (pure_int _) rfl))
set_option maxHeartbeats 1600000 in
set_option maxRecDepth 100000 in
theorem refMeans_f (l : List E) (s : Sc.Scl) (st a t : Int) (fl : Fl) (hl : l.length < 40) (ho : ∀ e ∈ l, Dt.okW e.on_) : AFun Try.prog 16 0 [.ro fl 15 (l.map en), Sc.scA s, int st, int a, int t] [] (.tup [.agg [int (menP l st a t).1.1, int (menP l st a t).1.2], bool (menP l st a t).2]) [] := by
  have hE := refended_f a t
  refine AFun.of_W T_ok mixed Try.func16 rfl (Nat.le_of_ble_eq_true rfl) rfl ?_
  unfold menP
  cases he : endP t a with
  | false =>
    rw [if_neg (fun h => by cases h.1)]
    rw [he] at hE
    ((repeat ((conv => whnf); (first | (refine LetN.pre ?_; first | ((conv => arg 1; whnf); refine LetN.mk ?_)) | (refine As.pre ?_; first | refine As.mk rfl ?_) | (refine Br.pre ?_; first | refine Br.tt rfl ?_) | (refine Ck.pre ?_; first | refine Ck.mk rfl ?_) | (refine LetL.pre ?_; first | refine LetL.mk [_] rfl ?_) | (refine CallN.pre ?_; first | refine CallN.pure hE rfl rfl ?_)))); (try (conv => whnf)))
    exact ⟨.inl rfl, ⟨_, rfl, rfl⟩, trivial⟩
  | true =>
    rw [he] at hE
    have het := of_decide_eq_true he
    have hG := refgrades_f l s st a t fl hl (by omega) ho
    have hlen := meP_len (grdP l st a t) ([], [])
    have hgl := grd_len l st a t
    have hM := Sc.refMean_f (meP (grdP l st a t)).1 (meP (grdP l st a t)).2 {} {} (Nat.le_trans hlen.1 (by simp; omega)) (Nat.le_trans hlen.2 (by simp; omega))
    generalize grdP l st a t = L at hG hM hlen hgl ⊢
    have hml : (L.map (gA s)).length = L.length := List.length_map _
    generalize hR : meP L = R at hM ⊢
    ((repeat ((conv => whnf); (first | (refine LetN.pre ?_; first | ((conv => arg 1; whnf); refine LetN.mk ?_)) | (refine As.pre ?_; first | refine As.mk rfl ?_) | (refine LetV.pre ?_; first | refine LetV.mk (.agg _) rfl ?_) | (refine Br.pre ?_; first | refine Br.ff rfl ?_) | (refine Ck.pre ?_; first | refine Ck.mk rfl ?_) | (refine CallN.pre ?_; first | refine CallN.pure hE rfl rfl ?_ | refine CallN.pure hG rfl rfl ?_)))); (try (conv => whnf)))
    refine LoopN.weak (s1 := rmnS s L (0, [], [])) ?sw0 ?_
    case sw0 => exact SW.mk (fun i => i + 1) rfl rfl rfl ⟨.refl _, .refl _, .refl _, VLe2.nilslm, VLe2.nilslm, .refl _, trivial⟩ (haveV.row rfl rfl (haveV.nil (Nat.le_of_ble_eq_true rfl) (haveV.nil (Nat.le_of_ble_eq_true rfl) trivial)))
    clear hG hE he het
    refine LoopN.ind T_ok mixed (S := rmnS s L) (fun i => L.length - i.1) (fun i => i.1 ≤ L.length ∧ i.2.1.length ≤ i.1 ∧ i.2.2.length ≤ i.1 ∧ (L.drop i.1).foldl meS i.2 = R) (fun _ => rfl) (fun i hi ih => ?_) (0, [], []) ⟨Nat.zero_le _, Nat.le_refl _, Nat.le_refl _, hR⟩
    obtain ⟨k, gs, cs⟩ := i
    obtain ⟨h1, k1, k2, h2⟩ := hi
    dsimp only at h1 k1 k2 h2
    have n1 := pure_int gs
    have n2 := pure_int cs
    have m1 : gs.length = (gs.map int).length := (List.length_map _).symm
    have m2 : cs.length = (cs.map int).length := (List.length_map _).symm
    by_cases hlt : k < L.length
    case neg =>
      clear ih
      rw [List.drop_eq_nil_of_le (by omega)] at h2
      have h2 : (gs, cs) = R := h2
      subst h2
      dsimp only at hM ⊢
      generalize Sc.mv gs cs = M at hM ⊢
      obtain ⟨⟨n, d⟩, e⟩ := M
      dsimp only
      by_cases h0 : e = 0
      · subst h0
        rw [if_pos ⟨rfl, rfl⟩]
        ((repeat ((conv => whnf); (first | (refine LetN.pre ?_; first | ((conv => arg 1; whnf); refine LetN.mk ?_)) | (refine As.pre ?_; first | refine As.mk rfl ?_) | (refine LetV.pre ?_; first | refine LetV.mk (.agg _) rfl ?_) | (refine LetI.pre ?_; first | refine LetI.mk _ rfl ?_) | (refine LetB.pre ?_; first | refine LetB.ff rfl ?_ | refine LetB.decf (by omega) ?_) | (refine Br.pre ?_; first | refine Br.ff rfl ?_) | (refine Ck.pre ?_; first | refine Ck.mk rfl ?_) | (refine LetL.pre ?_; first | refine LetL.mk [_] rfl ?_) | (refine CallN.pre ?_; first | refine CallN.lend hM rfl (.full rfl n1 m1 (.full rfl n2 m2 .nil)) ?_)))); (try (conv => whnf)))

        exact ⟨.inl rfl, ⟨_, rfl, rfl⟩, trivial⟩
      · rw [if_neg (fun h => h0 h.2)]
        ((repeat ((conv => whnf); (first | (refine LetN.pre ?_; first | ((conv => arg 1; whnf); refine LetN.mk ?_)) | (refine As.pre ?_; first | refine As.mk rfl ?_) | (refine LetI.pre ?_; first | refine LetI.mk _ rfl ?_) | (refine LetB.pre ?_; first | refine LetB.decf (by omega) ?_ | refine LetB.bnet (by omega) ?_) | (refine Br.pre ?_; first | refine Br.tt rfl ?_ | refine Br.ff rfl ?_) | (refine Ck.pre ?_; first | refine Ck.mk rfl ?_) | (refine LetL.pre ?_; first | refine LetL.mk [_] rfl ?_) | (refine CallN.pre ?_; first | refine CallN.lend hM rfl (.full rfl n1 m1 (.full rfl n2 m2 .nil)) ?_)))); (try (conv => whnf)))

        exact ⟨.inl rfl, ⟨_, rfl, rfl⟩, trivial⟩
    have hld := getD_g s hlt
    rw [foldl_drop meS hlt sx0] at h2
    clear hR hM hlen
    generalize L.getD k sx0 = x at hld h2
    obtain ⟨⟨xe, xb, xg, xv⟩, n⟩ := x
    cases xv with
    | true =>
      have hnx := ih (k + 1, gs, cs) ⟨hlt, by dsimp only; omega, by dsimp only; omega, h2⟩ (by show L.length - (k + 1) < L.length - k; omega)
      clear ih h2
      ((repeat ((conv => whnf); (first | (refine As.pre ?_; first | refine As.mk rfl ?_ | (refine As.mk ?_ ?_; · ((repeat' (refine andT ?_ ?_)) <;> (first | rfl | assumption | exact decide_eq_true (by omega) | exact decide_eq_true (by dsimp only; omega) | exact decide_eq_true (by simp; omega) | (simp; done))))) | (refine LetV.pre ?_; first | refine LetV.mk (t := 77) _ hld ?_ | refine LetV.mk (.sc (.bool _)) rfl ?_) | (refine LetI.pre ?_; first | refine LetI.wrap (by omega) (by omega) ?_ | refine LetI.mk _ rfl ?_) | (refine LetB.pre ?_; first | refine LetB.dect (by omega) ?_) | (refine Br.pre ?_; first | refine Br.tt rfl ?_ | refine Br.ff rfl ?_) | (refine Ck.pre ?_; first | refine Ck.mk rfl ?_)))); (try (conv => whnf)))
      refine LoopN.weak ?sw1 hnx
      case sw1 => exact SW.mk id rfl rfl (rmnN ..) ⟨.refl _, .refl _, .refl _, .refl _, .refl _, VLe2.int (by omega), trivial⟩ (haveV.row rfl rfl (haveV.row (pure_int _) rfl (haveV.row (pure_int _) rfl trivial)))
    | false =>
      have l1 : (gs ++ [xg]).length = gs.length + 1 := by simp
      have l2 : (cs ++ [n]).length = cs.length + 1 := by simp
      have hnx := ih (k + 1, gs ++ [xg], cs ++ [n]) ⟨hlt, by dsimp only; omega, by dsimp only; omega, h2⟩ (by show L.length - (k + 1) < L.length - k; omega)
      clear ih h2
      have r1 := room_int (n := gs.length + 1) (by omega)
      have r2 := room_int (n := cs.length + 1) (by omega)
      have a1 := app_intL gs xg gs.length rfl
      have a2 := app_intL cs n cs.length rfl
      ((repeat ((conv => whnf); (first | (refine LetN.pre ?_; first | ((conv => arg 1; whnf); refine LetN.mk ?_)) | (refine As.pre ?_; first | refine As.mk rfl ?_ | (refine As.mk ?_ ?_; · ((repeat' (refine andT ?_ ?_)) <;> (first | rfl | assumption | exact decide_eq_true (by omega) | exact decide_eq_true (by dsimp only; omega) | exact decide_eq_true (by simp; omega) | (simp; done))))) | (refine LetV.pre ?_; first | refine LetV.mk (t := 77) _ hld ?_ | refine LetV.mk (.sc (.int _ _)) rfl ?_ | refine LetV.mk (.sc (.bool _)) rfl ?_) | (refine LetI.pre ?_; first | refine LetI.wrap (by omega) (by omega) ?_ | refine LetI.mk _ rfl ?_) | (refine LetB.pre ?_; first | refine LetB.dect (by omega) ?_) | (refine Br.pre ?_; first | refine Br.tt rfl ?_) | (refine Ck.pre ?_; first | refine Ck.mk rfl ?_) | (refine LetL.pre ?_; first | refine LetL.mk (ty := 3) _ a1 ?_ | refine LetL.mk (ty := 3) _ a2 ?_)))); (try (conv => whnf)))



      refine LoopN.weak ?sw2 hnx
      case sw2 => exact SW.mk (fun i => match i with | 0 => 0 | 1 => 3 | 2 => 4 | i => i + 9) rfl rfl (rmnN ..) ⟨.refl _, .refl _, .refl _, VLe2.slm_of l1, VLe2.slm_of l2, VLe2.int (by omega), trivial⟩ (haveV.row rfl rfl (haveV.row (pure_int _) rfl (haveV.row (pure_int _) rfl trivial)))
end En
end Go.Proofs.Ytnegdmjmllmclaa
namespace Go.Proofs.Ytnegdmjmllmclaa
open Go.Proofs.Ytnegdmjmllmclaa.Am
set_option maxRecDepth 100000
namespace En
/-! ### Entries with a change -/
/-- What made entries and their changes keep to. -/
structure bE (e : E) : Prop where
  school : -1000 ≤ e.school ∧ e.school ≤ 1000
  id : -1000000000 ≤ e.id ∧ e.id ≤ 1000000000
  day : -1 ≤ e.day ∧ e.day ≤ 200000
  on : -1 ≤ e.on_ ∧ e.on_ ≤ 200001
abbrev od (e : E) (a b : Int) (e' : E) : Prop := AFun Try.prog 12 0 [en e, .agg [int a, int b]] [] (en e') []
theorem od0 (n : Int) (h : 0 ≤ n ∧ n < 4) : ∃ c : Int, (0 ≤ c ∧ c ≤ 900000) ∧ int c = ([int 0, int 1, int 899999, int 900000] : List AV).getD n.toNat (.sc undef) := by
  obtain ⟨m, rfl⟩ : ∃ m : Nat, n = m := ⟨n.toNat, by omega⟩
  have : m = 0 ∨ m = 1 ∨ m = 2 ∨ m = 3 := by omega
  rcases this with rfl | rfl | rfl | rfl <;> exact ⟨_, by omega, rfl⟩
theorem od2 (n : Int) (h : 0 ≤ n ∧ n < 4) : ∃ c : Int, (0 ≤ c ∧ c ≤ 1000000) ∧ int c = ([int 0, int 999999, int 1000000, int 2] : List AV).getD n.toNat (.sc undef) := by
  obtain ⟨m, rfl⟩ : ∃ m : Nat, n = m := ⟨n.toNat, by omega⟩
  have : m = 0 ∨ m = 1 ∨ m = 2 ∨ m = 3 := by omega
  rcases this with rfl | rfl | rfl | rfl <;> exact ⟨_, by omega, rfl⟩
theorem od4 (n : Int) (h : 0 ≤ n ∧ n < 4) : ∃ c : Int, (-1 ≤ c ∧ c ≤ 100001) ∧ int c = ([int (-1), int 0, int 100000, int 100001] : List AV).getD n.toNat (.sc undef) := by
  obtain ⟨m, rfl⟩ : ∃ m : Nat, n = m := ⟨n.toNat, by omega⟩
  have : m = 0 ∨ m = 1 ∨ m = 2 ∨ m = 3 := by omega
  rcases this with rfl | rfl | rfl | rfl <;> exact ⟨_, by omega, rfl⟩
theorem od5 (d : Int) (n : Int) (h : 0 ≤ n ∧ n < 4) (hd : -1 ≤ d ∧ d ≤ 200000) : ∃ c : Int, (-1 ≤ c ∧ c ≤ 200001) ∧ int c = ([int (-1), int 0, int d, int (d + 1)] : List AV).getD n.toNat (.sc undef) := by
  obtain ⟨m, rfl⟩ : ∃ m : Nat, n = m := ⟨n.toNat, by omega⟩
  have : m = 0 ∨ m = 1 ∨ m = 2 ∨ m = 3 := by omega
  rcases this with rfl | rfl | rfl | rfl <;> exact ⟨_, by omega, rfl⟩
theorem od6 (n : Int) (h : 0 ≤ n ∧ n < 5) : ∃ c : ByteArray, str c = ([str ⟨#[]⟩, str ⟨#[65, 49]⟩, str ⟨#[66, 50]⟩, str ⟨#[97]⟩, str ⟨#[65, 66, 67, 68, 69, 70, 71, 72, 73]⟩] : List AV).getD n.toNat (.sc undef) := by
  obtain ⟨m, rfl⟩ : ∃ m : Nat, n = m := ⟨n.toNat, by omega⟩
  have : m = 0 ∨ m = 1 ∨ m = 2 ∨ m = 3 ∨ m = 4 := by omega
  rcases this with rfl | rfl | rfl | rfl | rfl <;> exact ⟨_, rfl⟩
theorem od7 (n : Int) (h : 0 ≤ n ∧ n < 4) : ∃ c : Int, (0 ≤ c ∧ c ≤ 61) ∧ int c = ([int 0, int 1, int 60, int 61] : List AV).getD n.toNat (.sc undef) := by
  obtain ⟨m, rfl⟩ : ∃ m : Nat, n = m := ⟨n.toNat, by omega⟩
  have : m = 0 ∨ m = 1 ∨ m = 2 ∨ m = 3 := by omega
  rcases this with rfl | rfl | rfl | rfl <;> exact ⟨_, by omega, rfl⟩
theorem od8 (k : Int) (n : Int) (h : 0 ≤ n ∧ n < 6) (hk : 0 ≤ k ∧ k < 40) : ∃ c : Int, (-1001 ≤ c ∧ c ≤ 1001) ∧ int c = ([int 0, int (-1000), int (-1001), int 1000, int 1001, int (5 * k)] : List AV).getD n.toNat (.sc undef) := by
  obtain ⟨m, rfl⟩ : ∃ m : Nat, n = m := ⟨n.toNat, by omega⟩
  have : m = 0 ∨ m = 1 ∨ m = 2 ∨ m = 3 ∨ m = 4 ∨ m = 5 := by omega
  rcases this with rfl | rfl | rfl | rfl | rfl | rfl <;> exact ⟨_, by omega, rfl⟩
theorem od9 (i k : Int) (n : Int) (h : 0 ≤ n ∧ n < 6) : ∃ c : Int, int c = ([int 0, int i, int 1, int 899999, int 900000, int k] : List AV).getD n.toNat (.sc undef) := by
  obtain ⟨m, rfl⟩ : ∃ m : Nat, n = m := ⟨n.toNat, by omega⟩
  have : m = 0 ∨ m = 1 ∨ m = 2 ∨ m = 3 ∨ m = 4 ∨ m = 5 := by omega
  rcases this with rfl | rfl | rfl | rfl | rfl | rfl <;> exact ⟨_, rfl⟩
theorem od14 (n : Int) (h : 0 ≤ n ∧ n < 4) : ∃ c : ByteArray, str c = ([str ⟨#[]⟩, str ⟨#[109, 97, 114, 107]⟩, str ⟨#[48, 58]⟩, str ⟨#[49, 50, 51, 52, 53, 54, 55, 56]⟩] : List AV).getD n.toNat (.sc undef) := by
  obtain ⟨m, rfl⟩ : ∃ m : Nat, n = m := ⟨n.toNat, by omega⟩
  have : m = 0 ∨ m = 1 ∨ m = 2 ∨ m = 3 := by omega
  rcases this with rfl | rfl | rfl | rfl <;> exact ⟨_, rfl⟩
set_option maxRecDepth 100000 in
theorem odd_0 (e : E) (a b n : Int) (hb : bE e) (h : 0 ≤ n ∧ n < 40) (hn : (b.tmod 40 + 40).tmod 40 = n) (hm : (a.tmod 15 + 15).tmod 15 = 0) : ∃ e', bE e' ∧ od e a b e' := by
  obtain ⟨r, hr, hr0⟩ : ∃ r : Int, r = n.tmod 4 ∧ 0 ≤ r ∧ r < 4 := ⟨_, rfl, by have := tmod_bound n (m := 4) (by omega); have := tmod_pos 4 (a := n) h.1; omega⟩
  obtain ⟨c, hc, hv⟩ := od0 r hr0
  have hd3 : 0 ≤ n.tdiv 4 ∧ n.tdiv 4 < 40 := (by rw [Int.tdiv_eq_ediv_of_nonneg h.1]; omega)
  refine ⟨{ e with id := c + n.tdiv 4 }, ⟨hb.school, by dsimp only; omega, hb.day, hb.on⟩, ?_⟩
  have hd := hb.day
  refine AFun.of_W T_ok mixed Try.func12 rfl (Nat.le_of_ble_eq_true rfl) rfl ?_
  have hM1 := Mod_f b 40 (by omega)
  have hM2 := Mod_f a 15 (by omega)
  rw [hn] at hM1
  rw [hm] at hM2
  ((repeat ((conv => whnf); (first | (refine LetN.pre ?_; first | ((conv => arg 1; whnf); refine LetN.mk ?_)) | (refine As.pre ?_; first | refine As.mk rfl ?_ | (refine As.mk ?_ ?_; · ((repeat' (refine andT ?_ ?_)) <;> (first | rfl | assumption | exact decide_eq_true (by omega) | exact decide_eq_true (by dsimp only; omega) | exact decide_eq_true (by simp; omega) | (simp; done))))) | (refine LetV.pre ?_; first | refine LetV.mk (t := 22) _ hv ?_ | refine LetV.mk (.sc (.int _ _)) rfl ?_ | refine LetV.mk (.agg _) rfl ?_) | (refine LetI.pre ?_; first | refine LetI.mk (o := some .rem) r hr ?_ | refine LetI.wrap (by omega) (by omega) ?_) | (refine LetB.pre ?_; first | refine LetB.tt rfl ?_) | (refine Br.pre ?_; first | refine Br.tt rfl ?_) | (refine Ck.pre ?_; first | refine Ck.mk rfl ?_) | (refine LetL.pre ?_; first | refine LetL.mk (ty := ety) [.agg [_, _, _, _, _, _, _, _, _, _, _, _, _, _, _]] rfl ?_) | (refine CallN.pre ?_; first | refine CallN.pure hM1 rfl rfl ?_ | refine CallN.pure hM2 rfl rfl ?_)))); (try (conv => whnf)))





  exact ⟨.inl rfl, ⟨_, rfl, rfl⟩, trivial⟩
set_option maxRecDepth 100000 in
theorem odd_1 (e : E) (a b n : Int) (hb : bE e) (h : 0 ≤ n ∧ n < 40) (hn : (b.tmod 40 + 40).tmod 40 = n) (hm : (a.tmod 15 + 15).tmod 15 = 1) : ∃ e', bE e' ∧ od e a b e' := by
  obtain ⟨r, hr, hr0⟩ : ∃ r : Int, r = n.tmod 11 ∧ 0 ≤ r ∧ r < 11 := ⟨_, rfl, by have := tmod_bound n (m := 11) (by omega); have := tmod_pos 11 (a := n) h.1; omega⟩
  refine ⟨{ e with school := r - 1 }, ⟨by dsimp only; omega, hb.id, hb.day, hb.on⟩, ?_⟩
  have hd := hb.day
  refine AFun.of_W T_ok mixed Try.func12 rfl (Nat.le_of_ble_eq_true rfl) rfl ?_
  have hM1 := Mod_f b 40 (by omega)
  have hM2 := Mod_f a 15 (by omega)
  rw [hn] at hM1
  rw [hm] at hM2
  ((repeat ((conv => whnf); (first | (refine LetN.pre ?_; first | ((conv => arg 1; whnf); refine LetN.mk ?_)) | (refine As.pre ?_; first | refine As.mk rfl ?_) | (refine LetV.pre ?_; first | refine LetV.mk (.sc (.int _ _)) rfl ?_ | refine LetV.mk (.agg _) rfl ?_) | (refine LetI.pre ?_; first | refine LetI.mk (o := some .rem) r hr ?_ | refine LetI.wrap (by omega) (by omega) ?_) | (refine LetB.pre ?_; first | refine LetB.tt rfl ?_ | refine LetB.ff rfl ?_) | (refine Br.pre ?_; first | refine Br.tt rfl ?_ | refine Br.ff rfl ?_) | (refine Ck.pre ?_; first | refine Ck.mk rfl ?_) | (refine LetL.pre ?_; first | refine LetL.mk (ty := ety) [.agg [_, _, _, _, _, _, _, _, _, _, _, _, _, _, _]] rfl ?_) | (refine CallN.pre ?_; first | refine CallN.pure hM1 rfl rfl ?_ | refine CallN.pure hM2 rfl rfl ?_)))); (try (conv => whnf)))




  exact ⟨.inl rfl, ⟨_, rfl, rfl⟩, trivial⟩
set_option maxRecDepth 100000 in
theorem odd_2 (e : E) (a b n : Int) (hb : bE e) (h : 0 ≤ n ∧ n < 40) (hn : (b.tmod 40 + 40).tmod 40 = n) (hm : (a.tmod 15 + 15).tmod 15 = 2) : ∃ e', bE e' ∧ od e a b e' := by
  obtain ⟨r, hr, hr0⟩ : ∃ r : Int, r = n.tmod 4 ∧ 0 ≤ r ∧ r < 4 := ⟨_, rfl, by have := tmod_bound n (m := 4) (by omega); have := tmod_pos 4 (a := n) h.1; omega⟩
  obtain ⟨c, hc, hv⟩ := od2 r hr0
  refine ⟨{ e with student := c }, ⟨hb.school, hb.id, hb.day, hb.on⟩, ?_⟩
  have hd := hb.day
  refine AFun.of_W T_ok mixed Try.func12 rfl (Nat.le_of_ble_eq_true rfl) rfl ?_
  have hM1 := Mod_f b 40 (by omega)
  have hM2 := Mod_f a 15 (by omega)
  rw [hn] at hM1
  rw [hm] at hM2
  ((repeat ((conv => whnf); (first | (refine LetN.pre ?_; first | ((conv => arg 1; whnf); refine LetN.mk ?_)) | (refine As.pre ?_; first | refine As.mk rfl ?_ | (refine As.mk ?_ ?_; · ((repeat' (refine andT ?_ ?_)) <;> (first | rfl | assumption | exact decide_eq_true (by omega) | exact decide_eq_true (by dsimp only; omega) | exact decide_eq_true (by simp; omega) | (simp; done))))) | (refine LetV.pre ?_; first | refine LetV.mk (t := 22) _ hv ?_ | refine LetV.mk (.sc (.int _ _)) rfl ?_ | refine LetV.mk (.agg _) rfl ?_) | (refine LetI.pre ?_; first | refine LetI.mk (o := some .rem) r hr ?_) | (refine LetB.pre ?_; first | refine LetB.tt rfl ?_ | refine LetB.ff rfl ?_) | (refine Br.pre ?_; first | refine Br.tt rfl ?_ | refine Br.ff rfl ?_) | (refine Ck.pre ?_; first | refine Ck.mk rfl ?_) | (refine LetL.pre ?_; first | refine LetL.mk (ty := ety) [.agg [_, _, _, _, _, _, _, _, _, _, _, _, _, _, _]] rfl ?_) | (refine CallN.pre ?_; first | refine CallN.pure hM1 rfl rfl ?_ | refine CallN.pure hM2 rfl rfl ?_)))); (try (conv => whnf)))





  exact ⟨.inl rfl, ⟨_, rfl, rfl⟩, trivial⟩
set_option maxRecDepth 100000 in
theorem odd_3 (e : E) (a b n : Int) (hb : bE e) (h : 0 ≤ n ∧ n < 40) (hn : (b.tmod 40 + 40).tmod 40 = n) (hm : (a.tmod 15 + 15).tmod 15 = 3) : ∃ e', bE e' ∧ od e a b e' := by
  obtain ⟨r, hr, hr0⟩ : ∃ r : Int, r = n.tmod 12 ∧ 0 ≤ r ∧ r < 12 := ⟨_, rfl, by have := tmod_bound n (m := 12) (by omega); have := tmod_pos 12 (a := n) h.1; omega⟩
  refine ⟨{ e with kind := r }, ⟨hb.school, hb.id, hb.day, hb.on⟩, ?_⟩
  have hd := hb.day
  refine AFun.of_W T_ok mixed Try.func12 rfl (Nat.le_of_ble_eq_true rfl) rfl ?_
  have hM1 := Mod_f b 40 (by omega)
  have hM2 := Mod_f a 15 (by omega)
  rw [hn] at hM1
  rw [hm] at hM2
  ((repeat ((conv => whnf); (first | (refine LetN.pre ?_; first | ((conv => arg 1; whnf); refine LetN.mk ?_)) | (refine As.pre ?_; first | refine As.mk rfl ?_) | (refine LetV.pre ?_; first | refine LetV.mk (.sc (.int _ _)) rfl ?_ | refine LetV.mk (.agg _) rfl ?_) | (refine LetI.pre ?_; first | refine LetI.mk (o := some .rem) r hr ?_) | (refine LetB.pre ?_; first | refine LetB.tt rfl ?_ | refine LetB.ff rfl ?_) | (refine Br.pre ?_; first | refine Br.tt rfl ?_ | refine Br.ff rfl ?_) | (refine Ck.pre ?_; first | refine Ck.mk rfl ?_) | (refine LetL.pre ?_; first | refine LetL.mk (ty := ety) [.agg [_, _, _, _, _, _, _, _, _, _, _, _, _, _, _]] rfl ?_) | (refine CallN.pre ?_; first | refine CallN.pure hM1 rfl rfl ?_ | refine CallN.pure hM2 rfl rfl ?_)))); (try (conv => whnf)))




  exact ⟨.inl rfl, ⟨_, rfl, rfl⟩, trivial⟩
set_option maxRecDepth 100000 in
theorem odd_4 (e : E) (a b n : Int) (hb : bE e) (h : 0 ≤ n ∧ n < 40) (hn : (b.tmod 40 + 40).tmod 40 = n) (hm : (a.tmod 15 + 15).tmod 15 = 4) : ∃ e', bE e' ∧ od e a b e' := by
  obtain ⟨r, hr, hr0⟩ : ∃ r : Int, r = n.tmod 4 ∧ 0 ≤ r ∧ r < 4 := ⟨_, rfl, by have := tmod_bound n (m := 4) (by omega); have := tmod_pos 4 (a := n) h.1; omega⟩
  obtain ⟨c, hc, hv⟩ := od4 r hr0
  refine ⟨{ e with day := c }, ⟨hb.school, hb.id, by dsimp only; omega, hb.on⟩, ?_⟩
  have hd := hb.day
  refine AFun.of_W T_ok mixed Try.func12 rfl (Nat.le_of_ble_eq_true rfl) rfl ?_
  have hM1 := Mod_f b 40 (by omega)
  have hM2 := Mod_f a 15 (by omega)
  rw [hn] at hM1
  rw [hm] at hM2
  ((repeat ((conv => whnf); (first | (refine LetN.pre ?_; first | ((conv => arg 1; whnf); refine LetN.mk ?_)) | (refine As.pre ?_; first | refine As.mk rfl ?_ | (refine As.mk ?_ ?_; · ((repeat' (refine andT ?_ ?_)) <;> (first | rfl | assumption | exact decide_eq_true (by omega) | exact decide_eq_true (by dsimp only; omega) | exact decide_eq_true (by simp; omega) | (simp; done))))) | (refine LetV.pre ?_; first | refine LetV.mk (t := 22) _ hv ?_ | refine LetV.mk (.sc (.int _ _)) rfl ?_ | refine LetV.mk (.agg _) rfl ?_) | (refine LetI.pre ?_; first | refine LetI.mk (o := some .rem) r hr ?_) | (refine LetB.pre ?_; first | refine LetB.tt rfl ?_ | refine LetB.ff rfl ?_) | (refine Br.pre ?_; first | refine Br.tt rfl ?_ | refine Br.ff rfl ?_) | (refine Ck.pre ?_; first | refine Ck.mk rfl ?_) | (refine LetL.pre ?_; first | refine LetL.mk (ty := ety) [.agg [_, _, _, _, _, _, _, _, _, _, _, _, _, _, _]] rfl ?_) | (refine CallN.pre ?_; first | refine CallN.pure hM1 rfl rfl ?_ | refine CallN.pure hM2 rfl rfl ?_)))); (try (conv => whnf)))





  exact ⟨.inl rfl, ⟨_, rfl, rfl⟩, trivial⟩
set_option maxRecDepth 100000 in
theorem odd_5 (e : E) (a b n : Int) (hb : bE e) (h : 0 ≤ n ∧ n < 40) (hn : (b.tmod 40 + 40).tmod 40 = n) (hm : (a.tmod 15 + 15).tmod 15 = 5) : ∃ e', bE e' ∧ od e a b e' := by
  obtain ⟨r, hr, hr0⟩ : ∃ r : Int, r = n.tmod 4 ∧ 0 ≤ r ∧ r < 4 := ⟨_, rfl, by have := tmod_bound n (m := 4) (by omega); have := tmod_pos 4 (a := n) h.1; omega⟩
  obtain ⟨c, hc, hv⟩ := od5 e.day r hr0 hb.day
  refine ⟨{ e with on_ := c }, ⟨hb.school, hb.id, hb.day, by dsimp only; omega⟩, ?_⟩
  have hd := hb.day
  refine AFun.of_W T_ok mixed Try.func12 rfl (Nat.le_of_ble_eq_true rfl) rfl ?_
  have hM1 := Mod_f b 40 (by omega)
  have hM2 := Mod_f a 15 (by omega)
  rw [hn] at hM1
  rw [hm] at hM2
  ((repeat ((conv => whnf); (first | (refine LetN.pre ?_; first | ((conv => arg 1; whnf); refine LetN.mk ?_)) | (refine As.pre ?_; first | refine As.mk rfl ?_ | (refine As.mk ?_ ?_; · ((repeat' (refine andT ?_ ?_)) <;> (first | rfl | assumption | exact decide_eq_true (by omega) | exact decide_eq_true (by dsimp only; omega) | exact decide_eq_true (by simp; omega) | (simp; done))))) | (refine LetV.pre ?_; first | refine LetV.mk (t := 22) _ hv ?_ | refine LetV.mk (.sc (.int _ _)) rfl ?_ | refine LetV.mk (.agg _) rfl ?_) | (refine LetI.pre ?_; first | refine LetI.mk (o := some .rem) r hr ?_ | refine LetI.wrap (by omega) (by omega) ?_) | (refine LetB.pre ?_; first | refine LetB.tt rfl ?_ | refine LetB.ff rfl ?_) | (refine Br.pre ?_; first | refine Br.tt rfl ?_ | refine Br.ff rfl ?_) | (refine Ck.pre ?_; first | refine Ck.mk rfl ?_) | (refine LetL.pre ?_; first | refine LetL.mk (ty := ety) [.agg [_, _, _, _, _, _, _, _, _, _, _, _, _, _, _]] rfl ?_) | (refine CallN.pre ?_; first | refine CallN.pure hM1 rfl rfl ?_ | refine CallN.pure hM2 rfl rfl ?_)))); (try (conv => whnf)))





  exact ⟨.inl rfl, ⟨_, rfl, rfl⟩, trivial⟩
set_option maxRecDepth 100000 in
theorem odd_6 (e : E) (a b n : Int) (hb : bE e) (h : 0 ≤ n ∧ n < 40) (hn : (b.tmod 40 + 40).tmod 40 = n) (hm : (a.tmod 15 + 15).tmod 15 = 6) : ∃ e', bE e' ∧ od e a b e' := by
  obtain ⟨r, hr, hr0⟩ : ∃ r : Int, r = n.tmod 5 ∧ 0 ≤ r ∧ r < 5 := ⟨_, rfl, by have := tmod_bound n (m := 5) (by omega); have := tmod_pos 5 (a := n) h.1; omega⟩
  obtain ⟨c, hv⟩ := od6 r hr0
  refine ⟨{ e with course := c }, ⟨hb.school, hb.id, hb.day, hb.on⟩, ?_⟩
  have hd := hb.day
  refine AFun.of_W T_ok mixed Try.func12 rfl (Nat.le_of_ble_eq_true rfl) rfl ?_
  have hM1 := Mod_f b 40 (by omega)
  have hM2 := Mod_f a 15 (by omega)
  rw [hn] at hM1
  rw [hm] at hM2
  ((repeat ((conv => whnf); (first | (refine LetN.pre ?_; first | ((conv => arg 1; whnf); refine LetN.mk ?_)) | (refine As.pre ?_; first | refine As.mk rfl ?_ | (refine As.mk ?_ ?_; · ((repeat' (refine andT ?_ ?_)) <;> (first | rfl | assumption | exact decide_eq_true (by omega) | exact decide_eq_true (by dsimp only; omega) | exact decide_eq_true (by simp; omega) | (simp; done))))) | (refine LetV.pre ?_; first | refine LetV.mk (t := 67) _ hv ?_ | refine LetV.mk (.sc (.int _ _)) rfl ?_ | refine LetV.mk (.sc _) rfl ?_ | refine LetV.mk (.agg _) rfl ?_) | (refine LetI.pre ?_; first | refine LetI.mk (o := some .rem) r hr ?_) | (refine LetB.pre ?_; first | refine LetB.tt rfl ?_ | refine LetB.ff rfl ?_) | (refine Br.pre ?_; first | refine Br.tt rfl ?_ | refine Br.ff rfl ?_) | (refine Ck.pre ?_; first | refine Ck.mk rfl ?_) | (refine LetL.pre ?_; first | refine LetL.mk (ty := ety) [.agg [_, _, _, _, _, _, _, _, _, _, _, _, _, _, _]] rfl ?_) | (refine CallN.pre ?_; first | refine CallN.pure hM1 rfl rfl ?_ | refine CallN.pure hM2 rfl rfl ?_)))); (try (conv => whnf)))





  exact ⟨.inl rfl, ⟨_, rfl, rfl⟩, trivial⟩
set_option maxRecDepth 100000 in
theorem odd_7 (e : E) (a b n : Int) (hb : bE e) (h : 0 ≤ n ∧ n < 40) (hn : (b.tmod 40 + 40).tmod 40 = n) (hm : (a.tmod 15 + 15).tmod 15 = 7) : ∃ e', bE e' ∧ od e a b e' := by
  obtain ⟨r, hr, hr0⟩ : ∃ r : Int, r = n.tmod 4 ∧ 0 ≤ r ∧ r < 4 := ⟨_, rfl, by have := tmod_bound n (m := 4) (by omega); have := tmod_pos 4 (a := n) h.1; omega⟩
  obtain ⟨c, hc, hv⟩ := od7 r hr0
  refine ⟨{ e with credits := c }, ⟨hb.school, hb.id, hb.day, hb.on⟩, ?_⟩
  have hd := hb.day
  refine AFun.of_W T_ok mixed Try.func12 rfl (Nat.le_of_ble_eq_true rfl) rfl ?_
  have hM1 := Mod_f b 40 (by omega)
  have hM2 := Mod_f a 15 (by omega)
  rw [hn] at hM1
  rw [hm] at hM2
  ((repeat ((conv => whnf); (first | (refine LetN.pre ?_; first | ((conv => arg 1; whnf); refine LetN.mk ?_)) | (refine As.pre ?_; first | refine As.mk rfl ?_ | (refine As.mk ?_ ?_; · ((repeat' (refine andT ?_ ?_)) <;> (first | rfl | assumption | exact decide_eq_true (by omega) | exact decide_eq_true (by dsimp only; omega) | exact decide_eq_true (by simp; omega) | (simp; done))))) | (refine LetV.pre ?_; first | refine LetV.mk (t := 22) _ hv ?_ | refine LetV.mk (.sc (.int _ _)) rfl ?_ | refine LetV.mk (.agg _) rfl ?_) | (refine LetI.pre ?_; first | refine LetI.mk (o := some .rem) r hr ?_) | (refine LetB.pre ?_; first | refine LetB.tt rfl ?_ | refine LetB.ff rfl ?_) | (refine Br.pre ?_; first | refine Br.tt rfl ?_ | refine Br.ff rfl ?_) | (refine Ck.pre ?_; first | refine Ck.mk rfl ?_) | (refine LetL.pre ?_; first | refine LetL.mk (ty := ety) [.agg [_, _, _, _, _, _, _, _, _, _, _, _, _, _, _]] rfl ?_) | (refine CallN.pre ?_; first | refine CallN.pure hM1 rfl rfl ?_ | refine CallN.pure hM2 rfl rfl ?_)))); (try (conv => whnf)))





  exact ⟨.inl rfl, ⟨_, rfl, rfl⟩, trivial⟩
set_option maxRecDepth 100000 in
theorem odd_8 (e : E) (a b n : Int) (hb : bE e) (h : 0 ≤ n ∧ n < 40) (hn : (b.tmod 40 + 40).tmod 40 = n) (hm : (a.tmod 15 + 15).tmod 15 = 8) : ∃ e', bE e' ∧ od e a b e' := by
  obtain ⟨r, hr, hr0⟩ : ∃ r : Int, r = n.tmod 6 ∧ 0 ≤ r ∧ r < 6 := ⟨_, rfl, by have := tmod_bound n (m := 6) (by omega); have := tmod_pos 6 (a := n) h.1; omega⟩
  obtain ⟨c, hc, hv⟩ := od8 n r hr0 h
  refine ⟨{ e with grade := c }, ⟨hb.school, hb.id, hb.day, hb.on⟩, ?_⟩
  have hd := hb.day
  refine AFun.of_W T_ok mixed Try.func12 rfl (Nat.le_of_ble_eq_true rfl) rfl ?_
  have hM1 := Mod_f b 40 (by omega)
  have hM2 := Mod_f a 15 (by omega)
  rw [hn] at hM1
  rw [hm] at hM2
  ((repeat ((conv => whnf); (first | (refine LetN.pre ?_; first | ((conv => arg 1; whnf); refine LetN.mk ?_)) | (refine As.pre ?_; first | refine As.mk rfl ?_ | (refine As.mk ?_ ?_; · ((repeat' (refine andT ?_ ?_)) <;> (first | rfl | assumption | exact decide_eq_true (by omega) | exact decide_eq_true (by dsimp only; omega) | exact decide_eq_true (by simp; omega) | (simp; done))))) | (refine LetV.pre ?_; first | refine LetV.mk (t := 22) _ hv ?_ | refine LetV.mk (.sc (.int _ _)) rfl ?_ | refine LetV.mk (.agg _) rfl ?_) | (refine LetI.pre ?_; first | refine LetI.mk (o := some .rem) r hr ?_ | refine LetI.wrap (by omega) (by omega) ?_) | (refine LetB.pre ?_; first | refine LetB.tt rfl ?_ | refine LetB.ff rfl ?_) | (refine Br.pre ?_; first | refine Br.tt rfl ?_ | refine Br.ff rfl ?_) | (refine Ck.pre ?_; first | refine Ck.mk rfl ?_) | (refine LetL.pre ?_; first | refine LetL.mk (ty := ety) [.agg [_, _, _, _, _, _, _, _, _, _, _, _, _, _, _]] rfl ?_) | (refine CallN.pre ?_; first | refine CallN.pure hM1 rfl rfl ?_ | refine CallN.pure hM2 rfl rfl ?_)))); (try (conv => whnf)))





  exact ⟨.inl rfl, ⟨_, rfl, rfl⟩, trivial⟩
set_option maxRecDepth 100000 in
theorem odd_9 (e : E) (a b n : Int) (hb : bE e) (h : 0 ≤ n ∧ n < 40) (hn : (b.tmod 40 + 40).tmod 40 = n) (hm : (a.tmod 15 + 15).tmod 15 = 9) : ∃ e', bE e' ∧ od e a b e' := by
  obtain ⟨r, hr, hr0⟩ : ∃ r : Int, r = n.tmod 6 ∧ 0 ≤ r ∧ r < 6 := ⟨_, rfl, by have := tmod_bound n (m := 6) (by omega); have := tmod_pos 6 (a := n) h.1; omega⟩
  obtain ⟨c, hv⟩ := od9 e.id n r hr0
  refine ⟨{ e with ref := c }, ⟨hb.school, hb.id, hb.day, hb.on⟩, ?_⟩
  have hd := hb.day
  refine AFun.of_W T_ok mixed Try.func12 rfl (Nat.le_of_ble_eq_true rfl) rfl ?_
  have hM1 := Mod_f b 40 (by omega)
  have hM2 := Mod_f a 15 (by omega)
  rw [hn] at hM1
  rw [hm] at hM2
  ((repeat ((conv => whnf); (first | (refine LetN.pre ?_; first | ((conv => arg 1; whnf); refine LetN.mk ?_)) | (refine As.pre ?_; first | refine As.mk rfl ?_ | (refine As.mk ?_ ?_; · ((repeat' (refine andT ?_ ?_)) <;> (first | rfl | assumption | exact decide_eq_true (by omega) | exact decide_eq_true (by dsimp only; omega) | exact decide_eq_true (by simp; omega) | (simp; done))))) | (refine LetV.pre ?_; first | refine LetV.mk (t := 22) _ hv ?_ | refine LetV.mk (.sc (.int _ _)) rfl ?_ | refine LetV.mk (.agg _) rfl ?_) | (refine LetI.pre ?_; first | refine LetI.mk (o := some .rem) r hr ?_) | (refine LetB.pre ?_; first | refine LetB.tt rfl ?_ | refine LetB.ff rfl ?_) | (refine Br.pre ?_; first | refine Br.tt rfl ?_ | refine Br.ff rfl ?_) | (refine Ck.pre ?_; first | refine Ck.mk rfl ?_) | (refine LetL.pre ?_; first | refine LetL.mk (ty := ety) [.agg [_, _, _, _, _, _, _, _, _, _, _, _, _, _, _]] rfl ?_) | (refine CallN.pre ?_; first | refine CallN.pure hM1 rfl rfl ?_ | refine CallN.pure hM2 rfl rfl ?_)))); (try (conv => whnf)))





  exact ⟨.inl rfl, ⟨_, rfl, rfl⟩, trivial⟩
set_option maxRecDepth 100000 in
theorem odd_10 (e : E) (a b n : Int) (hb : bE e) (h : 0 ≤ n ∧ n < 40) (hn : (b.tmod 40 + 40).tmod 40 = n) (hm : (a.tmod 15 + 15).tmod 15 = 10) : ∃ e', bE e' ∧ od e a b e' := by
  obtain ⟨r, hr, hr0⟩ : ∃ r : Int, r = n.tmod 10 ∧ 0 ≤ r ∧ r < 10 := ⟨_, rfl, by have := tmod_bound n (m := 10) (by omega); have := tmod_pos 10 (a := n) h.1; omega⟩
  refine ⟨{ e with frm := r }, ⟨hb.school, hb.id, hb.day, hb.on⟩, ?_⟩
  have hd := hb.day
  refine AFun.of_W T_ok mixed Try.func12 rfl (Nat.le_of_ble_eq_true rfl) rfl ?_
  have hM1 := Mod_f b 40 (by omega)
  have hM2 := Mod_f a 15 (by omega)
  rw [hn] at hM1
  rw [hm] at hM2
  ((repeat ((conv => whnf); (first | (refine LetN.pre ?_; first | ((conv => arg 1; whnf); refine LetN.mk ?_)) | (refine As.pre ?_; first | refine As.mk rfl ?_) | (refine LetV.pre ?_; first | refine LetV.mk (.sc (.int _ _)) rfl ?_ | refine LetV.mk (.agg _) rfl ?_) | (refine LetI.pre ?_; first | refine LetI.mk (o := some .rem) r hr ?_) | (refine LetB.pre ?_; first | refine LetB.tt rfl ?_ | refine LetB.ff rfl ?_) | (refine Br.pre ?_; first | refine Br.tt rfl ?_ | refine Br.ff rfl ?_) | (refine Ck.pre ?_; first | refine Ck.mk rfl ?_) | (refine LetL.pre ?_; first | refine LetL.mk (ty := ety) [.agg [_, _, _, _, _, _, _, _, _, _, _, _, _, _, _]] rfl ?_) | (refine CallN.pre ?_; first | refine CallN.pure hM1 rfl rfl ?_ | refine CallN.pure hM2 rfl rfl ?_)))); (try (conv => whnf)))




  exact ⟨.inl rfl, ⟨_, rfl, rfl⟩, trivial⟩
set_option maxRecDepth 100000 in
theorem odd_11 (e : E) (a b n : Int) (hb : bE e) (h : 0 ≤ n ∧ n < 40) (hn : (b.tmod 40 + 40).tmod 40 = n) (hm : (a.tmod 15 + 15).tmod 15 = 11) : ∃ e', bE e' ∧ od e a b e' := by
  obtain ⟨r, hr, hr0⟩ : ∃ r : Int, r = n.tmod 4 ∧ 0 ≤ r ∧ r < 4 := ⟨_, rfl, by have := tmod_bound n (m := 4) (by omega); have := tmod_pos 4 (a := n) h.1; omega⟩
  refine ⟨{ e with programme := r - 1 }, ⟨hb.school, hb.id, hb.day, hb.on⟩, ?_⟩
  have hd := hb.day
  refine AFun.of_W T_ok mixed Try.func12 rfl (Nat.le_of_ble_eq_true rfl) rfl ?_
  have hM1 := Mod_f b 40 (by omega)
  have hM2 := Mod_f a 15 (by omega)
  rw [hn] at hM1
  rw [hm] at hM2
  ((repeat ((conv => whnf); (first | (refine LetN.pre ?_; first | ((conv => arg 1; whnf); refine LetN.mk ?_)) | (refine As.pre ?_; first | refine As.mk rfl ?_) | (refine LetV.pre ?_; first | refine LetV.mk (.sc (.int _ _)) rfl ?_ | refine LetV.mk (.agg _) rfl ?_) | (refine LetI.pre ?_; first | refine LetI.mk (o := some .rem) r hr ?_ | refine LetI.wrap (by omega) (by omega) ?_) | (refine LetB.pre ?_; first | refine LetB.tt rfl ?_ | refine LetB.ff rfl ?_) | (refine Br.pre ?_; first | refine Br.tt rfl ?_ | refine Br.ff rfl ?_) | (refine Ck.pre ?_; first | refine Ck.mk rfl ?_) | (refine LetL.pre ?_; first | refine LetL.mk (ty := ety) [.agg [_, _, _, _, _, _, _, _, _, _, _, _, _, _, _]] rfl ?_) | (refine CallN.pre ?_; first | refine CallN.pure hM1 rfl rfl ?_ | refine CallN.pure hM2 rfl rfl ?_)))); (try (conv => whnf)))




  exact ⟨.inl rfl, ⟨_, rfl, rfl⟩, trivial⟩
set_option maxRecDepth 100000 in
theorem odd_12 (e : E) (a b n : Int) (hb : bE e) (h : 0 ≤ n ∧ n < 40) (hn : (b.tmod 40 + 40).tmod 40 = n) (hm : (a.tmod 15 + 15).tmod 15 = 12) : ∃ e', bE e' ∧ od e a b e' := by
  obtain ⟨r, hr, hr0⟩ : ∃ r : Int, r = n.tmod 4 ∧ 0 ≤ r ∧ r < 4 := ⟨_, rfl, by have := tmod_bound n (m := 4) (by omega); have := tmod_pos 4 (a := n) h.1; omega⟩
  refine ⟨{ e with version := r - 1 }, ⟨hb.school, hb.id, hb.day, hb.on⟩, ?_⟩
  have hd := hb.day
  refine AFun.of_W T_ok mixed Try.func12 rfl (Nat.le_of_ble_eq_true rfl) rfl ?_
  have hM1 := Mod_f b 40 (by omega)
  have hM2 := Mod_f a 15 (by omega)
  rw [hn] at hM1
  rw [hm] at hM2
  ((repeat ((conv => whnf); (first | (refine LetN.pre ?_; first | ((conv => arg 1; whnf); refine LetN.mk ?_)) | (refine As.pre ?_; first | refine As.mk rfl ?_) | (refine LetV.pre ?_; first | refine LetV.mk (.sc (.int _ _)) rfl ?_ | refine LetV.mk (.agg _) rfl ?_) | (refine LetI.pre ?_; first | refine LetI.mk (o := some .rem) r hr ?_ | refine LetI.wrap (by omega) (by omega) ?_) | (refine LetB.pre ?_; first | refine LetB.tt rfl ?_ | refine LetB.ff rfl ?_) | (refine Br.pre ?_; first | refine Br.tt rfl ?_ | refine Br.ff rfl ?_) | (refine Ck.pre ?_; first | refine Ck.mk rfl ?_) | (refine LetL.pre ?_; first | refine LetL.mk (ty := ety) [.agg [_, _, _, _, _, _, _, _, _, _, _, _, _, _, _]] rfl ?_) | (refine CallN.pre ?_; first | refine CallN.pure hM1 rfl rfl ?_ | refine CallN.pure hM2 rfl rfl ?_)))); (try (conv => whnf)))




  exact ⟨.inl rfl, ⟨_, rfl, rfl⟩, trivial⟩
set_option maxRecDepth 100000 in
theorem odd_13 (e : E) (a b n : Int) (hb : bE e) (h : 0 ≤ n ∧ n < 40) (hn : (b.tmod 40 + 40).tmod 40 = n) (hm : (a.tmod 15 + 15).tmod 15 = 13) : ∃ e', bE e' ∧ od e a b e' := by
  refine ⟨{ e with key := n - 3 }, ⟨hb.school, hb.id, hb.day, hb.on⟩, ?_⟩
  have hd := hb.day
  refine AFun.of_W T_ok mixed Try.func12 rfl (Nat.le_of_ble_eq_true rfl) rfl ?_
  have hM1 := Mod_f b 40 (by omega)
  have hM2 := Mod_f a 15 (by omega)
  rw [hn] at hM1
  rw [hm] at hM2
  ((repeat ((conv => whnf); (first | (refine LetN.pre ?_; first | ((conv => arg 1; whnf); refine LetN.mk ?_)) | (refine As.pre ?_; first | refine As.mk rfl ?_) | (refine LetV.pre ?_; first | refine LetV.mk (.sc (.int _ _)) rfl ?_ | refine LetV.mk (.agg _) rfl ?_) | (refine LetI.pre ?_; first | refine LetI.wrap (by omega) (by omega) ?_) | (refine LetB.pre ?_; first | refine LetB.tt rfl ?_ | refine LetB.ff rfl ?_) | (refine Br.pre ?_; first | refine Br.tt rfl ?_ | refine Br.ff rfl ?_) | (refine Ck.pre ?_; first | refine Ck.mk rfl ?_) | (refine LetL.pre ?_; first | refine LetL.mk (ty := ety) [.agg [_, _, _, _, _, _, _, _, _, _, _, _, _, _, _]] rfl ?_) | (refine CallN.pre ?_; first | refine CallN.pure hM1 rfl rfl ?_ | refine CallN.pure hM2 rfl rfl ?_)))); (try (conv => whnf)))



  exact ⟨.inl rfl, ⟨_, rfl, rfl⟩, trivial⟩
set_option maxRecDepth 100000 in
theorem odd_14 (e : E) (a b n : Int) (hb : bE e) (h : 0 ≤ n ∧ n < 40) (hn : (b.tmod 40 + 40).tmod 40 = n) (hm : (a.tmod 15 + 15).tmod 15 = 14) : ∃ e', bE e' ∧ od e a b e' := by
  obtain ⟨r, hr, hr0⟩ : ∃ r : Int, r = n.tmod 4 ∧ 0 ≤ r ∧ r < 4 := ⟨_, rfl, by have := tmod_bound n (m := 4) (by omega); have := tmod_pos 4 (a := n) h.1; omega⟩
  obtain ⟨c, hv⟩ := od14 r hr0
  refine ⟨{ e with mark := c }, ⟨hb.school, hb.id, hb.day, hb.on⟩, ?_⟩
  have hd := hb.day
  refine AFun.of_W T_ok mixed Try.func12 rfl (Nat.le_of_ble_eq_true rfl) rfl ?_
  have hM1 := Mod_f b 40 (by omega)
  have hM2 := Mod_f a 15 (by omega)
  rw [hn] at hM1
  rw [hm] at hM2
  ((repeat ((conv => whnf); (first | (refine LetN.pre ?_; first | ((conv => arg 1; whnf); refine LetN.mk ?_)) | (refine As.pre ?_; first | refine As.mk rfl ?_ | (refine As.mk ?_ ?_; · ((repeat' (refine andT ?_ ?_)) <;> (first | rfl | assumption | exact decide_eq_true (by omega) | exact decide_eq_true (by dsimp only; omega) | exact decide_eq_true (by simp; omega) | (simp; done))))) | (refine LetV.pre ?_; first | refine LetV.mk (t := 67) _ hv ?_ | refine LetV.mk (.sc (.int _ _)) rfl ?_ | refine LetV.mk (.sc _) rfl ?_ | refine LetV.mk (.agg _) rfl ?_) | (refine LetI.pre ?_; first | refine LetI.mk (o := some .rem) r hr ?_) | (refine LetB.pre ?_; first | refine LetB.tt rfl ?_ | refine LetB.ff rfl ?_) | (refine Br.pre ?_; first | refine Br.tt rfl ?_ | refine Br.ff rfl ?_) | (refine Ck.pre ?_; first | refine Ck.mk rfl ?_) | (refine LetL.pre ?_; first | refine LetL.mk (ty := ety) [.agg [_, _, _, _, _, _, _, _, _, _, _, _, _, _, _]] rfl ?_) | (refine CallN.pre ?_; first | refine CallN.pure hM1 rfl rfl ?_ | refine CallN.pure hM2 rfl rfl ?_)))); (try (conv => whnf)))





  exact ⟨.inl rfl, ⟨_, rfl, rfl⟩, trivial⟩
theorem Odd10_f (e : E) (a b : Int) (hb : bE e) : ∃ e', bE e' ∧ od e a b e' := by
  have b1 := tmod_bound b (m := 40) (by omega)
  have p1 := tmod_pos 40 (a := b.tmod 40 + 40) (by omega)
  have b2 := tmod_bound a (m := 15) (by omega)
  have p2 := tmod_pos 15 (a := a.tmod 15 + 15) (by omega)
  have b3 := tmod_bound (b.tmod 40 + 40) (m := 40) (by omega)
  have b4 := tmod_bound (a.tmod 15 + 15) (m := 15) (by omega)
  obtain ⟨m, hm⟩ : ∃ m : Int, m = (a.tmod 15 + 15).tmod 15 := ⟨_, rfl⟩
  have hn : 0 ≤ (b.tmod 40 + 40).tmod 40 ∧ (b.tmod 40 + 40).tmod 40 < 40 := by omega
  have : m = 0 ∨ m = 1 ∨ m = 2 ∨ m = 3 ∨ m = 4 ∨ m = 5 ∨ m = 6 ∨ m = 7 ∨ m = 8 ∨ m = 9 ∨ m = 10 ∨ m = 11 ∨ m = 12 ∨ m = 13 ∨ m = 14 := by omega
  rcases this with rfl | rfl | rfl | rfl | rfl | rfl | rfl | rfl | rfl | rfl | rfl | rfl | rfl | rfl | rfl
  · exact odd_0 e a b _ hb hn rfl hm.symm
  · exact odd_1 e a b _ hb hn rfl hm.symm
  · exact odd_2 e a b _ hb hn rfl hm.symm
  · exact odd_3 e a b _ hb hn rfl hm.symm
  · exact odd_4 e a b _ hb hn rfl hm.symm
  · exact odd_5 e a b _ hb hn rfl hm.symm
  · exact odd_6 e a b _ hb hn rfl hm.symm
  · exact odd_7 e a b _ hb hn rfl hm.symm
  · exact odd_8 e a b _ hb hn rfl hm.symm
  · exact odd_9 e a b _ hb hn rfl hm.symm
  · exact odd_10 e a b _ hb hn rfl hm.symm
  · exact odd_11 e a b _ hb hn rfl hm.symm
  · exact odd_12 e a b _ hb hn rfl hm.symm
  · exact odd_13 e a b _ hb hn rfl hm.symm
  · exact odd_14 e a b _ hb hn rfl hm.symm
end En
end Go.Proofs.Ytnegdmjmllmclaa
namespace Go.Proofs.Ytnegdmjmllmclaa
open Go.Proofs.Ytnegdmjmllmclaa.Am
set_option maxRecDepth 100000
namespace En
/-! ### What every law asks first -/
abbrev ex1 : E := ⟨1, 1, 1, 3, 20, 20, ⟨#[65, 49]⟩, 20, 80, 0, 0, 0, 0, 0, ⟨#[]⟩⟩
abbrev ex2 : E := ⟨2, 1, 1, 3, 120, 120, ⟨#[65, 49]⟩, 10, 30, 0, 0, 0, 0, 0, ⟨#[]⟩⟩
abbrev ex3 : E := ⟨3, 1, 1, 3, 130, 130, ⟨#[65, 49]⟩, 6, 90, 0, 0, 0, 0, 0, ⟨#[]⟩⟩
abbrev ex4 : E := ⟨4, 1, 1, 3, 250, 250, ⟨#[65, 49]⟩, 5, 10, 0, 0, 0, 0, 0, ⟨#[]⟩⟩
abbrev ex5 : E := ⟨5, 1, 1, 4, 320, 130, ⟨#[]⟩, 0, 60, 2, 0, 0, 0, 0, ⟨#[]⟩⟩
abbrev exl : List E := [ex1, ex2, ex3, ex4, ex5]
theorem example1_f (i c g d : Int) : AFun Try.prog 49 0 [int i, int c, int g, int d] [] (en ⟨i, 1, 1, 3, d, d, ⟨#[65, 49]⟩, c, g, 0, 0, 0, 0, 0, ⟨#[]⟩⟩) [] := by
  refine AFun.of_W T_ok mixed Try.func49 rfl (Nat.le_of_ble_eq_true rfl) rfl ?_
  ((repeat ((conv => whnf); (first | (refine LetN.pre ?_; first | ((conv => arg 1; whnf); refine LetN.mk ?_)) | (refine As.pre ?_; first | refine As.mk rfl ?_) | (refine Ck.pre ?_; first | refine Ck.mk rfl ?_) | (refine LetL.pre ?_; first | refine LetL.mk [_] rfl ?_)))); (try (conv => whnf)))
  exact ⟨.inl rfl, ⟨_, rfl, rfl⟩, trivial⟩
set_option maxRecDepth 100000 in
theorem example_s : AFun Try.prog 24 0 [] [] (.slm {} 0 15 0 5) [(0, .row 15 ety (exl.map en))] := by
  refine AFun.of_S T_ok mixed Try.func24 rfl (Nat.le_of_ble_eq_true rfl) rfl ?_
  ((repeat ((conv => whnf); (first | (refine LetN.pre ?_; first | ((conv => arg 1; whnf); refine LetN.mk ?_)) | (refine As.pre ?_; first | refine As.mk rfl ?_) | (refine Ck.pre ?_; first | refine Ck.mk rfl ?_) | (refine CallN.pre ?_; first | refine CallN.pure (example1_f _ _ _ _) rfl rfl ?_)))); (try (conv => whnf)))
  exact ⟨⟨[(0, .slm {} 0 15 0 5)], [(0, .row 15 ety (exl.map en))], 1⟩, SW.mk id rfl rfl rfl ⟨VLe2.slm_of rfl, trivial⟩ (haveV.one rfl trivial), .inl rfl, ⟨_, rfl, rfl⟩, rfl, trivial⟩
theorem example_f : AFun Try.prog 24 0 [] [] (.ro {} 15 (exl.map en)) [] := AFun.frz1 (H := []) example_s rfl (pure_en _) rfl
abbrev sc0 : Sc.Scl := (0, 100, 50)
theorem exl_ok : ∀ e ∈ exl, Dt.okW e.on_ := by
  intro e he
  simp only [exl, List.mem_cons, List.not_mem_nil, or_false] at he
  rcases he with rfl | rfl | rfl | rfl | rfl <;> exact ⟨by decide, by decide⟩
theorem sc0_f : AFun Try.prog 25 0 [int 1] [] (Sc.scA sc0) [] := SclOf_f 1 ⟨by decide, by decide⟩
theorem stdE (a t n : Int) (h : stdP exl sc0 1 a t = n) : AFun Try.prog 17 0 [.ro {} 15 (exl.map en), Sc.scA sc0, int 1, int a, int t] [] (int n) [] := h ▸ Standing_f exl sc0 1 a t (Nat.le_of_ble_eq_true rfl) exl_ok
theorem stiE (a t : Int) (b : Bool) (h : stiP exl sc0 1 a t = b) : AFun Try.prog 19 0 [.ro {} 15 (exl.map en), Sc.scA sc0, int 1, int a, int t] [] (bool b) [] := h ▸ Stipend_f exl sc0 1 a t (Nat.le_of_ble_eq_true rfl) exl_ok
abbrev sgS (a : Int) (ws : List Int) (k : Nat) : AS := ⟨[(0, int a), (7, .ro {} 1 (ws.map int)), (8, int ws.length), (9, int k)], [], 0⟩
set_option maxRecDepth 100000 in
theorem standings_f (a : Int) (ws : List Int) (fl : Fl) (hl : ws.length ≤ 100) (h : ∀ k, k < ws.length → stdP exl sc0 1 a k = ws.getD k 0) : AFun Try.prog 26 0 [int a, .ro fl 1 (ws.map int)] [] (bool true) [] := by
  refine AFun.of_W T_ok mixed Try.func26 rfl (Nat.le_of_ble_eq_true rfl) rfl ?_
  have hm : (ws.map int).length = ws.length := List.length_map _
  ((repeat ((conv => whnf); (first | (refine As.pre ?_; first | refine As.mk rfl ?_) | (refine LetI.pre ?_; first | refine LetI.mk _ rfl ?_) | (refine Ck.pre ?_; first | refine Ck.mk rfl ?_)))); (try (conv => whnf)))
  refine LoopN.weak (s1 := sgS a ws 0) ?sw1 ?_
  case sw1 => exact SW.fr0 (Nat.le_refl _) (by show frNames _ _ = true; simp only [frNames, AV.names, namesL_none (pure_int _)]; rfl) ⟨.refl _, VLe2.ro_of rfl, VLe2.int (by rw [hm]), .refl _, trivial⟩
  refine LoopN.ind T_ok mixed (S := sgS a ws) (fun k => ws.length - k) (fun k => k ≤ ws.length) (fun _ => rfl) (fun k hk ih => ?_) 0 (Nat.zero_le _)
  by_cases hlt : k < ws.length
  case neg =>
    clear ih
    ((repeat ((conv => whnf); (first | (refine As.pre ?_; first | refine As.mk rfl ?_) | (refine LetB.pre ?_; first | refine LetB.decf (by omega) ?_) | (refine Br.pre ?_; first | refine Br.ff rfl ?_) | (refine Ck.pre ?_; first | refine Ck.mk rfl ?_)))); (try (conv => whnf)))
    exact ⟨.inl rfl, ⟨_, rfl, rfl⟩, trivial⟩
  have hs := stdE a k _ (h k hlt)
  have hld := getD_i hlt
  generalize ws.getD k 0 = n at hs hld
  have hnx := ih (k + 1) hlt (by omega)
  clear ih h
  ((repeat ((conv => whnf); (first | (refine As.pre ?_; first | refine As.mk rfl ?_ | (refine As.mk ?_ ?_; · ((repeat' (refine andT ?_ ?_)) <;> (first | rfl | assumption | exact decide_eq_true (by omega) | exact decide_eq_true (by dsimp only; omega) | exact decide_eq_true (by simp; omega) | (simp; done))))) | (refine LetV.pre ?_; first | refine LetV.mk (t := 22) _ hld ?_ | refine LetV.mk (.sc (.int _ _)) rfl ?_) | (refine LetI.pre ?_; first | refine LetI.wrap (by omega) (by omega) ?_) | (refine LetB.pre ?_; first | refine LetB.dect (by omega) ?_ | refine LetB.bnef (by omega) ?_) | (refine Br.pre ?_; first | refine Br.tt rfl ?_ | refine Br.ff rfl ?_) | (refine Ck.pre ?_; first | refine Ck.mk rfl ?_) | (refine CallN.pre ?_; first | refine CallN.pure example_f rfl rfl ?_ | refine CallN.pure sc0_f rfl rfl ?_ | refine CallN.pure hs rfl rfl ?_)))); (try (conv => whnf)))




  refine LoopN.weak ?sw2 hnx
  case sw2 => exact SW.fr0 (Nat.le_refl _) (by show frNames _ _ = true; simp only [frNames, AV.names, namesL_none (pure_int _)]; rfl) ⟨.refl _, .refl _, .refl _, VLe2.int (by omega), trivial⟩
theorem sdg1 : AFun Try.prog 26 0 [int 299, .ro ⟨true, true⟩ 1 [int 1, int 2, int 3]] [] (bool true) [] := standings_f 299 [1, 2, 3] _ (by decide) fun k hk => match k with | 0 => by kernel_rfl | 1 => by kernel_rfl | 2 => by kernel_rfl | k + 3 => absurd hk (by simp)
theorem sdg2 : AFun Try.prog 26 0 [int 320, .ro ⟨true, true⟩ 1 [int 1, int 1, int 2]] [] (bool true) [] := standings_f 320 [1, 1, 2] _ (by decide) fun k hk => match k with | 0 => by kernel_rfl | 1 => by kernel_rfl | 2 => by kernel_rfl | k + 3 => absurd hk (by simp)
theorem sdg3 : AFun Try.prog 26 0 [int 198, .ro ⟨true, true⟩ 1 [int 1, int 0]] [] (bool true) [] := standings_f 198 [1, 0] _ (by decide) fun k hk => match k with | 0 => by kernel_rfl | 1 => by kernel_rfl | k + 2 => absurd hk (by simp)
theorem exT1 : AFun Try.prog 13 0 [.ro {} 15 (exl.map en), int 1, int 240] [] (.tup [int 0, int 1, bool true]) [] := by
  have h := Terms_f exl 1 240 {} (by decide) exl_ok
  rw [show minP (trmP exl 1 240) = 0 by kernel_rfl, show maxP (trmP exl 1 240) = 1 by kernel_rfl, show decide (trmP exl 1 240 ≠ []) = true by kernel_rfl] at h
  exact h
theorem exT2 : AFun Try.prog 13 0 [.ro {} 15 (exl.map en), int 1, int 10] [] (.tup [int 0, int 0, bool false]) [] := by
  have h := Terms_f exl 1 10 {} (by decide) exl_ok
  rw [show minP (trmP exl 1 10) = 0 by kernel_rfl, show maxP (trmP exl 1 10) = 0 by kernel_rfl, show decide (trmP exl 1 10 ≠ []) = false by kernel_rfl] at h
  exact h
theorem exM : AFun Try.prog 15 0 [.ro {} 15 (exl.map en), Sc.scA sc0, int 1, int 299, int 1] [] (.tup [.agg [int 105, int 2], bool true]) [] := by
  have h := Means_f exl sc0 1 299 1 (by decide) exl_ok
  rw [show menP exl 1 299 1 = ((105, 2), true) by kernel_rfl] at h
  exact h
set_option maxHeartbeats 1600000 in
set_option maxRecDepth 100000 in
theorem sanity_f : AFun Try.prog 9 0 [] [] (bool true) [] := by
  refine AFun.of_W T_ok mixed Try.func9 rfl (Nat.le_of_ble_eq_true rfl) rfl ?_
  ((repeat ((conv => whnf); (first | (refine LetN.pre ?_; first | ((conv => arg 1; whnf); refine LetN.mk ?_)) | (refine As.pre ?_; first | refine As.mk rfl ?_) | (refine LetV.pre ?_; first | refine LetV.mk (.agg _) rfl ?_) | (refine LetB.pre ?_; first | refine LetB.tt rfl ?_) | (refine Gd.pre ?_; first | refine Gd.run rfl ?_) | (refine Ck.pre ?_; first | refine Ck.mk rfl ?_) | (refine LetL.pre ?_; first | refine LetL.mk [_] rfl ?_) | (refine CallN.pre ?_; first | refine CallN.pure example_f rfl rfl ?_ | refine CallN.pure sc0_f rfl rfl ?_ | refine CallN.pure exT1 rfl rfl ?_ | refine CallN.pure exT2 rfl rfl ?_ | refine CallN.pure exM rfl rfl ?_ | refine CallN.pure sdg1 rfl rfl ?_ | refine CallN.pure sdg2 rfl rfl ?_ | refine CallN.pure sdg3 rfl rfl ?_ | refine CallN.pure (stiE 299 0 true (by kernel_rfl)) rfl rfl ?_ | refine CallN.pure (stiE 299 1 false (by kernel_rfl)) rfl rfl ?_)))); (try (conv => whnf)))










  exact ⟨.inl rfl, ⟨_, rfl, rfl⟩, trivial⟩
/-! ### The case -/
abbrev u8' (v : Int) : AV := .sc (.int .u8 v)
abbrev u16 (v : Int) : AV := .sc (.int .u16 v)
theorem M10.okW {sc day : Int} {l : List E} (h : M10 sc day l) (hd : day ≤ 1000) : ∀ e ∈ l, Dt.okW e.on_ := fun e he => by
  have h1 := (h.ok e he).day
  have h2 := (h.ok e he).on
  unfold Dt.okW
  omega
set_option maxRecDepth 100000 in
theorem made_f (xs : List Int) (fl : Fl) (hx : xs.length ≤ 9223372036854775807) (q : Int × Int × Int × Int) (h1 : 0 ≤ q.1 ∧ q.1 ≤ 255) (h2 : 0 ≤ q.2.1 ∧ q.2.1 ≤ 255) (h3 : 0 ≤ q.2.2.1 ∧ q.2.2.1 ≤ 65535) (h4 : 0 ≤ q.2.2.2 ∧ q.2.2.2 ≤ 255) :
    ∃ (sc : Int) (l : List E) (st a t : Int), (sc = 1 + q.1.tmod 3 ∧ 1 ≤ sc ∧ sc ≤ 3) ∧ (l.length ≤ 24 ∧ M10 sc 600 l) ∧ (1 ≤ st ∧ st ≤ 4) ∧ (0 ≤ a ∧ a < 800) ∧ (0 ≤ t ∧ t < 8) ∧
    AFun Try.prog 10 0 [.agg [.ro fl 1 (xs.map int), u8' q.1, u8' q.2.1, u16 q.2.2.1, u8' q.2.2.2]] [] (.tup [.ro {} 15 (l.map en), Sc.scA (sclOf sc), int st, int a, int t]) [] := by
  have b1 := tmod_bound q.1 (m := 3) (by omega)
  have p1 := tmod_pos 3 h1.1
  have b2 := tmod_bound q.2.1 (m := 4) (by omega)
  have p2 := tmod_pos 4 h2.1
  have b3 := tmod_bound q.2.2.1 (m := 800) (by omega)
  have p3 := tmod_pos 800 h3.1
  have b4 := tmod_bound q.2.2.2 (m := 8) (by omega)
  have p4 := tmod_pos 8 h4.1
  have hsc : 1 ≤ 1 + q.1.tmod 3 ∧ 1 + q.1.tmod 3 ≤ 3 := by omega
  obtain ⟨l, hl, hM⟩ := Made10_f xs fl hx (1 + q.1.tmod 3) hsc
  refine ⟨1 + q.1.tmod 3, l, 1 + q.2.1.tmod 4, q.2.2.1.tmod 800, q.2.2.2.tmod 8, ⟨rfl, hsc⟩, hl, by omega, by omega, by omega, ?_⟩
  have hO := SclOf_f _ hsc
  generalize sclOf (1 + q.1.tmod 3) = s at hO ⊢
  refine AFun.of_W T_ok mixed Try.func10 rfl (Nat.le_of_ble_eq_true rfl) rfl ?_
  have w1 : q.1 = IntKind.i64.wrap q.1 := (wrap_id (by omega) (by omega)).symm
  have w2 : q.2.1 = IntKind.i64.wrap q.2.1 := (wrap_id (by omega) (by omega)).symm
  have w3 : q.2.2.1 = IntKind.i64.wrap q.2.2.1 := (wrap_id (by omega) (by omega)).symm
  have w4 : q.2.2.2 = IntKind.i64.wrap q.2.2.2 := (wrap_id (by omega) (by omega)).symm
  ((repeat ((conv => whnf); (first | (refine LetN.pre ?_; first | ((conv => arg 1; whnf); refine LetN.mk ?_)) | (refine As.pre ?_; first | refine As.mk rfl ?_) | (refine LetV.pre ?_; first | refine LetV.mk (.sc (.int _ _)) rfl ?_ | refine LetV.mk (.ro _ _ _) rfl ?_) | (refine LetI.pre ?_; first | refine LetI.mk (o := none) q.1 w1 ?_ | refine LetI.mk (o := none) q.2.1 w2 ?_ | refine LetI.mk (o := none) q.2.2.1 w3 ?_ | refine LetI.mk (o := none) q.2.2.2 w4 ?_ | refine LetI.wrap (by omega) (by omega) ?_ | refine LetI.mk _ rfl ?_) | (refine Ck.pre ?_; first | refine Ck.drawn (by kernel_rfl) ?_ | refine Ck.mk rfl ?_) | (refine LetL.pre ?_; first | refine LetL.mk [_] rfl ?_) | (refine CallN.pre ?_; first | refine CallN.pure hM rfl rfl ?_ | refine CallN.pure hO rfl rfl ?_)))); (try (conv => whnf)))






  exact ⟨.inl rfl, ⟨_, rfl, rfl⟩, trivial⟩
end En
end Go.Proofs.Ytnegdmjmllmclaa
