/- The owned machine, part MH: rows lent to a call, argument by argument. -/
import Derived.Test.YtcfokhkdphodoaaAmMG
namespace Go.Proofs.Ytcfokhkdphodoaa.Am
set_option linter.unusedVariables false
theorem frz_nameless (H : AH) (F : Nat → Bool) : ∀ v : AV, v.names (fun _ => false) = true → v.frz H F = v ∧ v.frzOk H F = true := fun v =>
  AV.rec (motive_1 := fun v => v.names (fun _ => false) = true → v.frz H F = v ∧ v.frzOk H F = true) (motive_2 := fun l => AV.namesL (fun _ => false) l = true → AV.frzL H F l = l ∧ AV.frzOkL H F l = true)
    (fun _ => ⟨rfl, rfl⟩)
    (fun b v ih h => by simp only [AV.names] at h; have := ih h; exact ⟨by simp only [AV.frz, this.1], by simp only [AV.frzOk, this.2]⟩)
    (fun v _ => ⟨rfl, rfl⟩)
    (fun id E i o h => by simp [AV.names] at h)
    (fun e o ih h => ⟨rfl, rfl⟩)
    (fun fl id E o l h => by simp [AV.names] at h)
    (fun fl E es ih h => ⟨rfl, rfl⟩)
    (fun cs ih h => by simp only [AV.names] at h; have := ih h; exact ⟨by simp only [AV.frz, this.1], by simp only [AV.frzOk, this.2]⟩)
    (fun cs ih h => by simp only [AV.names] at h; have := ih h; exact ⟨by simp only [AV.frz, this.1], by simp only [AV.frzOk, this.2]⟩)
    (fun f cs ih h => by simp only [AV.names] at h; have := ih h; exact ⟨by simp only [AV.frz, this.1], by simp only [AV.frzOk, this.2]⟩)
    (fun id h => by simp [AV.names] at h)
    (fun _ => ⟨rfl, rfl⟩)
    (fun v l ih1 ih2 h => by
      simp only [AV.namesL, Bool.and_eq_true] at h
      have a := ih1 h.1
      have b := ih2 h.2
      exact ⟨by simp only [AV.frzL, a.1, b.1], by simp only [AV.frzOkL, a.2, b.2, Bool.and_self]⟩)
    v
/-- The arguments ws with their rows lent are vs; F are the rows. -/
inductive Lend (Hc : AH) : List AV → List AV → List Nat → Prop
  | nil : Lend Hc [] [] []
  | same {v : AV} {ws vs : List AV} {F : List Nat} (h : v.names (fun _ => false) = true) (k : Lend Hc ws vs F) : Lend Hc (v :: ws) (v :: vs) F
  | part {fl : Fl} {i E off len : Nat} {t : TypeId} {es es' : List AV} {ws vs : List AV} {F : List Nat} (g : Hc.get i = some (.row E t es)) (hn : AV.namesL (fun _ => false) es = true) (hl : off + len ≤ es.length) (e : (es.drop off).take len = es') (k : Lend Hc ws vs F) : Lend Hc (.slm fl i E off len :: ws) (.ro fl E es' :: vs) (i :: F)
theorem Lend.full {Hc : AH} {fl : Fl} {i E len : Nat} {t : TypeId} {es : List AV} {ws vs : List AV} {F : List Nat} (g : Hc.get i = some (.row E t es)) (hn : AV.namesL (fun _ => false) es = true) (hl : len = es.length) (k : Lend Hc ws vs F) : Lend Hc (.slm fl i E 0 len :: ws) (.ro fl E es :: vs) (i :: F) :=
  .part g hn (by omega) (by subst hl; simp) k
theorem namesL_drop {ok : Nat → Bool} {l : List AV} (h : AV.namesL ok l = true) (a b : Nat) : AV.namesL ok ((l.drop a).take b) = true := by
  rw [namesL_all] at h ⊢
  exact List.all_eq_true.2 fun x hx => List.all_eq_true.1 h x (List.mem_of_mem_drop (List.mem_of_mem_take hx))
theorem Lend.ok {Hc : AH} : ∀ {ws vs : List AV} {F : List Nat}, Lend Hc ws vs F → rowsOk Hc F = true ∧ AV.namesL (fun _ => false) vs = true ∧ ∀ G : List Nat, (∀ i ∈ F, i ∈ G) → AV.frzL Hc G.contains ws = vs ∧ AV.frzOkL Hc G.contains ws = true := by
  intro ws vs F h
  induction h with
  | nil => exact ⟨rfl, rfl, fun G _ => ⟨rfl, rfl⟩⟩
  | same h _ ih =>
    refine ⟨ih.1, by simp only [AV.namesL, h, ih.2.1, Bool.and_self], fun G hG => ?_⟩
    have a := frz_nameless Hc G.contains _ h
    have b := ih.2.2 G hG
    exact ⟨by simp only [AV.frzL, a.1, b.1], by simp only [AV.frzOkL, a.2, b.2, Bool.and_self]⟩
  | @part fl i E off len t es es' ws vs F g hn hl e _ ih =>
    subst e
    have hrow : rowsOk Hc (i :: F) = true := by
      have := ih.1
      simp only [rowsOk, List.all_cons, g, hn, Bool.true_and] at this ⊢
      exact this
    refine ⟨hrow, ?_, fun G hG => ?_⟩
    · simp only [AV.namesL, AV.names, ih.2.1, Bool.and_true]
    · have b := ih.2.2 G fun j hj => hG j (List.mem_cons_of_mem _ hj)
      have hc : G.contains i = true := by simpa using hG i (List.mem_cons_self ..)
      refine ⟨?_, ?_⟩
      · simp only [AV.frzL, AV.frz, hc, g, b.1, if_true]
      · simp only [AV.frzOkL, AV.frzOk, hc, g, b.2, beq_self_eq_true, Bool.true_and, Bool.and_true, Bool.not_true, Bool.false_or]
        exact decide_eq_true hl
theorem CallN.lend {P : Program} {f : FuncId} {vs ws : List AV} {F : List Nat} {Hc : AH} {v : AV} {K : Out → Prop} (hf : AFun P f 0 vs [] v []) (hv : v.plain = true) (h : Lend Hc ws vs F) (k : K { v := v, D := F }) : CallN P f ws Hc K :=
  CallN.borrow F hf hv h.ok.1 ((h.ok.2.2 F fun _ h => h).2) ((h.ok.2.2 F fun _ h => h).1).symm h.ok.2.1 k
theorem Ck.pre {b : Bool} {K : Prop} (h : Ck b K) : Ck b K := h
theorem As.pre {b : Bool} {K : Prop} (h : As b K) : As b K := h
theorem LetI.pre {o : Option BinOp} {m : Int} {K : Int → Prop} (h : LetI o m K) : LetI o m K := h
theorem LetB.pre {o : Option BinOp} {m : Bool} {K : Bool → Prop} (h : LetB o m K) : LetB o m K := h
theorem LetV.pre {t : TypeId} {v : AV} {K : AV → Prop} (h : LetV t v K) : LetV t v K := h
theorem LetL.pre {t : TypeId} {v : List AV} {K : List AV → Prop} (h : LetL t v K) : LetL t v K := h
theorem Br.pre {b : Bool} {p q : Prop} (h : Br b p q) : Br b p q := h
theorem Gd.pre {b : Bool} {p q r : Prop} (h : Gd b p q r) : Gd b p q r := h
theorem CallN.pre {P : Program} {f : FuncId} {vs : List AV} {H : AH} {K : Out → Prop} (h : CallN P f vs H K) : CallN P f vs H K := h
end Go.Proofs.Ytcfokhkdphodoaa.Am
