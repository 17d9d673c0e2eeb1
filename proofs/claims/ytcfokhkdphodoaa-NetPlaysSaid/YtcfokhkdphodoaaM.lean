/- Ytcfokhkdphodoaa: YtcfokhkdphodoaaM. -/
import Derived.Test.YtcfokhkdphodoaaL
namespace Go.Proofs.Ytcfokhkdphodoaa
open Go.Proofs.Ytcfokhkdphodoaa.Am
namespace Nt
theorem one_shl (b j : Nat) (hj : j < 16) : (1#16 <<< b).getLsbD j = decide (j = b) := by
  rw [BitVec.getLsbD_shiftLeft, BitVec.getLsbD_one]
  by_cases h1 : j < b
  · simp [h1]; omega
  · by_cases h2 : j = b
    · subst h2; simp [hj]
    · have : j - b ≠ 0 := by omega
      simp [h2, this]
theorem set1_t (cu : Nat → BitVec 16) (a b i j : Nat) (hj : j < 16) : (set1 cu a b true i).getLsbD j = if i = a ∧ j = b then true else (cu i).getLsbD j := by
  simp only [set1, upd, cond_true, if_true]
  by_cases hi : i = a
  · subst hi
    rw [if_pos rfl, BitVec.getLsbD_or, BitVec.getLsbD_and, BitVec.getLsbD_not, one_shl b j hj]
    by_cases hb : j = b
    · simp [hb]
    · simp [hb, hj]
  · simp [hi]
theorem set1_f (cu : Nat → BitVec 16) (a b i j : Nat) (hj : j < 16) : (set1 cu a b false i).getLsbD j = if i = a ∧ j = b then false else (cu i).getLsbD j := by
  simp only [set1, upd, cond_false]
  by_cases hi : i = a
  · subst hi
    by_cases hb : j = b
    · subst hb; simp [hj]
    · simp [hb, hj]; omega
  · simp [hi]
theorem setC_b (cu : Nat → BitVec 16) (a b i j : Nat) (y : Bool) (hj : j < 16) : (setC cu a b y i).getLsbD j = if (i = a ∧ j = b) ∨ (i = b ∧ j = a) then y else (cu i).getLsbD j := by
  have h1 : ∀ (cu : Nat → BitVec 16) (a b : Nat), (set1 cu a b y i).getLsbD j = if i = a ∧ j = b then y else (cu i).getLsbD j := fun cu a b => by
    cases y
    · exact set1_f cu a b i j hj
    · exact set1_t cu a b i j hj
  rw [setC, h1, h1]
  by_cases h1 : i = b ∧ j = a
  · rw [if_pos h1, if_pos (.inr h1)]
  · rw [if_neg h1]
    by_cases h2 : i = a ∧ j = b
    · rw [if_pos h2, if_pos (.inl h2)]
    · rw [if_neg h2, if_neg (by rintro (h | h) <;> contradiction)]
/-- Both nets have the same links cut. -/
structure Rel (n : Int) (cu : Nat → BitVec 16) (cl : List Pr) : Prop where
  nd : cl.Nodup
  mem : ∀ a b : Int, Okp n a b → ((cu a.toNat).getLsbD b.toNat = true ↔ prOf a b ∈ cl)
theorem Rel.nil (n : Int) : Rel n c0 [] := ⟨by simp, fun a b _ => by simp⟩
theorem prOf_eq {a b c d : Int} : prOf c d = prOf a b ↔ (c = a ∧ d = b) ∨ (c = b ∧ d = a) := by
  simp only [prOf, Prod.mk.injEq]
  omega
theorem Rel.set {n : Int} {cu : Nat → BitVec 16} {cl cl' : List Pr} (h : Rel n cu cl) (hn : n ≤ 8) {a b : Int} (hab : Okp n a b) (y : Bool) (nd : cl'.Nodup) (hm : ∀ x, x ∈ cl' ↔ (x ≠ prOf a b ∧ x ∈ cl) ∨ (x = prOf a b ∧ y = true)) : Rel n (setC cu a.toNat b.toNat y) cl' := by
  refine ⟨nd, fun c d hcd => ?_⟩
  obtain ⟨a1, a2, a3, a4, a5⟩ := hab
  obtain ⟨c1, c2, c3, c4, c5⟩ := hcd
  rw [setC_b _ _ _ _ _ _ (by omega), hm]
  have e : ((c.toNat = a.toNat ∧ d.toNat = b.toNat) ∨ (c.toNat = b.toNat ∧ d.toNat = a.toNat)) ↔ prOf c d = prOf a b := by
    rw [prOf_eq]; omega
  by_cases hp : prOf c d = prOf a b
  · rw [if_pos (e.2 hp)]
    simp [hp]
  · rw [if_neg (fun hh => hp (e.1 hh)), h.mem c d ⟨c1, c2, c3, c4, c5⟩]
    simp [hp]
theorem Rel.on {n : Int} {cu : Nat → BitVec 16} {cl : List Pr} (h : Rel n cu cl) (hn : n ≤ 8) {a b : Int} (hab : Okp n a b) (hc : prOf a b ∈ cl) : Rel n (setC cu a.toNat b.toNat true) cl := by
  refine h.set hn hab true h.nd fun x => ?_
  by_cases hx : x = prOf a b
  · subst hx; simp [hc]
  · simp [hx]
theorem Rel.off {n : Int} {cu : Nat → BitVec 16} {cl : List Pr} (h : Rel n cu cl) (hn : n ≤ 8) {a b : Int} (hab : Okp n a b) (hc : prOf a b ∉ cl) : Rel n (setC cu a.toNat b.toNat false) cl := by
  refine h.set hn hab false h.nd fun x => ?_
  by_cases hx : x = prOf a b
  · subst hx; simp [hc]
  · simp [hx]
theorem Rel.add {n : Int} {cu : Nat → BitVec 16} {cl : List Pr} (h : Rel n cu cl) (hn : n ≤ 8) {a b : Int} (hab : Okp n a b) (hc : prOf a b ∉ cl) : Rel n (setC cu a.toNat b.toNat true) (cl ++ [prOf a b]) := by
  refine h.set hn hab true ?_ fun x => ?_
  · refine List.nodup_append.2 ⟨h.nd, by simp, fun u hu v hv => ?_⟩
    simp only [List.mem_singleton] at hv
    subst hv
    rintro rfl; exact hc hu
  · by_cases hx : x = prOf a b
    · subst hx; simp
    · simp [hx]
theorem Rel.del {n : Int} {cu : Nat → BitVec 16} {cl : List Pr} (h : Rel n cu cl) (hn : n ≤ 8) {a b : Int} (hab : Okp n a b) {k : Nat} (hk : k < cl.length) (hc : cl.getD k (0, 0) = prOf a b) : Rel n (setC cu a.toNat b.toNat false) (cl.eraseIdx k) := by
  have e : cl = cl.take k ++ (prOf a b :: cl.drop (k + 1)) := by
    rw [List.getD_eq_getElem?_getD, List.getElem?_eq_getElem hk] at hc
    simp only [Option.getD_some] at hc
    rw [← hc, List.getElem_cons_drop, List.take_append_drop]
  have nd := h.nd
  rw [e, List.nodup_append, List.nodup_cons] at nd
  obtain ⟨n1, ⟨n2, n3⟩, n4⟩ := nd
  refine h.set hn hab false ?_ fun x => ?_
  · rw [List.eraseIdx_eq_take_drop_succ]
    exact List.nodup_append.2 ⟨n1, n3, fun u hu v hv => n4 u hu v (List.mem_cons_of_mem _ hv)⟩
  · rw [List.eraseIdx_eq_take_drop_succ, List.mem_append]
    have hx : x ∈ cl ↔ x ∈ cl.take k ∨ x = prOf a b ∨ x ∈ cl.drop (k + 1) := by
      conv => lhs; rw [e]
      simp
    rw [hx]
    constructor
    · rintro (h1 | h1)
      · refine .inl ⟨?_, .inl h1⟩
        rintro rfl; exact n4 _ h1 _ (List.mem_cons_self ..) rfl
      · refine .inl ⟨?_, .inr (.inr h1)⟩
        rintro rfl; exact n2 h1
    · rintro (⟨h1, h2 | h2 | h2⟩ | ⟨_, h2⟩)
      · exact .inl h2
      · exact absurd h2 h1
      · exact .inr h2
      · cases h2
/-! nil nets -/
abbrev nP : AV := .sc (.pointer none)
theorem nSend (p : Pc) : AFun Try.prog 12 0 [nP, par p] [] (int 1) [] := AFun.of_calls (evF_sound T_ok mixed 20 12 _ [] 0 _ (by kernel_rfl))
theorem nrSend (p : Pc) : AFun Try.prog 20 0 [nP, par p] [] (int 1) [] := AFun.of_calls (evF_sound T_ok mixed 20 20 _ [] 0 _ (by kernel_rfl))
theorem nTake (k : Int) (b : Bool) : AFun Try.prog 14 0 [nP, int k, .sc (.bool b)] [] (.tup [par p0, int 1]) [] := AFun.of_calls (evF_sound T_ok mixed 20 14 _ [] 0 _ (by kernel_rfl))
theorem nrTake (k : Int) (b : Bool) : AFun Try.prog 21 0 [nP, int k, .sc (.bool b)] [] (.tup [par p0, int 1]) [] := AFun.of_calls (evF_sound T_ok mixed 20 21 _ [] 0 _ (by kernel_rfl))
theorem nCut (a b : Int) (y : Bool) : AFun Try.prog 15 0 [nP, int a, int b, .sc (.bool y)] [] (int 1) [] := AFun.of_calls (evF_sound T_ok mixed 20 15 _ [] 0 _ (by kernel_rfl))
theorem nrCut (a b : Int) (y : Bool) : AFun Try.prog 22 0 [nP, int a, int b, .sc (.bool y)] [] (int 1) [] := AFun.of_calls (evF_sound T_ok mixed 20 22 _ [] 0 _ (by kernel_rfl))
theorem nLose (a : Int) : AFun Try.prog 23 0 [nP, int a] [] (int 1) [] := AFun.of_calls (evF_sound T_ok mixed 20 23 _ [] 0 _ (by kernel_rfl))
theorem nrLose (a : Int) : AFun Try.prog 24 0 [nP, int a] [] (int 1) [] := AFun.of_calls (evF_sound T_ok mixed 20 24 _ [] 0 _ (by kernel_rfl))
theorem nLinked (a b : Int) : AFun Try.prog 17 0 [nP, int a, int b] [] (.sc (.bool false)) [] := AFun.of_calls (evF_sound T_ok mixed 20 17 _ [] 0 _ (by kernel_rfl))
theorem nrLinked (a b : Int) : AFun Try.prog 25 0 [nP, int a, int b] [] (.sc (.bool false)) [] := AFun.of_calls (evF_sound T_ok mixed 20 25 _ [] 0 _ (by kernel_rfl))
theorem nWaiting : AFun Try.prog 16 0 [nP] [] (.sc (.slice none 0 0)) [] := AFun.of_calls (evF_sound T_ok mixed 20 16 _ [] 0 _ (by kernel_rfl))
theorem nrWaiting : AFun Try.prog 26 0 [nP] [] (.sc (.slice none 0 0)) [] := AFun.of_calls (evF_sound T_ok mixed 20 26 _ [] 0 _ (by kernel_rfl))
theorem nSame : AFun Try.prog 18 0 [.sc (.slice none 0 0), .sc (.slice none 0 0)] [] (.sc (.bool true)) [] := AFun.of_calls (evF_sound T_ok mixed 20 18 _ [] 0 _ (by kernel_rfl))
end Nt
end Go.Proofs.Ytcfokhkdphodoaa
