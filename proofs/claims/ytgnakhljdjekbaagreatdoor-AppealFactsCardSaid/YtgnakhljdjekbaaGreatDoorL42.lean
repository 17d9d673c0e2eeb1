/- appealZD: parts of the proof, DappealZDFA DappealZDFB DappealZDFC DappealZDFD DappealZDJA DappealZDTA DappealZDTB. -/
import Derived.Test.YtgnakhljdjekbaaGreatDoorL35
import Derived.Test.YtgnakhljdjekbaaGreatDoorAmFZ
import Derived.Lib.Strings
import Derived.Lib.Slices
import Derived.Lib.Walk
import Derived.Lib.Bytealg
set_option linter.all false
namespace Go.Proofs.YtgnakhljdjekbaaGreatDoor
open Go.Proofs.YtgnakhljdjekbaaGreatDoor.Am
set_option maxRecDepth 100000
namespace En
abbrev int (a : Int) : AV := .sc (.int .i64 a)
abbrev bool (b : Bool) : AV := .sc (.bool b)
abbrev str (s : ByteArray) : AV := .sc (.string s)
/-- An entry. -/
structure E where
  id : Int
  school : Int
  student : Int
  kind : Int
  day : Int
  on_ : Int
  course : ByteArray
  credits : Int
  grade : Int
  ref : Int
  frm : Int
  programme : Int
  version : Int
  key : Int
  mark : ByteArray
abbrev en (e : E) : AV := .agg [int e.id, int e.school, int e.student, int e.kind, int e.day, int e.on_, str e.course, int e.credits, int e.grade, int e.ref, int e.frm, int e.programme, int e.version, int e.key, str e.mark]
def e0 : E := ⟨0, 0, 0, 0, 0, 0, ⟨#[]⟩, 0, 0, 0, 0, 0, 0, 0, ⟨#[]⟩⟩
theorem pure_en : ∀ l : List E, AV.namesL (fun _ => false) (l.map en) = true
  | [] => rfl
  | p :: l => by simp only [List.map_cons, AV.namesL, pure_en l]; rfl
theorem stor_en (l : List E) (i j : Nat) : storables (((l.map en).drop i).take j) = true := by
  refine List.all_eq_true.2 fun e he => ?_
  obtain ⟨p, _, rfl⟩ := List.mem_map.1 (List.mem_of_mem_drop (List.mem_of_mem_take he))
  rfl
/-! ### Conditions -/
/-- A condition on entries: a closure, and what it says. -/
structure Cd where
  f : Nat
  caps : List AV
  p : E → Bool
abbrev Cd.av (c : Cd) : AV := .clo c.f c.caps
structure Cd.Ok (c : Cd) : Prop where
  run : ∀ e, AFun Tryz.prog c.f 0 (en e :: c.caps) [] (bool (c.p e)) []
  call : callable Tryz.prog c.f = true
  pure : AV.namesL (fun _ => false) c.caps = true
theorem Cd.Ok.names {c : Cd} (h : c.Ok) (e : E) : AV.namesL (fun _ => false) (en e :: c.caps) = true := by
  simp only [AV.namesL, h.pure]; rfl
abbrev cCounts (asof on : Int) : Cd := ⟨72, [.rp (int asof) 0, .rp (int on) 0], fun e => decide (e.day ≤ asof ∧ e.on_ ≤ on)⟩
/-! ### The entries for which all conditions hold -/
/-- The first index at which p holds, from k on; -1: none. -/
def fidx {α : Type} (p : α → Bool) : List α → Nat → Int
  | [], _ => -1
  | a :: l, k => if p a then (k : Int) else fidx p l (k + 1)
theorem fidx_drop {α : Type} {p : α → Bool} {l : List α} {k : Nat} (h : k < l.length) (d : α) : fidx p (l.drop k) k = if p (l.getD k d) then (k : Int) else fidx p (l.drop (k + 1)) (k + 1) := by
  rw [List.drop_eq_getElem_cons h, List.getD_eq_getElem?_getD, List.getElem?_eq_getElem h]; rfl
theorem fidx_end {α : Type} {p : α → Bool} {l : List α} {k : Nat} (h : ¬ k < l.length) : fidx p (l.drop k) k = -1 := by
  rw [List.drop_eq_nil_of_le (by omega)]; rfl
theorem fidx_nonneg {α : Type} {p : α → Bool} : ∀ (l : List α) (k : Nat), (0 ≤ fidx p l k) ↔ l.any p = true
  | [], k => by simp [fidx]
  | a :: l, k => by
    unfold fidx
    cases hp : p a with
    | true => simp [hp]
    | false => simp [hp, fidx_nonneg l (k + 1)]
end En
end Go.Proofs.YtgnakhljdjekbaaGreatDoor
namespace Go.Proofs.YtgnakhljdjekbaaGreatDoor
open Go.Proofs.YtgnakhljdjekbaaGreatDoor.Am
set_option maxRecDepth 100000
namespace En
/-- The entries for which all conditions hold. -/
abbrev chos (l : List E) (cs : List Cd) : List E := l.filter fun e => cs.all (·.p e)
theorem room_en {n : Nat} (h : n ≤ 1000000) : room n 136 = true := by
  simp only [room, Bool.and_eq_true, decide_eq_true_eq]
  exact ⟨by omega, rfl⟩
end En
end Go.Proofs.YtgnakhljdjekbaaGreatDoor
namespace Go.Proofs.YtgnakhljdjekbaaGreatDoor
open Go.Proofs.YtgnakhljdjekbaaGreatDoor.Am
set_option maxRecDepth 100000
namespace En
/-- The order of two numbers. -/
def cmpI (a b : Int) : Int := if a < b then -1 else if b < a then 1 else 0
def firstNZ : List Int → Int
  | [] => 0
  | x :: l => if x = 0 then firstNZ l else x
theorem isNaN_f (a : Int) : AFun Tryz.prog 82 0 [int a] [] (bool false) [] := by
  refine AFun.of_W T_ok mixed Tryz.func82 rfl (Nat.le_of_ble_eq_true rfl) rfl ?_
  have h : (a != a) = false := by simp
  ((repeat ((conv => whnf); (first | (refine As.pre ?_; first | refine As.mk rfl ?_) | (refine LetB.pre ?_; first | refine LetB.ff (by assumption) ?_) | (refine Ck.pre ?_; first | refine Ck.mk rfl ?_)))); (try (conv => whnf)))
  exact ⟨.inl rfl, ⟨_, rfl, rfl⟩, trivial⟩
theorem Compare_f (a b : Int) : AFun Tryz.prog 61 0 [int a, int b] [] (int (cmpI a b)) [] := by
  refine AFun.of_W T_ok mixed Tryz.func61 rfl (Nat.le_of_ble_eq_true rfl) rfl ?_
  unfold cmpI
  repeat' ((conv => whnf); (first | (refine As.pre ?_; first | refine As.mk rfl ?_) | (refine LetB.pre ?_; first | (refine LetB.dec (fun _ => ?_) (fun _ => ?_))) | (refine Br.pre ?_; first | refine Br.tt rfl ?_ | refine Br.ff rfl ?_) | (refine Ck.pre ?_; first | refine Ck.mk rfl ?_) | (refine CallN.pre ?_; first | refine CallN.pure (isNaN_f _) rfl rfl ?_)))
  all_goals
    refine ⟨.inl rfl, ⟨_, rfl, congrArg int ?_⟩, trivial⟩
    first | (rw [if_pos (by omega)]; done) | (rw [if_neg (by omega), if_pos (by omega)]; done) | (rw [if_neg (by omega), if_neg (by omega)]; done)
theorem Or_f (xs : List Int) (fl : Fl) (hl : xs.length ≤ 1000) : AFun Tryz.prog 60 0 [.ro fl 1 (xs.map int)] [] (int (firstNZ xs)) [] := by
  refine AFun.of_W T_ok mixed Tryz.func60 rfl (Nat.le_of_ble_eq_true rfl) rfl ?_
  ((repeat ((conv => whnf); (first | (refine As.pre ?_; first | refine As.mk rfl ?_) | (refine LetI.pre ?_; first | refine LetI.mk _ rfl ?_) | (refine Ck.pre ?_; first | refine Ck.mk rfl ?_)))); (try (conv => whnf)))
  refine LoopN.weak (s1 := ⟨[(3, int 0), (6, .ro fl 1 (xs.map int)), (7, int xs.length), (8, int (0 : Nat))], [], 0⟩) (SW.fr0 (Nat.le_refl _) rfl ⟨.refl _, .refl _, VLe2.int (by rw [List.length_map]), .refl _, trivial⟩) ?_
  refine LoopN.ind T_ok mixed (S := fun k : Nat => ⟨[(3, int 0), (6, .ro fl 1 (xs.map int)), (7, int xs.length), (8, int k)], [], 0⟩) (fun k => xs.length - k) (fun k => k ≤ xs.length ∧ firstNZ xs = firstNZ (xs.drop k)) (fun _ => rfl) (fun k hk ih => ?_) 0 ⟨Nat.zero_le _, rfl⟩
  obtain ⟨h1, h2⟩ := hk
  have hm : (xs.map int).length = xs.length := List.length_map _
  by_cases hlt : k < xs.length
  case neg =>
    rw [List.drop_eq_nil_of_le (by omega)] at h2
    rw [h2]
    clear ih
    ((repeat ((conv => whnf); (first | (refine As.pre ?_; first | refine As.mk rfl ?_) | (refine LetB.pre ?_; first | refine LetB.decf (by omega) ?_) | (refine Br.pre ?_; first | refine Br.ff rfl ?_) | (refine Ck.pre ?_; first | refine Ck.mk rfl ?_)))); (try (conv => whnf)))
    exact ⟨.inl rfl, ⟨_, rfl, rfl⟩, trivial⟩
  case pos =>
    have hld : int (xs.getD k 0) = (xs.map int).getD k (.sc undef) := mapD 0 hlt
    rw [List.drop_eq_getElem_cons hlt, show xs[k] = xs.getD k 0 by rw [List.getD_eq_getElem?_getD, List.getElem?_eq_getElem hlt]; rfl] at h2
    generalize xs.getD k 0 = x at hld h2
    by_cases hx : x = 0
    · rw [firstNZ, if_pos hx] at h2
      ((repeat ((conv => whnf); (first | (refine As.pre ?_; first | refine As.mk rfl ?_ | (refine As.mk ?_ ?_; · ((repeat' (refine andT ?_ ?_)) <;> (first | rfl | assumption | exact decide_eq_true (by omega) | exact decide_eq_true (by dsimp only; omega) | exact decide_eq_true (by simp; omega) | (simp; done))))) | (refine LetV.pre ?_; first | refine LetV.mk (t := 43) _ hld ?_ | refine LetV.mk (.sc (.int _ _)) rfl ?_) | (refine LetI.pre ?_; first | refine LetI.wrap (by omega) (by omega) ?_) | (refine LetB.pre ?_; first | refine LetB.dect (by omega) ?_ | refine LetB.bnef (by omega) ?_) | (refine Br.pre ?_; first | refine Br.tt rfl ?_ | refine Br.ff rfl ?_) | (refine Ck.pre ?_; first | refine Ck.mk rfl ?_)))); (try (conv => whnf)))
      refine LoopN.weak ?_ (ih (k + 1) ⟨by omega, h2⟩ (by omega))
      exact SW.fr0 (Nat.le_refl _) rfl ⟨.refl _, .refl _, .refl _, VLe2.int (by omega), trivial⟩
    · rw [firstNZ, if_neg hx] at h2
      rw [h2]
      clear ih
      ((repeat ((conv => whnf); (first | (refine As.pre ?_; first | refine As.mk rfl ?_ | (refine As.mk ?_ ?_; · ((repeat' (refine andT ?_ ?_)) <;> (first | rfl | assumption | exact decide_eq_true (by omega) | exact decide_eq_true (by dsimp only; omega) | exact decide_eq_true (by simp; omega) | (simp; done))))) | (refine LetV.pre ?_; first | refine LetV.mk (t := 43) _ hld ?_ | refine LetV.mk (.sc (.int _ _)) rfl ?_) | (refine LetB.pre ?_; first | refine LetB.dect (by omega) ?_ | refine LetB.bnet (by omega) ?_) | (refine Br.pre ?_; first | refine Br.tt rfl ?_) | (refine Ck.pre ?_; first | refine Ck.mk rfl ?_)))); (try (conv => whnf)))
      exact ⟨.inl rfl, ⟨_, rfl, rfl⟩, trivial⟩
/-- The order of entries. -/
def cmpE (o : Bool) (a b : E) : Int := if o then firstNZ [cmpI a.on_ b.on_, cmpI a.id b.id] else cmpI a.id b.id
end En
end Go.Proofs.YtgnakhljdjekbaaGreatDoor
namespace Go.Proofs.YtgnakhljdjekbaaGreatDoor
open Go.Proofs.YtgnakhljdjekbaaGreatDoor.Am
set_option maxRecDepth 100000
namespace En
/-- The entry at j sinks to its place. -/
def sink (o : Bool) : List E → Nat → List E
  | l, 0 => l
  | l, j + 1 => if cmpE o (l.getD (j + 1) e0) (l.getD j e0) < 0 then sink o ((l.set (j + 1) (l.getD j e0)).set j (l.getD (j + 1) e0)) j else l
def isr (o : Bool) : Nat → Nat → List E → List E
  | 0, _, l => l
  | f + 1, i, l => isr o f (i + 1) (sink o l i)
/-- What the library's sorting by insertion gives. -/
def srt (o : Bool) (l : List E) : List E := isr o (l.length - 1) 1 l
end En
end Go.Proofs.YtgnakhljdjekbaaGreatDoor
namespace Go.Proofs.YtgnakhljdjekbaaGreatDoor
open Go.Proofs.YtgnakhljdjekbaaGreatDoor.Am
set_option maxRecDepth 100000
namespace En
/-! ### Stable sorting, as plain Lean -/
/-- e goes behind the last one that isn't greater. -/
def insEnd {α : Type} (gt : α → Bool) (e : α) (A : List α) : List α := (A.reverse.dropWhile gt).reverse ++ e :: (A.reverse.takeWhile gt).reverse
def sortS {α : Type} (lt : α → α → Bool) (l : List α) : List α := l.foldl (fun out e => insEnd (lt e) e out) []
theorem ins_length {α : Type} (gt : α → Bool) (e : α) (A : List α) : (insEnd gt e A).length = A.length + 1 := by
  have h : (A.reverse.takeWhile gt ++ A.reverse.dropWhile gt).length = A.length := by rw [List.takeWhile_append_dropWhile, List.length_reverse]
  rw [List.length_append] at h
  simp only [insEnd, List.length_append, List.length_reverse, List.length_cons]
  omega
/-- An order by which it can be sorted. -/
structure Ord {α : Type} (lt : α → α → Bool) : Prop where
  asym : ∀ a b, lt a b = true → lt b a = false
  trans : ∀ a b c, lt a b = false → lt b c = false → lt a c = false
abbrev Sorted {α : Type} (lt : α → α → Bool) (A : List α) : Prop := A.Pairwise fun a b => lt b a = false
theorem ins_of {α : Type} {gt : α → Bool} {e : α} {P Q : List α} (h1 : ∀ x ∈ P, gt x = false) (h2 : ∀ x ∈ Q, gt x = true) : insEnd gt e (P ++ Q) = P ++ e :: Q := by
  unfold insEnd
  have hd : P.reverse.dropWhile gt = P.reverse := by
    cases hP : P.reverse with
    | nil => rfl
    | cons y R =>
      have : y ∈ P := by rw [← List.mem_reverse, hP]; exact List.mem_cons_self ..
      rw [List.dropWhile_cons, h1 y this]; rfl
  have ht : P.reverse.takeWhile gt = [] := by
    cases hP : P.reverse with
    | nil => rfl
    | cons y R =>
      have : y ∈ P := by rw [← List.mem_reverse, hP]; exact List.mem_cons_self ..
      rw [List.takeWhile_cons, h1 y this]; rfl
  have h2' : ∀ x ∈ Q.reverse, gt x = true := fun x hx => h2 x (List.mem_reverse.1 hx)
  rw [List.reverse_append, List.dropWhile_append_of_pos h2', List.takeWhile_append_of_pos h2', hd, ht, List.append_nil, List.reverse_reverse, List.reverse_reverse]
theorem mem_takeWhile {α : Type} {p : α → Bool} : ∀ {l : List α} {x : α}, x ∈ l.takeWhile p → p x = true
  | [], x, h => absurd h List.not_mem_nil
  | a :: l, x, h => by
    rw [List.takeWhile_cons] at h
    cases hp : p a with
    | false => rw [hp] at h; simp at h
    | true =>
      rw [hp] at h
      simp only [if_true, List.mem_cons] at h
      rcases h with rfl | h
      · exact hp
      · exact mem_takeWhile h
theorem ins_split {α : Type} {lt : α → α → Bool} (ho : Ord lt) {A : List α} (hA : Sorted lt A) (e : α) : ∃ P Q, A = P ++ Q ∧ (∀ x ∈ P, lt e x = false) ∧ ∀ x ∈ Q, lt e x = true := by
  refine ⟨(A.reverse.dropWhile (lt e)).reverse, (A.reverse.takeWhile (lt e)).reverse, ?_, ?_, fun x hx => mem_takeWhile (List.mem_reverse.1 hx)⟩
  · rw [← List.reverse_append, List.takeWhile_append_dropWhile, List.reverse_reverse]
  · intro x hx
    rw [List.mem_reverse] at hx
    have hs : A.reverse.Pairwise fun a b => lt a b = false := List.pairwise_reverse.2 hA
    have hs2 : (A.reverse.dropWhile (lt e)).Pairwise fun a b => lt a b = false := List.Pairwise.sublist (List.dropWhile_sublist _) hs
    cases hd : A.reverse.dropWhile (lt e) with
    | nil => rw [hd] at hx; exact absurd hx List.not_mem_nil
    | cons y R =>
      have hy : lt e y = false := by
        have h1 : A.reverse.dropWhile (lt e) ≠ [] := by rw [hd]; simp
        have h2 := List.head_dropWhile_not (lt e) h1
        simp only [hd, List.head_cons] at h2
        exact h2
      rw [hd] at hx hs2
      rcases List.mem_cons.1 hx with h | h
      · rw [h]; exact hy
      · exact ho.trans _ _ _ hy ((List.pairwise_cons.1 hs2).1 x h)
theorem ins_sorted {α : Type} {lt : α → α → Bool} (ho : Ord lt) {A : List α} (hA : Sorted lt A) (e : α) : Sorted lt (insEnd (lt e) e A) := by
  obtain ⟨P, Q, rfl, h1, h2⟩ := ins_split ho hA e
  rw [ins_of h1 h2]
  have h3 := List.pairwise_append.1 hA
  refine List.pairwise_append.2 ⟨h3.1, List.pairwise_cons.2 ⟨fun x hx => ho.asym _ _ (h2 x hx), h3.2.1⟩, fun a ha b hb => ?_⟩
  rcases List.mem_cons.1 hb with h | h
  · rw [h]; exact h1 a ha
  · exact h3.2.2 a ha b h
theorem ins_perm {α : Type} (gt : α → Bool) (e : α) (A : List α) : (insEnd gt e A).Perm (e :: A) := by
  have h : ((A.reverse.dropWhile gt).reverse ++ (A.reverse.takeWhile gt).reverse) = A := by
    rw [← List.reverse_append, List.takeWhile_append_dropWhile, List.reverse_reverse]
  have k := List.perm_middle (a := e) (l₁ := (A.reverse.dropWhile gt).reverse) (l₂ := (A.reverse.takeWhile gt).reverse)
  rw [h] at k
  exact k
theorem foldl_sorted {α : Type} {lt : α → α → Bool} (ho : Ord lt) : ∀ (l A : List α), Sorted lt A → Sorted lt (l.foldl (fun out e => insEnd (lt e) e out) A)
  | [], A, h => h
  | x :: l, A, h => foldl_sorted ho l _ (ins_sorted ho h x)
theorem S_sorted {α : Type} {lt : α → α → Bool} (ho : Ord lt) (l : List α) : Sorted lt (sortS lt l) := foldl_sorted ho l [] List.Pairwise.nil
theorem foldl_perm {α : Type} (lt : α → α → Bool) : ∀ (l A : List α), (l.foldl (fun out e => insEnd (lt e) e out) A).Perm (l ++ A)
  | [], A => .refl _
  | x :: l, A => (foldl_perm lt l _).trans (((ins_perm _ x A).append_left l).trans List.perm_middle)
theorem S_perm {α : Type} (lt : α → α → Bool) (l : List α) : (sortS lt l).Perm l := by
  have := foldl_perm lt l []
  rwa [List.append_nil] at this
/-! ### Pieces that are sorted together -/
/-! ### Entries that change places -/
def swp (l : List E) (i j : Nat) : List E := (l.set i (l.getD j e0)).set j (l.getD i e0)
end En
end Go.Proofs.YtgnakhljdjekbaaGreatDoor
namespace Go.Proofs.YtgnakhljdjekbaaGreatDoor
open Go.Proofs.YtgnakhljdjekbaaGreatDoor.Am
set_option maxRecDepth 100000
namespace En
/-! ### Facts, and their order -/
/-! ### The order of strings -/
abbrev cmpS (a b : ByteArray) : Int := Go.Lib.compareBytes a.data.toList b.data.toList
set_option maxHeartbeats 1000000 in
set_option maxRecDepth 100000 in
theorem CompareString_c (a b : ByteArray) (w : World) : Calls Tryz.prog 83 #[.string a, .string b] w fun e w' => e = .returned (.int .i64 (cmpS a b)) ∧ w' = w := by
  go_enter Tryz.func83, Tryz.ntmps83
  go_wp2
  rw [run_callFunc_extern Tryz.func101 (by kernel_rfl) (by kernel_rfl) (by kernel_rfl) (e := Extern.BytealgCompare.compare) (by kernel_rfl), Lib.run_compareString]
  simp only [Result.andThen]
  rw [Oper.upon_value]
  go_wp2
  go_ret
  exact ⟨rfl, rfl⟩
theorem CompareString_f (a b : ByteArray) : AFun Tryz.prog 83 0 [str a, str b] [] (int (cmpS a b)) [] := by
  intro w g xs hl hx hH _
  obtain ⟨x, y, rfl⟩ : ∃ x y, xs = #[x, y] := by
    rcases xs with ⟨l⟩
    rcases l with _ | ⟨a, _ | ⟨b, _ | ⟨d, l⟩⟩⟩
    all_goals simp at hl
    exact ⟨a, b, rfl⟩
  have h0 := (hx 0 _ x rfl rfl).sc_inv
  have h1 := (hx 1 _ y rfl rfl).sc_inv
  subst h0 h1
  refine (CompareString_c a b w).mono ?_
  rintro e w' ⟨rfl, rfl⟩
  exact ⟨_, g, rfl, AdvP.refl .., .sc _ rfl, hH⟩
theorem CompareT_f (a b : ByteArray) : AFun Tryz.prog 62 0 [str a, str b] [] (int (cmpS a b)) [] := by
  refine AFun.of_W T_ok mixed Tryz.func62 rfl (Nat.le_of_ble_eq_true rfl) rfl ?_
  have h := CompareString_f a b
  ((repeat ((conv => whnf); (first | (refine As.pre ?_; first | refine As.mk rfl ?_) | (refine Ck.pre ?_; first | refine Ck.mk rfl ?_) | (refine CallN.pre ?_; first | refine CallN.pure h rfl rfl ?_)))); (try (conv => whnf)))
  exact ⟨.inl rfl, ⟨_, rfl, rfl⟩, trivial⟩
def cmpLs : List Int → List Int → Int
  | [], [] => 0
  | [], _ :: _ => -1
  | _ :: _, [] => 1
  | x :: xs, y :: ys => if cmpI x y = 0 then cmpLs xs ys else cmpI x y
theorem cmpI_lt {a b : Int} (h : a < b) : cmpI a b = -1 := if_pos h
theorem cmpI_gt {a b : Int} (h : b < a) : cmpI a b = 1 := (if_neg (by omega)).trans (if_pos h)
theorem cmpI_eq {a b : Int} (h : a = b) : cmpI a b = 0 := (if_neg (by omega)).trans (if_neg (by omega))
/-- Three-way orders. -/
structure P3 {α : Type} (c : α → α → Int) : Prop where
  neg : ∀ a b, c b a = -c a b
  tr : ∀ a b d, c a b ≤ 0 → c b d ≤ 0 → c a d ≤ 0 ∧ (c a d = 0 ↔ c a b = 0 ∧ c b d = 0)
theorem P3.pull {α β : Type} {c : α → α → Int} (h : P3 c) (f : β → α) : P3 fun a b => c (f a) (f b) := ⟨fun a b => h.neg _ _, fun a b d => h.tr _ _ _⟩
theorem P3.nil {α : Type} : P3 fun _ _ : α => firstNZ [] := ⟨fun _ _ => rfl, fun _ _ _ _ _ => ⟨Int.le_refl _, ⟨fun _ => ⟨rfl, rfl⟩, fun _ => rfl⟩⟩⟩
theorem firstNZ_cons (x : Int) (l : List Int) : firstNZ (x :: l) = if x = 0 then firstNZ l else x := rfl
theorem P3.cons {α : Type} {c : α → α → Int} {L : α → α → List Int} (h : P3 c) (k : P3 fun a b => firstNZ (L a b)) : P3 fun a b => firstNZ (c a b :: L a b) := by
  constructor
  · intro a b
    have h1 := h.neg a b
    have h2 : firstNZ (L b a) = -firstNZ (L a b) := k.neg a b
    simp only [firstNZ_cons]
    split <;> split <;> omega
  · intro a b d
    have h1 := h.tr a b d
    have h2 : firstNZ (L a b) ≤ 0 → firstNZ (L b d) ≤ 0 → firstNZ (L a d) ≤ 0 ∧ (firstNZ (L a d) = 0 ↔ firstNZ (L a b) = 0 ∧ firstNZ (L b d) = 0) := k.tr a b d
    simp only [firstNZ_cons]
    generalize firstNZ (L a b) = p at h2 ⊢
    generalize firstNZ (L b d) = q at h2 ⊢
    generalize firstNZ (L a d) = r at h2 ⊢
    generalize c a b = x at h1 ⊢
    generalize c b d = y at h1 ⊢
    generalize c a d = z at h1 ⊢
    intro h3 h4
    have hx : x ≤ 0 := by split at h3 <;> omega
    have hy : y ≤ 0 := by split at h4 <;> omega
    obtain ⟨hz, he⟩ := h1 hx hy
    by_cases hx0 : x = 0 <;> by_cases hy0 : y = 0
    · have hz0 : z = 0 := he.2 ⟨hx0, hy0⟩
      rw [if_pos hx0] at h3 ⊢
      rw [if_pos hy0] at h4 ⊢
      rw [if_pos hz0]
      exact h2 h3 h4
    all_goals
      have hz0 : z ≠ 0 := fun e => by have := he.1 e; omega
      rw [if_neg hz0]
      refine ⟨hz, fun e => absurd e hz0, fun ⟨e1, e2⟩ => ?_⟩
      split at e1 <;> split at e2 <;> omega
theorem cmpI_0 (a b : Int) : cmpI a b = 0 ↔ a = b := by unfold cmpI; split <;> (try split) <;> omega
theorem cmpI_neg' (a b : Int) : cmpI a b < 0 ↔ a < b := by unfold cmpI; split <;> (try split) <;> omega
theorem P3.cmpI : P3 cmpI := by
  constructor
  · intro a b; unfold En.cmpI; split <;> split <;> (try split) <;> omega
  · intro a b d h1 h2
    have a1 := cmpI_0 a b
    have a2 := cmpI_neg' a b
    have b1 := cmpI_0 b d
    have b2 := cmpI_neg' b d
    have c1 := cmpI_0 a d
    have c2 := cmpI_neg' a d
    omega
theorem cmpLs_cons (x y : Int) (xs ys : List Int) : cmpLs (x :: xs) (y :: ys) = firstNZ [cmpI x y, cmpLs xs ys] := by
  show (if cmpI x y = 0 then cmpLs xs ys else cmpI x y) = if cmpI x y = 0 then (if cmpLs xs ys = 0 then 0 else cmpLs xs ys) else cmpI x y
  split
  · split
    · assumption
    · rfl
  · rfl
theorem cmpLs_neg : ∀ xs ys : List Int, cmpLs ys xs = -cmpLs xs ys
  | [], [] => rfl
  | [], _ :: _ => rfl
  | _ :: _, [] => rfl
  | x :: xs, y :: ys => by
    rw [cmpLs_cons, cmpLs_cons]
    have h1 := P3.cmpI.neg x y
    have h2 := cmpLs_neg xs ys
    simp only [firstNZ]
    repeat' split
    all_goals omega
theorem cmpLs_tr : ∀ xs ys zs : List Int, cmpLs xs ys ≤ 0 → cmpLs ys zs ≤ 0 → cmpLs xs zs ≤ 0 ∧ (cmpLs xs zs = 0 ↔ cmpLs xs ys = 0 ∧ cmpLs ys zs = 0)
  | [], [], [], _, _ => by simp [cmpLs]
  | [], [], _ :: _, _, _ => by simp [cmpLs]
  | [], _ :: _, [], _, h => by simp [cmpLs] at h
  | [], _ :: _, _ :: _, _, _ => by simp [cmpLs]
  | _ :: _, [], _, h, _ => by simp [cmpLs] at h
  | _ :: _, _ :: _, [], _, h => by simp [cmpLs] at h
  | x :: xs, y :: ys, z :: zs, h1, h2 => by
    have k1 := P3.cmpI.tr x y z
    have k2 := cmpLs_tr xs ys zs
    unfold cmpLs at h1 h2 ⊢
    generalize cmpLs xs ys = p at *
    generalize cmpLs ys zs = q at *
    generalize cmpLs xs zs = r at *
    generalize En.cmpI x y = u at *
    generalize En.cmpI y z = v at *
    generalize En.cmpI x z = t at *
    have hu : u ≤ 0 := by split at h1 <;> omega
    have hv : v ≤ 0 := by split at h2 <;> omega
    obtain ⟨ht, he⟩ := k1 hu hv
    by_cases u0 : u = 0 <;> by_cases v0 : v = 0
    · have t0 : t = 0 := he.2 ⟨u0, v0⟩
      rw [if_pos u0] at h1 ⊢
      rw [if_pos v0] at h2 ⊢
      rw [if_pos t0]
      exact k2 h1 h2
    all_goals
      have t0 : t ≠ 0 := fun e => by have := he.1 e; omega
      rw [if_neg t0]
      refine ⟨ht, fun e => absurd e t0, fun ⟨e1, e2⟩ => ?_⟩
      split at e1 <;> split at e2 <;> omega
theorem P3.cmpLs : P3 cmpLs := ⟨cmpLs_neg, cmpLs_tr⟩
def bts (s : ByteArray) : List Int := s.data.toList.map fun b => (b.toNat : Int)
theorem bytes_cmp : ∀ a b : List UInt8, Go.Lib.compareBytes a b = En.cmpLs (a.map fun b => (b.toNat : Int)) (b.map fun b => (b.toNat : Int))
  | [], [] => rfl
  | [], _ :: _ => rfl
  | _ :: _, [] => rfl
  | x :: xs, y :: ys => by
    have h := bytes_cmp xs ys
    show (if x < y then -1 else if y < x then 1 else Go.Lib.compareBytes xs ys) = (if En.cmpI x.toNat y.toNat = 0 then En.cmpLs (xs.map fun b => (b.toNat : Int)) (ys.map fun b => (b.toNat : Int)) else En.cmpI x.toNat y.toNat)
    by_cases h1 : x.toNat < y.toNat
    · rw [if_pos (UInt8.lt_iff_toNat_lt.2 h1), cmpI_lt (by omega)]; rfl
    · by_cases h2 : y.toNat < x.toNat
      · rw [if_neg (fun n => h1 (UInt8.lt_iff_toNat_lt.1 n)), if_pos (UInt8.lt_iff_toNat_lt.2 h2), cmpI_gt (by omega)]; rfl
      · rw [if_neg (fun n => h1 (UInt8.lt_iff_toNat_lt.1 n)), if_neg (fun n => h2 (UInt8.lt_iff_toNat_lt.1 n)), cmpI_eq (by omega), h]; rfl
theorem P3.cmpS : P3 En.cmpS := by
  have : En.cmpS = fun a b => En.cmpLs (bts a) (bts b) := by funext a b; exact bytes_cmp _ _
  rw [this]
  exact P3.cmpLs.pull bts
theorem cmpLs_0 : ∀ a b : List Int, En.cmpLs a b = 0 ↔ a = b
  | [], [] => by simp [En.cmpLs]
  | [], _ :: _ => by simp [En.cmpLs]
  | _ :: _, [] => by simp [En.cmpLs]
  | x :: xs, y :: ys => by
    have h1 := cmpI_0 x y
    have h2 := cmpLs_0 xs ys
    rw [List.cons.injEq, ← h1, ← h2, cmpLs_cons]
    simp only [firstNZ]
    repeat' split
    all_goals omega
theorem bts_inj {a b : ByteArray} : bts a = bts b ↔ a = b := by
  refine ⟨fun h => ?_, fun h => by rw [h]⟩
  have : a.data.toList = b.data.toList := (List.map_inj_right fun x y h => by
    have : x.toNat = y.toNat := by omega
    exact UInt8.toNat_inj.1 this).1 h
  exact ByteArray.ext (Array.ext' this)
theorem cmpS_0 (a b : ByteArray) : En.cmpS a b = 0 ↔ a = b := by
  rw [show En.cmpS a b = En.cmpLs (bts a) (bts b) from bytes_cmp _ _, cmpLs_0, bts_inj]
structure Fa where
  kind : Int
  student : Int
  id : Int
  term : Int
  n : Int
  school : Int
  code : ByteArray
  deriving DecidableEq
abbrev fa (f : Fa) : AV := .agg [int f.kind, int f.student, int f.id, int f.term, int f.n, int f.school, str f.code]
abbrev fa0 : Fa := ⟨0, 0, 0, 0, 0, 0, ⟨#[]⟩⟩
abbrev fty : TypeId := 31
def cmpsF (a b : Fa) : List Int := [cmpI a.kind b.kind, cmpI a.student b.student, cmpI a.id b.id, cmpI a.term b.term, cmpI a.n b.n, cmpI a.school b.school, cmpS a.code b.code]
def cmpF (a b : Fa) : Int := firstNZ (cmpsF a b)
def ltF (a b : Fa) : Bool := decide (cmpF a b < 0)
theorem P3.cmpF : P3 cmpF := (P3.cmpI.pull Fa.kind).cons ((P3.cmpI.pull Fa.student).cons ((P3.cmpI.pull Fa.id).cons ((P3.cmpI.pull Fa.term).cons ((P3.cmpI.pull Fa.n).cons ((P3.cmpI.pull Fa.school).cons ((P3.cmpS.pull Fa.code).cons P3.nil))))))
theorem cmpF_0 (a b : Fa) : cmpF a b = 0 ↔ a = b := by
  have e : a = b ↔ a.kind = b.kind ∧ a.student = b.student ∧ a.id = b.id ∧ a.term = b.term ∧ a.n = b.n ∧ a.school = b.school ∧ a.code = b.code := by
    cases a; cases b; simp
  rw [e, ← cmpI_0 a.kind, ← cmpI_0 a.student, ← cmpI_0 a.id, ← cmpI_0 a.term, ← cmpI_0 a.n, ← cmpI_0 a.school, ← cmpS_0]
  unfold cmpF cmpsF
  simp only [firstNZ]
  repeat' split
  all_goals omega
theorem ord_F : Ord ltF := by
  constructor
  · intro a b h
    have := P3.cmpF.neg a b
    simp only [ltF, decide_eq_true_eq, decide_eq_false_iff_not] at *
    omega
  · intro a b c h k
    simp only [ltF, decide_eq_false_iff_not] at *
    have h1 := P3.cmpF.neg a b
    have h2 := P3.cmpF.neg b c
    have h3 := P3.cmpF.neg a c
    have := (P3.cmpF.tr c b a (by omega) (by omega)).1
    omega
theorem ltF_irr (a : Fa) : ltF a a = false := decide_eq_false (by rw [(cmpF_0 a a).2 rfl]; decide)
theorem ltF_tri {a b : Fa} (h1 : ltF a b = false) (h2 : ltF b a = false) : a = b := by
  simp only [ltF, decide_eq_false_iff_not] at *
  have := P3.cmpF.neg a b
  exact (cmpF_0 a b).1 (by omega)
/-- Lists in order without repetition are told by their elements. -/
abbrev upF (l : List Fa) : Prop := l.Pairwise fun a b => ltF a b = true
theorem upF_lt {x : Fa} {l : List Fa} (h : upF (x :: l)) : x ∉ l := fun hx => by
  have := (List.pairwise_cons.1 h).1 x hx
  rw [ltF_irr] at this; cases this
theorem upF_ext : ∀ {l m : List Fa}, upF l → upF m → (∀ x, x ∈ l ↔ x ∈ m) → l = m
  | [], [], _, _, _ => rfl
  | [], y :: m, _, _, h => absurd ((h y).2 (List.mem_cons_self ..)) List.not_mem_nil
  | x :: l, [], _, _, h => absurd ((h x).1 (List.mem_cons_self ..)) List.not_mem_nil
  | x :: l, y :: m, hl, hm, h => by
    have h1 := (List.pairwise_cons.1 hl)
    have h2 := (List.pairwise_cons.1 hm)
    have e : x = y := by
      rcases List.mem_cons.1 ((h x).1 (List.mem_cons_self ..)) with e | e
      · exact e
      · rcases List.mem_cons.1 ((h y).2 (List.mem_cons_self ..)) with e' | e'
        · exact e'.symm
        · have a := h2.1 x e
          have b := h1.1 y e'
          rw [ord_F.asym _ _ a] at b; cases b
    subst e
    rw [upF_ext h1.2 h2.2 fun z => ?_]
    constructor
    · intro hz
      rcases List.mem_cons.1 ((h z).1 (List.mem_cons_of_mem _ hz)) with e | e
      · subst e; exact absurd hz (upF_lt hl)
      · exact e
    · intro hz
      rcases List.mem_cons.1 ((h z).2 (List.mem_cons_of_mem _ hz)) with e | e
      · subst e; exact absurd hz (upF_lt hm)
      · exact e
theorem sorted_up {l : List Fa} (h : Sorted ltF l) (hn : l.Nodup) : upF l := by
  have := List.Pairwise.and h hn
  refine this.imp fun {a b} ⟨h1, h2⟩ => ?_
  cases h3 : ltF a b with
  | true => rfl
  | false => exact absurd (ltF_tri h3 h1) h2
theorem S_up {l : List Fa} (h : l.Nodup) : upF (sortS ltF l) := sorted_up (S_sorted ord_F l) ((S_perm ltF l).nodup_iff.2 h)
theorem S_mem {l : List Fa} {x : Fa} : x ∈ sortS ltF l ↔ x ∈ l := (S_perm ltF l).mem_iff
/-- Sorting lists of the same different facts gives the same. -/
theorem S_same {l m : List Fa} (hl : l.Nodup) (hm : m.Nodup) (h : ∀ x, x ∈ l ↔ x ∈ m) : sortS ltF l = sortS ltF m :=
  upF_ext (S_up hl) (S_up hm) fun x => by rw [S_mem, S_mem, h]
theorem pure_fa : ∀ l : List Fa, AV.namesL (fun _ => false) (l.map fa) = true
  | [] => rfl
  | p :: l => by simp only [List.map_cons, AV.namesL, pure_fa l]; rfl
theorem solid_fa : ∀ l : List Fa, AV.solidL (l.map fa) = true
  | [] => rfl
  | p :: l => by simp only [List.map_cons, AV.solidL, solid_fa l]; rfl
theorem getD_memF {l : List Fa} {k : Nat} (h : k < l.length) : l.getD k fa0 ∈ l := by
  rw [List.getD_eq_getElem?_getD, List.getElem?_eq_getElem h]; exact List.getElem_mem _
end En
end Go.Proofs.YtgnakhljdjekbaaGreatDoor
namespace Go.Proofs.YtgnakhljdjekbaaGreatDoor
open Go.Proofs.YtgnakhljdjekbaaGreatDoor.Am
set_option maxRecDepth 100000
namespace En
theorem compareF_f (a b : Fa) : AFun Tryz.prog 36 0 [fa a, fa b] [] (int (cmpF a b)) [] := by
  refine AFun.of_W T_ok mixed Tryz.func36 rfl (Nat.le_of_ble_eq_true rfl) rfl ?_
  have hO : ∀ fl, AFun Tryz.prog 60 0 [.ro fl 1 [int (cmpI a.kind b.kind), int (cmpI a.student b.student), int (cmpI a.id b.id), int (cmpI a.term b.term), int (cmpI a.n b.n), int (cmpI a.school b.school), int (cmpS a.code b.code)]] [] (int (cmpF a b)) [] := fun fl => Or_f (cmpsF a b) fl (by simp [cmpsF])
  ((repeat ((conv => whnf); (first | (refine LetN.pre ?_; first | ((conv => arg 1; whnf); refine LetN.mk ?_)) | (refine As.pre ?_; first | refine As.mk rfl ?_) | (refine LetV.pre ?_; first | refine LetV.mk (.sc (.int _ _)) rfl ?_ | refine LetV.mk (.sc _) rfl ?_) | (refine Ck.pre ?_; first | refine Ck.drawn (by kernel_rfl) ?_ | refine Ck.mk rfl ?_) | (refine CallN.pre ?_; first | refine CallN.pure (Compare_f _ _) rfl rfl ?_ | refine CallN.pure (CompareT_f _ _) rfl rfl ?_ | refine CallN.pure (hO _) rfl rfl ?_)))); (try (conv => whnf)))
  exact ⟨.inl rfl, ⟨_, rfl, rfl⟩, trivial⟩
theorem Less_f (a b : Fa) : AFun Tryz.prog 16 0 [fa a, fa b] [] (bool (ltF a b)) [] := by
  refine AFun.of_W T_ok mixed Tryz.func16 rfl (Nat.le_of_ble_eq_true rfl) rfl ?_
  have h := compareF_f a b
  unfold ltF
  ((repeat ((conv => whnf); (first | (refine LetN.pre ?_; first | ((conv => arg 1; whnf); refine LetN.mk ?_)) | (refine As.pre ?_; first | refine As.mk rfl ?_) | (refine LetV.pre ?_; first | refine LetV.mk (.agg _) rfl ?_) | (refine LetB.pre ?_; first | refine LetB.mk _ rfl ?_) | (refine Ck.pre ?_; first | refine Ck.mk rfl ?_) | (refine CallN.pre ?_; first | refine CallN.pure h rfl rfl ?_)))); (try (conv => whnf)))
  exact ⟨.inl rfl, ⟨_, rfl, rfl⟩, trivial⟩
/-- The entry at j sinks to its place. -/
def sinkF : List Fa → Nat → List Fa
  | l, 0 => l
  | l, j + 1 => if cmpF (l.getD (j + 1) fa0) (l.getD j fa0) < 0 then sinkF ((l.set (j + 1) (l.getD j fa0)).set j (l.getD (j + 1) fa0)) j else l
theorem Fsink_length : ∀ (j : Nat) (l : List Fa), (sinkF l j).length = l.length
  | 0, l => rfl
  | j + 1, l => by
    unfold sinkF
    split
    · rw [Fsink_length j]; simp
    · rfl
def isrF : Nat → Nat → List Fa → List Fa
  | 0, _, l => l
  | f + 1, i, l => isrF f (i + 1) (sinkF l i)
/-- What the library's sorting by insertion gives. -/
def srtF (l : List Fa) : List Fa := isrF (l.length - 1) 1 l
theorem getD_fa {l : List Fa} {k : Nat} (h : k < l.length) : fa (l.getD k fa0) = Am.part true 7 0 7 ((l.map fa).getD (0 + k) (.sc undef)) := by
  rw [Nat.zero_add, List.getD_eq_getElem?_getD, List.getD_eq_getElem?_getD, List.getElem?_map, List.getElem?_eq_getElem h]; rfl
abbrev insOF (n : Nat) (fl : Fl) : Nat × List Fa → AS
  | (i, l) => ⟨[(0, .slm fl 0 7 0 n), (1, int 0), (2, int n), (3, .clo 36 []), (8, int i)], [(0, .row 7 31 (l.map fa))], 1⟩
abbrev insIF (n : Nat) (fl : Fl) (i : Nat) : Nat × List Fa → AS
  | (j, l) => ⟨[(0, .slm fl 0 7 0 n), (1, int 0), (2, int n), (3, .clo 36 []), (8, int i), (9, int j)], [(0, .row 7 31 (l.map fa))], 1⟩
set_option maxRecDepth 100000 in
theorem Finsertion_f (l : List Fa) (fl : Fl) (hl : l.length ≤ 1000) : AFun Tryz.prog 118 1 [.slm fl 0 7 0 l.length, int 0, int l.length, .clo 36 []] [(0, .row 7 31 (l.map fa))] (.tup []) [(0, .row 7 31 ((srtF l).map fa))] := by
  obtain ⟨n, hn⟩ : ∃ n, n = l.length := ⟨_, rfl⟩
  have hs : srtF l = isrF (n - 1) 1 l := by rw [hn]; rfl
  generalize hR : srtF l = R at hs
  rw [← hn]
  refine AFun.of_S T_ok mixed Tryz.func118 rfl (Nat.le_of_ble_eq_true rfl) rfl ?_
  ((repeat ((conv => whnf); (first | (refine As.pre ?_; first | refine As.mk rfl ?_) | (refine LetI.pre ?_; first | refine LetI.wrap (by omega) (by omega) ?_) | (refine Ck.pre ?_; first | refine Ck.mk rfl ?_)))); (try (conv => whnf)))
  refine LoopN.weak (s1 := insOF n fl (1, l)) ?sw1 ?_
  case sw1 => exact SW.mk id rfl rfl (namesAll.row (pure_fa _) rfl) ⟨.refl _, .refl _, .refl _, .refl _, VLe2.int rfl, trivial⟩ (haveV.row (pure_fa _) rfl trivial)
  refine LoopN.ind T_ok mixed (S := insOF n fl) (fun i => n - i.1) (fun i => 1 ≤ i.1 ∧ i.2.length = n ∧ R = isrF (n - i.1) i.1 i.2) (fun _ => rfl) (fun i hi ih => ?_) (1, l) ⟨Nat.le_refl _, hn.symm, hs⟩
  obtain ⟨i, m⟩ := i
  obtain ⟨h0, h1, h2⟩ := hi
  simp only at h0 h1 h2 ih
  by_cases hlt : i < n
  case neg =>
    rw [show n - i = 0 by omega, isrF] at h2
    subst h2
    clear ih
    ((repeat ((conv => whnf); (first | (refine As.pre ?_; first | refine As.mk rfl ?_) | (refine LetB.pre ?_; first | refine LetB.decf (by omega) ?_) | (refine Br.pre ?_; first | refine Br.ff rfl ?_) | (refine Ck.pre ?_; first | refine Ck.mk rfl ?_)))); (try (conv => whnf)))
    exact ⟨⟨[], [(0, .row 7 31 (R.map fa))], 1⟩, SW.mk id rfl rfl (namesAll.row (pure_fa _) rfl) trivial (haveV.row (pure_fa _) rfl trivial), .inr rfl, ⟨_, rfl, rfl⟩, rfl, trivial⟩
  case pos =>
    rw [show n - i = (n - (i + 1)) + 1 by omega, isrF] at h2
    have hsl := Fsink_length i m
    generalize hQ : sinkF m i = Q at h2 hsl
    ((repeat ((conv => whnf); (first | (refine As.pre ?_; first | refine As.mk rfl ?_) | (refine LetB.pre ?_; first | refine LetB.dect (by omega) ?_) | (refine Br.pre ?_; first | refine Br.tt rfl ?_) | (refine Ck.pre ?_; first | refine Ck.mk rfl ?_)))); (try (conv => whnf)))
    refine LoopN.weak (s1 := insIF n fl i (i, m)) ?sw2 ?_
    case sw2 => exact SW.mk id rfl rfl (namesAll.row (pure_fa _) rfl) ⟨.refl _, .refl _, .refl _, .refl _, .refl _, .refl _, trivial⟩ (haveV.row (pure_fa _) rfl trivial)
    refine LoopN.ind T_ok mixed (S := insIF n fl i) (fun j => j.1) (fun j => j.1 ≤ i ∧ j.2.length = n ∧ Q = sinkF j.2 j.1) (fun _ => rfl) (fun j hj ih2 => ?_) (i, m) ⟨Nat.le_refl _, h1, hQ.symm⟩
    obtain ⟨j, m'⟩ := j
    obtain ⟨g0, g1, g2⟩ := hj
    simp only at g0 g1 g2 ih2
    cases j with
    | zero =>
      rw [sinkF] at g2
      subst g2
      clear ih2
      ((repeat ((conv => whnf); (first | (refine As.pre ?_; first | refine As.mk rfl ?_) | (refine LetI.pre ?_; first | refine LetI.wrap (by omega) (by omega) ?_) | (refine LetB.pre ?_; first | refine LetB.ff rfl ?_) | (refine Gd.pre ?_; first | refine Gd.pass rfl ?_) | (refine Br.pre ?_; first | refine Br.ff rfl ?_) | (refine Ck.pre ?_; first | refine Ck.drawn (by kernel_rfl) ?_ | refine Ck.mk rfl ?_)))); (try (conv => whnf)))
      refine LoopN.weak ?sw3 (ih (i + 1, Q) ⟨by omega, by omega, h2⟩ (by omega))
      case sw3 => exact SW.mk id rfl rfl (namesAll.row (pure_fa _) rfl) ⟨.refl _, .refl _, .refl _, .refl _, VLe2.int (by omega), trivial⟩ (haveV.row (pure_fa _) rfl trivial)
    | succ j =>
      rw [sinkF] at g2
      have hm : (m'.map fa).length = n := by rw [List.length_map]; exact g1
      have hld1 : fa (m'.getD (j + 1) fa0) = Am.part true 7 0 7 ((m'.map fa).getD (0 + (j + 1)) (.sc undef)) := getD_fa (by omega)
      have hld2 : fa (m'.getD j fa0) = Am.part true 7 0 7 ((m'.map fa).getD (0 + j) (.sc undef)) := getD_fa (by omega)
      have hsub : (j : Int) = IntKind.i64.wrap (((j + 1 : Nat) : Int) - 1) := by
        rw [wrap_id (by omega) (by omega)]; omega
      have hset1 : (m'.set (j + 1) (m'.getD j fa0)).map fa = (m'.map fa).set (0 + (j + 1)) (fa (m'.getD j fa0)) := by rw [Nat.zero_add]; exact List.map_set
      have hset : ((m'.set (j + 1) (m'.getD j fa0)).set j (m'.getD (j + 1) fa0)).map fa = ((m'.set (j + 1) (m'.getD j fa0)).map fa).set (0 + j) (fa (m'.getD (j + 1) fa0)) := by rw [Nat.zero_add]; exact List.map_set
      have hcmp := compareF_f (m'.getD (j + 1) fa0) (m'.getD j fa0)
      generalize ha : m'.getD (j + 1) fa0 = a at hld1 hset hset1 hcmp g2
      generalize hb : m'.getD j fa0 = b at hld2 hset hset1 hcmp g2
      generalize cmpF a b = r at hcmp g2
      by_cases hr : r < 0
      · rw [if_pos hr] at g2
        ((repeat ((conv => whnf); (first | (refine LetN.pre ?_; first | ((conv => arg 1; whnf); refine LetN.mk ?_)) | (refine As.pre ?_; first | refine As.mk rfl ?_ | (refine As.mk ?_ ?_; · ((repeat' (refine andT ?_ ?_)) <;> (first | rfl | assumption | exact decide_eq_true (by omega) | exact decide_eq_true (by dsimp only; omega) | exact decide_eq_true (by simp; omega) | (simp; done))))) | (refine LetV.pre ?_; first | refine LetV.mk (t := 31) _ hld1 ?_ | refine LetV.mk (t := 31) _ hld2 ?_) | (refine LetI.pre ?_; first | refine LetI.mk (o := some .sub) (j : Int) hsub ?_) | (refine LetB.pre ?_; first | refine LetB.dect (by omega) ?_) | (refine Gd.pre ?_; first | refine Gd.run rfl ?_) | (refine Br.pre ?_; first | refine Br.tt rfl ?_) | (refine Ck.pre ?_; first | refine Ck.drawn (by kernel_rfl) ?_ | refine Ck.mk rfl ?_) | (refine LetL.pre ?_; first | refine LetL.mk (ty := 31) _ hset1 ?_ | refine LetL.mk (ty := 31) _ hset ?_) | (refine CallN.pre ?_; first | refine CallN.pure hcmp rfl rfl ?_)))); (try (conv => whnf)))






        refine LoopN.weak ?sw4 (ih2 (j, (m'.set (j + 1) b).set j a) ⟨by omega, by simp [g1], g2⟩ (by omega))
        case sw4 => exact SW.mk id rfl rfl (namesAll.row (pure_fa _) rfl) ⟨.refl _, .refl _, .refl _, .refl _, .refl _, .refl _, trivial⟩ (haveV.row (pure_fa _) rfl trivial)
      · rw [if_neg hr] at g2
        subst g2
        clear ih2
        ((repeat ((conv => whnf); (first | (refine As.pre ?_; first | refine As.mk rfl ?_ | (refine As.mk ?_ ?_; · ((repeat' (refine andT ?_ ?_)) <;> (first | rfl | assumption | exact decide_eq_true (by omega) | exact decide_eq_true (by dsimp only; omega) | exact decide_eq_true (by simp; omega) | (simp; done))))) | (refine LetV.pre ?_; first | refine LetV.mk (t := 31) _ hld1 ?_ | refine LetV.mk (t := 31) _ hld2 ?_) | (refine LetI.pre ?_; first | refine LetI.mk (o := some .sub) (j : Int) hsub ?_ | refine LetI.wrap (by omega) (by omega) ?_) | (refine LetB.pre ?_; first | refine LetB.dect (by omega) ?_ | refine LetB.decf (by omega) ?_) | (refine Gd.pre ?_; first | refine Gd.run rfl ?_) | (refine Br.pre ?_; first | refine Br.ff rfl ?_) | (refine Ck.pre ?_; first | refine Ck.drawn (by kernel_rfl) ?_ | refine Ck.mk rfl ?_) | (refine CallN.pre ?_; first | refine CallN.pure hcmp rfl rfl ?_)))); (try (conv => whnf)))




        refine LoopN.weak ?sw3 (ih (i + 1, Q) ⟨by omega, by omega, h2⟩ (by omega))
        case sw3 => exact SW.mk id rfl rfl (namesAll.row (pure_fa _) rfl) ⟨.refl _, .refl _, .refl _, .refl _, VLe2.int (by omega), trivial⟩ (haveV.row (pure_fa _) rfl trivial)
theorem Fsink_rev (e : Fa) : ∀ (R B : List Fa), sinkF (R.reverse ++ e :: B) R.length = ((R.dropWhile (ltF e)).reverse ++ e :: (R.takeWhile (ltF e)).reverse) ++ B
  | [], B => rfl
  | x :: R, B => by
    have hl : R.reverse.length = R.length := List.length_reverse
    rw [List.reverse_cons, List.append_assoc]
    show sinkF (R.reverse ++ x :: e :: B) (R.length + 1) = _
    have h1 : (R.reverse ++ x :: e :: B).getD (R.length + 1) fa0 = e := by
      rw [List.getD_eq_getElem?_getD, List.getElem?_append_right (by omega), hl, Nat.add_sub_cancel_left]; rfl
    have h2 : (R.reverse ++ x :: e :: B).getD R.length fa0 = x := by
      rw [List.getD_eq_getElem?_getD, List.getElem?_append_right (by omega), hl, Nat.sub_self]; rfl
    rw [sinkF, h1, h2]
    by_cases hc : cmpF e x < 0
    · rw [if_pos hc, List.set_append_right _ _ (by omega), hl, Nat.add_sub_cancel_left, List.set_append_right _ _ (by omega), hl, Nat.sub_self]
      show sinkF (R.reverse ++ e :: x :: B) R.length = _
      rw [Fsink_rev e R (x :: B), List.dropWhile_cons, List.takeWhile_cons]
      simp [ltF, hc]
    · rw [if_neg hc, List.dropWhile_cons, List.takeWhile_cons]
      simp [ltF, hc]
theorem Fsink_ins (e : Fa) (A B : List Fa) : sinkF (A ++ e :: B) A.length = insEnd (ltF e) e A ++ B := by
  have := Fsink_rev e A.reverse B
  rw [List.reverse_reverse, List.length_reverse] at this
  exact this
theorem Fisr_S : ∀ (rest A : List Fa), isrF rest.length A.length (A ++ rest) = rest.foldl (fun out e => insEnd (ltF e) e out) A
  | [], A => by rw [List.append_nil]; rfl
  | e :: rest, A => by
    rw [List.length_cons, isrF, Fsink_ins, List.foldl_cons, ← Fisr_S rest, ins_length]
theorem Fsrt_S (l : List Fa) : srtF l = sortS ltF l := by
  cases l with
  | nil => rfl
  | cons x l =>
    have := Fisr_S l [x]
    rw [srtF, sortS, List.foldl_cons]
    exact this

end En
end Go.Proofs.YtgnakhljdjekbaaGreatDoor
