/- The owned machine, part P: whether a region may draw its order, decided; code, walked. -/
import Derived.Test.YtjnmbmdplchfkaaAmO
set_option linter.all false
namespace Go.Proofs.Ytjnmbmdplchfkaa.Am
variable [Lo]
set_option linter.unusedVariables false

/-! ### The order of a region -/
def befStep (acc : List Nat) (o : Oper) : Nat := o.after.toList.foldl (fun s e => if Region.binds .any e then s ||| (2 ^ e.on ||| acc.getD e.on 0) else s) 0
def befs : List Oper → List Nat → List Nat
  | [], acc => acc
  | o :: l, acc => befs l (acc ++ [befStep acc o])
theorem befFold {acc : List Nat} {k : Nat} : ∀ (l : List Edge) (s : Nat), (l.foldl (fun s e => if Region.binds .any e then s ||| (2 ^ e.on ||| acc.getD e.on 0) else s) s).testBit k = true →
    s.testBit k = true ∨ ∃ e ∈ l, Region.binds .any e = true ∧ (k = e.on ∨ (acc.getD e.on 0).testBit k = true)
  | [], s, h => .inl h
  | e :: l, s, h => by
    simp only [List.foldl_cons] at h
    rcases befFold l _ h with h1 | ⟨e', he', h2, h3⟩
    · split at h1
      · rename_i hb
        rw [Nat.testBit_or, Nat.testBit_or, Nat.testBit_two_pow] at h1
        simp only [Bool.or_eq_true, decide_eq_true_eq] at h1
        rcases h1 with h1 | h1 | h1
        · exact .inl h1
        · exact .inr ⟨e, by simp, hb, .inl h1.symm⟩
        · exact .inr ⟨e, by simp, hb, .inr h1⟩
      · exact .inl h1
    · exact .inr ⟨e', by simp [he'], h2, h3⟩
theorem befs_sound {ops : Array Oper} : ∀ (l : List Oper) (acc : List Nat), (∀ i o, l[i]? = some o → ops[acc.length + i]? = some o) → (∀ i k, (acc.getD i 0).testBit k = true → Bef ops i k) →
    ∀ i k, ((befs l acc).getD i 0).testBit k = true → Bef ops i k
  | [], acc, _, h, i, k, hk => h i k hk
  | o :: l, acc, hl, h, i, k, hk => by
    refine befs_sound l (acc ++ [befStep acc o]) (fun i o' ho => ?_) (fun i k hk => ?_) i k hk
    · have := hl (i + 1) o' (by simpa using ho)
      simp only [List.length_append, List.length_singleton]
      rwa [show acc.length + 1 + i = acc.length + (i + 1) by omega]
    · rw [List.getD_eq_getElem?_getD, List.getElem?_append] at hk
      split at hk
      · exact h i k (by rw [List.getD_eq_getElem?_getD]; exact hk)
      · by_cases hi : i = acc.length
        · subst hi
          simp only [Nat.sub_self, List.getElem?_cons_zero, Option.getD_some] at hk
          have ho := hl 0 o rfl
          rcases befFold _ _ hk with h1 | ⟨e, he, hb, h2⟩
          · simp at h1
          · have b1 := Bef.one ho (by simpa using he) hb
            rcases h2 with rfl | h2
            · exact b1
            · exact .more b1 (h _ _ h2)
        · rename_i hlt
          rw [List.getElem?_eq_none (by simp; omega)] at hk
          simp at hk
def orddB (bs : List Nat) (j k : Nat) : Bool := (bs.getD j 0).testBit k || (bs.getD k 0).testBit j
def backB (ops : Array Oper) : Bool := (List.range ops.size).all fun j => match ops[j]? with | some o => o.after.toList.all fun e => !Region.binds .any e || decide (e.on < j) | none => true
def tmpsB (ops : Array Oper) (bs : List Nat) : Bool := (List.range ops.size).all fun k => match ops[k]? with
  | some ok => match ok.dst with
    | some t => (List.range ops.size).all fun j => j == k || match ops[j]? with | some oj => !((oj.looksAt ops).contains t || oj.dst == some t) || orddB bs j k | none => true
    | none => true
  | none => true
/-- What the operations read and turn: the names. -/
abbrev Info := List Nat × List Nat
def blksB (n : Nat) (tr : List Info) (bs : List Nat) : Bool := (List.range n).all fun k => match tr[k]? with
  | some ck => ck.2.isEmpty || (List.range n).all fun j => j == k || match tr[j]? with | some cj => !(ck.2.any fun id => cj.1.contains id || cj.2.contains id) || orddB bs j k | none => true
  | none => true
def drawOk (ops : Array Oper) (tr : List Info) : Bool :=
  let bs := befs ops.toList []
  backB ops && tmpsB ops bs && blksB ops.size tr bs
/-- tr names at least what rs does. -/
def Covers (rs : List Rec) (tr : List Info) : Prop := rs.length = tr.length ∧ ∀ (i : Nat) (c : Rec) (x : Info), rs[i]? = some c → tr[i]? = some x → (∀ id ∈ c.rd, id ∈ x.1) ∧ ∀ id ∈ c.del.map Prod.fst, id ∈ x.2
theorem indep_of {ops : Array Oper} {rs : List Rec} {tr : List Info} (h : drawOk ops tr = true) (hl : ops.toList.length = rs.length) (hc : Covers rs tr) : Indep ops rs := by
  simp only [drawOk, Bool.and_eq_true] at h
  obtain ⟨⟨h1, h2⟩, h3⟩ := h
  have snd := befs_sound (ops := ops) ops.toList [] (fun i o ho => by simpa using ho) (fun i k hk => by simp at hk)
  have ordd : ∀ {j k : Nat}, orddB (befs ops.toList []) j k = true → Ordd ops j k := by
    intro j k h
    rcases Bool.or_eq_true_iff.1 h with h | h
    · exact .inl (snd _ _ h)
    · exact .inr (snd _ _ h)
  refine ⟨fun j o e ho he hb => ?_, fun j k oj ok t hj hk hne hd ht => ?_, fun j k cj ck id hj hk hne hid hr => ?_⟩
  · have hlt := (Array.getElem?_eq_some_iff.1 ho).1
    have := List.all_eq_true.1 h1 j (List.mem_range.2 hlt)
    simp only [ho] at this
    have := List.all_eq_true.1 this e (by simpa using he)
    simpa [hb] using this
  · have hlt := (Array.getElem?_eq_some_iff.1 hk).1
    have hlt2 := (Array.getElem?_eq_some_iff.1 hj).1
    have := List.all_eq_true.1 h2 k (List.mem_range.2 hlt)
    simp only [hk, hd] at this
    have := List.all_eq_true.1 this j (List.mem_range.2 hlt2)
    simp only [hj, Bool.or_eq_true, beq_iff_eq] at this
    rcases this with h | h | h
    · exact absurd h hne
    · exfalso
      simp only [Bool.not_eq_true', Bool.or_eq_false_iff] at h
      rcases ht with ht | ht
      · have := h.1; rw [List.contains_eq_mem] at this; simp at this; exact this ht
      · have := h.2; simp at this; exact this ht
    · exact ordd h
  · have hkl := (List.getElem?_eq_some_iff.1 hk).1
    have hjl := (List.getElem?_eq_some_iff.1 hj).1
    have hs : ops.size = rs.length := by simpa using hl
    obtain ⟨hc1, hc2⟩ := hc
    have tk : tr[k]? = some tr[k] := List.getElem?_eq_getElem (by omega)
    have tj : tr[j]? = some tr[j] := List.getElem?_eq_getElem (by omega)
    have := List.all_eq_true.1 h3 k (List.mem_range.2 (by omega))
    simp only [tk, Bool.or_eq_true] at this
    have hidk := (hc2 k ck _ hk tk).2 id hid
    rcases this with h | h
    · rw [List.isEmpty_iff] at h; rw [h] at hidk; cases hidk
    · have := List.all_eq_true.1 h j (List.mem_range.2 (by omega))
      simp only [tj, Bool.or_eq_true, beq_iff_eq] at this
      rcases this with h | h | h
      · exact absurd h hne
      · exfalso
        simp only [Bool.not_eq_true', List.any_eq_false, Bool.or_eq_true, List.contains_iff_mem] at h
        refine h id hidk ?_
        rcases hr with hr | hr
        · exact .inl ((hc2 j cj _ hj tj).1 id hr)
        · exact .inr ((hc2 j cj _ hj tj).2 id hr)
      · exact ordd h

/-! ### What a walk leaves to be shown -/
/-- A test that is reckoned. -/
inductive Ck (b : Bool) (K : Prop) : Prop
  | mk (h : b = true) (k : K)
/-- A condition. -/
inductive As (b : Bool) (K : Prop) : Prop
  | mk (h : b = true) (k : K)
inductive LetI (o : Option BinOp) (m : Int) (K : Int → Prop) : Prop
  | mk (m' : Int) (h : m' = m) (k : K m')
inductive LetB (o : Option BinOp) (m : Bool) (K : Bool → Prop) : Prop
  | mk (m' : Bool) (h : m' = m) (k : K m')
theorem LetB.tt {o : Option BinOp} {m : Bool} {K : Bool → Prop} (h : m = true) (k : K true) : LetB o m K := ⟨true, h.symm, k⟩
theorem LetB.ff {o : Option BinOp} {m : Bool} {K : Bool → Prop} (h : m = false) (k : K false) : LetB o m K := ⟨false, h.symm, k⟩
inductive LetV (t : TypeId) (v : AV) (K : AV → Prop) : Prop
  | mk (v' : AV) (h : v' = v) (k : K v')
inductive Br (b : Bool) (p q : Prop) : Prop
  | tt (h : b = true) (k : p)
  | ff (h : b = false) (k : q)
/-- Behind a test: it holds; it doesn't; or both at once, where nothing is written. -/
inductive Gd (b : Bool) (p q r : Prop) : Prop
  | run (h : b = true) (k : p)
  | pass (h : b = false) (k : q)
  | both (k : r)
inductive CallN (P : Program) (f : FuncId) (vs : List AV) (H : AH) (K : Out → Prop) : Prop
  | mk (r : Out) (h : ACalls P f vs H r) (k : K r)
/-- A call of the function that a loop over a function hands over. -/
inductive YieldN (P : Program) (l : Nat) (rc : Loop) (vs : List AV) (H : AH) (K : Out → Prop) : Prop
  | mk (r : Out) (hl : vs.length = rc.params.size + 1) (h : ACallsC (CY P l rc) vs H r) (k : K r)
/-- A loop over a function. -/
inductive RfN (P : Program) (p n : Nat) (c : Code) (s : AS) (K : Exit → AS → Prop) : Prop
  | mk (e : Exit) (s' : AS) (h : ARuns P p n c s e s') (hb : (s'.H.all (fun x => decide (x.1 < s'.nx))) = true) (k : K e s')
inductive LoopN (P : Program) (p n : Nat) (c : Code) (s : AS) (K : Exit → AS → Prop) : Prop
  | mk (e : Exit) (s' : AS) (h : AIter P p n c s e s') (hb : (s'.H.all (fun x => decide (x.1 < s'.nx))) = true) (k : K e s')

/-- Where a key is found in a map. -/
inductive FindN (t : TypeId) (key : Value) (kv : List (Value × AV)) (K : Option Nat → Prop) : Prop
  | mk (r : Option Nat) (h : findOk kv key r) (k : K r)
/-- Bytes that become a string. -/
inductive BytesN (es : List AV) (K : List Int → Prop) : Prop
  | mk (ns : List Int) (h : bytesOf es = some ns) (k : K ns)
def mapN (P : Program) (T : TT) (env : Operand → AV) (H : AH) (o : Op) (K : Out → Prop) : Prop :=
  match mapReq T H env o with
  | none => False
  | some q => As (keyB P q.kt q.key && q.kv.all fun x => keyB P q.kt x.1) <| FindN q.kt q.key q.kv fun r => match q.out r with
    | some x => As x.ok (K x)
    | none => False
def convN (T : TT) (env : Operand → AV) (H : AH) (s d : TypeId) (x : Operand) (K : Out → Prop) (K' : Prop) : Prop :=
  match strReq T H s d (env x) with
  | some (ok, es, D) => As ok <| BytesN es fun ns => K { v := .sc (.string (strOf ns)), D := D }
  | none => K'
def guardOf (ops : Array Oper) (fr : Fr) (o : Oper) : Option (Option Bool) :=
  match o.guard with
  | none => some none
  | some (j, want) => match (ops[j]?).bind (·.dst) with
    | some d => match fget fr d with
      | .sc (.bool b) => some (some (bif want then b else !b))
      | .unk => none
      | .when .. => none
      | _ => some (some false)
    | none => none
/-- The values that a function has bound. -/
def forceC (l : List AV) (K : List AV → Prop) : Prop := match l with
  | [] => K []
  | .ptr i E a o :: l => forceC l fun l => K (.ptr i E a o :: l)
  | .rp e o :: l => forceC l fun l => K (.rp e o :: l)
  | .sc (.int k m) :: l => forceC l fun l => K (.sc (.int k m) :: l)
  | .sc (.bool m) :: l => forceC l fun l => K (.sc (.bool m) :: l)
  | v :: l => forceC l fun l => K (v :: l)
theorem forceC_eq : ∀ (l : List AV) (K : List AV → Prop), forceC l K = K l
  | [], K => rfl
  | v :: l, K => by
    unfold forceC
    split
    · rename_i h; cases h
    all_goals (rename_i h; injection h with h1 h2; subst h1 h2; exact forceC_eq l _)
def forceAs (l : List AV) (K : List AV → Prop) : Prop := match l with
  | [] => K []
  | .sc (.int k m) :: l => forceAs l fun l => K (.sc (.int k m) :: l)
  | .sc (.string m) :: l => forceAs l fun l => K (.sc (.string m) :: l)
  | .sc (.bool m) :: l => forceAs l fun l => K (.sc (.bool m) :: l)
  | .slm f id E o n :: l => forceAs l fun l => K (.slm f id E o n :: l)
  | .ro f E es :: l => forceAs l fun l => K (.ro f E es :: l)
  | .ptr i E a o :: l => forceAs l fun l => K (.ptr i E a o :: l)
  | .rp e o :: l => forceAs l fun l => K (.rp e o :: l)
  | .clo f cs k :: l => forceC cs fun cs => forceAs l fun l => K (.clo f cs k :: l)
  | v :: l => forceAs l fun l => K (v :: l)
theorem forceAs_eq : ∀ (l : List AV) (K : List AV → Prop), forceAs l K = K l
  | [], K => rfl
  | v :: l, K => by
    unfold forceAs
    split
    · rename_i h; cases h
    all_goals (rename_i h; injection h with h1 h2; subst h1 h2; first | exact forceAs_eq l _ | (rw [forceC_eq]; exact forceAs_eq l _))
/-- The elements of a slice that was written out. -/
def forceEs (l : List AV) (K : List AV → Prop) : Prop := match l with
  | [] => K []
  | .agg cs :: l => forceAs cs fun cs => forceEs l fun l => K (.agg cs :: l)
  | .sc (.int k m) :: l => forceEs l fun l => K (.sc (.int k m) :: l)
  | .sc (.string m) :: l => forceEs l fun l => K (.sc (.string m) :: l)
  | v :: l => forceEs l fun l => K (v :: l)
theorem forceEs_eq : ∀ (l : List AV) (K : List AV → Prop), forceEs l K = K l
  | [], K => rfl
  | v :: l, K => by
    unfold forceEs
    split
    · rename_i h; cases h
    · rename_i h; injection h with h1 h2; subst h1 h2; rw [forceAs_eq]; exact forceEs_eq l _
    all_goals (rename_i h; injection h with h1 h2; subst h1 h2; exact forceEs_eq l _)
/-- The value of an operation may be written otherwise. -/
def letOut (o : Op) (v : AV) (K : AV → Prop) : Prop :=
  match o with
  | .load t _ => LetV t v K
  | .lookup t _ _ _ => LetV t v K
  | .buildSlice .. => match v with
    | .ro f E es => forceEs es fun es => K (.ro f E es)
    | v => K v
  | .index t _ _ => LetV t v K
  | .slice t _ _ _ _ => LetV t v K
  | .indexAddr t _ _ => match v with
    | .rp e off => LetV t e fun e => K (.rp e off)
    | v => K v
  | .binOp op _ _ _ _ => match v with
    | .sc (.int k m) => LetI (some op) m fun m => K (.sc (.int k m))
    | .sc (.bool m) => LetB (some op) m fun m => K (.sc (.bool m))
    | v => K v
  | .convert .. | .unOp .. => match v with
    | .sc (.int k m) => LetI none m fun m => K (.sc (.int k m))
    | v => K v
  | .call { callee := .builtin _, args := _, argTypes := _ } => match v with
    | .sc (.int k m) => LetI none m fun m => K (.sc (.int k m))
    | v => K v
  | _ => K v
inductive LetL (ty : TypeId) (es : List AV) (K : List AV → Prop) : Prop
  | mk (es' : List AV) (h : es' = es) (k : K es')
def letδ : List (Nat × Option Blk) → (List (Nat × Option Blk) → Prop) → Prop
  | [], K => K []
  | (i, some (.row E ty es)) :: δ, K => LetL ty es fun es => letδ δ fun δ => K ((i, some (.row E ty es)) :: δ)
  | d :: δ, K => letδ δ fun δ => K (d :: δ)
theorem letδ_sound : ∀ {δ : List (Nat × Option Blk)} {K : List (Nat × Option Blk) → Prop}, letδ δ K → K δ
  | [], _, h => h
  | (i, some (.row E ty es)) :: δ, K, ⟨_, rfl, h⟩ => letδ_sound (δ := δ) (K := fun δ => K ((i, some (.row E ty es)) :: δ)) h
  | (i, some (.map ck kv)) :: δ, K, h => letδ_sound (δ := δ) (K := fun δ => K ((i, some (.map ck kv)) :: δ)) h
  | (i, none) :: δ, K, h => letδ_sound (δ := δ) (K := fun δ => K ((i, none) :: δ)) h
theorem letδ_of : ∀ {δ : List (Nat × Option Blk)} {K : List (Nat × Option Blk) → Prop}, K δ → letδ δ K
  | [], _, h => h
  | (i, some (.row E ty es)) :: δ, K, h => ⟨_, rfl, letδ_of (δ := δ) (K := fun δ => K ((i, some (.row E ty es)) :: δ)) h⟩
  | (i, some (.map ck kv)) :: δ, K, h => letδ_of (δ := δ) (K := fun δ => K ((i, some (.map ck kv)) :: δ)) h
  | (i, none) :: δ, K, h => letδ_of (δ := δ) (K := fun δ => K ((i, none) :: δ)) h
/-- What a store or an append turns may be written otherwise. -/
def letDel (o : Op) (δ : List (Nat × Option Blk)) (K : List (Nat × Option Blk) → Prop) : Prop :=
  match o with
  | .store .. => letδ δ K
  | .call _ => letδ δ K
  | _ => K δ
theorem letDel_sound {o : Op} {δ : List (Nat × Option Blk)} {K : List (Nat × Option Blk) → Prop} (h : letDel o δ K) : K δ := by
  unfold letDel at h
  split at h
  · exact letδ_sound h
  · exact letδ_sound h
  · exact h
theorem letDel_of {o : Op} {δ : List (Nat × Option Blk)} {K : List (Nat × Option Blk) → Prop} (h : K δ) : letDel o δ K := by
  unfold letDel
  split
  · exact letδ_of h
  · exact letδ_of h
  · exact h
/-- Values, frames and heaps are reckoned as the walk goes. -/
def force1 (v : AV) (K : AV → Prop) : Prop := match v with
  | .sc (.int k m) => K (.sc (.int k m))
  | .sc (.bool m) => K (.sc (.bool m))
  | .sc (.string m) => K (.sc (.string m))
  | .sc x => K (.sc x)
  | .unk => K .unk
  | .when b v => K (.when b v)
  | .ptr id E i o => K (.ptr id E i o)
  | .rp e o => K (.rp e o)
  | .slm f id E o l => K (.slm f id E o l)
  | .ro f E es => K (.ro f E es)
  | .agg cs => forceAs cs fun cs => K (.agg cs)
  | .tup cs => forceAs cs fun cs => K (.tup cs)
  | .clo f cs k => forceAs cs fun cs => match k with
    | 0 => K (.clo f cs 0)
    | k + 1 => K (.clo f cs (k + 1))
  | .mp id => K (.mp id)
  | .yl l r ks cs => forceAs cs fun cs => K (.yl l r ks cs)
  | .fr v => K (.fr v)
theorem force1_eq (v : AV) (K : AV → Prop) : force1 v K = K v := by
  unfold force1; split <;> first | rfl | exact forceAs_eq _ _ | (rw [forceAs_eq]; split <;> rfl)
def force (v : AV) (K : AV → Prop) : Prop := force1 v fun v => match v with
  | .when b v => force1 v fun v => K (.when b v)
  | v => K v
theorem force_eq (v : AV) (K : AV → Prop) : force v K = K v := by
  unfold force; rw [force1_eq]; split
  · rw [force1_eq]
  · rfl
def forceL (l : Fr) (K : Fr → Prop) : Prop := match l with
  | [] => K []
  | a :: l => K (a :: l)
theorem forceL_eq (l : Fr) (K : Fr → Prop) : forceL l K = K l := by cases l <;> rfl
def forceH : AH → (AH → Prop) → Prop
  | [], K => K []
  | (i, .row E ty es) :: l, K => forceH l fun l => K ((i, .row E ty es) :: l)
  | (i, .map ck kv) :: l, K => forceH l fun l => K ((i, .map ck kv) :: l)
theorem forceH_eq : ∀ (l : AH) (K : AH → Prop), forceH l K = K l
  | [], K => rfl
  | (i, .row E ty es) :: l, K => forceH_eq l _
  | (i, .map ck kv) :: l, K => forceH_eq l _
/-- A number that is reckoned. -/
inductive LetN (m : Nat) (K : Nat → Prop) : Prop
  | mk (k : K m)
theorem LetN.pre {m : Nat} {K : Nat → Prop} (h : LetN m K) : LetN m K := h
theorem LetN_eq (m : Nat) (K : Nat → Prop) : LetN m K = K m := propext ⟨fun ⟨h⟩ => h, fun h => ⟨h⟩⟩
/-- The next name, so that it is reckoned at once. -/
def nextN : Nat → List (Nat × Option Blk) → Nat
  | nx, [] => nx
  | nx, (i, _) :: δ => nextN (Nat.add nx (Nat.sub (Nat.add i 1) nx)) δ
theorem nextN_eq : ∀ (δ : List (Nat × Option Blk)) (nx : Nat), nextN nx δ = nextId nx δ
  | [], nx => rfl
  | (i, b) :: δ, nx => by
    have h : Nat.add nx (Nat.sub (Nat.add i 1) nx) = max nx (i + 1) := by
      show nx + (i + 1 - nx) = _
      omega
    show nextN (Nat.add nx (Nat.sub (Nat.add i 1) nx)) δ = nextId (max nx (i + 1)) δ
    rw [h]
    exact nextN_eq δ _
def forceD (δ : List (Nat × Option Blk)) (H : AH) (nx : Nat) (K : AH → Nat → Prop) : Prop := match δ with
  | [] => K H nx
  | d :: δ => forceH (H.upd (d :: δ)) fun H => LetN (nextN nx (d :: δ)) fun nx => K H nx
theorem forceD_eq (δ : List (Nat × Option Blk)) (H : AH) (nx : Nat) (K : AH → Nat → Prop) : forceD δ H nx K = K (H.upd δ) (nextId nx δ) := by
  cases δ with
  | nil => rfl
  | cons d δ => simp only [forceD, forceH_eq, LetN_eq, nextN_eq]
def newOk (H : AH) (nx : Nat) (δ : List (Nat × Option Blk)) : Bool := δ.all fun x => (H.get x.1).isSome || decide (nx ≤ x.1)
def stepN (P : Program) (T : TT) (env : Operand → AV) (H : AH) (nx : Nat) (o : Oper) (K : Out → Prop) : Prop :=
  match o.op with
  | .call { callee := .value fv, args := args, argTypes := _ } => match env fv with
    | .clo f caps k => Ck (callable P f) <| CallN P f (caps.take k ++ args.toList.map env ++ caps.drop k) H K
    | .yl l rc ks cs => YieldN P l rc (.yl l rc ks cs :: args.toList.map env) H K
    | _ => False
  | .lookup t m k ok => mapN P T env H (.lookup t m k ok) K
  | .mapUpdate t m k x => mapN P T env H (.mapUpdate t m k x) K
  | .insert t m k x => mapN P T env H (.insert t m k x) K
  | .mapEntry t m k => mapN P T env H (.mapEntry t m k) K
  | .call { callee := .builtin .delete, args := args, argTypes := tys } => mapN P T env H (.call { callee := .builtin .delete, args := args, argTypes := tys }) K
  | .convert s d x => convN T env H s d x K <| match astep T env H nx o with
    | some r => As r.ok (K r)
    | none => False
  | _ => match astep T env H nx o with
    | some r => As r.ok (K r)
    | none => False
/-- An operand under a test: what it is if the test holds, and whether that is known. -/
def under (b : Bool) (v : AV) : Bool × AV :=
  match v with
  | .when b' v => (!b || b', v)
  | v => (true, v)

def vOps (P : Program) (T : TT) (n : Nat) (ops : Array Oper) (K : List Info → Fr → AH → Nat → Prop) : List Oper → List Info → Fr → AH → Nat → Prop
  | [], tr, fr, H, nx => K tr fr H nx
  | o :: l, tr, fr, H, nx =>
    let doIt : Prop := Ck (o.op.operands.toList.all constOk) <| stepN P T (envF fr) H nx o fun r => Ck (newOk H nx r.δ) <|
      letOut o.op r.v fun v => letDel o.op r.δ fun δ => force v fun v => forceL (setDst n fr o.dst v) fun fr => forceD δ H nx fun H nx => vOps P T n ops K l (tr ++ [(r.D, δ.map Prod.fst)]) fr H nx
    match guardOf ops fr o with
    | none => False
    | some none => doIt
    | some (some b) => Gd b doIt (forceL (setDst n fr o.dst (.sc undef)) fun fr => vOps P T n ops K l (tr ++ [([], [])]) fr H nx)
        (Ck (o.op.operands.toList.all constOk) <| As (o.op.operands.toList.all fun x => (under b (envF fr x)).1) (stepU P T (fun x => (under b (envF fr x)).2) H nx o b fun r =>
          Ck r.δ.isEmpty <| force r.v fun v => forceL (setDst n fr o.dst (.when b v)) fun fr => vOps P T n ops K l (tr ++ [(r.D, [])]) fr H nx))
where
  stepU (P : Program) (T : TT) (env : Operand → AV) (H : AH) (nx : Nat) (o : Oper) (b : Bool) (K : Out → Prop) : Prop :=
    match o.op with
    | .call { callee := .value fv, args := args, argTypes := _ } => match env fv with
      | .clo f caps k => Ck (callable P f) <| CallN P f (caps.take k ++ args.toList.map env ++ caps.drop k) H K
      | _ => False
    | _ => match astep T env H nx o with
      | some r => As (r.ok || !b) (K r)
      | none => False
end Go.Proofs.Ytjnmbmdplchfkaa.Am
