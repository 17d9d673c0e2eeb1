/- publish: parts of the proof, DpublishVD DpublishVE DpublishVF DpublishVG DpublishQR DpublishVH DpublishVI. -/
import Derived.Test.YtjnmbmdplchfkaaL50
import Derived.Test.YtjnmbmdplchfkaaL51
import Derived.Test.YtjnmbmdplchfkaaAmLO
set_option linter.all false
namespace Go.Proofs.Ytjnmbmdplchfkaa
open Go.Proofs.Ytjnmbmdplchfkaa.Am
set_option maxRecDepth 100000
variable [Lo]
namespace Pb
/-! ### PublishOwns: the end of the law -/
abbrev csT : TypeId := 25
abbrev csW (c : Case) : AV := .agg [.old (.ro c.1.1 1 (c.1.2.map iA)), .old (.ro c.2.1.1 1 (c.2.1.2.map iA)), u8' c.2.2.1, u8' c.2.2.2.1, u16 c.2.2.2.2.1, u16 c.2.2.2.2.2]
abbrev pgM (p : Pg) (id : Nat) : AV := .agg [int p.school, int p.id, int p.ver, int p.from_, str p.name, int p.need.kind, int p.need.n, int p.need.min, .fr (.ro {} 2 (p.need.set.map coA)), .fr (.ro {} 5 (p.need.l.map nd)), int p.total, int p.own, int p.age, .slm {} id 4 0 p.ex.length]
abbrev pgX (p : Pg) (u v : Value) (id : Nat) : AV := .agg [int p.school, int p.id, int p.ver, int p.from_, str p.name, int p.need.kind, int p.need.n, int p.need.min, .sc u, .sc v, int p.total, int p.own, int p.age, .slm {} id 4 0 p.ex.length]
abbrev w1S (B : List Pg) (C : List Ch) (s i be day : Int) (c : Case) : AS := ⟨[(1, .ptr 0 6 0 0), (3, bool true), (4, .ro {} 14 (B.map pg)), (5, .ro {} 4 (C.map chA)), (6, .ptr 1 4 0 0)], [(0, .row 6 csT [csA c]), (1, nB s i be day)], 2⟩
abbrev w1O (B : List Pg) (C : List Ch) (s i be day : Int) (c : Case) : AS := ⟨[(1, .ptr 0 6 0 0), (3, bool true), (4, .old (.ro {} 14 (B.map pg))), (5, .old (.ro {} 4 (C.map chA))), (6, .ptr 1 4 0 0)], [(0, .row 6 csT [csW c]), (1, nB s i be day)], 2⟩
abbrev w2S (B : List Pg) (C : List Ch) (s i be day : Int) (c : Case) (p : Pg) : AS := ⟨[(1, .ptr 0 6 0 0), (3, bool true), (4, .old (.ro {} 14 (B.map pg))), (5, .old (.ro {} 4 (C.map chA))), (6, .ptr 1 4 0 0), (7, .ptr 2 14 0 0), (9, .ptr 3 14 0 0), (10, bool true)], [(0, .row 6 csT [csW c]), (1, nB s i be day), (2, .row 14 pty [pgM p 4]), (3, .row 14 pty [pgM p 5]), (4, rwX p.ex), (5, rwX p.ex)], 6⟩
abbrev w3S (B : List Pg) (C : List Ch) (s i be day : Int) (c : Case) (p : Pg) (u v u' v' : Value) : AS := ⟨[(1, .ptr 0 6 0 0), (3, bool true), (4, .ro {} 14 (B.map pg)), (5, .ro {} 4 (C.map chA)), (6, .ptr 1 4 0 0), (7, .ptr 2 14 0 0), (9, .ptr 3 14 0 0), (10, bool true)], [(0, .row 6 csT [csA c]), (1, nB s i be day), (2, .row 14 pty [pgX p u v 4]), (3, .row 14 pty [pgX p u' v' 5]), (4, rwX p.ex), (5, rwX p.ex)], 6⟩
abbrev w4S (B : List Pg) (C : List Ch) (s i be day : Int) (c : Case) : AS := ⟨[(1, .ptr 0 6 0 0), (3, bool true), (4, .ro {} 14 (B.map pg)), (5, .ro {} 4 (C.map chA)), (6, .ptr 1 4 0 0), (10, bool true)], [(0, .row 6 csT [csA c]), (1, nB s i be day)], 6⟩
theorem csA_pure (c : Case) : AV.namesL (fun _ => false) [csA c] = true := rfl
theorem csAN (c : Case) (s i be day : Int) (ok : Nat → Bool) : namesAll ok [(0, .row 6 csT [csA c]), (1, nB s i be day)] = true := namesAll.row (csA_pure c) rfl
noncomputable def body7 : Code := match Try.f7.body with | some c => c | none => .skip
def sL : Code → Code | .seq x _ => x | c => c
def sR : Code → Code | .seq _ y => y | c => c
set_option maxHeartbeats 3200000 in
set_option maxRecDepth 100000 in
theorem ownR (B : List Pg) (C : List Ch) (s i be day : Int) (c : Case) (p : Pg) (u v u' v' : Value) (hB : BK B) (hC : CK C) (hp : p ∈ B) (hbd : bindP B s i be day C = (p, 0)) (hMk : AFun Try.prog 16 0 [.ro c.1.1 1 (c.1.2.map iA)] [] (.ro {} 14 (B.map pg)) []) :
    VS Try.prog 0 Try.f7.ntmps (sR (sR (sR (sR (sR (sR (sR (sR body7)))))))) (w3S B C s i be day c p u v u' v') fun e t => e = .ret ∧ SW 0 Try.f7.ntmps t ⟨[(2, bool true)], [], 0⟩ := by
  have hl := hB.len
  have hlC := hC.len
  have hsp : ∀ q ∈ B, SP q := fun q hq => (hB.wp q hq).sp
  have hBd := Bind_f B C s i be day (by omega) (by omega) hsp
  rw [hbd] at hBd
  have hS := rSameAllB_f {} {} B (by omega) (fun q hq => (hB.wp q hq).cp)
  have hck := Check_f (hB.wp p hp).need
  have hex := (hB.wp p hp).ex
  dsimp only at hBd
  have hfin : VS Try.prog 0 Try.f7.ntmps (sR (sR (sR (sR (sR (sR (sR (sR (sR body7))))))))) (w4S B C s i be day c) fun e t => e = .ret ∧ SW 0 Try.f7.ntmps t ⟨[(2, bool true)], [], 0⟩ := by
    clear hbd hp hex
    obtain ⟨ps, pi, pv, pf, pn, ⟨k, n, m, s2, l2⟩, pt, po, pa, px⟩ := p
    dsimp only at hck
    rw [pg_mk] at hBd
    rw [nd_mk] at hck
    refine VS.cut T_ok mixed rfl ?_
    ((repeat ((conv => whnf); (first | (refine LetN.pre ?_; first | ((conv => arg 1; whnf); refine LetN.mk ?_)) | (refine As.pre ?_; first | refine As.mk rfl ?_) | (refine LetV.pre ?_; first | refine LetV.mk (.sc (.int _ _)) rfl ?_) | (refine Ck.pre ?_; first | refine Ck.mk rfl ?_) | (refine LetL.pre ?_; first | refine LetL.mk (ty := pty) [.agg [_, _, _, _, _, _, _, _, _, _, _, _, _, _]] rfl ?_) | (refine CallN.pre ?_; first | refine CallN.pure hBd rfl rfl ?_)))); (try (conv => whnf)))
    refine VS.of_V T_ok mixed rfl ?_
    ((repeat ((conv => whnf); (first | (refine As.pre ?_; first | refine As.mk rfl ?_) | (refine LetV.pre ?_; first | refine LetV.mk (.agg _) rfl ?_ | refine LetV.mk (.ro _ _ _) rfl ?_) | (refine LetB.pre ?_; first | refine LetB.tt rfl ?_) | (refine Gd.pre ?_; first | refine Gd.run rfl ?_) | (refine Ck.pre ?_; first | refine Ck.mk rfl ?_) | (refine CallN.pre ?_; first | refine CallN.pure hMk rfl rfl ?_ | refine CallN.pure hS rfl rfl ?_ | refine CallN.pure hck rfl rfl ?_)))); (try (conv => whnf)))
    exact ⟨rfl, SW.fr0 (Nat.zero_le _) rfl ⟨.refl _, trivial⟩⟩
  refine VS.joinN (fun _ : Unit => w4S B C s i be day c) (fun _ => True) ?_ fun _ _ => hfin
  clear hfin hBd hS hck hMk
  refine VS.of_V T_ok mixed rfl ?_
  ((repeat ((conv => whnf); (first | (refine LetN.pre ?_; first | ((conv => arg 1; whnf); refine LetN.mk ?_)) | (refine As.pre ?_; first | refine As.mk rfl ?_) | (refine LetV.pre ?_; first | refine LetV.mk (.slm _ _ _ _ _) rfl ?_) | (refine LetI.pre ?_; first | refine LetI.mk _ rfl ?_) | (refine Ck.pre ?_; first | refine Ck.mk rfl ?_)))); (try (conv => whnf)))
  rcases hex with hex | ⟨x, hex, -⟩
  · rw [hex]
    refine LoopN.round T_ok mixed rfl ?_
    ((repeat ((conv => whnf); (first | (refine As.pre ?_; first | refine As.mk rfl ?_) | (refine LetV.pre ?_; first | refine LetV.mk (.slm _ _ _ _ _) rfl ?_) | (refine LetI.pre ?_; first | refine LetI.mk _ rfl ?_) | (refine LetB.pre ?_; first | refine LetB.tt rfl ?_) | (refine Br.pre ?_; first | refine Br.tt rfl ?_) | (refine Ck.pre ?_; first | refine Ck.mk rfl ?_)))); (try (conv => whnf)))
    refine LoopN.round T_ok mixed rfl ?_
    ((repeat ((conv => whnf); (first | (refine As.pre ?_; first | refine As.mk rfl ?_) | (refine LetI.pre ?_; first | refine LetI.wrap (by omega) (by omega) ?_) | (refine LetB.pre ?_; first | refine LetB.ff rfl ?_) | (refine Br.pre ?_; first | refine Br.ff rfl ?_) | (refine Ck.pre ?_; first | refine Ck.mk rfl ?_)))); (try (conv => whnf)))
    refine LoopN.round T_ok mixed rfl ?_
    ((repeat ((conv => whnf); (first | (refine As.pre ?_; first | refine As.mk rfl ?_) | (refine LetV.pre ?_; first | refine LetV.mk (.slm _ _ _ _ _) rfl ?_) | (refine LetI.pre ?_; first | refine LetI.mk _ rfl ?_) | (refine LetB.pre ?_; first | refine LetB.tt rfl ?_) | (refine Br.pre ?_; first | refine Br.tt rfl ?_) | (refine Ck.pre ?_; first | refine Ck.mk rfl ?_)))); (try (conv => whnf)))
    refine LoopN.round T_ok mixed rfl ?_
    ((repeat ((conv => whnf); (first | (refine As.pre ?_; first | refine As.mk rfl ?_) | (refine LetI.pre ?_; first | refine LetI.wrap (by omega) (by omega) ?_) | (refine LetB.pre ?_; first | refine LetB.ff rfl ?_) | (refine Br.pre ?_; first | refine Br.ff rfl ?_) | (refine Ck.pre ?_; first | refine Ck.mk rfl ?_)))); (try (conv => whnf)))
    refine LoopN.round T_ok mixed rfl ?_
    ((repeat ((conv => whnf); (first | (refine As.pre ?_; first | refine As.mk rfl ?_) | (refine LetB.pre ?_; first | refine LetB.ff rfl ?_) | (refine Br.pre ?_; first | refine Br.ff rfl ?_) | (refine Ck.pre ?_; first | refine Ck.mk rfl ?_)))); (try (conv => whnf)))
    exact ⟨rfl, (), trivial, SW.mk id rfl rfl (csAN c s i be day _) ⟨.refl _, .refl _, .refl _, .refl _, .refl _, .refl _, trivial⟩ (haveV.row (csA_pure c) rfl (haveV.row rfl rfl trivial))⟩
  · rw [hex]
    refine LoopN.round T_ok mixed rfl ?_
    ((repeat ((conv => whnf); (first | (refine As.pre ?_; first | refine As.mk rfl ?_) | (refine LetV.pre ?_; first | refine LetV.mk (.slm _ _ _ _ _) rfl ?_) | (refine LetI.pre ?_; first | refine LetI.mk _ rfl ?_) | (refine LetB.pre ?_; first | refine LetB.tt rfl ?_) | (refine Br.pre ?_; first | refine Br.tt rfl ?_) | (refine Ck.pre ?_; first | refine Ck.mk rfl ?_)))); (try (conv => whnf)))
    refine LoopN.round T_ok mixed rfl ?_
    ((repeat ((conv => whnf); (first | (refine LetN.pre ?_; first | ((conv => arg 1; whnf); refine LetN.mk ?_)) | (refine As.pre ?_; first | refine As.mk rfl ?_) | (refine LetI.pre ?_; first | refine LetI.wrap (by omega) (by omega) ?_) | (refine LetB.pre ?_; first | refine LetB.tt rfl ?_) | (refine Br.pre ?_; first | refine Br.tt rfl ?_) | (refine Ck.pre ?_; first | refine Ck.mk rfl ?_) | (refine LetL.pre ?_; first | refine LetL.mk [_] rfl ?_)))); (try (conv => whnf)))
    refine LoopN.round T_ok mixed rfl ?_
    ((repeat ((conv => whnf); (first | (refine As.pre ?_; first | refine As.mk rfl ?_) | (refine LetI.pre ?_; first | refine LetI.wrap (by omega) (by omega) ?_) | (refine LetB.pre ?_; first | refine LetB.ff rfl ?_) | (refine Br.pre ?_; first | refine Br.ff rfl ?_) | (refine Ck.pre ?_; first | refine Ck.mk rfl ?_)))); (try (conv => whnf)))
    refine LoopN.round T_ok mixed rfl ?_
    ((repeat ((conv => whnf); (first | (refine As.pre ?_; first | refine As.mk rfl ?_) | (refine LetV.pre ?_; first | refine LetV.mk (.slm _ _ _ _ _) rfl ?_) | (refine LetI.pre ?_; first | refine LetI.mk _ rfl ?_) | (refine LetB.pre ?_; first | refine LetB.tt rfl ?_) | (refine Br.pre ?_; first | refine Br.tt rfl ?_) | (refine Ck.pre ?_; first | refine Ck.mk rfl ?_)))); (try (conv => whnf)))
    refine LoopN.round T_ok mixed rfl ?_
    ((repeat ((conv => whnf); (first | (refine LetN.pre ?_; first | ((conv => arg 1; whnf); refine LetN.mk ?_)) | (refine As.pre ?_; first | refine As.mk rfl ?_) | (refine LetI.pre ?_; first | refine LetI.wrap (by omega) (by omega) ?_) | (refine LetB.pre ?_; first | refine LetB.tt rfl ?_) | (refine Br.pre ?_; first | refine Br.tt rfl ?_) | (refine Ck.pre ?_; first | refine Ck.mk rfl ?_) | (refine LetL.pre ?_; first | refine LetL.mk [_] rfl ?_)))); (try (conv => whnf)))
    refine LoopN.round T_ok mixed rfl ?_
    ((repeat ((conv => whnf); (first | (refine As.pre ?_; first | refine As.mk rfl ?_) | (refine LetI.pre ?_; first | refine LetI.wrap (by omega) (by omega) ?_) | (refine LetB.pre ?_; first | refine LetB.ff rfl ?_) | (refine Br.pre ?_; first | refine Br.ff rfl ?_) | (refine Ck.pre ?_; first | refine Ck.mk rfl ?_)))); (try (conv => whnf)))
    refine LoopN.round T_ok mixed rfl ?_
    ((repeat ((conv => whnf); (first | (refine As.pre ?_; first | refine As.mk rfl ?_) | (refine LetB.pre ?_; first | refine LetB.ff rfl ?_) | (refine Br.pre ?_; first | refine Br.ff rfl ?_) | (refine Ck.pre ?_; first | refine Ck.mk rfl ?_)))); (try (conv => whnf)))
    exact ⟨rfl, (), trivial, SW.mk id rfl rfl (csAN c s i be day _) ⟨.refl _, .refl _, .refl _, .refl _, .refl _, .refl _, trivial⟩ (haveV.row (csA_pure c) rfl (haveV.row rfl rfl trivial))⟩
end Pb
end Go.Proofs.Ytjnmbmdplchfkaa
namespace Go.Proofs.Ytjnmbmdplchfkaa
open Go.Proofs.Ytjnmbmdplchfkaa.Am
set_option maxRecDepth 100000
variable [Lo]
namespace Pb
/-! ### PublishOwns: what is known behind a change, and the two spoilings -/
inductive FrTo : Fr → Fr → Prop
  | nil : FrTo [] []
  | cons {t : Nat} {c c' : AV} {fr fr' : Fr} (h : ∀ x, ToLe c c' x) (r : FrTo fr fr') : FrTo ((t, c) :: fr) ((t, c') :: fr')
theorem FrTo.get {fr fr' : Fr} (h : FrTo fr fr') (t : Nat) (x : Value) : ToLe (fget fr t) (fget fr' t) x := by
  induction h with
  | nil => exact .unk
  | cons h r ih =>
    unfold fget
    split
    · exact h x
    · exact ih
inductive HTo (w : World) (g : Gh) : AH → AH → Prop
  | nil : HTo w g [] []
  | cons {i E : Nat} {ty : TypeId} {es es' : List AV} {H H' : AH} (h : Blk.Rel w g i (.row E ty es) → Blk.Rel w g.olds i (.row E ty es')) (r : HTo w g H H') : HTo w g ((i, .row E ty es) :: H) ((i, .row E ty es') :: H')
theorem HTo.get {w : World} {g : Gh} {H H' : AH} (h : HTo w g H H') : ∀ id B', H'.get id = some B' → ∃ B, H.get id = some B ∧ (B.Rel w g id → B'.Rel w g.olds id) := by
  induction h with
  | nil => intro id B' h; cases h
  | cons h r ih =>
    intro id B' hB
    simp only [AH.get] at hB ⊢
    split at hB
    · rename_i hif
      injection hB with hB; subst hB; subst hif
      rw [if_pos rfl]
      exact ⟨_, rfl, h⟩
    · rename_i hif
      rw [if_neg hif]
      exact ih id B' hB
theorem sToX {w : World} {g : Gh} {n nx : Nat} {fr fr' : Fr} {H H' : AH} {a : Act} (hf : FrTo fr fr') (hH : HTo w g H H') (h : SRel w g n ⟨fr, H, nx⟩ a) : SRel w g.olds n ⟨fr', H', nx⟩ a := by
  refine ⟨⟨h.fr.size, fun t => (hf.get t _).cv (h.fr.at_ t)⟩, ⟨fun id B' hB => ?_, fun i j b E E' A B hi hj k1 k2 => ?_, fun i b E B hi k1 hI => ?_, fun b hb => h.H.lt b hb.1, gl_nil _ h.H.gl.2⟩, h.nx⟩
  · obtain ⟨B, h1, h2⟩ := hH.get id B' hB
    exact h2 (h.H.rel id B h1)
  · obtain ⟨_, h1, _⟩ := hH.get i A hi
    obtain ⟨_, h2, _⟩ := hH.get j B hj
    exact h.H.apart i j b E E' _ _ h1 h2 k1 k2
  · obtain ⟨_, h1, _⟩ := hH.get i B hi
    exact h.H.imm i b E _ h1 k1 hI.1
inductive CsTo : List AV → List AV → Prop
  | nil : CsTo [] []
  | cons {c c' : AV} {cs cs' : List AV} (h : ∀ x, ToLe c c' x) (r : CsTo cs cs') : CsTo (c :: cs) (c' :: cs')
theorem CsTo.get {cs cs' : List AV} (h : CsTo cs cs') : ∀ (j : Nat) (c' : AV), cs'[j]? = some c' → ∃ c, cs[j]? = some c ∧ ∀ x, ToLe c c' x := by
  induction h with
  | nil => intro j c' h; simp at h
  | cons h r ih =>
    intro j c' hj
    cases j with
    | zero => injection hj with hj; subst hj; exact ⟨_, rfl, h⟩
    | succ j => exact ih j c' hj
theorem CsTo.len {cs cs' : List AV} (h : CsTo cs cs') : cs'.length = cs.length := by
  induction h with
  | nil => rfl
  | cons h r ih => simp only [List.length_cons, ih]
theorem CsTo.plain : ∀ {cs : List AV}, (∀ c ∈ cs, c.plain = true) → CsTo cs cs
  | [], _ => .nil
  | c :: cs, h => .cons (fun _ => .plain (h c (List.mem_cons_self ..))) (CsTo.plain fun c hc => h c (List.mem_cons_of_mem _ hc))
inductive EsTo : List AV → List AV → Prop
  | nil : EsTo [] []
  | cons {e e' : AV} {es es' : List AV} (h : CsTo e.cells e'.cells) (r : EsTo es es') : EsTo (e :: es) (e' :: es')
theorem EsTo.get {es es' : List AV} (h : EsTo es es') : ∀ (i : Nat) (e e' : AV), es[i]? = some e → es'[i]? = some e' → CsTo e.cells e'.cells := by
  induction h with
  | nil => intro i e e' h; simp at h
  | cons h r ih =>
    intro i e e' h1 h2
    cases i with
    | zero => injection h1 with h1; injection h2 with h2; subst h1 h2; exact h
    | succ i => exact ih i e e' h1 h2
theorem EsTo.len {es es' : List AV} (h : EsTo es es') : es.length = es'.length := by
  induction h with
  | nil => rfl
  | cons h r ih => simp only [List.length_cons, ih]
theorem EsTo.map {α : Type} (f : α → AV) (hf : ∀ x, ∀ c ∈ (f x).cells, c.plain = true) : ∀ l : List α, EsTo (l.map f) (l.map f)
  | [] => .nil
  | x :: l => .cons (CsTo.plain (hf x)) (EsTo.map f hf l)
theorem EsTo.rel {w : World} {g : Gh} {id E : Nat} {ty : TypeId} {es es' : List AV} (h : EsTo es es') (hr : Blk.Rel w g id (.row E ty es)) : Blk.Rel w g.olds id (.row E ty es') := by
  refine hr.toX h.len (fun e' he' => ?_) fun i j e e' c' h1 h2 h3 => ?_
  · obtain ⟨i, hi⟩ := List.mem_iff_getElem?.1 he'
    have hlt : i < es.length := by rw [h.len]; exact (List.getElem?_eq_some_iff.1 hi).1
    rw [(h.get i _ e' (List.getElem?_eq_getElem hlt) hi).len]
    exact hr.1 _ (List.getElem_mem hlt)
  · obtain ⟨c, hc, ht⟩ := (h.get i e e' h1 h2).get j c' h3
    exact ⟨c, hc, fun _ _ x _ _ _ _ => ht x⟩
/-- A copied programme in its variable: what its requirement's lists are. -/
theorem pg_cells {w : World} {g : Gh} {id nm : Nat} {p : Pg} (hr : Blk.Rel w g id (.row 14 pty [pgM p nm])) : ∃ u v, Cv w g (.fr (.ro {} 2 (p.need.set.map coA))) u ∧ Cv w g (.fr (.ro {} 5 (p.need.l.map nd))) v ∧ Blk.Rel w g.olds id (.row 14 pty [pgX p u v nm]) := by
  have hr' := hr
  obtain ⟨_, ⟨_, h⟩ | ⟨b, cs, h1, h2, h3, h4⟩⟩ := hr
  · cases h
  obtain ⟨u, hu1, hu2⟩ := h4 0 8 _ _ rfl rfl
  obtain ⟨v, hv1, hv2⟩ := h4 0 9 _ _ rfl rfl
  refine ⟨u, v, hu2, hv2, hr'.toX rfl (fun e' he' => by rw [List.mem_singleton.1 he']; rfl) fun i j e e' c' k1 k2 k3 => ?_⟩
  rcases i with _ | i
  case succ => simp at k1
  injection k1 with k1; injection k2 with k2; subst k1 k2
  have uniq : ∀ {k : Nat} {y : Value} {b' : Nat} {cs' : Array Value} {x : Value}, cs[0 * 14 + k]? = some y → g.φ id = some (b', 14) → w.heap[b']? = some (.cells cs' pty (0, 0)) → cs'[0 * 14 + k]? = some x → x = y := by
    intro k y b' cs' x e1 e2 e3 e4
    rw [h1] at e2; injection e2 with e2; injection e2 with e2 _; subst e2
    rw [h2] at e3; injection e3 with e3; injection e3 with e3; subst e3
    rw [e1] at e4; injection e4 with e4; exact e4.symm
  match j, k3 with
  | 0, k3 => injection k3 with k3; subst k3; exact ⟨_, rfl, fun _ _ x _ _ _ _ => .plain rfl⟩
  | 1, k3 => injection k3 with k3; subst k3; exact ⟨_, rfl, fun _ _ x _ _ _ _ => .plain rfl⟩
  | 2, k3 => injection k3 with k3; subst k3; exact ⟨_, rfl, fun _ _ x _ _ _ _ => .plain rfl⟩
  | 3, k3 => injection k3 with k3; subst k3; exact ⟨_, rfl, fun _ _ x _ _ _ _ => .plain rfl⟩
  | 4, k3 => injection k3 with k3; subst k3; exact ⟨_, rfl, fun _ _ x _ _ _ _ => .plain rfl⟩
  | 5, k3 => injection k3 with k3; subst k3; exact ⟨_, rfl, fun _ _ x _ _ _ _ => .plain rfl⟩
  | 6, k3 => injection k3 with k3; subst k3; exact ⟨_, rfl, fun _ _ x _ _ _ _ => .plain rfl⟩
  | 7, k3 => injection k3 with k3; subst k3; exact ⟨_, rfl, fun _ _ x _ _ _ _ => .plain rfl⟩
  | 8, k3 => injection k3 with k3; subst k3; exact ⟨_, rfl, fun b' cs' x e1 e2 e3 _ => by rw [uniq hu1 e1 e2 e3]; exact .ex⟩
  | 9, k3 => injection k3 with k3; subst k3; exact ⟨_, rfl, fun b' cs' x e1 e2 e3 _ => by rw [uniq hv1 e1 e2 e3]; exact .ex⟩
  | 10, k3 => injection k3 with k3; subst k3; exact ⟨_, rfl, fun _ _ x _ _ _ _ => .plain rfl⟩
  | 11, k3 => injection k3 with k3; subst k3; exact ⟨_, rfl, fun _ _ x _ _ _ _ => .plain rfl⟩
  | 12, k3 => injection k3 with k3; subst k3; exact ⟨_, rfl, fun _ _ x _ _ _ _ => .plain rfl⟩
  | 13, k3 => injection k3 with k3; subst k3; exact ⟨_, rfl, fun _ _ x _ _ _ _ => .slm⟩
  | j + 14, k3 => simp [AV.cells] at k3
def ndX (p : Pg) (u v : Value) : Nat → Value
  | 0 => .int .i64 p.need.kind
  | 1 => .int .i64 p.need.n
  | 2 => .int .i64 p.need.min
  | 3 => u
  | _ => v
theorem fr_new {w : World} {g : Gh} {v : AV} {x : Value} (h : Cv w g (.fr v) x) (hv : ∀ u, v ≠ .tup u) : Cv w ⟨fun _ => none, newI w g.I⟩ v x := by
  cases h with
  | fr hx h => exact h
  | old hx h => exact absurd rfl (hv _)
theorem pg_shape {w : World} {g : Gh} {p : Pg} {u v : Value} (hw : WN p.need) (hs : ∀ y ∈ p.need.nodes, y.set.length ≤ 1000) (hu : Cv w g (.fr (.ro {} 2 (p.need.set.map coA))) u) (hv : Cv w g (.fr (.ro {} 5 (p.need.l.map nd))) v) : ShK (newI w g.I) w 5 (ndX p u v) := by
  have hu' := fr_new hu (fun _ h => by cases h)
  have hv' := fr_new hv (fun _ h => by cases h)
  refine shK_of_cv 5 p.need hw.h (by have := hw.n; omega) hs ⟨fun _ => none, newI w g.I⟩ (ndX p u v) fun j c hj => ?_
  obtain ⟨ps, pi, pv, pf, pn, ⟨k, n, m, s2, l2⟩, pt, po, pa, px⟩ := p
  rw [nd_mk] at hj
  match j, hj with
  | 0, hj => injection hj with hj; subst hj; exact .sc _ rfl
  | 1, hj => injection hj with hj; subst hj; exact .sc _ rfl
  | 2, hj => injection hj with hj; subst hj; exact .sc _ rfl
  | 3, hj => injection hj with hj; subst hj; exact hu'
  | 4, hj => injection hj with hj; subst hj; exact hv'
  | j + 5, hj => simp [AV.cells] at hj
end Pb
end Go.Proofs.Ytjnmbmdplchfkaa
namespace Go.Proofs.Ytjnmbmdplchfkaa
open Go.Proofs.Ytjnmbmdplchfkaa.Am
set_option maxRecDepth 100000
variable [Lo]
namespace Pb
/-! ### PublishOwns: from the copies on -/
theorem w23 {w : World} {g : Gh} {n : Nat} {B : List Pg} {C : List Ch} {s i be day : Int} {c : Case} {p : Pg} {a : Act} (h : SRel w g n (w2S B C s i be day c p) a) : ∃ u v u' v', Cv w g (.fr (.ro {} 2 (p.need.set.map coA))) u ∧ Cv w g (.fr (.ro {} 5 (p.need.l.map nd))) v ∧ Cv w g (.fr (.ro {} 2 (p.need.set.map coA))) u' ∧ Cv w g (.fr (.ro {} 5 (p.need.l.map nd))) v' ∧ SRel w g.olds n (w3S B C s i be day c p u v u' v') a := by
  obtain ⟨u, v, h1, h2, h3⟩ := pg_cells (h.H.rel 2 _ rfl)
  obtain ⟨u', v', k1, k2, k3⟩ := pg_cells (h.H.rel 3 _ rfl)
  refine ⟨u, v, u', v', h1, h2, k1, k2, sToX ?_ ?_ h⟩
  · exact .cons (fun _ => .ptr) (.cons (fun _ => .plain rfl) (.cons (fun _ => .old) (.cons (fun _ => .old) (.cons (fun _ => .ptr) (.cons (fun _ => .ptr) (.cons (fun _ => .ptr) (.cons (fun _ => .plain rfl) .nil)))))))
  · refine .cons (EsTo.rel (.cons ?_ .nil)) (.cons (EsTo.rel (.cons (CsTo.plain ?_) .nil)) (.cons (fun _ => h3) (.cons (fun _ => k3) (.cons (EsTo.rel (EsTo.map _ ?_ _)) (.cons (EsTo.rel (EsTo.map _ ?_ _)) .nil)))))
    · exact .cons (fun _ => .old) (.cons (fun _ => .old) (.cons (fun _ => .plain rfl) (.cons (fun _ => .plain rfl) (.cons (fun _ => .plain rfl) (.cons (fun _ => .plain rfl) .nil)))))
    · intro c hc
      rcases List.mem_cons.1 hc with rfl | hc
      · rfl
      rcases List.mem_cons.1 hc with rfl | hc
      · rfl
      rcases List.mem_cons.1 hc with rfl | hc
      · rfl
      rw [List.mem_singleton.1 hc]; rfl
    all_goals
      intro x c hc
      rcases List.mem_cons.1 hc with rfl | hc
      · rfl
      rcases List.mem_cons.1 hc with rfl | hc
      · rfl
      rcases List.mem_cons.1 hc with rfl | hc
      · rfl
      rw [List.mem_singleton.1 hc]; rfl
theorem w3N (s i be day : Int) (c : Case) (p : Pg) (u v u' v' : Value) (ok : Nat → Bool) (h4 : ok 4 = true) (h5 : ok 5 = true) : namesAll ok [(0, .row 6 csT [csA c]), (1, nB s i be day), (2, .row 14 pty [pgX p u v 4]), (3, .row 14 pty [pgX p u' v' 5]), (4, rwX p.ex), (5, rwX p.ex)] = true := by
  have h1 : namesAll ok [(4, rwX p.ex), (5, rwX p.ex)] = true := namesAll.row (pure_ex _) (namesAll.row (pure_ex _) rfl)
  rw [namesAll, namesAll, namesAll, namesAll, h1]
  simp only [Blk.names, AV.namesL, AV.names, h4, h5]; rfl
theorem nd_arg {w : World} {g : Gh} {p : Pg} {u v : Value} {y : Value} (h : Cv w g (.agg [int p.need.kind, int p.need.n, int p.need.min, .sc u, .sc v]) y) : y = .agg #[ndX p u v 0, ndX p u v 1, ndX p u v 2, ndX p u v 3, ndX p u v 4] := agg_inv (X := ndX p u v) h
set_option maxHeartbeats 3200000 in
set_option maxRecDepth 100000 in
theorem own3 (B : List Pg) (C : List Ch) (s i be day : Int) (c : Case) (p : Pg) (hB : BK B) (hC : CK C) (hp : p ∈ B) (hbd : bindP B s i be day C = (p, 0)) (hMk : AFun Try.prog 16 0 [.ro c.1.1 1 (c.1.2.map iA)] [] (.ro {} 14 (B.map pg)) [])
    {w0 w : World} {g : Gh} {a : Act} {N : Nat} {Q : Exit → Act → World → Prop} (hN : N ≤ w.heap.size) (hlo : N ≤ Lo.lo) (hs : SRel w g Try.f7.ntmps (w2S B C s i be day c p) a) (hD : DefOk N w g a.defers) (hbel : Go.RowKit.Below N w0 w)
    (hown : ∀ id B' b E, (w2S B C s i be day c p).H.get id = some B' → g.φ id = some (b, E) → N ≤ b)
    (hQ : ∀ e s' a' w' g', e = .ret → SRel w' g' Try.f7.ntmps s' a' → SW 0 Try.f7.ntmps s' ⟨[(2, bool true)], [], 0⟩ → DefOk N w' g' a'.defers → Go.RowKit.Below N w0 w' → Q e a' w') :
    (sR (sR (sR (sR (sR (sR body7)))))).wpIn (FR none) 0 Try.prog Q a w := by
  obtain ⟨u, v, u', v', h1, h2, k1, k2, hX⟩ := w23 hs
  have hw := (hB.wp p hp).need
  have hsp := (hB.wp p hp).sp
  have sh1 := pg_shape hw hsp.s h1 h2
  have sh2 := pg_shape hw hsp.s k1 k2
  clear h1 h2 k1 k2
  have hz : InZ (newI w g.I) w := fun b hb => hb.2.2
  have hS := hz.inW
  have hGI : GI N (newI w g.I) w w g.olds (w3S B C s i be day c p u v u' v').H := ⟨.refl _ _ _, hN, fun id B' b E hi hφ => ?own, fun b hb hI => ?imm⟩
  case imm =>
    have := hb.2.1
    have := hI.2
    omega
  case own =>
    have hex : ∃ B0, (w2S B C s i be day c p).H.get id = some B0 := by
      match id, hi with
      | 0, _ => exact ⟨_, rfl⟩
      | 1, _ => exact ⟨_, rfl⟩
      | 2, _ => exact ⟨_, rfl⟩
      | 3, _ => exact ⟨_, rfl⟩
      | 4, _ => exact ⟨_, rfl⟩
      | 5, _ => exact ⟨_, rfl⟩
      | id + 6, hi => simp [AH.get] at hi
    obtain ⟨B0, h0⟩ := hex
    exact ⟨hown id B0 b E h0 hφ, fun hb => hs.H.imm id b E B0 h0 hφ hb.1⟩
  have hSN : ∀ b, newI w g.I b → N ≤ b := fun b hb => Nat.le_trans hlo hb.2.1
  have hlo' := hs.H.gl.2
  have hDx : DefOk N w g.olds a.defers := by
    obtain ⟨Ds, d1, d2, d3⟩ := hD
    exact ⟨Ds, d1, d2, fun D hD => ⟨(d3 D hD).1, (d3 D hD).2.1, fun hI => (d3 D hD).2.2 hI.1⟩⟩
  clear hown hs hD
  generalize newI w g.I = S at *
  have hmain : GRuns Try.prog Try.f7.ntmps N S w (sR (sR (sR (sR (sR (sR body7)))))) (w3S B C s i be day c p u v u' v') fun e t => e = .ret ∧ SW 0 Try.f7.ntmps t ⟨[(2, bool true)], [], 0⟩ := by
    have hR := ownR B C s i be day c p u v u' v' hB hC hp hbd hMk
    refine GRuns.joinN hS (fun _ : Unit => w3S B C s i be day c p u v u' v') (fun _ => True) ?a1 fun _ _ => GRuns.joinN hS (fun _ : Unit => w3S B C s i be day c p u v u' v') (fun _ => True) ?a2 fun _ _ => GRuns.of_VS hS hR
    case a1 =>
      refine GRuns.of_list ?_
      refine GOps.pre T_ok hS 2 (Nat.zero_le _) rfl ?_
      ((repeat ((conv => whnf); (first | (refine As.pre ?_; first | refine As.mk rfl ?_) | (refine LetV.pre ?_; first | refine LetV.mk (.agg _) rfl ?_) | (refine Ck.pre ?_; first | refine Ck.mk rfl ?_) | refine forceAs.pass ?_))); (try (conv => whnf)))
      refine GOps.raw hS (ι := Unit) (fun _ => True) (fun _ => .unk) rfl rfl (fun w1 g1 ρ hG hρ hH => ?_) (fun _ _ => GOps.nil ⟨rfl, (), trivial, SW.mk id rfl rfl (w3N _ _ _ _ _ _ _ _ _ _ _ rfl rfl) ⟨.refl _, .refl _, .refl _, .refl _, .refl _, .refl _, .refl _, .refl _, trivial⟩ (haveV.row rfl rfl (haveV.row rfl rfl (haveV.agg rfl ⟨.refl _, .refl _, .refl _, .refl _, .refl _, .refl _, .refl _, .refl _, .refl _, .refl _, .refl _, .refl _, .refl _, .refl _, trivial⟩ (haveV.agg rfl ⟨.refl _, .refl _, .refl _, .refl _, .refl _, .refl _, .refl _, .refl _, .refl _, .refl _, .refl _, .refl _, .refl _, .refl _, trivial⟩ (haveV.row (pure_ex _) rfl (haveV.row (pure_ex _) rfl trivial))))))⟩)
      have hf := hρ (.func 23) (by simp [Op.operands, Call.operands])
      have hx := nd_arg (hρ (.tmp 52) (by simp [Op.operands, Call.operands]))
      have hcall := spoil_arg (spoil_c S 5 w1 _ (hz.chg hG.chg) (ShK.chg hz hG.chg 5 _ _ sh1 fun _ _ => .inl rfl) (Nat.le_trans hlo' hG.chg.size)) hx (g1 := g1)
      exact call_ok rfl (by kernel_rfl) hf hcall
    case a2 =>
      refine GRuns.of_list ?_
      refine GOps.pre T_ok hS 2 (Nat.zero_le _) rfl ?_
      ((repeat ((conv => whnf); (first | (refine As.pre ?_; first | refine As.mk rfl ?_) | (refine LetV.pre ?_; first | refine LetV.mk (.agg _) rfl ?_) | (refine Ck.pre ?_; first | refine Ck.mk rfl ?_) | refine forceAs.pass ?_))); (try (conv => whnf)))
      refine GOps.raw hS (ι := Unit) (fun _ => True) (fun _ => .unk) rfl rfl (fun w1 g1 ρ hG hρ hH => ?_) (fun _ _ => GOps.nil ⟨rfl, (), trivial, SW.mk id rfl rfl (w3N _ _ _ _ _ _ _ _ _ _ _ rfl rfl) ⟨.refl _, .refl _, .refl _, .refl _, .refl _, .refl _, .refl _, .refl _, trivial⟩ (haveV.row rfl rfl (haveV.row rfl rfl (haveV.agg rfl ⟨.refl _, .refl _, .refl _, .refl _, .refl _, .refl _, .refl _, .refl _, .refl _, .refl _, .refl _, .refl _, .refl _, .refl _, trivial⟩ (haveV.agg rfl ⟨.refl _, .refl _, .refl _, .refl _, .refl _, .refl _, .refl _, .refl _, .refl _, .refl _, .refl _, .refl _, .refl _, .refl _, trivial⟩ (haveV.row (pure_ex _) rfl (haveV.row (pure_ex _) rfl trivial))))))⟩)
      have hf := hρ (.func 23) (by simp [Op.operands, Call.operands])
      have hx := nd_arg (hρ (.tmp 55) (by simp [Op.operands, Call.operands]))
      have hcall := spoil_arg (spoil_c S 5 w1 _ (hz.chg hG.chg) (ShK.chg hz hG.chg 5 _ _ sh2 fun _ _ => .inl rfl) (Nat.le_trans hlo' hG.chg.size)) hx (g1 := g1)
      exact call_ok rfl (by kernel_rfl) hf hcall
  refine hmain none N w g.olds a Q (fun _ => rfl) hGI hX hN hDx fun e s' a' w' g' hR hG' hS' hB' hD' => hQ e s' a' w' g' hR.1 hS' hR.2 hD' ?_
  have k := hG'.chg
  exact ⟨k.os.trans hbel.os, k.tape.trans hbel.tape, k.output.trans hbel.output, Nat.le_trans hbel.size k.size, fun b hb => (k.keep b hb fun hS => by have := hSN b hS; omega).trans (hbel.block b hb)⟩
end Pb
end Go.Proofs.Ytjnmbmdplchfkaa
namespace Go.Proofs.Ytjnmbmdplchfkaa
open Go.Proofs.Ytjnmbmdplchfkaa.Am
set_option maxRecDepth 100000
variable [Lo]
namespace Pb
/-! ### PublishOwns: the copies are made -/
abbrev w3a (B : List Pg) (C : List Ch) (s i be day : Int) (c : Case) (p : Pg) : AS := ⟨[(1, .ptr 0 6 0 0), (3, bool true), (4, .old (.ro {} 14 (B.map pg))), (5, .old (.ro {} 4 (C.map chA))), (6, .ptr 1 4 0 0), (7, .ptr 2 14 0 0), (8, int 0)], [(0, .row 6 csT [csW c]), (1, nB s i be day), (2, .row 14 pty [pgM p 4]), (4, rwX p.ex)], 6⟩
abbrev w3b (B : List Pg) (C : List Ch) (s i be day : Int) (c : Case) (p : Pg) : AS := ⟨[(1, .ptr 0 6 0 0), (3, bool true), (4, .old (.ro {} 14 (B.map pg))), (5, .old (.ro {} 4 (C.map chA))), (6, .ptr 1 4 0 0), (7, .ptr 2 14 0 0)], [(0, .row 6 csT [csW c]), (1, nB s i be day), (2, .row 14 pty [pgM p 4]), (4, rwX p.ex)], 6⟩
theorem w3aN (s i be day : Int) (c : Case) (p : Pg) (ok : Nat → Bool) (h4 : ok 4 = true) : namesAll ok [(0, .row 6 csT [csW c]), (1, nB s i be day), (2, .row 14 pty [pgM p 4]), (4, rwX p.ex)] = true := by
  have h1 : namesAll ok [(4, rwX p.ex)] = true := namesAll.row (pure_ex _) rfl
  rw [namesAll, namesAll, namesAll, h1]
  simp only [Blk.names, AV.namesL, AV.names, h4]; rfl
theorem w2N (s i be day : Int) (c : Case) (p : Pg) (ok : Nat → Bool) (h4 : ok 4 = true) (h5 : ok 5 = true) : namesAll ok [(0, .row 6 csT [csW c]), (1, nB s i be day), (2, .row 14 pty [pgM p 4]), (3, .row 14 pty [pgM p 5]), (4, rwX p.ex), (5, rwX p.ex)] = true := by
  have h1 : namesAll ok [(4, rwX p.ex), (5, rwX p.ex)] = true := namesAll.row (pure_ex _) (namesAll.row (pure_ex _) rfl)
  rw [namesAll, namesAll, namesAll, namesAll, h1]
  simp only [Blk.names, AV.namesL, AV.names, h4, h5]; rfl
set_option maxHeartbeats 3200000 in
set_option maxRecDepth 100000 in
theorem own2r (B : List Pg) (C : List Ch) (s i be day : Int) (c : Case) (p : Pg) (hB : BK B) (hC : CK C) (hbd : bindP B s i be day C = (p, 0)) :
    VS Try.prog 0 Try.f7.ntmps (sL (sR (sR (sR body7)))) (w1O B C s i be day c) fun e t => e = .normal ∧ SW 0 Try.f7.ntmps t (w3a B C s i be day c p) := by
  have hl := hB.len
  have hlC := hC.len
  have hBd := Bind_O B C s i be day (by omega) (by omega) (fun q hq => (hB.wp q hq).sp) (by rw [hbd])
  rw [hbd] at hBd
  dsimp only at hBd
  have hBd' := hBd.le (vs' := [.old (.ro {} 14 (B.map pg)), int s, int i, int be, .old (.ro {} 4 (C.map chA)), int day]) ⟨CLe.old _ _ _, (VLe2.refl _).cle, (VLe2.refl _).cle, (VLe2.refl _).cle, CLe.old _ _ _, (VLe2.refl _).cle, trivial⟩
  clear hBd hbd hB hC hl hlC
  obtain ⟨ps, pi, pv, pf, pn, ⟨k, n, m, s2, l2⟩, pt, po, pa, px⟩ := p
  rw [pgO_mk] at hBd'
  dsimp only at hBd'
  refine VS.of_V T_ok mixed rfl ?_
  ((repeat ((conv => whnf); (first | (refine LetN.pre ?_; first | ((conv => arg 1; whnf); refine LetN.mk ?_)) | (refine As.pre ?_; first | refine As.mk rfl ?_) | (refine LetV.pre ?_; first | refine LetV.mk (.sc (.int _ _)) rfl ?_) | (refine Ck.pre ?_; first | refine Ck.mk rfl ?_) | (refine LetL.pre ?_; first | refine LetL.mk (ty := exty) _ (renL_none (pure_ex _)).symm ?_ | refine LetL.mk (ty := pty) [.agg [_, _, _, _, _, _, _, _, _, _, _, _, _, _]] rfl ?_) | (refine CallN.pre ?_; first | (refine CallN.own (fun i => i + 2) hBd' (CallOk.mk' rfl rfl rfl rfl rfl (namesAll.row (pure_ex _) rfl) trivial) ?_))))); (try (conv => whnf)))
  exact ⟨rfl, SW.mk (fun i => match i with | 2 => 3 | 4 => 2 | i => i) rfl rfl (w3aN _ _ _ _ _ _ _ rfl) ⟨.refl _, .refl _, .refl _, .refl _, .refl _, .refl _, .refl _, trivial⟩ (haveV.row rfl rfl (haveV.row rfl rfl (haveV.agg rfl ⟨.refl _, .refl _, .refl _, .refl _, .refl _, .refl _, .refl _, .refl _, .refl _, .refl _, .refl _, .refl _, .refl _, .refl _, trivial⟩ (haveV.row (pure_ex _) rfl trivial))))⟩
set_option maxHeartbeats 3200000 in
set_option maxRecDepth 100000 in
theorem own2i (B : List Pg) (C : List Ch) (s i be day : Int) (c : Case) (p : Pg) :
    VS Try.prog 0 Try.f7.ntmps (sL (sR (sR (sR (sR body7))))) (w3a B C s i be day c p) fun e t => e = .normal ∧ SW 0 Try.f7.ntmps t (w3b B C s i be day c p) := by
  refine VS.of_V T_ok mixed rfl ?_
  ((repeat ((conv => whnf); (first | (refine As.pre ?_; first | refine As.mk rfl ?_) | (refine LetB.pre ?_; first | refine LetB.ff rfl ?_) | (refine Br.pre ?_; first | refine Br.ff rfl ?_) | (refine Ck.pre ?_; first | refine Ck.mk rfl ?_)))); (try (conv => whnf)))
  exact ⟨rfl, SW.mk id rfl rfl (w3aN _ _ _ _ _ _ _ rfl) ⟨.refl _, .refl _, .refl _, .refl _, .refl _, .refl _, trivial⟩ (haveV.row rfl rfl (haveV.row rfl rfl (haveV.agg rfl ⟨.refl _, .refl _, .refl _, .refl _, .refl _, .refl _, .refl _, .refl _, .refl _, .refl _, .refl _, .refl _, .refl _, .refl _, trivial⟩ (haveV.row (pure_ex _) rfl trivial))))⟩
set_option maxHeartbeats 3200000 in
set_option maxRecDepth 100000 in
theorem own2o (B : List Pg) (C : List Ch) (s i be day : Int) (c : Case) (p : Pg) (hB : BK B) (hof : ofP s i p.ver B = (p, true)) :
    VS Try.prog 0 Try.f7.ntmps (sL (sR (sR (sR (sR (sR body7)))))) (w3b B C s i be day c p) fun e t => e = .normal ∧ SW 0 Try.f7.ntmps t (w2S B C s i be day c p) := by
  have hl := hB.len
  have hOf := Of_O {} B s i p.ver (by omega) (fun q hq => (hB.wp q hq).sp) (by rw [hof])
  rw [hof] at hOf
  dsimp only at hOf
  have hOf' := hOf.le (vs' := [.old (.ro {} 14 (B.map pg)), int s, int i, int p.ver]) ⟨CLe.old _ _ _, (VLe2.refl _).cle, (VLe2.refl _).cle, (VLe2.refl _).cle, trivial⟩
  clear hOf hof hB hl
  obtain ⟨ps, pi, pv, pf, pn, ⟨k, n, m, s2, l2⟩, pt, po, pa, px⟩ := p
  rw [pgO_mk] at hOf'
  dsimp only at hOf'
  refine VS.of_V T_ok mixed rfl ?_
  ((repeat ((conv => whnf); (first | (refine LetN.pre ?_; first | ((conv => arg 1; whnf); refine LetN.mk ?_)) | (refine As.pre ?_; first | refine As.mk rfl ?_) | (refine LetV.pre ?_; first | refine LetV.mk (.sc (.int _ _)) rfl ?_) | (refine Ck.pre ?_; first | refine Ck.mk rfl ?_) | (refine LetL.pre ?_; first | refine LetL.mk (ty := exty) _ (renL_none (pure_ex _)).symm ?_ | refine LetL.mk (ty := pty) [.agg [_, _, _, _, _, _, _, _, _, _, _, _, _, _]] rfl ?_) | (refine CallN.pre ?_; first | (refine CallN.own (fun i => i + 6) hOf' (CallOk.mk' rfl rfl rfl rfl rfl (namesAll.row (pure_ex _) rfl) trivial) ?_))))); (try (conv => whnf)))
  exact ⟨rfl, SW.mk (fun i => match i with | 3 => 7 | 5 => 6 | i => i) rfl rfl (w2N _ _ _ _ _ _ _ rfl rfl) ⟨.refl _, .refl _, .refl _, .refl _, .refl _, .refl _, .refl _, .refl _, trivial⟩ (haveV.row rfl rfl (haveV.row rfl rfl (haveV.agg rfl ⟨.refl _, .refl _, .refl _, .refl _, .refl _, .refl _, .refl _, .refl _, .refl _, .refl _, .refl _, .refl _, .refl _, .refl _, trivial⟩ (haveV.agg rfl ⟨.refl _, .refl _, .refl _, .refl _, .refl _, .refl _, .refl _, .refl _, .refl _, .refl _, .refl _, .refl _, .refl _, .refl _, trivial⟩ (haveV.row (pure_ex _) rfl (haveV.row (pure_ex _) rfl trivial))))))⟩
/-- A phase of a law: nothing below N has changed, what is owned is new. -/
structure Ph (N : Nat) (w0 w : World) (g : Gh) (H : AH) : Prop where
  le : N ≤ w.heap.size
  bel : Go.RowKit.Below N w0 w
  own : ∀ id B b E, H.get id = some B → g.φ id = some (b, E) → N ≤ b
theorem Ph.adv {N p : Nat} {w0 w w' : World} {g g' : Gh} {H H' : AH} (h : Ph N w0 w g H) (hA : AdvP p w g H w' g' H') : Ph N w0 w' g' H' :=
  ⟨Nat.le_trans h.le hA.ext.size, ⟨hA.ext.os.trans h.bel.os, hA.ext.tape.trans h.bel.tape, hA.ext.output.trans h.bel.output, Nat.le_trans h.bel.size hA.ext.size, fun b hb => (hA.ext.block b (Nat.lt_of_lt_of_le hb h.le) fun id B E hi he => by
    have := h.own id B b E hi he
    omega).trans (h.bel.block b hb)⟩, fun id B b E hi hb => by
    rcases Nat.lt_or_ge b w.heap.size with hlt | hge
    · obtain ⟨i, A, F, h1, h2⟩ := hA.own id B b E hi hb hlt
      exact h.own i A b F h1 h2
    · exact Nat.le_trans h.le hge⟩
theorem own2 (B : List Pg) (C : List Ch) (s i be day : Int) (c : Case) (p : Pg) (hB : BK B) (hC : CK C) (hp : p ∈ B) (hbd : bindP B s i be day C = (p, 0)) (hof : ofP s i p.ver B = (p, true)) (hMk : AFun Try.prog 16 0 [.ro c.1.1 1 (c.1.2.map iA)] [] (.ro {} 14 (B.map pg)) [])
    {w0 w : World} {g : Gh} {a : Act} {N : Nat} {Q : Exit → Act → World → Prop} (hlo : N ≤ Lo.lo) (hs : SRel w g Try.f7.ntmps (w1O B C s i be day c) a) (hD : DefOk N w g a.defers) (hP : Ph N w0 w g (w1O B C s i be day c).H)
    (hQ : ∀ e s' a' w' g', e = .ret → SRel w' g' Try.f7.ntmps s' a' → SW 0 Try.f7.ntmps s' ⟨[(2, bool true)], [], 0⟩ → DefOk N w' g' a'.defers → Go.RowKit.Below N w0 w' → Q e a' w') :
    (sR (sR (sR body7))).wpIn (FR none) 0 Try.prog Q a w := by
  refine wp_pre (r := none) (B := N) (own2r B C s i be day c p hB hC hbd) (fun _ => rfl) hs hP.le hD fun a1 w1 g1 hA1 hs1 hB1 hD1 => ?_
  refine wp_pre (r := none) (B := N) (own2i B C s i be day c p) (fun _ => rfl) hs1 hB1 hD1 fun a2 w2 g2 hA2 hs2 hB2 hD2 => ?_
  refine wp_pre (r := none) (B := N) (own2o B C s i be day c p hB hof) (fun _ => rfl) hs2 hB2 hD2 fun a3 w3 g3 hA3 hs3 hB3 hD3 => ?_
  have hP3 := ((hP.adv hA1).adv hA2).adv hA3
  exact own3 B C s i be day c p hB hC hp hbd hMk hB3 hlo hs3 hD3 hP3.bel hP3.own hQ
end Pb
end Go.Proofs.Ytjnmbmdplchfkaa
namespace Go.Proofs.Ytjnmbmdplchfkaa
open Go.Proofs.Ytjnmbmdplchfkaa.Am
set_option maxRecDepth 100000
variable [Lo]
namespace Pb
/-! ### The case, as the rows give it -/
abbrev CX := List (List Int) × List (List Int) × Int × Int × Int × Int
abbrev cxA (x : CX) : AV := .agg [.ro {} 1 (x.1.map fun l => .ro {} 1 (l.map int)), .ro {} 1 (x.2.1.map fun l => .ro {} 1 (l.map int)), u8' x.2.2.1, u8' x.2.2.2.1, u16 x.2.2.2.2.1, u16 x.2.2.2.2.2]
structure CXOk (x : CX) : Prop where
  l : x.1.length ≤ 9223372036854775807
  lx : ∀ l ∈ x.1, l.length ≤ 9223372036854775807
  m : x.2.1.length ≤ 9223372036854775807
  mx : ∀ l ∈ x.2.1, l.length ≤ 9223372036854775807
  s : 0 ≤ x.2.2.1 ∧ x.2.2.1 ≤ 255
  i : 0 ≤ x.2.2.2.1 ∧ x.2.2.2.1 ≤ 255
  b : 0 ≤ x.2.2.2.2.1 ∧ x.2.2.2.2.1 ≤ 65535
  d : 0 ≤ x.2.2.2.2.2 ∧ x.2.2.2.2.2 ≤ 65535
def csO (x : CX) : Case := ((({} : Fl), x.1.map fun l => (({} : Fl), l)), (({} : Fl), x.2.1.map fun l => (({} : Fl), l)), x.2.2.1, x.2.2.2.1, x.2.2.2.2.1, x.2.2.2.2.2)
theorem csO_eq (x : CX) : csA (csO x) = cxA x := by
  unfold csA csO cxA
  dsimp only
  rw [List.map_map, List.map_map]; rfl
theorem csO_ok {x : CX} (h : CXOk x) : CaseOk (csO x) :=
  ⟨by show (x.1.map _).length ≤ _; rw [List.length_map]; exact h.l, fun y hy => by
    obtain ⟨l, hl, rfl⟩ := List.mem_map.1 hy; exact h.lx l hl, by show (x.2.1.map _).length ≤ _; rw [List.length_map]; exact h.m, fun y hy => by
    obtain ⟨l, hl, rfl⟩ := List.mem_map.1 hy; exact h.mx l hl, h.s, h.i, h.b, h.d⟩
end Pb
end Go.Proofs.Ytjnmbmdplchfkaa
namespace Go.Proofs.Ytjnmbmdplchfkaa
open Go.Proofs.Ytjnmbmdplchfkaa.Am
set_option maxRecDepth 100000
variable [Lo]
namespace Pb
/-! ### PublishOwns: bare values, and the law -/
theorem bareL_map {α : Type} (f : α → AV) (h : ∀ x, (f x).bare = true) : ∀ l : List α, AV.bareL (l.map f) = true
  | [] => rfl
  | x :: l => by rw [List.map_cons, AV.bareL, h x, bareL_map f h l]; rfl
theorem nd_bare (x : Nd) : (nd x).bare = true := by
  induction x using Nd.rec (motive_2 := fun l => AV.bareL (l.map nd) = true) with
  | mk k n m s l ih =>
    rw [nd_mk]
    have hs : AV.bareL (s.map coA) = true := bareL_map _ (fun _ => rfl) s
    simp only [AV.bare, AV.bareL, hs, ih]; rfl
  | nil => rfl
  | cons x l h1 h2 => rw [List.map_cons, AV.bareL, h1, h2]; rfl
theorem pg_bare (p : Pg) : (pg p).bare = true := by
  obtain ⟨ps, pi, pv, pf, pn, ⟨k, n, m, s2, l2⟩, pt, po, pa, px⟩ := p
  rw [pg_mk]
  have h1 : AV.bareL (s2.map coA) = true := bareL_map _ (fun _ => rfl) s2
  have h2 : AV.bareL (l2.map nd) = true := bareL_map _ nd_bare l2
  have h3 : AV.bareL (px.map exA) = true := bareL_map _ (fun _ => rfl) px
  simp only [AV.bare, AV.bareL, h1, h2, h3]; rfl
theorem iA_bare (x : Fl × List Int) : (iA x).bare = true := by
  have h : AV.bareL (x.2.map int) = true := bareL_map _ (fun _ => rfl) _
  simp only [AV.bare, h]
inductive FrOl : Fr → Fr → Prop
  | nil : FrOl [] []
  | cons {t : Nat} {c c' : AV} {fr fr' : Fr} (h : OldLe c c') (r : FrOl fr fr') : FrOl ((t, c) :: fr) ((t, c') :: fr')
theorem FrOl.get {fr fr' : Fr} (h : FrOl fr fr') (t : Nat) : fget fr' t = .unk ∨ OldLe (fget fr t) (fget fr' t) := by
  induction h with
  | nil => exact .inl rfl
  | cons h r ih =>
    unfold fget
    split
    · exact .inr h
    · exact ih
theorem olS {c : AV} (h : c.bare = true) : OldLe c c := .inl ⟨rfl, h⟩
theorem olR {fl : Fl} {E : Nat} {es : List AV} (h : AV.bareL es = true) : OldLe (.ro fl E es) (.old (.ro fl E es)) := .inr ⟨fl, E, es, rfl, rfl, h⟩
omit [Lo] in
theorem w1_old {L0 L : Lo} {w : World} {g : Gh} {n : Nat} {B : List Pg} {C : List Ch} {s i be day : Int} {c : Case} {a : Act} (h : @SRel L0 w g n (w1S B C s i be day c) a) (hlo : L.lo = w.heap.size) : @SRel L w g n (w1O B C s i be day c) a := by
  have hb : AV.bareL (B.map pg) = true := bareL_map _ pg_bare B
  have hc : AV.bareL (C.map chA) = true := bareL_map _ (fun _ => rfl) C
  have hi1 : AV.bareL (c.1.2.map iA) = true := bareL_map _ iA_bare _
  have hi2 : AV.bareL (c.2.1.2.map iA) = true := bareL_map _ iA_bare _
  refine SRel.toOld h (FrOl.get ?_) ?_ hlo
  · exact .cons (olS rfl) (.cons (olS rfl) (.cons (olR hb) (.cons (olR hc) (.cons (olS rfl) .nil))))
  · refine .cons rfl (fun k e e' h1 h2 => ?_) (.cons rfl (fun k e e' h1 h2 => ?_) .nil)
    · rcases k with _ | k
      case succ => simp at h1
      injection h1 with h1; injection h2 with h2; subst h1 h2
      refine ⟨rfl, fun j c1 c2 k1 k2 => ?_⟩
      match j, k1, k2 with
      | 0, k1, k2 => injection k1 with k1; injection k2 with k2; subst k1 k2; exact olR hi1
      | 1, k1, k2 => injection k1 with k1; injection k2 with k2; subst k1 k2; exact olR hi2
      | 2, k1, k2 => injection k1 with k1; injection k2 with k2; subst k1 k2; exact olS rfl
      | 3, k1, k2 => injection k1 with k1; injection k2 with k2; subst k1 k2; exact olS rfl
      | 4, k1, k2 => injection k1 with k1; injection k2 with k2; subst k1 k2; exact olS rfl
      | 5, k1, k2 => injection k1 with k1; injection k2 with k2; subst k1 k2; exact olS rfl
      | j + 6, k1, k2 => simp [AV.cells] at k1
    · rcases k with _ | k
      case succ => simp at h1
      injection h1 with h1; injection h2 with h2; subst h1 h2
      refine ⟨rfl, fun j c1 c2 k1 k2 => ?_⟩
      match j, k1, k2 with
      | 0, k1, k2 => injection k1 with k1; injection k2 with k2; subst k1 k2; exact olS rfl
      | 1, k1, k2 => injection k1 with k1; injection k2 with k2; subst k1 k2; exact olS rfl
      | 2, k1, k2 => injection k1 with k1; injection k2 with k2; subst k1 k2; exact olS rfl
      | 3, k1, k2 => injection k1 with k1; injection k2 with k2; subst k1 k2; exact olS rfl
      | j + 4, k1, k2 => simp [AV.cells] at k1
abbrev z0S (c : Case) : AS := ⟨[(1, .ptr 0 6 0 0)], [(0, .row 6 csT [csA c])], 1⟩
abbrev z1S (c : Case) : AS := ⟨[(1, .ptr 0 6 0 0), (3, bool true)], [(0, .row 6 csT [csA c])], 1⟩
theorem own1a (c : Case) : VS Try.prog 0 Try.f7.ntmps (sL body7) ⟨argFr [csA c] 0, [], 0⟩ fun e t => e = .normal ∧ SW 0 Try.f7.ntmps t (z0S c) := by
  refine VS.of_V T_ok mixed rfl ?_
  ((repeat ((conv => whnf); (first | (refine LetN.pre ?_; first | ((conv => arg 1; whnf); refine LetN.mk ?_)) | (refine As.pre ?_; first | refine As.mk rfl ?_) | (refine Ck.pre ?_; first | refine Ck.mk rfl ?_)))); (try (conv => whnf)))
  exact ⟨rfl, SW.mk id rfl rfl rfl ⟨.refl _, trivial⟩ (haveV.row rfl rfl trivial)⟩
theorem own1b (c : Case) : VS Try.prog 0 Try.f7.ntmps (sL (sR body7)) (z0S c) fun e t => e = .normal ∧ SW 0 Try.f7.ntmps t (z1S c) := by
  refine VS.of_V T_ok mixed rfl ?_
  ((repeat ((conv => whnf); (first | (refine As.pre ?_; first | refine As.mk rfl ?_) | (refine Ck.pre ?_; first | refine Ck.mk rfl ?_) | (refine CallN.pre ?_; first | refine CallN.pure sanity_f rfl rfl ?_)))); (try (conv => whnf)))
  exact ⟨rfl, SW.mk id rfl rfl rfl ⟨.refl _, .refl _, trivial⟩ (haveV.row rfl rfl trivial)⟩
theorem own1c (c : Case) (B : List Pg) (C : List Ch) (s i be day : Int) (hM : AFun Try.prog 9 0 [csA c] [] (.tup [.ro {} 14 (B.map pg), .ro {} 4 (C.map chA), .agg [int s, int i, int be, int day]]) []) :
    VS Try.prog 0 Try.f7.ntmps (sL (sR (sR body7))) (z1S c) fun e t => e = .normal ∧ SW 0 Try.f7.ntmps t (w1S B C s i be day c) := by
  refine VS.of_V T_ok mixed rfl ?_
  ((repeat ((conv => whnf); (first | (refine LetN.pre ?_; first | ((conv => arg 1; whnf); refine LetN.mk ?_)) | (refine As.pre ?_; first | refine As.mk rfl ?_) | (refine LetV.pre ?_; first | refine LetV.mk (.agg _) rfl ?_) | (refine Ck.pre ?_; first | refine Ck.mk rfl ?_) | (refine LetL.pre ?_; first | refine LetL.mk [_] rfl ?_) | (refine CallN.pre ?_; first | refine CallN.pure hM rfl rfl ?_)))); (try (conv => whnf)))
  exact ⟨rfl, SW.mk id rfl rfl rfl ⟨.refl _, .refl _, .refl _, .refl _, .refl _, trivial⟩ (haveV.row rfl rfl (haveV.row rfl rfl trivial))⟩
set_option maxHeartbeats 3200000 in
set_option maxRecDepth 100000 in
/-- The law where no copy is made. -/
theorem ownNo (c : Case) (B : List Pg) (C : List Ch) (s i be day : Int) (e : Int) (he : e = 5 ∨ e = 30) (hB : BK B) (hC : CK C) (hbd : bindP B s i be day C = (p0, e)) (hM : AFun Try.prog 9 0 [csA c] [] (.tup [.ro {} 14 (B.map pg), .ro {} 4 (C.map chA), .agg [int s, int i, int be, int day]]) []) :
    AFun Try.prog 7 0 [csA c] [] (bool true) [] := by
  have hl := hB.len
  have hlC := hC.len
  have hBd := Bind_f B C s i be day (by omega) (by omega) (fun q hq => (hB.wp q hq).sp)
  rw [hbd] at hBd
  dsimp only at hBd
  refine AFun.of_VS T_ok Try.func7 rfl (Nat.le_of_ble_eq_true rfl) ?_
  refine VS.joinN (fun _ : Unit => z0S c) (fun _ => True) ((own1a c).mono fun e t h => ⟨h.1, (), trivial, h.2⟩) fun _ _ => ?_
  refine VS.joinN (fun _ : Unit => z1S c) (fun _ => True) ((own1b c).mono fun e t h => ⟨h.1, (), trivial, h.2⟩) fun _ _ => ?_
  refine VS.joinN (fun _ : Unit => w1S B C s i be day c) (fun _ => True) ((own1c c B C s i be day hM).mono fun e t h => ⟨h.1, (), trivial, h.2⟩) fun _ _ => ?_
  refine VS.cut T_ok mixed rfl ?_
  ((repeat ((conv => whnf); (first | (refine LetN.pre ?_; first | ((conv => arg 1; whnf); refine LetN.mk ?_)) | (refine As.pre ?_; first | refine As.mk rfl ?_) | (refine LetV.pre ?_; first | refine LetV.mk (.sc (.int _ _)) rfl ?_) | (refine Ck.pre ?_; first | refine Ck.mk rfl ?_) | (refine LetL.pre ?_; first | refine LetL.mk [_] rfl ?_) | (refine CallN.pre ?_; first | refine CallN.pure hBd rfl rfl ?_)))); (try (conv => whnf)))
  have hne : e ≠ 0 := by omega
  clear hM hBd hbd hB hC hl hlC
  rcases he with rfl | rfl
  · refine VS.cut T_ok mixed rfl ?_
    ((repeat ((conv => whnf); (first | (refine As.pre ?_; first | refine As.mk rfl ?_) | (refine LetB.pre ?_; first | refine LetB.tt rfl ?_) | (refine Br.pre ?_; first | refine Br.tt rfl ?_) | (refine Ck.pre ?_; first | refine Ck.mk rfl ?_)))); (try (conv => whnf)))
    exact ⟨⟨[(2, bool true)], [], 0⟩, SW.fr0 (Nat.le_refl _) rfl ⟨.refl _, trivial⟩, .inl rfl, ⟨_, rfl, rfl⟩, trivial⟩
  · refine VS.cut T_ok mixed rfl ?_
    ((repeat ((conv => whnf); (first | (refine As.pre ?_; first | refine As.mk rfl ?_) | (refine LetB.pre ?_; first | refine LetB.tt rfl ?_) | (refine Br.pre ?_; first | refine Br.tt rfl ?_) | (refine Ck.pre ?_; first | refine Ck.mk rfl ?_)))); (try (conv => whnf)))
    exact ⟨⟨[(2, bool true)], [], 0⟩, SW.fr0 (Nat.le_refl _) rfl ⟨.refl _, trivial⟩, .inl rfl, ⟨_, rfl, rfl⟩, trivial⟩
end Pb
end Go.Proofs.Ytjnmbmdplchfkaa
namespace Go.Proofs.Ytjnmbmdplchfkaa
open Go.Proofs.Ytjnmbmdplchfkaa.Am
set_option maxRecDepth 100000
variable [Lo]
namespace Pb
/-! ### PublishOwns: the law -/
omit [Lo] in
set_option maxHeartbeats 3200000 in
set_option maxRecDepth 100000 in
theorem owns_calls {L0 : Lo} (h0 : L0.lo = 0) (c : Case) (h : CaseOk c) {w : World} {xs : Array Value} (hl : [csA c].length = xs.size) (hx : ∀ (i : Nat) (u : AV) (x : Value), [csA c][i]? = some u → xs[i]? = some x → @Cv L0 w ⟨fun _ => none, fun b => b < w.heap.size⟩ u x) :
    Calls Try.prog 7 xs w fun e w' => e = .returned (.bool true) ∧ Go.RowKit.Below w.heap.size w w' := by
  have hgl : @GlobW L0 w := @GlobW.nil L0 rfl w (by rw [h0]; exact Nat.zero_le _)
  obtain ⟨B, C, s, i, be, day, hB, hC, -, -, -, -, hMk, hM⟩ := @made_case L0 c h
  rcases bind_cases B s i be day with ⟨hb, -⟩ | ⟨hb, -, -⟩ | ⟨b, hb, -, hbm, ⟨hb1, hb2, -⟩, -⟩
  · exact @AFun.law L0 _ _ _ (@ownNo L0 c B C s i be day 5 (.inl rfl) hB hC (hb C) hM) w hgl xs hl hx
  · exact @AFun.law L0 _ _ _ (@ownNo L0 c B C s i be day 30 (.inr rfl) hB hC (hb C) hM) w hgl xs hl hx
  obtain ⟨⟨hp1, hp2, hp3⟩, -, -⟩ := b2_spec (B := B) s i day C b hbm hb1 hb2
  have hbd := hb C
  clear hb
  generalize b2P B s i day b C = p at hbd hp1 hp2 hp3
  have hof : ofP s i p.ver B = (p, true) := by rw [← hp2, ← hp3]; exact ofP_some hB.ck hp1
  refine Go.Proofs.Ytjnmbmdplchfkaa.Am.calls_of_wp (L0 := L0) (P := Try.prog) (T := T) T_ok (f := 7) (fn := Try.f7) (c := body7) (vs := [csA c]) (w := w) (g := ⟨fun _ => none, fun b => b < w.heap.size⟩) (xs := xs) Try.func7 rfl (Nat.le_of_ble_eq_true rfl) hl hx
    (@HRel.mk L0 w ⟨fun _ => none, fun b => b < w.heap.size⟩ [] (fun id B h => by cases h) (fun i j b E E' A B h => by cases h) (fun i b E B h => by cases h) (fun b h => h) ⟨fun x hx => absurd hx List.not_mem_nil, hgl.2⟩) (fun _ _ => rfl) fun Q hQ a0 hs0 hd0 => ?_
  have hD0 : DefOk w.heap.size w ⟨fun _ => none, fun b => b < w.heap.size⟩ a0.defers := by rw [hd0]; exact .nil _ _ _
  have hP0 : Ph w.heap.size w w ⟨fun _ => none, fun b => b < w.heap.size⟩ [] := ⟨Nat.le_refl _, .refl _ _, fun id B b E h => by cases h⟩
  refine @wp_pre L0 _ _ _ _ _ _ none w.heap.size _ _ _ _ (@own1a L0 c) (fun _ => rfl) hs0 hP0.le hD0 fun a1 w1 g1 hA1 hs1 hB1 hD1 => ?_
  refine @wp_pre L0 _ _ _ _ _ _ none w.heap.size _ _ _ _ (@own1b L0 c) (fun _ => rfl) hs1 hB1 hD1 fun a2 w2 g2 hA2 hs2 hB2 hD2 => ?_
  refine @wp_pre L0 _ _ _ _ _ _ none w.heap.size _ _ _ _ (@own1c L0 c B C s i be day hM) (fun _ => rfl) hs2 hB2 hD2 fun a3 w3 g3 hA3 hs3 hB3 hD3 => ?_
  have hP3 := ((hP0.adv hA1).adv hA2).adv hA3
  have hbr : AV.bareL [.ro c.1.1 1 (c.1.2.map iA)] = true := by
    have h : AV.bareL (c.1.2.map iA) = true := bareL_map _ iA_bare _
    simp only [AV.bareL, AV.bare, h]; rfl
  have hbr2 : (AV.ro {} 14 (B.map pg)).bare = true := by
    have h : AV.bareL (B.map pg) = true := bareL_map _ pg_bare B
    simp only [AV.bare, h]
  let L : Lo := ⟨w3.heap.size⟩
  have hs' := @w1_old L0 L w3 g3 _ B C s i be day c a3 hs3 rfl
  have hMk' := @AFun.lo L0 L h0 _ _ _ _ _ hMk hbr hbr2
  refine @own2 L B C s i be day c p hB hC hp1 hbd hof hMk' w w3 g3 a3 w.heap.size Q hP3.le hs' hD3 ⟨hP3.le, hP3.bel, fun id B' b E hi he => ?_⟩ fun e s' a' w' g' he hS hW hD hBel => ?_
  · have hex : ∃ B0, (w1S B C s i be day c).H.get id = some B0 := by
      match id, hi with
      | 0, _ => exact ⟨_, rfl⟩
      | 1, _ => exact ⟨_, rfl⟩
      | id + 2, hi => simp [AH.get] at hi
    obtain ⟨B0, h1⟩ := hex
    exact hP3.own id B0 b E h1 he
  · obtain ⟨g2, h1, h2⟩ := hW w' g' a' hS
    exact hQ L e _ a' w' g2 (.inl he) h2 rfl (hD.adv h1 (@SRel.H L w' g' _ _ a' hS)) hBel
omit [Lo] in
theorem owns_row {L0 : Lo} (h0 : L0.lo = 0) (x : CX) (h : CXOk x) {w : World} {xs : Array Value} (hx : @CellsCv L0 w (g0 w) [cxA x] xs.toList) :
    Calls Try.prog 7 xs w fun e w' => e = .returned (.bool true) ∧ Go.RowKit.Below w.heap.size w w' := by
  refine @owns_calls L0 h0 (csO x) (csO_ok h) w xs ?_ ?_
  · rw [csO_eq]; simpa using hx.1
  · rw [csO_eq]
    intro i u y hi hy
    exact hx.2 i u y hi (by simpa using hy)
end Pb
end Go.Proofs.Ytjnmbmdplchfkaa
