/- The owned machine, part CB: the bytes of a string. -/
import Derived.Test.YtjnmbmdplchfkaaAmCP
import Derived.Lib.ConvBytes
import Derived.Laws.AppendOwn
set_option linter.all false
namespace Go.Proofs.Ytjnmbmdplchfkaa.Am
variable [Lo]
set_option linter.unusedVariables false
def bytesAV (s : ByteArray) : List AV := s.data.toList.map fun b => .sc (.int .u8 b.toNat)
def stepBytes (T : TT) (s d : TypeId) : AV → Option Out
  | .sc (.string b) => match T.get s, (T.get d).map TI.k with
    | some _, some (.slice e) => match (T.get e).map TI.k with
      | some (.int .u8) => some { v := .ro ⟨false, true⟩ 1 (bytesAV b) }
      | _ => none
    | _, _ => none
  | _ => none
section
variable {P : Program} {T : TT} (hT : T.Ok P) {o : Oper} {env : Operand → AV} {H : AH} {r : Out}
theorem bytesWorld_size (w : World) (e : TypeId) (s : ByteArray) : (Lib.bytesWorld w e s).heap.size = w.heap.size + 1 := by
  simp [Lib.bytesWorld, World.freeze, World.alloc, World.drew, -World.alloc_eq, -World.drew_eq]
include hT in
theorem bytes_sem {s d : TypeId} {x : Operand} (ho : o.op = .convert s d x) (h : stepBytes T s d (env x) = some r) : OpSemD P o env H r := by
  unfold stepBytes at h
  split at h
  case h_2 => cases h
  rename_i b hx
  split at h
  case h_2 => cases h
  rename_i si e hsi hd
  split at h
  case h_2 => cases h
  rename_i he
  injection h with h
  subst h
  obtain ⟨ds, hds, _⟩ := hT.under hsi
  obtain ⟨di, hdi, hdk⟩ := Option.map_eq_some_iff.1 hd
  obtain ⟨ei, hei, hek⟩ := Option.map_eq_some_iff.1 he
  intro H' hD hfresh w g ρ hρ hH hφ
  have hcx := hρ x (by simp [ho, Op.operands])
  rw [hx] at hcx
  have hrun := Lib.run_convert_string_bytes (P := P) w s d e b hds (hT.slice hdi hdk) (hT.int hei hek)
  unfold OpOK
  simp only [execOp, ho, hcx.sc_inv]
  rw [run_value hrun]
  have hold : ∀ i, i < w.heap.size → (Lib.bytesWorld w e b).heap[i]? = w.heap[i]? := fun i hi => Lib.bytesWorld_at_old w e b i hi
  have hget := Lib.bytesWorld_at_new w e b
  have hsz := bytesWorld_size w e b
  have hlen : (bytesAV b).length = b.size := by rw [bytesAV, List.length_map, Array.length_toList]; rfl
  let g' : Gh := ⟨g.φ, fun i => g.I i ∨ i = w.heap.size⟩
  have m : Mono w g (Lib.bytesWorld w e b) g' := ⟨fun _ _ h => h, fun i h => ⟨.inl h, hold i (hH.lt i h)⟩, fun i cs' ty fz h => ⟨cs', (hold i (heap_lt h)).trans h, rfl⟩⟩
  refine ⟨g', ⟨m, ⟨rfl, rfl, rfl, by rw [hsz]; exact Nat.le_succ _, fun i hi _ => hold i hi⟩, fun id B i E hi hb _ => ⟨id, B, E, hi, hb⟩, fun i hb hlt => ?_, ⟨fun id B hB => (hH.rel id B hB).keep m rfl fun i E hb => hold i ((hH.rel id B hB).lt hb), hH.apart, fun i j E B hi hb hI => ?_, fun i hb => ?_, hH.gl.mono m.I⟩⟩, ?_, fun _ _ => rfl⟩
  · rcases hb with h | h
    · exact .inl h
    · omega
  · rcases hI with h | h
    · exact hH.imm i j E B hi hb h
    · have := (hH.rel i B hi).lt hb; omega
  · rw [hsz]
    rcases hb with h | h
    · have := hH.lt i h; omega
    · omega
  · have key : ∀ (i j : Nat) (e' c : AV), (bytesAV b)[i]? = some e' → e'.cells[j]? = some c → ∃ n : Nat, e' = .sc (.int .u8 n) ∧ j = 0 ∧ c = .sc (.int .u8 n) ∧ (Lib.bytesCells w e b)[i]? = some (.int .u8 n) := by
      intro i j e' c hi hj
      rw [bytesAV, List.getElem?_map] at hi
      obtain ⟨y, hy, rfl⟩ := Option.map_eq_some_iff.1 hi
      rw [Array.getElem?_toList] at hy
      refine ⟨y.toNat, rfl, ?_⟩
      cases j with
      | succ j => simp [AV.cells] at hj
      | zero =>
        simp only [AV.cells, List.getElem?_cons_zero, Option.some.injEq] at hj
        refine ⟨rfl, hj.symm, ?_⟩
        have hlt := (Array.getElem?_eq_some_iff.1 hy).1
        rw [Lib.bytesCells, Array.getElem?_append_left (by simpa using hlt), Array.getElem?_map, hy]; rfl
    have := Cv.ro (w := Lib.bytesWorld w e b) (g := g') (fl := ⟨false, true⟩) (E := 1) (es := bytesAV b) (b := w.heap.size) (o := 0) (cap := grownCap w b.size 0 e) (fun i _ => ((Lib.bytesCells w e b)[i]?).getD undef) (.inr rfl) (by rw [hlen]; exact grownCap_ge _ _ _ _) (fun h => by cases h) (fun a ha => by
      obtain ⟨y, _, rfl⟩ := List.mem_map.1 ha; rfl) (fun i j e' c hi hj => by
      obtain ⟨n, rfl, rfl, rfl, hc⟩ := key i j e' c hi hj
      unfold World.cell?
      simp only [hget]
      rw [hc]
      simpa using hc) (fun i j e' c hi hj => by
      obtain ⟨n, rfl, rfl, rfl, hc⟩ := key i j e' c hi hj
      rw [hc]
      exact .sc _ rfl)
    rw [hlen] at this
    exact this
end
end Go.Proofs.Ytjnmbmdplchfkaa.Am
