/- A map from stamps to bool that the law made: what a look-up yields and what a store leaves. -/
import Derived.Test.YtcpnlcgpgljlbaaQ
import Derived.MapKept
namespace Go.Proofs.Ytcpnlcgpgljlbaa
open Go.RowKit
set_option linter.unusedVariables false

abbrev kv (r : Int × Int × Int) : Value := .agg #[.int .i64 r.1, .int .i64 r.2.1, .int .i64 r.2.2]

theorem run_equal39 (r s : Int × Int × Int) (w : World) : (Op.equal 39 (kv r) (kv s)).run Try.prog w = .ok (decide (r = s)) w := by
  obtain ⟨a, b, c⟩ := r
  obtain ⟨d, e, f⟩ := s
  have hf : Try.prog.fieldsOf 39 = #[⟨"Day", 3, 0, false, "", "", 0⟩, ⟨"Count", 3, 1, false, "", "", 8⟩, ⟨"Server", 3, 2, false, "", "", 16⟩] := by kernel_rfl
  have hh : (Op.equalIn (9999 + 1) 39 (kv (a, b, c)) (kv (d, e, f))).run Try.prog w = .ok (decide ((a, b, c) = (d, e, f))) w := by
    rw [run_equalIn_struct w 9999 39 _ _ (by kernel_rfl) (by kernel_rfl), hf]
    simp [Op.eqFields, go_sem]
    go_simp
    by_cases h1 : a = d <;> by_cases h2 : b = e <;> by_cases h3 : c = f <;> simp [h1, h2, h3]
  simpa [Op.equal, Op.maxDepth] using hh
theorem run_checkInt (n : Int) (w : World) (em : Bool) : (Instr.checkKey em 9999 3 (.int .i64 n)).run Try.prog w = .ok () w := by
  rw [show 9999 = 9998 + 1 from rfl]
  unfold Instr.checkKey
  simp only [Sem.run_bind, run_underlying Try.underlying3, Result.andThen_ok]
  rfl
theorem run_partInt (i : Nat) (cs : Array Value) (v : Value) (h : cs[i]? = some v) (w : World) : (part 3 cs i).run Try.prog w = .ok v w := by
  simp [part, go_sem, h]
theorem run_checkKey39 (r : Int × Int × Int) (w : World) (em : Bool) : (Instr.checkKey em 10000 39 (kv r)).run Try.prog w = .ok () w := by
  rw [show 10000 = 9999 + 1 from rfl]
  unfold Instr.checkKey
  simp only [Sem.run_bind, run_underlying Try.underlying39, Result.andThen_ok]
  have p0 : ∀ w, (part 3 #[Value.int .i64 r.1, .int .i64 r.2.1, .int .i64 r.2.2] 0).run Try.prog w = .ok (.int .i64 r.1) w := run_partInt 0 _ _ rfl
  have p1 : ∀ w, (part 3 #[Value.int .i64 r.1, .int .i64 r.2.1, .int .i64 r.2.2] 1).run Try.prog w = .ok (.int .i64 r.2.1) w := run_partInt 1 _ _ rfl
  have p2 : ∀ w, (part 3 #[Value.int .i64 r.1, .int .i64 r.2.1, .int .i64 r.2.2] 2).run Try.prog w = .ok (.int .i64 r.2.2) w := run_partInt 2 _ _ rfl
  simp [p0, p1, p2, run_checkInt]

/-- Block m of w is a map in which just the stamps of l are true. -/
def MapAt (w : World) (m : Nat) (l : List (Int × Int × Int)) : Prop :=
  ∃ es clock, w.heap[m]? = some (.map es clock) ∧ es.toList.map (fun e => (e.key, e.val)) = l.map fun r => (kv r, Value.bool true)

theorem run_findAsking39 (r : Int × Int × Int) : ∀ (l : List (Int × Int × Int)) (es : List MapEntry) (i : Nat) (w : World), es.map (fun e => (e.key, e.val)) = l.map (fun r => (kv r, Value.bool true)) →
    ∃ x, (Instr.findAsking 39 (kv r) es i).run Try.prog w = .ok x w ∧ (r ∈ l → ∃ j, x = some (j, .bool true)) ∧ (r ∉ l → x = none)
  | [], [], i, w, _ => ⟨none, by simp [Instr.findAsking], by simp, fun _ => rfl⟩
  | q :: l, e :: es, i, w, h => by
    simp only [List.map_cons, List.cons.injEq, Prod.mk.injEq] at h
    obtain ⟨⟨hk, hv⟩, ht⟩ := h
    obtain ⟨x, hx, h1, h2⟩ := run_findAsking39 r l es (i + 1) w ht
    have he := run_equal39 r q w
    by_cases hq : r = q
    · refine ⟨some (i, .bool true), ?_, fun _ => ⟨i, rfl⟩, fun hh => absurd (by simp [hq]) hh⟩
      subst hq
      unfold Instr.findAsking
      simp only [Sem.run_bind, hk, he, Result.andThen_ok, decide_true, if_true, hv]
      rfl
    · refine ⟨x, ?_, fun hh => h1 (by simpa [hq] using hh), fun hh => h2 (by simpa [hq] using hh)⟩
      unfold Instr.findAsking
      simp only [Sem.run_bind, hk, he, Result.andThen_ok, hq, decide_false, Bool.false_eq_true, if_false]
      exact hx
  | [], _ :: _, _, _, h => by simp at h
  | _ :: _, [], _, _, h => by simp at h

theorem run_findKey39 (r : Int × Int × Int) (l : List (Int × Int × Int)) (es : List MapEntry) (w : World) (h : es.map (fun e => (e.key, e.val)) = l.map (fun r => (kv r, Value.bool true))) :
    ∃ x, (Instr.findKey 39 (kv r) es).run Try.prog w = .ok x w ∧ (r ∈ l → ∃ j, x = some (j, .bool true)) ∧ (r ∉ l → x = none) := by
  cases es with
  | nil =>
    cases l with
    | nil => exact ⟨none, by simp [Instr.findKey, run_underlying Try.underlying39, Instr.findNow], by simp, fun _ => rfl⟩
    | cons q l => simp at h
  | cons e es =>
    obtain ⟨x, hx, h1⟩ := run_findAsking39 r l (e :: es) 0 w h
    refine ⟨x, ?_, h1⟩
    unfold Instr.findKey
    simp only [Sem.run_bind, run_underlying Try.underlying39, Result.andThen_ok]
    have hn : Instr.findNow (TypeDesc.struct #[⟨"Day", 3, 0, false, "", "", 0⟩, ⟨"Count", 3, 1, false, "", "", 8⟩, ⟨"Server", 3, 2, false, "", "", 16⟩]) (kv r) (e :: es) 0 = none := by
      simp [Instr.findNow, Instr.sameNow]
    rw [hn]
    exact hx

theorem run_lookup52 (m : Nat) (r : Int × Int × Int) (l : List (Int × Int × Int)) (w : World) (h : MapAt w m l) :
    (Instr.lookup 52 (.map (some m)) (kv r) false).run Try.prog w = .ok (.bool (decide (r ∈ l))) w := by
  obtain ⟨es, clock, hb, he⟩ := h
  obtain ⟨x, hx, h1, h2⟩ := run_findKey39 r l es.toList w he
  unfold Instr.lookup
  simp only [Sem.run_bind, run_underlying Try.underlying52, Result.andThen_ok, MapKept.run_getObj_map hb, run_checkKey39, Sem.run_pure]
  rw [hx]
  by_cases hr : r ∈ l
  · obtain ⟨j, rfl⟩ := h1 hr
    simp [hr]
  · obtain rfl := h2 hr
    simp [hr, go_sem]

theorem run_update52 (m : Nat) (r : Int × Int × Int) (l : List (Int × Int × Int)) (w : World) (h : MapAt w m l) (hr : r ∉ l) :
    ∃ w', (Instr.mapUpdate 52 (.map (some m)) (kv r) (.bool true)).run Try.prog w = .ok () w' ∧ MapAt w' m (l ++ [r]) ∧ w.grownBy w' (some m) := by
  obtain ⟨es, clock, hb, he⟩ := h
  obtain ⟨x, hx, h1, h2⟩ := run_findKey39 r l es.toList w he
  obtain rfl := h2 hr
  refine ⟨{ w with heap := w.heap.setIfInBounds m (.map (es.push { key := kv r, val := .bool true, born := clock }) (clock + 1)) }, ?_, ?_, ?_⟩
  · unfold Instr.mapUpdate
    simp only [Sem.run_bind, run_underlying Try.underlying52, Result.andThen_ok, MapKept.run_getObj_map hb, run_checkKey39]
    rw [hx]
    simp only [Result.andThen_ok, MapKept.run_setObj_map _ hb]
  · exact ⟨_, _, (MapKept.heap_set hb).1, by simp [he]⟩
  · exact ⟨rfl, rfl, rfl, by simp, fun k hk hne => (MapKept.heap_set hb).2 k (by simpa using hne)⟩
end Go.Proofs.Ytcpnlcgpgljlbaa
