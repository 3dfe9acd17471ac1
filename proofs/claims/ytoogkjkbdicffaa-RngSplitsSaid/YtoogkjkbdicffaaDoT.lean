/- Chapter 21, the reference: spans of two and of four numbers, and of which ranges they are. -/
import Derived.Test.YtoogkjkbdicffaaDoS
import Derived.Test.YtoogkjkbdicffaaRngG
namespace Go.Proofs.Ytoogkjkbdicffaa
open Go.RowKit
set_option linter.unusedSimpArgs false
set_option linter.unusedVariables false

theorem wd_two {w : World} {g : Nat} {T : TypeId} {p q : Int} (hg : w.heap[g]? = some (.cells #[.int .i64 (wHi p), .int .u64 (wLo p), .int .i64 (wHi q), .int .u64 (wLo q)] T (0, 0))) : WdSl w (some ⟨g, 0, none⟩) [p, q] := fun j hj => by
  have hc : ∀ i, w.cell? ⟨g, i, none⟩ = (#[Value.int .i64 (wHi p), .int .u64 (wLo p), .int .i64 (wHi q), .int .u64 (wLo q)] : Array Value)[i]? := fun i => cell_of_row _ _ _ _ _ _ hg
  rcases (by simp at hj; omega : j = 0 ∨ j = 1) with rfl | rfl
  · refine ⟨_, rfl, ?_, ?_⟩
    · rw [Addr.add_mid]; exact hc 0
    · rw [Addr.add_mid, Addr.add_mid]; exact hc 1
  · refine ⟨_, rfl, ?_, ?_⟩
    · rw [Addr.add_mid]; exact hc 2
    · rw [Addr.add_mid, Addr.add_mid]; exact hc 3
theorem wd_four {w : World} {g : Nat} {T : TypeId} {p q r s : Int} (hg : w.heap[g]? = some (.cells #[.int .i64 (wHi p), .int .u64 (wLo p), .int .i64 (wHi q), .int .u64 (wLo q), .int .i64 (wHi r), .int .u64 (wLo r), .int .i64 (wHi s), .int .u64 (wLo s)] T (0, 0))) : WdSl w (some ⟨g, 0, none⟩) [p, q, r, s] := fun j hj => by
  have hc : ∀ i, w.cell? ⟨g, i, none⟩ = (#[Value.int .i64 (wHi p), .int .u64 (wLo p), .int .i64 (wHi q), .int .u64 (wLo q), .int .i64 (wHi r), .int .u64 (wLo r), .int .i64 (wHi s), .int .u64 (wLo s)] : Array Value)[i]? := fun i => cell_of_row _ _ _ _ _ _ hg
  rcases (by simp at hj; omega : j = 0 ∨ j = 1 ∨ j = 2 ∨ j = 3) with rfl | rfl | rfl | rfl
  · refine ⟨_, rfl, ?_, ?_⟩
    · rw [Addr.add_mid]; exact hc 0
    · rw [Addr.add_mid, Addr.add_mid]; exact hc 1
  · refine ⟨_, rfl, ?_, ?_⟩
    · rw [Addr.add_mid]; exact hc 2
    · rw [Addr.add_mid, Addr.add_mid]; exact hc 3
  · refine ⟨_, rfl, ?_, ?_⟩
    · rw [Addr.add_mid]; exact hc 4
    · rw [Addr.add_mid, Addr.add_mid]; exact hc 5
  · refine ⟨_, rfl, ?_, ?_⟩
    · rw [Addr.add_mid]; exact hc 6
    · rw [Addr.add_mid, Addr.add_mid]; exact hc 7
theorem span2_is (p q : Int) (hp : I128 p) (hq : I128 q) (s : RT) (hs : s = spanV p [p, q]) (g : Nat) (w : World) (hg : w.heap[g]? = some (.cells #[.int .i64 (wHi p), .int .u64 (wLo p), .int .i64 (wHi q), .int .u64 (wLo q)] 58 (0, 0))) :
    Calls Try.prog 35 #[.slice (some ⟨g, 0, none⟩) 2 2] w fun e w' => e = .returned (.agg #[.int .i64 s.1, .int .i64 s.2]) ∧ Below w.heap.size w w' :=
  span_gen g [p, q] _ p (by simp) (by simp) rfl (fun z hz => by
    simp only [List.mem_cons, List.not_mem_nil, or_false] at hz
    rcases hz with rfl | rfl <;> assumption) hp w w rfl hg (wd_two hg) s hs
theorem span4_is (p q r t : Int) (hp : I128 p) (hq : I128 q) (hr : I128 r) (ht : I128 t) (s : RT) (hs : s = spanV p [p, q, r, t]) (g : Nat) (w : World) (hg : w.heap[g]? = some (.cells #[.int .i64 (wHi p), .int .u64 (wLo p), .int .i64 (wHi q), .int .u64 (wLo q), .int .i64 (wHi r), .int .u64 (wLo r), .int .i64 (wHi t), .int .u64 (wLo t)] 58 (0, 0))) :
    Calls Try.prog 35 #[.slice (some ⟨g, 0, none⟩) 4 4] w fun e w' => e = .returned (.agg #[.int .i64 s.1, .int .i64 s.2]) ∧ Below w.heap.size w w' :=
  span_gen g [p, q, r, t] _ p (by simp) (by simp) rfl (fun z hz => by
    simp only [List.mem_cons, List.not_mem_nil, or_false] at hz
    rcases hz with rfl | rfl | rfl | rfl <;> assumption) hp w w rfl hg (wd_four hg) s hs
theorem sums_span (p q : Int) (h : p ≤ q) : sumsV p q = spanV p [p, q] := by
  have e1 : mnF p [p, q] 2 = p := by
    show mnS (mnS p p) q = p
    unfold mnS
    split <;> split <;> omega
  have e2 : mxF p [p, q] 2 = q := by
    show mxS (mxS p p) q = q
    unfold mxS
    split <;> split <;> omega
  unfold sumsV spanV
  show _ = if I64 (mnF p [p, q] 2) ∧ I64 (mxF p [p, q] 2) then (mnF p [p, q] 2, mxF p [p, q] 2) else rFull
  rw [e1, e2]
theorem min4 (p q r s : Int) : mnF p [p, q, r, s] 4 = min (min p q) (min r s) ∧ mxF p [p, q, r, s] 4 = max (max p q) (max r s) := by
  constructor
  · show mnS (mnS (mnS (mnS p p) q) r) s = _
    unfold mnS
    split <;> split <;> split <;> split <;> omega
  · show mxS (mxS (mxS (mxS p p) q) r) s = _
    unfold mxS
    split <;> split <;> split <;> split <;> omega
theorem prod_span (a b c d : Int) : prodV (a, b) (c, d) = spanV (a * c) [a * c, a * d, b * c, b * d] := by
  have e := min4 (a * c) (a * d) (b * c) (b * d)
  unfold prodV spanV
  show _ = if I64 (mnF (a * c) [a * c, a * d, b * c, b * d] 4) ∧ I64 (mxF (a * c) [a * c, a * d, b * c, b * d] 4) then (mnF (a * c) [a * c, a * d, b * c, b * d] 4, mxF (a * c) [a * c, a * d, b * c, b * d] 4) else rFull
  rw [e.1, e.2]
  rfl
theorem shl_span (a b p : Int) (h : a ≤ b) (hp : 0 < p) : prodV (a, b) (p, p) = spanV (a * p) [a * p, b * p] := by
  have h1 : a * p ≤ b * p := Int.mul_le_mul_of_nonneg_right h (by omega)
  rw [← sums_span _ _ h1]
  unfold prodV sumsV lo4 hi4
  simp only [Int.min_self, Int.max_self]
  rw [Int.min_eq_left h1, Int.max_eq_right h1]
theorem run_slW2 (a b c d : Int) (w : World) : (Instr.buildSlice 61 2 #[(0, .agg #[.int .i64 a, .int .u64 b]), (1, .agg #[.int .i64 c, .int .u64 d])]).run Try.prog w = .ok (.slice (some ⟨w.heap.size, 0, none⟩) 2 2) (w.alloc (.cells #[.int .i64 a, .int .u64 b, .int .i64 c, .int .u64 d] 58)) := by kernel_rfl
theorem run_slW4 (a b c d a' b' c' d' : Int) (w : World) : (Instr.buildSlice 61 4 #[(0, .agg #[.int .i64 a, .int .u64 b]), (1, .agg #[.int .i64 c, .int .u64 d]), (2, .agg #[.int .i64 a', .int .u64 b']), (3, .agg #[.int .i64 c', .int .u64 d'])]).run Try.prog w = .ok (.slice (some ⟨w.heap.size, 0, none⟩) 4 4) (w.alloc (.cells #[.int .i64 a, .int .u64 b, .int .i64 c, .int .u64 d, .int .i64 a', .int .u64 b', .int .i64 c', .int .u64 d'] 58)) := by kernel_rfl
section
variable {ops : Array Oper} {rest : List Oper} {Q : Exit → Act → World → Prop} {tmps : Array Value} {df : List Deferred} {d ty t u : Nat} {ps : String} {af : Array Edge} {gd : Option (Nat × Bool)} {w : World}
theorem wd_slice2 {x y : Operand} (h : Region.wanted ⟨some d, .buildSlice 61 2 #[(0, x), (1, y)], ty, ps, af, gd⟩ (yielded ops tmps) = true ∧ ∃ a b c e, Act.eval ⟨tmps, df⟩ x = .agg #[.int .i64 a, .int .u64 b] ∧ Act.eval ⟨tmps, df⟩ y = .agg #[.int .i64 c, .int .u64 e] ∧
      wpList Try.prog ops Q rest (Act.put ⟨tmps, df⟩ (some d) (.slice (some ⟨w.heap.size, 0, none⟩) 2 2)) (w.alloc (.cells #[.int .i64 a, .int .u64 b, .int .i64 c, .int .u64 e] 58))) :
    wpList Try.prog ops Q (⟨some d, .buildSlice 61 2 #[(0, x), (1, y)], ty, ps, af, gd⟩ :: rest) ⟨tmps, df⟩ w := by
  obtain ⟨hw, a, b, c, e, hx, hy, h⟩ := h
  refine wpl_run hw ?_ h
  have e : (#[(0, x), (1, y)] : Array (Nat × Operand)).map (fun y => (y.1, Act.eval ⟨tmps, df⟩ y.2)) = #[(0, .agg #[.int .i64 a, .int .u64 b]), (1, .agg #[.int .i64 c, .int .u64 e])] := by simp [hx, hy]
  simp only [execOp]
  rw [e]
  simp only [Sem.run_bind, run_slW2, Result.andThen_ok]
  rfl
theorem wd_slice4 {x y z v : Operand} (h : Region.wanted ⟨some d, .buildSlice 61 4 #[(0, x), (1, y), (2, z), (3, v)], ty, ps, af, gd⟩ (yielded ops tmps) = true ∧ ∃ a b c e a' b' c' e', Act.eval ⟨tmps, df⟩ x = .agg #[.int .i64 a, .int .u64 b] ∧ Act.eval ⟨tmps, df⟩ y = .agg #[.int .i64 c, .int .u64 e] ∧
      Act.eval ⟨tmps, df⟩ z = .agg #[.int .i64 a', .int .u64 b'] ∧ Act.eval ⟨tmps, df⟩ v = .agg #[.int .i64 c', .int .u64 e'] ∧
      wpList Try.prog ops Q rest (Act.put ⟨tmps, df⟩ (some d) (.slice (some ⟨w.heap.size, 0, none⟩) 4 4)) (w.alloc (.cells #[.int .i64 a, .int .u64 b, .int .i64 c, .int .u64 e, .int .i64 a', .int .u64 b', .int .i64 c', .int .u64 e'] 58))) :
    wpList Try.prog ops Q (⟨some d, .buildSlice 61 4 #[(0, x), (1, y), (2, z), (3, v)], ty, ps, af, gd⟩ :: rest) ⟨tmps, df⟩ w := by
  obtain ⟨hw, a, b, c, e, a', b', c', e', hx, hy, hz, hv, h⟩ := h
  refine wpl_run hw ?_ h
  have e : (#[(0, x), (1, y), (2, z), (3, v)] : Array (Nat × Operand)).map (fun y => (y.1, Act.eval ⟨tmps, df⟩ y.2)) = #[(0, .agg #[.int .i64 a, .int .u64 b]), (1, .agg #[.int .i64 c, .int .u64 e]), (2, .agg #[.int .i64 a', .int .u64 b']), (3, .agg #[.int .i64 c', .int .u64 e'])] := by simp [hx, hy, hz, hv]
  simp only [execOp]
  rw [e]
  simp only [Sem.run_bind, run_slW4, Result.andThen_ok]
  rfl
end
end Go.Proofs.Ytoogkjkbdicffaa
