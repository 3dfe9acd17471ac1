/- Chapter 21, the reference: numbers of 128 bits, plain. -/
import Derived.Test.YtoogkjkbdicffaaRngL
namespace Go.Proofs.Ytoogkjkbdicffaa
open Go.RowKit
set_option linter.unusedSimpArgs false
set_option linter.unusedVariables false

/-- The high and the low half of a number. -/
def wHi (z : Int) : Int := wrap64 (z / 18446744073709551616)
def wLo (z : Int) : Int := z % 18446744073709551616
/-- Where the reference's numbers lie. -/
def I128 (z : Int) : Prop := -170141183460469231731687303715884105728 ≤ z ∧ z < 170141183460469231731687303715884105728
theorem u64w (z : Int) : IntKind.u64.wrap z = z % 18446744073709551616 := by rw [IntKind.wrap_u64]
theorem wide_neg {n : Int} (h : I64 n) (h0 : n < 0) : wHi n = -1 ∧ wLo n = IntKind.u64.wrap n := by
  unfold I64 at h
  rw [u64w]
  unfold wHi wLo wrap64
  omega
theorem wide_pos {n : Int} (h : I64 n) (h0 : 0 ≤ n) : wHi n = 0 ∧ wLo n = IntKind.u64.wrap n := by
  unfold I64 at h
  rw [u64w]
  unfold wHi wLo wrap64
  omega
theorem wrap_mod (z k : Int) : wrap64 (wrap64 z + k) = wrap64 (z + k) := by unfold wrap64; omega
theorem add_lo (a b : Int) : IntKind.u64.wrap (wLo a + wLo b) = wLo (a + b) := by
  rw [u64w]
  unfold wLo
  omega
theorem add_hi (a b : Int) : wHi (a + b) = wrap64 (wrap64 (wHi a + wHi b) + (if wLo (a + b) < wLo a then 1 else 0)) := by
  have ha : wHi a = wrap64 (a / 18446744073709551616) := rfl
  have hb : wHi b = wrap64 (b / 18446744073709551616) := rfl
  have e : wrap64 (wHi a + wHi b) = wrap64 (a / 18446744073709551616 + b / 18446744073709551616) := by
    rw [ha, hb]
    unfold wrap64
    omega
  rw [e, wrap_mod]
  unfold wHi
  refine congrArg wrap64 ?_
  unfold wLo
  split <;> omega
theorem wHi_in (a : Int) : I64 (wHi a) := wrap_in _
theorem neg_lo (a : Int) : IntKind.u64.wrap (18446744073709551615 - wLo a) = wLo (-a - 1) := by
  rw [u64w]
  unfold wLo
  omega
theorem neg_hi (a : Int) : wrap64 (wrap64 (-wHi a) - 1) = wHi (-a - 1) := by
  have e : wrap64 (wrap64 (-wHi a) - 1) = wrap64 (-wHi a - 1) := by
    have := wrap_mod (-wHi a) (-1)
    rw [Int.sub_eq_add_neg, Int.sub_eq_add_neg]
    exact this
  rw [e]
  have ha : wHi a = wrap64 (a / 18446744073709551616) := rfl
  have e2 : wrap64 (-wHi a - 1) = wrap64 (-(a / 18446744073709551616) - 1) := by
    rw [ha]
    unfold wrap64
    omega
  rw [e2]
  unfold wHi
  refine congrArg wrap64 ?_
  omega
theorem one_hi : wHi 1 = 0 ∧ wLo 1 = 1 ∧ wHi 0 = 0 ∧ wLo 0 = 0 := by unfold wHi wLo wrap64; decide
theorem hi_div {a : Int} (h : I128 a) : wHi a = a / 18446744073709551616 := by
  unfold I128 at h
  unfold wHi
  refine wrap_id ?_
  unfold I64
  omega
theorem less_wv {a b : Int} (ha : I128 a) (hb : I128 b) : (decide (wHi a < wHi b) || ((wHi a == wHi b) && decide (wLo a < wLo b))) = decide (a < b) := by
  rw [hi_div ha, hi_div hb]
  unfold wLo
  by_cases h1 : a / 18446744073709551616 < b / 18446744073709551616
  · rw [decide_eq_true h1, decide_eq_true (by omega : a < b)]
    rfl
  · rw [decide_eq_false h1]
    by_cases h2 : a / 18446744073709551616 = b / 18446744073709551616
    · rw [show ((a / 18446744073709551616 == b / 18446744073709551616) = true) from beq_iff_eq.2 h2]
      simp only [Bool.false_or, Bool.true_and]
      congr 1
      apply propext
      omega
    · rw [show ((a / 18446744073709551616 == b / 18446744073709551616) = false) from beq_eq_false_iff_ne.2 h2, decide_eq_false (by omega : ¬ a < b)]
      rfl
theorem fits_wv {a : Int} (ha : I128 a) : (((wHi a == 0) && decide (wLo a < 9223372036854775808)) || ((wHi a == -1) && decide (9223372036854775808 ≤ wLo a))) = decide (I64 a) := by
  rw [hi_div ha]
  unfold wLo I64
  by_cases h1 : a / 18446744073709551616 = 0
  · rw [show ((a / 18446744073709551616 == 0) = true) from beq_iff_eq.2 h1, show ((a / 18446744073709551616 == -1) = false) from beq_eq_false_iff_ne.2 (by omega)]
    simp only [Bool.true_and, Bool.false_and, Bool.or_false]
    congr 1
    apply propext
    omega
  · rw [show ((a / 18446744073709551616 == 0) = false) from beq_eq_false_iff_ne.2 h1]
    by_cases h2 : a / 18446744073709551616 = -1
    · rw [show ((a / 18446744073709551616 == -1) = true) from beq_iff_eq.2 h2]
      simp only [Bool.true_and, Bool.false_and, Bool.false_or]
      congr 1
      apply propext
      omega
    · rw [show ((a / 18446744073709551616 == -1) = false) from beq_eq_false_iff_ne.2 h2, decide_eq_false (p := -9223372036854775808 ≤ a ∧ a ≤ 9223372036854775807) (by omega)]
      rfl
theorem fits_back {a : Int} (h : I64 a) : wrap64 (wLo a) = a := by
  unfold I64 at h
  unfold wLo wrap64
  omega
theorem prod128 {a b : Int} (ha : I64 a) (hb : I64 b) : I128 (a * b) := by
  have h1 : (a * b).natAbs ≤ 9223372036854775808 * 9223372036854775808 := by
    rw [Int.natAbs_mul]
    unfold I64 at ha hb
    exact Nat.mul_le_mul (by omega) (by omega)
  unfold I128
  omega
theorem sum128 {a b : Int} (ha : I64 a) (hb : I64 b) : I128 (a + b) := by unfold I64 at ha hb; unfold I128; omega
theorem diff128 {a b : Int} (ha : I64 a) (hb : I64 b) : I128 (a + -b) := by unfold I64 at ha hb; unfold I128; omega
end Go.Proofs.Ytoogkjkbdicffaa
