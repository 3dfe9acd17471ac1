/- Chapter 21, the reference's Split: it is what the program's Split is. -/
import Derived.Test.YtoogkjkbdicffaaSplD
namespace Go.Proofs.Ytoogkjkbdicffaa
open Go.RowKit
set_option linter.unusedSimpArgs false
set_option linter.unusedVariables false

theorem or_dec (op x y : Int) : ((op == x) || (op == y)) = decide (op = x ∨ op = y) := by
  by_cases h1 : op = x <;> by_cases h2 : op = y <;> simp [h1, h2]
theorem less_T (a b c d : Int) (h : a < d) (ha : I64 a) (hd : I64 d) : bothV (lessV (a, b) (c, d)) = bothV (meetV (a, b) (-9223372036854775808, wrap64 (d - 1)), meetV (c, d) (wrap64 (a + 1), 9223372036854775807)) := by
  unfold I64 at *
  unfold lessV
  rw [if_neg (by simp only; omega), wrap_id (by unfold I64; omega), wrap_id (by unfold I64; omega)]
theorem less_F (a b c d : Int) (h : ¬ a < d) : bothV (lessV (a, b) (c, d)) = ((1, 0), (1, 0)) := by
  unfold lessV
  by_cases h0 : d = -9223372036854775808 ∨ a = 9223372036854775807
  · rw [if_pos (by exact h0)]
    unfold bothV rNone
    rw [if_pos (by decide)]
  · rw [if_neg (by exact h0)]
    unfold bothV meetV rNone
    rw [if_pos (by simp only; omega)]
theorem split_parts (op a b c d : Int) (hn : ¬ (b < a ∨ d < c)) : splitV op (a, b) (c, d) =
    ((if ((op == 33) || (op == 37)) then bothV (meetV (a, b) (c, d), meetV (a, b) (c, d)) else if ((op == 34) || (op == 38)) then bothV (unlikeV (a, b) (c, d)) else if ((op == 35) || (op == 39)) then bothV (lessV (a, b) (c, d)) else if ((op == 36) || (op == 40)) then bothV (leastV (a, b) (c, d)) else ((a, b), (c, d))),
     (if ((op == 33) || (op == 37)) then bothV (unlikeV (a, b) (c, d)) else if ((op == 34) || (op == 38)) then bothV (meetV (a, b) (c, d), meetV (a, b) (c, d)) else if ((op == 35) || (op == 39)) then bothV (leastV (a, b) (c, d)) else if ((op == 36) || (op == 40)) then bothV (lessV (a, b) (c, d)) else ((a, b), (c, d)))) := by
  unfold splitV
  rw [if_neg (show ¬ ((a, b).1 > (a, b).2 ∨ (c, d).1 > (c, d).2) from hn)]
  simp only [or_dec, decide_eq_true_eq]
  by_cases c1 : op = 33 ∨ op = 37
  · rw [if_pos c1, if_pos c1, if_pos c1]
  rw [if_neg c1, if_neg c1, if_neg c1]
  by_cases c2 : op = 34 ∨ op = 38
  · rw [if_pos c2, if_pos c2, if_pos c2]
  rw [if_neg c2, if_neg c2, if_neg c2]
  by_cases c3 : op = 35 ∨ op = 39
  · rw [if_pos c3, if_pos c3, if_pos c3]
  rw [if_neg c3, if_neg c3, if_neg c3]
  by_cases c4 : op = 36 ∨ op = 40
  · rw [if_pos c4, if_pos c4, if_pos c4]
  rw [if_neg c4, if_neg c4, if_neg c4]
theorem unl_X (a b c d : Int) : (if (c == d) then (withoutV (a, b) c).1 else a) = (unlikeV (a, b) (c, d)).1.1 ∧ (if (c == d) then (withoutV (a, b) c).2 else b) = (unlikeV (a, b) (c, d)).1.2 := by
  unfold unlikeV
  by_cases h : c = d <;> simp [h]
theorem unl_Y (a b c d : Int) : (if (a == b) then (withoutV (c, d) a).1 else c) = (unlikeV (a, b) (c, d)).2.1 ∧ (if (a == b) then (withoutV (c, d) a).2 else d) = (unlikeV (a, b) (c, d)).2.2 := by
  unfold unlikeV
  by_cases h : a = b <;> simp [h]
theorem rsplit_is (op a b c d : Int) (ha : I64 a) (hb : I64 b) (hc : I64 c) (hd : I64 d) (w : World) :
    Calls Try.prog 22 #[.int .i64 op, .agg #[.int .i64 a, .int .i64 b], .agg #[.int .i64 c, .int .i64 d]] w fun e w' =>
      e = .returned (.tuple #[.agg #[.int .i64 (splitV op (a, b) (c, d)).1.1.1, .int .i64 (splitV op (a, b) (c, d)).1.1.2, .int .i64 (splitV op (a, b) (c, d)).1.2.1, .int .i64 (splitV op (a, b) (c, d)).1.2.2], .agg #[.int .i64 (splitV op (a, b) (c, d)).2.1.1, .int .i64 (splitV op (a, b) (c, d)).2.1.2, .int .i64 (splitV op (a, b) (c, d)).2.2.1, .int .i64 (splitV op (a, b) (c, d)).2.2.2]]) ∧ Below w.heap.size w w' := by
  by_cases hn : b < a ∨ d < c
  · have e : splitV op (a, b) (c, d) = ((rNone, rNone), (rNone, rNone)) := by
      unfold splitV
      rw [if_pos (show (a, b).1 > (a, b).2 ∨ (c, d).1 > (c, d).2 from hn)]
    rw [e]
    exact rsplit_none op a b c d hn w
  rw [split_parts op a b c d hn]
  by_cases hr : a < d
  · exact rsplit_T op a b c d (meetV (a, b) (c, d)) (withoutV (a, b) c) (withoutV (c, d) a) (meetV (a, b) (-9223372036854775808, wrap64 (d - 1))) (meetV (c, d) (wrap64 (a + 1), 9223372036854775807)) (meetV (a, b) (c, 9223372036854775807)) (meetV (c, d) (-9223372036854775808, b))
      (bothV (meetV (a, b) (c, d), meetV (a, b) (c, d))) (bothV (unlikeV (a, b) (c, d))) (bothV (lessV (a, b) (c, d))) (bothV (leastV (a, b) (c, d))) _ _ _ _ _ _ _ _ _ _ _ _ _ _
      (decide_eq_false (by omega)) (decide_eq_false (by omega)) rfl rfl (decide_eq_true hr) rfl rfl rfl rfl
      (fun w => rpair_none 1 0 1 0 (.inl (by decide)) w) (fun w => rmeet_is a b c d w) (fun w => rpair_is _ _ _ _ w) (fun w => rpair_both a b c d (decide_eq_false (by omega)) (decide_eq_false (by omega)) w)
      (fun w => rbut_is a b c w) (fun w => rbut_is c d a w) (fun w => rpair_is _ _ _ _ w) (fun w => rmeet_is a b _ _ w) (fun w => rmeet_is c d _ _ w) (fun w => rmeet_is a b c _ w) (fun w => rmeet_is c d _ b w) (fun w => rpair_is _ _ _ _ w)
      (unl_X a b c d) (unl_Y a b c d) rfl rfl (fun w => by rw [less_T a b c d hr ha hd]; exact rpair_is _ _ _ _ w) rfl rfl w
  · rw [less_F a b c d hr]
    exact rsplit_F op a b c d (meetV (a, b) (c, d)) (withoutV (a, b) c) (withoutV (c, d) a) (meetV (a, b) (-9223372036854775808, wrap64 (d - 1))) (meetV (c, d) (wrap64 (a + 1), 9223372036854775807)) (meetV (a, b) (c, 9223372036854775807)) (meetV (c, d) (-9223372036854775808, b))
      (bothV (meetV (a, b) (c, d), meetV (a, b) (c, d))) (bothV (unlikeV (a, b) (c, d))) (bothV (leastV (a, b) (c, d))) _ _ _ _ _ _ _ _ _ _ _ _ _ _
      (decide_eq_false (by omega)) (decide_eq_false (by omega)) rfl rfl (decide_eq_false hr) rfl rfl rfl rfl
      (fun w => rpair_none 1 0 1 0 (.inl (by decide)) w) (fun w => rmeet_is a b c d w) (fun w => rpair_is _ _ _ _ w) (fun w => rpair_both a b c d (decide_eq_false (by omega)) (decide_eq_false (by omega)) w)
      (fun w => rbut_is a b c w) (fun w => rbut_is c d a w) (fun w => rpair_is _ _ _ _ w) (fun w => rmeet_is a b _ _ w) (fun w => rmeet_is c d _ _ w) (fun w => rmeet_is a b c _ w) (fun w => rmeet_is c d _ b w) (fun w => rpair_is _ _ _ _ w)
      (unl_X a b c d) (unl_Y a b c d) rfl rfl rfl rfl w
end Go.Proofs.Ytoogkjkbdicffaa
