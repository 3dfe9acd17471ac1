/- == of inodes. -/
import Derived.Test.YtmnofoflbhdgjaaIntC
import Derived.ChangeKeysEq
import Derived.WalkKit
namespace Go.Proofs.Ytmnofoflbhdgjaa
open Go.RowKit
set_option linter.unusedSimpArgs false
set_option linter.unusedVariables false

theorem run_eq4 (a b c d a' b' c' d' : Int) (w : World) : (Op.equalIn 9999 40 (.agg #[.int .i64 a, .int .i64 b, .int .i64 c, .int .i64 d]) (.agg #[.int .i64 a', .int .i64 b', .int .i64 c', .int .i64 d'])).run Try.prog w = .ok (a == a' && (b == b' && (c == c' && d == d'))) w := by
  obtain ⟨i, hi, h2⟩ := Option.map_eq_some_iff.1 Try.infoI
  have hc : Try.prog.cellsOf 3 = 1 := by kernel_rfl
  have hagg : ∀ w, (isAgg 3).run Try.prog w = .ok false w := fun w => by
    unfold isAgg
    rw [Sem.run_bind, run_underlying Try.underlying3 w]
    rfl
  have he : ∀ (x y : Int), (Op.equalIn 9998 3 (.int .i64 x) (.int .i64 y)).run Try.prog w = .ok (x == y) w := fun x y => run_equalIn_int (P := Try.prog) w 9997 3 .i64 .i64 x y Try.underlying3
  rw [run_equalIn_array w 9998 _ _ Try.underlying40 hi, hc]
  have hr : List.range 4 = [0, 1, 2, 3] := rfl
  rw [hr]
  simp only [Op.eqItems, Sem.run_bind, part, hagg, Result.andThen_ok, Nat.mul_one, Bool.false_eq_true, if_false, List.getElem?_toArray, List.getElem?_cons_zero, List.getElem?_cons_succ, he, Sem.run_pure]
  by_cases k1 : a = a' <;> by_cases k2 : b = b' <;> by_cases k3 : c = c' <;> by_cases k4 : d = d' <;> simp [he, k1, k2, k3, k4]

theorem nc11 (f : Nat → Int) : nc 11 f = #[.int .i64 (f 0), .int .i64 (f 1), .int .i64 (f 2), .int .i64 (f 3), .int .i64 (f 4), .int .i64 (f 5), .int .i64 (f 6), .int .i64 (f 7), .int .i64 (f 8), .int .i64 (f 9), .int .i64 (f 10)] := by kernel_rfl

def ieq (f g : Nat → Int) : Bool := (List.range 11).all fun i => f i == g i
theorem ieq_refl (f : Nat → Int) : ieq f f = true := by simp [ieq]
end Go.Proofs.Ytmnofoflbhdgjaa
