/- The walks of span.Pages, span.Index, and of the reference's Where and Pages. -/
import Derived.Test.YtmnofoflbhdgjaaSpanA
namespace Go.Proofs.Ytmnofoflbhdgjaa
open Go.RowKit
set_option linter.unusedSimpArgs false
set_option linter.unusedVariables false

def pgsOf (n : Int) : Int := if n ≤ 0 then 0 else (n - 1) / 64 + 1

set_option maxRecDepth 100000 in
theorem pages_any (n : Int) (w : World) (hn : n ≤ 9223372036854775807) :
    Calls Try.prog 18 #[.int .i64 n] w fun e w' => e = .returned (.int .i64 (pgsOf n)) ∧ Below w.heap.size w w' := by
  by_cases c0 : n ≤ 0
  · rw [show pgsOf n = 0 from if_pos c0]
    go_enter Try.func18, Try.ntmps18
    go_wp2
    go_ret
    exact ⟨rfl, Below.refl _ _⟩
  · have e1 : wrap64 (n - 1) = n - 1 := by unfold wrap64; omega
    have e2 : (n - 1).tdiv 64 = (n - 1) / 64 := Int.tdiv_eq_ediv_of_nonneg (by omega)
    have e3 : wrap64 ((n - 1) / 64) = (n - 1) / 64 := by unfold wrap64; omega
    have e4 : wrap64 ((n - 1) / 64 + 1) = (n - 1) / 64 + 1 := by unfold wrap64; omega
    rw [show pgsOf n = (n - 1) / 64 + 1 from if_neg c0]
    go_enter Try.func18, Try.ntmps18
    go_wp2
    go_ret
    exact ⟨by simp [e1, e2, e3, e4], Below.refl _ _⟩

set_option maxRecDepth 100000 in
theorem rpages_any (n : Int) (w : World) (hn : n ≤ 9223372036854775807) :
    Calls Try.prog 19 #[.int .i64 n] w fun e w' => e = .returned (.int .i64 (pgsOf n)) ∧ Below w.heap.size w w' := by
  by_cases c0 : n ≤ 0
  · rw [show pgsOf n = 0 from if_pos c0]
    go_enter Try.func19, Try.ntmps19
    go_wp2
    go_ret
    exact ⟨rfl, Below.refl _ _⟩
  · have e2 : n.tdiv 64 = n / 64 := Int.tdiv_eq_ediv_of_nonneg (by omega)
    have e3 : wrap64 (n / 64) = n / 64 := by unfold wrap64; omega
    have e4 : wrap64 (n / 64 * 64) = n / 64 * 64 := by unfold wrap64; omega
    have e5 : wrap64 (n / 64 + 1) = n / 64 + 1 := by unfold wrap64; omega
    by_cases c1 : n / 64 * 64 < n
    · rw [show pgsOf n = n / 64 + 1 from by unfold pgsOf; rw [if_neg c0]; omega]
      go_enter Try.func19, Try.ntmps19
      go_wp2
      go_ret
      exact ⟨by simp [e2, e3, e4, e5], Below.refl _ _⟩
    · rw [show pgsOf n = n / 64 from by unfold pgsOf; rw [if_neg c0]; omega]
      go_enter Try.func19, Try.ntmps19
      go_wp2
      go_ret
      exact ⟨by simp [e2, e3, e4, e5], Below.refl _ _⟩

def inB (n hi : Int) : Bool := decide (0 ≤ n) && decide (n < hi)
set_option maxRecDepth 100000 in
theorem in_any (n hi : Int) (w : World) :
    Calls Try.prog 47 #[.int .i64 n, .int .i64 hi] w fun e w' => e = .returned (.bool (inB n hi)) ∧ Below w.heap.size w w' := by
  by_cases c0 : 0 ≤ n
  · by_cases c1 : n < hi
    · rw [show inB n hi = true from by simp [inB, c0, c1]]
      go_enter Try.func47, Try.ntmps47
      go_wp2
      go_ret
      exact ⟨by simp [c0, c1], Below.refl _ _⟩
    · rw [show inB n hi = false from by simp [inB, c1]]
      go_enter Try.func47, Try.ntmps47
      go_wp2
      go_ret
      exact ⟨by simp [c0, c1], Below.refl _ _⟩
  · rw [show inB n hi = false from by simp [inB, c0]]
    go_enter Try.func47, Try.ntmps47
    go_wp2
    go_ret
    exact ⟨by simp [c0], Below.refl _ _⟩
end Go.Proofs.Ytmnofoflbhdgjaa
