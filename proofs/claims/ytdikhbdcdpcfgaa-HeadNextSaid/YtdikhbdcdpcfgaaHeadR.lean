/- The walk of the reference's Right. -/
import Derived.Test.YtdikhbdcdpcfgaaHeadA
namespace Go.Proofs.Ytdikhbdcdpcfgaa
open Go.RowKit
set_option linter.unusedSimpArgs false

set_option maxRecDepth 100000 in
set_option maxHeartbeats 1600000 in
theorem rRight_any (q : Int) (l : Bool) (c s : Int) (w : World) :
    Calls Try.prog 32 #[.agg (hdc q l c s)] w fun e w' => e = .returned (.bool (hRight q l c s)) ∧ Below w.heap.size w w' := by
  unfold hdc
  cases l with
  | true =>
    by_cases d0 : 0 ≤ q
    · by_cases d1 : q < 4294967296
      · by_cases d2 : 0 < c
        · by_cases d3 : c ≤ 512
          · have e : hRight q true c s = true := by simp [hRight]; omega
            rw [e]
            go_enter Try.func32, Try.ntmps32
            go_wp2
            go_ret
            exact ⟨by simp [*], (Below.refl _ _).alloc (Nat.le_refl _) _⟩
          · have e : hRight q true c s = false := by simp [hRight]; omega
            rw [e]
            go_enter Try.func32, Try.ntmps32
            go_wp2
            go_ret
            exact ⟨by simp [*], (Below.refl _ _).alloc (Nat.le_refl _) _⟩
        · have e : hRight q true c s = false := by simp [hRight]; omega
          rw [e]
          go_enter Try.func32, Try.ntmps32
          go_wp2
          go_ret
          exact ⟨by simp [*], (Below.refl _ _).alloc (Nat.le_refl _) _⟩
      · have e : hRight q true c s = false := by simp [hRight]; omega
        rw [e]
        go_enter Try.func32, Try.ntmps32
        go_wp2
        go_ret
        exact ⟨by simp [*], (Below.refl _ _).alloc (Nat.le_refl _) _⟩
    · have e : hRight q true c s = false := by simp [hRight]; omega
      rw [e]
      go_enter Try.func32, Try.ntmps32
      go_wp2
      go_ret
      exact ⟨by simp [*], (Below.refl _ _).alloc (Nat.le_refl _) _⟩
  | false =>
    by_cases d0 : 0 ≤ q
    · by_cases d1 : q < 4294967296
      · by_cases d2 : c = 0
        · by_cases d3 : s = 0
          · have e : hRight q false c s = true := by simp [hRight]; omega
            rw [e]
            go_enter Try.func32, Try.ntmps32
            go_wp2
            go_ret
            exact ⟨by simp [*], (Below.refl _ _).alloc (Nat.le_refl _) _⟩
          · have e : hRight q false c s = false := by simp [hRight]; omega
            rw [e]
            go_enter Try.func32, Try.ntmps32
            go_wp2
            go_ret
            exact ⟨by simp [*], (Below.refl _ _).alloc (Nat.le_refl _) _⟩
        · have e : hRight q false c s = false := by simp [hRight]; omega
          rw [e]
          go_enter Try.func32, Try.ntmps32
          go_wp2
          go_ret
          exact ⟨by simp [*], (Below.refl _ _).alloc (Nat.le_refl _) _⟩
      · have e : hRight q false c s = false := by simp [hRight]; omega
        rw [e]
        go_enter Try.func32, Try.ntmps32
        go_wp2
        go_ret
        exact ⟨by simp [*], (Below.refl _ _).alloc (Nat.le_refl _) _⟩
    · have e : hRight q false c s = false := by simp [hRight]; omega
      rw [e]
      go_enter Try.func32, Try.ntmps32
      go_wp2
      go_ret
      exact ⟨by simp [*], (Below.refl _ _).alloc (Nat.le_refl _) _⟩
end Go.Proofs.Ytdikhbdcdpcfgaa
