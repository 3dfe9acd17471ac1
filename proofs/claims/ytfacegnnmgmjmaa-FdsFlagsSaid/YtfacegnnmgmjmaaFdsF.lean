/- Chapter 28: fds.Right and the reference's, and the law FdsFlags, walked. -/
import Derived.Test.YtfacegnnmgmjmaaFdsE
namespace Go.Proofs.Ytfacegnnmgmjmaa
open Go.RowKit
set_option linter.unusedSimpArgs false
set_option linter.unusedVariables false


theorem andNot63 (f : Int) (h1 : -9223372036854775808 ≤ f) (h2 : f ≤ 9223372036854775807) (h : bits .andNot .i64 f 63 = 0) : 0 ≤ f ∧ f ≤ 63 := by
  have h' : IntKind.i64.wrap ((BitVec.ofInt 64 f &&& ~~~ BitVec.ofInt 64 63).toNat : Nat) = 0 := h
  have hz : (BitVec.ofInt 64 f &&& ~~~ BitVec.ofInt 64 63) = 0#64 := by
    generalize (BitVec.ofInt 64 f &&& ~~~ BitVec.ofInt 64 63) = x at h'
    have hx := x.isLt
    apply BitVec.eq_of_toNat_eq
    rw [IntKind.wrap_i64] at h'
    simp
    omega
  have hlt : (BitVec.ofInt 64 f).toNat < 2 ^ 6 := by
    apply Nat.lt_pow_two_of_testBit
    intro i hi
    by_cases h64 : i < 64
    · have hb := congrArg (fun x : BitVec 64 => x.getLsbD i) hz
      simp only [BitVec.getLsbD_and, BitVec.getLsbD_not, h64, decide_true, Bool.true_and] at hb
      have h63 : (BitVec.ofInt 64 63).getLsbD i = false := by
        rw [BitVec.getLsbD, BitVec.toNat_ofInt]
        apply Nat.testBit_lt_two_pow
        show 63 < 2 ^ i
        calc 63 < 2 ^ 6 := by decide
          _ ≤ 2 ^ i := Nat.pow_le_pow_right (by decide) hi
      rw [h63] at hb
      simpa [BitVec.getLsbD] using hb
    · apply Nat.testBit_lt_two_pow
      have := (BitVec.ofInt 64 f).isLt
      exact Nat.lt_of_lt_of_le this (Nat.pow_le_pow_right (by decide) (by omega))
  rw [BitVec.toNat_ofInt] at hlt
  omega
theorem flags_fin : ∀ n : Fin 64, bits .andNot .i64 (n.val : Int) 63 = 0 ∧ bits .and .i64 (n.val : Int) 3 = (n.val : Int) % 4 ∧ bits .and .i64 (n.val : Int) 16 = (n.val : Int) / 16 % 2 * 16 ∧ bits .and .i64 (n.val : Int) 2 = (n.val : Int) / 2 % 2 * 2 := by decide +kernel

/-- Flags may be. -/
def flagsB (f : Int) : Bool := decide (0 ≤ f ∧ f ≤ 63) && (f % 4 != 0) && (f / 16 % 2 == 0 || f / 2 % 2 == 1)

set_option maxHeartbeats 1000000 in
set_option maxRecDepth 100000 in
theorem fright_is (f : Int) (h1 : -9223372036854775808 ≤ f) (h2 : f ≤ 9223372036854775807) (w : World) :
    Calls Try.prog 14 #[.int .i64 f] w fun e w' => e = .returned (.bool (flagsB f)) ∧ w' = w := by
  by_cases hr : 0 ≤ f ∧ f ≤ 63
  · obtain ⟨n, rfl⟩ := Int.eq_ofNat_of_zero_le hr.1
    have hn : n < 64 := by omega
    obtain ⟨a1, a2, a3, a4⟩ := flags_fin ⟨n, hn⟩
    simp only at a1 a2 a3 a4
    have hfb : flagsB (n : Int) = (((n : Int) % 4 != 0) && ((n : Int) / 16 % 2 == 0 || (n : Int) / 2 % 2 == 1)) := by
      unfold flagsB; rw [decide_eq_true hr, Bool.true_and]
    have e1 : (bits .andNot .i64 (n : Int) 63 == 0) = true := by rw [a1]; rfl
    have e2 : (bits .and .i64 (n : Int) 3 != 0) = ((n : Int) % 4 != 0) := by rw [a2]
    have e3 : (bits .and .i64 (n : Int) 16 == 0) = ((n : Int) / 16 % 2 == 0) := by
      rw [a3, Bool.eq_iff_iff, beq_iff_eq, beq_iff_eq]; omega
    have e4 : (bits .and .i64 (n : Int) 2 != 0) = ((n : Int) / 2 % 2 == 1) := by
      rw [a4, Bool.eq_iff_iff, bne_iff_ne, beq_iff_eq]; omega
    rw [hfb]
    clear hfb a1 a2 a3 a4 hr h1 h2
    generalize ((n : Int) % 4 != 0) = B1 at e2 ⊢
    generalize ((n : Int) / 16 % 2 == 0) = B2 at e3 ⊢
    generalize ((n : Int) / 2 % 2 == 1) = B3 at e4 ⊢
    cases B1
    · go_enter Try.func14, Try.ntmps14
      go_wp2
      go_ret
      exact ⟨rfl, rfl⟩
    cases B2
    · go_enter Try.func14, Try.ntmps14
      go_wp2
      go_ret
      exact ⟨rfl, rfl⟩
    · go_enter Try.func14, Try.ntmps14
      go_wp2
      go_ret
      exact ⟨rfl, rfl⟩
  · have e1 : (bits .andNot .i64 f 63 == 0) = false := by
      rw [beq_eq_false_iff_ne]
      exact fun h => hr (andNot63 f h1 h2 h)
    have hfb : flagsB f = false := by unfold flagsB; rw [decide_eq_false hr]; rfl
    rw [hfb]
    clear hfb hr h1 h2
    go_enter Try.func14, Try.ntmps14
    go_wp2
    go_ret
    exact ⟨rfl, rfl⟩

set_option maxHeartbeats 1000000 in
set_option maxRecDepth 100000 in
theorem rright_is (f : Int) (w : World) :
    Calls Try.prog 15 #[.int .i64 f] w fun e w' => e = .returned (.bool (flagsB f)) ∧ w' = w := by
  by_cases c1 : f < 0
  · have e1 : decide (f < 0) = true := decide_eq_true c1
    have hfb : flagsB f = false := by unfold flagsB; rw [decide_eq_false (by omega)]; rfl
    rw [hfb]
    go_enter Try.func15, Try.ntmps15
    go_wp2
    go_ret
    exact ⟨rfl, rfl⟩
  have e1 : decide (f < 0) = false := decide_eq_false c1
  by_cases c2 : 63 < f
  · have e2 : decide (f > 63) = true := decide_eq_true c2
    have hfb : flagsB f = false := by unfold flagsB; rw [decide_eq_false (by omega)]; rfl
    rw [hfb]
    go_enter Try.func15, Try.ntmps15
    go_wp2
    go_ret
    exact ⟨rfl, rfl⟩
  have e2 : decide (f > 63) = false := decide_eq_false c2
  have hfb : flagsB f = ((f % 4 != 0) && (f / 16 % 2 == 0 || f / 2 % 2 == 1)) := by
    unfold flagsB; rw [decide_eq_true (by omega), Bool.true_and]
  have e3 : (f.tmod 4 == 0) = !(f % 4 != 0) := by rw [Int.tmod_eq_emod_of_nonneg (by omega)]; simp [bne]
  have e4 : ((f.tdiv 16).tmod 2 == 0) = (f / 16 % 2 == 0) := by rw [Int.tdiv_eq_ediv_of_nonneg (by omega), Int.tmod_eq_emod_of_nonneg (by omega)]
  have e5 : ((f.tdiv 2).tmod 2 == 1) = (f / 2 % 2 == 1) := by rw [Int.tdiv_eq_ediv_of_nonneg (by omega), Int.tmod_eq_emod_of_nonneg (by omega)]
  have hw1 : wrap64 (f.tdiv 16) = f.tdiv 16 := by rw [Int.tdiv_eq_ediv_of_nonneg (by omega)]; unfold wrap64; omega
  have hw2 : wrap64 (f.tdiv 2) = f.tdiv 2 := by rw [Int.tdiv_eq_ediv_of_nonneg (by omega)]; unfold wrap64; omega
  rw [hfb]
  clear hfb
  generalize (f % 4 != 0) = B1 at e3 ⊢
  generalize (f / 16 % 2 == 0) = B2 at e4 ⊢
  generalize (f / 2 % 2 == 1) = B3 at e5 ⊢
  clear c1 c2
  cases B1
  · go_enter Try.func15, Try.ntmps15
    go_wp2
    go_ret
    exact ⟨rfl, rfl⟩
  cases B2
  · go_enter Try.func15, Try.ntmps15
    go_wp2
    go_ret
    exact ⟨by simp, rfl⟩
  · go_enter Try.func15, Try.ntmps15
    go_wp2
    go_ret
    exact ⟨rfl, rfl⟩

set_option maxHeartbeats 1000000 in
set_option maxRecDepth 100000 in
theorem walk_FdsFlags (f : Int) (w : World) (h1 : -9223372036854775808 ≤ f) (h2 : f ≤ 9223372036854775807) :
    Calls Try.prog 4 #[.int .i64 f] w fun e w' => e = .returned (.bool true) ∧ Below w.heap.size w w' := by
  have hF := fun w => fright_is f h1 h2 w
  have hR := fun w => rright_is f w
  generalize flagsB f = B at hF hR
  go_enter Try.func4, Try.ntmps4
  go_wp2_with (first
    | (go_at_call 8; refine (awake28 _).mono ?_; rintro e w1 ⟨rfl, hb1⟩)
    | (go_at_call 14; refine (hF _).mono ?_; rintro e w2 ⟨rfl, rfl⟩)
    | (go_at_call 15; refine (hR _).mono ?_; rintro e w3 ⟨rfl, rfl⟩))
  go_ret
  exact ⟨by simp, hb1⟩
end Go.Proofs.Ytfacegnnmgmjmaa
