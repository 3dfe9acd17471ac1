/- Chapter 21: mul, walked. -/
import Derived.Test.YtoogkjkbdicffaaRngA
namespace Go.Proofs.Ytoogkjkbdicffaa
open Go.RowKit
set_option linter.unusedSimpArgs false
set_option linter.unusedVariables false

theorem tmod_bd (c b : Int) (hb : b ≠ 0) : -(b.natAbs : Int) < c.tmod b ∧ c.tmod b < (b.natAbs : Int) := by
  have h := Int.natAbs_tmod c b
  have h2 : c.natAbs % b.natAbs < b.natAbs := Nat.mod_lt _ (Int.natAbs_pos.2 hb)
  omega
/-- A quotient that gives back a factor tells that the product was no more than an int. -/
theorem mul_back (a b : Int) (h1 : b ≠ 0) (ha : I64 a) (hb : I64 b) (hq : wrap64 ((wrap64 (a * b)).tdiv b) = a) (hs1 : ¬ (a = -9223372036854775808 ∧ b = -1)) : I64 (a * b) := by
  have hc := wrap_in (a * b)
  have hw : ∃ k : Int, wrap64 (a * b) = a * b + k * 18446744073709551616 := by
    generalize a * b = p
    exact ⟨-((p + 9223372036854775808) / 18446744073709551616), by unfold wrap64; omega⟩
  obtain ⟨k, hk⟩ := hw
  generalize hcv : wrap64 (a * b) = c at *
  have hdm := Int.mul_tdiv_add_tmod c b
  have hbd := tmod_bd c b h1
  have hnd : (c.tdiv b).natAbs = c.natAbs / b.natAbs := Int.natAbs_tdiv c b
  have hqi : I64 (c.tdiv b) ∨ (c = -9223372036854775808 ∧ b = -1) := by
    by_cases hb1 : b = -1
    · subst hb1
      by_cases hcm : c = -9223372036854775808
      · exact .inr ⟨hcm, rfl⟩
      · left
        have e : (Int.natAbs (-1)) = 1 := rfl
        rw [e, Nat.div_one] at hnd
        unfold I64 at *
        omega
    · left
      by_cases hb2 : b = 1
      · subst hb2
        rw [Int.tdiv_one]
        exact hc
      · have h2 : 2 ≤ b.natAbs := by omega
        have h3 : c.natAbs / b.natAbs ≤ c.natAbs / 2 := Nat.div_le_div_left h2 (by decide)
        unfold I64 at *
        omega
  rcases hqi with hqi | ⟨hcm, hbm⟩
  · rw [wrap_id hqi] at hq
    rw [hq, Int.mul_comm b a] at hdm
    generalize a * b = p at *
    unfold I64 at *
    have : k = 0 := by omega
    subst this
    omega
  · subst hbm hcm
    exfalso
    have e : (-9223372036854775808 : Int).tdiv (-1) = 9223372036854775808 := by decide
    rw [e] at hq
    have e2 : wrap64 9223372036854775808 = -9223372036854775808 := by unfold wrap64; omega
    rw [e2] at hq
    exact hs1 ⟨hq.symm, rfl⟩
theorem mul_ok (a b : Int) (h0 : a ≠ 0) (h1 : b ≠ 0) (ha : I64 a) (hb : I64 b) :
    ((wrap64 ((wrap64 (a * b)).tdiv b) == a) && !((a == -1) && (b == -9223372036854775808)) && !((b == -1) && (a == -9223372036854775808))) = decide (I64 (a * b)) := by
  by_cases hf : I64 (a * b)
  · rw [decide_eq_true hf, wrap_id hf, Int.mul_tdiv_cancel _ h1, wrap_id ha]
    have e1 : ((a == -1) && (b == -9223372036854775808)) = false := by
      by_cases h : a = -1 ∧ b = -9223372036854775808
      · obtain ⟨rfl, rfl⟩ := h
        exfalso
        unfold I64 at hf
        omega
      · simpa using h
    have e2 : ((b == -1) && (a == -9223372036854775808)) = false := by
      by_cases h : b = -1 ∧ a = -9223372036854775808
      · obtain ⟨rfl, rfl⟩ := h
        exfalso
        unfold I64 at hf
        omega
      · simpa using h
    rw [e1, e2]
    simp
  · rw [decide_eq_false hf]
    by_cases hq : wrap64 ((wrap64 (a * b)).tdiv b) = a
    · by_cases hs : a = -9223372036854775808 ∧ b = -1
      · obtain ⟨rfl, rfl⟩ := hs
        simp
      · exact absurd (mul_back a b h1 ha hb hq hs) hf
    · rw [beq_eq_false_iff_ne.2 hq]
      rfl

set_option maxHeartbeats 2000000 in
set_option maxRecDepth 100000 in
theorem mul_is (a b : Int) (ha : I64 a) (hb : I64 b) (w : World) : Calls Try.prog 44 #[.int .i64 a, .int .i64 b] w fun e w' => e = .returned (.tuple #[.int .i64 (wrap64 (a * b)), .bool (decide (I64 (a * b)))]) ∧ Below w.heap.size w w' := by
  have ez : wrap64 0 = 0 := by unfold wrap64; omega
  have et : decide (I64 0) = true := by decide
  by_cases h0 : a = 0
  · subst h0
    rw [Int.zero_mul, ez, et]
    go_enter Try.func44, Try.ntmps44
    go_wp2
    refine bodyPost_ret (res2 rfl _ _) rfl ?_
    exact ⟨rfl, Below.refl _ _⟩
  · by_cases h1 : b = 0
    · subst h1
      rw [Int.mul_zero, ez, et]
      go_enter Try.func44, Try.ntmps44
      go_wp2
      refine bodyPost_ret (res2 rfl _ _) rfl ?_
      exact ⟨rfl, Below.refl _ _⟩
    · have b0 : (a == 0) = false := beq_eq_false_iff_ne.2 h0
      have b1 : (b == 0) = false := beq_eq_false_iff_ne.2 h1
      rw [← mul_ok a b h0 h1 ha hb]
      clear h0 ha hb ez et
      cases hq : (wrap64 ((wrap64 (a * b)).tdiv b) == a) <;> cases hA : (a == -1) <;> cases hB : (b == -9223372036854775808) <;> cases hC : (b == -1) <;> cases hD : (a == -9223372036854775808)
      all_goals
        go_enter Try.func44, Try.ntmps44
        go_wp2
        refine bodyPost_ret (res2 rfl _ _) rfl ?_
        exact ⟨rfl, Below.refl _ _⟩
end Go.Proofs.Ytoogkjkbdicffaa
