/- Chapter 26's reference: bit and May, walked. -/
import Derived.Test.YtioknjdbijogpaaPermL
import Derived.Test.YtioknjdbijogpaaSt
namespace Go.Proofs.Ytioknjdbijogpaa
open Go.RowKit
set_option linter.unusedSimpArgs false
set_option linter.unusedVariables false

theorem u64_range (n : Int) (j : Nat) : 0 ≤ n % 18446744073709551616 / 2 ^ j ∧ n % 18446744073709551616 / 2 ^ j < 18446744073709551616 := by
  have h0 : 0 ≤ n % 18446744073709551616 := Int.emod_nonneg _ (by decide)
  have h1 : n % 18446744073709551616 < 18446744073709551616 := Int.emod_lt_of_pos _ (by decide)
  have h2 : n % 18446744073709551616 / 2 ^ j ≤ n % 18446744073709551616 := Int.ediv_le_self _ h0
  exact ⟨Int.ediv_nonneg h0 (Int.pow_nonneg (by decide)), by omega⟩
theorem u64_half (n : Int) (j : Nat) : IntKind.u64.wrap ((n % 18446744073709551616 / 2 ^ j).tdiv 2) = n % 18446744073709551616 / 2 ^ (j + 1) := by
  obtain ⟨h0, h1⟩ := u64_range n j
  rw [Int.tdiv_eq_ediv_of_nonneg h0, Int.pow_succ, ← Int.ediv_ediv_of_nonneg (Int.pow_nonneg (by decide))]
  generalize n % 18446744073709551616 / 2 ^ j = x at *
  simp only [IntKind.wrap_u64]
  omega
theorem u64_bit (n : Int) (j : Nat) (hj : j ≤ 8) : ((n % 18446744073709551616 / 2 ^ j).tmod 2 == 1) = decide (n / 2 ^ j % 2 = 1) := by
  obtain ⟨h0, h1⟩ := u64_range n j
  rw [Int.tmod_eq_emod_of_nonneg h0, Bool.eq_iff_iff, beq_iff_eq, decide_eq_true_eq]
  rcases (by omega : j = 0 ∨ j = 1 ∨ j = 2 ∨ j = 3 ∨ j = 4 ∨ j = 5 ∨ j = 6 ∨ j = 7 ∨ j = 8) with rfl | rfl | rfl | rfl | rfl | rfl | rfl | rfl | rfl <;>
    simp only [Nat.reducePow, Int.reducePow] <;> omega

set_option maxHeartbeats 1000000 in
set_option maxRecDepth 100000 in
theorem refBit_is (n : Int) (i : Nat) (hi : i ≤ 8) (w : World) :
    Calls Try.prog 31 #[.int .i64 n, .int .i64 i] w fun e w' => e = .returned (.bool (decide (n / 2 ^ i % 2 = 1))) ∧ w' = w := by
  go_enter Try.func31, Try.ntmps31
  go_wp2
  go_loopw [5, 6] (fun u k wr => ∃ j : Nat, j ≤ i ∧ wr = w ∧ k = .int .i64 j ∧ u = .int .u64 (n % 18446744073709551616 / 2 ^ j)) (fun _ k _ => i - (intOf k).toNat)
  case atStart =>
    refine ⟨0, by omega, rfl, rfl, ?_⟩
    rw [Int.pow_zero, Int.ediv_one]
    simp only [IntKind.wrap_u64]
  case round =>
    obtain ⟨j, hj, rfl, rfl, rfl⟩ := hrel
    by_cases h : j = i
    · subst h
      go_wp2
      go_ret
      refine ⟨?_, rfl⟩
      rw [← u64_bit n j hi]
      rfl
    · have hlt : (j : Int) < i := by omega
      go_wp2
      refine ⟨⟨j + 1, by omega, trivial, by simp, by rw [u64_half]⟩, ?_⟩
      simp only [intOf]
      omega

/-- The bits that are wanted, up to the j-th, are there. -/
def upTo (f p k : Int) (j : Nat) : Prop := ∀ i : Nat, i < j → k / 2 ^ i % 2 = 1 → p / 2 ^ (f.toNat + i) % 2 = 1
theorem upTo_0 (f p k : Int) : upTo f p k 0 := fun i hi => absurd hi (by omega)
theorem upTo_may (u p o k : Int) (h0 : 0 ≤ k) (h7 : k ≤ 7) (hu : u ≠ 0) : mayB u p o k = true ↔ upTo (if u = o then 6 else 0) p k 3 := by
  have h3 : ∀ f, upTo f p k 3 ↔ (k % 2 = 1 → p / 2 ^ f.toNat % 2 = 1) ∧ (k / 2 % 2 = 1 → p / 2 ^ (f.toNat + 1) % 2 = 1) ∧ (k / 4 % 2 = 1 → p / 2 ^ (f.toNat + 2) % 2 = 1) := fun f => by
    constructor
    · intro h
      refine ⟨fun a => ?_, fun a => ?_, fun a => ?_⟩
      · exact h 0 (by decide) (by simpa using a)
      · exact h 1 (by decide) (by simpa using a)
      · exact h 2 (by decide) (by simpa using a)
    · rintro ⟨a, b, c⟩ i hi hb
      rcases (by omega : i = 0 ∨ i = 1 ∨ i = 2) with rfl | rfl | rfl
      · exact a (by simpa using hb)
      · exact b (by simpa using hb)
      · exact c (by simpa using hb)
  rw [h3]
  simp only [mayB, pBits, if_neg hu, Bool.and_eq_true, decide_eq_true_eq]
  by_cases ho : u = o
  · simp only [if_pos ho, Int.reduceToNat, Nat.reduceAdd, Int.reducePow]
    constructor
    · rintro ⟨⟨⟨⟨-, -⟩, a⟩, b⟩, c⟩
      refine ⟨fun h => ?_, fun h => ?_, fun h => ?_⟩
      · have := a h; clear a b c; omega
      · have := b h; clear a b c; omega
      · have := c h; clear a b c; omega
    · rintro ⟨a, b, c⟩
      refine ⟨⟨⟨⟨h0, h7⟩, fun h => ?_⟩, fun h => ?_⟩, fun h => ?_⟩
      · have := a h; clear a b c; omega
      · have := b h; clear a b c; omega
      · have := c h; clear a b c; omega
  · simp only [if_neg ho, Int.reduceToNat, Nat.reduceAdd, Int.reducePow]
    constructor
    · rintro ⟨⟨⟨⟨-, -⟩, a⟩, b⟩, c⟩
      refine ⟨fun h => ?_, fun h => ?_, fun h => ?_⟩
      · have := a h; clear a b c; omega
      · have := b h; clear a b c; omega
      · have := c h; clear a b c; omega
    · rintro ⟨a, b, c⟩
      refine ⟨⟨⟨⟨h0, h7⟩, fun h => ?_⟩, fun h => ?_⟩, fun h => ?_⟩
      · have := a h; clear a b c; omega
      · have := b h; clear a b c; omega
      · have := c h; clear a b c; omega

set_option maxHeartbeats 1000000 in
set_option maxRecDepth 100000 in
theorem refMay_is (u o p k : Int) (w : World) :
    Calls Try.prog 15 #[.int .i64 u, .int .i64 o, .int .i64 p, .int .i64 k] w fun e w' => e = .returned (.bool (mayB u p o k)) ∧ w' = w := by
  by_cases h0 : k < 0
  · have e0 : decide (k < 0) = true := decide_eq_true h0
    go_enter Try.func15, Try.ntmps15
    go_wp2
    go_ret
    rw [may_out u p o k (by omega)]
    exact ⟨rfl, rfl⟩
  have e0 : decide (k < 0) = false := decide_eq_false h0
  by_cases h7 : 7 < k
  · have e7 : decide (k > 7) = true := decide_eq_true h7
    go_enter Try.func15, Try.ntmps15
    go_wp2
    go_ret
    rw [may_out u p o k (by omega)]
    exact ⟨rfl, rfl⟩
  have e7 : decide (k > 7) = false := decide_eq_false h7
  by_cases hu : u = 0
  · subst hu
    have e : mayB 0 p o k = true := by
      simp only [mayB, pBits, if_pos, Bool.and_eq_true, decide_eq_true_eq]
      refine ⟨⟨⟨⟨by omega, by omega⟩, fun _ => by decide⟩, fun _ => by decide⟩, fun _ => by decide⟩
    go_enter Try.func15, Try.ntmps15
    go_wp2
    go_ret
    exact ⟨rfl, rfl⟩
  have hne : (u == 0) = false := by simpa using hu
  obtain ⟨B, hB⟩ : ∃ B, mayB u p o k = B := ⟨_, rfl⟩
  have hiff := upTo_may u p o k (by omega) (by omega) hu
  rw [hB] at hiff
  rw [hB]
  clear hB
  by_cases ho : u = o
  · rw [if_pos ho] at hiff
    have heo : (u == o) = true := by simpa using ho
    go_enter Try.func15, Try.ntmps15
    go_wp2
    go_loopw [10] (fun i wr => ∃ j : Nat, j ≤ 3 ∧ wr = w ∧ i = .int .i64 j ∧ upTo 6 p k j) (fun i _ => 3 - (intOf i).toNat)
    case atStart => exact ⟨0, by omega, rfl, rfl, upTo_0 _ _ _⟩
    case round =>
      obtain ⟨j, hj, rfl, rfl, hup⟩ := hrel
      by_cases h : j = 3
      · subst h
        have hB := hiff.2 hup
        go_wp2
        go_ret
        rw [hB]
        exact ⟨rfl, rfl⟩
      · have hlt : (j : Int) < 3 := by omega
        have hw : wrap64 (6 + (j : Int)) = 6 + (j : Int) := by unfold wrap64; omega
        have hbit : ∀ (n : Int) (w : World), Calls Try.prog 31 #[.int .i64 n, .int .i64 (6 + (j : Int))] w fun e w' => e = .returned (.bool (decide (n / 2 ^ (6 + j) % 2 = 1))) ∧ w' = w := fun n w => by
          have := refBit_is n (6 + j) (by omega) w
          rwa [Int.natCast_add] at this
        go_wp2_with (first
          | (go_at_call 31; with_reducible refine (refBit_is _ j (by omega) _).mono ?_; rintro e w1 ⟨rfl, rfl⟩)
          | (go_at_call 31; with_reducible refine (hbit _ _).mono ?_; rintro e w1 ⟨rfl, rfl⟩))
        · rename_i a1 a2
          go_ret
          have hBf : B = false := by
            rcases hB : B with _ | _
            · rfl
            · have := (hiff.1 hB) j (by omega) (by assumption)
              simp at *
              first | contradiction | omega
          rw [hBf]
          exact ⟨rfl, rfl⟩
        · rename_i a1 a2 a3
          refine ⟨⟨j + 1, by omega, trivial, by simp, fun i hi hb => ?_⟩, by simp only [intOf]; omega⟩
          rcases (by omega : i < j ∨ i = j) with h' | rfl
          · exact hup i h' hb
          · simpa using a3
        · rename_i a1 a2
          refine ⟨⟨j + 1, by omega, trivial, by simp, fun i hi hb => ?_⟩, by simp only [intOf]; omega⟩
          rcases (by omega : i < j ∨ i = j) with h' | rfl
          · exact hup i h' hb
          · exact absurd hb (by assumption)
  · rw [if_neg ho] at hiff
    have heo : (u == o) = false := by simpa using ho
    go_enter Try.func15, Try.ntmps15
    go_wp2
    go_loopw [10] (fun i wr => ∃ j : Nat, j ≤ 3 ∧ wr = w ∧ i = .int .i64 j ∧ upTo 0 p k j) (fun i _ => 3 - (intOf i).toNat)
    case atStart => exact ⟨0, by omega, rfl, rfl, upTo_0 _ _ _⟩
    case round =>
      obtain ⟨j, hj, rfl, rfl, hup⟩ := hrel
      by_cases h : j = 3
      · subst h
        have hB := hiff.2 hup
        go_wp2
        go_ret
        rw [hB]
        exact ⟨rfl, rfl⟩
      · have hlt : (j : Int) < 3 := by omega
        have hw : wrap64 (6 + (j : Int)) = 6 + (j : Int) := by unfold wrap64; omega
        have hbit : ∀ (n : Int) (w : World), Calls Try.prog 31 #[.int .i64 n, .int .i64 (6 + (j : Int))] w fun e w' => e = .returned (.bool (decide (n / 2 ^ (6 + j) % 2 = 1))) ∧ w' = w := fun n w => by
          have := refBit_is n (6 + j) (by omega) w
          rwa [Int.natCast_add] at this
        go_wp2_with (first
          | (go_at_call 31; with_reducible refine (refBit_is _ j (by omega) _).mono ?_; rintro e w1 ⟨rfl, rfl⟩)
          | (go_at_call 31; with_reducible refine (hbit _ _).mono ?_; rintro e w1 ⟨rfl, rfl⟩))
        · rename_i a1 a2
          go_ret
          have hBf : B = false := by
            rcases hB : B with _ | _
            · rfl
            · have := (hiff.1 hB) j (by omega) (by assumption)
              simp at *
              first | contradiction | omega
          rw [hBf]
          exact ⟨rfl, rfl⟩
        · rename_i a1 a2 a3
          refine ⟨⟨j + 1, by omega, trivial, by simp, fun i hi hb => ?_⟩, by simp only [intOf]; omega⟩
          rcases (by omega : i < j ∨ i = j) with h' | rfl
          · exact hup i h' hb
          · simpa using a3
        · rename_i a1 a2
          refine ⟨⟨j + 1, by omega, trivial, by simp, fun i hi hb => ?_⟩, by simp only [intOf]; omega⟩
          rcases (by omega : i < j ∨ i = j) with h' | rfl
          · exact hup i h' hb
          · exact absurd hb (by assumption)
end Go.Proofs.Ytioknjdbijogpaa
