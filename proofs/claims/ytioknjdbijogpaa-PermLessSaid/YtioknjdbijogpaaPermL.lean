/- Chapter 26: the plain facts about numbers' bits. -/
import Derived.Test.YtioknjdbijogpaaProg
import Derived.WalkKit
namespace Go.Proofs.Ytioknjdbijogpaa
open Go.RowKit
set_option linter.unusedSimpArgs false
set_option linter.unusedVariables false

theorem wraps_i64 (n : Int) (h₀ : 0 ≤ n) (h₁ : n < 2 ^ 62) : IntKind.i64.wrap n = n := by
  rw [IntKind.wrap_i64]
  have : n < 4611686018427387904 := h₁
  omega

theorem i64_mask (n : Int) (k : Nat) (hk : k ≤ 62) : bits .and .i64 n (2 ^ k - 1) = n % 2 ^ k := by
  have hp : (2 : Int) ^ k = ((2 ^ k : Nat) : Int) := by simp
  have hpos : 0 < 2 ^ k := Nat.two_pow_pos k
  have hle : 2 ^ k ≤ 2 ^ 62 := Nat.pow_le_pow_right (by decide) hk
  have hm : (BitVec.ofInt 64 ((2 : Int) ^ k - 1)).toNat = 2 ^ k - 1 := by
    rw [hp, BitVec.toNat_ofInt]
    have : ((2 ^ k : Nat) : Int) - 1 < ((2 ^ 64 : Nat) : Int) := by
      have : (2 : Nat) ^ 62 < 2 ^ 64 := by decide
      omega
    rw [Int.emod_eq_of_lt (by omega) this]
    omega
  have key : (BitVec.ofInt 64 n &&& BitVec.ofInt 64 ((2 : Int) ^ k - 1)).toNat = (n % ((2 ^ 64 : Nat) : Int)).toNat % 2 ^ k := by
    rw [BitVec.toNat_and, BitVec.toNat_ofInt, hm, Nat.and_two_pow_sub_one_eq_mod]
  show IntKind.i64.wrap ((BitVec.ofInt 64 n &&& BitVec.ofInt 64 ((2 : Int) ^ k - 1)).toNat : Nat) = n % 2 ^ k
  have hdvd : ((2 ^ k : Nat) : Int) ∣ ((2 ^ 64 : Nat) : Int) := by
    have : (2 : Nat) ^ k ∣ 2 ^ 64 := Nat.pow_dvd_pow 2 (by omega)
    exact_mod_cast this
  have hnn : 0 ≤ n % ((2 ^ 64 : Nat) : Int) := Int.emod_nonneg _ (by decide)
  have e : (((n % ((2 ^ 64 : Nat) : Int)).toNat % 2 ^ k : Nat) : Int) = n % 2 ^ k := by
    rw [Int.natCast_emod, Int.toNat_of_nonneg hnn, hp, Int.emod_emod_of_dvd _ hdvd]
  rw [key, e]
  have hb1 : 0 ≤ n % 2 ^ k := by rw [hp]; exact Int.emod_nonneg _ (by omega)
  have hb2 : n % 2 ^ k < 2 ^ k := by rw [hp]; exact Int.emod_lt_of_pos _ (by omega)
  exact wraps_i64 _ hb1 (by rw [hp] at hb2 ⊢; have : ((2 ^ k : Nat) : Int) ≤ ((2 ^ 62 : Nat) : Int) := by exact_mod_cast hle
                            have e62 : ((2 ^ 62 : Nat) : Int) = 2 ^ 62 := by simp
                            omega)


/-- a and b, of i64's, bit by bit. -/
theorem band_toInt (a b : Int) : BitVec.ofInt 64 (bits .and .i64 a b) = BitVec.ofInt 64 a &&& BitVec.ofInt 64 b := by
  show BitVec.ofInt 64 (IntKind.i64.wrap ((BitVec.ofInt 64 a &&& BitVec.ofInt 64 b).toNat : Nat)) = _
  generalize BitVec.ofInt 64 a &&& BitVec.ofInt 64 b = x
  have hx := x.isLt
  apply BitVec.eq_of_toNat_eq
  rw [BitVec.toNat_ofInt, IntKind.wrap_i64]
  omega

theorem bit_of (z : Int) (i : Nat) (hi : i ≤ 8) : (BitVec.ofInt 64 z).getLsbD i = decide (z / 2 ^ i % 2 = 1) := by
  rw [BitVec.getLsbD, BitVec.toNat_ofInt, Nat.testBit_eq_decide_div_mod_eq]
  congr 1
  rcases (by omega : i = 0 ∨ i = 1 ∨ i = 2 ∨ i = 3 ∨ i = 4 ∨ i = 5 ∨ i = 6 ∨ i = 7 ∨ i = 8) with rfl | rfl | rfl | rfl | rfl | rfl | rfl | rfl | rfl <;>
    simp only [Nat.reducePow, Int.reducePow, eq_iff_iff] <;> omega

theorem band_bit (p f : Int) (i : Nat) (hi : i ≤ 8) : (bits .and .i64 p f) / 2 ^ i % 2 = 1 ↔ p / 2 ^ i % 2 = 1 ∧ f / 2 ^ i % 2 = 1 := by
  have h := bit_of (bits .and .i64 p f) i hi
  rw [band_toInt, BitVec.getLsbD_and, bit_of p i hi, bit_of f i hi] at h
  by_cases h1 : p / 2 ^ i % 2 = 1 <;> by_cases h2 : f / 2 ^ i % 2 = 1 <;> by_cases h3 : (bits .and .i64 p f) / 2 ^ i % 2 = 1 <;> simp_all

/-- Who is what: the three bits that count. -/
def pBits (u p o : Int) : Int := if u = 0 then 7 else if u = o then p / 64 % 8 else p % 8

theorem pBits_range (u p o : Int) : 0 ≤ pBits u p o ∧ pBits u p o < 8 := by unfold pBits; split <;> (try split) <;> omega

/-- May: every bit that is wanted is there. -/
def mayB (u p o k : Int) : Bool := decide (0 ≤ k) && decide (k ≤ 7) && decide (k % 2 = 1 → pBits u p o % 2 = 1) && decide (k / 2 % 2 = 1 → pBits u p o / 2 % 2 = 1) && decide (k / 4 % 2 = 1 → pBits u p o / 4 % 2 = 1)

theorem andNot_fin : ∀ k b : Fin 8, (bits .andNot .i64 (k.val : Int) (b.val : Int) == 0) = (decide ((k.val : Int) % 2 = 1 → (b.val : Int) % 2 = 1) && decide ((k.val : Int) / 2 % 2 = 1 → (b.val : Int) / 2 % 2 = 1) && decide ((k.val : Int) / 4 % 2 = 1 → (b.val : Int) / 4 % 2 = 1)) := by decide +kernel

theorem andNot_zero (k b : Int) (h1 : 0 ≤ k) (h2 : k ≤ 7) (h3 : 0 ≤ b) (h4 : b < 8) : (bits .andNot .i64 k b == 0) = (decide (k % 2 = 1 → b % 2 = 1) && decide (k / 2 % 2 = 1 → b / 2 % 2 = 1) && decide (k / 4 % 2 = 1 → b / 4 % 2 = 1)) := by
  have := andNot_fin ⟨k.toNat, by omega⟩ ⟨b.toNat, by omega⟩
  simpa only [Int.toNat_of_nonneg h1, Int.toNat_of_nonneg h3] using this

theorem may_in (u p o k : Int) (h1 : 0 ≤ k) (h2 : k ≤ 7) : (bits .andNot .i64 k (pBits u p o) == 0) = mayB u p o k := by
  have := pBits_range u p o
  rw [andNot_zero k _ h1 h2 this.1 this.2, mayB, decide_eq_true h1, decide_eq_true h2]
  simp [Bool.and_assoc]
theorem may_out (u p o k : Int) (h : ¬ (0 ≤ k ∧ k ≤ 7)) : mayB u p o k = false := by
  unfold mayB
  by_cases h1 : 0 ≤ k
  · rw [decide_eq_false (p := k ≤ 7) (by omega)]; simp
  · rw [decide_eq_false h1]; simp

/-- With fewer bits nobody but 0 may more. -/
theorem may_fewer (u p o f k : Int) (hu : u ≠ 0) (h : mayB u (bits .and .i64 p f) o k = true) : mayB u p o k = true := by
  have b0 := band_bit p f 0 (by decide)
  have b1 := band_bit p f 1 (by decide)
  have b2 := band_bit p f 2 (by decide)
  have b6 := band_bit p f 6 (by decide)
  have b7 := band_bit p f 7 (by decide)
  have b8 := band_bit p f 8 (by decide)
  generalize bits .and .i64 p f = q at *
  simp only [Nat.reducePow, Int.reducePow] at b0 b1 b2 b6 b7 b8
  simp only [mayB, pBits, if_neg hu, Bool.and_eq_true, decide_eq_true_eq] at h ⊢
  obtain ⟨⟨⟨⟨h1, h2⟩, h3⟩, h4⟩, h5⟩ := h
  by_cases ho : u = o
  · simp only [if_pos ho] at *
    refine ⟨⟨⟨⟨h1, h2⟩, fun h => ?_⟩, fun h => ?_⟩, fun h => ?_⟩
    · have := h3 h; clear b0 b1 b2 b7 b8 h3 h4 h5; omega
    · have := h4 h; clear b0 b1 b2 b6 b8 h3 h4 h5; omega
    · have := h5 h; clear b0 b1 b2 b6 b7 h3 h4 h5; omega
  · simp only [if_neg ho] at *
    refine ⟨⟨⟨⟨h1, h2⟩, fun h => ?_⟩, fun h => ?_⟩, fun h => ?_⟩
    · have := h3 h; clear b6 b7 b8 b1 b2 h3 h4 h5; omega
    · have := h4 h; clear b6 b7 b8 b0 b2 h3 h4 h5; omega
    · have := h5 h; clear b6 b7 b8 b0 b1 h3 h4 h5; omega

def mayK (b k : Int) : Bool := decide (0 ≤ k) && decide (k ≤ 7) && decide (k % 2 = 1 → b % 2 = 1) && decide (k / 2 % 2 = 1 → b / 2 % 2 = 1) && decide (k / 4 % 2 = 1 → b / 4 % 2 = 1)
theorem parts_fin : ∀ k b : Fin 8, mayK (b.val : Int) (k.val : Int) = (mayK (b.val : Int) (bits .and .i64 (k.val : Int) 1) && mayK (b.val : Int) (bits .and .i64 (k.val : Int) 2) && mayK (b.val : Int) (bits .and .i64 (k.val : Int) 4)) := by decide +kernel

theorem may_parts (u p o k : Int) (h1 : 0 ≤ k) (h2 : k ≤ 7) : mayB u p o k = (mayB u p o (bits .and .i64 k 1) && mayB u p o (bits .and .i64 k 2) && mayB u p o (bits .and .i64 k 4)) := by
  have hb := pBits_range u p o
  have := parts_fin ⟨k.toNat, by omega⟩ ⟨(pBits u p o).toNat, by omega⟩
  simp only [Int.toNat_of_nonneg h1, Int.toNat_of_nonneg hb.1] at this
  exact this
end Go.Proofs.Ytioknjdbijogpaa
