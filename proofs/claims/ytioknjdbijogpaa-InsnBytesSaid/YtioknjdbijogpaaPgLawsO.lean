/- Plain laws on numbers in pages. -/
import Derived.Test.YtioknjdbijogpaaPgSetO
namespace Go.Proofs.Ytioknjdbijogpaa
open Go.RowKit

theorem sets_out (p : Nat → UInt8) (a s : Nat) (n : Int) : ∀ k, k ≤ s → ∀ i, (i < a ∨ a + s ≤ i) → sets p a s n k i = p i
  | 0, _, _, _ => rfl
  | k + 1, hk, i, hi => by
    simp only [sets, upd]
    rw [if_neg (by omega)]
    exact sets_out p a s n k (by omega) i hi

theorem sets_in (p : Nat → UInt8) (a s : Nat) (n : Int) : ∀ k, k ≤ s → ∀ j, j < k → sets p a s n k (a + s - 1 - j) = b8 (n / 256 ^ j)
  | 0, _, _, hj => absurd hj (Nat.not_lt_zero _)
  | k + 1, hk, j, hj => by
    simp only [sets, upd]
    by_cases h : j = k
    · subst h; rw [if_pos rfl]
    · rw [if_neg (by omega)]
      exact sets_in p a s n k (by omega) j (by omega)

theorem gets_sets (p : Nat → UInt8) (a s : Nat) (n : Int) (h1 : 1 ≤ s) (h2 : s ≤ 4) : gets (sets p a s n s) a s = n % 256 ^ s := by
  have hb : ∀ i, i < s → ((sets p a s n s (a + i)).toNat : Int) = n / 256 ^ (s - 1 - i) % 256 := by
    intro i hi
    have := sets_in p a s n s (Nat.le_refl _) (s - 1 - i) (by omega)
    rw [show a + s - 1 - (s - 1 - i) = a + i from by omega] at this
    rw [this, b8_nat]
  rcases (by omega : s = 1 ∨ s = 2 ∨ s = 3 ∨ s = 4) with rfl | rfl | rfl | rfl
  · have h0 := hb 0 (by omega)
    simp only [gets]
    rw [h0]
    simp
  · have h0 := hb 0 (by omega); have h1 := hb 1 (by omega)
    simp only [gets]
    rw [h0, h1]
    simp
    omega
  · have h0 := hb 0 (by omega); have h1 := hb 1 (by omega); have h2 := hb 2 (by omega)
    simp only [gets]
    rw [h0, h1, h2]
    simp
    omega
  · have h0 := hb 0 (by omega); have h1 := hb 1 (by omega); have h2 := hb 2 (by omega); have h3 := hb 3 (by omega)
    simp only [gets]
    rw [h0, h1, h2, h3]
    simp
    omega

theorem pset_out (p : Nat → UInt8) (a s n : Int) (i : Nat) (h : (i : Int) < a ∨ a + s ≤ i) : pset p a s n i = p i := by
  unfold pset
  split
  · rename_i hn
    obtain ⟨h1, h2, h3, h4⟩ := hn
    exact sets_out p _ _ n _ (Nat.le_refl _) i (by omega)
  · rfl

theorem pget_pset (p : Nat → UInt8) (a s n : Int) (h : numPg a s) : pget (pset p a s n) a s = n % 256 ^ s.toNat := by
  rw [pget, if_pos h, pset, if_pos h]
  obtain ⟨h1, h2, h3, h4⟩ := h
  exact gets_sets p _ _ n (by omega) (by omega)

theorem i64_mask (n : Int) (k : Nat) (hk : k ≤ 62) : bits .and .i64 n (2 ^ k - 1) = n % 2 ^ k := by
  have hp : (2 : Int) ^ k = ((2 ^ k : Nat) : Int) := by simp
  have hpos : 0 < 2 ^ k := Nat.two_pow_pos k
  have hle : 2 ^ k ≤ 2 ^ 62 := Nat.pow_le_pow_right (by decide) hk
  have hm : (BitVec.ofInt 64 ((2 : Int) ^ k - 1)).toNat = 2 ^ k - 1 := by
    rw [hp, BitVec.toNat_ofInt]
    have : ((2 ^ k : Nat) : Int) - 1 < ((2 ^ 64 : Nat) : Int) := by
      have : (2 : Nat) ^ 62 < 2 ^ 64 := by decide
      omega
    rw [Int.emod_eq_of_lt (by omega) this]
    omega
  have key : (BitVec.ofInt 64 n &&& BitVec.ofInt 64 ((2 : Int) ^ k - 1)).toNat = (n % ((2 ^ 64 : Nat) : Int)).toNat % 2 ^ k := by
    rw [BitVec.toNat_and, BitVec.toNat_ofInt, hm, Nat.and_two_pow_sub_one_eq_mod]
  show IntKind.i64.wrap ((BitVec.ofInt 64 n &&& BitVec.ofInt 64 ((2 : Int) ^ k - 1)).toNat : Nat) = n % 2 ^ k
  have hdvd : ((2 ^ k : Nat) : Int) ∣ ((2 ^ 64 : Nat) : Int) := by
    have : (2 : Nat) ^ k ∣ 2 ^ 64 := Nat.pow_dvd_pow 2 (by omega)
    exact_mod_cast this
  have hnn : 0 ≤ n % ((2 ^ 64 : Nat) : Int) := Int.emod_nonneg _ (by decide)
  have e : (((n % ((2 ^ 64 : Nat) : Int)).toNat % 2 ^ k : Nat) : Int) = n % 2 ^ k := by
    rw [Int.natCast_emod, Int.toNat_of_nonneg hnn, hp, Int.emod_emod_of_dvd _ hdvd]
  rw [key, e]
  have hb1 : 0 ≤ n % 2 ^ k := by rw [hp]; exact Int.emod_nonneg _ (by omega)
  have hb2 : n % 2 ^ k < 2 ^ k := by rw [hp]; exact Int.emod_lt_of_pos _ (by omega)
  exact wraps_i64 _ hb1 (by rw [hp] at hb2 ⊢; have : ((2 ^ k : Nat) : Int) ≤ ((2 ^ 62 : Nat) : Int) := by exact_mod_cast hle
                            have e62 : ((2 ^ 62 : Nat) : Int) = 2 ^ 62 := by simp
                            omega)

theorem mask_wrap (s : Nat) (h1 : 1 ≤ s) (h2 : s ≤ 4) : wrap64 (wrap64 (2 ^ (8 * s)) - 1) = 2 ^ (8 * s) - 1 := by
  rcases (by omega : s = 1 ∨ s = 2 ∨ s = 3 ∨ s = 4) with rfl | rfl | rfl | rfl <;> simp only [Nat.reduceMul, Int.reducePow] <;> unfold wrap64 <;> omega

theorem and_mask (p : Nat → UInt8) (a s : Nat) (n : Int) (h1 : 1 ≤ s) (h2 : s ≤ 4) (h3 : a + s ≤ 64) :
    bits .and .i64 n (2 ^ (8 * s) - 1) = pget (pset p a s n) a s := by
  rw [i64_mask n (8 * s) (by omega), pget_pset p a s n (by unfold numPg; omega)]
  rcases (by omega : s = 1 ∨ s = 2 ∨ s = 3 ∨ s = 4) with rfl | rfl | rfl | rfl <;> rfl
end Go.Proofs.Ytioknjdbijogpaa
