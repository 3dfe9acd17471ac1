/- More plain laws on numbers in pages. -/
import Derived.Test.YtdikhbdcdpcfgaaPgLaws
namespace Go.Proofs.Ytdikhbdcdpcfgaa
open Go.RowKit
set_option linter.unusedVariables false

theorem pset_in (p p' : Nat → UInt8) (a s n : Int) (h : numPg a s) (i : Nat) (h1 : a ≤ i) (h2 : (i : Int) < a + s) : pset p a s n i = pset p' a s n i := by
  rw [pset, if_pos h, pset, if_pos h]
  obtain ⟨k1, k2, k3, k4⟩ := h
  have e : i = a.toNat + s.toNat - 1 - (a.toNat + s.toNat - 1 - i) := by omega
  rw [e, sets_in p _ _ n _ (Nat.le_refl _) _ (by omega), sets_in p' _ _ n _ (Nat.le_refl _) _ (by omega)]

theorem gets_congr {p q : Nat → UInt8} (a : Nat) : ∀ k, (∀ i, a ≤ i → i < a + k → p i = q i) → gets p a k = gets q a k
  | 0, _ => rfl
  | k + 1, h => by
    simp only [gets]
    rw [gets_congr a k (fun i h1 h2 => h i h1 (by omega)), h (a + k) (by omega) (by omega)]

theorem pget_congr {p q : Nat → UInt8} (a s : Int) (h : ∀ i : Nat, a ≤ i → (i : Int) < a + s → p i = q i) : pget p a s = pget q a s := by
  unfold pget
  split
  · rename_i hn
    obtain ⟨k1, k2, k3, k4⟩ := hn
    exact gets_congr _ _ fun i h1 h2 => h i (by omega) (by omega)
  · rfl

theorem pget_pset_out (p : Nat → UInt8) (a s b t n : Int) (h : b + t ≤ a ∨ a + s ≤ b) : pget (pset p a s n) b t = pget p b t :=
  pget_congr _ _ fun i h1 h2 => pset_out p a s n i (by omega)

theorem pset_comm (p : Nat → UInt8) (a s n b t m : Int) (ha : numPg a s) (hb : numPg b t) (h : a + s ≤ b ∨ b + t ≤ a) : pset (pset p a s n) b t m = pset (pset p b t m) a s n := by
  funext i
  by_cases h1 : a ≤ i ∧ (i : Int) < a + s
  · rw [pset_out _ b t m i (by omega)]
    exact pset_in _ _ _ _ _ ha i h1.1 h1.2
  · rw [pset_out (pset p b t m) a s n i (by omega)]
    by_cases h2 : b ≤ i ∧ (i : Int) < b + t
    · exact pset_in _ _ _ _ _ hb i h2.1 h2.2
    · rw [pset_out _ b t m i (by omega), pset_out _ b t m i (by omega), pset_out _ a s n i (by omega)]
end Go.Proofs.Ytdikhbdcdpcfgaa
