/- Plain laws on an inode's half of a page. -/
import Derived.Test.YtmnofoflbhdgjaaInoG
import Derived.Test.YtmnofoflbhdgjaaPgLaw2
namespace Go.Proofs.Ytmnofoflbhdgjaa
open Go.RowKit
set_option linter.unusedVariables false

theorem num_in (h a s : Int) (hh : h = 0 ∨ h = 1) (ha : 0 ≤ a) (hs1 : 1 ≤ s) (hs2 : s ≤ 4) (has : a + s ≤ 32) : numPg (h * 32 + a) s := by unfold numPg; omega

theorem put_same (p : Nat → UInt8) (h : Int) (hh : h = 0 ∨ h = 1) (f : Nat → Int) : pf p h f 11 = rpf p h f := by
  have e0 : fAt 0 = 0 := rfl
  have N := fun a s h0 h1 h2 h3 => num_in h a s hh h0 h1 h2 h3
  have mv : ∀ (X : Nat → UInt8) (e n n1 n2 n3 n4 : Int), 20 ≤ e → e ≤ 30 →
      pset (pset (pset (pset (pset X (h * 32 + e) 2 n) (h * 32 + 12) 2 n1) (h * 32 + 14) 2 n2) (h * 32 + 16) 2 n3) (h * 32 + 18) 2 n4 =
      pset (pset (pset (pset (pset X (h * 32 + 12) 2 n1) (h * 32 + 14) 2 n2) (h * 32 + 16) 2 n3) (h * 32 + 18) 2 n4) (h * 32 + e) 2 n := by
    intro X e n n1 n2 n3 n4 he1 he2
    have He := N e 2 (by omega) (by omega) (by omega) (by omega)
    have H1 := N 12 2 (by omega) (by omega) (by omega) (by omega)
    have H2 := N 14 2 (by omega) (by omega) (by omega) (by omega)
    have H3 := N 16 2 (by omega) (by omega) (by omega) (by omega)
    have H4 := N 18 2 (by omega) (by omega) (by omega) (by omega)
    rw [pset_comm X _ _ n _ _ n1 He H1 (by omega), pset_comm _ _ _ n _ _ n2 He H2 (by omega), pset_comm _ _ _ n _ _ n3 He H3 (by omega), pset_comm _ _ _ n _ _ n4 He H4 (by omega)]
  have e1 : pf p h f 11 = pset (pset (pset (pset (pset (pset (pf p h f 5) (h * 32 + 20) 2 (f 9)) (h * 32 + 22) 2 (f 10)) (h * 32 + 12) 2 (f 5)) (h * 32 + 14) 2 (f 6)) (h * 32 + 16) 2 (f 7)) (h * 32 + 18) 2 (f 8) := rfl
  have e2 : pf p h f 5 = pset (pset (pset (pset (pset (clr p (h * 32).toNat) (h * 32 + 0) 1 (f 0)) (h * 32 + 2) 2 (f 1)) (h * 32 + 4) 2 (f 2)) (h * 32 + 6) 2 (f 3)) (h * 32 + 8) 4 (f 4) := rfl
  rw [e1, mv _ 22 _ _ _ _ _ (by omega) (by omega), mv _ 20 _ _ _ _ _ (by omega) (by omega), e2]
  unfold rpf
  simp only [rpk, rp5]
  rw [Int.mul_comm 32 h, Int.add_zero, show h * 32 + 12 + 2 * ((0 : Nat) : Int) = h * 32 + 12 from by omega, show h * 32 + 12 + 2 * ((1 : Nat) : Int) = h * 32 + 14 from by omega, show h * 32 + 12 + 2 * ((2 : Nat) : Int) = h * 32 + 16 from by omega, show h * 32 + 12 + 2 * ((3 : Nat) : Int) = h * 32 + 18 from by omega]

/-- What lies outside of a half stays. -/
theorem pf_out (p : Nat → UInt8) (h : Int) (hh : h = 0 ∨ h = 1) (f : Nat → Int) (i : Nat) (hi : (i : Int) < h * 32 ∨ h * 32 + 32 ≤ i) : ∀ k, k ≤ 11 → pf p h f k i = p i
  | 0, _ => by
    show clr p (h * 32).toNat i = p i
    unfold clr
    rw [if_neg (by omega)]
  | k + 1, hk => by
    have hb : 0 ≤ fAt k ∧ fAt k + fSz k ≤ 32 := by
      rcases (by omega : k = 0 ∨ k = 1 ∨ k = 2 ∨ k = 3 ∨ k = 4 ∨ k = 5 ∨ k = 6 ∨ k = 7 ∨ k = 8 ∨ k = 9 ∨ k = 10) with rfl | rfl | rfl | rfl | rfl | rfl | rfl | rfl | rfl | rfl | rfl <;> decide
    show pset (pf p h f k) (h * 32 + fAt k) (fSz k) (f (fOff k)) i = p i
    rw [pset_out _ _ _ _ _ (by omega)]
    exact pf_out p h hh f i hi k (by omega)

/-- The other half reads as before. -/
theorem gf_other (p q : Nat → UInt8) (h : Int) (hpq : ∀ i : Nat, h * 32 ≤ i → (i : Int) < h * 32 + 32 → p i = q i) : ∀ k, k ≤ 11 → ∀ c, gf p h k c = gf q h k c
  | 0, _, c => rfl
  | k + 1, hk, c => by
    have hb : 0 ≤ fAt k ∧ fAt k + fSz k ≤ 32 := by
      rcases (by omega : k = 0 ∨ k = 1 ∨ k = 2 ∨ k = 3 ∨ k = 4 ∨ k = 5 ∨ k = 6 ∨ k = 7 ∨ k = 8 ∨ k = 9 ∨ k = 10) with rfl | rfl | rfl | rfl | rfl | rfl | rfl | rfl | rfl | rfl | rfl <;> decide
    simp only [gf]
    rw [gf_other p q h hpq k (by omega) c, pget_congr (p := p) (q := q) _ _ fun i h1 h2 => hpq i (by omega) (by omega)]

theorem get_same (p : Nat → UInt8) (h : Int) : nc 11 (gf p h 11) = nc 11 (rgk p h 4) := nc_congr fun c hc => by
  have e : 32 * h = h * 32 := Int.mul_comm _ _
  rcases (by omega : c = 0 ∨ c = 1 ∨ c = 2 ∨ c = 3 ∨ c = 4 ∨ c = 5 ∨ c = 6 ∨ c = 7 ∨ c = 8 ∨ c = 9 ∨ c = 10) with rfl | rfl | rfl | rfl | rfl | rfl | rfl | rfl | rfl | rfl | rfl <;>
    simp [gf, rgk, fOff, fAt, fSz, e]
  all_goals (congr 1; omega)
end Go.Proofs.Ytmnofoflbhdgjaa
