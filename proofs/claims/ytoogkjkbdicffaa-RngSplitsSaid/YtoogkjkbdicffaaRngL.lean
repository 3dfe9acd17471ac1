/- Chapter 21: ranges: what the operations come to, and that they have what they must. -/
import Derived.Test.YtoogkjkbdicffaaProg
import Derived.WalkKit
import Derived.Lib.BitFns
import Derived.Lib.ItoaNum
namespace Go.Proofs.Ytoogkjkbdicffaa
open Go.RowKit
set_option linter.unusedSimpArgs false
set_option linter.unusedVariables false

/-- A range: from, to. -/
abbrev RT := Int × Int
def rNone : RT := (1, 0)
def rFull : RT := (-9223372036854775808, 9223372036854775807)
def I64 (z : Int) : Prop := -9223372036854775808 ≤ z ∧ z ≤ 9223372036854775807
instance (z : Int) : Decidable (I64 z) := by unfold I64; infer_instance
def IR (r : RT) : Prop := I64 r.1 ∧ I64 r.2
def In (r : RT) (x : Int) : Prop := r.1 ≤ x ∧ x ≤ r.2
theorem wrap_id {z : Int} (h : I64 z) : wrap64 z = z := by unfold I64 at h; unfold wrap64; omega
theorem wrap_in (z : Int) : I64 (wrap64 z) := by unfold I64 wrap64; omega
theorem rFull_in {x : Int} (h : I64 x) : In rFull x := h

def sumsV (lo hi : Int) : RT := if I64 lo ∧ I64 hi then (lo, hi) else rFull
def lo4 (a b : RT) : Int := min (min (a.1 * b.1) (a.1 * b.2)) (min (a.2 * b.1) (a.2 * b.2))
def hi4 (a b : RT) : Int := max (max (a.1 * b.1) (a.1 * b.2)) (max (a.2 * b.1) (a.2 * b.2))
def prodV (a b : RT) : RT := if I64 (lo4 a b) ∧ I64 (hi4 a b) then (lo4 a b, hi4 a b) else rFull
def andV (a b : RT) : RT := if 0 ≤ a.1 ∧ 0 ≤ b.1 then (0, min a.2 b.2) else if 0 ≤ a.1 then (0, a.2) else if 0 ≤ b.1 then (0, b.2) else rFull
def onesV (n : Nat) : Int := ((2 ^ Lib.bitLen n - 1 : Nat) : Int)
def orV (a b : RT) : RT := if a.1 < 0 ∨ b.1 < 0 then rFull else (max a.1 b.1, onesV (max a.2 b.2).toNat)
def shrV (n : Nat) (a : RT) : RT := if n = 0 then a else if 0 ≤ a.1 then (a.1 / 2 ^ n, a.2 / 2 ^ n) else (0, 18446744073709551615 / 2 ^ n)
def shlV (n : Nat) (a : RT) : RT := if n = 63 then (if a = (0, 0) then a else rFull) else prodV a (2 ^ n, 2 ^ n)
def shiftV (op : Int) (a : RT) (n : Int) : RT := if n < 0 ∨ 64 ≤ n then rFull else if op = 26 then shlV n.toNat a else shrV n.toNat a
def doV (op : Int) (a b : RT) : RT :=
  if a.1 > a.2 ∨ b.1 > b.2 then rNone
  else if op = 16 ∨ op = 21 then sumsV (a.1 + b.1) (a.2 + b.2)
  else if op = 17 ∨ op = 22 then sumsV (a.1 - b.2) (a.2 - b.1)
  else if op = 20 ∨ op = 25 then prodV a b
  else if op = 18 ∨ op = 23 then andV a b
  else if op = 19 ∨ op = 24 then orV a b
  else if (op = 26 ∨ op = 27) ∧ b.1 = b.2 then shiftV op a b.1
  else rFull
/-- What arithmetic makes of two numbers. -/
def calcV (op x y : Int) : Int :=
  if op = 16 ∨ op = 21 then wrap64 (x + y)
  else if op = 17 ∨ op = 22 then wrap64 (x - y)
  else if op = 18 ∨ op = 23 then bits .and .i64 x y
  else if op = 19 ∨ op = 24 then bits .or .i64 x y
  else if op = 20 ∨ op = 25 then wrap64 (x * y)
  else if op = 26 then wrap64 (x * 2 ^ y.toNat)
  else wrap64 ((x % 18446744073709551616) / 2 ^ y.toNat)

/-! ### Products -/
theorem mul_hi {a b x y : Int} (h1 : a ≤ x) (h2 : x ≤ b) : x * y ≤ max (a * y) (b * y) := by
  rcases Int.le_total 0 y with hy | hy
  · have := Int.mul_le_mul_of_nonneg_right h2 hy; omega
  · have := Int.mul_le_mul_of_nonpos_right h1 hy; omega
theorem mul_lo {a b x y : Int} (h1 : a ≤ x) (h2 : x ≤ b) : min (a * y) (b * y) ≤ x * y := by
  rcases Int.le_total 0 y with hy | hy
  · have := Int.mul_le_mul_of_nonneg_right h1 hy; omega
  · have := Int.mul_le_mul_of_nonpos_right h2 hy; omega
theorem prod_in {a b : RT} {x y : Int} (hx : In a x) (hy : In b y) : lo4 a b ≤ x * y ∧ x * y ≤ hi4 a b := by
  have h1 := mul_hi (y := y) hx.1 hx.2
  have h2 := mul_lo (y := y) hx.1 hx.2
  have h3 := mul_hi (y := a.1) hy.1 hy.2
  have h4 := mul_lo (y := a.1) hy.1 hy.2
  have h5 := mul_hi (y := a.2) hy.1 hy.2
  have h6 := mul_lo (y := a.2) hy.1 hy.2
  rw [Int.mul_comm y, Int.mul_comm b.1, Int.mul_comm b.2] at h3 h4 h5 h6
  unfold lo4 hi4
  generalize x * y = p at *
  generalize a.1 * y = p1 at *
  generalize a.2 * y = p2 at *
  generalize a.1 * b.1 = q1 at *
  generalize a.1 * b.2 = q2 at *
  generalize a.2 * b.1 = q3 at *
  generalize a.2 * b.2 = q4 at *
  omega
theorem prod_mono {a b c d : RT} (hc : a.1 ≤ c.1 ∧ c.2 ≤ a.2) (hd : b.1 ≤ d.1 ∧ d.2 ≤ b.2) (hcn : c.1 ≤ c.2) (hdn : d.1 ≤ d.2) : lo4 a b ≤ lo4 c d ∧ hi4 c d ≤ hi4 a b := by
  have h1 := prod_in (a := a) (b := b) (x := c.1) (y := d.1) ⟨by omega, by omega⟩ ⟨by omega, by omega⟩
  have h2 := prod_in (a := a) (b := b) (x := c.1) (y := d.2) ⟨by omega, by omega⟩ ⟨by omega, by omega⟩
  have h3 := prod_in (a := a) (b := b) (x := c.2) (y := d.1) ⟨by omega, by omega⟩ ⟨by omega, by omega⟩
  have h4 := prod_in (a := a) (b := b) (x := c.2) (y := d.2) ⟨by omega, by omega⟩ ⟨by omega, by omega⟩
  generalize lo4 a b = L at *
  generalize hi4 a b = H at *
  unfold lo4 hi4
  generalize c.1 * d.1 = q1 at *
  generalize c.1 * d.2 = q2 at *
  generalize c.2 * d.1 = q3 at *
  generalize c.2 * d.2 = q4 at *
  omega
theorem prodV_in {a b : RT} {x y : Int} (hx : In a x) (hy : In b y) : In (prodV a b) (wrap64 (x * y)) := by
  have h := prod_in hx hy
  unfold prodV
  split
  · rename_i hf
    unfold I64 at hf
    rw [wrap_id (by unfold I64; omega)]
    exact h
  · exact rFull_in (wrap_in _)
theorem prodV_mono {a b c d : RT} (hc : a.1 ≤ c.1 ∧ c.2 ≤ a.2) (hd : b.1 ≤ d.1 ∧ d.2 ≤ b.2) (hcn : c.1 ≤ c.2) (hdn : d.1 ≤ d.2) : prodV a b = rFull ∨ ((prodV a b).1 ≤ (prodV c d).1 ∧ (prodV c d).2 ≤ (prodV a b).2) := by
  have h := prod_mono hc hd hcn hdn
  have hle : lo4 c d ≤ hi4 c d := by
    have := prod_in (a := c) (b := d) (x := c.1) (y := d.1) ⟨by omega, by omega⟩ ⟨by omega, by omega⟩
    omega
  unfold prodV
  split
  · rename_i hf
    unfold I64 at hf
    rw [if_pos (by unfold I64; omega)]
    exact .inr h
  · exact .inl rfl

/-! ### Bits -/
theorem and_nat (x y : Int) : bits .and .i64 x y = IntKind.i64.wrap (((BitVec.ofInt 64 x).toNat &&& (BitVec.ofInt 64 y).toNat : Nat) : Int) := by
  show IntKind.i64.wrap ((BitVec.ofInt 64 x &&& BitVec.ofInt 64 y).toNat : Nat) = _
  rw [BitVec.toNat_and]
theorem or_nat (x y : Int) : bits .or .i64 x y = IntKind.i64.wrap (((BitVec.ofInt 64 x).toNat ||| (BitVec.ofInt 64 y).toNat : Nat) : Int) := by
  show IntKind.i64.wrap ((BitVec.ofInt 64 x ||| BitVec.ofInt 64 y).toNat : Nat) = _
  rw [BitVec.toNat_or]
theorem toNat_pos {x : Int} (h : 0 ≤ x) (hi : I64 x) : (BitVec.ofInt 64 x).toNat = x.toNat := by
  unfold I64 at hi
  rw [BitVec.toNat_ofInt]
  omega
theorem and_right {x y : Int} (h : 0 ≤ y) (hi : I64 y) : 0 ≤ bits .and .i64 x y ∧ bits .and .i64 x y ≤ y := by
  rw [and_nat, toNat_pos h hi]
  have := Nat.and_le_right (n := (BitVec.ofInt 64 x).toNat) (m := y.toNat)
  unfold I64 at hi
  rw [IntKind.wrap_i64]
  omega
theorem and_left {x y : Int} (h : 0 ≤ x) (hi : I64 x) : 0 ≤ bits .and .i64 x y ∧ bits .and .i64 x y ≤ x := by
  rw [and_nat, toNat_pos h hi]
  have := Nat.and_le_left (n := x.toNat) (m := (BitVec.ofInt 64 y).toNat)
  unfold I64 at hi
  rw [IntKind.wrap_i64]
  omega
theorem bl_spec (n : Nat) (h : n < 18446744073709551616) : n < 2 ^ Lib.bitLen n ∧ (n ≠ 0 → 2 ^ (Lib.bitLen n - 1) ≤ n) := by
  by_cases h0 : n = 0
  · subst h0
    exact ⟨by decide, fun h => absurd rfl h⟩
  · have := Lib.bitLenAux_bounds 64 n h h0
    exact ⟨this.2.2, fun _ => this.2.1⟩
theorem onesV_mono {n m : Nat} (h : n ≤ m) (hm : m < 18446744073709551616) : onesV n ≤ onesV m := by
  unfold onesV
  have h1 := (bl_spec m hm).1
  by_cases hn : n = 0
  · subst hn
    have : Lib.bitLen 0 = 0 := by decide
    rw [this]
    omega
  · have h2 := (bl_spec n (by omega)).2 hn
    have h3 : Lib.bitLen n - 1 < Lib.bitLen m := (Nat.pow_lt_pow_iff_right (by decide : 1 < 2)).1 (by omega)
    have h4 : 2 ^ Lib.bitLen n ≤ 2 ^ Lib.bitLen m := Nat.pow_le_pow_right (by decide) (by omega)
    omega
theorem pow64 {x : Int} (hi : I64 x) : 2 ^ Lib.bitLen x.toNat ≤ 9223372036854775808 := by
  by_cases h : x.toNat = 0
  · rw [h]; decide
  · unfold I64 at hi
    have h2 := (bl_spec x.toNat (by omega)).2 h
    have h3 : Lib.bitLen x.toNat - 1 < 63 := (Nat.pow_lt_pow_iff_right (by decide : 1 < 2)).1 (by show _ < 2 ^ 63; omega)
    have h4 : 2 ^ Lib.bitLen x.toNat ≤ 2 ^ 63 := Nat.pow_le_pow_right (by decide) (by omega)
    omega
theorem or_in {x y m : Int} (hx : 0 ≤ x) (hy : 0 ≤ y) (hxm : x ≤ m) (hym : y ≤ m) (hm : I64 m) : x ≤ bits .or .i64 x y ∧ y ≤ bits .or .i64 x y ∧ bits .or .i64 x y ≤ onesV m.toNat := by
  unfold I64 at hm
  rw [or_nat, toNat_pos hx (by unfold I64; omega), toNat_pos hy (by unfold I64; omega)]
  have h1 := (bl_spec m.toNat (by omega)).1
  have h2 := Nat.or_lt_two_pow (x := x.toNat) (y := y.toNat) (n := Lib.bitLen m.toNat) (by omega) (by omega)
  have h3 := pow64 (x := m) (by unfold I64; omega)
  have h4 := Nat.left_le_or (n := x.toNat) (m := y.toNat)
  have h5 := Nat.right_le_or (n := x.toNat) (m := y.toNat)
  rw [IntKind.wrap_i64]
  unfold onesV
  omega

theorem pow_pos2 (n : Nat) : (0 : Int) < 2 ^ n := Int.pow_pos (by decide)
theorem div_mono {x y : Int} (n : Nat) (h : x ≤ y) : x / 2 ^ n ≤ y / 2 ^ n := Int.ediv_le_ediv (pow_pos2 n) h

/-- Whatever numbers are taken of two ranges, what an operation makes of them is in its range. -/
theorem has_do (op : Int) (a b : RT) (x y : Int) (ha : IR a) (hb : IR b) (hx : In a x) (hy : In b y) (h1 : 16 ≤ op) (h2 : op ≤ 27) (h3 : 26 ≤ op → 0 ≤ y ∧ y ≤ 63) : In (doV op a b) (calcV op x y) := by
  have hix : I64 x := by unfold IR I64 at *; unfold In at *; omega
  have hiy : I64 y := by unfold IR I64 at *; unfold In at *; omega
  unfold doV calcV
  rw [if_neg (by unfold In at *; omega)]
  by_cases c1 : op = 16 ∨ op = 21
  · rw [if_pos c1, if_pos c1]
    unfold sumsV
    split
    · rename_i hf
      unfold I64 at hf
      unfold In at *
      rw [wrap_id (by unfold I64; omega)]
      simp only
      omega
    · exact rFull_in (wrap_in _)
  rw [if_neg c1, if_neg c1]
  by_cases c2 : op = 17 ∨ op = 22
  · rw [if_pos c2, if_pos c2]
    unfold sumsV
    split
    · rename_i hf
      unfold I64 at hf
      unfold In at *
      rw [wrap_id (by unfold I64; omega)]
      simp only
      omega
    · exact rFull_in (wrap_in _)
  rw [if_neg c2, if_neg c2]
  by_cases c3 : op = 20 ∨ op = 25
  · rw [if_pos c3, if_neg (by omega), if_neg (by omega), if_pos c3]
    exact prodV_in hx hy
  rw [if_neg c3]
  by_cases c4 : op = 18 ∨ op = 23
  · rw [if_pos c4, if_pos c4]
    unfold andV
    have hl : 0 ≤ x → 0 ≤ bits .and .i64 x y ∧ bits .and .i64 x y ≤ x := fun h => and_left h hix
    have hr : 0 ≤ y → 0 ≤ bits .and .i64 x y ∧ bits .and .i64 x y ≤ y := fun h => and_right h hiy
    have hin : I64 (bits .and .i64 x y) := by rw [and_nat, IntKind.wrap_i64]; unfold I64; omega
    generalize bits .and .i64 x y = v at *
    unfold In at hx hy
    split
    · have h5 := hl (by omega)
      have h6 := hr (by omega)
      unfold In
      simp only
      omega
    · split
      · have h5 := hl (by omega)
        unfold In
        simp only
        omega
      · split
        · have h6 := hr (by omega)
          unfold In
          simp only
          omega
        · exact rFull_in hin
  rw [if_neg c4, if_neg c4]
  by_cases c5 : op = 19 ∨ op = 24
  · rw [if_pos c5, if_pos c5]
    unfold orV
    split
    · exact rFull_in (by rw [or_nat, IntKind.wrap_i64]; unfold I64; omega)
    · unfold In at hx hy
      have hm : I64 (max a.2 b.2) := by unfold IR I64 at *; omega
      have h5 := or_in (x := x) (y := y) (m := max a.2 b.2) (by omega) (by omega) (by omega) (by omega) hm
      generalize bits .or .i64 x y = v at *
      generalize onesV (max a.2 b.2).toNat = z at *
      unfold In
      simp only
      omega
  rw [if_neg c5, if_neg c5, if_neg c3]
  have h63 := h3 (by omega)
  by_cases c6 : b.1 = b.2
  · have hby : b.1 = y := by unfold In at hy; omega
    rw [if_pos ⟨by omega, c6⟩, hby]
    unfold shiftV
    rw [if_neg (by omega)]
    obtain ⟨n, rfl⟩ : ∃ n : Nat, y = n := ⟨y.toNat, by omega⟩
    rw [Int.toNat_natCast]
    by_cases c7 : op = 26
    · rw [if_pos c7, if_pos c7]
      unfold shlV
      split
      · split
        · rename_i h0
          subst h0
          unfold In at hx
          simp only at hx
          have : x = 0 := by omega
          subst this
          rw [Int.zero_mul]
          rw [wrap_id (by unfold I64; omega)]
          exact ⟨Int.le_refl _, Int.le_refl _⟩
        · exact rFull_in (wrap_in _)
      · exact prodV_in hx ⟨Int.le_refl _, Int.le_refl _⟩
    · rw [if_neg c7, if_neg c7]
      unfold shrV
      split
      · rename_i h0
        subst h0
        rw [Int.pow_zero, Int.ediv_one]
        have : wrap64 (x % 18446744073709551616) = x := by unfold I64 at hix; unfold wrap64; omega
        rw [this]
        exact hx
      · rename_i h0
        split
        · rename_i h5
          unfold In at hx
          have hxe : x % 18446744073709551616 = x := by unfold I64 at hix; omega
          rw [hxe]
          have h6 := div_mono n hx.1
          have h7 := div_mono n hx.2
          have h8 : 0 ≤ x / 2 ^ n := Int.ediv_nonneg (by omega) (Int.le_of_lt (pow_pos2 n))
          have h9 : x / 2 ^ n ≤ x := Int.ediv_le_self _ (by omega)
          rw [wrap_id (by unfold I64 at *; omega)]
          exact ⟨h6, h7⟩
        · have hx0 : 0 ≤ x % 18446744073709551616 := Int.emod_nonneg _ (by decide)
          have h8 : 0 ≤ (x % 18446744073709551616) / 2 ^ n := Int.ediv_nonneg hx0 (Int.le_of_lt (pow_pos2 n))
          have h9 := div_mono n (by omega : x % 18446744073709551616 ≤ 18446744073709551615)
          have h10 : (18446744073709551615 : Int) / 2 ^ n ≤ 9223372036854775807 := by
            obtain ⟨m, rfl⟩ : ∃ m, n = m + 1 := ⟨n - 1, by omega⟩
            rw [Int.pow_succ, Int.mul_comm]
            have e := Int.ediv_ediv (x := 18446744073709551615) (y := 2) (z := 2 ^ m)
            rw [if_neg (by omega), Int.sub_zero] at e
            rw [← e]
            exact Int.ediv_le_self _ (by decide)
          rw [wrap_id (by unfold I64; omega)]
          exact ⟨h8, h9⟩
  · rw [if_neg (fun h => c6 h.2)]
    refine rFull_in ?_
    split
    · exact wrap_in _
    · exact wrap_in _
/-- Of lesser ranges an operation's range is no greater, where it isn't Full. -/
theorem less_do (op : Int) (a b c d : RT) (ha : IR a) (hb : IR b) (hc : a.1 ≤ c.1 ∧ c.2 ≤ a.2) (hd : b.1 ≤ d.1 ∧ d.2 ≤ b.2) (hcn : c.1 ≤ c.2) (hdn : d.1 ≤ d.2) :
    doV op a b = rFull ∨ ((doV op a b).1 ≤ (doV op c d).1 ∧ (doV op c d).2 ≤ (doV op a b).2) := by
  unfold doV
  rw [if_neg (show ¬ (a.1 > a.2 ∨ b.1 > b.2) by omega), if_neg (show ¬ (c.1 > c.2 ∨ d.1 > d.2) by omega)]
  by_cases c1 : op = 16 ∨ op = 21
  · rw [if_pos c1, if_pos c1]
    unfold sumsV I64
    split
    · rw [if_pos (by omega)]
      refine .inr ?_
      simp only
      omega
    · exact .inl rfl
  rw [if_neg c1, if_neg c1]
  by_cases c2 : op = 17 ∨ op = 22
  · rw [if_pos c2, if_pos c2]
    unfold sumsV I64
    split
    · rw [if_pos (by omega)]
      refine .inr ?_
      simp only
      omega
    · exact .inl rfl
  rw [if_neg c2, if_neg c2]
  by_cases c3 : op = 20 ∨ op = 25
  · rw [if_pos c3, if_pos c3]
    exact prodV_mono hc hd hcn hdn
  rw [if_neg c3, if_neg c3]
  by_cases c4 : op = 18 ∨ op = 23
  · rw [if_pos c4, if_pos c4]
    unfold andV
    by_cases h1 : 0 ≤ a.1
    · have h3 : 0 ≤ c.1 := by omega
      by_cases h2 : 0 ≤ b.1
      · rw [if_pos (And.intro h1 h2), if_pos (And.intro h3 (show 0 ≤ d.1 by omega))]
        exact .inr ⟨Int.le_refl _, by simp only; omega⟩
      · rw [if_neg (fun h : 0 ≤ a.1 ∧ 0 ≤ b.1 => h2 h.2), if_pos h1]
        by_cases h4 : 0 ≤ d.1
        · rw [if_pos (And.intro h3 h4)]
          exact .inr ⟨Int.le_refl _, by simp only; omega⟩
        · rw [if_neg (fun h : 0 ≤ c.1 ∧ 0 ≤ d.1 => h4 h.2), if_pos h3]
          exact .inr ⟨Int.le_refl _, by simp only; omega⟩
    · rw [if_neg (fun h : 0 ≤ a.1 ∧ 0 ≤ b.1 => h1 h.1), if_neg h1]
      by_cases h2 : 0 ≤ b.1
      · have h4 : 0 ≤ d.1 := by omega
        rw [if_pos h2]
        by_cases h3 : 0 ≤ c.1
        · rw [if_pos (And.intro h3 h4)]
          exact .inr ⟨Int.le_refl _, by simp only; omega⟩
        · rw [if_neg (fun h : 0 ≤ c.1 ∧ 0 ≤ d.1 => h3 h.1), if_neg h3, if_pos h4]
          exact .inr ⟨Int.le_refl _, by simp only; omega⟩
      · rw [if_neg h2]
        exact .inl rfl
  rw [if_neg c4, if_neg c4]
  by_cases c5 : op = 19 ∨ op = 24
  · rw [if_pos c5, if_pos c5]
    unfold orV
    split
    · exact .inl rfl
    · rw [if_neg (by omega)]
      refine .inr ⟨by simp only; omega, onesV_mono (by omega) (by unfold IR I64 at *; omega)⟩
  rw [if_neg c5, if_neg c5]
  by_cases c6 : (op = 26 ∨ op = 27) ∧ b.1 = b.2
  · have hd1 : d.1 = b.1 := by omega
    rw [if_pos c6, if_pos ⟨c6.1, by omega⟩, hd1]
    unfold shiftV
    split
    · exact .inl rfl
    rename_i hn
    generalize b.1 = n at *
    obtain ⟨n, rfl⟩ : ∃ m : Nat, n = m := ⟨n.toNat, by omega⟩
    rw [Int.toNat_natCast]
    by_cases c7 : op = 26
    · rw [if_pos c7, if_pos c7]
      unfold shlV
      split
      · split
        · rename_i h0
          subst h0
          simp only at hc
          have hc0 : c = (0, 0) := Prod.ext (by simp only; omega) (by simp only; omega)
          rw [if_pos hc0]
          subst hc0
          exact .inr ⟨Int.le_refl _, Int.le_refl _⟩
        · exact .inl rfl
      · exact prodV_mono hc ⟨Int.le_refl _, Int.le_refl _⟩ hcn (Int.le_refl _)
    · rw [if_neg c7, if_neg c7]
      unfold shrV
      split
      · exact .inr hc
      · rename_i h0
        refine .inr ?_
        by_cases h5 : 0 ≤ a.1
        · rw [if_pos h5, if_pos (by omega)]
          exact ⟨div_mono n hc.1, div_mono n hc.2⟩
        · rw [if_neg h5]
          split
          · rename_i h6
            refine ⟨Int.ediv_nonneg h6 (Int.le_of_lt (pow_pos2 n)), ?_⟩
            unfold IR I64 at ha
            exact div_mono n (by omega)
          · exact ⟨Int.le_refl _, Int.le_refl _⟩
  · rw [if_neg c6]
    exact .inl rfl

/-! ### Splits -/
def meetV (a b : RT) : RT := (max a.1 b.1, min a.2 b.2)
def withoutV (r : RT) (n : Int) : RT := if r.1 = n ∧ r.2 = n then rNone else if r.1 = n then (wrap64 (r.1 + 1), r.2) else if r.2 = n then (r.1, wrap64 (r.2 - 1)) else r
def unlikeV (a b : RT) : RT × RT := (if b.1 = b.2 then withoutV a b.1 else a, if a.1 = a.2 then withoutV b a.1 else b)
def lessV (a b : RT) : RT × RT := if b.2 = -9223372036854775808 ∨ a.1 = 9223372036854775807 then (rNone, rNone) else (meetV a (-9223372036854775808, b.2 - 1), meetV b (a.1 + 1, 9223372036854775807))
def leastV (a b : RT) : RT × RT := (meetV a (b.1, 9223372036854775807), meetV b (-9223372036854775808, a.2))
def bothV (p : RT × RT) : RT × RT := if p.1.1 > p.1.2 ∨ p.2.1 > p.2.2 then (rNone, rNone) else p
def splitV (op : Int) (a b : RT) : (RT × RT) × (RT × RT) :=
  if a.1 > a.2 ∨ b.1 > b.2 then ((rNone, rNone), (rNone, rNone))
  else if op = 33 ∨ op = 37 then (bothV (meetV a b, meetV a b), bothV (unlikeV a b))
  else if op = 34 ∨ op = 38 then (bothV (unlikeV a b), bothV (meetV a b, meetV a b))
  else if op = 35 ∨ op = 39 then (bothV (lessV a b), bothV (leastV a b))
  else if op = 36 ∨ op = 40 then (bothV (leastV a b), bothV (lessV a b))
  else ((a, b), (a, b))
def holdsV (op x y : Int) : Bool :=
  if op = 33 ∨ op = 37 then decide (x = y) else if op = 34 ∨ op = 38 then decide (x ≠ y) else if op = 35 ∨ op = 39 then decide (x < y) else decide (x ≥ y)
theorem both_in {p : RT × RT} {x y : Int} (hx : In p.1 x) (hy : In p.2 y) : In (bothV p).1 x ∧ In (bothV p).2 y := by
  unfold bothV
  rw [if_neg (by unfold In at *; omega)]
  exact ⟨hx, hy⟩
theorem meet_in {a b : RT} {x : Int} (h1 : In a x) (h2 : In b x) : In (meetV a b) x := by
  unfold In meetV at *
  simp only
  omega
theorem without_in {r : RT} {n x : Int} (hr : IR r) (hx : In r x) (hn : x ≠ n) : In (withoutV r n) x := by
  unfold IR I64 at hr
  unfold In at hx
  unfold withoutV
  split
  · omega
  · split
    · rw [wrap_id (by unfold I64; omega)]
      unfold In
      simp only
      omega
    · split
      · rw [wrap_id (by unfold I64; omega)]
        unfold In
        simp only
        omega
      · exact hx
theorem unlike_in {a b : RT} {x y : Int} (ha : IR a) (hb : IR b) (hx : In a x) (hy : In b y) (hn : x ≠ y) : In (unlikeV a b).1 x ∧ In (unlikeV a b).2 y := by
  unfold unlikeV
  refine ⟨?_, ?_⟩
  · simp only
    split
    · exact without_in ha hx (by unfold In at hy; omega)
    · exact hx
  · simp only
    split
    · exact without_in hb hy (by unfold In at hx; omega)
    · exact hy
theorem less_in {a b : RT} {x y : Int} (ha : IR a) (hb : IR b) (hx : In a x) (hy : In b y) (hn : x < y) : In (lessV a b).1 x ∧ In (lessV a b).2 y := by
  unfold IR I64 at ha hb
  unfold In at hx hy
  unfold lessV
  rw [if_neg (by omega)]
  exact ⟨meet_in hx (by unfold In; simp only; omega), meet_in hy (by unfold In; simp only; omega)⟩
theorem least_in {a b : RT} {x y : Int} (ha : IR a) (hb : IR b) (hx : In a x) (hy : In b y) (hn : x ≥ y) : In (leastV a b).1 x ∧ In (leastV a b).2 y := by
  unfold IR I64 at ha hb
  unfold In at hx hy
  unfold leastV
  exact ⟨meet_in hx (by unfold In; simp only; omega), meet_in hy (by unfold In; simp only; omega)⟩
theorem split_in (op : Int) (a b : RT) (x y : Int) (ha : IR a) (hb : IR b) (hx : In a x) (hy : In b y) (h1 : 33 ≤ op) (h2 : op ≤ 40) :
    if holdsV op x y then In (splitV op a b).1.1 x ∧ In (splitV op a b).1.2 y else In (splitV op a b).2.1 x ∧ In (splitV op a b).2.2 y := by
  unfold splitV holdsV
  rw [if_neg (show ¬ (a.1 > a.2 ∨ b.1 > b.2) by unfold In at hx hy; omega)]
  by_cases c1 : op = 33 ∨ op = 37
  · rw [if_pos c1, if_pos c1]
    by_cases h : x = y
    · rw [if_pos (by simpa using h)]
      subst h
      exact both_in (p := (meetV a b, meetV a b)) (meet_in hx hy) (meet_in hx hy)
    · rw [if_neg (by simpa using h)]
      exact both_in (unlike_in ha hb hx hy h).1 (unlike_in ha hb hx hy h).2
  rw [if_neg c1, if_neg c1]
  by_cases c2 : op = 34 ∨ op = 38
  · rw [if_pos c2, if_pos c2]
    by_cases h : x = y
    · rw [if_neg (by simpa using h)]
      subst h
      exact both_in (p := (meetV a b, meetV a b)) (meet_in hx hy) (meet_in hx hy)
    · rw [if_pos (by simpa using h)]
      exact both_in (unlike_in ha hb hx hy h).1 (unlike_in ha hb hx hy h).2
  rw [if_neg c2, if_neg c2]
  by_cases c3 : op = 35 ∨ op = 39
  · rw [if_pos c3, if_pos c3]
    by_cases h : x < y
    · rw [if_pos (by simpa using h)]
      exact both_in (less_in ha hb hx hy h).1 (less_in ha hb hx hy h).2
    · rw [if_neg (by simpa using h)]
      exact both_in (least_in ha hb hx hy (by omega)).1 (least_in ha hb hx hy (by omega)).2
  rw [if_neg c3, if_neg c3, if_pos (show op = 36 ∨ op = 40 by omega)]
  by_cases h : x ≥ y
  · rw [if_pos (by simpa using h)]
    exact both_in (least_in ha hb hx hy h).1 (least_in ha hb hx hy h).2
  · rw [if_neg (by simpa using h)]
    exact both_in (less_in ha hb hx hy (by omega)).1 (less_in ha hb hx hy (by omega)).2
end Go.Proofs.Ytoogkjkbdicffaa
