/- Chapter 07: the reference's Get. -/
import Derived.Test.YtmnofoflbhdgjaaBitG
namespace Go.Proofs.Ytmnofoflbhdgjaa
open Go.RowKit
set_option linter.unusedSimpArgs false
set_option linter.unusedVariables false

theorem testBit_div (b k : Nat) : ((((b / 2 ^ k : Nat) : Int) % 2 == 1) : Bool) = b.testBit k := by
  rw [Nat.testBit_eq_decide_div_mod_eq]
  rw [Bool.eq_iff_iff, beq_iff_eq, decide_eq_true_eq]
  omega
set_option maxHeartbeats 1000000 in
set_option maxRecDepth 100000 in
theorem rget_in (i : Nat) (a : Option Addr) (ps : List PgT) (cap : Nat) (w : World) (hn : ps.length ≤ 100) (hl : PgSl w a ps) (hi : i < 512 * ps.length) :
    Calls Try.prog 29 #[.slice a ps.length cap, .int .i64 i] w fun e w' => e = .returned (.bool (bitP ps i)) ∧ w' = w := by
  have hq : i / 512 < ps.length := by omega
  obtain ⟨x, rfl, hat⟩ := hl (i / 512) hq
  have hcell := hat (i % 512 / 8) (by omega)
  have hb0 := UInt8.toNat_lt (ps[i / 512] (i % 512 / 8))
  have hbit : bitP ps i = (ps[i / 512] (i % 512 / 8)).toNat.testBit (i % 8) := by
    unfold bitP
    rw [List.getD_eq_getElem?_getD, List.getElem?_eq_getElem hq, Option.getD_some]
  rw [hbit]
  generalize (ps[i / 512] (i % 512 / 8)).toNat = b0 at *
  clear hbit
  go_enter Try.func29, Try.ntmps29
  go_wp2
  go_loopw [5, 6] (fun b k wr => ∃ j : Nat, j ≤ i % 8 ∧ k = .int .i64 j ∧ b = .int .i64 ((b0 / 2 ^ j : Nat) : Int) ∧ wr = w) (fun _ k _ => i % 8 - (intOf k).toNat)
  case atStart => exact ⟨0, Nat.zero_le _, rfl, by simp, rfl⟩
  case round =>
    obtain ⟨j, hj, rfl, rfl, rfl⟩ := hrel
    have hle : b0 / 2 ^ j ≤ b0 := Nat.div_le_self _ _
    have hstep : b0 / 2 ^ (j + 1) = b0 / 2 ^ j / 2 := by rw [Nat.pow_succ, Nat.div_div_eq_div_mul]
    have htb := testBit_div b0 j
    generalize b0 / 2 ^ j = q at *
    by_cases hlt : j < i % 8
    · go_wp2
      go_roundw
      case rel => exact ⟨j + 1, by omega, by go_num, by rw [hstep]; go_num, by first | trivial | rfl⟩
      case measure => simp [intOf]; omega
    · obtain rfl : j = i % 8 := by omega
      go_wp2
      go_ret
      exact ⟨rfl, rfl⟩
set_option maxHeartbeats 1000000 in
set_option maxRecDepth 100000 in
theorem rget_neg (i : Int) (a : Option Addr) (n cap : Nat) (w : World) (hi : i < 0) :
    Calls Try.prog 29 #[.slice a n cap, .int .i64 i] w fun e w' => e = .returned (.bool false) ∧ w' = w := by
  have e1 : decide (i < 0) = true := decide_eq_true hi
  go_enter Try.func29, Try.ntmps29
  go_wp2
  go_ret
  exact ⟨rfl, rfl⟩
set_option maxHeartbeats 1000000 in
set_option maxRecDepth 100000 in
theorem rget_big (i : Nat) (a : Option Addr) (n cap : Nat) (w : World) (hi : 512 * n ≤ i) (hi2 : i ≤ 9223372036854775807) :
    Calls Try.prog 29 #[.slice a n cap, .int .i64 i] w fun e w' => e = .returned (.bool false) ∧ w' = w := by
  have e1 : decide ((i : Int) < 0) = false := decide_eq_false (by omega)
  have e2 : decide ((n : Int) ≤ (i : Int) / 512) = true := decide_eq_true (by omega)
  go_enter Try.func29, Try.ntmps29
  go_wp2
  go_ret
  exact ⟨rfl, rfl⟩
theorem rget_is (i : Int) (a : Option Addr) (ps : List PgT) (cap : Nat) (w : World) (hn : ps.length ≤ 100) (hl : PgSl w a ps) (hi2 : i ≤ 9223372036854775807) :
    Calls Try.prog 29 #[.slice a ps.length cap, .int .i64 i] w fun e w' => e = .returned (.bool (getB ps i)) ∧ w' = w := by
  unfold getB
  by_cases h : 0 ≤ i ∧ i < 512 * (ps.length : Int)
  · rw [decide_eq_true h, Bool.true_and]
    obtain ⟨k, rfl⟩ := Int.eq_ofNat_of_zero_le h.1
    exact rget_in k a ps cap w hn hl (by omega)
  · rw [decide_eq_false h, Bool.false_and]
    by_cases h0 : i < 0
    · exact rget_neg i a ps.length cap w h0
    · obtain ⟨k, rfl⟩ := Int.eq_ofNat_of_zero_le (by omega : 0 ≤ i)
      exact rget_big k a ps.length cap w (by omega) (by omega)
end Go.Proofs.Ytmnofoflbhdgjaa
