/- Chapter 07: has, place, Get, walked. -/
import Derived.Test.YtmnofoflbhdgjaaPgRow
import Derived.Test.YtmnofoflbhdgjaaPgEq
import Derived.Test.YtmnofoflbhdgjaaSt
import Derived.Test.YtmnofoflbhdgjaaRel
namespace Go.Proofs.Ytmnofoflbhdgjaa
open Go.RowKit
set_option linter.unusedSimpArgs false
set_option linter.unusedVariables false

abbrev PgT := Nat → UInt8
set_option maxHeartbeats 1000000 in
set_option maxRecDepth 100000 in
theorem has_is (i : Int) (a : Option Addr) (n cap : Nat) (w : World) (hn : n ≤ 100) :
    Calls Try.prog 53 #[.int .i64 i, .slice a n cap] w fun e w' => e = .returned (.bool (decide (0 ≤ i ∧ i < 512 * n))) ∧ w' = w := by
  have hm : wrap64 (512 * (n : Int)) = 512 * n := by unfold wrap64; omega
  by_cases h0 : 0 ≤ i
  · have e1 : decide (i ≥ 0) = true := decide_eq_true (by omega)
    have e2 : decide (0 ≤ i) = true := decide_eq_true (by omega)
    have e3 : decide (0 ≤ i ∧ i < 512 * (n : Int)) = decide (i < 512 * (n : Int)) := by simp [h0]
    rw [e3]
    go_enter Try.func53, Try.ntmps53
    go_wp2
    go_ret
    exact ⟨rfl, rfl⟩
  · have e1 : decide (i ≥ 0) = false := decide_eq_false (by omega)
    have e2 : decide (0 ≤ i) = false := decide_eq_false (by omega)
    have e3 : decide (0 ≤ i ∧ i < 512 * (n : Int)) = false := decide_eq_false (by omega)
    rw [e3]
    go_enter Try.func53, Try.ntmps53
    go_wp2
    go_ret
    exact ⟨rfl, rfl⟩

theorem res_tmp3 {P : Program} {fn : Func} {a b c : Tmp} (h : fn.results = #[.tmp a, .tmp b, .tmp c]) (tmps : Array Value) (w : World) : (results fn tmps).run P w = .ok (.tuple #[tmps.getD a undef, tmps.getD b undef, tmps.getD c undef]) w := by
  simp [results, h]
theorem pow8 (k : Nat) (h : k < 8) : (2 : Int) ^ k % 256 = ((2 ^ k : Nat) : Int) := by
  rcases (by omega : k = 0 ∨ k = 1 ∨ k = 2 ∨ k = 3 ∨ k = 4 ∨ k = 5 ∨ k = 6 ∨ k = 7) with rfl | rfl | rfl | rfl | rfl | rfl | rfl | rfl <;> rfl
set_option maxHeartbeats 1000000 in
set_option maxRecDepth 100000 in
theorem place_is (i : Nat) (w : World) (hi : i ≤ 1000000) :
    Calls Try.prog 54 #[.int .i64 i] w fun e w' => e = .returned (.tuple #[.int .i64 ((i / 512 : Nat) : Int), .int .i64 ((i % 512 / 8 : Nat) : Int), .int .u8 ((2 ^ (i % 8) : Nat) : Int)]) ∧ Below w.heap.size w w' := by
  rw [← pow8 (i % 8) (Nat.mod_lt _ (by decide))]
  go_enter Try.func54, Try.ntmps54
  go_wp2
  go_region
  go_wp2
  (try simp only [Exit.inBlock, Exit.then])
  refine bodyPost_ret (res_tmp3 rfl _ _) rfl ?_
  exact ⟨rfl, (Below.refl _ _).drew⟩

theorem and_all : ((List.range 256).all fun n => (List.range 8).all fun k => (bits .and .u8 (n : Int) ((2 : Int) ^ k) != 0) == n.testBit k) = true := by kernel_rfl
theorem and_bit (n k : Nat) (hn : n < 256) (hk : k < 8) : (bits .and .u8 (n : Int) ((2 : Int) ^ k) != 0) = n.testBit k := by
  have := List.all_eq_true.1 (List.all_eq_true.1 and_all n (List.mem_range.2 hn)) k (List.mem_range.2 hk)
  exact beq_iff_eq.1 this
/-- A bit of some pages. -/
def bitP (ps : List PgT) (i : Nat) : Bool := ((ps.getD (i / 512) zp) (i % 512 / 8)).toNat.testBit (i % 8)
def getB (ps : List PgT) (i : Int) : Bool := decide (0 ≤ i ∧ i < 512 * ps.length) && bitP ps i.toNat
set_option maxHeartbeats 1000000 in
set_option maxRecDepth 100000 in
theorem get_in (i : Nat) (a : Option Addr) (ps : List PgT) (cap : Nat) (w : World) (hn : ps.length ≤ 100) (hl : PgSl w a ps) (hi : i < 512 * ps.length) :
    Calls Try.prog 28 #[.int .i64 i, .slice a ps.length cap] w fun e w' => e = .returned (.bool (bitP ps i)) ∧ Below w.heap.size w w' := by
  have hH := fun w => has_is i a ps.length cap w hn
  rw [decide_eq_true (by omega : (0 : Int) ≤ (i : Int) ∧ (i : Int) < 512 * (ps.length : Int))] at hH
  have hP := fun w => place_is i w (by omega)
  have hq : i / 512 < ps.length := by omega
  obtain ⟨x, rfl, hat⟩ := hl (i / 512) hq
  have hcell := hat (i % 512 / 8) (by omega)
  go_enter Try.func28, Try.ntmps28
  go_wp2_with (first
    | (go_at_call 53; refine (hH _).mono ?_; rintro e w1 ⟨rfl, rfl⟩)
    | (go_at_call 54; refine (hP _).mono ?_; rintro e w1 ⟨rfl, hb9⟩; have hcell9 := (hb9.cell (cell_lt hcell)).trans hcell))
  go_ret
  refine ⟨congrArg (fun b => Ending.returned (Value.bool b)) ?_, hb9⟩
  refine (and_bit _ _ (UInt8.toNat_lt _) (Nat.mod_lt _ (by decide))).trans ?_
  unfold bitP
  rw [List.getD_eq_getElem?_getD, List.getElem?_eq_getElem hq, Option.getD_some]
set_option maxHeartbeats 1000000 in
set_option maxRecDepth 100000 in
theorem get_out (i : Int) (a : Option Addr) (n cap : Nat) (w : World) (hn : n ≤ 100) (hi : ¬ (0 ≤ i ∧ i < 512 * n)) :
    Calls Try.prog 28 #[.int .i64 i, .slice a n cap] w fun e w' => e = .returned (.bool false) ∧ Below w.heap.size w w' := by
  have hH := fun w => has_is i a n cap w hn
  rw [decide_eq_false hi] at hH
  go_enter Try.func28, Try.ntmps28
  go_wp2_with (first
    | (go_at_call 53; refine (hH _).mono ?_; rintro e w1 ⟨rfl, rfl⟩))
  go_ret
  exact ⟨rfl, Below.refl _ _⟩
theorem get_is (i : Int) (a : Option Addr) (ps : List PgT) (cap : Nat) (w : World) (hn : ps.length ≤ 100) (hl : PgSl w a ps) :
    Calls Try.prog 28 #[.int .i64 i, .slice a ps.length cap] w fun e w' => e = .returned (.bool (getB ps i)) ∧ Below w.heap.size w w' := by
  unfold getB
  by_cases h : 0 ≤ i ∧ i < 512 * (ps.length : Int)
  · rw [decide_eq_true h, Bool.true_and]
    obtain ⟨k, rfl⟩ := Int.eq_ofNat_of_zero_le h.1
    exact get_in k a ps cap w hn hl (by omega)
  · rw [decide_eq_false h, Bool.false_and]
    exact get_out i a ps.length cap w hn h
end Go.Proofs.Ytmnofoflbhdgjaa
