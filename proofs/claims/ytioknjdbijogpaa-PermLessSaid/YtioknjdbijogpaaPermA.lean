/- Chapter 26: what somebody may: perm.bits and perm.May, walked. -/
import Derived.Test.YtioknjdbijogpaaPermL
import Derived.Test.YtioknjdbijogpaaBld
import Derived.Test.YtioknjdbijogpaaBldS
import Derived.Test.YtioknjdbijogpaaSt
namespace Go.Proofs.Ytioknjdbijogpaa
open Go.RowKit
set_option linter.unusedSimpArgs false
set_option linter.unusedVariables false

theorem aX1 : AggT Try.prog 23 6 := ⟨by kernel_rfl, by kernel_rfl⟩
def zAttr : Array Value := #[.int .i64 0, .int .i64 0, .int .i64 0, .int .i64 0, .int .i64 0, .int .i64 0]
theorem zX1 : ZeroT Try.prog 23 zAttr := by unfold ZeroT; kernel_rfl
theorem oInt : OneT Try.prog 3 := by unfold OneT; kernel_rfl

set_option maxHeartbeats 1000000 in
set_option maxRecDepth 100000 in
theorem permBits_is (u : Int) (cs : Array Value) (p o : Int) (h2 : cs[2]? = some (.int .i64 p)) (h3 : cs[3]? = some (.int .i64 o)) (w : World) :
    Calls Try.prog 28 #[.int .i64 u, .agg cs] w fun e w' => e = .returned (.int .i64 (pBits u p o)) ∧ Below w.heap.size w w' := by
  have hSt := St.start w
  have m1 : bits .and .i64 p 7 = p % 8 := i64_mask p 3 (by decide)
  have m2 : bits .and .i64 (p / 64) 7 = p / 64 % 8 := i64_mask (p / 64) 3 (by decide)
  go_enter Try.func28, Try.ntmps28
  go_wp2_with (first | ((with_reducible refine ev_box hSt ?_); refine ⟨rfl, _, rfl, ?_⟩; intro gN wN hSt; (simp only [Act.put, List.setIfInBounds_toArray, List.set_cons_succ, List.set_cons_zero])) | ((with_reducible refine ev_load1 hSt oInt ?_); refine ⟨rfl, _, _, _, _, _, rfl, (by repeat (first | exact List.mem_cons_self .. | refine List.mem_cons_of_mem _ ?_)), (by first | exact h2 | exact h3), ?_⟩; (simp only [Act.put, List.setIfInBounds_toArray, List.set_cons_succ, List.set_cons_zero])))
  · rename_i h
    go_ret
    refine ⟨?_, hSt.base⟩
    rw [pBits, if_pos (by simpa using h)]
    rfl
  · rename_i h h'
    go_ret
    refine ⟨?_, hSt.base⟩
    rw [pBits, if_neg (by simpa using h), if_pos (by simpa using h'), ← m2]
    rfl
  · rename_i h h'
    go_ret
    refine ⟨?_, hSt.base⟩
    rw [pBits, if_neg (by simpa using h), if_neg (by simpa using h'), ← m1]
    rfl

set_option maxHeartbeats 1000000 in
set_option maxRecDepth 100000 in
theorem permMay_is (u : Int) (cs : Array Value) (p o k : Int) (hn : cs.size = 6) (h2 : cs[2]? = some (.int .i64 p)) (h3 : cs[3]? = some (.int .i64 o)) (w : World) :
    Calls Try.prog 11 #[.int .i64 u, .agg cs, .int .i64 k] w fun e w' => e = .returned (.bool (mayB u p o k)) ∧ Below w.heap.size w w' := by
  have hSt := St.start w
  go_enter Try.func11, Try.ntmps11
  by_cases h0 : 0 ≤ k
  · have e0 : decide (0 ≤ k) = true := decide_eq_true h0
    by_cases h7 : k ≤ 7
    · have e7 : decide (k ≤ 7) = true := decide_eq_true h7
      go_wp2_with (first
        | ((with_reducible refine ev_box hSt ?_); refine ⟨rfl, _, rfl, ?_⟩; intro gN wN hSt; (simp only [Act.put, List.setIfInBounds_toArray, List.set_cons_succ, List.set_cons_zero]))
        | ((with_reducible refine ev_load hSt aX1 ?_); refine ⟨rfl, _, _, _, rfl, (by repeat (first | exact List.mem_cons_self .. | refine List.mem_cons_of_mem _ ?_)), hn, ?_⟩; (simp only [Act.put, List.setIfInBounds_toArray, List.set_cons_succ, List.set_cons_zero]))
        | (go_at_call 28; refine (permBits_is u cs p o h2 h3 _).mono ?_; rintro e w1 ⟨rfl, hb9⟩; replace hSt := hSt.ext hb9))
      go_ret
      refine ⟨?_, hSt.base⟩
      rw [← may_in u p o k h0 h7]
      rfl
    · have e7 : decide (k ≤ 7) = false := decide_eq_false h7
      go_wp2_with (first | ((with_reducible refine ev_box hSt ?_); refine ⟨rfl, _, rfl, ?_⟩; intro gN wN hSt; (simp only [Act.put, List.setIfInBounds_toArray, List.set_cons_succ, List.set_cons_zero])))
      go_ret
      refine ⟨?_, hSt.base⟩
      rw [may_out u p o k (by omega)]
      rfl
  · have e0 : decide (0 ≤ k) = false := decide_eq_false h0
    go_wp2_with (first | ((with_reducible refine ev_box hSt ?_); refine ⟨rfl, _, rfl, ?_⟩; intro gN wN hSt; (simp only [Act.put, List.setIfInBounds_toArray, List.set_cons_succ, List.set_cons_zero])))
    go_ret
    refine ⟨?_, hSt.base⟩
    rw [may_out u p o k (by omega)]
    rfl

/-- The letter at place k. -/
def letB (n : Int) (k : Nat) : UInt8 := if n / 2 ^ (8 - k) % 2 = 0 then 45 else [114, 119, 120, 114, 119, 120, 114, 119, 120].getD k 0
def letN (n : Int) (k : Nat) : List UInt8 := (List.range k).map (letB n)
theorem letN_succ (n : Int) (k : Nat) : letN n (k + 1) = letN n k ++ [letB n k] := by simp [letN, List.range_succ]
theorem letN_length (n : Int) (k : Nat) : (letN n k).length = k := by simp [letN]
/-- What perm.Text answers. -/
def textB (n : Int) : List UInt8 := if n < 0 ∨ 511 < n then [] else letN n 9
def rwx : ByteArray := ⟨#[114, 119, 120, 114, 119, 120, 114, 119, 120]⟩

set_option maxHeartbeats 4000000 in
set_option maxRecDepth 100000 in
theorem permText_is (n : Int) (w : World) :
    Calls Try.prog 12 #[.int .i64 n] w fun e w' => e = .returned (.string ⟨(textB n).toArray⟩) ∧ Below w.heap.size w w' := by
  by_cases h0 : n < 0
  · have e0 : decide (n < 0) = true := decide_eq_true h0
    go_enter Try.func12, Try.ntmps12
    go_wp2
    go_ret
    rw [textB, if_pos (Or.inl h0)]
    exact ⟨rfl, Below.refl _ _⟩
  have e0 : decide (n < 0) = false := decide_eq_false h0
  by_cases h1 : 511 < n
  · have e1 : decide (n > 511) = true := decide_eq_true h1
    go_enter Try.func12, Try.ntmps12
    go_wp2
    go_ret
    rw [textB, if_pos (Or.inr h1)]
    exact ⟨rfl, Below.refl _ _⟩
  have e1 : decide (n > 511) = false := decide_eq_false h1
  rw [textB, if_neg (by omega)]
  have e2 : decide (511 < n) = false := decide_eq_false h1
  go_enter Try.func12, Try.ntmps12
  go_wp2
  go_loopw [] (fun wr => ∃ k : Nat, k ≤ 9 ∧ Lib.IsBuilderF 58 5 w.heap.size w.heap.size (Lib.byteCells (letN n k)) wr ∧ wr.heap[w.heap.size + 1]? = some (.stringIter rwx k) ∧ Below w.heap.size w wr) (fun wr => 9 - wr.iterPos (w.heap.size + 1))
  case atStart =>
    refine ⟨0, by omega, (Lib.IsBuilderF.of (Lib.fresh_isBuilder 58 5 w)).alloc _, ?_, ((Below.refl _ w).alloc (Nat.le_refl _) _).alloc (by simp) _⟩
    have := World.iter_heap (w.alloc (.cells #[.pointer none, .slice none 0 0] 58)) rwx 0
    simp at this
    exact this
  case round =>
    obtain ⟨k, hk, hI, hit, hbw⟩ := hrel
    have hsz : w.heap.size + 1 < wr.heap.size := (Array.getElem?_eq_some_iff.1 hit).1
    by_cases h9 : k = 9
    · subst h9
      have hnx : ∀ ty, (Instr.next (.pointer (some ⟨w.heap.size + 1, 0, none⟩)) true ty).run Try.prog wr = _ := fun ty => Lib.run_next_end_at wr (w.heap.size + 1) rwx 9 ty hit (by decide)
      go_wp2_with (go_at_call 30; refine (bldString w.heap.size w.heap.size (letN n 9) _ hI (by omega)).mono ?_; rintro e W1 ⟨rfl, -, b1, -⟩)
      go_ret
      exact ⟨rfl, hbw.trans b1⟩
    · have hw2 := Lib.below_iterAt hbw (k := w.heap.size + 1) (by omega) rwx (k + 1)
      have hsz2 : w.heap.size ≤ (wr.iterAt (w.heap.size + 1) rwx (k + 1)).heap.size := by rw [Lib.iterAt_size]; omega
      have hI2 := hI.iterAt hit (k + 1)
      have hit2 := Lib.iterAt_heap wr (w.heap.size + 1) rwx k (k + 1) hit
      have hlen : (Lib.byteCells (letN n k)).length + 1 ≤ 140737488355328 := by rw [Lib.byteCells_length, letN_length]; omega
      have hlb := letN_succ n k
      rcases (by omega : k = 0 ∨ k = 1 ∨ k = 2 ∨ k = 3 ∨ k = 4 ∨ k = 5 ∨ k = 6 ∨ k = 7 ∨ k = 8) with rfl | rfl | rfl | rfl | rfl | rfl | rfl | rfl | rfl
      · have hnx : ∀ ty, (Instr.next (.pointer (some ⟨w.heap.size + 1, 0, none⟩)) true ty).run Try.prog wr = .ok (.tuple #[.bool true, .int .i64 0, .int .i32 114]) (wr.iterAt (w.heap.size + 1) rwx 1) := fun ty => Lib.run_next_ascii_at wr (w.heap.size + 1) rwx 0 ty hit (by decide) (by decide)
        have hm := i64_mask (n / 256) 1 (by decide)
        have hm1 : bits .and .i64 n 1 = n % 2 := i64_mask n 1 (by decide)
        simp only [Int.reducePow, Int.reduceSub] at hm
        by_cases hz : n / 256 % 2 = 0
        · have hl : letB n 0 = 45 := by rw [letB, if_pos (by simpa using hz)]
          go_wp2_with (go_at_call 29; refine (writeRune_ascii w.heap.size w.heap.size _ 45 (by decide) (by decide) _ hI2 hlen hsz2).mono ?_; rintro e W1 ⟨rfl, h1, b1, k1⟩)
          refine ⟨⟨0 + 1, by omega, ?_, k1.iter hit2 (by omega), hw2.trans b1⟩, ?_⟩
          · rw [hlb, Lib.byteCells_append, hl]; exact Or.inr h1
          · simp only [World.iterPos, k1.iter hit2 (by omega), hit]; omega
        · have hl : letB n 0 = 114 := by rw [letB, if_neg (by simpa using hz)]; rfl
          go_wp2_with (go_at_call 29; refine (writeRune_ascii w.heap.size w.heap.size _ 114 (by decide) (by decide) _ hI2 hlen hsz2).mono ?_; rintro e W1 ⟨rfl, h1, b1, k1⟩)
          refine ⟨⟨0 + 1, by omega, ?_, k1.iter hit2 (by omega), hw2.trans b1⟩, ?_⟩
          · rw [hlb, Lib.byteCells_append, hl]; exact Or.inr h1
          · simp only [World.iterPos, k1.iter hit2 (by omega), hit]; omega
      · have hnx : ∀ ty, (Instr.next (.pointer (some ⟨w.heap.size + 1, 0, none⟩)) true ty).run Try.prog wr = .ok (.tuple #[.bool true, .int .i64 1, .int .i32 119]) (wr.iterAt (w.heap.size + 1) rwx 2) := fun ty => Lib.run_next_ascii_at wr (w.heap.size + 1) rwx 1 ty hit (by decide) (by decide)
        have hm := i64_mask (n / 128) 1 (by decide)
        have hm1 : bits .and .i64 n 1 = n % 2 := i64_mask n 1 (by decide)
        simp only [Int.reducePow, Int.reduceSub] at hm
        by_cases hz : n / 128 % 2 = 0
        · have hl : letB n 1 = 45 := by rw [letB, if_pos (by simpa using hz)]
          go_wp2_with (go_at_call 29; refine (writeRune_ascii w.heap.size w.heap.size _ 45 (by decide) (by decide) _ hI2 hlen hsz2).mono ?_; rintro e W1 ⟨rfl, h1, b1, k1⟩)
          refine ⟨⟨1 + 1, by omega, ?_, k1.iter hit2 (by omega), hw2.trans b1⟩, ?_⟩
          · rw [hlb, Lib.byteCells_append, hl]; exact Or.inr h1
          · simp only [World.iterPos, k1.iter hit2 (by omega), hit]; omega
        · have hl : letB n 1 = 119 := by rw [letB, if_neg (by simpa using hz)]; rfl
          go_wp2_with (go_at_call 29; refine (writeRune_ascii w.heap.size w.heap.size _ 119 (by decide) (by decide) _ hI2 hlen hsz2).mono ?_; rintro e W1 ⟨rfl, h1, b1, k1⟩)
          refine ⟨⟨1 + 1, by omega, ?_, k1.iter hit2 (by omega), hw2.trans b1⟩, ?_⟩
          · rw [hlb, Lib.byteCells_append, hl]; exact Or.inr h1
          · simp only [World.iterPos, k1.iter hit2 (by omega), hit]; omega
      · have hnx : ∀ ty, (Instr.next (.pointer (some ⟨w.heap.size + 1, 0, none⟩)) true ty).run Try.prog wr = .ok (.tuple #[.bool true, .int .i64 2, .int .i32 120]) (wr.iterAt (w.heap.size + 1) rwx 3) := fun ty => Lib.run_next_ascii_at wr (w.heap.size + 1) rwx 2 ty hit (by decide) (by decide)
        have hm := i64_mask (n / 64) 1 (by decide)
        have hm1 : bits .and .i64 n 1 = n % 2 := i64_mask n 1 (by decide)
        simp only [Int.reducePow, Int.reduceSub] at hm
        by_cases hz : n / 64 % 2 = 0
        · have hl : letB n 2 = 45 := by rw [letB, if_pos (by simpa using hz)]
          go_wp2_with (go_at_call 29; refine (writeRune_ascii w.heap.size w.heap.size _ 45 (by decide) (by decide) _ hI2 hlen hsz2).mono ?_; rintro e W1 ⟨rfl, h1, b1, k1⟩)
          refine ⟨⟨2 + 1, by omega, ?_, k1.iter hit2 (by omega), hw2.trans b1⟩, ?_⟩
          · rw [hlb, Lib.byteCells_append, hl]; exact Or.inr h1
          · simp only [World.iterPos, k1.iter hit2 (by omega), hit]; omega
        · have hl : letB n 2 = 120 := by rw [letB, if_neg (by simpa using hz)]; rfl
          go_wp2_with (go_at_call 29; refine (writeRune_ascii w.heap.size w.heap.size _ 120 (by decide) (by decide) _ hI2 hlen hsz2).mono ?_; rintro e W1 ⟨rfl, h1, b1, k1⟩)
          refine ⟨⟨2 + 1, by omega, ?_, k1.iter hit2 (by omega), hw2.trans b1⟩, ?_⟩
          · rw [hlb, Lib.byteCells_append, hl]; exact Or.inr h1
          · simp only [World.iterPos, k1.iter hit2 (by omega), hit]; omega
      · have hnx : ∀ ty, (Instr.next (.pointer (some ⟨w.heap.size + 1, 0, none⟩)) true ty).run Try.prog wr = .ok (.tuple #[.bool true, .int .i64 3, .int .i32 114]) (wr.iterAt (w.heap.size + 1) rwx 4) := fun ty => Lib.run_next_ascii_at wr (w.heap.size + 1) rwx 3 ty hit (by decide) (by decide)
        have hm := i64_mask (n / 32) 1 (by decide)
        have hm1 : bits .and .i64 n 1 = n % 2 := i64_mask n 1 (by decide)
        simp only [Int.reducePow, Int.reduceSub] at hm
        by_cases hz : n / 32 % 2 = 0
        · have hl : letB n 3 = 45 := by rw [letB, if_pos (by simpa using hz)]
          go_wp2_with (go_at_call 29; refine (writeRune_ascii w.heap.size w.heap.size _ 45 (by decide) (by decide) _ hI2 hlen hsz2).mono ?_; rintro e W1 ⟨rfl, h1, b1, k1⟩)
          refine ⟨⟨3 + 1, by omega, ?_, k1.iter hit2 (by omega), hw2.trans b1⟩, ?_⟩
          · rw [hlb, Lib.byteCells_append, hl]; exact Or.inr h1
          · simp only [World.iterPos, k1.iter hit2 (by omega), hit]; omega
        · have hl : letB n 3 = 114 := by rw [letB, if_neg (by simpa using hz)]; rfl
          go_wp2_with (go_at_call 29; refine (writeRune_ascii w.heap.size w.heap.size _ 114 (by decide) (by decide) _ hI2 hlen hsz2).mono ?_; rintro e W1 ⟨rfl, h1, b1, k1⟩)
          refine ⟨⟨3 + 1, by omega, ?_, k1.iter hit2 (by omega), hw2.trans b1⟩, ?_⟩
          · rw [hlb, Lib.byteCells_append, hl]; exact Or.inr h1
          · simp only [World.iterPos, k1.iter hit2 (by omega), hit]; omega
      · have hnx : ∀ ty, (Instr.next (.pointer (some ⟨w.heap.size + 1, 0, none⟩)) true ty).run Try.prog wr = .ok (.tuple #[.bool true, .int .i64 4, .int .i32 119]) (wr.iterAt (w.heap.size + 1) rwx 5) := fun ty => Lib.run_next_ascii_at wr (w.heap.size + 1) rwx 4 ty hit (by decide) (by decide)
        have hm := i64_mask (n / 16) 1 (by decide)
        have hm1 : bits .and .i64 n 1 = n % 2 := i64_mask n 1 (by decide)
        simp only [Int.reducePow, Int.reduceSub] at hm
        by_cases hz : n / 16 % 2 = 0
        · have hl : letB n 4 = 45 := by rw [letB, if_pos (by simpa using hz)]
          go_wp2_with (go_at_call 29; refine (writeRune_ascii w.heap.size w.heap.size _ 45 (by decide) (by decide) _ hI2 hlen hsz2).mono ?_; rintro e W1 ⟨rfl, h1, b1, k1⟩)
          refine ⟨⟨4 + 1, by omega, ?_, k1.iter hit2 (by omega), hw2.trans b1⟩, ?_⟩
          · rw [hlb, Lib.byteCells_append, hl]; exact Or.inr h1
          · simp only [World.iterPos, k1.iter hit2 (by omega), hit]; omega
        · have hl : letB n 4 = 119 := by rw [letB, if_neg (by simpa using hz)]; rfl
          go_wp2_with (go_at_call 29; refine (writeRune_ascii w.heap.size w.heap.size _ 119 (by decide) (by decide) _ hI2 hlen hsz2).mono ?_; rintro e W1 ⟨rfl, h1, b1, k1⟩)
          refine ⟨⟨4 + 1, by omega, ?_, k1.iter hit2 (by omega), hw2.trans b1⟩, ?_⟩
          · rw [hlb, Lib.byteCells_append, hl]; exact Or.inr h1
          · simp only [World.iterPos, k1.iter hit2 (by omega), hit]; omega
      · have hnx : ∀ ty, (Instr.next (.pointer (some ⟨w.heap.size + 1, 0, none⟩)) true ty).run Try.prog wr = .ok (.tuple #[.bool true, .int .i64 5, .int .i32 120]) (wr.iterAt (w.heap.size + 1) rwx 6) := fun ty => Lib.run_next_ascii_at wr (w.heap.size + 1) rwx 5 ty hit (by decide) (by decide)
        have hm := i64_mask (n / 8) 1 (by decide)
        have hm1 : bits .and .i64 n 1 = n % 2 := i64_mask n 1 (by decide)
        simp only [Int.reducePow, Int.reduceSub] at hm
        by_cases hz : n / 8 % 2 = 0
        · have hl : letB n 5 = 45 := by rw [letB, if_pos (by simpa using hz)]
          go_wp2_with (go_at_call 29; refine (writeRune_ascii w.heap.size w.heap.size _ 45 (by decide) (by decide) _ hI2 hlen hsz2).mono ?_; rintro e W1 ⟨rfl, h1, b1, k1⟩)
          refine ⟨⟨5 + 1, by omega, ?_, k1.iter hit2 (by omega), hw2.trans b1⟩, ?_⟩
          · rw [hlb, Lib.byteCells_append, hl]; exact Or.inr h1
          · simp only [World.iterPos, k1.iter hit2 (by omega), hit]; omega
        · have hl : letB n 5 = 120 := by rw [letB, if_neg (by simpa using hz)]; rfl
          go_wp2_with (go_at_call 29; refine (writeRune_ascii w.heap.size w.heap.size _ 120 (by decide) (by decide) _ hI2 hlen hsz2).mono ?_; rintro e W1 ⟨rfl, h1, b1, k1⟩)
          refine ⟨⟨5 + 1, by omega, ?_, k1.iter hit2 (by omega), hw2.trans b1⟩, ?_⟩
          · rw [hlb, Lib.byteCells_append, hl]; exact Or.inr h1
          · simp only [World.iterPos, k1.iter hit2 (by omega), hit]; omega
      · have hnx : ∀ ty, (Instr.next (.pointer (some ⟨w.heap.size + 1, 0, none⟩)) true ty).run Try.prog wr = .ok (.tuple #[.bool true, .int .i64 6, .int .i32 114]) (wr.iterAt (w.heap.size + 1) rwx 7) := fun ty => Lib.run_next_ascii_at wr (w.heap.size + 1) rwx 6 ty hit (by decide) (by decide)
        have hm := i64_mask (n / 4) 1 (by decide)
        have hm1 : bits .and .i64 n 1 = n % 2 := i64_mask n 1 (by decide)
        simp only [Int.reducePow, Int.reduceSub] at hm
        by_cases hz : n / 4 % 2 = 0
        · have hl : letB n 6 = 45 := by rw [letB, if_pos (by simpa using hz)]
          go_wp2_with (go_at_call 29; refine (writeRune_ascii w.heap.size w.heap.size _ 45 (by decide) (by decide) _ hI2 hlen hsz2).mono ?_; rintro e W1 ⟨rfl, h1, b1, k1⟩)
          refine ⟨⟨6 + 1, by omega, ?_, k1.iter hit2 (by omega), hw2.trans b1⟩, ?_⟩
          · rw [hlb, Lib.byteCells_append, hl]; exact Or.inr h1
          · simp only [World.iterPos, k1.iter hit2 (by omega), hit]; omega
        · have hl : letB n 6 = 114 := by rw [letB, if_neg (by simpa using hz)]; rfl
          go_wp2_with (go_at_call 29; refine (writeRune_ascii w.heap.size w.heap.size _ 114 (by decide) (by decide) _ hI2 hlen hsz2).mono ?_; rintro e W1 ⟨rfl, h1, b1, k1⟩)
          refine ⟨⟨6 + 1, by omega, ?_, k1.iter hit2 (by omega), hw2.trans b1⟩, ?_⟩
          · rw [hlb, Lib.byteCells_append, hl]; exact Or.inr h1
          · simp only [World.iterPos, k1.iter hit2 (by omega), hit]; omega
      · have hnx : ∀ ty, (Instr.next (.pointer (some ⟨w.heap.size + 1, 0, none⟩)) true ty).run Try.prog wr = .ok (.tuple #[.bool true, .int .i64 7, .int .i32 119]) (wr.iterAt (w.heap.size + 1) rwx 8) := fun ty => Lib.run_next_ascii_at wr (w.heap.size + 1) rwx 7 ty hit (by decide) (by decide)
        have hm := i64_mask (n / 2) 1 (by decide)
        have hm1 : bits .and .i64 n 1 = n % 2 := i64_mask n 1 (by decide)
        simp only [Int.reducePow, Int.reduceSub] at hm
        by_cases hz : n / 2 % 2 = 0
        · have hl : letB n 7 = 45 := by rw [letB, if_pos (by simpa using hz)]
          go_wp2_with (go_at_call 29; refine (writeRune_ascii w.heap.size w.heap.size _ 45 (by decide) (by decide) _ hI2 hlen hsz2).mono ?_; rintro e W1 ⟨rfl, h1, b1, k1⟩)
          refine ⟨⟨7 + 1, by omega, ?_, k1.iter hit2 (by omega), hw2.trans b1⟩, ?_⟩
          · rw [hlb, Lib.byteCells_append, hl]; exact Or.inr h1
          · simp only [World.iterPos, k1.iter hit2 (by omega), hit]; omega
        · have hl : letB n 7 = 119 := by rw [letB, if_neg (by simpa using hz)]; rfl
          go_wp2_with (go_at_call 29; refine (writeRune_ascii w.heap.size w.heap.size _ 119 (by decide) (by decide) _ hI2 hlen hsz2).mono ?_; rintro e W1 ⟨rfl, h1, b1, k1⟩)
          refine ⟨⟨7 + 1, by omega, ?_, k1.iter hit2 (by omega), hw2.trans b1⟩, ?_⟩
          · rw [hlb, Lib.byteCells_append, hl]; exact Or.inr h1
          · simp only [World.iterPos, k1.iter hit2 (by omega), hit]; omega
      · have hnx : ∀ ty, (Instr.next (.pointer (some ⟨w.heap.size + 1, 0, none⟩)) true ty).run Try.prog wr = .ok (.tuple #[.bool true, .int .i64 8, .int .i32 120]) (wr.iterAt (w.heap.size + 1) rwx 9) := fun ty => Lib.run_next_ascii_at wr (w.heap.size + 1) rwx 8 ty hit (by decide) (by decide)
        have hm := i64_mask (n / 1) 1 (by decide)
        have hm1 : bits .and .i64 n 1 = n % 2 := i64_mask n 1 (by decide)
        simp only [Int.reducePow, Int.reduceSub] at hm
        by_cases hz : n / 1 % 2 = 0
        · have hl : letB n 8 = 45 := by rw [letB, if_pos (by simpa using hz)]
          go_wp2_with (go_at_call 29; refine (writeRune_ascii w.heap.size w.heap.size _ 45 (by decide) (by decide) _ hI2 hlen hsz2).mono ?_; rintro e W1 ⟨rfl, h1, b1, k1⟩)
          refine ⟨⟨8 + 1, by omega, ?_, k1.iter hit2 (by omega), hw2.trans b1⟩, ?_⟩
          · rw [hlb, Lib.byteCells_append, hl]; exact Or.inr h1
          · simp only [World.iterPos, k1.iter hit2 (by omega), hit]; omega
        · have hl : letB n 8 = 120 := by rw [letB, if_neg (by simpa using hz)]; rfl
          go_wp2_with (go_at_call 29; refine (writeRune_ascii w.heap.size w.heap.size _ 120 (by decide) (by decide) _ hI2 hlen hsz2).mono ?_; rintro e W1 ⟨rfl, h1, b1, k1⟩)
          refine ⟨⟨8 + 1, by omega, ?_, k1.iter hit2 (by omega), hw2.trans b1⟩, ?_⟩
          · rw [hlb, Lib.byteCells_append, hl]; exact Or.inr h1
          · simp only [World.iterPos, k1.iter hit2 (by omega), hit]; omega

end Go.Proofs.Ytioknjdbijogpaa
