/- The walk of the reference's Text. -/
import Derived.Test.YtdikhbdcdpcfgaaPgText
import Derived.Test.YtdikhbdcdpcfgaaSeq
namespace Go.Proofs.Ytdikhbdcdpcfgaa
open Go.RowKit
set_option linter.unusedSimpArgs false

theorem ptxt_zero (p : Nat → UInt8) (a : Nat) : ptxt p a 0 = ⟨#[]⟩ := rfl
theorem ptxt_size (p : Nat → UInt8) (a n : Nat) : (ptxt p a n).size = n := by rw [ptxt, strOfNums_size]; simp
theorem strOfNums_append (xs ys : List Int) : strOfNums xs ++ strOfNums ys = strOfNums (xs ++ ys) := by
  apply ByteArray.ext
  simp [strOfNums]
theorem ptxt_succ (p : Nat → UInt8) (a k : Nat) : ptxt p a k ++ strOfNums [((p (a + k)).toNat : Int)] = ptxt p a (k + 1) := by
  unfold ptxt
  rw [strOfNums_append, List.range_succ, List.map_append]
  rfl

set_option maxRecDepth 100000 in
set_option maxHeartbeats 400000 in
theorem rtext_yes (p : Nat → UInt8) (a s : Nat) (w : World) (h3 : a + s ≤ 64) :
    Calls Try.prog 20 #[.agg (pgc p), .int .i64 a, .int .i64 s] w fun e w' => e = .returned (.string (ptxt p a s)) ∧ Below w.heap.size w w' := by
  have hn : inPg a s := by unfold inPg; omega
  go_enter Try.func20, Try.ntmps20
  go_wp2_with fail
  have hA0 := heap_alloc_last w (.cells (pgc p) 23)
  have hb0 : Below w.heap.size w (w.alloc (.cells (pgc p) 23)) := (Below.refl _ _).alloc (Nat.le_refl _) _
  generalize w.alloc (.cells (pgc p) 23) = w0 at hA0 hb0 ⊢
  go_loopw [7, 8] (fun t i wr => ∃ k : Nat, k ≤ s ∧ i = .int .i64 k ∧ t = .string (ptxt p a k) ∧ Below w0.heap.size w0 wr) (fun _ i _ => s - (intOf i).toNat)
  case atStart =>
    exact ⟨0, Nat.zero_le _, rfl, rfl, Below.refl _ _⟩
  case round =>
    obtain ⟨k, hk, rfl, rfl, hbr⟩ := hrel
    have hA := blk_of hbr hA0
    by_cases hlt : k < s
    · have hc := pgc_get p (a + k) (by omega)
      have hci := fun i => cell_of_row wr _ i _ _ _ hA
      have hl := lt_of_blk hA
      have hcv := run_convert_bytes_arg (P := Try.prog) (wr.alloc (.cells #[.int .u8 ((p (a + k)).toNat : Int)] 5)) 57 5 Try.underlying57 Try.underlying5 wr.heap.size 0 1 1 [((p (a + k)).toNat : Int)] (by simp)
        (fun i hi => by
          obtain rfl : i = 0 := by omega
          rw [cell_of_row _ _ _ _ _ _ (heap_alloc_last wr _)]
          rfl) 9 Try.underlying9
      have hz : ¬ 9223372036854775807 < (ptxt p a k).size + (strOfNums [((p (a + k)).toNat : Int)]).size := by
        rw [ptxt_size, strOfNums_size]
        simp only [List.length_singleton]
        omega
      go_wp2_with (go_at_call 51; refine (rIn_yes _ _ _ hn).mono ?_; rintro e w' ⟨rfl, rfl⟩)
      go_roundw
      case rel => exact ⟨k + 1, by omega, by go_num, by rw [ptxt_succ], hbr.alloc hbr.size _⟩
      case measure => simp [intOf]; omega
    · obtain rfl : k = s := by omega
      go_wp2_with fail
      go_ret
      exact ⟨rfl, hb0.trans (hbr.mono hb0.size)⟩

theorem rtext_no (p : Nat → UInt8) (a s : Int) (w : World) (h : ¬ inPg a s) :
    Calls Try.prog 20 #[.agg (pgc p), .int .i64 a, .int .i64 s] w fun e w' => e = .returned (.string ⟨#[]⟩) ∧ Below w.heap.size w w' := by
  have HN := Lib.hid h; clear h
  go_enter Try.func20, Try.ntmps20
  go_wp2_with fail
  go_loop [7, 8] (fun t i => i = .int .i64 0 ∧ t = .string ⟨#[]⟩) (fun _ _ => 0)
  case atStart => exact ⟨rfl, rfl⟩
  case round =>
    obtain ⟨rfl, rfl⟩ := hrel
    by_cases c : 0 < s
    · go_wp2_with (go_at_call 51; refine (rIn_no _ _ _ HN.out).mono ?_; rintro e w' ⟨rfl, rfl⟩)
      go_ret
      exact ⟨rfl, (Below.refl _ _).alloc (Nat.le_refl _) _⟩
    · go_wp2_with fail
      go_ret
      exact ⟨rfl, (Below.refl _ _).alloc (Nat.le_refl _) _⟩

theorem rtext_any (p : Nat → UInt8) (a s : Int) (w : World) :
    Calls Try.prog 20 #[.agg (pgc p), .int .i64 a, .int .i64 s] w fun e w' => e = .returned (.string (pgtext p a s)) ∧ Below w.heap.size w w' := by
  by_cases h : inPg a s
  · rw [pgtext, if_pos h]
    obtain ⟨h1, h2, h3, h4⟩ := h
    obtain ⟨x, rfl⟩ := Int.eq_ofNat_of_zero_le h1
    obtain ⟨y, rfl⟩ := Int.eq_ofNat_of_zero_le h2
    simp only [Int.toNat_natCast] at *
    exact rtext_yes p x y w (by omega)
  · rw [pgtext, if_neg h]
    exact rtext_no p a s w h
end Go.Proofs.Ytdikhbdcdpcfgaa
