/- The law PageBack, walked. -/
import Derived.Test.YtdikhbdcdpcfgaaLaw02N
import Derived.Test.YtdikhbdcdpcfgaaPgLaws
namespace Go.Proofs.Ytdikhbdcdpcfgaa
open Go.RowKit
set_option linter.unusedSimpArgs false

set_option maxRecDepth 100000 in
set_option maxHeartbeats 1600000 in
theorem walk_PageBack_yes (p : Nat → UInt8) (a s : Nat) (n : Int) (w : World) (h1 : 1 ≤ s) (h2 : s ≤ 4) (h3 : a + s ≤ 64) :
    Calls Try.prog 4 #[.agg (pgc p), .agg #[.int .i64 a, .int .i64 s], .int .i64 n] w fun e w' => e = .returned (.bool true) ∧ Below w.heap.size w w' := by
  go_enter Try.func4, Try.ntmps4
  go_wp2_with (first | ((with_reducible refine pg_load ?_); refine ⟨rfl, _, _, rfl, by (with_reducible first | exact heap_alloc_last _ _ | exact heap_alloc2_old _ _ _ | exact heap_alloc2_new _ _ _ | assumption), ?_⟩; (simp only [Act.put, List.setIfInBounds_toArray, List.set_cons_succ, List.set_cons_zero])) | ((with_reducible refine pg_store ?_); refine ⟨rfl, _, by simp, rfl, by with_reducible first | exact zc_size | exact pgc_size _, ?_⟩; simp only [Act.put]) | ((with_reducible refine pg_alloc ?_); refine ⟨rfl, ?_⟩; (simp only [Act.put, List.setIfInBounds_toArray, List.set_cons_succ, List.set_cons_zero])) | ((with_reducible refine pg_build ?_); refine ⟨rfl, ?_⟩; (simp only [Act.put, List.setIfInBounds_toArray, List.set_cons_succ, List.set_cons_zero])) | (go_at_call 14; refine (awake02 _).mono ?_; rintro e w1 ⟨rfl, hb1⟩; have hA := blk_of hb1 (heap_alloc2_old _ _ _); have hB := blk_of hb1 (heap_alloc2_new _ _ _); have hBi := fun i => cell_of_row w1 _ i _ _ _ hB) | (go_at_call 17; refine (set_any _ _ _ _ _).mono ?_; rintro e w2 ⟨rfl, hb2⟩; have hA2 := blk_of hb2 hA; have hB2 := blk_of hb2 hB; have hB2i := fun i => cell_of_row w2 _ i _ _ _ hB2; have hl2 := lt_of_blk hB2))
  have hA3 := (Below.heap_alloc w2 (.cells (pgc (pset p a s n)) 23) _ (lt_of_blk hA2)).trans hA2
  have hB3 := (Below.heap_alloc w2 (.cells (pgc (pset p a s n)) 23) _ hl2).trans hB2
  have hC3 := heap_alloc_last w2 (.cells (pgc (pset p a s n)) 23)
  have hb3 : Below w.heap.size w (w2.alloc (.cells (pgc (pset p a s n)) 23)) :=
    (((((Below.refl _ _).alloc (Nat.le_refl _) _).alloc (by simp) _).trans (hb1.mono (by simp; omega))).trans (hb2.mono (by have := hb1.size; simp at this; omega))).alloc (by omega) _
  generalize w2.alloc (.cells (pgc (pset p a s n)) 23) = w3 at hA3 hB3 hC3 hb3 ⊢
  have hm := mask_wrap s h1 h2
  have hand := and_mask p a s n h1 h2 h3
  have HM := Lib.hid hm
  have HAND := Lib.hid hand
  rw [HM.out]
  clear hm hand hb1 hb2 hA hB hBi hA2 hB2 hB2i hl2
  go_loopw [57] (fun i wr => ∃ k : Nat, k ≤ 64 ∧ i = .int .i64 k ∧ Below w3.heap.size w3 wr) (fun i _ => 64 - (intOf i).toNat)
  case atStart => exact ⟨0, Nat.zero_le _, rfl, Below.refl _ _⟩
  case round =>
    obtain ⟨k, hk, rfl, hbr⟩ := hrel
    have hA := blk_of hbr hA3
    have hB := blk_of hbr hB3
    have hC := blk_of hbr hC3
    by_cases h64 : k < 64
    · by_cases c : k < a ∨ a + s ≤ k
      · have cq : (pgc (pset p a s n))[k]? = some (.int .u8 ((p k).toNat : Int)) := by
          rw [pgc_get _ _ h64, pset_out p a s n k (by omega)]
        have cp := pgc_get p k h64
        by_cases c1 : k < a
        · clear c
          go_wp2_with (fail)
          (refine wp_region_seq (S := fun w' => Below wr.heap.size wr w') Try.mixed (by kernel_rfl) (by kernel_rfl) (Below.refl _ _).drew ?_)
          repeat (first | (refine seq_skip rfl ?_; (simp only [Act.put, List.setIfInBounds_toArray, List.set_cons_succ, List.set_cons_zero])) | (refine seq_take (v := ?_) rfl (of_decide_eq_true rfl) (fun w9 hS => ?_) ?_; rotate_left; (focus (((have hAc := blk_of hS hA; have hBc := blk_of hS hB; have hAi := fun i => cell_of_row w9 _ i _ _ _ hAc; have hBi := fun i => cell_of_row w9 _ i _ _ _ hBc); have hCc := blk_of hS hC; have hCi := fun i => cell_of_row w9 _ i _ _ _ hCc); go_wp2_with (first | ((with_reducible refine pg_load ?_); refine ⟨rfl, _, _, rfl, by (with_reducible first | exact heap_alloc_last _ _ | exact heap_alloc2_old _ _ _ | exact heap_alloc2_new _ _ _ | assumption), ?_⟩; (simp only [Act.put, List.setIfInBounds_toArray, List.set_cons_succ, List.set_cons_zero])) | ((with_reducible refine pg_store ?_); refine ⟨rfl, _, by simp, rfl, by with_reducible first | exact zc_size | exact pgc_size _, ?_⟩; simp only [Act.put]) | ((with_reducible refine pg_alloc ?_); refine ⟨rfl, ?_⟩; (simp only [Act.put, List.setIfInBounds_toArray, List.set_cons_succ, List.set_cons_zero])) | ((with_reducible refine pg_build ?_); refine ⟨rfl, ?_⟩; (simp only [Act.put, List.setIfInBounds_toArray, List.set_cons_succ, List.set_cons_zero])) | ((with_reducible refine pg_eql ?_); refine ⟨rfl, _, _, rfl, rfl, ?_⟩; (simp only [Act.put, List.setIfInBounds_toArray, List.set_cons_succ, List.set_cons_zero])) | (go_at_call 15; refine (get_any _ _ _ _).mono ?_; rintro e w8 ⟨rfl, hb9⟩) | (go_at_call 17; refine (set_any _ _ _ _ _).mono ?_; rintro e w8 ⟨rfl, hb9⟩)); refine VQ_mk ?_ rfl ?_; (focus rfl); (first | exact hS | exact hS.trans (Below.mono (by assumption) hS.size)))); (simp only [Act.put, List.setIfInBounds_toArray, List.set_cons_succ, List.set_cons_zero, Array.getD_eq_getD_getElem?, List.getElem?_toArray, List.getElem?_cons_succ, List.getElem?_cons_zero, Option.getD_some])))
          refine seq_nil (fun w9 hS => ?_)
          go_wp2_with (fail)
          go_roundw
          case rel => exact ⟨k + 1, by omega, by go_num, hbr.trans (hS.mono hbr.size)⟩
          case measure => simp [intOf]; omega
        · have hd1 : decide ((k : Int) < (a : Int)) = false := decide_eq_false (by omega)
          have hd2 : decide ((a : Int) + (s : Int) ≤ (k : Int)) = true := decide_eq_true (by omega)
          clear c
          go_wp2_with (fail)
          (refine wp_region_seq (S := fun w' => Below wr.heap.size wr w') Try.mixed (by kernel_rfl) (by kernel_rfl) (Below.refl _ _).drew ?_)
          repeat (first | (refine seq_skip rfl ?_; (simp only [Act.put, List.setIfInBounds_toArray, List.set_cons_succ, List.set_cons_zero])) | (refine seq_take (v := ?_) rfl (of_decide_eq_true rfl) (fun w9 hS => ?_) ?_; rotate_left; (focus (((have hAc := blk_of hS hA; have hBc := blk_of hS hB; have hAi := fun i => cell_of_row w9 _ i _ _ _ hAc; have hBi := fun i => cell_of_row w9 _ i _ _ _ hBc); have hCc := blk_of hS hC; have hCi := fun i => cell_of_row w9 _ i _ _ _ hCc); go_wp2_with (first | ((with_reducible refine pg_load ?_); refine ⟨rfl, _, _, rfl, by (with_reducible first | exact heap_alloc_last _ _ | exact heap_alloc2_old _ _ _ | exact heap_alloc2_new _ _ _ | assumption), ?_⟩; (simp only [Act.put, List.setIfInBounds_toArray, List.set_cons_succ, List.set_cons_zero])) | ((with_reducible refine pg_store ?_); refine ⟨rfl, _, by simp, rfl, by with_reducible first | exact zc_size | exact pgc_size _, ?_⟩; simp only [Act.put]) | ((with_reducible refine pg_alloc ?_); refine ⟨rfl, ?_⟩; (simp only [Act.put, List.setIfInBounds_toArray, List.set_cons_succ, List.set_cons_zero])) | ((with_reducible refine pg_build ?_); refine ⟨rfl, ?_⟩; (simp only [Act.put, List.setIfInBounds_toArray, List.set_cons_succ, List.set_cons_zero])) | ((with_reducible refine pg_eql ?_); refine ⟨rfl, _, _, rfl, rfl, ?_⟩; (simp only [Act.put, List.setIfInBounds_toArray, List.set_cons_succ, List.set_cons_zero])) | (go_at_call 15; refine (get_any _ _ _ _).mono ?_; rintro e w8 ⟨rfl, hb9⟩) | (go_at_call 17; refine (set_any _ _ _ _ _).mono ?_; rintro e w8 ⟨rfl, hb9⟩)); refine VQ_mk ?_ rfl ?_; (focus rfl); (first | exact hS | exact hS.trans (Below.mono (by assumption) hS.size)))); (simp only [Act.put, List.setIfInBounds_toArray, List.set_cons_succ, List.set_cons_zero, Array.getD_eq_getD_getElem?, List.getElem?_toArray, List.getElem?_cons_succ, List.getElem?_cons_zero, Option.getD_some])))
          refine seq_nil (fun w9 hS => ?_)
          go_wp2_with (fail)
          go_roundw
          case rel => exact ⟨k + 1, by omega, by go_num, hbr.trans (hS.mono hbr.size)⟩
          case measure => simp [intOf]; omega
      · have c1 : ¬ k < a := by omega
        have c2 : ¬ a + s ≤ k := by omega
        have hd1 : decide ((k : Int) < (a : Int)) = false := decide_eq_false (by omega)
        have hd2 : decide ((a : Int) + (s : Int) ≤ (k : Int)) = false := decide_eq_false (by omega)
        clear c
        go_wp2_with (fail)
        (refine wp_region_seq (S := fun w' => Below wr.heap.size wr w') Try.mixed (by kernel_rfl) (by kernel_rfl) (Below.refl _ _).drew ?_)
        repeat (first | (refine seq_skip rfl ?_; (simp only [Act.put, List.setIfInBounds_toArray, List.set_cons_succ, List.set_cons_zero])) | (refine seq_take (v := ?_) rfl (of_decide_eq_true rfl) (fun w9 hS => ?_) ?_; rotate_left; (focus (((have hAc := blk_of hS hA; have hBc := blk_of hS hB; have hAi := fun i => cell_of_row w9 _ i _ _ _ hAc; have hBi := fun i => cell_of_row w9 _ i _ _ _ hBc); have hCc := blk_of hS hC; have hCi := fun i => cell_of_row w9 _ i _ _ _ hCc); go_wp2_with (first | ((with_reducible refine pg_load ?_); refine ⟨rfl, _, _, rfl, by (with_reducible first | exact heap_alloc_last _ _ | exact heap_alloc2_old _ _ _ | exact heap_alloc2_new _ _ _ | assumption), ?_⟩; (simp only [Act.put, List.setIfInBounds_toArray, List.set_cons_succ, List.set_cons_zero])) | ((with_reducible refine pg_store ?_); refine ⟨rfl, _, by simp, rfl, by with_reducible first | exact zc_size | exact pgc_size _, ?_⟩; simp only [Act.put]) | ((with_reducible refine pg_alloc ?_); refine ⟨rfl, ?_⟩; (simp only [Act.put, List.setIfInBounds_toArray, List.set_cons_succ, List.set_cons_zero])) | ((with_reducible refine pg_build ?_); refine ⟨rfl, ?_⟩; (simp only [Act.put, List.setIfInBounds_toArray, List.set_cons_succ, List.set_cons_zero])) | ((with_reducible refine pg_eql ?_); refine ⟨rfl, _, _, rfl, rfl, ?_⟩; (simp only [Act.put, List.setIfInBounds_toArray, List.set_cons_succ, List.set_cons_zero])) | (go_at_call 15; refine (get_any _ _ _ _).mono ?_; rintro e w8 ⟨rfl, hb9⟩) | (go_at_call 17; refine (set_any _ _ _ _ _).mono ?_; rintro e w8 ⟨rfl, hb9⟩)); refine VQ_mk ?_ rfl ?_; (focus rfl); (first | exact hS | exact hS.trans (Below.mono (by assumption) hS.size)))); (simp only [Act.put, List.setIfInBounds_toArray, List.set_cons_succ, List.set_cons_zero, Array.getD_eq_getD_getElem?, List.getElem?_toArray, List.getElem?_cons_succ, List.getElem?_cons_zero, Option.getD_some])))
        refine seq_nil (fun w9 hS => ?_)
        go_wp2_with (fail)
        go_roundw
        case rel => exact ⟨k + 1, by omega, by go_num, hbr.trans (hS.mono hbr.size)⟩
        case measure => simp [intOf]; omega
    · have hand := HAND.out
      have hBi := fun i => cell_of_row wr _ i _ _ _ hB
      go_wp2_with (first | ((with_reducible refine pg_load ?_); refine ⟨rfl, _, _, rfl, by (with_reducible first | exact heap_alloc_last _ _ | exact heap_alloc2_old _ _ _ | exact heap_alloc2_new _ _ _ | assumption), ?_⟩; (simp only [Act.put, List.setIfInBounds_toArray, List.set_cons_succ, List.set_cons_zero])) | ((with_reducible refine pg_store ?_); refine ⟨rfl, _, by simp, rfl, by with_reducible first | exact zc_size | exact pgc_size _, ?_⟩; simp only [Act.put]) | ((with_reducible refine pg_alloc ?_); refine ⟨rfl, ?_⟩; (simp only [Act.put, List.setIfInBounds_toArray, List.set_cons_succ, List.set_cons_zero])) | ((with_reducible refine pg_build ?_); refine ⟨rfl, ?_⟩; (simp only [Act.put, List.setIfInBounds_toArray, List.set_cons_succ, List.set_cons_zero])) | (go_at_call 15; refine (get_any _ _ _ _).mono ?_; rintro e w8 ⟨rfl, hb9⟩) | (go_at_call 17; refine (set_any _ _ _ _ _).mono ?_; rintro e w8 ⟨rfl, hb9⟩))
      go_ret
      exact ⟨rfl, (hb3.trans (hbr.mono hb3.size)).trans (hb9.mono (by have := hb3.size; have := hbr.size; omega))⟩
end Go.Proofs.Ytdikhbdcdpcfgaa
