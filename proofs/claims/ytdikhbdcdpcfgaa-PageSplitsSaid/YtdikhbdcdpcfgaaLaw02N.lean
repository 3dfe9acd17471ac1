/- The law PageNumbers, walked. -/
import Derived.Test.YtdikhbdcdpcfgaaPgSetR
import Derived.Test.YtdikhbdcdpcfgaaSeq
import Derived.Test.YtdikhbdcdpcfgaaPgEq
namespace Go.Proofs.Ytdikhbdcdpcfgaa
open Go.RowKit

set_option maxRecDepth 100000 in
set_option maxHeartbeats 400000 in
theorem awake02 (w : World) : Calls Try.prog 14 #[] w fun e w' => e = .returned (.bool true) ∧ Below w.heap.size w w' := by
  have c3 : (pgc (pset zp 3 2 258))[3]? = some (.int .u8 1) := by kernel_rfl
  have c4 : (pgc (pset zp 3 2 258))[4]? = some (.int .u8 2) := by kernel_rfl
  have c2 : (pgc (pset zp 3 2 258))[2]? = some (.int .u8 0) := by kernel_rfl
  have c5 : (pgc (pset zp 3 2 258))[5]? = some (.int .u8 0) := by kernel_rfl
  have cg : pget (pset zp 3 2 258) 3 2 = 258 := by kernel_rfl
  go_enter Try.func14, Try.ntmps14
  go_wp2_with (first | ((with_reducible refine pg_load ?_); refine ⟨rfl, _, _, rfl, by (with_reducible first | exact heap_alloc_last _ _ | exact heap_alloc2_old _ _ _ | exact heap_alloc2_new _ _ _ | assumption), ?_⟩; (simp only [Act.put, List.setIfInBounds_toArray, List.set_cons_succ, List.set_cons_zero])) | ((with_reducible refine pg_store ?_); refine ⟨rfl, _, by simp, rfl, by with_reducible first | exact zc_size | exact pgc_size _, ?_⟩; simp only [Act.put]) | ((with_reducible refine pg_alloc ?_); refine ⟨rfl, ?_⟩; (simp only [Act.put, List.setIfInBounds_toArray, List.set_cons_succ, List.set_cons_zero])) | ((with_reducible refine pg_build ?_); refine ⟨rfl, ?_⟩; (simp only [Act.put, List.setIfInBounds_toArray, List.set_cons_succ, List.set_cons_zero])) | (go_at_call 15; refine (get_any _ _ _ _).mono ?_; rintro e w2 ⟨rfl, hb2⟩; obtain ⟨hc2, hf2⟩ := bcell hb2) | (go_at_call 17; refine (set_any _ _ _ _ _).mono ?_; rintro e w1 ⟨rfl, hb⟩))
  go_ret
  exact ⟨rfl, (hb.alloc hb.size _).trans (hb2.mono (by simp; have := hb.size; omega))⟩

theorem Try.mixed : Try.prog.follows .mixedOrders = true := by kernel_rfl

set_option maxRecDepth 100000 in
set_option maxHeartbeats 4000000 in
theorem walk_PageNumbers (p : Nat → UInt8) (a s n : Int) (w : World) :
    Calls Try.prog 3 #[.agg (pgc p), .agg #[.int .i64 a, .int .i64 s], .int .i64 n] w fun e w' => e = .returned (.bool true) ∧ Below w.heap.size w w' := by
  have he : pgEq (pset p a s n) (pset p a s n) = true := (pgEq_iff _ _).2 fun _ _ => rfl
  go_enter Try.func3, Try.ntmps3
  go_wp2_with (first | ((with_reducible refine pg_load ?_); refine ⟨rfl, _, _, rfl, by (with_reducible first | exact heap_alloc_last _ _ | exact heap_alloc2_old _ _ _ | exact heap_alloc2_new _ _ _ | assumption), ?_⟩; (simp only [Act.put, List.setIfInBounds_toArray, List.set_cons_succ, List.set_cons_zero])) | ((with_reducible refine pg_store ?_); refine ⟨rfl, _, by simp, rfl, by with_reducible first | exact zc_size | exact pgc_size _, ?_⟩; simp only [Act.put]) | ((with_reducible refine pg_alloc ?_); refine ⟨rfl, ?_⟩; (simp only [Act.put, List.setIfInBounds_toArray, List.set_cons_succ, List.set_cons_zero])) | ((with_reducible refine pg_build ?_); refine ⟨rfl, ?_⟩; (simp only [Act.put, List.setIfInBounds_toArray, List.set_cons_succ, List.set_cons_zero])) | (go_at_call 14; refine (awake02 _).mono ?_; rintro e w1 ⟨rfl, hb1⟩))
  have hA := blk_of hb1 (heap_alloc2_old _ _ _)
  have hB := blk_of hb1 (heap_alloc2_new _ _ _)
  refine wp_region_seq (S := fun w' => Below w1.heap.size w1 w') Try.mixed (by kernel_rfl) (by kernel_rfl) (Below.refl _ _).drew ?_
  repeat (first | (refine seq_skip rfl ?_; (simp only [Act.put, List.setIfInBounds_toArray, List.set_cons_succ, List.set_cons_zero])) | (refine seq_take (v := ?_) rfl (of_decide_eq_true rfl) (fun w9 hS => ?_) ?_; rotate_left; (focus ((have hAc := blk_of hS hA; have hBc := blk_of hS hB; have hAi := fun i => cell_of_row w9 _ i _ _ _ hAc; have hBi := fun i => cell_of_row w9 _ i _ _ _ hBc); go_wp2_with (first | ((with_reducible refine pg_load ?_); refine ⟨rfl, _, _, rfl, by (with_reducible first | exact heap_alloc_last _ _ | exact heap_alloc2_old _ _ _ | exact heap_alloc2_new _ _ _ | assumption), ?_⟩; (simp only [Act.put, List.setIfInBounds_toArray, List.set_cons_succ, List.set_cons_zero])) | ((with_reducible refine pg_store ?_); refine ⟨rfl, _, by simp, rfl, by with_reducible first | exact zc_size | exact pgc_size _, ?_⟩; simp only [Act.put]) | ((with_reducible refine pg_alloc ?_); refine ⟨rfl, ?_⟩; (simp only [Act.put, List.setIfInBounds_toArray, List.set_cons_succ, List.set_cons_zero])) | ((with_reducible refine pg_build ?_); refine ⟨rfl, ?_⟩; (simp only [Act.put, List.setIfInBounds_toArray, List.set_cons_succ, List.set_cons_zero])) | ((with_reducible refine pg_eql ?_); refine ⟨rfl, _, _, _, rfl, rfl, by first | with_reducible assumption | rfl, ?_⟩; (simp only [Act.put, List.setIfInBounds_toArray, List.set_cons_succ, List.set_cons_zero])) | (go_at_call 15; refine (get_any _ _ _ _).mono ?_; rintro e w8 ⟨rfl, hb9⟩) | (go_at_call 16; refine (rget_any _ _ _ _).mono ?_; rintro e w8 ⟨rfl, hb9⟩) | (go_at_call 17; refine (set_any _ _ _ _ _).mono ?_; rintro e w8 ⟨rfl, hb9⟩) | (go_at_call 18; refine (rset_any _ _ _ _ _).mono ?_; rintro e w8 ⟨rfl, hb9⟩)); refine VQ_mk ?_ rfl ?_; (focus rfl); (first | exact hS | exact hS.trans (Below.mono (by assumption) hS.size)))); (simp only [Act.put, List.setIfInBounds_toArray, List.set_cons_succ, List.set_cons_zero, Array.getD_eq_getD_getElem?, List.getElem?_toArray, List.getElem?_cons_succ, List.getElem?_cons_zero, Option.getD_some])))
  refine seq_nil (fun w9 hS => ?_)
  go_wp2
  go_ret
  exact ⟨rfl, ((((Below.refl _ _).alloc (Nat.le_refl _) _).alloc (by simp) _).trans (hb1.mono (by simp; omega))).trans (hS.mono (by have := hb1.size; simp at this; omega))⟩
end Go.Proofs.Ytdikhbdcdpcfgaa
