/- The walks of page.Set and the reference's Set. -/
import Derived.Test.YtioknjdbijogpaaPgGet
namespace Go.Proofs.Ytioknjdbijogpaa
open Go.RowKit

/-- The page after k bytes of a number have been set, the lowest first. -/
def sets (p : Nat → UInt8) (a s : Nat) (n : Int) : Nat → Nat → UInt8
  | 0 => p
  | k + 1 => upd (sets p a s n k) (a + s - 1 - k) (b8 (n / 256 ^ k))

set_option maxRecDepth 100000 in
set_option maxHeartbeats 400000 in
theorem set_yes (p : Nat → UInt8) (a s : Nat) (n : Int) (w : World) (h1 : 1 ≤ s) (h2 : s ≤ 4) (h4 : a + s ≤ 64) :
    Calls Try.prog 34 #[.agg (pgc p), .int .i64 a, .int .i64 s, .int .i64 n] w fun e w' => e = .returned (.agg (pgc (sets p a s n s))) ∧ Below w.heap.size w w' := by
  have hn : numPg a s := by unfold numPg; omega
  go_enter Try.func34, Try.ntmps34
  go_wp2_with (first | ((with_reducible refine pg_alloc ?_); refine ⟨rfl, ?_⟩; (simp only [Act.put, List.setIfInBounds_toArray, List.set_cons_succ, List.set_cons_zero])) | (go_at_call 47; refine (number_yes _ _ _ hn).mono ?_; rintro e w' ⟨rfl, rfl⟩))
  go_loopw [16] (fun i wr => ∃ k : Nat, k ≤ s ∧ i = .int .i64 k ∧ wr = (w.alloc (.cells (pgc (sets p a s n k)) 73)).alloc (.cells zc 73)) (fun i _ => s - (intOf i).toNat)
  case atStart =>
    exact ⟨0, Nat.zero_le _, rfl, rfl⟩
  case round =>
    obtain ⟨k, hk, rfl, rfl⟩ := hrel
    by_cases hlt : k < s
    · have hc := pgc_get (sets p a s n k) (a + s - 1 - k) (by omega)
      go_wp2
      go_roundw
      case rel =>
        refine ⟨k + 1, by omega, by go_num, ?_⟩
        have e : (n / 2 ^ (8 * k) % 256) = ((b8 (n / 256 ^ k)).toNat : Int) := by
          rw [b8_nat]
          rcases (by omega : k = 0 ∨ k = 1 ∨ k = 2 ∨ k = 3) with rfl | rfl | rfl | rfl <;> rfl
        rw [e, pgc_set]
        rfl
      case measure => simp [intOf]; omega
    · obtain rfl : k = s := by omega
      go_wp2_with (first | ((with_reducible refine pg_load ?_); refine ⟨rfl, _, _, rfl, by (with_reducible first | exact heap_alloc_last _ _ | exact heap_alloc2_old _ _ _ | exact heap_alloc2_new _ _ _ | assumption), ?_⟩; (simp only [Act.put, List.setIfInBounds_toArray, List.set_cons_succ, List.set_cons_zero])) | ((with_reducible refine pg_store ?_); refine ⟨rfl, _, by simp, rfl, by with_reducible first | exact zc_size | exact pgc_size _, ?_⟩; simp only [Act.put]))
      ((try simp only [Exit.inBlock, Exit.then]); refine bodyPost_ret (res_pg rfl Try.underlying73 Try.sizePg _ _ _ _ (pgc_size _) rfl (by (with_reducible first | exact heap_alloc_last _ _ | exact heap_alloc2_old _ _ _ | exact heap_alloc2_new _ _ _ | assumption))) rfl ?_)
      exact ⟨rfl, (((Below.refl _ _).alloc (Nat.le_refl _) _).alloc (by simp) _)⟩

set_option maxRecDepth 100000 in
set_option maxHeartbeats 400000 in
theorem set_no (p : Nat → UInt8) (a s n : Int) (w : World) (h : ¬ numPg a s) :
    Calls Try.prog 34 #[.agg (pgc p), .int .i64 a, .int .i64 s, .int .i64 n] w fun e w' => e = .returned (.agg (pgc p)) ∧ Below w.heap.size w w' := by
  have HN := Lib.hid h; clear h
  go_enter Try.func34, Try.ntmps34
  go_wp2_with (first | ((with_reducible refine pg_load ?_); refine ⟨rfl, _, _, rfl, by (with_reducible first | exact heap_alloc_last _ _ | exact heap_alloc2_old _ _ _ | exact heap_alloc2_new _ _ _ | assumption), ?_⟩; (simp only [Act.put, List.setIfInBounds_toArray, List.set_cons_succ, List.set_cons_zero])) | ((with_reducible refine pg_store ?_); refine ⟨rfl, _, by simp, rfl, by with_reducible first | exact zc_size | exact pgc_size _, ?_⟩; simp only [Act.put]) | ((with_reducible refine pg_alloc ?_); refine ⟨rfl, ?_⟩; (simp only [Act.put, List.setIfInBounds_toArray, List.set_cons_succ, List.set_cons_zero])) | ((with_reducible refine pg_build ?_); refine ⟨rfl, ?_⟩; (simp only [Act.put, List.setIfInBounds_toArray, List.set_cons_succ, List.set_cons_zero])) | (go_at_call 47; refine (number_no _ _ _ HN.out).mono ?_; rintro e w' ⟨rfl, rfl⟩))
  ((try simp only [Exit.inBlock, Exit.then]); refine bodyPost_ret (res_pg rfl Try.underlying73 Try.sizePg _ _ _ _ (pgc_size _) rfl (by (with_reducible first | exact heap_alloc_last _ _ | exact heap_alloc2_old _ _ _ | exact heap_alloc2_new _ _ _ | assumption))) rfl ?_)
  exact ⟨rfl, (((Below.refl _ _).alloc (Nat.le_refl _) _).alloc (by simp) _)⟩

/-- The page with another number. -/
def pset (p : Nat → UInt8) (a s n : Int) : Nat → UInt8 := if numPg a s then sets p a.toNat s.toNat n s.toNat else p

theorem set_any (p : Nat → UInt8) (a s n : Int) (w : World) :
    Calls Try.prog 34 #[.agg (pgc p), .int .i64 a, .int .i64 s, .int .i64 n] w fun e w' => e = .returned (.agg (pgc (pset p a s n))) ∧ Below w.heap.size w w' := by
  by_cases h : numPg a s
  · rw [pset, if_pos h]
    obtain ⟨h1, h2, h3, h4⟩ := h
    obtain ⟨x, rfl⟩ := Int.eq_ofNat_of_zero_le h3
    obtain ⟨y, rfl⟩ := Int.eq_ofNat_of_zero_le (show 0 ≤ s by omega)
    simp only [Int.toNat_natCast] at *
    exact set_yes p x y n w (by omega) (by omega) (by omega)
  · rw [pset, if_neg h]
    exact set_no p a s n w h

/-! ### The reference -/
end Go.Proofs.Ytioknjdbijogpaa
