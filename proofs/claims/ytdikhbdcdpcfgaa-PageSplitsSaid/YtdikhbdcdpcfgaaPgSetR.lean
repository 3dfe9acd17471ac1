/- The walk of the reference's Set. -/
import Derived.Test.YtdikhbdcdpcfgaaPgSet
namespace Go.Proofs.Ytdikhbdcdpcfgaa
open Go.RowKit

/-- What is left of a number, as 64 bits, behind k bytes. -/
def uu (n : Int) (k : Nat) : Int := n % 18446744073709551616 / 256 ^ k
theorem uu_zero (n : Int) : IntKind.u64.wrap n = uu n 0 := by rw [IntKind.wrap_u64]; simp [uu]
theorem uu_bd (n : Int) (k : Nat) : 0 ≤ uu n k ∧ uu n k ≤ 18446744073709551615 := by
  have h1 : 0 ≤ n % 18446744073709551616 := Int.emod_nonneg _ (by decide)
  have h2 : n % 18446744073709551616 < 18446744073709551616 := Int.emod_lt_of_pos _ (by decide)
  have hp : (0 : Int) < 256 ^ k := Int.pow_pos (by decide)
  refine ⟨Int.ediv_nonneg h1 (Int.le_of_lt hp), ?_⟩
  have := Int.ediv_le_self (256 ^ k) h1
  unfold uu
  omega
theorem uu_next (n : Int) (k : Nat) : uu n k / 256 = uu n (k + 1) := by
  unfold uu
  rw [Int.pow_succ, ← Int.ediv_ediv_of_nonneg (Int.le_of_lt (Int.pow_pos (by decide)))]
theorem uu_div (n : Int) (k : Nat) : IntKind.u64.wrap ((uu n k).tdiv 256) = uu n (k + 1) := by
  have h := uu_bd n k
  have h2 := uu_bd n (k + 1)
  rw [Int.tdiv_eq_ediv_of_nonneg h.1, uu_next, IntKind.wrap_u64, Int.emod_eq_of_lt h2.1 (by omega)]
theorem uu_byte (n : Int) (k : Nat) (hk : k < 4) : uu n k % 256 = ((b8 (n / 256 ^ k)).toNat : Int) := by
  rw [b8_nat]
  unfold uu
  rcases (by omega : k = 0 ∨ k = 1 ∨ k = 2 ∨ k = 3) with rfl | rfl | rfl | rfl <;> simp only [Int.reducePow] <;> omega

set_option maxRecDepth 100000 in
set_option maxHeartbeats 400000 in
theorem rset_yes (p : Nat → UInt8) (a s : Nat) (n : Int) (w : World) (h1 : 1 ≤ s) (h2 : s ≤ 4) (h4 : a + s ≤ 64) :
    Calls Try.prog 18 #[.agg (pgc p), .int .i64 a, .int .i64 s, .int .i64 n] w fun e w' => e = .returned (.agg (pgc (sets p a s n s))) ∧ Below w.heap.size w w' := by
  have hn : inPg a s := by unfold inPg; omega
  go_enter Try.func18, Try.ntmps18
  go_wp2_with (first | ((with_reducible refine pg_load ?_); refine ⟨rfl, _, _, rfl, by (with_reducible first | exact heap_alloc_last _ _ | exact heap_alloc2_old _ _ _ | exact heap_alloc2_new _ _ _ | assumption), ?_⟩; (simp only [Act.put, List.setIfInBounds_toArray, List.set_cons_succ, List.set_cons_zero])) | ((with_reducible refine pg_store ?_); refine ⟨rfl, _, by simp, rfl, by with_reducible first | exact zc_size | exact pgc_size _, ?_⟩; simp only [Act.put]) | ((with_reducible refine pg_alloc ?_); refine ⟨rfl, ?_⟩; (simp only [Act.put, List.setIfInBounds_toArray, List.set_cons_succ, List.set_cons_zero])) | ((with_reducible refine pg_build ?_); refine ⟨rfl, ?_⟩; (simp only [Act.put, List.setIfInBounds_toArray, List.set_cons_succ, List.set_cons_zero])) | (go_at_call 51; refine (rIn_yes _ _ _ hn).mono ?_; rintro e w' ⟨rfl, rfl⟩))
  go_loopw [9, 10] (fun u i wr => ∃ k : Nat, k ≤ s ∧ i = .int .i64 ((s : Int) - 1 - k) ∧ u = .int .u64 (uu n k) ∧ wr = (w.alloc (.cells (pgc (sets p a s n k)) 23)).alloc (.cells zc 23)) (fun _ i _ => (intOf i + 1).toNat)
  case atStart =>
    exact ⟨0, Nat.zero_le _, by go_num, by rw [← uu_zero], rfl⟩
  case round =>
    obtain ⟨k, hk, rfl, rfl, rfl⟩ := hrel
    have hu := (uu_bd n k).1
    by_cases hlt : k < s
    · have hc := pgc_get (sets p a s n k) (a + (s - 1 - k)) (by omega)
      have ht : decide ((k : Int) ≤ (s : Int) - 1) = true := decide_eq_true (by omega)
      go_wp2
      go_roundw
      case rel =>
        refine ⟨k + 1, by omega, by go_num, ?_, ?_⟩
        · rw [uu_div]
        · rw [uu_byte n k (by omega), pgc_set, show a + (s - 1 - k) = a + s - 1 - k from by omega]
          rfl
      case measure => simp [intOf]; omega
    · have ht : decide ((k : Int) ≤ (s : Int) - 1) = false := decide_eq_false (by omega)
      go_wp2_with (first | ((with_reducible refine pg_load ?_); refine ⟨rfl, _, _, rfl, by (with_reducible first | exact heap_alloc_last _ _ | exact heap_alloc2_old _ _ _ | exact heap_alloc2_new _ _ _ | assumption), ?_⟩; (simp only [Act.put, List.setIfInBounds_toArray, List.set_cons_succ, List.set_cons_zero])) | ((with_reducible refine pg_store ?_); refine ⟨rfl, _, by simp, rfl, by with_reducible first | exact zc_size | exact pgc_size _, ?_⟩; simp only [Act.put]) | ((with_reducible refine pg_alloc ?_); refine ⟨rfl, ?_⟩; (simp only [Act.put, List.setIfInBounds_toArray, List.set_cons_succ, List.set_cons_zero])) | ((with_reducible refine pg_build ?_); refine ⟨rfl, ?_⟩; (simp only [Act.put, List.setIfInBounds_toArray, List.set_cons_succ, List.set_cons_zero])))
      obtain rfl : k = s := by omega
      ((try simp only [Exit.inBlock, Exit.then]); refine bodyPost_ret (res_pg rfl Try.underlying23 Try.sizePg _ _ _ _ (pgc_size _) rfl (by (with_reducible first | exact heap_alloc_last _ _ | exact heap_alloc2_old _ _ _ | exact heap_alloc2_new _ _ _ | assumption))) rfl ?_)
      exact ⟨rfl, (((Below.refl _ _).alloc (Nat.le_refl _) _).alloc (by simp) _)⟩

set_option maxRecDepth 100000 in
set_option maxHeartbeats 400000 in
theorem rset_no (p : Nat → UInt8) (a s n : Int) (w : World) (h : ¬ numPg a s) :
    Calls Try.prog 18 #[.agg (pgc p), .int .i64 a, .int .i64 s, .int .i64 n] w fun e w' => e = .returned (.agg (pgc p)) ∧ Below w.heap.size w w' := by
  by_cases c1 : s < 1
  · clear h
    go_enter Try.func18, Try.ntmps18
    go_wp2_with (first | ((with_reducible refine pg_load ?_); refine ⟨rfl, _, _, rfl, by (with_reducible first | exact heap_alloc_last _ _ | exact heap_alloc2_old _ _ _ | exact heap_alloc2_new _ _ _ | assumption), ?_⟩; (simp only [Act.put, List.setIfInBounds_toArray, List.set_cons_succ, List.set_cons_zero])) | ((with_reducible refine pg_store ?_); refine ⟨rfl, _, by simp, rfl, by with_reducible first | exact zc_size | exact pgc_size _, ?_⟩; simp only [Act.put]) | ((with_reducible refine pg_alloc ?_); refine ⟨rfl, ?_⟩; (simp only [Act.put, List.setIfInBounds_toArray, List.set_cons_succ, List.set_cons_zero])) | ((with_reducible refine pg_build ?_); refine ⟨rfl, ?_⟩; (simp only [Act.put, List.setIfInBounds_toArray, List.set_cons_succ, List.set_cons_zero])))
    ((try simp only [Exit.inBlock, Exit.then]); refine bodyPost_ret (res_pg rfl Try.underlying23 Try.sizePg _ _ _ _ (pgc_size _) rfl (by (with_reducible first | exact heap_alloc_last _ _ | exact heap_alloc2_old _ _ _ | exact heap_alloc2_new _ _ _ | assumption))) rfl ?_)
    exact ⟨rfl, (((Below.refl _ _).alloc (Nat.le_refl _) _).alloc (by simp) _)⟩
  · by_cases c2 : s > 4
    · clear h
      go_enter Try.func18, Try.ntmps18
      go_wp2_with (first | ((with_reducible refine pg_load ?_); refine ⟨rfl, _, _, rfl, by (with_reducible first | exact heap_alloc_last _ _ | exact heap_alloc2_old _ _ _ | exact heap_alloc2_new _ _ _ | assumption), ?_⟩; (simp only [Act.put, List.setIfInBounds_toArray, List.set_cons_succ, List.set_cons_zero])) | ((with_reducible refine pg_store ?_); refine ⟨rfl, _, by simp, rfl, by with_reducible first | exact zc_size | exact pgc_size _, ?_⟩; simp only [Act.put]) | ((with_reducible refine pg_alloc ?_); refine ⟨rfl, ?_⟩; (simp only [Act.put, List.setIfInBounds_toArray, List.set_cons_succ, List.set_cons_zero])) | ((with_reducible refine pg_build ?_); refine ⟨rfl, ?_⟩; (simp only [Act.put, List.setIfInBounds_toArray, List.set_cons_succ, List.set_cons_zero])))
      ((try simp only [Exit.inBlock, Exit.then]); refine bodyPost_ret (res_pg rfl Try.underlying23 Try.sizePg _ _ _ _ (pgc_size _) rfl (by (with_reducible first | exact heap_alloc_last _ _ | exact heap_alloc2_old _ _ _ | exact heap_alloc2_new _ _ _ | assumption))) rfl ?_)
      exact ⟨rfl, (((Below.refl _ _).alloc (Nat.le_refl _) _).alloc (by simp) _)⟩
    · have HN := Lib.hid (show ¬ inPg a s by unfold numPg at h; unfold inPg; omega); clear h
      go_enter Try.func18, Try.ntmps18
      go_wp2_with (first | ((with_reducible refine pg_load ?_); refine ⟨rfl, _, _, rfl, by (with_reducible first | exact heap_alloc_last _ _ | exact heap_alloc2_old _ _ _ | exact heap_alloc2_new _ _ _ | assumption), ?_⟩; (simp only [Act.put, List.setIfInBounds_toArray, List.set_cons_succ, List.set_cons_zero])) | ((with_reducible refine pg_store ?_); refine ⟨rfl, _, by simp, rfl, by with_reducible first | exact zc_size | exact pgc_size _, ?_⟩; simp only [Act.put]) | ((with_reducible refine pg_alloc ?_); refine ⟨rfl, ?_⟩; (simp only [Act.put, List.setIfInBounds_toArray, List.set_cons_succ, List.set_cons_zero])) | ((with_reducible refine pg_build ?_); refine ⟨rfl, ?_⟩; (simp only [Act.put, List.setIfInBounds_toArray, List.set_cons_succ, List.set_cons_zero])) | (go_at_call 51; refine (rIn_no _ _ _ HN.out).mono ?_; rintro e w' ⟨rfl, rfl⟩))
      ((try simp only [Exit.inBlock, Exit.then]); refine bodyPost_ret (res_pg rfl Try.underlying23 Try.sizePg _ _ _ _ (pgc_size _) rfl (by (with_reducible first | exact heap_alloc_last _ _ | exact heap_alloc2_old _ _ _ | exact heap_alloc2_new _ _ _ | assumption))) rfl ?_)
      exact ⟨rfl, (((Below.refl _ _).alloc (Nat.le_refl _) _).alloc (by simp) _)⟩

theorem rset_any (p : Nat → UInt8) (a s n : Int) (w : World) :
    Calls Try.prog 18 #[.agg (pgc p), .int .i64 a, .int .i64 s, .int .i64 n] w fun e w' => e = .returned (.agg (pgc (pset p a s n))) ∧ Below w.heap.size w w' := by
  by_cases h : numPg a s
  · rw [pset, if_pos h]
    obtain ⟨h1, h2, h3, h4⟩ := h
    obtain ⟨x, rfl⟩ := Int.eq_ofNat_of_zero_le h3
    obtain ⟨y, rfl⟩ := Int.eq_ofNat_of_zero_le (show 0 ≤ s by omega)
    simp only [Int.toNat_natCast] at *
    exact rset_yes p x y n w (by omega) (by omega) (by omega)
  · rw [pset, if_neg h]
    exact rset_no p a s n w h
end Go.Proofs.Ytdikhbdcdpcfgaa
