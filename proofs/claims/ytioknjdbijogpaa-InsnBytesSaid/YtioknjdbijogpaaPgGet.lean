/- The walks of page.Get and the reference's Get. -/
import Derived.Test.YtioknjdbijogpaaPg
import Derived.IntWalk
namespace Go.Proofs.Ytioknjdbijogpaa
open Go.RowKit

/-- May so many bytes stand there? -/
def inPg (a s : Int) : Prop := 0 ≤ a ∧ 0 ≤ s ∧ s ≤ 64 ∧ a ≤ 64 - s
instance (a s : Int) : Decidable (inPg a s) := by unfold inPg; infer_instance
/-- May a number of so many bytes stand there? -/
def numPg (a s : Int) : Prop := 1 ≤ s ∧ s ≤ 4 ∧ 0 ≤ a ∧ a ≤ 64 - s
instance (a s : Int) : Decidable (numPg a s) := by unfold numPg; infer_instance

theorem inside_yes (a s : Int) (w : World) (h : inPg a s) :
    Calls Try.prog 48 #[.int .i64 a, .int .i64 s] w fun e w' => e = .returned (.bool true) ∧ w = w' := by
  obtain ⟨h1, h2, h3, h4⟩ := h
  go_enter Try.func48, Try.ntmps48
  go_wp2
  go_ret
  exact ⟨by simp [*], rfl⟩

theorem inside_no (a s : Int) (w : World) (h : ¬ inPg a s) :
    Calls Try.prog 48 #[.int .i64 a, .int .i64 s] w fun e w' => e = .returned (.bool false) ∧ w = w' := by
  unfold inPg at h
  by_cases c1 : 0 ≤ a
  · by_cases c2 : 0 ≤ s
    · by_cases c3 : s ≤ 64
      · have c4 : ¬ a ≤ 64 - s := by omega
        clear h
        go_enter Try.func48, Try.ntmps48
        go_wp2
        go_ret
        exact ⟨by simp [*], rfl⟩
      · clear h
        go_enter Try.func48, Try.ntmps48
        go_wp2
        go_ret
        exact ⟨rfl, rfl⟩
    · clear h
      go_enter Try.func48, Try.ntmps48
      go_wp2
      go_ret
      exact ⟨rfl, rfl⟩
  · clear h
    go_enter Try.func48, Try.ntmps48
    go_wp2
    go_ret
    exact ⟨rfl, rfl⟩

theorem inside_any (a s : Int) (w : World) :
    Calls Try.prog 48 #[.int .i64 a, .int .i64 s] w fun e w' => e = .returned (.bool (decide (inPg a s))) ∧ w = w' := by
  by_cases h : inPg a s
  · rw [decide_eq_true h]; exact inside_yes a s w h
  · rw [decide_eq_false h]; exact inside_no a s w h

theorem number_yes (a s : Int) (w : World) (h : numPg a s) :
    Calls Try.prog 47 #[.int .i64 a, .int .i64 s] w fun e w' => e = .returned (.bool true) ∧ w = w' := by
  have hd : decide (inPg a s) = true := decide_eq_true (by unfold numPg at h; unfold inPg; omega)
  obtain ⟨h1, h2, h3, h4⟩ := h
  go_enter Try.func47, Try.ntmps47
  go_wp2_with (go_at_call 48; refine (inside_any _ _ _).mono ?_; rintro e w' ⟨rfl, rfl⟩)
  go_ret
  exact ⟨by simp [*], rfl⟩

theorem number_no (a s : Int) (w : World) (h : ¬ numPg a s) :
    Calls Try.prog 47 #[.int .i64 a, .int .i64 s] w fun e w' => e = .returned (.bool false) ∧ w = w' := by
  by_cases c1 : 1 ≤ s
  · by_cases c2 : s ≤ 4
    · have hd : decide (inPg a s) = false := decide_eq_false (by unfold numPg at h; unfold inPg; omega)
      clear h
      go_enter Try.func47, Try.ntmps47
      go_wp2_with (go_at_call 48; refine (inside_any _ _ _).mono ?_; rintro e w' ⟨rfl, rfl⟩)
      go_ret
      exact ⟨by simp [*], rfl⟩
    · clear h
      go_enter Try.func47, Try.ntmps47
      go_wp2_with (go_at_call 48; refine (inside_any _ _ _).mono ?_; rintro e w' ⟨rfl, rfl⟩)
      go_ret
      exact ⟨by simp [*], rfl⟩
  · clear h
    go_enter Try.func47, Try.ntmps47
    go_wp2_with (go_at_call 48; refine (inside_any _ _ _).mono ?_; rintro e w' ⟨rfl, rfl⟩)
    go_ret
    exact ⟨by simp [*], rfl⟩

set_option maxRecDepth 100000 in
set_option maxHeartbeats 400000 in
theorem get_yes (p : Nat → UInt8) (a s : Nat) (w : World) (h1 : 1 ≤ s) (h2 : s ≤ 4) (h4 : a + s ≤ 64) :
    Calls Try.prog 52 #[.agg (pgc p), .int .i64 a, .int .i64 s] w fun e w' => e = .returned (.int .i64 (gets p a s)) ∧ Below w.heap.size w w' := by
  have hn : numPg a s := by unfold numPg; omega
  obtain ⟨i, hi, hs⟩ := Option.map_eq_some_iff.1 Try.infoE
  have hsl := fun (w' : World) => run_sliceAt_arr (P := Try.prog) Try.underlying73 hi hs w.heap.size 0 a (a + s) (by omega) (by omega) (by omega) w'
  go_enter Try.func52, Try.ntmps52
  go_wp2_with (go_at_call 47; refine (number_yes _ _ _ hn).mono ?_; rintro e w' ⟨rfl, rfl⟩)
  have HG := Lib.hid hsl; clear hsl
  go_loop [7, 20] (fun n i => ∃ k : Nat, k ≤ s ∧ i = .int .i64 k ∧ n = .int .i64 (gets p a k)) (fun _ i => s - (intOf i).toNat)
  case atStart => exact ⟨0, Nat.zero_le _, rfl, rfl⟩
  case round =>
    obtain ⟨k, hk, rfl, rfl⟩ := hrel
    by_cases hlt : k < s
    · have hc := pgc_get p (a + k) (by omega)
      go_wp2
      go_round
      case rel =>
        have hb := byte_lt (p (a + k))
        have hg := gets_bd4 p a k (by omega)
        exact ⟨k + 1, by omega, by go_num, by rw [or_byte _ _ hg.1 hg.2 hb.1 hb.2]; rfl⟩
      case measure => simp [intOf]; omega
    · go_wp2
      go_ret
      exact ⟨ret_int (by rw [show k = s from by omega]), (Below.refl _ _).alloc (Nat.le_refl _) _⟩

set_option maxRecDepth 100000 in
set_option maxHeartbeats 400000 in
theorem get_no (p : Nat → UInt8) (a s : Int) (w : World) (h : ¬ numPg a s) :
    Calls Try.prog 52 #[.agg (pgc p), .int .i64 a, .int .i64 s] w fun e w' => e = .returned (.int .i64 0) ∧ Below w.heap.size w w' := by
  have HN := Lib.hid h; clear h
  go_enter Try.func52, Try.ntmps52
  go_wp2_with (go_at_call 47; refine (number_no _ _ _ HN.out).mono ?_; rintro e w' ⟨rfl, rfl⟩)
  go_ret
  exact ⟨rfl, (Below.refl _ _).alloc (Nat.le_refl _) _⟩

/-- What a number in a page is. -/
def pget (p : Nat → UInt8) (a s : Int) : Int := if numPg a s then gets p a.toNat s.toNat else 0

theorem get_any (p : Nat → UInt8) (a s : Int) (w : World) :
    Calls Try.prog 52 #[.agg (pgc p), .int .i64 a, .int .i64 s] w fun e w' => e = .returned (.int .i64 (pget p a s)) ∧ Below w.heap.size w w' := by
  by_cases h : numPg a s
  · rw [pget, if_pos h]
    obtain ⟨h1, h2, h3, h4⟩ := h
    obtain ⟨x, rfl⟩ := Int.eq_ofNat_of_zero_le h3
    obtain ⟨y, rfl⟩ := Int.eq_ofNat_of_zero_le (show 0 ≤ s by omega)
    simp only [Int.toNat_natCast] at *
    exact get_yes p x y w (by omega) (by omega) (by omega)
  · rw [pget, if_neg h]
    exact get_no p a s w h
end Go.Proofs.Ytioknjdbijogpaa
