/- Chapter 16's reference: low, signed, walked. -/
import Derived.Test.YtioknjdbijogpaaInsC
import Derived.Laws.BytesArg
namespace Go.Proofs.Ytioknjdbijogpaa
open Go.RowKit
set_option linter.unusedSimpArgs false
set_option linter.unusedVariables false

theorem u64w (n : Int) : IntKind.u64.wrap n = n % 18446744073709551616 := by
  show n % _ = _
  rfl
theorem u64w_range {n U : Int} (h : IntKind.u64.wrap n = U) : 0 ≤ U ∧ U < 18446744073709551616 := by
  rw [u64w] at h
  subst h
  exact ⟨Int.emod_nonneg _ (by decide), Int.emod_lt_of_pos _ (by decide)⟩
theorem u64q {U V : Int} (h0 : 0 ≤ U) (h1 : U < 18446744073709551616) (h : IntKind.u64.wrap (U.tdiv 256) = V) : V = U / 256 := by
  rw [u64w, Int.tdiv_eq_ediv_of_nonneg h0] at h
  rw [← h]
  exact Int.emod_eq_of_lt (by omega) (by omega)
theorem conv_new (xs : List Int) (w : World) : (convert 56 9 (.slice (some ⟨w.heap.size, 0, none⟩) xs.length xs.length)).run Try.prog (w.alloc (.cells (xs.map (Value.int .u8)).toArray 5)) = .ok (.string (strOfNums xs)) (w.alloc (.cells (xs.map (Value.int .u8)).toArray 5)) := by
  refine run_convert_bytes_arg (P := Try.prog) _ 56 5 Try.underlying56 Try.underlying5 w.heap.size 0 xs.length xs.length xs rfl (fun i hi => ?_) 9 Try.underlying9
  rw [cell_of_row _ _ _ _ _ _ (heap_alloc_last w _), Nat.zero_add]
  simp [hi]

set_option maxHeartbeats 2000000 in
set_option maxRecDepth 100000 in
theorem low1_is (n : Int) (w : World) :
    Calls Try.prog 41 #[.int .i64 n, .int .i64 1] w fun e w' => e = .returned (.string (strOfNums [n % 256])) ∧ Below w.heap.size w w' := by
  obtain ⟨U0, hU0⟩ : ∃ U, IntKind.u64.wrap n = U := ⟨_, rfl⟩
  have b0 := u64w_range hU0
  have q0 : U0 = n % 18446744073709551616 := by rw [← hU0, u64w]
  have he : [n % 256] = [U0 % 256] := by
    have r0 : n % 256 = U0 % 256 := by omega
    rw [r0]
  rw [he]
  have t0 : U0.tmod 256 = U0 % 256 := Int.tmod_eq_emod_of_nonneg b0.1
  have n0 : 0 ≤ U0 := b0.1
  clear he b0 q0
  have hmk : ∀ w, (Instr.makeSlice 56 (.int .i64 1) (.int .i64 1)).run Try.prog w = .ok (.slice (some ⟨w.heap.size, 0, none⟩) 1 1) (w.alloc (.cells #[.int .u8 0] 5)) := fun _ => by kernel_rfl
  have hcv := conv_new [U0 % 256] w
  simp only [List.length_cons, List.length_nil, List.map_cons, List.map_nil, Nat.zero_add, Nat.reduceAdd] at hcv
  go_enter Try.func41, Try.ntmps41
  go_wp2
  refine wp_loop_rounds 2 ?_
  rw [rounds_succ]
  go_wp2
  rw [rounds_succ]
  go_wp2
  go_ret
  exact ⟨rfl, (Below.refl _ _).alloc (Nat.le_refl _) _⟩
set_option maxHeartbeats 2000000 in
set_option maxRecDepth 100000 in
theorem low2_is (n : Int) (w : World) :
    Calls Try.prog 41 #[.int .i64 n, .int .i64 2] w fun e w' => e = .returned (.string (strOfNums [n / 256 % 256, n % 256])) ∧ Below w.heap.size w w' := by
  obtain ⟨U0, hU0⟩ : ∃ U, IntKind.u64.wrap n = U := ⟨_, rfl⟩
  have b0 := u64w_range hU0
  have q0 : U0 = n % 18446744073709551616 := by rw [← hU0, u64w]
  obtain ⟨U1, hU1⟩ : ∃ V, IntKind.u64.wrap (U0.tdiv 256) = V := ⟨_, rfl⟩
  have q1 := u64q b0.1 b0.2 hU1
  have b1 := u64w_range hU1
  have he : [n / 256 % 256, n % 256] = [U1 % 256, U0 % 256] := by
    have r0 : n / 256 % 256 = U1 % 256 := by omega
    have r1 : n % 256 = U0 % 256 := by omega
    rw [r0, r1]
  rw [he]
  have t0 : U0.tmod 256 = U0 % 256 := Int.tmod_eq_emod_of_nonneg b0.1
  have n0 : 0 ≤ U0 := b0.1
  have t1 : U1.tmod 256 = U1 % 256 := Int.tmod_eq_emod_of_nonneg b1.1
  have n1 : 0 ≤ U1 := b1.1
  clear he b0 q0 b1 q1
  have hmk : ∀ w, (Instr.makeSlice 56 (.int .i64 2) (.int .i64 2)).run Try.prog w = .ok (.slice (some ⟨w.heap.size, 0, none⟩) 2 2) (w.alloc (.cells #[.int .u8 0, .int .u8 0] 5)) := fun _ => by kernel_rfl
  have hcv := conv_new [U1 % 256, U0 % 256] w
  simp only [List.length_cons, List.length_nil, List.map_cons, List.map_nil, Nat.zero_add, Nat.reduceAdd] at hcv
  go_enter Try.func41, Try.ntmps41
  go_wp2
  refine wp_loop_rounds 3 ?_
  rw [rounds_succ]
  go_wp2
  rw [rounds_succ]
  go_wp2
  rw [rounds_succ]
  go_wp2
  go_ret
  exact ⟨rfl, (Below.refl _ _).alloc (Nat.le_refl _) _⟩
set_option maxHeartbeats 2000000 in
set_option maxRecDepth 100000 in
theorem low4_is (n : Int) (w : World) :
    Calls Try.prog 41 #[.int .i64 n, .int .i64 4] w fun e w' => e = .returned (.string (strOfNums [n / 16777216 % 256, n / 65536 % 256, n / 256 % 256, n % 256])) ∧ Below w.heap.size w w' := by
  obtain ⟨U0, hU0⟩ : ∃ U, IntKind.u64.wrap n = U := ⟨_, rfl⟩
  have b0 := u64w_range hU0
  have q0 : U0 = n % 18446744073709551616 := by rw [← hU0, u64w]
  obtain ⟨U1, hU1⟩ : ∃ V, IntKind.u64.wrap (U0.tdiv 256) = V := ⟨_, rfl⟩
  have q1 := u64q b0.1 b0.2 hU1
  have b1 := u64w_range hU1
  obtain ⟨U2, hU2⟩ : ∃ V, IntKind.u64.wrap (U1.tdiv 256) = V := ⟨_, rfl⟩
  have q2 := u64q b1.1 b1.2 hU2
  have b2 := u64w_range hU2
  obtain ⟨U3, hU3⟩ : ∃ V, IntKind.u64.wrap (U2.tdiv 256) = V := ⟨_, rfl⟩
  have q3 := u64q b2.1 b2.2 hU3
  have b3 := u64w_range hU3
  have he : [n / 16777216 % 256, n / 65536 % 256, n / 256 % 256, n % 256] = [U3 % 256, U2 % 256, U1 % 256, U0 % 256] := by
    have r0 : n / 16777216 % 256 = U3 % 256 := by omega
    have r1 : n / 65536 % 256 = U2 % 256 := by omega
    have r2 : n / 256 % 256 = U1 % 256 := by omega
    have r3 : n % 256 = U0 % 256 := by omega
    rw [r0, r1, r2, r3]
  rw [he]
  have t0 : U0.tmod 256 = U0 % 256 := Int.tmod_eq_emod_of_nonneg b0.1
  have n0 : 0 ≤ U0 := b0.1
  have t1 : U1.tmod 256 = U1 % 256 := Int.tmod_eq_emod_of_nonneg b1.1
  have n1 : 0 ≤ U1 := b1.1
  have t2 : U2.tmod 256 = U2 % 256 := Int.tmod_eq_emod_of_nonneg b2.1
  have n2 : 0 ≤ U2 := b2.1
  have t3 : U3.tmod 256 = U3 % 256 := Int.tmod_eq_emod_of_nonneg b3.1
  have n3 : 0 ≤ U3 := b3.1
  clear he b0 q0 b1 q1 b2 q2 b3 q3
  have hmk : ∀ w, (Instr.makeSlice 56 (.int .i64 4) (.int .i64 4)).run Try.prog w = .ok (.slice (some ⟨w.heap.size, 0, none⟩) 4 4) (w.alloc (.cells #[.int .u8 0, .int .u8 0, .int .u8 0, .int .u8 0] 5)) := fun _ => by kernel_rfl
  have hcv := conv_new [U3 % 256, U2 % 256, U1 % 256, U0 % 256] w
  simp only [List.length_cons, List.length_nil, List.map_cons, List.map_nil, Nat.zero_add, Nat.reduceAdd] at hcv
  go_enter Try.func41, Try.ntmps41
  go_wp2
  refine wp_loop_rounds 5 ?_
  rw [rounds_succ]
  go_wp2
  rw [rounds_succ]
  go_wp2
  rw [rounds_succ]
  go_wp2
  rw [rounds_succ]
  go_wp2
  rw [rounds_succ]
  go_wp2
  go_ret
  exact ⟨rfl, (Below.refl _ _).alloc (Nat.le_refl _) _⟩

/-- Of bytes, two's complement. -/
def sg (h t v : Int) : Int := if v ≥ h then v - t else v
theorem w64i (n : Int) (h0 : -9223372036854775808 ≤ n) (h1 : n ≤ 9223372036854775807) : wrap64 n = n := by unfold wrap64; omega
set_option maxHeartbeats 2000000 in
set_option maxRecDepth 100000 in
theorem signed2_is (x y : UInt8) (w : World) :
    Calls Try.prog 42 #[.string ⟨#[x, y]⟩] w fun e w' => e = .returned (.int .i64 (sg 32768 65536 ((x.toNat : Int) * 256 + (y.toNat : Int)))) ∧ w' = w := by
  have hx : (x.toNat : Int) < 256 := by have := x.toNat_lt; omega
  have hy : (y.toNat : Int) < 256 := by have := y.toNat_lt; omega
  obtain ⟨V0, hV0⟩ : ∃ V : Int, (x.toNat : Int) = V := ⟨_, rfl⟩
  have b0 : 0 ≤ V0 ∧ V0 < 256 := by omega
  obtain ⟨V1, hV1⟩ : ∃ V : Int, V0 * 256 + (y.toNat : Int) = V := ⟨_, rfl⟩
  have b1 : 0 ≤ V1 ∧ V1 < 65536 := by omega
  obtain ⟨w0, y1, m1, w1, v0, wl⟩ : (wrap64 (x.toNat : Int) = V0) ∧ (wrap64 (y.toNat : Int) = (y.toNat : Int)) ∧ (wrap64 (V0 * 256) = V0 * 256) ∧ (wrap64 (V0 * 256 + (y.toNat : Int)) = V1) ∧ (wrap64 V0 = V0) ∧ (wrap64 (V1 - 65536) = V1 - 65536) := ⟨(hV0 ▸ w64i _ (by omega) (by omega)), w64i _ (by omega) (by omega), w64i _ (by omega) (by omega), (hV1 ▸ w64i _ (by omega) (by omega)), w64i _ (by omega) (by omega), w64i _ (by omega) (by omega)⟩
  have i0 : ∀ h, (⟨#[x, y]⟩ : ByteArray)[0]'h = x := fun _ => rfl
  have i1 : ∀ h, (⟨#[x, y]⟩ : ByteArray)[1]'h = y := fun _ => rfl
  have hE : sg 32768 65536 ((x.toNat : Int) * 256 + (y.toNat : Int)) = sg 32768 65536 V1 := by rw [hV0, hV1]
  rw [hE]
  have hs : V1 ≥ 32768 → sg 32768 65536 V1 = V1 - 65536 := fun h => if_pos h
  have hs' : ¬ V1 ≥ 32768 → sg 32768 65536 V1 = V1 := fun h => if_neg h
  have HS := Lib.hid (And.intro hs hs')
  clear hs hs' hE hV0 hV1 hx hy b0 b1
  by_cases c : V1 ≥ 32768
  · have e1 : decide (V1 ≥ 32768) = true := decide_eq_true c
    have e2 : decide (32768 ≤ V1) = true := decide_eq_true c
    rw [HS.out.1 c]
    clear c
    go_enter Try.func42, Try.ntmps42
    go_wp2
    refine wp_loop_rounds 3 ?_
    rw [rounds_succ]
    go_wp2
    rw [rounds_succ]
    go_wp2
    rw [rounds_succ]
    go_wp2
    refine wp_loop_rounds 3 ?_
    rw [rounds_succ]
    go_wp2
    rw [rounds_succ]
    go_wp2
    rw [rounds_succ]
    go_wp2
    go_ret
    exact ⟨by show Ending.returned (.int .i64 (wrap64 (V1 - 65536))) = _; rw [wl], rfl⟩
  · have e1 : decide (V1 ≥ 32768) = false := decide_eq_false c
    have e2 : decide (32768 ≤ V1) = false := decide_eq_false c
    rw [HS.out.2 c]
    clear c
    go_enter Try.func42, Try.ntmps42
    go_wp2
    refine wp_loop_rounds 3 ?_
    rw [rounds_succ]
    go_wp2
    rw [rounds_succ]
    go_wp2
    rw [rounds_succ]
    go_wp2
    refine wp_loop_rounds 3 ?_
    rw [rounds_succ]
    go_wp2
    rw [rounds_succ]
    go_wp2
    rw [rounds_succ]
    go_wp2
    go_ret
    exact ⟨by show Ending.returned (.int .i64 (wrap64 (V0 * 256 + (y.toNat : Int)))) = _; rw [w1], rfl⟩
set_option maxHeartbeats 2000000 in
set_option maxRecDepth 100000 in
theorem signed4_is (x y z t : UInt8) (w : World) :
    Calls Try.prog 42 #[.string ⟨#[x, y, z, t]⟩] w fun e w' => e = .returned (.int .i64 (sg 2147483648 4294967296 ((((x.toNat : Int) * 256 + (y.toNat : Int)) * 256 + z.toNat) * 256 + t.toNat))) ∧ w' = w := by
  have hx : (x.toNat : Int) < 256 := by have := x.toNat_lt; omega
  have hy : (y.toNat : Int) < 256 := by have := y.toNat_lt; omega
  have hz : (z.toNat : Int) < 256 := by have := z.toNat_lt; omega
  have ht : (t.toNat : Int) < 256 := by have := t.toNat_lt; omega
  obtain ⟨V0, hV0⟩ : ∃ V : Int, (x.toNat : Int) = V := ⟨_, rfl⟩
  have b0 : 0 ≤ V0 ∧ V0 < 256 := by omega
  obtain ⟨V1, hV1⟩ : ∃ V : Int, V0 * 256 + (y.toNat : Int) = V := ⟨_, rfl⟩
  have b1 : 0 ≤ V1 ∧ V1 < 65536 := by omega
  obtain ⟨V2, hV2⟩ : ∃ V : Int, V1 * 256 + (z.toNat : Int) = V := ⟨_, rfl⟩
  have b2 : 0 ≤ V2 ∧ V2 < 16777216 := by omega
  obtain ⟨V3, hV3⟩ : ∃ V : Int, V2 * 256 + (t.toNat : Int) = V := ⟨_, rfl⟩
  have b3 : 0 ≤ V3 ∧ V3 < 4294967296 := by omega
  obtain ⟨w0, y1, y2, y3, m1, w1, m2, w2, m3, w3, v0, wl⟩ : (wrap64 (x.toNat : Int) = V0) ∧ (wrap64 (y.toNat : Int) = (y.toNat : Int)) ∧ (wrap64 (z.toNat : Int) = (z.toNat : Int)) ∧ (wrap64 (t.toNat : Int) = (t.toNat : Int)) ∧ (wrap64 (V0 * 256) = V0 * 256) ∧ (wrap64 (V0 * 256 + (y.toNat : Int)) = V1) ∧ (wrap64 (V1 * 256) = V1 * 256) ∧ (wrap64 (V1 * 256 + (z.toNat : Int)) = V2) ∧ (wrap64 (V2 * 256) = V2 * 256) ∧ (wrap64 (V2 * 256 + (t.toNat : Int)) = V3) ∧ (wrap64 V0 = V0) ∧ (wrap64 (V3 - 4294967296) = V3 - 4294967296) := ⟨(hV0 ▸ w64i _ (by omega) (by omega)), w64i _ (by omega) (by omega), w64i _ (by omega) (by omega), w64i _ (by omega) (by omega), w64i _ (by omega) (by omega), (hV1 ▸ w64i _ (by omega) (by omega)), w64i _ (by omega) (by omega), (hV2 ▸ w64i _ (by omega) (by omega)), w64i _ (by omega) (by omega), (hV3 ▸ w64i _ (by omega) (by omega)), w64i _ (by omega) (by omega), w64i _ (by omega) (by omega)⟩
  have i0 : ∀ h, (⟨#[x, y, z, t]⟩ : ByteArray)[0]'h = x := fun _ => rfl
  have i1 : ∀ h, (⟨#[x, y, z, t]⟩ : ByteArray)[1]'h = y := fun _ => rfl
  have i2 : ∀ h, (⟨#[x, y, z, t]⟩ : ByteArray)[2]'h = z := fun _ => rfl
  have i3 : ∀ h, (⟨#[x, y, z, t]⟩ : ByteArray)[3]'h = t := fun _ => rfl
  have hE : sg 2147483648 4294967296 ((((x.toNat : Int) * 256 + (y.toNat : Int)) * 256 + z.toNat) * 256 + t.toNat) = sg 2147483648 4294967296 V3 := by rw [hV0, hV1, hV2, hV3]
  rw [hE]
  have hs : V3 ≥ 2147483648 → sg 2147483648 4294967296 V3 = V3 - 4294967296 := fun h => if_pos h
  have hs' : ¬ V3 ≥ 2147483648 → sg 2147483648 4294967296 V3 = V3 := fun h => if_neg h
  have HS := Lib.hid (And.intro hs hs')
  clear hs hs' hE hV0 hV1 hV2 hV3 hx hy hz ht b0 b1 b2 b3
  by_cases c : V3 ≥ 2147483648
  · have e1 : decide (V3 ≥ 2147483648) = true := decide_eq_true c
    have e2 : decide (2147483648 ≤ V3) = true := decide_eq_true c
    rw [HS.out.1 c]
    clear c
    go_enter Try.func42, Try.ntmps42
    go_wp2
    refine wp_loop_rounds 5 ?_
    rw [rounds_succ]
    go_wp2
    rw [rounds_succ]
    go_wp2
    rw [rounds_succ]
    go_wp2
    rw [rounds_succ]
    go_wp2
    rw [rounds_succ]
    go_wp2
    refine wp_loop_rounds 5 ?_
    rw [rounds_succ]
    go_wp2
    rw [rounds_succ]
    go_wp2
    rw [rounds_succ]
    go_wp2
    rw [rounds_succ]
    go_wp2
    rw [rounds_succ]
    go_wp2
    go_ret
    exact ⟨by show Ending.returned (.int .i64 (wrap64 (V3 - 4294967296))) = _; rw [wl], rfl⟩
  · have e1 : decide (V3 ≥ 2147483648) = false := decide_eq_false c
    have e2 : decide (2147483648 ≤ V3) = false := decide_eq_false c
    rw [HS.out.2 c]
    clear c
    go_enter Try.func42, Try.ntmps42
    go_wp2
    refine wp_loop_rounds 5 ?_
    rw [rounds_succ]
    go_wp2
    rw [rounds_succ]
    go_wp2
    rw [rounds_succ]
    go_wp2
    rw [rounds_succ]
    go_wp2
    rw [rounds_succ]
    go_wp2
    refine wp_loop_rounds 5 ?_
    rw [rounds_succ]
    go_wp2
    rw [rounds_succ]
    go_wp2
    rw [rounds_succ]
    go_wp2
    rw [rounds_succ]
    go_wp2
    rw [rounds_succ]
    go_wp2
    go_ret
    exact ⟨by show Ending.returned (.int .i64 (wrap64 (V2 * 256 + (t.toNat : Int)))) = _; rw [w3], rfl⟩
end Go.Proofs.Ytioknjdbijogpaa
