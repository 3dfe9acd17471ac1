/- The walks of head.Right and head.put. -/
import Derived.Test.YtdikhbdcdpcfgaaPgSetR
import Derived.Test.YtdikhbdcdpcfgaaSt
namespace Go.Proofs.Ytdikhbdcdpcfgaa
open Go.RowKit
set_option linter.unusedSimpArgs false

theorem aPg : AggT Try.prog 23 64 := ⟨by kernel_rfl, by kernel_rfl⟩
theorem aHd : AggT Try.prog 48 4 := ⟨by kernel_rfl, by kernel_rfl⟩
theorem aHr : AggT Try.prog 49 4 := ⟨by kernel_rfl, by kernel_rfl⟩
theorem zHr : ZeroT Try.prog 49 #[.int .i64 0, .bool false, .int .i64 0, .int .u32 0] := by unfold ZeroT; kernel_rfl
theorem zPg : ZeroT Try.prog 23 (pgc zp) := by unfold ZeroT; kernel_rfl
theorem zHd : ZeroT Try.prog 48 #[.int .i64 0, .bool false, .int .i64 0, .int .u32 0] := by unfold ZeroT; kernel_rfl
theorem oInt : OneT Try.prog 3 := by unfold OneT; kernel_rfl
theorem oBool : OneT Try.prog 4 := by unfold OneT; kernel_rfl
theorem oU32 : OneT Try.prog 46 := by unfold OneT; kernel_rfl
theorem oU8 : OneT Try.prog 5 := by unfold OneT; kernel_rfl

/-- A head's cells. -/
def hdc (q : Int) (l : Bool) (c s : Int) : Array Value := #[.int .i64 q, .bool l, .int .i64 c, .int .u32 s]
def hRight (q : Int) (l : Bool) (c s : Int) : Bool := decide (0 ≤ q ∧ q ≤ 4294967295) && (if l then decide (1 ≤ c ∧ c ≤ 512) else decide (c = 0 ∧ s = 0))
def hPut (q : Int) (l : Bool) (c s : Int) : Nat → UInt8 := pset (pset (pset (pset (pset zp 0 4 q) 4 1 (if l then 1 else 0)) 5 2 c) 7 4 s) 60 4 q

set_option maxRecDepth 100000 in
set_option maxHeartbeats 800000 in
theorem right_any (q : Int) (l : Bool) (c s : Int) (w : World) :
    Calls Try.prog 31 #[.agg (hdc q l c s)] w fun e w' => e = .returned (.bool (hRight q l c s)) ∧ Below w.heap.size w w' := by
  unfold hdc
  by_cases c1 : q < 0
  · have e : hRight q l c s = false := by simp [hRight]; omega
    rw [e]
    go_enter Try.func31, Try.ntmps31
    go_wp2
    go_ret
    exact ⟨rfl, (Below.refl _ _).alloc (Nat.le_refl _) _⟩
  by_cases c2 : 4294967295 < q
  · have e : hRight q l c s = false := by simp [hRight]; omega
    rw [e]
    go_enter Try.func31, Try.ntmps31
    go_wp2
    go_ret
    exact ⟨rfl, (Below.refl _ _).alloc (Nat.le_refl _) _⟩
  cases l with
  | true =>
    by_cases d1 : 1 ≤ c
    · by_cases d2 : c ≤ 512
      · have e : hRight q true c s = true := by simp [hRight]; omega
        rw [e]
        go_enter Try.func31, Try.ntmps31
        go_wp2
        go_ret
        exact ⟨by simp [*], (Below.refl _ _).alloc (Nat.le_refl _) _⟩
      · have e : hRight q true c s = false := by simp [hRight]; omega
        rw [e]
        go_enter Try.func31, Try.ntmps31
        go_wp2
        go_ret
        exact ⟨by simp [*], (Below.refl _ _).alloc (Nat.le_refl _) _⟩
    · have e : hRight q true c s = false := by simp [hRight]; omega
      rw [e]
      go_enter Try.func31, Try.ntmps31
      go_wp2
      go_ret
      exact ⟨by simp [*], (Below.refl _ _).alloc (Nat.le_refl _) _⟩
  | false =>
    by_cases d1 : c = 0
    · by_cases d2 : s = 0
      · have e : hRight q false c s = true := by simp [hRight]; omega
        rw [e]
        go_enter Try.func31, Try.ntmps31
        go_wp2
        go_ret
        exact ⟨by simp [*], (Below.refl _ _).alloc (Nat.le_refl _) _⟩
      · have e : hRight q false c s = false := by simp [hRight]; omega
        rw [e]
        go_enter Try.func31, Try.ntmps31
        go_wp2
        go_ret
        exact ⟨by simp [*], (Below.refl _ _).alloc (Nat.le_refl _) _⟩
    · have e : hRight q false c s = false := by simp [hRight]; omega
      rw [e]
      go_enter Try.func31, Try.ntmps31
      go_wp2
      go_ret
      exact ⟨by simp [*], (Below.refl _ _).alloc (Nat.le_refl _) _⟩

set_option maxRecDepth 100000 in
set_option maxHeartbeats 800000 in
theorem put_any (q : Int) (l : Bool) (c s : Int) (w : World) (hs : 0 ≤ s ∧ s < 4294967296) :
    Calls Try.prog 54 #[.agg (hdc q l c s)] w fun e w' => e = .returned (.agg (pgc (hPut q l c s))) ∧ Below w.heap.size w w' := by
  unfold hdc
  have hSt := St.start w
  cases l with
  | true =>
    go_enter Try.func54, Try.ntmps54
    go_wp2_with (first | ((with_reducible refine pg_build ?_); refine ⟨rfl, ?_⟩; (simp only [Act.put, List.setIfInBounds_toArray, List.set_cons_succ, List.set_cons_zero])) | ((with_reducible refine ev_box hSt ?_); refine ⟨rfl, _, rfl, ?_⟩; intro gN wN hSt; (simp only [Act.put, List.setIfInBounds_toArray, List.set_cons_succ, List.set_cons_zero])) | ((with_reducible refine ev_alloc hSt (by first | exact zPg | exact zHd | exact zHr) ?_); refine ⟨rfl, ?_⟩; intro gN wN hSt; (simp only [Act.put, List.setIfInBounds_toArray, List.set_cons_succ, List.set_cons_zero])) | ((with_reducible refine ev_load hSt (by first | exact aPg | exact aHd | exact aHr) ?_); refine ⟨rfl, _, _, _, rfl, (by repeat (first | exact List.mem_cons_self .. | refine List.mem_cons_of_mem _ ?_)), (by first | exact pgc_size _ | rfl), ?_⟩; (simp only [Act.put, List.setIfInBounds_toArray, List.set_cons_succ, List.set_cons_zero])) | ((with_reducible refine ev_load1 hSt (by first | exact oInt | exact oBool | exact oU32 | exact oU8) ?_); refine ⟨rfl, _, _, _, _, _, rfl, (by repeat (first | exact List.mem_cons_self .. | refine List.mem_cons_of_mem _ ?_)), (by first | rfl | exact pgc_get _ _ (by decide)), ?_⟩; (simp only [Act.put, List.setIfInBounds_toArray, List.set_cons_succ, List.set_cons_zero])) | ((with_reducible refine ev_store hSt (by first | exact aPg | exact aHd | exact aHr) ?_); (first | refine ⟨rfl, _, [], _, _, _, rfl, rfl, rfl, (by first | exact pgc_size _ | rfl), (by first | exact pgc_size _ | rfl), (by first | exact pgc_one _ | (simp [Value.oneCell']; done) | rfl), ?_⟩ | refine ⟨rfl, _, [_], _, _, _, rfl, rfl, rfl, (by first | exact pgc_size _ | rfl), (by first | exact pgc_size _ | rfl), (by first | exact pgc_one _ | (simp [Value.oneCell']; done) | rfl), ?_⟩ | refine ⟨rfl, _, [_, _], _, _, _, rfl, rfl, rfl, (by first | exact pgc_size _ | rfl), (by first | exact pgc_size _ | rfl), (by first | exact pgc_one _ | (simp [Value.oneCell']; done) | rfl), ?_⟩ | refine ⟨rfl, _, [_, _, _], _, _, _, rfl, rfl, rfl, (by first | exact pgc_size _ | rfl), (by first | exact pgc_size _ | rfl), (by first | exact pgc_one _ | (simp [Value.oneCell']; done) | rfl), ?_⟩); intro wN hSt; simp only [List.nil_append, List.cons_append] at hSt; simp only [Act.put]) | (go_at_call 17; refine (set_any _ _ _ _ _).mono ?_; rintro e w8 ⟨rfl, hb9⟩; replace hSt := hSt.ext hb9))
    ((try simp only [Exit.inBlock, Exit.then]); refine bodyPost_ret (res_pg rfl Try.underlying23 Try.sizePg _ _ _ _ (pgc_size _) rfl (hSt.blk (by repeat (first | exact List.mem_cons_self .. | refine List.mem_cons_of_mem _ ?_)))) rfl ?_)
    exact ⟨rfl, hSt.base⟩
  | false =>
    go_enter Try.func54, Try.ntmps54
    go_wp2_with (first | ((with_reducible refine pg_build ?_); refine ⟨rfl, ?_⟩; (simp only [Act.put, List.setIfInBounds_toArray, List.set_cons_succ, List.set_cons_zero])) | ((with_reducible refine ev_box hSt ?_); refine ⟨rfl, _, rfl, ?_⟩; intro gN wN hSt; (simp only [Act.put, List.setIfInBounds_toArray, List.set_cons_succ, List.set_cons_zero])) | ((with_reducible refine ev_alloc hSt (by first | exact zPg | exact zHd | exact zHr) ?_); refine ⟨rfl, ?_⟩; intro gN wN hSt; (simp only [Act.put, List.setIfInBounds_toArray, List.set_cons_succ, List.set_cons_zero])) | ((with_reducible refine ev_load hSt (by first | exact aPg | exact aHd | exact aHr) ?_); refine ⟨rfl, _, _, _, rfl, (by repeat (first | exact List.mem_cons_self .. | refine List.mem_cons_of_mem _ ?_)), (by first | exact pgc_size _ | rfl), ?_⟩; (simp only [Act.put, List.setIfInBounds_toArray, List.set_cons_succ, List.set_cons_zero])) | ((with_reducible refine ev_load1 hSt (by first | exact oInt | exact oBool | exact oU32 | exact oU8) ?_); refine ⟨rfl, _, _, _, _, _, rfl, (by repeat (first | exact List.mem_cons_self .. | refine List.mem_cons_of_mem _ ?_)), (by first | rfl | exact pgc_get _ _ (by decide)), ?_⟩; (simp only [Act.put, List.setIfInBounds_toArray, List.set_cons_succ, List.set_cons_zero])) | ((with_reducible refine ev_store hSt (by first | exact aPg | exact aHd | exact aHr) ?_); (first | refine ⟨rfl, _, [], _, _, _, rfl, rfl, rfl, (by first | exact pgc_size _ | rfl), (by first | exact pgc_size _ | rfl), (by first | exact pgc_one _ | (simp [Value.oneCell']; done) | rfl), ?_⟩ | refine ⟨rfl, _, [_], _, _, _, rfl, rfl, rfl, (by first | exact pgc_size _ | rfl), (by first | exact pgc_size _ | rfl), (by first | exact pgc_one _ | (simp [Value.oneCell']; done) | rfl), ?_⟩ | refine ⟨rfl, _, [_, _], _, _, _, rfl, rfl, rfl, (by first | exact pgc_size _ | rfl), (by first | exact pgc_size _ | rfl), (by first | exact pgc_one _ | (simp [Value.oneCell']; done) | rfl), ?_⟩ | refine ⟨rfl, _, [_, _, _], _, _, _, rfl, rfl, rfl, (by first | exact pgc_size _ | rfl), (by first | exact pgc_size _ | rfl), (by first | exact pgc_one _ | (simp [Value.oneCell']; done) | rfl), ?_⟩); intro wN hSt; simp only [List.nil_append, List.cons_append] at hSt; simp only [Act.put]) | (go_at_call 17; refine (set_any _ _ _ _ _).mono ?_; rintro e w8 ⟨rfl, hb9⟩; replace hSt := hSt.ext hb9))
    ((try simp only [Exit.inBlock, Exit.then]); refine bodyPost_ret (res_pg rfl Try.underlying23 Try.sizePg _ _ _ _ (pgc_size _) rfl (hSt.blk (by repeat (first | exact List.mem_cons_self .. | refine List.mem_cons_of_mem _ ?_)))) rfl ?_)
    exact ⟨rfl, hSt.base⟩
end Go.Proofs.Ytdikhbdcdpcfgaa
