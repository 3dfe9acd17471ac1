/- The walk of SpanIndex. -/
import Derived.Test.YtmnofoflbhdgjaaSpanE
namespace Go.Proofs.Ytmnofoflbhdgjaa
open Go.RowKit Go.Maps
set_option linter.unusedSimpArgs false
set_option linter.unusedVariables false

theorem where_ix {d o n : Int} (h : ixOk d o n = true) : wOk (ixVal d o n) = true ∧ wDep (ixVal d o n) = d ∧ wOut (ixVal d o n) = o ∧ wInn (ixVal d o n) = n := by
  have hd : d = 0 ∧ o = 0 ∧ 0 ≤ n ∧ n < 4 ∨ d = 1 ∧ o = 0 ∧ 0 ≤ n ∧ n < 32 ∨ d = 2 ∧ 0 ≤ o ∧ o < 32 ∧ 0 ≤ n ∧ n < 32 := by unfold ixOk at h; exact of_decide_eq_true h
  unfold ixVal
  rw [if_pos h]
  rcases hd with ⟨rfl, rfl, h1, h2⟩ | ⟨rfl, rfl, h1, h2⟩ | ⟨rfl, h1, h2, h3, h4⟩
  · rw [if_pos rfl]
    refine ⟨by unfold wOk; exact decide_eq_true (by omega), ?_, ?_, ?_⟩
    · unfold wDep; rw [if_pos (by omega), if_pos (by omega)]
    · unfold wOut; rw [if_neg (by omega)]
    · unfold wInn; rw [if_pos (by omega), if_pos (by omega)]
  · rw [if_neg (by omega), if_pos rfl]
    refine ⟨by unfold wOk; exact decide_eq_true (by omega), ?_, ?_, ?_⟩
    · unfold wDep; rw [if_pos (by omega), if_neg (by omega), if_pos (by omega)]
    · unfold wOut; rw [if_neg (by omega)]
    · unfold wInn; rw [if_pos (by omega), if_neg (by omega), if_pos (by omega)]; omega
  · rw [if_neg (by omega), if_neg (by omega)]
    refine ⟨by unfold wOk; exact decide_eq_true (by omega), ?_, ?_, ?_⟩
    · unfold wDep; rw [if_pos (by omega), if_neg (by omega), if_neg (by omega)]
    · unfold wOut; rw [if_pos (by omega)]; omega
    · unfold wInn; rw [if_pos (by omega), if_neg (by omega), if_neg (by omega)]; omega

theorem where_back {d o n : Int} (h : ixOk d o n = true) (w : World) :
    Calls Try.prog 16 #[.int .i64 (ixVal d o n)] w fun e w' => e = .returned (.tuple #[.agg #[.int .i64 d, .int .i64 o, .int .i64 n], .bool true]) ∧ Below w.heap.size w w' := by
  obtain ⟨h1, h2, h3, h4⟩ := where_ix h
  have := where_at h2 h1 w
  rwa [h3, h4] at this
theorem index_at {d o n : Int} {b : Bool} (h : ixOk d o n = b) (w : World) :
    Calls Try.prog 20 #[.agg #[.int .i64 d, .int .i64 o, .int .i64 n]] w fun e w' => e = .returned (.tuple #[.int .i64 (ixVal d o n), .bool b]) ∧ Below w.heap.size w w' := by
  subst h; exact index_any d o n w

set_option maxRecDepth 100000 in
set_option maxHeartbeats 1600000 in
theorem walk_SpanIndex (d o n : Int) (w : World) :
    Calls Try.prog 5 #[.agg #[.int .i64 d, .int .i64 o, .int .i64 n]] w fun e w' => e = .returned (.bool true) ∧ Below w.heap.size w w' := by
  have hSt := St.start w
  cases hk : ixOk d o n with
  | true =>
    go_enter Try.func5, Try.ntmps5
    go_wp2_with (first
      | ((with_reducible refine pg_build ?_); refine ⟨rfl, ?_⟩; (simp only [Act.put, List.setIfInBounds_toArray, List.set_cons_succ, List.set_cons_zero])) | ((with_reducible refine ev_box hSt ?_); refine ⟨rfl, _, rfl, ?_⟩; intro gN wN hSt; (simp only [Act.put, List.setIfInBounds_toArray, List.set_cons_succ, List.set_cons_zero])) | ((with_reducible refine ev_alloc hSt (by first | exact zPg | exact zHd | exact zHr) ?_); refine ⟨rfl, ?_⟩; intro gN wN hSt; (simp only [Act.put, List.setIfInBounds_toArray, List.set_cons_succ, List.set_cons_zero])) | ((with_reducible refine ev_load hSt (by first | exact aPg | exact aHd | exact aHr) ?_); refine ⟨rfl, _, _, _, rfl, (by repeat (first | exact List.mem_cons_self .. | refine List.mem_cons_of_mem _ ?_)), (by first | exact pgc_size _ | rfl), ?_⟩; (simp only [Act.put, List.setIfInBounds_toArray, List.set_cons_succ, List.set_cons_zero])) | ((with_reducible refine ev_load1 hSt (by first | exact oInt | exact oBool | exact oU32 | exact oU8) ?_); refine ⟨rfl, _, _, _, _, _, rfl, (by repeat (first | exact List.mem_cons_self .. | refine List.mem_cons_of_mem _ ?_)), (by first | rfl | exact pgc_get _ _ (by decide)), ?_⟩; (simp only [Act.put, List.setIfInBounds_toArray, List.set_cons_succ, List.set_cons_zero])) | ((with_reducible refine ev_store hSt (by first | exact aPg | exact aHd | exact aHr) ?_); (first | refine ⟨rfl, _, [], _, _, _, rfl, rfl, rfl, (by first | exact pgc_size _ | rfl), (by first | exact pgc_size _ | rfl), (by first | exact pgc_one _ | (simp [Value.oneCell']; done) | rfl), ?_⟩ | refine ⟨rfl, _, [_], _, _, _, rfl, rfl, rfl, (by first | exact pgc_size _ | rfl), (by first | exact pgc_size _ | rfl), (by first | exact pgc_one _ | (simp [Value.oneCell']; done) | rfl), ?_⟩ | refine ⟨rfl, _, [_, _], _, _, _, rfl, rfl, rfl, (by first | exact pgc_size _ | rfl), (by first | exact pgc_size _ | rfl), (by first | exact pgc_one _ | (simp [Value.oneCell']; done) | rfl), ?_⟩ | refine ⟨rfl, _, [_, _, _], _, _, _, rfl, rfl, rfl, (by first | exact pgc_size _ | rfl), (by first | exact pgc_size _ | rfl), (by first | exact pgc_one _ | (simp [Value.oneCell']; done) | rfl), ?_⟩); intro wN hSt; simp only [List.nil_append, List.cons_append] at hSt; simp only [Act.put])
      | (go_at_call 13; refine (awake10 _).mono ?_; rintro e w8 ⟨rfl, hb9⟩; replace hSt := hSt.ext hb9)
      | (go_at_call 16; refine (where_back hk _).mono ?_; rintro e w8 ⟨rfl, hb9⟩; replace hSt := hSt.ext hb9)
      | (go_at_call 20; refine (index_at hk _).mono ?_; rintro e w8 ⟨rfl, hb9⟩; replace hSt := hSt.ext hb9))
    go_ret
    exact ⟨by simp, hSt.base⟩
  | false =>
    have h0 : ixVal d o n = 0 := by unfold ixVal; rw [hk]; rfl
    go_enter Try.func5, Try.ntmps5
    go_wp2_with (first
      | ((with_reducible refine pg_build ?_); refine ⟨rfl, ?_⟩; (simp only [Act.put, List.setIfInBounds_toArray, List.set_cons_succ, List.set_cons_zero])) | ((with_reducible refine ev_box hSt ?_); refine ⟨rfl, _, rfl, ?_⟩; intro gN wN hSt; (simp only [Act.put, List.setIfInBounds_toArray, List.set_cons_succ, List.set_cons_zero])) | ((with_reducible refine ev_alloc hSt (by first | exact zPg | exact zHd | exact zHr) ?_); refine ⟨rfl, ?_⟩; intro gN wN hSt; (simp only [Act.put, List.setIfInBounds_toArray, List.set_cons_succ, List.set_cons_zero])) | ((with_reducible refine ev_load hSt (by first | exact aPg | exact aHd | exact aHr) ?_); refine ⟨rfl, _, _, _, rfl, (by repeat (first | exact List.mem_cons_self .. | refine List.mem_cons_of_mem _ ?_)), (by first | exact pgc_size _ | rfl), ?_⟩; (simp only [Act.put, List.setIfInBounds_toArray, List.set_cons_succ, List.set_cons_zero])) | ((with_reducible refine ev_load1 hSt (by first | exact oInt | exact oBool | exact oU32 | exact oU8) ?_); refine ⟨rfl, _, _, _, _, _, rfl, (by repeat (first | exact List.mem_cons_self .. | refine List.mem_cons_of_mem _ ?_)), (by first | rfl | exact pgc_get _ _ (by decide)), ?_⟩; (simp only [Act.put, List.setIfInBounds_toArray, List.set_cons_succ, List.set_cons_zero])) | ((with_reducible refine ev_store hSt (by first | exact aPg | exact aHd | exact aHr) ?_); (first | refine ⟨rfl, _, [], _, _, _, rfl, rfl, rfl, (by first | exact pgc_size _ | rfl), (by first | exact pgc_size _ | rfl), (by first | exact pgc_one _ | (simp [Value.oneCell']; done) | rfl), ?_⟩ | refine ⟨rfl, _, [_], _, _, _, rfl, rfl, rfl, (by first | exact pgc_size _ | rfl), (by first | exact pgc_size _ | rfl), (by first | exact pgc_one _ | (simp [Value.oneCell']; done) | rfl), ?_⟩ | refine ⟨rfl, _, [_, _], _, _, _, rfl, rfl, rfl, (by first | exact pgc_size _ | rfl), (by first | exact pgc_size _ | rfl), (by first | exact pgc_one _ | (simp [Value.oneCell']; done) | rfl), ?_⟩ | refine ⟨rfl, _, [_, _, _], _, _, _, rfl, rfl, rfl, (by first | exact pgc_size _ | rfl), (by first | exact pgc_size _ | rfl), (by first | exact pgc_one _ | (simp [Value.oneCell']; done) | rfl), ?_⟩); intro wN hSt; simp only [List.nil_append, List.cons_append] at hSt; simp only [Act.put])
      | (go_at_call 13; refine (awake10 _).mono ?_; rintro e w8 ⟨rfl, hb9⟩; replace hSt := hSt.ext hb9)
      | (go_at_call 20; refine (index_at hk _).mono ?_; rintro e w8 ⟨rfl, hb9⟩; rw [h0]; replace hSt := hSt.ext hb9))
    go_loopw [5] (fun i wr => ∃ k : Nat, k ≤ 1060 ∧ i = .int .i64 k ∧ St w [(gN, .cells #[.int .i64 d, .int .i64 o, .int .i64 n] 28 (0, 0))] wr) (fun i _ => 1060 - (intOf i).toNat)
    case atStart => exact ⟨0, by omega, rfl, hSt⟩
    case round =>
      obtain ⟨k, hk2, rfl, hSt⟩ := hrel
      by_cases hlt : k < 1060
      · have hw : wOk (k : Int) = true := by unfold wOk; exact decide_eq_true (by omega)
        have hne : ¬ (wDep k = d ∧ wOut k = o ∧ wInn k = n) := fun ⟨a, b, c⟩ => by
          have := (ix_where hw).1
          rw [a, b, c, hk] at this; cases this
        have hne' : (decide (wDep (k : Int) = d) && (decide (wOut (k : Int) = o) && decide (wInn (k : Int) = n))) = false := by
          simpa using hne
        go_wp2_with (first
          | ((with_reducible refine pg_build ?_); refine ⟨rfl, ?_⟩; (simp only [Act.put, List.setIfInBounds_toArray, List.set_cons_succ, List.set_cons_zero])) | ((with_reducible refine ev_box hSt ?_); refine ⟨rfl, _, rfl, ?_⟩; intro gN wN hSt; (simp only [Act.put, List.setIfInBounds_toArray, List.set_cons_succ, List.set_cons_zero])) | ((with_reducible refine ev_alloc hSt (by first | exact zPg | exact zHd | exact zHr) ?_); refine ⟨rfl, ?_⟩; intro gN wN hSt; (simp only [Act.put, List.setIfInBounds_toArray, List.set_cons_succ, List.set_cons_zero])) | ((with_reducible refine ev_load hSt (by first | exact aPg | exact aHd | exact aHr) ?_); refine ⟨rfl, _, _, _, rfl, (by repeat (first | exact List.mem_cons_self .. | refine List.mem_cons_of_mem _ ?_)), (by first | exact pgc_size _ | rfl), ?_⟩; (simp only [Act.put, List.setIfInBounds_toArray, List.set_cons_succ, List.set_cons_zero])) | ((with_reducible refine ev_load1 hSt (by first | exact oInt | exact oBool | exact oU32 | exact oU8) ?_); refine ⟨rfl, _, _, _, _, _, rfl, (by repeat (first | exact List.mem_cons_self .. | refine List.mem_cons_of_mem _ ?_)), (by first | rfl | exact pgc_get _ _ (by decide)), ?_⟩; (simp only [Act.put, List.setIfInBounds_toArray, List.set_cons_succ, List.set_cons_zero])) | ((with_reducible refine ev_store hSt (by first | exact aPg | exact aHd | exact aHr) ?_); (first | refine ⟨rfl, _, [], _, _, _, rfl, rfl, rfl, (by first | exact pgc_size _ | rfl), (by first | exact pgc_size _ | rfl), (by first | exact pgc_one _ | (simp [Value.oneCell']; done) | rfl), ?_⟩ | refine ⟨rfl, _, [_], _, _, _, rfl, rfl, rfl, (by first | exact pgc_size _ | rfl), (by first | exact pgc_size _ | rfl), (by first | exact pgc_one _ | (simp [Value.oneCell']; done) | rfl), ?_⟩ | refine ⟨rfl, _, [_, _], _, _, _, rfl, rfl, rfl, (by first | exact pgc_size _ | rfl), (by first | exact pgc_size _ | rfl), (by first | exact pgc_one _ | (simp [Value.oneCell']; done) | rfl), ?_⟩ | refine ⟨rfl, _, [_, _, _], _, _, _, rfl, rfl, rfl, (by first | exact pgc_size _ | rfl), (by first | exact pgc_size _ | rfl), (by first | exact pgc_one _ | (simp [Value.oneCell']; done) | rfl), ?_⟩); intro wN hSt; simp only [List.nil_append, List.cons_append] at hSt; simp only [Act.put])
          | (go_at_call 16; refine (where_at rfl hw _).mono ?_; rintro e w8 ⟨rfl, hb9⟩; replace hSt := hSt.ext hb9))
        all_goals exact ⟨⟨k + 1, by omega, by go_num, hSt.sub (by simp)⟩, by simp [intOf]; omega⟩
      · obtain rfl : k = 1060 := by omega
        go_wp2
        go_ret
        exact ⟨rfl, hSt.base⟩
end Go.Proofs.Ytmnofoflbhdgjaa
