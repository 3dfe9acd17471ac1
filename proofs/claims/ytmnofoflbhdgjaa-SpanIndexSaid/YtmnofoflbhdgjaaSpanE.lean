/- The walks of SpanWays and SpanIndex. -/
import Derived.Test.YtmnofoflbhdgjaaSpanD
namespace Go.Proofs.Ytmnofoflbhdgjaa
open Go.RowKit Go.Maps
set_option linter.unusedSimpArgs false
set_option linter.unusedVariables false

theorem ix_where {i : Int} (h : wOk i = true) : ixOk (wDep i) (wOut i) (wInn i) = true ∧ ixVal (wDep i) (wOut i) (wInn i) = i := by
  have hb : 0 ≤ i ∧ i < 1060 := by unfold wOk at h; exact of_decide_eq_true h
  have hk : ixOk (wDep i) (wOut i) (wInn i) = true := by
    unfold ixOk wDep wOut wInn
    refine decide_eq_true ?_
    rw [if_pos hb, if_pos hb]
    by_cases a1 : i < 4
    · rw [if_pos a1, if_neg (by omega), if_pos a1]; omega
    · rw [if_neg a1, if_neg a1]
      by_cases a2 : i < 36
      · rw [if_pos a2, if_neg (by omega), if_pos a2]; omega
      · rw [if_neg a2, if_pos (by omega), if_neg a2]; omega
  refine ⟨hk, ?_⟩
  unfold ixVal
  rw [if_pos hk]
  by_cases a1 : i < 4
  · have e1 : wDep i = 0 := by unfold wDep; rw [if_pos hb, if_pos a1]
    have e3 : wInn i = i := by unfold wInn; rw [if_pos hb, if_pos a1]
    rw [e1, e3, if_pos rfl]
  by_cases a2 : i < 36
  · have e1 : wDep i = 1 := by unfold wDep; rw [if_pos hb, if_neg a1, if_pos a2]
    have e3 : wInn i = i - 4 := by unfold wInn; rw [if_pos hb, if_neg a1, if_pos a2]
    rw [e1, e3, if_neg (by omega), if_pos rfl]; omega
  · have e1 : wDep i = 2 := by unfold wDep; rw [if_pos hb, if_neg a1, if_neg a2]
    have e2 : wOut i = (i - 36) / 32 := by unfold wOut; rw [if_pos (by omega)]
    have e3 : wInn i = (i - 36) % 32 := by unfold wInn; rw [if_pos hb, if_neg a1, if_neg a2]
    rw [e1, e2, e3, if_neg (by omega), if_neg (by omega)]; omega

theorem index_where {i : Int} (h : wOk i = true) (w : World) :
    Calls Try.prog 20 #[.agg #[.int .i64 (wDep i), .int .i64 (wOut i), .int .i64 (wInn i)]] w fun e w' => e = .returned (.tuple #[.int .i64 i, .bool true]) ∧ Below w.heap.size w w' := by
  have := index_any (wDep i) (wOut i) (wInn i) w
  rwa [(ix_where h).1, (ix_where h).2] at this

set_option maxRecDepth 100000 in
set_option maxHeartbeats 1600000 in
theorem walk_SpanWays (i : Int) (w : World) (hn : i ≤ 9223372036854775807) :
    Calls Try.prog 4 #[.int .i64 i] w fun e w' => e = .returned (.bool true) ∧ Below w.heap.size w w' := by
  have hSt := St.start w
  cases hk : wOk i with
  | true =>
    go_enter Try.func4, Try.ntmps4
    go_wp2_with (first
      | ((with_reducible refine pg_build ?_); refine ⟨rfl, ?_⟩; (simp only [Act.put, List.setIfInBounds_toArray, List.set_cons_succ, List.set_cons_zero])) | ((with_reducible refine ev_box hSt ?_); refine ⟨rfl, _, rfl, ?_⟩; intro gN wN hSt; (simp only [Act.put, List.setIfInBounds_toArray, List.set_cons_succ, List.set_cons_zero])) | ((with_reducible refine ev_alloc hSt (by first | exact zPg | exact zHd | exact zHr) ?_); refine ⟨rfl, ?_⟩; intro gN wN hSt; (simp only [Act.put, List.setIfInBounds_toArray, List.set_cons_succ, List.set_cons_zero])) | ((with_reducible refine ev_load hSt (by first | exact aPg | exact aHd | exact aHr) ?_); refine ⟨rfl, _, _, _, rfl, (by repeat (first | exact List.mem_cons_self .. | refine List.mem_cons_of_mem _ ?_)), (by first | exact pgc_size _ | rfl), ?_⟩; (simp only [Act.put, List.setIfInBounds_toArray, List.set_cons_succ, List.set_cons_zero])) | ((with_reducible refine ev_load1 hSt (by first | exact oInt | exact oBool | exact oU32 | exact oU8) ?_); refine ⟨rfl, _, _, _, _, _, rfl, (by repeat (first | exact List.mem_cons_self .. | refine List.mem_cons_of_mem _ ?_)), (by first | rfl | exact pgc_get _ _ (by decide)), ?_⟩; (simp only [Act.put, List.setIfInBounds_toArray, List.set_cons_succ, List.set_cons_zero])) | ((with_reducible refine ev_store hSt (by first | exact aPg | exact aHd | exact aHr) ?_); (first | refine ⟨rfl, _, [], _, _, _, rfl, rfl, rfl, (by first | exact pgc_size _ | rfl), (by first | exact pgc_size _ | rfl), (by first | exact pgc_one _ | (simp [Value.oneCell']; done) | rfl), ?_⟩ | refine ⟨rfl, _, [_], _, _, _, rfl, rfl, rfl, (by first | exact pgc_size _ | rfl), (by first | exact pgc_size _ | rfl), (by first | exact pgc_one _ | (simp [Value.oneCell']; done) | rfl), ?_⟩ | refine ⟨rfl, _, [_, _], _, _, _, rfl, rfl, rfl, (by first | exact pgc_size _ | rfl), (by first | exact pgc_size _ | rfl), (by first | exact pgc_one _ | (simp [Value.oneCell']; done) | rfl), ?_⟩ | refine ⟨rfl, _, [_, _, _], _, _, _, rfl, rfl, rfl, (by first | exact pgc_size _ | rfl), (by first | exact pgc_size _ | rfl), (by first | exact pgc_one _ | (simp [Value.oneCell']; done) | rfl), ?_⟩); intro wN hSt; simp only [List.nil_append, List.cons_append] at hSt; simp only [Act.put])
      | (go_at_call 13; refine (awake10 _).mono ?_; rintro e w8 ⟨rfl, hb9⟩; replace hSt := hSt.ext hb9)
      | (go_at_call 16; refine (where_at rfl hk _).mono ?_; rintro e w8 ⟨rfl, hb9⟩; replace hSt := hSt.ext hb9)
      | (go_at_call 17; refine (rwhere_any i _).mono ?_; rintro e w8 ⟨rfl, hb9⟩; rw [hk]; replace hSt := hSt.ext hb9)
      | (go_at_call 18; refine (pages_any i _ hn).mono ?_; rintro e w8 ⟨rfl, hb9⟩; replace hSt := hSt.ext hb9)
      | (go_at_call 19; refine (rpages_any i _ hn).mono ?_; rintro e w8 ⟨rfl, hb9⟩; replace hSt := hSt.ext hb9)
      | (go_at_call 20; refine (index_where hk _).mono ?_; rintro e w8 ⟨rfl, hb9⟩; replace hSt := hSt.ext hb9))
    go_ret
    exact ⟨by simp, hSt.base⟩
  | false =>
    go_enter Try.func4, Try.ntmps4
    go_wp2_with (first
      | ((with_reducible refine pg_build ?_); refine ⟨rfl, ?_⟩; (simp only [Act.put, List.setIfInBounds_toArray, List.set_cons_succ, List.set_cons_zero])) | ((with_reducible refine ev_box hSt ?_); refine ⟨rfl, _, rfl, ?_⟩; intro gN wN hSt; (simp only [Act.put, List.setIfInBounds_toArray, List.set_cons_succ, List.set_cons_zero])) | ((with_reducible refine ev_alloc hSt (by first | exact zPg | exact zHd | exact zHr) ?_); refine ⟨rfl, ?_⟩; intro gN wN hSt; (simp only [Act.put, List.setIfInBounds_toArray, List.set_cons_succ, List.set_cons_zero])) | ((with_reducible refine ev_load hSt (by first | exact aPg | exact aHd | exact aHr) ?_); refine ⟨rfl, _, _, _, rfl, (by repeat (first | exact List.mem_cons_self .. | refine List.mem_cons_of_mem _ ?_)), (by first | exact pgc_size _ | rfl), ?_⟩; (simp only [Act.put, List.setIfInBounds_toArray, List.set_cons_succ, List.set_cons_zero])) | ((with_reducible refine ev_load1 hSt (by first | exact oInt | exact oBool | exact oU32 | exact oU8) ?_); refine ⟨rfl, _, _, _, _, _, rfl, (by repeat (first | exact List.mem_cons_self .. | refine List.mem_cons_of_mem _ ?_)), (by first | rfl | exact pgc_get _ _ (by decide)), ?_⟩; (simp only [Act.put, List.setIfInBounds_toArray, List.set_cons_succ, List.set_cons_zero])) | ((with_reducible refine ev_store hSt (by first | exact aPg | exact aHd | exact aHr) ?_); (first | refine ⟨rfl, _, [], _, _, _, rfl, rfl, rfl, (by first | exact pgc_size _ | rfl), (by first | exact pgc_size _ | rfl), (by first | exact pgc_one _ | (simp [Value.oneCell']; done) | rfl), ?_⟩ | refine ⟨rfl, _, [_], _, _, _, rfl, rfl, rfl, (by first | exact pgc_size _ | rfl), (by first | exact pgc_size _ | rfl), (by first | exact pgc_one _ | (simp [Value.oneCell']; done) | rfl), ?_⟩ | refine ⟨rfl, _, [_, _], _, _, _, rfl, rfl, rfl, (by first | exact pgc_size _ | rfl), (by first | exact pgc_size _ | rfl), (by first | exact pgc_one _ | (simp [Value.oneCell']; done) | rfl), ?_⟩ | refine ⟨rfl, _, [_, _, _], _, _, _, rfl, rfl, rfl, (by first | exact pgc_size _ | rfl), (by first | exact pgc_size _ | rfl), (by first | exact pgc_one _ | (simp [Value.oneCell']; done) | rfl), ?_⟩); intro wN hSt; simp only [List.nil_append, List.cons_append] at hSt; simp only [Act.put])
      | (go_at_call 13; refine (awake10 _).mono ?_; rintro e w8 ⟨rfl, hb9⟩; replace hSt := hSt.ext hb9)
      | (go_at_call 16; refine (where_at rfl hk _).mono ?_; rintro e w8 ⟨rfl, hb9⟩; replace hSt := hSt.ext hb9)
      | (go_at_call 17; refine (rwhere_any i _).mono ?_; rintro e w8 ⟨rfl, hb9⟩; rw [hk]; replace hSt := hSt.ext hb9)
      | (go_at_call 18; refine (pages_any i _ hn).mono ?_; rintro e w8 ⟨rfl, hb9⟩; replace hSt := hSt.ext hb9)
      | (go_at_call 19; refine (rpages_any i _ hn).mono ?_; rintro e w8 ⟨rfl, hb9⟩; replace hSt := hSt.ext hb9)
      | (go_at_call 20; refine (index_any _ _ _ _).mono ?_; rintro e w8 ⟨rfl, hb9⟩; replace hSt := hSt.ext hb9))
    go_ret
    exact ⟨by simp, hSt.base⟩
end Go.Proofs.Ytmnofoflbhdgjaa
