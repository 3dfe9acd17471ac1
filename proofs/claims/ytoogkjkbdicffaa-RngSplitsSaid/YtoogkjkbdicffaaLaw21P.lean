/- Chapter 21: the law RngSplits, walked. -/
import Derived.Test.YtoogkjkbdicffaaSplE
import Derived.Test.YtoogkjkbdicffaaRngM
namespace Go.Proofs.Ytoogkjkbdicffaa
open Go.RowKit
set_option linter.unusedSimpArgs false
set_option linter.unusedVariables false

set_option maxHeartbeats 4000000 in
set_option maxRecDepth 100000 in
theorem walk_RngSplits (op a b c d : Int) (ha : I64 a) (hb : I64 b) (hc : I64 c) (hd : I64 d) (w : World) :
    Calls Try.prog 7 #[.int .i64 op, .agg #[.int .i64 a, .int .i64 b], .agg #[.int .i64 c, .int .i64 d]] w fun e w' => e = .returned (.bool true) ∧ Below w.heap.size w w' := by
  have hSt := St.start w
  have hS1 := fun w => split_is op a b c d ha hb hc hd w
  have hS2 := fun w => rsplit_is op a b c d ha hb hc hd w
  unfold sv at hS1
  generalize splitV op (a, b) (c, d) = r at *
  clear ha hb hc hd
  go_enter Try.func7, Try.ntmps7
  go_wp2_with (first | (go_at_call 9; refine (awake21 _).mono ?_; rintro e w8 ⟨rfl, hb9⟩; replace hSt := hSt.ext hb9) | (go_at_call 11; refine (hS1 _).mono ?_; rintro e w8 ⟨rfl, hb9⟩; replace hSt := hSt.ext hb9) | (go_at_call 22; refine (hS2 _).mono ?_; rintro e w8 ⟨rfl, hb9⟩; replace hSt := hSt.ext hb9) | ((with_reducible refine ev_box hSt ?_); refine ⟨rfl, _, rfl, ?_⟩; intro gN wN hSt; (simp only [Act.put, List.setIfInBounds_toArray, List.set_cons_succ, List.set_cons_zero])) | ((with_reducible refine ev_loadAt hSt aX2 ?_); refine ⟨rfl, _, _, _, _, [_, _], rfl, (by repeat (first | exact List.mem_cons_self .. | refine List.mem_cons_of_mem _ ?_)), rfl, rfl, ?_⟩; (simp only [Act.put, List.setIfInBounds_toArray, List.set_cons_succ, List.set_cons_zero])) | ((with_reducible refine ev_alloc hSt (by first | exact zPg | exact zHd | exact zHr | exact zX1 | exact zX2 | exact zX3 | exact zX4) ?_); refine ⟨rfl, ?_⟩; intro gN wN hSt; (simp only [Act.put, List.setIfInBounds_toArray, List.set_cons_succ, List.set_cons_zero])) | ((with_reducible refine ev_load hSt (by first | exact aPg | exact aHd | exact aHr | exact aX1 | exact aX2 | exact aX3 | exact aX4) ?_); refine ⟨rfl, _, _, _, rfl, (by repeat (first | exact List.mem_cons_self .. | refine List.mem_cons_of_mem _ ?_)), (by first | exact pgc_size _ | exact nc_size _ _ | rfl), ?_⟩; (simp only [Act.put, List.setIfInBounds_toArray, List.set_cons_succ, List.set_cons_zero])) | ((with_reducible refine ev_load1 hSt (by first | exact oInt | exact oBool | exact oU32 | exact oU8) ?_); refine ⟨rfl, _, _, _, _, _, rfl, (by repeat (first | exact List.mem_cons_self .. | refine List.mem_cons_of_mem _ ?_)), (by first | rfl | exact pgc_get _ _ (by first | decide | omega) | exact nc_get _ _ _ (by first | decide | omega)), ?_⟩; (simp only [Act.put, List.setIfInBounds_toArray, List.set_cons_succ, List.set_cons_zero])) | ((with_reducible refine ev_store hSt (by first | exact aPg | exact aHd | exact aHr | exact aX1 | exact aX2 | exact aX3 | exact aX4) ?_); (first | refine ⟨rfl, _, [], _, _, _, rfl, rfl, rfl, (by first | exact pgc_size _ | exact nc_size _ _ | rfl), (by first | exact pgc_size _ | exact nc_size _ _ | rfl), (by first | exact pgc_one _ | exact nc_one _ _ | (simp [Value.oneCell']; done) | rfl), ?_⟩ | refine ⟨rfl, _, [_], _, _, _, rfl, rfl, rfl, (by first | exact pgc_size _ | exact nc_size _ _ | rfl), (by first | exact pgc_size _ | exact nc_size _ _ | rfl), (by first | exact pgc_one _ | exact nc_one _ _ | (simp [Value.oneCell']; done) | rfl), ?_⟩ | refine ⟨rfl, _, [_, _], _, _, _, rfl, rfl, rfl, (by first | exact pgc_size _ | exact nc_size _ _ | rfl), (by first | exact pgc_size _ | exact nc_size _ _ | rfl), (by first | exact pgc_one _ | exact nc_one _ _ | (simp [Value.oneCell']; done) | rfl), ?_⟩ | refine ⟨rfl, _, [_, _, _], _, _, _, rfl, rfl, rfl, (by first | exact pgc_size _ | exact nc_size _ _ | rfl), (by first | exact pgc_size _ | exact nc_size _ _ | rfl), (by first | exact pgc_one _ | exact nc_one _ _ | (simp [Value.oneCell']; done) | rfl), ?_⟩ | refine ⟨rfl, _, [_, _, _, _], _, _, _, rfl, rfl, rfl, (by first | exact pgc_size _ | exact nc_size _ _ | rfl), (by first | exact pgc_size _ | exact nc_size _ _ | rfl), (by first | exact pgc_one _ | exact nc_one _ _ | (simp [Value.oneCell']; done) | rfl), ?_⟩); intro wN hSt; simp only [List.nil_append, List.cons_append] at hSt; simp only [Act.put]))
  go_ret
  exact ⟨rfl, hSt.base⟩
end Go.Proofs.Ytoogkjkbdicffaa
