/- The law's awake of chapter 04. -/
import Derived.Test.YtdikhbdcdpcfgaaHeadC
namespace Go.Proofs.Ytdikhbdcdpcfgaa
open Go.RowKit
set_option linter.unusedSimpArgs false

theorem dec_zero (w : World) : Calls Try.prog 33 #[.agg (pgc zp)] w fun e w' => e = .returned (.tuple #[.agg (hdc 0 false 0 0), .bool true]) ∧ Below w.heap.size w w' :=
  decode_good zp w (by kernel_rfl) (by kernel_rfl)
theorem enc_ex (w : World) : Calls Try.prog 30 #[.agg (hdc 258 true 3 7)] w fun e w' => e = .returned (.tuple #[.agg (pgc (hPut 258 true 3 7)), .int .i64 0]) ∧ Below w.heap.size w w' := by
  have := encode_any 258 true 3 7 w (by decide)
  rwa [show hEncP 258 true 3 7 = hPut 258 true 3 7 from rfl, show hEncE 258 true 3 7 = 0 from rfl] at this

set_option maxRecDepth 100000 in
set_option maxHeartbeats 1600000 in
theorem awake04 (w : World) : Calls Try.prog 29 #[] w fun e w' => e = .returned (.bool true) ∧ Below w.heap.size w w' := by
  have c2 : hPut 258 true 3 7 2 = 1 := by kernel_rfl
  have c63 : hPut 258 true 3 7 63 = 2 := by kernel_rfl
  have c4 : hPut 258 true 3 7 4 = 1 := by kernel_rfl
  have hSt := St.start w
  go_enter Try.func29, Try.ntmps29
  go_wp2_with (first
    | ((with_reducible refine pg_build ?_); refine ⟨rfl, ?_⟩; (simp only [Act.put, List.setIfInBounds_toArray, List.set_cons_succ, List.set_cons_zero])) | ((with_reducible refine ev_box hSt ?_); refine ⟨rfl, _, rfl, ?_⟩; intro gN wN hSt; (simp only [Act.put, List.setIfInBounds_toArray, List.set_cons_succ, List.set_cons_zero])) | ((with_reducible refine ev_alloc hSt (by first | exact zPg | exact zHd | exact zHr) ?_); refine ⟨rfl, ?_⟩; intro gN wN hSt; (simp only [Act.put, List.setIfInBounds_toArray, List.set_cons_succ, List.set_cons_zero])) | ((with_reducible refine ev_load hSt (by first | exact aPg | exact aHd | exact aHr) ?_); refine ⟨rfl, _, _, _, rfl, (by repeat (first | exact List.mem_cons_self .. | refine List.mem_cons_of_mem _ ?_)), (by first | exact pgc_size _ | rfl), ?_⟩; (simp only [Act.put, List.setIfInBounds_toArray, List.set_cons_succ, List.set_cons_zero])) | ((with_reducible refine ev_load1 hSt (by first | exact oInt | exact oBool | exact oU32 | exact oU8) ?_); refine ⟨rfl, _, _, _, _, _, rfl, (by repeat (first | exact List.mem_cons_self .. | refine List.mem_cons_of_mem _ ?_)), (by first | rfl | exact pgc_get _ _ (by decide)), ?_⟩; (simp only [Act.put, List.setIfInBounds_toArray, List.set_cons_succ, List.set_cons_zero])) | ((with_reducible refine ev_store hSt (by first | exact aPg | exact aHd | exact aHr) ?_); (first | refine ⟨rfl, _, [], _, _, _, rfl, rfl, rfl, (by first | exact pgc_size _ | rfl), (by first | exact pgc_size _ | rfl), (by first | exact pgc_one _ | (simp [Value.oneCell']; done) | rfl), ?_⟩ | refine ⟨rfl, _, [_], _, _, _, rfl, rfl, rfl, (by first | exact pgc_size _ | rfl), (by first | exact pgc_size _ | rfl), (by first | exact pgc_one _ | (simp [Value.oneCell']; done) | rfl), ?_⟩ | refine ⟨rfl, _, [_, _], _, _, _, rfl, rfl, rfl, (by first | exact pgc_size _ | rfl), (by first | exact pgc_size _ | rfl), (by first | exact pgc_one _ | (simp [Value.oneCell']; done) | rfl), ?_⟩ | refine ⟨rfl, _, [_, _, _], _, _, _, rfl, rfl, rfl, (by first | exact pgc_size _ | rfl), (by first | exact pgc_size _ | rfl), (by first | exact pgc_one _ | (simp [Value.oneCell']; done) | rfl), ?_⟩); intro wN hSt; simp only [List.nil_append, List.cons_append] at hSt; simp only [Act.put])
    | (go_at_call 33; refine (dec_zero _).mono ?_; rintro e w8 ⟨rfl, hb9⟩; replace hSt := hSt.ext hb9; unfold hdc)
    | (go_at_call 30; refine (enc_ex _).mono ?_; rintro e w8 ⟨rfl, hb9⟩; replace hSt := hSt.ext hb9))
  go_ret
  exact ⟨rfl, hSt.base⟩
end Go.Proofs.Ytdikhbdcdpcfgaa
