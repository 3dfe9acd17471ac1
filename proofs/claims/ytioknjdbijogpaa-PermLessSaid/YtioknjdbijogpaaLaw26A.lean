/- Chapter 26's example, walked. -/
import Derived.Test.YtioknjdbijogpaaPermA
import Derived.Test.YtioknjdbijogpaaRel
import Derived.RegionTactic
import Derived.ChangeAlike
namespace Go.Proofs.Ytioknjdbijogpaa
open Go.RowKit
set_option linter.unusedSimpArgs false
set_option linter.unusedVariables false

set_option maxHeartbeats 1000000 in
set_option maxRecDepth 100000 in
theorem awake26 (w : World) : Calls Try.prog 10 #[] w fun e w' => e = .returned (.bool true) ∧ Below w.heap.size w w' := by
  have hSt := St.start w
  have hm1 : mayB 5 420 5 6 = true := by decide +kernel
  have hm2 : mayB 7 420 5 4 = true := by decide +kernel
  have hm3 : mayB 7 420 5 2 = false := by decide +kernel
  have ht : (⟨(textB 420).toArray⟩ : ByteArray) = ⟨#[114, 119, 45, 114, 45, 45, 114, 45, 45]⟩ := by decide +kernel
  go_enter Try.func10, Try.ntmps10
  go_wp2_with (first
    | ((with_reducible refine pg_build ?_); refine ⟨rfl, ?_⟩; (simp only [Act.put, List.setIfInBounds_toArray, List.set_cons_succ, List.set_cons_zero])) | ((with_reducible refine ev_box hSt ?_); refine ⟨rfl, _, rfl, ?_⟩; intro gN wN hSt; (simp only [Act.put, List.setIfInBounds_toArray, List.set_cons_succ, List.set_cons_zero])) | ((with_reducible refine ev_alloc hSt (by first | exact zPg | exact zHd | exact zHr | exact zX1 | exact zX2 | exact zX3 | exact zX4) ?_); refine ⟨rfl, ?_⟩; intro gN wN hSt; (simp only [Act.put, List.setIfInBounds_toArray, List.set_cons_succ, List.set_cons_zero])) | ((with_reducible refine ev_load hSt (by first | exact aPg | exact aHd | exact aHr | exact aX1 | exact aX2 | exact aX3 | exact aX4) ?_); refine ⟨rfl, _, _, _, rfl, (by repeat (first | exact List.mem_cons_self .. | refine List.mem_cons_of_mem _ ?_)), (by first | exact pgc_size _ | exact nc_size _ _ | rfl), ?_⟩; (simp only [Act.put, List.setIfInBounds_toArray, List.set_cons_succ, List.set_cons_zero])) | ((with_reducible refine ev_load1 hSt (by first | exact oInt | exact oBool | exact oU32 | exact oU8) ?_); refine ⟨rfl, _, _, _, _, _, rfl, (by repeat (first | exact List.mem_cons_self .. | refine List.mem_cons_of_mem _ ?_)), (by first | rfl | exact pgc_get _ _ (by first | decide | omega) | exact nc_get _ _ _ (by first | decide | omega)), ?_⟩; (simp only [Act.put, List.setIfInBounds_toArray, List.set_cons_succ, List.set_cons_zero])) | ((with_reducible refine ev_store hSt (by first | exact aPg | exact aHd | exact aHr | exact aX1 | exact aX2 | exact aX3 | exact aX4) ?_); (first | refine ⟨rfl, _, [], _, _, _, rfl, rfl, rfl, (by first | exact pgc_size _ | exact nc_size _ _ | rfl), (by first | exact pgc_size _ | exact nc_size _ _ | rfl), (by first | exact pgc_one _ | exact nc_one _ _ | (simp [Value.oneCell']; done) | rfl), ?_⟩ | refine ⟨rfl, _, [_], _, _, _, rfl, rfl, rfl, (by first | exact pgc_size _ | exact nc_size _ _ | rfl), (by first | exact pgc_size _ | exact nc_size _ _ | rfl), (by first | exact pgc_one _ | exact nc_one _ _ | (simp [Value.oneCell']; done) | rfl), ?_⟩ | refine ⟨rfl, _, [_, _], _, _, _, rfl, rfl, rfl, (by first | exact pgc_size _ | exact nc_size _ _ | rfl), (by first | exact pgc_size _ | exact nc_size _ _ | rfl), (by first | exact pgc_one _ | exact nc_one _ _ | (simp [Value.oneCell']; done) | rfl), ?_⟩ | refine ⟨rfl, _, [_, _, _], _, _, _, rfl, rfl, rfl, (by first | exact pgc_size _ | exact nc_size _ _ | rfl), (by first | exact pgc_size _ | exact nc_size _ _ | rfl), (by first | exact pgc_one _ | exact nc_one _ _ | (simp [Value.oneCell']; done) | rfl), ?_⟩ | refine ⟨rfl, _, [_, _, _, _], _, _, _, rfl, rfl, rfl, (by first | exact pgc_size _ | exact nc_size _ _ | rfl), (by first | exact pgc_size _ | exact nc_size _ _ | rfl), (by first | exact pgc_one _ | exact nc_one _ _ | (simp [Value.oneCell']; done) | rfl), ?_⟩); intro wN hSt; simp only [List.nil_append, List.cons_append] at hSt; simp only [Act.put])
    | (go_at_call 11; refine (permMay_is _ _ 420 5 _ rfl rfl rfl _).mono ?_; rintro e w1 ⟨rfl, hb9⟩; replace hSt := hSt.ext hb9)
    | (go_at_call 12; refine (permText_is _ _).mono ?_; rintro e w1 ⟨rfl, hb9⟩; replace hSt := hSt.ext hb9; rw [ht]))
  go_ret
  exact ⟨rfl, hSt.base⟩
end Go.Proofs.Ytioknjdbijogpaa
