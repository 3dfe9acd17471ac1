/- The walk of SpanMeta. -/
import Derived.Test.YtmnofoflbhdgjaaSpanH
import Derived.Test.YtmnofoflbhdgjaaSpanD
namespace Go.Proofs.Ytmnofoflbhdgjaa
open Go.RowKit Go.Maps PSpanMeta Go.Proofs.YtmnofoflbhdgjaaW.PrintWords
set_option linter.unusedSimpArgs false
set_option linter.unusedVariables false

theorem kdC_of {w : World} {a : Option Addr} {l : List Int} (h : IntSl w a l) (hs : l.length ≤ 9223372036854775807) : Kd.C (Kd.int .i64) w a l.length l := by
  refine ⟨rfl, hs, fun h0 => ?_⟩
  obtain ⟨x, rfl, -, -⟩ := h 0 h0
  refine ⟨x, rfl, fun j p hp => ⟨[.int .i64 p], rfl, rfl, fun i u hu => ?_⟩⟩
  obtain ⟨hj, rfl⟩ := List.getElem?_eq_some_iff.1 hp
  obtain ⟨x', e, hc, -⟩ := h j hj
  cases e
  cases i with
  | zero => simp at hu; subst hu; simpa [Kd.int, Kd.scalar] using hc
  | succ i => simp at hu

theorem rmeta_any (a : Option Addr) (ls : List Int) (cap : Nat) (w : World) (hl : IntSl w a ls) (hs : ls.length ≤ 200) (hc : ls.length ≤ cap) :
    Calls Try.prog 15 #[.slice a ls.length cap] w fun e w' => e = .returned (.int .i64 (Maps.size (mset ls))) ∧ Below w.heap.size w w' :=
  narthexref10_Meta.calls _ a cap ls _ w (kdC_of hl (by omega)) hc (rm_f ls hs _ (Nat.le_refl _))

set_option maxRecDepth 100000 in
set_option maxHeartbeats 800000 in
theorem walk_SpanMeta (a : Option Addr) (ls : List Int) (cap : Nat) (w : World) (hl : IntSl w a ls) (hs : ls.length ≤ 1000000000000000) (hc : ls.length ≤ cap) :
    Calls Try.prog 3 #[.slice a ls.length cap] w fun e w' => e = .returned (.bool true) ∧ Below w.heap.size w w' := by
  have hSt := St.start w
  by_cases c1 : 200 < ls.length
  · go_enter Try.func3, Try.ntmps3
    go_wp2_with (first
      | ((with_reducible refine pg_build ?_); refine ⟨rfl, ?_⟩; (simp only [Act.put, List.setIfInBounds_toArray, List.set_cons_succ, List.set_cons_zero])) | ((with_reducible refine ev_box hSt ?_); refine ⟨rfl, _, rfl, ?_⟩; intro gN wN hSt; (simp only [Act.put, List.setIfInBounds_toArray, List.set_cons_succ, List.set_cons_zero])) | ((with_reducible refine ev_alloc hSt (by first | exact zPg | exact zHd | exact zHr) ?_); refine ⟨rfl, ?_⟩; intro gN wN hSt; (simp only [Act.put, List.setIfInBounds_toArray, List.set_cons_succ, List.set_cons_zero])) | ((with_reducible refine ev_load hSt (by first | exact aPg | exact aHd | exact aHr) ?_); refine ⟨rfl, _, _, _, rfl, (by repeat (first | exact List.mem_cons_self .. | refine List.mem_cons_of_mem _ ?_)), (by first | exact pgc_size _ | rfl), ?_⟩; (simp only [Act.put, List.setIfInBounds_toArray, List.set_cons_succ, List.set_cons_zero])) | ((with_reducible refine ev_load1 hSt (by first | exact oInt | exact oBool | exact oU32 | exact oU8) ?_); refine ⟨rfl, _, _, _, _, _, rfl, (by repeat (first | exact List.mem_cons_self .. | refine List.mem_cons_of_mem _ ?_)), (by first | rfl | exact pgc_get _ _ (by decide)), ?_⟩; (simp only [Act.put, List.setIfInBounds_toArray, List.set_cons_succ, List.set_cons_zero])) | ((with_reducible refine ev_store hSt (by first | exact aPg | exact aHd | exact aHr) ?_); (first | refine ⟨rfl, _, [], _, _, _, rfl, rfl, rfl, (by first | exact pgc_size _ | rfl), (by first | exact pgc_size _ | rfl), (by first | exact pgc_one _ | (simp [Value.oneCell']; done) | rfl), ?_⟩ | refine ⟨rfl, _, [_], _, _, _, rfl, rfl, rfl, (by first | exact pgc_size _ | rfl), (by first | exact pgc_size _ | rfl), (by first | exact pgc_one _ | (simp [Value.oneCell']; done) | rfl), ?_⟩ | refine ⟨rfl, _, [_, _], _, _, _, rfl, rfl, rfl, (by first | exact pgc_size _ | rfl), (by first | exact pgc_size _ | rfl), (by first | exact pgc_one _ | (simp [Value.oneCell']; done) | rfl), ?_⟩ | refine ⟨rfl, _, [_, _, _], _, _, _, rfl, rfl, rfl, (by first | exact pgc_size _ | rfl), (by first | exact pgc_size _ | rfl), (by first | exact pgc_one _ | (simp [Value.oneCell']; done) | rfl), ?_⟩); intro wN hSt; simp only [List.nil_append, List.cons_append] at hSt; simp only [Act.put])
      | (go_at_call 13; refine (awake10 _).mono ?_; rintro e w8 ⟨rfl, hb9⟩; replace hSt := hSt.ext hb9))
    go_ret
    exact ⟨rfl, hSt.base⟩
  · go_enter Try.func3, Try.ntmps3
    go_wp2_with (first
      | ((with_reducible refine pg_build ?_); refine ⟨rfl, ?_⟩; (simp only [Act.put, List.setIfInBounds_toArray, List.set_cons_succ, List.set_cons_zero])) | ((with_reducible refine ev_box hSt ?_); refine ⟨rfl, _, rfl, ?_⟩; intro gN wN hSt; (simp only [Act.put, List.setIfInBounds_toArray, List.set_cons_succ, List.set_cons_zero])) | ((with_reducible refine ev_alloc hSt (by first | exact zPg | exact zHd | exact zHr) ?_); refine ⟨rfl, ?_⟩; intro gN wN hSt; (simp only [Act.put, List.setIfInBounds_toArray, List.set_cons_succ, List.set_cons_zero])) | ((with_reducible refine ev_load hSt (by first | exact aPg | exact aHd | exact aHr) ?_); refine ⟨rfl, _, _, _, rfl, (by repeat (first | exact List.mem_cons_self .. | refine List.mem_cons_of_mem _ ?_)), (by first | exact pgc_size _ | rfl), ?_⟩; (simp only [Act.put, List.setIfInBounds_toArray, List.set_cons_succ, List.set_cons_zero])) | ((with_reducible refine ev_load1 hSt (by first | exact oInt | exact oBool | exact oU32 | exact oU8) ?_); refine ⟨rfl, _, _, _, _, _, rfl, (by repeat (first | exact List.mem_cons_self .. | refine List.mem_cons_of_mem _ ?_)), (by first | rfl | exact pgc_get _ _ (by decide)), ?_⟩; (simp only [Act.put, List.setIfInBounds_toArray, List.set_cons_succ, List.set_cons_zero])) | ((with_reducible refine ev_store hSt (by first | exact aPg | exact aHd | exact aHr) ?_); (first | refine ⟨rfl, _, [], _, _, _, rfl, rfl, rfl, (by first | exact pgc_size _ | rfl), (by first | exact pgc_size _ | rfl), (by first | exact pgc_one _ | (simp [Value.oneCell']; done) | rfl), ?_⟩ | refine ⟨rfl, _, [_], _, _, _, rfl, rfl, rfl, (by first | exact pgc_size _ | rfl), (by first | exact pgc_size _ | rfl), (by first | exact pgc_one _ | (simp [Value.oneCell']; done) | rfl), ?_⟩ | refine ⟨rfl, _, [_, _], _, _, _, rfl, rfl, rfl, (by first | exact pgc_size _ | rfl), (by first | exact pgc_size _ | rfl), (by first | exact pgc_one _ | (simp [Value.oneCell']; done) | rfl), ?_⟩ | refine ⟨rfl, _, [_, _, _], _, _, _, rfl, rfl, rfl, (by first | exact pgc_size _ | rfl), (by first | exact pgc_size _ | rfl), (by first | exact pgc_one _ | (simp [Value.oneCell']; done) | rfl), ?_⟩); intro wN hSt; simp only [List.nil_append, List.cons_append] at hSt; simp only [Act.put])
      | (go_at_call 13; refine (awake10 _).mono ?_; rintro e w8 ⟨rfl, hb9⟩; replace hSt := hSt.ext hb9)
      | (go_at_call 14; refine (meta_any a ls cap _ (hl.ext hSt.base) hs).mono ?_; rintro e w8 ⟨rfl, hb9⟩; replace hSt := hSt.ext hb9)
      | (go_at_call 15; refine (rmeta_any a ls cap _ (hl.ext hSt.base) (by omega) hc).mono ?_; rintro e w8 ⟨rfl, hb9⟩; replace hSt := hSt.ext hb9))
    go_ret
    exact ⟨by simp, hSt.base⟩
end Go.Proofs.Ytmnofoflbhdgjaa
