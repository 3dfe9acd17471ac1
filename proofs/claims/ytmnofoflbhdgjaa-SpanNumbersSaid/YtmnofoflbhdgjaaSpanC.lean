/- The walk of span.Meta: a map of ways. -/
import Derived.Test.YtmnofoflbhdgjaaSpanB
import Derived.Test.YtmnofoflbhdgjaaStMap
import Derived.DeepKeys5
import Derived.Test.YtmnofoflbhdgjaaIntSl
namespace Go.Proofs.Ytmnofoflbhdgjaa
open Go.RowKit Go.Maps
set_option linter.unusedSimpArgs false
set_option linter.unusedVariables false

theorem wayLaw : Keyed Try.prog 28 := Keyed.of_law (deep_law_gate (by kernel_rfl) (of_decide_eq_true (by kernel_rfl)) (of_decide_eq_true (by kernel_rfl)) (by kernel_rfl) (by kernel_rfl))
/-- What a way reads as, as a key. -/
@[irreducible] noncomputable def wk (d o n : Int) : Lit := (keyOf Try.prog 28 (.agg (wyc d o n))).getD (.bool false)
theorem wk_ok {d o n : Int} (h : (keyOf Try.prog 28 (.agg (wyc d o n))).isSome = true) : keyOf Try.prog 28 (.agg (wyc d o n)) = some (wk d o n) := by
  unfold wk
  obtain ⟨x, hx⟩ := Option.isSome_iff_exists.1 h
  rw [hx]; rfl
theorem key200 : keyOf Try.prog 28 (.agg (wyc 2 0 0)) = some (wk 2 0 0) := wk_ok (by kernel_rfl)
theorem key100 : keyOf Try.prog 28 (.agg (wyc 1 0 0)) = some (wk 1 0 0) := wk_ok (by kernel_rfl)
theorem keys_all : ((List.range 32).all fun o => (keyOf Try.prog 28 (.agg (wyc 2 (o : Int) 1))).isSome) = true := by kernel_rfl
theorem key2o1 (o : Int) (h0 : 0 ≤ o) (h1 : o < 32) : keyOf Try.prog 28 (.agg (wyc 2 o 1)) = some (wk 2 o 1) := by
  refine wk_ok ?_
  obtain ⟨m, rfl⟩ := Int.eq_ofNat_of_zero_le h0
  exact List.all_eq_true.1 keys_all m (List.mem_range.2 (by omega))

abbrev DU := DataW Unit
def tt : DU := .lit (.bool true)
/-- One page more. -/
noncomputable def mstep (D : DU) (i : Int) : DU := if wDep i = 0 then D else if wDep i = 2 then (D.put (wk 2 0 0) tt).put (wk 2 (wOut i) 1) tt else D.put (wk 1 0 0) tt
noncomputable def mset (l : List Int) : DU := l.foldl mstep (.map [])
theorem mset_snoc (l : List Int) (i : Int) : mset (l ++ [i]) = mstep (mset l) i := by simp [mset]
theorem take_snocI (l : List Int) (k : Nat) (h : k < l.length) : l.take (k + 1) = l.take k ++ [l[k]] := by
  rw [List.take_succ_eq_append_getElem h]

theorem wDep_cases (i : Int) : wDep i = 0 ∨ wDep i = 1 ∨ wDep i = 2 := by
  unfold wDep
  split
  · split
    · exact .inl rfl
    · split
      · exact .inr (.inl rfl)
      · exact .inr (.inr rfl)
  · exact .inl rfl
theorem wOk_of_dep {i : Int} (h : wDep i ≠ 0) : wOk i = true := by
  unfold wDep at h
  unfold wOk
  split at h
  · exact decide_eq_true (by assumption)
  · exact absurd rfl h
theorem wOut_bd (i : Int) : 0 ≤ wOut i ∧ wOut i < 32 := by
  unfold wOut
  split <;> omega

theorem where_at {i d : Int} {b : Bool} (hd : wDep i = d) (hw : wOk i = b) (w : World) :
    Calls Try.prog 16 #[.int .i64 i] w fun e w' => e = .returned (.tuple #[.agg #[.int .i64 d, .int .i64 (wOut i), .int .i64 (wInn i)], .bool b]) ∧ Below w.heap.size w w' := by
  subst hd hw
  exact where_any i w

set_option maxRecDepth 100000 in
set_option maxHeartbeats 1600000 in
theorem meta_any (a : Option Addr) (ls : List Int) (cap : Nat) (w : World) (hl : IntSl w a ls) (hs : ls.length ≤ 1000000000000000) :
    Calls Try.prog 14 #[.slice a ls.length cap] w fun e w' => e = .returned (.int .i64 (Maps.size (mset ls))) ∧ Below w.heap.size w w' := by
  have hmm := @run_makeMap Try.prog
  have hul : Try.prog.underlying 88 = some (.map 28 4) := Try.underlying88
  have hub : Try.prog.underlying 4 = some .bool := Try.underlying4
  go_enter Try.func14, Try.ntmps14
  go_wp2
  go_loopw [11] (fun i wr => ∃ k : Nat, k ≤ ls.length ∧ i = .int .i64 k ∧ ∃ o, St w [(w.heap.size, o)] wr ∧ MapO (H := Unit) Try.prog 28 (plainElem Try.prog 4) (2 * k) (mset (ls.take k)) o) (fun i _ => ls.length - (intOf i).toNat)
  case atStart => exact ⟨0, Nat.zero_le _, rfl, _, (St.start w).alloc _, mapO_made _ _ _⟩
  case round =>
    obtain ⟨k, hk, rfl, o, hSt, hO⟩ := hrel
    by_cases hlt : k < ls.length
    · obtain ⟨x, rfl, hc, -⟩ := (hl.ext hSt.base) k hlt
      have hmx : (2 * k + 1 + 1) < maxLen := by unfold maxLen; omega
      have hset : mset (ls.take (k + 1)) = mstep (mset (ls.take k)) ls[k] := by rw [take_snocI ls k hlt, mset_snoc]
      generalize hi : ls[k] = i at hc hset
      have hob := wOut_bd i
      have hko := key2o1 (wOut i) hob.1 hob.2
      rcases wDep_cases i with hd | hd | hd
      · have e1 : mstep (mset (ls.take k)) i = mset (ls.take k) := by unfold mstep; rw [if_pos hd]
        rw [e1] at hset
        cases hw : wOk i with
        | true =>
          go_wp2_with (first | ((with_reducible refine pg_build ?_); refine ⟨rfl, ?_⟩; (simp only [Act.put, List.setIfInBounds_toArray, List.set_cons_succ, List.set_cons_zero])) | ((with_reducible refine ev_box hSt ?_); refine ⟨rfl, _, rfl, ?_⟩; intro gN wN hSt; (simp only [Act.put, List.setIfInBounds_toArray, List.set_cons_succ, List.set_cons_zero])) | ((with_reducible refine ev_alloc hSt (by first | exact zPg | exact zHd | exact zHr) ?_); refine ⟨rfl, ?_⟩; intro gN wN hSt; (simp only [Act.put, List.setIfInBounds_toArray, List.set_cons_succ, List.set_cons_zero])) | ((with_reducible refine ev_load hSt (by first | exact aPg | exact aHd | exact aHr) ?_); refine ⟨rfl, _, _, _, rfl, (by repeat (first | exact List.mem_cons_self .. | refine List.mem_cons_of_mem _ ?_)), (by first | exact pgc_size _ | rfl), ?_⟩; (simp only [Act.put, List.setIfInBounds_toArray, List.set_cons_succ, List.set_cons_zero])) | ((with_reducible refine ev_load1 hSt (by first | exact oInt | exact oBool | exact oU32 | exact oU8) ?_); refine ⟨rfl, _, _, _, _, _, rfl, (by repeat (first | exact List.mem_cons_self .. | refine List.mem_cons_of_mem _ ?_)), (by first | rfl | exact pgc_get _ _ (by first | decide | omega)), ?_⟩; (simp only [Act.put, List.setIfInBounds_toArray, List.set_cons_succ, List.set_cons_zero])) | ((with_reducible refine ev_store hSt (by first | exact aPg | exact aHd | exact aHr) ?_); (first | refine ⟨rfl, _, [], _, _, _, rfl, rfl, rfl, (by first | exact pgc_size _ | rfl), (by first | exact pgc_size _ | rfl), (by first | exact pgc_one _ | (simp [Value.oneCell']; done) | rfl), ?_⟩ | refine ⟨rfl, _, [_], _, _, _, rfl, rfl, rfl, (by first | exact pgc_size _ | rfl), (by first | exact pgc_size _ | rfl), (by first | exact pgc_one _ | (simp [Value.oneCell']; done) | rfl), ?_⟩ | refine ⟨rfl, _, [_, _], _, _, _, rfl, rfl, rfl, (by first | exact pgc_size _ | rfl), (by first | exact pgc_size _ | rfl), (by first | exact pgc_one _ | (simp [Value.oneCell']; done) | rfl), ?_⟩ | refine ⟨rfl, _, [_, _, _], _, _, _, rfl, rfl, rfl, (by first | exact pgc_size _ | rfl), (by first | exact pgc_size _ | rfl), (by first | exact pgc_one _ | (simp [Value.oneCell']; done) | rfl), ?_⟩); intro wN hSt; simp only [List.nil_append, List.cons_append] at hSt; simp only [Act.put]) | (go_at_call 16; refine (where_at hd hw _).mono ?_; rintro e w8 ⟨rfl, hb9⟩; replace hSt := hSt.ext hb9))
          go_roundw
          case rel => exact ⟨k + 1, by omega, by go_num, o, hSt.sub (by simp), by rw [hset]; exact hO.mono (by omega)⟩
          case measure => simp [intOf]; omega
        | false =>
          go_wp2_with (first | ((with_reducible refine pg_build ?_); refine ⟨rfl, ?_⟩; (simp only [Act.put, List.setIfInBounds_toArray, List.set_cons_succ, List.set_cons_zero])) | ((with_reducible refine ev_box hSt ?_); refine ⟨rfl, _, rfl, ?_⟩; intro gN wN hSt; (simp only [Act.put, List.setIfInBounds_toArray, List.set_cons_succ, List.set_cons_zero])) | ((with_reducible refine ev_alloc hSt (by first | exact zPg | exact zHd | exact zHr) ?_); refine ⟨rfl, ?_⟩; intro gN wN hSt; (simp only [Act.put, List.setIfInBounds_toArray, List.set_cons_succ, List.set_cons_zero])) | ((with_reducible refine ev_load hSt (by first | exact aPg | exact aHd | exact aHr) ?_); refine ⟨rfl, _, _, _, rfl, (by repeat (first | exact List.mem_cons_self .. | refine List.mem_cons_of_mem _ ?_)), (by first | exact pgc_size _ | rfl), ?_⟩; (simp only [Act.put, List.setIfInBounds_toArray, List.set_cons_succ, List.set_cons_zero])) | ((with_reducible refine ev_load1 hSt (by first | exact oInt | exact oBool | exact oU32 | exact oU8) ?_); refine ⟨rfl, _, _, _, _, _, rfl, (by repeat (first | exact List.mem_cons_self .. | refine List.mem_cons_of_mem _ ?_)), (by first | rfl | exact pgc_get _ _ (by first | decide | omega)), ?_⟩; (simp only [Act.put, List.setIfInBounds_toArray, List.set_cons_succ, List.set_cons_zero])) | ((with_reducible refine ev_store hSt (by first | exact aPg | exact aHd | exact aHr) ?_); (first | refine ⟨rfl, _, [], _, _, _, rfl, rfl, rfl, (by first | exact pgc_size _ | rfl), (by first | exact pgc_size _ | rfl), (by first | exact pgc_one _ | (simp [Value.oneCell']; done) | rfl), ?_⟩ | refine ⟨rfl, _, [_], _, _, _, rfl, rfl, rfl, (by first | exact pgc_size _ | rfl), (by first | exact pgc_size _ | rfl), (by first | exact pgc_one _ | (simp [Value.oneCell']; done) | rfl), ?_⟩ | refine ⟨rfl, _, [_, _], _, _, _, rfl, rfl, rfl, (by first | exact pgc_size _ | rfl), (by first | exact pgc_size _ | rfl), (by first | exact pgc_one _ | (simp [Value.oneCell']; done) | rfl), ?_⟩ | refine ⟨rfl, _, [_, _, _], _, _, _, rfl, rfl, rfl, (by first | exact pgc_size _ | rfl), (by first | exact pgc_size _ | rfl), (by first | exact pgc_one _ | (simp [Value.oneCell']; done) | rfl), ?_⟩); intro wN hSt; simp only [List.nil_append, List.cons_append] at hSt; simp only [Act.put]) | (go_at_call 16; refine (where_at hd hw _).mono ?_; rintro e w8 ⟨rfl, hb9⟩; replace hSt := hSt.ext hb9))
          go_roundw
          case rel => exact ⟨k + 1, by omega, by go_num, o, hSt.sub (by simp), by rw [hset]; exact hO.mono (by omega)⟩
          case measure => simp [intOf]; omega
      · have e1 : mstep (mset (ls.take k)) i = (mset (ls.take k)).put (wk 1 0 0) tt := by unfold mstep; rw [if_neg (by omega), if_neg (by omega)]
        rw [e1] at hset
        have hw := wOk_of_dep (i := i) (by omega)
        go_wp2_with (first | ((with_reducible refine pg_build ?_); refine ⟨rfl, ?_⟩; (simp only [Act.put, List.setIfInBounds_toArray, List.set_cons_succ, List.set_cons_zero])) | ((with_reducible refine ev_box hSt ?_); refine ⟨rfl, _, rfl, ?_⟩; intro gN wN hSt; (simp only [Act.put, List.setIfInBounds_toArray, List.set_cons_succ, List.set_cons_zero])) | ((with_reducible refine ev_alloc hSt (by first | exact zPg | exact zHd | exact zHr) ?_); refine ⟨rfl, ?_⟩; intro gN wN hSt; (simp only [Act.put, List.setIfInBounds_toArray, List.set_cons_succ, List.set_cons_zero])) | ((with_reducible refine ev_load hSt (by first | exact aPg | exact aHd | exact aHr) ?_); refine ⟨rfl, _, _, _, rfl, (by repeat (first | exact List.mem_cons_self .. | refine List.mem_cons_of_mem _ ?_)), (by first | exact pgc_size _ | rfl), ?_⟩; (simp only [Act.put, List.setIfInBounds_toArray, List.set_cons_succ, List.set_cons_zero])) | ((with_reducible refine ev_load1 hSt (by first | exact oInt | exact oBool | exact oU32 | exact oU8) ?_); refine ⟨rfl, _, _, _, _, _, rfl, (by repeat (first | exact List.mem_cons_self .. | refine List.mem_cons_of_mem _ ?_)), (by first | rfl | exact pgc_get _ _ (by first | decide | omega)), ?_⟩; (simp only [Act.put, List.setIfInBounds_toArray, List.set_cons_succ, List.set_cons_zero])) | ((with_reducible refine ev_store hSt (by first | exact aPg | exact aHd | exact aHr) ?_); (first | refine ⟨rfl, _, [], _, _, _, rfl, rfl, rfl, (by first | exact pgc_size _ | rfl), (by first | exact pgc_size _ | rfl), (by first | exact pgc_one _ | (simp [Value.oneCell']; done) | rfl), ?_⟩ | refine ⟨rfl, _, [_], _, _, _, rfl, rfl, rfl, (by first | exact pgc_size _ | rfl), (by first | exact pgc_size _ | rfl), (by first | exact pgc_one _ | (simp [Value.oneCell']; done) | rfl), ?_⟩ | refine ⟨rfl, _, [_, _], _, _, _, rfl, rfl, rfl, (by first | exact pgc_size _ | rfl), (by first | exact pgc_size _ | rfl), (by first | exact pgc_one _ | (simp [Value.oneCell']; done) | rfl), ?_⟩ | refine ⟨rfl, _, [_, _, _], _, _, _, rfl, rfl, rfl, (by first | exact pgc_size _ | rfl), (by first | exact pgc_size _ | rfl), (by first | exact pgc_one _ | (simp [Value.oneCell']; done) | rfl), ?_⟩); intro wN hSt; simp only [List.nil_append, List.cons_append] at hSt; simp only [Act.put]) | (go_at_call 16; refine (where_at hd hw _).mono ?_; rintro e w8 ⟨rfl, hb9⟩; replace hSt := hSt.ext hb9) | ((with_reducible refine ev_mapUpdate (H := Unit) (R := plainElem Try.prog 4) hSt wayLaw hul ?_); (first | refine ⟨rfl, _, _, [_], [], _, _, _, _, _, rfl, rfl, hO, by omega, key200, plainElem_bool hub true, ?_⟩ | refine ⟨rfl, _, _, [_], [], _, _, _, _, _, rfl, rfl, hO, by omega, key100, plainElem_bool hub true, ?_⟩ | refine ⟨rfl, _, _, [_], [], _, _, _, _, _, rfl, rfl, hO, by omega, hko, plainElem_bool hub true, ?_⟩); intro o8 wN hO hSt; simp only [List.nil_append, List.cons_append] at hSt; simp only [Act.put]))
        go_roundw
        case rel => exact ⟨k + 1, by omega, by go_num, o8, hSt.sub (by simp), by rw [hset]; exact hO.mono (by omega)⟩
        case measure => simp [intOf]; omega
      · have e1 : mstep (mset (ls.take k)) i = ((mset (ls.take k)).put (wk 2 0 0) tt).put (wk 2 (wOut i) 1) tt := by unfold mstep; rw [if_neg (by omega), if_pos hd]
        rw [e1] at hset
        have hw := wOk_of_dep (i := i) (by omega)
        go_wp2_with (first | ((with_reducible refine pg_build ?_); refine ⟨rfl, ?_⟩; (simp only [Act.put, List.setIfInBounds_toArray, List.set_cons_succ, List.set_cons_zero])) | ((with_reducible refine ev_box hSt ?_); refine ⟨rfl, _, rfl, ?_⟩; intro gN wN hSt; (simp only [Act.put, List.setIfInBounds_toArray, List.set_cons_succ, List.set_cons_zero])) | ((with_reducible refine ev_alloc hSt (by first | exact zPg | exact zHd | exact zHr) ?_); refine ⟨rfl, ?_⟩; intro gN wN hSt; (simp only [Act.put, List.setIfInBounds_toArray, List.set_cons_succ, List.set_cons_zero])) | ((with_reducible refine ev_load hSt (by first | exact aPg | exact aHd | exact aHr) ?_); refine ⟨rfl, _, _, _, rfl, (by repeat (first | exact List.mem_cons_self .. | refine List.mem_cons_of_mem _ ?_)), (by first | exact pgc_size _ | rfl), ?_⟩; (simp only [Act.put, List.setIfInBounds_toArray, List.set_cons_succ, List.set_cons_zero])) | ((with_reducible refine ev_load1 hSt (by first | exact oInt | exact oBool | exact oU32 | exact oU8) ?_); refine ⟨rfl, _, _, _, _, _, rfl, (by repeat (first | exact List.mem_cons_self .. | refine List.mem_cons_of_mem _ ?_)), (by first | rfl | exact pgc_get _ _ (by first | decide | omega)), ?_⟩; (simp only [Act.put, List.setIfInBounds_toArray, List.set_cons_succ, List.set_cons_zero])) | ((with_reducible refine ev_store hSt (by first | exact aPg | exact aHd | exact aHr) ?_); (first | refine ⟨rfl, _, [], _, _, _, rfl, rfl, rfl, (by first | exact pgc_size _ | rfl), (by first | exact pgc_size _ | rfl), (by first | exact pgc_one _ | (simp [Value.oneCell']; done) | rfl), ?_⟩ | refine ⟨rfl, _, [_], _, _, _, rfl, rfl, rfl, (by first | exact pgc_size _ | rfl), (by first | exact pgc_size _ | rfl), (by first | exact pgc_one _ | (simp [Value.oneCell']; done) | rfl), ?_⟩ | refine ⟨rfl, _, [_, _], _, _, _, rfl, rfl, rfl, (by first | exact pgc_size _ | rfl), (by first | exact pgc_size _ | rfl), (by first | exact pgc_one _ | (simp [Value.oneCell']; done) | rfl), ?_⟩ | refine ⟨rfl, _, [_, _, _], _, _, _, rfl, rfl, rfl, (by first | exact pgc_size _ | rfl), (by first | exact pgc_size _ | rfl), (by first | exact pgc_one _ | (simp [Value.oneCell']; done) | rfl), ?_⟩); intro wN hSt; simp only [List.nil_append, List.cons_append] at hSt; simp only [Act.put]) | (go_at_call 16; refine (where_at hd hw _).mono ?_; rintro e w8 ⟨rfl, hb9⟩; replace hSt := hSt.ext hb9) | ((with_reducible refine ev_mapUpdate (H := Unit) (R := plainElem Try.prog 4) hSt wayLaw hul ?_); (first | refine ⟨rfl, _, _, [_], [], _, _, _, _, _, rfl, rfl, hO, by omega, key200, plainElem_bool hub true, ?_⟩ | refine ⟨rfl, _, _, [_], [], _, _, _, _, _, rfl, rfl, hO, by omega, key100, plainElem_bool hub true, ?_⟩ | refine ⟨rfl, _, _, [_], [], _, _, _, _, _, rfl, rfl, hO, by omega, hko, plainElem_bool hub true, ?_⟩); intro o8 wN hO hSt; simp only [List.nil_append, List.cons_append] at hSt; simp only [Act.put]))
        go_roundw
        case rel => exact ⟨k + 1, by omega, by go_num, o8, hSt.sub (by simp), by rw [hset]; exact hO.mono (by omega)⟩
        case measure => simp [intOf]; omega
    · obtain rfl : k = ls.length := by omega
      rw [List.take_length] at hO
      go_wp2_with (first | ((with_reducible refine ev_mapLen (H := Unit) (R := plainElem Try.prog 4) hSt hul ?_); refine ⟨rfl, _, _, _, _, rfl, (by repeat (first | exact List.mem_cons_self .. | refine List.mem_cons_of_mem _ ?_)), hO, ?_⟩; (simp only [Act.put, List.setIfInBounds_toArray, List.set_cons_succ, List.set_cons_zero])))
      go_ret
      exact ⟨rfl, hSt.base⟩
end Go.Proofs.Ytmnofoflbhdgjaa
