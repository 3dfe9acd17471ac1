/- The law's awake of chapter 10, the reference's Where, span.Index. -/
import Derived.Test.YtmnofoflbhdgjaaSpanC
namespace Go.Proofs.Ytmnofoflbhdgjaa
open Go.RowKit Go.Maps
set_option linter.unusedSimpArgs false
set_option linter.unusedVariables false

theorem where69 (w : World) : Calls Try.prog 16 #[.int .i64 69] w fun e w' => e = .returned (.tuple #[.agg #[.int .i64 2, .int .i64 1, .int .i64 1], .bool true]) ∧ Below w.heap.size w w' :=
  where_any 69 w
theorem mset_ex : Maps.size (mset [3, 4, 5, 36, 69]) = 4 := by kernel_rfl
theorem pages65 (w : World) : Calls Try.prog 18 #[.int .i64 65] w fun e w' => e = .returned (.int .i64 2) ∧ Below w.heap.size w w' := pages_any 65 w (by decide)

set_option maxRecDepth 100000 in
set_option maxHeartbeats 1600000 in
theorem awake10 (w : World) : Calls Try.prog 13 #[] w fun e w' => e = .returned (.bool true) ∧ Below w.heap.size w w' := by
  have hSt := St.start w
  go_enter Try.func13, Try.ntmps13
  go_wp2_with (first
    | ((with_reducible refine pg_build ?_); refine ⟨rfl, ?_⟩; (simp only [Act.put, List.setIfInBounds_toArray, List.set_cons_succ, List.set_cons_zero])) | ((with_reducible refine ev_box hSt ?_); refine ⟨rfl, _, rfl, ?_⟩; intro gN wN hSt; (simp only [Act.put, List.setIfInBounds_toArray, List.set_cons_succ, List.set_cons_zero])) | ((with_reducible refine ev_alloc hSt (by first | exact zPg | exact zHd | exact zHr) ?_); refine ⟨rfl, ?_⟩; intro gN wN hSt; (simp only [Act.put, List.setIfInBounds_toArray, List.set_cons_succ, List.set_cons_zero])) | ((with_reducible refine ev_load hSt (by first | exact aPg | exact aHd | exact aHr) ?_); refine ⟨rfl, _, _, _, rfl, (by repeat (first | exact List.mem_cons_self .. | refine List.mem_cons_of_mem _ ?_)), (by first | exact pgc_size _ | rfl), ?_⟩; (simp only [Act.put, List.setIfInBounds_toArray, List.set_cons_succ, List.set_cons_zero])) | ((with_reducible refine ev_load1 hSt (by first | exact oInt | exact oBool | exact oU32 | exact oU8) ?_); refine ⟨rfl, _, _, _, _, _, rfl, (by repeat (first | exact List.mem_cons_self .. | refine List.mem_cons_of_mem _ ?_)), (by first | rfl | exact pgc_get _ _ (by decide)), ?_⟩; (simp only [Act.put, List.setIfInBounds_toArray, List.set_cons_succ, List.set_cons_zero])) | ((with_reducible refine ev_store hSt (by first | exact aPg | exact aHd | exact aHr) ?_); (first | refine ⟨rfl, _, [], _, _, _, rfl, rfl, rfl, (by first | exact pgc_size _ | rfl), (by first | exact pgc_size _ | rfl), (by first | exact pgc_one _ | (simp [Value.oneCell']; done) | rfl), ?_⟩ | refine ⟨rfl, _, [_], _, _, _, rfl, rfl, rfl, (by first | exact pgc_size _ | rfl), (by first | exact pgc_size _ | rfl), (by first | exact pgc_one _ | (simp [Value.oneCell']; done) | rfl), ?_⟩ | refine ⟨rfl, _, [_, _], _, _, _, rfl, rfl, rfl, (by first | exact pgc_size _ | rfl), (by first | exact pgc_size _ | rfl), (by first | exact pgc_one _ | (simp [Value.oneCell']; done) | rfl), ?_⟩ | refine ⟨rfl, _, [_, _, _], _, _, _, rfl, rfl, rfl, (by first | exact pgc_size _ | rfl), (by first | exact pgc_size _ | rfl), (by first | exact pgc_one _ | (simp [Value.oneCell']; done) | rfl), ?_⟩); intro wN hSt; simp only [List.nil_append, List.cons_append] at hSt; simp only [Act.put])
    | (go_at_call 16; refine (where69 _).mono ?_; rintro e w8 ⟨rfl, hb9⟩; replace hSt := hSt.ext hb9)
    | (go_at_call 18; refine (pages65 _).mono ?_; rintro e w8 ⟨rfl, hb9⟩; replace hSt := hSt.ext hb9)
    | (go_at_call 14; refine (meta_any (some ⟨_, 0, none⟩) [3, 4, 5, 36, 69] 5 _ (intSl_of (heap_alloc_last _ _) _ rfl) (by decide)).mono ?_; rintro e w8 ⟨rfl, hb9⟩; replace hSt := (hSt.alloc _).ext hb9; rw [mset_ex]))
  go_ret
  exact ⟨rfl, hSt.base⟩

theorem res_tmp4 {P : Program} {fn : Func} {a b c d : Tmp} (h : fn.results = #[.tmp a, .tmp b, .tmp c, .tmp d]) (tmps : Array Value) (w : World) : (results fn tmps).run P w = .ok (.tuple #[tmps.getD a undef, tmps.getD b undef, tmps.getD c undef, tmps.getD d undef]) w := by
  simp [results, h]
theorem res_tmp2 {P : Program} {fn : Func} {a b : Tmp} (h : fn.results = #[.tmp a, .tmp b]) (tmps : Array Value) (w : World) : (results fn tmps).run P w = .ok (.tuple #[tmps.getD a undef, tmps.getD b undef]) w := by
  simp [results, h]

set_option maxRecDepth 100000 in
set_option maxHeartbeats 800000 in
theorem rwhere_any (i : Int) (w : World) :
    Calls Try.prog 17 #[.int .i64 i] w fun e w' => e = .returned (.tuple #[.int .i64 (wDep i), .int .i64 (wOut i), .int .i64 (wInn i), .bool (wOk i)]) ∧ Below w.heap.size w w' := by
  by_cases c0 : i < 0
  · rw [show wDep i = 0 from by unfold wDep; rw [if_neg (by omega)], show wOut i = 0 from by unfold wOut; rw [if_neg (by omega)], show wInn i = 0 from by unfold wInn; rw [if_neg (by omega)], show wOk i = false from by unfold wOk; exact decide_eq_false (by omega)]
    go_enter Try.func17, Try.ntmps17
    go_wp2
    (try simp only [Exit.inBlock, Exit.then]); refine bodyPost_ret (res_tmp4 rfl _ _) rfl ?_
    exact ⟨rfl, Below.refl _ _⟩
  by_cases c1 : 1060 ≤ i
  · rw [show wDep i = 0 from by unfold wDep; rw [if_neg (by omega)], show wOut i = 0 from by unfold wOut; rw [if_neg (by omega)], show wInn i = 0 from by unfold wInn; rw [if_neg (by omega)], show wOk i = false from by unfold wOk; exact decide_eq_false (by omega)]
    go_enter Try.func17, Try.ntmps17
    go_wp2
    (try simp only [Exit.inBlock, Exit.then]); refine bodyPost_ret (res_tmp4 rfl _ _) rfl ?_
    exact ⟨rfl, Below.refl _ _⟩
  have hk : wOk i = true := by unfold wOk; exact decide_eq_true (by omega)
  by_cases c2 : i ≤ 3
  · rw [show wDep i = 0 from by unfold wDep; rw [if_pos (by omega), if_pos (by omega)], show wOut i = 0 from by unfold wOut; rw [if_neg (by omega)], show wInn i = i from by unfold wInn; rw [if_pos (by omega), if_pos (by omega)], hk]
    go_enter Try.func17, Try.ntmps17
    go_wp2
    (try simp only [Exit.inBlock, Exit.then]); refine bodyPost_ret (res_tmp4 rfl _ _) rfl ?_
    exact ⟨rfl, Below.refl _ _⟩
  by_cases c3 : i ≤ 35
  · rw [show wDep i = 1 from by unfold wDep; rw [if_pos (by omega), if_neg (by omega), if_pos (by omega)], show wOut i = 0 from by unfold wOut; rw [if_neg (by omega)], show wInn i = i - 4 from by unfold wInn; rw [if_pos (by omega), if_neg (by omega), if_pos (by omega)], hk]
    have e4 : wrap64 (i - 4) = i - 4 := by unfold wrap64; omega
    go_enter Try.func17, Try.ntmps17
    go_wp2
    (try simp only [Exit.inBlock, Exit.then]); refine bodyPost_ret (res_tmp4 rfl _ _) rfl ?_
    exact ⟨by simp [e4], Below.refl _ _⟩
  · rw [show wDep i = 2 from by unfold wDep; rw [if_pos (by omega), if_neg (by omega), if_neg (by omega)], show wOut i = (i - 36) / 32 from by unfold wOut; rw [if_pos (by omega)], show wInn i = (i - 36) % 32 from by unfold wInn; rw [if_pos (by omega), if_neg (by omega), if_neg (by omega)], hk]
    have e4 : wrap64 (i - 36) = i - 36 := by unfold wrap64; omega
    go_enter Try.func17, Try.ntmps17
    go_wp2
    go_loop [6, 7] (fun o l => ∃ k : Nat, o = .int .i64 k ∧ l = .int .i64 (i - 36 - 32 * k) ∧ 32 * (k : Int) ≤ i - 36) (fun _ l => (intOf l).toNat)
    case atStart => exact ⟨0, rfl, by simp [e4], by omega⟩
    case round =>
      obtain ⟨k, rfl, rfl, hk2⟩ := hrel
      by_cases hlt : 32 ≤ i - 36 - 32 * (k : Int)
      · have e5 : wrap64 (i - 36 - 32 * (k : Int) - 32) = i - 36 - 32 * ((k + 1 : Nat) : Int) := by unfold wrap64; omega
        go_wp2
        go_round
        case rel => exact ⟨k + 1, by go_num, by rw [show i - 36 - 32 * (k : Int) - 32 = i - 36 - 32 * ((k + 1 : Nat) : Int) from by omega], by omega⟩
        case measure => simp [intOf, e5]; omega
      · go_wp2
        (try simp only [Exit.inBlock, Exit.then]); refine bodyPost_ret (res_tmp4 rfl _ _) rfl ?_
        exact ⟨by rw [show (i - 36) / 32 = (k : Int) from by omega, show (i - 36) % 32 = i - 36 - 32 * (k : Int) from by omega]; rfl, Below.refl _ _⟩

def ixOk (d o n : Int) : Bool := decide (d = 0 ∧ o = 0 ∧ 0 ≤ n ∧ n < 4 ∨ d = 1 ∧ o = 0 ∧ 0 ≤ n ∧ n < 32 ∨ d = 2 ∧ 0 ≤ o ∧ o < 32 ∧ 0 ≤ n ∧ n < 32)
def ixVal (d o n : Int) : Int := if ixOk d o n then (if d = 0 then n else if d = 1 then 4 + n else 36 + o * 32 + n) else 0
theorem inB_t {n h : Int} (e : inB n h = true) : 0 ≤ n ∧ n < h := by unfold inB at e; simpa using e
theorem inB_f {n h : Int} (e : inB n h = false) : ¬ (0 ≤ n ∧ n < h) := by
  unfold inB at e; intro ⟨h1, h2⟩; simp [h1, h2] at e

set_option maxRecDepth 100000 in
set_option maxHeartbeats 1600000 in
theorem index_any (d o n : Int) (w : World) :
    Calls Try.prog 20 #[.agg #[.int .i64 d, .int .i64 o, .int .i64 n]] w fun e w' => e = .returned (.tuple #[.int .i64 (ixVal d o n), .bool (ixOk d o n)]) ∧ Below w.heap.size w w' := by
  have hSt := St.start w
  by_cases d0 : d = 0
  · subst d0
    by_cases o0 : o = 0
    · subst o0
      cases hi : inB n 4 with
      | true =>
        have hb := inB_t hi
        have hk : ixOk 0 0 n = true := by unfold ixOk; exact decide_eq_true (by omega)
        rw [hk, show ixVal 0 0 n = n from by unfold ixVal; rw [hk]; rfl]
        go_enter Try.func20, Try.ntmps20
        go_wp2_with (first | ((with_reducible refine pg_build ?_); refine ⟨rfl, ?_⟩; (simp only [Act.put, List.setIfInBounds_toArray, List.set_cons_succ, List.set_cons_zero])) | ((with_reducible refine ev_box hSt ?_); refine ⟨rfl, _, rfl, ?_⟩; intro gN wN hSt; (simp only [Act.put, List.setIfInBounds_toArray, List.set_cons_succ, List.set_cons_zero])) | ((with_reducible refine ev_alloc hSt (by first | exact zPg | exact zHd | exact zHr) ?_); refine ⟨rfl, ?_⟩; intro gN wN hSt; (simp only [Act.put, List.setIfInBounds_toArray, List.set_cons_succ, List.set_cons_zero])) | ((with_reducible refine ev_load hSt (by first | exact aPg | exact aHd | exact aHr) ?_); refine ⟨rfl, _, _, _, rfl, (by repeat (first | exact List.mem_cons_self .. | refine List.mem_cons_of_mem _ ?_)), (by first | exact pgc_size _ | rfl), ?_⟩; (simp only [Act.put, List.setIfInBounds_toArray, List.set_cons_succ, List.set_cons_zero])) | ((with_reducible refine ev_load1 hSt (by first | exact oInt | exact oBool | exact oU32 | exact oU8) ?_); refine ⟨rfl, _, _, _, _, _, rfl, (by repeat (first | exact List.mem_cons_self .. | refine List.mem_cons_of_mem _ ?_)), (by first | rfl | exact pgc_get _ _ (by decide)), ?_⟩; (simp only [Act.put, List.setIfInBounds_toArray, List.set_cons_succ, List.set_cons_zero])) | ((with_reducible refine ev_store hSt (by first | exact aPg | exact aHd | exact aHr) ?_); (first | refine ⟨rfl, _, [], _, _, _, rfl, rfl, rfl, (by first | exact pgc_size _ | rfl), (by first | exact pgc_size _ | rfl), (by first | exact pgc_one _ | (simp [Value.oneCell']; done) | rfl), ?_⟩ | refine ⟨rfl, _, [_], _, _, _, rfl, rfl, rfl, (by first | exact pgc_size _ | rfl), (by first | exact pgc_size _ | rfl), (by first | exact pgc_one _ | (simp [Value.oneCell']; done) | rfl), ?_⟩ | refine ⟨rfl, _, [_, _], _, _, _, rfl, rfl, rfl, (by first | exact pgc_size _ | rfl), (by first | exact pgc_size _ | rfl), (by first | exact pgc_one _ | (simp [Value.oneCell']; done) | rfl), ?_⟩ | refine ⟨rfl, _, [_, _, _], _, _, _, rfl, rfl, rfl, (by first | exact pgc_size _ | rfl), (by first | exact pgc_size _ | rfl), (by first | exact pgc_one _ | (simp [Value.oneCell']; done) | rfl), ?_⟩); intro wN hSt; simp only [List.nil_append, List.cons_append] at hSt; simp only [Act.put]) | (go_at_call 47; refine (in_any _ _ _).mono ?_; rintro e w8 ⟨rfl, hb9⟩; (try rw [hi]); (try rw [hj]); replace hSt := hSt.ext hb9))
        (try simp only [Exit.inBlock, Exit.then]); refine bodyPost_ret (res_tmp2 rfl _ _) rfl ?_
        exact ⟨rfl, hSt.base⟩
      | false =>
        have hb := inB_f hi
        have hk : ixOk 0 0 n = false := by unfold ixOk; exact decide_eq_false (by omega)
        rw [hk, show ixVal 0 0 n = 0 from by unfold ixVal; rw [hk]; rfl]
        go_enter Try.func20, Try.ntmps20
        go_wp2_with (first | ((with_reducible refine pg_build ?_); refine ⟨rfl, ?_⟩; (simp only [Act.put, List.setIfInBounds_toArray, List.set_cons_succ, List.set_cons_zero])) | ((with_reducible refine ev_box hSt ?_); refine ⟨rfl, _, rfl, ?_⟩; intro gN wN hSt; (simp only [Act.put, List.setIfInBounds_toArray, List.set_cons_succ, List.set_cons_zero])) | ((with_reducible refine ev_alloc hSt (by first | exact zPg | exact zHd | exact zHr) ?_); refine ⟨rfl, ?_⟩; intro gN wN hSt; (simp only [Act.put, List.setIfInBounds_toArray, List.set_cons_succ, List.set_cons_zero])) | ((with_reducible refine ev_load hSt (by first | exact aPg | exact aHd | exact aHr) ?_); refine ⟨rfl, _, _, _, rfl, (by repeat (first | exact List.mem_cons_self .. | refine List.mem_cons_of_mem _ ?_)), (by first | exact pgc_size _ | rfl), ?_⟩; (simp only [Act.put, List.setIfInBounds_toArray, List.set_cons_succ, List.set_cons_zero])) | ((with_reducible refine ev_load1 hSt (by first | exact oInt | exact oBool | exact oU32 | exact oU8) ?_); refine ⟨rfl, _, _, _, _, _, rfl, (by repeat (first | exact List.mem_cons_self .. | refine List.mem_cons_of_mem _ ?_)), (by first | rfl | exact pgc_get _ _ (by decide)), ?_⟩; (simp only [Act.put, List.setIfInBounds_toArray, List.set_cons_succ, List.set_cons_zero])) | ((with_reducible refine ev_store hSt (by first | exact aPg | exact aHd | exact aHr) ?_); (first | refine ⟨rfl, _, [], _, _, _, rfl, rfl, rfl, (by first | exact pgc_size _ | rfl), (by first | exact pgc_size _ | rfl), (by first | exact pgc_one _ | (simp [Value.oneCell']; done) | rfl), ?_⟩ | refine ⟨rfl, _, [_], _, _, _, rfl, rfl, rfl, (by first | exact pgc_size _ | rfl), (by first | exact pgc_size _ | rfl), (by first | exact pgc_one _ | (simp [Value.oneCell']; done) | rfl), ?_⟩ | refine ⟨rfl, _, [_, _], _, _, _, rfl, rfl, rfl, (by first | exact pgc_size _ | rfl), (by first | exact pgc_size _ | rfl), (by first | exact pgc_one _ | (simp [Value.oneCell']; done) | rfl), ?_⟩ | refine ⟨rfl, _, [_, _, _], _, _, _, rfl, rfl, rfl, (by first | exact pgc_size _ | rfl), (by first | exact pgc_size _ | rfl), (by first | exact pgc_one _ | (simp [Value.oneCell']; done) | rfl), ?_⟩); intro wN hSt; simp only [List.nil_append, List.cons_append] at hSt; simp only [Act.put]) | (go_at_call 47; refine (in_any _ _ _).mono ?_; rintro e w8 ⟨rfl, hb9⟩; (try rw [hi]); (try rw [hj]); replace hSt := hSt.ext hb9))
        (try simp only [Exit.inBlock, Exit.then]); refine bodyPost_ret (res_tmp2 rfl _ _) rfl ?_
        exact ⟨rfl, hSt.base⟩
    · have hk : ixOk 0 o n = false := by unfold ixOk; exact decide_eq_false (by omega)
      rw [hk, show ixVal 0 o n = 0 from by unfold ixVal; rw [hk]; rfl]
      go_enter Try.func20, Try.ntmps20
      go_wp2_with (first | ((with_reducible refine pg_build ?_); refine ⟨rfl, ?_⟩; (simp only [Act.put, List.setIfInBounds_toArray, List.set_cons_succ, List.set_cons_zero])) | ((with_reducible refine ev_box hSt ?_); refine ⟨rfl, _, rfl, ?_⟩; intro gN wN hSt; (simp only [Act.put, List.setIfInBounds_toArray, List.set_cons_succ, List.set_cons_zero])) | ((with_reducible refine ev_alloc hSt (by first | exact zPg | exact zHd | exact zHr) ?_); refine ⟨rfl, ?_⟩; intro gN wN hSt; (simp only [Act.put, List.setIfInBounds_toArray, List.set_cons_succ, List.set_cons_zero])) | ((with_reducible refine ev_load hSt (by first | exact aPg | exact aHd | exact aHr) ?_); refine ⟨rfl, _, _, _, rfl, (by repeat (first | exact List.mem_cons_self .. | refine List.mem_cons_of_mem _ ?_)), (by first | exact pgc_size _ | rfl), ?_⟩; (simp only [Act.put, List.setIfInBounds_toArray, List.set_cons_succ, List.set_cons_zero])) | ((with_reducible refine ev_load1 hSt (by first | exact oInt | exact oBool | exact oU32 | exact oU8) ?_); refine ⟨rfl, _, _, _, _, _, rfl, (by repeat (first | exact List.mem_cons_self .. | refine List.mem_cons_of_mem _ ?_)), (by first | rfl | exact pgc_get _ _ (by decide)), ?_⟩; (simp only [Act.put, List.setIfInBounds_toArray, List.set_cons_succ, List.set_cons_zero])) | ((with_reducible refine ev_store hSt (by first | exact aPg | exact aHd | exact aHr) ?_); (first | refine ⟨rfl, _, [], _, _, _, rfl, rfl, rfl, (by first | exact pgc_size _ | rfl), (by first | exact pgc_size _ | rfl), (by first | exact pgc_one _ | (simp [Value.oneCell']; done) | rfl), ?_⟩ | refine ⟨rfl, _, [_], _, _, _, rfl, rfl, rfl, (by first | exact pgc_size _ | rfl), (by first | exact pgc_size _ | rfl), (by first | exact pgc_one _ | (simp [Value.oneCell']; done) | rfl), ?_⟩ | refine ⟨rfl, _, [_, _], _, _, _, rfl, rfl, rfl, (by first | exact pgc_size _ | rfl), (by first | exact pgc_size _ | rfl), (by first | exact pgc_one _ | (simp [Value.oneCell']; done) | rfl), ?_⟩ | refine ⟨rfl, _, [_, _, _], _, _, _, rfl, rfl, rfl, (by first | exact pgc_size _ | rfl), (by first | exact pgc_size _ | rfl), (by first | exact pgc_one _ | (simp [Value.oneCell']; done) | rfl), ?_⟩); intro wN hSt; simp only [List.nil_append, List.cons_append] at hSt; simp only [Act.put]) | (go_at_call 47; refine (in_any _ _ _).mono ?_; rintro e w8 ⟨rfl, hb9⟩; (try rw [hi]); (try rw [hj]); replace hSt := hSt.ext hb9))
      (try simp only [Exit.inBlock, Exit.then]); refine bodyPost_ret (res_tmp2 rfl _ _) rfl ?_
      exact ⟨rfl, hSt.base⟩
  by_cases d1 : d = 1
  · subst d1
    by_cases o0 : o = 0
    · subst o0
      cases hi : inB n 32 with
      | true =>
        have hb := inB_t hi
        have hk : ixOk 1 0 n = true := by unfold ixOk; exact decide_eq_true (by omega)
        have e4 : wrap64 (4 + n) = 4 + n := by unfold wrap64; omega
        rw [hk, show ixVal 1 0 n = 4 + n from by unfold ixVal; rw [hk]; rfl]
        go_enter Try.func20, Try.ntmps20
        go_wp2_with (first | ((with_reducible refine pg_build ?_); refine ⟨rfl, ?_⟩; (simp only [Act.put, List.setIfInBounds_toArray, List.set_cons_succ, List.set_cons_zero])) | ((with_reducible refine ev_box hSt ?_); refine ⟨rfl, _, rfl, ?_⟩; intro gN wN hSt; (simp only [Act.put, List.setIfInBounds_toArray, List.set_cons_succ, List.set_cons_zero])) | ((with_reducible refine ev_alloc hSt (by first | exact zPg | exact zHd | exact zHr) ?_); refine ⟨rfl, ?_⟩; intro gN wN hSt; (simp only [Act.put, List.setIfInBounds_toArray, List.set_cons_succ, List.set_cons_zero])) | ((with_reducible refine ev_load hSt (by first | exact aPg | exact aHd | exact aHr) ?_); refine ⟨rfl, _, _, _, rfl, (by repeat (first | exact List.mem_cons_self .. | refine List.mem_cons_of_mem _ ?_)), (by first | exact pgc_size _ | rfl), ?_⟩; (simp only [Act.put, List.setIfInBounds_toArray, List.set_cons_succ, List.set_cons_zero])) | ((with_reducible refine ev_load1 hSt (by first | exact oInt | exact oBool | exact oU32 | exact oU8) ?_); refine ⟨rfl, _, _, _, _, _, rfl, (by repeat (first | exact List.mem_cons_self .. | refine List.mem_cons_of_mem _ ?_)), (by first | rfl | exact pgc_get _ _ (by decide)), ?_⟩; (simp only [Act.put, List.setIfInBounds_toArray, List.set_cons_succ, List.set_cons_zero])) | ((with_reducible refine ev_store hSt (by first | exact aPg | exact aHd | exact aHr) ?_); (first | refine ⟨rfl, _, [], _, _, _, rfl, rfl, rfl, (by first | exact pgc_size _ | rfl), (by first | exact pgc_size _ | rfl), (by first | exact pgc_one _ | (simp [Value.oneCell']; done) | rfl), ?_⟩ | refine ⟨rfl, _, [_], _, _, _, rfl, rfl, rfl, (by first | exact pgc_size _ | rfl), (by first | exact pgc_size _ | rfl), (by first | exact pgc_one _ | (simp [Value.oneCell']; done) | rfl), ?_⟩ | refine ⟨rfl, _, [_, _], _, _, _, rfl, rfl, rfl, (by first | exact pgc_size _ | rfl), (by first | exact pgc_size _ | rfl), (by first | exact pgc_one _ | (simp [Value.oneCell']; done) | rfl), ?_⟩ | refine ⟨rfl, _, [_, _, _], _, _, _, rfl, rfl, rfl, (by first | exact pgc_size _ | rfl), (by first | exact pgc_size _ | rfl), (by first | exact pgc_one _ | (simp [Value.oneCell']; done) | rfl), ?_⟩); intro wN hSt; simp only [List.nil_append, List.cons_append] at hSt; simp only [Act.put]) | (go_at_call 47; refine (in_any _ _ _).mono ?_; rintro e w8 ⟨rfl, hb9⟩; (try rw [hi]); (try rw [hj]); replace hSt := hSt.ext hb9))
        (try simp only [Exit.inBlock, Exit.then]); refine bodyPost_ret (res_tmp2 rfl _ _) rfl ?_
        exact ⟨by simp [e4], hSt.base⟩
      | false =>
        have hb := inB_f hi
        have hk : ixOk 1 0 n = false := by unfold ixOk; exact decide_eq_false (by omega)
        rw [hk, show ixVal 1 0 n = 0 from by unfold ixVal; rw [hk]; rfl]
        go_enter Try.func20, Try.ntmps20
        go_wp2_with (first | ((with_reducible refine pg_build ?_); refine ⟨rfl, ?_⟩; (simp only [Act.put, List.setIfInBounds_toArray, List.set_cons_succ, List.set_cons_zero])) | ((with_reducible refine ev_box hSt ?_); refine ⟨rfl, _, rfl, ?_⟩; intro gN wN hSt; (simp only [Act.put, List.setIfInBounds_toArray, List.set_cons_succ, List.set_cons_zero])) | ((with_reducible refine ev_alloc hSt (by first | exact zPg | exact zHd | exact zHr) ?_); refine ⟨rfl, ?_⟩; intro gN wN hSt; (simp only [Act.put, List.setIfInBounds_toArray, List.set_cons_succ, List.set_cons_zero])) | ((with_reducible refine ev_load hSt (by first | exact aPg | exact aHd | exact aHr) ?_); refine ⟨rfl, _, _, _, rfl, (by repeat (first | exact List.mem_cons_self .. | refine List.mem_cons_of_mem _ ?_)), (by first | exact pgc_size _ | rfl), ?_⟩; (simp only [Act.put, List.setIfInBounds_toArray, List.set_cons_succ, List.set_cons_zero])) | ((with_reducible refine ev_load1 hSt (by first | exact oInt | exact oBool | exact oU32 | exact oU8) ?_); refine ⟨rfl, _, _, _, _, _, rfl, (by repeat (first | exact List.mem_cons_self .. | refine List.mem_cons_of_mem _ ?_)), (by first | rfl | exact pgc_get _ _ (by decide)), ?_⟩; (simp only [Act.put, List.setIfInBounds_toArray, List.set_cons_succ, List.set_cons_zero])) | ((with_reducible refine ev_store hSt (by first | exact aPg | exact aHd | exact aHr) ?_); (first | refine ⟨rfl, _, [], _, _, _, rfl, rfl, rfl, (by first | exact pgc_size _ | rfl), (by first | exact pgc_size _ | rfl), (by first | exact pgc_one _ | (simp [Value.oneCell']; done) | rfl), ?_⟩ | refine ⟨rfl, _, [_], _, _, _, rfl, rfl, rfl, (by first | exact pgc_size _ | rfl), (by first | exact pgc_size _ | rfl), (by first | exact pgc_one _ | (simp [Value.oneCell']; done) | rfl), ?_⟩ | refine ⟨rfl, _, [_, _], _, _, _, rfl, rfl, rfl, (by first | exact pgc_size _ | rfl), (by first | exact pgc_size _ | rfl), (by first | exact pgc_one _ | (simp [Value.oneCell']; done) | rfl), ?_⟩ | refine ⟨rfl, _, [_, _, _], _, _, _, rfl, rfl, rfl, (by first | exact pgc_size _ | rfl), (by first | exact pgc_size _ | rfl), (by first | exact pgc_one _ | (simp [Value.oneCell']; done) | rfl), ?_⟩); intro wN hSt; simp only [List.nil_append, List.cons_append] at hSt; simp only [Act.put]) | (go_at_call 47; refine (in_any _ _ _).mono ?_; rintro e w8 ⟨rfl, hb9⟩; (try rw [hi]); (try rw [hj]); replace hSt := hSt.ext hb9))
        (try simp only [Exit.inBlock, Exit.then]); refine bodyPost_ret (res_tmp2 rfl _ _) rfl ?_
        exact ⟨rfl, hSt.base⟩
    · have hk : ixOk 1 o n = false := by unfold ixOk; exact decide_eq_false (by omega)
      rw [hk, show ixVal 1 o n = 0 from by unfold ixVal; rw [hk]; rfl]
      go_enter Try.func20, Try.ntmps20
      go_wp2_with (first | ((with_reducible refine pg_build ?_); refine ⟨rfl, ?_⟩; (simp only [Act.put, List.setIfInBounds_toArray, List.set_cons_succ, List.set_cons_zero])) | ((with_reducible refine ev_box hSt ?_); refine ⟨rfl, _, rfl, ?_⟩; intro gN wN hSt; (simp only [Act.put, List.setIfInBounds_toArray, List.set_cons_succ, List.set_cons_zero])) | ((with_reducible refine ev_alloc hSt (by first | exact zPg | exact zHd | exact zHr) ?_); refine ⟨rfl, ?_⟩; intro gN wN hSt; (simp only [Act.put, List.setIfInBounds_toArray, List.set_cons_succ, List.set_cons_zero])) | ((with_reducible refine ev_load hSt (by first | exact aPg | exact aHd | exact aHr) ?_); refine ⟨rfl, _, _, _, rfl, (by repeat (first | exact List.mem_cons_self .. | refine List.mem_cons_of_mem _ ?_)), (by first | exact pgc_size _ | rfl), ?_⟩; (simp only [Act.put, List.setIfInBounds_toArray, List.set_cons_succ, List.set_cons_zero])) | ((with_reducible refine ev_load1 hSt (by first | exact oInt | exact oBool | exact oU32 | exact oU8) ?_); refine ⟨rfl, _, _, _, _, _, rfl, (by repeat (first | exact List.mem_cons_self .. | refine List.mem_cons_of_mem _ ?_)), (by first | rfl | exact pgc_get _ _ (by decide)), ?_⟩; (simp only [Act.put, List.setIfInBounds_toArray, List.set_cons_succ, List.set_cons_zero])) | ((with_reducible refine ev_store hSt (by first | exact aPg | exact aHd | exact aHr) ?_); (first | refine ⟨rfl, _, [], _, _, _, rfl, rfl, rfl, (by first | exact pgc_size _ | rfl), (by first | exact pgc_size _ | rfl), (by first | exact pgc_one _ | (simp [Value.oneCell']; done) | rfl), ?_⟩ | refine ⟨rfl, _, [_], _, _, _, rfl, rfl, rfl, (by first | exact pgc_size _ | rfl), (by first | exact pgc_size _ | rfl), (by first | exact pgc_one _ | (simp [Value.oneCell']; done) | rfl), ?_⟩ | refine ⟨rfl, _, [_, _], _, _, _, rfl, rfl, rfl, (by first | exact pgc_size _ | rfl), (by first | exact pgc_size _ | rfl), (by first | exact pgc_one _ | (simp [Value.oneCell']; done) | rfl), ?_⟩ | refine ⟨rfl, _, [_, _, _], _, _, _, rfl, rfl, rfl, (by first | exact pgc_size _ | rfl), (by first | exact pgc_size _ | rfl), (by first | exact pgc_one _ | (simp [Value.oneCell']; done) | rfl), ?_⟩); intro wN hSt; simp only [List.nil_append, List.cons_append] at hSt; simp only [Act.put]) | (go_at_call 47; refine (in_any _ _ _).mono ?_; rintro e w8 ⟨rfl, hb9⟩; (try rw [hi]); (try rw [hj]); replace hSt := hSt.ext hb9))
      (try simp only [Exit.inBlock, Exit.then]); refine bodyPost_ret (res_tmp2 rfl _ _) rfl ?_
      exact ⟨rfl, hSt.base⟩
  by_cases d2 : d = 2
  · subst d2
    cases hj : inB o 32 with
    | true =>
      have hc := inB_t hj
      cases hi : inB n 32 with
      | true =>
        have hb := inB_t hi
        have hk : ixOk 2 o n = true := by unfold ixOk; exact decide_eq_true (by omega)
        have e4 : wrap64 (o * 32) = o * 32 := by unfold wrap64; omega
        have e5 : wrap64 (36 + o * 32) = 36 + o * 32 := by unfold wrap64; omega
        have e6 : wrap64 (36 + o * 32 + n) = 36 + o * 32 + n := by unfold wrap64; omega
        rw [hk, show ixVal 2 o n = 36 + o * 32 + n from by unfold ixVal; rw [hk]; rfl]
        go_enter Try.func20, Try.ntmps20
        go_wp2_with (first | ((with_reducible refine pg_build ?_); refine ⟨rfl, ?_⟩; (simp only [Act.put, List.setIfInBounds_toArray, List.set_cons_succ, List.set_cons_zero])) | ((with_reducible refine ev_box hSt ?_); refine ⟨rfl, _, rfl, ?_⟩; intro gN wN hSt; (simp only [Act.put, List.setIfInBounds_toArray, List.set_cons_succ, List.set_cons_zero])) | ((with_reducible refine ev_alloc hSt (by first | exact zPg | exact zHd | exact zHr) ?_); refine ⟨rfl, ?_⟩; intro gN wN hSt; (simp only [Act.put, List.setIfInBounds_toArray, List.set_cons_succ, List.set_cons_zero])) | ((with_reducible refine ev_load hSt (by first | exact aPg | exact aHd | exact aHr) ?_); refine ⟨rfl, _, _, _, rfl, (by repeat (first | exact List.mem_cons_self .. | refine List.mem_cons_of_mem _ ?_)), (by first | exact pgc_size _ | rfl), ?_⟩; (simp only [Act.put, List.setIfInBounds_toArray, List.set_cons_succ, List.set_cons_zero])) | ((with_reducible refine ev_load1 hSt (by first | exact oInt | exact oBool | exact oU32 | exact oU8) ?_); refine ⟨rfl, _, _, _, _, _, rfl, (by repeat (first | exact List.mem_cons_self .. | refine List.mem_cons_of_mem _ ?_)), (by first | rfl | exact pgc_get _ _ (by decide)), ?_⟩; (simp only [Act.put, List.setIfInBounds_toArray, List.set_cons_succ, List.set_cons_zero])) | ((with_reducible refine ev_store hSt (by first | exact aPg | exact aHd | exact aHr) ?_); (first | refine ⟨rfl, _, [], _, _, _, rfl, rfl, rfl, (by first | exact pgc_size _ | rfl), (by first | exact pgc_size _ | rfl), (by first | exact pgc_one _ | (simp [Value.oneCell']; done) | rfl), ?_⟩ | refine ⟨rfl, _, [_], _, _, _, rfl, rfl, rfl, (by first | exact pgc_size _ | rfl), (by first | exact pgc_size _ | rfl), (by first | exact pgc_one _ | (simp [Value.oneCell']; done) | rfl), ?_⟩ | refine ⟨rfl, _, [_, _], _, _, _, rfl, rfl, rfl, (by first | exact pgc_size _ | rfl), (by first | exact pgc_size _ | rfl), (by first | exact pgc_one _ | (simp [Value.oneCell']; done) | rfl), ?_⟩ | refine ⟨rfl, _, [_, _, _], _, _, _, rfl, rfl, rfl, (by first | exact pgc_size _ | rfl), (by first | exact pgc_size _ | rfl), (by first | exact pgc_one _ | (simp [Value.oneCell']; done) | rfl), ?_⟩); intro wN hSt; simp only [List.nil_append, List.cons_append] at hSt; simp only [Act.put]) | (go_at_call 47; refine (in_any _ _ _).mono ?_; rintro e w8 ⟨rfl, hb9⟩; (try rw [hi]); (try rw [hj]); replace hSt := hSt.ext hb9))
        (try simp only [Exit.inBlock, Exit.then]); refine bodyPost_ret (res_tmp2 rfl _ _) rfl ?_
        exact ⟨by simp [e4, e5, e6], hSt.base⟩
      | false =>
        have hb := inB_f hi
        have hk : ixOk 2 o n = false := by unfold ixOk; exact decide_eq_false (by omega)
        rw [hk, show ixVal 2 o n = 0 from by unfold ixVal; rw [hk]; rfl]
        go_enter Try.func20, Try.ntmps20
        go_wp2_with (first | ((with_reducible refine pg_build ?_); refine ⟨rfl, ?_⟩; (simp only [Act.put, List.setIfInBounds_toArray, List.set_cons_succ, List.set_cons_zero])) | ((with_reducible refine ev_box hSt ?_); refine ⟨rfl, _, rfl, ?_⟩; intro gN wN hSt; (simp only [Act.put, List.setIfInBounds_toArray, List.set_cons_succ, List.set_cons_zero])) | ((with_reducible refine ev_alloc hSt (by first | exact zPg | exact zHd | exact zHr) ?_); refine ⟨rfl, ?_⟩; intro gN wN hSt; (simp only [Act.put, List.setIfInBounds_toArray, List.set_cons_succ, List.set_cons_zero])) | ((with_reducible refine ev_load hSt (by first | exact aPg | exact aHd | exact aHr) ?_); refine ⟨rfl, _, _, _, rfl, (by repeat (first | exact List.mem_cons_self .. | refine List.mem_cons_of_mem _ ?_)), (by first | exact pgc_size _ | rfl), ?_⟩; (simp only [Act.put, List.setIfInBounds_toArray, List.set_cons_succ, List.set_cons_zero])) | ((with_reducible refine ev_load1 hSt (by first | exact oInt | exact oBool | exact oU32 | exact oU8) ?_); refine ⟨rfl, _, _, _, _, _, rfl, (by repeat (first | exact List.mem_cons_self .. | refine List.mem_cons_of_mem _ ?_)), (by first | rfl | exact pgc_get _ _ (by decide)), ?_⟩; (simp only [Act.put, List.setIfInBounds_toArray, List.set_cons_succ, List.set_cons_zero])) | ((with_reducible refine ev_store hSt (by first | exact aPg | exact aHd | exact aHr) ?_); (first | refine ⟨rfl, _, [], _, _, _, rfl, rfl, rfl, (by first | exact pgc_size _ | rfl), (by first | exact pgc_size _ | rfl), (by first | exact pgc_one _ | (simp [Value.oneCell']; done) | rfl), ?_⟩ | refine ⟨rfl, _, [_], _, _, _, rfl, rfl, rfl, (by first | exact pgc_size _ | rfl), (by first | exact pgc_size _ | rfl), (by first | exact pgc_one _ | (simp [Value.oneCell']; done) | rfl), ?_⟩ | refine ⟨rfl, _, [_, _], _, _, _, rfl, rfl, rfl, (by first | exact pgc_size _ | rfl), (by first | exact pgc_size _ | rfl), (by first | exact pgc_one _ | (simp [Value.oneCell']; done) | rfl), ?_⟩ | refine ⟨rfl, _, [_, _, _], _, _, _, rfl, rfl, rfl, (by first | exact pgc_size _ | rfl), (by first | exact pgc_size _ | rfl), (by first | exact pgc_one _ | (simp [Value.oneCell']; done) | rfl), ?_⟩); intro wN hSt; simp only [List.nil_append, List.cons_append] at hSt; simp only [Act.put]) | (go_at_call 47; refine (in_any _ _ _).mono ?_; rintro e w8 ⟨rfl, hb9⟩; (try rw [hi]); (try rw [hj]); replace hSt := hSt.ext hb9))
        (try simp only [Exit.inBlock, Exit.then]); refine bodyPost_ret (res_tmp2 rfl _ _) rfl ?_
        exact ⟨rfl, hSt.base⟩
    | false =>
      have hc := inB_f hj
      have hk : ixOk 2 o n = false := by unfold ixOk; exact decide_eq_false (by omega)
      rw [hk, show ixVal 2 o n = 0 from by unfold ixVal; rw [hk]; rfl]
      go_enter Try.func20, Try.ntmps20
      go_wp2_with (first | ((with_reducible refine pg_build ?_); refine ⟨rfl, ?_⟩; (simp only [Act.put, List.setIfInBounds_toArray, List.set_cons_succ, List.set_cons_zero])) | ((with_reducible refine ev_box hSt ?_); refine ⟨rfl, _, rfl, ?_⟩; intro gN wN hSt; (simp only [Act.put, List.setIfInBounds_toArray, List.set_cons_succ, List.set_cons_zero])) | ((with_reducible refine ev_alloc hSt (by first | exact zPg | exact zHd | exact zHr) ?_); refine ⟨rfl, ?_⟩; intro gN wN hSt; (simp only [Act.put, List.setIfInBounds_toArray, List.set_cons_succ, List.set_cons_zero])) | ((with_reducible refine ev_load hSt (by first | exact aPg | exact aHd | exact aHr) ?_); refine ⟨rfl, _, _, _, rfl, (by repeat (first | exact List.mem_cons_self .. | refine List.mem_cons_of_mem _ ?_)), (by first | exact pgc_size _ | rfl), ?_⟩; (simp only [Act.put, List.setIfInBounds_toArray, List.set_cons_succ, List.set_cons_zero])) | ((with_reducible refine ev_load1 hSt (by first | exact oInt | exact oBool | exact oU32 | exact oU8) ?_); refine ⟨rfl, _, _, _, _, _, rfl, (by repeat (first | exact List.mem_cons_self .. | refine List.mem_cons_of_mem _ ?_)), (by first | rfl | exact pgc_get _ _ (by decide)), ?_⟩; (simp only [Act.put, List.setIfInBounds_toArray, List.set_cons_succ, List.set_cons_zero])) | ((with_reducible refine ev_store hSt (by first | exact aPg | exact aHd | exact aHr) ?_); (first | refine ⟨rfl, _, [], _, _, _, rfl, rfl, rfl, (by first | exact pgc_size _ | rfl), (by first | exact pgc_size _ | rfl), (by first | exact pgc_one _ | (simp [Value.oneCell']; done) | rfl), ?_⟩ | refine ⟨rfl, _, [_], _, _, _, rfl, rfl, rfl, (by first | exact pgc_size _ | rfl), (by first | exact pgc_size _ | rfl), (by first | exact pgc_one _ | (simp [Value.oneCell']; done) | rfl), ?_⟩ | refine ⟨rfl, _, [_, _], _, _, _, rfl, rfl, rfl, (by first | exact pgc_size _ | rfl), (by first | exact pgc_size _ | rfl), (by first | exact pgc_one _ | (simp [Value.oneCell']; done) | rfl), ?_⟩ | refine ⟨rfl, _, [_, _, _], _, _, _, rfl, rfl, rfl, (by first | exact pgc_size _ | rfl), (by first | exact pgc_size _ | rfl), (by first | exact pgc_one _ | (simp [Value.oneCell']; done) | rfl), ?_⟩); intro wN hSt; simp only [List.nil_append, List.cons_append] at hSt; simp only [Act.put]) | (go_at_call 47; refine (in_any _ _ _).mono ?_; rintro e w8 ⟨rfl, hb9⟩; (try rw [hi]); (try rw [hj]); replace hSt := hSt.ext hb9))
      (try simp only [Exit.inBlock, Exit.then]); refine bodyPost_ret (res_tmp2 rfl _ _) rfl ?_
      exact ⟨rfl, hSt.base⟩
  · have hk : ixOk d o n = false := by unfold ixOk; exact decide_eq_false (by omega)
    rw [hk, show ixVal d o n = 0 from by unfold ixVal; rw [hk]; rfl]
    go_enter Try.func20, Try.ntmps20
    go_wp2_with (first | ((with_reducible refine pg_build ?_); refine ⟨rfl, ?_⟩; (simp only [Act.put, List.setIfInBounds_toArray, List.set_cons_succ, List.set_cons_zero])) | ((with_reducible refine ev_box hSt ?_); refine ⟨rfl, _, rfl, ?_⟩; intro gN wN hSt; (simp only [Act.put, List.setIfInBounds_toArray, List.set_cons_succ, List.set_cons_zero])) | ((with_reducible refine ev_alloc hSt (by first | exact zPg | exact zHd | exact zHr) ?_); refine ⟨rfl, ?_⟩; intro gN wN hSt; (simp only [Act.put, List.setIfInBounds_toArray, List.set_cons_succ, List.set_cons_zero])) | ((with_reducible refine ev_load hSt (by first | exact aPg | exact aHd | exact aHr) ?_); refine ⟨rfl, _, _, _, rfl, (by repeat (first | exact List.mem_cons_self .. | refine List.mem_cons_of_mem _ ?_)), (by first | exact pgc_size _ | rfl), ?_⟩; (simp only [Act.put, List.setIfInBounds_toArray, List.set_cons_succ, List.set_cons_zero])) | ((with_reducible refine ev_load1 hSt (by first | exact oInt | exact oBool | exact oU32 | exact oU8) ?_); refine ⟨rfl, _, _, _, _, _, rfl, (by repeat (first | exact List.mem_cons_self .. | refine List.mem_cons_of_mem _ ?_)), (by first | rfl | exact pgc_get _ _ (by decide)), ?_⟩; (simp only [Act.put, List.setIfInBounds_toArray, List.set_cons_succ, List.set_cons_zero])) | ((with_reducible refine ev_store hSt (by first | exact aPg | exact aHd | exact aHr) ?_); (first | refine ⟨rfl, _, [], _, _, _, rfl, rfl, rfl, (by first | exact pgc_size _ | rfl), (by first | exact pgc_size _ | rfl), (by first | exact pgc_one _ | (simp [Value.oneCell']; done) | rfl), ?_⟩ | refine ⟨rfl, _, [_], _, _, _, rfl, rfl, rfl, (by first | exact pgc_size _ | rfl), (by first | exact pgc_size _ | rfl), (by first | exact pgc_one _ | (simp [Value.oneCell']; done) | rfl), ?_⟩ | refine ⟨rfl, _, [_, _], _, _, _, rfl, rfl, rfl, (by first | exact pgc_size _ | rfl), (by first | exact pgc_size _ | rfl), (by first | exact pgc_one _ | (simp [Value.oneCell']; done) | rfl), ?_⟩ | refine ⟨rfl, _, [_, _, _], _, _, _, rfl, rfl, rfl, (by first | exact pgc_size _ | rfl), (by first | exact pgc_size _ | rfl), (by first | exact pgc_one _ | (simp [Value.oneCell']; done) | rfl), ?_⟩); intro wN hSt; simp only [List.nil_append, List.cons_append] at hSt; simp only [Act.put]) | (go_at_call 47; refine (in_any _ _ _).mono ?_; rintro e w8 ⟨rfl, hb9⟩; (try rw [hi]); (try rw [hj]); replace hSt := hSt.ext hb9))
    (try simp only [Exit.inBlock, Exit.then]); refine bodyPost_ret (res_tmp2 rfl _ _) rfl ?_
    exact ⟨rfl, hSt.base⟩
end Go.Proofs.Ytmnofoflbhdgjaa
