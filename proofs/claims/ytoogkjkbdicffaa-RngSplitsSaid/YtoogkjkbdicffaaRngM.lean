/- Chapter 21: awake; what arithmetic makes, and whether a condition holds, by the document of chapter 19. -/
import Derived.Test.YtoogkjkbdicffaaRngK
namespace Go.Proofs.Ytoogkjkbdicffaa
open Go.RowKit
set_option linter.unusedSimpArgs false
set_option linter.unusedVariables false

section
variable {P : Program} {ops : Array Oper} {rest : List Oper} {Q : Exit → Act → World → Prop} {tmps : Array Value} {df : List Deferred} {d ty t : Nat} {ps : String} {af : Array Edge} {gd : Option (Nat × Bool)} {w0 w : World} {l : List (Nat × Obj)}
/-- A struct out of a row, at a place. -/
theorem ev_loadAt {T : TypeId} {n : Nat} (hSt : St w0 l w) (hT : AggT P T n) (h : Region.wanted ⟨some d, .load T (.tmp t), ty, ps, af, gd⟩ (yielded ops tmps) = true ∧ ∃ g o cur T', ∃ cs : List Value,
      tmps.getD t undef = .pointer (some ⟨g, o, none⟩) ∧ (g, Obj.cells cur T' (0, 0)) ∈ l ∧ cs.length = n ∧ (cur.toList.drop o).take n = cs ∧
      wpList P ops Q rest (Act.put ⟨tmps, df⟩ (some d) (.agg cs.toArray)) w) :
    wpList P ops Q (⟨some d, .load T (.tmp t), ty, ps, af, gd⟩ :: rest) ⟨tmps, df⟩ w := by
  obtain ⟨hw, g, o, cur, T', cs, hx, hm, hn, hc, h⟩ := h
  refine wpl_run hw ?_ h
  have hx' : Act.eval ⟨tmps, df⟩ (.tmp t) = .pointer (some ⟨g, o, none⟩) := hx
  obtain ⟨h1, h2⟩ := hT
  obtain ⟨td, htd, hrow⟩ := Option.map_eq_some_iff.1 h1
  obtain ⟨i, hi, his⟩ := Option.map_eq_some_iff.1 h2
  have hl : (loadCells ⟨g, o, none⟩ cs.length).run P w = .ok cs.toArray w := run_loadCells_list (P := P) w ⟨g, o, none⟩ cs (fun j v hj => by
    rw [Addr.add_mid, cell_of_row _ _ _ _ _ _ (hSt.blk hm)]
    rw [← hc, List.getElem?_take] at hj
    split at hj
    · rw [List.getElem?_drop] at hj
      simpa using hj
    · cases hj)
  have hagg : (isAgg T).run P w = .ok true w := by
    unfold isAgg
    rw [Sem.run_bind, run_underlying htd w]
    cases td <;> simp_all [TypeDesc.isRow]
  have hr : (loadVar T ⟨g, o, none⟩).run P w = .ok (.agg cs.toArray) w := by
    simp [loadVar, Sem.run_bind, hagg, sizeOf, typeInfo, hi, his, ← hn, hl]
  simp only [execOp, hx', Instr.loadAt, Instr.sureAddr, Sem.run_bind, Sem.run_pure, Result.andThen_ok, hr]
end

set_option maxHeartbeats 2000000 in
set_option maxRecDepth 100000 in
theorem awake21 (w : World) : Calls Try.prog 9 #[] w fun e w' => e = .returned (.bool true) ∧ Below w.heap.size w w' := by
  have hSt := St.start w
  have hSp := fun w => split_is 35 0 9 5 5 (by decide) (by decide) (by decide) (by decide) w
  have hsv : splitV 35 (0, 9) (5, 5) = (((0, 4), (5, 5)), ((5, 9), (5, 5))) := by decide
  rw [hsv] at hSp
  unfold sv at hSp
  have hDo := fun w => do_is 16 1 3 10 20 (by decide) (by decide) (by decide) (by decide) w
  have hdv : doV 16 (1, 3) (10, 20) = (11, 23) := by decide
  rw [hdv] at hDo
  clear hsv hdv
  go_enter Try.func9, Try.ntmps9
  go_upto_region 2 with (first | ((with_reducible refine ev_box hSt ?_); refine ⟨rfl, _, rfl, ?_⟩; intro gN wN hSt; (simp only [Act.put, List.setIfInBounds_toArray, List.set_cons_succ, List.set_cons_zero])) | ((with_reducible refine ev_alloc hSt (by first | exact zPg | exact zHd | exact zHr | exact zX1 | exact zX2 | exact zX3 | exact zX4) ?_); refine ⟨rfl, ?_⟩; intro gN wN hSt; (simp only [Act.put, List.setIfInBounds_toArray, List.set_cons_succ, List.set_cons_zero])) | ((with_reducible refine ev_load hSt (by first | exact aPg | exact aHd | exact aHr | exact aX1 | exact aX2 | exact aX3 | exact aX4) ?_); refine ⟨rfl, _, _, _, rfl, (by repeat (first | exact List.mem_cons_self .. | refine List.mem_cons_of_mem _ ?_)), (by first | exact pgc_size _ | exact nc_size _ _ | rfl), ?_⟩; (simp only [Act.put, List.setIfInBounds_toArray, List.set_cons_succ, List.set_cons_zero])) | ((with_reducible refine ev_load1 hSt (by first | exact oInt | exact oBool | exact oU32 | exact oU8) ?_); refine ⟨rfl, _, _, _, _, _, rfl, (by repeat (first | exact List.mem_cons_self .. | refine List.mem_cons_of_mem _ ?_)), (by first | rfl | exact pgc_get _ _ (by first | decide | omega) | exact nc_get _ _ _ (by first | decide | omega)), ?_⟩; (simp only [Act.put, List.setIfInBounds_toArray, List.set_cons_succ, List.set_cons_zero])) | ((with_reducible refine ev_store hSt (by first | exact aPg | exact aHd | exact aHr | exact aX1 | exact aX2 | exact aX3 | exact aX4) ?_); (first | refine ⟨rfl, _, [], _, _, _, rfl, rfl, rfl, (by first | exact pgc_size _ | exact nc_size _ _ | rfl), (by first | exact pgc_size _ | exact nc_size _ _ | rfl), (by first | exact pgc_one _ | exact nc_one _ _ | (simp [Value.oneCell']; done) | rfl), ?_⟩ | refine ⟨rfl, _, [_], _, _, _, rfl, rfl, rfl, (by first | exact pgc_size _ | exact nc_size _ _ | rfl), (by first | exact pgc_size _ | exact nc_size _ _ | rfl), (by first | exact pgc_one _ | exact nc_one _ _ | (simp [Value.oneCell']; done) | rfl), ?_⟩ | refine ⟨rfl, _, [_, _], _, _, _, rfl, rfl, rfl, (by first | exact pgc_size _ | exact nc_size _ _ | rfl), (by first | exact pgc_size _ | exact nc_size _ _ | rfl), (by first | exact pgc_one _ | exact nc_one _ _ | (simp [Value.oneCell']; done) | rfl), ?_⟩ | refine ⟨rfl, _, [_, _, _], _, _, _, rfl, rfl, rfl, (by first | exact pgc_size _ | exact nc_size _ _ | rfl), (by first | exact pgc_size _ | exact nc_size _ _ | rfl), (by first | exact pgc_one _ | exact nc_one _ _ | (simp [Value.oneCell']; done) | rfl), ?_⟩ | refine ⟨rfl, _, [_, _, _, _], _, _, _, rfl, rfl, rfl, (by first | exact pgc_size _ | exact nc_size _ _ | rfl), (by first | exact pgc_size _ | exact nc_size _ _ | rfl), (by first | exact pgc_one _ | exact nc_one _ _ | (simp [Value.oneCell']; done) | rfl), ?_⟩); intro wN hSt; simp only [List.nil_append, List.cons_append] at hSt; simp only [Act.put]) | (go_at_call 18; refine (one_is _ _).mono ?_; rintro e w8 ⟨rfl, hb9⟩; replace hSt := hSt.ext hb9) | (go_at_call 11; refine (hSp _).mono ?_; rintro e w8 ⟨rfl, hb9⟩; replace hSt := hSt.ext hb9))
  refine wp_region_seq (S := fun w' => St w _ w') mixed21 (by kernel_rfl) (by kernel_rfl) hSt.drew ?_
  clear hSt
  iterate 26 (refine seq_take (v := ?_) rfl (of_decide_eq_true rfl) (fun w9 hS => ?_) ?_; rotate_left; (focus (have hSt := hS; go_wp2_with (first | (go_at_call 19; refine (hDo _).mono ?_; rintro e w8 ⟨rfl, hb9⟩; replace hSt := hSt.ext hb9) | (go_at_call 18; refine (one_is _ _).mono ?_; rintro e w8 ⟨rfl, hb9⟩; replace hSt := hSt.ext hb9) | ((with_reducible refine ev_box hSt ?_); refine ⟨rfl, _, rfl, ?_⟩; intro gN wN hSt; (simp only [Act.put, List.setIfInBounds_toArray, List.set_cons_succ, List.set_cons_zero])) | ((with_reducible refine ev_alloc hSt (by first | exact zPg | exact zHd | exact zHr | exact zX1 | exact zX2 | exact zX3 | exact zX4) ?_); refine ⟨rfl, ?_⟩; intro gN wN hSt; (simp only [Act.put, List.setIfInBounds_toArray, List.set_cons_succ, List.set_cons_zero])) | ((with_reducible refine ev_load hSt (by first | exact aPg | exact aHd | exact aHr | exact aX1 | exact aX2 | exact aX3 | exact aX4) ?_); refine ⟨rfl, _, _, _, rfl, (by repeat (first | exact List.mem_cons_self .. | refine List.mem_cons_of_mem _ ?_)), (by first | exact pgc_size _ | exact nc_size _ _ | rfl), ?_⟩; (simp only [Act.put, List.setIfInBounds_toArray, List.set_cons_succ, List.set_cons_zero])) | ((with_reducible refine ev_load1 hSt (by first | exact oInt | exact oBool | exact oU32 | exact oU8) ?_); refine ⟨rfl, _, _, _, _, _, rfl, (by repeat (first | exact List.mem_cons_self .. | refine List.mem_cons_of_mem _ ?_)), (by first | rfl | exact pgc_get _ _ (by first | decide | omega) | exact nc_get _ _ _ (by first | decide | omega)), ?_⟩; (simp only [Act.put, List.setIfInBounds_toArray, List.set_cons_succ, List.set_cons_zero])) | ((with_reducible refine ev_store hSt (by first | exact aPg | exact aHd | exact aHr | exact aX1 | exact aX2 | exact aX3 | exact aX4) ?_); (first | refine ⟨rfl, _, [], _, _, _, rfl, rfl, rfl, (by first | exact pgc_size _ | exact nc_size _ _ | rfl), (by first | exact pgc_size _ | exact nc_size _ _ | rfl), (by first | exact pgc_one _ | exact nc_one _ _ | (simp [Value.oneCell']; done) | rfl), ?_⟩ | refine ⟨rfl, _, [_], _, _, _, rfl, rfl, rfl, (by first | exact pgc_size _ | exact nc_size _ _ | rfl), (by first | exact pgc_size _ | exact nc_size _ _ | rfl), (by first | exact pgc_one _ | exact nc_one _ _ | (simp [Value.oneCell']; done) | rfl), ?_⟩ | refine ⟨rfl, _, [_, _], _, _, _, rfl, rfl, rfl, (by first | exact pgc_size _ | exact nc_size _ _ | rfl), (by first | exact pgc_size _ | exact nc_size _ _ | rfl), (by first | exact pgc_one _ | exact nc_one _ _ | (simp [Value.oneCell']; done) | rfl), ?_⟩ | refine ⟨rfl, _, [_, _, _], _, _, _, rfl, rfl, rfl, (by first | exact pgc_size _ | exact nc_size _ _ | rfl), (by first | exact pgc_size _ | exact nc_size _ _ | rfl), (by first | exact pgc_one _ | exact nc_one _ _ | (simp [Value.oneCell']; done) | rfl), ?_⟩ | refine ⟨rfl, _, [_, _, _, _], _, _, _, rfl, rfl, rfl, (by first | exact pgc_size _ | exact nc_size _ _ | rfl), (by first | exact pgc_size _ | exact nc_size _ _ | rfl), (by first | exact pgc_one _ | exact nc_one _ _ | (simp [Value.oneCell']; done) | rfl), ?_⟩); intro wN hSt; simp only [List.nil_append, List.cons_append] at hSt; simp only [Act.put])); refine VQ_mk ?_ rfl ?_; (focus rfl); (first | exact hS | exact hS.ext hb9))); (simp only [Act.put, List.setIfInBounds_toArray, List.set_cons_succ, List.set_cons_zero, Array.getD_eq_getD_getElem?, List.getElem?_toArray, List.getElem?_cons_succ, List.getElem?_cons_zero, Option.getD_some]))
  refine seq_nil ?_
  intro w9 hSt
  go_wp2
  go_ret
  exact ⟨rfl, hSt.base⟩
theorem holds_33 (x y : Int) (w : World) : Calls Try.prog 12 #[.int .i64 33, .int .i64 x, .int .i64 y] w fun e w' => e = .returned (.bool (x == y)) ∧ Below w.heap.size w w' := by
  go_enter Try.func12, Try.ntmps12
  go_wp2
  go_ret
  exact ⟨rfl, Below.refl _ _⟩
theorem holds_37 (x y : Int) (w : World) : Calls Try.prog 12 #[.int .i64 37, .int .i64 x, .int .i64 y] w fun e w' => e = .returned (.bool (x == y)) ∧ Below w.heap.size w w' := by
  go_enter Try.func12, Try.ntmps12
  go_wp2
  go_ret
  exact ⟨rfl, Below.refl _ _⟩
theorem holds_34 (x y : Int) (w : World) : Calls Try.prog 12 #[.int .i64 34, .int .i64 x, .int .i64 y] w fun e w' => e = .returned (.bool (!(x == y))) ∧ Below w.heap.size w w' := by
  go_enter Try.func12, Try.ntmps12
  go_wp2
  go_ret
  exact ⟨rfl, Below.refl _ _⟩
theorem holds_38 (x y : Int) (w : World) : Calls Try.prog 12 #[.int .i64 38, .int .i64 x, .int .i64 y] w fun e w' => e = .returned (.bool (!(x == y))) ∧ Below w.heap.size w w' := by
  go_enter Try.func12, Try.ntmps12
  go_wp2
  go_ret
  exact ⟨rfl, Below.refl _ _⟩
theorem holds_35 (x y : Int) (w : World) : Calls Try.prog 12 #[.int .i64 35, .int .i64 x, .int .i64 y] w fun e w' => e = .returned (.bool (decide (x < y))) ∧ Below w.heap.size w w' := by
  go_enter Try.func12, Try.ntmps12
  go_wp2
  go_ret
  exact ⟨rfl, Below.refl _ _⟩
theorem holds_39 (x y : Int) (w : World) : Calls Try.prog 12 #[.int .i64 39, .int .i64 x, .int .i64 y] w fun e w' => e = .returned (.bool (decide (x < y))) ∧ Below w.heap.size w w' := by
  go_enter Try.func12, Try.ntmps12
  go_wp2
  go_ret
  exact ⟨rfl, Below.refl _ _⟩
theorem holds_36 (x y : Int) (w : World) : Calls Try.prog 12 #[.int .i64 36, .int .i64 x, .int .i64 y] w fun e w' => e = .returned (.bool (decide (y ≤ x))) ∧ Below w.heap.size w w' := by
  go_enter Try.func12, Try.ntmps12
  go_wp2
  go_ret
  exact ⟨rfl, Below.refl _ _⟩
theorem holds_40 (x y : Int) (w : World) : Calls Try.prog 12 #[.int .i64 40, .int .i64 x, .int .i64 y] w fun e w' => e = .returned (.bool (decide (y ≤ x))) ∧ Below w.heap.size w w' := by
  go_enter Try.func12, Try.ntmps12
  go_wp2
  go_ret
  exact ⟨rfl, Below.refl _ _⟩
theorem holds_is (op x y : Int) (h1 : 33 ≤ op) (h2 : op ≤ 40) (w : World) : Calls Try.prog 12 #[.int .i64 op, .int .i64 x, .int .i64 y] w fun e w' => e = .returned (.bool (holdsV op x y)) ∧ Below w.heap.size w w' := by
  have e1 : decide (x = y) = (x == y) := by by_cases h : x = y <;> simp [h]
  have e2 : decide (x ≠ y) = !(x == y) := by by_cases h : x = y <;> simp [h]
  unfold holdsV
  rcases (by omega : op = 33 ∨ op = 34 ∨ op = 35 ∨ op = 36 ∨ op = 37 ∨ op = 38 ∨ op = 39 ∨ op = 40) with rfl | rfl | rfl | rfl | rfl | rfl | rfl | rfl
  · rw [if_pos (by decide), e1]; exact holds_33 x y w
  · rw [if_neg (by decide), if_pos (by decide), e2]; exact holds_34 x y w
  · rw [if_neg (by decide), if_neg (by decide), if_pos (by decide)]; exact holds_35 x y w
  · rw [if_neg (by decide), if_neg (by decide), if_neg (by decide)]; exact holds_36 x y w
  · rw [if_pos (by decide), e1]; exact holds_37 x y w
  · rw [if_neg (by decide), if_pos (by decide), e2]; exact holds_38 x y w
  · rw [if_neg (by decide), if_neg (by decide), if_pos (by decide)]; exact holds_39 x y w
  · rw [if_neg (by decide), if_neg (by decide), if_neg (by decide)]; exact holds_40 x y w
theorem calc_16 (x y : Int) (w : World) : Calls Try.prog 20 #[.int .i64 16, .int .i64 x, .int .i64 y] w fun e w' => e = .returned (.int .i64 (wrap64 (x + y))) ∧ Below w.heap.size w w' := by
  go_enter Try.func20, Try.ntmps20
  go_wp2
  go_ret
  exact ⟨rfl, Below.refl _ _⟩
theorem calc_21 (x y : Int) (w : World) : Calls Try.prog 20 #[.int .i64 21, .int .i64 x, .int .i64 y] w fun e w' => e = .returned (.int .i64 (wrap64 (x + y))) ∧ Below w.heap.size w w' := by
  go_enter Try.func20, Try.ntmps20
  go_wp2
  go_ret
  exact ⟨rfl, Below.refl _ _⟩
theorem calc_17 (x y : Int) (w : World) : Calls Try.prog 20 #[.int .i64 17, .int .i64 x, .int .i64 y] w fun e w' => e = .returned (.int .i64 (wrap64 (x - y))) ∧ Below w.heap.size w w' := by
  go_enter Try.func20, Try.ntmps20
  go_wp2
  go_ret
  exact ⟨rfl, Below.refl _ _⟩
theorem calc_22 (x y : Int) (w : World) : Calls Try.prog 20 #[.int .i64 22, .int .i64 x, .int .i64 y] w fun e w' => e = .returned (.int .i64 (wrap64 (x - y))) ∧ Below w.heap.size w w' := by
  go_enter Try.func20, Try.ntmps20
  go_wp2
  go_ret
  exact ⟨rfl, Below.refl _ _⟩
theorem calc_18 (x y : Int) (w : World) : Calls Try.prog 20 #[.int .i64 18, .int .i64 x, .int .i64 y] w fun e w' => e = .returned (.int .i64 (bits .and .i64 x y)) ∧ Below w.heap.size w w' := by
  go_enter Try.func20, Try.ntmps20
  go_wp2
  go_ret
  exact ⟨rfl, Below.refl _ _⟩
theorem calc_23 (x y : Int) (w : World) : Calls Try.prog 20 #[.int .i64 23, .int .i64 x, .int .i64 y] w fun e w' => e = .returned (.int .i64 (bits .and .i64 x y)) ∧ Below w.heap.size w w' := by
  go_enter Try.func20, Try.ntmps20
  go_wp2
  go_ret
  exact ⟨rfl, Below.refl _ _⟩
theorem calc_19 (x y : Int) (w : World) : Calls Try.prog 20 #[.int .i64 19, .int .i64 x, .int .i64 y] w fun e w' => e = .returned (.int .i64 (bits .or .i64 x y)) ∧ Below w.heap.size w w' := by
  go_enter Try.func20, Try.ntmps20
  go_wp2
  go_ret
  exact ⟨rfl, Below.refl _ _⟩
theorem calc_24 (x y : Int) (w : World) : Calls Try.prog 20 #[.int .i64 24, .int .i64 x, .int .i64 y] w fun e w' => e = .returned (.int .i64 (bits .or .i64 x y)) ∧ Below w.heap.size w w' := by
  go_enter Try.func20, Try.ntmps20
  go_wp2
  go_ret
  exact ⟨rfl, Below.refl _ _⟩
theorem calc_20 (x y : Int) (w : World) : Calls Try.prog 20 #[.int .i64 20, .int .i64 x, .int .i64 y] w fun e w' => e = .returned (.int .i64 (wrap64 (x * y))) ∧ Below w.heap.size w w' := by
  go_enter Try.func20, Try.ntmps20
  go_wp2
  go_ret
  exact ⟨rfl, Below.refl _ _⟩
theorem calc_25 (x y : Int) (w : World) : Calls Try.prog 20 #[.int .i64 25, .int .i64 x, .int .i64 y] w fun e w' => e = .returned (.int .i64 (wrap64 (x * y))) ∧ Below w.heap.size w w' := by
  go_enter Try.func20, Try.ntmps20
  go_wp2
  go_ret
  exact ⟨rfl, Below.refl _ _⟩
theorem shl_step (x : Int) (k : Nat) : IntKind.u64.wrap (x * 2 ^ k % 18446744073709551616 * 2) = x * 2 ^ (k + 1) % 18446744073709551616 := by
  rw [IntKind.wrap_u64, Int.pow_succ, ← Int.mul_assoc]
  generalize x * 2 ^ k = z
  omega
theorem shr_step (x : Int) (k : Nat) : IntKind.u64.wrap ((x % 18446744073709551616 / 2 ^ k).tdiv 2) = x % 18446744073709551616 / 2 ^ (k + 1) := by
  have h0 : 0 ≤ x % 18446744073709551616 := Int.emod_nonneg _ (by decide)
  have h1 : x % 18446744073709551616 < 18446744073709551616 := Int.emod_lt_of_pos _ (by decide)
  generalize x % 18446744073709551616 = z at *
  have h2 : 0 ≤ z / 2 ^ k := Int.ediv_nonneg h0 (Int.le_of_lt (pow_pos2 k))
  have h3 : z / 2 ^ k ≤ z := Int.ediv_le_self _ h0
  rw [Int.tdiv_eq_ediv_of_nonneg h2, Int.pow_succ]
  have e := Int.ediv_ediv (x := z) (y := 2 ^ k) (z := 2)
  rw [if_neg (fun h => absurd h.1 (Int.not_lt.2 (Int.le_of_lt (pow_pos2 k)))), Int.sub_zero] at e
  rw [← e, IntKind.wrap_u64]
  omega
set_option maxHeartbeats 1000000 in
set_option maxRecDepth 100000 in
theorem calc_26 (x : Int) (y : Nat) (hy : y ≤ 63) (w : World) : Calls Try.prog 20 #[.int .i64 26, .int .i64 x, .int .i64 y] w fun e w' => e = .returned (.int .i64 (wrap64 (x * 2 ^ y))) ∧ Below w.heap.size w w' := by
  go_enter Try.func20, Try.ntmps20
  go_wp2
  go_loopw [7, 8] (fun u i wr => ∃ k : Nat, k ≤ y ∧ i = .int .i64 k ∧ u = .int .u64 (x * 2 ^ k % 18446744073709551616) ∧ wr = w) (fun _ i _ => y - (intOf i).toNat)
  case atStart => exact ⟨0, Nat.zero_le _, rfl, by rw [Int.pow_zero, Int.mul_one, IntKind.wrap_u64], by first | trivial | rfl⟩
  case round =>
    obtain ⟨k, hk, rfl, rfl, rfl⟩ := hrel
    by_cases hlt : k < y
    · go_wp2
      exact ⟨⟨k + 1, by omega, by go_num, by rw [shl_step], by first | trivial | rfl⟩, by simp [intOf]; omega⟩
    · obtain rfl : k = y := by omega
      go_wp2
      go_ret
      refine ⟨?_, Below.refl _ _⟩
      have e : wrap64 (x * 2 ^ k % 18446744073709551616) = wrap64 (x * 2 ^ k) := by generalize x * 2 ^ k = z; unfold wrap64; omega
      rw [← e]
      rfl
set_option maxHeartbeats 1000000 in
set_option maxRecDepth 100000 in
theorem calc_27 (x : Int) (y : Nat) (hy : y ≤ 63) (w : World) : Calls Try.prog 20 #[.int .i64 27, .int .i64 x, .int .i64 y] w fun e w' => e = .returned (.int .i64 (wrap64 (x % 18446744073709551616 / 2 ^ y))) ∧ Below w.heap.size w w' := by
  go_enter Try.func20, Try.ntmps20
  go_wp2
  go_loopw [7, 8] (fun u i wr => ∃ k : Nat, k ≤ y ∧ i = .int .i64 k ∧ u = .int .u64 (x % 18446744073709551616 / 2 ^ k) ∧ wr = w) (fun _ i _ => y - (intOf i).toNat)
  case atStart => exact ⟨0, Nat.zero_le _, rfl, by rw [Int.pow_zero, Int.ediv_one, IntKind.wrap_u64], by first | trivial | rfl⟩
  case round =>
    obtain ⟨k, hk, rfl, rfl, rfl⟩ := hrel
    by_cases hlt : k < y
    · go_wp2
      exact ⟨⟨k + 1, by omega, by go_num, by rw [shr_step], by first | trivial | rfl⟩, by simp [intOf]; omega⟩
    · obtain rfl : k = y := by omega
      go_wp2
      go_ret
      exact ⟨rfl, Below.refl _ _⟩
theorem calc_is (op x y : Int) (h1 : 16 ≤ op) (h2 : op ≤ 27) (h3 : 26 ≤ op → 0 ≤ y ∧ y ≤ 63) (w : World) : Calls Try.prog 20 #[.int .i64 op, .int .i64 x, .int .i64 y] w fun e w' => e = .returned (.int .i64 (calcV op x y)) ∧ Below w.heap.size w w' := by
  unfold calcV
  rcases (by omega : op = 16 ∨ op = 17 ∨ op = 18 ∨ op = 19 ∨ op = 20 ∨ op = 21 ∨ op = 22 ∨ op = 23 ∨ op = 24 ∨ op = 25 ∨ op = 26 ∨ op = 27) with rfl | rfl | rfl | rfl | rfl | rfl | rfl | rfl | rfl | rfl | rfl | rfl
  · rw [if_pos (by decide)]; exact calc_16 x y w
  · rw [if_neg (by decide)]; rw [if_pos (by decide)]; exact calc_17 x y w
  · rw [if_neg (by decide)]; rw [if_neg (by decide)]; rw [if_pos (by decide)]; exact calc_18 x y w
  · rw [if_neg (by decide)]; rw [if_neg (by decide)]; rw [if_neg (by decide)]; rw [if_pos (by decide)]; exact calc_19 x y w
  · rw [if_neg (by decide)]; rw [if_neg (by decide)]; rw [if_neg (by decide)]; rw [if_neg (by decide)]; rw [if_pos (by decide)]; exact calc_20 x y w
  · rw [if_pos (by decide)]; exact calc_21 x y w
  · rw [if_neg (by decide)]; rw [if_pos (by decide)]; exact calc_22 x y w
  · rw [if_neg (by decide)]; rw [if_neg (by decide)]; rw [if_pos (by decide)]; exact calc_23 x y w
  · rw [if_neg (by decide)]; rw [if_neg (by decide)]; rw [if_neg (by decide)]; rw [if_pos (by decide)]; exact calc_24 x y w
  · rw [if_neg (by decide)]; rw [if_neg (by decide)]; rw [if_neg (by decide)]; rw [if_neg (by decide)]; rw [if_pos (by decide)]; exact calc_25 x y w
  · obtain ⟨n, rfl⟩ : ∃ n : Nat, y = n := ⟨y.toNat, by have := h3 (by decide); omega⟩
    rw [if_neg (by decide), if_neg (by decide), if_neg (by decide), if_neg (by decide), if_neg (by decide), if_pos (by decide), Int.toNat_natCast]
    exact calc_26 x n (by have := h3 (by decide); omega) w
  · obtain ⟨n, rfl⟩ : ∃ n : Nat, y = n := ⟨y.toNat, by have := h3 (by decide); omega⟩
    rw [if_neg (by decide), if_neg (by decide), if_neg (by decide), if_neg (by decide), if_neg (by decide), if_neg (by decide), Int.toNat_natCast]
    exact calc_27 x n (by have := h3 (by decide); omega) w
end Go.Proofs.Ytoogkjkbdicffaa
