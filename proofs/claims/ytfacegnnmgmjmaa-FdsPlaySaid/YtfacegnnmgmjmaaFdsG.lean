/- Chapter 28: a table that isn't there: the law FdsNone, walked. -/
import Derived.Test.YtfacegnnmgmjmaaFdsE
import Derived.Carry
import Derived.WideLaws
namespace Go.Proofs.Ytfacegnnmgmjmaa
open Go.RowKit
set_option linter.unusedSimpArgs false
set_option linter.unusedVariables false

/-- An Op's cells. -/
def opc (k pr fd n : Int) (x : FileT) : Array Value := #[.int .i64 k, .int .i64 pr, .int .i64 fd, .int .i64 n, .int .i64 x.1, .int .i64 x.2.1, .int .i64 x.2.2.1, .int .i64 x.2.2.2]
theorem opc_0 (k pr fd n : Int) (x : FileT) : (opc k pr fd n x)[0]? = some (.int .i64 k) := rfl
theorem opc_1 (k pr fd n : Int) (x : FileT) : (opc k pr fd n x)[1]? = some (.int .i64 pr) := rfl
theorem opc_2 (k pr fd n : Int) (x : FileT) : (opc k pr fd n x)[2]? = some (.int .i64 fd) := rfl
theorem opc_3 (k pr fd n : Int) (x : FileT) : (opc k pr fd n x)[3]? = some (.int .i64 n) := rfl
theorem opc_4 (k pr fd n : Int) (x : FileT) : (opc k pr fd n x)[4]? = some (.int .i64 x.1) := rfl

section
variable {ops : Array Oper} {rest : List Oper} {Q : Exit → Act → World → Prop} {tmps : Array Value} {df : List Deferred} {d ty t u : Nat} {ps : String} {af : Array Edge} {gd : Option (Nat × Bool)} {w0 w : World} {l : List (Nat × Obj)}
/-- The file of an Op. -/
theorem ev_load_op (hSt : St w0 l w) (h : Region.wanted ⟨some d, .load 27 (.tmp t), ty, ps, af, gd⟩ (yielded ops tmps) = true ∧ ∃ g k pr fd n x,
      tmps.getD t undef = .pointer (some ⟨g, 4, none⟩) ∧ (g, Obj.cells (opc k pr fd n x) 29 (0, 0)) ∈ l ∧
      wpList Try.prog ops Q rest (Act.put ⟨tmps, df⟩ (some d) (.agg (fv x))) w) :
    wpList Try.prog ops Q (⟨some d, .load 27 (.tmp t), ty, ps, af, gd⟩ :: rest) ⟨tmps, df⟩ w := by
  obtain ⟨hw, g, k, pr, fd, n, x, hx, hm, h⟩ := h
  refine wpl_run hw ?_ h
  have hx' : Act.eval ⟨tmps, df⟩ (.tmp t) = .pointer (some ⟨g, 4, none⟩) := hx
  have hg := hSt.blk hm
  have hr : w.rangeAt g 4 (fv x).toList := fun j v hv => by
    rw [cell_of_row w g _ _ _ _ hg]
    match j, hv with
    | 0, hv => exact hv
    | 1, hv => exact hv
    | 2, hv => exact hv
    | 3, hv => exact hv
    | j + 4, hv => simp [fv] at hv
  obtain ⟨dd, hu, hd⟩ := Option.map_eq_some_iff.1 aX1.1
  have hl := run_loadVar_mid (P := Try.prog) w g 4 27 (fv x).toList dd hr hu hd (by rw [aX1.2]; rfl)
  have hl' : (loadVar 27 ⟨g, 4, none⟩).run Try.prog w = .ok (.agg (fv x)) w := hl
  simp only [execOp, hx', Instr.loadAt, Instr.sureAddr, Sem.run_bind, Sem.run_pure, Result.andThen_ok, hl']
end

set_option maxHeartbeats 1000000 in
set_option maxRecDepth 100000 in
theorem each_nil (clo : Value) (w : World) : Calls Try.prog 31 #[.pointer none, clo] w fun e w' => e = .returned (.tuple #[]) ∧ w' = w := by
  go_enter Try.func31, Try.ntmps31
  go_wp2
  (try simp only [Exit.inBlock, Exit.then])
  refine bodyPost_ret (results_none rfl _ _ _) rfl ?_
  exact ⟨rfl, rfl⟩

set_option maxHeartbeats 1000000 in
set_option maxRecDepth 100000 in
theorem opens_nil (ino : Int) (w : World) : Calls Try.prog 24 #[.pointer none, .int .i64 ino] w fun e w' => e = .returned (.int .i64 0) ∧ Below w.heap.size w w' := by
  have hSt := St.start w
  go_enter Try.func24, Try.ntmps24
  go_wp2_with (first
    | ((with_reducible refine ev_box1 hSt ?_); refine ⟨rfl, _, _, rfl, rfl, ?_⟩; intro gN wN hSt; (simp only [Act.put, List.setIfInBounds_toArray, List.set_cons_succ, List.set_cons_zero]))
    | ((with_reducible refine ev_alloc hSt zInt ?_); refine ⟨rfl, ?_⟩; intro gN wN hSt; (simp only [Act.put, List.setIfInBounds_toArray, List.set_cons_succ, List.set_cons_zero]))
    | ((with_reducible refine ev_store1 hSt (by kernel_rfl) ?_); refine ⟨rfl, _, _, [], _, _, _, .int .i64 0, rfl, rfl, rfl, Nat.zero_lt_one, rfl, ?_⟩; intro wN hSt; simp only [List.nil_append, List.cons_append] at hSt; simp only [Act.put])
    | ((with_reducible refine ev_load1 hSt oInt ?_); refine ⟨rfl, _, _, _, _, _, rfl, (by repeat (first | exact List.mem_cons_self .. | refine List.mem_cons_of_mem _ ?_)), one_0 _, ?_⟩; (simp only [Act.put, List.setIfInBounds_toArray, List.set_cons_succ, List.set_cons_zero]))
    | (go_at_call 31; refine (each_nil _ _).mono ?_; rintro e w9 ⟨rfl, rfl⟩))
  go_ret
  exact ⟨rfl, hSt.base⟩

set_option maxHeartbeats 1000000 in
set_option maxRecDepth 100000 in
theorem pins_nil (w : World) : Calls Try.prog 26 #[.pointer none] w fun e w' => ∃ g, e = .returned (.map (some g)) ∧ w'.heap[g]? = some (.map #[] 0) ∧ Below w.heap.size w w' := by
  have hmm := @run_makeMap Try.prog
  go_enter Try.func26, Try.ntmps26
  go_wp2_with (first
    | (go_at_call 31; refine (each_nil _ _).mono ?_; rintro e w9 ⟨rfl, rfl⟩))
  go_ret
  refine ⟨_, rfl, ?_, ((Below.refl _ w).alloc (Nat.le_refl _) _).alloc (by simp) _⟩
  exact (Below.heap_alloc _ _ _ (by simp)).trans (heap_alloc_last w _)

set_option maxHeartbeats 1000000 in
set_option maxRecDepth 100000 in
theorem all_nil (pr : Int) (w : World) : Calls Try.prog 16 #[.pointer none, .int .i64 pr] w fun e w' => e = .returned (.slice none 0 0) ∧ w' = w := by
  go_enter Try.func16, Try.ntmps16
  go_wp2_with (go_at_call 28; refine (row_nil _ _).mono ?_; rintro e w9 ⟨rfl, rfl⟩)
  go_ret
  exact ⟨rfl, rfl⟩

set_option maxHeartbeats 1000000 in
set_option maxRecDepth 100000 in
theorem move_nil (pr fd n : Int) (w : World) : Calls Try.prog 21 #[.pointer none, .int .i64 pr, .int .i64 fd, .int .i64 n] w fun e w' => e = .returned (.int .i64 22) ∧ w' = w := by
  have hA := fun w => at_norow (.pointer none) pr fd w (fun w => row_nil pr w)
  go_enter Try.func21, Try.ntmps21
  go_wp2_with (go_at_call 29; refine (hA _).mono ?_; rintro e w9 ⟨rfl, rfl⟩)
  go_ret
  exact ⟨rfl, rfl⟩

set_option maxHeartbeats 2000000 in
set_option maxRecDepth 100000 in
theorem walk_FdsNone (k pr fd n : Int) (x : FileT) (w : World) :
    Calls Try.prog 7 #[.agg (opc k pr fd n x)] w fun e w' => e = .returned (.bool true) ∧ Below w.heap.size w w' := by
  have hSt := St.start w
  have hO := fun w => open_fail (.pointer none) pr 22 x w rfl (fun w => spare_nil pr w)
  have hG := fun w => get_err (.pointer none) pr fd 22 w rfl (fun w => at_norow (.pointer none) pr fd w (fun w => row_nil pr w))
  have hC := fun w => close_err (.pointer none) pr fd 22 w rfl hG
  have z0 : zF[0]? = some (.int .i64 0) := rfl
  have z1 : zF[1]? = some (.int .i64 0) := rfl
  have z2 : zF[2]? = some (.int .i64 0) := rfl
  have z3 : zF[3]? = some (.int .i64 0) := rfl
  go_enter Try.func7, Try.ntmps7
  go_wp2_with (first
    | ((with_reducible refine ev_box hSt ?_); refine ⟨rfl, _, rfl, ?_⟩; intro gN wN hSt; (simp only [Act.put, List.setIfInBounds_toArray, List.set_cons_succ, List.set_cons_zero]))
    | ((with_reducible refine ev_load1 hSt oInt ?_); refine ⟨rfl, _, _, _, _, _, rfl, (by repeat (first | exact List.mem_cons_self .. | refine List.mem_cons_of_mem _ ?_)), (by first | exact opc_0 _ _ _ _ _ | exact opc_1 _ _ _ _ _ | exact opc_2 _ _ _ _ _ | exact opc_3 _ _ _ _ _ | exact opc_4 _ _ _ _ _), ?_⟩; (simp only [Act.put, List.setIfInBounds_toArray, List.set_cons_succ, List.set_cons_zero]))
    | ((with_reducible refine ev_load_op hSt ?_); refine ⟨rfl, _, _, _, _, _, _, rfl, (by repeat (first | exact List.mem_cons_self .. | refine List.mem_cons_of_mem _ ?_)), ?_⟩; (simp only [Act.put, List.setIfInBounds_toArray, List.set_cons_succ, List.set_cons_zero]))
    | ((with_reducible refine ev_alloc hSt (by first | exact zPg | exact zHd | exact zHr | exact zX1 | exact zX2 | exact zX3 | exact zX4) ?_); refine ⟨rfl, ?_⟩; intro gN wN hSt; (simp only [Act.put, List.setIfInBounds_toArray, List.set_cons_succ, List.set_cons_zero]))
    | ((with_reducible refine ev_store hSt aX1 ?_); (first | refine ⟨rfl, _, [], _, _, _, rfl, rfl, rfl, rfl, rfl, (by simp [zF, fv, Value.oneCell']), ?_⟩ | refine ⟨rfl, _, [_], _, _, _, rfl, rfl, rfl, rfl, rfl, (by simp [zF, fv, Value.oneCell']), ?_⟩); intro wN hSt; simp only [List.nil_append, List.cons_append] at hSt; simp only [Act.put])
    | ((with_reducible refine ev_load hSt aX1 ?_); refine ⟨rfl, _, _, _, rfl, (by repeat (first | exact List.mem_cons_self .. | refine List.mem_cons_of_mem _ ?_)), rfl, ?_⟩; (simp only [Act.put, List.setIfInBounds_toArray, List.set_cons_succ, List.set_cons_zero]))
    | (go_at_call 8; refine (awake28 _).mono ?_; rintro e w1 ⟨rfl, hb9⟩; replace hSt := hSt.ext hb9)
    | (go_at_call 11; refine (spare_nil _ _).mono ?_; rintro e w1 ⟨rfl, rfl⟩)
    | (go_at_call 12; refine (hO _).mono ?_; rintro e w1 ⟨rfl, hb9⟩; replace hSt := hSt.ext hb9)
    | (go_at_call 13; refine (hG _).mono ?_; rintro e w1 ⟨rfl, hb9⟩; replace hSt := hSt.ext hb9)
    | (go_at_call 10; refine (hC _).mono ?_; rintro e w1 ⟨rfl, hb9⟩; replace hSt := hSt.ext hb9)
    | (go_at_call 21; refine (move_nil _ _ _ _).mono ?_; rintro e w1 ⟨rfl, rfl⟩)
    | (go_at_call 16; refine (all_nil _ _).mono ?_; rintro e w1 ⟨rfl, rfl⟩)
    | (go_at_call 24; refine (opens_nil _ _).mono ?_; rintro e w1 ⟨rfl, hb9⟩; replace hSt := hSt.ext hb9)
    | (go_at_call 26; refine (pins_nil _).mono ?_; rintro e w1 ⟨gm, rfl, hgm, hb9⟩; replace hSt := hSt.ext hb9; have hlen : (Builtin.len_ #[58] 3 #[.map (some gm)]).run Try.prog w1 = .ok (.int .i64 0) w1 := (run_len_map (P := Try.prog) (w := w1) 58 3 gm #[] 0 (by kernel_rfl) hgm)))
  go_ret
  exact ⟨rfl, hSt.base⟩
end Go.Proofs.Ytfacegnnmgmjmaa
