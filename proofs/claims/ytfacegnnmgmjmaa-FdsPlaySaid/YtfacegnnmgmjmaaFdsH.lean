/- Chapter 28: the law FdsNext, walked. -/
import Derived.Test.YtfacegnnmgmjmaaFdsG
namespace Go.Proofs.Ytfacegnnmgmjmaa
open Go.RowKit
set_option linter.unusedSimpArgs false
set_option linter.unusedVariables false

theorem run_loadVar_at {P : Program} (w : World) (x : Addr) (ty : TypeId) (cs : List Value) (d : TypeDesc) (hc : ∀ (j : Nat) (v : Value), cs[j]? = some v → w.cell? (x.add j) = some v)
    (hu : P.underlying ty = some d) (hd : d.isRow = true) (hi : (P.info? ty).map (·.size) = some cs.length) :
    (loadVar ty x).run P w = .ok (.agg cs.toArray) w := by
  have hl : (loadCells x cs.length).run P w = .ok cs.toArray w := run_loadCells_list (P := P) w x cs hc
  cases hq : P.info? ty with
  | none => simp [hq] at hi
  | some i =>
    have hs : i.size = cs.length := by simpa [hq] using hi
    have hagg : (isAgg ty).run P w = .ok true w := by
      unfold isAgg
      rw [Sem.run_bind, run_underlying hu w]
      cases d <;> simp_all
    simp [loadVar, Sem.run_bind, hagg, sizeOf, typeInfo, hq, hs, hl]

theorem cell_lt {w : World} {x : Addr} {v : Value} (hx : w.cell? x = some v) : x.block < w.heap.size := by
  by_cases hq : x.block < w.heap.size
  · exact hq
  · exfalso
    unfold World.cell? at hx
    simp [Array.getElem?_eq_none (by omega : w.heap.size ≤ x.block)] at hx

abbrev OpT := Int × Int × Int × Int × FileT
def opv (o : OpT) : Array Value := opc o.1 o.2.1 o.2.2.1 o.2.2.2.1 o.2.2.2.2
theorem aOp : AggT Try.prog 29 8 := ⟨by kernel_rfl, by kernel_rfl⟩
theorem zOp : ZeroT Try.prog 29 (opc 0 0 0 0 (0, 0, 0, 0)) := by unfold ZeroT; kernel_rfl
/-- A script. -/
def OpSl (w : World) (a : Option Addr) (os : List OpT) : Prop := ∀ (j : Nat) (h : j < os.length), ∃ x, a = some x ∧ ∀ i v, (opv os[j])[i]? = some v → w.cell? ((x.add (j * 8)).add i) = some v
theorem OpSl.ext {w w' : World} {a : Option Addr} {os : List OpT} (h : OpSl w a os) (hb : Below w.heap.size w w') : OpSl w' a os := fun j hj => by
  obtain ⟨x, h1, h2⟩ := h j hj
  refine ⟨x, h1, fun i v hv => ?_⟩
  have := h2 i v hv
  rw [hb.cell (cell_lt this), this]

section
variable {P : Program} {ops : Array Oper} {rest : List Oper} {Q : Exit → Act → World → Prop} {tmps : Array Value} {df : List Deferred} {d ty t u : Nat} {ps : String} {af : Array Edge} {gd : Option (Nat × Bool)} {w : World} {T : TypeId}
theorem op_load_at (h : Region.wanted ⟨some d, .load 29 (.tmp t), ty, ps, af, gd⟩ (yielded ops tmps) = true ∧ ∃ x k pr fd n y,
      tmps.getD t undef = .pointer (some x) ∧ (∀ i v, (opc k pr fd n y)[i]? = some v → w.cell? (x.add i) = some v) ∧ wpList Try.prog ops Q rest (Act.put ⟨tmps, df⟩ (some d) (.agg (opc k pr fd n y))) w) :
    wpList Try.prog ops Q (⟨some d, .load 29 (.tmp t), ty, ps, af, gd⟩ :: rest) ⟨tmps, df⟩ w := by
  obtain ⟨hw, x, k, pr, fd, n, y, hx, hg, h⟩ := h
  refine wpl_run hw ?_ h
  have hx' : Act.eval ⟨tmps, df⟩ (.tmp t) = .pointer (some x) := hx
  have hr := run_loadVar_at (P := Try.prog) w x 29 (opc k pr fd n y).toList _ (fun j v hv => hg j v (by simpa using hv)) Try.underlying29 rfl (by rw [aOp.2]; rfl)
  simp only [execOp, hx', Instr.loadAt, Instr.sureAddr, Sem.run_bind, Sem.run_pure, Result.andThen_ok, hr]

/-- A cell out of whatever block. -/
theorem ev_load1_blk (hT : OneT P T) (h : Region.wanted ⟨some d, .load T (.tmp t), ty, ps, af, gd⟩ (yielded ops tmps) = true ∧ ∃ g i cs T' v,
      tmps.getD t undef = .pointer (some ⟨g, i, none⟩) ∧ w.heap[g]? = some (.cells cs T' (0, 0)) ∧ cs[i]? = some v ∧
      wpList P ops Q rest (Act.put ⟨tmps, df⟩ (some d) v) w) :
    wpList P ops Q (⟨some d, .load T (.tmp t), ty, ps, af, gd⟩ :: rest) ⟨tmps, df⟩ w := by
  obtain ⟨hw, g, i, cs, T', v, hx, hm, hv, h⟩ := h
  refine wpl_run hw ?_ h
  have hx' : Act.eval ⟨tmps, df⟩ (.tmp t) = .pointer (some ⟨g, i, none⟩) := hx
  have hc : w.cell? ⟨g, i, none⟩ = some v := (cell_of_row w g i cs T' (0, 0) hm).trans hv
  simp [execOp, hx', Instr.loadAt, Instr.sureAddr, Sem.run_bind, loadVar, run_isAgg_false hT, hc]

theorem ev_load_op_blk (h : Region.wanted ⟨some d, .load 27 (.tmp t), ty, ps, af, gd⟩ (yielded ops tmps) = true ∧ ∃ g k pr fd n x,
      tmps.getD t undef = .pointer (some ⟨g, 4, none⟩) ∧ w.heap[g]? = some (.cells (opc k pr fd n x) 29 (0, 0)) ∧
      wpList Try.prog ops Q rest (Act.put ⟨tmps, df⟩ (some d) (.agg (fv x))) w) :
    wpList Try.prog ops Q (⟨some d, .load 27 (.tmp t), ty, ps, af, gd⟩ :: rest) ⟨tmps, df⟩ w := by
  obtain ⟨hw, g, k, pr, fd, n, x, hx, hm, h⟩ := h
  have hlt := lt_of_blk hm
  refine ev_load_op (w0 := { w with heap := #[] }) (l := [(g, .cells (opc k pr fd n x) 29 (0, 0))]) ⟨⟨rfl, rfl, rfl, Nat.zero_le _, fun k hk => absurd hk (Nat.not_lt_zero k)⟩, fun y hy => ?_, by simp⟩ ⟨hw, g, k, pr, fd, n, x, hx, List.mem_cons_self .., h⟩
  obtain rfl := List.mem_singleton.1 hy
  exact ⟨hm, Nat.zero_le _⟩
end

/-! ### Whatever is asked of a table -/
set_option maxHeartbeats 1000000 in
set_option maxRecDepth 100000 in
theorem get_err_b (t : Value) (pr fd e : Int) (w : World) (he : (e != 0) = true) (hA : ∀ w', Below w.heap.size w w' → Calls Try.prog 29 #[t, .int .i64 pr, .int .i64 fd] w' fun r w'' => r = .returned (.tuple #[.pointer none, .int .i64 e]) ∧ w'' = w') :
    Calls Try.prog 13 #[t, .int .i64 pr, .int .i64 fd] w fun r w' => r = .returned (.tuple #[.agg zF, .int .i64 e]) ∧ Below w.heap.size w w' := by
  have hSt := St.start w
  go_enter Try.func13, Try.ntmps13
  go_wp2_with (first
    | ((with_reducible refine ev_alloc hSt (by first | exact zPg | exact zHd | exact zHr | exact zX1 | exact zX2 | exact zX3 | exact zX4) ?_); refine ⟨rfl, ?_⟩; intro gN wN hSt; (simp only [Act.put, List.setIfInBounds_toArray, List.set_cons_succ, List.set_cons_zero]))
    | ((with_reducible refine ev_store hSt aX1 ?_); (first | refine ⟨rfl, _, [], _, _, _, rfl, rfl, rfl, rfl, rfl, (by simp [zF, fv, Value.oneCell']), ?_⟩ | refine ⟨rfl, _, [_], _, _, _, rfl, rfl, rfl, rfl, rfl, (by simp [zF, fv, Value.oneCell']), ?_⟩); intro wN hSt; simp only [List.nil_append, List.cons_append] at hSt; simp only [Act.put])
    | (go_at_call 29; refine (hA _ hSt.base).mono ?_; rintro e w1 ⟨rfl, rfl⟩))
  refine bodyPost_ret (pcell_tmp rfl aX1 _ rfl (hSt.blk (by repeat (first | exact List.mem_cons_self .. | refine List.mem_cons_of_mem _ ?_))) rfl) rfl ?_
  exact ⟨rfl, hSt.base⟩

set_option maxHeartbeats 1000000 in
set_option maxRecDepth 100000 in
theorem close_err_b (t : Value) (pr fd e : Int) (w : World) (he : (e == 0) = false) (hG : ∀ w', Below w.heap.size w w' → Calls Try.prog 13 #[t, .int .i64 pr, .int .i64 fd] w' fun r w'' => r = .returned (.tuple #[.agg zF, .int .i64 e]) ∧ Below w'.heap.size w' w'') :
    Calls Try.prog 10 #[t, .int .i64 pr, .int .i64 fd] w fun r w' => r = .returned (.tuple #[.agg zF, .int .i64 e]) ∧ Below w.heap.size w w' := by
  have hSt := St.start w
  go_enter Try.func10, Try.ntmps10
  go_wp2_with (first
    | ((with_reducible refine ev_alloc hSt (by first | exact zPg | exact zHd | exact zHr | exact zX1 | exact zX2 | exact zX3 | exact zX4) ?_); refine ⟨rfl, ?_⟩; intro gN wN hSt; (simp only [Act.put, List.setIfInBounds_toArray, List.set_cons_succ, List.set_cons_zero]))
    | ((with_reducible refine ev_store hSt aX1 ?_); (first | refine ⟨rfl, _, [], _, _, _, rfl, rfl, rfl, rfl, rfl, (by simp [zF, fv, Value.oneCell']), ?_⟩ | refine ⟨rfl, _, [_], _, _, _, rfl, rfl, rfl, rfl, rfl, (by simp [zF, fv, Value.oneCell']), ?_⟩); intro wN hSt; simp only [List.nil_append, List.cons_append] at hSt; simp only [Act.put])
    | ((with_reducible refine ev_load hSt aX1 ?_); refine ⟨rfl, _, _, _, rfl, (by repeat (first | exact List.mem_cons_self .. | refine List.mem_cons_of_mem _ ?_)), rfl, ?_⟩; (simp only [Act.put, List.setIfInBounds_toArray, List.set_cons_succ, List.set_cons_zero]))
    | (go_at_call 13; refine (hG _ hSt.base).mono ?_; rintro e w1 ⟨rfl, hb9⟩; replace hSt := hSt.ext hb9))
  refine bodyPost_ret (pcell_tmp rfl aX1 _ rfl (hSt.blk (by repeat (first | exact List.mem_cons_self .. | refine List.mem_cons_of_mem _ ?_))) rfl) rfl ?_
  exact ⟨rfl, hSt.base⟩

theorem at_none (tb pr i : Nat) (h1 : 1 ≤ pr) (h2 : pr ≤ 4) (hi : i < 8) (p : Nat → Option Nat) (f : Nat → FileT) (w : World) (hT : Tab w tb p f) (hp : p (8 * (pr - 1) + i) = none) :
    Calls Try.prog 29 #[.pointer (some ⟨tb, 0, none⟩), .int .i64 pr, .int .i64 i] w fun r w' => r = .returned (.tuple #[.pointer none, .int .i64 9]) ∧ w' = w := by
  have := at_in tb pr i h1 h2 hi p f w hT
  rw [hp] at this
  exact this
theorem at_some (tb pr i : Nat) (h1 : 1 ≤ pr) (h2 : pr ≤ 4) (hi : i < 8) (p : Nat → Option Nat) (f : Nat → FileT) (g : Nat) (w : World) (hT : Tab w tb p f) (hp : p (8 * (pr - 1) + i) = some g) :
    Calls Try.prog 29 #[.pointer (some ⟨tb, 0, none⟩), .int .i64 pr, .int .i64 i] w fun r w' => r = .returned (.tuple #[.pointer (some ⟨g, 0, none⟩), .int .i64 0]) ∧ w' = w := by
  have := at_in tb pr i h1 h2 hi p f w hT
  rw [hp] at this
  exact this
theorem get_some (tb pr i : Nat) (h1 : 1 ≤ pr) (h2 : pr ≤ 4) (hi : i < 8) (p : Nat → Option Nat) (f : Nat → FileT) (g : Nat) (w : World) (hT : Tab w tb p f) (hp : p (8 * (pr - 1) + i) = some g) :
    Calls Try.prog 13 #[.pointer (some ⟨tb, 0, none⟩), .int .i64 pr, .int .i64 i] w fun r w' => r = .returned (.tuple #[.agg (fv (f (8 * (pr - 1) + i))), .int .i64 0]) ∧ Below w.heap.size w w' :=
  get_ok _ _ _ g _ w (hT.file _ g (by omega) hp).1 (fun w2 hb2 => at_some tb pr i h1 h2 hi p f g w2 (hT.ext hb2) hp)
/-- Get, whatever is asked. -/
theorem get_any (tb : Nat) (pr fd : Int) (p : Nat → Option Nat) (f : Nat → FileT) (w : World) (hT : Tab w tb p f) :
    Calls Try.prog 13 #[.pointer (some ⟨tb, 0, none⟩), .int .i64 pr, .int .i64 fd] w fun r w' => ∃ (x : FileT) (e : Int), r = .returned (.tuple #[.agg (fv x), .int .i64 e]) ∧ Below w.heap.size w w' := by
  by_cases hp : 1 ≤ pr ∧ pr ≤ 4
  · obtain ⟨q, rfl⟩ := Int.eq_ofNat_of_zero_le (by omega : 0 ≤ pr)
    by_cases hf : 0 ≤ fd ∧ fd < 8
    · obtain ⟨i, rfl⟩ := Int.eq_ofNat_of_zero_le hf.1
      have hi : i < 8 := by omega
      cases hq : p (8 * (q - 1) + i) with
      | none => exact (get_err_b _ q i 9 w rfl (fun w3 hb3 => at_none tb q i (by omega) (by omega) hi p f w3 (hT.ext hb3) hq)).mono fun r w' ⟨h1, h2⟩ => ⟨(0, 0, 0, 0), 9, h1, h2⟩
      | some g => exact (get_some tb q i (by omega) (by omega) hi p f g w hT hq).mono fun r w' ⟨h1, h2⟩ => ⟨_, 0, h1, h2⟩
    · exact (get_err _ q fd 9 w rfl (fun w3 => at_out tb q (by omega) (by omega) fd hf w3)).mono fun r w' ⟨h1, h2⟩ => ⟨(0, 0, 0, 0), 9, h1, h2⟩
  · exact (get_err _ pr fd 22 w rfl (fun w3 => at_norow _ pr fd w3 (fun w4 => row_no _ pr hp w4))).mono fun r w' ⟨h1, h2⟩ => ⟨(0, 0, 0, 0), 22, h1, h2⟩
theorem close_any (tb B : Nat) (hB : B ≤ tb) (pr fd : Int) (p : Nat → Option Nat) (f : Nat → FileT) (w : World) (hT : Tab w tb p f) (hBw : B ≤ w.heap.size) :
    Calls Try.prog 10 #[.pointer (some ⟨tb, 0, none⟩), .int .i64 pr, .int .i64 fd] w fun r w' => ∃ v p' f', r = .returned v ∧ Tab w' tb p' f' ∧ Below B w w' ∧ KB tb w w' := by
  have low : ∀ (r : Ending) (w' : World) (v : Value), r = .returned v → Below w.heap.size w w' → ∃ v p' f', r = .returned v ∧ Tab w' tb p' f' ∧ Below B w w' ∧ KB tb w w' := fun r w' v hr hb => ⟨v, p, f, hr, hT.ext hb, hb.mono hBw, KB.of hb⟩
  by_cases hp : 1 ≤ pr ∧ pr ≤ 4
  · obtain ⟨q, rfl⟩ := Int.eq_ofNat_of_zero_le (by omega : 0 ≤ pr)
    by_cases hf : 0 ≤ fd ∧ fd < 8
    · obtain ⟨i, rfl⟩ := Int.eq_ofNat_of_zero_le hf.1
      have hi : i < 8 := by omega
      cases hq : p (8 * (q - 1) + i) with
      | none =>
        exact (close_err_b _ q i 9 w rfl (fun w2 hb2 => get_err_b _ q i 9 w2 rfl (fun w3 hb3 => at_none tb q i (by omega) (by omega) hi p f w3 ((hT.ext hb2).ext hb3) hq))).mono fun r w' ⟨h1, h2⟩ => low r w' _ h1 h2
      | some g =>
        refine (close_ok tb q i B hB (by omega) (by omega) hi p f g w hT hq).mono ?_
        rintro r w' ⟨h1, h2, h3, h4⟩
        exact ⟨_, _, _, h1, h2, h3, h4⟩
    · exact (close_err _ q fd 9 w rfl (fun w2 => get_err _ q fd 9 w2 rfl (fun w3 => at_out tb q (by omega) (by omega) fd hf w3))).mono fun r w' ⟨h1, h2⟩ => low r w' _ h1 h2
  · exact (close_err _ pr fd 22 w rfl (fun w2 => get_err _ pr fd 22 w2 rfl (fun w3 => at_norow _ pr fd w3 (fun w4 => row_no _ pr hp w4)))).mono fun r w' ⟨h1, h2⟩ => low r w' _ h1 h2
end Go.Proofs.Ytfacegnnmgmjmaa
