/- Chapter 17: Get, Use, Len, All, New, Clear; and of a map that isn't there. -/
import Derived.Test.YteohokidlopbnaaMapG
import Derived.Laws.ResultCell
namespace Go.Proofs.Yteohokidlopbnaa
open Go.RowKit
set_option linter.unusedSimpArgs false
set_option linter.unusedVariables false

theorem vvs_all (v : ValT) : (vvs v).all (·.oneCell') = true := by simp [vvs, Value.oneCell']
abbrev zV : ValT := (0, 0, 0, 0)
theorem pcell_tmp {P : Program} {fn : Func} {p u : Tmp} {ty : TypeId} {n : Nat} (h : fn.results = #[.cell p ty, .tmp u]) (hT : AggT P ty n)
    (tmps : Array Value) {w : World} {g : Nat} {cs : Array Value} {T' : TypeId} {fr : Nat × Nat} (hp : tmps.getD p undef = .pointer (some ⟨g, 0, none⟩)) (hg : w.heap[g]? = some (.cells cs T' fr)) (hn : cs.size = n) :
    (results fn tmps).run P w = .ok (.tuple #[.agg cs, tmps.getD u undef]) w := by
  have hp' : tmps[p]?.getD undef = .pointer (some ⟨g, 0, none⟩) := by simpa using hp
  simp [results, h, hp', asAddr, run_load_agg hT hg hn]
theorem run_zval (w : World) : (Instr.build 30 #[]).run Try.prog w = .ok (.agg (vvs zV)) w := by kernel_rfl
section
variable {ops : Array Oper} {rest : List Oper} {Q : Exit → Act → World → Prop} {tmps : Array Value} {df : List Deferred} {d ty t u : Nat} {ps : String} {af : Array Edge} {gd : Option (Nat × Bool)} {w : World}
theorem ev_zval (h : Region.wanted ⟨some d, .build 30 #[], ty, ps, af, gd⟩ (yielded ops tmps) = true ∧ wpList Try.prog ops Q rest (Act.put ⟨tmps, df⟩ (some d) (.agg (vvs zV))) w) :
    wpList Try.prog ops Q (⟨some d, .build 30 #[], ty, ps, af, gd⟩ :: rest) ⟨tmps, df⟩ w := by
  obtain ⟨hw, h⟩ := h
  refine wpl_run hw ?_ h
  simp only [execOp, Array.map_empty]
  simp only [Sem.run_bind, run_zval, Result.andThen_ok, Sem.run_pure]
theorem ev_valat (h : Region.wanted ⟨some d, .load 30 (.tmp t), ty, ps, af, gd⟩ (yielded ops tmps) = true ∧ ∃ x v,
      tmps.getD t undef = .pointer (some x) ∧ (∀ j u, (vvs v)[j]? = some u → w.cell? (x.add j) = some u) ∧ wpList Try.prog ops Q rest (Act.put ⟨tmps, df⟩ (some d) (.agg (vvs v))) w) :
    wpList Try.prog ops Q (⟨some d, .load 30 (.tmp t), ty, ps, af, gd⟩ :: rest) ⟨tmps, df⟩ w := by
  obtain ⟨hw, x, f, hx, hg, h⟩ := h
  refine wpl_run hw ?_ h
  have hx' : Act.eval ⟨tmps, df⟩ (.tmp t) = .pointer (some x) := hx
  have hr := run_loadVar_at (P := Try.prog) w x 30 (vvs f).toList _ (fun j v hv => hg j v (by simpa using hv)) Try.underlying30 rfl (by rw [aX1.2]; rfl)
  simp only [execOp, hx', Instr.loadAt, Instr.sureAddr, Sem.run_bind, Sem.run_pure, Result.andThen_ok, hr]
end

set_option maxHeartbeats 1000000 in
set_option maxRecDepth 100000 in
theorem get_no (m : Value) (key : Int) (w : World) (hF0 : ∀ w', Below w.heap.size w w' → Calls Try.prog 24 #[m, .int .i64 key] w' fun e w'' => e = .returned (.int .i64 (-1)) ∧ Below w'.heap.size w' w'') :
    Calls Try.prog 9 #[m, .int .i64 key] w fun e w' => e = .returned (.tuple #[.agg (vvs zV), .bool false]) ∧ Below w.heap.size w w' := by
  have hSt := St.start w
  go_enter Try.func9, Try.ntmps9
  go_wp2_with (first | ((with_reducible refine ev_alloc hSt zX1 ?_); refine ⟨rfl, ?_⟩; intro gN wN hSt; (simp only [Act.put, List.setIfInBounds_toArray, List.set_cons_succ, List.set_cons_zero])) | ((with_reducible refine ev_zval ?_); refine ⟨rfl, ?_⟩; (simp only [Act.put, List.setIfInBounds_toArray, List.set_cons_succ, List.set_cons_zero])) | ((with_reducible refine ev_store hSt aX1 ?_); (first | refine ⟨rfl, _, [], _, _, _, rfl, rfl, rfl, rfl, rfl, vvs_all _, ?_⟩ | refine ⟨rfl, _, [_], _, _, _, rfl, rfl, rfl, rfl, rfl, vvs_all _, ?_⟩ | refine ⟨rfl, _, [_, _], _, _, _, rfl, rfl, rfl, rfl, rfl, vvs_all _, ?_⟩); intro wN hSt; simp only [List.nil_append, List.cons_append] at hSt; simp only [Act.put]) | (go_at_call 24; refine (hF0 _ hSt.base).mono ?_; rintro e w1 ⟨rfl, hb9⟩; replace hSt := hSt.ext hb9))
  refine bodyPost_ret (pcell_tmp rfl aX1 _ rfl (hSt.blk (by repeat (first | exact List.mem_cons_self .. | refine List.mem_cons_of_mem _ ?_))) rfl) rfl ?_
  exact ⟨rfl, hSt.base⟩
theorem get_nil (key : Int) (w : World) :
    Calls Try.prog 9 #[.pointer none, .int .i64 key] w fun e w' => e = .returned (.tuple #[.agg (vvs zV), .bool false]) ∧ Below w.heap.size w w' := get_no _ key w fun w' _ => find_nil key w'

set_option maxHeartbeats 1000000 in
set_option maxRecDepth 100000 in
theorem get_yes (B g i : Nat) (v0 : Value) (K R key : Int) (es : List EntT) (w : World) (hM : Mp w B g v0 K R es) (hn : es.length ≤ 1000) (hfi : findI es key = some i) (hi : i < es.length) :
    Calls Try.prog 9 #[.pointer (some ⟨g, 0, none⟩), .int .i64 key] w fun e w' => e = .returned (.tuple #[.agg (vvs es[i].2), .bool true]) ∧ Below w.heap.size w w' := by
  have hFnd := fun w hM => find_is B g v0 K R key es w hM hn
  rw [hfi] at hFnd
  obtain ⟨a0, c0, hv0, hc0, hl0⟩ := hM.slice
  subst hv0
  obtain ⟨h, cap', cur, hc, hhB, hgc, hcap, hcm, hcs, htk⟩ := hM.row.2.resolve_left (fun e => by have := e.2; omega)
  cases hc
  obtain ⟨x, hx, hat⟩ := hl0 i hi
  cases hx
  rw [Addr.add_lit, Nat.zero_add] at hat
  have hI0 : decide ((i : Int) < 0) = false := decide_eq_false (by omega)
  have hi' : (i : Int) < es.length := by omega
  have hvat : ∀ w', Below w.heap.size w w' → ∀ j u, (vvs es[i].2)[j]? = some u → w'.cell? ((⟨h, i * 5 + 1, none⟩ : Addr).add j) = some u := fun w' hb j u hu => by
    have hj : j < 4 := (Array.getElem?_eq_some_iff.1 hu).1
    have := (hat.ext hb) (j + 1) u (by rw [← hu]; match j, hj with | 0, _ => rfl | 1, _ => rfl | 2, _ => rfl | 3, _ => rfl)
    rw [Addr.add_lit] at this ⊢
    rw [← this]
    congr 2
    omega
  have hVH := Lib.hid hvat
  have hSt := St.start w
  simp only [idxV] at hFnd
  clear hl0 hvat hat
  go_enter Try.func9, Try.ntmps9
  go_wp2_with (first
    | ((with_reducible refine ev_alloc hSt zX1 ?_); refine ⟨rfl, ?_⟩; intro gN wN hSt; (simp only [Act.put, List.setIfInBounds_toArray, List.set_cons_succ, List.set_cons_zero])) | ((with_reducible refine ev_store hSt aX1 ?_); (first | refine ⟨rfl, _, [], _, _, _, rfl, rfl, rfl, rfl, rfl, vvs_all _, ?_⟩ | refine ⟨rfl, _, [_], _, _, _, rfl, rfl, rfl, rfl, rfl, vvs_all _, ?_⟩ | refine ⟨rfl, _, [_, _], _, _, _, rfl, rfl, rfl, rfl, rfl, vvs_all _, ?_⟩); intro wN hSt; simp only [List.nil_append, List.cons_append] at hSt; simp only [Act.put]) | ((with_reducible refine ev_load1_blk oSl ?_); refine ⟨rfl, _, _, _, _, _, rfl, blk_of hSt.base hM.blk, mpc2 _ _ _, ?_⟩; (simp only [Act.put, List.setIfInBounds_toArray, List.set_cons_succ, List.set_cons_zero]))
    | (go_at_call 24; refine (hFnd _ (hM.ext hSt.base)).mono ?_; rintro e w1 ⟨rfl, hb9⟩; replace hSt := hSt.ext hb9)
    | ((with_reducible refine ev_valat ?_); refine ⟨rfl, _, _, rfl, hVH.out _ hSt.base, ?_⟩; (simp only [Act.put, List.setIfInBounds_toArray, List.set_cons_succ, List.set_cons_zero])))
  refine bodyPost_ret (pcell_tmp rfl aX1 _ rfl (hSt.blk (by repeat (first | exact List.mem_cons_self .. | refine List.mem_cons_of_mem _ ?_))) rfl) rfl ?_
  exact ⟨rfl, hSt.base⟩

theorem get_mp (B g : Nat) (v0 : Value) (K R key : Int) (es : List EntT) (w : World) (hM : Mp w B g v0 K R es) (hn : es.length ≤ 1000) (hfi : findI es key = none) :
    Calls Try.prog 9 #[.pointer (some ⟨g, 0, none⟩), .int .i64 key] w fun e w' => e = .returned (.tuple #[.agg (vvs zV), .bool false]) ∧ Below w.heap.size w w' := get_no _ key w fun w' hb => by
  have := find_is B g v0 K R key es w' (hM.ext hb) hn
  rw [hfi] at this
  exact this

set_option maxHeartbeats 1000000 in
set_option maxRecDepth 100000 in
/-- Use, where the key isn't. -/
theorem use_no (m : Value) (key : Int) (w : World) (hG0 : ∀ w', Below w.heap.size w w' → Calls Try.prog 9 #[m, .int .i64 key] w' fun e w'' => e = .returned (.tuple #[.agg (vvs zV), .bool false]) ∧ Below w'.heap.size w' w'') :
    Calls Try.prog 21 #[m, .int .i64 key] w fun e w' => e = .returned (.tuple #[.agg (vvs zV), .bool false]) ∧ Below w.heap.size w w' := by
  have hSt := St.start w
  go_enter Try.func21, Try.ntmps21
  go_wp2_with (first
    | ((with_reducible refine ev_alloc hSt zX1 ?_); refine ⟨rfl, ?_⟩; intro gN wN hSt; (simp only [Act.put, List.setIfInBounds_toArray, List.set_cons_succ, List.set_cons_zero])) | ((with_reducible refine ev_zval ?_); refine ⟨rfl, ?_⟩; (simp only [Act.put, List.setIfInBounds_toArray, List.set_cons_succ, List.set_cons_zero])) | ((with_reducible refine ev_store hSt aX1 ?_); (first | refine ⟨rfl, _, [], _, _, _, rfl, rfl, rfl, rfl, rfl, vvs_all _, ?_⟩ | refine ⟨rfl, _, [_], _, _, _, rfl, rfl, rfl, rfl, rfl, vvs_all _, ?_⟩ | refine ⟨rfl, _, [_, _], _, _, _, rfl, rfl, rfl, rfl, rfl, vvs_all _, ?_⟩); intro wN hSt; simp only [List.nil_append, List.cons_append] at hSt; simp only [Act.put]) | ((with_reducible refine ev_load hSt aX1 ?_); refine ⟨rfl, _, _, _, rfl, (by repeat (first | exact List.mem_cons_self .. | refine List.mem_cons_of_mem _ ?_)), rfl, ?_⟩; (simp only [Act.put, List.setIfInBounds_toArray, List.set_cons_succ, List.set_cons_zero]))
    | (go_at_call 9; refine (hG0 _ hSt.base).mono ?_; rintro e w1 ⟨rfl, hb9⟩; replace hSt := hSt.ext hb9))
  refine bodyPost_ret (pcell_tmp rfl aX1 _ rfl (hSt.blk (by repeat (first | exact List.mem_cons_self .. | refine List.mem_cons_of_mem _ ?_))) rfl) rfl ?_
  exact ⟨rfl, hSt.base⟩
theorem use_nil (key : Int) (w : World) :
    Calls Try.prog 21 #[.pointer none, .int .i64 key] w fun e w' => e = .returned (.tuple #[.agg (vvs zV), .bool false]) ∧ Below w.heap.size w w' := use_no _ key w fun w' _ => get_nil key w'

set_option maxHeartbeats 1000000 in
set_option maxRecDepth 100000 in
theorem put_nil (key : Int) (v : ValT) (w : World) :
    Calls Try.prog 8 #[.pointer none, .int .i64 key, .agg (vvs v)] w fun e w' => e = .returned (.int .i64 22) ∧ Below w.heap.size w w' := by
  have hSt := St.start w
  go_enter Try.func8, Try.ntmps8
  go_wp2_with (first
    | ((with_reducible refine ev_box hSt ?_); refine ⟨rfl, _, rfl, ?_⟩; intro gV wN hSt; (simp only [Act.put, List.setIfInBounds_toArray, List.set_cons_succ, List.set_cons_zero])))
  go_ret
  exact ⟨rfl, hSt.base⟩

set_option maxHeartbeats 1000000 in
set_option maxRecDepth 100000 in
theorem word_nil (key i n : Int) (w : World) :
    Calls Try.prog 22 #[.pointer none, .int .i64 key, .int .i64 i, .int .i64 n] w fun e w' => e = .returned (.int .i64 22) ∧ Below w.heap.size w w' := by
  have hSt := St.start w
  go_enter Try.func22, Try.ntmps22
  go_wp2_with (first
    | (go_at_call 24; refine (find_nil _ _).mono ?_; rintro e w1 ⟨rfl, hb9⟩; replace hSt := hSt.ext hb9))
  go_ret
  exact ⟨rfl, hSt.base⟩

set_option maxHeartbeats 1000000 in
set_option maxRecDepth 100000 in
theorem drop_nil (key : Int) (w : World) :
    Calls Try.prog 23 #[.pointer none, .int .i64 key] w fun e w' => e = .returned (.int .i64 2) ∧ Below w.heap.size w w' := by
  have hSt := St.start w
  go_enter Try.func23, Try.ntmps23
  go_wp2_with (first
    | (go_at_call 24; refine (find_nil _ _).mono ?_; rintro e w1 ⟨rfl, hb9⟩; replace hSt := hSt.ext hb9))
  go_ret
  exact ⟨rfl, hSt.base⟩

set_option maxHeartbeats 1000000 in
set_option maxRecDepth 100000 in
theorem clear_nil (w : World) :
    Calls Try.prog 20 #[.pointer none] w fun e w' => e = .returned (.tuple #[]) ∧ w' = w := by
  go_enter Try.func20, Try.ntmps20
  go_wp2
  go_end0
  exact ⟨rfl, rfl⟩

set_option maxHeartbeats 1000000 in
set_option maxRecDepth 100000 in
theorem all_nil (w : World) :
    Calls Try.prog 17 #[.pointer none] w fun e w' => e = .returned (.slice none 0 0) ∧ w' = w := by
  go_enter Try.func17, Try.ntmps17
  go_wp2
  go_ret
  exact ⟨rfl, rfl⟩

set_option maxHeartbeats 1000000 in
set_option maxRecDepth 100000 in
theorem len_nil (w : World) :
    Calls Try.prog 10 #[.pointer none] w fun e w' => e = .returned (.int .i64 0) ∧ w' = w := by
  go_enter Try.func10, Try.ntmps10
  go_wp2_with (first
    | (go_at_call 17; refine (all_nil _).mono ?_; rintro e w1 ⟨rfl, rfl⟩))
  go_ret
  exact ⟨rfl, rfl⟩

set_option maxHeartbeats 1000000 in
set_option maxRecDepth 100000 in
theorem at_nil (i : Int) (w : World) (hi : 0 ≤ i) :
    Calls Try.prog 13 #[.slice none 0 0, .int .i64 i] w fun e w' => e = .returned (.pointer none) ∧ w' = w := by
  have e1 : decide (i < 0) = false := decide_eq_false (by omega)
  have e2 : decide (i ≥ 0) = true := decide_eq_true (by omega)
  have e3 : decide (0 ≤ i) = true := decide_eq_true (by omega)
  go_enter Try.func13, Try.ntmps13
  go_wp2
  go_ret
  exact ⟨rfl, rfl⟩

set_option maxHeartbeats 1000000 in
set_option maxRecDepth 100000 in
theorem entries_nil (w : World) :
    Calls Try.prog 18 #[.slice none 0 0] w fun e w' => e = .returned (.int .i64 0) ∧ w' = w := by
  go_enter Try.func18, Try.ntmps18
  go_wp2
  refine wp_loop_rounds 1 ?_
  rw [rounds_succ]
  go_wp2
  go_ret
  exact ⟨rfl, rfl⟩
end Go.Proofs.Yteohokidlopbnaa
