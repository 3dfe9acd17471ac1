/- Chapter 28, the reference: Open, Close, Move, walked. -/
import Derived.Test.YtfacegnnmgmjmaaPlyB
namespace Go.Proofs.Ytfacegnnmgmjmaa
open Go.RowKit
set_option linter.unusedSimpArgs false
set_option linter.unusedVariables false

theorem mixed28 : Try.prog.follows .mixedOrders = true := by kernel_rfl
theorem sBool : (Try.prog.info? 4).map (·.size) = some 1 := by kernel_rfl
theorem sInt28 : (Try.prog.info? 3).map (·.size) = some 1 := by kernel_rfl
theorem rfv_on {w0 w : World} {g : Nat} {l : List (Nat × Obj)} {y : FileT} (h : St w0 ((g, .cells ((rfv (some y)).setIfInBounds 4 (.bool true)) 43 (0, 0)) :: l) w) : St w0 ((g, .cells (rfv (some y)) 43 (0, 0)) :: l) w := h
theorem RTab.set {w : World} {rb B : Nat} {q : QT} (h : RTab w rb q) (hB : B ≤ rb) (q' : QT) : RTab (w.setRow rb (qc q')) rb q' ∧ Below B w (w.setRow rb (qc q')) ∧ KB rb w (w.setRow rb (qc q')) := by
  have hoth : ∀ k, k ≠ rb → (w.setRow rb (qc q')).heap[k]? = w.heap[k]? := fun k hk => setRow_other w rb k _ hk
  exact ⟨setRow_heap w rb _ _ _ _ h, ⟨rfl, rfl, rfl, by simp, fun k hk => hoth k (by omega)⟩, fun k ob hk hn => (hoth k hn).trans hk⟩
section
variable {ops : Array Oper} {rest : List Oper} {Q : Exit → Act → World → Prop} {tmps : Array Value} {df : List Deferred} {d ty t u : Nat} {x : Operand} {ps : String} {af : Array Edge} {gd : Option (Nat × Bool)} {w : World}
theorem ev_rstore {rb s : Nat} {q : QT} (hT : RTab w rb q) (hs : s < 32) (h : Region.wanted ⟨none, .store 43 (.tmp t) x, ty, ps, af, gd⟩ (yielded ops tmps) = true ∧ ∃ o u,
      tmps.getD t undef = .pointer (some ⟨rb, o, none⟩) ∧ o = 5 * s ∧ Act.eval ⟨tmps, df⟩ x = .agg (rfv u) ∧ wpList Try.prog ops Q rest (Act.put ⟨tmps, df⟩ none undef) (w.setRow rb (qc (updQ q s u)))) :
    wpList Try.prog ops Q (⟨none, .store 43 (.tmp t) x, ty, ps, af, gd⟩ :: rest) ⟨tmps, df⟩ w := by
  obtain ⟨hw, o, u, hx, rfl, hy, h⟩ := h
  refine wpl_run_skip hw ?_ h
  have hx' : Act.eval ⟨tmps, df⟩ (.tmp t) = .pointer (some ⟨rb, 5 * s, none⟩) := hx
  have hst := run_storeCells_at Try.prog rb (5 * s) _ (rfv u).toList 0 (qc q) w hT (by rw [Array.length_toList, qc_size]; show 5 * s + 0 + 5 ≤ 160; omega) (fun v hv => by
    have := rfv_one u
    rw [Array.all_eq_true'] at this
    exact this v (by simpa using hv))
  rw [Nat.add_zero, Array.length_toList] at hst
  have hst2 : (storeCells ⟨rb, 5 * s, none⟩ (rfv u).toList 0).run Try.prog w = .ok () (w.setRow rb (qc (updQ q s u))) := by
    rw [← qc_store q s u hs]
    exact hst
  obtain ⟨inf, hq, hsz⟩ := Option.map_eq_some_iff.1 aX5.2
  have hc : (Value.agg (rfv u)).cells = rfv u := by simp [Value.cells]
  have hr : (storeVar 43 ⟨rb, 5 * s, none⟩ (.agg (rfv u))).run Try.prog w = .ok () (w.setRow rb (qc (updQ q s u))) := by
    simp [storeVar, sizeOf, typeInfo, hq, hc, hsz, hst2, rfv_size]
  simp only [execOp, hx', hy, Instr.storeAt, Instr.sureAddr, Sem.run_bind, Sem.run_pure, Result.andThen_ok, hr]
end
set_option maxHeartbeats 2000000 in
set_option maxRecDepth 100000 in
theorem ropen_no (t : Value) (P i e : Int) (he : (e == 0) = false) (y : FileT) (w : World) (hS : ∀ w', Below w.heap.size w w' → Calls Try.prog 23 #[t, .int .i64 P] w' fun r w'' => r = .returned (.tuple #[.int .i64 i, .int .i64 e]) ∧ w'' = w') :
    Calls Try.prog 17 #[t, .int .i64 P, .agg (rfv (some y))] w fun r w' => r = .returned (.tuple #[.int .i64 i, .int .i64 e]) ∧ Below w.heap.size w w' := by
  have hSt := St.start w
  go_enter Try.func17, Try.ntmps17
  go_wp2_with (first | ((with_reducible refine ev_box hSt ?_); refine ⟨rfl, _, rfl, ?_⟩; intro gN wN hSt; (simp only [Act.put, List.setIfInBounds_toArray, List.set_cons_succ, List.set_cons_zero])) | (go_at_call 23; refine (hS _ hSt.base).mono ?_; rintro r w8 ⟨rfl, rfl⟩))
  go_ret2
  exact ⟨rfl, hSt.base⟩
set_option maxHeartbeats 4000000 in
set_option maxRecDepth 100000 in
theorem ropen_yes (rb r k B : Nat) (P : Int) (hr : r < 4) (hP : P = (r : Int) + 1) (hk : k < 8) (hB : B ≤ rb) (y : FileT) (q : QT) (w : World) (hBw : B ≤ w.heap.size) (hT : RTab w rb q)
    (hS : ∀ w, RTab w rb q → Calls Try.prog 23 #[.pointer (some ⟨rb, 0, none⟩), .int .i64 P] w fun e w' => e = .returned (.tuple #[.int .i64 k, .int .i64 0]) ∧ w' = w) :
    Calls Try.prog 17 #[.pointer (some ⟨rb, 0, none⟩), .int .i64 P, .agg (rfv (some y))] w fun e w' => e = .returned (.tuple #[.int .i64 k, .int .i64 0]) ∧ RTab w' rb (updQ q (8 * r + k) (some y)) ∧ Below B w w' ∧ KB rb w w' := by
  have hSt := St.start w
  obtain ⟨hr', hw, e1, e2⟩ := proc_facts hr hP
  have hk' : (k : Int) < 8 := by omega
  have hs32 : 8 * r + k < 32 := by omega
  have hoff : r * 40 + k * 5 = 5 * (8 * r + k) := by omega
  have HO := Lib.hid (And.intro hs32 hoff)
  clear hs32 hoff hP e1 e2
  go_enter Try.func17, Try.ntmps17
  go_upto_region 3 with (first | ((with_reducible refine ev_box hSt ?_); refine ⟨rfl, _, rfl, ?_⟩; intro gN wN hSt; (simp only [Act.put, List.setIfInBounds_toArray, List.set_cons_succ, List.set_cons_zero])) | (go_at_call 23; refine (hS _ (hT.ext hSt.base)).mono ?_; rintro e w8 ⟨rfl, rfl⟩))
  go_upto_region 4 with (first | ((with_reducible refine ev_store1 hSt sBool ?_); refine ⟨rfl, _, _, [], _, _, _, .bool true, rfl, rfl, rfl, (by show 4 < 5; decide), rfl, ?_⟩; intro wN hSt; simp only [List.nil_append] at hSt; replace hSt := rfv_on hSt; simp only [Act.put]))
  refine wp_region_rel (S := fun w' => St w _ w') [19, 20, 21, 22, 23, 24, 25, 26, 27] mixed28 (by kernel_rfl) (by kernel_rfl) (by decide) (by kernel_rfl) (fun _ _ h k => h.ext k) hSt.drew ?_
  clear hSt
  iterate 9 (refine rel_eq (v := ?_) ?_ ?_; rotate_left; (focus ((simp only [Lay, List.nil_append, List.cons_append, List.setIfInBounds_toArray, List.set_cons_succ, List.set_cons_zero]; intros; rename_i w9 hS hF; simp only [FactsE, List.nil_append, List.cons_append, List.toList_toArray, List.getElem?_cons_succ, List.getElem?_cons_zero] at hF; try (repeat (first | obtain ⟨rfl, hF⟩ := hF | obtain ⟨-, hF⟩ := hF))); refine step_take rfl (of_decide_eq_true rfl) ?_; have hSt := hS; go_wp2_with (first | ((with_reducible refine ev_load hSt aX5 ?_); refine ⟨rfl, _, _, _, rfl, (by repeat (first | exact List.mem_cons_self .. | refine List.mem_cons_of_mem _ ?_)), rfl, ?_⟩; (simp only [Act.put, List.setIfInBounds_toArray, List.set_cons_succ, List.set_cons_zero]))); refine RQ_mk rfl ?_ ?_; (focus first | exact hb9 | exact Below.refl _ _); (focus (first | (simp only [Array.getD_eq_getD_getElem?, List.getElem?_toArray, List.getElem?_cons_succ, List.getElem?_cons_zero, Option.getD_some]; done) | (simp only [Array.getD_eq_getD_getElem?, List.getElem?_toArray, List.getElem?_cons_succ, List.getElem?_cons_zero, Option.getD_some]; rfl) | rfl)))))
  refine rel_end ?_
  (simp only [Lay, List.nil_append, List.cons_append, List.setIfInBounds_toArray, List.set_cons_succ, List.set_cons_zero]; intros; rename_i w9 hS hF; simp only [FactsA, List.nil_append, List.cons_append] at hF; try (repeat (first | obtain ⟨rfl, hF⟩ := hF | obtain ⟨-, hF⟩ := hF)))
  have hSt := hS
  have hT2 := hT.ext hSt.base
  have hs32 := HO.out.1
  have hoff := HO.out.2
  have hset := hT2.set hB (updQ q (8 * r + k) (some y))
  go_wp2_with (first | ((with_reducible refine ev_rstore hT2 hs32 ?_); refine ⟨rfl, _, _, rfl, hoff, rfl, ?_⟩; simp only [Act.put]))
  go_ret2
  exact ⟨rfl, hset.1, (hSt.base.mono hBw).trans hset.2.1, (KB.of hSt.base).trans hset.2.2⟩
end Go.Proofs.Ytfacegnnmgmjmaa
