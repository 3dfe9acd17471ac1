/- Chapter 17: the reference's New, At and without, walked. -/
import Derived.Test.YteohokidlopbnaaMkA
namespace Go.Proofs.Yteohokidlopbnaa
open Go.RowKit
set_option linter.unusedSimpArgs false
set_option linter.unusedVariables false

theorem run_newrm (L : Bool) (R : Int) (w : World) : (Instr.build 51 #[(0, .bool L), (1, .int .i64 R)]).run Try.prog w = .ok (.agg (rmc L R (.slice none 0 0))) w := by kernel_rfl
section
variable {ops : Array Oper} {rest : List Oper} {Q : Exit → Act → World → Prop} {tmps : Array Value} {df : List Deferred} {d ty t u : Nat} {ps : String} {af : Array Edge} {gd : Option (Nat × Bool)} {w : World}
theorem ev_newrm {x y : Operand} (h : Region.wanted ⟨some d, .build 51 #[(0, x), (1, y)], ty, ps, af, gd⟩ (yielded ops tmps) = true ∧ ∃ L R, Act.eval ⟨tmps, df⟩ x = .bool L ∧ Act.eval ⟨tmps, df⟩ y = .int .i64 R ∧
      wpList Try.prog ops Q rest (Act.put ⟨tmps, df⟩ (some d) (.agg (rmc L R (.slice none 0 0)))) w) :
    wpList Try.prog ops Q (⟨some d, .build 51 #[(0, x), (1, y)], ty, ps, af, gd⟩ :: rest) ⟨tmps, df⟩ w := by
  obtain ⟨hw, K, R, hx, hy, h⟩ := h
  refine wpl_run hw ?_ h
  have e : (#[(0, x), (1, y)] : Array (Nat × Operand)).map (fun z => (z.1, Act.eval ⟨tmps, df⟩ z.2)) = #[(0, .bool K), (1, .int .i64 R)] := by simp [hx, hy]
  simp only [execOp]
  rw [e]
  simp only [Sem.run_bind, run_newrm, Result.andThen_ok, Sem.run_pure]
end
section
variable {P : Program} {ops : Array Oper} {rest : List Oper} {Q : Exit → Act → World → Prop} {tmps : Array Value} {df : List Deferred} {d ty t u : Nat} {x : Operand} {ps : String} {af : Array Edge} {gd : Option (Nat × Bool)} {w : World} {T : TypeId}
theorem ev_load1_at (hT : OneT P T) (h : Region.wanted ⟨some d, .load T (.tmp t), ty, ps, af, gd⟩ (yielded ops tmps) = true ∧ ∃ a v,
      tmps.getD t undef = .pointer (some a) ∧ w.cell? a = some v ∧ wpList P ops Q rest (Act.put ⟨tmps, df⟩ (some d) v) w) :
    wpList P ops Q (⟨some d, .load T (.tmp t), ty, ps, af, gd⟩ :: rest) ⟨tmps, df⟩ w := by
  obtain ⟨hw, a, v, hx, hc, h⟩ := h
  refine wpl_run hw ?_ h
  have hx' : Act.eval ⟨tmps, df⟩ (.tmp t) = .pointer (some a) := hx
  simp [execOp, hx', Instr.loadAt, Instr.sureAddr, Sem.run_bind, loadVar, run_isAgg_false hT, hc]
end
set_option maxHeartbeats 1000000 in
set_option maxRecDepth 100000 in
theorem rnew_ok (K R : Int) (w : World) (hK : K = 1 ∨ K = 2) (h1 : 1 ≤ R) (h8 : R ≤ 8) :
    Calls Try.prog 12 #[.int .i64 K, .int .i64 R] w fun e w' => ∃ g, e = .returned (.pointer (some ⟨g, 0, none⟩)) ∧ Below w.heap.size w w' ∧ Rm w' w.heap.size g (.slice none 0 0) (K == 2) R [] := by
  have e1 : decide (R < 1) = false := decide_eq_false (by omega)
  have e2 : decide (R > 8) = false := decide_eq_false (by omega)
  have e3 : decide (8 < R) = false := decide_eq_false (by omega)
  have hSt := St.start w
  have fin : ∀ g w' L, St w [(g, .cells (rmc L R (.slice none 0 0)) 51 (0, 0))] w' → Rm w' w.heap.size g (.slice none 0 0) L R [] := fun g w' L h =>
    ⟨(h.own _ (List.mem_cons_self ..)).2, (h.own _ (List.mem_cons_self ..)).1, ⟨rfl, .inl ⟨rfl, rfl⟩⟩, fun e => by cases e⟩
  have hfin := Lib.hid fin
  clear fin
  rcases hK with rfl | rfl
  all_goals
    go_enter Try.func12, Try.ntmps12
    go_wp2_with (first
      | ((with_reducible refine ev_newrm ?_); refine ⟨rfl, _, _, rfl, rfl, ?_⟩; (simp only [Act.put, List.setIfInBounds_toArray, List.set_cons_succ, List.set_cons_zero]))
      | ((with_reducible refine ev_box hSt ?_); refine ⟨rfl, _, rfl, ?_⟩; intro gV wN hSt; (simp only [Act.put, List.setIfInBounds_toArray, List.set_cons_succ, List.set_cons_zero])))
    go_ret
    exact ⟨_, rfl, hSt.base, hfin.out _ _ _ hSt⟩
set_option maxHeartbeats 1000000 in
set_option maxRecDepth 100000 in
theorem rnew_no (K R : Int) (w : World) (h : newOk K R = false) :
    Calls Try.prog 12 #[.int .i64 K, .int .i64 R] w fun e w' => e = .returned (.pointer none) ∧ w' = w := by
  unfold newOk at h
  cases e1 : (K == 1) <;> cases e2 : (K == 2) <;> cases e3 : decide (R < 1) <;> cases e4 : decide (R > 8) <;> simp only [e1, e2, e3, e4, Bool.or_true, Bool.true_or, Bool.or_false, Bool.not_false, Bool.not_true, Bool.and_true, Bool.and_false, Bool.false_and, reduceCtorEq] at h
  all_goals
    have e5 : (K != 1) = !(K == 1) := rfl
    have e6 : (K != 2) = !(K == 2) := rfl
    rw [e1] at e5
    rw [e2] at e6
    simp only [Bool.not_true, Bool.not_false] at e5 e6
    go_enter Try.func12, Try.ntmps12
    go_wp2
    go_ret
    exact ⟨rfl, rfl⟩

set_option maxHeartbeats 1000000 in
set_option maxRecDepth 100000 in
/-- Where a key stands. -/
theorem rat_is (B r : Nat) (u : Value) (L : Bool) (R key : Int) (es : List EntT) (w : World) (hM : Rm w B r u L R es) (hn : es.length ≤ 100) :
    Calls Try.prog 27 #[.pointer (some ⟨r, 0, none⟩), .int .i64 key] w fun e w' => e = .returned (.int .i64 (idxV (findI es key))) ∧ w' = w := by
  obtain ⟨a, cap, rfl, hcap, -, hl, -⟩ := hM.row.sl
  have hbw := Below.refl w.heap.size w
  go_enter Try.func27, Try.ntmps27
  go_wp2
  go_loopw [5] (fun i wr => ∃ k : Nat, k ≤ es.length ∧ i = .int .i64 k ∧ wr = w ∧ ∀ j (h : j < es.length), j < k → (es[j].1 == key) = false) (fun i _ => es.length - (intOf i).toNat)
  case atStart => exact ⟨0, by omega, rfl, by first | trivial | rfl, fun j hj h => absurd h (by omega)⟩
  case round =>
    obtain ⟨k, hk0, rfl, rfl, hz⟩ := hrel
    have hz := Lib.hid hz
    by_cases h : k = es.length
    · subst h
      have hnone : findI es key = none := by
        unfold findI
        rw [List.findIdx?_eq_none_iff]
        intro x hx
        obtain ⟨j, hj, rfl⟩ := List.mem_iff_getElem.1 hx
        exact hz.out j hj hj
      have hnone := Lib.hid hnone
      go_wp2_with (first | ((with_reducible refine ev_load1_blk oSr ?_); refine ⟨rfl, _, _, _, _, _, rfl, blk_of hbw hM.blk, rmc2 _ _ _, ?_⟩; (simp only [Act.put, List.setIfInBounds_toArray, List.set_cons_succ, List.set_cons_zero])))
      go_ret
      rw [hnone.out]
      exact ⟨rfl, rfl⟩
    · have hlt : k < es.length := by omega
      have hlt' : (k : Int) < es.length := by omega
      obtain ⟨x, rfl, hat⟩ := hl k hlt
      cases hB : es[k].1 == key
      · have hB' := Lib.hid hB
        generalize hf : es[k] = f at hat hB
        have hf := Lib.hid hf
        go_wp2_with (first | ((with_reducible refine ev_load1_blk oSr ?_); refine ⟨rfl, _, _, _, _, _, rfl, blk_of hbw hM.blk, rmc2 _ _ _, ?_⟩; (simp only [Act.put, List.setIfInBounds_toArray, List.set_cons_succ, List.set_cons_zero])) | ((with_reducible refine ev_load1_at oInt ?_); refine ⟨rfl, _, _, rfl, hat 0 _ (evs0 _), ?_⟩; (simp only [Act.put, List.setIfInBounds_toArray, List.set_cons_succ, List.set_cons_zero])))
        refine ⟨⟨k + 1, by omega, by simp, by first | trivial | rfl, fun j hj hjk => ?_⟩, by simp only [intOf]; omega⟩
        rcases (by omega : j < k ∨ j = k) with h' | rfl
        · exact hz.out j hj h'
        · exact hB'.out
      · have hsome : findI es key = some k := by
          unfold findI
          rw [List.findIdx?_eq_some_iff_getElem]
          exact ⟨hlt, hB, fun j hj => by simpa using hz.out j (by omega) hj⟩
        have hsome := Lib.hid hsome
        generalize es[k] = f at hat hB
        go_wp2_with (first | ((with_reducible refine ev_load1_blk oSr ?_); refine ⟨rfl, _, _, _, _, _, rfl, blk_of hbw hM.blk, rmc2 _ _ _, ?_⟩; (simp only [Act.put, List.setIfInBounds_toArray, List.set_cons_succ, List.set_cons_zero])) | ((with_reducible refine ev_load1_at oInt ?_); refine ⟨rfl, _, _, rfl, hat 0 _ (evs0 _), ?_⟩; (simp only [Act.put, List.setIfInBounds_toArray, List.set_cons_succ, List.set_cons_zero])))
        go_ret
        rw [hsome.out]
        exact ⟨rfl, rfl⟩

/-- An empty row. -/
def EmpR (B : Nat) : VR := fun v w => ∃ g, v = .slice (some ⟨g, 0, none⟩) 0 0 ∧ B ≤ g ∧ w.heap[g]? = some (.cells #[] 68 (0, 0))
theorem empR_stable (B : Nat) : Stable (EmpR B) := fun _ _ _ ⟨g, h1, h2, h3⟩ hb => ⟨g, h1, h2, blk_of hb h3⟩
/-- A row of the call's own. -/
def OwnE (B n : Nat) (es : List EntT) : VR := fun v w => w.ownsRow B 68 5 v n (rowe es)
theorem ownE_stable (B n : Nat) (es : List EntT) : Stable (OwnE B n es) := fun v w w' h hb => row_below h hb

set_option maxHeartbeats 4000000 in
set_option maxRecDepth 100000 in
theorem rwithout_is (B r i : Nat) (u : Value) (L : Bool) (R : Int) (es : List EntT) (w : World) (hM : Rm w B r u L R es) (hn : es.length ≤ 100) (hi : i < es.length) :
    Calls Try.prog 28 #[.pointer (some ⟨r, 0, none⟩), .int .i64 i] w fun e w' => ∃ v', e = .returned v' ∧ RRow w' w.heap.size v' (es.eraseIdx i) ∧ Below w.heap.size w w' := by
  obtain ⟨a0, cap, rfl, hcap, -, hl, -⟩ := hM.row.sl
  obtain ⟨a, rfl, -⟩ := hl i hi
  have s1 := fun w => rl_to a es.length cap i (by omega) w
  have s2 := fun w => rl_from a es.length cap (i + 1) (by omega) w
  simp only [Int.natCast_add, Int.cast_ofNat_Int] at s2
  have hT := hl.take i
  have hD := hl.drop (i + 1) hcap
  have htl : (es.take i).length = i := by rw [List.length_take]; omega
  have hdl : (es.drop (i + 1)).length = es.length - (i + 1) := List.length_drop
  have hee : es.take i ++ es.drop (i + 1) = es.eraseIdx i := (List.eraseIdx_eq_take_drop_succ ..).symm
  have hel : (es.eraseIdx i).length = i + (es.length - (i + 1)) := by rw [← hee, List.length_append, htl, hdl]
  obtain ⟨A2, hA2⟩ : ∃ A2, (if cap = i + 1 then a else a.add ((i + 1) * 5)) = A2 := ⟨_, rfl⟩
  rw [hA2] at s2 hD
  have HE := Lib.hid (And.intro hee (And.intro hel (And.intro htl hdl)))
  have HH := Lib.hid (And.intro hT hD)
  clear hT hD hA2 hee hel htl hdl hl
  go_enter Try.func28, Try.ntmps28
  go_wp2
  refine wp_region_rel (S := fun w' => Below w.heap.size w w') [5, 6, 7, 8, 9, 10, 11, 12, 13, 14, 15, 16, 17, 18, 19] mixed17 (by kernel_rfl) (by kernel_rfl) (by decide) (by kernel_rfl) (fun _ _ h k => h.trans (k.mono h.size)) (Below.refl _ _).drew ?_
  refine rel_any (EmpR w.heap.size) (empR_stable _) ?_ ?_
  · (simp only [Lay, List.nil_append, List.cons_append, List.setIfInBounds_toArray, List.set_cons_succ, List.set_cons_zero]; intros; rename_i w9 hS hF; simp only [FactsE, List.nil_append, List.cons_append, List.toList_toArray, List.getElem?_cons_succ, List.getElem?_cons_zero] at hF; try (repeat (first | obtain ⟨rfl, hF⟩ := hF | obtain ⟨(hownF : OwnE _ _ _ _ _), hF⟩ := hF | obtain ⟨⟨gE, rfl, hgE1, hgE2⟩, hF⟩ := hF)))
    refine step_take rfl (of_decide_eq_true rfl) ?_
    go_wp2
    refine RQ_mk rfl ((Below.refl _ _).alloc (Nat.le_refl _) _) ?_
    simp only [Array.getD_eq_getD_getElem?, List.getElem?_toArray, List.getElem?_cons_succ, List.getElem?_cons_zero, Option.getD_some]
    exact ⟨_, rfl, hS.size, heap_alloc_last _ _⟩
  iterate 6 (refine rel_eq (v := ?_) ?_ ?_; rotate_left; (focus ((simp only [Lay, List.nil_append, List.cons_append, List.setIfInBounds_toArray, List.set_cons_succ, List.set_cons_zero]; intros; rename_i w9 hS hF; simp only [FactsE, List.nil_append, List.cons_append, List.toList_toArray, List.getElem?_cons_succ, List.getElem?_cons_zero] at hF; try (repeat (first | obtain ⟨rfl, hF⟩ := hF | obtain ⟨(hownF : OwnE _ _ _ _ _), hF⟩ := hF | obtain ⟨⟨gE, rfl, hgE1, hgE2⟩, hF⟩ := hF))); refine step_take rfl (of_decide_eq_true rfl) ?_; skip; go_wp2_with (first | ((with_reducible refine ev_load1_blk oSr ?_); refine ⟨rfl, _, _, _, _, _, rfl, blk_of hS hM.blk, rmc2 _ _ _, ?_⟩; (simp only [Act.put, List.setIfInBounds_toArray, List.set_cons_succ, List.set_cons_zero]))); refine RQ_mk rfl ?_ ?_; (focus exact Below.refl _ _); (focus (first | (simp only [Array.getD_eq_getD_getElem?, List.getElem?_toArray, List.getElem?_cons_succ, List.getElem?_cons_zero, Option.getD_some]; done) | (simp only [Array.getD_eq_getD_getElem?, List.getElem?_toArray, List.getElem?_cons_succ, List.getElem?_cons_zero, Option.getD_some]; rfl) | rfl)))))
  refine rel_any (OwnE w.heap.size i (es.take i)) (ownE_stable _ _ _) ?_ ?_
  · (simp only [Lay, List.nil_append, List.cons_append, List.setIfInBounds_toArray, List.set_cons_succ, List.set_cons_zero]; intros; rename_i w9 hS hF; simp only [FactsE, List.nil_append, List.cons_append, List.toList_toArray, List.getElem?_cons_succ, List.getElem?_cons_zero] at hF; try (repeat (first | obtain ⟨rfl, hF⟩ := hF | obtain ⟨(hownF : OwnE _ _ _ _ _), hF⟩ := hF | obtain ⟨⟨gE, rfl, hgE1, hgE2⟩, hF⟩ := hF)))
    refine step_take rfl (of_decide_eq_true rfl) ?_
    obtain ⟨vA, wA, hrun, hown, hbel⟩ := run_appE hgE2 hgE1 (HH.out.1.ext hS) HE.out.2.2.1 (fun e => by cases e) (by omega)
    go_wp2_with ((with_reducible refine ev_append ?_); refine ⟨rfl, _, _, _, _, rfl, rfl, hrun, ?_⟩; (simp only [Act.put, List.setIfInBounds_toArray, List.set_cons_succ, List.set_cons_zero]))
    refine RQ_mk rfl hbel ?_
    simp only [Array.getD_eq_getD_getElem?, List.getElem?_toArray, List.getElem?_cons_succ, List.getElem?_cons_zero, Option.getD_some]
    exact hown
  iterate 7 (refine rel_eq (v := ?_) ?_ ?_; rotate_left; (focus ((simp only [Lay, List.nil_append, List.cons_append, List.setIfInBounds_toArray, List.set_cons_succ, List.set_cons_zero]; intros; rename_i w9 hS hF; simp only [FactsE, List.nil_append, List.cons_append, List.toList_toArray, List.getElem?_cons_succ, List.getElem?_cons_zero] at hF; try (repeat (first | obtain ⟨rfl, hF⟩ := hF | obtain ⟨(hownF : OwnE _ _ _ _ _), hF⟩ := hF | obtain ⟨⟨gE, rfl, hgE1, hgE2⟩, hF⟩ := hF))); refine step_take rfl (of_decide_eq_true rfl) ?_; skip; go_wp2_with (first | ((with_reducible refine ev_load1_blk oSr ?_); refine ⟨rfl, _, _, _, _, _, rfl, blk_of hS hM.blk, rmc2 _ _ _, ?_⟩; (simp only [Act.put, List.setIfInBounds_toArray, List.set_cons_succ, List.set_cons_zero]))); refine RQ_mk rfl ?_ ?_; (focus exact Below.refl _ _); (focus (first | (simp only [Array.getD_eq_getD_getElem?, List.getElem?_toArray, List.getElem?_cons_succ, List.getElem?_cons_zero, Option.getD_some]; done) | (simp only [Array.getD_eq_getD_getElem?, List.getElem?_toArray, List.getElem?_cons_succ, List.getElem?_cons_zero, Option.getD_some]; rfl) | rfl)))))
  refine rel_end ?_
  (simp only [Lay, List.nil_append, List.cons_append, List.setIfInBounds_toArray, List.set_cons_succ, List.set_cons_zero]; intros; rename_i w9 hS hF; simp only [FactsA, List.nil_append, List.cons_append] at hF; try (repeat (first | obtain ⟨rfl, hF⟩ := hF | obtain ⟨(hownF : OwnE _ _ _ _ _), hF⟩ := hF | obtain ⟨⟨gE, rfl, hgE1, hgE2⟩, hF⟩ := hF)))
  obtain ⟨vA, wA, hrun, hownA, hA, -⟩ := run_appR (c := cap - (i + 1)) hownF (HH.out.2.ext hS) HE.out.2.2.2 (fun e => by cases e) hS.size (by omega)
  have hbA := hS.trans (hA.below hownF hS.size)
  rw [HE.out.1] at hownA
  have HO := Lib.hid (And.intro hownA hbA)
  clear hownA hbA hA
  go_wp2_with ((with_reducible refine ev_append ?_); refine ⟨rfl, _, _, _, _, rfl, rfl, hrun, ?_⟩; (simp only [Act.put, List.setIfInBounds_toArray, List.set_cons_succ, List.set_cons_zero]))
  go_ret
  refine ⟨_, rfl, ?_, HO.out.2⟩
  unfold RRow
  rw [HE.out.2.1]
  exact HO.out.1
end Go.Proofs.Yteohokidlopbnaa
