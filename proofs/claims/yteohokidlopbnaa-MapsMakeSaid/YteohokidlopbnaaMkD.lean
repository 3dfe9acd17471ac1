/- Chapter 17: the reference's Put of a key that stands in an Lru, walked. -/
import Derived.Test.YteohokidlopbnaaMkC
namespace Go.Proofs.Yteohokidlopbnaa
open Go.RowKit
set_option linter.unusedSimpArgs false
set_option linter.unusedVariables false

set_option maxHeartbeats 4000000 in
set_option maxRecDepth 100000 in
theorem rput_used (B r i : Nat) (u0 : Value) (R key : Int) (v : ValT) (es : List EntT) (w : World) (hM : Rm w B r u0 true R es) (hn : es.length ≤ 50) (hfi : findI es key = some i) (hi : i < es.length) :
    Calls Try.prog 14 #[.pointer (some ⟨r, 0, none⟩), .int .i64 key, .agg (vvs v)] w fun e w' => e = .returned (.int .i64 0) ∧ ∃ u', RmT w w' B r u0 u' true R (es.eraseIdx i ++ [(key, v)]) := by
  have hFnd := fun w hM => rat_is B r u0 true R key es w hM (by omega)
  rw [hfi] at hFnd
  have hWo := fun w hM => rwithout_is B r i u0 true R es w hM (by omega) hi
  have hI0 : decide ((i : Int) ≥ 0) = true := decide_eq_true (by omega)
  have hI1 : decide (0 ≤ (i : Int)) = true := decide_eq_true (by omega)
  have hMlt := lt_of_blk hM.blk
  have hSt := St.start w
  have hel : (es.eraseIdx i).length ≤ 50 := by rw [List.length_eraseIdx, if_pos hi]; omega
  generalize es.eraseIdx i = es' at *
  simp only [idxV] at hFnd
  clear hfi
  go_enter Try.func14, Try.ntmps14
  go_wp2_with (first | ((with_reducible refine ev_box hSt ?_); refine ⟨rfl, _, rfl, ?_⟩; intro gV wN hSt; (simp only [Act.put, List.setIfInBounds_toArray, List.set_cons_succ, List.set_cons_zero])) | (go_at_call 27; refine (hFnd _ (hM.ext hSt.base)).mono ?_; rintro e w1 ⟨rfl, hw1⟩; subst w1) | ((with_reducible refine ev_load1_blk oBool ?_); refine ⟨rfl, _, _, _, _, _, rfl, blk_of hSt.base hM.blk, rmc0 _ _ _, ?_⟩; (simp only [Act.put, List.setIfInBounds_toArray, List.set_cons_succ, List.set_cons_zero])))
  have hMx := hM.ext hSt.base
  have hVx := (hSt.own _ (List.mem_cons_self ..)).1
  have hbX := hSt.base
  refine wp_region_relQ (S := fun w' => Below wN.heap.size wN w') 0 [46, 47, 48, 49, 50, 51, 52, 53] mixed17 (by kernel_rfl) (by kernel_rfl) (by decide) (by kernel_rfl) (fun _ _ h k => h.trans (k.mono h.size)) (Below.refl _ _).drew ?_
  refine relQ_late (.pointer (some ⟨r, 0, none⟩)) ?_ ?_
  · (simp only [Lay, List.nil_append, List.cons_append, List.setIfInBounds_toArray, List.set_cons_succ, List.set_cons_zero]; intros)
    exact .inl ⟨rfl, fun w => rfl⟩
  iterate 2 (refine rel_eq (v := ?_) ?_ ?_; rotate_left; (focus ((simp only [Lay, List.nil_append, List.cons_append, List.setIfInBounds_toArray, List.set_cons_succ, List.set_cons_zero]; intros; rename_i w9 hS hF; simp only [FactsE, List.nil_append, List.cons_append, List.toList_toArray, List.getElem?_cons_succ, List.getElem?_cons_zero] at hF; try (repeat (first | obtain ⟨rfl, hF⟩ := hF | obtain ⟨(hownF : OwnE _ _ _ _ _), hF⟩ := hF | (obtain ⟨(hEm : EmpR _ _ _), hF⟩ := hF; obtain ⟨gE, rfl, hgE1, hgE2⟩ := hEm) | (obtain ⟨(hNr : NewR _ _ _ _), hF⟩ := hF; obtain ⟨gB, rfl, hgB, hgb⟩ := hNr)))); refine step_take rfl (of_decide_eq_true rfl) ?_; (have hMq := hMx.ext hS; have hVq := blk_of hS hVx); go_wp2_with (first | ((with_reducible refine ev_load1_blk oSr ?_); refine ⟨rfl, _, _, _, _, _, rfl, hMq.blk, rmc2 _ _ _, ?_⟩; (simp only [Act.put, List.setIfInBounds_toArray, List.set_cons_succ, List.set_cons_zero])) | ((with_reducible refine ev_load1_blk oBool ?_); refine ⟨rfl, _, _, _, _, _, rfl, hMq.blk, rmc0 _ _ _, ?_⟩; (simp only [Act.put, List.setIfInBounds_toArray, List.set_cons_succ, List.set_cons_zero])) | ((with_reducible refine ev_load_agg_blk aV4 ?_); refine ⟨rfl, _, _, _, rfl, hVq, rfl, ?_⟩; (simp only [Act.put, List.setIfInBounds_toArray, List.set_cons_succ, List.set_cons_zero])) | ((with_reducible refine ev_rentry ?_); refine ⟨rfl, _, _, rfl, rfl, ?_⟩; (simp only [Act.put, List.setIfInBounds_toArray, List.set_cons_succ, List.set_cons_zero]))); refine RQ_mk rfl ?_ ?_; (focus first | exact Below.refl _ _ | exact (Below.refl _ _).alloc (Nat.le_refl _) _); (focus (first | (simp only [Array.getD_eq_getD_getElem?, List.getElem?_toArray, List.getElem?_cons_succ, List.getElem?_cons_zero, Option.getD_some]; done) | (simp only [Array.getD_eq_getD_getElem?, List.getElem?_toArray, List.getElem?_cons_succ, List.getElem?_cons_zero, Option.getD_some]; rfl) | rfl)))))
  refine rel_any (OwnE wN.heap.size es'.length es') (ownE_stable _ _ _) ?_ ?_
  · (simp only [Lay, List.nil_append, List.cons_append, List.setIfInBounds_toArray, List.set_cons_succ, List.set_cons_zero]; intros; rename_i w9 hS hF; simp only [FactsE, List.nil_append, List.cons_append, List.toList_toArray, List.getElem?_cons_succ, List.getElem?_cons_zero] at hF; try (repeat (first | obtain ⟨rfl, hF⟩ := hF | obtain ⟨(hownF : OwnE _ _ _ _ _), hF⟩ := hF | (obtain ⟨(hEm : EmpR _ _ _), hF⟩ := hF; obtain ⟨gE, rfl, hgE1, hgE2⟩ := hEm) | (obtain ⟨(hNr : NewR _ _ _ _), hF⟩ := hF; obtain ⟨gB, rfl, hgB, hgb⟩ := hNr))))
    refine step_take rfl (of_decide_eq_true rfl) ?_
    go_wp2_with (first
      | (go_at_call 28; refine (hWo _ (hMx.ext hS)).mono ?_; rintro e w4 ⟨vW, rfl, hrW, hbW⟩))
    refine RQ_mk rfl hbW ?_
    simp only [Array.getD_eq_getD_getElem?, List.getElem?_toArray, List.getElem?_cons_succ, List.getElem?_cons_zero, Option.getD_some]
    exact own_mono hrW hS.size
  iterate 3 (refine rel_eq (v := ?_) ?_ ?_; rotate_left; (focus ((simp only [Lay, List.nil_append, List.cons_append, List.setIfInBounds_toArray, List.set_cons_succ, List.set_cons_zero]; intros; rename_i w9 hS hF; simp only [FactsE, List.nil_append, List.cons_append, List.toList_toArray, List.getElem?_cons_succ, List.getElem?_cons_zero] at hF; try (repeat (first | obtain ⟨rfl, hF⟩ := hF | obtain ⟨(hownF : OwnE _ _ _ _ _), hF⟩ := hF | (obtain ⟨(hEm : EmpR _ _ _), hF⟩ := hF; obtain ⟨gE, rfl, hgE1, hgE2⟩ := hEm) | (obtain ⟨(hNr : NewR _ _ _ _), hF⟩ := hF; obtain ⟨gB, rfl, hgB, hgb⟩ := hNr)))); refine step_take rfl (of_decide_eq_true rfl) ?_; (have hMq := hMx.ext hS; have hVq := blk_of hS hVx); go_wp2_with (first | ((with_reducible refine ev_load1_blk oSr ?_); refine ⟨rfl, _, _, _, _, _, rfl, hMq.blk, rmc2 _ _ _, ?_⟩; (simp only [Act.put, List.setIfInBounds_toArray, List.set_cons_succ, List.set_cons_zero])) | ((with_reducible refine ev_load1_blk oBool ?_); refine ⟨rfl, _, _, _, _, _, rfl, hMq.blk, rmc0 _ _ _, ?_⟩; (simp only [Act.put, List.setIfInBounds_toArray, List.set_cons_succ, List.set_cons_zero])) | ((with_reducible refine ev_load_agg_blk aV4 ?_); refine ⟨rfl, _, _, _, rfl, hVq, rfl, ?_⟩; (simp only [Act.put, List.setIfInBounds_toArray, List.set_cons_succ, List.set_cons_zero])) | ((with_reducible refine ev_rentry ?_); refine ⟨rfl, _, _, rfl, rfl, ?_⟩; (simp only [Act.put, List.setIfInBounds_toArray, List.set_cons_succ, List.set_cons_zero]))); refine RQ_mk rfl ?_ ?_; (focus first | exact Below.refl _ _ | exact (Below.refl _ _).alloc (Nat.le_refl _) _); (focus (first | (simp only [Array.getD_eq_getD_getElem?, List.getElem?_toArray, List.getElem?_cons_succ, List.getElem?_cons_zero, Option.getD_some]; done) | (simp only [Array.getD_eq_getD_getElem?, List.getElem?_toArray, List.getElem?_cons_succ, List.getElem?_cons_zero, Option.getD_some]; rfl) | rfl)))))
  refine rel_any (NewR wN.heap.size (key, v)) (newR_stable _ _) ?_ ?_
  · (simp only [Lay, List.nil_append, List.cons_append, List.setIfInBounds_toArray, List.set_cons_succ, List.set_cons_zero]; intros; rename_i w9 hS hF; simp only [FactsE, List.nil_append, List.cons_append, List.toList_toArray, List.getElem?_cons_succ, List.getElem?_cons_zero] at hF; try (repeat (first | obtain ⟨rfl, hF⟩ := hF | obtain ⟨(hownF : OwnE _ _ _ _ _), hF⟩ := hF | (obtain ⟨(hEm : EmpR _ _ _), hF⟩ := hF; obtain ⟨gE, rfl, hgE1, hgE2⟩ := hEm) | (obtain ⟨(hNr : NewR _ _ _ _), hF⟩ := hF; obtain ⟨gB, rfl, hgB, hgb⟩ := hNr))))
    refine step_take rfl (of_decide_eq_true rfl) ?_
    go_wp2_with ((with_reducible refine ev_rslice1 ?_); refine ⟨rfl, (key, v), rfl, ?_⟩; (simp only [Act.put, List.setIfInBounds_toArray, List.set_cons_succ, List.set_cons_zero]))
    refine RQ_mk rfl ((Below.refl _ _).alloc (Nat.le_refl _) _) ?_
    simp only [Array.getD_eq_getD_getElem?, List.getElem?_toArray, List.getElem?_cons_succ, List.getElem?_cons_zero, Option.getD_some]
    exact ⟨_, rfl, hS.size, heap_alloc_last _ _⟩
  refine rel_end ?_
  (simp only [Lay, List.nil_append, List.cons_append, List.setIfInBounds_toArray, List.set_cons_succ, List.set_cons_zero]; intros; rename_i w9 hS hF; simp only [FactsA, List.nil_append, List.cons_append] at hF; try (repeat (first | obtain ⟨rfl, hF⟩ := hF | obtain ⟨(hownF : OwnE _ _ _ _ _), hF⟩ := hF | (obtain ⟨(hEm : EmpR _ _ _), hF⟩ := hF; obtain ⟨gE, rfl, hgE1, hgE2⟩ := hEm) | (obtain ⟨(hNr : NewR _ _ _ _), hF⟩ := hF; obtain ⟨gB, rfl, hgB, hgb⟩ := hNr))))
  obtain ⟨vA, wA, hrun, hownA, hA, -⟩ := run_appR (m := 1) (c := 1) hownF (newR_sl hgb) rfl (fun e => by cases e) hS.size (by omega)
  have hb9 := hS.trans (hA.below hownF hS.size)
  have hRA := blk_of hb9 hMx.blk
  have hone := row_one hownA
  obtain ⟨a1, c1, hvF, -⟩ := RRow.sl hownF
  subst hvF
  have HO := Lib.hid (And.intro hownA hb9)
  clear hownA hA hb9
  go_wp2_with (first
    | ((with_reducible refine ev_append ?_); refine ⟨rfl, _, _, _, _, rfl, rfl, hrun, ?_⟩; (simp only [Act.put, List.setIfInBounds_toArray, List.set_cons_succ, List.set_cons_zero]))
    | ((with_reducible refine ev_rmstore ?_); refine ⟨rfl, _, _, _, _, _, rfl, rfl, hone, hRA, ?_⟩; simp only [Act.put]))
  refine NoPanic.normal ?_
  go_wp2
  go_ret
  have hl := hM.low
  exact ⟨rfl, _, RmT.stored hMx HO.out.2 (hbX.mono (by omega)) (fun k o hk _ => blk_of hbX hk) HO.out.1 (by rw [List.length_append]; rfl) hbX.size⟩
end Go.Proofs.Yteohokidlopbnaa
