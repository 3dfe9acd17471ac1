/- Chapter 17: the reference's Put of a key that stands, walked. -/
import Derived.Test.YteohokidlopbnaaMkD
namespace Go.Proofs.Yteohokidlopbnaa
open Go.RowKit
set_option linter.unusedSimpArgs false
set_option linter.unusedVariables false

/-- A row of the call's own, without room where it is empty. -/
def OwnX (B n : Nat) (es : List EntT) : VR := fun v w => w.ownsRow B 68 5 v n (rowe es) ∧ (n = 0 → ∃ g, v = .slice (some ⟨g, 0, none⟩) 0 0)
/-- What an append behind i entries may do: nothing below B, no empty row, no row of one, no first i entries. -/
def PutX (B i : Nat) (w1 w2 : World) : Prop := (B ≤ w1.heap.size → Below B w1 w2) ∧ ∀ (g : Nat) (cur : Array Value), w1.heap[g]? = some (Obj.cells cur 68 (0, 0)) → ∃ cur' : Array Value, w2.heap[g]? = some (Obj.cells cur' 68 (0, 0)) ∧ cur'.size = cur.size ∧ cur'.toList.take (i * 5) = cur.toList.take (i * 5) ∧ (cur.size ≤ 5 → cur' = cur)
theorem putX_below (B i : Nat) {w w' : World} (h : Below w.heap.size w w') : PutX B i w w' := ⟨fun hB => h.mono hB, fun g cur hg => ⟨cur, blk_of h hg, rfl, rfl, fun _ => rfl⟩⟩
theorem putX_app {B i m : Nat} {w w' : World} {v : Value} {e : EntT} {es : List EntT} (hx : OwnX B i es v w) (h : AppW w w' v i m (rowe [e])) : PutX B i w w' := by
  rcases h with h | ⟨g, cap, cur, rfl, hg, hm, hcap, hcs, rfl⟩
  · exact putX_below B i h
  · have hB : B ≤ g := by
      rcases hx.1.2 with ⟨e, -⟩ | ⟨g', cap', cur', e, h1, -⟩
      · cases e
      · cases e; exact h1
    have hi : i ≠ 0 := fun h0 => by
      obtain ⟨g', e⟩ := hx.2 h0
      cases e
      omega
    have hnl : (rowe [e]).length = 5 := rfl
    refine ⟨fun _ => ⟨rfl, rfl, rfl, by simp, fun k hk => setRow_other w g k _ (by omega)⟩, fun k cur1 hk => ?_⟩
    by_cases hkg : k = g
    · subst hkg
      obtain rfl : cur1 = cur := by
        rw [hg] at hk
        injection Option.some.inj hk with h1
        exact h1.symm
      have hcl : cur1.toList.length = cap * 5 := by simpa using hcs
      refine ⟨_, setRow_heap w k cur1 _ _ _ hg, ?_, ?_, fun hc => absurd hc (by omega)⟩
      · simp only [List.size_toArray, List.length_append, List.length_take, List.length_drop, hnl, hcl, hcs]
        omega
      · simp only [List.toList_toArray]
        rw [List.append_assoc, List.take_append_of_le_length (by rw [List.length_take, hcl]; omega), List.take_take, Nat.min_self]
    · exact ⟨cur1, (setRow_other w g k _ hkg).trans hk, rfl, rfl, fun _ => rfl⟩
theorem empR_putX (B B' i : Nat) : StableW (PutX B' i) (EmpR B) := fun u w w' h hx => by
  obtain ⟨g, h1, h2, h3⟩ := h
  obtain ⟨c, h4, -, -, h5⟩ := hx.2 g _ h3
  exact ⟨g, h1, h2, by rw [h4, h5 (by simp)]⟩
theorem newR_putX (B B' i : Nat) (e : EntT) : StableW (PutX B' i) (NewR B e) := fun u w w' h hx => by
  obtain ⟨g, h1, h2, h3⟩ := h
  obtain ⟨c, h4, -, -, h5⟩ := hx.2 g _ h3
  exact ⟨g, h1, h2, by rw [h4, h5 (by rw [evs_size]; omega)]⟩
theorem ownX_putX (B B' i : Nat) (es : List EntT) : StableW (PutX B' i) (OwnX B i es) := fun u w w' h hx => by
  refine ⟨⟨h.1.1, ?_⟩, h.2⟩
  rcases h.1.2 with hn | ⟨g, cap, cur, e, h1, h2, h3, h4, h5, h6⟩
  · exact .inl hn
  · obtain ⟨c, k1, k2, k3, -⟩ := hx.2 g _ h2
    exact .inr ⟨g, cap, c, e, h1, k1, h3, h4, by rw [k2, h5], by rw [k3, h6]⟩

set_option maxHeartbeats 4000000 in
set_option maxRecDepth 100000 in
theorem rput_stands (B r i : Nat) (u0 : Value) (R key : Int) (v : ValT) (es : List EntT) (w : World) (hM : Rm w B r u0 false R es) (hn : es.length ≤ 50) (hfi : findI es key = some i) (hi : i < es.length) :
    Calls Try.prog 14 #[.pointer (some ⟨r, 0, none⟩), .int .i64 key, .agg (vvs v)] w fun e w' => e = .returned (.int .i64 0) ∧ ∃ u', RmT w w' B r u0 u' false R (es.take i ++ [(key, v)] ++ es.drop (i + 1)) := by
  have hFnd := fun w hM => rat_is B r u0 false R key es w hM (by omega)
  rw [hfi] at hFnd
  obtain ⟨a0, cap, rfl, hcap, -, hl, -⟩ := hM.row.sl
  obtain ⟨a, rfl, -⟩ := hl i hi
  have s1 := fun w => rl_to a es.length cap i (by omega) w
  have s2 := fun w => rl_from a es.length cap (i + 1) (by omega) w
  simp only [Int.natCast_add, Int.cast_ofNat_Int] at s2
  have hTl : (es.take i).length = i := by rw [List.length_take]; omega
  have hDl : (es.drop (i + 1)).length = es.length - (i + 1) := List.length_drop
  have hT : SlIs w (some a) i cap (es.take i) := ⟨hl.take i, hTl, fun e => by cases e⟩
  obtain ⟨A2, hA2⟩ : ∃ A2, (if cap = i + 1 then a else a.add ((i + 1) * 5)) = A2 := ⟨_, rfl⟩
  have hD : SlIs w (some A2) (es.length - (i + 1)) (cap - (i + 1)) (es.drop (i + 1)) := ⟨by rw [← hA2]; exact hl.drop (i + 1) hcap, hDl, fun e => by cases e⟩
  rw [hA2] at s2
  have hI0 : decide ((i : Int) ≥ 0) = true := decide_eq_true (by omega)
  have hI1 : decide (0 ≤ (i : Int)) = true := decide_eq_true (by omega)
  have hi' : wrap64 ((i : Int) + 1) = (i : Int) + 1 := by unfold wrap64; omega
  have hMlt := lt_of_blk hM.blk
  have hSt := St.start w
  generalize es.take i = es1 at *
  generalize es.drop (i + 1) = es2 at *
  simp only [idxV] at hFnd
  clear hfi hTl hDl hA2 hl
  go_enter Try.func14, Try.ntmps14
  go_wp2_with (first | ((with_reducible refine ev_box hSt ?_); refine ⟨rfl, _, rfl, ?_⟩; intro gV wN hSt; (simp only [Act.put, List.setIfInBounds_toArray, List.set_cons_succ, List.set_cons_zero])) | (go_at_call 27; refine (hFnd _ (hM.ext hSt.base)).mono ?_; rintro e w1 ⟨rfl, hw1⟩; subst w1) | ((with_reducible refine ev_load1_blk oBool ?_); refine ⟨rfl, _, _, _, _, _, rfl, blk_of hSt.base hM.blk, rmc0 _ _ _, ?_⟩; (simp only [Act.put, List.setIfInBounds_toArray, List.set_cons_succ, List.set_cons_zero])))
  have hMx := hM.ext hSt.base
  have hVx := (hSt.own _ (List.mem_cons_self ..)).1
  have hbX := hSt.base
  have hTx : SlIs wN (some a) i cap es1 := ⟨hT.sl.ext hbX, hT.len, hT.nil⟩
  have hDx : SlIs wN (some A2) (es.length - (i + 1)) (cap - (i + 1)) es2 := ⟨hD.sl.ext hbX, hD.len, hD.nil⟩
  clear hFnd hT hD
  refine wp_region_relWQ (fun w' => Below wN.heap.size wN w') (fun _ => True) (PutX wN.heap.size i) 13 0 [20, 21, 22, 23, 24, 25, 26, 27, 28, 29, 30, 31, 32, 33, 34, 35, 36, 37, 38, 39, 40] mixed17 (by kernel_rfl) (by kernel_rfl) (by decide) (by kernel_rfl) (fun _ _ h1 h2 => h1.trans (h2.1 h1.size)) (fun _ _ hb => putX_below _ _ hb) (fun _ _ _ _ => trivial) (Below.refl _ _).drew trivial ?_
  refine relWQ_late (.pointer (some ⟨r, 0, none⟩)) (of_decide_eq_true rfl) ?_ ?_
  · (simp only [Lay, List.nil_append, List.cons_append, List.setIfInBounds_toArray, List.set_cons_succ, List.set_cons_zero]; intros)
    exact .inl ⟨rfl, fun w => rfl⟩
  refine relW_any (EmpR wN.heap.size) (stabAt_other (of_decide_eq_true rfl) (empR_putX _ _ _)) ?_ ?_
  · (simp only [Lay, List.nil_append, List.cons_append, List.setIfInBounds_toArray, List.set_cons_succ, List.set_cons_zero]; intros; rename_i w9 hS hT9 hF; simp only [FactsE, List.nil_append, List.cons_append, List.toList_toArray, List.getElem?_cons_succ, List.getElem?_cons_zero] at hF; try (repeat (first | obtain ⟨rfl, hF⟩ := hF | obtain ⟨(hownF : OwnE _ _ _ _ _), hF⟩ := hF | obtain ⟨(hownX : OwnX _ _ _ _ _), hF⟩ := hF | (obtain ⟨(hEm : EmpR _ _ _), hF⟩ := hF; obtain ⟨gE, rfl, hgE1, hgE2⟩ := hEm) | (obtain ⟨(hNr : NewR _ _ _ _), hF⟩ := hF; obtain ⟨gB, rfl, hgB, hgb⟩ := hNr))))
    refine step_takeW rfl (of_decide_eq_true rfl) ?_
    go_wp2
    refine RQW_mk rfl (ex_other (of_decide_eq_true rfl) ((Below.refl _ _).alloc (Nat.le_refl _) _)) ?_
    simp only [Array.getD_eq_getD_getElem?, List.getElem?_toArray, List.getElem?_cons_succ, List.getElem?_cons_zero, Option.getD_some]
    exact ⟨_, rfl, hS.size, heap_alloc_last _ _⟩
  iterate 6 (refine relW_eq (v := ?_) ?_ ?_; rotate_left; (focus ((simp only [Lay, List.nil_append, List.cons_append, List.setIfInBounds_toArray, List.set_cons_succ, List.set_cons_zero]; intros; rename_i w9 hS hT9 hF; simp only [FactsE, List.nil_append, List.cons_append, List.toList_toArray, List.getElem?_cons_succ, List.getElem?_cons_zero] at hF; try (repeat (first | obtain ⟨rfl, hF⟩ := hF | obtain ⟨(hownF : OwnE _ _ _ _ _), hF⟩ := hF | obtain ⟨(hownX : OwnX _ _ _ _ _), hF⟩ := hF | (obtain ⟨(hEm : EmpR _ _ _), hF⟩ := hF; obtain ⟨gE, rfl, hgE1, hgE2⟩ := hEm) | (obtain ⟨(hNr : NewR _ _ _ _), hF⟩ := hF; obtain ⟨gB, rfl, hgB, hgb⟩ := hNr)))); refine step_takeW rfl (of_decide_eq_true rfl) ?_; (have hMq := blk_of hS hMx.blk; have hVq := blk_of hS hVx); go_wp2_with (first | ((with_reducible refine ev_load1_blk oSr ?_); refine ⟨rfl, _, _, _, _, _, rfl, hMq, rmc2 _ _ _, ?_⟩; (simp only [Act.put, List.setIfInBounds_toArray, List.set_cons_succ, List.set_cons_zero])) | ((with_reducible refine ev_load_agg_blk aV4 ?_); refine ⟨rfl, _, _, _, rfl, hVq, rfl, ?_⟩; (simp only [Act.put, List.setIfInBounds_toArray, List.set_cons_succ, List.set_cons_zero])) | ((with_reducible refine ev_rentry ?_); refine ⟨rfl, _, _, rfl, rfl, ?_⟩; (simp only [Act.put, List.setIfInBounds_toArray, List.set_cons_succ, List.set_cons_zero]))); refine RQW_mk rfl ?_ ?_; (focus (refine ex_other (of_decide_eq_true rfl) ?_; first | exact Below.refl _ _ | exact (Below.refl _ _).alloc (Nat.le_refl _) _)); (focus (first | (simp only [Array.getD_eq_getD_getElem?, List.getElem?_toArray, List.getElem?_cons_succ, List.getElem?_cons_zero, Option.getD_some]; done) | (simp only [Array.getD_eq_getD_getElem?, List.getElem?_toArray, List.getElem?_cons_succ, List.getElem?_cons_zero, Option.getD_some]; rfl) | rfl)))))
  refine relW_any (OwnX wN.heap.size i es1) (stabAt_other (of_decide_eq_true rfl) (ownX_putX _ _ _ _)) ?_ ?_
  · (simp only [Lay, List.nil_append, List.cons_append, List.setIfInBounds_toArray, List.set_cons_succ, List.set_cons_zero]; intros; rename_i w9 hS hT9 hF; simp only [FactsE, List.nil_append, List.cons_append, List.toList_toArray, List.getElem?_cons_succ, List.getElem?_cons_zero] at hF; try (repeat (first | obtain ⟨rfl, hF⟩ := hF | obtain ⟨(hownF : OwnE _ _ _ _ _), hF⟩ := hF | obtain ⟨(hownX : OwnX _ _ _ _ _), hF⟩ := hF | (obtain ⟨(hEm : EmpR _ _ _), hF⟩ := hF; obtain ⟨gE, rfl, hgE1, hgE2⟩ := hEm) | (obtain ⟨(hNr : NewR _ _ _ _), hF⟩ := hF; obtain ⟨gB, rfl, hgB, hgb⟩ := hNr))))
    refine step_takeW rfl (of_decide_eq_true rfl) ?_
    obtain ⟨vA, wA, hrun, hown, hbel, hz0⟩ := run_appE0 (c := cap) hgE2 hgE1 (hTx.sl.ext hS) hTx.len (fun e => by cases e) (by omega)
    have HZ := Lib.hid (And.intro hown hz0)
    clear hown hz0
    go_wp2_with ((with_reducible refine ev_append ?_); refine ⟨rfl, _, _, _, _, rfl, rfl, hrun, ?_⟩; (simp only [Act.put, List.setIfInBounds_toArray, List.set_cons_succ, List.set_cons_zero]))
    refine RQW_mk rfl (ex_other (of_decide_eq_true rfl) hbel) ?_
    simp only [Array.getD_eq_getD_getElem?, List.getElem?_toArray, List.getElem?_cons_succ, List.getElem?_cons_zero, Option.getD_some]
    exact HZ.out
  iterate 3 (refine relW_eq (v := ?_) ?_ ?_; rotate_left; (focus ((simp only [Lay, List.nil_append, List.cons_append, List.setIfInBounds_toArray, List.set_cons_succ, List.set_cons_zero]; intros; rename_i w9 hS hT9 hF; simp only [FactsE, List.nil_append, List.cons_append, List.toList_toArray, List.getElem?_cons_succ, List.getElem?_cons_zero] at hF; try (repeat (first | obtain ⟨rfl, hF⟩ := hF | obtain ⟨(hownF : OwnE _ _ _ _ _), hF⟩ := hF | obtain ⟨(hownX : OwnX _ _ _ _ _), hF⟩ := hF | (obtain ⟨(hEm : EmpR _ _ _), hF⟩ := hF; obtain ⟨gE, rfl, hgE1, hgE2⟩ := hEm) | (obtain ⟨(hNr : NewR _ _ _ _), hF⟩ := hF; obtain ⟨gB, rfl, hgB, hgb⟩ := hNr)))); refine step_takeW rfl (of_decide_eq_true rfl) ?_; (have hMq := blk_of hS hMx.blk; have hVq := blk_of hS hVx); go_wp2_with (first | ((with_reducible refine ev_load1_blk oSr ?_); refine ⟨rfl, _, _, _, _, _, rfl, hMq, rmc2 _ _ _, ?_⟩; (simp only [Act.put, List.setIfInBounds_toArray, List.set_cons_succ, List.set_cons_zero])) | ((with_reducible refine ev_load_agg_blk aV4 ?_); refine ⟨rfl, _, _, _, rfl, hVq, rfl, ?_⟩; (simp only [Act.put, List.setIfInBounds_toArray, List.set_cons_succ, List.set_cons_zero])) | ((with_reducible refine ev_rentry ?_); refine ⟨rfl, _, _, rfl, rfl, ?_⟩; (simp only [Act.put, List.setIfInBounds_toArray, List.set_cons_succ, List.set_cons_zero]))); refine RQW_mk rfl ?_ ?_; (focus (refine ex_other (of_decide_eq_true rfl) ?_; first | exact Below.refl _ _ | exact (Below.refl _ _).alloc (Nat.le_refl _) _)); (focus (first | (simp only [Array.getD_eq_getD_getElem?, List.getElem?_toArray, List.getElem?_cons_succ, List.getElem?_cons_zero, Option.getD_some]; done) | (simp only [Array.getD_eq_getD_getElem?, List.getElem?_toArray, List.getElem?_cons_succ, List.getElem?_cons_zero, Option.getD_some]; rfl) | rfl)))))
  refine relW_any (NewR wN.heap.size (key, v)) (stabAt_other (of_decide_eq_true rfl) (newR_putX _ _ _ _)) ?_ ?_
  · (simp only [Lay, List.nil_append, List.cons_append, List.setIfInBounds_toArray, List.set_cons_succ, List.set_cons_zero]; intros; rename_i w9 hS hT9 hF; simp only [FactsE, List.nil_append, List.cons_append, List.toList_toArray, List.getElem?_cons_succ, List.getElem?_cons_zero] at hF; try (repeat (first | obtain ⟨rfl, hF⟩ := hF | obtain ⟨(hownF : OwnE _ _ _ _ _), hF⟩ := hF | obtain ⟨(hownX : OwnX _ _ _ _ _), hF⟩ := hF | (obtain ⟨(hEm : EmpR _ _ _), hF⟩ := hF; obtain ⟨gE, rfl, hgE1, hgE2⟩ := hEm) | (obtain ⟨(hNr : NewR _ _ _ _), hF⟩ := hF; obtain ⟨gB, rfl, hgB, hgb⟩ := hNr))))
    refine step_takeW rfl (of_decide_eq_true rfl) ?_
    go_wp2_with ((with_reducible refine ev_rslice1 ?_); refine ⟨rfl, (key, v), rfl, ?_⟩; (simp only [Act.put, List.setIfInBounds_toArray, List.set_cons_succ, List.set_cons_zero]))
    refine RQW_mk rfl (ex_other (of_decide_eq_true rfl) ((Below.refl _ _).alloc (Nat.le_refl _) _)) ?_
    simp only [Array.getD_eq_getD_getElem?, List.getElem?_toArray, List.getElem?_cons_succ, List.getElem?_cons_zero, Option.getD_some]
    exact ⟨_, rfl, hS.size, heap_alloc_last _ _⟩
  refine relW_any (OwnE wN.heap.size (i + 1) (es1 ++ [(key, v)])) (stabAt_writer (of_decide_eq_true rfl) (ownE_stable _ _ _)) ?_ ?_
  · (simp only [Lay, List.nil_append, List.cons_append, List.setIfInBounds_toArray, List.set_cons_succ, List.set_cons_zero]; intros; rename_i w9 hS hT9 hF; simp only [FactsE, List.nil_append, List.cons_append, List.toList_toArray, List.getElem?_cons_succ, List.getElem?_cons_zero] at hF; try (repeat (first | obtain ⟨rfl, hF⟩ := hF | obtain ⟨(hownF : OwnE _ _ _ _ _), hF⟩ := hF | obtain ⟨(hownX : OwnX _ _ _ _ _), hF⟩ := hF | (obtain ⟨(hEm : EmpR _ _ _), hF⟩ := hF; obtain ⟨gE, rfl, hgE1, hgE2⟩ := hEm) | (obtain ⟨(hNr : NewR _ _ _ _), hF⟩ := hF; obtain ⟨gB, rfl, hgB, hgb⟩ := hNr))))
    refine step_takeW rfl (of_decide_eq_true rfl) ?_
    obtain ⟨vA, wA, hrun, hownA, hA, -⟩ := run_appR (m := 1) (c := 1) hownX.1 (newR_sl hgb) rfl (fun e => by cases e) hS.size (by omega)
    have hpx := Lib.hid (putX_app hownX hA)
    clear hownX hA
    go_wp2_with ((with_reducible refine ev_append ?_); refine ⟨rfl, _, _, _, _, rfl, rfl, hrun, ?_⟩; (simp only [Act.put, List.setIfInBounds_toArray, List.set_cons_succ, List.set_cons_zero]))
    refine RQW_mk rfl (ex_writer (of_decide_eq_true rfl) hpx.out) ?_
    simp only [Array.getD_eq_getD_getElem?, List.getElem?_toArray, List.getElem?_cons_succ, List.getElem?_cons_zero, Option.getD_some]
    exact hownA
  iterate 7 (refine relW_eq (v := ?_) ?_ ?_; rotate_left; (focus ((simp only [Lay, List.nil_append, List.cons_append, List.setIfInBounds_toArray, List.set_cons_succ, List.set_cons_zero]; intros; rename_i w9 hS hT9 hF; simp only [FactsE, List.nil_append, List.cons_append, List.toList_toArray, List.getElem?_cons_succ, List.getElem?_cons_zero] at hF; try (repeat (first | obtain ⟨rfl, hF⟩ := hF | obtain ⟨(hownF : OwnE _ _ _ _ _), hF⟩ := hF | obtain ⟨(hownX : OwnX _ _ _ _ _), hF⟩ := hF | (obtain ⟨(hEm : EmpR _ _ _), hF⟩ := hF; obtain ⟨gE, rfl, hgE1, hgE2⟩ := hEm) | (obtain ⟨(hNr : NewR _ _ _ _), hF⟩ := hF; obtain ⟨gB, rfl, hgB, hgb⟩ := hNr)))); refine step_takeW rfl (of_decide_eq_true rfl) ?_; (have hMq := blk_of hS hMx.blk; have hVq := blk_of hS hVx); go_wp2_with (first | ((with_reducible refine ev_load1_blk oSr ?_); refine ⟨rfl, _, _, _, _, _, rfl, hMq, rmc2 _ _ _, ?_⟩; (simp only [Act.put, List.setIfInBounds_toArray, List.set_cons_succ, List.set_cons_zero])) | ((with_reducible refine ev_load_agg_blk aV4 ?_); refine ⟨rfl, _, _, _, rfl, hVq, rfl, ?_⟩; (simp only [Act.put, List.setIfInBounds_toArray, List.set_cons_succ, List.set_cons_zero])) | ((with_reducible refine ev_rentry ?_); refine ⟨rfl, _, _, rfl, rfl, ?_⟩; (simp only [Act.put, List.setIfInBounds_toArray, List.set_cons_succ, List.set_cons_zero]))); refine RQW_mk rfl ?_ ?_; (focus (refine ex_other (of_decide_eq_true rfl) ?_; first | exact Below.refl _ _ | exact (Below.refl _ _).alloc (Nat.le_refl _) _)); (focus (first | (simp only [Array.getD_eq_getD_getElem?, List.getElem?_toArray, List.getElem?_cons_succ, List.getElem?_cons_zero, Option.getD_some]; done) | (simp only [Array.getD_eq_getD_getElem?, List.getElem?_toArray, List.getElem?_cons_succ, List.getElem?_cons_zero, Option.getD_some]; rfl) | rfl)))))
  refine relW_end ?_
  (simp only [Lay, List.nil_append, List.cons_append, List.setIfInBounds_toArray, List.set_cons_succ, List.set_cons_zero]; intros; rename_i w9 hS hF; simp only [FactsA, List.nil_append, List.cons_append] at hF; try (repeat (first | obtain ⟨rfl, hF⟩ := hF | obtain ⟨(hownF : OwnE _ _ _ _ _), hF⟩ := hF | obtain ⟨(hownX : OwnX _ _ _ _ _), hF⟩ := hF | (obtain ⟨(hEm : EmpR _ _ _), hF⟩ := hF; obtain ⟨gE, rfl, hgE1, hgE2⟩ := hEm) | (obtain ⟨(hNr : NewR _ _ _ _), hF⟩ := hF; obtain ⟨gB, rfl, hgB, hgb⟩ := hNr))))
  obtain ⟨vA, wA, hrun, hownA, hA, -⟩ := run_appR (c := cap - (i + 1)) hownF (hDx.sl.ext hS) hDx.len (fun e => by cases e) hS.size (by omega)
  have hb9 := hS.trans (hA.below hownF hS.size)
  have hRA := blk_of hb9 hMx.blk
  have hone := row_one hownA
  have HO := Lib.hid (And.intro hownA hb9)
  have HL := Lib.hid (And.intro hTx.len hDx.len)
  clear hownA hA hb9 hownX
  go_wp2_with (first
    | ((with_reducible refine ev_append ?_); refine ⟨rfl, _, _, _, _, rfl, rfl, hrun, ?_⟩; (simp only [Act.put, List.setIfInBounds_toArray, List.set_cons_succ, List.set_cons_zero]))
    | ((with_reducible refine ev_rmstore ?_); refine ⟨rfl, _, _, _, _, _, rfl, rfl, hone, hRA, ?_⟩; simp only [Act.put]))
  refine NoPanic.normal ?_
  go_wp2
  go_ret
  have hl := hM.low
  exact ⟨rfl, _, RmT.stored hMx HO.out.2 (hbX.mono (by omega)) (fun k o hk _ => blk_of hbX hk) HO.out.1 (by rw [List.length_append, List.length_append, HL.out.1, HL.out.2]; rfl) hbX.size⟩
end Go.Proofs.Yteohokidlopbnaa
