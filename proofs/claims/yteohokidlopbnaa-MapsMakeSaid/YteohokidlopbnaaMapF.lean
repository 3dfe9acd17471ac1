/- Chapter 17: Put where the key stands, walked. -/
import Derived.Test.YteohokidlopbnaaMapE
import Derived.Laws.CopyRow
namespace Go.Proofs.Yteohokidlopbnaa
open Go.RowKit
set_option linter.unusedSimpArgs false
set_option linter.unusedVariables false

theorem vvs_one (v : ValT) : ∀ u ∈ (vvs v).toList, u.oneCell' = true := fun u hu => by
  simp [vvs] at hu
  rcases hu with rfl | rfl | rfl | rfl <;> rfl
theorem run_vstore (h o : Nat) (v : ValT) (cur : Array Value) (w : World) (hg : w.heap[h]? = some (.cells cur 64 (0, 0))) (ho : o + 4 ≤ cur.size) :
    (storeVar 30 ⟨h, o, none⟩ (.agg (vvs v))).run Try.prog w = .ok () (w.setRow h (cur.toList.take o ++ (vvs v).toList ++ cur.toList.drop (o + 4)).toArray) := by
  have hst := run_storeCells_at Try.prog h o 64 (vvs v).toList 0 cur w hg (by rw [Array.length_toList, vvs_size]; omega) (vvs_one v)
  rw [Nat.add_zero, Array.length_toList, vvs_size] at hst
  obtain ⟨inf, hq, hsz⟩ := Option.map_eq_some_iff.1 (show (Try.prog.info? 30).map (·.size) = some 4 by kernel_rfl)
  have hc : (Value.agg (vvs v)).cells = vvs v := by simp [vvs, Value.cells]
  simp [storeVar, sizeOf, typeInfo, hq, hc, hsz, hst, vvs_size]
section
variable {ops : Array Oper} {rest : List Oper} {Q : Exit → Act → World → Prop} {tmps : Array Value} {df : List Deferred} {d ty t u : Nat} {x : Operand} {ps : String} {af : Array Edge} {gd : Option (Nat × Bool)} {w : World}
/-- An entry takes another value. -/
theorem ev_vstore (h : Region.wanted ⟨none, .store 30 (.tmp t) x, ty, ps, af, gd⟩ (yielded ops tmps) = true ∧ ∃ g o cur v, tmps.getD t undef = .pointer (some ⟨g, o, none⟩) ∧ Act.eval ⟨tmps, df⟩ x = .agg (vvs v) ∧ w.heap[g]? = some (.cells cur 64 (0, 0)) ∧ o + 4 ≤ cur.size ∧
      wpList Try.prog ops Q rest (Act.put ⟨tmps, df⟩ none undef) (w.setRow g (cur.toList.take o ++ (vvs v).toList ++ cur.toList.drop (o + 4)).toArray)) :
    wpList Try.prog ops Q (⟨none, .store 30 (.tmp t) x, ty, ps, af, gd⟩ :: rest) ⟨tmps, df⟩ w := by
  obtain ⟨hw, g, o, cur, v, hx, hy, hg, ho, h⟩ := h
  refine wpl_run_skip hw ?_ h
  have hx' : Act.eval ⟨tmps, df⟩ (.tmp t) = .pointer (some ⟨g, o, none⟩) := hx
  simp only [execOp, hx', hy, Instr.storeAt, Instr.sureAddr, Sem.run_bind, Sem.run_pure, Result.andThen_ok, run_vstore g o v cur w hg ho]
end
theorem vvs_len (v : ValT) : (vvs v).toList.length = 4 := rfl
theorem rowe_set (es : List EntT) (i : Nat) (hi : i < es.length) (v : ValT) (c : List Value) (htk : c.take (es.length * 5) = rowe es) :
    (c.take (i * 5 + 1) ++ (vvs v).toList ++ c.drop (i * 5 + 1 + 4)).take (es.length * 5) = rowe (es.set i (es[i].1, v)) := by
  have h0 : es = es.take i ++ es[i] :: es.drop (i + 1) := by rw [List.getElem_cons_drop, List.take_append_drop]
  have hA : (rowe (es.take i)).length = i * 5 := by rw [rowe_len, List.length_take]; congr 1; omega
  have hD : (rowe (es.drop (i + 1))).length = (es.length - (i + 1)) * 5 := by rw [rowe_len, List.length_drop]
  have hr : rowe es = rowe (es.take i) ++ ([.int .i64 es[i].1] ++ ((vvs es[i].2).toList ++ rowe (es.drop (i + 1)))) := by
    have h1 : rowe es = rowe (es.take i ++ es[i] :: es.drop (i + 1)) := by rw [← h0]
    rw [h1, rowe_append]
    congr 1
  have hc : c = rowe (es.take i) ++ ([.int .i64 es[i].1] ++ ((vvs es[i].2).toList ++ (rowe (es.drop (i + 1)) ++ c.drop (es.length * 5)))) := by
    conv => lhs; rw [← List.take_append_drop (es.length * 5) c, htk, hr]
    simp only [List.append_assoc]
  have ht : c.take (i * 5 + 1) = rowe (es.take i) ++ [.int .i64 es[i].1] := by
    rw [hc, ← List.append_assoc, List.take_left' (by rw [List.length_append, hA]; rfl)]
  have hd : c.drop (i * 5 + 1 + 4) = rowe (es.drop (i + 1)) ++ c.drop (es.length * 5) := by
    conv => lhs; rw [hc]
    rw [← List.append_assoc, ← List.append_assoc, List.drop_left' (by rw [List.length_append, List.length_append, hA, vvs_len, List.length_singleton])]
  rw [ht, hd, ← List.append_assoc, List.take_left' (by
    rw [List.length_append, List.length_append, List.length_append, hA, hD, vvs_len, List.length_singleton]; omega)]
  rw [List.set_eq_take_append_cons_drop, if_pos hi]
  simp [rowe, evs, vvs]

/-- The row's block stays or is new. -/
structure Own2 (w : World) (v v' : Value) : Prop where
  own : v'.ownBlock = v.ownBlock ∨ ∃ k, v'.ownBlock = some k ∧ w.heap.size ≤ k
theorem Own2.refl (w : World) (v : Value) : Own2 w v v := ⟨.inl rfl⟩
/-- A map behind a call on it. -/
structure MpT (w w' : World) (B g : Nat) (v v' : Value) (K R : Int) (es : List EntT) : Prop where
  mp : Mp w' B g v' K R es
  rest : MpR w w' B g v.ownBlock
  own : Own2 w v v'
theorem MpT.trans {w w1 w2 : World} {B g : Nat} {v v1 v2 : Value} {K R : Int} {es es2 : List EntT} (h1 : MpT w w1 B g v v1 K R es) (h2 : MpT w1 w2 B g v1 v2 K R es2) : MpT w w2 B g v v2 K R es2 := by
  have hs := h1.rest.below.size
  refine ⟨h2.mp, ⟨h1.rest.below.trans h2.rest.below, fun k o hk hkg hkh => ?_⟩, ⟨?_⟩⟩
  · refine h2.rest.keep k o (h1.rest.keep k o hk hkg hkh) hkg fun e => ?_
    rcases h1.own.own with e1 | ⟨q, e1, hq⟩
    · exact hkh (e1.symm.trans e)
    · have h3 : q = k := Option.some.inj (e1.symm.trans e)
      have := lt_of_blk hk
      omega
  · rcases h2.own.own with e2 | ⟨q, e2, hq⟩
    · rcases h1.own.own with e1 | ⟨q, e1, hq⟩
      · exact .inl (e2.trans e1)
      · exact .inr ⟨q, e2.trans e1, hq⟩
    · exact .inr ⟨q, e2, by omega⟩
theorem MpT.refl {w : World} {B g : Nat} {v : Value} {K R : Int} {es : List EntT} (h : Mp w B g v K R es) : MpT w w B g v v K R es := ⟨h, ⟨Below.refl _ _, fun _ _ hk _ _ => hk⟩, Own2.refl w v⟩
theorem MpT.below {w w' : World} {B g : Nat} {v : Value} {K R : Int} {es : List EntT} (h : Mp w B g v K R es) (hb : Below w.heap.size w w') : MpT w w' B g v v K R es :=
  ⟨h.ext hb, ⟨hb.mono (by have := h.low; have := lt_of_blk h.blk; omega), fun _ _ hk _ _ => blk_of hb hk⟩, Own2.refl w v⟩
/-- Entries behind a touch of entry i. -/
def touched (K : Int) (es : List EntT) (i : Nat) : List EntT := if K == 2 then es.eraseIdx i ++ es[i]?.toList else es
theorem touch_is (B g i : Nat) (v : Value) (K R : Int) (es : List EntT) (w : World) (hM : Mp w B g v K R es) (hi : i < es.length) (hn : es.length ≤ 1000) :
    Calls Try.prog 25 #[.pointer (some ⟨g, 0, none⟩), .int .i64 i] w fun e w' => e = .returned (.tuple #[]) ∧ ∃ v', MpT w w' B g v v' K R (touched K es i) := by
  unfold touched
  cases hK : (K == 2)
  · refine (touch_no B g v K R i es w hM hK).mono ?_
    rintro e w' ⟨rfl, rfl⟩
    exact ⟨rfl, v, MpT.refl hM⟩
  · obtain rfl : K = 2 := by simpa using hK
    obtain ⟨a, cap, hv, hcap, hl⟩ := hM.slice
    subst hv
    rcases hM.row.2 with ⟨-, h0⟩ | ⟨h, cap', cur, hc, -⟩
    · omega
    · cases hc
      refine (touch_lru B g h cap i R es w hM hi hn).mono ?_
      rintro e w' ⟨rfl, v', h1, h2, h3⟩
      refine ⟨rfl, v', ?_, h2, ⟨h3⟩⟩
      simp only [if_true, List.getElem?_eq_getElem hi, Option.toList_some]
      exact h1

set_option maxHeartbeats 4000000 in
set_option maxRecDepth 100000 in
theorem put_hit (B g i : Nat) (v0 : Value) (K R key : Int) (v : ValT) (es : List EntT) (w : World) (hM : Mp w B g v0 K R es) (hn : es.length ≤ 100) (hfi : findI es key = some i) (hi : i < es.length) :
    Calls Try.prog 8 #[.pointer (some ⟨g, 0, none⟩), .int .i64 key, .agg (vvs v)] w fun e w' => e = .returned (.int .i64 0) ∧ ∃ v', MpT w w' B g v0 v' K R (touched K (es.set i (es[i].1, v)) i) := by
  have hFnd := fun w hM => find_is B g v0 K R key es w hM (by omega)
  rw [hfi] at hFnd
  obtain ⟨a0, c0, hv0, hc0, hl0⟩ := hM.slice
  subst hv0
  obtain ⟨h, cap', cur, hc, hhB, hgc, hcap, hcm, hcs, htk⟩ := hM.row.2.resolve_left (fun e => by have := e.2; omega)
  cases hc
  clear hl0
  have hI0 : decide ((i : Int) ≥ 0) = true := decide_eq_true (by omega)
  have hI1 : decide (0 ≤ (i : Int)) = true := decide_eq_true (by omega)
  have hi' : (i : Int) < es.length := by omega
  have hT := fun v' w' hM => touch_is B g i v' K R (es.set i ((es[i]'hi).1, v)) w' hM (by rw [List.length_set]; exact hi) (by rw [List.length_set]; omega)
  have hMlt := lt_of_blk hM.blk
  have hlow := hM.low
  have hSt := St.start w
  simp only [idxV] at hFnd
  go_enter Try.func8, Try.ntmps8
  go_wp2_with (first | ((with_reducible refine ev_box hSt ?_); refine ⟨rfl, _, rfl, ?_⟩; intro gV wN hSt; (simp only [Act.put, List.setIfInBounds_toArray, List.set_cons_succ, List.set_cons_zero])) | (go_at_call 24; refine (hFnd _ (hM.ext hSt.base)).mono ?_; rintro e w1 ⟨rfl, hb9⟩; replace hSt := hSt.ext hb9))
  have hMx := hM.ext hSt.base
  have hVx := (hSt.own _ (List.mem_cons_self ..)).1
  simp only at hVx
  have hgc1 := blk_of hSt.base hgc
  refine wp_region_rel (S := fun w' => Below w1.heap.size w1 w') [15, 16, 17, 18, 19, 20] mixed17 (by kernel_rfl) (by kernel_rfl) (by decide) (by kernel_rfl) (fun _ _ h k => h.trans (k.mono h.size)) (Below.refl _ _).drew ?_
  iterate 6 (refine rel_eq (v := ?_) ?_ ?_; rotate_left; (focus ((simp only [Lay, List.nil_append, List.cons_append, List.setIfInBounds_toArray, List.set_cons_succ, List.set_cons_zero]; intros; rename_i w9 hS hF; simp only [FactsE, List.nil_append, List.cons_append, List.toList_toArray, List.getElem?_cons_succ, List.getElem?_cons_zero] at hF; try (repeat (first | obtain ⟨rfl, hF⟩ := hF | obtain ⟨-, hF⟩ := hF))); refine step_take rfl (of_decide_eq_true rfl) ?_; (have hMq := hMx.ext hS; have hVq := blk_of hS hVx); go_wp2_with (first | ((with_reducible refine ev_load1_blk oSl ?_); refine ⟨rfl, _, _, _, _, _, rfl, hMq.blk, mpc2 _ _ _, ?_⟩; (simp only [Act.put, List.setIfInBounds_toArray, List.set_cons_succ, List.set_cons_zero])) | ((with_reducible refine ev_load1_blk oInt ?_); refine ⟨rfl, _, _, _, _, _, rfl, hMq.blk, (by first | exact mpc0 _ _ _ | exact mpc1 _ _ _), ?_⟩; (simp only [Act.put, List.setIfInBounds_toArray, List.set_cons_succ, List.set_cons_zero])) | ((with_reducible refine ev_load_agg_blk aX1 ?_); refine ⟨rfl, _, _, _, rfl, hVq, rfl, ?_⟩; (simp only [Act.put, List.setIfInBounds_toArray, List.set_cons_succ, List.set_cons_zero]))); refine RQ_mk rfl ?_ ?_; (focus first | exact Below.refl _ _ | exact (Below.refl _ _).alloc (Nat.le_refl _) _); (focus (first | (simp only [Array.getD_eq_getD_getElem?, List.getElem?_toArray, List.getElem?_cons_succ, List.getElem?_cons_zero, Option.getD_some]; done) | (simp only [Array.getD_eq_getD_getElem?, List.getElem?_toArray, List.getElem?_cons_succ, List.getElem?_cons_zero, Option.getD_some]; rfl) | rfl)))))
  refine rel_end ?_
  (simp only [Lay, List.nil_append, List.cons_append, List.setIfInBounds_toArray, List.set_cons_succ, List.set_cons_zero]; intros; rename_i w9 hS hF; simp only [FactsA, List.nil_append, List.cons_append] at hF; try (repeat (first | obtain ⟨rfl, hF⟩ := hF | obtain ⟨-, hF⟩ := hF)))
  have hg9 := blk_of hS hgc1
  have hMx9 := hMx.ext hS
  have hr := rowe_set es i hi v cur.toList htk
  obtain ⟨c1, hc1⟩ : ∃ c1, (cur.toList.take (i * 5 + 1) ++ (vvs v).toList ++ cur.toList.drop (i * 5 + 1 + 4)).toArray = c1 := ⟨_, rfl⟩
  have hc1s : c1.size = c0 * 5 := by
    rw [← hc1]
    simp only [List.size_toArray, List.length_append, List.length_take, List.length_drop, Array.length_toList, vvs_size, hcs]
    omega
  replace hr : c1.toList.take (es.length * 5) = rowe (es.set i (es[i].1, v)) := by rw [← hc1, List.toList_toArray]; exact hr
  have ho4 : i * 5 + 1 + 4 ≤ cur.size := by omega
  have hgh : g ≠ h := fun e => hM.apart (by rw [e]; rfl)
  have hlh := lt_of_blk hgc
  have hb9' : Below w.heap.size w w9 := hSt.base.trans (hS.mono hSt.base.size)
  have hX : MpT w (w9.setRow h c1) B g (.slice (some ⟨h, 0, none⟩) es.length c0) (.slice (some ⟨h, 0, none⟩) es.length c0) K R (es.set i (es[i].1, v)) := by
    have hl : (es.set i (es[i].1, v)).length = es.length := List.length_set ..
    refine ⟨⟨hlow, (setRow_other _ h g _ hgh).trans hMx9.blk, ?_, hM.apart⟩, ⟨(hb9'.mono (by omega)).trans ⟨rfl, rfl, rfl, by simp, fun k hk => setRow_other _ h k _ (by omega)⟩, fun k o hk hkg hkh => ?_⟩, Own2.refl _ _⟩
    · rw [hl]
      exact ⟨by rw [rowe_len, hl], .inr ⟨h, c0, c1, rfl, hhB, setRow_heap _ h _ _ _ _ hg9, hcap, hcm, hc1s, hr⟩⟩
    · rw [setRow_other _ h k _ (fun e => hkh (by rw [e]; rfl))]
      exact blk_of hb9' hk
  have hTo := hT _ _ hX.mp
  have hXh := Lib.hid hX
  clear hX hT hr hc1s hMx9 hb9' hFnd
  go_wp2_with (first
    | ((with_reducible refine ev_vstore ?_); refine ⟨rfl, _, _, _, _, rfl, rfl, hg9, ho4, ?_⟩; simp only [Act.put]; rw [hc1])
    | (go_at_call 25; refine hTo.mono ?_; rintro e w11 ⟨rfl, hT9⟩))
  go_ret
  obtain ⟨v', hv'⟩ := hT9
  exact ⟨rfl, v', hXh.out.trans hv'⟩
end Go.Proofs.Yteohokidlopbnaa
