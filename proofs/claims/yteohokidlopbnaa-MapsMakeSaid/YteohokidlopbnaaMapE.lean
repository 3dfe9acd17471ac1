/- Chapter 17: Put, walked. -/
import Derived.Test.YteohokidlopbnaaMapD
namespace Go.Proofs.Yteohokidlopbnaa
open Go.RowKit
set_option linter.unusedSimpArgs false
set_option linter.unusedVariables false

section
variable {P : Program} {ops : Array Oper} {rest : List Oper} {Q : Exit → Act → World → Prop} {tmps : Array Value} {df : List Deferred} {d ty t u : Nat} {x : Operand} {ps : String} {af : Array Edge} {gd : Option (Nat × Bool)} {w : World} {T : TypeId}
theorem ev_load_agg_blk {n : Nat} (hT : AggT P T n) (h : Region.wanted ⟨some d, .load T (.tmp t), ty, ps, af, gd⟩ (yielded ops tmps) = true ∧ ∃ g cs T',
      tmps.getD t undef = .pointer (some ⟨g, 0, none⟩) ∧ w.heap[g]? = some (.cells cs T' (0, 0)) ∧ cs.size = n ∧
      wpList P ops Q rest (Act.put ⟨tmps, df⟩ (some d) (.agg cs)) w) :
    wpList P ops Q (⟨some d, .load T (.tmp t), ty, ps, af, gd⟩ :: rest) ⟨tmps, df⟩ w := by
  obtain ⟨hw, g, cs, T', hx, hm, hn, h⟩ := h
  refine wpl_run hw ?_ h
  have hx' : Act.eval ⟨tmps, df⟩ (.tmp t) = .pointer (some ⟨g, 0, none⟩) := hx
  simp only [execOp, hx', Instr.loadAt, Instr.sureAddr, Sem.run_bind, Sem.run_pure, Result.andThen_ok, run_load_agg hT hm hn]
end
theorem run_entry (k : Int) (v : ValT) (w : World) : (Instr.build 64 #[(0, .int .i64 k), (1, .agg (vvs v))]).run Try.prog w = .ok (.agg (evs (k, v))) w := by kernel_rfl
section
variable {ops : Array Oper} {rest : List Oper} {Q : Exit → Act → World → Prop} {tmps : Array Value} {df : List Deferred} {d ty t u : Nat} {ps : String} {af : Array Edge} {gd : Option (Nat × Bool)} {w : World}
theorem ev_entry {x y : Operand} (h : Region.wanted ⟨some d, .build 64 #[(0, x), (1, y)], ty, ps, af, gd⟩ (yielded ops tmps) = true ∧ ∃ k v, Act.eval ⟨tmps, df⟩ x = .int .i64 k ∧ Act.eval ⟨tmps, df⟩ y = .agg (vvs v) ∧
      wpList Try.prog ops Q rest (Act.put ⟨tmps, df⟩ (some d) (.agg (evs (k, v)))) w) :
    wpList Try.prog ops Q (⟨some d, .build 64 #[(0, x), (1, y)], ty, ps, af, gd⟩ :: rest) ⟨tmps, df⟩ w := by
  obtain ⟨hw, k, v, hx, hy, h⟩ := h
  refine wpl_run hw ?_ h
  have e : (#[(0, x), (1, y)] : Array (Nat × Operand)).map (fun z => (z.1, Act.eval ⟨tmps, df⟩ z.2)) = #[(0, .int .i64 k), (1, .agg (vvs v))] := by simp [hx, hy]
  simp only [execOp]
  rw [e]
  simp only [Sem.run_bind, run_entry, Result.andThen_ok, Sem.run_pure]
end

theorem newE_stable (B : Nat) (e : EntT) : Stable (NewE B e) := fun u w w' h hb => by
  obtain ⟨g, h1, h2, h3⟩ := h
  exact ⟨g, h1, h2, blk_of hb h3⟩

/-- Two slices of one block. -/
structure OwnIs (a b : Value) : Prop where
  eq : a.ownBlock = b.ownBlock

set_option maxHeartbeats 4000000 in
set_option maxRecDepth 100000 in
theorem put_new (B g : Nat) (v0 : Value) (K R key : Int) (v : ValT) (es : List EntT) (w : World) (hM : Mp w B g v0 K R es) (hn : es.length ≤ 100) (hfi : findI es key = none) (hlen : (es.length : Int) < R) :
    Calls Try.prog 8 #[.pointer (some ⟨g, 0, none⟩), .int .i64 key, .agg (vvs v)] w fun e w' => e = .returned (.int .i64 0) ∧ ∃ v', Mp w' B g v' K R (es ++ [(key, v)]) ∧ MpR w w' B g v0.ownBlock ∧ (v'.ownBlock = v0.ownBlock ∨ ∃ k, v'.ownBlock = some k ∧ w.heap.size ≤ k) := by
  obtain ⟨i0, hi0, hz1, hz2, hz3⟩ := info_parts infoEn
  have hFnd := fun w hM => find_is B g v0 K R key es w hM (by omega)
  rw [hfi] at hFnd
  obtain ⟨a0, c0, hv0, hc0, -⟩ := hM.slice
  have eR : decide ((es.length : Int) ≥ R) = false := decide_eq_false (by omega)
  have eR2 : decide (R ≤ (es.length : Int)) = false := decide_eq_false (by omega)
  have hMlt := lt_of_blk hM.blk
  have hlow := hM.low
  have hSt := St.start w
  have hV0 := Lib.hid hv0
  rw [hv0] at hM hFnd
  simp only [idxV] at hFnd
  clear hv0 hfi
  go_enter Try.func8, Try.ntmps8
  go_wp2_with (first | ((with_reducible refine ev_box hSt ?_); refine ⟨rfl, _, rfl, ?_⟩; intro gV wN hSt; (simp only [Act.put, List.setIfInBounds_toArray, List.set_cons_succ, List.set_cons_zero])) | (go_at_call 24; refine (hFnd _ (hM.ext hSt.base)).mono ?_; rintro e w1 ⟨rfl, hb9⟩; replace hSt := hSt.ext hb9))
  have hMx := hM.ext hSt.base
  have hVx := (hSt.own _ (List.mem_cons_self ..)).1
  refine wp_region_seq (S := fun w' => Below w1.heap.size w1 w') mixed17 (by kernel_rfl) (by kernel_rfl) (Below.refl _ _).drew ?_
  iterate 10 (refine seq_take (v := ?_) rfl (of_decide_eq_true rfl) (fun w9 hS => ?_) ?_; rotate_left; (focus (have hMq := hMx.ext hS; go_wp2_with (first | ((with_reducible refine ev_load1_blk oSl ?_); refine ⟨rfl, _, _, _, _, _, rfl, hMq.blk, mpc2 _ _ _, ?_⟩; (simp only [Act.put, List.setIfInBounds_toArray, List.set_cons_succ, List.set_cons_zero])) | ((with_reducible refine ev_load1_blk oInt ?_); refine ⟨rfl, _, _, _, _, _, rfl, hMq.blk, (by first | exact mpc0 _ _ _ | exact mpc1 _ _ _), ?_⟩; (simp only [Act.put, List.setIfInBounds_toArray, List.set_cons_succ, List.set_cons_zero]))); refine VQ_mk ?_ rfl ?_; (focus rfl); exact hS)); (simp only [Act.put, List.setIfInBounds_toArray, List.set_cons_succ, List.set_cons_zero, Array.getD_eq_getD_getElem?, List.getElem?_toArray, List.getElem?_cons_succ, List.getElem?_cons_zero, Option.getD_some]))
  refine seq_nil fun w2 hS2 => ?_
  go_wp2
  have hMx' := hMx.ext hS2
  have hVx' := blk_of hS2 hVx
  have hbX : Below w.heap.size w w2 := hSt.base.trans (hS2.mono hSt.base.size)
  clear hMx hVx
  have hMx := hMx'
  have hVx := hVx'
  have hkX := Lib.hid (show ∀ k o, w.heap[k]? = some o → k ≠ g → (Value.slice a0 es.length c0).ownBlock ≠ some k → w2.heap[k]? = some o from fun k o hk _ _ => blk_of hbX hk)
  replace hbX := hbX.mono (show B ≤ w.heap.size by omega)
  have HOX : OwnIs (Value.slice a0 es.length c0) (Value.slice a0 es.length c0) := ⟨rfl⟩
  clear hFnd hM hMlt eR eR2 hMx' hVx' hb9
  have hMxb := hMx.blk
  have hMxr := hMx.row
  have hgl := lt_of_blk hMxb
  refine wp_region_relQ (S := fun w' => Below w2.heap.size w2 w') 0 [49, 50, 51, 52, 53, 54, 55, 56, 57] mixed17 (by kernel_rfl) (by kernel_rfl) (by decide) (by kernel_rfl) (fun _ _ h k => h.trans (k.mono h.size)) (Below.refl _ _).drew ?_
  refine relQ_late (.pointer (some ⟨g, 0, none⟩)) ?_ ?_
  · (simp only [Lay, List.nil_append, List.cons_append, List.setIfInBounds_toArray, List.set_cons_succ, List.set_cons_zero]; intros)
    exact .inl ⟨rfl, fun w => rfl⟩
  iterate 7 (refine rel_eq (v := ?_) ?_ ?_; rotate_left; (focus ((simp only [Lay, List.nil_append, List.cons_append, List.setIfInBounds_toArray, List.set_cons_succ, List.set_cons_zero]; intros; rename_i w9 hS hF; simp only [FactsE, List.nil_append, List.cons_append, List.toList_toArray, List.getElem?_cons_succ, List.getElem?_cons_zero] at hF; try (repeat (first | obtain ⟨rfl, hF⟩ := hF | obtain ⟨-, hF⟩ := hF))); refine step_take rfl (of_decide_eq_true rfl) ?_; (have hMq := hMx.ext hS; have hVq := blk_of hS hVx); go_wp2_with (first | ((with_reducible refine ev_load1_blk oSl ?_); refine ⟨rfl, _, _, _, _, _, rfl, hMq.blk, mpc2 _ _ _, ?_⟩; (simp only [Act.put, List.setIfInBounds_toArray, List.set_cons_succ, List.set_cons_zero])) | ((with_reducible refine ev_load1_blk oInt ?_); refine ⟨rfl, _, _, _, _, _, rfl, hMq.blk, (by first | exact mpc0 _ _ _ | exact mpc1 _ _ _), ?_⟩; (simp only [Act.put, List.setIfInBounds_toArray, List.set_cons_succ, List.set_cons_zero])) | ((with_reducible refine ev_load_agg_blk aX1 ?_); refine ⟨rfl, _, _, _, rfl, hVq, rfl, ?_⟩; (simp only [Act.put, List.setIfInBounds_toArray, List.set_cons_succ, List.set_cons_zero])) | ((with_reducible refine ev_entry ?_); refine ⟨rfl, _, _, rfl, rfl, ?_⟩; (simp only [Act.put, List.setIfInBounds_toArray, List.set_cons_succ, List.set_cons_zero]))); refine RQ_mk rfl ?_ ?_; (focus first | exact Below.refl _ _ | exact (Below.refl _ _).alloc (Nat.le_refl _) _); (focus (first | (simp only [Array.getD_eq_getD_getElem?, List.getElem?_toArray, List.getElem?_cons_succ, List.getElem?_cons_zero, Option.getD_some]; done) | (simp only [Array.getD_eq_getD_getElem?, List.getElem?_toArray, List.getElem?_cons_succ, List.getElem?_cons_zero, Option.getD_some]; rfl) | rfl)))))
  refine rel_any (NewE w2.heap.size (key, v)) (newE_stable _ _) ?_ ?_
  · (simp only [Lay, List.nil_append, List.cons_append, List.setIfInBounds_toArray, List.set_cons_succ, List.set_cons_zero]; intros; rename_i w9 hS hF; simp only [FactsE, List.nil_append, List.cons_append, List.toList_toArray, List.getElem?_cons_succ, List.getElem?_cons_zero] at hF; try (repeat (first | obtain ⟨rfl, hF⟩ := hF | obtain ⟨-, hF⟩ := hF)))
    refine step_take rfl (of_decide_eq_true rfl) ?_
    go_wp2_with ((with_reducible refine in_slice54 ?_); refine ⟨rfl, (key, v), rfl, ?_⟩; (simp only [Act.put, List.setIfInBounds_toArray, List.set_cons_succ, List.set_cons_zero]))
    refine RQ_mk rfl ((Below.refl _ _).alloc (Nat.le_refl _) _) ?_
    simp only [Array.getD_eq_getD_getElem?, List.getElem?_toArray, List.getElem?_cons_succ, List.getElem?_cons_zero, Option.getD_some]
    exact ⟨_, rfl, hS.size, heap_alloc_last _ _⟩
  refine rel_end ?_
  simp only [Lay, List.nil_append, List.cons_append, List.setIfInBounds_toArray, List.set_cons_succ, List.set_cons_zero]; intros; rename_i w9 hS hF; simp only [FactsA, List.nil_append, List.cons_append] at hF
  repeat (obtain ⟨rfl, hF⟩ := hF)
  obtain ⟨⟨gB, rfl, hgB, hgb⟩, -⟩ := hF
  have hown := row_below hMxr hS
  have hMg9 := blk_of hS hMxb
  have hSz9 := hS.size
  have hbXs := hbX.size
  go_wp2_with (first
    | (at_builtin; refine wpList_append_own_at _ rfl _ _ 54 rfl B 64 i0 _ 5 40 Try.underlying54 hi0 hz1 hz2 hz3 rfl (by decide) _ _ _ rfl hown _ 1 1 (evs (key, v)).toList rfl (by rw [Array.length_toList, evs_size]) (news_at hgb) (fun u hu => evs_one _ u hu) (by unfold maxLen; omega) (by omega) (by omega) ?_; intro v' w1' hown' hgrow0 hnil hloc0
       have hgrow : w9.grownBy w1' (Value.slice a0 es.length c0).ownBlock := hgrow0
       have hloc : v'.ownBlock = (Value.slice a0 es.length c0).ownBlock ∨ v'.ownBlock = some w9.heap.size := hloc0
       clear hgrow0 hloc0 hnil
       have hone := row_one hown'
       have hMg10 : w1'.heap[g]? = some (.cells (mpc K R (Value.slice a0 es.length c0)) 61 (0, 0)) := (hgrow.block g (by omega) (fun e => hMx.apart e.symm)).trans hMg9)
    | ((with_reducible refine ev_mpstore ?_); refine ⟨rfl, _, _, _, _, _, rfl, rfl, hone, hMg10, ?_⟩; simp only [Act.put]))
  refine NoPanic.normal ?_
  go_wp2
  go_ret
  have hg9 : ∀ k, k ≠ g → (w1'.setRow g (mpc K R v')).heap[k]? = w1'.heap[k]? := fun k hk => setRow_other _ g k _ hk
  have hb1 : Below B w w1' := (hbX.trans (hS.mono (by omega))).grown hgrow (by omega) (fun k hk => (hMxr.lt k hk).1)
  have hgne : v'.ownBlock ≠ some g := by
    rcases hloc with e | e <;> rw [e]
    · exact hMx.apart
    · exact fun e => by have := Option.some.inj e; omega
  refine ⟨rfl, v', ⟨hlow, setRow_heap _ g _ _ _ _ hMg10, ?_, hgne⟩, ⟨hb1.trans ⟨rfl, rfl, rfl, by simp, fun k hk => hg9 k (by omega)⟩, fun k o hk hkg hkh => ?_⟩, ?_⟩
  · have hrow : w1'.ownsRow B 64 5 v' (es ++ [(key, v)]).length (rowe (es ++ [(key, v)])) := by
      rw [rowe_snoc, List.length_append]
      exact hown'
    refine ⟨hrow.1, ?_⟩
    rcases hrow.2 with hn | ⟨q, c2, c3, hv, h1, h2, rest⟩
    · exact .inl hn
    · refine .inr ⟨q, c2, c3, hv, h1, (hg9 q (fun e => hgne (by rw [hv, e]; rfl))).trans h2, rest⟩
  · refine (hg9 k hkg).trans ?_
    have hk2 := hkX.out k o hk hkg (fun e => hkh (by rw [hV0.out]; exact e))
    rw [hgrow.block k (by have := lt_of_blk hk2; omega) (fun e => hkh (by rw [hV0.out, HOX.eq]; exact e.symm))]
    exact blk_of hS hk2
  · rcases hloc with e | e
    · exact .inl (by rw [hV0.out, e, HOX.eq])
    · exact .inr ⟨_, e, by omega⟩
end Go.Proofs.Yteohokidlopbnaa
