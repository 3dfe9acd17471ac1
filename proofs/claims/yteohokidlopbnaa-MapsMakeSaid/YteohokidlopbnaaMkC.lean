/- Chapter 17: the reference's Put, walked. -/
import Derived.Test.YteohokidlopbnaaMkB
namespace Go.Proofs.Yteohokidlopbnaa
open Go.RowKit
set_option linter.unusedSimpArgs false
set_option linter.unusedVariables false

theorem run_rentry (k : Int) (v : ValT) (w : World) : (Instr.build 68 #[(0, .int .i64 k), (1, .agg (vvs v))]).run Try.prog w = .ok (.agg (evs (k, v))) w := by kernel_rfl
theorem run_rslice1 (e : EntT) (w : World) : (Instr.buildSlice 49 1 #[(0, .agg (evs e))]).run Try.prog w = .ok (.slice (some ⟨w.heap.size, 0, none⟩) 1 1) (w.alloc (.cells (evs e) 68)) := by
  obtain ⟨ie, hie, h2⟩ := Option.map_eq_some_iff.1 infoRe
  have hsz : ie.size = 5 := by simpa using congrArg (fun x => x.2.1) h2
  have hzv : ie.zero = some (.agg (evs (0, 0, 0, 0, 0))) := by simpa using congrArg Prod.fst h2
  refine run_buildSlice (P := Try.prog) w 49 68 1 _ (evs e) ie _ Try.underlying49 hie hzv (by rw [hsz]; decide) (by rw [hsz]; decide) ?_
  rw [hsz]
  clear h2 hsz hzv hie
  kernel_rfl
section
variable {ops : Array Oper} {rest : List Oper} {Q : Exit → Act → World → Prop} {tmps : Array Value} {df : List Deferred} {d ty t u : Nat} {ps : String} {af : Array Edge} {gd : Option (Nat × Bool)} {w : World}
theorem ev_rentry {x y : Operand} (h : Region.wanted ⟨some d, .build 68 #[(0, x), (1, y)], ty, ps, af, gd⟩ (yielded ops tmps) = true ∧ ∃ k v, Act.eval ⟨tmps, df⟩ x = .int .i64 k ∧ Act.eval ⟨tmps, df⟩ y = .agg (vvs v) ∧
      wpList Try.prog ops Q rest (Act.put ⟨tmps, df⟩ (some d) (.agg (evs (k, v)))) w) :
    wpList Try.prog ops Q (⟨some d, .build 68 #[(0, x), (1, y)], ty, ps, af, gd⟩ :: rest) ⟨tmps, df⟩ w := by
  obtain ⟨hw, k, v, hx, hy, h⟩ := h
  refine wpl_run hw ?_ h
  have e : (#[(0, x), (1, y)] : Array (Nat × Operand)).map (fun z => (z.1, Act.eval ⟨tmps, df⟩ z.2)) = #[(0, .int .i64 k), (1, .agg (vvs v))] := by simp [hx, hy]
  simp only [execOp]
  rw [e]
  simp only [Sem.run_bind, run_rentry, Result.andThen_ok, Sem.run_pure]
theorem ev_rslice1 {x : Operand} (h : Region.wanted ⟨some d, .buildSlice 49 1 #[(0, x)], ty, ps, af, gd⟩ (yielded ops tmps) = true ∧ ∃ p, Act.eval ⟨tmps, df⟩ x = .agg (evs p) ∧
      wpList Try.prog ops Q rest (Act.put ⟨tmps, df⟩ (some d) (.slice (some ⟨w.heap.size, 0, none⟩) 1 1)) (w.alloc (.cells (evs p) 68))) :
    wpList Try.prog ops Q (⟨some d, .buildSlice 49 1 #[(0, x)], ty, ps, af, gd⟩ :: rest) ⟨tmps, df⟩ w := by
  obtain ⟨hw, p, hx, h⟩ := h
  refine wpl_run hw ?_ h
  have e : (#[(0, x)] : Array (Nat × Operand)).map (fun y => (y.1, Act.eval ⟨tmps, df⟩ y.2)) = #[(0, .agg (evs p))] := by simp [hx]
  simp only [execOp]
  rw [e]
  simp only [Sem.run_bind, run_rslice1, Result.andThen_ok]
  rfl
/-- A reference map takes another row. -/
theorem ev_rmstore {x : Operand} (h : Region.wanted ⟨none, .store 49 (.tmp t) x, ty, ps, af, gd⟩ (yielded ops tmps) = true ∧ ∃ g L R v v', tmps.getD t undef = .pointer (some ⟨g, 2, none⟩) ∧ Act.eval ⟨tmps, df⟩ x = v' ∧ v'.oneCell' = true ∧ w.heap[g]? = some (.cells (rmc L R v) 51 (0, 0)) ∧
      wpList Try.prog ops Q rest (Act.put ⟨tmps, df⟩ none undef) (w.setRow g (rmc L R v'))) :
    wpList Try.prog ops Q (⟨none, .store 49 (.tmp t) x, ty, ps, af, gd⟩ :: rest) ⟨tmps, df⟩ w := by
  obtain ⟨hw, g, L, R, v, v', hx, hy, h1, hg, h⟩ := h
  refine wpl_run_skip hw ?_ h
  have hx' : Act.eval ⟨tmps, df⟩ (.tmp t) = .pointer (some ⟨g, 2, none⟩) := hx
  have hc : w.cell? ⟨g, 2, none⟩ = some v := (cell_of_row w g 2 _ _ _ hg).trans (rmc2 L R v)
  have hf : w.frozen? ⟨g, 2, none⟩ = false := frozen_of_row w g 2 _ _ hg
  have hr' : (storeVar 49 ⟨g, 2, none⟩ v').run Try.prog w = .ok () (w.setRow g (rmc L R v')) := by
    have he : (rmc L R v).setIfInBounds 2 v' = rmc L R v' := rfl
    rw [← he, ← setCell_eq_setRow w g 2 _ _ (0, 0) v' hg]
    have := run_storeCells_cells (P := Try.prog) g 2 [v'] 0 w (fun j hj => by
      have hj0 : j = 0 := by simpa using hj
      subst hj0
      simp [hc]) (fun j hj => by
      have hj0 : j = 0 := by simpa using hj
      subst hj0
      simp [hf]) (fun u hu => by
      obtain rfl := List.mem_singleton.1 hu
      exact h1)
    obtain ⟨inf, hq, hsz⟩ := Option.map_eq_some_iff.1 (show (Try.prog.info? 49).map (·.size) = some 1 by kernel_rfl)
    simp only [Nat.add_zero] at this
    simp [storeVar, sizeOf, typeInfo, hq, cells_one h1, hsz, this, World.setCells]
  simp only [execOp, hx', hy, Instr.storeAt, Instr.sureAddr, Sem.run_bind, Sem.run_pure, Result.andThen_ok, hr']
end

/-- A slice of entries. -/
structure SlIs (w : World) (a : Option Addr) (n c : Nat) (es : List EntT) : Prop where
  sl : EnSl w a es
  len : es.length = n
  nil : a = none → c = 0
/-- A new slice of one entry. -/
def NewR (B : Nat) (e : EntT) : VR := fun u w => ∃ g, u = .slice (some ⟨g, 0, none⟩) 1 1 ∧ B ≤ g ∧ w.heap[g]? = some (.cells (evs e) 68 (0, 0))
theorem newR_stable (B : Nat) (e : EntT) : Stable (NewR B e) := fun u w w' h hb => by
  obtain ⟨g, h1, h2, h3⟩ := h
  exact ⟨g, h1, h2, blk_of hb h3⟩
theorem newR_sl {w : World} {g : Nat} {e : EntT} (hg : w.heap[g]? = some (.cells (evs e) 68 (0, 0))) : EnSl w (some ⟨g, 0, none⟩) [e] := fun j hj => by
  have h0 : j = 0 := by simpa using hj
  subst h0
  refine ⟨_, rfl, fun i v hv => ?_⟩
  rw [Addr.add_mid, Addr.add_mid, cell_of_row _ _ _ _ _ _ hg]
  rw [show 0 + 0 * 5 + i = i from by omega]
  exact hv
theorem own_mono {w : World} {B B' T k n : Nat} {v : Value} {xs : List Value} (h : w.ownsRow B' T k v n xs) (hb : B ≤ B') : w.ownsRow B T k v n xs := by
  refine ⟨h.1, ?_⟩
  rcases h.2 with hn | ⟨g, cap, cur, e, h1, rest⟩
  · exact .inl hn
  · exact .inr ⟨g, cap, cur, e, Nat.le_trans hb h1, rest⟩
/-- A reference map behind a call on it. -/
structure RmT (w w' : World) (B r : Nat) (u u' : Value) (L : Bool) (R : Int) (es : List EntT) : Prop where
  mp : Rm w' B r u' L R es
  below : Below B w w'
  keep : ∀ k o, w.heap[k]? = some o → k ≠ r → w'.heap[k]? = some o
  own : u' = u ∨ ∀ k, u'.ownBlock = some k → w.heap.size ≤ k
/-- Behind the store of a new row. -/
theorem RmT.stored {w w2 w1 : World} {B r : Nat} {u0 u u' : Value} {L : Bool} {R : Int} {es es' : List EntT} {n : Nat} (hM : Rm w2 B r u L R es) (hb2 : Below w2.heap.size w2 w1) (hbX : Below B w w2) (hkX : ∀ k o, w.heap[k]? = some o → k ≠ r → w2.heap[k]? = some o) (hw : w1.ownsRow w2.heap.size 68 5 u' n (rowe es')) (hn : es'.length = n) (hwX : w.heap.size ≤ w2.heap.size) :
    RmT w (w1.setRow r (rmc L R u')) B r u0 u' L R es' := by
  subst hn
  have hrl := lt_of_blk hM.blk
  have hr1 := blk_of hb2 hM.blk
  have hap : u'.ownBlock ≠ some r := fun e => by have := (hw.lt _ e).1; omega
  have hk1 : ∀ k, k ≠ r → (w1.setRow r (rmc L R u')).heap[k]? = w1.heap[k]? := fun k hk => setRow_other _ r k _ hk
  refine ⟨⟨hM.low, setRow_heap _ r _ _ _ _ hr1, ?_, hap⟩, hbX.trans ((hb2.mono (by have := hM.low; omega)).trans ⟨rfl, rfl, rfl, by simp, fun k hk => hk1 k (by have := hM.low; omega)⟩), fun k o hk hkr => (hk1 k hkr).trans (blk_of hb2 (hkX k o hk hkr)), .inr fun k e => by have := (hw.lt _ e).1; omega⟩
  have hw2 := own_mono hw (show B ≤ w2.heap.size by have := hM.low; omega)
  refine ⟨hw2.1, ?_⟩
  rcases hw2.2 with hn | ⟨q, c2, c3, hv, h1, h2, rest⟩
  · exact .inl hn
  · exact .inr ⟨q, c2, c3, hv, h1, (hk1 q (fun e => hap (by rw [hv, e]; rfl))).trans h2, rest⟩

set_option maxHeartbeats 4000000 in
set_option maxRecDepth 100000 in
theorem rput_new (B r : Nat) (u0 : Value) (L : Bool) (R key : Int) (v : ValT) (es : List EntT) (w : World) (hM : Rm w B r u0 L R es) (hn : es.length ≤ 50) (hfi : findI es key = none) (hlen : (es.length : Int) < R) :
    Calls Try.prog 14 #[.pointer (some ⟨r, 0, none⟩), .int .i64 key, .agg (vvs v)] w fun e w' => e = .returned (.int .i64 0) ∧ ∃ u', RmT w w' B r u0 u' L R (es ++ [(key, v)]) := by
  have hFnd := fun w hM => rat_is B r u0 L R key es w hM (by omega)
  rw [hfi] at hFnd
  obtain ⟨a0, c0, hv0, hc0, hcn, hl0, -⟩ := hM.row.sl
  have eR : ((es.length : Int) == R) = false := beq_eq_false_iff_ne.2 (by omega)
  have hMlt := lt_of_blk hM.blk
  have hSt := St.start w
  subst hv0
  simp only [idxV] at hFnd
  clear hfi
  go_enter Try.func14, Try.ntmps14
  go_wp2_with (first | ((with_reducible refine ev_box hSt ?_); refine ⟨rfl, _, rfl, ?_⟩; intro gV wN hSt; (simp only [Act.put, List.setIfInBounds_toArray, List.set_cons_succ, List.set_cons_zero])) | (go_at_call 27; refine (hFnd _ (hM.ext hSt.base)).mono ?_; rintro e w1 ⟨rfl, hw1⟩; subst w1))
  have hMx := hM.ext hSt.base
  have hVx := (hSt.own _ (List.mem_cons_self ..)).1
  refine wp_region_seq (S := fun w' => Below wN.heap.size wN w') mixed17 (by kernel_rfl) (by kernel_rfl) (Below.refl _ _).drew ?_
  iterate 11 (refine seq_take (v := ?_) rfl (of_decide_eq_true rfl) (fun w9 hS => ?_) ?_; rotate_left; (focus (have hMq := hMx.ext hS; go_wp2_with (first | ((with_reducible refine ev_load1_blk oSr ?_); refine ⟨rfl, _, _, _, _, _, rfl, hMq.blk, rmc2 _ _ _, ?_⟩; (simp only [Act.put, List.setIfInBounds_toArray, List.set_cons_succ, List.set_cons_zero])) | ((with_reducible refine ev_load1_blk oInt ?_); refine ⟨rfl, _, _, _, _, _, rfl, hMq.blk, rmc1 _ _ _, ?_⟩; (simp only [Act.put, List.setIfInBounds_toArray, List.set_cons_succ, List.set_cons_zero])) | ((with_reducible refine ev_load1_blk oBool ?_); refine ⟨rfl, _, _, _, _, _, rfl, hMq.blk, rmc0 _ _ _, ?_⟩; (simp only [Act.put, List.setIfInBounds_toArray, List.set_cons_succ, List.set_cons_zero]))); refine VQ_mk ?_ rfl ?_; (focus rfl); exact hS)); (simp only [Act.put, List.setIfInBounds_toArray, List.set_cons_succ, List.set_cons_zero, Array.getD_eq_getD_getElem?, List.getElem?_toArray, List.getElem?_cons_succ, List.getElem?_cons_zero, Option.getD_some]))
  iterate 5 (refine seq_skip rfl ?_; (simp only [Act.put, List.setIfInBounds_toArray, List.set_cons_succ, List.set_cons_zero]))
  (refine seq_take (v := ?_) rfl (of_decide_eq_true rfl) (fun w9 hS => ?_) ?_; rotate_left; (focus (have hMq := hMx.ext hS; go_wp2_with (first | ((with_reducible refine ev_load1_blk oSr ?_); refine ⟨rfl, _, _, _, _, _, rfl, hMq.blk, rmc2 _ _ _, ?_⟩; (simp only [Act.put, List.setIfInBounds_toArray, List.set_cons_succ, List.set_cons_zero])) | ((with_reducible refine ev_load1_blk oInt ?_); refine ⟨rfl, _, _, _, _, _, rfl, hMq.blk, rmc1 _ _ _, ?_⟩; (simp only [Act.put, List.setIfInBounds_toArray, List.set_cons_succ, List.set_cons_zero])) | ((with_reducible refine ev_load1_blk oBool ?_); refine ⟨rfl, _, _, _, _, _, rfl, hMq.blk, rmc0 _ _ _, ?_⟩; (simp only [Act.put, List.setIfInBounds_toArray, List.set_cons_succ, List.set_cons_zero]))); refine VQ_mk ?_ rfl ?_; (focus rfl); exact hS)); (simp only [Act.put, List.setIfInBounds_toArray, List.set_cons_succ, List.set_cons_zero, Array.getD_eq_getD_getElem?, List.getElem?_toArray, List.getElem?_cons_succ, List.getElem?_cons_zero, Option.getD_some]))
  refine seq_nil fun w2 hS2 => ?_
  go_wp2
  have hMx' := hMx.ext hS2
  have hVx' := blk_of hS2 hVx
  have hb2 : Below w.heap.size w w2 := hSt.base.trans (hS2.mono hSt.base.size)
  clear hMx hVx
  have hMx := hMx'
  have hVx := hVx'
  clear hMx' hVx' hS2
  refine wp_region_seq (S := fun w' => Below w2.heap.size w2 w') mixed17 (by kernel_rfl) (by kernel_rfl) (Below.refl _ _).drew ?_
  iterate 10 (refine seq_take (v := ?_) rfl (of_decide_eq_true rfl) (fun w9 hS => ?_) ?_; rotate_left; (focus (have hMq := hMx.ext hS; go_wp2_with (first | ((with_reducible refine ev_load1_blk oSr ?_); refine ⟨rfl, _, _, _, _, _, rfl, hMq.blk, rmc2 _ _ _, ?_⟩; (simp only [Act.put, List.setIfInBounds_toArray, List.set_cons_succ, List.set_cons_zero])) | ((with_reducible refine ev_load1_blk oInt ?_); refine ⟨rfl, _, _, _, _, _, rfl, hMq.blk, rmc1 _ _ _, ?_⟩; (simp only [Act.put, List.setIfInBounds_toArray, List.set_cons_succ, List.set_cons_zero])) | ((with_reducible refine ev_load1_blk oBool ?_); refine ⟨rfl, _, _, _, _, _, rfl, hMq.blk, rmc0 _ _ _, ?_⟩; (simp only [Act.put, List.setIfInBounds_toArray, List.set_cons_succ, List.set_cons_zero]))); refine VQ_mk ?_ rfl ?_; (focus rfl); exact hS)); (simp only [Act.put, List.setIfInBounds_toArray, List.set_cons_succ, List.set_cons_zero, Array.getD_eq_getD_getElem?, List.getElem?_toArray, List.getElem?_cons_succ, List.getElem?_cons_zero, Option.getD_some]))
  refine seq_nil fun w3 hS3 => ?_
  go_wp2
  have hMx' := hMx.ext hS3
  have hVx' := blk_of hS3 hVx
  have hb3 : Below w.heap.size w w3 := hb2.trans (hS3.mono hb2.size)
  clear hMx hVx hb2 hS3
  have hMx := hMx'
  have hVx := hVx'
  clear hMx' hVx'
  have hkX := Lib.hid (show ∀ k o, w.heap[k]? = some o → k ≠ r → w3.heap[k]? = some o from fun k o hk _ => blk_of hb3 hk)
  have hbX : Below B w w3 := hb3.mono (by have := hM.low; omega)
  have hwX := hb3.size
  have HSL : SlIs w3 a0 es.length c0 es := ⟨hl0.ext hb3, rfl, hcn⟩
  clear hFnd hM hMlt eR hl0 hcn hb3
  have hgl := lt_of_blk hMx.blk
  refine wp_region_relQ (S := fun w' => Below w3.heap.size w3 w') 0 [89, 90, 91, 92, 93, 94, 95, 96, 97, 98, 99] mixed17 (by kernel_rfl) (by kernel_rfl) (by decide) (by kernel_rfl) (fun _ _ h k => h.trans (k.mono h.size)) (Below.refl _ _).drew ?_
  refine relQ_late (.pointer (some ⟨r, 0, none⟩)) ?_ ?_
  · (simp only [Lay, List.nil_append, List.cons_append, List.setIfInBounds_toArray, List.set_cons_succ, List.set_cons_zero]; intros)
    exact .inl ⟨rfl, fun w => rfl⟩
  refine rel_any (EmpR w3.heap.size) (empR_stable _) ?_ ?_
  · (simp only [Lay, List.nil_append, List.cons_append, List.setIfInBounds_toArray, List.set_cons_succ, List.set_cons_zero]; intros; rename_i w9 hS hF; simp only [FactsE, List.nil_append, List.cons_append, List.toList_toArray, List.getElem?_cons_succ, List.getElem?_cons_zero] at hF; try (repeat (first | obtain ⟨rfl, hF⟩ := hF | obtain ⟨(hownF : OwnE _ _ _ _ _), hF⟩ := hF | (obtain ⟨(hEm : EmpR _ _ _), hF⟩ := hF; obtain ⟨gE, rfl, hgE1, hgE2⟩ := hEm) | (obtain ⟨(hNr : NewR _ _ _ _), hF⟩ := hF; obtain ⟨gB, rfl, hgB, hgb⟩ := hNr))))
    refine step_take rfl (of_decide_eq_true rfl) ?_
    go_wp2
    refine RQ_mk rfl ((Below.refl _ _).alloc (Nat.le_refl _) _) ?_
    simp only [Array.getD_eq_getD_getElem?, List.getElem?_toArray, List.getElem?_cons_succ, List.getElem?_cons_zero, Option.getD_some]
    exact ⟨_, rfl, hS.size, heap_alloc_last _ _⟩
  iterate 4 (refine rel_eq (v := ?_) ?_ ?_; rotate_left; (focus ((simp only [Lay, List.nil_append, List.cons_append, List.setIfInBounds_toArray, List.set_cons_succ, List.set_cons_zero]; intros; rename_i w9 hS hF; simp only [FactsE, List.nil_append, List.cons_append, List.toList_toArray, List.getElem?_cons_succ, List.getElem?_cons_zero] at hF; try (repeat (first | obtain ⟨rfl, hF⟩ := hF | obtain ⟨(hownF : OwnE _ _ _ _ _), hF⟩ := hF | (obtain ⟨(hEm : EmpR _ _ _), hF⟩ := hF; obtain ⟨gE, rfl, hgE1, hgE2⟩ := hEm) | (obtain ⟨(hNr : NewR _ _ _ _), hF⟩ := hF; obtain ⟨gB, rfl, hgB, hgb⟩ := hNr)))); refine step_take rfl (of_decide_eq_true rfl) ?_; (have hMq := hMx.ext hS; have hVq := blk_of hS hVx); go_wp2_with (first | ((with_reducible refine ev_load1_blk oSr ?_); refine ⟨rfl, _, _, _, _, _, rfl, hMq.blk, rmc2 _ _ _, ?_⟩; (simp only [Act.put, List.setIfInBounds_toArray, List.set_cons_succ, List.set_cons_zero])) | ((with_reducible refine ev_load1_blk oInt ?_); refine ⟨rfl, _, _, _, _, _, rfl, hMq.blk, rmc1 _ _ _, ?_⟩; (simp only [Act.put, List.setIfInBounds_toArray, List.set_cons_succ, List.set_cons_zero])) | ((with_reducible refine ev_load1_blk oBool ?_); refine ⟨rfl, _, _, _, _, _, rfl, hMq.blk, rmc0 _ _ _, ?_⟩; (simp only [Act.put, List.setIfInBounds_toArray, List.set_cons_succ, List.set_cons_zero])) | ((with_reducible refine ev_load_agg_blk aV4 ?_); refine ⟨rfl, _, _, _, rfl, hVq, rfl, ?_⟩; (simp only [Act.put, List.setIfInBounds_toArray, List.set_cons_succ, List.set_cons_zero])) | ((with_reducible refine ev_rentry ?_); refine ⟨rfl, _, _, rfl, rfl, ?_⟩; (simp only [Act.put, List.setIfInBounds_toArray, List.set_cons_succ, List.set_cons_zero]))); refine RQ_mk rfl ?_ ?_; (focus first | exact Below.refl _ _ | exact (Below.refl _ _).alloc (Nat.le_refl _) _); (focus (first | (simp only [Array.getD_eq_getD_getElem?, List.getElem?_toArray, List.getElem?_cons_succ, List.getElem?_cons_zero, Option.getD_some]; done) | (simp only [Array.getD_eq_getD_getElem?, List.getElem?_toArray, List.getElem?_cons_succ, List.getElem?_cons_zero, Option.getD_some]; rfl) | rfl)))))
  refine rel_any (OwnE w3.heap.size es.length (es)) (ownE_stable _ _ _) ?_ ?_
  · (simp only [Lay, List.nil_append, List.cons_append, List.setIfInBounds_toArray, List.set_cons_succ, List.set_cons_zero]; intros; rename_i w9 hS hF; simp only [FactsE, List.nil_append, List.cons_append, List.toList_toArray, List.getElem?_cons_succ, List.getElem?_cons_zero] at hF; try (repeat (first | obtain ⟨rfl, hF⟩ := hF | obtain ⟨(hownF : OwnE _ _ _ _ _), hF⟩ := hF | (obtain ⟨(hEm : EmpR _ _ _), hF⟩ := hF; obtain ⟨gE, rfl, hgE1, hgE2⟩ := hEm) | (obtain ⟨(hNr : NewR _ _ _ _), hF⟩ := hF; obtain ⟨gB, rfl, hgB, hgb⟩ := hNr))))
    refine step_take rfl (of_decide_eq_true rfl) ?_
    obtain ⟨vA, wA, hrun, hown, hbel⟩ := run_appE (c := c0) hgE2 hgE1 (HSL.sl.ext hS) HSL.len HSL.nil (by omega)
    go_wp2_with ((with_reducible refine ev_append ?_); refine ⟨rfl, _, _, _, _, rfl, rfl, hrun, ?_⟩; (simp only [Act.put, List.setIfInBounds_toArray, List.set_cons_succ, List.set_cons_zero]))
    refine RQ_mk rfl hbel ?_
    simp only [Array.getD_eq_getD_getElem?, List.getElem?_toArray, List.getElem?_cons_succ, List.getElem?_cons_zero, Option.getD_some]
    exact hown
  iterate 3 (refine rel_eq (v := ?_) ?_ ?_; rotate_left; (focus ((simp only [Lay, List.nil_append, List.cons_append, List.setIfInBounds_toArray, List.set_cons_succ, List.set_cons_zero]; intros; rename_i w9 hS hF; simp only [FactsE, List.nil_append, List.cons_append, List.toList_toArray, List.getElem?_cons_succ, List.getElem?_cons_zero] at hF; try (repeat (first | obtain ⟨rfl, hF⟩ := hF | obtain ⟨(hownF : OwnE _ _ _ _ _), hF⟩ := hF | (obtain ⟨(hEm : EmpR _ _ _), hF⟩ := hF; obtain ⟨gE, rfl, hgE1, hgE2⟩ := hEm) | (obtain ⟨(hNr : NewR _ _ _ _), hF⟩ := hF; obtain ⟨gB, rfl, hgB, hgb⟩ := hNr)))); refine step_take rfl (of_decide_eq_true rfl) ?_; (have hMq := hMx.ext hS; have hVq := blk_of hS hVx); go_wp2_with (first | ((with_reducible refine ev_load1_blk oSr ?_); refine ⟨rfl, _, _, _, _, _, rfl, hMq.blk, rmc2 _ _ _, ?_⟩; (simp only [Act.put, List.setIfInBounds_toArray, List.set_cons_succ, List.set_cons_zero])) | ((with_reducible refine ev_load1_blk oInt ?_); refine ⟨rfl, _, _, _, _, _, rfl, hMq.blk, rmc1 _ _ _, ?_⟩; (simp only [Act.put, List.setIfInBounds_toArray, List.set_cons_succ, List.set_cons_zero])) | ((with_reducible refine ev_load1_blk oBool ?_); refine ⟨rfl, _, _, _, _, _, rfl, hMq.blk, rmc0 _ _ _, ?_⟩; (simp only [Act.put, List.setIfInBounds_toArray, List.set_cons_succ, List.set_cons_zero])) | ((with_reducible refine ev_load_agg_blk aV4 ?_); refine ⟨rfl, _, _, _, rfl, hVq, rfl, ?_⟩; (simp only [Act.put, List.setIfInBounds_toArray, List.set_cons_succ, List.set_cons_zero])) | ((with_reducible refine ev_rentry ?_); refine ⟨rfl, _, _, rfl, rfl, ?_⟩; (simp only [Act.put, List.setIfInBounds_toArray, List.set_cons_succ, List.set_cons_zero]))); refine RQ_mk rfl ?_ ?_; (focus first | exact Below.refl _ _ | exact (Below.refl _ _).alloc (Nat.le_refl _) _); (focus (first | (simp only [Array.getD_eq_getD_getElem?, List.getElem?_toArray, List.getElem?_cons_succ, List.getElem?_cons_zero, Option.getD_some]; done) | (simp only [Array.getD_eq_getD_getElem?, List.getElem?_toArray, List.getElem?_cons_succ, List.getElem?_cons_zero, Option.getD_some]; rfl) | rfl)))))
  refine rel_any (NewR w3.heap.size (key, v)) (newR_stable _ _) ?_ ?_
  · (simp only [Lay, List.nil_append, List.cons_append, List.setIfInBounds_toArray, List.set_cons_succ, List.set_cons_zero]; intros; rename_i w9 hS hF; simp only [FactsE, List.nil_append, List.cons_append, List.toList_toArray, List.getElem?_cons_succ, List.getElem?_cons_zero] at hF; try (repeat (first | obtain ⟨rfl, hF⟩ := hF | obtain ⟨(hownF : OwnE _ _ _ _ _), hF⟩ := hF | (obtain ⟨(hEm : EmpR _ _ _), hF⟩ := hF; obtain ⟨gE, rfl, hgE1, hgE2⟩ := hEm) | (obtain ⟨(hNr : NewR _ _ _ _), hF⟩ := hF; obtain ⟨gB, rfl, hgB, hgb⟩ := hNr))))
    refine step_take rfl (of_decide_eq_true rfl) ?_
    go_wp2_with ((with_reducible refine ev_rslice1 ?_); refine ⟨rfl, (key, v), rfl, ?_⟩; (simp only [Act.put, List.setIfInBounds_toArray, List.set_cons_succ, List.set_cons_zero]))
    refine RQ_mk rfl ((Below.refl _ _).alloc (Nat.le_refl _) _) ?_
    simp only [Array.getD_eq_getD_getElem?, List.getElem?_toArray, List.getElem?_cons_succ, List.getElem?_cons_zero, Option.getD_some]
    exact ⟨_, rfl, hS.size, heap_alloc_last _ _⟩
  refine rel_end ?_
  (simp only [Lay, List.nil_append, List.cons_append, List.setIfInBounds_toArray, List.set_cons_succ, List.set_cons_zero]; intros; rename_i w9 hS hF; simp only [FactsA, List.nil_append, List.cons_append] at hF; try (repeat (first | obtain ⟨rfl, hF⟩ := hF | obtain ⟨(hownF : OwnE _ _ _ _ _), hF⟩ := hF | (obtain ⟨(hEm : EmpR _ _ _), hF⟩ := hF; obtain ⟨gE, rfl, hgE1, hgE2⟩ := hEm) | (obtain ⟨(hNr : NewR _ _ _ _), hF⟩ := hF; obtain ⟨gB, rfl, hgB, hgb⟩ := hNr))))
  obtain ⟨vA, wA, hrun, hownA, hA, -⟩ := run_appR (m := 1) (c := 1) hownF (newR_sl hgb) rfl (fun e => by cases e) hS.size (by omega)
  have hb9 := hS.trans (hA.below hownF hS.size)
  have hRA := blk_of hb9 hMx.blk
  have hone := row_one hownA
  have HO := Lib.hid (And.intro hownA hb9)
  clear hownA hA hb9
  go_wp2_with (first
    | ((with_reducible refine ev_append ?_); refine ⟨rfl, _, _, _, _, rfl, rfl, hrun, ?_⟩; (simp only [Act.put, List.setIfInBounds_toArray, List.set_cons_succ, List.set_cons_zero]))
    | ((with_reducible refine ev_rmstore ?_); refine ⟨rfl, _, _, _, _, _, rfl, rfl, hone, hRA, ?_⟩; simp only [Act.put]))
  refine NoPanic.normal ?_
  go_wp2
  go_ret
  exact ⟨rfl, _, RmT.stored hMx HO.out.2 hbX hkX.out HO.out.1 (by first | (rw [List.length_append, HSL.len]; done) | (rw [List.length_append, HSL.len]; rfl)) hwX⟩

set_option maxHeartbeats 4000000 in
set_option maxRecDepth 100000 in
theorem rput_hash (B r : Nat) (u0 : Value) (R key : Int) (v : ValT) (es : List EntT) (w : World) (hM : Rm w B r u0 false R es) (hn : es.length ≤ 50) (hfi : findI es key = none) (hlen : (es.length : Int) = R) :
    Calls Try.prog 14 #[.pointer (some ⟨r, 0, none⟩), .int .i64 key, .agg (vvs v)] w fun e w' => e = .returned (.int .i64 28) ∧ RmT w w' B r u0 u0 false R es := by
  have hFnd := fun w hM => rat_is B r u0 false R key es w hM (by omega)
  rw [hfi] at hFnd
  obtain ⟨a0, c0, hv0, hc0, hcn, hl0, -⟩ := hM.row.sl
  have eR : ((es.length : Int) == R) = true := beq_iff_eq.2 hlen
  have hSt := St.start w
  subst hv0
  simp only [idxV] at hFnd
  clear hfi hlen hcn
  go_enter Try.func14, Try.ntmps14
  go_wp2_with (first | ((with_reducible refine ev_box hSt ?_); refine ⟨rfl, _, rfl, ?_⟩; intro gV wN hSt; (simp only [Act.put, List.setIfInBounds_toArray, List.set_cons_succ, List.set_cons_zero])) | (go_at_call 27; refine (hFnd _ (hM.ext hSt.base)).mono ?_; rintro e w1 ⟨rfl, hw1⟩; subst w1))
  have hMx := hM.ext hSt.base
  refine wp_region_seq (S := fun w' => Below wN.heap.size wN w') mixed17 (by kernel_rfl) (by kernel_rfl) (Below.refl _ _).drew ?_
  iterate 17 (refine seq_take (v := ?_) rfl (of_decide_eq_true rfl) (fun w9 hS => ?_) ?_; rotate_left; (focus (have hMq := hMx.ext hS; go_wp2_with (first | ((with_reducible refine ev_load1_blk oSr ?_); refine ⟨rfl, _, _, _, _, _, rfl, hMq.blk, rmc2 _ _ _, ?_⟩; (simp only [Act.put, List.setIfInBounds_toArray, List.set_cons_succ, List.set_cons_zero])) | ((with_reducible refine ev_load1_blk oInt ?_); refine ⟨rfl, _, _, _, _, _, rfl, hMq.blk, rmc1 _ _ _, ?_⟩; (simp only [Act.put, List.setIfInBounds_toArray, List.set_cons_succ, List.set_cons_zero])) | ((with_reducible refine ev_load1_blk oBool ?_); refine ⟨rfl, _, _, _, _, _, rfl, hMq.blk, rmc0 _ _ _, ?_⟩; (simp only [Act.put, List.setIfInBounds_toArray, List.set_cons_succ, List.set_cons_zero]))); refine VQ_mk ?_ rfl ?_; (focus rfl); exact hS)); (simp only [Act.put, List.setIfInBounds_toArray, List.set_cons_succ, List.set_cons_zero, Array.getD_eq_getD_getElem?, List.getElem?_toArray, List.getElem?_cons_succ, List.getElem?_cons_zero, Option.getD_some]))
  refine seq_nil fun w2 hS2 => ?_
  go_wp2
  go_ret
  have hb := hSt.base.trans (hS2.mono hSt.base.size)
  exact ⟨rfl, hM.ext hb, hb.mono (by have := hM.low; have := lt_of_blk hM.blk; omega), fun k o hk _ => blk_of hb hk, .inl rfl⟩

set_option maxHeartbeats 4000000 in
set_option maxRecDepth 100000 in
theorem rput_lru (B r : Nat) (u0 : Value) (R key : Int) (v : ValT) (es : List EntT) (w : World) (hM : Rm w B r u0 true R es) (hn : es.length ≤ 50) (hfi : findI es key = none) (hlen : (es.length : Int) = R) (h0 : 0 < es.length) :
    Calls Try.prog 14 #[.pointer (some ⟨r, 0, none⟩), .int .i64 key, .agg (vvs v)] w fun e w' => e = .returned (.int .i64 0) ∧ ∃ u', RmT w w' B r u0 u' true R (es.eraseIdx 0 ++ [(key, v)]) := by
  have hFnd := fun w hM => rat_is B r u0 true R key es w hM (by omega)
  rw [hfi] at hFnd
  have hWo : ∀ w, Rm w B r u0 true R es → Calls Try.prog 28 #[.pointer (some ⟨r, 0, none⟩), .int .i64 0] w fun e w' => ∃ v', e = .returned v' ∧ RRow w' w.heap.size v' (es.eraseIdx 0) ∧ Below w.heap.size w w' := fun w hM => rwithout_is B r 0 u0 true R es w hM (by omega) h0
  obtain ⟨a0, c0, hv0, hc0, hcn, hl0, -⟩ := hM.row.sl
  have eR : ((es.length : Int) == R) = true := beq_iff_eq.2 hlen
  have hMlt := lt_of_blk hM.blk
  have hSt := St.start w
  have hel : (es.eraseIdx 0).length ≤ 50 := by rw [List.length_eraseIdx, if_pos h0]; omega
  generalize es.eraseIdx 0 = es' at *
  subst hv0
  simp only [idxV] at hFnd
  clear hfi hlen hcn
  go_enter Try.func14, Try.ntmps14
  go_wp2_with (first | ((with_reducible refine ev_box hSt ?_); refine ⟨rfl, _, rfl, ?_⟩; intro gV wN hSt; (simp only [Act.put, List.setIfInBounds_toArray, List.set_cons_succ, List.set_cons_zero])) | (go_at_call 27; refine (hFnd _ (hM.ext hSt.base)).mono ?_; rintro e w1 ⟨rfl, hw1⟩; subst w1))
  have hMx := hM.ext hSt.base
  have hVx := (hSt.own _ (List.mem_cons_self ..)).1
  refine wp_region_seq (S := fun w' => Below wN.heap.size wN w') mixed17 (by kernel_rfl) (by kernel_rfl) (Below.refl _ _).drew ?_
  iterate 17 (refine seq_take (v := ?_) rfl (of_decide_eq_true rfl) (fun w9 hS => ?_) ?_; rotate_left; (focus (have hMq := hMx.ext hS; go_wp2_with (first | ((with_reducible refine ev_load1_blk oSr ?_); refine ⟨rfl, _, _, _, _, _, rfl, hMq.blk, rmc2 _ _ _, ?_⟩; (simp only [Act.put, List.setIfInBounds_toArray, List.set_cons_succ, List.set_cons_zero])) | ((with_reducible refine ev_load1_blk oInt ?_); refine ⟨rfl, _, _, _, _, _, rfl, hMq.blk, rmc1 _ _ _, ?_⟩; (simp only [Act.put, List.setIfInBounds_toArray, List.set_cons_succ, List.set_cons_zero])) | ((with_reducible refine ev_load1_blk oBool ?_); refine ⟨rfl, _, _, _, _, _, rfl, hMq.blk, rmc0 _ _ _, ?_⟩; (simp only [Act.put, List.setIfInBounds_toArray, List.set_cons_succ, List.set_cons_zero]))); refine VQ_mk ?_ rfl ?_; (focus rfl); exact hS)); (simp only [Act.put, List.setIfInBounds_toArray, List.set_cons_succ, List.set_cons_zero, Array.getD_eq_getD_getElem?, List.getElem?_toArray, List.getElem?_cons_succ, List.getElem?_cons_zero, Option.getD_some]))
  refine seq_nil fun w2 hS2 => ?_
  go_wp2
  have hMx' := hMx.ext hS2
  have hVx' := blk_of hS2 hVx
  have hb2 : Below w.heap.size w w2 := hSt.base.trans (hS2.mono hSt.base.size)
  clear hMx hVx
  have hMx := hMx'
  have hVx := hVx'
  clear hMx' hVx' hS2
  refine wp_region_seq (S := fun w' => Below w2.heap.size w2 w') mixed17 (by kernel_rfl) (by kernel_rfl) (Below.refl _ _).drew ?_
  iterate 10 (refine seq_take (v := ?_) rfl (of_decide_eq_true rfl) (fun w9 hS => ?_) ?_; rotate_left; (focus (have hMq := hMx.ext hS; go_wp2_with (first | ((with_reducible refine ev_load1_blk oSr ?_); refine ⟨rfl, _, _, _, _, _, rfl, hMq.blk, rmc2 _ _ _, ?_⟩; (simp only [Act.put, List.setIfInBounds_toArray, List.set_cons_succ, List.set_cons_zero])) | ((with_reducible refine ev_load1_blk oInt ?_); refine ⟨rfl, _, _, _, _, _, rfl, hMq.blk, rmc1 _ _ _, ?_⟩; (simp only [Act.put, List.setIfInBounds_toArray, List.set_cons_succ, List.set_cons_zero])) | ((with_reducible refine ev_load1_blk oBool ?_); refine ⟨rfl, _, _, _, _, _, rfl, hMq.blk, rmc0 _ _ _, ?_⟩; (simp only [Act.put, List.setIfInBounds_toArray, List.set_cons_succ, List.set_cons_zero]))); refine VQ_mk ?_ rfl ?_; (focus rfl); exact hS)); (simp only [Act.put, List.setIfInBounds_toArray, List.set_cons_succ, List.set_cons_zero, Array.getD_eq_getD_getElem?, List.getElem?_toArray, List.getElem?_cons_succ, List.getElem?_cons_zero, Option.getD_some]))
  refine seq_nil fun w3 hS3 => ?_
  go_upto_region 12 with (first
    | (go_at_call 28; refine (hWo _ (hMx.ext hS3)).mono ?_; rintro e w4 ⟨vW, rfl, hrW, hbW⟩
       have hRW := blk_of hbW (hMx.ext hS3).blk
       have hone := row_one hrW)
    | ((with_reducible refine ev_rmstore ?_); refine ⟨rfl, _, _, _, _, vW, rfl, rfl, hone, hRW, ?_⟩; simp only [Act.put]))
  have hb3 : Below w.heap.size w w3 := hb2.trans (hS3.mono hb2.size)
  have hT4 := RmT.stored (w := w) (u0 := Value.slice a0 es.length c0) (hMx.ext hS3) hbW (hb3.mono (by have := hM.low; omega)) (fun k o hk _ => blk_of hb3 hk) hrW rfl hb3.size
  have hVg : gV ≠ r := fun e => by have h1 := (hSt.own _ (List.mem_cons_self ..)).2; rw [e] at h1; have h2 : w.heap.size ≤ r := h1; omega
  have hV4 : (w4.setRow r (rmc true R vW)).heap[gV]? = some (.cells (vvs v) 29 (0, 0)) := (setRow_other _ r gV _ hVg).trans (blk_of hbW (blk_of hS3 hVx))
  have hw4s : w.heap.size ≤ (w4.setRow r (rmc true R vW)).heap.size := by
    have h1 := hb3.size
    have h2 := hbW.size
    exact Nat.le_trans h1 (Nat.le_trans h2 (by simp))
  clear hMx hVx
  have hMx := hT4.mp
  have hVx := hV4
  obtain ⟨a1, c1, hv1, hc1, hcn1, hl1, -⟩ := hMx.row.sl
  subst hv1
  have hkX := Lib.hid hT4.keep
  have hbX := hT4.below
  have hwX := hw4s
  have HSL : SlIs (w4.setRow r (rmc true R (Value.slice a1 es'.length c1))) a1 es'.length c1 es' := ⟨hl1, rfl, hcn1⟩
  generalize (w4.setRow r (rmc true R (Value.slice a1 es'.length c1))) = w5 at *
  clear hFnd hWo hM hMlt eR hl0 hl1 hcn1 hb3 hT4 hV4 hw4s hRW hrW hone hbW hb2 hS3
  have hgl := lt_of_blk hMx.blk
  refine wp_region_relQ (S := fun w' => Below w5.heap.size w5 w') 0 [89, 90, 91, 92, 93, 94, 95, 96, 97, 98, 99] mixed17 (by kernel_rfl) (by kernel_rfl) (by decide) (by kernel_rfl) (fun _ _ h k => h.trans (k.mono h.size)) (Below.refl _ _).drew ?_
  refine relQ_late (.pointer (some ⟨r, 0, none⟩)) ?_ ?_
  · (simp only [Lay, List.nil_append, List.cons_append, List.setIfInBounds_toArray, List.set_cons_succ, List.set_cons_zero]; intros)
    exact .inl ⟨rfl, fun w => rfl⟩
  refine rel_any (EmpR w5.heap.size) (empR_stable _) ?_ ?_
  · (simp only [Lay, List.nil_append, List.cons_append, List.setIfInBounds_toArray, List.set_cons_succ, List.set_cons_zero]; intros; rename_i w9 hS hF; simp only [FactsE, List.nil_append, List.cons_append, List.toList_toArray, List.getElem?_cons_succ, List.getElem?_cons_zero] at hF; try (repeat (first | obtain ⟨rfl, hF⟩ := hF | obtain ⟨(hownF : OwnE _ _ _ _ _), hF⟩ := hF | (obtain ⟨(hEm : EmpR _ _ _), hF⟩ := hF; obtain ⟨gE, rfl, hgE1, hgE2⟩ := hEm) | (obtain ⟨(hNr : NewR _ _ _ _), hF⟩ := hF; obtain ⟨gB, rfl, hgB, hgb⟩ := hNr))))
    refine step_take rfl (of_decide_eq_true rfl) ?_
    go_wp2
    refine RQ_mk rfl ((Below.refl _ _).alloc (Nat.le_refl _) _) ?_
    simp only [Array.getD_eq_getD_getElem?, List.getElem?_toArray, List.getElem?_cons_succ, List.getElem?_cons_zero, Option.getD_some]
    exact ⟨_, rfl, hS.size, heap_alloc_last _ _⟩
  iterate 4 (refine rel_eq (v := ?_) ?_ ?_; rotate_left; (focus ((simp only [Lay, List.nil_append, List.cons_append, List.setIfInBounds_toArray, List.set_cons_succ, List.set_cons_zero]; intros; rename_i w9 hS hF; simp only [FactsE, List.nil_append, List.cons_append, List.toList_toArray, List.getElem?_cons_succ, List.getElem?_cons_zero] at hF; try (repeat (first | obtain ⟨rfl, hF⟩ := hF | obtain ⟨(hownF : OwnE _ _ _ _ _), hF⟩ := hF | (obtain ⟨(hEm : EmpR _ _ _), hF⟩ := hF; obtain ⟨gE, rfl, hgE1, hgE2⟩ := hEm) | (obtain ⟨(hNr : NewR _ _ _ _), hF⟩ := hF; obtain ⟨gB, rfl, hgB, hgb⟩ := hNr)))); refine step_take rfl (of_decide_eq_true rfl) ?_; (have hMq := hMx.ext hS; have hVq := blk_of hS hVx); go_wp2_with (first | ((with_reducible refine ev_load1_blk oSr ?_); refine ⟨rfl, _, _, _, _, _, rfl, hMq.blk, rmc2 _ _ _, ?_⟩; (simp only [Act.put, List.setIfInBounds_toArray, List.set_cons_succ, List.set_cons_zero])) | ((with_reducible refine ev_load1_blk oInt ?_); refine ⟨rfl, _, _, _, _, _, rfl, hMq.blk, rmc1 _ _ _, ?_⟩; (simp only [Act.put, List.setIfInBounds_toArray, List.set_cons_succ, List.set_cons_zero])) | ((with_reducible refine ev_load1_blk oBool ?_); refine ⟨rfl, _, _, _, _, _, rfl, hMq.blk, rmc0 _ _ _, ?_⟩; (simp only [Act.put, List.setIfInBounds_toArray, List.set_cons_succ, List.set_cons_zero])) | ((with_reducible refine ev_load_agg_blk aV4 ?_); refine ⟨rfl, _, _, _, rfl, hVq, rfl, ?_⟩; (simp only [Act.put, List.setIfInBounds_toArray, List.set_cons_succ, List.set_cons_zero])) | ((with_reducible refine ev_rentry ?_); refine ⟨rfl, _, _, rfl, rfl, ?_⟩; (simp only [Act.put, List.setIfInBounds_toArray, List.set_cons_succ, List.set_cons_zero]))); refine RQ_mk rfl ?_ ?_; (focus first | exact Below.refl _ _ | exact (Below.refl _ _).alloc (Nat.le_refl _) _); (focus (first | (simp only [Array.getD_eq_getD_getElem?, List.getElem?_toArray, List.getElem?_cons_succ, List.getElem?_cons_zero, Option.getD_some]; done) | (simp only [Array.getD_eq_getD_getElem?, List.getElem?_toArray, List.getElem?_cons_succ, List.getElem?_cons_zero, Option.getD_some]; rfl) | rfl)))))
  refine rel_any (OwnE w5.heap.size es'.length (es')) (ownE_stable _ _ _) ?_ ?_
  · (simp only [Lay, List.nil_append, List.cons_append, List.setIfInBounds_toArray, List.set_cons_succ, List.set_cons_zero]; intros; rename_i w9 hS hF; simp only [FactsE, List.nil_append, List.cons_append, List.toList_toArray, List.getElem?_cons_succ, List.getElem?_cons_zero] at hF; try (repeat (first | obtain ⟨rfl, hF⟩ := hF | obtain ⟨(hownF : OwnE _ _ _ _ _), hF⟩ := hF | (obtain ⟨(hEm : EmpR _ _ _), hF⟩ := hF; obtain ⟨gE, rfl, hgE1, hgE2⟩ := hEm) | (obtain ⟨(hNr : NewR _ _ _ _), hF⟩ := hF; obtain ⟨gB, rfl, hgB, hgb⟩ := hNr))))
    refine step_take rfl (of_decide_eq_true rfl) ?_
    obtain ⟨vA, wA, hrun, hown, hbel⟩ := run_appE (c := c1) hgE2 hgE1 (HSL.sl.ext hS) HSL.len HSL.nil (by omega)
    go_wp2_with ((with_reducible refine ev_append ?_); refine ⟨rfl, _, _, _, _, rfl, rfl, hrun, ?_⟩; (simp only [Act.put, List.setIfInBounds_toArray, List.set_cons_succ, List.set_cons_zero]))
    refine RQ_mk rfl hbel ?_
    simp only [Array.getD_eq_getD_getElem?, List.getElem?_toArray, List.getElem?_cons_succ, List.getElem?_cons_zero, Option.getD_some]
    exact hown
  iterate 3 (refine rel_eq (v := ?_) ?_ ?_; rotate_left; (focus ((simp only [Lay, List.nil_append, List.cons_append, List.setIfInBounds_toArray, List.set_cons_succ, List.set_cons_zero]; intros; rename_i w9 hS hF; simp only [FactsE, List.nil_append, List.cons_append, List.toList_toArray, List.getElem?_cons_succ, List.getElem?_cons_zero] at hF; try (repeat (first | obtain ⟨rfl, hF⟩ := hF | obtain ⟨(hownF : OwnE _ _ _ _ _), hF⟩ := hF | (obtain ⟨(hEm : EmpR _ _ _), hF⟩ := hF; obtain ⟨gE, rfl, hgE1, hgE2⟩ := hEm) | (obtain ⟨(hNr : NewR _ _ _ _), hF⟩ := hF; obtain ⟨gB, rfl, hgB, hgb⟩ := hNr)))); refine step_take rfl (of_decide_eq_true rfl) ?_; (have hMq := hMx.ext hS; have hVq := blk_of hS hVx); go_wp2_with (first | ((with_reducible refine ev_load1_blk oSr ?_); refine ⟨rfl, _, _, _, _, _, rfl, hMq.blk, rmc2 _ _ _, ?_⟩; (simp only [Act.put, List.setIfInBounds_toArray, List.set_cons_succ, List.set_cons_zero])) | ((with_reducible refine ev_load1_blk oInt ?_); refine ⟨rfl, _, _, _, _, _, rfl, hMq.blk, rmc1 _ _ _, ?_⟩; (simp only [Act.put, List.setIfInBounds_toArray, List.set_cons_succ, List.set_cons_zero])) | ((with_reducible refine ev_load1_blk oBool ?_); refine ⟨rfl, _, _, _, _, _, rfl, hMq.blk, rmc0 _ _ _, ?_⟩; (simp only [Act.put, List.setIfInBounds_toArray, List.set_cons_succ, List.set_cons_zero])) | ((with_reducible refine ev_load_agg_blk aV4 ?_); refine ⟨rfl, _, _, _, rfl, hVq, rfl, ?_⟩; (simp only [Act.put, List.setIfInBounds_toArray, List.set_cons_succ, List.set_cons_zero])) | ((with_reducible refine ev_rentry ?_); refine ⟨rfl, _, _, rfl, rfl, ?_⟩; (simp only [Act.put, List.setIfInBounds_toArray, List.set_cons_succ, List.set_cons_zero]))); refine RQ_mk rfl ?_ ?_; (focus first | exact Below.refl _ _ | exact (Below.refl _ _).alloc (Nat.le_refl _) _); (focus (first | (simp only [Array.getD_eq_getD_getElem?, List.getElem?_toArray, List.getElem?_cons_succ, List.getElem?_cons_zero, Option.getD_some]; done) | (simp only [Array.getD_eq_getD_getElem?, List.getElem?_toArray, List.getElem?_cons_succ, List.getElem?_cons_zero, Option.getD_some]; rfl) | rfl)))))
  refine rel_any (NewR w5.heap.size (key, v)) (newR_stable _ _) ?_ ?_
  · (simp only [Lay, List.nil_append, List.cons_append, List.setIfInBounds_toArray, List.set_cons_succ, List.set_cons_zero]; intros; rename_i w9 hS hF; simp only [FactsE, List.nil_append, List.cons_append, List.toList_toArray, List.getElem?_cons_succ, List.getElem?_cons_zero] at hF; try (repeat (first | obtain ⟨rfl, hF⟩ := hF | obtain ⟨(hownF : OwnE _ _ _ _ _), hF⟩ := hF | (obtain ⟨(hEm : EmpR _ _ _), hF⟩ := hF; obtain ⟨gE, rfl, hgE1, hgE2⟩ := hEm) | (obtain ⟨(hNr : NewR _ _ _ _), hF⟩ := hF; obtain ⟨gB, rfl, hgB, hgb⟩ := hNr))))
    refine step_take rfl (of_decide_eq_true rfl) ?_
    go_wp2_with ((with_reducible refine ev_rslice1 ?_); refine ⟨rfl, (key, v), rfl, ?_⟩; (simp only [Act.put, List.setIfInBounds_toArray, List.set_cons_succ, List.set_cons_zero]))
    refine RQ_mk rfl ((Below.refl _ _).alloc (Nat.le_refl _) _) ?_
    simp only [Array.getD_eq_getD_getElem?, List.getElem?_toArray, List.getElem?_cons_succ, List.getElem?_cons_zero, Option.getD_some]
    exact ⟨_, rfl, hS.size, heap_alloc_last _ _⟩
  refine rel_end ?_
  (simp only [Lay, List.nil_append, List.cons_append, List.setIfInBounds_toArray, List.set_cons_succ, List.set_cons_zero]; intros; rename_i w9 hS hF; simp only [FactsA, List.nil_append, List.cons_append] at hF; try (repeat (first | obtain ⟨rfl, hF⟩ := hF | obtain ⟨(hownF : OwnE _ _ _ _ _), hF⟩ := hF | (obtain ⟨(hEm : EmpR _ _ _), hF⟩ := hF; obtain ⟨gE, rfl, hgE1, hgE2⟩ := hEm) | (obtain ⟨(hNr : NewR _ _ _ _), hF⟩ := hF; obtain ⟨gB, rfl, hgB, hgb⟩ := hNr))))
  obtain ⟨vA, wA, hrun, hownA, hA, -⟩ := run_appR (m := 1) (c := 1) hownF (newR_sl hgb) rfl (fun e => by cases e) hS.size (by omega)
  have hb9 := hS.trans (hA.below hownF hS.size)
  have hRA := blk_of hb9 hMx.blk
  have hone := row_one hownA
  have HO := Lib.hid (And.intro hownA hb9)
  clear hownA hA hb9
  go_wp2_with (first
    | ((with_reducible refine ev_append ?_); refine ⟨rfl, _, _, _, _, rfl, rfl, hrun, ?_⟩; (simp only [Act.put, List.setIfInBounds_toArray, List.set_cons_succ, List.set_cons_zero]))
    | ((with_reducible refine ev_rmstore ?_); refine ⟨rfl, _, _, _, _, _, rfl, rfl, hone, hRA, ?_⟩; simp only [Act.put]))
  refine NoPanic.normal ?_
  go_wp2
  go_ret
  exact ⟨rfl, _, RmT.stored hMx HO.out.2 hbX hkX.out HO.out.1 (by first | (rw [List.length_append, HSL.len]; done) | (rw [List.length_append, HSL.len]; rfl)) hwX⟩

end Go.Proofs.Yteohokidlopbnaa
