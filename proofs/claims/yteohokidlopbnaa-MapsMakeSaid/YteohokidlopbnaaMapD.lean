/- Chapter 17: touch, walked. -/
import Derived.Test.YteohokidlopbnaaMapC
import Derived.Test.YteohokidlopbnaaRelW
import Derived.Great.BuildSlice
import Derived.Maps.AppendAt
import Derived.OwnWalk
namespace Go.Proofs.Yteohokidlopbnaa
open Go.RowKit
set_option linter.unusedSimpArgs false
set_option linter.unusedVariables false

section
variable {ops : Array Oper} {rest : List Oper} {Q : Exit → Act → World → Prop} {tmps : Array Value} {df : List Deferred} {d ty t u : Nat} {ps : String} {af : Array Edge} {gd : Option (Nat × Bool)} {w : World}
theorem en_load_blk (h : Region.wanted ⟨some d, .load 64 (.tmp t), ty, ps, af, gd⟩ (yielded ops tmps) = true ∧ ∃ g e,
      tmps.getD t undef = .pointer (some ⟨g, 0, none⟩) ∧ w.heap[g]? = some (.cells (evs e) 64 (0, 0)) ∧ wpList Try.prog ops Q rest (Act.put ⟨tmps, df⟩ (some d) (.agg (evs e))) w) :
    wpList Try.prog ops Q (⟨some d, .load 64 (.tmp t), ty, ps, af, gd⟩ :: rest) ⟨tmps, df⟩ w := by
  obtain ⟨hw, g, e, hx, hg, h⟩ := h
  refine en_load_at ⟨hw, _, e, hx, fun i v hv => ?_, h⟩
  rw [Addr.add_mid, cell_of_row _ _ _ _ _ _ hg, Nat.zero_add]
  exact hv
end

set_option maxHeartbeats 1000000 in
set_option maxRecDepth 100000 in
theorem touch_no (B g : Nat) (v : Value) (K R : Int) (i : Int) (es : List EntT) (w : World) (hM : Mp w B g v K R es) (hK : (K == 2) = false) :
    Calls Try.prog 25 #[.pointer (some ⟨g, 0, none⟩), .int .i64 i] w fun e w' => e = .returned (.tuple #[]) ∧ w' = w := by
  have hSt := St.start w
  go_enter Try.func25, Try.ntmps25
  go_wp2_with (first | ((with_reducible refine ev_load1_blk oInt ?_); refine ⟨rfl, _, _, _, _, _, rfl, blk_of hSt.base hM.blk, mpc0 _ _ _, ?_⟩; (simp only [Act.put, List.setIfInBounds_toArray, List.set_cons_succ, List.set_cons_zero])))
  go_end0
  exact ⟨rfl, rfl⟩

theorem run_slice54 (e : EntT) (w : World) : (Instr.buildSlice 54 1 #[(0, .agg (evs e))]).run Try.prog w = .ok (.slice (some ⟨w.heap.size, 0, none⟩) 1 1) (w.alloc (.cells (evs e) 64)) := by
  obtain ⟨ie, hie, h2⟩ := Option.map_eq_some_iff.1 infoEn
  have hsz : ie.size = 5 := by simpa using congrArg (fun x => x.2.1) h2
  have hzv : ie.zero = some (.agg (evs (0, 0, 0, 0, 0))) := by simpa using congrArg Prod.fst h2
  refine run_buildSlice (P := Try.prog) w 54 64 1 _ (evs e) ie _ Try.underlying54 hie hzv (by rw [hsz]; decide) (by rw [hsz]; decide) ?_
  rw [hsz]
  clear h2 hsz hzv hie
  kernel_rfl
section
variable {ops : Array Oper} {rest : List Oper} {Q : Exit → Act → World → Prop} {tmps : Array Value} {df : List Deferred} {d ty t u : Nat} {ps : String} {af : Array Edge} {gd : Option (Nat × Bool)} {w : World}
theorem in_slice54 {x : Operand} (h : Region.wanted ⟨some d, .buildSlice 54 1 #[(0, x)], ty, ps, af, gd⟩ (yielded ops tmps) = true ∧ ∃ p, Act.eval ⟨tmps, df⟩ x = .agg (evs p) ∧
      wpList Try.prog ops Q rest (Act.put ⟨tmps, df⟩ (some d) (.slice (some ⟨w.heap.size, 0, none⟩) 1 1)) (w.alloc (.cells (evs p) 64))) :
    wpList Try.prog ops Q (⟨some d, .buildSlice 54 1 #[(0, x)], ty, ps, af, gd⟩ :: rest) ⟨tmps, df⟩ w := by
  obtain ⟨hw, p, hx, h⟩ := h
  refine wpl_run hw ?_ h
  have e : (#[(0, x)] : Array (Nat × Operand)).map (fun y => (y.1, Act.eval ⟨tmps, df⟩ y.2)) = #[(0, .agg (evs p))] := by simp [hx]
  simp only [execOp]
  rw [e]
  simp only [Sem.run_bind, run_slice54, Result.andThen_ok]
  rfl
end
theorem news_at {w : World} {g : Nat} {e : EntT} (hg : w.heap[g]? = some (.cells (evs e) 64 (0, 0))) : ∀ j u, (evs e).toList[j]? = some u → w.cell? ((⟨g, 0, none⟩ : Addr).add j) = some u := fun j u hj => by
  rw [Addr.add_mid, cell_of_row _ _ _ _ _ _ hg, Nat.zero_add]
  simpa using hj
theorem evs_one (e : EntT) : ∀ u ∈ (evs e).toList, u.oneCell' = true := fun u hu => by
  simp [evs] at hu
  rcases hu with rfl | rfl | rfl | rfl | rfl <;> rfl
/-- A row that was appended to is a slice, one cell. -/
theorem row_one {w : World} {B T k n : Nat} {v : Value} {xs : List Value} (h : w.ownsRow B T k v n xs) : v.oneCell' = true := by
  rcases h.2 with ⟨rfl, -⟩ | ⟨g, cap, cur, rfl, -⟩ <;> rfl

section
variable {ops : Array Oper} {rest : List Oper} {Q : Exit → Act → World → Prop} {tmps : Array Value} {df : List Deferred} {d ty t u : Nat} {x : Operand} {ps : String} {af : Array Edge} {gd : Option (Nat × Bool)} {w : World}
/-- A map takes another row. -/
theorem ev_mpstore (h : Region.wanted ⟨none, .store 54 (.tmp t) x, ty, ps, af, gd⟩ (yielded ops tmps) = true ∧ ∃ g K R v v', tmps.getD t undef = .pointer (some ⟨g, 2, none⟩) ∧ Act.eval ⟨tmps, df⟩ x = v' ∧ v'.oneCell' = true ∧ w.heap[g]? = some (.cells (mpc K R v) 61 (0, 0)) ∧
      wpList Try.prog ops Q rest (Act.put ⟨tmps, df⟩ none undef) (w.setRow g (mpc K R v'))) :
    wpList Try.prog ops Q (⟨none, .store 54 (.tmp t) x, ty, ps, af, gd⟩ :: rest) ⟨tmps, df⟩ w := by
  obtain ⟨hw, g, K, R, v, v', hx, hy, h1, hg, h⟩ := h
  refine wpl_run_skip hw ?_ h
  have hx' : Act.eval ⟨tmps, df⟩ (.tmp t) = .pointer (some ⟨g, 2, none⟩) := hx
  have hc : w.cell? ⟨g, 2, none⟩ = some v := (cell_of_row w g 2 _ _ _ hg).trans (mpc2 K R v)
  have hf : w.frozen? ⟨g, 2, none⟩ = false := frozen_of_row w g 2 _ _ hg
  have hr' : (storeVar 54 ⟨g, 2, none⟩ v').run Try.prog w = .ok () (w.setRow g (mpc K R v')) := by
    have he : (mpc K R v).setIfInBounds 2 v' = mpc K R v' := rfl
    rw [← he, ← setCell_eq_setRow w g 2 _ _ (0, 0) v' hg]
    have := run_storeCells_cells (P := Try.prog) g 2 [v'] 0 w (fun j hj => by
      have hj0 : j = 0 := by simpa using hj
      subst hj0
      simp [hc]) (fun j hj => by
      have hj0 : j = 0 := by simpa using hj
      subst hj0
      simp [hf]) (fun u hu => by
      obtain rfl := List.mem_singleton.1 hu
      exact h1)
    obtain ⟨inf, hq, hsz⟩ := Option.map_eq_some_iff.1 (show (Try.prog.info? 54).map (·.size) = some 1 by kernel_rfl)
    simp only [Nat.add_zero] at this
    simp [storeVar, sizeOf, typeInfo, hq, cells_one h1, hsz, this, World.setCells]
  simp only [execOp, hx', hy, Instr.storeAt, Instr.sureAddr, Sem.run_bind, Sem.run_pure, Result.andThen_ok, hr']
end

/-- Of a deletion: the row lies there, without an entry. -/
def DelR (h n cap : Nat) (xs : List Value) : VR := fun u w => u = .slice (some ⟨h, 0, none⟩) n cap ∧ ∃ cur : Array Value, w.heap[h]? = some (.cells cur 64 (0, 0)) ∧ cur.size = cap * 5 ∧ cur.toList.take (n * 5) = xs
theorem delR_stable (h n cap : Nat) (xs : List Value) : Stable (DelR h n cap xs) := fun u w w' hu hb => ⟨hu.1, hu.2.elim fun cur hc => ⟨cur, blk_of hb hc.1, hc.2⟩⟩
/-- A new slice of one entry. -/
def NewE (B : Nat) (e : EntT) : VR := fun u w => ∃ g, u = .slice (some ⟨g, 0, none⟩) 1 1 ∧ B ≤ g ∧ w.heap[g]? = some (.cells (evs e) 64 (0, 0))
/-- What a call does to a map: all blocks but the map's and its row's stand. -/
structure MpR (w w' : World) (B g : Nat) (hb : Option Nat) : Prop where
  below : Below B w w'
  keep : ∀ k o, w.heap[k]? = some o → k ≠ g → hb ≠ some k → w'.heap[k]? = some o
theorem MpR.of {w w' : World} {B g : Nat} {hb : Option Nat} (h : Below w.heap.size w w') (hB : B ≤ w.heap.size) : MpR w w' B g hb := ⟨h.mono hB, fun k o hk _ _ => blk_of h hk⟩

set_option maxHeartbeats 4000000 in
set_option maxRecDepth 100000 in
theorem touch_lru (B g h cap i : Nat) (R : Int) (es : List EntT) (w : World) (hM : Mp w B g (.slice (some ⟨h, 0, none⟩) es.length cap) 2 R es) (hi : i < es.length) (hn : es.length ≤ 1000) :
    Calls Try.prog 25 #[.pointer (some ⟨g, 0, none⟩), .int .i64 i] w fun e w' => e = .returned (.tuple #[]) ∧ ∃ v', Mp w' B g v' 2 R (es.eraseIdx i ++ [es[i]]) ∧ MpR w w' B g (some h) ∧ (v'.ownBlock = some h ∨ ∃ k, v'.ownBlock = some k ∧ w.heap.size ≤ k) := by
  obtain ⟨i0, hi0, hz1, hz2, hz3⟩ := info_parts infoEn
  obtain ⟨a0, cap0, hv0, hcap0, hl⟩ := hM.slice
  cases hv0
  obtain ⟨x, hx, hat⟩ := hl i hi
  cases hx
  rw [Addr.add_lit, Nat.zero_add] at hat
  have hi' : (i : Int) < es.length := by omega
  have hSt := St.start w
  go_enter Try.func25, Try.ntmps25
  generalize he : es[i] = e at hat
  go_wp2_with (first | ((with_reducible refine ev_load1_blk oInt ?_); refine ⟨rfl, _, _, _, _, _, rfl, blk_of hSt.base hM.blk, mpc0 _ _ _, ?_⟩; (simp only [Act.put, List.setIfInBounds_toArray, List.set_cons_succ, List.set_cons_zero])) | ((with_reducible refine ev_load1_blk oSl ?_); refine ⟨rfl, _, _, _, _, _, rfl, blk_of hSt.base hM.blk, mpc2 _ _ _, ?_⟩; (simp only [Act.put, List.setIfInBounds_toArray, List.set_cons_succ, List.set_cons_zero])) | ((with_reducible refine en_load_at ?_); refine ⟨rfl, _, _, rfl, hat.ext hSt.base, ?_⟩; (simp only [Act.put, List.setIfInBounds_toArray, List.set_cons_succ, List.set_cons_zero])) | ((with_reducible refine ev_alloc hSt zX2 ?_); refine ⟨rfl, ?_⟩; intro gE wN hSt; (simp only [Act.put, List.setIfInBounds_toArray, List.set_cons_succ, List.set_cons_zero])) | ((with_reducible refine ev_store hSt aX2 ?_); refine ⟨rfl, _, [], _, _, _, rfl, rfl, rfl, rfl, rfl, (by simp [evs, Value.oneCell']), ?_⟩; intro wN hSt; simp only [List.nil_append] at hSt; simp only [Act.put]))
  obtain ⟨gE', hgE', hgEB⟩ : ∃ gE', gE' = gE ∧ w.heap.size ≤ gE := ⟨gE, rfl, (hSt.own _ (List.mem_cons_self ..)).2⟩
  have hgE := (hSt.own _ (List.mem_cons_self ..)).1
  simp only at hgE
  have hbase := hSt.base
  have hMN := hM.ext hbase
  have hMg := hMN.blk
  obtain ⟨hrl, hro⟩ := hMN.row
  rcases hro with ⟨hc, -⟩ | ⟨h', cap', cur, hc, hhB, hgc, hcap, hcm, hcs, htk⟩
  · cases hc
  cases hc
  have hlth := lt_of_blk hgc
  have hlw : h < w.heap.size := by
    rcases hM.row.2 with ⟨hc, -⟩ | ⟨_, _, _, hc, _, hgc2, -⟩
    · cases hc
    · cases hc
      exact lt_of_blk hgc2
  have hgw := lt_of_blk hM.blk
  have hgh : g ≠ h := fun e => hM.apart (by rw [e]; rfl)
  have hEh : gE ≠ h := by omega
  have hD := fun w' hg => delete_is h cap i es cur w' hg hi hcap hcm hcs htk
  clear hgE'
  have hBN : B ≤ wN.heap.size := by omega
  refine wp_region_relWQ (fun w' => Below B wN w' ∧ ∀ k o, wN.heap[k]? = some o → k ≠ h → w'.heap[k]? = some o) (fun w' => w'.heap[h]? = some (.cells cur 64 (0, 0))) (fun w1 w2 => (B ≤ w1.heap.size → Below B w1 w2) ∧ ∀ k o, w1.heap[k]? = some o → k ≠ h → w2.heap[k]? = some o) 8 0 [17, 18, 19, 20, 21, 22, 23, 24, 25, 26, 27] mixed17 (by kernel_rfl) (by kernel_rfl) (by decide) (by kernel_rfl) (fun _ _ h1 h2 => ⟨h1.1.trans (h2.1 (Nat.le_trans hBN h1.1.size)), fun k o hk hn => h2.2 k o (h1.2 k o hk hn) hn⟩) (fun _ _ hb => ⟨fun hB => hb.mono hB, fun k o hk _ => blk_of hb hk⟩) (fun _ _ h1 hb => blk_of hb h1) ⟨(Below.refl _ _).drew, fun _ _ hk _ => hk⟩ hgc ?_
  refine relWQ_late (.pointer (some ⟨g, 0, none⟩)) (of_decide_eq_true rfl) ?_ ?_
  · (simp only [Lay, List.nil_append, List.cons_append, List.setIfInBounds_toArray, List.set_cons_succ, List.set_cons_zero]; intros)
    exact .inl ⟨rfl, fun w => rfl⟩
  iterate 7 (refine relW_eq (v := ?_) ?_ ?_; rotate_left; (focus ((simp only [Lay, List.nil_append, List.cons_append, List.setIfInBounds_toArray, List.set_cons_succ, List.set_cons_zero]; intros; rename_i w9 hS hT9 hF; simp only [FactsE, List.nil_append, List.cons_append, List.toList_toArray, List.getElem?_cons_succ, List.getElem?_cons_zero] at hF; try (repeat (first | obtain ⟨rfl, hF⟩ := hF | obtain ⟨-, hF⟩ := hF))); refine step_takeW rfl (of_decide_eq_true rfl) ?_; skip; go_wp2_with (first | ((with_reducible refine ev_load1_blk oSl ?_); refine ⟨rfl, _, _, _, _, _, rfl, hS.2 _ _ hMg hgh, mpc2 _ _ _, ?_⟩; (simp only [Act.put, List.setIfInBounds_toArray, List.set_cons_succ, List.set_cons_zero])) | ((with_reducible refine en_load_blk ?_); refine ⟨rfl, _, _, rfl, hS.2 _ _ hgE hEh, ?_⟩; (simp only [Act.put, List.setIfInBounds_toArray, List.set_cons_succ, List.set_cons_zero]))); refine RQW_mk rfl ?_ ?_; (focus (refine ex_other (of_decide_eq_true rfl) ?_; exact Below.refl _ _)); (focus (first | (simp only [Array.getD_eq_getD_getElem?, List.getElem?_toArray, List.getElem?_cons_succ, List.getElem?_cons_zero, Option.getD_some]; done) | (simp only [Array.getD_eq_getD_getElem?, List.getElem?_toArray, List.getElem?_cons_succ, List.getElem?_cons_zero, Option.getD_some]; rfl) | rfl)))))
  refine relW_any (DelR h (es.length - 1) cap (rowe (es.eraseIdx i))) (stabAt_writer (of_decide_eq_true rfl) (delR_stable _ _ _ _)) ?_ ?_
  · (simp only [Lay, List.nil_append, List.cons_append, List.setIfInBounds_toArray, List.set_cons_succ, List.set_cons_zero]; intros; rename_i w9 hS hT9 hF; simp only [FactsE, List.nil_append, List.cons_append, List.toList_toArray, List.getElem?_cons_succ, List.getElem?_cons_zero] at hF; try (repeat (first | obtain ⟨rfl, hF⟩ := hF | obtain ⟨-, hF⟩ := hF)))
    refine step_takeW rfl (of_decide_eq_true rfl) ?_
    go_wp2_with (go_at_call 26; refine (hD _ (hT9 (of_decide_eq_true rfl))).mono ?_; rintro e w8 ⟨rfl, hb8, hk8, hc8⟩)
    refine RQW_mk rfl (ex_writer (of_decide_eq_true rfl) ⟨fun _ => hb8.mono hhB, hk8⟩) ?_
    simp only [Array.getD_eq_getD_getElem?, List.getElem?_toArray, List.getElem?_cons_succ, List.getElem?_cons_zero, Option.getD_some]
    exact ⟨rfl, hc8⟩
  (refine relW_eq (v := ?_) ?_ ?_; rotate_left; (focus ((simp only [Lay, List.nil_append, List.cons_append, List.setIfInBounds_toArray, List.set_cons_succ, List.set_cons_zero]; intros; rename_i w9 hS hT9 hF; simp only [FactsE, List.nil_append, List.cons_append, List.toList_toArray, List.getElem?_cons_succ, List.getElem?_cons_zero] at hF; try (repeat (first | obtain ⟨rfl, hF⟩ := hF | obtain ⟨-, hF⟩ := hF))); refine step_takeW rfl (of_decide_eq_true rfl) ?_; skip; go_wp2_with (first | ((with_reducible refine ev_load1_blk oSl ?_); refine ⟨rfl, _, _, _, _, _, rfl, hS.2 _ _ hMg hgh, mpc2 _ _ _, ?_⟩; (simp only [Act.put, List.setIfInBounds_toArray, List.set_cons_succ, List.set_cons_zero])) | ((with_reducible refine en_load_blk ?_); refine ⟨rfl, _, _, rfl, hS.2 _ _ hgE hEh, ?_⟩; (simp only [Act.put, List.setIfInBounds_toArray, List.set_cons_succ, List.set_cons_zero]))); refine RQW_mk rfl ?_ ?_; (focus (refine ex_other (of_decide_eq_true rfl) ?_; exact Below.refl _ _)); (focus (first | (simp only [Array.getD_eq_getD_getElem?, List.getElem?_toArray, List.getElem?_cons_succ, List.getElem?_cons_zero, Option.getD_some]; done) | (simp only [Array.getD_eq_getD_getElem?, List.getElem?_toArray, List.getElem?_cons_succ, List.getElem?_cons_zero, Option.getD_some]; rfl) | rfl)))))
  refine relW_any (NewE wN.heap.size e) (stabAt_other (of_decide_eq_true rfl) (fun u w1 w2 hu hx => hu.elim fun k hk => ⟨k, hk.1, hk.2.1, hx.2 _ _ hk.2.2 (by omega)⟩)) ?_ ?_
  · (simp only [Lay, List.nil_append, List.cons_append, List.setIfInBounds_toArray, List.set_cons_succ, List.set_cons_zero]; intros; rename_i w9 hS hT9 hF; simp only [FactsE, List.nil_append, List.cons_append, List.toList_toArray, List.getElem?_cons_succ, List.getElem?_cons_zero] at hF; try (repeat (first | obtain ⟨rfl, hF⟩ := hF | obtain ⟨-, hF⟩ := hF)))
    refine step_takeW rfl (of_decide_eq_true rfl) ?_
    go_wp2_with ((with_reducible refine in_slice54 ?_); refine ⟨rfl, e, rfl, ?_⟩; (simp only [Act.put, List.setIfInBounds_toArray, List.set_cons_succ, List.set_cons_zero]))
    refine RQW_mk rfl (ex_other (of_decide_eq_true rfl) ((Below.refl _ _).alloc (Nat.le_refl _) _)) ?_
    simp only [Array.getD_eq_getD_getElem?, List.getElem?_toArray, List.getElem?_cons_succ, List.getElem?_cons_zero, Option.getD_some]
    exact ⟨_, rfl, hS.1.size, heap_alloc_last _ _⟩
  refine relW_end ?_
  simp only [Lay, List.nil_append, List.cons_append, List.setIfInBounds_toArray, List.set_cons_succ, List.set_cons_zero]; intros; rename_i w9 hS hF; simp only [FactsA, List.nil_append, List.cons_append] at hF
  iterate 8 (obtain ⟨rfl, hF⟩ := hF)
  obtain ⟨⟨rfl, c', hc', hcs', htk'⟩, rfl, ⟨gB, rfl, hgB, hgb⟩, -⟩ := hF
  have hel : (es.eraseIdx i).length = es.length - 1 := by rw [List.length_eraseIdx, if_pos hi]
  have hown : w9.ownsRow B 64 5 (.slice (some ⟨h, 0, none⟩) (es.length - 1) cap) (es.length - 1) (rowe (es.eraseIdx i)) := ⟨by rw [rowe_len, hel], .inr ⟨h, cap, c', rfl, hhB, hc', by omega, hcm, hcs', htk'⟩⟩
  have hMg9 := hS.2 _ _ hMg hgh
  have hn1 : es.length - 1 + 1 ≤ 1000 := by omega
  have HE := Lib.hid (And.intro hel (show es.length - 1 + 1 = es.length from by omega))
  have hSz9 := hS.1.size
  have hbs := hbase.size
  clear hel htk' hcs' hc'
  go_wp2_with (first
    | (at_builtin; refine wpList_append_own_at _ rfl _ _ 54 rfl B 64 i0 _ 5 40 Try.underlying54 hi0 hz1 hz2 hz3 rfl (by decide) _ _ _ rfl hown _ 1 1 (evs e).toList rfl (by rw [Array.length_toList, evs_size]) (news_at hgb) (fun u hu => evs_one _ u hu) (by unfold maxLen; omega) (by omega) (by omega) ?_; intro v' w1' hown' hgrow0 hnil hloc0
       have hgrow : w9.grownBy w1' (some h) := hgrow0
       have hloc : v'.ownBlock = some h ∨ v'.ownBlock = some w9.heap.size := hloc0
       clear hgrow0 hloc0 hnil
       have hone := row_one hown'
       have hMg10 : w1'.heap[g]? = some (.cells (mpc 2 R (.slice (some ⟨h, 0, none⟩) es.length cap)) 61 (0, 0)) := (hgrow.block g (by omega) (fun e => hgh (Option.some.inj e))).trans hMg9)
    | ((with_reducible refine ev_mpstore ?_); refine ⟨rfl, _, _, _, _, _, rfl, rfl, hone, hMg10, ?_⟩; simp only [Act.put]))
  refine NoPanic.normal ?_
  go_end0
  have hg9 : ∀ k, k ≠ g → (w1'.setRow g (mpc 2 R v')).heap[k]? = w1'.heap[k]? := fun k hk => setRow_other _ g k _ hk
  have hb1 : Below B w w1' := ((hbase.mono (by omega)).trans hS.1).grown hgrow (by omega) (fun k hk => by cases hk; exact hhB)
  have hgne : v'.ownBlock ≠ some g := by
    rcases hloc with e | e <;> rw [e]
    · exact fun e => hgh (Option.some.inj e).symm
    · exact fun e => by have := Option.some.inj e; omega
  refine ⟨rfl, v', ⟨hM.low, setRow_heap _ g _ _ _ _ hMg10, ?_, hgne⟩, ⟨hb1.trans ⟨rfl, rfl, rfl, by simp, fun k hk => hg9 k (by have := hM.low; omega)⟩, fun k o hk hkg hkh => ?_⟩, ?_⟩
  · have hrow : w1'.ownsRow B 64 5 v' (es.eraseIdx i ++ [e]).length (rowe (es.eraseIdx i ++ [e])) := by
      rw [rowe_snoc, List.length_append, HE.out.1]
      exact hown'
    refine ⟨hrow.1, ?_⟩
    rcases hrow.2 with hn | ⟨q, c2, c3, hv, h1, h2, rest⟩
    · exact .inl hn
    · refine .inr ⟨q, c2, c3, hv, h1, (hg9 q (fun e => hgne (by rw [hv, e]; rfl))).trans h2, rest⟩
  · have hkh' : k ≠ h := fun e => hkh (by rw [e])
    refine (hg9 k hkg).trans ?_
    rw [hgrow.block k (by have := lt_of_blk (blk_of hbase hk); omega) (fun e => hkh' (Option.some.inj e))]
    exact hS.2 _ _ (blk_of hbase hk) hkh'
  · rcases hloc with e | e
    · exact .inl e
    · exact .inr ⟨_, e, by have := hbase.size; omega⟩
end Go.Proofs.Yteohokidlopbnaa
