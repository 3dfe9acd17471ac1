/- Chapter 17: Put where the map is full, walked. -/
import Derived.Test.YteohokidlopbnaaMapF
namespace Go.Proofs.Yteohokidlopbnaa
open Go.RowKit
set_option linter.unusedSimpArgs false
set_option linter.unusedVariables false

set_option maxHeartbeats 4000000 in
set_option maxRecDepth 100000 in
theorem put_hash (B g : Nat) (v0 : Value) (R key : Int) (v : ValT) (es : List EntT) (w : World) (hM : Mp w B g v0 1 R es) (hn : es.length ≤ 100) (hfi : findI es key = none) (hlen : R ≤ (es.length : Int)) :
    Calls Try.prog 8 #[.pointer (some ⟨g, 0, none⟩), .int .i64 key, .agg (vvs v)] w fun e w' => e = .returned (.int .i64 28) ∧ MpT w w' B g v0 v0 1 R es := by
  have hFnd := fun w hM => find_is B g v0 1 R key es w hM (by omega)
  rw [hfi] at hFnd
  obtain ⟨a0, c0, hv0, hc0, -⟩ := hM.slice
  subst hv0
  have eR : decide ((es.length : Int) ≥ R) = true := decide_eq_true (by omega)
  have eR2 : decide (R ≤ (es.length : Int)) = true := decide_eq_true (by omega)
  have hSt := St.start w
  simp only [idxV] at hFnd
  clear hfi
  go_enter Try.func8, Try.ntmps8
  go_wp2_with (first | ((with_reducible refine ev_box hSt ?_); refine ⟨rfl, _, rfl, ?_⟩; intro gV wN hSt; (simp only [Act.put, List.setIfInBounds_toArray, List.set_cons_succ, List.set_cons_zero])) | (go_at_call 24; refine (hFnd _ (hM.ext hSt.base)).mono ?_; rintro e w1 ⟨rfl, hb9⟩; replace hSt := hSt.ext hb9))
  have hMx := hM.ext hSt.base
  refine wp_region_seq (S := fun w' => Below w1.heap.size w1 w') mixed17 (by kernel_rfl) (by kernel_rfl) (Below.refl _ _).drew ?_
  iterate 10 (refine seq_take (v := ?_) rfl (of_decide_eq_true rfl) (fun w9 hS => ?_) ?_; rotate_left; (focus (have hMq := hMx.ext hS; go_wp2_with (first | ((with_reducible refine ev_load1_blk oSl ?_); refine ⟨rfl, _, _, _, _, _, rfl, hMq.blk, mpc2 _ _ _, ?_⟩; (simp only [Act.put, List.setIfInBounds_toArray, List.set_cons_succ, List.set_cons_zero])) | ((with_reducible refine ev_load1_blk oInt ?_); refine ⟨rfl, _, _, _, _, _, rfl, hMq.blk, (by first | exact mpc0 _ _ _ | exact mpc1 _ _ _), ?_⟩; (simp only [Act.put, List.setIfInBounds_toArray, List.set_cons_succ, List.set_cons_zero]))); refine VQ_mk ?_ rfl ?_; (focus rfl); exact hS)); (simp only [Act.put, List.setIfInBounds_toArray, List.set_cons_succ, List.set_cons_zero, Array.getD_eq_getD_getElem?, List.getElem?_toArray, List.getElem?_cons_succ, List.getElem?_cons_zero, Option.getD_some]))
  refine seq_nil fun w2 hS2 => ?_
  have hMq := hMx.ext hS2
  have hVx := (hSt.own _ (List.mem_cons_self ..)).1
  have hVq := blk_of hS2 hVx
  go_wp2_with (first | ((with_reducible refine ev_load1_blk oSl ?_); refine ⟨rfl, _, _, _, _, _, rfl, hMq.blk, mpc2 _ _ _, ?_⟩; (simp only [Act.put, List.setIfInBounds_toArray, List.set_cons_succ, List.set_cons_zero])) | ((with_reducible refine ev_load1_blk oInt ?_); refine ⟨rfl, _, _, _, _, _, rfl, hMq.blk, (by first | exact mpc0 _ _ _ | exact mpc1 _ _ _), ?_⟩; (simp only [Act.put, List.setIfInBounds_toArray, List.set_cons_succ, List.set_cons_zero])))
  go_ret
  exact ⟨rfl, MpT.below hM (hSt.base.trans (hS2.mono hSt.base.size))⟩


set_option maxHeartbeats 4000000 in
set_option maxRecDepth 100000 in
theorem put_lru (B g : Nat) (v0 : Value) (R key : Int) (v : ValT) (es : List EntT) (w : World) (hM : Mp w B g v0 2 R es) (hn : es.length ≤ 100) (hfi : findI es key = none) (hlen : R ≤ (es.length : Int)) (h0 : 0 < es.length) :
    Calls Try.prog 8 #[.pointer (some ⟨g, 0, none⟩), .int .i64 key, .agg (vvs v)] w fun e w' => e = .returned (.int .i64 0) ∧ ∃ v', Mp w' B g v' 2 R (es.eraseIdx 0 ++ [(key, v)]) ∧ MpR w w' B g v0.ownBlock ∧ (v'.ownBlock = v0.ownBlock ∨ ∃ k, v'.ownBlock = some k ∧ w.heap.size ≤ k) := by
  obtain ⟨i0, hi0, hz1, hz2, hz3⟩ := info_parts infoEn
  have hFnd := fun w hM => find_is B g v0 2 R key es w hM (by omega)
  rw [hfi] at hFnd
  obtain ⟨h, c0, cur, hv0, hhB, hgc, hcap, hcm, hcs, htk⟩ := hM.row.2.resolve_left (fun e => by have := e.2; omega)
  have eR : decide ((es.length : Int) ≥ R) = true := decide_eq_true (by omega)
  have eR2 : decide (R ≤ (es.length : Int)) = true := decide_eq_true (by omega)
  have hlow := hM.low
  have hSt := St.start w
  have hV0 := Lib.hid hv0
  have hgh : g ≠ h := fun e => hM.apart (by rw [e, hv0]; rfl)
  rw [hv0] at hM hFnd
  simp only [idxV] at hFnd
  clear hfi
  have hD := fun w' hg => delete_is h c0 0 es cur w' hg h0 hcap hcm hcs htk
  simp only [show ((0 : Nat) : Int) = 0 from rfl, Int.zero_add] at hD
  have hel : (es.eraseIdx 0).length = es.length - 1 := by rw [List.length_eraseIdx, if_pos h0]
  rw [← hel] at hD
  obtain ⟨es1, hes1⟩ : ∃ e, es.eraseIdx 0 = e := ⟨_, rfl⟩
  rw [hes1] at hD hel ⊢
  have hel1 : es1.length + 1 ≤ es.length := by omega
  clear hes1 hel
  go_enter Try.func8, Try.ntmps8
  clear hv0
  go_wp2_with (first | ((with_reducible refine ev_box hSt ?_); refine ⟨rfl, _, rfl, ?_⟩; intro gV wN hSt; (simp only [Act.put, List.setIfInBounds_toArray, List.set_cons_succ, List.set_cons_zero])) | (go_at_call 24; refine (hFnd _ (hM.ext hSt.base)).mono ?_; rintro e w1 ⟨rfl, hb9⟩; replace hSt := hSt.ext hb9))
  have hMx := hM.ext hSt.base
  refine wp_region_seq (S := fun w' => Below w1.heap.size w1 w') mixed17 (by kernel_rfl) (by kernel_rfl) (Below.refl _ _).drew ?_
  iterate 10 (refine seq_take (v := ?_) rfl (of_decide_eq_true rfl) (fun w9 hS => ?_) ?_; rotate_left; (focus (have hMq := hMx.ext hS; go_wp2_with (first | ((with_reducible refine ev_load1_blk oSl ?_); refine ⟨rfl, _, _, _, _, _, rfl, hMq.blk, mpc2 _ _ _, ?_⟩; (simp only [Act.put, List.setIfInBounds_toArray, List.set_cons_succ, List.set_cons_zero])) | ((with_reducible refine ev_load1_blk oInt ?_); refine ⟨rfl, _, _, _, _, _, rfl, hMq.blk, (by first | exact mpc0 _ _ _ | exact mpc1 _ _ _), ?_⟩; (simp only [Act.put, List.setIfInBounds_toArray, List.set_cons_succ, List.set_cons_zero]))); refine VQ_mk ?_ rfl ?_; (focus rfl); exact hS)); (simp only [Act.put, List.setIfInBounds_toArray, List.set_cons_succ, List.set_cons_zero, Array.getD_eq_getD_getElem?, List.getElem?_toArray, List.getElem?_cons_succ, List.getElem?_cons_zero, Option.getD_some]))
  refine seq_nil fun w2a hS2 => ?_
  have hMq := hMx.ext hS2
  have hVx := (hSt.own _ (List.mem_cons_self ..)).1
  have hVB := (hSt.own _ (List.mem_cons_self ..)).2
  have hVq := blk_of hS2 hVx
  simp only at hVB hVq
  have hbW : Below w.heap.size w w2a := hSt.base.trans (hS2.mono hSt.base.size)
  have hgw := blk_of hbW hgc
  have hDo := hD w2a hgw
  have hlh := lt_of_blk hgc
  have hgS := hMq.blk
  clear hFnd hD hMx hgw
  go_wp2_with (first
    | ((with_reducible refine ev_load1_blk oSl ?_); refine ⟨rfl, _, _, _, _, _, rfl, hMq.blk, mpc2 _ _ _, ?_⟩; (simp only [Act.put, List.setIfInBounds_toArray, List.set_cons_succ, List.set_cons_zero])) | ((with_reducible refine ev_load1_blk oInt ?_); refine ⟨rfl, _, _, _, _, _, rfl, hMq.blk, (by first | exact mpc0 _ _ _ | exact mpc1 _ _ _), ?_⟩; (simp only [Act.put, List.setIfInBounds_toArray, List.set_cons_succ, List.set_cons_zero]))
    | (go_at_call 26; refine hDo.mono ?_; rintro e w8 ⟨rfl, hb8, hk8, hc8⟩; have hMg8 := hk8 _ _ hgS hgh)
    | ((with_reducible refine ev_mpstore ?_); refine ⟨rfl, _, _, _, _, Value.slice (some ⟨h, 0, none⟩) es1.length c0, rfl, rfl, rfl, hMg8, ?_⟩; simp only [Act.put]))
  obtain ⟨c1, hc1, hc1s, hc1t⟩ := hc8
  have hVk := hk8 _ _ hVq (by omega)
  have hV9 := (setRow_other w8 g gV (mpc 2 R (.slice (some ⟨h, 0, none⟩) es1.length c0)) (by have := lt_of_blk hM.blk; omega)).trans hVk
  have hg9 := setRow_heap w8 g _ (mpc 2 R (.slice (some ⟨h, 0, none⟩) es1.length c0)) _ _ hMg8
  have hh9 := (setRow_other w8 g h (mpc 2 R (.slice (some ⟨h, 0, none⟩) es1.length c0)) (fun e => hgh e.symm)).trans hc1
  have hk9 := fun k (hk : k ≠ g) => setRow_other w8 g k (mpc 2 R (.slice (some ⟨h, 0, none⟩) es1.length c0)) hk
  have hb9 : Below B w8 (w8.setRow g (mpc 2 R (.slice (some ⟨h, 0, none⟩) es1.length c0))) := ⟨rfl, rfl, rfl, by simp, fun k hk => hk9 k (by omega)⟩
  generalize w8.setRow g (mpc 2 R (.slice (some ⟨h, 0, none⟩) es1.length c0)) = w2 at *
  have hMx : Mp w2 B g (.slice (some ⟨h, 0, none⟩) es1.length c0) 2 R es1 := ⟨hlow, hg9, ⟨rowe_len _, .inr ⟨h, c0, c1, rfl, hhB, hh9, by omega, hcm, hc1s, hc1t⟩⟩, fun e => hgh (Option.some.inj e).symm⟩
  have hVx := hV9
  have hBw : B ≤ w.heap.size := by omega
  have hbX : Below B w w2 := ((hbW.mono hBw).trans (hb8.mono hhB)).trans hb9
  have hkX := Lib.hid (show ∀ k o, w.heap[k]? = some o → k ≠ g → (Value.slice (some ⟨h, 0, none⟩) es.length c0).ownBlock ≠ some k → w2.heap[k]? = some o from fun k o hk hkg hkh => (hk9 k hkg).trans (hk8 _ _ (blk_of hbW hk) (fun e => hkh (by rw [e]; rfl))))
  have HOX : OwnIs (Value.slice (some ⟨h, 0, none⟩) es.length c0) (Value.slice (some ⟨h, 0, none⟩) es1.length c0) := ⟨rfl⟩
  clear hMq hVk hV9 hg9 hh9 hk9 hb9 hk8 hb8 hbW hgS hMg8 hDo hc1 hc1s hc1t eR eR2 hM
  have hMxb := hMx.blk
  have hMxr := hMx.row
  have hgl := lt_of_blk hMxb
  refine wp_region_relQ (S := fun w' => Below w2.heap.size w2 w') 0 [49, 50, 51, 52, 53, 54, 55, 56, 57] mixed17 (by kernel_rfl) (by kernel_rfl) (by decide) (by kernel_rfl) (fun _ _ h k => h.trans (k.mono h.size)) (Below.refl _ _).drew ?_
  refine relQ_late (.pointer (some ⟨g, 0, none⟩)) ?_ ?_
  · (simp only [Lay, List.nil_append, List.cons_append, List.setIfInBounds_toArray, List.set_cons_succ, List.set_cons_zero]; intros)
    exact .inl ⟨rfl, fun w => rfl⟩
  iterate 7 (refine rel_eq (v := ?_) ?_ ?_; rotate_left; (focus ((simp only [Lay, List.nil_append, List.cons_append, List.setIfInBounds_toArray, List.set_cons_succ, List.set_cons_zero]; intros; rename_i w9 hS hF; simp only [FactsE, List.nil_append, List.cons_append, List.toList_toArray, List.getElem?_cons_succ, List.getElem?_cons_zero] at hF; try (repeat (first | obtain ⟨rfl, hF⟩ := hF | obtain ⟨-, hF⟩ := hF))); refine step_take rfl (of_decide_eq_true rfl) ?_; (have hMq := hMx.ext hS; have hVq := blk_of hS hVx); go_wp2_with (first | ((with_reducible refine ev_load1_blk oSl ?_); refine ⟨rfl, _, _, _, _, _, rfl, hMq.blk, mpc2 _ _ _, ?_⟩; (simp only [Act.put, List.setIfInBounds_toArray, List.set_cons_succ, List.set_cons_zero])) | ((with_reducible refine ev_load1_blk oInt ?_); refine ⟨rfl, _, _, _, _, _, rfl, hMq.blk, (by first | exact mpc0 _ _ _ | exact mpc1 _ _ _), ?_⟩; (simp only [Act.put, List.setIfInBounds_toArray, List.set_cons_succ, List.set_cons_zero])) | ((with_reducible refine ev_load_agg_blk aX1 ?_); refine ⟨rfl, _, _, _, rfl, hVq, rfl, ?_⟩; (simp only [Act.put, List.setIfInBounds_toArray, List.set_cons_succ, List.set_cons_zero])) | ((with_reducible refine ev_entry ?_); refine ⟨rfl, _, _, rfl, rfl, ?_⟩; (simp only [Act.put, List.setIfInBounds_toArray, List.set_cons_succ, List.set_cons_zero]))); refine RQ_mk rfl ?_ ?_; (focus first | exact Below.refl _ _ | exact (Below.refl _ _).alloc (Nat.le_refl _) _); (focus (first | (simp only [Array.getD_eq_getD_getElem?, List.getElem?_toArray, List.getElem?_cons_succ, List.getElem?_cons_zero, Option.getD_some]; done) | (simp only [Array.getD_eq_getD_getElem?, List.getElem?_toArray, List.getElem?_cons_succ, List.getElem?_cons_zero, Option.getD_some]; rfl) | rfl)))))
  refine rel_any (NewE w2.heap.size (key, v)) (newE_stable _ _) ?_ ?_
  · (simp only [Lay, List.nil_append, List.cons_append, List.setIfInBounds_toArray, List.set_cons_succ, List.set_cons_zero]; intros; rename_i w9 hS hF; simp only [FactsE, List.nil_append, List.cons_append, List.toList_toArray, List.getElem?_cons_succ, List.getElem?_cons_zero] at hF; try (repeat (first | obtain ⟨rfl, hF⟩ := hF | obtain ⟨-, hF⟩ := hF)))
    refine step_take rfl (of_decide_eq_true rfl) ?_
    go_wp2_with ((with_reducible refine in_slice54 ?_); refine ⟨rfl, (key, v), rfl, ?_⟩; (simp only [Act.put, List.setIfInBounds_toArray, List.set_cons_succ, List.set_cons_zero]))
    refine RQ_mk rfl ((Below.refl _ _).alloc (Nat.le_refl _) _) ?_
    simp only [Array.getD_eq_getD_getElem?, List.getElem?_toArray, List.getElem?_cons_succ, List.getElem?_cons_zero, Option.getD_some]
    exact ⟨_, rfl, hS.size, heap_alloc_last _ _⟩
  refine rel_end ?_
  simp only [Lay, List.nil_append, List.cons_append, List.setIfInBounds_toArray, List.set_cons_succ, List.set_cons_zero]; intros; rename_i w9 hS hF; simp only [FactsA, List.nil_append, List.cons_append] at hF
  repeat (obtain ⟨rfl, hF⟩ := hF)
  obtain ⟨⟨gB, rfl, hgB, hgb⟩, -⟩ := hF
  have hown := row_below hMxr hS
  have hMg9 := blk_of hS hMxb
  have hSz9 := hS.size
  have hbXs := hbX.size
  go_wp2_with (first
    | (at_builtin; refine wpList_append_own_at _ rfl _ _ 54 rfl B 64 i0 _ 5 40 Try.underlying54 hi0 hz1 hz2 hz3 rfl (by decide) _ _ _ rfl hown _ 1 1 (evs (key, v)).toList rfl (by rw [Array.length_toList, evs_size]) (news_at hgb) (fun u hu => evs_one _ u hu) (by unfold maxLen; omega) (by omega) (by omega) ?_; intro v' w1' hown' hgrow0 hnil hloc0
       have hgrow : w9.grownBy w1' (Value.slice (some ⟨h, 0, none⟩) es1.length c0).ownBlock := hgrow0
       have hloc : v'.ownBlock = (Value.slice (some ⟨h, 0, none⟩) es1.length c0).ownBlock ∨ v'.ownBlock = some w9.heap.size := hloc0
       clear hgrow0 hloc0 hnil
       have hone := row_one hown'
       have hMg10 : w1'.heap[g]? = some (.cells (mpc 2 R (Value.slice (some ⟨h, 0, none⟩) es1.length c0)) 61 (0, 0)) := (hgrow.block g (by omega) (fun e => hMx.apart e.symm)).trans hMg9)
    | ((with_reducible refine ev_mpstore ?_); refine ⟨rfl, _, _, _, _, _, rfl, rfl, hone, hMg10, ?_⟩; simp only [Act.put]))
  refine NoPanic.normal ?_
  go_wp2
  go_ret
  have hg9 : ∀ k, k ≠ g → (w1'.setRow g (mpc 2 R v')).heap[k]? = w1'.heap[k]? := fun k hk => setRow_other _ g k _ hk
  have hb1 : Below B w w1' := (hbX.trans (hS.mono (by omega))).grown hgrow (by omega) (fun k hk => (hMxr.lt k hk).1)
  have hgne : v'.ownBlock ≠ some g := by
    rcases hloc with e | e <;> rw [e]
    · exact hMx.apart
    · exact fun e => by have := Option.some.inj e; omega
  refine ⟨rfl, v', ⟨hlow, setRow_heap _ g _ _ _ _ hMg10, ?_, hgne⟩, ⟨hb1.trans ⟨rfl, rfl, rfl, by simp, fun k hk => hg9 k (by omega)⟩, fun k o hk hkg hkh => ?_⟩, ?_⟩
  · have hrow : w1'.ownsRow B 64 5 v' (es1 ++ [(key, v)]).length (rowe (es1 ++ [(key, v)])) := by
      rw [rowe_snoc, List.length_append]
      exact hown'
    refine ⟨hrow.1, ?_⟩
    rcases hrow.2 with hn | ⟨q, c2, c3, hv, h1, h2, rest⟩
    · exact .inl hn
    · refine .inr ⟨q, c2, c3, hv, h1, (hg9 q (fun e => hgne (by rw [hv, e]; rfl))).trans h2, rest⟩
  · refine (hg9 k hkg).trans ?_
    have hk2 := hkX.out k o hk hkg (fun e => hkh (by rw [hV0.out]; exact e))
    rw [hgrow.block k (by have := lt_of_blk hk2; omega) (fun e => hkh (by rw [hV0.out, HOX.eq]; exact e.symm))]
    exact blk_of hS hk2
  · rcases hloc with e | e
    · exact .inl (by rw [hV0.out, e, HOX.eq])
    · exact .inr ⟨_, e, by omega⟩

end Go.Proofs.Yteohokidlopbnaa
