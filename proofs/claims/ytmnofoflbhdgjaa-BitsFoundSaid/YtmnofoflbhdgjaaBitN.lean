/- Chapter 07: the law BitsFound, walked. -/
import Derived.Test.YtmnofoflbhdgjaaBitH
import Derived.Test.YtmnofoflbhdgjaaBitG
import Derived.RangeFuncBox
import Derived.Maps.AppendAt
import Derived.Deep.Onto
namespace Go.Proofs.Ytmnofoflbhdgjaa
open Go.RowKit Go.Shelf
set_option linter.unusedSimpArgs false
set_option linter.unusedVariables false
attribute [local go_sem] Oper.semAt_some

/-- The law of a range over a function, at a loop variable that is assigned from what came. -/
theorem rf_at {F : Fence} {n : Nat} {P : Program} {g : Operand} {p : Tmp} (q : Tmp) {assign body : Code} {Q : Exit → Act → World → Prop} {T : Array Value} {df : List Deferred} {w : World}
    (hro : F.round = none) (h1 : 1 ≤ n) {gf : Nat} {lb : Array Value} (hg : Act.eval ⟨T, df⟩ g = .func (.func gf) #[] lb) (hFg : F.fn gf) (eg : ∀ args w, (callFunc gf args).run P w = .ok (.enter gf args) w)
    {Kp : World → World → Prop} {S Sp : List Nat → Prop} {N : Nat} {w0 : World} (hseq : SeqStopsK F (n - 1) P gf lb (fun x : Nat => #[Value.int .i64 x]) Kp S Sp N w0)
    (hKt : ∀ {A B C : World}, Kp A B → Kp B C → Kp A C) (hKb : ∀ (W : World) (l : Nat) (o o' : Obj), w.heap.size ≤ l → W.heap[l]? = some o → o.isCells = false → o.isWalk = false → Kp W (W.putObj l o')) (hb0 : Below w0.heap.size w0 w)
    (I : List Nat → World → Prop) (Ix : Code → List Nat → World → Prop) (hI : OwnFrom w.heap.size I) (hIx : ∀ c, OwnFrom w.heap.size (Ix c)) (h0 : I [] w)
    (hassign : ∀ (l : Nat) (x : Nat) (W : World) (K : Act → World → Prop), K { tmps := (T.setIfInBounds p (.int .i64 x)).setIfInBounds q (.int .i64 x), defers := [] } W →
      assign.wpIn (F.inRound l) (n - 1 - 1) P (Exit.then K (fun _ _ _ => False)) { tmps := T.setIfInBounds p (.int .i64 x), defers := [] } W)
    (hbody : ∀ (l : Nat) (pre : List Nat) (x : Nat) (W : World), I pre W → pre.length < N → body.wpIn (F.inRound l) (n - 1 - 1) P (ownPostK Kp I Ix (pre ++ [x]) W) { tmps := (T.setIfInBounds p (.int .i64 x)).setIfInBounds q (.int .i64 x), defers := [] } W)
    (hdone : ∀ (D : Nat) (xs : List Nat) (W : World), w.heap.size ≤ D → S xs → I xs W → W.heap[D]? = some (.deferred (some [])) → Q .normal { tmps := T, defers := { target := .collected D, args := #[] } :: df } W)
    (hstop : ∀ (D : Nat) (c : Code) (pre : List Nat) (W : World), w.heap.size ≤ D → Sp pre → Ix c pre W → W.heap[D]? = some (.deferred (some [])) → c.wpIn F n P Q { tmps := T, defers := { target := .collected D, args := #[] } :: df } W) :
    (Code.rangeFunc g #[p] assign body).wpIn F n P Q ⟨T, df⟩ w :=
  wpIn_rangeFunc_ownF hro h1 hg hFg eg hseq hKt hKb hb0 (fun _ => rfl) I Ix hI hIx h0 (fun x => { tmps := (T.setIfInBounds p (.int .i64 (x : Nat))).setIfInBounds q (.int .i64 (x : Nat)), defers := [] })
    (fun l x W K hK => by
      have h := hassign l x W K hK
      have e : ((#[p] : Array Tmp).zip #[Value.int .i64 (x : Nat)]).foldl (fun t (p, v) => t.setIfInBounds p v) T = T.setIfInBounds p (.int .i64 (x : Nat)) := by simp
      exact e ▸ h) hbody hdone hstop

theorem IntSl.take {w : World} {a : Option Addr} {l q : List Int} (h : IntSl w a l) (hq : q <+: l) : IntSl w a q := fun j hj => by
  obtain ⟨x, h1, h2, h3⟩ := h j (Nat.lt_of_lt_of_le hj hq.length_le)
  refine ⟨x, h1, h2.trans ?_, h3⟩
  rw [hq.getElem hj]
/-- 'got = append(got, i)' in a round: got's cell lies below n₁, its row does not. -/
theorem appended_kp {W w1 : World} {n₁ gb : Nat} {v v' : Value} {k m : Nat} {xs ys : List Value} {tmp : Obj} (hv : Boxed W gb 22 v) (hrow : W.ownsRow n₁ 3 1 v k xs) (hn : gb < n₁ ∧ n₁ ≤ W.heap.size)
    (hown' : w1.ownsRow n₁ 3 1 v' m ys) (hgrow : (W.alloc tmp).grownBy w1 v.ownBlock) :
    Boxed w1 gb 22 v ∧ Boxed (w1.setCell ⟨gb, 0, none⟩ v') gb 22 v' ∧ (w1.setCell ⟨gb, 0, none⟩ v').ownsRow n₁ 3 1 v' m ys ∧ KeepsOthers W (w1.setCell ⟨gb, 0, none⟩ v') ∧ KPn n₁ gb W (w1.setCell ⟨gb, 0, none⟩ v') ∧ Below gb W (w1.setCell ⟨gb, 0, none⟩ v') := by
  obtain ⟨hv1, hv2, -, hk2, hb2⟩ := hv.appended (by decide) (hrow.mono (Nat.le_of_lt hn.1)) (by omega) (Nat.le_refl _) (hown'.mono (Nat.le_of_lt hn.1)) hgrow
  refine ⟨hv1, hv2, hown'.kept (grownBy_setCell' w1 gb v') (.inr (hv1.not_row (by decide) hown').symm), hk2, fun _ => ?_, hb2⟩
  have hlt := hrow.lt
  obtain ⟨a1, a2, a3, a4, a5⟩ := hgrow
  refine ⟨a1, a2, a3, ?_, fun j hj hjb => ?_⟩
  · simp at a4 ⊢; omega
  · simp only [World.setCell]
    rw [Array.getElem?_modify, if_neg (fun e => hjb e.symm), a5 j (by simp; omega) (fun e => by have := (hlt j e.symm).1; omega)]
    obtain ⟨-, -, -, -, b5⟩ := (Below.refl _ W).alloc (Nat.le_refl _) tmp
    exact b5 j (by omega)

set_option maxHeartbeats 4000000 in
set_option maxRecDepth 100000 in
theorem found_small (a : Option Addr) (ps : List PgT) (cap : Nat) (fr to stop : Int) (w : World) (hn : ps.length ≤ 4) (hl : PgSl w a ps) :
    Calls Try.prog 10 #[.slice a ps.length cap, .agg #[.int .i64 fr, .int .i64 to], .int .i64 stop] w fun e w' => e = .returned (.bool true) ∧ Below w.heap.size w w' := by
  obtain ⟨i0, hi, hz0, hz1, hz2⟩ := info_parts intInfo
  have e4 : decide ((ps.length : Int) > 4) = false := decide_eq_false (by omega)
  have e5 : decide (4 < (ps.length : Int)) = false := decide_eq_false (by omega)
  refine (callsIn_wide (n := 3)).1 ?_
  refine callsIn_of_wp_marks Try.func10 rfl trivial ?_ rfl
  simp only [Try.ntmps10, List.size_toArray, List.length_cons, List.length_nil, Nat.reduceAdd, Nat.reduceSub, Array.replicate_succ, Array.replicate_zero, List.push_toArray, List.append_toArray, List.nil_append, List.cons_append]
  refine wpIn_wide.2 ?_
  go_upto_region 5 with (first
    | (go_at_call 26; refine (awake07 _).mono ?_; rintro e w1 ⟨rfl, hb1⟩))
  have hB0 : Below w.heap.size w ((w.alloc (.cells #[.int .i64 fr, .int .i64 to] 65)).alloc (.cells #[.int .i64 stop] 3)) := ((Below.refl _ w).alloc (Nat.le_refl _) _).alloc (by simp) _
  have hcx0 : ((w.alloc (.cells #[.int .i64 fr, .int .i64 to] 65)).alloc (.cells #[.int .i64 stop] 3)).cell? ⟨w.heap.size, 0, none⟩ = some (.int .i64 fr) := cell_alloc_l _ ((cell_of_row _ _ 0 _ _ _ (heap_alloc_last w _)).trans rfl)
  have hcx1 : ((w.alloc (.cells #[.int .i64 fr, .int .i64 to] 65)).alloc (.cells #[.int .i64 stop] 3)).cell? ⟨w.heap.size, 1, none⟩ = some (.int .i64 to) := cell_alloc_l _ ((cell_of_row _ _ 1 _ _ _ (heap_alloc_last w _)).trans rfl)
  have hcs := (cell_new_l (w.alloc (.cells #[.int .i64 fr, .int .i64 to] 65)) (.int .i64 stop) 3).1
  rw [World.size_alloc] at hcs
  have hsz0 : ((w.alloc (.cells #[.int .i64 fr, .int .i64 to] 65)).alloc (.cells #[.int .i64 stop] 3)).heap.size = w.heap.size + 2 := by simp
  generalize (w.alloc (.cells #[.int .i64 fr, .int .i64 to] 65)).alloc (.cells #[.int .i64 stop] 3) = w0 at *
  replace hcx0 := (hb1.cell (cell_lt hcx0)).trans hcx0
  replace hcx1 := (hb1.cell (cell_lt hcx1)).trans hcx1
  replace hcs := (hb1.cell (cell_lt hcs)).trans hcs
  have hB1 := hB0.trans (hb1.mono hB0.size)
  have hgx := hb1.size
  rw [hsz0] at hgx
  have hl1 := hl.ext hB1
  clear hB0 hsz0 hb1 w0
  go_upto_region 6 with (first
    | (go_at_call 35; refine (rall_is fr to a ps cap (by omega) _ hl1).mono ?_; rintro e w2 ⟨v, rfl, hI, hb2⟩))
  obtain ⟨aw, cw, hv, hcw, hW⟩ := hI.slice
  subst hv
  rw [List.length_map]
  rw [List.length_map] at hcw
  clear hI
  have hlA := fndA_len ps fr to true
  have hl2 := hl1.ext hb2
  have k0 := (hb2.cell (cell_lt hcx0)).trans hcx0
  have k1 := (hb2.cell (cell_lt hcx1)).trans hcx1
  have k2 := (hb2.cell (cell_lt hcs)).trans hcs
  have hB2 := hB1.trans (hb2.mono hB1.size)
  have hg2 := hb2.size
  clear hcx0 hcx1 hcs hB1 hb2 hl1
  go_upto_region 7 with fail
  have hb3 : Below w2.heap.size w2 (w2.alloc (.cells #[.slice none 0 0] 22)) := (Below.refl _ _).alloc (Nat.le_refl _) _
  have hbx3 := Boxed.new w2 22 (.slice none 0 0)
  have hl3 := hl2.ext hb3
  have c0 := (hb3.cell (cell_lt k0)).trans k0
  have c1 := (hb3.cell (cell_lt k1)).trans k1
  have hsz3 : (w2.alloc (.cells #[.slice none 0 0] 22)).heap.size = w2.heap.size + 1 := by simp
  generalize w2.alloc (.cells #[.slice none 0 0] 22) = w3 at *
  have hA := all_is fr to a ps cap (by omega) w3 hl3
  go_wp2_with (first
    | (go_at_call 36; refine hA.mono ?_; rintro e w4 ⟨wB, aB, cB, hbB, hlB, haB, rfl, rfl⟩))
  have hgB := hbB.size
  have hS := boxes_stops 2 (by omega) w2.heap.size cB fr to true aB ps (by omega) wB (by omega) (fun W hk => hlB.but (fun x hx => by have := haB x hx; omega) hk)
  have hbb := boxes_below fr to true (.slice aB ps.length cB) wB
  have hsz4 := boxes_size fr to true (.slice aB ps.length cB) wB
  have hbx4 : Boxed (boxes fr to true (.slice aB ps.length cB) wB) w2.heap.size 22 (.slice none 0 0) := blk_of hbb (blk_of hbB hbx3)
  have hB4 : Below w2.heap.size w2 (boxes fr to true (.slice aB ps.length cB) wB) := (hb3.trans (hbB.mono hb3.size)).trans (hbb.mono (by omega))
  clear hA hbx3 hl3 c0 c1 hbB hbb haB hlB hb3
  generalize boxes fr to true (.slice aB ps.length cB) wB = w4 at *
  obtain ⟨n₁, hn₁⟩ : ∃ n₁, wB.heap.size + 4 = n₁ := ⟨_, rfl⟩
  rw [hn₁] at hS hsz4
  refine (wpIn_wide (n := 3)).1 ?_
  refine rf_at 9 rfl (by omega) (gf := 62) (lb := #[.pointer (some ⟨wB.heap.size, 0, none⟩), .pointer (some ⟨wB.heap.size + 1, 0, none⟩), .pointer (some ⟨wB.heap.size + 1 + 1 + 1, 0, none⟩), .pointer (some ⟨wB.heap.size + 1 + 1, 0, none⟩)]) rfl trivial (enters_of Try.func62 (by kernel_rfl) rfl)
    hS (fun h h' => KPn.trans _ _ _ h h') (fun W l o o' hl' _ _ _ => KPn.put W l o' (by omega)) (Below.refl _ _)
    (fun pre W => (∃ v, Boxed W w2.heap.size 22 v ∧ W.ownsRow n₁ 3 1 v pre.length (pre.map fun x : Nat => Value.int .i64 x) ∧ ∀ j : Nat, j < pre.length → (j : Int) ≠ stop) ∧ Below w2.heap.size w4 W)
    (fun c s W => (∃ v, Boxed W w2.heap.size 22 v ∧ W.ownsRow n₁ 3 1 v s.dropLast.length (s.dropLast.map fun x : Nat => Value.int .i64 x) ∧ (c = .exit 0 ∧ s ≠ [] ∧ (s.dropLast.length : Int) = stop)) ∧ Below w2.heap.size w4 W)
    (OwnFrom.and (Own.from (holdsRow_own n₁ w2.heap.size 22 3 1 (fun pre : List Nat => pre.length) (fun pre => pre.map fun x : Nat => Value.int .i64 x) (fun pre _ => ∀ j : Nat, j < pre.length → (j : Int) ≠ stop)) _) (ownFrom_below (by omega) (by omega)))
    (fun c => OwnFrom.and (Own.from (holdsRow_own n₁ w2.heap.size 22 3 1 (fun s : List Nat => s.dropLast.length) (fun s => s.dropLast.map fun x : Nat => Value.int .i64 x) (fun s _ => c = .exit 0 ∧ s ≠ [] ∧ (s.dropLast.length : Int) = stop)) _) (ownFrom_below (by omega) (by omega)))
    ⟨⟨_, hbx4, World.ownsRow_nil _ _ _ _, fun j hj => by simp at hj⟩, Below.refl _ _⟩ ?assign ?body ?done ?stop
  case assign =>
    intro l x W K hK
    simp only [List.setIfInBounds_toArray, List.set_cons_succ, List.set_cons_zero] at hK ⊢
    gi_wp2
    exact hK
  case body =>
    rintro l pre x W ⟨⟨v, hv, hrow, hns⟩, hB⟩ hlen
    simp only [List.setIfInBounds_toArray, List.set_cons_succ, List.set_cons_zero]
    have hc := hv.cell
    have hf := hv.frozen
    have hcs := ((hB4.trans hB).cell (cell_lt k2)).trans k2
    have hWn : w2.heap.size < n₁ ∧ n₁ ≤ W.heap.size := ⟨by omega, by have := hB.size; omega⟩
    obtain ⟨av, cv, hve⟩ : ∃ a c, v = .slice a pre.length c := by
      rcases hrow.2 with ⟨rfl, h0⟩ | ⟨g, c, cur, rfl, -⟩
      · rw [h0]; exact ⟨_, _, rfl⟩
      · exact ⟨_, _, rfl⟩
    subst hve
    by_cases hst : (pre.length : Int) = stop
    · have hst' : ((pre.length : Int) == stop) = true := beq_iff_eq.2 hst
      gi_wp2
      exact ⟨KeepsOthers.refl _, ⟨_, hv, by rw [List.dropLast_concat]; exact hrow, rfl, by simp, by rw [List.dropLast_concat]; exact hst⟩, hB⟩
    · have hst' : ((pre.length : Int) == stop) = false := beq_eq_false_iff_ne.2 hst
      gi_wp2_with (first | (gi_at_builtin; refine wpListIn_append_own _ rfl _ _ 22 rfl n₁ 3 i0 (.int .i64 0) 1 8 Try.underlying22 hi hz0 hz1 hz2 rfl (by decide) _ _ _ rfl (hrow.alloc _) ⟨W.heap.size, 0, none⟩ 1 1 [.int .i64 (x : Nat)] rfl rfl (cell_one_new _ _ _) (by simp [Value.oneCell']) (by unfold maxLen; omega) (by omega) (by have := hB.size; simp; omega) ?_; intro v' w1 hown' hgrow _; obtain ⟨g', cap', rfl⟩ := ownsRow_succ hown'; obtain ⟨hv1, hv2, hr2, hk2, hkp2, hb2⟩ := appended_kp hv hrow hWn hown' hgrow; have hc1 := hv1.cell; have hf1 := hv1.frozen))
      refine ⟨hk2, hkp2, ⟨_, hv2, by rw [List.length_append, List.map_append]; exact hr2, fun j hj => ?_⟩, hB.trans hb2⟩
      rw [List.length_append, List.length_singleton] at hj
      rcases Nat.lt_succ_iff_lt_or_eq.1 hj with h | h
      · exact hns j h
      · subst h; exact hst
  case done =>
    rintro D ys W hD rfl ⟨⟨v, hv, hrow, hns⟩, hB⟩ hK
    have hgot : IntRow W n₁ v ((fndA ps fr to true).map Int.ofNat) := by unfold IntRow; rw [List.length_map, List.map_map]; exact hrow
    obtain ⟨ag, cg, hvg, -, hG⟩ := hgot.slice
    subst hvg
    rw [List.length_map] at hv
    have k3 := hv.cell
    clear hgot hrow hv
    have hBg := hB4.trans hB
    replace k0 := (hBg.cell (cell_lt k0)).trans k0
    replace k1 := (hBg.cell (cell_lt k1)).trans k1
    replace k2 := (hBg.cell (cell_lt k2)).trans k2
    have hBw := hB2.trans (hBg.mono (by omega))
    have hlW := hl2.ext hBg
    have hWW := hW.ext hBg
    clear hS hbx4 hB4 hl hl2 hW hB2 hB hBg
    have hSm := fun w' (hb' : Below W.heap.size W w') => same_ints ag aw cg cw ((fndA ps fr to true).map Int.ofNat) w' (hG.ext hb') (hWW.ext hb') (by rw [List.length_map]; omega)
    rw [List.length_map] at hSm
    by_cases h0 : 0 ≤ stop
    · have d1 : decide (0 ≤ stop) = true := decide_eq_true h0
      have d2 : decide (stop < ((fndA ps fr to true).length : Int)) = false := decide_eq_false (fun h => hns stop.toNat (by omega) (Int.toNat_of_nonneg h0))
      clear hns
      go_upto_region 16 with (first
        | (go_at_call 37; refine (hSm _ (Below.refl _ _)).mono ?_; rintro e w5 ⟨rfl, hb5⟩))
      have hC := fun w' (hb' : Below w5.heap.size w5 w') => count_is fr to a ps cap (by omega) w' (hlW.ext (hb5.trans (hb'.mono hb5.size)))
      have hFi := fun w' (hb' : Below w5.heap.size w5 w') => first_is fr to a ps cap (by omega) w' (hlW.ext (hb5.trans (hb'.mono hb5.size)))
      have hRF := fun w' (hb' : Below w5.heap.size w5 w') => rfirst_is fr to a ps cap (by omega) w' (hlW.ext (hb5.trans (hb'.mono hb5.size)))
      replace k0 := (hb5.cell (cell_lt k0)).trans k0
      replace k1 := (hb5.cell (cell_lt k1)).trans k1
      replace k2 := (hb5.cell (cell_lt k2)).trans k2
      replace k3 := (hb5.cell (cell_lt k3)).trans k3
      clear hSm
      refine wp_region_rel (S := fun w' => Below w5.heap.size w5 w') [54, 55, 56, 57, 58, 59, 60, 61, 62, 63, 64, 65, 66, 67, 68, 69, 70, 71, 72, 73, 74, 75, 76, 77] mixed07 (by kernel_rfl) (by kernel_rfl) (by decide) (by kernel_rfl) (fun _ _ h k => h.trans (k.mono h.size)) (Below.refl _ _).drew ?_
      iterate 24 (refine rel_eq (v := ?_) ?_ ?_; rotate_left; (focus ((simp only [Lay, List.nil_append, List.cons_append, List.setIfInBounds_toArray, List.set_cons_succ, List.set_cons_zero]; intros; rename_i w9 hS hF; simp only [FactsE, List.nil_append, List.cons_append, List.toList_toArray, List.getElem?_cons_succ, List.getElem?_cons_zero] at hF; try (repeat (first | obtain ⟨rfl, hF⟩ := hF | obtain ⟨-, hF⟩ := hF))); refine step_take rfl (of_decide_eq_true rfl) ?_; (have c0 := (hS.cell (cell_lt k0)).trans k0; have c1 := (hS.cell (cell_lt k1)).trans k1; have c2 := (hS.cell (cell_lt k2)).trans k2; have c3 := (hS.cell (cell_lt k3)).trans k3); go_wp2_with (first | (go_at_call 33; refine (hC _ hS).mono ?_; rintro e w1 ⟨rfl, hb1⟩) | (go_at_call 32; refine (hFi _ hS).mono ?_; rintro e w1 ⟨rfl, hb1⟩) | (go_at_call 38; refine (hRF _ hS).mono ?_; rintro e w1 ⟨rfl, hb1⟩) | (go_at_call 37; refine (hSm _ hS).mono ?_; rintro e w1 ⟨rfl, hb1⟩)); refine RQ_mk rfl ?_ ?_; (focus first | exact hb1 | exact Below.refl _ _); (focus (first | (simp only [Array.getD_eq_getD_getElem?, List.getElem?_toArray, List.getElem?_cons_succ, List.getElem?_cons_zero, Option.getD_some]; done) | (simp only [Array.getD_eq_getD_getElem?, List.getElem?_toArray, List.getElem?_cons_succ, List.getElem?_cons_zero, Option.getD_some]; rfl) | rfl)))))
      refine rel_end ?_
      (simp only [Lay, List.nil_append, List.cons_append, List.setIfInBounds_toArray, List.set_cons_succ, List.set_cons_zero]; intros; rename_i w9 hS hF; simp only [FactsA, List.nil_append, List.cons_append] at hF; try (repeat (first | obtain ⟨rfl, hF⟩ := hF | obtain ⟨-, hF⟩ := hF)))
      go_wp2
      have hb6 := hb5.trans (hS.mono hb5.size)
      have hK' := blk_of hb6 hK
      refine ⟨by simp, .inl ⟨_, _, rfl, run_takeDeferred hK', ?_⟩⟩
      have hb7 := hBw.trans (hb6.mono hBw.size)
      exact ⟨_, results_tmp rfl _ _ _, rfl, hb7.trans (belowK_b (w := w) (Nat.le_refl _) _ D _ _ (by omega) hK' rfl rfl)⟩
    · have d1 : decide (0 ≤ stop) = false := decide_eq_false h0
      clear hns
      go_upto_region 16 with (first
        | (go_at_call 37; refine (hSm _ (Below.refl _ _)).mono ?_; rintro e w5 ⟨rfl, hb5⟩))
      have hC := fun w' (hb' : Below w5.heap.size w5 w') => count_is fr to a ps cap (by omega) w' (hlW.ext (hb5.trans (hb'.mono hb5.size)))
      have hFi := fun w' (hb' : Below w5.heap.size w5 w') => first_is fr to a ps cap (by omega) w' (hlW.ext (hb5.trans (hb'.mono hb5.size)))
      have hRF := fun w' (hb' : Below w5.heap.size w5 w') => rfirst_is fr to a ps cap (by omega) w' (hlW.ext (hb5.trans (hb'.mono hb5.size)))
      replace k0 := (hb5.cell (cell_lt k0)).trans k0
      replace k1 := (hb5.cell (cell_lt k1)).trans k1
      replace k2 := (hb5.cell (cell_lt k2)).trans k2
      replace k3 := (hb5.cell (cell_lt k3)).trans k3
      clear hSm
      refine wp_region_rel (S := fun w' => Below w5.heap.size w5 w') [54, 55, 56, 57, 58, 59, 60, 61, 62, 63, 64, 65, 66, 67, 68, 69, 70, 71, 72, 73, 74, 75, 76, 77] mixed07 (by kernel_rfl) (by kernel_rfl) (by decide) (by kernel_rfl) (fun _ _ h k => h.trans (k.mono h.size)) (Below.refl _ _).drew ?_
      iterate 24 (refine rel_eq (v := ?_) ?_ ?_; rotate_left; (focus ((simp only [Lay, List.nil_append, List.cons_append, List.setIfInBounds_toArray, List.set_cons_succ, List.set_cons_zero]; intros; rename_i w9 hS hF; simp only [FactsE, List.nil_append, List.cons_append, List.toList_toArray, List.getElem?_cons_succ, List.getElem?_cons_zero] at hF; try (repeat (first | obtain ⟨rfl, hF⟩ := hF | obtain ⟨-, hF⟩ := hF))); refine step_take rfl (of_decide_eq_true rfl) ?_; (have c0 := (hS.cell (cell_lt k0)).trans k0; have c1 := (hS.cell (cell_lt k1)).trans k1; have c2 := (hS.cell (cell_lt k2)).trans k2; have c3 := (hS.cell (cell_lt k3)).trans k3); go_wp2_with (first | (go_at_call 33; refine (hC _ hS).mono ?_; rintro e w1 ⟨rfl, hb1⟩) | (go_at_call 32; refine (hFi _ hS).mono ?_; rintro e w1 ⟨rfl, hb1⟩) | (go_at_call 38; refine (hRF _ hS).mono ?_; rintro e w1 ⟨rfl, hb1⟩) | (go_at_call 37; refine (hSm _ hS).mono ?_; rintro e w1 ⟨rfl, hb1⟩)); refine RQ_mk rfl ?_ ?_; (focus first | exact hb1 | exact Below.refl _ _); (focus (first | (simp only [Array.getD_eq_getD_getElem?, List.getElem?_toArray, List.getElem?_cons_succ, List.getElem?_cons_zero, Option.getD_some]; done) | (simp only [Array.getD_eq_getD_getElem?, List.getElem?_toArray, List.getElem?_cons_succ, List.getElem?_cons_zero, Option.getD_some]; rfl) | rfl)))))
      refine rel_end ?_
      (simp only [Lay, List.nil_append, List.cons_append, List.setIfInBounds_toArray, List.set_cons_succ, List.set_cons_zero]; intros; rename_i w9 hS hF; simp only [FactsA, List.nil_append, List.cons_append] at hF; try (repeat (first | obtain ⟨rfl, hF⟩ := hF | obtain ⟨-, hF⟩ := hF)))
      go_wp2
      have hb6 := hb5.trans (hS.mono hb5.size)
      have hK' := blk_of hb6 hK
      refine ⟨by simp, .inl ⟨_, _, rfl, run_takeDeferred hK', ?_⟩⟩
      have hb7 := hBw.trans (hb6.mono hBw.size)
      exact ⟨_, results_tmp rfl _ _ _, rfl, hb7.trans (belowK_b (w := w) (Nat.le_refl _) _ D _ _ (by omega) hK' rfl rfl)⟩
  case stop =>
    rintro D c s W hD hpre ⟨⟨v, hv, hrow, rfl, hne, hst⟩, hB⟩ hK
    have hqp : s.dropLast <+: fndA ps fr to true := (List.dropLast_prefix s).trans hpre
    have hql : s.dropLast.length < (fndA ps fr to true).length := by
      have h1 := hpre.length_le
      have h2 : 0 < s.length := List.length_pos_iff.2 hne
      rw [List.length_dropLast]
      omega
    generalize s.dropLast = q at *
    have hgot : IntRow W n₁ v (q.map Int.ofNat) := by unfold IntRow; rw [List.length_map, List.map_map]; exact hrow
    obtain ⟨ag, cg, hvg, -, hG⟩ := hgot.slice
    subst hvg
    rw [List.length_map] at hv
    have k3 := hv.cell
    clear hgot hrow hv hpre hne
    have hBg := hB4.trans hB
    replace k0 := (hBg.cell (cell_lt k0)).trans k0
    replace k1 := (hBg.cell (cell_lt k1)).trans k1
    replace k2 := (hBg.cell (cell_lt k2)).trans k2
    have hBw := hB2.trans (hBg.mono (by omega))
    have hlW := hl2.ext hBg
    have hWW := hW.ext hBg
    clear hS hbx4 hB4 hl hl2 hW hB2 hB hBg
    have hSm := fun w' (hb' : Below W.heap.size W w') => same_ints ag aw cg cw (q.map Int.ofNat) w' (hG.ext hb') ((hWW.take (hqp.map _)).ext hb') (by rw [List.length_map]; omega)
    rw [List.length_map] at hSm
    subst hst
    have d1 : decide (0 ≤ (q.length : Int)) = true := decide_eq_true (by omega)
    have d2 : decide ((q.length : Int) < ((fndA ps fr to true).length : Int)) = true := decide_eq_true (by omega)
    have d3 : decide ((q.length : Int) ≤ (cw : Int)) = true := decide_eq_true (by omega)
    refine (wpIn_wide (n := 3)).2 ?_
    go_upto_region 12 with fail
    refine wp_region_rel (S := fun w' => Below W.heap.size W w') [44, 45, 46, 47, 48] mixed07 (by kernel_rfl) (by kernel_rfl) (by decide) (by kernel_rfl) (fun _ _ h k => h.trans (k.mono h.size)) (Below.refl _ _).drew ?_
    iterate 5 (refine rel_eq (v := ?_) ?_ ?_; rotate_left; (focus ((simp only [Lay, List.nil_append, List.cons_append, List.setIfInBounds_toArray, List.set_cons_succ, List.set_cons_zero]; intros; rename_i w9 hS hF; simp only [FactsE, List.nil_append, List.cons_append, List.toList_toArray, List.getElem?_cons_succ, List.getElem?_cons_zero] at hF; try (repeat (first | obtain ⟨rfl, hF⟩ := hF | obtain ⟨-, hF⟩ := hF))); refine step_take rfl (of_decide_eq_true rfl) ?_; (have c0 := (hS.cell (cell_lt k0)).trans k0; have c1 := (hS.cell (cell_lt k1)).trans k1; have c2 := (hS.cell (cell_lt k2)).trans k2; have c3 := (hS.cell (cell_lt k3)).trans k3); go_wp2_with (first | (go_at_call 33; refine (hC _ hS).mono ?_; rintro e w1 ⟨rfl, hb1⟩) | (go_at_call 32; refine (hFi _ hS).mono ?_; rintro e w1 ⟨rfl, hb1⟩) | (go_at_call 38; refine (hRF _ hS).mono ?_; rintro e w1 ⟨rfl, hb1⟩) | (go_at_call 37; refine (hSm _ hS).mono ?_; rintro e w1 ⟨rfl, hb1⟩)); refine RQ_mk rfl ?_ ?_; (focus first | exact hb1 | exact Below.refl _ _); (focus (first | (simp only [Array.getD_eq_getD_getElem?, List.getElem?_toArray, List.getElem?_cons_succ, List.getElem?_cons_zero, Option.getD_some]; done) | (simp only [Array.getD_eq_getD_getElem?, List.getElem?_toArray, List.getElem?_cons_succ, List.getElem?_cons_zero, Option.getD_some]; rfl) | rfl)))))
    refine rel_end ?_
    (simp only [Lay, List.nil_append, List.cons_append, List.setIfInBounds_toArray, List.set_cons_succ, List.set_cons_zero]; intros; rename_i w9 hS hF; simp only [FactsA, List.nil_append, List.cons_append] at hF; try (repeat (first | obtain ⟨rfl, hF⟩ := hF | obtain ⟨-, hF⟩ := hF)))
    have hb5 := hS
    go_upto_region 16 with fail
    have hC := fun w' (hb' : Below w9.heap.size w9 w') => count_is fr to a ps cap (by omega) w' (hlW.ext (hb5.trans (hb'.mono hb5.size)))
    have hFi := fun w' (hb' : Below w9.heap.size w9 w') => first_is fr to a ps cap (by omega) w' (hlW.ext (hb5.trans (hb'.mono hb5.size)))
    have hRF := fun w' (hb' : Below w9.heap.size w9 w') => rfirst_is fr to a ps cap (by omega) w' (hlW.ext (hb5.trans (hb'.mono hb5.size)))
    replace k0 := (hb5.cell (cell_lt k0)).trans k0
    replace k1 := (hb5.cell (cell_lt k1)).trans k1
    replace k2 := (hb5.cell (cell_lt k2)).trans k2
    replace k3 := (hb5.cell (cell_lt k3)).trans k3
    clear hSm
    refine wp_region_rel (S := fun w' => Below w9.heap.size w9 w') [54, 55, 56, 57, 58, 59, 60, 61, 62, 63, 64, 65, 66, 67, 68, 69, 70, 71, 72, 73, 74, 75, 76, 77] mixed07 (by kernel_rfl) (by kernel_rfl) (by decide) (by kernel_rfl) (fun _ _ h k => h.trans (k.mono h.size)) (Below.refl _ _).drew ?_
    iterate 24 (refine rel_eq (v := ?_) ?_ ?_; rotate_left; (focus ((simp only [Lay, List.nil_append, List.cons_append, List.setIfInBounds_toArray, List.set_cons_succ, List.set_cons_zero]; intros; rename_i w9 hS hF; simp only [FactsE, List.nil_append, List.cons_append, List.toList_toArray, List.getElem?_cons_succ, List.getElem?_cons_zero] at hF; try (repeat (first | obtain ⟨rfl, hF⟩ := hF | obtain ⟨-, hF⟩ := hF))); refine step_take rfl (of_decide_eq_true rfl) ?_; (have c0 := (hS.cell (cell_lt k0)).trans k0; have c1 := (hS.cell (cell_lt k1)).trans k1; have c2 := (hS.cell (cell_lt k2)).trans k2; have c3 := (hS.cell (cell_lt k3)).trans k3); go_wp2_with (first | (go_at_call 33; refine (hC _ hS).mono ?_; rintro e w1 ⟨rfl, hb1⟩) | (go_at_call 32; refine (hFi _ hS).mono ?_; rintro e w1 ⟨rfl, hb1⟩) | (go_at_call 38; refine (hRF _ hS).mono ?_; rintro e w1 ⟨rfl, hb1⟩) | (go_at_call 37; refine (hSm _ hS).mono ?_; rintro e w1 ⟨rfl, hb1⟩)); refine RQ_mk rfl ?_ ?_; (focus first | exact hb1 | exact Below.refl _ _); (focus (first | (simp only [Array.getD_eq_getD_getElem?, List.getElem?_toArray, List.getElem?_cons_succ, List.getElem?_cons_zero, Option.getD_some]; done) | (simp only [Array.getD_eq_getD_getElem?, List.getElem?_toArray, List.getElem?_cons_succ, List.getElem?_cons_zero, Option.getD_some]; rfl) | rfl)))))
    refine rel_end ?_
    (simp only [Lay, List.nil_append, List.cons_append, List.setIfInBounds_toArray, List.set_cons_succ, List.set_cons_zero]; intros; rename_i w9 hS hF; simp only [FactsA, List.nil_append, List.cons_append] at hF; try (repeat (first | obtain ⟨rfl, hF⟩ := hF | obtain ⟨-, hF⟩ := hF)))
    go_wp2
    have hb6 := hb5.trans (hS.mono hb5.size)
    have hK' := blk_of hb6 hK
    refine ⟨by simp, .inl ⟨_, _, rfl, run_takeDeferred hK', ?_⟩⟩
    have hb7 := hBw.trans (hb6.mono hBw.size)
    exact ⟨_, results_tmp rfl _ _ _, rfl, hb7.trans (belowK_b (w := w) (Nat.le_refl _) _ D _ _ (by omega) hK' rfl rfl)⟩
set_option maxHeartbeats 2000000 in
set_option maxRecDepth 100000 in
theorem walk_BitsFound (a : Option Addr) (ps : List PgT) (cap : Nat) (fr to stop : Int) (w : World) (hl : PgSl w a ps) :
    Calls Try.prog 10 #[.slice a ps.length cap, .agg #[.int .i64 fr, .int .i64 to], .int .i64 stop] w fun e w' => e = .returned (.bool true) ∧ Below w.heap.size w w' := by
  by_cases hn : ps.length ≤ 4
  · exact found_small a ps cap fr to stop w hn hl
  · have e4 : decide ((ps.length : Int) > 4) = true := decide_eq_true (by omega)
    have e5 : decide (4 < (ps.length : Int)) = true := decide_eq_true (by omega)
    have hB0 : Below w.heap.size w ((w.alloc (.cells #[.int .i64 fr, .int .i64 to] 65)).alloc (.cells #[.int .i64 stop] 3)) := ((Below.refl _ w).alloc (Nat.le_refl _) _).alloc (by simp) _
    go_enter Try.func10, Try.ntmps10
    go_wp2_with (first
      | (go_at_call 26; refine (awake07 _).mono ?_; rintro e w1 ⟨rfl, hb1⟩))
    go_ret
    exact ⟨rfl, hB0.trans (hb1.mono hB0.size)⟩
end Go.Proofs.Ytmnofoflbhdgjaa
