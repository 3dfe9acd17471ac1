/- What a plan answers, as plain numbers; the walk of (Inode).pages. -/
import Derived.Test.YtmnofoflbhdgjaaInoG
import Derived.Test.YtmnofoflbhdgjaaPInodeRightsx
namespace Go.Proofs.Ytmnofoflbhdgjaa
open Go.RowKit Go.Maps PInodeRights Go.Proofs.YtmnofoflbhdgjaaW.PrintWords
set_option linter.unusedSimpArgs false
set_option linter.unusedVariables false

theorem aX3 : AggT Try.prog 80 2 := ⟨by kernel_rfl, by kernel_rfl⟩
theorem aX4 : AggT Try.prog 82 3 := ⟨by kernel_rfl, by kernel_rfl⟩
theorem zX4 : ZeroT Try.prog 82 #[.int .i64 0, .int .i64 0, .int .i64 0] := by unfold ZeroT; kernel_rfl

def pDat (n : Int) : Int := 43 + (n + 1) / 2
def pRt (p n : Int) : Bool := decide (1 ≤ n ∧ n ≤ 128 ∧ p ≤ 512 ∧ pDat n < p)
theorem pRt_iff {p n : Int} : pRt p n = true ↔ 1 ≤ n ∧ n ≤ 128 ∧ p ≤ 512 ∧ pDat n < p := by unfold pRt; exact decide_eq_true_iff
def pgOk (p n x : Int) : Bool := decide (x = 0 ∨ pDat n ≤ x ∧ x < p)

theorem data_f (p n : Int) (h1 : 1 ≤ n) (h2 : n ≤ 128) : plan_Plan_data.f p n = some (pDat n) := by
  unfold plan_Plan_data.f pDat
  have e1 : wrap64 (wrap64 (n + 2) - 1) = n + 1 := by unfold wrap64; omega
  have e2 : Int.tdiv (n + 1) 2 = (n + 1) / 2 := Int.tdiv_eq_ediv_of_nonneg (by omega)
  rw [e1, e2]
  congr 1
  unfold wrap64; omega
theorem right_f (p n : Int) : plan_Plan_right.f p n = some (pRt p n) := by
  unfold plan_Plan_right.f
  by_cases h1 : n ≥ 1
  · rw [if_pos h1]
    by_cases h2 : n ≤ 128
    · rw [if_pos h2]
      by_cases h3 : p ≤ 512
      · rw [if_pos h3, data_f p n h1 h2, Option.bind_some]
        congr 1
        unfold pRt
        exact decide_eq_decide.2 ⟨fun h => ⟨h1, h2, h3, h⟩, fun h => h.2.2.2⟩
      · rw [if_neg h3]; congr 1; unfold pRt; exact (decide_eq_false (by omega)).symm
    · rw [if_neg h2]; congr 1; unfold pRt; exact (decide_eq_false (by omega)).symm
  · rw [if_neg h1]; congr 1; unfold pRt; exact (decide_eq_false (by omega)).symm
theorem of_f (p n x : Int) : plan_Plan_of.f p n x = some (if pRt p n = true then x else 0) := by
  unfold plan_Plan_of.f
  rw [right_f, Option.bind_some]
  split <;> rfl
theorem room_f (p n : Int) : ∃ x, plan_Plan_Room.f p n = some x ∧ (x = 0 ↔ pRt p n = false) := by
  unfold plan_Plan_Room.f
  by_cases hr : pRt p n = true
  · obtain ⟨h1, h2, h3, h4⟩ := pRt_iff.1 hr
    have hd : 0 ≤ pDat n := by unfold pDat; omega
    rw [data_f p n h1 h2, Option.bind_some, of_f, Option.bind_some, if_pos hr]
    refine ⟨_, rfl, ?_⟩
    rw [hr, show wrap64 (p - pDat n) = p - pDat n from by unfold wrap64; omega]
    simp
    omega
  · have hr' : pRt p n = false := by simpa using hr
    have : ∃ y, plan_Plan_data.f p n = some y := ⟨_, rfl⟩
    obtain ⟨y, hy⟩ := this
    rw [hy, Option.bind_some, of_f, Option.bind_some, if_neg hr]
    exact ⟨0, rfl, by simp [hr']⟩
theorem dataF_f (p n : Int) (hr : pRt p n = true) : plan_Plan_Data.f p n = some (pDat n) := by
  obtain ⟨h1, h2, -⟩ := pRt_iff.1 hr
  unfold plan_Plan_Data.f
  rw [data_f p n h1 h2, Option.bind_some, of_f, Option.bind_some, if_pos hr]
theorem bit_f (p n x : Int) (hr : pRt p n = true) (hx : x ≠ 0) : ∃ y, plan_Plan_Bit.f p n x = some y ∧ (y < 0 ↔ pgOk p n x = false) := by
  obtain ⟨h1, h2, h3, h4⟩ := pRt_iff.1 hr
  have hd : 0 ≤ pDat n := by unfold pDat; omega
  unfold plan_Plan_Bit.f
  rw [right_f, Option.bind_some, if_pos hr, dataF_f p n hr, Option.bind_some]
  unfold pgOk
  by_cases c1 : x < pDat n
  · rw [if_pos c1]
    exact ⟨_, rfl, by rw [decide_eq_false (by omega)]; simp⟩
  · rw [if_neg c1]
    by_cases c2 : x ≥ p
    · rw [if_pos c2]
      exact ⟨_, rfl, by rw [decide_eq_false (by omega)]; simp⟩
    · rw [if_neg c2, Option.bind_some]
      refine ⟨_, rfl, ?_⟩
      rw [decide_eq_true (by omega), show wrap64 (x - pDat n) = x - pDat n from by unfold wrap64; omega]
      simp
      omega
theorem page_f (p n x : Int) : narthexref09_page.f x p n (pDat n) = some (pgOk p n x) := by
  unfold narthexref09_page.f pgOk
  by_cases c0 : x = 0
  · rw [if_pos c0, decide_eq_true (.inl c0)]
  · rw [if_neg c0]
    by_cases c1 : x ≥ pDat n
    · rw [if_pos c1]
      exact congrArg some (decide_eq_decide.2 ⟨fun h => .inr ⟨c1, h⟩, fun h => by omega⟩)
    · rw [if_neg c1, decide_eq_false (by omega)]

theorem new_l0 (p n : Int) (h2 : n ≤ 128) : ∀ (m j k : Nat), (n + 1) / 2 = (j + m : Nat) → m < k →
    narthexref08_New.l0 k p n (43 + j) (2 * j) = if p ≤ pDat n then some (0, 0, 0, false) else some (p, n, pDat n, true)
  | 0, j, k, hj, hk => by
    obtain ⟨k, rfl⟩ : ∃ q, k = q + 1 := ⟨k - 1, by omega⟩
    simp only [narthexref08_New.l0]
    rw [if_neg (by omega), show (43 : Int) + j = pDat n from by unfold pDat; omega]
  | m + 1, j, k, hj, hk => by
    obtain ⟨k, rfl⟩ : ∃ q, k = q + 1 := ⟨k - 1, by omega⟩
    simp only [narthexref08_New.l0]
    rw [if_pos (by omega), show wrap64 (43 + (j : Int) + 1) = 43 + ((j + 1 : Nat) : Int) from by unfold wrap64; omega, show wrap64 (2 * (j : Int) + 2) = 2 * ((j + 1 : Nat) : Int) from by unfold wrap64; omega]
    exact new_l0 p n h2 m (j + 1) k (by omega) (by omega)
theorem new_f (p n : Int) : narthexref08_New.f 100 p n = if pRt p n = true then some (p, n, pDat n, true) else some (0, 0, 0, false) := by
  unfold narthexref08_New.f
  have ej : ∀ b, narthexref08_New.j0 100 p n b = if b = true then some (0, 0, 0, false) else narthexref08_New.l0 99 p n 43 0 := fun b => rfl
  rw [ej, ej]
  by_cases h1 : n < 1
  · rw [if_pos h1, if_pos rfl, if_neg (by rw [pRt_iff]; omega)]
  · rw [if_neg h1]
    by_cases h2 : n > 128
    · rw [if_pos h2, if_pos rfl, if_neg (by rw [pRt_iff]; omega)]
    · rw [if_neg h2]
      by_cases h3 : p > 512
      · rw [if_pos (by simpa using h3), if_neg (by rw [pRt_iff]; omega)]
      · rw [if_neg (by simpa using h3)]
        have := new_l0 p n (by omega) ((n + 1) / 2).toNat 0 99 (by omega) (by omega)
        simp only [Int.natCast_zero, Int.mul_zero, Int.add_zero] at this
        rw [this]
        by_cases h4 : p ≤ pDat n
        · rw [if_pos h4, if_neg (by rw [pRt_iff]; omega)]
        · rw [if_neg h4, if_pos (by rw [pRt_iff]; omega)]

theorem ev_append' {P : Program} {ops : Array Oper} {rest : List Oper} {Q : Exit → Act → World → Prop} {tmps : Array Value} {df : List Deferred} {d ty t u : Nat} {T U : TypeId} {ps : String} {af : Array Edge} {gd : Option (Nat × Bool)} {w : World}
    (h : Region.wanted ⟨some d, .call { callee := .builtin .append, args := #[.tmp t, .tmp u], argTypes := #[T, U] }, ty, ps, af, gd⟩ (yielded ops tmps) = true ∧ ∃ x y v w',
      tmps.getD t undef = x ∧ tmps.getD u undef = y ∧ (Builtin.append_ #[T, U] ty #[x, y]).run P w = .ok v w' ∧ wpList P ops Q rest (Act.put ⟨tmps, df⟩ (some d) v) w') :
    wpList P ops Q (⟨some d, .call { callee := .builtin .append, args := #[.tmp t, .tmp u], argTypes := #[T, U] }, ty, ps, af, gd⟩ :: rest) ⟨tmps, df⟩ w := by
  obtain ⟨hw, x, y, v, w', hx, hy, hr, h⟩ := h
  refine wpl_run hw ?_ h
  have hx' : Act.eval ⟨tmps, df⟩ (.tmp t) = x := hx
  have hy' : Act.eval ⟨tmps, df⟩ (.tmp u) = y := hy
  simp [execOp, resolve, invoke, builtin, hx', hy', hr, Result.andThen]

set_option maxRecDepth 100000 in
set_option maxHeartbeats 1600000 in
theorem pages_any (f : Nat → Int) (w : World) :
    Calls Try.prog 59 #[.agg (nc 11 f)] w fun e w' => ∃ r cap cur, e = .returned (.slice (some ⟨r, 0, none⟩) 6 cap) ∧ Below w.heap.size w w' ∧ w.heap.size ≤ r ∧ w'.heap[r]? = some (.cells cur 3 (0, 0)) ∧ ∀ j, j < 6 → cur[j]? = some (.int .i64 (f (5 + j))) := by
  obtain ⟨i0, hi0, hz0⟩ := Option.map_eq_some_iff.1 Try.infoI
  simp only [Prod.mk.injEq] at hz0
  obtain ⟨hz1, hz2, hz3⟩ := hz0
  have hSt := St.start w
  go_enter Try.func59, Try.ntmps59
  go_wp2_with (first | ((with_reducible refine pg_build ?_); refine ⟨rfl, ?_⟩; (simp only [Act.put, List.setIfInBounds_toArray, List.set_cons_succ, List.set_cons_zero])) | ((with_reducible refine ev_box hSt ?_); refine ⟨rfl, _, rfl, ?_⟩; intro gN wN hSt; (simp only [Act.put, List.setIfInBounds_toArray, List.set_cons_succ, List.set_cons_zero])) | ((with_reducible refine ev_alloc hSt (by first | exact zPg | exact zHd | exact zHr | exact zX1 | exact zX2 | exact zX3 | exact zX4) ?_); refine ⟨rfl, ?_⟩; intro gN wN hSt; (simp only [Act.put, List.setIfInBounds_toArray, List.set_cons_succ, List.set_cons_zero])) | ((with_reducible refine ev_load hSt (by first | exact aPg | exact aHd | exact aHr | exact aX1 | exact aX2 | exact aX3 | exact aX4) ?_); refine ⟨rfl, _, _, _, rfl, (by repeat (first | exact List.mem_cons_self .. | refine List.mem_cons_of_mem _ ?_)), (by first | exact pgc_size _ | exact nc_size _ _ | rfl), ?_⟩; (simp only [Act.put, List.setIfInBounds_toArray, List.set_cons_succ, List.set_cons_zero])) | ((with_reducible refine ev_load1 hSt (by first | exact oInt | exact oBool | exact oU32 | exact oU8) ?_); refine ⟨rfl, _, _, _, _, _, rfl, (by repeat (first | exact List.mem_cons_self .. | refine List.mem_cons_of_mem _ ?_)), (by first | rfl | exact pgc_get _ _ (by first | decide | omega) | exact nc_get _ _ _ (by first | decide | omega)), ?_⟩; (simp only [Act.put, List.setIfInBounds_toArray, List.set_cons_succ, List.set_cons_zero])) | ((with_reducible refine ev_store hSt (by first | exact aPg | exact aHd | exact aHr | exact aX1 | exact aX2 | exact aX3 | exact aX4) ?_); (first | refine ⟨rfl, _, [], _, _, _, rfl, rfl, rfl, (by first | exact pgc_size _ | exact nc_size _ _ | rfl), (by first | exact pgc_size _ | exact nc_size _ _ | rfl), (by first | exact pgc_one _ | exact nc_one _ _ | (simp [Value.oneCell']; done) | rfl), ?_⟩ | refine ⟨rfl, _, [_], _, _, _, rfl, rfl, rfl, (by first | exact pgc_size _ | exact nc_size _ _ | rfl), (by first | exact pgc_size _ | exact nc_size _ _ | rfl), (by first | exact pgc_one _ | exact nc_one _ _ | (simp [Value.oneCell']; done) | rfl), ?_⟩ | refine ⟨rfl, _, [_, _], _, _, _, rfl, rfl, rfl, (by first | exact pgc_size _ | exact nc_size _ _ | rfl), (by first | exact pgc_size _ | exact nc_size _ _ | rfl), (by first | exact pgc_one _ | exact nc_one _ _ | (simp [Value.oneCell']; done) | rfl), ?_⟩ | refine ⟨rfl, _, [_, _, _], _, _, _, rfl, rfl, rfl, (by first | exact pgc_size _ | exact nc_size _ _ | rfl), (by first | exact pgc_size _ | exact nc_size _ _ | rfl), (by first | exact pgc_one _ | exact nc_one _ _ | (simp [Value.oneCell']; done) | rfl), ?_⟩ | refine ⟨rfl, _, [_, _, _, _], _, _, _, rfl, rfl, rfl, (by first | exact pgc_size _ | exact nc_size _ _ | rfl), (by first | exact pgc_size _ | exact nc_size _ _ | rfl), (by first | exact pgc_one _ | exact nc_one _ _ | (simp [Value.oneCell']; done) | rfl), ?_⟩); intro wN hSt; simp only [List.nil_append, List.cons_append] at hSt; simp only [Act.put]))
  refine wp_region_rel (S := fun w' => St w _ w' ∧ Below wN.heap.size wN w') [3, 4, 5, 6, 7, 8, 9] Try.mixedI (by kernel_rfl) (by kernel_rfl) (by decide) (by kernel_rfl) (fun _ _ h k => ⟨h.1.ext k, h.2.trans (k.mono h.2.size)⟩) ⟨hSt.drew, (Below.refl _ _).drew⟩ ?_
  iterate 6 (refine rel_eq (v := ?_) ?_ ?_; rotate_left; (focus ((simp only [Lay, List.nil_append, List.cons_append, List.setIfInBounds_toArray, List.set_cons_succ, List.set_cons_zero]; intros; rename_i w9 hS hF; simp only [FactsE, List.nil_append, List.cons_append, List.toList_toArray, List.getElem?_cons_succ, List.getElem?_cons_zero] at hF; try (repeat (first | obtain ⟨rfl, hF⟩ := hF | obtain ⟨⟨gE, rfl, hgE1, hgE2⟩, hF⟩ := hF))); refine step_take rfl (of_decide_eq_true rfl) ?_; (have hSt := hS.1); go_wp2_with (first | ((with_reducible refine pg_build ?_); refine ⟨rfl, ?_⟩; (simp only [Act.put, List.setIfInBounds_toArray, List.set_cons_succ, List.set_cons_zero])) | ((with_reducible refine ev_box hSt ?_); refine ⟨rfl, _, rfl, ?_⟩; intro gN wN hSt; (simp only [Act.put, List.setIfInBounds_toArray, List.set_cons_succ, List.set_cons_zero])) | ((with_reducible refine ev_alloc hSt (by first | exact zPg | exact zHd | exact zHr | exact zX1 | exact zX2 | exact zX3 | exact zX4) ?_); refine ⟨rfl, ?_⟩; intro gN wN hSt; (simp only [Act.put, List.setIfInBounds_toArray, List.set_cons_succ, List.set_cons_zero])) | ((with_reducible refine ev_load hSt (by first | exact aPg | exact aHd | exact aHr | exact aX1 | exact aX2 | exact aX3 | exact aX4) ?_); refine ⟨rfl, _, _, _, rfl, (by repeat (first | exact List.mem_cons_self .. | refine List.mem_cons_of_mem _ ?_)), (by first | exact pgc_size _ | exact nc_size _ _ | rfl), ?_⟩; (simp only [Act.put, List.setIfInBounds_toArray, List.set_cons_succ, List.set_cons_zero])) | ((with_reducible refine ev_load1 hSt (by first | exact oInt | exact oBool | exact oU32 | exact oU8) ?_); refine ⟨rfl, _, _, _, _, _, rfl, (by repeat (first | exact List.mem_cons_self .. | refine List.mem_cons_of_mem _ ?_)), (by first | rfl | exact pgc_get _ _ (by first | decide | omega) | exact nc_get _ _ _ (by first | decide | omega)), ?_⟩; (simp only [Act.put, List.setIfInBounds_toArray, List.set_cons_succ, List.set_cons_zero])) | ((with_reducible refine ev_store hSt (by first | exact aPg | exact aHd | exact aHr | exact aX1 | exact aX2 | exact aX3 | exact aX4) ?_); (first | refine ⟨rfl, _, [], _, _, _, rfl, rfl, rfl, (by first | exact pgc_size _ | exact nc_size _ _ | rfl), (by first | exact pgc_size _ | exact nc_size _ _ | rfl), (by first | exact pgc_one _ | exact nc_one _ _ | (simp [Value.oneCell']; done) | rfl), ?_⟩ | refine ⟨rfl, _, [_], _, _, _, rfl, rfl, rfl, (by first | exact pgc_size _ | exact nc_size _ _ | rfl), (by first | exact pgc_size _ | exact nc_size _ _ | rfl), (by first | exact pgc_one _ | exact nc_one _ _ | (simp [Value.oneCell']; done) | rfl), ?_⟩ | refine ⟨rfl, _, [_, _], _, _, _, rfl, rfl, rfl, (by first | exact pgc_size _ | exact nc_size _ _ | rfl), (by first | exact pgc_size _ | exact nc_size _ _ | rfl), (by first | exact pgc_one _ | exact nc_one _ _ | (simp [Value.oneCell']; done) | rfl), ?_⟩ | refine ⟨rfl, _, [_, _, _], _, _, _, rfl, rfl, rfl, (by first | exact pgc_size _ | exact nc_size _ _ | rfl), (by first | exact pgc_size _ | exact nc_size _ _ | rfl), (by first | exact pgc_one _ | exact nc_one _ _ | (simp [Value.oneCell']; done) | rfl), ?_⟩ | refine ⟨rfl, _, [_, _, _, _], _, _, _, rfl, rfl, rfl, (by first | exact pgc_size _ | exact nc_size _ _ | rfl), (by first | exact pgc_size _ | exact nc_size _ _ | rfl), (by first | exact pgc_one _ | exact nc_one _ _ | (simp [Value.oneCell']; done) | rfl), ?_⟩); intro wN hSt; simp only [List.nil_append, List.cons_append] at hSt; simp only [Act.put])); refine RQ_mk rfl ?_ ?_; (focus (first | exact Below.refl _ _ | assumption)); (focus (first | (simp only [Array.getD_eq_getD_getElem?, List.getElem?_toArray, List.getElem?_cons_succ, List.getElem?_cons_zero, Option.getD_some]; done) | (simp only [Array.getD_eq_getD_getElem?, List.getElem?_toArray, List.getElem?_cons_succ, List.getElem?_cons_zero, Option.getD_some]; rfl) | rfl)))))
  refine rel_any (NewS w.heap.size 2 (.cells #[.int .i64 (f 9), .int .i64 (f 10)] 3 (0, 0))) (newS_stable _ _ _) ?_ ?_
  · (simp only [Lay, List.nil_append, List.cons_append, List.setIfInBounds_toArray, List.set_cons_succ, List.set_cons_zero]; intros; rename_i w9 hS hF; simp only [FactsE, List.nil_append, List.cons_append, List.toList_toArray, List.getElem?_cons_succ, List.getElem?_cons_zero] at hF; try (repeat (first | obtain ⟨rfl, hF⟩ := hF | obtain ⟨⟨gE, rfl, hgE1, hgE2⟩, hF⟩ := hF)))
    refine step_take rfl (of_decide_eq_true rfl) ?_
    have hSt := hS.1
    go_wp2
    refine RQ_mk rfl ((Below.refl _ _).alloc (Nat.le_refl _) _) ?_
    simp only [Array.getD_eq_getD_getElem?, List.getElem?_toArray, List.getElem?_cons_succ, List.getElem?_cons_zero, Option.getD_some]
    exact ⟨_, rfl, hSt.base.size, heap_alloc_last _ _⟩
  refine rel_end ?_
  (simp only [Lay, List.nil_append, List.cons_append, List.setIfInBounds_toArray, List.set_cons_succ, List.set_cons_zero]; intros; rename_i w9 hS hF; simp only [FactsA, List.nil_append, List.cons_append] at hF; try (repeat (first | obtain ⟨rfl, hF⟩ := hF | obtain ⟨⟨gE, rfl, hgE1, hgE2⟩, hF⟩ := hF)))
  have hSt := hS.1
  have hX := hSt.blk (g := gN) (o := .cells (nc 11 f) 42 (0, 0)) (List.mem_cons_self ..)
  have hcX : ∀ (j : Nat) (v : Value), ([.int .i64 (f 5), .int .i64 (f 6), .int .i64 (f 7), .int .i64 (f 8)] : List Value)[j]? = some v → w9.cell? ((⟨gN, 5, none⟩ : Addr).add j) = some v := fun j v hj => by
    rw [Addr.add_mid, cell_of_row _ _ _ _ _ _ hX]
    match j, hj with
    | 0, hj => rw [nc_get _ _ _ (by omega)]; exact hj
    | 1, hj => rw [nc_get _ _ _ (by omega)]; exact hj
    | 2, hj => rw [nc_get _ _ _ (by omega)]; exact hj
    | 3, hj => rw [nc_get _ _ _ (by omega)]; exact hj
    | j + 4, hj => simp at hj
  have hcE : ∀ (j : Nat) (v : Value), ([.int .i64 (f 9), .int .i64 (f 10)] : List Value)[j]? = some v → w9.cell? ((⟨gE, 0, none⟩ : Addr).add j) = some v := fun j v hj => by
    rw [Addr.add_mid, cell_of_row _ _ _ _ _ _ hgE2, Nat.zero_add]
    simpa using hj
  have hr := run_append_grow (P := Try.prog) w9 22 22 3 i0 _ Try.underlying22 hi0 hz1 ⟨gN, 5, none⟩ 4 4 _ (by rw [hz2]; rfl) hcX ⟨gE, 0, none⟩ 2 2 _ (by rw [hz2]; rfl) hcE (by omega) (by omega)
    (by rw [hz3]; have := nextslicecap_le (need := 4 + 2) (old := 4) (by omega); omega)
  generalize grownCap w9 (4 + 2) 4 3 = cp at hr
  go_wp2_with (first | ((with_reducible refine ev_append' ?_); refine ⟨rfl, _, _, _, _, rfl, rfl, hr, ?_⟩; (simp only [Act.put, List.setIfInBounds_toArray, List.set_cons_succ, List.set_cons_zero])) | ((with_reducible refine pg_build ?_); refine ⟨rfl, ?_⟩; (simp only [Act.put, List.setIfInBounds_toArray, List.set_cons_succ, List.set_cons_zero])) | ((with_reducible refine ev_box hSt ?_); refine ⟨rfl, _, rfl, ?_⟩; intro gN wN hSt; (simp only [Act.put, List.setIfInBounds_toArray, List.set_cons_succ, List.set_cons_zero])) | ((with_reducible refine ev_alloc hSt (by first | exact zPg | exact zHd | exact zHr | exact zX1 | exact zX2 | exact zX3 | exact zX4) ?_); refine ⟨rfl, ?_⟩; intro gN wN hSt; (simp only [Act.put, List.setIfInBounds_toArray, List.set_cons_succ, List.set_cons_zero])) | ((with_reducible refine ev_load hSt (by first | exact aPg | exact aHd | exact aHr | exact aX1 | exact aX2 | exact aX3 | exact aX4) ?_); refine ⟨rfl, _, _, _, rfl, (by repeat (first | exact List.mem_cons_self .. | refine List.mem_cons_of_mem _ ?_)), (by first | exact pgc_size _ | exact nc_size _ _ | rfl), ?_⟩; (simp only [Act.put, List.setIfInBounds_toArray, List.set_cons_succ, List.set_cons_zero])) | ((with_reducible refine ev_load1 hSt (by first | exact oInt | exact oBool | exact oU32 | exact oU8) ?_); refine ⟨rfl, _, _, _, _, _, rfl, (by repeat (first | exact List.mem_cons_self .. | refine List.mem_cons_of_mem _ ?_)), (by first | rfl | exact pgc_get _ _ (by first | decide | omega) | exact nc_get _ _ _ (by first | decide | omega)), ?_⟩; (simp only [Act.put, List.setIfInBounds_toArray, List.set_cons_succ, List.set_cons_zero])) | ((with_reducible refine ev_store hSt (by first | exact aPg | exact aHd | exact aHr | exact aX1 | exact aX2 | exact aX3 | exact aX4) ?_); (first | refine ⟨rfl, _, [], _, _, _, rfl, rfl, rfl, (by first | exact pgc_size _ | exact nc_size _ _ | rfl), (by first | exact pgc_size _ | exact nc_size _ _ | rfl), (by first | exact pgc_one _ | exact nc_one _ _ | (simp [Value.oneCell']; done) | rfl), ?_⟩ | refine ⟨rfl, _, [_], _, _, _, rfl, rfl, rfl, (by first | exact pgc_size _ | exact nc_size _ _ | rfl), (by first | exact pgc_size _ | exact nc_size _ _ | rfl), (by first | exact pgc_one _ | exact nc_one _ _ | (simp [Value.oneCell']; done) | rfl), ?_⟩ | refine ⟨rfl, _, [_, _], _, _, _, rfl, rfl, rfl, (by first | exact pgc_size _ | exact nc_size _ _ | rfl), (by first | exact pgc_size _ | exact nc_size _ _ | rfl), (by first | exact pgc_one _ | exact nc_one _ _ | (simp [Value.oneCell']; done) | rfl), ?_⟩ | refine ⟨rfl, _, [_, _, _], _, _, _, rfl, rfl, rfl, (by first | exact pgc_size _ | exact nc_size _ _ | rfl), (by first | exact pgc_size _ | exact nc_size _ _ | rfl), (by first | exact pgc_one _ | exact nc_one _ _ | (simp [Value.oneCell']; done) | rfl), ?_⟩ | refine ⟨rfl, _, [_, _, _, _], _, _, _, rfl, rfl, rfl, (by first | exact pgc_size _ | exact nc_size _ _ | rfl), (by first | exact pgc_size _ | exact nc_size _ _ | rfl), (by first | exact pgc_one _ | exact nc_one _ _ | (simp [Value.oneCell']; done) | rfl), ?_⟩); intro wN hSt; simp only [List.nil_append, List.cons_append] at hSt; simp only [Act.put]))
  go_ret
  refine ⟨_, _, _, rfl, (hSt.base.drew).alloc hSt.base.size _, hSt.base.size, heap_alloc_last _ _, fun j hj => ?_⟩
  rcases (by omega : j = 0 ∨ j = 1 ∨ j = 2 ∨ j = 3 ∨ j = 4 ∨ j = 5) with rfl | rfl | rfl | rfl | rfl | rfl <;> (rw [Array.getElem?_append_left (by simp)]; simp)
end Go.Proofs.Ytmnofoflbhdgjaa
