/- Chapter 17: slices.Delete of entries, walked. -/
import Derived.Test.YteohokidlopbnaaMapA
namespace Go.Proofs.Yteohokidlopbnaa
open Go.RowKit
set_option linter.unusedSimpArgs false
set_option linter.unusedVariables false

theorem infoEn : (Try.prog.info? 64).map (fun i => (i.zero, i.size, i.bytes)) = some (some (.agg (evs (0, 0, 0, 0, 0))), 5, 40) := by kernel_rfl
theorem infoEn5 : (Try.prog.info? 64).map (·.size) = some 5 := by kernel_rfl
theorem mixed17 : Try.prog.follows .mixedOrders = true := by kernel_rfl

theorem sl_mid (a : Addr) (n cap l h m : Nat) (h1 : l ≤ h) (h2 : h ≤ m) (h3 : m ≤ cap) (w : World) : (Instr.slice 54 (.slice (some a) n cap) (some (.int .i64 l)) (some (.int .i64 h)) (some (.int .i64 m))).run Try.prog w = .ok (.slice (some (if m = l then a else a.add (l * 5))) (h - l) (m - l)) w := by
  obtain ⟨i, hi, hs⟩ := Option.map_eq_some_iff.1 infoEn5
  have b1 := run_sliceBound (P := Try.prog) w .i64 m cap .slice3Acap (by omega) (by omega)
  have b2 := run_sliceBound (P := Try.prog) w .i64 h m .slice3B (by omega) (by omega)
  have b3 := run_sliceBound (P := Try.prog) w .i64 l h .slice3C (by omega) (by omega)
  simp only [Int.toNat_natCast] at b1 b2 b3
  simp [Instr.slice, run_underlying Try.underlying54, Instr.sliceBounds, b1, b2, b3, sizeOf, typeInfo, hi, hs]
  split <;> rfl
theorem sl_to (a : Addr) (n cap h : Nat) (h2 : h ≤ cap) (w : World) : (Instr.slice 54 (.slice (some a) n cap) none (some (.int .i64 h)) none).run Try.prog w = .ok (.slice (some a) h cap) w := by
  obtain ⟨i, hi, hs⟩ := Option.map_eq_some_iff.1 infoEn5
  have b2 := run_sliceBound (P := Try.prog) w .i64 h cap .sliceAcap (by omega) (by omega)
  simp only [Int.toNat_natCast] at b2
  simp [Instr.slice, run_underlying Try.underlying54, Instr.sliceBounds, b2, sizeOf, typeInfo, hi, hs]
  intro _
  unfold Addr.add
  simp
theorem sl_from (a : Addr) (n cap l : Nat) (h1 : l ≤ n) (w : World) : (Instr.slice 54 (.slice (some a) n cap) (some (.int .i64 l)) none none).run Try.prog w = .ok (.slice (some (if cap = l then a else a.add (l * 5))) (n - l) (cap - l)) w := by
  obtain ⟨i, hi, hs⟩ := Option.map_eq_some_iff.1 infoEn5
  have b3 := run_sliceBound (P := Try.prog) w .i64 l n .sliceB (by omega) (by omega)
  simp only [Int.toNat_natCast] at b3
  simp [Instr.slice, run_underlying Try.underlying54, Instr.sliceBounds, b3, sizeOf, typeInfo, hi, hs]
  split <;> rfl
theorem sl_part (a : Addr) (n cap l h : Nat) (h1 : l ≤ h) (h2 : h ≤ cap) (w : World) : (Instr.slice 54 (.slice (some a) n cap) (some (.int .i64 l)) (some (.int .i64 h)) none).run Try.prog w = .ok (.slice (some (if cap = l then a else a.add (l * 5))) (h - l) (cap - l)) w := by
  obtain ⟨i, hi, hs⟩ := Option.map_eq_some_iff.1 infoEn5
  have b2 := run_sliceBound (P := Try.prog) w .i64 h cap .sliceAcap (by omega) (by omega)
  have b3 := run_sliceBound (P := Try.prog) w .i64 l h .sliceB (by omega) (by omega)
  simp only [Int.toNat_natCast] at b2 b3
  simp [Instr.slice, run_underlying Try.underlying54, Instr.sliceBounds, b2, b3, sizeOf, typeInfo, hi, hs]
  split <;> rfl

theorem rowe_take (es : List EntT) (k : Nat) (h : k ≤ es.length) : (rowe es).take (k * 5) = rowe (es.take k) := by
  have e : rowe es = rowe (es.take k) ++ rowe (es.drop k) := by rw [← rowe_append, List.take_append_drop]
  rw [e, List.take_left' (by rw [rowe_len, List.length_take]; congr 1; omega)]
theorem rowe_drop (es : List EntT) (k : Nat) (h : k ≤ es.length) : (rowe es).drop (k * 5) = rowe (es.drop k) := by
  have e : rowe es = rowe (es.take k) ++ rowe (es.drop k) := by rw [← rowe_append, List.take_append_drop]
  rw [e, List.drop_left' (by rw [rowe_len, List.length_take]; congr 1; omega)]
theorem rowe_one (es : List EntT) : ∀ u ∈ rowe es, u.oneCell' = true := by
  intro u hu
  simp only [rowe, List.mem_flatMap] at hu
  obtain ⟨e, -, he⟩ := hu
  simp [evs] at he
  rcases he with rfl | rfl | rfl | rfl | rfl <;> rfl

section
variable {P : Program} {ops : Array Oper} {rest : List Oper} {Q : Exit → Act → World → Prop} {tmps : Array Value} {df : List Deferred} {d ty t u : Nat} {T U : TypeId} {ps : String} {af : Array Edge} {gd : Option (Nat × Bool)} {w : World}
theorem ev_append (h : Region.wanted ⟨some d, .call { callee := .builtin .append, args := #[.tmp t, .tmp u], argTypes := #[T, U] }, ty, ps, af, gd⟩ (yielded ops tmps) = true ∧ ∃ x y v w',
      tmps.getD t undef = x ∧ tmps.getD u undef = y ∧ (Builtin.append_ #[T, U] ty #[x, y]).run P w = .ok v w' ∧ wpList P ops Q rest (Act.put ⟨tmps, df⟩ (some d) v) w') :
    wpList P ops Q (⟨some d, .call { callee := .builtin .append, args := #[.tmp t, .tmp u], argTypes := #[T, U] }, ty, ps, af, gd⟩ :: rest) ⟨tmps, df⟩ w := by
  obtain ⟨hw, x, y, v, w', hx, hy, hr, h⟩ := h
  refine wpl_run hw ?_ h
  have hx' : Act.eval ⟨tmps, df⟩ (.tmp t) = x := hx
  have hy' : Act.eval ⟨tmps, df⟩ (.tmp u) = y := hy
  simp [execOp, resolve, invoke, builtin, hx', hy', hr, Result.andThen]
theorem ev_clear (h : Region.wanted ⟨none, .call { callee := .builtin .clear, args := #[.tmp t], argTypes := #[T] }, ty, ps, af, gd⟩ (yielded ops tmps) = true ∧ ∃ x v w',
      tmps.getD t undef = x ∧ (Builtin.clear_ #[T] ty #[x]).run P w = .ok v w' ∧ wpList P ops Q rest (Act.put ⟨tmps, df⟩ none v) w') :
    wpList P ops Q (⟨none, .call { callee := .builtin .clear, args := #[.tmp t], argTypes := #[T] }, ty, ps, af, gd⟩ :: rest) ⟨tmps, df⟩ w := by
  obtain ⟨hw, x, v, w', hx, hr, h⟩ := h
  refine wpl_run hw ?_ h
  have hx' : Act.eval ⟨tmps, df⟩ (.tmp t) = x := hx
  simp [execOp, resolve, invoke, builtin, hx', hr, Result.andThen]
end

/-- One entry of zeros. -/
def Zc : List Value := (Builtin.zeroCells (Value.agg (evs (0, 0, 0, 0, 0))).cells 1).toList
theorem Zc_len : Zc.length = 5 := by kernel_rfl
theorem Zc_one : ∀ u ∈ Zc, u.oneCell' = true := by
  have : Zc.all (·.oneCell') = true := by kernel_rfl
  exact fun u hu => List.all_eq_true.1 this u hu
theorem run_clear (h o c : Nat) (cur : Array Value) (w : World) (hg : w.heap[h]? = some (.cells cur 64 (0, 0))) (ho : o + 5 ≤ cur.size) :
    (Builtin.clear_ #[54] 0 #[.slice (some ⟨h, o, none⟩) 1 c]).run Try.prog w = .ok (.tuple #[]) (w.setRow h (cur.toList.take o ++ Zc ++ cur.toList.drop (o + 5)).toArray) := by
  obtain ⟨i0, hi0, hz1, hz2, hz3⟩ := info_parts infoEn
  have hst := run_storeCells_at Try.prog h o 64 Zc 0 cur w hg (by rw [Zc_len]; omega) Zc_one
  rw [Nat.add_zero, Zc_len] at hst
  have hzv : (zeroValue 64).run Try.prog w = .ok (.agg (evs (0, 0, 0, 0, 0))) w := by simp [zeroValue, typeInfo, hi0, hz1]
  have hst' : (storeCells ⟨h, o, none⟩ (Builtin.zeroCells (Value.agg (evs (0, 0, 0, 0, 0))).cells 1).toList 0).run Try.prog w = _ := hst
  simp only [Builtin.clear_, Sem.run_bind, run_underlying Try.underlying54, Result.andThen_ok, List.getElem?_toArray, List.getElem?_cons_zero, hzv, hst', Sem.run_pure]

set_option maxHeartbeats 2000000 in
set_option maxRecDepth 100000 in
theorem delete_is (h cap i : Nat) (es : List EntT) (cur : Array Value) (w : World) (hg : w.heap[h]? = some (.cells cur 64 (0, 0))) (hi : i < es.length) (hn : es.length ≤ cap) (hcm : cap ≤ maxLen) (hcs : cur.size = cap * 5) (htake : cur.toList.take (es.length * 5) = rowe es) :
    Calls Try.prog 26 #[.slice (some ⟨h, 0, none⟩) es.length cap, .int .i64 i, .int .i64 ((i : Int) + 1)] w fun e w' => e = .returned (.slice (some ⟨h, 0, none⟩) (es.length - 1) cap) ∧ Below h w w' ∧ (∀ k o, w.heap[k]? = some o → k ≠ h → w'.heap[k]? = some o) ∧ ∃ cur' : Array Value, w'.heap[h]? = some (.cells cur' 64 (0, 0)) ∧ cur'.size = cap * 5 ∧ cur'.toList.take ((es.length - 1) * 5) = rowe (es.eraseIdx i) := by
  obtain ⟨m, hm⟩ : ∃ m, es.length = m + 1 := ⟨es.length - 1, by omega⟩
  obtain ⟨n, hnn⟩ : ∃ n, es.length = n := ⟨_, rfl⟩
  obtain ⟨i0, hi0, hz1, hz2, hz3⟩ := info_parts infoEn
  have s1 := fun w => sl_mid ⟨h, 0, none⟩ n cap i (i + 1) n (by omega) (by omega) (by omega) w
  have s2 := fun w => sl_to ⟨h, 0, none⟩ n cap i (by omega) w
  have s3 := fun w => sl_from ⟨h, 0, none⟩ n cap (i + 1) (by omega) w
  have s4 := fun w => sl_part ⟨h, 0, none⟩ m cap m n (by omega) (by omega) w
  have hlt := lt_of_blk hg
  have e0 : ((i : Int) == (i : Int) + 1) = false := beq_eq_false_iff_ne.2 (by omega)
  rw [if_neg (by omega), Addr.add_lit, Nat.zero_add, show n - m = 1 from by omega] at s4
  rw [show es.length - 1 = m from by omega, hnn]
  rw [hnn] at htake
  simp only [Int.natCast_add, Int.cast_ofNat_Int] at s1 s3
  obtain ⟨A3, hA3⟩ : ∃ A3, (if cap = i + 1 then (⟨h, 0, none⟩ : Addr) else Addr.add ⟨h, 0, none⟩ ((i + 1) * 5)) = A3 := ⟨_, rfl⟩
  obtain ⟨A1, hA1⟩ : ∃ A1, (if n = i then (⟨h, 0, none⟩ : Addr) else Addr.add ⟨h, 0, none⟩ (i * 5)) = A1 := ⟨_, rfl⟩
  rw [hA3] at s3
  rw [hA1] at s1
  have hrl := rowe_len es
  rw [hnn] at hrl
  have hnews : ∀ w9 : World, w9.heap[h]? = some (.cells cur 64 (0, 0)) → ∀ j u, ((rowe es).drop ((i + 1) * 5))[j]? = some u → w9.cell? (A3.add j) = some u := fun w9 hg9 j u hu => by
    have hj : j < ((rowe es).drop ((i + 1) * 5)).length := (List.getElem?_eq_some_iff.1 hu).1
    rw [List.length_drop, hrl] at hj
    rw [← hA3, if_neg (by omega), Addr.add_lit, Addr.add_lit, cell_of_row _ _ _ _ _ _ hg9]
    rw [List.getElem?_drop, ← htake, List.getElem?_take] at hu
    split at hu
    · rw [Nat.zero_add]; simpa using hu
    · cases hu
  have hap := fun (w9 : World) (hg9 : w9.heap[h]? = some (.cells cur 64 (0, 0))) => run_append_room (P := Try.prog) w9 54 54 64 i0 Try.underlying54 hi0 h i cap cur hg9 A3 (n - (i + 1)) (cap - (i + 1)) ((rowe es).drop ((i + 1) * 5)) (by rw [List.length_drop, hrl, hz2]; omega) (hnews w9 hg9) (fun u hu => rowe_one es u (List.mem_of_mem_drop hu)) (by omega) (by rw [hz2, List.length_drop, hrl]; omega)
  rw [hz2, show i + (n - (i + 1)) = m from by omega] at hap
  obtain ⟨c1, hc1⟩ : ∃ c1, (cur.toList.take (i * 5) ++ (rowe es).drop ((i + 1) * 5) ++ cur.toList.drop (i * 5 + ((rowe es).drop ((i + 1) * 5)).length)).toArray = c1 := ⟨_, rfl⟩
  have hcl : cur.toList.length = cap * 5 := by simpa using hcs
  have hc1s : c1.size = cap * 5 := by
    rw [← hc1]
    simp only [List.size_toArray, List.length_append, List.length_take, List.length_drop, hrl, hcl]
    omega
  have hc1t : c1.toList.take (m * 5) = rowe (es.eraseIdx i) := by
    have ht : cur.toList.take (i * 5) = rowe (es.take i) := by
      rw [← rowe_take es i (by omega), ← htake, List.take_take]
      congr 1
      omega
    rw [← hc1, ht, rowe_drop es (i + 1) (by omega), List.eraseIdx_eq_take_drop_succ, rowe_append]
    simp only [List.toList_toArray]
    rw [List.take_left' (by rw [List.length_append, rowe_len, rowe_len, List.length_take, List.length_drop]; omega)]
  rw [hc1] at hap
  have hcl := fun (w9 : World) (hg9 : w9.heap[h]? = some (.cells c1 64 (0, 0))) => run_clear h (m * 5) (cap - m) c1 w9 hg9 (by omega)
  obtain ⟨c2, hc2⟩ : ∃ c2, (c1.toList.take (m * 5) ++ Zc ++ c1.toList.drop (m * 5 + 5)).toArray = c2 := ⟨_, rfl⟩
  have hc2s : c2.size = cap * 5 := by
    rw [← hc2]
    simp only [List.size_toArray, List.length_append, List.length_take, List.length_drop, Zc_len, Array.length_toList, hc1s]
    omega
  have hc2t : c2.toList.take (m * 5) = rowe (es.eraseIdx i) := by
    rw [← hc2]
    simp only [List.toList_toArray]
    rw [List.append_assoc, List.take_append_of_le_length (by rw [List.length_take, Array.length_toList, hc1s]; omega), List.take_take, Nat.min_self, hc1t]
  rw [hc2] at hcl
  have HC := Lib.hid (And.intro hc2s hc2t)
  clear hc2s hc2t hc1t hc1s hc2 hc1 hnews hrl hA1 hA3 htake hcs hn hcm hi0 hz1 hz2 hz3 hm hnn
  go_enter Try.func26, Try.ntmps26
  go_wp2
  refine wp_region_rel (S := fun w' => Below w.heap.size w w') [20, 21, 22, 23, 24, 25] mixed17 (by kernel_rfl) (by kernel_rfl) (by decide) (by kernel_rfl) (fun _ _ h k => h.trans (k.mono h.size)) (Below.refl _ _).drew ?_
  iterate 6 (refine rel_eq (v := ?_) ?_ ?_; rotate_left; (focus ((simp only [Lay, List.nil_append, List.cons_append, List.setIfInBounds_toArray, List.set_cons_succ, List.set_cons_zero]; intros; rename_i w9 hS hF; simp only [FactsE, List.nil_append, List.cons_append, List.toList_toArray, List.getElem?_cons_succ, List.getElem?_cons_zero] at hF; try (repeat (obtain ⟨rfl, hF⟩ := hF))); refine step_take rfl (of_decide_eq_true rfl) ?_; skip; go_wp2_with (first | fail); refine RQ_mk rfl ?_ ?_; (focus exact Below.refl _ _); (focus (first | (simp only [Array.getD_eq_getD_getElem?, List.getElem?_toArray, List.getElem?_cons_succ, List.getElem?_cons_zero, Option.getD_some]; done) | (simp only [Array.getD_eq_getD_getElem?, List.getElem?_toArray, List.getElem?_cons_succ, List.getElem?_cons_zero, Option.getD_some]; rfl) | rfl)))))
  refine rel_end ?_
  (simp only [Lay, List.nil_append, List.cons_append, List.setIfInBounds_toArray, List.set_cons_succ, List.set_cons_zero]; intros; rename_i w9 hS hF; simp only [FactsA, List.nil_append, List.cons_append] at hF; try (repeat (obtain ⟨rfl, hF⟩ := hF)))
  have hg9 := blk_of hS hg
  have hr1 := hap _ hg9
  have hg1 := setRow_heap w9 h cur c1 _ _ hg9
  have hr2 := hcl _ hg1
  have hg2 := setRow_heap (w9.setRow h c1) h c1 c2 _ _ hg1
  have hb : Below h w ((w9.setRow h c1).setRow h c2) := (hS.mono (Nat.le_of_lt hlt)).trans ⟨rfl, rfl, rfl, by simp, fun k hk => by rw [setRow_other _ h k c2 (by omega), setRow_other _ h k c1 (by omega)]⟩
  have hk : ∀ k o, w.heap[k]? = some o → k ≠ h → ((w9.setRow h c1).setRow h c2).heap[k]? = some o := fun k o ho hne => by
    rw [setRow_other _ h k c2 hne, setRow_other _ h k c1 hne, blk_of hS ho]
  generalize w9.setRow h c1 = w10 at *
  generalize w10.setRow h c2 = w11 at *
  have HB := Lib.hid (And.intro hb (And.intro hk hg2))
  clear hb hk hg2 hap hcl hg1 hg9
  go_wp2_with (first
    | ((with_reducible refine ev_append ?_); refine ⟨rfl, _, _, _, _, rfl, rfl, hr1, ?_⟩; (simp only [Act.put, List.setIfInBounds_toArray, List.set_cons_succ, List.set_cons_zero]))
    | ((with_reducible refine ev_clear ?_); refine ⟨rfl, _, _, _, rfl, hr2, ?_⟩; (simp only [Act.put, List.setIfInBounds_toArray, List.set_cons_succ, List.set_cons_zero])))
  go_ret
  exact ⟨rfl, HB.out.1, HB.out.2.1, c2, HB.out.2.2, HC.out.1, HC.out.2⟩
end Go.Proofs.Yteohokidlopbnaa
