/- Chapter 17: what was seen: a map[int]bool of the call's own. -/
import Derived.Test.YteohokidlopbnaaMapP
import Derived.Test.YteohokidlopbnaaStMap
import Derived.ChangeKeysEq
namespace Go.Proofs.Yteohokidlopbnaa
open Go.RowKit Go.Maps
set_option linter.unusedSimpArgs false
set_option linter.unusedVariables false

theorem keyI : Keyed Try.prog 3 := int_keyed Try.underlying3
abbrev DU := DataW Unit
def tt : DU := .lit (.bool true)
def ff : DU := .lit (.bool false)
/-- A block that is the map of what was seen. -/
structure SeenO (o : Obj) (ks : List Int) : Prop where
  ex : ∃ M : DU, MapO (H := Unit) Try.prog 3 (plainElem Try.prog 4) ks.length M o ∧ Tidy M ∧ size M = ks.length ∧ ∀ q : Int, has M (.int .i64 q) = ks.contains q ∧ M.atKey (.int .i64 q) ff = .lit (.bool (ks.contains q))
theorem isKeyI (q : Int) : WideAt.IsKeyLit (.int .i64 q) := trivial
theorem seen_start : SeenO (.map #[] 0) [] := ⟨.map [], mapO_made _ _ _, tidy_empty, rfl, fun q => ⟨rfl, rfl⟩⟩
theorem SeenO.put {o' : Obj} {ks : List Int} {k : Int} {M : DU} (hM : Tidy M) (hs : size M = ks.length) (hq : ∀ q : Int, has M (.int .i64 q) = ks.contains q ∧ M.atKey (.int .i64 q) ff = .lit (.bool (ks.contains q))) (hk : k ∉ ks)
    (h : MapO (H := Unit) Try.prog 3 (plainElem Try.prog 4) (ks.length + 1) (M.put (.int .i64 k) tt) o') : SeenO o' (ks ++ [k]) := by
  have hc : ks.contains k = false := by
    cases h2 : ks.contains k
    · rfl
    · exact absurd (List.contains_iff_mem.1 h2) hk
  refine ⟨_, h.mono (by simp), hM.put (isKeyI k) tt, ?_, fun q => ?_⟩
  · rw [size_put hM, (hq k).1, hc, hs]; simp
  · rw [List.contains_append, List.contains_cons, List.contains_nil, Bool.or_false]
    by_cases e : q = k
    · subst e
      rw [has_put_same hM.isMap (isKeyI q), atKey_put_same hM.isMap (isKeyI q)]
      simp [tt]
    · have e2 : (Lit.int .i64 q) ≠ Lit.int .i64 k := fun h1 => e (by injection h1)
      rw [has_put_other e2, atKey_put_other e2, (hq q).1, (hq q).2]
      have : (q == k) = false := by simpa using e
      rw [this, Bool.or_false]
      exact ⟨rfl, rfl⟩

section
variable {ops : Array Oper} {rest : List Oper} {Q : Exit → Act → World → Prop} {tmps : Array Value} {df : List Deferred} {d ty : Nat} {ps : String} {af : Array Edge} {gd : Option (Nat × Bool)} {w0 w : World} {l : List (Nat × Obj)}
theorem ev_seenLook (hSt : St w0 l w) {m x : Operand} (h : Region.wanted ⟨some d, .lookup 31 m x false, ty, ps, af, gd⟩ (yielded ops tmps) = true ∧ ∃ g o ks k,
      Act.eval ⟨tmps, df⟩ m = .map (some g) ∧ (g, o) ∈ l ∧ SeenO o ks ∧ Act.eval ⟨tmps, df⟩ x = .int .i64 k ∧ (Lit.int .i64 k).wf = true ∧
      wpList Try.prog ops Q rest (Act.put ⟨tmps, df⟩ (some d) (.bool (ks.contains k))) w) :
    wpList Try.prog ops Q (⟨some d, .lookup 31 m x false, ty, ps, af, gd⟩ :: rest) ⟨tmps, df⟩ w := by
  obtain ⟨hw, g, o, ks, k, hm, hmem, ⟨M, hO, hT, hs, hq⟩, hx, hwf, h⟩ := h
  have hown := mapO_owns hO (hSt.blk hmem)
  have hz : (zeroValue 4).run Try.prog w = .ok (.bool false) w := by kernel_rfl
  obtain ⟨v, pl, hrun, hv⟩ := hown.lookup keyI Try.underlying31 hz (plainElem_bool Try.underlying4 false) (keyOf_int_mk Try.underlying3 hwf)
  have hv2 : v = .bool (ks.contains k) := by
    have h1 : M.atKey (.int .i64 k) (.lit (.bool false)) = .lit (.bool (ks.contains k)) := (hq k).2
    rw [h1] at hv
    cases v <;> simp [plainElem, Try.underlying4] at hv ⊢
    all_goals first | exact hv | exact hv.1 | skip
  subst hv2
  refine wpl_run hw ?_ h
  simp only [execOp, hm, hx, hrun, Sem.run_bind, Result.andThen_ok, Sem.run_pure]
theorem ev_seenLen (hSt : St w0 l w) {m : Operand} (h : Region.wanted ⟨some d, .call { callee := .builtin .len, args := #[m], argTypes := #[31] }, ty, ps, af, gd⟩ (yielded ops tmps) = true ∧ ∃ g o ks,
      Act.eval ⟨tmps, df⟩ m = .map (some g) ∧ (g, o) ∈ l ∧ SeenO o ks ∧
      wpList Try.prog ops Q rest (Act.put ⟨tmps, df⟩ (some d) (.int .i64 ks.length)) w) :
    wpList Try.prog ops Q (⟨some d, .call { callee := .builtin .len, args := #[m], argTypes := #[31] }, ty, ps, af, gd⟩ :: rest) ⟨tmps, df⟩ w := by
  obtain ⟨hw, g, o, ks, hm, hmem, ⟨M, hO, hT, hs, hq⟩, h⟩ := h
  refine ev_mapLen (H := Unit) (R := plainElem Try.prog 4) hSt Try.underlying31 ⟨hw, g, o, _, M, hm, hmem, hO, ?_⟩
  rw [hs]
  exact h
theorem ev_seenPut (hSt : St w0 l w) {m x v : Operand} (h : Region.wanted ⟨none, .mapUpdate 31 m x v, ty, ps, af, gd⟩ (yielded ops tmps) = true ∧ ∃ g o l1 l2 ks k,
      Act.eval ⟨tmps, df⟩ m = .map (some g) ∧ l = l1 ++ (g, o) :: l2 ∧ SeenO o ks ∧ Act.eval ⟨tmps, df⟩ x = .int .i64 k ∧ Act.eval ⟨tmps, df⟩ v = .bool true ∧ (Lit.int .i64 k).wf = true ∧ k ∉ ks ∧ ks.length < maxLen ∧
      ∀ o' w', SeenO o' (ks ++ [k]) → St w0 (l1 ++ (g, o') :: l2) w' → wpList Try.prog ops Q rest (Act.put ⟨tmps, df⟩ none undef) w') :
    wpList Try.prog ops Q (⟨none, .mapUpdate 31 m x v, ty, ps, af, gd⟩ :: rest) ⟨tmps, df⟩ w := by
  obtain ⟨hw, g, o, l1, l2, ks, k, hm, hl, ⟨M, hO, hT, hs, hq⟩, hx, hv, hwf, hk, hn, h⟩ := h
  refine ev_mapUpdate (H := Unit) (R := plainElem Try.prog 4) hSt keyI Try.underlying31 ⟨hw, g, o, l1, l2, ks.length, .int .i64 k, tt, [], M, hm, hl, hO, hn, ?_, ?_, fun o' w' hO' hSt' => h o' w' (SeenO.put hT hs hq hk hO') hSt'⟩
  · rw [hx]; exact keyOf_int_mk Try.underlying3 hwf
  · rw [hv]; exact plainElem_bool Try.underlying4 true
end

theorem run_eqItems_v (w : World) (d : Nat) (v : ValT) : ∀ is : List Nat, (∀ i ∈ is, i < 4) →
    (Op.eqItems (d + 1) 3 1 (vvs v) (vvs v) is).run Try.prog w = .ok true w
  | [], _ => by simp [Op.eqItems]
  | i :: is, h => by
    have hi := h i (List.mem_cons_self ..)
    have hagg : (isAgg 3).run Try.prog w = .ok false w := by
      unfold isAgg
      rw [Sem.run_bind, run_underlying Try.underlying3 w]
      rfl
    have hg : ∃ z : Int, (vvs v)[i]? = some (.int .i64 z) := by
      rcases (by omega : i = 0 ∨ i = 1 ∨ i = 2 ∨ i = 3) with rfl | rfl | rfl | rfl <;> exact ⟨_, rfl⟩
    obtain ⟨z, hz⟩ := hg
    have hp : (part 3 (vvs v) i).run Try.prog w = .ok (.int .i64 z) w := by
      simp [part, Sem.run_bind, hagg, hz]
    have ih := run_eqItems_v w d v is (fun j hj => h j (List.mem_cons_of_mem _ hj))
    simp only [Op.eqItems, Sem.run_bind, Nat.mul_one, hp, Result.andThen_ok, run_equalIn_int w d 3 .i64 .i64 _ _ Try.underlying3, BEq.rfl, Bool.not_true, Bool.false_eq_true, if_false]
    exact ih
theorem Try.cellsIn1 : Try.prog.cellsOf 3 = 1 := by kernel_rfl
theorem Try.infoInt : (Try.prog.info? 3).map (·.size) = some 1 := by kernel_rfl
theorem run_equal_v (w : World) (n : Nat) (v : ValT) : (Op.equalIn (n + 1 + 1) 30 (.agg (vvs v)) (.agg (vvs v))).run Try.prog w = .ok true w := by
  obtain ⟨i, hi, -⟩ := Option.map_eq_some_iff.1 Try.infoInt
  rw [run_equalIn_array w _ _ _ Try.underlying30 hi, Try.cellsIn1]
  exact run_eqItems_v w n v _ (fun i hi => List.mem_range.1 hi)
theorem run_bval (i : Int) (w : World) : (Instr.build 30 #[(0, .int .i64 i)]).run Try.prog w = .ok (.agg (vvs (i, 0, 0, 0))) w := by kernel_rfl
theorem Try.guardV : Try.prog.eqGuardType Try.prog.depth 30 = false := by kernel_rfl
section
variable {ops : Array Oper} {rest : List Oper} {Q : Exit → Act → World → Prop} {tmps : Array Value} {df : List Deferred} {d ty t u : Nat} {ps : String} {af : Array Edge} {gd : Option (Nat × Bool)} {w : World}
theorem ev_bval {x : Operand} (h : Region.wanted ⟨some d, .build 30 #[(0, x)], ty, ps, af, gd⟩ (yielded ops tmps) = true ∧ ∃ i, Act.eval ⟨tmps, df⟩ x = .int .i64 i ∧ wpList Try.prog ops Q rest (Act.put ⟨tmps, df⟩ (some d) (.agg (vvs (i, 0, 0, 0)))) w) :
    wpList Try.prog ops Q (⟨some d, .build 30 #[(0, x)], ty, ps, af, gd⟩ :: rest) ⟨tmps, df⟩ w := by
  obtain ⟨hw, i, hx, h⟩ := h
  refine wpl_run hw ?_ h
  have e : (#[(0, x)] : Array (Nat × Operand)).map (fun z => (z.1, Act.eval ⟨tmps, df⟩ z.2)) = #[(0, .int .i64 i)] := by simp [hx]
  simp only [execOp]
  rw [e]
  simp only [Sem.run_bind, run_bval, Result.andThen_ok, Sem.run_pure]
theorem ev_vneq {x y : Operand} (h : Region.wanted ⟨some d, .binOp .neq 30 x y 30, ty, ps, af, gd⟩ (yielded ops tmps) = true ∧ ∃ v,
      Act.eval ⟨tmps, df⟩ x = .agg (vvs v) ∧ Act.eval ⟨tmps, df⟩ y = .agg (vvs v) ∧
      wpList Try.prog ops Q rest (Act.put ⟨tmps, df⟩ (some d) (.bool false)) w) :
    wpList Try.prog ops Q (⟨some d, .binOp .neq 30 x y 30, ty, ps, af, gd⟩ :: rest) ⟨tmps, df⟩ w := by
  obtain ⟨hw, v, hx, hy, h⟩ := h
  refine wpl_run hw ?_ h
  simp only [execOp, hx, hy, Sem.run_bind, run_eqGuard_agg w _ _ _ _ _ _ Try.guardV, Result.andThen_ok, run_neq_struct, run_equal_v w 9998 v, Sem.run_pure, Bool.not_true]
end
end Go.Proofs.Yteohokidlopbnaa
