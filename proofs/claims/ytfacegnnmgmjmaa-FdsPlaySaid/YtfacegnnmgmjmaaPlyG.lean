/- Chapter 28: a map of counts: a map[int]int of the call's own. -/
import Derived.Test.YtfacegnnmgmjmaaPlyF
import Derived.Test.YtfacegnnmgmjmaaStMap
import Derived.ChangeKeysEq
namespace Go.Proofs.Ytfacegnnmgmjmaa
open Go.RowKit Go.Maps
set_option linter.unusedSimpArgs false
set_option linter.unusedVariables false

theorem keyI : Keyed Try.prog 3 := int_keyed Try.underlying3
abbrev DU := DataW Unit
theorem isKeyI (q : Int) : WideAt.IsKeyLit (.int .i64 q) := trivial
def zI : DU := .lit (.int .i64 0)
/-- A block that is a map of counts. -/
structure CntO (o : Obj) (n : Nat) (c : Int → Int) : Prop where
  ex : ∃ M : DU, MapO (H := Unit) Try.prog 3 (plainElem Try.prog 3) n M o ∧ Tidy M ∧ ∀ q : Int, M.atKey (.int .i64 q) zI = .lit (.int .i64 (c q))
theorem cnt_start : CntO (.map #[] 0) 0 (fun _ => 0) := ⟨.map [], mapO_made _ _ _, tidy_empty, fun q => rfl⟩
theorem CntO.put {o' : Obj} {n : Nat} {c : Int → Int} {k v : Int} {M : DU} (hM : Tidy M) (hq : ∀ q : Int, M.atKey (.int .i64 q) zI = .lit (.int .i64 (c q)))
    (h : MapO (H := Unit) Try.prog 3 (plainElem Try.prog 3) (n + 1) (M.put (.int .i64 k) (.lit (.int .i64 v))) o') : CntO o' (n + 1) (fun q => if q = k then v else c q) := by
  refine ⟨_, h, hM.put (isKeyI k) _, fun q => ?_⟩
  by_cases e : q = k
  · subst e
    rw [atKey_put_same hM.isMap (isKeyI q), if_pos rfl]
  · rw [atKey_put_other (fun h1 => e (by injection h1)), hq q, if_neg e]
section
variable {ops : Array Oper} {rest : List Oper} {Q : Exit → Act → World → Prop} {tmps : Array Value} {df : List Deferred} {d ty : Nat} {ps : String} {af : Array Edge} {gd : Option (Nat × Bool)} {w0 w : World} {l : List (Nat × Obj)}
theorem ev_cntLook {m x : Operand} (h : Region.wanted ⟨some d, .lookup 58 m x false, ty, ps, af, gd⟩ (yielded ops tmps) = true ∧ ∃ g o n c k,
      Act.eval ⟨tmps, df⟩ m = .map (some g) ∧ w.heap[g]? = some o ∧ CntO o n c ∧ Act.eval ⟨tmps, df⟩ x = .int .i64 k ∧ (Lit.int .i64 k).wf = true ∧
      wpList Try.prog ops Q rest (Act.put ⟨tmps, df⟩ (some d) (.int .i64 (c k))) w) :
    wpList Try.prog ops Q (⟨some d, .lookup 58 m x false, ty, ps, af, gd⟩ :: rest) ⟨tmps, df⟩ w := by
  obtain ⟨hw, g, o, n, c, k, hm, hb, ⟨M, hO, hT, hq⟩, hx, hwf, h⟩ := h
  have hown := mapO_owns hO hb
  have hz : (zeroValue 3).run Try.prog w = .ok (.int .i64 0) w := by kernel_rfl
  obtain ⟨v, pl, hrun, hv⟩ := hown.lookup keyI Try.underlying58 hz (plainElem_int Try.underlying3 (by decide)) (keyOf_int_mk Try.underlying3 hwf)
  have h1 : M.atKey (.int .i64 k) (.lit (.int .i64 0)) = .lit (.int .i64 (c k)) := hq k
  rw [h1] at hv
  obtain ⟨a, rfl, hz2, hw2⟩ := plainElem_int_inv Try.underlying3 hv
  have h3 : c k = a := by
    injection hz2 with hz3 hz4
    injection hz3 with hz3
    injection hz3 with hz5 hz6
  subst h3
  refine wpl_run hw ?_ h
  simp only [execOp, hm, hx, hrun, Sem.run_bind, Result.andThen_ok, Sem.run_pure]
theorem ev_cntPut (hSt : St w0 l w) {m x v : Operand} (h : Region.wanted ⟨none, .mapUpdate 58 m x v, ty, ps, af, gd⟩ (yielded ops tmps) = true ∧ ∃ g o l1 l2 n c k a,
      Act.eval ⟨tmps, df⟩ m = .map (some g) ∧ l = l1 ++ (g, o) :: l2 ∧ CntO o n c ∧ Act.eval ⟨tmps, df⟩ x = .int .i64 k ∧ Act.eval ⟨tmps, df⟩ v = .int .i64 a ∧ (Lit.int .i64 k).wf = true ∧ (Lit.int .i64 a).wf = true ∧ n < maxLen ∧
      ∀ o' w', CntO o' (n + 1) (fun q => if q = k then a else c q) → St w0 (l1 ++ (g, o') :: l2) w' → wpList Try.prog ops Q rest (Act.put ⟨tmps, df⟩ none undef) w') :
    wpList Try.prog ops Q (⟨none, .mapUpdate 58 m x v, ty, ps, af, gd⟩ :: rest) ⟨tmps, df⟩ w := by
  obtain ⟨hw, g, o, l1, l2, n, c, k, a, hm, hl, ⟨M, hO, hT, hq⟩, hx, hv, hwf, hwa, hn, h⟩ := h
  refine ev_mapUpdate (H := Unit) (R := plainElem Try.prog 3) hSt keyI Try.underlying58 ⟨hw, g, o, l1, l2, n, .int .i64 k, .lit (.int .i64 a), [], M, hm, hl, hO, hn, ?_, ?_, fun o' w' hO' hSt' => h o' w' (CntO.put hT hq hO') hSt'⟩
  · rw [hx]; exact keyOf_int_mk Try.underlying3 hwf
  · rw [hv]; exact plainElem_int Try.underlying3 hwa
end
end Go.Proofs.Ytfacegnnmgmjmaa
