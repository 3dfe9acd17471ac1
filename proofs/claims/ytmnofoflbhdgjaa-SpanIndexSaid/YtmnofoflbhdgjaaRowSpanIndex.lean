/- SpanIndex: a way leads to a page just if that page is found so; no conditions. -/
import Derived.Test.YtmnofoflbhdgjaaSpanF
import Derived.Test.YtmnofoflbhdgjaaOpen
import Derived.ShutString
import Derived.ChangeOld
namespace Go.Proofs.Ytmnofoflbhdgjaa.spanIndex
open Go.ChangeShapes Go.WideShapes Go.ChangeAt Go.RowKit Go.Joins
open Go.ChangeMaps (open_string)
set_option linter.unusedVariables false
set_option maxRecDepth 100000 in
theorem lifted (os : Os) (started : os.Started) (H : Type) (enc : TypeId × Value → H) :
    ReturnsInHanded {} Try.checked os 5 .any (Rows.spanIndexSpec.pre6 enc Try.prog Try.f5 Rows.spanIndexRow.domain false) (Rows.spanIndexSpec.post enc Try.prog Try.f5 false true false false) := by
  refine returnsInHanded_of_change_sized (C := Try.checked) own started (by kernel_rfl) Try.func5
    (ChangeSpec.witness6 (enc := enc) (C := Try.checked) false ⟨#[], #[.agg #[.int .i64 0, .int .i64 0, .int .i64 0]], []⟩ 8 (by kernel_rfl) (by kernel_rfl) (by kernel_rfl) (by kernel_rfl)) ?_
  intro W base args ds gs before hval0 hW hcnd hsz0 _
  have hsz : (DataW.weightsEach Try.prog (Try.f5.params.toList ++ Rows.spanIndexSpec.plain.varTypes Try.prog) (ds ++ gs)).all (· ≤ reachBytes) = true := hsz0
  have hval : ∀ (j : Nat) t v, Try.f5.params[j]? = some t → args[j]? = some v → Value.okWide Try.prog W .any base t v := hval0
  have hW' := hW
  obtain ⟨p, q, hA0, hV, rfl, hfz, hnd⟩ := hW
  have hA : DataW.TrodAll enc Try.prog W 0 (fun _ => true) true Try.f5.params.toList args.toList ds p := hA0
  rw [Try.params5] at hA hval hsz
  obtain ⟨v0, vs0, d0, ds0, p0, q0, hargs, rfl, rfl, h0, r0⟩ := trodAll_cons hA
  obtain ⟨rfl, rfl, rfl⟩ := trodAll_nil r0
  obtain rfl : args = #[v0] := by cases args; simp_all
  obtain ⟨rfl, rfl⟩ := trodVars_none hV
  have hlt : ∀ x ∈ p0, x.block < W.heap.size := fun x hx => by simpa using hW'.lt x (by simpa using hx)
  have t0 := h0
  obtain ⟨c00, c01, c02, y00, y01, y02, m0, rfl, -, -, hy00, hy01, hy02⟩ := open_agg3 Try.underlying28 (by kernel_rfl) (by kernel_rfl) (hval 0 28 v0 rfl rfl) h0
  obtain ⟨x00, e00, -, w00⟩ := DataW.trod_int Try.underlying3 hy00
  simp at e00
  subst e00
  obtain ⟨x01, e01, -, w01⟩ := DataW.trod_int Try.underlying3 hy01
  simp at e01
  subst e01
  obtain ⟨x02, e02, -, w02⟩ := DataW.trod_int Try.underlying3 hy02
  simp at e02
  subst e02
  clear hA0 hval0 hsz0
  refine (walk_SpanIndex x00 x01 x02 W).mono fun e W' ⟨he, bel⟩ => ?_
  subst he
  exact ⟨_, rfl, _, _, _, [], _, [], hW', trodAll_mk1 (shut_bool Try.underlying4 _), trodAll_cons_mk (Below.trod laidOut (by kernel_rfl) (of_decide_eq_true (by kernel_rfl)) t0 bel (fun x hx => hlt x (by simp [hx]))) (trodAll_mk0), rfl, bel.frame _, fun h => by cases h⟩
theorem over : Rows.spanIndexRow.holds Try.pinned (OpenSpec.ofChange Rows.spanIndexSpec) :=
  OpenClaim.holds_of_wide 5 Try.f5 rfl rfl rfl rfl rfl rfl rfl ⟨rfl, rfl, rfl, rfl, rfl⟩ rfl rfl rfl rfl rfl (by kernel_rfl) Try.func5 (by kernel_rfl)
    (of_decide_eq_true (by kernel_rfl)) (by unfold Func.isWrapper; first | (rw [if_pos (by decide +kernel)]; kernel_rfl) | (rw [if_neg (by decide +kernel)]; exact ⟨rfl, rfl⟩))
    (fun os started H enc _ => lifted os started H enc)
end Go.Proofs.Ytmnofoflbhdgjaa.spanIndex
namespace Go.Proofs.Ytmnofoflbhdgjaa
theorem spanIndex_holds : Rows.SpanIndexSaid := spanIndex.over
#print axioms spanIndex_holds
end Go.Proofs.Ytmnofoflbhdgjaa
