/- HeadPages: any head is right, or not, and has the page that the document says, or none, and comes back from it; no conditions. -/
import Derived.Test.YtdikhbdcdpcfgaaLaw04P
import Derived.Test.YtdikhbdcdpcfgaaOpen
import Derived.ShutString
import Derived.ChangeOld
namespace Go.Proofs.Ytdikhbdcdpcfgaa.headPages
open Go.ChangeShapes Go.WideShapes Go.ChangeAt Go.RowKit Go.Joins
open Go.ChangeMaps (open_string)
set_option linter.unusedVariables false
set_option maxRecDepth 100000 in
theorem lifted (os : Os) (started : os.Started) (H : Type) (enc : TypeId × Value → H) :
    ReturnsInHanded {} Try.checked os 7 .any (Rows.headPagesSpec.pre6 enc Try.prog Try.f7 Rows.headPagesRow.domain false) (Rows.headPagesSpec.post enc Try.prog Try.f7 false true false false) := by
  refine returnsInHanded_of_change_sized (C := Try.checked) own started (by kernel_rfl) Try.func7
    (ChangeSpec.witness6 (enc := enc) (C := Try.checked) false ⟨#[], #[.agg #[.int .i64 0, .bool false, .int .i64 0, .int .u32 0]], []⟩ 8 (by kernel_rfl) (by kernel_rfl) (by kernel_rfl) (by kernel_rfl)) ?_
  intro W base args ds gs before hval0 hW hcnd hsz0 _
  have hsz : (DataW.weightsEach Try.prog (Try.f7.params.toList ++ Rows.headPagesSpec.plain.varTypes Try.prog) (ds ++ gs)).all (· ≤ reachBytes) = true := hsz0
  have hval : ∀ (j : Nat) t v, Try.f7.params[j]? = some t → args[j]? = some v → Value.okWide Try.prog W .any base t v := hval0
  have hW' := hW
  obtain ⟨p, q, hA0, hV, rfl, hfz, hnd⟩ := hW
  have hA : DataW.TrodAll enc Try.prog W 0 (fun _ => true) true Try.f7.params.toList args.toList ds p := hA0
  rw [Try.params7] at hA hval hsz
  obtain ⟨v0, vs0, d0, ds0, p0, q0, hargs, rfl, rfl, h0, r0⟩ := trodAll_cons hA
  obtain ⟨rfl, rfl, rfl⟩ := trodAll_nil r0
  obtain rfl : args = #[v0] := by cases args; simp_all
  obtain ⟨rfl, rfl⟩ := trodVars_none hV
  have hlt : ∀ x ∈ p0, x.block < W.heap.size := fun x hx => by simpa using hW'.lt x (by simpa using hx)
  have t0 := h0
  obtain ⟨c00, c01, c02, c03, y00, y01, y02, y03, m0, rfl, -, -, hy00, hy01, hy02, hy03⟩ := open_agg4 Try.underlying48 (by kernel_rfl) (by kernel_rfl) (hval 0 48 v0 rfl rfl) h0
  obtain ⟨x00, e00, -, w00⟩ := DataW.trod_int Try.underlying3 hy00
  simp at e00
  subst e00
  obtain ⟨x01, e01, -⟩ := DataW.trod_bool Try.underlying4 hy01
  simp at e01
  subst e01
  obtain ⟨x02, e02, -, w02⟩ := DataW.trod_int Try.underlying3 hy02
  simp at e02
  subst e02
  obtain ⟨x03, e03, -, w03⟩ := DataW.trod_int Try.underlying46 hy03
  simp at e03
  subst e03
  clear hA0 hval0 hsz0
  refine (walk_HeadPages x00 x01 x02 x03 W (by have := bounds_u32 w03; omega)).mono fun e W' ⟨he, bel⟩ => ?_
  subst he
  exact ⟨_, rfl, _, _, _, [], _, [], hW', trodAll_mk1 (shut_bool Try.underlying4 _), trodAll_cons_mk (Below.trod laidOut (by kernel_rfl) (of_decide_eq_true (by kernel_rfl)) t0 bel (fun x hx => hlt x (by simp [hx]))) (trodAll_mk0), rfl, bel.frame _, fun h => by cases h⟩
theorem over : Rows.headPagesRow.holds Try.pinned (OpenSpec.ofChange Rows.headPagesSpec) :=
  OpenClaim.holds_of_wide 7 Try.f7 rfl rfl rfl rfl rfl rfl rfl ⟨rfl, rfl, rfl, rfl, rfl⟩ rfl rfl rfl rfl rfl (by kernel_rfl) Try.func7 (by kernel_rfl)
    (of_decide_eq_true (by kernel_rfl)) (by unfold Func.isWrapper; first | (rw [if_pos (by decide +kernel)]; kernel_rfl) | (rw [if_neg (by decide +kernel)]; exact ⟨rfl, rfl⟩))
    (fun os started H enc _ => lifted os started H enc)
end Go.Proofs.Ytdikhbdcdpcfgaa.headPages
namespace Go.Proofs.Ytdikhbdcdpcfgaa
theorem headPages_holds : Rows.HeadPagesSaid := headPages.over
#print axioms headPages_holds
end Go.Proofs.Ytdikhbdcdpcfgaa
