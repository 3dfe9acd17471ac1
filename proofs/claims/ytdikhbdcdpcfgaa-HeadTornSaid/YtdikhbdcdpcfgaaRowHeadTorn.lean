/- HeadTorn: of two heads with unlike Seqs, a page that begins as one's and goes on as the other's is one's page, the other's, or isn't whole; no conditions. -/
import Derived.Test.YtdikhbdcdpcfgaaLaw04T
import Derived.Test.YtdikhbdcdpcfgaaOpen
import Derived.ShutString
import Derived.ChangeOld
namespace Go.Proofs.Ytdikhbdcdpcfgaa.headTorn
open Go.ChangeShapes Go.WideShapes Go.ChangeAt Go.RowKit Go.Joins
open Go.ChangeMaps (open_string)
set_option linter.unusedVariables false
set_option maxRecDepth 100000 in
theorem lifted (os : Os) (started : os.Started) (H : Type) (enc : TypeId × Value → H) :
    ReturnsInHanded {} Try.checked os 8 .any (Rows.headTornSpec.pre6 enc Try.prog Try.f8 Rows.headTornRow.domain false) (Rows.headTornSpec.post enc Try.prog Try.f8 false true false false) := by
  refine returnsInHanded_of_change_sized (C := Try.checked) own started (by kernel_rfl) Try.func8
    (ChangeSpec.witness6 (enc := enc) (C := Try.checked) false ⟨#[], #[.agg #[.int .i64 0, .bool false, .int .i64 0, .int .u32 0], .agg #[.int .i64 0, .bool false, .int .i64 0, .int .u32 0], .int .i64 0], []⟩ 8 (by kernel_rfl) (by kernel_rfl) (by kernel_rfl) (by kernel_rfl)) ?_
  intro W base args ds gs before hval0 hW hcnd hsz0 _
  have hsz : (DataW.weightsEach Try.prog (Try.f8.params.toList ++ Rows.headTornSpec.plain.varTypes Try.prog) (ds ++ gs)).all (· ≤ reachBytes) = true := hsz0
  have hval : ∀ (j : Nat) t v, Try.f8.params[j]? = some t → args[j]? = some v → Value.okWide Try.prog W .any base t v := hval0
  have hW' := hW
  obtain ⟨p, q, hA0, hV, rfl, hfz, hnd⟩ := hW
  have hA : DataW.TrodAll enc Try.prog W 0 (fun _ => true) true Try.f8.params.toList args.toList ds p := hA0
  rw [Try.params8] at hA hval hsz
  obtain ⟨v0, vs0, d0, ds0, p0, q0, hargs, rfl, rfl, h0, r0⟩ := trodAll_cons hA
  obtain ⟨v1, vs1, d1, ds1, p1, q1, rfl, rfl, rfl, h1, r1⟩ := trodAll_cons r0
  obtain ⟨v2, vs2, d2, ds2, p2, q2, rfl, rfl, rfl, h2, r2⟩ := trodAll_cons r1
  obtain ⟨rfl, rfl, rfl⟩ := trodAll_nil r2
  obtain rfl : args = #[v0, v1, v2] := by cases args; simp_all
  obtain ⟨rfl, rfl⟩ := trodVars_none hV
  have hlt : ∀ x ∈ p0 ++ (p1 ++ (p2)), x.block < W.heap.size := fun x hx => by simpa using hW'.lt x (by simpa using hx)
  have t0 := h0
  have t1 := h1
  have t2 := h2
  obtain ⟨c00, c01, c02, c03, y00, y01, y02, y03, m0, rfl, -, -, hy00, hy01, hy02, hy03⟩ := open_agg4 Try.underlying48 (by kernel_rfl) (by kernel_rfl) (hval 0 48 v0 rfl rfl) h0
  obtain ⟨x00, e00, -, w00⟩ := DataW.trod_int Try.underlying3 hy00
  simp at e00
  subst e00
  obtain ⟨x01, e01, -⟩ := DataW.trod_bool Try.underlying4 hy01
  simp at e01
  subst e01
  obtain ⟨x02, e02, -, w02⟩ := DataW.trod_int Try.underlying3 hy02
  simp at e02
  subst e02
  obtain ⟨x03, e03, -, w03⟩ := DataW.trod_int Try.underlying46 hy03
  simp at e03
  subst e03
  obtain ⟨c10, c11, c12, c13, y10, y11, y12, y13, m1, rfl, -, -, hy10, hy11, hy12, hy13⟩ := open_agg4 Try.underlying48 (by kernel_rfl) (by kernel_rfl) (hval 1 48 v1 rfl rfl) h1
  obtain ⟨x10, e10, -, w10⟩ := DataW.trod_int Try.underlying3 hy10
  simp at e10
  subst e10
  obtain ⟨x11, e11, -⟩ := DataW.trod_bool Try.underlying4 hy11
  simp at e11
  subst e11
  obtain ⟨x12, e12, -, w12⟩ := DataW.trod_int Try.underlying3 hy12
  simp at e12
  subst e12
  obtain ⟨x13, e13, -, w13⟩ := DataW.trod_int Try.underlying46 hy13
  simp at e13
  subst e13
  obtain ⟨x2, rfl, -, -, w2⟩ := open_int Try.underlying3 (hval 2 3 v2 rfl rfl) h2
  clear hA0 hval0 hsz0
  refine (walk_HeadTorn x00 x01 x02 x03 x10 x11 x12 x13 x2 W (by have := bounds_u32 w03; omega) (by have := bounds_u32 w13; omega)).mono fun e W' ⟨he, bel⟩ => ?_
  subst he
  exact ⟨_, rfl, _, _, _, [], _, [], hW', trodAll_mk1 (shut_bool Try.underlying4 _), trodAll_cons_mk (Below.trod laidOut (by kernel_rfl) (of_decide_eq_true (by kernel_rfl)) t0 bel (fun x hx => hlt x (by simp [hx]))) (trodAll_cons_mk (Below.trod laidOut (by kernel_rfl) (of_decide_eq_true (by kernel_rfl)) t1 bel (fun x hx => hlt x (by simp [hx]))) (trodAll_cons_mk (Below.trod laidOut (by kernel_rfl) (of_decide_eq_true (by kernel_rfl)) t2 bel (fun x hx => hlt x (by simp [hx]))) (trodAll_mk0))), rfl, bel.frame _, fun h => by cases h⟩
theorem over : Rows.headTornRow.holds Try.pinned (OpenSpec.ofChange Rows.headTornSpec) :=
  OpenClaim.holds_of_wide 8 Try.f8 rfl rfl rfl rfl rfl rfl rfl ⟨rfl, rfl, rfl, rfl, rfl⟩ rfl rfl rfl rfl rfl (by kernel_rfl) Try.func8 (by kernel_rfl)
    (of_decide_eq_true (by kernel_rfl)) (by unfold Func.isWrapper; first | (rw [if_pos (by decide +kernel)]; kernel_rfl) | (rw [if_neg (by decide +kernel)]; exact ⟨rfl, rfl⟩))
    (fun os started H enc _ => lifted os started H enc)
end Go.Proofs.Ytdikhbdcdpcfgaa.headTorn
namespace Go.Proofs.Ytdikhbdcdpcfgaa
theorem headTorn_holds : Rows.HeadTornSaid := headTorn.over
#print axioms headTorn_holds
end Go.Proofs.Ytdikhbdcdpcfgaa
