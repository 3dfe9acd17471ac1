/- BitsFound: which bits are 1 between two places, how many, and the first that is 0, is what the document says, and whoever stops going through them has the first ones; no conditions. -/
import Derived.Test.YtmnofoflbhdgjaaBitN
import Derived.Test.YtmnofoflbhdgjaaOpenP
import Derived.ShutString
import Derived.ChangeOld
namespace Go.Proofs.Ytmnofoflbhdgjaa.bitsFound
open Go.ChangeShapes Go.WideShapes Go.ChangeAt Go.RowKit Go.Joins
open Go.ChangeMaps (open_string)
set_option linter.unusedVariables false
set_option maxRecDepth 100000 in
theorem lifted (os : Os) (started : os.Started) (H : Type) (enc : TypeId × Value → H) :
    ReturnsInHanded {} Try.checked os 10 .any (Rows.bitsFoundSpec.pre6 enc Try.prog Try.f10 Rows.bitsFoundRow.domain false) (Rows.bitsFoundSpec.post enc Try.prog Try.f10 false true false false) := by
  refine returnsInHanded_of_change_sized (C := Try.checked) own started (by kernel_rfl) Try.func10
    (ChangeSpec.witness6 (enc := enc) (C := Try.checked) false ⟨#[], #[.slice none 0 0, .agg #[.int .i64 0, .int .i64 0], .int .i64 0], []⟩ 8 (by kernel_rfl) (by kernel_rfl) (by kernel_rfl) (by kernel_rfl)) ?_
  intro W base args ds gs before hval0 hW hcnd hsz0 _
  have hsz : (DataW.weightsEach Try.prog (Try.f10.params.toList ++ Rows.bitsFoundSpec.plain.varTypes Try.prog) (ds ++ gs)).all (· ≤ reachBytes) = true := hsz0
  have hval : ∀ (j : Nat) t v, Try.f10.params[j]? = some t → args[j]? = some v → Value.okWide Try.prog W .any base t v := hval0
  have hW' := hW
  obtain ⟨p, q, hA0, hV, rfl, hfz, hnd⟩ := hW
  have hA : DataW.TrodAll enc Try.prog W 0 (fun _ => true) true Try.f10.params.toList args.toList ds p := hA0
  rw [Try.params10] at hA hval hsz
  obtain ⟨v0, vs0, d0, ds0, p0, q0, hargs, rfl, rfl, h0, r0⟩ := trodAll_cons hA
  obtain ⟨v1, vs1, d1, ds1, p1, q1, rfl, rfl, rfl, h1, r1⟩ := trodAll_cons r0
  obtain ⟨v2, vs2, d2, ds2, p2, q2, rfl, rfl, rfl, h2, r2⟩ := trodAll_cons r1
  obtain ⟨rfl, rfl, rfl⟩ := trodAll_nil r2
  obtain rfl : args = #[v0, v1, v2] := by cases args; simp_all
  obtain ⟨rfl, rfl⟩ := trodVars_none hV
  have hlt : ∀ x ∈ p0 ++ (p1 ++ (p2)), x.block < W.heap.size := fun x hx => by simpa using hW'.lt x (by simpa using hx)
  have t0 := h0
  have t1 := h1
  have t2 := h2
  obtain ⟨a0, ps0, cap0, rfl, hl0, hs0, hn0⟩ := open_pgSl (hval 0 49 v0 rfl rfl) h0
  obtain ⟨c10, c11, y10, y11, m1, rfl, -, -, hy10, hy11⟩ := open_agg2 Try.underlying65 (by kernel_rfl) (by kernel_rfl) (hval 1 65 v1 rfl rfl) h1
  obtain ⟨x10, e10, -, w10⟩ := DataW.trod_int Try.underlying3 hy10
  simp at e10
  subst e10
  obtain ⟨x11, e11, -, w11⟩ := DataW.trod_int Try.underlying3 hy11
  simp at e11
  subst e11
  obtain ⟨x2, rfl, -, -, w2⟩ := open_int Try.underlying3 (hval 2 3 v2 rfl rfl) h2
  clear hA0 hval0 hsz0
  refine (walk_BitsFound a0 ps0 cap0 x10 x11 x2 _ hl0).mono fun e W' ⟨he, bel⟩ => ?_
  subst he
  exact ⟨_, rfl, _, _, _, [], _, [], hW', trodAll_mk1 (shut_bool Try.underlying4 _), trodAll_cons_mk (Below.trod laidOut (by kernel_rfl) (of_decide_eq_true (by kernel_rfl)) t0 bel (fun x hx => hlt x (by simp [hx]))) (trodAll_cons_mk (Below.trod laidOut (by kernel_rfl) (of_decide_eq_true (by kernel_rfl)) t1 bel (fun x hx => hlt x (by simp [hx]))) (trodAll_cons_mk (Below.trod laidOut (by kernel_rfl) (of_decide_eq_true (by kernel_rfl)) t2 bel (fun x hx => hlt x (by simp [hx]))) (trodAll_mk0))), rfl, bel.frame _, fun h => by cases h⟩
theorem over : Rows.bitsFoundRow.holds Try.pinned (OpenSpec.ofChange Rows.bitsFoundSpec) :=
  OpenClaim.holds_of_wide 10 Try.f10 rfl rfl rfl rfl rfl rfl rfl ⟨rfl, rfl, rfl, rfl, rfl⟩ rfl rfl rfl rfl rfl (by kernel_rfl) Try.func10 (by kernel_rfl)
    (of_decide_eq_true (by kernel_rfl)) (by unfold Func.isWrapper; first | (rw [if_pos (by decide +kernel)]; kernel_rfl) | (rw [if_neg (by decide +kernel)]; exact ⟨rfl, rfl⟩))
    (fun os started H enc _ => lifted os started H enc)
end Go.Proofs.Ytmnofoflbhdgjaa.bitsFound
namespace Go.Proofs.Ytmnofoflbhdgjaa
theorem bitsFound_holds : Rows.BitsFoundSaid := bitsFound.over
#print axioms bitsFound_holds
end Go.Proofs.Ytmnofoflbhdgjaa
