/- MapsMake: a set has the maps of its specs, each for itself, or is none; all entries are counted, and cleared together; no conditions. -/
import Derived.Test.YteohokidlopbnaaLaw17Z
import Derived.Test.YteohokidlopbnaaOpenX
import Derived.ShutString
import Derived.ChangeOld
namespace Go.Proofs.Yteohokidlopbnaa.mapsMake
open Go.ChangeShapes Go.WideShapes Go.ChangeAt Go.RowKit Go.Joins
open Go.ChangeMaps (open_string)
set_option linter.unusedVariables false
set_option maxRecDepth 100000 in
theorem lifted (os : Os) (started : os.Started) (H : Type) (enc : TypeId × Value → H) :
    ReturnsInHanded {} Try.checked os 4 .any (Rows.mapsMakeSpec.pre6 enc Try.prog Try.f4 Rows.mapsMakeRow.domain false) (Rows.mapsMakeSpec.post enc Try.prog Try.f4 false true false false) := by
  refine returnsInHanded_of_change_sized (C := Try.checked) own started (by kernel_rfl) Try.func4
    (ChangeSpec.witness6 (enc := enc) (C := Try.checked) false ⟨#[], #[.slice none 0 0, .slice none 0 0], []⟩ 8 (by kernel_rfl) (by kernel_rfl) (by kernel_rfl) (by kernel_rfl)) ?_
  intro W base args ds gs before hval0 hW hcnd hsz0 _
  have hsz : (DataW.weightsEach Try.prog (Try.f4.params.toList ++ Rows.mapsMakeSpec.plain.varTypes Try.prog) (ds ++ gs)).all (· ≤ reachBytes) = true := hsz0
  have hval : ∀ (j : Nat) t v, Try.f4.params[j]? = some t → args[j]? = some v → Value.okWide Try.prog W .any base t v := hval0
  have hW' := hW
  obtain ⟨p, q, hA0, hV, rfl, hfz, hnd⟩ := hW
  have hA : DataW.TrodAll enc Try.prog W 0 (fun _ => true) true Try.f4.params.toList args.toList ds p := hA0
  rw [Try.params4] at hA hval hsz
  obtain ⟨v0, vs0, d0, ds0, p0, q0, hargs, rfl, rfl, h0, r0⟩ := trodAll_cons hA
  obtain ⟨v1, vs1, d1, ds1, p1, q1, rfl, rfl, rfl, h1, r1⟩ := trodAll_cons r0
  obtain ⟨rfl, rfl, rfl⟩ := trodAll_nil r1
  obtain rfl : args = #[v0, v1] := by cases args; simp_all
  obtain ⟨rfl, rfl⟩ := trodVars_none hV
  have hlt : ∀ x ∈ p0 ++ (p1), x.block < W.heap.size := fun x hx => by simpa using hW'.lt x (by simpa using hx)
  have t0 := h0
  have t1 := h1
  obtain ⟨a0, ss0, cap0, rfl, hl0, hs0, hc0⟩ := open_spSl (hval 0 36 v0 rfl rfl) h0 (weights_atB _ _ 0 rfl rfl hsz)
  obtain ⟨a1, zs1, cap1, rfl, hl1, hs1, hc1, hw1⟩ := open_intSl (hval 1 37 v1 rfl rfl) h1 (weights_atB _ _ 1 rfl rfl hsz)
  clear hA0 hval0 hsz0
  refine (walk_MapsMake a0 ss0 cap0 a1 zs1 cap1 _ hl0 hs0 hl1 (Nat.le_trans hs1 (by decide))).mono fun e W' ⟨he, bel⟩ => ?_
  subst he
  exact ⟨_, rfl, _, _, _, [], _, [], hW', trodAll_mk1 (shut_bool Try.underlying4 _), trodAll_cons_mk (Below.trod laidOut (by kernel_rfl) (of_decide_eq_true (by kernel_rfl)) t0 bel (fun x hx => hlt x (by simp [hx]))) (trodAll_cons_mk (Below.trod laidOut (by kernel_rfl) (of_decide_eq_true (by kernel_rfl)) t1 bel (fun x hx => hlt x (by simp [hx]))) (trodAll_mk0)), rfl, bel.frame _, fun h => by cases h⟩
theorem over : Rows.mapsMakeRow.holds Try.pinned (OpenSpec.ofChange Rows.mapsMakeSpec) :=
  OpenClaim.holds_of_wide 4 Try.f4 rfl rfl rfl rfl rfl rfl rfl ⟨rfl, rfl, rfl, rfl, rfl⟩ rfl rfl rfl rfl rfl (by kernel_rfl) Try.func4 (by kernel_rfl)
    (of_decide_eq_true (by kernel_rfl)) (by unfold Func.isWrapper; first | (rw [if_pos (by decide +kernel)]; kernel_rfl) | (rw [if_neg (by decide +kernel)]; exact ⟨rfl, rfl⟩))
    (fun os started H enc _ => lifted os started H enc)
end Go.Proofs.Yteohokidlopbnaa.mapsMake
namespace Go.Proofs.Yteohokidlopbnaa
theorem mapsMake_holds : Rows.MapsMakeSaid := mapsMake.over
#print axioms mapsMake_holds
end Go.Proofs.Yteohokidlopbnaa
