/- FdsPlay: whatever is opened, moved and closed, by whichever process, in any order, a table answers and has what the document says; no conditions. -/
import Derived.Test.YtfacegnnmgmjmaaLaw28P
import Derived.Test.YtfacegnnmgmjmaaOpenW
import Derived.ShutString
import Derived.ChangeOld
namespace Go.Proofs.Ytfacegnnmgmjmaa.fdsPlay
open Go.ChangeShapes Go.WideShapes Go.ChangeAt Go.RowKit Go.Joins
open Go.ChangeMaps (open_string)
set_option linter.unusedVariables false
set_option maxRecDepth 100000 in
theorem lifted (os : Os) (started : os.Started) (H : Type) (enc : TypeId × Value → H) :
    ReturnsInHanded {} Try.checked os 6 .any (Rows.fdsPlaySpec.pre6 enc Try.prog Try.f6 Rows.fdsPlayRow.domain false) (Rows.fdsPlaySpec.post enc Try.prog Try.f6 false true false false) := by
  refine returnsInHanded_of_change_sized (C := Try.checked) own started (by kernel_rfl) Try.func6
    (ChangeSpec.witness6 (enc := enc) (C := Try.checked) false ⟨#[], #[.slice none 0 0], []⟩ 8 (by kernel_rfl) (by kernel_rfl) (by kernel_rfl) (by kernel_rfl)) ?_
  intro W base args ds gs before hval0 hW hcnd hsz0 _
  have hsz : (DataW.weightsEach Try.prog (Try.f6.params.toList ++ Rows.fdsPlaySpec.plain.varTypes Try.prog) (ds ++ gs)).all (· ≤ reachBytes) = true := hsz0
  have hval : ∀ (j : Nat) t v, Try.f6.params[j]? = some t → args[j]? = some v → Value.okWide Try.prog W .any base t v := hval0
  have hW' := hW
  obtain ⟨p, q, hA0, hV, rfl, hfz, hnd⟩ := hW
  have hA : DataW.TrodAll enc Try.prog W 0 (fun _ => true) true Try.f6.params.toList args.toList ds p := hA0
  rw [Try.params6] at hA hval hsz
  obtain ⟨v0, vs0, d0, ds0, p0, q0, hargs, rfl, rfl, h0, r0⟩ := trodAll_cons hA
  obtain ⟨rfl, rfl, rfl⟩ := trodAll_nil r0
  obtain rfl : args = #[v0] := by cases args; simp_all
  obtain ⟨rfl, rfl⟩ := trodVars_none hV
  have hlt : ∀ x ∈ p0, x.block < W.heap.size := fun x hx => by simpa using hW'.lt x (by simpa using hx)
  have t0 := h0
  obtain ⟨a0, os0, cap0, rfl, hl0, hs0, hc0, hw0⟩ := open_opSlW (hval 0 22 v0 rfl rfl) h0 (weights_atB _ _ 0 rfl rfl hsz)
  clear hA0 hval0 hsz0
  refine (walk_FdsPlay a0 os0 cap0 W hl0 hs0 hw0).mono fun e W' ⟨he, bel⟩ => ?_
  subst he
  exact ⟨_, rfl, _, _, _, [], _, [], hW', trodAll_mk1 (shut_bool Try.underlying4 _), trodAll_cons_mk (Below.trod laidOut (by kernel_rfl) (of_decide_eq_true (by kernel_rfl)) t0 bel (fun x hx => hlt x (by simp [hx]))) (trodAll_mk0), rfl, bel.frame _, fun h => by cases h⟩
theorem over : Rows.fdsPlayRow.holds Try.pinned (OpenSpec.ofChange Rows.fdsPlaySpec) :=
  OpenClaim.holds_of_wide 6 Try.f6 rfl rfl rfl rfl rfl rfl rfl ⟨rfl, rfl, rfl, rfl, rfl⟩ rfl rfl rfl rfl rfl (by kernel_rfl) Try.func6 (by kernel_rfl)
    (of_decide_eq_true (by kernel_rfl)) (by unfold Func.isWrapper; first | (rw [if_pos (by decide +kernel)]; kernel_rfl) | (rw [if_neg (by decide +kernel)]; exact ⟨rfl, rfl⟩))
    (fun os started H enc _ => lifted os started H enc)
end Go.Proofs.Ytfacegnnmgmjmaa.fdsPlay
namespace Go.Proofs.Ytfacegnnmgmjmaa
theorem fdsPlay_holds : Rows.FdsPlaySaid := fdsPlay.over
#print axioms fdsPlay_holds
end Go.Proofs.Ytfacegnnmgmjmaa
