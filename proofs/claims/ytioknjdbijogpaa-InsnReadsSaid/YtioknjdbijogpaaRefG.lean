/- Chapter 16's reference: Same, walked, where two lists are alike. -/
import Derived.Test.YtioknjdbijogpaaRefC
import Derived.Test.YtioknjdbijogpaaRefF
namespace Go.Proofs.Ytioknjdbijogpaa
open Go.RowKit
set_option linter.unusedSimpArgs false
set_option linter.unusedVariables false
section
variable {ops : Array Oper} {rest : List Oper} {Q : Exit → Act → World → Prop} {tmps : Array Value} {df : List Deferred} {d ty t u : Nat} {ps : String} {af : Array Edge} {gd : Option (Nat × Bool)} {w : World}
theorem rf_load_lit (h : Region.wanted ⟨some d, .load 70 (.tmp t), ty, ps, af, gd⟩ (yielded ops tmps) = true ∧ ∃ x f,
      tmps.getD t undef = .pointer (some x) ∧ InAt w x f ∧ wpList Try.prog ops Q rest (Act.put ⟨tmps, df⟩ (some d) (.agg #[.int .i64 (f 0), .int .i64 (f 1), .int .i64 (f 2), .int .i64 (f 3), .int .i64 (f 4)])) w) :
    wpList Try.prog ops Q (⟨some d, .load 70 (.tmp t), ty, ps, af, gd⟩ :: rest) ⟨tmps, df⟩ w := by
  obtain ⟨hw, x, f, hx, hq, h⟩ := h
  exact rf_load_at ⟨hw, x, f, hx, hq, h⟩
end

set_option maxHeartbeats 2000000 in
set_option maxRecDepth 100000 in
theorem refSame_is (a b : Option Addr) (fs gs : List (Nat → Int)) (ca cb : Nat) (w : World) (hl : InSl w a fs) (hk : InSl w b gs) (hn : fs.length ≤ 1000) (hlen : gs.length = fs.length) (he : ∀ j (h : j < fs.length) (h' : j < gs.length), inv gs[j] = inv fs[j]) :
    Calls Try.prog 26 #[.slice a fs.length ca, .slice b gs.length cb] w fun e w' => e = .returned (.bool true) ∧ Below w.heap.size w w' := by
  rw [hlen]
  have e0 : ((fs.length : Int) != fs.length) = false := by simp
  have HE := Lib.hid (And.intro hlen he)
  clear hlen he
  go_enter Try.func26, Try.ntmps26
  go_wp2
  go_loopw [5] (fun i wr => ∃ k : Nat, k ≤ fs.length ∧ i = .int .i64 k ∧ Below w.heap.size w wr) (fun i _ => fs.length - (intOf i).toNat)
  case atStart => exact ⟨0, by omega, rfl, Below.refl _ _⟩
  case round =>
    obtain ⟨k, hk0, rfl, hbw⟩ := hrel
    by_cases h : k = fs.length
    · subst h
      go_wp2
      go_ret
      exact ⟨rfl, hbw⟩
    · have hlt : k < fs.length := by omega
      have hlt' : (k : Int) < fs.length := by omega
      obtain ⟨x, rfl, hata0⟩ := hl.ext hbw k hlt
      have hata : InAt wr (x.add (k * 5)) fs[k] := hata0
      obtain ⟨y, rfl, hatb0⟩ := hk.ext hbw k (by rw [HE.out.1]; exact hlt)
      have hatb : InAt wr (y.add (k * 5)) fs[k] := fun i v hv => hatb0 i v (by rw [HE.out.2 k hlt (by rw [HE.out.1]; exact hlt)]; exact hv)
      clear hata0 hatb0
      generalize fs[k] = f at hata hatb
      go_wp2
      refine wp_region_seq (S := fun w' => Below wr.heap.size wr w') mixed16 (by kernel_rfl) (by kernel_rfl) (Below.refl _ _).drew ?_
      iterate 9 (refine seq_take (v := ?_) rfl (of_decide_eq_true rfl) (fun w9 hS => ?_) ?_; rotate_left; (focus (have hqa := hata.ext hS; have hqb := hatb.ext hS; go_wp2_with (first | ((with_reducible refine rf_load_lit ?_); refine ⟨rfl, _, _, rfl, hqa, ?_⟩; (simp only [Act.put, List.setIfInBounds_toArray, List.set_cons_succ, List.set_cons_zero])) | ((with_reducible refine rf_load_lit ?_); refine ⟨rfl, _, _, rfl, hqb, ?_⟩; (simp only [Act.put, List.setIfInBounds_toArray, List.set_cons_succ, List.set_cons_zero]))); refine VQ_mk ?_ rfl ?_; (focus rfl); exact hS)); (simp only [Act.put, List.setIfInBounds_toArray, List.set_cons_succ, List.set_cons_zero, Array.getD_eq_getD_getElem?, List.getElem?_toArray, List.getElem?_cons_succ, List.getElem?_cons_zero, Option.getD_some]))
      refine seq_nil fun wz hS => ?_
      go_wp2
      refine ⟨⟨k + 1, by omega, by simp, hbw.trans (hS.mono hbw.size)⟩, by simp only [intOf]; omega⟩
end Go.Proofs.Ytioknjdbijogpaa
