/- Chapter 16's reference: All, walked. -/
import Derived.Test.YtioknjdbijogpaaRefB
namespace Go.Proofs.Ytioknjdbijogpaa
open Go.RowKit
set_option linter.unusedSimpArgs false
set_option linter.unusedVariables false
section
variable {ops : Array Oper} {rest : List Oper} {Q : Exit → Act → World → Prop} {tmps : Array Value} {df : List Deferred} {d ty t u : Nat} {ps : String} {af : Array Edge} {gd : Option (Nat × Bool)} {w : World}
theorem aX70 : AggT Try.prog 70 5 := ⟨by kernel_rfl, by kernel_rfl⟩
theorem rf_load_at (h : Region.wanted ⟨some d, .load 70 (.tmp t), ty, ps, af, gd⟩ (yielded ops tmps) = true ∧ ∃ x f,
      tmps.getD t undef = .pointer (some x) ∧ (∀ i v, (inv f)[i]? = some v → w.cell? (x.add i) = some v) ∧ wpList Try.prog ops Q rest (Act.put ⟨tmps, df⟩ (some d) (.agg (inv f))) w) :
    wpList Try.prog ops Q (⟨some d, .load 70 (.tmp t), ty, ps, af, gd⟩ :: rest) ⟨tmps, df⟩ w := by
  obtain ⟨hw, x, f, hx, hg, h⟩ := h
  refine wpl_run hw ?_ h
  have hx' : Act.eval ⟨tmps, df⟩ (.tmp t) = .pointer (some x) := hx
  have hr := run_loadVar_at (P := Try.prog) w x 70 (inv f).toList _ (fun j v hv => hg j v (by simpa using hv)) Try.underlying70 rfl (by rw [aX70.2]; rfl)
  simp only [execOp, hx', Instr.loadAt, Instr.sureAddr, Sem.run_bind, Sem.run_pure, Result.andThen_ok, hr]
end

set_option maxHeartbeats 1000000 in
set_option maxRecDepth 100000 in
theorem refAll_is (a : Option Addr) (fs : List (Nat → Int)) (cap : Nat) (w : World) (hl : InSl w a fs) (hn : fs.length ≤ 1000) :
    Calls Try.prog 21 #[.slice a fs.length cap] w fun e w' => e = .returned (.bool (allB fs)) ∧ Below w.heap.size w w' := by
  have hbad : ∀ k (h : k < fs.length), rightB fs[k] = false → allB fs = false := fun k h hb => by
    have : fs.all rightB = false := by
      rw [List.all_eq_false]
      exact ⟨fs[k], List.getElem_mem h, by simp [hb]⟩
    rw [allB, this, Bool.and_false]
  have hok : (∀ j, (h : j < fs.length) → rightB fs[j] = true) → allB fs = (decide (1 ≤ fs.length) && decide (fs.length ≤ 64)) := fun h => by
    have : fs.all rightB = true := by
      rw [List.all_eq_true]
      intro x hx
      obtain ⟨j, hj, rfl⟩ := List.mem_iff_getElem.1 hx
      exact h j hj
    rw [allB, this, Bool.and_true]
  have HH := Lib.hid (And.intro hbad hok)
  clear hbad hok
  go_enter Try.func21, Try.ntmps21
  go_wp2
  go_loopw [3] (fun i wr => ∃ k : Nat, k ≤ fs.length ∧ i = .int .i64 k ∧ Below w.heap.size w wr ∧ ∀ j, (h : j < fs.length) → j < k → rightB fs[j] = true) (fun i _ => fs.length - (intOf i).toNat)
  case atStart => exact ⟨0, by omega, rfl, Below.refl _ _, fun j hj h => absurd h (by omega)⟩
  case round =>
    obtain ⟨k, hk, rfl, hbw, hall⟩ := hrel
    have hall := Lib.hid hall
    by_cases h : k = fs.length
    · subst h
      have hA := HH.out.2 (fun j hj => hall.out j hj hj)
      by_cases h0 : fs.length = 0
      · have e1 : decide ((fs.length : Int) > 0) = false := decide_eq_false (by omega)
        have e2 : decide (0 < fs.length) = false := decide_eq_false (by omega)
        rw [decide_eq_false (by omega : ¬ 1 ≤ fs.length), Bool.false_and] at hA
        have hA := Lib.hid hA
        clear h0
        go_wp2
        go_ret
        rw [hA.out]
        exact ⟨rfl, hbw⟩
      · have e1 : decide ((fs.length : Int) > 0) = true := decide_eq_true (by omega)
        have e2 : decide (0 < fs.length) = true := decide_eq_true (by omega)
        rw [decide_eq_true (by omega : 1 ≤ fs.length), Bool.true_and] at hA
        obtain ⟨B, hB⟩ : ∃ B, decide (fs.length ≤ 64) = B := ⟨_, rfl⟩
        rw [hB] at hA
        have e3 : decide ((fs.length : Int) ≤ 64) = B := by rw [← hB]; exact decide_eq_decide.2 (by omega)
        have hA := Lib.hid hA
        clear h0
        cases B
        all_goals
          go_wp2
          go_ret
          rw [hA.out]
          exact ⟨rfl, hbw⟩
    · have hlt : k < fs.length := by omega
      have hlt' : (k : Int) < fs.length := by omega
      obtain ⟨x, rfl, hat⟩ := hl.ext hbw k hlt
      have hb := HH.out.1 k hlt
      have hR := fun w => refRight_is fs[k] w
      obtain ⟨B, hB⟩ : ∃ B, rightB fs[k] = B := ⟨_, rfl⟩
      have HB := Lib.hid hB
      rw [hB] at hb hR
      clear hB
      have hb := Lib.hid hb
      generalize hf : fs[k] = f at hat hR
      have hf := Lib.hid hf
      cases B
      · have hA := Lib.hid (hb.out rfl)
        go_wp2_with (first | ((with_reducible refine rf_load_at ?_); refine ⟨rfl, _, _, rfl, hat, ?_⟩; (simp only [Act.put, List.setIfInBounds_toArray, List.set_cons_succ, List.set_cons_zero])) | (go_at_call 33; refine (hR _).mono ?_; rintro e w1 ⟨rfl, hb9⟩))
        go_ret
        rw [hA.out]
        exact ⟨rfl, hbw.trans (hb9.mono hbw.size)⟩
      · go_wp2_with (first | ((with_reducible refine rf_load_at ?_); refine ⟨rfl, _, _, rfl, hat, ?_⟩; (simp only [Act.put, List.setIfInBounds_toArray, List.set_cons_succ, List.set_cons_zero])) | (go_at_call 33; refine (hR _).mono ?_; rintro e w1 ⟨rfl, hb9⟩))
        refine ⟨⟨k + 1, by omega, by simp, hbw.trans (hb9.mono hbw.size), fun j hj hjk => ?_⟩, by simp only [intOf]; omega⟩
        rcases (by omega : j < k ∨ j = k) with h' | rfl
        · exact hall.out j hj h'
        · exact HB.out
end Go.Proofs.Ytioknjdbijogpaa
