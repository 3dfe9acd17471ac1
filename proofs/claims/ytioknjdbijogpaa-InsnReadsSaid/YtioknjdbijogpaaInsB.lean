/- Chapter 16: slices of instructions; insn.Right, walked. -/
import Derived.Test.YtioknjdbijogpaaInsA
import Derived.Deep.MidRow
import Derived.Lib.Hide
namespace Go.Proofs.Ytioknjdbijogpaa
open Go.RowKit PInsnKinds
set_option linter.unusedSimpArgs false
set_option linter.unusedVariables false

theorem run_loadVar_at {P : Program} (w : World) (x : Addr) (ty : TypeId) (cs : List Value) (d : TypeDesc) (hc : ∀ (j : Nat) (v : Value), cs[j]? = some v → w.cell? (x.add j) = some v)
    (hu : P.underlying ty = some d) (hd : d.isRow = true) (hi : (P.info? ty).map (·.size) = some cs.length) :
    (loadVar ty x).run P w = .ok (.agg cs.toArray) w := by
  have hl : (loadCells x cs.length).run P w = .ok cs.toArray w := run_loadCells_list (P := P) w x cs hc
  cases hq : P.info? ty with
  | none => simp [hq] at hi
  | some i =>
    have hs : i.size = cs.length := by simpa [hq] using hi
    have hagg : (isAgg ty).run P w = .ok true w := by
      unfold isAgg
      rw [Sem.run_bind, run_underlying hu w]
      cases d <;> simp_all
    simp [loadVar, Sem.run_bind, hagg, sizeOf, typeInfo, hq, hs, hl]

theorem cell_lt {w : World} {x : Addr} {v : Value} (hx : w.cell? x = some v) : x.block < w.heap.size := by
  by_cases hq : x.block < w.heap.size
  · exact hq
  · exfalso
    unfold World.cell? at hx
    simp [Array.getElem?_eq_none (by omega : w.heap.size ≤ x.block)] at hx

def InSl (w : World) (a : Option Addr) (fs : List (Nat → Int)) : Prop := ∀ (j : Nat) (h : j < fs.length), ∃ x, a = some x ∧ ∀ i v, (inv fs[j])[i]? = some v → w.cell? ((x.add (j * 5)).add i) = some v
theorem InSl.ext {w w' : World} {a : Option Addr} {fs : List (Nat → Int)} (h : InSl w a fs) (hb : Below w.heap.size w w') : InSl w' a fs := fun j hj => by
  obtain ⟨x, h1, h2⟩ := h j hj
  refine ⟨x, h1, fun i v hv => ?_⟩
  have := h2 i v hv
  rw [hb.cell (cell_lt this), this]

section
variable {ops : Array Oper} {rest : List Oper} {Q : Exit → Act → World → Prop} {tmps : Array Value} {df : List Deferred} {d ty t u : Nat} {ps : String} {af : Array Edge} {gd : Option (Nat × Bool)} {w : World}
theorem in_load_at (h : Region.wanted ⟨some d, .load 65 (.tmp t), ty, ps, af, gd⟩ (yielded ops tmps) = true ∧ ∃ x f,
      tmps.getD t undef = .pointer (some x) ∧ (∀ i v, (inv f)[i]? = some v → w.cell? (x.add i) = some v) ∧ wpList Try.prog ops Q rest (Act.put ⟨tmps, df⟩ (some d) (.agg (inv f))) w) :
    wpList Try.prog ops Q (⟨some d, .load 65 (.tmp t), ty, ps, af, gd⟩ :: rest) ⟨tmps, df⟩ w := by
  obtain ⟨hw, x, f, hx, hg, h⟩ := h
  refine wpl_run hw ?_ h
  have hx' : Act.eval ⟨tmps, df⟩ (.tmp t) = .pointer (some x) := hx
  have hr := run_loadVar_at (P := Try.prog) w x 65 (inv f).toList _ (fun j v hv => hg j v (by simpa using hv)) Try.underlying65 rfl (by rw [aX1.2]; rfl)
  simp only [execOp, hx', Instr.loadAt, Instr.sureAddr, Sem.run_bind, Sem.run_pure, Result.andThen_ok, hr]
end

set_option maxHeartbeats 1000000 in
set_option maxRecDepth 100000 in
theorem rightClo_is (f : Nat → Int) (w : World) : Calls Try.prog 38 #[.agg (inv f)] w fun e w' => e = .returned (.bool (!rightB f)) ∧ Below w.heap.size w w' := by
  have hSt := St.start w
  go_enter Try.func38, Try.ntmps38
  go_wp2_with (first
    | ((with_reducible refine ev_box hSt ?_); refine ⟨rfl, _, rfl, ?_⟩; intro gN wN hSt; (simp only [Act.put, List.setIfInBounds_toArray, List.set_cons_succ, List.set_cons_zero]))
    | ((with_reducible refine ev_load hSt aX1 ?_); refine ⟨rfl, _, _, _, rfl, (by repeat (first | exact List.mem_cons_self .. | refine List.mem_cons_of_mem _ ?_)), rfl, ?_⟩; (simp only [Act.put, List.setIfInBounds_toArray, List.set_cons_succ, List.set_cons_zero]))
    | (go_at_call 39; refine (right_is f _).mono ?_; rintro e w1 ⟨rfl, hb9⟩; replace hSt := hSt.ext hb9))
  go_ret
  exact ⟨rfl, hSt.base⟩

/-- All instructions are right, and there are neither too many nor none. -/
def allB (fs : List (Nat → Int)) : Bool := decide (1 ≤ fs.length) && decide (fs.length ≤ 64) && fs.all rightB

set_option maxHeartbeats 1000000 in
set_option maxRecDepth 100000 in
theorem indexFunc_is (a : Option Addr) (fs : List (Nat → Int)) (cap : Nat) (w : World) (hl : InSl w a fs) (hn : fs.length ≤ 64) :
    Calls Try.prog 49 #[.slice a fs.length cap, .func (.func 38) #[] #[]] w fun e w' => ∃ r : Int, e = .returned (.int .i64 r) ∧ decide (r ≥ 0) = (!fs.all rightB) ∧ Below w.heap.size w w' := by
  go_enter Try.func49, Try.ntmps49
  go_wp2
  go_loopw [8] (fun i wr => ∃ k : Nat, k ≤ fs.length ∧ i = .int .i64 k ∧ Below w.heap.size w wr ∧ (fs.take k).all rightB = true) (fun i _ => fs.length - (intOf i).toNat)
  case atStart => exact ⟨0, by omega, rfl, Below.refl _ _, rfl⟩
  case round =>
    obtain ⟨k, hk, rfl, hbw, hz⟩ := hrel
    by_cases h : k = fs.length
    · subst h
      rw [List.take_length] at hz
      go_wp2
      go_ret
      refine ⟨_, rfl, ?_, hbw⟩
      rw [hz]
      rfl
    · have hlt : k < fs.length := by omega
      have hlt' : (k : Int) < fs.length := by omega
      obtain ⟨x, rfl, hat⟩ := hl.ext hbw k hlt
      have hsn : fs.take (k + 1) = fs.take k ++ [fs[k]] := List.take_succ_eq_append_getElem hlt
      have e : fs.take k ++ (fs[k] :: fs.drop (k + 1)) = fs := by rw [← List.drop_eq_getElem_cons hlt, List.take_append_drop]
      have hbad : rightB fs[k] = false → fs.all rightB = false := fun hb => by rw [← e, List.all_append, List.all_cons, hb, Bool.false_and, Bool.and_false]
      have hgood : rightB fs[k] = true → (fs.take (k + 1)).all rightB = true := fun hb => by rw [hsn, List.all_append, hz, List.all_cons, hb]; rfl
      have HG := Lib.hid (And.intro hbad hgood)
      clear hbad hgood e hsn hz
      generalize fs[k] = f at hat HG
      have hSt := St.start wr
      obtain ⟨B, hB⟩ : ∃ B, rightB f = B := ⟨_, rfl⟩
      have hC := fun w => rightClo_is f w
      rw [hB] at hC HG
      cases B
      · have hall := HG.out.1 rfl
        go_wp2_with (first
          | ((with_reducible refine in_load_at ?_); refine ⟨rfl, _, _, rfl, hat, ?_⟩; (simp only [Act.put, List.setIfInBounds_toArray, List.set_cons_succ, List.set_cons_zero]))
          | (go_at_call 38; refine (hC _).mono ?_; rintro e w1 ⟨rfl, hb9⟩))
        go_ret
        refine ⟨_, rfl, ?_, hbw.trans (hb9.mono hbw.size)⟩
        rw [hall]
        exact decide_eq_true (by omega)
      · have hall := HG.out.2 rfl
        clear HG
        go_wp2_with (first
          | ((with_reducible refine in_load_at ?_); refine ⟨rfl, _, _, rfl, hat, ?_⟩; (simp only [Act.put, List.setIfInBounds_toArray, List.set_cons_succ, List.set_cons_zero]))
          | (go_at_call 38; refine (hC _).mono ?_; rintro e w1 ⟨rfl, hb9⟩))
        exact ⟨⟨k + 1, by omega, by simp, hbw.trans (hb9.mono hbw.size), hall⟩, by simp only [intOf]; omega⟩

set_option maxHeartbeats 1000000 in
set_option maxRecDepth 100000 in
theorem containsFunc_is (a : Option Addr) (fs : List (Nat → Int)) (cap : Nat) (w : World) (hl : InSl w a fs) (hn : fs.length ≤ 64) :
    Calls Try.prog 37 #[.slice a fs.length cap, .func (.func 38) #[] #[]] w fun e w' => e = .returned (.bool (!fs.all rightB)) ∧ Below w.heap.size w w' := by
  have hI := indexFunc_is a fs cap w hl hn
  generalize (!fs.all rightB) = B at hI
  go_enter Try.func37, Try.ntmps37
  go_wp2_with (go_at_call 49; refine hI.mono ?_; rintro e w1 ⟨r, rfl, hr, hb9⟩; have hr2 : decide (0 ≤ r) = B := hr)
  go_ret
  refine ⟨?_, hb9⟩
  rw [← hr2]
  rfl

set_option maxHeartbeats 1000000 in
set_option maxRecDepth 100000 in
theorem Right_is (a : Option Addr) (fs : List (Nat → Int)) (cap : Nat) (w : World) (hl : InSl w a fs) (hn : fs.length ≤ 9223372036854775807) :
    Calls Try.prog 23 #[.slice a fs.length cap] w fun e w' => e = .returned (.bool (allB fs)) ∧ Below w.heap.size w w' := by
  by_cases h1 : fs.length < 1
  · have e1 : decide ((fs.length : Int) ≥ 1) = false := decide_eq_false (by omega)
    go_enter Try.func23, Try.ntmps23
    go_wp2
    go_ret
    rw [allB, decide_eq_false (show ¬ 1 ≤ fs.length by omega)]
    exact ⟨rfl, Below.refl _ _⟩
  have e1 : decide ((fs.length : Int) ≥ 1) = true := decide_eq_true (by omega)
  by_cases h2 : 64 < fs.length
  · have e2 : decide ((fs.length : Int) ≤ 64) = false := decide_eq_false (by omega)
    go_enter Try.func23, Try.ntmps23
    go_wp2
    go_ret
    rw [allB, decide_eq_false (show ¬ fs.length ≤ 64 by omega), Bool.and_false]
    exact ⟨rfl, Below.refl _ _⟩
  have e2 : decide ((fs.length : Int) ≤ 64) = true := decide_eq_true (by omega)
  have hC := fun w hl => containsFunc_is a fs cap w hl (by omega)
  rw [allB, decide_eq_true (show 1 ≤ fs.length by omega), decide_eq_true (show fs.length ≤ 64 by omega), Bool.true_and, Bool.true_and]
  generalize fs.all rightB = B at hC
  go_enter Try.func23, Try.ntmps23
  go_wp2_with (go_at_call 37; refine (hC _ hl).mono ?_; rintro e w1 ⟨rfl, hb9⟩)
  go_ret
  exact ⟨by simp, hb9⟩
end Go.Proofs.Ytioknjdbijogpaa
