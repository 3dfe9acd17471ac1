/- Chapter 28, the reference: Spare and Get, walked. -/
import Derived.Test.YtfacegnnmgmjmaaPlyA
import Derived.Deep.Cut
import Derived.Deep.DeepCutAuto
namespace Go.Proofs.Ytfacegnnmgmjmaa
open Go.RowKit
set_option linter.unusedSimpArgs false
set_option linter.unusedVariables false

def qOf (p : Nat → Option Nat) (f : Nat → FileT) (s : Nat) : Option FileT := (p s).map fun _ => f s
theorem qOf_upd (p : Nat → Option Nat) (f : Nat → FileT) (s g : Nat) (x : FileT) : qOf (upd p s (some g)) (updF f s x) = updQ (qOf p f) s (some x) := by
  funext k
  unfold qOf upd updF updQ
  by_cases h : k = s <;> simp [h]
theorem qOf_none (p : Nat → Option Nat) (f : Nat → FileT) (s : Nat) : qOf (upd p s none) f = updQ (qOf p f) s none := by
  funext k
  unfold qOf upd updQ
  by_cases h : k = s <;> simp [h]
theorem qOf_move (p : Nat → Option Nat) (f : Nat → FileT) (s g : Nat) (x : FileT) (hp : p s = some g) : qOf p (updF f s x) = updQ (qOf p f) s (some x) := by
  funext k
  unfold qOf updF updQ
  by_cases h : k = s
  · subst h; simp [hp]
  · simp [h]
theorem RTab.cell' {w : World} {rb : Nat} {q : QT} (h : RTab w rb q) (r k j : Nat) (hr : r < 4) (hk : k < 8) (hj : j < 5) : w.cell? ⟨rb, r * 40 + k * 5 + j, none⟩ = some (fcell (q (8 * r + k)) j) := by
  rw [show r * 40 + k * 5 + j = 5 * (8 * r + k) + j from by omega]
  exact h.cell _ _ (by omega) hj
theorem proc_facts {r : Nat} {P : Int} (hr : r < 4) (hP : P = (r : Int) + 1) : (r : Int) < 4 ∧ wrap64 (P - 1) = (r : Int) ∧ decide (1 ≤ P) = true ∧ decide (P ≤ 4) = true :=
  ⟨by omega, by unfold wrap64; omega, decide_eq_true (by omega), decide_eq_true (by omega)⟩

section
variable {ops : Array Oper} {rest : List Oper} {Q : Exit → Act → World → Prop} {tmps : Array Value} {df : List Deferred} {d ty t u : Nat} {x : Operand} {ps : String} {af : Array Edge} {gd : Option (Nat × Bool)} {w : World}
/-- A file out of the reference's table. -/
theorem ev_rload (h : Region.wanted ⟨some d, .load 43 (.tmp t), ty, ps, af, gd⟩ (yielded ops tmps) = true ∧ ∃ g o u,
      tmps.getD t undef = .pointer (some ⟨g, o, none⟩) ∧ (∀ j v, (rfv u)[j]? = some v → w.cell? ⟨g, o + j, none⟩ = some v) ∧ wpList Try.prog ops Q rest (Act.put ⟨tmps, df⟩ (some d) (.agg (rfv u))) w) :
    wpList Try.prog ops Q (⟨some d, .load 43 (.tmp t), ty, ps, af, gd⟩ :: rest) ⟨tmps, df⟩ w := by
  obtain ⟨hw, g, o, u, hx, hg, h⟩ := h
  refine wpl_run hw ?_ h
  have hx' : Act.eval ⟨tmps, df⟩ (.tmp t) = .pointer (some ⟨g, o, none⟩) := hx
  have hr := run_loadVar_at (P := Try.prog) w ⟨g, o, none⟩ 43 (rfv u).toList _ (fun j v hv => by rw [Addr.add_mid]; exact hg j v (by simpa using hv)) Try.underlying43 rfl (by rw [aX5.2]; rfl)
  simp only [execOp, hx', Instr.loadAt, Instr.sureAddr, Sem.run_bind, Sem.run_pure, Result.andThen_ok, hr]
theorem ev_buildF (h : Region.wanted ⟨some d, .build 43 #[], ty, ps, af, gd⟩ (yielded ops tmps) = true ∧ wpList Try.prog ops Q rest (Act.put ⟨tmps, df⟩ (some d) (.agg (rfv none))) w) :
    wpList Try.prog ops Q (⟨some d, .build 43 #[], ty, ps, af, gd⟩ :: rest) ⟨tmps, df⟩ w := by
  refine wpl_run h.1 ?_ h.2
  have e : (Instr.build 43 #[]).run Try.prog w = .ok (.agg (rfv none)) w := by kernel_rfl
  simp only [execOp]
  rw [show (#[] : Array (Nat × Operand)).map (fun y => (y.1, Act.eval ⟨tmps, df⟩ y.2)) = #[] from by simp]
  simp only [Sem.run_bind, e, Result.andThen_ok]
  rfl
end

set_option maxHeartbeats 1000000 in
set_option maxRecDepth 100000 in
theorem rspare_out (t : Value) (P : Int) (h : ¬ (1 ≤ P ∧ P ≤ 4)) (w : World) :
    Calls Try.prog 23 #[t, .int .i64 P] w fun e w' => e = .returned (.tuple #[.int .i64 0, .int .i64 22]) ∧ w' = w := by
  by_cases h1 : 1 ≤ P
  · have e1 : decide (1 ≤ P) = true := decide_eq_true h1
    have e2 : decide (P ≤ 4) = false := decide_eq_false (by omega)
    clear h h1
    go_enter Try.func23, Try.ntmps23
    go_wp2
    go_ret2
    exact ⟨rfl, rfl⟩
  · have e1 : decide (1 ≤ P) = false := decide_eq_false h1
    clear h h1
    go_enter Try.func23, Try.ntmps23
    go_wp2
    go_ret2
    exact ⟨rfl, rfl⟩
set_option maxHeartbeats 1000000 in
set_option maxRecDepth 100000 in
theorem rspare_in (rb r : Nat) (P : Int) (hr : r < 4) (hP : P = (r : Int) + 1) (p : Nat → Option Nat) (f : Nat → FileT) (w : World) (hT : RTab w rb (qOf p f)) :
    Calls Try.prog 23 #[.pointer (some ⟨rb, 0, none⟩), .int .i64 P] w fun e w' => e = .returned (spareV (spareF p (8 * r))) ∧ w' = w := by
  obtain ⟨hr', hw, e1, e2⟩ := proc_facts hr hP
  clear hP
  go_enter Try.func23, Try.ntmps23
  go_wp2
  go_loopw [6] (fun i wr => ∃ k : Nat, k ≤ 8 ∧ i = .int .i64 k ∧ wr = w ∧ ∀ j, j < k → p (8 * r + j) ≠ none) (fun i _ => 8 - (intOf i).toNat)
  case atStart => exact ⟨0, by omega, rfl, rfl, fun j hj => absurd hj (by omega)⟩
  case round =>
    obtain ⟨k, hk, rfl, rfl, hall⟩ := hrel
    by_cases h : k = 8
    · subst h
      go_wp2
      go_ret2
      rw [spareF_none hall]
      exact ⟨rfl, rfl⟩
    · have hlt : k < 8 := by omega
      have hlt' : (k : Int) < 8 := by omega
      have hc := hT.cell' r k 4 hr hlt (by decide)
      have hkey := fun h => spareF_some (p := p) (o := 8 * r) hlt h hall
      have HK := Lib.hid (And.intro hkey hall)
      clear hkey hall
      cases hp : p (8 * r + k) with
      | none =>
        rw [show qOf p f (8 * r + k) = none from by unfold qOf; rw [hp]; rfl] at hc
        have hc' : wr.cell? ⟨rb, r * 40 + k * 5 + 4, none⟩ = some (.bool false) := hc
        clear hc
        go_wp2
        go_ret2
        rw [HK.out.1 hp]
        exact ⟨rfl, rfl⟩
      | some g =>
        rw [show qOf p f (8 * r + k) = some (f (8 * r + k)) from by unfold qOf; rw [hp]; rfl] at hc
        have hc' : wr.cell? ⟨rb, r * 40 + k * 5 + 4, none⟩ = some (.bool true) := hc
        clear hc
        go_wp2
        refine ⟨⟨k + 1, by omega, by simp, by first | trivial | rfl, fun j hj => ?_⟩, by simp only [intOf]; omega⟩
        rcases (by omega : j < k ∨ j = k) with h' | rfl
        · exact HK.out.2 j h'
        · rw [hp]; simp

/-! ### Get -/
set_option maxHeartbeats 1000000 in
set_option maxRecDepth 100000 in
theorem rget_out (t : Value) (P fd : Int) (h : ¬ (1 ≤ P ∧ P ≤ 4)) (w : World) :
    Calls Try.prog 19 #[t, .int .i64 P, .int .i64 fd] w fun e w' => e = .returned (.tuple #[.agg (rfv none), .int .i64 22]) ∧ Below w.heap.size w w' := by
  have hSt := St.start w
  by_cases h1 : 1 ≤ P
  · have e1 : decide (1 ≤ P) = true := decide_eq_true h1
    have e2 : decide (P ≤ 4) = false := decide_eq_false (by omega)
    clear h h1
    go_enter Try.func19, Try.ntmps19
    go_wp2_with (first | ((with_reducible refine ev_alloc hSt zX5 ?_); refine ⟨rfl, ?_⟩; intro gN wN hSt; (simp only [Act.put, List.setIfInBounds_toArray, List.set_cons_succ, List.set_cons_zero])) | ((with_reducible refine ev_store hSt aX5 ?_); (first | refine ⟨rfl, _, [], _, _, _, rfl, rfl, rfl, rfl, rfl, (by first | exact rfv_one _ | rfl), ?_⟩ | refine ⟨rfl, _, [_], _, _, _, rfl, rfl, rfl, rfl, rfl, (by first | exact rfv_one _ | rfl), ?_⟩); intro wN hSt; simp only [List.nil_append, List.cons_append] at hSt; simp only [Act.put]) | ((with_reducible refine ev_buildF ?_); refine ⟨rfl, ?_⟩; (simp only [Act.put, List.setIfInBounds_toArray, List.set_cons_succ, List.set_cons_zero])) | go_in)
    refine bodyPost_ret (pcell_tmp rfl aX5 _ rfl (hSt.blk (by repeat (first | exact List.mem_cons_self .. | refine List.mem_cons_of_mem _ ?_))) rfl) rfl ?_
    exact ⟨rfl, hSt.base⟩
  · have e1 : decide (1 ≤ P) = false := decide_eq_false h1
    clear h h1
    go_enter Try.func19, Try.ntmps19
    go_wp2_with (first | ((with_reducible refine ev_alloc hSt zX5 ?_); refine ⟨rfl, ?_⟩; intro gN wN hSt; (simp only [Act.put, List.setIfInBounds_toArray, List.set_cons_succ, List.set_cons_zero])) | ((with_reducible refine ev_store hSt aX5 ?_); (first | refine ⟨rfl, _, [], _, _, _, rfl, rfl, rfl, rfl, rfl, (by first | exact rfv_one _ | rfl), ?_⟩ | refine ⟨rfl, _, [_], _, _, _, rfl, rfl, rfl, rfl, rfl, (by first | exact rfv_one _ | rfl), ?_⟩); intro wN hSt; simp only [List.nil_append, List.cons_append] at hSt; simp only [Act.put]) | ((with_reducible refine ev_buildF ?_); refine ⟨rfl, ?_⟩; (simp only [Act.put, List.setIfInBounds_toArray, List.set_cons_succ, List.set_cons_zero])) | go_in)
    refine bodyPost_ret (pcell_tmp rfl aX5 _ rfl (hSt.blk (by repeat (first | exact List.mem_cons_self .. | refine List.mem_cons_of_mem _ ?_))) rfl) rfl ?_
    exact ⟨rfl, hSt.base⟩
set_option maxHeartbeats 1000000 in
set_option maxRecDepth 100000 in
theorem rget_far (t : Value) (P fd : Int) (h : 1 ≤ P ∧ P ≤ 4) (hf : ¬ (0 ≤ fd ∧ fd < 8)) (w : World) :
    Calls Try.prog 19 #[t, .int .i64 P, .int .i64 fd] w fun e w' => e = .returned (.tuple #[.agg (rfv none), .int .i64 9]) ∧ Below w.heap.size w w' := by
  have hSt := St.start w
  have e1 : decide (1 ≤ P) = true := decide_eq_true h.1
  have e2 : decide (P ≤ 4) = true := decide_eq_true h.2
  clear h
  by_cases h1 : fd < 0
  · have e3 : decide (fd < 0) = true := decide_eq_true h1
    clear hf h1
    go_enter Try.func19, Try.ntmps19
    go_wp2_with (first | ((with_reducible refine ev_alloc hSt zX5 ?_); refine ⟨rfl, ?_⟩; intro gN wN hSt; (simp only [Act.put, List.setIfInBounds_toArray, List.set_cons_succ, List.set_cons_zero])) | ((with_reducible refine ev_store hSt aX5 ?_); (first | refine ⟨rfl, _, [], _, _, _, rfl, rfl, rfl, rfl, rfl, (by first | exact rfv_one _ | rfl), ?_⟩ | refine ⟨rfl, _, [_], _, _, _, rfl, rfl, rfl, rfl, rfl, (by first | exact rfv_one _ | rfl), ?_⟩); intro wN hSt; simp only [List.nil_append, List.cons_append] at hSt; simp only [Act.put]) | ((with_reducible refine ev_buildF ?_); refine ⟨rfl, ?_⟩; (simp only [Act.put, List.setIfInBounds_toArray, List.set_cons_succ, List.set_cons_zero])) | go_in)
    refine bodyPost_ret (pcell_tmp rfl aX5 _ rfl (hSt.blk (by repeat (first | exact List.mem_cons_self .. | refine List.mem_cons_of_mem _ ?_))) rfl) rfl ?_
    exact ⟨rfl, hSt.base⟩
  · have e3 : decide (fd < 0) = false := decide_eq_false h1
    have e4 : decide (7 < fd) = true := decide_eq_true (by omega)
    clear hf h1
    go_enter Try.func19, Try.ntmps19
    go_wp2_with (first | ((with_reducible refine ev_alloc hSt zX5 ?_); refine ⟨rfl, ?_⟩; intro gN wN hSt; (simp only [Act.put, List.setIfInBounds_toArray, List.set_cons_succ, List.set_cons_zero])) | ((with_reducible refine ev_store hSt aX5 ?_); (first | refine ⟨rfl, _, [], _, _, _, rfl, rfl, rfl, rfl, rfl, (by first | exact rfv_one _ | rfl), ?_⟩ | refine ⟨rfl, _, [_], _, _, _, rfl, rfl, rfl, rfl, rfl, (by first | exact rfv_one _ | rfl), ?_⟩); intro wN hSt; simp only [List.nil_append, List.cons_append] at hSt; simp only [Act.put]) | ((with_reducible refine ev_buildF ?_); refine ⟨rfl, ?_⟩; (simp only [Act.put, List.setIfInBounds_toArray, List.set_cons_succ, List.set_cons_zero])) | go_in)
    refine bodyPost_ret (pcell_tmp rfl aX5 _ rfl (hSt.blk (by repeat (first | exact List.mem_cons_self .. | refine List.mem_cons_of_mem _ ?_))) rfl) rfl ?_
    exact ⟨rfl, hSt.base⟩
set_option maxHeartbeats 1000000 in
set_option maxRecDepth 100000 in
theorem rget_in (rb r k : Nat) (P fd : Int) (hr : r < 4) (hP : P = (r : Int) + 1) (hk : k < 8) (hfd : fd = (k : Int)) (q : QT) (w : World) (hT : RTab w rb q) :
    Calls Try.prog 19 #[.pointer (some ⟨rb, 0, none⟩), .int .i64 P, .int .i64 fd] w fun e w' => e = .returned (.tuple #[.agg (rfv (q (8 * r + k))), .int .i64 (if (q (8 * r + k)).isSome then 0 else 9)]) ∧ Below w.heap.size w w' := by
  have hSt := St.start w
  obtain ⟨hr', hw, e1, e2⟩ := proc_facts hr hP
  have e3 : decide (fd < 0) = false := decide_eq_false (by omega)
  have e4 : decide (7 < fd) = false := decide_eq_false (by omega)
  have hk' : (k : Int) < 8 := by omega
  have hcw : ∀ w', Below w.heap.size w w' → ∀ j, j < 5 → w'.cell? ⟨rb, r * 40 + k * 5 + j, none⟩ = some (fcell (q (8 * r + k)) j) := fun w' hb j hj => (hT.ext hb).cell' r k j hr hk hj
  generalize q (8 * r + k) = u at *
  subst hfd
  clear hP
  have HC := Lib.hid hcw
  clear hcw
  cases u with
  | none =>
    go_enter Try.func19, Try.ntmps19
    go_upto_region 3 with (first | ((with_reducible refine ev_alloc hSt zX5 ?_); refine ⟨rfl, ?_⟩; intro gN wN hSt; (simp only [Act.put, List.setIfInBounds_toArray, List.set_cons_succ, List.set_cons_zero])) | go_in)
    have hc' : wN.cell? ⟨rb, r * 40 + k * 5 + 4, none⟩ = some (.bool false) := HC.out _ hSt.base 4 (by decide)
    go_wp2_with (first | ((with_reducible refine ev_alloc hSt zX5 ?_); refine ⟨rfl, ?_⟩; intro gN wN hSt; (simp only [Act.put, List.setIfInBounds_toArray, List.set_cons_succ, List.set_cons_zero])) | ((with_reducible refine ev_store hSt aX5 ?_); (first | refine ⟨rfl, _, [], _, _, _, rfl, rfl, rfl, rfl, rfl, (by first | exact rfv_one _ | rfl), ?_⟩ | refine ⟨rfl, _, [_], _, _, _, rfl, rfl, rfl, rfl, rfl, (by first | exact rfv_one _ | rfl), ?_⟩); intro wN hSt; simp only [List.nil_append, List.cons_append] at hSt; simp only [Act.put]) | ((with_reducible refine ev_buildF ?_); refine ⟨rfl, ?_⟩; (simp only [Act.put, List.setIfInBounds_toArray, List.set_cons_succ, List.set_cons_zero])))
    refine bodyPost_ret (pcell_tmp rfl aX5 _ rfl (hSt.blk (by repeat (first | exact List.mem_cons_self .. | refine List.mem_cons_of_mem _ ?_))) rfl) rfl ?_
    exact ⟨rfl, hSt.base⟩
  | some y =>
    go_enter Try.func19, Try.ntmps19
    go_upto_region 3 with (first | ((with_reducible refine ev_alloc hSt zX5 ?_); refine ⟨rfl, ?_⟩; intro gN wN hSt; (simp only [Act.put, List.setIfInBounds_toArray, List.set_cons_succ, List.set_cons_zero])) | go_in)
    have hc' : wN.cell? ⟨rb, r * 40 + k * 5 + 4, none⟩ = some (.bool true) := HC.out _ hSt.base 4 (by decide)
    have hrl : ∀ j v, (rfv (some y))[j]? = some v → wN.cell? ⟨rb, r * 40 + k * 5 + j, none⟩ = some v := fun j v hv => by
      have hj : j < 5 := (Array.getElem?_eq_some_iff.1 hv).1
      rw [rfv_get _ j hj] at hv
      rw [HC.out _ hSt.base j hj, hv]
    have HRL := Lib.hid hrl
    clear hrl
    go_upto_region 5 with fail
    have hrl := HRL.out
    go_wp2_with (first | ((with_reducible refine ev_rload ?_); refine ⟨rfl, _, _, _, rfl, hrl, ?_⟩; (simp only [Act.put, List.setIfInBounds_toArray, List.set_cons_succ, List.set_cons_zero])) | ((with_reducible refine ev_store hSt aX5 ?_); (first | refine ⟨rfl, _, [], _, _, _, rfl, rfl, rfl, rfl, rfl, (by first | exact rfv_one _ | rfl), ?_⟩ | refine ⟨rfl, _, [_], _, _, _, rfl, rfl, rfl, rfl, rfl, (by first | exact rfv_one _ | rfl), ?_⟩); intro wN hSt; simp only [List.nil_append, List.cons_append] at hSt; simp only [Act.put]))
    refine bodyPost_ret (pcell_tmp rfl aX5 _ rfl (hSt.blk (by repeat (first | exact List.mem_cons_self .. | refine List.mem_cons_of_mem _ ?_))) rfl) rfl ?_
    exact ⟨rfl, hSt.base⟩
end Go.Proofs.Ytfacegnnmgmjmaa
