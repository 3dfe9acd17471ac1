/- Chapter 28: Opens; the example; the laws FdsFlags and FdsNone, walked. -/
import Derived.Test.YtfacegnnmgmjmaaFdsD
namespace Go.Proofs.Ytfacegnnmgmjmaa
open Go.RowKit
set_option linter.unusedSimpArgs false
set_option linter.unusedVariables false

theorem zInt : ZeroT Try.prog 3 #[.int .i64 0] := by unfold ZeroT; kernel_rfl
section
variable {P : Program} {ops : Array Oper} {rest : List Oper} {Q : Exit → Act → World → Prop} {tmps : Array Value} {df : List Deferred} {d ty t u : Nat} {x : Operand} {ps : String} {af : Array Edge} {gd : Option (Nat × Bool)} {w0 w : World} {l : List (Nat × Obj)} {T : TypeId}
theorem ev_box1 (hSt : St w0 l w) (h : Region.wanted ⟨some d, .box T x, ty, ps, af, gd⟩ (yielded ops tmps) = true ∧ ∃ v cs, Act.eval ⟨tmps, df⟩ x = v ∧ v.cells = cs ∧
      ∀ g w', St w0 ((g, .cells cs T (0, 0)) :: l) w' → wpList P ops Q rest (Act.put ⟨tmps, df⟩ (some d) (.pointer (some ⟨g, 0, none⟩))) w') :
    wpList P ops Q (⟨some d, .box T x, ty, ps, af, gd⟩ :: rest) ⟨tmps, df⟩ w := by
  obtain ⟨hw, v, cs, hx, hv, h⟩ := h
  refine wpl_run hw ?_ (h w.heap.size (w.alloc (.cells cs T (0, 0))) (hSt.alloc _))
  simp only [execOp, hx, Instr.box, newVar, Sem.run_bind, hv]
  rfl
end

set_option maxHeartbeats 1000000 in
set_option maxRecDepth 100000 in
theorem opens_is (tb : Nat) (p : Nat → Option Nat) (f : Nat → FileT) (ino : Int) (w : World) (hT : Tab w tb p f) :
    Calls Try.prog 24 #[.pointer (some ⟨tb, 0, none⟩), .int .i64 ino] w fun e w' => e = .returned (.int .i64 (cnt p f ino 32)) ∧ Below w.heap.size w w' := by
  have hSt := St.start w
  go_enter Try.func24, Try.ntmps24
  go_wp2_with (first
    | ((with_reducible refine ev_box1 hSt ?_); refine ⟨rfl, _, _, rfl, rfl, ?_⟩; intro gN wN hSt; (simp only [Act.put, List.setIfInBounds_toArray, List.set_cons_succ, List.set_cons_zero]))
    | ((with_reducible refine ev_alloc hSt zInt ?_); refine ⟨rfl, ?_⟩; intro gN wN hSt; (simp only [Act.put, List.setIfInBounds_toArray, List.set_cons_succ, List.set_cons_zero]))
    | ((with_reducible refine ev_store1 hSt (by kernel_rfl) ?_); refine ⟨rfl, _, _, [], _, _, _, .int .i64 0, rfl, rfl, rfl, Nat.zero_lt_one, rfl, ?_⟩; intro wN hSt; simp only [List.nil_append, List.cons_append] at hSt; simp only [Act.put])
    | ((with_reducible refine ev_load1 hSt oInt ?_); refine ⟨rfl, _, _, _, _, _, rfl, (by repeat (first | exact List.mem_cons_self .. | refine List.mem_cons_of_mem _ ?_)), one_0 _, ?_⟩; (simp only [Act.put, List.setIfInBounds_toArray, List.set_cons_succ, List.set_cons_zero]))
    | (go_at_call 31; refine (each_is tb _ _ p f ino w _ hT hSt).mono ?_; rintro e w9 ⟨rfl, hSt⟩))
  go_ret
  exact ⟨rfl, hSt.base⟩

def fs0 : Nat → FileT := fun _ => (0, 0, 0, 0)
theorem tc_none : tc (fun _ => none) = #[.pointer none, .pointer none, .pointer none, .pointer none, .pointer none, .pointer none, .pointer none, .pointer none, .pointer none, .pointer none, .pointer none, .pointer none, .pointer none, .pointer none, .pointer none, .pointer none, .pointer none, .pointer none, .pointer none, .pointer none, .pointer none, .pointer none, .pointer none, .pointer none, .pointer none, .pointer none, .pointer none, .pointer none, .pointer none, .pointer none, .pointer none, .pointer none] := by
  unfold tc
  rfl
set_option maxHeartbeats 1000000 in
set_option maxRecDepth 100000 in
theorem new_is (w : World) : Calls Try.prog 9 #[] w fun e w' => ∃ tb, e = .returned (.pointer (some ⟨tb, 0, none⟩)) ∧ w.heap.size ≤ tb ∧ Tab w' tb (fun _ => none) fs0 ∧ Below w.heap.size w w' := by
  have hSt := St.start w
  go_enter Try.func9, Try.ntmps9
  go_wp2_with (first | ((with_reducible refine ev_box hSt ?_); refine ⟨rfl, _, rfl, ?_⟩; intro gN wN hSt; (simp only [Act.put, List.setIfInBounds_toArray, List.set_cons_succ, List.set_cons_zero])))
  go_ret
  refine ⟨_, rfl, (hSt.own _ (List.mem_cons_self ..)).2, ⟨?_, fun i g hi hg => by cases hg⟩, hSt.base⟩
  rw [tc_none]
  exact hSt.blk (by repeat (first | exact List.mem_cons_self .. | refine List.mem_cons_of_mem _ ?_))

theorem ex_open (tb B : Nat) (hB : B ≤ tb) (n : Int) (i : Nat) (hi : i < 8) (p : Nat → Option Nat) (f : Nat → FileT) (w : World) (hT : Tab w tb p f) (hs : spareF p 0 = some i) :
    Calls Try.prog 12 #[.pointer (some ⟨tb, 0, none⟩), .int .i64 1, .agg #[.int .i64 n, .int .i64 0, .int .i64 0, .int .i64 0]] w fun r w' => r = .returned (.tuple #[.int .i64 (i : Int), .int .i64 0]) ∧ (∃ g, Tab w' tb (upd p i (some g)) (updF f i (n, 0, 0, 0))) ∧ Below B w w' := by
  refine (open_yes tb 1 i B hB (by decide) (by decide) p f (n, 0, 0, 0) w hT hs hi).mono ?_
  rintro r w' ⟨h1, ⟨g, -, h2⟩, h3, -⟩
  exact ⟨h1, ⟨g, by simpa using h2⟩, h3⟩
theorem ex_close (tb B : Nat) (hB : B ≤ tb) (p : Nat → Option Nat) (f : Nat → FileT) (g : Nat) (w : World) (hT : Tab w tb p f) (hp : p 0 = some g) :
    Calls Try.prog 10 #[.pointer (some ⟨tb, 0, none⟩), .int .i64 1, .int .i64 0] w fun r w' => r = .returned (.tuple #[.agg (fv (f 0)), .int .i64 0]) ∧ Tab w' tb (upd p 0 none) f ∧ Below B w w' := by
  refine (close_ok tb 1 0 B hB (by decide) (by decide) (by decide) p f g w hT hp).mono ?_
  rintro r w' ⟨h1, h2, h3, -⟩
  exact ⟨h1, h2, h3⟩

set_option maxHeartbeats 2000000 in
set_option maxRecDepth 100000 in
theorem awake28 (w : World) : Calls Try.prog 8 #[] w fun e w' => e = .returned (.bool true) ∧ Below w.heap.size w w' := by
  go_enter Try.func8, Try.ntmps8
  go_wp2_with (first
    | (go_at_call 9; refine (new_is _).mono ?_; rintro e w1 ⟨tb, rfl, htb, hT, hb⟩)
    | (go_at_call 12; with_reducible refine (ex_open tb w.heap.size htb 5 0 (by decide) _ _ _ hT rfl).mono ?_; rintro e w2 ⟨rfl, ⟨g1, hT2⟩, hb2⟩)
    | (go_at_call 12; with_reducible refine (ex_open tb w.heap.size htb 6 1 (by decide) _ _ _ hT2 rfl).mono ?_; rintro e w3 ⟨rfl, ⟨g2, hT3⟩, hb3⟩)
    | (go_at_call 10; with_reducible refine (ex_close tb w.heap.size htb _ _ g1 _ hT3 rfl).mono ?_; rintro e w4 ⟨rfl, hT4, hb4⟩; have hSt := St.start w4)
    | ((with_reducible refine ev_alloc hSt (by first | exact zPg | exact zHd | exact zHr | exact zX1 | exact zX2 | exact zX3 | exact zX4) ?_); refine ⟨rfl, ?_⟩; intro gN wN hSt; (simp only [Act.put, List.setIfInBounds_toArray, List.set_cons_succ, List.set_cons_zero]))
    | ((with_reducible refine ev_store hSt aX1 ?_); (first | refine ⟨rfl, _, [], _, _, _, rfl, rfl, rfl, rfl, rfl, (by simp [zF, fv, Value.oneCell']), ?_⟩ | refine ⟨rfl, _, [_], _, _, _, rfl, rfl, rfl, rfl, rfl, (by simp [zF, fv, Value.oneCell']), ?_⟩); intro wN hSt; simp only [List.nil_append, List.cons_append] at hSt; simp only [Act.put])
    | (go_at_call 12; with_reducible refine (ex_open tb w.heap.size htb 7 0 (by decide) _ _ _ (hT4.ext hSt.base) rfl).mono ?_; rintro e w5 ⟨rfl, ⟨g3, hT5⟩, hb5⟩
       have h7 : ∀ w', Tab w' tb _ _ → Calls Try.prog 24 #[.pointer (some ⟨tb, 0, none⟩), .int .i64 7] w' fun e w'' => e = .returned (.int .i64 1) ∧ Below w'.heap.size w' w'' := fun w' hT => opens_is tb (upd (upd (upd (upd (fun x => none) 0 (some g1)) 1 (some g2)) 0 none) 0 (some g3)) (updF (updF (updF fs0 0 (5, 0, 0, 0)) 1 (6, 0, 0, 0)) 0 (7, 0, 0, 0)) 7 w' hT
       have h5 : ∀ w', Tab w' tb _ _ → Calls Try.prog 24 #[.pointer (some ⟨tb, 0, none⟩), .int .i64 5] w' fun e w'' => e = .returned (.int .i64 0) ∧ Below w'.heap.size w' w'' := fun w' hT => opens_is tb (upd (upd (upd (upd (fun x => none) 0 (some g1)) 1 (some g2)) 0 none) 0 (some g3)) (updF (updF (updF fs0 0 (5, 0, 0, 0)) 1 (6, 0, 0, 0)) 0 (7, 0, 0, 0)) 5 w' hT)
    | (go_at_call 24; first | (with_reducible refine (h7 _ hT5).mono ?_; rintro e w6 ⟨rfl, hb6⟩) | (with_reducible refine (h5 _ (hT5.ext hb6)).mono ?_; rintro e w7 ⟨rfl, hb7⟩)))
  go_ret
  have hs4 : Below w.heap.size w w4 := ((hb.trans hb2).trans hb3).trans hb4
  have hs5 : Below w.heap.size w w5 := (hs4.trans (hSt.base.mono hs4.size)).trans hb5
  exact ⟨rfl, (hs5.trans (hb6.mono hs5.size)).trans (hb7.mono (Nat.le_trans hs5.size hb6.size))⟩
end Go.Proofs.Ytfacegnnmgmjmaa
