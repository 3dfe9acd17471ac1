/- Chapter 28: Open, walked. -/
import Derived.Test.YtfacegnnmgmjmaaFdsA
namespace Go.Proofs.Ytfacegnnmgmjmaa
open Go.RowKit
set_option linter.unusedSimpArgs false
set_option linter.unusedVariables false

/-- All blocks but one stand as they stood. -/
def KB (tb : Nat) (w w' : World) : Prop := ∀ k o, w.heap[k]? = some o → k ≠ tb → w'.heap[k]? = some o
theorem KB.refl (tb : Nat) (w : World) : KB tb w w := fun _ _ h _ => h
theorem KB.trans {tb : Nat} {a b c : World} (h : KB tb a b) (k : KB tb b c) : KB tb a c := fun i o hi hn => k i o (h i o hi hn) hn
theorem KB.of {tb : Nat} {w w' : World} (h : Below w.heap.size w w') : KB tb w w' := fun k o hk _ => blk_of h hk

def updF (f : Nat → FileT) (i : Nat) (x : FileT) (j : Nat) : FileT := if j = i then x else f j

/-- A descriptor is set. -/
theorem Tab.set {w : World} {tb B : Nat} {p : Nat → Option Nat} {f : Nat → FileT} (h : Tab w tb p f) (hB : B ≤ tb) (i : Nat) (hi : i < 32) (o : Option Nat) (x : FileT) (ho : ∀ g, o = some g → w.heap[g]? = some (.cells (fv x) 27 (0, 0)) ∧ g ≠ tb) :
    Tab (w.setCell ⟨tb, i, none⟩ (pv o)) tb (upd p i o) (updF f i x) ∧ Below B w (w.setCell ⟨tb, i, none⟩ (pv o)) ∧ KB tb w (w.setCell ⟨tb, i, none⟩ (pv o)) := by
  rw [setCell_eq_setRow w tb i _ _ _ _ h.tab, tc_set]
  have hoth : ∀ k, k ≠ tb → (w.setRow tb (tc (upd p i o))).heap[k]? = w.heap[k]? := fun k hk => setRow_other w tb k _ hk
  refine ⟨⟨setRow_heap w tb _ _ _ _ h.tab, fun j g hj hg => ?_⟩, ⟨rfl, rfl, rfl, by simp, fun k hk => hoth k (by omega)⟩, fun k ob hk hn => (hoth k hn).trans hk⟩
  by_cases hji : j = i
  · subst hji
    rw [upd, if_pos rfl] at hg
    have := ho g hg
    rw [updF, if_pos rfl]
    exact ⟨(hoth g this.2).trans this.1, this.2⟩
  · rw [upd, if_neg hji] at hg
    have := h.file j g hj hg
    rw [updF, if_neg hji]
    exact ⟨(hoth g this.2).trans this.1, this.2⟩

set_option maxHeartbeats 1000000 in
set_option maxRecDepth 100000 in
theorem spare_no (a : Addr) (pr : Int) (h : ¬ (1 ≤ pr ∧ pr ≤ 4)) (w : World) :
    Calls Try.prog 11 #[.pointer (some a), .int .i64 pr] w fun e w' => e = .returned (.tuple #[.int .i64 0, .int .i64 22]) ∧ w' = w := by
  have hR := fun w => row_no a pr h w
  clear h
  go_enter Try.func11, Try.ntmps11
  go_wp2_with (go_at_call 28; refine (hR _).mono ?_; rintro e w1 ⟨rfl, rfl⟩)
  go_ret2
  exact ⟨rfl, rfl⟩
theorem spare_nil (pr : Int) (w : World) :
    Calls Try.prog 11 #[.pointer none, .int .i64 pr] w fun e w' => e = .returned (.tuple #[.int .i64 0, .int .i64 22]) ∧ w' = w := by
  go_enter Try.func11, Try.ntmps11
  go_wp2_with (go_at_call 28; refine (row_nil _ _).mono ?_; rintro e w1 ⟨rfl, rfl⟩)
  go_ret2
  exact ⟨rfl, rfl⟩

set_option maxHeartbeats 1000000 in
set_option maxRecDepth 100000 in
theorem open_fail (t : Value) (pr : Int) (e : Int) (x : FileT) (w : World) (he : (e == 0) = false) (hS : ∀ w, Calls Try.prog 11 #[t, .int .i64 pr] w fun r w' => r = .returned (.tuple #[.int .i64 0, .int .i64 e]) ∧ w' = w) :
    Calls Try.prog 12 #[t, .int .i64 pr, .agg (fv x)] w fun r w' => r = .returned (.tuple #[.int .i64 0, .int .i64 e]) ∧ Below w.heap.size w w' := by
  have hSt := St.start w
  go_enter Try.func12, Try.ntmps12
  go_wp2_with (first
    | ((with_reducible refine ev_box hSt ?_); refine ⟨rfl, _, rfl, ?_⟩; intro gN wN hSt; (simp only [Act.put, List.setIfInBounds_toArray, List.set_cons_succ, List.set_cons_zero]))
    | (go_at_call 11; refine (hS _).mono ?_; rintro e w1 ⟨rfl, rfl⟩))
  go_ret2
  exact ⟨rfl, hSt.base⟩

set_option maxHeartbeats 1000000 in
set_option maxRecDepth 100000 in
theorem open_full (tb pr : Nat) (h1 : 1 ≤ pr) (h2 : pr ≤ 4) (p : Nat → Option Nat) (f : Nat → FileT) (x : FileT) (w : World) (hT : Tab w tb p f) (hs : spareF p (8 * (pr - 1)) = none) :
    Calls Try.prog 12 #[.pointer (some ⟨tb, 0, none⟩), .int .i64 pr, .agg (fv x)] w fun r w' => r = .returned (.tuple #[.int .i64 0, .int .i64 24]) ∧ Below w.heap.size w w' := by
  have hSt := St.start w
  have hS := fun w hT => spare_yes tb pr h1 h2 p f w hT
  rw [hs] at hS
  simp only [spareV] at hS
  go_enter Try.func12, Try.ntmps12
  go_wp2_with (first
    | ((with_reducible refine ev_box hSt ?_); refine ⟨rfl, _, rfl, ?_⟩; intro gN wN hSt; (simp only [Act.put, List.setIfInBounds_toArray, List.set_cons_succ, List.set_cons_zero]))
    | (go_at_call 11; refine (hS _ (hT.ext hSt.base)).mono ?_; rintro e w1 ⟨rfl, hb9⟩; replace hSt := hSt.ext hb9))
  go_ret2
  exact ⟨rfl, hSt.base⟩

set_option maxHeartbeats 1000000 in
set_option maxRecDepth 100000 in
theorem open_yes (tb pr i B : Nat) (hB : B ≤ tb) (h1 : 1 ≤ pr) (h2 : pr ≤ 4) (p : Nat → Option Nat) (f : Nat → FileT) (x : FileT) (w : World) (hT : Tab w tb p f) (hs : spareF p (8 * (pr - 1)) = some i) (hi : i < 8) :
    Calls Try.prog 12 #[.pointer (some ⟨tb, 0, none⟩), .int .i64 pr, .agg (fv x)] w fun r w' => r = .returned (.tuple #[.int .i64 i, .int .i64 0]) ∧ (∃ g, w.heap.size ≤ g ∧ Tab w' tb (upd p (8 * (pr - 1) + i) (some g)) (updF f (8 * (pr - 1) + i) x)) ∧ Below B w w' ∧ KB tb w w' := by
  have hSt := St.start w
  have hS := fun w hT => spare_yes tb pr h1 h2 p f w hT
  rw [hs] at hS
  simp only [spareV] at hS
  have hR := fun w => row_yes tb pr h1 h2 w
  obtain ⟨o, ho⟩ : ∃ o, 8 * (pr - 1) = o := ⟨_, rfl⟩
  have ho2 : o ≤ 24 := by omega
  rw [ho] at hR ⊢
  clear ho hs h1 h2
  have hi' : (i : Int) < 8 := by omega
  have htb := lt_of_blk hT.tab
  go_enter Try.func12, Try.ntmps12
  go_wp2_with (first
    | ((with_reducible refine ev_box hSt ?_); refine ⟨rfl, _, rfl, ?_⟩; intro gN wN hSt; (simp only [Act.put, List.setIfInBounds_toArray, List.set_cons_succ, List.set_cons_zero]))
    | (go_at_call 11; refine (hS _ (hT.ext hSt.base)).mono ?_; rintro e w1 ⟨rfl, hb9⟩; replace hSt := hSt.ext hb9; have hT1 := hT.ext hSt.base; have hc := hT1.cell (o + i) (by omega); have hf := frozen_of_row w1 tb (o + i) _ _ hT1.tab)
    | (go_at_call 28; refine (hR _).mono ?_; rintro e w2 ⟨rfl, rfl⟩))
  go_ret2
  have hgN : w.heap.size ≤ gN := (hSt.own _ (List.mem_cons_self ..)).2
  have hset := hT1.set hB (o + i) (by omega) (some gN) x (fun g hg => by
    cases hg
    exact ⟨hSt.blk (by repeat (first | exact List.mem_cons_self .. | refine List.mem_cons_of_mem _ ?_)), by omega⟩)
  exact ⟨rfl, ⟨gN, hgN, hset.1⟩, (hSt.base.mono (by omega)).trans hset.2.1, (KB.of hSt.base).trans hset.2.2⟩

/-! ### What a descriptor has -/
set_option maxHeartbeats 1000000 in
set_option maxRecDepth 100000 in
theorem at_norow (t : Value) (pr fd : Int) (w : World) (hR : ∀ w, Calls Try.prog 28 #[t, .int .i64 pr] w fun e w' => e = .returned (.pointer none) ∧ w' = w) :
    Calls Try.prog 29 #[t, .int .i64 pr, .int .i64 fd] w fun r w' => r = .returned (.tuple #[.pointer none, .int .i64 22]) ∧ w' = w := by
  go_enter Try.func29, Try.ntmps29
  go_wp2_with (go_at_call 28; refine (hR _).mono ?_; rintro e w1 ⟨rfl, rfl⟩)
  go_ret2
  exact ⟨rfl, rfl⟩

set_option maxHeartbeats 1000000 in
set_option maxRecDepth 100000 in
theorem at_out (tb pr : Nat) (h1 : 1 ≤ pr) (h2 : pr ≤ 4) (fd : Int) (h : ¬ (0 ≤ fd ∧ fd < 8)) (w : World) :
    Calls Try.prog 29 #[.pointer (some ⟨tb, 0, none⟩), .int .i64 pr, .int .i64 fd] w fun r w' => r = .returned (.tuple #[.pointer none, .int .i64 9]) ∧ w' = w := by
  have hR := fun w => row_yes tb pr h1 h2 w
  obtain ⟨o, ho⟩ : ∃ o, 8 * (pr - 1) = o := ⟨_, rfl⟩
  rw [ho] at hR
  clear ho h1 h2
  by_cases c : fd < 0
  · have e1 : decide (fd < 0) = true := decide_eq_true c
    clear h c
    go_enter Try.func29, Try.ntmps29
    go_wp2_with (go_at_call 28; refine (hR _).mono ?_; rintro e w1 ⟨rfl, rfl⟩)
    go_ret2
    exact ⟨rfl, rfl⟩
  · have e1 : decide (fd < 0) = false := decide_eq_false c
    have e2 : decide (fd ≥ 8) = true := decide_eq_true (by omega)
    have e3 : decide (8 ≤ fd) = true := decide_eq_true (by omega)
    clear h c
    go_enter Try.func29, Try.ntmps29
    go_wp2_with (go_at_call 28; refine (hR _).mono ?_; rintro e w1 ⟨rfl, rfl⟩)
    go_ret2
    exact ⟨rfl, rfl⟩

set_option maxHeartbeats 1000000 in
set_option maxRecDepth 100000 in
theorem at_in (tb pr i : Nat) (h1 : 1 ≤ pr) (h2 : pr ≤ 4) (hi : i < 8) (p : Nat → Option Nat) (f : Nat → FileT) (w : World) (hT : Tab w tb p f) :
    Calls Try.prog 29 #[.pointer (some ⟨tb, 0, none⟩), .int .i64 pr, .int .i64 i] w fun r w' => r = .returned (match p (8 * (pr - 1) + i) with | some g => .tuple #[.pointer (some ⟨g, 0, none⟩), .int .i64 0] | none => .tuple #[.pointer none, .int .i64 9]) ∧ w' = w := by
  have hR := fun w => row_yes tb pr h1 h2 w
  obtain ⟨o, ho⟩ : ∃ o, 8 * (pr - 1) = o := ⟨_, rfl⟩
  have ho2 : o ≤ 24 := by omega
  rw [ho] at hR ⊢
  clear ho h1 h2
  have hc := hT.cell (o + i) (by omega)
  have e1 : decide ((i : Int) < 0) = false := decide_eq_false (by omega)
  have e2 : decide ((i : Int) ≥ 8) = false := decide_eq_false (by omega)
  have e3 : decide (8 ≤ (i : Int)) = false := decide_eq_false (by omega)
  have e4 : decide (8 ≤ i) = false := decide_eq_false (by omega)
  have hi' : (i : Int) < 8 := by omega
  cases hp : p (o + i) with
  | none =>
    rw [hp] at hc
    have hc' : w.cell? ⟨tb, o + i, none⟩ = some (.pointer none) := hc
    clear hc
    go_enter Try.func29, Try.ntmps29
    go_wp2_with (go_at_call 28; refine (hR _).mono ?_; rintro e w1 ⟨rfl, rfl⟩)
    go_ret2
    exact ⟨rfl, rfl⟩
  | some g =>
    rw [hp] at hc
    have hc' : w.cell? ⟨tb, o + i, none⟩ = some (.pointer (some ⟨g, 0, none⟩)) := hc
    clear hc
    go_enter Try.func29, Try.ntmps29
    go_wp2_with (go_at_call 28; refine (hR _).mono ?_; rintro e w1 ⟨rfl, rfl⟩)
    go_ret2
    exact ⟨rfl, rfl⟩
end Go.Proofs.Ytfacegnnmgmjmaa
