/- Chapter 28: a table of descriptors in memory; row, Spare, at, walked. -/
import Derived.Test.YtfacegnnmgmjmaaProg
import Derived.Test.YtfacegnnmgmjmaaSt
import Derived.Test.YtfacegnnmgmjmaaRel
import Derived.RegionTactic
import Derived.ChangeAlike
import Derived.Lib.Hide
namespace Go.Proofs.Ytfacegnnmgmjmaa
open Go.RowKit
set_option linter.unusedSimpArgs false
set_option linter.unusedVariables false

/-- A descriptor's pointer. -/
def pv (o : Option Nat) : Value := .pointer (o.map fun g => ⟨g, 0, none⟩)
/-- A table's cells. -/
@[irreducible] def tc (p : Nat → Option Nat) : Array Value := ((List.range 32).map fun i => pv (p i)).toArray
theorem tc_size (p : Nat → Option Nat) : (tc p).size = 32 := by unfold tc; simp
theorem tc_get (p : Nat → Option Nat) (i : Nat) (h : i < 32) : (tc p)[i]? = some (pv (p i)) := by
  unfold tc
  rw [List.getElem?_toArray, List.getElem?_map, List.getElem?_range h]; rfl
def upd (p : Nat → Option Nat) (i : Nat) (o : Option Nat) (j : Nat) : Option Nat := if j = i then o else p j
theorem tc_set (p : Nat → Option Nat) (i : Nat) (o : Option Nat) : (tc p).setIfInBounds i (pv o) = tc (upd p i o) := by
  apply Array.ext_getElem?
  intro j
  rw [Array.getElem?_setIfInBounds]
  by_cases hj : j < 32
  · rw [tc_get _ _ hj, tc_get _ _ hj, upd, tc_size]
    by_cases h : i = j
    · subst h; simp [hj]
    · rw [if_neg h, if_neg (Ne.symm h)]
  · rw [Array.getElem?_eq_none (by rw [tc_size]; omega), Array.getElem?_eq_none (by rw [tc_size]; omega), tc_size]
    split
    · rw [if_neg (by omega)]
    · rfl
/-- A file's numbers. -/
abbrev FileT := Int × Int × Int × Int
def fv (f : FileT) : Array Value := #[.int .i64 f.1, .int .i64 f.2.1, .int .i64 f.2.2.1, .int .i64 f.2.2.2]

/-- A table lies in block tb: p tells the blocks of what is open, f what it is. -/
structure Tab (w : World) (tb : Nat) (p : Nat → Option Nat) (f : Nat → FileT) : Prop where
  tab : w.heap[tb]? = some (.cells (tc p) 66 (0, 0))
  file : ∀ i g, i < 32 → p i = some g → w.heap[g]? = some (.cells (fv (f i)) 27 (0, 0)) ∧ g ≠ tb
theorem Tab.ext {w w' : World} {tb : Nat} {p : Nat → Option Nat} {f : Nat → FileT} (h : Tab w tb p f) (hb : Below w.heap.size w w') : Tab w' tb p f :=
  ⟨blk_of hb h.tab, fun i g hi hg => ⟨blk_of hb (h.file i g hi hg).1, (h.file i g hi hg).2⟩⟩
theorem Tab.cell {w : World} {tb : Nat} {p : Nat → Option Nat} {f : Nat → FileT} (h : Tab w tb p f) (i : Nat) (hi : i < 32) : w.cell? ⟨tb, i, none⟩ = some (pv (p i)) :=
  (cell_of_row w tb i _ _ _ h.tab).trans (tc_get p i hi)

theorem aX1 : AggT Try.prog 27 4 := ⟨by kernel_rfl, by kernel_rfl⟩
theorem aX2 : AggT Try.prog 63 8 := ⟨by kernel_rfl, by kernel_rfl⟩
def zF : Array Value := #[.int .i64 0, .int .i64 0, .int .i64 0, .int .i64 0]
theorem zX1 : ZeroT Try.prog 27 zF := by unfold ZeroT; kernel_rfl
theorem oInt : OneT Try.prog 3 := by unfold OneT; kernel_rfl

set_option maxHeartbeats 1000000 in
set_option maxRecDepth 100000 in
theorem row_yes (tb pr : Nat) (h1 : 1 ≤ pr) (h2 : pr ≤ 4) (w : World) :
    Calls Try.prog 28 #[.pointer (some ⟨tb, 0, none⟩), .int .i64 pr] w fun e w' => e = .returned (.pointer (some ⟨tb, 8 * (pr - 1), none⟩)) ∧ w' = w := by
  rcases (by omega : pr = 1 ∨ pr = 2 ∨ pr = 3 ∨ pr = 4) with rfl | rfl | rfl | rfl
  · go_enter Try.func28, Try.ntmps28
    go_wp2
    go_ret
    exact ⟨rfl, rfl⟩
  · go_enter Try.func28, Try.ntmps28
    go_wp2
    go_ret
    exact ⟨rfl, rfl⟩
  · go_enter Try.func28, Try.ntmps28
    go_wp2
    go_ret
    exact ⟨rfl, rfl⟩
  · go_enter Try.func28, Try.ntmps28
    go_wp2
    go_ret
    exact ⟨rfl, rfl⟩

set_option maxHeartbeats 1000000 in
set_option maxRecDepth 100000 in
theorem row_no (a : Addr) (pr : Int) (h : ¬ (1 ≤ pr ∧ pr ≤ 4)) (w : World) :
    Calls Try.prog 28 #[.pointer (some a), .int .i64 pr] w fun e w' => e = .returned (.pointer none) ∧ w' = w := by
  by_cases c : pr < 1
  · have e1 : decide (pr < 1) = true := decide_eq_true c
    clear h
    go_enter Try.func28, Try.ntmps28
    go_wp2
    go_ret
    exact ⟨rfl, rfl⟩
  · have e1 : decide (pr < 1) = false := decide_eq_false c
    have e2 : decide (pr > 4) = true := decide_eq_true (by omega)
    clear h
    go_enter Try.func28, Try.ntmps28
    go_wp2
    go_ret
    exact ⟨rfl, rfl⟩

theorem row_nil (pr : Int) (w : World) :
    Calls Try.prog 28 #[.pointer none, .int .i64 pr] w fun e w' => e = .returned (.pointer none) ∧ w' = w := by
  go_enter Try.func28, Try.ntmps28
  go_wp2
  go_ret
  exact ⟨rfl, rfl⟩

/-- What Spare answers for the row that begins at o. -/
def spareF (p : Nat → Option Nat) (o : Nat) : Option Nat := (List.range 8).find? fun i => (p (o + i)).isNone
def spareV (x : Option Nat) : Value := match x with
  | some i => .tuple #[.int .i64 i, .int .i64 0]
  | none => .tuple #[.int .i64 0, .int .i64 24]
theorem spareF_some {p : Nat → Option Nat} {o k : Nat} (hk : k < 8) (h : p (o + k) = none) (hall : ∀ j, j < k → p (o + j) ≠ none) : spareF p o = some k := by
  unfold spareF
  rw [List.find?_eq_some_iff_getElem]
  refine ⟨by simp [h], k, by simpa using hk, by simp, fun j hj => ?_⟩
  have := hall j hj
  simp only [List.getElem_range]
  cases hp : p (o + j) with
  | none => exact absurd hp this
  | some g => rfl
theorem spareF_none {p : Nat → Option Nat} {o : Nat} (hall : ∀ j, j < 8 → p (o + j) ≠ none) : spareF p o = none := by
  unfold spareF
  rw [List.find?_eq_none]
  intro j hj
  have := hall j (by simpa using hj)
  cases hp : p (o + j) with
  | none => exact absurd hp this
  | some g => simp

set_option maxHeartbeats 1000000 in
set_option maxRecDepth 100000 in
theorem spare_yes (tb pr : Nat) (h1 : 1 ≤ pr) (h2 : pr ≤ 4) (p : Nat → Option Nat) (f : Nat → FileT) (w : World) (hT : Tab w tb p f) :
    Calls Try.prog 11 #[.pointer (some ⟨tb, 0, none⟩), .int .i64 pr] w fun e w' => e = .returned (spareV (spareF p (8 * (pr - 1)))) ∧ Below w.heap.size w w' := by
  obtain ⟨o, ho⟩ : ∃ o, 8 * (pr - 1) = o := ⟨_, rfl⟩
  have ho2 : o ≤ 24 := by omega
  have hR := fun w => row_yes tb pr h1 h2 w
  rw [ho] at hR ⊢
  clear ho h1 h2
  go_enter Try.func11, Try.ntmps11
  go_wp2_with (go_at_call 28; refine (hR _).mono ?_; rintro e w1 ⟨rfl, rfl⟩)
  go_loopw [15] (fun i wr => ∃ k : Nat, k ≤ 8 ∧ i = .int .i64 k ∧ Below w1.heap.size w1 wr ∧ ∀ j, j < k → p (o + j) ≠ none) (fun i _ => 8 - (intOf i).toNat)
  case atStart => exact ⟨0, by omega, rfl, Below.refl _ _, fun j hj => absurd hj (by omega)⟩
  case round =>
    obtain ⟨k, hk, rfl, hbw, hall⟩ := hrel
    by_cases h : k = 8
    · subst h
      go_wp2
      go_ret2
      rw [spareF_none hall]
      exact ⟨rfl, hbw⟩
    · have hlt : k < 8 := by omega
      have hlt' : (k : Int) < 8 := by omega
      have hc := (hT.ext hbw).cell (o + k) (by omega)
      have hkey := fun h => spareF_some (p := p) (o := o) hlt h hall
      have HK := Lib.hid (And.intro hkey hall)
      clear hkey hall
      cases hp : p (o + k) with
      | none =>
        rw [hp] at hc
        have hc' : wr.cell? ⟨tb, o + k, none⟩ = some (.pointer none) := hc
        clear hc
        go_wp2
        go_region
        go_wp2
        go_ret2
        rw [HK.out.1 hp]
        exact ⟨rfl, hbw.drew⟩
      | some g =>
        rw [hp] at hc
        have hc' : wr.cell? ⟨tb, o + k, none⟩ = some (.pointer (some ⟨g, 0, none⟩)) := hc
        clear hc
        go_wp2
        go_region
        go_wp2
        refine ⟨⟨k + 1, by omega, by simp, hbw.drew, fun j hj => ?_⟩, by simp only [intOf]; omega⟩
        rcases (by omega : j < k ∨ j = k) with h' | rfl
        · exact HK.out.2 j h'
        · rw [hp]; simp
end Go.Proofs.Ytfacegnnmgmjmaa
