/- Chapter 28, the reference's table: 160 cells. -/
import Derived.Test.YtfacegnnmgmjmaaFdsI
import Derived.Laws.CopyRow
namespace Go.Proofs.Ytfacegnnmgmjmaa
open Go.RowKit
set_option linter.unusedSimpArgs false
set_option linter.unusedVariables false

/-- What the places have. -/
abbrev QT := Nat → Option FileT
def fcell (o : Option FileT) (j : Nat) : Value := match o with
  | none => if j = 4 then .bool false else .int .i64 0
  | some x => if j = 0 then .int .i64 x.1 else if j = 1 then .int .i64 x.2.1 else if j = 2 then .int .i64 x.2.2.1 else if j = 3 then .int .i64 x.2.2.2 else .bool true
def rfv (o : Option FileT) : Array Value := #[fcell o 0, fcell o 1, fcell o 2, fcell o 3, fcell o 4]
theorem rfv_get (o : Option FileT) (j : Nat) (h : j < 5) : (rfv o)[j]? = some (fcell o j) := by
  rcases (by omega : j = 0 ∨ j = 1 ∨ j = 2 ∨ j = 3 ∨ j = 4) with rfl | rfl | rfl | rfl | rfl <;> rfl
theorem rfv_some (x : FileT) : rfv (some x) = #[.int .i64 x.1, .int .i64 x.2.1, .int .i64 x.2.2.1, .int .i64 x.2.2.2, .bool true] := rfl
theorem rfv_none : rfv none = #[.int .i64 0, .int .i64 0, .int .i64 0, .int .i64 0, .bool false] := rfl
@[irreducible] def qc (q : QT) : Array Value := ((List.range 160).map fun i => fcell (q (i / 5)) (i % 5)).toArray
theorem qc_size (q : QT) : (qc q).size = 160 := by unfold qc; simp
theorem qc_get (q : QT) (i : Nat) (h : i < 160) : (qc q)[i]? = some (fcell (q (i / 5)) (i % 5)) := by
  unfold qc
  rw [List.getElem?_toArray, List.getElem?_map, List.getElem?_range h]; rfl
theorem qc_at (q : QT) (s j : Nat) (hs : s < 32) (hj : j < 5) : (qc q)[5 * s + j]? = some (fcell (q s) j) := by
  rw [qc_get q _ (by omega), show (5 * s + j) / 5 = s from by omega, show (5 * s + j) % 5 = j from by omega]
def updQ (q : QT) (s : Nat) (o : Option FileT) (k : Nat) : Option FileT := if k = s then o else q k
theorem qc_store (q : QT) (s : Nat) (o : Option FileT) (hs : s < 32) : ((qc q).toList.take (5 * s) ++ (rfv o).toList ++ (qc q).toList.drop (5 * s + 5)).toArray = qc (updQ q s o) := by
  have hl : (qc q).toList.length = 160 := by rw [Array.length_toList, qc_size]
  have hz := qc_size q
  apply Array.ext_getElem?
  intro i
  rw [List.getElem?_toArray]
  by_cases h1 : i < 5 * s
  · rw [List.append_assoc, List.getElem?_append_left (by rw [List.length_take]; omega), List.getElem?_take_of_lt h1, Array.getElem?_toList, qc_get q i (by omega), qc_get _ i (by omega), updQ, if_neg (by omega)]
  · by_cases h2 : i < 5 * s + 5
    · rw [List.getElem?_append_left (by rw [List.length_append, List.length_take, Array.length_toList]; show i < _ + 5; omega), List.getElem?_append_right (by rw [List.length_take]; omega), List.length_take, Array.getElem?_toList]
      rw [rfv_get o _ (by omega), qc_get _ i (by omega), updQ, if_pos (by omega)]
      congr 2
      omega
    · rw [List.getElem?_append_right (by rw [List.length_append, List.length_take, Array.length_toList]; show _ + 5 ≤ i; omega), List.length_append, List.length_take, Array.length_toList, List.getElem?_drop, Array.getElem?_toList]
      rw [show 5 * s + 5 + (i - (min (5 * s) (qc q).size + (rfv o).toList.length)) = i from by show 5 * s + 5 + (i - (min (5 * s) (qc q).size + 5)) = i; omega]
      by_cases h3 : i < 160
      · rw [qc_get q i h3, qc_get _ i h3, updQ, if_neg (by omega)]
      · rw [Array.getElem?_eq_none (by rw [qc_size]; omega), Array.getElem?_eq_none (by rw [qc_size]; omega)]
theorem qc_off (q : QT) (s : Nat) (x : FileT) (off : Int) (hs : s < 32) (hq : q s = some x) : (qc q).setIfInBounds (5 * s + 2) (.int .i64 off) = qc (updQ q s (some (x.1, x.2.1, off, x.2.2.2))) := by
  apply Array.ext_getElem?
  intro i
  rw [Array.getElem?_setIfInBounds, qc_size]
  by_cases h3 : i < 160
  · rw [qc_get q i h3, qc_get _ i h3, updQ]
    by_cases h1 : 5 * s + 2 = i
    · subst h1
      rw [if_pos rfl, if_pos h3, if_pos (by omega), show (5 * s + 2) % 5 = 2 from by omega]
      rfl
    · rw [if_neg h1]
      by_cases h2 : i / 5 = s
      · rw [if_pos h2, h2, hq]
        have : i % 5 ≠ 2 := by omega
        have h5 : i % 5 < 5 := Nat.mod_lt _ (by decide)
        generalize i % 5 = j at *
        rcases (by omega : j = 0 ∨ j = 1 ∨ j = 3 ∨ j = 4) with rfl | rfl | rfl | rfl <;> rfl
      · rw [if_neg h2]
  · rw [Array.getElem?_eq_none (by rw [qc_size]; omega), Array.getElem?_eq_none (by rw [qc_size]; omega)]
    split
    · rw [if_neg (by omega)]
    · rfl
/-- The reference's table lies in block rb. -/
def RTab (w : World) (rb : Nat) (q : QT) : Prop := w.heap[rb]? = some (.cells (qc q) 47 (0, 0))
theorem RTab.ext {w w' : World} {rb : Nat} {q : QT} (h : RTab w rb q) (hb : Below w.heap.size w w') : RTab w' rb q := blk_of hb h
theorem RTab.cell {w : World} {rb : Nat} {q : QT} (h : RTab w rb q) (s j : Nat) (hs : s < 32) (hj : j < 5) : w.cell? ⟨rb, 5 * s + j, none⟩ = some (fcell (q s) j) :=
  (cell_of_row w rb _ _ _ _ h).trans (qc_at q s j hs hj)
theorem aX5 : AggT Try.prog 43 5 := ⟨by kernel_rfl, by kernel_rfl⟩
theorem zX5 : ZeroT Try.prog 43 (rfv none) := by unfold ZeroT; kernel_rfl
theorem rfv_size (o : Option FileT) : (rfv o).size = 5 := rfl
theorem fcell_one (o : Option FileT) (j : Nat) : (fcell o j).oneCell' = true := by
  cases o <;> unfold fcell <;> (repeat' split) <;> rfl
theorem rfv_one (o : Option FileT) : (rfv o).all (·.oneCell') = true := by
  simp [rfv, fcell_one]
theorem qc_zero : qc (fun _ => none) = ((List.replicate 32 (rfv none).toList).flatten).toArray := by
  unfold qc
  rfl
end Go.Proofs.Ytfacegnnmgmjmaa
