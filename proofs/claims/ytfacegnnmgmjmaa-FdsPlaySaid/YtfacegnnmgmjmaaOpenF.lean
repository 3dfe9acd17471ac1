/- Arguments, opened: an Op of chapter 28. -/
import Derived.Test.YtfacegnnmgmjmaaOpenB
import Derived.Test.YtfacegnnmgmjmaaFdsG
namespace Go.Proofs.Ytfacegnnmgmjmaa
open Go.ChangeShapes Go.WideShapes Go.ChangeAt Go.RowKit

theorem Try.cellsI : Try.prog.cellsOf 3 = 1 := by kernel_rfl
theorem Try.cellsFl : Try.prog.cellsOf 27 = 4 := by kernel_rfl
theorem Try.cellsOp : Try.prog.cellsOf 29 = 8 := by kernel_rfl
theorem takeAt {cs : List Value} {o n i : Nat} {v : Value} (h : ((cs.drop o).take n)[i]? = some v) : cs[o + i]? = some v := by
  rw [List.getElem?_take] at h
  split at h
  · rwa [List.getElem?_drop] at h
  · cases h

section
variable {H : Type} {enc : TypeId × Value → H} {W : World} {base : Nat} {spare : Nat → Bool} {held : Bool}
set_option maxRecDepth 100000 in
theorem file_of_trod {m : Nat} {cs : List Value} {x : DataW H × List MemPlace} (h : DataW.trod enc Try.prog W base spare held m 27 cs = some x) : ∀ i : Nat, i < 4 → ∃ q : Int, cs[i]? = some (.int .i64 q) := by
  obtain ⟨xs, n, rfl, rfl, hlen, hxl, hi⟩ := DataW.trod_struct Try.underlying27 h
  have hxl' : xs.length = 4 := hxl
  intro i hi4
  have g : DataW.trod enc Try.prog W base spare held n 3 ((cs.drop i).take (Try.prog.cellsOf 3)) = xs[i]? := by
    rcases (by omega : i = 0 ∨ i = 1 ∨ i = 2 ∨ i = 3) with rfl | rfl | rfl | rfl
    · exact hi 0 _ rfl
    · exact hi 1 _ rfl
    · exact hi 2 _ rfl
    · exact hi 3 _ rfl
  rw [Try.cellsI, List.getElem?_eq_getElem (by omega)] at g
  obtain ⟨q, k0, -, -⟩ := DataW.trod_int Try.underlying3 g
  exact ⟨q, by have := takeAt (n := 1) (i := 0) (o := i) (cs := cs) (v := .int .i64 q) (by rw [k0]; rfl); simpa using this⟩

set_option maxRecDepth 100000 in
theorem op_of_trod {m : Nat} {cs : List Value} {x : DataW H × List MemPlace} (h : DataW.trod enc Try.prog W base spare held m 29 cs = some x) : cs.length = 8 ∧ ∀ i : Nat, i < 8 → ∃ q : Int, cs[i]? = some (.int .i64 q) := by
  obtain ⟨xs, n, rfl, rfl, hlen, hxl, hi⟩ := DataW.trod_struct Try.underlying29 h
  rw [Try.cellsOp] at hlen
  have hxl' : xs.length = 5 := hxl
  refine ⟨hlen, fun i hi8 => ?_⟩
  by_cases h4 : i < 4
  · have g : DataW.trod enc Try.prog W base spare held n 3 ((cs.drop i).take (Try.prog.cellsOf 3)) = xs[i]? := by
      rcases (by omega : i = 0 ∨ i = 1 ∨ i = 2 ∨ i = 3) with rfl | rfl | rfl | rfl
      · exact hi 0 _ rfl
      · exact hi 1 _ rfl
      · exact hi 2 _ rfl
      · exact hi 3 _ rfl
    rw [Try.cellsI, List.getElem?_eq_getElem (by omega)] at g
    obtain ⟨q, k0, -, -⟩ := DataW.trod_int Try.underlying3 g
    exact ⟨q, by have := takeAt (n := 1) (i := 0) (o := i) (cs := cs) (v := .int .i64 q) (by rw [k0]; rfl); simpa using this⟩
  · have g : DataW.trod enc Try.prog W base spare held n 27 ((cs.drop 4).take (Try.prog.cellsOf 27)) = xs[4]? := hi 4 _ rfl
    rw [List.getElem?_eq_getElem (by omega)] at g
    obtain ⟨q, hq⟩ := file_of_trod g (i - 4) (by omega)
    exact ⟨q, by have := takeAt hq; rwa [show 4 + (i - 4) = i from by omega] at this⟩

set_option maxRecDepth 100000 in
theorem open_op {b0 : Nat} {r : Reach} {v : Value} {d : DataW H} {ps : List MemPlace}
    (hv : Value.okWide Try.prog W r b0 29 v) (h : DataW.Trod enc Try.prog W base spare held 29 v d ps) : ∃ k pr fd n x, v = .agg (opc k pr fd n x) := by
  unfold Value.okWide at hv
  rw [Try.underlying29] at hv
  obtain ⟨cs, rfl, -, -⟩ := hv
  obtain ⟨m, h⟩ := h
  simp only [Value.cells] at h
  obtain ⟨hl, hc⟩ := op_of_trod h
  obtain ⟨q0, c0⟩ := hc 0 (by decide)
  obtain ⟨q1, c1⟩ := hc 1 (by decide)
  obtain ⟨q2, c2⟩ := hc 2 (by decide)
  obtain ⟨q3, c3⟩ := hc 3 (by decide)
  obtain ⟨q4, c4⟩ := hc 4 (by decide)
  obtain ⟨q5, c5⟩ := hc 5 (by decide)
  obtain ⟨q6, c6⟩ := hc 6 (by decide)
  obtain ⟨q7, c7⟩ := hc 7 (by decide)
  refine ⟨q0, q1, q2, q3, (q4, q5, q6, q7), ?_⟩
  congr 1
  apply Array.ext_getElem?
  intro i
  by_cases hi : i < 8
  · rw [← Array.getElem?_toList]
    rcases (by omega : i = 0 ∨ i = 1 ∨ i = 2 ∨ i = 3 ∨ i = 4 ∨ i = 5 ∨ i = 6 ∨ i = 7) with rfl | rfl | rfl | rfl | rfl | rfl | rfl | rfl
    · rw [c0]; rfl
    · rw [c1]; rfl
    · rw [c2]; rfl
    · rw [c3]; rfl
    · rw [c4]; rfl
    · rw [c5]; rfl
    · rw [c6]; rfl
    · rw [c7]; rfl
  · rw [Array.getElem?_eq_none (by rw [← Array.length_toList, hl]; omega), Array.getElem?_eq_none (by show 8 ≤ i; omega)]
end
end Go.Proofs.Ytfacegnnmgmjmaa
