/- Arguments, opened: an inode. -/
import Derived.Test.YtmnofoflbhdgjaaOpen
import Derived.Test.YtmnofoflbhdgjaaIntC
namespace Go.Proofs.Ytmnofoflbhdgjaa
open Go.ChangeShapes Go.WideShapes Go.ChangeAt Go.RowKit

theorem nc_of {cs : List Value} {n : Nat} (hl : cs.length = n) (h : ∀ i, i < n → ∃ x, cs[i]? = some (.int .i64 x) ∧ (Lit.int .i64 x).wf = true) :
    ∃ f : Nat → Int, cs.toArray = nc n f ∧ ∀ i, i < n → (Lit.int .i64 (f i)).wf = true := by
  refine ⟨fun i => match cs[i]? with
    | some (.int _ x) => x
    | _ => 0, ?_, fun i hi => ?_⟩
  · apply Array.ext_getElem?
    intro i
    by_cases hi : i < n
    · rw [nc_get _ _ _ hi]
      obtain ⟨x, h1, h2⟩ := h i hi
      simp only [List.getElem?_toArray, h1]
    · rw [Array.getElem?_eq_none (by simp; omega), Array.getElem?_eq_none (by rw [nc_size]; omega)]
  · obtain ⟨x, h1, h2⟩ := h i hi
    simp only [h1, h2]

theorem take1 {cs : List Value} {o : Nat} {v : Value} (h : (cs.drop o).take 1 = [v]) : cs[o]? = some v := by
  have : ((cs.drop o).take 1)[0]? = some v := by rw [h]; rfl
  rw [List.getElem?_take_of_lt (by decide), List.getElem?_drop] at this
  simpa using this

theorem Try.cellsI : Try.prog.cellsOf 3 = 1 := by kernel_rfl
theorem Try.cellsA4 : Try.prog.cellsOf 40 = 4 := by kernel_rfl
theorem Try.cellsIno : Try.prog.cellsOf 42 = 11 := by kernel_rfl

section
variable {H : Type} {enc : TypeId × Value → H} {W : World} {base : Nat} {spare : Nat → Bool} {held : Bool}
theorem int_field {m o : Nat} {cs : List Value} {y : DataW H × List MemPlace} (h : DataW.trod enc Try.prog W base spare held m 3 ((cs.drop o).take 1) = some y) : ∃ x, cs[o]? = some (.int .i64 x) ∧ (Lit.int .i64 x).wf = true := by
  obtain ⟨x, e0, -, wf⟩ := DataW.trod_int Try.underlying3 h
  exact ⟨x, take1 e0, wf⟩

set_option maxRecDepth 100000 in
theorem ino_of_trod {m : Nat} {cs : List Value} {x : DataW H × List MemPlace} (h : DataW.trod enc Try.prog W base spare held m 42 cs = some x) : ∃ f : Nat → Int, cs.toArray = nc 11 f ∧ ∀ i, i < 11 → (Lit.int .i64 (f i)).wf = true := by
  obtain ⟨xs, n, rfl, rfl, hlen, hxl, hi⟩ := DataW.trod_struct Try.underlying42 h
  rw [Try.cellsIno] at hlen
  have hxl' : xs.length = 8 := hxl
  have some_of : ∀ i, i < 8 → ∃ y, xs[i]? = some y := fun i hi => ⟨_, List.getElem?_eq_getElem (by omega)⟩
  have g0 : DataW.trod enc Try.prog W base spare held n 3 ((cs.drop 0).take (Try.prog.cellsOf 3)) = xs[0]? := hi 0 _ rfl
  rw [Try.cellsI] at g0
  have g1 : DataW.trod enc Try.prog W base spare held n 3 ((cs.drop 1).take (Try.prog.cellsOf 3)) = xs[1]? := hi 1 _ rfl
  rw [Try.cellsI] at g1
  have g2 : DataW.trod enc Try.prog W base spare held n 3 ((cs.drop 2).take (Try.prog.cellsOf 3)) = xs[2]? := hi 2 _ rfl
  rw [Try.cellsI] at g2
  have g3 : DataW.trod enc Try.prog W base spare held n 3 ((cs.drop 3).take (Try.prog.cellsOf 3)) = xs[3]? := hi 3 _ rfl
  rw [Try.cellsI] at g3
  have g4 : DataW.trod enc Try.prog W base spare held n 3 ((cs.drop 4).take (Try.prog.cellsOf 3)) = xs[4]? := hi 4 _ rfl
  rw [Try.cellsI] at g4
  have g5 : DataW.trod enc Try.prog W base spare held n 40 ((cs.drop 5).take (Try.prog.cellsOf 40)) = xs[5]? := hi 5 _ rfl
  rw [Try.cellsA4] at g5
  have g6 : DataW.trod enc Try.prog W base spare held n 3 ((cs.drop 9).take (Try.prog.cellsOf 3)) = xs[6]? := hi 6 _ rfl
  rw [Try.cellsI] at g6
  have g7 : DataW.trod enc Try.prog W base spare held n 3 ((cs.drop 10).take (Try.prog.cellsOf 3)) = xs[7]? := hi 7 _ rfl
  rw [Try.cellsI] at g7
  obtain ⟨y0, e0⟩ := some_of 0 (by decide)
  obtain ⟨y1, e1⟩ := some_of 1 (by decide)
  obtain ⟨y2, e2⟩ := some_of 2 (by decide)
  obtain ⟨y3, e3⟩ := some_of 3 (by decide)
  obtain ⟨y4, e4⟩ := some_of 4 (by decide)
  obtain ⟨y5, e5⟩ := some_of 5 (by decide)
  obtain ⟨y6, e6⟩ := some_of 6 (by decide)
  obtain ⟨y7, e7⟩ := some_of 7 (by decide)
  have k0 := int_field (g0.trans e0)
  have k1 := int_field (g1.trans e1)
  have k2 := int_field (g2.trans e2)
  have k3 := int_field (g3.trans e3)
  have k4 := int_field (g4.trans e4)
  have k6 := int_field (g6.trans e6)
  have k7 := int_field (g7.trans e7)
  have karr : ∀ j, j < 4 → ∃ x, cs[5 + j]? = some (.int .i64 x) ∧ (Lit.int .i64 x).wf = true := fun j hj => by
    obtain ⟨ys, k, -, -, hlen2, hyl, hi2⟩ := DataW.trod_array Try.underlying40 (g5.trans e5)
    have h1 := hi2 j hj
    rw [Try.cellsI, Nat.mul_one, List.getElem?_eq_getElem (by omega)] at h1
    obtain ⟨x, h2, h3⟩ := int_field h1
    rw [List.getElem?_take_of_lt hj, List.getElem?_drop] at h2
    exact ⟨x, h2, h3⟩
  refine nc_of hlen fun i hi' => ?_
  rcases (by omega : i = 0 ∨ i = 1 ∨ i = 2 ∨ i = 3 ∨ i = 4 ∨ i = 5 ∨ i = 6 ∨ i = 7 ∨ i = 8 ∨ i = 9 ∨ i = 10) with rfl | rfl | rfl | rfl | rfl | rfl | rfl | rfl | rfl | rfl | rfl
  · exact k0
  · exact k1
  · exact k2
  · exact k3
  · exact k4
  · exact karr 0 (by decide)
  · exact karr 1 (by decide)
  · exact karr 2 (by decide)
  · exact karr 3 (by decide)
  · exact k6
  · exact k7

set_option maxRecDepth 100000 in
theorem open_ino {b0 : Nat} {r : Reach} {v : Value} {d : DataW H} {ps : List MemPlace}
    (hv : Value.okWide Try.prog W r b0 42 v) (h : DataW.Trod enc Try.prog W base spare held 42 v d ps) : ∃ f : Nat → Int, v = .agg (nc 11 f) ∧ ∀ i, i < 11 → (Lit.int .i64 (f i)).wf = true := by
  unfold Value.okWide at hv
  rw [Try.underlying42] at hv
  obtain ⟨cs, rfl, -, -⟩ := hv
  obtain ⟨m, h⟩ := h
  simp only [Value.cells] at h
  obtain ⟨f, hf, hw⟩ := ino_of_trod h
  exact ⟨f, by rw [← hf], hw⟩
end
end Go.Proofs.Ytmnofoflbhdgjaa
