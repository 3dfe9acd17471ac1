/- Arguments, opened: a Value of chapter 17. -/
import Derived.Test.YteohokidlopbnaaOpenB
import Derived.Test.YteohokidlopbnaaMapA
namespace Go.Proofs.Yteohokidlopbnaa
open Go.ChangeShapes Go.WideShapes Go.ChangeAt Go.RowKit

theorem Try.cellsI : Try.prog.cellsOf 3 = 1 := by kernel_rfl
theorem Try.cellsV : Try.prog.cellsOf 30 = 4 := by kernel_rfl
theorem vvs_of {cs : List Value} (hl : cs.length = 4) (h : ∀ i, i < 4 → ∃ n, cs[i]? = some (.int .i64 n)) : ∃ v, cs.toArray = vvs v := by
  obtain ⟨a, h0⟩ := h 0 (by decide)
  obtain ⟨b, h1⟩ := h 1 (by decide)
  obtain ⟨c, h2⟩ := h 2 (by decide)
  obtain ⟨d, h3⟩ := h 3 (by decide)
  refine ⟨(a, b, c, d), ?_⟩
  apply Array.ext_getElem?
  intro i
  by_cases hi : i < 4
  · rcases (by omega : i = 0 ∨ i = 1 ∨ i = 2 ∨ i = 3) with rfl | rfl | rfl | rfl
    · simp only [List.getElem?_toArray, h0]; rfl
    · simp only [List.getElem?_toArray, h1]; rfl
    · simp only [List.getElem?_toArray, h2]; rfl
    · simp only [List.getElem?_toArray, h3]; rfl
  · rw [Array.getElem?_eq_none (by simp; omega), Array.getElem?_eq_none (by rw [vvs_size]; omega)]
section
variable {H : Type} {enc : TypeId × Value → H} {W : World} {base : Nat} {spare : Nat → Bool} {held : Bool}
theorem val_of_trod {m : Nat} {cs : List Value} {x : DataW H × List MemPlace} (h : DataW.trod enc Try.prog W base spare held m 30 cs = some x) : ∃ v, cs.toArray = vvs v := by
  obtain ⟨xs, k, rfl, rfl, hlen, hxl, hi⟩ := DataW.trod_array Try.underlying30 h
  rw [Try.cellsV] at hlen
  refine vvs_of hlen fun i hlt => ?_
  have h1 := hi i hlt
  rw [Try.cellsI, Nat.mul_one, List.getElem?_eq_getElem (by omega)] at h1
  have h2 : (cs.drop i).take 1 = [cs[i]'(by omega)] := by
    rw [List.drop_eq_getElem_cons (by omega)]; rfl
  rw [h2] at h1
  obtain ⟨n, e0, -, wf⟩ := DataW.trod_int Try.underlying3 h1
  simp at e0
  refine ⟨n, ?_⟩
  rw [List.getElem?_eq_getElem (by omega), e0]
set_option maxRecDepth 100000 in
theorem open_val {b0 : Nat} {r : Reach} {v : Value} {d : DataW H} {ps : List MemPlace}
    (hv : Value.okWide Try.prog W r b0 30 v) (h : DataW.Trod enc Try.prog W base spare held 30 v d ps) : ∃ x, v = .agg (vvs x) := by
  unfold Value.okWide at hv
  rw [Try.underlying30] at hv
  obtain ⟨cs, rfl, -, -⟩ := hv
  obtain ⟨m, h⟩ := h
  simp only [Value.cells] at h
  obtain ⟨p, hp⟩ := val_of_trod h
  exact ⟨p, by rw [← hp]⟩
end
end Go.Proofs.Yteohokidlopbnaa
