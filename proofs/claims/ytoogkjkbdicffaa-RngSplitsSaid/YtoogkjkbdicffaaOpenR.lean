/- Arguments, opened: ranges, and pairs of numbers with their ranges. -/
import Derived.Test.YtoogkjkbdicffaaOpenB
import Derived.Test.YtoogkjkbdicffaaRngM
namespace Go.Proofs.Ytoogkjkbdicffaa
open Go.ChangeShapes Go.WideShapes Go.ChangeAt Go.RowKit

theorem Try.cellsI : Try.prog.cellsOf 3 = 1 := by kernel_rfl
theorem Try.cellsRg : Try.prog.cellsOf 23 = 2 := by kernel_rfl
theorem Try.cellsPr : Try.prog.cellsOf 25 = 6 := by kernel_rfl
theorem i64_of {q : Int} (h : (Lit.int .i64 q).wf = true) : I64 q := bounds_i64 h
theorem takeAt {cs : List Value} {o n i : Nat} {v : Value} (h : ((cs.drop o).take n)[i]? = some v) : cs[o + i]? = some v := by
  rw [List.getElem?_take] at h
  split at h
  · rwa [List.getElem?_drop] at h
  · cases h
section
variable {H : Type} {enc : TypeId × Value → H} {W : World} {base : Nat} {spare : Nat → Bool} {held : Bool}
set_option maxRecDepth 100000 in
theorem rg_of_trod {m : Nat} {cs : List Value} {x : DataW H × List MemPlace} (h : DataW.trod enc Try.prog W base spare held m 23 cs = some x) : cs.length = 2 ∧ ∀ i : Nat, i < 2 → ∃ q : Int, cs[i]? = some (.int .i64 q) ∧ I64 q := by
  obtain ⟨xs, n, rfl, rfl, hlen, hxl, hi⟩ := DataW.trod_struct Try.underlying23 h
  rw [Try.cellsRg] at hlen
  have hxl' : xs.length = 2 := hxl
  refine ⟨hlen, fun i hi4 => ?_⟩
  have g : DataW.trod enc Try.prog W base spare held n 3 ((cs.drop i).take (Try.prog.cellsOf 3)) = xs[i]? := by
    rcases (by omega : i = 0 ∨ i = 1) with rfl | rfl
    · exact hi 0 _ rfl
    · exact hi 1 _ rfl
  rw [Try.cellsI, List.getElem?_eq_getElem (by omega)] at g
  obtain ⟨q, k0, -, hw⟩ := DataW.trod_int Try.underlying3 g
  exact ⟨q, by have := takeAt (n := 1) (i := 0) (o := i) (cs := cs) (v := .int .i64 q) (by rw [k0]; rfl); simpa using this, i64_of hw⟩
set_option maxRecDepth 100000 in
theorem pair_of_trod {m : Nat} {cs : List Value} {x : DataW H × List MemPlace} (h : DataW.trod enc Try.prog W base spare held m 25 cs = some x) : cs.length = 6 ∧ ∀ i : Nat, i < 6 → ∃ q : Int, cs[i]? = some (.int .i64 q) ∧ I64 q := by
  obtain ⟨xs, n, rfl, rfl, hlen, hxl, hi⟩ := DataW.trod_struct Try.underlying25 h
  rw [Try.cellsPr] at hlen
  have hxl' : xs.length = 4 := hxl
  refine ⟨hlen, fun i hi6 => ?_⟩
  by_cases h2 : i < 2
  · have g : DataW.trod enc Try.prog W base spare held n 23 ((cs.drop 0).take (Try.prog.cellsOf 23)) = xs[0]? := hi 0 _ rfl
    rw [List.getElem?_eq_getElem (by omega)] at g
    obtain ⟨q, hq, hw⟩ := (rg_of_trod g).2 i h2
    exact ⟨q, by have := takeAt hq; rwa [show 0 + i = i from by omega] at this, hw⟩
  · by_cases h4 : i < 4
    · have g : DataW.trod enc Try.prog W base spare held n 23 ((cs.drop 2).take (Try.prog.cellsOf 23)) = xs[1]? := hi 1 _ rfl
      rw [List.getElem?_eq_getElem (by omega)] at g
      obtain ⟨q, hq, hw⟩ := (rg_of_trod g).2 (i - 2) (by omega)
      exact ⟨q, by have := takeAt hq; rwa [show 2 + (i - 2) = i from by omega] at this, hw⟩
    · have g : DataW.trod enc Try.prog W base spare held n 3 ((cs.drop i).take (Try.prog.cellsOf 3)) = xs[i - 2]? := by
        rcases (by omega : i = 4 ∨ i = 5) with rfl | rfl
        · exact hi 2 _ rfl
        · exact hi 3 _ rfl
      rw [Try.cellsI, List.getElem?_eq_getElem (by omega)] at g
      obtain ⟨q, k0, -, hw⟩ := DataW.trod_int Try.underlying3 g
      exact ⟨q, by have := takeAt (n := 1) (i := 0) (o := i) (cs := cs) (v := .int .i64 q) (by rw [k0]; rfl); simpa using this, i64_of hw⟩
theorem list2 {cs : List Value} {a b : Value} (hl : cs.length = 2) (h0 : cs[0]? = some a) (h1 : cs[1]? = some b) : cs = [a, b] := by
  match cs, hl with
  | [x, y], _ => simp at h0 h1; rw [h0, h1]
theorem list6 {cs : List Value} {a b c d e f : Value} (hl : cs.length = 6) (h0 : cs[0]? = some a) (h1 : cs[1]? = some b) (h2 : cs[2]? = some c) (h3 : cs[3]? = some d) (h4 : cs[4]? = some e) (h5 : cs[5]? = some f) : cs = [a, b, c, d, e, f] := by
  match cs, hl with
  | [x0, x1, x2, x3, x4, x5], _ => simp at h0 h1 h2 h3 h4 h5; rw [h0, h1, h2, h3, h4, h5]
set_option maxRecDepth 100000 in
theorem open_rg {b0 : Nat} {r : Reach} {v : Value} {d : DataW H} {ps : List MemPlace}
    (hv : Value.okWide Try.prog W r b0 23 v) (h : DataW.Trod enc Try.prog W base spare held 23 v d ps) : ∃ a b, v = .agg #[.int .i64 a, .int .i64 b] ∧ I64 a ∧ I64 b := by
  unfold Value.okWide at hv
  rw [Try.underlying23] at hv
  obtain ⟨cs, rfl, -, -⟩ := hv
  obtain ⟨m, h⟩ := h
  obtain ⟨hl, hq⟩ := rg_of_trod h
  obtain ⟨a, h0, w0⟩ := hq 0 (by decide)
  obtain ⟨b, h1, w1⟩ := hq 1 (by decide)
  have := list2 hl h0 h1
  exact ⟨a, b, by rw [← Array.toArray_toList (xs := cs)]; exact congrArg (fun l => Value.agg l.toArray) this, w0, w1⟩
set_option maxRecDepth 100000 in
theorem open_pair {b0 : Nat} {r : Reach} {v : Value} {d : DataW H} {ps : List MemPlace}
    (hv : Value.okWide Try.prog W r b0 25 v) (h : DataW.Trod enc Try.prog W base spare held 25 v d ps) : ∃ a b c d x y, v = .agg #[.int .i64 a, .int .i64 b, .int .i64 c, .int .i64 d, .int .i64 x, .int .i64 y] ∧ I64 a ∧ I64 b ∧ I64 c ∧ I64 d := by
  unfold Value.okWide at hv
  rw [Try.underlying25] at hv
  obtain ⟨cs, rfl, -, -⟩ := hv
  obtain ⟨m, h⟩ := h
  obtain ⟨hl, hq⟩ := pair_of_trod h
  obtain ⟨a, h0, w0⟩ := hq 0 (by decide)
  obtain ⟨b, h1, w1⟩ := hq 1 (by decide)
  obtain ⟨c, h2, w2⟩ := hq 2 (by decide)
  obtain ⟨d, h3, w3⟩ := hq 3 (by decide)
  obtain ⟨x, h4, -⟩ := hq 4 (by decide)
  obtain ⟨y, h5, -⟩ := hq 5 (by decide)
  have := list6 hl h0 h1 h2 h3 h4 h5
  exact ⟨a, b, c, d, x, y, by rw [← Array.toArray_toList (xs := cs)]; exact congrArg (fun l => Value.agg l.toArray) this, w0, w1, w2, w3⟩
end
end Go.Proofs.Ytoogkjkbdicffaa
