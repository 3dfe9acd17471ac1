/- Arguments, opened: a page. -/
import Derived.Test.YtmnofoflbhdgjaaRows
import Derived.Test.YtmnofoflbhdgjaaPg
import Derived.ProofKit
import Derived.OpenShut
import Derived.SizedLaws
import Derived.Lib.SmallJoins
namespace Go.Proofs.Ytmnofoflbhdgjaa
open Go.ChangeShapes Go.WideShapes Go.ChangeAt Go.RowKit

theorem own : ownKnob Try.prog.godebug = none := by kernel_rfl
theorem laidOut : laidOutB Try.prog = true := by kernel_rfl
theorem Try.cellsPg : Try.prog.cellsOf 39 = 64 := by kernel_rfl
theorem Try.cellsU8 : Try.prog.cellsOf 5 = 1 := by kernel_rfl

theorem pgc_of {cs : List Value} (hl : cs.length = 64) (h : ∀ i, i < 64 → ∃ n, cs[i]? = some (.int .u8 n) ∧ (Lit.int .u8 n).wf = true) :
    ∃ p, cs.toArray = pgc p := by
  refine ⟨fun i => match cs[i]? with
    | some (.int _ n) => b8 n
    | _ => 0, ?_⟩
  apply Array.ext_getElem?
  intro i
  by_cases hi : i < 64
  · rw [pgc_get _ _ hi]
    obtain ⟨n, h1, h2⟩ := h i hi
    simp only [List.getElem?_toArray, h1, b8_nat]
    have : 0 ≤ n ∧ n ≤ 255 := bounds_u8 h2
    rw [Int.emod_eq_of_lt (by omega) (by omega)]
  · rw [Array.getElem?_eq_none (by simp; omega), Array.getElem?_eq_none (by rw [pgc_size]; omega)]

theorem pg_of_trod {H : Type} {enc : TypeId × Value → H} {W : World} {base : Nat} {spare : Nat → Bool} {held : Bool} {m : Nat} {cs : List Value} {x : DataW H × List MemPlace}
    (h : DataW.trod enc Try.prog W base spare held m 39 cs = some x) : ∃ p, cs.toArray = pgc p := by
  obtain ⟨xs, k, rfl, rfl, hlen, hxl, hi⟩ := DataW.trod_array Try.underlying39 h
  rw [Try.cellsPg] at hlen
  refine pgc_of hlen fun i hlt => ?_
  have h1 := hi i hlt
  rw [Try.cellsU8, Nat.mul_one, List.getElem?_eq_getElem (by omega)] at h1
  have h2 : (cs.drop i).take 1 = [cs[i]'(by omega)] := by
    rw [List.drop_eq_getElem_cons (by omega)]; rfl
  rw [h2] at h1
  obtain ⟨n, e0, -, wf⟩ := DataW.trod_int Try.underlying5 h1
  simp at e0
  refine ⟨n, ?_, wf⟩
  rw [List.getElem?_eq_getElem (by omega), e0]

set_option maxRecDepth 100000 in
theorem open_pg {H : Type} {enc : TypeId × Value → H} {W : World} {base b0 : Nat} {spare : Nat → Bool} {held : Bool} {r : Reach} {v : Value} {d : DataW H} {ps : List MemPlace}
    (hv : Value.okWide Try.prog W r b0 39 v) (h : DataW.Trod enc Try.prog W base spare held 39 v d ps) : ∃ p, v = .agg (pgc p) := by
  unfold Value.okWide at hv
  rw [Try.underlying39] at hv
  obtain ⟨cs, rfl, -, -⟩ := hv
  obtain ⟨m, h⟩ := h
  simp only [Value.cells] at h
  obtain ⟨p, hp⟩ := pg_of_trod h
  exact ⟨p, by rw [← hp]⟩
end Go.Proofs.Ytmnofoflbhdgjaa
