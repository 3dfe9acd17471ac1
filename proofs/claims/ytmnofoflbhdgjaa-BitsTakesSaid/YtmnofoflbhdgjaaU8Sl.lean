/- A slice of bytes, as numbers. -/
import Derived.Test.YtmnofoflbhdgjaaSeq
import Derived.WalkKit
import Derived.Deep.MidRow
namespace Go.Proofs.Ytmnofoflbhdgjaa
open Go.RowKit

/-- The bytes of a slice. -/
def U8Sl (w : World) (a : Option Addr) (l : List Int) : Prop := ∀ (j : Nat) (h : j < l.length), ∃ x, a = some x ∧ w.cell? (x.add j) = some (.int .u8 l[j]) ∧ x.block < w.heap.size
theorem U8Sl.ext {w w' : World} {a : Option Addr} {l : List Int} (h : U8Sl w a l) (hb : Below w.heap.size w w') : U8Sl w' a l := fun j hj => by
  obtain ⟨x, rfl, h1, h2⟩ := h j hj
  refine ⟨x, rfl, (hb.cell (p := x.add j) (by unfold Addr.add; split <;> exact h2)).trans h1, Nat.lt_of_lt_of_le h2 hb.size⟩
end Go.Proofs.Ytmnofoflbhdgjaa
