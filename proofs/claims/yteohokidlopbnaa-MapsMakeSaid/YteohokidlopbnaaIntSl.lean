/- A slice of numbers. -/
import Derived.Test.YteohokidlopbnaaSeq
import Derived.WalkKit
import Derived.Deep.MidRow
namespace Go.Proofs.Yteohokidlopbnaa
open Go.RowKit

/-- The numbers of a slice. -/
def IntSl (w : World) (a : Option Addr) (l : List Int) : Prop := ∀ (j : Nat) (h : j < l.length), ∃ x, a = some x ∧ w.cell? (x.add j) = some (.int .i64 l[j]) ∧ x.block < w.heap.size
theorem IntSl.ext {w w' : World} {a : Option Addr} {l : List Int} (h : IntSl w a l) (hb : Below w.heap.size w w') : IntSl w' a l := fun j hj => by
  obtain ⟨x, rfl, h1, h2⟩ := h j hj
  refine ⟨x, rfl, (hb.cell (p := x.add j) (by unfold Addr.add; split <;> exact h2)).trans h1, Nat.lt_of_lt_of_le h2 hb.size⟩

theorem intSl_of {w : World} {g : Nat} {cs : Array Value} {T : TypeId} {fr : Nat × Nat} (hg : w.heap[g]? = some (.cells cs T fr)) (l : List Int) (h : cs = (l.map fun x => Value.int .i64 x).toArray) : IntSl w (some ⟨g, 0, none⟩) l := by
  subst h
  intro j hj
  refine ⟨_, rfl, ?_, lt_of_blk hg⟩
  rw [Addr.add_mid, cell_of_row w g _ _ _ _ hg]
  simp [hj]

end Go.Proofs.Yteohokidlopbnaa
