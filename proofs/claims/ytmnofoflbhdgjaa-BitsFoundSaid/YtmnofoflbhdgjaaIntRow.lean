/- Own rows of numbers. -/
import Derived.Test.YtmnofoflbhdgjaaIntSl
import Derived.Test.YtmnofoflbhdgjaaProg
import Derived.Laws.AppendOwn
import Derived.Laws.OwnMore
import Derived.OwnWalk
namespace Go.Proofs.Ytmnofoflbhdgjaa
open Go.RowKit

theorem intInfo : (Try.prog.info? 3).map (fun i => (i.zero, i.size, i.bytes)) = some (some (.int .i64 0), 1, 8) := by kernel_rfl
def IntRow (w : World) (B : Nat) (v : Value) (l : List Int) : Prop := w.ownsRow B 3 1 v l.length (l.map fun x => .int .i64 x)
theorem IntRow.below {w w' : World} {B : Nat} {v : Value} {l : List Int} (h : IntRow w B v l) (hb : Below w.heap.size w w') : IntRow w' B v l := by
  refine ⟨h.1, ?_⟩
  rcases h.2 with hn | ⟨g, cap, cur, rfl, h1, h2, rest⟩
  · exact .inl hn
  · exact .inr ⟨g, cap, cur, rfl, h1, blk_of hb h2, rest⟩
theorem IntRow.slice {w : World} {B : Nat} {v : Value} {l : List Int} (h : IntRow w B v l) : ∃ a cap, v = .slice a l.length cap ∧ l.length ≤ cap ∧ IntSl w a l := by
  rcases h.2 with ⟨rfl, h0⟩ | ⟨g, cap, cur, rfl, h1, h2, h3, h4, h5, h6⟩
  · have : l = [] := List.eq_nil_of_length_eq_zero h0
    subst this
    exact ⟨none, 0, rfl, Nat.le_refl _, fun j hj => by simp at hj⟩
  · refine ⟨some ⟨g, 0, none⟩, cap, rfl, h3, fun j hj => ⟨_, rfl, ?_, lt_of_blk h2⟩⟩
    have hc := h.cells (g := g) rfl j (.int .i64 l[j]) (by simp [hj])
    exact hc
theorem IntRow.nil (w : World) (B : Nat) : IntRow w B (.slice none 0 0) [] := ⟨rfl, .inl ⟨rfl, rfl⟩⟩
theorem IntRow.none (w : World) (B : Nat) (hb : B ≤ w.heap.size) : IntRow (w.alloc (.cells #[] 3)) B (.slice (some ⟨w.heap.size, 0, none⟩) 0 0) [] :=
  World.ownsRow_lit w #[] 0 hb (by unfold maxLen; omega) rfl
end Go.Proofs.Ytmnofoflbhdgjaa
