/- Rows of pages that the call owns. -/
import Derived.Test.YtmnofoflbhdgjaaPgSl
import Derived.Maps.AppendAt
import Derived.OwnWalk
namespace Go.Proofs.Ytmnofoflbhdgjaa
open Go.RowKit
set_option linter.unusedVariables false

/-- Pages' cells, one after the other. -/
def rowc (ps : List (Nat → UInt8)) : List Value := ps.flatMap fun p => (pgc p).toList
theorem rowc_snoc (ps : List (Nat → UInt8)) (p : Nat → UInt8) : rowc (ps ++ [p]) = rowc ps ++ (pgc p).toList := by simp [rowc]
theorem rowc_len (ps : List (Nat → UInt8)) : (rowc ps).length = ps.length * 64 := by
  induction ps with
  | nil => rfl
  | cons p ps ih =>
    have : rowc (p :: ps) = (pgc p).toList ++ rowc ps := rfl
    rw [this, List.length_append, ih, Array.length_toList, pgc_size, List.length_cons]; omega
theorem rowc_get : ∀ (ps : List (Nat → UInt8)) (j : Nat) (h : j < ps.length) (i : Nat), i < 64 → (rowc ps)[j * 64 + i]? = some (.int .u8 ((ps[j] i).toNat : Int))
  | [], j, h, _, _ => by simp at h
  | p :: ps, 0, _, i, hi => by
    have : rowc (p :: ps) = (pgc p).toList ++ rowc ps := rfl
    rw [this, List.getElem?_append_left (by rw [Array.length_toList, pgc_size]; omega), Array.getElem?_toList, Nat.zero_mul, Nat.zero_add, pgc_get _ _ hi]
    rfl
  | p :: ps, j + 1, h, i, hi => by
    have : rowc (p :: ps) = (pgc p).toList ++ rowc ps := rfl
    rw [this, List.getElem?_append_right (by rw [Array.length_toList, pgc_size]; omega), Array.length_toList, pgc_size, show (j + 1) * 64 + i - 64 = j * 64 + i from by omega]
    simpa using rowc_get ps j (by simpa using h) i hi

def PgRow (w : World) (B : Nat) (v : Value) (ps : List (Nat → UInt8)) : Prop := w.ownsRow B 39 64 v ps.length (rowc ps)
theorem PgRow.below {w w' : World} {B : Nat} {v : Value} {ps : List (Nat → UInt8)} (h : PgRow w B v ps) (hb : Below w.heap.size w w') : PgRow w' B v ps := by
  refine ⟨h.1, ?_⟩
  rcases h.2 with hn | ⟨g, cap, cur, rfl, h1, h2, rest⟩
  · exact .inl hn
  · exact .inr ⟨g, cap, cur, rfl, h1, blk_of hb h2, rest⟩
/-- What such a row is as a slice. -/
theorem PgRow.slice {w : World} {B : Nat} {v : Value} {ps : List (Nat → UInt8)} (h : PgRow w B v ps) : ∃ a cap, v = .slice a ps.length cap ∧ ps.length ≤ cap ∧ ∀ w', PgRow w' B v ps → PgSl w' a ps := by
  rcases h.2 with ⟨rfl, h0⟩ | ⟨g, cap, cur, rfl, h1, h2, h3, h4, h5, h6⟩
  · have : ps = [] := List.eq_nil_of_length_eq_zero h0
    subst this
    exact ⟨none, 0, rfl, Nat.le_refl _, fun _ _ j hj => by simp at hj⟩
  · refine ⟨some ⟨g, 0, none⟩, cap, rfl, h3, fun w' h' j hj => ⟨_, rfl, fun i hi => ?_⟩⟩
    rw [Addr.add_mid, Addr.add_mid, Nat.zero_add]
    have hc := h'.cells (g := g) rfl (j * 64 + i) _ (rowc_get ps j hj i hi)
    rwa [Addr.add_mid, Nat.zero_add] at hc
theorem PgSl.take {w : World} {a : Option Addr} {ps : List (Nat → UInt8)} (h : PgSl w a ps) (k : Nat) : PgSl w a (ps.take k) := fun j hj => by
  have hj' : j < ps.length := by rw [List.length_take] at hj; omega
  obtain ⟨x, h1, h2⟩ := h j hj'
  exact ⟨x, h1, by rw [List.getElem_take]; exact h2⟩

theorem Try.infoP : (Try.prog.info? 39).map (fun i => (i.zero, i.size, i.bytes)) = some (some (.agg (Array.replicate 64 (Value.int .u8 0))), 64, 64) := by kernel_rfl

theorem page_new (w : World) (p : Nat → UInt8) : ∀ j u, (pgc p).toList[j]? = some u → (w.alloc (.cells (pgc p) 39)).cell? ((⟨w.heap.size, 0, none⟩ : Addr).add j) = some u := by
  intro j u h
  rw [Addr.add_mid, cell_of_row _ _ _ _ _ _ (heap_alloc_last w _), Nat.zero_add]
  simpa using h
theorem page_one (p : Nat → UInt8) (u : Value) (h : u ∈ (pgc p).toList) : u.oneCell' = true := by
  have := pgc_one p
  rw [Array.all_eq_true'] at this
  exact this u (by simpa using h)
end Go.Proofs.Ytmnofoflbhdgjaa
