/- A row of n numbers by its function from places to numbers; making one. -/
import Derived.Test.YtfacegnnmgmjmaaSt
import Derived.Deep.OwnRows
import Derived.Test.YtfacegnnmgmjmaaProg
namespace Go.Proofs.Ytfacegnnmgmjmaa
open Go.RowKit

@[irreducible] def nc (n : Nat) (f : Nat → Int) : Array Value := Array.ofFn (n := n) fun i => Value.int .i64 (f i.1)
theorem nc_size (n : Nat) (f : Nat → Int) : (nc n f).size = n := by simp [nc]
theorem nc_get (n : Nat) (f : Nat → Int) (i : Nat) (h : i < n) : (nc n f)[i]? = some (.int .i64 (f i)) := by
  simp [nc, h]
theorem nc_one (n : Nat) (f : Nat → Int) : (nc n f).all (·.oneCell') = true := by
  rw [Array.all_eq_true]
  intro i hi
  have hi' : i < n := by rw [nc_size] at hi; exact hi
  have := nc_get n f i hi'
  rw [Array.getElem?_eq_getElem hi] at this
  rw [Option.some.inj this]; rfl
theorem nc_congr {n : Nat} {f g : Nat → Int} (h : ∀ i, i < n → f i = g i) : nc n f = nc n g := by
  apply Array.ext_getElem?
  intro i
  by_cases hi : i < n
  · rw [nc_get _ _ _ hi, nc_get _ _ _ hi, h i hi]
  · rw [Array.getElem?_eq_none (by rw [nc_size]; omega), Array.getElem?_eq_none (by rw [nc_size]; omega)]
theorem nc_set (n : Nat) (f : Nat → Int) (k : Nat) (x : Int) : (nc n f).setIfInBounds k (.int .i64 x) = nc n (fun i => if i = k then x else f i) := by
  apply Array.ext_getElem?
  intro i
  rw [Array.getElem?_setIfInBounds]
  by_cases hi : i < n
  · rw [nc_get _ _ _ hi]
    by_cases hk : k = i
    · subst hk
      rw [if_pos rfl, if_pos (by rw [nc_size]; exact hi), nc_get _ _ _ hi, if_pos rfl]
    · rw [if_neg hk, nc_get _ _ _ hi, if_neg (fun e => hk e.symm)]
  · have h1 : (nc n fun i => if i = k then x else f i)[i]? = none := Array.getElem?_eq_none (by rw [nc_size]; omega)
    have h2 : (nc n f)[i]? = none := Array.getElem?_eq_none (by rw [nc_size]; omega)
    rw [h1]
    split
    · rw [if_neg (by rw [nc_size]; omega)]
    · exact h2
theorem made_nc (n : Nat) : madeCells #[Value.int .i64 0] n = nc n (fun _ => 0) := by
  apply Array.ext_getElem?
  intro i
  by_cases hi : i < n
  · rw [nc_get _ _ _ hi]
    have : i % 1 = 0 := Nat.mod_one i
    simp [madeCells, hi, this]
  · rw [Array.getElem?_eq_none (by rw [size_madeCells]; omega), Array.getElem?_eq_none (by rw [nc_size]; omega)]

theorem Try.infoI : (Try.prog.info? 3).map (fun i => (i.zero, i.size, i.bytes)) = some (some (.int .i64 0), 1, 8) := by kernel_rfl

section
variable {ops : Array Oper} {rest : List Oper} {Q : Exit → Act → World → Prop} {tmps : Array Value} {df : List Deferred} {d ty : Nat} {ps : String} {af : Array Edge} {gd : Option (Nat × Bool)} {w0 w : World} {l : List (Nat × Obj)}
/-- 'make([]int, n)'. -/
theorem ev_makeInts (hSt : St w0 l w) {x y : Operand} (h : Region.wanted ⟨some d, .makeSlice 39 x y, ty, ps, af, gd⟩ (yielded ops tmps) = true ∧ ∃ n : Nat,
      Act.eval ⟨tmps, df⟩ x = .int .i64 n ∧ Act.eval ⟨tmps, df⟩ y = .int .i64 n ∧ n ≤ 1000000 ∧
      ∀ g w', St w0 ((g, .cells (nc n fun _ => 0) 3 (0, 0)) :: l) w' → wpList Try.prog ops Q rest (Act.put ⟨tmps, df⟩ (some d) (.slice (some ⟨g, 0, none⟩) n n)) w') :
    wpList Try.prog ops Q (⟨some d, .makeSlice 39 x y, ty, ps, af, gd⟩ :: rest) ⟨tmps, df⟩ w := by
  obtain ⟨hw, n, hx, hy, hn, h⟩ := h
  have hr := run_make_row' (P := Try.prog) 39 3 (.int .i64 0) 8 Try.underlying39 Try.infoI rfl .i64 .i64 n (by omega) (by omega) w
  rw [made_nc] at hr
  refine wpl_run hw ?_ (h _ _ (hSt.alloc _))
  simp only [execOp, hx, hy, Sem.run_bind, hr, Result.andThen_ok]
  rfl
end
end Go.Proofs.Ytfacegnnmgmjmaa
