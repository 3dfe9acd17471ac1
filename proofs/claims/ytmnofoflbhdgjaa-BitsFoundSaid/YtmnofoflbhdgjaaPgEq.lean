/- Two pages held against each other. -/
import Derived.Test.YtmnofoflbhdgjaaPg
import Derived.ChangeKeysEq
namespace Go.Proofs.Ytmnofoflbhdgjaa
open Go.RowKit

def pgEq (p q : Nat → UInt8) : Bool := (List.range 64).all fun i => p i == q i

theorem pgEq_iff (p q : Nat → UInt8) : pgEq p q = true ↔ ∀ i, i < 64 → p i = q i := by
  simp [pgEq]

theorem pgc_congr {p q : Nat → UInt8} (h : ∀ i, i < 64 → p i = q i) : pgc p = pgc q := by
  unfold pgc
  congr 1
  funext i
  rw [h i.1 i.2]

theorem run_eqItems_pg (w : World) (d : Nat) (p q : Nat → UInt8) : ∀ is : List Nat, (∀ i ∈ is, i < 64) →
    (Op.eqItems (d + 1) 5 1 (pgc p) (pgc q) is).run Try.prog w = .ok (is.all fun i => p i == q i) w
  | [], _ => by simp [Op.eqItems]
  | i :: is, h => by
    have hi := h i (List.mem_cons_self ..)
    have hagg : (isAgg 5).run Try.prog w = .ok false w := by
      unfold isAgg
      rw [Sem.run_bind, run_underlying Try.underlying5 w]
      rfl
    have hp : ∀ p : Nat → UInt8, (part 5 (pgc p) i).run Try.prog w = .ok (.int .u8 ((p i).toNat : Int)) w := by
      intro p
      simp [part, Sem.run_bind, hagg, pgc_get p i hi]
    have ih := run_eqItems_pg w d p q is (fun j hj => h j (List.mem_cons_of_mem _ hj))
    simp only [Op.eqItems, Sem.run_bind, Nat.mul_one, hp, Result.andThen_ok, run_equalIn_int w d 5 .u8 .u8 _ _ Try.underlying5]
    have e : (((p i).toNat : Int) == ((q i).toNat : Int)) = (p i == q i) := by
      rw [Bool.eq_iff_iff]
      simp only [beq_iff_eq, Int.natCast_inj, UInt8.toNat_inj]
    rw [e]
    simp only [List.all_cons]
    generalize (p i == q i) = r
    cases r
    · simp only [Bool.not_false, if_true, Sem.run_pure, Bool.false_and]
    · simp only [Bool.not_true, Bool.false_eq_true, if_false, Bool.true_and]
      exact ih

theorem Try.cellsE : Try.prog.cellsOf 5 = 1 := by kernel_rfl
theorem Try.guardPg : Try.prog.eqGuardType Try.prog.depth 39 = false := by kernel_rfl
section
variable {ops : Array Oper} {rest : List Oper} {Q : Exit → Act → World → Prop} {tmps : Array Value} {df : List Deferred} {d ty t u : Nat} {ps : String} {af : Array Edge} {gd : Option (Nat × Bool)} {w : World}
theorem run_equal_pg (n : Nat) (p q : Nat → UInt8) : (Op.equalIn (n + 1 + 1) 39 (.agg (pgc p)) (.agg (pgc q))).run Try.prog w = .ok (pgEq p q) w := by
  obtain ⟨i, hi, -⟩ := Option.map_eq_some_iff.1 Try.infoE
  rw [run_equalIn_array w _ _ _ Try.underlying39 hi, Try.cellsE]
  exact run_eqItems_pg w n p q _ (fun i hi => List.mem_range.1 hi)
theorem pg_eql {x y : Operand} (h : Region.wanted ⟨some d, .binOp .eql 39 x y 39, ty, ps, af, gd⟩ (yielded ops tmps) = true ∧ ∃ p q b,
      Act.eval ⟨tmps, df⟩ x = .agg (pgc p) ∧ Act.eval ⟨tmps, df⟩ y = .agg (pgc q) ∧ pgEq p q = b ∧
      wpList Try.prog ops Q rest (Act.put ⟨tmps, df⟩ (some d) (.bool b)) w) :
    wpList Try.prog ops Q (⟨some d, .binOp .eql 39 x y 39, ty, ps, af, gd⟩ :: rest) ⟨tmps, df⟩ w := by
  obtain ⟨hw, p, q, b, hx, hy, rfl, h⟩ := h
  refine wpl_run hw ?_ h
  simp only [execOp, hx, hy, Sem.run_bind, run_eqGuard_agg w _ _ _ _ _ _ Try.guardPg, Result.andThen_ok, run_eql_struct, run_equal_pg 9998 p q, Sem.run_pure]
theorem pg_neq {x y : Operand} (h : Region.wanted ⟨some d, .binOp .neq 39 x y 39, ty, ps, af, gd⟩ (yielded ops tmps) = true ∧ ∃ p q b,
      Act.eval ⟨tmps, df⟩ x = .agg (pgc p) ∧ Act.eval ⟨tmps, df⟩ y = .agg (pgc q) ∧ pgEq p q = b ∧
      wpList Try.prog ops Q rest (Act.put ⟨tmps, df⟩ (some d) (.bool (!b))) w) :
    wpList Try.prog ops Q (⟨some d, .binOp .neq 39 x y 39, ty, ps, af, gd⟩ :: rest) ⟨tmps, df⟩ w := by
  obtain ⟨hw, p, q, b, hx, hy, rfl, h⟩ := h
  refine wpl_run hw ?_ h
  simp only [execOp, hx, hy, Sem.run_bind, run_eqGuard_agg w _ _ _ _ _ _ Try.guardPg, Result.andThen_ok, run_neq_struct, run_equal_pg 9998 p q, Sem.run_pure]
end
end Go.Proofs.Ytmnofoflbhdgjaa
