/- A slice literal of one page. -/
import Derived.Test.YtmnofoflbhdgjaaPgAt
import Derived.Great.BuildSlice
import Derived.Laws.CopyRow
namespace Go.Proofs.Ytmnofoflbhdgjaa
open Go.RowKit

theorem fold_set : ∀ (l : List Value) (k : Nat) (cs : Array Value), k + l.length ≤ cs.size →
    ((l.zipIdx k).foldl (fun cs x => cs.setIfInBounds (0 + x.2) x.1) cs) = (cs.toList.take k ++ l ++ cs.toList.drop (k + l.length)).toArray
  | [], k, cs, _ => by simp
  | v :: l, k, cs, h => by
    simp only [List.length_cons] at h
    rw [List.zipIdx_cons, List.foldl_cons, fold_set l (k + 1) _ (by simp; omega)]
    congr 1
    have e := list_seg_step cs.toList k v l (by simp; omega)
    simpa [Array.toList_setIfInBounds, Nat.add_assoc] using e

theorem fill_one (p : Nat → UInt8) (Z : Array Value) (hZ : Z.size = 64) : Instr.fill (fun i => some (i * 64, 64)) Z [(0, .agg (pgc p))] = some (pgc p) := by
  have hs := pgc_size p
  have e : Array.foldl (fun cs x => cs.setIfInBounds (0 + x.2) x.1) Z (pgc p).zipIdx = pgc p := by
    rw [← Array.foldl_toList, Array.toList_zipIdx, fold_set _ _ _ (by simp; omega)]
    rw [List.take_zero, List.nil_append, List.drop_of_length_le (by simp; omega), List.append_nil, Array.toArray_toList]
  simp only [Instr.fill, Value.cells, Nat.zero_mul]
  rw [if_neg (by simp [hs, hZ]), e]

theorem run_slice1 (p : Nat → UInt8) (w : World) : (Instr.buildSlice 49 1 #[(0, .agg (pgc p))]).run Try.prog w = .ok (.slice (some ⟨w.heap.size, 0, none⟩) 1 1) (w.alloc (.cells (pgc p) 39)) := by
  have hz := Try.zeroPg
  obtain ⟨ie, hie, h2⟩ := Option.map_eq_some_iff.1 hz
  have hsz : ie.size = 64 := by simpa using congrArg Prod.snd h2
  have hzv : ie.zero = some (.agg (Array.replicate 64 (Value.int .u8 0))) := by simpa using congrArg Prod.fst h2
  refine run_buildSlice (P := Try.prog) w 49 39 1 _ (pgc p) ie _ Try.underlying49 hie hzv (by rw [hsz]; decide) (by rw [hsz]; decide) ?_
  rw [hsz]
  exact fill_one p _ (by simp)

section
variable {ops : Array Oper} {rest : List Oper} {Q : Exit → Act → World → Prop} {tmps : Array Value} {df : List Deferred} {d ty t u : Nat} {ps : String} {af : Array Edge} {gd : Option (Nat × Bool)} {w : World}
theorem pg_slice1 {x : Operand} (h : Region.wanted ⟨some d, .buildSlice 49 1 #[(0, x)], ty, ps, af, gd⟩ (yielded ops tmps) = true ∧ ∃ p, Act.eval ⟨tmps, df⟩ x = .agg (pgc p) ∧
      wpList Try.prog ops Q rest (Act.put ⟨tmps, df⟩ (some d) (.slice (some ⟨w.heap.size, 0, none⟩) 1 1)) (w.alloc (.cells (pgc p) 39))) :
    wpList Try.prog ops Q (⟨some d, .buildSlice 49 1 #[(0, x)], ty, ps, af, gd⟩ :: rest) ⟨tmps, df⟩ w := by
  obtain ⟨hw, p, hx, h⟩ := h
  refine wpl_run hw ?_ h
  have e : (#[(0, x)] : Array (Nat × Operand)).map (fun y => (y.1, Act.eval ⟨tmps, df⟩ y.2)) = #[(0, .agg (pgc p))] := by simp [hx]
  simp only [execOp]
  rw [e]
  simp only [Sem.run_bind, run_slice1, Result.andThen_ok]
  rfl
end
end Go.Proofs.Ytmnofoflbhdgjaa
