/- Chapter 16: rows of instructions that the call owns; Plain, walked. -/
import Derived.Test.YtioknjdbijogpaaInsC
import Derived.Maps.AppendAt
import Derived.OwnWalk
import Derived.Great.BuildSlice
import Derived.Laws.CopyRow
namespace Go.Proofs.Ytioknjdbijogpaa
open Go.RowKit
set_option linter.unusedSimpArgs false
set_option linter.unusedVariables false

theorem inv_size (f : Nat → Int) : (inv f).size = 5 := rfl
/-- Instructions' cells, one after the other. -/
def rowi (fs : List (Nat → Int)) : List Value := fs.flatMap fun f => (inv f).toList
theorem rowi_snoc (fs : List (Nat → Int)) (f : Nat → Int) : rowi (fs ++ [f]) = rowi fs ++ (inv f).toList := by simp [rowi]
theorem rowi_len (fs : List (Nat → Int)) : (rowi fs).length = fs.length * 5 := by
  induction fs with
  | nil => rfl
  | cons p fs ih =>
    have : rowi (p :: fs) = (inv p).toList ++ rowi fs := rfl
    rw [this, List.length_append, ih, Array.length_toList, inv_size, List.length_cons]; omega
theorem rowi_get : ∀ (fs : List (Nat → Int)) (j : Nat) (h : j < fs.length) (i : Nat), i < 5 → (rowi fs)[j * 5 + i]? = some (.int .i64 (fs[j] i))
  | [], j, h, _, _ => by simp at h
  | p :: fs, 0, _, i, hi => by
    have : rowi (p :: fs) = (inv p).toList ++ rowi fs := rfl
    rw [this, List.getElem?_append_left (by rw [Array.length_toList, inv_size]; omega), Array.getElem?_toList, Nat.zero_mul, Nat.zero_add, inv_get _ _ hi]
    rfl
  | p :: fs, j + 1, h, i, hi => by
    have : rowi (p :: fs) = (inv p).toList ++ rowi fs := rfl
    rw [this, List.getElem?_append_right (by rw [Array.length_toList, inv_size]; omega), Array.length_toList, inv_size, show (j + 1) * 5 + i - 5 = j * 5 + i from by omega]
    simpa using rowi_get fs j (by simpa using h) i hi

def InRow (T : Nat) (w : World) (B : Nat) (v : Value) (fs : List (Nat → Int)) : Prop := w.ownsRow B T 5 v fs.length (rowi fs)
theorem InRow.below {T : Nat} {w w' : World} {B : Nat} {v : Value} {fs : List (Nat → Int)} (h : InRow T w B v fs) (hb : Below w.heap.size w w') : InRow T w' B v fs := by
  refine ⟨h.1, ?_⟩
  rcases h.2 with hn | ⟨g, cap, cur, rfl, h1, h2, rest⟩
  · exact .inl hn
  · exact .inr ⟨g, cap, cur, rfl, h1, blk_of hb h2, rest⟩
/-- What such a row is as a slice. -/
theorem InRow.slice {T : Nat} {w : World} {B : Nat} {v : Value} {fs : List (Nat → Int)} (h : InRow T w B v fs) : ∃ a cap, v = .slice a fs.length cap ∧ fs.length ≤ cap ∧ InSl w a fs := by
  rcases h.2 with ⟨rfl, h0⟩ | ⟨g, cap, cur, rfl, h1, h2, h3, h4, h5, h6⟩
  · have : fs = [] := List.eq_nil_of_length_eq_zero h0
    subst this
    exact ⟨none, 0, rfl, Nat.le_refl _, fun j hj => by simp at hj⟩
  · refine ⟨some ⟨g, 0, none⟩, cap, rfl, h3, fun j hj => ⟨_, rfl, fun i u hi => ?_⟩⟩
    have hi5 : i < 5 := by
      have := (Array.getElem?_eq_some_iff.1 hi).1
      rwa [inv_size] at this
    rw [inv_get _ _ hi5] at hi
    rw [Addr.add_mid, Addr.add_mid, Nat.zero_add]
    have hc := h.cells (g := g) rfl (j * 5 + i) _ (rowi_get fs j hj i hi5)
    rw [Addr.add_mid, Nat.zero_add] at hc
    rw [hc, ← hi]

theorem infoIn : (Try.prog.info? 65).map (fun i => (i.zero, i.size, i.bytes)) = some (some (.agg zIns), 5, 40) := by kernel_rfl
theorem infoRf : (Try.prog.info? 70).map (fun i => (i.zero, i.size, i.bytes)) = some (some (.agg zIns), 5, 40) := by kernel_rfl

theorem insn_new (T : Nat) (w : World) (f : Nat → Int) : ∀ j u, (inv f).toList[j]? = some u → (w.alloc (.cells (inv f) T)).cell? ((⟨w.heap.size, 0, none⟩ : Addr).add j) = some u := by
  intro j u h
  rw [Addr.add_mid, cell_of_row _ _ _ _ _ _ (heap_alloc_last w _), Nat.zero_add]
  simpa using h
theorem insn_one (f : Nat → Int) (u : Value) (h : u ∈ (inv f).toList) : u.oneCell' = true := by
  simp [inv] at h
  rcases h with rfl | rfl | rfl | rfl | rfl <;> rfl

theorem run_slice70 (f : Nat → Int) (w : World) : (Instr.buildSlice 38 1 #[(0, .agg (inv f))]).run Try.prog w = .ok (.slice (some ⟨w.heap.size, 0, none⟩) 1 1) (w.alloc (.cells (inv f) 70)) := by
  obtain ⟨ie, hie, h2⟩ := Option.map_eq_some_iff.1 infoRf
  have hsz : ie.size = 5 := by simpa using congrArg (fun x => x.2.1) h2
  have hzv : ie.zero = some (.agg zIns) := by simpa using congrArg Prod.fst h2
  refine run_buildSlice (P := Try.prog) w 38 70 1 _ (inv f) ie _ Try.underlying38 hie hzv (by rw [hsz]; decide) (by rw [hsz]; decide) ?_
  rw [hsz]
  clear h2 hsz hzv hie
  kernel_rfl
section
variable {ops : Array Oper} {rest : List Oper} {Q : Exit → Act → World → Prop} {tmps : Array Value} {df : List Deferred} {d ty t u : Nat} {ps : String} {af : Array Edge} {gd : Option (Nat × Bool)} {w : World}
theorem in_slice70 {x : Operand} (h : Region.wanted ⟨some d, .buildSlice 38 1 #[(0, x)], ty, ps, af, gd⟩ (yielded ops tmps) = true ∧ ∃ p, Act.eval ⟨tmps, df⟩ x = .agg (inv p) ∧
      wpList Try.prog ops Q rest (Act.put ⟨tmps, df⟩ (some d) (.slice (some ⟨w.heap.size, 0, none⟩) 1 1)) (w.alloc (.cells (inv p) 70))) :
    wpList Try.prog ops Q (⟨some d, .buildSlice 38 1 #[(0, x)], ty, ps, af, gd⟩ :: rest) ⟨tmps, df⟩ w := by
  obtain ⟨hw, p, hx, h⟩ := h
  refine wpl_run hw ?_ h
  have e : (#[(0, x)] : Array (Nat × Operand)).map (fun y => (y.1, Act.eval ⟨tmps, df⟩ y.2)) = #[(0, .agg (inv p))] := by simp [hx]
  simp only [execOp]
  rw [e]
  simp only [Sem.run_bind, run_slice70, Result.andThen_ok]
  rfl
end
theorem run_slice65 (f : Nat → Int) (w : World) : (Instr.buildSlice 37 1 #[(0, .agg (inv f))]).run Try.prog w = .ok (.slice (some ⟨w.heap.size, 0, none⟩) 1 1) (w.alloc (.cells (inv f) 65)) := by
  obtain ⟨ie, hie, h2⟩ := Option.map_eq_some_iff.1 infoIn
  have hsz : ie.size = 5 := by simpa using congrArg (fun x => x.2.1) h2
  have hzv : ie.zero = some (.agg zIns) := by simpa using congrArg Prod.fst h2
  refine run_buildSlice (P := Try.prog) w 37 65 1 _ (inv f) ie _ Try.underlying37 hie hzv (by rw [hsz]; decide) (by rw [hsz]; decide) ?_
  rw [hsz]
  clear h2 hsz hzv hie
  kernel_rfl
section
variable {ops : Array Oper} {rest : List Oper} {Q : Exit → Act → World → Prop} {tmps : Array Value} {df : List Deferred} {d ty t u : Nat} {ps : String} {af : Array Edge} {gd : Option (Nat × Bool)} {w : World}
theorem in_slice65 {x : Operand} (h : Region.wanted ⟨some d, .buildSlice 37 1 #[(0, x)], ty, ps, af, gd⟩ (yielded ops tmps) = true ∧ ∃ p, Act.eval ⟨tmps, df⟩ x = .agg (inv p) ∧
      wpList Try.prog ops Q rest (Act.put ⟨tmps, df⟩ (some d) (.slice (some ⟨w.heap.size, 0, none⟩) 1 1)) (w.alloc (.cells (inv p) 65))) :
    wpList Try.prog ops Q (⟨some d, .buildSlice 37 1 #[(0, x)], ty, ps, af, gd⟩ :: rest) ⟨tmps, df⟩ w := by
  obtain ⟨hw, p, hx, h⟩ := h
  refine wpl_run hw ?_ h
  have e : (#[(0, x)] : Array (Nat × Operand)).map (fun y => (y.1, Act.eval ⟨tmps, df⟩ y.2)) = #[(0, .agg (inv p))] := by simp [hx]
  simp only [execOp]
  rw [e]
  simp only [Sem.run_bind, run_slice65, Result.andThen_ok]
  rfl
end

set_option maxHeartbeats 1000000 in
set_option maxRecDepth 100000 in
/-- Plain: the same numbers, in a row of the call's own. -/
theorem plain_is (a : Option Addr) (fs : List (Nat → Int)) (cap : Nat) (w : World) (hl : InSl w a fs) (hn : fs.length ≤ 100) :
    Calls Try.prog 20 #[.slice a fs.length cap] w fun e w' => ∃ v, e = .returned v ∧ InRow 70 w' w.heap.size v fs ∧ Below w.heap.size w w' := by
  obtain ⟨i0, hi0, hz1, hz2, hz3⟩ := info_parts infoRf
  go_enter Try.func20, Try.ntmps20
  go_wp2
  go_loopw [3, 8] (fun v i wr => ∃ k : Nat, k ≤ fs.length ∧ i = .int .i64 k ∧ Below w.heap.size w wr ∧ InRow 70 wr w.heap.size v (fs.take k)) (fun _ i _ => fs.length - (intOf i).toNat)
  case atStart => exact ⟨0, by omega, rfl, Below.refl _ _, World.ownsRow_nil _ _ _ _⟩
  case round =>
    obtain ⟨k, hk, rfl, hbw, hown⟩ := hrel
    by_cases h : k = fs.length
    · subst h
      rw [List.take_length] at hown
      go_wp2
      go_ret
      exact ⟨_, rfl, hown, hbw⟩
    · have hlt : k < fs.length := by omega
      have hlt' : (k : Int) < fs.length := by omega
      obtain ⟨x, rfl, hat⟩ := hl.ext hbw k hlt
      have hsn := Lib.hid (List.take_succ_eq_append_getElem hlt)
      have htl : (fs.take k).length ≤ 100 := by rw [List.length_take]; omega
      generalize fs[k] = f at hat hsn
      have hSt := St.start wr
      go_wp2_with (first
        | ((with_reducible refine in_load_at ?_); refine ⟨rfl, _, _, rfl, hat, ?_⟩; (simp only [Act.put, List.setIfInBounds_toArray, List.set_cons_succ, List.set_cons_zero]))
        | ((with_reducible refine ev_alloc hSt (by first | exact zPg | exact zHd | exact zHr | exact zX1 | exact zX2 | exact zX3 | exact zX4) ?_); refine ⟨rfl, ?_⟩; intro gN wN hSt; (simp only [Act.put, List.setIfInBounds_toArray, List.set_cons_succ, List.set_cons_zero]))
        | ((with_reducible refine ev_store hSt aX1 ?_); refine ⟨rfl, _, [], _, _, _, rfl, rfl, rfl, rfl, rfl, (by simp [inv, Value.oneCell']), ?_⟩; intro wN hSt; simp only [List.nil_append] at hSt; simp only [Act.put])
        | ((with_reducible refine ev_load hSt (by first | exact aPg | exact aHd | exact aHr | exact aX1 | exact aX2 | exact aX3 | exact aX4) ?_); refine ⟨rfl, _, _, _, rfl, (by repeat (first | exact List.mem_cons_self .. | refine List.mem_cons_of_mem _ ?_)), (by first | exact pgc_size _ | exact nc_size _ _ | rfl), ?_⟩; (simp only [Act.put, List.setIfInBounds_toArray, List.set_cons_succ, List.set_cons_zero]))
        | ((with_reducible refine in_slice70 ?_); refine ⟨rfl, _, rfl, ?_⟩; (simp only [Act.put, List.setIfInBounds_toArray, List.set_cons_succ, List.set_cons_zero]))
        | (at_builtin; refine wpList_append_own_at _ rfl _ _ 38 rfl w.heap.size 70 i0 _ 5 40 Try.underlying38 hi0 hz1 hz2 hz3 rfl (by decide) _ _ _ rfl ((InRow.below hown hSt.base).alloc _) _ 1 1 (inv f).toList rfl (by rw [Array.length_toList, inv_size]) (insn_new _ _ _) (fun u hu => insn_one _ u hu) (by unfold maxLen; omega) (by omega) (Nat.le_trans hbw.size (Nat.le_trans hSt.base.size (by simp))) ?_; intro v' w1 hown' hgrow hnil hloc))
      go_wp2
      have hown0 := (InRow.below hown hSt.base)
      refine ⟨⟨k + 1, by omega, by simp, ?_, ?_⟩, by simp only [intOf]; omega⟩
      · exact ((hbw.trans (hSt.base.mono hbw.size)).alloc (Nat.le_trans hbw.size hSt.base.size) (.cells (inv f) 70)).grown hgrow (Nat.le_trans hbw.size (Nat.le_trans hSt.base.size (by simp))) (fun j hj => (hown.lt j hj).1)
      · unfold InRow
        rw [hsn.out, rowi_snoc, List.length_append]
        exact hown'
end Go.Proofs.Ytioknjdbijogpaa
