/- Pieces of the walks of inode.Get and inode.Put. -/
import Derived.Test.YtmnofoflbhdgjaaInoA
import Derived.Test.YtmnofoflbhdgjaaIntC
import Derived.Test.YtmnofoflbhdgjaaPgSetR
import Derived.Test.YtmnofoflbhdgjaaPgLaws
import Derived.Laws.CopyRow
namespace Go.Proofs.Ytmnofoflbhdgjaa
open Go.RowKit
set_option linter.unusedSimpArgs false
set_option linter.unusedVariables false

theorem aPg : AggT Try.prog 39 64 := ⟨by kernel_rfl, by kernel_rfl⟩
theorem zPg : ZeroT Try.prog 39 (pgc zp) := by unfold ZeroT; kernel_rfl
theorem aHd : AggT Try.prog 42 11 := ⟨by kernel_rfl, by kernel_rfl⟩
theorem zHd : ZeroT Try.prog 42 (nc 11 fun _ => 0) := by unfold ZeroT; kernel_rfl
theorem aHr : AggT Try.prog 95 3 := ⟨by kernel_rfl, by kernel_rfl⟩
theorem zHr : ZeroT Try.prog 95 #[.int .i64 0, .int .i64 0, .pointer none] := by unfold ZeroT; kernel_rfl
theorem oInt : OneT Try.prog 3 := by unfold OneT; kernel_rfl
theorem oU8 : OneT Try.prog 5 := by unfold OneT; kernel_rfl
theorem oPtr : OneT Try.prog 93 := by unfold OneT; kernel_rfl

/-- A block that a callee has made. -/
theorem St.cons' {w0 w w' : World} {l : List (Nat × Obj)} {g : Nat} {o : Obj} (h : St w0 l w) (hb : Below w.heap.size w w') (hg : w.heap.size ≤ g) (ho : w'.heap[g]? = some o) : St w0 ((g, o) :: l) w' := by
  have h' := h.ext hb
  refine ⟨h'.base, fun x hx => ?_, ?_⟩
  · rcases List.mem_cons.1 hx with rfl | hx
    · exact ⟨ho, Nat.le_trans h.base.size hg⟩
    · exact h'.own x hx
  · rw [List.map_cons, List.nodup_cons]
    refine ⟨fun hm => ?_, h.nodup⟩
    obtain ⟨x, hx, e⟩ := List.mem_map.1 hm
    have := lt_of_blk (h.own x hx).1
    simp only at e
    omega
/-- Some of the blocks are forgotten. -/
theorem St.sub' {w0 w : World} {l : List (Nat × Obj)} (h : St w0 l w) {l' : List (Nat × Obj)} (hs : l'.Sublist l) : St w0 l' w :=
  ⟨h.base, fun x hx => h.own x (hs.subset hx), h.nodup.sublist (hs.map _)⟩

def fieldsOk (g : Nat) (cur : Array Value) : Prop := ∀ j, j < 11 → cur[j * 3]? = some (.int .i64 (fAt j)) ∧ cur[j * 3 + 1]? = some (.int .i64 (fSz j)) ∧ cur[j * 3 + 2]? = some (.pointer (some ⟨g, fOff j, none⟩))
theorem frow_at (g j : Nat) (h : j < 11) : (frow g 11)[j * 3]? = some (.int .i64 (fAt j)) ∧ (frow g 11)[j * 3 + 1]? = some (.int .i64 (fSz j)) ∧ (frow g 11)[j * 3 + 2]? = some (.pointer (some ⟨g, fOff j, none⟩)) := by
  rcases (by omega : j = 0 ∨ j = 1 ∨ j = 2 ∨ j = 3 ∨ j = 4 ∨ j = 5 ∨ j = 6 ∨ j = 7 ∨ j = 8 ∨ j = 9 ∨ j = 10) with rfl | rfl | rfl | rfl | rfl | rfl | rfl | rfl | rfl | rfl | rfl <;> exact ⟨rfl, rfl, rfl⟩

theorem fields_at (g : Nat) (w : World) :
    Calls Try.prog 49 #[.pointer (some ⟨g, 0, none⟩)] w fun e w' => ∃ r cap cur, e = .returned (.slice (some ⟨r, 0, none⟩) 11 cap) ∧ Below w.heap.size w w' ∧ w.heap.size ≤ r ∧ w'.heap[r]? = some (.cells cur 95 (0, 0)) ∧ fieldsOk g cur := by
  refine (fields_any g w).mono fun e w' ⟨v, he, hb, ho⟩ => ?_
  rcases ho.2 with ⟨-, h0⟩ | ⟨r, cap, cur, rfl, h1, h2, -, -, -, h3⟩
  · cases h0
  · refine ⟨r, cap, cur, he, hb, h1, h2, fun j hj => ?_⟩
    obtain ⟨k1, k2, k3⟩ := frow_at g j hj
    have hget : ∀ i, i < 33 → cur[i]? = (frow g 11)[i]? := fun i hi => by
      rw [← h3, List.getElem?_take_of_lt (by omega), Array.getElem?_toList]
    rw [hget _ (by omega), hget _ (by omega), hget _ (by omega)]
    exact ⟨k1, k2, k3⟩

theorem fOff_lt (j : Nat) (h : j < 11) : fOff j < 11 := by
  rcases (by omega : j = 0 ∨ j = 1 ∨ j = 2 ∨ j = 3 ∨ j = 4 ∨ j = 5 ∨ j = 6 ∨ j = 7 ∨ j = 8 ∨ j = 9 ∨ j = 10) with rfl | rfl | rfl | rfl | rfl | rfl | rfl | rfl | rfl | rfl | rfl <;> decide
theorem fAt_bd (j : Nat) (h : j < 11) : 0 ≤ fAt j ∧ fAt j ≤ 22 := by
  rcases (by omega : j = 0 ∨ j = 1 ∨ j = 2 ∨ j = 3 ∨ j = 4 ∨ j = 5 ∨ j = 6 ∨ j = 7 ∨ j = 8 ∨ j = 9 ∨ j = 10) with rfl | rfl | rfl | rfl | rfl | rfl | rfl | rfl | rfl | rfl | rfl <;> decide

def in3B (n lo hi : Int) : Bool := decide (lo ≤ n) && decide (n ≤ hi)
set_option maxRecDepth 100000 in
theorem in3_any (n lo hi : Int) (w : World) :
    Calls Try.prog 48 #[.int .i64 n, .int .i64 lo, .int .i64 hi] w fun e w' => e = .returned (.bool (in3B n lo hi)) ∧ Below w.heap.size w w' := by
  by_cases c0 : lo ≤ n
  · by_cases c1 : n ≤ hi
    · rw [show in3B n lo hi = true from by simp [in3B, c0, c1]]
      go_enter Try.func48, Try.ntmps48
      go_wp2
      go_ret
      exact ⟨by simp [c0, c1], Below.refl _ _⟩
    · rw [show in3B n lo hi = false from by simp [in3B, c1]]
      go_enter Try.func48, Try.ntmps48
      go_wp2
      go_ret
      exact ⟨by simp [c0, c1], Below.refl _ _⟩
  · rw [show in3B n lo hi = false from by simp [in3B, c0]]
    go_enter Try.func48, Try.ntmps48
    go_wp2
    go_ret
    exact ⟨by simp [c0], Below.refl _ _⟩
theorem in3_at {n lo hi : Int} {b : Bool} (e : in3B n lo hi = b) (w : World) :
    Calls Try.prog 48 #[.int .i64 n, .int .i64 lo, .int .i64 hi] w fun e w' => e = .returned (.bool b) ∧ Below w.heap.size w w' := by
  subst e; exact in3_any n lo hi w

theorem res_agg {P : Program} {fn : Func} {p : Tmp} {ty : TypeId} {n : Nat} (h : fn.results = #[.cell p ty]) (hT : AggT P ty n) (tmps : Array Value) {w : World} {g : Nat} {cs : Array Value} {T' : TypeId}
    (hp : tmps.getD p undef = .pointer (some ⟨g, 0, none⟩)) (hg : w.heap[g]? = some (.cells cs T' (0, 0))) (hn : cs.size = n) : (results fn tmps).run P w = .ok (.agg cs) w := by
  have hp' : tmps[p]?.getD undef = .pointer (some ⟨g, 0, none⟩) := by simpa using hp
  simp [results, h, hp', asAddr, run_load_agg hT hg hn]

section
variable {P : Program} {ops : Array Oper} {rest : List Oper} {Q : Exit → Act → World → Prop} {tmps : Array Value} {df : List Deferred} {d ty t : Nat} {ps : String} {af : Array Edge} {gd : Option (Nat × Bool)} {w0 w : World} {l : List (Nat × Obj)}
/-- A struct out of a row, at a place. -/
theorem ev_loadAt {T : TypeId} {n : Nat} (hSt : St w0 l w) (hT : AggT P T n) (h : Region.wanted ⟨some d, .load T (.tmp t), ty, ps, af, gd⟩ (yielded ops tmps) = true ∧ ∃ g o cur T', ∃ cs : List Value,
      tmps.getD t undef = .pointer (some ⟨g, o, none⟩) ∧ (g, Obj.cells cur T' (0, 0)) ∈ l ∧ cs.length = n ∧ (∀ j v, cs[j]? = some v → cur[o + j]? = some v) ∧
      wpList P ops Q rest (Act.put ⟨tmps, df⟩ (some d) (.agg cs.toArray)) w) :
    wpList P ops Q (⟨some d, .load T (.tmp t), ty, ps, af, gd⟩ :: rest) ⟨tmps, df⟩ w := by
  obtain ⟨hw, g, o, cur, T', cs, hx, hm, hn, hc, h⟩ := h
  refine wpl_run hw ?_ h
  have hx' : Act.eval ⟨tmps, df⟩ (.tmp t) = .pointer (some ⟨g, o, none⟩) := hx
  obtain ⟨h1, h2⟩ := hT
  obtain ⟨td, htd, hrow⟩ := Option.map_eq_some_iff.1 h1
  obtain ⟨i, hi, his⟩ := Option.map_eq_some_iff.1 h2
  have hl : (loadCells ⟨g, o, none⟩ cs.length).run P w = .ok cs.toArray w := run_loadCells_list (P := P) w ⟨g, o, none⟩ cs (fun j v hj => by
    rw [Addr.add_mid, cell_of_row _ _ _ _ _ _ (hSt.blk hm)]; exact hc j v hj)
  have hagg : (isAgg T).run P w = .ok true w := by
    unfold isAgg
    rw [Sem.run_bind, run_underlying htd w]
    cases td <;> simp_all [TypeDesc.isRow]
  have hr : (loadVar T ⟨g, o, none⟩).run P w = .ok (.agg cs.toArray) w := by
    simp [loadVar, Sem.run_bind, hagg, sizeOf, typeInfo, hi, his, ← hn, hl]
  simp only [execOp, hx', Instr.loadAt, Instr.sureAddr, Sem.run_bind, Sem.run_pure, Result.andThen_ok, hr]
end
end Go.Proofs.Ytmnofoflbhdgjaa
