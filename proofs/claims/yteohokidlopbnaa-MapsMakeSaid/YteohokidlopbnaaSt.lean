/- The blocks of a call's own, under one name: 'St w0 l w': since w0 only new blocks were made or written; those in l are there, unlike, and hold what l says. And the operations on such blocks, each as one step of a walk. -/
import Derived.Test.YteohokidlopbnaaSeq
import Derived.WalkKit
import Derived.KernelRfl
import Derived.Deep.MidRow
import Derived.Deep.WholeRow
namespace Go.Proofs.Yteohokidlopbnaa
open Go.RowKit

structure St (w0 : World) (l : List (Nat × Obj)) (w : World) : Prop where
  base : Below w0.heap.size w0 w
  own : ∀ x, x ∈ l → w.heap[x.1]? = some x.2 ∧ w0.heap.size ≤ x.1
  nodup : (l.map (·.1)).Nodup

namespace St
variable {w0 w w' : World} {l : List (Nat × Obj)}
theorem start (w0 : World) : St w0 [] w0 := ⟨Below.refl _ _, fun _ h => (by cases h), List.nodup_nil⟩
theorem ext (h : St w0 l w) (hb : Below w.heap.size w w') : St w0 l w' :=
  ⟨h.base.trans (hb.mono h.base.size), fun x hx => ⟨blk_of hb (h.own x hx).1, (h.own x hx).2⟩, h.nodup⟩
theorem drew (h : St w0 l w) : St w0 l w.drew := h.ext (Below.refl _ _).drew
theorem alloc (h : St w0 l w) (o : Obj) : St w0 ((w.heap.size, o) :: l) (w.alloc o) := by
  refine ⟨h.base.alloc h.base.size o, fun x hx => ?_, ?_⟩
  · rcases List.mem_cons.1 hx with rfl | hx
    · exact ⟨heap_alloc_last w o, h.base.size⟩
    · exact ⟨(Below.heap_alloc w o _ (lt_of_blk (h.own x hx).1)).trans (h.own x hx).1, (h.own x hx).2⟩
  · rw [List.map_cons, List.nodup_cons]
    refine ⟨fun hm => ?_, h.nodup⟩
    obtain ⟨x, hx, e⟩ := List.mem_map.1 hm
    have := lt_of_blk (h.own x hx).1
    omega
theorem blk (h : St w0 l w) {g : Nat} {o : Obj} (hm : (g, o) ∈ l) : w.heap[g]? = some o := (h.own _ hm).1
theorem old (h : St w0 l w) {g : Nat} {o : Obj} (hg : w0.heap[g]? = some o) : w.heap[g]? = some o := blk_of h.base hg
/-- A block of the call's own takes other cells. -/
theorem set {l1 l2 : List (Nat × Obj)} {g : Nat} {cs cs' : Array Value} {T : TypeId} {fr : Nat × Nat} (h : St w0 (l1 ++ (g, .cells cs T fr) :: l2) w) :
    St w0 (l1 ++ (g, .cells cs' T fr) :: l2) (w.setRow g cs') := by
  have hm : (g, Obj.cells cs T fr) ∈ l1 ++ (g, .cells cs T fr) :: l2 := List.mem_append_right _ (List.mem_cons_self ..)
  have hg := h.own _ hm
  have hnd := h.nodup
  rw [List.map_append, List.map_cons] at hnd
  have hne1 : ∀ x ∈ l1, x.1 ≠ g := fun x hx e => (List.nodup_append.1 hnd).2.2 _ (List.mem_map_of_mem hx) _ (List.mem_cons_self ..) e
  have hne2 : ∀ x ∈ l2, x.1 ≠ g := fun x hx e => (List.nodup_cons.1 (List.nodup_append.1 hnd).2.1).1 (List.mem_map.2 ⟨x, hx, e⟩)
  refine ⟨h.base.trans ⟨rfl, rfl, rfl, by simp, fun k hk => setRow_other w g k cs' (by have := hg.2; omega)⟩, fun x hx => ?_, ?_⟩
  · rcases List.mem_append.1 hx with hx | hx
    · have := h.own x (List.mem_append_left _ hx)
      exact ⟨(setRow_other w g x.1 cs' (hne1 x hx)).trans this.1, this.2⟩
    · rcases List.mem_cons.1 hx with rfl | hx
      · exact ⟨setRow_heap w g cs cs' T fr hg.1, hg.2⟩
      · have := h.own x (List.mem_append_right _ (List.mem_cons_of_mem _ hx))
        exact ⟨(setRow_other w g x.1 cs' (hne2 x hx)).trans this.1, this.2⟩
  · rw [List.map_append, List.map_cons]
    exact hnd
end St

/-- A struct's or an array's type of n cells. -/
def AggT (P : Program) (T : TypeId) (n : Nat) : Prop := (P.underlying T).map TypeDesc.isRow = some true ∧ (P.info? T).map (·.size) = some n
/-- A type of one cell that is neither. -/
def OneT (P : Program) (T : TypeId) : Prop := (P.underlying T).map TypeDesc.isRow = some false
/-- The cells of a type's zero value. -/
def ZeroT (P : Program) (T : TypeId) (cs : Array Value) : Prop := (P.info? T).bind (fun i => i.zero.map Value.cells) = some cs

section
variable {P : Program} {ops : Array Oper} {rest : List Oper} {Q : Exit → Act → World → Prop} {tmps : Array Value} {df : List Deferred} {d ty t u : Nat} {x : Operand} {ps : String} {af : Array Edge} {gd : Option (Nat × Bool)} {w0 w : World} {l : List (Nat × Obj)} {T : TypeId}

theorem run_isAgg_false {T : TypeId} (hT : OneT P T) (w : World) : (isAgg T).run P w = .ok false w := by
  unfold OneT at hT
  obtain ⟨dd, hu, hd⟩ := Option.map_eq_some_iff.1 hT
  unfold isAgg
  rw [Sem.run_bind, run_underlying hu w]
  cases dd <;> simp_all
theorem range_of {w : World} {g : Nat} {cs : Array Value} {T' : TypeId} {fr : Nat × Nat} (hg : w.heap[g]? = some (.cells cs T' fr)) : w.rangeAt g 0 cs.toList := fun j v hv => by
  rw [cell_of_row w g _ _ _ _ hg, Nat.zero_add]
  simpa using hv
theorem run_load_agg {T : TypeId} {n : Nat} (hT : AggT P T n) {w : World} {g : Nat} {cs : Array Value} {T' : TypeId} {fr : Nat × Nat} (hg : w.heap[g]? = some (.cells cs T' fr)) (hn : cs.size = n) : (loadVar T ⟨g, 0, none⟩).run P w = .ok (.agg cs) w := by
  obtain ⟨dd, hu, hd⟩ := Option.map_eq_some_iff.1 hT.1
  have := run_loadVar_mid (P := P) w g 0 T cs.toList dd (range_of hg) hu hd (by rw [hT.2, Array.length_toList, hn])
  simpa using this

theorem cells_one {v : Value} (h : v.oneCell' = true) : v.cells = #[v] := by
  cases v <;> simp_all [Value.cells, Value.oneCell']

/-- A new variable. -/
theorem ev_alloc (hSt : St w0 l w) {cs : Array Value} (hz : ZeroT P T cs) (h : Region.wanted ⟨some d, .alloc T, ty, ps, af, gd⟩ (yielded ops tmps) = true ∧
      ∀ g w', St w0 ((g, .cells cs T (0, 0)) :: l) w' → wpList P ops Q rest (Act.put ⟨tmps, df⟩ (some d) (.pointer (some ⟨g, 0, none⟩))) w') :
    wpList P ops Q (⟨some d, .alloc T, ty, ps, af, gd⟩ :: rest) ⟨tmps, df⟩ w := by
  refine wpl_run h.1 ?_ (h.2 w.heap.size (w.alloc (.cells cs T (0, 0))) (hSt.alloc _))
  unfold ZeroT at hz
  cases hi : P.info? T with
  | none => simp [hi] at hz
  | some i =>
    simp only [hi, Option.bind_some, Option.map_eq_some_iff] at hz
    obtain ⟨v, hv, rfl⟩ := hz
    have hzv : ∀ w, (zeroValue T).run P w = .ok v w := fun w => by simp [zeroValue, typeInfo, hi, hv]
    simp only [execOp, Instr.alloc, Sem.run_bind, hzv, Result.andThen_ok, newVar]
    rfl

/-- A new variable that takes a value. -/
theorem ev_box (hSt : St w0 l w) (h : Region.wanted ⟨some d, .box T x, ty, ps, af, gd⟩ (yielded ops tmps) = true ∧ ∃ cs, Act.eval ⟨tmps, df⟩ x = .agg cs ∧
      ∀ g w', St w0 ((g, .cells cs T (0, 0)) :: l) w' → wpList P ops Q rest (Act.put ⟨tmps, df⟩ (some d) (.pointer (some ⟨g, 0, none⟩))) w') :
    wpList P ops Q (⟨some d, .box T x, ty, ps, af, gd⟩ :: rest) ⟨tmps, df⟩ w := by
  obtain ⟨hw, cs, hx, h⟩ := h
  refine wpl_run hw ?_ (h w.heap.size (w.alloc (.cells cs T (0, 0))) (hSt.alloc _))
  simp only [execOp, hx, Instr.box, newVar, Sem.run_bind, Value.cells]
  rfl

/-- A whole struct or array out of a variable. -/
theorem ev_load {n : Nat} (hSt : St w0 l w) (hT : AggT P T n) (h : Region.wanted ⟨some d, .load T (.tmp t), ty, ps, af, gd⟩ (yielded ops tmps) = true ∧ ∃ g cs T',
      tmps.getD t undef = .pointer (some ⟨g, 0, none⟩) ∧ (g, Obj.cells cs T' (0, 0)) ∈ l ∧ cs.size = n ∧
      wpList P ops Q rest (Act.put ⟨tmps, df⟩ (some d) (.agg cs)) w) :
    wpList P ops Q (⟨some d, .load T (.tmp t), ty, ps, af, gd⟩ :: rest) ⟨tmps, df⟩ w := by
  obtain ⟨hw, g, cs, T', hx, hm, hn, h⟩ := h
  refine wpl_run hw ?_ h
  have hx' : Act.eval ⟨tmps, df⟩ (.tmp t) = .pointer (some ⟨g, 0, none⟩) := hx
  simp only [execOp, hx', Instr.loadAt, Instr.sureAddr, Sem.run_bind, Sem.run_pure, Result.andThen_ok, run_load_agg hT (hSt.blk hm) hn]

/-- A cell out of a variable. -/
theorem ev_load1 (hSt : St w0 l w) (hT : OneT P T) (h : Region.wanted ⟨some d, .load T (.tmp t), ty, ps, af, gd⟩ (yielded ops tmps) = true ∧ ∃ g i cs T' v,
      tmps.getD t undef = .pointer (some ⟨g, i, none⟩) ∧ (g, Obj.cells cs T' (0, 0)) ∈ l ∧ cs[i]? = some v ∧
      wpList P ops Q rest (Act.put ⟨tmps, df⟩ (some d) v) w) :
    wpList P ops Q (⟨some d, .load T (.tmp t), ty, ps, af, gd⟩ :: rest) ⟨tmps, df⟩ w := by
  obtain ⟨hw, g, i, cs, T', v, hx, hm, hv, h⟩ := h
  refine wpl_run hw ?_ h
  have hx' : Act.eval ⟨tmps, df⟩ (.tmp t) = .pointer (some ⟨g, i, none⟩) := hx
  have hc : w.cell? ⟨g, i, none⟩ = some v := (cell_of_row w g i cs T' (0, 0) (hSt.blk hm)).trans hv
  simp [execOp, hx', Instr.loadAt, Instr.sureAddr, Sem.run_bind, loadVar, run_isAgg_false hT, hc]

/-- A whole struct or array into a variable. -/
theorem ev_store {n : Nat} (hSt : St w0 l w) (hT : AggT P T n) (h : Region.wanted ⟨none, .store T (.tmp t) x, ty, ps, af, gd⟩ (yielded ops tmps) = true ∧ ∃ g l1 l2 old new,
      tmps.getD t undef = .pointer (some ⟨g, 0, none⟩) ∧ Act.eval ⟨tmps, df⟩ x = .agg new ∧ l = l1 ++ (g, Obj.cells old T (0, 0)) :: l2 ∧ old.size = n ∧ new.size = n ∧ new.all (·.oneCell') = true ∧
      ∀ w', St w0 (l1 ++ (g, .cells new T (0, 0)) :: l2) w' → wpList P ops Q rest (Act.put ⟨tmps, df⟩ none undef) w') :
    wpList P ops Q (⟨none, .store T (.tmp t) x, ty, ps, af, gd⟩ :: rest) ⟨tmps, df⟩ w := by
  obtain ⟨hw, g, l1, l2, old, new, hx, hy, rfl, ho, hn, h1, h⟩ := h
  refine wpl_run_skip hw ?_ (h (w.setRow g new) hSt.set)
  have hx' : Act.eval ⟨tmps, df⟩ (.tmp t) = .pointer (some ⟨g, 0, none⟩) := hx
  have hg := hSt.blk (g := g) (o := .cells old T (0, 0)) (List.mem_append_right _ (List.mem_cons_self ..))
  simp only [execOp, hx', hy, Instr.storeAt, Instr.sureAddr, Sem.run_bind, Sem.run_pure, Result.andThen_ok, run_storeVar_row w g T T old new hg (by rw [hT.2, hn]) (by rw [ho, hn]) h1]

/-- A cell into a variable. -/
theorem ev_store1 (hSt : St w0 l w) (hs : (P.info? T).map (·.size) = some 1) (h : Region.wanted ⟨none, .store T (.tmp t) x, ty, ps, af, gd⟩ (yielded ops tmps) = true ∧ ∃ g i l1 l2 cs T' v,
      tmps.getD t undef = .pointer (some ⟨g, i, none⟩) ∧ Act.eval ⟨tmps, df⟩ x = v ∧ l = l1 ++ (g, Obj.cells cs T' (0, 0)) :: l2 ∧ i < cs.size ∧ v.oneCell' = true ∧
      ∀ w', St w0 (l1 ++ (g, .cells (cs.setIfInBounds i v) T' (0, 0)) :: l2) w' → wpList P ops Q rest (Act.put ⟨tmps, df⟩ none undef) w') :
    wpList P ops Q (⟨none, .store T (.tmp t) x, ty, ps, af, gd⟩ :: rest) ⟨tmps, df⟩ w := by
  obtain ⟨hw, g, i, l1, l2, cs, T', v, hx, hy, rfl, hi, h1, h⟩ := h
  have hg := hSt.blk (g := g) (o := .cells cs T' (0, 0)) (List.mem_append_right _ (List.mem_cons_self ..))
  refine wpl_run_skip hw ?_ (h (w.setRow g (cs.setIfInBounds i v)) hSt.set)
  have hx' : Act.eval ⟨tmps, df⟩ (.tmp t) = .pointer (some ⟨g, i, none⟩) := hx
  have hc : w.cell? ⟨g, i, none⟩ = some cs[i] := (cell_of_row w g i cs T' (0, 0) hg).trans (Array.getElem?_eq_getElem hi)
  have hf : w.frozen? ⟨g, i, none⟩ = false := frozen_of_row w g i cs T' hg
  have hr' : (storeVar T ⟨g, i, none⟩ v).run P w = .ok () (w.setRow g (cs.setIfInBounds i v)) := by
    rw [← setCell_eq_setRow w g i cs T' (0, 0) v hg]
    have := run_storeCells_cells (P := P) g i [v] 0 w (fun j hj => by
      have hj0 : j = 0 := by simpa using hj
      subst hj0
      simp [hc]) (fun j hj => by
      have hj0 : j = 0 := by simpa using hj
      subst hj0
      simp [hf]) (fun u hu => by
      obtain rfl := List.mem_singleton.1 hu
      exact h1)
    obtain ⟨inf, hq, hsz⟩ := Option.map_eq_some_iff.1 hs
    simp only [Nat.add_zero] at this
    simp [storeVar, sizeOf, typeInfo, hq, cells_one h1, hsz, this, World.setCells]
  simp only [execOp, hx', hy, Instr.storeAt, Instr.sureAddr, Sem.run_bind, Sem.run_pure, Result.andThen_ok, hr']
end
end Go.Proofs.Yteohokidlopbnaa
