/- Chapter 07: walk, Count, First. -/
import Derived.Test.YtmnofoflbhdgjaaBitD
import Derived.RangeFuncFrom
import Derived.RangeFuncWrites
namespace Go.Proofs.Ytmnofoflbhdgjaa
open Go.RowKit Go.Shelf
set_option linter.unusedSimpArgs false
set_option linter.unusedVariables false
attribute [local go_sem] Oper.semAt_some

theorem cell_new_l (W : World) (v : Value) (t : TypeId) : (W.alloc (.cells #[v] t)).cell? ⟨W.heap.size, 0, none⟩ = some v ∧ (W.alloc (.cells #[v] t)).frozen? ⟨W.heap.size, 0, none⟩ = false :=
  ⟨(cell_of_row _ _ 0 _ _ _ (heap_alloc_last W _)).trans rfl, frozen_of_row _ _ 0 _ _ (heap_alloc_last W _)⟩
theorem cell_alloc_l {W : World} {a : Addr} {v : Value} (o : Obj) (h : W.cell? a = some v) : (W.alloc o).cell? a = some v := (((Below.refl _ W).alloc (Nat.le_refl _) o).cell (cell_lt h)).trans h
/-- The boxes of a walk. -/
def boxes (fr to : Int) (on : Bool) (v : Value) (w : World) : World := (((w.alloc (.cells #[.int .i64 fr] 3)).alloc (.cells #[.int .i64 to] 3)).alloc (.cells #[.bool on] 4)).alloc (.cells #[v] 49)
set_option maxRecDepth 100000 in
set_option maxHeartbeats 2000000 in
theorem walk_in (fr to : Int) (on : Bool) (a : Option Addr) (m cap : Nat) (w : World) :
    Calls Try.prog 55 #[.int .i64 fr, .int .i64 to, .bool on, .slice a m cap] w fun e w' => e = .returned (.func (.func 62) #[] #[.pointer (some ⟨w.heap.size, 0, none⟩), .pointer (some ⟨w.heap.size + 1, 0, none⟩), .pointer (some ⟨w.heap.size + 1 + 1 + 1, 0, none⟩), .pointer (some ⟨w.heap.size + 1 + 1, 0, none⟩)]) ∧
      w' = boxes fr to on (.slice a m cap) w := by
  unfold boxes
  go_enter Try.func55, Try.ntmps55
  go_wp2
  go_ret
  exact ⟨rfl, rfl⟩

/-- All blocks that were, but one. -/
structure KB (n₀ b : Nat) (w w' : World) : Prop where
  os : w'.os = w.os
  tape : w'.tape = w.tape
  output : w'.output = w.output
  size : w.heap.size ≤ w'.heap.size
  heap : ∀ k, k < n₀ → k ≠ b → w'.heap[k]? = w.heap[k]?
theorem KB.trans {n₀ b : Nat} (A B C : World) (h : KB n₀ b A B) (h' : KB n₀ b B C) : KB n₀ b A C :=
  ⟨h'.os.trans h.os, h'.tape.trans h.tape, h'.output.trans h.output, Nat.le_trans h.size h'.size, fun k hk hb => (h'.heap k hk hb).trans (h.heap k hk hb)⟩
theorem KB.of {n₀ b : Nat} {A B : World} (hn : n₀ ≤ A.heap.size) (h : Below A.heap.size A B) : KB n₀ b A B := by
  obtain ⟨a1, a2, a3, a4, a5⟩ := h
  exact ⟨a1, a2, a3, a4, fun k hk _ => a5 k (by omega)⟩
theorem KB.cell {n₀ b : Nat} {A B : World} (h : KB n₀ b A B) {p : Addr} (hp : p.block < n₀) (hb : p.block ≠ b) : B.cell? p = A.cell? p := by
  unfold World.cell?
  rw [h.heap _ hp hb]

theorem walk_stops (n : Nat) (hn : 1 ≤ n) (bf bt bl bo cap : Nat) (fr to : Int) (on : Bool) (a : Option Addr) (ps : List PgT) (hps : ps.length ≤ 100) (KP : World → World → Prop) (hKt : ∀ A B C, KP A B → KP B C → KP A C) (hKB : ∀ A B, Below A.heap.size A B → KP A B) (w : World)
    (hf : ∀ W, Below w.heap.size w W → W.cell? ⟨bf, 0, none⟩ = some (.int .i64 fr)) (hk : ∀ W, KP w W → W.cell? ⟨bt, 0, none⟩ = some (.int .i64 to) ∧ W.cell? ⟨bl, 0, none⟩ = some (.slice a ps.length cap) ∧ W.cell? ⟨bo, 0, none⟩ = some (.bool on) ∧ PgSl W a ps) :
    SeqStopsK FW n Try.prog 62 #[.pointer (some ⟨bf, 0, none⟩), .pointer (some ⟨bt, 0, none⟩), .pointer (some ⟨bl, 0, none⟩), .pointer (some ⟨bo, 0, none⟩)] (fun x : Nat => #[Value.int .i64 x]) KP (fun ys => ys = fndA ps fr to on) (fun pre => pre <+: fndA ps fr to on) (fndA ps fr to on).length w := fun l J Jx W hW hJ hJx hY h0 =>
  walk1_in n hn l bf bt bl bo cap fr to on a ps hps J Jx KP hKt hKB W (fun s W1 W2 hj hb => hJ s W1 W2 none hj (grown_none hb) (fun r e => by cases e)) hY (hf W hW) (fun W' h => hk W' (hKt _ _ _ (hKB _ _ hW) h)) h0

/-- .. where that many are. -/
def KPn (n₀ b : Nat) (A B : World) : Prop := n₀ ≤ A.heap.size → KB n₀ b A B
theorem KPn.trans {n₀ b : Nat} (A B C : World) (h : KPn n₀ b A B) (h' : KPn n₀ b B C) : KPn n₀ b A C := fun hn => (h hn).trans _ _ _ (h' (Nat.le_trans hn (h hn).size))
theorem KPn.of {n₀ b : Nat} (A B : World) (h : Below A.heap.size A B) : KPn n₀ b A B := fun hn => KB.of hn h
theorem KPn.put {n₀ b : Nat} (W : World) (l : Nat) (o' : Obj) (h : n₀ ≤ l) : KPn n₀ b W (W.putObj l o') := fun _ =>
  ⟨rfl, rfl, rfl, by simp, fun k hk _ => World.putObj_heap_other (fun e => by omega)⟩
theorem KPn.set {n₀ b o : Nat} (W : World) (v : Value) : KPn n₀ b W (W.setCell ⟨b, o, none⟩ v) := fun _ =>
  ⟨rfl, rfl, rfl, by simp, fun k _ hb => by simp only [World.setCell]; rw [Array.getElem?_modify, if_neg (fun e => hb e.symm)]⟩

theorem boxes_size (fr to : Int) (on : Bool) (v : Value) (w : World) : (boxes fr to on v w).heap.size = w.heap.size + 4 := by simp [boxes]
theorem boxes_below (fr to : Int) (on : Bool) (v : Value) (w : World) : Below w.heap.size w (boxes fr to on v w) := by
  unfold boxes
  exact ((((Below.refl _ w).alloc (Nat.le_refl _) _).alloc (by simp) _).alloc (by simp; omega) _).alloc (by simp; omega) _
theorem boxes_cells (fr to : Int) (on : Bool) (v : Value) (w : World) : (boxes fr to on v w).cell? ⟨w.heap.size, 0, none⟩ = some (.int .i64 fr) ∧ (boxes fr to on v w).cell? ⟨w.heap.size + 1, 0, none⟩ = some (.int .i64 to) ∧ (boxes fr to on v w).cell? ⟨w.heap.size + 1 + 1 + 1, 0, none⟩ = some v ∧ (boxes fr to on v w).cell? ⟨w.heap.size + 1 + 1, 0, none⟩ = some (.bool on) := by
  have c0 := cell_new_l w (.int .i64 fr) 3
  have c1 := cell_new_l (w.alloc (.cells #[.int .i64 fr] 3)) (.int .i64 to) 3
  have c2 := cell_new_l ((w.alloc (.cells #[.int .i64 fr] 3)).alloc (.cells #[.int .i64 to] 3)) (.bool on) 4
  have c3 := cell_new_l (((w.alloc (.cells #[.int .i64 fr] 3)).alloc (.cells #[.int .i64 to] 3)).alloc (.cells #[.bool on] 4)) v 49
  simp only [World.size_alloc] at c1 c2 c3
  exact ⟨cell_alloc_l _ (cell_alloc_l _ (cell_alloc_l _ c0.1)), cell_alloc_l _ (cell_alloc_l _ c1.1), c3.1, cell_alloc_l _ c2.1⟩
/-- The contract of the walk in the boxes laid at w; b: the loop's own cell, laid ahead of them. -/
theorem boxes_stops (n : Nat) (hn : 1 ≤ n) (b cap : Nat) (fr to : Int) (on : Bool) (a : Option Addr) (ps : List PgT) (hps : ps.length ≤ 100) (w : World) (hb : b < w.heap.size) (hl : ∀ W, (∀ k, k < w.heap.size → k ≠ b → W.heap[k]? = w.heap[k]?) → PgSl W a ps) :
    SeqStopsK FW n Try.prog 62 #[.pointer (some ⟨w.heap.size, 0, none⟩), .pointer (some ⟨w.heap.size + 1, 0, none⟩), .pointer (some ⟨w.heap.size + 1 + 1 + 1, 0, none⟩), .pointer (some ⟨w.heap.size + 1 + 1, 0, none⟩)] (fun x : Nat => #[Value.int .i64 x]) (KPn (w.heap.size + 4) b) (fun ys => ys = fndA ps fr to on) (fun pre => pre <+: fndA ps fr to on) (fndA ps fr to on).length (boxes fr to on (.slice a ps.length cap) w) := by
  obtain ⟨c1, c2, c3, c4⟩ := boxes_cells fr to on (.slice a ps.length cap) w
  have hsz := boxes_size fr to on (.slice a ps.length cap) w
  have hbl := boxes_below fr to on (.slice a ps.length cap) w
  refine walk_stops n hn _ _ _ _ cap fr to on a ps hps _ KPn.trans KPn.of _ (fun W hW => (hW.cell (p := ⟨w.heap.size, 0, none⟩) (by simp only; omega)).trans c1) fun W hW => ?_
  have hK := hW (by omega)
  refine ⟨(hK.cell (p := ⟨w.heap.size + 1, 0, none⟩) (by simp only; omega) (by simp only; omega)).trans c2, (hK.cell (p := ⟨w.heap.size + 1 + 1 + 1, 0, none⟩) (by simp only; omega) (by simp only; omega)).trans c3, (hK.cell (p := ⟨w.heap.size + 1 + 1, 0, none⟩) (by simp only; omega) (by simp only; omega)).trans c4, hl W fun k hk hb' => ?_⟩
  rw [hK.heap k (by omega) hb']
  obtain ⟨-, -, -, -, a5⟩ := hbl
  exact a5 k hk
end Go.Proofs.Ytmnofoflbhdgjaa
