/- The walk of (*pair).add. -/
import Derived.Test.YtaajndackdmbeaaSumA
namespace Go.Proofs.Ytaajndackdmbeaa
open Go.RowKit
set_option linter.unusedSimpArgs false

/-- All is as it was but for block g, and there may be more. -/
structure But (g : Nat) (w w' : World) : Prop where
  os : w'.os = w.os
  tape : w'.tape = w.tape
  output : w'.output = w.output
  size : w.heap.size ≤ w'.heap.size
  block : ∀ k, k < w.heap.size → k ≠ g → w'.heap[k]? = w.heap[k]?

namespace But
variable {g : Nat} {w w1 w2 : World}
theorem refl : But g w w := ⟨rfl, rfl, rfl, Nat.le_refl _, fun _ _ _ => rfl⟩
theorem below (h : But g w w1) (k : Below w1.heap.size w1 w2) : But g w w2 :=
  ⟨k.os.trans h.os, k.tape.trans h.tape, k.output.trans h.output, Nat.le_trans h.size k.size, fun i hi hg => (k.block i (Nat.lt_of_lt_of_le hi h.size)).trans (h.block i hi hg)⟩
theorem set (h : But g w w1) (cs : Array Value) : But g w (w1.setRow g cs) :=
  ⟨h.os, h.tape, h.output, by simpa using h.size, fun i hi hg => (setRow_other w1 g i cs hg).trans (h.block i hi hg)⟩
theorem cell (h : But g w w1) {x : Addr} {v : Value} (hx : w.cell? x = some v) (hg : x.block ≠ g) : w1.cell? x = some v := by
  have hlt : x.block < w.heap.size := by
    by_cases hq : x.block < w.heap.size
    · exact hq
    · exfalso
      unfold World.cell? at hx
      simp [Array.getElem?_eq_none (by omega : w.heap.size ≤ x.block)] at hx
  unfold World.cell? at hx ⊢
  rw [h.block _ hlt hg]
  exact hx
end But

set_option maxRecDepth 100000 in
set_option maxHeartbeats 800000 in
theorem add_any (g : Nat) (p : Int × Int) (l : List UInt8) (x : Addr) (cap : Nat) (w : World) (hp : okP p) (hg : w.heap[g]? = some (.cells (pc p) 41 (0, 0))) (hne : x.block ≠ g)
    (hl : ∀ (j : Nat) (h : j < l.length), w.cell? (x.add j) = some (.int .u8 (l[j].toNat : Int))) (hs : l.length ≤ 9223372036854775807) :
    Calls Try.prog 16 #[.pointer (some ⟨g, 0, none⟩), .slice (some x) l.length cap] w fun e w' => (e = .returned undef ∧ But g w w') ∧ w'.heap[g]? = some (.cells (pc (sm p l)) 41 (0, 0)) := by
  go_enter Try.func16, Try.ntmps16
  go_wp2
  go_loopw [8] (fun i wr => ∃ k : Nat, k ≤ l.length ∧ i = .int .i64 k ∧ But g w wr ∧ wr.heap[g]? = some (.cells (pc (sm p (l.take k))) 41 (0, 0))) (fun i _ => l.length - (intOf i).toNat)
  case atStart => exact ⟨0, Nat.zero_le _, rfl, But.refl, hg⟩
  case round =>
    obtain ⟨k, hk, rfl, hbt, hgr⟩ := hrel
    have hq0 := okP_sm (l.take k) _ hp
    generalize hq : sm p (l.take k) = q at hq0 hgr ⊢
    obtain ⟨p1, p2, p3, p4⟩ := hq0
    by_cases hlt : k < l.length
    · have hb := byte_lt l[k]
      have hc := hbt.cell (hl k hlt) (by unfold Addr.add; split <;> exact hne)
      have hga := cell_of_row wr g 0 _ _ _ hgr
      have hgb := cell_of_row wr g 1 _ _ _ hgr
      have hgf := fun i => frozen_of_row wr g i _ _ hgr
      simp only [pc] at hga hgb
      go_wp2
      rw [setCell_eq_setRow wr g 0 _ _ _ _ hgr]
      have hb1 := hbt.set #[.int .u32 ((q.1 + (l[k].toNat : Int)) % 65535), .int .u32 q.2]
      have hg1 : (wr.setRow g #[.int .u32 ((q.1 + (l[k].toNat : Int)) % 65535), .int .u32 q.2]).heap[g]? = some (.cells #[.int .u32 ((q.1 + (l[k].toNat : Int)) % 65535), .int .u32 q.2] 41 (0, 0)) := setRow_heap wr g _ _ _ _ hgr
      change Code.wp _ _ _ _ (wr.setRow g #[.int .u32 ((q.1 + (l[k].toNat : Int)) % 65535), .int .u32 q.2])
      generalize wr.setRow g #[.int .u32 ((q.1 + (l[k].toNat : Int)) % 65535), .int .u32 q.2] = w1 at hb1 hg1 ⊢
      refine wp_region_rel (S := fun w' => Below w1.heap.size w1 w') [23, 24, 25, 26, 27, 28, 29, 30, 31, 32, 33, 34, 35] Try.mixed (by kernel_rfl) (by kernel_rfl) (by decide) (by kernel_rfl) (fun _ _ h k => h.trans (k.mono h.size)) (Below.refl _ _).drew ?_
      repeat (first | (refine rel_eq (v := undef) ?_ ?_; (focus ((simp only [Lay, List.nil_append, List.cons_append, List.setIfInBounds_toArray, List.set_cons_succ, List.set_cons_zero]; intros; rename_i w9 hS hF; simp only [FactsE, List.nil_append, List.cons_append, List.toList_toArray, List.getElem?_cons_succ, List.getElem?_cons_zero] at hF; try (repeat (obtain ⟨rfl, hF⟩ := hF))); exact step_skip rfl rfl))) | (refine rel_eq (v := ?_) ?_ ?_; rotate_left; (focus ((simp only [Lay, List.nil_append, List.cons_append, List.setIfInBounds_toArray, List.set_cons_succ, List.set_cons_zero]; intros; rename_i w9 hS hF; simp only [FactsE, List.nil_append, List.cons_append, List.toList_toArray, List.getElem?_cons_succ, List.getElem?_cons_zero] at hF; try (repeat (obtain ⟨rfl, hF⟩ := hF))); refine step_take rfl (of_decide_eq_true rfl) ?_; (have hgc := blk_of hS hg1; have hc0 := cell_of_row w9 g 0 _ _ _ hgc; have hc1 := cell_of_row w9 g 1 _ _ _ hgc); go_wp2_with (first | fail); refine RQ_mk rfl ?_ ?_; (focus (first | exact Below.refl _ _ | assumption)); (focus (first | (simp only [Array.getD_eq_getD_getElem?, List.getElem?_toArray, List.getElem?_cons_succ, List.getElem?_cons_zero, Option.getD_some]; done) | (simp only [Array.getD_eq_getD_getElem?, List.getElem?_toArray, List.getElem?_cons_succ, List.getElem?_cons_zero, Option.getD_some]; rfl) | rfl))))))
      refine rel_end ?_
      (simp only [Lay, List.nil_append, List.cons_append, List.setIfInBounds_toArray, List.set_cons_succ, List.set_cons_zero]; intros; rename_i w9 hS hF; simp only [FactsA, List.nil_append, List.cons_append] at hF; try (repeat (obtain ⟨rfl, hF⟩ := hF)))
      (have hgc := blk_of hS hg1; have hc0 := cell_of_row w9 g 0 _ _ _ hgc; have hc1 := cell_of_row w9 g 1 _ _ _ hgc)
      have hf0 := frozen_of_row w9 g 1 _ _ hgc
      go_wp2
      rw [setCell_eq_setRow w9 g 1 _ _ _ _ hgc]
      go_roundw
      case rel =>
        have hv := setRow_heap w9 g _ #[.int .u32 ((q.1 + (l[k].toNat : Int)) % 65535), .int .u32 ((q.2 + (q.1 + (l[k].toNat : Int))) % 65535)] _ _ hgc
        refine ⟨k + 1, by omega, by go_num, (hb1.below hS).set _, ?_⟩
        rw [List.take_succ_eq_append_getElem hlt, sm_snoc, hq]
        refine hv.trans ?_
        have e : (q.2 + (q.1 + (l[k].toNat : Int))) % 65535 = (q.2 + (q.1 + (l[k].toNat : Int)) % 65535) % 65535 := by omega
        rw [e]
        rfl
      case measure => simp [intOf]; omega
    · go_wp2
      go_end0
      obtain rfl : k = l.length := by omega
      rw [List.take_length] at hq
      exact ⟨⟨rfl, hbt⟩, by rw [hq]; exact hgr⟩
end Go.Proofs.Ytaajndackdmbeaa
