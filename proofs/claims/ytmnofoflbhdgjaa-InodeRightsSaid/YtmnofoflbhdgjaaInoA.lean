/- The walk of (Inode).fields: places, sizes and addresses of an inode's numbers. -/
import Derived.Test.YtmnofoflbhdgjaaProg
import Derived.Test.YtmnofoflbhdgjaaRel
import Derived.Test.YtmnofoflbhdgjaaSt
import Derived.Maps.AppendAt
import Derived.OwnWalk
import Derived.WalkSpells
namespace Go.Proofs.Ytmnofoflbhdgjaa
open Go.RowKit
set_option linter.unusedSimpArgs false
set_option linter.unusedVariables false

theorem Try.mixedI : Try.prog.follows .mixedOrders = true := by kernel_rfl
def fAt (j : Nat) : Int := [0, 2, 4, 6, 8, 20, 22, 12, 14, 16, 18].getD j 0
def fSz (j : Nat) : Int := [1, 2, 2, 2, 4, 2, 2, 2, 2, 2, 2].getD j 0
def fOff (j : Nat) : Nat := [0, 1, 2, 3, 4, 9, 10, 5, 6, 7, 8].getD j 0
def fcell (g j : Nat) : List Value := [.int .i64 (fAt j), .int .i64 (fSz j), .pointer (some ⟨g, fOff j, none⟩)]
def frow (g n : Nat) : List Value := (List.range n).flatMap (fcell g)
theorem frow_succ (g n : Nat) : frow g (n + 1) = frow g n ++ fcell g n := by simp [frow, List.range_succ]
theorem frow_len (g : Nat) : ∀ n, (frow g n).length = n * 3
  | 0 => rfl
  | n + 1 => by rw [frow_succ, List.length_append, frow_len g n]; simp [fcell]; omega

/-- A slice of new blocks of n elements. -/
def NewS (B n : Nat) (o : Obj) : VR := fun v w => ∃ g, v = .slice (some ⟨g, 0, none⟩) n n ∧ B ≤ g ∧ w.heap[g]? = some o
theorem newS_stable (B n : Nat) (o : Obj) : Stable (NewS B n o) := fun _ _ _ ⟨g, h1, h2, h3⟩ hb => ⟨g, h1, h2, blk_of hb h3⟩

theorem Try.infoF : (Try.prog.info? 95).map (fun i => (i.zero, i.size, i.bytes)) = some (some (.agg #[.int .i64 0, .int .i64 0, .pointer none]), 3, 24) := by kernel_rfl

theorem cells_new (w : World) (cs : List Value) (t : TypeId) : ∀ j u, cs[j]? = some u → (w.alloc (.cells cs.toArray t)).cell? ((⟨w.heap.size, 0, none⟩ : Addr).add j) = some u := by
  intro j u h
  rw [Addr.add_mid, cell_of_row _ _ _ _ _ _ (heap_alloc_last w _), Nat.zero_add]
  simpa using h

theorem ownsRow_below {w w' : World} {B e size n : Nat} {v : Value} {xs : List Value} (h : w.ownsRow B e size v n xs) (hb : Below w.heap.size w w') : w'.ownsRow B e size v n xs := by
  refine ⟨h.1, ?_⟩
  rcases h.2 with hn | ⟨g, cap, cur, rfl, h1, h2, rest⟩
  · exact .inl hn
  · exact .inr ⟨g, cap, cur, rfl, h1, blk_of hb h2, rest⟩

set_option maxRecDepth 100000 in
set_option maxHeartbeats 1600000 in
theorem fields_any (g : Nat) (w : World) :
    Calls Try.prog 49 #[.pointer (some ⟨g, 0, none⟩)] w fun e w' => ∃ v, e = .returned v ∧ Below w.heap.size w w' ∧ w'.ownsRow w.heap.size 95 3 v 11 (frow g 11) := by
  obtain ⟨i0, hi0, hz0⟩ := Option.map_eq_some_iff.1 Try.infoF
  simp only [Prod.mk.injEq] at hz0
  obtain ⟨hz1, hz2, hz3⟩ := hz0
  go_enter Try.func49, Try.ntmps49
  go_wp2
  refine wp_region_rel (S := fun w' => Below w.heap.size w w') [5, 6, 7, 8, 9, 10, 11, 12, 13, 14, 15, 16, 17, 18, 19, 20, 21, 22, 23, 24, 25, 26, 27, 28, 29, 30, 31, 32, 33] Try.mixedI (by kernel_rfl) (by kernel_rfl) (by decide) (by kernel_rfl) (fun _ _ h k => h.trans (k.mono h.size)) (Below.refl _ _).drew ?_
  iterate 28 (refine rel_eq (v := ?_) ?_ ?_; rotate_left; (focus ((simp only [Lay, List.nil_append, List.cons_append, List.setIfInBounds_toArray, List.set_cons_succ, List.set_cons_zero]; intros; rename_i w9 hS hF; simp only [FactsE, List.nil_append, List.cons_append, List.toList_toArray, List.getElem?_cons_succ, List.getElem?_cons_zero] at hF; try (repeat (first | obtain ⟨rfl, hF⟩ := hF | obtain ⟨⟨gE, rfl, hgE1, hgE2⟩, hF⟩ := hF))); refine step_take rfl (of_decide_eq_true rfl) ?_; skip; go_wp2_with (first | fail); refine RQ_mk rfl ?_ ?_; (focus (first | exact Below.refl _ _ | assumption)); (focus (first | (simp only [Array.getD_eq_getD_getElem?, List.getElem?_toArray, List.getElem?_cons_succ, List.getElem?_cons_zero, Option.getD_some]; done) | (simp only [Array.getD_eq_getD_getElem?, List.getElem?_toArray, List.getElem?_cons_succ, List.getElem?_cons_zero, Option.getD_some]; rfl) | rfl)))))
  refine rel_any (NewS w.heap.size 7 (.cells (frow g 7).toArray 95 (0, 0))) (newS_stable _ _ _) ?_ ?_
  · (simp only [Lay, List.nil_append, List.cons_append, List.setIfInBounds_toArray, List.set_cons_succ, List.set_cons_zero]; intros; rename_i w9 hS hF; simp only [FactsE, List.nil_append, List.cons_append, List.toList_toArray, List.getElem?_cons_succ, List.getElem?_cons_zero] at hF; try (repeat (first | obtain ⟨rfl, hF⟩ := hF | obtain ⟨⟨gE, rfl, hgE1, hgE2⟩, hF⟩ := hF)))
    refine step_take rfl (of_decide_eq_true rfl) ?_
    go_wp2
    refine RQ_mk rfl ((Below.refl _ _).alloc (Nat.le_refl _) _) ?_
    simp only [Array.getD_eq_getD_getElem?, List.getElem?_toArray, List.getElem?_cons_succ, List.getElem?_cons_zero, Option.getD_some]
    exact ⟨_, rfl, hS.size, heap_alloc_last _ _⟩
  refine rel_end ?_
  (simp only [Lay, List.nil_append, List.cons_append, List.setIfInBounds_toArray, List.set_cons_succ, List.set_cons_zero]; intros; rename_i w9 hS hF; simp only [FactsA, List.nil_append, List.cons_append] at hF; try (repeat (first | obtain ⟨rfl, hF⟩ := hF | obtain ⟨⟨gE, rfl, hgE1, hgE2⟩, hF⟩ := hF)))
  have hrow : w9.ownsRow w.heap.size 95 3 (.slice (some ⟨gE, 0, none⟩) 7 7) 7 (frow g 7) := ⟨frow_len g 7, .inr ⟨gE, 7, _, rfl, hgE1, hgE2, Nat.le_refl _, by unfold maxLen; omega, by simp [frow_len], by simp [frow_len, List.take_of_length_le]⟩⟩
  go_wp2
  go_loopw [34, 3] (fun i v wr => ∃ k : Nat, k ≤ 4 ∧ i = .int .i64 k ∧ Below w.heap.size w wr ∧ wr.ownsRow w.heap.size 95 3 v (7 + k) (frow g (7 + k))) (fun i _ _ => 4 - (intOf i).toNat)
  case atStart => exact ⟨0, by omega, rfl, hS, hrow⟩
  case round =>
    obtain ⟨k, hk, rfl, hbr, hown⟩ := hrel
    by_cases hlt : k < 4
    · have e1 : wrap64 (2 * (k : Int)) = 2 * (k : Int) := by unfold wrap64; omega
      have e2 : wrap64 (12 + 2 * (k : Int)) = 12 + 2 * (k : Int) := by unfold wrap64; omega
      have hfc : fcell g (7 + k) = [.int .i64 (12 + 2 * k), .int .i64 2, .pointer (some ⟨g, 5 + k, none⟩)] := by
        rcases (by omega : k = 0 ∨ k = 1 ∨ k = 2 ∨ k = 3) with rfl | rfl | rfl | rfl <;> rfl
      have hsz := hbr.size
      go_wp2_with (at_builtin; refine wpList_append_own_at _ rfl _ _ 91 rfl w.heap.size 95 i0 _ 3 24 Try.underlying91 hi0 hz1 hz2 hz3 rfl (by decide) _ _ _ rfl (hown.alloc _) ⟨wr.heap.size, 0, none⟩ 1 1 [.int .i64 (12 + 2 * k), .int .i64 2, .pointer (some ⟨g, 5 + k, none⟩)] rfl rfl (cells_new _ _ _) (by intro u hu; simp at hu; rcases hu with rfl | rfl | rfl <;> rfl) (by unfold maxLen; omega) (by omega) (by simp; omega) ?_; intro v' w1 hown' hgrow hnil hloc)
      go_roundw
      case rel =>
        rw [← hfc, Nat.add_assoc, ← frow_succ] at hown'
        refine ⟨k + 1, by omega, by go_num, ?_, hown'⟩
        have hb2 := hbr.alloc hbr.size (.cells #[.int .i64 (12 + 2 * k), .int .i64 2, .pointer (some ⟨g, 5 + k, none⟩)] 95)
        exact hb2.grown hgrow hb2.size (fun j hj => (hown.lt j hj).1)
      case measure => simp [intOf]; omega
    · obtain rfl : k = 4 := by omega
      go_wp2
      go_ret
      exact ⟨_, rfl, hbr, hown⟩
end Go.Proofs.Ytmnofoflbhdgjaa
