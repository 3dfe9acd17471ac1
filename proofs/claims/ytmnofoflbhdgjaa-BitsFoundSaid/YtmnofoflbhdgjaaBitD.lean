/- Chapter 07: walk: an iterator over bits. -/
import Derived.RangeFuncNested
import Derived.RangeFuncBound
import Derived.RangeFuncCalls
import Derived.RangeFuncLeaves
import Derived.Shelf.Abstract
import Derived.Shelf.RegionOpen
import Derived.WalkKit
import Derived.OwnWalkIn
import Derived.TacticsInMore
import Derived.LoopNIn
import Derived.LoopIn
import Derived.Test.YtmnofoflbhdgjaaBitC
import Derived.Test.YtmnofoflbhdgjaaRelI
namespace Go.Proofs.Ytmnofoflbhdgjaa
open Go.RowKit Go.Shelf
set_option linter.unusedSimpArgs false
set_option linter.unusedVariables false
attribute [local go_sem] Oper.semAt_some

abbrev FW : Fence := Fence.wide
/-- The bits that are `on` between two places, below k. -/
def fnd (ps : List PgT) (fr to : Int) (on : Bool) (k : Nat) : List Nat := (List.range (min k (512 * ps.length))).filter fun j => decide (fr ≤ (j : Int) ∧ (j : Int) < to) && (bitP ps j == on)
def fndA (ps : List PgT) (fr to : Int) (on : Bool) : List Nat := fnd ps fr to on (512 * ps.length)
theorem fnd_succ (ps : List PgT) (fr to : Int) (on : Bool) (k : Nat) (h : k < 512 * ps.length) : fnd ps fr to on (k + 1) = fnd ps fr to on k ++ (if decide (fr ≤ (k : Int) ∧ (k : Int) < to) && (bitP ps k == on) then [k] else []) := by
  unfold fnd
  rw [Nat.min_eq_left (by omega), Nat.min_eq_left (by omega), List.range_succ, List.filter_append]
  congr 1
  rw [List.filter_cons, List.filter_nil]
theorem fnd_start (ps : List PgT) (fr to : Int) (on : Bool) (k : Nat) (h : (k : Int) ≤ fr ∨ k = 0) : fnd ps fr to on k = [] := by
  unfold fnd
  refine List.filter_eq_nil_iff.2 fun j hj => ?_
  have := List.mem_range.1 hj
  rcases h with h | h
  · have e : decide (fr ≤ (j : Int) ∧ (j : Int) < to) = false := decide_eq_false (by omega)
    simp [e]
  · omega
theorem fnd_end (ps : List PgT) (fr to : Int) (on : Bool) (k : Nat) (h : to ≤ (k : Int) ∨ 512 * ps.length ≤ k) : fnd ps fr to on k = fndA ps fr to on := by
  unfold fndA fnd
  rw [Nat.min_self]
  by_cases hk : 512 * ps.length ≤ k
  · rw [Nat.min_eq_right hk]
  · rw [Nat.min_eq_left (by omega)]
    obtain ⟨r, hr⟩ : ∃ r, 512 * ps.length = k + r := ⟨512 * ps.length - k, by omega⟩
    rw [hr, List.range_add, List.filter_append]
    have : ((List.range r).map (k + ·)).filter (fun j : Nat => decide (fr ≤ (j : Int) ∧ (j : Int) < to) && (bitP ps j == on)) = [] := by
      refine List.filter_eq_nil_iff.2 fun j hj => ?_
      obtain ⟨q, -, rfl⟩ := List.mem_map.1 hj
      have e : decide (fr ≤ ((k + q : Nat) : Int) ∧ ((k + q : Nat) : Int) < to) = false := decide_eq_false (by omega)
      rw [e]
      simp
    rw [this, List.append_nil]
theorem fnd_le (ps : List PgT) (fr to : Int) (on : Bool) (k : Nat) : (fnd ps fr to on k).length ≤ (fndA ps fr to on).length := by
  unfold fndA fnd
  rw [Nat.min_self]
  refine (List.Sublist.length_le ?_)
  refine List.Sublist.filter _ ?_
  exact List.range_sublist.2 (Nat.min_le_right _ _)
theorem fnd_prefix (ps : List PgT) (fr to : Int) (on : Bool) (k : Nat) : fnd ps fr to on k <+: fndA ps fr to on := by
  unfold fndA fnd
  rw [Nat.min_self]
  obtain ⟨r, hr⟩ : ∃ r, 512 * ps.length = min k (512 * ps.length) + r := ⟨512 * ps.length - min k (512 * ps.length), by omega⟩
  generalize min k (512 * ps.length) = m at *
  rw [hr, List.range_add, List.filter_append]
  exact List.prefix_append _ _
theorem grown_none {w w' : World} (h : Below w.heap.size w w') : w.grownBy w' none := by
  obtain ⟨a1, a2, a3, a4, a5⟩ := h
  exact ⟨a1, a2, a3, a4, fun k hk _ => a5 k hk⟩

set_option maxRecDepth 100000 in
set_option maxHeartbeats 4000000 in
theorem walk1_in (n : Nat) (hn : 1 ≤ n) (l bf bt bl bo cap : Nat) (fr to : Int) (on : Bool) (a : Option Addr) (ps : List PgT) (hps : ps.length ≤ 100) (J Jx : List Nat → World → Prop) (KP : World → World → Prop) (hKt : ∀ A B C, KP A B → KP B C → KP A C) (hKB : ∀ A B, Below A.heap.size A B → KP A B) (W : World) (hJB : ∀ s W1 W2, J s W1 → Below W1.heap.size W1 W2 → J s W2)
    (hY : ∀ pre x W1, J pre W1 → pre.length < (fndA ps fr to on).length → YieldAt FW (n - 1) Try.prog l #[.int .i64 (x : Nat)] W1 fun e W' =>
      (e = .returned (.bool true) ∧ J (pre ++ [x]) W' ∧ KP W1 W') ∨ (e = .returned (.bool false) ∧ Jx (pre ++ [x]) W'))
    (hf : W.cell? ⟨bf, 0, none⟩ = some (.int .i64 fr)) (hk : ∀ W', KP W W' → W'.cell? ⟨bt, 0, none⟩ = some (.int .i64 to) ∧ W'.cell? ⟨bl, 0, none⟩ = some (.slice a ps.length cap) ∧ W'.cell? ⟨bo, 0, none⟩ = some (.bool on) ∧ PgSl W' a ps) (h0 : J [] W) :
    CallsIn FW n Try.prog 62 #[.func (.yield l) #[] #[], .pointer (some ⟨bf, 0, none⟩), .pointer (some ⟨bt, 0, none⟩), .pointer (some ⟨bl, 0, none⟩), .pointer (some ⟨bo, 0, none⟩)] W fun e W' => (∃ v, e = .returned v) ∧
      ((∃ ys, ys = fndA ps fr to on ∧ J ys W') ∨ (∃ pre, pre <+: fndA ps fr to on ∧ Jx pre W')) := by
  refine callsIn_of_wp Try.func62 rfl trivial ?_ rfl
  simp only [Try.ntmps62, List.size_toArray, List.length_cons, List.length_nil, Nat.reduceAdd, Nat.reduceSub, Array.replicate_succ, Array.replicate_zero, List.push_toArray, List.append_toArray, List.nil_append, List.cons_append]
  gi_wp2
  all_goals
    gi_loopw [6] (fun i wr => ∃ k : Nat, i = .int .i64 k ∧ fr ≤ k ∧ J (fnd ps fr to on k) wr ∧ KP W wr) (fun i _ => 512 * ps.length - (intOf i).toNat)
    case atStart => first
      | exact ⟨0, rfl, by omega, by rw [fnd_start _ _ _ _ _ (.inr rfl)]; exact h0, hKB _ _ (Below.refl _ _)⟩
      | exact ⟨fr.toNat, by rw [Int.toNat_of_nonneg (by assumption)], by omega, by rw [fnd_start _ _ _ _ _ (.inl (by omega))]; exact h0, hKB _ _ (Below.refl _ _)⟩
    case round =>
      obtain ⟨k, rfl, hfk, hJs, hnx⟩ := hrel
      obtain ⟨ht', hlc', ho', hlw⟩ := hk _ hnx
      by_cases hc : (k : Int) < to ∧ k < 512 * ps.length
      · have hG := fun w' hb' => get_in k a ps cap w' hps (hlw.ext hb') hc.2
        have hs := fnd_succ ps fr to on k hc.2
        rw [decide_eq_true (And.intro hfk hc.1), Bool.true_and] at hs
        obtain ⟨hc1, hc2⟩ := hc
        have hmx : Try.prog.follows .mixedOrders = true := by kernel_rfl
        have hY1 := fun w1 hb' hlen => hY _ k w1 (hJB _ _ w1 hJs hb') hlen
        have hle := fnd_le ps fr to on (k + 1)
        have hpre := fnd_prefix ps fr to on (k + 1)
        generalize hbe : bitP ps k = b at hG hs
        clear hY
        cases b <;> cases on
        all_goals first | rw [if_pos (by rfl)] at hs | rw [if_neg (by decide), List.append_nil] at hs
        all_goals gi_wp2
        all_goals
          refine wp_region_relI (nn := n) (S := fun w' => Below wr.heap.size wr w') [18, 19, 20, 21, 22, 23, 24, 25] hmx (by kernel_rfl) (by kernel_rfl) (by decide) (by kernel_rfl) (fun _ _ h k => h.trans (k.mono h.size)) (Below.refl _ _).drew ?_
          iterate 6 (refine rel_eqI (v := ?_) ?_ ?_; rotate_left; (focus ((simp only [Lay, List.nil_append, List.cons_append, List.setIfInBounds_toArray, List.set_cons_succ, List.set_cons_zero]; intros; rename_i w9 hS hF; simp only [FactsE, List.nil_append, List.cons_append, List.toList_toArray, List.getElem?_cons_succ, List.getElem?_cons_zero] at hF; try (repeat (first | obtain ⟨rfl, hF⟩ := hF | obtain ⟨-, hF⟩ := hF))); refine step_take rfl (of_decide_eq_true rfl) ?_; (have hl9 := (hS.cell (cell_lt hlc')).trans hlc'; have ho9 := (hS.cell (cell_lt ho')).trans ho'); go_wp2_with (first | (go_at_call 28; refine (hG _ hS).mono ?_; rintro e w1 ⟨rfl, hb1⟩)); refine RQ_mk rfl ?_ ?_; (focus first | exact hb1 | exact Below.refl _ _); (focus (first | (simp only [Array.getD_eq_getD_getElem?, List.getElem?_toArray, List.getElem?_cons_succ, List.getElem?_cons_zero, Option.getD_some]; done) | (simp only [Array.getD_eq_getD_getElem?, List.getElem?_toArray, List.getElem?_cons_succ, List.getElem?_cons_zero, Option.getD_some]; rfl) | rfl)))))
          first | (iterate 2 (refine rel_eqI (v := ?_) ?_ ?_; rotate_left; (focus ((simp only [Lay, List.nil_append, List.cons_append, List.setIfInBounds_toArray, List.set_cons_succ, List.set_cons_zero]; intros; rename_i w9 hS hF; simp only [FactsE, List.nil_append, List.cons_append, List.toList_toArray, List.getElem?_cons_succ, List.getElem?_cons_zero] at hF; try (repeat (first | obtain ⟨rfl, hF⟩ := hF | obtain ⟨-, hF⟩ := hF))); refine step_take rfl (of_decide_eq_true rfl) ?_; (have hl9 := (hS.cell (cell_lt hlc')).trans hlc'; have ho9 := (hS.cell (cell_lt ho')).trans ho'); go_wp2_with (first | (go_at_call 28; refine (hG _ hS).mono ?_; rintro e w1 ⟨rfl, hb1⟩)); refine RQ_mk rfl ?_ ?_; (focus first | exact hb1 | exact Below.refl _ _); (focus (first | (simp only [Array.getD_eq_getD_getElem?, List.getElem?_toArray, List.getElem?_cons_succ, List.getElem?_cons_zero, Option.getD_some]; done) | (simp only [Array.getD_eq_getD_getElem?, List.getElem?_toArray, List.getElem?_cons_succ, List.getElem?_cons_zero, Option.getD_some]; rfl) | rfl)))))) | (iterate 2 (refine rel_eqI (v := undef) ?_ ?_; (focus ((simp only [Lay, List.nil_append, List.cons_append, List.setIfInBounds_toArray, List.set_cons_succ, List.set_cons_zero]; intros; rename_i w9 hS hF; simp only [FactsE, List.nil_append, List.cons_append, List.toList_toArray, List.getElem?_cons_succ, List.getElem?_cons_zero] at hF; try (repeat (first | obtain ⟨rfl, hF⟩ := hF | obtain ⟨-, hF⟩ := hF))); exact step_skip rfl rfl))))
          refine rel_endI ?_
          (simp only [Lay, List.nil_append, List.cons_append, List.setIfInBounds_toArray, List.set_cons_succ, List.set_cons_zero]; intros; rename_i w9 hS hF; simp only [FactsA, List.nil_append, List.cons_append] at hF; try (repeat (first | obtain ⟨rfl, hF⟩ := hF | obtain ⟨-, hF⟩ := hF)))
          have hb9 := hKt _ _ _ hnx (hKB _ _ hS)
          first
            | (obtain ⟨fn, tm, asg, bdy, hy, hR⟩ := hY1 _ hS (by rw [hs, List.length_append, List.length_singleton] at hle; exact Nat.lt_of_succ_le hle)
               gi_wp2
               refine hR.mono ?_
               rintro e W3 (⟨rfl, hJ3, hk3⟩ | ⟨rfl, hJx3⟩)
               · gi_wp2
                 go_roundw
                 case rel => exact ⟨k + 1, by go_num, by omega, by rw [hs]; exact hJ3, hKt _ _ _ hb9 hk3⟩
                 case measure => simp [intOf]; omega
               · gi_wp2
                 refine bodyPost_ret (results_none rfl _ _ _) rfl ?_
                 exact ⟨⟨_, rfl⟩, .inr ⟨_, by rw [← hs]; exact hpre, hJx3⟩⟩)
            | (gi_wp2
               refine ⟨fun _ h => (by cases h), ?_⟩
               gi_wp2
               go_roundw
               case rel => exact ⟨k + 1, by go_num, by omega, by rw [hs]; exact hJB _ _ _ hJs hS, hb9⟩
               case measure => simp [intOf]; omega)
      · have hend := fnd_end ps fr to on k (by omega)
        gi_wp2
        all_goals
          go_end0
          exact ⟨⟨_, rfl⟩, .inl (by rw [← hend]; exact hJs)⟩
end Go.Proofs.Ytmnofoflbhdgjaa
