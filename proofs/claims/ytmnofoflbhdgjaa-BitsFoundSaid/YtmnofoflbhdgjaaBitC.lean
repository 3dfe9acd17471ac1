/- Chapter 07: Set, walked. -/
import Derived.Test.YtmnofoflbhdgjaaBitB
import Derived.Deep.Cut
namespace Go.Proofs.Ytmnofoflbhdgjaa
open Go.RowKit
set_option linter.unusedSimpArgs false
set_option linter.unusedVariables false

def clrN (b k : Nat) : Nat := if b.testBit k then b - 2 ^ k else b
def setN (b k : Nat) : Nat := if b.testBit k then b else b + 2 ^ k
theorem clr_all : ((List.range 256).all fun n => (List.range 8).all fun k => (bits .andNot .u8 (n : Int) ((2 : Int) ^ k) == (clrN n k : Int)) && decide (clrN n k < 256) && (bits .or .u8 (n : Int) ((2 : Int) ^ k) == (setN n k : Int)) && decide (setN n k < 256)) = true := by kernel_rfl
theorem clr_set (n k : Nat) (hn : n < 256) (hk : k < 8) : bits .andNot .u8 (n : Int) ((2 : Int) ^ k) = (clrN n k : Int) ∧ clrN n k < 256 ∧ bits .or .u8 (n : Int) ((2 : Int) ^ k) = (setN n k : Int) ∧ setN n k < 256 := by
  have := List.all_eq_true.1 (List.all_eq_true.1 clr_all n (List.mem_range.2 hn)) k (List.mem_range.2 hk)
  simp only [Bool.and_eq_true, beq_iff_eq, decide_eq_true_eq] at this
  exact ⟨this.1.1.1, this.1.1.2, this.1.2, this.2⟩
/-- A page with another byte. -/
def updP (p : PgT) (at' : Nat) (c : Nat) : PgT := fun k => if k = at' then UInt8.ofNat c else p k
def newB (b k : Nat) (on : Bool) : Nat := if on then setN (clrN b k) k else clrN b k
theorem newB_lt (b k : Nat) (on : Bool) (hb : b < 256) (hk : k < 8) : newB b k on < 256 := by
  unfold newB
  split
  · exact (clr_set _ k (clr_set b k hb hk).2.1 hk).2.2.2
  · exact (clr_set b k hb hk).2.1
def setAt (ps : List PgT) (i c : Nat) : List PgT := ps.set (i / 512) (updP (ps.getD (i / 512) zp) (i % 512 / 8) c)
def setP (ps : List PgT) (i : Int) (on : Bool) : List PgT :=
  if 0 ≤ i ∧ i < 512 * ps.length then setAt ps i.toNat (newB ((ps.getD (i.toNat / 512) zp) (i.toNat % 512 / 8)).toNat (i.toNat % 8) on) else ps
theorem rowc_set (ps : List PgT) (q a c : Nat) (hq : q < ps.length) (ha : a < 64) (hc : c < 256) : rowc (ps.set q (updP (ps.getD q zp) a c)) = (rowc ps).set (q * 64 + a) (.int .u8 (c : Int)) := by
  apply List.ext_getElem?
  intro m
  by_cases hm : m < ps.length * 64
  · have hm2 : m < (ps.set q (updP (ps.getD q zp) a c)).length * 64 := by rw [List.length_set]; exact hm
    rw [rowc_at _ m hm2, List.getElem?_set]
    rw [rowc_len, rowc_at ps m hm]
    have hmq : m / 64 < ps.length := by omega
    have hg : (ps.set q (updP (ps.getD q zp) a c)).getD (m / 64) zp = if m / 64 = q then updP (ps.getD q zp) a c else ps.getD (m / 64) zp := by
      rw [List.getD_eq_getElem?_getD, List.getElem?_set]
      by_cases e : q = m / 64
      · rw [if_pos e, if_pos (by omega), if_pos e.symm, Option.getD_some]
      · rw [if_neg e, if_neg (fun h => e h.symm), ← List.getD_eq_getElem?_getD]
    rw [hg]
    by_cases e : q * 64 + a = m
    · rw [if_pos e, if_pos (by omega), if_pos (by omega)]
      have : m % 64 = a := by omega
      rw [this]
      simp only [updP, if_true]
      rw [UInt8.toNat_ofNat_of_lt' hc]
    · rw [if_neg e]
      by_cases e2 : m / 64 = q
      · rw [if_pos e2]
        have : m % 64 ≠ a := by omega
        simp only [updP, if_neg this]
        rw [e2]
      · rw [if_neg e2]
  · rw [List.getElem?_eq_none (by rw [rowc_len, List.length_set]; omega), List.getElem?_eq_none (by rw [List.length_set, rowc_len]; omega)]
theorem row_setCell {w : World} {B h cap q a c : Nat} {ps : List PgT} (hr : PgRow w B (.slice (some ⟨h, 0, none⟩) ps.length cap) ps) (hq : q < ps.length) (ha : a < 64) (hc : c < 256) :
    PgRow (w.setCell ⟨h, q * 64 + a, none⟩ (.int .u8 (c : Int))) B (.slice (some ⟨h, 0, none⟩) ps.length cap) (ps.set q (updP (ps.getD q zp) a c)) ∧ Below B w (w.setCell ⟨h, q * 64 + a, none⟩ (.int .u8 (c : Int))) := by
  rcases hr.2 with ⟨hv, -⟩ | ⟨g, cap', cur, hv, h1, h2, h3, h4, h5, h6⟩
  · cases hv
  · cases hv
    have e := setCell_eq_setRow w h (q * 64 + a) cur 39 (0, 0) (.int .u8 (c : Int)) h2
    have hl : (ps.set q (updP (ps.getD q zp) a c)).length = ps.length := List.length_set ..
    refine ⟨⟨by rw [rowc_len], .inr ⟨h, cap, cur.setIfInBounds (q * 64 + a) (.int .u8 (c : Int)), by rw [hl], h1, by rw [e]; exact setRow_heap w h _ _ _ _ h2, by rw [hl]; exact h3, h4, by rw [Array.size_setIfInBounds]; exact h5, ?_⟩⟩, ?_⟩
    · rw [hl, rowc_set ps q a c hq ha hc, ← h6, Array.toList_setIfInBounds, List.take_set]
    · rw [e]
      exact ⟨rfl, rfl, rfl, by simp, fun k hk => setRow_other _ h k _ (by omega)⟩
theorem frozen_row {w : World} {B h cap n o : Nat} {ps : List PgT} (hr : PgRow w B (.slice (some ⟨h, 0, none⟩) n cap) ps) : w.frozen? ⟨h, o, none⟩ = false := by
  rcases hr.2 with ⟨hv, -⟩ | ⟨g, cap', cur, hv, h1, h2, h3, h4, h5, h6⟩
  · cases hv
  · cases hv
    exact frozen_of_row w h o _ _ h2
theorem cell_row {w : World} {B h cap q a : Nat} {ps : List PgT} (hr : PgRow w B (.slice (some ⟨h, 0, none⟩) ps.length cap) ps) (hq : q < ps.length) (ha : a < 64) : w.cell? ⟨h, q * 64 + a, none⟩ = some (.int .u8 (((ps.getD q zp) a).toNat : Int)) := by
  have hc := hr.cells (g := h) rfl (q * 64 + a) _ (rowc_get ps q hq a ha)
  rw [Addr.add_mid, Nat.zero_add] at hc
  rw [hc, List.getD_eq_getElem?_getD, List.getElem?_eq_getElem hq, Option.getD_some]

theorem set_twice (ps : List PgT) (q a c c2 : Nat) (hq : q < ps.length) : (ps.set q (updP (ps.getD q zp) a c)).set q (updP ((ps.set q (updP (ps.getD q zp) a c)).getD q zp) a c2) = ps.set q (updP (ps.getD q zp) a c2) := by
  rw [List.set_set, List.getD_eq_getElem?_getD, List.getElem?_set_self hq, Option.getD_some]
  congr 1
  funext k
  simp only [updP]
  split <;> rfl
set_option maxHeartbeats 2000000 in
set_option maxRecDepth 100000 in
theorem set_in (i : Nat) (on : Bool) (a : Option Addr) (ps : List PgT) (cap : Nat) (w : World) (hn : ps.length ≤ 100) (hl : PgSl w a ps) (hi : i < 512 * ps.length) :
    Calls Try.prog 27 #[.int .i64 i, .bool on, .slice a ps.length cap] w fun e w' => ∃ v', e = .returned v' ∧ PgRow w' w.heap.size v' (setP ps i on) ∧ Below w.heap.size w w' := by
  have hC := fun w hl => clone_pg a cap ps w (by omega) hl
  have hq : i / 512 < ps.length := by omega
  have ha : i % 512 / 8 < 64 := by omega
  have hk8 : i % 8 < 8 := Nat.mod_lt _ (by decide)
  have hP := fun w => place_is i w (by omega)
  have hH := fun h c w => has_is i (some ⟨h, 0, none⟩) ps.length c w hn
  rw [decide_eq_true (by omega : (0 : Int) ≤ (i : Int) ∧ (i : Int) < 512 * (ps.length : Int))] at hH
  have eP : setP ps i on = setAt ps i (newB ((ps.getD (i / 512) zp) (i % 512 / 8)).toNat (i % 8) on) := by
    unfold setP
    rw [if_pos (by omega)]
    rfl
  rw [eP]
  clear eP
  have hb0 : ((ps.getD (i / 512) zp) (i % 512 / 8)).toNat < 256 := UInt8.toNat_lt _
  obtain ⟨b0, hb0e⟩ : ∃ b0, ((ps.getD (i / 512) zp) (i % 512 / 8)).toNat = b0 := ⟨_, rfl⟩
  rw [hb0e] at hb0 ⊢
  go_enter Try.func27, Try.ntmps27
  go_upto_region 5 with (first
    | (go_at_call 52; refine (hC _ hl).mono ?_; rintro e w1 ⟨v1, rfl, hR, hb⟩; obtain ⟨h, c0, cur0, hv1, hR1, hR2, hR3, hR4, hR5, hR6⟩ := hR.2.resolve_left (fun e => by have := e.2; omega); subst hv1)
    | (go_at_call 53; refine (hH _ _ _).mono ?_; rintro e w2 ⟨rfl, rfl⟩)
    | (go_at_call 54; refine (hP _).mono ?_; rintro e w2 ⟨rfl, hb2⟩))
  have hR9 := hR.below hb2
  have hcX := cell_row hR9 hq ha
  rw [hb0e] at hcX
  obtain ⟨hclr1, hclr2, -, -⟩ := clr_set _ _ hb0 hk8
  obtain ⟨-, -, hset1, hset2⟩ := clr_set _ _ hclr2 hk8
  have hbw : Below w.heap.size w w2 := hb.trans (hb2.mono hb.size)
  clear hC hP hH hl hR hR2 hR5 hR6
  refine wp_region_rel (S := fun w' => Below w2.heap.size w2 w') [23, 24, 25, 26, 27, 28, 29, 30, 31] mixed07 (by kernel_rfl) (by kernel_rfl) (by decide) (by kernel_rfl) (fun _ _ h k => h.trans (k.mono h.size)) (Below.refl _ _).drew ?_
  iterate 9 (refine rel_eq (v := ?_) ?_ ?_; rotate_left; (focus ((simp only [Lay, List.nil_append, List.cons_append, List.setIfInBounds_toArray, List.set_cons_succ, List.set_cons_zero]; intros; rename_i w9 hS hF; simp only [FactsE, List.nil_append, List.cons_append, List.toList_toArray, List.getElem?_cons_succ, List.getElem?_cons_zero] at hF; try (repeat (first | obtain ⟨rfl, hF⟩ := hF | obtain ⟨-, hF⟩ := hF))); refine step_take rfl (of_decide_eq_true rfl) ?_; (have hcq := (hS.cell (cell_lt hcX)).trans hcX); go_wp2_with (first | fail); refine RQ_mk rfl ?_ ?_; (focus exact Below.refl _ _); (focus (first | (simp only [Array.getD_eq_getD_getElem?, List.getElem?_toArray, List.getElem?_cons_succ, List.getElem?_cons_zero, Option.getD_some]; done) | (simp only [Array.getD_eq_getD_getElem?, List.getElem?_toArray, List.getElem?_cons_succ, List.getElem?_cons_zero, Option.getD_some]; rfl) | rfl)))))
  refine rel_end ?_
  (simp only [Lay, List.nil_append, List.cons_append, List.setIfInBounds_toArray, List.set_cons_succ, List.set_cons_zero]; intros; rename_i w9 hS hF; simp only [FactsA, List.nil_append, List.cons_append] at hF; try (repeat (first | obtain ⟨rfl, hF⟩ := hF | obtain ⟨-, hF⟩ := hF)))
  have hR10 := hR9.below hS
  have hc9 := (hS.cell (cell_lt hcX)).trans hcX
  have hf9 := frozen_row (o := i / 512 * 64 + i % 512 / 8) hR10
  have hst := row_setCell hR10 hq ha hclr2
  have hbw9 := hbw.trans (hS.mono hbw.size)
  have hbw10 := hbw9.trans hst.2
  have hcY : (w9.setCell ⟨h, i / 512 * 64 + i % 512 / 8, none⟩ (.int .u8 (clrN b0 (i % 8) : Int))).cell? ⟨h, i / 512 * 64 + i % 512 / 8, none⟩ = some (.int .u8 (clrN b0 (i % 8) : Int)) := World.cell?_setCell_same' _ _ _ (by rw [hc9]; rfl)
  have hR11 := hst.1
  clear hst hbw9 hcX hR9 hR10
  go_upto_region 6 with (first
    | ((with_reducible refine ev_cellstore hc9 hf9 oU8s ?_); refine ⟨rfl, _, rfl, rfl, rfl, ?_⟩; simp only [Act.put]; refine NoPanic.normal ?_))
  generalize w9.setCell ⟨h, i / 512 * 64 + i % 512 / 8, none⟩ (.int .u8 (clrN b0 (i % 8) : Int)) = wA at *
  clear hc9 hf9 hS
  cases on with
  | false =>
    go_wp2
    go_ret
    exact ⟨_, rfl, hR11, hbw10⟩
  | true =>
    go_upto_region 7 with fail
    obtain ⟨ps1, hps1⟩ : ∃ p1, ps.set (i / 512) (updP (ps.getD (i / 512) zp) (i % 512 / 8) (clrN b0 (i % 8))) = p1 := ⟨_, rfl⟩
    have hl1 : ps1.length = ps.length := by rw [← hps1, List.length_set]
    have h2x := set_twice ps (i / 512) (i % 512 / 8) (clrN b0 (i % 8)) (setN (clrN b0 (i % 8)) (i % 8)) hq
    rw [hps1] at hR11 h2x
    have hcX := hcY
    refine wp_region_rel (S := fun w' => Below wA.heap.size wA w') [34, 35, 36, 37, 38, 39, 40, 41, 42] mixed07 (by kernel_rfl) (by kernel_rfl) (by decide) (by kernel_rfl) (fun _ _ h k => h.trans (k.mono h.size)) (Below.refl _ _).drew ?_
    iterate 9 (refine rel_eq (v := ?_) ?_ ?_; rotate_left; (focus ((simp only [Lay, List.nil_append, List.cons_append, List.setIfInBounds_toArray, List.set_cons_succ, List.set_cons_zero]; intros; rename_i w9 hS hF; simp only [FactsE, List.nil_append, List.cons_append, List.toList_toArray, List.getElem?_cons_succ, List.getElem?_cons_zero] at hF; try (repeat (first | obtain ⟨rfl, hF⟩ := hF | obtain ⟨-, hF⟩ := hF))); refine step_take rfl (of_decide_eq_true rfl) ?_; (have hcq := (hS.cell (cell_lt hcX)).trans hcX); go_wp2_with (first | fail); refine RQ_mk rfl ?_ ?_; (focus exact Below.refl _ _); (focus (first | (simp only [Array.getD_eq_getD_getElem?, List.getElem?_toArray, List.getElem?_cons_succ, List.getElem?_cons_zero, Option.getD_some]; done) | (simp only [Array.getD_eq_getD_getElem?, List.getElem?_toArray, List.getElem?_cons_succ, List.getElem?_cons_zero, Option.getD_some]; rfl) | rfl)))))
    refine rel_end ?_
    (simp only [Lay, List.nil_append, List.cons_append, List.setIfInBounds_toArray, List.set_cons_succ, List.set_cons_zero]; intros; rename_i w9 hS hF; simp only [FactsA, List.nil_append, List.cons_append] at hF; try (repeat (first | obtain ⟨rfl, hF⟩ := hF | obtain ⟨-, hF⟩ := hF)))
    have hR12 : PgRow w9 w.heap.size (.slice (some ⟨h, 0, none⟩) ps1.length c0) ps1 := by rw [hl1]; exact hR11.below hS
    have hc9 := (hS.cell (cell_lt hcX)).trans hcX
    have hf9 := frozen_row (o := i / 512 * 64 + i % 512 / 8) hR12
    have hst := row_setCell hR12 (by rw [hl1]; exact hq) ha hset2
    rw [hl1, h2x] at hst
    have hbw9 := hbw10.trans (hS.mono hbw10.size)
    have hbw11 := hbw9.trans hst.2
    have hR13 := Lib.hid hst.1
    clear hst hbw9 hcX hcY hR12 hR11 h2x hl1
    go_wp2_with (first
      | ((with_reducible refine ev_cellstore hc9 hf9 oU8s ?_); refine ⟨rfl, _, rfl, rfl, rfl, ?_⟩; simp only [Act.put]; refine NoPanic.normal ?_))
    go_ret
    exact ⟨_, rfl, hR13.out, hbw11⟩
set_option maxHeartbeats 2000000 in
set_option maxRecDepth 100000 in
theorem set_out (i : Int) (on : Bool) (a : Option Addr) (ps : List PgT) (cap : Nat) (w : World) (hn : ps.length ≤ 100) (hl : PgSl w a ps) (hi : ¬ (0 ≤ i ∧ i < 512 * (ps.length : Int))) :
    Calls Try.prog 27 #[.int .i64 i, .bool on, .slice a ps.length cap] w fun e w' => ∃ v', e = .returned v' ∧ PgRow w' w.heap.size v' (setP ps i on) ∧ Below w.heap.size w w' := by
  have hC := fun w hl => clone_pg a cap ps w (by omega) hl
  have hH := fun a c w => has_is i a ps.length c w hn
  rw [decide_eq_false hi] at hH
  have eP : setP ps i on = ps := by unfold setP; rw [if_neg hi]
  rw [eP]
  clear eP
  go_enter Try.func27, Try.ntmps27
  go_wp2_with (first
    | (go_at_call 52; refine (hC _ hl).mono ?_; rintro e w1 ⟨v1, rfl, hR, hb⟩; obtain ⟨a1, c1, hv1, -⟩ := hR.slice; subst hv1)
    | (go_at_call 53; refine (hH _ _ _).mono ?_; rintro e w2 ⟨rfl, rfl⟩))
  go_ret
  exact ⟨_, rfl, hR, hb⟩
theorem set_is (i : Int) (on : Bool) (a : Option Addr) (ps : List PgT) (cap : Nat) (w : World) (hn : ps.length ≤ 100) (hl : PgSl w a ps) :
    Calls Try.prog 27 #[.int .i64 i, .bool on, .slice a ps.length cap] w fun e w' => ∃ v', e = .returned v' ∧ PgRow w' w.heap.size v' (setP ps i on) ∧ Below w.heap.size w w' := by
  by_cases h : 0 ≤ i ∧ i < 512 * (ps.length : Int)
  · obtain ⟨k, rfl⟩ := Int.eq_ofNat_of_zero_le h.1
    exact set_in k on a ps cap w hn hl (by omega)
  · exact set_out i on a ps cap w hn hl h
end Go.Proofs.Ytmnofoflbhdgjaa
