/- Chapter 07: plain laws: bits that were set; the bits of a list of places. -/
import Derived.Test.YtmnofoflbhdgjaaBitF
namespace Go.Proofs.Ytmnofoflbhdgjaa
open Go.RowKit
set_option linter.unusedSimpArgs false
set_option linter.unusedVariables false

theorem newB_all : ((List.range 256).all fun n => (List.range 8).all fun k => (List.range 8).all fun j => ((newB n k true).testBit j == (j == k || n.testBit j)) && ((newB n k false).testBit j == (j != k && n.testBit j))) = true := by kernel_rfl
theorem newB_bit (n k j : Nat) (on : Bool) (hn : n < 256) (hk : k < 8) (hj : j < 8) : (newB n k on).testBit j = if j = k then on else n.testBit j := by
  have := List.all_eq_true.1 (List.all_eq_true.1 (List.all_eq_true.1 newB_all n (List.mem_range.2 hn)) k (List.mem_range.2 hk)) j (List.mem_range.2 hj)
  simp only [Bool.and_eq_true, beq_iff_eq] at this
  by_cases e : j = k
  · subst e
    cases on <;> simp [this]
  · have e2 : (j == k) = false := by simpa using e
    cases on <;> simp [this, e, e2]
theorem setP_in (ps : List PgT) (i : Nat) (on : Bool) (hi : i < 512 * ps.length) : setP ps i on = ps.set (i / 512) (updP (ps.getD (i / 512) zp) (i % 512 / 8) (newB ((ps.getD (i / 512) zp) (i % 512 / 8)).toNat (i % 8) on)) := by
  unfold setP
  rw [if_pos (by omega)]
  rfl
theorem setP_length (ps : List PgT) (i : Int) (on : Bool) : (setP ps i on).length = ps.length := by
  unfold setP setAt
  split
  · rw [List.length_set]
  · rfl
theorem bitP_set (ps : List PgT) (i j : Nat) (on : Bool) (hi : i < 512 * ps.length) : bitP (setP ps i on) j = if j = i then on else bitP ps j := by
  rw [setP_in ps i on hi]
  unfold bitP
  by_cases hq : j / 512 = i / 512
  · have hg : (ps.set (i / 512) (updP (ps.getD (i / 512) zp) (i % 512 / 8) (newB ((ps.getD (i / 512) zp) (i % 512 / 8)).toNat (i % 8) on))).getD (j / 512) zp = updP (ps.getD (i / 512) zp) (i % 512 / 8) (newB ((ps.getD (i / 512) zp) (i % 512 / 8)).toNat (i % 8) on) := by
      rw [hq, List.getD_eq_getElem?_getD, List.getElem?_set_self (by omega), Option.getD_some]
    rw [hg]
    by_cases ha : j % 512 / 8 = i % 512 / 8
    · rw [ha, hq]
      generalize hB : (ps.getD (i / 512) zp) (i % 512 / 8) = B
      have hlt := newB_lt B.toNat (i % 8) on B.toNat_lt (by omega)
      simp only [updP, if_true]
      rw [UInt8.toNat_ofNat_of_lt' hlt, newB_bit _ _ _ _ B.toNat_lt (by omega) (by omega)]
      by_cases e : j = i
      · rw [if_pos e, if_pos (by rw [e])]
      · rw [if_neg e, if_neg (by omega)]
    · rw [if_neg (fun e => ha (by rw [e]))]
      simp only [updP, if_neg ha]
      rw [hq]
  · have hg : (ps.set (i / 512) (updP (ps.getD (i / 512) zp) (i % 512 / 8) (newB ((ps.getD (i / 512) zp) (i % 512 / 8)).toNat (i % 8) on))).getD (j / 512) zp = ps.getD (j / 512) zp := by
      rw [List.getD_eq_getElem?_getD, List.getElem?_set_ne (fun e => hq e.symm), ← List.getD_eq_getElem?_getD]
    rw [hg, if_neg (fun e => hq (by rw [e]))]

/-- The bits of one page are just the places of a list. -/
structure Tk (ps : List PgT) (ks : List Int) : Prop where
  one : ps.length = 1
  nodup : ks.Nodup
  rng : ∀ k ∈ ks, 0 ≤ k ∧ k < 40
  bit : ∀ j : Nat, j < 512 → (bitP ps j = true ↔ (j : Int) ∈ ks)
theorem tk_start : Tk [zp] [] := ⟨rfl, List.nodup_nil, fun k h => by simp at h, fun j hj => by
  have hq : j / 512 = 0 := by omega
  simp [bitP, hq, zp]⟩
theorem Tk.perm {ps : List PgT} {ks : List Int} (h : Tk ps ks) (n : Nat) (hn : 40 ≤ n) (hn2 : n ≤ 512) : ks.length = ((List.range n).filter fun j => bitP ps j).length := by
  have hp : List.Perm (((List.range n).filter fun j => bitP ps j).map Int.ofNat) ks := by
    refine (List.perm_ext_iff_of_nodup ?_ h.nodup).2 fun x => ?_
    · refine List.Pairwise.map _ (fun a b hab => ?_) ((List.nodup_range).filter _)
      exact fun e => hab (Int.ofNat.inj e)
    · rw [List.mem_map]
      constructor
      · rintro ⟨j, hj, rfl⟩
        obtain ⟨h1, h2⟩ := List.mem_filter.1 hj
        exact (h.bit j (by have := List.mem_range.1 h1; omega)).1 h2
      · intro hx
        have := h.rng x hx
        refine ⟨x.toNat, List.mem_filter.2 ⟨List.mem_range.2 (by omega), (h.bit _ (by omega)).2 ?_⟩, Int.toNat_of_nonneg this.1⟩
        rw [Int.toNat_of_nonneg this.1]
        exact hx
  rw [← hp.length_eq, List.length_map]
theorem Tk.count {ps : List PgT} {ks : List Int} (h : Tk ps ks) : (fndA ps 0 512 true).length = ks.length := by
  rw [h.perm 512 (by omega) (by omega)]
  unfold fndA fnd
  rw [h.one, Nat.min_self, Nat.mul_one]
  refine congrArg List.length ?_
  refine List.filter_congr fun j hj => ?_
  have := List.mem_range.1 hj
  have e : decide ((0 : Int) ≤ (j : Int) ∧ (j : Int) < 512) = true := decide_eq_true (by omega)
  rw [e]
  simp
theorem Tk.le {ps : List PgT} {ks : List Int} (h : Tk ps ks) : ks.length ≤ 40 := by
  rw [h.perm 40 (by omega) (by omega)]
  exact Nat.le_trans (List.length_filter_le _ _) (by rw [List.length_range]; exact Nat.le_refl _)
theorem Tk.first {ps : List PgT} {ks : List Int} (h : Tk ps ks) : (ks.length = 40 ∧ firstV ps 0 40 = -1) ∨ (ks.length ≠ 40 ∧ ∃ x : Nat, firstV ps 0 40 = x ∧ x < 40 ∧ (x : Int) ∉ ks ∧ ∀ k : Nat, k < x → (k : Int) ∈ ks) := by
  have hlen := h.perm 40 (by omega) (by omega)
  have hmem : ∀ x : Nat, x ∈ fndA ps 0 40 false ↔ x < 40 ∧ bitP ps x = false := fun x => by
    unfold fndA fnd
    rw [h.one, List.mem_filter, List.mem_range, Bool.and_eq_true, beq_iff_eq, decide_eq_true_eq]
    constructor
    · rintro ⟨h1, h2, h3⟩; exact ⟨by omega, h3⟩
    · rintro ⟨h1, h3⟩; exact ⟨by omega, by omega, h3⟩
  have hpw : (fndA ps 0 40 false).Pairwise (· < ·) := by
    unfold fndA fnd
    exact List.pairwise_lt_range.filter _
  have hfl : ((List.range 40).filter fun j => bitP ps j).length = (List.range 40).length ↔ ∀ a ∈ List.range 40, bitP ps a = true := List.length_filter_eq_length_iff
  rw [List.length_range, ← hlen] at hfl
  unfold firstV
  cases hf : fndA ps 0 40 false with
  | nil =>
    refine Or.inl ⟨hfl.2 fun a ha => ?_, rfl⟩
    cases hb : bitP ps a
    · have := (hmem a).2 ⟨List.mem_range.1 ha, hb⟩
      rw [hf] at this
      cases this
    · rfl
  | cons x r =>
    rw [hf] at hpw
    have hx := (hmem x).1 (by rw [hf]; exact List.mem_cons_self ..)
    refine Or.inr ⟨fun e => ?_, x, rfl, hx.1, fun e => ?_, fun k hk => ?_⟩
    · have := hfl.1 e x (List.mem_range.2 hx.1)
      rw [hx.2] at this
      cases this
    · have := (h.bit x (by omega)).2 e
      rw [hx.2] at this
      cases this
    · refine (h.bit k (by omega)).1 ?_
      cases hb : bitP ps k
      · have := (hmem k).2 ⟨by omega, hb⟩
        rw [hf] at this
        rcases List.mem_cons.1 this with e | e
        · omega
        · have := (List.pairwise_cons.1 hpw).1 k e
          omega
      · rfl
theorem Tk.put {ps : List PgT} {ks : List Int} (h : Tk ps ks) (x : Nat) (hx : x < 40) (hn : (x : Int) ∉ ks) : Tk (setP ps x true) (ks ++ [(x : Int)]) := by
  refine ⟨(setP_length _ _ _).trans h.one, ?_, fun k hk => ?_, fun j hj => ?_⟩
  · refine List.nodup_append.2 ⟨h.nodup, by simp, fun a ha b hb => ?_⟩
    rw [List.mem_singleton.1 hb]
    exact fun e => hn (e ▸ ha)
  · rcases List.mem_append.1 hk with hk | hk
    · exact h.rng k hk
    · have := List.mem_singleton.1 hk
      omega
  · rw [bitP_set ps x j true (by rw [h.one]; omega), List.mem_append, List.mem_singleton]
    by_cases e : j = x
    · simp [e]
    · have e2 : (j : Int) ≠ x := by omega
      simp only [e, e2, if_false, or_false]
      exact h.bit j hj
theorem Tk.del {ps : List PgT} {ks : List Int} (h : Tk ps ks) (x : Nat) (hx : x < 40) : Tk (setP ps x false) (ks.erase (x : Int)) := by
  refine ⟨(setP_length _ _ _).trans h.one, h.nodup.erase _, fun k hk => h.rng k (List.mem_of_mem_erase hk), fun j hj => ?_⟩
  rw [bitP_set ps x j false (by rw [h.one]; omega), h.nodup.mem_erase_iff]
  by_cases e : j = x
  · simp [e]
  · have e2 : (j : Int) ≠ x := by omega
    simp only [e, if_false, ne_eq, e2, not_false_eq_true, true_and]
    exact h.bit j hj
end Go.Proofs.Ytmnofoflbhdgjaa
