/- Chapter 16's reference: Read, walked. -/
import Derived.Test.YtioknjdbijogpaaRefC
import Derived.Test.YtioknjdbijogpaaRefD
import Derived.Test.YtioknjdbijogpaaRefF
import Derived.Test.YtioknjdbijogpaaInsW
import Derived.Test.YtioknjdbijogpaaRel
namespace Go.Proofs.Ytioknjdbijogpaa
open Go.RowKit
set_option linter.unusedSimpArgs false
set_option linter.unusedVariables false

/-- The numbers of eight bytes, as the document says. -/
def rd8 (b : Nat → UInt8) : Nat → Int
  | 0 => (b 0).toNat
  | 1 => ((b 1).toNat : Int) / 16
  | 2 => ((b 1).toNat : Int) % 16
  | 3 => sg 32768 65536 (((b 2).toNat : Int) * 256 + ((b 3).toNat : Int))
  | _ => sg 2147483648 4294967296 (((((b 4).toNat : Int) * 256 + ((b 5).toNat : Int)) * 256 + ((b 6).toNat : Int)) * 256 + ((b 7).toNat : Int))
def byteAt (s : ByteArray) (j : Nat) : UInt8 := s.data.toList.getD j 0
theorem byteAt_eq (s : ByteArray) (j : Nat) (h : j < s.size) : s[j] = byteAt s j := by
  unfold byteAt
  rw [List.getD_eq_getElem?_getD, List.getElem?_eq_getElem (by simpa using h)]
  simp
  rfl
/-- The instructions of bytes, as the document says. -/
def rdL (s : ByteArray) (n : Nat) : List (Nat → Int) := (List.range n).map fun k => rd8 fun i => byteAt s (8 * k + i)
theorem rdL_len (s : ByteArray) (n : Nat) : (rdL s n).length = n := by simp [rdL]
theorem rdL_succ (s : ByteArray) (n : Nat) : rdL s (n + 1) = rdL s n ++ [rd8 fun i => byteAt s (8 * n + i)] := by simp [rdL, List.range_succ]
theorem ext2 (s : ByteArray) (a : Nat) (h : a + 2 ≤ s.size) : s.extract a (a + 2) = ⟨#[byteAt s a, byteAt s (a + 1)]⟩ := by
  apply ByteArray.ext
  apply Array.ext
  · simp; omega
  · intro i h1 h2
    simp at h2
    have e : ∀ j (h : j < s.size), s.data[j]'h = byteAt s j := fun j hj => byteAt_eq s j hj
    rcases (by omega : i = 0 ∨ i = 1) with rfl | rfl
    · simp [e]
    · simp [e]
theorem ext4 (s : ByteArray) (a : Nat) (h : a + 4 ≤ s.size) : s.extract a (a + 4) = ⟨#[byteAt s a, byteAt s (a + 1), byteAt s (a + 2), byteAt s (a + 3)]⟩ := by
  apply ByteArray.ext
  apply Array.ext
  · simp; omega
  · intro i h1 h2
    simp at h2
    have e : ∀ j (h : j < s.size), s.data[j]'h = byteAt s j := fun j hj => byteAt_eq s j hj
    rcases (by omega : i = 0 ∨ i = 1 ∨ i = 2 ∨ i = 3) with rfl | rfl | rfl | rfl
    · simp [e]
    · simp [e]
    · simp [e]
    · simp [e]

/-- A new slice of one instruction. -/
def NewR (B : Nat) (f : Nat → Int) : VR := fun u w => ∃ g, u = .slice (some ⟨g, 0, none⟩) 1 1 ∧ B ≤ g ∧ w.heap[g]? = some (.cells (inv f) 70 (0, 0))
theorem newR_stable (B : Nat) (f : Nat → Int) : Stable (NewR B f) := fun u w w' h hb => by
  obtain ⟨g, h1, h2, h3⟩ := h
  exact ⟨g, h1, h2, blk_of hb h3⟩

set_option maxHeartbeats 2000000 in
set_option maxRecDepth 100000 in
theorem refRead_is (s : ByteArray) (w : World) (hm : s.size % 8 = 0) (hn : s.size ≤ 512) :
    Calls Try.prog 27 #[.string s] w fun e w' => ∃ v, e = .returned (.tuple #[v, .bool (allB (rdL s (s.size / 8)))]) ∧ InRow 70 w' w.heap.size v (rdL s (s.size / 8)) ∧ Below w.heap.size w w' := by
  obtain ⟨N, hN⟩ : ∃ N, s.size = 8 * N := ⟨s.size / 8, by omega⟩
  rw [show s.size / 8 = N from by omega]
  have e1 : ((s.size : Int) % 8 != 0) = false := by simp only [bne_eq_false_iff_eq]; omega
  have e2 : decide ((s.size : Int) > 512) = false := decide_eq_false (by omega)
  have e3 : decide (512 < s.size) = false := decide_eq_false (by omega)
  obtain ⟨i0, hi0, hz1, hz2, hz3⟩ := info_parts infoRf
  have HN := Lib.hid hN
  clear hm hN
  go_enter Try.func27, Try.ntmps27
  go_wp2
  go_loopw [4, 5] (fun v i wr => ∃ k : Nat, k ≤ N ∧ i = .int .i64 ((8 * k : Nat) : Int) ∧ Below w.heap.size w wr ∧ InRow 70 wr w.heap.size v (rdL s k)) (fun _ i _ => s.size - (intOf i).toNat)
  case atStart => exact ⟨0, by omega, rfl, (Below.refl _ _).alloc (Nat.le_refl _) _, rfl, .inr ⟨w.heap.size, 0, #[], rfl, Nat.le_refl _, heap_alloc_last w _, Nat.le_refl _, by decide, rfl, rfl⟩⟩
  case round =>
    obtain ⟨k, hk, rfl, hbw, hown⟩ := hrel
    have hHN := HN.out
    by_cases h : k = N
    · subst h
      obtain ⟨a, ha⟩ : ∃ a, 8 * k = a := ⟨_, rfl⟩
      rw [ha]
      have q1 : decide ((a : Int) < s.size) = false := decide_eq_false (by omega)
      have q2 : decide (a < s.size) = false := decide_eq_false (by omega)
      obtain ⟨A, cap, rfl, hcap, hsl⟩ := hown.slice
      have hlen := rdL_len s k
      have hAll := fun w hl => refAll_is A (rdL s k) cap w hl (by omega)
      rw [hlen] at hAll hcap hown ⊢
      clear hHN ha
      go_wp2_with (go_at_call 21; refine (hAll _ hsl).mono ?_; rintro e w1 ⟨rfl, hb9⟩)
      go_ret2
      exact ⟨_, rfl, hown.below hb9, hbw.trans (hb9.mono hbw.size)⟩
    · have hlt : k < N := by omega
      obtain ⟨a, ha⟩ : ∃ a, 8 * k = a := ⟨_, rfl⟩
      have ha8 : a + 8 ≤ s.size := by omega
      have hx2 : s.extract (a + 2) (a + 4) = ⟨#[byteAt s (a + 2), byteAt s (a + 2 + 1)]⟩ := ext2 s (a + 2) (by omega)
      have hx4 : s.extract (a + 4) (a + 8) = ⟨#[byteAt s (a + 4), byteAt s (a + 4 + 1), byteAt s (a + 4 + 2), byteAt s (a + 4 + 3)]⟩ := ext4 s (a + 4) (by omega)
      have hS2 := fun w => signed2_is (byteAt s (a + 2)) (byteAt s (a + 2 + 1)) w
      have hS4 := fun w => signed4_is (byteAt s (a + 4)) (byteAt s (a + 4 + 1)) (byteAt s (a + 4 + 2)) (byteAt s (a + 4 + 3)) w
      rw [← hx2] at hS2
      rw [← hx4] at hS4
      have hb0 : ∀ h, s[a]'h = byteAt s a := fun h => byteAt_eq s a h
      have hb1 : ∀ h, s[a + 1]'h = byteAt s (a + 1) := fun h => byteAt_eq s (a + 1) h
      have hsn := rdL_succ s k
      have hF0 : (rd8 fun i => byteAt s (8 * k + i)) 0 = ((byteAt s a).toNat : Int) := by rw [← ha]; rfl
      have hF1 : (rd8 fun i => byteAt s (8 * k + i)) 1 = ((byteAt s (a + 1)).toNat : Int) / 16 := by rw [← ha]; rfl
      have hF2 : (rd8 fun i => byteAt s (8 * k + i)) 2 = ((byteAt s (a + 1)).toNat : Int) % 16 := by rw [← ha]; rfl
      have hF3 : (rd8 fun i => byteAt s (8 * k + i)) 3 = sg 32768 65536 (((byteAt s (a + 2)).toNat : Int) * 256 + ((byteAt s (a + 2 + 1)).toNat : Int)) := by rw [← ha]; rfl
      have hF4 : (rd8 fun i => byteAt s (8 * k + i)) 4 = sg 2147483648 4294967296 (((((byteAt s (a + 4)).toNat : Int) * 256 + ((byteAt s (a + 4 + 1)).toNat : Int)) * 256 + ((byteAt s (a + 4 + 2)).toNat : Int)) * 256 + ((byteAt s (a + 4 + 3)).toNat : Int)) := by rw [← ha]; rfl
      rw [← hF3] at hS2
      rw [← hF4] at hS4
      clear hF3 hF4
      generalize (rd8 fun i => byteAt s (8 * k + i)) = F at *
      have hsn := Lib.hid hsn
      have l0 := (byteAt s a).toNat_lt
      have l1 := (byteAt s (a + 1)).toNat_lt
      obtain ⟨B1, hB1⟩ : ∃ B1 : Int, ((byteAt s (a + 1)).toNat : Int) = B1 := ⟨_, rfl⟩
      rw [hB1] at hF1 hF2
      have lB : 0 ≤ B1 ∧ B1 < 256 := by omega
      obtain ⟨w0, w1, w2, w3⟩ : wrap64 ((byteAt s a).toNat : Int) = F 0 ∧ wrap64 ((byteAt s (a + 1)).toNat : Int) = B1 ∧ wrap64 (B1.tdiv 16) = F 1 ∧ B1.tmod 16 = F 2 :=
        ⟨by rw [hF0]; exact w64i _ (by omega) (by omega), by rw [hB1]; exact w64i _ (by omega) (by omega), by rw [Int.tdiv_eq_ediv_of_nonneg lB.1, hF1]; exact w64i _ (by omega) (by omega), by rw [Int.tmod_eq_emod_of_nonneg lB.1, hF2]⟩
      clear hF0 hF1 hF2 hB1 l0 l1 lB
      rw [ha]
      have q1 : (a : Int) < s.size := by omega
      have q2 : (a : Int) + 1 < s.size := by omega
      have q3 : (a : Int) + 8 ≤ s.size := by omega
      have hsl2 : ∀ w, (Instr.slice 9 (.string s) (some (.int .i64 ((a : Int) + 2))) (some (.int .i64 ((a : Int) + 4))) none).run Try.prog w = .ok (.string (s.extract (a + 2) (a + 4))) w := fun w => run_slice_string w 9 s .i64 .i64 ((a : Int) + 2) ((a : Int) + 4) Try.underlying9 (by omega) (by omega) (by omega)
      have hsl4 : ∀ w, (Instr.slice 9 (.string s) (some (.int .i64 ((a : Int) + 4))) (some (.int .i64 ((a : Int) + 8))) none).run Try.prog w = .ok (.string (s.extract (a + 4) (a + 8))) w := fun w => run_slice_string w 9 s .i64 .i64 ((a : Int) + 4) ((a : Int) + 8) Try.underlying9 (by omega) (by omega) (by omega)
      clear hHN hx2 hx4
      go_wp2
      refine wp_region_rel (S := fun w' => Below wr.heap.size wr w') [22, 23, 24, 25, 26, 27, 28, 29, 30, 31, 32, 33, 34, 35, 36, 37, 38, 39, 40, 41, 42, 43, 44, 45, 46, 47, 48, 49, 50, 51, 52, 53, 54] mixed16 (by kernel_rfl) (by kernel_rfl) (by decide) (by kernel_rfl) (fun _ _ h k => h.trans (k.mono h.size)) (Below.refl _ _).drew ?_
      iterate 32 (refine rel_eq (v := ?_) ?_ ?_; rotate_left; (focus ((simp only [Lay, List.nil_append, List.cons_append, List.setIfInBounds_toArray, List.set_cons_succ, List.set_cons_zero]; intros; rename_i w9 hS hF; simp only [FactsE, List.nil_append, List.cons_append, List.toList_toArray, List.getElem?_cons_succ, List.getElem?_cons_zero] at hF; try (repeat (obtain ⟨rfl, hF⟩ := hF))); refine step_take rfl (of_decide_eq_true rfl) ?_; skip; go_wp2_with (first | (go_at_call 42; first | (with_reducible refine (hS2 _).mono ?_; rintro e w8 ⟨rfl, rfl⟩) | (with_reducible refine (hS4 _).mono ?_; rintro e w8 ⟨rfl, rfl⟩))); refine RQ_mk rfl ?_ ?_; (focus exact Below.refl _ _); (focus (first | (simp only [Array.getD_eq_getD_getElem?, List.getElem?_toArray, List.getElem?_cons_succ, List.getElem?_cons_zero, Option.getD_some]; done) | (simp only [Array.getD_eq_getD_getElem?, List.getElem?_toArray, List.getElem?_cons_succ, List.getElem?_cons_zero, Option.getD_some]; rfl) | rfl)))))
      refine rel_any (NewR w.heap.size F) (newR_stable _ _) ?_ ?_
      · (simp only [Lay, List.nil_append, List.cons_append, List.setIfInBounds_toArray, List.set_cons_succ, List.set_cons_zero]; intros; rename_i w9 hS hF; simp only [FactsE, List.nil_append, List.cons_append, List.toList_toArray, List.getElem?_cons_succ, List.getElem?_cons_zero] at hF; try (repeat (obtain ⟨rfl, hF⟩ := hF)))
        refine step_take rfl (of_decide_eq_true rfl) ?_
        go_wp2_with ((with_reducible refine in_slice70 ?_); refine ⟨rfl, F, rfl, ?_⟩; (simp only [Act.put, List.setIfInBounds_toArray, List.set_cons_succ, List.set_cons_zero]))
        refine RQ_mk rfl ((Below.refl _ _).alloc (Nat.le_refl _) _) ?_
        simp only [Array.getD_eq_getD_getElem?, List.getElem?_toArray, List.getElem?_cons_succ, List.getElem?_cons_zero, Option.getD_some]
        exact ⟨_, rfl, Nat.le_trans hbw.size hS.size, heap_alloc_last _ _⟩
      refine rel_end ?_
      simp only [Lay, List.nil_append, List.cons_append, List.setIfInBounds_toArray, List.set_cons_succ, List.set_cons_zero]; intros; rename_i w9 hS hF; simp only [FactsA, List.nil_append, List.cons_append] at hF
      repeat (obtain ⟨rfl, hF⟩ := hF)
      obtain ⟨⟨g, rfl, hgB, hg⟩, -⟩ := hF
      have hnew : ∀ j u, (inv F).toList[j]? = some u → w9.cell? ((⟨g, 0, none⟩ : Addr).add j) = some u := fun j u hj => by
        rw [Addr.add_mid, cell_of_row _ _ _ _ _ _ hg, Nat.zero_add]
        simpa using hj
      have hlen := rdL_len s k
      have hk64 : k ≤ 64 := by have := HN.out; omega
      have hA8 := Lib.hid (show ((8 * (k + 1) : Nat) : Int) = (a : Int) + 8 from by omega)
      go_wp2_with (at_builtin; refine wpList_append_own_at _ rfl _ _ 38 rfl w.heap.size 70 i0 _ 5 40 Try.underlying38 hi0 hz1 hz2 hz3 rfl (by decide) _ _ _ rfl (InRow.below hown hS) _ 1 1 (inv F).toList rfl (by rw [Array.length_toList, inv_size]) hnew (fun u hu => insn_one _ u hu) (by unfold maxLen; omega) (by omega) (Nat.le_trans hbw.size hS.size) ?_; intro v' w1' hown' hgrow hnil hloc)
      go_wp2
      refine ⟨⟨k + 1, by omega, ?_, ?_, ?_⟩, ?_⟩
      · rw [hA8.out]
      · exact (hbw.trans (hS.mono hbw.size)).grown hgrow (Nat.le_trans hbw.size hS.size) (fun j hj => (hown.lt j hj).1)
      · unfold InRow
        rw [hsn.out, rowi_snoc, List.length_append]
        exact hown'
      · clear hown' hgrow hnil hloc hnew hg hown hS2 hS4 hsl2 hsl4 w0 w1 w2 w3 hb0 hb1
        simp only [intOf]
        omega

set_option maxHeartbeats 2000000 in
set_option maxRecDepth 100000 in
theorem refRead_no (s : ByteArray) (w : World) (hm : ¬ (s.size % 8 = 0 ∧ s.size ≤ 512)) :
    Calls Try.prog 27 #[.string s] w fun e w' => e = .returned (.tuple #[.slice none 0 0, .bool false]) ∧ Below w.heap.size w w' := by
  by_cases h8 : s.size % 8 = 0
  · have e1 : ((s.size : Int) % 8 != 0) = false := by simp only [bne_eq_false_iff_eq]; omega
    have e2 : decide ((s.size : Int) > 512) = true := decide_eq_true (by omega)
    have e3 : decide (512 < s.size) = true := decide_eq_true (by omega)
    clear hm h8
    go_enter Try.func27, Try.ntmps27
    go_wp2
    go_ret2
    exact ⟨rfl, (Below.refl _ _).alloc (Nat.le_refl _) _⟩
  · have e1 : ((s.size : Int) % 8 != 0) = true := by simp only [bne_iff_ne, ne_eq]; omega
    clear hm h8
    go_enter Try.func27, Try.ntmps27
    go_wp2
    go_ret2
    exact ⟨rfl, (Below.refl _ _).alloc (Nat.le_refl _) _⟩
end Go.Proofs.Ytioknjdbijogpaa
