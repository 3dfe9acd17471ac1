/- The law PermText, walked. -/
import Derived.Test.YtioknjdbijogpaaPermB
import Derived.Test.YtioknjdbijogpaaLaw26A
import Derived.Laws.Strings
namespace Go.Proofs.Ytioknjdbijogpaa
open Go.RowKit
set_option linter.unusedSimpArgs false
set_option linter.unusedVariables false

theorem str_snoc (l : List UInt8) (c : UInt8) : (⟨l.toArray⟩ : ByteArray) ++ ⟨#[c]⟩ = ⟨(l ++ [c]).toArray⟩ := by
  apply ByteArray.ext
  rw [ByteArray.data_append]
  simp
theorem xwr2 : (⟨#[120, 119, 114]⟩ : ByteArray).extract 2 3 = ⟨#[114]⟩ := by decide +kernel
theorem xwr1 : (⟨#[120, 119, 114]⟩ : ByteArray).extract 1 2 = ⟨#[119]⟩ := by decide +kernel
theorem xwr0 : (⟨#[120, 119, 114]⟩ : ByteArray).extract 0 1 = ⟨#[120]⟩ := by decide +kernel

set_option maxHeartbeats 3200000 in
set_option maxRecDepth 100000 in
theorem refText_is (n : Int) (w : World) :
    Calls Try.prog 13 #[.int .i64 n] w fun e w' => e = .returned (.string ⟨(textB n).toArray⟩) ∧ w' = w := by
  by_cases h0 : n < 0
  · have e0 : decide (n < 0) = true := decide_eq_true h0
    go_enter Try.func13, Try.ntmps13
    go_wp2
    go_ret
    rw [textB, if_pos (Or.inl h0)]
    exact ⟨rfl, rfl⟩
  have e0 : decide (n < 0) = false := decide_eq_false h0
  by_cases h1 : 511 < n
  · have e1 : decide (n > 511) = true := decide_eq_true h1
    go_enter Try.func13, Try.ntmps13
    go_wp2
    go_ret
    rw [textB, if_pos (Or.inr h1)]
    exact ⟨rfl, rfl⟩
  have e1 : decide (n > 511) = false := decide_eq_false h1
  rw [textB, if_neg (by omega)]
  go_enter Try.func13, Try.ntmps13
  go_wp2
  go_loopw [3, 4] (fun s i wr => ∃ k : Nat, k ≤ 9 ∧ i = .int .i64 (8 - (k : Int)) ∧ s = .string ⟨(letN n k).toArray⟩ ∧ wr = w) (fun _ i _ => (intOf i + 1).toNat)
  case atStart => exact ⟨0, by omega, rfl, rfl, rfl⟩
  case round =>
    obtain ⟨k, hk, rfl, rfl, rfl⟩ := hrel
    by_cases h9 : k = 9
    · subst h9
      go_wp2
      go_ret
      exact ⟨rfl, rfl⟩
    · have hlb := letN_succ n k
      rcases (by omega : k = 0 ∨ k = 1 ∨ k = 2 ∨ k = 3 ∨ k = 4 ∨ k = 5 ∨ k = 6 ∨ k = 7 ∨ k = 8) with rfl | rfl | rfl | rfl | rfl | rfl | rfl | rfl | rfl
      · by_cases hz : n / 256 % 2 = 1
        · have hd : decide (n / 2 ^ 8 % 2 = 1) = true := decide_eq_true hz
          have hl : letB n 0 = 114 := by rw [letB, if_neg (by simpa using (show ¬ n / 256 % 2 = 0 by omega))]; rfl
          go_wp2_with (go_at_call 31; refine (refBit_is n 8 (by decide) _).mono ?_; rintro e w1 ⟨rfl, rfl⟩)
          refine ⟨⟨0 + 1, by omega, by simp, ?_, trivial⟩, by simp [intOf]⟩
          rw [xwr2, str_snoc, hlb, hl]
        · have hd : decide (n / 2 ^ 8 % 2 = 1) = false := decide_eq_false hz
          have hl : letB n 0 = 45 := by rw [letB, if_pos (by simpa using (show n / 256 % 2 = 0 by omega))]
          go_wp2_with (go_at_call 31; refine (refBit_is n 8 (by decide) _).mono ?_; rintro e w1 ⟨rfl, rfl⟩)
          refine ⟨⟨0 + 1, by omega, by simp, ?_, trivial⟩, by simp [intOf]⟩
          rw [str_snoc, hlb, hl]
      · by_cases hz : n / 128 % 2 = 1
        · have hd : decide (n / 2 ^ 7 % 2 = 1) = true := decide_eq_true hz
          have hl : letB n 1 = 119 := by rw [letB, if_neg (by simpa using (show ¬ n / 128 % 2 = 0 by omega))]; rfl
          go_wp2_with (go_at_call 31; refine (refBit_is n 7 (by decide) _).mono ?_; rintro e w1 ⟨rfl, rfl⟩)
          refine ⟨⟨1 + 1, by omega, by simp, ?_, trivial⟩, by simp [intOf]⟩
          rw [xwr1, str_snoc, hlb, hl]
        · have hd : decide (n / 2 ^ 7 % 2 = 1) = false := decide_eq_false hz
          have hl : letB n 1 = 45 := by rw [letB, if_pos (by simpa using (show n / 128 % 2 = 0 by omega))]
          go_wp2_with (go_at_call 31; refine (refBit_is n 7 (by decide) _).mono ?_; rintro e w1 ⟨rfl, rfl⟩)
          refine ⟨⟨1 + 1, by omega, by simp, ?_, trivial⟩, by simp [intOf]⟩
          rw [str_snoc, hlb, hl]
      · by_cases hz : n / 64 % 2 = 1
        · have hd : decide (n / 2 ^ 6 % 2 = 1) = true := decide_eq_true hz
          have hl : letB n 2 = 120 := by rw [letB, if_neg (by simpa using (show ¬ n / 64 % 2 = 0 by omega))]; rfl
          go_wp2_with (go_at_call 31; refine (refBit_is n 6 (by decide) _).mono ?_; rintro e w1 ⟨rfl, rfl⟩)
          refine ⟨⟨2 + 1, by omega, by simp, ?_, trivial⟩, by simp [intOf]⟩
          rw [xwr0, str_snoc, hlb, hl]
        · have hd : decide (n / 2 ^ 6 % 2 = 1) = false := decide_eq_false hz
          have hl : letB n 2 = 45 := by rw [letB, if_pos (by simpa using (show n / 64 % 2 = 0 by omega))]
          go_wp2_with (go_at_call 31; refine (refBit_is n 6 (by decide) _).mono ?_; rintro e w1 ⟨rfl, rfl⟩)
          refine ⟨⟨2 + 1, by omega, by simp, ?_, trivial⟩, by simp [intOf]⟩
          rw [str_snoc, hlb, hl]
      · by_cases hz : n / 32 % 2 = 1
        · have hd : decide (n / 2 ^ 5 % 2 = 1) = true := decide_eq_true hz
          have hl : letB n 3 = 114 := by rw [letB, if_neg (by simpa using (show ¬ n / 32 % 2 = 0 by omega))]; rfl
          go_wp2_with (go_at_call 31; refine (refBit_is n 5 (by decide) _).mono ?_; rintro e w1 ⟨rfl, rfl⟩)
          refine ⟨⟨3 + 1, by omega, by simp, ?_, trivial⟩, by simp [intOf]⟩
          rw [xwr2, str_snoc, hlb, hl]
        · have hd : decide (n / 2 ^ 5 % 2 = 1) = false := decide_eq_false hz
          have hl : letB n 3 = 45 := by rw [letB, if_pos (by simpa using (show n / 32 % 2 = 0 by omega))]
          go_wp2_with (go_at_call 31; refine (refBit_is n 5 (by decide) _).mono ?_; rintro e w1 ⟨rfl, rfl⟩)
          refine ⟨⟨3 + 1, by omega, by simp, ?_, trivial⟩, by simp [intOf]⟩
          rw [str_snoc, hlb, hl]
      · by_cases hz : n / 16 % 2 = 1
        · have hd : decide (n / 2 ^ 4 % 2 = 1) = true := decide_eq_true hz
          have hl : letB n 4 = 119 := by rw [letB, if_neg (by simpa using (show ¬ n / 16 % 2 = 0 by omega))]; rfl
          go_wp2_with (go_at_call 31; refine (refBit_is n 4 (by decide) _).mono ?_; rintro e w1 ⟨rfl, rfl⟩)
          refine ⟨⟨4 + 1, by omega, by simp, ?_, trivial⟩, by simp [intOf]⟩
          rw [xwr1, str_snoc, hlb, hl]
        · have hd : decide (n / 2 ^ 4 % 2 = 1) = false := decide_eq_false hz
          have hl : letB n 4 = 45 := by rw [letB, if_pos (by simpa using (show n / 16 % 2 = 0 by omega))]
          go_wp2_with (go_at_call 31; refine (refBit_is n 4 (by decide) _).mono ?_; rintro e w1 ⟨rfl, rfl⟩)
          refine ⟨⟨4 + 1, by omega, by simp, ?_, trivial⟩, by simp [intOf]⟩
          rw [str_snoc, hlb, hl]
      · by_cases hz : n / 8 % 2 = 1
        · have hd : decide (n / 2 ^ 3 % 2 = 1) = true := decide_eq_true hz
          have hl : letB n 5 = 120 := by rw [letB, if_neg (by simpa using (show ¬ n / 8 % 2 = 0 by omega))]; rfl
          go_wp2_with (go_at_call 31; refine (refBit_is n 3 (by decide) _).mono ?_; rintro e w1 ⟨rfl, rfl⟩)
          refine ⟨⟨5 + 1, by omega, by simp, ?_, trivial⟩, by simp [intOf]⟩
          rw [xwr0, str_snoc, hlb, hl]
        · have hd : decide (n / 2 ^ 3 % 2 = 1) = false := decide_eq_false hz
          have hl : letB n 5 = 45 := by rw [letB, if_pos (by simpa using (show n / 8 % 2 = 0 by omega))]
          go_wp2_with (go_at_call 31; refine (refBit_is n 3 (by decide) _).mono ?_; rintro e w1 ⟨rfl, rfl⟩)
          refine ⟨⟨5 + 1, by omega, by simp, ?_, trivial⟩, by simp [intOf]⟩
          rw [str_snoc, hlb, hl]
      · by_cases hz : n / 4 % 2 = 1
        · have hd : decide (n / 2 ^ 2 % 2 = 1) = true := decide_eq_true hz
          have hl : letB n 6 = 114 := by rw [letB, if_neg (by simpa using (show ¬ n / 4 % 2 = 0 by omega))]; rfl
          go_wp2_with (go_at_call 31; refine (refBit_is n 2 (by decide) _).mono ?_; rintro e w1 ⟨rfl, rfl⟩)
          refine ⟨⟨6 + 1, by omega, by simp, ?_, trivial⟩, by simp [intOf]⟩
          rw [xwr2, str_snoc, hlb, hl]
        · have hd : decide (n / 2 ^ 2 % 2 = 1) = false := decide_eq_false hz
          have hl : letB n 6 = 45 := by rw [letB, if_pos (by simpa using (show n / 4 % 2 = 0 by omega))]
          go_wp2_with (go_at_call 31; refine (refBit_is n 2 (by decide) _).mono ?_; rintro e w1 ⟨rfl, rfl⟩)
          refine ⟨⟨6 + 1, by omega, by simp, ?_, trivial⟩, by simp [intOf]⟩
          rw [str_snoc, hlb, hl]
      · by_cases hz : n / 2 % 2 = 1
        · have hd : decide (n / 2 ^ 1 % 2 = 1) = true := decide_eq_true hz
          have hl : letB n 7 = 119 := by rw [letB, if_neg (by simpa using (show ¬ n / 2 % 2 = 0 by omega))]; rfl
          go_wp2_with (go_at_call 31; refine (refBit_is n 1 (by decide) _).mono ?_; rintro e w1 ⟨rfl, rfl⟩)
          refine ⟨⟨7 + 1, by omega, by simp, ?_, trivial⟩, by simp [intOf]⟩
          rw [xwr1, str_snoc, hlb, hl]
        · have hd : decide (n / 2 ^ 1 % 2 = 1) = false := decide_eq_false hz
          have hl : letB n 7 = 45 := by rw [letB, if_pos (by simpa using (show n / 2 % 2 = 0 by omega))]
          go_wp2_with (go_at_call 31; refine (refBit_is n 1 (by decide) _).mono ?_; rintro e w1 ⟨rfl, rfl⟩)
          refine ⟨⟨7 + 1, by omega, by simp, ?_, trivial⟩, by simp [intOf]⟩
          rw [str_snoc, hlb, hl]
      · by_cases hz : n / 1 % 2 = 1
        · have hd : decide (n / 2 ^ 0 % 2 = 1) = true := decide_eq_true hz
          have hl : letB n 8 = 120 := by rw [letB, if_neg (by simpa using (show ¬ n / 1 % 2 = 0 by omega))]; rfl
          go_wp2_with (go_at_call 31; refine (refBit_is n 0 (by decide) _).mono ?_; rintro e w1 ⟨rfl, rfl⟩)
          refine ⟨⟨8 + 1, by omega, by simp, ?_, trivial⟩, by simp [intOf]⟩
          rw [xwr0, str_snoc, hlb, hl]
        · have hd : decide (n / 2 ^ 0 % 2 = 1) = false := decide_eq_false hz
          have hl : letB n 8 = 45 := by rw [letB, if_pos (by simpa using (show n / 1 % 2 = 0 by omega))]
          go_wp2_with (go_at_call 31; refine (refBit_is n 0 (by decide) _).mono ?_; rintro e w1 ⟨rfl, rfl⟩)
          refine ⟨⟨8 + 1, by omega, by simp, ?_, trivial⟩, by simp [intOf]⟩
          rw [str_snoc, hlb, hl]

theorem letB_bit (n : Int) (k : Nat) (hk : k < 9) : letB n k = 45 ↔ n / 2 ^ (8 - k) % 2 = 0 := by
  constructor
  · intro h
    by_cases hz : n / 2 ^ (8 - k) % 2 = 0
    · exact hz
    · rw [letB, if_neg hz] at h
      rcases (by omega : k = 0 ∨ k = 1 ∨ k = 2 ∨ k = 3 ∨ k = 4 ∨ k = 5 ∨ k = 6 ∨ k = 7 ∨ k = 8) with rfl | rfl | rfl | rfl | rfl | rfl | rfl | rfl | rfl <;> exact absurd h (by decide)
  · intro h; rw [letB, if_pos h]
theorem text_inj (a b : Int) (h : textB a = textB b) : a = b ∨ textB a = [] := by
  by_cases ha : a < 0 ∨ 511 < a
  · right; rw [textB, if_pos ha]
  · left
    by_cases hb : b < 0 ∨ 511 < b
    · rw [textB, textB, if_neg ha, if_pos hb] at h
      have := congrArg List.length h
      rw [letN_length] at this
      exact absurd this (by decide)
    · rw [textB, textB, if_neg ha, if_neg hb] at h
      have each : ∀ k, k < 9 → (a / 2 ^ (8 - k) % 2 = 0 ↔ b / 2 ^ (8 - k) % 2 = 0) := fun k hk => by
        have h1 := congrArg (fun l : List UInt8 => l[k]?) h
        simp only [letN, List.getElem?_map, List.getElem?_range hk, Option.map_some, Option.some.injEq] at h1
        rw [← letB_bit a k hk, ← letB_bit b k hk, h1]
      have h0 := each 0 (by decide)
      have h1 := each 1 (by decide)
      have h2 := each 2 (by decide)
      have h3 := each 3 (by decide)
      have h4 := each 4 (by decide)
      have h5 := each 5 (by decide)
      have h6 := each 6 (by decide)
      have h7 := each 7 (by decide)
      have h8 := each 8 (by decide)
      simp only [Nat.reduceSub, Int.reducePow] at h0 h1 h2 h3 h4 h5 h6 h7 h8
      clear each h
      have g : ∀ x y : Int, (x % 2 = 0 ↔ y % 2 = 0) → x % 2 = y % 2 := fun x y h => by omega
      have k0 := g _ _ h0
      have k1 := g _ _ h1
      have k2 := g _ _ h2
      have k3 := g _ _ h3
      have k4 := g _ _ h4
      have k5 := g _ _ h5
      have k6 := g _ _ h6
      have k7 := g _ _ h7
      have k8 := g _ _ h8
      clear h0 h1 h2 h3 h4 h5 h6 h7 h8 g
      omega

set_option maxHeartbeats 3200000 in
set_option maxRecDepth 100000 in
theorem walk_PermText (a b : Int) (w : World) :
    Calls Try.prog 4 #[.int .i64 a, .int .i64 b] w fun e w' => e = .returned (.bool true) ∧ Below w.heap.size w w' := by
  have hinj : (⟨(textB a).toArray⟩ : ByteArray) = ⟨(textB b).toArray⟩ → a = b ∨ (⟨(textB a).toArray⟩ : ByteArray) = ⟨#[]⟩ := fun h => by
    have h2 : textB a = textB b := by
      have := congrArg (fun x : ByteArray => x.data.toList) h
      simpa using this
    rcases text_inj a b h2 with h | h
    · exact .inl h
    · right; rw [h]
  have hTa := fun w => permText_is a w
  have hTb := fun w => permText_is b w
  have hRa := fun w => refText_is a w
  have hRb := fun w => refText_is b w
  generalize (⟨(textB a).toArray⟩ : ByteArray) = S at *
  generalize (⟨(textB b).toArray⟩ : ByteArray) = T at *
  by_cases hST : S = T
  · subst hST
    by_cases hab : a = b
    · subst hab
      clear hinj
      (go_enter Try.func4, Try.ntmps4; go_wp2_with (first | (go_at_call 10; refine (awake26 _).mono ?_; rintro e w1 ⟨rfl, hb1⟩) | (go_at_call 12; first | (with_reducible refine (hTa _).mono ?_; rintro e w2 ⟨rfl, hb2⟩; replace hb1 := hb1.trans (hb2.mono hb1.size)) | (with_reducible refine (hTb _).mono ?_; rintro e w3 ⟨rfl, hb3⟩; replace hb1 := hb1.trans (hb3.mono hb1.size))) | (go_at_call 13; first | (with_reducible refine (hRa _).mono ?_; rintro e w4 ⟨rfl, rfl⟩) | (with_reducible refine (hRb _).mono ?_; rintro e w5 ⟨rfl, rfl⟩))))
      go_ret
      exact ⟨rfl, hb1⟩
    · have hS := (hinj rfl).resolve_left hab
      subst hS
      clear hinj
      (go_enter Try.func4, Try.ntmps4; go_wp2_with (first | (go_at_call 10; refine (awake26 _).mono ?_; rintro e w1 ⟨rfl, hb1⟩) | (go_at_call 12; first | (with_reducible refine (hTa _).mono ?_; rintro e w2 ⟨rfl, hb2⟩; replace hb1 := hb1.trans (hb2.mono hb1.size)) | (with_reducible refine (hTb _).mono ?_; rintro e w3 ⟨rfl, hb3⟩; replace hb1 := hb1.trans (hb3.mono hb1.size))) | (go_at_call 13; first | (with_reducible refine (hRa _).mono ?_; rintro e w4 ⟨rfl, rfl⟩) | (with_reducible refine (hRb _).mono ?_; rintro e w5 ⟨rfl, rfl⟩))))
      go_ret
      exact ⟨rfl, hb1⟩
  · clear hinj
    (go_enter Try.func4, Try.ntmps4; go_wp2_with (first | (go_at_call 10; refine (awake26 _).mono ?_; rintro e w1 ⟨rfl, hb1⟩) | (go_at_call 12; first | (with_reducible refine (hTa _).mono ?_; rintro e w2 ⟨rfl, hb2⟩; replace hb1 := hb1.trans (hb2.mono hb1.size)) | (with_reducible refine (hTb _).mono ?_; rintro e w3 ⟨rfl, hb3⟩; replace hb1 := hb1.trans (hb3.mono hb1.size))) | (go_at_call 13; first | (with_reducible refine (hRa _).mono ?_; rintro e w4 ⟨rfl, rfl⟩) | (with_reducible refine (hRb _).mono ?_; rintro e w5 ⟨rfl, rfl⟩))))
    all_goals go_ret
    all_goals (first | exact ⟨rfl, hb1⟩ | skip)
    all_goals exact absurd (ByteArray.ext (Array.toList_inj.1 (by rw [← ByteArray.toList_eq, ← ByteArray.toList_eq]; assumption))) hST
end Go.Proofs.Ytioknjdbijogpaa
