/- The law InsnReads, walked. -/
import Derived.Test.YtioknjdbijogpaaLaw16D
namespace Go.Proofs.Ytioknjdbijogpaa
open Go.RowKit
set_option linter.unusedSimpArgs false
set_option linter.unusedVariables false

set_option maxHeartbeats 1000000 in
set_option maxRecDepth 100000 in
theorem decode_long (s : ByteArray) (w : World) (h8 : s.size % 8 = 0) (h : 512 < s.size) :
    Calls Try.prog 24 #[.string s] w fun e w' => e = .returned (.tuple #[.slice none 0 0, .int .i64 22]) ∧ w' = w := by
  have e1 : ((s.size : Int) % 8 != 0) = false := by simp only [bne_eq_false_iff_eq]; omega
  have e2 : decide ((s.size : Int) > 512) = true := decide_eq_true (by omega)
  have e3 : decide (512 < s.size) = true := decide_eq_true (by omega)
  clear h8 h
  go_enter Try.func24, Try.ntmps24
  go_wp2
  go_ret2
  exact ⟨rfl, rfl⟩
theorem decode_bad (s : ByteArray) (w : World) (h : ¬ (s.size % 8 = 0 ∧ s.size ≤ 512)) (hn : s.size ≤ 9223372036854775807) :
    Calls Try.prog 24 #[.string s] w fun e w' => e = .returned (.tuple #[.slice none 0 0, .int .i64 22]) ∧ w' = w := by
  by_cases h8 : s.size % 8 = 0
  · exact decode_long s w h8 (by omega)
  · exact decode_cut s w h8 hn

/-- The bytes of right instructions that were read are these bytes. -/
theorem back2 (s : ByteArray) (n : Nat) (hs : 8 * n ≤ s.size) (ha : (rdL s n).all rightB = true) : encL (rdL s n) = s.data.toList.take (8 * n) := by
  induction n with
  | zero => simp [rdL, encL]
  | succ n ih =>
    rw [rdL_succ, List.all_append, Bool.and_eq_true] at ha
    have h1 : rightB (rd8 fun i => byteAt s (8 * n + i)) = true := by simpa using ha.2
    rw [rdL_succ, encL_snoc, ih (by omega) ha.1, enc8 _ h1, e8_rd8]
    apply List.ext_getElem
    · simp; omega
    · intro j hj1 hj2
      have hl : s.data.toList.length = s.size := by simp
      simp only [List.length_append, List.length_take, List.length_cons, List.length_nil, hl] at hj1
      by_cases hj : j < 8 * n
      · rw [List.getElem_append_left (by simp; omega)]
        simp
      · rw [List.getElem_append_right (by simp; omega)]
        have e : ∀ i (hi : 8 * n + i < s.size), byteAt s (8 * n + i) = s.data.toList[8 * n + i]'(by rw [hl]; exact hi) := fun i hi => by
          unfold byteAt
          rw [List.getD_eq_getElem?_getD, List.getElem?_eq_getElem (by rw [hl]; exact hi)]
          rfl
        rw [List.getElem_take]
        obtain ⟨d, hd⟩ : ∃ d, j = 8 * n + d := ⟨j - 8 * n, by omega⟩
        subst hd
        have hlt : (s.data.toList.take (8 * n)).length = 8 * n := by simp; omega
        simp only [hlt, Nat.add_sub_cancel_left]
        rcases (by omega : d = 0 ∨ d = 1 ∨ d = 2 ∨ d = 3 ∨ d = 4 ∨ d = 5 ∨ d = 6 ∨ d = 7) with rfl | rfl | rfl | rfl | rfl | rfl | rfl | rfl
        all_goals
          simp only [List.getElem_cons_zero, List.getElem_cons_succ]
          exact e _ (by omega)
theorem back2_all (s : ByteArray) (h8 : s.size % 8 = 0) (ha : (rdL s (s.size / 8)).all rightB = true) : (⟨(encL (rdL s (s.size / 8))).toArray⟩ : ByteArray) = s := by
  rw [back2 s (s.size / 8) (by omega) ha, List.take_of_length_le (by simp; omega)]

set_option maxHeartbeats 3200000 in
set_option maxRecDepth 100000 in
theorem walk_InsnReads (s : ByteArray) (w : World) (hn : s.size ≤ 9223372036854775807) :
    Calls Try.prog 8 #[.string s] w fun e w' => e = .returned (.bool true) ∧ Below w.heap.size w w' := by
  have hSt := St.start w
  by_cases h2000 : 2000 < s.size
  · have e1 : decide ((s.size : Int) > 2000) = true := decide_eq_true (by omega)
    have e2 : decide (2000 < s.size) = true := decide_eq_true (by omega)
    go_enter Try.func8, Try.ntmps8
    go_wp2_with (first | (go_at_call 16; refine (awake16 _).mono ?_; rintro e w1 ⟨rfl, hb9⟩; replace hSt := hSt.ext hb9))
    go_ret
    exact ⟨rfl, hSt.base⟩
  have e1 : decide ((s.size : Int) > 2000) = false := decide_eq_false (by omega)
  have e2 : decide (2000 < s.size) = false := decide_eq_false (by omega)
  by_cases hg : s.size % 8 = 0 ∧ s.size ≤ 512
  · have hD := fun w => decode_good s w hg.1 hg.2
    have hRd := fun w => refRead_is s w hg.1 hg.2
    have hlen := rdL_len s (s.size / 8)
    have hN : s.size / 8 ≤ 64 := by omega
    cases hall : allB (rdL s (s.size / 8))
    · rw [hall] at hRd
      have HA := Lib.hid hall
      generalize rdL s (s.size / 8) = gs at *
      clear hall hlen hN hg
      go_enter Try.func8, Try.ntmps8
      go_wp2_with (first
        | (go_at_call 16; refine (awake16 _).mono ?_; rintro e w1 ⟨rfl, hb9⟩; replace hSt := hSt.ext hb9)
        | (go_at_call 24; refine (hD _).mono ?_; rintro e w3 ⟨hd, hb9⟩; unfold DecP at hd; rw [if_neg (by simp [HA.out])] at hd; obtain rfl := hd; replace hSt := hSt.ext hb9)
        | (go_at_call 27; refine (hRd _).mono ?_; rintro e w4 ⟨v4, rfl, hrow4, hb9⟩; replace hSt := hSt.ext hb9))
      go_ret
      exact ⟨rfl, hSt.base⟩
    · have hall' := hall
      simp only [allB, Bool.and_eq_true, decide_eq_true_eq] at hall'
      have hback := back2_all s hg.1 hall'.2
      have hE := fun A c w hl => encode_yes A (rdL s (s.size / 8)) c w hl hall
      rw [hback] at hE
      rw [hall] at hRd
      have HA := Lib.hid hall
      generalize rdL s (s.size / 8) = gs at *
      have hP2 := fun A c w hl => plain_is A gs c w hl (by omega)
      have hS := fun A c B d w hA hB => refSame_is A B gs gs c d w hA hB (by omega) rfl (fun j h h' => rfl)
      clear hall hall' hback hlen hN hg
      have hlen : Hid True := Lib.hid trivial
      go_enter Try.func8, Try.ntmps8
      go_wp2_with (first
        | (go_at_call 16; refine (awake16 _).mono ?_; rintro e w1 ⟨rfl, hb9⟩; replace hSt := hSt.ext hb9)
        | (go_at_call 24; refine (hD _).mono ?_; rintro e w3 ⟨hd, hb9⟩; unfold DecP at hd; rw [if_pos HA.out] at hd; obtain ⟨v3, rfl, hrow3⟩ := hd; obtain ⟨A3, c3, rfl, hc3, hsl3⟩ := hrow3.slice; replace hSt := hSt.ext hb9)
        | (go_at_call 27; refine (hRd _).mono ?_; rintro e w4 ⟨v4, rfl, hrow4, hb9⟩; obtain ⟨A4, c4, rfl, hc4, hsl4⟩ := hrow4.slice; replace hSt := hSt.ext hb9; replace hsl3 := hsl3.ext hb9)
        | (go_at_call 22; refine (hE _ _ _ hsl3).mono ?_; rintro e w5 ⟨rfl, hb9⟩; replace hSt := hSt.ext hb9; replace hsl3 := hsl3.ext hb9; replace hsl4 := hsl4.ext hb9)
        | (go_at_call 20; refine (hP2 _ _ _ hsl3).mono ?_; rintro e w6 ⟨v6, rfl, hrow6, hb9⟩; obtain ⟨A6, c6, rfl, hc6, hsl6⟩ := hrow6.slice; replace hSt := hSt.ext hb9; replace hsl4 := hsl4.ext hb9)
        | (go_at_call 26; refine (hS _ _ _ _ _ hsl6 hsl4).mono ?_; rintro e w7 ⟨rfl, hb9⟩; replace hSt := hSt.ext hb9))
      go_ret
      exact ⟨rfl, hSt.base⟩
  · have hD := fun w => decode_bad s w hg hn
    have hRd := fun w => refRead_no s w hg
    clear hg
    go_enter Try.func8, Try.ntmps8
    go_wp2_with (first
      | (go_at_call 16; refine (awake16 _).mono ?_; rintro e w1 ⟨rfl, hb9⟩; replace hSt := hSt.ext hb9)
      | (go_at_call 24; refine (hD _).mono ?_; rintro e w3 ⟨rfl, rfl⟩)
      | (go_at_call 27; refine (hRd _).mono ?_; rintro e w4 ⟨rfl, hb9⟩; replace hSt := hSt.ext hb9))
    go_ret
    exact ⟨rfl, hSt.base⟩
end Go.Proofs.Ytioknjdbijogpaa
