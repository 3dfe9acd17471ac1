/- The law InsnBytes, walked. -/
import Derived.Test.YtioknjdbijogpaaInsD
import Derived.Test.YtioknjdbijogpaaRefG
import Derived.Test.YtioknjdbijogpaaLaw16C
namespace Go.Proofs.Ytioknjdbijogpaa
open Go.RowKit
set_option linter.unusedSimpArgs false
set_option linter.unusedVariables false

theorem rightB_congr {f g : Nat → Int} (h : inv f = inv g) : rightB f = rightB g := by
  unfold inv at h
  simp only [Array.mk.injEq, List.cons.injEq, Value.int.injEq, true_and, and_true] at h
  obtain ⟨h0, h1, h2, h3, h4⟩ := h
  unfold rightB
  rw [h0, h1, h2, h3, h4]
theorem encL_get : ∀ (fs : List (Nat → Int)) (j : Nat) (h : j < fs.length) (i : Nat), i < 8 → fs.all rightB = true → (encL fs).getD (8 * j + i) 0 = (e8 fs[j]).getD i 0
  | [], j, h, _, _, _ => by simp at h
  | f :: fs, 0, _, i, hi, ha => by
    simp only [List.all_cons, Bool.and_eq_true] at ha
    have e : encL (f :: fs) = e8 f ++ encL fs := by rw [← enc8 f ha.1]; rfl
    have hl : (e8 f).length = 8 := rfl
    rw [e, List.getD_eq_getElem?_getD, List.getElem?_append_left (by omega), List.getD_eq_getElem?_getD, Nat.mul_zero, Nat.zero_add]
    rfl
  | f :: fs, j + 1, h, i, hi, ha => by
    simp only [List.all_cons, Bool.and_eq_true] at ha
    have e : encL (f :: fs) = e8 f ++ encL fs := by rw [← enc8 f ha.1]; rfl
    have hl : (e8 f).length = 8 := rfl
    rw [e, List.getD_eq_getElem?_getD, List.getElem?_append_right (by omega), hl, show 8 * (j + 1) + i - 8 = 8 * j + i from by omega, ← List.getD_eq_getElem?_getD]
    simpa using encL_get fs j (by simpa using h) i hi ha.2
theorem back1 (fs : List (Nat → Int)) (ha : fs.all rightB = true) : ∀ j (h : j < fs.length) (h' : j < (rdL ⟨(encL fs).toArray⟩ fs.length).length), inv (rdL ⟨(encL fs).toArray⟩ fs.length)[j] = inv fs[j] := by
  intro j h h'
  have hr : rightB fs[j] = true := List.all_eq_true.1 ha _ (List.getElem_mem h)
  have e : (rdL ⟨(encL fs).toArray⟩ fs.length)[j] = rd8 fun i => byteAt ⟨(encL fs).toArray⟩ (8 * j + i) := by simp [rdL]
  rw [e]
  refine rd8_e8 _ hr _ fun i hi => ?_
  show (encL fs).getD (8 * j + i) 0 = _
  rw [encL_get fs j h i hi ha, List.getD_eq_getElem?_getD, List.getElem?_eq_getElem hi]
  rfl
theorem back1_all (fs : List (Nat → Int)) (ha : allB fs = true) : allB (rdL ⟨(encL fs).toArray⟩ fs.length) = true := by
  have ha' := ha
  simp only [allB, Bool.and_eq_true] at ha ⊢
  rw [rdL_len]
  refine ⟨ha.1, ?_⟩
  rw [List.all_eq_true]
  intro x hx
  obtain ⟨j, hj, rfl⟩ := List.mem_iff_getElem.1 hx
  have hj' : j < fs.length := by rw [rdL_len] at hj; exact hj
  rw [rightB_congr (back1 fs ha.2 j hj' hj)]
  exact List.all_eq_true.1 ha.2 _ (List.getElem_mem hj')

set_option maxHeartbeats 3200000 in
set_option maxRecDepth 100000 in
theorem walk_InsnBytes (a : Option Addr) (fs : List (Nat → Int)) (cap : Nat) (w : World) (hl : InSl w a fs) (hn : fs.length ≤ 9223372036854775807) :
    Calls Try.prog 7 #[.slice a fs.length cap] w fun e w' => e = .returned (.bool true) ∧ Below w.heap.size w w' := by
  have hSt := St.start w
  by_cases h100 : 100 < fs.length
  · have e1 : decide ((fs.length : Int) > 100) = true := decide_eq_true (by omega)
    have e2 : decide (100 < fs.length) = true := decide_eq_true (by omega)
    go_enter Try.func7, Try.ntmps7
    go_wp2_with (first | (go_at_call 16; refine (awake16 _).mono ?_; rintro e w1 ⟨rfl, hb9⟩; replace hSt := hSt.ext hb9))
    go_ret
    exact ⟨rfl, hSt.base⟩
  have e1 : decide ((fs.length : Int) > 100) = false := decide_eq_false (by omega)
  have e2 : decide (100 < fs.length) = false := decide_eq_false (by omega)
  have hn100 : fs.length ≤ 100 := by omega
  have hP1 := fun w hl => plain_is a fs cap w hl hn100
  have hR := fun w hl => Right_is a fs cap w hl hn
  have hA := fun A c w hl => refAll_is A fs c w hl (by omega)
  cases hall : allB fs
  · have hE := fun w hl => encode_no a fs cap w hl hn hall
    rw [hall] at hR hA
    have hall := Lib.hid hall
    go_enter Try.func7, Try.ntmps7
    go_wp2_with (first
      | (go_at_call 16; refine (awake16 _).mono ?_; rintro e w1 ⟨rfl, hb9⟩; replace hSt := hSt.ext hb9)
      | (go_at_call 20; with_reducible refine (hP1 _ (hl.ext hSt.base)).mono ?_; rintro e w2 ⟨v2, rfl, hrow2, hb9⟩; obtain ⟨A2, c2, rfl, hc2, hsl2⟩ := hrow2.slice; replace hSt := hSt.ext hb9)
      | (go_at_call 21; refine (hA _ _ _ hsl2).mono ?_; rintro e w1 ⟨rfl, hb9⟩; replace hSt := hSt.ext hb9)
      | (go_at_call 22; refine (hE _ (hl.ext hSt.base)).mono ?_; rintro e w1 ⟨rfl, hb9⟩; replace hSt := hSt.ext hb9)
      | (go_at_call 23; refine (hR _ (hl.ext hSt.base)).mono ?_; rintro e w1 ⟨rfl, hb9⟩; replace hSt := hSt.ext hb9))
    go_ret
    exact ⟨rfl, hSt.base⟩
  · have hall' := hall
    simp only [allB, Bool.and_eq_true, decide_eq_true_eq] at hall'
    have hE := fun w hl => encode_yes a fs cap w hl hall
    have hsz : (⟨(encL fs).toArray⟩ : ByteArray).size = 8 * fs.length := by show (encL fs).length = _; exact encL_len fs
    have hD := fun w => decode_good ⟨(encL fs).toArray⟩ w (by omega) (by omega)
    rw [show (⟨(encL fs).toArray⟩ : ByteArray).size / 8 = fs.length from by omega] at hD
    have hB := fun A c w hl => refBytes_is A fs c w hl (by omega)
    rw [encR_eq fs hall'.2] at hB
    have hb1 := back1 fs hall'.2
    have hb2 := back1_all fs hall
    have hlen := rdL_len ⟨(encL fs).toArray⟩ fs.length
    generalize (⟨(encL fs).toArray⟩ : ByteArray) = S at hE hD hB hb1 hb2 hlen
    generalize rdL S fs.length = gs at hD hb1 hb2 hlen
    have hP2 := fun A c w hl => plain_is A gs c w hl (by omega)
    have hS := fun A c B d w hA hB => refSame_is A B gs fs c d w hA hB (by omega) hlen.symm (fun j h h' => (hb1 j h' h).symm)
    rw [hlen] at hP2 hS
    rw [hall] at hR hA
    have hb2 := Lib.hid hb2
    have hlen := Lib.hid hlen
    have hall := Lib.hid hall
    clear hsz hb1 hall' hn
    go_enter Try.func7, Try.ntmps7
    go_wp2_with (first
      | (go_at_call 16; refine (awake16 _).mono ?_; rintro e w1 ⟨rfl, hb9⟩; replace hSt := hSt.ext hb9)
      | (go_at_call 20; with_reducible refine (hP1 _ (hl.ext hSt.base)).mono ?_; rintro e w2 ⟨v2, rfl, hrow2, hb9⟩; obtain ⟨A2, c2, rfl, hc2, hsl2⟩ := hrow2.slice; replace hSt := hSt.ext hb9)
      | (go_at_call 21; refine (hA _ _ _ hsl2).mono ?_; rintro e w1 ⟨rfl, hb9⟩; replace hSt := hSt.ext hb9; replace hsl2 := hsl2.ext hb9)
      | (go_at_call 22; refine (hE _ (hl.ext hSt.base)).mono ?_; rintro e w1 ⟨rfl, hb9⟩; replace hSt := hSt.ext hb9; replace hsl2 := hsl2.ext hb9)
      | (go_at_call 23; refine (hR _ (hl.ext hSt.base)).mono ?_; rintro e w1 ⟨rfl, hb9⟩; replace hSt := hSt.ext hb9; replace hsl2 := hsl2.ext hb9)
      | (go_at_call 24; refine (hD _).mono ?_; rintro e w3 ⟨hd, hb9⟩; unfold DecP at hd; rw [if_pos hb2.out] at hd; obtain ⟨v3, rfl, hrow3⟩ := hd; obtain ⟨A3, c3, rfl, hc3, hsl3⟩ := hrow3.slice; rw [hlen.out] at hc3 ⊢; replace hSt := hSt.ext hb9; replace hsl2 := hsl2.ext hb9)
      | (go_at_call 25; refine (hB _ _ _ hsl2).mono ?_; rintro e w1 ⟨rfl, hb9⟩; replace hSt := hSt.ext hb9; replace hsl2 := hsl2.ext hb9; replace hsl3 := hsl3.ext hb9)
      | (go_at_call 20; with_reducible refine (hP2 _ _ _ hsl3).mono ?_; rintro e w4 ⟨v4, rfl, hrow4, hb9⟩; obtain ⟨A4, c4, rfl, hc4, hsl4⟩ := hrow4.slice; rw [hlen.out] at hc4 ⊢; replace hSt := hSt.ext hb9; replace hsl2 := hsl2.ext hb9)
      | (go_at_call 26; refine (hS _ _ _ _ _ hsl4 hsl2).mono ?_; rintro e w1 ⟨rfl, hb9⟩; replace hSt := hSt.ext hb9))
    go_ret
    exact ⟨rfl, hSt.base⟩
end Go.Proofs.Ytioknjdbijogpaa
