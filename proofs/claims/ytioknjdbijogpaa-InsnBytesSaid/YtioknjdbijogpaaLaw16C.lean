/- The law InsnCuts, walked. -/
import Derived.Test.YtioknjdbijogpaaLaw16A
import Derived.Laws.Strings
namespace Go.Proofs.Ytioknjdbijogpaa
open Go.RowKit PInsnKinds
set_option linter.unusedSimpArgs false
set_option linter.unusedVariables false

theorem InSl.take {w : World} {a : Option Addr} {fs : List (Nat → Int)} (h : InSl w a fs) (k : Nat) : InSl w a (fs.take k) := fun j hj => by
  have hj' : j < fs.length := by rw [List.length_take] at hj; omega
  obtain ⟨x, h1, h2⟩ := h j hj'
  exact ⟨x, h1, by rw [List.getElem_take]; exact h2⟩
theorem add_add (x : Addr) (i j : Nat) : (x.add i).add j = x.add (i + j) := by
  unfold Addr.add
  split <;> split <;> simp_all <;> omega
theorem InSl.drop {w : World} {x : Addr} {fs : List (Nat → Int)} (h : InSl w (some x) fs) (k : Nat) : InSl w (some (x.add (k * 5))) (fs.drop k) := fun j hj => by
  have hj' : k + j < fs.length := by rw [List.length_drop] at hj; omega
  obtain ⟨y, h1, h2⟩ := h (k + j) hj'
  cases h1
  refine ⟨_, rfl, ?_⟩
  rw [List.getElem_drop, add_add, show k * 5 + j * 5 = (k + j) * 5 from by omega]
  exact h2

theorem str_cat (l m : List UInt8) : (⟨l.toArray⟩ : ByteArray) ++ ⟨m.toArray⟩ = ⟨(l ++ m).toArray⟩ := by
  apply ByteArray.ext
  rw [ByteArray.data_append]
  simp

set_option maxHeartbeats 1000000 in
set_option maxRecDepth 100000 in
theorem decode_cut (s : ByteArray) (w : World) (h : s.size % 8 ≠ 0) (hn : s.size ≤ 9223372036854775807) :
    Calls Try.prog 24 #[.string s] w fun e w' => e = .returned (.tuple #[.slice none 0 0, .int .i64 22]) ∧ w' = w := by
  have hm : ((s.size : Int).tmod 8 != 0) = true := by
    rw [Int.tmod_eq_emod_of_nonneg (by omega)]
    simp only [bne_iff_ne, ne_eq]
    omega
  go_enter Try.func24, Try.ntmps24
  go_wp2
  go_ret2
  exact ⟨rfl, rfl⟩

set_option maxHeartbeats 3200000 in
set_option maxRecDepth 100000 in
theorem walk_InsnCuts (a : Option Addr) (fs : List (Nat → Int)) (cap : Nat) (n : Int) (w : World) (hl : InSl w a fs) (hn : fs.length ≤ 9223372036854775807) (hc : fs.length ≤ cap) :
    Calls Try.prog 9 #[.slice a fs.length cap, .int .i64 n] w fun e w' => e = .returned (.bool true) ∧ Below w.heap.size w w' := by
  have hSt := St.start w
  have hR := fun w hl => Right_is a fs cap w hl hn
  by_cases hall : allB fs = true
  · rw [hall] at hR
    by_cases c1 : n < 1
    · have e1 : decide (n < 1) = true := decide_eq_true c1
      go_enter Try.func9, Try.ntmps9
      go_wp2_with (first
        | (go_at_call 16; refine (awake16 _).mono ?_; rintro e w1 ⟨rfl, hb9⟩; replace hSt := hSt.ext hb9)
        | (go_at_call 23; refine (hR _ (hl.ext hSt.base)).mono ?_; rintro e w1 ⟨rfl, hb9⟩; replace hSt := hSt.ext hb9))
      go_ret
      exact ⟨rfl, hSt.base⟩
    have e1 : decide (n < 1) = false := decide_eq_false c1
    by_cases c2 : (fs.length : Int) ≤ n
    · have e2 : decide (n ≥ fs.length) = true := decide_eq_true c2
      have e3 : decide ((fs.length : Int) ≤ n) = true := decide_eq_true c2
      go_enter Try.func9, Try.ntmps9
      go_wp2_with (first
        | (go_at_call 16; refine (awake16 _).mono ?_; rintro e w1 ⟨rfl, hb9⟩; replace hSt := hSt.ext hb9)
        | (go_at_call 23; refine (hR _ (hl.ext hSt.base)).mono ?_; rintro e w1 ⟨rfl, hb9⟩; replace hSt := hSt.ext hb9))
      go_ret
      exact ⟨rfl, hSt.base⟩
    have e2 : decide (n ≥ fs.length) = false := decide_eq_false c2
    have e3 : decide ((fs.length : Int) ≤ n) = false := decide_eq_false c2
    obtain ⟨k, rfl⟩ := Int.eq_ofNat_of_zero_le (by omega : 0 ≤ n)
    have hk1 : 1 ≤ k := by omega
    have hk2 : k < fs.length := by omega
    have h64 : fs.length ≤ 64 := by
      simp only [allB, Bool.and_eq_true, decide_eq_true_eq] at hall
      exact hall.1.2
    have hev : fs.all rightB = true := by
      simp only [allB, Bool.and_eq_true] at hall
      exact hall.2
    have hta : allB (fs.take k) = true := by
      simp only [allB, Bool.and_eq_true, decide_eq_true_eq, List.length_take]
      refine ⟨⟨by omega, by omega⟩, ?_⟩
      rw [List.all_eq_true] at hev ⊢
      exact fun x hx => hev x (List.mem_of_mem_take hx)
    have hda : allB (fs.drop k) = true := by
      simp only [allB, Bool.and_eq_true, decide_eq_true_eq, List.length_drop]
      refine ⟨⟨by omega, by omega⟩, ?_⟩
      rw [List.all_eq_true] at hev ⊢
      exact fun x hx => hev x (List.mem_of_mem_drop hx)
    obtain ⟨x, rfl, -⟩ := hl 0 (by omega)
    have hE := fun (w : World) hl => encode_yes (some x) fs cap w hl hall
    have hEt := fun (w : World) (cap : Nat) hl => encode_yes (some x) (fs.take k) cap w hl hta
    have hEd := fun (w : World) (cap : Nat) hl => encode_yes (some (x.add (k * 5))) (fs.drop k) cap w hl hda
    rw [show (fs.take k).length = k from by rw [List.length_take]; omega] at hEt
    rw [show (fs.drop k).length = fs.length - k from List.length_drop] at hEd
    have hcat : (⟨(encL (fs.take k)).toArray⟩ : ByteArray) ++ ⟨(encL (fs.drop k)).toArray⟩ = ⟨(encL fs).toArray⟩ := by
      rw [str_cat, encL, encL, encL, ← List.flatMap_append, List.take_append_drop]
    have hsz : (⟨(encL fs).toArray⟩ : ByteArray).size = 8 * fs.length := by show (encL fs).length = _; exact encL_len fs
    have hs1 : (⟨(encL (fs.take k)).toArray⟩ : ByteArray).size ≤ 512 := by show (encL (fs.take k)).length ≤ _; rw [encL_len, List.length_take]; omega
    have hs2 : (⟨(encL (fs.drop k)).toArray⟩ : ByteArray).size ≤ 512 := by show (encL (fs.drop k)).length ≤ _; rw [encL_len, List.length_drop]; omega
    generalize (⟨(encL (fs.take k)).toArray⟩ : ByteArray) = S1 at hEt hcat hs1
    generalize (⟨(encL (fs.drop k)).toArray⟩ : ByteArray) = S2 at hEd hcat hs2
    generalize (⟨(encL fs).toArray⟩ : ByteArray) = S at hE hcat hsz
    have hD := fun (w : World) => decode_cut (S.extract 0 (8 * k + 3)) w (by rw [ByteArray.size_extract]; omega) (by rw [ByteArray.size_extract]; omega)
    clear hall hev hta hda
    go_enter Try.func9, Try.ntmps9
    go_wp2_with (first
      | (go_at_call 16; refine (awake16 _).mono ?_; rintro e w1 ⟨rfl, hb9⟩; replace hSt := hSt.ext hb9)
      | (go_at_call 23; refine (hR _ (hl.ext hSt.base)).mono ?_; rintro e w1 ⟨rfl, hb9⟩; replace hSt := hSt.ext hb9)
      | (go_at_call 22; first | (with_reducible refine (hE _ (hl.ext hSt.base)).mono ?_; rintro e w1 ⟨rfl, hb9⟩; replace hSt := hSt.ext hb9) | (with_reducible refine (hEt _ _ ((hl.ext hSt.base).take k)).mono ?_; rintro e w1 ⟨rfl, hb9⟩; replace hSt := hSt.ext hb9) | (with_reducible refine (hEd _ _ ((hl.ext hSt.base).drop k)).mono ?_; rintro e w1 ⟨rfl, hb9⟩; replace hSt := hSt.ext hb9))
      | (go_at_call 24; refine (hD _).mono ?_; rintro e w1 ⟨rfl, rfl⟩))
    go_ret
    exact ⟨rfl, hSt.base⟩
  · have hf : allB fs = false := by simpa using hall
    rw [hf] at hR
    go_enter Try.func9, Try.ntmps9
    go_wp2_with (first
      | (go_at_call 16; refine (awake16 _).mono ?_; rintro e w1 ⟨rfl, hb9⟩; replace hSt := hSt.ext hb9)
      | (go_at_call 23; refine (hR _ (hl.ext hSt.base)).mono ?_; rintro e w1 ⟨rfl, hb9⟩; replace hSt := hSt.ext hb9))
    go_ret
    exact ⟨rfl, hSt.base⟩
end Go.Proofs.Ytioknjdbijogpaa
