/- Chapter 17: the law MapsMake where a spec is none, walked. -/
import Derived.Test.YteohokidlopbnaaMkJ
import Derived.Test.YteohokidlopbnaaIntSl
namespace Go.Proofs.Yteohokidlopbnaa
open Go.RowKit
set_option linter.unusedSimpArgs false
set_option linter.unusedVariables false

theorem allOk_succ (ss : List (Int × Int)) (k : Nat) (h : k < ss.length) : allOk (ss.take (k + 1)) = (allOk (ss.take k) && newOk ss[k].1 ss[k].2) := by
  unfold allOk
  rw [List.take_add_one, List.getElem?_eq_getElem h, Option.toList_some, List.all_append, List.all_cons, List.all_nil, Bool.and_true]

set_option maxHeartbeats 4000000 in
set_option maxRecDepth 100000 in
theorem mk_no (a b : Option Addr) (ss : List (Int × Int)) (c m d : Nat) (w : World) (hl : SpSl w a ss) (hno : (decide ((ss.length : Int) ≤ 4) && allOk ss) = false) (h20 : ss.length ≤ 20) (h40 : m ≤ 40) :
    Calls Try.prog 4 #[.slice a ss.length c, .slice b m d] w fun e w' => e = .returned (.bool true) ∧ Below w.heap.size w w' := by
  have hMake : ∀ w1, SpSl w1 a ss → Calls Try.prog 11 #[.slice a ss.length c] w1 fun e w' => Below w1.heap.size w1 w' ∧ e = .returned (.tuple #[.slice none 0 0, .int .i64 22]) := fun w1 hl1 => by
    by_cases h4 : ss.length ≤ 4
    · refine (make_is a ss c w1 hl1 h4).mono ?_
      rintro e w' ⟨hb, ⟨hA, -⟩ | ⟨-, he⟩⟩
      · rw [hA, decide_eq_true (show (ss.length : Int) ≤ 4 by omega)] at hno
        cases hno
      · exact ⟨hb, he⟩
    · refine (make_big a ss.length c w1 (by omega) (by omega)).mono ?_
      rintro e w' ⟨he, rfl⟩
      exact ⟨Below.refl _ _, he⟩
  have e1 : decide ((ss.length : Int) > 20) = false := decide_eq_false (by omega)
  have e2 : decide (20 < (ss.length : Int)) = false := decide_eq_false (by omega)
  have e3 : decide ((m : Int) > 40) = false := decide_eq_false (by omega)
  have e4 : decide (40 < (m : Int)) = false := decide_eq_false (by omega)
  generalize hB0 : decide ((ss.length : Int) ≤ 4) = B0 at hno
  have HN := Lib.hid hno
  clear hno
  go_enter Try.func4, Try.ntmps4
  go_wp2_with (first
    | (go_at_call 6; refine (awake17 _).mono ?_; rintro e w1 ⟨rfl, hb1⟩)
    | (go_at_call 11; refine (hMake _ (hl.ext hb1)).mono ?_; rintro e w2 ⟨hb2, rfl⟩))
  have hbX := hb1.trans (hb2.mono hb1.size)
  have hwX := hbX.size
  go_loopw [7, 38] (fun o i wr => ∃ k : Nat, k ≤ ss.length ∧ i = .int .i64 k ∧ o = .bool (B0 && allOk (ss.take k)) ∧ Below w.heap.size w wr) (fun _ i _ => ss.length - (intOf i).toNat)
  case atStart => exact ⟨0, by omega, rfl, by simp [allOk], hbX⟩
  case round =>
    obtain ⟨k, hk0, rfl, rfl, hbw⟩ := hrel
    by_cases h : k = ss.length
    · subst h
      rw [List.take_length, HN.out]
      go_wp2
      go_ret
      exact ⟨rfl, hbw⟩
    · have hlt : k < ss.length := by omega
      have hlt' : (k : Int) < ss.length := by omega
      obtain ⟨x, rfl, hat⟩ := hl.ext hbw k hlt
      have hsucc := allOk_succ ss k hlt
      have hSt := St.start wr
      generalize hbk : (B0 && allOk (ss.take k)) = bk
      have hnext : (B0 && allOk (ss.take (k + 1))) = (bk && newOk ss[k].1 ss[k].2) := by rw [hsucc, ← Bool.and_assoc, hbk]
      have hOk := fun (h : newOk (ss[k]'hlt).1 (ss[k]'hlt).2 = true) w => rnew_ok (ss[k]'hlt).1 (ss[k]'hlt).2 w (newOk_true h).1 (newOk_true h).2.1 (newOk_true h).2.2
      have hNo := fun (h : newOk (ss[k]'hlt).1 (ss[k]'hlt).2 = false) w => rnew_no (ss[k]'hlt).1 (ss[k]'hlt).2 w h
      generalize ss[k] = s at hat hnext hOk hNo
      clear hsucc hbk
      cases bk with
      | false =>
        have HX := Lib.hid hnext
        clear hOk hNo hnext
        go_wp2_with (first | ((with_reducible refine sp_load_at ?_); refine ⟨rfl, _, _, rfl, hat, ?_⟩; (simp only [Act.put, List.setIfInBounds_toArray, List.set_cons_succ, List.set_cons_zero])) | ((with_reducible refine ev_alloc hSt zSp ?_); refine ⟨rfl, ?_⟩; intro gE wN hSt; (simp only [Act.put, List.setIfInBounds_toArray, List.set_cons_succ, List.set_cons_zero])) | ((with_reducible refine ev_store hSt aSp ?_); refine ⟨rfl, _, [], _, _, spv _, rfl, rfl, rfl, rfl, rfl, spv_one _, ?_⟩; intro wN hSt; simp only [List.nil_append] at hSt; simp only [Act.put]) | ((with_reducible refine ev_load1 hSt oInt ?_); refine ⟨rfl, _, _, _, _, _, rfl, (by repeat (first | exact List.mem_cons_self .. | refine List.mem_cons_of_mem _ ?_)), (by first | exact spv0 _ | exact spv1 _), ?_⟩; (simp only [Act.put, List.setIfInBounds_toArray, List.set_cons_succ, List.set_cons_zero])))
        exact ⟨⟨k + 1, by omega, by simp, by rw [HX.out]; rfl, hbw.trans (hSt.base.mono hbw.size)⟩, by simp only [intOf]; omega⟩
      | true =>
        cases hv : newOk s.1 s.2 with
        | true =>
          have hN := hOk hv
          rw [hv] at hnext
          have HX := Lib.hid hnext
          clear hOk hNo hnext hv
          go_wp2_with (first
            | ((with_reducible refine sp_load_at ?_); refine ⟨rfl, _, _, rfl, hat, ?_⟩; (simp only [Act.put, List.setIfInBounds_toArray, List.set_cons_succ, List.set_cons_zero])) | ((with_reducible refine ev_alloc hSt zSp ?_); refine ⟨rfl, ?_⟩; intro gE wN hSt; (simp only [Act.put, List.setIfInBounds_toArray, List.set_cons_succ, List.set_cons_zero])) | ((with_reducible refine ev_store hSt aSp ?_); refine ⟨rfl, _, [], _, _, spv _, rfl, rfl, rfl, rfl, rfl, spv_one _, ?_⟩; intro wN hSt; simp only [List.nil_append] at hSt; simp only [Act.put]) | ((with_reducible refine ev_load1 hSt oInt ?_); refine ⟨rfl, _, _, _, _, _, rfl, (by repeat (first | exact List.mem_cons_self .. | refine List.mem_cons_of_mem _ ?_)), (by first | exact spv0 _ | exact spv1 _), ?_⟩; (simp only [Act.put, List.setIfInBounds_toArray, List.set_cons_succ, List.set_cons_zero]))
            | (go_at_call 12; refine (hN _).mono ?_; rintro e w3 ⟨g3, rfl, hb3, -⟩))
          exact ⟨⟨k + 1, by omega, by simp, by rw [HX.out]; rfl, hbw.trans ((hSt.base.trans (hb3.mono hSt.base.size)).mono hbw.size)⟩, by simp only [intOf]; omega⟩
        | false =>
          have hN := hNo hv
          rw [hv] at hnext
          have HX := Lib.hid hnext
          clear hOk hNo hnext hv
          go_wp2_with (first
            | ((with_reducible refine sp_load_at ?_); refine ⟨rfl, _, _, rfl, hat, ?_⟩; (simp only [Act.put, List.setIfInBounds_toArray, List.set_cons_succ, List.set_cons_zero])) | ((with_reducible refine ev_alloc hSt zSp ?_); refine ⟨rfl, ?_⟩; intro gE wN hSt; (simp only [Act.put, List.setIfInBounds_toArray, List.set_cons_succ, List.set_cons_zero])) | ((with_reducible refine ev_store hSt aSp ?_); refine ⟨rfl, _, [], _, _, spv _, rfl, rfl, rfl, rfl, rfl, spv_one _, ?_⟩; intro wN hSt; simp only [List.nil_append] at hSt; simp only [Act.put]) | ((with_reducible refine ev_load1 hSt oInt ?_); refine ⟨rfl, _, _, _, _, _, rfl, (by repeat (first | exact List.mem_cons_self .. | refine List.mem_cons_of_mem _ ?_)), (by first | exact spv0 _ | exact spv1 _), ?_⟩; (simp only [Act.put, List.setIfInBounds_toArray, List.set_cons_succ, List.set_cons_zero]))
            | (go_at_call 12; refine (hN _).mono ?_; rintro e w3 ⟨rfl, hw3⟩; subst w3))
          exact ⟨⟨k + 1, by omega, by simp, by rw [HX.out]; rfl, hbw.trans (hSt.base.mono hbw.size)⟩, by simp only [intOf]; omega⟩
end Go.Proofs.Yteohokidlopbnaa
