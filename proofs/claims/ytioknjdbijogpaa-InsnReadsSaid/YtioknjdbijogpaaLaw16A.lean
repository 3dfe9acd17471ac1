/- Chapter 16's example, and the law InsnKinds, walked. -/
import Derived.Test.YtioknjdbijogpaaInsC
namespace Go.Proofs.Ytioknjdbijogpaa
open Go.RowKit PInsnKinds
set_option linter.unusedSimpArgs false
set_option linter.unusedVariables false

def exF (i : Nat) : Int := match i with
  | 0 => 2 | 1 => 3 | 4 => -1 | _ => 0
theorem inSl_one {w : World} {g : Nat} {T : TypeId} {fr : Nat × Nat} (f : Nat → Int) (hg : w.heap[g]? = some (.cells (inv f) T fr)) : InSl w (some ⟨g, 0, none⟩) [f] := by
  intro j hj
  have h0 : j = 0 := by simpa using hj
  subst h0
  refine ⟨_, rfl, fun i v hv => ?_⟩
  rw [Nat.zero_mul, Addr.add_mid, Addr.add_mid, cell_of_row w g _ _ _ _ hg]
  simpa using hv

set_option maxHeartbeats 1000000 in
set_option maxRecDepth 100000 in
theorem awake16 (w : World) : Calls Try.prog 16 #[] w fun e w' => e = .returned (.bool true) ∧ Below w.heap.size w w' := by
  have hall : allB [exF] = true := by decide +kernel
  have hb : (⟨(encL [exF]).toArray⟩ : ByteArray) = ⟨#[2, 48, 0, 0, 255, 255, 255, 255]⟩ := by decide +kernel
  have hE := fun (w : World) (g cap : Nat) (hl : InSl w (some ⟨g, 0, none⟩) [exF]) => encode_yes (some ⟨g, 0, none⟩) [exF] cap w hl hall
  rw [hb] at hE
  go_enter Try.func16, Try.ntmps16
  go_wp2_with (go_at_call 22; refine (hE _ _ _ (inSl_one exF (heap_alloc_last _ _))).mono ?_; rintro e w1 ⟨rfl, hb1⟩)
  go_ret
  exact ⟨rfl, ((Below.refl _ w).alloc (Nat.le_refl _) _).trans (hb1.mono (by simp))⟩

theorem hasImm_eq (op : Int) : ∃ b, insn_HasImm.f (0 + 1 + 1 + 1 + 1 + 1 + 1) op = some b ∧ narthexref16_HasImm.f op = some b := by
  by_cases h : 0 ≤ op ∧ op ≤ 80
  · obtain ⟨n, rfl⟩ := Int.eq_ofNat_of_zero_le h.1
    have hn : n < 81 := by omega
    have key : ∀ n : Fin 81, (insn_HasImm.f (0 + 1 + 1 + 1 + 1 + 1 + 1) ((n.val : Nat) : Int) = some true ∧ narthexref16_HasImm.f ((n.val : Nat) : Int) = some true) ∨ (insn_HasImm.f (0 + 1 + 1 + 1 + 1 + 1 + 1) ((n.val : Nat) : Int) = some false ∧ narthexref16_HasImm.f ((n.val : Nat) : Int) = some false) := by decide +kernel
    rcases key ⟨n, hn⟩ with h | h
    · exact ⟨true, h⟩
    · exact ⟨false, h⟩
  · have hs : shp op = (false, false, false, false, false) := by
      unfold shp
      repeat (rw [if_neg (by omega)])
    refine ⟨false, ?_, ?_⟩
    · unfold insn_HasImm.f
      rw [shp_f, hs]
      rfl
    · unfold narthexref16_HasImm.f
      rw [if_neg (by omega)]
      by_cases h1 : op ≥ 21
      · rw [if_pos h1, if_neg (by omega), if_pos (by omega), decide_eq_false (by omega)]
      · rw [if_neg h1, if_neg (by omega)]

set_option maxHeartbeats 1000000 in
set_option maxRecDepth 100000 in
theorem walk_InsnKinds (op : Int) (w : World) : Calls Try.prog 6 #[.int .i64 op] w fun e w' => e = .returned (.bool true) ∧ Below w.heap.size w w' := by
  obtain ⟨b, h1, h2⟩ := hasImm_eq op
  have hSt := St.start w
  by_cases c : op ≥ 32
  · have e1 : decide (op ≥ 32) = true := decide_eq_true c
    have e2 : decide (32 ≤ op) = true := decide_eq_true c
    have hj : insn_IsJump.f op = some (decide (op ≤ 40)) := by unfold insn_IsJump.f; rw [if_pos c]
    obtain ⟨j, hd⟩ : ∃ j, decide (op ≤ 40) = j := ⟨_, rfl⟩
    rw [hd] at hj
    clear c
    go_enter Try.func6, Try.ntmps6
    go_wp2_with (first
      | (go_at_call 16; refine (awake16 _).mono ?_; rintro e w1 ⟨rfl, hb9⟩; replace hSt := hSt.ext hb9)
      | (go_at_call 17; refine (insn_HasImm.calls _ _ _ _ h1).mono ?_; rintro e w1 ⟨rfl, hb9⟩; replace hSt := hSt.ext hb9)
      | (go_at_call 18; refine (narthexref16_HasImm.calls _ _ _ h2).mono ?_; rintro e w1 ⟨rfl, hb9⟩; replace hSt := hSt.ext hb9.below)
      | (go_at_call 19; refine (insn_IsJump.calls _ _ _ hj).mono ?_; rintro e w1 ⟨rfl, hb9⟩; replace hSt := hSt.ext hb9.below))
    go_ret
    exact ⟨rfl, hSt.base⟩
  · have e1 : decide (op ≥ 32) = false := decide_eq_false c
    have e2 : decide (32 ≤ op) = false := decide_eq_false c
    have hj : insn_IsJump.f op = some false := by unfold insn_IsJump.f; rw [if_neg c]
    clear c
    go_enter Try.func6, Try.ntmps6
    go_wp2_with (first
      | (go_at_call 16; refine (awake16 _).mono ?_; rintro e w1 ⟨rfl, hb9⟩; replace hSt := hSt.ext hb9)
      | (go_at_call 17; refine (insn_HasImm.calls _ _ _ _ h1).mono ?_; rintro e w1 ⟨rfl, hb9⟩; replace hSt := hSt.ext hb9)
      | (go_at_call 18; refine (narthexref16_HasImm.calls _ _ _ h2).mono ?_; rintro e w1 ⟨rfl, hb9⟩; replace hSt := hSt.ext hb9.below)
      | (go_at_call 19; refine (insn_IsJump.calls _ _ _ hj).mono ?_; rintro e w1 ⟨rfl, hb9⟩; replace hSt := hSt.ext hb9.below))
    go_ret
    exact ⟨rfl, hSt.base⟩
end Go.Proofs.Ytioknjdbijogpaa
