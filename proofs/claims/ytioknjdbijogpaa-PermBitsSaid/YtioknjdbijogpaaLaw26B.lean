/- The law PermBits, walked. -/
import Derived.Test.YtioknjdbijogpaaPermC
import Derived.Test.YtioknjdbijogpaaPermB
import Derived.Test.YtioknjdbijogpaaLaw26A
namespace Go.Proofs.Ytioknjdbijogpaa
open Go.RowKit
set_option linter.unusedSimpArgs false
set_option linter.unusedVariables false

theorem may_bit (u p o : Int) (j : Nat) (hj : j < 3) : mayB u p o (2 ^ j) = decide (pBits u p o / 2 ^ j % 2 = 1) := by
  rw [mayB]
  rcases (by omega : j = 0 ∨ j = 1 ∨ j = 2) with rfl | rfl | rfl <;> simp
theorem sum_step (b : Int) (j : Nat) (hj : j < 3) (h0 : 0 ≤ b) (h8 : b < 8) : b % 2 ^ (j + 1) = b % 2 ^ j + (if b / 2 ^ j % 2 = 1 then 2 ^ j else 0) := by
  rcases (by omega : j = 0 ∨ j = 1 ∨ j = 2) with rfl | rfl | rfl <;> simp only [Nat.reduceAdd, Int.reducePow] <;> split <;> omega

set_option maxHeartbeats 3200000 in
set_option maxRecDepth 100000 in
theorem walk_PermBits (u : Int) (a : Option Addr) (fs : List (Nat → Int)) (cap : Nat) (w : World) (hl : AtSl w a fs) (hn : fs.length ≤ 140737488355328) :
    Calls Try.prog 5 #[.int .i64 u, .slice a fs.length cap] w fun e w' => e = .returned (.bool true) ∧ Below w.heap.size w w' := by
  by_cases h60 : 60 < fs.length
  · have hx : (fs.length : Int) > 60 := by omega
    have e60 : decide ((fs.length : Int) > 60) = true := decide_eq_true hx
    go_enter Try.func5, Try.ntmps5
    go_wp2_with (go_at_call 10; refine (awake26 _).mono ?_; rintro e w1 ⟨rfl, hb1⟩)
    go_ret
    exact ⟨rfl, hb1⟩
  have e60 : decide ((fs.length : Int) > 60) = false := decide_eq_false (by omega)
  have hlen : (bitsOf26 u fs).length = fs.length := by rw [bitsOf26, List.length_map]
  go_enter Try.func5, Try.ntmps5
  go_wp2_with (first
    | (go_at_call 10; refine (awake26 _).mono ?_; rintro e w1 ⟨rfl, hb1⟩)
    | (go_at_call 14; refine (permBitsAll u a fs cap _ (hl.ext hb1) (by omega)).mono ?_; rintro e w2 ⟨v, rfl, hrow, hb2⟩; obtain ⟨ga, gcap, hv, hgsl⟩ := hrow.slice; rw [hlen] at hv; subst hv; clear hrow))
  have hb12 := hb1.trans (hb2.mono hb1.size)
  go_loopw [26] (fun i wr => ∃ k : Nat, k ≤ fs.length ∧ i = .int .i64 k ∧ Below w2.heap.size w2 wr) (fun i _ => fs.length - (intOf i).toNat)
  case atStart => exact ⟨0, by omega, rfl, Below.refl _ _⟩
  case round =>
    obtain ⟨k, hk, rfl, hbw⟩ := hrel
    have hbW := hb12.trans (hbw.mono hb12.size)
    by_cases h : k = fs.length
    · subst h
      go_wp2
      go_ret
      exact ⟨rfl, hbW⟩
    · have hlt : k < fs.length := by omega
      have hlt' : (k : Int) < fs.length := by omega
      obtain ⟨x, rfl, hat⟩ := hl.ext hbW k hlt
      obtain ⟨f, hf⟩ : ∃ f, fs[k] = f := ⟨_, rfl⟩
      rw [hf] at hat
      have hSt := St.start wr
      go_wp2_with (first
        | ((with_reducible refine ev_alloc hSt (by first | exact zPg | exact zHd | exact zHr | exact zX1 | exact zX2 | exact zX3 | exact zX4) ?_); refine ⟨rfl, ?_⟩; intro gN wN hSt; (simp only [Act.put, List.setIfInBounds_toArray, List.set_cons_succ, List.set_cons_zero]))
        | ((with_reducible refine ev_store hSt aX1 ?_); refine ⟨rfl, _, [], _, _, _, rfl, rfl, rfl, rfl, rfl, (by simp [atv, Value.oneCell']), ?_⟩; intro wN hSt; simp only [List.nil_append] at hSt; simp only [Act.put])
        | ((with_reducible refine at_load_at ?_); refine ⟨rfl, _, _, rfl, hat, ?_⟩; (simp only [Act.put, List.setIfInBounds_toArray, List.set_cons_succ, List.set_cons_zero])))
      have hSt := hSt.alloc (.cells #[.int .i64 1, .int .i64 2, .int .i64 4] 3 (0, 0))
      have hci : ∀ wq, Below wr.heap.size wr wq → ∃ y, ga = some y ∧ wq.cell? (y.add k) = some (.int .i64 (pBits u (f 2) (f 3))) := fun wq hq => by
        obtain ⟨y, h1, h2, -⟩ := (hgsl.ext (hbw.trans (hq.mono hbw.size))) k (by rw [hlen]; exact hlt)
        refine ⟨y, h1, h2.trans ?_⟩
        simp [bitsOf26, hf]
      go_loopw [8, 33] (fun s i wq => ∃ j : Nat, j ≤ 3 ∧ i = .int .i64 j ∧ s = .int .i64 (pBits u (f 2) (f 3) % 2 ^ j) ∧ St wr [(wN.heap.size, .cells #[.int .i64 1, .int .i64 2, .int .i64 4] 3 (0, 0)), (gN, .cells (atv f) 23 (0, 0))] wq) (fun _ i _ => 3 - (intOf i).toNat)
      case atStart => exact ⟨0, by omega, rfl, by simp, hSt⟩
      case round =>
        obtain ⟨j, hj, rfl, rfl, hSt⟩ := hrel
        have hpb := pBits_range u (f 2) (f 3)
        by_cases h3 : j = 3
        · subst h3
          have e8 : pBits u (f 2) (f 3) % 2 ^ 3 = pBits u (f 2) (f 3) := by omega
          rw [e8]
          obtain ⟨y, rfl, hcell⟩ := hci _ hSt.base
          go_wp2
          exact ⟨⟨k + 1, by omega, by simp, hbw.trans (hSt.base.mono hbw.size)⟩, by simp only [intOf]; omega⟩
        · have hj3 : j < 3 := by omega
          have hstep := sum_step (pBits u (f 2) (f 3)) j hj3 hpb.1 hpb.2
          have hmb := may_bit u (f 2) (f 3) j hj3
          obtain ⟨s, hs⟩ : ∃ s, pBits u (f 2) (f 3) % 2 ^ j = s := ⟨_, rfl⟩
          have hs0 : 0 ≤ s ∧ s < 8 := by rw [← hs]; rcases (by omega : j = 0 ∨ j = 1 ∨ j = 2) with rfl | rfl | rfl <;> simp only [Int.reducePow] <;> omega
          rw [hs] at hstep ⊢
          clear hs hci hgsl
          obtain ⟨B, hB⟩ : ∃ B, decide (pBits u (f 2) (f 3) / 2 ^ j % 2 = 1) = B := ⟨_, rfl⟩
          rw [hB] at hmb
          have hst2 : pBits u (f 2) (f 3) % 2 ^ (j + 1) = if B = true then s + 2 ^ j else s := by
            rw [hstep, ← hB]
            by_cases hq : pBits u (f 2) (f 3) / 2 ^ j % 2 = 1
            · rw [if_pos hq, if_pos (by simpa using hq)]
            · rw [if_neg hq, if_neg (by simpa using hq)]; omega
          clear hstep hB
          rcases (by omega : j = 0 ∨ j = 1 ∨ j = 2) with rfl | rfl | rfl
          · have hw : wrap64 (s + 1) = s + 1 := by unfold wrap64; omega
            simp only [Int.reducePow] at hmb
            cases B
            · have hst3 : pBits u (f 2) (f 3) % 2 ^ (0 + 1) = s := by rw [hst2]; simp
              clear hst2
              go_wp2_with (first
                | ((with_reducible refine ev_load1 hSt (by first | exact oInt | exact oBool | exact oU32 | exact oU8) ?_); refine ⟨rfl, _, _, _, _, _, rfl, (by repeat (first | exact List.mem_cons_self .. | refine List.mem_cons_of_mem _ ?_)), (by first | rfl | exact pgc_get _ _ (by first | decide | omega) | exact nc_get _ _ _ (by first | decide | omega)), ?_⟩; (simp only [Act.put, List.setIfInBounds_toArray, List.set_cons_succ, List.set_cons_zero]))
                | (go_at_call 15; refine (refMay_is u (f 3) (f 2) 1 _).mono ?_; rintro e w9 ⟨rfl, rfl⟩))
              exact ⟨⟨0 + 1, by omega, by simp, by rw [hst3], hSt⟩, by simp only [intOf]; omega⟩
            · have hst3 : pBits u (f 2) (f 3) % 2 ^ (0 + 1) = s + 1 := by rw [hst2]; simp
              clear hst2
              go_wp2_with (first
                | ((with_reducible refine ev_load1 hSt (by first | exact oInt | exact oBool | exact oU32 | exact oU8) ?_); refine ⟨rfl, _, _, _, _, _, rfl, (by repeat (first | exact List.mem_cons_self .. | refine List.mem_cons_of_mem _ ?_)), (by first | rfl | exact pgc_get _ _ (by first | decide | omega) | exact nc_get _ _ _ (by first | decide | omega)), ?_⟩; (simp only [Act.put, List.setIfInBounds_toArray, List.set_cons_succ, List.set_cons_zero]))
                | (go_at_call 15; refine (refMay_is u (f 3) (f 2) 1 _).mono ?_; rintro e w9 ⟨rfl, rfl⟩))
              exact ⟨⟨0 + 1, by omega, by simp, by rw [hst3], hSt⟩, by simp only [intOf]; omega⟩
          · have hw : wrap64 (s + 2) = s + 2 := by unfold wrap64; omega
            simp only [Int.reducePow] at hmb
            cases B
            · have hst3 : pBits u (f 2) (f 3) % 2 ^ (1 + 1) = s := by rw [hst2]; simp
              clear hst2
              go_wp2_with (first
                | ((with_reducible refine ev_load1 hSt (by first | exact oInt | exact oBool | exact oU32 | exact oU8) ?_); refine ⟨rfl, _, _, _, _, _, rfl, (by repeat (first | exact List.mem_cons_self .. | refine List.mem_cons_of_mem _ ?_)), (by first | rfl | exact pgc_get _ _ (by first | decide | omega) | exact nc_get _ _ _ (by first | decide | omega)), ?_⟩; (simp only [Act.put, List.setIfInBounds_toArray, List.set_cons_succ, List.set_cons_zero]))
                | (go_at_call 15; refine (refMay_is u (f 3) (f 2) 2 _).mono ?_; rintro e w9 ⟨rfl, rfl⟩))
              exact ⟨⟨1 + 1, by omega, by simp, by rw [hst3], hSt⟩, by simp only [intOf]; omega⟩
            · have hst3 : pBits u (f 2) (f 3) % 2 ^ (1 + 1) = s + 2 := by rw [hst2]; simp
              clear hst2
              go_wp2_with (first
                | ((with_reducible refine ev_load1 hSt (by first | exact oInt | exact oBool | exact oU32 | exact oU8) ?_); refine ⟨rfl, _, _, _, _, _, rfl, (by repeat (first | exact List.mem_cons_self .. | refine List.mem_cons_of_mem _ ?_)), (by first | rfl | exact pgc_get _ _ (by first | decide | omega) | exact nc_get _ _ _ (by first | decide | omega)), ?_⟩; (simp only [Act.put, List.setIfInBounds_toArray, List.set_cons_succ, List.set_cons_zero]))
                | (go_at_call 15; refine (refMay_is u (f 3) (f 2) 2 _).mono ?_; rintro e w9 ⟨rfl, rfl⟩))
              exact ⟨⟨1 + 1, by omega, by simp, by rw [hst3], hSt⟩, by simp only [intOf]; omega⟩
          · have hw : wrap64 (s + 4) = s + 4 := by unfold wrap64; omega
            simp only [Int.reducePow] at hmb
            cases B
            · have hst3 : pBits u (f 2) (f 3) % 2 ^ (2 + 1) = s := by rw [hst2]; simp
              clear hst2
              go_wp2_with (first
                | ((with_reducible refine ev_load1 hSt (by first | exact oInt | exact oBool | exact oU32 | exact oU8) ?_); refine ⟨rfl, _, _, _, _, _, rfl, (by repeat (first | exact List.mem_cons_self .. | refine List.mem_cons_of_mem _ ?_)), (by first | rfl | exact pgc_get _ _ (by first | decide | omega) | exact nc_get _ _ _ (by first | decide | omega)), ?_⟩; (simp only [Act.put, List.setIfInBounds_toArray, List.set_cons_succ, List.set_cons_zero]))
                | (go_at_call 15; refine (refMay_is u (f 3) (f 2) 4 _).mono ?_; rintro e w9 ⟨rfl, rfl⟩))
              exact ⟨⟨2 + 1, by omega, by simp, by rw [hst3], hSt⟩, by simp only [intOf]; omega⟩
            · have hst3 : pBits u (f 2) (f 3) % 2 ^ (2 + 1) = s + 4 := by rw [hst2]; simp
              clear hst2
              go_wp2_with (first
                | ((with_reducible refine ev_load1 hSt (by first | exact oInt | exact oBool | exact oU32 | exact oU8) ?_); refine ⟨rfl, _, _, _, _, _, rfl, (by repeat (first | exact List.mem_cons_self .. | refine List.mem_cons_of_mem _ ?_)), (by first | rfl | exact pgc_get _ _ (by first | decide | omega) | exact nc_get _ _ _ (by first | decide | omega)), ?_⟩; (simp only [Act.put, List.setIfInBounds_toArray, List.set_cons_succ, List.set_cons_zero]))
                | (go_at_call 15; refine (refMay_is u (f 3) (f 2) 4 _).mono ?_; rintro e w9 ⟨rfl, rfl⟩))
              exact ⟨⟨2 + 1, by omega, by simp, by rw [hst3], hSt⟩, by simp only [intOf]; omega⟩
end Go.Proofs.Ytioknjdbijogpaa
