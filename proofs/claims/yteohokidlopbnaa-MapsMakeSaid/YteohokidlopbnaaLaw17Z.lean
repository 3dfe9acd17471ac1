/- Chapter 17: the law MapsMake where there is no spec; and for any arguments. -/
import Derived.Test.YteohokidlopbnaaLaw17Q
namespace Go.Proofs.Yteohokidlopbnaa
open Go.RowKit
set_option linter.unusedSimpArgs false
set_option linter.unusedVariables false

set_option maxHeartbeats 4000000 in
set_option maxRecDepth 100000 in
theorem mk_zero (a b : Option Addr) (ks : List Int) (c d : Nat) (w : World) (hk : IntSl w b ks) (h40 : ks.length ≤ 40) :
    Calls Try.prog 4 #[.slice a 0 c, .slice b ks.length d] w fun e w' => e = .returned (.bool true) ∧ Below w.heap.size w w' := by
  have e3 : decide ((ks.length : Int) > 40) = false := decide_eq_false (by omega)
  have e4 : decide (40 < (ks.length : Int)) = false := decide_eq_false (by omega)
  have hMake : ∀ w1, Calls Try.prog 11 #[.slice a 0 c] w1 fun e w' => ∃ av cv, e = .returned (.tuple #[.slice av 0 cv, .int .i64 0]) ∧ Below w1.heap.size w1 w' := fun w1 => by
    refine (make_is a [] c w1 (fun j hj => by simp at hj) (by decide)).mono ?_
    rintro e w' ⟨hb, ⟨-, v, gs, rfl, hMk, hP⟩ | ⟨hA, -⟩⟩
    · obtain ⟨av, cv, rfl, -, -⟩ := hP.row.sl
      rw [hMk.len]
      exact ⟨av, cv, rfl, hb⟩
    · cases hA
  have hE0 : ∀ (av : Option Addr) (cv : Nat) (w1 : World), Calls Try.prog 18 #[.slice av 0 cv] w1 fun e w' => e = .returned (.int .i64 0) ∧ Below w1.heap.size w1 w' := fun av cv w1 => entries_is 0 av [] cv (fun _ => []) w1 (fun j hj => by simp at hj) (by decide) (fun j hj => by simp at hj) (fun _ => Nat.zero_le _)
  have hC0 : ∀ (av : Option Addr) (cv : Nat) (w1 : World), Calls Try.prog 19 #[.slice av 0 cv] w1 fun e w' => e = .returned (.tuple #[]) ∧ Below w1.heap.size w1 w' := fun av cv w1 => by
    refine (clear_is w1.heap.size av [] cv w1 (fun j hj => by simp at hj) (by decide) (fun _ _ h => by cases h) List.nodup_nil (fun j hj => by simp at hj) (fun _ h => by cases h)).mono ?_
    rintro e w' ⟨he, -, -, hb⟩
    exact ⟨he, hb⟩
  go_enter Try.func4, Try.ntmps4
  go_wp2_with (first
    | (go_at_call 6; refine (awake17 _).mono ?_; rintro e w1 ⟨rfl, hb1⟩)
    | (go_at_call 11; refine (hMake _).mono ?_; rintro e w2 ⟨av, cv, rfl, hb2⟩))
  have hbX := hb1.trans (hb2.mono hb1.size)
  go_loopw [7, 38] (fun o i wr => i = .int .i64 0 ∧ o = .bool true ∧ wr = w2) (fun _ i _ => 0)
  case atStart => exact ⟨rfl, rfl, by first | trivial | rfl⟩
  case round =>
    obtain ⟨rfl, rfl, rfl⟩ := hrel
    have hneg := setAt_neg av 0 cv
    have hpast : ∀ w, Calls Try.prog 13 #[.slice av 0 cv, .int .i64 0] w fun e w' => e = .returned (.pointer none) ∧ w' = w := fun w => setAt_past av 0 cv w (by decide)
    go_wp2_with (first
      | (go_at_call 13; with_reducible refine (hneg _).mono ?_; rintro e w3 ⟨rfl, hw3⟩; subst w3)
      | (go_at_call 13; with_reducible refine (hpast _).mono ?_; rintro e w3 ⟨rfl, hw3⟩; subst w3))
    rename World => w4
    go_loopw [10, 84] (fun o i wr => i = .int .i64 0 ∧ o = .slice none 0 0 ∧ wr = w4) (fun _ i _ => 0)
    case atStart => exact ⟨rfl, rfl, by first | trivial | rfl⟩
    case round =>
      obtain ⟨rfl, rfl, rfl⟩ := hrel
      go_wp2
      rename World => w5
      go_loopw [99] (fun i wr => i = .int .i64 0 ∧ wr = w5) (fun i _ => 0)
      case atStart => exact ⟨rfl, by first | trivial | rfl⟩
      case round =>
        obtain ⟨rfl, rfl⟩ := hrel
        rename World => w6
        have hE := hE0 av cv
        have hC := hC0 av cv
        have hbZ := hbX
        by_cases h0 : ks.length = 0
        · rw [h0]
          go_wp2
          go_loopw [16, 137] (fun o i wr => i = .int .i64 0 ∧ o = .int .i64 0 ∧ wr = w6) (fun _ i _ => 0)
          case atStart => exact ⟨rfl, rfl, by first | trivial | rfl⟩
          case round =>
            obtain ⟨rfl, rfl, rfl⟩ := hrel
            go_wp2_with (first | (go_at_call 18; refine (hE _).mono ?_; rintro e w8 ⟨rfl, hb8⟩; replace hbZ := hbZ.trans (hb8.mono hbZ.size)) | (go_at_call 19; refine (hC _).mono ?_; rintro e w8 ⟨rfl, hb8⟩; replace hbZ := hbZ.trans (hb8.mono hbZ.size)))
            go_ret
            exact ⟨rfl, hbZ⟩
        · have h1 : 0 < ks.length := by omega
          have h1' : (0 : Int) < (ks.length : Int) := by omega
          obtain ⟨x, rfl, hc, -⟩ := hk.ext hbX 0 h1
          generalize ks[0] = key at hc
          rw [Addr.add_zero'] at hc
          go_wp2
          go_loopw [16, 137] (fun o i wr => i = .int .i64 0 ∧ o = .int .i64 0 ∧ wr = w6) (fun _ i _ => 0)
          case atStart => exact ⟨rfl, rfl, by first | trivial | rfl⟩
          case round =>
            obtain ⟨rfl, rfl, rfl⟩ := hrel
            go_wp2_with (first | (go_at_call 18; refine (hE _).mono ?_; rintro e w8 ⟨rfl, hb8⟩; replace hbZ := hbZ.trans (hb8.mono hbZ.size)) | (go_at_call 19; refine (hC _).mono ?_; rintro e w8 ⟨rfl, hb8⟩; replace hbZ := hbZ.trans (hb8.mono hbZ.size)))
            go_ret
            exact ⟨rfl, hbZ⟩

theorem walk_MapsMake (a : Option Addr) (ss : List (Int × Int)) (c : Nat) (b : Option Addr) (ks : List Int) (d : Nat) (w : World) (hl : SpSl w a ss) (hs : ss.length ≤ 140737488355328) (hk : IntSl w b ks) (ht : ks.length ≤ 140737488355328) :
    Calls Try.prog 4 #[.slice a ss.length c, .slice b ks.length d] w fun e w' => e = .returned (.bool true) ∧ Below w.heap.size w w' := by
  by_cases hg : 20 < ss.length ∨ 40 < ks.length
  · exact mk_great a b ss.length c ks.length d w hs ht hg
  · by_cases hno : (decide ((ss.length : Int) ≤ 4) && allOk ss) = false
    · exact mk_no a b ss c ks.length d w hl hno (by omega) (by omega)
    · have hy : decide ((ss.length : Int) ≤ 4) = true ∧ allOk ss = true := by
        cases h1 : decide ((ss.length : Int) ≤ 4) <;> cases h2 : allOk ss <;> simp_all
      have h4 := of_decide_eq_true hy.1
      by_cases h0 : ss.length = 0
      · rw [h0]
        exact mk_zero a b ks c d w hk (by omega)
      · exact mk_yes a b ss ks c d w hl hk (by omega) (by omega) hy.2 (by omega)
end Go.Proofs.Yteohokidlopbnaa
