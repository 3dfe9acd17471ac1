/- The law SumIs, walked. -/
import Derived.Test.YtaajndackdmbeaaSumD
namespace Go.Proofs.Ytaajndackdmbeaa
open Go.RowKit
set_option linter.unusedSimpArgs false

theorem sz_max {ss : List ByteArray} (h : ∀ s ∈ ss, s.size ≤ 281474976710656) : ∀ s ∈ ss, s.size ≤ 9223372036854775807 := fun s hs => by have := h s hs; omega

set_option maxRecDepth 100000 in
set_option maxHeartbeats 800000 in
theorem walk_SumIs (x : Int) (a : Option Addr) (ss : List ByteArray) (cap : Nat) (w : World) (h0 : 0 ≤ x) (h1 : x < 4294967296) (hl : StrSl w a ss) (hs : ss.length ≤ 9223372036854775807) (hz : ∀ s ∈ ss, s.size ≤ 281474976710656) :
    Calls Try.prog 3 #[.int .u32 x, .slice a ss.length cap] w fun e w' => e = .returned (.bool true) ∧ Below w.heap.size w w' := by
  go_enter Try.func3, Try.ntmps3
  by_cases hL : isLong ss = true
  · go_wp2_with (first
      | (go_at_call 8; refine (awake01 _).mono ?_; rintro e w1 ⟨rfl, hb1⟩)
      | (go_at_call 9; refine (long_any a ss cap _ (hl.ext hb1) hs hz).mono ?_; rintro e w2 ⟨rfl, hb2⟩; rw [hL]))
    go_ret
    exact ⟨rfl, bseq hb1 hb2⟩
  · have hL' : isLong ss = false := by simpa using hL
    have hq : ss.length ≤ 60 ∧ (flat ss).length ≤ 3000 := by
      unfold isLong at hL'
      have := of_decide_eq_false hL'
      omega
    have hcs : (cat ss).size ≤ 9223372036854775807 := by rw [cat_size]; omega
    have hsum := sz_max hz
    clear hL
    go_wp2_with (first
      | (go_at_call 8; refine (awake01 _).mono ?_; rintro e w1 ⟨rfl, hb1⟩)
      | (go_at_call 9; refine (long_any a ss cap _ (hl.ext hb1) hs hz).mono ?_; rintro e w2 ⟨rfl, hb2⟩; rw [hL'])
      | (go_at_call 10; refine (joined_any a ss cap _ (hl.ext (bseq hb1 hb2)) hq.1 hq.2).mono ?_; rintro e w3 ⟨rfl, hb3⟩)
      | (go_at_call 11; refine (sumSum_any a ss cap _ (hl.ext (bseq (bseq hb1 hb2) hb3)) hs hsum).mono ?_; rintro e w4 ⟨rfl, hb4⟩)
      | (go_at_call 12; refine (rMore_any _ (cat ss) _ (by omega) (by omega) hcs).mono ?_; rintro e w5 ⟨rfl, rfl⟩; rw [cat_list])
      | (go_at_call 13; refine (more_any x a ss cap _ h0 h1 (hl.ext (bseq (bseq (bseq hb1 hb2) hb3) hb4)) hs hsum).mono ?_; rintro e w6 ⟨rfl, hb6⟩))
    go_ret
    exact ⟨rfl, bseq (bseq (bseq (bseq hb1 hb2) hb3) hb4) hb6⟩
end Go.Proofs.Ytaajndackdmbeaa
