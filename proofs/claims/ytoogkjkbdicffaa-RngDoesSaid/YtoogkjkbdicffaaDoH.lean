/- Chapter 21, the reference's Do: it is what the program's Do is. -/
import Derived.Test.YtoogkjkbdicffaaDoC
import Derived.Test.YtoogkjkbdicffaaDoD
import Derived.Test.YtoogkjkbdicffaaDoE
import Derived.Test.YtoogkjkbdicffaaDoF
import Derived.Test.YtoogkjkbdicffaaDoG
namespace Go.Proofs.Ytoogkjkbdicffaa
open Go.RowKit
set_option linter.unusedSimpArgs false
set_option linter.unusedVariables false

theorem rdo_is (op a b c d : Int) (ha : I64 a) (hb : I64 b) (hc : I64 c) (hd : I64 d) (w : World) :
    Calls Try.prog 21 #[.int .i64 op, .agg #[.int .i64 a, .int .i64 b], .agg #[.int .i64 c, .int .i64 d]] w fun e w' => e = .returned (.agg #[.int .i64 (doV op (a, b) (c, d)).1, .int .i64 (doV op (a, b) (c, d)).2]) ∧ Below w.heap.size w w' := by
  have ne : ∀ k : Int, op ≠ k → (op == k) = false := fun k h => beq_eq_false_iff_ne.2 h
  unfold doV
  by_cases hn : b < a ∨ d < c
  · rw [if_pos (show (a, b).1 > (a, b).2 ∨ (c, d).1 > (c, d).2 from hn)]
    exact rdo_none op a b c d hn w
  rw [if_neg (show ¬ ((a, b).1 > (a, b).2 ∨ (c, d).1 > (c, d).2) from hn)]
  have h1 : a ≤ b := by omega
  have h2 : c ≤ d := by omega
  by_cases c1 : op = 16 ∨ op = 21
  · rw [if_pos c1]
    exact rdo_A op a b c d h1 h2 ha hb hc hd c1 _ (sums_span _ _ (by omega)) w
  rw [if_neg c1]
  by_cases c2 : op = 17 ∨ op = 22
  · rw [if_pos c2]
    refine rdo_B op a b c d h1 h2 ha hb hc hd (ne _ (by omega)) (ne _ (by omega)) c2 _ ?_ w
    show sumsV (a - d) (b - c) = _
    rw [Int.sub_eq_add_neg, Int.sub_eq_add_neg]
    exact sums_span _ _ (by omega)
  rw [if_neg c2]
  by_cases c3 : op = 20 ∨ op = 25
  · rw [if_pos c3]
    exact rdo_C op a b c d h1 h2 ha hb hc hd (ne _ (by omega)) (ne _ (by omega)) (ne _ (by omega)) (ne _ (by omega)) c3 _ (prod_span a b c d) w
  rw [if_neg c3]
  by_cases c4 : op = 18 ∨ op = 23
  · rw [if_pos c4]
    exact rdo_D op a b c d h1 h2 (ne _ (by omega)) (ne _ (by omega)) (ne _ (by omega)) (ne _ (by omega)) (ne _ (by omega)) (ne _ (by omega)) c4 w
  rw [if_neg c4]
  by_cases c5 : op = 19 ∨ op = 24
  · rw [if_pos c5]
    by_cases k1 : a < 0 ∨ c < 0
    · have e : orV (a, b) (c, d) = rFull := by unfold orV; rw [if_pos k1]
      rw [e]
      refine rdo_E2 op a b c d h1 h2 (ne _ (by omega)) (ne _ (by omega)) (ne _ (by omega)) (ne _ (by omega)) (ne _ (by omega)) (ne _ (by omega)) (ne _ (by omega)) (ne _ (by omega)) c5 ?_ w
      rcases k1 with k | k
      · rw [decide_eq_true k]; rfl
      · rw [decide_eq_true k, Bool.or_true]
    · rw [orV_is a b c d (by omega) (by omega)]
      exact rdo_E1 op a b c d h1 h2 hb hd (ne _ (by omega)) (ne _ (by omega)) (ne _ (by omega)) (ne _ (by omega)) (ne _ (by omega)) (ne _ (by omega)) (ne _ (by omega)) (ne _ (by omega)) c5 (decide_eq_false (by omega)) (decide_eq_false (by omega)) (by omega) w
  rw [if_neg c5]
  by_cases c6 : op = 26
  · subst c6
    by_cases hcd : c = d
    · subst hcd
      rw [if_pos (by exact ⟨.inl rfl, rfl⟩)]
      unfold shiftV
      by_cases k1 : c < 0
      · rw [if_pos (.inl k1)]
        exact rdo_F26_lo a b c h1 h2 (decide_eq_true k1) w
      by_cases k2 : 63 < c
      · rw [if_pos (.inr (by simp only; omega))]
        exact rdo_F26_hi a b c h1 h2 (decide_eq_false k1) (decide_eq_true k2) w
      rw [if_neg (by simp only; omega), if_pos rfl]
      unfold shlV
      by_cases k3 : c = 63
      · subst k3
        rw [if_pos (by decide)]
        have := rdo_G a b h1 w
        by_cases hz : a = 0 ∧ b = 0
        · rw [if_pos hz] at this
          rw [if_pos (by rw [hz.1, hz.2])]
          exact this
        · rw [if_neg hz] at this
          rw [if_neg (fun e => hz (by injection e with e1 e2; exact ⟨e1, e2⟩))]
          exact this
      · rw [if_neg (by simp only; omega)]
        exact rdo_H a b c h1 ha hb (by omega) (by omega) _ (shl_span a b _ h1 (pow_pos2 _)) w
    · rw [if_neg (fun h => hcd h.2)]
      exact rdo_F26_ne a b c d h1 h2 (beq_eq_false_iff_ne.2 hcd) w
  by_cases c7 : op = 27
  · subst c7
    by_cases hcd : c = d
    · subst hcd
      rw [if_pos (by exact ⟨.inr rfl, rfl⟩)]
      unfold shiftV
      by_cases k1 : c < 0
      · rw [if_pos (.inl k1)]
        exact rdo_F27_lo a b c h1 h2 (decide_eq_true k1) w
      by_cases k2 : 63 < c
      · rw [if_pos (.inr (by simp only; omega))]
        exact rdo_F27_hi a b c h1 h2 (decide_eq_false k1) (decide_eq_true k2) w
      rw [if_neg (by simp only; omega), if_neg (by decide)]
      unfold shrV
      by_cases k3 : c = 0
      · subst k3
        rw [if_pos (by decide)]
        exact rdo_I0 a b h1 w
      · rw [if_neg (by simp only; omega)]
        unfold I64 at ha hb
        by_cases k4 : a < 0
        · rw [if_neg (by simp only; omega)]
          have := rdo_I a b c 0 18446744073709551615 true h1 (by omega) (by omega) (decide_eq_true k4) rfl rfl (by decide) (by decide) (by decide) (by decide) w
          rw [Int.zero_ediv] at this
          exact this
        · rw [if_pos (by simp only; omega)]
          exact rdo_I a b c a b false h1 (by omega) (by omega) (decide_eq_false k4) (by rw [if_neg (by decide), u64w]; omega) (by rw [if_neg (by decide), u64w]; omega) (by omega) (by omega) (by omega) (by omega) w
    · rw [if_neg (fun h => hcd h.2)]
      exact rdo_F27_ne a b c d h1 h2 (beq_eq_false_iff_ne.2 hcd) w
  rw [if_neg (by omega)]
  exact rdo_F0 op a b c d h1 h2 (ne _ (by omega)) (ne _ (by omega)) (ne _ (by omega)) (ne _ (by omega)) (ne _ (by omega)) (ne _ (by omega)) (ne _ (by omega)) (ne _ (by omega)) (ne _ (by omega)) (ne _ (by omega)) (ne _ c6) (ne _ c7) w
end Go.Proofs.Ytoogkjkbdicffaa
