/- What the reference's Meta computes, as the plain count. -/
import Derived.Test.YtmnofoflbhdgjaaSpanG
import Derived.Test.YtmnofoflbhdgjaaPSpanMetax1
namespace Go.Proofs.Ytmnofoflbhdgjaa
open Go.RowKit Go.Maps PSpanMeta Go.Proofs.YtmnofoflbhdgjaaW.PrintWords
set_option linter.unusedSimpArgs false
set_option linter.unusedVariables false

theorem rw_l0 (i : Int) (hi : 36 ≤ i ∧ i < 1060) : ∀ (m k j : Nat), (i - 36) / 32 = j + m → m < k → narthexref10_Where.l0 k (j : Int) (i - 36 - 32 * j) = some (2, (i - 36) / 32, (i - 36) % 32, true)
  | 0, k, j, hj, hk => by
    obtain ⟨k, rfl⟩ : ∃ q, k = q + 1 := ⟨k - 1, by omega⟩
    simp only [narthexref10_Where.l0]
    rw [if_neg (by omega), show (i - 36) / 32 = (j : Int) from by omega, show (i - 36) % 32 = i - 36 - 32 * (j : Int) from by omega]
  | m + 1, k, j, hj, hk => by
    obtain ⟨k, rfl⟩ : ∃ q, k = q + 1 := ⟨k - 1, by omega⟩
    simp only [narthexref10_Where.l0]
    rw [if_pos (by omega), show wrap64 ((j : Int) + 1) = ((j + 1 : Nat) : Int) from by unfold wrap64; omega, show wrap64 (i - 36 - 32 * (j : Int) - 32) = i - 36 - 32 * ((j + 1 : Nat) : Int) from by unfold wrap64; omega]
    exact rw_l0 i hi m k (j + 1) (by omega) (by omega)

theorem rw_f (i : Int) (k : Nat) (hk : 40 ≤ k) : narthexref10_Where.f k i = some (wDep i, wOut i, wInn i, wOk i) := by
  obtain ⟨k, rfl⟩ : ∃ q, k = q + 1 := ⟨k - 1, by omega⟩
  unfold narthexref10_Where.f
  by_cases c0 : i < 0
  · rw [if_pos c0]
    simp only [narthexref10_Where.j0]
    rw [if_pos trivial, show wDep i = 0 from by unfold wDep; rw [if_neg (by omega)], show wOut i = 0 from by unfold wOut; rw [if_neg (by omega)], show wInn i = 0 from by unfold wInn; rw [if_neg (by omega)], show wOk i = false from by unfold wOk; exact decide_eq_false (by omega)]
  rw [if_neg c0]
  simp only [narthexref10_Where.j0]
  by_cases c1 : 1060 ≤ i
  · rw [if_pos (decide_eq_true (by omega)), show wDep i = 0 from by unfold wDep; rw [if_neg (by omega)], show wOut i = 0 from by unfold wOut; rw [if_neg (by omega)], show wInn i = 0 from by unfold wInn; rw [if_neg (by omega)], show wOk i = false from by unfold wOk; exact decide_eq_false (by omega)]
  rw [if_neg (by simpa using c1), show wOk i = true from by unfold wOk; exact decide_eq_true (by omega)]
  by_cases c2 : i ≤ 3
  · rw [if_pos c2, show wDep i = 0 from by unfold wDep; rw [if_pos (by omega), if_pos (by omega)], show wOut i = 0 from by unfold wOut; rw [if_neg (by omega)], show wInn i = i from by unfold wInn; rw [if_pos (by omega), if_pos (by omega)]]
  rw [if_neg c2]
  by_cases c3 : i ≤ 35
  · rw [if_pos c3, show wDep i = 1 from by unfold wDep; rw [if_pos (by omega), if_neg (by omega), if_pos (by omega)], show wOut i = 0 from by unfold wOut; rw [if_neg (by omega)], show wInn i = i - 4 from by unfold wInn; rw [if_pos (by omega), if_neg (by omega), if_pos (by omega)], show wrap64 (i - 4) = i - 4 from by unfold wrap64; omega]
  rw [if_neg c3, show wDep i = 2 from by unfold wDep; rw [if_pos (by omega), if_neg (by omega), if_neg (by omega)], show wOut i = (i - 36) / 32 from by unfold wOut; rw [if_pos (by omega)], show wInn i = (i - 36) % 32 from by unfold wInn; rw [if_pos (by omega), if_neg (by omega), if_neg (by omega)], show wrap64 (i - 36) = i - 36 from by unfold wrap64; omega]
  have := rw_l0 i ⟨by omega, by omega⟩ ((i - 36) / 32).toNat k 0 (by omega) (by omega)
  simpa using this

/-- Among the leaves: is one there? -/
theorem rm_l1 (l : List Int) (a b : Int) (lv : List Int) (i o : Int) (hlv : lv.length ≤ 200) : ∀ (m k j : Nat) (t : Bool), lv.length = j + m → m < k →
    narthexref10_Meta.l1 k l a b lv i o t j = if (t || (lv.drop j).contains o) = true then narthexref10_Meta.l0 (k - m - 1) l a b lv (wrap64 (i + 1)) else narthexref10_Meta.l0 (k - m - 1) l a b (lv ++ [o]) (wrap64 (i + 1))
  | 0, k, j, t, hj, hk => by
    obtain ⟨k, rfl⟩ : ∃ q, k = q + 1 := ⟨k - 1, by omega⟩
    simp only [narthexref10_Meta.l1]
    rw [if_neg (by omega), List.drop_of_length_le (by omega)]
    cases t with
    | true => rw [if_pos rfl]; rfl
    | false => rw [if_neg (by decide), if_pos (by omega)]; rfl
  | m + 1, k, j, t, hj, hk => by
    obtain ⟨k, rfl⟩ : ∃ q, k = q + 1 := ⟨k - 1, by omega⟩
    simp only [narthexref10_Meta.l1]
    have hlt : j < lv.length := by omega
    rw [if_pos (by omega), show wrap64 ((j : Int) + 1) = ((j + 1 : Nat) : Int) from by unfold wrap64; omega]
    have hdrop : lv.drop j = lv[j] :: lv.drop (j + 1) := List.drop_eq_getElem_cons hlt
    cases t with
    | true =>
      rw [if_pos rfl, rm_l1 l a b lv i o hlv m k (j + 1) true (by omega) (by omega)]
      simp only [Bool.true_or, if_true]
      rw [show k + 1 - (m + 1) - 1 = k - m - 1 from by omega]
    | false =>
      rw [if_neg (by decide), if_pos (by omega), rm_l1 l a b lv i o hlv m k (j + 1) _ (by omega) (by omega)]
      have e : rd lv (j : Int) = lv[j] := by
        unfold rd
        simp [List.getD, hlt]
      rw [e, hdrop, show k + 1 - (m + 1) - 1 = k - m - 1 from by omega]
      simp only [Bool.false_or, List.contains_cons]
      have : (lv[j] == o) = (o == lv[j]) := Bool.eq_iff_iff.2 ⟨fun h => beq_iff_eq.2 (beq_iff_eq.1 h).symm, fun h => beq_iff_eq.2 (beq_iff_eq.1 h).symm⟩
      rw [this]

set_option maxRecDepth 100000 in
theorem rm_l0 (l : List Int) (hl : l.length ≤ 200) : ∀ (m k j : Nat), l.length = j + m → m * 300 + 100 ≤ k →
    narthexref10_Meta.l0 k l (rset (l.take j)).ind (rset (l.take j)).dind (rset (l.take j)).leaves j = some ((rset l).ind + (rset l).dind + (rset l).leaves.length) := by
  intro m
  induction m with
  | zero =>
    intro k j hj hk
    obtain ⟨k, rfl⟩ : ∃ q, k = q + 1 := ⟨k - 1, by omega⟩
    simp only [narthexref10_Meta.l0]
    obtain rfl : j = l.length := by omega
    have hb := rset_bd l
    rw [if_neg (show ¬ (l.length : Int) < (l.length : Int) by omega), List.take_length, show wrap64 (wrap64 ((rset l).ind + (rset l).dind) + ((rset l).leaves.length : Int)) = (rset l).ind + (rset l).dind + (rset l).leaves.length from by unfold wrap64; omega]
  | succ m ih0 =>
    intro k j hj hk
    obtain ⟨k, rfl⟩ : ∃ q, k = q + 1 := ⟨k - 1, by omega⟩
    obtain ⟨k, rfl⟩ : ∃ q, k = q + 1 := ⟨k - 1, by omega⟩
    have hlt : j < l.length := by omega
    have c1 : (j : Int) < (l.length : Int) := by omega
    have c2 : (0 : Int) ≤ (j : Int) := by omega
    have hw : wrap64 ((j : Int) + 1) = ((j + 1 : Nat) : Int) := by unfold wrap64; omega
    have hj1 : l.length = j + 1 + m := by omega
    have hkA : m * 300 + 100 ≤ k := by omega
    have hkB : 40 ≤ k + 1 := by omega
    have hkC : ∀ n, n ≤ 200 → m * 300 + 100 ≤ k - n - 1 := fun n hn => by omega
    have hkD : ∀ n, n ≤ 200 → n < k := fun n hn => by omega
    have hjl : (l.take j).length ≤ 200 := by rw [List.length_take]; omega
    have e : rd l (j : Int) = l[j] := by
      unfold rd
      simp [List.getD, hlt]
    have hlv : (rset (l.take j)).leaves.length ≤ 200 := Nat.le_trans (rset_bd (l.take j)).2.2.2.2 hjl
    have hst : rset (l.take (j + 1)) = rstep (rset (l.take j)) l[j] := by rw [take_snocI l j hlt, rset_snoc]
    have ih := fun k' (h : m * 300 + 100 ≤ k') => ih0 k' (j + 1) hj1 h
    rw [hst] at ih
    have hwf := rw_f l[j] (k + 1) hkB
    generalize hsj : rset (l.take j) = s at *
    simp only [narthexref10_Meta.l0, c1, c2, if_true, e, hwf, Option.bind_some, narthexref10_Meta.j1]
    generalize l[j] = i at *
    unfold rstep at ih
    rcases wDep_cases i with hd | hd | hd
    · rw [if_pos hd] at ih
      have := ih k hkA
      rw [hd]
      cases wOk i <;> simpa [hw] using this
    · have n0 : ¬ wDep i = 0 := by rw [hd]; decide
      rw [if_neg n0, if_pos hd] at ih
      have hok := wOk_of_dep n0
      have := ih k hkA
      rw [hd, hok]
      simpa [hw] using this
    · have n0 : ¬ wDep i = 0 := by rw [hd]; decide
      have n1 : ¬ wDep i = 1 := by rw [hd]; decide
      rw [if_neg n0, if_neg n1] at ih
      have hok := wOk_of_dep n0
      have h1 := rm_l1 l s.ind 1 s.leaves j (wOut i) hlv s.leaves.length k 0 false (Nat.zero_add _).symm (hkD _ hlv)
      rw [hd, hok]
      simp only [if_true, show ((2 : Int) == 0) = false from rfl, Bool.false_eq_true, if_false, show ¬ ((2 : Int) = 1) from by decide]
      simp only [Bool.false_or, List.drop_zero] at h1
      have h2 := ih (k - s.leaves.length - 1) (hkC _ hlv)
      refine Eq.trans h1 ?_
      rw [hw]
      cases hc : s.leaves.contains (wOut i) with
      | true => rw [hc] at h2; simpa using h2
      | false => rw [hc] at h2; simpa using h2

theorem rm_f (l : List Int) (hl : l.length ≤ 200) (k : Nat) (hk : l.length * 300 + 100 ≤ k) : narthexref10_Meta.f k l = some (Maps.size (mset l) : Int) := by
  rw [mset_count]
  unfold narthexref10_Meta.f
  have := rm_l0 l hl l.length k 0 (by omega) hk
  exact this
end Go.Proofs.Ytmnofoflbhdgjaa
