/- Chapter 28: All, walked; how many are open. -/
import Derived.Test.YtfacegnnmgmjmaaFdsH
import Derived.Laws.AppendOwn
import Derived.OwnWalk
namespace Go.Proofs.Ytfacegnnmgmjmaa
open Go.RowKit
set_option linter.unusedSimpArgs false
set_option linter.unusedVariables false

def b1 (o : Option Nat) : Nat := if o.isSome then 1 else 0
/-- How many of a row's first k are open. -/
def rowTo (p : Nat → Option Nat) (o : Nat) : Nat → Nat
  | 0 => 0
  | k + 1 => rowTo p o k + b1 (p (o + k))
theorem rowTo_le (p : Nat → Option Nat) (o : Nat) : ∀ k, rowTo p o k ≤ k
  | 0 => Nat.le_refl _
  | k + 1 => by
    have := rowTo_le p o k
    have hb : b1 (p (o + k)) ≤ 1 := by unfold b1; split <;> omega
    simp only [rowTo]
    omega
theorem rowTo_upd (p : Nat → Option Nat) (o i : Nat) (x : Option Nat) : ∀ k, rowTo (upd p (o + i) x) o k + (if i < k then b1 (p (o + i)) else 0) = rowTo p o k + (if i < k then b1 x else 0)
  | 0 => by simp [rowTo]
  | k + 1 => by
    have ih := rowTo_upd p o i x k
    simp only [rowTo]
    by_cases hik : i = k
    · subst hik
      rw [if_neg (by omega), if_neg (by omega)] at ih
      rw [if_pos (by omega), if_pos (by omega), show upd p (o + i) x (o + i) = x from by simp [upd]]
      omega
    · rw [show upd p (o + i) x (o + k) = p (o + k) from by unfold upd; rw [if_neg (by omega)]]
      by_cases hlt : i < k
      · rw [if_pos hlt, if_pos hlt] at ih
        rw [if_pos (by omega), if_pos (by omega)]
        omega
      · rw [if_neg hlt, if_neg hlt] at ih
        rw [if_neg (by omega), if_neg (by omega)]
        omega
theorem rowTo_other (p : Nat → Option Nat) (o j : Nat) (x : Option Nat) : ∀ k, (j < o ∨ o + k ≤ j) → rowTo (upd p j x) o k = rowTo p o k
  | 0, _ => rfl
  | k + 1, h => by
    simp only [rowTo]
    rw [rowTo_other p o j x k (by omega), show upd p j x (o + k) = p (o + k) from by unfold upd; rw [if_neg (by omega)]]
/-- How many a process has open. -/
def rcN (p : Nat → Option Nat) (r : Nat) : Nat := if r = 0 then 0 else rowTo p (8 * (r - 1)) 8
theorem rcN_le (p : Nat → Option Nat) (r : Nat) : rcN p r ≤ 8 := by
  unfold rcN
  split
  · omega
  · exact rowTo_le _ _ _
theorem rcN_other (p : Nat → Option Nat) (q i r : Nat) (x : Option Nat) (hq : 1 ≤ q) (hi : i < 8) (hr : r ≠ q) : rcN (upd p (8 * (q - 1) + i) x) r = rcN p r := by
  unfold rcN
  split
  · rfl
  · exact rowTo_other _ _ _ _ _ (by omega)
theorem rcN_open (p : Nat → Option Nat) (q i g : Nat) (hq : 1 ≤ q) (hi : i < 8) (hp : p (8 * (q - 1) + i) = none) : rcN (upd p (8 * (q - 1) + i) (some g)) q = rcN p q + 1 := by
  unfold rcN
  rw [if_neg (by omega), if_neg (by omega)]
  have := rowTo_upd p (8 * (q - 1)) i (some g) 8
  rw [if_pos hi, if_pos hi, hp] at this
  simpa [b1] using this
theorem rcN_close (p : Nat → Option Nat) (q i g : Nat) (hq : 1 ≤ q) (hi : i < 8) (hp : p (8 * (q - 1) + i) = some g) : rcN (upd p (8 * (q - 1) + i) none) q + 1 = rcN p q := by
  unfold rcN
  rw [if_neg (by omega), if_neg (by omega)]
  have := rowTo_upd p (8 * (q - 1)) i none 8
  rw [if_pos hi, if_pos hi, hp] at this
  simpa [b1] using this
def sumTo (p : Nat → Option Nat) : Nat → Nat
  | 0 => 0
  | r + 1 => sumTo p r + rcN p r
def tot (p : Nat → Option Nat) : Nat := sumTo p 5
theorem sumTo_le (p : Nat → Option Nat) : ∀ r, sumTo p r ≤ 8 * r
  | 0 => Nat.le_refl _
  | r + 1 => by
    have := sumTo_le p r
    have := rcN_le p r
    simp only [sumTo]
    omega
theorem tot_step (p p' : Nat → Option Nat) (q : Nat) (hq1 : 1 ≤ q) (hq4 : q ≤ 4) (ho : ∀ r, r ≠ q → rcN p' r = rcN p r) : tot p' + rcN p q = tot p + rcN p' q := by
  simp only [tot, sumTo]
  have h0 := ho 0
  have h1 := ho 1
  have h2 := ho 2
  have h3 := ho 3
  have h4 := ho 4
  rcases (by omega : q = 1 ∨ q = 2 ∨ q = 3 ∨ q = 4) with rfl | rfl | rfl | rfl <;> simp at h0 h1 h2 h3 h4 <;> omega
theorem tot_none : tot (fun _ => none) = 0 := by decide +kernel

theorem intInfo : (Try.prog.info? 3).map (fun i => (i.zero, i.size, i.bytes)) = some (some (.int .i64 0), 1, 8) := by kernel_rfl
theorem ownInts_below {w w' : World} {B n : Nat} {v : Value} {xs : List Value} (h : w.ownsRow B 3 1 v n xs) (hb : Below w.heap.size w w') : w'.ownsRow B 3 1 v n xs := by
  refine ⟨h.1, ?_⟩
  rcases h.2 with hn | ⟨g, cap, cur, rfl, h1, h2, rest⟩
  · exact .inl hn
  · exact .inr ⟨g, cap, cur, rfl, h1, blk_of hb h2, rest⟩
theorem ownInts_slice {w : World} {B n : Nat} {v : Value} {xs : List Value} (h : w.ownsRow B 3 1 v n xs) : ∃ a cap, v = .slice a n cap := by
  rcases h.2 with ⟨rfl, h0⟩ | ⟨g, cap, cur, rfl, rest⟩
  · exact ⟨none, 0, by rw [h0]⟩
  · exact ⟨_, _, rfl⟩

set_option maxHeartbeats 1000000 in
set_option maxRecDepth 100000 in
theorem all_row (tb pr : Nat) (h1 : 1 ≤ pr) (h2 : pr ≤ 4) (p : Nat → Option Nat) (f : Nat → FileT) (w : World) (hT : Tab w tb p f) :
    Calls Try.prog 16 #[.pointer (some ⟨tb, 0, none⟩), .int .i64 pr] w fun e w' => ∃ a cap, e = .returned (.slice a (rowTo p (8 * (pr - 1)) 8) cap) ∧ Below w.heap.size w w' := by
  obtain ⟨i0, hi, hz0, hz1, hz2⟩ := info_parts intInfo
  obtain ⟨o, ho⟩ : ∃ o, 8 * (pr - 1) = o := ⟨_, rfl⟩
  have ho2 : o ≤ 24 := by omega
  have hR := fun w => row_yes tb pr h1 h2 w
  rw [ho] at hR ⊢
  clear ho h1 h2
  go_enter Try.func16, Try.ntmps16
  go_wp2_with (go_at_call 28; refine (hR _).mono ?_; rintro e w1 ⟨rfl, rfl⟩)
  go_loopw [6, 15] (fun v i wr => ∃ (k : Nat) (xs : List Value), k ≤ 8 ∧ i = .int .i64 k ∧ Below w1.heap.size w1 wr ∧ wr.ownsRow w1.heap.size 3 1 v (rowTo p o k) xs) (fun _ i _ => 8 - (intOf i).toNat)
  case atStart => exact ⟨0, [], by omega, rfl, Below.refl _ _, ⟨rfl, .inl ⟨rfl, rfl⟩⟩⟩
  case round =>
    obtain ⟨k, xs, hk, rfl, hbw, hown⟩ := hrel
    have hle := rowTo_le p o k
    by_cases h : k = 8
    · subst h
      obtain ⟨a, cap, rfl⟩ := ownInts_slice hown
      go_wp2
      go_ret
      exact ⟨a, cap, rfl, hbw⟩
    · have hlt : k < 8 := by omega
      have hlt' : (k : Int) < 8 := by omega
      have hc := (hT.ext hbw).cell (o + k) (by omega)
      have hrs : rowTo p o (k + 1) = rowTo p o k + b1 (p (o + k)) := rfl
      cases hp : p (o + k) with
      | none =>
        rw [hp] at hc hrs
        have hc' : wr.cell? ⟨tb, o + k, none⟩ = some (.pointer none) := hc
        clear hc
        go_wp2
        go_region
        go_wp2
        exact ⟨⟨k + 1, xs, by omega, by simp, hbw.drew, by rw [hrs]; exact hown⟩, by simp only [intOf]; omega⟩
      | some g =>
        rw [hp] at hc hrs
        have hc' : wr.cell? ⟨tb, o + k, none⟩ = some (.pointer (some ⟨g, 0, none⟩)) := hc
        clear hc
        go_wp2
        go_region
        have hbd : Below wr.heap.size wr (wr.drew.alloc (.cells #[.int .i64 k] 3 (0, 0))) := ((Below.refl _ wr).drew).alloc (Nat.le_refl _) _
        go_wp2_with (at_builtin; refine wpList_append_own _ rfl _ _ 39 rfl w1.heap.size 3 i0 (.int .i64 0) 1 8 Try.underlying39 hi hz0 hz1 hz2 rfl (by decide) _ _ _ rfl (ownInts_below hown hbd) ⟨wr.heap.size, 0, none⟩ 1 1 [.int .i64 k] rfl rfl ?c1 ?c2 ?c3 ?c4 ?c5 ?_)
        case c1 =>
          intro j v hj
          match j, hj with
          | 0, hj => simp at hj; subst hj; simp [Addr.add]
        case c2 => intro v hv; simp at hv; subst hv; rfl
        case c3 => unfold maxLen; omega
        case c4 => omega
        case c5 => have := hbw.size; simp; omega
        intro v' w2 hown' hgrow _
        go_wp2
        refine ⟨⟨k + 1, _, by omega, by simp, ?_, by rw [hrs]; exact hown'⟩, by simp only [intOf]; omega⟩
        exact (hbw.trans (hbd.mono hbw.size)).grown hgrow (Nat.le_trans hbw.size hbd.size) (fun k hk => ((ownInts_below hown hbd).lt k hk).1)

set_option maxHeartbeats 1000000 in
set_option maxRecDepth 100000 in
theorem all_norow (t : Value) (pr : Int) (w : World) (hR : ∀ w, Calls Try.prog 28 #[t, .int .i64 pr] w fun e w' => e = .returned (.pointer none) ∧ w' = w) : Calls Try.prog 16 #[t, .int .i64 pr] w fun e w' => e = .returned (.slice none 0 0) ∧ w' = w := by
  go_enter Try.func16, Try.ntmps16
  go_wp2_with (go_at_call 28; refine (hR _).mono ?_; rintro e w9 ⟨rfl, rfl⟩)
  go_ret
  exact ⟨rfl, rfl⟩
/-- How many descriptors All tells, of each process there is and of 0. -/
theorem all_is (tb r : Nat) (hr : r ≤ 4) (p : Nat → Option Nat) (f : Nat → FileT) (w : World) (hT : Tab w tb p f) :
    Calls Try.prog 16 #[.pointer (some ⟨tb, 0, none⟩), .int .i64 r] w fun e w' => ∃ a cap, e = .returned (.slice a (rcN p r) cap) ∧ Below w.heap.size w w' := by
  by_cases h : r = 0
  · subst h
    refine (all_norow _ 0 w (fun w2 => row_no _ 0 (by omega) w2)).mono ?_
    rintro e w' ⟨rfl, rfl⟩
    exact ⟨none, 0, rfl, Below.refl _ _⟩
  · have := all_row tb r (by omega) hr p f w hT
    unfold rcN
    rw [if_neg h]
    exact this
theorem sumTo_succ (p : Nat → Option Nat) (r : Nat) : sumTo p (r + 1) = sumTo p r + rcN p r := rfl
theorem sumTo_zero (p : Nat → Option Nat) : sumTo p 0 = 0 := rfl
theorem sumTo_five (p : Nat → Option Nat) : sumTo p 5 = tot p := rfl
end Go.Proofs.Ytfacegnnmgmjmaa
