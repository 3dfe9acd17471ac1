/- Chapter 28: Move; what All tells, walked. -/
import Derived.Test.YtfacegnnmgmjmaaPlyE
import Derived.Test.YtfacegnnmgmjmaaIntSl
namespace Go.Proofs.Ytfacegnnmgmjmaa
open Go.RowKit
set_option linter.unusedSimpArgs false
set_option linter.unusedVariables false

/-- Unlike places have unlike files. -/
def Inj (p : Nat → Option Nat) : Prop := ∀ i j g, i < 32 → j < 32 → p i = some g → p j = some g → i = j
theorem Tab.moved {w : World} {tb B : Nat} {p : Nat → Option Nat} {f : Nat → FileT} (h : Tab w tb p f) (hinj : Inj p) {s g : Nat} (hs : s < 32) (hp : p s = some g) (hB : B ≤ g) (off : Int) :
    Tab (w.setCell ⟨g, 2, none⟩ (.int .i64 off)) tb p (updF f s ((f s).1, (f s).2.1, off, (f s).2.2.2)) ∧ Below B w (w.setCell ⟨g, 2, none⟩ (.int .i64 off)) ∧ KB g w (w.setCell ⟨g, 2, none⟩ (.int .i64 off)) := by
  obtain ⟨hg, hgt⟩ := h.file s g hs hp
  rw [setCell_eq_setRow w g 2 _ _ _ _ hg]
  have e : (fv (f s)).setIfInBounds 2 (.int .i64 off) = fv ((f s).1, (f s).2.1, off, (f s).2.2.2) := rfl
  rw [e]
  have hoth : ∀ k, k ≠ g → (w.setRow g (fv ((f s).1, (f s).2.1, off, (f s).2.2.2))).heap[k]? = w.heap[k]? := fun k hk => setRow_other w g k _ hk
  refine ⟨⟨(hoth tb (Ne.symm hgt)).trans h.tab, fun j g2 hj hg2 => ?_⟩, ⟨rfl, rfl, rfl, by simp, fun k hk => hoth k (by omega)⟩, fun k ob hk hn => (hoth k hn).trans hk⟩
  have hf := h.file j g2 hj hg2
  by_cases hjs : j = s
  · subst hjs
    rw [hp] at hg2
    obtain rfl := Option.some.inj hg2
    rw [updF, if_pos rfl]
    exact ⟨setRow_heap w g _ _ _ _ hg, hgt⟩
  · rw [updF, if_neg hjs]
    have hne : g2 ≠ g := fun e => hjs (hinj j s g hj hs (by rw [hg2, e]) hp)
    exact ⟨(hoth g2 hne).trans hf.1, hf.2⟩

set_option maxHeartbeats 1000000 in
set_option maxRecDepth 100000 in
theorem pmove_no (t : Value) (pr fd off e : Int) (he : (e != 0) = true) (w : World) (hA : Calls Try.prog 29 #[t, .int .i64 pr, .int .i64 fd] w fun r w' => r = .returned (.tuple #[.pointer none, .int .i64 e]) ∧ w' = w) :
    Calls Try.prog 21 #[t, .int .i64 pr, .int .i64 fd, .int .i64 off] w fun r w' => r = .returned (.int .i64 e) ∧ w' = w := by
  go_enter Try.func21, Try.ntmps21
  go_wp2_with (go_at_call 29; refine hA.mono ?_; rintro e w8 ⟨rfl, rfl⟩)
  go_ret
  exact ⟨rfl, rfl⟩
set_option maxHeartbeats 1000000 in
set_option maxRecDepth 100000 in
theorem pmove_far (t : Value) (pr fd off : Int) (g : Nat) (hf : ¬ (0 ≤ off ∧ off ≤ 67840)) (w : World) (hA : ∀ w', w' = w → Calls Try.prog 29 #[t, .int .i64 pr, .int .i64 fd] w' fun r w'' => r = .returned (.tuple #[.pointer (some ⟨g, 0, none⟩), .int .i64 0]) ∧ w'' = w') :
    Calls Try.prog 21 #[t, .int .i64 pr, .int .i64 fd, .int .i64 off] w fun r w' => r = .returned (.int .i64 22) ∧ w' = w := by
  replace hA := hA w rfl
  by_cases h1 : off < 0
  · have d1 : decide (off < 0) = true := decide_eq_true h1
    clear hf h1
    go_enter Try.func21, Try.ntmps21
    go_wp2_with (go_at_call 29; refine hA.mono ?_; rintro e w8 ⟨rfl, rfl⟩)
    go_ret
    exact ⟨rfl, rfl⟩
  · have d1 : decide (off < 0) = false := decide_eq_false h1
    have d2 : decide (67840 < off) = true := decide_eq_true (by omega)
    clear hf h1
    go_enter Try.func21, Try.ntmps21
    go_wp2_with (go_at_call 29; refine hA.mono ?_; rintro e w8 ⟨rfl, rfl⟩)
    go_ret
    exact ⟨rfl, rfl⟩
set_option maxHeartbeats 1000000 in
set_option maxRecDepth 100000 in
theorem pmove_yes (t : Value) (pr fd off : Int) (g : Nat) (y : FileT) (hf : 0 ≤ off ∧ off ≤ 67840) (w : World) (hg : w.heap[g]? = some (.cells (fv y) 27 (0, 0))) (hA : ∀ w', w' = w → Calls Try.prog 29 #[t, .int .i64 pr, .int .i64 fd] w' fun r w'' => r = .returned (.tuple #[.pointer (some ⟨g, 0, none⟩), .int .i64 0]) ∧ w'' = w') :
    Calls Try.prog 21 #[t, .int .i64 pr, .int .i64 fd, .int .i64 off] w fun r w' => r = .returned (.int .i64 0) ∧ w' = w.setCell ⟨g, 2, none⟩ (.int .i64 off) := by
  replace hA := hA w rfl
  have d1 : decide (off < 0) = false := decide_eq_false (by omega)
  have d2 : decide (67840 < off) = false := decide_eq_false (by omega)
  have hc : w.cell? ⟨g, 2, none⟩ = some (.int .i64 y.2.2.1) := (cell_of_row w g 2 _ _ _ hg).trans rfl
  have hz := frozen_of_row w g 2 _ _ hg
  clear hf
  go_enter Try.func21, Try.ntmps21
  go_wp2_with (go_at_call 29; refine hA.mono ?_; rintro e w8 ⟨rfl, rfl⟩)
  go_ret
  exact ⟨rfl, rfl⟩

/-! ### All -/
/-- Which of the first k places of a row are open. -/
def openL (p : Nat → Option Nat) (o : Nat) : Nat → List Int
  | 0 => []
  | k + 1 => openL p o k ++ (if (p (o + k)).isSome then [(k : Int)] else [])
theorem openL_at (p : Nat → Option Nat) (o i : Nat) (h : (p (o + i)).isSome = true) : ∀ n, i < n → (openL p o n)[(openL p o i).length]? = some (i : Int)
  | 0, hn => by omega
  | n + 1, hn => by
    by_cases e : i = n
    · subst e
      show (openL p o i ++ _)[(openL p o i).length]? = _
      rw [if_pos h, List.getElem?_append_right (Nat.le_refl _), Nat.sub_self]
      rfl
    · have := openL_at p o i h n (by omega)
      show (openL p o n ++ _)[(openL p o i).length]? = _
      rw [List.getElem?_append_left (List.getElem?_eq_some_iff.1 this).1]
      exact this
theorem openL_le (p : Nat → Option Nat) (o : Nat) : ∀ k, (openL p o k).length ≤ k
  | 0 => Nat.le_refl _
  | k + 1 => by
    have := openL_le p o k
    show (openL p o k ++ _).length ≤ _
    rw [List.length_append]
    split
    · simp; omega
    · simp; omega
def IntRow (w : World) (B : Nat) (v : Value) (l : List Int) : Prop := w.ownsRow B 3 1 v l.length (l.map fun x => .int .i64 x)
theorem IntRow.slice {w : World} {B : Nat} {v : Value} {l : List Int} (h : IntRow w B v l) : ∃ a cap, v = .slice a l.length cap ∧ IntSl w a l := by
  rcases h.2 with ⟨rfl, h0⟩ | ⟨g, cap, cur, rfl, h1, h2, h3, h4, h5, h6⟩
  · have : l = [] := List.eq_nil_of_length_eq_zero h0
    subst this
    exact ⟨none, 0, rfl, fun j hj => by simp at hj⟩
  · refine ⟨some ⟨g, 0, none⟩, cap, rfl, fun j hj => ⟨_, rfl, ?_, lt_of_blk h2⟩⟩
    have hc := h.cells (g := g) rfl j (.int .i64 l[j]) (by simp [hj])
    exact hc
set_option maxHeartbeats 1000000 in
set_option maxRecDepth 100000 in
theorem all_list (tb pr : Nat) (h1 : 1 ≤ pr) (h2 : pr ≤ 4) (p : Nat → Option Nat) (f : Nat → FileT) (w : World) (hT : Tab w tb p f) :
    Calls Try.prog 16 #[.pointer (some ⟨tb, 0, none⟩), .int .i64 pr] w fun e w' => ∃ a cap, e = .returned (.slice a (openL p (8 * (pr - 1)) 8).length cap) ∧ IntSl w' a (openL p (8 * (pr - 1)) 8) ∧ Below w.heap.size w w' := by
  obtain ⟨i0, hi, hz0, hz1, hz2⟩ := info_parts intInfo
  obtain ⟨o, ho⟩ : ∃ o, 8 * (pr - 1) = o := ⟨_, rfl⟩
  have ho2 : o ≤ 24 := by omega
  have hR := fun w => row_yes tb pr h1 h2 w
  rw [ho] at hR ⊢
  clear ho h1 h2
  go_enter Try.func16, Try.ntmps16
  go_wp2_with (go_at_call 28; refine (hR _).mono ?_; rintro e w1 ⟨rfl, rfl⟩)
  go_loopw [6, 15] (fun v i wr => ∃ (k : Nat), k ≤ 8 ∧ i = .int .i64 k ∧ Below w1.heap.size w1 wr ∧ IntRow wr w1.heap.size v (openL p o k)) (fun _ i _ => 8 - (intOf i).toNat)
  case atStart => exact ⟨0, by omega, rfl, Below.refl _ _, ⟨rfl, .inl ⟨rfl, rfl⟩⟩⟩
  case round =>
    obtain ⟨k, hk, rfl, hbw, hown⟩ := hrel
    have hle := openL_le p o k
    by_cases h : k = 8
    · subst h
      obtain ⟨a, cap, rfl, hsl⟩ := hown.slice
      go_wp2
      go_ret
      exact ⟨a, cap, rfl, hsl, hbw⟩
    · have hlt : k < 8 := by omega
      have hlt' : (k : Int) < 8 := by omega
      have hc := (hT.ext hbw).cell (o + k) (by omega)
      have hrs : openL p o (k + 1) = openL p o k ++ (if (p (o + k)).isSome then [(k : Int)] else []) := rfl
      cases hp : p (o + k) with
      | none =>
        rw [hp] at hc hrs
        have hc' : wr.cell? ⟨tb, o + k, none⟩ = some (.pointer none) := hc
        have HRS := Lib.hid hrs
        clear hc hrs
        go_wp2
        go_region
        go_wp2
        exact ⟨⟨k + 1, by omega, by simp, hbw.drew, by rw [HRS.out, if_neg (by decide), List.append_nil]; exact hown⟩, by simp only [intOf]; omega⟩
      | some g =>
        rw [hp] at hc hrs
        have hc' : wr.cell? ⟨tb, o + k, none⟩ = some (.pointer (some ⟨g, 0, none⟩)) := hc
        have HRS := Lib.hid hrs
        clear hc hrs
        go_wp2
        go_region
        have hbd : Below wr.heap.size wr (wr.drew.alloc (.cells #[.int .i64 k] 3 (0, 0))) := ((Below.refl _ wr).drew).alloc (Nat.le_refl _) _
        go_wp2_with (at_builtin; refine wpList_append_own _ rfl _ _ 39 rfl w1.heap.size 3 i0 (.int .i64 0) 1 8 Try.underlying39 hi hz0 hz1 hz2 rfl (by decide) _ _ _ rfl (ownInts_below hown hbd) ⟨wr.heap.size, 0, none⟩ 1 1 [.int .i64 k] rfl rfl ?c1 ?c2 ?c3 ?c4 ?c5 ?_)
        case c1 =>
          intro j v hj
          match j, hj with
          | 0, hj => simp at hj; subst hj; simp [Addr.add]
        case c2 => intro v hv; simp at hv; subst hv; rfl
        case c3 => unfold maxLen; omega
        case c4 => omega
        case c5 => have := hbw.size; simp; omega
        intro v' w2 hown' hgrow _
        go_wp2
        refine ⟨⟨k + 1, by omega, by simp, ?_, by
          rw [HRS.out, if_pos (show (some g).isSome = true from rfl)]
          unfold IntRow
          rw [List.length_append, List.map_append]
          exact hown'⟩, by simp only [intOf]; omega⟩
        exact (hbw.trans (hbd.mono hbw.size)).grown hgrow (Nat.le_trans hbw.size hbd.size) (fun k hk => ((ownInts_below hown hbd).lt k hk).1)
end Go.Proofs.Ytfacegnnmgmjmaa
