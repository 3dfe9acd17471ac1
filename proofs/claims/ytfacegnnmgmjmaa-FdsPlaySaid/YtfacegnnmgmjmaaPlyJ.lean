/- Chapter 28: what the table and the reference's table answer. -/
import Derived.Test.YtfacegnnmgmjmaaPlyI
namespace Go.Proofs.Ytfacegnnmgmjmaa
open Go.RowKit
set_option linter.unusedSimpArgs false
set_option linter.unusedVariables false

theorem zF_fv : zF = fv (0, 0, 0, 0) := rfl
theorem proc_cases (P : Int) : (¬ (1 ≤ P ∧ P ≤ 4)) ∨ ∃ r : Nat, r < 4 ∧ P = (r : Int) + 1 := by
  by_cases h : 1 ≤ P ∧ P ≤ 4
  · exact .inr ⟨(P - 1).toNat, by omega, by omega⟩
  · exact .inl h
theorem cast_pr (r : Nat) : ((r + 1 : Nat) : Int) = (r : Int) + 1 := rfl

/-- Both tell of no open descriptor, or it is open. -/
theorem get_cases (tb rb : Nat) (P fd : Int) (p : Nat → Option Nat) (f : Nat → FileT) :
    (∃ e : Int, (e == 0) = false ∧ (∀ w, Tab w tb p f → Calls Try.prog 29 #[.pointer (some ⟨tb, 0, none⟩), .int .i64 P, .int .i64 fd] w fun r w' => r = .returned (.tuple #[.pointer none, .int .i64 e]) ∧ w' = w) ∧
      (∀ w, Tab w tb p f → Calls Try.prog 13 #[.pointer (some ⟨tb, 0, none⟩), .int .i64 P, .int .i64 fd] w fun r w' => r = .returned (.tuple #[.agg (fv (0, 0, 0, 0)), .int .i64 e]) ∧ Below w.heap.size w w') ∧
      (∀ w, RTab w rb (qOf p f) → Calls Try.prog 19 #[.pointer (some ⟨rb, 0, none⟩), .int .i64 P, .int .i64 fd] w fun r w' => r = .returned (.tuple #[.agg (rfv none), .int .i64 e]) ∧ Below w.heap.size w w')) ∨
    (∃ (r k g : Nat), r < 4 ∧ k < 8 ∧ P = (r : Int) + 1 ∧ fd = (k : Int) ∧ p (8 * r + k) = some g) := by
  rw [← zF_fv]
  rcases proc_cases P with hp | ⟨r, hr, rfl⟩
  · exact .inl ⟨22, rfl, fun w _ => at_norow _ P fd w (fun w4 => row_no _ P hp w4), fun w _ => get_err _ P fd 22 w rfl (fun w3 => at_norow _ P fd w3 (fun w4 => row_no _ P hp w4)), fun w _ => rget_out _ P fd hp w⟩
  · by_cases hf : 0 ≤ fd ∧ fd < 8
    · obtain ⟨k, rfl⟩ := Int.eq_ofNat_of_zero_le hf.1
      have hk : k < 8 := by omega
      cases hq : p (8 * r + k) with
      | none =>
        have hq' : p (8 * (r + 1 - 1) + k) = none := by rw [Nat.add_sub_cancel]; exact hq
        refine .inl ⟨9, rfl, fun w hT => at_none tb (r + 1) k (by omega) (by omega) hk p f w hT hq', fun w hT => get_err_b _ ((r : Int) + 1) k 9 w rfl (fun w3 hb3 => at_none tb (r + 1) k (by omega) (by omega) hk p f w3 (hT.ext hb3) hq'), fun w hT => ?_⟩
        have := rget_in rb r k _ _ hr rfl hk rfl (qOf p f) w hT
        rw [show qOf p f (8 * r + k) = none from by unfold qOf; rw [hq]; rfl] at this
        exact this
      | some g => exact .inr ⟨r, k, g, hr, hk, rfl, rfl, hq⟩
    · exact .inl ⟨9, rfl, fun w _ => at_out tb (r + 1) (by omega) (by omega) fd hf w, fun w _ => get_err _ ((r : Int) + 1) fd 9 w rfl (fun w3 => at_out tb (r + 1) (by omega) (by omega) fd hf w3), fun w _ => rget_far _ _ fd (by omega) hf w⟩

section
variable {w0 : World} {own : List (Nat × Obj)} {tb rb : Nat} {p : Nat → Option Nat} {f : Nat → FileT}
def WfF (p : Nat → Option Nat) (f : Nat → FileT) : Prop := ∀ i, i < 32 → (p i).isSome = true → (Lit.int .i64 (f i).2.2.2).wf = true

/-- Get. -/
theorem play_get (P fd : Int) (w : World) (h : PX w0 w own tb rb p f (qOf p f)) :
    ∃ (x : FileT) (e : Int), (∀ w, Tab w tb p f → Calls Try.prog 13 #[.pointer (some ⟨tb, 0, none⟩), .int .i64 P, .int .i64 fd] w fun r w' => r = .returned (.tuple #[.agg (fv x), .int .i64 e]) ∧ Below w.heap.size w w') ∧
      (∀ w, RTab w rb (qOf p f) → Calls Try.prog 19 #[.pointer (some ⟨rb, 0, none⟩), .int .i64 P, .int .i64 fd] w fun r w' => r = .returned (.tuple #[.agg (pfv x (e == 0)), .int .i64 e]) ∧ Below w.heap.size w w') := by
  rcases get_cases tb rb P fd p f with ⟨e, he, -, h2, h3⟩ | ⟨r, k, g, hr, hk, rfl, rfl, hp⟩
  · exact ⟨(0, 0, 0, 0), e, h2, by rw [he]; exact h3⟩
  · refine ⟨f (8 * r + k), 0, fun w hT => ?_, fun w hT => ?_⟩
    · have := get_some tb (r + 1) k (by omega) (by omega) hk p f g w hT (by rw [Nat.add_sub_cancel]; exact hp)
      rw [Nat.add_sub_cancel] at this
      exact this
    · have := rget_in rb r k _ _ hr rfl hk rfl (qOf p f) w hT
      rw [show qOf p f (8 * r + k) = some (f (8 * r + k)) from by unfold qOf; rw [hp]; rfl] at this
      exact this

/-- Spare. -/
theorem play_spare (P : Int) (p : Nat → Option Nat) (f : Nat → FileT) : ∃ (i e : Int), (∀ w, Tab w tb p f → Calls Try.prog 11 #[.pointer (some ⟨tb, 0, none⟩), .int .i64 P] w fun r w' => r = .returned (.tuple #[.int .i64 i, .int .i64 e]) ∧ Below w.heap.size w w') ∧
      (∀ w, RTab w rb (qOf p f) → Calls Try.prog 23 #[.pointer (some ⟨rb, 0, none⟩), .int .i64 P] w fun r w' => r = .returned (.tuple #[.int .i64 i, .int .i64 e]) ∧ w' = w) := by
  rcases proc_cases P with hp | ⟨r, hr, rfl⟩
  · exact ⟨0, 22, fun w _ => (spare_no _ P hp w).mono fun e w' h => ⟨h.1, by first | exact h.2 | (rw [h.2]; exact Below.refl _ _)⟩, fun w _ => rspare_out _ P hp w⟩
  · have h1 := fun w hT => spare_yes tb (r + 1) (by omega) (by omega) p f w hT
    have h2 := fun w hT => rspare_in rb r _ hr rfl p f w hT
    rw [Nat.add_sub_cancel] at h1
    cases hs : spareF p (8 * r) with
    | none =>
      rw [hs] at h1 h2
      exact ⟨0, 24, h1, h2⟩
    | some k =>
      rw [hs] at h1 h2
      exact ⟨k, 0, h1, h2⟩

/-- Open. -/
def OpenR (w0 : World) (own : List (Nat × Obj)) (tb rb : Nat) (p : Nat → Option Nat) (f : Nat → FileT) (P : Int) (y : FileT) (r : Ending) (w' : World) : Prop :=
  ∃ (i e : Int) (p' : Nat → Option Nat) (f' : Nat → FileT), r = .returned (.tuple #[.int .i64 i, .int .i64 e]) ∧ PX w0 w' own tb rb p' f' (qOf p f) ∧ WfF p' f' ∧
      ∀ w2 own2, PX w0 w2 own2 tb rb p' f' (qOf p f) → Calls Try.prog 17 #[.pointer (some ⟨rb, 0, none⟩), .int .i64 P, .agg (rfv (some y))] w2 fun r2 w3 => r2 = .returned (.tuple #[.int .i64 i, .int .i64 e]) ∧ PX w0 w3 own2 tb rb p' f' (qOf p' f')
theorem open_none (P : Int) (y : FileT) (w : World) (h : PX w0 w own tb rb p f (qOf p f)) (hW : WfF p f) (i e : Int) (he : (e == 0) = false) (hS : ∀ w, RTab w rb (qOf p f) → Calls Try.prog 23 #[.pointer (some ⟨rb, 0, none⟩), .int .i64 P] w fun r w' => r = .returned (.tuple #[.int .i64 i, .int .i64 e]) ∧ w' = w)
    (hO : Calls Try.prog 12 #[.pointer (some ⟨tb, 0, none⟩), .int .i64 P, .agg (fv y)] w (fun r w' => r = .returned (.tuple #[.int .i64 i, .int .i64 e]) ∧ Below w.heap.size w w')) :
    Calls Try.prog 12 #[.pointer (some ⟨tb, 0, none⟩), .int .i64 P, .agg (fv y)] w (OpenR w0 own tb rb p f P y) :=
  hO.mono fun r w' ⟨h1, h2⟩ => ⟨i, e, p, f, h1, h.ext h2, hW, fun w2 own2 h3 => (ropen_no _ P i e he y w2 (fun w4 hb => hS w4 (h3.rtab.ext hb))).mono fun r w' ⟨h1, h2⟩ => ⟨h1, h3.ext h2⟩⟩
theorem play_open (P : Int) (y : FileT) (hy : (Lit.int .i64 y.2.2.2).wf = true) (w : World) (h : PX w0 w own tb rb p f (qOf p f)) (hW : WfF p f) :
    Calls Try.prog 12 #[.pointer (some ⟨tb, 0, none⟩), .int .i64 P, .agg (fv y)] w (OpenR w0 own tb rb p f P y) := by
  rcases proc_cases P with hp | ⟨r, hr, rfl⟩
  · exact open_none P y w h hW 0 22 rfl (fun w _ => rspare_out _ P hp w) (open_fail _ P 22 y w rfl (fun w => spare_no _ P hp w))
  · cases hs : spareF p (8 * r) with
    | none =>
      refine open_none _ y w h hW 0 24 rfl (fun w hT => ?_) (open_full tb (r + 1) (by omega) (by omega) p f y w h.tab (by rw [Nat.add_sub_cancel]; exact hs))
      have := rspare_in rb r _ hr rfl p f w hT
      rw [hs] at this
      exact this
    | some k =>
      have hk : k < 8 := by simpa using List.mem_of_find?_eq_some hs
      refine (open_yes tb (r + 1) k w0.heap.size h.tlo (by omega) (by omega) p f y w h.tab (by rw [Nat.add_sub_cancel]; exact hs) hk).mono fun e w' ⟨h1, ⟨g, hg, hT⟩, hB, hK⟩ => ?_
      rw [Nat.add_sub_cancel] at hT
      have h32 : 8 * r + k < 32 := by omega
      refine ⟨k, 0, _, _, h1, h.opened h32 hg hT hB hK, fun i hi hsm => ?_, fun w2 own2 h3 => ?_⟩
      · unfold updF
        split
        · exact hy
        · rename_i hne
          unfold upd at hsm
          rw [if_neg hne] at hsm
          exact hW i hi hsm
      · refine (ropen_yes rb r k w0.heap.size _ hr rfl hk h3.rlo y (qOf p f) w2 (Nat.le_trans h3.rlo (Nat.le_of_lt (lt_of_blk h3.rtab))) h3.rtab (fun w4 hT4 => ?_)).mono fun e w3 ⟨h4, h5, h6, h7⟩ => ⟨h4, ?_⟩
        · have := rspare_in rb r _ hr rfl p f w4 hT4
          rw [hs] at this
          exact this
        · rw [qOf_upd]
          exact h3.reffed h5 h6 h7

/-- Get, then Close. -/
theorem play_close (P fd : Int) (p : Nat → Option Nat) (f : Nat → FileT) (hW : WfF p f) :
    ∃ (x : FileT) (e : Int) (p' : Nat → Option Nat), (∀ w, Tab w tb p f → Calls Try.prog 13 #[.pointer (some ⟨tb, 0, none⟩), .int .i64 P, .int .i64 fd] w fun r w' => r = .returned (.tuple #[.agg (fv x), .int .i64 e]) ∧ Below w.heap.size w w') ∧
      (∀ w, RTab w rb (qOf p f) → Calls Try.prog 19 #[.pointer (some ⟨rb, 0, none⟩), .int .i64 P, .int .i64 fd] w fun r w' => r = .returned (.tuple #[.agg (pfv x (e == 0)), .int .i64 e]) ∧ Below w.heap.size w w') ∧
      (∀ w own, PX w0 w own tb rb p f (qOf p f) → Calls Try.prog 10 #[.pointer (some ⟨tb, 0, none⟩), .int .i64 P, .int .i64 fd] w fun r w' => r = .returned (.tuple #[.agg (fv x), .int .i64 e]) ∧ PX w0 w' own tb rb p' f (qOf p f)) ∧
      (∀ w own, PX w0 w own tb rb p' f (qOf p f) → Calls Try.prog 20 #[.pointer (some ⟨rb, 0, none⟩), .int .i64 P, .int .i64 fd] w fun r w' => r = .returned (.tuple #[.agg (pfv x (e == 0)), .int .i64 e]) ∧ PX w0 w' own tb rb p' f (qOf p' f)) ∧ WfF p' f := by
  rcases get_cases tb rb P fd p f with ⟨e, he, h1, h2, h3⟩ | ⟨r, k, g, hr, hk, rfl, rfl, hp⟩
  · refine ⟨(0, 0, 0, 0), e, p, h2, by rw [he]; exact h3, fun w own h => ?_, fun w own h => ?_, hW⟩
    · exact (close_err_b _ P fd e w he (fun w2 hb => h2 w2 (h.tab.ext hb))).mono fun r w' ⟨h4, h5⟩ => ⟨h4, h.ext h5⟩
    · rw [he]
      exact (rclose_no _ P fd e he w (fun w2 hb => h3 w2 (h.rtab.ext hb))).mono fun r w' ⟨h4, h5⟩ => ⟨h4, h.ext h5⟩
  · have hp' : p (8 * (r + 1 - 1) + k) = some g := by rw [Nat.add_sub_cancel]; exact hp
    have hq : qOf p f (8 * r + k) = some (f (8 * r + k)) := by unfold qOf; rw [hp]; rfl
    have hG : ∀ w, RTab w rb (qOf p f) → Calls Try.prog 19 #[.pointer (some ⟨rb, 0, none⟩), .int .i64 ((r : Int) + 1), .int .i64 k] w fun r' w' => r' = .returned (.tuple #[.agg (rfv (some (f (8 * r + k)))), .int .i64 0]) ∧ Below w.heap.size w w' := fun w hT => by
      have := rget_in rb r k _ _ hr rfl hk rfl (qOf p f) w hT
      rw [hq] at this
      exact this
    refine ⟨f (8 * r + k), 0, upd p (8 * r + k) none, fun w hT => ?_, hG, fun w own h => ?_, fun w own h => ?_, fun i hi hsm => ?_⟩
    · have := get_some tb (r + 1) k (by omega) (by omega) hk p f g w hT hp'
      rw [Nat.add_sub_cancel] at this
      exact this
    · refine (close_ok tb (r + 1) k w0.heap.size h.tlo (by omega) (by omega) hk p f g w h.tab hp').mono fun e w' ⟨h4, h5, h6, h7⟩ => ?_
      rw [Nat.add_sub_cancel] at h4 h5
      exact ⟨h4, h.closed h5 h6 h7⟩
    · refine (rclose_yes rb r k w0.heap.size _ _ hr rfl hk rfl h.rlo (some (f (8 * r + k))) (qOf p f) w (Nat.le_trans h.rlo (Nat.le_of_lt (lt_of_blk h.rtab))) h.rtab (fun w2 hb => hG w2 (h.rtab.ext hb))).mono fun e w' ⟨h4, h5, h6, h7⟩ => ⟨h4, ?_⟩
      rw [qOf_none]
      exact h.reffed h5 h6 h7
    · refine hW i hi ?_
      unfold upd at hsm
      split at hsm
      · cases hsm
      · exact hsm

/-- Move. -/
theorem play_move (P fd off : Int) (p : Nat → Option Nat) (f : Nat → FileT) (hW : WfF p f) :
    ∃ (e : Int) (f' : Nat → FileT), (∀ w own, PX w0 w own tb rb p f (qOf p f) → Calls Try.prog 21 #[.pointer (some ⟨tb, 0, none⟩), .int .i64 P, .int .i64 fd, .int .i64 off] w fun r w' => r = .returned (.int .i64 e) ∧ PX w0 w' own tb rb p f' (qOf p f)) ∧
      (∀ w own, PX w0 w own tb rb p f' (qOf p f) → Calls Try.prog 22 #[.pointer (some ⟨rb, 0, none⟩), .int .i64 P, .int .i64 fd, .int .i64 off] w fun r w' => r = .returned (.int .i64 e) ∧ PX w0 w' own tb rb p f' (qOf p f')) ∧ WfF p f' := by
  rcases get_cases tb rb P fd p f with ⟨e, he, h1, h2, h3⟩ | ⟨r, k, g, hr, hk, rfl, rfl, hp⟩
  · have he' : (e != 0) = true := by rw [bne, he]; rfl
    refine ⟨e, f, fun w own h => ?_, fun w own h => ?_, hW⟩
    · exact (pmove_no _ P fd off e he' w (h1 w h.tab)).mono fun r w' ⟨h4, h5⟩ => ⟨h4, by rw [h5]; exact h⟩
    · exact (rmove_no _ P fd off e he' none w (fun w2 hb => h3 w2 (h.rtab.ext hb))).mono fun r w' ⟨h4, h5⟩ => ⟨h4, h.ext h5⟩
  · have hp' : p (8 * (r + 1 - 1) + k) = some g := by rw [Nat.add_sub_cancel]; exact hp
    have hq : qOf p f (8 * r + k) = some (f (8 * r + k)) := by unfold qOf; rw [hp]; rfl
    have h32 : 8 * r + k < 32 := by omega
    have hG : ∀ w, RTab w rb (qOf p f) → Calls Try.prog 19 #[.pointer (some ⟨rb, 0, none⟩), .int .i64 ((r : Int) + 1), .int .i64 k] w fun r' w' => r' = .returned (.tuple #[.agg (rfv (some (f (8 * r + k)))), .int .i64 0]) ∧ Below w.heap.size w w' := fun w hT => by
      have := rget_in rb r k _ _ hr rfl hk rfl (qOf p f) w hT
      rw [hq] at this
      exact this
    have hA := fun w hT => at_some tb (r + 1) k (by omega) (by omega) hk p f g w hT hp'
    by_cases hf : 0 ≤ off ∧ off ≤ 67840
    · refine ⟨0, updF f (8 * r + k) ((f (8 * r + k)).1, (f (8 * r + k)).2.1, off, (f (8 * r + k)).2.2.2), fun w own h => ?_, fun w own h => ?_, fun i hi hsm => ?_⟩
      · refine (pmove_yes _ ((r : Int) + 1) k off g (f (8 * r + k)) hf w (h.tab.file _ g h32 hp).1 (fun w2 e => by rw [e]; exact hA w h.tab)).mono fun e w' ⟨h4, h5⟩ => ⟨h4, ?_⟩
        have hm := h.tab.moved h.inj h32 hp (h.lo _ g h32 hp).1 off
        rw [h5]
        exact h.moved h32 hp hm.1 hm.2.1 hm.2.2
      · refine (rmove_yes rb r k w0.heap.size _ _ off hr rfl hk rfl h.rlo (f (8 * r + k)) (qOf p f) w (Nat.le_trans h.rlo (Nat.le_of_lt (lt_of_blk h.rtab))) h.rtab hq hf (fun w2 hb => hG w2 (h.rtab.ext hb))).mono fun e w' ⟨h4, h5, h6, h7⟩ => ⟨h4, ?_⟩
        rw [qOf_move p f _ g _ hp]
        exact h.reffed h5 h6 h7
      · unfold updF
        split
        · rename_i hi2
          subst hi2
          exact hW _ h32 hsm
        · exact hW i hi hsm
    · refine ⟨22, f, fun w own h => ?_, fun w own h => ?_, hW⟩
      · exact (pmove_far _ ((r : Int) + 1) k off g hf w (fun w2 e => by rw [e]; exact hA w h.tab)).mono fun r w' ⟨h4, h5⟩ => ⟨h4, by rw [h5]; exact h⟩
      · exact (rmove_far _ ((r : Int) + 1) k off _ hf w (fun w2 hb => hG w2 (h.rtab.ext hb))).mono fun r w' ⟨h4, h5⟩ => ⟨h4, h.ext h5⟩
end
end Go.Proofs.Ytfacegnnmgmjmaa
