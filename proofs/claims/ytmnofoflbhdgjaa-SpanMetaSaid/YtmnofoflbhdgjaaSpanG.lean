/- The plain law of SpanMeta: how many ways a set has is what is counted. -/
import Derived.Test.YtmnofoflbhdgjaaSpanC
namespace Go.Proofs.Ytmnofoflbhdgjaa
open Go.RowKit Go.Maps
set_option linter.unusedSimpArgs false
set_option linter.unusedVariables false

theorem wk_inj {d o n d' o' n' : Int} (h : keyOf Try.prog 28 (.agg (wyc d o n)) = some (wk d o n)) (h' : keyOf Try.prog 28 (.agg (wyc d' o' n')) = some (wk d' o' n')) (e : wk d o n = wk d' o' n') : d = d' ∧ o = o' ∧ n = n' := by
  rw [← e] at h'
  have := wayLaw.inj h h'
  unfold wyc at this
  simpa using this
theorem key_lit {d o n : Int} (h : keyOf Try.prog 28 (.agg (wyc d o n)) = some (wk d o n)) : WideAt.IsKeyLit (wk d o n) := wayLaw.key h

/-- The reference's count, page by page. -/
structure RM where
  ind : Int
  dind : Int
  leaves : List Int
def rstep (s : RM) (i : Int) : RM := if wDep i = 0 then s else if wDep i = 1 then { s with ind := 1 } else { s with dind := 1, leaves := if s.leaves.contains (wOut i) then s.leaves else s.leaves ++ [wOut i] }
def rset (l : List Int) : RM := l.foldl rstep ⟨0, 0, []⟩

def b2i (b : Bool) : Int := if b then 1 else 0
/-- The set and the count say the same. -/
structure Same (D : DU) (s : RM) : Prop where
  tidy : Tidy D
  ind : s.ind = b2i (has D (wk 1 0 0))
  dind : s.dind = b2i (has D (wk 2 0 0))
  leaf : ∀ o : Int, 0 ≤ o → o < 32 → has D (wk 2 o 1) = s.leaves.contains o
  bd : ∀ o ∈ s.leaves, 0 ≤ o ∧ o < 32
  nodup : s.leaves.Nodup
  size : (Maps.size D : Int) = s.ind + s.dind + s.leaves.length

theorem same_start : Same (.map []) ⟨0, 0, []⟩ :=
  ⟨tidy_empty, rfl, rfl, fun _ _ _ => rfl, (fun _ h => by cases h), List.nodup_nil, rfl⟩

theorem ne_12 : wk 1 0 0 ≠ wk 2 0 0 := fun e => by have := wk_inj key100 key200 e; omega
theorem ne_1o {o : Int} (h0 : 0 ≤ o) (h1 : o < 32) : wk 1 0 0 ≠ wk 2 o 1 := fun e => by have := wk_inj key100 (key2o1 o h0 h1) e; omega
theorem ne_2o {o : Int} (h0 : 0 ≤ o) (h1 : o < 32) : wk 2 0 0 ≠ wk 2 o 1 := fun e => by have := wk_inj key200 (key2o1 o h0 h1) e; omega
theorem ne_oo {o p : Int} (h0 : 0 ≤ o) (h1 : o < 32) (k0 : 0 ≤ p) (k1 : p < 32) (h : o ≠ p) : wk 2 o 1 ≠ wk 2 p 1 := fun e => by have := wk_inj (key2o1 o h0 h1) (key2o1 p k0 k1) e; omega

theorem same_100 {D : DU} {s : RM} (h : Same D s) : Same (D.put (wk 1 0 0) tt) { s with ind := 1 } := by
  have hs := size_put (k := wk 1 0 0) h.tidy tt
  refine ⟨h.tidy.put (key_lit key100) _, ?_, ?_, fun o h0 h1 => ?_, h.bd, h.nodup, ?_⟩
  · rw [has_put_same h.tidy.isMap (key_lit key100)]; rfl
  · rw [has_put_other ne_12.symm]; exact h.dind
  · rw [has_put_other (ne_1o h0 h1).symm]; exact h.leaf o h0 h1
  · have e1 := h.size
    have e2 := h.ind
    rw [hs]
    cases hh : has D (wk 1 0 0) with
    | true => rw [hh] at e2; simp only [b2i, if_true] at e2 ⊢; omega
    | false => rw [hh] at e2; simp only [b2i, Bool.false_eq_true, if_false] at e2 ⊢; omega

theorem same_200 {D : DU} {s : RM} (h : Same D s) : Same (D.put (wk 2 0 0) tt) { s with dind := 1 } := by
  have hs := size_put (k := wk 2 0 0) h.tidy tt
  refine ⟨h.tidy.put (key_lit key200) _, ?_, ?_, fun o h0 h1 => ?_, h.bd, h.nodup, ?_⟩
  · rw [has_put_other ne_12]; exact h.ind
  · rw [has_put_same h.tidy.isMap (key_lit key200)]; rfl
  · rw [has_put_other (ne_2o h0 h1).symm]; exact h.leaf o h0 h1
  · have e1 := h.size
    have e2 := h.dind
    rw [hs]
    cases hh : has D (wk 2 0 0) with
    | true => rw [hh] at e2; simp only [b2i, if_true] at e2 ⊢; omega
    | false => rw [hh] at e2; simp only [b2i, Bool.false_eq_true, if_false] at e2 ⊢; omega

theorem same_2o {D : DU} {s : RM} (h : Same D s) (o : Int) (k0 : 0 ≤ o) (k1 : o < 32) : Same (D.put (wk 2 o 1) tt) { s with leaves := if s.leaves.contains o then s.leaves else s.leaves ++ [o] } := by
  have hkey := key2o1 o k0 k1
  have hs := size_put (k := wk 2 o 1) h.tidy tt
  have hl := h.leaf o k0 k1
  refine ⟨h.tidy.put (key_lit hkey) _, ?_, ?_, fun p h0 h1 => ?_, ?_, ?_, ?_⟩
  · rw [has_put_other (ne_1o k0 k1)]; exact h.ind
  · rw [has_put_other (ne_2o k0 k1)]; exact h.dind
  · by_cases e : p = o
    · subst e
      rw [has_put_same h.tidy.isMap (key_lit hkey)]
      cases hc : s.leaves.contains p <;> simp [hc]
      simpa using hc
    · rw [has_put_other (ne_oo h0 h1 k0 k1 e), h.leaf p h0 h1]
      cases hc : s.leaves.contains o <;> simp [hc, e]
  · intro p hp
    cases hc : s.leaves.contains o with
    | true => rw [hc] at hp; exact h.bd p hp
    | false =>
      rw [hc] at hp
      simp at hp
      rcases hp with hp | rfl
      · exact h.bd p hp
      · exact ⟨k0, k1⟩
  · cases hc : s.leaves.contains o with
    | true => exact h.nodup
    | false =>
      simp only [Bool.false_eq_true, if_false]
      rw [List.nodup_append]
      refine ⟨h.nodup, by simp, fun a ha b hb => ?_⟩
      simp at hb
      subst hb
      intro e
      subst e
      simp [ha] at hc
  · have e1 := h.size
    rw [hs, hl]
    cases hc : s.leaves.contains o with
    | true => simp only [if_true]; exact e1
    | false => simp only [Bool.false_eq_true, if_false, List.length_append, List.length_cons, List.length_nil]; omega

theorem same_step {D : DU} {s : RM} (h : Same D s) (i : Int) : Same (mstep D i) (rstep s i) := by
  unfold mstep rstep
  rcases wDep_cases i with hd | hd | hd
  · rw [if_pos hd, if_pos hd]; exact h
  · rw [if_neg (by omega), if_neg (by omega), if_neg (by omega), if_pos hd]; exact same_100 h
  · rw [if_neg (by omega), if_pos hd, if_neg (by omega), if_neg (by omega)]
    exact same_2o (same_200 h) _ (wOut_bd i).1 (wOut_bd i).2
theorem same_all (l : List Int) : ∀ (D : DU) (s : RM), Same D s → Same (l.foldl mstep D) (l.foldl rstep s) := by
  induction l with
  | nil => intro D s h; exact h
  | cons i l ih => intro D s h; exact ih _ _ (same_step h i)
theorem mset_count (l : List Int) : (Maps.size (mset l) : Int) = (rset l).ind + (rset l).dind + (rset l).leaves.length := (same_all l _ _ same_start).size
theorem rset_len (l : List Int) : ∀ s : RM, (l.foldl rstep s).leaves.length ≤ s.leaves.length + l.length := by
  induction l with
  | nil => intro s; simp
  | cons i l ih =>
    intro s
    have h1 := ih (rstep s i)
    have h2 : (rstep s i).leaves.length ≤ s.leaves.length + 1 := by
      unfold rstep
      split
      · omega
      · split
        · exact Nat.le_succ _
        · simp only
          split
          · omega
          · simp
    simp only [List.foldl_cons, List.length_cons]
    omega
theorem b2i_bd (b : Bool) : 0 ≤ b2i b ∧ b2i b ≤ 1 := by cases b <;> simp [b2i]
theorem rset_bd (l : List Int) : 0 ≤ (rset l).ind ∧ (rset l).ind ≤ 1 ∧ 0 ≤ (rset l).dind ∧ (rset l).dind ≤ 1 ∧ (rset l).leaves.length ≤ l.length := by
  have h : Same (mset l) (rset l) := same_all l _ _ same_start
  have h1 := rset_len l ⟨0, 0, []⟩
  rw [h.ind, h.dind]
  refine ⟨(b2i_bd _).1, (b2i_bd _).2, (b2i_bd _).1, (b2i_bd _).2, ?_⟩
  simpa [rset] using h1
theorem rset_snoc (l : List Int) (i : Int) : rset (l ++ [i]) = rstep (rset l) i := by simp [rset]
end Go.Proofs.Ytmnofoflbhdgjaa
