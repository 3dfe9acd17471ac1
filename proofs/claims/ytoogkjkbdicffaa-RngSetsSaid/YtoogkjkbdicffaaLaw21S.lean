/- Chapter 21: the law RngSets: its plain laws. -/
import Derived.Test.YtoogkjkbdicffaaRngM
namespace Go.Proofs.Ytoogkjkbdicffaa
open Go.RowKit
set_option linter.unusedSimpArgs false
set_option linter.unusedVariables false

/-- What Join has of what came. -/
def JI (m : List RT) (o : RT) : Prop := ((∀ r ∈ m, r.2 < r.1) ∧ o = rNone) ∨ (o.1 ≤ o.2 ∧ (∀ r ∈ m, r.2 < r.1 ∨ (o.1 ≤ r.1 ∧ r.2 ≤ o.2)) ∧ (∃ r ∈ m, r.1 ≤ r.2 ∧ r.1 = o.1) ∧ (∃ r ∈ m, r.1 ≤ r.2 ∧ r.2 = o.2))
theorem ji_step {m : List RT} {o : RT} (r : RT) (h : JI m o) : JI (m ++ [r]) (jstep o r) := by
  have hm : ∀ {p : RT → Prop}, (∀ x ∈ m ++ [r], p x) ↔ (∀ x ∈ m, p x) ∧ p r := fun {p} => ⟨fun h => ⟨fun x hx => h x (List.mem_append_left _ hx), h r (List.mem_append_right _ (List.mem_singleton.2 rfl))⟩, fun h x hx => (List.mem_append.1 hx).elim (h.1 x) (fun e => List.mem_singleton.1 e ▸ h.2)⟩
  have hr : r ∈ m ++ [r] := List.mem_append_right _ (List.mem_singleton.2 rfl)
  unfold jstep
  by_cases h1 : r.2 < r.1
  · rw [if_pos h1]
    rcases h with ⟨h2, h3⟩ | ⟨h2, h3, ⟨x, hx, hx2⟩, ⟨y, hy, hy2⟩⟩
    · exact .inl ⟨hm.2 ⟨h2, h1⟩, h3⟩
    · exact .inr ⟨h2, hm.2 ⟨h3, .inl h1⟩, ⟨x, List.mem_append_left _ hx, hx2⟩, ⟨y, List.mem_append_left _ hy, hy2⟩⟩
  · rw [if_neg h1]
    rcases h with ⟨h2, rfl⟩ | ⟨h2, h3, ⟨x, hx, hx2⟩, ⟨y, hy, hy2⟩⟩
    · rw [if_pos (by decide)]
      exact .inr ⟨by omega, hm.2 ⟨fun x hx => .inl (h2 x hx), .inr ⟨Int.le_refl _, Int.le_refl _⟩⟩, ⟨r, hr, by omega, rfl⟩, ⟨r, hr, by omega, rfl⟩⟩
    · rw [if_neg (by omega)]
      refine .inr ⟨by simp only; omega, hm.2 ⟨fun x hx => ?_, .inr ⟨by simp only; omega, by simp only; omega⟩⟩, ?_, ?_⟩
      · rcases h3 x hx with h | h
        · exact .inl h
        · exact .inr ⟨by simp only; omega, by simp only; omega⟩
      · by_cases h4 : r.1 ≤ o.1
        · exact ⟨r, hr, by omega, by simp only; omega⟩
        · exact ⟨x, List.mem_append_left _ hx, hx2.1, by simp only; omega⟩
      · by_cases h4 : o.2 ≤ r.2
        · exact ⟨r, hr, by omega, by simp only; omega⟩
        · exact ⟨y, List.mem_append_left _ hy, hy2.1, by simp only; omega⟩
theorem ji_all (l : List RT) : JI l (joinL l) := by
  have : ∀ k, k ≤ l.length → JI (l.take k) (joinF l k) := fun k => by
    induction k with
    | zero => intro _; exact .inl ⟨fun r h => by simp at h, rfl⟩
    | succ k ih =>
      intro hk
      rw [joinF_succ l k (by omega), List.take_add_one, List.getElem?_eq_getElem (by omega)]
      exact ji_step _ (ih (by omega))
  have h := this l.length (Nat.le_refl _)
  rwa [List.take_length] at h
theorem meet_all (l : List RT) (n : Int) (hn : I64 n) : In (meetL l) n ↔ ∀ r ∈ l, In r n := by
  have : ∀ k, k ≤ l.length → (In (meetF l k) n ↔ ∀ r ∈ l.take k, In r n) := fun k => by
    induction k with
    | zero => intro _; exact ⟨fun _ r h => by simp at h, fun _ => hn⟩
    | succ k ih =>
      intro hk
      rw [meetF_succ l k (by omega), List.take_add_one, List.getElem?_eq_getElem (by omega)]
      have e : In (mstep (meetF l k) l[k]) n ↔ In (meetF l k) n ∧ In l[k] n := by
        unfold In mstep
        simp only
        constructor
        · intro h; omega
        · intro h; omega
      rw [e, ih (by omega)]
      constructor
      · rintro ⟨h1, h2⟩ r hr
        rcases List.mem_append.1 hr with h | h
        · exact h1 r h
        · simp at h; subst h; exact h2
      · intro h
        exact ⟨fun r hr => h r (List.mem_append_left _ hr), h _ (List.mem_append_right _ (by simp))⟩
  have h := this l.length (Nat.le_refl _)
  rwa [List.take_length] at h
def allB (l : List RT) (n : Int) (k : Nat) : Bool := (l.take k).all fun r => decide (r.1 ≤ n ∧ n ≤ r.2)
def someB (l : List RT) (k : Nat) : Bool := (l.take k).any fun r => !decide (r.2 < r.1)
def e1B (l : List RT) (j : RT) (k : Nat) : Bool := (l.take k).any fun r => !decide (r.2 < r.1) && (r.1 == j.1)
def e2B (l : List RT) (j : RT) (k : Nat) : Bool := (l.take k).any fun r => !decide (r.2 < r.1) && (r.2 == j.2)
def endsV (a b : Bool) : Int := (if a then 1 else 0) + (if b then 2 else 0)
theorem take_snoc (l : List RT) (k : Nat) (h : k < l.length) : l.take (k + 1) = l.take k ++ [l[k]] := by
  rw [List.take_add_one, List.getElem?_eq_getElem h]
  rfl
theorem ends_or1 (a b : Bool) : bits .or .i64 (endsV a b) 1 = endsV true b := by cases a <;> cases b <;> kernel_rfl
theorem ends_or2 (a b : Bool) : bits .or .i64 (endsV a b) 2 = endsV a true := by cases a <;> cases b <;> kernel_rfl
/-- At the end. -/
theorem sets_end (l : List RT) (n : Int) (hn : I64 n) : decide ((meetL l).1 ≤ n ∧ n ≤ (meetL l).2) = allB l n l.length ∧ decide ((joinL l).2 < (joinL l).1) = !someB l l.length ∧ (someB l l.length = true → e1B l (joinL l) l.length = true ∧ e2B l (joinL l) l.length = true) := by
  unfold allB someB e1B e2B
  rw [List.take_length]
  refine ⟨?_, ?_, fun hs => ?_⟩
  · apply Bool.eq_iff_iff.2
    rw [decide_eq_true_eq, List.all_eq_true]
    have := meet_all l n hn
    unfold In at this
    rw [this]
    simp
  · apply Bool.eq_iff_iff.2
    rw [decide_eq_true_eq]
    rcases ji_all l with ⟨h2, h3⟩ | ⟨h2, h3, ⟨x, hx, hx2⟩, ⟨y, hy, hy2⟩⟩
    · rw [h3]
      have : (l.any fun r => !decide (r.2 < r.1)) = false := by
        rw [List.any_eq_false]
        intro r hr
        simp [h2 r hr]
      rw [this]
      simp [rNone]
    · have : (l.any fun r => !decide (r.2 < r.1)) = true := List.any_eq_true.2 ⟨x, hx, by simp; omega⟩
      rw [this]
      simp
      omega
  · rcases ji_all l with ⟨h2, h3⟩ | ⟨h2, h3, ⟨x, hx, hx2⟩, ⟨y, hy, hy2⟩⟩
    · obtain ⟨r, hr, h⟩ := List.any_eq_true.1 hs
      have := h2 r hr
      simp [this] at h
    · exact ⟨List.any_eq_true.2 ⟨x, hx, by simp [hx2.2]; omega⟩, List.any_eq_true.2 ⟨y, hy, by simp [hy2.2]; omega⟩⟩
/-- In a round. -/
theorem sets_round (l : List RT) (n : Int) (r : RT) (hr : r ∈ l) : (decide (r.1 ≤ n ∧ n ≤ r.2) = true → decide ((joinL l).1 ≤ n ∧ n ≤ (joinL l).2) = true) ∧ decide (r.2 < r.1 ∨ (joinL l).1 ≤ r.1 ∧ r.2 ≤ (joinL l).2) = true := by
  rcases ji_all l with ⟨h2, h3⟩ | ⟨h2, h3, -, -⟩
  · have := h2 r hr
    refine ⟨fun h => ?_, decide_eq_true (.inl this)⟩
    have := of_decide_eq_true h
    omega
  · have := h3 r hr
    refine ⟨fun h => decide_eq_true ?_, decide_eq_true this⟩
    have := of_decide_eq_true h
    omega
end Go.Proofs.Ytoogkjkbdicffaa
