/- The Go law PlanPlaces returns true for every pages, inodes and n: each inode and each data page has its own place as the document says. -/
import Derived.Test.YtdikhbdcdpcfgaaPPlanPlacesx3
namespace Go.Proofs.Ytdikhbdcdpcfgaa.Pure
open Go.RowKit Go.Proofs.Ytdikhbdcdpcfgaa.PPlanPlaces Go.Proofs.YtdikhbdcdpcfgaaW.PrintWords Go.Proofs.YtdikhbdcdpcfgaaW.PrintLast

theorem pp_data (a b : Int) (h1 : 1 ≤ b) (h2 : b ≤ 128) : plan_Plan_data.f a b = some (43 + (b + 1) / 2) := by
  unfold plan_Plan_data.f
  have e1 : wrap64 (b + 2) = b + 2 := by unfold wrap64; omega
  have e2 : wrap64 (b + 2 - 1) = b + 1 := by unfold wrap64; omega
  rw [e1, e2, Int.tdiv_eq_ediv_of_nonneg (by omega)]
  have e3 : wrap64 ((b + 1) / 2) = (b + 1) / 2 := by unfold wrap64; omega
  have e4 : wrap64 (43 + (b + 1) / 2) = 43 + (b + 1) / 2 := by unfold wrap64; omega
  rw [e3, e4]

def okB (a b : Int) : Prop := 1 ≤ b ∧ b ≤ 128 ∧ a ≤ 512 ∧ 43 + (b + 1) / 2 < a

theorem pp_right_yes (a b : Int) (h : okB a b) : plan_Plan_right.f a b = some true := by
  obtain ⟨h1, h2, h3, h4⟩ := h
  unfold plan_Plan_right.f
  rw [if_pos (by omega), if_pos (by omega), if_pos (by omega), pp_data a b h1 h2]
  simp only [Option.bind_some, Option.some.injEq, decide_eq_true_eq]
  omega

theorem pp_right_no (a b : Int) (h : ¬ okB a b) : plan_Plan_right.f a b = some false := by
  unfold okB at h
  unfold plan_Plan_right.f
  by_cases h1 : b ≥ 1
  · rw [if_pos h1]
    by_cases h2 : b ≤ 128
    · rw [if_pos h2]
      by_cases h3 : a ≤ 512
      · rw [if_pos h3, pp_data a b h1 h2]
        simp only [Option.bind_some, Option.some.injEq, decide_eq_false_iff_not]
        omega
      · rw [if_neg h3]
    · rw [if_neg h2]
  · rw [if_neg h1]

theorem pp_loop (a b : Int) (h1 : 1 ≤ b) (h2 : b ≤ 128) (d : Nat) : ∀ (k : Nat) (x y : Int), 0 ≤ y → y % 2 = 0 → y ≤ b + 1 → x = 43 + y / 2 → b + 1 - y ≤ d → d < k →
    narthexref08_New.l0 k a b x y = if a ≤ 43 + (b + 1) / 2 then some (0, 0, 0, false) else some (a, b, 43 + (b + 1) / 2, true) := by
  induction d with
  | zero =>
    intro k x y h0 he hy hx hd hk
    obtain ⟨k, rfl⟩ : ∃ m, k = m + 1 := ⟨k - 1, by omega⟩
    simp only [narthexref08_New.l0]
    have e : x = 43 + (b + 1) / 2 := by omega
    rw [if_neg (by omega), e]
  | succ d ih =>
    intro k x y h0 he hy hx hd hk
    obtain ⟨k, rfl⟩ : ∃ m, k = m + 1 := ⟨k - 1, by omega⟩
    simp only [narthexref08_New.l0]
    by_cases hlt : y < b
    · have e1 : wrap64 (x + 1) = x + 1 := by unfold wrap64; omega
      have e2 : wrap64 (y + 2) = y + 2 := by unfold wrap64; omega
      rw [if_pos hlt, e1, e2]
      exact ih k (x + 1) (y + 2) (by omega) (by omega) (by omega) (by omega) (by omega) (by omega)
    · have e : x = 43 + (b + 1) / 2 := by omega
      rw [if_neg hlt, e]

theorem pp_ref_yes (a b : Int) (h : okB a b) : narthexref08_New.f 1000 a b = some (a, b, 43 + (b + 1) / 2, true) := by
  obtain ⟨h1, h2, h3, h4⟩ := h
  unfold narthexref08_New.f
  rw [if_neg (by omega), if_neg (by omega)]
  have e : decide (a > 512) = false := by simp; omega
  rw [e]
  simp only [narthexref08_New.j0]
  rw [if_neg (by simp), pp_loop a b h1 h2 200 999 43 0 (by omega) (by omega) (by omega) (by omega) (by omega) (by omega), if_neg (by omega)]

theorem pp_ref_no (a b : Int) (h : ¬ okB a b) : narthexref08_New.f 1000 a b = some (0, 0, 0, false) := by
  unfold okB at h
  unfold narthexref08_New.f
  by_cases h1 : b < 1
  · rw [if_pos h1]; simp [narthexref08_New.j0]
  · rw [if_neg h1]
    by_cases h2 : b > 128
    · rw [if_pos h2]; simp [narthexref08_New.j0]
    · rw [if_neg h2]
      by_cases h3 : a > 512
      · rw [decide_eq_true h3]; simp [narthexref08_New.j0]
      · rw [decide_eq_false h3]; simp only [narthexref08_New.j0]
        rw [if_neg (by simp), pp_loop a b (by omega) (by omega) 200 999 43 0 (by omega) (by omega) (by omega) (by omega) (by omega) (by omega), if_pos (by omega)]

theorem pp_of (a b n : Int) (h : okB a b) : plan_Plan_of.f a b n = some n := by
  unfold plan_Plan_of.f; rw [pp_right_yes a b h]; rfl

theorem pp_Data (a b : Int) (h : okB a b) : plan_Plan_Data.f a b = some (43 + (b + 1) / 2) := by
  unfold plan_Plan_Data.f; rw [pp_data a b h.1 h.2.1]; simp only [Option.bind_some]; rw [pp_of _ _ _ h]; rfl

theorem pp_Room (a b : Int) (h : okB a b) : plan_Plan_Room.f a b = some (a - (43 + (b + 1) / 2)) := by
  unfold plan_Plan_Room.f; rw [pp_data a b h.1 h.2.1]; simp only [Option.bind_some]; rw [pp_of _ _ _ h]
  have e : wrap64 (a - (43 + (b + 1) / 2)) = a - (43 + (b + 1) / 2) := by have := h.2.2; have := h.1; have := h.2.1; unfold wrap64; omega
  rw [e]; rfl

theorem pp_Table (a b : Int) (h : okB a b) : plan_Plan_Table.f a b = some 43 := by
  unfold plan_Plan_Table.f; rw [pp_of _ _ _ h]; rfl

theorem pp_awake : narthexlaw08_awake.f = some true := by
  have h : okB 100 10 := by unfold okB; omega
  unfold narthexlaw08_awake.f plan_New.f plan_Plan_Journal.f plan_Plan_InodeBits.f plan_Plan_DataBits.f
  rw [pp_right_yes _ _ h]
  simp only [Option.bind_some, if_true]
  simp only [pp_of _ _ _ h, pp_Table _ _ h, pp_Data _ _ h, pp_Room _ _ h, Option.bind_some, if_true]
  rfl

theorem pp_Bit (a b n : Int) (h : okB a b) : plan_Plan_Bit.f a b n = some (if 43 + (b + 1) / 2 ≤ n ∧ n < a then n - (43 + (b + 1) / 2) else -1) := by
  unfold plan_Plan_Bit.f
  rw [pp_right_yes _ _ h, pp_Data _ _ h]
  simp only [Option.bind_some, if_true]
  obtain ⟨h1, h2, h3, h4⟩ := h
  by_cases c1 : n < 43 + (b + 1) / 2
  · rw [if_pos c1, if_neg (by omega)]
  · rw [if_neg c1]
    by_cases c2 : n ≥ a
    · rw [if_pos c2, if_neg (by omega)]
    · rw [if_neg c2, if_pos (by omega)]
      have e : wrap64 (n - (43 + (b + 1) / 2)) = n - (43 + (b + 1) / 2) := by unfold wrap64; omega
      rw [e]

theorem pp_At (a b n : Int) (h : okB a b) : plan_Plan_At.f a b n = some (if 0 ≤ n ∧ n < a - (43 + (b + 1) / 2) then 43 + (b + 1) / 2 + n else 0) := by
  unfold plan_Plan_At.f
  rw [pp_Room _ _ h, pp_Data _ _ h]
  simp only [Option.bind_some]
  obtain ⟨h1, h2, h3, h4⟩ := h
  by_cases c1 : n < 0
  · rw [if_pos c1, if_neg (by omega)]
  · rw [if_neg c1]
    by_cases c2 : n ≥ a - (43 + (b + 1) / 2)
    · rw [if_pos c2, if_neg (by omega)]
    · rw [if_neg c2, if_pos (by omega)]
      have e : wrap64 (43 + (b + 1) / 2 + n) = 43 + (b + 1) / 2 + n := by unfold wrap64; omega
      rw [e]

theorem pp_half (n : Int) (h1 : 1 ≤ n) (h2 : n ≤ 128) : wrap64 (43 + wrap64 (Int.tdiv (wrap64 (n - 1)) 2)) = 43 + (n - 1) / 2 ∧ Int.tmod (wrap64 (n - 1)) 2 = (n - 1) % 2 := by
  have e1 : wrap64 (n - 1) = n - 1 := by unfold wrap64; omega
  rw [e1, Int.tdiv_eq_ediv_of_nonneg (by omega), Int.tmod_eq_emod_of_nonneg (by omega)]
  constructor
  · have e2 : wrap64 ((n - 1) / 2) = (n - 1) / 2 := by unfold wrap64; omega
    rw [e2]; unfold wrap64; omega
  · rfl

theorem pp_Place (a b n : Int) (h : okB a b) : plan_Plan_Place.f a b n = some (if 1 ≤ n ∧ n ≤ b then (43 + (n - 1) / 2, (n - 1) % 2) else (0, 0)) := by
  unfold plan_Plan_Place.f
  rw [pp_right_yes _ _ h, pp_Table _ _ h]
  simp only [Option.bind_some, if_true]
  obtain ⟨h1, h2, h3, h4⟩ := h
  by_cases c1 : n < 1
  · rw [if_pos c1, if_neg (by omega)]
  · rw [if_neg c1]
    by_cases c2 : n > b
    · rw [if_pos c2, if_neg (by omega)]
    · rw [if_neg c2, if_pos (by omega), (pp_half n (by omega) (by omega)).1, (pp_half n (by omega) (by omega)).2]

theorem pp_j4 (a b n : Int) (h : okB a b) (k : Nat) (hk : 0 < k) (x13 x14 : Int) (x93 : Bool)
    (e13 : x13 = if 43 + (b + 1) / 2 ≤ n ∧ n < a then n - (43 + (b + 1) / 2) else -1) (e14 : x14 = 0)
    (e93 : x93 = decide (0 ≤ n ∧ n < a - (43 + (b + 1) / 2))) :
    narthexlaw08_PlanPlaces.j4 k n x13 x14 x93 a b a b (43 + (b + 1) / 2) = some true := by
  obtain ⟨k, rfl⟩ : ∃ m, k = m + 1 := ⟨k - 1, by omega⟩
  simp only [narthexlaw08_PlanPlaces.j4]
  rw [pp_Bit a b n h, pp_At a b n h, ← e13]
  simp only [Option.bind_some, if_true]
  by_cases c : 0 ≤ n ∧ n < a - (43 + (b + 1) / 2)
  · rw [e93, decide_eq_true c, if_pos rfl, if_pos c]
    have e : wrap64 (43 + (b + 1) / 2 + n) = 43 + (b + 1) / 2 + n := by obtain ⟨h1, h2, h3, h4⟩ := h; unfold wrap64; omega
    rw [e]; simp
  · rw [e93, decide_eq_false c, if_neg (by simp), if_neg c, e14]; rfl

theorem pp_j1 (a b n : Int) (h : okB a b) (k : Nat) (hk : 4 < k) :
    narthexlaw08_PlanPlaces.j1 k a n a b a b (43 + (b + 1) / 2) = some true := by
  obtain ⟨k, rfl⟩ : ∃ m, k = m + 4 := ⟨k - 4, by omega⟩
  have hw : wrap64 (a - (43 + (b + 1) / 2)) = a - (43 + (b + 1) / 2) := by obtain ⟨h1, h2, h3, h4⟩ := h; unfold wrap64; omega
  obtain ⟨h1, h2, h3, h4⟩ := h
  have h : okB a b := ⟨h1, h2, h3, h4⟩
  have last : ∀ x13, (x13 = if 43 + (b + 1) / 2 ≤ n ∧ n < a then n - (43 + (b + 1) / 2) else -1) →
      narthexlaw08_PlanPlaces.j3 (k + 1 + 1) a n x13 0 a b a b (43 + (b + 1) / 2) = some true := by
    intro x13 hx
    simp only [narthexlaw08_PlanPlaces.j3]
    by_cases c : n ≥ 0
    · rw [if_pos c, hw]
      exact pp_j4 a b n h (k + 1) (by omega) _ _ _ hx rfl (by congr 1; simp; omega)
    · rw [if_neg c]
      exact pp_j4 a b n h (k + 1) (by omega) _ _ _ hx rfl (by rw [eq_comm, decide_eq_false_iff_not]; omega)
  show narthexlaw08_PlanPlaces.j1 (k + 1 + 1 + 1 + 1) a n a b a b (43 + (b + 1) / 2) = some true
  simp only [narthexlaw08_PlanPlaces.j1]
  by_cases c1 : n ≥ 43 + (b + 1) / 2
  · rw [if_pos c1]
    simp only [narthexlaw08_PlanPlaces.j2]
    by_cases c2 : n < a
    · rw [decide_eq_true c2, if_pos rfl]
      refine last _ ?_
      rw [if_pos (by omega)]
      unfold wrap64; omega
    · rw [decide_eq_false c2, if_neg (by simp)]
      exact last _ (by rw [if_neg (by omega)])
  · rw [if_neg c1]
    simp only [narthexlaw08_PlanPlaces.j2]
    rw [if_neg (by simp)]
    exact last _ (by rw [if_neg (by omega)])

theorem pp_j0 (a b n : Int) (h : okB a b) (x45 : Bool) (e45 : x45 = decide (n < 1 ∨ n > b)) (x11 x12 : Int)
    (e11 : x11 = (if 1 ≤ n ∧ n ≤ b then (43 + (n - 1) / 2, (n - 1) % 2) else (0, 0)).1)
    (e12 : x12 = (if 1 ≤ n ∧ n ≤ b then (43 + (n - 1) / 2, (n - 1) % 2) else (0, 0)).2) :
    narthexlaw08_PlanPlaces.j0 1000 a n x11 x12 x45 a b a b (43 + (b + 1) / 2) = some true := by
  simp only [narthexlaw08_PlanPlaces.j0]
  rw [pp_j1 a b n h 999 (by omega)]
  by_cases c : n < 1 ∨ n > b
  · rw [e45, decide_eq_true c, if_pos rfl]
    rw [if_neg (by omega)] at e11 e12
    rw [e11, e12]; rfl
  · rw [e45, decide_eq_false c, if_neg (by simp)]
    obtain ⟨h1, h2, h3, h4⟩ := h
    rw [if_pos (by omega)] at e11 e12
    obtain ⟨g1, g2⟩ := pp_half n (by omega) (by omega)
    rw [g1, g2, e11, e12, if_pos rfl, if_pos rfl]
    dsimp only
    rw [if_neg (by omega)]

theorem PlanPlaces : narthexlaw08_PlanPlaces.Pure := by
  intro a b n _ _ _
  refine ⟨1000, ?_⟩
  unfold narthexlaw08_PlanPlaces.f
  rw [pp_awake]
  simp only [Option.bind_some, if_true]
  by_cases h : okB a b
  · unfold plan_New.f
    rw [pp_right_yes a b h, pp_ref_yes a b h]
    simp only [Option.bind_some, if_true]
    rw [pp_Place a b n h]
    simp only [Option.bind_some]
    by_cases c : n < 1
    · rw [if_pos c]; exact pp_j0 a b n h _ (by rw [eq_comm, decide_eq_true_eq]; exact .inl c) _ _ rfl rfl
    · rw [if_neg c]; exact pp_j0 a b n h _ (by congr 1; simp; omega) _ _ rfl rfl
  · unfold plan_New.f
    rw [pp_right_no a b h, pp_ref_no a b h]
    simp

end Go.Proofs.Ytdikhbdcdpcfgaa.Pure
