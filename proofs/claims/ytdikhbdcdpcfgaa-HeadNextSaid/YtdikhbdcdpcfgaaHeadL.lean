/- Plain laws on a head's page. -/
import Derived.Test.YtdikhbdcdpcfgaaHeadC
import Derived.Test.YtdikhbdcdpcfgaaHeadP
import Derived.Test.YtdikhbdcdpcfgaaPgLaws
namespace Go.Proofs.Ytdikhbdcdpcfgaa
open Go.RowKit
set_option linter.unusedVariables false

theorem pset_in (p p' : Nat → UInt8) (a s n : Int) (h : numPg a s) (i : Nat) (h1 : a ≤ i) (h2 : (i : Int) < a + s) : pset p a s n i = pset p' a s n i := by
  rw [pset, if_pos h, pset, if_pos h]
  obtain ⟨k1, k2, k3, k4⟩ := h
  have e : i = a.toNat + s.toNat - 1 - (a.toNat + s.toNat - 1 - i) := by omega
  rw [e, sets_in p _ _ n _ (Nat.le_refl _) _ (by omega), sets_in p' _ _ n _ (Nat.le_refl _) _ (by omega)]

theorem gets_congr {p q : Nat → UInt8} (a : Nat) : ∀ k, (∀ i, a ≤ i → i < a + k → p i = q i) → gets p a k = gets q a k
  | 0, _ => rfl
  | k + 1, h => by
    simp only [gets]
    rw [gets_congr a k (fun i h1 h2 => h i h1 (by omega)), h (a + k) (by omega) (by omega)]

theorem pget_congr {p q : Nat → UInt8} (a s : Int) (h : ∀ i : Nat, a ≤ i → (i : Int) < a + s → p i = q i) : pget p a s = pget q a s := by
  unfold pget
  split
  · rename_i hn
    obtain ⟨k1, k2, k3, k4⟩ := hn
    exact gets_congr _ _ fun i h1 h2 => h i (by omega) (by omega)
  · rfl

theorem pget_pset_out (p : Nat → UInt8) (a s b t n : Int) (h : b + t ≤ a ∨ a + s ≤ b) : pget (pset p a s n) b t = pget p b t :=
  pget_congr _ _ fun i h1 h2 => pset_out p a s n i (by omega)

theorem one_byte (p : Nat → UInt8) (n : Int) (h0 : 0 ≤ n) (h1 : n < 256) : pset p 4 1 n 4 = b8 n := by
  have : pset p 4 1 n = sets p 4 1 n 1 := by rw [pset, if_pos (by unfold numPg; omega)]; rfl
  rw [this]
  have := sets_in p 4 1 n 1 (Nat.le_refl _) 0 (by decide)
  simpa using this

theorem hput_seq (q : Int) (l : Bool) (c s : Int) (h0 : 0 ≤ q) (h1 : q < 4294967296) : pget (hPut q l c s) 0 4 = q ∧ pget (hPut q l c s) 60 4 = q := by
  unfold hPut
  constructor
  · rw [pget_pset_out _ _ _ _ _ _ (by omega), pget_pset_out _ _ _ _ _ _ (by omega), pget_pset_out _ _ _ _ _ _ (by omega), pget_pset_out _ _ _ _ _ _ (by omega), pget_pset _ _ _ _ (by unfold numPg; omega)]
    exact Int.emod_eq_of_lt h0 (by simpa using h1)
  · rw [pget_pset _ _ _ _ (by unfold numPg; omega)]
    exact Int.emod_eq_of_lt h0 (by simpa using h1)

theorem hput_live (q : Int) (l : Bool) (c s : Int) : hPut q l c s 4 = if l then 1 else 0 := by
  unfold hPut
  rw [pset_out _ _ _ _ _ (by omega), pset_out _ _ _ _ _ (by omega), pset_out _ _ _ _ _ (by omega), one_byte _ _ (by split <;> omega) (by split <;> omega)]
  cases l <;> rfl

theorem hput_count (q : Int) (l : Bool) (c s : Int) (h0 : 0 ≤ c) (h1 : c < 65536) : pget (hPut q l c s) 5 2 = c := by
  unfold hPut
  rw [pget_pset_out _ _ _ _ _ _ (by omega), pget_pset_out _ _ _ _ _ _ (by omega), pget_pset _ _ _ _ (by unfold numPg; omega)]
  exact Int.emod_eq_of_lt h0 (by simpa using h1)

theorem hput_sum (q : Int) (l : Bool) (c s : Int) (h0 : 0 ≤ s) (h1 : s < 4294967296) : pget (hPut q l c s) 7 4 = s := by
  unfold hPut
  rw [pget_pset_out _ _ _ _ _ _ (by omega), pget_pset _ _ _ _ (by unfold numPg; omega)]
  exact Int.emod_eq_of_lt h0 (by simpa using h1)

theorem hRight_bd {q : Int} {l : Bool} {c s : Int} (h : hRight q l c s = true) : 0 ≤ q ∧ q < 4294967296 ∧ 0 ≤ c ∧ c < 65536 := by
  unfold hRight at h
  simp only [Bool.and_eq_true, decide_eq_true_eq] at h
  obtain ⟨h1, h2⟩ := h
  cases l with
  | true => simp at h2; omega
  | false => simp at h2; omega

/-- A right head comes back from its page. -/
theorem hput_back {q : Int} {l : Bool} {c s : Int} (h : hRight q l c s = true) (hs : 0 ≤ s ∧ s < 4294967296) :
    pget (hPut q l c s) 0 4 = q ∧ (((hPut q l c s 4).toNat : Int) == 1) = l ∧ pget (hPut q l c s) 5 2 = c ∧ pget (hPut q l c s) 7 4 = s := by
  obtain ⟨h1, h2, h3, h4⟩ := hRight_bd h
  refine ⟨(hput_seq q l c s h1 h2).1, ?_, hput_count q l c s h3 h4, hput_sum q l c s hs.1 hs.2⟩
  rw [hput_live]
  cases l <;> rfl

theorem pgEq_refl (p : Nat → UInt8) : pgEq p p = true := (pgEq_iff p p).2 fun _ _ => rfl

theorem decode_hput {q : Int} {l : Bool} {c s : Int} (h : hRight q l c s = true) (hs : 0 ≤ s ∧ s < 4294967296) (w : World) :
    Calls Try.prog 33 #[.agg (pgc (hPut q l c s))] w fun e w' => e = .returned (.tuple #[.agg (hdc q l c s), .bool true]) ∧ Below w.heap.size w w' := by
  obtain ⟨e1, e2, e3, e4⟩ := hput_back h hs
  have := decode_good (hPut q l c s) w (by rw [e1, e2, e3, e4]; exact h) (by rw [e1, e2, e3, e4]; exact pgEq_refl _)
  rwa [e1, e2, e3, e4] at this

theorem hput_rput (q : Int) (l : Bool) (c s : Int) : pgEq (hPut q l c s) (rPut q l c s) = true := by
  rw [pgEq_iff]
  intro i hi
  have N04 : numPg 0 4 := by unfold numPg; omega
  have N604 : numPg 60 4 := by unfold numPg; omega
  have N52 : numPg 5 2 := by unfold numPg; omega
  have N74 : numPg 7 4 := by unfold numPg; omega
  by_cases k4 : i = 4
  · subst k4
    rw [hput_live]
    unfold rPut
    rw [pset_out _ _ _ _ _ (by omega), pset_out _ _ _ _ _ (by omega), pset_out _ _ _ _ _ (by omega), pset_out _ _ _ _ _ (by omega)]
    cases l <;> rfl
  unfold hPut rPut
  by_cases a0 : i < 4
  · rw [pset_out _ 60 _ _ _ (by omega), pset_out _ 7 _ _ _ (by omega), pset_out _ 5 _ _ _ (by omega), pset_out _ 4 _ _ _ (by omega), pset_out _ 7 _ _ _ (by omega), pset_out _ 5 _ _ _ (by omega), pset_out _ 60 _ _ _ (by omega)]
    exact pset_in _ _ _ _ _ N04 i (by omega) (by omega)
  by_cases a1 : 60 ≤ i
  · rw [pset_out _ 7 4 s i (by omega), pset_out _ 5 2 c i (by omega)]
    exact pset_in _ _ _ _ _ N604 i (by omega) (by omega)
  by_cases a2 : i < 7
  · rw [pset_out _ 60 _ _ _ (by omega), pset_out _ 7 _ _ _ (by omega), pset_out _ 7 _ _ _ (by omega)]
    exact pset_in _ _ _ _ _ N52 i (by omega) (by omega)
  by_cases a3 : i < 11
  · rw [pset_out _ 60 _ _ _ (by omega)]
    exact pset_in _ _ _ _ _ N74 i (by omega) (by omega)
  rw [pset_out _ 60 _ _ _ (by omega), pset_out _ 7 _ _ _ (by omega), pset_out _ 5 _ _ _ (by omega), pset_out _ 4 _ _ _ (by omega), pset_out _ 0 _ _ _ (by omega), pset_out _ 7 _ _ _ (by omega), pset_out _ 5 _ _ _ (by omega), pset_out _ 60 _ _ _ (by omega), pset_out _ 0 _ _ _ (by omega)]
  cases l with
  | true => simp only [if_true, upd]; rw [if_neg (by omega)]
  | false => rfl
end Go.Proofs.Ytdikhbdcdpcfgaa
