/- Chapter 17: the Set's At, Entries and Clear, walked. -/
import Derived.Test.YteohokidlopbnaaMkH
namespace Go.Proofs.Yteohokidlopbnaa
open Go.RowKit
set_option linter.unusedSimpArgs false
set_option linter.unusedVariables false

set_option maxHeartbeats 1000000 in
set_option maxRecDepth 100000 in
theorem setAt_neg (a : Option Addr) (n cap : Nat) (w : World) :
    Calls Try.prog 13 #[.slice a n cap, .int .i64 (-1)] w fun e w' => e = .returned (.pointer none) ∧ w' = w := by
  go_enter Try.func13, Try.ntmps13
  go_wp2
  go_ret
  exact ⟨rfl, rfl⟩
set_option maxHeartbeats 1000000 in
set_option maxRecDepth 100000 in
theorem setAt_past (a : Option Addr) (n cap : Nat) (w : World) (hn : n ≤ 1000) :
    Calls Try.prog 13 #[.slice a n cap, .int .i64 n] w fun e w' => e = .returned (.pointer none) ∧ w' = w := by
  have e1 : decide ((n : Int) < 0) = false := decide_eq_false (by omega)
  have e2 : decide ((n : Int) ≥ n) = true := decide_eq_true (by omega)
  have e3 : decide ((n : Int) ≤ n) = true := decide_eq_true (by omega)
  go_enter Try.func13, Try.ntmps13
  go_wp2
  go_ret
  exact ⟨rfl, rfl⟩
set_option maxHeartbeats 1000000 in
set_option maxRecDepth 100000 in
theorem setAt_is (a : Option Addr) (gs : List Nat) (cap i : Nat) (w : World) (hl : PtSl w a gs) (hi : i < gs.length) (hn : gs.length ≤ 1000) :
    Calls Try.prog 13 #[.slice a gs.length cap, .int .i64 i] w fun e w' => e = .returned (ptrv gs[i]) ∧ w' = w := by
  have e1 : decide ((i : Int) < 0) = false := decide_eq_false (by omega)
  have e2 : decide ((i : Int) ≥ gs.length) = false := decide_eq_false (by omega)
  have e3 : decide ((gs.length : Int) ≤ i) = false := decide_eq_false (by omega)
  have hi' : (i : Int) < gs.length := by omega
  obtain ⟨x, rfl, hc⟩ := hl i hi
  generalize gs[i] = g at hc ⊢
  go_enter Try.func13, Try.ntmps13
  go_wp2_with ((with_reducible refine ev_load1_at onePPS ?_); refine ⟨rfl, _, _, rfl, hc, ?_⟩; (simp only [Act.put, List.setIfInBounds_toArray, List.set_cons_succ, List.set_cons_zero]))
  go_ret
  exact ⟨rfl, rfl⟩

/-- How many entries the first k lists have. -/
def sumE (E : Nat → List EntT) : Nat → Nat
  | 0 => 0
  | k + 1 => sumE E k + (E k).length
theorem sumE_le {E : Nat → List EntT} (h : ∀ j, (E j).length ≤ 100) : ∀ k, sumE E k ≤ 100 * k
  | 0 => Nat.le_refl _
  | k + 1 => by have := sumE_le h k; have := h k; simp only [sumE]; omega
set_option maxHeartbeats 1000000 in
set_option maxRecDepth 100000 in
theorem entries_is (B : Nat) (a : Option Addr) (gs : List Nat) (cap : Nat) (E : Nat → List EntT) (w : World) (hl : PtSl w a gs) (hn : gs.length ≤ 4) (hM : ∀ (j : Nat) (h : j < gs.length), ∃ v K R, Mp w B gs[j] v K R (E j)) (hE : ∀ j, (E j).length ≤ 100) :
    Calls Try.prog 18 #[.slice a gs.length cap] w fun e w' => e = .returned (.int .i64 (sumE E gs.length)) ∧ Below w.heap.size w w' := by
  have hH := Lib.hid (And.intro hM hE)
  clear hM hE
  go_enter Try.func18, Try.ntmps18
  go_wp2
  go_loopw [3, 8] (fun s i wr => ∃ k : Nat, k ≤ gs.length ∧ i = .int .i64 k ∧ s = .int .i64 (sumE E k) ∧ Below w.heap.size w wr) (fun _ i _ => gs.length - (intOf i).toNat)
  case atStart => exact ⟨0, by omega, rfl, rfl, Below.refl _ _⟩
  case round =>
    obtain ⟨k, hk0, rfl, rfl, hbw⟩ := hrel
    by_cases h : k = gs.length
    · subst h
      go_wp2
      go_ret
      exact ⟨rfl, hbw⟩
    · have hlt : k < gs.length := by omega
      have hlt' : (k : Int) < gs.length := by omega
      obtain ⟨x, rfl, hc⟩ := hl.ext hbw k hlt
      obtain ⟨v, K, R, hM⟩ := hH.out.1 k hlt
      have hs1 := sumE_le hH.out.2 k
      have hs2 := hH.out.2 k
      have hL := fun w (hM : Mp w B (gs[k]'hlt) v K R (E k)) => len_is B (gs[k]'hlt) v K R (E k) w hM (by omega)
      have hMk := hM.ext hbw
      have hsum : sumE E (k + 1) = sumE E k + (E k).length := rfl
      generalize gs[k] = g at hc hL hMk
      clear hM
      generalize sumE E k = s0 at hsum hs1 ⊢
      generalize (E k).length = q at hsum hL hs2
      have hw : wrap64 ((s0 : Int) + q) = ((s0 + q : Nat) : Int) := by unfold wrap64; omega
      have HS := Lib.hid hsum
      clear hsum
      go_wp2_with (first
        | ((with_reducible refine ev_load1_at onePPS ?_); refine ⟨rfl, _, _, rfl, hc, ?_⟩; (simp only [Act.put, List.setIfInBounds_toArray, List.set_cons_succ, List.set_cons_zero]))
        | (go_at_call 10; refine (hL _ hMk).mono ?_; rintro e w2 ⟨rfl, hb2⟩))
      refine ⟨⟨k + 1, by omega, by simp, by rw [HS.out]; rfl, hbw.trans (hb2.mono hbw.size)⟩, by simp only [intOf]; omega⟩

set_option maxHeartbeats 1000000 in
set_option maxRecDepth 100000 in
theorem mclear_is (g : Nat) (K R : Int) (v : Value) (w : World) (hg : w.heap[g]? = some (.cells (mpc K R v) 61 (0, 0))) :
    Calls Try.prog 20 #[ptrv g] w fun e w' => e = .returned (.tuple #[]) ∧ w' = w.setRow g (mpc K R (.slice none 0 0)) := by
  have hone : (Value.slice none 0 0).oneCell' = true := rfl
  go_enter Try.func20, Try.ntmps20
  go_wp2_with ((with_reducible refine ev_mpstore ?_); refine ⟨rfl, _, _, _, _, .slice none 0 0, rfl, rfl, hone, hg, ?_⟩; simp only [Act.put])
  go_end0
  exact ⟨rfl, rfl⟩
/-- A map's block, with whatever row. -/
def MBlk (w : World) (g : Nat) : Prop := ∃ K R v, w.heap[g]? = some (.cells (mpc K R v) 61 (0, 0))
def MClr (w : World) (g : Nat) : Prop := ∃ K R, w.heap[g]? = some (.cells (mpc K R (.slice none 0 0)) 61 (0, 0))
set_option maxHeartbeats 1000000 in
set_option maxRecDepth 100000 in
theorem clear_is (B : Nat) (a : Option Addr) (gs : List Nat) (cap : Nat) (w : World) (hl : PtSl w a gs) (hn : gs.length ≤ 4) (hne : ∀ x, a = some x → x.block ∉ gs) (hnd : gs.Nodup) (hM : ∀ (j : Nat) (h : j < gs.length), MBlk w gs[j]) (hlo : ∀ g ∈ gs, B ≤ g) :
    Calls Try.prog 19 #[.slice a gs.length cap] w fun e w' => e = .returned (.tuple #[]) ∧ (∀ (j : Nat) (h : j < gs.length), MClr w' gs[j]) ∧ PtSl w' a gs ∧ Below B w w' := by
  have HN := Lib.hid (And.intro hne (And.intro hnd hlo))
  have HM := Lib.hid hM
  clear hne hnd hlo hM
  go_enter Try.func19, Try.ntmps19
  go_wp2
  go_loopw [6] (fun i wr => ∃ k : Nat, k ≤ gs.length ∧ i = .int .i64 k ∧ (∀ (j : Nat) (h : j < gs.length), j < k → MClr wr gs[j]) ∧ (∀ (j : Nat) (h : j < gs.length), k ≤ j → MBlk wr gs[j]) ∧ PtSl wr a gs ∧ Below B w wr) (fun i _ => gs.length - (intOf i).toNat)
  case atStart => exact ⟨0, by omega, rfl, fun j _ h => absurd h (by omega), fun j h _ => HM.out j h, hl, Below.refl _ _⟩
  case round =>
    obtain ⟨k, hk0, rfl, h1, h2, hlk, hbw⟩ := hrel
    have HR := Lib.hid (And.intro h1 h2)
    clear h1 h2
    by_cases h : k = gs.length
    · subst h
      go_wp2
      go_end0
      exact ⟨rfl, fun j hj => HR.out.1 j hj hj, hlk, hbw⟩
    · have hlt : k < gs.length := by omega
      have hlt' : (k : Int) < gs.length := by omega
      obtain ⟨x, rfl, hc⟩ := hlk k hlt
      obtain ⟨K, R, v, hg⟩ := HR.out.2 k hlt (Nat.le_refl _)
      have hC := mclear_is (gs[k]'hlt) K R v wr hg
      have hkeep : ∀ q, q ≠ gs[k] → (wr.setRow gs[k] (mpc K R (.slice none 0 0))).heap[q]? = wr.heap[q]? := fun q hq => setRow_other _ _ q _ hq
      have hself : MClr (wr.setRow gs[k] (mpc K R (.slice none 0 0))) gs[k] := ⟨K, R, setRow_heap _ _ _ _ _ _ hg⟩
      have hB : Below B wr (wr.setRow gs[k] (mpc K R (.slice none 0 0))) := ⟨rfl, rfl, rfl, by simp, fun q hq => hkeep q (by have := HN.out.2.2 gs[k] (List.getElem_mem hlt); omega)⟩
      have hdist : ∀ (j : Nat) (hj : j < gs.length), j ≠ k → gs[j] ≠ gs[k] := fun j hj hne e => hne ((List.getElem_inj HN.out.2.1).1 e)
      have hP : PtSl (wr.setRow gs[k] (mpc K R (.slice none 0 0))) (some x) gs := fun j hj => by
        obtain ⟨y, e, hy⟩ := hlk j hj
        refine ⟨y, e, ?_⟩
        have hxb : (y.add (j * 1)).block = x.block := by
          obtain rfl := Option.some.inj e
          rw [Addr.add]; split <;> rfl
        rw [← hy]
        refine World.cell?_of_block (hkeep _ fun e2 => HN.out.1 x rfl ?_)
        rw [Nat.mul_one] at hxb
        rw [← hxb, e2]
        exact List.getElem_mem hlt
      have hnew : (∀ (j : Nat) (h : j < gs.length), j < k + 1 → MClr (wr.setRow gs[k] (mpc K R (.slice none 0 0))) gs[j]) ∧ (∀ (j : Nat) (h : j < gs.length), k + 1 ≤ j → MBlk (wr.setRow gs[k] (mpc K R (.slice none 0 0))) gs[j]) := by
        refine ⟨fun j hj hjk => ?_, fun j hj hjk => ?_⟩
        · by_cases e : j = k
          · subst e; exact hself
          · obtain ⟨K', R', h'⟩ := HR.out.1 j hj (by omega)
            exact ⟨K', R', (hkeep _ (hdist j hj e)).trans h'⟩
        · obtain ⟨K', R', v', h'⟩ := HR.out.2 j hj (by omega)
          exact ⟨K', R', v', (hkeep _ (hdist j hj (by omega))).trans h'⟩
      generalize wr.setRow gs[k] (mpc K R (.slice none 0 0)) = wS at hC hB hP hnew
      have HF := Lib.hid (And.intro hnew (And.intro hP (hbw.trans hB)))
      clear hnew hP hB hself hkeep hdist HR
      go_wp2_with (first
        | ((with_reducible refine ev_load1_at onePPS ?_); refine ⟨rfl, _, _, rfl, hc, ?_⟩; (simp only [Act.put, List.setIfInBounds_toArray, List.set_cons_succ, List.set_cons_zero]))
        | (go_at_call 20; refine hC.mono ?_; rintro e w2 ⟨rfl, hw2⟩; subst w2))
      exact ⟨⟨k + 1, by omega, by simp, HF.out.1.1, HF.out.1.2, HF.out.2.1, HF.out.2.2⟩, by simp only [intOf]; omega⟩
end Go.Proofs.Yteohokidlopbnaa
