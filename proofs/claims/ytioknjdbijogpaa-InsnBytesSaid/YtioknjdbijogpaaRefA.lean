/- Chapter 16's reference: among, Known, walked. -/
import Derived.Test.YtioknjdbijogpaaInsC
import Derived.Deep.DeepCutAuto
import Derived.Deep.CutBlock
namespace Go.Proofs.Ytioknjdbijogpaa
open Go.RowKit
set_option linter.unusedSimpArgs false
set_option linter.unusedVariables false

/-- Is a number one of a list? -/
def inL (n : Int) (l : List Int) : Bool := l.any fun x => x == n
theorem inL_take (n : Int) (l : List Int) (k : Nat) (h : k < l.length) : inL n (l.take (k + 1)) = (inL n (l.take k) || l[k] == n) := by
  unfold inL
  rw [List.take_succ_eq_append_getElem h, List.any_append]
  simp
theorem inL_of_take (n : Int) (l : List Int) (k : Nat) (h : inL n (l.take k) = true) : inL n l = true := by
  unfold inL at *
  rw [List.any_eq_true] at *
  obtain ⟨x, hx, hn⟩ := h
  exact ⟨x, List.mem_of_mem_take hx, hn⟩

set_option maxHeartbeats 1000000 in
set_option maxRecDepth 100000 in
theorem among_is (n : Int) (l : List Int) (g : Nat) (T : TypeId) (w : World) (hg : w.heap[g]? = some (.cells (l.map fun x => Value.int .i64 x).toArray T (0, 0))) (hl : l.length ≤ 100) :
    Calls Try.prog 46 #[.int .i64 n, .slice (some ⟨g, 0, none⟩) l.length l.length] w fun e w' => e = .returned (.bool (inL n l)) ∧ w' = w := by
  have hcells : ∀ k (h : k < l.length), w.cell? ⟨g, k, none⟩ = some (.int .i64 l[k]) := fun k h => by
    rw [cell_of_row w g k _ _ _ hg]
    simp [h]
  have hsn := inL_take n l
  have hz := inL_of_take n l
  have HH := Lib.hid (And.intro hcells (And.intro hsn hz))
  clear hcells hsn hz hg
  go_enter Try.func46, Try.ntmps46
  go_wp2
  go_loop [5] (fun i => ∃ k : Nat, k ≤ l.length ∧ i = .int .i64 k ∧ inL n (l.take k) = false) (fun i => l.length - (intOf i).toNat)
  case atStart => exact ⟨0, by omega, rfl, rfl⟩
  case round =>
    obtain ⟨k, hk, rfl, hno⟩ := hrel
    have hno := Lib.hid hno
    by_cases h : k = l.length
    · subst h
      go_wp2
      go_ret
      have := hno.out
      rw [List.take_length] at this
      rw [this]
      exact ⟨rfl, rfl⟩
    · have hlt : k < l.length := by omega
      have hlt' : (k : Int) < l.length := by omega
      have hc := HH.out.1 k hlt
      have hs := HH.out.2.1 k hlt
      rw [hno.out, Bool.false_or] at hs
      generalize l[k] = v at hc hs
      by_cases hv : v = n
      · have e1 : (v == n) = true := beq_iff_eq.2 hv
        rw [e1] at hs
        have hall := Lib.hid (HH.out.2.2 _ hs)
        clear hs hv
        go_wp2
        go_ret
        rw [hall.out]
        exact ⟨rfl, rfl⟩
      · have e1 : (v == n) = false := beq_eq_false_iff_ne.2 hv
        rw [e1] at hs
        have hs := Lib.hid hs
        clear hv
        go_wp2
        exact ⟨⟨k + 1, by omega, by simp, hs.out⟩, by simp only [intOf]; omega⟩

/-- Which Ops there are. -/
theorem shp_k (op : Int) : (shp op).2.2.2.2 = decide (op = 1 ∨ op = 2 ∨ (16 ≤ op ∧ op ≤ 27) ∨ (32 ≤ op ∧ op ≤ 40) ∨ (48 ≤ op ∧ op ≤ 56) ∨ op = 64 ∨ op = 80) := by
  by_cases h : 0 ≤ op ∧ op ≤ 80
  · obtain ⟨n, rfl⟩ := Int.eq_ofNat_of_zero_le h.1
    have key : ∀ n : Fin 81, (shp ((n.val : Nat) : Int)).2.2.2.2 = decide (((n.val : Nat) : Int) = 1 ∨ ((n.val : Nat) : Int) = 2 ∨ (16 ≤ ((n.val : Nat) : Int) ∧ ((n.val : Nat) : Int) ≤ 27) ∨ (32 ≤ ((n.val : Nat) : Int) ∧ ((n.val : Nat) : Int) ≤ 40) ∨ (48 ≤ ((n.val : Nat) : Int) ∧ ((n.val : Nat) : Int) ≤ 56) ∨ ((n.val : Nat) : Int) = 64 ∨ ((n.val : Nat) : Int) = 80) := by decide +kernel
    exact key ⟨n, by omega⟩
  · have hs : shp op = (false, false, false, false, false) := by
      unfold shp
      repeat (rw [if_neg (by omega)])
    rw [hs]
    exact (decide_eq_false (by omega)).symm

set_option maxHeartbeats 4000000 in
set_option maxRecDepth 100000 in
theorem known_is (op : Int) (w : World) : Calls Try.prog 45 #[.int .i64 op] w fun e w' => e = .returned (.bool (shp op).2.2.2.2) ∧ w' = w := by
  rcases (by omega : (op < 1) ∨ (op = 1) ∨ (op = 2) ∨ (3 ≤ op ∧ op < 16) ∨ (16 ≤ op ∧ op ≤ 27) ∨ (28 ≤ op ∧ op < 32) ∨ (32 ≤ op ∧ op ≤ 40) ∨ (41 ≤ op ∧ op < 48) ∨ (48 ≤ op ∧ op ≤ 56) ∨ (57 ≤ op ∧ op < 64) ∨ (op = 64) ∨ (65 ≤ op ∧ op < 80) ∨ (op = 80) ∨ (80 < op)) with c | c | c | c | c | c | c | c | c | c | c | c | c | c
  · have hk : (shp op).2.2.2.2 = false := by rw [shp_k]; exact decide_eq_false (by omega)
    rw [hk]
    clear hk
    have e1 : (op == 1) = false := beq_eq_false_iff_ne.2 (by omega)
    have e2 : (op == 2) = false := beq_eq_false_iff_ne.2 (by omega)
    have e64 : (op == 64) = false := beq_eq_false_iff_ne.2 (by omega)
    have e80 : (op == 80) = false := beq_eq_false_iff_ne.2 (by omega)
    have e16 : decide (op ≥ 16) = false := decide_eq_false (by omega)
    have g16 : decide (16 ≤ op) = false := e16
    have e32 : decide (op ≥ 32) = false := decide_eq_false (by omega)
    have g32 : decide (32 ≤ op) = false := e32
    have e48 : decide (op ≥ 48) = false := decide_eq_false (by omega)
    have g48 : decide (48 ≤ op) = false := e48
    have e27 : decide (op ≤ 27) = true := decide_eq_true (by omega)
    have e40 : decide (op ≤ 40) = true := decide_eq_true (by omega)
    have e56 : decide (op ≤ 56) = true := decide_eq_true (by omega)
    clear c
    go_enter Try.func45, Try.ntmps45
    go_wp2
    go_ret
    exact ⟨rfl, rfl⟩
  · have hk : (shp op).2.2.2.2 = true := by rw [shp_k]; exact decide_eq_true (by omega)
    rw [hk]
    clear hk
    have e1 : (op == 1) = true := beq_iff_eq.2 (by omega)
    have e2 : (op == 2) = false := beq_eq_false_iff_ne.2 (by omega)
    have e64 : (op == 64) = false := beq_eq_false_iff_ne.2 (by omega)
    have e80 : (op == 80) = false := beq_eq_false_iff_ne.2 (by omega)
    have e16 : decide (op ≥ 16) = false := decide_eq_false (by omega)
    have g16 : decide (16 ≤ op) = false := e16
    have e32 : decide (op ≥ 32) = false := decide_eq_false (by omega)
    have g32 : decide (32 ≤ op) = false := e32
    have e48 : decide (op ≥ 48) = false := decide_eq_false (by omega)
    have g48 : decide (48 ≤ op) = false := e48
    have e27 : decide (op ≤ 27) = true := decide_eq_true (by omega)
    have e40 : decide (op ≤ 40) = true := decide_eq_true (by omega)
    have e56 : decide (op ≤ 56) = true := decide_eq_true (by omega)
    clear c
    go_enter Try.func45, Try.ntmps45
    go_wp2
    go_ret
    exact ⟨rfl, rfl⟩
  · have hk : (shp op).2.2.2.2 = true := by rw [shp_k]; exact decide_eq_true (by omega)
    rw [hk]
    clear hk
    have e1 : (op == 1) = false := beq_eq_false_iff_ne.2 (by omega)
    have e2 : (op == 2) = true := beq_iff_eq.2 (by omega)
    have e64 : (op == 64) = false := beq_eq_false_iff_ne.2 (by omega)
    have e80 : (op == 80) = false := beq_eq_false_iff_ne.2 (by omega)
    have e16 : decide (op ≥ 16) = false := decide_eq_false (by omega)
    have g16 : decide (16 ≤ op) = false := e16
    have e32 : decide (op ≥ 32) = false := decide_eq_false (by omega)
    have g32 : decide (32 ≤ op) = false := e32
    have e48 : decide (op ≥ 48) = false := decide_eq_false (by omega)
    have g48 : decide (48 ≤ op) = false := e48
    have e27 : decide (op ≤ 27) = true := decide_eq_true (by omega)
    have e40 : decide (op ≤ 40) = true := decide_eq_true (by omega)
    have e56 : decide (op ≤ 56) = true := decide_eq_true (by omega)
    clear c
    go_enter Try.func45, Try.ntmps45
    go_wp2
    go_ret
    exact ⟨rfl, rfl⟩
  · have hk : (shp op).2.2.2.2 = false := by rw [shp_k]; exact decide_eq_false (by omega)
    rw [hk]
    clear hk
    have e1 : (op == 1) = false := beq_eq_false_iff_ne.2 (by omega)
    have e2 : (op == 2) = false := beq_eq_false_iff_ne.2 (by omega)
    have e64 : (op == 64) = false := beq_eq_false_iff_ne.2 (by omega)
    have e80 : (op == 80) = false := beq_eq_false_iff_ne.2 (by omega)
    have e16 : decide (op ≥ 16) = false := decide_eq_false (by omega)
    have g16 : decide (16 ≤ op) = false := e16
    have e32 : decide (op ≥ 32) = false := decide_eq_false (by omega)
    have g32 : decide (32 ≤ op) = false := e32
    have e48 : decide (op ≥ 48) = false := decide_eq_false (by omega)
    have g48 : decide (48 ≤ op) = false := e48
    have e27 : decide (op ≤ 27) = true := decide_eq_true (by omega)
    have e40 : decide (op ≤ 40) = true := decide_eq_true (by omega)
    have e56 : decide (op ≤ 56) = true := decide_eq_true (by omega)
    clear c
    go_enter Try.func45, Try.ntmps45
    go_wp2
    go_ret
    exact ⟨rfl, rfl⟩
  · have hk : (shp op).2.2.2.2 = true := by rw [shp_k]; exact decide_eq_true (by omega)
    rw [hk]
    clear hk
    have e1 : (op == 1) = false := beq_eq_false_iff_ne.2 (by omega)
    have e2 : (op == 2) = false := beq_eq_false_iff_ne.2 (by omega)
    have e64 : (op == 64) = false := beq_eq_false_iff_ne.2 (by omega)
    have e80 : (op == 80) = false := beq_eq_false_iff_ne.2 (by omega)
    have e16 : decide (op ≥ 16) = true := decide_eq_true (by omega)
    have g16 : decide (16 ≤ op) = true := e16
    have e32 : decide (op ≥ 32) = false := decide_eq_false (by omega)
    have g32 : decide (32 ≤ op) = false := e32
    have e48 : decide (op ≥ 48) = false := decide_eq_false (by omega)
    have g48 : decide (48 ≤ op) = false := e48
    have e27 : decide (op ≤ 27) = true := decide_eq_true (by omega)
    have e40 : decide (op ≤ 40) = true := decide_eq_true (by omega)
    have e56 : decide (op ≤ 56) = true := decide_eq_true (by omega)
    clear c
    go_enter Try.func45, Try.ntmps45
    go_wp2
    go_ret
    exact ⟨rfl, rfl⟩
  · have hk : (shp op).2.2.2.2 = false := by rw [shp_k]; exact decide_eq_false (by omega)
    rw [hk]
    clear hk
    have e1 : (op == 1) = false := beq_eq_false_iff_ne.2 (by omega)
    have e2 : (op == 2) = false := beq_eq_false_iff_ne.2 (by omega)
    have e64 : (op == 64) = false := beq_eq_false_iff_ne.2 (by omega)
    have e80 : (op == 80) = false := beq_eq_false_iff_ne.2 (by omega)
    have e16 : decide (op ≥ 16) = true := decide_eq_true (by omega)
    have g16 : decide (16 ≤ op) = true := e16
    have e32 : decide (op ≥ 32) = false := decide_eq_false (by omega)
    have g32 : decide (32 ≤ op) = false := e32
    have e48 : decide (op ≥ 48) = false := decide_eq_false (by omega)
    have g48 : decide (48 ≤ op) = false := e48
    have e27 : decide (op ≤ 27) = false := decide_eq_false (by omega)
    have e40 : decide (op ≤ 40) = true := decide_eq_true (by omega)
    have e56 : decide (op ≤ 56) = true := decide_eq_true (by omega)
    clear c
    go_enter Try.func45, Try.ntmps45
    go_wp2
    go_ret
    exact ⟨rfl, rfl⟩
  · have hk : (shp op).2.2.2.2 = true := by rw [shp_k]; exact decide_eq_true (by omega)
    rw [hk]
    clear hk
    have e1 : (op == 1) = false := beq_eq_false_iff_ne.2 (by omega)
    have e2 : (op == 2) = false := beq_eq_false_iff_ne.2 (by omega)
    have e64 : (op == 64) = false := beq_eq_false_iff_ne.2 (by omega)
    have e80 : (op == 80) = false := beq_eq_false_iff_ne.2 (by omega)
    have e16 : decide (op ≥ 16) = true := decide_eq_true (by omega)
    have g16 : decide (16 ≤ op) = true := e16
    have e32 : decide (op ≥ 32) = true := decide_eq_true (by omega)
    have g32 : decide (32 ≤ op) = true := e32
    have e48 : decide (op ≥ 48) = false := decide_eq_false (by omega)
    have g48 : decide (48 ≤ op) = false := e48
    have e27 : decide (op ≤ 27) = false := decide_eq_false (by omega)
    have e40 : decide (op ≤ 40) = true := decide_eq_true (by omega)
    have e56 : decide (op ≤ 56) = true := decide_eq_true (by omega)
    clear c
    go_enter Try.func45, Try.ntmps45
    go_wp2
    go_ret
    exact ⟨rfl, rfl⟩
  · have hk : (shp op).2.2.2.2 = false := by rw [shp_k]; exact decide_eq_false (by omega)
    rw [hk]
    clear hk
    have e1 : (op == 1) = false := beq_eq_false_iff_ne.2 (by omega)
    have e2 : (op == 2) = false := beq_eq_false_iff_ne.2 (by omega)
    have e64 : (op == 64) = false := beq_eq_false_iff_ne.2 (by omega)
    have e80 : (op == 80) = false := beq_eq_false_iff_ne.2 (by omega)
    have e16 : decide (op ≥ 16) = true := decide_eq_true (by omega)
    have g16 : decide (16 ≤ op) = true := e16
    have e32 : decide (op ≥ 32) = true := decide_eq_true (by omega)
    have g32 : decide (32 ≤ op) = true := e32
    have e48 : decide (op ≥ 48) = false := decide_eq_false (by omega)
    have g48 : decide (48 ≤ op) = false := e48
    have e27 : decide (op ≤ 27) = false := decide_eq_false (by omega)
    have e40 : decide (op ≤ 40) = false := decide_eq_false (by omega)
    have e56 : decide (op ≤ 56) = true := decide_eq_true (by omega)
    clear c
    go_enter Try.func45, Try.ntmps45
    go_wp2
    go_ret
    exact ⟨rfl, rfl⟩
  · have hk : (shp op).2.2.2.2 = true := by rw [shp_k]; exact decide_eq_true (by omega)
    rw [hk]
    clear hk
    have e1 : (op == 1) = false := beq_eq_false_iff_ne.2 (by omega)
    have e2 : (op == 2) = false := beq_eq_false_iff_ne.2 (by omega)
    have e64 : (op == 64) = false := beq_eq_false_iff_ne.2 (by omega)
    have e80 : (op == 80) = false := beq_eq_false_iff_ne.2 (by omega)
    have e16 : decide (op ≥ 16) = true := decide_eq_true (by omega)
    have g16 : decide (16 ≤ op) = true := e16
    have e32 : decide (op ≥ 32) = true := decide_eq_true (by omega)
    have g32 : decide (32 ≤ op) = true := e32
    have e48 : decide (op ≥ 48) = true := decide_eq_true (by omega)
    have g48 : decide (48 ≤ op) = true := e48
    have e27 : decide (op ≤ 27) = false := decide_eq_false (by omega)
    have e40 : decide (op ≤ 40) = false := decide_eq_false (by omega)
    have e56 : decide (op ≤ 56) = true := decide_eq_true (by omega)
    clear c
    go_enter Try.func45, Try.ntmps45
    go_wp2
    go_ret
    exact ⟨rfl, rfl⟩
  · have hk : (shp op).2.2.2.2 = false := by rw [shp_k]; exact decide_eq_false (by omega)
    rw [hk]
    clear hk
    have e1 : (op == 1) = false := beq_eq_false_iff_ne.2 (by omega)
    have e2 : (op == 2) = false := beq_eq_false_iff_ne.2 (by omega)
    have e64 : (op == 64) = false := beq_eq_false_iff_ne.2 (by omega)
    have e80 : (op == 80) = false := beq_eq_false_iff_ne.2 (by omega)
    have e16 : decide (op ≥ 16) = true := decide_eq_true (by omega)
    have g16 : decide (16 ≤ op) = true := e16
    have e32 : decide (op ≥ 32) = true := decide_eq_true (by omega)
    have g32 : decide (32 ≤ op) = true := e32
    have e48 : decide (op ≥ 48) = true := decide_eq_true (by omega)
    have g48 : decide (48 ≤ op) = true := e48
    have e27 : decide (op ≤ 27) = false := decide_eq_false (by omega)
    have e40 : decide (op ≤ 40) = false := decide_eq_false (by omega)
    have e56 : decide (op ≤ 56) = false := decide_eq_false (by omega)
    clear c
    go_enter Try.func45, Try.ntmps45
    go_wp2
    go_ret
    exact ⟨rfl, rfl⟩
  · have hk : (shp op).2.2.2.2 = true := by rw [shp_k]; exact decide_eq_true (by omega)
    rw [hk]
    clear hk
    have e1 : (op == 1) = false := beq_eq_false_iff_ne.2 (by omega)
    have e2 : (op == 2) = false := beq_eq_false_iff_ne.2 (by omega)
    have e64 : (op == 64) = true := beq_iff_eq.2 (by omega)
    have e80 : (op == 80) = false := beq_eq_false_iff_ne.2 (by omega)
    have e16 : decide (op ≥ 16) = true := decide_eq_true (by omega)
    have g16 : decide (16 ≤ op) = true := e16
    have e32 : decide (op ≥ 32) = true := decide_eq_true (by omega)
    have g32 : decide (32 ≤ op) = true := e32
    have e48 : decide (op ≥ 48) = true := decide_eq_true (by omega)
    have g48 : decide (48 ≤ op) = true := e48
    have e27 : decide (op ≤ 27) = false := decide_eq_false (by omega)
    have e40 : decide (op ≤ 40) = false := decide_eq_false (by omega)
    have e56 : decide (op ≤ 56) = false := decide_eq_false (by omega)
    clear c
    go_enter Try.func45, Try.ntmps45
    go_wp2
    go_ret
    exact ⟨rfl, rfl⟩
  · have hk : (shp op).2.2.2.2 = false := by rw [shp_k]; exact decide_eq_false (by omega)
    rw [hk]
    clear hk
    have e1 : (op == 1) = false := beq_eq_false_iff_ne.2 (by omega)
    have e2 : (op == 2) = false := beq_eq_false_iff_ne.2 (by omega)
    have e64 : (op == 64) = false := beq_eq_false_iff_ne.2 (by omega)
    have e80 : (op == 80) = false := beq_eq_false_iff_ne.2 (by omega)
    have e16 : decide (op ≥ 16) = true := decide_eq_true (by omega)
    have g16 : decide (16 ≤ op) = true := e16
    have e32 : decide (op ≥ 32) = true := decide_eq_true (by omega)
    have g32 : decide (32 ≤ op) = true := e32
    have e48 : decide (op ≥ 48) = true := decide_eq_true (by omega)
    have g48 : decide (48 ≤ op) = true := e48
    have e27 : decide (op ≤ 27) = false := decide_eq_false (by omega)
    have e40 : decide (op ≤ 40) = false := decide_eq_false (by omega)
    have e56 : decide (op ≤ 56) = false := decide_eq_false (by omega)
    clear c
    go_enter Try.func45, Try.ntmps45
    go_wp2
    go_ret
    exact ⟨rfl, rfl⟩
  · have hk : (shp op).2.2.2.2 = true := by rw [shp_k]; exact decide_eq_true (by omega)
    rw [hk]
    clear hk
    have e1 : (op == 1) = false := beq_eq_false_iff_ne.2 (by omega)
    have e2 : (op == 2) = false := beq_eq_false_iff_ne.2 (by omega)
    have e64 : (op == 64) = false := beq_eq_false_iff_ne.2 (by omega)
    have e80 : (op == 80) = true := beq_iff_eq.2 (by omega)
    have e16 : decide (op ≥ 16) = true := decide_eq_true (by omega)
    have g16 : decide (16 ≤ op) = true := e16
    have e32 : decide (op ≥ 32) = true := decide_eq_true (by omega)
    have g32 : decide (32 ≤ op) = true := e32
    have e48 : decide (op ≥ 48) = true := decide_eq_true (by omega)
    have g48 : decide (48 ≤ op) = true := e48
    have e27 : decide (op ≤ 27) = false := decide_eq_false (by omega)
    have e40 : decide (op ≤ 40) = false := decide_eq_false (by omega)
    have e56 : decide (op ≤ 56) = false := decide_eq_false (by omega)
    clear c
    go_enter Try.func45, Try.ntmps45
    go_wp2
    go_ret
    exact ⟨rfl, rfl⟩
  · have hk : (shp op).2.2.2.2 = false := by rw [shp_k]; exact decide_eq_false (by omega)
    rw [hk]
    clear hk
    have e1 : (op == 1) = false := beq_eq_false_iff_ne.2 (by omega)
    have e2 : (op == 2) = false := beq_eq_false_iff_ne.2 (by omega)
    have e64 : (op == 64) = false := beq_eq_false_iff_ne.2 (by omega)
    have e80 : (op == 80) = false := beq_eq_false_iff_ne.2 (by omega)
    have e16 : decide (op ≥ 16) = true := decide_eq_true (by omega)
    have g16 : decide (16 ≤ op) = true := e16
    have e32 : decide (op ≥ 32) = true := decide_eq_true (by omega)
    have g32 : decide (32 ≤ op) = true := e32
    have e48 : decide (op ≥ 48) = true := decide_eq_true (by omega)
    have g48 : decide (48 ≤ op) = true := e48
    have e27 : decide (op ≤ 27) = false := decide_eq_false (by omega)
    have e40 : decide (op ≤ 40) = false := decide_eq_false (by omega)
    have e56 : decide (op ≤ 56) = false := decide_eq_false (by omega)
    clear c
    go_enter Try.func45, Try.ntmps45
    go_wp2
    go_ret
    exact ⟨rfl, rfl⟩
end Go.Proofs.Ytioknjdbijogpaa
