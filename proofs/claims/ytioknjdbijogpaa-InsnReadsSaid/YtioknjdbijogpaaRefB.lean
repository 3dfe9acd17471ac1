/- Chapter 16's reference: HasImm, Right, walked. -/
import Derived.Test.YtioknjdbijogpaaRefA
namespace Go.Proofs.Ytioknjdbijogpaa
open Go.RowKit
set_option linter.unusedSimpArgs false
set_option linter.unusedVariables false

/-- Which Ops have Imm, but Call. -/
def hiB (op : Int) : Bool := decide (op = 2 ∨ (21 ≤ op ∧ op ≤ 27) ∨ (37 ≤ op ∧ op ≤ 40))
set_option maxHeartbeats 2000000 in
set_option maxRecDepth 100000 in
theorem refHasImm_is (op : Int) (w : World) : Calls Try.prog 18 #[.int .i64 op] w fun e w' => e = .returned (.bool (hiB op)) ∧ w' = w := by
  rcases (by omega : (op < 2) ∨ (op = 2) ∨ (3 ≤ op ∧ op < 21) ∨ (21 ≤ op ∧ op ≤ 27) ∨ (28 ≤ op ∧ op < 37) ∨ (37 ≤ op ∧ op ≤ 40) ∨ (40 < op)) with c | c | c | c | c | c | c
  · have hk : hiB op = false := decide_eq_false (by omega)
    rw [hk]
    clear hk
    have e2 : (op == 2) = false := beq_eq_false_iff_ne.2 (by omega)
    have e21 : decide (op ≥ 21) = false := decide_eq_false (by omega)
    have g21 : decide (21 ≤ op) = false := e21
    have e37 : decide (op ≥ 37) = false := decide_eq_false (by omega)
    have g37 : decide (37 ≤ op) = false := e37
    have e27 : decide (op ≤ 27) = true := decide_eq_true (by omega)
    have e40 : decide (op ≤ 40) = true := decide_eq_true (by omega)
    clear c
    go_enter Try.func18, Try.ntmps18
    go_wp2
    go_ret
    exact ⟨rfl, rfl⟩
  · have hk : hiB op = true := decide_eq_true (by omega)
    rw [hk]
    clear hk
    have e2 : (op == 2) = true := beq_iff_eq.2 (by omega)
    have e21 : decide (op ≥ 21) = false := decide_eq_false (by omega)
    have g21 : decide (21 ≤ op) = false := e21
    have e37 : decide (op ≥ 37) = false := decide_eq_false (by omega)
    have g37 : decide (37 ≤ op) = false := e37
    have e27 : decide (op ≤ 27) = true := decide_eq_true (by omega)
    have e40 : decide (op ≤ 40) = true := decide_eq_true (by omega)
    clear c
    go_enter Try.func18, Try.ntmps18
    go_wp2
    go_ret
    exact ⟨rfl, rfl⟩
  · have hk : hiB op = false := decide_eq_false (by omega)
    rw [hk]
    clear hk
    have e2 : (op == 2) = false := beq_eq_false_iff_ne.2 (by omega)
    have e21 : decide (op ≥ 21) = false := decide_eq_false (by omega)
    have g21 : decide (21 ≤ op) = false := e21
    have e37 : decide (op ≥ 37) = false := decide_eq_false (by omega)
    have g37 : decide (37 ≤ op) = false := e37
    have e27 : decide (op ≤ 27) = true := decide_eq_true (by omega)
    have e40 : decide (op ≤ 40) = true := decide_eq_true (by omega)
    clear c
    go_enter Try.func18, Try.ntmps18
    go_wp2
    go_ret
    exact ⟨rfl, rfl⟩
  · have hk : hiB op = true := decide_eq_true (by omega)
    rw [hk]
    clear hk
    have e2 : (op == 2) = false := beq_eq_false_iff_ne.2 (by omega)
    have e21 : decide (op ≥ 21) = true := decide_eq_true (by omega)
    have g21 : decide (21 ≤ op) = true := e21
    have e37 : decide (op ≥ 37) = false := decide_eq_false (by omega)
    have g37 : decide (37 ≤ op) = false := e37
    have e27 : decide (op ≤ 27) = true := decide_eq_true (by omega)
    have e40 : decide (op ≤ 40) = true := decide_eq_true (by omega)
    clear c
    go_enter Try.func18, Try.ntmps18
    go_wp2
    go_ret
    exact ⟨rfl, rfl⟩
  · have hk : hiB op = false := decide_eq_false (by omega)
    rw [hk]
    clear hk
    have e2 : (op == 2) = false := beq_eq_false_iff_ne.2 (by omega)
    have e21 : decide (op ≥ 21) = true := decide_eq_true (by omega)
    have g21 : decide (21 ≤ op) = true := e21
    have e37 : decide (op ≥ 37) = false := decide_eq_false (by omega)
    have g37 : decide (37 ≤ op) = false := e37
    have e27 : decide (op ≤ 27) = false := decide_eq_false (by omega)
    have e40 : decide (op ≤ 40) = true := decide_eq_true (by omega)
    clear c
    go_enter Try.func18, Try.ntmps18
    go_wp2
    go_ret
    exact ⟨rfl, rfl⟩
  · have hk : hiB op = true := decide_eq_true (by omega)
    rw [hk]
    clear hk
    have e2 : (op == 2) = false := beq_eq_false_iff_ne.2 (by omega)
    have e21 : decide (op ≥ 21) = true := decide_eq_true (by omega)
    have g21 : decide (21 ≤ op) = true := e21
    have e37 : decide (op ≥ 37) = true := decide_eq_true (by omega)
    have g37 : decide (37 ≤ op) = true := e37
    have e27 : decide (op ≤ 27) = false := decide_eq_false (by omega)
    have e40 : decide (op ≤ 40) = true := decide_eq_true (by omega)
    clear c
    go_enter Try.func18, Try.ntmps18
    go_wp2
    go_ret
    exact ⟨rfl, rfl⟩
  · have hk : hiB op = false := decide_eq_false (by omega)
    rw [hk]
    clear hk
    have e2 : (op == 2) = false := beq_eq_false_iff_ne.2 (by omega)
    have e21 : decide (op ≥ 21) = true := decide_eq_true (by omega)
    have g21 : decide (21 ≤ op) = true := e21
    have e37 : decide (op ≥ 37) = true := decide_eq_true (by omega)
    have g37 : decide (37 ≤ op) = true := e37
    have e27 : decide (op ≤ 27) = false := decide_eq_false (by omega)
    have e40 : decide (op ≤ 40) = false := decide_eq_false (by omega)
    clear c
    go_enter Try.func18, Try.ntmps18
    go_wp2
    go_ret
    exact ⟨rfl, rfl⟩
theorem shp_key (op : Int) (h : (shp op).2.2.2.2 = true) : (!inL op [32, 64, 80, 49, 52]) = (shp op).1 ∧ (!inL op [32, 64, 80, 48, 51] && !hiB op) = (shp op).2.1 ∧
    ((decide (32 ≤ op) && decide (op ≤ 40)) || inL op [48, 49, 51, 52, 55, 56]) = (shp op).2.2.1 ∧ (hiB op || op == 64) = (shp op).2.2.2.1 := by
  have hk := h
  rw [shp_k, decide_eq_true_eq] at hk
  obtain ⟨n, rfl⟩ := Int.eq_ofNat_of_zero_le (by omega : 0 ≤ op)
  have key : ∀ n : Fin 81, (shp ((n.val : Nat) : Int)).2.2.2.2 = true → (!inL ((n.val : Nat) : Int) [32, 64, 80, 49, 52]) = (shp ((n.val : Nat) : Int)).1 ∧ (!inL ((n.val : Nat) : Int) [32, 64, 80, 48, 51] && !hiB ((n.val : Nat) : Int)) = (shp ((n.val : Nat) : Int)).2.1 ∧
    ((decide (32 ≤ ((n.val : Nat) : Int)) && decide (((n.val : Nat) : Int) ≤ 40)) || inL ((n.val : Nat) : Int) [48, 49, 51, 52, 55, 56]) = (shp ((n.val : Nat) : Int)).2.2.1 ∧ (hiB ((n.val : Nat) : Int) || ((n.val : Nat) : Int) == 64) = (shp ((n.val : Nat) : Int)).2.2.2.1 := by decide +kernel
  exact key ⟨n, by omega⟩ h

theorem heap_last' (w : World) (o : Obj) (n : Nat) (h : w.heap.size = n) : (w.alloc o).heap[n]? = some o := by
  subst h
  exact heap_alloc_last w o

/-- A block that holds an instruction's numbers. -/
def Cs (g : Nat) (op b c d i : Int) (w : World) : Prop := w.heap[g]? = some (.cells #[.int .i64 op, .int .i64 b, .int .i64 c, .int .i64 d, .int .i64 i] 70 (0, 0))
theorem Cs.alloc {g : Nat} {op b c d i : Int} {w : World} (h : Cs g op b c d i w) (o : Obj) : Cs g op b c d i (w.alloc o) := blk_of ((Below.refl _ _).alloc (Nat.le_refl _) _) h
theorem Cs.get {g : Nat} {op b c d i : Int} {w : World} (h : Cs g op b c d i w) : w.cell? ⟨g, 0, none⟩ = some (.int .i64 op) ∧ w.cell? ⟨g, 1, none⟩ = some (.int .i64 b) ∧ w.cell? ⟨g, 2, none⟩ = some (.int .i64 c) ∧ w.cell? ⟨g, 3, none⟩ = some (.int .i64 d) ∧ w.cell? ⟨g, 4, none⟩ = some (.int .i64 i) :=
  ⟨cell_of_row w g 0 _ _ _ h, cell_of_row w g 1 _ _ _ h, cell_of_row w g 2 _ _ _ h, cell_of_row w g 3 _ _ _ h, cell_of_row w g 4 _ _ _ h⟩

/-- What Right answers, field by field. -/
def rbF (op b c d i : Int) (D S O I K : Bool) : Bool := if (op = 26 ∨ op = 27) ∧ (i < 0 ∨ 63 < i) then false else K && fieldB b D 0 8 && fieldB c S 0 8 && fieldB d O (-32768) 32768 && fieldB i I (-2147483648) 2147483648
theorem rbF_eq (op b c d i : Int) (D S O I K : Bool) : rbF op b c d i D S O I K = (K && (fieldB b D 0 8 && (fieldB c S 0 8 && (fieldB d O (-32768) 32768 && (fieldB i I (-2147483648) 2147483648 && !decide ((op = 26 ∨ op = 27) ∧ (i < 0 ∨ 63 < i))))))) := by
  unfold rbF
  by_cases h : (op = 26 ∨ op = 27) ∧ (i < 0 ∨ 63 < i)
  · rw [if_pos h, decide_eq_true h]; simp
  · rw [if_neg h, decide_eq_false h]; simp [Bool.and_assoc]

set_option maxHeartbeats 8000000 in
set_option maxRecDepth 100000 in
theorem refRight_is (f : Nat → Int) (w : World) : Calls Try.prog 33 #[.agg (inv f)] w fun e w' => e = .returned (.bool (rightB f)) ∧ Below w.heap.size w w' := by
  have hrb : rightB f = rbF (f 0) (f 1) (f 2) (f 3) (f 4) (shp (f 0)).1 (shp (f 0)).2.1 (shp (f 0)).2.2.1 (shp (f 0)).2.2.2.1 (shp (f 0)).2.2.2.2 := rfl
  rw [rbF_eq] at hrb
  have hkey := shp_key (f 0)
  have hKn := fun w => known_is (f 0) w
  have hHI := fun w => refHasImm_is (f 0) w
  have hA1 : ∀ (w : World) (g : Nat), w.heap[g]? = some (.cells #[.int .i64 32, .int .i64 64, .int .i64 80, .int .i64 49, .int .i64 52] 3 (0, 0)) → Calls Try.prog 46 #[.int .i64 (f 0), .slice (some ⟨g, 0, none⟩) 5 5] w fun e w' => e = .returned (.bool (inL (f 0) [32, 64, 80, 49, 52])) ∧ w' = w := fun w g hg => among_is (f 0) [32, 64, 80, 49, 52] g _ w hg (by decide)
  have hA2 : ∀ (w : World) (g : Nat), w.heap[g]? = some (.cells #[.int .i64 32, .int .i64 64, .int .i64 80, .int .i64 48, .int .i64 51] 3 (0, 0)) → Calls Try.prog 46 #[.int .i64 (f 0), .slice (some ⟨g, 0, none⟩) 5 5] w fun e w' => e = .returned (.bool (inL (f 0) [32, 64, 80, 48, 51])) ∧ w' = w := fun w g hg => among_is (f 0) [32, 64, 80, 48, 51] g _ w hg (by decide)
  have hA3 : ∀ (w : World) (g : Nat), w.heap[g]? = some (.cells #[.int .i64 48, .int .i64 49, .int .i64 51, .int .i64 52, .int .i64 55, .int .i64 56] 3 (0, 0)) → Calls Try.prog 46 #[.int .i64 (f 0), .slice (some ⟨g, 0, none⟩) 6 6] w fun e w' => e = .returned (.bool (inL (f 0) [48, 49, 51, 52, 55, 56])) ∧ w' = w := fun w g hg => among_is (f 0) [48, 49, 51, 52, 55, 56] g _ w hg (by decide)
  generalize shp (f 0) = v at *
  obtain ⟨D, S, O, I, K⟩ := v
  simp only at hrb hkey hKn
  generalize inL (f 0) [32, 64, 80, 49, 52] = A1 at *
  generalize inL (f 0) [32, 64, 80, 48, 51] = A2 at *
  generalize inL (f 0) [48, 49, 51, 52, 55, 56] = A3 at *
  generalize hiB (f 0) = H at *
  obtain ⟨G, hG⟩ : ∃ G, decide (32 ≤ f 0) = G := ⟨_, rfl⟩
  obtain ⟨L, hL⟩ : ∃ L, decide (f 0 ≤ 40) = L := ⟨_, rfl⟩
  obtain ⟨E, hE⟩ : ∃ E, (f 0 == 64) = E := ⟨_, rfl⟩
  rw [hG, hL, hE] at hkey
  have hG' : decide (f 0 ≥ 32) = G := hG
  rw [show inv f = #[.int .i64 (f 0), .int .i64 (f 1), .int .i64 (f 2), .int .i64 (f 3), .int .i64 (f 4)] from rfl]
  generalize rightB f = R at *
  generalize f 0 = op at *
  generalize f 1 = b at *
  generalize f 2 = c at *
  generalize f 3 = d at *
  generalize f 4 = i at *
  have HCs : Cs w.heap.size op b c d i (w.alloc (.cells #[.int .i64 op, .int .i64 b, .int .i64 c, .int .i64 d, .int .i64 i] 70)) := heap_alloc_last w _
  have HCs := Lib.hid HCs
  have HRB := Lib.hid hrb
  have HK := Lib.hid hkey
  clear hrb hkey
  cases K
  · go_enter Try.func33, Try.ntmps33
    go_wp2_with (first | (go_at_call 45; refine (hKn _).mono ?_; rintro e w1 ⟨rfl, rfl⟩))
    go_ret
    rw [HRB.out, Bool.false_and]
    exact ⟨rfl, (Below.refl _ _).alloc (Nat.le_refl _) _⟩
  · go_enter Try.func33, Try.ntmps33
    go_upto_region 3 with (first | (go_at_call 45; refine (hKn _).mono ?_; rintro e w1 ⟨rfl, rfl⟩) | (go_at_call 46; first | (with_reducible refine (hA1 _ _ (heap_last' _ _ _ ?_)).mono ?_; (focus (simp; done)); rintro e w1 ⟨rfl, rfl⟩) | (with_reducible refine (hA2 _ _ (heap_last' _ _ _ ?_)).mono ?_; (focus (simp; done)); rintro e w1 ⟨rfl, rfl⟩) | (with_reducible refine (hA3 _ _ (heap_last' _ _ _ ?_)).mono ?_; (focus (first | rfl | (simp; done))); rintro e w1 ⟨rfl, rfl⟩)))
    go_cut [3] (fun s wx => s = .bool D ∧ Below w.heap.size w wx ∧ Cs w.heap.size op b c d i wx)
    case first =>
      go_wp2_with (first | (go_at_call 46; first | (with_reducible refine (hA1 _ _ (heap_last' _ _ _ ?_)).mono ?_; (focus (simp; done)); rintro e w1 ⟨rfl, rfl⟩) | (with_reducible refine (hA2 _ _ (heap_last' _ _ _ ?_)).mono ?_; (focus (simp; done)); rintro e w1 ⟨rfl, rfl⟩) | (with_reducible refine (hA3 _ _ (heap_last' _ _ _ ?_)).mono ?_; (focus (first | rfl | (simp; done))); rintro e w1 ⟨rfl, rfl⟩)))
      go_meet
      refine ⟨by rw [← (HK.out trivial).1], ?_, ?_⟩
      · exact ((Below.refl _ _).alloc (Nat.le_refl _) _).alloc (by simp) _
      · exact HCs.out.alloc _
    case rest =>
     obtain ⟨rfl, hB, hC⟩ := hcut
     obtain ⟨c0, c1, c2, c3, c4⟩ := hC.get
     have ca : ∀ o, (wc.alloc o).cell? ⟨w.heap.size, 0, none⟩ = some (.int .i64 op) := fun o => (hC.alloc o).get.1
     go_upto_region 4 with fail
     go_cut [4] (fun s wx => s = .bool S ∧ Below w.heap.size w wx ∧ Cs w.heap.size op b c d i wx)
     case first =>
      cases A2 <;> cases H
      all_goals
        go_wp2_with (first | (go_at_call 46; first | (with_reducible refine (hA1 _ _ (heap_last' _ _ _ ?_)).mono ?_; (focus (simp; done)); rintro e w1 ⟨rfl, rfl⟩) | (with_reducible refine (hA2 _ _ (heap_last' _ _ _ ?_)).mono ?_; (focus (simp; done)); rintro e w1 ⟨rfl, rfl⟩) | (with_reducible refine (hA3 _ _ (heap_last' _ _ _ ?_)).mono ?_; (focus (first | rfl | (simp; done))); rintro e w1 ⟨rfl, rfl⟩)) | (go_at_call 18; refine (hHI _).mono ?_; rintro e w1 ⟨rfl, rfl⟩))
        go_meet
        refine ⟨by rw [← (HK.out trivial).2.1]; rfl, ?_, ?_⟩
        · exact hB.alloc hB.size _
        · exact hC.alloc _
     case rest =>
      clear c0 c1 c2 c3 c4 hB hC ca
      obtain ⟨rfl, hB, hC⟩ := hcut
      obtain ⟨c0, c1, c2, c3, c4⟩ := hC.get
      have ca : ∀ o, (wc.alloc o).cell? ⟨w.heap.size, 0, none⟩ = some (.int .i64 op) := fun o => (hC.alloc o).get.1
      go_upto_region 5 with fail
      go_cut [5] (fun s wx => s = .bool O ∧ Below w.heap.size w wx ∧ Cs w.heap.size op b c d i wx)
      case first =>
        cases G
        · cases A3
          all_goals
            go_wp2_with (first | (go_at_call 46; first | (with_reducible refine (hA1 _ _ (heap_last' _ _ _ ?_)).mono ?_; (focus (simp; done)); rintro e w1 ⟨rfl, rfl⟩) | (with_reducible refine (hA2 _ _ (heap_last' _ _ _ ?_)).mono ?_; (focus (simp; done)); rintro e w1 ⟨rfl, rfl⟩) | (with_reducible refine (hA3 _ _ (heap_last' _ _ _ ?_)).mono ?_; (focus (first | rfl | (simp; done))); rintro e w1 ⟨rfl, rfl⟩)))
            go_meet
            refine ⟨by rw [← (HK.out trivial).2.2.1]; first | rfl | simp, ?_, ?_⟩
            · exact hB.alloc hB.size _
            · exact hC.alloc _
        · cases L
          · cases A3
            all_goals
              go_wp2_with (first | (go_at_call 46; first | (with_reducible refine (hA1 _ _ (heap_last' _ _ _ ?_)).mono ?_; (focus (simp; done)); rintro e w1 ⟨rfl, rfl⟩) | (with_reducible refine (hA2 _ _ (heap_last' _ _ _ ?_)).mono ?_; (focus (simp; done)); rintro e w1 ⟨rfl, rfl⟩) | (with_reducible refine (hA3 _ _ (heap_last' _ _ _ ?_)).mono ?_; (focus (first | rfl | (simp; done))); rintro e w1 ⟨rfl, rfl⟩)))
              go_meet
              refine ⟨by rw [← (HK.out trivial).2.2.1]; first | rfl | simp, ?_, ?_⟩
              · exact hB.alloc hB.size _
              · exact hC.alloc _
          · go_wp2_with (first | (go_at_call 46; first | (with_reducible refine (hA1 _ _ (heap_last' _ _ _ ?_)).mono ?_; (focus (simp; done)); rintro e w1 ⟨rfl, rfl⟩) | (with_reducible refine (hA2 _ _ (heap_last' _ _ _ ?_)).mono ?_; (focus (simp; done)); rintro e w1 ⟨rfl, rfl⟩) | (with_reducible refine (hA3 _ _ (heap_last' _ _ _ ?_)).mono ?_; (focus (first | rfl | (simp; done))); rintro e w1 ⟨rfl, rfl⟩)))
            go_meet
            exact ⟨by rw [← (HK.out trivial).2.2.1]; first | rfl | simp, hB, hC⟩
      case rest =>
        clear c0 c1 c2 c3 c4 hB hC ca
        obtain ⟨rfl, hB, hC⟩ := hcut
        obtain ⟨c0, c1, c2, c3, c4⟩ := hC.get
        have ca : ∀ o, (wc.alloc o).cell? ⟨w.heap.size, 0, none⟩ = some (.int .i64 op) := fun o => (hC.alloc o).get.1
        go_upto_region 6 with fail
        go_cut [6] (fun s wx => s = .bool I ∧ wx = wc)
        case first =>
          cases H
          · cases E
            all_goals
              go_wp2_with (first | (go_at_call 18; refine (hHI _).mono ?_; rintro e w1 ⟨rfl, rfl⟩))
              go_meet
              exact ⟨by rw [← (HK.out trivial).2.2.2]; rfl, rfl⟩
          · go_wp2_with (first | (go_at_call 18; refine (hHI _).mono ?_; rintro e w1 ⟨rfl, rfl⟩))
            go_meet
            exact ⟨by rw [← (HK.out trivial).2.2.2]; rfl, rfl⟩
        case rest =>
          obtain ⟨rfl, rfl⟩ := hcut
          clear hKn hHI hA1 hA2 hA3 hG hL hE hG' HCs HK hC ca
          go_upto_region 7 with fail
          go_cut [90] (fun s wx => s = .bool (!(fieldB b D 0 8 && fieldB c S 0 8)) ∧ wx = wc)
          case first =>
            cases D
            · by_cases q : b = 0
              · have e1 : (b != 0) = false := by simp [q]
                have P1 : fieldB b false 0 8 = true := by unfold fieldB; simp [q]
                clear q
                cases S
                · by_cases q : c = 0
                  · have e2 : (c != 0) = false := by simp [q]
                    have P2 : fieldB c false 0 8 = true := by unfold fieldB; simp [q]
                    clear q
                    as_aux_lemma =>
                      go_wp2
                      go_meet
                      exact ⟨by rw [P1, P2]; rfl, rfl⟩
                  · have e2 : (c != 0) = true := by simp [q]
                    have P2 : fieldB c false 0 8 = false := by unfold fieldB; simp [q]
                    clear q
                    as_aux_lemma =>
                      go_wp2
                      go_meet
                      exact ⟨by rw [P1, P2]; rfl, rfl⟩
                · by_cases q : c < 0
                  · have e2 : decide (c < 0) = true := decide_eq_true q
                    have P2 : fieldB c true 0 8 = false := by unfold fieldB; simp; omega
                    clear q
                    as_aux_lemma =>
                      go_wp2
                      go_meet
                      exact ⟨by rw [P1, P2]; rfl, rfl⟩
                  · have e2 : decide (c < 0) = false := decide_eq_false q
                    by_cases q2 : 7 < c
                    · have g2 : decide (c > 7) = true := decide_eq_true q2
                      have k2 : decide (7 < c) = true := decide_eq_true q2
                      have P2 : fieldB c true 0 8 = false := by unfold fieldB; simp; omega
                      clear q q2
                      as_aux_lemma =>
                        go_wp2
                        go_meet
                        exact ⟨by rw [P1, P2]; rfl, rfl⟩
                    · have g2 : decide (c > 7) = false := decide_eq_false q2
                      have k2 : decide (7 < c) = false := decide_eq_false q2
                      have P2 : fieldB c true 0 8 = true := by unfold fieldB; simp; omega
                      clear q q2
                      as_aux_lemma =>
                        go_wp2
                        go_meet
                        exact ⟨by rw [P1, P2]; rfl, rfl⟩
              · have e1 : (b != 0) = true := by simp [q]
                have P1 : fieldB b false 0 8 = false := by unfold fieldB; simp [q]
                clear q
                as_aux_lemma =>
                  go_wp2
                  go_meet
                  exact ⟨by rw [P1]; rfl, rfl⟩
            · by_cases q : b < 0
              · have e1 : decide (b < 0) = true := decide_eq_true q
                have P1 : fieldB b true 0 8 = false := by unfold fieldB; simp; omega
                clear q
                as_aux_lemma =>
                  go_wp2
                  go_meet
                  exact ⟨by rw [P1]; rfl, rfl⟩
              · have e1 : decide (b < 0) = false := decide_eq_false q
                by_cases q2 : 7 < b
                · have g1 : decide (b > 7) = true := decide_eq_true q2
                  have k1 : decide (7 < b) = true := decide_eq_true q2
                  have P1 : fieldB b true 0 8 = false := by unfold fieldB; simp; omega
                  clear q q2
                  as_aux_lemma =>
                    go_wp2
                    go_meet
                    exact ⟨by rw [P1]; rfl, rfl⟩
                · have g1 : decide (b > 7) = false := decide_eq_false q2
                  have k1 : decide (7 < b) = false := decide_eq_false q2
                  have P1 : fieldB b true 0 8 = true := by unfold fieldB; simp; omega
                  clear q q2
                  cases S
                  · by_cases q : c = 0
                    · have e2 : (c != 0) = false := by simp [q]
                      have P2 : fieldB c false 0 8 = true := by unfold fieldB; simp [q]
                      clear q
                      as_aux_lemma =>
                        go_wp2
                        go_meet
                        exact ⟨by rw [P1, P2]; rfl, rfl⟩
                    · have e2 : (c != 0) = true := by simp [q]
                      have P2 : fieldB c false 0 8 = false := by unfold fieldB; simp [q]
                      clear q
                      as_aux_lemma =>
                        go_wp2
                        go_meet
                        exact ⟨by rw [P1, P2]; rfl, rfl⟩
                  · by_cases q : c < 0
                    · have e2 : decide (c < 0) = true := decide_eq_true q
                      have P2 : fieldB c true 0 8 = false := by unfold fieldB; simp; omega
                      clear q
                      as_aux_lemma =>
                        go_wp2
                        go_meet
                        exact ⟨by rw [P1, P2]; rfl, rfl⟩
                    · have e2 : decide (c < 0) = false := decide_eq_false q
                      by_cases q2 : 7 < c
                      · have g2 : decide (c > 7) = true := decide_eq_true q2
                        have k2 : decide (7 < c) = true := decide_eq_true q2
                        have P2 : fieldB c true 0 8 = false := by unfold fieldB; simp; omega
                        clear q q2
                        as_aux_lemma =>
                          go_wp2
                          go_meet
                          exact ⟨by rw [P1, P2]; rfl, rfl⟩
                      · have g2 : decide (c > 7) = false := decide_eq_false q2
                        have k2 : decide (7 < c) = false := decide_eq_false q2
                        have P2 : fieldB c true 0 8 = true := by unfold fieldB; simp; omega
                        clear q q2
                        as_aux_lemma =>
                          go_wp2
                          go_meet
                          exact ⟨by rw [P1, P2]; rfl, rfl⟩
          case rest =>
            obtain ⟨rfl, rfl⟩ := hcut
            generalize fieldB b D 0 8 = F1 at *
            generalize fieldB c S 0 8 = F2 at *
            cases hF : (F1 && F2)
            · go_wp2
              go_ret
              rw [HRB.out, Bool.true_and, ← Bool.and_assoc, hF]
              exact ⟨rfl, hB⟩
            · go_upto_region 9 with fail
              go_cut [132] (fun s wx => s = .bool (!(fieldB d O (-32768) 32768 && fieldB i I (-2147483648) 2147483648)) ∧ wx = wc)
              case first =>
                cases O
                · by_cases q : d = 0
                  · have e1 : (d != 0) = false := by simp [q]
                    have P1 : fieldB d false (-32768) 32768 = true := by unfold fieldB; simp [q]
                    clear q
                    cases I
                    · by_cases q : i = 0
                      · have e2 : (i != 0) = false := by simp [q]
                        have P2 : fieldB i false (-2147483648) 2147483648 = true := by unfold fieldB; simp [q]
                        clear q
                        as_aux_lemma =>
                          go_wp2
                          go_meet
                          exact ⟨by rw [P1, P2]; rfl, rfl⟩
                      · have e2 : (i != 0) = true := by simp [q]
                        have P2 : fieldB i false (-2147483648) 2147483648 = false := by unfold fieldB; simp [q]
                        clear q
                        as_aux_lemma =>
                          go_wp2
                          go_meet
                          exact ⟨by rw [P1, P2]; rfl, rfl⟩
                    · by_cases q : i < (-2147483648)
                      · have e2 : decide (i < (-2147483648)) = true := decide_eq_true q
                        have P2 : fieldB i true (-2147483648) 2147483648 = false := by unfold fieldB; simp; omega
                        clear q
                        as_aux_lemma =>
                          go_wp2
                          go_meet
                          exact ⟨by rw [P1, P2]; rfl, rfl⟩
                      · have e2 : decide (i < (-2147483648)) = false := decide_eq_false q
                        by_cases q2 : 2147483647 < i
                        · have g2 : decide (i > 2147483647) = true := decide_eq_true q2
                          have k2 : decide (2147483647 < i) = true := decide_eq_true q2
                          have P2 : fieldB i true (-2147483648) 2147483648 = false := by unfold fieldB; simp; omega
                          clear q q2
                          as_aux_lemma =>
                            go_wp2
                            go_meet
                            exact ⟨by rw [P1, P2]; rfl, rfl⟩
                        · have g2 : decide (i > 2147483647) = false := decide_eq_false q2
                          have k2 : decide (2147483647 < i) = false := decide_eq_false q2
                          have P2 : fieldB i true (-2147483648) 2147483648 = true := by unfold fieldB; simp; omega
                          clear q q2
                          as_aux_lemma =>
                            go_wp2
                            go_meet
                            exact ⟨by rw [P1, P2]; rfl, rfl⟩
                  · have e1 : (d != 0) = true := by simp [q]
                    have P1 : fieldB d false (-32768) 32768 = false := by unfold fieldB; simp [q]
                    clear q
                    as_aux_lemma =>
                      go_wp2
                      go_meet
                      exact ⟨by rw [P1]; rfl, rfl⟩
                · by_cases q : d < (-32768)
                  · have e1 : decide (d < (-32768)) = true := decide_eq_true q
                    have P1 : fieldB d true (-32768) 32768 = false := by unfold fieldB; simp; omega
                    clear q
                    as_aux_lemma =>
                      go_wp2
                      go_meet
                      exact ⟨by rw [P1]; rfl, rfl⟩
                  · have e1 : decide (d < (-32768)) = false := decide_eq_false q
                    by_cases q2 : 32767 < d
                    · have g1 : decide (d > 32767) = true := decide_eq_true q2
                      have k1 : decide (32767 < d) = true := decide_eq_true q2
                      have P1 : fieldB d true (-32768) 32768 = false := by unfold fieldB; simp; omega
                      clear q q2
                      as_aux_lemma =>
                        go_wp2
                        go_meet
                        exact ⟨by rw [P1]; rfl, rfl⟩
                    · have g1 : decide (d > 32767) = false := decide_eq_false q2
                      have k1 : decide (32767 < d) = false := decide_eq_false q2
                      have P1 : fieldB d true (-32768) 32768 = true := by unfold fieldB; simp; omega
                      clear q q2
                      cases I
                      · by_cases q : i = 0
                        · have e2 : (i != 0) = false := by simp [q]
                          have P2 : fieldB i false (-2147483648) 2147483648 = true := by unfold fieldB; simp [q]
                          clear q
                          as_aux_lemma =>
                            go_wp2
                            go_meet
                            exact ⟨by rw [P1, P2]; rfl, rfl⟩
                        · have e2 : (i != 0) = true := by simp [q]
                          have P2 : fieldB i false (-2147483648) 2147483648 = false := by unfold fieldB; simp [q]
                          clear q
                          as_aux_lemma =>
                            go_wp2
                            go_meet
                            exact ⟨by rw [P1, P2]; rfl, rfl⟩
                      · by_cases q : i < (-2147483648)
                        · have e2 : decide (i < (-2147483648)) = true := decide_eq_true q
                          have P2 : fieldB i true (-2147483648) 2147483648 = false := by unfold fieldB; simp; omega
                          clear q
                          as_aux_lemma =>
                            go_wp2
                            go_meet
                            exact ⟨by rw [P1, P2]; rfl, rfl⟩
                        · have e2 : decide (i < (-2147483648)) = false := decide_eq_false q
                          by_cases q2 : 2147483647 < i
                          · have g2 : decide (i > 2147483647) = true := decide_eq_true q2
                            have k2 : decide (2147483647 < i) = true := decide_eq_true q2
                            have P2 : fieldB i true (-2147483648) 2147483648 = false := by unfold fieldB; simp; omega
                            clear q q2
                            as_aux_lemma =>
                              go_wp2
                              go_meet
                              exact ⟨by rw [P1, P2]; rfl, rfl⟩
                          · have g2 : decide (i > 2147483647) = false := decide_eq_false q2
                            have k2 : decide (2147483647 < i) = false := decide_eq_false q2
                            have P2 : fieldB i true (-2147483648) 2147483648 = true := by unfold fieldB; simp; omega
                            clear q q2
                            as_aux_lemma =>
                              go_wp2
                              go_meet
                              exact ⟨by rw [P1, P2]; rfl, rfl⟩
              case rest =>
                obtain ⟨rfl, rfl⟩ := hcut
                have HRB2 := HRB.out
                rw [Bool.true_and, ← Bool.and_assoc, hF, Bool.true_and, ← Bool.and_assoc] at HRB2
                have HRB2 := Lib.hid HRB2
                clear HRB hF
                generalize fieldB d O (-32768) 32768 = F3 at *
                generalize fieldB i I (-2147483648) 2147483648 = F4 at *
                cases hF : (F3 && F4)
                · go_wp2
                  go_ret
                  rw [HRB2.out, hF]
                  exact ⟨rfl, hB⟩
                · have HRB3 := HRB2.out
                  rw [hF, Bool.true_and] at HRB3
                  have HRB3 := Lib.hid HRB3
                  clear HRB2 hF
                  by_cases h26 : op = 26
                  · have e1 : (op != 26) = false := by simp [h26]
                    by_cases j0 : 0 ≤ i
                    · have e3 : decide (i ≥ 0) = true := decide_eq_true j0
                      have e4 : decide (0 ≤ i) = true := decide_eq_true j0
                      by_cases j1 : i ≤ 63
                      · have e5 : decide (i ≤ 63) = true := decide_eq_true j1
                        have hf : decide ((op = 26 ∨ op = 27) ∧ (i < 0 ∨ 63 < i)) = false := decide_eq_false (by omega)
                        clear h26 j0 j1
                        go_wp2
                        go_ret
                        rw [HRB3.out, hf]
                        exact ⟨rfl, hB⟩
                      · have e5 : decide (i ≤ 63) = false := decide_eq_false j1
                        have hf : decide ((op = 26 ∨ op = 27) ∧ (i < 0 ∨ 63 < i)) = true := decide_eq_true (by omega)
                        clear h26 j0 j1
                        go_wp2
                        go_ret
                        rw [HRB3.out, hf]
                        exact ⟨rfl, hB⟩
                    · have e3 : decide (i ≥ 0) = false := decide_eq_false j0
                      have e4 : decide (0 ≤ i) = false := decide_eq_false j0
                      have hf : decide ((op = 26 ∨ op = 27) ∧ (i < 0 ∨ 63 < i)) = true := decide_eq_true (by omega)
                      clear h26 j0
                      go_wp2
                      go_ret
                      rw [HRB3.out, hf]
                      exact ⟨rfl, hB⟩
                  · have e1 : (op != 26) = true := by simp [h26]
                    by_cases h27 : op = 27
                    · have e2 : (op != 27) = false := by simp [h27]
                      by_cases j0 : 0 ≤ i
                      · have e3 : decide (i ≥ 0) = true := decide_eq_true j0
                        have e4 : decide (0 ≤ i) = true := decide_eq_true j0
                        by_cases j1 : i ≤ 63
                        · have e5 : decide (i ≤ 63) = true := decide_eq_true j1
                          have hf : decide ((op = 26 ∨ op = 27) ∧ (i < 0 ∨ 63 < i)) = false := decide_eq_false (by omega)
                          clear h26 h27 j0 j1
                          go_wp2
                          go_ret
                          rw [HRB3.out, hf]
                          exact ⟨rfl, hB⟩
                        · have e5 : decide (i ≤ 63) = false := decide_eq_false j1
                          have hf : decide ((op = 26 ∨ op = 27) ∧ (i < 0 ∨ 63 < i)) = true := decide_eq_true (by omega)
                          clear h26 h27 j0 j1
                          go_wp2
                          go_ret
                          rw [HRB3.out, hf]
                          exact ⟨rfl, hB⟩
                      · have e3 : decide (i ≥ 0) = false := decide_eq_false j0
                        have e4 : decide (0 ≤ i) = false := decide_eq_false j0
                        have hf : decide ((op = 26 ∨ op = 27) ∧ (i < 0 ∨ 63 < i)) = true := decide_eq_true (by omega)
                        clear h26 h27 j0
                        go_wp2
                        go_ret
                        rw [HRB3.out, hf]
                        exact ⟨rfl, hB⟩
                    · have e2 : (op != 27) = true := by simp [h27]
                      have hf : decide ((op = 26 ∨ op = 27) ∧ (i < 0 ∨ 63 < i)) = false := decide_eq_false (by omega)
                      clear h26 h27
                      go_wp2
                      go_ret
                      rw [HRB3.out, hf]
                      exact ⟨rfl, hB⟩
end Go.Proofs.Ytioknjdbijogpaa
