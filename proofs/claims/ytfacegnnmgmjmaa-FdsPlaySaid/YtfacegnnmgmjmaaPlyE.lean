/- Chapter 28, the reference: Count, walked. -/
import Derived.Test.YtfacegnnmgmjmaaPlyD
namespace Go.Proofs.Ytfacegnnmgmjmaa
open Go.RowKit
set_option linter.unusedSimpArgs false
set_option linter.unusedVariables false

theorem oBool : OneT Try.prog 4 := by unfold OneT; kernel_rfl
theorem rfs_0 (x : FileT) : (rfv (some x))[0]? = some (.int .i64 x.1) := rfl
theorem rfs_3 (x : FileT) : (rfv (some x))[3]? = some (.int .i64 x.2.2.2) := rfl
theorem rfs_4 (x : FileT) : (rfv (some x))[4]? = some (.bool true) := rfl
theorem rfn_4 : (rfv none)[4]? = some (.bool false) := rfl
/-- How many of the first k places are open and have a number. -/
def cntG (p : Nat → Option Nat) (g : Nat → Int) (n : Int) (k : Nat) : Nat := (List.range k).countP fun i => (p i).isSome && decide (g i = n)
theorem cntG_succ (p : Nat → Option Nat) (g : Nat → Int) (n : Int) (k : Nat) : cntG p g n (k + 1) = cntG p g n k + (if (p k).isSome && decide (g k = n) then 1 else 0) := by
  simp only [cntG, List.range_succ, List.countP_append, List.countP_cons, List.countP_nil, Nat.zero_add]
theorem cntG_le (p : Nat → Option Nat) (g : Nat → Int) (n : Int) (k : Nat) : cntG p g n k ≤ k := by
  have : cntG p g n k ≤ (List.range k).length := List.countP_le_length
  rwa [List.length_range] at this
theorem cnt_G (p : Nat → Option Nat) (f : Nat → FileT) (n : Int) (k : Nat) : cnt p f n k = cntG p (fun i => (f i).1) n k := rfl
theorem cnt_wrap (c : Nat) (h : c ≤ 32) : wrap64 ((c : Int) + 1) = ((c + 1 : Nat) : Int) := by unfold wrap64; omega
theorem St.sub0 {w0 w : World} {l : List (Nat × Obj)} (h : St w0 l w) : St w0 [] w := ⟨h.base, fun _ h => (by cases h), List.nodup_nil⟩
theorem RTab.row {w : World} {rb : Nat} {q : QT} (h : RTab w rb q) (r k : Nat) (hr : r < 4) (hk : k < 8) : ∀ j v, (rfv (q (8 * r + k)))[j]? = some v → w.cell? ⟨rb, r * 40 + k * 5 + j, none⟩ = some v := fun j v hv => by
  have hj : j < 5 := (Array.getElem?_eq_some_iff.1 hv).1
  rw [rfv_get _ j hj] at hv
  rw [h.cell' r k j hr hk hj, hv]

set_option maxHeartbeats 4000000 in
set_option maxRecDepth 100000 in
theorem rcount_0 (rb : Nat) (n : Int) (p : Nat → Option Nat) (f : Nat → FileT) (w : World) (hT : RTab w rb (qOf p f)) :
    Calls Try.prog 25 #[.pointer (some ⟨rb, 0, none⟩), .int .i64 0, .int .i64 n] w fun e w' => e = .returned (.int .i64 (cntG p (fun i => (f i).1) n 32)) ∧ Below w.heap.size w w' := by
  have hSt := St.start w
  go_enter Try.func25, Try.ntmps25
  go_wp2
  go_loopw [8, 7] (fun i s wr => ∃ r : Nat, r ≤ 4 ∧ i = .int .i64 r ∧ s = .int .i64 (cntG p (fun i => (f i).1) n (8 * r)) ∧ St w [] wr) (fun i _ _ => 4 - (intOf i).toNat)
  case atStart => exact ⟨0, by omega, rfl, rfl, hSt⟩
  case round =>
    clear hSt
    obtain ⟨r, hr, rfl, rfl, hSt⟩ := hrel
    by_cases h : r = 4
    · subst h
      go_wp2
      go_ret
      exact ⟨rfl, hSt.base⟩
    · have hr4 : r < 4 := by omega
      have hr4' : (r : Int) < 4 := by omega
      go_wp2
      go_loopw [9, 7] (fun i s wq => ∃ c : Nat, c ≤ 8 ∧ i = .int .i64 c ∧ s = .int .i64 (cntG p (fun i => (f i).1) n (8 * r + c)) ∧ St w [] wq) (fun i _ _ => 8 - (intOf i).toNat)
      case atStart => exact ⟨0, by omega, rfl, rfl, hSt⟩
      case round =>
        clear hSt
        obtain ⟨c, hc, rfl, rfl, hSt⟩ := hrel
        by_cases h8 : c = 8
        · subst h8
          go_wp2
          exact ⟨⟨r + 1, by omega, by simp, rfl, hSt⟩, by simp only [intOf]; omega⟩
        · have hc8 : c < 8 := by omega
          have hc8' : (c : Int) < 8 := by omega
          have HRL := Lib.hid ((hT.ext hSt.base).row r c hr4 hc8)
          have hcs := cntG_succ p (fun i => (f i).1) n (8 * r + c)
          have hle := cnt_wrap _ (Nat.le_trans (cntG_le p (fun i => (f i).1) n (8 * r + c)) (show 8 * r + c ≤ 32 by omega))
          cases hp : p (8 * r + c) with
          | none =>
            have hq : qOf p f (8 * r + c) = none := by unfold qOf; rw [hp]; rfl
            rw [hq] at HRL
            rw [hp] at hcs
            have HC := Lib.hid hcs
            clear hcs hq hle
            go_wp2_with (first | ((with_reducible refine ev_rload ?_); refine ⟨rfl, _, _, _, rfl, HRL.out, ?_⟩; (simp only [Act.put, List.setIfInBounds_toArray, List.set_cons_succ, List.set_cons_zero])) | ((with_reducible refine ev_alloc hSt zX5 ?_); refine ⟨rfl, ?_⟩; intro gN wN hSt; (simp only [Act.put, List.setIfInBounds_toArray, List.set_cons_succ, List.set_cons_zero])) | ((with_reducible refine ev_store hSt aX5 ?_); refine ⟨rfl, _, [], _, _, _, rfl, rfl, rfl, rfl, rfl, rfv_one _, ?_⟩; intro wN hSt; simp only [List.nil_append] at hSt; simp only [Act.put]) | ((with_reducible refine ev_load1 hSt oBool ?_); refine ⟨rfl, _, _, _, _, _, rfl, (by repeat (first | exact List.mem_cons_self .. | refine List.mem_cons_of_mem _ ?_)), (by first | exact rfs_4 _ | exact rfn_4), ?_⟩; (simp only [Act.put, List.setIfInBounds_toArray, List.set_cons_succ, List.set_cons_zero])))
            refine ⟨⟨c + 1, by omega, by simp, ?_, hSt.sub0⟩, by simp only [intOf]; omega⟩
            rw [← Nat.add_assoc, HC.out]
            rfl
          | some g =>
            have hq : qOf p f (8 * r + c) = some (f (8 * r + c)) := by unfold qOf; rw [hp]; rfl
            rw [hq] at HRL
            rw [hp] at hcs
            by_cases he : (f (8 * r + c)).1 = n
            · have e1 : ((f (8 * r + c)).1 == n) = true := beq_iff_eq.2 he
              rw [decide_eq_true he] at hcs
              have HC := Lib.hid hcs
              have HL := Lib.hid hle
              clear hcs hq he hle
              go_wp2_with (first | ((with_reducible refine ev_rload ?_); refine ⟨rfl, _, _, _, rfl, HRL.out, ?_⟩; (simp only [Act.put, List.setIfInBounds_toArray, List.set_cons_succ, List.set_cons_zero])) | ((with_reducible refine ev_alloc hSt zX5 ?_); refine ⟨rfl, ?_⟩; intro gN wN hSt; (simp only [Act.put, List.setIfInBounds_toArray, List.set_cons_succ, List.set_cons_zero])) | ((with_reducible refine ev_store hSt aX5 ?_); refine ⟨rfl, _, [], _, _, _, rfl, rfl, rfl, rfl, rfl, rfv_one _, ?_⟩; intro wN hSt; simp only [List.nil_append] at hSt; simp only [Act.put]) | ((with_reducible refine ev_load1 hSt oBool ?_); refine ⟨rfl, _, _, _, _, _, rfl, (by repeat (first | exact List.mem_cons_self .. | refine List.mem_cons_of_mem _ ?_)), (by first | exact rfs_4 _ | exact rfn_4), ?_⟩; (simp only [Act.put, List.setIfInBounds_toArray, List.set_cons_succ, List.set_cons_zero])) | ((with_reducible refine ev_load1 hSt oInt ?_); refine ⟨rfl, _, _, _, _, _, rfl, (by repeat (first | exact List.mem_cons_self .. | refine List.mem_cons_of_mem _ ?_)), (by first | exact rfs_0 _ | exact rfs_3 _), ?_⟩; (simp only [Act.put, List.setIfInBounds_toArray, List.set_cons_succ, List.set_cons_zero])))
              refine ⟨⟨c + 1, by omega, by simp, ?_, hSt.sub0⟩, by simp only [intOf]; omega⟩
              rw [← Nat.add_assoc, HC.out, HL.out]
              rfl
            · have e1 : ((f (8 * r + c)).1 == n) = false := beq_eq_false_iff_ne.2 he
              rw [decide_eq_false he] at hcs
              have HC := Lib.hid hcs
              clear hcs hq he hle
              go_wp2_with (first | ((with_reducible refine ev_rload ?_); refine ⟨rfl, _, _, _, rfl, HRL.out, ?_⟩; (simp only [Act.put, List.setIfInBounds_toArray, List.set_cons_succ, List.set_cons_zero])) | ((with_reducible refine ev_alloc hSt zX5 ?_); refine ⟨rfl, ?_⟩; intro gN wN hSt; (simp only [Act.put, List.setIfInBounds_toArray, List.set_cons_succ, List.set_cons_zero])) | ((with_reducible refine ev_store hSt aX5 ?_); refine ⟨rfl, _, [], _, _, _, rfl, rfl, rfl, rfl, rfl, rfv_one _, ?_⟩; intro wN hSt; simp only [List.nil_append] at hSt; simp only [Act.put]) | ((with_reducible refine ev_load1 hSt oBool ?_); refine ⟨rfl, _, _, _, _, _, rfl, (by repeat (first | exact List.mem_cons_self .. | refine List.mem_cons_of_mem _ ?_)), (by first | exact rfs_4 _ | exact rfn_4), ?_⟩; (simp only [Act.put, List.setIfInBounds_toArray, List.set_cons_succ, List.set_cons_zero])) | ((with_reducible refine ev_load1 hSt oInt ?_); refine ⟨rfl, _, _, _, _, _, rfl, (by repeat (first | exact List.mem_cons_self .. | refine List.mem_cons_of_mem _ ?_)), (by first | exact rfs_0 _ | exact rfs_3 _), ?_⟩; (simp only [Act.put, List.setIfInBounds_toArray, List.set_cons_succ, List.set_cons_zero])))
              refine ⟨⟨c + 1, by omega, by simp, ?_, hSt.sub0⟩, by simp only [intOf]; omega⟩
              rw [← Nat.add_assoc, HC.out]
              rfl

set_option maxHeartbeats 4000000 in
set_option maxRecDepth 100000 in
theorem rcount_1 (rb : Nat) (n : Int) (p : Nat → Option Nat) (f : Nat → FileT) (w : World) (hT : RTab w rb (qOf p f)) :
    Calls Try.prog 25 #[.pointer (some ⟨rb, 0, none⟩), .int .i64 1, .int .i64 n] w fun e w' => e = .returned (.int .i64 (cntG p (fun i => (f i).2.2.2) n 32)) ∧ Below w.heap.size w w' := by
  have hSt := St.start w
  go_enter Try.func25, Try.ntmps25
  go_wp2
  go_loopw [8, 7] (fun i s wr => ∃ r : Nat, r ≤ 4 ∧ i = .int .i64 r ∧ s = .int .i64 (cntG p (fun i => (f i).2.2.2) n (8 * r)) ∧ St w [] wr) (fun i _ _ => 4 - (intOf i).toNat)
  case atStart => exact ⟨0, by omega, rfl, rfl, hSt⟩
  case round =>
    clear hSt
    obtain ⟨r, hr, rfl, rfl, hSt⟩ := hrel
    by_cases h : r = 4
    · subst h
      go_wp2
      go_ret
      exact ⟨rfl, hSt.base⟩
    · have hr4 : r < 4 := by omega
      have hr4' : (r : Int) < 4 := by omega
      go_wp2
      go_loopw [9, 7] (fun i s wq => ∃ c : Nat, c ≤ 8 ∧ i = .int .i64 c ∧ s = .int .i64 (cntG p (fun i => (f i).2.2.2) n (8 * r + c)) ∧ St w [] wq) (fun i _ _ => 8 - (intOf i).toNat)
      case atStart => exact ⟨0, by omega, rfl, rfl, hSt⟩
      case round =>
        clear hSt
        obtain ⟨c, hc, rfl, rfl, hSt⟩ := hrel
        by_cases h8 : c = 8
        · subst h8
          go_wp2
          exact ⟨⟨r + 1, by omega, by simp, rfl, hSt⟩, by simp only [intOf]; omega⟩
        · have hc8 : c < 8 := by omega
          have hc8' : (c : Int) < 8 := by omega
          have HRL := Lib.hid ((hT.ext hSt.base).row r c hr4 hc8)
          have hcs := cntG_succ p (fun i => (f i).2.2.2) n (8 * r + c)
          have hle := cnt_wrap _ (Nat.le_trans (cntG_le p (fun i => (f i).2.2.2) n (8 * r + c)) (show 8 * r + c ≤ 32 by omega))
          cases hp : p (8 * r + c) with
          | none =>
            have hq : qOf p f (8 * r + c) = none := by unfold qOf; rw [hp]; rfl
            rw [hq] at HRL
            rw [hp] at hcs
            have HC := Lib.hid hcs
            clear hcs hq hle
            go_wp2_with (first | ((with_reducible refine ev_rload ?_); refine ⟨rfl, _, _, _, rfl, HRL.out, ?_⟩; (simp only [Act.put, List.setIfInBounds_toArray, List.set_cons_succ, List.set_cons_zero])) | ((with_reducible refine ev_alloc hSt zX5 ?_); refine ⟨rfl, ?_⟩; intro gN wN hSt; (simp only [Act.put, List.setIfInBounds_toArray, List.set_cons_succ, List.set_cons_zero])) | ((with_reducible refine ev_store hSt aX5 ?_); refine ⟨rfl, _, [], _, _, _, rfl, rfl, rfl, rfl, rfl, rfv_one _, ?_⟩; intro wN hSt; simp only [List.nil_append] at hSt; simp only [Act.put]) | ((with_reducible refine ev_load1 hSt oBool ?_); refine ⟨rfl, _, _, _, _, _, rfl, (by repeat (first | exact List.mem_cons_self .. | refine List.mem_cons_of_mem _ ?_)), (by first | exact rfs_4 _ | exact rfn_4), ?_⟩; (simp only [Act.put, List.setIfInBounds_toArray, List.set_cons_succ, List.set_cons_zero])))
            refine ⟨⟨c + 1, by omega, by simp, ?_, hSt.sub0⟩, by simp only [intOf]; omega⟩
            rw [← Nat.add_assoc, HC.out]
            rfl
          | some g =>
            have hq : qOf p f (8 * r + c) = some (f (8 * r + c)) := by unfold qOf; rw [hp]; rfl
            rw [hq] at HRL
            rw [hp] at hcs
            by_cases he : (f (8 * r + c)).2.2.2 = n
            · have e1 : ((f (8 * r + c)).2.2.2 == n) = true := beq_iff_eq.2 he
              rw [decide_eq_true he] at hcs
              have HC := Lib.hid hcs
              have HL := Lib.hid hle
              clear hcs hq he hle
              go_wp2_with (first | ((with_reducible refine ev_rload ?_); refine ⟨rfl, _, _, _, rfl, HRL.out, ?_⟩; (simp only [Act.put, List.setIfInBounds_toArray, List.set_cons_succ, List.set_cons_zero])) | ((with_reducible refine ev_alloc hSt zX5 ?_); refine ⟨rfl, ?_⟩; intro gN wN hSt; (simp only [Act.put, List.setIfInBounds_toArray, List.set_cons_succ, List.set_cons_zero])) | ((with_reducible refine ev_store hSt aX5 ?_); refine ⟨rfl, _, [], _, _, _, rfl, rfl, rfl, rfl, rfl, rfv_one _, ?_⟩; intro wN hSt; simp only [List.nil_append] at hSt; simp only [Act.put]) | ((with_reducible refine ev_load1 hSt oBool ?_); refine ⟨rfl, _, _, _, _, _, rfl, (by repeat (first | exact List.mem_cons_self .. | refine List.mem_cons_of_mem _ ?_)), (by first | exact rfs_4 _ | exact rfn_4), ?_⟩; (simp only [Act.put, List.setIfInBounds_toArray, List.set_cons_succ, List.set_cons_zero])) | ((with_reducible refine ev_load1 hSt oInt ?_); refine ⟨rfl, _, _, _, _, _, rfl, (by repeat (first | exact List.mem_cons_self .. | refine List.mem_cons_of_mem _ ?_)), (by first | exact rfs_0 _ | exact rfs_3 _), ?_⟩; (simp only [Act.put, List.setIfInBounds_toArray, List.set_cons_succ, List.set_cons_zero])))
              refine ⟨⟨c + 1, by omega, by simp, ?_, hSt.sub0⟩, by simp only [intOf]; omega⟩
              rw [← Nat.add_assoc, HC.out, HL.out]
              rfl
            · have e1 : ((f (8 * r + c)).2.2.2 == n) = false := beq_eq_false_iff_ne.2 he
              rw [decide_eq_false he] at hcs
              have HC := Lib.hid hcs
              clear hcs hq he hle
              go_wp2_with (first | ((with_reducible refine ev_rload ?_); refine ⟨rfl, _, _, _, rfl, HRL.out, ?_⟩; (simp only [Act.put, List.setIfInBounds_toArray, List.set_cons_succ, List.set_cons_zero])) | ((with_reducible refine ev_alloc hSt zX5 ?_); refine ⟨rfl, ?_⟩; intro gN wN hSt; (simp only [Act.put, List.setIfInBounds_toArray, List.set_cons_succ, List.set_cons_zero])) | ((with_reducible refine ev_store hSt aX5 ?_); refine ⟨rfl, _, [], _, _, _, rfl, rfl, rfl, rfl, rfl, rfv_one _, ?_⟩; intro wN hSt; simp only [List.nil_append] at hSt; simp only [Act.put]) | ((with_reducible refine ev_load1 hSt oBool ?_); refine ⟨rfl, _, _, _, _, _, rfl, (by repeat (first | exact List.mem_cons_self .. | refine List.mem_cons_of_mem _ ?_)), (by first | exact rfs_4 _ | exact rfn_4), ?_⟩; (simp only [Act.put, List.setIfInBounds_toArray, List.set_cons_succ, List.set_cons_zero])) | ((with_reducible refine ev_load1 hSt oInt ?_); refine ⟨rfl, _, _, _, _, _, rfl, (by repeat (first | exact List.mem_cons_self .. | refine List.mem_cons_of_mem _ ?_)), (by first | exact rfs_0 _ | exact rfs_3 _), ?_⟩; (simp only [Act.put, List.setIfInBounds_toArray, List.set_cons_succ, List.set_cons_zero])))
              refine ⟨⟨c + 1, by omega, by simp, ?_, hSt.sub0⟩, by simp only [intOf]; omega⟩
              rw [← Nat.add_assoc, HC.out]
              rfl
end Go.Proofs.Ytfacegnnmgmjmaa
