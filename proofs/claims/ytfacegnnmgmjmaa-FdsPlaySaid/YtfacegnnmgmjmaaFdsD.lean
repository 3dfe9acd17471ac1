/- Chapter 28: each and Opens, walked. -/
import Derived.Test.YtfacegnnmgmjmaaFdsC
namespace Go.Proofs.Ytfacegnnmgmjmaa
open Go.RowKit
set_option linter.unusedSimpArgs false
set_option linter.unusedVariables false

theorem aTb : AggT Try.prog 64 32 := ⟨by kernel_rfl, by kernel_rfl⟩
def zR : Array Value := #[.pointer none, .pointer none, .pointer none, .pointer none, .pointer none, .pointer none, .pointer none, .pointer none]
theorem zX3 : ZeroT Try.prog 63 zR := by unfold ZeroT; kernel_rfl

/-- A row's cells. -/
@[irreducible] def rcs (p : Nat → Option Nat) (o : Nat) : Array Value := (tc p).extract o (o + 8)
theorem rcs_size (p : Nat → Option Nat) (o : Nat) (h : o ≤ 24) : (rcs p o).size = 8 := by unfold rcs; rw [Array.size_extract, tc_size]; omega
theorem rcs_get (p : Nat → Option Nat) (o i : Nat) (h : o ≤ 24) (hi : i < 8) : (rcs p o)[i]? = some (pv (p (o + i))) := by
  unfold rcs
  rw [Array.getElem?_extract_of_lt (by rw [tc_size]; omega)]
  have := tc_get p (o + i) (by omega)
  rw [← this, Array.getElem?_eq_getElem (by rw [tc_size]; omega)]
theorem rcs_one (p : Nat → Option Nat) (o : Nat) (h : o ≤ 24) : (rcs p o).all (·.oneCell') = true := by
  rw [Array.all_eq_true]
  intro i hi
  rw [rcs_size p o h] at hi
  have := rcs_get p o i h hi
  rw [Array.getElem?_eq_getElem (by rw [rcs_size p o h]; exact hi), Option.some.injEq] at this
  rw [this]
  rfl
theorem T63 : Try.prog.underlying 63 = some (.array 8 61) := Try.underlying63
theorem T64 : Try.prog.underlying 64 = some (.array 4 63) := Try.underlying64
theorem s61 : (Try.prog.info? 61).map (·.size) = some 1 := by kernel_rfl
theorem run_index_rows (p : Nat → Option Nat) (r : Nat) (hr : r < 4) (w : World) : (Instr.index 64 (.agg (tc p)) (.int .i64 r)).run Try.prog w = .ok (.agg (rcs p (8 * r))) w := by
  obtain ⟨i, hi, hs⟩ := Option.map_eq_some_iff.1 aX2.2
  simp [Instr.index, run_underlying T64, asIntOf, go_sem, sizeOf, typeInfo, hi, hs]
  rw [if_pos hr, rcs, Nat.mul_comm]
theorem run_index_row (p : Nat → Option Nat) (o c : Nat) (ho : o ≤ 24) (hc : c < 8) (w : World) : (Instr.index 63 (.agg (rcs p o)) (.int .i64 c)).run Try.prog w = .ok (pv (p (o + c))) w := by
  obtain ⟨i, hi, hs⟩ := Option.map_eq_some_iff.1 s61
  have hg := rcs_get p o c ho hc
  simp [Instr.index, run_underlying T63, asIntOf, go_sem, sizeOf, typeInfo, hi, hs, hg]
  omega

/-- How many of the first k have an inode. -/
def cnt (p : Nat → Option Nat) (f : Nat → FileT) (ino : Int) (k : Nat) : Nat := (List.range k).countP fun i => (p i).isSome && decide ((f i).1 = ino)
theorem cnt_succ (p : Nat → Option Nat) (f : Nat → FileT) (ino : Int) (k : Nat) : cnt p f ino (k + 1) = cnt p f ino k + (if (p k).isSome && decide ((f k).1 = ino) then 1 else 0) := by
  simp only [cnt, List.range_succ, List.countP_append, List.countP_cons, List.countP_nil, Nat.zero_add]

theorem fv_0 (x : FileT) : (fv x)[0]? = some (.int .i64 x.1) := rfl
theorem one_0 (v : Value) : (#[v] : Array Value)[0]? = some v := rfl
theorem St.tail {w0 w : World} {x : Nat × Obj} {l : List (Nat × Obj)} (h : St w0 (x :: l) w) : St w0 l w :=
  ⟨h.base, fun y hy => h.own y (List.mem_cons_of_mem _ hy), (List.nodup_cons.1 h.nodup).2⟩

set_option maxHeartbeats 1000000 in
set_option maxRecDepth 100000 in
theorem clo_is (g3 g5 : Nat) (x : FileT) (ino : Int) (n : Nat) (hn : n ≤ 1000) (r : Nat × Obj) (w0 w : World)
    (hSt : St w0 [r, (g5, .cells #[.int .i64 n] 3 (0, 0)), (g3, .cells #[.int .i64 ino] 3 (0, 0))] w) :
    Calls Try.prog 32 #[.agg (fv x), .pointer (some ⟨g3, 0, none⟩), .pointer (some ⟨g5, 0, none⟩)] w fun e w' => e = .returned (.tuple #[]) ∧
      St w0 [r, (g5, .cells #[.int .i64 ((n + (if x.1 = ino then 1 else 0) : Nat) : Int)] 3 (0, 0)), (g3, .cells #[.int .i64 ino] 3 (0, 0))] w' := by
  have hw : wrap64 ((n : Int) + 1) = n + 1 := by unfold wrap64; omega
  go_enter Try.func32, Try.ntmps32
  by_cases hx : x.1 = ino
  · have e1 : (x.1 == ino) = true := by simpa using hx
    rw [if_pos hx]
    clear hx
    go_wp2_with (first
      | ((with_reducible refine ev_box hSt ?_); refine ⟨rfl, _, rfl, ?_⟩; intro gN wN hSt; (simp only [Act.put, List.setIfInBounds_toArray, List.set_cons_succ, List.set_cons_zero]))
      | ((with_reducible refine ev_load1 hSt oInt ?_); refine ⟨rfl, _, _, _, _, _, rfl, (by repeat (first | exact List.mem_cons_self .. | refine List.mem_cons_of_mem _ ?_)), (by first | exact fv_0 x | exact one_0 _), ?_⟩; (simp only [Act.put, List.setIfInBounds_toArray, List.set_cons_succ, List.set_cons_zero]))
      | ((with_reducible refine ev_store1 hSt (by kernel_rfl) ?_); refine ⟨rfl, _, _, [_, _], _, _, _, .int .i64 ((n : Int) + 1), rfl, rfl, rfl, Nat.zero_lt_one, rfl, ?_⟩; intro wN hSt; simp only [List.nil_append, List.cons_append] at hSt; simp only [Act.put]))
    go_end0
    exact ⟨rfl, hSt.tail⟩
  · have e1 : (x.1 == ino) = false := by simpa using hx
    rw [if_neg hx]
    clear hx
    go_wp2_with (first
      | ((with_reducible refine ev_box hSt ?_); refine ⟨rfl, _, rfl, ?_⟩; intro gN wN hSt; (simp only [Act.put, List.setIfInBounds_toArray, List.set_cons_succ, List.set_cons_zero]))
      | ((with_reducible refine ev_load1 hSt oInt ?_); refine ⟨rfl, _, _, _, _, _, rfl, (by repeat (first | exact List.mem_cons_self .. | refine List.mem_cons_of_mem _ ?_)), (by first | exact fv_0 x | exact one_0 _), ?_⟩; (simp only [Act.put, List.setIfInBounds_toArray, List.set_cons_succ, List.set_cons_zero])))
    go_end0
    exact ⟨rfl, hSt.tail⟩

set_option maxHeartbeats 1000000 in
set_option maxRecDepth 100000 in
theorem each_is (tb g3 g5 : Nat) (p : Nat → Option Nat) (f : Nat → FileT) (ino : Int) (w0 w : World) (hT : Tab w0 tb p f)
    (hSt : St w0 [(g5, .cells #[.int .i64 0] 3 (0, 0)), (g3, .cells #[.int .i64 ino] 3 (0, 0))] w) :
    Calls Try.prog 31 #[.pointer (some ⟨tb, 0, none⟩), .func (.func 32) #[] #[.pointer (some ⟨g3, 0, none⟩), .pointer (some ⟨g5, 0, none⟩)]] w fun e w' => e = .returned (.tuple #[]) ∧
      St w0 [(g5, .cells #[.int .i64 (cnt p f ino 32)] 3 (0, 0)), (g3, .cells #[.int .i64 ino] 3 (0, 0))] w' := by
  have hTab := (hT.ext hSt.base).tab
  go_enter Try.func31, Try.ntmps31
  go_wp2_with (first | ((with_reducible refine ev_load_blk aTb ?_); refine ⟨rfl, _, _, _, rfl, hTab, tc_size _, ?_⟩; (simp only [Act.put, List.setIfInBounds_toArray, List.set_cons_succ, List.set_cons_zero])))
  go_loopw [14] (fun i wr => ∃ r : Nat, r ≤ 4 ∧ i = .int .i64 r ∧ St w0 [(g5, .cells #[.int .i64 (cnt p f ino (8 * r))] 3 (0, 0)), (g3, .cells #[.int .i64 ino] 3 (0, 0))] wr) (fun i _ => 4 - (intOf i).toNat)
  case atStart => exact ⟨0, by omega, rfl, hSt⟩
  case round =>
    obtain ⟨r, hr, rfl, hSt⟩ := hrel
    by_cases h : r = 4
    · subst h
      go_wp2
      go_end0
      exact ⟨rfl, hSt⟩
    · have hlt : r < 4 := by omega
      have hlt' : (r : Int) < 4 := by omega
      have hix := fun w => run_index_rows p r hlt w
      have hrs := rcs_size p (8 * r) (by omega)
      go_wp2_with (first
        | ((with_reducible refine ev_alloc hSt zX3 ?_); refine ⟨rfl, ?_⟩; intro gR wN hSt; (simp only [Act.put, List.setIfInBounds_toArray, List.set_cons_succ, List.set_cons_zero]))
        | ((with_reducible refine ev_store hSt aX2 ?_); refine ⟨rfl, _, [], _, _, _, rfl, rfl, rfl, rfl, hrs, rcs_one p (8 * r) (by omega), ?_⟩; intro wN hSt; simp only [List.nil_append] at hSt; simp only [Act.put])
        | ((with_reducible refine ev_load hSt aX2 ?_); refine ⟨rfl, _, _, _, rfl, (by repeat (first | exact List.mem_cons_self .. | refine List.mem_cons_of_mem _ ?_)), hrs, ?_⟩; (simp only [Act.put, List.setIfInBounds_toArray, List.set_cons_succ, List.set_cons_zero])))
      go_loopw [18] (fun i wq => ∃ c : Nat, c ≤ 8 ∧ i = .int .i64 c ∧ St w0 [(gR, .cells (rcs p (8 * r)) 63 (0, 0)), (g5, .cells #[.int .i64 (cnt p f ino (8 * r + c))] 3 (0, 0)), (g3, .cells #[.int .i64 ino] 3 (0, 0))] wq) (fun i _ => 8 - (intOf i).toNat)
      case atStart => exact ⟨0, by omega, rfl, hSt⟩
      case round =>
        obtain ⟨c, hc, rfl, hSt⟩ := hrel
        by_cases h8 : c = 8
        · subst h8
          go_wp2
          exact ⟨⟨r + 1, by omega, by simp, hSt.tail⟩, by simp only [intOf]; omega⟩
        · have hc8 : c < 8 := by omega
          have hc8' : (c : Int) < 8 := by omega
          have hix2 := fun w => run_index_row p (8 * r) c (by omega) hc8 w
          cases hp : p (8 * r + c) with
          | none =>
            have hix3 : ∀ w, (Instr.index 63 (.agg (rcs p (8 * r))) (.int .i64 c)).run Try.prog w = .ok (.pointer none) w := fun w => by rw [hix2 w, hp]; rfl
            clear hix2
            go_wp2
            refine ⟨⟨c + 1, by omega, by simp, ?_⟩, by simp only [intOf]; omega⟩
            rw [← Nat.add_assoc, cnt_succ, hp]
            exact hSt
          | some g =>
            have hix3 : ∀ w, (Instr.index 63 (.agg (rcs p (8 * r))) (.int .i64 c)).run Try.prog w = .ok (.pointer (some ⟨g, 0, none⟩)) w := fun w => by rw [hix2 w, hp]; rfl
            clear hix2
            have hgf := ((hT.ext hSt.base).file (8 * r + c) g (by omega) hp).1
            have hcn : cnt p f ino (8 * r + c) ≤ 1000 := by
              have : cnt p f ino (8 * r + c) ≤ (List.range (8 * r + c)).length := List.countP_le_length
              rw [List.length_range] at this
              omega
            have hcs := cnt_succ p f ino (8 * r + c)
            rw [hp] at hcs
            go_wp2_with (first | ((with_reducible refine ev_load_blk aX1 ?_); refine ⟨rfl, _, _, _, rfl, hgf, rfl, ?_⟩; (simp only [Act.put, List.setIfInBounds_toArray, List.set_cons_succ, List.set_cons_zero])) | (go_at_call 32; refine (clo_is g3 g5 _ ino _ hcn _ w0 _ hSt).mono ?_; rintro e w9 ⟨rfl, hSt9⟩))
            refine ⟨⟨c + 1, by omega, by simp, ?_⟩, by simp only [intOf]; omega⟩
            rw [← Nat.add_assoc, hcs]
            simpa using hSt9
end Go.Proofs.Ytfacegnnmgmjmaa
