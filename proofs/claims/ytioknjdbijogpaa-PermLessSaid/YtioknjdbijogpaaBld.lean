/- A strings.Builder that the call has made: what copyCheck and WriteRune (of one byte's runes) do. -/
import Derived.Test.YtioknjdbijogpaaProg
import Derived.Test.YtioknjdbijogpaaSeq
import Derived.Shelf.Strings.BuilderK
import Derived.WalkKit
import Derived.KernelRfl
namespace Go.Proofs.Ytioknjdbijogpaa
open Go.RowKit
set_option linter.unusedSimpArgs false
set_option linter.unusedVariables false

theorem bldSize : (Try.prog.info? 58).map (·.size) = some 2 := by kernel_rfl
theorem bldLies : liesAt Try.prog Try.prog.depth 58 (2 / Try.prog.cellsOf 58) 0 58 1 = true := by kernel_rfl
theorem byteInfo : (Try.prog.info? 5).map (fun i => (i.zero, i.size, i.bytes)) = some (some (.int .u8 0), 1, 1) := by kernel_rfl

set_option maxHeartbeats 1000000 in
set_option maxRecDepth 100000 in
theorem copyCheck_used (b : Nat) (w : World) (h0 : w.cell? ⟨b, 0, none⟩ = some (.pointer (some ⟨b, 0, none⟩))) :
    Calls Try.prog 43 #[.pointer (some ⟨b, 0, none⟩)] w fun e w' => e = .returned (.tuple #[]) ∧ w' = w := by
  obtain ⟨j, hj, _⟩ := Option.map_eq_some_iff.1 bldSize
  go_enter Try.func43, Try.ntmps43
  go_wp2
  rw [Lib.run_neq_ptr_same w _ Try.underlying55 hj]
  go_wp2
  go_end0
  exact ⟨rfl, rfl⟩

set_option maxHeartbeats 1000000 in
set_option maxRecDepth 100000 in
theorem copyCheck_fresh (b : Nat) (w : World) (h0 : w.cell? ⟨b, 0, none⟩ = some (.pointer none)) (hsh : w.shape? b = some (58, 2)) (hfz : w.frozen? ⟨b, 0, none⟩ = false) :
    Calls Try.prog 43 #[.pointer (some ⟨b, 0, none⟩)] w fun e w' => e = .returned (.tuple #[]) ∧ w' = w.setCell ⟨b, 0, none⟩ (.pointer (some ⟨b, 0, none⟩)) := by
  obtain ⟨j, hj, hjs⟩ := Option.map_eq_some_iff.1 bldSize
  go_enter Try.func43, Try.ntmps43
  go_wp2
  rw [Lib.run_to_unsafe w ⟨b, 0, none⟩ Try.underlying55 Try.underlying92 hj (by rw [hjs]; decide) hsh (Nat.zero_lt_succ 1)]
  simp only [Result.andThen]
  rw [Oper.upon_value]
  go_wp2
  rw [run_callFunc_extern Try.func53 (by kernel_rfl) (by kernel_rfl) (by kernel_rfl) (e := Extern.AbiNoEscape.same) (by kernel_rfl)]
  rw [Lib.run_noEscape]
  simp only [Result.andThen]
  rw [Oper.upon_value]
  go_wp2
  rw [Lib.run_from_unsafe w ⟨b, 0, none⟩ Try.underlying92 Try.underlying55 hj hsh bldLies]
  simp only [Result.andThen]
  rw [Oper.upon_value]
  go_wp2
  go_end0
  exact ⟨rfl, rfl⟩

theorem copyCheck_b (B b : Nat) (bs : List Value) (w : World) (h : Lib.IsBuilderF 58 5 B b bs w) :
    Calls Try.prog 43 #[.pointer (some ⟨b, 0, none⟩)] w fun e w' => e = .returned (.tuple #[]) ∧ Lib.BuilderAtF 58 5 B b (.pointer (some ⟨b, 0, none⟩)) bs w' ∧ Below B w w' ∧ Lib.OthersKept 5 (some b) w w' := by
  rcases h with h | h
  · refine (copyCheck_fresh b w h.cell0 h.shape h.frozen0).mono ?_
    rintro e w' ⟨rfl, rfl⟩
    exact ⟨rfl, h.used _, (Below.refl B w).setCell (p := ⟨b, 0, none⟩) h.1 _, (Lib.OthersKept.refl _ _ w).setCell ⟨b, 0, none⟩ rfl _⟩
  · refine (copyCheck_used b w h.cell0).mono ?_
    rintro e w' ⟨rfl, rfl⟩
    exact ⟨rfl, h, Below.refl B _, Lib.OthersKept.refl _ _ _⟩

set_option maxHeartbeats 1000000 in
set_option maxRecDepth 100000 in
theorem appendRune_ascii (B n : Nat) (v : Value) (xs : List Value) (c : Int) (h0 : 0 ≤ c) (h1 : c ≤ 127) (w : World) (hown : w.ownsRowF B 5 1 v n xs) (hn : n + 1 ≤ 140737488355328) (hB : B ≤ w.heap.size) :
    Calls Try.prog 44 #[v, .int .i32 c] w fun e w' => ∃ v', e = .returned v' ∧ w'.ownsRowF B 5 1 v' (n + 1) (xs ++ [.int .u8 c]) ∧ Below B w w' ∧ Lib.OthersKept 5 none w w' := by
  obtain ⟨i0, hi, hz0, hz1, hz2⟩ := info_parts byteInfo
  go_enter Try.func44, Try.ntmps44
  go_wp2_with (at_builtin; refine wpList_append_ownF _ rfl _ _ 56 rfl B 5 i0 (.int .u8 0) 1 1 Try.underlying56 hi hz0 hz1 hz2 rfl (by decide) _ _ _ rfl (hown.alloc _) ⟨w.heap.size, 0, none⟩ 1 1 [.int .u8 c] rfl rfl ?c1 ?c2 ?c3 ?c4 ?c5 ?_)
  case c1 =>
    intro j u hj
    match j, hj with
    | 0, hj => simp at hj; subst hj; simp [Addr.add]
  case c2 => intro u hu; simp at hu; subst hu; rfl
  case c3 => unfold maxLen; omega
  case c4 => omega
  case c5 => simp; omega
  intro v' w2 hown' hgrow _
  go_wp2
  go_ret
  refine ⟨_, rfl, hown', ?_, ?_⟩
  · exact ((Below.refl B w).alloc hB _).grown hgrow (by simp; omega) (fun k hk => (hown.lt k hk).1)
  · exact ((Lib.OthersKept.refl _ none w).alloc _).grown hgrow (Lib.ownsRowF_kind (hown.alloc _))

set_option maxHeartbeats 1000000 in
set_option maxRecDepth 100000 in
theorem writeRune_ascii (B b : Nat) (bs : List Value) (c : Int) (h0 : 0 ≤ c) (h1 : c ≤ 127) (w : World) (h : Lib.IsBuilderF 58 5 B b bs w) (hn : bs.length + 1 ≤ 140737488355328) (hB : B ≤ w.heap.size) :
    Calls Try.prog 29 #[.pointer (some ⟨b, 0, none⟩), .int .i32 c] w fun e w' => e = .returned (.tuple #[.int .i64 1, .nilIface]) ∧ Lib.BuilderAtF 58 5 B b (.pointer (some ⟨b, 0, none⟩)) (bs ++ [.int .u8 c]) w' ∧ Below B w w' ∧ Lib.OthersKept 5 (some b) w w' := by
  go_enter Try.func29, Try.ntmps29
  go_wp2_with (first
    | (go_at_call 43; refine (copyCheck_b B b bs _ h).mono ?_; rintro e w1 ⟨rfl, hb1, hl1, hk1⟩
       obtain ⟨hBb, v, hbk, hown, hne⟩ := hb1
       have c0 : w1.cell? ⟨b, 0, none⟩ = some (.pointer (some ⟨b, 0, none⟩)) := by rw [Lib.cell_of_heap hbk]; rfl
       obtain ⟨ao, cap, rfl⟩ : ∃ ao cap, v = .slice ao bs.length cap := by
         rcases hown.2 with ⟨hv, h0⟩ | ⟨g, cap, cur, fz, hv, _⟩
         · exact ⟨none, 0, by rw [hv, h0]⟩
         · exact ⟨_, _, hv⟩
       have c1 : w1.cell? ⟨b, 1, none⟩ = some (.slice ao bs.length cap) := by rw [Lib.cell_of_heap hbk]; rfl)
    | (go_at_call 44; refine (appendRune_ascii B bs.length _ bs c h0 h1 _ hown hn (Nat.le_trans hB hl1.size)).mono ?_; rintro e w2 ⟨v', rfl, hown', hb2, hk2⟩
       have hbk2 := hk2 b _ hbk (by simp) (by intro c fz e; simp at e)
       have d0 : w2.cell? ⟨b, 0, none⟩ = some (.pointer (some ⟨b, 0, none⟩)) := by rw [Lib.cell_of_heap hbk2]; rfl
       have d1 : w2.cell? ⟨b, 1, none⟩ = some (.slice ao bs.length cap) := by rw [Lib.cell_of_heap hbk2]; rfl
       have f1 : w2.frozen? ⟨b, 1, none⟩ = false := Lib.frozen_of_heap hbk2 1
       obtain ⟨ao', cap', rfl⟩ : ∃ ao cap, v' = .slice ao (bs.length + 1) cap := by
         rcases hown'.2 with ⟨hv, h0⟩ | ⟨g, cap, cur, fz, hv, _⟩
         · omega
         · exact ⟨_, _, hv⟩))
  go_ret2
  refine ⟨?_, ?_, ?_, ?_⟩
  · have e : ((bs.length : Int) + 1 - bs.length) = 1 := by omega
    show Ending.returned (.tuple #[.int .i64 ((bs.length : Int) + 1 - bs.length), .nilIface]) = _
    rw [e]
  · exact Lib.BuilderAtF.put (T := 58) (e := 5) hBb hbk2 (bs' := bs ++ [.int .u8 c]) (by simpa using hown') (by decide)
  · exact (hl1.trans (hb2.mono (Nat.le_refl _))).setCell (p := ⟨b, 1, none⟩) hBb _
  · exact (hk1.trans (fun k o hk hb ho => hk2 k o hk (by simp) ho)).setCell ⟨b, 1, none⟩ rfl _
end Go.Proofs.Ytioknjdbijogpaa
