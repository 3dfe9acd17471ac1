/- Chapter 16: insn.Encode, walked. -/
import Derived.Test.YtioknjdbijogpaaInsB
import Derived.Test.YtioknjdbijogpaaBldC
import Derived.Test.YtioknjdbijogpaaBldS
import Derived.Test.YtioknjdbijogpaaPgTextO
import Derived.Test.YtioknjdbijogpaaPgLawsO
namespace Go.Proofs.Ytioknjdbijogpaa
open Go.RowKit PInsnKinds
set_option linter.unusedSimpArgs false
set_option linter.unusedVariables false

theorem aPg : AggT Try.prog 73 64 := ⟨by kernel_rfl, by kernel_rfl⟩
theorem zPg : ZeroT Try.prog 73 (pgc zp) := by unfold ZeroT; kernel_rfl

set_option maxHeartbeats 1000000 in
set_option maxRecDepth 100000 in
theorem bldWriteStr (B b : Nat) (bs : List Value) (s : ByteArray) (w : World) (h : Lib.IsBuilderF 58 5 B b bs w) (hn : bs.length + s.size ≤ 140737488355328) (hB : B ≤ w.heap.size) :
    Calls Try.prog 35 #[.pointer (some ⟨b, 0, none⟩), .string s] w fun e w' => ∃ x, e = .returned (.tuple #[x, .nilIface]) ∧ Lib.BuilderAtF 58 5 B b (.pointer (some ⟨b, 0, none⟩)) (bs ++ Lib.strCells s) w' ∧ Below B w w' := by
  obtain ⟨i0, hi, hz0, hz1, hz2⟩ := info_parts byteInfo
  go_enter Try.func35, Try.ntmps35
  go_wp2_with (first
    | (go_at_call 43; refine (copyCheck_b B b bs _ h).mono ?_; rintro e w1 ⟨rfl, hb1, hl1, hk1⟩
       obtain ⟨hBb, v, hbk, hown, hne⟩ := hb1
       have c0 : w1.cell? ⟨b, 0, none⟩ = some (.pointer (some ⟨b, 0, none⟩)) := by rw [Lib.cell_of_heap hbk]; rfl
       have c1 : w1.cell? ⟨b, 1, none⟩ = some v := by rw [Lib.cell_of_heap hbk]; rfl)
    | (at_builtin; refine Lib.wpList_append_own_stringF _ rfl _ _ 56 9 rfl B 5 i0 Try.underlying56 Try.underlying9 hi hz0 hz1 hz2 _ _ _ rfl hown s rfl ?c3 ?c4 ?c5 ?_))
  case c3 => unfold maxLen; omega
  case c4 => omega
  case c5 => exact Nat.le_trans hB hl1.size
  intro v' w2 hown' hgrow _
  have hlt : b < w1.heap.size := (Array.getElem?_eq_some_iff.1 hbk).1
  have hbk2 := (hgrow.block b hlt (fun e => hne e.symm)).trans hbk
  have d0 : w2.cell? ⟨b, 0, none⟩ = some (.pointer (some ⟨b, 0, none⟩)) := by rw [Lib.cell_of_heap hbk2]; rfl
  have d1 : w2.cell? ⟨b, 1, none⟩ = some v := by rw [Lib.cell_of_heap hbk2]; rfl
  have f1 : w2.frozen? ⟨b, 1, none⟩ = false := Lib.frozen_of_heap hbk2 1
  have hl2 : Below B w w2 := hl1.grown hgrow (Nat.le_trans hB hl1.size) (fun k hk => (hown.lt k hk).1)
  obtain ⟨ao', n', cap', rfl⟩ : ∃ ao n cap, v' = .slice ao n cap := by
    rcases hown'.2 with ⟨hv, h0⟩ | ⟨g, cap, cur, fz, hv, _⟩
    · exact ⟨_, _, _, hv⟩
    · exact ⟨_, _, _, hv⟩
  go_wp2
  go_ret2
  refine ⟨_, rfl, ?_, ?_⟩
  · exact Lib.BuilderAtF.put (T := 58) (e := 5) hBb hbk2 (bs' := bs ++ Lib.strCells s) (by simpa [Lib.strCells_length] using hown') (by decide)
  · exact hl2.setCell (p := ⟨b, 1, none⟩) hBb _

/-- An instruction's bytes. -/
def encT (f : Nat → Int) : ByteArray := pgtext (pset (pset (pset (pset zp 0 1 (f 0)) 1 1 (bits .or .i64 (wrap64 (f 1 * 16)) (f 2))) 2 2 (f 3)) 4 4 (f 4)) 0 8
theorem encT_data (f : Nat → Int) : (encT f).data.toList = (List.range 8).map (pset (pset (pset (pset zp 0 1 (f 0)) 1 1 (bits .or .i64 (wrap64 (f 1 * 16)) (f 2))) 2 2 (f 3)) 4 4 (f 4)) := by
  unfold encT
  generalize pset (pset (pset (pset zp 0 1 (f 0)) 1 1 (bits .or .i64 (wrap64 (f 1 * 16)) (f 2))) 2 2 (f 3)) 4 4 (f 4) = p
  have h : inPg 0 8 := by unfold inPg; omega
  rw [pgtext, if_pos h, ptxt, strOfNums_data]
  simp
theorem encT_size (f : Nat → Int) : (encT f).size = 8 := by
  have h : (encT f).size = (encT f).data.toList.length := by rw [Array.length_toList]; rfl
  rw [h, encT_data, List.length_map, List.length_range]
def encL (fs : List (Nat → Int)) : List UInt8 := fs.flatMap fun f => (encT f).data.toList

theorem encL_snoc (fs : List (Nat → Int)) (f : Nat → Int) : encL (fs ++ [f]) = encL fs ++ (encT f).data.toList := by simp [encL]
theorem encL_len (fs : List (Nat → Int)) : (encL fs).length = 8 * fs.length := by
  induction fs with
  | nil => rfl
  | cons f fs ih =>
    have e : encL (f :: fs) = (encT f).data.toList ++ encL fs := rfl
    rw [e, List.length_append, ih, encT_data, List.length_map, List.length_range, List.length_cons]; omega

set_option maxHeartbeats 1000000 in
set_option maxRecDepth 100000 in
theorem encode_yes (a : Option Addr) (fs : List (Nat → Int)) (cap : Nat) (w : World) (hl : InSl w a fs) (h : allB fs = true) :
    Calls Try.prog 22 #[.slice a fs.length cap] w fun e w' => e = .returned (.tuple #[.string ⟨(encL fs).toArray⟩, .int .i64 0]) ∧ Below w.heap.size w w' := by
  have hn : fs.length ≤ 64 := by
    simp only [allB, Bool.and_eq_true, decide_eq_true_eq] at h
    exact h.1.2
  have hR := fun w hl => Right_is a fs cap w hl (by omega)
  rw [h] at hR
  clear h
  go_enter Try.func22, Try.ntmps22
  go_wp2_with (go_at_call 23; refine (hR _ hl).mono ?_; rintro e w0 ⟨rfl, hb0⟩)
  go_loopw [13] (fun i wr => ∃ k : Nat, k ≤ fs.length ∧ i = .int .i64 k ∧ Below w0.heap.size w0 wr ∧ Lib.IsBuilderF 58 5 w0.heap.size w0.heap.size (Lib.byteCells (encL (fs.take k))) wr) (fun i _ => fs.length - (intOf i).toNat)
  case atStart =>
    exact ⟨0, by omega, rfl, (Below.refl _ w0).alloc (Nat.le_refl _) _, Lib.IsBuilderF.of (Lib.fresh_isBuilder 58 5 w0)⟩
  case round =>
    obtain ⟨k, hk, rfl, hbw, hI⟩ := hrel
    by_cases h : k = fs.length
    · subst h
      rw [List.take_length] at hI
      go_wp2_with (go_at_call 30; refine (bldString w0.heap.size w0.heap.size _ _ hI hbw.size).mono ?_; rintro e W1 ⟨rfl, -, b1, -⟩)
      go_ret2
      exact ⟨rfl, hb0.trans ((hbw.trans b1).mono hb0.size)⟩
    · have hlt : k < fs.length := by omega
      have hlt' : (k : Int) < fs.length := by omega
      obtain ⟨x, rfl, hat⟩ := (hl.ext (hb0.trans (hbw.mono hb0.size))) k hlt
      have hsn := List.take_succ_eq_append_getElem hlt
      generalize fs[k] = f at hat hsn
      have hSt := St.start wr
      go_wp2_with (first
        | ((with_reducible refine in_load_at ?_); refine ⟨rfl, _, _, rfl, hat, ?_⟩; (simp only [Act.put, List.setIfInBounds_toArray, List.set_cons_succ, List.set_cons_zero]))
        | ((with_reducible refine ev_alloc hSt (by first | exact zPg | exact zHd | exact zHr | exact zX1 | exact zX2 | exact zX3 | exact zX4) ?_); refine ⟨rfl, ?_⟩; intro gN wN hSt; (simp only [Act.put, List.setIfInBounds_toArray, List.set_cons_succ, List.set_cons_zero]))
        | ((with_reducible refine ev_store hSt aX1 ?_); refine ⟨rfl, _, [], _, _, _, rfl, rfl, rfl, rfl, rfl, (by simp [inv, Value.oneCell']), ?_⟩; intro wN hSt; simp only [List.nil_append] at hSt; simp only [Act.put])
        | ((with_reducible refine pg_build ?_); refine ⟨rfl, ?_⟩; (simp only [Act.put, List.setIfInBounds_toArray, List.set_cons_succ, List.set_cons_zero]))
        | ((with_reducible refine ev_load1 hSt (by first | exact oInt | exact oBool) ?_); refine ⟨rfl, _, _, _, _, _, rfl, (by repeat (first | exact List.mem_cons_self .. | refine List.mem_cons_of_mem _ ?_)), (by first | exact inv_get _ _ (by decide) | rfl), ?_⟩; (simp only [Act.put, List.setIfInBounds_toArray, List.set_cons_succ, List.set_cons_zero]))
        | ((with_reducible refine ev_store hSt (by first | exact aPg | exact aHd | exact aHr | exact aX1 | exact aX2 | exact aX3 | exact aX4) ?_); (first | refine ⟨rfl, _, [], _, _, _, rfl, rfl, rfl, (by first | exact pgc_size _ | exact nc_size _ _ | rfl), (by first | exact pgc_size _ | exact nc_size _ _ | rfl), (by first | exact pgc_one _ | exact nc_one _ _ | (simp [Value.oneCell']; done) | rfl), ?_⟩ | refine ⟨rfl, _, [_], _, _, _, rfl, rfl, rfl, (by first | exact pgc_size _ | exact nc_size _ _ | rfl), (by first | exact pgc_size _ | exact nc_size _ _ | rfl), (by first | exact pgc_one _ | exact nc_one _ _ | (simp [Value.oneCell']; done) | rfl), ?_⟩ | refine ⟨rfl, _, [_, _], _, _, _, rfl, rfl, rfl, (by first | exact pgc_size _ | exact nc_size _ _ | rfl), (by first | exact pgc_size _ | exact nc_size _ _ | rfl), (by first | exact pgc_one _ | exact nc_one _ _ | (simp [Value.oneCell']; done) | rfl), ?_⟩ | refine ⟨rfl, _, [_, _, _], _, _, _, rfl, rfl, rfl, (by first | exact pgc_size _ | exact nc_size _ _ | rfl), (by first | exact pgc_size _ | exact nc_size _ _ | rfl), (by first | exact pgc_one _ | exact nc_one _ _ | (simp [Value.oneCell']; done) | rfl), ?_⟩ | refine ⟨rfl, _, [_, _, _, _], _, _, _, rfl, rfl, rfl, (by first | exact pgc_size _ | exact nc_size _ _ | rfl), (by first | exact pgc_size _ | exact nc_size _ _ | rfl), (by first | exact pgc_one _ | exact nc_one _ _ | (simp [Value.oneCell']; done) | rfl), ?_⟩); intro wN hSt; simp only [List.nil_append, List.cons_append] at hSt; simp only [Act.put])
        | ((with_reducible refine ev_load hSt (by first | exact aPg | exact aHd | exact aHr | exact aX1 | exact aX2 | exact aX3 | exact aX4) ?_); refine ⟨rfl, _, _, _, rfl, (by repeat (first | exact List.mem_cons_self .. | refine List.mem_cons_of_mem _ ?_)), (by first | exact pgc_size _ | exact nc_size _ _ | rfl), ?_⟩; (simp only [Act.put, List.setIfInBounds_toArray, List.set_cons_succ, List.set_cons_zero]))
        | (go_at_call 34; refine (set_any _ _ _ _ _).mono ?_; rintro e w1 ⟨rfl, hb9⟩; replace hSt := hSt.ext hb9)
        | (go_at_call 36; refine (text_any _ _ _ _).mono ?_; rintro e w1 ⟨rfl, hb9⟩; replace hSt := hSt.ext hb9)
        | (go_at_call 35; refine (bldWriteStr w0.heap.size w0.heap.size _ (encT f) _ (bldF_below hI hSt.base) (by rw [Lib.byteCells_length, encL_len, encT_size, List.length_take]; omega) (Nat.le_trans hbw.size hSt.base.size)).mono ?_; rintro e w2 ⟨x1, rfl, hbb, hbl⟩))
      refine ⟨⟨k + 1, by omega, by simp, (hbw.trans (hSt.base.mono hbw.size)).trans hbl, .inr ?_⟩, by simp only [intOf]; omega⟩
      rw [hsn, encL_snoc, Lib.byteCells_append]
      exact hbb

set_option maxHeartbeats 1000000 in
set_option maxRecDepth 100000 in
theorem encode_no (a : Option Addr) (fs : List (Nat → Int)) (cap : Nat) (w : World) (hl : InSl w a fs) (hn : fs.length ≤ 9223372036854775807) (h : allB fs = false) :
    Calls Try.prog 22 #[.slice a fs.length cap] w fun e w' => e = .returned (.tuple #[.string ⟨#[]⟩, .int .i64 22]) ∧ Below w.heap.size w w' := by
  have hR := fun w hl => Right_is a fs cap w hl hn
  rw [h] at hR
  go_enter Try.func22, Try.ntmps22
  go_wp2_with (go_at_call 23; refine (hR _ hl).mono ?_; rintro e w0 ⟨rfl, hb0⟩)
  go_ret2
  exact ⟨rfl, hb0⟩
end Go.Proofs.Ytioknjdbijogpaa
