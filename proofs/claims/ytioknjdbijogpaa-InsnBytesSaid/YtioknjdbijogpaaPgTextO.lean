/- The walks of page.Text and page.SetText. -/
import Derived.Test.YtioknjdbijogpaaPgSetO
import Derived.Laws.BytesArg
import Derived.Lib.LazyBuf
namespace Go.Proofs.Ytioknjdbijogpaa
open Go.RowKit
set_option linter.unusedSimpArgs false

/-- The text of n bytes from a on. -/
def ptxt (p : Nat → UInt8) (a n : Nat) : ByteArray := strOfNums ((List.range n).map fun i => ((p (a + i)).toNat : Int))

set_option maxRecDepth 100000 in
set_option maxHeartbeats 400000 in
theorem text_yes (p : Nat → UInt8) (a s : Nat) (w : World) (h3 : a + s ≤ 64) (h4 : a < 64) :
    Calls Try.prog 36 #[.agg (pgc p), .int .i64 a, .int .i64 s] w fun e w' => e = .returned (.string (ptxt p a s)) ∧ Below w.heap.size w w' := by
  have hn : inPg a s := by unfold inPg; omega
  obtain ⟨i, hi, hs⟩ := Option.map_eq_some_iff.1 Try.infoE
  have hsl := fun (w' : World) => run_sliceAt_arr (P := Try.prog) Try.underlying73 hi hs w.heap.size 0 a (a + s) (by omega) (by omega) (by omega) w'
  have hcv := run_convert_bytes_arg (P := Try.prog) (w.alloc (.cells (pgc p) 73)) 56 5 Try.underlying56 Try.underlying5 w.heap.size a s (64 - a) ((List.range s).map fun i => ((p (a + i)).toNat : Int)) (by simp)
    (fun i hi => by
      rw [cell_of_row _ _ _ _ _ _ (heap_alloc_last w _), pgc_get _ _ (by omega)]
      simp [List.getElem?_range hi]) 9 Try.underlying9
  go_enter Try.func36, Try.ntmps36
  go_wp2_with (go_at_call 48; refine (inside_yes _ _ _ hn).mono ?_; rintro e w' ⟨rfl, rfl⟩)
  go_ret
  exact ⟨rfl, (Below.refl _ _).alloc (Nat.le_refl _) _⟩

theorem text_end (p : Nat → UInt8) (w : World) :
    Calls Try.prog 36 #[.agg (pgc p), .int .i64 64, .int .i64 0] w fun e w' => e = .returned (.string (ptxt p 64 0)) ∧ Below w.heap.size w w' := by
  have hn : inPg 64 0 := by unfold inPg; omega
  obtain ⟨i, hi, hs⟩ := Option.map_eq_some_iff.1 Try.infoE
  have hsl := fun (w' : World) => run_sliceAt_arr (P := Try.prog) Try.underlying73 hi hs w.heap.size 0 64 64 (by omega) (by omega) (by omega) w'
  have hcv := run_convert_bytes_arg (P := Try.prog) (w.alloc (.cells (pgc p) 73)) 56 5 Try.underlying56 Try.underlying5 w.heap.size 0 0 0 ((List.range 0).map fun i => ((p (64 + i)).toNat : Int)) (by simp)
    (fun i hi => by omega) 9 Try.underlying9
  go_enter Try.func36, Try.ntmps36
  go_wp2_with (go_at_call 48; refine (inside_yes _ _ _ hn).mono ?_; rintro e w' ⟨rfl, rfl⟩)
  go_ret
  exact ⟨rfl, (Below.refl _ _).alloc (Nat.le_refl _) _⟩

theorem text_no (p : Nat → UInt8) (a s : Int) (w : World) (h : ¬ inPg a s) :
    Calls Try.prog 36 #[.agg (pgc p), .int .i64 a, .int .i64 s] w fun e w' => e = .returned (.string ⟨#[]⟩) ∧ Below w.heap.size w w' := by
  have HN := Lib.hid h; clear h
  go_enter Try.func36, Try.ntmps36
  go_wp2_with (go_at_call 48; refine (inside_no _ _ _ HN.out).mono ?_; rintro e w' ⟨rfl, rfl⟩)
  go_ret
  exact ⟨rfl, (Below.refl _ _).alloc (Nat.le_refl _) _⟩

/-- The text that is read. -/
def pgtext (p : Nat → UInt8) (a s : Int) : ByteArray := if inPg a s then ptxt p a.toNat s.toNat else ⟨#[]⟩

theorem text_any (p : Nat → UInt8) (a s : Int) (w : World) :
    Calls Try.prog 36 #[.agg (pgc p), .int .i64 a, .int .i64 s] w fun e w' => e = .returned (.string (pgtext p a s)) ∧ Below w.heap.size w w' := by
  by_cases h : inPg a s
  · rw [pgtext, if_pos h]
    obtain ⟨h1, h2, h3, h4⟩ := h
    obtain ⟨x, rfl⟩ := Int.eq_ofNat_of_zero_le h1
    obtain ⟨y, rfl⟩ := Int.eq_ofNat_of_zero_le h2
    simp only [Int.toNat_natCast] at *
    by_cases h5 : x < 64
    · exact text_yes p x y w (by omega) h5
    · obtain rfl : x = 64 := by omega
      obtain rfl : y = 0 := by omega
      exact text_end p w
  · rw [pgtext, if_neg h]
    exact text_no p a s w h

theorem toList_nil {s : ByteArray} (h : s.size = 0) : s.data.toList = [] := by
  rw [Array.toList_eq_nil_iff]
  exact Array.eq_empty_of_size_eq_zero h

theorem take_snoc (s : ByteArray) (k : Nat) (h : k < s.size) : s.data.toList.take (k + 1) = s.data.toList.take k ++ [s[k]] := by
  rw [List.take_succ_eq_append_getElem (by simpa using h)]; rfl

/-! ### SetText -/
/-- The page with a text from a on. -/
def pput (p : Nat → UInt8) (a : Nat) : List UInt8 → Nat → UInt8
  | [] => p
  | b :: l => pput (upd p a b) (a + 1) l

theorem pput_snoc (b : UInt8) : ∀ (l : List UInt8) (a : Nat) (p : Nat → UInt8), pput p a (l ++ [b]) = upd (pput p a l) (a + l.length) b
  | [], _, _ => rfl
  | c :: l, a, p => by
    simp only [List.cons_append, pput, List.length_cons]
    rw [pput_snoc b l, show a + 1 + l.length = a + (l.length + 1) from by omega]

theorem setCells_pg (w : World) (B : Obj) (T : TypeId) : ∀ (l : List UInt8) (a : Nat) (p : Nat → UInt8),
    ((w.alloc (.cells (pgc p) T)).alloc B).setCells w.heap.size a (l.map fun x => Value.int .u8 (x.toNat : Int)) = (w.alloc (.cells (pgc (pput p a l)) T)).alloc B
  | [], _, _ => rfl
  | b :: l, a, p => by
    simp only [List.map_cons, World.setCells, pput]
    have e : ((w.alloc (.cells (pgc p) T)).alloc B).setCell ⟨w.heap.size, a, none⟩ (.int .u8 (b.toNat : Int)) = (w.alloc (.cells (pgc (upd p a b)) T)).alloc B := by
      rw [← pgc_set]
      go_simp
    rw [e]
    exact setCells_pg w B T l (a + 1) _

theorem run_sliceAt_arr_from {P : Program} {T E : TypeId} {n : Nat} {i : TypeInfo} (hu : P.underlying T = some (.array n E)) (hi : P.info? E = some i) (hs : i.size = 1) (b o : Nat) (lo : Int) (h0 : 0 ≤ lo) (h1 : lo ≤ n) (w : World) :
    (Instr.sliceAt T (.pointer (some ⟨b, o, none⟩)) (some (.int .i64 lo)) none none).run P w =
      .ok (.slice (some (if n = lo.toNat then ⟨b, o, none⟩ else (⟨b, o, none⟩ : Addr).add lo.toNat)) (n - lo.toNat) (n - lo.toNat)) w := by
  simp [Instr.sliceAt, Instr.sureAddr, Sem.run_bind, run_underlying hu, Instr.sliceBounds, run_sliceBound w .i64 lo n .sliceB h0 h1, sizeOf, typeInfo, hi, hs]

set_option maxRecDepth 100000 in
set_option maxHeartbeats 400000 in
theorem setText_yes (p : Nat → UInt8) (a : Nat) (s : ByteArray) (w : World) (h3 : a + s.size ≤ 64) (h4 : a < 64) :
    Calls Try.prog 51 #[.agg (pgc p), .int .i64 a, .string s] w fun e w' => e = .returned (.agg (pgc (pput p a s.data.toList))) ∧ Below w.heap.size w w' := by
  have hn : inPg a s.size := by unfold inPg; omega
  obtain ⟨i, hi, hs⟩ := Option.map_eq_some_iff.1 Try.infoE
  have hsl := fun (w' : World) => run_sliceAt_arr_from (P := Try.prog) Try.underlying73 hi hs w.heap.size 0 a (by omega) (by omega) w'
  have hcp : (Builtin.copy_ #[56, 9] 3 #[.slice (some ⟨w.heap.size, a, none⟩) (64 - a) (64 - a), .string s]).run Try.prog ((w.alloc (.cells (pgc p) 73)).alloc (.cells zc 73)) =
      .ok (goInt s.size) ((w.alloc (.cells (pgc (pput p a s.data.toList)) 73)).alloc (.cells zc 73)) := by
    rw [run_copy_string _ _ _ _ 5 _ _ _ _ _ Try.underlying56 (fun w => by simp [sizeOf, typeInfo, hi, hs]) (by omega)
      (fun j hj => by rw [cell_of_row _ _ _ _ _ _ (heap_alloc2_old _ _ _), pgc_get _ _ (by omega)]; rfl)
      (fun j hj => frozen_of_row _ _ _ _ _ (heap_alloc2_old _ _ _)), setCells_pg]
  go_enter Try.func51, Try.ntmps51
  go_wp2_with (first | ((with_reducible refine pg_load ?_); refine ⟨rfl, _, _, rfl, by (with_reducible first | exact heap_alloc_last _ _ | exact heap_alloc2_old _ _ _ | exact heap_alloc2_new _ _ _ | assumption), ?_⟩; (simp only [Act.put, List.setIfInBounds_toArray, List.set_cons_succ, List.set_cons_zero])) | ((with_reducible refine pg_store ?_); refine ⟨rfl, _, by simp, rfl, by with_reducible first | exact zc_size | exact pgc_size _, ?_⟩; simp only [Act.put]) | ((with_reducible refine pg_alloc ?_); refine ⟨rfl, ?_⟩; (simp only [Act.put, List.setIfInBounds_toArray, List.set_cons_succ, List.set_cons_zero])) | ((with_reducible refine pg_build ?_); refine ⟨rfl, ?_⟩; (simp only [Act.put, List.setIfInBounds_toArray, List.set_cons_succ, List.set_cons_zero])) | (go_at_call 48; refine (inside_yes _ _ _ hn).mono ?_; rintro e w' ⟨rfl, rfl⟩))
  ((try simp only [Exit.inBlock, Exit.then]); refine bodyPost_ret (res_pg rfl Try.underlying73 Try.sizePg _ _ _ _ (pgc_size _) rfl (by (with_reducible first | exact heap_alloc_last _ _ | exact heap_alloc2_old _ _ _ | exact heap_alloc2_new _ _ _ | assumption))) rfl ?_)
  exact ⟨rfl, (((Below.refl _ _).alloc (Nat.le_refl _) _).alloc (by simp) _)⟩

theorem setText_end (p : Nat → UInt8) (s : ByteArray) (w : World) (h3 : s.size = 0) :
    Calls Try.prog 51 #[.agg (pgc p), .int .i64 64, .string s] w fun e w' => e = .returned (.agg (pgc p)) ∧ Below w.heap.size w w' := by
  have hn : inPg 64 s.size := by unfold inPg; omega
  obtain ⟨i, hi, hs⟩ := Option.map_eq_some_iff.1 Try.infoE
  have hsl := fun (w' : World) => run_sliceAt_arr_from (P := Try.prog) Try.underlying73 hi hs w.heap.size 0 64 (by omega) (by omega) w'
  have hl : s.data.toList = [] := toList_nil h3
  have hcp : (Builtin.copy_ #[56, 9] 3 #[.slice (some ⟨w.heap.size, 0, none⟩) 0 0, .string s]).run Try.prog ((w.alloc (.cells (pgc p) 73)).alloc (.cells zc 73)) =
      .ok (goInt s.size) ((w.alloc (.cells (pgc p) 73)).alloc (.cells zc 73)) := by
    rw [run_copy_string _ _ _ _ 5 _ _ _ _ _ Try.underlying56 (fun w => by simp [sizeOf, typeInfo, hi, hs]) (by omega)
      (fun j hj => by omega) (fun j hj => by omega), hl]
    rfl
  have HL := Lib.hid h3; clear h3 hl
  go_enter Try.func51, Try.ntmps51
  go_wp2_with (first | ((with_reducible refine pg_load ?_); refine ⟨rfl, _, _, rfl, by (with_reducible first | exact heap_alloc_last _ _ | exact heap_alloc2_old _ _ _ | exact heap_alloc2_new _ _ _ | assumption), ?_⟩; (simp only [Act.put, List.setIfInBounds_toArray, List.set_cons_succ, List.set_cons_zero])) | ((with_reducible refine pg_store ?_); refine ⟨rfl, _, by simp, rfl, by with_reducible first | exact zc_size | exact pgc_size _, ?_⟩; simp only [Act.put]) | ((with_reducible refine pg_alloc ?_); refine ⟨rfl, ?_⟩; (simp only [Act.put, List.setIfInBounds_toArray, List.set_cons_succ, List.set_cons_zero])) | ((with_reducible refine pg_build ?_); refine ⟨rfl, ?_⟩; (simp only [Act.put, List.setIfInBounds_toArray, List.set_cons_succ, List.set_cons_zero])) | (go_at_call 48; refine (inside_yes _ _ _ hn).mono ?_; rintro e w' ⟨rfl, rfl⟩))
  ((try simp only [Exit.inBlock, Exit.then]); refine bodyPost_ret (res_pg rfl Try.underlying73 Try.sizePg _ _ _ _ (pgc_size _) rfl (by (with_reducible first | exact heap_alloc_last _ _ | exact heap_alloc2_old _ _ _ | exact heap_alloc2_new _ _ _ | assumption))) rfl ?_)
  exact ⟨rfl, (((Below.refl _ _).alloc (Nat.le_refl _) _).alloc (by simp) _)⟩

theorem setText_no (p : Nat → UInt8) (a : Int) (s : ByteArray) (w : World) (h : ¬ inPg a s.size) :
    Calls Try.prog 51 #[.agg (pgc p), .int .i64 a, .string s] w fun e w' => e = .returned (.agg (pgc p)) ∧ Below w.heap.size w w' := by
  have HN := Lib.hid h; clear h
  go_enter Try.func51, Try.ntmps51
  go_wp2_with (first | ((with_reducible refine pg_load ?_); refine ⟨rfl, _, _, rfl, by (with_reducible first | exact heap_alloc_last _ _ | exact heap_alloc2_old _ _ _ | exact heap_alloc2_new _ _ _ | assumption), ?_⟩; (simp only [Act.put, List.setIfInBounds_toArray, List.set_cons_succ, List.set_cons_zero])) | ((with_reducible refine pg_store ?_); refine ⟨rfl, _, by simp, rfl, by with_reducible first | exact zc_size | exact pgc_size _, ?_⟩; simp only [Act.put]) | ((with_reducible refine pg_alloc ?_); refine ⟨rfl, ?_⟩; (simp only [Act.put, List.setIfInBounds_toArray, List.set_cons_succ, List.set_cons_zero])) | ((with_reducible refine pg_build ?_); refine ⟨rfl, ?_⟩; (simp only [Act.put, List.setIfInBounds_toArray, List.set_cons_succ, List.set_cons_zero])) | (go_at_call 48; refine (inside_no _ _ _ HN.out).mono ?_; rintro e w' ⟨rfl, rfl⟩))
  ((try simp only [Exit.inBlock, Exit.then]); refine bodyPost_ret (res_pg rfl Try.underlying73 Try.sizePg _ _ _ _ (pgc_size _) rfl (by (with_reducible first | exact heap_alloc_last _ _ | exact heap_alloc2_old _ _ _ | exact heap_alloc2_new _ _ _ | assumption))) rfl ?_)
  exact ⟨rfl, (((Below.refl _ _).alloc (Nat.le_refl _) _).alloc (by simp) _)⟩

/-- The page with another text. -/
def psetText (p : Nat → UInt8) (a : Int) (s : ByteArray) : Nat → UInt8 := if inPg a s.size then pput p a.toNat s.data.toList else p

theorem setText_any (p : Nat → UInt8) (a : Int) (s : ByteArray) (w : World) :
    Calls Try.prog 51 #[.agg (pgc p), .int .i64 a, .string s] w fun e w' => e = .returned (.agg (pgc (psetText p a s))) ∧ Below w.heap.size w w' := by
  by_cases h : inPg a s.size
  · rw [psetText, if_pos h]
    obtain ⟨h1, h2, h3, h4⟩ := h
    obtain ⟨x, rfl⟩ := Int.eq_ofNat_of_zero_le h1
    simp only [Int.toNat_natCast] at *
    by_cases h5 : x < 64
    · exact setText_yes p x s w (by omega) h5
    · obtain rfl : x = 64 := by omega
      have hz : s.size = 0 := by omega
      rw [toList_nil hz]
      exact setText_end p s w hz
  · rw [psetText, if_neg h]
    exact setText_no p a s w h

/-! ### The reference -/
end Go.Proofs.Ytioknjdbijogpaa
