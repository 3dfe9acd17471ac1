/- page.Split, walked. -/
import Derived.Test.YtdikhbdcdpcfgaaSplJ
import Derived.Lib.FrozenHead2
namespace Go.Proofs.Ytdikhbdcdpcfgaa
open Go.RowKit
set_option linter.unusedSimpArgs false
set_option linter.unusedVariables false

/-- A page, overlaid by a text. -/
def ov (p : Nat → UInt8) (t : ByteArray) (i : Nat) : UInt8 := if i < t.size then t.data.toList.getD i 0 else p i

theorem run_copy_pg (w : World) (g : Nat) (p : Nat → UInt8) (t : ByteArray) (hg : w.heap[g]? = some (.cells (pgc p) 23 (0, 0))) :
    (Builtin.copy_ #[57, 9] 3 #[.slice (some ⟨g, 0, none⟩) 64 64, .string t]).run Try.prog w = .ok (goInt (min t.size 64)) (w.setRow g (pgc (ov p t))) := by
  obtain ⟨i, hi, hs⟩ := infoE'
  have hz : ∀ w, (Go.sizeOf 5).run Try.prog w = .ok 1 w := fun w => by simp [sizeOf, typeInfo, hi, hs]
  have hnl : (List.take (t.size.min 64) (List.map (fun b => Value.int IntKind.u8 (b.toNat : Int)) t.data.toList)).length = t.size.min 64 := by
    rw [List.length_take, List.length_map, Array.length_toList]
    show min (min t.size 64) t.size = min t.size 64
    omega
  have hle : t.size.min 64 ≤ 64 := Nat.min_le_right _ _
  have hst := run_storeCells_atF Try.prog g 0 23 (0, 0) (List.take (t.size.min 64) (List.map (fun b => Value.int IntKind.u8 (b.toNat : Int)) t.data.toList)) 0 (pgc p) w hg (by simp) (by rw [pgc_size, hnl]; omega) (by
    intro v hv
    obtain ⟨x, _, rfl⟩ := List.mem_map.1 (List.mem_of_mem_take hv)
    rfl)
  have harr : (List.take (0 + 0) (pgc p).toList ++ List.take (t.size.min 64) (List.map (fun b => Value.int IntKind.u8 (b.toNat : Int)) t.data.toList) ++
      List.drop (0 + 0 + (List.take (t.size.min 64) (List.map (fun b => Value.int IntKind.u8 (b.toNat : Int)) t.data.toList)).length) (pgc p).toList).toArray = pgc (ov p t) := by
    rw [hnl]
    apply Array.ext_getElem?
    intro j
    rw [List.getElem?_toArray, Nat.add_zero, List.take_zero, List.nil_append, Nat.zero_add]
    by_cases hj : j < t.size.min 64
    · have hjt : j < t.size := Nat.lt_of_lt_of_le hj (Nat.min_le_left _ _)
      have hjl : j < t.data.toList.length := by rw [Array.length_toList]; exact hjt
      rw [List.getElem?_append_left (by rw [hnl]; exact hj), List.getElem?_take_of_lt hj, List.getElem?_map, List.getElem?_eq_getElem hjl, pgc_get _ _ (by omega), ov, if_pos hjt, List.getD_eq_getElem?_getD, List.getElem?_eq_getElem hjl]
      rfl
    · rw [List.getElem?_append_right (by rw [hnl]; omega), hnl, List.getElem?_drop, Array.getElem?_toList, show t.size.min 64 + (j - t.size.min 64) = j from by omega]
      by_cases h64 : j < 64
      · have hnt : ¬ j < t.size := fun h => hj (Nat.lt_min.2 ⟨h, h64⟩)
        rw [pgc_get _ _ h64, pgc_get _ _ h64, ov, if_neg hnt]
      · rw [Array.getElem?_eq_none (by rw [pgc_size]; omega), Array.getElem?_eq_none (by rw [pgc_size]; omega)]
  rw [harr] at hst
  simp [Builtin.copy_, run_underlying Try.underlying57, Builtin.lenOf, Builtin.firstCells, hz]
  rw [hst]
  show Result.ok (goInt ((Nat.min t.size 64 : Nat) : Int)) _ = _
  have : ((Nat.min t.size 64 : Nat) : Int) = min (t.size : Int) 64 := by show ((min t.size 64 : Nat) : Int) = _; omega
  rw [this]

section
variable {ops : Array Oper} {rest : List Oper} {Q : Exit → Act → World → Prop} {tmps : Array Value} {df : List Deferred} {d ty t u : Nat} {ps : String} {af : Array Edge} {gd : Option (Nat × Bool)} {w0 w : World} {l : List (Nat × Obj)}
theorem ev_copy (hSt : St w0 l w) (h : Region.wanted ⟨some d, .call { callee := .builtin .copy, args := #[.tmp t, .tmp u], argTypes := #[57, 9] }, 3, ps, af, gd⟩ (yielded ops tmps) = true ∧ ∃ g l1 l2 p s,
      tmps.getD t undef = .slice (some ⟨g, 0, none⟩) 64 64 ∧ tmps.getD u undef = .string s ∧ l = l1 ++ (g, .cells (pgc p) 23 (0, 0)) :: l2 ∧
      ∀ w', St w0 (l1 ++ (g, .cells (pgc (ov p s)) 23 (0, 0)) :: l2) w' → wpList Try.prog ops Q rest (Act.put ⟨tmps, df⟩ (some d) (.int .i64 ((min s.size 64 : Nat) : Int))) w') :
    wpList Try.prog ops Q (⟨some d, .call { callee := .builtin .copy, args := #[.tmp t, .tmp u], argTypes := #[57, 9] }, 3, ps, af, gd⟩ :: rest) ⟨tmps, df⟩ w := by
  obtain ⟨hw, g, l1, l2, p, s, hx, hy, rfl, h⟩ := h
  have hg := hSt.blk (g := g) (o := .cells (pgc p) 23 (0, 0)) (List.mem_append_right _ (List.mem_cons_self ..))
  refine wpl_run hw ?_ (h (w.setRow g (pgc (ov p s))) hSt.set)
  have hx' : Act.eval ⟨tmps, df⟩ (.tmp t) = .slice (some ⟨g, 0, none⟩) 64 64 := hx
  have hy' : Act.eval ⟨tmps, df⟩ (.tmp u) = .string s := hy
  have e : goInt (min (s.size : Int) 64) = .int .i64 ((min s.size 64 : Nat) : Int) := by
    show Value.int .i64 (min (s.size : Int) 64) = _
    rw [show min (s.size : Int) 64 = ((min s.size 64 : Nat) : Int) from by omega]
  have hr := run_copy_pg w g p s hg
  rw [e] at hr
  simp [execOp, resolve, invoke, builtin, hx', hy', hr, Result.andThen]
end

/-- The k-th page of a text. -/
def pgOf (s : ByteArray) (k i : Nat) : UInt8 := s.data.toList.getD (64 * k + i) 0
def pgsOf (s : ByteArray) (k : Nat) : List (Nat → UInt8) := (List.range k).map (pgOf s)
theorem pgsOf_succ (s : ByteArray) (k : Nat) : pgsOf s (k + 1) = pgsOf s k ++ [pgOf s k] := by simp [pgsOf, List.range_succ]
theorem pgsOf_len (s : ByteArray) (k : Nat) : (pgsOf s k).length = k := by simp [pgsOf]
def strLen : Value → Nat
  | .string s => s.size
  | _ => 0

theorem ext_drop (s : ByteArray) (a : Nat) : (s.extract a s.size).data.toList = s.data.toList.drop a := by
  rw [Lib.extract_data, List.take_of_length_le]
  rw [List.length_drop, Array.length_toList]
  exact Nat.le_refl _
theorem ov_pg (s : ByteArray) (k : Nat) (hk : 64 * k ≤ s.size) : pgc (ov zp (s.extract (64 * k) s.size)) = pgc (pgOf s k) := by
  apply pgc_congr
  intro i hi
  unfold ov pgOf
  rw [ext_drop, List.getD_eq_getElem?_getD, List.getElem?_drop, ← List.getD_eq_getElem?_getD]
  split
  · rfl
  · rename_i h
    rw [ByteArray.size_extract] at h
    rw [List.getD_eq_getElem?_getD, List.getElem?_eq_none (by rw [Array.length_toList]; show s.size ≤ _; omega)]
    rfl
theorem ext_ext (s : ByteArray) (k m : Nat) (h : 64 * k ≤ s.size) (hm : m = min (s.size - 64 * k) 64) : (s.extract (64 * k) s.size).extract m (s.size - 64 * k) = s.extract (64 * (k + 1)) s.size := by
  have hsz : (s.extract (64 * k) s.size).size = s.size - 64 * k := by rw [ByteArray.size_extract]; omega
  refine ByteArray.ext (Array.toList_inj.1 ?_)
  have h1 := ext_drop (s.extract (64 * k) s.size) m
  rw [hsz] at h1
  rw [h1, ext_drop, ext_drop, List.drop_drop]
  by_cases h64 : m = 64
  · rw [h64, show 64 * k + 64 = 64 * (k + 1) from by omega]
  · have hl : s.data.toList.length = s.size := by rw [Array.length_toList]; rfl
    rw [List.drop_of_length_le (by omega), List.drop_of_length_le (by omega)]

set_option maxHeartbeats 1000000 in
set_option maxRecDepth 100000 in
theorem pageSplit (s : ByteArray) (w : World) (hn : s.size ≤ 2560) :
    Calls Try.prog 38 #[.string s] w fun e w' => ∃ v, e = .returned v ∧ PgRow w' w.heap.size v (pgsOf s ((s.size + 63) / 64)) ∧ Below w.heap.size w w' := by
  obtain ⟨i0, hi0, hz1, hz2, hz3⟩ := info_parts Try.infoP
  go_enter Try.func38, Try.ntmps38
  go_wp2
  go_loopw [0, 3] (fun t v wr => ∃ k : Nat, 64 * k ≤ s.size + 63 ∧ t = .string (s.extract (64 * k) s.size) ∧ Below w.heap.size w wr ∧ PgRow wr w.heap.size v (pgsOf s k)) (fun t _ _ => strLen t)
  case atStart => exact ⟨0, by omega, by simp, Below.refl _ _, World.ownsRow_nil _ _ _ _⟩
  case round =>
    obtain ⟨k, hk, rfl, hbw, hown⟩ := hrel
    obtain ⟨r, hr⟩ : ∃ r, s.extract (64 * k) s.size = r := ⟨_, rfl⟩
    have hrs : True → r.size = s.size - 64 * k := fun _ => by rw [← hr, ByteArray.size_extract]; omega
    by_cases h : s.size ≤ 64 * k
    · have h0 : r.size = 0 := by have := hrs trivial; omega
      rw [hr]
      go_wp2
      go_ret
      have e : (s.size + 63) / 64 = k := by omega
      rw [e]
      exact ⟨_, rfl, hown, hbw⟩
    · have hpos : (0 : Int) < r.size := by have := hrs trivial; omega
      have hov := ov_pg s k (by omega)
      rw [hr] at hov ⊢
      have hSt := St.start wr
      go_wp2_with (first
        | ((with_reducible refine ev_alloc hSt (by first | exact zPg | exact zHd | exact zHr | exact zX1 | exact zX2 | exact zX3 | exact zX4) ?_); refine ⟨rfl, ?_⟩; intro gN wN hSt; (simp only [Act.put, List.setIfInBounds_toArray, List.set_cons_succ, List.set_cons_zero]))
        | ((with_reducible refine ev_copy hSt ?_); refine ⟨rfl, _, [], _, _, _, rfl, rfl, rfl, ?_⟩; intro wN hSt; simp only [List.nil_append] at hSt; rw [hov] at hSt; obtain ⟨m, hm⟩ : ∃ m, min r.size 64 = m := ⟨_, rfl⟩; rw [hm]; have hmr : (m : Int) ≤ r.size := by omega)
        | ((with_reducible refine ev_load hSt (by first | exact aPg | exact aHd | exact aHr | exact aX1 | exact aX2 | exact aX3 | exact aX4) ?_); refine ⟨rfl, _, _, _, rfl, (by repeat (first | exact List.mem_cons_self .. | refine List.mem_cons_of_mem _ ?_)), (by first | exact pgc_size _ | exact nc_size _ _ | rfl), ?_⟩; (simp only [Act.put, List.setIfInBounds_toArray, List.set_cons_succ, List.set_cons_zero]))
        | ((with_reducible refine pg_slice1 ?_); refine ⟨rfl, _, rfl, ?_⟩; (simp only [Act.put, List.setIfInBounds_toArray, List.set_cons_succ, List.set_cons_zero]))
        | (at_builtin; refine wpList_append_own_at _ rfl _ _ 59 rfl w.heap.size 23 i0 _ 64 64 Try.underlying59 hi0 hz1 hz2 hz3 rfl (by decide) _ _ _ rfl ((PgRow.below hown hSt.base).alloc _) _ 1 1 (pgc (pgOf s k)).toList rfl (by rw [Array.length_toList, pgc_size]) (page_new _ _) (fun u hu => page_one _ u hu) (by unfold maxLen; rw [pgsOf_len]; omega) (by rw [pgsOf_len]; omega) (Nat.le_trans hbw.size (Nat.le_trans hSt.base.size (by simp))) ?_; intro v' w1 hown' hgrow hnil hloc))
      go_wp2
      · have hown0 := (PgRow.below hown hSt.base)
        refine ⟨⟨k + 1, by omega, ?_, ?_, ?_⟩, ?_⟩
        · rw [← hr, ext_ext s k m (by omega) (by rw [← hm, hrs trivial])]
        · exact ((hbw.trans (hSt.base.mono hbw.size)).alloc (Nat.le_trans hbw.size hSt.base.size) (.cells (pgc (pgOf s k)) 23)).grown hgrow (Nat.le_trans hbw.size (Nat.le_trans hSt.base.size (by simp))) (fun j hj => (hown.lt j hj).1)
        · unfold PgRow
          rw [pgsOf_succ, rowc_snoc, List.length_append]
          exact hown'
        · have := hrs trivial
          simp only [strLen, ByteArray.size_extract]
          omega
      · have := hrs trivial
        exfalso; omega
end Go.Proofs.Ytdikhbdcdpcfgaa
