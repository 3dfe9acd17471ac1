/- page.Join and page.Zero, walked. -/
import Derived.Test.YtdikhbdcdpcfgaaBldW
import Derived.Test.YtdikhbdcdpcfgaaBldS
import Derived.Test.YtdikhbdcdpcfgaaPgRow
import Derived.Test.YtdikhbdcdpcfgaaPgEq
import Derived.Test.YtdikhbdcdpcfgaaSt
namespace Go.Proofs.Ytdikhbdcdpcfgaa
open Go.RowKit
set_option linter.unusedSimpArgs false
set_option linter.unusedVariables false

theorem aPg : AggT Try.prog 23 64 := ⟨by kernel_rfl, by kernel_rfl⟩
theorem zPg : ZeroT Try.prog 23 (pgc zp) := by unfold ZeroT; kernel_rfl

/-- Pages' bytes. -/
def pbytes (ps : List (Nat → UInt8)) : List UInt8 := ps.flatMap fun p => (List.range 64).map p
theorem pbytes_snoc (ps : List (Nat → UInt8)) (p : Nat → UInt8) : pbytes (ps ++ [p]) = pbytes ps ++ (List.range 64).map p := by simp [pbytes]
theorem pbytes_len (ps : List (Nat → UInt8)) : (pbytes ps).length = 64 * ps.length := by
  induction ps with
  | nil => rfl
  | cons p ps ih =>
    have : pbytes (p :: ps) = (List.range 64).map p ++ pbytes ps := rfl
    rw [this, List.length_append, ih, List.length_map, List.length_range, List.length_cons]; omega
theorem byteCells_pg (p : Nat → UInt8) : Lib.byteCells ((List.range 64).map p) = (pgc p).toList := by
  apply List.ext_getElem?
  intro i
  by_cases hi : i < 64
  · rw [show (pgc p).toList[i]? = (pgc p)[i]? from Array.getElem?_toList, pgc_get _ _ hi]
    simp [Lib.byteCells, List.getElem?_range hi]
  · rw [List.getElem?_eq_none (by simp [Lib.byteCells]; omega), List.getElem?_eq_none (by rw [Array.length_toList, pgc_size]; omega)]

theorem infoE' : ∃ i, Try.prog.info? 5 = some i ∧ i.size = 1 := by
  obtain ⟨i, hi, hs⟩ := Option.map_eq_some_iff.1 Try.infoE
  exact ⟨i, hi, hs⟩

theorem bldWritePg (B b g : Nat) (bs : List Value) (p : Nat → UInt8) (w : World) (h : Lib.IsBuilderF 82 5 B b bs w) (hg : w.heap[g]? = some (.cells (pgc p) 23 (0, 0))) (hne : g ≠ b) (hn : bs.length ≤ 1000000) (hB : B ≤ w.heap.size) :
    Calls Try.prog 55 #[.pointer (some ⟨b, 0, none⟩), .slice (some ⟨g, 0, none⟩) 64 64] w fun e w' => ∃ x, e = .returned (.tuple #[x, .nilIface]) ∧ Lib.BuilderAtF 82 5 B b (.pointer (some ⟨b, 0, none⟩)) (bs ++ (pgc p).toList) w' ∧ Below B w w' := by
  have hlen : (pgc p).toList.length = 64 := by rw [Array.length_toList, pgc_size]
  have hcell : ∀ w' : World, w'.heap[g]? = some (.cells (pgc p) 23 (0, 0)) → ∀ j u, (pgc p).toList[j]? = some u → w'.cell? ((⟨g, 0, none⟩ : Addr).add j) = some u := fun w' hg' j u hu => by
    rw [Addr.add_mid, cell_of_row _ _ _ _ _ _ hg', Nat.zero_add]
    simpa using hu
  have h1 : ∀ u ∈ (pgc p).toList, u.oneCell' = true := fun u hu => page_one p u hu
  have := bldWrite B b g bs (pgc p).toList w h (hcell w hg) h1 (fun w' _ hk => hcell w' (hk g _ hg (by simpa using hne) (by intro c fz e; simp at e))) (by omega) hB
  rw [hlen] at this
  exact this.mono fun e w' ⟨x, h1, h2, h3, _⟩ => ⟨x, h1, h2, h3⟩

set_option maxHeartbeats 1000000 in
set_option maxRecDepth 100000 in
theorem pageJoin (a : Option Addr) (ps : List (Nat → UInt8)) (cap : Nat) (w : World) (hl : PgSl w a ps) (hn : ps.length ≤ 40) :
    Calls Try.prog 39 #[.slice a ps.length cap] w fun e w' => e = .returned (.string ⟨(pbytes ps).toArray⟩) ∧ Below w.heap.size w w' := by
  obtain ⟨i, hi, hs⟩ := infoE'
  go_enter Try.func39, Try.ntmps39
  go_wp2
  go_loopw [8] (fun i wr => ∃ k : Nat, k ≤ ps.length ∧ i = .int .i64 k ∧ Below w.heap.size w wr ∧ Lib.IsBuilderF 82 5 w.heap.size w.heap.size (Lib.byteCells (pbytes (ps.take k))) wr) (fun i _ => ps.length - (intOf i).toNat)
  case atStart =>
    exact ⟨0, by omega, rfl, (Below.refl _ w).alloc (Nat.le_refl _) _, Lib.IsBuilderF.of (Lib.fresh_isBuilder 82 5 w)⟩
  case round =>
    obtain ⟨k, hk, rfl, hbw, hI⟩ := hrel
    by_cases h : k = ps.length
    · subst h
      rw [List.take_length] at hI
      go_wp2_with (go_at_call 56; refine (bldString w.heap.size w.heap.size _ _ hI hbw.size).mono ?_; rintro e W1 ⟨rfl, -, b1, -⟩)
      go_ret
      exact ⟨rfl, hbw.trans b1⟩
    · have hlt : k < ps.length := by omega
      have hlt' : (k : Int) < ps.length := by omega
      obtain ⟨x, rfl, hc⟩ := (hl.ext hbw) k hlt
      have hsn := List.take_succ_eq_append_getElem hlt
      generalize ps[k] = p at hc hsn
      have hSt := St.start wr
      have hsz : w.heap.size < wr.heap.size := by
        rcases hI with h | h <;> exact h.lt
      go_wp2_with (first
        | ((with_reducible refine ev_alloc hSt (by first | exact zPg | exact zHd | exact zHr | exact zX1 | exact zX2 | exact zX3 | exact zX4) ?_); refine ⟨rfl, ?_⟩; intro gN wN hSt; (simp only [Act.put, List.setIfInBounds_toArray, List.set_cons_succ, List.set_cons_zero]))
        | ((with_reducible refine ev_store hSt (by first | exact aPg | exact aHd | exact aHr | exact aX1 | exact aX2 | exact aX3 | exact aX4) ?_); (first | refine ⟨rfl, _, [], _, _, _, rfl, rfl, rfl, (by first | exact pgc_size _ | exact nc_size _ _ | rfl), (by first | exact pgc_size _ | exact nc_size _ _ | rfl), (by first | exact pgc_one _ | exact nc_one _ _ | (simp [Value.oneCell']; done) | rfl), ?_⟩ | refine ⟨rfl, _, [_], _, _, _, rfl, rfl, rfl, (by first | exact pgc_size _ | exact nc_size _ _ | rfl), (by first | exact pgc_size _ | exact nc_size _ _ | rfl), (by first | exact pgc_one _ | exact nc_one _ _ | (simp [Value.oneCell']; done) | rfl), ?_⟩ | refine ⟨rfl, _, [_, _], _, _, _, rfl, rfl, rfl, (by first | exact pgc_size _ | exact nc_size _ _ | rfl), (by first | exact pgc_size _ | exact nc_size _ _ | rfl), (by first | exact pgc_one _ | exact nc_one _ _ | (simp [Value.oneCell']; done) | rfl), ?_⟩ | refine ⟨rfl, _, [_, _, _], _, _, _, rfl, rfl, rfl, (by first | exact pgc_size _ | exact nc_size _ _ | rfl), (by first | exact pgc_size _ | exact nc_size _ _ | rfl), (by first | exact pgc_one _ | exact nc_one _ _ | (simp [Value.oneCell']; done) | rfl), ?_⟩ | refine ⟨rfl, _, [_, _, _, _], _, _, _, rfl, rfl, rfl, (by first | exact pgc_size _ | exact nc_size _ _ | rfl), (by first | exact pgc_size _ | exact nc_size _ _ | rfl), (by first | exact pgc_one _ | exact nc_one _ _ | (simp [Value.oneCell']; done) | rfl), ?_⟩); intro wN hSt; simp only [List.nil_append, List.cons_append] at hSt; simp only [Act.put])
        | ((with_reducible refine pg_load_at ?_); refine ⟨rfl, _, _, rfl, hc, ?_⟩; (simp only [Act.put, List.setIfInBounds_toArray, List.set_cons_succ, List.set_cons_zero]))
        | (go_at_call 55; refine (bldWritePg w.heap.size w.heap.size _ _ p _ (bldF_below hI hSt.base) (hSt.blk (by repeat (first | exact List.mem_cons_self .. | refine List.mem_cons_of_mem _ ?_))) (by have := (hSt.own _ (List.mem_cons_self ..)).2; have := hbw.size; have := hsz; simp only at *; omega) (by rw [Lib.byteCells_length, pbytes_len, List.length_take]; omega) (Nat.le_trans hbw.size hSt.base.size)).mono ?_; rintro e w1 ⟨x1, rfl, hbb, hbl⟩))
      refine ⟨⟨k + 1, by omega, by simp, (hbw.trans (hSt.base.mono hbw.size)).trans hbl, .inr ?_⟩, by simp only [intOf]; omega⟩
      rw [hsn, pbytes_snoc, Lib.byteCells_append, byteCells_pg]
      exact hbb

def allZero (ps : List (Nat → UInt8)) : Bool := ps.all fun p => pgEq p zp

set_option maxHeartbeats 1000000 in
set_option maxRecDepth 100000 in
theorem pageZero (a : Option Addr) (ps : List (Nat → UInt8)) (cap : Nat) (w : World) (hl : PgSl w a ps) (hn : ps.length ≤ 40) :
    Calls Try.prog 40 #[.slice a ps.length cap] w fun e w' => e = .returned (.bool (allZero ps)) ∧ Below w.heap.size w w' := by
  go_enter Try.func40, Try.ntmps40
  go_wp2
  go_loopw [7] (fun i wr => ∃ k : Nat, k ≤ ps.length ∧ i = .int .i64 k ∧ Below w.heap.size w wr ∧ allZero (ps.take k) = true) (fun i _ => ps.length - (intOf i).toNat)
  case atStart => exact ⟨0, by omega, rfl, Below.refl _ _, rfl⟩
  case round =>
    obtain ⟨k, hk, rfl, hbw, hz⟩ := hrel
    by_cases h : k = ps.length
    · subst h
      rw [List.take_length] at hz
      go_wp2
      go_ret
      rw [hz]
      exact ⟨rfl, hbw⟩
    · have hlt : k < ps.length := by omega
      have hlt' : (k : Int) < ps.length := by omega
      obtain ⟨x, rfl, hc⟩ := (hl.ext hbw) k hlt
      have hsn := List.take_succ_eq_append_getElem hlt
      have hall : allZero ps = (allZero (ps.take k) && (pgEq ps[k] zp && allZero (ps.drop (k + 1)))) := by
        have e : ps = ps.take k ++ (ps[k] :: ps.drop (k + 1)) := by rw [← List.drop_eq_getElem_cons hlt, List.take_append_drop]
        have e2 : allZero (ps.take k ++ (ps[k] :: ps.drop (k + 1))) = (allZero (ps.take k) && (pgEq ps[k] zp && allZero (ps.drop (k + 1)))) := by simp only [allZero, List.all_append, List.all_cons]
        rwa [← e] at e2
      have hsz2 : allZero (ps.take (k + 1)) = (allZero (ps.take k) && pgEq ps[k] zp) := by rw [hsn]; simp only [allZero, List.all_append, List.all_cons, List.all_nil, Bool.and_true]
      generalize ps[k] = p at hc hsn hall hsz2
      have hSt := St.start wr
      obtain ⟨B, hB⟩ : ∃ B, pgEq p zp = B := ⟨_, rfl⟩
      cases B
      · go_wp2_with (first
          | ((with_reducible refine ev_alloc hSt (by first | exact zPg | exact zHd | exact zHr | exact zX1 | exact zX2 | exact zX3 | exact zX4) ?_); refine ⟨rfl, ?_⟩; intro gN wN hSt; (simp only [Act.put, List.setIfInBounds_toArray, List.set_cons_succ, List.set_cons_zero]))
          | ((with_reducible refine ev_store hSt (by first | exact aPg | exact aHd | exact aHr | exact aX1 | exact aX2 | exact aX3 | exact aX4) ?_); (first | refine ⟨rfl, _, [], _, _, _, rfl, rfl, rfl, (by first | exact pgc_size _ | exact nc_size _ _ | rfl), (by first | exact pgc_size _ | exact nc_size _ _ | rfl), (by first | exact pgc_one _ | exact nc_one _ _ | (simp [Value.oneCell']; done) | rfl), ?_⟩ | refine ⟨rfl, _, [_], _, _, _, rfl, rfl, rfl, (by first | exact pgc_size _ | exact nc_size _ _ | rfl), (by first | exact pgc_size _ | exact nc_size _ _ | rfl), (by first | exact pgc_one _ | exact nc_one _ _ | (simp [Value.oneCell']; done) | rfl), ?_⟩ | refine ⟨rfl, _, [_, _], _, _, _, rfl, rfl, rfl, (by first | exact pgc_size _ | exact nc_size _ _ | rfl), (by first | exact pgc_size _ | exact nc_size _ _ | rfl), (by first | exact pgc_one _ | exact nc_one _ _ | (simp [Value.oneCell']; done) | rfl), ?_⟩ | refine ⟨rfl, _, [_, _, _], _, _, _, rfl, rfl, rfl, (by first | exact pgc_size _ | exact nc_size _ _ | rfl), (by first | exact pgc_size _ | exact nc_size _ _ | rfl), (by first | exact pgc_one _ | exact nc_one _ _ | (simp [Value.oneCell']; done) | rfl), ?_⟩ | refine ⟨rfl, _, [_, _, _, _], _, _, _, rfl, rfl, rfl, (by first | exact pgc_size _ | exact nc_size _ _ | rfl), (by first | exact pgc_size _ | exact nc_size _ _ | rfl), (by first | exact pgc_one _ | exact nc_one _ _ | (simp [Value.oneCell']; done) | rfl), ?_⟩); intro wN hSt; simp only [List.nil_append, List.cons_append] at hSt; simp only [Act.put])
          | ((with_reducible refine pg_load_at ?_); refine ⟨rfl, _, _, rfl, hc, ?_⟩; (simp only [Act.put, List.setIfInBounds_toArray, List.set_cons_succ, List.set_cons_zero]))
          | ((with_reducible refine ev_load hSt (by first | exact aPg | exact aHd | exact aHr | exact aX1 | exact aX2 | exact aX3 | exact aX4) ?_); refine ⟨rfl, _, _, _, rfl, (by repeat (first | exact List.mem_cons_self .. | refine List.mem_cons_of_mem _ ?_)), (by first | exact pgc_size _ | exact nc_size _ _ | rfl), ?_⟩; (simp only [Act.put, List.setIfInBounds_toArray, List.set_cons_succ, List.set_cons_zero]))
          | ((with_reducible refine pg_build ?_); refine ⟨rfl, ?_⟩; (simp only [Act.put, List.setIfInBounds_toArray, List.set_cons_succ, List.set_cons_zero]))
          | ((with_reducible refine pg_neq ?_); refine ⟨rfl, _, _, _, rfl, rfl, by first | with_reducible assumption | rfl, ?_⟩; simp only [Act.put, List.setIfInBounds_toArray, List.set_cons_succ, List.set_cons_zero, Bool.not_true, Bool.not_false]))
        go_ret
        rw [hall, hB]
        exact ⟨by simp, hbw.trans (hSt.base.mono hbw.size)⟩
      · go_wp2_with (first
          | ((with_reducible refine ev_alloc hSt (by first | exact zPg | exact zHd | exact zHr | exact zX1 | exact zX2 | exact zX3 | exact zX4) ?_); refine ⟨rfl, ?_⟩; intro gN wN hSt; (simp only [Act.put, List.setIfInBounds_toArray, List.set_cons_succ, List.set_cons_zero]))
          | ((with_reducible refine ev_store hSt (by first | exact aPg | exact aHd | exact aHr | exact aX1 | exact aX2 | exact aX3 | exact aX4) ?_); (first | refine ⟨rfl, _, [], _, _, _, rfl, rfl, rfl, (by first | exact pgc_size _ | exact nc_size _ _ | rfl), (by first | exact pgc_size _ | exact nc_size _ _ | rfl), (by first | exact pgc_one _ | exact nc_one _ _ | (simp [Value.oneCell']; done) | rfl), ?_⟩ | refine ⟨rfl, _, [_], _, _, _, rfl, rfl, rfl, (by first | exact pgc_size _ | exact nc_size _ _ | rfl), (by first | exact pgc_size _ | exact nc_size _ _ | rfl), (by first | exact pgc_one _ | exact nc_one _ _ | (simp [Value.oneCell']; done) | rfl), ?_⟩ | refine ⟨rfl, _, [_, _], _, _, _, rfl, rfl, rfl, (by first | exact pgc_size _ | exact nc_size _ _ | rfl), (by first | exact pgc_size _ | exact nc_size _ _ | rfl), (by first | exact pgc_one _ | exact nc_one _ _ | (simp [Value.oneCell']; done) | rfl), ?_⟩ | refine ⟨rfl, _, [_, _, _], _, _, _, rfl, rfl, rfl, (by first | exact pgc_size _ | exact nc_size _ _ | rfl), (by first | exact pgc_size _ | exact nc_size _ _ | rfl), (by first | exact pgc_one _ | exact nc_one _ _ | (simp [Value.oneCell']; done) | rfl), ?_⟩ | refine ⟨rfl, _, [_, _, _, _], _, _, _, rfl, rfl, rfl, (by first | exact pgc_size _ | exact nc_size _ _ | rfl), (by first | exact pgc_size _ | exact nc_size _ _ | rfl), (by first | exact pgc_one _ | exact nc_one _ _ | (simp [Value.oneCell']; done) | rfl), ?_⟩); intro wN hSt; simp only [List.nil_append, List.cons_append] at hSt; simp only [Act.put])
          | ((with_reducible refine pg_load_at ?_); refine ⟨rfl, _, _, rfl, hc, ?_⟩; (simp only [Act.put, List.setIfInBounds_toArray, List.set_cons_succ, List.set_cons_zero]))
          | ((with_reducible refine ev_load hSt (by first | exact aPg | exact aHd | exact aHr | exact aX1 | exact aX2 | exact aX3 | exact aX4) ?_); refine ⟨rfl, _, _, _, rfl, (by repeat (first | exact List.mem_cons_self .. | refine List.mem_cons_of_mem _ ?_)), (by first | exact pgc_size _ | exact nc_size _ _ | rfl), ?_⟩; (simp only [Act.put, List.setIfInBounds_toArray, List.set_cons_succ, List.set_cons_zero]))
          | ((with_reducible refine pg_build ?_); refine ⟨rfl, ?_⟩; (simp only [Act.put, List.setIfInBounds_toArray, List.set_cons_succ, List.set_cons_zero]))
          | ((with_reducible refine pg_neq ?_); refine ⟨rfl, _, _, _, rfl, rfl, by first | with_reducible assumption | rfl, ?_⟩; simp only [Act.put, List.setIfInBounds_toArray, List.set_cons_succ, List.set_cons_zero, Bool.not_true, Bool.not_false]))
        refine ⟨⟨k + 1, by omega, by simp, hbw.trans (hSt.base.mono hbw.size), ?_⟩, by simp only [intOf]; omega⟩
        rw [hsz2, hz, hB]
        rfl
end Go.Proofs.Ytdikhbdcdpcfgaa
