/- The walks of plan.Super and the reference's Super. -/
import Derived.Test.YtdikhbdcdpcfgaaPurePlanPlaces
import Derived.Test.YtdikhbdcdpcfgaaPgTextR
import Derived.Test.YtdikhbdcdpcfgaaPgSetR
import Derived.Test.YtdikhbdcdpcfgaaSt
import Derived.Test.YtdikhbdcdpcfgaaPgEq
namespace Go.Proofs.Ytdikhbdcdpcfgaa
open Go.RowKit PPlanPlaces _root_.Go.Proofs.Ytdikhbdcdpcfgaa.Pure
set_option linter.unusedSimpArgs false
set_option linter.unusedVariables false

theorem aPg : AggT Try.prog 23 64 := ⟨by kernel_rfl, by kernel_rfl⟩
theorem zPg : ZeroT Try.prog 23 (pgc zp) := by unfold ZeroT; kernel_rfl
theorem aX1 : AggT Try.prog 34 2 := ⟨by kernel_rfl, by kernel_rfl⟩
theorem zX1 : ZeroT Try.prog 34 #[.int .i64 0, .int .i64 0] := by unfold ZeroT; kernel_rfl
theorem aX2 : AggT Try.prog 39 3 := ⟨by kernel_rfl, by kernel_rfl⟩
theorem zX2 : ZeroT Try.prog 39 #[.int .i64 0, .int .i64 0, .int .i64 0] := by unfold ZeroT; kernel_rfl
theorem oInt : OneT Try.prog 3 := by unfold OneT; kernel_rfl
theorem oU8 : OneT Try.prog 5 := by unfold OneT; kernel_rfl

theorem pcell_tmp {P : Program} {fn : Func} {p u : Tmp} {ty : TypeId} {n : Nat} (h : fn.results = #[.cell p ty, .tmp u]) (hT : AggT P ty n)
    (tmps : Array Value) {w : World} {g : Nat} {cs : Array Value} {T' : TypeId} {fr : Nat × Nat} (hp : tmps.getD p undef = .pointer (some ⟨g, 0, none⟩)) (hg : w.heap[g]? = some (.cells cs T' fr)) (hn : cs.size = n) :
    (results fn tmps).run P w = .ok (.tuple #[.agg cs, tmps.getD u undef]) w := by
  have hp' : tmps[p]?.getD undef = .pointer (some ⟨g, 0, none⟩) := by simpa using hp
  simp [results, h, hp', asAddr, run_load_agg hT hg hn]
theorem pcell {P : Program} {fn : Func} {p : Tmp} {ty : TypeId} {n : Nat} (h : fn.results = #[.cell p ty]) (hT : AggT P ty n)
    (tmps : Array Value) {w : World} {g : Nat} {cs : Array Value} {T' : TypeId} {fr : Nat × Nat} (hp : tmps.getD p undef = .pointer (some ⟨g, 0, none⟩)) (hg : w.heap[g]? = some (.cells cs T' fr)) (hn : cs.size = n) :
    (results fn tmps).run P w = .ok (.agg cs) w := by
  have hp' : tmps[p]?.getD undef = .pointer (some ⟨g, 0, none⟩) := by simpa using hp
  simp [results, h, hp', asAddr, run_load_agg hT hg hn]

def nrtx : ByteArray := ⟨#[78, 82, 84, 88]⟩
/-- A plan's super page. -/
def supP (a b : Int) : Nat → UInt8 := pset (pset (psetText zp 0 nrtx) 4 2 a) 6 2 b

set_option maxRecDepth 100000 in
set_option maxHeartbeats 1600000 in
theorem super_no (a b : Int) (w : World) (h : ¬ okB a b) :
    Calls Try.prog 43 #[.agg #[.int .i64 a, .int .i64 b]] w fun e w' => e = .returned (.tuple #[.agg (pgc zp), .int .i64 22]) ∧ Below w.heap.size w w' := by
  have hrt := pp_right_no a b h
  clear h
  have hSt := St.start w
  go_enter Try.func43, Try.ntmps43
  go_wp2_with (first | ((with_reducible refine pg_build ?_); refine ⟨rfl, ?_⟩; (simp only [Act.put, List.setIfInBounds_toArray, List.set_cons_succ, List.set_cons_zero])) | ((with_reducible refine ev_box hSt ?_); refine ⟨rfl, _, rfl, ?_⟩; intro gN wN hSt; (simp only [Act.put, List.setIfInBounds_toArray, List.set_cons_succ, List.set_cons_zero])) | ((with_reducible refine ev_alloc hSt (by first | exact zPg | exact zHd | exact zHr | exact zX1 | exact zX2 | exact zX3 | exact zX4) ?_); refine ⟨rfl, ?_⟩; intro gN wN hSt; (simp only [Act.put, List.setIfInBounds_toArray, List.set_cons_succ, List.set_cons_zero])) | ((with_reducible refine ev_load hSt (by first | exact aPg | exact aHd | exact aHr | exact aX1 | exact aX2 | exact aX3 | exact aX4) ?_); refine ⟨rfl, _, _, _, rfl, (by repeat (first | exact List.mem_cons_self .. | refine List.mem_cons_of_mem _ ?_)), (by first | exact pgc_size _ | exact nc_size _ _ | rfl), ?_⟩; (simp only [Act.put, List.setIfInBounds_toArray, List.set_cons_succ, List.set_cons_zero])) | ((with_reducible refine ev_load1 hSt (by first | exact oInt | exact oBool | exact oU32 | exact oU8) ?_); refine ⟨rfl, _, _, _, _, _, rfl, (by repeat (first | exact List.mem_cons_self .. | refine List.mem_cons_of_mem _ ?_)), (by first | rfl | exact pgc_get _ _ (by first | decide | omega) | exact nc_get _ _ _ (by first | decide | omega)), ?_⟩; (simp only [Act.put, List.setIfInBounds_toArray, List.set_cons_succ, List.set_cons_zero])) | ((with_reducible refine ev_store hSt (by first | exact aPg | exact aHd | exact aHr | exact aX1 | exact aX2 | exact aX3 | exact aX4) ?_); (first | refine ⟨rfl, _, [], _, _, _, rfl, rfl, rfl, (by first | exact pgc_size _ | exact nc_size _ _ | rfl), (by first | exact pgc_size _ | exact nc_size _ _ | rfl), (by first | exact pgc_one _ | exact nc_one _ _ | (simp [Value.oneCell']; done) | rfl), ?_⟩ | refine ⟨rfl, _, [_], _, _, _, rfl, rfl, rfl, (by first | exact pgc_size _ | exact nc_size _ _ | rfl), (by first | exact pgc_size _ | exact nc_size _ _ | rfl), (by first | exact pgc_one _ | exact nc_one _ _ | (simp [Value.oneCell']; done) | rfl), ?_⟩ | refine ⟨rfl, _, [_, _], _, _, _, rfl, rfl, rfl, (by first | exact pgc_size _ | exact nc_size _ _ | rfl), (by first | exact pgc_size _ | exact nc_size _ _ | rfl), (by first | exact pgc_one _ | exact nc_one _ _ | (simp [Value.oneCell']; done) | rfl), ?_⟩ | refine ⟨rfl, _, [_, _, _], _, _, _, rfl, rfl, rfl, (by first | exact pgc_size _ | exact nc_size _ _ | rfl), (by first | exact pgc_size _ | exact nc_size _ _ | rfl), (by first | exact pgc_one _ | exact nc_one _ _ | (simp [Value.oneCell']; done) | rfl), ?_⟩ | refine ⟨rfl, _, [_, _, _, _], _, _, _, rfl, rfl, rfl, (by first | exact pgc_size _ | exact nc_size _ _ | rfl), (by first | exact pgc_size _ | exact nc_size _ _ | rfl), (by first | exact pgc_one _ | exact nc_one _ _ | (simp [Value.oneCell']; done) | rfl), ?_⟩); intro wN hSt; simp only [List.nil_append, List.cons_append] at hSt; simp only [Act.put]) | (go_at_call 53; refine (plan_Plan_right.calls a b _ _ hrt).mono ?_; rintro e w8 ⟨rfl, hb9⟩; replace hSt := hSt.ext hb9))
  refine bodyPost_ret (pcell_tmp rfl aPg _ rfl (hSt.blk (by repeat (first | exact List.mem_cons_self .. | refine List.mem_cons_of_mem _ ?_))) (pgc_size _)) rfl ?_
  exact ⟨rfl, hSt.base⟩

set_option maxRecDepth 100000 in
set_option maxHeartbeats 1600000 in
theorem super_yes (a b : Int) (w : World) (h : okB a b) :
    Calls Try.prog 43 #[.agg #[.int .i64 a, .int .i64 b]] w fun e w' => e = .returned (.tuple #[.agg (pgc (supP a b)), .int .i64 0]) ∧ Below w.heap.size w w' := by
  have hrt := pp_right_yes a b h
  clear h
  have hSt := St.start w
  go_enter Try.func43, Try.ntmps43
  go_wp2_with (first | ((with_reducible refine pg_build ?_); refine ⟨rfl, ?_⟩; (simp only [Act.put, List.setIfInBounds_toArray, List.set_cons_succ, List.set_cons_zero])) | ((with_reducible refine ev_box hSt ?_); refine ⟨rfl, _, rfl, ?_⟩; intro gN wN hSt; (simp only [Act.put, List.setIfInBounds_toArray, List.set_cons_succ, List.set_cons_zero])) | ((with_reducible refine ev_alloc hSt (by first | exact zPg | exact zHd | exact zHr | exact zX1 | exact zX2 | exact zX3 | exact zX4) ?_); refine ⟨rfl, ?_⟩; intro gN wN hSt; (simp only [Act.put, List.setIfInBounds_toArray, List.set_cons_succ, List.set_cons_zero])) | ((with_reducible refine ev_load hSt (by first | exact aPg | exact aHd | exact aHr | exact aX1 | exact aX2 | exact aX3 | exact aX4) ?_); refine ⟨rfl, _, _, _, rfl, (by repeat (first | exact List.mem_cons_self .. | refine List.mem_cons_of_mem _ ?_)), (by first | exact pgc_size _ | exact nc_size _ _ | rfl), ?_⟩; (simp only [Act.put, List.setIfInBounds_toArray, List.set_cons_succ, List.set_cons_zero])) | ((with_reducible refine ev_load1 hSt (by first | exact oInt | exact oBool | exact oU32 | exact oU8) ?_); refine ⟨rfl, _, _, _, _, _, rfl, (by repeat (first | exact List.mem_cons_self .. | refine List.mem_cons_of_mem _ ?_)), (by first | rfl | exact pgc_get _ _ (by first | decide | omega) | exact nc_get _ _ _ (by first | decide | omega)), ?_⟩; (simp only [Act.put, List.setIfInBounds_toArray, List.set_cons_succ, List.set_cons_zero])) | ((with_reducible refine ev_store hSt (by first | exact aPg | exact aHd | exact aHr | exact aX1 | exact aX2 | exact aX3 | exact aX4) ?_); (first | refine ⟨rfl, _, [], _, _, _, rfl, rfl, rfl, (by first | exact pgc_size _ | exact nc_size _ _ | rfl), (by first | exact pgc_size _ | exact nc_size _ _ | rfl), (by first | exact pgc_one _ | exact nc_one _ _ | (simp [Value.oneCell']; done) | rfl), ?_⟩ | refine ⟨rfl, _, [_], _, _, _, rfl, rfl, rfl, (by first | exact pgc_size _ | exact nc_size _ _ | rfl), (by first | exact pgc_size _ | exact nc_size _ _ | rfl), (by first | exact pgc_one _ | exact nc_one _ _ | (simp [Value.oneCell']; done) | rfl), ?_⟩ | refine ⟨rfl, _, [_, _], _, _, _, rfl, rfl, rfl, (by first | exact pgc_size _ | exact nc_size _ _ | rfl), (by first | exact pgc_size _ | exact nc_size _ _ | rfl), (by first | exact pgc_one _ | exact nc_one _ _ | (simp [Value.oneCell']; done) | rfl), ?_⟩ | refine ⟨rfl, _, [_, _, _], _, _, _, rfl, rfl, rfl, (by first | exact pgc_size _ | exact nc_size _ _ | rfl), (by first | exact pgc_size _ | exact nc_size _ _ | rfl), (by first | exact pgc_one _ | exact nc_one _ _ | (simp [Value.oneCell']; done) | rfl), ?_⟩ | refine ⟨rfl, _, [_, _, _, _], _, _, _, rfl, rfl, rfl, (by first | exact pgc_size _ | exact nc_size _ _ | rfl), (by first | exact pgc_size _ | exact nc_size _ _ | rfl), (by first | exact pgc_one _ | exact nc_one _ _ | (simp [Value.oneCell']; done) | rfl), ?_⟩); intro wN hSt; simp only [List.nil_append, List.cons_append] at hSt; simp only [Act.put]) | (go_at_call 53; refine (plan_Plan_right.calls a b _ _ hrt).mono ?_; rintro e w8 ⟨rfl, hb9⟩; replace hSt := hSt.ext hb9) | (go_at_call 21; refine (setText_any zp 0 nrtx _).mono ?_; rintro e w8 ⟨rfl, hb9⟩; replace hSt := hSt.ext hb9) | (go_at_call 17; refine (set_any _ _ _ _ _).mono ?_; rintro e w8 ⟨rfl, hb9⟩; replace hSt := hSt.ext hb9))
  refine bodyPost_ret (pcell_tmp rfl aPg _ rfl (hSt.blk (by repeat (first | exact List.mem_cons_self .. | refine List.mem_cons_of_mem _ ?_))) (pgc_size _)) rfl ?_
  exact ⟨rfl, hSt.base⟩

set_option maxRecDepth 100000 in
set_option maxHeartbeats 1600000 in
theorem rsuper_any (a b d : Int) (w : World) :
    Calls Try.prog 42 #[.agg #[.int .i64 a, .int .i64 b, .int .i64 d]] w fun e w' => e = .returned (.agg (pgc (supP a b))) ∧ Below w.heap.size w w' := by
  have hSt := St.start w
  go_enter Try.func42, Try.ntmps42
  go_wp2_with (first | ((with_reducible refine pg_build ?_); refine ⟨rfl, ?_⟩; (simp only [Act.put, List.setIfInBounds_toArray, List.set_cons_succ, List.set_cons_zero])) | ((with_reducible refine ev_box hSt ?_); refine ⟨rfl, _, rfl, ?_⟩; intro gN wN hSt; (simp only [Act.put, List.setIfInBounds_toArray, List.set_cons_succ, List.set_cons_zero])) | ((with_reducible refine ev_alloc hSt (by first | exact zPg | exact zHd | exact zHr | exact zX1 | exact zX2 | exact zX3 | exact zX4) ?_); refine ⟨rfl, ?_⟩; intro gN wN hSt; (simp only [Act.put, List.setIfInBounds_toArray, List.set_cons_succ, List.set_cons_zero])) | ((with_reducible refine ev_load hSt (by first | exact aPg | exact aHd | exact aHr | exact aX1 | exact aX2 | exact aX3 | exact aX4) ?_); refine ⟨rfl, _, _, _, rfl, (by repeat (first | exact List.mem_cons_self .. | refine List.mem_cons_of_mem _ ?_)), (by first | exact pgc_size _ | exact nc_size _ _ | rfl), ?_⟩; (simp only [Act.put, List.setIfInBounds_toArray, List.set_cons_succ, List.set_cons_zero])) | ((with_reducible refine ev_load1 hSt (by first | exact oInt | exact oBool | exact oU32 | exact oU8) ?_); refine ⟨rfl, _, _, _, _, _, rfl, (by repeat (first | exact List.mem_cons_self .. | refine List.mem_cons_of_mem _ ?_)), (by first | rfl | exact pgc_get _ _ (by first | decide | omega) | exact nc_get _ _ _ (by first | decide | omega)), ?_⟩; (simp only [Act.put, List.setIfInBounds_toArray, List.set_cons_succ, List.set_cons_zero])) | ((with_reducible refine ev_store hSt (by first | exact aPg | exact aHd | exact aHr | exact aX1 | exact aX2 | exact aX3 | exact aX4) ?_); (first | refine ⟨rfl, _, [], _, _, _, rfl, rfl, rfl, (by first | exact pgc_size _ | exact nc_size _ _ | rfl), (by first | exact pgc_size _ | exact nc_size _ _ | rfl), (by first | exact pgc_one _ | exact nc_one _ _ | (simp [Value.oneCell']; done) | rfl), ?_⟩ | refine ⟨rfl, _, [_], _, _, _, rfl, rfl, rfl, (by first | exact pgc_size _ | exact nc_size _ _ | rfl), (by first | exact pgc_size _ | exact nc_size _ _ | rfl), (by first | exact pgc_one _ | exact nc_one _ _ | (simp [Value.oneCell']; done) | rfl), ?_⟩ | refine ⟨rfl, _, [_, _], _, _, _, rfl, rfl, rfl, (by first | exact pgc_size _ | exact nc_size _ _ | rfl), (by first | exact pgc_size _ | exact nc_size _ _ | rfl), (by first | exact pgc_one _ | exact nc_one _ _ | (simp [Value.oneCell']; done) | rfl), ?_⟩ | refine ⟨rfl, _, [_, _, _], _, _, _, rfl, rfl, rfl, (by first | exact pgc_size _ | exact nc_size _ _ | rfl), (by first | exact pgc_size _ | exact nc_size _ _ | rfl), (by first | exact pgc_one _ | exact nc_one _ _ | (simp [Value.oneCell']; done) | rfl), ?_⟩ | refine ⟨rfl, _, [_, _, _, _], _, _, _, rfl, rfl, rfl, (by first | exact pgc_size _ | exact nc_size _ _ | rfl), (by first | exact pgc_size _ | exact nc_size _ _ | rfl), (by first | exact pgc_one _ | exact nc_one _ _ | (simp [Value.oneCell']; done) | rfl), ?_⟩); intro wN hSt; simp only [List.nil_append, List.cons_append] at hSt; simp only [Act.put]) | (go_at_call 22; refine (rsetText_any zp 0 nrtx _).mono ?_; rintro e w8 ⟨rfl, hb9⟩; replace hSt := hSt.ext hb9) | (go_at_call 18; refine (rset_any _ _ _ _ _).mono ?_; rintro e w8 ⟨rfl, hb9⟩; replace hSt := hSt.ext hb9))
  refine bodyPost_ret (pcell rfl aPg _ rfl (hSt.blk (by repeat (first | exact List.mem_cons_self .. | refine List.mem_cons_of_mem _ ?_))) (pgc_size _)) rfl ?_
  exact ⟨rfl, hSt.base⟩
end Go.Proofs.Ytdikhbdcdpcfgaa
