/- Chapter 28, the reference: Close, Move; plain, notNone, walked. -/
import Derived.Test.YtfacegnnmgmjmaaPlyC
namespace Go.Proofs.Ytfacegnnmgmjmaa
open Go.RowKit
set_option linter.unusedSimpArgs false
set_option linter.unusedVariables false

/-- The reference's table turns, in both worlds. -/
theorem St.both {w0 w : World} {l : List (Nat × Obj)} {rb : Nat} {q : QT} (h : St w0 l w) (hT : RTab w0 rb q) (q' : QT) : St (w0.setRow rb (qc q')) l (w.setRow rb (qc q')) := by
  have hT2 := hT.ext h.base
  have hlt := lt_of_blk hT
  have hsz : ∀ w : World, (w.setRow rb (qc q')).heap.size = w.heap.size := fun w => by simp [World.setRow]
  refine ⟨⟨h.base.os, h.base.tape, h.base.output, by rw [hsz, hsz]; exact h.base.size, fun k hk => ?_⟩, fun x hx => ?_, h.nodup⟩
  · rw [hsz] at hk
    by_cases e : k = rb
    · subst e
      rw [setRow_heap w k _ _ _ _ hT2, setRow_heap w0 k _ _ _ _ hT]
    · rw [setRow_other w rb k _ e, setRow_other w0 rb k _ e]
      exact h.base.block k hk
  · have := h.own x hx
    have hne : x.1 ≠ rb := by omega
    rw [hsz, setRow_other w rb x.1 _ hne]
    exact this

set_option maxHeartbeats 2000000 in
set_option maxRecDepth 100000 in
theorem rclose_no (t : Value) (P fd e : Int) (he : (e == 0) = false) (w : World) (hG : ∀ w', Below w.heap.size w w' → Calls Try.prog 19 #[t, .int .i64 P, .int .i64 fd] w' fun r w'' => r = .returned (.tuple #[.agg (rfv none), .int .i64 e]) ∧ Below w'.heap.size w' w'') :
    Calls Try.prog 20 #[t, .int .i64 P, .int .i64 fd] w fun r w' => r = .returned (.tuple #[.agg (rfv none), .int .i64 e]) ∧ Below w.heap.size w w' := by
  have hSt := St.start w
  go_enter Try.func20, Try.ntmps20
  go_wp2_with (first | ((with_reducible refine ev_alloc hSt zX5 ?_); refine ⟨rfl, ?_⟩; intro gN wN hSt; (simp only [Act.put, List.setIfInBounds_toArray, List.set_cons_succ, List.set_cons_zero])) | ((with_reducible refine ev_store hSt aX5 ?_); (first | refine ⟨rfl, _, [], _, _, _, rfl, rfl, rfl, rfl, rfl, (by first | exact rfv_one _ | rfl), ?_⟩ | refine ⟨rfl, _, [_], _, _, _, rfl, rfl, rfl, rfl, rfl, (by first | exact rfv_one _ | rfl), ?_⟩); intro wN hSt; simp only [List.nil_append, List.cons_append] at hSt; simp only [Act.put]) | ((with_reducible refine ev_load hSt aX5 ?_); refine ⟨rfl, _, _, _, rfl, (by repeat (first | exact List.mem_cons_self .. | refine List.mem_cons_of_mem _ ?_)), rfl, ?_⟩; (simp only [Act.put, List.setIfInBounds_toArray, List.set_cons_succ, List.set_cons_zero])) | (go_at_call 19; refine (hG _ hSt.base).mono ?_; rintro e w8 ⟨rfl, hb9⟩; replace hSt := hSt.ext hb9))
  refine bodyPost_ret (pcell_tmp rfl aX5 _ rfl (hSt.blk (by repeat (first | exact List.mem_cons_self .. | refine List.mem_cons_of_mem _ ?_))) rfl) rfl ?_
  exact ⟨rfl, hSt.base⟩
set_option maxHeartbeats 4000000 in
set_option maxRecDepth 100000 in
theorem rclose_yes (rb r k B : Nat) (P fd : Int) (hr : r < 4) (hP : P = (r : Int) + 1) (hk : k < 8) (hfd : fd = (k : Int)) (hB : B ≤ rb) (u : Option FileT) (q : QT) (w : World) (hBw : B ≤ w.heap.size) (hT : RTab w rb q)
    (hG : ∀ w', Below w.heap.size w w' → Calls Try.prog 19 #[.pointer (some ⟨rb, 0, none⟩), .int .i64 P, .int .i64 fd] w' fun e w'' => e = .returned (.tuple #[.agg (rfv u), .int .i64 0]) ∧ Below w'.heap.size w' w'') :
    Calls Try.prog 20 #[.pointer (some ⟨rb, 0, none⟩), .int .i64 P, .int .i64 fd] w fun e w' => e = .returned (.tuple #[.agg (rfv u), .int .i64 0]) ∧ RTab w' rb (updQ q (8 * r + k) none) ∧ Below B w w' ∧ KB rb w w' := by
  have hSt := St.start w
  obtain ⟨hr', hw, e1, e2⟩ := proc_facts hr hP
  have hk' : (k : Int) < 8 := by omega
  have hs32 : 8 * r + k < 32 := by omega
  have hoff : r * 40 + k * 5 = 5 * (8 * r + k) := by omega
  have hset := hT.set hB (updQ q (8 * r + k) none)
  have HO := Lib.hid (And.intro hs32 hoff)
  have HS := Lib.hid hset
  subst hfd
  clear hs32 hoff hP e1 e2 hset
  go_enter Try.func20, Try.ntmps20
  go_upto_region 3 with (first | ((with_reducible refine ev_alloc hSt zX5 ?_); refine ⟨rfl, ?_⟩; intro gN wN hSt; (simp only [Act.put, List.setIfInBounds_toArray, List.set_cons_succ, List.set_cons_zero])) | ((with_reducible refine ev_store hSt aX5 ?_); (first | refine ⟨rfl, _, [], _, _, _, rfl, rfl, rfl, rfl, rfl, (by first | exact rfv_one _ | rfl), ?_⟩ | refine ⟨rfl, _, [_], _, _, _, rfl, rfl, rfl, rfl, rfl, (by first | exact rfv_one _ | rfl), ?_⟩); intro wN hSt; simp only [List.nil_append, List.cons_append] at hSt; simp only [Act.put]) | ((with_reducible refine ev_load hSt aX5 ?_); refine ⟨rfl, _, _, _, rfl, (by repeat (first | exact List.mem_cons_self .. | refine List.mem_cons_of_mem _ ?_)), rfl, ?_⟩; (simp only [Act.put, List.setIfInBounds_toArray, List.set_cons_succ, List.set_cons_zero])) | (go_at_call 19; refine (hG _ hSt.base).mono ?_; rintro e w8 ⟨rfl, hb9⟩; replace hSt := hSt.ext hb9))
  have hT2 := hT.ext hSt.base
  go_wp2_with (first | ((with_reducible refine ev_buildF ?_); refine ⟨rfl, ?_⟩; (simp only [Act.put, List.setIfInBounds_toArray, List.set_cons_succ, List.set_cons_zero])) | ((with_reducible refine ev_rstore hT2 HO.out.1 ?_); refine ⟨rfl, _, none, rfl, HO.out.2, rfl, ?_⟩; simp only [Act.put]; replace hSt := hSt.both hT (updQ q (8 * r + k) none)) | ((with_reducible refine ev_store hSt aX5 ?_); (first | refine ⟨rfl, _, [], _, _, _, rfl, rfl, rfl, rfl, rfl, (by first | exact rfv_one _ | rfl), ?_⟩ | refine ⟨rfl, _, [_], _, _, _, rfl, rfl, rfl, rfl, rfl, (by first | exact rfv_one _ | rfl), ?_⟩); intro wN hSt; simp only [List.nil_append, List.cons_append] at hSt; simp only [Act.put]) | ((with_reducible refine ev_load hSt aX5 ?_); refine ⟨rfl, _, _, _, rfl, (by repeat (first | exact List.mem_cons_self .. | refine List.mem_cons_of_mem _ ?_)), rfl, ?_⟩; (simp only [Act.put, List.setIfInBounds_toArray, List.set_cons_succ, List.set_cons_zero])))
  refine bodyPost_ret (pcell_tmp rfl aX5 _ rfl (hSt.blk (by repeat (first | exact List.mem_cons_self .. | refine List.mem_cons_of_mem _ ?_))) rfl) rfl ?_
  exact ⟨rfl, HS.out.1.ext hSt.base, HS.out.2.1.trans (hSt.base.mono (Nat.le_trans hBw HS.out.2.1.size)), HS.out.2.2.trans (KB.of hSt.base)⟩

/-! ### Move -/
set_option maxHeartbeats 2000000 in
set_option maxRecDepth 100000 in
theorem rmove_no (t : Value) (P fd off e : Int) (he : (e != 0) = true) (u : Option FileT) (w : World) (hG : ∀ w', Below w.heap.size w w' → Calls Try.prog 19 #[t, .int .i64 P, .int .i64 fd] w' fun r w'' => r = .returned (.tuple #[.agg (rfv u), .int .i64 e]) ∧ Below w'.heap.size w' w'') :
    Calls Try.prog 22 #[t, .int .i64 P, .int .i64 fd, .int .i64 off] w fun r w' => r = .returned (.int .i64 e) ∧ Below w.heap.size w w' := by
  have hSt := St.start w
  go_enter Try.func22, Try.ntmps22
  go_wp2_with (first | ((with_reducible refine ev_alloc hSt zX5 ?_); refine ⟨rfl, ?_⟩; intro gN wN hSt; (simp only [Act.put, List.setIfInBounds_toArray, List.set_cons_succ, List.set_cons_zero])) | ((with_reducible refine ev_store hSt aX5 ?_); (first | refine ⟨rfl, _, [], _, _, _, rfl, rfl, rfl, rfl, rfl, (by first | exact rfv_one _ | rfl), ?_⟩ | refine ⟨rfl, _, [_], _, _, _, rfl, rfl, rfl, rfl, rfl, (by first | exact rfv_one _ | rfl), ?_⟩); intro wN hSt; simp only [List.nil_append, List.cons_append] at hSt; simp only [Act.put]) | ((with_reducible refine ev_load hSt aX5 ?_); refine ⟨rfl, _, _, _, rfl, (by repeat (first | exact List.mem_cons_self .. | refine List.mem_cons_of_mem _ ?_)), rfl, ?_⟩; (simp only [Act.put, List.setIfInBounds_toArray, List.set_cons_succ, List.set_cons_zero])) | (go_at_call 19; refine (hG _ hSt.base).mono ?_; rintro e w8 ⟨rfl, hb9⟩; replace hSt := hSt.ext hb9))
  go_ret
  exact ⟨rfl, hSt.base⟩
set_option maxHeartbeats 2000000 in
set_option maxRecDepth 100000 in
theorem rmove_far (t : Value) (P fd off : Int) (u : Option FileT) (hf : ¬ (0 ≤ off ∧ off ≤ 67840)) (w : World) (hG : ∀ w', Below w.heap.size w w' → Calls Try.prog 19 #[t, .int .i64 P, .int .i64 fd] w' fun r w'' => r = .returned (.tuple #[.agg (rfv u), .int .i64 0]) ∧ Below w'.heap.size w' w'') :
    Calls Try.prog 22 #[t, .int .i64 P, .int .i64 fd, .int .i64 off] w fun r w' => r = .returned (.int .i64 22) ∧ Below w.heap.size w w' := by
  have hSt := St.start w
  by_cases h1 : off < 0
  · have d1 : decide (off < 0) = true := decide_eq_true h1
    clear hf h1
    go_enter Try.func22, Try.ntmps22
    go_wp2_with (first | ((with_reducible refine ev_alloc hSt zX5 ?_); refine ⟨rfl, ?_⟩; intro gN wN hSt; (simp only [Act.put, List.setIfInBounds_toArray, List.set_cons_succ, List.set_cons_zero])) | ((with_reducible refine ev_store hSt aX5 ?_); (first | refine ⟨rfl, _, [], _, _, _, rfl, rfl, rfl, rfl, rfl, (by first | exact rfv_one _ | rfl), ?_⟩ | refine ⟨rfl, _, [_], _, _, _, rfl, rfl, rfl, rfl, rfl, (by first | exact rfv_one _ | rfl), ?_⟩); intro wN hSt; simp only [List.nil_append, List.cons_append] at hSt; simp only [Act.put]) | ((with_reducible refine ev_load hSt aX5 ?_); refine ⟨rfl, _, _, _, rfl, (by repeat (first | exact List.mem_cons_self .. | refine List.mem_cons_of_mem _ ?_)), rfl, ?_⟩; (simp only [Act.put, List.setIfInBounds_toArray, List.set_cons_succ, List.set_cons_zero])) | (go_at_call 19; refine (hG _ hSt.base).mono ?_; rintro e w8 ⟨rfl, hb9⟩; replace hSt := hSt.ext hb9))
    go_ret
    exact ⟨rfl, hSt.base⟩
  · have d1 : decide (off < 0) = false := decide_eq_false h1
    have d2 : decide (67840 < off) = true := decide_eq_true (by omega)
    clear hf h1
    go_enter Try.func22, Try.ntmps22
    go_wp2_with (first | ((with_reducible refine ev_alloc hSt zX5 ?_); refine ⟨rfl, ?_⟩; intro gN wN hSt; (simp only [Act.put, List.setIfInBounds_toArray, List.set_cons_succ, List.set_cons_zero])) | ((with_reducible refine ev_store hSt aX5 ?_); (first | refine ⟨rfl, _, [], _, _, _, rfl, rfl, rfl, rfl, rfl, (by first | exact rfv_one _ | rfl), ?_⟩ | refine ⟨rfl, _, [_], _, _, _, rfl, rfl, rfl, rfl, rfl, (by first | exact rfv_one _ | rfl), ?_⟩); intro wN hSt; simp only [List.nil_append, List.cons_append] at hSt; simp only [Act.put]) | ((with_reducible refine ev_load hSt aX5 ?_); refine ⟨rfl, _, _, _, rfl, (by repeat (first | exact List.mem_cons_self .. | refine List.mem_cons_of_mem _ ?_)), rfl, ?_⟩; (simp only [Act.put, List.setIfInBounds_toArray, List.set_cons_succ, List.set_cons_zero])) | (go_at_call 19; refine (hG _ hSt.base).mono ?_; rintro e w8 ⟨rfl, hb9⟩; replace hSt := hSt.ext hb9))
    go_ret
    exact ⟨rfl, hSt.base⟩
set_option maxHeartbeats 4000000 in
set_option maxRecDepth 100000 in
theorem rmove_yes (rb r k B : Nat) (P fd off : Int) (hr : r < 4) (hP : P = (r : Int) + 1) (hk : k < 8) (hfd : fd = (k : Int)) (hB : B ≤ rb) (y : FileT) (q : QT) (w : World) (hBw : B ≤ w.heap.size) (hT : RTab w rb q) (hq : q (8 * r + k) = some y) (hf : 0 ≤ off ∧ off ≤ 67840)
    (hG : ∀ w', Below w.heap.size w w' → Calls Try.prog 19 #[.pointer (some ⟨rb, 0, none⟩), .int .i64 P, .int .i64 fd] w' fun e w'' => e = .returned (.tuple #[.agg (rfv (some y)), .int .i64 0]) ∧ Below w'.heap.size w' w'') :
    Calls Try.prog 22 #[.pointer (some ⟨rb, 0, none⟩), .int .i64 P, .int .i64 fd, .int .i64 off] w fun e w' => e = .returned (.int .i64 0) ∧ RTab w' rb (updQ q (8 * r + k) (some (y.1, y.2.1, off, y.2.2.2))) ∧ Below B w w' ∧ KB rb w w' := by
  have hSt := St.start w
  obtain ⟨hr', hw, e1, e2⟩ := proc_facts hr hP
  have hk' : (k : Int) < 8 := by omega
  have d1 : decide (off < 0) = false := decide_eq_false (by omega)
  have d2 : decide (67840 < off) = false := decide_eq_false (by omega)
  have hs32 : 8 * r + k < 32 := by omega
  have hoff : r * 40 + k * 5 + 2 = 5 * (8 * r + k) + 2 := by omega
  have HO := Lib.hid (And.intro hs32 (And.intro hoff hq))
  subst hfd
  clear hs32 hoff hP e1 e2 hf hq
  go_enter Try.func22, Try.ntmps22
  go_upto_region 6 with (first | ((with_reducible refine ev_alloc hSt zX5 ?_); refine ⟨rfl, ?_⟩; intro gN wN hSt; (simp only [Act.put, List.setIfInBounds_toArray, List.set_cons_succ, List.set_cons_zero])) | ((with_reducible refine ev_store hSt aX5 ?_); (first | refine ⟨rfl, _, [], _, _, _, rfl, rfl, rfl, rfl, rfl, (by first | exact rfv_one _ | rfl), ?_⟩ | refine ⟨rfl, _, [_], _, _, _, rfl, rfl, rfl, rfl, rfl, (by first | exact rfv_one _ | rfl), ?_⟩); intro wN hSt; simp only [List.nil_append, List.cons_append] at hSt; simp only [Act.put]) | ((with_reducible refine ev_load hSt aX5 ?_); refine ⟨rfl, _, _, _, rfl, (by repeat (first | exact List.mem_cons_self .. | refine List.mem_cons_of_mem _ ?_)), rfl, ?_⟩; (simp only [Act.put, List.setIfInBounds_toArray, List.set_cons_succ, List.set_cons_zero])) | (go_at_call 19; refine (hG _ hSt.base).mono ?_; rintro e w8 ⟨rfl, hb9⟩; replace hSt := hSt.ext hb9))
  have hT2 := hT.ext hSt.base
  have hc := hT2.cell' r k 2 hr hk (by decide)
  rw [HO.out.2.2] at hc
  have hc' : _ = some (Value.int .i64 y.2.2.1) := hc
  have hfz := frozen_of_row _ rb (r * 40 + k * 5 + 2) _ _ hT2
  clear hc
  have hs3 := setCell_eq_setRow _ rb (r * 40 + k * 5 + 2) _ _ _ (Value.int .i64 off) hT2
  rw [HO.out.2.1, qc_off q (8 * r + k) y off HO.out.1 HO.out.2.2, ← HO.out.2.1] at hs3
  have hset := hT2.set hB (updQ q (8 * r + k) (some (y.1, y.2.1, off, y.2.2.2)))
  have HS := Lib.hid (And.intro hs3 hset)
  clear hs3 hset
  go_wp2
  go_ret
  rw [HS.out.1]
  exact ⟨rfl, HS.out.2.1, (hSt.base.mono hBw).trans HS.out.2.2.1, (KB.of hSt.base).trans HS.out.2.2.2⟩

/-! ### plain, notNone -/
theorem fv_1 (x : FileT) : (fv x)[1]? = some (.int .i64 x.2.1) := rfl
theorem fv_2 (x : FileT) : (fv x)[2]? = some (.int .i64 x.2.2.1) := rfl
theorem fv_3 (x : FileT) : (fv x)[3]? = some (.int .i64 x.2.2.2) := rfl
def pfv (x : FileT) (b : Bool) : Array Value := #[.int .i64 x.1, .int .i64 x.2.1, .int .i64 x.2.2.1, .int .i64 x.2.2.2, .bool b]
theorem pfv_true (x : FileT) : pfv x true = rfv (some x) := rfl
theorem pfv_false : pfv (0, 0, 0, 0) false = rfv none := rfl
theorem pfv_size (x : FileT) (b : Bool) : (pfv x b).size = 5 := rfl
set_option maxHeartbeats 2000000 in
set_option maxRecDepth 100000 in
theorem plain_is (x : FileT) (b : Bool) (w : World) :
    Calls Try.prog 18 #[.agg (fv x), .bool b] w fun e w' => e = .returned (.agg (pfv x b)) ∧ Below w.heap.size w w' := by
  have hSt := St.start w
  go_enter Try.func18, Try.ntmps18
  go_wp2_with (first | ((with_reducible refine ev_box hSt ?_); refine ⟨rfl, _, rfl, ?_⟩; intro gN wN hSt; (simp only [Act.put, List.setIfInBounds_toArray, List.set_cons_succ, List.set_cons_zero])) | ((with_reducible refine ev_alloc hSt zX5 ?_); refine ⟨rfl, ?_⟩; intro gN wN hSt; (simp only [Act.put, List.setIfInBounds_toArray, List.set_cons_succ, List.set_cons_zero])) | ((with_reducible refine ev_load1 hSt oInt ?_); refine ⟨rfl, _, _, _, _, _, rfl, (by repeat (first | exact List.mem_cons_self .. | refine List.mem_cons_of_mem _ ?_)), (by first | exact fv_0 _ | exact fv_1 _ | exact fv_2 _ | exact fv_3 _), ?_⟩; (simp only [Act.put, List.setIfInBounds_toArray, List.set_cons_succ, List.set_cons_zero])) | ((with_reducible refine ev_store hSt aX5 ?_); refine ⟨rfl, _, [], _, _, pfv x b, rfl, rfl, rfl, rfl, rfl, (by simp [pfv, Value.oneCell']), ?_⟩; intro wN hSt; simp only [List.nil_append] at hSt; simp only [Act.put]))
  refine bodyPost_ret (pcell rfl aX5 _ rfl (hSt.blk (by repeat (first | exact List.mem_cons_self .. | refine List.mem_cons_of_mem _ ?_))) rfl) rfl ?_
  exact ⟨rfl, hSt.base⟩
theorem notNone_is (d : Int) (w : World) : Calls Try.prog 27 #[.int .i64 d] w fun e w' => e = .returned (.int .i64 (if d = -1 then 0 else 1)) ∧ w' = w := by
  by_cases h : d = -1
  · have e1 : (d == -1) = true := beq_iff_eq.2 h
    rw [if_pos h]
    clear h
    go_enter Try.func27, Try.ntmps27
    go_wp2
    go_ret
    exact ⟨rfl, rfl⟩
  · have e1 : (d == -1) = false := beq_eq_false_iff_ne.2 h
    rw [if_neg h]
    clear h
    go_enter Try.func27, Try.ntmps27
    go_wp2
    go_ret
    exact ⟨rfl, rfl⟩
end Go.Proofs.Ytfacegnnmgmjmaa
