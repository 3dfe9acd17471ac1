/- Chapter 17: a map's entries in memory; find, walked. -/
import Derived.Test.YteohokidlopbnaaProg
import Derived.Test.YteohokidlopbnaaSt
import Derived.Test.YteohokidlopbnaaRel
import Derived.RegionTactic
import Derived.ChangeAlike
import Derived.Deep.MidRow
import Derived.Lib.Hide
import Derived.Laws.AppendOwn
import Derived.OwnWalk
namespace Go.Proofs.Yteohokidlopbnaa
open Go.RowKit
set_option linter.unusedSimpArgs false
set_option linter.unusedVariables false

/-- A value's four words; a key and its value. -/
abbrev ValT := Int × Int × Int × Int
abbrev EntT := Int × ValT
def vvs (v : ValT) : Array Value := #[.int .i64 v.1, .int .i64 v.2.1, .int .i64 v.2.2.1, .int .i64 v.2.2.2]
def evs (e : EntT) : Array Value := #[.int .i64 e.1, .int .i64 e.2.1, .int .i64 e.2.2.1, .int .i64 e.2.2.2.1, .int .i64 e.2.2.2.2]
theorem evs0 (e : EntT) : (evs e)[0]? = some (.int .i64 e.1) := rfl
theorem one0 (v : Value) : (#[v] : Array Value)[0]? = some v := rfl
theorem evs_size (e : EntT) : (evs e).size = 5 := rfl
theorem vvs_size (v : ValT) : (vvs v).size = 4 := rfl
theorem oInt : OneT Try.prog 3 := by unfold OneT; kernel_rfl
theorem aX1 : AggT Try.prog 30 4 := ⟨by kernel_rfl, by kernel_rfl⟩
theorem aX2 : AggT Try.prog 64 5 := ⟨by kernel_rfl, by kernel_rfl⟩
theorem zX1 : ZeroT Try.prog 30 (vvs (0, 0, 0, 0)) := by unfold ZeroT; kernel_rfl
theorem zX2 : ZeroT Try.prog 64 (evs (0, 0, 0, 0, 0)) := by unfold ZeroT; kernel_rfl

/-- Entries' cells, one after the other. -/
def rowe (es : List EntT) : List Value := es.flatMap fun e => (evs e).toList
theorem rowe_snoc (es : List EntT) (e : EntT) : rowe (es ++ [e]) = rowe es ++ (evs e).toList := by simp [rowe]
theorem rowe_append (es fs : List EntT) : rowe (es ++ fs) = rowe es ++ rowe fs := by simp [rowe]
theorem rowe_len (es : List EntT) : (rowe es).length = es.length * 5 := by
  induction es with
  | nil => rfl
  | cons p es ih =>
    have : rowe (p :: es) = (evs p).toList ++ rowe es := rfl
    rw [this, List.length_append, ih, Array.length_toList, evs_size, List.length_cons]; omega
theorem evs_get (e : EntT) (i : Nat) (h : i < 5) : ∃ n, (evs e)[i]? = some (.int .i64 n) := by
  rcases (by omega : i = 0 ∨ i = 1 ∨ i = 2 ∨ i = 3 ∨ i = 4) with rfl | rfl | rfl | rfl | rfl <;> exact ⟨_, rfl⟩
theorem rowe_get : ∀ (es : List EntT) (j : Nat) (h : j < es.length) (i : Nat), i < 5 → (rowe es)[j * 5 + i]? = (evs es[j])[i]?
  | [], j, h, _, _ => by simp at h
  | p :: es, 0, _, i, hi => by
    have : rowe (p :: es) = (evs p).toList ++ rowe es := rfl
    rw [this, List.getElem?_append_left (by rw [Array.length_toList, evs_size]; omega), Array.getElem?_toList, Nat.zero_mul, Nat.zero_add]
    rfl
  | p :: es, j + 1, h, i, hi => by
    have : rowe (p :: es) = (evs p).toList ++ rowe es := rfl
    rw [this, List.getElem?_append_right (by rw [Array.length_toList, evs_size]; omega), Array.length_toList, evs_size, show (j + 1) * 5 + i - 5 = j * 5 + i from by omega]
    simpa using rowe_get es j (by simpa using h) i hi

theorem run_loadVar_at {P : Program} (w : World) (x : Addr) (ty : TypeId) (cs : List Value) (d : TypeDesc) (hc : ∀ (j : Nat) (v : Value), cs[j]? = some v → w.cell? (x.add j) = some v)
    (hu : P.underlying ty = some d) (hd : d.isRow = true) (hi : (P.info? ty).map (·.size) = some cs.length) :
    (loadVar ty x).run P w = .ok (.agg cs.toArray) w := by
  have hl : (loadCells x cs.length).run P w = .ok cs.toArray w := run_loadCells_list (P := P) w x cs hc
  cases hq : P.info? ty with
  | none => simp [hq] at hi
  | some i =>
    have hs : i.size = cs.length := by simpa [hq] using hi
    have hagg : (isAgg ty).run P w = .ok true w := by
      unfold isAgg
      rw [Sem.run_bind, run_underlying hu w]
      cases d <;> simp_all
    simp [loadVar, Sem.run_bind, hagg, sizeOf, typeInfo, hq, hs, hl]
theorem cell_lt {w : World} {x : Addr} {v : Value} (hx : w.cell? x = some v) : x.block < w.heap.size := by
  by_cases hq : x.block < w.heap.size
  · exact hq
  · exfalso
    unfold World.cell? at hx
    simp [Array.getElem?_eq_none (by omega : w.heap.size ≤ x.block)] at hx

/-- A slice of entries. -/
def EnAt (w : World) (p : Addr) (e : EntT) : Prop := ∀ i v, (evs e)[i]? = some v → w.cell? (p.add i) = some v
def EnSl (w : World) (a : Option Addr) (es : List EntT) : Prop := ∀ (j : Nat) (h : j < es.length), ∃ x, a = some x ∧ EnAt w (x.add (j * 5)) es[j]
theorem EnAt.ext {w w' : World} {p : Addr} {e : EntT} (h : EnAt w p e) (hb : Below w.heap.size w w') : EnAt w' p e := fun i v hv => by
  have := h i v hv
  rw [hb.cell (cell_lt this), this]
theorem EnSl.ext {w w' : World} {a : Option Addr} {es : List EntT} (h : EnSl w a es) (hb : Below w.heap.size w w') : EnSl w' a es := fun j hj => by
  obtain ⟨x, h1, h2⟩ := h j hj
  exact ⟨x, h1, h2.ext hb⟩

section
variable {ops : Array Oper} {rest : List Oper} {Q : Exit → Act → World → Prop} {tmps : Array Value} {df : List Deferred} {d ty t u : Nat} {ps : String} {af : Array Edge} {gd : Option (Nat × Bool)} {w : World}
theorem en_load_at (h : Region.wanted ⟨some d, .load 64 (.tmp t), ty, ps, af, gd⟩ (yielded ops tmps) = true ∧ ∃ x e,
      tmps.getD t undef = .pointer (some x) ∧ EnAt w x e ∧ wpList Try.prog ops Q rest (Act.put ⟨tmps, df⟩ (some d) (.agg (evs e))) w) :
    wpList Try.prog ops Q (⟨some d, .load 64 (.tmp t), ty, ps, af, gd⟩ :: rest) ⟨tmps, df⟩ w := by
  obtain ⟨hw, x, f, hx, hg, h⟩ := h
  refine wpl_run hw ?_ h
  have hx' : Act.eval ⟨tmps, df⟩ (.tmp t) = .pointer (some x) := hx
  have hr := run_loadVar_at (P := Try.prog) w x 64 (evs f).toList _ (fun j v hv => hg j v (by simpa using hv)) Try.underlying64 rfl (by rw [aX2.2]; rfl)
  simp only [execOp, hx', Instr.loadAt, Instr.sureAddr, Sem.run_bind, Sem.run_pure, Result.andThen_ok, hr]
end
section
variable {P : Program} {ops : Array Oper} {rest : List Oper} {Q : Exit → Act → World → Prop} {tmps : Array Value} {df : List Deferred} {d ty t u : Nat} {x : Operand} {ps : String} {af : Array Edge} {gd : Option (Nat × Bool)} {w0 w : World} {l : List (Nat × Obj)} {T : TypeId}
/-- A cell out of whatever block. -/
theorem ev_load1_blk (hT : OneT P T) (h : Region.wanted ⟨some d, .load T (.tmp t), ty, ps, af, gd⟩ (yielded ops tmps) = true ∧ ∃ g i cs T' v,
      tmps.getD t undef = .pointer (some ⟨g, i, none⟩) ∧ w.heap[g]? = some (.cells cs T' (0, 0)) ∧ cs[i]? = some v ∧
      wpList P ops Q rest (Act.put ⟨tmps, df⟩ (some d) v) w) :
    wpList P ops Q (⟨some d, .load T (.tmp t), ty, ps, af, gd⟩ :: rest) ⟨tmps, df⟩ w := by
  obtain ⟨hw, g, i, cs, T', v, hx, hm, hv, h⟩ := h
  refine wpl_run hw ?_ h
  have hx' : Act.eval ⟨tmps, df⟩ (.tmp t) = .pointer (some ⟨g, i, none⟩) := hx
  have hc : w.cell? ⟨g, i, none⟩ = some v := (cell_of_row w g i cs T' (0, 0) hm).trans hv
  simp [execOp, hx', Instr.loadAt, Instr.sureAddr, Sem.run_bind, loadVar, run_isAgg_false hT, hc]
theorem ev_box1 (hSt : St w0 l w) (h : Region.wanted ⟨some d, .box T x, ty, ps, af, gd⟩ (yielded ops tmps) = true ∧ ∃ v cs, Act.eval ⟨tmps, df⟩ x = v ∧ v.cells = cs ∧
      ∀ g w', St w0 ((g, .cells cs T (0, 0)) :: l) w' → wpList P ops Q rest (Act.put ⟨tmps, df⟩ (some d) (.pointer (some ⟨g, 0, none⟩))) w') :
    wpList P ops Q (⟨some d, .box T x, ty, ps, af, gd⟩ :: rest) ⟨tmps, df⟩ w := by
  obtain ⟨hw, v, cs, hx, hv, h⟩ := h
  refine wpl_run hw ?_ (h w.heap.size (w.alloc (.cells cs T (0, 0))) (hSt.alloc _))
  simp only [execOp, hx, Instr.box, newVar, Sem.run_bind, hv]
  rfl
end

set_option maxHeartbeats 1000000 in
set_option maxRecDepth 100000 in
theorem findClo_is (e : EntT) (gk : Nat) (key : Int) (w : World) (hk : w.heap[gk]? = some (.cells #[.int .i64 key] 3 (0, 0))) :
    Calls Try.prog 31 #[.agg (evs e), .pointer (some ⟨gk, 0, none⟩)] w fun r w' => r = .returned (.bool (e.1 == key)) ∧ Below w.heap.size w w' := by
  have hSt := St.start w
  go_enter Try.func31, Try.ntmps31
  go_wp2_with (first | ((with_reducible refine ev_box hSt ?_); refine ⟨rfl, _, rfl, ?_⟩; intro gN wN hSt; (simp only [Act.put, List.setIfInBounds_toArray, List.set_cons_succ, List.set_cons_zero])) | ((with_reducible refine ev_load1 hSt oInt ?_); refine ⟨rfl, _, _, _, _, _, rfl, (by repeat (first | exact List.mem_cons_self .. | refine List.mem_cons_of_mem _ ?_)), evs0 _, ?_⟩; (simp only [Act.put, List.setIfInBounds_toArray, List.set_cons_succ, List.set_cons_zero])) | ((with_reducible refine ev_load1_blk oInt ?_); refine ⟨rfl, _, _, _, _, _, rfl, blk_of hSt.base hk, one0 _, ?_⟩; (simp only [Act.put, List.setIfInBounds_toArray, List.set_cons_succ, List.set_cons_zero])))
  go_ret
  exact ⟨rfl, hSt.base⟩

/-- Where a key stands. -/
def findI (es : List EntT) (key : Int) : Option Nat := es.findIdx? fun e => e.1 == key
def idxV : Option Nat → Int
  | some i => i
  | none => -1

set_option maxHeartbeats 1000000 in
set_option maxRecDepth 100000 in
theorem indexFunc_is (a : Option Addr) (es : List EntT) (cap gk : Nat) (key : Int) (w : World) (hl : EnSl w a es) (hn : es.length ≤ 1000) (hk : w.heap[gk]? = some (.cells #[.int .i64 key] 3 (0, 0))) :
    Calls Try.prog 30 #[.slice a es.length cap, .func (.func 31) #[] #[.pointer (some ⟨gk, 0, none⟩)]] w fun e w' => e = .returned (.int .i64 (idxV (findI es key))) ∧ Below w.heap.size w w' := by
  go_enter Try.func30, Try.ntmps30
  go_wp2
  go_loopw [8] (fun i wr => ∃ k : Nat, k ≤ es.length ∧ i = .int .i64 k ∧ Below w.heap.size w wr ∧ ∀ j (h : j < es.length), j < k → (es[j].1 == key) = false) (fun i _ => es.length - (intOf i).toNat)
  case atStart => exact ⟨0, by omega, rfl, Below.refl _ _, fun j hj h => absurd h (by omega)⟩
  case round =>
    obtain ⟨k, hk0, rfl, hbw, hz⟩ := hrel
    have hz := Lib.hid hz
    by_cases h : k = es.length
    · subst h
      have hnone : findI es key = none := by
        unfold findI
        rw [List.findIdx?_eq_none_iff]
        intro x hx
        obtain ⟨j, hj, rfl⟩ := List.mem_iff_getElem.1 hx
        exact hz.out j hj hj
      have hnone := Lib.hid hnone
      go_wp2
      go_ret
      rw [hnone.out]
      exact ⟨rfl, hbw⟩
    · have hlt : k < es.length := by omega
      have hlt' : (k : Int) < es.length := by omega
      obtain ⟨x, rfl, hat⟩ := hl.ext hbw k hlt
      have hC := fun w hk => findClo_is es[k] gk key w hk
      cases hB : es[k].1 == key
      · have hB' := Lib.hid hB
        rw [hB] at hC
        clear hB
        generalize hf : es[k] = f at hat hC
        have hf := Lib.hid hf
        go_wp2_with (first
          | ((with_reducible refine en_load_at ?_); refine ⟨rfl, _, _, rfl, hat, ?_⟩; (simp only [Act.put, List.setIfInBounds_toArray, List.set_cons_succ, List.set_cons_zero]))
          | (go_at_call 31; refine (hC _ (blk_of hbw hk)).mono ?_; rintro e w1 ⟨rfl, hb9⟩))
        refine ⟨⟨k + 1, by omega, by simp, hbw.trans (hb9.mono hbw.size), fun j hj hjk => ?_⟩, by simp only [intOf]; omega⟩
        rcases (by omega : j < k ∨ j = k) with h' | rfl
        · exact hz.out j hj h'
        · exact hB'.out
      · have hsome : findI es key = some k := by
          unfold findI
          rw [List.findIdx?_eq_some_iff_getElem]
          exact ⟨hlt, hB, fun j hj => by simpa using hz.out j (by omega) hj⟩
        have hsome := Lib.hid hsome
        rw [hB] at hC
        clear hB
        generalize es[k] = f at hat hC
        go_wp2_with (first
          | ((with_reducible refine en_load_at ?_); refine ⟨rfl, _, _, rfl, hat, ?_⟩; (simp only [Act.put, List.setIfInBounds_toArray, List.set_cons_succ, List.set_cons_zero]))
          | (go_at_call 31; refine (hC _ (blk_of hbw hk)).mono ?_; rintro e w1 ⟨rfl, hb9⟩))
        go_ret
        rw [hsome.out]
        exact ⟨rfl, hbw.trans (hb9.mono hbw.size)⟩
end Go.Proofs.Yteohokidlopbnaa
