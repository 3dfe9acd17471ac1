/- Pages as functions from places to bytes, and what the walks need of them. -/
import Derived.Test.YtmnofoflbhdgjaaProg
import Derived.Test.YtmnofoflbhdgjaaSeq
import Derived.WalkKit
import Derived.KernelRfl
import Derived.Lib.Hide
import Derived.Deep.MidRow
import Derived.Deep.WholeRow
namespace Go.Proofs.Ytmnofoflbhdgjaa
open Go.RowKit

/-- A page's cells. -/
@[irreducible] def pgc (p : Nat → UInt8) : Array Value := Array.ofFn (n := 64) fun i => Value.int .u8 ((p i.1).toNat : Int)

theorem pgc_size (p : Nat → UInt8) : (pgc p).size = 64 := by simp [pgc]
theorem pgc_get (p : Nat → UInt8) (i : Nat) (h : i < 64) : (pgc p)[i]? = some (.int .u8 ((p i).toNat : Int)) := by
  simp [pgc, h]

/-- A number's lowest byte. -/
def b8 (x : Int) : UInt8 := UInt8.ofNat (x % 256).toNat
theorem b8_nat (x : Int) : ((b8 x).toNat : Int) = x % 256 := by
  unfold b8; rw [UInt8.toNat_ofNat']; omega

def upd (p : Nat → UInt8) (k : Nat) (b : UInt8) : Nat → UInt8 := fun i => if i = k then b else p i

theorem pgc_set (p : Nat → UInt8) (k : Nat) (b : UInt8) : (pgc p).setIfInBounds k (.int .u8 (b.toNat : Int)) = pgc (upd p k b) := by
  apply Array.ext_getElem?
  intro i
  rw [Array.getElem?_setIfInBounds]
  by_cases h : k = i
  · subst h
    by_cases h2 : k < 64
    · simp [pgc, h2, upd]
    · simp [pgc, h2]
  · have h' : ¬ i = k := fun e => h e.symm
    rw [if_neg h]
    by_cases h2 : i < 64
    · rw [pgc_get _ _ h2, pgc_get _ _ h2]; simp [upd, h']
    · rw [Array.getElem?_eq_none (by rw [pgc_size]; omega), Array.getElem?_eq_none (by rw [pgc_size]; omega)]

/-- A page without anything. -/
def zp : Nat → UInt8 := fun _ => 0
def zc : Array Value := pgc zp
theorem zc_eq : (Array.replicate 64 (Value.int .u8 0)) = zc := by kernel_rfl
theorem zc_size : zc.size = 64 := pgc_size zp

/-- The number of k bytes from a on. -/
def gets (p : Nat → UInt8) (a : Nat) : Nat → Int
  | 0 => 0
  | k + 1 => gets p a k * 256 + ((p (a + k)).toNat : Int)

theorem byte_lt (b : UInt8) : (0 : Int) ≤ (b.toNat : Int) ∧ (b.toNat : Int) < 256 := by
  have := b.toNat_lt; omega

theorem gets_bd (p : Nat → UInt8) (a k : Nat) : 0 ≤ gets p a k ∧ gets p a k < 256 ^ k := by
  induction k with
  | zero => simp [gets]
  | succ k ih =>
    have hb := byte_lt (p (a + k))
    simp only [gets, Int.pow_succ]
    omega

theorem gets_bd4 (p : Nat → UInt8) (a k : Nat) (hk : k ≤ 4) : 0 ≤ gets p a k ∧ gets p a k < 4294967296 := by
  have h := gets_bd p a k
  rcases (by omega : k = 0 ∨ k = 1 ∨ k = 2 ∨ k = 3 ∨ k = 4) with rfl | rfl | rfl | rfl | rfl <;> simp only [Int.reducePow] at h <;> omega

theorem wraps_i64 (n : Int) (h₀ : 0 ≤ n) (h₁ : n < 2 ^ 62) : IntKind.i64.wrap n = n := by
  rw [IntKind.wrap_i64]
  have : n < 4611686018427387904 := h₁
  omega

theorem or_byte (x y : Int) (h0 : 0 ≤ x) (h1 : x < 4294967296) (h2 : 0 ≤ y) (h3 : y < 256) : bits .or .i64 (wrap64 (x * 256)) (wrap64 y) = x * 256 + y := by
  have e1 : wrap64 (x * 256) = x * 256 := by unfold wrap64; omega
  have e2 : wrap64 y = y := by unfold wrap64; omega
  rw [e1, e2]
  exact bits_join .i64 62 (by decide) wraps_i64 8 _ _ (by omega) (by omega) (by omega) h2 (by omega) (by omega)

theorem ret_int {k : IntKind} {a b : Int} (h : a = b) : Ending.returned (.int k a) = .returned (.int k b) := by rw [h]

section
variable {P : Program}
theorem run_sliceAt_arr {T E : TypeId} {n : Nat} {i : TypeInfo} (hu : P.underlying T = some (.array n E)) (hi : P.info? E = some i) (hs : i.size = 1) (b o : Nat) (lo hi' : Int) (h0 : 0 ≤ lo) (h1 : lo ≤ hi') (h2 : hi' ≤ n) (w : World) :
    (Instr.sliceAt T (.pointer (some ⟨b, o, none⟩)) (some (.int .i64 lo)) (some (.int .i64 hi')) none).run P w =
      .ok (.slice (some (if n = lo.toNat then ⟨b, o, none⟩ else (⟨b, o, none⟩ : Addr).add lo.toNat)) (hi'.toNat - lo.toNat) (n - lo.toNat)) w := by
  have e1 : hi' ≤ (n : Int) := h2
  have e2 : lo ≤ ((hi'.toNat : Nat) : Int) := by omega
  simp [Instr.sliceAt, Instr.sureAddr, Sem.run_bind, run_underlying hu, Instr.sliceBounds, run_sliceBound w .i64 lo hi'.toNat .sliceB h0 e2, run_sliceBound w .i64 hi' n .sliceAlen (by omega) e1, sizeOf, typeInfo, hi, hs]

theorem wpl_load {ops : Array Oper} {rest : List Oper} {o : Oper} {a : Act} {w : World} {Q : Exit → Act → World → Prop} (T E : TypeId) (x : Operand) (g : Nat) (cs : Array Value)
    (hgd : o.guard = none) (ho : o.op = .load T x) (hx : a.eval x = .pointer (some ⟨g, 0, none⟩))
    (hu : P.underlying T = some (.array 64 E)) (hi : (P.info? T).map (·.size) = some 64) (hc : cs.size = 64) (hg : w.heap[g]? = some (.cells cs T (0, 0)))
    (h : wpList P ops Q rest (a.put o.dst (.agg cs)) w) : wpList P ops Q (o :: rest) a w :=
  wpList_load_row hgd T x ho g hx T cs (0, 0) _ hg hu rfl (by rw [hi, hc]) h

theorem pgc_one (p : Nat → UInt8) : (pgc p).all (·.oneCell') = true := by
  rw [Array.all_eq_true_iff_forall_mem]
  intro v hv
  simp only [pgc, Array.mem_ofFn] at hv
  obtain ⟨i, rfl⟩ := hv
  rfl

/-- A whole page into the block that was made last. -/
theorem wpl_store {ops : Array Oper} {rest : List Oper} {o : Oper} {a : Act} {w : World} {Q : Exit → Act → World → Prop} (T : TypeId) (x y : Operand) (old : Array Value) (p : Nat → UInt8)
    (hgd : o.guard = none) (ho : o.op = .store T x y) (hx : a.eval x = .pointer (some ⟨w.heap.size, 0, none⟩)) (hy : a.eval y = .agg (pgc p))
    (hi : (P.info? T).map (·.size) = some 64) (hc : old.size = 64)
    (h : wpList P ops Q rest (a.put o.dst undef) (w.alloc (.cells (pgc p) T))) : wpList P ops Q (o :: rest) a (w.alloc (.cells old T)) := by
  refine wpList_store_row hgd T x y ho w.heap.size (pgc p) hx hy T old (heap_alloc_last w _) (by rw [hi, pgc_size]) (by rw [hc, pgc_size]) (pgc_one p) ?_
  rw [World.setRow_alloc_new]
  exact h

/-- A whole page as a result. -/
theorem res_pg {fn : Func} {t : Tmp} {T E : TypeId} (h : fn.results = #[.cell t T]) (hu : P.underlying T = some (.array 64 E)) (hi : (P.info? T).map (·.size) = some 64)
    (tmps : Array Value) (w : World) (g : Nat) (cs : Array Value) (hc : cs.size = 64) (hp : tmps.getD t undef = .pointer (some ⟨g, 0, none⟩)) (hg : w.heap[g]? = some (.cells cs T (0, 0))) :
    (results fn tmps).run P w = .ok (.agg cs) w :=
  results_cell_row h tmps w g T cs (0, 0) _ hp hg hu rfl (by rw [hi, hc])
end

/-! ### This program's pages -/
theorem Try.sizePg : (Try.prog.info? 39).map (·.size) = some 64 := by kernel_rfl
theorem Try.zeroPg : (Try.prog.info? 39).map (fun i => (i.zero, i.size)) = some (some (.agg (Array.replicate 64 (Value.int .u8 0))), 64) := by kernel_rfl
theorem Try.infoE : (Try.prog.info? 5).map (fun i => i.size) = some 1 := by kernel_rfl
section
variable {ops : Array Oper} {rest : List Oper} {Q : Exit → Act → World → Prop} {tmps : Array Value} {df : List Deferred} {d ty t u : Nat} {ps : String} {af : Array Edge} {gd : Option (Nat × Bool)} {w : World}
theorem pg_load (h : Region.wanted ⟨some d, .load 39 (.tmp t), ty, ps, af, gd⟩ (yielded ops tmps) = true ∧ ∃ g p,
      tmps.getD t undef = .pointer (some ⟨g, 0, none⟩) ∧ w.heap[g]? = some (.cells (pgc p) 39 (0, 0)) ∧
      wpList Try.prog ops Q rest (Act.put ⟨tmps, df⟩ (some d) (.agg (pgc p))) w) :
    wpList Try.prog ops Q (⟨some d, .load 39 (.tmp t), ty, ps, af, gd⟩ :: rest) ⟨tmps, df⟩ w := by
  obtain ⟨hw, g, p, hx, hg, h⟩ := h
  refine wpl_run hw ?_ h
  have hx' : Act.eval ⟨tmps, df⟩ (.tmp t) = .pointer (some ⟨g, 0, none⟩) := hx
  simp only [execOp, hx', Instr.loadAt, Instr.sureAddr, Sem.run_bind, Sem.run_pure, Result.andThen_ok, run_loadVar_row w g 39 39 (pgc p) (0, 0) _ hg Try.underlying39 rfl (by rw [Try.sizePg, pgc_size])]
theorem pg_store {old : Array Value} (h : Region.wanted ⟨none, .store 39 (.tmp t) (.tmp u), ty, ps, af, gd⟩ (yielded ops tmps) = true ∧ ∃ p,
      tmps.getD t undef = .pointer (some ⟨w.heap.size, 0, none⟩) ∧ tmps.getD u undef = .agg (pgc p) ∧ old.size = 64 ∧
      wpList Try.prog ops Q rest (Act.put ⟨tmps, df⟩ none undef) (w.alloc (.cells (pgc p) 39))) :
    wpList Try.prog ops Q (⟨none, .store 39 (.tmp t) (.tmp u), ty, ps, af, gd⟩ :: rest) ⟨tmps, df⟩ (w.alloc (.cells old 39)) := by
  obtain ⟨hw, p, hx, hy, hc, h⟩ := h
  refine wpl_run_skip hw ?_ h
  have hx' : Act.eval ⟨tmps, df⟩ (.tmp t) = .pointer (some ⟨w.heap.size, 0, none⟩) := hx
  have hy' : Act.eval ⟨tmps, df⟩ (.tmp u) = .agg (pgc p) := hy
  simp only [execOp, hx', hy', Instr.storeAt, Instr.sureAddr, Sem.run_bind, Sem.run_pure, Result.andThen_ok, run_storeVar_new w 39 old (pgc p) (by rw [Try.sizePg, pgc_size]) (by rw [hc, pgc_size]) (pgc_one p)]
theorem pg_alloc (h : Region.wanted ⟨some d, .alloc 39, ty, ps, af, gd⟩ (yielded ops tmps) = true ∧
      wpList Try.prog ops Q rest (Act.put ⟨tmps, df⟩ (some d) (.pointer (some ⟨w.heap.size, 0, none⟩))) (w.alloc (.cells zc 39))) :
    wpList Try.prog ops Q (⟨some d, .alloc 39, ty, ps, af, gd⟩ :: rest) ⟨tmps, df⟩ w := by
  refine wpl_run h.1 ?_ h.2
  have hz := (zero_of_info Try.zeroPg).1
  simp only [execOp, Instr.alloc, Sem.run_bind, hz, Result.andThen_ok, newVar, zc_eq]
  rfl
theorem pg_build (h : Region.wanted ⟨some d, .build 39 #[], ty, ps, af, gd⟩ (yielded ops tmps) = true ∧
      wpList Try.prog ops Q rest (Act.put ⟨tmps, df⟩ (some d) (.agg (pgc zp))) w) :
    wpList Try.prog ops Q (⟨some d, .build 39 #[], ty, ps, af, gd⟩ :: rest) ⟨tmps, df⟩ w := by
  refine wpl_run h.1 ?_ h.2
  have hz := (zero_of_info Try.zeroPg).1
  obtain ⟨i, hi, hs⟩ := Option.map_eq_some_iff.1 Try.infoE
  simp only [execOp, Instr.build, Sem.run_bind, hz, Result.andThen_ok, run_underlying Try.underlying39, sizeOf, typeInfo, Value.cells]
  simp [hi, Instr.fill]
  exact zc_eq
end
end Go.Proofs.Ytmnofoflbhdgjaa
