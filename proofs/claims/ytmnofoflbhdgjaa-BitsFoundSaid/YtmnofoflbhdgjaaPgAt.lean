/- Slices of pages, and a page's load out of one. -/
import Derived.Test.YtmnofoflbhdgjaaPg
namespace Go.Proofs.Ytmnofoflbhdgjaa
open Go.RowKit

theorem run_loadVar_at {P : Program} (w : World) (x : Addr) (ty : TypeId) (cs : List Value) (d : TypeDesc) (hc : ∀ (j : Nat) (v : Value), cs[j]? = some v → w.cell? (x.add j) = some v)
    (hu : P.underlying ty = some d) (hd : d.isRow = true) (hi : (P.info? ty).map (·.size) = some cs.length) :
    (loadVar ty x).run P w = .ok (.agg cs.toArray) w := by
  have hl : (loadCells x cs.length).run P w = .ok cs.toArray w := run_loadCells_list (P := P) w x cs hc
  cases hq : P.info? ty with
  | none => simp [hq] at hi
  | some i =>
    have hs : i.size = cs.length := by simpa [hq] using hi
    have hagg : (isAgg ty).run P w = .ok true w := by
      unfold isAgg
      rw [Sem.run_bind, run_underlying hu w]
      cases d <;> simp_all
    simp [loadVar, Sem.run_bind, hagg, sizeOf, typeInfo, hq, hs, hl]

/-- A page's bytes lie there. -/
def PgAt (w : World) (x : Addr) (p : Nat → UInt8) : Prop := ∀ i, i < 64 → w.cell? (x.add i) = some (.int .u8 ((p i).toNat : Int))
/-- A slice's pages. -/
def PgSl (w : World) (a : Option Addr) (ps : List (Nat → UInt8)) : Prop := ∀ (j : Nat) (h : j < ps.length), ∃ x, a = some x ∧ PgAt w (x.add (j * 64)) ps[j]

theorem cell_lt {w : World} {x : Addr} {v : Value} (hx : w.cell? x = some v) : x.block < w.heap.size := by
  by_cases hq : x.block < w.heap.size
  · exact hq
  · exfalso
    unfold World.cell? at hx
    simp [Array.getElem?_eq_none (by omega : w.heap.size ≤ x.block)] at hx
theorem PgAt.ext {w w' : World} {x : Addr} {p : Nat → UInt8} (h : PgAt w x p) (hb : Below w.heap.size w w') : PgAt w' x p := fun i hi => by
  have := h i hi
  rw [hb.cell (cell_lt this), this]
theorem PgSl.ext {w w' : World} {a : Option Addr} {ps : List (Nat → UInt8)} (h : PgSl w a ps) (hb : Below w.heap.size w w') : PgSl w' a ps := fun j hj => by
  obtain ⟨x, h1, h2⟩ := h j hj
  exact ⟨x, h1, h2.ext hb⟩

section
variable {ops : Array Oper} {rest : List Oper} {Q : Exit → Act → World → Prop} {tmps : Array Value} {df : List Deferred} {d ty t u : Nat} {ps : String} {af : Array Edge} {gd : Option (Nat × Bool)} {w : World}
theorem pg_load_at (h : Region.wanted ⟨some d, .load 39 (.tmp t), ty, ps, af, gd⟩ (yielded ops tmps) = true ∧ ∃ x p,
      tmps.getD t undef = .pointer (some x) ∧ PgAt w x p ∧ wpList Try.prog ops Q rest (Act.put ⟨tmps, df⟩ (some d) (.agg (pgc p))) w) :
    wpList Try.prog ops Q (⟨some d, .load 39 (.tmp t), ty, ps, af, gd⟩ :: rest) ⟨tmps, df⟩ w := by
  obtain ⟨hw, x, p, hx, hg, h⟩ := h
  refine wpl_run hw ?_ h
  have hx' : Act.eval ⟨tmps, df⟩ (.tmp t) = .pointer (some x) := hx
  have hr := run_loadVar_at (P := Try.prog) w x 39 (pgc p).toList _ (fun j v hv => by
    have hv' : (pgc p)[j]? = some v := by simpa using hv
    have hj : j < 64 := by
      have := (Array.getElem?_eq_some_iff.1 hv').1
      rwa [pgc_size] at this
    rw [pgc_get _ _ hj] at hv'
    rw [hg j hj, hv']) Try.underlying39 rfl (by rw [Try.sizePg, Array.length_toList, pgc_size])
  simp only [execOp, hx', Instr.loadAt, Instr.sureAddr, Sem.run_bind, Sem.run_pure, Result.andThen_ok, hr]
end
end Go.Proofs.Ytmnofoflbhdgjaa
