/- Slices of heads, and a head's load out of one; rows of pages that the call owns. -/
import Derived.Test.YtdikhbdcdpcfgaaPgSl
import Derived.Test.YtdikhbdcdpcfgaaHeadL
import Derived.Test.YtdikhbdcdpcfgaaHeadN
import Derived.Maps.AppendAt
import Derived.OwnWalk
namespace Go.Proofs.Ytdikhbdcdpcfgaa
open Go.RowKit
set_option linter.unusedVariables false

abbrev HdT := Int × Bool × Int × Int
def hdv (h : HdT) : Array Value := #[.int .i64 h.1, .bool h.2.1, .int .i64 h.2.2.1, .int .u32 h.2.2.2]
theorem hdv_size (h : HdT) : (hdv h).size = 4 := rfl
/-- A slice's heads. -/
def HdSl (w : World) (a : Option Addr) (hs : List HdT) : Prop := ∀ (j : Nat) (h : j < hs.length), ∃ x, a = some x ∧ ∀ i v, (hdv hs[j])[i]? = some v → w.cell? ((x.add (j * 4)).add i) = some v
theorem HdSl.ext {w w' : World} {a : Option Addr} {hs : List HdT} (h : HdSl w a hs) (hb : Below w.heap.size w w') : HdSl w' a hs := fun j hj => by
  obtain ⟨x, h1, h2⟩ := h j hj
  refine ⟨x, h1, fun i v hv => ?_⟩
  have := h2 i v hv
  rw [hb.cell (cell_lt this), this]

section
variable {ops : Array Oper} {rest : List Oper} {Q : Exit → Act → World → Prop} {tmps : Array Value} {df : List Deferred} {d ty t u : Nat} {ps : String} {af : Array Edge} {gd : Option (Nat × Bool)} {w : World}
theorem hd_load_at (h : Region.wanted ⟨some d, .load 48 (.tmp t), ty, ps, af, gd⟩ (yielded ops tmps) = true ∧ ∃ x hd,
      tmps.getD t undef = .pointer (some x) ∧ (∀ i v, (hdv hd)[i]? = some v → w.cell? (x.add i) = some v) ∧ wpList Try.prog ops Q rest (Act.put ⟨tmps, df⟩ (some d) (.agg (hdv hd))) w) :
    wpList Try.prog ops Q (⟨some d, .load 48 (.tmp t), ty, ps, af, gd⟩ :: rest) ⟨tmps, df⟩ w := by
  obtain ⟨hw, x, hd, hx, hg, h⟩ := h
  refine wpl_run hw ?_ h
  have hx' : Act.eval ⟨tmps, df⟩ (.tmp t) = .pointer (some x) := hx
  have hr := run_loadVar_at (P := Try.prog) w x 48 (hdv hd).toList _ (fun j v hv => hg j v (by simpa using hv)) Try.underlying48 rfl (by rw [aHd.2]; rfl)
  simp only [execOp, hx', Instr.loadAt, Instr.sureAddr, Sem.run_bind, Sem.run_pure, Result.andThen_ok, hr]
end

/-- Pages' cells, one after the other. -/
def rowc (ps : List (Nat → UInt8)) : List Value := ps.flatMap fun p => (pgc p).toList
theorem rowc_snoc (ps : List (Nat → UInt8)) (p : Nat → UInt8) : rowc (ps ++ [p]) = rowc ps ++ (pgc p).toList := by simp [rowc]
theorem rowc_len (ps : List (Nat → UInt8)) : (rowc ps).length = ps.length * 64 := by
  induction ps with
  | nil => rfl
  | cons p ps ih =>
    have : rowc (p :: ps) = (pgc p).toList ++ rowc ps := rfl
    rw [this, List.length_append, ih, Array.length_toList, pgc_size, List.length_cons]; omega
theorem rowc_get : ∀ (ps : List (Nat → UInt8)) (j : Nat) (h : j < ps.length) (i : Nat), i < 64 → (rowc ps)[j * 64 + i]? = some (.int .u8 ((ps[j] i).toNat : Int))
  | [], j, h, _, _ => by simp at h
  | p :: ps, 0, _, i, hi => by
    have : rowc (p :: ps) = (pgc p).toList ++ rowc ps := rfl
    rw [this, List.getElem?_append_left (by rw [Array.length_toList, pgc_size]; omega), Array.getElem?_toList, Nat.zero_mul, Nat.zero_add, pgc_get _ _ hi]
    rfl
  | p :: ps, j + 1, h, i, hi => by
    have : rowc (p :: ps) = (pgc p).toList ++ rowc ps := rfl
    rw [this, List.getElem?_append_right (by rw [Array.length_toList, pgc_size]; omega), Array.length_toList, pgc_size, show (j + 1) * 64 + i - 64 = j * 64 + i from by omega]
    simpa using rowc_get ps j (by simpa using h) i hi

def PgRow (w : World) (B : Nat) (v : Value) (ps : List (Nat → UInt8)) : Prop := w.ownsRow B 23 64 v ps.length (rowc ps)
theorem PgRow.below {w w' : World} {B : Nat} {v : Value} {ps : List (Nat → UInt8)} (h : PgRow w B v ps) (hb : Below w.heap.size w w') : PgRow w' B v ps := by
  refine ⟨h.1, ?_⟩
  rcases h.2 with hn | ⟨g, cap, cur, rfl, h1, h2, rest⟩
  · exact .inl hn
  · exact .inr ⟨g, cap, cur, rfl, h1, blk_of hb h2, rest⟩
/-- What such a row is as a slice. -/
theorem PgRow.slice {w : World} {B : Nat} {v : Value} {ps : List (Nat → UInt8)} (h : PgRow w B v ps) : ∃ a cap, v = .slice a ps.length cap ∧ ps.length ≤ cap ∧ ∀ w', PgRow w' B v ps → PgSl w' a ps := by
  rcases h.2 with ⟨rfl, h0⟩ | ⟨g, cap, cur, rfl, h1, h2, h3, h4, h5, h6⟩
  · have : ps = [] := List.eq_nil_of_length_eq_zero h0
    subst this
    exact ⟨none, 0, rfl, Nat.le_refl _, fun _ _ j hj => by simp at hj⟩
  · refine ⟨some ⟨g, 0, none⟩, cap, rfl, h3, fun w' h' j hj => ⟨_, rfl, fun i hi => ?_⟩⟩
    rw [Addr.add_mid, Addr.add_mid, Nat.zero_add]
    have hc := h'.cells (g := g) rfl (j * 64 + i) _ (rowc_get ps j hj i hi)
    rwa [Addr.add_mid, Nat.zero_add] at hc
theorem PgSl.take {w : World} {a : Option Addr} {ps : List (Nat → UInt8)} (h : PgSl w a ps) (k : Nat) : PgSl w a (ps.take k) := fun j hj => by
  have hj' : j < ps.length := by rw [List.length_take] at hj; omega
  obtain ⟨x, h1, h2⟩ := h j hj'
  exact ⟨x, h1, by rw [List.getElem_take]; exact h2⟩

theorem Try.infoP : (Try.prog.info? 23).map (fun i => (i.zero, i.size, i.bytes)) = some (some (.agg (Array.replicate 64 (Value.int .u8 0))), 64, 64) := by kernel_rfl

/-! ### The next number, as a bound -/
theorem nxf_le (l : List (Nat → UInt8)) : ∀ n m : Int, l.foldl nx n ≤ m ↔ n ≤ m ∧ ∀ p ∈ l, pget p 0 4 + 1 ≤ m ∧ pget p 60 4 + 1 ≤ m := by
  induction l with
  | nil => intro n m; simp
  | cons p l ih =>
    intro n m
    rw [List.foldl_cons, ih]
    unfold nx
    constructor
    · rintro ⟨h1, h2⟩
      refine ⟨by omega, fun q hq => ?_⟩
      rcases List.mem_cons.1 hq with rfl | hq
      · omega
      · exact h2 q hq
    · rintro ⟨h1, h2⟩
      have := h2 p (List.mem_cons_self ..)
      exact ⟨by omega, fun q hq => h2 q (List.mem_cons_of_mem _ hq)⟩
theorem nxs_le (l : List (Nat → UInt8)) (m : Int) : nxs l ≤ m ↔ 0 ≤ m ∧ ∀ p ∈ l, pget p 0 4 + 1 ≤ m ∧ pget p 60 4 + 1 ≤ m := nxf_le l 0 m
theorem nxs_mono {l l' : List (Nat → UInt8)} (h : ∀ p ∈ l, p ∈ l') : nxs l ≤ nxs l' := by
  have h' := (nxs_le l' (nxs l')).1 (Int.le_refl _)
  exact (nxs_le l _).2 ⟨h'.1, fun p hp => h'.2 p (h p hp)⟩
theorem nxs_mem {l : List (Nat → UInt8)} {p : Nat → UInt8} (h : p ∈ l) : pget p 0 4 + 1 ≤ nxs l := (((nxs_le l (nxs l)).1 (Int.le_refl _)).2 p h).1

/-- The pages, turned. -/
def turn (qs : List (Nat → UInt8)) (t k : Nat) : List (Nat → UInt8) := (List.range k).map fun i => qs.getD ((i + t) % qs.length) zp
theorem turn_succ (qs : List (Nat → UInt8)) (t k : Nat) : turn qs t (k + 1) = turn qs t k ++ [qs.getD ((k + t) % qs.length) zp] := by simp [turn, List.range_succ]
theorem turn_len (qs : List (Nat → UInt8)) (t k : Nat) : (turn qs t k).length = k := by simp [turn]
theorem turn_nxs (qs : List (Nat → UInt8)) (t : Nat) : nxs (turn qs t qs.length) = nxs qs := by
  by_cases h0 : qs.length = 0
  · rw [h0]
    have : qs = [] := List.eq_nil_of_length_eq_zero h0
    rw [this]; rfl
  refine Int.le_antisymm (nxs_mono fun p hp => ?_) (nxs_mono fun p hp => ?_)
  · obtain ⟨i, hi, rfl⟩ := List.mem_map.1 hp
    have hlt : (i + t) % qs.length < qs.length := Nat.mod_lt _ (by omega)
    rw [List.getD_eq_getElem?_getD, List.getElem?_eq_getElem hlt]
    exact List.getElem_mem hlt
  · obtain ⟨j, hj, rfl⟩ := List.getElem_of_mem hp
    refine List.mem_map.2 ⟨(j + (qs.length - t % qs.length)) % qs.length, List.mem_range.2 (Nat.mod_lt _ (by omega)), ?_⟩
    have ht : t % qs.length < qs.length := Nat.mod_lt _ (by omega)
    have e : ((j + (qs.length - t % qs.length)) % qs.length + t) % qs.length = j := by
      rw [Nat.add_mod, Nat.mod_mod, ← Nat.add_mod]
      have : j + (qs.length - t % qs.length) + t = j + qs.length * (1 + t / qs.length) := by
        have := Nat.div_add_mod t qs.length
        rw [Nat.mul_add, Nat.mul_one]
        omega
      rw [this, Nat.add_mul_mod_self_left]
      exact Nat.mod_eq_of_lt hj
    rw [e, List.getD_eq_getElem?_getD, List.getElem?_eq_getElem hj]
    rfl

/-- The pages of those heads that are right. -/
def encs (hs : List HdT) : List (Nat → UInt8) := hs.filterMap fun h => if hRight h.1 h.2.1 h.2.2.1 h.2.2.2 then some (hPut h.1 h.2.1 h.2.2.1 h.2.2.2) else none
theorem encs_snoc (hs : List HdT) (h : HdT) : encs (hs ++ [h]) = if hRight h.1 h.2.1 h.2.2.1 h.2.2.2 then encs hs ++ [hPut h.1 h.2.1 h.2.2.1 h.2.2.2] else encs hs := by
  unfold encs
  rw [List.filterMap_append]
  cases hr : hRight h.1 h.2.1 h.2.2.1 h.2.2.2 <;> simp [hr]
theorem encs_len (hs : List HdT) : (encs hs).length ≤ hs.length := List.length_filterMap_le _ _
theorem encs_mem {hs : List HdT} (hb : ∀ h ∈ hs, 0 ≤ h.2.2.2 ∧ h.2.2.2 < 4294967296) {p : Nat → UInt8} (hp : p ∈ encs hs) : ∃ q l c s, p = hPut q l c s ∧ hRight q l c s = true ∧ 0 ≤ s ∧ s < 4294967296 := by
  obtain ⟨h, hh, he⟩ := List.mem_filterMap.1 hp
  cases hr : hRight h.1 h.2.1 h.2.2.1 h.2.2.2 with
  | false => simp [hr] at he
  | true =>
    simp [hr] at he
    exact ⟨_, _, _, _, he.symm, hr, (hb h hh).1, (hb h hh).2⟩
theorem take_snocH (l : List HdT) (k : Nat) (h : k < l.length) : l.take (k + 1) = l.take k ++ [l[k]] := by
  rw [List.take_succ_eq_append_getElem h]
end Go.Proofs.Ytdikhbdcdpcfgaa
