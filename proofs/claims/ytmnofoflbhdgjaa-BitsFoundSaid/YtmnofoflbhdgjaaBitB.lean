/- Chapter 07: Clone of pages, Set, walked. -/
import Derived.Test.YtmnofoflbhdgjaaBitA
import Derived.Laws.Cover3
import Derived.Maps.AppendAt
namespace Go.Proofs.Ytmnofoflbhdgjaa
open Go.RowKit
set_option linter.unusedSimpArgs false
set_option linter.unusedVariables false

theorem oU8s : (Try.prog.info? 5).map (·.size) = some 1 := by kernel_rfl
theorem mixed07 : Try.prog.follows .mixedOrders = true := by kernel_rfl
section
variable {P : Program} {ops : Array Oper} {rest : List Oper} {Q : Exit → Act → World → Prop} {tmps : Array Value} {df : List Deferred} {d ty t u : Nat} {x : Operand} {ps : String} {af : Array Edge} {gd : Option (Nat × Bool)} {w : World} {T : TypeId}
theorem ev_cellstore {tb i : Nat} {v0 : Value} (hc : w.cell? ⟨tb, i, none⟩ = some v0) (hf : w.frozen? ⟨tb, i, none⟩ = false) (hs : (P.info? T).map (·.size) = some 1)
    (h : Region.wanted ⟨none, .store T (.tmp t) x, ty, ps, af, gd⟩ (yielded ops tmps) = true ∧ ∃ v, tmps.getD t undef = .pointer (some ⟨tb, i, none⟩) ∧ Act.eval ⟨tmps, df⟩ x = v ∧ v.oneCell' = true ∧
      wpList P ops Q rest (Act.put ⟨tmps, df⟩ none undef) (w.setCell ⟨tb, i, none⟩ v)) :
    wpList P ops Q (⟨none, .store T (.tmp t) x, ty, ps, af, gd⟩ :: rest) ⟨tmps, df⟩ w := by
  obtain ⟨hw, v, hx, hy, h1, h⟩ := h
  refine wpl_run_skip hw ?_ h
  have hx' : Act.eval ⟨tmps, df⟩ (.tmp t) = .pointer (some ⟨tb, i, none⟩) := hx
  have hr' : (storeVar T ⟨tb, i, none⟩ v).run P w = .ok () (w.setCell ⟨tb, i, none⟩ v) := by
    have := run_storeCells_cells (P := P) tb i [v] 0 w (fun j hj => by
      have hj0 : j = 0 := by simpa using hj
      subst hj0
      simp [hc]) (fun j hj => by
      have hj0 : j = 0 := by simpa using hj
      subst hj0
      simp [hf]) (fun u hu => by
      obtain rfl := List.mem_singleton.1 hu
      exact h1)
    obtain ⟨inf, hq, hsz⟩ := Option.map_eq_some_iff.1 hs
    simp only [Nat.add_zero] at this
    simp [storeVar, sizeOf, typeInfo, hq, cells_one h1, hsz, this, World.setCells]
  simp only [execOp, hx', hy, Instr.storeAt, Instr.sureAddr, Sem.run_bind, Sem.run_pure, Result.andThen_ok, hr']
end

/-! ### Clone -/
theorem slEq_pg (a : Option Addr) (n c0 : Nat) (w : World) : (binOp .eql 49 (.slice a n c0) (.slice none 0 0)).run Try.prog w = .ok (.bool a.isNone) w := by
  simp [binOp, run_underlying Try.underlying49, run_equal_slice_nil (P := Try.prog) w 49 39 _ _ _ Try.underlying49]
theorem rowc_one (ps : List PgT) (u : Value) (h : u ∈ rowc ps) : u.oneCell' = true := by
  obtain ⟨p, -, hp⟩ := List.mem_flatMap.1 h
  exact page_one p u hp
theorem rowc_at (ps : List PgT) (m : Nat) (hm : m < ps.length * 64) : (rowc ps)[m]? = some (.int .u8 (((ps.getD (m / 64) zp) (m % 64)).toNat : Int)) := by
  have hq : m / 64 < ps.length := by omega
  have := rowc_get ps (m / 64) hq (m % 64) (Nat.mod_lt _ (by decide))
  rw [show m / 64 * 64 + m % 64 = m from by omega] at this
  rw [this, List.getD_eq_getElem?_getD, List.getElem?_eq_getElem hq, Option.getD_some]
theorem add_add (x : Addr) (i j : Nat) : (x.add i).add j = x.add (i + j) := by
  unfold Addr.add
  split <;> split <;> simp_all <;> omega
theorem pgSl_cell {w : World} {x : Addr} {ps : List PgT} (h : PgSl w (some x) ps) (j : Nat) (u : Value) (hu : (rowc ps)[j]? = some u) : w.cell? (x.add j) = some u := by
  have hj : j < ps.length * 64 := by
    have := (List.getElem?_eq_some_iff.1 hu).1
    rwa [rowc_len] at this
  have hq : j / 64 < ps.length := by omega
  obtain ⟨y, hy, hat⟩ := h (j / 64) hq
  cases hy
  have h1 := hat (j % 64) (Nat.mod_lt _ (by decide))
  have h2 := rowc_get ps (j / 64) hq (j % 64) (Nat.mod_lt _ (by decide))
  rw [show j / 64 * 64 + j % 64 = j from by omega, hu] at h2
  have h3 : (x.add (j / 64 * 64)).add (j % 64) = x.add j := by rw [add_add, show j / 64 * 64 + j % 64 = j from by omega]
  rw [← h3, h1, Option.some.inj h2]
set_option maxHeartbeats 1000000 in
set_option maxRecDepth 100000 in
theorem clone_none (n cap : Nat) (w : World) : Calls Try.prog 52 #[.slice none n cap] w fun e w' => e = .returned (.slice none 0 0) ∧ w' = w := by
  have hEq := slEq_pg none n cap
  simp only [Option.isNone_none] at hEq
  go_enter Try.func52, Try.ntmps52
  go_wp2
  go_ret
  exact ⟨rfl, rfl⟩
set_option maxHeartbeats 1000000 in
set_option maxRecDepth 100000 in
theorem clone_some (x : Addr) (n cap : Nat) (ps : List PgT) (w : World) (hn : ps.length = n) (hn1 : n ≤ 1000) (hl : PgSl w (some x) ps) (hx : n ≠ 0 → x.block < w.heap.size) :
    Calls Try.prog 52 #[.slice (some x) n cap] w fun e w' => ∃ v', e = .returned v' ∧ PgRow w' w.heap.size v' ps ∧ Below w.heap.size w w' := by
  have hEq := slEq_pg (some x) n cap
  simp only [Option.isNone_some] at hEq
  obtain ⟨i0, hi0, hz1, hz2, hz3⟩ := info_parts Try.infoP
  have hrl := rowc_len ps
  rw [hn] at hrl
  have hown0 : (w.alloc (.cells #[] 39)).ownsRow w.heap.size 39 64 (.slice (some ⟨w.heap.size, 0, none⟩) 0 0) 0 [] := ⟨rfl, .inr ⟨w.heap.size, 0, #[], rfl, Nat.le_refl _, heap_alloc_last _ _, Nat.le_refl _, Nat.zero_le _, rfl, rfl⟩⟩
  have hnews : ∀ j u, (rowc ps)[j]? = some u → (w.alloc (.cells #[] 39)).cell? (x.add j) = some u := fun j u hu => by
    have h1 := pgSl_cell hl j u hu
    rw [((Below.refl _ w).alloc (Nat.le_refl _) _).cell (cell_lt h1), h1]
  have hHN := Lib.hid hnews
  clear hnews hl hx
  unfold PgRow
  rw [hn]
  go_enter Try.func52, Try.ntmps52
  go_wp2_with (first
    | (at_builtin; refine wpList_append_own_at _ rfl _ _ 49 rfl w.heap.size 39 i0 _ 64 64 Try.underlying49 hi0 hz1 hz2 hz3 (by simp [Value.cells]) (by decide) _ _ _ rfl hown0 _ n cap (rowc ps) rfl hrl hHN.out (rowc_one ps) (by unfold maxLen; omega) (by omega) (by simp) ?_; intro v' w1' hown' hgrow0 hnil hloc0
       have hgrow : (w.alloc (.cells #[] 39)).grownBy w1' (some w.heap.size) := hgrow0
       clear hgrow0 hloc0 hnil
       rw [Nat.zero_add, List.nil_append] at hown'
       have hown2 := Lib.hid hown'
       clear hown'))
  go_ret
  exact ⟨_, rfl, hown2.out, ((Below.refl _ w).alloc (Nat.le_refl _) _).grown hgrow (by simp) (fun k hk => by cases hk; exact Nat.le_refl _)⟩
theorem clone_pg (a : Option Addr) (cap : Nat) (ps : List PgT) (w : World) (hn1 : ps.length ≤ 1000) (hl : PgSl w a ps) :
    Calls Try.prog 52 #[.slice a ps.length cap] w fun e w' => ∃ v', e = .returned v' ∧ PgRow w' w.heap.size v' ps ∧ Below w.heap.size w w' := by
  cases a with
  | none =>
    have h0 : ps = [] := by
      cases ps with
      | nil => rfl
      | cons p ps => obtain ⟨x, hx, -⟩ := hl 0 (by simp); cases hx
    subst h0
    refine (clone_none _ cap w).mono ?_
    rintro e w' ⟨rfl, rfl⟩
    exact ⟨_, rfl, ⟨rfl, .inl ⟨rfl, rfl⟩⟩, Below.refl _ _⟩
  | some x =>
    refine clone_some x ps.length cap ps w rfl hn1 hl fun h0 => ?_
    obtain ⟨y, hy, hat⟩ := hl 0 (by omega)
    cases hy
    have := cell_lt (hat 0 (by decide))
    unfold Addr.add at this
    split at this <;> (try split at this) <;> simpa using this
end Go.Proofs.Ytmnofoflbhdgjaa
