/- Chapter 17: rows of pointers; the specs; maps.Make, the Set's At: walked. -/
import Derived.Test.YteohokidlopbnaaMkF
namespace Go.Proofs.Yteohokidlopbnaa
open Go.RowKit
set_option linter.unusedSimpArgs false
set_option linter.unusedVariables false

abbrev ptrv (g : Nat) : Value := .pointer (some ⟨g, 0, none⟩)
/-- A slice of pointers. -/
def PtSl (w : World) (a : Option Addr) (gs : List Nat) : Prop := ∀ (j : Nat) (h : j < gs.length), ∃ x, a = some x ∧ w.cell? (x.add j) = some (ptrv gs[j])
theorem PtSl.ext {w w' : World} {a : Option Addr} {gs : List Nat} (h : PtSl w a gs) (hb : Below w.heap.size w w') : PtSl w' a gs := fun j hj => by
  obtain ⟨x, h1, h2⟩ := h j hj
  exact ⟨x, h1, by rw [hb.cell (cell_lt h2), h2]⟩
/-- A row of pointers. -/
structure PRow (w : World) (B T : Nat) (v : Value) (gs : List Nat) : Prop where
  own : w.ownsRow B T 1 v gs.length (gs.map ptrv)
theorem PRow.sl {w : World} {B T : Nat} {v : Value} {gs : List Nat} (h : PRow w B T v gs) : ∃ a cap, v = .slice a gs.length cap ∧ gs.length ≤ cap ∧ PtSl w a gs := by
  rcases h.own.2 with ⟨rfl, h0⟩ | ⟨g, cap, cur, rfl, h1, h2, h3, h4, h5, h6⟩
  · have : gs = [] := List.eq_nil_of_length_eq_zero h0
    subst this
    exact ⟨none, 0, rfl, Nat.le_refl _, fun j hj => by simp at hj⟩
  · refine ⟨some ⟨g, 0, none⟩, cap, rfl, h3, fun j hj => ⟨_, rfl, ?_⟩⟩
    exact h.own.cells (g := g) rfl j _ (by simp [hj])
theorem PRow.ext {w w' : World} {B T : Nat} {v : Value} {gs : List Nat} (h : PRow w B T v gs) (hb : Below w.heap.size w w') : PRow w' B T v gs := ⟨row_below h.own hb⟩
theorem PRow.nil (w : World) (B T : Nat) : PRow w B T (.slice none 0 0) [] := ⟨World.ownsRow_nil _ _ _ _⟩
section
variable {P : Program} {ops : Array Oper} {rest : List Oper} {Q : Exit → Act → World → Prop} {tmps : Array Value} {df : List Deferred} {d ty t u : Nat} {x : Operand} {ps : String} {af : Array Edge} {gd : Option (Nat × Bool)} {w : World}
theorem infoPPS : (Try.prog.info? 24).map (fun i => (i.zero, i.size, i.bytes)) = some (some (.pointer none), 1, 8) := by kernel_rfl
theorem onePPS : OneT Try.prog 24 := by unfold OneT; kernel_rfl
theorem run_appPS {w : World} {B g b : Nat} {v : Value} {gs : List Nat} (hown : PRow w B 24 v gs) (hb : w.heap[b]? = some (.cells #[ptrv g] 24 (0, 0))) (hB : B ≤ w.heap.size) (hs : gs.length ≤ 1000) :
    ∃ v' w', (Builtin.append_ #[39, 39] 39 #[v, .slice (some ⟨b, 0, none⟩) 1 1]).run Try.prog w = .ok v' w' ∧ PRow w' B 24 v' (gs ++ [g]) ∧ w.grownBy w' v.ownBlock ∧ (v'.ownBlock = v.ownBlock ∨ v'.ownBlock = some w.heap.size) := by
  obtain ⟨i0, hi0, h0⟩ := Option.map_eq_some_iff.1 infoPPS
  simp only [Prod.mk.injEq] at h0
  obtain ⟨hz1, hz2, hz3⟩ := h0
  obtain ⟨v', w', h1, h2, h3, -, h5⟩ := run_append_own_at (P := Try.prog) w B 39 39 24 i0 _ 1 8 Try.underlying39 hi0 hz1 hz2 hz3 rfl (by decide) v _ _ hown.own ⟨b, 0, none⟩ 1 1 [ptrv g] rfl (fun j u hu => by
    have hj : j = 0 := by have := (List.getElem?_eq_some_iff.1 hu).1; simpa using this
    subst hj
    rw [Addr.add_mid, cell_of_row _ _ _ _ _ _ hb]
    simpa using hu) (fun u hu => by obtain rfl := List.mem_singleton.1 hu; rfl) (by unfold maxLen; omega) (by omega) hB
  refine ⟨v', w', h1, ⟨?_⟩, h3, h5⟩
  rw [List.length_append, List.map_append]
  exact h2
theorem run_slicePS (g : Nat) (w : World) : (Instr.buildSlice 39 1 #[(0, ptrv g)]).run Try.prog w = .ok (.slice (some ⟨w.heap.size, 0, none⟩) 1 1) (w.alloc (.cells #[ptrv g] 24)) := by
  obtain ⟨ie, hie, h2⟩ := Option.map_eq_some_iff.1 infoPPS
  have hsz : ie.size = 1 := by simpa using congrArg (fun x => x.2.1) h2
  have hzv : ie.zero = some (.pointer none) := by simpa using congrArg Prod.fst h2
  refine run_buildSlice (P := Try.prog) w 39 24 1 _ #[ptrv g] ie _ Try.underlying39 hie hzv (by rw [hsz]; decide) (by rw [hsz]; decide) ?_
  rw [hsz]
  clear h2 hsz hzv hie
  kernel_rfl
theorem ev_slicePS (h : Region.wanted ⟨some d, .buildSlice 39 1 #[(0, x)], ty, ps, af, gd⟩ (yielded ops tmps) = true ∧ ∃ g, Act.eval ⟨tmps, df⟩ x = ptrv g ∧
      wpList Try.prog ops Q rest (Act.put ⟨tmps, df⟩ (some d) (.slice (some ⟨w.heap.size, 0, none⟩) 1 1)) (w.alloc (.cells #[ptrv g] 24))) :
    wpList Try.prog ops Q (⟨some d, .buildSlice 39 1 #[(0, x)], ty, ps, af, gd⟩ :: rest) ⟨tmps, df⟩ w := by
  obtain ⟨hw, p, hx, h⟩ := h
  refine wpl_run hw ?_ h
  have e : (#[(0, x)] : Array (Nat × Operand)).map (fun y => (y.1, Act.eval ⟨tmps, df⟩ y.2)) = #[(0, ptrv p)] := by simp [hx]
  simp only [execOp]
  rw [e]
  simp only [Sem.run_bind, run_slicePS, Result.andThen_ok]
  rfl
theorem infoPPR : (Try.prog.info? 44).map (fun i => (i.zero, i.size, i.bytes)) = some (some (.pointer none), 1, 8) := by kernel_rfl
theorem onePPR : OneT Try.prog 44 := by unfold OneT; kernel_rfl
theorem run_appPR {w : World} {B g b : Nat} {v : Value} {gs : List Nat} (hown : PRow w B 44 v gs) (hb : w.heap[b]? = some (.cells #[ptrv g] 44 (0, 0))) (hB : B ≤ w.heap.size) (hs : gs.length ≤ 1000) :
    ∃ v' w', (Builtin.append_ #[47, 47] 47 #[v, .slice (some ⟨b, 0, none⟩) 1 1]).run Try.prog w = .ok v' w' ∧ PRow w' B 44 v' (gs ++ [g]) ∧ w.grownBy w' v.ownBlock ∧ (v'.ownBlock = v.ownBlock ∨ v'.ownBlock = some w.heap.size) := by
  obtain ⟨i0, hi0, h0⟩ := Option.map_eq_some_iff.1 infoPPR
  simp only [Prod.mk.injEq] at h0
  obtain ⟨hz1, hz2, hz3⟩ := h0
  obtain ⟨v', w', h1, h2, h3, -, h5⟩ := run_append_own_at (P := Try.prog) w B 47 47 44 i0 _ 1 8 Try.underlying47 hi0 hz1 hz2 hz3 rfl (by decide) v _ _ hown.own ⟨b, 0, none⟩ 1 1 [ptrv g] rfl (fun j u hu => by
    have hj : j = 0 := by have := (List.getElem?_eq_some_iff.1 hu).1; simpa using this
    subst hj
    rw [Addr.add_mid, cell_of_row _ _ _ _ _ _ hb]
    simpa using hu) (fun u hu => by obtain rfl := List.mem_singleton.1 hu; rfl) (by unfold maxLen; omega) (by omega) hB
  refine ⟨v', w', h1, ⟨?_⟩, h3, h5⟩
  rw [List.length_append, List.map_append]
  exact h2
theorem run_slicePR (g : Nat) (w : World) : (Instr.buildSlice 47 1 #[(0, ptrv g)]).run Try.prog w = .ok (.slice (some ⟨w.heap.size, 0, none⟩) 1 1) (w.alloc (.cells #[ptrv g] 44)) := by
  obtain ⟨ie, hie, h2⟩ := Option.map_eq_some_iff.1 infoPPR
  have hsz : ie.size = 1 := by simpa using congrArg (fun x => x.2.1) h2
  have hzv : ie.zero = some (.pointer none) := by simpa using congrArg Prod.fst h2
  refine run_buildSlice (P := Try.prog) w 47 44 1 _ #[ptrv g] ie _ Try.underlying47 hie hzv (by rw [hsz]; decide) (by rw [hsz]; decide) ?_
  rw [hsz]
  clear h2 hsz hzv hie
  kernel_rfl
theorem ev_slicePR (h : Region.wanted ⟨some d, .buildSlice 47 1 #[(0, x)], ty, ps, af, gd⟩ (yielded ops tmps) = true ∧ ∃ g, Act.eval ⟨tmps, df⟩ x = ptrv g ∧
      wpList Try.prog ops Q rest (Act.put ⟨tmps, df⟩ (some d) (.slice (some ⟨w.heap.size, 0, none⟩) 1 1)) (w.alloc (.cells #[ptrv g] 44))) :
    wpList Try.prog ops Q (⟨some d, .buildSlice 47 1 #[(0, x)], ty, ps, af, gd⟩ :: rest) ⟨tmps, df⟩ w := by
  obtain ⟨hw, p, hx, h⟩ := h
  refine wpl_run hw ?_ h
  have e : (#[(0, x)] : Array (Nat × Operand)).map (fun y => (y.1, Act.eval ⟨tmps, df⟩ y.2)) = #[(0, ptrv p)] := by simp [hx]
  simp only [execOp]
  rw [e]
  simp only [Sem.run_bind, run_slicePR, Result.andThen_ok]
  rfl
end

/-- Specs in memory. -/
def spv (s : Int × Int) : Array Value := #[.int .i64 s.1, .int .i64 s.2]
theorem spv0 (s : Int × Int) : (spv s)[0]? = some (.int .i64 s.1) := rfl
theorem spv1 (s : Int × Int) : (spv s)[1]? = some (.int .i64 s.2) := rfl
def SpAt (w : World) (p : Addr) (s : Int × Int) : Prop := ∀ i v, (spv s)[i]? = some v → w.cell? (p.add i) = some v
def SpSl (w : World) (a : Option Addr) (ss : List (Int × Int)) : Prop := ∀ (j : Nat) (h : j < ss.length), ∃ x, a = some x ∧ SpAt w (x.add (j * 2)) ss[j]
theorem SpSl.ext {w w' : World} {a : Option Addr} {ss : List (Int × Int)} (h : SpSl w a ss) (hb : Below w.heap.size w w') : SpSl w' a ss := fun j hj => by
  obtain ⟨x, h1, h2⟩ := h j hj
  refine ⟨x, h1, fun i v hv => ?_⟩
  have := h2 i v hv
  rw [hb.cell (cell_lt this), this]
theorem aSp : AggT Try.prog 43 2 := ⟨by kernel_rfl, by kernel_rfl⟩
theorem zSp : ZeroT Try.prog 43 (spv (0, 0)) := by unfold ZeroT; kernel_rfl
theorem spv_one (s : Int × Int) : (spv s).all (·.oneCell') = true := by simp [spv, Value.oneCell']
section
variable {ops : Array Oper} {rest : List Oper} {Q : Exit → Act → World → Prop} {tmps : Array Value} {df : List Deferred} {d ty t u : Nat} {ps : String} {af : Array Edge} {gd : Option (Nat × Bool)} {w : World}
theorem sp_load_at (h : Region.wanted ⟨some d, .load 43 (.tmp t), ty, ps, af, gd⟩ (yielded ops tmps) = true ∧ ∃ x e,
      tmps.getD t undef = .pointer (some x) ∧ SpAt w x e ∧ wpList Try.prog ops Q rest (Act.put ⟨tmps, df⟩ (some d) (.agg (spv e))) w) :
    wpList Try.prog ops Q (⟨some d, .load 43 (.tmp t), ty, ps, af, gd⟩ :: rest) ⟨tmps, df⟩ w := by
  obtain ⟨hw, x, f, hx, hg, h⟩ := h
  refine wpl_run hw ?_ h
  have hx' : Act.eval ⟨tmps, df⟩ (.tmp t) = .pointer (some x) := hx
  have hr := run_loadVar_at (P := Try.prog) w x 43 (spv f).toList _ (fun j v hv => hg j v (by simpa using hv)) Try.underlying43 rfl (by rw [aSp.2]; rfl)
  simp only [execOp, hx', Instr.loadAt, Instr.sureAddr, Sem.run_bind, Sem.run_pure, Result.andThen_ok, hr]
end

/-- Maps that were made, one for each spec. -/
structure MkS (M : World → Nat → Nat → Int × Int → Prop) (B : Nat) (w' : World) (gs : List Nat) (ss : List (Int × Int)) : Prop where
  len : gs.length = ss.length
  mp : ∀ (j : Nat) (h : j < gs.length) (h' : j < ss.length), M w' B gs[j] ss[j]
  nodup : gs.Nodup
structure Goes (M : World → Nat → Nat → Int × Int → Prop) : Prop where
  ext : ∀ w w' B g s, M w B g s → Below w.heap.size w w' → M w' B g s
  lo : ∀ w B g s, M w B g s → B ≤ g ∧ g < w.heap.size
  mono : ∀ w B B' g s, M w B' g s → B ≤ B' → M w B g s
def MpN (w : World) (B g : Nat) (s : Int × Int) : Prop := Mp w B g (.slice none 0 0) s.1 s.2 []
def RmN (w : World) (B g : Nat) (s : Int × Int) : Prop := Rm w B g (.slice none 0 0) (s.1 == 2) s.2 []
theorem goes_mp : Goes MpN := ⟨fun _ _ _ _ _ h hb => Mp.ext h hb, fun _ _ _ _ h => ⟨h.low, lt_of_blk h.blk⟩, fun _ _ _ _ _ h hb => ⟨Nat.le_trans hb h.low, h.blk, own_mono h.row hb, h.apart⟩⟩
theorem goes_rm : Goes RmN := ⟨fun _ _ _ _ _ h hb => Rm.ext h hb, fun _ _ _ _ h => ⟨h.low, lt_of_blk h.blk⟩, fun _ _ _ _ _ h hb => ⟨Nat.le_trans hb h.low, h.blk, own_mono h.row hb, h.apart⟩⟩
section
variable {M : World → Nat → Nat → Int × Int → Prop} {B : Nat} {w w' : World} {gs : List Nat} {ss : List (Int × Int)}
theorem MkS.nil (M : World → Nat → Nat → Int × Int → Prop) (B : Nat) (w : World) : MkS M B w [] [] := ⟨rfl, fun j h => by simp at h, List.nodup_nil⟩
theorem MkS.ext (hG : Goes M) (h : MkS M B w gs ss) (hb : Below w.heap.size w w') : MkS M B w' gs ss := ⟨h.len, fun j h1 h2 => hG.ext _ _ _ _ _ (h.mp j h1 h2) hb, h.nodup⟩
theorem MkS.snoc (hG : Goes M) (h : MkS M B w gs ss) {g : Nat} {s : Int × Int} (hb : Below w.heap.size w w') (hB : B ≤ w.heap.size) (hm : M w' w.heap.size g s) : MkS M B w' (gs ++ [g]) (ss ++ [s]) := by
  refine ⟨by simp [h.len], fun j h1 h2 => ?_, ?_⟩
  · by_cases hj : j < gs.length
    · rw [List.getElem_append_left hj, List.getElem_append_left (by rw [← h.len]; exact hj)]
      exact hG.ext _ _ _ _ _ (h.mp j hj _) hb
    · rw [List.length_append, List.length_singleton] at h1
      have : j = gs.length := by omega
      subst this
      rw [List.getElem_append_right (Nat.le_refl _), List.getElem_append_right (by rw [h.len]; exact Nat.le_refl _)]
      simp only [List.getElem_singleton]
      exact hG.mono _ _ _ _ _ hm hB
  · rw [List.nodup_append]
    refine ⟨h.nodup, by simp, fun a ha b hb' e => ?_⟩
    obtain rfl := List.mem_singleton.1 hb'
    obtain ⟨j, hj, rfl⟩ := List.mem_iff_getElem.1 ha
    have h1 := (hG.lo _ _ _ _ (h.mp j hj (by rw [← h.len]; exact hj))).2
    have h2 := (hG.lo _ _ _ _ hm).1
    omega
theorem MkS.lo (hG : Goes M) (h : MkS M B w gs ss) : ∀ g ∈ gs, B ≤ g ∧ g < w.heap.size := fun g hg => by
  obtain ⟨j, hj, rfl⟩ := List.mem_iff_getElem.1 hg
  exact hG.lo _ _ _ _ (h.mp j hj (by rw [← h.len]; exact hj))
end
/-- A row of pointers to maps, apart from these. -/
structure PApart (w : World) (B T : Nat) (v : Value) (gs : List Nat) : Prop where
  row : PRow w B T v gs
  ne : ∀ g ∈ gs, v.ownBlock ≠ some g
theorem PApart.nil (w : World) (B T : Nat) : PApart w B T (.slice none 0 0) [] := ⟨PRow.nil _ _ _, fun g h => by cases h⟩
theorem PApart.ext {w w' : World} {B T : Nat} {v : Value} {gs : List Nat} (h : PApart w B T v gs) (hb : Below w.heap.size w w') : PApart w' B T v gs := ⟨h.row.ext hb, h.ne⟩
/-- One map more: the row took its pointer. -/
theorem PApart.snoc {M : World → Nat → Nat → Int × Int → Prop} (hG : Goes M) {w wc wb w1 : World} {B T g : Nat} {v v' : Value} {gs : List Nat} {ss : List (Int × Int)} {s : Int × Int} (hP : PApart w B T v gs) (hMk : MkS M B w gs ss) (hB : B ≤ w.heap.size) (hc : Below w.heap.size w wc) (hm : M wc w.heap.size g s)
    (hb : Below wc.heap.size wc wb) (hrow : PRow w1 B T v' (gs ++ [g])) (hgr : wb.grownBy w1 v.ownBlock) (hloc : v'.ownBlock = v.ownBlock ∨ v'.ownBlock = some wb.heap.size) (hk : ∀ w2 g s, M wb B g s → (v.ownBlock ≠ some g) → wb.grownBy w2 v.ownBlock → M w2 B g s) :
    PApart w1 B T v' (gs ++ [g]) ∧ MkS M B w1 (gs ++ [g]) (ss ++ [s]) := by
  have h1 := hMk.snoc hG hc hB hm
  have h2 := h1.ext hG hb
  have hgl := hG.lo _ _ _ _ hm
  have hvl : ∀ k, v.ownBlock = some k → k < w.heap.size := fun k e => (hP.row.own.lt k e).2
  have hne : ∀ k ∈ gs ++ [g], v.ownBlock ≠ some k := fun k hk e => by
    rcases List.mem_append.1 hk with hk | hk
    · exact hP.ne k hk e
    · obtain rfl := List.mem_singleton.1 hk
      have := hvl k e
      omega
  refine ⟨⟨hrow, fun k hk e => ?_⟩, ⟨h2.len, fun j q1 q2 => hk _ _ _ (h2.mp j q1 q2) (hne _ (List.getElem_mem q1)) hgr, h2.nodup⟩⟩
  have hkl := (h2.lo hG k hk).2
  rcases hloc with e' | e'
  · exact hne k hk (e'.symm.trans e)
  · rw [e'] at e
    have := Option.some.inj e
    omega
theorem keep_mp {w : World} {B : Nat} {v : Value} (w2 : World) (g : Nat) (s : Int × Int) (h : MpN w B g s) (hne : v.ownBlock ≠ some g) (hg : w.grownBy w2 v.ownBlock) : MpN w2 B g s :=
  ⟨h.low, (hg.block g (lt_of_blk h.blk) (fun e => hne e.symm)).trans h.blk, World.ownsRow_nil _ _ _ _, h.apart⟩
theorem keep_rm {w : World} {B : Nat} {v : Value} (w2 : World) (g : Nat) (s : Int × Int) (h : RmN w B g s) (hne : v.ownBlock ≠ some g) (hg : w.grownBy w2 v.ownBlock) : RmN w2 B g s :=
  ⟨h.low, (hg.block g (lt_of_blk h.blk) (fun e => hne e.symm)).trans h.blk, World.ownsRow_nil _ _ _ _, h.apart⟩
end Go.Proofs.Yteohokidlopbnaa
