/- Chapter 26: perm.Bits over a slice of inodes' numbers. -/
import Derived.Test.YtioknjdbijogpaaPermA
import Derived.Test.YtioknjdbijogpaaIntSl
import Derived.Laws.AppendOwn
import Derived.OwnWalk
namespace Go.Proofs.Ytioknjdbijogpaa
open Go.RowKit
set_option linter.unusedSimpArgs false
set_option linter.unusedVariables false

theorem run_loadVar_at {P : Program} (w : World) (x : Addr) (ty : TypeId) (cs : List Value) (d : TypeDesc) (hc : ∀ (j : Nat) (v : Value), cs[j]? = some v → w.cell? (x.add j) = some v)
    (hu : P.underlying ty = some d) (hd : d.isRow = true) (hi : (P.info? ty).map (·.size) = some cs.length) :
    (loadVar ty x).run P w = .ok (.agg cs.toArray) w := by
  have hl : (loadCells x cs.length).run P w = .ok cs.toArray w := run_loadCells_list (P := P) w x cs hc
  cases hq : P.info? ty with
  | none => simp [hq] at hi
  | some i =>
    have hs : i.size = cs.length := by simpa [hq] using hi
    have hagg : (isAgg ty).run P w = .ok true w := by
      unfold isAgg
      rw [Sem.run_bind, run_underlying hu w]
      cases d <;> simp_all
    simp [loadVar, Sem.run_bind, hagg, sizeOf, typeInfo, hq, hs, hl]

theorem cell_lt {w : World} {x : Addr} {v : Value} (hx : w.cell? x = some v) : x.block < w.heap.size := by
  by_cases hq : x.block < w.heap.size
  · exact hq
  · exfalso
    unfold World.cell? at hx
    simp [Array.getElem?_eq_none (by omega : w.heap.size ≤ x.block)] at hx

/-- An inode's numbers. -/
def atv (f : Nat → Int) : Array Value := #[.int .i64 (f 0), .int .i64 (f 1), .int .i64 (f 2), .int .i64 (f 3), .int .i64 (f 4), .int .i64 (f 5)]
def AtSl (w : World) (a : Option Addr) (fs : List (Nat → Int)) : Prop := ∀ (j : Nat) (h : j < fs.length), ∃ x, a = some x ∧ ∀ i v, (atv fs[j])[i]? = some v → w.cell? ((x.add (j * 6)).add i) = some v
theorem AtSl.ext {w w' : World} {a : Option Addr} {fs : List (Nat → Int)} (h : AtSl w a fs) (hb : Below w.heap.size w w') : AtSl w' a fs := fun j hj => by
  obtain ⟨x, h1, h2⟩ := h j hj
  refine ⟨x, h1, fun i v hv => ?_⟩
  have := h2 i v hv
  rw [hb.cell (cell_lt this), this]

section
variable {ops : Array Oper} {rest : List Oper} {Q : Exit → Act → World → Prop} {tmps : Array Value} {df : List Deferred} {d ty t u : Nat} {ps : String} {af : Array Edge} {gd : Option (Nat × Bool)} {w : World}
theorem at_load_at (h : Region.wanted ⟨some d, .load 23 (.tmp t), ty, ps, af, gd⟩ (yielded ops tmps) = true ∧ ∃ x f,
      tmps.getD t undef = .pointer (some x) ∧ (∀ i v, (atv f)[i]? = some v → w.cell? (x.add i) = some v) ∧ wpList Try.prog ops Q rest (Act.put ⟨tmps, df⟩ (some d) (.agg (atv f))) w) :
    wpList Try.prog ops Q (⟨some d, .load 23 (.tmp t), ty, ps, af, gd⟩ :: rest) ⟨tmps, df⟩ w := by
  obtain ⟨hw, x, f, hx, hg, h⟩ := h
  refine wpl_run hw ?_ h
  have hx' : Act.eval ⟨tmps, df⟩ (.tmp t) = .pointer (some x) := hx
  have hr := run_loadVar_at (P := Try.prog) w x 23 (atv f).toList _ (fun j v hv => hg j v (by simpa using hv)) Try.underlying23 rfl (by rw [aX1.2]; rfl)
  simp only [execOp, hx', Instr.loadAt, Instr.sureAddr, Sem.run_bind, Sem.run_pure, Result.andThen_ok, hr]
end

theorem intInfo : (Try.prog.info? 3).map (fun i => (i.zero, i.size, i.bytes)) = some (some (.int .i64 0), 1, 8) := by kernel_rfl

def IntRow (w : World) (B : Nat) (v : Value) (l : List Int) : Prop := w.ownsRow B 3 1 v l.length (l.map fun x => .int .i64 x)
theorem IntRow.below {w w' : World} {B : Nat} {v : Value} {l : List Int} (h : IntRow w B v l) (hb : Below w.heap.size w w') : IntRow w' B v l := by
  refine ⟨h.1, ?_⟩
  rcases h.2 with hn | ⟨g, cap, cur, rfl, h1, h2, rest⟩
  · exact .inl hn
  · exact .inr ⟨g, cap, cur, rfl, h1, blk_of hb h2, rest⟩
theorem IntRow.slice {w : World} {B : Nat} {v : Value} {l : List Int} (h : IntRow w B v l) : ∃ a cap, v = .slice a l.length cap ∧ IntSl w a l := by
  rcases h.2 with ⟨rfl, h0⟩ | ⟨g, cap, cur, rfl, h1, h2, h3, h4, h5, h6⟩
  · have : l = [] := List.eq_nil_of_length_eq_zero h0
    subst this
    exact ⟨none, 0, rfl, fun j hj => by simp at hj⟩
  · refine ⟨some ⟨g, 0, none⟩, cap, rfl, fun j hj => ⟨_, rfl, ?_, lt_of_blk h2⟩⟩
    have hc := h.cells (g := g) rfl j (.int .i64 l[j]) (by simp [hj])
    exact hc
theorem IntRow.nil (w : World) (B : Nat) : IntRow w B (.slice none 0 0) [] := ⟨rfl, .inl ⟨rfl, rfl⟩⟩

/-- What perm.Bits answers. -/
def bitsOf26 (u : Int) (fs : List (Nat → Int)) : List Int := fs.map fun f => pBits u (f 2) (f 3)

set_option maxHeartbeats 1000000 in
set_option maxRecDepth 100000 in
theorem permBitsAll (u : Int) (a : Option Addr) (fs : List (Nat → Int)) (cap : Nat) (w : World) (hl : AtSl w a fs) (hn : fs.length ≤ 60) :
    Calls Try.prog 14 #[.int .i64 u, .slice a fs.length cap] w fun e w' => ∃ v, e = .returned v ∧ IntRow w' w.heap.size v (bitsOf26 u fs) ∧ Below w.heap.size w w' := by
  obtain ⟨i0, hi, hz0, hz1, hz2⟩ := info_parts intInfo
  go_enter Try.func14, Try.ntmps14
  go_wp2
  go_loopw [5, 10] (fun v i wr => ∃ k : Nat, k ≤ fs.length ∧ i = .int .i64 k ∧ Below w.heap.size w wr ∧ IntRow wr w.heap.size v (bitsOf26 u (fs.take k))) (fun _ i _ => fs.length - (intOf i).toNat)
  case atStart => exact ⟨0, by omega, rfl, Below.refl _ _, IntRow.nil _ _⟩
  case round =>
    obtain ⟨k, hk, rfl, hbw, hrow⟩ := hrel
    by_cases h : k = fs.length
    · subst h
      go_wp2
      go_ret
      rw [List.take_length] at hrow
      exact ⟨_, rfl, hrow, hbw⟩
    · have hlt : k < fs.length := by omega
      have hlt' : (k : Int) < fs.length := by omega
      obtain ⟨x, rfl, hat⟩ := hl.ext hbw k hlt
      have hSt := St.start wr
      go_wp2_with (first
        | ((with_reducible refine ev_alloc hSt (by first | exact zPg | exact zHd | exact zHr | exact zX1 | exact zX2 | exact zX3 | exact zX4) ?_); refine ⟨rfl, ?_⟩; intro gN wN hSt; (simp only [Act.put, List.setIfInBounds_toArray, List.set_cons_succ, List.set_cons_zero]))
        | ((with_reducible refine ev_store hSt aX1 ?_); refine ⟨rfl, _, [], _, _, _, rfl, rfl, rfl, rfl, rfl, (by simp [atv, Value.oneCell']), ?_⟩; intro wN hSt; simp only [List.nil_append] at hSt; simp only [Act.put])
        | ((with_reducible refine at_load_at ?_); refine ⟨rfl, _, _, rfl, hat, ?_⟩; (simp only [Act.put, List.setIfInBounds_toArray, List.set_cons_succ, List.set_cons_zero]))
        | ((with_reducible refine ev_load hSt aX1 ?_); refine ⟨rfl, _, _, _, rfl, (by repeat (first | exact List.mem_cons_self .. | refine List.mem_cons_of_mem _ ?_)), rfl, ?_⟩; (simp only [Act.put, List.setIfInBounds_toArray, List.set_cons_succ, List.set_cons_zero]))
        | (go_at_call 28; refine (permBits_is u _ _ _ rfl rfl _).mono ?_; rintro e w1 ⟨rfl, hb9⟩; replace hSt := hSt.ext hb9)
        | (at_builtin; refine wpList_append_own _ rfl _ _ 32 rfl w.heap.size 3 i0 (.int .i64 0) 1 8 Try.underlying32 hi hz0 hz1 hz2 rfl (by decide) _ _ _ rfl (hrow.below (hSt.base.alloc hSt.base.size _)) ⟨w1.heap.size, 0, none⟩ 1 1 [.int .i64 (pBits u (fs[k] 2) (fs[k] 3))] rfl rfl ?c1 ?c2 ?c3 ?c4 ?c5 ?_))
      case c1 =>
        intro j v hj
        match j, hj with
        | 0, hj => simp at hj; subst hj; simp [Addr.add]
      case c2 => intro v hv; simp at hv; subst hv; rfl
      case c3 => unfold maxLen; rw [bitsOf26, List.length_map, List.length_take]; omega
      case c4 => rw [bitsOf26, List.length_map, List.length_take]; omega
      case c5 => have := hbw.size; have := hSt.base.size; simp; omega
      intro v' w2 hown' hgrow _
      go_wp2
      have hown := hrow.below (hSt.base.alloc hSt.base.size (.cells #[.int .i64 (pBits u (fs[k] 2) (fs[k] 3))] 3))
      have e : bitsOf26 u (fs.take (k + 1)) = bitsOf26 u (fs.take k) ++ [pBits u (fs[k] 2) (fs[k] 3)] := by rw [bitsOf26, bitsOf26, List.take_add_one, List.map_append, List.getElem?_eq_getElem hlt]; rfl
      refine ⟨⟨k + 1, by omega, by simp, ?_, ?_⟩, by simp only [intOf]; omega⟩
      · exact (hbw.trans ((hSt.base.alloc hSt.base.size _).mono hbw.size)).grown hgrow (by have := hbw.size; have := hSt.base.size; simp; omega) (fun k hk => (hown.lt k hk).1)
      · rw [IntRow, e, List.length_append, List.map_append]
        exact hown'
end Go.Proofs.Ytioknjdbijogpaa
