/- Maps among a call's own blocks: 'St' (XSt) over a block that is a map; making, storing, counting, looking up. -/
import Derived.Test.YtfacegnnmgmjmaaSt
import Derived.Maps.OwnSet
import Derived.Maps.Views
namespace Go.Proofs.Ytfacegnnmgmjmaa
open Go.RowKit Go.Maps

/-- What a block that is a map reads as. -/
def MapO {H : Type} (P : Program) (k : TypeId) (R : Value → Option (DataW H × List MemPlace)) (n : Nat) (D : DataW H) (o : Obj) : Prop :=
  ∃ es clock, o = .map es clock ∧ Go.WideElems.Fit P k R es clock ∧ es.size ≤ n ∧ D = .map ((es.toList.map (Go.WideElems.rg P k R)).foldr DataW.insert [])

section
variable {H : Type} {P : Program} {k e t : TypeId} {R : Value → Option (DataW H × List MemPlace)} {n b : Nat} {D : DataW H} {o : Obj} {w0 w : World} {l l1 l2 : List (Nat × Obj)}
theorem mapO_owns (h : MapO P k R n D o) (hb : w.heap[b]? = some o) : w.ownsMap P k R b n D := by
  obtain ⟨es, clock, rfl, h1, h2, h3⟩ := h
  exact ⟨es, clock, hb, h1, h2, h3⟩
theorem owns_mapO (h : w.ownsMap P k R b n D) : ∃ o, w.heap[b]? = some o ∧ MapO P k R n D o := by
  obtain ⟨es, clock, hb, h1, h2, h3⟩ := h
  exact ⟨_, hb, es, clock, rfl, h1, h2, h3⟩
theorem mapO_made (P : Program) (k : TypeId) (R : Value → Option (DataW H × List MemPlace)) : MapO P k R 0 (.map []) (.map #[] 0) :=
  ⟨#[], 0, rfl, ⟨by simp, Go.MapKept.stamped_empty 0, by simp⟩, Nat.le_refl _, rfl⟩
theorem MapO.mono (h : MapO P k R n D o) {n' : Nat} (hn : n ≤ n') : MapO P k R n' D o := by
  obtain ⟨es, clock, e, h1, h2, h3⟩ := h
  exact ⟨es, clock, e, h1, Nat.le_trans h2 hn, h3⟩

/-- Some of the blocks are forgotten. -/
theorem St.sub (h : St w0 l w) {l' : List (Nat × Obj)} (hs : l'.Sublist l) : St w0 l' w :=
  ⟨h.base, fun x hx => h.own x (hs.subset hx), h.nodup.sublist (hs.map _)⟩

/-- A block of the call's own becomes another one; all others stay. -/
theorem St.turn {g : Nat} {o o' : Obj} {w' : World} (h : St w0 (l1 ++ (g, o) :: l2) w) (hg : w.grownBy w' (some g)) (ho : w'.heap[g]? = some o') : St w0 (l1 ++ (g, o') :: l2) w' := by
  obtain ⟨a1, a2, a3, a4, a5⟩ := hg
  have hm : (g, o) ∈ l1 ++ (g, o) :: l2 := List.mem_append_right _ (List.mem_cons_self ..)
  have hge := (h.own _ hm).2
  have hnd := h.nodup
  rw [List.map_append, List.map_cons] at hnd
  have hne1 : ∀ x ∈ l1, x.1 ≠ g := fun x hx e => (List.nodup_append.1 hnd).2.2 _ (List.mem_map_of_mem hx) _ (List.mem_cons_self ..) e
  have hne2 : ∀ x ∈ l2, x.1 ≠ g := fun x hx e => (List.nodup_cons.1 (List.nodup_append.1 hnd).2.1).1 (List.mem_map.2 ⟨x, hx, e⟩)
  have hk : ∀ x : Nat × Obj, x.1 ≠ g → w.heap[x.1]? = some x.2 → w'.heap[x.1]? = some x.2 := fun x hx hb => (a5 _ (lt_of_blk hb) (fun e => hx (by cases e; rfl))).trans hb
  refine ⟨?_, fun x hx => ?_, ?_⟩
  · exact h.base.trans ⟨a1, a2, a3, a4, fun i hi => a5 i (by have := h.base.size; omega) (fun e => by cases e; simp at hge; omega)⟩
  · rcases List.mem_append.1 hx with hx | hx
    · have := h.own x (List.mem_append_left _ hx)
      exact ⟨hk x (hne1 x hx) this.1, this.2⟩
    · rcases List.mem_cons.1 hx with rfl | hx
      · exact ⟨ho, hge⟩
      · have := h.own x (List.mem_append_right _ (List.mem_cons_of_mem _ hx))
        exact ⟨hk x (hne2 x hx) this.1, this.2⟩
  · rw [List.map_append, List.map_cons]
    exact hnd

variable {ops : Array Oper} {rest : List Oper} {Q : Exit → Act → World → Prop} {tmps : Array Value} {df : List Deferred} {d ty : Nat} {ps : String} {af : Array Edge} {gd : Option (Nat × Bool)}

/-- 'm[k] = v' into a map of the call's own. -/
theorem ev_mapUpdate (hSt : St w0 l w) (K : Keyed P k) (ht : P.underlying t = some (.map k e)) {m x v : Operand} (h : Region.wanted ⟨none, .mapUpdate t m x v, ty, ps, af, gd⟩ (yielded ops tmps) = true ∧ ∃ g o l1 l2 n kl d qs, ∃ D : DataW H,
      Act.eval ⟨tmps, df⟩ m = .map (some g) ∧ l = l1 ++ (g, o) :: l2 ∧ MapO P k R n D o ∧ n < maxLen ∧ keyOf P k (Act.eval ⟨tmps, df⟩ x) = some kl ∧ R (Act.eval ⟨tmps, df⟩ v) = some (d, qs) ∧
      ∀ o' w', MapO P k R (n + 1) (D.put kl d) o' → St w0 (l1 ++ (g, o') :: l2) w' → wpList P ops Q rest (Act.put ⟨tmps, df⟩ none undef) w') :
    wpList P ops Q (⟨none, .mapUpdate t m x v, ty, ps, af, gd⟩ :: rest) ⟨tmps, df⟩ w := by
  obtain ⟨hw, g, o, l1, l2, n, kl, d, qs, D, hm, rfl, hO, hn, hk, hv, h⟩ := h
  have hown := mapO_owns hO (hSt.blk (List.mem_append_right _ (List.mem_cons_self ..)))
  obtain ⟨w', hrun, h1, h2⟩ := hown.update K ht hn hk hv
  obtain ⟨o', ho', hO'⟩ := owns_mapO h1
  refine wpl_run_skip hw ?_ (h o' w' hO' (hSt.turn h2 ho'))
  simp only [execOp, hm, hrun, Sem.run_bind, Result.andThen]
  rfl

/-- 'len(m)'. -/
theorem ev_mapLen (hSt : St w0 l w) (ht : P.underlying t = some (.map k e)) {m : Operand} (h : Region.wanted ⟨some d, .call { callee := .builtin .len, args := #[m], argTypes := #[t] }, ty, ps, af, gd⟩ (yielded ops tmps) = true ∧ ∃ g o n, ∃ D : DataW H,
      Act.eval ⟨tmps, df⟩ m = .map (some g) ∧ (g, o) ∈ l ∧ MapO P k R n D o ∧
      wpList P ops Q rest (Act.put ⟨tmps, df⟩ (some d) (.int .i64 (Maps.size D))) w) :
    wpList P ops Q (⟨some d, .call { callee := .builtin .len, args := #[m], argTypes := #[t] }, ty, ps, af, gd⟩ :: rest) ⟨tmps, df⟩ w := by
  obtain ⟨hw, g, o, n, D, hm, hmem, hO, h⟩ := h
  have hown := mapO_owns hO (hSt.blk hmem)
  refine wpl_run hw ?_ h
  have e := hown.len ht ty
  simp [execOp, resolve, invoke, hm, e, builtin]
end
end Go.Proofs.Ytfacegnnmgmjmaa
