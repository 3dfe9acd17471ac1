/- Chapter 07: what was taken: a map[int]bool of the call's own. -/
import Derived.Test.YtmnofoflbhdgjaaBitL
import Derived.Test.YtmnofoflbhdgjaaStMap
import Derived.ChangeKeysEq
namespace Go.Proofs.Ytmnofoflbhdgjaa
open Go.RowKit Go.Maps
set_option linter.unusedSimpArgs false
set_option linter.unusedVariables false

theorem keyI : Keyed Try.prog 3 := int_keyed Try.underlying3
abbrev DU := DataW Unit
def tt : DU := .lit (.bool true)
def ff : DU := .lit (.bool false)
/-- A block that is the map of what was taken. -/
structure SeenO (o : Obj) (ks : List Int) : Prop where
  ex : ∃ M : DU, MapO (H := Unit) Try.prog 3 (plainElem Try.prog 4) ks.length M o ∧ Tidy M ∧ size M = ks.length ∧ ∀ q : Int, has M (.int .i64 q) = ks.contains q ∧ M.atKey (.int .i64 q) ff = .lit (.bool (ks.contains q))
theorem isKeyI (q : Int) : WideAt.IsKeyLit (.int .i64 q) := trivial
theorem seen_start : SeenO (.map #[] 0) [] := ⟨.map [], mapO_made _ _ _, tidy_empty, rfl, fun q => ⟨rfl, rfl⟩⟩
theorem mapO_tight {H : Type} {P : Program} {k : TypeId} {R : Value → Option (DataW H × List MemPlace)} {n : Nat} {D : DataW H} {o : Obj} (h : MapO P k R n D o) : MapO P k R (size D) D o := by
  obtain ⟨es, clock, rfl, h1, h2, rfl⟩ := h
  exact ⟨es, clock, rfl, h1, by simp [Maps.size, length_sorted], rfl⟩
theorem SeenO.put {o' : Obj} {ks : List Int} {k : Int} {M : DU} (hM : Tidy M) (hs : size M = ks.length) (hq : ∀ q : Int, has M (.int .i64 q) = ks.contains q ∧ M.atKey (.int .i64 q) ff = .lit (.bool (ks.contains q))) (hk : k ∉ ks)
    (h : MapO (H := Unit) Try.prog 3 (plainElem Try.prog 4) (ks.length + 1) (M.put (.int .i64 k) tt) o') : SeenO o' (ks ++ [k]) := by
  have hc : ks.contains k = false := by
    cases h2 : ks.contains k
    · rfl
    · exact absurd (List.contains_iff_mem.1 h2) hk
  refine ⟨_, h.mono (by simp), hM.put (isKeyI k) tt, ?_, fun q => ?_⟩
  · rw [size_put hM, (hq k).1, hc, hs]; simp
  · rw [List.contains_append, List.contains_cons, List.contains_nil, Bool.or_false]
    by_cases e : q = k
    · subst e
      rw [has_put_same hM.isMap (isKeyI q), atKey_put_same hM.isMap (isKeyI q)]
      simp [tt]
    · have e2 : (Lit.int .i64 q) ≠ Lit.int .i64 k := fun h1 => e (by injection h1)
      rw [has_put_other e2, atKey_put_other e2, (hq q).1, (hq q).2]
      have : (q == k) = false := by simpa using e
      rw [this, Bool.or_false]
      exact ⟨rfl, rfl⟩
theorem SeenO.del {o' : Obj} {ks : List Int} {k : Int} {M : DU} (hnd : ks.Nodup) (hM : Tidy M) (hs : size M = ks.length) (hq : ∀ q : Int, has M (.int .i64 q) = ks.contains q ∧ M.atKey (.int .i64 q) ff = .lit (.bool (ks.contains q)))
    (h : MapO (H := Unit) Try.prog 3 (plainElem Try.prog 4) ks.length (M.del (.int .i64 k)) o') : SeenO o' (ks.erase k) := by
  have hsz : size (M.del (.int .i64 k)) = (ks.erase k).length := by
    have h1 := size_del (k := .int .i64 k) hM
    rw [(hq k).1, hs] at h1
    rw [List.length_erase]
    cases hc : ks.contains k
    · have hn : k ∉ ks := fun h2 => by rw [List.contains_iff_mem.2 h2] at hc; cases hc
      rw [hc] at h1
      rw [if_neg hn]
      simpa using h1
    · have hn := List.contains_iff_mem.1 hc
      rw [hc] at h1
      rw [if_pos hn]
      simp at h1
      omega
  refine ⟨_, hsz ▸ mapO_tight h, hM.del _, hsz, fun q => ?_⟩
  by_cases e : q = k
  · subst e
    have hc : (ks.erase q).contains q = false := by
      cases h2 : (ks.erase q).contains q
      · rfl
      · exact absurd rfl ((hnd.mem_erase_iff).1 (List.contains_iff_mem.1 h2)).1
    rw [has_del_same, atKey_del_same, hc]
    exact ⟨rfl, rfl⟩
  · have e2 : (Lit.int .i64 q) ≠ Lit.int .i64 k := fun h1 => e (by injection h1)
    have hc : (ks.erase k).contains q = ks.contains q := by
      apply Bool.eq_iff_iff.2
      rw [List.contains_iff_mem, List.contains_iff_mem, hnd.mem_erase_iff]
      simp [e]
    rw [has_del_other e2, atKey_del_other e2, (hq q).1, (hq q).2, hc]
    exact ⟨rfl, rfl⟩

/-- A change of one block leaves the pages of another one. -/
theorem PgSl.grown {w w' : World} {h g : Nat} {ps : List PgT} (hl : PgSl w (some ⟨h, 0, none⟩) ps) (hne : h ≠ g) (hg : w.grownBy w' (some g)) : PgSl w' (some ⟨h, 0, none⟩) ps := fun j hj => by
  obtain ⟨x, h1, h2⟩ := hl j hj
  cases h1
  refine ⟨_, rfl, fun i hi => ?_⟩
  have h3 := h2 i hi
  have h4 := cell_lt h3
  rw [← h3]
  rw [Addr.add_mid, Addr.add_mid] at h4 ⊢
  obtain ⟨-, -, -, -, a5⟩ := hg
  unfold World.cell?
  simp only at h4 ⊢
  rw [a5 h h4 (fun e => hne (by injection e))]
section
variable {ops : Array Oper} {rest : List Oper} {Q : Exit → Act → World → Prop} {tmps : Array Value} {df : List Deferred} {d ty : Nat} {ps : String} {af : Array Edge} {gd : Option (Nat × Bool)} {w0 w : World} {l : List (Nat × Obj)}
theorem ev_seenLook (hSt : St w0 l w) {m x : Operand} (h : Region.wanted ⟨some d, .lookup 57 m x false, ty, ps, af, gd⟩ (yielded ops tmps) = true ∧ ∃ g o ks k,
      Act.eval ⟨tmps, df⟩ m = .map (some g) ∧ (g, o) ∈ l ∧ SeenO o ks ∧ Act.eval ⟨tmps, df⟩ x = .int .i64 k ∧ (Lit.int .i64 k).wf = true ∧
      wpList Try.prog ops Q rest (Act.put ⟨tmps, df⟩ (some d) (.bool (ks.contains k))) w) :
    wpList Try.prog ops Q (⟨some d, .lookup 57 m x false, ty, ps, af, gd⟩ :: rest) ⟨tmps, df⟩ w := by
  obtain ⟨hw, g, o, ks, k, hm, hmem, ⟨M, hO, hT, hs, hq⟩, hx, hwf, h⟩ := h
  have hown := mapO_owns hO (hSt.blk hmem)
  have hz : (zeroValue 4).run Try.prog w = .ok (.bool false) w := by kernel_rfl
  obtain ⟨v, pl, hrun, hv⟩ := hown.lookup keyI Try.underlying57 hz (plainElem_bool Try.underlying4 false) (keyOf_int_mk Try.underlying3 hwf)
  have hv2 : v = .bool (ks.contains k) := by
    have h1 : M.atKey (.int .i64 k) (.lit (.bool false)) = .lit (.bool (ks.contains k)) := (hq k).2
    rw [h1] at hv
    cases v <;> simp [plainElem, Try.underlying4] at hv ⊢
    all_goals first | exact hv | exact hv.1 | skip
  subst hv2
  refine wpl_run hw ?_ h
  simp only [execOp, hm, hx, hrun, Sem.run_bind, Result.andThen_ok, Sem.run_pure]
theorem ev_seenLen (hSt : St w0 l w) {m : Operand} (h : Region.wanted ⟨some d, .call { callee := .builtin .len, args := #[m], argTypes := #[57] }, ty, ps, af, gd⟩ (yielded ops tmps) = true ∧ ∃ g o ks,
      Act.eval ⟨tmps, df⟩ m = .map (some g) ∧ (g, o) ∈ l ∧ SeenO o ks ∧
      wpList Try.prog ops Q rest (Act.put ⟨tmps, df⟩ (some d) (.int .i64 ks.length)) w) :
    wpList Try.prog ops Q (⟨some d, .call { callee := .builtin .len, args := #[m], argTypes := #[57] }, ty, ps, af, gd⟩ :: rest) ⟨tmps, df⟩ w := by
  obtain ⟨hw, g, o, ks, hm, hmem, ⟨M, hO, hT, hs, hq⟩, h⟩ := h
  refine ev_mapLen (H := Unit) (R := plainElem Try.prog 4) hSt Try.underlying57 ⟨hw, g, o, _, M, hm, hmem, hO, ?_⟩
  rw [hs]
  exact h
theorem ev_seenPut (hSt : St w0 l w) {m x v : Operand} (h : Region.wanted ⟨none, .mapUpdate 57 m x v, ty, ps, af, gd⟩ (yielded ops tmps) = true ∧ ∃ g o l1 l2 ks k,
      Act.eval ⟨tmps, df⟩ m = .map (some g) ∧ l = l1 ++ (g, o) :: l2 ∧ SeenO o ks ∧ Act.eval ⟨tmps, df⟩ x = .int .i64 k ∧ Act.eval ⟨tmps, df⟩ v = .bool true ∧ (Lit.int .i64 k).wf = true ∧ k ∉ ks ∧ ks.length < maxLen ∧
      ∀ o' w', SeenO o' (ks ++ [k]) → St w0 (l1 ++ (g, o') :: l2) w' → w.grownBy w' (some g) → wpList Try.prog ops Q rest (Act.put ⟨tmps, df⟩ none undef) w') :
    wpList Try.prog ops Q (⟨none, .mapUpdate 57 m x v, ty, ps, af, gd⟩ :: rest) ⟨tmps, df⟩ w := by
  obtain ⟨hw, g, o, l1, l2, ks, k, hm, rfl, ⟨M, hO, hT, hs, hq⟩, hx, hv, hwf, hk, hn, h⟩ := h
  have hown := mapO_owns hO (hSt.blk (List.mem_append_right _ (List.mem_cons_self ..)))
  obtain ⟨w', hrun, h1, h2⟩ := hown.update keyI Try.underlying57 hn (keyOf_int_mk Try.underlying3 hwf) (plainElem_bool Try.underlying4 true)
  obtain ⟨o', ho', hO'⟩ := owns_mapO h1
  refine wpl_run_skip hw ?_ (h o' w' (SeenO.put hT hs hq hk hO') (hSt.turn h2 ho') h2)
  simp only [execOp, hm, hx, hv, hrun, Sem.run_bind, Result.andThen]
  rfl
/-- 'delete(taken, k)'. -/
theorem ev_seenDel {dst : Option Nat} (hSt : St w0 l w) {m x : Operand} (h : Region.wanted ⟨dst, .call { callee := .builtin .delete, args := #[m, x], argTypes := #[57, 3] }, ty, ps, af, gd⟩ (yielded ops tmps) = true ∧ ∃ g o l1 l2 ks k,
      Act.eval ⟨tmps, df⟩ m = .map (some g) ∧ l = l1 ++ (g, o) :: l2 ∧ SeenO o ks ∧ Act.eval ⟨tmps, df⟩ x = .int .i64 k ∧ (Lit.int .i64 k).wf = true ∧ ks.Nodup ∧
      ∀ o' w', SeenO o' (ks.erase k) → St w0 (l1 ++ (g, o') :: l2) w' → w.grownBy w' (some g) → wpList Try.prog ops Q rest (Act.put ⟨tmps, df⟩ dst (.tuple #[])) w') :
    wpList Try.prog ops Q (⟨dst, .call { callee := .builtin .delete, args := #[m, x], argTypes := #[57, 3] }, ty, ps, af, gd⟩ :: rest) ⟨tmps, df⟩ w := by
  obtain ⟨hw, g, o, l1, l2, ks, k, hm, rfl, ⟨M, hO, hT, hs, hq⟩, hx, hwf, hnd, h⟩ := h
  have hown := mapO_owns hO (hSt.blk (List.mem_append_right _ (List.mem_cons_self ..)))
  obtain ⟨w', hrun, h1, h2⟩ := hown.drop keyI Try.underlying57 (keyOf_int_mk Try.underlying3 hwf) ty
  obtain ⟨o', ho', hO'⟩ := owns_mapO h1
  refine wpl_run hw ?_ (h o' w' (SeenO.del hnd hT hs hq hO') (hSt.turn h2.grown ho') h2.grown)
  simp [execOp, resolve, invoke, builtin, hm, hx, hrun, Result.andThen]
end
end Go.Proofs.Ytmnofoflbhdgjaa
