/- New variables in any order, and what is told of them. -/
import Derived.Test.YtoogkjkbdicffaaRngW
import Derived.Test.YtoogkjkbdicffaaRngI
namespace Go.Proofs.Ytoogkjkbdicffaa
open Go.RowKit _root_.Go.Proofs.YtoogkjkbdicffaaW.PrintLast
set_option linter.unusedSimpArgs false
set_option linter.unusedVariables false

def allocB (ops : Array Oper) (Lend : Array Bool) : Nat → Array Bool → List Nat → Bool
  | 0, L, rs => rs.isEmpty && (L == Lend)
  | n + 1, L, rs => (Region.ready .any ops L == rs) && rs.all fun i => allocB ops Lend n (L.setIfInBounds i true) (rs.erase i)
theorem St.perm {w0 w : World} {l l' : List (Nat × Obj)} (h : St w0 l w) (hp : l.Perm l') : St w0 l' w := ⟨h.base, fun x hx => h.own x (hp.mem_iff.2 hx), (hp.map _).nodup_iff.1 h.nodup⟩
theorem St.add {w0 w : World} {l : List (Nat × Obj)} {g : Nat} {o : Obj} (h : St w0 l w) (hg : w.heap[g]? = some o) (hge : w0.heap.size ≤ g) (hn : ∀ x ∈ l, x.1 ≠ g) : St w0 ((g, o) :: l) w := by
  refine ⟨h.base, fun x hx => ?_, ?_⟩
  · rcases List.mem_cons.1 hx with rfl | hx
    · exact ⟨hg, hge⟩
    · exact h.own x hx
  · rw [List.map_cons, List.nodup_cons]
    refine ⟨fun hm => ?_, h.nodup⟩
    obtain ⟨x, hx, e⟩ := List.mem_map.1 hm
    exact hn x hx e
theorem St.lts {w0 w : World} {l : List (Nat × Obj)} (h : St w0 l w) : ∀ x ∈ l, x.1 < w.heap.size := fun x hx => lt_of_blk (h.own x hx).1
def putsA (D : Nat → Tmp) (g : Nat → Nat) (rs : List Nat) (t : Array Value) : Array Value := rs.foldl (fun t i => t.setIfInBounds (D i) (.pointer (some ⟨g i, 0, none⟩))) t
section
variable {P : Program} {ops : Array Oper} {Q : Exit → Act → World → Prop} {fuel : Nat} {df : List Deferred} {w0 : World} {T : TypeId} {srcs : List (Nat × Obj)}
theorem allocs_ {cs : Array Value} (hz : ZeroT P T cs) (D : Nat → Tmp) (Lend : Array Bool) : ∀ (n : Nat) (rs : List Nat) (L : Array Bool) (t : Array Value) (w : World) (l : List (Nat × Obj)), rs.length = n → rs.Nodup → (∀ i ∈ rs, ∀ j ∈ rs, i ≠ j → D i ≠ D j) →
    (∀ i ∈ rs, ∃ ty ps af, ops[i]? = some ⟨some (D i), .alloc T, ty, ps, af, none⟩) → allocB ops Lend n L rs = true → St w0 l w → (∀ x ∈ srcs, x ∈ l) →
    (∀ (g : Nat → Nat) w', St w0 ((rs.map fun i => (g i, Obj.cells cs T (0, 0))) ++ l) w' → wpAnyLast P .any ops Q (Held srcs) [] fuel Lend ⟨putsA D g rs t, df⟩ w') → wpAnyLast P .any ops Q (Held srcs) [] (fuel + n) L ⟨t, df⟩ w := by
  intro n
  induction n with
  | zero =>
    intro rs L t w l hlen hnd hD ho hc hSt hS h
    obtain rfl : rs = [] := List.eq_nil_of_length_eq_zero hlen
    simp only [allocB, List.isEmpty_nil, Bool.true_and, beq_iff_eq] at hc
    subst hc
    exact h (fun _ => 0) w (by simpa using hSt)
  | succ n ih =>
    intro rs L t w l hlen hnd hD ho hc hSt hS h
    simp only [allocB, Bool.and_eq_true, beq_iff_eq, List.all_eq_true] at hc
    obtain ⟨hr, hall⟩ := hc
    refine wpAnyLast_all hr (by intro e; rw [e] at hlen; simp at hlen) fun i hi => ?_
    obtain ⟨ty, ps, af, hop⟩ := ho i hi
    refine AllReadyL.cons (rs := []) hop (by simp) (fun K hK => ?_) AllReadyL.nil i (List.mem_cons_self ..)
    obtain ⟨g0, w1, hrun, h1⟩ := alloc_run hSt hz (d := D i) (ty := ty) (ps := ps) (af := af) ⟨t, df⟩
    refine value_ rfl rfl hrun (hK.out _ _ (fun x hx => h1.blk (List.mem_cons_of_mem _ (hS x hx))) fun _ => ?_)
    have hne : ∀ k ∈ rs.erase i, k ≠ i := fun k hk => (hnd.mem_erase_iff.1 hk).1
    refine ih (rs.erase i) _ _ w1 _ (by rw [List.length_erase_of_mem hi, hlen]; rfl) (hnd.erase i) (fun a ha b hb => hD a (List.mem_of_mem_erase ha) b (List.mem_of_mem_erase hb)) (fun a ha => ho a (List.mem_of_mem_erase ha)) (hall i hi) h1 (fun x hx => List.mem_cons_of_mem _ (hS x hx)) fun g w' hw' => ?_
    have hperm : rs.Perm (i :: rs.erase i) := List.perm_cons_erase hi
    have hg : ∀ k ∈ rs.erase i, (if k = i then g0 else g k) = g k := fun k hk => if_neg (hne k hk)
    have h2 := h (fun k => if k = i then g0 else g k) w' (hw'.perm (by
      refine List.Perm.trans ?_ (List.Perm.append_right l (hperm.symm.map fun k => ((if k = i then g0 else g k), Obj.cells cs T (0, 0))))
      rw [List.map_cons, if_pos rfl]
      have e : (rs.erase i).map (fun k => ((if k = i then g0 else g k), Obj.cells cs T (0, 0))) = (rs.erase i).map fun k => (g k, Obj.cells cs T (0, 0)) := List.map_congr_left fun k hk => by rw [hg k hk]
      rw [e, List.cons_append]
      exact List.perm_middle))
    have h3 : putsA D (fun k => if k = i then g0 else g k) rs t = putsA D g (rs.erase i) (t.setIfInBounds (D i) (.pointer (some ⟨g0, 0, none⟩))) := by
      unfold putsA
      rw [hperm.foldl_eq' (fun x hx y hy z => ?_) t]
      · rw [List.foldl_cons]
        show (rs.erase i).foldl _ (t.setIfInBounds (D i) (.pointer (some ⟨if i = i then g0 else g i, 0, none⟩))) = _
        rw [if_pos rfl]
        have : ∀ (m : List Nat), (∀ k ∈ m, k ∈ rs.erase i) → ∀ z : Array Value, m.foldl (fun t k => t.setIfInBounds (D k) (.pointer (some ⟨if k = i then g0 else g k, 0, none⟩))) z = m.foldl (fun t k => t.setIfInBounds (D k) (.pointer (some ⟨g k, 0, none⟩))) z := fun m => by
          induction m with
          | nil => intro _ z; rfl
          | cons k m ihm =>
            intro hm z
            rw [List.foldl_cons, List.foldl_cons, hg k (hm k (List.mem_cons_self ..))]
            exact ihm (fun a ha => hm a (List.mem_cons_of_mem _ ha)) _
        exact this _ (fun k hk => hk) _
      · by_cases e : x = y
        · rw [e]
        · exact Array.setIfInBounds_comm _ _ (hD x hx y hy e)
    rw [h3] at h2
    exact h2
theorem ld_takeAt {n : Nat} {L : Array Bool} {tmps : Array Value} {w : World} {i d s g o : Nat} {cur : Array Value} {cs : List Value} {T' ty : TypeId} {ps : String} {af : Array Edge} (L' : Array Bool) (hi : ops[i]? = some ⟨some d, .load T (.tmp s), ty, ps, af, none⟩) (hc : takeB .any ops [] L L' i = true)
    (hQ : ∀ v c a w, Q (.panic c) (a.put (some d) v) w → Q (.panic c) a w) (hT : AggT P T n) (hs : tmps.getD s undef = .pointer (some ⟨g, o, none⟩)) (hS : Held srcs w) (hm : (g, Obj.cells cur T' (0, 0)) ∈ srcs) (hn : cs.length = n) (hcs : (cur.toList.drop o).take n = cs)
    (h : wpAnyLast P .any ops Q (Held srcs) [] fuel L' (Act.put ⟨tmps, df⟩ (some d) (.agg cs.toArray)) w) : wpAnyLast P .any ops Q (Held srcs) [] (fuel + 1) L ⟨tmps, df⟩ w := by
  refine take_ (v := .agg cs.toArray) L' hi rfl hc (hQ _) (.inl ⟨rfl, fun w' hS' => ?_⟩) hS rfl h
  have hs' : Act.eval ⟨tmps, df⟩ (.tmp s) = .pointer (some ⟨g, o, none⟩) := hs
  obtain ⟨h1, h2⟩ := hT
  obtain ⟨td, htd, hrow⟩ := Option.map_eq_some_iff.1 h1
  obtain ⟨i, hi, his⟩ := Option.map_eq_some_iff.1 h2
  have hl : (loadCells ⟨g, o, none⟩ cs.length).run P w' = .ok cs.toArray w' := run_loadCells_list (P := P) w' ⟨g, o, none⟩ cs (fun j v hj => by
    rw [Addr.add_mid, cell_of_row _ _ _ _ _ _ (hS' _ hm)]
    rw [← hcs, List.getElem?_take] at hj
    split at hj
    · rw [List.getElem?_drop] at hj
      simpa using hj
    · cases hj)
  have hagg : (isAgg T).run P w' = .ok true w' := by
    unfold isAgg
    rw [Sem.run_bind, run_underlying htd w']
    cases td <;> simp_all [TypeDesc.isRow]
  have hr : (loadVar T ⟨g, o, none⟩).run P w' = .ok (.agg cs.toArray) w' := by
    simp [loadVar, Sem.run_bind, hagg, sizeOf, typeInfo, hi, his, ← hn, hl]
  simp only [execOp, hs', Instr.loadAt, Instr.sureAddr, Sem.run_bind, Sem.run_pure, Result.andThen_ok, hr]
/-- A new variable: the world written out. -/
theorem ev_allocW {tmps : Array Value} {rest : List Oper} {cs : Array Value} {w : World} {d ty : Nat} {ps : String} {af : Array Edge} {gd : Option (Nat × Bool)} (hz : ZeroT P T cs) (h : Region.wanted ⟨some d, .alloc T, ty, ps, af, gd⟩ (yielded ops tmps) = true ∧
      wpList P ops Q rest (Act.put ⟨tmps, df⟩ (some d) (.pointer (some ⟨w.heap.size, 0, none⟩))) (w.alloc (.cells cs T (0, 0)))) :
    wpList P ops Q (⟨some d, .alloc T, ty, ps, af, gd⟩ :: rest) ⟨tmps, df⟩ w := by
  refine wpl_run h.1 ?_ h.2
  unfold ZeroT at hz
  cases hi : P.info? T with
  | none => simp [hi] at hz
  | some i =>
    simp only [hi, Option.bind_some, Option.map_eq_some_iff] at hz
    obtain ⟨v, hv, rfl⟩ := hz
    have hzv : ∀ w, (zeroValue T).run P w = .ok v w := fun w => by simp [zeroValue, typeInfo, hi, hv]
    simp only [execOp, Instr.alloc, Sem.run_bind, hzv, Result.andThen_ok, newVar]
    rfl
end
end Go.Proofs.Ytoogkjkbdicffaa
