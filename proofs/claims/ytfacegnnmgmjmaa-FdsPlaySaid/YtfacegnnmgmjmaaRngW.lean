/- Regions whose loads may come behind their stores: a load of what no store of the region writes is taken first. -/
import Derived.Test.YtfacegnnmgmjmaaWLast
import Derived.Test.YtfacegnnmgmjmaaSt
namespace Go.Proofs.Ytfacegnnmgmjmaa
open Go.RowKit _root_.Go.Proofs.YtfacegnnmgmjmaaW.PrintLast
set_option linter.unusedSimpArgs false
set_option linter.unusedVariables false

/-- Some blocks are as they were. -/
def Held (srcs : List (Nat × Obj)) (w : World) : Prop := ∀ x ∈ srcs, w.heap[x.1]? = some x.2
theorem held_of {w0 w : World} {l srcs : List (Nat × Obj)} (h : St w0 l w) (hs : srcs.all (fun x => (l.any fun y => y.1 == x.1)) = true ∨ ∀ x ∈ srcs, x ∈ l) (hs2 : ∀ x ∈ srcs, x ∈ l) : Held srcs w := fun x hx => h.blk (hs2 x hx)
section
variable {P : Program} {ops : Array Oper} {Q : Exit → Act → World → Prop} {fuel : Nat} {L : Array Bool} {tmps : Array Value} {df : List Deferred} {w w0 : World} {T : TypeId} {n : Nat} {srcs l l1 l2 : List (Nat × Obj)}
theorem ld_take {i d s g : Nat} {cs : Array Value} {T' ty : TypeId} {ps : String} {af : Array Edge} (L' : Array Bool) (hi : ops[i]? = some ⟨some d, .load T (.tmp s), ty, ps, af, none⟩) (hc : takeB .any ops [] L L' i = true)
    (hQ : ∀ v c a w, Q (.panic c) (a.put (some d) v) w → Q (.panic c) a w) (hT : AggT P T n) (hs : tmps.getD s undef = .pointer (some ⟨g, 0, none⟩)) (hS : Held srcs w) (hm : (g, Obj.cells cs T' (0, 0)) ∈ srcs) (hn : cs.size = n)
    (h : wpAnyLast P .any ops Q (Held srcs) [] fuel L' (Act.put ⟨tmps, df⟩ (some d) (.agg cs)) w) : wpAnyLast P .any ops Q (Held srcs) [] (fuel + 1) L ⟨tmps, df⟩ w := by
  refine take_ (v := .agg cs) L' hi rfl hc (hQ _) (.inl ⟨rfl, fun w' hS' => ?_⟩) hS rfl h
  have hs' : Act.eval ⟨tmps, df⟩ (.tmp s) = .pointer (some ⟨g, 0, none⟩) := hs
  simp only [execOp, hs', Instr.loadAt, Instr.sureAddr, Sem.run_bind, Sem.run_pure, Result.andThen_ok, run_load_agg hT (hS' _ hm) hn]
theorem st_one {i t u g : Nat} {old new : Array Value} {ty : TypeId} {ps : String} {af : Array Edge} (L' : Array Bool) (hi : ops[i]? = some ⟨none, .store T (.tmp t) (.tmp u), ty, ps, af, none⟩) (hc : readyB .any ops L L' i = true)
    (hT : AggT P T n) (hSt : St w0 l w) (hx : tmps.getD t undef = .pointer (some ⟨g, 0, none⟩)) (hu : tmps.getD u undef = .agg new) (hl : l = l1 ++ (g, Obj.cells old T (0, 0)) :: l2) (ho : old.size = n) (hn : new.size = n) (h1 : new.all (·.oneCell') = true)
    (hS : ∀ x ∈ srcs, x ∈ l1 ++ (g, Obj.cells new T (0, 0)) :: l2)
    (h : ∀ w', St w0 (l1 ++ (g, Obj.cells new T (0, 0)) :: l2) w' → wpAnyLast P .any ops Q (Held srcs) [] fuel L' ⟨tmps, df⟩ w') : wpAnyLast P .any ops Q (Held srcs) [] (fuel + 1) L ⟨tmps, df⟩ w := by
  subst hl
  refine one_ L' hi rfl hc (by simp) (fun K hK => ?_)
  have hx' : Act.eval ⟨tmps, df⟩ (.tmp t) = .pointer (some ⟨g, 0, none⟩) := hx
  have hu' : Act.eval ⟨tmps, df⟩ (.tmp u) = .agg new := hu
  have hg := hSt.blk (g := g) (o := .cells old T (0, 0)) (List.mem_append_right _ (List.mem_cons_self ..))
  have hs2 : St w0 (l1 ++ (g, Obj.cells new T (0, 0)) :: l2) (w.setRow g new) := hSt.set
  refine skip_ (w1 := w.setRow g new) rfl rfl ?_ (hK.out _ _ (fun x hx => hs2.blk (hS x hx)) fun _ => h _ hs2)
  simp only [execOp, hx', hu', Instr.storeAt, Instr.sureAddr, Sem.run_bind, Sem.run_pure, Result.andThen_ok, run_storeVar_row w g T T old new hg (by rw [hT.2, hn]) (by rw [ho, hn]) h1]
theorem St.swap {w0 w : World} {a b : Nat × Obj} {l : List (Nat × Obj)} (h : St w0 (a :: b :: l) w) : St w0 (b :: a :: l) w := by
  refine ⟨h.base, fun x hx => h.own x ?_, ?_⟩
  · simp only [List.mem_cons] at hx ⊢
    rcases hx with h | h | h
    · exact .inr (.inl h)
    · exact .inl h
    · exact .inr (.inr h)
  · have := h.nodup
    simp only [List.map_cons, List.nodup_cons, List.mem_cons] at this ⊢
    obtain ⟨h1, h2, h3⟩ := this
    exact ⟨fun h => h.elim (fun e => h1 (.inl e.symm)) h2, fun h => h1 (.inr h), h3⟩
theorem alloc_run (hSt : St w0 l w) {cs : Array Value} (hz : ZeroT P T cs) {d : Tmp} {ty : TypeId} {ps : String} {af : Array Edge} (a : Act) :
    ∃ g w', (execOp a.eval ⟨some d, .alloc T, ty, ps, af, none⟩).run P w = .ok (.value (.pointer (some ⟨g, 0, none⟩))) w' ∧ St w0 ((g, .cells cs T (0, 0)) :: l) w' := by
  refine ⟨w.heap.size, w.alloc (.cells cs T (0, 0)), ?_, hSt.alloc _⟩
  unfold ZeroT at hz
  cases hi : P.info? T with
  | none => simp [hi] at hz
  | some i =>
    simp only [hi, Option.bind_some, Option.map_eq_some_iff] at hz
    obtain ⟨v, hv, rfl⟩ := hz
    have hzv : ∀ w, (zeroValue T).run P w = .ok v w := fun w => by simp [zeroValue, typeInfo, hi, hv]
    simp only [execOp, Instr.alloc, Sem.run_bind, hzv, Result.andThen_ok, newVar]
    rfl
/-- Two new variables, in either order. -/
theorem two_alloc {i j d e : Nat} {cs : Array Value} {ty ty2 : TypeId} {ps ps2 : String} {af af2 : Array Edge} (Li Lj Lij : Array Bool) (hi : ops[i]? = some ⟨some d, .alloc T, ty, ps, af, none⟩) (hj : ops[j]? = some ⟨some e, .alloc T, ty2, ps2, af2, none⟩) (hde : d ≠ e)
    (hc : (Region.ready .any ops L == [i, j] && L.setIfInBounds i true == Li && L.setIfInBounds j true == Lj) = true) (hci : readyB .any ops Li Lij j = true) (hcj : readyB .any ops Lj Lij i = true)
    (hz : ZeroT P T cs) (hSt : St w0 l w) (hS : ∀ x ∈ srcs, x ∈ l)
    (h : ∀ g1 g2 w', St w0 ((g2, .cells cs T (0, 0)) :: (g1, .cells cs T (0, 0)) :: l) w' → wpAnyLast P .any ops Q (Held srcs) [] fuel Lij (Act.put (Act.put ⟨tmps, df⟩ (some d) (.pointer (some ⟨g1, 0, none⟩))) (some e) (.pointer (some ⟨g2, 0, none⟩))) w') :
    wpAnyLast P .any ops Q (Held srcs) [] (fuel + 1 + 1) L ⟨tmps, df⟩ w := by
  have held : ∀ {w' : World} {m : List (Nat × Obj)}, St w0 m w' → (∀ x ∈ l, x ∈ m) → Held srcs w' := fun h1 h2 x hx => h1.blk (h2 x (hS x hx))
  refine two_ Li Lj hi hj rfl rfl hc (by simp) (by simp) (fun K hK => ?_) (fun K hK => ?_)
  · obtain ⟨g1, w1, hr1, h1⟩ := alloc_run hSt hz (d := d) (ty := ty) (ps := ps) (af := af) ⟨tmps, df⟩
    refine value_ rfl rfl hr1 (hK.out _ _ (held h1 fun x hx => List.mem_cons_of_mem _ hx) fun _ => ?_)
    refine one_ Lij hj rfl hci (by simp) (fun K hK => ?_)
    obtain ⟨g2, w2, hr2, h2⟩ := alloc_run h1 hz (d := e) (ty := ty2) (ps := ps2) (af := af2) (Act.put ⟨tmps, df⟩ (some d) (.pointer (some ⟨g1, 0, none⟩)))
    exact value_ rfl rfl hr2 (hK.out _ _ (held h2 fun x hx => List.mem_cons_of_mem _ (List.mem_cons_of_mem _ hx)) fun _ => h g1 g2 w2 h2)
  · obtain ⟨g2, w1, hr1, h1⟩ := alloc_run hSt hz (d := e) (ty := ty2) (ps := ps2) (af := af2) ⟨tmps, df⟩
    refine value_ rfl rfl hr1 (hK.out _ _ (held h1 fun x hx => List.mem_cons_of_mem _ hx) fun _ => ?_)
    refine one_ Lij hi rfl hcj (by simp) (fun K hK => ?_)
    obtain ⟨g1, w2, hr2, h2⟩ := alloc_run h1 hz (d := d) (ty := ty) (ps := ps) (af := af) (Act.put ⟨tmps, df⟩ (some e) (.pointer (some ⟨g2, 0, none⟩)))
    refine value_ rfl rfl hr2 (hK.out _ _ (held h2 fun x hx => List.mem_cons_of_mem _ (List.mem_cons_of_mem _ hx)) fun _ => ?_)
    have := h g1 g2 w2 h2.swap
    simp only [Act.put] at this ⊢
    rw [Array.setIfInBounds_comm _ _ hde.symm]
    exact this
end
end Go.Proofs.Ytfacegnnmgmjmaa
