/- As in RngV and RngW, for blocks that are held from the start. -/
import Derived.Test.YtoogkjkbdicffaaRngV
namespace Go.Proofs.Ytoogkjkbdicffaa
open Go.RowKit _root_.Go.Proofs.YtoogkjkbdicffaaW.PrintLast
set_option linter.unusedSimpArgs false
set_option linter.unusedVariables false
theorem held_base {w0 : World} {srcs : List (Nat × Obj)} (h : Held srcs w0) (l : List (Nat × Obj)) (w : World) (hSt : St w0 l w) : Held srcs w := fun x hx => blk_of hSt.base (h x hx)
section
variable {P : Program} {ops : Array Oper} {Q : Exit → Act → World → Prop} {fuel : Nat} {df : List Deferred} {w0 : World} {T : TypeId} {srcs : List (Nat × Obj)}
theorem allocsB_ (hH : ∀ l w, St w0 l w → Held srcs w) {cs : Array Value} (hz : ZeroT P T cs) (D : Nat → Tmp) (Lend : Array Bool) : ∀ (n : Nat) (rs : List Nat) (L : Array Bool) (t : Array Value) (w : World) (l : List (Nat × Obj)), rs.length = n → rs.Nodup → (∀ i ∈ rs, ∀ j ∈ rs, i ≠ j → D i ≠ D j) →
    (∀ i ∈ rs, ∃ ty ps af, ops[i]? = some ⟨some (D i), .alloc T, ty, ps, af, none⟩) → allocB ops Lend n L rs = true → St w0 l w →
    (∀ (g : Nat → Nat) w', St w0 ((rs.map fun i => (g i, Obj.cells cs T (0, 0))) ++ l) w' → wpAnyLast P .any ops Q (Held srcs) [] fuel Lend ⟨putsA D g rs t, df⟩ w') → wpAnyLast P .any ops Q (Held srcs) [] (fuel + n) L ⟨t, df⟩ w := by
  intro n
  induction n with
  | zero =>
    intro rs L t w l hlen hnd hD ho hc hSt h
    obtain rfl : rs = [] := List.eq_nil_of_length_eq_zero hlen
    simp only [allocB, List.isEmpty_nil, Bool.true_and, beq_iff_eq] at hc
    subst hc
    exact h (fun _ => 0) w (by simpa using hSt)
  | succ n ih =>
    intro rs L t w l hlen hnd hD ho hc hSt h
    simp only [allocB, Bool.and_eq_true, beq_iff_eq, List.all_eq_true] at hc
    obtain ⟨hr, hall⟩ := hc
    refine wpAnyLast_all hr (by intro e; rw [e] at hlen; simp at hlen) fun i hi => ?_
    obtain ⟨ty, ps, af, hop⟩ := ho i hi
    refine AllReadyL.cons (rs := []) hop (by simp) (fun K hK => ?_) AllReadyL.nil i (List.mem_cons_self ..)
    obtain ⟨g0, w1, hrun, h1⟩ := alloc_run hSt hz (d := D i) (ty := ty) (ps := ps) (af := af) ⟨t, df⟩
    refine value_ rfl rfl hrun (hK.out _ _ (hH _ _ h1) fun _ => ?_)
    have hne : ∀ k ∈ rs.erase i, k ≠ i := fun k hk => (hnd.mem_erase_iff.1 hk).1
    refine ih (rs.erase i) _ _ w1 _ (by rw [List.length_erase_of_mem hi, hlen]; rfl) (hnd.erase i) (fun a ha b hb => hD a (List.mem_of_mem_erase ha) b (List.mem_of_mem_erase hb)) (fun a ha => ho a (List.mem_of_mem_erase ha)) (hall i hi) h1 fun g w' hw' => ?_
    have hperm : rs.Perm (i :: rs.erase i) := List.perm_cons_erase hi
    have hg : ∀ k ∈ rs.erase i, (if k = i then g0 else g k) = g k := fun k hk => if_neg (hne k hk)
    have h2 := h (fun k => if k = i then g0 else g k) w' (hw'.perm (by
      refine List.Perm.trans ?_ (List.Perm.append_right l (hperm.symm.map fun k => ((if k = i then g0 else g k), Obj.cells cs T (0, 0))))
      rw [List.map_cons, if_pos rfl]
      have e : (rs.erase i).map (fun k => ((if k = i then g0 else g k), Obj.cells cs T (0, 0))) = (rs.erase i).map fun k => (g k, Obj.cells cs T (0, 0)) := List.map_congr_left fun k hk => by rw [hg k hk]
      rw [e, List.cons_append]
      exact List.perm_middle))
    have h3 : putsA D (fun k => if k = i then g0 else g k) rs t = putsA D g (rs.erase i) (t.setIfInBounds (D i) (.pointer (some ⟨g0, 0, none⟩))) := by
      unfold putsA
      rw [hperm.foldl_eq' (fun x hx y hy z => ?_) t]
      · rw [List.foldl_cons]
        show (rs.erase i).foldl _ (t.setIfInBounds (D i) (.pointer (some ⟨if i = i then g0 else g i, 0, none⟩))) = _
        rw [if_pos rfl]
        have : ∀ (m : List Nat), (∀ k ∈ m, k ∈ rs.erase i) → ∀ z : Array Value, m.foldl (fun t k => t.setIfInBounds (D k) (.pointer (some ⟨if k = i then g0 else g k, 0, none⟩))) z = m.foldl (fun t k => t.setIfInBounds (D k) (.pointer (some ⟨g k, 0, none⟩))) z := fun m => by
          induction m with
          | nil => intro _ z; rfl
          | cons k m ihm =>
            intro hm z
            rw [List.foldl_cons, List.foldl_cons, hg k (hm k (List.mem_cons_self ..))]
            exact ihm (fun a ha => hm a (List.mem_cons_of_mem _ ha)) _
        exact this _ (fun k hk => hk) _
      · by_cases e : x = y
        · rw [e]
        · exact Array.setIfInBounds_comm _ _ (hD x hx y hy e)
    rw [h3] at h2
    exact h2
end
section
variable {P : Program} {ops : Array Oper} {Q : Exit → Act → World → Prop} {fuel : Nat} {L : Array Bool} {tmps : Array Value} {df : List Deferred} {w w0 : World} {T : TypeId} {n : Nat} {srcs l l1 l2 : List (Nat × Obj)}
theorem st_oneB (hH : ∀ l w, St w0 l w → Held srcs w) {i t u g : Nat} {old new : Array Value} {ty : TypeId} {ps : String} {af : Array Edge} (L' : Array Bool) (hi : ops[i]? = some ⟨none, .store T (.tmp t) (.tmp u), ty, ps, af, none⟩) (hc : readyB .any ops L L' i = true)
    (hT : AggT P T n) (hSt : St w0 l w) (hx : tmps.getD t undef = .pointer (some ⟨g, 0, none⟩)) (hu : tmps.getD u undef = .agg new) (hl : l = l1 ++ (g, Obj.cells old T (0, 0)) :: l2) (ho : old.size = n) (hn : new.size = n) (h1 : new.all (·.oneCell') = true)
    (h : ∀ w', St w0 (l1 ++ (g, Obj.cells new T (0, 0)) :: l2) w' → wpAnyLast P .any ops Q (Held srcs) [] fuel L' ⟨tmps, df⟩ w') : wpAnyLast P .any ops Q (Held srcs) [] (fuel + 1) L ⟨tmps, df⟩ w := by
  subst hl
  refine one_ L' hi rfl hc (by simp) (fun K hK => ?_)
  have hx' : Act.eval ⟨tmps, df⟩ (.tmp t) = .pointer (some ⟨g, 0, none⟩) := hx
  have hu' : Act.eval ⟨tmps, df⟩ (.tmp u) = .agg new := hu
  have hg := hSt.blk (g := g) (o := .cells old T (0, 0)) (List.mem_append_right _ (List.mem_cons_self ..))
  have hs2 : St w0 (l1 ++ (g, Obj.cells new T (0, 0)) :: l2) (w.setRow g new) := hSt.set
  refine skip_ (w1 := w.setRow g new) rfl rfl ?_ (hK.out _ _ (hH _ _ hs2) fun _ => h _ hs2)
  simp only [execOp, hx', hu', Instr.storeAt, Instr.sureAddr, Sem.run_bind, Sem.run_pure, Result.andThen_ok, run_storeVar_row w g T T old new hg (by rw [hT.2, hn]) (by rw [ho, hn]) h1]
end
end Go.Proofs.Ytoogkjkbdicffaa
