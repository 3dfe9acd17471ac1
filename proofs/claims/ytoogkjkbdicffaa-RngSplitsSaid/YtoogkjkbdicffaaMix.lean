/- New variables in any order, between calls in their order, and what is told of them. -/
import Derived.Test.YtoogkjkbdicffaaRngV
import Derived.Test.YtoogkjkbdicffaaRel
namespace Go.Proofs.Ytoogkjkbdicffaa
open Go.RowKit _root_.Go.Proofs.YtoogkjkbdicffaaW.PrintLast
set_option linter.unusedSimpArgs false
set_option linter.unusedVariables false

def subs : List Nat → List (List Nat)
  | [] => [[]]
  | a :: l => subs l ++ (subs l).map (a :: ·)
theorem mem_subs {l m : List Nat} (h : l.Sublist m) : l ∈ subs m := by
  induction h with
  | slnil => exact List.mem_cons_self ..
  | cons a _ ih => exact List.mem_append_left _ ih
  | cons_cons a _ ih => exact List.mem_append_right _ (List.mem_map.2 ⟨_, ih, rfl⟩)
def tailsN : List Nat → List (List Nat)
  | [] => [[]]
  | a :: l => (a :: l) :: tailsN l
/-- All have come up but those of l. -/
def lackA (Lend : Array Bool) (l : List Nat) : Array Bool := l.foldl (fun L i => L.setIfInBounds i false) Lend
theorem lackA_get : ∀ (l : List Nat) (L : Array Bool) (k : Nat), (lackA L l)[k]? = if k ∈ l then (if k < L.size then some false else none) else L[k]?
  | [], _, _ => by simp [lackA]
  | a :: l, L, k => by
    show (lackA (L.setIfInBounds a false) l)[k]? = _
    rw [lackA_get l, Array.getElem?_setIfInBounds, Array.size_setIfInBounds]
    by_cases h1 : k ∈ l
    · rw [if_pos h1, if_pos (List.mem_cons_of_mem _ h1)]
    · rw [if_neg h1]
      by_cases h2 : a = k
      · subst h2
        rw [if_pos rfl, if_pos (List.mem_cons_self ..)]
      · rw [if_neg h2, if_neg (fun h => (List.mem_cons.1 h).elim (fun e => h2 e.symm) h1)]
theorem lackA_set {l : List Nat} {L : Array Bool} {i : Nat} (hn : l.Nodup) (hi : i ∈ l) (hL : L[i]? = some true) : (lackA L l).setIfInBounds i true = lackA L (l.erase i) := by
  refine Array.ext_getElem? fun k => ?_
  have hlt : i < L.size := (Array.getElem?_eq_some_iff.1 hL).1
  have hsz : ∀ (l : List Nat) (L : Array Bool), (lackA L l).size = L.size := fun l => by
    induction l with
    | nil => intro L; rfl
    | cons a l ih => intro L; show (lackA (L.setIfInBounds a false) l).size = _; rw [ih, Array.size_setIfInBounds]
  rw [Array.getElem?_setIfInBounds, lackA_get, lackA_get, hsz]
  by_cases h : i = k
  · subst h
    rw [if_pos rfl, if_pos hlt, if_neg (fun hm => (hn.mem_erase_iff.1 hm).1 rfl), hL]
  · rw [if_neg h]
    by_cases hk : k ∈ l
    · rw [if_pos hk, if_pos (hn.mem_erase_iff.2 ⟨fun e => h e.symm, hk⟩)]
    · rw [if_neg hk, if_neg (fun hm => hk (List.mem_of_mem_erase hm))]
def nextC (rs cs : List Nat) : List Nat := match cs with | [] => rs | c :: _ => c :: rs
def mixB (ops : Array Oper) (Lend : Array Bool) (rs cs : List Nat) : Bool := (subs rs).all fun r => (tailsN cs).all fun c => (r ++ c).isEmpty || Region.ready .any ops (lackA Lend (r ++ c)) == nextC r c
theorem tailsN_self : ∀ l : List Nat, l ∈ tailsN l
  | [] => List.mem_cons_self ..
  | _ :: _ => List.mem_cons_self ..
theorem tailsN_tail {c : Nat} {cs : List Nat} : ∀ {l : List Nat}, c :: cs ∈ tailsN l → cs ∈ tailsN l
  | [], h => by simp [tailsN] at h
  | a :: l, h => by
    rcases List.mem_cons.1 h with h | h
    · injection h with h1 h2
      subst h2
      exact List.mem_cons_of_mem _ (tailsN_self _)
    · exact List.mem_cons_of_mem _ (tailsN_tail h)
abbrev CL := List (Nat × Tmp × Value)
def putsC (cs : CL) (t : Array Value) : Array Value := cs.foldl (fun t c => t.setIfInBounds c.2.1 c.2.2) t
theorem putsC_set : ∀ (cs : CL) (t : Array Value) (d : Tmp) (v : Value), (∀ c ∈ cs, c.2.1 ≠ d) → putsC cs (t.setIfInBounds d v) = (putsC cs t).setIfInBounds d v
  | [], _, _, _, _ => rfl
  | c :: cs, t, d, v, h => by
    show putsC cs ((t.setIfInBounds d v).setIfInBounds c.2.1 c.2.2) = (putsC cs (t.setIfInBounds c.2.1 c.2.2)).setIfInBounds d v
    rw [Array.setIfInBounds_comm _ _ (h c (List.mem_cons_self ..)).symm]
    exact putsC_set cs _ d v fun c' h' => h c' (List.mem_cons_of_mem _ h')
section
variable {P : Program} {ops : Array Oper} {Q : Exit → Act → World → Prop} {fuel : Nat} {df : List Deferred} {w0 : World} {T : TypeId} {srcs : List (Nat × Obj)}
/-- The calls, one after the other: each yields its value, whatever stands in the places ds. -/
def CallsAre (P : Program) (ops : Array Oper) (df : List Deferred) (ds : List Tmp) : CL → Array Value → Prop
  | [], _ => True
  | c :: cs, t => (∃ o, ops[c.1]? = some o ∧ o.dst = some c.2.1 ∧ c.2.1 ∉ ds ∧ ∀ (t' : Array Value) (w : World), (∀ k, k ∉ ds → t'[k]? = t[k]?) → StepE P ops o ⟨t', df⟩ w (fun u _ => u = c.2.2)) ∧ CallsAre P ops df ds cs (t.setIfInBounds c.2.1 c.2.2)
theorem CallsAre.apart {ds : List Tmp} : ∀ (cs : CL) (t : Array Value), CallsAre P ops df ds cs t → ∀ c ∈ cs, c.2.1 ∉ ds
  | [], _, _, _, h => by cases h
  | _ :: cs, _, h, c', hc => by
    rcases List.mem_cons.1 hc with rfl | hc
    · obtain ⟨_, _, _, h3, _⟩ := h.1
      exact h3
    · exact CallsAre.apart cs _ h.2 c' hc
theorem mix_ {cs0 : Array Value} (hz : ZeroT P T cs0) (D : Nat → Tmp) (ds : List Tmp) (Lend : Array Bool) {rs0 cs1 : List Nat} (hB : mixB ops Lend rs0 cs1 = true) : ∀ (n : Nat) (rs : List Nat) (cs : CL) (tb t : Array Value) (w : World) (l : List (Nat × Obj)),
    rs.length + cs.length = n → rs.Nodup → (∀ i ∈ rs, ∀ j ∈ rs, i ≠ j → D i ≠ D j) → (∀ i ∈ rs, D i ∈ ds) →
    (∀ i ∈ rs, ∃ ty ps af, ops[i]? = some ⟨some (D i), .alloc T, ty, ps, af, none⟩) → rs.Sublist rs0 → cs.map (·.1) ∈ tailsN cs1 → (rs ++ cs.map (·.1)).Nodup → (∀ i ∈ rs ++ cs.map (·.1), Lend[i]? = some true) → St w0 l w → (∀ x ∈ srcs, x ∈ l) →
    t.size = tb.size → (∀ k, k ∉ ds → t[k]? = tb[k]?) → CallsAre P ops df ds cs tb →
    (∀ (g : Nat → Nat) w', St w0 ((rs.map fun i => (g i, Obj.cells cs0 T (0, 0))) ++ l) w' → wpAnyLast P .any ops Q (Held srcs) [] fuel Lend ⟨putsA D g rs (putsC cs t), df⟩ w') →
    wpAnyLast P .any ops Q (Held srcs) [] (fuel + n) (lackA Lend (rs ++ cs.map (·.1))) ⟨t, df⟩ w := by
  intro n
  induction n with
  | zero =>
    intro rs cs tb t w l hlen hnd hD hDs ho hsub htl hnd2 hLe hSt hS hsz hag hcs h
    obtain rfl : rs = [] := List.eq_nil_of_length_eq_zero (by omega)
    obtain rfl : cs = [] := List.eq_nil_of_length_eq_zero (by omega)
    exact h (fun _ => 0) w hSt
  | succ n ih =>
    intro rs cs tb t w l hlen hnd hD hDs ho hsub htl hnd2 hLe hSt hS hsz hag hcs h
    have hready : Region.ready .any ops (lackA Lend (rs ++ cs.map (·.1))) = nextC rs (cs.map (·.1)) := by
      simp only [mixB, List.all_eq_true, beq_iff_eq, Bool.or_eq_true, List.isEmpty_iff] at hB
      rcases hB rs (mem_subs hsub) _ htl with h0 | h0
      · exfalso
        have := congrArg List.length h0
        simp only [List.length_append, List.length_map, List.length_nil] at this
        omega
      · exact h0
    have hset : ∀ i ∈ rs, (lackA Lend (rs ++ cs.map (·.1))).setIfInBounds i true = lackA Lend (rs.erase i ++ cs.map (·.1)) := fun i hi => by
      rw [lackA_set hnd2 (List.mem_append_left _ hi) (hLe i (List.mem_append_left _ hi)), List.erase_append_left _ hi]
    have halloc : ∀ i ∈ rs, wpOp P ops Q i (fun a' w' => (i ∉ ([] : List Nat) → Held srcs w → Held srcs w') ∧ wpAnyLast P .any ops Q (Held srcs) [] (fuel + n) ((lackA Lend (rs ++ cs.map (·.1))).setIfInBounds i true) a' w') ⟨t, df⟩ w := by
      intro i hi
      obtain ⟨ty, ps, af, hop⟩ := ho i hi
      refine AllReadyL.cons (rs := []) hop (List.not_mem_nil) (fun K hK => ?_) AllReadyL.nil i (List.mem_cons_self ..)
      obtain ⟨g0, w1, hrun, h1⟩ := alloc_run hSt hz (d := D i) (ty := ty) (ps := ps) (af := af) ⟨t, df⟩
      refine value_ rfl rfl hrun (hK.out _ _ (fun x hx => h1.blk (List.mem_cons_of_mem _ (hS x hx))) fun _ => ?_)
      rw [hset i hi]
      have hne : ∀ k ∈ rs.erase i, k ≠ i := fun k hk => (hnd.mem_erase_iff.1 hk).1
      refine ih (rs.erase i) cs tb _ w1 _ (by rw [List.length_erase_of_mem hi]; have := List.length_pos_of_mem hi; omega) (hnd.erase i) (fun a ha b hb => hD a (List.mem_of_mem_erase ha) b (List.mem_of_mem_erase hb)) (fun a ha => hDs a (List.mem_of_mem_erase ha)) (fun a ha => ho a (List.mem_of_mem_erase ha)) (List.erase_sublist.trans hsub) htl (by rw [← List.erase_append_left _ hi]; exact hnd2.erase i) (fun a ha => hLe a (by rw [← List.erase_append_left _ hi] at ha; exact List.mem_of_mem_erase ha)) h1 (fun x hx => List.mem_cons_of_mem _ (hS x hx)) (by simpa using hsz) (fun k hk => ?_) hcs fun g w' hw' => ?_
      · show (t.setIfInBounds (D i) _)[k]? = _
        rw [Array.getElem?_setIfInBounds, if_neg (fun e => hk (by rw [← e]; exact hDs i hi))]
        exact hag k hk
      have hperm : rs.Perm (i :: rs.erase i) := List.perm_cons_erase hi
      have hg : ∀ k ∈ rs.erase i, (if k = i then g0 else g k) = g k := fun k hk => if_neg (hne k hk)
      have h2 := h (fun k => if k = i then g0 else g k) w' (hw'.perm (by
        refine List.Perm.trans ?_ (List.Perm.append_right l (hperm.symm.map fun k => ((if k = i then g0 else g k), Obj.cells cs0 T (0, 0))))
        rw [List.map_cons, if_pos rfl]
        have e : (rs.erase i).map (fun k => ((if k = i then g0 else g k), Obj.cells cs0 T (0, 0))) = (rs.erase i).map fun k => (g k, Obj.cells cs0 T (0, 0)) := List.map_congr_left fun k hk => by rw [hg k hk]
        rw [e, List.cons_append]
        exact List.perm_middle))
      have h3 : putsA D (fun k => if k = i then g0 else g k) rs (putsC cs t) = putsA D g (rs.erase i) (putsC cs (t.setIfInBounds (D i) (.pointer (some ⟨g0, 0, none⟩)))) := by
        rw [putsC_set cs t (D i) _ fun c hc e => CallsAre.apart cs tb hcs c hc (by rw [e]; exact hDs i hi)]
        generalize putsC cs t = t
        unfold putsA
        rw [hperm.foldl_eq' (fun x hx y hy z => ?_) t]
        · rw [List.foldl_cons]
          show (rs.erase i).foldl _ (t.setIfInBounds (D i) (.pointer (some ⟨if i = i then g0 else g i, 0, none⟩))) = _
          rw [if_pos rfl]
          have : ∀ (m : List Nat), (∀ k ∈ m, k ∈ rs.erase i) → ∀ z : Array Value, m.foldl (fun t k => t.setIfInBounds (D k) (.pointer (some ⟨if k = i then g0 else g k, 0, none⟩))) z = m.foldl (fun t k => t.setIfInBounds (D k) (.pointer (some ⟨g k, 0, none⟩))) z := fun m => by
            induction m with
            | nil => intro _ z; rfl
            | cons k m ihm =>
              intro hm z
              rw [List.foldl_cons, List.foldl_cons, hg k (hm k (List.mem_cons_self ..))]
              exact ihm (fun a ha => hm a (List.mem_cons_of_mem _ ha)) _
          exact this _ (fun k hk => hk) _
        · by_cases e : x = y
          · rw [e]
          · exact Array.setIfInBounds_comm _ _ (hD x hx y hy e)
      rw [h3] at h2
      exact h2
    cases cs with
    | nil =>
      exact wpAnyLast_all hready (by show rs ≠ []; intro e; rw [e] at hlen; simp at hlen) (fun i hi => halloc i hi)
    | cons c cs' =>
      have hcn : c.1 ∉ rs := fun hm => (List.nodup_append.1 hnd2).2.2 c.1 hm c.1 (by simp) rfl
      have her : (rs ++ (c :: cs').map (·.1)).erase c.1 = rs ++ cs'.map (·.1) := by
        rw [List.erase_append_right _ hcn, List.map_cons, List.erase_cons_head]
      refine wpAnyLast_all hready (by rw [List.map_cons]; exact List.cons_ne_nil _ _) fun i hi => ?_
      rcases List.mem_cons.1 hi with rfl | hi
      · obtain ⟨⟨o, hop, hd, hdn, hst⟩, hrest⟩ := hcs
        refine StepE.wpOp hop (hst t w hag) fun u w' hu hb => ?_
        subst hu
        have h1 := hSt.ext hb
        refine ⟨fun _ _ x hx => h1.blk (hS x hx), ?_⟩
        rw [hd, lackA_set hnd2 (by simp) (hLe _ (by simp)), her]
        refine ih rs cs' (tb.setIfInBounds c.2.1 c.2.2) _ w' l (by simp only [List.length_cons] at hlen; omega) hnd hD hDs ho hsub (tailsN_tail htl) (by rw [← her]; exact hnd2.erase _) (fun a ha => hLe a (by rw [← her] at ha; exact List.mem_of_mem_erase ha)) h1 hS (by simpa using hsz) (fun k hk => ?_) hrest h
        show (t.setIfInBounds c.2.1 _)[k]? = _
        rw [Array.getElem?_setIfInBounds, Array.getElem?_setIfInBounds, hsz, hag k hk]
      · exact halloc i hi
end
end Go.Proofs.Ytoogkjkbdicffaa
