/- A region whose order is open, each operation by itself (XRel), in which some operations make new variables: these are apart from each other. -/
import Derived.Test.YtoogkjkbdicffaaRel
import Derived.Test.YtoogkjkbdicffaaSt
namespace Go.Proofs.Ytoogkjkbdicffaa
open Go.RowKit
section
variable {P : Program} {ops : Array Oper} {Q : Exit → Act → World → Prop} {S : World → Prop}
/-- What the operations A yielded are unlike values. -/
def ApartA (A : List Nat) (us : List Value) : Prop := ∀ j1 ∈ A, ∀ j2 ∈ A, j1 ≠ j2 → us.getD j1 undef ≠ us.getD j2 undef
/-- It is a new variable's address, the newest one. -/
def NewA (w : World) (u : Value) (w' : World) : Prop := u = .pointer (some ⟨w.heap.size, 0, none⟩) ∧ w.heap.size < w'.heap.size
theorem StepE.both {R : VR} {o : Oper} {a : Act} {w : World} (h : StepE P ops o a w R) : StepE P ops o a w (fun u w' => R u w' ∧ True) := by
  rcases h with ⟨hw, hy⟩ | ⟨hw, hr⟩
  · refine .inl ⟨hw, ?_⟩
    generalize (execOp a.eval o).run P w = r at hy
    cases r with
    | ok n w' =>
      cases n <;> simp only [YE] at hy ⊢
      case value u => exact ⟨⟨hy.1, trivial⟩, hy.2⟩
      case skip => exact ⟨⟨hy.1, trivial⟩, hy.2⟩
      case enter f args =>
        refine Calls.mono hy fun e w'' he => ?_
        cases e with
        | returned u => exact ⟨⟨he.1, trivial⟩, he.2⟩
        | panicked c => exact he.elim
        | outgrown => exact he.elim
      case row r args => exact Rows.mono hy fun u w'' he => ⟨⟨he.1, trivial⟩, he.2⟩
    | halt x w' => exact hy.elim
  · exact .inr ⟨hw, hr, trivial⟩
theorem StepE.new {R : VR} {T : TypeId} {cs : Array Value} (hz : ZeroT P T cs) {d : Tmp} {ty : TypeId} {ps : String} {af : Array Edge} {a : Act} {w : World} (h : StepE P ops ⟨some d, .alloc T, ty, ps, af, none⟩ a w R) :
    StepE P ops ⟨some d, .alloc T, ty, ps, af, none⟩ a w (fun u w' => R u w' ∧ NewA w u w') := by
  have hrun : (execOp a.eval ⟨some d, .alloc T, ty, ps, af, none⟩).run P w = .ok (.value (.pointer (some ⟨w.heap.size, 0, none⟩))) (w.alloc (.cells cs T (0, 0))) := by
    unfold ZeroT at hz
    cases hi : P.info? T with
    | none => simp [hi] at hz
    | some i =>
      simp only [hi, Option.bind_some, Option.map_eq_some_iff] at hz
      obtain ⟨v, hv, rfl⟩ := hz
      have hzv : ∀ w, (zeroValue T).run P w = .ok v w := fun w => by simp [zeroValue, typeInfo, hi, hv]
      simp only [execOp, Instr.alloc, Sem.run_bind, hzv, Result.andThen_ok, newVar]
      rfl
  rcases h with ⟨hw, hy⟩ | ⟨hw, hr⟩
  · refine .inl ⟨hw, ?_⟩
    rw [hrun] at hy ⊢
    exact ⟨⟨hy.1, rfl, by simp⟩, hy.2⟩
  · cases hw
/-- The operations one after the other, each by itself; then the rest, in order. -/
def RelLA (P : Program) (ops : Array Oper) (S : World → Prop) (A : List Nat) (ds : List Tmp) (t : Array Value) (df : List Deferred) (Q : Exit → Act → World → Prop) : Nat → List Oper → List VR → Prop
  | 0, l2, Rs => Lay ds t [] fun t us => ∀ w, S w → FactsA w Rs us → ApartA A us → wpList P ops Q l2 ⟨t, df⟩ w
  | _ + 1, [], _ => False
  | n + 1, o :: os, Rs => ∃ R, Stable R ∧ (Lay ds t [] fun t us => ∀ w, S w → FactsE Rs us w o.after.toList → StepE P ops o ⟨t, df⟩ w R) ∧ RelLA P ops S A ds t df Q n os (Rs ++ [R])

/-- What holds midway. -/
structure MidA (S : World → Prop) (A : List Nat) (ds : List Tmp) (t : Array Value) (df : List Deferred) (Rs : List VR) (listed : Array Bool) (a : Act) (w : World) : Prop where
  size : a.tmps.size = t.size
  defers : a.defers = df
  other : ∀ k, k ∉ ds → a.tmps[k]? = t[k]?
  holds : S w
  rel : ∀ (j : Nat) d R, ds[j]? = some d → listed.getD j false = true → Rs[j]? = some R → R (a.tmps.getD d undef) w
  ptr : ∀ j ∈ A, ∀ d, ds[j]? = some d → listed.getD j false = true → ∃ g, a.tmps.getD d undef = .pointer (some ⟨g, 0, none⟩) ∧ g < w.heap.size
  apart : ∀ j1 ∈ A, ∀ j2 ∈ A, ∀ d1 d2, ds[j1]? = some d1 → ds[j2]? = some d2 → j1 ≠ j2 → listed.getD j1 false = true → listed.getD j2 false = true → a.tmps.getD d1 undef ≠ a.tmps.getD d2 undef

theorem wpAny_relA {A : List Nat} {T : TypeId} {cs : Array Value} (hz : ZeroT P T cs) {B : List Nat} (hB : edgesOk ops B = true) {ds : List Tmp} {t : Array Value} {df : List Deferred} {Rs : List VR} {l2 : List Oper}
    (hAl : ∀ i ∈ A, i < ds.length ∧ ∀ o, ops[i]? = some o → ∃ d ty ps af, o = ⟨some d, .alloc T, ty, ps, af, none⟩)
    (hbind : ∀ (j : Nat) o, j < ds.length → ops[j]? = some o → ∀ e ∈ o.after, Region.binds .any e = true) (hds : dstIs ops ds) (hnd : ds.Nodup) (hdt : ∀ d ∈ ds, d < t.size) (hSS : ∀ w w', S w → Below w.heap.size w w' → S w') (hRS : ∀ R ∈ Rs, Stable R) (hn : Rs.length = ds.length)
    (hcut : cutFrom ops B ds.length = true) (hlen : ds.length + l2.length = ops.size) (hl : ∀ j, l2[j]? = ops[ds.length + j]?)
    (hstep : ∀ (i : Nat) o R, i < ds.length → ops[i]? = some o → Rs[i]? = some R → Lay ds t [] fun t us => ∀ w, S w → FactsE (Rs.take i) us w o.after.toList → StepE P ops o ⟨t, df⟩ w R)
    (hend : Lay ds t [] fun t us => ∀ w, S w → FactsA w Rs us → ApartA A us → wpList P ops Q l2 ⟨t, df⟩ w) :
    ∀ (fuel : Nat) (R1 : List Nat) (listed : Array Bool) (a : Act) (w : World), listed.size = ops.size → ClosedL ops listed → unlisted listed = R1 ++ List.range' ds.length l2.length → (∀ i ∈ R1, i < ds.length) →
      (unlisted listed).length ≤ fuel → MidA S A ds t df Rs listed a w → wpAny P .any ops Q fuel listed a w := by
  have finish : ∀ (fuel : Nat) (listed : Array Bool) (a : Act) (w : World), listed.size = ops.size → ClosedL ops listed → unlisted listed = List.range' ds.length l2.length →
      (unlisted listed).length ≤ fuel → MidA S A ds t df Rs listed a w → wpAny P .any ops Q fuel listed a w := by
    intro fuel listed a w hsz hc hu hf hM
    refine wpAny_chain hB l2 ds.length fuel listed a w hl hcut hlen hsz hc hu (by rw [hu] at hf; simpa using hf) ?_
    have := Lay_inst ds t a.tmps [] hend hM.size hM.other hdt w hM.holds (FactsA_of _ _ fun j R u hR hu' => by
      simp only [List.nil_append, List.getElem?_map, Option.map_eq_some_iff] at hu'
      obtain ⟨d, hd, rfl⟩ := hu'
      refine hM.rel j d R hd ?_ hR
      have hj : j < ds.length := (List.getElem?_eq_some_iff.1 hd).1
      have hjs : j < listed.size := by omega
      by_cases hq : listed.getD j true = true
      · simp only [Array.getD_eq_getD_getElem?, Array.getElem?_eq_getElem hjs, Option.getD_some] at hq ⊢
        exact hq
      · exfalso
        have : j ∈ unlisted listed := List.mem_filter.2 ⟨List.mem_range.2 (by omega), by simpa using hq⟩
        rw [hu] at this
        have := (List.mem_range'_1.1 this).1
        omega) (fun j1 h1 j2 h2 hne => by
      have key : ∀ j ∈ A, ∃ d, ds[j]? = some d ∧ listed.getD j false = true ∧ (([] : List Value) ++ ds.map fun d => a.tmps.getD d undef).getD j undef = a.tmps.getD d undef := fun j hj => by
        have hjl := (hAl j hj).1
        refine ⟨ds[j], List.getElem?_eq_getElem hjl, ?_, ?_⟩
        · have hjs : j < listed.size := by omega
          by_cases hq : listed.getD j true = true
          · simp only [Array.getD_eq_getD_getElem?, Array.getElem?_eq_getElem hjs, Option.getD_some] at hq ⊢
            exact hq
          · exfalso
            have : j ∈ unlisted listed := List.mem_filter.2 ⟨List.mem_range.2 (by omega), by simpa using hq⟩
            rw [hu] at this
            have := (List.mem_range'_1.1 this).1
            omega
        · simp [List.getD_eq_getElem?_getD, List.getElem?_map, List.getElem?_eq_getElem hjl]
      obtain ⟨d1, k1, k2, k3⟩ := key j1 h1
      obtain ⟨d2, m1, m2, m3⟩ := key j2 h2
      rw [k3, m3]
      exact hM.apart j1 h1 j2 h2 d1 d2 k1 m1 hne k2 m2)
    obtain ⟨tm, dfr⟩ := a
    obtain rfl : dfr = df := hM.defers
    exact this
  intro fuel
  induction fuel with
  | zero =>
    intro R1 listed a w hsz hc hu hR1 hf hM
    have h0 : unlisted listed = [] := List.eq_nil_of_length_eq_zero (by omega)
    rw [h0] at hu
    have hu2 := List.append_eq_nil_iff.1 hu.symm
    exact finish 0 listed a w hsz hc (by rw [h0, hu2.2]) hf hM
  | succ f ih =>
    intro R1 listed a w hsz hc hu hR1 hf hM
    cases hRc : R1 with
    | nil => subst hRc; exact finish (f + 1) listed a w hsz hc (by simpa using hu) hf hM
    | cons r R1' =>
      have hrm : r ∈ unlisted listed := by rw [hu, hRc]; simp
      have hrlt : r < ds.length := hR1 r (by rw [hRc]; simp)
      have hro : ops[r]? = some ops[r] := Array.getElem?_eq_getElem (by omega)
      have hsort := sorted_unlisted listed
      have hready : r ∈ Region.ready .any ops listed := mem_ready'.2 ⟨by omega, by simpa using (List.mem_filter.1 hrm).2, _, hro, fun e he hb => by
        have he' := (edges_spec hB hro).1 e he hb
        by_cases hq : listed.getD e.on true = true
        · have : e.on < listed.size := by omega
          simp only [Array.getD_eq_getD_getElem?, Array.getElem?_eq_getElem this, Option.getD_some] at hq ⊢
          exact hq
        · exfalso
          have hm : e.on ∈ unlisted listed := List.mem_filter.2 ⟨List.mem_range.2 (by omega), by simpa using hq⟩
          rw [hu, hRc] at hm hsort
          simp only [List.cons_append] at hm hsort
          rcases List.mem_cons.1 hm with hm | hm
          · omega
          · have := (List.pairwise_cons.1 hsort).1 _ hm
            omega⟩
      refine ⟨fun hr => (by rw [hr] at hready; cases hready), fun i hi => ?_⟩
      obtain ⟨hlt, hun, o, ho, hdep⟩ := mem_ready'.1 hi
      have hilt : i < ds.length := by
        by_cases hq : i < ds.length
        · exact hq
        · exfalso
          have hb := cutAt_spec (cutFrom_spec hcut (Nat.le_refl _) (by omega)) hlt (by omega : ds.length ≤ i) hrlt
          have hl := bits_listed hB hc (i + 1) i o (by omega) ho hdep r (by omega) hb
          have := (List.mem_filter.1 hrm).2
          rw [getD_tf hl] at this
          cases this
      have hm : i ∈ R1 := by
        have : i ∈ unlisted listed := List.mem_filter.2 ⟨List.mem_range.2 (by omega), by simpa using hun⟩
        rw [hu] at this
        rcases List.mem_append.1 this with h | h
        · exact h
        · have := (List.mem_range'_1.1 h).1
          omega
      obtain ⟨Ra, Rb, hab⟩ := List.append_of_mem hm
      have hnew : unlisted (listed.setIfInBounds i true) = (Ra ++ Rb) ++ List.range' ds.length l2.length := by
        have := unlisted_set (R1 := Ra) (R2 := Rb ++ List.range' ds.length l2.length) (listed := listed) (i := i) (by omega) (by rw [hu, hab]; simp)
        rw [this, List.append_assoc]
      have hRi : Rs[i]? = some Rs[i] := List.getElem?_eq_getElem (by omega)
      have hdi : ds[i]? = some ds[i] := List.getElem?_eq_getElem hilt
      obtain ⟨o', ho', hdst⟩ := hds i _ hdi
      obtain rfl : o = o' := by rw [ho] at ho'; exact Option.some.inj ho'
      have hst := Lay_inst ds t a.tmps [] (hstep i o _ hilt ho hRi) hM.size hM.other hdt w hM.holds (FactsE_of _ fun e he R u hR hu' => by
        have hb := hbind i o hilt ho e (Array.mem_toList_iff.1 he)
        simp only [List.nil_append, List.getElem?_map, Option.map_eq_some_iff] at hu'
        obtain ⟨d, hd, rfl⟩ := hu'
        have hlt' := (edges_spec hB ho).1 e (Array.mem_toList_iff.1 he) hb
        rw [List.getElem?_take_of_lt hlt'] at hR
        exact hM.rel e.on d R hd (hdep e (Array.mem_toList_iff.1 he) hb) hR)
      have hst' : StepE P ops o a w Rs[i] := by
        obtain ⟨tm, dfr⟩ := a
        obtain rfl : dfr = df := hM.defers
        exact hst
      have hst2 : StepE P ops o a w (fun u w' => Rs[i] u w' ∧ (i ∈ A → NewA w u w')) := by
        by_cases hiA : i ∈ A
        · obtain ⟨d, ty, ps, af, rfl⟩ := (hAl i hiA).2 o ho
          rcases hst'.new hz with ⟨hw, hy⟩ | ⟨hw, hr⟩
          · refine .inl ⟨hw, ?_⟩
            have := hy
            generalize (execOp a.eval ⟨some d, .alloc T, ty, ps, af, none⟩).run P w = r at this
            cases r with
            | ok n w' =>
              cases n <;> simp only [YE] at this ⊢
              case value u => exact ⟨⟨this.1.1, fun _ => this.1.2⟩, this.2⟩
              case skip => exact ⟨⟨this.1.1, fun _ => this.1.2⟩, this.2⟩
              case enter f args =>
                refine Calls.mono this fun e w'' he => ?_
                cases e with
                | returned u => exact ⟨⟨he.1.1, fun _ => he.1.2⟩, he.2⟩
                | panicked c => exact he.elim
                | outgrown => exact he.elim
              case row r args => exact Rows.mono this fun u w'' he => ⟨⟨he.1.1, fun _ => he.1.2⟩, he.2⟩
            | halt x w' => exact this.elim
          · cases hw
        · have e : (fun (u : Value) (w' : World) => Rs[i] u w' ∧ (i ∈ A → NewA w u w')) = (fun u w' => Rs[i] u w' ∧ True) := by
            funext u w'
            simp [hiA]
          rw [e]
          exact hst'.both
      refine hst2.wpOp ho fun u w' hRN hb => ?_
      obtain ⟨hR, hNew⟩ := hRN
      refine ih (Ra ++ Rb) _ _ w' (by simp [hsz]) (closed_set (by omega) hc ho hdep) hnew (fun k hk => hR1 k (by rw [hab]; simp at hk ⊢; rcases hk with h | h <;> simp [h])) (by rw [hnew]; rw [hu, hab] at hf; simp at hf ⊢; omega) ?_
      have hput : (a.put o.dst u).tmps = a.tmps.setIfInBounds ds[i] u := by rw [hdst]; rfl
      have hdis : ds[i] < t.size := hdt _ (List.getElem_mem _)
      refine ⟨by rw [hput]; simp [hM.size], by rw [hdst]; exact hM.defers, fun k hk => ?_, hSS w w' hM.holds hb, fun j d R hd hlj hRj => ?_, fun j hj d hd hlj => ?_, fun j1 hj1 j2 hj2 d1 d2 hd1 hd2 hne hl1 hl2 => ?_⟩
      · rw [hput, Array.getElem?_setIfInBounds, if_neg (fun e => hk (by rw [← e]; exact List.getElem_mem _))]
        exact hM.other k hk
      · rw [hput]
        by_cases hji : j = i
        · subst hji
          rw [hdi] at hd
          rw [hRi] at hRj
          obtain rfl := Option.some.inj hd
          obtain rfl := Option.some.inj hRj
          simp only [Array.getD_eq_getD_getElem?, Array.getElem?_setIfInBounds, if_true, hM.size, hdis, Option.getD_some]
          exact hR
        · have hne : ds[i] ≠ d := fun e => hji (by
            have hjl : j < ds.length := (List.getElem?_eq_some_iff.1 hd).1
            have hdj : ds[j] = d := (List.getElem?_eq_some_iff.1 hd).2
            exact (List.getElem_inj hnd).1 (hdj.trans e.symm))
          have e2 : (a.tmps.setIfInBounds ds[i] u).getD d undef = a.tmps.getD d undef := by
            simp only [Array.getD_eq_getD_getElem?, Array.getElem?_setIfInBounds, if_neg hne]
          rw [e2]
          refine hRS R (List.mem_of_getElem? hRj) _ w w' (hM.rel j d R hd ?_ hRj) hb
          have hjn : ¬ i = j := fun e => hji e.symm
          simpa only [Array.getD_eq_getD_getElem?, Array.getElem?_setIfInBounds, if_neg hjn] using hlj
      · rw [hput]
        by_cases hji : j = i
        · subst hji
          rw [hdi] at hd
          obtain rfl := Option.some.inj hd
          obtain ⟨n1, n2⟩ := hNew hj
          refine ⟨w.heap.size, ?_, n2⟩
          simp only [Array.getD_eq_getD_getElem?, Array.getElem?_setIfInBounds, if_true, hM.size, hdis, Option.getD_some]
          exact n1
        · have hne : ds[i] ≠ d := fun e => hji (by
            have hjl : j < ds.length := (List.getElem?_eq_some_iff.1 hd).1
            have hdj : ds[j] = d := (List.getElem?_eq_some_iff.1 hd).2
            exact (List.getElem_inj hnd).1 (hdj.trans e.symm))
          have e2 : (a.tmps.setIfInBounds ds[i] u).getD d undef = a.tmps.getD d undef := by
            simp only [Array.getD_eq_getD_getElem?, Array.getElem?_setIfInBounds, if_neg hne]
          rw [e2]
          have hjn : ¬ i = j := fun e => hji e.symm
          obtain ⟨g, h1, h2⟩ := hM.ptr j hj d hd (by simpa only [Array.getD_eq_getD_getElem?, Array.getElem?_setIfInBounds, if_neg hjn] using hlj)
          exact ⟨g, h1, Nat.lt_of_lt_of_le h2 hb.size⟩
      · rw [hput]
        have at_i : ∀ d, ds[i]? = some d → (a.tmps.setIfInBounds ds[i] u).getD d undef = u := fun d hd => by
          rw [hdi] at hd
          obtain rfl := Option.some.inj hd
          simp only [Array.getD_eq_getD_getElem?, Array.getElem?_setIfInBounds, if_true, hM.size, hdis, Option.getD_some]
        have at_j : ∀ j d, ds[j]? = some d → j ≠ i → (a.tmps.setIfInBounds ds[i] u).getD d undef = a.tmps.getD d undef := fun j d hd hji => by
          have hne : ds[i] ≠ d := fun e => hji (by
            have hjl : j < ds.length := (List.getElem?_eq_some_iff.1 hd).1
            have hdj : ds[j] = d := (List.getElem?_eq_some_iff.1 hd).2
            exact (List.getElem_inj hnd).1 (hdj.trans e.symm))
          simp only [Array.getD_eq_getD_getElem?, Array.getElem?_setIfInBounds, if_neg hne]
        have ls : ∀ j, j ≠ i → (listed.setIfInBounds i true).getD j false = true → listed.getD j false = true := fun j hji h => by
          have hjn : ¬ i = j := fun e => hji e.symm
          simpa only [Array.getD_eq_getD_getElem?, Array.getElem?_setIfInBounds, if_neg hjn] using h
        by_cases h1i : j1 = i
        · subst h1i
          have h2i : j2 ≠ j1 := fun e => hne e.symm
          rw [at_i d1 hd1, at_j j2 d2 hd2 h2i]
          obtain ⟨g, k1, k2⟩ := hM.ptr j2 hj2 d2 hd2 (ls j2 h2i hl2)
          obtain ⟨n1, n2⟩ := hNew hj1
          rw [n1, k1]
          intro e
          injection e with e
          injection e with e
          injection e with e
          omega
        · by_cases h2i : j2 = i
          · subst h2i
            rw [at_j j1 d1 hd1 h1i, at_i d2 hd2]
            obtain ⟨g, k1, k2⟩ := hM.ptr j1 hj1 d1 hd1 (ls j1 h1i hl1)
            obtain ⟨n1, n2⟩ := hNew hj2
            rw [n1, k1]
            intro e
            injection e with e
            injection e with e
            injection e with e
            omega
          · rw [at_j j1 d1 hd1 h1i, at_j j2 d2 hd2 h2i]
            exact hM.apart j1 hj1 j2 hj2 d1 d2 hd1 hd2 hne (ls j1 h1i hl1) (ls j2 h2i hl2)

theorem RelLA_split {A : List Nat} {ds : List Tmp} {t : Array Value} {df : List Deferred} : ∀ (n : Nat) (l : List Oper) (Rs : List VR), RelLA P ops S A ds t df Q n l Rs →
    ∃ Rs' : List VR, Rs'.length = n ∧ (∀ R ∈ Rs', Stable R) ∧ n ≤ l.length ∧
      (∀ (i : Nat) o R, i < n → l[i]? = some o → Rs'[i]? = some R → Lay ds t [] fun t us => ∀ w, S w → FactsE (Rs ++ Rs'.take i) us w o.after.toList → StepE P ops o ⟨t, df⟩ w R) ∧
      (Lay ds t [] fun t us => ∀ w, S w → FactsA w (Rs ++ Rs') us → ApartA A us → wpList P ops Q (l.drop n) ⟨t, df⟩ w)
  | 0, l, Rs, h => ⟨[], rfl, by simp, Nat.zero_le _, fun i o R hi => by omega, by simpa [RelLA] using h⟩
  | n + 1, [], Rs, h => h.elim
  | n + 1, o :: os, Rs, ⟨R, h1, h2, h3⟩ => by
    obtain ⟨Rs', e1, e2, e3, e4, e5⟩ := RelLA_split n os _ h3
    refine ⟨R :: Rs', by simp [e1], by simpa [h1] using e2, by simpa using e3, ?_, by simpa using e5⟩
    intro i o' R' hi ho hR
    cases i with
    | zero =>
      simp at ho hR
      subst ho hR
      simpa using h2
    | succ i =>
      have := e4 i o' R' (by omega) (by simpa using ho) (by simpa using hR)
      simpa using this

/-- THE LAW. ds: the places of the operations that are each taken by itself. -/
theorem wp_region_relA (S : World → Prop) (A : List Nat) (T : TypeId) {cs : Array Value} (hz : ZeroT P T cs) (ds : List Tmp) {id : Nat} {l : List Oper} {t : Array Value} {df : List Deferred} {w : World} (hm : P.follows .mixedOrders = true)
    (hB : ((edgesOk l.toArray (bitsOf l.toArray) && cutFrom l.toArray (bitsOf l.toArray) ds.length) && (l.take ds.length).all (fun o => o.after.all (Region.binds .any))) = true)
    (hds : ((l.take ds.length).map (·.dst) == ds.map some) = true) (hnd : ds.Nodup) (hdt : ds.all (· < t.size) = true) (hAl : ∀ i ∈ A, i < ds.length ∧ ∀ o, l[i]? = some o → ∃ d ty ps af, o = ⟨some d, .alloc T, ty, ps, af, none⟩) (hSS : ∀ w w', S w → Below w.heap.size w w' → S w') (hS : S w.drew)
    (h : RelLA P l.toArray S A ds t df Q ds.length l []) : (Code.region id l.toArray true).wp P Q ⟨t, df⟩ w := by
  rw [Bool.and_eq_true, Bool.and_eq_true] at hB
  obtain ⟨⟨hB, hcut⟩, hbn⟩ := hB
  obtain ⟨Rs, e1, e2, e3, e4, e5⟩ := RelLA_split _ _ _ h
  have hds := eq_of_beq hds
  refine wp_region_any hm ?_
  have hu : unlisted (Array.replicate l.toArray.size false) = List.range' 0 l.length := by
    unfold unlisted
    rw [List.filter_eq_self.2 (fun i hi => by simp at hi; simp [hi]), List.range_eq_range']
    simp
  have hlen : (l.drop ds.length).length = l.length - ds.length := List.length_drop
  refine wpAny_relA (A := A) (T := T) hz (S := S) (t := t) (df := df) (Rs := Rs) (ds := ds) (l2 := l.drop ds.length) hB (fun i hi => ⟨(hAl i hi).1, fun o ho => (hAl i hi).2 o (by simpa using ho)⟩) (fun j o hjl hj e he => by
    have hm : o ∈ l.take ds.length := List.mem_of_getElem? (i := j) (by rw [List.getElem?_take_of_lt hjl]; simpa using hj)
    exact Array.all_eq_true'.1 ((List.all_eq_true.1 hbn) o hm) e he) ?_ hnd (fun d hd => by simpa using (List.all_eq_true.1 hdt) d hd) hSS e2 e1 hcut (by rw [hlen]; simp; omega) (fun j => by simp) ?_ (by simpa using e5) _ (List.range' 0 ds.length) _ _ _
    (by simp) ?_ ?_ (fun i hi => by have := (List.mem_range'_1.1 hi).2; omega) (by rw [hu]; simp) ⟨rfl, rfl, fun _ _ => rfl, hS, fun j d R _ hl _ => ?_, fun j _ d _ hl => ?_, fun j _ _ _ d _ _ _ _ hl _ => ?_⟩
  · intro j d hd
    have hj : j < ds.length := (List.getElem?_eq_some_iff.1 hd).1
    have h2 : ((l.take ds.length).map (·.dst))[j]? = some (some d) := by rw [hds, List.getElem?_map, hd]; rfl
    rw [List.getElem?_map, List.getElem?_take_of_lt hj] at h2
    obtain ⟨o, ho, hod⟩ := Option.map_eq_some_iff.1 h2
    exact ⟨o, by simpa using ho, hod⟩
  · intro i o R hi ho hR
    have := e4 i o R hi (by simpa using ho) hR
    simpa using this
  · intro j o hj hl
    exfalso
    have : j < l.length := by simpa using (Array.getElem?_eq_some_iff.1 hj).1
    simp [Array.getD_eq_getD_getElem?, this] at hl
  · rw [hu, hlen, show l.length = ds.length + (l.length - ds.length) from by omega, ← List.range'_append_1]
    simp
  · exfalso
    by_cases hq : j < l.length
    · simp [Array.getD_eq_getD_getElem?, hq] at hl
    · simp [Array.getD_eq_getD_getElem?, hq] at hl
  · exfalso
    by_cases hq : j < l.length
    · simp [Array.getD_eq_getD_getElem?, hq] at hl
    · simp [Array.getD_eq_getD_getElem?, hq] at hl
  · exfalso
    by_cases hq : j < l.length
    · simp [Array.getD_eq_getD_getElem?, hq] at hl
    · simp [Array.getD_eq_getD_getElem?, hq] at hl


section
variable {A : List Nat} {ds : List Tmp} {t : Array Value} {df : List Deferred} {n : Nat} {o : Oper} {os : List Oper} {Rs : List VR}
theorem rel_anyA (R : VR) (hst : Stable R) (hs : Lay ds t [] fun t us => ∀ w, S w → FactsE Rs us w o.after.toList → StepE P ops o ⟨t, df⟩ w R) (hn : RelLA P ops S A ds t df Q n os (Rs ++ [R])) :
    RelLA P ops S A ds t df Q (n + 1) (o :: os) Rs := ⟨R, hst, hs, hn⟩
theorem rel_eqA {v : Value} (hs : Lay ds t [] fun t us => ∀ w, S w → FactsE Rs us w o.after.toList → StepE P ops o ⟨t, df⟩ w (fun u _ => u = v)) (hn : RelLA P ops S A ds t df Q n os (Rs ++ [fun u _ => u = v])) :
    RelLA P ops S A ds t df Q (n + 1) (o :: os) Rs := ⟨_, stable_eq v, hs, hn⟩
theorem rel_endA {l2 : List Oper} (h : Lay ds t [] fun t us => ∀ w, S w → FactsA w Rs us → ApartA A us → wpList P ops Q l2 ⟨t, df⟩ w) : RelLA P ops S A ds t df Q 0 l2 Rs := h
end
end
end Go.Proofs.Ytoogkjkbdicffaa
