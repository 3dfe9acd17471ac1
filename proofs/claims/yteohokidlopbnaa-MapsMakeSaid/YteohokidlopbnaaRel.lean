/- A region whose order is open, each operation by itself: it yields what a relation R says, in any world that meets S and in which what it waits for directly has yielded what its relation says. What it does to the world but adds to it. The operations at the end, each of which waits for all before, are walked in order. -/
import Derived.Test.YteohokidlopbnaaSeq
namespace Go.Proofs.Yteohokidlopbnaa
open Go.RowKit
abbrev VR := Value → World → Prop

def cutAt (ops : Array Oper) (B : List Nat) (k : Nat) : Bool := (List.range ops.size).all fun j => decide (j < k) || (List.range k).all fun i => (B.getD j 0).testBit i
def cutFrom (ops : Array Oper) (B : List Nat) (c : Nat) : Bool := (List.range (ops.size + 1)).all fun m => decide (m < c) || cutAt ops B m

theorem cutAt_spec {ops : Array Oper} {B : List Nat} {k : Nat} (h : cutAt ops B k = true) {j i : Nat} (hj : j < ops.size) (hkj : k ≤ j) (hi : i < k) : (B.getD j 0).testBit i = true := by
  unfold cutAt at h
  have := (List.all_eq_true.1 h) j (List.mem_range.2 hj)
  simp only [Bool.or_eq_true, decide_eq_true_eq, List.all_eq_true, List.mem_range] at this
  rcases this with h1 | h1
  · omega
  · exact h1 i hi
theorem cutFrom_spec {ops : Array Oper} {B : List Nat} {c m : Nat} (h : cutFrom ops B c = true) (hm : c ≤ m) (hs : m ≤ ops.size) : cutAt ops B m = true := by
  unfold cutFrom at h
  have := (List.all_eq_true.1 h) m (List.mem_range.2 (by omega))
  simp only [Bool.or_eq_true, decide_eq_true_eq] at this
  rcases this with h1 | h1
  · omega
  · exact h1

section
variable {P : Program} {ops : Array Oper} {Q : Exit → Act → World → Prop} {S : World → Prop}

def YE (P : Program) (R : VR) (w : World) : Result Next → Prop
  | .ok (.value u) w' => R u w' ∧ Below w.heap.size w w'
  | .ok .skip w' => R undef w' ∧ Below w.heap.size w w'
  | .ok (.enter f args) w' => Calls P f args w' fun
      | .returned u, w'' => R u w'' ∧ Below w.heap.size w w''
      | _, _ => False
  | .ok (.row r args) w' => Rows P r args w' fun u w'' => R u w'' ∧ Below w.heap.size w w''
  | _ => False

def StepE (P : Program) (ops : Array Oper) (o : Oper) (a : Act) (w : World) (R : VR) : Prop :=
  (Region.wanted o (yielded ops a.tmps) = true ∧ YE P R w ((execOp a.eval o).run P w)) ∨ (Region.wanted o (yielded ops a.tmps) = false ∧ R undef w)

theorem YE.upon {R : VR} {o : Oper} {a : Act} {w : World} {r : Result Next} {K : Act → World → Prop} (h : YE P R w r)
    (hK : ∀ u w', R u w' → Below w.heap.size w w' → K (a.put o.dst u) w') : o.upon P a K Q r := by
  cases r with
  | ok n w' =>
    cases n <;> simp only [YE] at h
    case value u => exact hK _ _ h.1 h.2
    case skip => exact hK _ _ h.1 h.2
    case enter f args =>
      refine Calls.mono h fun e w'' he => ?_
      cases e with
      | returned u => exact hK _ _ he.1 he.2
      | panicked c => exact he.elim
      | outgrown => exact he.elim
    case row r args => exact Rows.mono h fun u w'' he => hK _ _ he.1 he.2
  | halt x w' => exact h.elim

theorem StepE.wpOp {R : VR} {i : Nat} {o : Oper} {a : Act} {w : World} (hi : ops[i]? = some o) (h : StepE P ops o a w R) {K : Act → World → Prop}
    (hK : ∀ u w', R u w' → Below w.heap.size w w' → K (a.put o.dst u) w') : wpOp P ops Q i K a w := by
  unfold Go.wpOp
  simp only [hi]
  rcases h with ⟨hw, hy⟩ | ⟨hw, hr⟩
  · simp only [hw, if_true]; exact .inl (hy.upon hK)
  · simp only [hw, Bool.false_eq_true, if_false]; exact hK _ _ hr (Below.refl _ _)

/-- For any values at the places ds. -/
def Lay : List Tmp → Array Value → List Value → (Array Value → List Value → Prop) → Prop
  | [], t, us, K => K t us
  | d :: ds, t, us, K => ∀ u, Lay ds (t.setIfInBounds d u) (us ++ [u]) K

/-- What an operation waits for has yielded what its relation says. -/
def FactsE (Rs : List VR) (us : List Value) (w : World) : List Edge → Prop
  | [] => True
  | e :: es => (match Rs[e.on]?, us[e.on]? with | some R, some u => R u w | _, _ => True) ∧ FactsE Rs us w es

theorem FactsE_of {Rs : List VR} {us : List Value} {w : World} : ∀ (es : List Edge), (∀ e ∈ es, ∀ R u, Rs[e.on]? = some R → us[e.on]? = some u → R u w) → FactsE Rs us w es
  | [], _ => trivial
  | e :: es, h => ⟨by
      split
      · rename_i R u h1 h2; exact h e (List.mem_cons_self ..) R u h1 h2
      · trivial, FactsE_of es fun e' he' => h e' (List.mem_cons_of_mem _ he')⟩

def FactsA (w : World) : List VR → List Value → Prop
  | R :: Rs, u :: us => R u w ∧ FactsA w Rs us
  | _, _ => True

theorem FactsA_of {w : World} : ∀ (Rs : List VR) (us : List Value), (∀ (j : Nat) R u, Rs[j]? = some R → us[j]? = some u → R u w) → FactsA w Rs us
  | [], _, _ => by simp [FactsA]
  | _ :: _, [], _ => by simp [FactsA]
  | R :: Rs, u :: us, h => ⟨h 0 R u rfl rfl, FactsA_of Rs us fun j R' u' h1 h2 => h (j + 1) R' u' (by simpa using h1) (by simpa using h2)⟩

def Stable (R : VR) : Prop := ∀ u w w', R u w → Below w.heap.size w w' → R u w'
theorem stable_eq (v : Value) : Stable (fun u _ => u = v) := fun _ _ _ h _ => h

/-- The operations one after the other, each by itself; then the rest, in order. -/
def RelL (P : Program) (ops : Array Oper) (S : World → Prop) (ds : List Tmp) (t : Array Value) (df : List Deferred) (Q : Exit → Act → World → Prop) : Nat → List Oper → List VR → Prop
  | 0, l2, Rs => Lay ds t [] fun t us => ∀ w, S w → FactsA w Rs us → wpList P ops Q l2 ⟨t, df⟩ w
  | _ + 1, [], _ => False
  | n + 1, o :: os, Rs => ∃ R, Stable R ∧ (Lay ds t [] fun t us => ∀ w, S w → FactsE Rs us w o.after.toList → StepE P ops o ⟨t, df⟩ w R) ∧ RelL P ops S ds t df Q n os (Rs ++ [R])

/-- The values at the places ds, behind any puts there. -/
theorem Lay_inst {K : Array Value → List Value → Prop} : ∀ (ds : List Tmp) (t t' : Array Value) (us : List Value), Lay ds t us K → t'.size = t.size →
    (∀ k, k ∉ ds → t'[k]? = t[k]?) → (∀ d ∈ ds, d < t.size) → K t' (us ++ ds.map fun d => t'.getD d undef)
  | [], t, t', us, h, hs, ho, _ => by
    have : t' = t := Array.ext_getElem? fun k => ho k (by simp)
    subst this
    simpa [Lay] using h
  | d :: ds, t, t', us, h, hs, ho, hd => by
    have hdt := hd d (List.mem_cons_self ..)
    have := Lay_inst ds (t.setIfInBounds d (t'.getD d undef)) t' (us ++ [t'.getD d undef]) (h _) (by simp [hs]) (fun k hk => by
      rw [Array.getElem?_setIfInBounds]
      by_cases hkd : d = k
      · subst hkd
        have hdt' : d < t'.size := Nat.lt_of_lt_of_eq hdt hs.symm
        rw [if_pos rfl, if_pos hdt, Array.getD_eq_getD_getElem?, Array.getElem?_eq_getElem hdt', Option.getD_some]
      · rw [if_neg hkd]
        exact ho k (fun hm => (List.mem_cons.1 hm).elim (fun e => hkd (Eq.symm e)) hk)) (fun d' hd' => by simpa using hd d' (List.mem_cons_of_mem _ hd'))
    simpa using this

/-- The chain at the end. -/
theorem wpAny_chain {B : List Nat} (hB : edgesOk ops B = true) : ∀ (l2 : List Oper) (k : Nat) (fuel : Nat) (listed : Array Bool) (a : Act) (w : World),
    (∀ j, l2[j]? = ops[k + j]?) → cutFrom ops B k = true → k + l2.length = ops.size → listed.size = ops.size → ClosedL ops listed → unlisted listed = List.range' k l2.length → l2.length ≤ fuel →
      wpList P ops Q l2 a w → wpAny P .any ops Q fuel listed a w
  | [], k, fuel, listed, a, w, _, _, _, hsz, hc, hu, _, h => by
    have hr : Region.ready .any ops listed = [] := by
      refine List.eq_nil_iff_forall_not_mem.2 fun i hi => ?_
      obtain ⟨hlt, hun, -⟩ := mem_ready'.1 hi
      have : i ∈ unlisted listed := List.mem_filter.2 ⟨List.mem_range.2 (by omega), by simpa using hun⟩
      rw [hu] at this
      cases this
    cases fuel with
    | zero => exact ⟨hr, h⟩
    | succ f => exact ⟨fun _ => h, fun i hi => by rw [hr] at hi; cases hi⟩
  | o :: l2, k, fuel, listed, a, w, hl, hcut, hlen, hsz, hc, hu, hf, h => by
    obtain ⟨f, rfl⟩ : ∃ f, fuel = f + 1 := ⟨fuel - 1, by simp at hf; omega⟩
    have hk : ops[k]? = some o := by simpa using (hl 0).symm
    simp only [List.length_cons] at hlen hu hf
    have hall : ∀ i, i < k → listed.getD i true = true := fun i hi => by
      by_cases hq : listed.getD i true = true
      · exact hq
      · exfalso
        have : i ∈ unlisted listed := List.mem_filter.2 ⟨List.mem_range.2 (by omega), by simpa using hq⟩
        rw [hu] at this
        have := (List.mem_range'_1.1 this).1
        omega
    have hkr : k ∈ Region.ready .any ops listed := mem_ready'.2 ⟨by omega, by
      have : k ∈ unlisted listed := by rw [hu]; exact List.mem_range'_1.2 ⟨Nat.le_refl _, by omega⟩
      simpa using (List.mem_filter.1 this).2, o, hk, fun e he hb => by
      have hlt := (edges_spec hB hk).1 e he hb
      have := hall e.on hlt
      have hsz' : e.on < listed.size := by omega
      simp only [Array.getD_eq_getD_getElem?, Array.getElem?_eq_getElem hsz', Option.getD_some] at this ⊢
      exact this⟩
    refine ⟨fun hr => (by rw [hr] at hkr; cases hkr), fun i hi => ?_⟩
    obtain ⟨hlt, hun, oi, hoi, hdep⟩ := mem_ready'.1 hi
    have hik : i = k := by
      have hm : i ∈ unlisted listed := List.mem_filter.2 ⟨List.mem_range.2 (by omega), by simpa using hun⟩
      rw [hu] at hm
      have h1 := (List.mem_range'_1.1 hm).1
      by_cases he : i = k
      · exact he
      · exfalso
        have hb := cutAt_spec (cutFrom_spec hcut (Nat.le_succ k) (by omega)) hlt (by omega : k + 1 ≤ i) (Nat.lt_succ_self k)
        have hl := bits_listed hB hc (i + 1) i oi (by omega) hoi hdep k (by omega) hb
        have hku : k ∈ unlisted listed := by rw [hu]; exact List.mem_range'_1.2 ⟨Nat.le_refl _, by omega⟩
        have := (List.mem_filter.1 hku).2
        rw [getD_tf hl] at this
        cases this
    subst hik
    obtain rfl : oi = o := by rw [hk] at hoi; exact (Option.some.inj hoi).symm
    have hnew : unlisted (listed.setIfInBounds i true) = List.range' (i + 1) l2.length := by
      have := unlisted_set (R1 := []) (R2 := List.range' (i + 1) l2.length) (listed := listed) (i := i) (by omega) (by rw [hu, List.range'_succ]; simp)
      simpa using this
    have hcut' : cutFrom ops B (i + 1) = true := by
      unfold cutFrom at hcut ⊢
      refine List.all_eq_true.2 fun m hm => ?_
      have := (List.all_eq_true.1 hcut) m hm
      simp only [Bool.or_eq_true, decide_eq_true_eq] at this ⊢
      rcases this with h1 | h1
      · exact .inl (by omega)
      · exact .inr h1
    have ih := fun a' w' => wpAny_chain hB l2 (i + 1) f _ a' w' (fun j => by have := hl (j + 1); simpa [Nat.add_assoc, Nat.add_comm 1 j] using this) hcut' (by omega) (by simp [hsz]) (closed_set (by omega) hc hk hdep) hnew (by omega)
    refine wpOp_mono ih ?_
    unfold Go.wpOp
    simp only [hk]
    exact h

def dstIs (ops : Array Oper) (ds : List Tmp) : Prop := ∀ (j : Nat) d, ds[j]? = some d → ∃ o, ops[j]? = some o ∧ o.dst = some d

/-- What holds midway. -/
structure Mid (S : World → Prop) (ds : List Tmp) (t : Array Value) (df : List Deferred) (Rs : List VR) (listed : Array Bool) (a : Act) (w : World) : Prop where
  size : a.tmps.size = t.size
  defers : a.defers = df
  other : ∀ k, k ∉ ds → a.tmps[k]? = t[k]?
  holds : S w
  rel : ∀ (j : Nat) d R, ds[j]? = some d → listed.getD j false = true → Rs[j]? = some R → R (a.tmps.getD d undef) w

theorem wpAny_rel {B : List Nat} (hB : edgesOk ops B = true) {ds : List Tmp} {t : Array Value} {df : List Deferred} {Rs : List VR} {l2 : List Oper}
    (hbind : ∀ (j : Nat) o, j < ds.length → ops[j]? = some o → ∀ e ∈ o.after, Region.binds .any e = true) (hds : dstIs ops ds) (hnd : ds.Nodup) (hdt : ∀ d ∈ ds, d < t.size) (hSS : ∀ w w', S w → Below w.heap.size w w' → S w') (hRS : ∀ R ∈ Rs, Stable R) (hn : Rs.length = ds.length)
    (hcut : cutFrom ops B ds.length = true) (hlen : ds.length + l2.length = ops.size) (hl : ∀ j, l2[j]? = ops[ds.length + j]?)
    (hstep : ∀ (i : Nat) o R, i < ds.length → ops[i]? = some o → Rs[i]? = some R → Lay ds t [] fun t us => ∀ w, S w → FactsE (Rs.take i) us w o.after.toList → StepE P ops o ⟨t, df⟩ w R)
    (hend : Lay ds t [] fun t us => ∀ w, S w → FactsA w Rs us → wpList P ops Q l2 ⟨t, df⟩ w) :
    ∀ (fuel : Nat) (R1 : List Nat) (listed : Array Bool) (a : Act) (w : World), listed.size = ops.size → ClosedL ops listed → unlisted listed = R1 ++ List.range' ds.length l2.length → (∀ i ∈ R1, i < ds.length) →
      (unlisted listed).length ≤ fuel → Mid S ds t df Rs listed a w → wpAny P .any ops Q fuel listed a w := by
  have finish : ∀ (fuel : Nat) (listed : Array Bool) (a : Act) (w : World), listed.size = ops.size → ClosedL ops listed → unlisted listed = List.range' ds.length l2.length →
      (unlisted listed).length ≤ fuel → Mid S ds t df Rs listed a w → wpAny P .any ops Q fuel listed a w := by
    intro fuel listed a w hsz hc hu hf hM
    refine wpAny_chain hB l2 ds.length fuel listed a w hl hcut hlen hsz hc hu (by rw [hu] at hf; simpa using hf) ?_
    have := Lay_inst ds t a.tmps [] hend hM.size hM.other hdt w hM.holds (FactsA_of _ _ fun j R u hR hu' => by
      simp only [List.nil_append, List.getElem?_map, Option.map_eq_some_iff] at hu'
      obtain ⟨d, hd, rfl⟩ := hu'
      refine hM.rel j d R hd ?_ hR
      have hj : j < ds.length := (List.getElem?_eq_some_iff.1 hd).1
      have hjs : j < listed.size := by omega
      by_cases hq : listed.getD j true = true
      · simp only [Array.getD_eq_getD_getElem?, Array.getElem?_eq_getElem hjs, Option.getD_some] at hq ⊢
        exact hq
      · exfalso
        have : j ∈ unlisted listed := List.mem_filter.2 ⟨List.mem_range.2 (by omega), by simpa using hq⟩
        rw [hu] at this
        have := (List.mem_range'_1.1 this).1
        omega)
    obtain ⟨tm, dfr⟩ := a
    obtain rfl : dfr = df := hM.defers
    exact this
  intro fuel
  induction fuel with
  | zero =>
    intro R1 listed a w hsz hc hu hR1 hf hM
    have h0 : unlisted listed = [] := List.eq_nil_of_length_eq_zero (by omega)
    rw [h0] at hu
    have hu2 := List.append_eq_nil_iff.1 hu.symm
    exact finish 0 listed a w hsz hc (by rw [h0, hu2.2]) hf hM
  | succ f ih =>
    intro R1 listed a w hsz hc hu hR1 hf hM
    cases hRc : R1 with
    | nil => subst hRc; exact finish (f + 1) listed a w hsz hc (by simpa using hu) hf hM
    | cons r R1' =>
      have hrm : r ∈ unlisted listed := by rw [hu, hRc]; simp
      have hrlt : r < ds.length := hR1 r (by rw [hRc]; simp)
      have hro : ops[r]? = some ops[r] := Array.getElem?_eq_getElem (by omega)
      have hsort := sorted_unlisted listed
      have hready : r ∈ Region.ready .any ops listed := mem_ready'.2 ⟨by omega, by simpa using (List.mem_filter.1 hrm).2, _, hro, fun e he hb => by
        have he' := (edges_spec hB hro).1 e he hb
        by_cases hq : listed.getD e.on true = true
        · have : e.on < listed.size := by omega
          simp only [Array.getD_eq_getD_getElem?, Array.getElem?_eq_getElem this, Option.getD_some] at hq ⊢
          exact hq
        · exfalso
          have hm : e.on ∈ unlisted listed := List.mem_filter.2 ⟨List.mem_range.2 (by omega), by simpa using hq⟩
          rw [hu, hRc] at hm hsort
          simp only [List.cons_append] at hm hsort
          rcases List.mem_cons.1 hm with hm | hm
          · omega
          · have := (List.pairwise_cons.1 hsort).1 _ hm
            omega⟩
      refine ⟨fun hr => (by rw [hr] at hready; cases hready), fun i hi => ?_⟩
      obtain ⟨hlt, hun, o, ho, hdep⟩ := mem_ready'.1 hi
      have hilt : i < ds.length := by
        by_cases hq : i < ds.length
        · exact hq
        · exfalso
          have hb := cutAt_spec (cutFrom_spec hcut (Nat.le_refl _) (by omega)) hlt (by omega : ds.length ≤ i) hrlt
          have hl := bits_listed hB hc (i + 1) i o (by omega) ho hdep r (by omega) hb
          have := (List.mem_filter.1 hrm).2
          rw [getD_tf hl] at this
          cases this
      have hm : i ∈ R1 := by
        have : i ∈ unlisted listed := List.mem_filter.2 ⟨List.mem_range.2 (by omega), by simpa using hun⟩
        rw [hu] at this
        rcases List.mem_append.1 this with h | h
        · exact h
        · have := (List.mem_range'_1.1 h).1
          omega
      obtain ⟨Ra, Rb, hab⟩ := List.append_of_mem hm
      have hnew : unlisted (listed.setIfInBounds i true) = (Ra ++ Rb) ++ List.range' ds.length l2.length := by
        have := unlisted_set (R1 := Ra) (R2 := Rb ++ List.range' ds.length l2.length) (listed := listed) (i := i) (by omega) (by rw [hu, hab]; simp)
        rw [this, List.append_assoc]
      have hRi : Rs[i]? = some Rs[i] := List.getElem?_eq_getElem (by omega)
      have hdi : ds[i]? = some ds[i] := List.getElem?_eq_getElem hilt
      obtain ⟨o', ho', hdst⟩ := hds i _ hdi
      obtain rfl : o = o' := by rw [ho] at ho'; exact Option.some.inj ho'
      have hst := Lay_inst ds t a.tmps [] (hstep i o _ hilt ho hRi) hM.size hM.other hdt w hM.holds (FactsE_of _ fun e he R u hR hu' => by
        have hb := hbind i o hilt ho e (Array.mem_toList_iff.1 he)
        simp only [List.nil_append, List.getElem?_map, Option.map_eq_some_iff] at hu'
        obtain ⟨d, hd, rfl⟩ := hu'
        have hlt' := (edges_spec hB ho).1 e (Array.mem_toList_iff.1 he) hb
        rw [List.getElem?_take_of_lt hlt'] at hR
        exact hM.rel e.on d R hd (hdep e (Array.mem_toList_iff.1 he) hb) hR)
      have hst' : StepE P ops o a w Rs[i] := by
        obtain ⟨tm, dfr⟩ := a
        obtain rfl : dfr = df := hM.defers
        exact hst
      refine hst'.wpOp ho fun u w' hR hb => ?_
      refine ih (Ra ++ Rb) _ _ w' (by simp [hsz]) (closed_set (by omega) hc ho hdep) hnew (fun k hk => hR1 k (by rw [hab]; simp at hk ⊢; rcases hk with h | h <;> simp [h])) (by rw [hnew]; rw [hu, hab] at hf; simp at hf ⊢; omega) ?_
      have hput : (a.put o.dst u).tmps = a.tmps.setIfInBounds ds[i] u := by rw [hdst]; rfl
      have hdis : ds[i] < t.size := hdt _ (List.getElem_mem _)
      refine ⟨by rw [hput]; simp [hM.size], by rw [hdst]; exact hM.defers, fun k hk => ?_, hSS w w' hM.holds hb, fun j d R hd hlj hRj => ?_⟩
      · rw [hput, Array.getElem?_setIfInBounds, if_neg (fun e => hk (by rw [← e]; exact List.getElem_mem _))]
        exact hM.other k hk
      · rw [hput]
        by_cases hji : j = i
        · subst hji
          rw [hdi] at hd
          rw [hRi] at hRj
          obtain rfl := Option.some.inj hd
          obtain rfl := Option.some.inj hRj
          simp only [Array.getD_eq_getD_getElem?, Array.getElem?_setIfInBounds, if_true, hM.size, hdis, Option.getD_some]
          exact hR
        · have hne : ds[i] ≠ d := fun e => hji (by
            have hjl : j < ds.length := (List.getElem?_eq_some_iff.1 hd).1
            have hdj : ds[j] = d := (List.getElem?_eq_some_iff.1 hd).2
            exact (List.getElem_inj hnd).1 (hdj.trans e.symm))
          have e2 : (a.tmps.setIfInBounds ds[i] u).getD d undef = a.tmps.getD d undef := by
            simp only [Array.getD_eq_getD_getElem?, Array.getElem?_setIfInBounds, if_neg hne]
          rw [e2]
          refine hRS R (List.mem_of_getElem? hRj) _ w w' (hM.rel j d R hd ?_ hRj) hb
          have hjn : ¬ i = j := fun e => hji e.symm
          simpa only [Array.getD_eq_getD_getElem?, Array.getElem?_setIfInBounds, if_neg hjn] using hlj

theorem RelL_split {ds : List Tmp} {t : Array Value} {df : List Deferred} : ∀ (n : Nat) (l : List Oper) (Rs : List VR), RelL P ops S ds t df Q n l Rs →
    ∃ Rs' : List VR, Rs'.length = n ∧ (∀ R ∈ Rs', Stable R) ∧ n ≤ l.length ∧
      (∀ (i : Nat) o R, i < n → l[i]? = some o → Rs'[i]? = some R → Lay ds t [] fun t us => ∀ w, S w → FactsE (Rs ++ Rs'.take i) us w o.after.toList → StepE P ops o ⟨t, df⟩ w R) ∧
      (Lay ds t [] fun t us => ∀ w, S w → FactsA w (Rs ++ Rs') us → wpList P ops Q (l.drop n) ⟨t, df⟩ w)
  | 0, l, Rs, h => ⟨[], rfl, by simp, Nat.zero_le _, fun i o R hi => by omega, by simpa [RelL] using h⟩
  | n + 1, [], Rs, h => h.elim
  | n + 1, o :: os, Rs, ⟨R, h1, h2, h3⟩ => by
    obtain ⟨Rs', e1, e2, e3, e4, e5⟩ := RelL_split n os _ h3
    refine ⟨R :: Rs', by simp [e1], by simpa [h1] using e2, by simpa using e3, ?_, by simpa using e5⟩
    intro i o' R' hi ho hR
    cases i with
    | zero =>
      simp at ho hR
      subst ho hR
      simpa using h2
    | succ i =>
      have := e4 i o' R' (by omega) (by simpa using ho) (by simpa using hR)
      simpa using this

/-- THE LAW. ds: the places of the operations that are each taken by itself. -/
theorem wp_region_rel (S : World → Prop) (ds : List Tmp) {id : Nat} {l : List Oper} {t : Array Value} {df : List Deferred} {w : World} (hm : P.follows .mixedOrders = true)
    (hB : ((edgesOk l.toArray (bitsOf l.toArray) && cutFrom l.toArray (bitsOf l.toArray) ds.length) && (l.take ds.length).all (fun o => o.after.all (Region.binds .any))) = true)
    (hds : ((l.take ds.length).map (·.dst) == ds.map some) = true) (hnd : ds.Nodup) (hdt : ds.all (· < t.size) = true) (hSS : ∀ w w', S w → Below w.heap.size w w' → S w') (hS : S w.drew)
    (h : RelL P l.toArray S ds t df Q ds.length l []) : (Code.region id l.toArray true).wp P Q ⟨t, df⟩ w := by
  rw [Bool.and_eq_true, Bool.and_eq_true] at hB
  obtain ⟨⟨hB, hcut⟩, hbn⟩ := hB
  obtain ⟨Rs, e1, e2, e3, e4, e5⟩ := RelL_split _ _ _ h
  have hds := eq_of_beq hds
  refine wp_region_any hm ?_
  have hu : unlisted (Array.replicate l.toArray.size false) = List.range' 0 l.length := by
    unfold unlisted
    rw [List.filter_eq_self.2 (fun i hi => by simp at hi; simp [hi]), List.range_eq_range']
    simp
  have hlen : (l.drop ds.length).length = l.length - ds.length := List.length_drop
  refine wpAny_rel (S := S) (t := t) (df := df) (Rs := Rs) (ds := ds) (l2 := l.drop ds.length) hB (fun j o hjl hj e he => by
    have hm : o ∈ l.take ds.length := List.mem_of_getElem? (i := j) (by rw [List.getElem?_take_of_lt hjl]; simpa using hj)
    exact Array.all_eq_true'.1 ((List.all_eq_true.1 hbn) o hm) e he) ?_ hnd (fun d hd => by simpa using (List.all_eq_true.1 hdt) d hd) hSS e2 e1 hcut (by rw [hlen]; simp; omega) (fun j => by simp) ?_ (by simpa using e5) _ (List.range' 0 ds.length) _ _ _
    (by simp) ?_ ?_ (fun i hi => by have := (List.mem_range'_1.1 hi).2; omega) (by rw [hu]; simp) ⟨rfl, rfl, fun _ _ => rfl, hS, fun j d R _ hl _ => ?_⟩
  · intro j d hd
    have hj : j < ds.length := (List.getElem?_eq_some_iff.1 hd).1
    have h2 : ((l.take ds.length).map (·.dst))[j]? = some (some d) := by rw [hds, List.getElem?_map, hd]; rfl
    rw [List.getElem?_map, List.getElem?_take_of_lt hj] at h2
    obtain ⟨o, ho, hod⟩ := Option.map_eq_some_iff.1 h2
    exact ⟨o, by simpa using ho, hod⟩
  · intro i o R hi ho hR
    have := e4 i o R hi (by simpa using ho) hR
    simpa using this
  · intro j o hj hl
    exfalso
    have : j < l.length := by simpa using (Array.getElem?_eq_some_iff.1 hj).1
    simp [Array.getD_eq_getD_getElem?, this] at hl
  · rw [hu, hlen, show l.length = ds.length + (l.length - ds.length) from by omega, ← List.range'_append_1]
    simp
  · exfalso
    by_cases hq : j < l.length
    · simp [Array.getD_eq_getD_getElem?, hq] at hl
    · simp [Array.getD_eq_getD_getElem?, hq] at hl

/-! ### The moves of a walk -/
def RQ (R : VR) (d : Tmp) (D : List Deferred) (w0 : World) : Exit → Act → World → Prop
  | .normal, a, w => a.defers = D ∧ Below w0.heap.size w0 w ∧ R (a.tmps.getD d undef) w
  | _, _, _ => False
theorem RQ_mk {R : VR} {d : Tmp} {D : List Deferred} {w0 w : World} {a : Act} (h1 : a.defers = D) (h2 : Below w0.heap.size w0 w) (h3 : R (a.tmps.getD d undef) w) : RQ R d D w0 .normal a w := ⟨h1, h2, h3⟩

theorem step_take {R : VR} {d : Tmp} {op : Op} {ty : TypeId} {ps : String} {af : Array Edge} {gd : Option (Nat × Bool)} {a : Act} {w : World}
    (hw : Region.wanted ⟨some d, op, ty, ps, af, gd⟩ (yielded ops a.tmps) = true) (hd : d < a.tmps.size)
    (h : wpList P #[] (RQ R d a.defers w) [⟨some d, op, ty, ps, af, none⟩] a w) : StepE P ops ⟨some d, op, ty, ps, af, gd⟩ a w R := by
  refine .inl ⟨hw, ?_⟩
  simp only [wpList, Region.wanted, if_true] at h
  rcases h with h1 | ⟨-, _, _, hf⟩
  case inr => exact hf.elim
  unfold Oper.wp at h1
  have e : (execOp a.eval ⟨some d, op, ty, ps, af, gd⟩) = execOp a.eval ⟨some d, op, ty, ps, af, none⟩ := rfl
  rw [e]
  have key : ∀ u, (a.put (some d) u).tmps.getD d undef = u := by
    intro u
    simp [Act.put, Array.getD_eq_getD_getElem?, hd]
  generalize (execOp a.eval ⟨some d, op, ty, ps, af, none⟩).run P w = r at h1
  cases r with
  | ok n w' =>
    cases n <;> simp only [Oper.upon] at h1
    case value u => obtain ⟨_, h2, h3⟩ := h1; rw [key] at h3; exact ⟨h3, h2⟩
    case skip => obtain ⟨_, h2, h3⟩ := h1; rw [key] at h3; exact ⟨h3, h2⟩
    case defer d' =>
      have := congrArg List.length h1.1
      simp [Act.put] at this
    case enter f args =>
      refine Calls.mono h1 fun e w'' he => ?_
      cases e with
      | returned u => obtain ⟨_, h2, h3⟩ := he; rw [key] at h3; exact ⟨h3, h2⟩
      | panicked c => exact he.elim
      | outgrown => obtain ⟨_, _, hf⟩ := he; exact hf.elim
    case row r args => exact Rows.mono h1 fun u w'' he => by obtain ⟨_, h2, h3⟩ := he; rw [key] at h3; exact ⟨h3, h2⟩
  | halt x w' => cases x <;> simp only [Oper.upon] at h1; exact h1.elim
theorem step_skip {R : VR} {o : Oper} {a : Act} {w : World} (hw : Region.wanted o (yielded ops a.tmps) = false) (h : R undef w) : StepE P ops o a w R := .inr ⟨hw, h⟩

section
variable {ds : List Tmp} {t : Array Value} {df : List Deferred} {n : Nat} {o : Oper} {os : List Oper} {Rs : List VR}
theorem rel_any (R : VR) (hst : Stable R) (hs : Lay ds t [] fun t us => ∀ w, S w → FactsE Rs us w o.after.toList → StepE P ops o ⟨t, df⟩ w R) (hn : RelL P ops S ds t df Q n os (Rs ++ [R])) :
    RelL P ops S ds t df Q (n + 1) (o :: os) Rs := ⟨R, hst, hs, hn⟩
theorem rel_eq {v : Value} (hs : Lay ds t [] fun t us => ∀ w, S w → FactsE Rs us w o.after.toList → StepE P ops o ⟨t, df⟩ w (fun u _ => u = v)) (hn : RelL P ops S ds t df Q n os (Rs ++ [fun u _ => u = v])) :
    RelL P ops S ds t df Q (n + 1) (o :: os) Rs := ⟨_, stable_eq v, hs, hn⟩
theorem rel_end {l2 : List Oper} (h : Lay ds t [] fun t us => ∀ w, S w → FactsA w Rs us → wpList P ops Q l2 ⟨t, df⟩ w) : RelL P ops S ds t df Q 0 l2 Rs := h
end
end
end Go.Proofs.Yteohokidlopbnaa
