/- A region whose order is open, by relations, with one operation that writes: it is taken where T holds, and leaves X. -/
import Derived.Test.YteohokidlopbnaaRelQ
namespace Go.Proofs.Yteohokidlopbnaa
open Go.RowKit
set_option linter.unusedSimpArgs false
set_option linter.unusedVariables false

section
variable {P : Program} {ops : Array Oper} {Q : Exit → Act → World → Prop} {S T : World → Prop} {X : World → World → Prop} {d0 : Nat}

def YEW (P : Program) (E : World → World → Prop) (R : VR) (w : World) : Result Next → Prop
  | .ok (.value u) w' => R u w' ∧ E w w'
  | .ok .skip w' => R undef w' ∧ E w w'
  | .ok (.enter f args) w' => Calls P f args w' fun
      | .returned u, w'' => R u w'' ∧ E w w''
      | _, _ => False
  | .ok (.row r args) w' => Rows P r args w' fun u w'' => R u w'' ∧ E w w''
  | _ => False

def StepW (P : Program) (ops : Array Oper) (E : World → World → Prop) (o : Oper) (a : Act) (w : World) (R : VR) : Prop :=
  (Region.wanted o (yielded ops a.tmps) = true ∧ YEW P E R w ((execOp a.eval o).run P w)) ∨ (Region.wanted o (yielded ops a.tmps) = false ∧ R undef w ∧ E w w)

theorem YEW.upon {E : World → World → Prop} {R : VR} {o : Oper} {a : Act} {w : World} {r : Result Next} {K : Act → World → Prop} (h : YEW P E R w r)
    (hK : ∀ u w', R u w' → E w w' → K (a.put o.dst u) w') : o.upon P a K Q r := by
  cases r with
  | ok n w' =>
    cases n <;> simp only [YEW] at h
    case value u => exact hK _ _ h.1 h.2
    case skip => exact hK _ _ h.1 h.2
    case enter f args =>
      refine Calls.mono h fun e w'' he => ?_
      cases e with
      | returned u => exact hK _ _ he.1 he.2
      | panicked c => exact he.elim
      | outgrown => exact he.elim
    case row r args => exact Rows.mono h fun u w'' he => hK _ _ he.1 he.2
  | halt x w' => exact h.elim

theorem StepW.wpOp {E : World → World → Prop} {R : VR} {i : Nat} {o : Oper} {a : Act} {w : World} (hi : ops[i]? = some o) (h : StepW P ops E o a w R) {K : Act → World → Prop}
    (hK : ∀ u w', R u w' → E w w' → K (a.put o.dst u) w') : wpOp P ops Q i K a w := by
  unfold Go.wpOp
  simp only [hi]
  rcases h with ⟨hw, hy⟩ | ⟨hw, hr⟩
  · simp only [hw, if_true]; exact .inl (hy.upon hK)
  · simp only [hw, Bool.false_eq_true, if_false]; exact hK _ _ hr.1 hr.2

def StableW (X : World → World → Prop) (R : VR) : Prop := ∀ u w w', R u w → X w w' → R u w'
theorem stableW_eq (X : World → World → Prop) (v : Value) : StableW X (fun u _ => u = v) := fun _ _ _ h _ => h
/-- What was yielded stands behind what the others do. -/
def StabAt (X : World → World → Prop) (d0 i : Nat) (R : VR) : Prop := (i = d0 → Stable R) ∧ (i ≠ d0 → StableW X R)
theorem stabAt_other {X : World → World → Prop} {d0 i : Nat} {R : VR} (hi : i ≠ d0) (h : StableW X R) : StabAt X d0 i R := ⟨fun e => absurd e hi, fun _ => h⟩
theorem stabAt_writer {X : World → World → Prop} {d0 i : Nat} {R : VR} (hi : i = d0) (h : Stable R) : StabAt X d0 i R := ⟨fun _ => h, fun e => absurd hi e⟩
theorem stabAt_eq (X : World → World → Prop) (d0 i : Nat) (v : Value) : StabAt X d0 i (fun u _ => u = v) := ⟨fun _ => stable_eq v, fun _ => stableW_eq X v⟩
/-- What operation i does: the writer X, another new blocks alone. -/
def EX (X : World → World → Prop) (d0 i : Nat) (w w' : World) : Prop := if i = d0 then X w w' else Below w.heap.size w w'

def RelW (P : Program) (ops : Array Oper) (S T : World → Prop) (X : World → World → Prop) (d0 : Nat) (ds : List Tmp) (t : Array Value) (df : List Deferred) (Q : Exit → Act → World → Prop) : Nat → List Oper → List VR → Prop
  | 0, l2, Rs => Lay ds t [] fun t us => ∀ w, S w → FactsA w Rs us → wpList P ops Q l2 ⟨t, df⟩ w
  | _ + 1, [], _ => False
  | n + 1, o :: os, Rs => ∃ R, StabAt X d0 Rs.length R ∧ (Lay ds t [] fun t us => ∀ w, S w → (Rs.length = d0 → T w) → FactsE Rs us w o.after.toList → StepW P ops (EX X d0 Rs.length) o ⟨t, df⟩ w R) ∧ RelW P ops S T X d0 ds t df Q n os (Rs ++ [R])

/-- What holds midway. -/
structure MidW (S T : World → Prop) (d0 : Nat) (ds : List Tmp) (t : Array Value) (df : List Deferred) (Rs : List VR) (listed : Array Bool) (a : Act) (w : World) : Prop where
  size : a.tmps.size = t.size
  defers : a.defers = df
  other : ∀ k, k ∉ ds → a.tmps[k]? = t[k]?
  holds : S w
  pre : listed.getD d0 true = false → T w
  rel : ∀ (j : Nat) d R, ds[j]? = some d → listed.getD j false = true → Rs[j]? = some R → R (a.tmps.getD d undef) w

theorem wpAny_relW {B : List Nat} (hB : edgesOk ops B = true) {ds : List Tmp} {t : Array Value} {df : List Deferred} {Rs : List VR} {l2 : List Oper}
    (hbind : ∀ (j : Nat) o, j < ds.length → ops[j]? = some o → ∀ e ∈ o.after, Region.binds .any e = true) (hds : dstIs ops ds) (hnd : ds.Nodup) (hdt : ∀ d ∈ ds, d < t.size) (hSX : ∀ w w', S w → X w w' → S w') (hBX : ∀ w w', Below w.heap.size w w' → X w w') (hTB : ∀ w w', T w → Below w.heap.size w w' → T w') (hRS : ∀ (j : Nat) R, Rs[j]? = some R → StabAt X d0 j R) (hn : Rs.length = ds.length)
    (hcut : cutFrom ops B ds.length = true) (hlen : ds.length + l2.length = ops.size) (hl : ∀ j, l2[j]? = ops[ds.length + j]?)
    (hstep : ∀ (i : Nat) o R, i < ds.length → ops[i]? = some o → Rs[i]? = some R → Lay ds t [] fun t us => ∀ w, S w → (i = d0 → T w) → FactsE (Rs.take i) us w o.after.toList → StepW P ops (EX X d0 i) o ⟨t, df⟩ w R)
    (hend : Lay ds t [] fun t us => ∀ w, S w → FactsA w Rs us → wpList P ops Q l2 ⟨t, df⟩ w) :
    ∀ (fuel : Nat) (R1 : List Nat) (listed : Array Bool) (a : Act) (w : World), listed.size = ops.size → ClosedL ops listed → unlisted listed = R1 ++ List.range' ds.length l2.length → (∀ i ∈ R1, i < ds.length) →
      (unlisted listed).length ≤ fuel → MidW S T d0 ds t df Rs listed a w → wpAny P .any ops Q fuel listed a w := by
  have finish : ∀ (fuel : Nat) (listed : Array Bool) (a : Act) (w : World), listed.size = ops.size → ClosedL ops listed → unlisted listed = List.range' ds.length l2.length →
      (unlisted listed).length ≤ fuel → MidW S T d0 ds t df Rs listed a w → wpAny P .any ops Q fuel listed a w := by
    intro fuel listed a w hsz hc hu hf hM
    refine wpAny_chain hB l2 ds.length fuel listed a w hl hcut hlen hsz hc hu (by rw [hu] at hf; simpa using hf) ?_
    have := Lay_inst ds t a.tmps [] hend hM.size hM.other hdt w hM.holds (FactsA_of _ _ fun j R u hR hu' => by
      simp only [List.nil_append, List.getElem?_map, Option.map_eq_some_iff] at hu'
      obtain ⟨d, hd, rfl⟩ := hu'
      refine hM.rel j d R hd ?_ hR
      have hj : j < ds.length := (List.getElem?_eq_some_iff.1 hd).1
      have hjs : j < listed.size := by omega
      by_cases hq : listed.getD j true = true
      · simp only [Array.getD_eq_getD_getElem?, Array.getElem?_eq_getElem hjs, Option.getD_some] at hq ⊢
        exact hq
      · exfalso
        have : j ∈ unlisted listed := List.mem_filter.2 ⟨List.mem_range.2 (by omega), by simpa using hq⟩
        rw [hu] at this
        have := (List.mem_range'_1.1 this).1
        omega)
    obtain ⟨tm, dfr⟩ := a
    obtain rfl : dfr = df := hM.defers
    exact this
  intro fuel
  induction fuel with
  | zero =>
    intro R1 listed a w hsz hc hu hR1 hf hM
    have h0 : unlisted listed = [] := List.eq_nil_of_length_eq_zero (by omega)
    rw [h0] at hu
    have hu2 := List.append_eq_nil_iff.1 hu.symm
    exact finish 0 listed a w hsz hc (by rw [h0, hu2.2]) hf hM
  | succ f ih =>
    intro R1 listed a w hsz hc hu hR1 hf hM
    cases hRc : R1 with
    | nil => subst hRc; exact finish (f + 1) listed a w hsz hc (by simpa using hu) hf hM
    | cons r R1' =>
      have hrm : r ∈ unlisted listed := by rw [hu, hRc]; simp
      have hrlt : r < ds.length := hR1 r (by rw [hRc]; simp)
      have hro : ops[r]? = some ops[r] := Array.getElem?_eq_getElem (by omega)
      have hsort := sorted_unlisted listed
      have hready : r ∈ Region.ready .any ops listed := mem_ready'.2 ⟨by omega, by simpa using (List.mem_filter.1 hrm).2, _, hro, fun e he hb => by
        have he' := (edges_spec hB hro).1 e he hb
        by_cases hq : listed.getD e.on true = true
        · have : e.on < listed.size := by omega
          simp only [Array.getD_eq_getD_getElem?, Array.getElem?_eq_getElem this, Option.getD_some] at hq ⊢
          exact hq
        · exfalso
          have hm : e.on ∈ unlisted listed := List.mem_filter.2 ⟨List.mem_range.2 (by omega), by simpa using hq⟩
          rw [hu, hRc] at hm hsort
          simp only [List.cons_append] at hm hsort
          rcases List.mem_cons.1 hm with hm | hm
          · omega
          · have := (List.pairwise_cons.1 hsort).1 _ hm
            omega⟩
      refine ⟨fun hr => (by rw [hr] at hready; cases hready), fun i hi => ?_⟩
      obtain ⟨hlt, hun, o, ho, hdep⟩ := mem_ready'.1 hi
      have hilt : i < ds.length := by
        by_cases hq : i < ds.length
        · exact hq
        · exfalso
          have hb := cutAt_spec (cutFrom_spec hcut (Nat.le_refl _) (by omega)) hlt (by omega : ds.length ≤ i) hrlt
          have hl := bits_listed hB hc (i + 1) i o (by omega) ho hdep r (by omega) hb
          have := (List.mem_filter.1 hrm).2
          rw [getD_tf hl] at this
          cases this
      have hm : i ∈ R1 := by
        have : i ∈ unlisted listed := List.mem_filter.2 ⟨List.mem_range.2 (by omega), by simpa using hun⟩
        rw [hu] at this
        rcases List.mem_append.1 this with h | h
        · exact h
        · have := (List.mem_range'_1.1 h).1
          omega
      obtain ⟨Ra, Rb, hab⟩ := List.append_of_mem hm
      have hnew : unlisted (listed.setIfInBounds i true) = (Ra ++ Rb) ++ List.range' ds.length l2.length := by
        have := unlisted_set (R1 := Ra) (R2 := Rb ++ List.range' ds.length l2.length) (listed := listed) (i := i) (by omega) (by rw [hu, hab]; simp)
        rw [this, List.append_assoc]
      have hRi : Rs[i]? = some Rs[i] := List.getElem?_eq_getElem (by omega)
      have hdi : ds[i]? = some ds[i] := List.getElem?_eq_getElem hilt
      obtain ⟨o', ho', hdst⟩ := hds i _ hdi
      obtain rfl : o = o' := by rw [ho] at ho'; exact Option.some.inj ho'
      have hst := Lay_inst ds t a.tmps [] (hstep i o _ hilt ho hRi) hM.size hM.other hdt w hM.holds (fun e => hM.pre (e ▸ hun)) (FactsE_of _ fun e he R u hR hu' => by
        have hb := hbind i o hilt ho e (Array.mem_toList_iff.1 he)
        simp only [List.nil_append, List.getElem?_map, Option.map_eq_some_iff] at hu'
        obtain ⟨d, hd, rfl⟩ := hu'
        have hlt' := (edges_spec hB ho).1 e (Array.mem_toList_iff.1 he) hb
        rw [List.getElem?_take_of_lt hlt'] at hR
        exact hM.rel e.on d R hd (hdep e (Array.mem_toList_iff.1 he) hb) hR)
      have hst' : StepW P ops (EX X d0 i) o a w Rs[i] := by
        obtain ⟨tm, dfr⟩ := a
        obtain rfl : dfr = df := hM.defers
        exact hst
      refine hst'.wpOp ho fun u w' hR hE => ?_
      have hb : X w w' := by
        unfold EX at hE
        split at hE
        · exact hE
        · exact hBX _ _ hE
      refine ih (Ra ++ Rb) _ _ w' (by simp [hsz]) (closed_set (by omega) hc ho hdep) hnew (fun k hk => hR1 k (by rw [hab]; simp at hk ⊢; rcases hk with h | h <;> simp [h])) (by rw [hnew]; rw [hu, hab] at hf; simp at hf ⊢; omega) ?_
      have hput : (a.put o.dst u).tmps = a.tmps.setIfInBounds ds[i] u := by rw [hdst]; rfl
      have hdis : ds[i] < t.size := hdt _ (List.getElem_mem _)
      refine ⟨by rw [hput]; simp [hM.size], by rw [hdst]; exact hM.defers, fun k hk => ?_, hSX w w' hM.holds hb, fun hp => (by
        rw [getD_set_true (by omega)] at hp
        simp only [Bool.or_eq_false_iff, decide_eq_false_iff_not] at hp
        unfold EX at hE
        rw [if_neg (fun e => hp.1 e.symm)] at hE
        exact hTB w w' (hM.pre hp.2) hE), fun j d R hd hlj hRj => ?_⟩
      · rw [hput, Array.getElem?_setIfInBounds, if_neg (fun e => hk (by rw [← e]; exact List.getElem_mem _))]
        exact hM.other k hk
      · rw [hput]
        by_cases hji : j = i
        · subst hji
          rw [hdi] at hd
          rw [hRi] at hRj
          obtain rfl := Option.some.inj hd
          obtain rfl := Option.some.inj hRj
          simp only [Array.getD_eq_getD_getElem?, Array.getElem?_setIfInBounds, if_true, hM.size, hdis, Option.getD_some]
          exact hR
        · have hne : ds[i] ≠ d := fun e => hji (by
            have hjl : j < ds.length := (List.getElem?_eq_some_iff.1 hd).1
            have hdj : ds[j] = d := (List.getElem?_eq_some_iff.1 hd).2
            exact (List.getElem_inj hnd).1 (hdj.trans e.symm))
          have e2 : (a.tmps.setIfInBounds ds[i] u).getD d undef = a.tmps.getD d undef := by
            simp only [Array.getD_eq_getD_getElem?, Array.getElem?_setIfInBounds, if_neg hne]
          rw [e2]
          refine (?_ : ∀ u, R u w → R u w') _ (hM.rel j d R hd ?_ hRj)
          · intro u hu
            unfold EX at hE
            by_cases hid : i = d0
            · exact (hRS j R hRj).2 (fun e => hji (e.trans hid.symm)) u w w' hu hb
            · rw [if_neg hid] at hE
              by_cases hjd : j = d0
              · exact (hRS j R hRj).1 hjd u w w' hu hE
              · exact (hRS j R hRj).2 hjd u w w' hu hb
          have hjn : ¬ i = j := fun e => hji e.symm
          simpa only [Array.getD_eq_getD_getElem?, Array.getElem?_setIfInBounds, if_neg hjn] using hlj

theorem RelW_split {ds : List Tmp} {t : Array Value} {df : List Deferred} : ∀ (n : Nat) (l : List Oper) (Rs : List VR), RelW P ops S T X d0 ds t df Q n l Rs →
    ∃ Rs' : List VR, Rs'.length = n ∧ (∀ (i : Nat) R, Rs'[i]? = some R → StabAt X d0 (Rs.length + i) R) ∧ n ≤ l.length ∧
      (∀ (i : Nat) o R, i < n → l[i]? = some o → Rs'[i]? = some R → Lay ds t [] fun t us => ∀ w, S w → (Rs.length + i = d0 → T w) → FactsE (Rs ++ Rs'.take i) us w o.after.toList → StepW P ops (EX X d0 (Rs.length + i)) o ⟨t, df⟩ w R) ∧
      (Lay ds t [] fun t us => ∀ w, S w → FactsA w (Rs ++ Rs') us → wpList P ops Q (l.drop n) ⟨t, df⟩ w)
  | 0, l, Rs, h => ⟨[], rfl, by simp, Nat.zero_le _, fun i o R hi => by omega, by simpa [RelW] using h⟩
  | n + 1, [], Rs, h => h.elim
  | n + 1, o :: os, Rs, ⟨R, h1, h2, h3⟩ => by
    obtain ⟨Rs', e1, e2, e3, e4, e5⟩ := RelW_split n os _ h3
    refine ⟨R :: Rs', by simp [e1], ?_, by simpa using e3, ?_, by simpa using e5⟩
    · intro i R' hR
      cases i with
      | zero =>
        simp at hR
        subst hR
        simpa using h1
      | succ i =>
        have := e2 i R' (by simpa using hR)
        simpa [Nat.add_assoc, Nat.add_comm 1 i] using this
    intro i o' R' hi ho hR
    cases i with
    | zero =>
      simp at ho hR
      subst ho hR
      simpa using h2
    | succ i =>
      have := e4 i o' R' (by omega) (by simpa using ho) (by simpa using hR)
      simpa [Nat.add_assoc, Nat.add_comm 1 i] using this

/-- THE LAW. ds: the places of the operations that are each taken by itself. -/
theorem wp_region_relW (S T : World → Prop) (X : World → World → Prop) (d0 : Nat) (ds : List Tmp) {id : Nat} {l : List Oper} {t : Array Value} {df : List Deferred} {w : World} (hm : P.follows .mixedOrders = true)
    (hB : ((edgesOk l.toArray (bitsOf l.toArray) && cutFrom l.toArray (bitsOf l.toArray) ds.length) && (l.take ds.length).all (fun o => o.after.all (Region.binds .any))) = true)
    (hds : ((l.take ds.length).map (·.dst) == ds.map some) = true) (hnd : ds.Nodup) (hdt : ds.all (· < t.size) = true) (hSX : ∀ w w', S w → X w w' → S w') (hBX : ∀ w w', Below w.heap.size w w' → X w w') (hTB : ∀ w w', T w → Below w.heap.size w w' → T w') (hS : S w.drew) (hT : T w.drew)
    (h : RelW P l.toArray S T X d0 ds t df Q ds.length l []) : (Code.region id l.toArray true).wp P Q ⟨t, df⟩ w := by
  rw [Bool.and_eq_true, Bool.and_eq_true] at hB
  obtain ⟨⟨hB, hcut⟩, hbn⟩ := hB
  obtain ⟨Rs, e1, e2, e3, e4, e5⟩ := RelW_split _ _ _ h
  have hds := eq_of_beq hds
  refine wp_region_any hm ?_
  have hu : unlisted (Array.replicate l.toArray.size false) = List.range' 0 l.length := by
    unfold unlisted
    rw [List.filter_eq_self.2 (fun i hi => by simp at hi; simp [hi]), List.range_eq_range']
    simp
  have hlen : (l.drop ds.length).length = l.length - ds.length := List.length_drop
  refine wpAny_relW (S := S) (T := T) (X := X) (d0 := d0) (t := t) (df := df) (Rs := Rs) (ds := ds) (l2 := l.drop ds.length) hB (fun j o hjl hj e he => by
    have hm : o ∈ l.take ds.length := List.mem_of_getElem? (i := j) (by rw [List.getElem?_take_of_lt hjl]; simpa using hj)
    exact Array.all_eq_true'.1 ((List.all_eq_true.1 hbn) o hm) e he) ?_ hnd (fun d hd => by simpa using (List.all_eq_true.1 hdt) d hd) hSX hBX hTB (fun j R hR => by have := e2 j R hR; simpa using this) e1 hcut (by rw [hlen]; simp; omega) (fun j => by simp) ?_ (by simpa using e5) _ (List.range' 0 ds.length) _ _ _
    (by simp) ?_ ?_ (fun i hi => by have := (List.mem_range'_1.1 hi).2; omega) (by rw [hu]; simp) ⟨rfl, rfl, fun _ _ => rfl, hS, fun _ => hT, fun j d R _ hl _ => ?_⟩
  · intro j d hd
    have hj : j < ds.length := (List.getElem?_eq_some_iff.1 hd).1
    have h2 : ((l.take ds.length).map (·.dst))[j]? = some (some d) := by rw [hds, List.getElem?_map, hd]; rfl
    rw [List.getElem?_map, List.getElem?_take_of_lt hj] at h2
    obtain ⟨o, ho, hod⟩ := Option.map_eq_some_iff.1 h2
    exact ⟨o, by simpa using ho, hod⟩
  · intro i o R hi ho hR
    have := e4 i o R hi (by simpa using ho) hR
    simpa using this
  · intro j o hj hl
    exfalso
    have : j < l.length := by simpa using (Array.getElem?_eq_some_iff.1 hj).1
    simp [Array.getD_eq_getD_getElem?, this] at hl
  · rw [hu, hlen, show l.length = ds.length + (l.length - ds.length) from by omega, ← List.range'_append_1]
    simp
  · exfalso
    by_cases hq : j < l.length
    · simp [Array.getD_eq_getD_getElem?, hq] at hl
    · simp [Array.getD_eq_getD_getElem?, hq] at hl

/-! ### The moves of a walk -/
def RQW (E : World → World → Prop) (R : VR) (d : Tmp) (D : List Deferred) (w0 : World) : Exit → Act → World → Prop
  | .normal, a, w => a.defers = D ∧ E w0 w ∧ R (a.tmps.getD d undef) w
  | _, _, _ => False
theorem RQW_mk {E : World → World → Prop} {R : VR} {d : Tmp} {D : List Deferred} {w0 w : World} {a : Act} (h1 : a.defers = D) (h2 : E w0 w) (h3 : R (a.tmps.getD d undef) w) : RQW E R d D w0 .normal a w := ⟨h1, h2, h3⟩

theorem step_takeW {E : World → World → Prop} {R : VR} {d : Tmp} {op : Op} {ty : TypeId} {ps : String} {af : Array Edge} {gd : Option (Nat × Bool)} {a : Act} {w : World}
    (hw : Region.wanted ⟨some d, op, ty, ps, af, gd⟩ (yielded ops a.tmps) = true) (hd : d < a.tmps.size)
    (h : wpList P #[] (RQW E R d a.defers w) [⟨some d, op, ty, ps, af, none⟩] a w) : StepW P ops E ⟨some d, op, ty, ps, af, gd⟩ a w R := by
  refine .inl ⟨hw, ?_⟩
  simp only [wpList, Region.wanted, if_true] at h
  rcases h with h1 | ⟨-, _, _, hf⟩
  case inr => exact hf.elim
  unfold Oper.wp at h1
  have e : (execOp a.eval ⟨some d, op, ty, ps, af, gd⟩) = execOp a.eval ⟨some d, op, ty, ps, af, none⟩ := rfl
  rw [e]
  have key : ∀ u, (a.put (some d) u).tmps.getD d undef = u := by
    intro u
    simp [Act.put, Array.getD_eq_getD_getElem?, hd]
  generalize (execOp a.eval ⟨some d, op, ty, ps, af, none⟩).run P w = r at h1
  cases r with
  | ok n w' =>
    cases n <;> simp only [Oper.upon] at h1
    case value u => obtain ⟨_, h2, h3⟩ := h1; rw [key] at h3; exact ⟨h3, h2⟩
    case skip => obtain ⟨_, h2, h3⟩ := h1; rw [key] at h3; exact ⟨h3, h2⟩
    case defer d' =>
      have := congrArg List.length h1.1
      simp [Act.put] at this
    case enter f args =>
      refine Calls.mono h1 fun e w'' he => ?_
      cases e with
      | returned u => obtain ⟨_, h2, h3⟩ := he; rw [key] at h3; exact ⟨h3, h2⟩
      | panicked c => exact he.elim
      | outgrown => obtain ⟨_, _, hf⟩ := he; exact hf.elim
    case row r args => exact Rows.mono h1 fun u w'' he => by obtain ⟨_, h2, h3⟩ := he; rw [key] at h3; exact ⟨h3, h2⟩
  | halt x w' => cases x <;> simp only [Oper.upon] at h1; exact h1.elim
theorem step_skipW {E : World → World → Prop} {R : VR} {o : Oper} {a : Act} {w : World} (hw : Region.wanted o (yielded ops a.tmps) = false) (h : R undef w) (hE : E w w) : StepW P ops E o a w R := .inr ⟨hw, h, hE⟩

section
variable {ds : List Tmp} {t : Array Value} {df : List Deferred} {n : Nat} {o : Oper} {os : List Oper} {Rs : List VR}
theorem relW_any (R : VR) (hst : StabAt X d0 Rs.length R) (hs : Lay ds t [] fun t us => ∀ w, S w → (Rs.length = d0 → T w) → FactsE Rs us w o.after.toList → StepW P ops (EX X d0 Rs.length) o ⟨t, df⟩ w R) (hn : RelW P ops S T X d0 ds t df Q n os (Rs ++ [R])) :
    RelW P ops S T X d0 ds t df Q (n + 1) (o :: os) Rs := ⟨R, hst, hs, hn⟩
theorem relW_eq {v : Value} (hs : Lay ds t [] fun t us => ∀ w, S w → (Rs.length = d0 → T w) → FactsE Rs us w o.after.toList → StepW P ops (EX X d0 Rs.length) o ⟨t, df⟩ w (fun u _ => u = v)) (hn : RelW P ops S T X d0 ds t df Q n os (Rs ++ [fun u _ => u = v])) :
    RelW P ops S T X d0 ds t df Q (n + 1) (o :: os) Rs := ⟨_, stabAt_eq X d0 _ v, hs, hn⟩
theorem relW_end {l2 : List Oper} (h : Lay ds t [] fun t us => ∀ w, S w → FactsA w Rs us → wpList P ops Q l2 ⟨t, df⟩ w) : RelW P ops S T X d0 ds t df Q 0 l2 Rs := h
theorem ex_other {i : Nat} {w w' : World} (hi : i ≠ d0) (h : Below w.heap.size w w') : EX X d0 i w w' := by unfold EX; rw [if_neg hi]; exact h
theorem ex_writer {i : Nat} {w w' : World} (hi : i = d0) (h : X w w') : EX X d0 i w w' := by unfold EX; rw [if_pos hi]; exact h
end

theorem StepW_of_yields {E : World → World → Prop} (hE : ∀ w, E w w) {o : Oper} {a : Act} {w : World} {v : Value} (h : Yields P ops o v a) : StepW P ops E o a w (fun u _ => u = v) := by
  rcases h with ⟨hw, hr⟩ | ⟨hw, rfl⟩
  · refine .inl ⟨hw, ?_⟩
    rw [hr w]
    exact ⟨rfl, hE w⟩
  · exact .inr ⟨hw, rfl, hE w⟩

theorem wpAny_relWQ {B : List Nat} (hB : edgesOk ops B = true) {ds : List Tmp} {t : Array Value} {df : List Deferred} {Rs : List VR} {l2 : List Oper} {q : Nat} {oq : Oper} {v : Value}
    (hq : q < ds.length) (hqd : q ≠ d0) (hoq : ops[q]? = some oq) (hRq : Rs[q]? = some (fun u _ => u = v)) (hsel : ∀ (j : Nat) (o : Oper) cs b, ops[j]? = some o → o.op ≠ .select cs b)
    (hfree : freeQ ops q ds.length = true) (hQ : ∀ c a w, ¬ Q (.panic c) a w)
    (hyield : Lay ds t [] fun t us => ∀ w, S w → FactsE (Rs.take q) us w (oq.after.toList.filter (Region.binds .any)) → Yields P ops oq v ⟨t, df⟩)
    (hbind : ∀ (j : Nat) o, j < ds.length → j ≠ q → ops[j]? = some o → ∀ e ∈ o.after, Region.binds .any e = true) (hds : dstIs ops ds) (hnd : ds.Nodup) (hdt : ∀ d ∈ ds, d < t.size) (hSX : ∀ w w', S w → X w w' → S w') (hBX : ∀ w w', Below w.heap.size w w' → X w w') (hTB : ∀ w w', T w → Below w.heap.size w w' → T w') (hRS : ∀ (j : Nat) R, Rs[j]? = some R → StabAt X d0 j R) (hn : Rs.length = ds.length)
    (hcut : cutFromQ ops B q ds.length = true) (hlen : ds.length + l2.length = ops.size) (hl : ∀ j, l2[j]? = ops[ds.length + j]?)
    (hstep : ∀ (i : Nat) o R, i < ds.length → i ≠ q → ops[i]? = some o → Rs[i]? = some R → Lay ds t [] fun t us => ∀ w, S w → (i = d0 → T w) → FactsE (Rs.take i) us w o.after.toList → StepW P ops (EX X d0 i) o ⟨t, df⟩ w R)
    (hend : Lay ds t [] fun t us => ∀ w, S w → FactsA w Rs us → wpList P ops Q l2 ⟨t, df⟩ w) :
    ∀ (fuel : Nat) (R1 : List Nat) (listed : Array Bool) (a : Act) (w : World), listed.size = ops.size → ClosedL ops listed → unlisted listed = R1 ++ List.range' ds.length l2.length → (∀ i ∈ R1, i < ds.length) →
      (unlisted listed).length ≤ fuel → MidW S T d0 ds t df Rs listed a w → wpAny P .any ops Q fuel listed a w := by
  have finish : ∀ (fuel : Nat) (listed : Array Bool) (a : Act) (w : World), listed.size = ops.size → ClosedL ops listed → unlisted listed = List.range' ds.length l2.length →
      (unlisted listed).length ≤ fuel → MidW S T d0 ds t df Rs listed a w → wpAny P .any ops Q fuel listed a w := by
    intro fuel listed a w hsz hc hu hf hM
    refine wpAny_chainQ hB l2 ds.length fuel listed a w hl hcut hq hlen hsz hc hu (by rw [hu] at hf; simpa using hf) ?_
    have := Lay_inst ds t a.tmps [] hend hM.size hM.other hdt w hM.holds (FactsA_of _ _ fun j R u hR hu' => by
      simp only [List.nil_append, List.getElem?_map, Option.map_eq_some_iff] at hu'
      obtain ⟨d, hd, rfl⟩ := hu'
      refine hM.rel j d R hd ?_ hR
      have hj : j < ds.length := (List.getElem?_eq_some_iff.1 hd).1
      have hjs : j < listed.size := by omega
      by_cases hq : listed.getD j true = true
      · simp only [Array.getD_eq_getD_getElem?, Array.getElem?_eq_getElem hjs, Option.getD_some] at hq ⊢
        exact hq
      · exfalso
        have : j ∈ unlisted listed := List.mem_filter.2 ⟨List.mem_range.2 (by omega), by simpa using hq⟩
        rw [hu] at this
        have := (List.mem_range'_1.1 this).1
        omega)
    obtain ⟨tm, dfr⟩ := a
    obtain rfl : dfr = df := hM.defers
    exact this
  -- what one operation's step does to what holds midway
  have next : ∀ (i : Nat) (o : Oper) (R : VR) (listed : Array Bool) (a : Act) (w w' : World) (u : Value), listed.size = ops.size → i < ds.length → ops[i]? = some o → Rs[i]? = some R → MidW S T d0 ds t df Rs listed a w → R u w' → EX X d0 i w w' →
      MidW S T d0 ds t df Rs (listed.setIfInBounds i true) (a.put o.dst u) w' := by
    intro i o R listed a w w' u hsz hilt ho hRi hM hR hE
    have hb : X w w' := by
      unfold EX at hE
      split at hE
      · exact hE
      · exact hBX _ _ hE
    have hdi : ds[i]? = some ds[i] := List.getElem?_eq_getElem hilt
    obtain ⟨o', ho', hdst⟩ := hds i _ hdi
    obtain rfl : o = o' := by rw [ho] at ho'; exact Option.some.inj ho'
    have hput : (a.put o.dst u).tmps = a.tmps.setIfInBounds ds[i] u := by rw [hdst]; rfl
    have hdis : ds[i] < t.size := hdt _ (List.getElem_mem _)
    refine ⟨by rw [hput]; simp [hM.size], by rw [hdst]; exact hM.defers, fun k hk => ?_, hSX w w' hM.holds hb, fun hp => (by
        rw [getD_set_true (by have := (Array.getElem?_eq_some_iff.1 ho).1; omega)] at hp
        simp only [Bool.or_eq_false_iff, decide_eq_false_iff_not] at hp
        unfold EX at hE
        rw [if_neg (fun e => hp.1 e.symm)] at hE
        exact hTB w w' (hM.pre hp.2) hE), fun j d R' hd hlj hRj => ?_⟩
    · rw [hput, Array.getElem?_setIfInBounds, if_neg (fun e => hk (by rw [← e]; exact List.getElem_mem _))]
      exact hM.other k hk
    · rw [hput]
      by_cases hji : j = i
      · subst hji
        rw [hdi] at hd
        rw [hRi] at hRj
        obtain rfl := Option.some.inj hd
        obtain rfl := Option.some.inj hRj
        simp only [Array.getD_eq_getD_getElem?, Array.getElem?_setIfInBounds, if_true, hM.size, hdis, Option.getD_some]
        exact hR
      · have hne : ds[i] ≠ d := fun e => hji (by
          have hjl : j < ds.length := (List.getElem?_eq_some_iff.1 hd).1
          have hdj : ds[j] = d := (List.getElem?_eq_some_iff.1 hd).2
          exact (List.getElem_inj hnd).1 (hdj.trans e.symm))
        have e2 : (a.tmps.setIfInBounds ds[i] u).getD d undef = a.tmps.getD d undef := by
          simp only [Array.getD_eq_getD_getElem?, Array.getElem?_setIfInBounds, if_neg hne]
        rw [e2]
        refine (?_ : ∀ u, R' u w → R' u w') _ (hM.rel j d R' hd ?_ hRj)
        · intro u hu
          unfold EX at hE
          by_cases hid : i = d0
          · exact (hRS j R' hRj).2 (fun e => hji (e.trans hid.symm)) u w w' hu hb
          · rw [if_neg hid] at hE
            by_cases hjd : j = d0
            · exact (hRS j R' hRj).1 hjd u w w' hu hE
            · exact (hRS j R' hRj).2 hjd u w w' hu hb
        have hjn : ¬ i = j := fun e => hji e.symm
        simpa only [Array.getD_eq_getD_getElem?, Array.getElem?_setIfInBounds, if_neg hjn] using hlj
  -- the late one's value, once it may come
  have late : ∀ (listed : Array Bool) (a : Act) (w : World), (∀ e ∈ oq.after, Region.binds .any e = true → listed.getD e.on false = true) → MidW S T d0 ds t df Rs listed a w → Yields P ops oq v a := by
    intro listed a w hdep hM
    have := Lay_inst ds t a.tmps [] hyield hM.size hM.other hdt w hM.holds (FactsE_of _ fun e he R u hR hu' => by
      obtain ⟨he1, he2⟩ := List.mem_filter.1 he
      simp only [List.nil_append, List.getElem?_map, Option.map_eq_some_iff] at hu'
      obtain ⟨d, hd, rfl⟩ := hu'
      have hlt' := (edges_spec hB hoq).1 e (Array.mem_toList_iff.1 he1) he2
      rw [List.getElem?_take_of_lt hlt'] at hR
      exact hM.rel e.on d R hd (hdep e (Array.mem_toList_iff.1 he1) he2) hR)
    obtain ⟨tm, dfr⟩ := a
    obtain rfl : dfr = df := hM.defers
    exact this
  intro fuel
  induction fuel with
  | zero =>
    intro R1 listed a w hsz hc hu hR1 hf hM
    have h0 : unlisted listed = [] := List.eq_nil_of_length_eq_zero (by omega)
    rw [h0] at hu
    have hu2 := List.append_eq_nil_iff.1 hu.symm
    exact finish 0 listed a w hsz hc (by rw [h0, hu2.2]) hf hM
  | succ f ih =>
    intro R1 listed a w hsz hc hu hR1 hf hM
    cases hRc : R1 with
    | nil => subst hRc; exact finish (f + 1) listed a w hsz hc (by simpa using hu) hf hM
    | cons r R1' =>
      have hrm : r ∈ unlisted listed := by rw [hu, hRc]; simp
      have hrlt : r < ds.length := hR1 r (by rw [hRc]; simp)
      have hro : ops[r]? = some ops[r] := Array.getElem?_eq_getElem (by omega)
      have hsort := sorted_unlisted listed
      have hready : r ∈ Region.ready .any ops listed := mem_ready'.2 ⟨by omega, by simpa using (List.mem_filter.1 hrm).2, _, hro, fun e he hb => by
        have he' := (edges_spec hB hro).1 e he hb
        by_cases hq : listed.getD e.on true = true
        · have : e.on < listed.size := by omega
          simp only [Array.getD_eq_getD_getElem?, Array.getElem?_eq_getElem this, Option.getD_some] at hq ⊢
          exact hq
        · exfalso
          have hm : e.on ∈ unlisted listed := List.mem_filter.2 ⟨List.mem_range.2 (by omega), by simpa using hq⟩
          rw [hu, hRc] at hm hsort
          simp only [List.cons_append] at hm hsort
          rcases List.mem_cons.1 hm with hm | hm
          · omega
          · have := (List.pairwise_cons.1 hsort).1 _ hm
            omega⟩
      by_cases hlast : ∀ i ∈ R1, i = q
      · -- only the late one is left of those ahead
        have hrq : r = q := hlast r (by rw [hRc]; simp)
        have hnil : R1' = [] := by
          refine List.eq_nil_iff_forall_not_mem.2 fun i hi => ?_
          have hiq := hlast i (by rw [hRc]; simp [hi])
          rw [hu, hRc] at hsort
          have := (List.pairwise_cons.1 hsort).1 i (by simp [hi])
          omega
        subst hnil
        rw [hrq] at hready hRc hrm hrlt
        obtain ⟨hlt, hun, o', ho', hdep⟩ := mem_ready'.1 hready
        obtain rfl : oq = o' := by rw [hoq] at ho'; exact Option.some.inj ho'
        have hy := late listed a w hdep hM
        have hnew : unlisted (listed.setIfInBounds q true) = List.range' ds.length l2.length := by
          have := unlisted_set (R1 := []) (R2 := List.range' ds.length l2.length) (listed := listed) (i := q) (by omega) (by rw [hu, hRc]; simp)
          simpa using this
        refine wpAny_first hoq hsel (fun c a w h => absurd h (hQ c _ w)) f listed a w ?_ hready hy ?_
        · intro j oj hj hjq hjun hno
          have hjs : j < ops.size := (Array.getElem?_eq_some_iff.1 hj).1
          have hge : ds.length ≤ j := by
            have hm : j ∈ unlisted listed := List.mem_filter.2 ⟨List.mem_range.2 (by omega), by simpa using hjun⟩
            rw [hu, hRc] at hm
            rcases List.mem_append.1 hm with h | h
            · exact absurd (List.mem_singleton.1 h) hjq
            · exact (List.mem_range'_1.1 h).1
          unfold freeQ at hfree
          have := (List.all_eq_true.1 hfree) j (List.mem_range.2 hjs)
          simp only [hj, hoq, Bool.or_eq_true, decide_eq_true_eq] at this
          rcases this with h1 | h1 | h1
          · omega
          · exfalso
            obtain ⟨e, he, hb⟩ := Array.any_eq_true'.1 h1
            simp only [Bool.and_eq_true, beq_iff_eq] at hb
            exact hno e he hb.1 hb.2
          · exact h1
        · refine finish f _ _ w (by simp [hsz]) (closed_set (by omega) hc hoq hdep) hnew ?_ (next q oq _ listed a w w v hsz hq hoq hRq hM rfl (ex_other hqd (Below.refl _ _)))
          rw [hnew]; rw [hu, hRc] at hf; simp at hf ⊢; omega
      · obtain ⟨r', hr'⟩ := Classical.not_forall.1 hlast
        obtain ⟨hr'm, hr'q⟩ := Classical.not_imp.1 hr'
        refine ⟨fun hr => (by rw [hr] at hready; cases hready), fun i hi => ?_⟩
        obtain ⟨hlt, hun, o, ho, hdep⟩ := mem_ready'.1 hi
        have hr'u : r' ∈ unlisted listed := by rw [hu]; exact List.mem_append_left _ hr'm
        have hilt : i < ds.length := by
          by_cases hq : i < ds.length
          · exact hq
          · exfalso
            have hb := cutAtQ_spec (cutFromQ_spec hcut (Nat.le_refl _) (by omega)) hlt (by omega : ds.length ≤ i) (hR1 r' hr'm) hr'q
            have hl := bits_listed hB hc (i + 1) i o (by omega) ho hdep r' (by have := hR1 r' hr'm; omega) hb
            have := (List.mem_filter.1 hr'u).2
            rw [getD_tf hl] at this
            cases this
        have hm : i ∈ R1 := by
          have : i ∈ unlisted listed := List.mem_filter.2 ⟨List.mem_range.2 (by omega), by simpa using hun⟩
          rw [hu] at this
          rcases List.mem_append.1 this with h | h
          · exact h
          · have := (List.mem_range'_1.1 h).1
            omega
        obtain ⟨Ra, Rb, hab⟩ := List.append_of_mem hm
        have hnew : unlisted (listed.setIfInBounds i true) = (Ra ++ Rb) ++ List.range' ds.length l2.length := by
          have := unlisted_set (R1 := Ra) (R2 := Rb ++ List.range' ds.length l2.length) (listed := listed) (i := i) (by omega) (by rw [hu, hab]; simp)
          rw [this, List.append_assoc]
        have hRi : Rs[i]? = some Rs[i] := List.getElem?_eq_getElem (by omega)
        have hst' : StepW P ops (EX X d0 i) o a w Rs[i] := by
          by_cases hiq : i = q
          · subst hiq
            obtain rfl : oq = o := by rw [hoq] at ho; exact Option.some.inj ho
            have e : Rs[i] = (fun u _ => u = v) := by rw [hRi] at hRq; exact Option.some.inj hRq
            rw [e]
            exact StepW_of_yields (fun w => ex_other hqd (Below.refl _ _)) (late listed a w hdep hM)
          · have hst := Lay_inst ds t a.tmps [] (hstep i o _ hilt hiq ho hRi) hM.size hM.other hdt w hM.holds (fun e => hM.pre (e ▸ hun)) (FactsE_of _ fun e he R u hR hu' => by
              have hb := hbind i o hilt hiq ho e (Array.mem_toList_iff.1 he)
              simp only [List.nil_append, List.getElem?_map, Option.map_eq_some_iff] at hu'
              obtain ⟨d, hd, rfl⟩ := hu'
              have hlt' := (edges_spec hB ho).1 e (Array.mem_toList_iff.1 he) hb
              rw [List.getElem?_take_of_lt hlt'] at hR
              exact hM.rel e.on d R hd (hdep e (Array.mem_toList_iff.1 he) hb) hR)
            obtain ⟨tm, dfr⟩ := a
            obtain rfl : dfr = df := hM.defers
            exact hst
        refine hst'.wpOp ho fun u w' hR hb => ?_
        exact ih (Ra ++ Rb) _ _ w' (by simp [hsz]) (closed_set (by omega) hc ho hdep) hnew (fun k hk => hR1 k (by rw [hab]; simp at hk ⊢; rcases hk with h | h <;> simp [h])) (by rw [hnew]; rw [hu, hab] at hf; simp at hf ⊢; omega) (next i o _ listed a w w' u hsz hilt ho hRi hM hR hb)

/-- As RelW; the operation that is q ahead may come late. -/
def RelWQ (P : Program) (ops : Array Oper) (S T : World → Prop) (X : World → World → Prop) (d0 : Nat) (ds : List Tmp) (t : Array Value) (df : List Deferred) (Q : Exit → Act → World → Prop) : Nat → Nat → List Oper → List VR → Prop
  | _, 0, _, _ => False
  | _, _ + 1, [], _ => False
  | 0, n + 1, o :: os, Rs => ∃ v : Value, Rs.length ≠ d0 ∧ (Lay ds t [] fun t us => ∀ w, S w → FactsE Rs us w (o.after.toList.filter (Region.binds .any)) → Yields P ops o v ⟨t, df⟩) ∧ RelW P ops S T X d0 ds t df Q n os (Rs ++ [(fun (u : Value) (_ : World) => u = v : VR)])
  | q + 1, n + 1, o :: os, Rs => ∃ R : VR, StabAt X d0 Rs.length R ∧ (Lay ds t [] fun t us => ∀ w, S w → (Rs.length = d0 → T w) → FactsE Rs us w o.after.toList → StepW P ops (EX X d0 Rs.length) o ⟨t, df⟩ w R) ∧ RelWQ P ops S T X d0 ds t df Q q n os (Rs ++ [R])

theorem RelWQ_split {ds : List Tmp} {t : Array Value} {df : List Deferred} : ∀ (q n : Nat) (l : List Oper) (Rs : List VR), RelWQ P ops S T X d0 ds t df Q q n l Rs →
    ∃ (Rs' : List VR) (v : Value) (oq : Oper), q < n ∧ Rs.length + q ≠ d0 ∧ l[q]? = some oq ∧ Rs'[q]? = some (fun u _ => u = v) ∧ Rs'.length = n ∧ (∀ (i : Nat) R, Rs'[i]? = some R → StabAt X d0 (Rs.length + i) R) ∧ n ≤ l.length ∧
      (Lay ds t [] fun t us => ∀ w, S w → FactsE (Rs ++ Rs'.take q) us w (oq.after.toList.filter (Region.binds .any)) → Yields P ops oq v ⟨t, df⟩) ∧
      (∀ (i : Nat) o R, i < n → i ≠ q → l[i]? = some o → Rs'[i]? = some R → Lay ds t [] fun t us => ∀ w, S w → (Rs.length + i = d0 → T w) → FactsE (Rs ++ Rs'.take i) us w o.after.toList → StepW P ops (EX X d0 (Rs.length + i)) o ⟨t, df⟩ w R) ∧
      (Lay ds t [] fun t us => ∀ w, S w → FactsA w (Rs ++ Rs') us → wpList P ops Q (l.drop n) ⟨t, df⟩ w)
  | 0, 0, _, _, h => by simp [RelWQ] at h
  | _ + 1, 0, _, _, h => by simp [RelWQ] at h
  | 0, _ + 1, [], _, h => by simp [RelWQ] at h
  | _ + 1, _ + 1, [], _, h => by simp [RelWQ] at h
  | 0, n + 1, o :: os, Rs, h => by
    simp only [RelWQ] at h
    obtain ⟨v, hd, h2, h3⟩ := h
    obtain ⟨Rs', e1, e2, e3, e4, e5⟩ := RelW_split n os _ h3
    refine ⟨(fun u _ => u = v) :: Rs', v, o, by omega, hd, rfl, rfl, by simp [e1], fun i R hR => ?_, by simpa using e3, by simpa using h2, fun i o' R' hi hiq ho hR => ?_, by simpa using e5⟩
    · cases i with
      | zero =>
        simp at hR
        subst hR
        exact stabAt_eq _ _ _ _
      | succ i =>
        have := e2 i R (by simpa using hR)
        simpa [Nat.add_assoc, Nat.add_comm 1 i] using this
    · cases i with
      | zero => exact absurd rfl hiq
      | succ i => simpa [Nat.add_assoc, Nat.add_comm 1 i] using e4 i o' R' (by omega) (by simpa using ho) (by simpa using hR)
  | q + 1, n + 1, o :: os, Rs, h => by
    simp only [RelWQ] at h
    obtain ⟨R, h1, h2, h3⟩ := h
    obtain ⟨Rs', v, oq, d1, dd, d2, d3, e1, e2, e3, ey, e4, e5⟩ := RelWQ_split q n os _ h3
    refine ⟨R :: Rs', v, oq, by omega, by simpa [Nat.add_assoc, Nat.add_comm 1 q] using dd, by simpa using d2, by simpa using d3, by simp [e1], fun i R' hR => ?_, by simpa using e3, by simpa using ey, fun i o' R' hi hiq ho hR => ?_, by simpa using e5⟩
    · cases i with
      | zero =>
        simp at hR
        subst hR
        simpa using h1
      | succ i =>
        have := e2 i R' (by simpa using hR)
        simpa [Nat.add_assoc, Nat.add_comm 1 i] using this
    · cases i with
      | zero =>
        simp at ho hR
        subst ho hR
        simpa using h2
      | succ i => simpa [Nat.add_assoc, Nat.add_comm 1 i] using e4 i o' R' (by omega) (by omega) (by simpa using ho) (by simpa using hR)

/-- THE LAW. q: which of the operations ds may come late. -/
theorem wp_region_relWQ (S T : World → Prop) (X : World → World → Prop) (d0 q : Nat) (ds : List Tmp) {id : Nat} {l : List Oper} {t : Array Value} {df : List Deferred} {w : World} (hm : P.follows .mixedOrders = true)
    (hB : ((edgesOk l.toArray (bitsOf l.toArray) && cutFromQ l.toArray (bitsOf l.toArray) q ds.length) && ((List.range ds.length).all (fun j => j == q || match l[j]? with | some o => o.after.all (Region.binds .any) | none => true) && (Region.noSelect l.toArray && freeQ l.toArray q ds.length))) = true)
    (hds : ((l.take ds.length).map (·.dst) == ds.map some) = true) (hnd : ds.Nodup) (hdt : ds.all (· < t.size) = true) (hSX : ∀ w w', S w → X w w' → S w') (hBX : ∀ w w', Below w.heap.size w w' → X w w') (hTB : ∀ w w', T w → Below w.heap.size w w' → T w') (hS : S w.drew) (hT : T w.drew)
    (h : RelWQ P l.toArray S T X d0 ds t df (NoPanic Q) q ds.length l []) : (Code.region id l.toArray true).wp P Q ⟨t, df⟩ w := by
  refine wp_region_noPanic ?_
  rw [Bool.and_eq_true, Bool.and_eq_true, Bool.and_eq_true, Bool.and_eq_true] at hB
  obtain ⟨⟨hB, hcut⟩, hbn, hns, hfr⟩ := hB
  obtain ⟨Rs, v, oq, d1, dd, d2, d3, e1, e2, e3, ey, e4, e5⟩ := RelWQ_split _ _ _ _ h
  have hds := eq_of_beq hds
  refine wp_region_any hm ?_
  have hu : unlisted (Array.replicate l.toArray.size false) = List.range' 0 l.length := by
    unfold unlisted
    rw [List.filter_eq_self.2 (fun i hi => by simp at hi; simp [hi]), List.range_eq_range']
    simp
  have hlen : (l.drop ds.length).length = l.length - ds.length := List.length_drop
  refine wpAny_relWQ (S := S) (T := T) (X := X) (d0 := d0) (t := t) (df := df) (Rs := Rs) (ds := ds) (l2 := l.drop ds.length) hB d1 (by simpa using dd) (by simpa using d2) d3 (Region.noSelect_spec hns) hfr (fun c a w h => h) (by simpa using ey) (fun j o hjl hjq hj e he => by
    have := (List.all_eq_true.1 hbn) j (List.mem_range.2 hjl)
    have hj' : l[j]? = some o := by simpa using hj
    simp only [hj', Bool.or_eq_true, beq_iff_eq] at this
    rcases this with h1 | h1
    · exact absurd h1 hjq
    · exact Array.all_eq_true'.1 h1 e he) ?_ hnd (fun d hd => by simpa using (List.all_eq_true.1 hdt) d hd) hSX hBX hTB (fun j R hR => by have := e2 j R hR; simpa using this) e1 hcut (by rw [hlen]; simp; omega) (fun j => by simp) ?_ (by simpa using e5) _ (List.range' 0 ds.length) _ _ _
    (by simp) ?_ ?_ (fun i hi => by have := (List.mem_range'_1.1 hi).2; omega) (by rw [hu]; simp) ⟨rfl, rfl, fun _ _ => rfl, hS, fun _ => hT, fun j d R _ hl _ => ?_⟩
  · intro j d hd
    have hj : j < ds.length := (List.getElem?_eq_some_iff.1 hd).1
    have h2 : ((l.take ds.length).map (·.dst))[j]? = some (some d) := by rw [hds, List.getElem?_map, hd]; rfl
    rw [List.getElem?_map, List.getElem?_take_of_lt hj] at h2
    obtain ⟨o, ho, hod⟩ := Option.map_eq_some_iff.1 h2
    exact ⟨o, by simpa using ho, hod⟩
  · intro i o R hi hiq ho hR
    have := e4 i o R hi hiq (by simpa using ho) hR
    simpa using this
  · intro j o hj hl
    exfalso
    have : j < l.length := by simpa using (Array.getElem?_eq_some_iff.1 hj).1
    simp [Array.getD_eq_getD_getElem?, this] at hl
  · rw [hu, hlen, show l.length = ds.length + (l.length - ds.length) from by omega, ← List.range'_append_1]
    simp
  · exfalso
    by_cases hq : j < l.length
    · simp [Array.getD_eq_getD_getElem?, hq] at hl
    · simp [Array.getD_eq_getD_getElem?, hq] at hl

theorem relWQ_late {ds : List Tmp} {t : Array Value} {df : List Deferred} {n : Nat} {o : Oper} {os : List Oper} {Rs : List VR} (v : Value) (hd : Rs.length ≠ d0) (hs : Lay ds t [] fun t us => ∀ w, S w → FactsE Rs us w (o.after.toList.filter (Region.binds .any)) → Yields P ops o v ⟨t, df⟩) (hn : RelW P ops S T X d0 ds t df Q n os (Rs ++ [fun u _ => u = v])) :
    RelWQ P ops S T X d0 ds t df Q 0 (n + 1) (o :: os) Rs := by
  simp only [RelWQ]
  exact ⟨v, hd, hs, hn⟩
end
end Go.Proofs.Yteohokidlopbnaa
