/- A region whose order is open, each operation by itself, of which one pure operation may come late: behind some of the operations at the end, which do not wait for it. -/
import Derived.Test.YteohokidlopbnaaRel
import Derived.OrdersHeld
import Derived.Deep.RegionHeld3
namespace Go.Proofs.Yteohokidlopbnaa
open Go.RowKit

def cutAtQ (ops : Array Oper) (B : List Nat) (q k : Nat) : Bool := (List.range ops.size).all fun j => decide (j < k) || (List.range k).all fun i => i == q || (B.getD j 0).testBit i
theorem cutAtQ_spec {ops : Array Oper} {B : List Nat} {q k : Nat} (h : cutAtQ ops B q k = true) {j i : Nat} (hj : j < ops.size) (hkj : k ≤ j) (hi : i < k) (hq : i ≠ q) : (B.getD j 0).testBit i = true := by
  unfold cutAtQ at h
  have := (List.all_eq_true.1 h) j (List.mem_range.2 hj)
  simp only [Bool.or_eq_true, decide_eq_true_eq, List.all_eq_true, List.mem_range, beq_iff_eq] at this
  rcases this with h1 | h1
  · omega
  · rcases h1 i hi with h2 | h2
    · exact absurd h2 hq
    · exact h2
def cutFromQ (ops : Array Oper) (B : List Nat) (q c : Nat) : Bool := (List.range (ops.size + 1)).all fun m => decide (m < c) || cutAtQ ops B q m
theorem cutFromQ_spec {ops : Array Oper} {B : List Nat} {q c m : Nat} (h : cutFromQ ops B q c = true) (hm : c ≤ m) (hs : m ≤ ops.size) : cutAtQ ops B q m = true := by
  unfold cutFromQ at h
  have := (List.all_eq_true.1 h) m (List.mem_range.2 (by omega))
  simp only [Bool.or_eq_true, decide_eq_true_eq] at this
  rcases this with h1 | h1
  · omega
  · exact h1
/-- The operations at the end are apart from the late one, or wait for it. -/
def freeQ (ops : Array Oper) (q m : Nat) : Bool := (List.range ops.size).all fun j => decide (j < m) || match ops[j]?, ops[q]? with
  | some oj, some oq => oj.after.any (fun e => Region.binds .any e && e.on == q) || oq.apart ops oj
  | _, _ => true

section
variable {P : Program} {ops : Array Oper} {Q : Exit → Act → World → Prop} {S : World → Prop}

theorem StepE_of_yields {o : Oper} {a : Act} {w : World} {v : Value} (h : Yields P ops o v a) : StepE P ops o a w (fun u _ => u = v) := by
  rcases h with ⟨hw, hr⟩ | ⟨hw, rfl⟩
  · refine .inl ⟨hw, ?_⟩
    rw [hr w]
    exact ⟨rfl, Below.refl _ _⟩
  · exact .inr ⟨hw, rfl⟩

/-- The chain at the end, once all ahead is done. -/
theorem wpAny_chainQ {B : List Nat} (hB : edgesOk ops B = true) {q : Nat} : ∀ (l2 : List Oper) (k : Nat) (fuel : Nat) (listed : Array Bool) (a : Act) (w : World),
    (∀ j, l2[j]? = ops[k + j]?) → cutFromQ ops B q k = true → q < k → k + l2.length = ops.size → listed.size = ops.size → ClosedL ops listed → unlisted listed = List.range' k l2.length → l2.length ≤ fuel →
      wpList P ops Q l2 a w → wpAny P .any ops Q fuel listed a w
  | [], k, fuel, listed, a, w, _, _, _, _, hsz, hc, hu, _, h => by
    have hr : Region.ready .any ops listed = [] := by
      refine List.eq_nil_iff_forall_not_mem.2 fun i hi => ?_
      obtain ⟨hlt, hun, -⟩ := mem_ready'.1 hi
      have : i ∈ unlisted listed := List.mem_filter.2 ⟨List.mem_range.2 (by omega), by simpa using hun⟩
      rw [hu] at this
      cases this
    cases fuel with
    | zero => exact ⟨hr, h⟩
    | succ f => exact ⟨fun _ => h, fun i hi => by rw [hr] at hi; cases hi⟩
  | o :: l2, k, fuel, listed, a, w, hl, hcut, hqk, hlen, hsz, hc, hu, hf, h => by
    obtain ⟨f, rfl⟩ : ∃ f, fuel = f + 1 := ⟨fuel - 1, by simp at hf; omega⟩
    have hk : ops[k]? = some o := by simpa using (hl 0).symm
    simp only [List.length_cons] at hlen hu hf
    have hall : ∀ i, i < k → listed.getD i true = true := fun i hi => by
      by_cases hq : listed.getD i true = true
      · exact hq
      · exfalso
        have : i ∈ unlisted listed := List.mem_filter.2 ⟨List.mem_range.2 (by omega), by simpa using hq⟩
        rw [hu] at this
        have := (List.mem_range'_1.1 this).1
        omega
    have hkr : k ∈ Region.ready .any ops listed := mem_ready'.2 ⟨by omega, by
      have : k ∈ unlisted listed := by rw [hu]; exact List.mem_range'_1.2 ⟨Nat.le_refl _, by omega⟩
      simpa using (List.mem_filter.1 this).2, o, hk, fun e he hb => by
      have hlt := (edges_spec hB hk).1 e he hb
      have := hall e.on hlt
      have hsz' : e.on < listed.size := by omega
      simp only [Array.getD_eq_getD_getElem?, Array.getElem?_eq_getElem hsz', Option.getD_some] at this ⊢
      exact this⟩
    refine ⟨fun hr => (by rw [hr] at hkr; cases hkr), fun i hi => ?_⟩
    obtain ⟨hlt, hun, oi, hoi, hdep⟩ := mem_ready'.1 hi
    have hik : i = k := by
      have hm : i ∈ unlisted listed := List.mem_filter.2 ⟨List.mem_range.2 (by omega), by simpa using hun⟩
      rw [hu] at hm
      have h1 := (List.mem_range'_1.1 hm).1
      by_cases he : i = k
      · exact he
      · exfalso
        have hb := cutAtQ_spec (cutFromQ_spec hcut (Nat.le_succ k) (by omega)) hlt (by omega : k + 1 ≤ i) (Nat.lt_succ_self k) (by omega)
        have hl := bits_listed hB hc (i + 1) i oi (by omega) hoi hdep k (by omega) hb
        have hku : k ∈ unlisted listed := by rw [hu]; exact List.mem_range'_1.2 ⟨Nat.le_refl _, by omega⟩
        have := (List.mem_filter.1 hku).2
        rw [getD_tf hl] at this
        cases this
    subst hik
    obtain rfl : oi = o := by rw [hk] at hoi; exact (Option.some.inj hoi).symm
    have hnew : unlisted (listed.setIfInBounds i true) = List.range' (i + 1) l2.length := by
      have := unlisted_set (R1 := []) (R2 := List.range' (i + 1) l2.length) (listed := listed) (i := i) (by omega) (by rw [hu, List.range'_succ]; simp)
      simpa using this
    have hcut' : cutFromQ ops B q (i + 1) = true := by
      unfold cutFromQ at hcut ⊢
      refine List.all_eq_true.2 fun m hm => ?_
      have := (List.all_eq_true.1 hcut) m hm
      simp only [Bool.or_eq_true, decide_eq_true_eq] at this ⊢
      rcases this with h1 | h1
      · exact .inl (by omega)
      · exact .inr h1
    have ih := fun a' w' => wpAny_chainQ hB l2 (i + 1) f _ a' w' (fun j => by have := hl (j + 1); simpa [Nat.add_assoc, Nat.add_comm 1 j] using this) hcut' (by omega) (by omega) (by simp [hsz]) (closed_set (by omega) hc hk hdep) hnew (by omega)
    refine wpOp_mono ih ?_
    unfold Go.wpOp
    simp only [hk]
    exact h

theorem wpAny_relQ {B : List Nat} (hB : edgesOk ops B = true) {ds : List Tmp} {t : Array Value} {df : List Deferred} {Rs : List VR} {l2 : List Oper} {q : Nat} {oq : Oper} {v : Value}
    (hq : q < ds.length) (hoq : ops[q]? = some oq) (hRq : Rs[q]? = some (fun u _ => u = v)) (hsel : ∀ (j : Nat) (o : Oper) cs b, ops[j]? = some o → o.op ≠ .select cs b)
    (hfree : freeQ ops q ds.length = true) (hQ : ∀ c a w, ¬ Q (.panic c) a w)
    (hyield : Lay ds t [] fun t us => ∀ w, S w → FactsE (Rs.take q) us w (oq.after.toList.filter (Region.binds .any)) → Yields P ops oq v ⟨t, df⟩)
    (hbind : ∀ (j : Nat) o, j < ds.length → j ≠ q → ops[j]? = some o → ∀ e ∈ o.after, Region.binds .any e = true) (hds : dstIs ops ds) (hnd : ds.Nodup) (hdt : ∀ d ∈ ds, d < t.size) (hSS : ∀ w w', S w → Below w.heap.size w w' → S w') (hRS : ∀ R ∈ Rs, Stable R) (hn : Rs.length = ds.length)
    (hcut : cutFromQ ops B q ds.length = true) (hlen : ds.length + l2.length = ops.size) (hl : ∀ j, l2[j]? = ops[ds.length + j]?)
    (hstep : ∀ (i : Nat) o R, i < ds.length → i ≠ q → ops[i]? = some o → Rs[i]? = some R → Lay ds t [] fun t us => ∀ w, S w → FactsE (Rs.take i) us w o.after.toList → StepE P ops o ⟨t, df⟩ w R)
    (hend : Lay ds t [] fun t us => ∀ w, S w → FactsA w Rs us → wpList P ops Q l2 ⟨t, df⟩ w) :
    ∀ (fuel : Nat) (R1 : List Nat) (listed : Array Bool) (a : Act) (w : World), listed.size = ops.size → ClosedL ops listed → unlisted listed = R1 ++ List.range' ds.length l2.length → (∀ i ∈ R1, i < ds.length) →
      (unlisted listed).length ≤ fuel → Mid S ds t df Rs listed a w → wpAny P .any ops Q fuel listed a w := by
  have finish : ∀ (fuel : Nat) (listed : Array Bool) (a : Act) (w : World), listed.size = ops.size → ClosedL ops listed → unlisted listed = List.range' ds.length l2.length →
      (unlisted listed).length ≤ fuel → Mid S ds t df Rs listed a w → wpAny P .any ops Q fuel listed a w := by
    intro fuel listed a w hsz hc hu hf hM
    refine wpAny_chainQ hB l2 ds.length fuel listed a w hl hcut hq hlen hsz hc hu (by rw [hu] at hf; simpa using hf) ?_
    have := Lay_inst ds t a.tmps [] hend hM.size hM.other hdt w hM.holds (FactsA_of _ _ fun j R u hR hu' => by
      simp only [List.nil_append, List.getElem?_map, Option.map_eq_some_iff] at hu'
      obtain ⟨d, hd, rfl⟩ := hu'
      refine hM.rel j d R hd ?_ hR
      have hj : j < ds.length := (List.getElem?_eq_some_iff.1 hd).1
      have hjs : j < listed.size := by omega
      by_cases hq : listed.getD j true = true
      · simp only [Array.getD_eq_getD_getElem?, Array.getElem?_eq_getElem hjs, Option.getD_some] at hq ⊢
        exact hq
      · exfalso
        have : j ∈ unlisted listed := List.mem_filter.2 ⟨List.mem_range.2 (by omega), by simpa using hq⟩
        rw [hu] at this
        have := (List.mem_range'_1.1 this).1
        omega)
    obtain ⟨tm, dfr⟩ := a
    obtain rfl : dfr = df := hM.defers
    exact this
  -- what one operation's step does to what holds midway
  have next : ∀ (i : Nat) (o : Oper) (R : VR) (listed : Array Bool) (a : Act) (w w' : World) (u : Value), i < ds.length → ops[i]? = some o → Rs[i]? = some R → Mid S ds t df Rs listed a w → R u w' → Below w.heap.size w w' →
      Mid S ds t df Rs (listed.setIfInBounds i true) (a.put o.dst u) w' := by
    intro i o R listed a w w' u hilt ho hRi hM hR hb
    have hdi : ds[i]? = some ds[i] := List.getElem?_eq_getElem hilt
    obtain ⟨o', ho', hdst⟩ := hds i _ hdi
    obtain rfl : o = o' := by rw [ho] at ho'; exact Option.some.inj ho'
    have hput : (a.put o.dst u).tmps = a.tmps.setIfInBounds ds[i] u := by rw [hdst]; rfl
    have hdis : ds[i] < t.size := hdt _ (List.getElem_mem _)
    refine ⟨by rw [hput]; simp [hM.size], by rw [hdst]; exact hM.defers, fun k hk => ?_, hSS w w' hM.holds hb, fun j d R' hd hlj hRj => ?_⟩
    · rw [hput, Array.getElem?_setIfInBounds, if_neg (fun e => hk (by rw [← e]; exact List.getElem_mem _))]
      exact hM.other k hk
    · rw [hput]
      by_cases hji : j = i
      · subst hji
        rw [hdi] at hd
        rw [hRi] at hRj
        obtain rfl := Option.some.inj hd
        obtain rfl := Option.some.inj hRj
        simp only [Array.getD_eq_getD_getElem?, Array.getElem?_setIfInBounds, if_true, hM.size, hdis, Option.getD_some]
        exact hR
      · have hne : ds[i] ≠ d := fun e => hji (by
          have hjl : j < ds.length := (List.getElem?_eq_some_iff.1 hd).1
          have hdj : ds[j] = d := (List.getElem?_eq_some_iff.1 hd).2
          exact (List.getElem_inj hnd).1 (hdj.trans e.symm))
        have e2 : (a.tmps.setIfInBounds ds[i] u).getD d undef = a.tmps.getD d undef := by
          simp only [Array.getD_eq_getD_getElem?, Array.getElem?_setIfInBounds, if_neg hne]
        rw [e2]
        refine hRS R' (List.mem_of_getElem? hRj) _ w w' (hM.rel j d R' hd ?_ hRj) hb
        have hjn : ¬ i = j := fun e => hji e.symm
        simpa only [Array.getD_eq_getD_getElem?, Array.getElem?_setIfInBounds, if_neg hjn] using hlj
  -- the late one's value, once it may come
  have late : ∀ (listed : Array Bool) (a : Act) (w : World), (∀ e ∈ oq.after, Region.binds .any e = true → listed.getD e.on false = true) → Mid S ds t df Rs listed a w → Yields P ops oq v a := by
    intro listed a w hdep hM
    have := Lay_inst ds t a.tmps [] hyield hM.size hM.other hdt w hM.holds (FactsE_of _ fun e he R u hR hu' => by
      obtain ⟨he1, he2⟩ := List.mem_filter.1 he
      simp only [List.nil_append, List.getElem?_map, Option.map_eq_some_iff] at hu'
      obtain ⟨d, hd, rfl⟩ := hu'
      have hlt' := (edges_spec hB hoq).1 e (Array.mem_toList_iff.1 he1) he2
      rw [List.getElem?_take_of_lt hlt'] at hR
      exact hM.rel e.on d R hd (hdep e (Array.mem_toList_iff.1 he1) he2) hR)
    obtain ⟨tm, dfr⟩ := a
    obtain rfl : dfr = df := hM.defers
    exact this
  intro fuel
  induction fuel with
  | zero =>
    intro R1 listed a w hsz hc hu hR1 hf hM
    have h0 : unlisted listed = [] := List.eq_nil_of_length_eq_zero (by omega)
    rw [h0] at hu
    have hu2 := List.append_eq_nil_iff.1 hu.symm
    exact finish 0 listed a w hsz hc (by rw [h0, hu2.2]) hf hM
  | succ f ih =>
    intro R1 listed a w hsz hc hu hR1 hf hM
    cases hRc : R1 with
    | nil => subst hRc; exact finish (f + 1) listed a w hsz hc (by simpa using hu) hf hM
    | cons r R1' =>
      have hrm : r ∈ unlisted listed := by rw [hu, hRc]; simp
      have hrlt : r < ds.length := hR1 r (by rw [hRc]; simp)
      have hro : ops[r]? = some ops[r] := Array.getElem?_eq_getElem (by omega)
      have hsort := sorted_unlisted listed
      have hready : r ∈ Region.ready .any ops listed := mem_ready'.2 ⟨by omega, by simpa using (List.mem_filter.1 hrm).2, _, hro, fun e he hb => by
        have he' := (edges_spec hB hro).1 e he hb
        by_cases hq : listed.getD e.on true = true
        · have : e.on < listed.size := by omega
          simp only [Array.getD_eq_getD_getElem?, Array.getElem?_eq_getElem this, Option.getD_some] at hq ⊢
          exact hq
        · exfalso
          have hm : e.on ∈ unlisted listed := List.mem_filter.2 ⟨List.mem_range.2 (by omega), by simpa using hq⟩
          rw [hu, hRc] at hm hsort
          simp only [List.cons_append] at hm hsort
          rcases List.mem_cons.1 hm with hm | hm
          · omega
          · have := (List.pairwise_cons.1 hsort).1 _ hm
            omega⟩
      by_cases hlast : ∀ i ∈ R1, i = q
      · -- only the late one is left of those ahead
        have hrq : r = q := hlast r (by rw [hRc]; simp)
        have hnil : R1' = [] := by
          refine List.eq_nil_iff_forall_not_mem.2 fun i hi => ?_
          have hiq := hlast i (by rw [hRc]; simp [hi])
          rw [hu, hRc] at hsort
          have := (List.pairwise_cons.1 hsort).1 i (by simp [hi])
          omega
        subst hnil
        rw [hrq] at hready hRc hrm hrlt
        obtain ⟨hlt, hun, o', ho', hdep⟩ := mem_ready'.1 hready
        obtain rfl : oq = o' := by rw [hoq] at ho'; exact Option.some.inj ho'
        have hy := late listed a w hdep hM
        have hnew : unlisted (listed.setIfInBounds q true) = List.range' ds.length l2.length := by
          have := unlisted_set (R1 := []) (R2 := List.range' ds.length l2.length) (listed := listed) (i := q) (by omega) (by rw [hu, hRc]; simp)
          simpa using this
        refine wpAny_first hoq hsel (fun c a w h => absurd h (hQ c _ w)) f listed a w ?_ hready hy ?_
        · intro j oj hj hjq hjun hno
          have hjs : j < ops.size := (Array.getElem?_eq_some_iff.1 hj).1
          have hge : ds.length ≤ j := by
            have hm : j ∈ unlisted listed := List.mem_filter.2 ⟨List.mem_range.2 (by omega), by simpa using hjun⟩
            rw [hu, hRc] at hm
            rcases List.mem_append.1 hm with h | h
            · exact absurd (List.mem_singleton.1 h) hjq
            · exact (List.mem_range'_1.1 h).1
          unfold freeQ at hfree
          have := (List.all_eq_true.1 hfree) j (List.mem_range.2 hjs)
          simp only [hj, hoq, Bool.or_eq_true, decide_eq_true_eq] at this
          rcases this with h1 | h1 | h1
          · omega
          · exfalso
            obtain ⟨e, he, hb⟩ := Array.any_eq_true'.1 h1
            simp only [Bool.and_eq_true, beq_iff_eq] at hb
            exact hno e he hb.1 hb.2
          · exact h1
        · refine finish f _ _ w (by simp [hsz]) (closed_set (by omega) hc hoq hdep) hnew ?_ (next q oq _ listed a w w v hq hoq hRq hM rfl (Below.refl _ _))
          rw [hnew]; rw [hu, hRc] at hf; simp at hf ⊢; omega
      · obtain ⟨r', hr'⟩ := Classical.not_forall.1 hlast
        obtain ⟨hr'm, hr'q⟩ := Classical.not_imp.1 hr'
        refine ⟨fun hr => (by rw [hr] at hready; cases hready), fun i hi => ?_⟩
        obtain ⟨hlt, hun, o, ho, hdep⟩ := mem_ready'.1 hi
        have hr'u : r' ∈ unlisted listed := by rw [hu]; exact List.mem_append_left _ hr'm
        have hilt : i < ds.length := by
          by_cases hq : i < ds.length
          · exact hq
          · exfalso
            have hb := cutAtQ_spec (cutFromQ_spec hcut (Nat.le_refl _) (by omega)) hlt (by omega : ds.length ≤ i) (hR1 r' hr'm) hr'q
            have hl := bits_listed hB hc (i + 1) i o (by omega) ho hdep r' (by have := hR1 r' hr'm; omega) hb
            have := (List.mem_filter.1 hr'u).2
            rw [getD_tf hl] at this
            cases this
        have hm : i ∈ R1 := by
          have : i ∈ unlisted listed := List.mem_filter.2 ⟨List.mem_range.2 (by omega), by simpa using hun⟩
          rw [hu] at this
          rcases List.mem_append.1 this with h | h
          · exact h
          · have := (List.mem_range'_1.1 h).1
            omega
        obtain ⟨Ra, Rb, hab⟩ := List.append_of_mem hm
        have hnew : unlisted (listed.setIfInBounds i true) = (Ra ++ Rb) ++ List.range' ds.length l2.length := by
          have := unlisted_set (R1 := Ra) (R2 := Rb ++ List.range' ds.length l2.length) (listed := listed) (i := i) (by omega) (by rw [hu, hab]; simp)
          rw [this, List.append_assoc]
        have hRi : Rs[i]? = some Rs[i] := List.getElem?_eq_getElem (by omega)
        have hst' : StepE P ops o a w Rs[i] := by
          by_cases hiq : i = q
          · subst hiq
            obtain rfl : oq = o := by rw [hoq] at ho; exact Option.some.inj ho
            have e : Rs[i] = (fun u _ => u = v) := by rw [hRi] at hRq; exact Option.some.inj hRq
            rw [e]
            exact StepE_of_yields (late listed a w hdep hM)
          · have hst := Lay_inst ds t a.tmps [] (hstep i o _ hilt hiq ho hRi) hM.size hM.other hdt w hM.holds (FactsE_of _ fun e he R u hR hu' => by
              have hb := hbind i o hilt hiq ho e (Array.mem_toList_iff.1 he)
              simp only [List.nil_append, List.getElem?_map, Option.map_eq_some_iff] at hu'
              obtain ⟨d, hd, rfl⟩ := hu'
              have hlt' := (edges_spec hB ho).1 e (Array.mem_toList_iff.1 he) hb
              rw [List.getElem?_take_of_lt hlt'] at hR
              exact hM.rel e.on d R hd (hdep e (Array.mem_toList_iff.1 he) hb) hR)
            obtain ⟨tm, dfr⟩ := a
            obtain rfl : dfr = df := hM.defers
            exact hst
        refine hst'.wpOp ho fun u w' hR hb => ?_
        exact ih (Ra ++ Rb) _ _ w' (by simp [hsz]) (closed_set (by omega) hc ho hdep) hnew (fun k hk => hR1 k (by rw [hab]; simp at hk ⊢; rcases hk with h | h <;> simp [h])) (by rw [hnew]; rw [hu, hab] at hf; simp at hf ⊢; omega) (next i o _ listed a w w' u hilt ho hRi hM hR hb)

/-- As RelL; the operation that is q ahead may come late. -/
def RelLQ (P : Program) (ops : Array Oper) (S : World → Prop) (ds : List Tmp) (t : Array Value) (df : List Deferred) (Q : Exit → Act → World → Prop) : Nat → Nat → List Oper → List VR → Prop
  | _, 0, _, _ => False
  | _, _ + 1, [], _ => False
  | 0, n + 1, o :: os, Rs => ∃ v : Value, (Lay ds t [] fun t us => ∀ w, S w → FactsE Rs us w (o.after.toList.filter (Region.binds .any)) → Yields P ops o v ⟨t, df⟩) ∧ RelL P ops S ds t df Q n os (Rs ++ [(fun (u : Value) (_ : World) => u = v : VR)])
  | q + 1, n + 1, o :: os, Rs => ∃ R : VR, Stable R ∧ (Lay ds t [] fun t us => ∀ w, S w → FactsE Rs us w o.after.toList → StepE P ops o ⟨t, df⟩ w R) ∧ RelLQ P ops S ds t df Q q n os (Rs ++ [R])

theorem RelLQ_split {ds : List Tmp} {t : Array Value} {df : List Deferred} : ∀ (q n : Nat) (l : List Oper) (Rs : List VR), RelLQ P ops S ds t df Q q n l Rs →
    ∃ (Rs' : List VR) (v : Value) (oq : Oper), q < n ∧ l[q]? = some oq ∧ Rs'[q]? = some (fun u _ => u = v) ∧ Rs'.length = n ∧ (∀ R ∈ Rs', Stable R) ∧ n ≤ l.length ∧
      (Lay ds t [] fun t us => ∀ w, S w → FactsE (Rs ++ Rs'.take q) us w (oq.after.toList.filter (Region.binds .any)) → Yields P ops oq v ⟨t, df⟩) ∧
      (∀ (i : Nat) o R, i < n → i ≠ q → l[i]? = some o → Rs'[i]? = some R → Lay ds t [] fun t us => ∀ w, S w → FactsE (Rs ++ Rs'.take i) us w o.after.toList → StepE P ops o ⟨t, df⟩ w R) ∧
      (Lay ds t [] fun t us => ∀ w, S w → FactsA w (Rs ++ Rs') us → wpList P ops Q (l.drop n) ⟨t, df⟩ w)
  | 0, 0, _, _, h => by simp [RelLQ] at h
  | _ + 1, 0, _, _, h => by simp [RelLQ] at h
  | 0, _ + 1, [], _, h => by simp [RelLQ] at h
  | _ + 1, _ + 1, [], _, h => by simp [RelLQ] at h
  | 0, n + 1, o :: os, Rs, h => by
    simp only [RelLQ] at h
    obtain ⟨v, h2, h3⟩ := h
    obtain ⟨Rs', e1, e2, e3, e4, e5⟩ := RelL_split n os _ h3
    refine ⟨(fun u _ => u = v) :: Rs', v, o, by omega, rfl, rfl, by simp [e1], fun R hR => ?_, by simpa using e3, by simpa using h2, fun i o' R' hi hiq ho hR => ?_, by simpa using e5⟩
    · rcases List.mem_cons.1 hR with rfl | hR
      · exact stable_eq v
      · exact e2 R hR
    · cases i with
      | zero => exact absurd rfl hiq
      | succ i => simpa using e4 i o' R' (by omega) (by simpa using ho) (by simpa using hR)
  | q + 1, n + 1, o :: os, Rs, h => by
    simp only [RelLQ] at h
    obtain ⟨R, h1, h2, h3⟩ := h
    obtain ⟨Rs', v, oq, d1, d2, d3, e1, e2, e3, ey, e4, e5⟩ := RelLQ_split q n os _ h3
    refine ⟨R :: Rs', v, oq, by omega, by simpa using d2, by simpa using d3, by simp [e1], by simpa [h1] using e2, by simpa using e3, by simpa using ey, fun i o' R' hi hiq ho hR => ?_, by simpa using e5⟩
    cases i with
    | zero =>
      simp at ho hR
      subst ho hR
      simpa using h2
    | succ i => simpa using e4 i o' R' (by omega) (by omega) (by simpa using ho) (by simpa using hR)

/-- THE LAW. q: which of the operations ds may come late. -/
theorem wp_region_relQ (S : World → Prop) (q : Nat) (ds : List Tmp) {id : Nat} {l : List Oper} {t : Array Value} {df : List Deferred} {w : World} (hm : P.follows .mixedOrders = true)
    (hB : ((edgesOk l.toArray (bitsOf l.toArray) && cutFromQ l.toArray (bitsOf l.toArray) q ds.length) && ((List.range ds.length).all (fun j => j == q || match l[j]? with | some o => o.after.all (Region.binds .any) | none => true) && (Region.noSelect l.toArray && freeQ l.toArray q ds.length))) = true)
    (hds : ((l.take ds.length).map (·.dst) == ds.map some) = true) (hnd : ds.Nodup) (hdt : ds.all (· < t.size) = true) (hSS : ∀ w w', S w → Below w.heap.size w w' → S w') (hS : S w.drew)
    (h : RelLQ P l.toArray S ds t df (NoPanic Q) q ds.length l []) : (Code.region id l.toArray true).wp P Q ⟨t, df⟩ w := by
  refine wp_region_noPanic ?_
  rw [Bool.and_eq_true, Bool.and_eq_true, Bool.and_eq_true, Bool.and_eq_true] at hB
  obtain ⟨⟨hB, hcut⟩, hbn, hns, hfr⟩ := hB
  obtain ⟨Rs, v, oq, d1, d2, d3, e1, e2, e3, ey, e4, e5⟩ := RelLQ_split _ _ _ _ h
  have hds := eq_of_beq hds
  refine wp_region_any hm ?_
  have hu : unlisted (Array.replicate l.toArray.size false) = List.range' 0 l.length := by
    unfold unlisted
    rw [List.filter_eq_self.2 (fun i hi => by simp at hi; simp [hi]), List.range_eq_range']
    simp
  have hlen : (l.drop ds.length).length = l.length - ds.length := List.length_drop
  refine wpAny_relQ (S := S) (t := t) (df := df) (Rs := Rs) (ds := ds) (l2 := l.drop ds.length) hB d1 (by simpa using d2) d3 (Region.noSelect_spec hns) hfr (fun c a w h => h) (by simpa using ey) (fun j o hjl hjq hj e he => by
    have := (List.all_eq_true.1 hbn) j (List.mem_range.2 hjl)
    have hj' : l[j]? = some o := by simpa using hj
    simp only [hj', Bool.or_eq_true, beq_iff_eq] at this
    rcases this with h1 | h1
    · exact absurd h1 hjq
    · exact Array.all_eq_true'.1 h1 e he) ?_ hnd (fun d hd => by simpa using (List.all_eq_true.1 hdt) d hd) hSS e2 e1 hcut (by rw [hlen]; simp; omega) (fun j => by simp) ?_ (by simpa using e5) _ (List.range' 0 ds.length) _ _ _
    (by simp) ?_ ?_ (fun i hi => by have := (List.mem_range'_1.1 hi).2; omega) (by rw [hu]; simp) ⟨rfl, rfl, fun _ _ => rfl, hS, fun j d R _ hl _ => ?_⟩
  · intro j d hd
    have hj : j < ds.length := (List.getElem?_eq_some_iff.1 hd).1
    have h2 : ((l.take ds.length).map (·.dst))[j]? = some (some d) := by rw [hds, List.getElem?_map, hd]; rfl
    rw [List.getElem?_map, List.getElem?_take_of_lt hj] at h2
    obtain ⟨o, ho, hod⟩ := Option.map_eq_some_iff.1 h2
    exact ⟨o, by simpa using ho, hod⟩
  · intro i o R hi hiq ho hR
    have := e4 i o R hi hiq (by simpa using ho) hR
    simpa using this
  · intro j o hj hl
    exfalso
    have : j < l.length := by simpa using (Array.getElem?_eq_some_iff.1 hj).1
    simp [Array.getD_eq_getD_getElem?, this] at hl
  · rw [hu, hlen, show l.length = ds.length + (l.length - ds.length) from by omega, ← List.range'_append_1]
    simp
  · exfalso
    by_cases hq : j < l.length
    · simp [Array.getD_eq_getD_getElem?, hq] at hl
    · simp [Array.getD_eq_getD_getElem?, hq] at hl

section
variable {ds : List Tmp} {t : Array Value} {df : List Deferred} {q n : Nat} {o : Oper} {os : List Oper} {Rs : List VR}
theorem relQ_any (R : VR) (hst : Stable R) (hs : Lay ds t [] fun t us => ∀ w, S w → FactsE Rs us w o.after.toList → StepE P ops o ⟨t, df⟩ w R) (hn : RelLQ P ops S ds t df Q q n os (Rs ++ [R])) :
    RelLQ P ops S ds t df Q (q + 1) (n + 1) (o :: os) Rs := by
  simp only [RelLQ]
  exact ⟨R, hst, hs, hn⟩
theorem relQ_eq {v : Value} (hs : Lay ds t [] fun t us => ∀ w, S w → FactsE Rs us w o.after.toList → StepE P ops o ⟨t, df⟩ w (fun u _ => u = v)) (hn : RelLQ P ops S ds t df Q q n os (Rs ++ [fun u _ => u = v])) :
    RelLQ P ops S ds t df Q (q + 1) (n + 1) (o :: os) Rs := by
  simp only [RelLQ]
  exact ⟨_, stable_eq v, hs, hn⟩
theorem relQ_late (v : Value) (hs : Lay ds t [] fun t us => ∀ w, S w → FactsE Rs us w (o.after.toList.filter (Region.binds .any)) → Yields P ops o v ⟨t, df⟩) (hn : RelL P ops S ds t df Q n os (Rs ++ [fun u _ => u = v])) :
    RelLQ P ops S ds t df Q 0 (n + 1) (o :: os) Rs := by
  simp only [RelLQ]
  exact ⟨v, hs, hn⟩
end
end
end Go.Proofs.Yteohokidlopbnaa
