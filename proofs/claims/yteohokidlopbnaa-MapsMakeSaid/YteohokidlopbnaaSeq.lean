/- A region whose order is open, walked once in the text's order: each operation yields one and the same value in every world that meets S, and S stays. -/
import Derived.Orders
import Derived.OrdersHeld
import Derived.KernelRfl
import Derived.WalkKit
namespace Go.Proofs.Yteohokidlopbnaa
section
variable {P : Program} {ops : Array Oper} {Q : Exit → Act → World → Prop} {S : World → Prop}

/-- What an operation's run must be: it yields v (if that is kept), and S holds behind it. -/
def YR (P : Program) (S : World → Prop) (dst : Option Tmp) (v : Value) : Result Next → Prop
  | .ok (.value u) w' => (dst.isSome = true → u = v) ∧ S w'
  | .ok .skip w' => (dst.isSome = true → undef = v) ∧ S w'
  | .ok (.enter f args) w' => Calls P f args w' fun
      | .returned u, w'' => (dst.isSome = true → u = v) ∧ S w''
      | _, _ => False
  | .ok (.row r args) w' => Rows P r args w' fun u w'' => (dst.isSome = true → u = v) ∧ S w''
  | _ => False

/-- In state a, in every world that meets S, the operation yields v, and S holds behind it. -/
def YS (P : Program) (S : World → Prop) (o : Oper) (v : Value) (a : Act) : Prop :=
  ∀ w, S w → YR P S o.dst v ((execOp a.eval o).run P w)

/-- One operation of the region: it yields v, or it is not wanted. -/
def StepS (P : Program) (ops : Array Oper) (S : World → Prop) (o : Oper) (v : Value) (a : Act) : Prop :=
  (Region.wanted o (yielded ops a.tmps) = true ∧ YS P S o v a) ∨ (Region.wanted o (yielded ops a.tmps) = false ∧ v = undef)

theorem put_eq {a : Act} {dst : Option Tmp} {u v : Value} (h : dst.isSome = true → u = v) : a.put dst u = a.put dst v := by
  cases dst with
  | none => rfl
  | some d => rw [h rfl]

theorem YR.upon {o : Oper} {a : Act} {v : Value} {r : Result Next} {K : Act → World → Prop} (h : YR P S o.dst v r)
    (hK : ∀ w', S w' → K (a.put o.dst v) w') : o.upon P a K Q r := by
  cases r with
  | ok n w' =>
    cases n <;> simp only [YR] at h
    case value u => simp only [Oper.upon]; rw [put_eq h.1]; exact hK _ h.2
    case skip => simp only [Oper.upon]; rw [put_eq h.1]; exact hK _ h.2
    case enter f args =>
      refine Calls.mono h fun e w'' he => ?_
      cases e with
      | returned u =>
        show K (a.put o.dst u) w''
        rw [put_eq he.1]; exact hK _ he.2
      | panicked c => exact he.elim
      | outgrown => exact he.elim
    case row r args => exact Rows.mono h fun u w'' he => by rw [put_eq he.1]; exact hK _ he.2
  | halt x w' => exact h.elim

theorem StepS.wpOp {i : Nat} {o : Oper} {v : Value} {a : Act} {w : World} (hi : ops[i]? = some o) (h : StepS P ops S o v a) (hS : S w) {K : Act → World → Prop}
    (hK : ∀ w', S w' → K (a.put o.dst v) w') : wpOp P ops Q i K a w := by
  unfold Go.wpOp
  simp only [hi]
  rcases h with ⟨hw, hy⟩ | ⟨hw, rfl⟩
  · simp only [hw, if_true]; exact .inl ((hy w hS).upon hK)
  · simp only [hw, Bool.false_eq_true, if_false]; exact hK _ hS

/-- A put that the operation does not look at makes no difference to it. -/
theorem StepS_put {oi oj : Oper} {vi vj : Value} {a : Act} (hs : ∀ cs b, oj.op ≠ .select cs b) (h1 : ∀ d, oi.dst = some d → d ∉ oj.looksAt ops) :
    StepS P ops S oj vj (a.put oi.dst vi) ↔ StepS P ops S oj vj a := by
  unfold StepS YS
  rw [execOp_put oj hs a oi.dst vi h1, wanted_put oj a oi.dst vi h1]

/-- The operations of R (their places), one behind the other. -/
def SeqR (P : Program) (ops : Array Oper) (S : World → Prop) (F : Act → Prop) : List Nat → Act → Prop
  | [], a => F a
  | i :: R, a => ∃ o v, ops[i]? = some o ∧ StepS P ops S o v a ∧ SeqR P ops S F R (a.put o.dst v)

theorem SeqR_pull (hs : ∀ (j : Nat) (o : Oper) cs b, ops[j]? = some o → o.op ≠ .select cs b) {F : Act → Prop} {j : Nat} {oj : Oper} (hj : ops[j]? = some oj) :
    ∀ (R1 R2 : List Nat) (a : Act), (∀ i ∈ R1, ∀ oi, ops[i]? = some oi → oi.apart ops oj = true) → SeqR P ops S F (R1 ++ j :: R2) a →
      ∃ v, StepS P ops S oj v a ∧ SeqR P ops S F (R1 ++ R2) (a.put oj.dst v)
  | [], R2, a, _, h => by
    obtain ⟨o, v, ho, h1, h2⟩ := h
    obtain rfl : oj = o := by rw [hj] at ho; exact Option.some.inj ho
    exact ⟨v, h1, h2⟩
  | i :: R1, R2, a, hap, h => by
    obtain ⟨oi, vi, hoi, h1, h2⟩ := h
    obtain ⟨vj, h3, h4⟩ := SeqR_pull hs hj R1 R2 _ (fun k hk => hap k (List.mem_cons_of_mem _ hk)) h2
    obtain ⟨a1, a2, a3⟩ := Oper.apart_spec (hap i (List.mem_cons_self ..) oi hoi)
    refine ⟨vj, (StepS_put (fun cs b => hs j oj cs b hj) a1).1 h3, oi, vi, hoi, (StepS_put (fun cs b => hs i oi cs b hoi) a3).2 h1, ?_⟩
    rw [← Act.put_comm a vi vj a2]
    exact h4

/-- All that an operation waits for, directly or not, as bits; and two that are not apart wait one for the other. Edges lead to earlier places. -/
def edgesOk (ops : Array Oper) (B : List Nat) : Bool :=
  (List.range ops.size).all fun j => match ops[j]? with
    | none => true
    | some o =>
      (o.after.toList.all fun e => !Region.binds .any e || decide (e.on < j)) &&
      (List.range j).all fun i =>
        (!(B.getD j 0).testBit i || o.after.toList.any fun e => Region.binds .any e && (e.on == i || (decide (i < e.on) && (B.getD e.on 0).testBit i))) &&
        (match ops[i]? with
         | none => true
         | some oi => (B.getD j 0).testBit i || oi.apart ops o)

/-- The bits. -/
def bitsOf (ops : Array Oper) : List Nat :=
  (ops.toList.foldl (fun (acc : List Nat × Nat) o =>
    (acc.1 ++ [o.after.foldl (fun s e => if Region.binds .any e then s ||| 2 ^ e.on ||| acc.1.getD e.on 0 else s) 0], acc.2 + 1)) ([], 0)).1

theorem edges_spec {B : List Nat} (h : edgesOk ops B = true) {j : Nat} {o : Oper} (hj : ops[j]? = some o) :
    (∀ e ∈ o.after, Region.binds .any e = true → e.on < j) ∧
    (∀ i, i < j → (B.getD j 0).testBit i = true → ∃ e ∈ o.after, Region.binds .any e = true ∧ (e.on = i ∨ i < e.on ∧ (B.getD e.on 0).testBit i = true)) ∧
    (∀ i, i < j → ∀ oi, ops[i]? = some oi → (B.getD j 0).testBit i = true ∨ oi.apart ops o = true) := by
  have hlt : j < ops.size := (Array.getElem?_eq_some_iff.1 hj).1
  unfold edgesOk at h
  rw [List.all_eq_true] at h
  have := h j (List.mem_range.2 hlt)
  simp only [hj, Bool.and_eq_true, List.all_eq_true, List.mem_range] at this
  obtain ⟨h1, h2⟩ := this
  refine ⟨fun e he hb => ?_, fun i hi hbit => ?_, fun i hi oi hoi => ?_⟩
  · have := h1 e (Array.mem_toList_iff.2 he)
    simpa [hb] using this
  · have := (h2 i hi).1
    rw [hbit] at this
    simp only [Bool.not_true, Bool.false_or, List.any_eq_true] at this
    obtain ⟨e, he, hh⟩ := this
    simp only [Bool.and_eq_true, Bool.or_eq_true, beq_iff_eq, decide_eq_true_eq] at hh
    exact ⟨e, Array.mem_toList_iff.1 he, hh.1, hh.2⟩
  · have := (h2 i hi).2
    simp only [hoi, Bool.or_eq_true] at this
    exact this

/-- What is listed is closed under what it waits for. -/
def ClosedL (ops : Array Oper) (listed : Array Bool) : Prop :=
  ∀ j o, ops[j]? = some o → listed.getD j true = true → ∀ e ∈ o.after, Region.binds .any e = true → listed.getD e.on false = true

theorem getD_tf {listed : Array Bool} {i : Nat} (h : listed.getD i false = true) : listed.getD i true = true := by
  simp only [Array.getD_eq_getD_getElem?] at *
  cases hq : listed[i]? with
  | none => simp
  | some b => simpa [hq] using h

theorem bits_listed {B : List Nat} (h : edgesOk ops B = true) {listed : Array Bool} (hc : ClosedL ops listed) :
    ∀ (n j : Nat) (o : Oper), j < n → ops[j]? = some o → (∀ e ∈ o.after, Region.binds .any e = true → listed.getD e.on false = true) →
      ∀ i, i < j → (B.getD j 0).testBit i = true → listed.getD i false = true
  | 0, _, _, hn, _, _, _, _, _ => absurd hn (Nat.not_lt_zero _)
  | n + 1, j, o, hn, hj, hr, i, hi, hb => by
    obtain ⟨s1, s2, -⟩ := edges_spec h hj
    obtain ⟨e, he, hbe, hor⟩ := s2 i hi hb
    have hlt := s1 e he hbe
    have hl := hr e he hbe
    rcases hor with rfl | ⟨hie, hor⟩
    · exact hl
    · have hjl : j < ops.size := (Array.getElem?_eq_some_iff.1 hj).1
      have hoe : ops[e.on]? = some ops[e.on] := Array.getElem?_eq_getElem (by omega)
      exact bits_listed h hc n e.on _ (by omega) hoe (hc e.on _ hoe (getD_tf hl)) i hie hor

theorem mem_ready' {listed : Array Bool} {i : Nat} : i ∈ Region.ready .any ops listed ↔
    i < ops.size ∧ listed.getD i true = false ∧ ∃ o, ops[i]? = some o ∧ ∀ e ∈ o.after, Region.binds .any e = true → listed.getD e.on false = true := by
  unfold Region.ready
  rw [List.mem_filter, List.mem_range]
  constructor
  · rintro ⟨h1, h2⟩
    have ho : ops[i]? = some ops[i] := Array.getElem?_eq_getElem h1
    simp only [ho, Option.map_some, Option.getD_some, Bool.and_eq_true, Bool.not_eq_true'] at h2
    refine ⟨h1, h2.1, _, ho, fun e he hb => ?_⟩
    have := (Array.all_eq_true'.1 h2.2) e he
    simpa [hb] using this
  · rintro ⟨h1, h2, o, ho, h3⟩
    refine ⟨h1, ?_⟩
    simp only [ho, Option.map_some, Option.getD_some, Bool.and_eq_true, Bool.not_eq_true']
    refine ⟨h2, Array.all_eq_true'.2 fun e he => ?_⟩
    by_cases hb : Region.binds .any e = true
    · simp [h3 e he hb]
    · simp [hb]

/-- The places that are not listed yet. -/
def unlisted (listed : Array Bool) : List Nat := (List.range listed.size).filter fun i => !listed.getD i true

theorem sorted_unlisted (listed : Array Bool) : (unlisted listed).Pairwise (· < ·) := List.Pairwise.filter _ List.pairwise_lt_range

theorem done_of_ready {B : List Nat} (hB : edgesOk ops B = true) {F : Act → Prop} {listed : Array Bool} {a : Act} (hsz : listed.size = ops.size)
    (h : SeqR P ops S F (unlisted listed) a) (hr : Region.ready .any ops listed = []) : F a := by
  cases hu : unlisted listed with
  | nil => rw [hu] at h; exact h
  | cons i R =>
    exfalso
    have hi : i ∈ unlisted listed := by rw [hu]; exact List.mem_cons_self ..
    have hi' := List.mem_filter.1 hi
    have hlt : i < ops.size := by have := List.mem_range.1 hi'.1; omega
    have ho : ops[i]? = some ops[i] := Array.getElem?_eq_getElem hlt
    obtain ⟨s1, -, -⟩ := edges_spec hB ho
    have : i ∈ Region.ready .any ops listed := mem_ready'.2 ⟨hlt, by simpa using hi'.2, _, ho, fun e he hb => by
      have he' := s1 e he hb
      by_cases hl : listed.getD e.on true = true
      · have : e.on < listed.size := by omega
        simp only [Array.getD_eq_getD_getElem?, Array.getElem?_eq_getElem this, Option.getD_some] at hl ⊢
        exact hl
      · exfalso
        have hm : e.on ∈ unlisted listed := List.mem_filter.2 ⟨List.mem_range.2 (by omega), by simpa using hl⟩
        have hsort := sorted_unlisted listed
        rw [hu] at hm hsort
        rcases List.mem_cons.1 hm with hm | hm
        · omega
        · have := (List.pairwise_cons.1 hsort).1 _ hm
          omega⟩
    rw [hr] at this
    cases this

theorem getD_set_true {listed : Array Bool} {i k : Nat} (h : i < listed.size) : (listed.setIfInBounds i true).getD k true = (decide (k = i) || listed.getD k true) := by
  simp only [Array.getD_eq_getD_getElem?, Array.getElem?_setIfInBounds]
  by_cases hk : i = k
  · subst hk; simp [h]
  · have : ¬ k = i := fun e => hk e.symm
    simp [hk, this]

theorem getD_set_false {listed : Array Bool} {i k : Nat} (h : listed.getD k false = true) : (listed.setIfInBounds i true).getD k false = true := by
  simp only [Array.getD_eq_getD_getElem?, Array.getElem?_setIfInBounds] at *
  by_cases hk : i = k
  · subst hk
    by_cases hl : i < listed.size
    · simp [hl]
    · simp [hl] at h
  · simp [hk]; exact h

theorem unlisted_set {listed : Array Bool} {i : Nat} {R1 R2 : List Nat} (hi : i < listed.size) (hR : unlisted listed = R1 ++ i :: R2) :
    unlisted (listed.setIfInBounds i true) = R1 ++ R2 := by
  have hsort := sorted_unlisted listed
  have e : unlisted (listed.setIfInBounds i true) = (unlisted listed).filter (fun k => !decide (k = i)) := by
    unfold unlisted
    rw [List.filter_filter, Array.size_setIfInBounds]
    refine List.filter_congr fun k _ => ?_
    rw [getD_set_true hi]
    simp
  rw [hR] at e hsort
  obtain ⟨-, p2, p3⟩ := List.pairwise_append.1 hsort
  rw [e, List.filter_append, List.filter_cons]
  simp only [decide_true, Bool.not_true, Bool.false_eq_true, if_false]
  congr 1
  · refine List.filter_eq_self.2 fun k hk => ?_
    have := p3 k hk i (List.mem_cons_self ..)
    simp; omega
  · refine List.filter_eq_self.2 fun k hk => ?_
    have := (List.pairwise_cons.1 p2).1 k hk
    simp; omega

theorem closed_set {listed : Array Bool} {i : Nat} {o : Oper} (hi : i < listed.size) (hc : ClosedL ops listed) (ho : ops[i]? = some o)
    (hdep : ∀ e ∈ o.after, Region.binds .any e = true → listed.getD e.on false = true) : ClosedL ops (listed.setIfInBounds i true) := by
  intro j oj hj hl e he hb
  rw [getD_set_true hi] at hl
  refine getD_set_false ?_
  by_cases h : j = i
  · subst h
    rw [ho] at hj
    obtain rfl := Option.some.inj hj
    exact hdep e he hb
  · simp [h] at hl
    exact hc j oj hj (by simpa using hl) e he hb

theorem wpAny_seq {B : List Nat} (hB : edgesOk ops B = true) (hsel : ∀ (j : Nat) (o : Oper) cs b, ops[j]? = some o → o.op ≠ .select cs b) :
    ∀ (fuel : Nat) (listed : Array Bool) (a : Act) (w : World), listed.size = ops.size → ClosedL ops listed → (unlisted listed).length ≤ fuel → S w →
      SeqR P ops S (fun a => ∀ w, S w → Q .normal a w) (unlisted listed) a → wpAny P .any ops Q fuel listed a w := by
  intro fuel
  induction fuel with
  | zero =>
    intro listed a w hsz _ hf hS h
    have hu : unlisted listed = [] := List.eq_nil_of_length_eq_zero (by omega)
    have hr : Region.ready .any ops listed = [] := by
      refine List.eq_nil_iff_forall_not_mem.2 fun i hi => ?_
      obtain ⟨hlt, hun, -⟩ := mem_ready'.1 hi
      have : i ∈ unlisted listed := List.mem_filter.2 ⟨List.mem_range.2 (by omega), by simpa using hun⟩
      rw [hu] at this
      cases this
    exact ⟨hr, done_of_ready hB hsz h hr w hS⟩
  | succ f ih =>
    intro listed a w hsz hc hf hS h
    refine ⟨fun hr => done_of_ready hB hsz h hr w hS, fun i hi => ?_⟩
    obtain ⟨hlt, hun, o, ho, hdep⟩ := mem_ready'.1 hi
    have hm : i ∈ unlisted listed := List.mem_filter.2 ⟨List.mem_range.2 (by omega), by simpa using hun⟩
    obtain ⟨R1, R2, hR⟩ := List.append_of_mem hm
    have hsort := sorted_unlisted listed
    have hap : ∀ k ∈ R1, ∀ ok, ops[k]? = some ok → ok.apart ops o = true := by
      intro k hk ok hok
      rw [hR] at hsort
      have hki : k < i := (List.pairwise_append.1 hsort).2.2 k hk i (List.mem_cons_self ..)
      rcases (edges_spec hB ho).2.2 k hki ok hok with hb | hb
      · exfalso
        have hl := bits_listed hB hc (i + 1) i o (by omega) ho hdep k hki hb
        have hku : k ∈ unlisted listed := by rw [hR]; exact List.mem_append_left _ hk
        have := (List.mem_filter.1 hku).2
        rw [getD_tf hl] at this
        cases this
      · exact hb
    have h' := h
    rw [hR] at h'
    obtain ⟨v, h1, h2⟩ := SeqR_pull hsel ho R1 R2 a hap h'
    have hnew := unlisted_set (by omega) hR
    refine h1.wpOp ho hS fun w' hS' => ?_
    exact ih _ _ w' (by simp [hsz]) (closed_set (by omega) hc ho hdep) (by rw [hnew]; rw [hR] at hf; simp at hf ⊢; omega) hS' (by rw [hnew]; exact h2)

/-- The operations of a list, one behind the other. -/
def SeqL (P : Program) (ops : Array Oper) (S : World → Prop) (F : Act → Prop) : List Oper → Act → Prop
  | [], a => F a
  | o :: os, a => ∃ v, StepS P ops S o v a ∧ SeqL P ops S F os (a.put o.dst v)

theorem SeqR_of_SeqL {F : Act → Prop} : ∀ (l : List Oper) (k : Nat) (a : Act), (∀ j, l[j]? = ops[k + j]?) → SeqL P ops S F l a → SeqR P ops S F (List.range' k l.length) a
  | [], _, _, _, h => h
  | o :: l, k, a, hl, ⟨v, h1, h2⟩ => by
    refine ⟨o, v, by simpa using (hl 0).symm, h1, ?_⟩
    exact SeqR_of_SeqL l (k + 1) _ (fun j => by have := hl (j + 1); simpa [Nat.add_assoc, Nat.add_comm 1 j] using this) h2

/-- THE LAW: a region whose order is open, walked once in the text's order. -/
theorem wp_region_seq (S : World → Prop) {id : Nat} {l : List Oper} {a : Act} {w : World} (hm : P.follows .mixedOrders = true)
    (hB : edgesOk l.toArray (bitsOf l.toArray) = true) (hsel : Region.noSelect l.toArray = true) (hS : S w.drew)
    (h : SeqL P l.toArray S (fun a => ∀ w, S w → Q .normal a w) l a) : (Code.region id l.toArray true).wp P Q a w := by
  refine wp_region_any hm ?_
  have hu : unlisted (Array.replicate l.toArray.size false) = List.range' 0 l.length := by
    unfold unlisted
    rw [List.filter_eq_self.2 (fun i hi => by simp at hi; simp [hi]), List.range_eq_range']
    simp
  refine wpAny_seq (S := S) hB (Region.noSelect_spec hsel) _ _ _ _ (by simp) (fun j o hj hl => ?_) (by rw [hu]; simp) hS ?_
  · exfalso
    have : j < l.length := by simpa using (Array.getElem?_eq_some_iff.1 hj).1
    simp [Array.getD_eq_getD_getElem?, this] at hl
  · rw [hu]
    exact SeqR_of_SeqL l 0 a (fun j => by simp) h

/-! ### The moves of a walk -/
def VQ (d : Tmp) (v : Value) (D : List Deferred) (S : World → Prop) : Exit → Act → World → Prop
  | .normal, a, w => a.tmps.getD d undef = v ∧ a.defers = D ∧ S w
  | _, _, _ => False

theorem seq_nil {F : Act → Prop} {a : Act} (h : F a) : SeqL P ops S F [] a := h
theorem seq_skip {F : Act → Prop} {o : Oper} {os : List Oper} {a : Act} (hw : Region.wanted o (yielded ops a.tmps) = false) (h : SeqL P ops S F os (a.put o.dst undef)) :
    SeqL P ops S F (o :: os) a := ⟨undef, .inr ⟨hw, rfl⟩, h⟩
theorem seq_take {F : Act → Prop} {d : Tmp} {op : Op} {ty : TypeId} {ps : String} {af : Array Edge} {gd : Option (Nat × Bool)} {os : List Oper} {a : Act} {v : Value}
    (hw : Region.wanted ⟨some d, op, ty, ps, af, gd⟩ (yielded ops a.tmps) = true) (hd : d < a.tmps.size)
    (h : ∀ w, S w → wpList P #[] (VQ d v a.defers S) [⟨some d, op, ty, ps, af, none⟩] a w) (hn : SeqL P ops S F os (a.put (some d) v)) :
    SeqL P ops S F (⟨some d, op, ty, ps, af, gd⟩ :: os) a := by
  refine ⟨v, .inl ⟨hw, fun w hS => ?_⟩, hn⟩
  have := h w hS
  simp only [wpList, Region.wanted, if_true] at this
  rcases this with h1 | ⟨-, _, _, hf⟩
  case inr => exact hf.elim
  unfold Oper.wp at h1
  have e : (execOp a.eval ⟨some d, op, ty, ps, af, gd⟩) = execOp a.eval ⟨some d, op, ty, ps, af, none⟩ := rfl
  rw [e]
  have key : ∀ u, (a.put (some d) u).tmps.getD d undef = v → u = v := by
    intro u hu
    simpa [Act.put, Array.getD_eq_getD_getElem?, hd] using hu
  generalize (execOp a.eval ⟨some d, op, ty, ps, af, none⟩).run P w = r at h1
  cases r with
  | ok n w' =>
    cases n <;> simp only [Oper.upon] at h1
    case value u => exact ⟨fun _ => key u h1.1, h1.2.2⟩
    case skip => exact ⟨fun _ => key undef h1.1, h1.2.2⟩
    case defer d' =>
      have := congrArg List.length h1.2.1
      simp [Act.put] at this
    case enter f args =>
      refine Calls.mono h1 fun e w'' he => ?_
      cases e with
      | returned u => exact ⟨fun _ => key u he.1, he.2.2⟩
      | panicked c => exact he.elim
      | outgrown => obtain ⟨_, _, hf⟩ := he; exact hf.elim
    case row r args => exact Rows.mono h1 fun u w'' he => ⟨fun _ => key u he.1, he.2.2⟩
  | halt x w' => cases x <;> simp only [Oper.upon] at h1; exact h1.elim
theorem VQ_mk {d : Tmp} {v : Value} {D : List Deferred} {a : Act} {w : World} (h1 : a.tmps.getD d undef = v) (h2 : a.defers = D) (h3 : S w) : VQ d v D S .normal a w := ⟨h1, h2, h3⟩

/-- A block that was there is there, as it was. -/
theorem blk_of {W w : World} {g : Nat} {o : Obj} (h : Go.RowKit.Below W.heap.size W w) (hg : W.heap[g]? = some o) : w.heap[g]? = some o :=
  (h.block g (Array.getElem?_eq_some_iff.1 hg).1).trans hg
/-- Behind a call: what was there reads as it did. -/
theorem bcell {W w : World} (hb : Go.RowKit.Below W.heap.size W w) : (∀ b o, b < W.heap.size → w.cell? ⟨b, o, none⟩ = W.cell? ⟨b, o, none⟩) ∧ (∀ b o, b < W.heap.size → w.frozen? ⟨b, o, none⟩ = W.frozen? ⟨b, o, none⟩) :=
  ⟨fun b o h => hb.cell (p := ⟨b, o, none⟩) h, fun b o h => hb.frozen (p := ⟨b, o, none⟩) h⟩
theorem lt_of_blk {w : World} {g : Nat} {o : Obj} (hg : w.heap[g]? = some o) : g < w.heap.size := (Array.getElem?_eq_some_iff.1 hg).1
/-- A step by its run, whatever the guard. -/
theorem wpl_run {P : Program} {ops : Array Oper} {rest : List Oper} {o : Oper} {a : Act} {w w' : World} {Q : Exit → Act → World → Prop} {v : Value}
    (hw : Region.wanted o (yielded ops a.tmps) = true) (hr : (execOp a.eval o).run P w = .ok (.value v) w') (h : wpList P ops Q rest (a.put o.dst v) w') :
    wpList P ops Q (o :: rest) a w := by
  unfold wpList
  rw [if_pos hw]
  refine .inl ?_
  unfold Oper.wp
  rw [hr]
  exact h
theorem wpl_run_skip {P : Program} {ops : Array Oper} {rest : List Oper} {o : Oper} {a : Act} {w w' : World} {Q : Exit → Act → World → Prop}
    (hw : Region.wanted o (yielded ops a.tmps) = true) (hr : (execOp a.eval o).run P w = .ok .skip w') (h : wpList P ops Q rest (a.put o.dst undef) w') :
    wpList P ops Q (o :: rest) a w := by
  unfold wpList
  rw [if_pos hw]
  refine .inl ?_
  unfold Oper.wp
  rw [hr]
  exact h
end
end Go.Proofs.Yteohokidlopbnaa
