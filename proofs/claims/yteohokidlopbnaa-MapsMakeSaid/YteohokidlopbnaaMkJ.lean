/- Chapter 17: several maps of both kinds, each for itself. -/
import Derived.Test.YteohokidlopbnaaMkI
namespace Go.Proofs.Yteohokidlopbnaa
open Go.RowKit
set_option linter.unusedSimpArgs false
set_option linter.unusedVariables false

/-- A map and the reference's. -/
structure Mst where
  g : Nat
  v : Value
  es : List EntT
  r : Nat
  u : Value
  fs : List EntT
  K : Int
  R : Int
/-- The blocks that it owns. -/
def Mst.nm (m : Mst) : Nat → Option Nat
  | 0 => some m.g
  | 1 => m.v.ownBlock
  | 2 => some m.r
  | _ => m.u.ownBlock
def updM (ms : Nat → Mst) (i : Nat) (m : Mst) : Nat → Mst := fun j => if j = i then m else ms j
theorem updM_self (ms : Nat → Mst) (i : Nat) (m : Mst) : updM ms i m i = m := if_pos rfl
theorem updM_other (ms : Nat → Mst) {i j : Nat} (m : Mst) (h : j ≠ i) : updM ms i m j = ms j := if_neg h
structure PXM (B : Nat) (w : World) (n : Nat) (ms : Nat → Mst) (own : List Nat) : Prop where
  mp : ∀ i, i < n → Mp w B (ms i).g (ms i).v (ms i).K (ms i).R (ms i).es
  rm : ∀ i, i < n → Rm w B (ms i).r (ms i).u ((ms i).K == 2) (ms i).R (ms i).fs
  ap : ∀ (p q : Nat × Nat) (k : Nat), (p.1 < n ∧ p.2 < 4) → (q.1 < n ∧ q.2 < 4) → (ms p.1).nm p.2 = some k → (ms q.1).nm q.2 = some k → p = q
  far : ∀ (p : Nat × Nat) (k : Nat), (p.1 < n ∧ p.2 < 4) → (ms p.1).nm p.2 = some k → k ∉ own
  lo : ∀ k ∈ own, k < w.heap.size
section
variable {B : Nat} {w w' : World} {n : Nat} {ms : Nat → Mst} {own : List Nat}
theorem PXM.ext (h : PXM B w n ms own) (hb : Below w.heap.size w w') : PXM B w' n ms own :=
  ⟨fun i hi => (h.mp i hi).ext hb, fun i hi => (h.rm i hi).ext hb, h.ap, h.far, fun k hk => Nat.lt_of_lt_of_le (h.lo k hk) hb.size⟩
theorem PXM.lt (h : PXM B w n ms own) (p : Nat × Nat) (k : Nat) (hp : p.1 < n ∧ p.2 < 4) (hk : (ms p.1).nm p.2 = some k) : k < w.heap.size := by
  obtain ⟨i, a⟩ := p
  simp only at hp hk
  rcases (by omega : a = 0 ∨ a = 1 ∨ a = 2 ∨ a = 3) with rfl | rfl | rfl | rfl
  · obtain rfl := Option.some.inj hk
    exact lt_of_blk (h.mp i hp.1).blk
  · exact ((h.mp i hp.1).row.lt k hk).2
  · obtain rfl := Option.some.inj hk
    exact lt_of_blk (h.rm i hp.1).blk
  · exact ((h.rm i hp.1).row.lt k hk).2
theorem inj_upd {N N' : Nat × Nat → Option Nat} {D : Nat × Nat → Prop} {S : Nat} {p0 : Nat × Nat} (hinj : ∀ p q k, D p → D q → N p = some k → N q = some k → p = q) (hlt : ∀ p k, D p → N p = some k → k < S) (hsame : ∀ p, D p → p ≠ p0 → N' p = N p) (hnew : N' p0 = N p0 ∨ ∀ k, N' p0 = some k → S ≤ k) :
    ∀ p q k, D p → D q → N' p = some k → N' q = some k → p = q := by
  intro p q k hp hq h1 h2
  by_cases e1 : p = p0
  · by_cases e2 : q = p0
    · rw [e1, e2]
    · rw [hsame q hq e2] at h2
      rcases hnew with e | e
      · rw [e1] at h1 hp
        rw [e] at h1
        rw [e1]
        exact hinj _ _ k hp hq h1 h2
      · rw [e1] at h1
        have := e k h1
        have := hlt q k hq h2
        omega
  · rw [hsame p hp e1] at h1
    by_cases e2 : q = p0
    · rcases hnew with e | e
      · rw [e2] at h2 hq
        rw [e] at h2
        rw [e2]
        exact hinj _ _ k hp hq h1 h2
      · rw [e2] at h2
        have := e k h2
        have := hlt p k hp h1
        omega
    · rw [hsame q hq e2] at h2
      exact hinj p q k hp hq h1 h2
theorem row_keep {T k m : Nat} {v : Value} {xs : List Value} (h : w.ownsRow B T k v m xs) (hk : ∀ g o, w.heap[g]? = some o → v.ownBlock = some g → w'.heap[g]? = some o) : w'.ownsRow B T k v m xs := by
  refine ⟨h.1, ?_⟩
  rcases h.2 with hn | ⟨g, cap, cur, e, h1, h2, rest⟩
  · exact .inl hn
  · exact .inr ⟨g, cap, cur, e, h1, hk g _ h2 (by rw [e]; rfl), rest⟩
theorem Mst.nm_upd (ms : Nat → Mst) (i : Nat) (m : Mst) (a0 : Nat) (hs : ∀ a, a ≠ a0 → m.nm a = (ms i).nm a) (p : Nat × Nat) (hp : p ≠ (i, a0)) : ((updM ms i m) p.1).nm p.2 = (ms p.1).nm p.2 := by
  obtain ⟨j, a⟩ := p
  by_cases hj : j = i
  · subst hj
    show (updM ms j m j).nm a = _
    rw [updM_self]
    exact hs a fun e => hp (by rw [e])
  · show (updM ms i m j).nm a = _
    rw [updM_other ms m hj]
/-- A Put of the program's. -/
theorem PXM.put (h : PXM B w n ms own) {i : Nat} (hi : i < n) {v' : Value} {es' : List EntT} (hT : MpT w w' B (ms i).g (ms i).v v' (ms i).K (ms i).R es') :
    PXM B w' n (updM ms i { ms i with v := v', es := es' }) own ∧ ∀ k o, w.heap[k]? = some o → k ∈ own → w'.heap[k]? = some o := by
  have hs : ∀ a, a ≠ 1 → ({ ms i with v := v', es := es' } : Mst).nm a = (ms i).nm a := fun a ha => by
    rcases (by omega : a = 0 ∨ a = 2 ∨ 3 ≤ a) with rfl | rfl | ha3
    · rfl
    · rfl
    · obtain ⟨b, rfl⟩ : ∃ b, a = b + 3 := ⟨a - 3, by omega⟩
      rfl
  have hnew : ((updM ms i { ms i with v := v', es := es' }) i).nm 1 = (ms i).nm 1 ∨ ∀ k, ((updM ms i { ms i with v := v', es := es' }) i).nm 1 = some k → w.heap.size ≤ k := by
    rw [updM_self]
    rcases hT.own.own with e | ⟨q, e, hq⟩
    · exact .inl e
    · refine .inr fun k hk => ?_
      have hk' : v'.ownBlock = some k := hk
      rw [e] at hk'
      obtain rfl := Option.some.inj hk'
      exact hq
  have hap := inj_upd (N := fun p => (ms p.1).nm p.2) (N' := fun p => ((updM ms i { ms i with v := v', es := es' }) p.1).nm p.2) (D := fun p => p.1 < n ∧ p.2 < 4) (S := w.heap.size) (p0 := (i, 1)) h.ap h.lt (fun p _ hp => Mst.nm_upd ms i _ 1 hs p hp) hnew
  have hkeep : ∀ (p : Nat × Nat) (k : Nat) (o : Obj), (p.1 < n ∧ p.2 < 4) → p ≠ (i, 0) → p ≠ (i, 1) → (ms p.1).nm p.2 = some k → w.heap[k]? = some o → w'.heap[k]? = some o := fun p k o hp h0 h1 hk ho => by
    refine hT.rest.keep k o ho (fun e => h0 ?_) (fun e => h1 ?_)
    · exact h.ap p (i, 0) k hp ⟨hi, by simp⟩ hk (by rw [e]; rfl)
    · exact h.ap p (i, 1) k hp ⟨hi, by simp⟩ hk e
  refine ⟨⟨fun j hj => ?_, fun j hj => ?_, hap, fun p k hp hk ho => ?_, fun k hk => Nat.lt_of_lt_of_le (h.lo k hk) hT.rest.below.size⟩, fun k o ho hk => ?_⟩
  · by_cases e : j = i
    · subst e
      rw [updM_self]
      exact hT.mp
    · rw [updM_other ms _ e]
      have hm := h.mp j hj
      exact ⟨hm.low, hkeep (j, 0) _ _ ⟨hj, by simp⟩ (by simp [e]) (by simp) rfl hm.blk, row_keep hm.row fun g o ho hv => hkeep (j, 1) _ _ ⟨hj, by simp⟩ (by simp) (by simp [e]) hv ho, hm.apart⟩
  · have hr := h.rm j hj
    have hr' : Rm w' B (ms j).r (ms j).u ((ms j).K == 2) (ms j).R (ms j).fs := ⟨hr.low, hkeep (j, 2) _ _ ⟨hj, by simp⟩ (by simp) (by simp) rfl hr.blk, row_keep hr.row fun g o ho hv => hkeep (j, 3) _ _ ⟨hj, by simp⟩ (by simp) (by simp) hv ho, hr.apart⟩
    by_cases e : j = i
    · subst e
      rw [updM_self]
      exact hr'
    · rw [updM_other ms _ e]
      exact hr'
  · by_cases e : p = (i, 1)
    · subst e
      rcases hnew with e1 | e1
      · exact h.far (i, 1) k hp (e1.symm.trans hk) ho
      · have := e1 k hk
        have := h.lo k ho
        omega
    · have hk' : ((updM ms i { ms i with v := v', es := es' }) p.1).nm p.2 = some k := hk
      rw [Mst.nm_upd ms i _ 1 hs p e] at hk'
      exact h.far p k hp hk' ho
  · exact hT.rest.keep k o ho (fun e => h.far (i, 0) k ⟨hi, by simp⟩ (by rw [e]; rfl) hk) (fun e => h.far (i, 1) k ⟨hi, by simp⟩ e hk)
/-- A Put of the reference's. -/
theorem PXM.rput (h : PXM B w n ms own) {i : Nat} (hi : i < n) {u' : Value} {fs' : List EntT} (hT : RmT w w' B (ms i).r (ms i).u u' ((ms i).K == 2) (ms i).R fs') :
    PXM B w' n (updM ms i { ms i with u := u', fs := fs' }) own ∧ ∀ k o, w.heap[k]? = some o → k ∈ own → w'.heap[k]? = some o := by
  have hs : ∀ a, a < 3 → ({ ms i with u := u', fs := fs' } : Mst).nm a = (ms i).nm a := fun a ha => by
    rcases (by omega : a = 0 ∨ a = 1 ∨ a = 2) with rfl | rfl | rfl <;> rfl
  have hsame : ∀ (p : Nat × Nat), (p.1 < n ∧ p.2 < 4) → p ≠ (i, 3) → ((updM ms i { ms i with u := u', fs := fs' }) p.1).nm p.2 = (ms p.1).nm p.2 := fun p hp he => by
    obtain ⟨j, a⟩ := p
    by_cases hj : j = i
    · subst hj
      show (updM ms j _ j).nm a = _
      rw [updM_self]
      have h4 : a < 4 := hp.2
      refine hs a ?_
      rcases (by omega : a < 3 ∨ a = 3) with h3 | rfl
      · exact h3
      · exact absurd rfl he
    · show (updM ms i _ j).nm a = _
      rw [updM_other ms _ hj]
  have hnew : ((updM ms i { ms i with u := u', fs := fs' }) i).nm 3 = (ms i).nm 3 ∨ ∀ k, ((updM ms i { ms i with u := u', fs := fs' }) i).nm 3 = some k → w.heap.size ≤ k := by
    rw [updM_self]
    rcases hT.own with e | hq
    · exact .inl (congrArg Value.ownBlock e)
    · exact .inr fun k hk => hq k hk
  have hap := inj_upd (N := fun p => (ms p.1).nm p.2) (N' := fun p => ((updM ms i { ms i with u := u', fs := fs' }) p.1).nm p.2) (D := fun p => p.1 < n ∧ p.2 < 4) (S := w.heap.size) (p0 := (i, 3)) h.ap h.lt hsame hnew
  have hkeep : ∀ (p : Nat × Nat) (k : Nat) (o : Obj), (p.1 < n ∧ p.2 < 4) → p ≠ (i, 2) → (ms p.1).nm p.2 = some k → w.heap[k]? = some o → w'.heap[k]? = some o := fun p k o hp h0 hk ho => by
    refine hT.keep k o ho (fun e => h0 ?_)
    exact h.ap p (i, 2) k hp ⟨hi, by simp⟩ hk (by rw [e]; rfl)
  refine ⟨⟨fun j hj => ?_, fun j hj => ?_, hap, fun p k hp hk ho => ?_, fun k hk => Nat.lt_of_lt_of_le (h.lo k hk) hT.below.size⟩, fun k o ho hk => ?_⟩
  · have hm := h.mp j hj
    have hm' : Mp w' B (ms j).g (ms j).v (ms j).K (ms j).R (ms j).es := ⟨hm.low, hkeep (j, 0) _ _ ⟨hj, by simp⟩ (by simp) rfl hm.blk, row_keep hm.row fun g o ho hv => hkeep (j, 1) _ _ ⟨hj, by simp⟩ (by simp) hv ho, hm.apart⟩
    by_cases e : j = i
    · subst e
      rw [updM_self]
      exact hm'
    · rw [updM_other ms _ e]
      exact hm'
  · by_cases e : j = i
    · subst e
      rw [updM_self]
      exact hT.mp
    · rw [updM_other ms _ e]
      have hr := h.rm j hj
      exact ⟨hr.low, hkeep (j, 2) _ _ ⟨hj, by simp⟩ (by simp [e]) rfl hr.blk, row_keep hr.row fun g o ho hv => hkeep (j, 3) _ _ ⟨hj, by simp⟩ (by simp) hv ho, hr.apart⟩
  · by_cases e : p = (i, 3)
    · subst e
      rcases hnew with e1 | e1
      · exact h.far (i, 3) k hp (e1.symm.trans hk) ho
      · have := e1 k hk
        have := h.lo k ho
        omega
    · have hk' : ((updM ms i { ms i with u := u', fs := fs' }) p.1).nm p.2 = some k := hk
      rw [hsame p hp e] at hk'
      exact h.far p k hp hk' ho
  · exact hT.keep k o ho (fun e => h.far (i, 2) k ⟨hi, by simp⟩ (by rw [e]; rfl) hk)
end
/-- The maps as they were made. -/
def ms0 (gs rs : List Nat) (ss : List (Int × Int)) : Nat → Mst := fun i => ⟨gs.getD i 0, .slice none 0 0, [], rs.getD i 0, .slice none 0 0, [], (ss.getD i (0, 0)).1, (ss.getD i (0, 0)).2⟩
theorem PXM.made {B B' : Nat} {w : World} {gs rs : List Nat} {ss : List (Int × Int)} {v u : Value} {T U : Nat} (hM : MkS MpN B w gs ss) (hR : MkS RmN B' w rs ss) (hBB : B ≤ B') (hg : ∀ g ∈ gs, g < B') (hv : PApart w B T v gs) (hv' : ∀ k, v.ownBlock = some k → k < B') (hu : PApart w B' U u rs) :
    PXM B w ss.length (ms0 gs rs ss) (v.ownBlock.toList ++ u.ownBlock.toList) := by
  have hgl := hM.len
  have hrl := hR.len
  have e1 : ∀ i (hi : i < ss.length), (ms0 gs rs ss i).g = gs[i]'(by omega) := fun i hi => by simp [ms0, List.getD_eq_getElem?_getD, List.getElem?_eq_getElem (show i < gs.length by omega)]
  have e2 : ∀ i (hi : i < ss.length), (ms0 gs rs ss i).r = rs[i]'(by omega) := fun i hi => by simp [ms0, List.getD_eq_getElem?_getD, List.getElem?_eq_getElem (show i < rs.length by omega)]
  have e3 : ∀ i (hi : i < ss.length), (ms0 gs rs ss i).K = (ss[i]).1 ∧ (ms0 gs rs ss i).R = (ss[i]).2 := fun i hi => by simp [ms0, List.getD_eq_getElem?_getD, List.getElem?_eq_getElem hi]
  have hrlo : ∀ r ∈ rs, B' ≤ r := fun r hr => (hR.lo goes_rm r hr).1
  have hnm : ∀ (p : Nat × Nat) (k : Nat), (p.1 < ss.length ∧ p.2 < 4) → (ms0 gs rs ss p.1).nm p.2 = some k → (p.2 = 0 ∧ ∃ h : p.1 < gs.length, gs[p.1] = k) ∨ (p.2 = 2 ∧ ∃ h : p.1 < rs.length, rs[p.1] = k) := fun p k hp hk => by
    obtain ⟨i, a⟩ := p
    simp only at hp hk ⊢
    rcases (by omega : a = 0 ∨ a = 1 ∨ a = 2 ∨ a = 3) with rfl | rfl | rfl | rfl
    · refine .inl ⟨rfl, by omega, ?_⟩
      rw [← e1 i hp.1]
      exact Option.some.inj hk
    · cases hk
    · refine .inr ⟨rfl, by omega, ?_⟩
      rw [← e2 i hp.1]
      exact Option.some.inj hk
    · cases hk
  refine ⟨fun i hi => ?_, fun i hi => ?_, fun p q k hp hq h1 h2 => ?_, fun p k hp hk ho => ?_, fun k hk => ?_⟩
  · have := hM.mp i (by omega) hi
    rw [e1 i hi, (e3 i hi).1, (e3 i hi).2]
    exact this
  · have := goes_rm.mono _ _ _ _ _ (hR.mp i (by omega) hi) hBB
    rw [e2 i hi, (e3 i hi).1, (e3 i hi).2]
    exact this
  · rcases hnm p k hp h1 with ⟨a1, b1, c1⟩ | ⟨a1, b1, c1⟩ <;> rcases hnm q k hq h2 with ⟨a2, b2, c2⟩ | ⟨a2, b2, c2⟩
    · exact Prod.ext ((List.getElem_inj hM.nodup).1 (c1.trans c2.symm)) (a1.trans a2.symm)
    · have h3 := hg k (c1 ▸ List.getElem_mem b1)
      have h4 := hrlo k (c2 ▸ List.getElem_mem b2)
      omega
    · have h3 := hg k (c2 ▸ List.getElem_mem b2)
      have h4 := hrlo k (c1 ▸ List.getElem_mem b1)
      omega
    · exact Prod.ext ((List.getElem_inj hR.nodup).1 (c1.trans c2.symm)) (a1.trans a2.symm)
  · rcases hnm p k hp hk with ⟨a1, b1, c1⟩ | ⟨a1, b1, c1⟩
    · have hmem : k ∈ gs := c1 ▸ List.getElem_mem b1
      rcases List.mem_append.1 ho with h | h
      · exact hv.ne k hmem (Option.mem_toList.1 h)
      · have h3 := (hu.row.own.lt k (Option.mem_toList.1 h)).1
        have h4 := hg k hmem
        omega
    · have hmem : k ∈ rs := c1 ▸ List.getElem_mem b1
      rcases List.mem_append.1 ho with h | h
      · have h3 := hv' k (Option.mem_toList.1 h)
        have h4 := hrlo k hmem
        omega
      · exact hu.ne k hmem (Option.mem_toList.1 h)
  · rcases List.mem_append.1 hk with h | h
    · exact (hv.row.own.lt k (Option.mem_toList.1 h)).2
    · exact (hu.row.own.lt k (Option.mem_toList.1 h)).2
end Go.Proofs.Yteohokidlopbnaa
