/- Chapter 28: both tables among a call's own blocks. -/
import Derived.Test.YtfacegnnmgmjmaaPlyH
namespace Go.Proofs.Ytfacegnnmgmjmaa
open Go.RowKit
set_option linter.unusedSimpArgs false
set_option linter.unusedVariables false

@[irreducible] def filesL (p : Nat → Option Nat) (f : Nat → FileT) : List (Nat × Obj) := (List.range 32).filterMap fun i => (p i).map fun g => (g, Obj.cells (fv (f i)) 27 (0, 0))
def tabL (tb rb : Nat) (p : Nat → Option Nat) (f : Nat → FileT) (q : QT) : List (Nat × Obj) := (tb, Obj.cells (tc p) 66 (0, 0)) :: (rb, Obj.cells (qc q) 47 (0, 0)) :: filesL p f
theorem mem_filesL {p : Nat → Option Nat} {f : Nat → FileT} {x : Nat × Obj} : x ∈ filesL p f ↔ ∃ i, i < 32 ∧ p i = some x.1 ∧ x.2 = Obj.cells (fv (f i)) 27 (0, 0) := by
  unfold filesL
  rw [List.mem_filterMap]
  constructor
  · rintro ⟨i, hi, h⟩
    obtain ⟨g, hg, rfl⟩ := Option.map_eq_some_iff.1 h
    exact ⟨i, List.mem_range.1 hi, hg, rfl⟩
  · rintro ⟨i, hi, hg, ho⟩
    refine ⟨i, List.mem_range.2 hi, ?_⟩
    rw [hg, ← ho]
    rfl
theorem filesL_names (p : Nat → Option Nat) (f : Nat → FileT) : (filesL p f).map (·.1) = (List.range 32).filterMap p := by
  unfold filesL
  rw [List.map_filterMap]
  congr 1
  funext i
  cases p i <;> rfl
theorem names_nodup (p : Nat → Option Nat) : ((List.range 32).filterMap p).Nodup ↔ Inj p := by
  unfold List.Nodup
  rw [List.pairwise_filterMap, List.pairwise_iff_getElem]
  constructor
  · intro h i j g hi hj h1 h2
    rcases Nat.lt_trichotomy i j with e | e | e
    · exact absurd rfl (h i j (by simpa using hi) (by simpa using hj) e g (by simpa using h1) g (by simpa using h2))
    · exact e
    · exact absurd rfl (h j i (by simpa using hj) (by simpa using hi) e g (by simpa using h2) g (by simpa using h1))
  · intro h i j hi hj hij b hb b' hb' e
    subst e
    simp at hb hb' hi hj
    have := h i j b (by omega) (by omega) hb hb'
    omega

/-- Both tables, and blocks of the call's own. -/
structure PX (w0 w : World) (own : List (Nat × Obj)) (tb rb : Nat) (p : Nat → Option Nat) (f : Nat → FileT) (q : QT) : Prop where
  tab : Tab w tb p f
  rtab : RTab w rb q
  inj : Inj p
  lo : ∀ i g, i < 32 → p i = some g → w0.heap.size ≤ g ∧ g ≠ rb
  tlo : w0.heap.size ≤ tb
  rlo : w0.heap.size ≤ rb
  ne : tb ≠ rb
  base : Below w0.heap.size w0 w
  mine : ∀ x ∈ own, w.heap[x.1]? = some x.2 ∧ w0.heap.size ≤ x.1 ∧ x.1 ≠ tb ∧ x.1 ≠ rb ∧ ∀ i, i < 32 → p i ≠ some x.1
  nodup : (own.map (·.1)).Nodup
section
variable {w0 w w' : World} {own : List (Nat × Obj)} {tb rb : Nat} {p : Nat → Option Nat} {f : Nat → FileT} {q : QT}
theorem PX.st (h : PX w0 w own tb rb p f q) : St w0 (own ++ tabL tb rb p f q) w := by
  refine ⟨h.base, fun x hx => ?_, ?_⟩
  · rcases List.mem_append.1 hx with hx | hx
    · exact ⟨(h.mine x hx).1, (h.mine x hx).2.1⟩
    · rcases List.mem_cons.1 hx with rfl | hx
      · exact ⟨h.tab.tab, h.tlo⟩
      · rcases List.mem_cons.1 hx with rfl | hx
        · exact ⟨h.rtab, h.rlo⟩
        · obtain ⟨i, hi, hg, ho⟩ := mem_filesL.1 hx
          rw [ho]
          exact ⟨(h.tab.file i _ hi hg).1, (h.lo i _ hi hg).1⟩
  · rw [List.map_append, tabL, List.map_cons, List.map_cons, filesL_names, List.nodup_append]
    refine ⟨h.nodup, ?_, fun a ha b hb e => ?_⟩
    · rw [List.nodup_cons, List.nodup_cons]
      refine ⟨fun hm => ?_, fun hm => ?_, (names_nodup p).2 h.inj⟩
      · rcases List.mem_cons.1 hm with e | hm
        · exact h.ne e
        · obtain ⟨i, hi, hg⟩ := List.mem_filterMap.1 hm
          exact (h.tab.file i tb (List.mem_range.1 hi) hg).2 rfl
      · obtain ⟨i, hi, hg⟩ := List.mem_filterMap.1 hm
        exact (h.lo i rb (List.mem_range.1 hi) hg).2 rfl
    · subst e
      obtain ⟨x, hx, rfl⟩ := List.mem_map.1 ha
      have ho := h.mine x hx
      rcases List.mem_cons.1 hb with e | hb
      · exact ho.2.2.1 e
      · rcases List.mem_cons.1 hb with e | hb
        · exact ho.2.2.2.1 e
        · obtain ⟨i, hi, hg⟩ := List.mem_filterMap.1 hb
          exact ho.2.2.2.2 i (List.mem_range.1 hi) hg
theorem PX.of (h : St w0 (own ++ tabL tb rb p f q) w) : PX w0 w own tb rb p f q := by
  have hm : ∀ x, x ∈ tabL tb rb p f q → w.heap[x.1]? = some x.2 ∧ w0.heap.size ≤ x.1 := fun x hx => h.own x (List.mem_append_right _ hx)
  have hnd := h.nodup
  rw [List.map_append, tabL, List.map_cons, List.map_cons, filesL_names, List.nodup_append] at hnd
  obtain ⟨n1, n2, n3⟩ := hnd
  rw [List.nodup_cons, List.nodup_cons] at n2
  obtain ⟨n4, n5, n6⟩ := n2
  have hfile : ∀ i g, i < 32 → p i = some g → g ∈ (List.range 32).filterMap p := fun i g hi hg => List.mem_filterMap.2 ⟨i, List.mem_range.2 hi, hg⟩
  have hblk : ∀ i g, i < 32 → p i = some g → w.heap[g]? = some (.cells (fv (f i)) 27 (0, 0)) ∧ w0.heap.size ≤ g := fun i g hi hg =>
    hm (g, .cells (fv (f i)) 27 (0, 0)) (List.mem_cons_of_mem _ (List.mem_cons_of_mem _ (mem_filesL.2 ⟨i, hi, hg, rfl⟩)))
  refine ⟨⟨(hm _ (List.mem_cons_self ..)).1, fun i g hi hg => ⟨(hblk i g hi hg).1, fun e => n4 (List.mem_cons_of_mem _ (by rw [← e]; exact hfile i g hi hg))⟩⟩, (hm _ (List.mem_cons_of_mem _ (List.mem_cons_self ..))).1, (names_nodup p).1 n6,
    fun i g hi hg => ⟨(hblk i g hi hg).2, fun e => n5 (by rw [← e]; exact hfile i g hi hg)⟩, (hm _ (List.mem_cons_self ..)).2, (hm _ (List.mem_cons_of_mem _ (List.mem_cons_self ..))).2, fun e => n4 (by rw [e]; exact List.mem_cons_self ..), h.base, fun x hx => ?_, n1⟩
  have hb := h.own x (List.mem_append_left _ hx)
  have hx1 : x.1 ∈ own.map (·.1) := List.mem_map_of_mem hx
  exact ⟨hb.1, hb.2, fun e => n3 _ hx1 _ (List.mem_cons_self ..) e, fun e => n3 _ hx1 _ (List.mem_cons_of_mem _ (List.mem_cons_self ..)) e, fun i hi hg => n3 _ hx1 _ (List.mem_cons_of_mem _ (List.mem_cons_of_mem _ (hfile i _ hi hg))) rfl⟩
theorem PX.opened (h : PX w0 w own tb rb p f q) {s g : Nat} {x : FileT} (hs : s < 32) (hg : w.heap.size ≤ g) (hT : Tab w' tb (upd p s (some g)) (updF f s x)) (hB : Below w0.heap.size w w') (hK : KB tb w w') : PX w0 w' own tb rb (upd p s (some g)) (updF f s x) q := by
  have hrl := lt_of_blk h.rtab
  have hlt : ∀ i g2, i < 32 → p i = some g2 → g2 < w.heap.size := fun i g2 hi hp => lt_of_blk (h.tab.file i g2 hi hp).1
  refine ⟨hT, hK _ _ h.rtab (Ne.symm h.ne), fun i j g2 hi hj h1 h2 => ?_, fun i g2 hi h1 => ?_, h.tlo, h.rlo, h.ne, h.base.trans hB, fun y hy => ?_, h.nodup⟩
  · unfold upd at h1 h2
    split at h1 <;> split at h2
    · omega
    · injection h1 with h1
      have := hlt j g2 hj h2
      omega
    · injection h2 with h2
      have := hlt i g2 hi h1
      omega
    · exact h.inj i j g2 hi hj h1 h2
  · unfold upd at h1
    split at h1
    · injection h1 with h1
      have := h.base.size
      omega
    · exact h.lo i g2 hi h1
  · have ho := h.mine y hy
    refine ⟨hK _ _ ho.1 ho.2.2.1, ho.2.1, ho.2.2.1, ho.2.2.2.1, fun i hi h1 => ?_⟩
    unfold upd at h1
    split at h1
    · injection h1 with h1
      have := lt_of_blk ho.1
      omega
    · exact ho.2.2.2.2 i hi h1
theorem PX.closed (h : PX w0 w own tb rb p f q) {s : Nat} (hT : Tab w' tb (upd p s none) f) (hB : Below w0.heap.size w w') (hK : KB tb w w') : PX w0 w' own tb rb (upd p s none) f q := by
  have hup : ∀ i g, upd p s none i = some g → p i = some g := fun i g h1 => by
    unfold upd at h1
    split at h1
    · cases h1
    · exact h1
  refine ⟨hT, hK _ _ h.rtab (Ne.symm h.ne), fun i j g2 hi hj h1 h2 => h.inj i j g2 hi hj (hup _ _ h1) (hup _ _ h2), fun i g2 hi h1 => h.lo i g2 hi (hup _ _ h1), h.tlo, h.rlo, h.ne, h.base.trans hB, fun y hy => ?_, h.nodup⟩
  have ho := h.mine y hy
  exact ⟨hK _ _ ho.1 ho.2.2.1, ho.2.1, ho.2.2.1, ho.2.2.2.1, fun i hi h1 => ho.2.2.2.2 i hi (hup _ _ h1)⟩
theorem PX.moved (h : PX w0 w own tb rb p f q) {s g : Nat} {f' : Nat → FileT} (hs : s < 32) (hp : p s = some g) (hT : Tab w' tb p f') (hB : Below w0.heap.size w w') (hK : KB g w w') : PX w0 w' own tb rb p f' q := by
  refine ⟨hT, hK _ _ h.rtab (Ne.symm (h.lo s g hs hp).2), h.inj, h.lo, h.tlo, h.rlo, h.ne, h.base.trans hB, fun y hy => ?_, h.nodup⟩
  have ho := h.mine y hy
  exact ⟨hK _ _ ho.1 (fun e => ho.2.2.2.2 s hs (by rw [e]; exact hp)), ho.2⟩
theorem PX.reffed (h : PX w0 w own tb rb p f q) {q' : QT} (hR : RTab w' rb q') (hB : Below w0.heap.size w w') (hK : KB rb w w') : PX w0 w' own tb rb p f q' := by
  refine ⟨⟨hK _ _ h.tab.tab h.ne, fun i g hi hg => ⟨hK _ _ (h.tab.file i g hi hg).1 (h.lo i g hi hg).2, (h.tab.file i g hi hg).2⟩⟩, hR, h.inj, h.lo, h.tlo, h.rlo, h.ne, h.base.trans hB, fun y hy => ?_, h.nodup⟩
  have ho := h.mine y hy
  exact ⟨hK _ _ ho.1 ho.2.2.2.1, ho.2⟩
theorem PX.ext (h : PX w0 w own tb rb p f q) (hb : Below w.heap.size w w') : PX w0 w' own tb rb p f q := PX.of (h.st.ext hb)
end
end Go.Proofs.Ytfacegnnmgmjmaa
