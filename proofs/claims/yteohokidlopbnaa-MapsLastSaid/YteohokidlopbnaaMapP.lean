/- Chapter 17: plain laws of an Lru. -/
import Derived.Test.YteohokidlopbnaaMapJ
namespace Go.Proofs.Yteohokidlopbnaa
open Go.RowKit
set_option linter.unusedSimpArgs false
set_option linter.unusedVariables false

abbrev keysN (U : List EntT) : List Int := U.map (·.1)
/-- The entries by their last use, the newest first. -/
def useN (ks : List Int) : Nat → List EntT
  | 0 => []
  | i + 1 => (ks.getD i 0, ((i : Int), 0, 0, 0)) :: (useN ks i).filter fun e => e.1 != ks.getD i 0
/-- The entries behind i puts. -/
def esN (n : Int) (ks : List Int) : Nat → List EntT
  | 0 => []
  | i + 1 => putL 2 n (esN n ks i) (ks.getD i 0) ((i : Int), 0, 0, 0)
theorem putE_lru (n : Int) (es : List EntT) (k : Int) : putE 2 n es k = 0 := by
  unfold putE
  split
  · rfl
  · split
    · rfl
    · rfl
theorem use_nodup (ks : List Int) : ∀ i, (keysN (useN ks i)).Nodup
  | 0 => List.nodup_nil
  | i + 1 => by
    simp only [useN, keysN, List.map_cons]
    refine List.nodup_cons.2 ⟨fun h => ?_, ?_⟩
    · obtain ⟨e, he, h1⟩ := List.mem_map.1 h
      have := (List.mem_filter.1 he).2
      simp [h1] at this
    · exact (use_nodup ks i).sublist ((List.filter_sublist (l := useN ks i)).map _)
theorem filter_no {U : List EntT} {k : Int} (h : k ∉ keysN U) : U.filter (fun e => e.1 != k) = U := by
  refine List.filter_eq_self.2 fun e he => ?_
  have : e.1 ≠ k := fun h1 => h (List.mem_map.2 ⟨e, he, h1⟩)
  simpa using this
theorem take_hit {k : Int} : ∀ (U : List EntT) (m : Nat), (keysN U).Nodup → k ∈ keysN (U.take (m + 1)) → (U.take (m + 1)).filter (fun e => e.1 != k) = (U.filter fun e => e.1 != k).take m
  | [], m, _, h => by simp at h
  | e :: U, m, hd, h => by
    have hd' := List.nodup_cons.1 hd
    by_cases he : e.1 = k
    · have hk : k ∉ keysN U := by rw [← he]; exact hd'.1
      have hk2 : k ∉ keysN (U.take m) := fun h1 => hk ((List.map_subset _ (List.take_subset m U)) h1)
      simp only [List.take_succ_cons, List.filter_cons, he, bne_self_eq_false, Bool.false_eq_true, if_false]
      rw [filter_no hk, filter_no hk2]
    · have hb : (e.1 != k) = true := by simpa using he
      have h2 : k ∈ keysN (U.take m) := by
        simp only [List.take_succ_cons, keysN, List.map_cons, List.mem_cons] at h
        rcases h with h | h
        · exact absurd h.symm he
        · exact h
      cases m with
      | zero => simp at h2
      | succ m =>
        simp only [List.take_succ_cons, List.filter_cons, hb, if_true]
        rw [← take_hit U m hd'.2 h2]
theorem take_miss {k : Int} : ∀ (U : List EntT) (m : Nat), k ∉ keysN (U.take m) → (U.filter fun e => e.1 != k).take m = U.take m
  | _, 0, _ => by simp
  | [], m + 1, _ => by simp
  | e :: U, m + 1, h => by
    simp only [List.take_succ_cons, keysN, List.map_cons, List.mem_cons, not_or] at h
    have hb : (e.1 != k) = true := by simpa using fun h1 => h.1 h1.symm
    simp only [List.take_succ_cons, List.filter_cons, hb, if_true]
    rw [take_miss U m h.2]
theorem erase_key {k : Int} : ∀ (es : List EntT) (j : Nat) (hj : j < es.length), (keysN es).Nodup → es[j].1 = k → es.eraseIdx j = es.filter (fun e => e.1 != k)
  | [], j, hj, _, _ => by simp at hj
  | e :: es, 0, hj, hd, h => by
    simp only [List.getElem_cons_zero] at h
    have hd' := List.nodup_cons.1 hd
    simp only [List.eraseIdx_cons_zero, List.filter_cons, h, bne_self_eq_false, Bool.false_eq_true, if_false]
    rw [filter_no (by rw [← h]; exact hd'.1)]
  | e :: es, j + 1, hj, hd, h => by
    simp only [List.getElem_cons_succ] at h
    have hd' := List.nodup_cons.1 hd
    have hj' : j < es.length := by simpa using hj
    have hb : (e.1 != k) = true := by
      have : e.1 ≠ k := fun h1 => hd'.1 (List.mem_map.2 ⟨es[j], List.getElem_mem hj', by show es[j].1 = e.1; rw [h, h1]⟩)
      simpa using this
    simp only [List.eraseIdx_cons_succ, List.filter_cons, hb, if_true]
    rw [erase_key es j hj' hd'.2 h]
theorem findI_none {es : List EntT} {k : Int} (h : findI es k = none) : k ∉ keysN es := fun h1 => by
  obtain ⟨e, he, h2⟩ := List.mem_map.1 h1
  unfold findI at h
  rw [List.findIdx?_eq_none_iff] at h
  have := h e he
  simp [h2] at this
theorem findI_none_mk {es : List EntT} {k : Int} (h : k ∉ keysN es) : findI es k = none := by
  unfold findI
  rw [List.findIdx?_eq_none_iff]
  intro e he
  have : e.1 ≠ k := fun h1 => h (List.mem_map.2 ⟨e, he, h1⟩)
  simpa using this
theorem nodup_rev {l : List Int} (h : l.Nodup) : l.reverse.Nodup := List.pairwise_reverse.2 (h.imp fun h e => h e.symm)
theorem keys_rev (U : List EntT) : keysN U.reverse = (keysN U).reverse := by simp [keysN]
theorem put_use (n : Nat) (hn : 1 ≤ n) (U : List EntT) (hd : (keysN U).Nodup) (k : Int) (v : ValT) : putL 2 n (U.take n).reverse k v = (((k, v) :: U.filter fun e => e.1 != k).take n).reverse := by
  obtain ⟨m, rfl⟩ : ∃ m, n = m + 1 := ⟨n - 1, by omega⟩
  have hdt : (keysN (U.take (m + 1))).Nodup := hd.sublist ((List.take_sublist _ _).map _)
  have hdr : (keysN (U.take (m + 1)).reverse).Nodup := by rw [keys_rev]; exact nodup_rev hdt
  rw [List.take_succ_cons, List.reverse_cons]
  unfold putL
  cases hf : findI (U.take (m + 1)).reverse k with
  | some j =>
    obtain ⟨hj, he⟩ := findI_some hf
    simp only [touched, BEq.rfl, if_true]
    rw [List.eraseIdx_set_eq, erase_key _ j hj hdr he, List.filter_reverse, List.getElem?_set_self hj]
    rw [take_hit U m hd (by
      have : k ∈ keysN (U.take (m + 1)).reverse := List.mem_map.2 ⟨_, List.getElem_mem hj, he⟩
      rw [keys_rev] at this
      exact List.mem_reverse.1 this)]
    rfl
  | none =>
    have hk := findI_none hf
    rw [keys_rev, List.mem_reverse] at hk
    simp only [List.length_reverse, List.length_take]
    by_cases hl : ((min (m + 1) U.length : Nat) : Int) < ((m + 1 : Nat) : Int)
    · rw [if_pos hl]
      have hU : U.length ≤ m := by omega
      rw [List.take_of_length_le (by omega)] at hk ⊢
      rw [filter_no hk, List.take_of_length_le hU]
    · rw [if_neg hl]
      have hU : m + 1 ≤ U.length := by omega
      rw [show ((2 : Int) == 1) = false from rfl]
      simp only [Bool.false_eq_true, if_false]
      have hkm : k ∉ keysN (U.take m) := fun h1 => hk (by
        have hs : U.take m ⊆ U.take (m + 1) := fun e he => by
          rw [show U.take m = (U.take (m + 1)).take m from by rw [List.take_take]; congr 1; omega] at he
          exact List.take_subset _ _ he
        exact (List.map_subset _ hs) h1)
      rw [take_miss U m hkm, List.take_succ_eq_append_getElem (by omega : m < U.length), List.reverse_append]
      simp
theorem es_use (n : Nat) (hn : 1 ≤ n) (ks : List Int) : ∀ i, esN n ks i = ((useN ks i).take n).reverse
  | 0 => by simp [esN, useN]
  | i + 1 => by
    simp only [esN, useN]
    rw [es_use n hn ks i, put_use n hn _ (use_nodup ks i)]
theorem es_len (n : Nat) (hn : 1 ≤ n) (ks : List Int) (i : Nat) : (esN n ks i).length = min n (useN ks i).length := by
  rw [es_use n hn, List.length_reverse, List.length_take]

/-- What the going back has seen: the newest entries. -/
structure Back (ks : List Int) (c : Nat) (D : List EntT) : Prop where
  eq : useN ks ks.length = D ++ (useN ks c).filter fun e => !(keysN D).contains e.1
theorem back_start (ks : List Int) : Back ks ks.length [] := ⟨by simp; exact (List.filter_eq_self.2 (fun _ _ => rfl)).symm⟩
theorem Back.old {ks : List Int} {c : Nat} {D : List EntT} (h : Back ks (c + 1) D) (hk : ks.getD c 0 ∈ keysN D) : Back ks c D := by
  refine ⟨?_⟩
  conv => lhs; rw [h.eq]
  have h1 : (keysN D).contains (ks.getD c 0) = true := List.contains_iff_mem.2 hk
  rw [useN, List.filter_cons]
  simp only [h1, Bool.not_true, Bool.false_eq_true, if_false, List.filter_filter]
  congr 1
  refine List.filter_congr fun e he => ?_
  cases h2 : (keysN D).contains e.1
  · have : e.1 ≠ ks.getD c 0 := fun h3 => by rw [h3, h1] at h2; cases h2
    have : (e.1 != ks.getD c 0) = true := by simpa using this
    rw [this]; rfl
  · rfl
theorem Back.new {ks : List Int} {c : Nat} {D : List EntT} (h : Back ks (c + 1) D) (hk : ks.getD c 0 ∉ keysN D) : Back ks c (D ++ [(ks.getD c 0, ((c : Int), 0, 0, 0))]) ∧ ∃ rest, useN ks ks.length = D ++ (ks.getD c 0, ((c : Int), 0, 0, 0)) :: rest := by
  have h1 : (keysN D).contains (ks.getD c 0) = false := by
    cases h2 : (keysN D).contains (ks.getD c 0)
    · rfl
    · exact absurd (List.contains_iff_mem.1 h2) hk
  have h2 := h.eq
  rw [useN, List.filter_cons] at h2
  simp only [h1, Bool.not_false, if_true, List.filter_filter] at h2
  refine ⟨⟨?_⟩, _, h2⟩
  rw [h2, List.append_assoc, List.singleton_append]
  congr 2
  refine List.filter_congr fun e he => ?_
  simp only [keysN, List.map_append, List.map_cons, List.map_nil, List.contains_append, Bool.not_or]
  congr 1
  simp [bne]
  rfl
theorem Back.end {ks : List Int} {D : List EntT} (h : Back ks 0 D) : useN ks ks.length = D := by
  have := h.eq
  simpa [useN] using this
theorem Back.nodup {ks : List Int} {c : Nat} {D : List EntT} (h : Back ks c D) : (keysN D).Nodup := by
  have h1 := use_nodup ks ks.length
  rw [h.eq, keysN, List.map_append] at h1
  exact (List.nodup_append.1 h1).1
theorem use_len (ks : List Int) : ∀ i, (useN ks i).length ≤ i
  | 0 => Nat.le_refl _
  | i + 1 => by
    simp only [useN, List.length_cons]
    have h1 := use_len ks i
    have h2 := List.length_filter_le (fun e : EntT => e.1 != ks.getD i 0) (useN ks i)
    omega
theorem Back.len {ks : List Int} {c : Nat} {D : List EntT} (h : Back ks c D) : D.length ≤ ks.length := by
  have h1 := use_len ks ks.length
  rw [h.eq, List.length_append] at h1
  omega
theorem find_hit {U D rest : List EntT} {k : Int} {v : ValT} {n : Nat} (hd : (keysN U).Nodup) (hU : U = D ++ (k, v) :: rest) (hn : D.length < n) : ∃ j, findI (U.take n).reverse k = some j ∧ ∃ hj : j < (U.take n).reverse.length, (U.take n).reverse[j] = (k, v) := by
  have hmem : (k, v) ∈ (U.take n).reverse := by
    rw [List.mem_reverse, hU, List.take_append, List.mem_append]
    refine .inr ?_
    obtain ⟨m, hm⟩ : ∃ m, n - D.length = m + 1 := ⟨n - D.length - 1, by omega⟩
    rw [hm, List.take_succ_cons]
    exact List.mem_cons_self ..
  have hdr : (keysN (U.take n).reverse).Nodup := by
    rw [keys_rev]
    exact nodup_rev (hd.sublist ((List.take_sublist _ _).map _))
  cases hf : findI (U.take n).reverse k with
  | none => exact absurd (List.mem_map.2 ⟨_, hmem, rfl⟩) (findI_none hf)
  | some j =>
    obtain ⟨hj, he⟩ := findI_some hf
    refine ⟨j, rfl, hj, ?_⟩
    obtain ⟨i, hi, hi2⟩ := List.getElem_of_mem hmem
    have e1 : (keysN (U.take n).reverse)[j]'(by simpa [keysN] using hj) = (keysN (U.take n).reverse)[i]'(by simpa [keysN] using hi) := by
      simp only [keysN, List.getElem_map, hi2, he]
    have := (List.getElem_inj hdr).1 e1
    subst this
    exact hi2
theorem find_miss {U D rest : List EntT} {k : Int} {v : ValT} {n : Nat} (hd : (keysN U).Nodup) (hU : U = D ++ (k, v) :: rest) (hn : n ≤ D.length) : findI (U.take n).reverse k = none := by
  refine findI_none_mk ?_
  rw [keys_rev, List.mem_reverse, hU, List.take_append_of_le_length hn]
  intro h
  have h1 : k ∈ keysN D := (List.map_subset _ (List.take_subset n D)) h
  rw [hU, keysN, List.map_append, List.map_cons] at hd
  exact (List.nodup_append.1 hd).2.2 k h1 k (List.mem_cons_self ..) rfl
end Go.Proofs.Yteohokidlopbnaa
