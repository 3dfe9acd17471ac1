/- Arguments, opened: a slice of specs; a slice of numbers. -/
import Derived.Test.YteohokidlopbnaaOpenB
import Derived.Test.YteohokidlopbnaaMkG
import Derived.Test.YteohokidlopbnaaIntSl
import Derived.ChangeSlices
import Derived.Deep.Slices
namespace Go.Proofs.Yteohokidlopbnaa
open Go.ChangeShapes Go.WideShapes Go.ChangeAt Go.RowKit

theorem mapM_get {α β : Type} {f : α → Option β} : ∀ (ks : List α) (l : List β), ks.mapM f = some l → ∀ (k : Nat) (v : β), l[k]? = some v → ∃ j, ks[k]? = some j ∧ f j = some v
  | [], l, h, k, v, hv => by
    simp at h
    subst h
    simp at hv
  | a :: ks, l, h, k, v, hv => by
    rw [List.mapM_cons] at h
    cases hfa : f a with
    | none => simp [hfa] at h
    | some b =>
      cases hm : ks.mapM f with
      | none => simp [hfa, hm] at h
      | some m =>
        simp [hfa, hm] at h
        subst h
        cases k with
        | zero =>
          simp at hv
          subst hv
          exact ⟨a, rfl, hfa⟩
        | succ k =>
          simp at hv
          obtain ⟨j, h1, h2⟩ := mapM_get ks m hm k v hv
          exact ⟨j, by simpa using h1, h2⟩

/-- One argument's sizes among all. -/
theorem weights_atB {H : Type} {P : Program} {p : Nat → Bool} : ∀ (ts : List TypeId) (ds : List (DataW H)) (j : Nat) {t : TypeId} {d : DataW H}, ts[j]? = some t → ds[j]? = some d →
    (DataW.weightsEach P ts ds).all p = true → (d.weights P t).all p = true
  | [], _, j, _, _, h, _, _ => by simp at h
  | _ :: _, [], j, _, _, _, h, _ => by simp at h
  | t0 :: ts, d0 :: ds, 0, t, d, h1, h2, h => by
    simp at h1 h2
    subst h1 h2
    simp only [DataW.weightsEach, List.all_append, Bool.and_eq_true] at h
    exact h.1
  | t0 :: ts, d0 :: ds, j + 1, t, d, h1, h2, h => by
    simp only [DataW.weightsEach, List.all_append, Bool.and_eq_true] at h
    exact weights_atB ts ds j (by simpa using h1) (by simpa using h2) h.2



set_option maxRecDepth 100000 in
theorem open_intSl {H : Type} {enc : TypeId × Value → H} {W : World} {v : Value} {d : DataW H} {ps : List MemPlace} {held : Bool} {base : Nat} (hval : Value.okWide Try.prog W .any base 37 v)
    (h : DataW.Trod enc Try.prog W 0 (fun _ => true) held 37 v d ps) (hsz : (d.weights Try.prog 37).all (· ≤ reachBytes) = true) :
    ∃ a zs cap, v = .slice a (List.length zs) cap ∧ IntSl W a zs ∧ zs.length ≤ 17592186044416 ∧ zs.length ≤ cap ∧ (∀ z ∈ zs, (Lit.int .i64 z).wf = true) := by
  obtain ⟨a0, len, cap, rfl⟩ := okWide_slice Try.underlying37 hval
  obtain ⟨fuel, hf⟩ := h
  rcases open_ints Try.underlying37 Try.underlying3 (by kernel_rfl) hf with ⟨hcs, hx⟩ | ⟨a, len', cap', zs, hcs, _, hl, hm, hz, hx, hcell, hwf⟩
  · change [Value.slice a0 len cap] = _ at hcs
    simp at hcs
    obtain ⟨rfl, rfl, rfl⟩ := hcs
    exact ⟨none, [], 0, rfl, fun j hj => by simp at hj, by simp, by simp, by simp⟩
  · change [Value.slice a0 len cap] = _ at hcs
    simp at hcs
    obtain ⟨rfl, rfl, rfl⟩ := hcs
    simp only [if_true] at hz
    have hd : d = .slice (lits .i64 (zs.take len)) (lits .i64 (zs.drop len)) := congrArg Prod.fst hx
    subst hd
    have hw : (DataW.weights Try.prog 37 (.slice (lits .i64 (zs.take len)) (lits .i64 (zs.drop len)) : DataW H)) = ((lits (H := H) .i64 (zs.take len)).length + (lits (H := H) .i64 (zs.drop len)).length) * Try.prog.bytesOf 3 :: (DataW.weightsAll (H := H) Try.prog 3 (lits .i64 (zs.take len)) ++ DataW.weightsAll (H := H) Try.prog 3 (lits .i64 (zs.drop len))) := by
      simp only [DataW.weights, Try.underlying37]
    rw [hw] at hsz
    have hb : Try.prog.bytesOf 3 = 8 := by kernel_rfl
    simp only [List.all_cons, Bool.and_eq_true, hb, decide_eq_true_eq] at hsz
    obtain ⟨h1, -⟩ := hsz
    have hlen : (zs.take len).length = len := by rw [List.length_take]; omega
    refine ⟨some a, zs.take len, cap, by rw [hlen], fun j hj => ⟨a, rfl, ?_, ?_⟩, ?_, by rw [hlen]; exact hl, fun z hz' => hwf z (List.mem_of_mem_take hz')⟩
    · rw [hlen] at hj
      rw [hcell j (by omega)]
      simp [List.getD, List.getElem?_eq_getElem (by omega : j < zs.length)]
    · rw [hlen] at hj
      have := World.block_lt_of_cell? W _ (hcell j (by omega))
      unfold Addr.add at this
      split at this <;> exact this
    · simp only [lits, List.length_map] at h1
      rw [hlen] at h1 ⊢
      unfold reachBytes at h1
      omega

theorem Try.cellsI : Try.prog.cellsOf 3 = 1 := by kernel_rfl
theorem Try.cellsSp : Try.prog.cellsOf 43 = 2 := by kernel_rfl
theorem takeAt {cs : List Value} {o n i : Nat} {v : Value} (h : ((cs.drop o).take n)[i]? = some v) : cs[o + i]? = some v := by
  rw [List.getElem?_take] at h
  split at h
  · rwa [List.getElem?_drop] at h
  · cases h
theorem spv_cell {s : Int × Int} {i : Nat} {v : Value} (h : (spv s)[i]? = some v) : i < 2 := by
  by_cases hi : i < 2
  · exact hi
  · rw [Array.getElem?_eq_none (by show 2 ≤ i; omega)] at h; cases h
section
variable {H : Type} {enc : TypeId × Value → H} {W : World} {base : Nat} {spare : Nat → Bool} {held : Bool}
set_option maxRecDepth 100000 in
theorem sp_of_trod {m : Nat} {cs : List Value} {x : DataW H × List MemPlace} (h : DataW.trod enc Try.prog W base spare held m 43 cs = some x) : cs.length = 2 ∧ ∀ i : Nat, i < 2 → ∃ q : Int, cs[i]? = some (.int .i64 q) := by
  obtain ⟨xs, n, rfl, rfl, hlen, hxl, hi⟩ := DataW.trod_struct Try.underlying43 h
  rw [Try.cellsSp] at hlen
  have hxl' : xs.length = 2 := hxl
  refine ⟨hlen, fun i hi4 => ?_⟩
  have g : DataW.trod enc Try.prog W base spare held n 3 ((cs.drop i).take (Try.prog.cellsOf 3)) = xs[i]? := by
    rcases (by omega : i = 0 ∨ i = 1) with rfl | rfl
    · exact hi 0 _ rfl
    · exact hi 1 _ rfl
  rw [Try.cellsI, List.getElem?_eq_getElem (by omega)] at g
  obtain ⟨q, k0, -, hw⟩ := DataW.trod_int Try.underlying3 g
  exact ⟨q, by have := takeAt (n := 1) (i := 0) (o := i) (cs := cs) (v := .int .i64 q) (by rw [k0]; rfl); simpa using this⟩
set_option maxRecDepth 100000 in
theorem open_spSl {v : Value} {d : DataW H} {ps : List MemPlace} {b0 : Nat} (hval : Value.okWide Try.prog W .any b0 36 v)
    (h : DataW.Trod enc Try.prog W 0 (fun _ => true) held 36 v d ps) (hsz : (d.weights Try.prog 36).all (· ≤ reachBytes) = true) :
    ∃ a ss cap, v = .slice a (List.length ss) cap ∧ SpSl W a ss ∧ ss.length ≤ 140737488355328 ∧ ss.length ≤ cap := by
  obtain ⟨a0, len, cap, rfl⟩ := okWide_slice Try.underlying36 hval
  obtain ⟨fuel, hf⟩ := h
  rcases Go.Deep.open_slice Try.underlying36 hf with ⟨hcs, hx⟩ | ⟨a, len', cap', m, n, D, Pl, hcs, _, hl, hm, hmm, hx, hel⟩
  · change [Value.slice a0 len cap] = _ at hcs
    simp at hcs
    obtain ⟨rfl, rfl, rfl⟩ := hcs
    exact ⟨none, [], 0, rfl, fun j hj => by simp at hj, by simp, by simp⟩
  · change [Value.slice a0 len cap] = _ at hcs
    simp at hcs
    obtain ⟨rfl, rfl, rfl⟩ := hcs
    rw [Try.cellsSp] at hel
    simp only [if_true] at hmm
    have each : ∀ i, i < len → ∃ o : Int × Int, (∀ k v, (spv o)[k]? = some v → W.cell? ((a.add (i * 2)).add k) = some v) := fun i hi => by
      obtain ⟨cs', h1, h2⟩ := hel i (by omega)
      obtain ⟨hl8, hp⟩ := sp_of_trod h2
      obtain ⟨q0, c0⟩ := hp 0 (by decide)
      obtain ⟨q1, c1⟩ := hp 1 (by decide)
      refine ⟨(q0, q1), fun k v hv => ?_⟩
      have hk := spv_cell hv
      have h3 : cs'[k]? = some v := by
        rcases (by omega : k = 0 ∨ k = 1) with rfl | rfl
        · exact c0.trans hv
        · exact c1.trans hv
      unfold World.cells? at h1
      split at h1
      · obtain ⟨j, h4, h5⟩ := mapM_get _ _ h1 k _ h3
        have hjk : j = k := by
          rw [List.getElem?_range hk] at h4
          exact (Option.some.inj h4).symm
        subst hjk
        exact h5
      · cases h1
    obtain ⟨pf, hpf⟩ := Go.Deep.choose_lt each
    have hd0 : d = .slice ((List.range len).map D) ((List.range (m - len)).map fun j => D (len + j)) := congrArg Prod.fst hx
    subst hd0
    have hb : Try.prog.bytesOf 43 = 16 := by kernel_rfl
    have hlen : len ≤ 140737488355328 := by
      simp only [DataW.weights, Try.underlying36, List.all_cons, Bool.and_eq_true, decide_eq_true_eq, List.length_map, List.length_range, hb] at hsz
      obtain ⟨h1, -⟩ := hsz
      unfold reachBytes at h1
      omega
    refine ⟨some a, (List.range len).map pf, cap, by simp, fun j hj => ⟨a, rfl, ?_⟩, by simpa using hlen, by simp; omega⟩
    simp at hj
    have h1 := hpf j hj
    intro k v hv
    simp only [List.getElem_map, List.getElem_range] at hv
    exact h1 k v hv
end
end Go.Proofs.Yteohokidlopbnaa
