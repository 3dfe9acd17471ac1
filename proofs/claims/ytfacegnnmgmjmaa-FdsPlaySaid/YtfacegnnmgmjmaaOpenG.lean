/- Arguments, opened: a script of Ops of chapter 28. -/
import Derived.Test.YtfacegnnmgmjmaaOpenF
import Derived.Test.YtfacegnnmgmjmaaFdsH
import Derived.Deep.Slices
namespace Go.Proofs.Ytfacegnnmgmjmaa
open Go.ChangeShapes Go.WideShapes Go.ChangeAt Go.RowKit

theorem mapM_get {α β : Type} {f : α → Option β} : ∀ (ks : List α) (l : List β), ks.mapM f = some l → ∀ (k : Nat) (v : β), l[k]? = some v → ∃ j, ks[k]? = some j ∧ f j = some v
  | [], l, h, k, v, hv => by
    simp at h
    subst h
    simp at hv
  | a :: ks, l, h, k, v, hv => by
    rw [List.mapM_cons] at h
    cases hfa : f a with
    | none => simp [hfa] at h
    | some b =>
      cases hm : ks.mapM f with
      | none => simp [hfa, hm] at h
      | some m =>
        simp [hfa, hm] at h
        subst h
        cases k with
        | zero =>
          simp at hv
          subst hv
          exact ⟨a, rfl, hfa⟩
        | succ k =>
          simp at hv
          obtain ⟨j, h1, h2⟩ := mapM_get ks m hm k v hv
          exact ⟨j, by simpa using h1, h2⟩

/-- One argument's sizes among all. -/
theorem weights_atB {H : Type} {P : Program} {p : Nat → Bool} : ∀ (ts : List TypeId) (ds : List (DataW H)) (j : Nat) {t : TypeId} {d : DataW H}, ts[j]? = some t → ds[j]? = some d →
    (DataW.weightsEach P ts ds).all p = true → (d.weights P t).all p = true
  | [], _, j, _, _, h, _, _ => by simp at h
  | _ :: _, [], j, _, _, _, h, _ => by simp at h
  | t0 :: ts, d0 :: ds, 0, t, d, h1, h2, h => by
    simp at h1 h2
    subst h1 h2
    simp only [DataW.weightsEach, List.all_append, Bool.and_eq_true] at h
    exact h.1
  | t0 :: ts, d0 :: ds, j + 1, t, d, h1, h2, h => by
    simp only [DataW.weightsEach, List.all_append, Bool.and_eq_true] at h
    exact weights_atB ts ds j (by simpa using h1) (by simpa using h2) h.2



theorem opv_cell {o : OpT} {i : Nat} {v : Value} (h : (opv o)[i]? = some v) : i < 8 := by
  by_cases hi : i < 8
  · exact hi
  · rw [Array.getElem?_eq_none (by show 8 ≤ i; omega)] at h; cases h

section
variable {H : Type} {enc : TypeId × Value → H} {W : World} {base : Nat} {spare : Nat → Bool} {held : Bool}
set_option maxRecDepth 100000 in
theorem open_opSl {v : Value} {d : DataW H} {ps : List MemPlace} {b0 : Nat} (hval : Value.okWide Try.prog W .any b0 22 v)
    (h : DataW.Trod enc Try.prog W 0 (fun _ => true) held 22 v d ps) (hsz : (d.weights Try.prog 22).all (· ≤ reachBytes) = true) :
    ∃ a os cap, v = .slice a (List.length os) cap ∧ OpSl W a os ∧ os.length ≤ 140737488355328 ∧ os.length ≤ cap := by
  obtain ⟨a0, len, cap, rfl⟩ := okWide_slice Try.underlying22 hval
  obtain ⟨fuel, hf⟩ := h
  rcases Go.Deep.open_slice Try.underlying22 hf with ⟨hcs, hx⟩ | ⟨a, len', cap', m, n, D, Pl, hcs, _, hl, hm, hmm, hx, hel⟩
  · change [Value.slice a0 len cap] = _ at hcs
    simp at hcs
    obtain ⟨rfl, rfl, rfl⟩ := hcs
    exact ⟨none, [], 0, rfl, fun j hj => by simp at hj, by simp, by simp⟩
  · change [Value.slice a0 len cap] = _ at hcs
    simp at hcs
    obtain ⟨rfl, rfl, rfl⟩ := hcs
    rw [Try.cellsOp] at hel
    simp only [if_true] at hmm
    have each : ∀ i, i < len → ∃ o : OpT, (∀ k v, (opv o)[k]? = some v → W.cell? ((a.add (i * 8)).add k) = some v) := fun i hi => by
      obtain ⟨cs', h1, h2⟩ := hel i (by omega)
      obtain ⟨hl8, hp⟩ := op_of_trod h2
      obtain ⟨q0, c0⟩ := hp 0 (by decide)
      obtain ⟨q1, c1⟩ := hp 1 (by decide)
      obtain ⟨q2, c2⟩ := hp 2 (by decide)
      obtain ⟨q3, c3⟩ := hp 3 (by decide)
      obtain ⟨q4, c4⟩ := hp 4 (by decide)
      obtain ⟨q5, c5⟩ := hp 5 (by decide)
      obtain ⟨q6, c6⟩ := hp 6 (by decide)
      obtain ⟨q7, c7⟩ := hp 7 (by decide)
      refine ⟨(q0, q1, q2, q3, (q4, q5, q6, q7)), fun k v hv => ?_⟩
      have hk := opv_cell hv
      have h3 : cs'[k]? = some v := by
        rcases (by omega : k = 0 ∨ k = 1 ∨ k = 2 ∨ k = 3 ∨ k = 4 ∨ k = 5 ∨ k = 6 ∨ k = 7) with rfl | rfl | rfl | rfl | rfl | rfl | rfl | rfl
        · exact c0.trans hv
        · exact c1.trans hv
        · exact c2.trans hv
        · exact c3.trans hv
        · exact c4.trans hv
        · exact c5.trans hv
        · exact c6.trans hv
        · exact c7.trans hv
      unfold World.cells? at h1
      split at h1
      · obtain ⟨j, h4, h5⟩ := mapM_get _ _ h1 k _ h3
        have hjk : j = k := by
          rw [List.getElem?_range hk] at h4
          exact (Option.some.inj h4).symm
        subst hjk
        exact h5
      · cases h1
    obtain ⟨pf, hpf⟩ := Go.Deep.choose_lt each
    have hd0 : d = .slice ((List.range len).map D) ((List.range (m - len)).map fun j => D (len + j)) := congrArg Prod.fst hx
    subst hd0
    have hb : Try.prog.bytesOf 29 = 64 := by kernel_rfl
    have hlen : len ≤ 140737488355328 := by
      simp only [DataW.weights, Try.underlying22, List.all_cons, Bool.and_eq_true, decide_eq_true_eq, List.length_map, List.length_range, hb] at hsz
      obtain ⟨h1, -⟩ := hsz
      unfold reachBytes at h1
      omega
    refine ⟨some a, (List.range len).map pf, cap, by simp, fun j hj => ⟨a, rfl, ?_⟩, by simpa using hlen, by simp; omega⟩
    simp at hj
    simpa using hpf j hj
end
end Go.Proofs.Ytfacegnnmgmjmaa
