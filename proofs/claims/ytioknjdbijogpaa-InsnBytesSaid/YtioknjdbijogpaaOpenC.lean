/- Arguments, opened: an inode's numbers, and a slice of such. -/
import Derived.Test.YtioknjdbijogpaaRows
import Derived.Test.YtioknjdbijogpaaInsB
import Derived.Test.YtioknjdbijogpaaOpenB
import Derived.ProofKit
import Derived.OpenShut
import Derived.SizedLaws
import Derived.Lib.SmallJoins
import Derived.Deep.Slices
namespace Go.Proofs.Ytioknjdbijogpaa
open Go.ChangeShapes Go.WideShapes Go.ChangeAt Go.RowKit

theorem Try.cellsI : Try.prog.cellsOf 3 = 1 := by kernel_rfl
theorem Try.cellsIn : Try.prog.cellsOf 65 = 5 := by kernel_rfl
theorem mapM_get {α β : Type} {f : α → Option β} : ∀ (ks : List α) (l : List β), ks.mapM f = some l → ∀ (k : Nat) (v : β), l[k]? = some v → ∃ j, ks[k]? = some j ∧ f j = some v
  | [], l, h, k, v, hv => by
    simp at h
    subst h
    simp at hv
  | a :: ks, l, h, k, v, hv => by
    rw [List.mapM_cons] at h
    cases hfa : f a with
    | none => simp [hfa] at h
    | some b =>
      cases hm : ks.mapM f with
      | none => simp [hfa, hm] at h
      | some m =>
        simp [hfa, hm] at h
        subst h
        cases k with
        | zero =>
          simp at hv
          subst hv
          exact ⟨a, rfl, hfa⟩
        | succ k =>
          simp at hv
          obtain ⟨j, h1, h2⟩ := mapM_get ks m hm k v hv
          exact ⟨j, by simpa using h1, h2⟩

/-- One argument's sizes among all. -/
theorem weights_atB {H : Type} {P : Program} {p : Nat → Bool} : ∀ (ts : List TypeId) (ds : List (DataW H)) (j : Nat) {t : TypeId} {d : DataW H}, ts[j]? = some t → ds[j]? = some d →
    (DataW.weightsEach P ts ds).all p = true → (d.weights P t).all p = true
  | [], _, j, _, _, h, _, _ => by simp at h
  | _ :: _, [], j, _, _, _, h, _ => by simp at h
  | t0 :: ts, d0 :: ds, 0, t, d, h1, h2, h => by
    simp at h1 h2
    subst h1 h2
    simp only [DataW.weightsEach, List.all_append, Bool.and_eq_true] at h
    exact h.1
  | t0 :: ts, d0 :: ds, j + 1, t, d, h1, h2, h => by
    simp only [DataW.weightsEach, List.all_append, Bool.and_eq_true] at h
    exact weights_atB ts ds j (by simpa using h1) (by simpa using h2) h.2


section
variable {H : Type} {enc : TypeId × Value → H} {W : World} {base : Nat} {spare : Nat → Bool} {held : Bool}
set_option maxRecDepth 100000 in
theorem ins_of_trod {m : Nat} {cs : List Value} {x : DataW H × List MemPlace} (h : DataW.trod enc Try.prog W base spare held m 65 cs = some x) : cs.length = 5 ∧ ∃ f : Nat → Int, ∀ i : Nat, i < 5 → cs[i]? = some (.int .i64 (f i)) := by
  obtain ⟨xs, n, rfl, rfl, hlen, hxl, hi⟩ := DataW.trod_struct Try.underlying65 h
  rw [Try.cellsIn] at hlen
  have hxl' : xs.length = 5 := hxl
  have each : ∀ i : Nat, i < 5 → ∃ q : Int, cs[i]? = some (.int .i64 q) := fun i hi5 => by
    have g : DataW.trod enc Try.prog W base spare held n 3 ((cs.drop i).take (Try.prog.cellsOf 3)) = xs[i]? := by
      rcases (by omega : i = 0 ∨ i = 1 ∨ i = 2 ∨ i = 3 ∨ i = 4) with rfl | rfl | rfl | rfl | rfl
      · exact hi 0 _ rfl
      · exact hi 1 _ rfl
      · exact hi 2 _ rfl
      · exact hi 3 _ rfl
      · exact hi 4 _ rfl
    rw [Try.cellsI, List.getElem?_eq_getElem (by omega)] at g
    obtain ⟨q, k0, -, -⟩ := DataW.trod_int Try.underlying3 g
    refine ⟨q, ?_⟩
    have : ((cs.drop i).take 1)[0]? = some (.int .i64 q) := by rw [k0]; rfl
    rw [List.getElem?_take_of_lt (by decide), List.getElem?_drop] at this
    simpa using this
  refine ⟨hlen, fun i => if h : i < 5 then (each i h).choose else 0, fun i h5 => ?_⟩
  simp only [dif_pos h5]
  exact (each i h5).choose_spec

theorem inv_cell {f : Nat → Int} {i : Nat} {v : Value} (h : (inv f)[i]? = some v) : i < 5 ∧ v = .int .i64 (f i) := by
  match i, h with
  | 0, h => simp [inv] at h; exact ⟨by decide, h.symm⟩
  | 1, h => simp [inv] at h; exact ⟨by decide, h.symm⟩
  | 2, h => simp [inv] at h; exact ⟨by decide, h.symm⟩
  | 3, h => simp [inv] at h; exact ⟨by decide, h.symm⟩
  | 4, h => simp [inv] at h; exact ⟨by decide, h.symm⟩
  | i + 5, h => simp [inv] at h

set_option maxRecDepth 100000 in
theorem open_ins {b0 : Nat} {r : Reach} {v : Value} {d : DataW H} {ps : List MemPlace}
    (hv : Value.okWide Try.prog W r b0 65 v) (h : DataW.Trod enc Try.prog W base spare held 65 v d ps) : ∃ f, v = .agg (inv f) := by
  unfold Value.okWide at hv
  rw [Try.underlying65] at hv
  obtain ⟨cs, rfl, -, -⟩ := hv
  obtain ⟨m, h⟩ := h
  simp only [Value.cells] at h
  obtain ⟨hl, f, hf⟩ := ins_of_trod h
  refine ⟨f, ?_⟩
  congr 1
  apply Array.ext_getElem?
  intro i
  by_cases hi : i < 5
  · have h1 := hf i hi
    rw [Array.getElem?_toList] at h1
    rw [h1]
    rcases (by omega : i = 0 ∨ i = 1 ∨ i = 2 ∨ i = 3 ∨ i = 4) with rfl | rfl | rfl | rfl | rfl <;> rfl
  · rw [Array.getElem?_eq_none (by rw [← Array.length_toList, hl]; omega), Array.getElem?_eq_none (by show 5 ≤ i; omega)]

set_option maxRecDepth 100000 in
theorem open_inSl {v : Value} {d : DataW H} {ps : List MemPlace} {b0 : Nat} (hval : Value.okWide Try.prog W .any b0 37 v)
    (h : DataW.Trod enc Try.prog W 0 (fun _ => true) held 37 v d ps) (hsz : (d.weights Try.prog 37).all (· ≤ reachBytes) = true) :
    ∃ a fs cap, v = .slice a (List.length fs) cap ∧ InSl W a fs ∧ fs.length ≤ 140737488355328 ∧ fs.length ≤ cap := by
  obtain ⟨a0, len, cap, rfl⟩ := okWide_slice Try.underlying37 hval
  obtain ⟨fuel, hf⟩ := h
  rcases Go.Deep.open_slice Try.underlying37 hf with ⟨hcs, hx⟩ | ⟨a, len', cap', m, n, D, Pl, hcs, _, hl, hm, hmm, hx, hel⟩
  · change [Value.slice a0 len cap] = _ at hcs
    simp at hcs
    obtain ⟨rfl, rfl, rfl⟩ := hcs
    exact ⟨none, [], 0, rfl, fun j hj => by simp at hj, by simp, by simp⟩
  · change [Value.slice a0 len cap] = _ at hcs
    simp at hcs
    obtain ⟨rfl, rfl, rfl⟩ := hcs
    rw [Try.cellsIn] at hel
    simp only [if_true] at hmm
    have each : ∀ i, i < len → ∃ f : Nat → Int, (∀ k v, (inv f)[k]? = some v → W.cell? ((a.add (i * 5)).add k) = some v) := fun i hi => by
      obtain ⟨cs', h1, h2⟩ := hel i (by omega)
      obtain ⟨hl5, f, hp⟩ := ins_of_trod h2
      refine ⟨f, fun k v hv => ?_⟩
      obtain ⟨hk, rfl⟩ := inv_cell hv
      have h3 := hp k hk
      unfold World.cells? at h1
      split at h1
      · obtain ⟨j, h4, h5⟩ := mapM_get _ _ h1 k _ h3
        have hjk : j = k := by
          rw [List.getElem?_range hk] at h4
          exact (Option.some.inj h4).symm
        subst hjk
        exact h5
      · cases h1
    obtain ⟨pf, hpf⟩ := Go.Deep.choose_lt each
    have hd0 : d = .slice ((List.range len).map D) ((List.range (m - len)).map fun j => D (len + j)) := congrArg Prod.fst hx
    subst hd0
    have hb : Try.prog.bytesOf 65 = 40 := by kernel_rfl
    have hlen : len ≤ 140737488355328 := by
      simp only [DataW.weights, Try.underlying37, List.all_cons, Bool.and_eq_true, decide_eq_true_eq, List.length_map, List.length_range, hb] at hsz
      obtain ⟨h1, -⟩ := hsz
      unfold reachBytes at h1
      omega
    refine ⟨some a, (List.range len).map pf, cap, by simp, fun j hj => ⟨a, rfl, ?_⟩, by simpa using hlen, by simp; omega⟩
    simp at hj
    simpa using hpf j hj
end
end Go.Proofs.Ytioknjdbijogpaa
