/- Arguments, opened: an inode's numbers, and a slice of such. -/
import Derived.Test.YtioknjdbijogpaaRows
import Derived.Test.YtioknjdbijogpaaPermC
import Derived.ProofKit
import Derived.OpenShut
import Derived.SizedLaws
import Derived.Lib.SmallJoins
import Derived.Deep.Slices
namespace Go.Proofs.Ytioknjdbijogpaa
open Go.ChangeShapes Go.WideShapes Go.ChangeAt Go.RowKit

theorem own : ownKnob Try.prog.godebug = none := by kernel_rfl
theorem laidOut : laidOutB Try.prog = true := by kernel_rfl
theorem Try.cellsI : Try.prog.cellsOf 3 = 1 := by kernel_rfl
theorem Try.cellsAt : Try.prog.cellsOf 23 = 6 := by kernel_rfl
theorem mapM_get {α β : Type} {f : α → Option β} : ∀ (ks : List α) (l : List β), ks.mapM f = some l → ∀ (k : Nat) (v : β), l[k]? = some v → ∃ j, ks[k]? = some j ∧ f j = some v
  | [], l, h, k, v, hv => by
    simp at h
    subst h
    simp at hv
  | a :: ks, l, h, k, v, hv => by
    rw [List.mapM_cons] at h
    cases hfa : f a with
    | none => simp [hfa] at h
    | some b =>
      cases hm : ks.mapM f with
      | none => simp [hfa, hm] at h
      | some m =>
        simp [hfa, hm] at h
        subst h
        cases k with
        | zero =>
          simp at hv
          subst hv
          exact ⟨a, rfl, hfa⟩
        | succ k =>
          simp at hv
          obtain ⟨j, h1, h2⟩ := mapM_get ks m hm k v hv
          exact ⟨j, by simpa using h1, h2⟩

/-- One argument's sizes among all. -/
theorem weights_atA {H : Type} {P : Program} {p : Nat → Bool} : ∀ (ts : List TypeId) (ds : List (DataW H)) (j : Nat) {t : TypeId} {d : DataW H}, ts[j]? = some t → ds[j]? = some d →
    (DataW.weightsEach P ts ds).all p = true → (d.weights P t).all p = true
  | [], _, j, _, _, h, _, _ => by simp at h
  | _ :: _, [], j, _, _, _, h, _ => by simp at h
  | t0 :: ts, d0 :: ds, 0, t, d, h1, h2, h => by
    simp at h1 h2
    subst h1 h2
    simp only [DataW.weightsEach, List.all_append, Bool.and_eq_true] at h
    exact h.1
  | t0 :: ts, d0 :: ds, j + 1, t, d, h1, h2, h => by
    simp only [DataW.weightsEach, List.all_append, Bool.and_eq_true] at h
    exact weights_atA ts ds j (by simpa using h1) (by simpa using h2) h.2


section
variable {H : Type} {enc : TypeId × Value → H} {W : World} {base : Nat} {spare : Nat → Bool} {held : Bool}
set_option maxRecDepth 100000 in
theorem attr_of_trod {m : Nat} {cs : List Value} {x : DataW H × List MemPlace} (h : DataW.trod enc Try.prog W base spare held m 23 cs = some x) : cs.length = 6 ∧ ∃ f : Nat → Int, ∀ i : Nat, i < 6 → cs[i]? = some (.int .i64 (f i)) := by
  obtain ⟨xs, n, rfl, rfl, hlen, hxl, hi⟩ := DataW.trod_struct Try.underlying23 h
  rw [Try.cellsAt] at hlen
  have hxl' : xs.length = 6 := hxl
  have each : ∀ i : Nat, i < 6 → ∃ q : Int, cs[i]? = some (.int .i64 q) := fun i hi6 => by
    have g : DataW.trod enc Try.prog W base spare held n 3 ((cs.drop i).take (Try.prog.cellsOf 3)) = xs[i]? := by
      rcases (by omega : i = 0 ∨ i = 1 ∨ i = 2 ∨ i = 3 ∨ i = 4 ∨ i = 5) with rfl | rfl | rfl | rfl | rfl | rfl
      · exact hi 0 _ rfl
      · exact hi 1 _ rfl
      · exact hi 2 _ rfl
      · exact hi 3 _ rfl
      · exact hi 4 _ rfl
      · exact hi 5 _ rfl
    rw [Try.cellsI, List.getElem?_eq_getElem (by omega)] at g
    obtain ⟨q, k0, -, -⟩ := DataW.trod_int Try.underlying3 g
    refine ⟨q, ?_⟩
    have : ((cs.drop i).take 1)[0]? = some (.int .i64 q) := by rw [k0]; rfl
    rw [List.getElem?_take_of_lt (by decide), List.getElem?_drop] at this
    simpa using this
  refine ⟨hlen, fun i => if h : i < 6 then (each i h).choose else 0, fun i h6 => ?_⟩
  simp only [dif_pos h6]
  exact (each i h6).choose_spec

theorem atv_get {f : Nat → Int} {i : Nat} {v : Value} (h : (atv f)[i]? = some v) : i < 6 ∧ v = .int .i64 (f i) := by
  match i, h with
  | 0, h => simp [atv] at h; exact ⟨by decide, h.symm⟩
  | 1, h => simp [atv] at h; exact ⟨by decide, h.symm⟩
  | 2, h => simp [atv] at h; exact ⟨by decide, h.symm⟩
  | 3, h => simp [atv] at h; exact ⟨by decide, h.symm⟩
  | 4, h => simp [atv] at h; exact ⟨by decide, h.symm⟩
  | 5, h => simp [atv] at h; exact ⟨by decide, h.symm⟩
  | i + 6, h => simp [atv] at h

set_option maxRecDepth 100000 in
theorem open_attr {b0 : Nat} {r : Reach} {v : Value} {d : DataW H} {ps : List MemPlace}
    (hv : Value.okWide Try.prog W r b0 23 v) (h : DataW.Trod enc Try.prog W base spare held 23 v d ps) : ∃ f, v = .agg (atv f) := by
  unfold Value.okWide at hv
  rw [Try.underlying23] at hv
  obtain ⟨cs, rfl, -, -⟩ := hv
  obtain ⟨m, h⟩ := h
  simp only [Value.cells] at h
  obtain ⟨hl, f, hf⟩ := attr_of_trod h
  refine ⟨f, ?_⟩
  congr 1
  apply Array.ext_getElem?
  intro i
  by_cases hi : i < 6
  · have h1 := hf i hi
    rw [Array.getElem?_toList] at h1
    rw [h1]
    rcases (by omega : i = 0 ∨ i = 1 ∨ i = 2 ∨ i = 3 ∨ i = 4 ∨ i = 5) with rfl | rfl | rfl | rfl | rfl | rfl <;> rfl
  · rw [Array.getElem?_eq_none (by rw [← Array.length_toList, hl]; omega), Array.getElem?_eq_none (by show 6 ≤ i; omega)]

set_option maxRecDepth 100000 in
theorem open_atSl {v : Value} {d : DataW H} {ps : List MemPlace} {b0 : Nat} (hval : Value.okWide Try.prog W .any b0 31 v)
    (h : DataW.Trod enc Try.prog W 0 (fun _ => true) held 31 v d ps) (hsz : (d.weights Try.prog 31).all (· ≤ reachBytes) = true) :
    ∃ a fs cap, v = .slice a (List.length fs) cap ∧ AtSl W a fs ∧ fs.length ≤ 140737488355328 := by
  obtain ⟨a0, len, cap, rfl⟩ := okWide_slice Try.underlying31 hval
  obtain ⟨fuel, hf⟩ := h
  rcases Go.Deep.open_slice Try.underlying31 hf with ⟨hcs, hx⟩ | ⟨a, len', cap', m, n, D, Pl, hcs, _, hl, hm, hmm, hx, hel⟩
  · change [Value.slice a0 len cap] = _ at hcs
    simp at hcs
    obtain ⟨rfl, rfl, rfl⟩ := hcs
    exact ⟨none, [], 0, rfl, fun j hj => by simp at hj, by simp⟩
  · change [Value.slice a0 len cap] = _ at hcs
    simp at hcs
    obtain ⟨rfl, rfl, rfl⟩ := hcs
    rw [Try.cellsAt] at hel
    simp only [if_true] at hmm
    have each : ∀ i, i < len → ∃ f : Nat → Int, (∀ k v, (atv f)[k]? = some v → W.cell? ((a.add (i * 6)).add k) = some v) := fun i hi => by
      obtain ⟨cs', h1, h2⟩ := hel i (by omega)
      obtain ⟨hl6, f, hp⟩ := attr_of_trod h2
      refine ⟨f, fun k v hv => ?_⟩
      obtain ⟨hk, rfl⟩ := atv_get hv
      have h3 := hp k hk
      unfold World.cells? at h1
      split at h1
      · obtain ⟨j, h4, h5⟩ := mapM_get _ _ h1 k _ h3
        have hjk : j = k := by
          rw [List.getElem?_range hk] at h4
          exact (Option.some.inj h4).symm
        subst hjk
        exact h5
      · cases h1
    obtain ⟨pf, hpf⟩ := Go.Deep.choose_lt each
    have hd0 : d = .slice ((List.range len).map D) ((List.range (m - len)).map fun j => D (len + j)) := congrArg Prod.fst hx
    subst hd0
    have hb : Try.prog.bytesOf 23 = 48 := by kernel_rfl
    have hlen : len ≤ 140737488355328 := by
      simp only [DataW.weights, Try.underlying31, List.all_cons, Bool.and_eq_true, decide_eq_true_eq, List.length_map, List.length_range, hb] at hsz
      obtain ⟨h1, -⟩ := hsz
      unfold reachBytes at h1
      omega
    refine ⟨some a, (List.range len).map pf, cap, by simp, fun j hj => ⟨a, rfl, ?_⟩, by simpa using hlen⟩
    simp at hj
    simpa using hpf j hj
end
end Go.Proofs.Ytioknjdbijogpaa
