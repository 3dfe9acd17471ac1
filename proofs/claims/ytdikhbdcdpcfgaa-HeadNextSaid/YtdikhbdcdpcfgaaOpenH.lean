/- Arguments, opened: a slice of heads. -/
import Derived.Test.YtdikhbdcdpcfgaaOpenP
import Derived.Test.YtdikhbdcdpcfgaaHdSl
namespace Go.Proofs.Ytdikhbdcdpcfgaa
open Go.ChangeShapes Go.WideShapes Go.ChangeAt Go.RowKit

theorem take1 {cs : List Value} {o : Nat} {v : Value} (h : (cs.drop o).take 1 = [v]) : cs[o]? = some v := by
  have : ((cs.drop o).take 1)[0]? = some v := by rw [h]; rfl
  rw [List.getElem?_take_of_lt (by decide), List.getElem?_drop] at this
  simpa using this
theorem Try.cellsI : Try.prog.cellsOf 3 = 1 := by kernel_rfl
theorem Try.cellsB : Try.prog.cellsOf 4 = 1 := by kernel_rfl
theorem Try.cellsU : Try.prog.cellsOf 46 = 1 := by kernel_rfl
theorem Try.cellsHd : Try.prog.cellsOf 48 = 4 := by kernel_rfl

/-- One argument's sizes among all. -/
theorem weights_atH {H : Type} {P : Program} {p : Nat → Bool} : ∀ (ts : List TypeId) (ds : List (DataW H)) (j : Nat) {t : TypeId} {d : DataW H}, ts[j]? = some t → ds[j]? = some d →
    (DataW.weightsEach P ts ds).all p = true → (d.weights P t).all p = true
  | [], _, j, _, _, h, _, _ => by simp at h
  | _ :: _, [], j, _, _, _, h, _ => by simp at h
  | t0 :: ts, d0 :: ds, 0, t, d, h1, h2, h => by
    simp at h1 h2
    subst h1 h2
    simp only [DataW.weightsEach, List.all_append, Bool.and_eq_true] at h
    exact h.1
  | t0 :: ts, d0 :: ds, j + 1, t, d, h1, h2, h => by
    simp only [DataW.weightsEach, List.all_append, Bool.and_eq_true] at h
    exact weights_atH ts ds j (by simpa using h1) (by simpa using h2) h.2

section
variable {H : Type} {enc : TypeId × Value → H} {W : World} {base : Nat} {spare : Nat → Bool} {held : Bool}
set_option maxRecDepth 100000 in
theorem head_of_trod {m : Nat} {cs : List Value} {x : DataW H × List MemPlace} (h : DataW.trod enc Try.prog W base spare held m 48 cs = some x) : ∃ hd : HdT, (∀ (i : Nat) (v : Value), (hdv hd)[i]? = some v → cs[i]? = some v) ∧ 0 ≤ hd.2.2.2 ∧ hd.2.2.2 < 4294967296 := by
  obtain ⟨xs, n, rfl, rfl, hlen, hxl, hi⟩ := DataW.trod_struct Try.underlying48 h
  have hxl' : xs.length = 4 := hxl
  have some_of : ∀ i, i < 4 → ∃ y, xs[i]? = some y := fun i hi => ⟨_, List.getElem?_eq_getElem (by omega)⟩
  have g0 : DataW.trod enc Try.prog W base spare held n 3 ((cs.drop 0).take (Try.prog.cellsOf 3)) = xs[0]? := hi 0 _ rfl
  have g1 : DataW.trod enc Try.prog W base spare held n 4 ((cs.drop 1).take (Try.prog.cellsOf 4)) = xs[1]? := hi 1 _ rfl
  have g2 : DataW.trod enc Try.prog W base spare held n 3 ((cs.drop 2).take (Try.prog.cellsOf 3)) = xs[2]? := hi 2 _ rfl
  have g3 : DataW.trod enc Try.prog W base spare held n 46 ((cs.drop 3).take (Try.prog.cellsOf 46)) = xs[3]? := hi 3 _ rfl
  rw [Try.cellsI] at g0 g2
  rw [Try.cellsB] at g1
  rw [Try.cellsU] at g3
  obtain ⟨y0, e0⟩ := some_of 0 (by decide)
  obtain ⟨y1, e1⟩ := some_of 1 (by decide)
  obtain ⟨y2, e2⟩ := some_of 2 (by decide)
  obtain ⟨y3, e3⟩ := some_of 3 (by decide)
  obtain ⟨q, k0, -, -⟩ := DataW.trod_int Try.underlying3 (g0.trans e0)
  obtain ⟨l, k1, -⟩ := DataW.trod_bool Try.underlying4 (g1.trans e1)
  obtain ⟨c, k2, -, -⟩ := DataW.trod_int Try.underlying3 (g2.trans e2)
  obtain ⟨s, k3, -, w3⟩ := DataW.trod_int Try.underlying46 (g3.trans e3)
  have b3 := bounds_u32 w3
  refine ⟨(q, l, c, s), fun i v hv => ?_, b3.1, by show s < 4294967296; omega⟩
  match i, hv with
  | 0, hv => simp [hdv] at hv; subst hv; exact take1 k0
  | 1, hv => simp [hdv] at hv; subst hv; exact take1 k1
  | 2, hv => simp [hdv] at hv; subst hv; exact take1 k2
  | 3, hv => simp [hdv] at hv; subst hv; exact take1 k3
  | i + 4, hv => simp [hdv] at hv

set_option maxRecDepth 100000 in
theorem open_hdSl {v : Value} {d : DataW H} {ps : List MemPlace} {b0 : Nat} (hval : Value.okWide Try.prog W .any b0 65 v)
    (h : DataW.Trod enc Try.prog W 0 (fun _ => true) held 65 v d ps) (hsz : (d.weights Try.prog 65).all (· ≤ reachBytes) = true) :
    ∃ a hs cap, v = .slice a (List.length hs) cap ∧ HdSl W a hs ∧ hs.length ≤ 140737488355328 ∧ (∀ h ∈ hs, 0 ≤ h.2.2.2 ∧ h.2.2.2 < 4294967296) := by
  obtain ⟨a0, len, cap, rfl⟩ := okWide_slice Try.underlying65 hval
  obtain ⟨fuel, hf⟩ := h
  rcases Go.Deep.open_slice Try.underlying65 hf with ⟨hcs, hx⟩ | ⟨a, len', cap', m, n, D, Pl, hcs, _, hl, hm, hmm, hx, hel⟩
  · change [Value.slice a0 len cap] = _ at hcs
    simp at hcs
    obtain ⟨rfl, rfl, rfl⟩ := hcs
    exact ⟨none, [], 0, rfl, fun j hj => by simp at hj, by simp, by simp⟩
  · change [Value.slice a0 len cap] = _ at hcs
    simp at hcs
    obtain ⟨rfl, rfl, rfl⟩ := hcs
    rw [Try.cellsHd] at hel
    simp only [if_true] at hmm
    have each : ∀ i, i < len → ∃ hd : HdT, (∀ k v, (hdv hd)[k]? = some v → W.cell? ((a.add (i * 4)).add k) = some v) ∧ 0 ≤ hd.2.2.2 ∧ hd.2.2.2 < 4294967296 := fun i hi => by
      obtain ⟨cs', h1, h2⟩ := hel i (by omega)
      obtain ⟨hd, hp, hb⟩ := head_of_trod h2
      refine ⟨hd, fun k v hv => ?_, hb⟩
      have h3 := hp k v hv
      have hk : k < 4 := (Array.getElem?_eq_some_iff.1 hv).1
      unfold World.cells? at h1
      split at h1
      · obtain ⟨j, h4, h5⟩ := mapM_get _ _ h1 k _ h3
        have hjk : j = k := by
          rw [List.getElem?_range hk] at h4
          exact (Option.some.inj h4).symm
        subst hjk
        exact h5
      · cases h1
    obtain ⟨pf, hpf⟩ := Go.Deep.choose_lt each
    have hd0 : d = .slice ((List.range len).map D) ((List.range (m - len)).map fun j => D (len + j)) := congrArg Prod.fst hx
    subst hd0
    have hb : Try.prog.bytesOf 48 = 32 := by kernel_rfl
    have hlen : len ≤ 140737488355328 := by
      simp only [DataW.weights, Try.underlying65, List.all_cons, Bool.and_eq_true, decide_eq_true_eq, List.length_map, List.length_range, hb] at hsz
      obtain ⟨h1, -⟩ := hsz
      unfold reachBytes at h1
      omega
    refine ⟨some a, (List.range len).map pf, cap, by simp, fun j hj => ⟨a, rfl, ?_⟩, by simpa using hlen, fun h hh => ?_⟩
    · simp at hj
      simpa using (hpf j hj).1
    · obtain ⟨i, hi, rfl⟩ := List.mem_map.1 hh
      exact (hpf i (List.mem_range.1 hi)).2
end
end Go.Proofs.Ytdikhbdcdpcfgaa
