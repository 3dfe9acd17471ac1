/- Arguments, opened: a script of Ops of chapter 28, its numbers within bounds. -/
import Derived.Test.YtfacegnnmgmjmaaOpenG
namespace Go.Proofs.Ytfacegnnmgmjmaa
open Go.ChangeShapes Go.WideShapes Go.ChangeAt Go.RowKit

section
variable {H : Type} {enc : TypeId × Value → H} {W : World} {base : Nat} {spare : Nat → Bool} {held : Bool}
set_option maxRecDepth 100000 in
theorem file_of_trodW {m : Nat} {cs : List Value} {x : DataW H × List MemPlace} (h : DataW.trod enc Try.prog W base spare held m 27 cs = some x) : ∀ i : Nat, i < 4 → ∃ q : Int, cs[i]? = some (.int .i64 q) ∧ (Lit.int .i64 q).wf = true := by
  obtain ⟨xs, n, rfl, rfl, hlen, hxl, hi⟩ := DataW.trod_struct Try.underlying27 h
  have hxl' : xs.length = 4 := hxl
  intro i hi4
  have g : DataW.trod enc Try.prog W base spare held n 3 ((cs.drop i).take (Try.prog.cellsOf 3)) = xs[i]? := by
    rcases (by omega : i = 0 ∨ i = 1 ∨ i = 2 ∨ i = 3) with rfl | rfl | rfl | rfl
    · exact hi 0 _ rfl
    · exact hi 1 _ rfl
    · exact hi 2 _ rfl
    · exact hi 3 _ rfl
  rw [Try.cellsI, List.getElem?_eq_getElem (by omega)] at g
  obtain ⟨q, k0, -, kw⟩ := DataW.trod_int Try.underlying3 g
  exact ⟨q, by have := takeAt (n := 1) (i := 0) (o := i) (cs := cs) (v := .int .i64 q) (by rw [k0]; rfl); simpa using this, kw⟩

set_option maxRecDepth 100000 in
theorem op_of_trodW {m : Nat} {cs : List Value} {x : DataW H × List MemPlace} (h : DataW.trod enc Try.prog W base spare held m 29 cs = some x) : cs.length = 8 ∧ ∀ i : Nat, i < 8 → ∃ q : Int, cs[i]? = some (.int .i64 q) ∧ (Lit.int .i64 q).wf = true := by
  obtain ⟨xs, n, rfl, rfl, hlen, hxl, hi⟩ := DataW.trod_struct Try.underlying29 h
  rw [Try.cellsOp] at hlen
  have hxl' : xs.length = 5 := hxl
  refine ⟨hlen, fun i hi8 => ?_⟩
  by_cases h4 : i < 4
  · have g : DataW.trod enc Try.prog W base spare held n 3 ((cs.drop i).take (Try.prog.cellsOf 3)) = xs[i]? := by
      rcases (by omega : i = 0 ∨ i = 1 ∨ i = 2 ∨ i = 3) with rfl | rfl | rfl | rfl
      · exact hi 0 _ rfl
      · exact hi 1 _ rfl
      · exact hi 2 _ rfl
      · exact hi 3 _ rfl
    rw [Try.cellsI, List.getElem?_eq_getElem (by omega)] at g
    obtain ⟨q, k0, -, kw⟩ := DataW.trod_int Try.underlying3 g
    exact ⟨q, by have := takeAt (n := 1) (i := 0) (o := i) (cs := cs) (v := .int .i64 q) (by rw [k0]; rfl); simpa using this, kw⟩
  · have g : DataW.trod enc Try.prog W base spare held n 27 ((cs.drop 4).take (Try.prog.cellsOf 27)) = xs[4]? := hi 4 _ rfl
    rw [List.getElem?_eq_getElem (by omega)] at g
    obtain ⟨q, hq, kw⟩ := file_of_trodW g (i - 4) (by omega)
    exact ⟨q, by have := takeAt hq; rwa [show 4 + (i - 4) = i from by omega] at this, kw⟩

set_option maxRecDepth 100000 in
theorem open_opSlW {v : Value} {d : DataW H} {ps : List MemPlace} {b0 : Nat} (hval : Value.okWide Try.prog W .any b0 22 v)
    (h : DataW.Trod enc Try.prog W 0 (fun _ => true) held 22 v d ps) (hsz : (d.weights Try.prog 22).all (· ≤ reachBytes) = true) :
    ∃ a os cap, v = .slice a (List.length os) cap ∧ OpSl W a os ∧ os.length ≤ 140737488355328 ∧ os.length ≤ cap ∧ ∀ o ∈ os, (Lit.int .i64 o.2.2.2.2.2.2.2).wf = true := by
  obtain ⟨a0, len, cap, rfl⟩ := okWide_slice Try.underlying22 hval
  obtain ⟨fuel, hf⟩ := h
  rcases Go.Deep.open_slice Try.underlying22 hf with ⟨hcs, hx⟩ | ⟨a, len', cap', m, n, D, Pl, hcs, _, hl, hm, hmm, hx, hel⟩
  · change [Value.slice a0 len cap] = _ at hcs
    simp at hcs
    obtain ⟨rfl, rfl, rfl⟩ := hcs
    exact ⟨none, [], 0, rfl, fun j hj => by simp at hj, by simp, by simp, by simp⟩
  · change [Value.slice a0 len cap] = _ at hcs
    simp at hcs
    obtain ⟨rfl, rfl, rfl⟩ := hcs
    rw [Try.cellsOp] at hel
    simp only [if_true] at hmm
    have each : ∀ i, i < len → ∃ o : OpT, (∀ k v, (opv o)[k]? = some v → W.cell? ((a.add (i * 8)).add k) = some v) ∧ (Lit.int .i64 o.2.2.2.2.2.2.2).wf = true := fun i hi => by
      obtain ⟨cs', h1, h2⟩ := hel i (by omega)
      obtain ⟨hl8, hp⟩ := op_of_trodW h2
      obtain ⟨q0, c0, kw0⟩ := hp 0 (by decide)
      obtain ⟨q1, c1, kw1⟩ := hp 1 (by decide)
      obtain ⟨q2, c2, kw2⟩ := hp 2 (by decide)
      obtain ⟨q3, c3, kw3⟩ := hp 3 (by decide)
      obtain ⟨q4, c4, kw4⟩ := hp 4 (by decide)
      obtain ⟨q5, c5, kw5⟩ := hp 5 (by decide)
      obtain ⟨q6, c6, kw6⟩ := hp 6 (by decide)
      obtain ⟨q7, c7, kw7⟩ := hp 7 (by decide)
      refine ⟨(q0, q1, q2, q3, (q4, q5, q6, q7)), fun k v hv => ?_, kw7⟩
      have hk := opv_cell hv
      have h3 : cs'[k]? = some v := by
        rcases (by omega : k = 0 ∨ k = 1 ∨ k = 2 ∨ k = 3 ∨ k = 4 ∨ k = 5 ∨ k = 6 ∨ k = 7) with rfl | rfl | rfl | rfl | rfl | rfl | rfl | rfl
        · exact c0.trans hv
        · exact c1.trans hv
        · exact c2.trans hv
        · exact c3.trans hv
        · exact c4.trans hv
        · exact c5.trans hv
        · exact c6.trans hv
        · exact c7.trans hv
      unfold World.cells? at h1
      split at h1
      · obtain ⟨j, h4, h5⟩ := mapM_get _ _ h1 k _ h3
        have hjk : j = k := by
          rw [List.getElem?_range hk] at h4
          exact (Option.some.inj h4).symm
        subst hjk
        exact h5
      · cases h1
    obtain ⟨pf, hpf⟩ := Go.Deep.choose_lt each
    have hd0 : d = .slice ((List.range len).map D) ((List.range (m - len)).map fun j => D (len + j)) := congrArg Prod.fst hx
    subst hd0
    have hb : Try.prog.bytesOf 29 = 64 := by kernel_rfl
    have hlen : len ≤ 140737488355328 := by
      simp only [DataW.weights, Try.underlying22, List.all_cons, Bool.and_eq_true, decide_eq_true_eq, List.length_map, List.length_range, hb] at hsz
      obtain ⟨h1, -⟩ := hsz
      unfold reachBytes at h1
      omega
    refine ⟨some a, (List.range len).map pf, cap, by simp, fun j hj => ⟨a, rfl, ?_⟩, by simpa using hlen, by simp; omega, fun o ho => ?_⟩
    · simp at hj
      simpa using (hpf j hj).1
    · obtain ⟨j, hj, rfl⟩ := List.mem_map.1 ho
      exact (hpf j (List.mem_range.1 hj)).2
end
end Go.Proofs.Ytfacegnnmgmjmaa
