/- Arguments, opened: two ranges in an array, and a slice of ranges. -/
import Derived.Test.YtoogkjkbdicffaaOpenR
import Derived.Deep.Slices
namespace Go.Proofs.Ytoogkjkbdicffaa
open Go.ChangeShapes Go.WideShapes Go.ChangeAt Go.RowKit

theorem Try.cellsTwo : Try.prog.cellsOf 46 = 4 := by kernel_rfl
theorem mapM_getR {α β : Type} {f : α → Option β} : ∀ (ks : List α) (l : List β), ks.mapM f = some l → ∀ (k : Nat) (v : β), l[k]? = some v → ∃ j, ks[k]? = some j ∧ f j = some v
  | [], l, h, k, v, hv => by
    simp at h
    subst h
    simp at hv
  | a :: ks, l, h, k, v, hv => by
    rw [List.mapM_cons] at h
    cases hfa : f a with
    | none => simp [hfa] at h
    | some b =>
      cases hm : ks.mapM f with
      | none => simp [hfa, hm] at h
      | some m =>
        simp [hfa, hm] at h
        subst h
        cases k with
        | zero =>
          simp at hv
          subst hv
          exact ⟨a, rfl, hfa⟩
        | succ k =>
          simp at hv
          obtain ⟨j, h1, h2⟩ := mapM_getR ks m hm k v hv
          exact ⟨j, by simpa using h1, h2⟩
theorem list4 {cs : List Value} {a b c d : Value} (hl : cs.length = 4) (h0 : cs[0]? = some a) (h1 : cs[1]? = some b) (h2 : cs[2]? = some c) (h3 : cs[3]? = some d) : cs = [a, b, c, d] := by
  match cs, hl with
  | [x0, x1, x2, x3], _ => simp at h0 h1 h2 h3; rw [h0, h1, h2, h3]
section
variable {H : Type} {enc : TypeId × Value → H} {W : World} {base : Nat} {spare : Nat → Bool} {held : Bool}
set_option maxRecDepth 100000 in
theorem two_of_trod {m : Nat} {cs : List Value} {x : DataW H × List MemPlace} (h : DataW.trod enc Try.prog W base spare held m 46 cs = some x) : cs.length = 4 ∧ ∀ i : Nat, i < 4 → ∃ q : Int, cs[i]? = some (.int .i64 q) ∧ I64 q := by
  obtain ⟨xs, n, rfl, rfl, hlen, hxl, hi⟩ := DataW.trod_array Try.underlying46 h
  rw [Try.cellsTwo] at hlen
  refine ⟨hlen, fun i hi4 => ?_⟩
  by_cases h2 : i < 2
  · have g : DataW.trod enc Try.prog W base spare held n 23 ((cs.drop (0 * Try.prog.cellsOf 23)).take (Try.prog.cellsOf 23)) = xs[0]? := hi 0 (by decide)
    rw [List.getElem?_eq_getElem (by omega)] at g
    obtain ⟨q, hq, hw⟩ := (rg_of_trod g).2 i h2
    exact ⟨q, by have := takeAt hq; rwa [Try.cellsRg, show 0 * 2 + i = i from by omega] at this, hw⟩
  · have g : DataW.trod enc Try.prog W base spare held n 23 ((cs.drop (1 * Try.prog.cellsOf 23)).take (Try.prog.cellsOf 23)) = xs[1]? := hi 1 (by decide)
    rw [List.getElem?_eq_getElem (by omega)] at g
    obtain ⟨q, hq, hw⟩ := (rg_of_trod g).2 (i - 2) (by omega)
    exact ⟨q, by have := takeAt hq; rwa [Try.cellsRg, show 1 * 2 + (i - 2) = i from by omega] at this, hw⟩
set_option maxRecDepth 100000 in
theorem open_two {b0 : Nat} {r : Reach} {v : Value} {d : DataW H} {ps : List MemPlace}
    (hv : Value.okWide Try.prog W r b0 46 v) (h : DataW.Trod enc Try.prog W base spare held 46 v d ps) : ∃ a b c e, v = .agg #[.int .i64 a, .int .i64 b, .int .i64 c, .int .i64 e] ∧ I64 a ∧ I64 b ∧ I64 c ∧ I64 e := by
  unfold Value.okWide at hv
  rw [Try.underlying46] at hv
  obtain ⟨cs, rfl, -, -⟩ := hv
  obtain ⟨m, h⟩ := h
  obtain ⟨hl, hq⟩ := two_of_trod h
  obtain ⟨a, h0, w0⟩ := hq 0 (by decide)
  obtain ⟨b, h1, w1⟩ := hq 1 (by decide)
  obtain ⟨c, h2, w2⟩ := hq 2 (by decide)
  obtain ⟨e, h3, w3⟩ := hq 3 (by decide)
  have := list4 hl h0 h1 h2 h3
  exact ⟨a, b, c, e, by rw [← Array.toArray_toList (xs := cs)]; exact congrArg (fun l => Value.agg l.toArray) this, w0, w1, w2, w3⟩
end
set_option maxRecDepth 100000 in
theorem open_rgSl {H : Type} {enc : TypeId × Value → H} {W : World} {v : Value} {d : DataW H} {ps : List MemPlace} {held : Bool} {base : Nat} (hval : Value.okWide Try.prog W .any base 32 v)
    (h : DataW.Trod enc Try.prog W 0 (fun _ => true) held 32 v d ps) :
    ∃ a qs cap, v = .slice a (List.length qs) cap ∧ RgSl W a qs ∧ qs.length ≤ 9223372036854775807 := by
  obtain ⟨a0, len, cap, rfl⟩ := okWide_slice Try.underlying32 hval
  obtain ⟨fuel, hf⟩ := h
  rcases Go.Deep.open_slice Try.underlying32 hf with ⟨hcs, hx⟩ | ⟨a, len', cap', m, n, D, Pl, hcs, _, hl, hm, hmm, hx, hel⟩
  · change [Value.slice a0 len cap] = _ at hcs
    simp at hcs
    obtain ⟨rfl, rfl, rfl⟩ := hcs
    exact ⟨none, [], 0, rfl, fun j hj => by simp at hj, by simp⟩
  · change [Value.slice a0 len cap] = _ at hcs
    simp at hcs
    obtain ⟨rfl, rfl, rfl⟩ := hcs
    rw [Try.cellsRg] at hel
    have each : ∀ i, i < len → ∃ p : RT, RgAt W (a.add (i * 2)) p := fun i hi => by
      obtain ⟨cs', h1, h2⟩ := hel i (by simp at hmm; omega)
      obtain ⟨-, hq⟩ := rg_of_trod h2
      obtain ⟨q0, e0, w0⟩ := hq 0 (by decide)
      obtain ⟨q1, e1, w1⟩ := hq 1 (by decide)
      unfold World.cells? at h1
      split at h1
      · obtain ⟨j0, h4, h5⟩ := mapM_getR _ _ h1 0 _ e0
        obtain ⟨j1, h6, h7⟩ := mapM_getR _ _ h1 1 _ e1
        rw [List.getElem?_range (by decide)] at h4 h6
        obtain rfl := Option.some.inj h4
        obtain rfl := Option.some.inj h6
        exact ⟨(q0, q1), by simpa [Addr.add] using h5, by simpa [Addr.add] using h7⟩
      · cases h1
    obtain ⟨pf, hpf⟩ := Go.Deep.choose_lt each
    refine ⟨some a, (List.range len).map pf, cap, by simp, fun j hj => ⟨a, rfl, ?_⟩, ?_⟩
    · simp at hj
      simpa using hpf j hj
    · simp
      have : maxLen = 9223372036854775807 := by decide
      omega
end Go.Proofs.Ytoogkjkbdicffaa
