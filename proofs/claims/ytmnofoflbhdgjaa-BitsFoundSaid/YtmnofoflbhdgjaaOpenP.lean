/- Arguments, opened: a slice of pages. -/
import Derived.Test.YtmnofoflbhdgjaaOpen
import Derived.Test.YtmnofoflbhdgjaaPgAt
import Derived.Deep.Slices
namespace Go.Proofs.Ytmnofoflbhdgjaa
open Go.ChangeShapes Go.WideShapes Go.ChangeAt Go.RowKit

theorem mapM_get {α β : Type} {f : α → Option β} : ∀ (ks : List α) (l : List β), ks.mapM f = some l → ∀ (k : Nat) (v : β), l[k]? = some v → ∃ j, ks[k]? = some j ∧ f j = some v
  | [], l, h, k, v, hv => by
    simp at h
    subst h
    simp at hv
  | a :: ks, l, h, k, v, hv => by
    rw [List.mapM_cons] at h
    cases hfa : f a with
    | none => simp [hfa] at h
    | some b =>
      cases hm : ks.mapM f with
      | none => simp [hfa, hm] at h
      | some m =>
        simp [hfa, hm] at h
        subst h
        cases k with
        | zero =>
          simp at hv
          subst hv
          exact ⟨a, rfl, hfa⟩
        | succ k =>
          simp at hv
          obtain ⟨j, h1, h2⟩ := mapM_get ks m hm k v hv
          exact ⟨j, by simpa using h1, h2⟩

set_option maxRecDepth 100000 in
theorem open_pgSl {H : Type} {enc : TypeId × Value → H} {W : World} {v : Value} {d : DataW H} {ps : List MemPlace} {held : Bool} {base : Nat} (hval : Value.okWide Try.prog W .any base 49 v)
    (h : DataW.Trod enc Try.prog W 0 (fun _ => true) held 49 v d ps) :
    ∃ a qs cap, v = .slice a (List.length qs) cap ∧ PgSl W a qs ∧ qs.length ≤ 9223372036854775807 ∧ (a = none → cap = 0) := by
  obtain ⟨a0, len, cap, rfl⟩ := okWide_slice Try.underlying49 hval
  obtain ⟨fuel, hf⟩ := h
  rcases Go.Deep.open_slice Try.underlying49 hf with ⟨hcs, hx⟩ | ⟨a, len', cap', m, n, D, Pl, hcs, _, hl, hm, hmm, hx, hel⟩
  · change [Value.slice a0 len cap] = _ at hcs
    simp at hcs
    obtain ⟨rfl, rfl, rfl⟩ := hcs
    exact ⟨none, [], 0, rfl, fun j hj => by simp at hj, by simp, fun _ => rfl⟩
  · change [Value.slice a0 len cap] = _ at hcs
    simp at hcs
    obtain ⟨rfl, rfl, rfl⟩ := hcs
    rw [Try.cellsPg] at hel
    have each : ∀ i, i < len → ∃ p, PgAt W (a.add (i * 64)) p := fun i hi => by
      obtain ⟨cs', h1, h2⟩ := hel i (by simp at hmm; omega)
      obtain ⟨p, hp⟩ := pg_of_trod h2
      refine ⟨p, fun k hk => ?_⟩
      have h3 : cs'[k]? = some (.int .u8 ((p k).toNat : Int)) := by
        have := pgc_get p k hk
        rw [← hp] at this
        simpa using this
      unfold World.cells? at h1
      split at h1
      · obtain ⟨j, h4, h5⟩ := mapM_get _ _ h1 k _ h3
        have hjk : j = k := by
          rw [List.getElem?_range hk] at h4
          exact (Option.some.inj h4).symm
        subst hjk
        exact h5
      · cases h1
    obtain ⟨pf, hpf⟩ := Go.Deep.choose_lt each
    refine ⟨some a, (List.range len).map pf, cap, by simp, fun j hj => ⟨a, rfl, ?_⟩, ?_, fun h => by cases h⟩
    · simp at hj
      simpa using hpf j hj
    · simp
      have : maxLen = 9223372036854775807 := by decide
      omega
end Go.Proofs.Ytmnofoflbhdgjaa
