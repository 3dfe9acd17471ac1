/- Arguments, opened: a slice of strings. -/
import Derived.Test.YtaajndackdmbeaaRows
import Derived.Test.YtaajndackdmbeaaSumD
import Derived.ProofKit
import Derived.OpenShut
import Derived.SizedLaws
import Derived.SliceStrings
import Derived.Lib.SmallJoins
namespace Go.Proofs.Ytaajndackdmbeaa
open Go.ChangeShapes Go.WideShapes Go.ChangeAt Go.RowKit

theorem own : ownKnob Try.prog.godebug = none := by kernel_rfl
theorem laidOut : laidOutB Try.prog = true := by kernel_rfl

/-- One argument's sizes among all. -/
theorem weights_at {H : Type} {P : Program} {p : Nat → Bool} : ∀ (ts : List TypeId) (ds : List (DataW H)) (j : Nat) {t : TypeId} {d : DataW H}, ts[j]? = some t → ds[j]? = some d →
    (DataW.weightsEach P ts ds).all p = true → (d.weights P t).all p = true
  | [], _, j, _, _, h, _, _ => by simp at h
  | _ :: _, [], j, _, _, _, h, _ => by simp at h
  | t0 :: ts, d0 :: ds, 0, t, d, h1, h2, h => by
    simp at h1 h2
    subst h1 h2
    simp only [DataW.weightsEach, List.all_append, Bool.and_eq_true] at h
    exact h.1
  | t0 :: ts, d0 :: ds, j + 1, t, d, h1, h2, h => by
    simp only [DataW.weightsEach, List.all_append, Bool.and_eq_true] at h
    exact weights_at ts ds j (by simpa using h1) (by simpa using h2) h.2

theorem weights_strs {H : Type} {P : Program} {e : TypeId} {p : Nat → Bool} : ∀ (ss : List ByteArray), (DataW.weightsAll P e (strs ss : List (DataW H))).all p = true → ∀ s ∈ ss, p s.size = true
  | [], _, s, hs => by cases hs
  | a :: ss, h, s, hs => by
    simp only [strs, List.map_cons, DataW.weightsAll, DataW.weights, List.all_append, List.all_cons, List.all_nil, Bool.and_eq_true] at h
    rcases List.mem_cons.1 hs with rfl | hs
    · have := h.1.1
      rwa [Array.length_toList] at this
    · exact weights_strs ss h.2 s hs

theorem open_strSl {H : Type} {enc : TypeId × Value → H} {W : World} {v : Value} {d : DataW H} {ps : List MemPlace} {held : Bool} {base : Nat} (hval : Value.okWide Try.prog W .any base 23 v)
    (h : DataW.Trod enc Try.prog W 0 (fun _ => true) held 23 v d ps) (hsz : (d.weights Try.prog 23).all (· ≤ reachBytes) = true) :
    ∃ a ss cap, v = .slice a (List.length ss) cap ∧ StrSl W a ss ∧ ss.length ≤ 281474976710656 ∧ (∀ s ∈ ss, s.size ≤ 281474976710656) ∧ (a = none → cap = 0) := by
  obtain ⟨a0, len, cap, rfl⟩ := okWide_slice Try.underlying23 hval
  obtain ⟨fuel, hf⟩ := h
  rcases open_strings Try.underlying23 Try.underlying9 (by kernel_rfl) hf with ⟨hcs, hx⟩ | ⟨a, len', cap', ss, hcs, _, hl, hm, hz, hx, hcell, hsz'⟩
  · change [Value.slice a0 len cap] = _ at hcs
    simp at hcs
    obtain ⟨rfl, rfl, rfl⟩ := hcs
    exact ⟨none, [], 0, rfl, strSl_nil _ _, by simp, by simp, fun _ => rfl⟩
  · change [Value.slice a0 len cap] = _ at hcs
    simp at hcs
    obtain ⟨rfl, rfl, rfl⟩ := hcs
    simp only [if_true] at hz
    have hd : d = .slice (strs (ss.take len)) (strs (ss.drop len)) := congrArg Prod.fst hx
    subst hd
    have hw : (DataW.weights Try.prog 23 (.slice (strs (ss.take len)) (strs (ss.drop len)) : DataW H)) = ((strs (H := H) (ss.take len)).length + (strs (H := H) (ss.drop len)).length) * Try.prog.bytesOf 9 :: (DataW.weightsAll (H := H) Try.prog 9 (strs (ss.take len)) ++ DataW.weightsAll (H := H) Try.prog 9 (strs (ss.drop len))) := by
      simp only [DataW.weights, Try.underlying23]
    rw [hw] at hsz
    have hb : Try.prog.bytesOf 9 = 16 := by kernel_rfl
    simp only [List.all_cons, List.all_append, Bool.and_eq_true, hb, decide_eq_true_eq] at hsz
    obtain ⟨h1, h2, -⟩ := hsz
    have hlen : (ss.take len).length = len := by rw [List.length_take]; omega
    refine ⟨some a, ss.take len, cap, by rw [hlen], fun j hj => ⟨a, rfl, ?_⟩, ?_, fun s hs => ?_, fun h => by cases h⟩
    · rw [hlen] at hj
      rw [hcell j (by omega)]
      simp [List.getD, List.getElem?_eq_getElem (by omega : j < ss.length)]
    · simp only [strs, List.length_map] at h1
      rw [hlen] at h1 ⊢
      unfold reachBytes at h1
      omega
    · have := weights_strs _ h2 s hs
      simp only [decide_eq_true_eq] at this
      unfold reachBytes at this
      omega
end Go.Proofs.Ytaajndackdmbeaa
