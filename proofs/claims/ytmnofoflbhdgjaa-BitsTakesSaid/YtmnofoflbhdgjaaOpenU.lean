/- Arguments, opened: a slice of bytes. -/
import Derived.Test.YtmnofoflbhdgjaaOpenB
import Derived.Test.YtmnofoflbhdgjaaU8Sl
import Derived.ChangeSlices
namespace Go.Proofs.Ytmnofoflbhdgjaa
open Go.ChangeShapes Go.WideShapes Go.ChangeAt Go.RowKit

/-- One argument's sizes among all. -/
theorem weights_atU {H : Type} {P : Program} {p : Nat → Bool} : ∀ (ts : List TypeId) (ds : List (DataW H)) (j : Nat) {t : TypeId} {d : DataW H}, ts[j]? = some t → ds[j]? = some d →
    (DataW.weightsEach P ts ds).all p = true → (d.weights P t).all p = true
  | [], _, j, _, _, h, _, _ => by simp at h
  | _ :: _, [], j, _, _, _, h, _ => by simp at h
  | t0 :: ts, d0 :: ds, 0, t, d, h1, h2, h => by
    simp at h1 h2
    subst h1 h2
    simp only [DataW.weightsEach, List.all_append, Bool.and_eq_true] at h
    exact h.1
  | t0 :: ts, d0 :: ds, j + 1, t, d, h1, h2, h => by
    simp only [DataW.weightsEach, List.all_append, Bool.and_eq_true] at h
    exact weights_atU ts ds j (by simpa using h1) (by simpa using h2) h.2

set_option maxRecDepth 100000 in
theorem open_u8Sl {H : Type} {enc : TypeId × Value → H} {W : World} {v : Value} {d : DataW H} {ps : List MemPlace} {held : Bool} {base : Nat} (hval : Value.okWide Try.prog W .any base 56 v)
    (h : DataW.Trod enc Try.prog W 0 (fun _ => true) held 56 v d ps) (hsz : (d.weights Try.prog 56).all (· ≤ reachBytes) = true) :
    ∃ a zs cap, v = .slice a (List.length zs) cap ∧ U8Sl W a zs ∧ zs.length ≤ 140737488355328 ∧ zs.length ≤ cap ∧ (∀ z ∈ zs, (Lit.int .u8 z).wf = true) := by
  obtain ⟨a0, len, cap, rfl⟩ := okWide_slice Try.underlying56 hval
  obtain ⟨fuel, hf⟩ := h
  rcases open_ints Try.underlying56 Try.underlying5 (by kernel_rfl) hf with ⟨hcs, hx⟩ | ⟨a, len', cap', zs, hcs, _, hl, hm, hz, hx, hcell, hwf⟩
  · change [Value.slice a0 len cap] = _ at hcs
    simp at hcs
    obtain ⟨rfl, rfl, rfl⟩ := hcs
    exact ⟨none, [], 0, rfl, fun j hj => by simp at hj, by simp, by simp, by simp⟩
  · change [Value.slice a0 len cap] = _ at hcs
    simp at hcs
    obtain ⟨rfl, rfl, rfl⟩ := hcs
    simp only [if_true] at hz
    have hd : d = .slice (lits .u8 (zs.take len)) (lits .u8 (zs.drop len)) := congrArg Prod.fst hx
    subst hd
    have hw : (DataW.weights Try.prog 56 (.slice (lits .u8 (zs.take len)) (lits .u8 (zs.drop len)) : DataW H)) = ((lits (H := H) .u8 (zs.take len)).length + (lits (H := H) .u8 (zs.drop len)).length) * Try.prog.bytesOf 5 :: (DataW.weightsAll (H := H) Try.prog 5 (lits .u8 (zs.take len)) ++ DataW.weightsAll (H := H) Try.prog 5 (lits .u8 (zs.drop len))) := by
      simp only [DataW.weights, Try.underlying56]
    rw [hw] at hsz
    have hb : Try.prog.bytesOf 5 = 1 := by kernel_rfl
    simp only [List.all_cons, Bool.and_eq_true, hb, decide_eq_true_eq] at hsz
    obtain ⟨h1, -⟩ := hsz
    have hlen : (zs.take len).length = len := by rw [List.length_take]; omega
    refine ⟨some a, zs.take len, cap, by rw [hlen], fun j hj => ⟨a, rfl, ?_, ?_⟩, ?_, by rw [hlen]; exact hl, fun z hz' => hwf z (List.mem_of_mem_take hz')⟩
    · rw [hlen] at hj
      rw [hcell j (by omega)]
      simp [List.getD, List.getElem?_eq_getElem (by omega : j < zs.length)]
    · rw [hlen] at hj
      have := World.block_lt_of_cell? W _ (hcell j (by omega))
      unfold Addr.add at this
      split at this <;> exact this
    · simp only [lits, List.length_map] at h1
      rw [hlen] at h1 ⊢
      unfold reachBytes at h1
      omega
end Go.Proofs.Ytmnofoflbhdgjaa
