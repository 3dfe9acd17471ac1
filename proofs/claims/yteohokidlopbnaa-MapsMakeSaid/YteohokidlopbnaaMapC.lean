/- Chapter 17: a map in memory; find, walked. -/
import Derived.Test.YteohokidlopbnaaMapB
import Derived.Deep.RegionHeld3
import Derived.Deep.AppendLies
namespace Go.Proofs.Yteohokidlopbnaa
open Go.RowKit
set_option linter.unusedSimpArgs false
set_option linter.unusedVariables false

theorem oSl : OneT Try.prog 54 := by unfold OneT; kernel_rfl
theorem aMp : AggT Try.prog 61 3 := ⟨by kernel_rfl, by kernel_rfl⟩
/-- A map's cells. -/
def mpc (K R : Int) (v : Value) : Array Value := #[.int .i64 K, .int .i64 R, v]
theorem mpc0 (K R : Int) (v : Value) : (mpc K R v)[0]? = some (.int .i64 K) := rfl
theorem mpc1 (K R : Int) (v : Value) : (mpc K R v)[1]? = some (.int .i64 R) := rfl
theorem mpc2 (K R : Int) (v : Value) : (mpc K R v)[2]? = some v := rfl

/-- A map lies in block g, its entries in a row of its own. -/
structure Mp (w : World) (B g : Nat) (v : Value) (K R : Int) (es : List EntT) : Prop where
  low : B ≤ g
  blk : w.heap[g]? = some (.cells (mpc K R v) 61 (0, 0))
  row : w.ownsRow B 64 5 v es.length (rowe es)
  apart : v.ownBlock ≠ some g
theorem row_below {T : Nat} {w w' : World} {B n k : Nat} {v : Value} {xs : List Value} (h : w.ownsRow B T k v n xs) (hb : Below w.heap.size w w') : w'.ownsRow B T k v n xs := by
  refine ⟨h.1, ?_⟩
  rcases h.2 with hn | ⟨g, cap, cur, rfl, h1, h2, rest⟩
  · exact .inl hn
  · exact .inr ⟨g, cap, cur, rfl, h1, blk_of hb h2, rest⟩
theorem Mp.ext {w w' : World} {B g : Nat} {v : Value} {K R : Int} {es : List EntT} (h : Mp w B g v K R es) (hb : Below w.heap.size w w') : Mp w' B g v K R es :=
  ⟨h.low, blk_of hb h.blk, row_below h.row hb, h.apart⟩
/-- Its row as a slice. -/
theorem Mp.slice {w : World} {B g : Nat} {v : Value} {K R : Int} {es : List EntT} (h : Mp w B g v K R es) : ∃ a cap, v = .slice a es.length cap ∧ es.length ≤ cap ∧ EnSl w a es := by
  rcases h.row.2 with ⟨rfl, h0⟩ | ⟨g, cap, cur, rfl, h1, h2, h3, h4, h5, h6⟩
  · have : es = [] := List.eq_nil_of_length_eq_zero h0
    subst this
    exact ⟨none, 0, rfl, Nat.le_refl _, fun j hj => by simp at hj⟩
  · refine ⟨some ⟨g, 0, none⟩, cap, rfl, h3, fun j hj => ⟨_, rfl, fun i u hi => ?_⟩⟩
    have hi5 : i < 5 := by
      have := (Array.getElem?_eq_some_iff.1 hi).1
      rwa [evs_size] at this
    rw [Addr.add_mid, Addr.add_mid, Nat.zero_add]
    have hr := rowe_get es j hj i hi5
    rw [hi] at hr
    have hc := h.row.cells (g := g) rfl (j * 5 + i) _ hr
    rw [Addr.add_mid, Nat.zero_add] at hc
    exact hc

set_option maxHeartbeats 1000000 in
set_option maxRecDepth 100000 in
theorem find_is (B g : Nat) (v : Value) (K R key : Int) (es : List EntT) (w : World) (hM : Mp w B g v K R es) (hn : es.length ≤ 1000) :
    Calls Try.prog 24 #[.pointer (some ⟨g, 0, none⟩), .int .i64 key] w fun e w' => e = .returned (.int .i64 (idxV (findI es key))) ∧ Below w.heap.size w w' := by
  obtain ⟨a, cap, rfl, hcap, hl⟩ := hM.slice
  have hI := fun gk w hl hk => indexFunc_is a es cap gk key w hl hn hk
  have hSt := St.start w
  go_enter Try.func24, Try.ntmps24
  go_wp2_with (first
    | ((with_reducible refine ev_box1 hSt ?_); refine ⟨rfl, _, _, rfl, rfl, ?_⟩; intro gN wN hSt; (simp only [Act.put, List.setIfInBounds_toArray, List.set_cons_succ, List.set_cons_zero]))
    | ((with_reducible refine ev_load1_blk oSl ?_); refine ⟨rfl, _, _, _, _, _, rfl, blk_of hSt.base hM.blk, mpc2 _ _ _, ?_⟩; (simp only [Act.put, List.setIfInBounds_toArray, List.set_cons_succ, List.set_cons_zero]))
    | (go_at_call 30; refine (hI _ _ (hl.ext hSt.base) (hSt.blk (by repeat (first | exact List.mem_cons_self .. | refine List.mem_cons_of_mem _ ?_)))).mono ?_; rintro e w1 ⟨rfl, hb9⟩; replace hSt := hSt.ext hb9))
  go_ret
  exact ⟨rfl, hSt.base⟩
theorem find_nil (key : Int) (w : World) :
    Calls Try.prog 24 #[.pointer none, .int .i64 key] w fun e w' => e = .returned (.int .i64 (-1)) ∧ Below w.heap.size w w' := by
  go_enter Try.func24, Try.ntmps24
  go_wp2
  go_ret
  exact ⟨rfl, (Below.refl _ _).alloc (Nat.le_refl _) _⟩
end Go.Proofs.Yteohokidlopbnaa
