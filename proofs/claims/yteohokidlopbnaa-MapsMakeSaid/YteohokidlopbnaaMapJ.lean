/- Chapter 17: Put, in one law; awake. -/
import Derived.Test.YteohokidlopbnaaMapI
import Derived.Deep.Cut
namespace Go.Proofs.Yteohokidlopbnaa
open Go.RowKit
set_option linter.unusedSimpArgs false
set_option linter.unusedVariables false

/-- The entries behind a Put. -/
def putL (K R : Int) (es : List EntT) (key : Int) (v : ValT) : List EntT := match findI es key with
  | some i => touched K (es.set i (key, v)) i
  | none => if (es.length : Int) < R then es ++ [(key, v)] else if K == 1 then es else es.eraseIdx 0 ++ [(key, v)]
def putE (K R : Int) (es : List EntT) (key : Int) : Int := match findI es key with
  | some _ => 0
  | none => if (es.length : Int) < R then 0 else if K == 1 then 28 else 0
theorem findI_some {es : List EntT} {key : Int} {i : Nat} (h : findI es key = some i) : ∃ hi : i < es.length, es[i].1 = key := by
  unfold findI at h
  rw [List.findIdx?_eq_some_iff_getElem] at h
  obtain ⟨hi, h1, -⟩ := h
  exact ⟨hi, by simpa using h1⟩
theorem put_is (B g : Nat) (v0 : Value) (K R key : Int) (v : ValT) (es : List EntT) (w : World) (hM : Mp w B g v0 K R es) (hn : es.length ≤ 100) (hK : K = 1 ∨ K = 2) (hR : 1 ≤ R) :
    Calls Try.prog 8 #[.pointer (some ⟨g, 0, none⟩), .int .i64 key, .agg (vvs v)] w fun e w' => e = .returned (.int .i64 (putE K R es key)) ∧ ∃ v', MpT w w' B g v0 v' K R (putL K R es key v) := by
  unfold putE putL
  cases hf : findI es key with
  | some i =>
    obtain ⟨hi, he⟩ := findI_some hf
    have := put_hit B g i v0 K R key v es w hM hn hf hi
    rw [he] at this
    exact this
  | none =>
    by_cases hl : (es.length : Int) < R
    · simp only [if_pos hl]
      refine (put_new B g v0 K R key v es w hM hn hf hl).mono ?_
      rintro e w' ⟨rfl, v', h1, h2, h3⟩
      exact ⟨rfl, v', h1, h2, ⟨h3⟩⟩
    · simp only [if_neg hl]
      rcases hK with rfl | rfl
      · refine (put_hash B g v0 R key v es w hM hn hf (by omega)).mono ?_
        rintro e w' ⟨rfl, h⟩
        exact ⟨rfl, v0, h⟩
      · refine (put_lru B g v0 R key v es w hM hn hf (by omega) (by omega)).mono ?_
        rintro e w' ⟨rfl, v', h1, h2, h3⟩
        exact ⟨rfl, v', h1, h2, ⟨h3⟩⟩

set_option maxHeartbeats 2000000 in
set_option maxRecDepth 100000 in
theorem awake17 (w : World) : Calls Try.prog 6 #[] w fun e w' => e = .returned (.bool true) ∧ Below w.heap.size w w' := by
  go_enter Try.func6, Try.ntmps6
  go_upto_region 4 with (first
    | (go_at_call 7; refine (new_ok 2 2 _ (.inr rfl) (by decide) (by decide)).mono ?_; rintro e w1 ⟨g, rfl, hb, hM⟩))
  have hB := hb
  go_upto_region 8 with (first
    | ((with_reducible refine ev_zval ?_); refine ⟨rfl, ?_⟩; (simp only [Act.put, List.setIfInBounds_toArray, List.set_cons_succ, List.set_cons_zero]))
    | (go_at_call 8; refine (put_is _ _ _ _ _ _ _ _ _ hM (by decide) (.inr rfl) (by decide)).mono ?_; rintro e w8 ⟨rfl, v8, hT8⟩; replace hB := hB.trans hT8.rest.below; replace hM := hT8.mp)
    | (go_at_call 21; refine (use_yes _ _ 0 _ _ _ _ _ _ hM (by decide) rfl (by decide)).mono ?_; rintro e w8 ⟨rfl, v8, hT8⟩; replace hB := hB.trans hT8.rest.below; replace hM := hT8.mp))
  rw [show putL 2 2 (touched 2 (putL 2 2 (putL 2 2 [] 1 zV) 2 zV) 0) 3 zV = [(1, zV), (3, zV)] from rfl] at hM
  have hSt := St.start w8
  go_upto_region 9 with (first
    | ((with_reducible refine ev_alloc hSt zX1 ?_); refine ⟨rfl, ?_⟩; intro gN wN hSt; (simp only [Act.put, List.setIfInBounds_toArray, List.set_cons_succ, List.set_cons_zero])) | ((with_reducible refine ev_store hSt aX1 ?_); (first | refine ⟨rfl, _, [], _, _, _, rfl, rfl, rfl, rfl, rfl, vvs_all _, ?_⟩ | refine ⟨rfl, _, [_], _, _, _, rfl, rfl, rfl, rfl, rfl, vvs_all _, ?_⟩ | refine ⟨rfl, _, [_, _], _, _, _, rfl, rfl, rfl, rfl, rfl, vvs_all _, ?_⟩); intro wN hSt; simp only [List.nil_append, List.cons_append] at hSt; simp only [Act.put])
    | (go_at_call 9; refine (get_yes _ _ 0 _ _ _ 1 [(1, zV), (3, zV)] _ (hM.ext hSt.base) (by decide) rfl (by decide)).mono ?_; rintro e w1 ⟨rfl, hb9⟩; replace hSt := hSt.ext hb9))
  go_wp2_with (first
    | ((with_reducible refine ev_alloc hSt zX1 ?_); refine ⟨rfl, ?_⟩; intro gN wN hSt; (simp only [Act.put, List.setIfInBounds_toArray, List.set_cons_succ, List.set_cons_zero])) | ((with_reducible refine ev_store hSt aX1 ?_); (first | refine ⟨rfl, _, [], _, _, _, rfl, rfl, rfl, rfl, rfl, vvs_all _, ?_⟩ | refine ⟨rfl, _, [_], _, _, _, rfl, rfl, rfl, rfl, rfl, vvs_all _, ?_⟩ | refine ⟨rfl, _, [_, _], _, _, _, rfl, rfl, rfl, rfl, rfl, vvs_all _, ?_⟩); intro wN hSt; simp only [List.nil_append, List.cons_append] at hSt; simp only [Act.put])
    | (go_at_call 9; refine (get_mp _ _ _ _ _ 2 [(1, zV), (3, zV)] _ (hM.ext hSt.base) (by decide) rfl).mono ?_; rintro e w1 ⟨rfl, hb9⟩; replace hSt := hSt.ext hb9)
    | (go_at_call 10; refine (len_is _ _ _ _ _ [(1, zV), (3, zV)] _ (hM.ext hSt.base) (by decide)).mono ?_; rintro e w1 ⟨rfl, hb9⟩; replace hSt := hSt.ext hb9))
  go_ret
  exact ⟨rfl, hB.trans (hSt.base.mono hB.size)⟩
end Go.Proofs.Yteohokidlopbnaa
