/- Chapter 17: maps.Make, walked. -/
import Derived.Test.YteohokidlopbnaaMkG
namespace Go.Proofs.Yteohokidlopbnaa
open Go.RowKit
set_option linter.unusedSimpArgs false
set_option linter.unusedVariables false

theorem newOk_true {K R : Int} (h : newOk K R = true) : (K = 1 ∨ K = 2) ∧ 1 ≤ R ∧ R ≤ 8 := by
  unfold newOk at h
  simp only [Bool.and_eq_true, Bool.or_eq_true, beq_iff_eq, Bool.not_eq_true', decide_eq_false_iff_not] at h
  omega
def allOk (ss : List (Int × Int)) : Bool := ss.all fun s => newOk s.1 s.2
theorem allOk_get {ss : List (Int × Int)} (h : allOk ss = true) (j : Nat) (hj : j < ss.length) : newOk ss[j].1 ss[j].2 = true := List.all_eq_true.1 h _ (List.getElem_mem hj)
theorem allOk_of {ss : List (Int × Int)} (h : ∀ (j : Nat) (hj : j < ss.length), newOk ss[j].1 ss[j].2 = true) : allOk ss = true := List.all_eq_true.2 fun s hs => by
  obtain ⟨j, hj, rfl⟩ := List.mem_iff_getElem.1 hs
  exact h j hj

set_option maxHeartbeats 1000000 in
set_option maxRecDepth 100000 in
theorem make_big (a : Option Addr) (n cap : Nat) (w : World) (hn : 4 < n) (hn2 : n ≤ 1000) :
    Calls Try.prog 11 #[.slice a n cap] w fun e w' => e = .returned (.tuple #[.slice none 0 0, .int .i64 22]) ∧ w' = w := by
  have e1 : decide ((n : Int) > 4) = true := decide_eq_true (by omega)
  have e2 : decide (4 < (n : Int)) = true := decide_eq_true (by omega)
  go_enter Try.func11, Try.ntmps11
  go_wp2
  (try simp only [Exit.inBlock, Exit.then])
  refine bodyPost_ret (res_tmp2 rfl _ _) rfl ?_
  exact ⟨rfl, rfl⟩

set_option maxHeartbeats 2000000 in
set_option maxRecDepth 100000 in
theorem make_is (a : Option Addr) (ss : List (Int × Int)) (cap : Nat) (w : World) (hl : SpSl w a ss) (hn : ss.length ≤ 4) :
    Calls Try.prog 11 #[.slice a ss.length cap] w fun e w' => Below w.heap.size w w' ∧ ((allOk ss = true ∧ ∃ v gs, e = .returned (.tuple #[v, .int .i64 0]) ∧ MkS MpN w.heap.size w' gs ss ∧ PApart w' w.heap.size 24 v gs) ∨ (allOk ss = false ∧ e = .returned (.tuple #[.slice none 0 0, .int .i64 22]))) := by
  have e1 : decide ((ss.length : Int) > 4) = false := decide_eq_false (by omega)
  have e2 : decide (4 < (ss.length : Int)) = false := decide_eq_false (by omega)
  go_enter Try.func11, Try.ntmps11
  go_wp2
  go_loopw [4, 14] (fun o i wr => ∃ (k : Nat) (gs : List Nat), k ≤ ss.length ∧ i = .int .i64 k ∧ MkS MpN w.heap.size wr gs (ss.take k) ∧ PApart wr w.heap.size 24 o gs ∧ Below w.heap.size w wr ∧ ∀ (j : Nat) (hj : j < ss.length), j < k → newOk ss[j].1 ss[j].2 = true) (fun _ i _ => ss.length - (intOf i).toNat)
  case atStart => exact ⟨0, [], by omega, rfl, MkS.nil _ _ _, PApart.nil _ _ _, Below.refl _ _, fun j _ h => absurd h (by omega)⟩
  case round =>
    obtain ⟨k, gs, hk0, rfl, hMk, hPA, hbw, hall⟩ := hrel
    have HA := Lib.hid hall
    clear hall
    by_cases h : k = ss.length
    · subst h
      go_wp2
      (try simp only [Exit.inBlock, Exit.then])
      refine bodyPost_ret (res_tmp2 rfl _ _) rfl ?_
      rw [List.take_length] at hMk
      exact ⟨hbw, .inl ⟨allOk_of fun j hj => HA.out j hj hj, _, gs, rfl, hMk, hPA⟩⟩
    · have hlt : k < ss.length := by omega
      have hlt' : (k : Int) < ss.length := by omega
      obtain ⟨x, rfl, hat⟩ := hl.ext hbw k hlt
      have htk : ss.take (k + 1) = ss.take k ++ [ss[k]] := by rw [List.take_add_one, List.getElem?_eq_getElem hlt, Option.toList_some]
      cases hok : newOk ss[k].1 ss[k].2 with
      | true =>
        have hall2 : ∀ (j : Nat) (hj : j < ss.length), j < k + 1 → newOk ss[j].1 ss[j].2 = true := fun j hj hjk => by
          rcases (by omega : j < k ∨ j = k) with h' | rfl
          · exact HA.out j hj h'
          · exact hok
        have hs := newOk_true hok
        generalize ss[k] = s at hat htk hs
        have HT := Lib.hid (And.intro htk hall2)
        clear htk hall2 hok HA
        have hSt := St.start wr
        have hNew := fun w => new_ok s.1 s.2 w hs.1 hs.2.1 hs.2.2
        clear hs
        go_wp2_with (first
          | ((with_reducible refine sp_load_at ?_); refine ⟨rfl, _, _, rfl, hat, ?_⟩; (simp only [Act.put, List.setIfInBounds_toArray, List.set_cons_succ, List.set_cons_zero])) | ((with_reducible refine ev_alloc hSt zSp ?_); refine ⟨rfl, ?_⟩; intro gE wN hSt; (simp only [Act.put, List.setIfInBounds_toArray, List.set_cons_succ, List.set_cons_zero])) | ((with_reducible refine ev_store hSt aSp ?_); refine ⟨rfl, _, [], _, _, spv _, rfl, rfl, rfl, rfl, rfl, spv_one _, ?_⟩; intro wN hSt; simp only [List.nil_append] at hSt; simp only [Act.put]) | ((with_reducible refine ev_load1 hSt oInt ?_); refine ⟨rfl, _, _, _, _, _, rfl, (by repeat (first | exact List.mem_cons_self .. | refine List.mem_cons_of_mem _ ?_)), (by first | exact spv0 _ | exact spv1 _), ?_⟩; (simp only [Act.put, List.setIfInBounds_toArray, List.set_cons_succ, List.set_cons_zero]))
          | (go_at_call 7; refine (hNew _).mono ?_; rintro e w2 ⟨g, rfl, hb2, hM2⟩
             have hMB : MkS MpN w.heap.size wN gs (ss.take k) := hMk.ext goes_mp hSt.base
             have hPB := hPA.ext hSt.base
             have hBB : w.heap.size ≤ wN.heap.size := Nat.le_trans hbw.size hSt.base.size
             have hbN := hbw.trans (hSt.base.mono hbw.size))
          | ((with_reducible refine ev_slicePS ?_); refine ⟨rfl, _, rfl, ?_⟩; (simp only [Act.put, List.setIfInBounds_toArray, List.set_cons_succ, List.set_cons_zero])
             have hbb : Below w2.heap.size w2 (w2.alloc (.cells #[ptrv g] 24)) := (Below.refl _ _).alloc (Nat.le_refl _) _
             obtain ⟨vA, wA, hrun, hrowA, hgrA, hlocA⟩ := run_appPS (g := g) ((hPB.ext hb2).ext hbb).row (heap_alloc_last _ _) (Nat.le_trans hBB (Nat.le_trans hb2.size hbb.size)) (by have := hMB.len; rw [List.length_take] at this; omega)
             have hfin := PApart.snoc goes_mp hPB hMB hBB hb2 hM2 hbb hrowA hgrA hlocA keep_mp
             have hbA : Below w.heap.size w wA := ((hbN.trans (hb2.mono hBB)).trans (hbb.mono (Nat.le_trans hBB hb2.size))).grown hgrA (Nat.le_trans hBB (Nat.le_trans hb2.size hbb.size)) (fun k e => (hPB.row.own.lt k e).1)
             have HF := Lib.hid (And.intro hfin hbA)
             clear hfin hbA hrowA hgrA hlocA)
          | ((with_reducible refine ev_append ?_); refine ⟨rfl, _, _, _, _, rfl, rfl, hrun, ?_⟩; (simp only [Act.put, List.setIfInBounds_toArray, List.set_cons_succ, List.set_cons_zero])))
        refine ⟨⟨k + 1, gs ++ [g], by omega, by simp, by rw [HT.out.1]; exact HF.out.1.2, HF.out.1.1, HF.out.2, HT.out.2⟩, by simp only [intOf]; omega⟩
      | false =>
        have hno : allOk ss = false := by
          cases hA : allOk ss with
          | false => rfl
          | true => exact absurd (allOk_get hA k hlt) (by rw [hok]; decide)
        have hNew := fun w => new_no ss[k].1 ss[k].2 w hok
        generalize ss[k] = s at hat hNew
        have HT := Lib.hid hno
        clear hok hno htk
        have hSt := St.start wr
        go_wp2_with (first
          | ((with_reducible refine sp_load_at ?_); refine ⟨rfl, _, _, rfl, hat, ?_⟩; (simp only [Act.put, List.setIfInBounds_toArray, List.set_cons_succ, List.set_cons_zero])) | ((with_reducible refine ev_alloc hSt zSp ?_); refine ⟨rfl, ?_⟩; intro gE wN hSt; (simp only [Act.put, List.setIfInBounds_toArray, List.set_cons_succ, List.set_cons_zero])) | ((with_reducible refine ev_store hSt aSp ?_); refine ⟨rfl, _, [], _, _, spv _, rfl, rfl, rfl, rfl, rfl, spv_one _, ?_⟩; intro wN hSt; simp only [List.nil_append] at hSt; simp only [Act.put]) | ((with_reducible refine ev_load1 hSt oInt ?_); refine ⟨rfl, _, _, _, _, _, rfl, (by repeat (first | exact List.mem_cons_self .. | refine List.mem_cons_of_mem _ ?_)), (by first | exact spv0 _ | exact spv1 _), ?_⟩; (simp only [Act.put, List.setIfInBounds_toArray, List.set_cons_succ, List.set_cons_zero]))
          | (go_at_call 7; refine (hNew _).mono ?_; rintro e w2 ⟨rfl, hw2⟩; subst w2))
        (try simp only [Exit.inBlock, Exit.then])
        refine bodyPost_ret (res_tmp2 rfl _ _) rfl ?_
        exact ⟨hbw.trans (hSt.base.mono hbw.size), .inr ⟨HT.out, rfl⟩⟩
end Go.Proofs.Yteohokidlopbnaa
