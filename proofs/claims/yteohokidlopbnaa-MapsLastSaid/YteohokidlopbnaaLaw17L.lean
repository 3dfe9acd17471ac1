/- Chapter 17: the law MapsLast, walked. -/
import Derived.Test.YteohokidlopbnaaMapS
import Derived.Test.YteohokidlopbnaaU8Sl
import Derived.OpenShut
namespace Go.Proofs.Yteohokidlopbnaa
open Go.RowKit Go.Maps
set_option linter.unusedSimpArgs false
set_option linter.unusedVariables false

set_option maxHeartbeats 4000000 in
set_option maxRecDepth 100000 in
theorem walk_MapsLast (room : Int) (a : Option Addr) (ks : List Int) (cap : Nat) (w : World) (hr : 0 ≤ room ∧ room ≤ 255) (hl : U8Sl w a ks) (hs : ks.length ≤ 140737488355328) (hwf : ∀ z ∈ ks, (Lit.int .u8 z).wf = true) :
    Calls Try.prog 3 #[.int .u8 room, .slice a ks.length cap] w fun e w' => e = .returned (.bool true) ∧ Below w.heap.size w w' := by
  go_enter Try.func3, Try.ntmps3
  go_wp2_with (first
    | (go_at_call 6; refine (awake17 _).mono ?_; rintro e w1 ⟨rfl, hb1⟩))
  · go_ret
    exact ⟨rfl, hb1⟩
  rename_i h60
  obtain ⟨n, hn⟩ : ∃ n : Nat, 1 + room % 8 = n := ⟨(1 + room % 8).toNat, by omega⟩
  have hn1 : 1 ≤ n := by omega
  have hn8 : n ≤ 8 := by omega
  rw [hn]
  clear hn hr
  have hlen60 : ks.length ≤ 60 := by omega
  go_wp2_with (first
    | (go_at_call 7; refine (new_ok 2 n _ (.inr rfl) (by omega) (by omega)).mono ?_; rintro e w2 ⟨g, rfl, hb2, hM⟩))
  have hB2 := hb1.trans (hb2.mono hb1.size)
  have hBB := hb1.size
  go_loopw [33] (fun i wr => ∃ k : Nat, k ≤ ks.length ∧ i = .int .i64 k ∧ ∃ v, Mp wr w1.heap.size g v 2 n (esN n ks k) ∧ Below w.heap.size w wr) (fun i _ => ks.length - (intOf i).toNat)
  case atStart => exact ⟨0, Nat.zero_le _, rfl, _, hM, hB2⟩
  case round =>
    obtain ⟨k, hk, rfl, v, hMk, hbk⟩ := hrel
    have hesl : (esN n ks k).length ≤ 100 := by rw [es_len n hn1]; omega
    by_cases hlt : k < ks.length
    · obtain ⟨x, rfl, hc, -⟩ := (hl.ext hbk) k hlt
      have hkw := hwf _ (List.getElem_mem hlt)
      have hkb : 0 ≤ ks[k] ∧ ks[k] ≤ 255 := bounds_u8 hkw
      have hstep : esN n ks (k + 1) = putL 2 n (esN n ks k) ks[k] ((k : Int), 0, 0, 0) := by
        simp only [esN]
        rw [List.getD_eq_getElem?_getD, List.getElem?_eq_getElem hlt, Option.getD_some]
      have hE := putE_lru n (esN n ks k) ks[k]
      have hP := put_is _ _ _ _ _ ks[k] ((k : Int), 0, 0, 0) _ _ hMk hesl (.inr rfl) (by omega)
      rw [hE, ← hstep] at hP
      generalize ks[k] = key at *
      clear hE hstep
      go_wp2_with (first | ((with_reducible refine ev_bval ?_); refine ⟨rfl, _, rfl, ?_⟩; (simp only [Act.put, List.setIfInBounds_toArray, List.set_cons_succ, List.set_cons_zero])) | (go_at_call 8; refine hP.mono ?_; rintro e w4 ⟨rfl, v4, hT4⟩))
      go_roundw
      case rel => exact ⟨k + 1, by omega, by go_num, v4, hT4.mp, hbk.trans (hT4.rest.below.mono hBB)⟩
      case measure => simp [intOf]; omega
    · obtain rfl : k = ks.length := by omega
      have hU := es_use n hn1 ks ks.length
      generalize hes : esN n ks ks.length = es at hMk hesl hU
      have hend := es_len n hn1 ks ks.length
      rw [hes] at hend
      clear hes hM hlt hk
      have hlr := hl.ext hbk
      have hmm := @run_makeMap Try.prog
      go_wp2
      have hSt0 := (St.start wr).alloc (.map #[] 0)
      have hgmb : wr.heap.size ≤ wr.heap.size := Nat.le_refl _
      generalize hgm : wr.heap.size = gm at hSt0 hgmb ⊢
      have hgmw : (wr.alloc (.map #[] 0)).heap.size = gm + 1 := by simp [hgm]
      go_loopw [11] (fun i wq => ∃ c : Nat, c ≤ ks.length ∧ i = .int .i64 ((c : Int) - 1) ∧ ∃ D o, Back ks c D ∧ St wr [(gm, o)] wq ∧ SeenO o (keysN D)) (fun i _ => (intOf i + 1).toNat)
      case atStart => exact ⟨ks.length, Nat.le_refl _, rfl, [], _, back_start ks, hSt0, seen_start⟩
      case round =>
        obtain ⟨c, hc, rfl, D, o, hBk, hSt, hSeen⟩ := hrel
        have hDl : (keysN D).length = D.length := List.length_map ..
        cases c with
        | zero =>
          have hD := hBk.end
          rw [hD] at hend
          go_wp2_with (first
            | (go_at_call 10; refine (len_is _ _ _ _ _ _ _ (hMk.ext hSt.base) (by omega)).mono ?_; rintro e w7 ⟨rfl, hb7⟩; replace hSt := hSt.ext hb7)
            | ((with_reducible refine ev_seenLen hSt ?_); refine ⟨rfl, _, _, _, rfl, (by repeat (first | exact List.mem_cons_self .. | refine List.mem_cons_of_mem _ ?_)), hSeen, ?_⟩; (simp only [Act.put, List.setIfInBounds_toArray, List.set_cons_succ, List.set_cons_zero])))
          all_goals
            rename_i hcase
            go_ret
            refine ⟨congrArg (fun b => Ending.returned (Value.bool b)) ?_, hbk.trans (hSt.base.mono hbk.size)⟩
            exact beq_iff_eq.2 (by omega)
        | succ c =>
          have hlt : c < ks.length := by omega
          have hkw8 := hwf _ (List.getElem_mem hlt)
          have hkb : 0 ≤ ks[c] ∧ ks[c] ≤ 255 := bounds_u8 hkw8
          have hkw : (Lit.int .i64 ks[c]).wf = true := by simp [Lit.wf, IntKind.min, IntKind.max, IntKind.signed, IntKind.bits]; omega
          obtain ⟨x, rfl, hcl, -⟩ := (hlr.ext hSt.base) c hlt
          have hgd : ks.getD c 0 = ks[c] := by rw [List.getD_eq_getElem?_getD, List.getElem?_eq_getElem hlt, Option.getD_some]
          rw [show (((c + 1 : Nat) : Int) - 1) = (c : Int) from by omega]
          have hml : (keysN D).length < maxLen := by have := hBk.len; unfold maxLen; omega
          by_cases hk : ks[c] ∈ keysN D
          · have hcon : (keysN D).contains ks[c] = true := List.contains_iff_mem.2 hk
            have hBk2 := hBk.old (by rw [hgd]; exact hk)
            generalize ks[c] = key at *
            go_wp2_with (first | ((with_reducible refine ev_seenLook hSt ?_); refine ⟨rfl, _, _, _, _, rfl, (by repeat (first | exact List.mem_cons_self .. | refine List.mem_cons_of_mem _ ?_)), hSeen, rfl, hkw, ?_⟩; (simp only [Act.put, List.setIfInBounds_toArray, List.set_cons_succ, List.set_cons_zero]); rw [hcon]))
            go_roundw
            case rel => exact ⟨c, by omega, by go_num, D, o, hBk2, hSt, hSeen⟩
            case measure => (simp [intOf]; try omega)
          · have hcon : (keysN D).contains ks[c] = false := by
              cases h2 : (keysN D).contains ks[c]
              · rfl
              · exact absurd (List.contains_iff_mem.1 h2) hk
            obtain ⟨hBk2, rest, hUD⟩ := hBk.new (by rw [hgd]; exact hk)
            rw [hgd] at hBk2 hUD
            have hKD : keysN (D ++ [(ks[c], ((c : Int), 0, 0, 0))]) = keysN D ++ [ks[c]] := by simp [keysN]
            by_cases hDn : D.length < n
            · obtain ⟨j, hj1, hj2, hj3⟩ := find_hit (use_nodup ks ks.length) hUD hDn
              have hdec : decide (((keysN D).length : Int) < (n : Int)) = true := decide_eq_true (by omega)
              rw [← hU] at hj1
              have hj4 : ∃ h : j < es.length, es[j] = (ks[c], ((c : Int), 0, 0, 0)) := by subst hU; exact ⟨hj2, hj3⟩
              obtain ⟨hj5, hj6⟩ := hj4
              have hG := fun w hM => get_yes w1.heap.size g j v 2 n ks[c] es w hM (by omega) hj1 hj5
              rw [hj6] at hG
              generalize ks[c] = key at *
              clear hj6 hj3 hUD
              go_wp2_with (first
                | ((with_reducible refine ev_seenLook hSt ?_); refine ⟨rfl, _, _, _, _, rfl, (by repeat (first | exact List.mem_cons_self .. | refine List.mem_cons_of_mem _ ?_)), hSeen, rfl, hkw, ?_⟩; (simp only [Act.put, List.setIfInBounds_toArray, List.set_cons_succ, List.set_cons_zero]); rw [hcon])
                | (go_at_call 9; refine (hG _ (hMk.ext hSt.base)).mono ?_; rintro e w7 ⟨rfl, hb7⟩; replace hSt := hSt.ext hb7)
                | ((with_reducible refine ev_alloc hSt zX1 ?_); refine ⟨rfl, ?_⟩; intro gN wN hSt; (simp only [Act.put, List.setIfInBounds_toArray, List.set_cons_succ, List.set_cons_zero])) | ((with_reducible refine ev_store hSt aX1 ?_); (first | refine ⟨rfl, _, [], _, _, _, rfl, rfl, rfl, rfl, rfl, vvs_all _, ?_⟩ | refine ⟨rfl, _, [_], _, _, _, rfl, rfl, rfl, rfl, rfl, vvs_all _, ?_⟩ | refine ⟨rfl, _, [_, _], _, _, _, rfl, rfl, rfl, rfl, rfl, vvs_all _, ?_⟩); intro wN hSt; simp only [List.nil_append, List.cons_append] at hSt; simp only [Act.put]) | ((with_reducible refine ev_seenLen hSt ?_); refine ⟨rfl, _, _, _, rfl, (by repeat (first | exact List.mem_cons_self .. | refine List.mem_cons_of_mem _ ?_)), hSeen, ?_⟩; (simp only [Act.put, List.setIfInBounds_toArray, List.set_cons_succ, List.set_cons_zero])) | ((with_reducible refine ev_load hSt aX1 ?_); refine ⟨rfl, _, _, _, rfl, (by repeat (first | exact List.mem_cons_self .. | refine List.mem_cons_of_mem _ ?_)), rfl, ?_⟩; (simp only [Act.put, List.setIfInBounds_toArray, List.set_cons_succ, List.set_cons_zero])) | ((with_reducible refine ev_bval ?_); refine ⟨rfl, _, rfl, ?_⟩; (simp only [Act.put, List.setIfInBounds_toArray, List.set_cons_succ, List.set_cons_zero])) | ((with_reducible refine ev_vneq ?_); refine ⟨rfl, _, rfl, rfl, ?_⟩; (simp only [Act.put, List.setIfInBounds_toArray, List.set_cons_succ, List.set_cons_zero])) | ((with_reducible refine ev_seenPut hSt ?_); refine ⟨rfl, _, _, [_], [], _, _, rfl, rfl, hSeen, rfl, rfl, hkw, hk, hml, ?_⟩; intro o8 wN hSeen hSt; simp only [List.nil_append, List.cons_append] at hSt; simp only [Act.put]))
              go_roundw
              case rel => exact ⟨c, by omega, by go_num, _, o8, hBk2, hSt.sub (by simp), by rw [hKD]; exact hSeen⟩
              case measure => (simp [intOf]; try omega)
            · have hdec : decide (((keysN D).length : Int) < (n : Int)) = false := decide_eq_false (by omega)
              have hj1 := find_miss (n := n) (use_nodup ks ks.length) hUD (by omega)
              rw [← hU] at hj1
              have hG := fun w hM => get_mp w1.heap.size g v 2 n ks[c] es w hM (by omega) hj1
              generalize ks[c] = key at *
              clear hUD
              go_wp2_with (first
                | ((with_reducible refine ev_seenLook hSt ?_); refine ⟨rfl, _, _, _, _, rfl, (by repeat (first | exact List.mem_cons_self .. | refine List.mem_cons_of_mem _ ?_)), hSeen, rfl, hkw, ?_⟩; (simp only [Act.put, List.setIfInBounds_toArray, List.set_cons_succ, List.set_cons_zero]); rw [hcon])
                | (go_at_call 9; refine (hG _ (hMk.ext hSt.base)).mono ?_; rintro e w7 ⟨rfl, hb7⟩; replace hSt := hSt.ext hb7)
                | ((with_reducible refine ev_alloc hSt zX1 ?_); refine ⟨rfl, ?_⟩; intro gN wN hSt; (simp only [Act.put, List.setIfInBounds_toArray, List.set_cons_succ, List.set_cons_zero])) | ((with_reducible refine ev_store hSt aX1 ?_); (first | refine ⟨rfl, _, [], _, _, _, rfl, rfl, rfl, rfl, rfl, vvs_all _, ?_⟩ | refine ⟨rfl, _, [_], _, _, _, rfl, rfl, rfl, rfl, rfl, vvs_all _, ?_⟩ | refine ⟨rfl, _, [_, _], _, _, _, rfl, rfl, rfl, rfl, rfl, vvs_all _, ?_⟩); intro wN hSt; simp only [List.nil_append, List.cons_append] at hSt; simp only [Act.put]) | ((with_reducible refine ev_seenLen hSt ?_); refine ⟨rfl, _, _, _, rfl, (by repeat (first | exact List.mem_cons_self .. | refine List.mem_cons_of_mem _ ?_)), hSeen, ?_⟩; (simp only [Act.put, List.setIfInBounds_toArray, List.set_cons_succ, List.set_cons_zero])) | ((with_reducible refine ev_seenPut hSt ?_); refine ⟨rfl, _, _, [_], [], _, _, rfl, rfl, hSeen, rfl, rfl, hkw, hk, hml, ?_⟩; intro o8 wN hSeen hSt; simp only [List.nil_append, List.cons_append] at hSt; simp only [Act.put]))
              go_roundw
              case rel => exact ⟨c, by omega, by go_num, _, o8, hBk2, hSt.sub (by simp), by rw [hKD]; exact hSeen⟩
              case measure => (simp [intOf]; try omega)
end Go.Proofs.Yteohokidlopbnaa
