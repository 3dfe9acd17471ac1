/- Chapter 28: the law FdsNext, walked. -/
import Derived.Test.YtfacegnnmgmjmaaFdsH
namespace Go.Proofs.Ytfacegnnmgmjmaa
open Go.RowKit
set_option linter.unusedSimpArgs false
set_option linter.unusedVariables false

set_option maxHeartbeats 3200000 in
set_option maxRecDepth 100000 in
theorem walk_FdsNext (a : Option Addr) (os : List OpT) (cap : Nat) (w : World) (hl : OpSl w a os) (hn : os.length ≤ 140737488355328) :
    Calls Try.prog 3 #[.slice a os.length cap] w fun e w' => e = .returned (.bool true) ∧ Below w.heap.size w w' := by
  by_cases h150 : 150 < os.length
  · have e1 : decide ((os.length : Int) > 150) = true := decide_eq_true (by omega)
    go_enter Try.func3, Try.ntmps3
    go_wp2_with (go_at_call 8; refine (awake28 _).mono ?_; rintro e w1 ⟨rfl, hb1⟩)
    go_ret
    exact ⟨rfl, hb1⟩
  have e1 : decide ((os.length : Int) > 150) = false := decide_eq_false (by omega)
  go_enter Try.func3, Try.ntmps3
  go_wp2_with (first
    | (go_at_call 8; refine (awake28 _).mono ?_; rintro e w1 ⟨rfl, hb1⟩)
    | (go_at_call 9; refine (new_is _).mono ?_; rintro e w2 ⟨tb, rfl, htb0, hT0, hb2⟩))
  have htb : w.heap.size ≤ tb := Nat.le_trans hb1.size htb0
  have hb12 : Below w.heap.size w w2 := hb1.trans (hb2.mono hb1.size)
  go_loopw [20] (fun i wr => ∃ (k : Nat) (p : Nat → Option Nat) (f : Nat → FileT), k ≤ os.length ∧ i = .int .i64 k ∧ Tab wr tb p f ∧ Below w.heap.size w wr) (fun i _ => os.length - (intOf i).toNat)
  case atStart => exact ⟨0, _, _, by omega, rfl, hT0, hb12⟩
  case round =>
    obtain ⟨k, p, f, hk, rfl, hT, hbB⟩ := hrel
    have htl := lt_of_blk hT.tab
    by_cases h : k = os.length
    · subst h
      go_wp2
      go_ret
      exact ⟨rfl, hbB⟩
    · have hlt : k < os.length := by omega
      have hlt' : (k : Int) < os.length := by omega
      obtain ⟨x, rfl, hat⟩ := hl.ext hbB k hlt
      generalize os[k] = o at hat
      obtain ⟨K, pr, fd, n, y⟩ := o
      have hat' : ∀ i v, (opc K pr fd n y)[i]? = some v → wr.cell? ((x.add (k * 8)).add i) = some v := hat
      clear hat
      have hat := hat'
      clear hat'
      have hSt := St.start wr
      by_cases hK : K = 3
      · have hKe : (K == 3) = true := by simpa using hK
        clear hK
        go_wp2_with (first | ((with_reducible refine op_load_at ?_); refine ⟨rfl, _, _, _, _, _, _, rfl, hat, ?_⟩; (simp only [Act.put, List.setIfInBounds_toArray, List.set_cons_succ, List.set_cons_zero])) | ((with_reducible refine ev_alloc hSt zOp ?_); refine ⟨rfl, ?_⟩; intro gO wN hSt; (simp only [Act.put, List.setIfInBounds_toArray, List.set_cons_succ, List.set_cons_zero])) | ((with_reducible refine ev_store hSt aOp ?_); refine ⟨rfl, _, [], _, _, _, rfl, rfl, rfl, rfl, rfl, (by simp [opc, Value.oneCell']), ?_⟩; intro wN hSt; simp only [List.nil_append] at hSt; simp only [Act.put]; have hop := (hSt.own _ (List.mem_cons_self ..)).1; have hgo := (hSt.own _ (List.mem_cons_self ..)).2; replace hT := hT.ext hSt.base; replace hbB := hbB.trans (hSt.base.mono hbB.size); replace hSt := St.start wN) | ((with_reducible refine ev_load1_blk oInt ?_); refine ⟨rfl, _, _, _, _, _, rfl, (blk_of hSt.base hop), (by first | exact opc_0 _ _ _ _ _ | exact opc_1 _ _ _ _ _ | exact opc_2 _ _ _ _ _ | exact opc_3 _ _ _ _ _ | exact opc_4 _ _ _ _ _), ?_⟩; (simp only [Act.put, List.setIfInBounds_toArray, List.set_cons_succ, List.set_cons_zero])) | ((with_reducible refine ev_load_op_blk ?_); refine ⟨rfl, _, _, _, _, _, _, rfl, (blk_of hSt.base hop), ?_⟩; (simp only [Act.put, List.setIfInBounds_toArray, List.set_cons_succ, List.set_cons_zero])) | ((with_reducible refine ev_alloc hSt (by first | exact zPg | exact zHd | exact zHr | exact zX1 | exact zX2 | exact zX3 | exact zX4) ?_); refine ⟨rfl, ?_⟩; intro gN wN hSt; (simp only [Act.put, List.setIfInBounds_toArray, List.set_cons_succ, List.set_cons_zero])) | ((with_reducible refine ev_store hSt aX1 ?_); (first | refine ⟨rfl, _, [], _, _, _, rfl, rfl, rfl, rfl, rfl, (by simp [zF, fv, Value.oneCell']), ?_⟩ | refine ⟨rfl, _, [_], _, _, _, rfl, rfl, rfl, rfl, rfl, (by simp [zF, fv, Value.oneCell']), ?_⟩); intro wN hSt; simp only [List.nil_append, List.cons_append] at hSt; simp only [Act.put]) | ((with_reducible refine ev_load hSt aX1 ?_); refine ⟨rfl, _, _, _, rfl, (by repeat (first | exact List.mem_cons_self .. | refine List.mem_cons_of_mem _ ?_)), rfl, ?_⟩; (simp only [Act.put, List.setIfInBounds_toArray, List.set_cons_succ, List.set_cons_zero])) | (go_at_call 10; refine (close_any tb w.heap.size htb _ _ p f _ (hT.ext hSt.base) (Nat.le_trans hbB.size hSt.base.size)).mono ?_; rintro e wC ⟨v, p', f', rfl, hT', hbC, hkC⟩; have hop' := hkC _ _ (blk_of hSt.base hop) (Nat.ne_of_gt (Nat.lt_of_lt_of_le htl hgo)); replace hbB := (hbB.trans (hSt.base.mono hbB.size)).trans hbC; clear hSt))
        exact ⟨⟨k + 1, p', f', by omega, by simp, hT', hbB⟩, by simp only [intOf]; omega⟩
      · have hKe : (K == 3) = false := by simpa using hK
        clear hK
        have y0 : (fv y)[0]? = some (.int .i64 y.1) := rfl
        have y1 : (fv y)[1]? = some (.int .i64 y.2.1) := rfl
        have y2 : (fv y)[2]? = some (.int .i64 y.2.2.1) := rfl
        have y3 : (fv y)[3]? = some (.int .i64 y.2.2.2) := rfl
        by_cases hp : 1 ≤ pr ∧ pr ≤ 4
        · obtain ⟨q, rfl⟩ := Int.eq_ofNat_of_zero_le (by omega : 0 ≤ pr)
          have hq1 : 1 ≤ q := by omega
          have hq4 : q ≤ 4 := by omega
          clear hp
          cases hs : spareF p (8 * (q - 1)) with
          | none =>
            have hS := fun w (hT : Tab w tb p f) => spare_yes tb q hq1 hq4 p f w hT
            rw [hs] at hS
            simp only [spareV] at hS
            have hO := fun w (hT : Tab w tb p f) => open_full tb q hq1 hq4 p f y w hT hs
            have hG := fun w (hT : Tab w tb p f) => get_any tb (q : Int) 0 p f w hT
            clear hs
            go_wp2_with (first
              | ((with_reducible refine op_load_at ?_); refine ⟨rfl, _, _, _, _, _, _, rfl, hat, ?_⟩; (simp only [Act.put, List.setIfInBounds_toArray, List.set_cons_succ, List.set_cons_zero])) | ((with_reducible refine ev_alloc hSt zOp ?_); refine ⟨rfl, ?_⟩; intro gO wN hSt; (simp only [Act.put, List.setIfInBounds_toArray, List.set_cons_succ, List.set_cons_zero])) | ((with_reducible refine ev_store hSt aOp ?_); refine ⟨rfl, _, [], _, _, _, rfl, rfl, rfl, rfl, rfl, (by simp [opc, Value.oneCell']), ?_⟩; intro wN hSt; simp only [List.nil_append] at hSt; simp only [Act.put]; have hop := (hSt.own _ (List.mem_cons_self ..)).1; have hgo := (hSt.own _ (List.mem_cons_self ..)).2; replace hT := hT.ext hSt.base; replace hbB := hbB.trans (hSt.base.mono hbB.size); replace hSt := St.start wN) | ((with_reducible refine ev_load1_blk oInt ?_); refine ⟨rfl, _, _, _, _, _, rfl, (blk_of hSt.base hop), (by first | exact opc_0 _ _ _ _ _ | exact opc_1 _ _ _ _ _ | exact opc_2 _ _ _ _ _ | exact opc_3 _ _ _ _ _ | exact opc_4 _ _ _ _ _), ?_⟩; (simp only [Act.put, List.setIfInBounds_toArray, List.set_cons_succ, List.set_cons_zero])) | ((with_reducible refine ev_load_op_blk ?_); refine ⟨rfl, _, _, _, _, _, _, rfl, (blk_of hSt.base hop), ?_⟩; (simp only [Act.put, List.setIfInBounds_toArray, List.set_cons_succ, List.set_cons_zero])) | ((with_reducible refine ev_alloc hSt (by first | exact zPg | exact zHd | exact zHr | exact zX1 | exact zX2 | exact zX3 | exact zX4) ?_); refine ⟨rfl, ?_⟩; intro gN wN hSt; (simp only [Act.put, List.setIfInBounds_toArray, List.set_cons_succ, List.set_cons_zero])) | ((with_reducible refine ev_store hSt aX1 ?_); (first | refine ⟨rfl, _, [], _, _, _, rfl, rfl, rfl, rfl, rfl, (by simp [zF, fv, Value.oneCell']), ?_⟩ | refine ⟨rfl, _, [_], _, _, _, rfl, rfl, rfl, rfl, rfl, (by simp [zF, fv, Value.oneCell']), ?_⟩); intro wN hSt; simp only [List.nil_append, List.cons_append] at hSt; simp only [Act.put]) | ((with_reducible refine ev_load hSt aX1 ?_); refine ⟨rfl, _, _, _, rfl, (by repeat (first | exact List.mem_cons_self .. | refine List.mem_cons_of_mem _ ?_)), rfl, ?_⟩; (simp only [Act.put, List.setIfInBounds_toArray, List.set_cons_succ, List.set_cons_zero]))
              | (go_at_call 11; refine (hS _ (hT.ext hSt.base)).mono ?_; rintro e wC ⟨rfl, hb9⟩; replace hSt := hSt.ext hb9)
              | (go_at_call 12; refine (hO _ (hT.ext hSt.base)).mono ?_; rintro e wC ⟨rfl, hb9⟩; replace hSt := hSt.ext hb9)
              | (go_at_call 13; refine (hG _ (hT.ext hSt.base)).mono ?_; rintro e wC ⟨gx, ge, rfl, hb9⟩; replace hSt := hSt.ext hb9))
            exact ⟨⟨k + 1, p, f, by omega, by simp, hT.ext hSt.base, hbB.trans (hSt.base.mono hbB.size)⟩, by simp only [intOf]; omega⟩
          | some i =>
            have hi : i < 8 := by
              have := List.mem_of_find?_eq_some hs
              simpa using this
            have hS := fun w (hT : Tab w tb p f) => spare_yes tb q hq1 hq4 p f w hT
            rw [hs] at hS
            simp only [spareV] at hS
            have hO := fun w (hT : Tab w tb p f) => open_yes tb q i _ htb hq1 hq4 p f y w hT hs hi
            have hG : ∀ (w : World) (g : Nat), Tab w tb (upd p (8 * (q - 1) + i) (some g)) (updF f (8 * (q - 1) + i) y) → Calls Try.prog 13 #[.pointer (some ⟨tb, 0, none⟩), .int .i64 q, .int .i64 i] w fun r w' => r = .returned (.tuple #[.agg (fv y), .int .i64 0]) ∧ Below w.heap.size w w' := fun w g hT => by
              have := get_some tb q i hq1 hq4 hi _ _ g w hT (by simp [upd])
              rwa [show updF f (8 * (q - 1) + i) y (8 * (q - 1) + i) = y from by simp [updF]] at this
            clear hs
            go_wp2_with (first
              | ((with_reducible refine op_load_at ?_); refine ⟨rfl, _, _, _, _, _, _, rfl, hat, ?_⟩; (simp only [Act.put, List.setIfInBounds_toArray, List.set_cons_succ, List.set_cons_zero])) | ((with_reducible refine ev_alloc hSt zOp ?_); refine ⟨rfl, ?_⟩; intro gO wN hSt; (simp only [Act.put, List.setIfInBounds_toArray, List.set_cons_succ, List.set_cons_zero])) | ((with_reducible refine ev_store hSt aOp ?_); refine ⟨rfl, _, [], _, _, _, rfl, rfl, rfl, rfl, rfl, (by simp [opc, Value.oneCell']), ?_⟩; intro wN hSt; simp only [List.nil_append] at hSt; simp only [Act.put]; have hop := (hSt.own _ (List.mem_cons_self ..)).1; have hgo := (hSt.own _ (List.mem_cons_self ..)).2; replace hT := hT.ext hSt.base; replace hbB := hbB.trans (hSt.base.mono hbB.size); replace hSt := St.start wN) | ((with_reducible refine ev_load1_blk oInt ?_); refine ⟨rfl, _, _, _, _, _, rfl, (blk_of hSt.base hop), (by first | exact opc_0 _ _ _ _ _ | exact opc_1 _ _ _ _ _ | exact opc_2 _ _ _ _ _ | exact opc_3 _ _ _ _ _ | exact opc_4 _ _ _ _ _), ?_⟩; (simp only [Act.put, List.setIfInBounds_toArray, List.set_cons_succ, List.set_cons_zero])) | ((with_reducible refine ev_load_op_blk ?_); refine ⟨rfl, _, _, _, _, _, _, rfl, (blk_of hSt.base hop), ?_⟩; (simp only [Act.put, List.setIfInBounds_toArray, List.set_cons_succ, List.set_cons_zero])) | ((with_reducible refine ev_alloc hSt (by first | exact zPg | exact zHd | exact zHr | exact zX1 | exact zX2 | exact zX3 | exact zX4) ?_); refine ⟨rfl, ?_⟩; intro gN wN hSt; (simp only [Act.put, List.setIfInBounds_toArray, List.set_cons_succ, List.set_cons_zero])) | ((with_reducible refine ev_store hSt aX1 ?_); (first | refine ⟨rfl, _, [], _, _, _, rfl, rfl, rfl, rfl, rfl, (by simp [zF, fv, Value.oneCell']), ?_⟩ | refine ⟨rfl, _, [_], _, _, _, rfl, rfl, rfl, rfl, rfl, (by simp [zF, fv, Value.oneCell']), ?_⟩); intro wN hSt; simp only [List.nil_append, List.cons_append] at hSt; simp only [Act.put]) | ((with_reducible refine ev_load hSt aX1 ?_); refine ⟨rfl, _, _, _, rfl, (by repeat (first | exact List.mem_cons_self .. | refine List.mem_cons_of_mem _ ?_)), rfl, ?_⟩; (simp only [Act.put, List.setIfInBounds_toArray, List.set_cons_succ, List.set_cons_zero]))
              | (go_at_call 11; refine (hS _ (hT.ext hSt.base)).mono ?_; rintro e wC ⟨rfl, hb9⟩; replace hSt := hSt.ext hb9)
              | (go_at_call 12; refine (hO _ (hT.ext hSt.base)).mono ?_; rintro e wC ⟨rfl, ⟨gF, -, hT'⟩, hbC, hkC⟩; have hop' := hkC _ _ (blk_of hSt.base hop) (Nat.ne_of_gt (Nat.lt_of_lt_of_le htl hgo)); replace hbB := (hbB.trans (hSt.base.mono hbB.size)).trans hbC; clear hSt hop; have hop := hop'; have hSt := St.start wC)
              | (go_at_call 13; refine (hG _ gF (hT'.ext hSt.base)).mono ?_; rintro e wG ⟨rfl, hb9⟩; replace hSt := hSt.ext hb9))
            exact ⟨⟨k + 1, _, _, by omega, by simp, hT'.ext hSt.base, hbB.trans (hSt.base.mono hbB.size)⟩, by simp only [intOf]; omega⟩
        · have hS := fun w => spare_no ⟨tb, 0, none⟩ pr hp w
          have hO := fun w => open_fail (.pointer (some ⟨tb, 0, none⟩)) pr 22 y w rfl hS
          have hG := fun w (hT : Tab w tb p f) => get_any tb pr 0 p f w hT
          clear hp
          go_wp2_with (first
            | ((with_reducible refine op_load_at ?_); refine ⟨rfl, _, _, _, _, _, _, rfl, hat, ?_⟩; (simp only [Act.put, List.setIfInBounds_toArray, List.set_cons_succ, List.set_cons_zero])) | ((with_reducible refine ev_alloc hSt zOp ?_); refine ⟨rfl, ?_⟩; intro gO wN hSt; (simp only [Act.put, List.setIfInBounds_toArray, List.set_cons_succ, List.set_cons_zero])) | ((with_reducible refine ev_store hSt aOp ?_); refine ⟨rfl, _, [], _, _, _, rfl, rfl, rfl, rfl, rfl, (by simp [opc, Value.oneCell']), ?_⟩; intro wN hSt; simp only [List.nil_append] at hSt; simp only [Act.put]; have hop := (hSt.own _ (List.mem_cons_self ..)).1; have hgo := (hSt.own _ (List.mem_cons_self ..)).2; replace hT := hT.ext hSt.base; replace hbB := hbB.trans (hSt.base.mono hbB.size); replace hSt := St.start wN) | ((with_reducible refine ev_load1_blk oInt ?_); refine ⟨rfl, _, _, _, _, _, rfl, (blk_of hSt.base hop), (by first | exact opc_0 _ _ _ _ _ | exact opc_1 _ _ _ _ _ | exact opc_2 _ _ _ _ _ | exact opc_3 _ _ _ _ _ | exact opc_4 _ _ _ _ _), ?_⟩; (simp only [Act.put, List.setIfInBounds_toArray, List.set_cons_succ, List.set_cons_zero])) | ((with_reducible refine ev_load_op_blk ?_); refine ⟨rfl, _, _, _, _, _, _, rfl, (blk_of hSt.base hop), ?_⟩; (simp only [Act.put, List.setIfInBounds_toArray, List.set_cons_succ, List.set_cons_zero])) | ((with_reducible refine ev_alloc hSt (by first | exact zPg | exact zHd | exact zHr | exact zX1 | exact zX2 | exact zX3 | exact zX4) ?_); refine ⟨rfl, ?_⟩; intro gN wN hSt; (simp only [Act.put, List.setIfInBounds_toArray, List.set_cons_succ, List.set_cons_zero])) | ((with_reducible refine ev_store hSt aX1 ?_); (first | refine ⟨rfl, _, [], _, _, _, rfl, rfl, rfl, rfl, rfl, (by simp [zF, fv, Value.oneCell']), ?_⟩ | refine ⟨rfl, _, [_], _, _, _, rfl, rfl, rfl, rfl, rfl, (by simp [zF, fv, Value.oneCell']), ?_⟩); intro wN hSt; simp only [List.nil_append, List.cons_append] at hSt; simp only [Act.put]) | ((with_reducible refine ev_load hSt aX1 ?_); refine ⟨rfl, _, _, _, rfl, (by repeat (first | exact List.mem_cons_self .. | refine List.mem_cons_of_mem _ ?_)), rfl, ?_⟩; (simp only [Act.put, List.setIfInBounds_toArray, List.set_cons_succ, List.set_cons_zero]))
            | (go_at_call 11; refine (hS _).mono ?_; rintro e wC ⟨rfl, rfl⟩)
            | (go_at_call 12; refine (hO _).mono ?_; rintro e wC ⟨rfl, hb9⟩; replace hSt := hSt.ext hb9)
            | (go_at_call 13; refine (hG _ (hT.ext hSt.base)).mono ?_; rintro e wC ⟨gx, ge, rfl, hb9⟩; replace hSt := hSt.ext hb9))
          exact ⟨⟨k + 1, p, f, by omega, by simp, hT.ext hSt.base, hbB.trans (hSt.base.mono hbB.size)⟩, by simp only [intOf]; omega⟩
end Go.Proofs.Ytfacegnnmgmjmaa
