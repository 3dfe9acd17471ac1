/- Chapter 28: the law FdsOwn, walked. -/
import Derived.Test.YtfacegnnmgmjmaaFdsI
import Derived.Test.YtfacegnnmgmjmaaIntC
namespace Go.Proofs.Ytfacegnnmgmjmaa
open Go.RowKit
set_option linter.unusedSimpArgs false
set_option linter.unusedVariables false

theorem zWas0 : ZeroT Try.prog 38 #[.int .i64 0, .int .i64 0, .int .i64 0, .int .i64 0, .int .i64 0] := by unfold ZeroT; kernel_rfl
theorem nc_zero : nc 5 (fun _ => 0) = #[.int .i64 0, .int .i64 0, .int .i64 0, .int .i64 0, .int .i64 0] := by unfold nc; rfl
theorem zWas : ZeroT Try.prog 38 (nc 5 fun _ => 0) := by
  rw [nc_zero]
  exact zWas0

/-- Close fails and nothing turns, or it closes what is open. -/
theorem close_cases (tb : Nat) (pr fd : Int) (p : Nat → Option Nat) (f : Nat → FileT) :
    (∃ e : Int, (e == 0) = false ∧ ∀ w, Tab w tb p f → Calls Try.prog 10 #[.pointer (some ⟨tb, 0, none⟩), .int .i64 pr, .int .i64 fd] w fun r w' => r = .returned (.tuple #[.agg zF, .int .i64 e]) ∧ Below w.heap.size w w') ∨
    (∃ (q i g : Nat), pr = (q : Int) ∧ fd = (i : Int) ∧ 1 ≤ q ∧ q ≤ 4 ∧ i < 8 ∧ p (8 * (q - 1) + i) = some g) := by
  by_cases hp : 1 ≤ pr ∧ pr ≤ 4
  · obtain ⟨q, rfl⟩ := Int.eq_ofNat_of_zero_le (by omega : 0 ≤ pr)
    by_cases hf : 0 ≤ fd ∧ fd < 8
    · obtain ⟨i, rfl⟩ := Int.eq_ofNat_of_zero_le hf.1
      have hi : i < 8 := by omega
      cases hq : p (8 * (q - 1) + i) with
      | none => exact .inl ⟨9, rfl, fun w hT => close_err_b _ q i 9 w rfl (fun w2 hb2 => get_err_b _ q i 9 w2 rfl (fun w3 hb3 => at_none tb q i (by omega) (by omega) hi p f w3 ((hT.ext hb2).ext hb3) hq))⟩
      | some g => exact .inr ⟨q, i, g, rfl, rfl, by omega, by omega, hi, hq⟩
    · exact .inl ⟨9, rfl, fun w hT => close_err _ q fd 9 w rfl (fun w2 => get_err _ q fd 9 w2 rfl (fun w3 => at_out tb q (by omega) (by omega) fd hf w3))⟩
  · exact .inl ⟨22, rfl, fun w hT => close_err _ pr fd 22 w rfl (fun w2 => get_err _ pr fd 22 w2 rfl (fun w3 => at_norow _ pr fd w3 (fun w4 => row_no _ pr hp w4)))⟩

set_option maxHeartbeats 6400000 in
set_option maxRecDepth 100000 in
theorem walk_FdsOwn (a : Option Addr) (os : List OpT) (cap : Nat) (w : World) (hl : OpSl w a os) (hn : os.length ≤ 140737488355328) :
    Calls Try.prog 5 #[.slice a os.length cap] w fun e w' => e = .returned (.bool true) ∧ Below w.heap.size w w' := by
  by_cases h150 : 150 < os.length
  · have e1 : decide ((os.length : Int) > 150) = true := decide_eq_true (by omega)
    go_enter Try.func5, Try.ntmps5
    go_wp2_with (go_at_call 8; refine (awake28 _).mono ?_; rintro e w1 ⟨rfl, hb1⟩)
    go_ret
    exact ⟨rfl, hb1⟩
  have e1 : decide ((os.length : Int) > 150) = false := decide_eq_false (by omega)
  go_enter Try.func5, Try.ntmps5
  go_wp2_with (first
    | (go_at_call 8; refine (awake28 _).mono ?_; rintro e w1 ⟨rfl, hb1⟩)
    | (go_at_call 9; refine (new_is _).mono ?_; rintro e w2 ⟨tb, rfl, htb0, hT0, hb2⟩))
  have htb : w.heap.size ≤ tb := Nat.le_trans hb1.size htb0
  have hb12 : Below w.heap.size w w2 := hb1.trans (hb2.mono hb1.size)
  go_loopw [24, 4] (fun i s wr => ∃ (k : Nat) (p : Nat → Option Nat) (f : Nat → FileT), k ≤ os.length ∧ i = .int .i64 k ∧ s = .int .i64 (sumTo p 5) ∧ Tab wr tb p f ∧ Below w.heap.size w wr) (fun i _ _ => os.length - (intOf i).toNat)
  case atStart => exact ⟨0, _, _, by omega, rfl, by rw [sumTo_five, tot_none]; rfl, hT0, hb12⟩
  case round =>
    obtain ⟨k, p, f, hk, rfl, rfl, hT, hbB⟩ := hrel
    have htl := lt_of_blk hT.tab
    by_cases h : k = os.length
    · subst h
      go_wp2
      go_ret
      exact ⟨rfl, hbB⟩
    · have hlt : k < os.length := by omega
      have hlt' : (k : Int) < os.length := by omega
      obtain ⟨x, rfl, hat⟩ := hl.ext hbB k hlt
      generalize os[k] = o at hat
      obtain ⟨K, pr, fd, n, y⟩ := o
      have hat' : ∀ i v, (opc K pr fd n y)[i]? = some v → wr.cell? ((x.add (k * 8)).add i) = some v := hat
      clear hat
      have hat := hat'
      clear hat'
      have hSt := St.start wr
      go_wp2_with (first | ((with_reducible refine op_load_at ?_); refine ⟨rfl, _, _, _, _, _, _, rfl, hat, ?_⟩; (simp only [Act.put, List.setIfInBounds_toArray, List.set_cons_succ, List.set_cons_zero])) | ((with_reducible refine ev_alloc hSt zOp ?_); refine ⟨rfl, ?_⟩; intro gO wN hSt; (simp only [Act.put, List.setIfInBounds_toArray, List.set_cons_succ, List.set_cons_zero])) | ((with_reducible refine ev_store hSt aOp ?_); refine ⟨rfl, _, [], _, _, _, rfl, rfl, rfl, rfl, rfl, (by simp [opc, Value.oneCell']), ?_⟩; intro wN hSt; simp only [List.nil_append] at hSt; simp only [Act.put]) | ((with_reducible refine ev_alloc hSt zWas ?_); refine ⟨rfl, ?_⟩; intro gW wN hSt; (simp only [Act.put, List.setIfInBounds_toArray, List.set_cons_succ, List.set_cons_zero])))
      have hgo := (hSt.own _ (List.mem_cons_of_mem _ (List.mem_cons_self ..))).2
      have hgw := (hSt.own _ (List.mem_cons_self ..)).2
      have hbase := hSt.base
      go_loopw [28] (fun i wq => ∃ r : Nat, r ≤ 5 ∧ i = .int .i64 r ∧ St wr [(gW, .cells (nc 5 fun i => if i < r then (rcN p i : Int) else 0) 38 (0, 0)), (gO, .cells (opc K pr fd n y) 29 (0, 0))] wq) (fun i _ => 5 - (intOf i).toNat)
      case atStart => exact ⟨0, by omega, rfl, hSt⟩
      case round =>
        obtain ⟨r, hr, rfl, hSt⟩ := hrel
        by_cases h5 : r = 5
        · subst h5
          have hW := (hSt.own _ (List.mem_cons_self ..)).1
          have hop := (hSt.own _ (List.mem_cons_of_mem _ (List.mem_cons_self ..))).1
          rw [show nc 5 (fun i => if i < 5 then (rcN p i : Int) else 0) = nc 5 (fun i => (rcN p i : Int)) from nc_congr fun i hi => if_pos hi] at hW
          replace hT := hT.ext hSt.base
          replace hbB := hbB.trans (hSt.base.mono hbB.size)
          clear hSt hbase
          have hSt := St.start wr
          by_cases hK : K = 0
          · have hK0 : (K == 0) = true := by simpa using hK
            clear hK
            by_cases hp : 1 ≤ pr ∧ pr ≤ 4
            · obtain ⟨q, hq⟩ := Int.eq_ofNat_of_zero_le (by omega : 0 ≤ pr)
              have hq1 : 1 ≤ q := by omega
              have hq4 : q ≤ 4 := by omega
              clear hp
              cases hs : spareF p (8 * (q - 1)) with
              | none =>
                have hO := fun w (hT : Tab w tb p f) => open_full tb q hq1 hq4 p f y w hT hs
                rw [← hq] at hO
                clear hs hq
                go_wp2_with (first
                  | ((with_reducible refine ev_load1_blk oInt ?_); refine ⟨rfl, _, _, _, _, _, rfl, (blk_of hSt.base hop), (by first | exact opc_0 _ _ _ _ _ | exact opc_1 _ _ _ _ _ | exact opc_2 _ _ _ _ _ | exact opc_3 _ _ _ _ _ | exact opc_4 _ _ _ _ _), ?_⟩; (simp only [Act.put, List.setIfInBounds_toArray, List.set_cons_succ, List.set_cons_zero]))
                  | ((with_reducible refine ev_load_op_blk ?_); refine ⟨rfl, _, _, _, _, _, _, rfl, (blk_of hSt.base hop), ?_⟩; (simp only [Act.put, List.setIfInBounds_toArray, List.set_cons_succ, List.set_cons_zero]))
                  | (go_at_call 12; refine (hO _ (hT.ext hSt.base)).mono ?_; rintro e wC ⟨rfl, hb9⟩; replace hSt := hSt.ext hb9))
                go_loopw [70, 13] (fun i s wq => ∃ r : Nat, r ≤ 5 ∧ i = .int .i64 r ∧ s = .int .i64 (sumTo p r) ∧ St wr [] wq) (fun i _ _ => 5 - (intOf i).toNat)
                case atStart => exact ⟨0, by omega, rfl, by rw [sumTo_zero]; rfl, hSt⟩
                case round =>
                  obtain ⟨r, hr, rfl, rfl, hSt⟩ := hrel
                  by_cases h5 : r = 5
                  · subst h5
                    have hA0 := fun w hT => all_is tb 0 (by omega) p f w hT
                    rw [show rcN p 0 = 0 from rfl] at hA0
                    go_wp2_with (go_at_call 16; refine (hA0 _ (hT.ext hSt.base)).mono ?_; rintro e wA ⟨sa, sc, rfl, hb9⟩; replace hSt := hSt.ext hb9)
                    exact ⟨⟨k + 1, p, f, by omega, by simp, rfl, hT.ext hSt.base, hbB.trans (hSt.base.mono hbB.size)⟩, by simp only [intOf]; omega⟩
                  · have hr5 : r < 5 := by omega
                    have hr5' : (r : Int) < 5 := by omega
                    have hle := rcN_le p r
                    have hsl := sumTo_le p r
                    have e8 : decide ((rcN p r : Int) > 8) = false := decide_eq_false (by omega)
                    have e8' : decide (8 < rcN p r) = false := decide_eq_false (by omega)
                    have hA := fun w hT => all_is tb r (by omega) p f w hT
                    by_cases hpr : (r : Int) = pr
                    · have e9 : ((r : Int) != pr) = false := by simpa using hpr
                      clear hpr
                      go_wp2_with (first
                        | ((with_reducible refine ev_load1_blk oInt ?_); refine ⟨rfl, _, _, _, _, _, rfl, (blk_of hSt.base hop), (by first | exact opc_0 _ _ _ _ _ | exact opc_1 _ _ _ _ _ | exact opc_2 _ _ _ _ _ | exact opc_3 _ _ _ _ _ | exact opc_4 _ _ _ _ _), ?_⟩; (simp only [Act.put, List.setIfInBounds_toArray, List.set_cons_succ, List.set_cons_zero]))
                        | ((with_reducible refine ev_load1_blk oInt ?_); refine ⟨rfl, _, _, _, _, _, rfl, (blk_of hSt.base hW), nc_get _ _ _ (by omega), ?_⟩; (simp only [Act.put, List.setIfInBounds_toArray, List.set_cons_succ, List.set_cons_zero]))
                        | (go_at_call 16; refine (hA _ (hT.ext hSt.base)).mono ?_; rintro e wA ⟨sa, sc, rfl, hb9⟩; replace hSt := hSt.ext hb9))
                      exact ⟨⟨r + 1, by omega, by simp, by rw [sumTo_succ]; simp, hSt⟩, by simp only [intOf]; omega⟩
                    · have e9 : ((r : Int) != pr) = true := by simpa using hpr
                      have e10 : ((rcN p r : Int) != (rcN p r : Int)) = false := by simp
                      clear hpr
                      go_wp2_with (first
                        | ((with_reducible refine ev_load1_blk oInt ?_); refine ⟨rfl, _, _, _, _, _, rfl, (blk_of hSt.base hop), (by first | exact opc_0 _ _ _ _ _ | exact opc_1 _ _ _ _ _ | exact opc_2 _ _ _ _ _ | exact opc_3 _ _ _ _ _ | exact opc_4 _ _ _ _ _), ?_⟩; (simp only [Act.put, List.setIfInBounds_toArray, List.set_cons_succ, List.set_cons_zero]))
                        | ((with_reducible refine ev_load1_blk oInt ?_); refine ⟨rfl, _, _, _, _, _, rfl, (blk_of hSt.base hW), nc_get _ _ _ (by omega), ?_⟩; (simp only [Act.put, List.setIfInBounds_toArray, List.set_cons_succ, List.set_cons_zero]))
                        | (go_at_call 16; refine (hA _ (hT.ext hSt.base)).mono ?_; rintro e wA ⟨sa, sc, rfl, hb9⟩; replace hSt := hSt.ext hb9))
                      exact ⟨⟨r + 1, by omega, by simp, by rw [sumTo_succ]; simp, hSt⟩, by simp only [intOf]; omega⟩
              | some i =>
                have hi : i < 8 := by
                  have := List.mem_of_find?_eq_some hs
                  simpa using this
                have hpn : p (8 * (q - 1) + i) = none := by
                  have := List.find?_some hs
                  cases hh : p (8 * (q - 1) + i) with
                  | none => rfl
                  | some g => rw [hh] at this; cases this
                have hO := fun w (hT : Tab w tb p f) => open_yes tb q i _ htb hq1 hq4 p f y w hT hs hi
                rw [← hq] at hO
                have HQ := Lib.hid hq
                have hsl0 := sumTo_le p 5
                clear hs hq
                go_wp2_with (first
                  | ((with_reducible refine ev_load1_blk oInt ?_); refine ⟨rfl, _, _, _, _, _, rfl, (blk_of hSt.base hop), (by first | exact opc_0 _ _ _ _ _ | exact opc_1 _ _ _ _ _ | exact opc_2 _ _ _ _ _ | exact opc_3 _ _ _ _ _ | exact opc_4 _ _ _ _ _), ?_⟩; (simp only [Act.put, List.setIfInBounds_toArray, List.set_cons_succ, List.set_cons_zero]))
                  | ((with_reducible refine ev_load_op_blk ?_); refine ⟨rfl, _, _, _, _, _, _, rfl, (blk_of hSt.base hop), ?_⟩; (simp only [Act.put, List.setIfInBounds_toArray, List.set_cons_succ, List.set_cons_zero]))
                  | (go_at_call 12; refine (hO _ (hT.ext hSt.base)).mono ?_; rintro e wC ⟨rfl, ⟨gF, -, hT'⟩, hbC, hkC⟩; (have hop' := hkC _ _ (blk_of hSt.base hop) (Nat.ne_of_gt (Nat.lt_of_lt_of_le htl hgo)); have hW' := hkC _ _ (blk_of hSt.base hW) (Nat.ne_of_gt (Nat.lt_of_lt_of_le htl hgw)); replace hbB := (hbB.trans (hSt.base.mono hbB.size)).trans hbC; clear hSt hop hW; have hop := hop'; have hW := hW'; have hSt := St.start wC; clear hkC hbC); clear hT; have hT := hT'; clear hT'))
                have hro := rcN_open p q i gF hq1 hi hpn
                have HO := Lib.hid (show ∀ r : Nat, (r : Int) ≠ pr → rcN (upd p (8 * (q - 1) + i) (some gF)) r = rcN p r from fun r hr => rcN_other p q i r _ hq1 hi (by have := HQ.out; omega))
                have hts := tot_step p (upd p (8 * (q - 1) + i) (some gF)) q hq1 hq4 (fun r hr => rcN_other p q i r _ hq1 hi hr)
                clear hO hpn
                generalize upd p (8 * (q - 1) + i) (some gF) = p' at hT hro HO hts
                generalize updF f (8 * (q - 1) + i) y = f' at hT
                have htt : (sumTo p 5 : Int) + 1 = (sumTo p' 5 : Int) := by rw [← sumTo_five, ← sumTo_five] at hts; omega
                rw [htt]
                clear hro hts htt
                go_loopw [70, 13] (fun i s wq => ∃ r : Nat, r ≤ 5 ∧ i = .int .i64 r ∧ s = .int .i64 (sumTo p' r) ∧ St wC [] wq) (fun i _ _ => 5 - (intOf i).toNat)
                case atStart => exact ⟨0, by omega, rfl, by rw [sumTo_zero]; rfl, hSt⟩
                case round =>
                  obtain ⟨r, hr, rfl, rfl, hSt⟩ := hrel
                  by_cases h5 : r = 5
                  · subst h5
                    have hA0 := fun w hT => all_is tb 0 (by omega) p' f' w hT
                    rw [show rcN p' 0 = 0 from rfl] at hA0
                    go_wp2_with (go_at_call 16; refine (hA0 _ (hT.ext hSt.base)).mono ?_; rintro e wA ⟨sa, sc, rfl, hb9⟩; replace hSt := hSt.ext hb9)
                    exact ⟨⟨k + 1, p', f', by omega, by simp, rfl, hT.ext hSt.base, hbB.trans (hSt.base.mono hbB.size)⟩, by simp only [intOf]; omega⟩
                  · have hr5 : r < 5 := by omega
                    have hr5' : (r : Int) < 5 := by omega
                    have hle := rcN_le p' r
                    have hsl := sumTo_le p' r
                    have e8 : decide ((rcN p' r : Int) > 8) = false := decide_eq_false (by omega)
                    have e8' : decide (8 < rcN p' r) = false := decide_eq_false (by omega)
                    have hA := fun w hT => all_is tb r (by omega) p' f' w hT
                    by_cases hpr : (r : Int) = pr
                    · have e9 : ((r : Int) != pr) = false := by simpa using hpr
                      clear hpr
                      go_wp2_with (first
                        | ((with_reducible refine ev_load1_blk oInt ?_); refine ⟨rfl, _, _, _, _, _, rfl, (blk_of hSt.base hop), (by first | exact opc_0 _ _ _ _ _ | exact opc_1 _ _ _ _ _ | exact opc_2 _ _ _ _ _ | exact opc_3 _ _ _ _ _ | exact opc_4 _ _ _ _ _), ?_⟩; (simp only [Act.put, List.setIfInBounds_toArray, List.set_cons_succ, List.set_cons_zero]))
                        | ((with_reducible refine ev_load1_blk oInt ?_); refine ⟨rfl, _, _, _, _, _, rfl, (blk_of hSt.base hW), nc_get _ _ _ (by omega), ?_⟩; (simp only [Act.put, List.setIfInBounds_toArray, List.set_cons_succ, List.set_cons_zero]))
                        | (go_at_call 16; refine (hA _ (hT.ext hSt.base)).mono ?_; rintro e wA ⟨sa, sc, rfl, hb9⟩; replace hSt := hSt.ext hb9))
                      exact ⟨⟨r + 1, by omega, by simp, by rw [sumTo_succ]; simp, hSt⟩, by simp only [intOf]; omega⟩
                    · have e9 : ((r : Int) != pr) = true := by simpa using hpr
                      have e10 : ((rcN p' r : Int) != (rcN p r : Int)) = false := by rw [HO.out r hpr]; simp
                      clear hpr
                      go_wp2_with (first
                        | ((with_reducible refine ev_load1_blk oInt ?_); refine ⟨rfl, _, _, _, _, _, rfl, (blk_of hSt.base hop), (by first | exact opc_0 _ _ _ _ _ | exact opc_1 _ _ _ _ _ | exact opc_2 _ _ _ _ _ | exact opc_3 _ _ _ _ _ | exact opc_4 _ _ _ _ _), ?_⟩; (simp only [Act.put, List.setIfInBounds_toArray, List.set_cons_succ, List.set_cons_zero]))
                        | ((with_reducible refine ev_load1_blk oInt ?_); refine ⟨rfl, _, _, _, _, _, rfl, (blk_of hSt.base hW), nc_get _ _ _ (by omega), ?_⟩; (simp only [Act.put, List.setIfInBounds_toArray, List.set_cons_succ, List.set_cons_zero]))
                        | (go_at_call 16; refine (hA _ (hT.ext hSt.base)).mono ?_; rintro e wA ⟨sa, sc, rfl, hb9⟩; replace hSt := hSt.ext hb9))
                      exact ⟨⟨r + 1, by omega, by simp, by rw [sumTo_succ]; simp, hSt⟩, by simp only [intOf]; omega⟩
            · have hO := fun w => open_fail (.pointer (some ⟨tb, 0, none⟩)) pr 22 y w rfl (fun w => spare_no ⟨tb, 0, none⟩ pr hp w)
              clear hp
              go_wp2_with (first
                | ((with_reducible refine ev_load1_blk oInt ?_); refine ⟨rfl, _, _, _, _, _, rfl, (blk_of hSt.base hop), (by first | exact opc_0 _ _ _ _ _ | exact opc_1 _ _ _ _ _ | exact opc_2 _ _ _ _ _ | exact opc_3 _ _ _ _ _ | exact opc_4 _ _ _ _ _), ?_⟩; (simp only [Act.put, List.setIfInBounds_toArray, List.set_cons_succ, List.set_cons_zero]))
                | ((with_reducible refine ev_load_op_blk ?_); refine ⟨rfl, _, _, _, _, _, _, rfl, (blk_of hSt.base hop), ?_⟩; (simp only [Act.put, List.setIfInBounds_toArray, List.set_cons_succ, List.set_cons_zero]))
                | (go_at_call 12; refine (hO _).mono ?_; rintro e wC ⟨rfl, hb9⟩; replace hSt := hSt.ext hb9))
              go_loopw [70, 13] (fun i s wq => ∃ r : Nat, r ≤ 5 ∧ i = .int .i64 r ∧ s = .int .i64 (sumTo p r) ∧ St wr [] wq) (fun i _ _ => 5 - (intOf i).toNat)
              case atStart => exact ⟨0, by omega, rfl, by rw [sumTo_zero]; rfl, hSt⟩
              case round =>
                obtain ⟨r, hr, rfl, rfl, hSt⟩ := hrel
                by_cases h5 : r = 5
                · subst h5
                  have hA0 := fun w hT => all_is tb 0 (by omega) p f w hT
                  rw [show rcN p 0 = 0 from rfl] at hA0
                  go_wp2_with (go_at_call 16; refine (hA0 _ (hT.ext hSt.base)).mono ?_; rintro e wA ⟨sa, sc, rfl, hb9⟩; replace hSt := hSt.ext hb9)
                  exact ⟨⟨k + 1, p, f, by omega, by simp, rfl, hT.ext hSt.base, hbB.trans (hSt.base.mono hbB.size)⟩, by simp only [intOf]; omega⟩
                · have hr5 : r < 5 := by omega
                  have hr5' : (r : Int) < 5 := by omega
                  have hle := rcN_le p r
                  have hsl := sumTo_le p r
                  have e8 : decide ((rcN p r : Int) > 8) = false := decide_eq_false (by omega)
                  have e8' : decide (8 < rcN p r) = false := decide_eq_false (by omega)
                  have hA := fun w hT => all_is tb r (by omega) p f w hT
                  by_cases hpr : (r : Int) = pr
                  · have e9 : ((r : Int) != pr) = false := by simpa using hpr
                    clear hpr
                    go_wp2_with (first
                      | ((with_reducible refine ev_load1_blk oInt ?_); refine ⟨rfl, _, _, _, _, _, rfl, (blk_of hSt.base hop), (by first | exact opc_0 _ _ _ _ _ | exact opc_1 _ _ _ _ _ | exact opc_2 _ _ _ _ _ | exact opc_3 _ _ _ _ _ | exact opc_4 _ _ _ _ _), ?_⟩; (simp only [Act.put, List.setIfInBounds_toArray, List.set_cons_succ, List.set_cons_zero]))
                      | ((with_reducible refine ev_load1_blk oInt ?_); refine ⟨rfl, _, _, _, _, _, rfl, (blk_of hSt.base hW), nc_get _ _ _ (by omega), ?_⟩; (simp only [Act.put, List.setIfInBounds_toArray, List.set_cons_succ, List.set_cons_zero]))
                      | (go_at_call 16; refine (hA _ (hT.ext hSt.base)).mono ?_; rintro e wA ⟨sa, sc, rfl, hb9⟩; replace hSt := hSt.ext hb9))
                    exact ⟨⟨r + 1, by omega, by simp, by rw [sumTo_succ]; simp, hSt⟩, by simp only [intOf]; omega⟩
                  · have e9 : ((r : Int) != pr) = true := by simpa using hpr
                    have e10 : ((rcN p r : Int) != (rcN p r : Int)) = false := by simp
                    clear hpr
                    go_wp2_with (first
                      | ((with_reducible refine ev_load1_blk oInt ?_); refine ⟨rfl, _, _, _, _, _, rfl, (blk_of hSt.base hop), (by first | exact opc_0 _ _ _ _ _ | exact opc_1 _ _ _ _ _ | exact opc_2 _ _ _ _ _ | exact opc_3 _ _ _ _ _ | exact opc_4 _ _ _ _ _), ?_⟩; (simp only [Act.put, List.setIfInBounds_toArray, List.set_cons_succ, List.set_cons_zero]))
                      | ((with_reducible refine ev_load1_blk oInt ?_); refine ⟨rfl, _, _, _, _, _, rfl, (blk_of hSt.base hW), nc_get _ _ _ (by omega), ?_⟩; (simp only [Act.put, List.setIfInBounds_toArray, List.set_cons_succ, List.set_cons_zero]))
                      | (go_at_call 16; refine (hA _ (hT.ext hSt.base)).mono ?_; rintro e wA ⟨sa, sc, rfl, hb9⟩; replace hSt := hSt.ext hb9))
                    exact ⟨⟨r + 1, by omega, by simp, by rw [sumTo_succ]; simp, hSt⟩, by simp only [intOf]; omega⟩
          · have hK0 : (K == 0) = false := by simpa using hK
            by_cases hK3 : K = 3
            · have hK3e : (K == 3) = true := by simpa using hK3
              clear hK hK3
              rcases close_cases tb pr fd p f with ⟨ce, hce, hC⟩ | ⟨q, i, g, hq, hfi, hq1, hq4, hi, hpg⟩
              · have hT0 := hT
                go_wp2_with (first
                  | ((with_reducible refine ev_load1_blk oInt ?_); refine ⟨rfl, _, _, _, _, _, rfl, (blk_of hSt.base hop), (by first | exact opc_0 _ _ _ _ _ | exact opc_1 _ _ _ _ _ | exact opc_2 _ _ _ _ _ | exact opc_3 _ _ _ _ _ | exact opc_4 _ _ _ _ _), ?_⟩; (simp only [Act.put, List.setIfInBounds_toArray, List.set_cons_succ, List.set_cons_zero]))
                  | ((with_reducible refine ev_alloc hSt (by first | exact zPg | exact zHd | exact zHr | exact zX1 | exact zX2 | exact zX3 | exact zX4) ?_); refine ⟨rfl, ?_⟩; intro gN wN hSt; (simp only [Act.put, List.setIfInBounds_toArray, List.set_cons_succ, List.set_cons_zero]))
                  | ((with_reducible refine ev_store hSt aX1 ?_); (first | refine ⟨rfl, _, [], _, _, _, rfl, rfl, rfl, rfl, rfl, (by simp [zF, fv, Value.oneCell']), ?_⟩ | refine ⟨rfl, _, [_], _, _, _, rfl, rfl, rfl, rfl, rfl, (by simp [zF, fv, Value.oneCell']), ?_⟩); intro wN hSt; simp only [List.nil_append, List.cons_append] at hSt; simp only [Act.put])
                  | (go_at_call 10; refine (hC _ (hT.ext hSt.base)).mono ?_; rintro e wC ⟨rfl, hb9⟩; replace hSt := hSt.ext hb9))
                go_loopw [70, 13] (fun i s wq => ∃ r : Nat, r ≤ 5 ∧ i = .int .i64 r ∧ s = .int .i64 (sumTo p r) ∧ St wr [] wq) (fun i _ _ => 5 - (intOf i).toNat)
                case atStart => exact ⟨0, by omega, rfl, by rw [sumTo_zero]; rfl, hSt.tail⟩
                case round =>
                  obtain ⟨r, hr, rfl, rfl, hSt⟩ := hrel
                  by_cases h5 : r = 5
                  · subst h5
                    have hA0 := fun w hT => all_is tb 0 (by omega) p f w hT
                    rw [show rcN p 0 = 0 from rfl] at hA0
                    go_wp2_with (go_at_call 16; refine (hA0 _ (hT.ext hSt.base)).mono ?_; rintro e wA ⟨sa, sc, rfl, hb9⟩; replace hSt := hSt.ext hb9)
                    exact ⟨⟨k + 1, p, f, by omega, by simp, rfl, hT.ext hSt.base, hbB.trans (hSt.base.mono hbB.size)⟩, by simp only [intOf]; omega⟩
                  · have hr5 : r < 5 := by omega
                    have hr5' : (r : Int) < 5 := by omega
                    have hle := rcN_le p r
                    have hsl := sumTo_le p r
                    have e8 : decide ((rcN p r : Int) > 8) = false := decide_eq_false (by omega)
                    have e8' : decide (8 < rcN p r) = false := decide_eq_false (by omega)
                    have hA := fun w hT => all_is tb r (by omega) p f w hT
                    by_cases hpr : (r : Int) = pr
                    · have e9 : ((r : Int) != pr) = false := by simpa using hpr
                      clear hpr
                      go_wp2_with (first
                        | ((with_reducible refine ev_load1_blk oInt ?_); refine ⟨rfl, _, _, _, _, _, rfl, (blk_of hSt.base hop), (by first | exact opc_0 _ _ _ _ _ | exact opc_1 _ _ _ _ _ | exact opc_2 _ _ _ _ _ | exact opc_3 _ _ _ _ _ | exact opc_4 _ _ _ _ _), ?_⟩; (simp only [Act.put, List.setIfInBounds_toArray, List.set_cons_succ, List.set_cons_zero]))
                        | ((with_reducible refine ev_load1_blk oInt ?_); refine ⟨rfl, _, _, _, _, _, rfl, (blk_of hSt.base hW), nc_get _ _ _ (by omega), ?_⟩; (simp only [Act.put, List.setIfInBounds_toArray, List.set_cons_succ, List.set_cons_zero]))
                        | (go_at_call 16; refine (hA _ (hT.ext hSt.base)).mono ?_; rintro e wA ⟨sa, sc, rfl, hb9⟩; replace hSt := hSt.ext hb9))
                      exact ⟨⟨r + 1, by omega, by simp, by rw [sumTo_succ]; simp, hSt⟩, by simp only [intOf]; omega⟩
                    · have e9 : ((r : Int) != pr) = true := by simpa using hpr
                      have e10 : ((rcN p r : Int) != (rcN p r : Int)) = false := by simp
                      clear hpr
                      go_wp2_with (first
                        | ((with_reducible refine ev_load1_blk oInt ?_); refine ⟨rfl, _, _, _, _, _, rfl, (blk_of hSt.base hop), (by first | exact opc_0 _ _ _ _ _ | exact opc_1 _ _ _ _ _ | exact opc_2 _ _ _ _ _ | exact opc_3 _ _ _ _ _ | exact opc_4 _ _ _ _ _), ?_⟩; (simp only [Act.put, List.setIfInBounds_toArray, List.set_cons_succ, List.set_cons_zero]))
                        | ((with_reducible refine ev_load1_blk oInt ?_); refine ⟨rfl, _, _, _, _, _, rfl, (blk_of hSt.base hW), nc_get _ _ _ (by omega), ?_⟩; (simp only [Act.put, List.setIfInBounds_toArray, List.set_cons_succ, List.set_cons_zero]))
                        | (go_at_call 16; refine (hA _ (hT.ext hSt.base)).mono ?_; rintro e wA ⟨sa, sc, rfl, hb9⟩; replace hSt := hSt.ext hb9))
                      exact ⟨⟨r + 1, by omega, by simp, by rw [sumTo_succ]; simp, hSt⟩, by simp only [intOf]; omega⟩
              · have hC := fun w hT => close_ok tb q i _ htb hq1 hq4 hi p f g w hT hpg
                rw [← hq, ← hfi] at hC
                have hrc := rcN_close p q i g hq1 hi hpg
                have HO := Lib.hid (show ∀ r : Nat, (r : Int) ≠ pr → rcN (upd p (8 * (q - 1) + i) none) r = rcN p r from fun r hr => rcN_other p q i r _ hq1 hi (by omega))
                have hts := tot_step p (upd p (8 * (q - 1) + i) none) q hq1 hq4 (fun r hr => rcN_other p q i r _ hq1 hi hr)
                clear hpg hq hfi
                generalize upd p (8 * (q - 1) + i) none = p' at hC hrc HO hts
                have htt : (sumTo p 5 : Int) - 1 = (sumTo p' 5 : Int) := by rw [← sumTo_five, ← sumTo_five] at hts; omega
                have hsl0 := sumTo_le p 5
                clear hrc hts
                go_wp2_with (first
                  | ((with_reducible refine ev_load1_blk oInt ?_); refine ⟨rfl, _, _, _, _, _, rfl, (blk_of hSt.base hop), (by first | exact opc_0 _ _ _ _ _ | exact opc_1 _ _ _ _ _ | exact opc_2 _ _ _ _ _ | exact opc_3 _ _ _ _ _ | exact opc_4 _ _ _ _ _), ?_⟩; (simp only [Act.put, List.setIfInBounds_toArray, List.set_cons_succ, List.set_cons_zero]))
                  | ((with_reducible refine ev_alloc hSt (by first | exact zPg | exact zHd | exact zHr | exact zX1 | exact zX2 | exact zX3 | exact zX4) ?_); refine ⟨rfl, ?_⟩; intro gN wN hSt; (simp only [Act.put, List.setIfInBounds_toArray, List.set_cons_succ, List.set_cons_zero]))
                  | ((with_reducible refine ev_store hSt aX1 ?_); (first | refine ⟨rfl, _, [], _, _, _, rfl, rfl, rfl, rfl, rfl, (by simp [zF, fv, Value.oneCell']), ?_⟩ | refine ⟨rfl, _, [_], _, _, _, rfl, rfl, rfl, rfl, rfl, (by simp [zF, fv, Value.oneCell']), ?_⟩); intro wN hSt; simp only [List.nil_append, List.cons_append] at hSt; simp only [Act.put])
                  | (go_at_call 10; refine (hC _ (hT.ext hSt.base)).mono ?_; rintro e wC ⟨rfl, hT', hbC, hkC⟩; (have hop' := hkC _ _ (blk_of hSt.base hop) (Nat.ne_of_gt (Nat.lt_of_lt_of_le htl hgo)); have hW' := hkC _ _ (blk_of hSt.base hW) (Nat.ne_of_gt (Nat.lt_of_lt_of_le htl hgw)); replace hbB := (hbB.trans (hSt.base.mono hbB.size)).trans hbC; clear hSt hop hW; have hop := hop'; have hW := hW'; have hSt := St.start wC; clear hkC hbC); clear hT; have hT := hT'; clear hT'))
                clear htt
                go_loopw [70, 13] (fun i s wq => ∃ r : Nat, r ≤ 5 ∧ i = .int .i64 r ∧ s = .int .i64 (sumTo p' r) ∧ St wC [] wq) (fun i _ _ => 5 - (intOf i).toNat)
                case atStart => exact ⟨0, by omega, rfl, by rw [sumTo_zero]; rfl, hSt.tail⟩
                case round =>
                  obtain ⟨r, hr, rfl, rfl, hSt⟩ := hrel
                  by_cases h5 : r = 5
                  · subst h5
                    have hA0 := fun w hT => all_is tb 0 (by omega) p' f w hT
                    rw [show rcN p' 0 = 0 from rfl] at hA0
                    go_wp2_with (go_at_call 16; refine (hA0 _ (hT.ext hSt.base)).mono ?_; rintro e wA ⟨sa, sc, rfl, hb9⟩; replace hSt := hSt.ext hb9)
                    exact ⟨⟨k + 1, p', f, by omega, by simp, rfl, hT.ext hSt.base, hbB.trans (hSt.base.mono hbB.size)⟩, by simp only [intOf]; omega⟩
                  · have hr5 : r < 5 := by omega
                    have hr5' : (r : Int) < 5 := by omega
                    have hle := rcN_le p' r
                    have hsl := sumTo_le p' r
                    have e8 : decide ((rcN p' r : Int) > 8) = false := decide_eq_false (by omega)
                    have e8' : decide (8 < rcN p' r) = false := decide_eq_false (by omega)
                    have hA := fun w hT => all_is tb r (by omega) p' f w hT
                    by_cases hpr : (r : Int) = pr
                    · have e9 : ((r : Int) != pr) = false := by simpa using hpr
                      clear hpr
                      go_wp2_with (first
                        | ((with_reducible refine ev_load1_blk oInt ?_); refine ⟨rfl, _, _, _, _, _, rfl, (blk_of hSt.base hop), (by first | exact opc_0 _ _ _ _ _ | exact opc_1 _ _ _ _ _ | exact opc_2 _ _ _ _ _ | exact opc_3 _ _ _ _ _ | exact opc_4 _ _ _ _ _), ?_⟩; (simp only [Act.put, List.setIfInBounds_toArray, List.set_cons_succ, List.set_cons_zero]))
                        | ((with_reducible refine ev_load1_blk oInt ?_); refine ⟨rfl, _, _, _, _, _, rfl, (blk_of hSt.base hW), nc_get _ _ _ (by omega), ?_⟩; (simp only [Act.put, List.setIfInBounds_toArray, List.set_cons_succ, List.set_cons_zero]))
                        | (go_at_call 16; refine (hA _ (hT.ext hSt.base)).mono ?_; rintro e wA ⟨sa, sc, rfl, hb9⟩; replace hSt := hSt.ext hb9))
                      exact ⟨⟨r + 1, by omega, by simp, by rw [sumTo_succ]; simp, hSt⟩, by simp only [intOf]; omega⟩
                    · have e9 : ((r : Int) != pr) = true := by simpa using hpr
                      have e10 : ((rcN p' r : Int) != (rcN p r : Int)) = false := by rw [HO.out r hpr]; simp
                      clear hpr
                      go_wp2_with (first
                        | ((with_reducible refine ev_load1_blk oInt ?_); refine ⟨rfl, _, _, _, _, _, rfl, (blk_of hSt.base hop), (by first | exact opc_0 _ _ _ _ _ | exact opc_1 _ _ _ _ _ | exact opc_2 _ _ _ _ _ | exact opc_3 _ _ _ _ _ | exact opc_4 _ _ _ _ _), ?_⟩; (simp only [Act.put, List.setIfInBounds_toArray, List.set_cons_succ, List.set_cons_zero]))
                        | ((with_reducible refine ev_load1_blk oInt ?_); refine ⟨rfl, _, _, _, _, _, rfl, (blk_of hSt.base hW), nc_get _ _ _ (by omega), ?_⟩; (simp only [Act.put, List.setIfInBounds_toArray, List.set_cons_succ, List.set_cons_zero]))
                        | (go_at_call 16; refine (hA _ (hT.ext hSt.base)).mono ?_; rintro e wA ⟨sa, sc, rfl, hb9⟩; replace hSt := hSt.ext hb9))
                      exact ⟨⟨r + 1, by omega, by simp, by rw [sumTo_succ]; simp, hSt⟩, by simp only [intOf]; omega⟩
            · have hK3e : (K == 3) = false := by simpa using hK3
              clear hK hK3
              go_wp2_with (first | ((with_reducible refine ev_load1_blk oInt ?_); refine ⟨rfl, _, _, _, _, _, rfl, (blk_of hSt.base hop), (by first | exact opc_0 _ _ _ _ _ | exact opc_1 _ _ _ _ _ | exact opc_2 _ _ _ _ _ | exact opc_3 _ _ _ _ _ | exact opc_4 _ _ _ _ _), ?_⟩; (simp only [Act.put, List.setIfInBounds_toArray, List.set_cons_succ, List.set_cons_zero])))
              go_loopw [70, 13] (fun i s wq => ∃ r : Nat, r ≤ 5 ∧ i = .int .i64 r ∧ s = .int .i64 (sumTo p r) ∧ St wr [] wq) (fun i _ _ => 5 - (intOf i).toNat)
              case atStart => exact ⟨0, by omega, rfl, by rw [sumTo_zero]; rfl, hSt⟩
              case round =>
                obtain ⟨r, hr, rfl, rfl, hSt⟩ := hrel
                by_cases h5 : r = 5
                · subst h5
                  have hA0 := fun w hT => all_is tb 0 (by omega) p f w hT
                  rw [show rcN p 0 = 0 from rfl] at hA0
                  go_wp2_with (go_at_call 16; refine (hA0 _ (hT.ext hSt.base)).mono ?_; rintro e wA ⟨sa, sc, rfl, hb9⟩; replace hSt := hSt.ext hb9)
                  exact ⟨⟨k + 1, p, f, by omega, by simp, rfl, hT.ext hSt.base, hbB.trans (hSt.base.mono hbB.size)⟩, by simp only [intOf]; omega⟩
                · have hr5 : r < 5 := by omega
                  have hr5' : (r : Int) < 5 := by omega
                  have hle := rcN_le p r
                  have hsl := sumTo_le p r
                  have e8 : decide ((rcN p r : Int) > 8) = false := decide_eq_false (by omega)
                  have e8' : decide (8 < rcN p r) = false := decide_eq_false (by omega)
                  have hA := fun w hT => all_is tb r (by omega) p f w hT
                  by_cases hpr : (r : Int) = pr
                  · have e9 : ((r : Int) != pr) = false := by simpa using hpr
                    clear hpr
                    go_wp2_with (first
                      | ((with_reducible refine ev_load1_blk oInt ?_); refine ⟨rfl, _, _, _, _, _, rfl, (blk_of hSt.base hop), (by first | exact opc_0 _ _ _ _ _ | exact opc_1 _ _ _ _ _ | exact opc_2 _ _ _ _ _ | exact opc_3 _ _ _ _ _ | exact opc_4 _ _ _ _ _), ?_⟩; (simp only [Act.put, List.setIfInBounds_toArray, List.set_cons_succ, List.set_cons_zero]))
                      | ((with_reducible refine ev_load1_blk oInt ?_); refine ⟨rfl, _, _, _, _, _, rfl, (blk_of hSt.base hW), nc_get _ _ _ (by omega), ?_⟩; (simp only [Act.put, List.setIfInBounds_toArray, List.set_cons_succ, List.set_cons_zero]))
                      | (go_at_call 16; refine (hA _ (hT.ext hSt.base)).mono ?_; rintro e wA ⟨sa, sc, rfl, hb9⟩; replace hSt := hSt.ext hb9))
                    exact ⟨⟨r + 1, by omega, by simp, by rw [sumTo_succ]; simp, hSt⟩, by simp only [intOf]; omega⟩
                  · have e9 : ((r : Int) != pr) = true := by simpa using hpr
                    have e10 : ((rcN p r : Int) != (rcN p r : Int)) = false := by simp
                    clear hpr
                    go_wp2_with (first
                      | ((with_reducible refine ev_load1_blk oInt ?_); refine ⟨rfl, _, _, _, _, _, rfl, (blk_of hSt.base hop), (by first | exact opc_0 _ _ _ _ _ | exact opc_1 _ _ _ _ _ | exact opc_2 _ _ _ _ _ | exact opc_3 _ _ _ _ _ | exact opc_4 _ _ _ _ _), ?_⟩; (simp only [Act.put, List.setIfInBounds_toArray, List.set_cons_succ, List.set_cons_zero]))
                      | ((with_reducible refine ev_load1_blk oInt ?_); refine ⟨rfl, _, _, _, _, _, rfl, (blk_of hSt.base hW), nc_get _ _ _ (by omega), ?_⟩; (simp only [Act.put, List.setIfInBounds_toArray, List.set_cons_succ, List.set_cons_zero]))
                      | (go_at_call 16; refine (hA _ (hT.ext hSt.base)).mono ?_; rintro e wA ⟨sa, sc, rfl, hb9⟩; replace hSt := hSt.ext hb9))
                    exact ⟨⟨r + 1, by omega, by simp, by rw [sumTo_succ]; simp, hSt⟩, by simp only [intOf]; omega⟩
        · have hr5 : r < 5 := by omega
          have hr5' : (r : Int) < 5 := by omega
          go_wp2_with (first | (go_at_call 16; refine (all_is tb r (by omega) p f _ (hT.ext hSt.base)).mono ?_; rintro e wA ⟨sa, sc, rfl, hb9⟩; replace hSt := hSt.ext hb9) | ((with_reducible refine ev_store1 hSt (by kernel_rfl) ?_); refine ⟨rfl, _, _, [], _, _, _, .int .i64 (rcN p r), rfl, rfl, rfl, (by rw [nc_size]; omega), rfl, ?_⟩; intro wN hSt; simp only [List.nil_append, nc_set] at hSt; simp only [Act.put]))
          refine ⟨⟨r + 1, by omega, by simp, ?_⟩, by simp only [intOf]; omega⟩
          rwa [show nc 5 (fun i => if i = r then (rcN p r : Int) else if i < r then (rcN p i : Int) else 0) = nc 5 (fun i => if i < r + 1 then (rcN p i : Int) else 0) from nc_congr fun i hi => by
            by_cases e : i = r
            · subst e; rw [if_pos rfl, if_pos (by omega)]
            · rw [if_neg e]
              by_cases e2 : i < r
              · rw [if_pos e2, if_pos (by omega)]
              · rw [if_neg e2, if_neg (by omega)]] at hSt
end Go.Proofs.Ytfacegnnmgmjmaa
