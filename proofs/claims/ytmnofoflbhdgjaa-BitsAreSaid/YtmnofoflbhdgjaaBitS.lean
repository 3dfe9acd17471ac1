/- Chapter 07: the reference's Set. -/
import Derived.Test.YtmnofoflbhdgjaaBitR
import Derived.Laws.OwnMore
namespace Go.Proofs.Ytmnofoflbhdgjaa
open Go.RowKit
set_option linter.unusedSimpArgs false
set_option linter.unusedVariables false

theorem run_appE {w : World} {g : Nat} (B : Nat) (hB : B ≤ g) (ty : TypeId) (hg : w.heap[g]? = some (.cells #[] 39 (0, 0))) (a : Option Addr) (ps : List PgT) (cap : Nat) (hl : PgSl w a ps) (hn : ps.length ≤ 1000) (hcap : a = none → cap = 0) :
    ∃ v' w', (Builtin.append_ #[49, 49] ty #[.slice (some ⟨g, 0, none⟩) 0 0, .slice a ps.length cap]).run Try.prog w = .ok v' w' ∧ PgRow w' B v' ps ∧ w.grownBy w' (some g) := by
  obtain ⟨i0, hi0, hz1, hz2, hz3⟩ := info_parts Try.infoP
  have hown : w.ownsRow B 39 64 (.slice (some ⟨g, 0, none⟩) 0 0) 0 [] := ⟨rfl, .inr ⟨g, 0, #[], rfl, hB, hg, Nat.le_refl _, Nat.zero_le _, rfl, rfl⟩⟩
  cases a with
  | none =>
    have h0 : ps = [] := by
      cases ps with
      | nil => rfl
      | cons p ps => obtain ⟨x, hx, -⟩ := hl 0 (by simp); cases hx
    subst h0
    obtain rfl := hcap rfl
    exact ⟨_, _, run_append_owned_none (P := Try.prog) (w := w) B 49 ty 39 i0 64 Try.underlying49 hi0 _ 0 [] hown, hown, ⟨rfl, rfl, rfl, Nat.le_refl _, fun _ _ _ => rfl⟩⟩
  | some x =>
    obtain ⟨v', w', hr, h2, h3, -, -⟩ := run_append_own_at (P := Try.prog) w B 49 ty 39 i0 _ 64 64 Try.underlying49 hi0 hz1 hz2 hz3 (by simp [Value.cells]) (by decide) _ 0 [] hown x ps.length cap (rowc ps) (rowc_len ps) (pgSl_cell hl) (rowc_one ps) (by unfold maxLen; omega) (by omega) (by have := lt_of_blk hg; omega)
    rw [Nat.zero_add, List.nil_append] at h2
    exact ⟨v', w', hr, h2, h3⟩
section
variable {ops : Array Oper} {rest : List Oper} {Q : Exit → Act → World → Prop} {tmps : Array Value} {df : List Deferred} {d ty t u : Nat} {ps : String} {af : Array Edge} {gd : Option (Nat × Bool)} {w : World}
theorem ev_append (h : Region.wanted ⟨some d, .call { callee := .builtin .append, args := #[.tmp t, .tmp u], argTypes := #[49, 49] }, ty, ps, af, gd⟩ (yielded ops tmps) = true ∧ ∃ x y v w',
      tmps.getD t undef = x ∧ tmps.getD u undef = y ∧ (Builtin.append_ #[49, 49] ty #[x, y]).run Try.prog w = .ok v w' ∧
      wpList Try.prog ops Q rest (Act.put ⟨tmps, df⟩ (some d) v) w') :
    wpList Try.prog ops Q (⟨some d, .call { callee := .builtin .append, args := #[.tmp t, .tmp u], argTypes := #[49, 49] }, ty, ps, af, gd⟩ :: rest) ⟨tmps, df⟩ w := by
  obtain ⟨hw, x, y, v, w', hx, hy, hr, h⟩ := h
  refine wpl_run hw ?_ h
  have hx' : Act.eval ⟨tmps, df⟩ (.tmp t) = x := hx
  have hy' : Act.eval ⟨tmps, df⟩ (.tmp u) = y := hy
  simp [execOp, resolve, invoke, hx', hy', builtin, hr]
end

theorem newB_same (b k : Nat) (on : Bool) (hb : b < 256) (hk : k < 8) (h : b.testBit k = on) : newB b k on = b := by
  have hall : ((List.range 256).all fun n => (List.range 8).all fun j => newB n j (n.testBit j) == n) = true := by kernel_rfl
  have := List.all_eq_true.1 (List.all_eq_true.1 hall b (List.mem_range.2 hb)) k (List.mem_range.2 hk)
  rw [← h]
  exact beq_iff_eq.1 this
theorem updP_same (p : PgT) (a : Nat) : updP p a (p a).toNat = p := by
  funext k
  unfold updP
  split
  · rename_i h; subst h; simp
  · rfl
theorem setP_same (ps : List PgT) (i : Nat) (on : Bool) (hi : i < 512 * ps.length) (h : bitP ps i = on) : setP ps i on = ps := by
  have hq : i / 512 < ps.length := by omega
  unfold setP setAt
  rw [if_pos (by omega), Int.toNat_natCast, newB_same _ _ _ (UInt8.toNat_lt _) (Nat.mod_lt _ (by decide)) h, updP_same, List.getD_eq_getElem?_getD, List.getElem?_eq_getElem hq, Option.getD_some, List.set_getElem_self]
theorem xor_all : ((List.range 256).all fun n => (List.range 8).all fun k => bits .xor .i64 (n : Int) ((2 ^ k : Nat) : Int) == (newB n k (!n.testBit k) : Int)) = true := by kernel_rfl
theorem xor_new (n k : Nat) (on : Bool) (hn : n < 256) (hk : k < 8) (h : n.testBit k = !on) : bits .xor .i64 (n : Int) ((2 ^ k : Nat) : Int) = (newB n k on : Int) := by
  have := List.all_eq_true.1 (List.all_eq_true.1 xor_all n (List.mem_range.2 hn)) k (List.mem_range.2 hk)
  rw [h, Bool.not_not] at this
  exact beq_iff_eq.1 this
/-- A copy's run. -/
theorem copy_run (a : Option Addr) (ps : List PgT) (cap : Nat) (w : World) (hn : ps.length ≤ 100) (hl : PgSl w a ps) (hcap : a = none → cap = 0) :
    ∃ a1 c1 w1, (Builtin.append_ #[49, 49] 49 #[.slice (some ⟨w.heap.size, 0, none⟩) 0 0, .slice a ps.length cap]).run Try.prog (w.alloc (.cells #[] 39)) = .ok (.slice a1 ps.length c1) w1 ∧ PgRow w1 w.heap.size (.slice a1 ps.length c1) ps ∧ Below w.heap.size w w1 := by
  have hl2 := hl.ext ((Below.refl _ w).alloc (Nat.le_refl _) (.cells #[] 39))
  obtain ⟨v', w1, hr, h2, h3⟩ := run_appE w.heap.size (Nat.le_refl _) 49 (heap_alloc_last w (.cells #[] 39)) a ps cap hl2 (by omega) hcap
  obtain ⟨a1, c1, hv, -⟩ := h2.slice
  subst hv
  exact ⟨a1, c1, w1, hr, h2, ((Below.refl _ w).alloc (Nat.le_refl _) _).grown h3 (by simp) (fun k hk => by cases hk; exact Nat.le_refl _)⟩
set_option maxHeartbeats 2000000 in
set_option maxRecDepth 100000 in
theorem rset_neg (i : Int) (on : Bool) (a : Option Addr) (ps : List PgT) (cap : Nat) (w : World) (hn : ps.length ≤ 100) (hl : PgSl w a ps) (hcap : a = none → cap = 0) (hi : i < 0) :
    Calls Try.prog 31 #[.slice a ps.length cap, .int .i64 i, .bool on] w fun e w' => ∃ v', e = .returned v' ∧ PgRow w' w.heap.size v' ps ∧ Below w.heap.size w w' := by
  obtain ⟨a1, c1, w1, hap, hR, hb⟩ := copy_run a ps cap w hn hl hcap
  have e1 : decide (i < 0) = true := decide_eq_true hi
  have hRH := Lib.hid hR
  clear hR
  go_enter Try.func31, Try.ntmps31
  go_wp2_with (first | ((with_reducible refine ev_append ?_); refine ⟨rfl, _, _, _, _, rfl, rfl, hap, ?_⟩; (simp only [Act.put, List.setIfInBounds_toArray, List.set_cons_succ, List.set_cons_zero])))
  go_ret
  exact ⟨_, rfl, hRH.out, hb⟩
set_option maxHeartbeats 2000000 in
set_option maxRecDepth 100000 in
theorem rset_big (i : Nat) (on : Bool) (a : Option Addr) (ps : List PgT) (cap : Nat) (w : World) (hn : ps.length ≤ 100) (hl : PgSl w a ps) (hcap : a = none → cap = 0) (hi : 512 * ps.length ≤ i) (hi2 : i ≤ 9223372036854775807) :
    Calls Try.prog 31 #[.slice a ps.length cap, .int .i64 i, .bool on] w fun e w' => ∃ v', e = .returned v' ∧ PgRow w' w.heap.size v' ps ∧ Below w.heap.size w w' := by
  obtain ⟨a1, c1, w1, hap, hR, hb⟩ := copy_run a ps cap w hn hl hcap
  have e1 : decide ((i : Int) < 0) = false := decide_eq_false (by omega)
  have e2 : decide ((ps.length : Int) ≤ (i : Int) / 512) = true := decide_eq_true (by omega)
  have hRH := Lib.hid hR
  clear hR
  go_enter Try.func31, Try.ntmps31
  go_wp2_with (first | ((with_reducible refine ev_append ?_); refine ⟨rfl, _, _, _, _, rfl, rfl, hap, ?_⟩; (simp only [Act.put, List.setIfInBounds_toArray, List.set_cons_succ, List.set_cons_zero])))
  go_ret
  exact ⟨_, rfl, hRH.out, hb⟩
set_option maxHeartbeats 2000000 in
set_option maxRecDepth 100000 in
theorem rset_same (i : Nat) (on : Bool) (a : Option Addr) (ps : List PgT) (cap : Nat) (w : World) (hn : ps.length ≤ 100) (hl : PgSl w a ps) (hcap : a = none → cap = 0) (hi : i < 512 * ps.length) (hon : bitP ps i = on) :
    Calls Try.prog 31 #[.slice a ps.length cap, .int .i64 i, .bool on] w fun e w' => ∃ v', e = .returned v' ∧ PgRow w' w.heap.size v' ps ∧ Below w.heap.size w w' := by
  obtain ⟨a1, c1, w1, hap, hR, hb⟩ := copy_run a ps cap w hn hl hcap
  have e1 : decide ((i : Int) < 0) = false := decide_eq_false (by omega)
  have e2 : decide ((ps.length : Int) ≤ (i : Int) / 512) = false := decide_eq_false (by omega)
  have hG := rget_in i a ps cap w1 hn (hl.ext hb) hi
  rw [hon] at hG
  have hRH := Lib.hid hR
  clear hR
  cases on
  all_goals
    go_enter Try.func31, Try.ntmps31
    go_wp2_with (first | ((with_reducible refine ev_append ?_); refine ⟨rfl, _, _, _, _, rfl, rfl, hap, ?_⟩; (simp only [Act.put, List.setIfInBounds_toArray, List.set_cons_succ, List.set_cons_zero])) | (go_at_call 29; refine hG.mono ?_; rintro e w2 ⟨rfl, rfl⟩))
    go_ret
    exact ⟨_, rfl, hRH.out, hb⟩

set_option maxHeartbeats 4000000 in
set_option maxRecDepth 100000 in
theorem rset_diff (i : Nat) (on : Bool) (a : Option Addr) (ps : List PgT) (cap : Nat) (w : World) (hn : ps.length ≤ 100) (hl : PgSl w a ps) (hcap : a = none → cap = 0) (hi : i < 512 * ps.length) (hon : bitP ps i = !on) :
    Calls Try.prog 31 #[.slice a ps.length cap, .int .i64 i, .bool on] w fun e w' => ∃ v', e = .returned v' ∧ PgRow w' w.heap.size v' (setP ps i on) ∧ Below w.heap.size w w' := by
  obtain ⟨a1, c1, w1, hap, hR, hb⟩ := copy_run a ps cap w hn hl hcap
  have e1 : decide ((i : Int) < 0) = false := decide_eq_false (by omega)
  have e2 : decide ((ps.length : Int) ≤ (i : Int) / 512) = false := decide_eq_false (by omega)
  have hG := rget_in i a ps cap w1 hn (hl.ext hb) hi
  rw [hon] at hG
  have hq : i / 512 < ps.length := by omega
  have ha : i % 512 / 8 < 64 := by omega
  have hk8 : i % 8 < 8 := Nat.mod_lt _ (by decide)
  obtain ⟨h, cap', cur, hv, -⟩ := hR.2.resolve_left (fun e => by have := e.2; omega)
  cases hv
  have hcX := cell_row hR hq ha
  have hb0 : ((ps.getD (i / 512) zp) (i % 512 / 8)).toNat < 256 := UInt8.toNat_lt _
  have hX := xor_new _ (i % 8) on hb0 hk8 hon
  have hnl := newB_lt ((ps.getD (i / 512) zp) (i % 512 / 8)).toNat (i % 8) on hb0 hk8
  have eP : setP ps i on = ps.set (i / 512) (updP (ps.getD (i / 512) zp) (i % 512 / 8) (newB ((ps.getD (i / 512) zp) (i % 512 / 8)).toNat (i % 8) on)) := by
    unfold setP
    rw [if_pos (by omega)]
    rfl
  rw [eP]
  generalize newB ((ps.getD (i / 512) zp) (i % 512 / 8)).toNat (i % 8) on = nb at *
  obtain ⟨b0, hb0e⟩ : ∃ b0, ((ps.getD (i / 512) zp) (i % 512 / 8)).toNat = b0 := ⟨_, rfl⟩
  rw [hb0e] at hX hb0 hcX
  clear eP hb0e
  have hRH := Lib.hid hR
  clear hR
  have hpw : ∀ j, j < 8 → (2 : Nat) ^ j ≤ 128 := fun j hj => Nat.le_trans (Nat.pow_le_pow_right (by decide) (by omega : j ≤ 7)) (by decide)
  have hpH := Lib.hid hpw
  clear hpw
  cases on
  all_goals
    go_enter Try.func31, Try.ntmps31
    go_wp2_with (first | ((with_reducible refine ev_append ?_); refine ⟨rfl, _, _, _, _, rfl, rfl, hap, ?_⟩; (simp only [Act.put, List.setIfInBounds_toArray, List.set_cons_succ, List.set_cons_zero])) | (go_at_call 29; refine hG.mono ?_; rintro e w2 ⟨rfl, rfl⟩))
    go_loopw [8, 9] (fun b k wr => ∃ j : Nat, j ≤ i % 8 ∧ k = .int .i64 j ∧ b = .int .i64 ((2 ^ j : Nat) : Int) ∧ wr = w2) (fun _ k _ => i % 8 - (intOf k).toNat)
    case atStart => exact ⟨0, Nat.zero_le _, rfl, by simp, by first | trivial | rfl⟩
    case round =>
      obtain ⟨j, hj, rfl, rfl, rfl⟩ := hrel
      have hle := hpH.out j (by omega)
      have hstep : (2 : Nat) ^ (j + 1) = 2 ^ j * 2 := Nat.pow_succ ..
      generalize hpj : (2 : Nat) ^ j = q at *
      by_cases hlt : j < i % 8
      · go_wp2
        go_roundw
        case rel => exact ⟨j + 1, by omega, by go_num, by rw [hstep]; go_num, by first | trivial | rfl⟩
        case measure => simp [intOf]; omega
      · obtain rfl : j = i % 8 := by omega
        go_wp2
        rw [hpj] at hX
        refine wp_region_rel (S := fun w' => Below wr.heap.size wr w') [38, 39, 40, 41, 42, 43, 44, 45, 46, 47, 48, 49, 50, 51, 52, 53, 54, 55, 56, 57] mixed07 (by kernel_rfl) (by kernel_rfl) (by decide) (by kernel_rfl) (fun _ _ h k => h.trans (k.mono h.size)) (Below.refl _ _).drew ?_
        iterate 20 (refine rel_eq (v := ?_) ?_ ?_; rotate_left; (focus ((simp only [Lay, List.nil_append, List.cons_append, List.setIfInBounds_toArray, List.set_cons_succ, List.set_cons_zero]; intros; rename_i w9 hS hF; simp only [FactsE, List.nil_append, List.cons_append, List.toList_toArray, List.getElem?_cons_succ, List.getElem?_cons_zero] at hF; try (repeat (first | obtain ⟨rfl, hF⟩ := hF | obtain ⟨-, hF⟩ := hF))); refine step_take rfl (of_decide_eq_true rfl) ?_; (have hcq := (hS.cell (cell_lt hcX)).trans hcX); go_wp2_with (first | fail); refine RQ_mk rfl ?_ ?_; (focus exact Below.refl _ _); (focus (first | (simp only [Array.getD_eq_getD_getElem?, List.getElem?_toArray, List.getElem?_cons_succ, List.getElem?_cons_zero, Option.getD_some]; done) | (simp only [Array.getD_eq_getD_getElem?, List.getElem?_toArray, List.getElem?_cons_succ, List.getElem?_cons_zero, Option.getD_some]; rfl) | rfl)))))
        refine rel_end ?_
        (simp only [Lay, List.nil_append, List.cons_append, List.setIfInBounds_toArray, List.set_cons_succ, List.set_cons_zero]; intros; rename_i w9 hS hF; simp only [FactsA, List.nil_append, List.cons_append] at hF; try (repeat (first | obtain ⟨rfl, hF⟩ := hF | obtain ⟨-, hF⟩ := hF)))
        have hR9 := hRH.out.below hS
        have hc9 := (hS.cell (cell_lt hcX)).trans hcX
        have hf9 := frozen_row (o := i / 512 * 64 + i % 512 / 8) hR9
        have hst := row_setCell hR9 hq ha hnl
        have hbw := (hb.trans (hS.mono hb.size)).trans hst.2
        have hRZ := Lib.hid hst.1
        clear hst hR9 hcX hRH
        go_wp2_with (first
          | ((with_reducible refine ev_cellstore hc9 hf9 oU8s ?_); refine ⟨rfl, _, rfl, rfl, rfl, ?_⟩; simp only [Act.put]; refine NoPanic.normal ?_))
        go_ret
        exact ⟨_, rfl, hRZ.out, hbw⟩
theorem rset_is (i : Int) (on : Bool) (a : Option Addr) (ps : List PgT) (cap : Nat) (w : World) (hn : ps.length ≤ 100) (hl : PgSl w a ps) (hcap : a = none → cap = 0) (hi2 : i ≤ 9223372036854775807) :
    Calls Try.prog 31 #[.slice a ps.length cap, .int .i64 i, .bool on] w fun e w' => ∃ v', e = .returned v' ∧ PgRow w' w.heap.size v' (setP ps i on) ∧ Below w.heap.size w w' := by
  by_cases h : 0 ≤ i ∧ i < 512 * (ps.length : Int)
  · obtain ⟨k, rfl⟩ := Int.eq_ofNat_of_zero_le h.1
    by_cases hb : bitP ps k = on
    · rw [setP_same ps k on (by omega) hb]
      exact rset_same k on a ps cap w hn hl hcap (by omega) hb
    · exact rset_diff k on a ps cap w hn hl hcap (by omega) (by revert hb; cases bitP ps k <;> cases on <;> simp)
  · have e : setP ps i on = ps := by unfold setP; rw [if_neg h]
    rw [e]
    by_cases h0 : i < 0
    · exact rset_neg i on a ps cap w hn hl hcap h0
    · obtain ⟨k, rfl⟩ := Int.eq_ofNat_of_zero_le (by omega : 0 ≤ i)
      exact rset_big k on a ps cap w hn hl hcap (by omega) (by omega)
end Go.Proofs.Ytmnofoflbhdgjaa
