/- Chapter 07: same; the law BitsAre, walked. -/
import Derived.Test.YtmnofoflbhdgjaaBitS
namespace Go.Proofs.Ytmnofoflbhdgjaa
open Go.RowKit
set_option linter.unusedSimpArgs false
set_option linter.unusedVariables false

set_option maxHeartbeats 2000000 in
set_option maxRecDepth 100000 in
theorem same_refl (a b : Option Addr) (c1 c2 : Nat) (ps : List PgT) (w : World) (hn : ps.length ≤ 100) (hl1 : PgSl w a ps) (hl2 : PgSl w b ps) :
    Calls Try.prog 30 #[.slice a ps.length c1, .slice b ps.length c2] w fun e w' => e = .returned (.bool true) ∧ Below w.heap.size w w' := by
  go_enter Try.func30, Try.ntmps30
  go_wp2
  go_loopw [13] (fun i wr => ∃ k : Nat, k ≤ ps.length ∧ i = .int .i64 k ∧ Below w.heap.size w wr) (fun i _ => ps.length - (intOf i).toNat)
  case atStart => exact ⟨0, Nat.zero_le _, rfl, Below.refl _ _⟩
  case round =>
    obtain ⟨k, hk, rfl, hbk⟩ := hrel
    by_cases hlt : k < ps.length
    · obtain ⟨x, hx, hat1⟩ := (hl1.ext hbk) k hlt
      obtain ⟨y, hy, hat2⟩ := (hl2.ext hbk) k hlt
      subst hx hy
      have hpe : pgEq ps[k] ps[k] = true := (pgEq_iff _ _).2 fun _ _ => rfl
      generalize ps[k] = p at *
      go_upto_region 6 with fail
      refine wp_region_rel (S := fun w' => Below wr.heap.size wr w') [16, 17, 18, 19, 20, 21, 22, 23, 24] mixed07 (by kernel_rfl) (by kernel_rfl) (by decide) (by kernel_rfl) (fun _ _ h k => h.trans (k.mono h.size)) (Below.refl _ _).drew ?_
      iterate 9 (refine rel_eq (v := ?_) ?_ ?_; rotate_left; (focus ((simp only [Lay, List.nil_append, List.cons_append, List.setIfInBounds_toArray, List.set_cons_succ, List.set_cons_zero]; intros; rename_i w9 hS hF; simp only [FactsE, List.nil_append, List.cons_append, List.toList_toArray, List.getElem?_cons_succ, List.getElem?_cons_zero] at hF; try (repeat (first | obtain ⟨rfl, hF⟩ := hF | obtain ⟨-, hF⟩ := hF))); refine step_take rfl (of_decide_eq_true rfl) ?_; (have hp1 := hat1.ext hS; have hp2 := hat2.ext hS); go_wp2_with (first | ((with_reducible refine pg_load_at ?_); refine ⟨rfl, _, _, rfl, (by first | exact hp1 | exact hp2), ?_⟩; (simp only [Act.put, List.setIfInBounds_toArray, List.set_cons_succ, List.set_cons_zero])) | ((with_reducible refine pg_neq ?_); refine ⟨rfl, _, _, true, rfl, rfl, hpe, ?_⟩; simp only [Act.put, List.setIfInBounds_toArray, List.set_cons_succ, List.set_cons_zero, Bool.not_true])); refine RQ_mk rfl ?_ ?_; (focus exact Below.refl _ _); (focus (first | (simp only [Array.getD_eq_getD_getElem?, List.getElem?_toArray, List.getElem?_cons_succ, List.getElem?_cons_zero, Option.getD_some]; done) | (simp only [Array.getD_eq_getD_getElem?, List.getElem?_toArray, List.getElem?_cons_succ, List.getElem?_cons_zero, Option.getD_some]; rfl) | rfl)))))
      refine rel_end ?_
      (simp only [Lay, List.nil_append, List.cons_append, List.setIfInBounds_toArray, List.set_cons_succ, List.set_cons_zero]; intros; rename_i w9 hS hF; simp only [FactsA, List.nil_append, List.cons_append] at hF; try (repeat (first | obtain ⟨rfl, hF⟩ := hF | obtain ⟨-, hF⟩ := hF)))
      go_wp2
      go_roundw
      case rel => exact ⟨k + 1, by omega, by go_num, hbk.trans (hS.mono hbk.size)⟩
      case measure => simp [intOf]; omega
    · obtain rfl : k = ps.length := by omega
      go_wp2
      go_ret
      exact ⟨rfl, hbk⟩

theorem setP_len (ps : List PgT) (i : Int) (on : Bool) : (setP ps i on).length = ps.length := by
  unfold setP setAt
  split
  · exact List.length_set ..
  · rfl
set_option maxHeartbeats 2000000 in
set_option maxRecDepth 100000 in
theorem bitsAre_small (a : Option Addr) (ps : List PgT) (cap : Nat) (i : Int) (on : Bool) (w : World) (hn : ps.length ≤ 4) (hl : PgSl w a ps) (hcap : a = none → cap = 0) (hi2 : i ≤ 9223372036854775807) :
    Calls Try.prog 7 #[.slice a ps.length cap, .int .i64 i, .bool on] w fun e w' => e = .returned (.bool true) ∧ Below w.heap.size w w' := by
  have e4 : decide ((ps.length : Int) > 4) = false := decide_eq_false (by omega)
  have e5 : decide (4 < (ps.length : Int)) = false := decide_eq_false (by omega)
  have hCR := fun w' hl' => copy_run a ps cap w' (by omega) hl' hcap
  go_enter Try.func7, Try.ntmps7
  go_upto_region 5 with (first
    | (go_at_call 26; refine (awake07 _).mono ?_; rintro e w1 ⟨rfl, hb1⟩))
  obtain ⟨a1, c1, w2, hap, hR, hb2⟩ := hCR w1 (hl.ext hb1)
  have hb := hb1.trans (hb2.mono hb1.size)
  obtain ⟨a2, c2, hv2, -, hs2⟩ := hR.slice
  cases hv2
  have hW := hs2 _ hR
  have hcap1 : a1 = none → c1 = 0 := fun e => by
    subst e
    rcases hR.2 with ⟨hv, -⟩ | ⟨_, _, _, hv, -⟩
    · injection hv
    · cases hv
  clear hCR hs2 hcap
  have hbx := Below.refl w2.heap.size w2
  have hl2 := hl.ext hb
  go_upto_region 7 with (first
    | ((with_reducible refine ev_append ?_); refine ⟨rfl, _, _, _, _, rfl, rfl, hap, ?_⟩; (simp only [Act.put, List.setIfInBounds_toArray, List.set_cons_succ, List.set_cons_zero]))
    | (go_at_call 27; refine (set_is i on a ps cap _ (by omega) hl2).mono ?_; rintro e w3 ⟨v3, rfl, hR3, hb3⟩))
  obtain ⟨a3, c3, hv3, -, hs3⟩ := hR3.slice
  subst hv3
  have hG3 := hs3 _ hR3
  have hl3 := hl2.ext hb3
  have hW3 := hW.ext hb3
  have hbx := hb3
  clear hs3 hR3 hap
  have hGet := get_is i a ps cap w3 (by omega) hl3
  have hRG := fun w' hb' => rget_is i a1 ps c1 w' (by omega) (hW3.ext hb') hi2
  have hRS := fun w' hb' => rset_is i on a1 ps c1 w' (by omega) (hW3.ext hb') hcap1 hi2
  generalize getB ps i = gb at hGet hRG
  clear hcap1 hW hl2 hl hb1 hb2 e4 e5
  cases gb
  all_goals
    have hby := Below.refl w3.heap.size w3
    go_wp2_with (first
      | (go_at_call 28; refine hGet.mono ?_; rintro e w4 ⟨rfl, hb9⟩; replace hby := hby.trans (hb9.mono hby.size))
      | (go_at_call 29; refine (hRG _ hby).mono ?_; rintro e w4 ⟨rfl, rfl⟩)
      | (go_at_call 31; refine (hRS _ hby).mono ?_; rintro e w4 ⟨v4, rfl, hR4, hb9⟩; replace hby := hby.trans (hb9.mono hby.size); obtain ⟨a4, c4, hv4, -, hs4⟩ := hR4.slice; subst hv4; have hG4 := hs4 _ hR4; have hS4 := same_refl a3 a4 c3 c4 (setP ps i on) _ (by rw [setP_len]; omega) (hG3.ext hby) hG4; clear hs4 hR4)
      | (go_at_call 30; refine hS4.mono ?_; clear hS4; rintro e w5 ⟨rfl, hb9⟩; replace hby := hby.trans (hb9.mono hby.size); have hS5 := same_refl a a1 cap c1 ps _ (by omega) (hl3.ext hby) (hW3.ext hby))
      | (go_at_call 30; refine hS5.mono ?_; rintro e w5 ⟨rfl, hb9⟩; replace hby := hby.trans (hb9.mono hby.size)))
    go_ret
    have hz := hb.trans (hbx.mono hb.size)
    exact ⟨rfl, hz.trans (hby.mono hz.size)⟩
set_option maxHeartbeats 2000000 in
set_option maxRecDepth 100000 in
theorem walk_BitsAre (a : Option Addr) (ps : List PgT) (cap : Nat) (i : Int) (on : Bool) (w : World) (hl : PgSl w a ps) (hcap : a = none → cap = 0) (hi2 : i ≤ 9223372036854775807) :
    Calls Try.prog 7 #[.slice a ps.length cap, .int .i64 i, .bool on] w fun e w' => e = .returned (.bool true) ∧ Below w.heap.size w w' := by
  by_cases hn : ps.length ≤ 4
  · exact bitsAre_small a ps cap i on w hn hl hcap hi2
  · have e4 : decide ((ps.length : Int) > 4) = true := decide_eq_true (by omega)
    have e5 : decide (4 < (ps.length : Int)) = true := decide_eq_true (by omega)
    go_enter Try.func7, Try.ntmps7
    go_wp2_with (first
      | (go_at_call 26; refine (awake07 _).mono ?_; rintro e w1 ⟨rfl, hb1⟩))
    go_ret
    exact ⟨rfl, hb1⟩
end Go.Proofs.Ytmnofoflbhdgjaa
