/- Chapter 07: the law BitsTakes, walked. -/
import Derived.Test.YtmnofoflbhdgjaaBitM
import Derived.Test.YtmnofoflbhdgjaaBitG
import Derived.Test.YtmnofoflbhdgjaaU8Sl
import Derived.OpenShut
namespace Go.Proofs.Ytmnofoflbhdgjaa
open Go.RowKit Go.Maps
set_option linter.unusedSimpArgs false
set_option linter.unusedVariables false

theorem wf_small (k : Int) (h : 0 ≤ k ∧ k < 40) : (Lit.int .i64 k).wf = true := by
  simp [Lit.wf, IntKind.min, IntKind.max, IntKind.signed, IntKind.bits]; omega
theorem row_out {w : World} {B : Nat} {v : Value} {ps : List PgT} (h : PgRow w B v ps) (h1 : ps.length = 1) : ∃ g c, v = .slice (some ⟨g, 0, none⟩) 1 c ∧ B ≤ g ∧ PgSl w (some ⟨g, 0, none⟩) ps := by
  obtain ⟨g, c, cur, hv, hR1, -⟩ := h.2.resolve_left (fun e => by have := e.2; omega)
  subst hv
  obtain ⟨a, c2, hv2, -, hs⟩ := h.slice
  cases hv2
  refine ⟨g, c, by rw [h1], hR1, hs _ h⟩
set_option maxHeartbeats 4000000 in
set_option maxRecDepth 100000 in
theorem takes_small (a : Option Addr) (ks : List Int) (cap : Nat) (w : World) (h60 : ks.length ≤ 60) (hl : U8Sl w a ks) (hwf : ∀ z ∈ ks, (Lit.int .u8 z).wf = true) :
    Calls Try.prog 8 #[.slice a ks.length cap] w fun e w' => e = .returned (.bool true) ∧ Below w.heap.size w w' := by
  have e4 : decide ((ks.length : Int) > 60) = false := decide_eq_false (by omega)
  have e5 : decide (60 < (ks.length : Int)) = false := decide_eq_false (by omega)
  go_enter Try.func8, Try.ntmps8
  go_upto_region 5 with (first
    | (go_at_call 26; refine (awake07 _).mono ?_; rintro e w1 ⟨rfl, hb1⟩))
  have hmm := @run_makeMap Try.prog
  go_wp2_with (first
    | ((with_reducible refine pg_build ?_); refine ⟨rfl, ?_⟩; (simp only [Act.put, List.setIfInBounds_toArray, List.set_cons_succ, List.set_cons_zero]))
    | ((with_reducible refine pg_slice1 ?_); refine ⟨rfl, _, rfl, ?_⟩; (simp only [Act.put, List.setIfInBounds_toArray, List.set_cons_succ, List.set_cons_zero])))
  have hSl0 := pgSl_one (heap_alloc_last w1 (.cells (pgc zp) 39))
  have hb2 : Below w.heap.size w (w1.alloc (.cells (pgc zp) 39)) := hb1.alloc hb1.size _
  have hl2 := hl.ext hb2
  have hne0 : w1.heap.size ≠ w1.heap.size + 1 := by omega
  have hwA : (w1.alloc (.cells (pgc zp) 39)).heap.size = w1.heap.size + 1 := by simp
  generalize w1.alloc (.cells (pgc zp) 39) = wA at *
  generalize w1.heap.size = g1 at *
  have hSt0 := (St.start wA).alloc (.map #[] 0)
  rw [hwA] at hSt0
  clear hb1 e4 e5 hmm hl
  go_loopw [20, 3] (fun i l wr => ∃ k : Nat, k ≤ ks.length ∧ i = .int .i64 k ∧ ∃ ps kk h1 c1 o, l = .slice (some ⟨h1, 0, none⟩) 1 c1 ∧ h1 ≠ g1 + 1 ∧ PgSl wr (some ⟨h1, 0, none⟩) ps ∧ Tk ps kk ∧ St wA [(g1 + 1, o)] wr ∧ SeenO o kk) (fun i _ _ => ks.length - (intOf i).toNat)
  case atStart => exact ⟨0, Nat.zero_le _, rfl, _, _, _, _, _, rfl, hne0, hSl0.ext ((Below.refl _ _).alloc (Nat.le_refl _) _), tk_start, hSt0, seen_start⟩
  case round =>
    obtain ⟨k, hk, rfl, ps, kk, h1, c1, o, rfl, hne, hPg, hTk, hSt, hSeen⟩ := hrel
    by_cases hlt : k < ks.length
    · obtain ⟨x, rfl, hc, -⟩ := (hl2.ext hSt.base) k hlt
      have hkb := bounds_u8 (hwf _ (List.getElem_mem hlt))
      have hone := hTk.one
      generalize ks[k] = z at *
      have hF := fun w' hl' => first_is 0 40 (some ⟨h1, 0, none⟩) ps c1 (by omega) w' hl'
      rw [hone] at hF
      by_cases hm : 0 < z % 3
      · have hme : decide (0 < z % 3) = true := decide_eq_true hm
        rcases hTk.first with ⟨h40, hv⟩ | ⟨h40, y, hv, hy, hyn, hyl⟩
        · rw [hv] at hF
          go_wp2_with (first | (go_at_call 32; refine (hF _ hPg).mono ?_; rintro e w3 ⟨rfl, hb3⟩; replace hSt := hSt.ext hb3; replace hPg := hPg.ext hb3) | ((with_reducible refine ev_seenLen hSt ?_); refine ⟨rfl, _, _, _, rfl, (by repeat (first | exact List.mem_cons_self .. | refine List.mem_cons_of_mem _ ?_)), hSeen, ?_⟩; (simp only [Act.put, List.setIfInBounds_toArray, List.set_cons_succ, List.set_cons_zero])))
          go_roundw
          case rel => exact ⟨k + 1, by omega, by go_num, ps, kk, h1, c1, o, rfl, hne, hPg, hTk, hSt, hSeen⟩
          case measure => simp [intOf]; omega
        · rw [hv] at hF
          have hd1 : decide ((y : Int) < 0) = false := decide_eq_false (by omega)
          have hd2 : decide (40 ≤ (y : Int)) = false := decide_eq_false (by omega)
          have hd3 : ((kk.length : Int) == 40) = false := by simpa using fun e => h40 (by omega)
          have hkw := wf_small y ⟨by omega, by omega⟩
          have hcon : kk.contains (y : Int) = false := by
            cases h2 : kk.contains (y : Int)
            · rfl
            · exact absurd (List.contains_iff_mem.1 h2) hyn
          go_upto_region 17 with (first | (go_at_call 32; refine (hF _ hPg).mono ?_; rintro e w3 ⟨rfl, hb3⟩; replace hSt := hSt.ext hb3; replace hPg := hPg.ext hb3) | ((with_reducible refine ev_seenLen hSt ?_); refine ⟨rfl, _, _, _, rfl, (by repeat (first | exact List.mem_cons_self .. | refine List.mem_cons_of_mem _ ?_)), hSeen, ?_⟩; (simp only [Act.put, List.setIfInBounds_toArray, List.set_cons_succ, List.set_cons_zero])) | ((with_reducible refine ev_seenLook hSt ?_); refine ⟨rfl, _, _, _, _, rfl, (by repeat (first | exact List.mem_cons_self .. | refine List.mem_cons_of_mem _ ?_)), hSeen, rfl, hkw, ?_⟩; (simp only [Act.put, List.setIfInBounds_toArray, List.set_cons_succ, List.set_cons_zero]); rw [hcon]))
          go_wp2
          have hTk2 := hTk.put y hy hyn
          have hml : kk.length < maxLen := by have := hTk.le; unfold maxLen; omega
          have hS := fun w' hl' => set_is y true (some ⟨h1, 0, none⟩) ps c1 w' (by omega) hl'
          rw [hone] at hS
          obtain ⟨kk2, hkk2⟩ : ∃ kk2, kk ++ [(y : Int)] = kk2 := ⟨_, rfl⟩
          rw [hkk2] at hTk2
          generalize setP ps y true = ps2 at hTk2 hS
          have hone2 := hTk2.one
          have hC := fun g c w' hl' => count_is 0 512 (some ⟨g, 0, none⟩) ps2 c (by omega) w' hl'
          rw [hTk2.count, hone2] at hC
          clear hF hSl0 hSt0 hcon
          go_loopw [8] (fun i wq => ∃ q : Nat, q ≤ y ∧ i = .int .i64 q ∧ wq = w3) (fun i _ => y - (intOf i).toNat)
          case atStart => exact ⟨0, Nat.zero_le _, rfl, by first | trivial | rfl⟩
          case round =>
            obtain ⟨q, hq, rfl, rfl⟩ := hrel
            by_cases hqy : q < y
            · have hcon : kk.contains (q : Int) = true := List.contains_iff_mem.2 (hyl q hqy)
              have hkw := wf_small q ⟨by omega, by omega⟩
              go_wp2_with (first | ((with_reducible refine ev_seenLook hSt ?_); refine ⟨rfl, _, _, _, _, rfl, (by repeat (first | exact List.mem_cons_self .. | refine List.mem_cons_of_mem _ ?_)), hSeen, rfl, hkw, ?_⟩; (simp only [Act.put, List.setIfInBounds_toArray, List.set_cons_succ, List.set_cons_zero]); rw [hcon]))
              go_roundw
              case rel => exact ⟨q + 1, by omega, by go_num, by first | trivial | rfl⟩
              case measure => simp [intOf]; omega
            · obtain rfl : q = y := by omega
              have hk := hyn
              go_wp2_with (first | ((with_reducible refine ev_seenPut hSt ?_); refine ⟨rfl, _, _, [], [], _, _, rfl, rfl, hSeen, rfl, rfl, hkw, hk, hml, ?_⟩; intro o8 wN hSeen hSt hgr; replace hPg := hPg.grown hne hgr; clear hgr; simp only [List.nil_append] at hSt; rw [hkk2] at hSeen; simp only [Act.put]) | (go_at_call 27; have hlt9 := lt_of_blk (hSt.blk (List.mem_cons_self ..)); refine (hS _ hPg).mono ?_; clear hPg; rintro e w4 ⟨v4, rfl, hR4, hb4⟩; replace hSt := hSt.ext hb4; obtain ⟨h2, c2, rfl, hne2, hPg⟩ := row_out hR4 hone2; clear hR4) | (go_at_call 33; refine (hC _ _ _ hPg).mono ?_; rintro e w5 ⟨rfl, hb5⟩; replace hSt := hSt.ext hb5; replace hPg := hPg.ext hb5) | ((with_reducible refine ev_seenLen hSt ?_); refine ⟨rfl, _, _, _, rfl, (by repeat (first | exact List.mem_cons_self .. | refine List.mem_cons_of_mem _ ?_)), hSeen, ?_⟩; (simp only [Act.put, List.setIfInBounds_toArray, List.set_cons_succ, List.set_cons_zero])))
              go_roundw
              case rel => exact ⟨k + 1, by omega, by go_num, ps2, kk2, h2, c2, o8, rfl, by omega, hPg, hTk2, hSt, hSeen⟩
              case measure => simp [intOf]; omega
      · have hme : decide (0 < z % 3) = false := decide_eq_false hm
        have hz0 : 0 ≤ z / 3 % 40 ∧ z / 3 % 40 < 40 := by omega
        have hkw := wf_small (z / 3 % 40) hz0
        have hTk2 := hTk.del (z / 3 % 40).toNat (by omega)
        rw [Int.toNat_of_nonneg hz0.1] at hTk2
        have hS := fun w' hl' => set_is (z / 3 % 40) false (some ⟨h1, 0, none⟩) ps c1 w' (by omega) hl'
        rw [hone] at hS
        have hnd := hTk.nodup
        obtain ⟨kk2, hkk2⟩ : ∃ kk2, kk.erase (z / 3 % 40) = kk2 := ⟨_, rfl⟩
        rw [hkk2] at hTk2
        generalize setP ps (z / 3 % 40) false = ps2 at hTk2 hS
        have hone2 := hTk2.one
        have hC := fun g c w' hl' => count_is 0 512 (some ⟨g, 0, none⟩) ps2 c (by omega) w' hl'
        rw [hTk2.count, hone2] at hC
        clear hF
        go_wp2_with (first | ((with_reducible refine ev_seenDel hSt ?_); refine ⟨rfl, _, _, [], [], _, _, rfl, rfl, hSeen, rfl, hkw, hnd, ?_⟩; intro o8 wN hSeen hSt hgr; replace hPg := hPg.grown hne hgr; clear hgr; simp only [List.nil_append] at hSt; rw [hkk2] at hSeen; simp only [Act.put]) | (go_at_call 27; have hlt9 := lt_of_blk (hSt.blk (List.mem_cons_self ..)); refine (hS _ hPg).mono ?_; clear hPg; rintro e w4 ⟨v4, rfl, hR4, hb4⟩; replace hSt := hSt.ext hb4; obtain ⟨h2, c2, rfl, hne2, hPg⟩ := row_out hR4 hone2; clear hR4) | (go_at_call 33; refine (hC _ _ _ hPg).mono ?_; rintro e w5 ⟨rfl, hb5⟩; replace hSt := hSt.ext hb5; replace hPg := hPg.ext hb5) | ((with_reducible refine ev_seenLen hSt ?_); refine ⟨rfl, _, _, _, rfl, (by repeat (first | exact List.mem_cons_self .. | refine List.mem_cons_of_mem _ ?_)), hSeen, ?_⟩; (simp only [Act.put, List.setIfInBounds_toArray, List.set_cons_succ, List.set_cons_zero])))
        go_roundw
        case rel => exact ⟨k + 1, by omega, by go_num, ps2, kk2, h2, c2, o8, rfl, by omega, hPg, hTk2, hSt, hSeen⟩
        case measure => simp [intOf]; omega
    · obtain rfl : k = ks.length := by omega
      go_wp2
      go_ret
      exact ⟨rfl, hb2.trans (hSt.base.mono hb2.size)⟩
set_option maxHeartbeats 2000000 in
set_option maxRecDepth 100000 in
theorem walk_BitsTakes (a : Option Addr) (ks : List Int) (cap : Nat) (w : World) (hl : U8Sl w a ks) (hs : ks.length ≤ 140737488355328) (hwf : ∀ z ∈ ks, (Lit.int .u8 z).wf = true) :
    Calls Try.prog 8 #[.slice a ks.length cap] w fun e w' => e = .returned (.bool true) ∧ Below w.heap.size w w' := by
  by_cases hn : ks.length ≤ 60
  · exact takes_small a ks cap w hn hl hwf
  · have e4 : decide ((ks.length : Int) > 60) = true := decide_eq_true (by omega)
    have e5 : decide (60 < (ks.length : Int)) = true := decide_eq_true (by omega)
    go_enter Try.func8, Try.ntmps8
    go_wp2_with (first
      | (go_at_call 26; refine (awake07 _).mono ?_; rintro e w1 ⟨rfl, hb1⟩))
    go_ret
    exact ⟨rfl, hb1⟩
end Go.Proofs.Ytmnofoflbhdgjaa
