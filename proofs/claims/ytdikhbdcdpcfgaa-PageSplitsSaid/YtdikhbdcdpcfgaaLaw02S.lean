/- The law PageSplits, walked. -/
import Derived.Test.YtdikhbdcdpcfgaaSplS
import Derived.Test.YtdikhbdcdpcfgaaLaw02N
namespace Go.Proofs.Ytdikhbdcdpcfgaa
open Go.RowKit
set_option linter.unusedSimpArgs false
set_option linter.unusedVariables false

/-! ### The plain facts -/
theorem pbytes_get (ps : List (Nat → UInt8)) (j : Nat) : (pbytes ps).getD j 0 = if j < 64 * ps.length then (ps.getD (j / 64) zp) (j % 64) else 0 := by
  induction ps generalizing j with
  | nil => simp [pbytes]
  | cons p ps ih =>
    have e : pbytes (p :: ps) = (List.range 64).map p ++ pbytes ps := rfl
    have hl : ((List.range 64).map p).length = 64 := by simp
    rw [e, List.getD_eq_getElem?_getD]
    by_cases h : j < 64
    · rw [List.getElem?_append_left (by rw [hl]; exact h), List.getElem?_map, List.getElem?_range h, if_pos (by simp; omega)]
      rw [Nat.div_eq_of_lt h, Nat.mod_eq_of_lt h]
      rfl
    · rw [List.getElem?_append_right (by rw [hl]; omega), hl, ← List.getD_eq_getElem?_getD, ih]
      have h1 : j / 64 = (j - 64) / 64 + 1 := by omega
      have h2 : j % 64 = (j - 64) % 64 := by omega
      rw [h1, h2, List.length_cons]
      by_cases hlt : j - 64 < 64 * ps.length
      · rw [if_pos hlt, if_pos (by omega)]; rfl
      · rw [if_neg hlt, if_neg (by omega)]

theorem pgsOf_getD (s : ByteArray) (m k : Nat) (hk : k < m) : (pgsOf s m).getD k zp = pgOf s k := by
  rw [pgsOf, List.getD_eq_getElem?_getD, List.getElem?_map, List.getElem?_range hk]; rfl

/-- What Split and Join make of a text: its bytes, and 0s. -/
theorem joined_get (s : ByteArray) (m : Nat) (hm : s.size ≤ 64 * m) (j : Nat) : (pbytes (pgsOf s m)).getD j 0 = s.data.toList.getD j 0 := by
  rw [pbytes_get, pgsOf_len]
  by_cases h : j < 64 * m
  · rw [if_pos h, pgsOf_getD s m (j / 64) (by omega), pgOf, show 64 * (j / 64) + j % 64 = j from by omega]
  · rw [if_neg h, List.getD_eq_getElem?_getD, List.getElem?_eq_none (by rw [Array.length_toList]; show s.size ≤ _; omega)]; rfl

theorem joined_cut (s : ByteArray) (m : Nat) (hm : s.size ≤ 64 * m) : (⟨(pbytes (pgsOf s m)).toArray⟩ : ByteArray).extract 0 s.size = s := by
  refine ByteArray.ext (Array.toList_inj.1 ?_)
  rw [Lib.extract_data, List.drop_zero, Nat.sub_zero]
  have hl : s.data.toList.length = s.size := by rw [Array.length_toList]; rfl
  show (pbytes (pgsOf s m)).take s.size = s.data.toList
  apply List.ext_getElem?
  intro j
  have hg := joined_get s m hm j
  by_cases hj : j < s.size
  · rw [List.getElem?_take_of_lt hj]
    have h1 : j < (pbytes (pgsOf s m)).length := by rw [pbytes_len, pgsOf_len]; omega
    rw [List.getD_eq_getElem?_getD, List.getD_eq_getElem?_getD, List.getElem?_eq_getElem h1, List.getElem?_eq_getElem (by omega)] at hg
    rw [List.getElem?_eq_getElem h1, List.getElem?_eq_getElem (by omega)]
    exact congrArg some hg
  · rw [List.getElem?_eq_none (by rw [List.length_take]; omega), List.getElem?_eq_none (by omega)]

/-- Pages, joined and split again. -/
theorem again_get (ps : List (Nat → UInt8)) (k : Nat) (hk : k < ps.length) : pgEq (pgOf ⟨(pbytes ps).toArray⟩ k) ps[k] = true := by
  rw [pgEq_iff]
  intro i hi
  show (pbytes ps).getD (64 * k + i) 0 = ps[k] i
  rw [pbytes_get, if_pos (by omega), show (64 * k + i) / 64 = k from by omega, show (64 * k + i) % 64 = i from by omega, List.getD_eq_getElem?_getD, List.getElem?_eq_getElem hk]
  rfl

/-- All of the first k bytes are 0. -/
def zeroTo (s : ByteArray) (k : Nat) : Bool := (List.range k).all fun i => s.data.toList.getD i 0 == 0
theorem zeroTo_succ (s : ByteArray) (k : Nat) : zeroTo s (k + 1) = (zeroTo s k && s.data.toList.getD k 0 == 0) := by simp [zeroTo, List.range_succ]
theorem zero_all (s : ByteArray) (m : Nat) (hm : s.size ≤ 64 * m) : allZero (pgsOf s m) = zeroTo s s.size := by
  rw [Bool.eq_iff_iff]
  simp only [allZero, zeroTo, List.all_eq_true, pgEq_iff, pgsOf, List.mem_map, List.mem_range, forall_exists_index, and_imp, beq_iff_eq]
  constructor
  · intro h j hj
    have := h _ (j / 64) (by omega) rfl (j % 64) (by omega)
    rw [pgOf, show 64 * (j / 64) + j % 64 = j from by omega] at this
    exact this
  · intro h p k hk hp i hi
    subst hp
    show pgOf s k i = 0
    rw [pgOf]
    by_cases hj : 64 * k + i < s.size
    · exact h _ hj
    · rw [List.getD_eq_getElem?_getD, List.getElem?_eq_none (by rw [Array.length_toList]; show s.size ≤ _; omega)]; rfl

theorem Try.mixedS : Try.prog.follows .mixedOrders = true := by kernel_rfl
theorem pageJoin_n (a : Option Addr) (ps : List (Nat → UInt8)) (n : Nat) (hn : ps.length = n) (cap : Nat) (w : World) (hl : PgSl w a ps) (h40 : n ≤ 40) :
    Calls Try.prog 39 #[.slice a n cap] w fun e w' => e = .returned (.string ⟨(pbytes ps).toArray⟩) ∧ Below w.heap.size w w' := by
  subst hn; exact pageJoin a ps cap w hl h40
theorem pageZero_n (a : Option Addr) (ps : List (Nat → UInt8)) (n : Nat) (hn : ps.length = n) (cap : Nat) (w : World) (hl : PgSl w a ps) (h40 : n ≤ 40) :
    Calls Try.prog 40 #[.slice a n cap] w fun e w' => e = .returned (.bool (allZero ps)) ∧ Below w.heap.size w w' := by
  subst hn; exact pageZero a ps cap w hl h40

set_option maxHeartbeats 800000 in
set_option maxRecDepth 100000 in
theorem walk_PageSplits (s : ByteArray) (a : Option Addr) (ps : List (Nat → UInt8)) (cap : Nat) (w : World) (hs : s.size ≤ 9223372036854775807) (hl : PgSl w a ps) (hn : ps.length ≤ 9223372036854775807) :
    Calls Try.prog 11 #[.string s, .slice a ps.length cap] w fun e w' => e = .returned (.bool true) ∧ Below w.heap.size w w' := by
  by_cases c1 : 2000 < s.size
  · have e1 : decide ((s.size : Int) > 2000) = true := decide_eq_true (by omega)
    have e2 : decide (2000 < s.size) = true := decide_eq_true c1
    go_enter Try.func11, Try.ntmps11
    go_wp2_with (go_at_call 14; refine (awake02 _).mono ?_; rintro e w1 ⟨rfl, hb1⟩)
    go_ret
    exact ⟨rfl, hb1⟩
  have e1 : decide ((s.size : Int) > 2000) = false := decide_eq_false (by omega)
  have e2 : decide (2000 < s.size) = false := decide_eq_false c1
  by_cases c2 : 40 < ps.length
  · have e3 : decide ((ps.length : Int) > 40) = true := decide_eq_true (by omega)
    have e4 : decide (40 < ps.length) = true := decide_eq_true c2
    go_enter Try.func11, Try.ntmps11
    go_wp2_with (go_at_call 14; refine (awake02 _).mono ?_; rintro e w1 ⟨rfl, hb1⟩)
    go_ret
    exact ⟨rfl, hb1⟩
  have e3 : decide ((ps.length : Int) > 40) = false := decide_eq_false (by omega)
  have e4 : decide (40 < ps.length) = false := decide_eq_false c2
  obtain ⟨m, hm⟩ : ∃ m, (s.size + 63) / 64 = m := ⟨_, rfl⟩
  have hsm : s.size ≤ 64 * m := by omega
  have hm40 : m ≤ 40 := by omega
  have hdiv : ((s.size : Int) + 63).tdiv 64 = (m : Int) := by rw [Int.tdiv_eq_ediv_of_nonneg (by omega)]; omega
  have hcut := joined_cut s m hsm
  have hget := joined_get s m hsm
  have hJ := fun (ga : Option Addr) (gcap : Nat) (w : World) (hl : PgSl w ga (pgsOf s m)) => pageJoin_n ga (pgsOf s m) m (pgsOf_len s m) gcap w hl hm40
  have hAsz : (⟨(pbytes (pgsOf s m)).toArray⟩ : ByteArray).size = 64 * m := by show (pbytes (pgsOf s m)).length = _; rw [pbytes_len, pgsOf_len]
  have hAget : ∀ i, (⟨(pbytes (pgsOf s m)).toArray⟩ : ByteArray).data.toList.getD i 0 = s.data.toList.getD i 0 := hget
  clear hget
  generalize (⟨(pbytes (pgsOf s m)).toArray⟩ : ByteArray) = A at hcut hJ hAsz hAget
  have hS := fun (w : World) => pageSplit s w (by omega)
  rw [hm] at hS
  have hZ0 := zero_all s m hsm
  have hZc := fun (ga : Option Addr) (gcap : Nat) (w : World) (hl : PgSl w ga (pgsOf s m)) => pageZero_n ga (pgsOf s m) m (pgsOf_len s m) gcap w hl hm40
  rw [hZ0] at hZc
  clear hZ0
  have HM := Lib.hid (And.intro hm hsm); clear hm hsm
  have hJ2 := fun (w : World) (hl : PgSl w a ps) => pageJoin a ps cap w hl (by omega)
  have hag := again_get ps
  have hB2 : (⟨(pbytes ps).toArray⟩ : ByteArray).size = 64 * ps.length := by show (pbytes ps).length = _; exact pbytes_len ps
  generalize (⟨(pbytes ps).toArray⟩ : ByteArray) = B at hJ2 hag hB2
  have hS2 := fun (w : World) => pageSplit B w (by omega)
  rw [show (B.size + 63) / 64 = ps.length from by omega] at hS2
  clear hB2
  go_enter Try.func11, Try.ntmps11
  go_wp2_with (first
    | (go_at_call 14; refine (awake02 _).mono ?_; rintro e w1 ⟨rfl, hb1⟩)
    | (go_at_call 38; with_reducible refine (hS _).mono ?_; rintro e w2 ⟨v, rfl, hrow, hb2⟩; obtain ⟨ga, gcap, hv, hgc, hgsl⟩ := hrow.slice; rw [pgsOf_len] at hv hgc; subst hv; replace hgsl := hgsl _ hrow)
    | (go_at_call 39; with_reducible refine (hJ _ _ _ hgsl).mono ?_; rintro e w3 ⟨rfl, hb3⟩))
  rotate_left
  · exfalso; have := HM.out.2; omega
  have hb13 := (hb1.trans (hb2.mono hb1.size)).trans (hb3.mono (Nat.le_trans hb1.size hb2.size))
  go_loopw [8] (fun i wr => ∃ k : Nat, i = .int .i64 k ∧ s.size ≤ k ∧ k ≤ 64 * m ∧ wr = w3) (fun i _ => 64 * m - (intOf i).toNat)
  case atStart => exact ⟨s.size, rfl, Nat.le_refl _, HM.out.2, rfl⟩
  case round =>
    obtain ⟨k, rfl, hk1, hk2, rfl⟩ := hrel
    by_cases h : k < 64 * m
    · have hlt : (k : Int) < 64 * m := by omega
      have hz : A.data.toList.getD k 0 = 0 := by
        rw [hAget, List.getD_eq_getElem?_getD, List.getElem?_eq_none (by rw [Array.length_toList]; exact hk1)]; rfl
      have hz' : A[k]'(by rw [hAsz]; exact h) = 0 := by
        have hlk : k < A.data.toList.length := by rw [Array.length_toList]; show k < A.size; omega
        rw [List.getD_eq_getElem?_getD, List.getElem?_eq_getElem hlk] at hz
        exact hz
      clear hz
      go_wp2
      refine ⟨⟨k + 1, by simp, by omega, by omega, trivial⟩, by simp only [intOf]; omega⟩
    · have hlt : ¬ (k : Int) < 64 * m := by omega
      obtain rfl : k = 64 * m := by omega
      go_wp2
      clear hlt hk1 hk2 h hcut hAget hAsz hJ
      go_loopw [7, 9] (fun z i wq => ∃ k : Nat, i = .int .i64 k ∧ k ≤ s.size ∧ z = .bool (zeroTo s k) ∧ wq = wr) (fun _ i _ => s.size - (intOf i).toNat)
      case atStart => exact ⟨0, rfl, Nat.zero_le _, rfl, rfl⟩
      case round =>
        obtain ⟨k, rfl, hk, rfl, rfl⟩ := hrel
        by_cases h : k < s.size
        · have hlt : (k : Int) < s.size := by omega
          have hzs := zeroTo_succ s k
          have hb0 : s.data.toList.getD k 0 = s[k]'h := by
            have hlk : k < s.data.toList.length := by rw [Array.length_toList]; exact h
            rw [List.getD_eq_getElem?_getD, List.getElem?_eq_getElem hlk]; rfl
          rw [hb0] at hzs
          cases hzk : zeroTo s k
          · rw [hzk, Bool.false_and] at hzs
            go_wp2
            refine ⟨⟨k + 1, by simp, by omega, by rw [hzs], trivial⟩, by simp only [intOf]; omega⟩
          · rw [hzk, Bool.true_and] at hzs
            go_wp2
            refine ⟨⟨k + 1, by simp, by omega, ?_, trivial⟩, by simp only [intOf]; omega⟩
            rw [hzs]
            congr 1
            rw [Bool.eq_iff_iff, beq_iff_eq, beq_iff_eq]
            constructor
            · intro hh
              exact UInt8.toNat_inj.1 (by simpa using hh)
            · intro hh; rw [hh]; rfl
        · have hlt : ¬ (k : Int) < s.size := by omega
          obtain rfl : k = s.size := by omega
          obtain ⟨Z, hZ⟩ : ∃ Z, zeroTo s s.size = Z := ⟨_, rfl⟩
          rw [hZ] at hZc ⊢
          have hlW := hl.ext hb13
          go_wp2_with (first
            | (go_at_call 39; with_reducible refine (hJ2 _ hlW).mono ?_; rintro e w4 ⟨rfl, hb4⟩)
            | (go_at_call 38; with_reducible refine (hS2 _).mono ?_; rintro e w5 ⟨v, rfl, hrow2, hb5⟩; obtain ⟨g2, gcap2, hv, hgc2, hgsl2⟩ := hrow2.slice; rw [pgsOf_len] at hv hgc2; subst hv; replace hgsl2 := hgsl2 _ hrow2))
          have hb45 := hb4.trans (hb5.mono hb4.size)
          have hgslW := (hgsl.ext hb3).ext hb45
          have hlW5 := hlW.ext hb45
          have hbW := hb13.trans (hb45.mono hb13.size)
          clear hgsl hlW hl hJ2 hS2 hS hb13 hb45 hZ hrow hrow2
          go_loopw [79] (fun i wq => ∃ k : Nat, i = .int .i64 k ∧ k ≤ ps.length ∧ Below w5.heap.size w5 wq) (fun i _ => ps.length - (intOf i).toNat)
          case atStart => exact ⟨0, rfl, Nat.zero_le _, Below.refl _ _⟩
          case round =>
            obtain ⟨k, rfl, hk, hbq⟩ := hrel
            by_cases h : k < ps.length
            · have hlt : (k : Int) < ps.length := by omega
              have hge : decide ((k : Int) ≥ ps.length) = false := decide_eq_false (by omega)
              have hge2 : decide ((ps.length : Int) ≤ k) = false := decide_eq_false (by omega)
              have hge3 : decide (ps.length ≤ k) = false := decide_eq_false (by omega)
              obtain ⟨x1, rfl, hc1⟩ := (hgsl2.ext hbq) k (by rw [pgsOf_len]; exact h)
              obtain ⟨x2, rfl, hc2⟩ := (hlW5.ext hbq) k h
              have hpe := hag k h
              have e : (pgsOf B ps.length)[k]'(by rw [pgsOf_len]; exact h) = pgOf B k := by simp [pgsOf]
              rw [e] at hc1
              generalize pgOf B k = p1 at hc1 hpe
              generalize ps[k] = p2 at hc2 hpe
              clear e hag hgslW hgsl2 hlW5
              go_wp2
              refine wp_region_seq (S := fun w' => Below wr.heap.size wr w') Try.mixedS (by kernel_rfl) (by kernel_rfl) (Below.refl _ _).drew ?_
              iterate 15 (refine seq_take (v := ?_) rfl (of_decide_eq_true rfl) (fun w9 hS => ?_) ?_; rotate_left; (focus (have hq1 := hc1.ext hS; have hq2 := hc2.ext hS; go_wp2_with (first | ((with_reducible refine pg_load_at ?_); refine ⟨rfl, _, _, rfl, hq1, ?_⟩; (simp only [Act.put, List.setIfInBounds_toArray, List.set_cons_succ, List.set_cons_zero])) | ((with_reducible refine pg_load_at ?_); refine ⟨rfl, _, _, rfl, hq2, ?_⟩; (simp only [Act.put, List.setIfInBounds_toArray, List.set_cons_succ, List.set_cons_zero])) | ((with_reducible refine pg_neq ?_); refine ⟨rfl, _, _, _, rfl, rfl, by first | with_reducible assumption | rfl, ?_⟩; simp only [Act.put, List.setIfInBounds_toArray, List.set_cons_succ, List.set_cons_zero, Bool.not_true, Bool.not_false])); refine VQ_mk ?_ rfl ?_; (focus rfl); exact hS)); (simp only [Act.put, List.setIfInBounds_toArray, List.set_cons_succ, List.set_cons_zero, Array.getD_eq_getD_getElem?, List.getElem?_toArray, List.getElem?_cons_succ, List.getElem?_cons_zero, Option.getD_some]))
              refine seq_nil fun wz hS => ?_
              go_wp2
              refine ⟨⟨k + 1, by simp, by omega, hbq.trans (hS.mono hbq.size)⟩, by simp only [intOf]; omega⟩
            · have hlt : ¬ (k : Int) < ps.length := by omega
              obtain rfl : k = ps.length := by omega
              go_wp2_with (go_at_call 40; with_reducible refine (hZc _ _ _ (hgslW.ext hbq)).mono ?_; rintro e w6 ⟨rfl, hb6⟩)
              go_ret
              refine ⟨?_, (hbW.trans (hbq.mono hbW.size)).trans (hb6.mono (Nat.le_trans hbW.size hbq.size))⟩
              rfl
end Go.Proofs.Ytdikhbdcdpcfgaa
