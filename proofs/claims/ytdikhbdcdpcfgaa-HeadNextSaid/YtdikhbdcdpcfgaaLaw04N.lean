/- The walk of HeadNext. -/
import Derived.Test.YtdikhbdcdpcfgaaHdSl
import Derived.Test.YtdikhbdcdpcfgaaLaw04P
namespace Go.Proofs.Ytdikhbdcdpcfgaa
open Go.RowKit
set_option linter.unusedSimpArgs false
set_option linter.unusedVariables false

theorem page_new (w : World) (p : Nat → UInt8) : ∀ j u, (pgc p).toList[j]? = some u → (w.alloc (.cells (pgc p) 23)).cell? ((⟨w.heap.size, 0, none⟩ : Addr).add j) = some u := by
  intro j u h
  rw [Addr.add_mid, cell_of_row _ _ _ _ _ _ (heap_alloc_last w _), Nat.zero_add]
  simpa using h
theorem page_one (p : Nat → UInt8) (u : Value) (h : u ∈ (pgc p).toList) : u.oneCell' = true := by
  have := pgc_one p
  rw [Array.all_eq_true'] at this
  exact this u (by simpa using h)
theorem pgAt_of {w : World} {x : Addr} {qs : List (Nat → UInt8)} (h : PgSl w (some x) qs) (j : Nat) (hj : j < qs.length) : PgAt w (x.add (j * 64)) qs[j] := by
  obtain ⟨x', hx, h'⟩ := h j hj
  cases hx
  exact h'
theorem row_apart {w2 wr : World} {B : Nat} {v v2 : Value} {qs ts : List (Nat → UInt8)} (h : PgRow w2 B v qs) (h3 : PgRow wr w2.heap.size v2 ts) : v.ownBlock = none ∨ v.ownBlock ≠ v2.ownBlock := by
  cases hb : v.ownBlock with
  | none => exact .inl rfl
  | some g =>
    refine .inr fun e => ?_
    have h1 := (h.lt g hb).2
    have h2 := (h3.lt g e.symm).1
    omega
theorem next_len {a : Option Addr} {ps : List (Nat → UInt8)} {n cap : Nat} {w : World} (hn : ps.length = n) (hl : PgSl w a ps) (hs : ps.length ≤ 9223372036854775807) :
    Calls Try.prog 36 #[.slice a n cap] w fun e w' => e = .returned (.int .i64 (nxs ps)) ∧ Below w.heap.size w w' := by
  subst hn; exact next_any a ps cap w hl hs
theorem encode_at {hd : HdT} {r : Bool} (hr : hRight hd.1 hd.2.1 hd.2.2.1 hd.2.2.2 = r) (hs : 0 ≤ hd.2.2.2 ∧ hd.2.2.2 < 4294967296) (w : World) :
    Calls Try.prog 30 #[.agg (hdv hd)] w fun e w' => e = .returned (.tuple #[.agg (pgc (if r then hPut hd.1 hd.2.1 hd.2.2.1 hd.2.2.2 else zp)), .int .i64 (if r then 0 else 22)]) ∧ Below w.heap.size w w' := by
  cases r with
  | true => exact encode_good hr hs w
  | false => exact encode_bad hr hs w

set_option maxRecDepth 100000 in
set_option maxHeartbeats 1600000 in
theorem walk_HeadNext (a : Option Addr) (hs : List HdT) (cap : Nat) (t : Int) (w : World) (hl : HdSl w a hs) (hlen : hs.length ≤ 281474976710656) (hb : ∀ h ∈ hs, 0 ≤ h.2.2.2 ∧ h.2.2.2 < 4294967296) (ht : 0 ≤ t ∧ t ≤ 255) :
    Calls Try.prog 10 #[.slice a hs.length cap, .int .u8 t] w fun e w' => e = .returned (.bool true) ∧ Below w.heap.size w w' := by
  obtain ⟨tn, rfl⟩ := Int.eq_ofNat_of_zero_le ht.1
  obtain ⟨i0, hi0, hz0⟩ := Option.map_eq_some_iff.1 Try.infoP
  simp only [Prod.mk.injEq] at hz0
  obtain ⟨hz1, hz2, hz3⟩ := hz0
  by_cases c30 : 30 < hs.length
  · go_enter Try.func10, Try.ntmps10
    go_wp2_with (go_at_call 29; refine (awake04 _).mono ?_; rintro e w8 ⟨rfl, hb9⟩)
    go_ret
    exact ⟨rfl, hb9⟩
  go_enter Try.func10, Try.ntmps10
  go_wp2_with (go_at_call 29; refine (awake04 _).mono ?_; rintro e w8 ⟨rfl, hb9⟩)
  go_loopw [22, 5] (fun i v wr => ∃ k : Nat, k ≤ hs.length ∧ i = .int .i64 k ∧ Below w.heap.size w wr ∧ PgRow wr w.heap.size v (encs (hs.take k))) (fun i _ _ => hs.length - (intOf i).toNat)
  case atStart => exact ⟨0, Nat.zero_le _, rfl, hb9, World.ownsRow_nil _ _ _ _⟩
  case round =>
    obtain ⟨k, hk, rfl, hbr, hown⟩ := hrel
    by_cases hlt : k < hs.length
    · obtain ⟨x, rfl, hc⟩ := (hl.ext hbr) k hlt
      have hsn := take_snocH hs k hlt
      have hes := encs_snoc (hs.take k) hs[k]
      rw [← hsn] at hes
      have hel := encs_len (hs.take k)
      have hel2 : (encs (hs.take k)).length ≤ 30 := by rw [List.length_take] at hel; omega
      have hb32 := hb hs[k] (List.getElem_mem hlt)
      have hbz := hbr.size
      clear hsn
      generalize hs[k] = hd at hc hes hb32
      obtain ⟨q, l, c, s⟩ := hd
      simp only at hes hb32
      have hSt := St.start wr
      cases hr : hRight q l c s with
      | true =>
        rw [hr, if_pos rfl] at hes
        have hen := fun w => encode_at (hd := (q, l, c, s)) hr hb32 w
        simp only [if_true, hdv] at hen
        go_wp2_with (first | ((with_reducible refine hd_load_at ?_); refine ⟨rfl, _, _, rfl, hc, ?_⟩; (simp only [Act.put, List.setIfInBounds_toArray, List.set_cons_succ, List.set_cons_zero]); simp only [hdv]) | ((with_reducible refine pg_build ?_); refine ⟨rfl, ?_⟩; (simp only [Act.put, List.setIfInBounds_toArray, List.set_cons_succ, List.set_cons_zero])) | ((with_reducible refine ev_box hSt ?_); refine ⟨rfl, _, rfl, ?_⟩; intro gN wN hSt; (simp only [Act.put, List.setIfInBounds_toArray, List.set_cons_succ, List.set_cons_zero])) | ((with_reducible refine ev_alloc hSt (by first | exact zPg | exact zHd | exact zHr | exact zX1 | exact zX2) ?_); refine ⟨rfl, ?_⟩; intro gN wN hSt; (simp only [Act.put, List.setIfInBounds_toArray, List.set_cons_succ, List.set_cons_zero])) | ((with_reducible refine ev_load hSt (by first | exact aPg | exact aHd | exact aHr | exact aX1 | exact aX2) ?_); refine ⟨rfl, _, _, _, rfl, (by repeat (first | exact List.mem_cons_self .. | refine List.mem_cons_of_mem _ ?_)), (by first | exact pgc_size _ | exact nc_size _ _ | rfl), ?_⟩; (simp only [Act.put, List.setIfInBounds_toArray, List.set_cons_succ, List.set_cons_zero])) | ((with_reducible refine ev_load1 hSt (by first | exact oInt | exact oBool | exact oU32 | exact oU8) ?_); refine ⟨rfl, _, _, _, _, _, rfl, (by repeat (first | exact List.mem_cons_self .. | refine List.mem_cons_of_mem _ ?_)), (by first | rfl | exact pgc_get _ _ (by first | decide | omega) | exact nc_get _ _ _ (by first | decide | omega)), ?_⟩; (simp only [Act.put, List.setIfInBounds_toArray, List.set_cons_succ, List.set_cons_zero])) | ((with_reducible refine ev_store hSt (by first | exact aPg | exact aHd | exact aHr | exact aX1 | exact aX2) ?_); (first | refine ⟨rfl, _, [], _, _, _, rfl, rfl, rfl, (by first | exact pgc_size _ | exact nc_size _ _ | rfl), (by first | exact pgc_size _ | exact nc_size _ _ | rfl), (by first | exact pgc_one _ | exact nc_one _ _ | (simp [Value.oneCell']; done) | rfl), ?_⟩ | refine ⟨rfl, _, [_], _, _, _, rfl, rfl, rfl, (by first | exact pgc_size _ | exact nc_size _ _ | rfl), (by first | exact pgc_size _ | exact nc_size _ _ | rfl), (by first | exact pgc_one _ | exact nc_one _ _ | (simp [Value.oneCell']; done) | rfl), ?_⟩ | refine ⟨rfl, _, [_, _], _, _, _, rfl, rfl, rfl, (by first | exact pgc_size _ | exact nc_size _ _ | rfl), (by first | exact pgc_size _ | exact nc_size _ _ | rfl), (by first | exact pgc_one _ | exact nc_one _ _ | (simp [Value.oneCell']; done) | rfl), ?_⟩ | refine ⟨rfl, _, [_, _, _], _, _, _, rfl, rfl, rfl, (by first | exact pgc_size _ | exact nc_size _ _ | rfl), (by first | exact pgc_size _ | exact nc_size _ _ | rfl), (by first | exact pgc_one _ | exact nc_one _ _ | (simp [Value.oneCell']; done) | rfl), ?_⟩ | refine ⟨rfl, _, [_, _, _, _], _, _, _, rfl, rfl, rfl, (by first | exact pgc_size _ | exact nc_size _ _ | rfl), (by first | exact pgc_size _ | exact nc_size _ _ | rfl), (by first | exact pgc_one _ | exact nc_one _ _ | (simp [Value.oneCell']; done) | rfl), ?_⟩); intro wN hSt; simp only [List.nil_append, List.cons_append] at hSt; simp only [Act.put]) | ((with_reducible refine pg_slice1 ?_); refine ⟨rfl, _, rfl, ?_⟩; (simp only [Act.put, List.setIfInBounds_toArray, List.set_cons_succ, List.set_cons_zero])) | (go_at_call 30; refine (hen _).mono ?_; rintro e w8 ⟨rfl, hb9⟩; replace hSt := hSt.ext hb9) | (at_builtin; refine wpList_append_own_at _ rfl _ _ 59 rfl w.heap.size 23 i0 _ 64 64 Try.underlying59 hi0 hz1 hz2 hz3 rfl (by decide) _ _ _ rfl ((PgRow.below hown hSt.base).alloc _) _ 1 1 (pgc (hPut q l c s)).toList rfl (by rw [Array.length_toList, pgc_size]) (page_new _ _) (fun u hu => page_one _ u hu) (by unfold maxLen; omega) (by omega) (Nat.le_trans hbz (Nat.le_trans hSt.base.size (by simp))) ?_; intro v' w1 hown' hgrow hnil hloc))
        go_roundw
        case rel =>
          have hb2 := (hbr.trans (hSt.base.mono hbz)).alloc (Nat.le_trans hbz hSt.base.size) (.cells (pgc (hPut q l c s)) 23)
          refine ⟨k + 1, by omega, by go_num, hb2.grown hgrow hb2.size (fun j hj => (hown.lt j hj).1), ?_⟩
          unfold PgRow
          rw [hes, rowc_snoc, List.length_append]
          exact hown'
        case measure => simp [intOf]; omega
      | false =>
        rw [hr, if_neg (by decide)] at hes
        have hen := fun w => encode_at (hd := (q, l, c, s)) hr hb32 w
        simp only [Bool.false_eq_true, if_false, hdv] at hen
        go_wp2_with (first | ((with_reducible refine hd_load_at ?_); refine ⟨rfl, _, _, rfl, hc, ?_⟩; (simp only [Act.put, List.setIfInBounds_toArray, List.set_cons_succ, List.set_cons_zero]); simp only [hdv]) | ((with_reducible refine pg_build ?_); refine ⟨rfl, ?_⟩; (simp only [Act.put, List.setIfInBounds_toArray, List.set_cons_succ, List.set_cons_zero])) | ((with_reducible refine ev_box hSt ?_); refine ⟨rfl, _, rfl, ?_⟩; intro gN wN hSt; (simp only [Act.put, List.setIfInBounds_toArray, List.set_cons_succ, List.set_cons_zero])) | ((with_reducible refine ev_alloc hSt (by first | exact zPg | exact zHd | exact zHr | exact zX1 | exact zX2) ?_); refine ⟨rfl, ?_⟩; intro gN wN hSt; (simp only [Act.put, List.setIfInBounds_toArray, List.set_cons_succ, List.set_cons_zero])) | ((with_reducible refine ev_load hSt (by first | exact aPg | exact aHd | exact aHr | exact aX1 | exact aX2) ?_); refine ⟨rfl, _, _, _, rfl, (by repeat (first | exact List.mem_cons_self .. | refine List.mem_cons_of_mem _ ?_)), (by first | exact pgc_size _ | exact nc_size _ _ | rfl), ?_⟩; (simp only [Act.put, List.setIfInBounds_toArray, List.set_cons_succ, List.set_cons_zero])) | ((with_reducible refine ev_load1 hSt (by first | exact oInt | exact oBool | exact oU32 | exact oU8) ?_); refine ⟨rfl, _, _, _, _, _, rfl, (by repeat (first | exact List.mem_cons_self .. | refine List.mem_cons_of_mem _ ?_)), (by first | rfl | exact pgc_get _ _ (by first | decide | omega) | exact nc_get _ _ _ (by first | decide | omega)), ?_⟩; (simp only [Act.put, List.setIfInBounds_toArray, List.set_cons_succ, List.set_cons_zero])) | ((with_reducible refine ev_store hSt (by first | exact aPg | exact aHd | exact aHr | exact aX1 | exact aX2) ?_); (first | refine ⟨rfl, _, [], _, _, _, rfl, rfl, rfl, (by first | exact pgc_size _ | exact nc_size _ _ | rfl), (by first | exact pgc_size _ | exact nc_size _ _ | rfl), (by first | exact pgc_one _ | exact nc_one _ _ | (simp [Value.oneCell']; done) | rfl), ?_⟩ | refine ⟨rfl, _, [_], _, _, _, rfl, rfl, rfl, (by first | exact pgc_size _ | exact nc_size _ _ | rfl), (by first | exact pgc_size _ | exact nc_size _ _ | rfl), (by first | exact pgc_one _ | exact nc_one _ _ | (simp [Value.oneCell']; done) | rfl), ?_⟩ | refine ⟨rfl, _, [_, _], _, _, _, rfl, rfl, rfl, (by first | exact pgc_size _ | exact nc_size _ _ | rfl), (by first | exact pgc_size _ | exact nc_size _ _ | rfl), (by first | exact pgc_one _ | exact nc_one _ _ | (simp [Value.oneCell']; done) | rfl), ?_⟩ | refine ⟨rfl, _, [_, _, _], _, _, _, rfl, rfl, rfl, (by first | exact pgc_size _ | exact nc_size _ _ | rfl), (by first | exact pgc_size _ | exact nc_size _ _ | rfl), (by first | exact pgc_one _ | exact nc_one _ _ | (simp [Value.oneCell']; done) | rfl), ?_⟩ | refine ⟨rfl, _, [_, _, _, _], _, _, _, rfl, rfl, rfl, (by first | exact pgc_size _ | exact nc_size _ _ | rfl), (by first | exact pgc_size _ | exact nc_size _ _ | rfl), (by first | exact pgc_one _ | exact nc_one _ _ | (simp [Value.oneCell']; done) | rfl), ?_⟩); intro wN hSt; simp only [List.nil_append, List.cons_append] at hSt; simp only [Act.put]) | (go_at_call 30; refine (hen _).mono ?_; rintro e w8 ⟨rfl, hb9⟩; replace hSt := hSt.ext hb9))
        go_roundw
        case rel => exact ⟨k + 1, by omega, by go_num, hbr.trans (hSt.base.mono hbz), by rw [hes]; exact PgRow.below hown hSt.base⟩
        case measure => simp [intOf]; omega
    · obtain rfl : k = hs.length := by omega
      rw [List.take_length] at hown
      have hqb := fun p hp => encs_mem (hs := hs) hb (p := p) hp
      have hql := encs_len hs
      generalize encs hs = qs at hown hqb hql
      have hql2 : qs.length ≤ 30 := by omega
      have hnb := nxs_bd qs
      have hbz := hbr.size
      obtain ⟨pa, pc, hv, hpc1, hpsl⟩ := hown.slice
      have hown1 := hown
      subst hv
      have hps := hpsl wr hown
      go_wp2_with (go_at_call 36; refine (next_any pa qs pc _ hps (by omega)).mono ?_; rintro e w2 ⟨rfl, hb2⟩)
      have hown2 := PgRow.below hown hb2
      have hbr2 := hbr.trans (hb2.mono hbz)
      clear hps hown hb2 hbz hown1
      go_loopw [42, 6] (fun i v wr => ∃ k : Nat, k ≤ qs.length ∧ i = .int .i64 k ∧ Below w.heap.size w wr ∧ w2.heap.size ≤ wr.heap.size ∧ PgRow wr w.heap.size (.slice pa qs.length pc) qs ∧ PgRow wr w2.heap.size v (turn qs tn k)) (fun i _ _ => qs.length - (intOf i).toNat)
      case atStart => exact ⟨0, Nat.zero_le _, rfl, hbr2, Nat.le_refl _, hown2, World.ownsRow_nil _ _ _ _⟩
      case round =>
        obtain ⟨k, hk, rfl, hbk, hw2, hown, hownT⟩ := hrel
        by_cases hlt : k < qs.length
        · have et : True → wrap64 (tn : Int) = (tn : Int) := fun _ => by unfold wrap64; omega
          have ek : True → wrap64 ((k : Int) + (tn : Int)) = (k : Int) + (tn : Int) := fun _ => by clear et; unfold wrap64; omega
          have hk30 : (qs.take k).length = k := by rw [List.length_take]; omega
          have hk31 : (qs.take k).length ≤ 9223372036854775807 := by omega
          have hk32 : k + 1 ≤ maxLen := by unfold maxLen; omega
          have hk33 : (k + 1) * 64 ≤ 140737488355328 := by omega
          obtain ⟨j, hj, er, hts⟩ : ∃ j, ∃ hj : j < qs.length, ((k : Int) + (tn : Int)).tmod (qs.length : Int) = (j : Int) ∧ turn qs tn (k + 1) = turn qs tn k ++ [qs[j]] := by
            have hj : (k + tn) % qs.length < qs.length := Nat.mod_lt _ (by omega)
            refine ⟨_, hj, ?_, ?_⟩
            · have e0 : (k : Int) + (tn : Int) = ((k + tn : Nat) : Int) := by omega
              rw [Int.tmod_eq_emod_of_nonneg (by omega), e0]
              exact (Int.natCast_emod (k + tn) qs.length).symm
            · rw [turn_succ, List.getD_eq_getElem?_getD, List.getElem?_eq_getElem hj]
              rfl
          have er := fun (_ : True) => er
          have hpsC := hpsl wr hown
          obtain ⟨x, rfl, -⟩ := hpsC k hlt
          obtain ⟨q, l, c, s, hqe, hqr, hqs⟩ := hqb qs[k] (List.getElem_mem hlt)
          have hdec : ∀ w, Calls Try.prog 33 #[.agg (pgc qs[k])] w fun e w' => e = .returned (.tuple #[.agg #[.int .i64 q, .bool l, .int .i64 c, .int .u32 s], .bool true]) ∧ Below w.heap.size w w' := fun w => by
            rw [hqe]; exact decode_hput hqr hqs w
          have hqn := nxs_mem (List.getElem_mem hlt : qs[k] ∈ qs)
          obtain ⟨g1, g2, -, -⟩ := hRight_bd hqr
          rw [hqe, (hput_seq q l c s g1 g2).1] at hqn
          have hle1 : nxs (qs.take k) ≤ nxs qs := nxs_mono fun p hp => List.mem_of_mem_take hp
          have k1 : decide (nxs qs < nxs (qs.take k)) = false := decide_eq_false (Int.not_lt.2 hle1)
          have k2 : decide (nxs qs ≤ q) = false := decide_eq_false (Int.not_le.2 (Int.lt_of_lt_of_le (Int.lt_succ q) hqn))
          clear hqe
          go_wp2_with (first
            | ((with_reducible refine pg_load_at ?_); refine ⟨rfl, _, _, rfl, (by with_reducible exact pgAt_of hpsC j hj), ?_⟩; (simp only [Act.put, List.setIfInBounds_toArray, List.set_cons_succ, List.set_cons_zero]))
            | ((with_reducible refine pg_load_at ?_); refine ⟨rfl, _, _, rfl, (by with_reducible exact pgAt_of hpsC k hlt), ?_⟩; (simp only [Act.put, List.setIfInBounds_toArray, List.set_cons_succ, List.set_cons_zero]))
            | ((with_reducible refine pg_slice1 ?_); refine ⟨rfl, _, rfl, ?_⟩; (simp only [Act.put, List.setIfInBounds_toArray, List.set_cons_succ, List.set_cons_zero]))
            | (at_builtin; refine wpList_append_own_at _ rfl _ _ 59 rfl w2.heap.size 23 i0 _ 64 64 Try.underlying59 hi0 hz1 hz2 hz3 rfl (by decide) _ _ _ rfl (hownT.alloc _) _ 1 1 (pgc qs[j]).toList rfl (by rw [Array.length_toList, pgc_size]) (page_new _ _) (fun u hu => page_one _ u hu) (by rw [turn_len]; exact hk32) (by rw [turn_len]; exact hk33) (Nat.le_trans hw2 (by simp)) ?_; intro v' w1 hownT' hgrow hnil hloc; have hownP := (hown.alloc (.cells (pgc qs[j]) 23)).kept hgrow (row_apart hown2 hownT); have hpsC := hpsl w1 hownP)
            | ((with_reducible refine pg_build ?_); refine ⟨rfl, ?_⟩; (simp only [Act.put, List.setIfInBounds_toArray, List.set_cons_succ, List.set_cons_zero])) | ((with_reducible refine ev_box hSt ?_); refine ⟨rfl, _, rfl, ?_⟩; intro gN wN hSt; (simp only [Act.put, List.setIfInBounds_toArray, List.set_cons_succ, List.set_cons_zero])) | ((with_reducible refine ev_alloc hSt (by first | exact zPg | exact zHd | exact zHr | exact zX1 | exact zX2) ?_); refine ⟨rfl, ?_⟩; intro gN wN hSt; (simp only [Act.put, List.setIfInBounds_toArray, List.set_cons_succ, List.set_cons_zero])) | ((with_reducible refine ev_load hSt (by first | exact aPg | exact aHd | exact aHr | exact aX1 | exact aX2) ?_); refine ⟨rfl, _, _, _, rfl, (by repeat (first | exact List.mem_cons_self .. | refine List.mem_cons_of_mem _ ?_)), (by first | exact pgc_size _ | exact nc_size _ _ | rfl), ?_⟩; (simp only [Act.put, List.setIfInBounds_toArray, List.set_cons_succ, List.set_cons_zero])) | ((with_reducible refine ev_load1 hSt (by first | exact oInt | exact oBool | exact oU32 | exact oU8) ?_); refine ⟨rfl, _, _, _, _, _, rfl, (by repeat (first | exact List.mem_cons_self .. | refine List.mem_cons_of_mem _ ?_)), (by first | rfl | exact pgc_get _ _ (by first | decide | omega) | exact nc_get _ _ _ (by first | decide | omega)), ?_⟩; (simp only [Act.put, List.setIfInBounds_toArray, List.set_cons_succ, List.set_cons_zero])) | ((with_reducible refine ev_store hSt (by first | exact aPg | exact aHd | exact aHr | exact aX1 | exact aX2) ?_); (first | refine ⟨rfl, _, [], _, _, _, rfl, rfl, rfl, (by first | exact pgc_size _ | exact nc_size _ _ | rfl), (by first | exact pgc_size _ | exact nc_size _ _ | rfl), (by first | exact pgc_one _ | exact nc_one _ _ | (simp [Value.oneCell']; done) | rfl), ?_⟩ | refine ⟨rfl, _, [_], _, _, _, rfl, rfl, rfl, (by first | exact pgc_size _ | exact nc_size _ _ | rfl), (by first | exact pgc_size _ | exact nc_size _ _ | rfl), (by first | exact pgc_one _ | exact nc_one _ _ | (simp [Value.oneCell']; done) | rfl), ?_⟩ | refine ⟨rfl, _, [_, _], _, _, _, rfl, rfl, rfl, (by first | exact pgc_size _ | exact nc_size _ _ | rfl), (by first | exact pgc_size _ | exact nc_size _ _ | rfl), (by first | exact pgc_one _ | exact nc_one _ _ | (simp [Value.oneCell']; done) | rfl), ?_⟩ | refine ⟨rfl, _, [_, _, _], _, _, _, rfl, rfl, rfl, (by first | exact pgc_size _ | exact nc_size _ _ | rfl), (by first | exact pgc_size _ | exact nc_size _ _ | rfl), (by first | exact pgc_one _ | exact nc_one _ _ | (simp [Value.oneCell']; done) | rfl), ?_⟩ | refine ⟨rfl, _, [_, _, _, _], _, _, _, rfl, rfl, rfl, (by first | exact pgc_size _ | exact nc_size _ _ | rfl), (by first | exact pgc_size _ | exact nc_size _ _ | rfl), (by first | exact pgc_one _ | exact nc_one _ _ | (simp [Value.oneCell']; done) | rfl), ?_⟩); intro wN hSt; simp only [List.nil_append, List.cons_append] at hSt; simp only [Act.put])
            | (go_at_call 36; refine (next_len (ps := qs.take k) hk30 (hpsC.take k) hk31).mono ?_; rintro e w3 ⟨rfl, hb3⟩; replace hpsC := hpsC.ext hb3)
            | (go_at_call 33; refine (hdec _).mono ?_; rintro e w8 ⟨rfl, hb9⟩; have hSt := St.start w8))
          go_roundw
          case rel =>
            clear et ek er
            have hb0 := hbk.alloc hbk.size (.cells (pgc qs[j]) 23)
            have hb1 := hb0.grown hgrow hb0.size (fun j hj => Nat.le_trans hbr2.size (hownT.lt j hj).1)
            have hbB := (hb3.trans (hb9.mono hb3.size)).trans (hSt.base.mono (Nat.le_trans hb3.size hb9.size))
            refine ⟨k + 1, by omega, by go_num, hb1.trans (hbB.mono hb1.size), ?_, PgRow.below hownP hbB, ?_⟩
            · exact Nat.le_trans hw2 (Nat.le_trans (by simp : wr.heap.size ≤ (wr.alloc (.cells (pgc qs[j]) 23)).heap.size) (Nat.le_trans hgrow.size hbB.size))
            · refine PgRow.below ?_ hbB
              unfold PgRow
              rw [hts, rowc_snoc, List.length_append]
              exact hownT'
          case measure => clear et ek er; simp [intOf]; omega
        · obtain rfl : k = qs.length := by omega
          obtain ⟨a2, c2, hv2, -, hsl2⟩ := hownT.slice
          rw [turn_len] at hv2
          subst hv2
          go_wp2_with (go_at_call 36; refine (next_len (ps := turn qs tn qs.length) (turn_len _ _ _) (hsl2 _ hownT) (by rw [turn_len]; omega)).mono ?_; rintro e w3 ⟨rfl, hb3⟩; rw [turn_nxs])
          go_ret
          exact ⟨by simp, hbk.trans (hb3.mono hbk.size)⟩
end Go.Proofs.Ytdikhbdcdpcfgaa
