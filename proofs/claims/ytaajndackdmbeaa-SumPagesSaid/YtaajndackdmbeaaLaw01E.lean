/- The law SumPages, walked. -/
import Derived.Test.YtaajndackdmbeaaLaw01B
import Derived.Test.YtaajndackdmbeaaPgAt
namespace Go.Proofs.Ytaajndackdmbeaa
open Go.RowKit
set_option linter.unusedSimpArgs false

def pgb (p : Nat → UInt8) : ByteArray := ⟨((List.range 64).map p).toArray⟩
theorem pgb_list (p : Nat → UInt8) : (pgb p).data.toList = (List.range 64).map p := by simp [pgb]
theorem pgb_size (p : Nat → UInt8) : (pgb p).size = 64 := by
  show (pgb p).data.size = 64
  simp [pgb]

theorem flat_pgb_take (ps : List (Nat → UInt8)) : (flat (ps.map pgb)).length = ps.length * 64 := by
  induction ps with
  | nil => rfl
  | cons p ps ih =>
    simp only [List.map_cons, flat, List.flatMap_cons, List.length_append, List.length_cons, pgb_list, List.length_map, List.length_range] at ih ⊢
    omega

theorem add_len (g : Nat) (p : Int × Int) (l : List UInt8) (n : Nat) (x : Addr) (cap : Nat) (w : World) (hn : l.length = n) (hp : okP p) (hg : w.heap[g]? = some (.cells (pc p) 41 (0, 0))) (hne : x.block ≠ g)
    (hl : ∀ (j : Nat) (h : j < l.length), w.cell? (x.add j) = some (.int .u8 (l[j].toNat : Int))) (hs : l.length ≤ 9223372036854775807) :
    Calls Try.prog 16 #[.pointer (some ⟨g, 0, none⟩), .slice (some x) n cap] w fun e w' => (e = .returned undef ∧ But g w w') ∧ w'.heap[g]? = some (.cells (pc (sm p l)) 41 (0, 0)) := by
  subst hn
  exact add_any g p l x cap w hp hg hne hl hs

set_option maxRecDepth 100000 in
set_option maxHeartbeats 400000 in
theorem pages_any (a : Option Addr) (ps : List (Nat → UInt8)) (cap : Nat) (w : World) (hl : PgSl w a ps) (hs : ps.length ≤ 9223372036854775807) :
    Calls Try.prog 14 #[.slice a ps.length cap] w fun e w' => e = .returned (.int .u32 (toS (sm (0, 0) (flat (ps.map pgb))))) ∧ Below w.heap.size w w' := by
  go_enter Try.func14, Try.ntmps14
  go_wp2_with fail
  have hA0 := heap_alloc_last w (.cells (pc (0, 0)) 41)
  have hb0 : Below w.heap.size w (w.alloc (.cells (pc (0, 0)) 41)) := (Below.refl _ _).alloc (Nat.le_refl _) _
  change Code.wp _ _ _ _ (w.alloc (.cells (pc (0, 0)) 41))
  generalize w.alloc (.cells (pc (0, 0)) 41) = w2 at hA0 hb0 ⊢
  obtain ⟨g, hgg⟩ : ∃ g, g = w.heap.size := ⟨_, rfl⟩
  have hgw : w.heap.size ≤ g := by omega
  rw [← hgg]
  rw [← hgg] at hA0
  clear hgg
  go_loopw [8] (fun i wr => ∃ k : Nat, k ≤ ps.length ∧ i = .int .i64 k ∧ Below w.heap.size w wr ∧ wr.heap[g]? = some (.cells (pc (sm (0, 0) (flat ((ps.take k).map pgb)))) 41 (0, 0))) (fun i _ => ps.length - (intOf i).toNat)
  case atStart => exact ⟨0, Nat.zero_le _, rfl, hb0, hA0⟩
  case round =>
    obtain ⟨k, hk, rfl, hbr, hgr⟩ := hrel
    have hq0 := okP_sm (flat ((ps.take k).map pgb)) _ okP0
    generalize hq : sm (0, 0) (flat ((ps.take k).map pgb)) = q at hq0 hgr ⊢
    by_cases hlt : k < ps.length
    · obtain ⟨x, rfl, hc⟩ := (hl.ext hbr) k hlt
      have hbA : Below wr.heap.size wr (wr.alloc (.cells (pgc ps[k]) 37)) := (Below.refl _ _).alloc (Nat.le_refl _) _
      have hlen : (pgb ps[k]).data.toList.length = 64 := by rw [pgb_list]; simp
      have hcA : ∀ (j : Nat) (h : j < (pgb ps[k]).data.toList.length), (wr.alloc (.cells (pgc ps[k]) 37)).cell? ((⟨wr.heap.size, 0, none⟩ : Addr).add j) = some (.int .u8 ((pgb ps[k]).data.toList[j].toNat : Int)) := by
        intro j hj
        rw [Addr.add_mid, cell_of_row _ _ _ _ _ _ (heap_alloc_last wr _), Nat.zero_add, pgc_get _ _ (by omega)]
        simp [pgb]
      go_wp2_with (first | ((with_reducible refine pg_load_at ?_); refine ⟨rfl, _, _, rfl, hc, ?_⟩; (simp only [Act.put, List.setIfInBounds_toArray, List.set_cons_succ, List.set_cons_zero])) | ((with_reducible refine pg_alloc ?_); refine ⟨rfl, ?_⟩; (simp only [Act.put, List.setIfInBounds_toArray, List.set_cons_succ, List.set_cons_zero])) | ((with_reducible refine pg_store ?_); refine ⟨rfl, _, by simp, rfl, by with_reducible first | exact zc_size | exact pgc_size _, ?_⟩; simp only [Act.put]) | (go_at_call 16; with_reducible refine (add_len g q (pgb ps[k]).data.toList 64 _ _ _ hlen hq0 (blk_of hbA hgr) (by have := lt_of_blk hgr; simp; omega) hcA (by omega)).mono ?_; rintro e w5 ⟨⟨rfl, hbt⟩, hg5⟩))
      go_roundw
      case rel =>
        refine ⟨k + 1, by omega, by go_num, But.mono (hbr.trans (hbA.mono hbr.size)) hgw (Nat.le_trans hbr.size hbA.size) hbt, ?_⟩
        rw [take_snocL _ _ hlt, List.map_append, flat_append, sm_append, hq]
        have e : flat ([ps[k]].map pgb) = (pgb ps[k]).data.toList := by simp [flat]
        rw [e]
        exact hg5
      case measure => simp [intOf]; omega
    · have hga := cell_of_row wr g 0 _ _ _ hgr
      have hgb := cell_of_row wr g 1 _ _ _ hgr
      simp only [pc] at hga hgb
      go_wp2_with (go_at_call 17; refine (sum_any q _ hq0).mono ?_; rintro e w5 ⟨rfl, hb5⟩)
      go_ret
      obtain rfl : k = ps.length := by omega
      rw [List.take_length] at hq
      exact ⟨by rw [hq]; rfl, hbr.trans (hb5.mono hbr.size)⟩

theorem conv_pg (w : World) (p : Nat → UInt8) : (convert 31 9 (.slice (some ⟨w.heap.size, 0, none⟩) 64 64)).run Try.prog (w.alloc (.cells (pgc p) 37)) = .ok (.string (pgb p)) (w.alloc (.cells (pgc p) 37)) := by
  have hlen : (pgb p).data.toList.length = 64 := by rw [pgb_list]; simp
  have := run_convert_bytes_back (P := Try.prog) (w.alloc (.cells (pgc p) 37)) 31 9 5 ⟨w.heap.size, 0, none⟩ 64 (pgb p).data.toList Try.underlying31 Try.underlying5 Try.underlying9 (fun j hj => by
    rw [Addr.add_mid, cell_of_row _ _ _ _ _ _ (heap_alloc_last w _), Nat.zero_add, pgc_get _ _ (by omega)]
    simp [pgb])
  rw [hlen] at this
  rw [this]

set_option maxRecDepth 100000 in
set_option maxHeartbeats 1600000 in
theorem walk_SumPages (a : Option Addr) (ps : List (Nat → UInt8)) (cap : Nat) (w : World) (hl : PgSl w a ps) (hs : ps.length ≤ 9223372036854775807) :
    Calls Try.prog 7 #[.slice a ps.length cap] w fun e w' => e = .returned (.bool true) ∧ Below w.heap.size w w' := by
  go_enter Try.func7, Try.ntmps7
  by_cases c1 : 40 < ps.length
  · go_wp2_with (go_at_call 8; refine (awake01 _).mono ?_; rintro e w1 ⟨rfl, hb1⟩)
    go_ret
    exact ⟨rfl, hb1⟩
  · go_wp2_with (go_at_call 8; refine (awake01 _).mono ?_; rintro e w1 ⟨rfl, hb1⟩)
    go_loopw [3, 13] (fun t i wr => ∃ k : Nat, k ≤ ps.length ∧ i = .int .i64 k ∧ t = .string (cat ((ps.map pgb).take k)) ∧ Below w.heap.size w wr) (fun _ i _ => ps.length - (intOf i).toNat)
    case atStart => exact ⟨0, Nat.zero_le _, rfl, rfl, hb1⟩
    case round =>
      obtain ⟨k, hk, rfl, rfl, hbr⟩ := hrel
      by_cases hlt : k < ps.length
      · obtain ⟨x, rfl, hc⟩ := (hl.ext hbr) k hlt
        have hcv := conv_pg wr ps[k]
        have hcat : cat ((ps.map pgb).take k) ++ pgb ps[k] = cat ((ps.map pgb).take (k + 1)) := by
          rw [cat_snoc, take_snocL (ps.map pgb) k (by simpa using hlt), List.getElem_map]
        have hsz : ¬ 9223372036854775807 < (cat ((ps.map pgb).take k)).size + (pgb ps[k]).size := by
          rw [cat_size, ← List.map_take, flat_pgb_take, pgb_size, List.length_take]
          omega
        go_wp2_with (first | ((with_reducible refine pg_load_at ?_); refine ⟨rfl, _, _, rfl, hc, ?_⟩; (simp only [Act.put, List.setIfInBounds_toArray, List.set_cons_succ, List.set_cons_zero])) | ((with_reducible refine pg_alloc ?_); refine ⟨rfl, ?_⟩; (simp only [Act.put, List.setIfInBounds_toArray, List.set_cons_succ, List.set_cons_zero])) | ((with_reducible refine pg_store ?_); refine ⟨rfl, _, by simp, rfl, by with_reducible first | exact zc_size | exact pgc_size _, ?_⟩; simp only [Act.put]))
        go_roundw
        case rel => exact ⟨k + 1, by omega, by go_num, rfl, hbr.alloc hbr.size _⟩
        case measure => simp [intOf]; omega
      · obtain rfl : k = ps.length := by omega
        rw [List.take_of_length_le (l := ps.map pgb) (by simp)]
        have hsz : (cat (ps.map pgb)).size ≤ 9223372036854775807 := by rw [cat_size, flat_pgb_take]; omega
        go_wp2_with (first
          | (go_at_call 14; refine (pages_any a ps cap _ (hl.ext hbr) hs).mono ?_; rintro e w4 ⟨rfl, hb4⟩)
          | (go_at_call 12; refine (rMore_any _ (cat (ps.map pgb)) _ (by omega) (by omega) hsz).mono ?_; rintro e w5 ⟨rfl, rfl⟩; rw [cat_list, show ofS 0 = (0, 0) from rfl]))
        go_ret
        exact ⟨rfl, bseq hbr hb4⟩
end Go.Proofs.Ytaajndackdmbeaa
