/- The walks of sum.More, sum.Sum, and of the law's long and the reference's Joined. -/
import Derived.Test.YtaajndackdmbeaaSumB
import Derived.Laws.IdiomStrings
namespace Go.Proofs.Ytaajndackdmbeaa
open Go.RowKit
set_option linter.unusedSimpArgs false

/-- A slice's strings. -/
def StrSl (w : World) (a : Option Addr) (ss : List ByteArray) : Prop := ∀ (j : Nat) (h : j < ss.length), ∃ x, a = some x ∧ w.cell? (x.add j) = some (.string ss[j])

theorem cell_below {w w' : World} (hb : Below w.heap.size w w') {x : Addr} {v : Value} (hx : w.cell? x = some v) : w'.cell? x = some v := by
  have hlt : x.block < w.heap.size := by
    by_cases hq : x.block < w.heap.size
    · exact hq
    · exfalso
      unfold World.cell? at hx
      simp [Array.getElem?_eq_none (by omega : w.heap.size ≤ x.block)] at hx
  rw [hb.cell hlt, hx]
theorem StrSl.ext {w w' : World} {a : Option Addr} {ss : List ByteArray} (h : StrSl w a ss) (hb : Below w.heap.size w w') : StrSl w' a ss := fun j hj => by
  obtain ⟨x, h1, h2⟩ := h j hj
  exact ⟨x, h1, cell_below hb h2⟩
theorem But.mono {g B : Nat} {w0 w w' : World} (h : Below B w0 w) (hB : B ≤ g) (hw : B ≤ w.heap.size) (k : But g w w') : Below B w0 w' :=
  ⟨k.os.trans h.os, k.tape.trans h.tape, k.output.trans h.output, Nat.le_trans h.size k.size, fun i hi => (k.block i (by omega) (by omega)).trans (h.block i hi)⟩

/-- All the bytes. -/
def flat (ss : List ByteArray) : List UInt8 := ss.flatMap (·.data.toList)
theorem flat_snoc (ss : List ByteArray) (s : ByteArray) : flat (ss ++ [s]) = flat ss ++ s.data.toList := by simp [flat]
theorem flat_append (ss ts : List ByteArray) : flat (ss ++ ts) = flat ss ++ flat ts := by simp [flat]
theorem take_snocL {α : Type} (l : List α) (k : Nat) (h : k < l.length) : l.take (k + 1) = l.take k ++ [l[k]] := List.take_succ_eq_append_getElem h

section
variable {ops : Array Oper} {rest : List Oper} {Q : Exit → Act → World → Prop} {tmps : Array Value} {df : List Deferred} {d ty t : Nat} {ps : String} {af : Array Edge} {gd : Option (Nat × Bool)} {w : World}
/-- A string's bytes in a new row. -/
theorem ev_bytes (h : Region.wanted ⟨some d, .convert 9 31 (.tmp t), ty, ps, af, gd⟩ (yielded ops tmps) = true ∧ ∃ s, tmps.getD t undef = .string s ∧
      ∀ g cap w', Below w.heap.size w w' → g = w.heap.size → (∃ C, w'.heap[g]? = some (.cells C 5 (C.size, C.size + 1)) ∧ s.data.toList.length ≤ C.size ∧ ∀ (j : Nat) (h : j < s.data.toList.length), C[j]? = some (.int .u8 (s.data.toList[j].toNat : Int))) →
        wpList Try.prog ops Q rest (Act.put ⟨tmps, df⟩ (some d) (.slice (some ⟨g, 0, none⟩) s.data.toList.length cap)) w') :
    wpList Try.prog ops Q (⟨some d, .convert 9 31 (.tmp t), ty, ps, af, gd⟩ :: rest) ⟨tmps, df⟩ w := by
  obtain ⟨hw, s, hx, h⟩ := h
  have hr := run_bytes_of_string (P := Try.prog) w 9 31 5 s Try.underlying9 Try.underlying31 Try.underlying5
  have hx' : Act.eval ⟨tmps, df⟩ (.tmp t) = .string s := hx
  refine wpl_run hw ?_ (h w.heap.size (grownCap w s.size 0 5) _ (((Below.refl _ _).drew).alloc (Nat.le_refl _) (.cells (bytesRow s (grownCap w s.size 0 5)) 5 ((bytesRow s (grownCap w s.size 0 5)).size, (bytesRow s (grownCap w s.size 0 5)).size + 1))) rfl ⟨_, heap_alloc_last w.drew _, ?_, fun j hj => ?_⟩)
  · simp only [execOp, hx', Sem.run_bind, hr, Result.andThen_ok]
    rfl
  · rw [Array.length_toList]
    simp only [bytesRow, Array.size_append, Array.size_map]
    omega
  · have hj' : j < s.data.size := by simpa using hj
    have hj2 : j < s.size := hj'
    simp [bytesRow, Array.getElem?_append, hj', hj2]
end

set_option maxRecDepth 100000 in
set_option maxHeartbeats 800000 in
theorem more_any (x : Int) (a : Option Addr) (ss : List ByteArray) (cap : Nat) (w : World) (h0 : 0 ≤ x) (h1 : x < 4294967296) (hl : StrSl w a ss) (hs : ss.length ≤ 9223372036854775807) (hz : ∀ s ∈ ss, s.size ≤ 9223372036854775807) :
    Calls Try.prog 13 #[.int .u32 x, .slice a ss.length cap] w fun e w' => e = .returned (.int .u32 (toS (sm (ofS x) (flat ss)))) ∧ Below w.heap.size w w' := by
  go_enter Try.func13, Try.ntmps13
  go_wp2_with (go_at_call 15; refine (of_any _ _ h0 h1).mono ?_; rintro e w1 ⟨rfl, hb1⟩; unfold pc)
  have hA0 := heap_alloc_last w1 (.cells (pc (ofS x)) 41)
  have hb0 : Below w.heap.size w (w1.alloc (.cells (pc (ofS x)) 41)) := hb1.alloc hb1.size _
  have hgw : w.heap.size ≤ w1.heap.size := hb1.size
  change Code.wp _ _ _ _ (w1.alloc (.cells (pc (ofS x)) 41))
  generalize w1.alloc (.cells (pc (ofS x)) 41) = w2 at hA0 hb0 ⊢
  generalize w1.heap.size = g at hA0 hgw ⊢
  clear hb1
  go_loopw [12] (fun i wr => ∃ k : Nat, k ≤ ss.length ∧ i = .int .i64 k ∧ Below w.heap.size w wr ∧ wr.heap[g]? = some (.cells (pc (sm (ofS x) (flat (ss.take k)))) 41 (0, 0))) (fun i _ => ss.length - (intOf i).toNat)
  case atStart => exact ⟨0, Nat.zero_le _, rfl, hb0, hA0⟩
  case round =>
    obtain ⟨k, hk, rfl, hbr, hgr⟩ := hrel
    have hq0 := okP_sm (flat (ss.take k)) _ (okP_ofS x)
    generalize hq : sm (ofS x) (flat (ss.take k)) = q at hq0 hgr ⊢
    by_cases hlt : k < ss.length
    · obtain ⟨x, rfl, hc⟩ := (hl.ext hbr) k hlt
      have hzk := hz _ (List.getElem_mem hlt)
      go_wp2_with (first | ((with_reducible refine ev_bytes ?_); refine ⟨rfl, _, rfl, ?_⟩; intro gB capB wB hbB hgB hcB; subst hgB; (simp only [Act.put, List.setIfInBounds_toArray, List.set_cons_succ, List.set_cons_zero])) | (go_at_call 16; refine (add_any g q ss[k].data.toList _ _ _ hq0 (blk_of hbB hgr) (by have := lt_of_blk hgr; simp; omega) (by obtain ⟨C, hC1, -, hC2⟩ := hcB; intro j hj; rw [Addr.add_mid, cell_of_row _ _ _ _ _ _ hC1]; simpa using hC2 j hj) (by simpa using hzk)).mono ?_; rintro e w5 ⟨⟨rfl, hbt⟩, hg5⟩))
      go_roundw
      case rel =>
        refine ⟨k + 1, by omega, by go_num, But.mono (hbr.trans (hbB.mono hbr.size)) hgw (Nat.le_trans hbr.size hbB.size) hbt, ?_⟩
        rw [take_snocL _ _ hlt, flat_snoc, sm_append, hq]
        exact hg5
      case measure => simp [intOf]; omega
    · have hga := cell_of_row wr g 0 _ _ _ hgr
      have hgb := cell_of_row wr g 1 _ _ _ hgr
      simp only [pc] at hga hgb
      go_wp2_with (go_at_call 17; refine (sum_any q _ hq0).mono ?_; rintro e w5 ⟨rfl, hb5⟩)
      go_ret
      obtain rfl : k = ss.length := by omega
      rw [List.take_length] at hq
      exact ⟨by rw [hq]; rfl, hbr.trans (hb5.mono hbr.size)⟩

theorem sumSum_any (a : Option Addr) (ss : List ByteArray) (cap : Nat) (w : World) (hl : StrSl w a ss) (hs : ss.length ≤ 9223372036854775807) (hz : ∀ s ∈ ss, s.size ≤ 9223372036854775807) :
    Calls Try.prog 11 #[.slice a ss.length cap] w fun e w' => e = .returned (.int .u32 (toS (sm (0, 0) (flat ss)))) ∧ Below w.heap.size w w' := by
  go_enter Try.func11, Try.ntmps11
  go_wp2_with (go_at_call 13; refine (more_any 0 a ss cap _ (by omega) (by omega) hl hs hz).mono ?_; rintro e w5 ⟨rfl, hb5⟩)
  go_ret
  exact ⟨rfl, hb5⟩
end Go.Proofs.Ytaajndackdmbeaa
