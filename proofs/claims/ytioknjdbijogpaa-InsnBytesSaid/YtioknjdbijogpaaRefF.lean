/- Chapter 16's reference: Bytes, walked. -/
import Derived.Test.YtioknjdbijogpaaRefD
namespace Go.Proofs.Ytioknjdbijogpaa
open Go.RowKit
set_option linter.unusedSimpArgs false
set_option linter.unusedVariables false

/-- An instruction's cells from an address on. -/
def InAt (w : World) (p : Addr) (f : Nat → Int) : Prop := ∀ i v, (inv f)[i]? = some v → w.cell? (p.add i) = some v
theorem InAt.ext {w w' : World} {p : Addr} {f : Nat → Int} (h : InAt w p f) (hb : Below w.heap.size w w') : InAt w' p f := fun i v hv => by
  have := h i v hv
  rw [hb.cell (cell_lt this), this]
theorem oIntF : OneT Try.prog 3 := by unfold OneT; kernel_rfl
section
variable {ops : Array Oper} {rest : List Oper} {Q : Exit → Act → World → Prop} {tmps : Array Value} {df : List Deferred} {d ty t u : Nat} {ps : String} {af : Array Edge} {gd : Option (Nat × Bool)} {w : World}
theorem in_fld {p : Addr} {f : Nat → Int} (hq : InAt w p f) (h : Region.wanted ⟨some d, .load 3 (.tmp t), ty, ps, af, gd⟩ (yielded ops tmps) = true ∧ ∃ i,
      tmps.getD t undef = .pointer (some ⟨p.block, p.off + i, none⟩) ∧ 0 < i ∧ i < 5 ∧ wpList Try.prog ops Q rest (Act.put ⟨tmps, df⟩ (some d) (.int .i64 (f i))) w) :
    wpList Try.prog ops Q (⟨some d, .load 3 (.tmp t), ty, ps, af, gd⟩ :: rest) ⟨tmps, df⟩ w := by
  obtain ⟨hw, i, hx, h0, hi, h⟩ := h
  refine wpl_run hw ?_ h
  have hx' : Act.eval ⟨tmps, df⟩ (.tmp t) = .pointer (some ⟨p.block, p.off + i, none⟩) := hx
  have hc := hq i _ (inv_get f i hi)
  rw [Addr.add, if_neg (by omega)] at hc
  simp [execOp, hx', Instr.loadAt, Instr.sureAddr, Sem.run_bind, loadVar, run_isAgg_false oIntF, hc]
theorem in_fld0 {p : Addr} {f : Nat → Int} (hq : InAt w p f) (h : Region.wanted ⟨some d, .load 3 (.tmp t), ty, ps, af, gd⟩ (yielded ops tmps) = true ∧
      tmps.getD t undef = .pointer (some p) ∧ wpList Try.prog ops Q rest (Act.put ⟨tmps, df⟩ (some d) (.int .i64 (f 0))) w) :
    wpList Try.prog ops Q (⟨some d, .load 3 (.tmp t), ty, ps, af, gd⟩ :: rest) ⟨tmps, df⟩ w := by
  obtain ⟨hw, hx, h⟩ := h
  refine wpl_run hw ?_ h
  have hx' : Act.eval ⟨tmps, df⟩ (.tmp t) = .pointer (some p) := hx
  have hc := hq 0 _ (inv_get f 0 (by decide))
  rw [Addr.add, if_pos rfl] at hc
  simp [execOp, hx', Instr.loadAt, Instr.sureAddr, Sem.run_bind, loadVar, run_isAgg_false oIntF, hc]
end
theorem mixed16 : Try.prog.follows .mixedOrders = true := by kernel_rfl

/-- An instruction's bytes, as the document says. -/
def lw0 (f : Nat → Int) : ByteArray := strOfNums [f 0 % 256]
def lw1 (f : Nat → Int) : ByteArray := strOfNums [wrap64 (wrap64 (f 1 * 16) + f 2) % 256]
def lw2 (f : Nat → Int) : ByteArray := strOfNums [f 3 / 256 % 256, f 3 % 256]
def lw3 (f : Nat → Int) : ByteArray := strOfNums [f 4 / 16777216 % 256, f 4 / 65536 % 256, f 4 / 256 % 256, f 4 % 256]
theorem lw_size (f : Nat → Int) : (lw0 f).size = 1 ∧ (lw1 f).size = 1 ∧ (lw2 f).size = 2 ∧ (lw3 f).size = 4 := ⟨rfl, rfl, rfl, rfl⟩
def encR (fs : List (Nat → Int)) : ByteArray := fs.foldl (fun s f => s ++ lw0 f ++ lw1 f ++ lw2 f ++ lw3 f) ⟨#[]⟩
theorem encR_snoc (fs : List (Nat → Int)) (f : Nat → Int) : encR (fs ++ [f]) = encR fs ++ lw0 f ++ lw1 f ++ lw2 f ++ lw3 f := by
  unfold encR
  rw [List.foldl_append]; rfl
theorem encR_size (fs : List (Nat → Int)) : (encR fs).size = 8 * fs.length := by
  have key : ∀ (fs : List (Nat → Int)) (s : ByteArray), (fs.foldl (fun s f => s ++ lw0 f ++ lw1 f ++ lw2 f ++ lw3 f) s).size = s.size + 8 * fs.length := by
    intro fs
    induction fs with
    | nil => intro s; rfl
    | cons f fs ih =>
      intro s
      obtain ⟨a, b, c, d⟩ := lw_size f
      rw [List.foldl_cons, ih, ByteArray.size_append, ByteArray.size_append, ByteArray.size_append, ByteArray.size_append, a, b, c, d, List.length_cons]
      omega
  have := key fs ⟨#[]⟩
  rw [encR, this]
  show 0 + _ = _
  omega

set_option maxHeartbeats 2000000 in
set_option maxRecDepth 100000 in
theorem refBytes_is (a : Option Addr) (fs : List (Nat → Int)) (cap : Nat) (w : World) (hl : InSl w a fs) (hn : fs.length ≤ 1000) :
    Calls Try.prog 25 #[.slice a fs.length cap] w fun e w' => e = .returned (.string (encR fs)) ∧ Below w.heap.size w w' := by
  go_enter Try.func25, Try.ntmps25
  go_wp2
  go_loopw [3, 4] (fun s i wr => ∃ k : Nat, k ≤ fs.length ∧ i = .int .i64 k ∧ s = .string (encR (fs.take k)) ∧ Below w.heap.size w wr) (fun _ i _ => fs.length - (intOf i).toNat)
  case atStart => exact ⟨0, by omega, rfl, rfl, Below.refl _ _⟩
  case round =>
    obtain ⟨k, hk, rfl, rfl, hbw⟩ := hrel
    by_cases h : k = fs.length
    · subst h
      rw [List.take_length]
      go_wp2
      go_ret
      exact ⟨rfl, hbw⟩
    · have hlt : k < fs.length := by omega
      have hlt' : (k : Int) < fs.length := by omega
      obtain ⟨x, rfl, hat0⟩ := hl.ext hbw k hlt
      have hat : InAt wr (x.add (k * 5)) fs[k] := hat0
      clear hat0
      have hsn := Lib.hid (List.take_succ_eq_append_getElem hlt)
      have hsz : (encR (fs.take k)).size ≤ 8000 := by rw [encR_size, List.length_take]; omega
      generalize fs[k] = f at hat hsn
      obtain ⟨z0, z1, z2, z3⟩ := lw_size f
      have hL0 : ∀ w, _ := fun w => low1_is (f 0) w
      have hL1 : ∀ w, _ := fun w => low1_is (wrap64 (wrap64 (f 1 * 16) + f 2)) w
      have hL2 : ∀ w, _ := fun w => low2_is (f 3) w
      have hL3 : ∀ w, _ := fun w => low4_is (f 4) w
      have he := Lib.hid (encR_snoc (fs.take k) f)
      rw [show strOfNums [f 0 % 256] = lw0 f from rfl] at hL0
      rw [show strOfNums [wrap64 (wrap64 (f 1 * 16) + f 2) % 256] = lw1 f from rfl] at hL1
      rw [show strOfNums [f 3 / 256 % 256, f 3 % 256] = lw2 f from rfl] at hL2
      rw [show strOfNums [f 4 / 16777216 % 256, f 4 / 65536 % 256, f 4 / 256 % 256, f 4 % 256] = lw3 f from rfl] at hL3
      generalize encR (fs.take k) = s at hsz he ⊢
      generalize lw0 f = A0 at *
      generalize lw1 f = A1 at *
      generalize lw2 f = A2 at *
      generalize lw3 f = A3 at *
      have y0 : (s ++ A0).size ≤ 8001 := by rw [ByteArray.size_append]; omega
      have y1 : (s ++ A0 ++ A1).size ≤ 8002 := by rw [ByteArray.size_append]; omega
      have y2 : (s ++ A0 ++ A1 ++ A2).size ≤ 8004 := by rw [ByteArray.size_append]; omega
      have p0 : s.size + A0.size ≤ 9223372036854775807 := by omega
      have p1 : (s ++ A0).size + A1.size ≤ 9223372036854775807 := by omega
      have p2 : (s ++ A0 ++ A1).size + A2.size ≤ 9223372036854775807 := by omega
      have p3 : (s ++ A0 ++ A1 ++ A2).size + A3.size ≤ 9223372036854775807 := by omega
      clear z0 z1 z2 z3 hsz y0 y1 y2
      go_wp2
      refine wp_region_seq (S := fun w' => Below wr.heap.size wr w') mixed16 (by kernel_rfl) (by kernel_rfl) (Below.refl _ _).drew ?_
      iterate 37 (refine seq_take (v := ?_) rfl (of_decide_eq_true rfl) (fun w9 hS => ?_) ?_; rotate_left; (focus (have hq := hat.ext hS; go_wp2_with (first | ((with_reducible refine in_fld0 hq ?_); refine ⟨rfl, rfl, ?_⟩; (simp only [Act.put, List.setIfInBounds_toArray, List.set_cons_succ, List.set_cons_zero])) | ((with_reducible refine in_fld hq ?_); refine ⟨rfl, _, rfl, by decide, by decide, ?_⟩; (simp only [Act.put, List.setIfInBounds_toArray, List.set_cons_succ, List.set_cons_zero])) | (go_at_call 41; first | (with_reducible refine (hL0 _).mono ?_; rintro e w8 ⟨rfl, hb9⟩) | (with_reducible refine (hL1 _).mono ?_; rintro e w8 ⟨rfl, hb9⟩) | (with_reducible refine (hL2 _).mono ?_; rintro e w8 ⟨rfl, hb9⟩) | (with_reducible refine (hL3 _).mono ?_; rintro e w8 ⟨rfl, hb9⟩))); refine VQ_mk ?_ rfl ?_; (focus rfl); (first | exact hS | exact hS.trans (hb9.mono hS.size)))); (simp only [Act.put, List.setIfInBounds_toArray, List.set_cons_succ, List.set_cons_zero, Array.getD_eq_getD_getElem?, List.getElem?_toArray, List.getElem?_cons_succ, List.getElem?_cons_zero, Option.getD_some]))
      refine seq_nil fun wz hS => ?_
      go_wp2
      refine ⟨⟨k + 1, by omega, by simp, ?_, hbw.trans (hS.mono hbw.size)⟩, by simp only [intOf]; omega⟩
      rw [hsn.out, he.out]
end Go.Proofs.Ytioknjdbijogpaa
