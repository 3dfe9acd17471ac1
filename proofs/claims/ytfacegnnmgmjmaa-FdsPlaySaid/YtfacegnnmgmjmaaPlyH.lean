/- Chapter 28: Pins, walked. -/
import Derived.Test.YtfacegnnmgmjmaaPlyG
namespace Go.Proofs.Ytfacegnnmgmjmaa
open Go.RowKit Go.Maps
set_option linter.unusedSimpArgs false
set_option linter.unusedVariables false

theorem oMap : OneT Try.prog 58 := by unfold OneT; kernel_rfl
/-- What Pins tells of the first k places. -/
def cD (p : Nat → Option Nat) (f : Nat → FileT) (k : Nat) (q : Int) : Int := if q = -1 then 0 else (cntG p (fun i => (f i).2.2.2) q k : Int)
theorem cD_none (p : Nat → Option Nat) (f : Nat → FileT) (k : Nat) (h : p k = none) : cD p f (k + 1) = cD p f k := by
  funext q
  unfold cD
  rw [cntG_succ, h]
  simp
theorem cD_some (p : Nat → Option Nat) (f : Nat → FileT) (k g : Nat) (h : p k = some g) : cD p f (k + 1) = fun q => if (f k).2.2.2 ≠ -1 ∧ q = (f k).2.2.2 then cD p f k q + 1 else cD p f k q := by
  funext q
  unfold cD
  rw [cntG_succ, h]
  by_cases h1 : q = -1
  · subst h1
    rw [if_pos rfl, if_pos rfl, if_neg (fun h => h.1 h.2.symm)]
  · rw [if_neg h1, if_neg h1]
    by_cases h2 : q = (f k).2.2.2
    · rw [show decide ((f k).2.2.2 = q) = true from decide_eq_true h2.symm, if_pos (show (f k).2.2.2 ≠ -1 ∧ q = (f k).2.2.2 from ⟨fun e => h1 (h2.trans e), h2⟩)]
      simp
    · rw [show decide ((f k).2.2.2 = q) = false from decide_eq_false (fun e => h2 e.symm), if_neg (show ¬ ((f k).2.2.2 ≠ -1 ∧ q = (f k).2.2.2) from fun h => h2 h.2)]
      simp
theorem cD_le (p : Nat → Option Nat) (f : Nat → FileT) (k : Nat) (q : Int) : 0 ≤ cD p f k q ∧ cD p f k q ≤ k := by
  have := cntG_le p (fun i => (f i).2.2.2) q k
  unfold cD
  split <;> omega
theorem cD_zero (p : Nat → Option Nat) (f : Nat → FileT) : cD p f 0 = fun _ => 0 := by
  funext q
  unfold cD cntG
  simp

set_option maxHeartbeats 2000000 in
set_option maxRecDepth 100000 in
theorem clo_pins (g3 gm n : Nat) (x : FileT) (o : Obj) (c : Int → Int) (hn : n ≤ 1000) (hc : 0 ≤ c x.2.2.2 ∧ c x.2.2.2 ≤ 1000) (hC : CntO o n c) (hwf : (Lit.int .i64 x.2.2.2).wf = true) (r : Nat × Obj) (w0 w : World)
    (hSt : St w0 [r, (g3, .cells #[.map (some gm)] 58 (0, 0)), (gm, o)] w) :
    Calls Try.prog 33 #[.agg (fv x), .pointer (some ⟨g3, 0, none⟩)] w fun e w' => e = .returned (.tuple #[]) ∧
      ∃ o' n', n' ≤ n + 1 ∧ CntO o' n' (fun q => if x.2.2.2 ≠ -1 ∧ q = x.2.2.2 then c q + 1 else c q) ∧ St w0 [r, (g3, .cells #[.map (some gm)] 58 (0, 0)), (gm, o')] w' := by
  go_enter Try.func33, Try.ntmps33
  by_cases hx : x.2.2.2 = -1
  · have e1 : (x.2.2.2 != -1) = false := by rw [hx]; rfl
    have e2 : (fun q => if x.2.2.2 ≠ -1 ∧ q = x.2.2.2 then c q + 1 else c q) = c := by
      funext q
      rw [if_neg (fun h => h.1 hx)]
    have HE := Lib.hid e2
    clear hx e2
    go_wp2_with (first | ((with_reducible refine ev_box hSt ?_); refine ⟨rfl, _, rfl, ?_⟩; intro gN wN hSt; (simp only [Act.put, List.setIfInBounds_toArray, List.set_cons_succ, List.set_cons_zero])) | ((with_reducible refine ev_load1 hSt oInt ?_); refine ⟨rfl, _, _, _, _, _, rfl, (by repeat (first | exact List.mem_cons_self .. | refine List.mem_cons_of_mem _ ?_)), (by first | exact fv_3 _), ?_⟩; (simp only [Act.put, List.setIfInBounds_toArray, List.set_cons_succ, List.set_cons_zero])))
    go_end0
    rw [HE.out]
    exact ⟨rfl, o, n, by omega, hC, hSt.tail⟩
  · have e1 : (x.2.2.2 != -1) = true := by simpa using hx
    have ha : wrap64 (c x.2.2.2 + 1) = c x.2.2.2 + 1 := by unfold wrap64; omega
    have hwa : (Lit.int .i64 (wrap64 (c x.2.2.2 + 1))).wf = true := by rw [ha]; simp [Lit.wf, IntKind.min, IntKind.max, IntKind.signed, IntKind.bits]; omega
    have HA := Lib.hid hwa
    have HN := Lib.hid (show n < maxLen by unfold maxLen; omega)
    have e2 : (fun q => if q = x.2.2.2 then wrap64 (c x.2.2.2 + 1) else c q) = (fun q => if x.2.2.2 ≠ -1 ∧ q = x.2.2.2 then c q + 1 else c q) := by
      rw [ha]
      funext q
      by_cases h : q = x.2.2.2
      · rw [if_pos h, if_pos ⟨hx, h⟩, h]
      · rw [if_neg h, if_neg (fun k => h k.2)]
    have HE := Lib.hid e2
    clear hx e2 hwa hc hn ha
    go_wp2_with (first | ((with_reducible refine ev_box hSt ?_); refine ⟨rfl, _, rfl, ?_⟩; intro gN wN hSt; (simp only [Act.put, List.setIfInBounds_toArray, List.set_cons_succ, List.set_cons_zero])) | ((with_reducible refine ev_load1 hSt oInt ?_); refine ⟨rfl, _, _, _, _, _, rfl, (by repeat (first | exact List.mem_cons_self .. | refine List.mem_cons_of_mem _ ?_)), (by first | exact fv_3 _), ?_⟩; (simp only [Act.put, List.setIfInBounds_toArray, List.set_cons_succ, List.set_cons_zero])) | ((with_reducible refine ev_load1 hSt oMap ?_); refine ⟨rfl, _, _, _, _, _, rfl, (by repeat (first | exact List.mem_cons_self .. | refine List.mem_cons_of_mem _ ?_)), one_0 _, ?_⟩; (simp only [Act.put, List.setIfInBounds_toArray, List.set_cons_succ, List.set_cons_zero])) | ((with_reducible refine ev_cntLook ?_); refine ⟨rfl, _, _, _, _, _, rfl, hSt.blk (by repeat (first | exact List.mem_cons_self .. | refine List.mem_cons_of_mem _ ?_)), hC, rfl, hwf, ?_⟩; (simp only [Act.put, List.setIfInBounds_toArray, List.set_cons_succ, List.set_cons_zero])) | ((with_reducible refine ev_cntPut hSt ?_); refine ⟨rfl, _, _, [_, _, _], _, _, _, _, _, rfl, rfl, hC, rfl, rfl, hwf, HA.out, HN.out, ?_⟩; intro oN wN hC2 hSt; simp only [List.cons_append, List.nil_append] at hSt; simp only [Act.put]))
    go_end0
    rw [HE.out] at hC2
    exact ⟨rfl, oN, n + 1, Nat.le_refl _, hC2, hSt.tail⟩

set_option maxHeartbeats 2000000 in
set_option maxRecDepth 100000 in
theorem each_pins (tb g3 gm : Nat) (p : Nat → Option Nat) (f : Nat → FileT) (o0 : Obj) (w0 w : World) (hT : Tab w0 tb p f) (hwf : ∀ i, i < 32 → (p i).isSome = true → (Lit.int .i64 (f i).2.2.2).wf = true) (hC0 : CntO o0 0 (cD p f 0))
    (hSt : St w0 [(g3, .cells #[.map (some gm)] 58 (0, 0)), (gm, o0)] w) :
    Calls Try.prog 31 #[.pointer (some ⟨tb, 0, none⟩), .func (.func 33) #[] #[.pointer (some ⟨g3, 0, none⟩)]] w fun e w' => e = .returned (.tuple #[]) ∧
      ∃ o n, CntO o n (cD p f 32) ∧ St w0 [(g3, .cells #[.map (some gm)] 58 (0, 0)), (gm, o)] w' := by
  have hTab := (hT.ext hSt.base).tab
  have HW := Lib.hid hwf
  clear hwf
  go_enter Try.func31, Try.ntmps31
  go_wp2_with (first | ((with_reducible refine ev_load_blk aTb ?_); refine ⟨rfl, _, _, _, rfl, hTab, tc_size _, ?_⟩; (simp only [Act.put, List.setIfInBounds_toArray, List.set_cons_succ, List.set_cons_zero])))
  go_loopw [14] (fun i wr => ∃ (r n : Nat) (o : Obj), r ≤ 4 ∧ i = .int .i64 r ∧ n ≤ 8 * r ∧ CntO o n (cD p f (8 * r)) ∧ St w0 [(g3, .cells #[.map (some gm)] 58 (0, 0)), (gm, o)] wr) (fun i _ => 4 - (intOf i).toNat)
  case atStart => exact ⟨0, 0, o0, by omega, rfl, by omega, hC0, hSt⟩
  case round =>
    clear hSt hC0
    obtain ⟨r, n, o, hr, rfl, hn, hC, hSt⟩ := hrel
    by_cases h : r = 4
    · subst h
      go_wp2
      go_end0
      exact ⟨rfl, o, n, hC, hSt⟩
    · have hlt : r < 4 := by omega
      have hlt' : (r : Int) < 4 := by omega
      have hix := fun w => run_index_rows p r hlt w
      have hrs := rcs_size p (8 * r) (by omega)
      go_wp2_with (first
        | ((with_reducible refine ev_alloc hSt zX3 ?_); refine ⟨rfl, ?_⟩; intro gR wN hSt; (simp only [Act.put, List.setIfInBounds_toArray, List.set_cons_succ, List.set_cons_zero]))
        | ((with_reducible refine ev_store hSt aX2 ?_); refine ⟨rfl, _, [], _, _, _, rfl, rfl, rfl, rfl, hrs, rcs_one p (8 * r) (by omega), ?_⟩; intro wN hSt; simp only [List.nil_append] at hSt; simp only [Act.put])
        | ((with_reducible refine ev_load hSt aX2 ?_); refine ⟨rfl, _, _, _, rfl, (by repeat (first | exact List.mem_cons_self .. | refine List.mem_cons_of_mem _ ?_)), hrs, ?_⟩; (simp only [Act.put, List.setIfInBounds_toArray, List.set_cons_succ, List.set_cons_zero])))
      go_loopw [18] (fun i wq => ∃ (c m : Nat) (o : Obj), c ≤ 8 ∧ i = .int .i64 c ∧ m ≤ 8 * r + c ∧ CntO o m (cD p f (8 * r + c)) ∧ St w0 [(gR, .cells (rcs p (8 * r)) 63 (0, 0)), (g3, .cells #[.map (some gm)] 58 (0, 0)), (gm, o)] wq) (fun i _ => 8 - (intOf i).toNat)
      case atStart => exact ⟨0, n, o, by omega, rfl, hn, hC, hSt⟩
      case round =>
        clear hSt hC hn
        obtain ⟨c, m, o2, hc, rfl, hm, hC, hSt⟩ := hrel
        by_cases h8 : c = 8
        · subst h8
          go_wp2
          exact ⟨⟨r + 1, m, o2, by omega, by simp, by omega, hC, hSt.tail⟩, by simp only [intOf]; omega⟩
        · have hc8 : c < 8 := by omega
          have hc8' : (c : Int) < 8 := by omega
          have hix2 := fun w => run_index_row p (8 * r) c (by omega) hc8 w
          cases hp : p (8 * r + c) with
          | none =>
            have hix3 : ∀ w, (Instr.index 63 (.agg (rcs p (8 * r))) (.int .i64 c)).run Try.prog w = .ok (.pointer none) w := fun w => by rw [hix2 w, hp]; rfl
            clear hix2
            have HD := Lib.hid (cD_none p f (8 * r + c) hp)
            go_wp2
            refine ⟨⟨c + 1, m, o2, by omega, by simp, by omega, ?_, hSt⟩, by simp only [intOf]; omega⟩
            rw [← Nat.add_assoc, HD.out]
            exact hC
          | some g =>
            have hix3 : ∀ w, (Instr.index 63 (.agg (rcs p (8 * r))) (.int .i64 c)).run Try.prog w = .ok (.pointer (some ⟨g, 0, none⟩)) w := fun w => by rw [hix2 w, hp]; rfl
            clear hix2
            have hgf := ((hT.ext hSt.base).file (8 * r + c) g (by omega) hp).1
            have HD := Lib.hid (cD_some p f (8 * r + c) g hp)
            have hle := cD_le p f (8 * r + c) (f (8 * r + c)).2.2.2
            have hcl := fun w h => clo_pins g3 gm m (f (8 * r + c)) o2 _ (by omega) (by omega) hC (HW.out _ (by omega) (by rw [hp]; rfl)) (gR, .cells (rcs p (8 * r)) 63 (0, 0)) w0 w h
            have HCL := Lib.hid hcl
            clear hcl
            clear hle
            go_wp2_with (first | ((with_reducible refine ev_load_blk aX1 ?_); refine ⟨rfl, _, _, _, rfl, hgf, rfl, ?_⟩; (simp only [Act.put, List.setIfInBounds_toArray, List.set_cons_succ, List.set_cons_zero])) | (go_at_call 33; refine (HCL.out _ hSt).mono ?_; rintro e w9 ⟨rfl, o9, n9, hn9, hC9, hSt9⟩))
            refine ⟨⟨c + 1, n9, o9, by omega, by simp, by omega, ?_, hSt9⟩, by simp only [intOf]; omega⟩
            rw [← Nat.add_assoc, HD.out]
            exact hC9
set_option maxHeartbeats 2000000 in
set_option maxRecDepth 100000 in
theorem pins_is (tb : Nat) (p : Nat → Option Nat) (f : Nat → FileT) (w : World) (hT : Tab w tb p f) (hwf : ∀ i, i < 32 → (p i).isSome = true → (Lit.int .i64 (f i).2.2.2).wf = true) :
    Calls Try.prog 26 #[.pointer (some ⟨tb, 0, none⟩)] w fun e w' => ∃ g o n, e = .returned (.map (some g)) ∧ w'.heap[g]? = some o ∧ CntO o n (cD p f 32) ∧ Below w.heap.size w w' := by
  have hmm := @run_makeMap Try.prog
  have hE : ∀ g3 gm w2, St w [(g3, .cells #[.map (some gm)] 58 (0, 0)), (gm, .map #[] 0)] w2 → _ := fun g3 gm w2 h => each_pins tb g3 gm p f (.map #[] 0) w w2 hT hwf (by rw [cD_zero]; exact cnt_start) h
  have HE := Lib.hid hE
  clear hE hwf
  go_enter Try.func26, Try.ntmps26
  go_upto_region 2 with fail
  have hSt := ((St.start w).alloc (.map #[] 0)).alloc (.cells #[.map (some w.heap.size)] 58 (0, 0))
  have hsz : (w.alloc (.map #[] 0)).heap.size = w.heap.size + 1 := by simp
  rw [hsz] at hSt
  clear hsz hmm hT
  generalize w.heap.size + 1 = g3 at hSt ⊢
  generalize hgm : (some w.heap.size : Option Nat) = gm' at hSt ⊢
  obtain ⟨gm, hg2⟩ : ∃ gm, w.heap.size = gm := ⟨_, rfl⟩
  subst hgm
  rw [hg2] at hSt ⊢
  generalize (w.alloc (.map #[] 0)).alloc (.cells #[.map (some gm)] 58 (0, 0)) = w2 at hSt ⊢
  go_wp2_with (first
    | (go_at_call 31; refine (HE.out _ _ _ hSt).mono ?_; rintro e w9 ⟨rfl, o9, n9, hC9, hSt⟩)
    | ((with_reducible refine ev_load1 hSt oMap ?_); refine ⟨rfl, _, _, _, _, _, rfl, (by repeat (first | exact List.mem_cons_self .. | refine List.mem_cons_of_mem _ ?_)), one_0 _, ?_⟩; (simp only [Act.put, List.setIfInBounds_toArray, List.set_cons_succ, List.set_cons_zero])))
  go_ret
  exact ⟨gm, o9, n9, rfl, hSt.blk (by repeat (first | exact List.mem_cons_self .. | refine List.mem_cons_of_mem _ ?_)), hC9, hSt.base⟩
end Go.Proofs.Ytfacegnnmgmjmaa
