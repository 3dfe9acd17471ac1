/- Chapter 17: the reference's Put in one law; its Same; the law's Plain: walked. -/
import Derived.Test.YteohokidlopbnaaMkE
import Derived.ChangeKeysEq
namespace Go.Proofs.Yteohokidlopbnaa
open Go.RowKit
set_option linter.unusedSimpArgs false
set_option linter.unusedVariables false

theorem set_erase (es : List EntT) (i : Nat) (x : EntT) : (es.set i x).eraseIdx i = es.eraseIdx i := by
  induction es generalizing i with
  | nil => rfl
  | cons e es ih => cases i with
    | zero => rfl
    | succ i => simp [ih]
theorem rput_is (B r : Nat) (u0 : Value) (K R key : Int) (v : ValT) (es : List EntT) (w : World) (hM : Rm w B r u0 (K == 2) R es) (hn : es.length ≤ 50) (hK : K = 1 ∨ K = 2) (hR : 1 ≤ R) (hl : (es.length : Int) ≤ R) :
    Calls Try.prog 14 #[.pointer (some ⟨r, 0, none⟩), .int .i64 key, .agg (vvs v)] w fun e w' => e = .returned (.int .i64 (putE K R es key)) ∧ ∃ u', RmT w w' B r u0 u' (K == 2) R (putL K R es key v) := by
  unfold putE putL
  cases hf : findI es key with
  | some i =>
    obtain ⟨hi, he⟩ := findI_some hf
    simp only
    rcases hK with rfl | rfl
    · have := rput_stands B r i u0 R key v es w hM hn hf hi
      have e : touched 1 (es.set i (key, v)) i = es.take i ++ [(key, v)] ++ es.drop (i + 1) := by
        unfold touched
        rw [if_neg (by decide), List.set_eq_take_append_cons_drop, if_pos hi]
        simp
      rw [e]
      exact this
    · have := rput_used B r i u0 R key v es w hM hn hf hi
      have e : touched 2 (es.set i (key, v)) i = es.eraseIdx i ++ [(key, v)] := by
        unfold touched
        rw [if_pos (by decide), set_erase, List.getElem?_set_self hi]
        rfl
      rw [e]
      exact this
  | none =>
    simp only
    by_cases hlt : (es.length : Int) < R
    · simp only [if_pos hlt]
      exact rput_new B r u0 (K == 2) R key v es w hM hn hf hlt
    · simp only [if_neg hlt]
      rcases hK with rfl | rfl
      · refine (rput_hash B r u0 R key v es w hM hn hf (by omega)).mono ?_
        rintro e w' ⟨rfl, h⟩
        exact ⟨rfl, u0, h⟩
      · exact rput_lru B r u0 R key v es w hM hn hf (by omega) (by omega)

section
variable {ops : Array Oper} {rest : List Oper} {Q : Exit → Act → World → Prop} {tmps : Array Value} {df : List Deferred} {d ty t u : Nat} {ps : String} {af : Array Edge} {gd : Option (Nat × Bool)} {w : World}
theorem re_load_at (h : Region.wanted ⟨some d, .load 68 (.tmp t), ty, ps, af, gd⟩ (yielded ops tmps) = true ∧ ∃ x e,
      tmps.getD t undef = .pointer (some x) ∧ EnAt w x e ∧ wpList Try.prog ops Q rest (Act.put ⟨tmps, df⟩ (some d) (.agg (evs e))) w) :
    wpList Try.prog ops Q (⟨some d, .load 68 (.tmp t), ty, ps, af, gd⟩ :: rest) ⟨tmps, df⟩ w := by
  obtain ⟨hw, x, f, hx, hg, h⟩ := h
  refine wpl_run hw ?_ h
  have hx' : Act.eval ⟨tmps, df⟩ (.tmp t) = .pointer (some x) := hx
  have hr := run_loadVar_at (P := Try.prog) w x 68 (evs f).toList _ (fun j v hv => hg j v (by simpa using hv)) Try.underlying68 rfl (by rw [aRe.2]; rfl)
  simp only [execOp, hx', Instr.loadAt, Instr.sureAddr, Sem.run_bind, Sem.run_pure, Result.andThen_ok, hr]
theorem vv_load_at (h : Region.wanted ⟨some d, .load 30 (.tmp t), ty, ps, af, gd⟩ (yielded ops tmps) = true ∧ ∃ g e T,
      tmps.getD t undef = .pointer (some ⟨g, 1, none⟩) ∧ w.heap[g]? = some (.cells (evs e) T (0, 0)) ∧ wpList Try.prog ops Q rest (Act.put ⟨tmps, df⟩ (some d) (.agg (vvs e.2))) w) :
    wpList Try.prog ops Q (⟨some d, .load 30 (.tmp t), ty, ps, af, gd⟩ :: rest) ⟨tmps, df⟩ w := by
  obtain ⟨hw, g, e, T, hx, hg, h⟩ := h
  refine wpl_run hw ?_ h
  have hx' : Act.eval ⟨tmps, df⟩ (.tmp t) = .pointer (some ⟨g, 1, none⟩) := hx
  have hr := run_loadVar_at (P := Try.prog) w ⟨g, 1, none⟩ 30 (vvs e.2).toList _ (fun j v hv => by
    rw [Addr.add_mid, cell_of_row w g _ _ _ _ hg]
    have hj : j < 4 := by simpa [vvs] using (List.getElem?_eq_some_iff.1 hv).1
    rcases (by omega : j = 0 ∨ j = 1 ∨ j = 2 ∨ j = 3) with rfl | rfl | rfl | rfl <;> exact hv) Try.underlying30 rfl (by rw [aX1.2]; rfl)
  simp only [execOp, hx', Instr.loadAt, Instr.sureAddr, Sem.run_bind, Sem.run_pure, Result.andThen_ok, hr]
end

theorem cellsInt : Try.prog.cellsOf 3 = 1 := by kernel_rfl
theorem infoIntS : (Try.prog.info? 3).map (·.size) = some 1 := by kernel_rfl
theorem run_eqItems4 (w : World) (d : Nat) (v : ValT) : ∀ is : List Nat, (∀ i ∈ is, i < 4) →
    (Op.eqItems (d + 1) 3 1 (vvs v) (vvs v) is).run Try.prog w = .ok true w
  | [], _ => by simp [Op.eqItems]
  | i :: is, h => by
    have hi := h i (List.mem_cons_self ..)
    have hagg : (isAgg 3).run Try.prog w = .ok false w := by
      unfold isAgg
      rw [Sem.run_bind, run_underlying Try.underlying3 w]
      rfl
    have hg : ∃ z : Int, (vvs v)[i]? = some (.int .i64 z) := by
      rcases (by omega : i = 0 ∨ i = 1 ∨ i = 2 ∨ i = 3) with rfl | rfl | rfl | rfl <;> exact ⟨_, rfl⟩
    obtain ⟨z, hz⟩ := hg
    have hp : (part 3 (vvs v) i).run Try.prog w = .ok (.int .i64 z) w := by
      simp [part, Sem.run_bind, hagg, hz]
    have ih := run_eqItems4 w d v is (fun j hj => h j (List.mem_cons_of_mem _ hj))
    simp only [Op.eqItems, Sem.run_bind, Nat.mul_one, hp, Result.andThen_ok, run_equalIn_int w d 3 .i64 .i64 _ _ Try.underlying3, BEq.rfl, Bool.not_true, Bool.false_eq_true, if_false]
    exact ih
theorem run_equal4 (w : World) (n : Nat) (v : ValT) : (Op.equalIn (n + 1 + 1) 29 (.agg (vvs v)) (.agg (vvs v))).run Try.prog w = .ok true w := by
  obtain ⟨i, hi, -⟩ := Option.map_eq_some_iff.1 infoIntS
  rw [run_equalIn_array w _ _ _ Try.underlying29 hi, cellsInt]
  exact run_eqItems4 w n v _ (fun i hi => List.mem_range.1 hi)
theorem fieldsRe : (Try.prog.fieldsOf 68).toList.map (fun f => (f.name, f.type, f.offset)) = [("Key", 3, 0), ("Value", 29, 1)] := by kernel_rfl
theorem underRe : Try.prog.underlying 68 = some (.struct (Try.prog.fieldsOf 68)) := by kernel_rfl
theorem stoodRe : Try.prog.stoodInHeld 68 = false := by kernel_rfl
theorem run_equalRe (w : World) (e : EntT) : (Op.equalIn (9999 + 1) 68 (.agg (evs e)) (.agg (evs e))).run Try.prog w = .ok true w := by
  rw [run_equalIn_struct w 9999 _ _ _ underRe stoodRe]
  have p1 : (part 3 (evs e) 0).run Try.prog w = .ok (.int .i64 e.1) w := by kernel_rfl
  have p2 : (part 29 (evs e) 1).run Try.prog w = .ok (.agg (vvs e.2)) w := by kernel_rfl
  have q1 := run_equalIn_int (P := Try.prog) w 9998 3 .i64 .i64 e.1 e.1 Try.underlying3
  have q2 := run_equal4 w 9997 e.2
  have hf := fieldsRe
  generalize (Try.prog.fieldsOf 68).toList = fs at hf
  obtain ⟨f, g, rfl⟩ : ∃ f g, fs = [f, g] := by
    have hlen := congrArg List.length hf
    rw [List.length_map] at hlen
    obtain ⟨f, fs, rfl⟩ := List.exists_cons_of_length_eq_add_one hlen
    obtain ⟨g, fs, rfl⟩ := List.exists_cons_of_length_eq_add_one (Nat.succ.inj hlen)
    obtain rfl := List.eq_nil_of_length_eq_zero (Nat.succ.inj (Nat.succ.inj hlen))
    exact ⟨f, g, rfl⟩
  · simp only [List.map_cons, List.map_nil, List.cons.injEq, Prod.mk.injEq, and_true] at hf
    obtain ⟨⟨n1, t1, o1⟩, n2, t2, o2⟩ := hf
    simp only [Op.eqFields, n1, n2, t1, t2, o1, o2, Sem.run_bind, p1, p2, Result.andThen_ok]
    rw [if_pos (by decide)]
    simp only [Sem.run_bind, p1, p2, Result.andThen_ok, q1, BEq.rfl, Bool.not_true, Bool.false_eq_true, if_false]
    rw [if_pos (by decide)]
    simp only [Sem.run_bind, p1, p2, Result.andThen_ok, q2, Bool.not_true, Bool.false_eq_true, if_false, Sem.run_pure]
theorem guardRe : Try.prog.eqGuardType Try.prog.depth 68 = false := by kernel_rfl
section
variable {ops : Array Oper} {rest : List Oper} {Q : Exit → Act → World → Prop} {tmps : Array Value} {df : List Deferred} {d ty t u : Nat} {ps : String} {af : Array Edge} {gd : Option (Nat × Bool)} {w : World}
theorem re_neq {x y : Operand} (h : Region.wanted ⟨some d, .binOp .neq 68 x y 68, ty, ps, af, gd⟩ (yielded ops tmps) = true ∧ ∃ e,
      Act.eval ⟨tmps, df⟩ x = .agg (evs e) ∧ Act.eval ⟨tmps, df⟩ y = .agg (evs e) ∧
      wpList Try.prog ops Q rest (Act.put ⟨tmps, df⟩ (some d) (.bool false)) w) :
    wpList Try.prog ops Q (⟨some d, .binOp .neq 68 x y 68, ty, ps, af, gd⟩ :: rest) ⟨tmps, df⟩ w := by
  obtain ⟨hw, v, hx, hy, h⟩ := h
  refine wpl_run hw ?_ h
  have hq := run_equalRe w v
  simp only [execOp, hx, hy, Sem.run_bind, run_eqGuard_agg w _ _ _ _ _ _ guardRe, Result.andThen_ok, run_neq_struct, hq, Sem.run_pure, Bool.not_true]
end

set_option maxHeartbeats 2000000 in
set_option maxRecDepth 100000 in
theorem rsame_is (a b : Option Addr) (es : List EntT) (ca cb : Nat) (w : World) (hl : EnSl w a es) (hk : EnSl w b es) (hn : es.length ≤ 1000) :
    Calls Try.prog 15 #[.slice a es.length ca, .slice b es.length cb] w fun e w' => e = .returned (.bool true) ∧ Below w.heap.size w w' := by
  have e0 : ((es.length : Int) != es.length) = false := by simp
  go_enter Try.func15, Try.ntmps15
  go_wp2
  go_loopw [5] (fun i wr => ∃ k : Nat, k ≤ es.length ∧ i = .int .i64 k ∧ Below w.heap.size w wr) (fun i _ => es.length - (intOf i).toNat)
  case atStart => exact ⟨0, by omega, rfl, Below.refl _ _⟩
  case round =>
    obtain ⟨k, hk0, rfl, hbw⟩ := hrel
    by_cases h : k = es.length
    · subst h
      go_wp2
      go_ret
      exact ⟨rfl, hbw⟩
    · have hlt : k < es.length := by omega
      have hlt' : (k : Int) < es.length := by omega
      obtain ⟨x, rfl, hata⟩ := hl.ext hbw k hlt
      obtain ⟨y, rfl, hatb⟩ := hk.ext hbw k hlt
      generalize es[k] = f at hata hatb
      go_wp2
      refine wp_region_seq (S := fun w' => Below wr.heap.size wr w') mixed17 (by kernel_rfl) (by kernel_rfl) (Below.refl _ _).drew ?_
      iterate 9 (refine seq_take (v := ?_) rfl (of_decide_eq_true rfl) (fun w9 hS => ?_) ?_; rotate_left; (focus (have hqa := hata.ext hS; have hqb := hatb.ext hS; go_wp2_with (first | ((with_reducible refine re_load_at ?_); refine ⟨rfl, _, _, rfl, hqa, ?_⟩; (simp only [Act.put, List.setIfInBounds_toArray, List.set_cons_succ, List.set_cons_zero])) | ((with_reducible refine re_load_at ?_); refine ⟨rfl, _, _, rfl, hqb, ?_⟩; (simp only [Act.put, List.setIfInBounds_toArray, List.set_cons_succ, List.set_cons_zero])) | ((with_reducible refine re_neq ?_); refine ⟨rfl, _, rfl, rfl, ?_⟩; (simp only [Act.put, List.setIfInBounds_toArray, List.set_cons_succ, List.set_cons_zero]))); refine VQ_mk ?_ rfl ?_; (focus rfl); exact hS)); (simp only [Act.put, List.setIfInBounds_toArray, List.set_cons_succ, List.set_cons_zero, Array.getD_eq_getD_getElem?, List.getElem?_toArray, List.getElem?_cons_succ, List.getElem?_cons_zero, Option.getD_some]))
      refine seq_nil fun wz hS => ?_
      go_wp2
      refine ⟨⟨k + 1, by omega, by simp, hbw.trans (hS.mono hbw.size)⟩, by simp only [intOf]; omega⟩

set_option maxHeartbeats 2000000 in
set_option maxRecDepth 100000 in
theorem plain_is (a : Option Addr) (es : List EntT) (c : Nat) (w : World) (hl : EnSl w a es) (hn : es.length ≤ 900) :
    Calls Try.prog 16 #[.slice a es.length c] w fun e w' => ∃ v', e = .returned v' ∧ RRow w' w.heap.size v' es ∧ Below w.heap.size w w' := by
  go_enter Try.func16, Try.ntmps16
  go_wp2
  go_loopw [3, 8] (fun s i wr => ∃ k : Nat, k ≤ es.length ∧ i = .int .i64 k ∧ OwnE w.heap.size k (es.take k) s wr ∧ Below w.heap.size w wr) (fun _ i _ => es.length - (intOf i).toNat)
  case atStart => exact ⟨0, by omega, rfl, World.ownsRow_nil _ _ _ _, Below.refl _ _⟩
  case round =>
    obtain ⟨k, hk0, rfl, hown, hbw⟩ := hrel
    by_cases h : k = es.length
    · subst h
      have HO := Lib.hid hown
      clear hown
      go_wp2
      go_ret
      refine ⟨_, rfl, ?_, hbw⟩
      have := HO.out
      rw [List.take_length] at this
      exact this
    · have hlt : k < es.length := by omega
      have hlt' : (k : Int) < es.length := by omega
      obtain ⟨x, rfl, hat⟩ := hl.ext hbw k hlt
      have htk : es.take (k + 1) = es.take k ++ [es[k]] := by rw [List.take_add_one, List.getElem?_eq_getElem hlt, Option.toList_some]
      generalize es[k] = f at hat htk
      have hHT := Lib.hid htk
      clear htk
      have hSt := St.start wr
      go_wp2_with (first
        | ((with_reducible refine en_load_at ?_); refine ⟨rfl, _, _, rfl, hat, ?_⟩; (simp only [Act.put, List.setIfInBounds_toArray, List.set_cons_succ, List.set_cons_zero])) | ((with_reducible refine ev_alloc hSt zX2 ?_); refine ⟨rfl, ?_⟩; intro gE wN hSt; (simp only [Act.put, List.setIfInBounds_toArray, List.set_cons_succ, List.set_cons_zero])) | ((with_reducible refine ev_store hSt aX2 ?_); refine ⟨rfl, _, [], _, _, evs _, rfl, rfl, rfl, rfl, rfl, (by simp [evs, Value.oneCell']), ?_⟩; intro wN hSt; simp only [List.nil_append] at hSt; simp only [Act.put]) | ((with_reducible refine ev_load1 hSt oInt ?_); refine ⟨rfl, _, _, _, _, _, rfl, (by repeat (first | exact List.mem_cons_self .. | refine List.mem_cons_of_mem _ ?_)), evs0 _, ?_⟩; (simp only [Act.put, List.setIfInBounds_toArray, List.set_cons_succ, List.set_cons_zero])) | ((with_reducible refine vv_load_at ?_); refine ⟨rfl, _, _, _, rfl, hSt.blk (by repeat (first | exact List.mem_cons_self .. | refine List.mem_cons_of_mem _ ?_)), ?_⟩; (simp only [Act.put, List.setIfInBounds_toArray, List.set_cons_succ, List.set_cons_zero])) | ((with_reducible refine ev_rentry ?_); refine ⟨rfl, _, _, rfl, rfl, ?_⟩; (simp only [Act.put, List.setIfInBounds_toArray, List.set_cons_succ, List.set_cons_zero]))
        | ((with_reducible refine ev_rslice1 ?_); refine ⟨rfl, f, rfl, ?_⟩; (simp only [Act.put, List.setIfInBounds_toArray, List.set_cons_succ, List.set_cons_zero])
           have hStA := hSt.alloc (.cells (evs f) 68)
           obtain ⟨vA, wA, hrun, hownA, hA, -⟩ := run_appR (m := 1) (c := 1) (row_below hown hStA.base) (newR_sl (heap_alloc_last _ _)) rfl (fun e => by cases e) (Nat.le_trans hbw.size hStA.base.size) (by omega)
           have hbA := (hbw.trans (hStA.base.mono hbw.size)).trans (hA.below (row_below hown hStA.base) (Nat.le_trans hbw.size hStA.base.size))
           rw [← hHT.out] at hownA
           have HO := Lib.hid (And.intro hownA hbA)
           clear hownA hbA hA)
        | ((with_reducible refine ev_append ?_); refine ⟨rfl, _, _, _, _, rfl, rfl, hrun, ?_⟩; (simp only [Act.put, List.setIfInBounds_toArray, List.set_cons_succ, List.set_cons_zero])))
      refine ⟨⟨k + 1, by omega, by simp, HO.out.1, HO.out.2⟩, by simp only [intOf]; omega⟩
end Go.Proofs.Yteohokidlopbnaa
