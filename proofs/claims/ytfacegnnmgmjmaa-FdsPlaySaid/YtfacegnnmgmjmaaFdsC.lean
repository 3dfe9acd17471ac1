/- Chapter 28: Get, Close, walked. -/
import Derived.Test.YtfacegnnmgmjmaaFdsB
namespace Go.Proofs.Ytfacegnnmgmjmaa
open Go.RowKit
set_option linter.unusedSimpArgs false
set_option linter.unusedVariables false

theorem pcell_tmp {P : Program} {fn : Func} {p u : Tmp} {ty : TypeId} {n : Nat} (h : fn.results = #[.cell p ty, .tmp u]) (hT : AggT P ty n)
    (tmps : Array Value) {w : World} {g : Nat} {cs : Array Value} {T' : TypeId} {fr : Nat × Nat} (hp : tmps.getD p undef = .pointer (some ⟨g, 0, none⟩)) (hg : w.heap[g]? = some (.cells cs T' fr)) (hn : cs.size = n) :
    (results fn tmps).run P w = .ok (.tuple #[.agg cs, tmps.getD u undef]) w := by
  have hp' : tmps[p]?.getD undef = .pointer (some ⟨g, 0, none⟩) := by simpa using hp
  simp [results, h, hp', asAddr, run_load_agg hT hg hn]
theorem pcell {P : Program} {fn : Func} {p : Tmp} {ty : TypeId} {n : Nat} (h : fn.results = #[.cell p ty]) (hT : AggT P ty n)
    (tmps : Array Value) {w : World} {g : Nat} {cs : Array Value} {T' : TypeId} {fr : Nat × Nat} (hp : tmps.getD p undef = .pointer (some ⟨g, 0, none⟩)) (hg : w.heap[g]? = some (.cells cs T' fr)) (hn : cs.size = n) :
    (results fn tmps).run P w = .ok (.agg cs) w := by
  have hp' : tmps[p]?.getD undef = .pointer (some ⟨g, 0, none⟩) := by simpa using hp
  simp [results, h, hp', asAddr, run_load_agg hT hg hn]

section
variable {P : Program} {ops : Array Oper} {rest : List Oper} {Q : Exit → Act → World → Prop} {tmps : Array Value} {df : List Deferred} {d ty t u : Nat} {ps : String} {af : Array Edge} {gd : Option (Nat × Bool)} {w : World} {T : TypeId}
/-- A whole struct out of whatever block. -/
theorem ev_load_blk {n : Nat} (hT : AggT P T n) (h : Region.wanted ⟨some d, .load T (.tmp t), ty, ps, af, gd⟩ (yielded ops tmps) = true ∧ ∃ g cs T',
      tmps.getD t undef = .pointer (some ⟨g, 0, none⟩) ∧ w.heap[g]? = some (.cells cs T' (0, 0)) ∧ cs.size = n ∧
      wpList P ops Q rest (Act.put ⟨tmps, df⟩ (some d) (.agg cs)) w) :
    wpList P ops Q (⟨some d, .load T (.tmp t), ty, ps, af, gd⟩ :: rest) ⟨tmps, df⟩ w := by
  obtain ⟨hw, g, cs, T', hx, hm, hn, h⟩ := h
  refine wpl_run hw ?_ h
  have hx' : Act.eval ⟨tmps, df⟩ (.tmp t) = .pointer (some ⟨g, 0, none⟩) := hx
  simp only [execOp, hx', Instr.loadAt, Instr.sureAddr, Sem.run_bind, Sem.run_pure, Result.andThen_ok, run_load_agg hT hm hn]
end

section
variable {P : Program} {ops : Array Oper} {rest : List Oper} {Q : Exit → Act → World → Prop} {tmps : Array Value} {df : List Deferred} {d ty t u : Nat} {x : Operand} {ps : String} {af : Array Edge} {gd : Option (Nat × Bool)} {w : World} {T : TypeId}
/-- A cell of whatever block is written. -/
theorem ev_cellstore {tb i : Nat} {v0 : Value} (hc : w.cell? ⟨tb, i, none⟩ = some v0) (hf : w.frozen? ⟨tb, i, none⟩ = false) (hs : (P.info? T).map (·.size) = some 1)
    (h : Region.wanted ⟨none, .store T (.tmp t) x, ty, ps, af, gd⟩ (yielded ops tmps) = true ∧ ∃ v, tmps.getD t undef = .pointer (some ⟨tb, i, none⟩) ∧ Act.eval ⟨tmps, df⟩ x = v ∧ v.oneCell' = true ∧
      wpList P ops Q rest (Act.put ⟨tmps, df⟩ none undef) (w.setCell ⟨tb, i, none⟩ v)) :
    wpList P ops Q (⟨none, .store T (.tmp t) x, ty, ps, af, gd⟩ :: rest) ⟨tmps, df⟩ w := by
  obtain ⟨hw, v, hx, hy, h1, h⟩ := h
  refine wpl_run_skip hw ?_ h
  have hx' : Act.eval ⟨tmps, df⟩ (.tmp t) = .pointer (some ⟨tb, i, none⟩) := hx
  have hr' : (storeVar T ⟨tb, i, none⟩ v).run P w = .ok () (w.setCell ⟨tb, i, none⟩ v) := by
    have := run_storeCells_cells (P := P) tb i [v] 0 w (fun j hj => by
      have hj0 : j = 0 := by simpa using hj
      subst hj0
      simp [hc]) (fun j hj => by
      have hj0 : j = 0 := by simpa using hj
      subst hj0
      simp [hf]) (fun u hu => by
      obtain rfl := List.mem_singleton.1 hu
      exact h1)
    obtain ⟨inf, hq, hsz⟩ := Option.map_eq_some_iff.1 hs
    simp only [Nat.add_zero] at this
    simp [storeVar, sizeOf, typeInfo, hq, cells_one h1, hsz, this, World.setCells]
  simp only [execOp, hx', hy, Instr.storeAt, Instr.sureAddr, Sem.run_bind, Sem.run_pure, Result.andThen_ok, hr']
end

section
variable {P : Program} {ops : Array Oper} {rest : List Oper} {Q : Exit → Act → World → Prop} {tmps : Array Value} {df : List Deferred} {d ty t u : Nat} {x : Operand} {ps : String} {af : Array Edge} {gd : Option (Nat × Bool)} {w : World} {T : TypeId}
/-- A whole struct into whatever block. -/
theorem ev_store_blk {n : Nat} (hT : AggT P T n) (h : Region.wanted ⟨none, .store T (.tmp t) x, ty, ps, af, gd⟩ (yielded ops tmps) = true ∧ ∃ g old new,
      tmps.getD t undef = .pointer (some ⟨g, 0, none⟩) ∧ Act.eval ⟨tmps, df⟩ x = .agg new ∧ w.heap[g]? = some (.cells old T (0, 0)) ∧ old.size = n ∧ new.size = n ∧ new.all (·.oneCell') = true ∧
      wpList P ops Q rest (Act.put ⟨tmps, df⟩ none undef) (w.setRow g new)) :
    wpList P ops Q (⟨none, .store T (.tmp t) x, ty, ps, af, gd⟩ :: rest) ⟨tmps, df⟩ w := by
  obtain ⟨hw, g, old, new, hx, hy, hg, ho, hn, h1, h⟩ := h
  refine wpl_run_skip hw ?_ h
  have hx' : Act.eval ⟨tmps, df⟩ (.tmp t) = .pointer (some ⟨g, 0, none⟩) := hx
  simp only [execOp, hx', hy, Instr.storeAt, Instr.sureAddr, Sem.run_bind, Sem.run_pure, Result.andThen_ok, run_storeVar_row w g T T old new hg (by rw [hT.2, hn]) (by rw [ho, hn]) h1]
end

/-- A table whose blocks lie low. -/
theorem Tab.low {w w' : World} {tb n : Nat} {p : Nat → Option Nat} {f : Nat → FileT} (h : Tab w tb p f) (htb : tb < n) (hp : ∀ i g, i < 32 → p i = some g → g < n) (hk : ∀ k, k < n → w'.heap[k]? = w.heap[k]?) : Tab w' tb p f :=
  ⟨(hk tb htb).trans h.tab, fun i g hi hg => ⟨(hk g (hp i g hi hg)).trans (h.file i g hi hg).1, (h.file i g hi hg).2⟩⟩

set_option maxHeartbeats 1000000 in
set_option maxRecDepth 100000 in
theorem get_err (t : Value) (pr fd e : Int) (w : World) (he : (e != 0) = true) (hA : ∀ w, Calls Try.prog 29 #[t, .int .i64 pr, .int .i64 fd] w fun r w' => r = .returned (.tuple #[.pointer none, .int .i64 e]) ∧ w' = w) :
    Calls Try.prog 13 #[t, .int .i64 pr, .int .i64 fd] w fun r w' => r = .returned (.tuple #[.agg zF, .int .i64 e]) ∧ Below w.heap.size w w' := by
  have hSt := St.start w
  go_enter Try.func13, Try.ntmps13
  go_wp2_with (first
    | ((with_reducible refine ev_alloc hSt (by first | exact zPg | exact zHd | exact zHr | exact zX1 | exact zX2 | exact zX3 | exact zX4) ?_); refine ⟨rfl, ?_⟩; intro gN wN hSt; (simp only [Act.put, List.setIfInBounds_toArray, List.set_cons_succ, List.set_cons_zero]))
    | ((with_reducible refine ev_store hSt aX1 ?_); (first | refine ⟨rfl, _, [], _, _, _, rfl, rfl, rfl, rfl, rfl, (by simp [zF, fv, Value.oneCell']), ?_⟩ | refine ⟨rfl, _, [_], _, _, _, rfl, rfl, rfl, rfl, rfl, (by simp [zF, fv, Value.oneCell']), ?_⟩); intro wN hSt; simp only [List.nil_append, List.cons_append] at hSt; simp only [Act.put])
    | (go_at_call 29; refine (hA _).mono ?_; rintro e w1 ⟨rfl, rfl⟩))
  refine bodyPost_ret (pcell_tmp rfl aX1 _ rfl (hSt.blk (by repeat (first | exact List.mem_cons_self .. | refine List.mem_cons_of_mem _ ?_))) rfl) rfl ?_
  exact ⟨rfl, hSt.base⟩

set_option maxHeartbeats 1000000 in
set_option maxRecDepth 100000 in
theorem get_ok (t : Value) (pr fd : Int) (g : Nat) (x : FileT) (w : World) (hg : w.heap[g]? = some (.cells (fv x) 27 (0, 0))) (hA : ∀ w', Below w.heap.size w w' → Calls Try.prog 29 #[t, .int .i64 pr, .int .i64 fd] w' fun r w'' => r = .returned (.tuple #[.pointer (some ⟨g, 0, none⟩), .int .i64 0]) ∧ w'' = w') :
    Calls Try.prog 13 #[t, .int .i64 pr, .int .i64 fd] w fun r w' => r = .returned (.tuple #[.agg (fv x), .int .i64 0]) ∧ Below w.heap.size w w' := by
  have hSt := St.start w
  go_enter Try.func13, Try.ntmps13
  go_wp2_with (first
    | ((with_reducible refine ev_alloc hSt (by first | exact zPg | exact zHd | exact zHr | exact zX1 | exact zX2 | exact zX3 | exact zX4) ?_); refine ⟨rfl, ?_⟩; intro gN wN hSt; (simp only [Act.put, List.setIfInBounds_toArray, List.set_cons_succ, List.set_cons_zero]))
    | ((with_reducible refine ev_store hSt aX1 ?_); (first | refine ⟨rfl, _, [], _, _, _, rfl, rfl, rfl, rfl, rfl, (by simp [zF, fv, Value.oneCell']), ?_⟩ | refine ⟨rfl, _, [_], _, _, _, rfl, rfl, rfl, rfl, rfl, (by simp [zF, fv, Value.oneCell']), ?_⟩); intro wN hSt; simp only [List.nil_append, List.cons_append] at hSt; simp only [Act.put])
    | (go_at_call 29; refine (hA _ hSt.base).mono ?_; rintro e w1 ⟨rfl, rfl⟩; have hgf := blk_of hSt.base hg)
    | ((with_reducible refine ev_load_blk aX1 ?_); refine ⟨rfl, _, _, _, rfl, hgf, rfl, ?_⟩; (simp only [Act.put, List.setIfInBounds_toArray, List.set_cons_succ, List.set_cons_zero])))
  refine bodyPost_ret (pcell_tmp rfl aX1 _ rfl (hSt.blk (by repeat (first | exact List.mem_cons_self .. | refine List.mem_cons_of_mem _ ?_))) rfl) rfl ?_
  exact ⟨rfl, hSt.base⟩

set_option maxHeartbeats 1000000 in
set_option maxRecDepth 100000 in
theorem close_err (t : Value) (pr fd e : Int) (w : World) (he : (e == 0) = false) (hG : ∀ w, Calls Try.prog 13 #[t, .int .i64 pr, .int .i64 fd] w fun r w' => r = .returned (.tuple #[.agg zF, .int .i64 e]) ∧ Below w.heap.size w w') :
    Calls Try.prog 10 #[t, .int .i64 pr, .int .i64 fd] w fun r w' => r = .returned (.tuple #[.agg zF, .int .i64 e]) ∧ Below w.heap.size w w' := by
  have hSt := St.start w
  go_enter Try.func10, Try.ntmps10
  go_wp2_with (first
    | ((with_reducible refine ev_alloc hSt (by first | exact zPg | exact zHd | exact zHr | exact zX1 | exact zX2 | exact zX3 | exact zX4) ?_); refine ⟨rfl, ?_⟩; intro gN wN hSt; (simp only [Act.put, List.setIfInBounds_toArray, List.set_cons_succ, List.set_cons_zero]))
    | ((with_reducible refine ev_store hSt aX1 ?_); (first | refine ⟨rfl, _, [], _, _, _, rfl, rfl, rfl, rfl, rfl, (by simp [zF, fv, Value.oneCell']), ?_⟩ | refine ⟨rfl, _, [_], _, _, _, rfl, rfl, rfl, rfl, rfl, (by simp [zF, fv, Value.oneCell']), ?_⟩); intro wN hSt; simp only [List.nil_append, List.cons_append] at hSt; simp only [Act.put])
    | ((with_reducible refine ev_load hSt aX1 ?_); refine ⟨rfl, _, _, _, rfl, (by repeat (first | exact List.mem_cons_self .. | refine List.mem_cons_of_mem _ ?_)), rfl, ?_⟩; (simp only [Act.put, List.setIfInBounds_toArray, List.set_cons_succ, List.set_cons_zero]))
    | (go_at_call 13; refine (hG _).mono ?_; rintro e w1 ⟨rfl, hb9⟩; replace hSt := hSt.ext hb9))
  refine bodyPost_ret (pcell_tmp rfl aX1 _ rfl (hSt.blk (by repeat (first | exact List.mem_cons_self .. | refine List.mem_cons_of_mem _ ?_))) rfl) rfl ?_
  exact ⟨rfl, hSt.base⟩

set_option maxHeartbeats 2000000 in
set_option maxRecDepth 100000 in
theorem close_ok (tb pr i B : Nat) (hB : B ≤ tb) (h1 : 1 ≤ pr) (h2 : pr ≤ 4) (hi : i < 8) (p : Nat → Option Nat) (f : Nat → FileT) (g : Nat) (w : World) (hT : Tab w tb p f) (hp : p (8 * (pr - 1) + i) = some g) :
    Calls Try.prog 10 #[.pointer (some ⟨tb, 0, none⟩), .int .i64 pr, .int .i64 i] w fun r w' => r = .returned (.tuple #[.agg (fv (f (8 * (pr - 1) + i))), .int .i64 0]) ∧ Tab w' tb (upd p (8 * (pr - 1) + i) none) f ∧ Below B w w' ∧ KB tb w w' := by
  have hSt := St.start w
  have hG : ∀ w', Below w.heap.size w w' → Calls Try.prog 13 #[.pointer (some ⟨tb, 0, none⟩), .int .i64 pr, .int .i64 i] w' fun r w'' => r = .returned (.tuple #[.agg (fv (f (8 * (pr - 1) + i))), .int .i64 0]) ∧ Below w'.heap.size w' w'' := fun w' hb => by
    have hT' := hT.ext hb
    refine get_ok _ _ _ g _ w' (hT'.file _ g (by omega) hp).1 (fun w2 hb2 => ?_)
    have := at_in tb pr i h1 h2 hi p f w2 (hT'.ext hb2)
    rw [hp] at this
    exact this
  have hR := fun w => row_yes tb pr h1 h2 w
  obtain ⟨o, ho⟩ : ∃ o, 8 * (pr - 1) = o := ⟨_, rfl⟩
  have ho2 : o ≤ 24 := by omega
  rw [ho] at hR hG hp ⊢
  clear ho h1 h2
  have hi' : (i : Int) < 8 := by omega
  have htb := lt_of_blk hT.tab
  generalize hx : f (o + i) = x at hG
  go_enter Try.func10, Try.ntmps10
  go_wp2_with (first
    | ((with_reducible refine ev_alloc hSt (by first | exact zPg | exact zHd | exact zHr | exact zX1 | exact zX2 | exact zX3 | exact zX4) ?_); refine ⟨rfl, ?_⟩; intro gN wN hSt; (simp only [Act.put, List.setIfInBounds_toArray, List.set_cons_succ, List.set_cons_zero]))
    | ((with_reducible refine ev_store hSt aX1 ?_); (first | refine ⟨rfl, _, [], _, _, _, rfl, rfl, rfl, rfl, rfl, (by simp [zF, fv, Value.oneCell']), ?_⟩ | refine ⟨rfl, _, [_], _, _, _, rfl, rfl, rfl, rfl, rfl, (by simp [zF, fv, Value.oneCell']), ?_⟩); intro wN hSt; simp only [List.nil_append, List.cons_append] at hSt; simp only [Act.put])
    | ((with_reducible refine ev_load hSt aX1 ?_); refine ⟨rfl, _, _, _, rfl, (by repeat (first | exact List.mem_cons_self .. | refine List.mem_cons_of_mem _ ?_)), rfl, ?_⟩; (simp only [Act.put, List.setIfInBounds_toArray, List.set_cons_succ, List.set_cons_zero]))
    | (go_at_call 13; refine (hG _ hSt.base).mono ?_; rintro e w1 ⟨rfl, hb9⟩; replace hSt := hSt.ext hb9)
    | (go_at_call 28; refine (hR _).mono ?_; rintro e w2 ⟨rfl, rfl⟩
       have hT1 := hT.ext hSt.base
       have hc := hT1.cell (o + i) (by omega)
       have hf := frozen_of_row w2 tb (o + i) _ _ hT1.tab
       have hset := hT1.set hB (o + i) (by omega) none x (fun g hg => by cases hg)
       have h8 := hSt.own _ (List.mem_cons_self ..)
       have h6 := hSt.own _ (List.mem_cons_of_mem _ (List.mem_cons_self ..))
       have hbase := hSt.base
       clear hSt)
    | ((with_reducible refine ev_cellstore hc hf (by kernel_rfl) ?_); refine ⟨rfl, _, rfl, rfl, rfl, ?_⟩; have hgf := hset.2.2 _ _ h8.1 (Nat.ne_of_gt (Nat.lt_of_lt_of_le htb h8.2)); have h6f := hset.2.2 _ _ h6.1 (Nat.ne_of_gt (Nat.lt_of_lt_of_le htb h6.2)))
    | ((with_reducible refine ev_load_blk aX1 ?_); refine ⟨rfl, _, _, _, rfl, hgf, rfl, ?_⟩; (simp only [Act.put, List.setIfInBounds_toArray, List.set_cons_succ, List.set_cons_zero]))
    | ((with_reducible refine ev_store_blk aX1 ?_); refine ⟨rfl, _, _, _, rfl, rfl, h6f, rfl, rfl, (by simp [fv, Value.oneCell']), ?_⟩))
  obtain ⟨wS, hwS⟩ : ∃ wS, w2.setCell ⟨tb, o + i, none⟩ (pv none) = wS := ⟨_, rfl⟩
  rw [hwS] at hset hgf h6f
  have hwS' : w2.setCell ⟨tb, o + i, none⟩ (.pointer none) = wS := hwS
  rw [hwS']
  have hoth : ∀ k, k < w.heap.size → (wS.setRow _ (fv x)).heap[k]? = wS.heap[k]? := fun k hk => setRow_other wS _ k _ (Nat.ne_of_lt (Nat.lt_of_lt_of_le hk h6.2))
  refine bodyPost_ret (pcell_tmp rfl aX1 _ rfl (setRow_heap wS _ zF (fv x) _ _ h6f) rfl) rfl ?_
  have hf2 : updF f (o + i) x = f := by
    funext j
    unfold updF
    split
    · rename_i h; subst h; exact hx.symm
    · rfl
  rw [hf2] at hset
  refine ⟨rfl, hset.1.low htb (fun j g hj hg => ?_) hoth, (hbase.mono (by omega)).trans (hset.2.1.trans ⟨rfl, rfl, rfl, by simp, fun k hk => hoth k (by omega)⟩), fun k ob hk hn => (hoth k (lt_of_blk hk)).trans (hset.2.2 k ob (blk_of hbase hk) hn)⟩
  unfold upd at hg
  split at hg
  · cases hg
  · exact lt_of_blk (hT.file j g hj hg).1
end Go.Proofs.Ytfacegnnmgmjmaa
