/- Chapter 17: Use, New, All, Len. -/
import Derived.Test.YteohokidlopbnaaMapH
import Derived.Laws.Cover3
namespace Go.Proofs.Yteohokidlopbnaa
open Go.RowKit
set_option linter.unusedSimpArgs false
set_option linter.unusedVariables false

theorem res_tmp2 {P : Program} {fn : Func} {a b : Tmp} (h : fn.results = #[.tmp a, .tmp b]) (tmps : Array Value) (w : World) : (results fn tmps).run P w = .ok (.tuple #[tmps.getD a undef, tmps.getD b undef]) w := by
  simp [results, h]
theorem own_lt {w : World} {B g k : Nat} {v0 : Value} {K R : Int} {es : List EntT} (hM : Mp w B g v0 K R es) (hk : w.heap.size ≤ k) : v0.ownBlock ≠ some k := fun e => by
  rcases hM.row.2 with ⟨hv, -⟩ | ⟨h, cap, cur, hv, -, hg, -⟩
  · rw [hv] at e; cases e
  · rw [hv] at e
    have := lt_of_blk hg
    have e' : h = k := Option.some.inj e
    omega
theorem keep_new {w wA w1 : World} {l : List (Nat × Obj)} {B g : Nat} {v0 v' : Value} {K R : Int} {es es' : List EntT} (hM : Mp w B g v0 K R es) (hSt : St w l wA) (hT : MpT wA w1 B g v0 v' K R es') {k : Nat} {o : Obj} (hm : (k, o) ∈ l) : w1.heap[k]? = some o := by
  have h1 := (hSt.own _ hm).2
  have h2 := lt_of_blk hM.blk
  exact hT.rest.keep k o (hSt.blk hm) (by omega) (own_lt hM h1)
theorem MpT.setNew {w w1 : World} {B g : Nat} {v0 v' : Value} {K R : Int} {es : List EntT} (hT : MpT w w1 B g v0 v' K R es) {k : Nat} (hk : w.heap.size ≤ k) (hg : g < w.heap.size) (hv : v'.ownBlock ≠ some k) (hB : B ≤ w.heap.size) (cs : Array Value) : MpT w (w1.setRow k cs) B g v0 v' K R es := by
  have ho : ∀ j, j ≠ k → (w1.setRow k cs).heap[j]? = w1.heap[j]? := fun j hj => setRow_other _ k j _ hj
  refine ⟨⟨hT.mp.low, (ho g (by omega)).trans hT.mp.blk, ?_, hT.mp.apart⟩, ⟨hT.rest.below.trans ⟨rfl, rfl, rfl, by simp, fun j hj => ho j (by omega)⟩, fun j o hj hjg hjh => (ho j (by have := lt_of_blk hj; omega)).trans (hT.rest.keep j o hj hjg hjh)⟩, hT.own⟩
  refine ⟨hT.mp.row.1, ?_⟩
  rcases hT.mp.row.2 with hn | ⟨q, c2, c3, hv2, h1, h2, rest⟩
  · exact .inl hn
  · refine .inr ⟨q, c2, c3, hv2, h1, (ho q (fun e => hv (by rw [hv2, e]; rfl))).trans h2, rest⟩
theorem MpT.pre {w wA w1 : World} {B g : Nat} {v v' : Value} {K R : Int} {es es' : List EntT} (hM : Mp w B g v K R es) (hb : Below w.heap.size w wA) (hT : MpT wA w1 B g v v' K R es') : MpT w w1 B g v v' K R es' := (MpT.below hM hb).trans hT

section
variable {P : Program} {ops : Array Oper} {rest : List Oper} {Q : Exit → Act → World → Prop} {tmps : Array Value} {df : List Deferred} {d ty t u : Nat} {x : Operand} {ps : String} {af : Array Edge} {gd : Option (Nat × Bool)} {w : World} {T : TypeId}
/-- A whole struct into whatever block. -/
theorem ev_store_blk {n : Nat} (hT : AggT P T n) (h : Region.wanted ⟨none, .store T (.tmp t) x, ty, ps, af, gd⟩ (yielded ops tmps) = true ∧ ∃ g old new,
      tmps.getD t undef = .pointer (some ⟨g, 0, none⟩) ∧ Act.eval ⟨tmps, df⟩ x = .agg new ∧ w.heap[g]? = some (.cells old T (0, 0)) ∧ old.size = n ∧ new.size = n ∧ new.all (·.oneCell') = true ∧
      wpList P ops Q rest (Act.put ⟨tmps, df⟩ none undef) (w.setRow g new)) :
    wpList P ops Q (⟨none, .store T (.tmp t) x, ty, ps, af, gd⟩ :: rest) ⟨tmps, df⟩ w := by
  obtain ⟨hw, g, old, new, hx, hy, hg, ho, hn, h1, h⟩ := h
  refine wpl_run_skip hw ?_ h
  have hx' : Act.eval ⟨tmps, df⟩ (.tmp t) = .pointer (some ⟨g, 0, none⟩) := hx
  simp only [execOp, hx', hy, Instr.storeAt, Instr.sureAddr, Sem.run_bind, Sem.run_pure, Result.andThen_ok, run_storeVar_row w g T T old new hg (by rw [hT.2, hn]) (by rw [ho, hn]) h1]
end

/-- New: a map of its own. -/
theorem run_newmp (K R : Int) (w : World) : (Instr.build 61 #[(0, .int .i64 K), (1, .int .i64 R)]).run Try.prog w = .ok (.agg (mpc K R (.slice none 0 0))) w := by kernel_rfl
section
variable {ops : Array Oper} {rest : List Oper} {Q : Exit → Act → World → Prop} {tmps : Array Value} {df : List Deferred} {d ty t u : Nat} {ps : String} {af : Array Edge} {gd : Option (Nat × Bool)} {w : World}
theorem ev_newmp {x y : Operand} (h : Region.wanted ⟨some d, .build 61 #[(0, x), (1, y)], ty, ps, af, gd⟩ (yielded ops tmps) = true ∧ ∃ K R, Act.eval ⟨tmps, df⟩ x = .int .i64 K ∧ Act.eval ⟨tmps, df⟩ y = .int .i64 R ∧
      wpList Try.prog ops Q rest (Act.put ⟨tmps, df⟩ (some d) (.agg (mpc K R (.slice none 0 0)))) w) :
    wpList Try.prog ops Q (⟨some d, .build 61 #[(0, x), (1, y)], ty, ps, af, gd⟩ :: rest) ⟨tmps, df⟩ w := by
  obtain ⟨hw, K, R, hx, hy, h⟩ := h
  refine wpl_run hw ?_ h
  have e : (#[(0, x), (1, y)] : Array (Nat × Operand)).map (fun z => (z.1, Act.eval ⟨tmps, df⟩ z.2)) = #[(0, .int .i64 K), (1, .int .i64 R)] := by simp [hx, hy]
  simp only [execOp]
  rw [e]
  simp only [Sem.run_bind, run_newmp, Result.andThen_ok, Sem.run_pure]
end
def newOk (K R : Int) : Bool := (K == 1 || K == 2) && !(decide (R < 1)) && !(decide (R > 8))
set_option maxHeartbeats 1000000 in
set_option maxRecDepth 100000 in
theorem new_ok (K R : Int) (w : World) (hK : K = 1 ∨ K = 2) (h1 : 1 ≤ R) (h8 : R ≤ 8) :
    Calls Try.prog 7 #[.int .i64 K, .int .i64 R] w fun e w' => ∃ g, e = .returned (.tuple #[.pointer (some ⟨g, 0, none⟩), .int .i64 0]) ∧ Below w.heap.size w w' ∧ Mp w' w.heap.size g (.slice none 0 0) K R [] := by
  have e1 : decide (R < 1) = false := decide_eq_false (by omega)
  have e2 : decide (R > 8) = false := decide_eq_false (by omega)
  have e3 : decide (8 < R) = false := decide_eq_false (by omega)
  have hSt := St.start w
  have fin : ∀ g w', St w [(g, .cells (mpc K R (.slice none 0 0)) 61 (0, 0))] w' → Mp w' w.heap.size g (.slice none 0 0) K R [] := fun g w' h =>
    ⟨(h.own _ (List.mem_cons_self ..)).2, (h.own _ (List.mem_cons_self ..)).1, ⟨rfl, .inl ⟨rfl, rfl⟩⟩, fun e => by cases e⟩
  have hfin := Lib.hid fin
  clear fin
  rcases hK with rfl | rfl
  all_goals
    go_enter Try.func7, Try.ntmps7
    go_wp2_with (first
      | ((with_reducible refine ev_newmp ?_); refine ⟨rfl, _, _, rfl, rfl, ?_⟩; (simp only [Act.put, List.setIfInBounds_toArray, List.set_cons_succ, List.set_cons_zero]))
      | ((with_reducible refine ev_box hSt ?_); refine ⟨rfl, _, rfl, ?_⟩; intro gV wN hSt; (simp only [Act.put, List.setIfInBounds_toArray, List.set_cons_succ, List.set_cons_zero])))
    (try simp only [Exit.inBlock, Exit.then])
    refine bodyPost_ret (res_tmp2 rfl _ _) rfl ?_
    exact ⟨_, rfl, hSt.base, hfin.out _ _ hSt⟩
set_option maxHeartbeats 1000000 in
set_option maxRecDepth 100000 in
theorem new_no (K R : Int) (w : World) (h : newOk K R = false) :
    Calls Try.prog 7 #[.int .i64 K, .int .i64 R] w fun e w' => e = .returned (.tuple #[.pointer none, .int .i64 22]) ∧ w' = w := by
  unfold newOk at h
  cases e1 : (K == 1) <;> cases e2 : (K == 2) <;> cases e3 : decide (R < 1) <;> cases e4 : decide (R > 8) <;> simp only [e1, e2, e3, e4, Bool.or_true, Bool.true_or, Bool.or_false, Bool.not_false, Bool.not_true, Bool.and_true, Bool.and_false, Bool.false_and, reduceCtorEq] at h
  all_goals
    have e5 : (K != 1) = !(K == 1) := rfl
    have e6 : (K != 2) = !(K == 2) := rfl
    rw [e1] at e5
    rw [e2] at e6
    simp only [Bool.not_true, Bool.not_false] at e5 e6
    go_enter Try.func7, Try.ntmps7
    go_wp2
    (try simp only [Exit.inBlock, Exit.then])
    refine bodyPost_ret (res_tmp2 rfl _ _) rfl ?_
    exact ⟨rfl, rfl⟩

set_option maxHeartbeats 1000000 in
set_option maxRecDepth 100000 in
/-- Use, where the key stands. -/
theorem use_yes (B g i : Nat) (v0 : Value) (K R key : Int) (es : List EntT) (w : World) (hM : Mp w B g v0 K R es) (hn : es.length ≤ 1000) (hfi : findI es key = some i) (hi : i < es.length) :
    Calls Try.prog 21 #[.pointer (some ⟨g, 0, none⟩), .int .i64 key] w fun e w' => e = .returned (.tuple #[.agg (vvs es[i].2), .bool true]) ∧ ∃ v', MpT w w' B g v0 v' K R (touched K es i) := by
  have hFnd := fun w hM => find_is B g v0 K R key es w hM hn
  rw [hfi] at hFnd
  simp only [idxV] at hFnd
  have hGet := fun w hM => get_yes B g i v0 K R key es w hM hn hfi hi
  have hTch := fun w hM => touch_is B g i v0 K R es w hM hi hn
  have hSt := St.start w
  have hB : B ≤ w.heap.size := by have := hM.low; have := lt_of_blk hM.blk; omega
  generalize es[i].2 = val at hGet ⊢
  go_enter Try.func21, Try.ntmps21
  go_wp2_with (first
    | ((with_reducible refine ev_alloc hSt zX1 ?_); refine ⟨rfl, ?_⟩; intro gN wN hSt; (simp only [Act.put, List.setIfInBounds_toArray, List.set_cons_succ, List.set_cons_zero])) | ((with_reducible refine ev_store hSt aX1 ?_); (first | refine ⟨rfl, _, [], _, _, _, rfl, rfl, rfl, rfl, rfl, vvs_all _, ?_⟩ | refine ⟨rfl, _, [_], _, _, _, rfl, rfl, rfl, rfl, rfl, vvs_all _, ?_⟩ | refine ⟨rfl, _, [_, _], _, _, _, rfl, rfl, rfl, rfl, rfl, vvs_all _, ?_⟩); intro wN hSt; simp only [List.nil_append, List.cons_append] at hSt; simp only [Act.put]) | ((with_reducible refine ev_load hSt aX1 ?_); refine ⟨rfl, _, _, _, rfl, (by repeat (first | exact List.mem_cons_self .. | refine List.mem_cons_of_mem _ ?_)), rfl, ?_⟩; (simp only [Act.put, List.setIfInBounds_toArray, List.set_cons_succ, List.set_cons_zero]))
    | (go_at_call 9; refine (hGet _ (hM.ext hSt.base)).mono ?_; rintro e w1 ⟨rfl, hb9⟩; replace hSt := hSt.ext hb9)
    | (go_at_call 24; refine (hFnd _ (hM.ext hSt.base)).mono ?_; rintro e w1 ⟨rfl, hb9⟩; replace hSt := hSt.ext hb9)
    | (go_at_call 25; refine (hTch _ (hM.ext hSt.base)).mono ?_; rintro e w11 ⟨rfl, v', hT9⟩; have hk6 := keep_new hM hSt hT9 (List.mem_cons_self ..); have hk4 := keep_new hM hSt hT9 (List.mem_cons_of_mem _ (List.mem_cons_self ..)))
    | ((with_reducible refine ev_load_agg_blk aX1 ?_); refine ⟨rfl, _, _, _, rfl, hk6, rfl, ?_⟩; (simp only [Act.put, List.setIfInBounds_toArray, List.set_cons_succ, List.set_cons_zero]))
    | ((with_reducible refine ev_store_blk aX1 ?_); refine ⟨rfl, _, _, _, rfl, rfl, hk4, rfl, rfl, vvs_all _, ?_⟩; simp only [Act.put]))
  have hm4 := hSt.own _ (List.mem_cons_of_mem _ (List.mem_cons_self ..))
  refine bodyPost_ret (pcell_tmp rfl aX1 _ rfl (setRow_heap _ _ _ _ _ _ hk4) rfl) rfl ?_
  refine ⟨rfl, v', (MpT.pre hM hSt.base hT9).setNew hm4.2 (lt_of_blk hM.blk) ?_ hB _⟩
  rcases hT9.own.own with e | ⟨q, e, hq⟩
  · rw [e]; exact own_lt hM hm4.2
  · rw [e]
    have := lt_of_blk hm4.1
    exact fun e2 => by have := Option.some.inj e2; omega

theorem slEq_no (h n c0 : Nat) (w : World) : (binOp .eql 54 (.slice (some ⟨h, 0, none⟩) n c0) (.slice none 0 0)).run Try.prog w = .ok (.bool false) w := by
  simp [binOp, run_underlying Try.underlying54, run_equal_slice_nil (P := Try.prog) w 54 64 _ _ _ Try.underlying54]
theorem slEq_nil (w : World) : (binOp .eql 54 (.slice none 0 0) (.slice none 0 0)).run Try.prog w = .ok (.bool true) w := by
  simp [binOp, run_underlying Try.underlying54, run_equal_slice_nil (P := Try.prog) w 54 64 _ _ _ Try.underlying54]
set_option maxHeartbeats 1000000 in
set_option maxRecDepth 100000 in
theorem clone_nil (w : World) : Calls Try.prog 29 #[.slice none 0 0] w fun e w' => e = .returned (.slice none 0 0) ∧ w' = w := by
  have hEq := slEq_nil
  go_enter Try.func29, Try.ntmps29
  go_wp2
  go_ret
  exact ⟨rfl, rfl⟩
set_option maxHeartbeats 1000000 in
set_option maxRecDepth 100000 in
theorem clone_is (h n c0 : Nat) (es : List EntT) (w : World) (hn : es.length = n) (hcap : n ≤ c0) (hn1 : n ≤ 1000) (hl : ∀ j u, (rowe es)[j]? = some u → w.cell? ((⟨h, 0, none⟩ : Addr).add j) = some u) :
    Calls Try.prog 29 #[.slice (some ⟨h, 0, none⟩) n c0] w fun e w' => ∃ v', e = .returned v' ∧ w'.ownsRow w.heap.size 64 5 v' n (rowe es) ∧ Below w.heap.size w w' := by
  obtain ⟨i0, hi0, hz1, hz2, hz3⟩ := info_parts infoEn
  have hrl := rowe_len es
  rw [hn] at hrl
  have hlh : ∀ j u, (rowe es)[j]? = some u → (⟨h, 0, none⟩ : Addr).block < w.heap.size := fun j u hu => by
    have := cell_lt (hl j u hu)
    rwa [Addr.add_lit] at this
  have hHL := Lib.hid hl
  clear hl
  have hEq := slEq_no h n c0
  have hown0 : (w.alloc (.cells #[] 64)).ownsRow w.heap.size 64 5 (.slice (some ⟨w.heap.size, 0, none⟩) 0 0) 0 [] := ⟨rfl, .inr ⟨w.heap.size, 0, #[], rfl, Nat.le_refl _, heap_alloc_last _ _, Nat.le_refl _, Nat.zero_le _, rfl, rfl⟩⟩
  have hnews : ∀ j u, (rowe es)[j]? = some u → (w.alloc (.cells #[] 64)).cell? ((⟨h, 0, none⟩ : Addr).add j) = some u := fun j u hu => by
    have h1 := hHL.out j u hu
    rw [((Below.refl _ w).alloc (Nat.le_refl _) _).cell (cell_lt h1), h1]
  have hHN := Lib.hid hnews
  clear hnews hlh
  go_enter Try.func29, Try.ntmps29
  go_wp2_with (first
    | (at_builtin; refine wpList_append_own_at _ rfl _ _ 54 rfl w.heap.size 64 i0 _ 5 40 Try.underlying54 hi0 hz1 hz2 hz3 rfl (by decide) _ _ _ rfl hown0 _ n c0 (rowe es) rfl hrl hHN.out (rowe_one es) (by unfold maxLen; omega) (by omega) (by simp) ?_; intro v' w1' hown' hgrow0 hnil hloc0
       have hgrow : (w.alloc (.cells #[] 64)).grownBy w1' (some w.heap.size) := hgrow0
       clear hgrow0 hloc0 hnil
       rw [Nat.zero_add, List.nil_append] at hown'
       have hown2 := Lib.hid hown'
       clear hown'))
  go_ret
  exact ⟨_, rfl, hown2.out, ((Below.refl _ w).alloc (Nat.le_refl _) _).grown hgrow (by simp) (fun k hk => by cases hk; exact Nat.le_refl _)⟩

theorem row_slice {w : World} {B T k n : Nat} {v : Value} {xs : List Value} (h : w.ownsRow B T k v n xs) : ∃ a c, v = .slice a n c := by
  rcases h.2 with ⟨rfl, h0⟩ | ⟨g, cap, cur, rfl, -⟩
  · exact ⟨none, 0, by rw [h0]⟩
  · exact ⟨_, _, rfl⟩
theorem cln_is {B : Nat} {v : Value} {es : List EntT} (w w1 : World) (hb : Below w.heap.size w w1) (hr : w.ownsRow B 64 5 v es.length (rowe es)) (hn : es.length ≤ 1000) :
    Calls Try.prog 29 #[v] w1 fun e w' => ∃ v', e = .returned v' ∧ w'.ownsRow w1.heap.size 64 5 v' es.length (rowe es) ∧ Below w1.heap.size w1 w' := by
  rcases hr.2 with ⟨rfl, h0⟩ | ⟨g, cap, cur, rfl, h1, h2, h3, h4, h5, h6⟩
  · refine (clone_nil w1).mono ?_
    rintro e w' ⟨rfl, rfl⟩
    have : es = [] := List.eq_nil_of_length_eq_zero h0
    subst this
    exact ⟨_, rfl, ⟨rfl, .inl ⟨rfl, rfl⟩⟩, Below.refl _ _⟩
  · refine clone_is g es.length cap es w1 rfl h3 hn fun j u hu => ?_
    have hc := (row_below hr hb).cells (g := g) rfl j u hu
    exact hc
set_option maxHeartbeats 1000000 in
set_option maxRecDepth 100000 in
theorem all_is (B g : Nat) (v : Value) (K R : Int) (es : List EntT) (w : World) (hM : Mp w B g v K R es) (hn : es.length ≤ 1000) :
    Calls Try.prog 17 #[.pointer (some ⟨g, 0, none⟩)] w fun e w' => ∃ v', e = .returned v' ∧ w'.ownsRow w.heap.size 64 5 v' es.length (rowe es) ∧ Below w.heap.size w w' := by
  have hC := fun w1 hb => cln_is w w1 hb hM.row hn
  have hSt := St.start w
  go_enter Try.func17, Try.ntmps17
  go_wp2_with (first
    | ((with_reducible refine ev_load1_blk oSl ?_); refine ⟨rfl, _, _, _, _, _, rfl, blk_of hSt.base hM.blk, mpc2 _ _ _, ?_⟩; (simp only [Act.put, List.setIfInBounds_toArray, List.set_cons_succ, List.set_cons_zero]))
    | (go_at_call 29; refine (hC _ (Below.refl _ _)).mono ?_; rintro e w1 ⟨v', rfl, hr9, hb9⟩))
  go_ret
  exact ⟨_, rfl, hr9, hb9⟩
set_option maxHeartbeats 1000000 in
set_option maxRecDepth 100000 in
theorem len_is (B g : Nat) (v : Value) (K R : Int) (es : List EntT) (w : World) (hM : Mp w B g v K R es) (hn : es.length ≤ 1000) :
    Calls Try.prog 10 #[.pointer (some ⟨g, 0, none⟩)] w fun e w' => e = .returned (.int .i64 es.length) ∧ Below w.heap.size w w' := by
  have hA := all_is B g v K R es w hM hn
  go_enter Try.func10, Try.ntmps10
  go_wp2_with (first
    | (go_at_call 17; refine hA.mono ?_; rintro e w1 ⟨v', rfl, hr9, hb9⟩; obtain ⟨a1, c1, rfl⟩ := row_slice hr9))
  go_ret
  exact ⟨rfl, hb9⟩
end Go.Proofs.Yteohokidlopbnaa
