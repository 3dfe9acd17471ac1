/- The law SumParts, walked. -/
import Derived.Test.YtaajndackdmbeaaLaw01C
import Derived.Laws.OwnMore
namespace Go.Proofs.Ytaajndackdmbeaa
open Go.RowKit
set_option linter.unusedSimpArgs false

theorem Try.infoStr : (Try.prog.info? 9).map (fun i => (i.size, i.bytes, i.zero)) = some (1, 16, some (.string ⟨#[]⟩)) := by kernel_rfl

theorem infoStr' : ∃ i, Try.prog.info? 9 = some i ∧ i.size = 1 ∧ i.bytes = 16 ∧ i.zero = some (.string ⟨#[]⟩) := by
  obtain ⟨i, hi, h⟩ := Option.map_eq_some_iff.1 Try.infoStr
  simp only [Prod.mk.injEq] at h
  exact ⟨i, hi, h.1, h.2.1, h.2.2⟩

theorem setRow_self {w : World} {g : Nat} {cs : Array Value} {T : TypeId} {fr : Nat × Nat} (hg : w.heap[g]? = some (.cells cs T fr)) : Below w.heap.size w (w.setRow g cs) :=
  ⟨rfl, rfl, rfl, by simp, fun k _ => by
    by_cases hk : k = g
    · subst hk; rw [setRow_heap w k cs cs T fr hg, hg]
    · exact setRow_other w g k cs hk⟩

/-- append([]string{}, ss...). -/
theorem run_append_empty {w : World} {g B : Nat} (hg : w.heap[g]? = some (.cells #[] 9 (0, 0))) (hB : B ≤ g) (a : Option Addr) (ss : List ByteArray) (cap : Nat) (hl : StrSl w a ss) (hs : ss.length ≤ 60) (hcap : a = none → cap = 0) :
    ∃ v' w', (Builtin.append_ #[23, 23] 23 #[.slice (some ⟨g, 0, none⟩) 0 0, .slice a ss.length cap]).run Try.prog w = .ok v' w' ∧ Below w.heap.size w w' ∧ w'.ownsRow B 9 1 v' ss.length (ss.map .string) := by
  obtain ⟨i, hi, hi1, hi2, hi3⟩ := infoStr'
  have hglt := lt_of_blk hg
  have hown : w.ownsRow B 9 1 (.slice (some ⟨g, 0, none⟩) 0 0) 0 [] := ⟨by simp, .inr ⟨g, 0, #[], rfl, hB, hg, Nat.le_refl _, by simp, by simp, by simp⟩⟩
  cases a with
  | none =>
    have h0 : ss = [] := by
      cases ss with
      | nil => rfl
      | cons s ss => obtain ⟨x, hx, -⟩ := hl 0 (by simp); cases hx
    subst h0
    obtain rfl := hcap rfl
    exact ⟨_, _, run_append_owned_none (P := Try.prog) (w := w) B 23 23 9 i 1 Try.underlying23 hi _ 0 [] hown, Below.refl _ _, hown⟩
  | some x =>
    have hnews : ∀ (j : Nat) (v : Value), (ss.map Value.string)[j]? = some v → w.cell? (x.add j) = some v := by
      intro j v hv
      rw [List.getElem?_map, Option.map_eq_some_iff] at hv
      obtain ⟨s, h1, rfl⟩ := hv
      have hj : j < ss.length := (List.getElem?_eq_some_iff.1 h1).1
      obtain ⟨y, h2, h3⟩ := hl j hj
      obtain rfl := Option.some.inj h2
      rw [h3]
      rw [List.getElem?_eq_getElem hj] at h1
      rw [Option.some.inj h1]
    by_cases h0 : ss.length = 0
    · have hr := run_append_room (P := Try.prog) w 23 23 9 i Try.underlying23 hi g 0 0 #[] hg x 0 cap [] (by simp) (by simp) (by simp) (by omega) (by simp)
      have hnil : ss = [] := List.eq_nil_of_length_eq_zero h0
      subst hnil
      have e : (List.take (0 * i.size) (#[] : Array Value).toList ++ [] ++ List.drop (0 * i.size + ([] : List Value).length) (#[] : Array Value).toList).toArray = #[] := by simp
      rw [e] at hr
      exact ⟨_, _, hr, setRow_self hg, ⟨by simp, .inr ⟨g, 0, #[], rfl, hB, setRow_heap w g _ _ _ _ hg, Nat.le_refl _, by simp, by simp, by simp⟩⟩⟩
    · have hr := run_append_grow (P := Try.prog) w 23 23 9 i _ Try.underlying23 hi hi3 ⟨g, 0, none⟩ 0 0 [] (by simp) (by simp) x ss.length cap (ss.map .string) (by simp [hi1]) hnews (by omega) (by omega)
        (by rw [Nat.zero_add, nextslicecap_zero (by omega), hi2]; omega)
      simp only [Nat.zero_add] at hr
      have hge := grownCap_ge w ss.length 0 9
      have hle := grownCap_le_maxLen w ss.length 0 9 (by unfold maxLen; omega)
      generalize grownCap w ss.length 0 9 = c at hr hge hle
      exact ⟨_, _, hr, ((Below.refl _ _).drew).alloc (Nat.le_refl _) _, by simp, .inr ⟨w.heap.size, c, _, rfl, by omega, heap_alloc_last w.drew _, hge, hle, by
        simp [size_zeroCells, Value.cells]
        omega, by simp⟩⟩

theorem toS_ofS {p : Int × Int} (h : okP p) : ofS (toS p) = p := by
  obtain ⟨a, b⟩ := p
  unfold okP at h
  simp only at h
  unfold ofS toS
  simp only
  have : (b * 65536 + a) % 65536 % 65535 = a ∧ (b * 65536 + a) / 65536 % 65535 = b := by omega
  rw [this.1, this.2]

theorem toS_bd {p : Int × Int} (h : okP p) : 0 ≤ toS p ∧ toS p < 4294967296 := by
  unfold okP at h
  unfold toS
  omega

/-- A row of the call's own. -/
def OwnR (B : Nat) (n : Nat) (xs : List Value) : VR := fun v w => w.ownsRow B 9 1 v n xs
theorem ownR_stable (B n : Nat) (xs : List Value) : Stable (OwnR B n xs) := fun v w w' h hb => h.kept (row := none) ⟨hb.os, hb.tape, hb.output, hb.size, fun k hk _ => hb.block k hk⟩ (by cases v.ownBlock <;> simp)

def EmptyR (B : Nat) : VR := fun v w => ∃ g, v = .slice (some ⟨g, 0, none⟩) 0 0 ∧ B ≤ g ∧ w.heap[g]? = some (.cells #[] 9 (0, 0))
theorem emptyR_stable (B : Nat) : Stable (EmptyR B) := fun _ _ _ ⟨g, h1, h2, h3⟩ hb => ⟨g, h1, h2, blk_of hb h3⟩

theorem cut_flat (s : ByteArray) (k : Nat) (_hk : k ≤ s.size) : flat [s.extract 0 k, s.extract k s.size] = s.data.toList := by
  have hsz : s.size = s.data.size := rfl
  simp only [flat, List.flatMap_cons, List.flatMap_nil, List.append_nil, ByteArray.data_extract, Array.toList_extract, List.extract_eq_take_drop, List.drop_zero, Nat.sub_zero]
  rw [hsz, List.take_of_length_le (l := List.drop k s.data.toList) (by simp), List.take_append_drop]

theorem grown_below {B B' : Nat} {w0 w w' : World} {v : Value} {T : TypeId} {n m : Nat} {xs : List Value} (h : Below B w0 w) (hown : w.ownsRow B' T n v m xs) (hB : B ≤ B') (hw : B ≤ w.heap.size) (hg : w.grownBy w' v.ownBlock) : Below B w0 w' :=
  ⟨hg.os.trans h.os, hg.tape.trans h.tape, hg.output.trans h.output, Nat.le_trans h.size hg.size, fun k hk => (hg.block k (by omega) (fun e => by have := (hown.lt k e.symm).1; omega)).trans (h.block k hk)⟩

theorem sumSum_n (a : Option Addr) (ss : List ByteArray) (n cap : Nat) (w : World) (hn : ss.length = n) (hl : StrSl w a ss) (hs : ss.length ≤ 9223372036854775807) (hz : ∀ s ∈ ss, s.size ≤ 9223372036854775807) :
    Calls Try.prog 11 #[.slice a n cap] w fun e w' => e = .returned (.int .u32 (toS (sm (0, 0) (flat ss)))) ∧ Below w.heap.size w w' := by
  subst hn
  exact sumSum_any a ss cap w hl hs hz

theorem strSl_own {w : World} {g : Nat} {C : Array Value} {T : TypeId} {fr : Nat × Nat} {n : Nat} (hg : w.heap[g]? = some (.cells C T fr)) (ss : List ByteArray) (h : C.toList.take (n * 1) = ss.map .string) : StrSl w (some ⟨g, 0, none⟩) ss := by
  intro j hj
  refine ⟨_, rfl, ?_⟩
  have h1 : (C.toList.take (n * 1))[j]? = some (.string ss[j]) := by rw [h]; simp [hj]
  rw [List.getElem?_take] at h1
  split at h1
  · rw [Addr.add_mid, cell_of_row _ _ _ _ _ _ hg, Nat.zero_add, ← Array.getElem?_toList, h1]
  · cases h1

theorem ev_append {P : Program} {ops : Array Oper} {rest : List Oper} {Q : Exit → Act → World → Prop} {tmps : Array Value} {df : List Deferred} {d ty t u : Nat} {T U : TypeId} {ps : String} {af : Array Edge} {gd : Option (Nat × Bool)} {w : World}
    (h : Region.wanted ⟨some d, .call { callee := .builtin .append, args := #[.tmp t, .tmp u], argTypes := #[T, U] }, ty, ps, af, gd⟩ (yielded ops tmps) = true ∧ ∃ x y v w',
      tmps.getD t undef = x ∧ tmps.getD u undef = y ∧ (Builtin.append_ #[T, U] ty #[x, y]).run P w = .ok v w' ∧ wpList P ops Q rest (Act.put ⟨tmps, df⟩ (some d) v) w') :
    wpList P ops Q (⟨some d, .call { callee := .builtin .append, args := #[.tmp t, .tmp u], argTypes := #[T, U] }, ty, ps, af, gd⟩ :: rest) ⟨tmps, df⟩ w := by
  obtain ⟨hw, x, y, v, w', hx, hy, hr, h⟩ := h
  refine wpl_run hw ?_ h
  have hx' : Act.eval ⟨tmps, df⟩ (.tmp t) = x := hx
  have hy' : Act.eval ⟨tmps, df⟩ (.tmp u) = y := hy
  simp [execOp, resolve, invoke, builtin, hx', hy', hr, Result.andThen]

theorem append2 {w : World} {B n : Nat} {v : Value} {ss : List ByteArray} (hown : w.ownsRow B 9 1 v n (ss.map .string)) (hn : n ≤ 60) (s1 s2 : ByteArray) (a : Option Addr) (c : Nat) (hl : StrSl w a [s1, s2]) (hB : B ≤ w.heap.size) :
    ∃ g cap w', (Builtin.append_ #[23, 23] 23 #[v, .slice a 2 c]).run Try.prog w = .ok (.slice (some ⟨g, 0, none⟩) (n + 2) cap) w' ∧ StrSl w' (some ⟨g, 0, none⟩) (ss ++ [s1, s2]) ∧ w.grownBy w' v.ownBlock := by
  obtain ⟨i, hi, hi1, hi2, hi3⟩ := infoStr'
  obtain ⟨x, rfl, hx0⟩ := hl 0 (by simp)
  obtain ⟨x', hx', hx1⟩ := hl 1 (by simp)
  obtain rfl := Option.some.inj hx'
  obtain ⟨v', w', h1, h2, h3, -⟩ := run_append_own (P := Try.prog) w B 23 23 9 i _ 1 16 Try.underlying23 hi hi3 hi1 hi2 rfl (by omega) v n _ hown x 2 c [.string s1, .string s2] (by simp)
    (fun j u hu => by
      match j, hu with
      | 0, hu => simp at hu; subst hu; exact hx0
      | 1, hu => simp at hu; subst hu; exact hx1)
    (by simp; exact ⟨rfl, rfl⟩) (by unfold maxLen; omega) (by omega) hB
  rcases h2.2 with ⟨-, h0⟩ | ⟨g, cap, cur, rfl, -, hg, -, -, -, htake⟩
  · omega
  · exact ⟨g, cap, w', h1, strSl_own hg _ (by rw [htake]; simp), h3⟩

set_option maxRecDepth 100000 in
set_option maxHeartbeats 4000000 in
theorem walk_SumParts (a : Option Addr) (ss : List ByteArray) (cap : Nat) (b : Option Addr) (ts : List ByteArray) (dap : Nat) (k : Int) (w : World) (hl : StrSl w a ss) (hs : ss.length ≤ 9223372036854775807) (hz : ∀ s ∈ ss, s.size ≤ 281474976710656) (hca : a = none → cap = 0)
    (hk : StrSl w b ts) (ht : ts.length ≤ 9223372036854775807) (hu : ∀ s ∈ ts, s.size ≤ 281474976710656) :
    Calls Try.prog 6 #[.slice a ss.length cap, .slice b ts.length dap, .int .i64 k] w fun e w' => e = .returned (.bool true) ∧ Below w.heap.size w w' := by
  go_enter Try.func6, Try.ntmps6
  by_cases hL : isLong ss = true
  · go_wp2_with (first
      | (go_at_call 8; refine (awake01 _).mono ?_; rintro e w1 ⟨rfl, hb1⟩)
      | (go_at_call 9; refine (long_any a ss cap _ (hl.ext hb1) hs hz).mono ?_; rintro e w2 ⟨rfl, hb2⟩; rw [hL]))
    go_ret
    exact ⟨rfl, bseq hb1 hb2⟩
  have hL' : isLong ss = false := by simpa using hL
  clear hL
  by_cases hM : isLong ts = true
  · go_wp2_with (first
      | (go_at_call 8; refine (awake01 _).mono ?_; rintro e w1 ⟨rfl, hb1⟩)
      | (go_at_call 9; with_reducible refine (long_any a ss cap _ (hl.ext hb1) hs hz).mono ?_; rintro e w2 ⟨rfl, hb2⟩; rw [hL'])
      | (go_at_call 9; with_reducible refine (long_any b ts dap _ (hk.ext (bseq hb1 hb2)) ht hu).mono ?_; rintro e w3 ⟨rfl, hb3⟩; rw [hM]))
    go_ret
    exact ⟨rfl, bseq (bseq hb1 hb2) hb3⟩
  have hM' : isLong ts = false := by simpa using hM
  clear hM
  have hq : ss.length ≤ 60 ∧ (flat ss).length ≤ 3000 := by
    unfold isLong at hL'
    have := of_decide_eq_false hL'
    omega
  have hr : ts.length ≤ 60 ∧ (flat ts).length ≤ 3000 := by
    unfold isLong at hM'
    have := of_decide_eq_false hM'
    omega
  have hcs : (cat ts).size ≤ 3000 := by rw [cat_size]; omega
  have hok := okP_sm (flat ss) _ okP0
  have hsz1 := sz_max hz
  have hsz2 := sz_max hu
  by_cases c1 : k < 0
  · go_wp2_with (first
      | (go_at_call 8; refine (awake01 _).mono ?_; rintro e w1 ⟨rfl, hb1⟩)
      | (go_at_call 9; with_reducible refine (long_any a ss cap _ (hl.ext hb1) hs hz).mono ?_; rintro e w2 ⟨rfl, hb2⟩; rw [hL'])
      | (go_at_call 9; with_reducible refine (long_any b ts dap _ (hk.ext (bseq hb1 hb2)) ht hu).mono ?_; rintro e w3 ⟨rfl, hb3⟩; rw [hM'])
      | (go_at_call 10; refine (joined_any b ts dap _ (hk.ext (bseq (bseq hb1 hb2) hb3)) hr.1 hr.2).mono ?_; rintro e w4 ⟨rfl, hb4⟩))
    have hw4 := bseq (bseq (bseq hb1 hb2) hb3) hb4
    have hl4 := hl.ext hw4
    have hk4 := hk.ext hw4
    have hcut := cut_flat (cat ts) 0 (by omega)
    rw [cat_list] at hcut
    refine wp_region_rel (S := fun w' => Below w4.heap.size w4 w') [26, 27, 28, 29, 30, 31, 32, 33, 34, 35, 36, 37, 38, 39] Try.mixed (by kernel_rfl) (by kernel_rfl) (by decide) (by kernel_rfl) (fun _ _ h k => h.trans (k.mono h.size)) (Below.refl _ _).drew ?_
    (refine rel_eq (v := ?_) ?_ ?_; rotate_left; (focus ((simp only [Lay, List.nil_append, List.cons_append, List.setIfInBounds_toArray, List.set_cons_succ, List.set_cons_zero]; intros; rename_i w9 hS hF; simp only [FactsE, List.nil_append, List.cons_append, List.toList_toArray, List.getElem?_cons_succ, List.getElem?_cons_zero] at hF; try (repeat (first | obtain ⟨rfl, hF⟩ := hF | obtain ⟨⟨aF, capF, rfl, hslF⟩, hF⟩ := hF | obtain ⟨⟨gE, rfl, hgE1, hgE2⟩, hF⟩ := hF | obtain ⟨hownF, hF⟩ := hF))); refine step_take rfl (of_decide_eq_true rfl) ?_; skip; go_wp2_with (first | (go_at_call 11; with_reducible refine (sumSum_any a ss cap _ (hl4.ext hS) hs hsz1).mono ?_; rintro e w5 ⟨rfl, hb5⟩) | (go_at_call 13; with_reducible refine (more_any _ b ts dap _ (toS_bd hok).1 (toS_bd hok).2 (hk4.ext hS) ht hsz2).mono ?_; rintro e w5 ⟨rfl, hb5⟩)); refine RQ_mk rfl ?_ ?_; (focus (first | exact Below.refl _ _ | assumption)); (focus (first | (simp only [Array.getD_eq_getD_getElem?, List.getElem?_toArray, List.getElem?_cons_succ, List.getElem?_cons_zero, Option.getD_some]; done) | (simp only [Array.getD_eq_getD_getElem?, List.getElem?_toArray, List.getElem?_cons_succ, List.getElem?_cons_zero, Option.getD_some]; rfl) | rfl)))))
    (refine rel_eq (v := ?_) ?_ ?_; rotate_left; (focus ((simp only [Lay, List.nil_append, List.cons_append, List.setIfInBounds_toArray, List.set_cons_succ, List.set_cons_zero]; intros; rename_i w9 hS hF; simp only [FactsE, List.nil_append, List.cons_append, List.toList_toArray, List.getElem?_cons_succ, List.getElem?_cons_zero] at hF; try (repeat (first | obtain ⟨rfl, hF⟩ := hF | obtain ⟨⟨aF, capF, rfl, hslF⟩, hF⟩ := hF | obtain ⟨⟨gE, rfl, hgE1, hgE2⟩, hF⟩ := hF | obtain ⟨hownF, hF⟩ := hF))); refine step_take rfl (of_decide_eq_true rfl) ?_; skip; go_wp2_with (first | (go_at_call 11; with_reducible refine (sumSum_any a ss cap _ (hl4.ext hS) hs hsz1).mono ?_; rintro e w5 ⟨rfl, hb5⟩) | (go_at_call 13; with_reducible refine (more_any _ b ts dap _ (toS_bd hok).1 (toS_bd hok).2 (hk4.ext hS) ht hsz2).mono ?_; rintro e w5 ⟨rfl, hb5⟩)); refine RQ_mk rfl ?_ ?_; (focus (first | exact Below.refl _ _ | assumption)); (focus (first | (simp only [Array.getD_eq_getD_getElem?, List.getElem?_toArray, List.getElem?_cons_succ, List.getElem?_cons_zero, Option.getD_some]; done) | (simp only [Array.getD_eq_getD_getElem?, List.getElem?_toArray, List.getElem?_cons_succ, List.getElem?_cons_zero, Option.getD_some]; rfl) | rfl)))))
    (refine rel_eq (v := ?_) ?_ ?_; rotate_left; (focus ((simp only [Lay, List.nil_append, List.cons_append, List.setIfInBounds_toArray, List.set_cons_succ, List.set_cons_zero]; intros; rename_i w9 hS hF; simp only [FactsE, List.nil_append, List.cons_append, List.toList_toArray, List.getElem?_cons_succ, List.getElem?_cons_zero] at hF; try (repeat (first | obtain ⟨rfl, hF⟩ := hF | obtain ⟨⟨aF, capF, rfl, hslF⟩, hF⟩ := hF | obtain ⟨⟨gE, rfl, hgE1, hgE2⟩, hF⟩ := hF | obtain ⟨hownF, hF⟩ := hF))); refine step_take rfl (of_decide_eq_true rfl) ?_; skip; go_wp2_with (first | (go_at_call 11; with_reducible refine (sumSum_any a ss cap _ (hl4.ext hS) hs hsz1).mono ?_; rintro e w5 ⟨rfl, hb5⟩) | (go_at_call 13; with_reducible refine (more_any _ b ts dap _ (toS_bd hok).1 (toS_bd hok).2 (hk4.ext hS) ht hsz2).mono ?_; rintro e w5 ⟨rfl, hb5⟩)); refine RQ_mk rfl ?_ ?_; (focus (first | exact Below.refl _ _ | assumption)); (focus (first | (simp only [Array.getD_eq_getD_getElem?, List.getElem?_toArray, List.getElem?_cons_succ, List.getElem?_cons_zero, Option.getD_some]; done) | (simp only [Array.getD_eq_getD_getElem?, List.getElem?_toArray, List.getElem?_cons_succ, List.getElem?_cons_zero, Option.getD_some]; rfl) | rfl)))))
    (refine rel_eq (v := ?_) ?_ ?_; rotate_left; (focus ((simp only [Lay, List.nil_append, List.cons_append, List.setIfInBounds_toArray, List.set_cons_succ, List.set_cons_zero]; intros; rename_i w9 hS hF; simp only [FactsE, List.nil_append, List.cons_append, List.toList_toArray, List.getElem?_cons_succ, List.getElem?_cons_zero] at hF; try (repeat (first | obtain ⟨rfl, hF⟩ := hF | obtain ⟨⟨aF, capF, rfl, hslF⟩, hF⟩ := hF | obtain ⟨⟨gE, rfl, hgE1, hgE2⟩, hF⟩ := hF | obtain ⟨hownF, hF⟩ := hF))); refine step_take rfl (of_decide_eq_true rfl) ?_; skip; go_wp2_with (first | (go_at_call 11; with_reducible refine (sumSum_any a ss cap _ (hl4.ext hS) hs hsz1).mono ?_; rintro e w5 ⟨rfl, hb5⟩) | (go_at_call 13; with_reducible refine (more_any _ b ts dap _ (toS_bd hok).1 (toS_bd hok).2 (hk4.ext hS) ht hsz2).mono ?_; rintro e w5 ⟨rfl, hb5⟩)); refine RQ_mk rfl ?_ ?_; (focus (first | exact Below.refl _ _ | assumption)); (focus (first | (simp only [Array.getD_eq_getD_getElem?, List.getElem?_toArray, List.getElem?_cons_succ, List.getElem?_cons_zero, Option.getD_some]; done) | (simp only [Array.getD_eq_getD_getElem?, List.getElem?_toArray, List.getElem?_cons_succ, List.getElem?_cons_zero, Option.getD_some]; rfl) | rfl)))))
    refine rel_any (EmptyR w4.heap.size) (emptyR_stable _) ?_ ?_
    · (simp only [Lay, List.nil_append, List.cons_append, List.setIfInBounds_toArray, List.set_cons_succ, List.set_cons_zero]; intros; rename_i w9 hS hF; simp only [FactsE, List.nil_append, List.cons_append, List.toList_toArray, List.getElem?_cons_succ, List.getElem?_cons_zero] at hF; try (repeat (first | obtain ⟨rfl, hF⟩ := hF | obtain ⟨⟨aF, capF, rfl, hslF⟩, hF⟩ := hF | obtain ⟨⟨gE, rfl, hgE1, hgE2⟩, hF⟩ := hF | obtain ⟨hownF, hF⟩ := hF)))
      refine step_take rfl (of_decide_eq_true rfl) ?_
      go_wp2
      refine RQ_mk rfl ((Below.refl _ _).alloc (Nat.le_refl _) _) ?_
      simp only [Array.getD_eq_getD_getElem?, List.getElem?_toArray, List.getElem?_cons_succ, List.getElem?_cons_zero, Option.getD_some]
      exact ⟨_, rfl, hS.size, heap_alloc_last _ _⟩
    (refine rel_eq (v := ?_) ?_ ?_; rotate_left; (focus ((simp only [Lay, List.nil_append, List.cons_append, List.setIfInBounds_toArray, List.set_cons_succ, List.set_cons_zero]; intros; rename_i w9 hS hF; simp only [FactsE, List.nil_append, List.cons_append, List.toList_toArray, List.getElem?_cons_succ, List.getElem?_cons_zero] at hF; try (repeat (first | obtain ⟨rfl, hF⟩ := hF | obtain ⟨⟨aF, capF, rfl, hslF⟩, hF⟩ := hF | obtain ⟨⟨gE, rfl, hgE1, hgE2⟩, hF⟩ := hF | obtain ⟨hownF, hF⟩ := hF))); refine step_take rfl (of_decide_eq_true rfl) ?_; skip; go_wp2_with (first | (go_at_call 11; with_reducible refine (sumSum_any a ss cap _ (hl4.ext hS) hs hsz1).mono ?_; rintro e w5 ⟨rfl, hb5⟩) | (go_at_call 13; with_reducible refine (more_any _ b ts dap _ (toS_bd hok).1 (toS_bd hok).2 (hk4.ext hS) ht hsz2).mono ?_; rintro e w5 ⟨rfl, hb5⟩)); refine RQ_mk rfl ?_ ?_; (focus (first | exact Below.refl _ _ | assumption)); (focus (first | (simp only [Array.getD_eq_getD_getElem?, List.getElem?_toArray, List.getElem?_cons_succ, List.getElem?_cons_zero, Option.getD_some]; done) | (simp only [Array.getD_eq_getD_getElem?, List.getElem?_toArray, List.getElem?_cons_succ, List.getElem?_cons_zero, Option.getD_some]; rfl) | rfl)))))
    refine rel_any (OwnR w4.heap.size ss.length (ss.map .string)) (ownR_stable _ _ _) ?_ ?_
    · (simp only [Lay, List.nil_append, List.cons_append, List.setIfInBounds_toArray, List.set_cons_succ, List.set_cons_zero]; intros; rename_i w9 hS hF; simp only [FactsE, List.nil_append, List.cons_append, List.toList_toArray, List.getElem?_cons_succ, List.getElem?_cons_zero] at hF; try (repeat (first | obtain ⟨rfl, hF⟩ := hF | obtain ⟨⟨aF, capF, rfl, hslF⟩, hF⟩ := hF | obtain ⟨⟨gE, rfl, hgE1, hgE2⟩, hF⟩ := hF | obtain ⟨hownF, hF⟩ := hF)))
      refine step_take rfl (of_decide_eq_true rfl) ?_
      obtain ⟨vA, wA, hrun, hbel, hown⟩ := run_append_empty hgE2 hgE1 a ss cap (hl4.ext hS) hq.1 hca
      go_wp2_with ((with_reducible refine ev_append ?_); refine ⟨rfl, _, _, _, _, rfl, rfl, hrun, ?_⟩; (simp only [Act.put, List.setIfInBounds_toArray, List.set_cons_succ, List.set_cons_zero]))
      refine RQ_mk rfl hbel ?_
      simp only [Array.getD_eq_getD_getElem?, List.getElem?_toArray, List.getElem?_cons_succ, List.getElem?_cons_zero, Option.getD_some]
      exact hown
    (refine rel_eq (v := ?_) ?_ ?_; rotate_left; (focus ((simp only [Lay, List.nil_append, List.cons_append, List.setIfInBounds_toArray, List.set_cons_succ, List.set_cons_zero]; intros; rename_i w9 hS hF; simp only [FactsE, List.nil_append, List.cons_append, List.toList_toArray, List.getElem?_cons_succ, List.getElem?_cons_zero] at hF; try (repeat (first | obtain ⟨rfl, hF⟩ := hF | obtain ⟨⟨aF, capF, rfl, hslF⟩, hF⟩ := hF | obtain ⟨⟨gE, rfl, hgE1, hgE2⟩, hF⟩ := hF | obtain ⟨hownF, hF⟩ := hF))); refine step_take rfl (of_decide_eq_true rfl) ?_; skip; go_wp2_with (first | (go_at_call 11; with_reducible refine (sumSum_any a ss cap _ (hl4.ext hS) hs hsz1).mono ?_; rintro e w5 ⟨rfl, hb5⟩) | (go_at_call 13; with_reducible refine (more_any _ b ts dap _ (toS_bd hok).1 (toS_bd hok).2 (hk4.ext hS) ht hsz2).mono ?_; rintro e w5 ⟨rfl, hb5⟩)); refine RQ_mk rfl ?_ ?_; (focus (first | exact Below.refl _ _ | assumption)); (focus (first | (simp only [Array.getD_eq_getD_getElem?, List.getElem?_toArray, List.getElem?_cons_succ, List.getElem?_cons_zero, Option.getD_some]; done) | (simp only [Array.getD_eq_getD_getElem?, List.getElem?_toArray, List.getElem?_cons_succ, List.getElem?_cons_zero, Option.getD_some]; rfl) | rfl)))))
    (refine rel_eq (v := ?_) ?_ ?_; rotate_left; (focus ((simp only [Lay, List.nil_append, List.cons_append, List.setIfInBounds_toArray, List.set_cons_succ, List.set_cons_zero]; intros; rename_i w9 hS hF; simp only [FactsE, List.nil_append, List.cons_append, List.toList_toArray, List.getElem?_cons_succ, List.getElem?_cons_zero] at hF; try (repeat (first | obtain ⟨rfl, hF⟩ := hF | obtain ⟨⟨aF, capF, rfl, hslF⟩, hF⟩ := hF | obtain ⟨⟨gE, rfl, hgE1, hgE2⟩, hF⟩ := hF | obtain ⟨hownF, hF⟩ := hF))); refine step_take rfl (of_decide_eq_true rfl) ?_; skip; go_wp2_with (first | (go_at_call 11; with_reducible refine (sumSum_any a ss cap _ (hl4.ext hS) hs hsz1).mono ?_; rintro e w5 ⟨rfl, hb5⟩) | (go_at_call 13; with_reducible refine (more_any _ b ts dap _ (toS_bd hok).1 (toS_bd hok).2 (hk4.ext hS) ht hsz2).mono ?_; rintro e w5 ⟨rfl, hb5⟩)); refine RQ_mk rfl ?_ ?_; (focus (first | exact Below.refl _ _ | assumption)); (focus (first | (simp only [Array.getD_eq_getD_getElem?, List.getElem?_toArray, List.getElem?_cons_succ, List.getElem?_cons_zero, Option.getD_some]; done) | (simp only [Array.getD_eq_getD_getElem?, List.getElem?_toArray, List.getElem?_cons_succ, List.getElem?_cons_zero, Option.getD_some]; rfl) | rfl)))))
    (refine rel_eq (v := ?_) ?_ ?_; rotate_left; (focus ((simp only [Lay, List.nil_append, List.cons_append, List.setIfInBounds_toArray, List.set_cons_succ, List.set_cons_zero]; intros; rename_i w9 hS hF; simp only [FactsE, List.nil_append, List.cons_append, List.toList_toArray, List.getElem?_cons_succ, List.getElem?_cons_zero] at hF; try (repeat (first | obtain ⟨rfl, hF⟩ := hF | obtain ⟨⟨aF, capF, rfl, hslF⟩, hF⟩ := hF | obtain ⟨⟨gE, rfl, hgE1, hgE2⟩, hF⟩ := hF | obtain ⟨hownF, hF⟩ := hF))); refine step_take rfl (of_decide_eq_true rfl) ?_; skip; go_wp2_with (first | (go_at_call 11; with_reducible refine (sumSum_any a ss cap _ (hl4.ext hS) hs hsz1).mono ?_; rintro e w5 ⟨rfl, hb5⟩) | (go_at_call 13; with_reducible refine (more_any _ b ts dap _ (toS_bd hok).1 (toS_bd hok).2 (hk4.ext hS) ht hsz2).mono ?_; rintro e w5 ⟨rfl, hb5⟩)); refine RQ_mk rfl ?_ ?_; (focus (first | exact Below.refl _ _ | assumption)); (focus (first | (simp only [Array.getD_eq_getD_getElem?, List.getElem?_toArray, List.getElem?_cons_succ, List.getElem?_cons_zero, Option.getD_some]; done) | (simp only [Array.getD_eq_getD_getElem?, List.getElem?_toArray, List.getElem?_cons_succ, List.getElem?_cons_zero, Option.getD_some]; rfl) | rfl)))))
    (refine rel_eq (v := ?_) ?_ ?_; rotate_left; (focus ((simp only [Lay, List.nil_append, List.cons_append, List.setIfInBounds_toArray, List.set_cons_succ, List.set_cons_zero]; intros; rename_i w9 hS hF; simp only [FactsE, List.nil_append, List.cons_append, List.toList_toArray, List.getElem?_cons_succ, List.getElem?_cons_zero] at hF; try (repeat (first | obtain ⟨rfl, hF⟩ := hF | obtain ⟨⟨aF, capF, rfl, hslF⟩, hF⟩ := hF | obtain ⟨⟨gE, rfl, hgE1, hgE2⟩, hF⟩ := hF | obtain ⟨hownF, hF⟩ := hF))); refine step_take rfl (of_decide_eq_true rfl) ?_; skip; go_wp2_with (first | (go_at_call 11; with_reducible refine (sumSum_any a ss cap _ (hl4.ext hS) hs hsz1).mono ?_; rintro e w5 ⟨rfl, hb5⟩) | (go_at_call 13; with_reducible refine (more_any _ b ts dap _ (toS_bd hok).1 (toS_bd hok).2 (hk4.ext hS) ht hsz2).mono ?_; rintro e w5 ⟨rfl, hb5⟩)); refine RQ_mk rfl ?_ ?_; (focus (first | exact Below.refl _ _ | assumption)); (focus (first | (simp only [Array.getD_eq_getD_getElem?, List.getElem?_toArray, List.getElem?_cons_succ, List.getElem?_cons_zero, Option.getD_some]; done) | (simp only [Array.getD_eq_getD_getElem?, List.getElem?_toArray, List.getElem?_cons_succ, List.getElem?_cons_zero, Option.getD_some]; rfl) | rfl)))))
    (refine rel_eq (v := ?_) ?_ ?_; rotate_left; (focus ((simp only [Lay, List.nil_append, List.cons_append, List.setIfInBounds_toArray, List.set_cons_succ, List.set_cons_zero]; intros; rename_i w9 hS hF; simp only [FactsE, List.nil_append, List.cons_append, List.toList_toArray, List.getElem?_cons_succ, List.getElem?_cons_zero] at hF; try (repeat (first | obtain ⟨rfl, hF⟩ := hF | obtain ⟨⟨aF, capF, rfl, hslF⟩, hF⟩ := hF | obtain ⟨⟨gE, rfl, hgE1, hgE2⟩, hF⟩ := hF | obtain ⟨hownF, hF⟩ := hF))); refine step_take rfl (of_decide_eq_true rfl) ?_; skip; go_wp2_with (first | (go_at_call 11; with_reducible refine (sumSum_any a ss cap _ (hl4.ext hS) hs hsz1).mono ?_; rintro e w5 ⟨rfl, hb5⟩) | (go_at_call 13; with_reducible refine (more_any _ b ts dap _ (toS_bd hok).1 (toS_bd hok).2 (hk4.ext hS) ht hsz2).mono ?_; rintro e w5 ⟨rfl, hb5⟩)); refine RQ_mk rfl ?_ ?_; (focus (first | exact Below.refl _ _ | assumption)); (focus (first | (simp only [Array.getD_eq_getD_getElem?, List.getElem?_toArray, List.getElem?_cons_succ, List.getElem?_cons_zero, Option.getD_some]; done) | (simp only [Array.getD_eq_getD_getElem?, List.getElem?_toArray, List.getElem?_cons_succ, List.getElem?_cons_zero, Option.getD_some]; rfl) | rfl)))))
    (refine rel_eq (v := ?_) ?_ ?_; rotate_left; (focus ((simp only [Lay, List.nil_append, List.cons_append, List.setIfInBounds_toArray, List.set_cons_succ, List.set_cons_zero]; intros; rename_i w9 hS hF; simp only [FactsE, List.nil_append, List.cons_append, List.toList_toArray, List.getElem?_cons_succ, List.getElem?_cons_zero] at hF; try (repeat (first | obtain ⟨rfl, hF⟩ := hF | obtain ⟨⟨aF, capF, rfl, hslF⟩, hF⟩ := hF | obtain ⟨⟨gE, rfl, hgE1, hgE2⟩, hF⟩ := hF | obtain ⟨hownF, hF⟩ := hF))); refine step_take rfl (of_decide_eq_true rfl) ?_; skip; go_wp2_with (first | (go_at_call 11; with_reducible refine (sumSum_any a ss cap _ (hl4.ext hS) hs hsz1).mono ?_; rintro e w5 ⟨rfl, hb5⟩) | (go_at_call 13; with_reducible refine (more_any _ b ts dap _ (toS_bd hok).1 (toS_bd hok).2 (hk4.ext hS) ht hsz2).mono ?_; rintro e w5 ⟨rfl, hb5⟩)); refine RQ_mk rfl ?_ ?_; (focus (first | exact Below.refl _ _ | assumption)); (focus (first | (simp only [Array.getD_eq_getD_getElem?, List.getElem?_toArray, List.getElem?_cons_succ, List.getElem?_cons_zero, Option.getD_some]; done) | (simp only [Array.getD_eq_getD_getElem?, List.getElem?_toArray, List.getElem?_cons_succ, List.getElem?_cons_zero, Option.getD_some]; rfl) | rfl)))))
    refine rel_any (SlOf [(cat ts).extract 0 0, (cat ts).extract 0 (cat ts).size]) (slOf_stable _) ?_ ?_
    (focus ((simp only [Lay, List.nil_append, List.cons_append, List.setIfInBounds_toArray, List.set_cons_succ, List.set_cons_zero]; intros; rename_i w9 hS hF; simp only [FactsE, List.nil_append, List.cons_append, List.toList_toArray, List.getElem?_cons_succ, List.getElem?_cons_zero] at hF; try (repeat (first | obtain ⟨rfl, hF⟩ := hF | obtain ⟨⟨aF, capF, rfl, hslF⟩, hF⟩ := hF | obtain ⟨⟨gE, rfl, hgE1, hgE2⟩, hF⟩ := hF | obtain ⟨hownF, hF⟩ := hF))); refine step_take rfl (of_decide_eq_true rfl) ?_; skip; go_wp2; refine RQ_mk rfl (by first | exact (Below.refl _ _).alloc (Nat.le_refl _) _ | exact Below.refl _ _) ?_; simp only [Array.getD_eq_getD_getElem?, List.getElem?_toArray, List.getElem?_cons_succ, List.getElem?_cons_zero, Option.getD_some]; exact ⟨_, _, rfl, strSl_of (heap_alloc_last _ _) _ rfl⟩))
    refine rel_end ?_
    (simp only [Lay, List.nil_append, List.cons_append, List.setIfInBounds_toArray, List.set_cons_succ, List.set_cons_zero]; intros; rename_i w9 hS hF; simp only [FactsA, List.nil_append, List.cons_append] at hF; try (repeat (first | obtain ⟨rfl, hF⟩ := hF | obtain ⟨⟨aF, capF, rfl, hslF⟩, hF⟩ := hF | obtain ⟨⟨gE, rfl, hgE1, hgE2⟩, hF⟩ := hF | obtain ⟨hownF, hF⟩ := hF)))
    obtain ⟨gA, cA, wA, hrun, hslA, hgr⟩ := append2 hownF hq.1 _ _ _ capF hslF hS.size
    have heq : toS (sm (ofS (toS (sm (0, 0) (flat ss)))) (flat ts)) = toS (sm (0, 0) (flat (ss ++ [(cat ts).extract 0 0, (cat ts).extract 0 (cat ts).size]))) := by
      rw [toS_ofS hok, flat_append, hcut, sm_append]
    have hA := grown_below (bseq hw4 hS) hownF hw4.size (bseq hw4 hS).size hgr
    have hszA : ∀ s ∈ ss ++ [(cat ts).extract 0 0, (cat ts).extract 0 (cat ts).size], s.size ≤ 9223372036854775807 := by
      intro s hs'
      rcases List.mem_append.1 hs' with h | h
      · exact hsz1 s h
      · rcases List.mem_cons.1 h with rfl | h
        · first | (rw [ByteArray.size_extract]; omega) | (show (0 : Nat) ≤ _; omega)
        · obtain rfl := List.mem_singleton.1 h
          rw [ByteArray.size_extract]; omega
    go_wp2_with (first
      | ((with_reducible refine ev_append ?_); refine ⟨rfl, _, _, _, _, rfl, rfl, hrun, ?_⟩; (simp only [Act.put, List.setIfInBounds_toArray, List.set_cons_succ, List.set_cons_zero]))
      | (go_at_call 11; refine (sumSum_n _ (ss ++ [(cat ts).extract 0 0, (cat ts).extract 0 (cat ts).size]) _ _ _ (by simp) hslA (by simp; omega) hszA).mono ?_; rintro e w6 ⟨rfl, hb6⟩))
    go_ret
    exact ⟨rfl, hA.trans (hb6.mono hA.size)⟩
  by_cases c2 : ((cat ts).size : Int) < k
  · go_wp2_with (first
      | (go_at_call 8; refine (awake01 _).mono ?_; rintro e w1 ⟨rfl, hb1⟩)
      | (go_at_call 9; with_reducible refine (long_any a ss cap _ (hl.ext hb1) hs hz).mono ?_; rintro e w2 ⟨rfl, hb2⟩; rw [hL'])
      | (go_at_call 9; with_reducible refine (long_any b ts dap _ (hk.ext (bseq hb1 hb2)) ht hu).mono ?_; rintro e w3 ⟨rfl, hb3⟩; rw [hM'])
      | (go_at_call 10; refine (joined_any b ts dap _ (hk.ext (bseq (bseq hb1 hb2) hb3)) hr.1 hr.2).mono ?_; rintro e w4 ⟨rfl, hb4⟩))
    have hw4 := bseq (bseq (bseq hb1 hb2) hb3) hb4
    have hl4 := hl.ext hw4
    have hk4 := hk.ext hw4
    have hcut := cut_flat (cat ts) 0 (by omega)
    rw [cat_list] at hcut
    refine wp_region_rel (S := fun w' => Below w4.heap.size w4 w') [26, 27, 28, 29, 30, 31, 32, 33, 34, 35, 36, 37, 38, 39] Try.mixed (by kernel_rfl) (by kernel_rfl) (by decide) (by kernel_rfl) (fun _ _ h k => h.trans (k.mono h.size)) (Below.refl _ _).drew ?_
    (refine rel_eq (v := ?_) ?_ ?_; rotate_left; (focus ((simp only [Lay, List.nil_append, List.cons_append, List.setIfInBounds_toArray, List.set_cons_succ, List.set_cons_zero]; intros; rename_i w9 hS hF; simp only [FactsE, List.nil_append, List.cons_append, List.toList_toArray, List.getElem?_cons_succ, List.getElem?_cons_zero] at hF; try (repeat (first | obtain ⟨rfl, hF⟩ := hF | obtain ⟨⟨aF, capF, rfl, hslF⟩, hF⟩ := hF | obtain ⟨⟨gE, rfl, hgE1, hgE2⟩, hF⟩ := hF | obtain ⟨hownF, hF⟩ := hF))); refine step_take rfl (of_decide_eq_true rfl) ?_; skip; go_wp2_with (first | (go_at_call 11; with_reducible refine (sumSum_any a ss cap _ (hl4.ext hS) hs hsz1).mono ?_; rintro e w5 ⟨rfl, hb5⟩) | (go_at_call 13; with_reducible refine (more_any _ b ts dap _ (toS_bd hok).1 (toS_bd hok).2 (hk4.ext hS) ht hsz2).mono ?_; rintro e w5 ⟨rfl, hb5⟩)); refine RQ_mk rfl ?_ ?_; (focus (first | exact Below.refl _ _ | assumption)); (focus (first | (simp only [Array.getD_eq_getD_getElem?, List.getElem?_toArray, List.getElem?_cons_succ, List.getElem?_cons_zero, Option.getD_some]; done) | (simp only [Array.getD_eq_getD_getElem?, List.getElem?_toArray, List.getElem?_cons_succ, List.getElem?_cons_zero, Option.getD_some]; rfl) | rfl)))))
    (refine rel_eq (v := ?_) ?_ ?_; rotate_left; (focus ((simp only [Lay, List.nil_append, List.cons_append, List.setIfInBounds_toArray, List.set_cons_succ, List.set_cons_zero]; intros; rename_i w9 hS hF; simp only [FactsE, List.nil_append, List.cons_append, List.toList_toArray, List.getElem?_cons_succ, List.getElem?_cons_zero] at hF; try (repeat (first | obtain ⟨rfl, hF⟩ := hF | obtain ⟨⟨aF, capF, rfl, hslF⟩, hF⟩ := hF | obtain ⟨⟨gE, rfl, hgE1, hgE2⟩, hF⟩ := hF | obtain ⟨hownF, hF⟩ := hF))); refine step_take rfl (of_decide_eq_true rfl) ?_; skip; go_wp2_with (first | (go_at_call 11; with_reducible refine (sumSum_any a ss cap _ (hl4.ext hS) hs hsz1).mono ?_; rintro e w5 ⟨rfl, hb5⟩) | (go_at_call 13; with_reducible refine (more_any _ b ts dap _ (toS_bd hok).1 (toS_bd hok).2 (hk4.ext hS) ht hsz2).mono ?_; rintro e w5 ⟨rfl, hb5⟩)); refine RQ_mk rfl ?_ ?_; (focus (first | exact Below.refl _ _ | assumption)); (focus (first | (simp only [Array.getD_eq_getD_getElem?, List.getElem?_toArray, List.getElem?_cons_succ, List.getElem?_cons_zero, Option.getD_some]; done) | (simp only [Array.getD_eq_getD_getElem?, List.getElem?_toArray, List.getElem?_cons_succ, List.getElem?_cons_zero, Option.getD_some]; rfl) | rfl)))))
    (refine rel_eq (v := ?_) ?_ ?_; rotate_left; (focus ((simp only [Lay, List.nil_append, List.cons_append, List.setIfInBounds_toArray, List.set_cons_succ, List.set_cons_zero]; intros; rename_i w9 hS hF; simp only [FactsE, List.nil_append, List.cons_append, List.toList_toArray, List.getElem?_cons_succ, List.getElem?_cons_zero] at hF; try (repeat (first | obtain ⟨rfl, hF⟩ := hF | obtain ⟨⟨aF, capF, rfl, hslF⟩, hF⟩ := hF | obtain ⟨⟨gE, rfl, hgE1, hgE2⟩, hF⟩ := hF | obtain ⟨hownF, hF⟩ := hF))); refine step_take rfl (of_decide_eq_true rfl) ?_; skip; go_wp2_with (first | (go_at_call 11; with_reducible refine (sumSum_any a ss cap _ (hl4.ext hS) hs hsz1).mono ?_; rintro e w5 ⟨rfl, hb5⟩) | (go_at_call 13; with_reducible refine (more_any _ b ts dap _ (toS_bd hok).1 (toS_bd hok).2 (hk4.ext hS) ht hsz2).mono ?_; rintro e w5 ⟨rfl, hb5⟩)); refine RQ_mk rfl ?_ ?_; (focus (first | exact Below.refl _ _ | assumption)); (focus (first | (simp only [Array.getD_eq_getD_getElem?, List.getElem?_toArray, List.getElem?_cons_succ, List.getElem?_cons_zero, Option.getD_some]; done) | (simp only [Array.getD_eq_getD_getElem?, List.getElem?_toArray, List.getElem?_cons_succ, List.getElem?_cons_zero, Option.getD_some]; rfl) | rfl)))))
    (refine rel_eq (v := ?_) ?_ ?_; rotate_left; (focus ((simp only [Lay, List.nil_append, List.cons_append, List.setIfInBounds_toArray, List.set_cons_succ, List.set_cons_zero]; intros; rename_i w9 hS hF; simp only [FactsE, List.nil_append, List.cons_append, List.toList_toArray, List.getElem?_cons_succ, List.getElem?_cons_zero] at hF; try (repeat (first | obtain ⟨rfl, hF⟩ := hF | obtain ⟨⟨aF, capF, rfl, hslF⟩, hF⟩ := hF | obtain ⟨⟨gE, rfl, hgE1, hgE2⟩, hF⟩ := hF | obtain ⟨hownF, hF⟩ := hF))); refine step_take rfl (of_decide_eq_true rfl) ?_; skip; go_wp2_with (first | (go_at_call 11; with_reducible refine (sumSum_any a ss cap _ (hl4.ext hS) hs hsz1).mono ?_; rintro e w5 ⟨rfl, hb5⟩) | (go_at_call 13; with_reducible refine (more_any _ b ts dap _ (toS_bd hok).1 (toS_bd hok).2 (hk4.ext hS) ht hsz2).mono ?_; rintro e w5 ⟨rfl, hb5⟩)); refine RQ_mk rfl ?_ ?_; (focus (first | exact Below.refl _ _ | assumption)); (focus (first | (simp only [Array.getD_eq_getD_getElem?, List.getElem?_toArray, List.getElem?_cons_succ, List.getElem?_cons_zero, Option.getD_some]; done) | (simp only [Array.getD_eq_getD_getElem?, List.getElem?_toArray, List.getElem?_cons_succ, List.getElem?_cons_zero, Option.getD_some]; rfl) | rfl)))))
    refine rel_any (EmptyR w4.heap.size) (emptyR_stable _) ?_ ?_
    · (simp only [Lay, List.nil_append, List.cons_append, List.setIfInBounds_toArray, List.set_cons_succ, List.set_cons_zero]; intros; rename_i w9 hS hF; simp only [FactsE, List.nil_append, List.cons_append, List.toList_toArray, List.getElem?_cons_succ, List.getElem?_cons_zero] at hF; try (repeat (first | obtain ⟨rfl, hF⟩ := hF | obtain ⟨⟨aF, capF, rfl, hslF⟩, hF⟩ := hF | obtain ⟨⟨gE, rfl, hgE1, hgE2⟩, hF⟩ := hF | obtain ⟨hownF, hF⟩ := hF)))
      refine step_take rfl (of_decide_eq_true rfl) ?_
      go_wp2
      refine RQ_mk rfl ((Below.refl _ _).alloc (Nat.le_refl _) _) ?_
      simp only [Array.getD_eq_getD_getElem?, List.getElem?_toArray, List.getElem?_cons_succ, List.getElem?_cons_zero, Option.getD_some]
      exact ⟨_, rfl, hS.size, heap_alloc_last _ _⟩
    (refine rel_eq (v := ?_) ?_ ?_; rotate_left; (focus ((simp only [Lay, List.nil_append, List.cons_append, List.setIfInBounds_toArray, List.set_cons_succ, List.set_cons_zero]; intros; rename_i w9 hS hF; simp only [FactsE, List.nil_append, List.cons_append, List.toList_toArray, List.getElem?_cons_succ, List.getElem?_cons_zero] at hF; try (repeat (first | obtain ⟨rfl, hF⟩ := hF | obtain ⟨⟨aF, capF, rfl, hslF⟩, hF⟩ := hF | obtain ⟨⟨gE, rfl, hgE1, hgE2⟩, hF⟩ := hF | obtain ⟨hownF, hF⟩ := hF))); refine step_take rfl (of_decide_eq_true rfl) ?_; skip; go_wp2_with (first | (go_at_call 11; with_reducible refine (sumSum_any a ss cap _ (hl4.ext hS) hs hsz1).mono ?_; rintro e w5 ⟨rfl, hb5⟩) | (go_at_call 13; with_reducible refine (more_any _ b ts dap _ (toS_bd hok).1 (toS_bd hok).2 (hk4.ext hS) ht hsz2).mono ?_; rintro e w5 ⟨rfl, hb5⟩)); refine RQ_mk rfl ?_ ?_; (focus (first | exact Below.refl _ _ | assumption)); (focus (first | (simp only [Array.getD_eq_getD_getElem?, List.getElem?_toArray, List.getElem?_cons_succ, List.getElem?_cons_zero, Option.getD_some]; done) | (simp only [Array.getD_eq_getD_getElem?, List.getElem?_toArray, List.getElem?_cons_succ, List.getElem?_cons_zero, Option.getD_some]; rfl) | rfl)))))
    refine rel_any (OwnR w4.heap.size ss.length (ss.map .string)) (ownR_stable _ _ _) ?_ ?_
    · (simp only [Lay, List.nil_append, List.cons_append, List.setIfInBounds_toArray, List.set_cons_succ, List.set_cons_zero]; intros; rename_i w9 hS hF; simp only [FactsE, List.nil_append, List.cons_append, List.toList_toArray, List.getElem?_cons_succ, List.getElem?_cons_zero] at hF; try (repeat (first | obtain ⟨rfl, hF⟩ := hF | obtain ⟨⟨aF, capF, rfl, hslF⟩, hF⟩ := hF | obtain ⟨⟨gE, rfl, hgE1, hgE2⟩, hF⟩ := hF | obtain ⟨hownF, hF⟩ := hF)))
      refine step_take rfl (of_decide_eq_true rfl) ?_
      obtain ⟨vA, wA, hrun, hbel, hown⟩ := run_append_empty hgE2 hgE1 a ss cap (hl4.ext hS) hq.1 hca
      go_wp2_with ((with_reducible refine ev_append ?_); refine ⟨rfl, _, _, _, _, rfl, rfl, hrun, ?_⟩; (simp only [Act.put, List.setIfInBounds_toArray, List.set_cons_succ, List.set_cons_zero]))
      refine RQ_mk rfl hbel ?_
      simp only [Array.getD_eq_getD_getElem?, List.getElem?_toArray, List.getElem?_cons_succ, List.getElem?_cons_zero, Option.getD_some]
      exact hown
    (refine rel_eq (v := ?_) ?_ ?_; rotate_left; (focus ((simp only [Lay, List.nil_append, List.cons_append, List.setIfInBounds_toArray, List.set_cons_succ, List.set_cons_zero]; intros; rename_i w9 hS hF; simp only [FactsE, List.nil_append, List.cons_append, List.toList_toArray, List.getElem?_cons_succ, List.getElem?_cons_zero] at hF; try (repeat (first | obtain ⟨rfl, hF⟩ := hF | obtain ⟨⟨aF, capF, rfl, hslF⟩, hF⟩ := hF | obtain ⟨⟨gE, rfl, hgE1, hgE2⟩, hF⟩ := hF | obtain ⟨hownF, hF⟩ := hF))); refine step_take rfl (of_decide_eq_true rfl) ?_; skip; go_wp2_with (first | (go_at_call 11; with_reducible refine (sumSum_any a ss cap _ (hl4.ext hS) hs hsz1).mono ?_; rintro e w5 ⟨rfl, hb5⟩) | (go_at_call 13; with_reducible refine (more_any _ b ts dap _ (toS_bd hok).1 (toS_bd hok).2 (hk4.ext hS) ht hsz2).mono ?_; rintro e w5 ⟨rfl, hb5⟩)); refine RQ_mk rfl ?_ ?_; (focus (first | exact Below.refl _ _ | assumption)); (focus (first | (simp only [Array.getD_eq_getD_getElem?, List.getElem?_toArray, List.getElem?_cons_succ, List.getElem?_cons_zero, Option.getD_some]; done) | (simp only [Array.getD_eq_getD_getElem?, List.getElem?_toArray, List.getElem?_cons_succ, List.getElem?_cons_zero, Option.getD_some]; rfl) | rfl)))))
    (refine rel_eq (v := ?_) ?_ ?_; rotate_left; (focus ((simp only [Lay, List.nil_append, List.cons_append, List.setIfInBounds_toArray, List.set_cons_succ, List.set_cons_zero]; intros; rename_i w9 hS hF; simp only [FactsE, List.nil_append, List.cons_append, List.toList_toArray, List.getElem?_cons_succ, List.getElem?_cons_zero] at hF; try (repeat (first | obtain ⟨rfl, hF⟩ := hF | obtain ⟨⟨aF, capF, rfl, hslF⟩, hF⟩ := hF | obtain ⟨⟨gE, rfl, hgE1, hgE2⟩, hF⟩ := hF | obtain ⟨hownF, hF⟩ := hF))); refine step_take rfl (of_decide_eq_true rfl) ?_; skip; go_wp2_with (first | (go_at_call 11; with_reducible refine (sumSum_any a ss cap _ (hl4.ext hS) hs hsz1).mono ?_; rintro e w5 ⟨rfl, hb5⟩) | (go_at_call 13; with_reducible refine (more_any _ b ts dap _ (toS_bd hok).1 (toS_bd hok).2 (hk4.ext hS) ht hsz2).mono ?_; rintro e w5 ⟨rfl, hb5⟩)); refine RQ_mk rfl ?_ ?_; (focus (first | exact Below.refl _ _ | assumption)); (focus (first | (simp only [Array.getD_eq_getD_getElem?, List.getElem?_toArray, List.getElem?_cons_succ, List.getElem?_cons_zero, Option.getD_some]; done) | (simp only [Array.getD_eq_getD_getElem?, List.getElem?_toArray, List.getElem?_cons_succ, List.getElem?_cons_zero, Option.getD_some]; rfl) | rfl)))))
    (refine rel_eq (v := ?_) ?_ ?_; rotate_left; (focus ((simp only [Lay, List.nil_append, List.cons_append, List.setIfInBounds_toArray, List.set_cons_succ, List.set_cons_zero]; intros; rename_i w9 hS hF; simp only [FactsE, List.nil_append, List.cons_append, List.toList_toArray, List.getElem?_cons_succ, List.getElem?_cons_zero] at hF; try (repeat (first | obtain ⟨rfl, hF⟩ := hF | obtain ⟨⟨aF, capF, rfl, hslF⟩, hF⟩ := hF | obtain ⟨⟨gE, rfl, hgE1, hgE2⟩, hF⟩ := hF | obtain ⟨hownF, hF⟩ := hF))); refine step_take rfl (of_decide_eq_true rfl) ?_; skip; go_wp2_with (first | (go_at_call 11; with_reducible refine (sumSum_any a ss cap _ (hl4.ext hS) hs hsz1).mono ?_; rintro e w5 ⟨rfl, hb5⟩) | (go_at_call 13; with_reducible refine (more_any _ b ts dap _ (toS_bd hok).1 (toS_bd hok).2 (hk4.ext hS) ht hsz2).mono ?_; rintro e w5 ⟨rfl, hb5⟩)); refine RQ_mk rfl ?_ ?_; (focus (first | exact Below.refl _ _ | assumption)); (focus (first | (simp only [Array.getD_eq_getD_getElem?, List.getElem?_toArray, List.getElem?_cons_succ, List.getElem?_cons_zero, Option.getD_some]; done) | (simp only [Array.getD_eq_getD_getElem?, List.getElem?_toArray, List.getElem?_cons_succ, List.getElem?_cons_zero, Option.getD_some]; rfl) | rfl)))))
    (refine rel_eq (v := ?_) ?_ ?_; rotate_left; (focus ((simp only [Lay, List.nil_append, List.cons_append, List.setIfInBounds_toArray, List.set_cons_succ, List.set_cons_zero]; intros; rename_i w9 hS hF; simp only [FactsE, List.nil_append, List.cons_append, List.toList_toArray, List.getElem?_cons_succ, List.getElem?_cons_zero] at hF; try (repeat (first | obtain ⟨rfl, hF⟩ := hF | obtain ⟨⟨aF, capF, rfl, hslF⟩, hF⟩ := hF | obtain ⟨⟨gE, rfl, hgE1, hgE2⟩, hF⟩ := hF | obtain ⟨hownF, hF⟩ := hF))); refine step_take rfl (of_decide_eq_true rfl) ?_; skip; go_wp2_with (first | (go_at_call 11; with_reducible refine (sumSum_any a ss cap _ (hl4.ext hS) hs hsz1).mono ?_; rintro e w5 ⟨rfl, hb5⟩) | (go_at_call 13; with_reducible refine (more_any _ b ts dap _ (toS_bd hok).1 (toS_bd hok).2 (hk4.ext hS) ht hsz2).mono ?_; rintro e w5 ⟨rfl, hb5⟩)); refine RQ_mk rfl ?_ ?_; (focus (first | exact Below.refl _ _ | assumption)); (focus (first | (simp only [Array.getD_eq_getD_getElem?, List.getElem?_toArray, List.getElem?_cons_succ, List.getElem?_cons_zero, Option.getD_some]; done) | (simp only [Array.getD_eq_getD_getElem?, List.getElem?_toArray, List.getElem?_cons_succ, List.getElem?_cons_zero, Option.getD_some]; rfl) | rfl)))))
    (refine rel_eq (v := ?_) ?_ ?_; rotate_left; (focus ((simp only [Lay, List.nil_append, List.cons_append, List.setIfInBounds_toArray, List.set_cons_succ, List.set_cons_zero]; intros; rename_i w9 hS hF; simp only [FactsE, List.nil_append, List.cons_append, List.toList_toArray, List.getElem?_cons_succ, List.getElem?_cons_zero] at hF; try (repeat (first | obtain ⟨rfl, hF⟩ := hF | obtain ⟨⟨aF, capF, rfl, hslF⟩, hF⟩ := hF | obtain ⟨⟨gE, rfl, hgE1, hgE2⟩, hF⟩ := hF | obtain ⟨hownF, hF⟩ := hF))); refine step_take rfl (of_decide_eq_true rfl) ?_; skip; go_wp2_with (first | (go_at_call 11; with_reducible refine (sumSum_any a ss cap _ (hl4.ext hS) hs hsz1).mono ?_; rintro e w5 ⟨rfl, hb5⟩) | (go_at_call 13; with_reducible refine (more_any _ b ts dap _ (toS_bd hok).1 (toS_bd hok).2 (hk4.ext hS) ht hsz2).mono ?_; rintro e w5 ⟨rfl, hb5⟩)); refine RQ_mk rfl ?_ ?_; (focus (first | exact Below.refl _ _ | assumption)); (focus (first | (simp only [Array.getD_eq_getD_getElem?, List.getElem?_toArray, List.getElem?_cons_succ, List.getElem?_cons_zero, Option.getD_some]; done) | (simp only [Array.getD_eq_getD_getElem?, List.getElem?_toArray, List.getElem?_cons_succ, List.getElem?_cons_zero, Option.getD_some]; rfl) | rfl)))))
    (refine rel_eq (v := ?_) ?_ ?_; rotate_left; (focus ((simp only [Lay, List.nil_append, List.cons_append, List.setIfInBounds_toArray, List.set_cons_succ, List.set_cons_zero]; intros; rename_i w9 hS hF; simp only [FactsE, List.nil_append, List.cons_append, List.toList_toArray, List.getElem?_cons_succ, List.getElem?_cons_zero] at hF; try (repeat (first | obtain ⟨rfl, hF⟩ := hF | obtain ⟨⟨aF, capF, rfl, hslF⟩, hF⟩ := hF | obtain ⟨⟨gE, rfl, hgE1, hgE2⟩, hF⟩ := hF | obtain ⟨hownF, hF⟩ := hF))); refine step_take rfl (of_decide_eq_true rfl) ?_; skip; go_wp2_with (first | (go_at_call 11; with_reducible refine (sumSum_any a ss cap _ (hl4.ext hS) hs hsz1).mono ?_; rintro e w5 ⟨rfl, hb5⟩) | (go_at_call 13; with_reducible refine (more_any _ b ts dap _ (toS_bd hok).1 (toS_bd hok).2 (hk4.ext hS) ht hsz2).mono ?_; rintro e w5 ⟨rfl, hb5⟩)); refine RQ_mk rfl ?_ ?_; (focus (first | exact Below.refl _ _ | assumption)); (focus (first | (simp only [Array.getD_eq_getD_getElem?, List.getElem?_toArray, List.getElem?_cons_succ, List.getElem?_cons_zero, Option.getD_some]; done) | (simp only [Array.getD_eq_getD_getElem?, List.getElem?_toArray, List.getElem?_cons_succ, List.getElem?_cons_zero, Option.getD_some]; rfl) | rfl)))))
    refine rel_any (SlOf [(cat ts).extract 0 0, (cat ts).extract 0 (cat ts).size]) (slOf_stable _) ?_ ?_
    (focus ((simp only [Lay, List.nil_append, List.cons_append, List.setIfInBounds_toArray, List.set_cons_succ, List.set_cons_zero]; intros; rename_i w9 hS hF; simp only [FactsE, List.nil_append, List.cons_append, List.toList_toArray, List.getElem?_cons_succ, List.getElem?_cons_zero] at hF; try (repeat (first | obtain ⟨rfl, hF⟩ := hF | obtain ⟨⟨aF, capF, rfl, hslF⟩, hF⟩ := hF | obtain ⟨⟨gE, rfl, hgE1, hgE2⟩, hF⟩ := hF | obtain ⟨hownF, hF⟩ := hF))); refine step_take rfl (of_decide_eq_true rfl) ?_; skip; go_wp2; refine RQ_mk rfl (by first | exact (Below.refl _ _).alloc (Nat.le_refl _) _ | exact Below.refl _ _) ?_; simp only [Array.getD_eq_getD_getElem?, List.getElem?_toArray, List.getElem?_cons_succ, List.getElem?_cons_zero, Option.getD_some]; exact ⟨_, _, rfl, strSl_of (heap_alloc_last _ _) _ rfl⟩))
    refine rel_end ?_
    (simp only [Lay, List.nil_append, List.cons_append, List.setIfInBounds_toArray, List.set_cons_succ, List.set_cons_zero]; intros; rename_i w9 hS hF; simp only [FactsA, List.nil_append, List.cons_append] at hF; try (repeat (first | obtain ⟨rfl, hF⟩ := hF | obtain ⟨⟨aF, capF, rfl, hslF⟩, hF⟩ := hF | obtain ⟨⟨gE, rfl, hgE1, hgE2⟩, hF⟩ := hF | obtain ⟨hownF, hF⟩ := hF)))
    obtain ⟨gA, cA, wA, hrun, hslA, hgr⟩ := append2 hownF hq.1 _ _ _ capF hslF hS.size
    have heq : toS (sm (ofS (toS (sm (0, 0) (flat ss)))) (flat ts)) = toS (sm (0, 0) (flat (ss ++ [(cat ts).extract 0 0, (cat ts).extract 0 (cat ts).size]))) := by
      rw [toS_ofS hok, flat_append, hcut, sm_append]
    have hA := grown_below (bseq hw4 hS) hownF hw4.size (bseq hw4 hS).size hgr
    have hszA : ∀ s ∈ ss ++ [(cat ts).extract 0 0, (cat ts).extract 0 (cat ts).size], s.size ≤ 9223372036854775807 := by
      intro s hs'
      rcases List.mem_append.1 hs' with h | h
      · exact hsz1 s h
      · rcases List.mem_cons.1 h with rfl | h
        · first | (rw [ByteArray.size_extract]; omega) | (show (0 : Nat) ≤ _; omega)
        · obtain rfl := List.mem_singleton.1 h
          rw [ByteArray.size_extract]; omega
    go_wp2_with (first
      | ((with_reducible refine ev_append ?_); refine ⟨rfl, _, _, _, _, rfl, rfl, hrun, ?_⟩; (simp only [Act.put, List.setIfInBounds_toArray, List.set_cons_succ, List.set_cons_zero]))
      | (go_at_call 11; refine (sumSum_n _ (ss ++ [(cat ts).extract 0 0, (cat ts).extract 0 (cat ts).size]) _ _ _ (by simp) hslA (by simp; omega) hszA).mono ?_; rintro e w6 ⟨rfl, hb6⟩))
    go_ret
    exact ⟨rfl, hA.trans (hb6.mono hA.size)⟩
  · obtain ⟨j, rfl⟩ := Int.eq_ofNat_of_zero_le (by omega : 0 ≤ k)
    have hj : j ≤ (cat ts).size := by omega
    go_wp2_with (first
      | (go_at_call 8; refine (awake01 _).mono ?_; rintro e w1 ⟨rfl, hb1⟩)
      | (go_at_call 9; with_reducible refine (long_any a ss cap _ (hl.ext hb1) hs hz).mono ?_; rintro e w2 ⟨rfl, hb2⟩; rw [hL'])
      | (go_at_call 9; with_reducible refine (long_any b ts dap _ (hk.ext (bseq hb1 hb2)) ht hu).mono ?_; rintro e w3 ⟨rfl, hb3⟩; rw [hM'])
      | (go_at_call 10; refine (joined_any b ts dap _ (hk.ext (bseq (bseq hb1 hb2) hb3)) hr.1 hr.2).mono ?_; rintro e w4 ⟨rfl, hb4⟩))
    have hw4 := bseq (bseq (bseq hb1 hb2) hb3) hb4
    have hl4 := hl.ext hw4
    have hk4 := hk.ext hw4
    have hcut := cut_flat (cat ts) j (by omega)
    rw [cat_list] at hcut
    refine wp_region_rel (S := fun w' => Below w4.heap.size w4 w') [26, 27, 28, 29, 30, 31, 32, 33, 34, 35, 36, 37, 38, 39] Try.mixed (by kernel_rfl) (by kernel_rfl) (by decide) (by kernel_rfl) (fun _ _ h k => h.trans (k.mono h.size)) (Below.refl _ _).drew ?_
    (refine rel_eq (v := ?_) ?_ ?_; rotate_left; (focus ((simp only [Lay, List.nil_append, List.cons_append, List.setIfInBounds_toArray, List.set_cons_succ, List.set_cons_zero]; intros; rename_i w9 hS hF; simp only [FactsE, List.nil_append, List.cons_append, List.toList_toArray, List.getElem?_cons_succ, List.getElem?_cons_zero] at hF; try (repeat (first | obtain ⟨rfl, hF⟩ := hF | obtain ⟨⟨aF, capF, rfl, hslF⟩, hF⟩ := hF | obtain ⟨⟨gE, rfl, hgE1, hgE2⟩, hF⟩ := hF | obtain ⟨hownF, hF⟩ := hF))); refine step_take rfl (of_decide_eq_true rfl) ?_; skip; go_wp2_with (first | (go_at_call 11; with_reducible refine (sumSum_any a ss cap _ (hl4.ext hS) hs hsz1).mono ?_; rintro e w5 ⟨rfl, hb5⟩) | (go_at_call 13; with_reducible refine (more_any _ b ts dap _ (toS_bd hok).1 (toS_bd hok).2 (hk4.ext hS) ht hsz2).mono ?_; rintro e w5 ⟨rfl, hb5⟩)); refine RQ_mk rfl ?_ ?_; (focus (first | exact Below.refl _ _ | assumption)); (focus (first | (simp only [Array.getD_eq_getD_getElem?, List.getElem?_toArray, List.getElem?_cons_succ, List.getElem?_cons_zero, Option.getD_some]; done) | (simp only [Array.getD_eq_getD_getElem?, List.getElem?_toArray, List.getElem?_cons_succ, List.getElem?_cons_zero, Option.getD_some]; rfl) | rfl)))))
    (refine rel_eq (v := ?_) ?_ ?_; rotate_left; (focus ((simp only [Lay, List.nil_append, List.cons_append, List.setIfInBounds_toArray, List.set_cons_succ, List.set_cons_zero]; intros; rename_i w9 hS hF; simp only [FactsE, List.nil_append, List.cons_append, List.toList_toArray, List.getElem?_cons_succ, List.getElem?_cons_zero] at hF; try (repeat (first | obtain ⟨rfl, hF⟩ := hF | obtain ⟨⟨aF, capF, rfl, hslF⟩, hF⟩ := hF | obtain ⟨⟨gE, rfl, hgE1, hgE2⟩, hF⟩ := hF | obtain ⟨hownF, hF⟩ := hF))); refine step_take rfl (of_decide_eq_true rfl) ?_; skip; go_wp2_with (first | (go_at_call 11; with_reducible refine (sumSum_any a ss cap _ (hl4.ext hS) hs hsz1).mono ?_; rintro e w5 ⟨rfl, hb5⟩) | (go_at_call 13; with_reducible refine (more_any _ b ts dap _ (toS_bd hok).1 (toS_bd hok).2 (hk4.ext hS) ht hsz2).mono ?_; rintro e w5 ⟨rfl, hb5⟩)); refine RQ_mk rfl ?_ ?_; (focus (first | exact Below.refl _ _ | assumption)); (focus (first | (simp only [Array.getD_eq_getD_getElem?, List.getElem?_toArray, List.getElem?_cons_succ, List.getElem?_cons_zero, Option.getD_some]; done) | (simp only [Array.getD_eq_getD_getElem?, List.getElem?_toArray, List.getElem?_cons_succ, List.getElem?_cons_zero, Option.getD_some]; rfl) | rfl)))))
    (refine rel_eq (v := ?_) ?_ ?_; rotate_left; (focus ((simp only [Lay, List.nil_append, List.cons_append, List.setIfInBounds_toArray, List.set_cons_succ, List.set_cons_zero]; intros; rename_i w9 hS hF; simp only [FactsE, List.nil_append, List.cons_append, List.toList_toArray, List.getElem?_cons_succ, List.getElem?_cons_zero] at hF; try (repeat (first | obtain ⟨rfl, hF⟩ := hF | obtain ⟨⟨aF, capF, rfl, hslF⟩, hF⟩ := hF | obtain ⟨⟨gE, rfl, hgE1, hgE2⟩, hF⟩ := hF | obtain ⟨hownF, hF⟩ := hF))); refine step_take rfl (of_decide_eq_true rfl) ?_; skip; go_wp2_with (first | (go_at_call 11; with_reducible refine (sumSum_any a ss cap _ (hl4.ext hS) hs hsz1).mono ?_; rintro e w5 ⟨rfl, hb5⟩) | (go_at_call 13; with_reducible refine (more_any _ b ts dap _ (toS_bd hok).1 (toS_bd hok).2 (hk4.ext hS) ht hsz2).mono ?_; rintro e w5 ⟨rfl, hb5⟩)); refine RQ_mk rfl ?_ ?_; (focus (first | exact Below.refl _ _ | assumption)); (focus (first | (simp only [Array.getD_eq_getD_getElem?, List.getElem?_toArray, List.getElem?_cons_succ, List.getElem?_cons_zero, Option.getD_some]; done) | (simp only [Array.getD_eq_getD_getElem?, List.getElem?_toArray, List.getElem?_cons_succ, List.getElem?_cons_zero, Option.getD_some]; rfl) | rfl)))))
    (refine rel_eq (v := ?_) ?_ ?_; rotate_left; (focus ((simp only [Lay, List.nil_append, List.cons_append, List.setIfInBounds_toArray, List.set_cons_succ, List.set_cons_zero]; intros; rename_i w9 hS hF; simp only [FactsE, List.nil_append, List.cons_append, List.toList_toArray, List.getElem?_cons_succ, List.getElem?_cons_zero] at hF; try (repeat (first | obtain ⟨rfl, hF⟩ := hF | obtain ⟨⟨aF, capF, rfl, hslF⟩, hF⟩ := hF | obtain ⟨⟨gE, rfl, hgE1, hgE2⟩, hF⟩ := hF | obtain ⟨hownF, hF⟩ := hF))); refine step_take rfl (of_decide_eq_true rfl) ?_; skip; go_wp2_with (first | (go_at_call 11; with_reducible refine (sumSum_any a ss cap _ (hl4.ext hS) hs hsz1).mono ?_; rintro e w5 ⟨rfl, hb5⟩) | (go_at_call 13; with_reducible refine (more_any _ b ts dap _ (toS_bd hok).1 (toS_bd hok).2 (hk4.ext hS) ht hsz2).mono ?_; rintro e w5 ⟨rfl, hb5⟩)); refine RQ_mk rfl ?_ ?_; (focus (first | exact Below.refl _ _ | assumption)); (focus (first | (simp only [Array.getD_eq_getD_getElem?, List.getElem?_toArray, List.getElem?_cons_succ, List.getElem?_cons_zero, Option.getD_some]; done) | (simp only [Array.getD_eq_getD_getElem?, List.getElem?_toArray, List.getElem?_cons_succ, List.getElem?_cons_zero, Option.getD_some]; rfl) | rfl)))))
    refine rel_any (EmptyR w4.heap.size) (emptyR_stable _) ?_ ?_
    · (simp only [Lay, List.nil_append, List.cons_append, List.setIfInBounds_toArray, List.set_cons_succ, List.set_cons_zero]; intros; rename_i w9 hS hF; simp only [FactsE, List.nil_append, List.cons_append, List.toList_toArray, List.getElem?_cons_succ, List.getElem?_cons_zero] at hF; try (repeat (first | obtain ⟨rfl, hF⟩ := hF | obtain ⟨⟨aF, capF, rfl, hslF⟩, hF⟩ := hF | obtain ⟨⟨gE, rfl, hgE1, hgE2⟩, hF⟩ := hF | obtain ⟨hownF, hF⟩ := hF)))
      refine step_take rfl (of_decide_eq_true rfl) ?_
      go_wp2
      refine RQ_mk rfl ((Below.refl _ _).alloc (Nat.le_refl _) _) ?_
      simp only [Array.getD_eq_getD_getElem?, List.getElem?_toArray, List.getElem?_cons_succ, List.getElem?_cons_zero, Option.getD_some]
      exact ⟨_, rfl, hS.size, heap_alloc_last _ _⟩
    (refine rel_eq (v := ?_) ?_ ?_; rotate_left; (focus ((simp only [Lay, List.nil_append, List.cons_append, List.setIfInBounds_toArray, List.set_cons_succ, List.set_cons_zero]; intros; rename_i w9 hS hF; simp only [FactsE, List.nil_append, List.cons_append, List.toList_toArray, List.getElem?_cons_succ, List.getElem?_cons_zero] at hF; try (repeat (first | obtain ⟨rfl, hF⟩ := hF | obtain ⟨⟨aF, capF, rfl, hslF⟩, hF⟩ := hF | obtain ⟨⟨gE, rfl, hgE1, hgE2⟩, hF⟩ := hF | obtain ⟨hownF, hF⟩ := hF))); refine step_take rfl (of_decide_eq_true rfl) ?_; skip; go_wp2_with (first | (go_at_call 11; with_reducible refine (sumSum_any a ss cap _ (hl4.ext hS) hs hsz1).mono ?_; rintro e w5 ⟨rfl, hb5⟩) | (go_at_call 13; with_reducible refine (more_any _ b ts dap _ (toS_bd hok).1 (toS_bd hok).2 (hk4.ext hS) ht hsz2).mono ?_; rintro e w5 ⟨rfl, hb5⟩)); refine RQ_mk rfl ?_ ?_; (focus (first | exact Below.refl _ _ | assumption)); (focus (first | (simp only [Array.getD_eq_getD_getElem?, List.getElem?_toArray, List.getElem?_cons_succ, List.getElem?_cons_zero, Option.getD_some]; done) | (simp only [Array.getD_eq_getD_getElem?, List.getElem?_toArray, List.getElem?_cons_succ, List.getElem?_cons_zero, Option.getD_some]; rfl) | rfl)))))
    refine rel_any (OwnR w4.heap.size ss.length (ss.map .string)) (ownR_stable _ _ _) ?_ ?_
    · (simp only [Lay, List.nil_append, List.cons_append, List.setIfInBounds_toArray, List.set_cons_succ, List.set_cons_zero]; intros; rename_i w9 hS hF; simp only [FactsE, List.nil_append, List.cons_append, List.toList_toArray, List.getElem?_cons_succ, List.getElem?_cons_zero] at hF; try (repeat (first | obtain ⟨rfl, hF⟩ := hF | obtain ⟨⟨aF, capF, rfl, hslF⟩, hF⟩ := hF | obtain ⟨⟨gE, rfl, hgE1, hgE2⟩, hF⟩ := hF | obtain ⟨hownF, hF⟩ := hF)))
      refine step_take rfl (of_decide_eq_true rfl) ?_
      obtain ⟨vA, wA, hrun, hbel, hown⟩ := run_append_empty hgE2 hgE1 a ss cap (hl4.ext hS) hq.1 hca
      go_wp2_with ((with_reducible refine ev_append ?_); refine ⟨rfl, _, _, _, _, rfl, rfl, hrun, ?_⟩; (simp only [Act.put, List.setIfInBounds_toArray, List.set_cons_succ, List.set_cons_zero]))
      refine RQ_mk rfl hbel ?_
      simp only [Array.getD_eq_getD_getElem?, List.getElem?_toArray, List.getElem?_cons_succ, List.getElem?_cons_zero, Option.getD_some]
      exact hown
    (refine rel_eq (v := ?_) ?_ ?_; rotate_left; (focus ((simp only [Lay, List.nil_append, List.cons_append, List.setIfInBounds_toArray, List.set_cons_succ, List.set_cons_zero]; intros; rename_i w9 hS hF; simp only [FactsE, List.nil_append, List.cons_append, List.toList_toArray, List.getElem?_cons_succ, List.getElem?_cons_zero] at hF; try (repeat (first | obtain ⟨rfl, hF⟩ := hF | obtain ⟨⟨aF, capF, rfl, hslF⟩, hF⟩ := hF | obtain ⟨⟨gE, rfl, hgE1, hgE2⟩, hF⟩ := hF | obtain ⟨hownF, hF⟩ := hF))); refine step_take rfl (of_decide_eq_true rfl) ?_; skip; go_wp2_with (first | (go_at_call 11; with_reducible refine (sumSum_any a ss cap _ (hl4.ext hS) hs hsz1).mono ?_; rintro e w5 ⟨rfl, hb5⟩) | (go_at_call 13; with_reducible refine (more_any _ b ts dap _ (toS_bd hok).1 (toS_bd hok).2 (hk4.ext hS) ht hsz2).mono ?_; rintro e w5 ⟨rfl, hb5⟩)); refine RQ_mk rfl ?_ ?_; (focus (first | exact Below.refl _ _ | assumption)); (focus (first | (simp only [Array.getD_eq_getD_getElem?, List.getElem?_toArray, List.getElem?_cons_succ, List.getElem?_cons_zero, Option.getD_some]; done) | (simp only [Array.getD_eq_getD_getElem?, List.getElem?_toArray, List.getElem?_cons_succ, List.getElem?_cons_zero, Option.getD_some]; rfl) | rfl)))))
    (refine rel_eq (v := ?_) ?_ ?_; rotate_left; (focus ((simp only [Lay, List.nil_append, List.cons_append, List.setIfInBounds_toArray, List.set_cons_succ, List.set_cons_zero]; intros; rename_i w9 hS hF; simp only [FactsE, List.nil_append, List.cons_append, List.toList_toArray, List.getElem?_cons_succ, List.getElem?_cons_zero] at hF; try (repeat (first | obtain ⟨rfl, hF⟩ := hF | obtain ⟨⟨aF, capF, rfl, hslF⟩, hF⟩ := hF | obtain ⟨⟨gE, rfl, hgE1, hgE2⟩, hF⟩ := hF | obtain ⟨hownF, hF⟩ := hF))); refine step_take rfl (of_decide_eq_true rfl) ?_; skip; go_wp2_with (first | (go_at_call 11; with_reducible refine (sumSum_any a ss cap _ (hl4.ext hS) hs hsz1).mono ?_; rintro e w5 ⟨rfl, hb5⟩) | (go_at_call 13; with_reducible refine (more_any _ b ts dap _ (toS_bd hok).1 (toS_bd hok).2 (hk4.ext hS) ht hsz2).mono ?_; rintro e w5 ⟨rfl, hb5⟩)); refine RQ_mk rfl ?_ ?_; (focus (first | exact Below.refl _ _ | assumption)); (focus (first | (simp only [Array.getD_eq_getD_getElem?, List.getElem?_toArray, List.getElem?_cons_succ, List.getElem?_cons_zero, Option.getD_some]; done) | (simp only [Array.getD_eq_getD_getElem?, List.getElem?_toArray, List.getElem?_cons_succ, List.getElem?_cons_zero, Option.getD_some]; rfl) | rfl)))))
    (refine rel_eq (v := ?_) ?_ ?_; rotate_left; (focus ((simp only [Lay, List.nil_append, List.cons_append, List.setIfInBounds_toArray, List.set_cons_succ, List.set_cons_zero]; intros; rename_i w9 hS hF; simp only [FactsE, List.nil_append, List.cons_append, List.toList_toArray, List.getElem?_cons_succ, List.getElem?_cons_zero] at hF; try (repeat (first | obtain ⟨rfl, hF⟩ := hF | obtain ⟨⟨aF, capF, rfl, hslF⟩, hF⟩ := hF | obtain ⟨⟨gE, rfl, hgE1, hgE2⟩, hF⟩ := hF | obtain ⟨hownF, hF⟩ := hF))); refine step_take rfl (of_decide_eq_true rfl) ?_; skip; go_wp2_with (first | (go_at_call 11; with_reducible refine (sumSum_any a ss cap _ (hl4.ext hS) hs hsz1).mono ?_; rintro e w5 ⟨rfl, hb5⟩) | (go_at_call 13; with_reducible refine (more_any _ b ts dap _ (toS_bd hok).1 (toS_bd hok).2 (hk4.ext hS) ht hsz2).mono ?_; rintro e w5 ⟨rfl, hb5⟩)); refine RQ_mk rfl ?_ ?_; (focus (first | exact Below.refl _ _ | assumption)); (focus (first | (simp only [Array.getD_eq_getD_getElem?, List.getElem?_toArray, List.getElem?_cons_succ, List.getElem?_cons_zero, Option.getD_some]; done) | (simp only [Array.getD_eq_getD_getElem?, List.getElem?_toArray, List.getElem?_cons_succ, List.getElem?_cons_zero, Option.getD_some]; rfl) | rfl)))))
    (refine rel_eq (v := ?_) ?_ ?_; rotate_left; (focus ((simp only [Lay, List.nil_append, List.cons_append, List.setIfInBounds_toArray, List.set_cons_succ, List.set_cons_zero]; intros; rename_i w9 hS hF; simp only [FactsE, List.nil_append, List.cons_append, List.toList_toArray, List.getElem?_cons_succ, List.getElem?_cons_zero] at hF; try (repeat (first | obtain ⟨rfl, hF⟩ := hF | obtain ⟨⟨aF, capF, rfl, hslF⟩, hF⟩ := hF | obtain ⟨⟨gE, rfl, hgE1, hgE2⟩, hF⟩ := hF | obtain ⟨hownF, hF⟩ := hF))); refine step_take rfl (of_decide_eq_true rfl) ?_; skip; go_wp2_with (first | (go_at_call 11; with_reducible refine (sumSum_any a ss cap _ (hl4.ext hS) hs hsz1).mono ?_; rintro e w5 ⟨rfl, hb5⟩) | (go_at_call 13; with_reducible refine (more_any _ b ts dap _ (toS_bd hok).1 (toS_bd hok).2 (hk4.ext hS) ht hsz2).mono ?_; rintro e w5 ⟨rfl, hb5⟩)); refine RQ_mk rfl ?_ ?_; (focus (first | exact Below.refl _ _ | assumption)); (focus (first | (simp only [Array.getD_eq_getD_getElem?, List.getElem?_toArray, List.getElem?_cons_succ, List.getElem?_cons_zero, Option.getD_some]; done) | (simp only [Array.getD_eq_getD_getElem?, List.getElem?_toArray, List.getElem?_cons_succ, List.getElem?_cons_zero, Option.getD_some]; rfl) | rfl)))))
    (refine rel_eq (v := ?_) ?_ ?_; rotate_left; (focus ((simp only [Lay, List.nil_append, List.cons_append, List.setIfInBounds_toArray, List.set_cons_succ, List.set_cons_zero]; intros; rename_i w9 hS hF; simp only [FactsE, List.nil_append, List.cons_append, List.toList_toArray, List.getElem?_cons_succ, List.getElem?_cons_zero] at hF; try (repeat (first | obtain ⟨rfl, hF⟩ := hF | obtain ⟨⟨aF, capF, rfl, hslF⟩, hF⟩ := hF | obtain ⟨⟨gE, rfl, hgE1, hgE2⟩, hF⟩ := hF | obtain ⟨hownF, hF⟩ := hF))); refine step_take rfl (of_decide_eq_true rfl) ?_; skip; go_wp2_with (first | (go_at_call 11; with_reducible refine (sumSum_any a ss cap _ (hl4.ext hS) hs hsz1).mono ?_; rintro e w5 ⟨rfl, hb5⟩) | (go_at_call 13; with_reducible refine (more_any _ b ts dap _ (toS_bd hok).1 (toS_bd hok).2 (hk4.ext hS) ht hsz2).mono ?_; rintro e w5 ⟨rfl, hb5⟩)); refine RQ_mk rfl ?_ ?_; (focus (first | exact Below.refl _ _ | assumption)); (focus (first | (simp only [Array.getD_eq_getD_getElem?, List.getElem?_toArray, List.getElem?_cons_succ, List.getElem?_cons_zero, Option.getD_some]; done) | (simp only [Array.getD_eq_getD_getElem?, List.getElem?_toArray, List.getElem?_cons_succ, List.getElem?_cons_zero, Option.getD_some]; rfl) | rfl)))))
    (refine rel_eq (v := ?_) ?_ ?_; rotate_left; (focus ((simp only [Lay, List.nil_append, List.cons_append, List.setIfInBounds_toArray, List.set_cons_succ, List.set_cons_zero]; intros; rename_i w9 hS hF; simp only [FactsE, List.nil_append, List.cons_append, List.toList_toArray, List.getElem?_cons_succ, List.getElem?_cons_zero] at hF; try (repeat (first | obtain ⟨rfl, hF⟩ := hF | obtain ⟨⟨aF, capF, rfl, hslF⟩, hF⟩ := hF | obtain ⟨⟨gE, rfl, hgE1, hgE2⟩, hF⟩ := hF | obtain ⟨hownF, hF⟩ := hF))); refine step_take rfl (of_decide_eq_true rfl) ?_; skip; go_wp2_with (first | (go_at_call 11; with_reducible refine (sumSum_any a ss cap _ (hl4.ext hS) hs hsz1).mono ?_; rintro e w5 ⟨rfl, hb5⟩) | (go_at_call 13; with_reducible refine (more_any _ b ts dap _ (toS_bd hok).1 (toS_bd hok).2 (hk4.ext hS) ht hsz2).mono ?_; rintro e w5 ⟨rfl, hb5⟩)); refine RQ_mk rfl ?_ ?_; (focus (first | exact Below.refl _ _ | assumption)); (focus (first | (simp only [Array.getD_eq_getD_getElem?, List.getElem?_toArray, List.getElem?_cons_succ, List.getElem?_cons_zero, Option.getD_some]; done) | (simp only [Array.getD_eq_getD_getElem?, List.getElem?_toArray, List.getElem?_cons_succ, List.getElem?_cons_zero, Option.getD_some]; rfl) | rfl)))))
    refine rel_any (SlOf [(cat ts).extract 0 j, (cat ts).extract j (cat ts).size]) (slOf_stable _) ?_ ?_
    (focus ((simp only [Lay, List.nil_append, List.cons_append, List.setIfInBounds_toArray, List.set_cons_succ, List.set_cons_zero]; intros; rename_i w9 hS hF; simp only [FactsE, List.nil_append, List.cons_append, List.toList_toArray, List.getElem?_cons_succ, List.getElem?_cons_zero] at hF; try (repeat (first | obtain ⟨rfl, hF⟩ := hF | obtain ⟨⟨aF, capF, rfl, hslF⟩, hF⟩ := hF | obtain ⟨⟨gE, rfl, hgE1, hgE2⟩, hF⟩ := hF | obtain ⟨hownF, hF⟩ := hF))); refine step_take rfl (of_decide_eq_true rfl) ?_; skip; go_wp2; refine RQ_mk rfl (by first | exact (Below.refl _ _).alloc (Nat.le_refl _) _ | exact Below.refl _ _) ?_; simp only [Array.getD_eq_getD_getElem?, List.getElem?_toArray, List.getElem?_cons_succ, List.getElem?_cons_zero, Option.getD_some]; exact ⟨_, _, rfl, strSl_of (heap_alloc_last _ _) _ rfl⟩))
    refine rel_end ?_
    (simp only [Lay, List.nil_append, List.cons_append, List.setIfInBounds_toArray, List.set_cons_succ, List.set_cons_zero]; intros; rename_i w9 hS hF; simp only [FactsA, List.nil_append, List.cons_append] at hF; try (repeat (first | obtain ⟨rfl, hF⟩ := hF | obtain ⟨⟨aF, capF, rfl, hslF⟩, hF⟩ := hF | obtain ⟨⟨gE, rfl, hgE1, hgE2⟩, hF⟩ := hF | obtain ⟨hownF, hF⟩ := hF)))
    obtain ⟨gA, cA, wA, hrun, hslA, hgr⟩ := append2 hownF hq.1 _ _ _ capF hslF hS.size
    have heq : toS (sm (ofS (toS (sm (0, 0) (flat ss)))) (flat ts)) = toS (sm (0, 0) (flat (ss ++ [(cat ts).extract 0 j, (cat ts).extract j (cat ts).size]))) := by
      rw [toS_ofS hok, flat_append, hcut, sm_append]
    have hA := grown_below (bseq hw4 hS) hownF hw4.size (bseq hw4 hS).size hgr
    have hszA : ∀ s ∈ ss ++ [(cat ts).extract 0 j, (cat ts).extract j (cat ts).size], s.size ≤ 9223372036854775807 := by
      intro s hs'
      rcases List.mem_append.1 hs' with h | h
      · exact hsz1 s h
      · rcases List.mem_cons.1 h with rfl | h
        · first | (rw [ByteArray.size_extract]; omega) | (show (0 : Nat) ≤ _; omega)
        · obtain rfl := List.mem_singleton.1 h
          rw [ByteArray.size_extract]; omega
    go_wp2_with (first
      | ((with_reducible refine ev_append ?_); refine ⟨rfl, _, _, _, _, rfl, rfl, hrun, ?_⟩; (simp only [Act.put, List.setIfInBounds_toArray, List.set_cons_succ, List.set_cons_zero]))
      | (go_at_call 11; refine (sumSum_n _ (ss ++ [(cat ts).extract 0 j, (cat ts).extract j (cat ts).size]) _ _ _ (by simp) hslA (by simp; omega) hszA).mono ?_; rintro e w6 ⟨rfl, hb6⟩))
    go_ret
    exact ⟨rfl, hA.trans (hb6.mono hA.size)⟩
end Go.Proofs.Ytaajndackdmbeaa
