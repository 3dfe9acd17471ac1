/- Chapter 17: the law MapsMake, walked. -/
import Derived.Test.YteohokidlopbnaaLaw17M
namespace Go.Proofs.Yteohokidlopbnaa
open Go.RowKit
set_option linter.unusedSimpArgs false
set_option linter.unusedVariables false

set_option maxHeartbeats 1000000 in
set_option maxRecDepth 100000 in
theorem mk_great (a b : Option Addr) (n c m d : Nat) (w : World) (hn : n ≤ 140737488355328) (hm : m ≤ 140737488355328) (h : 20 < n ∨ 40 < m) :
    Calls Try.prog 4 #[.slice a n c, .slice b m d] w fun e w' => e = .returned (.bool true) ∧ Below w.heap.size w w' := by
  by_cases h1 : 20 < n
  · have e1 : decide ((n : Int) > 20) = true := decide_eq_true (by omega)
    have e2 : decide (20 < (n : Int)) = true := decide_eq_true (by omega)
    go_enter Try.func4, Try.ntmps4
    go_wp2_with (first | (go_at_call 6; refine (awake17 _).mono ?_; rintro e w1 ⟨rfl, hb1⟩))
    go_ret
    exact ⟨rfl, hb1⟩
  · have e1 : decide ((n : Int) > 20) = false := decide_eq_false (by omega)
    have e2 : decide (20 < (n : Int)) = false := decide_eq_false (by omega)
    have e3 : decide ((m : Int) > 40) = true := decide_eq_true (by omega)
    have e4 : decide (40 < (m : Int)) = true := decide_eq_true (by omega)
    go_enter Try.func4, Try.ntmps4
    go_wp2_with (first | (go_at_call 6; refine (awake17 _).mono ?_; rintro e w1 ⟨rfl, hb1⟩))
    go_ret
    exact ⟨rfl, hb1⟩

theorem touched_len (K : Int) (es : List EntT) (i : Nat) (hi : i < es.length) : (touched K es i).length = es.length := by
  unfold touched
  split
  · rw [List.length_append, List.length_eraseIdx, if_pos hi, List.getElem?_eq_getElem hi, Option.toList_some, List.length_singleton]
    omega
  · rfl
theorem putL_len (K R : Int) (es : List EntT) (key : Int) (v : ValT) (hl : (es.length : Int) ≤ R) (hR : 1 ≤ R) : ((putL K R es key v).length : Int) ≤ R := by
  unfold putL
  cases hf : findI es key with
  | some i =>
    obtain ⟨hi, -⟩ := findI_some hf
    simp only
    rw [touched_len _ _ _ (by rw [List.length_set]; exact hi), List.length_set]
    exact hl
  | none =>
    simp only
    split
    · rw [List.length_append, List.length_singleton]
      omega
    · split
      · exact hl
      · rw [List.length_append, List.length_eraseIdx, List.length_singleton]
        split <;> omega
theorem PtSl.keep {w w' : World} {a : Option Addr} {gs : List Nat} (h : PtSl w a gs) (hk : ∀ x, a = some x → w'.heap[x.block]? = w.heap[x.block]?) : PtSl w' a gs := fun j hj => by
  obtain ⟨x, e, hc⟩ := h j hj
  refine ⟨x, e, ?_⟩
  rw [← hc]
  exact World.cell?_of_block ((by rw [show (x.add j).block = x.block from by unfold Addr.add; split <;> rfl]; exact hk x e))
theorem sumE_nil : ∀ k, sumE (fun _ => []) k = 0
  | 0 => rfl
  | k + 1 => by simp only [sumE, sumE_nil k, List.length_nil]
/-- All maps of a set. -/
structure Mps (w : World) (B : Nat) (gs : List Nat) (E : Nat → List EntT) : Prop where
  mp : ∀ (j : Nat) (h : j < gs.length), ∃ v K R, Mp w B gs[j] v K R (E j)
theorem Mps.ext {w w' : World} {B : Nat} {gs : List Nat} {E : Nat → List EntT} (h : Mps w B gs E) (hb : Below w.heap.size w w') : Mps w' B gs E := ⟨fun j hj => by
  obtain ⟨v, K, R, h1⟩ := h.mp j hj
  exact ⟨v, K, R, h1.ext hb⟩⟩
theorem clear_n (B : Nat) (a : Option Addr) (gs : List Nat) (n cap : Nat) (w : World) (hgl : gs.length = n) (hl : PtSl w a gs) (hn : gs.length ≤ 4) (hne : ∀ x, a = some x → x.block ∉ gs) (hnd : gs.Nodup) (hM : ∀ (j : Nat) (h : j < gs.length), MBlk w gs[j]) (hlo : ∀ g ∈ gs, B ≤ g) :
    Calls Try.prog 19 #[.slice a n cap] w fun e w' => e = .returned (.tuple #[]) ∧ (∀ (j : Nat) (h : j < gs.length), MClr w' gs[j]) ∧ PtSl w' a gs ∧ Below B w w' := by
  subst hgl
  exact clear_is B a gs cap w hl hn hne hnd hM hlo
theorem own_sl {w : World} {B T : Nat} {v : Value} {es : List EntT} (h : w.ownsRow B T 5 v es.length (rowe es)) : ∃ a cap, v = .slice a es.length cap ∧ EnSl w a es := by
  rcases h.2 with ⟨rfl, h0⟩ | ⟨g, cap, cur, rfl, h1, h2, h3, h4, h5, h6⟩
  · have : es = [] := List.eq_nil_of_length_eq_zero h0
    subst this
    exact ⟨none, 0, rfl, fun j hj => by simp at hj⟩
  · refine ⟨some ⟨g, 0, none⟩, cap, rfl, fun j hj => ⟨_, rfl, fun i u hi => ?_⟩⟩
    have hi5 : i < 5 := by
      have := (Array.getElem?_eq_some_iff.1 hi).1
      rwa [evs_size] at this
    rw [Addr.add_mid, Addr.add_mid, Nat.zero_add]
    have hr := rowe_get es j hj i hi5
    rw [hi] at hr
    have hc := h.cells (g := g) rfl (j * 5 + i) _ hr
    rw [Addr.add_mid, Nat.zero_add] at hc
    exact hc
/-- A slice of these entries. -/
def EnsR (es : List EntT) : VR := fun u w => ∃ a c, u = .slice a es.length c ∧ EnSl w a es
theorem ensR_stable (es : List EntT) : Stable (EnsR es) := fun u w w' h hb => by
  obtain ⟨a, c, h1, h2⟩ := h
  exact ⟨a, c, h1, h2.ext hb⟩
/-- Both tables behind some puts, and the two rows as they were. -/
structure PK (B : Nat) (w w' : World) (n : Nat) (ms : Nat → Mst) (own : List Nat) : Prop where
  x : PXM B w' n ms own
  rows : ∀ k ∈ own, w'.heap[k]? = w.heap[k]?
  base : Below B w w'
theorem PK.ext {B n : Nat} {w w1 w2 : World} {ms : Nat → Mst} {own : List Nat} (h : PK B w w1 n ms own) (hb : Below w1.heap.size w1 w2) (hB : B ≤ w.heap.size) : PK B w w2 n ms own :=
  ⟨h.x.ext hb, fun k hk => by rw [hb.block k (h.x.lo k hk)]; exact h.rows k hk, h.base.trans (hb.mono (Nat.le_trans hB h.base.size))⟩
theorem rows_of {B n : Nat} {w w1 w2 : World} {ms : Nat → Mst} {own : List Nat} (h : PK B w w1 n ms own) (hk : ∀ k o, w1.heap[k]? = some o → k ∈ own → w2.heap[k]? = some o) : ∀ k ∈ own, w2.heap[k]? = w.heap[k]? := fun k hm => by
  have hlt := h.x.lo k hm
  have h1 : w1.heap[k]? = some w1.heap[k] := Array.getElem?_eq_getElem hlt
  rw [hk k _ h1 hm, ← h1]
  exact h.rows k hm
theorem PK.put {B n i : Nat} {w w1 w2 : World} {ms : Nat → Mst} {own : List Nat} {v' : Value} {es' : List EntT} (h : PK B w w1 n ms own) (hi : i < n) (hT : MpT w1 w2 B (ms i).g (ms i).v v' (ms i).K (ms i).R es') : PK B w w2 n (updM ms i { ms i with v := v', es := es' }) own := by
  obtain ⟨h1, h2⟩ := h.x.put hi hT
  exact ⟨h1, rows_of h h2, h.base.trans hT.rest.below⟩
theorem PK.rput {B n i : Nat} {w w1 w2 : World} {ms : Nat → Mst} {own : List Nat} {u' : Value} {fs' : List EntT} (h : PK B w w1 n ms own) (hi : i < n) (hT : RmT w1 w2 B (ms i).r (ms i).u u' ((ms i).K == 2) (ms i).R fs') : PK B w w2 n (updM ms i { ms i with u := u', fs := fs' }) own := by
  obtain ⟨h1, h2⟩ := h.x.rput hi hT
  exact ⟨h1, rows_of h h2, h.base.trans hT.below⟩
theorem cell_rows {own : List Nat} {w w1 : World} {a : Addr} {v : Value} (hc : w.cell? a = some v) (hm : a.block ∈ own) (hk : ∀ k ∈ own, w1.heap[k]? = w.heap[k]?) : w1.cell? a = some v := by
  rw [← hc]
  exact World.cell?_of_block (hk _ hm)
/-- What a Put of the program's leaves: its answer, and the tables. -/
def PutD (B : Nat) (w : World) (n i : Nat) (ms : Nat → Mst) (own : List Nat) (E : Int) (L : List EntT) : VR := fun u w' => u = .int .i64 E ∧ ∃ v', PK B w w' n (updM ms i { ms i with v := v', es := L }) own
theorem putD_stable {B n i : Nat} {w : World} {ms : Nat → Mst} {own : List Nat} {E : Int} {L : List EntT} (hB : B ≤ w.heap.size) : Stable (PutD B w n i ms own E L) := fun u w1 w2 h hb => by
  obtain ⟨h1, v', h2⟩ := h
  exact ⟨h1, v', h2.ext hb hB⟩

theorem run_bvalM (i : Int) (w : World) : (Instr.build 30 #[(0, .int .i64 i)]).run Try.prog w = .ok (.agg (vvs (i, 0, 0, 0))) w := by kernel_rfl
theorem run_bval4 (i : Int) (w : World) : (Instr.build 29 #[(0, .int .i64 i)]).run Try.prog w = .ok (.agg (vvs (i, 0, 0, 0))) w := by kernel_rfl
section
variable {ops : Array Oper} {rest : List Oper} {Q : Exit → Act → World → Prop} {tmps : Array Value} {df : List Deferred} {d ty t u : Nat} {ps : String} {af : Array Edge} {gd : Option (Nat × Bool)} {w : World}
theorem ev_bvalM {x : Operand} (h : Region.wanted ⟨some d, .build 30 #[(0, x)], ty, ps, af, gd⟩ (yielded ops tmps) = true ∧ ∃ i, Act.eval ⟨tmps, df⟩ x = .int .i64 i ∧ wpList Try.prog ops Q rest (Act.put ⟨tmps, df⟩ (some d) (.agg (vvs (i, 0, 0, 0)))) w) :
    wpList Try.prog ops Q (⟨some d, .build 30 #[(0, x)], ty, ps, af, gd⟩ :: rest) ⟨tmps, df⟩ w := by
  obtain ⟨hw, i, hx, h⟩ := h
  refine wpl_run hw ?_ h
  have e : (#[(0, x)] : Array (Nat × Operand)).map (fun z => (z.1, Act.eval ⟨tmps, df⟩ z.2)) = #[(0, .int .i64 i)] := by simp [hx]
  simp only [execOp]
  rw [e]
  simp only [Sem.run_bind, run_bvalM, Result.andThen_ok, Sem.run_pure]
theorem ev_bval4 {x : Operand} (h : Region.wanted ⟨some d, .build 29 #[(0, x)], ty, ps, af, gd⟩ (yielded ops tmps) = true ∧ ∃ i, Act.eval ⟨tmps, df⟩ x = .int .i64 i ∧ wpList Try.prog ops Q rest (Act.put ⟨tmps, df⟩ (some d) (.agg (vvs (i, 0, 0, 0)))) w) :
    wpList Try.prog ops Q (⟨some d, .build 29 #[(0, x)], ty, ps, af, gd⟩ :: rest) ⟨tmps, df⟩ w := by
  obtain ⟨hw, i, hx, h⟩ := h
  refine wpl_run hw ?_ h
  have e : (#[(0, x)] : Array (Nat × Operand)).map (fun z => (z.1, Act.eval ⟨tmps, df⟩ z.2)) = #[(0, .int .i64 i)] := by simp [hx]
  simp only [execOp]
  rw [e]
  simp only [Sem.run_bind, run_bval4, Result.andThen_ok, Sem.run_pure]
end
/-- What stands of each map through the puts. -/
structure Pair (m : Mst) (g r : Nat) : Prop where
  same : m.fs = m.es
  len : (m.es.length : Int) ≤ m.R
  kind : m.K = 1 ∨ m.K = 2
  room : 1 ≤ m.R ∧ m.R ≤ 8
  prog : m.g = g
  ref : m.r = r
/-- The maps of a set behind some puts; the two rows as they were. -/
structure Pairs (B : Nat) (w w' : World) (n : Nat) (gs rs : List Nat) (own : List Nat) : Prop where
  ms : ∃ ms, PK B w w' n ms own ∧ ∀ i, i < n → Pair (ms i) (gs.getD i 0) (rs.getD i 0)
theorem Pairs.rows {B n : Nat} {w w' : World} {gs rs own : List Nat} (h : Pairs B w w' n gs rs own) : ∀ k ∈ own, w'.heap[k]? = w.heap[k]? := h.ms.elim fun _ h => h.1.rows
theorem Pairs.base {B n : Nat} {w w' : World} {gs rs own : List Nat} (h : Pairs B w w' n gs rs own) : Below B w w' := h.ms.elim fun _ h => h.1.base

set_option maxHeartbeats 8000000 in
set_option maxRecDepth 100000 in
theorem mk_yes (a b : Option Addr) (ss : List (Int × Int)) (ks : List Int) (c d : Nat) (w : World) (hl : SpSl w a ss) (hk : IntSl w b ks) (hn : ss.length ≤ 4) (hn0 : 0 < ss.length) (hok : allOk ss = true) (h40 : ks.length ≤ 40) :
    Calls Try.prog 4 #[.slice a ss.length c, .slice b ks.length d] w fun e w' => e = .returned (.bool true) ∧ Below w.heap.size w w' := by
  have e1 : decide ((ss.length : Int) > 20) = false := decide_eq_false (by omega)
  have e2 : decide (20 < (ss.length : Int)) = false := decide_eq_false (by omega)
  have e3 : decide ((ks.length : Int) > 40) = false := decide_eq_false (by omega)
  have e4 : decide (40 < (ks.length : Int)) = false := decide_eq_false (by omega)
  have e5 : decide ((ss.length : Int) ≤ 4) = true := decide_eq_true (by omega)
  have hMake : ∀ w1, SpSl w1 a ss → Calls Try.prog 11 #[.slice a ss.length c] w1 fun e w' => ∃ av cv gs, e = .returned (.tuple #[.slice av ss.length cv, .int .i64 0]) ∧ PtSl w' av gs ∧ MkS MpN w1.heap.size w' gs ss ∧ PApart w' w1.heap.size 24 (.slice av ss.length cv) gs ∧ Below w1.heap.size w1 w' := fun w1 hl1 => by
    refine (make_is a ss c w1 hl1 hn).mono ?_
    rintro e w' ⟨hb, ⟨-, v, gs, rfl, hMk, hP⟩ | ⟨hA, -⟩⟩
    · obtain ⟨av, cv, rfl, -, hps⟩ := hP.row.sl
      rw [hMk.len] at hP ⊢
      exact ⟨av, cv, gs, rfl, hps, hMk, hP, hb⟩
    · rw [hok] at hA
      cases hA
  go_enter Try.func4, Try.ntmps4
  go_wp2_with (first
    | (go_at_call 6; refine (awake17 _).mono ?_; rintro e w1 ⟨rfl, hb1⟩)
    | (go_at_call 11; refine (hMake _ (hl.ext hb1)).mono ?_; rintro e w2 ⟨av, cv, gs, rfl, hps, hMk, hP, hb2⟩))
  have hbX := hb1.trans (hb2.mono hb1.size)
  have hw1 := hb1.size
  go_loopw [7, 38] (fun o i wr => ∃ k : Nat, k ≤ ss.length ∧ i = .int .i64 k ∧ o = .bool true ∧ Below w2.heap.size w2 wr) (fun _ i _ => ss.length - (intOf i).toNat)
  case atStart => exact ⟨0, by omega, rfl, rfl, Below.refl _ _⟩
  case round =>
    obtain ⟨k, hk0, rfl, rfl, hbw⟩ := hrel
    have hbwX := hbX.trans (hbw.mono hbX.size)
    by_cases h : k = ss.length
    · subst h
      rename World => w4
      have hgl := hMk.len
      have e6 : ((ss.length : Int) != ss.length) = false := by simp
      have hneg := setAt_neg av ss.length cv
      have hpast := fun w => setAt_past av ss.length cv w (by omega)
      go_wp2_with (first
        | (go_at_call 13; with_reducible refine (hneg _).mono ?_; rintro e w3 ⟨rfl, hw3⟩; subst w3)
        | (go_at_call 13; with_reducible refine (hpast _).mono ?_; rintro e w3 ⟨rfl, hw3⟩; subst w3))
      go_loopw [10, 84] (fun o i wq => ∃ (k : Nat) (rs : List Nat), k ≤ ss.length ∧ i = .int .i64 k ∧ MkS RmN w4.heap.size wq rs (ss.take k) ∧ PApart wq w4.heap.size 44 o rs ∧ Below w4.heap.size w4 wq) (fun _ i _ => ss.length - (intOf i).toNat)
      case atStart => exact ⟨0, [], by omega, rfl, MkS.nil _ _ _, PApart.nil _ _ _, Below.refl _ _⟩
      case round =>
        obtain ⟨k, rs, hk1, rfl, hRk, hPA, hbq⟩ := hrel
        by_cases h : k = ss.length
        · subst h
          rename World => w5
          rw [List.take_length] at hRk
          obtain ⟨ar, cr, hov, -, hrs⟩ := hPA.row.sl
          subst hov
          have hrl := hRk.len
          rw [hrl] at hPA ⊢
          have hb25 : Below w2.heap.size w2 w5 := hbw.trans (hbq.mono hbw.size)
          have hb05 : Below w.heap.size w w5 := hbX.trans (hb25.mono hbX.size)
          have hMg := (hMk.ext goes_mp hbw).lo goes_mp
          have hX := PXM.made (hMk.ext goes_mp hb25) hRk (Nat.le_trans hb2.size hbw.size) (fun g hg => (hMg g hg).2) (hP.ext hb25) (fun k e => ((hP.ext hbw).row.own.lt k e).2) hPA
          have hown1 : ∀ x, av = some x → x.block ∈ (Value.slice av ss.length cv).ownBlock.toList ++ (Value.slice ar ss.length cr).ownBlock.toList := fun x e => by subst e; simp [Value.ownBlock]
          have hown2 : ∀ x, ar = some x → x.block ∈ (Value.slice av ss.length cv).ownBlock.toList ++ (Value.slice ar ss.length cr).ownBlock.toList := fun x e => by subst e; simp [Value.ownBlock]
          generalize (Value.slice av ss.length cv).ownBlock.toList ++ (Value.slice ar ss.length cr).ownBlock.toList = own at hX hown1 hown2
          have hpair0 : ∀ i, i < ss.length → Pair (ms0 gs rs ss i) (gs.getD i 0) (rs.getD i 0) := fun i hi => by
            have hs := newOk_true (allOk_get hok i hi)
            have hgd : ss.getD i (0, 0) = ss[i] := by rw [List.getD_eq_getElem?_getD, List.getElem?_eq_getElem hi, Option.getD_some]
            refine ⟨rfl, ?_, ?_, ?_, rfl, rfl⟩
            · show ((([] : List EntT).length : Nat) : Int) ≤ (ss.getD i (0, 0)).2
              rw [hgd]
              simp only [List.length_nil]
              omega
            · show (ss.getD i (0, 0)).1 = 1 ∨ (ss.getD i (0, 0)).1 = 2
              rw [hgd]
              exact hs.1
            · show 1 ≤ (ss.getD i (0, 0)).2 ∧ (ss.getD i (0, 0)).2 ≤ 8
              rw [hgd]
              exact hs.2
          have hPr : Pairs w1.heap.size w5 w5 ss.length gs rs own := ⟨_, ⟨hX, fun _ _ => rfl, Below.refl _ _⟩, hpair0⟩
          have hps5 := hps.ext hb25
          have HG := Lib.hid (And.intro hgl (And.intro hrl (And.intro hown1 hown2)))
          have HND := Lib.hid hMk.nodup
          have e7 : ((ss.length : Int) == 0) = false := beq_eq_false_iff_ne.2 (by omega)
          clear hX hpair0 hMg hMk hP hPA hRk hown1 hown2 hps hMake hneg hpast
          go_wp2
          go_loopw [99] (fun i wq => ∃ k : Nat, k ≤ ks.length ∧ i = .int .i64 k ∧ Pairs w1.heap.size w5 wq ss.length gs rs own) (fun i _ => ks.length - (intOf i).toNat)
          case atStart => exact ⟨0, by omega, rfl, hPr⟩
          case round =>
            clear hPr
            obtain ⟨k, hk2, rfl, hPr⟩ := hrel
            have hbk : Below w.heap.size w wr := hb05.trans (hPr.base.mono hw1)
            have hpsk : PtSl wr av gs := hps5.keep fun x e => hPr.rows _ (HG.out.2.2.1 x e)
            have hrsk : PtSl wr ar rs := hrs.keep fun x e => hPr.rows _ (HG.out.2.2.2 x e)
            by_cases h : k = ks.length
            · subst h
              rename World => w6
              obtain ⟨ms, hPK, hpair⟩ := hPr.ms
              clear hPr hk hk2
              obtain ⟨E, hE⟩ : ∃ E : Nat → List EntT, E = fun i => if i < ss.length then (ms i).es else [] := ⟨_, rfl⟩
              have hEi : ∀ i, i < ss.length → E i = (ms i).es := fun i hi => by rw [hE]; exact if_pos hi
              have hEl : ∀ i, (E i).length ≤ 100 := fun i => by
                by_cases hi : i < ss.length
                · rw [hEi i hi]
                  have h1 := (hpair i hi).len
                  have h2 := (hpair i hi).room
                  omega
                · rw [hE]
                  simp only [if_neg hi]
                  exact Nat.zero_le _
              have hgd : ∀ i (hi : i < ss.length) (h0 : i < gs.length), gs[i] = (ms i).g := fun i hi h0 => by rw [(hpair i hi).prog, List.getD_eq_getElem?_getD, List.getElem?_eq_getElem h0, Option.getD_some]
              have hrd : ∀ i (hi : i < ss.length) (h0 : i < rs.length), rs[i] = (ms i).r := fun i hi h0 => by rw [(hpair i hi).ref, List.getD_eq_getElem?_getD, List.getElem?_eq_getElem h0, Option.getD_some]
              have HM := Lib.hid (And.intro hEi (And.intro hEl (And.intro hgd (And.intro hrd (And.intro hpair hPK)))))
              clear hEi hEl hgd hrd hpair hPK hE
              go_wp2
              go_loopw [16, 137] (fun o i wq => ∃ j : Nat, j ≤ ss.length ∧ i = .int .i64 j ∧ o = .int .i64 (sumE E j) ∧ Below w6.heap.size w6 wq) (fun _ i _ => ss.length - (intOf i).toNat)
              case atStart => exact ⟨0, by omega, rfl, rfl, Below.refl _ _⟩
              case round =>
                obtain ⟨j, hj0, rfl, rfl, hbj⟩ := hrel
                by_cases h : j = ss.length
                · subst h
                  rename World => w7
                  have hBs : w1.heap.size ≤ w5.heap.size := Nat.le_trans hb2.size hb25.size
                  have hK7 := HM.out.2.2.2.2.2.ext hbj hBs
                  have hM7 : ∀ (j : Nat) (h : j < gs.length), Mp w7 w1.heap.size gs[j] (ms j).v (ms j).K (ms j).R (E j) := fun j h0 => by
                    have hlt : j < ss.length := by rw [← hgl]; exact h0
                    have h1 := hK7.x.mp j hlt
                    rw [← HM.out.2.2.1 j hlt h0, ← HM.out.1 j hlt] at h1
                    exact h1
                  have hfar : ∀ x, av = some x → x.block ∉ gs := fun x e hm => by
                    obtain ⟨j, h0, e2⟩ := List.mem_iff_getElem.1 hm
                    have hlt : j < ss.length := by rw [← hgl]; exact h0
                    exact hK7.x.far (j, 0) x.block ⟨hlt, by simp⟩ (by show some (ms j).g = _; rw [← HM.out.2.2.1 j hlt h0, e2]) (HG.out.2.2.1 x e)
                  have hps7 := hpsk.ext hbj
                  have hE1 : ∀ w', Mps w' w1.heap.size gs E → PtSl w' av gs → Calls Try.prog 18 #[.slice av ss.length cv] w' fun e w'' => e = .returned (.int .i64 (sumE E ss.length)) ∧ Below w'.heap.size w' w'' := fun w' hm hp => by
                    have h1 := entries_is w1.heap.size av gs cv E w' hp (by omega) hm.mp HM.out.2.1
                    rw [hgl] at h1
                    exact h1
                  have hE2 : ∀ w', Mps w' w1.heap.size gs (fun _ => []) → PtSl w' av gs → Calls Try.prog 18 #[.slice av ss.length cv] w' fun e w'' => e = .returned (.int .i64 0) ∧ Below w'.heap.size w' w'' := fun w' hm hp => by
                    have h1 := entries_is w1.heap.size av gs cv (fun _ => []) w' hp (by omega) hm.mp (fun _ => Nat.zero_le _)
                    rw [sumE_nil, hgl] at h1
                    exact h1
                  have hC1 : ∀ w', Mps w' w1.heap.size gs E → PtSl w' av gs → Calls Try.prog 19 #[.slice av ss.length cv] w' fun e w'' => e = .returned (.tuple #[]) ∧ Mps w'' w1.heap.size gs (fun _ => []) ∧ PtSl w'' av gs ∧ Below w1.heap.size w' w'' := fun w' hm hp => by
                    have h1 := clear_n w1.heap.size av gs ss.length cv w' hgl hp (by omega) hfar HND.out (fun j h => (hm.mp j h).elim fun v h => h.elim fun K h => h.elim fun R h => ⟨K, R, v, h.blk⟩) (fun g hg => by
                      obtain ⟨j, h0, rfl⟩ := List.mem_iff_getElem.1 hg
                      obtain ⟨v, K, R, h⟩ := hm.mp j h0
                      exact h.low)
                    refine h1.mono ?_
                    rintro e w'' ⟨he, hcl, hp2, hb⟩
                    refine ⟨he, ⟨fun j h => ?_⟩, hp2, hb⟩
                    obtain ⟨K, R, hg⟩ := hcl j (by omega)
                    obtain ⟨v, K', R', hm'⟩ := hm.mp j h
                    exact ⟨_, K, R, hm'.low, hg, World.ownsRow_nil _ _ _ _, fun e => by cases e⟩
                  have hm7 : Mps w7 w1.heap.size gs E := ⟨fun j h => ⟨_, _, _, hM7 j h⟩⟩
                  have H1 := Lib.hid hE1
                  have H2 := Lib.hid hE2
                  have H3 := Lib.hid hC1
                  have hb07 : Below w.heap.size w w7 := hbk.trans (hbj.mono hbk.size)
                  have hne : ((sumE E ss.length : Int) != (sumE E ss.length : Int)) = false := by simp
                  generalize sumE E ss.length = sE at H1 hne ⊢
                  clear hE1 hE2 hC1 hM7 hfar hK7
                  go_wp2_with (first
                    | (go_at_call 18; with_reducible refine (H1.out _ hm7 hps7).mono ?_; rintro e w8 ⟨rfl, hb8⟩; have hm8 := hm7.ext hb8; have hps8 := hps7.ext hb8; have hb08 := hb07.trans (hb8.mono hb07.size); clear hm7)
                    | (go_at_call 19; with_reducible refine (H3.out _ hm8 hps8).mono ?_; rintro e w9 ⟨rfl, hm9, hps9, hb9⟩; have hb09 := hb08.trans (hb9.mono hw1))
                    | (go_at_call 18; with_reducible refine (H2.out _ hm9 hps9).mono ?_; rintro e w10 ⟨rfl, hb10⟩))
                  go_ret
                  exact ⟨rfl, hb09.trans (hb10.mono hb09.size)⟩
                · have hlt : j < ss.length := by omega
                  have hlt' : (j : Int) < ss.length := by omega
                  have hBs : w1.heap.size ≤ w5.heap.size := Nat.le_trans hb2.size hb25.size
                  have hKj := HM.out.2.2.2.2.2.ext hbj hBs
                  have hMj := hKj.x.mp j hlt
                  have hRj := hKj.x.rm j hlt
                  have hpj := HM.out.2.2.2.2.1 j hlt
                  have hEj := HM.out.1 j hlt
                  have hl1 := HM.out.2.1 j
                  have hs1 := sumE_le HM.out.2.1 j
                  have hsum : sumE E (j + 1) = sumE E j + (E j).length := rfl
                  rw [hpj.same] at hRj
                  rw [← hEj] at hRj hMj
                  have h0 : j < gs.length := by rw [hgl]; exact hlt
                  have h0' : j < rs.length := by rw [hrl]; exact hlt
                  have hAt : ∀ w', Below wr.heap.size wr w' → Calls Try.prog 13 #[.slice av ss.length cv, .int .i64 j] w' fun e w'' => e = .returned (ptrv (ms j).g) ∧ w'' = w' := fun w' hb => by
                    have h1 := setAt_is av gs cv j w' ((hpsk.ext hbj).ext hb) h0 (by omega)
                    rw [HM.out.2.2.1 j hlt h0, hgl] at h1
                    exact h1
                  obtain ⟨y, rfl, hcr⟩ := hrsk j h0'
                  rw [HM.out.2.2.2.1 j hlt h0'] at hcr
                  have hcr2 : wr.cell? (y.add j) = some (ptrv (ms j).r) := by rw [hbj.cell (cell_lt hcr), hcr]
                  have hcC := Lib.hid (show ∀ w', Below wr.heap.size wr w' → w'.cell? (y.add j) = some (ptrv (ms j).r) from fun w' hb => by rw [hb.cell (cell_lt hcr2), hcr2])
                  obtain ⟨a1, c1, huj, -, -, hsl1, -⟩ := hRj.row.sl
                  have hRb := hRj.blk
                  rw [huj] at hRb
                  have hAll := fun w' hM => all_is w1.heap.size (ms j).g (ms j).v (ms j).K (ms j).R (E j) w' hM (by omega)
                  generalize (ms j).g = gj at hAt hMj hAll
                  generalize (ms j).r = rj at hcr hcr2 hcC hRb
                  generalize (ms j).v = vj at hMj hAll
                  generalize ((ms j).K == 2) = Lj at hRb
                  generalize (ms j).K = Kj at hMj hAll
                  generalize (ms j).R = Rj at hMj hAll hRb
                  clear hKj hRj hpj hEj huj
                  generalize sumE E j = s0 at hsum hs1 ⊢
                  generalize E j = es at hsum hl1 hMj hsl1 hRb hAll
                  have hSB := hbj.size
                  have hw : wrap64 ((s0 : Int) + es.length) = ((s0 + es.length : Nat) : Int) := by unfold wrap64; omega
                  have HS := Lib.hid hsum
                  have HA := Lib.hid hAll
                  have HL := Lib.hid hl1
                  have HAt := Lib.hid hAt
                  clear hsum hAll hcr hAt hs1 hl1
                  go_upto_region 35 with (first
                    | ((with_reducible refine ev_load1_at onePPR ?_); refine ⟨rfl, _, _, rfl, hcr2, ?_⟩; (simp only [Act.put, List.setIfInBounds_toArray, List.set_cons_succ, List.set_cons_zero]))
                    | ((with_reducible refine ev_load1_blk oSr ?_); refine ⟨rfl, _, _, _, _, _, rfl, hRb, rmc2 _ _ _, ?_⟩; (simp only [Act.put, List.setIfInBounds_toArray, List.set_cons_succ, List.set_cons_zero])))
                  clear hcr2
                  refine wp_region_rel (S := fun w' => Below wr.heap.size wr w') [150, 151, 152, 153, 154, 155, 156, 157, 158, 159, 160, 161] mixed17 (by kernel_rfl) (by kernel_rfl) (by decide) (by kernel_rfl) (fun _ _ h k => h.trans (k.mono h.size)) (Below.refl _ _).drew ?_
                  iterate 3 (refine rel_eq (v := ?_) ?_ ?_; rotate_left; (focus ((simp only [Lay, List.nil_append, List.cons_append, List.setIfInBounds_toArray, List.set_cons_succ, List.set_cons_zero]; intros; rename_i w9 hS hF; simp only [FactsE, List.nil_append, List.cons_append, List.toList_toArray, List.getElem?_cons_succ, List.getElem?_cons_zero] at hF; try (repeat (first | obtain ⟨rfl, hF⟩ := hF | (obtain ⟨(hEs : EnsR _ _ _), hF⟩ := hF; obtain ⟨aE, cE, rfl, hslE⟩ := hEs) | (obtain ⟨(hPd : PutD _ _ _ _ _ _ _ _ _ _), hF⟩ := hF; obtain ⟨rfl, v9, hK9⟩ := hPd)))); refine step_take rfl (of_decide_eq_true rfl) ?_; (have hcq := hcC.out _ hS; have hRq := blk_of hS hRb); go_wp2_with (first | ((with_reducible refine ev_load1_at onePPR ?_); refine ⟨rfl, _, _, rfl, hcq, ?_⟩; (simp only [Act.put, List.setIfInBounds_toArray, List.set_cons_succ, List.set_cons_zero])) | ((with_reducible refine ev_load1_blk oSr ?_); refine ⟨rfl, _, _, _, _, _, rfl, hRq, rmc2 _ _ _, ?_⟩; (simp only [Act.put, List.setIfInBounds_toArray, List.set_cons_succ, List.set_cons_zero])) | (go_at_call 13; refine (HAt.out _ hS).mono ?_; rintro e w8 ⟨rfl, hw8⟩; subst w8)); refine RQ_mk rfl ?_ ?_; (focus exact Below.refl _ _); (focus (first | (simp only [Array.getD_eq_getD_getElem?, List.getElem?_toArray, List.getElem?_cons_succ, List.getElem?_cons_zero, Option.getD_some]; done) | (simp only [Array.getD_eq_getD_getElem?, List.getElem?_toArray, List.getElem?_cons_succ, List.getElem?_cons_zero, Option.getD_some]; rfl) | rfl)))))
                  refine rel_any (EnsR es) (ensR_stable _) ?_ ?_
                  · (simp only [Lay, List.nil_append, List.cons_append, List.setIfInBounds_toArray, List.set_cons_succ, List.set_cons_zero]; intros; rename_i w9 hS hF; simp only [FactsE, List.nil_append, List.cons_append, List.toList_toArray, List.getElem?_cons_succ, List.getElem?_cons_zero] at hF; try (repeat (first | obtain ⟨rfl, hF⟩ := hF | (obtain ⟨(hEs : EnsR _ _ _), hF⟩ := hF; obtain ⟨aE, cE, rfl, hslE⟩ := hEs) | (obtain ⟨(hPd : PutD _ _ _ _ _ _ _ _ _ _), hF⟩ := hF; obtain ⟨rfl, v9, hK9⟩ := hPd))))
                    refine step_take rfl (of_decide_eq_true rfl) ?_
                    go_wp2_with (go_at_call 17; refine (HA.out _ (hMj.ext hS)).mono ?_; rintro e w8 ⟨v8, rfl, hr8, hb8⟩)
                    refine RQ_mk rfl hb8 ?_
                    simp only [Array.getD_eq_getD_getElem?, List.getElem?_toArray, List.getElem?_cons_succ, List.getElem?_cons_zero, Option.getD_some]
                    exact own_sl hr8
                  refine rel_any (EnsR es) (ensR_stable _) ?_ ?_
                  · (simp only [Lay, List.nil_append, List.cons_append, List.setIfInBounds_toArray, List.set_cons_succ, List.set_cons_zero]; intros; rename_i w9 hS hF; simp only [FactsE, List.nil_append, List.cons_append, List.toList_toArray, List.getElem?_cons_succ, List.getElem?_cons_zero] at hF; try (repeat (first | obtain ⟨rfl, hF⟩ := hF | (obtain ⟨(hEs : EnsR _ _ _), hF⟩ := hF; obtain ⟨aE, cE, rfl, hslE⟩ := hEs) | (obtain ⟨(hPd : PutD _ _ _ _ _ _ _ _ _ _), hF⟩ := hF; obtain ⟨rfl, v9, hK9⟩ := hPd))))
                    refine step_take rfl (of_decide_eq_true rfl) ?_
                    go_wp2_with (go_at_call 16; refine (plain_is _ es _ _ hslE (by have := HL.out; omega)).mono ?_; rintro e w8 ⟨v8, rfl, hr8, hb8⟩)
                    refine RQ_mk rfl hb8 ?_
                    simp only [Array.getD_eq_getD_getElem?, List.getElem?_toArray, List.getElem?_cons_succ, List.getElem?_cons_zero, Option.getD_some]
                    exact own_sl hr8
                  iterate 7 (refine rel_eq (v := ?_) ?_ ?_; rotate_left; (focus ((simp only [Lay, List.nil_append, List.cons_append, List.setIfInBounds_toArray, List.set_cons_succ, List.set_cons_zero]; intros; rename_i w9 hS hF; simp only [FactsE, List.nil_append, List.cons_append, List.toList_toArray, List.getElem?_cons_succ, List.getElem?_cons_zero] at hF; try (repeat (first | obtain ⟨rfl, hF⟩ := hF | (obtain ⟨(hEs : EnsR _ _ _), hF⟩ := hF; obtain ⟨aE, cE, rfl, hslE⟩ := hEs) | (obtain ⟨(hPd : PutD _ _ _ _ _ _ _ _ _ _), hF⟩ := hF; obtain ⟨rfl, v9, hK9⟩ := hPd)))); refine step_take rfl (of_decide_eq_true rfl) ?_; (have hcq := hcC.out _ hS; have hRq := blk_of hS hRb); go_wp2_with (first | ((with_reducible refine ev_load1_at onePPR ?_); refine ⟨rfl, _, _, rfl, hcq, ?_⟩; (simp only [Act.put, List.setIfInBounds_toArray, List.set_cons_succ, List.set_cons_zero])) | ((with_reducible refine ev_load1_blk oSr ?_); refine ⟨rfl, _, _, _, _, _, rfl, hRq, rmc2 _ _ _, ?_⟩; (simp only [Act.put, List.setIfInBounds_toArray, List.set_cons_succ, List.set_cons_zero])) | (go_at_call 13; refine (HAt.out _ hS).mono ?_; rintro e w8 ⟨rfl, hw8⟩; subst w8)); refine RQ_mk rfl ?_ ?_; (focus exact Below.refl _ _); (focus (first | (simp only [Array.getD_eq_getD_getElem?, List.getElem?_toArray, List.getElem?_cons_succ, List.getElem?_cons_zero, Option.getD_some]; done) | (simp only [Array.getD_eq_getD_getElem?, List.getElem?_toArray, List.getElem?_cons_succ, List.getElem?_cons_zero, Option.getD_some]; rfl) | rfl)))))
                  refine rel_end ?_
                  (simp only [Lay, List.nil_append, List.cons_append, List.setIfInBounds_toArray, List.set_cons_succ, List.set_cons_zero]; intros; rename_i w9 hS hF; simp only [FactsA, List.nil_append, List.cons_append] at hF; try (repeat (first | obtain ⟨rfl, hF⟩ := hF | (obtain ⟨(hEs : EnsR _ _ _), hF⟩ := hF; obtain ⟨aE, cE, rfl, hslE⟩ := hEs) | (obtain ⟨(hPd : PutD _ _ _ _ _ _ _ _ _ _), hF⟩ := hF; obtain ⟨rfl, v9, hK9⟩ := hPd))))
                  go_wp2_with (go_at_call 15; refine (rsame_is _ _ es _ _ _ hslE (hsl1.ext hS) (by have := HL.out; omega)).mono ?_; rintro e w8 ⟨rfl, hb8⟩)
                  exact ⟨⟨j + 1, by omega, by simp, by rw [HS.out]; rfl, hbj.trans ((hS.trans (hb8.mono hS.size)).mono hSB)⟩, by simp only [intOf]; omega⟩
            · have hlt : k < ks.length := by omega
              have hlt' : (k : Int) < ks.length := by omega
              obtain ⟨x, rfl, hc, -⟩ := hk.ext hbk k hlt
              generalize ks[k] = key at hc
              obtain ⟨ms, hPK, hpair⟩ := hPr.ms
              obtain ⟨i0, hi0, hi0n⟩ : ∃ i0 : Nat, (k : Int) % (ss.length : Int) = (i0 : Int) ∧ i0 < ss.length := ⟨k % ss.length, (Int.natCast_emod k ss.length).symm, Nat.mod_lt _ hn0⟩
              have hp := hpair i0 hi0n
              have hAt : Calls Try.prog 13 #[.slice av ss.length cv, .int .i64 i0] wr fun e w' => e = .returned (ptrv (ms i0).g) ∧ w' = wr := by
                have h0 : i0 < gs.length := by rw [hgl]; exact hi0n
                have h1 := setAt_is av gs cv i0 wr hpsk h0 (by omega)
                have h2 : gs[i0] = (ms i0).g := by rw [hp.prog, List.getD_eq_getElem?_getD, List.getElem?_eq_getElem h0, Option.getD_some]
                rw [h2, hgl] at h1
                exact h1
              have hRd : ∃ y, ar = some y ∧ wr.cell? (y.add i0) = some (ptrv (ms i0).r) := by
                have h0 : i0 < rs.length := by rw [hrl]; exact hi0n
                obtain ⟨y, e, h1⟩ := hrsk i0 h0
                refine ⟨y, e, ?_⟩
                rw [h1, hp.ref, List.getD_eq_getElem?_getD, List.getElem?_eq_getElem h0, Option.getD_some]
              obtain ⟨y, rfl, hcr⟩ := hRd
              have hyo : (y.add i0).block ∈ own := by rw [show (y.add i0).block = y.block from by unfold Addr.add; split <;> rfl]; exact HG.out.2.2.2 y rfl
              have hBs : w1.heap.size ≤ w5.heap.size := Nat.le_trans hb2.size hb25.size
              have hPut := fun w' (hM : Mp w' w1.heap.size (ms i0).g (ms i0).v (ms i0).K (ms i0).R (ms i0).es) => put_is w1.heap.size (ms i0).g (ms i0).v (ms i0).K (ms i0).R key ((k : Int), 0, 0, 0) (ms i0).es w' hM (by have := hp.len; have := hp.room; omega) hp.kind hp.room.1
              have hRput := fun w' (u : Value) (hM : Rm w' w1.heap.size (ms i0).r u ((ms i0).K == 2) (ms i0).R (ms i0).es) => rput_is w1.heap.size (ms i0).r u (ms i0).K (ms i0).R key ((k : Int), 0, 0, 0) (ms i0).es w' hM (by have := hp.len; have := hp.room; omega) hp.kind hp.room.1 hp.len
              have hLl := putL_len (ms i0).K (ms i0).R (ms i0).es key ((k : Int), 0, 0, 0) hp.len hp.room.1
              generalize putL (ms i0).K (ms i0).R (ms i0).es key ((k : Int), 0, 0, 0) = L0 at hPut hRput hLl
              generalize putE (ms i0).K (ms i0).R (ms i0).es key = E0 at hPut hRput
              have HP := Lib.hid (And.intro hp (And.intro hpair hLl))
              have HR := Lib.hid hRput
              have HU := Lib.hid hPut
              clear hp hpair hLl hRput hPut
              have hi1 : ((i0 : Int) < (ss.length : Int)) := by omega
              go_upto_region 27 with (go_at_call 13; refine hAt.mono ?_; rintro e w6 ⟨rfl, hw6⟩; subst w6)
              clear hAt
              refine wp_region_relW (fun w' => w'.cell? (y.add i0) = some (ptrv (ms i0).r)) (fun w' => PK w1.heap.size w5 w' ss.length ms own) (fun w1 w2 => w1.cell? (y.add i0) = some (ptrv (ms i0).r) → w2.cell? (y.add i0) = some (ptrv (ms i0).r)) 7 [113, 114, 115, 116, 117, 118, 119, 120, 121, 122, 123, 124, 125, 126, 127, 128, 129, 130] mixed17 (by kernel_rfl) (by kernel_rfl) (by decide) (by kernel_rfl) (fun _ _ h1 h2 => h2 h1) (fun _ _ hb h1 => by rw [hb.cell (cell_lt h1), h1]) (fun _ _ h1 hb => h1.ext hb hBs) hcr (hPK.ext ((Below.refl _ _).drew) hBs) ?_
              iterate 7 (refine relW_eq (v := ?_) ?_ ?_; rotate_left; (focus ((simp only [Lay, List.nil_append, List.cons_append, List.setIfInBounds_toArray, List.set_cons_succ, List.set_cons_zero]; intros; rename_i w9 hS hT9 hF; simp only [FactsE, List.nil_append, List.cons_append, List.toList_toArray, List.getElem?_cons_succ, List.getElem?_cons_zero] at hF; try (repeat (first | obtain ⟨rfl, hF⟩ := hF | (obtain ⟨(hEs : EnsR _ _ _), hF⟩ := hF; obtain ⟨aE, cE, rfl, hslE⟩ := hEs) | (obtain ⟨(hPd : PutD _ _ _ _ _ _ _ _ _ _), hF⟩ := hF; obtain ⟨rfl, v9, hK9⟩ := hPd)))); refine step_takeW rfl (of_decide_eq_true rfl) ?_; skip; go_wp2_with (first | ((with_reducible refine ev_bvalM ?_); refine ⟨rfl, _, rfl, ?_⟩; (simp only [Act.put, List.setIfInBounds_toArray, List.set_cons_succ, List.set_cons_zero])) | ((with_reducible refine ev_bval4 ?_); refine ⟨rfl, _, rfl, ?_⟩; (simp only [Act.put, List.setIfInBounds_toArray, List.set_cons_succ, List.set_cons_zero])) | ((with_reducible refine ev_load1_at onePPR ?_); refine ⟨rfl, _, _, rfl, hS, ?_⟩; (simp only [Act.put, List.setIfInBounds_toArray, List.set_cons_succ, List.set_cons_zero]))); refine RQW_mk rfl ?_ ?_; (focus (refine ex_other (of_decide_eq_true rfl) ?_; exact Below.refl _ _)); (focus (first | (simp only [Array.getD_eq_getD_getElem?, List.getElem?_toArray, List.getElem?_cons_succ, List.getElem?_cons_zero, Option.getD_some]; done) | (simp only [Array.getD_eq_getD_getElem?, List.getElem?_toArray, List.getElem?_cons_succ, List.getElem?_cons_zero, Option.getD_some]; rfl) | rfl)))))
              refine relW_any (PutD w1.heap.size w5 ss.length i0 ms own E0 L0) (stabAt_writer (of_decide_eq_true rfl) (putD_stable hBs)) ?_ ?_
              · (simp only [Lay, List.nil_append, List.cons_append, List.setIfInBounds_toArray, List.set_cons_succ, List.set_cons_zero]; intros; rename_i w9 hS hT9 hF; simp only [FactsE, List.nil_append, List.cons_append, List.toList_toArray, List.getElem?_cons_succ, List.getElem?_cons_zero] at hF; try (repeat (first | obtain ⟨rfl, hF⟩ := hF | (obtain ⟨(hEs : EnsR _ _ _), hF⟩ := hF; obtain ⟨aE, cE, rfl, hslE⟩ := hEs) | (obtain ⟨(hPd : PutD _ _ _ _ _ _ _ _ _ _), hF⟩ := hF; obtain ⟨rfl, v9, hK9⟩ := hPd))))
                refine step_takeW rfl (of_decide_eq_true rfl) ?_
                have hK := hT9 (of_decide_eq_true rfl)
                have hKm := hK.x.mp i0 hi0n
                go_wp2_with (go_at_call 8; refine (HU.out _ hKm).mono ?_; rintro e w8 ⟨rfl, v8, hT8⟩)
                have hK8 := hK.put hi0n hT8
                refine RQW_mk rfl (ex_writer (of_decide_eq_true rfl) (fun h1 => cell_rows h1 hyo (fun k hk => (hK8.rows k hk).trans (hK.rows k hk).symm))) ?_
                simp only [Array.getD_eq_getD_getElem?, List.getElem?_toArray, List.getElem?_cons_succ, List.getElem?_cons_zero, Option.getD_some]
                exact ⟨rfl, v8, hK8⟩
              iterate 10 (refine relW_eq (v := ?_) ?_ ?_; rotate_left; (focus ((simp only [Lay, List.nil_append, List.cons_append, List.setIfInBounds_toArray, List.set_cons_succ, List.set_cons_zero]; intros; rename_i w9 hS hT9 hF; simp only [FactsE, List.nil_append, List.cons_append, List.toList_toArray, List.getElem?_cons_succ, List.getElem?_cons_zero] at hF; try (repeat (first | obtain ⟨rfl, hF⟩ := hF | (obtain ⟨(hEs : EnsR _ _ _), hF⟩ := hF; obtain ⟨aE, cE, rfl, hslE⟩ := hEs) | (obtain ⟨(hPd : PutD _ _ _ _ _ _ _ _ _ _), hF⟩ := hF; obtain ⟨rfl, v9, hK9⟩ := hPd)))); refine step_takeW rfl (of_decide_eq_true rfl) ?_; skip; go_wp2_with (first | ((with_reducible refine ev_bvalM ?_); refine ⟨rfl, _, rfl, ?_⟩; (simp only [Act.put, List.setIfInBounds_toArray, List.set_cons_succ, List.set_cons_zero])) | ((with_reducible refine ev_bval4 ?_); refine ⟨rfl, _, rfl, ?_⟩; (simp only [Act.put, List.setIfInBounds_toArray, List.set_cons_succ, List.set_cons_zero])) | ((with_reducible refine ev_load1_at onePPR ?_); refine ⟨rfl, _, _, rfl, hS, ?_⟩; (simp only [Act.put, List.setIfInBounds_toArray, List.set_cons_succ, List.set_cons_zero]))); refine RQW_mk rfl ?_ ?_; (focus (refine ex_other (of_decide_eq_true rfl) ?_; exact Below.refl _ _)); (focus (first | (simp only [Array.getD_eq_getD_getElem?, List.getElem?_toArray, List.getElem?_cons_succ, List.getElem?_cons_zero, Option.getD_some]; done) | (simp only [Array.getD_eq_getD_getElem?, List.getElem?_toArray, List.getElem?_cons_succ, List.getElem?_cons_zero, Option.getD_some]; rfl) | rfl)))))
              refine relW_end ?_
              (simp only [Lay, List.nil_append, List.cons_append, List.setIfInBounds_toArray, List.set_cons_succ, List.set_cons_zero]; intros; rename_i w9 hS hF; simp only [FactsA, List.nil_append, List.cons_append] at hF; try (repeat (first | obtain ⟨rfl, hF⟩ := hF | (obtain ⟨(hEs : EnsR _ _ _), hF⟩ := hF; obtain ⟨aE, cE, rfl, hslE⟩ := hEs) | (obtain ⟨(hPd : PutD _ _ _ _ _ _ _ _ _ _), hF⟩ := hF; obtain ⟨rfl, v9, hK9⟩ := hPd))))
              have hRm := hK9.x.rm i0 hi0n
              rw [updM_self] at hRm
              have hRm2 : Rm w9 w1.heap.size (ms i0).r (ms i0).u ((ms i0).K == 2) (ms i0).R (ms i0).es := by
                have := HP.out.1.same
                rw [← this]
                exact hRm
              have hne : (E0 != E0) = false := by simp
              clear hRm
              go_wp2_with (go_at_call 14; refine (HR.out _ _ hRm2).mono ?_; rintro e w10 ⟨rfl, u10, hT10⟩
                           have hK10 := hK9.rput (u' := u10) (fs' := L0) hi0n (by rw [updM_self]; exact hT10)
                           have HK := Lib.hid hK10
                           clear hK10 hT10)
              refine ⟨⟨k + 1, by omega, by simp, ⟨_, HK.out, fun i hi => ?_⟩⟩, by simp only [intOf]; omega⟩
              by_cases hie : i = i0
              · subst hie
                rw [updM_self, updM_self]
                exact ⟨rfl, HP.out.2.2, HP.out.1.kind, HP.out.1.room, HP.out.1.prog, HP.out.1.ref⟩
              · rw [updM_other _ _ hie, updM_other _ _ hie]
                exact HP.out.2.1 i hi
        · have hlt : k < ss.length := by omega
          have hlt' : (k : Int) < ss.length := by omega
          obtain ⟨x, rfl, hat⟩ := hl.ext (hbwX.trans (hbq.mono hbwX.size)) k hlt
          have htk : ss.take (k + 1) = ss.take k ++ [ss[k]] := by rw [List.take_add_one, List.getElem?_eq_getElem hlt, Option.toList_some]
          have hs := newOk_true (allOk_get hok k hlt)
          generalize ss[k] = s at hat htk hs
          have HT := Lib.hid htk
          clear htk
          have hSt := St.start wr
          have hNew := fun w => rnew_ok s.1 s.2 w hs.1 hs.2.1 hs.2.2
          clear hs
          go_wp2_with (first
            | ((with_reducible refine sp_load_at ?_); refine ⟨rfl, _, _, rfl, hat, ?_⟩; (simp only [Act.put, List.setIfInBounds_toArray, List.set_cons_succ, List.set_cons_zero])) | ((with_reducible refine ev_alloc hSt zSp ?_); refine ⟨rfl, ?_⟩; intro gE wN hSt; (simp only [Act.put, List.setIfInBounds_toArray, List.set_cons_succ, List.set_cons_zero])) | ((with_reducible refine ev_store hSt aSp ?_); refine ⟨rfl, _, [], _, _, spv _, rfl, rfl, rfl, rfl, rfl, spv_one _, ?_⟩; intro wN hSt; simp only [List.nil_append] at hSt; simp only [Act.put]) | ((with_reducible refine ev_load1 hSt oInt ?_); refine ⟨rfl, _, _, _, _, _, rfl, (by repeat (first | exact List.mem_cons_self .. | refine List.mem_cons_of_mem _ ?_)), (by first | exact spv0 _ | exact spv1 _), ?_⟩; (simp only [Act.put, List.setIfInBounds_toArray, List.set_cons_succ, List.set_cons_zero]))
            | (go_at_call 12; refine (hNew _).mono ?_; rintro e w3 ⟨g, rfl, hb3, hM3⟩
               have hMB : MkS RmN w4.heap.size wN rs (ss.take k) := hRk.ext goes_rm hSt.base
               have hPB := hPA.ext hSt.base
               have hBB : w4.heap.size ≤ wN.heap.size := Nat.le_trans hbq.size hSt.base.size
               have hbN := hbq.trans (hSt.base.mono hbq.size))
            | ((with_reducible refine ev_slicePR ?_); refine ⟨rfl, _, rfl, ?_⟩; (simp only [Act.put, List.setIfInBounds_toArray, List.set_cons_succ, List.set_cons_zero])
               have hbb : Below w3.heap.size w3 (w3.alloc (.cells #[ptrv g] 44)) := (Below.refl _ _).alloc (Nat.le_refl _) _
               obtain ⟨vA, wA, hrun, hrowA, hgrA, hlocA⟩ := run_appPR (g := g) ((hPB.ext hb3).ext hbb).row (heap_alloc_last _ _) (Nat.le_trans hBB (Nat.le_trans hb3.size hbb.size)) (by have := hMB.len; rw [List.length_take] at this; omega)
               have hfin := PApart.snoc goes_rm hPB hMB hBB hb3 hM3 hbb hrowA hgrA hlocA keep_rm
               have hbA : Below w4.heap.size w4 wA := ((hbN.trans (hb3.mono hBB)).trans (hbb.mono (Nat.le_trans hBB hb3.size))).grown hgrA (Nat.le_trans hBB (Nat.le_trans hb3.size hbb.size)) (fun k e => (hPB.row.own.lt k e).1)
               have HF := Lib.hid (And.intro hfin hbA)
               clear hfin hbA hrowA hgrA hlocA)
            | ((with_reducible refine ev_append ?_); refine ⟨rfl, _, _, _, _, rfl, rfl, hrun, ?_⟩; (simp only [Act.put, List.setIfInBounds_toArray, List.set_cons_succ, List.set_cons_zero])))
          exact ⟨⟨k + 1, rs ++ [g], by omega, by simp, by rw [HT.out]; exact HF.out.1.2, HF.out.1.1, HF.out.2⟩, by simp only [intOf]; omega⟩
    · have hlt : k < ss.length := by omega
      have hlt' : (k : Int) < ss.length := by omega
      obtain ⟨x, rfl, hat⟩ := hl.ext hbwX k hlt
      have hs := newOk_true (allOk_get hok k hlt)
      generalize ss[k] = s at hat hs
      have hSt := St.start wr
      have hNew := fun w => rnew_ok s.1 s.2 w hs.1 hs.2.1 hs.2.2
      clear hs
      go_wp2_with (first
        | ((with_reducible refine sp_load_at ?_); refine ⟨rfl, _, _, rfl, hat, ?_⟩; (simp only [Act.put, List.setIfInBounds_toArray, List.set_cons_succ, List.set_cons_zero])) | ((with_reducible refine ev_alloc hSt zSp ?_); refine ⟨rfl, ?_⟩; intro gE wN hSt; (simp only [Act.put, List.setIfInBounds_toArray, List.set_cons_succ, List.set_cons_zero])) | ((with_reducible refine ev_store hSt aSp ?_); refine ⟨rfl, _, [], _, _, spv _, rfl, rfl, rfl, rfl, rfl, spv_one _, ?_⟩; intro wN hSt; simp only [List.nil_append] at hSt; simp only [Act.put]) | ((with_reducible refine ev_load1 hSt oInt ?_); refine ⟨rfl, _, _, _, _, _, rfl, (by repeat (first | exact List.mem_cons_self .. | refine List.mem_cons_of_mem _ ?_)), (by first | exact spv0 _ | exact spv1 _), ?_⟩; (simp only [Act.put, List.setIfInBounds_toArray, List.set_cons_succ, List.set_cons_zero]))
        | (go_at_call 12; refine (hNew _).mono ?_; rintro e w3 ⟨g3, rfl, hb3, -⟩))
      exact ⟨⟨k + 1, by omega, by simp, by first | trivial | rfl, hbw.trans ((hSt.base.trans (hb3.mono hSt.base.size)).mono hbw.size)⟩, by simp only [intOf]; omega⟩
end Go.Proofs.Yteohokidlopbnaa
