/- Chapter 07: Count, First. -/
import Derived.Test.YtmnofoflbhdgjaaBitE
namespace Go.Proofs.Ytmnofoflbhdgjaa
open Go.RowKit Go.Shelf
set_option linter.unusedSimpArgs false
set_option linter.unusedVariables false
attribute [local go_sem] Oper.semAt_some

theorem fndA_len (ps : List PgT) (fr to : Int) (on : Bool) : (fndA ps fr to on).length ≤ 512 * ps.length := by
  unfold fndA fnd
  rw [Nat.min_self]
  exact Nat.le_trans (List.length_filter_le _ _) (by rw [List.length_range]; exact Nat.le_refl _)
theorem PgSl.heap {w W : World} {a : Option Addr} {ps : List PgT} (h : PgSl w a ps) (hk : ∀ k, k < w.heap.size → W.heap[k]? = w.heap[k]?) : PgSl W a ps := fun j hj => by
  obtain ⟨x, h1, h2⟩ := h j hj
  refine ⟨x, h1, fun i hi => ?_⟩
  have := h2 i hi
  rw [← this]
  unfold World.cell?
  rw [hk _ (cell_lt this)]
set_option maxRecDepth 100000 in
set_option maxHeartbeats 4000000 in
theorem count_in (n : Nat) (hn : 3 ≤ n) (fr to : Int) (a : Option Addr) (ps : List PgT) (cap : Nat) (hps : ps.length ≤ 100) (w : World) (hl : PgSl w a ps) :
    CallsIn FW n Try.prog 33 #[.int .i64 fr, .int .i64 to, .slice a ps.length cap] w fun e w' => e = .returned (.int .i64 (fndA ps fr to true).length) ∧ Below w.heap.size w w' := by
  have h1 : 1 ≤ n := by omega
  have hW := fun w => walk_in fr to true a ps.length cap w
  refine callsIn_of_wp_marks Try.func33 rfl trivial ?_ rfl
  simp only [Try.ntmps33, List.size_toArray, List.length_cons, List.length_nil, Nat.reduceAdd, Nat.reduceSub, Array.replicate_succ, Array.replicate_zero, List.push_toArray, List.append_toArray, List.nil_append, List.cons_append]
  gi_wp2_with (refine ⟨trivial, ?_⟩; gi_at_call 55; refine (callsIn_wide.2 (hW _)).mono ?_; rintro e w' ⟨rfl, rfl⟩)
  have hS := boxes_stops (n - 1) (by omega) w.heap.size cap fr to true a ps hps (w.alloc (.cells #[.int .i64 0] 3)) (by simp) (fun W hW => hl.heap fun k hk => by
    rw [hW k (by simp; omega) (by omega)]
    obtain ⟨-, -, -, -, a5⟩ := (Below.refl _ w).alloc (Nat.le_refl _) (.cells #[.int .i64 0] 3)
    exact a5 k hk)
  have hB0 : Below w.heap.size w (boxes fr to true (.slice a ps.length cap) (w.alloc (.cells #[.int .i64 0] 3))) := ((Below.refl _ w).alloc (Nat.le_refl _) _).trans ((boxes_below fr to true (.slice a ps.length cap) _).mono (by simp))
  have hsz := boxes_size fr to true (.slice a ps.length cap) (w.alloc (.cells #[.int .i64 0] 3))
  have c0 := cell_new_l w (.int .i64 0) 3
  have hbl := boxes_below fr to true (.slice a ps.length cap) (w.alloc (.cells #[.int .i64 0] 3))
  have c1 := (hbl.cell (p := ⟨w.heap.size, 0, none⟩) (by simp)).trans c0.1
  have f1 := (hbl.frozen (p := ⟨w.heap.size, 0, none⟩) (by simp)).trans c0.2
  simp only [World.size_alloc] at hS hsz
  generalize boxes fr to true (.slice a ps.length cap) (w.alloc (.cells #[.int .i64 0] 3)) = wb at *
  refine wpIn_rangeFunc_ownF (F := FW) rfl h1 (gf := 62) (lb := #[.pointer (some ⟨w.heap.size + 1, 0, none⟩), .pointer (some ⟨w.heap.size + 1 + 1, 0, none⟩), .pointer (some ⟨w.heap.size + 1 + 1 + 1 + 1, 0, none⟩), .pointer (some ⟨w.heap.size + 1 + 1 + 1, 0, none⟩)]) rfl trivial (enters_of Try.func62 (by kernel_rfl) rfl)
    hS (fun h h' => KPn.trans _ _ _ h h') (fun W l o o' hl' _ _ _ => KPn.put W l o' (by omega)) (Below.refl _ _) (fun _ => rfl)
    (fun pre W => (W.cell? ⟨w.heap.size, 0, none⟩ = some (.int .i64 (pre.length : Int)) ∧ W.frozen? ⟨w.heap.size, 0, none⟩ = false) ∧ Below w.heap.size w W)
    (fun _ _ _ => False)
    (OwnFrom.and (Own.from (fun s A B row hs hg hr => ⟨cell_kept hs.1 hg hr, (frozen_kept hs.1 hg hr).trans hs.2⟩) _) (ownFrom_below (Nat.le_refl _) (by omega)))
    (fun _ _ _ _ _ hs _ _ => hs)
    ⟨⟨c1, f1⟩, hB0⟩
    (fun x => { tmps := #[.int .i64 fr, .int .i64 to, .slice a ps.length cap, undef, undef, undef, .int .i64 0, .pointer (some ⟨w.heap.size, 0, none⟩), .int .i64 fr, .int .i64 to, .slice a ps.length cap, .func (.func 62) #[] #[.pointer (some ⟨w.heap.size + 1, 0, none⟩), .pointer (some ⟨w.heap.size + 1 + 1, 0, none⟩), .pointer (some ⟨w.heap.size + 1 + 1 + 1 + 1, 0, none⟩), .pointer (some ⟨w.heap.size + 1 + 1 + 1, 0, none⟩)], .int .i64 (x : Nat), undef, undef, undef], defers := [] }) ?assign ?body ?done ?stop
  case assign =>
    intro l x W K hK
    gi_wp2
    simpa using hK
  case body =>
    rintro l pre x W ⟨⟨hc, hf⟩, hB⟩ hlen
    have hfl := fndA_len ps fr to true
    have hl1 : (pre.length : Int) < 60000 := by omega
    gi_wp2
    rw [show (pre.length : Int) + 1 = (((pre ++ [x]).length : Nat) : Int) from by rw [List.length_append, List.length_singleton]; omega]
    exact ⟨KeepsOthers.setCell _ _ _, KPn.set _ _, ⟨World.cell?_setCell_same' _ _ _ (by rw [hc]; rfl), by rw [World.frozen?_setCell]; exact hf⟩, hB.setCell (p := ⟨w.heap.size, 0, none⟩) (Nat.le_refl _) _⟩
  case done =>
    rintro D ys W hD rfl ⟨⟨hc, _⟩, hB⟩ hK
    gi_wp2
    refine ⟨by simp, .inl ⟨_, _, rfl, run_takeDeferred hK, ?_⟩⟩
    exact ⟨_, results_tmp rfl _ _ _, rfl, hB.trans (belowK_b (w := w) (Nat.le_refl _) W D _ _ (by omega) hK rfl rfl)⟩
  case stop =>
    rintro D c pre W _ _ h _
    exact h.elim

theorem count_is (fr to : Int) (a : Option Addr) (ps : List PgT) (cap : Nat) (hps : ps.length ≤ 100) (w : World) (hl : PgSl w a ps) :
    Calls Try.prog 33 #[.int .i64 fr, .int .i64 to, .slice a ps.length cap] w fun e w' => e = .returned (.int .i64 (fndA ps fr to true).length) ∧ Below w.heap.size w w' :=
  callsIn_wide.1 (count_in 3 (Nat.le_refl _) fr to a ps cap hps w hl)

/-- The first bit that is 0. -/
def firstV (ps : List PgT) (fr to : Int) : Int := match fndA ps fr to false with
  | [] => -1
  | x :: _ => (x : Int)
set_option maxRecDepth 100000 in
set_option maxHeartbeats 4000000 in
theorem first_in (n : Nat) (hn : 3 ≤ n) (fr to : Int) (a : Option Addr) (ps : List PgT) (cap : Nat) (hps : ps.length ≤ 100) (w : World) (hl : PgSl w a ps) :
    CallsIn FW n Try.prog 32 #[.int .i64 fr, .int .i64 to, .slice a ps.length cap] w fun e w' => e = .returned (.int .i64 (firstV ps fr to)) ∧ Below w.heap.size w w' := by
  have h1 : 1 ≤ n := by omega
  have hW := fun w => walk_in fr to false a ps.length cap w
  refine callsIn_of_wp_marks Try.func32 rfl trivial ?_ rfl
  simp only [Try.ntmps32, List.size_toArray, List.length_cons, List.length_nil, Nat.reduceAdd, Nat.reduceSub, Array.replicate_succ, Array.replicate_zero, List.push_toArray, List.append_toArray, List.nil_append, List.cons_append]
  gi_wp2_with (refine ⟨trivial, ?_⟩; gi_at_call 55; refine (callsIn_wide.2 (hW _)).mono ?_; rintro e w' ⟨rfl, rfl⟩)
  have hS := boxes_stops (n - 1) (by omega) w.heap.size cap fr to false a ps hps (w.alloc (.cells #[.int .i64 0] 3)) (by simp) (fun W hW => hl.heap fun k hk => by
    rw [hW k (by simp; omega) (by omega)]
    obtain ⟨-, -, -, -, a5⟩ := (Below.refl _ w).alloc (Nat.le_refl _) (.cells #[.int .i64 0] 3)
    exact a5 k hk)
  have hB0 : Below w.heap.size w (boxes fr to false (.slice a ps.length cap) (w.alloc (.cells #[.int .i64 0] 3))) := ((Below.refl _ w).alloc (Nat.le_refl _) _).trans ((boxes_below fr to false (.slice a ps.length cap) _).mono (by simp))
  have hsz := boxes_size fr to false (.slice a ps.length cap) (w.alloc (.cells #[.int .i64 0] 3))
  have c0 := cell_new_l w (.int .i64 0) 3
  have hbl := boxes_below fr to false (.slice a ps.length cap) (w.alloc (.cells #[.int .i64 0] 3))
  have c1 := (hbl.cell (p := ⟨w.heap.size, 0, none⟩) (by simp)).trans c0.1
  have f1 := (hbl.frozen (p := ⟨w.heap.size, 0, none⟩) (by simp)).trans c0.2
  simp only [World.size_alloc] at hS hsz
  generalize boxes fr to false (.slice a ps.length cap) (w.alloc (.cells #[.int .i64 0] 3)) = wb at *
  refine wpIn_rangeFunc_ownF (F := FW) rfl h1 (gf := 62) (lb := #[.pointer (some ⟨w.heap.size + 1, 0, none⟩), .pointer (some ⟨w.heap.size + 1 + 1, 0, none⟩), .pointer (some ⟨w.heap.size + 1 + 1 + 1 + 1, 0, none⟩), .pointer (some ⟨w.heap.size + 1 + 1 + 1, 0, none⟩)]) rfl trivial (enters_of Try.func62 (by kernel_rfl) rfl)
    hS (fun h h' => KPn.trans _ _ _ h h') (fun W l o o' hl' _ _ _ => KPn.put W l o' (by omega)) (Below.refl _ _) (fun _ => rfl)
    (fun pre W => (pre = [] ∧ W.cell? ⟨w.heap.size, 0, none⟩ = some (.int .i64 0) ∧ W.frozen? ⟨w.heap.size, 0, none⟩ = false) ∧ Below w.heap.size w W)
    (fun c pre W => (c = .ret ∧ ∃ x : Nat, pre = [x] ∧ W.cell? ⟨w.heap.size, 0, none⟩ = some (.int .i64 x)) ∧ Below w.heap.size w W)
    (OwnFrom.and (Own.from (fun s A B row hs hg hr => ⟨hs.1, cell_kept hs.2.1 hg hr, (frozen_kept hs.2.1 hg hr).trans hs.2.2⟩) _) (ownFrom_below (Nat.le_refl _) (by omega)))
    (fun c => OwnFrom.and (Own.from (fun s A B row hs hg hr => ⟨hs.1, hs.2.elim fun x hx => ⟨x, hx.1, cell_kept hx.2 hg hr⟩⟩) _) (ownFrom_below (Nat.le_refl _) (by omega)))
    ⟨⟨rfl, c1, f1⟩, hB0⟩
    (fun x => { tmps := #[.int .i64 fr, .int .i64 to, .slice a ps.length cap, undef, undef, undef, .pointer (some ⟨w.heap.size, 0, none⟩), .int .i64 (x : Nat), .int .i64 fr, .int .i64 to, .slice a ps.length cap, .func (.func 62) #[] #[.pointer (some ⟨w.heap.size + 1, 0, none⟩), .pointer (some ⟨w.heap.size + 1 + 1, 0, none⟩), .pointer (some ⟨w.heap.size + 1 + 1 + 1 + 1, 0, none⟩), .pointer (some ⟨w.heap.size + 1 + 1 + 1, 0, none⟩)], .int .i64 (x : Nat), undef], defers := [] }) ?assign ?body ?done ?stop
  case assign =>
    intro l x W K hK
    gi_wp2
    first | exact hK | simpa using hK
  case body =>
    rintro l pre x W ⟨⟨rfl, hc, hf⟩, hB⟩ hlen
    gi_wp2
    exact ⟨KeepsOthers.setCell _ _ _, ⟨rfl, x, rfl, World.cell?_setCell_same' _ _ _ (by rw [hc]; rfl)⟩, hB.setCell (p := ⟨w.heap.size, 0, none⟩) (Nat.le_refl _) _⟩
  case done =>
    rintro D ys W hD rfl ⟨⟨he, hc, hf⟩, hB⟩ hK
    gi_wp2
    have hK' := (KeepsOthers.setCell W ⟨w.heap.size, 0, none⟩ (.int .i64 (-1))).same D _ hK rfl
    refine ⟨by simp, .inl ⟨_, _, rfl, run_takeDeferred hK', ?_⟩⟩
    have hc5 := cell_kept (World.cell?_setCell_same' W ⟨w.heap.size, 0, none⟩ (.int .i64 (-1)) (by rw [hc]; rfl)) (grownBy_putObj' _ D (.deferred none)) (fun r e => by cases e; exact ⟨_, hK', rfl⟩)
    refine ⟨.int .i64 (-1), ?_, by unfold firstV; rw [he], (hB.setCell (p := ⟨w.heap.size, 0, none⟩) (Nat.le_refl _) _).trans (belowK_b (w := w) (Nat.le_refl _) _ D _ _ (by omega) hK' rfl rfl)⟩
    simp [results, Try.f32, go_sem, hc5]
  case stop =>
    rintro D c pre W hD hpre ⟨⟨rfl, x, rfl, hc⟩, hB⟩ hK
    gi_wp2
    refine ⟨by simp, .inl ⟨_, _, rfl, run_takeDeferred hK, ?_⟩⟩
    have hc5 := cell_kept hc (grownBy_putObj' _ D (.deferred none)) (fun r e => by cases e; exact ⟨_, hK, rfl⟩)
    refine ⟨.int .i64 x, ?_, by obtain ⟨r, hr⟩ := hpre; unfold firstV; rw [← hr]; rfl, hB.trans (belowK_b (w := w) (Nat.le_refl _) W D _ _ (by omega) hK rfl rfl)⟩
    simp [results, Try.f32, go_sem, hc5]
theorem first_is (fr to : Int) (a : Option Addr) (ps : List PgT) (cap : Nat) (hps : ps.length ≤ 100) (w : World) (hl : PgSl w a ps) :
    Calls Try.prog 32 #[.int .i64 fr, .int .i64 to, .slice a ps.length cap] w fun e w' => e = .returned (.int .i64 (firstV ps fr to)) ∧ Below w.heap.size w w' :=
  callsIn_wide.1 (first_in 3 (Nat.le_refl _) fr to a ps cap hps w hl)
end Go.Proofs.Ytmnofoflbhdgjaa
