/- Chapter 17: the reference's map in memory; appends to rows of its entries. -/
import Derived.Test.YteohokidlopbnaaMapJ
import Derived.Laws.OwnMore
namespace Go.Proofs.Yteohokidlopbnaa
open Go.RowKit
set_option linter.unusedSimpArgs false
set_option linter.unusedVariables false

theorem infoRe : (Try.prog.info? 68).map (fun i => (i.zero, i.size, i.bytes)) = some (some (.agg (evs (0, 0, 0, 0, 0))), 5, 40) := by kernel_rfl
theorem infoRe5 : (Try.prog.info? 68).map (·.size) = some 5 := by kernel_rfl
theorem oSr : OneT Try.prog 49 := by unfold OneT; kernel_rfl
theorem oBool : OneT Try.prog 4 := by unfold OneT; kernel_rfl
theorem aRe : AggT Try.prog 68 5 := ⟨by kernel_rfl, by kernel_rfl⟩
theorem aV4 : AggT Try.prog 29 4 := ⟨by kernel_rfl, by kernel_rfl⟩
theorem aRm : AggT Try.prog 51 3 := ⟨by kernel_rfl, by kernel_rfl⟩

/-- A reference map's cells. -/
def rmc (L : Bool) (R : Int) (v : Value) : Array Value := #[.bool L, .int .i64 R, v]
theorem rmc0 (L : Bool) (R : Int) (v : Value) : (rmc L R v)[0]? = some (.bool L) := rfl
theorem rmc1 (L : Bool) (R : Int) (v : Value) : (rmc L R v)[1]? = some (.int .i64 R) := rfl
theorem rmc2 (L : Bool) (R : Int) (v : Value) : (rmc L R v)[2]? = some v := rfl
abbrev RRow (w : World) (B : Nat) (v : Value) (es : List EntT) : Prop := w.ownsRow B 68 5 v es.length (rowe es)
/-- The reference's map lies in block r, its entries in a row of its own. -/
structure Rm (w : World) (B r : Nat) (v : Value) (L : Bool) (R : Int) (es : List EntT) : Prop where
  low : B ≤ r
  blk : w.heap[r]? = some (.cells (rmc L R v) 51 (0, 0))
  row : RRow w B v es
  apart : v.ownBlock ≠ some r
theorem Rm.ext {w w' : World} {B g : Nat} {v : Value} {L : Bool} {R : Int} {es : List EntT} (h : Rm w B g v L R es) (hb : Below w.heap.size w w') : Rm w' B g v L R es :=
  ⟨h.low, blk_of hb h.blk, row_below h.row hb, h.apart⟩
theorem RRow.sl {w : World} {B : Nat} {v : Value} {es : List EntT} (h : RRow w B v es) : ∃ a cap, v = .slice a es.length cap ∧ es.length ≤ cap ∧ (a = none → cap = 0) ∧ EnSl w a es ∧ ∀ x, a = some x → x.off = 0 ∧ x.spot = none := by
  rcases h.2 with ⟨rfl, h0⟩ | ⟨g, cap, cur, rfl, h1, h2, h3, h4, h5, h6⟩
  · have : es = [] := List.eq_nil_of_length_eq_zero h0
    subst this
    exact ⟨none, 0, rfl, Nat.le_refl _, fun _ => rfl, fun j hj => by simp at hj, fun x hx => by cases hx⟩
  · refine ⟨some ⟨g, 0, none⟩, cap, rfl, h3, (fun e => by cases e), fun j hj => ⟨_, rfl, fun i u hi => ?_⟩, fun x hx => by cases hx; exact ⟨rfl, rfl⟩⟩
    have hi5 : i < 5 := by
      have := (Array.getElem?_eq_some_iff.1 hi).1
      rwa [evs_size] at this
    rw [Addr.add_mid, Addr.add_mid, Nat.zero_add]
    have hr := rowe_get es j hj i hi5
    rw [hi] at hr
    have hc := h.cells (g := g) rfl (j * 5 + i) _ hr
    rw [Addr.add_mid, Nat.zero_add] at hc
    exact hc
theorem EnSl.cells {w : World} {a : Addr} {ns : List EntT} (hl : EnSl w (some a) ns) : ∀ j u, (rowe ns)[j]? = some u → w.cell? (a.add j) = some u := fun j u hu => by
  have hj : j < ns.length * 5 := by
    have := (List.getElem?_eq_some_iff.1 hu).1
    rwa [rowe_len] at this
  have hq : j / 5 < ns.length := by omega
  obtain ⟨x, hx, hat⟩ := hl (j / 5) hq
  obtain rfl := Option.some.inj hx
  have hr := rowe_get ns (j / 5) hq (j % 5) (Nat.mod_lt _ (by decide))
  rw [show j / 5 * 5 + j % 5 = j from by omega, hu] at hr
  have := hat (j % 5) u hr.symm
  rwa [Addr.add_add, show j / 5 * 5 + j % 5 = j from by omega] at this
theorem EnSl.take {w : World} {a : Option Addr} {es : List EntT} (h : EnSl w a es) (k : Nat) : EnSl w a (es.take k) := fun j hj => by
  have hj' : j < es.length := by rw [List.length_take] at hj; omega
  obtain ⟨x, h1, h2⟩ := h j hj'
  refine ⟨x, h1, ?_⟩
  rw [List.getElem_take]
  exact h2
theorem EnSl.drop {w : World} {a : Addr} {es : List EntT} {cap : Nat} (h : EnSl w (some a) es) (k : Nat) (hc : es.length ≤ cap) : EnSl w (some (if cap = k then a else a.add (k * 5))) (es.drop k) := fun j hj => by
  have hj' : k + j < es.length := by rw [List.length_drop] at hj; omega
  obtain ⟨x, h1, h2⟩ := h (k + j) hj'
  obtain rfl := Option.some.inj h1
  refine ⟨_, rfl, ?_⟩
  rw [if_neg (by omega), Addr.add_add, List.getElem_drop, ← Nat.add_mul]
  exact h2

theorem rl_to (a : Addr) (n cap h : Nat) (h2 : h ≤ cap) (w : World) : (Instr.slice 49 (.slice (some a) n cap) none (some (.int .i64 h)) none).run Try.prog w = .ok (.slice (some a) h cap) w := by
  obtain ⟨i, hi, hs⟩ := Option.map_eq_some_iff.1 infoRe5
  have b2 := run_sliceBound (P := Try.prog) w .i64 h cap .sliceAcap (by omega) (by omega)
  simp only [Int.toNat_natCast] at b2
  simp [Instr.slice, run_underlying Try.underlying49, Instr.sliceBounds, b2, sizeOf, typeInfo, hi, hs]
  intro _
  unfold Addr.add
  simp
theorem rl_from (a : Addr) (n cap l : Nat) (h1 : l ≤ n) (w : World) : (Instr.slice 49 (.slice (some a) n cap) (some (.int .i64 l)) none none).run Try.prog w = .ok (.slice (some (if cap = l then a else a.add (l * 5))) (n - l) (cap - l)) w := by
  obtain ⟨i, hi, hs⟩ := Option.map_eq_some_iff.1 infoRe5
  have b3 := run_sliceBound (P := Try.prog) w .i64 l n .sliceB (by omega) (by omega)
  simp only [Int.toNat_natCast] at b3
  simp [Instr.slice, run_underlying Try.underlying49, Instr.sliceBounds, b3, sizeOf, typeInfo, hi, hs]
  split <;> rfl

theorem setRow_self {w : World} {g : Nat} {cs : Array Value} {T : TypeId} {fr : Nat × Nat} (hg : w.heap[g]? = some (.cells cs T fr)) : Below w.heap.size w (w.setRow g cs) :=
  ⟨rfl, rfl, rfl, by simp, fun k _ => by
    by_cases hk : k = g
    · subst hk; rw [setRow_heap w k cs cs T fr hg, hg]
    · exact setRow_other w g k cs hk⟩
/-- What an append did to the heap: nothing old was touched, or there was room in the row. -/
def AppW (w w' : World) (v : Value) (n m : Nat) (news : List Value) : Prop :=
  Below w.heap.size w w' ∨ ∃ g cap cur, v = .slice (some ⟨g, 0, none⟩) n cap ∧ w.heap[g]? = some (.cells cur 68 (0, 0)) ∧ 0 < m ∧ n + m ≤ cap ∧ cur.size = cap * 5 ∧ w' = w.setRow g (cur.toList.take (n * 5) ++ news ++ cur.toList.drop (n * 5 + news.length)).toArray
theorem run_appR {w : World} {B : Nat} {v : Value} {es ns : List EntT} {a : Option Addr} {n m c : Nat} (hown : w.ownsRow B 68 5 v n (rowe es)) (hl : EnSl w a ns) (hm : ns.length = m) (hc : a = none → c = 0) (hB : B ≤ w.heap.size) (hs : n + m ≤ 1000) :
    ∃ v' w', (Builtin.append_ #[49, 49] 49 #[v, .slice a m c]).run Try.prog w = .ok v' w' ∧ w'.ownsRow B 68 5 v' (n + m) (rowe (es ++ ns)) ∧ AppW w w' v n m (rowe ns) ∧ (v'.ownBlock = v.ownBlock ∨ v'.ownBlock = some w.heap.size) ∧ (m = 0 → v' = v) := by
  obtain ⟨i0, hi0, hz1, hz2, hz3⟩ := info_parts infoRe
  subst hm
  cases a with
  | none =>
    have h0 : ns = [] := by
      cases ns with
      | nil => rfl
      | cons s ns => obtain ⟨x, hx, -⟩ := hl 0 (by simp); cases hx
    subst h0
    obtain rfl := hc rfl
    refine ⟨v, w, run_append_owned_none (P := Try.prog) (w := w) B 49 49 68 i0 5 Try.underlying49 hi0 _ _ _ hown, ?_, .inl (Below.refl _ _), .inl rfl, fun _ => rfl⟩
    rw [List.append_nil]
    exact hown
  | some x =>
    have hnl : (rowe ns).length = ns.length * 5 := rowe_len ns
    have hcells := hl.cells
    obtain ⟨v', w', h1, h2, h3, h4, h5⟩ := run_append_own_at (P := Try.prog) w B 49 49 68 i0 _ 5 40 Try.underlying49 hi0 hz1 hz2 hz3 rfl (by decide) v n _ hown x ns.length c (rowe ns) hnl hcells (rowe_one ns) (by unfold maxLen; omega) (by omega) hB
    have key : AppW w w' v n ns.length (rowe ns) ∧ (ns.length = 0 → v' = v) := ?_
    · exact ⟨v', w', h1, by rw [rowe_append]; exact h2, key.1, h5, key.2⟩
    by_cases hmz : ns.length = 0
    · have hns : ns = [] := List.eq_nil_of_length_eq_zero hmz
      subst hns
      rcases hown.2 with ⟨rfl, rfl⟩ | ⟨g, cap, cur, rfl, hbg, hg, hnc, hcm, hcs, htk⟩
      · refine ⟨.inl ?_, fun _ => h4.2 ⟨rfl, rfl⟩⟩
        exact ⟨h3.os, h3.tape, h3.output, h3.size, fun k hk => h3.block k hk (fun e => by cases e)⟩
      · have hr := run_append_room (P := Try.prog) w 49 49 68 i0 Try.underlying49 hi0 g n cap cur hg x 0 c [] (by simp) (by simp) (by simp) (by omega) (by rw [hz2, hcs, List.length_nil]; omega)
        have h1' : (Builtin.append_ #[49, 49] 49 #[.slice (some ⟨g, 0, none⟩) n cap, .slice (some x) 0 c]).run Try.prog w = .ok v' w' := h1
        rw [hr] at h1'
        injection h1' with e1 e2
        refine ⟨.inl ?_, fun _ => e1.symm⟩
        rw [← e2, List.append_nil, List.length_nil, Nat.add_zero, List.take_append_drop]
        exact setRow_self hg
    · refine ⟨?_, fun e => absurd e hmz⟩
      rcases hown.2 with ⟨rfl, rfl⟩ | ⟨g, cap, cur, rfl, hbg, hg, hnc, hcm, hcs, htk⟩
      · exact .inl ⟨h3.os, h3.tape, h3.output, h3.size, fun k hk => h3.block k hk (fun e => by cases e)⟩
      · by_cases hroom : n + ns.length ≤ cap
        · have hr := run_append_room (P := Try.prog) w 49 49 68 i0 Try.underlying49 hi0 g n cap cur hg x ns.length c (rowe ns) (by rw [hz2]; exact hnl) hcells (rowe_one ns) hroom (by rw [hz2, hnl, hcs, ← Nat.add_mul]; exact Nat.mul_le_mul_right _ hroom)
          rw [hr] at h1
          injection h1 with e1 e2
          rw [hz2] at e2
          exact .inr ⟨g, cap, cur, rfl, hg, by omega, hroom, hcs, e2.symm⟩
        · have hold : ∀ j u, (rowe es)[j]? = some u → w.cell? ((⟨g, 0, none⟩ : Addr).add j) = some u := hown.cells (g := g) rfl
          have hr := run_append_grow (P := Try.prog) w 49 49 68 i0 _ Try.underlying49 hi0 hz1 ⟨g, 0, none⟩ n cap (rowe es) (by rw [hz2]; exact hown.1) hold x ns.length c (rowe ns) (by rw [hz2]; exact hnl) hcells (by omega) (by omega) (growslice_fits (by omega) (by rw [hz3]; omega))
          rw [hr] at h1
          injection h1 with e1 e2
          rw [← e2]
          exact .inl (((Below.refl _ _).drew).alloc (Nat.le_refl _) _)
/-- To an empty row without room. -/
theorem run_appE {w : World} {g B : Nat} {ns : List EntT} {a : Option Addr} {m c : Nat} (hg : w.heap[g]? = some (.cells #[] 68 (0, 0))) (hBg : B ≤ g) (hl : EnSl w a ns) (hm : ns.length = m) (hc : a = none → c = 0) (hs : m ≤ 1000) :
    ∃ v' w', (Builtin.append_ #[49, 49] 49 #[.slice (some ⟨g, 0, none⟩) 0 0, .slice a m c]).run Try.prog w = .ok v' w' ∧ w'.ownsRow B 68 5 v' m (rowe ns) ∧ Below w.heap.size w w' := by
  have hlt := lt_of_blk hg
  have hown : w.ownsRow B 68 5 (.slice (some ⟨g, 0, none⟩) 0 0) 0 (rowe []) := ⟨rfl, .inr ⟨g, 0, #[], rfl, hBg, hg, Nat.le_refl _, by simp, by simp, rfl⟩⟩
  obtain ⟨v', w', h1, h2, h3, -⟩ := run_appR hown hl hm hc (by omega) (by omega)
  rw [Nat.zero_add, List.nil_append] at h2
  refine ⟨v', w', h1, h2, ?_⟩
  rcases h3 with h3 | ⟨g', cap, cur, e, -, hm0, hcap, -⟩
  · exact h3
  · cases e
    omega
theorem run_appE0 {w : World} {g B : Nat} {ns : List EntT} {a : Option Addr} {m c : Nat} (hg : w.heap[g]? = some (.cells #[] 68 (0, 0))) (hBg : B ≤ g) (hl : EnSl w a ns) (hm : ns.length = m) (hc : a = none → c = 0) (hs : m ≤ 1000) :
    ∃ v' w', (Builtin.append_ #[49, 49] 49 #[.slice (some ⟨g, 0, none⟩) 0 0, .slice a m c]).run Try.prog w = .ok v' w' ∧ w'.ownsRow B 68 5 v' m (rowe ns) ∧ Below w.heap.size w w' ∧ (m = 0 → ∃ g, v' = .slice (some ⟨g, 0, none⟩) 0 0) := by
  have hlt := lt_of_blk hg
  have hown : w.ownsRow B 68 5 (.slice (some ⟨g, 0, none⟩) 0 0) 0 (rowe []) := ⟨rfl, .inr ⟨g, 0, #[], rfl, hBg, hg, Nat.le_refl _, by simp, by simp, rfl⟩⟩
  obtain ⟨v', w', h1, h2, h3, -, h5⟩ := run_appR hown hl hm hc (by omega) (by omega)
  rw [Nat.zero_add, List.nil_append] at h2
  refine ⟨v', w', h1, h2, ?_, fun e => ⟨g, h5 e⟩⟩
  rcases h3 with h3 | ⟨g', cap, cur, e, -, hm0, hcap, -⟩
  · exact h3
  · cases e
    omega
/-- Of an append to a row of the call's own: old blocks stand. -/
theorem AppW.below {w w' : World} {v : Value} {n m B T : Nat} {news xs : List Value} (h : AppW w w' v n m news) (hown : w.ownsRow B T 5 v n xs) (hB : B ≤ w.heap.size) : Below B w w' := by
  rcases h with h | ⟨g, cap, cur, rfl, hg, -, -, -, rfl⟩
  · exact h.mono hB
  · rcases hown.2 with ⟨e, -⟩ | ⟨g', cap', cur', e, h1, -⟩
    · cases e
    · cases e
      exact ⟨rfl, rfl, rfl, by simp, fun k hk => setRow_other w g k _ (by omega)⟩
/-- All blocks but one stand, as to those below B. -/
def KeepB (B r : Nat) (w w' : World) : Prop := ∀ k o, w.heap[k]? = some o → k ≠ r → k < B → w'.heap[k]? = some o
end Go.Proofs.Yteohokidlopbnaa
