/- Chapter 07: All; the reference's All, First, Same. -/
import Derived.Test.YtmnofoflbhdgjaaBitR
import Derived.Test.YtmnofoflbhdgjaaBitF
import Derived.Test.YtmnofoflbhdgjaaIntRow
namespace Go.Proofs.Ytmnofoflbhdgjaa
open Go.RowKit
set_option linter.unusedSimpArgs false
set_option linter.unusedVariables false

structure FromB (B : Nat) (a : Option Addr) : Prop where
  out : ∀ x, a = some x → B ≤ x.block
theorem row_block {w : World} {B : Nat} {v : Value} {ps : List PgT} (h : PgRow w B v ps) {a : Option Addr} {n c : Nat} (hv : v = .slice a n c) : FromB B a := ⟨fun x hx => by
  subst hx hv
  rcases h.2 with ⟨hv, -⟩ | ⟨g, cap, cur, hv, h1, -⟩
  · cases hv
  · cases hv; exact h1⟩
/-- Pages that lie in none but other blocks. -/
theorem PgSl.but {w W : World} {a : Option Addr} {ps : List PgT} {g : Nat} (h : PgSl w a ps) (ha : ∀ x, a = some x → x.block ≠ g) (hk : ∀ k, k < w.heap.size → k ≠ g → W.heap[k]? = w.heap[k]?) : PgSl W a ps := fun j hj => by
  obtain ⟨x, h1, h2⟩ := h j hj
  refine ⟨x, h1, fun i hi => ?_⟩
  have h3 := h2 i hi
  have hab : ∀ (y : Addr) (k : Nat), (y.add k).block = y.block := fun y k => by unfold Addr.add; split <;> rfl
  rw [← h3]
  unfold World.cell?
  rw [hk _ (cell_lt h3) (by rw [hab, hab]; exact ha x h1)]
set_option maxHeartbeats 2000000 in
set_option maxRecDepth 100000 in
theorem all_is (fr to : Int) (a : Option Addr) (ps : List PgT) (cap : Nat) (hps : ps.length ≤ 100) (w : World) (hl : PgSl w a ps) :
    Calls Try.prog 36 #[.int .i64 fr, .int .i64 to, .slice a ps.length cap] w fun e w' => ∃ w1 a1 c1, Below w.heap.size w w1 ∧ PgSl w1 a1 ps ∧ (∀ x, a1 = some x → w.heap.size ≤ x.block) ∧ w' = boxes fr to true (.slice a1 ps.length c1) w1 ∧
      e = .returned (.func (.func 62) #[] #[.pointer (some ⟨w1.heap.size, 0, none⟩), .pointer (some ⟨w1.heap.size + 1, 0, none⟩), .pointer (some ⟨w1.heap.size + 1 + 1 + 1, 0, none⟩), .pointer (some ⟨w1.heap.size + 1 + 1, 0, none⟩)]) := by
  go_enter Try.func36, Try.ntmps36
  go_wp2_with (first
    | (go_at_call 52; refine (clone_pg a cap ps _ (by omega) hl).mono ?_; rintro e w1 ⟨v1, rfl, hR, hb1⟩; obtain ⟨a1, c1, hv, -, hs⟩ := hR.slice; have hab := row_block hR hv; subst hv)
    | (go_at_call 55; refine (walk_in fr to true a1 ps.length c1 _).mono ?_; rintro e w2 ⟨rfl, rfl⟩))
  go_ret
  exact ⟨w1, a1, c1, hb1, hs _ hR, hab.out, rfl, rfl⟩

set_option maxHeartbeats 2000000 in
set_option maxRecDepth 100000 in
theorem same_ints (a b : Option Addr) (c1 c2 : Nat) (l : List Int) (w : World) (hl1 : IntSl w a l) (hl2 : IntSl w b l) (hn : l.length ≤ 100000) :
    Calls Try.prog 37 #[.slice a l.length c1, .slice b l.length c2] w fun e w' => e = .returned (.bool true) ∧ Below w.heap.size w w' := by
  go_enter Try.func37, Try.ntmps37
  go_wp2
  go_loopw [5] (fun i wr => ∃ k : Nat, k ≤ l.length ∧ i = .int .i64 k ∧ Below w.heap.size w wr) (fun i _ => l.length - (intOf i).toNat)
  case atStart => exact ⟨0, Nat.zero_le _, rfl, Below.refl _ _⟩
  case round =>
    obtain ⟨k, hk, rfl, hbk⟩ := hrel
    by_cases hlt : k < l.length
    · obtain ⟨x, hx, hat1, -⟩ := (hl1.ext hbk) k hlt
      obtain ⟨y, hy, hat2, -⟩ := (hl2.ext hbk) k hlt
      subst hx hy
      generalize l[k] = p at *
      go_upto_region 6 with fail
      refine wp_region_rel (S := fun w' => Below wr.heap.size wr w') [17, 18, 19, 20, 21, 22, 23, 24] mixed07 (by kernel_rfl) (by kernel_rfl) (by decide) (by kernel_rfl) (fun _ _ h k => h.trans (k.mono h.size)) (Below.refl _ _).drew ?_
      iterate 8 (refine rel_eq (v := ?_) ?_ ?_; rotate_left; (focus ((simp only [Lay, List.nil_append, List.cons_append, List.setIfInBounds_toArray, List.set_cons_succ, List.set_cons_zero]; intros; rename_i w9 hS hF; simp only [FactsE, List.nil_append, List.cons_append, List.toList_toArray, List.getElem?_cons_succ, List.getElem?_cons_zero] at hF; try (repeat (first | obtain ⟨rfl, hF⟩ := hF | obtain ⟨-, hF⟩ := hF))); refine step_take rfl (of_decide_eq_true rfl) ?_; (have hp1 := (hS.cell (cell_lt hat1)).trans hat1; have hp2 := (hS.cell (cell_lt hat2)).trans hat2); go_wp2_with (first | fail); refine RQ_mk rfl ?_ ?_; (focus exact Below.refl _ _); (focus (first | (simp only [Array.getD_eq_getD_getElem?, List.getElem?_toArray, List.getElem?_cons_succ, List.getElem?_cons_zero, Option.getD_some]; done) | (simp only [Array.getD_eq_getD_getElem?, List.getElem?_toArray, List.getElem?_cons_succ, List.getElem?_cons_zero, Option.getD_some]; rfl) | rfl)))))
      refine rel_end ?_
      (simp only [Lay, List.nil_append, List.cons_append, List.setIfInBounds_toArray, List.set_cons_succ, List.set_cons_zero]; intros; rename_i w9 hS hF; simp only [FactsA, List.nil_append, List.cons_append] at hF; try (repeat (first | obtain ⟨rfl, hF⟩ := hF | obtain ⟨-, hF⟩ := hF)))
      go_wp2
      go_roundw
      case rel => exact ⟨k + 1, by omega, by go_num, hbk.trans (hS.mono hbk.size)⟩
      case measure => simp [intOf]; omega
    · obtain rfl : k = l.length := by omega
      go_wp2
      go_ret
      exact ⟨rfl, hbk⟩

/-- The bits that are 1 between two places, as numbers. -/
def fndI (ps : List PgT) (fr to : Int) (k : Nat) : List Int := (fnd ps fr to true k).map Int.ofNat
theorem fndI_succ (ps : List PgT) (fr to : Int) (k : Nat) (h : k < 512 * ps.length) : fndI ps fr to (k + 1) = fndI ps fr to k ++ (if decide (fr ≤ (k : Int) ∧ (k : Int) < to) && bitP ps k then [(k : Int)] else []) := by
  unfold fndI
  rw [fnd_succ ps fr to true k h, List.map_append]
  congr 1
  cases bitP ps k <;> simp
  split <;> rfl
theorem fndI_len (ps : List PgT) (fr to : Int) (k : Nat) : (fndI ps fr to k).length ≤ 512 * ps.length := by
  unfold fndI
  rw [List.length_map]
  exact Nat.le_trans (fnd_le ps fr to true k) (fndA_len ps fr to true)
set_option maxHeartbeats 2000000 in
set_option maxRecDepth 100000 in
theorem rall_is (fr to : Int) (a : Option Addr) (ps : List PgT) (cap : Nat) (hps : ps.length ≤ 100) (w : World) (hl : PgSl w a ps) :
    Calls Try.prog 35 #[.slice a ps.length cap, .int .i64 fr, .int .i64 to] w fun e w' => ∃ v, e = .returned v ∧ IntRow w' w.heap.size v ((fndA ps fr to true).map Int.ofNat) ∧ Below w.heap.size w w' := by
  obtain ⟨i0, hi, hz0, hz1, hz2⟩ := info_parts intInfo
  have hm : wrap64 (512 * (ps.length : Int)) = ((512 * ps.length : Nat) : Int) := by unfold wrap64; omega
  generalize hN : 512 * ps.length = N at hm
  go_enter Try.func35, Try.ntmps35
  go_wp2
  go_loopw [7, 8] (fun v i wr => ∃ k : Nat, k ≤ N ∧ i = .int .i64 k ∧ Below w.heap.size w wr ∧ IntRow wr w.heap.size v (fndI ps fr to k)) (fun _ i _ => N - (intOf i).toNat)
  case atStart => exact ⟨0, by omega, rfl, (Below.refl _ _).alloc (Nat.le_refl _) _, by unfold fndI; rw [fnd_start _ _ _ _ _ (.inr rfl)]; exact IntRow.none w _ (Nat.le_refl _)⟩
  case round =>
    obtain ⟨k, hk, rfl, hbw, hrow⟩ := hrel
    by_cases h : k = N
    · subst h
      go_wp2
      go_ret
      refine ⟨_, rfl, ?_, hbw⟩
      have := fnd_end ps fr to true k (.inr (by omega))
      unfold fndI at hrow
      rw [this] at hrow
      exact hrow
    · have hlt : k < N := by omega
      have hs := fndI_succ ps fr to k (by omega)
      have hln := fndI_len ps fr to k
      have hG := fun w' hb' => rget_in k a ps cap w' hps ((hl.ext hbw).ext hb') (by omega)
      by_cases hc1 : fr ≤ (k : Int)
      · have d1 : decide (fr ≤ (k : Int)) = true := decide_eq_true hc1
        by_cases hc2 : (k : Int) < to
        · have d2 : decide ((k : Int) < to) = true := decide_eq_true hc2
          rw [decide_eq_true (And.intro hc1 hc2), Bool.true_and] at hs
          generalize bitP ps k = b at hG hs
          cases b
          · rw [if_neg (by decide), List.append_nil] at hs
            go_wp2_with (first
              | (go_at_call 29; refine (hG _ (Below.refl _ _)).mono ?_; rintro e w1 ⟨rfl, rfl⟩))
            go_roundw
            case rel => exact ⟨k + 1, by omega, by go_num, hbw, by rw [hs]; exact hrow⟩
            case measure => simp [intOf]; omega
          · rw [if_pos (by rfl)] at hs
            go_wp2_with (first
              | (go_at_call 29; refine (hG _ (Below.refl _ _)).mono ?_; rintro e w1 ⟨rfl, rfl⟩)
              | (at_builtin; refine wpList_append_own _ rfl _ _ 22 rfl w.heap.size 3 i0 (.int .i64 0) 1 8 Try.underlying22 hi hz0 hz1 hz2 rfl (by decide) _ _ _ rfl (hrow.below ((Below.refl _ _).alloc (Nat.le_refl _) _)) ⟨w1.heap.size, 0, none⟩ 1 1 [.int .i64 (k : Int)] rfl rfl ?c1 ?c2 ?c3 ?c4 ?c5 ?_))
            case c1 =>
              intro j v hj
              match j, hj with
              | 0, hj => simp at hj; subst hj; simp [Addr.add]
            case c2 => intro v hv; simp at hv; subst hv; rfl
            case c3 => unfold maxLen; omega
            case c4 => omega
            case c5 => have := hbw.size; simp; omega
            intro v' w2 hown' hgrow _
            have hsz := hbw.size
            have hb2 : Below w.heap.size w w2 := (hbw.alloc hsz _).grown hgrow (by simp; omega) (fun j hj => (World.ownsRow.lt hrow j hj).1)
            have hrow2 : IntRow w2 w.heap.size v' (fndI ps fr to (k + 1)) := by
              rw [hs, IntRow, List.length_append, List.map_append]
              exact hown'
            clear hown' hgrow hs hrow
            go_wp2
            go_roundw
            case rel => exact ⟨k + 1, by omega, by go_num, hb2, hrow2⟩
            case measure => simp [intOf]; omega
        · have d2 : decide ((k : Int) < to) = false := decide_eq_false hc2
          rw [decide_eq_false (fun h => hc2 h.2), Bool.false_and, if_neg (by decide), List.append_nil] at hs
          go_wp2
          go_roundw
          case rel => exact ⟨k + 1, by omega, by go_num, hbw, by rw [hs]; exact hrow⟩
          case measure => simp [intOf]; omega
      · have d1 : decide (fr ≤ (k : Int)) = false := decide_eq_false hc1
        rw [decide_eq_false (fun h => hc1 h.1), Bool.false_and, if_neg (by decide), List.append_nil] at hs
        go_wp2
        go_roundw
        case rel => exact ⟨k + 1, by omega, by go_num, hbw, by rw [hs]; exact hrow⟩
        case measure => simp [intOf]; omega
theorem fnd_none (ps : List PgT) (fr to : Int) (on : Bool) (k : Nat) (hk : k < 512 * ps.length) (h : fnd ps fr to on k = []) (hc : (decide (fr ≤ (k : Int) ∧ (k : Int) < to) && (bitP ps k == on)) = true) : ∃ r, fndA ps fr to on = k :: r := by
  obtain ⟨r, hr⟩ := fnd_prefix ps fr to on (k + 1)
  rw [fnd_succ ps fr to on k hk, h, hc] at hr
  exact ⟨r, hr.symm⟩
set_option maxHeartbeats 2000000 in
set_option maxRecDepth 100000 in
theorem rfirst_is (fr to : Int) (a : Option Addr) (ps : List PgT) (cap : Nat) (hps : ps.length ≤ 100) (w : World) (hl : PgSl w a ps) :
    Calls Try.prog 38 #[.slice a ps.length cap, .int .i64 fr, .int .i64 to] w fun e w' => e = .returned (.int .i64 (firstV ps fr to)) ∧ Below w.heap.size w w' := by
  have hm : wrap64 (512 * (ps.length : Int)) = ((512 * ps.length : Nat) : Int) := by unfold wrap64; omega
  generalize hN : 512 * ps.length = N at hm
  go_enter Try.func38, Try.ntmps38
  go_wp2
  go_loopw [7] (fun i wr => ∃ k : Nat, k ≤ N ∧ i = .int .i64 k ∧ fnd ps fr to false k = [] ∧ Below w.heap.size w wr) (fun i _ => N - (intOf i).toNat)
  case atStart => exact ⟨0, by omega, rfl, fnd_start _ _ _ _ _ (.inr rfl), Below.refl _ _⟩
  case round =>
    obtain ⟨k, hk, rfl, hnil, hbw⟩ := hrel
    by_cases h : k = N
    · subst h
      have hv : firstV ps fr to = -1 := by
        have := fnd_end ps fr to false k (.inr (by omega))
        unfold firstV
        rw [← this, hnil]
      have hv1 := Lib.hid hv
      clear hv
      go_wp2
      go_ret
      exact ⟨by rw [hv1.out]; rfl, hbw⟩
    · have hlt : k < N := by omega
      have hs := fnd_succ ps fr to false k (by omega)
      have hn1 := fnd_none ps fr to false k (by omega) hnil
      have hG := fun w' hb' => rget_in k a ps cap w' hps ((hl.ext hbw).ext hb') (by omega)
      rw [hnil] at hs
      clear hnil
      by_cases hc1 : fr ≤ (k : Int)
      · have d1 : decide (fr ≤ (k : Int)) = true := decide_eq_true hc1
        by_cases hc2 : (k : Int) < to
        · have d2 : decide ((k : Int) < to) = true := decide_eq_true hc2
          rw [decide_eq_true (And.intro hc1 hc2), Bool.true_and] at hs hn1
          generalize bitP ps k = b at hG hs hn1
          cases b
          · obtain ⟨r, hr⟩ := hn1 rfl
            have hv : firstV ps fr to = (k : Int) := by
              unfold firstV
              rw [hr]
            have hv1 := Lib.hid hv
            clear hs hr hv
            go_wp2_with (first
              | (go_at_call 29; refine (hG _ (Below.refl _ _)).mono ?_; rintro e w1 ⟨rfl, rfl⟩))
            go_ret
            exact ⟨by rw [hv1.out]; rfl, hbw⟩
          · rw [if_neg (by decide), List.append_nil] at hs
            clear hn1
            have hs1 := Lib.hid hs
            clear hs
            go_wp2_with (first
              | (go_at_call 29; refine (hG _ (Below.refl _ _)).mono ?_; rintro e w1 ⟨rfl, rfl⟩))
            go_roundw
            case rel => exact ⟨k + 1, by omega, by go_num, hs1.out, hbw⟩
            case measure => simp [intOf]; omega
        · have d2 : decide ((k : Int) < to) = false := decide_eq_false hc2
          rw [decide_eq_false (fun h => hc2 h.2), Bool.false_and, if_neg (by decide), List.append_nil] at hs
          clear hn1
          have hs1 := Lib.hid hs
          clear hs
          go_wp2
          go_roundw
          case rel => exact ⟨k + 1, by omega, by go_num, hs1.out, hbw⟩
          case measure => simp [intOf]; omega
      · have d1 : decide (fr ≤ (k : Int)) = false := decide_eq_false hc1
        rw [decide_eq_false (fun h => hc1 h.1), Bool.false_and, if_neg (by decide), List.append_nil] at hs
        clear hn1
        have hs1 := Lib.hid hs
        clear hs
        go_wp2
        go_roundw
        case rel => exact ⟨k + 1, by omega, by go_num, hs1.out, hbw⟩
        case measure => simp [intOf]; omega
end Go.Proofs.Ytmnofoflbhdgjaa
