/- The law SumSwaps, walked. -/
import Derived.Test.YtaajndackdmbeaaLaw01B
import Derived.RegionTactic
import Derived.ChangeAlike
namespace Go.Proofs.Ytaajndackdmbeaa
open Go.RowKit
set_option linter.unusedSimpArgs false

/-- The second number: each byte as often as there are places from it on. -/
def wt : List UInt8 → Int
  | [] => 0
  | c :: l => ((l.length : Int) + 1) * (c.toNat : Int) + wt l

theorem sm_snd : ∀ (l : List UInt8) (p : Int × Int), okP p → (sm p l).2 = (p.2 + (l.length : Int) * p.1 + wt l) % 65535
  | [], p, h => by
    obtain ⟨h1, h2, h3, h4⟩ := h
    simp [sm, wt]
    omega
  | c :: l, p, h => by
    have := sm_snd l (s1 p c) (okP_s1 p c)
    show (sm (s1 p c) l).2 = _
    rw [this]
    simp only [s1, wt, List.length_cons]
    generalize hq : (p.1 + (c.toNat : Int)) / 65535 = q
    have e1 : (p.1 + (c.toNat : Int)) % 65535 = p.1 + (c.toNat : Int) - 65535 * q := by rw [Int.emod_def, hq]
    rw [e1]
    generalize hr : (p.2 + (p.1 + (c.toNat : Int) - 65535 * q)) / 65535 = r
    have e2 : (p.2 + (p.1 + (c.toNat : Int) - 65535 * q)) % 65535 = p.2 + (p.1 + (c.toNat : Int) - 65535 * q) - 65535 * r := by rw [Int.emod_def, hr]
    rw [e2]
    rw [show ((l.length + 1 : Nat) : Int) = (l.length : Int) + 1 from by omega]
    generalize (l.length : Int) = n
    have e3 : p.2 + (p.1 + (c.toNat : Int) - 65535 * q) - 65535 * r + n * (p.1 + (c.toNat : Int) - 65535 * q) + wt l =
        p.2 + ((n + 1) * p.1) + ((n + 1) * (c.toNat : Int) + wt l) + 65535 * (-q - r - n * q) := by
      simp only [Int.mul_sub, Int.mul_add, Int.add_mul, Int.sub_mul, Int.one_mul, Int.mul_neg]
      have e4 : n * (65535 * q) = 65535 * (n * q) := by rw [Int.mul_left_comm]
      rw [e4]
      omega
    rw [e3, Int.add_mul_emod_self_left]

theorem wt_set : ∀ (l : List UInt8) (k : Nat) (hk : k < l.length) (c : UInt8), wt (l.set k c) = wt l + ((l.length : Int) - k) * ((c.toNat : Int) - (l[k].toNat : Int))
  | [], k, hk, _ => by simp at hk
  | a :: l, 0, _, c => by
    have e0 : ((a :: l).length : Int) = (l.length : Int) + 1 := by simp
    rw [e0]
    simp only [List.set_cons_zero, wt, List.getElem_cons_zero, Int.natCast_zero, Int.sub_zero, Int.mul_sub]
    omega
  | a :: l, k + 1, hk, c => by
    have := wt_set l k (by simpa using hk) c
    simp only [List.set_cons_succ, wt, List.length_set, List.length_cons, List.getElem_cons_succ, this]
    have e : (((l.length + 1 : Nat) : Int) - ((k + 1 : Nat) : Int)) = (l.length : Int) - k := by omega
    rw [e]
    omega

theorem swaps (l : List UInt8) (j m : Nat) (hj : j < l.length) (hm : m < l.length) (hjm : j ≤ m) (h256 : m - j ≤ 256) :
    toS (sm (0, 0) l) = toS (sm (0, 0) ((l.set j l[m]).set m l[j])) ↔ (l[j].toNat : Int) = (l[m].toNat : Int) := by
  constructor
  · intro h
    by_cases hne : j = m
    · subst hne; rfl
    have h1 := congrArg Prod.snd (toS_inj (okP_sm _ _ okP0) (okP_sm _ _ okP0) h)
    rw [sm_snd _ _ okP0, sm_snd _ _ okP0] at h1
    have hm' : m < (l.set j l[m]).length := by rw [List.length_set]; exact hm
    rw [wt_set _ m hm', wt_set l j hj, List.getElem_set_ne hne, List.length_set] at h1
    simp only [List.length_set, Int.mul_zero, Int.add_zero, Int.zero_add] at h1
    have b1 := byte_lt l[j]
    have b2 := byte_lt l[m]
    generalize hx : (l[j].toNat : Int) = x at h1 b1 ⊢
    generalize hy : (l[m].toNat : Int) = y at h1 b2 ⊢
    have e : wt l + ((l.length : Int) - j) * (y - x) + ((l.length : Int) - m) * (x - y) = wt l + ((m : Int) - j) * (y - x) := by
      have : (x - y) = -(y - x) := by omega
      rw [this, Int.mul_neg]
      simp only [Int.sub_mul]
      omega
    rw [e] at h1
    have d0 : (0 : Int) ≤ (m : Int) - j := by omega
    have d1 : (m : Int) - j ≤ 256 := by omega
    generalize hd : (m : Int) - j = d at h1 d0 d1 e
    have m1 : d * (y - x) ≤ d * 255 := Int.mul_le_mul_of_nonneg_left (by omega) d0
    have m2 : d * (-255) ≤ d * (y - x) := Int.mul_le_mul_of_nonneg_left (by omega) d0
    generalize hpr : d * (y - x) = pr at h1 m1 m2
    have hz : pr = 0 := by omega
    rw [hz] at hpr
    rcases Int.mul_eq_zero.1 hpr with h3 | h3
    · exfalso
      omega
    · omega
  · intro h
    have e : l[j] = l[m] := UInt8.toNat_inj.1 (by omega)
    rw [← e, List.set_getElem_self, e, List.set_getElem_self]

theorem arr_set {C : Array Value} {l : List UInt8} {j : Nat} {c : UInt8} (hC : ∀ (j : Nat) (h : j < l.length), C[j]? = some (.int .u8 (l[j].toNat : Int))) :
    ∀ (i : Nat) (h : i < (l.set j c).length), (C.setIfInBounds j (.int .u8 (c.toNat : Int)))[i]? = some (.int .u8 ((l.set j c)[i].toNat : Int)) := by
  intro i hi
  rw [Array.getElem?_setIfInBounds]
  rw [List.length_set] at hi
  have h1 := hC i hi
  have h2 : i < C.size := (Array.getElem?_eq_some_iff.1 h1).1
  by_cases hji : j = i
  · subst hji
    simp [h2]
  · rw [if_neg hji, h1, List.getElem_set_ne hji]

theorem bytes_swap {w : World} {g : Nat} {C : Array Value} {T : TypeId} {fr : Nat × Nat} {l : List UInt8} {j m : Nat} (hg : w.heap[g]? = some (.cells C T fr))
    (hC : ∀ (j : Nat) (h : j < l.length), C[j]? = some (.int .u8 (l[j].toNat : Int))) (hj : j < l.length) (hm : m < l.length) :
    ∀ (i : Nat) (h : i < ((l.set j l[m]).set m l[j]).length), ((w.setCell ⟨g, j, none⟩ (.int .u8 (l[m].toNat : Int))).setCell ⟨g, m, none⟩ (.int .u8 (l[j].toNat : Int))).cell? ((⟨g, 0, none⟩ : Addr).add i) = some (.int .u8 (((l.set j l[m]).set m l[j])[i].toNat : Int)) := by
  have h1 := setRow_heap w g C (C.setIfInBounds j (.int .u8 (l[m].toNat : Int))) _ _ hg
  rw [setCell_eq_setRow w g j _ _ _ _ hg, setCell_eq_setRow _ g m _ _ _ _ h1]
  exact bytes_set h1 (arr_set hC)
theorem swap_below {w : World} {g B : Nat} {C : Array Value} {T : TypeId} {fr : Nat × Nat} {j m : Nat} {x y : Value} (hg : w.heap[g]? = some (.cells C T fr)) (hB : B ≤ g) :
    Below B w ((w.setCell ⟨g, j, none⟩ x).setCell ⟨g, m, none⟩ y) := by
  have h1 := setRow_heap w g C (C.setIfInBounds j x) _ _ hg
  rw [setCell_eq_setRow w g j _ _ _ _ hg, setCell_eq_setRow _ g m _ _ _ _ h1]
  exact ⟨rfl, rfl, rfl, by simp, fun k hk => (setRow_other _ g k _ (by omega)).trans (setRow_other _ g k _ (by omega))⟩

set_option maxRecDepth 100000 in
set_option maxHeartbeats 1600000 in
theorem walk_SumSwaps (s : ByteArray) (i k : Int) (w : World) (hs : s.size ≤ 9223372036854775807) :
    Calls Try.prog 5 #[.string s, .int .i64 i, .int .i64 k] w fun e w' => e = .returned (.bool true) ∧ Below w.heap.size w w' := by
  go_enter Try.func5, Try.ntmps5
  by_cases c1 : 3000 < s.size
  · go_wp2_with (go_at_call 8; refine (awake01 _).mono ?_; rintro e w1 ⟨rfl, hb1⟩)
    go_ret
    exact ⟨rfl, hb1⟩
  by_cases c2 : i < 0
  · go_wp2_with (go_at_call 8; refine (awake01 _).mono ?_; rintro e w1 ⟨rfl, hb1⟩)
    go_ret
    exact ⟨rfl, hb1⟩
  by_cases c3 : (s.size : Int) ≤ i
  · go_wp2_with (go_at_call 8; refine (awake01 _).mono ?_; rintro e w1 ⟨rfl, hb1⟩)
    go_ret
    exact ⟨rfl, hb1⟩
  by_cases c4 : k < i
  · go_wp2_with (go_at_call 8; refine (awake01 _).mono ?_; rintro e w1 ⟨rfl, hb1⟩)
    go_ret
    exact ⟨rfl, hb1⟩
  by_cases c5 : (s.size : Int) ≤ k
  · go_wp2_with (go_at_call 8; refine (awake01 _).mono ?_; rintro e w1 ⟨rfl, hb1⟩)
    go_ret
    exact ⟨rfl, hb1⟩
  by_cases c6 : 256 < k - i
  · go_wp2_with (go_at_call 8; refine (awake01 _).mono ?_; rintro e w1 ⟨rfl, hb1⟩)
    go_ret
    exact ⟨rfl, hb1⟩
  obtain ⟨j, rfl⟩ := Int.eq_ofNat_of_zero_le (by omega : 0 ≤ i)
  obtain ⟨m, rfl⟩ := Int.eq_ofNat_of_zero_le (by omega : 0 ≤ k)
  have hj : j < s.size := by omega
  have hm : m < s.size := by omega
  have hjm : j ≤ m := by omega
  have hjl : j < s.data.toList.length := by rw [Array.length_toList]; exact hj
  have hml : m < s.data.toList.length := by rw [Array.length_toList]; exact hm
  clear c2
  go_wp2_with (first
    | (((with_reducible refine ev_bytes ?_); refine ⟨rfl, _, rfl, ?_⟩; intro gB capB wB hbB hgB hcB; subst hgB; (simp only [Act.put, List.setIfInBounds_toArray, List.set_cons_succ, List.set_cons_zero])); obtain ⟨C, hC1, hCs, hC2⟩ := hcB; have hCj := hC2 j hjl; have hCm := hC2 m hml; have hcc := (cell_of_row wB _ j _ _ _ hC1).trans hCj; have hcm := (cell_of_row wB _ m _ _ _ hC1).trans hCm; have hff := byt_frozen hC1 (Nat.lt_of_lt_of_le hjl hCs); have hfm := byt_frozen hC1 (Nat.lt_of_lt_of_le hml hCs))
    | (go_at_call 8; refine (awake01 _).mono ?_; rintro e w1 ⟨rfl, hb1⟩))
  obtain ⟨v', hy'⟩ := cell?_setCell_some (w := wB) (p := ⟨w1.heap.size, j, none⟩) (x := .int .u8 (s.data[m].toNat : Int)) (q := ⟨w1.heap.size, m, none⟩) (v := .int .u8 (s.data.toList[m].toNat : Int)) (by go_simp)
  go_region
  go_wp2
  have hL := bytes_swap hC1 hC2 hjl hml
  have hb2 : Below w.heap.size w ((wB.setCell ⟨w1.heap.size, j, none⟩ (.int .u8 (s.data[m].toNat : Int))).setCell ⟨w1.heap.size, m, none⟩ (.int .u8 (s.data[j].toNat : Int))).drew :=
    ((bseq hb1 hbB).trans (swap_below hC1 hb1.size)).drew
  change ∀ (i : Nat) (h : i < ((s.data.toList.set j s.data[m]).set m s.data[j]).length), ((wB.setCell ⟨w1.heap.size, j, none⟩ (.int .u8 (s.data[m].toNat : Int))).setCell ⟨w1.heap.size, m, none⟩ (.int .u8 (s.data[j].toNat : Int))).drew.cell? _ = some (.int .u8 (((s.data.toList.set j s.data[m]).set m s.data[j])[i].toNat : Int)) at hL
  have ht : toS (sm (0, 0) (flat [s])) = toS (sm (0, 0) (flat [⟨((s.data.toList.set j s.data[m]).set m s.data[j]).toArray⟩])) ↔ (s.data[j].toNat : Int) = (s.data[m].toNat : Int) := by
    have := swaps s.data.toList j m hjl hml hjm (by omega)
    simpa [flat] using this
  generalize ((wB.setCell ⟨w1.heap.size, j, none⟩ (.int .u8 (s.data[m].toNat : Int))).setCell ⟨w1.heap.size, m, none⟩ (.int .u8 (s.data[j].toNat : Int))).drew = w2 at hL hb2 ⊢
  have hlen : ((s.data.toList.set j s.data[m]).set m s.data[j]).length = s.size := by
    rw [List.length_set, List.length_set, Array.length_toList]
    rfl
  generalize (s.data.toList.set j s.data[m]).set m s.data[j] = l2 at hL ht hlen ⊢
  have hsz1 : ∀ x ∈ [s], x.size ≤ 9223372036854775807 := by simp; omega
  have hsz2 : ∀ x ∈ [(⟨l2.toArray⟩ : ByteArray)], x.size ≤ 9223372036854775807 := by
    intro x hx
    obtain rfl := List.mem_singleton.1 hx
    show l2.length ≤ _
    omega
  have hbb : ((toS (sm (0, 0) (flat [s])) == toS (sm (0, 0) (flat [(⟨l2.toArray⟩ : ByteArray)]))) == ((s.data[j].toNat : Int) == (s.data[m].toNat : Int))) = true := by
    rw [beq_iff_eq, Bool.eq_iff_iff, beq_iff_eq, beq_iff_eq]
    exact ht
  clear hC1 hC2 hCj hcc hff hCs hCm hcm hfm hy'
  refine wp_region_rel (S := fun w' => Below w2.heap.size w2 w') [56, 57, 58, 59, 60, 61, 62, 63, 64, 65, 66, 67, 68, 69, 70, 71, 6] Try.mixed (by kernel_rfl) (by kernel_rfl) (by decide) (by kernel_rfl) (fun _ _ h k => h.trans (k.mono h.size)) (Below.refl _ _).drew ?_
  (refine rel_eq (v := ?_) ?_ ?_; rotate_left; (focus ((simp only [Lay, List.nil_append, List.cons_append, List.setIfInBounds_toArray, List.set_cons_succ, List.set_cons_zero]; intros; rename_i w9 hS hF; simp only [FactsE, List.nil_append, List.cons_append, List.toList_toArray, List.getElem?_cons_succ, List.getElem?_cons_zero] at hF; try (repeat (first | obtain ⟨rfl, hF⟩ := hF | obtain ⟨⟨aF, capF, rfl, hslF⟩, hF⟩ := hF))); refine step_take rfl (of_decide_eq_true rfl) ?_; (have hcv := run_convert_bytes_back (P := Try.prog) w9 31 9 5 ⟨w1.heap.size, 0, none⟩ capB l2 Try.underlying31 Try.underlying5 Try.underlying9 (fun i hi => cell_below' hS (hL i hi)); rw [hlen] at hcv); go_wp2_with (first | (go_at_call 11; refine (sumSum_any _ _ _ _ hslF (by simp) hsz1).mono ?_; rintro e w5 ⟨rfl, hb5⟩) | (go_at_call 11; refine (sumSum_any _ _ _ _ hslF (by simp) hsz2).mono ?_; rintro e w5 ⟨rfl, hb5⟩)); refine RQ_mk rfl ?_ ?_; (focus (first | exact Below.refl _ _ | assumption)); (focus (first | (simp only [Array.getD_eq_getD_getElem?, List.getElem?_toArray, List.getElem?_cons_succ, List.getElem?_cons_zero, Option.getD_some]; done) | (simp only [Array.getD_eq_getD_getElem?, List.getElem?_toArray, List.getElem?_cons_succ, List.getElem?_cons_zero, Option.getD_some]; rfl) | rfl)))))
  refine rel_any (SlOf [s]) (slOf_stable _) ?_ ?_
  (focus ((simp only [Lay, List.nil_append, List.cons_append, List.setIfInBounds_toArray, List.set_cons_succ, List.set_cons_zero]; intros; rename_i w9 hS hF; simp only [FactsE, List.nil_append, List.cons_append, List.toList_toArray, List.getElem?_cons_succ, List.getElem?_cons_zero] at hF; try (repeat (first | obtain ⟨rfl, hF⟩ := hF | obtain ⟨⟨aF, capF, rfl, hslF⟩, hF⟩ := hF))); refine step_take rfl (of_decide_eq_true rfl) ?_; (have hcv := run_convert_bytes_back (P := Try.prog) w9 31 9 5 ⟨w1.heap.size, 0, none⟩ capB l2 Try.underlying31 Try.underlying5 Try.underlying9 (fun i hi => cell_below' hS (hL i hi)); rw [hlen] at hcv); go_wp2; refine RQ_mk rfl (by first | exact (Below.refl _ _).alloc (Nat.le_refl _) _ | exact Below.refl _ _) ?_; simp only [Array.getD_eq_getD_getElem?, List.getElem?_toArray, List.getElem?_cons_succ, List.getElem?_cons_zero, Option.getD_some]; exact ⟨_, _, rfl, strSl_of (heap_alloc_last _ _) _ rfl⟩))
  (refine rel_eq (v := ?_) ?_ ?_; rotate_left; (focus ((simp only [Lay, List.nil_append, List.cons_append, List.setIfInBounds_toArray, List.set_cons_succ, List.set_cons_zero]; intros; rename_i w9 hS hF; simp only [FactsE, List.nil_append, List.cons_append, List.toList_toArray, List.getElem?_cons_succ, List.getElem?_cons_zero] at hF; try (repeat (first | obtain ⟨rfl, hF⟩ := hF | obtain ⟨⟨aF, capF, rfl, hslF⟩, hF⟩ := hF))); refine step_take rfl (of_decide_eq_true rfl) ?_; (have hcv := run_convert_bytes_back (P := Try.prog) w9 31 9 5 ⟨w1.heap.size, 0, none⟩ capB l2 Try.underlying31 Try.underlying5 Try.underlying9 (fun i hi => cell_below' hS (hL i hi)); rw [hlen] at hcv); go_wp2_with (first | (go_at_call 11; refine (sumSum_any _ _ _ _ hslF (by simp) hsz1).mono ?_; rintro e w5 ⟨rfl, hb5⟩) | (go_at_call 11; refine (sumSum_any _ _ _ _ hslF (by simp) hsz2).mono ?_; rintro e w5 ⟨rfl, hb5⟩)); refine RQ_mk rfl ?_ ?_; (focus (first | exact Below.refl _ _ | assumption)); (focus (first | (simp only [Array.getD_eq_getD_getElem?, List.getElem?_toArray, List.getElem?_cons_succ, List.getElem?_cons_zero, Option.getD_some]; done) | (simp only [Array.getD_eq_getD_getElem?, List.getElem?_toArray, List.getElem?_cons_succ, List.getElem?_cons_zero, Option.getD_some]; rfl) | rfl)))))
  (refine rel_eq (v := ?_) ?_ ?_; rotate_left; (focus ((simp only [Lay, List.nil_append, List.cons_append, List.setIfInBounds_toArray, List.set_cons_succ, List.set_cons_zero]; intros; rename_i w9 hS hF; simp only [FactsE, List.nil_append, List.cons_append, List.toList_toArray, List.getElem?_cons_succ, List.getElem?_cons_zero] at hF; try (repeat (first | obtain ⟨rfl, hF⟩ := hF | obtain ⟨⟨aF, capF, rfl, hslF⟩, hF⟩ := hF))); refine step_take rfl (of_decide_eq_true rfl) ?_; (have hcv := run_convert_bytes_back (P := Try.prog) w9 31 9 5 ⟨w1.heap.size, 0, none⟩ capB l2 Try.underlying31 Try.underlying5 Try.underlying9 (fun i hi => cell_below' hS (hL i hi)); rw [hlen] at hcv); go_wp2_with (first | (go_at_call 11; refine (sumSum_any _ _ _ _ hslF (by simp) hsz1).mono ?_; rintro e w5 ⟨rfl, hb5⟩) | (go_at_call 11; refine (sumSum_any _ _ _ _ hslF (by simp) hsz2).mono ?_; rintro e w5 ⟨rfl, hb5⟩)); refine RQ_mk rfl ?_ ?_; (focus (first | exact Below.refl _ _ | assumption)); (focus (first | (simp only [Array.getD_eq_getD_getElem?, List.getElem?_toArray, List.getElem?_cons_succ, List.getElem?_cons_zero, Option.getD_some]; done) | (simp only [Array.getD_eq_getD_getElem?, List.getElem?_toArray, List.getElem?_cons_succ, List.getElem?_cons_zero, Option.getD_some]; rfl) | rfl)))))
  (refine rel_eq (v := ?_) ?_ ?_; rotate_left; (focus ((simp only [Lay, List.nil_append, List.cons_append, List.setIfInBounds_toArray, List.set_cons_succ, List.set_cons_zero]; intros; rename_i w9 hS hF; simp only [FactsE, List.nil_append, List.cons_append, List.toList_toArray, List.getElem?_cons_succ, List.getElem?_cons_zero] at hF; try (repeat (first | obtain ⟨rfl, hF⟩ := hF | obtain ⟨⟨aF, capF, rfl, hslF⟩, hF⟩ := hF))); refine step_take rfl (of_decide_eq_true rfl) ?_; (have hcv := run_convert_bytes_back (P := Try.prog) w9 31 9 5 ⟨w1.heap.size, 0, none⟩ capB l2 Try.underlying31 Try.underlying5 Try.underlying9 (fun i hi => cell_below' hS (hL i hi)); rw [hlen] at hcv); go_wp2_with (first | (go_at_call 11; refine (sumSum_any _ _ _ _ hslF (by simp) hsz1).mono ?_; rintro e w5 ⟨rfl, hb5⟩) | (go_at_call 11; refine (sumSum_any _ _ _ _ hslF (by simp) hsz2).mono ?_; rintro e w5 ⟨rfl, hb5⟩)); refine RQ_mk rfl ?_ ?_; (focus (first | exact Below.refl _ _ | assumption)); (focus (first | (simp only [Array.getD_eq_getD_getElem?, List.getElem?_toArray, List.getElem?_cons_succ, List.getElem?_cons_zero, Option.getD_some]; done) | (simp only [Array.getD_eq_getD_getElem?, List.getElem?_toArray, List.getElem?_cons_succ, List.getElem?_cons_zero, Option.getD_some]; rfl) | rfl)))))
  refine rel_any (SlOf [⟨l2.toArray⟩]) (slOf_stable _) ?_ ?_
  (focus ((simp only [Lay, List.nil_append, List.cons_append, List.setIfInBounds_toArray, List.set_cons_succ, List.set_cons_zero]; intros; rename_i w9 hS hF; simp only [FactsE, List.nil_append, List.cons_append, List.toList_toArray, List.getElem?_cons_succ, List.getElem?_cons_zero] at hF; try (repeat (first | obtain ⟨rfl, hF⟩ := hF | obtain ⟨⟨aF, capF, rfl, hslF⟩, hF⟩ := hF))); refine step_take rfl (of_decide_eq_true rfl) ?_; (have hcv := run_convert_bytes_back (P := Try.prog) w9 31 9 5 ⟨w1.heap.size, 0, none⟩ capB l2 Try.underlying31 Try.underlying5 Try.underlying9 (fun i hi => cell_below' hS (hL i hi)); rw [hlen] at hcv); go_wp2; refine RQ_mk rfl (by first | exact (Below.refl _ _).alloc (Nat.le_refl _) _ | exact Below.refl _ _) ?_; simp only [Array.getD_eq_getD_getElem?, List.getElem?_toArray, List.getElem?_cons_succ, List.getElem?_cons_zero, Option.getD_some]; exact ⟨_, _, rfl, strSl_of (heap_alloc_last _ _) _ rfl⟩))
  (refine rel_eq (v := ?_) ?_ ?_; rotate_left; (focus ((simp only [Lay, List.nil_append, List.cons_append, List.setIfInBounds_toArray, List.set_cons_succ, List.set_cons_zero]; intros; rename_i w9 hS hF; simp only [FactsE, List.nil_append, List.cons_append, List.toList_toArray, List.getElem?_cons_succ, List.getElem?_cons_zero] at hF; try (repeat (first | obtain ⟨rfl, hF⟩ := hF | obtain ⟨⟨aF, capF, rfl, hslF⟩, hF⟩ := hF))); refine step_take rfl (of_decide_eq_true rfl) ?_; (have hcv := run_convert_bytes_back (P := Try.prog) w9 31 9 5 ⟨w1.heap.size, 0, none⟩ capB l2 Try.underlying31 Try.underlying5 Try.underlying9 (fun i hi => cell_below' hS (hL i hi)); rw [hlen] at hcv); go_wp2_with (first | (go_at_call 11; refine (sumSum_any _ _ _ _ hslF (by simp) hsz1).mono ?_; rintro e w5 ⟨rfl, hb5⟩) | (go_at_call 11; refine (sumSum_any _ _ _ _ hslF (by simp) hsz2).mono ?_; rintro e w5 ⟨rfl, hb5⟩)); refine RQ_mk rfl ?_ ?_; (focus (first | exact Below.refl _ _ | assumption)); (focus (first | (simp only [Array.getD_eq_getD_getElem?, List.getElem?_toArray, List.getElem?_cons_succ, List.getElem?_cons_zero, Option.getD_some]; done) | (simp only [Array.getD_eq_getD_getElem?, List.getElem?_toArray, List.getElem?_cons_succ, List.getElem?_cons_zero, Option.getD_some]; rfl) | rfl)))))
  (refine rel_eq (v := ?_) ?_ ?_; rotate_left; (focus ((simp only [Lay, List.nil_append, List.cons_append, List.setIfInBounds_toArray, List.set_cons_succ, List.set_cons_zero]; intros; rename_i w9 hS hF; simp only [FactsE, List.nil_append, List.cons_append, List.toList_toArray, List.getElem?_cons_succ, List.getElem?_cons_zero] at hF; try (repeat (first | obtain ⟨rfl, hF⟩ := hF | obtain ⟨⟨aF, capF, rfl, hslF⟩, hF⟩ := hF))); refine step_take rfl (of_decide_eq_true rfl) ?_; (have hcv := run_convert_bytes_back (P := Try.prog) w9 31 9 5 ⟨w1.heap.size, 0, none⟩ capB l2 Try.underlying31 Try.underlying5 Try.underlying9 (fun i hi => cell_below' hS (hL i hi)); rw [hlen] at hcv); go_wp2_with (first | (go_at_call 11; refine (sumSum_any _ _ _ _ hslF (by simp) hsz1).mono ?_; rintro e w5 ⟨rfl, hb5⟩) | (go_at_call 11; refine (sumSum_any _ _ _ _ hslF (by simp) hsz2).mono ?_; rintro e w5 ⟨rfl, hb5⟩)); refine RQ_mk rfl ?_ ?_; (focus (first | exact Below.refl _ _ | assumption)); (focus (first | (simp only [Array.getD_eq_getD_getElem?, List.getElem?_toArray, List.getElem?_cons_succ, List.getElem?_cons_zero, Option.getD_some]; done) | (simp only [Array.getD_eq_getD_getElem?, List.getElem?_toArray, List.getElem?_cons_succ, List.getElem?_cons_zero, Option.getD_some]; rfl) | rfl)))))
  repeat (refine rel_eq (v := ?_) ?_ ?_; rotate_left; (focus ((simp only [Lay, List.nil_append, List.cons_append, List.setIfInBounds_toArray, List.set_cons_succ, List.set_cons_zero]; intros; rename_i w9 hS hF; simp only [FactsE, List.nil_append, List.cons_append, List.toList_toArray, List.getElem?_cons_succ, List.getElem?_cons_zero] at hF; try (repeat (first | obtain ⟨rfl, hF⟩ := hF | obtain ⟨⟨aF, capF, rfl, hslF⟩, hF⟩ := hF))); refine step_take rfl (of_decide_eq_true rfl) ?_; (have hcv := run_convert_bytes_back (P := Try.prog) w9 31 9 5 ⟨w1.heap.size, 0, none⟩ capB l2 Try.underlying31 Try.underlying5 Try.underlying9 (fun i hi => cell_below' hS (hL i hi)); rw [hlen] at hcv); go_wp2_with (first | (go_at_call 11; refine (sumSum_any _ _ _ _ hslF (by simp) hsz1).mono ?_; rintro e w5 ⟨rfl, hb5⟩) | (go_at_call 11; refine (sumSum_any _ _ _ _ hslF (by simp) hsz2).mono ?_; rintro e w5 ⟨rfl, hb5⟩)); refine RQ_mk rfl ?_ ?_; (focus (first | exact Below.refl _ _ | assumption)); (focus (first | (simp only [Array.getD_eq_getD_getElem?, List.getElem?_toArray, List.getElem?_cons_succ, List.getElem?_cons_zero, Option.getD_some]; done) | (simp only [Array.getD_eq_getD_getElem?, List.getElem?_toArray, List.getElem?_cons_succ, List.getElem?_cons_zero, Option.getD_some]; rfl) | rfl)))))
  refine rel_end ?_
  (simp only [Lay, List.nil_append, List.cons_append, List.setIfInBounds_toArray, List.set_cons_succ, List.set_cons_zero]; intros; rename_i w9 hS hF; simp only [FactsA, List.nil_append, List.cons_append] at hF; try (repeat (first | obtain ⟨rfl, hF⟩ := hF | obtain ⟨⟨aF, capF, rfl, hslF⟩, hF⟩ := hF)))
  go_wp2
  go_ret
  exact ⟨congrArg (fun x => Ending.returned (.bool x)) hbb, bseq hb2 hS⟩
end Go.Proofs.Ytaajndackdmbeaa
