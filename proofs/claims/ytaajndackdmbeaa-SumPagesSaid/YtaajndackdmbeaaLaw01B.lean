/- The law SumTells, walked. -/
import Derived.Test.YtaajndackdmbeaaLaw01A
namespace Go.Proofs.Ytaajndackdmbeaa
open Go.RowKit
set_option linter.unusedSimpArgs false

/-- A slice of these strings. -/
def SlOf (ss : List ByteArray) : VR := fun v w => ∃ a cap, v = .slice a ss.length cap ∧ StrSl w a ss
theorem slOf_stable (ss : List ByteArray) : Stable (SlOf ss) := fun _ _ _ ⟨a, cap, h1, h2⟩ hb => ⟨a, cap, h1, h2.ext hb⟩

theorem byt_frozen {w : World} {g j : Nat} {C : Array Value} {T : TypeId} (h : w.heap[g]? = some (.cells C T (C.size, C.size + 1))) (hj : j < C.size) : w.frozen? ⟨g, j, none⟩ = false := by
  simp [World.frozen?, h]
  omega

theorem cell_below' {w w' : World} (hb : Below w.heap.size w w') {x : Addr} {v : Value} (hx : w.cell? x = some v) : w'.cell? x = some v := cell_below hb hx
theorem bytes_set {w : World} {g : Nat} {C : Array Value} {T : TypeId} {fr : Nat × Nat} {l : List UInt8} {j : Nat} {c : UInt8} (hg : w.heap[g]? = some (.cells C T fr))
    (hC : ∀ (j : Nat) (h : j < l.length), C[j]? = some (.int .u8 (l[j].toNat : Int))) :
    ∀ (i : Nat) (h : i < (l.set j c).length), (w.setRow g (C.setIfInBounds j (.int .u8 (c.toNat : Int)))).cell? ((⟨g, 0, none⟩ : Addr).add i) = some (.int .u8 ((l.set j c)[i].toNat : Int)) := by
  intro i hi
  rw [Addr.add_mid, cell_of_row _ _ _ _ _ _ (setRow_heap w g _ _ _ _ hg), Nat.zero_add, Array.getElem?_setIfInBounds]
  rw [List.length_set] at hi
  have h1 := hC i hi
  have h2 : i < C.size := (Array.getElem?_eq_some_iff.1 h1).1
  by_cases hji : j = i
  · subst hji
    simp [h2]
  · rw [if_neg hji, h1, List.getElem_set_ne hji]

theorem sm_fst : ∀ (l : List UInt8) (p : Int × Int), 0 ≤ p.1 → p.1 < 65535 → (sm p l).1 = (p.1 + (l.map fun c => (c.toNat : Int)).sum) % 65535
  | [], p, h0, h1 => by simp [sm]; omega
  | c :: l, p, h0, h1 => by
    have hb := byte_lt c
    have := sm_fst l (s1 p c) (okP_s1 p c).1 (okP_s1 p c).2.1
    show (sm (s1 p c) l).1 = _
    rw [this]
    simp only [s1, List.map_cons, List.sum_cons]
    omega

theorem sum_set : ∀ (l : List UInt8) (k : Nat) (hk : k < l.length) (c : UInt8), ((l.set k c).map fun c => (c.toNat : Int)).sum = (l.map fun c => (c.toNat : Int)).sum - (l[k].toNat : Int) + (c.toNat : Int)
  | [], k, hk, _ => by simp at hk
  | a :: l, 0, _, c => by simp; omega
  | a :: l, k + 1, hk, c => by
    have := sum_set l k (by simpa using hk) c
    simp only [List.set_cons_succ, List.map_cons, List.sum_cons, List.getElem_cons_succ, this]
    omega

theorem toS_inj {p q : Int × Int} (hp : okP p) (hq : okP q) (h : toS p = toS q) : p = q := by
  obtain ⟨a, b⟩ := p
  obtain ⟨c, d⟩ := q
  unfold okP at hp hq
  unfold toS at h
  simp only at hp hq h
  have : a = c ∧ b = d := by omega
  rw [this.1, this.2]

theorem okP0 : okP (0, 0) := by unfold okP; omega

theorem tells (l : List UInt8) (k : Nat) (hk : k < l.length) (b : UInt8) : toS (sm (0, 0) l) = toS (sm (0, 0) (l.set k (l[k] ^^^ b))) ↔ (b.toNat : Int) = 0 := by
  constructor
  · intro h
    have h1 := congrArg Prod.fst (toS_inj (okP_sm _ _ okP0) (okP_sm _ _ okP0) h)
    rw [sm_fst _ _ (by decide) (by decide), sm_fst _ _ (by decide) (by decide), sum_set l k hk] at h1
    have b1 := byte_lt l[k]
    have b2 := byte_lt (l[k] ^^^ b)
    have e : (l[k].toNat : Int) = ((l[k] ^^^ b).toNat : Int) := by simp only at h1; omega
    have e2 : l[k] = l[k] ^^^ b := UInt8.toNat_inj.1 (by omega)
    have e3 : b = 0 := by
      have h3 : l[k] ^^^ l[k] = l[k] ^^^ (l[k] ^^^ b) := congrArg (l[k] ^^^ ·) e2
      rw [← UInt8.xor_assoc, UInt8.xor_self, UInt8.zero_xor] at h3
      exact h3.symm
    rw [e3]; rfl
  · intro h
    have e3 : b = 0 := UInt8.toNat_inj.1 (by simpa using h)
    rw [e3, UInt8.xor_zero, List.set_getElem_self]

set_option maxRecDepth 100000 in
set_option maxHeartbeats 1600000 in
theorem walk_SumTells (s : ByteArray) (k : Int) (b : UInt8) (w : World) (hs : s.size ≤ 9223372036854775807) :
    Calls Try.prog 4 #[.string s, .int .i64 k, .int .u8 (b.toNat : Int)] w fun e w' => e = .returned (.bool true) ∧ Below w.heap.size w w' := by
  go_enter Try.func4, Try.ntmps4
  by_cases c1 : 3000 < s.size
  · go_wp2_with (go_at_call 8; refine (awake01 _).mono ?_; rintro e w1 ⟨rfl, hb1⟩)
    go_ret
    exact ⟨rfl, hb1⟩
  by_cases c2 : k < 0
  · go_wp2_with (go_at_call 8; refine (awake01 _).mono ?_; rintro e w1 ⟨rfl, hb1⟩)
    go_ret
    exact ⟨rfl, hb1⟩
  by_cases c3 : (s.size : Int) ≤ k
  · go_wp2_with (go_at_call 8; refine (awake01 _).mono ?_; rintro e w1 ⟨rfl, hb1⟩)
    go_ret
    exact ⟨rfl, hb1⟩
  obtain ⟨j, rfl⟩ := Int.eq_ofNat_of_zero_le (by omega : 0 ≤ k)
  have hj : j < s.size := by omega
  have hjl : j < s.data.toList.length := by rw [Array.length_toList]; exact hj
  clear c2
  go_wp2_with (first
    | (((with_reducible refine ev_bytes ?_); refine ⟨rfl, _, rfl, ?_⟩; intro gB capB wB hbB hgB hcB; subst hgB; (simp only [Act.put, List.setIfInBounds_toArray, List.set_cons_succ, List.set_cons_zero])); obtain ⟨C, hC1, hCs, hC2⟩ := hcB; have hCj := hC2 j hjl; have hcc := (cell_of_row wB _ j _ _ _ hC1).trans hCj; have hff := byt_frozen hC1 (Nat.lt_of_lt_of_le hjl hCs))
    | (go_at_call 8; refine (awake01 _).mono ?_; rintro e w1 ⟨rfl, hb1⟩))
  have ex : bits .xor .u8 (s.data[j].toNat : Int) (b.toNat : Int) = ((s.data[j] ^^^ b).toNat : Int) := by
    rw [u8_xor_nat _ _ (UInt8.toNat_lt _) (UInt8.toNat_lt _), UInt8.toNat_xor]
  rw [ex, setCell_eq_setRow wB _ j C _ _ _ hC1]
  have hL := bytes_set hC1 hC2 (j := j) (c := s.data[j] ^^^ b)
  have hb2 : Below w.heap.size w (wB.setRow w1.heap.size (C.setIfInBounds j (.int .u8 ((s.data[j] ^^^ b).toNat : Int)))) :=
    (bseq hb1 hbB).trans ⟨rfl, rfl, rfl, by simp, fun k hk => setRow_other wB _ k _ (by have := hb1.size; omega)⟩
  generalize wB.setRow w1.heap.size (C.setIfInBounds j (.int .u8 ((s.data[j] ^^^ b).toNat : Int))) = w2 at hL hb2 ⊢
  have ht : toS (sm (0, 0) (flat [s])) = toS (sm (0, 0) (flat [⟨(s.data.toList.set j (s.data[j] ^^^ b)).toArray⟩])) ↔ (b.toNat : Int) = 0 := by
    have := tells s.data.toList j hjl b
    simpa [flat] using this
  have hlen : (s.data.toList.set j (s.data[j] ^^^ b)).length = s.size := by
    rw [List.length_set, Array.length_toList]
    rfl
  have hsz1 : ∀ x ∈ [s], x.size ≤ 9223372036854775807 := by simp; omega
  have hsz2 : ∀ x ∈ [(⟨(s.data.toList.set j (s.data[j] ^^^ b)).toArray⟩ : ByteArray)], x.size ≤ 9223372036854775807 := by
    intro x hx
    obtain rfl := List.mem_singleton.1 hx
    show (s.data.toList.set j (s.data[j] ^^^ b)).length ≤ _
    rw [List.length_set, Array.length_toList]
    show s.size ≤ _
    omega
  clear hC1 hC2 hCj hcc hff hCs
  refine wp_region_rel (S := fun w' => Below w2.heap.size w2 w') [32, 33, 34, 35, 36, 37, 38, 39, 40, 41, 42, 6] Try.mixed (by kernel_rfl) (by kernel_rfl) (by decide) (by kernel_rfl) (fun _ _ h k => h.trans (k.mono h.size)) (Below.refl _ _).drew ?_
  (refine rel_eq (v := ?_) ?_ ?_; rotate_left; (focus ((simp only [Lay, List.nil_append, List.cons_append, List.setIfInBounds_toArray, List.set_cons_succ, List.set_cons_zero]; intros; rename_i w9 hS hF; simp only [FactsE, List.nil_append, List.cons_append, List.toList_toArray, List.getElem?_cons_succ, List.getElem?_cons_zero] at hF; try (repeat (first | obtain ⟨rfl, hF⟩ := hF | obtain ⟨⟨aF, capF, rfl, hslF⟩, hF⟩ := hF))); refine step_take rfl (of_decide_eq_true rfl) ?_; (have hcv := run_convert_bytes_back (P := Try.prog) w9 31 9 5 ⟨w1.heap.size, 0, none⟩ capB (s.data.toList.set j (s.data[j] ^^^ b)) Try.underlying31 Try.underlying5 Try.underlying9 (fun i hi => cell_below' hS (hL i hi)); rw [hlen] at hcv); go_wp2_with (first | (go_at_call 11; refine (sumSum_any _ _ _ _ hslF (by simp) hsz1).mono ?_; rintro e w5 ⟨rfl, hb5⟩) | (go_at_call 11; refine (sumSum_any _ _ _ _ hslF (by simp) hsz2).mono ?_; rintro e w5 ⟨rfl, hb5⟩)); refine RQ_mk rfl ?_ ?_; (focus (first | exact Below.refl _ _ | assumption)); (focus (first | (simp only [Array.getD_eq_getD_getElem?, List.getElem?_toArray, List.getElem?_cons_succ, List.getElem?_cons_zero, Option.getD_some]; done) | (simp only [Array.getD_eq_getD_getElem?, List.getElem?_toArray, List.getElem?_cons_succ, List.getElem?_cons_zero, Option.getD_some]; rfl) | rfl)))))
  refine rel_any (SlOf [s]) (slOf_stable _) ?_ ?_
  (focus ((simp only [Lay, List.nil_append, List.cons_append, List.setIfInBounds_toArray, List.set_cons_succ, List.set_cons_zero]; intros; rename_i w9 hS hF; simp only [FactsE, List.nil_append, List.cons_append, List.toList_toArray, List.getElem?_cons_succ, List.getElem?_cons_zero] at hF; try (repeat (first | obtain ⟨rfl, hF⟩ := hF | obtain ⟨⟨aF, capF, rfl, hslF⟩, hF⟩ := hF))); refine step_take rfl (of_decide_eq_true rfl) ?_; (have hcv := run_convert_bytes_back (P := Try.prog) w9 31 9 5 ⟨w1.heap.size, 0, none⟩ capB (s.data.toList.set j (s.data[j] ^^^ b)) Try.underlying31 Try.underlying5 Try.underlying9 (fun i hi => cell_below' hS (hL i hi)); rw [hlen] at hcv); go_wp2; refine RQ_mk rfl (by first | exact (Below.refl _ _).alloc (Nat.le_refl _) _ | exact Below.refl _ _) ?_; simp only [Array.getD_eq_getD_getElem?, List.getElem?_toArray, List.getElem?_cons_succ, List.getElem?_cons_zero, Option.getD_some]; exact ⟨_, _, rfl, strSl_of (heap_alloc_last _ _) _ rfl⟩))
  (refine rel_eq (v := ?_) ?_ ?_; rotate_left; (focus ((simp only [Lay, List.nil_append, List.cons_append, List.setIfInBounds_toArray, List.set_cons_succ, List.set_cons_zero]; intros; rename_i w9 hS hF; simp only [FactsE, List.nil_append, List.cons_append, List.toList_toArray, List.getElem?_cons_succ, List.getElem?_cons_zero] at hF; try (repeat (first | obtain ⟨rfl, hF⟩ := hF | obtain ⟨⟨aF, capF, rfl, hslF⟩, hF⟩ := hF))); refine step_take rfl (of_decide_eq_true rfl) ?_; (have hcv := run_convert_bytes_back (P := Try.prog) w9 31 9 5 ⟨w1.heap.size, 0, none⟩ capB (s.data.toList.set j (s.data[j] ^^^ b)) Try.underlying31 Try.underlying5 Try.underlying9 (fun i hi => cell_below' hS (hL i hi)); rw [hlen] at hcv); go_wp2_with (first | (go_at_call 11; refine (sumSum_any _ _ _ _ hslF (by simp) hsz1).mono ?_; rintro e w5 ⟨rfl, hb5⟩) | (go_at_call 11; refine (sumSum_any _ _ _ _ hslF (by simp) hsz2).mono ?_; rintro e w5 ⟨rfl, hb5⟩)); refine RQ_mk rfl ?_ ?_; (focus (first | exact Below.refl _ _ | assumption)); (focus (first | (simp only [Array.getD_eq_getD_getElem?, List.getElem?_toArray, List.getElem?_cons_succ, List.getElem?_cons_zero, Option.getD_some]; done) | (simp only [Array.getD_eq_getD_getElem?, List.getElem?_toArray, List.getElem?_cons_succ, List.getElem?_cons_zero, Option.getD_some]; rfl) | rfl)))))
  (refine rel_eq (v := ?_) ?_ ?_; rotate_left; (focus ((simp only [Lay, List.nil_append, List.cons_append, List.setIfInBounds_toArray, List.set_cons_succ, List.set_cons_zero]; intros; rename_i w9 hS hF; simp only [FactsE, List.nil_append, List.cons_append, List.toList_toArray, List.getElem?_cons_succ, List.getElem?_cons_zero] at hF; try (repeat (first | obtain ⟨rfl, hF⟩ := hF | obtain ⟨⟨aF, capF, rfl, hslF⟩, hF⟩ := hF))); refine step_take rfl (of_decide_eq_true rfl) ?_; (have hcv := run_convert_bytes_back (P := Try.prog) w9 31 9 5 ⟨w1.heap.size, 0, none⟩ capB (s.data.toList.set j (s.data[j] ^^^ b)) Try.underlying31 Try.underlying5 Try.underlying9 (fun i hi => cell_below' hS (hL i hi)); rw [hlen] at hcv); go_wp2_with (first | (go_at_call 11; refine (sumSum_any _ _ _ _ hslF (by simp) hsz1).mono ?_; rintro e w5 ⟨rfl, hb5⟩) | (go_at_call 11; refine (sumSum_any _ _ _ _ hslF (by simp) hsz2).mono ?_; rintro e w5 ⟨rfl, hb5⟩)); refine RQ_mk rfl ?_ ?_; (focus (first | exact Below.refl _ _ | assumption)); (focus (first | (simp only [Array.getD_eq_getD_getElem?, List.getElem?_toArray, List.getElem?_cons_succ, List.getElem?_cons_zero, Option.getD_some]; done) | (simp only [Array.getD_eq_getD_getElem?, List.getElem?_toArray, List.getElem?_cons_succ, List.getElem?_cons_zero, Option.getD_some]; rfl) | rfl)))))
  (refine rel_eq (v := ?_) ?_ ?_; rotate_left; (focus ((simp only [Lay, List.nil_append, List.cons_append, List.setIfInBounds_toArray, List.set_cons_succ, List.set_cons_zero]; intros; rename_i w9 hS hF; simp only [FactsE, List.nil_append, List.cons_append, List.toList_toArray, List.getElem?_cons_succ, List.getElem?_cons_zero] at hF; try (repeat (first | obtain ⟨rfl, hF⟩ := hF | obtain ⟨⟨aF, capF, rfl, hslF⟩, hF⟩ := hF))); refine step_take rfl (of_decide_eq_true rfl) ?_; (have hcv := run_convert_bytes_back (P := Try.prog) w9 31 9 5 ⟨w1.heap.size, 0, none⟩ capB (s.data.toList.set j (s.data[j] ^^^ b)) Try.underlying31 Try.underlying5 Try.underlying9 (fun i hi => cell_below' hS (hL i hi)); rw [hlen] at hcv); go_wp2_with (first | (go_at_call 11; refine (sumSum_any _ _ _ _ hslF (by simp) hsz1).mono ?_; rintro e w5 ⟨rfl, hb5⟩) | (go_at_call 11; refine (sumSum_any _ _ _ _ hslF (by simp) hsz2).mono ?_; rintro e w5 ⟨rfl, hb5⟩)); refine RQ_mk rfl ?_ ?_; (focus (first | exact Below.refl _ _ | assumption)); (focus (first | (simp only [Array.getD_eq_getD_getElem?, List.getElem?_toArray, List.getElem?_cons_succ, List.getElem?_cons_zero, Option.getD_some]; done) | (simp only [Array.getD_eq_getD_getElem?, List.getElem?_toArray, List.getElem?_cons_succ, List.getElem?_cons_zero, Option.getD_some]; rfl) | rfl)))))
  refine rel_any (SlOf [⟨(s.data.toList.set j (s.data[j] ^^^ b)).toArray⟩]) (slOf_stable _) ?_ ?_
  (focus ((simp only [Lay, List.nil_append, List.cons_append, List.setIfInBounds_toArray, List.set_cons_succ, List.set_cons_zero]; intros; rename_i w9 hS hF; simp only [FactsE, List.nil_append, List.cons_append, List.toList_toArray, List.getElem?_cons_succ, List.getElem?_cons_zero] at hF; try (repeat (first | obtain ⟨rfl, hF⟩ := hF | obtain ⟨⟨aF, capF, rfl, hslF⟩, hF⟩ := hF))); refine step_take rfl (of_decide_eq_true rfl) ?_; (have hcv := run_convert_bytes_back (P := Try.prog) w9 31 9 5 ⟨w1.heap.size, 0, none⟩ capB (s.data.toList.set j (s.data[j] ^^^ b)) Try.underlying31 Try.underlying5 Try.underlying9 (fun i hi => cell_below' hS (hL i hi)); rw [hlen] at hcv); go_wp2; refine RQ_mk rfl (by first | exact (Below.refl _ _).alloc (Nat.le_refl _) _ | exact Below.refl _ _) ?_; simp only [Array.getD_eq_getD_getElem?, List.getElem?_toArray, List.getElem?_cons_succ, List.getElem?_cons_zero, Option.getD_some]; exact ⟨_, _, rfl, strSl_of (heap_alloc_last _ _) _ rfl⟩))
  (refine rel_eq (v := ?_) ?_ ?_; rotate_left; (focus ((simp only [Lay, List.nil_append, List.cons_append, List.setIfInBounds_toArray, List.set_cons_succ, List.set_cons_zero]; intros; rename_i w9 hS hF; simp only [FactsE, List.nil_append, List.cons_append, List.toList_toArray, List.getElem?_cons_succ, List.getElem?_cons_zero] at hF; try (repeat (first | obtain ⟨rfl, hF⟩ := hF | obtain ⟨⟨aF, capF, rfl, hslF⟩, hF⟩ := hF))); refine step_take rfl (of_decide_eq_true rfl) ?_; (have hcv := run_convert_bytes_back (P := Try.prog) w9 31 9 5 ⟨w1.heap.size, 0, none⟩ capB (s.data.toList.set j (s.data[j] ^^^ b)) Try.underlying31 Try.underlying5 Try.underlying9 (fun i hi => cell_below' hS (hL i hi)); rw [hlen] at hcv); go_wp2_with (first | (go_at_call 11; refine (sumSum_any _ _ _ _ hslF (by simp) hsz1).mono ?_; rintro e w5 ⟨rfl, hb5⟩) | (go_at_call 11; refine (sumSum_any _ _ _ _ hslF (by simp) hsz2).mono ?_; rintro e w5 ⟨rfl, hb5⟩)); refine RQ_mk rfl ?_ ?_; (focus (first | exact Below.refl _ _ | assumption)); (focus (first | (simp only [Array.getD_eq_getD_getElem?, List.getElem?_toArray, List.getElem?_cons_succ, List.getElem?_cons_zero, Option.getD_some]; done) | (simp only [Array.getD_eq_getD_getElem?, List.getElem?_toArray, List.getElem?_cons_succ, List.getElem?_cons_zero, Option.getD_some]; rfl) | rfl)))))
  have hbb : ((toS (sm (0, 0) (flat [s])) == toS (sm (0, 0) (flat [(⟨(s.data.toList.set j (s.data[j] ^^^ b)).toArray⟩ : ByteArray)]))) == ((b.toNat : Int) == 0)) = true := by
    rw [beq_iff_eq, Bool.eq_iff_iff, beq_iff_eq, beq_iff_eq]
    exact ht
  (refine rel_eq (v := ?_) ?_ ?_; rotate_left; (focus ((simp only [Lay, List.nil_append, List.cons_append, List.setIfInBounds_toArray, List.set_cons_succ, List.set_cons_zero]; intros; rename_i w9 hS hF; simp only [FactsE, List.nil_append, List.cons_append, List.toList_toArray, List.getElem?_cons_succ, List.getElem?_cons_zero] at hF; try (repeat (first | obtain ⟨rfl, hF⟩ := hF | obtain ⟨⟨aF, capF, rfl, hslF⟩, hF⟩ := hF))); refine step_take rfl (of_decide_eq_true rfl) ?_; (have hcv := run_convert_bytes_back (P := Try.prog) w9 31 9 5 ⟨w1.heap.size, 0, none⟩ capB (s.data.toList.set j (s.data[j] ^^^ b)) Try.underlying31 Try.underlying5 Try.underlying9 (fun i hi => cell_below' hS (hL i hi)); rw [hlen] at hcv); go_wp2_with (first | (go_at_call 11; refine (sumSum_any _ _ _ _ hslF (by simp) hsz1).mono ?_; rintro e w5 ⟨rfl, hb5⟩) | (go_at_call 11; refine (sumSum_any _ _ _ _ hslF (by simp) hsz2).mono ?_; rintro e w5 ⟨rfl, hb5⟩)); refine RQ_mk rfl ?_ ?_; (focus (first | exact Below.refl _ _ | assumption)); (focus (first | (simp only [Array.getD_eq_getD_getElem?, List.getElem?_toArray, List.getElem?_cons_succ, List.getElem?_cons_zero, Option.getD_some]; done) | (simp only [Array.getD_eq_getD_getElem?, List.getElem?_toArray, List.getElem?_cons_succ, List.getElem?_cons_zero, Option.getD_some]; rfl) | rfl)))))
  (refine rel_eq (v := ?_) ?_ ?_; rotate_left; (focus ((simp only [Lay, List.nil_append, List.cons_append, List.setIfInBounds_toArray, List.set_cons_succ, List.set_cons_zero]; intros; rename_i w9 hS hF; simp only [FactsE, List.nil_append, List.cons_append, List.toList_toArray, List.getElem?_cons_succ, List.getElem?_cons_zero] at hF; try (repeat (first | obtain ⟨rfl, hF⟩ := hF | obtain ⟨⟨aF, capF, rfl, hslF⟩, hF⟩ := hF))); refine step_take rfl (of_decide_eq_true rfl) ?_; (have hcv := run_convert_bytes_back (P := Try.prog) w9 31 9 5 ⟨w1.heap.size, 0, none⟩ capB (s.data.toList.set j (s.data[j] ^^^ b)) Try.underlying31 Try.underlying5 Try.underlying9 (fun i hi => cell_below' hS (hL i hi)); rw [hlen] at hcv); go_wp2_with (first | (go_at_call 11; refine (sumSum_any _ _ _ _ hslF (by simp) hsz1).mono ?_; rintro e w5 ⟨rfl, hb5⟩) | (go_at_call 11; refine (sumSum_any _ _ _ _ hslF (by simp) hsz2).mono ?_; rintro e w5 ⟨rfl, hb5⟩)); refine RQ_mk rfl ?_ ?_; (focus (first | exact Below.refl _ _ | assumption)); (focus (first | (simp only [Array.getD_eq_getD_getElem?, List.getElem?_toArray, List.getElem?_cons_succ, List.getElem?_cons_zero, Option.getD_some]; done) | (simp only [Array.getD_eq_getD_getElem?, List.getElem?_toArray, List.getElem?_cons_succ, List.getElem?_cons_zero, Option.getD_some]; rfl) | rfl)))))
  (refine rel_eq (v := ?_) ?_ ?_; rotate_left; (focus ((simp only [Lay, List.nil_append, List.cons_append, List.setIfInBounds_toArray, List.set_cons_succ, List.set_cons_zero]; intros; rename_i w9 hS hF; simp only [FactsE, List.nil_append, List.cons_append, List.toList_toArray, List.getElem?_cons_succ, List.getElem?_cons_zero] at hF; try (repeat (first | obtain ⟨rfl, hF⟩ := hF | obtain ⟨⟨aF, capF, rfl, hslF⟩, hF⟩ := hF))); refine step_take rfl (of_decide_eq_true rfl) ?_; (have hcv := run_convert_bytes_back (P := Try.prog) w9 31 9 5 ⟨w1.heap.size, 0, none⟩ capB (s.data.toList.set j (s.data[j] ^^^ b)) Try.underlying31 Try.underlying5 Try.underlying9 (fun i hi => cell_below' hS (hL i hi)); rw [hlen] at hcv); go_wp2_with (first | (go_at_call 11; refine (sumSum_any _ _ _ _ hslF (by simp) hsz1).mono ?_; rintro e w5 ⟨rfl, hb5⟩) | (go_at_call 11; refine (sumSum_any _ _ _ _ hslF (by simp) hsz2).mono ?_; rintro e w5 ⟨rfl, hb5⟩)); refine RQ_mk rfl ?_ ?_; (focus (first | exact Below.refl _ _ | assumption)); (focus (first | (simp only [Array.getD_eq_getD_getElem?, List.getElem?_toArray, List.getElem?_cons_succ, List.getElem?_cons_zero, Option.getD_some]; done) | (simp only [Array.getD_eq_getD_getElem?, List.getElem?_toArray, List.getElem?_cons_succ, List.getElem?_cons_zero, Option.getD_some]; rfl) | rfl)))))
  (refine rel_eq (v := ?_) ?_ ?_; rotate_left; (focus ((simp only [Lay, List.nil_append, List.cons_append, List.setIfInBounds_toArray, List.set_cons_succ, List.set_cons_zero]; intros; rename_i w9 hS hF; simp only [FactsE, List.nil_append, List.cons_append, List.toList_toArray, List.getElem?_cons_succ, List.getElem?_cons_zero] at hF; try (repeat (first | obtain ⟨rfl, hF⟩ := hF | obtain ⟨⟨aF, capF, rfl, hslF⟩, hF⟩ := hF))); refine step_take rfl (of_decide_eq_true rfl) ?_; (have hcv := run_convert_bytes_back (P := Try.prog) w9 31 9 5 ⟨w1.heap.size, 0, none⟩ capB (s.data.toList.set j (s.data[j] ^^^ b)) Try.underlying31 Try.underlying5 Try.underlying9 (fun i hi => cell_below' hS (hL i hi)); rw [hlen] at hcv); go_wp2_with (first | (go_at_call 11; refine (sumSum_any _ _ _ _ hslF (by simp) hsz1).mono ?_; rintro e w5 ⟨rfl, hb5⟩) | (go_at_call 11; refine (sumSum_any _ _ _ _ hslF (by simp) hsz2).mono ?_; rintro e w5 ⟨rfl, hb5⟩)); refine RQ_mk rfl ?_ ?_; (focus (first | exact Below.refl _ _ | assumption)); (focus (first | (simp only [Array.getD_eq_getD_getElem?, List.getElem?_toArray, List.getElem?_cons_succ, List.getElem?_cons_zero, Option.getD_some]; done) | (simp only [Array.getD_eq_getD_getElem?, List.getElem?_toArray, List.getElem?_cons_succ, List.getElem?_cons_zero, Option.getD_some]; rfl) | rfl)))))
  (refine rel_eq (v := ?_) ?_ ?_; rotate_left; (focus ((simp only [Lay, List.nil_append, List.cons_append, List.setIfInBounds_toArray, List.set_cons_succ, List.set_cons_zero]; intros; rename_i w9 hS hF; simp only [FactsE, List.nil_append, List.cons_append, List.toList_toArray, List.getElem?_cons_succ, List.getElem?_cons_zero] at hF; try (repeat (first | obtain ⟨rfl, hF⟩ := hF | obtain ⟨⟨aF, capF, rfl, hslF⟩, hF⟩ := hF))); refine step_take rfl (of_decide_eq_true rfl) ?_; (have hcv := run_convert_bytes_back (P := Try.prog) w9 31 9 5 ⟨w1.heap.size, 0, none⟩ capB (s.data.toList.set j (s.data[j] ^^^ b)) Try.underlying31 Try.underlying5 Try.underlying9 (fun i hi => cell_below' hS (hL i hi)); rw [hlen] at hcv); go_wp2_with (first | (go_at_call 11; refine (sumSum_any _ _ _ _ hslF (by simp) hsz1).mono ?_; rintro e w5 ⟨rfl, hb5⟩) | (go_at_call 11; refine (sumSum_any _ _ _ _ hslF (by simp) hsz2).mono ?_; rintro e w5 ⟨rfl, hb5⟩)); refine RQ_mk rfl ?_ ?_; (focus (first | exact Below.refl _ _ | assumption)); (focus (first | (simp only [Array.getD_eq_getD_getElem?, List.getElem?_toArray, List.getElem?_cons_succ, List.getElem?_cons_zero, Option.getD_some]; done) | (simp only [Array.getD_eq_getD_getElem?, List.getElem?_toArray, List.getElem?_cons_succ, List.getElem?_cons_zero, Option.getD_some]; rfl) | rfl)))))
  refine rel_end ?_
  (simp only [Lay, List.nil_append, List.cons_append, List.setIfInBounds_toArray, List.set_cons_succ, List.set_cons_zero]; intros; rename_i w9 hS hF; simp only [FactsA, List.nil_append, List.cons_append] at hF; try (repeat (first | obtain ⟨rfl, hF⟩ := hF | obtain ⟨⟨aF, capF, rfl, hslF⟩, hF⟩ := hF)))
  go_wp2
  go_ret
  exact ⟨rfl, bseq hb2 hS⟩

theorem walk_SumTells' (s : ByteArray) (k y : Int) (w : World) (hy : 0 ≤ y ∧ y ≤ 255) (hs : s.size ≤ 9223372036854775807) :
    Calls Try.prog 4 #[.string s, .int .i64 k, .int .u8 y] w fun e w' => e = .returned (.bool true) ∧ Below w.heap.size w w' := by
  have := walk_SumTells s k (UInt8.ofNat y.toNat) w hs
  rwa [show ((UInt8.ofNat y.toNat).toNat : Int) = y from by rw [UInt8.toNat_ofNat']; omega] at this
end Go.Proofs.Ytaajndackdmbeaa
