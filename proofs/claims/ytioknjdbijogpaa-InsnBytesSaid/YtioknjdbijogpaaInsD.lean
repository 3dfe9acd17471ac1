/- Chapter 16: insn.decode and Decode, walked; plain laws of an instruction's bytes. -/
import Derived.Test.YtioknjdbijogpaaRefH
import Derived.Laws.Strings
namespace Go.Proofs.Ytioknjdbijogpaa
open Go.RowKit
set_option linter.unusedSimpArgs false
set_option linter.unusedVariables false

theorem res_cell {P : Program} {fn : Func} {p : Tmp} {ty : TypeId} {n : Nat} (h : fn.results = #[.cell p ty]) (hT : AggT P ty n)
    (tmps : Array Value) {w : World} {g : Nat} {cs : Array Value} {T' : TypeId} {fr : Nat × Nat} (hp : tmps.getD p undef = .pointer (some ⟨g, 0, none⟩)) (hg : w.heap[g]? = some (.cells cs T' fr)) (hn : cs.size = n) :
    (results fn tmps).run P w = .ok (.agg cs) w := by
  have hp' : tmps[p]?.getD undef = .pointer (some ⟨g, 0, none⟩) := by simpa using hp
  simp [results, h, hp', asAddr, run_load_agg hT hg hn]
theorem list8 (s : ByteArray) (h : s.size = 8) : s.data.toList = [byteAt s 0, byteAt s 1, byteAt s 2, byteAt s 3, byteAt s 4, byteAt s 5, byteAt s 6, byteAt s 7] := by
  have hl : s.data.toList.length = 8 := by rw [Array.length_toList]; exact h
  unfold byteAt
  generalize s.data.toList = l at hl
  match l, hl with
  | [a, b, c, d, e, f, g, i], _ => rfl
theorem page8 (s : ByteArray) (h : s.size = 8) : ∀ i, i < 8 → psetText zp 0 s i = byteAt s i := by
  intro i hi
  have hin : inPg 0 s.size := by unfold inPg; omega
  rw [psetText, if_pos hin]
  show pput zp 0 s.data.toList i = _
  have hl := list8 s h
  rw [hl]
  rcases (by omega : i = 0 ∨ i = 1 ∨ i = 2 ∨ i = 3 ∨ i = 4 ∨ i = 5 ∨ i = 6 ∨ i = 7) with rfl | rfl | rfl | rfl | rfl | rfl | rfl | rfl <;> simp [pput, upd]
theorem sg16 (v : Int) (h0 : 0 ≤ v) (h1 : v < 65536) : wrap64 (IntKind.i16.wrap v) = sg 32768 65536 v := by
  unfold sg
  have e : IntKind.i16.wrap v = if v ≥ 32768 then v - 65536 else v := by
    have e0 : IntKind.i16.wrap v = (if (true && decide (v % 65536 ≥ 32768)) = true then v % 65536 - 65536 else v % 65536) := rfl
    rw [e0, show v % 65536 = v from Int.emod_eq_of_lt h0 h1]
    by_cases c : v ≥ 32768
    · rw [if_pos c, if_pos (by simpa using c)]
    · rw [if_neg c, if_neg (by simpa using c)]
  rw [e]
  split <;> exact w64i _ (by omega) (by omega)
theorem sg32 (v : Int) (h0 : 0 ≤ v) (h1 : v < 4294967296) : wrap64 (wrap32 v) = sg 2147483648 4294967296 v := by
  unfold sg
  have e : wrap32 v = if v ≥ 2147483648 then v - 4294967296 else v := by
    unfold wrap32
    split <;> omega
  rw [e]
  split <;> exact w64i _ (by omega) (by omega)
set_option maxHeartbeats 2000000 in
set_option maxRecDepth 100000 in
theorem decode_is (s : ByteArray) (h : s.size = 8) (w : World) :
    Calls Try.prog 40 #[.string s] w fun e w' => e = .returned (.agg (inv (rd8 fun i => byteAt s i))) ∧ Below w.heap.size w w' := by
  have hSet := fun w => setText_any zp 0 s w
  have hp := page8 s h
  generalize psetText zp 0 s = p at hSet hp
  have v0 : pget p 0 1 = rd8 (fun i => byteAt s i) 0 := by
    rw [pget, if_pos (by unfold numPg; omega)]
    show 0 * 256 + ((p 0).toNat : Int) = _
    rw [hp 0 (by decide)]
    simp [rd8]
  have v1 : pget p 1 1 = ((byteAt s 1).toNat : Int) := by
    rw [pget, if_pos (by unfold numPg; omega)]
    show 0 * 256 + ((p 1).toNat : Int) = _
    rw [hp 1 (by decide)]
    simp
  have l1 := (byteAt s 1).toNat_lt
  have v2 : bits .and .i64 ((byteAt s 1).toNat : Int) 15 = rd8 (fun i => byteAt s i) 2 := by
    have := i64_mask ((byteAt s 1).toNat : Int) 4 (by decide)
    rw [show ((2 : Int) ^ 4 - 1) = 15 from rfl] at this
    rw [this]
    rfl
  have v3 : wrap64 (IntKind.i16.wrap (pget p 2 2)) = rd8 (fun i => byteAt s i) 3 := by
    have e : pget p 2 2 = ((byteAt s 2).toNat : Int) * 256 + ((byteAt s 3).toNat : Int) := by
      rw [pget, if_pos (by unfold numPg; omega)]
      show (0 * 256 + ((p 2).toNat : Int)) * 256 + ((p 3).toNat : Int) = _
      rw [hp 2 (by decide), hp 3 (by decide)]
      simp
    rw [e]
    have a2 := (byteAt s 2).toNat_lt
    have a3 := (byteAt s 3).toNat_lt
    exact sg16 _ (by omega) (by omega)
  have v4 : wrap64 (wrap32 (pget p 4 4)) = rd8 (fun i => byteAt s i) 4 := by
    have e : pget p 4 4 = ((((byteAt s 4).toNat : Int) * 256 + ((byteAt s 5).toNat : Int)) * 256 + ((byteAt s 6).toNat : Int)) * 256 + ((byteAt s 7).toNat : Int) := by
      rw [pget, if_pos (by unfold numPg; omega)]
      show (((0 * 256 + ((p 4).toNat : Int)) * 256 + ((p 5).toNat : Int)) * 256 + ((p 6).toNat : Int)) * 256 + ((p 7).toNat : Int) = _
      rw [hp 4 (by decide), hp 5 (by decide), hp 6 (by decide), hp 7 (by decide)]
      simp
    rw [e]
    have a4 := (byteAt s 4).toNat_lt
    have a5 := (byteAt s 5).toNat_lt
    have a6 := (byteAt s 6).toNat_lt
    have a7 := (byteAt s 7).toNat_lt
    exact sg32 _ (by omega) (by omega)
  have HV := Lib.hid (And.intro v0 (And.intro v1 (And.intro v2 (And.intro v3 v4))))
  clear v0 v1 v2 v3 v4 l1 hp
  have hG0 := fun w => get_any p 0 1 w
  have hG1 := fun w => get_any p 1 1 w
  have hG2 := fun w => get_any p 2 2 w
  have hG3 := fun w => get_any p 4 4 w
  have hSt := St.start w
  go_enter Try.func40, Try.ntmps40
  go_wp2_with (first
    | ((with_reducible refine ev_alloc hSt zX1 ?_); refine ⟨rfl, ?_⟩; intro gI wN hSt; (simp only [Act.put, List.setIfInBounds_toArray, List.set_cons_succ, List.set_cons_zero]))
    | ((with_reducible refine pg_build ?_); refine ⟨rfl, ?_⟩; (simp only [Act.put, List.setIfInBounds_toArray, List.set_cons_succ, List.set_cons_zero]))
    | (go_at_call 51; refine (hSet _).mono ?_; rintro e w1 ⟨rfl, hb9⟩; replace hSt := hSt.ext hb9)
    | ((with_reducible refine ev_alloc hSt zPg ?_); refine ⟨rfl, ?_⟩; intro gP wN hSt; (simp only [Act.put, List.setIfInBounds_toArray, List.set_cons_succ, List.set_cons_zero])) | ((with_reducible refine ev_store hSt aPg ?_); refine ⟨rfl, _, [], _, _, _, rfl, rfl, rfl, pgc_size _, pgc_size _, pgc_one _, ?_⟩; intro wN hSt; simp only [List.nil_append] at hSt; simp only [Act.put]) | ((with_reducible refine ev_load hSt aPg ?_); refine ⟨rfl, _, _, _, rfl, (by repeat (first | exact List.mem_cons_self .. | refine List.mem_cons_of_mem _ ?_)), pgc_size _, ?_⟩; (simp only [Act.put, List.setIfInBounds_toArray, List.set_cons_succ, List.set_cons_zero]))
    | (go_at_call 52; refine (hG1 _).mono ?_; rintro e w1 ⟨rfl, hb9⟩; replace hSt := hSt.ext hb9))
  refine wp_region_rel (S := fun w' => St w _ w') [10, 11, 12, 13, 14, 15, 16, 17, 18, 19, 20, 21, 22, 23, 24] mixed16 (by kernel_rfl) (by kernel_rfl) (by decide) (by kernel_rfl) (fun _ _ h k => h.ext k) hSt.drew ?_
  iterate 15 (refine rel_eq (v := ?_) ?_ ?_; rotate_left; (focus ((simp only [Lay, List.nil_append, List.cons_append, List.setIfInBounds_toArray, List.set_cons_succ, List.set_cons_zero]; intros; rename_i w9 hS hF; simp only [FactsE, List.nil_append, List.cons_append, List.toList_toArray, List.getElem?_cons_succ, List.getElem?_cons_zero] at hF; try (repeat (obtain ⟨rfl, hF⟩ := hF))); refine step_take rfl (of_decide_eq_true rfl) ?_; (have hSt := hS); go_wp2_with (first | ((with_reducible refine ev_load hSt aPg ?_); refine ⟨rfl, _, _, _, rfl, (by repeat (first | exact List.mem_cons_self .. | refine List.mem_cons_of_mem _ ?_)), pgc_size _, ?_⟩; (simp only [Act.put, List.setIfInBounds_toArray, List.set_cons_succ, List.set_cons_zero])) | (go_at_call 52; first | (with_reducible refine (hG0 _).mono ?_; rintro e w8 ⟨rfl, hb9⟩) | (with_reducible refine (hG1 _).mono ?_; rintro e w8 ⟨rfl, hb9⟩) | (with_reducible refine (hG2 _).mono ?_; rintro e w8 ⟨rfl, hb9⟩) | (with_reducible refine (hG3 _).mono ?_; rintro e w8 ⟨rfl, hb9⟩))); refine RQ_mk rfl ?_ ?_; (focus first | exact Below.refl _ _ | assumption); (focus (first | (simp only [Array.getD_eq_getD_getElem?, List.getElem?_toArray, List.getElem?_cons_succ, List.getElem?_cons_zero, Option.getD_some]; done) | (simp only [Array.getD_eq_getD_getElem?, List.getElem?_toArray, List.getElem?_cons_succ, List.getElem?_cons_zero, Option.getD_some]; rfl) | rfl)))))
  refine rel_end ?_
  (simp only [Lay, List.nil_append, List.cons_append, List.setIfInBounds_toArray, List.set_cons_succ, List.set_cons_zero]; intros; rename_i w9 hS hF; simp only [FactsA, List.nil_append, List.cons_append] at hF; try (repeat (obtain ⟨rfl, hF⟩ := hF)))
  have hSt := hS
  have hE : (#[.int .i64 (pget p 0 1), .int .i64 (pget p 1 1 / 16), .int .i64 (bits .and .i64 (pget p 1 1) 15), .int .i64 (wrap64 (IntKind.i16.wrap (pget p 2 2))), .int .i64 (wrap64 (wrap32 (pget p 4 4)))] : Array Value) = inv (rd8 fun i => byteAt s i) := by
    rw [HV.out.1, HV.out.2.1, HV.out.2.2.1, HV.out.2.2.2.1, HV.out.2.2.2.2]
    rfl
  rw [hE]
  go_wp2_with ((with_reducible refine ev_store hSt aX1 ?_); refine ⟨rfl, _, [_], _, _, _, rfl, rfl, rfl, rfl, rfl, (by simp [inv, Value.oneCell']), ?_⟩; intro wN hSt; simp only [List.nil_append, List.cons_append] at hSt; simp only [Act.put])
  refine bodyPost_ret (res_cell rfl aX1 _ rfl (hSt.blk (by repeat (first | exact List.mem_cons_self .. | refine List.mem_cons_of_mem _ ?_))) rfl) rfl ?_
  exact ⟨rfl, hSt.base⟩

theorem rd8_congr {b c : Nat → UInt8} (h : ∀ i, i < 8 → b i = c i) : rd8 b = rd8 c := by
  funext i
  unfold rd8
  split <;> simp [h]
theorem byteAt_ext (c : ByteArray) (a b j : Nat) (h : a + j < b) (hb : b ≤ c.size) : byteAt (c.extract a b) j = byteAt c (a + j) := by
  rw [← byteAt_eq _ j (by rw [ByteArray.size_extract]; omega), ← byteAt_eq c (a + j) (by omega)]
  show (c.extract a b).data[j]'_ = c.data[a + j]'_
  simp

/-- What Decode answers. -/
def DecP (B : Nat) (fs : List (Nat → Int)) (e : Ending) (w' : World) : Prop := if allB fs then ∃ v, e = .returned (.tuple #[v, .int .i64 0]) ∧ InRow 65 w' B v fs else e = .returned (.tuple #[.slice none 0 0, .int .i64 22])
theorem str_ne (c : ByteArray) (h : 0 < c.size) : (!c.toList.isEmpty) = true := by
  rw [ByteArray.toList_eq]
  have : c.data.toList.length ≠ 0 := by rw [Array.length_toList]; show c.size ≠ 0; omega
  cases hl : c.data.toList with
  | nil => rw [hl] at this; exact absurd rfl this
  | cons a l => rfl
theorem str_nil (c : ByteArray) (h : c.size = 0) : (!c.toList.isEmpty) = false := by
  have : c.data.toList = [] := List.eq_nil_of_length_eq_zero (by rw [Array.length_toList]; exact h)
  rw [ByteArray.toList_eq, this]
  rfl
set_option maxHeartbeats 2000000 in
set_option maxRecDepth 100000 in
theorem decode_good (s : ByteArray) (w : World) (hm : s.size % 8 = 0) (hn : s.size ≤ 512) :
    Calls Try.prog 24 #[.string s] w fun e w' => DecP w.heap.size (rdL s (s.size / 8)) e w' ∧ Below w.heap.size w w' := by
  obtain ⟨N, hN⟩ : ∃ N, s.size = 8 * N := ⟨s.size / 8, by omega⟩
  rw [show s.size / 8 = N from by omega]
  have hN64 : N ≤ 64 := by omega
  have e1 : ((s.size : Int) % 8 != 0) = false := by simp only [bne_eq_false_iff_eq]; omega
  have e2 : decide ((s.size : Int) > 512) = false := decide_eq_false (by omega)
  have e3 : decide (512 < s.size) = false := decide_eq_false (by omega)
  obtain ⟨i0, hi0, hz1, hz2, hz3⟩ := info_parts infoIn
  have HN := Lib.hid hN
  clear hm hN hn
  go_enter Try.func24, Try.ntmps24
  go_wp2
  go_loopw [0, 4] (fun c v wr => ∃ (k : Nat) (cs : ByteArray), k ≤ N ∧ c = .string cs ∧ Hid (cs.size + 8 * k = s.size ∧ ∀ j, j < cs.size → byteAt cs j = byteAt s (8 * k + j)) ∧ Below w.heap.size w wr ∧ InRow 65 wr w.heap.size v (rdL s k)) (fun c _ _ => match c with | .string cs => cs.size | _ => 0)
  case atStart => exact ⟨0, s, by omega, rfl, Lib.hid ⟨by omega, fun j _ => by rw [Nat.mul_zero, Nat.zero_add]⟩, Below.refl _ _, World.ownsRow_nil _ _ _ _⟩
  case round =>
    obtain ⟨k, cs, hk, rfl, hcs, hbw, hown⟩ := hrel
    have hHN := HN.out
    have hsz := hcs.out.1
    by_cases h : k = N
    · have hc0 : cs.size = 0 := by omega
      have te := str_nil cs hc0
      obtain rfl := h
      obtain ⟨A, cap, rfl, hcap, hsl⟩ := hown.slice
      have hlen := rdL_len s k
      have hAll := fun w hl => Right_is A (rdL s k) cap w hl (by omega)
      rw [hlen] at hAll hcap hown
      clear hHN hsz hc0
      cases hB : allB (rdL s k)
      · rw [hB] at hAll
        go_wp2_with (go_at_call 23; refine (hAll _ hsl).mono ?_; rintro e w1 ⟨rfl, hb9⟩)
        go_ret2
        refine ⟨?_, hbw.trans (hb9.mono hbw.size)⟩
        unfold DecP
        rw [if_neg (by simp [hB])]
        rfl
      · rw [hB] at hAll
        go_wp2_with (go_at_call 23; refine (hAll _ hsl).mono ?_; rintro e w1 ⟨rfl, hb9⟩)
        go_ret2
        refine ⟨?_, hbw.trans (hb9.mono hbw.size)⟩
        unfold DecP
        rw [if_pos hB]
        exact ⟨_, rfl, hown.below hb9⟩
    · have hlt : k < N := by omega
      have hc8 : 8 ≤ cs.size := by omega
      have hc8' : (8 : Int) ≤ cs.size := by omega
      have te := str_ne cs (by omega)
      have hD := fun w => decode_is (cs.extract 0 8) (by rw [ByteArray.size_extract]; omega) w
      have hF : (rd8 fun i => byteAt (cs.extract 0 8) i) = rd8 fun i => byteAt s (8 * k + i) := rd8_congr fun i hi => by
        rw [byteAt_ext cs 0 8 i (by omega) hc8, Nat.zero_add]
        exact hcs.out.2 i (by omega)
      rw [hF] at hD
      have hsn := rdL_succ s k
      clear hF
      have hnext : Hid ((cs.extract 8 cs.size).size + 8 * (k + 1) = s.size ∧ ∀ j, j < (cs.extract 8 cs.size).size → byteAt (cs.extract 8 cs.size) j = byteAt s (8 * (k + 1) + j)) := by
        refine Lib.hid ⟨by rw [ByteArray.size_extract]; omega, fun j hj => ?_⟩
        rw [ByteArray.size_extract] at hj
        rw [byteAt_ext cs 8 cs.size j (by omega) (Nat.le_refl _), hcs.out.2 (8 + j) (by omega)]
        congr 1
        omega
      have hlow : Hid ((cs.extract 8 cs.size).size < cs.size) := Lib.hid (by rw [ByteArray.size_extract]; omega)
      generalize (rd8 fun i => byteAt s (8 * k + i)) = F at hD hsn
      have HSN := Lib.hid hsn
      have hlen := rdL_len s k
      clear hHN hsz hsn
      go_wp2_with (first
        | (go_at_call 40; refine (hD _).mono ?_; rintro e w1 ⟨rfl, hb9⟩)
        | ((with_reducible refine in_slice65 ?_); refine ⟨rfl, F, rfl, ?_⟩; (simp only [Act.put, List.setIfInBounds_toArray, List.set_cons_succ, List.set_cons_zero]))
        | (at_builtin; refine wpList_append_own_at _ rfl _ _ 37 rfl w.heap.size 65 i0 _ 5 40 Try.underlying37 hi0 hz1 hz2 hz3 rfl (by decide) _ _ _ rfl ((InRow.below hown hb9).alloc _) _ 1 1 (inv F).toList rfl (by rw [Array.length_toList, inv_size]) (insn_new _ _ _) (fun u hu => insn_one _ u hu) (by unfold maxLen; omega) (by omega) (Nat.le_trans hbw.size (Nat.le_trans hb9.size (by simp))) ?_; intro v' w2 hown' hgrow hnil hloc))
      refine ⟨⟨k + 1, _, by omega, rfl, hnext, ?_, ?_⟩, ?_⟩
      · exact ((hbw.trans (hb9.mono hbw.size)).alloc (Nat.le_trans hbw.size hb9.size) (.cells (inv F) 65)).grown hgrow (Nat.le_trans hbw.size (Nat.le_trans hb9.size (by simp))) (fun j hj => (hown.lt j hj).1)
      · unfold InRow
        rw [HSN.out, rowi_snoc, List.length_append]
        exact hown'
      · exact hlow.out

/-- What is right lies within these bounds. -/
theorem right_bounds (f : Nat → Int) (h : rightB f = true) : (0 ≤ f 0 ∧ f 0 ≤ 80) ∧ (0 ≤ f 1 ∧ f 1 < 8) ∧ (0 ≤ f 2 ∧ f 2 < 8) ∧ (-32768 ≤ f 3 ∧ f 3 < 32768) ∧ (-2147483648 ≤ f 4 ∧ f 4 < 2147483648) := by
  have h' : rbF (f 0) (f 1) (f 2) (f 3) (f 4) (shp (f 0)).1 (shp (f 0)).2.1 (shp (f 0)).2.2.1 (shp (f 0)).2.2.2.1 (shp (f 0)).2.2.2.2 = true := h
  rw [rbF_eq] at h'
  simp only [Bool.and_eq_true] at h'
  obtain ⟨hk, h1, h2, h3, h4, -⟩ := h'
  rw [shp_k, decide_eq_true_eq] at hk
  have fb : ∀ (n : Int) (u : Bool) (lo hi : Int), lo ≤ 0 → 0 < hi → fieldB n u lo hi = true → lo ≤ n ∧ n < hi := by
    intro n u lo hi hl hh hb
    unfold fieldB at hb
    cases u
    · simp at hb; omega
    · simpa using hb
  refine ⟨by omega, fb _ _ 0 8 (by decide) (by decide) h1, fb _ _ 0 8 (by decide) (by decide) h2, fb _ _ _ _ (by decide) (by decide) h3, fb _ _ _ _ (by decide) (by decide) h4⟩

theorem or_fin : ∀ d s : Fin 8, bits .or .i64 (wrap64 (((d.val : Nat) : Int) * 16)) ((s.val : Nat) : Int) = ((d.val : Nat) : Int) * 16 + ((s.val : Nat) : Int) := by decide +kernel
theorem or_is (a b : Int) (h0 : 0 ≤ a) (h1 : a < 8) (h2 : 0 ≤ b) (h3 : b < 8) : bits .or .i64 (wrap64 (a * 16)) b = a * 16 + b := by
  obtain ⟨x, rfl⟩ := Int.eq_ofNat_of_zero_le h0
  obtain ⟨y, rfl⟩ := Int.eq_ofNat_of_zero_le h2
  exact or_fin ⟨x, by omega⟩ ⟨y, by omega⟩

/-- An instruction's eight bytes. -/
def e8 (f : Nat → Int) : List UInt8 := [b8 (f 0), b8 (f 1 * 16 + f 2), b8 (f 3 / 256), b8 (f 3), b8 (f 4 / 16777216), b8 (f 4 / 65536), b8 (f 4 / 256), b8 (f 4)]
theorem enc8 (f : Nat → Int) (h : rightB f = true) : (encT f).data.toList = e8 f := by
  obtain ⟨-, h1, h2, -, -⟩ := right_bounds f h
  rw [encT_data, or_is _ _ h1.1 h1.2 h2.1 h2.2]
  have : ∀ a b c d : Int, (List.range 8).map (pset (pset (pset (pset zp 0 1 a) 1 1 b) 2 2 c) 4 4 d) = [b8 (a / 256 ^ 0), b8 (b / 256 ^ 0), b8 (c / 256 ^ 1), b8 (c / 256 ^ 0), b8 (d / 256 ^ 3), b8 (d / 256 ^ 2), b8 (d / 256 ^ 1), b8 (d / 256 ^ 0)] := fun a b c d => rfl
  rw [this]
  simp [e8]
theorem lw8 (f : Nat → Int) (h : rightB f = true) (s : ByteArray) : (s ++ lw0 f ++ lw1 f ++ lw2 f ++ lw3 f).data.toList = s.data.toList ++ e8 f := by
  obtain ⟨-, h1, h2, -, -⟩ := right_bounds f h
  have w1 : wrap64 (wrap64 (f 1 * 16) + f 2) = f 1 * 16 + f 2 := by
    rw [w64i (f 1 * 16) (by omega) (by omega), w64i _ (by omega) (by omega)]
  simp only [ByteArray.data_append, Array.toList_append, lw0, lw1, lw2, lw3, strOfNums_data, w1]
  simp [e8, b8]

theorem encR_eq (fs : List (Nat → Int)) (h : fs.all rightB = true) : encR fs = ⟨(encL fs).toArray⟩ := by
  have key : ∀ (fs : List (Nat → Int)) (s : ByteArray), fs.all rightB = true → (fs.foldl (fun s f => s ++ lw0 f ++ lw1 f ++ lw2 f ++ lw3 f) s).data.toList = s.data.toList ++ encL fs := by
    intro fs
    induction fs with
    | nil => intro s _; simp [encL]
    | cons f fs ih =>
      intro s hs
      simp only [List.all_cons, Bool.and_eq_true] at hs
      rw [List.foldl_cons, ih _ hs.2, lw8 f hs.1, List.append_assoc, ← enc8 f hs.1]
      rfl
  have := key fs ⟨#[]⟩ h
  apply ByteArray.ext
  apply Array.toList_inj.1
  exact this

theorem b8_toNat (x : Int) : ((b8 x).toNat : Int) = x % 256 := b8_nat x
/-- Eight bytes read back. -/
theorem rd8_e8 (f : Nat → Int) (h : rightB f = true) (b : Nat → UInt8) (hb : ∀ i (hi : i < 8), b i = (e8 f)[i]'hi) : inv (rd8 b) = inv f := by
  obtain ⟨h0, h1, h2, h3, h4⟩ := right_bounds f h
  have r0 := hb 0 (by decide)
  have r1 := hb 1 (by decide)
  have r2 := hb 2 (by decide)
  have r3 := hb 3 (by decide)
  have r4 := hb 4 (by decide)
  have r5 := hb 5 (by decide)
  have r6 := hb 6 (by decide)
  have r7 := hb 7 (by decide)
  simp only [e8, List.getElem_cons_zero, List.getElem_cons_succ] at r0 r1 r2 r3 r4 r5 r6 r7
  have q0 : rd8 b 0 = f 0 := by
    show ((b 0).toNat : Int) = _
    rw [r0, b8_nat]; omega
  have q1 : rd8 b 1 = f 1 := by
    show ((b 1).toNat : Int) / 16 = _
    rw [r1, b8_nat]; omega
  have q2 : rd8 b 2 = f 2 := by
    show ((b 1).toNat : Int) % 16 = _
    rw [r1, b8_nat]; omega
  have q3 : rd8 b 3 = f 3 := by
    show sg 32768 65536 (((b 2).toNat : Int) * 256 + ((b 3).toNat : Int)) = _
    rw [r2, r3, b8_nat, b8_nat]
    unfold sg
    split <;> omega
  have q4 : rd8 b 4 = f 4 := by
    show sg 2147483648 4294967296 (((((b 4).toNat : Int) * 256 + ((b 5).toNat : Int)) * 256 + ((b 6).toNat : Int)) * 256 + ((b 7).toNat : Int)) = _
    rw [r4, r5, r6, r7, b8_nat, b8_nat, b8_nat, b8_nat]
    unfold sg
    split <;> omega
  unfold inv
  rw [q0, q1, q2, q3, q4]

/-- Bytes whose instruction is right are that instruction's bytes. -/
theorem e8_rd8 (b : Nat → UInt8) : e8 (rd8 b) = [b 0, b 1, b 2, b 3, b 4, b 5, b 6, b 7] := by
  have hb : ∀ (x : Int) (u : UInt8), x % 256 = (u.toNat : Int) → b8 x = u := fun x u hx => by
    apply UInt8.toNat_inj.1
    have := b8_nat x
    omega
  have l : ∀ i, (b i).toNat < 256 := fun i => (b i).toNat_lt
  have l0 := l 0
  have l1 := l 1
  have l2 := l 2
  have l3 := l 3
  have l4 := l 4
  have l5 := l 5
  have l6 := l 6
  have l7 := l 7
  have q3 : rd8 b 3 = sg 32768 65536 (((b 2).toNat : Int) * 256 + ((b 3).toNat : Int)) := rfl
  have q4 : rd8 b 4 = sg 2147483648 4294967296 (((((b 4).toNat : Int) * 256 + ((b 5).toNat : Int)) * 256 + ((b 6).toNat : Int)) * 256 + ((b 7).toNat : Int)) := rfl
  unfold e8
  rw [q3, q4, hb (rd8 b 0) (b 0) (by show ((b 0).toNat : Int) % 256 = _; omega), hb (rd8 b 1 * 16 + rd8 b 2) (b 1) (by show (((b 1).toNat : Int) / 16 * 16 + ((b 1).toNat : Int) % 16) % 256 = _; omega)]
  rw [hb _ (b 2) (by unfold sg; split <;> omega), hb _ (b 3) (by unfold sg; split <;> omega)]
  rw [hb _ (b 4) (by unfold sg; split <;> omega), hb _ (b 5) (by unfold sg; split <;> omega), hb _ (b 6) (by unfold sg; split <;> omega), hb _ (b 7) (by unfold sg; split <;> omega)]
end Go.Proofs.Ytioknjdbijogpaa
