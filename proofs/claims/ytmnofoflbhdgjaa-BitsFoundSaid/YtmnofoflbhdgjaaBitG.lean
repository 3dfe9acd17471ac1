/- Chapter 07: awake. -/
import Derived.Test.YtmnofoflbhdgjaaBitF
namespace Go.Proofs.Ytmnofoflbhdgjaa
open Go.RowKit
set_option linter.unusedSimpArgs false
set_option linter.unusedVariables false

theorem aw_len : (setP [zp] 9 true).length = 1 := by kernel_rfl
theorem aw_byte : (((setP [zp] 9 true).getD 0 zp) 1).toNat = 2 := by kernel_rfl
theorem aw_get : getB (setP [zp] 9 true) 9 = true := by kernel_rfl
theorem aw_first : firstV (setP [zp] 9 true) 0 512 = 0 := by kernel_rfl
theorem aw_count : (fndA (setP [zp] 9 true) 0 512 true).length = 1 := by kernel_rfl
theorem pgSl_one {w : World} {g : Nat} {p : PgT} (hg : w.heap[g]? = some (.cells (pgc p) 39 (0, 0))) : PgSl w (some ⟨g, 0, none⟩) [p] := fun j hj => by
  have h0 : j = 0 := by simpa using hj
  subst h0
  refine ⟨_, rfl, fun i hi => ?_⟩
  rw [Addr.add_mid, Addr.add_mid, cell_of_row _ _ _ _ _ _ hg]
  simp only [Nat.zero_mul, Nat.zero_add]
  exact (pgc_get p i hi).trans rfl
set_option maxHeartbeats 2000000 in
set_option maxRecDepth 100000 in
theorem awake07 (w : World) : Calls Try.prog 26 #[] w fun e w' => e = .returned (.bool true) ∧ Below w.heap.size w w' := by
  obtain ⟨p1, hp1⟩ : ∃ p1, setP [zp] 9 true = p1 := ⟨_, rfl⟩
  have e1 := aw_len
  have e2 := aw_byte
  have e3 := aw_get
  have e4 := aw_first
  have e5 := aw_count
  rw [hp1] at e1 e2 e3 e4 e5
  have hSet := fun w hl => set_is 9 true (some ⟨w.heap.size - 1, 0, none⟩) [zp] 1 w (by decide) hl
  rw [hp1] at hSet
  have hSl := pgSl_one (heap_alloc_last w (.cells (pgc zp) 39))
  have hb0 : Below w.heap.size w (w.alloc (.cells (pgc zp) 39)) := (Below.refl _ _).alloc (Nat.le_refl _) _
  clear hSet
  have hSet := set_is 9 true (some ⟨w.heap.size, 0, none⟩) [zp] 1 (w.alloc (.cells (pgc zp) 39)) (by decide) hSl
  rw [hp1] at hSet
  go_enter Try.func26, Try.ntmps26
  go_upto_region 2 with (first
    | ((with_reducible refine pg_build ?_); refine ⟨rfl, ?_⟩; (simp only [Act.put, List.setIfInBounds_toArray, List.set_cons_succ, List.set_cons_zero]))
    | ((with_reducible refine pg_slice1 ?_); refine ⟨rfl, _, rfl, ?_⟩; (simp only [Act.put, List.setIfInBounds_toArray, List.set_cons_succ, List.set_cons_zero]))
    | (go_at_call 27; refine hSet.mono ?_; rintro e w1 ⟨v1, rfl, hR, hb⟩))
  obtain ⟨h, c0, cur0, hv1, hR1, hR2, hR3, hR4, hR5, hR6⟩ := hR.2.resolve_left (fun e => by have := e.2; omega)
  subst hv1
  have hcell := cell_row hR (q := 0) (a := 1) (by omega) (by decide)
  rw [e2, Nat.zero_mul, Nat.zero_add] at hcell
  obtain ⟨a2, c2, hv2, -, hs2⟩ := hR.slice
  cases hv2
  have hsl := hs2 _ hR
  have hG := fun w' hb' => get_is 9 _ p1 c0 w' (by omega) (hsl.ext hb')
  have hF := fun w' hb' => first_is 0 512 _ p1 c0 (by omega) w' (hsl.ext hb')
  have hC := fun w' hb' => count_is 0 512 _ p1 c0 (by omega) w' (hsl.ext hb')
  rw [e3] at hG
  simp only [e4] at hF
  simp only [e5] at hC
  rw [e1] at hG hF hC ⊢
  have hbx := Below.refl w1.heap.size w1
  clear hSl hSet hs2 hsl hR hR2 hR5 hR6
  go_wp2_with (first
    | (go_at_call 28; refine (hG _ hbx).mono ?_; rintro e w2 ⟨rfl, hb9⟩; replace hbx := hbx.trans (hb9.mono hbx.size))
    | (go_at_call 32; refine (hF _ hbx).mono ?_; rintro e w2 ⟨rfl, hb9⟩; replace hbx := hbx.trans (hb9.mono hbx.size))
    | (go_at_call 33; refine (hC _ hbx).mono ?_; rintro e w2 ⟨rfl, hb9⟩; replace hbx := hbx.trans (hb9.mono hbx.size)))
  go_ret
  have hb1 := hb0.trans (hb.mono hb0.size)
  exact ⟨rfl, hb1.trans (hbx.mono hb1.size)⟩
end Go.Proofs.Ytmnofoflbhdgjaa
