-- PRINTED BY print.sh 35421559b90ae4d0a3588c463048766b98c2df88dd9212a6774a882060cdf62d: not written by this session
import Derived.Test.YtdikhbdcdpcfgaaPPlanPlacesx0
import Derived.Test.YtdikhbdcdpcfgaaPPlanPlacesx1
import Derived.Test.YtdikhbdcdpcfgaaPPlanPlacesx2
namespace Go.Proofs.Ytdikhbdcdpcfgaa.PPlanPlaces
open Go.RowKit Go.Proofs.YtdikhbdcdpcfgaaW.PrintWords Go.Proofs.YtdikhbdcdpcfgaaW.PrintLast Go.Proofs.YtdikhbdcdpcfgaaW.PrintMore
attribute [local go_sem] max2_int min2_int max_two min_two max_three min_three max_four min_four   -- for this text's walks alone
set_option linter.unusedVariables false
set_option linter.unusedSimpArgs false

/-! ### narthexlaw08_PlanPlaces: function 6 -/
mutual
def narthexlaw08_PlanPlaces.j0 : Nat → Int → Int → Int → Int → Bool → Int → Int → Int → Int → Int → Option (Bool)
  | 0, _, _, _, _, _, _, _, _, _, _ => none
  | k + 1, x0, x2, x11, x12, x45, x149000, x149001, x154000, x154001, x154002 => if x45 = true then (if x11 = 0 then (if x12 = 0 then (narthexlaw08_PlanPlaces.j1 k x0 x2 x149000 x149001 x154000 x154001 x154002) else (some false)) else (some false)) else (if x11 = (wrap64 (43 + (wrap64 (Int.tdiv (wrap64 (x2 - 1)) 2)))) then (if x12 = (Int.tmod (wrap64 (x2 - 1)) 2) then (if x11 ≥ x154002 then (some false) else (narthexlaw08_PlanPlaces.j1 k x0 x2 x149000 x149001 x154000 x154001 x154002)) else (some false)) else (some false))
def narthexlaw08_PlanPlaces.j1 : Nat → Int → Int → Int → Int → Int → Int → Int → Option (Bool)
  | 0, _, _, _, _, _, _, _ => none
  | k + 1, x0, x2, x149000, x149001, x154000, x154001, x154002 => if x2 ≥ x154002 then (narthexlaw08_PlanPlaces.j2 k x0 x2 (-1) 0 (decide (x2 < x0)) x149000 x149001 x154000 x154001 x154002) else (narthexlaw08_PlanPlaces.j2 k x0 x2 (-1) 0 false x149000 x149001 x154000 x154001 x154002)
def narthexlaw08_PlanPlaces.j2 : Nat → Int → Int → Int → Int → Bool → Int → Int → Int → Int → Int → Option (Bool)
  | 0, _, _, _, _, _, _, _, _, _, _ => none
  | k + 1, x0, x2, x13, x14, x79, x149000, x149001, x154000, x154001, x154002 => if x79 = true then (narthexlaw08_PlanPlaces.j3 k x0 x2 (wrap64 (x2 - x154002)) x14 x149000 x149001 x154000 x154001 x154002) else (narthexlaw08_PlanPlaces.j3 k x0 x2 x13 x14 x149000 x149001 x154000 x154001 x154002)
def narthexlaw08_PlanPlaces.j3 : Nat → Int → Int → Int → Int → Int → Int → Int → Int → Int → Option (Bool)
  | 0, _, _, _, _, _, _, _, _, _ => none
  | k + 1, x0, x2, x13, x14, x149000, x149001, x154000, x154001, x154002 => if x2 ≥ 0 then (narthexlaw08_PlanPlaces.j4 k x2 x13 x14 (decide (x2 < (wrap64 (x0 - x154002)))) x149000 x149001 x154000 x154001 x154002) else (narthexlaw08_PlanPlaces.j4 k x2 x13 x14 false x149000 x149001 x154000 x154001 x154002)
def narthexlaw08_PlanPlaces.j4 : Nat → Int → Int → Int → Bool → Int → Int → Int → Int → Int → Option (Bool)
  | 0, _, _, _, _, _, _, _, _, _ => none
  | k + 1, x2, x13, x14, x93, x149000, x149001, x154000, x154001, x154002 => if x93 = true then ((plan_Plan_Bit.f x149000 x149001 x2).bind fun t156 => (if t156 = x13 then ((plan_Plan_At.f x149000 x149001 x2).bind fun t157 => (some (t157 == (wrap64 (x154002 + x2))))) else (some false))) else ((plan_Plan_Bit.f x149000 x149001 x2).bind fun t158 => (if t158 = x13 then ((plan_Plan_At.f x149000 x149001 x2).bind fun t159 => (some (t159 == x14))) else (some false)))
end
def narthexlaw08_PlanPlaces.f (k : Nat) (a0 : Int) (a1 : Int) (a2 : Int) : Option (Bool) := (narthexlaw08_awake.f).bind fun t144 => (if t144 = true then ((plan_New.f a0 a1).bind fun bt145 => ((narthexref08_New.f k a0 a1).bind fun bt149 => (if bt149.2.2.2 = true then ((plan_Plan_Place.f bt145.1 bt145.2.1 a2).bind fun bt154 => (if a2 < 1 then (narthexlaw08_PlanPlaces.j0 k a0 a2 bt154.1 bt154.2 true bt145.1 bt145.2.1 bt149.1 bt149.2.1 bt149.2.2.1) else (narthexlaw08_PlanPlaces.j0 k a0 a2 bt154.1 bt154.2 (decide (a2 > a1)) bt145.1 bt145.2.1 bt149.1 bt149.2.1 bt149.2.2.1))) else (some (bt145.2.2 != 0))))) else (some false))
theorem narthexlaw08_PlanPlaces.mono_l : ∀ k, (∀ y0 y1 y2 y3 y4 y5 y6 y7 y8 y9, LeO (narthexlaw08_PlanPlaces.j0 k y0 y1 y2 y3 y4 y5 y6 y7 y8 y9) (narthexlaw08_PlanPlaces.j0 (k + 1) y0 y1 y2 y3 y4 y5 y6 y7 y8 y9)) ∧ (∀ y0 y1 y2 y3 y4 y5 y6, LeO (narthexlaw08_PlanPlaces.j1 k y0 y1 y2 y3 y4 y5 y6) (narthexlaw08_PlanPlaces.j1 (k + 1) y0 y1 y2 y3 y4 y5 y6)) ∧ (∀ y0 y1 y2 y3 y4 y5 y6 y7 y8 y9, LeO (narthexlaw08_PlanPlaces.j2 k y0 y1 y2 y3 y4 y5 y6 y7 y8 y9) (narthexlaw08_PlanPlaces.j2 (k + 1) y0 y1 y2 y3 y4 y5 y6 y7 y8 y9)) ∧ (∀ y0 y1 y2 y3 y4 y5 y6 y7 y8, LeO (narthexlaw08_PlanPlaces.j3 k y0 y1 y2 y3 y4 y5 y6 y7 y8) (narthexlaw08_PlanPlaces.j3 (k + 1) y0 y1 y2 y3 y4 y5 y6 y7 y8)) ∧ (∀ y0 y1 y2 y3 y4 y5 y6 y7 y8, LeO (narthexlaw08_PlanPlaces.j4 k y0 y1 y2 y3 y4 y5 y6 y7 y8) (narthexlaw08_PlanPlaces.j4 (k + 1) y0 y1 y2 y3 y4 y5 y6 y7 y8))
  | 0 => ⟨fun _ _ _ _ _ _ _ _ _ _ r h => by simp [narthexlaw08_PlanPlaces.j0] at h, fun _ _ _ _ _ _ _ r h => by simp [narthexlaw08_PlanPlaces.j1] at h, fun _ _ _ _ _ _ _ _ _ _ r h => by simp [narthexlaw08_PlanPlaces.j2] at h, fun _ _ _ _ _ _ _ _ _ r h => by simp [narthexlaw08_PlanPlaces.j3] at h, fun _ _ _ _ _ _ _ _ _ r h => by simp [narthexlaw08_PlanPlaces.j4] at h⟩
  | k + 1 => by
    obtain ⟨ih0, ih1, ih2, ih3, ih4⟩ := narthexlaw08_PlanPlaces.mono_l k
    refine ⟨?_, ?_, ?_, ?_, ?_⟩
    · intro y0 y1 y2 y3 y4 y5 y6 y7 y8 y9
      unfold narthexlaw08_PlanPlaces.j0
      repeat' first
      | (with_reducible exact ih0 _ _ _ _ _ _ _ _ _ _)
      | (with_reducible exact ih1 _ _ _ _ _ _ _)
      | (with_reducible exact ih2 _ _ _ _ _ _ _ _ _ _)
      | (with_reducible exact ih3 _ _ _ _ _ _ _ _ _)
      | (with_reducible exact ih4 _ _ _ _ _ _ _ _ _)
      | (with_reducible exact narthexref08_New.mono _ _ _)
      | (with_reducible exact LeO.refl _)
      | (with_reducible exact LeO.none _)
      | (with_reducible refine LeO.ite ?_ ?_)
      | (with_reducible refine LeO.bind ?_ (fun _ => ?_))
      | exact ih0 _ _ _ _ _ _ _ _ _ _
      | exact ih1 _ _ _ _ _ _ _
      | exact ih2 _ _ _ _ _ _ _ _ _ _
      | exact ih3 _ _ _ _ _ _ _ _ _
      | exact ih4 _ _ _ _ _ _ _ _ _
      | exact narthexref08_New.mono _ _ _
      | exact LeO.none _
      | refine LeO.ite ?_ ?_
      | refine LeO.bind ?_ (fun _ => ?_)
    · intro y0 y1 y2 y3 y4 y5 y6
      unfold narthexlaw08_PlanPlaces.j1
      repeat' first
      | (with_reducible exact ih0 _ _ _ _ _ _ _ _ _ _)
      | (with_reducible exact ih1 _ _ _ _ _ _ _)
      | (with_reducible exact ih2 _ _ _ _ _ _ _ _ _ _)
      | (with_reducible exact ih3 _ _ _ _ _ _ _ _ _)
      | (with_reducible exact ih4 _ _ _ _ _ _ _ _ _)
      | (with_reducible exact narthexref08_New.mono _ _ _)
      | (with_reducible exact LeO.refl _)
      | (with_reducible exact LeO.none _)
      | (with_reducible refine LeO.ite ?_ ?_)
      | (with_reducible refine LeO.bind ?_ (fun _ => ?_))
      | exact ih0 _ _ _ _ _ _ _ _ _ _
      | exact ih1 _ _ _ _ _ _ _
      | exact ih2 _ _ _ _ _ _ _ _ _ _
      | exact ih3 _ _ _ _ _ _ _ _ _
      | exact ih4 _ _ _ _ _ _ _ _ _
      | exact narthexref08_New.mono _ _ _
      | exact LeO.none _
      | refine LeO.ite ?_ ?_
      | refine LeO.bind ?_ (fun _ => ?_)
    · intro y0 y1 y2 y3 y4 y5 y6 y7 y8 y9
      unfold narthexlaw08_PlanPlaces.j2
      repeat' first
      | (with_reducible exact ih0 _ _ _ _ _ _ _ _ _ _)
      | (with_reducible exact ih1 _ _ _ _ _ _ _)
      | (with_reducible exact ih2 _ _ _ _ _ _ _ _ _ _)
      | (with_reducible exact ih3 _ _ _ _ _ _ _ _ _)
      | (with_reducible exact ih4 _ _ _ _ _ _ _ _ _)
      | (with_reducible exact narthexref08_New.mono _ _ _)
      | (with_reducible exact LeO.refl _)
      | (with_reducible exact LeO.none _)
      | (with_reducible refine LeO.ite ?_ ?_)
      | (with_reducible refine LeO.bind ?_ (fun _ => ?_))
      | exact ih0 _ _ _ _ _ _ _ _ _ _
      | exact ih1 _ _ _ _ _ _ _
      | exact ih2 _ _ _ _ _ _ _ _ _ _
      | exact ih3 _ _ _ _ _ _ _ _ _
      | exact ih4 _ _ _ _ _ _ _ _ _
      | exact narthexref08_New.mono _ _ _
      | exact LeO.none _
      | refine LeO.ite ?_ ?_
      | refine LeO.bind ?_ (fun _ => ?_)
    · intro y0 y1 y2 y3 y4 y5 y6 y7 y8
      unfold narthexlaw08_PlanPlaces.j3
      repeat' first
      | (with_reducible exact ih0 _ _ _ _ _ _ _ _ _ _)
      | (with_reducible exact ih1 _ _ _ _ _ _ _)
      | (with_reducible exact ih2 _ _ _ _ _ _ _ _ _ _)
      | (with_reducible exact ih3 _ _ _ _ _ _ _ _ _)
      | (with_reducible exact ih4 _ _ _ _ _ _ _ _ _)
      | (with_reducible exact narthexref08_New.mono _ _ _)
      | (with_reducible exact LeO.refl _)
      | (with_reducible exact LeO.none _)
      | (with_reducible refine LeO.ite ?_ ?_)
      | (with_reducible refine LeO.bind ?_ (fun _ => ?_))
      | exact ih0 _ _ _ _ _ _ _ _ _ _
      | exact ih1 _ _ _ _ _ _ _
      | exact ih2 _ _ _ _ _ _ _ _ _ _
      | exact ih3 _ _ _ _ _ _ _ _ _
      | exact ih4 _ _ _ _ _ _ _ _ _
      | exact narthexref08_New.mono _ _ _
      | exact LeO.none _
      | refine LeO.ite ?_ ?_
      | refine LeO.bind ?_ (fun _ => ?_)
    · intro y0 y1 y2 y3 y4 y5 y6 y7 y8
      unfold narthexlaw08_PlanPlaces.j4
      repeat' first
      | (with_reducible exact ih0 _ _ _ _ _ _ _ _ _ _)
      | (with_reducible exact ih1 _ _ _ _ _ _ _)
      | (with_reducible exact ih2 _ _ _ _ _ _ _ _ _ _)
      | (with_reducible exact ih3 _ _ _ _ _ _ _ _ _)
      | (with_reducible exact ih4 _ _ _ _ _ _ _ _ _)
      | (with_reducible exact narthexref08_New.mono _ _ _)
      | (with_reducible exact LeO.refl _)
      | (with_reducible exact LeO.none _)
      | (with_reducible refine LeO.ite ?_ ?_)
      | (with_reducible refine LeO.bind ?_ (fun _ => ?_))
      | exact ih0 _ _ _ _ _ _ _ _ _ _
      | exact ih1 _ _ _ _ _ _ _
      | exact ih2 _ _ _ _ _ _ _ _ _ _
      | exact ih3 _ _ _ _ _ _ _ _ _
      | exact ih4 _ _ _ _ _ _ _ _ _
      | exact narthexref08_New.mono _ _ _
      | exact LeO.none _
      | refine LeO.ite ?_ ?_
      | refine LeO.bind ?_ (fun _ => ?_)
theorem narthexlaw08_PlanPlaces.mono : ∀ a0 a1 a2 k, LeO (narthexlaw08_PlanPlaces.f k a0 a1 a2) (narthexlaw08_PlanPlaces.f (k + 1) a0 a1 a2) := by
  intro a0 a1 a2 k
  obtain ⟨ih0, ih1, ih2, ih3, ih4⟩ := narthexlaw08_PlanPlaces.mono_l k
  unfold narthexlaw08_PlanPlaces.f
  repeat' first
      | (with_reducible exact ih0 _ _ _ _ _ _ _ _ _ _)
      | (with_reducible exact ih1 _ _ _ _ _ _ _)
      | (with_reducible exact ih2 _ _ _ _ _ _ _ _ _ _)
      | (with_reducible exact ih3 _ _ _ _ _ _ _ _ _)
      | (with_reducible exact ih4 _ _ _ _ _ _ _ _ _)
      | (with_reducible exact narthexref08_New.mono _ _ _)
      | (with_reducible exact LeO.refl _)
      | (with_reducible exact LeO.none _)
      | (with_reducible refine LeO.ite ?_ ?_)
      | (with_reducible refine LeO.bind ?_ (fun _ => ?_))
      | exact ih0 _ _ _ _ _ _ _ _ _ _
      | exact ih1 _ _ _ _ _ _ _
      | exact ih2 _ _ _ _ _ _ _ _ _ _
      | exact ih3 _ _ _ _ _ _ _ _ _
      | exact ih4 _ _ _ _ _ _ _ _ _
      | exact narthexref08_New.mono _ _ _
      | exact LeO.none _
      | refine LeO.ite ?_ ?_
      | refine LeO.bind ?_ (fun _ => ?_)
set_option maxHeartbeats 8000000 in
set_option maxRecDepth 100000 in
theorem narthexlaw08_PlanPlaces.calls (k : Nat) (a0 : Int) (a1 : Int) (a2 : Int) (r : Bool) (w : World) (h : narthexlaw08_PlanPlaces.f k a0 a1 a2 = some r) :
    Calls Try.prog 6 #[.int .i64 a0, .int .i64 a1, .int .i64 a2] w fun e w' => e = .returned (.bool r) ∧ Below w.heap.size w w' := by
  have hu34 := Try.underlying34
  have hu39 := Try.underlying39
  have HB := Aside0.mk (Below.refl w.heap.size w)
  have H : ((narthexlaw08_awake.f).bind fun t144 => (if t144 = true then ((plan_New.f a0 a1).bind fun bt145 => ((narthexref08_New.f k a0 a1).bind fun bt149 => (if bt149.2.2.2 = true then ((plan_Plan_Place.f bt145.1 bt145.2.1 a2).bind fun bt154 => (if a2 < 1 then (narthexlaw08_PlanPlaces.j0 k a0 a2 bt154.1 bt154.2 true bt145.1 bt145.2.1 bt149.1 bt149.2.1 bt149.2.2.1) else (narthexlaw08_PlanPlaces.j0 k a0 a2 bt154.1 bt154.2 (decide (a2 > a1)) bt145.1 bt145.2.1 bt149.1 bt149.2.1 bt149.2.2.1))) else (some (bt145.2.2 != 0))))) else (some false))) = some r := h
  clear h
  replace H := Option.bind_eq_some_iff.mp H
  obtain ⟨t144, A40, H⟩ := H
  replace H : (if t144 = true then ((plan_New.f a0 a1).bind fun bt145 => ((narthexref08_New.f k a0 a1).bind fun bt149 => (if bt149.2.2.2 = true then ((plan_Plan_Place.f bt145.1 bt145.2.1 a2).bind fun bt154 => (if a2 < 1 then (narthexlaw08_PlanPlaces.j0 k a0 a2 bt154.1 bt154.2 true bt145.1 bt145.2.1 bt149.1 bt149.2.1 bt149.2.2.1) else (narthexlaw08_PlanPlaces.j0 k a0 a2 bt154.1 bt154.2 (decide (a2 > a1)) bt145.1 bt145.2.1 bt149.1 bt149.2.1 bt149.2.2.1))) else (some (bt145.2.2 != 0))))) else (some false)) = some r := H
  have A4 := Aside0.mk A40
  clear A40
  by_cases c5 : t144 = true
  · subst c5
    have H1 : ((plan_New.f a0 a1).bind fun bt145 => ((narthexref08_New.f k a0 a1).bind fun bt149 => (if bt149.2.2.2 = true then ((plan_Plan_Place.f bt145.1 bt145.2.1 a2).bind fun bt154 => (if a2 < 1 then (narthexlaw08_PlanPlaces.j0 k a0 a2 bt154.1 bt154.2 true bt145.1 bt145.2.1 bt149.1 bt149.2.1 bt149.2.2.1) else (narthexlaw08_PlanPlaces.j0 k a0 a2 bt154.1 bt154.2 (decide (a2 > a1)) bt145.1 bt145.2.1 bt149.1 bt149.2.1 bt149.2.2.1))) else (some (bt145.2.2 != 0))))) = some r := by rw [if_pos rfl] at H; exact H
    clear H
    have H := H1
    clear H1
    replace H := Option.bind_eq_some_iff.mp H
    obtain ⟨⟨t145, t146, t147⟩, A60, H⟩ := H
    replace H : ((narthexref08_New.f k a0 a1).bind fun bt149 => (if bt149.2.2.2 = true then ((plan_Plan_Place.f t145 t146 a2).bind fun bt154 => (if a2 < 1 then (narthexlaw08_PlanPlaces.j0 k a0 a2 bt154.1 bt154.2 true t145 t146 bt149.1 bt149.2.1 bt149.2.2.1) else (narthexlaw08_PlanPlaces.j0 k a0 a2 bt154.1 bt154.2 (decide (a2 > a1)) t145 t146 bt149.1 bt149.2.1 bt149.2.2.1))) else (some (t147 != 0)))) = some r := H
    have A6 := Aside0.mk A60
    clear A60
    replace H := Option.bind_eq_some_iff.mp H
    obtain ⟨⟨t149, t150, t151, t152⟩, A70, H⟩ := H
    replace H : (if t152 = true then ((plan_Plan_Place.f t145 t146 a2).bind fun bt154 => (if a2 < 1 then (narthexlaw08_PlanPlaces.j0 k a0 a2 bt154.1 bt154.2 true t145 t146 t149 t150 t151) else (narthexlaw08_PlanPlaces.j0 k a0 a2 bt154.1 bt154.2 (decide (a2 > a1)) t145 t146 t149 t150 t151))) else (some (t147 != 0))) = some r := H
    have A7 := Aside0.mk A70
    clear A70
    by_cases c8 : t152 = true
    · subst c8
      have H1 : ((plan_Plan_Place.f t145 t146 a2).bind fun bt154 => (if a2 < 1 then (narthexlaw08_PlanPlaces.j0 k a0 a2 bt154.1 bt154.2 true t145 t146 t149 t150 t151) else (narthexlaw08_PlanPlaces.j0 k a0 a2 bt154.1 bt154.2 (decide (a2 > a1)) t145 t146 t149 t150 t151))) = some r := by rw [if_pos rfl] at H; exact H
      clear H
      have H := H1
      clear H1
      replace H := Option.bind_eq_some_iff.mp H
      obtain ⟨⟨t154, t155⟩, A90, H⟩ := H
      replace H : (if a2 < 1 then (narthexlaw08_PlanPlaces.j0 k a0 a2 t154 t155 true t145 t146 t149 t150 t151) else (narthexlaw08_PlanPlaces.j0 k a0 a2 t154 t155 (decide (a2 > a1)) t145 t146 t149 t150 t151)) = some r := H
      have A9 := Aside0.mk A90
      clear A90
      have HC10 := Aside0.mk H
      clear H
      go_enter Try.func6, Try.ntmps6
      go_upto_region 8 with (first | ((with_reducible refine gate_callee (f := 23) rfl ?_); refine goesL_ (some 15) rfl rfl Try.func23 (by kernel_rfl) rfl #[] rfl (by (try simp only [List.map_toArray, List.map_cons, List.map_nil]); first | done | rfl | (simp only [List.length_drop, List.length_take]; rfl)) ?_; (with_reducible refine (narthexlaw08_awake.calls  true _ A4.out).mono ?_); rintro e w11 ⟨rfl, hb⟩; refine ⟨_, rfl, ?_⟩; have n0_ := Aside0.mk (below_step (by repeat (first | (with_reducible first | exact HB.out | apply below_alloc | apply pw_below_drewN | apply below_drew1) | exact HB.out)) hb); clear HB; have HB := n0_; clear n0_; (try clear hb); (try clear hb2); (try clear hk); (try clear hi)) | ((with_reducible refine gate_callee (f := 24) rfl ?_); refine goesL_ (some 20) rfl rfl Try.func24 (by kernel_rfl) rfl #[.int .i64 a0, .int .i64 a1] rfl (by (try simp only [List.map_toArray, List.map_cons, List.map_nil]); first | done | rfl | (simp only [List.length_drop, List.length_take]; rfl)) ?_; (with_reducible refine (plan_New.calls a0 a1 t145 t146 t147 _ A6.out).mono ?_); rintro e w12 ⟨rfl, hb⟩; refine ⟨_, rfl, ?_⟩; have n0_ := Aside0.mk (below_step (by repeat (first | (with_reducible first | exact HB.out | apply below_alloc | apply pw_below_drewN | apply below_drew1) | exact HB.out)) hb); clear HB; have HB := n0_; clear n0_; (try clear hb); (try clear hb2); (try clear hk); (try clear hi)) | ((with_reducible refine gate_dst (N := 7) rfl ?_); refine box_event ?hg (N := 7) ?hd (cs := #[.int .i64 0, .int .i64 0]) (t := 34) ?hr ?_; (case hd => rfl); (case hg => rfl); (case hr => first | (go_simp; done) | (go_simp; rfl)); intro gb148 hg w13 hbox hb; have n0_ := Aside0.mk (below_step (by repeat (first | (with_reducible first | exact HB.out | apply below_alloc | apply pw_below_drewN | apply below_drew1) | exact HB.out)) hb); have n1_ := Aside0.mk (hbox); have n2_ := Aside0.mk ((by rw [hg]; exact (below_size (by repeat (first | (with_reducible first | exact HB.out | apply below_alloc | apply pw_below_drewN | apply below_drew1) | exact HB.out))) : w.heap.size ≤ gb148)); have n3_ := Aside0.mk ((by rw [hg]; exact (below_size (by repeat (first | (with_reducible first | exact HB.out | apply below_alloc | apply pw_below_drewN | apply below_drew1) | exact HB.out))) : w.heap.size ≤ gb148)); clear HB; have HB := n0_; have BK148 := n1_; have GW148 := n2_; have GE148 := n3_; clear n0_ n1_ n2_ n3_; clear hb hbox hg; have hcz14_0 : w13.cell? ⟨gb148, 0, none⟩ = some (.int .i64 0) := (blk_cell BK148.out 0).trans rfl; have hcz14_1 : w13.cell? ⟨gb148, 1, none⟩ = some (.int .i64 0) := (blk_cell BK148.out 1).trans rfl; have hfz14_0 := blk_frozen BK148.out 0; have hfz14_1 := blk_frozen BK148.out 1) | ((with_reducible refine gate_callee (f := 25) rfl ?_); refine goesL_ (some 26) rfl rfl Try.func25 (by kernel_rfl) rfl #[.int .i64 a0, .int .i64 a1] rfl (by (try simp only [List.map_toArray, List.map_cons, List.map_nil]); first | done | rfl | (simp only [List.length_drop, List.length_take]; rfl)) ?_; (with_reducible refine (narthexref08_New.calls k a0 a1 t149 t150 t151 true _ A7.out).mono ?_); rintro e w15 ⟨rfl, hb⟩; refine ⟨_, rfl, ?_⟩; have n0_ := Aside0.mk (blk_below (g := gb148) (o := .cells #[.int .i64 t145, .int .i64 t146] 34 (0, 0)) (by (with_reducible repeat (first | refine blk_drewN ?_ _ | refine blk_drew ?_ | refine blk_alloc ?_ _)); refine blk_put (cs := #[.int .i64 t145, .int .i64 0]) ?_ 1 _ rfl; (with_reducible repeat (first | refine blk_drewN ?_ _ | refine blk_drew ?_ | refine blk_alloc ?_ _)); refine blk_put (cs := #[.int .i64 0, .int .i64 0]) ?_ 0 _ rfl; (with_reducible repeat (first | refine blk_drewN ?_ _ | refine blk_drew ?_ | refine blk_alloc ?_ _)); exact BK148.out) hb); have n1_ := Aside0.mk (below_step (by repeat (first | (with_reducible first | exact HB.out | apply below_alloc | apply pw_below_drewN | apply below_drew1 | refine below_set ?_ GE148.out) | exact HB.out)) hb); clear BK148; clear HB; have BK148 := n0_; have HB := n1_; clear n0_ n1_; (try clear hb); (try clear hb2); (try clear hk); (try clear hi)) | ((with_reducible refine gate_dst (N := 9) rfl ?_); refine box_event ?hg (N := 9) ?hd (cs := #[.int .i64 0, .int .i64 0, .int .i64 0]) (t := 39) ?hr ?_; (case hd => rfl); (case hg => rfl); (case hr => first | (go_simp; done) | (go_simp; rfl)); intro gb153 hg w16 hbox hb; have n0_ := Aside0.mk (blk_below (g := gb148) (o := .cells #[.int .i64 t145, .int .i64 t146] 34 (0, 0)) (by (with_reducible repeat (first | refine blk_drewN ?_ _ | refine blk_drew ?_ | refine blk_alloc ?_ _)); exact BK148.out) hb); have n1_ := Aside0.mk (below_step (by repeat (first | (with_reducible first | exact HB.out | apply below_alloc | apply pw_below_drewN | apply below_drew1 | refine below_set ?_ GE148.out) | exact HB.out)) hb); have n2_ := Aside0.mk (hbox); have n3_ := Aside0.mk ((by rw [hg]; exact (below_size (by repeat (first | (with_reducible first | exact HB.out | apply below_alloc | apply pw_below_drewN | apply below_drew1 | refine below_set ?_ GE148.out) | exact HB.out))) : w.heap.size ≤ gb153)); have n4_ := Aside0.mk ((by rw [hg]; exact (below_size (by repeat (first | (with_reducible first | exact HB.out | apply below_alloc | apply pw_below_drewN | apply below_drew1 | refine below_set ?_ GE148.out) | exact HB.out))) : w.heap.size ≤ gb153)); have n5_ := Aside0.mk ((by rw [hg]; exact Nat.ne_of_lt (blk_lt (g := gb148) (o := .cells #[.int .i64 t145, .int .i64 t146] 34 (0, 0)) (by (with_reducible repeat (first | refine blk_drewN ?_ _ | refine blk_drew ?_ | refine blk_alloc ?_ _)); exact BK148.out)) : gb148 ≠ gb153)); have n6_ := Aside0.mk ((by rw [hg]; exact Nat.ne_of_gt (blk_lt (g := gb148) (o := .cells #[.int .i64 t145, .int .i64 t146] 34 (0, 0)) (by (with_reducible repeat (first | refine blk_drewN ?_ _ | refine blk_drew ?_ | refine blk_alloc ?_ _)); exact BK148.out)) : gb153 ≠ gb148)); clear BK148; clear HB; have BK148 := n0_; have HB := n1_; have BK153 := n2_; have GW153 := n3_; have GE153 := n4_; have NB148_153 := n5_; have NB153_148 := n6_; clear n0_ n1_ n2_ n3_ n4_ n5_ n6_; clear hb hbox hg; have hnb17 := NB153_148.out; have hnc17 := NB148_153.out; have hcz18_0 : w16.cell? ⟨gb153, 0, none⟩ = some (.int .i64 0) := (blk_cell BK153.out 0).trans rfl; have hcz18_1 : w16.cell? ⟨gb153, 1, none⟩ = some (.int .i64 0) := (blk_cell BK153.out 1).trans rfl; have hcz18_2 : w16.cell? ⟨gb153, 2, none⟩ = some (.int .i64 0) := (blk_cell BK153.out 2).trans rfl; have hfz18_0 := blk_frozen BK153.out 0; have hfz18_1 := blk_frozen BK153.out 1; have hfz18_2 := blk_frozen BK153.out 2; have hcz19_0 : w16.cell? ⟨gb148, 0, none⟩ = some (.int .i64 t145) := (blk_cell BK148.out 0).trans rfl; have hcz19_1 : w16.cell? ⟨gb148, 1, none⟩ = some (.int .i64 t146) := (blk_cell BK148.out 1).trans rfl; have hfz19_0 := blk_frozen BK148.out 0; have hfz19_1 := blk_frozen BK148.out 1) | ((with_reducible refine gate_callee (f := 26) rfl ?_); refine goesL_ (some 36) rfl rfl Try.func26 (by kernel_rfl) rfl #[.agg #[.int .i64 t145, .int .i64 t146], .int .i64 a2] rfl (by (try simp only [List.map_toArray, List.map_cons, List.map_nil]); first | done | rfl | (simp only [List.length_drop, List.length_take]; rfl)) ?_; (with_reducible refine (plan_Plan_Place.calls t145 t146 a2 t154 t155 _ A9.out).mono ?_); rintro e w20 ⟨rfl, hb⟩; refine ⟨_, rfl, ?_⟩; have n0_ := Aside0.mk (blk_below (g := gb148) (o := .cells #[.int .i64 t145, .int .i64 t146] 34 (0, 0)) (by (with_reducible repeat (first | refine blk_drewN ?_ _ | refine blk_drew ?_ | refine blk_alloc ?_ _)); refine blk_far ?_ NB148_153.out _; (with_reducible repeat (first | refine blk_drewN ?_ _ | refine blk_drew ?_ | refine blk_alloc ?_ _)); refine blk_far ?_ NB148_153.out _; (with_reducible repeat (first | refine blk_drewN ?_ _ | refine blk_drew ?_ | refine blk_alloc ?_ _)); refine blk_far ?_ NB148_153.out _; (with_reducible repeat (first | refine blk_drewN ?_ _ | refine blk_drew ?_ | refine blk_alloc ?_ _)); exact BK148.out) hb); have n1_ := Aside0.mk (blk_below (g := gb153) (o := .cells #[.int .i64 t149, .int .i64 t150, .int .i64 t151] 39 (0, 0)) (by (with_reducible repeat (first | refine blk_drewN ?_ _ | refine blk_drew ?_ | refine blk_alloc ?_ _)); refine blk_put (cs := #[.int .i64 t149, .int .i64 t150, .int .i64 0]) ?_ 2 _ rfl; (with_reducible repeat (first | refine blk_drewN ?_ _ | refine blk_drew ?_ | refine blk_alloc ?_ _)); refine blk_put (cs := #[.int .i64 t149, .int .i64 0, .int .i64 0]) ?_ 1 _ rfl; (with_reducible repeat (first | refine blk_drewN ?_ _ | refine blk_drew ?_ | refine blk_alloc ?_ _)); refine blk_put (cs := #[.int .i64 0, .int .i64 0, .int .i64 0]) ?_ 0 _ rfl; (with_reducible repeat (first | refine blk_drewN ?_ _ | refine blk_drew ?_ | refine blk_alloc ?_ _)); exact BK153.out) hb); have n2_ := Aside0.mk (below_step (by repeat (first | (with_reducible first | exact HB.out | apply below_alloc | apply pw_below_drewN | apply below_drew1 | refine below_set ?_ GE148.out | refine below_set ?_ GE153.out) | exact HB.out)) hb); clear BK148; clear BK153; clear HB; have BK148 := n0_; have BK153 := n1_; have HB := n2_; clear n0_ n1_ n2_; (try clear hb); (try clear hb2); (try clear hk); (try clear hi)))
      (try simp only [Act.put, List.setIfInBounds_toArray, List.set_cons_zero, List.set_cons_succ])
      go_cut [45] (fun v45 wc => ∃ (kq : Nat) (x45_9 : Bool), v45 = .bool x45_9 ∧ Aside0 (narthexlaw08_PlanPlaces.j0 kq a0 a2 t154 t155 x45_9 t145 t146 t149 t150 t151 = some r) ∧ Aside0 (kq ≤ k) ∧ Aside0 (wc.heap[gb148]? = some (.cells #[.int .i64 t145, .int .i64 t146] 34 (0, 0))) ∧ Aside0 (wc.heap[gb153]? = some (.cells #[.int .i64 t149, .int .i64 t150, .int .i64 t151] 39 (0, 0))) ∧ Aside0 (Below w.heap.size w wc))
      case first =>
        have H := HC10.out
        clear HC10
        by_cases c21 : a2 < 1
        · rw [if_pos c21] at H
          have c21b0 : decide (a2 < 1) = true := decide_eq_true c21
          clear c21
          (first | rw [c21b0] | (simp only [i64_w, i32_w]; rw [c21b0]) | skip)
          have H' := Aside0.mk H
          clear H
          go_wp2
          go_meet
          case rel => exact ⟨_, (true), (by first | rfl | (simp; done) | (simp [*]; done)), H', ⟨by first | omega | exact Nat.le_refl _⟩, ⟨by (with_reducible repeat (first | refine blk_drewN ?_ _ | refine blk_drew ?_ | refine blk_alloc ?_ _)); exact BK148.out⟩, ⟨by (with_reducible repeat (first | refine blk_drewN ?_ _ | refine blk_drew ?_ | refine blk_alloc ?_ _)); exact BK153.out⟩, ⟨by repeat (first | (with_reducible first | exact HB.out | apply below_alloc | apply pw_below_drewN | apply below_drew1 | refine below_set ?_ GE148.out | refine below_set ?_ GE153.out) | exact HB.out)⟩⟩
        · rw [if_neg c21] at H
          have c21b0 : decide (a2 < 1) = false := decide_eq_false c21
          clear c21
          (first | rw [c21b0] | (simp only [i64_w, i32_w]; rw [c21b0]) | skip)
          have H' := Aside0.mk H
          clear H
          go_wp2
          go_meet
          case rel => exact ⟨_, (decide (a2 > a1)), (by first | rfl | (simp; done) | (simp [*]; done)), H', ⟨by first | omega | exact Nat.le_refl _⟩, ⟨by (with_reducible repeat (first | refine blk_drewN ?_ _ | refine blk_drew ?_ | refine blk_alloc ?_ _)); exact BK148.out⟩, ⟨by (with_reducible repeat (first | refine blk_drewN ?_ _ | refine blk_drew ?_ | refine blk_alloc ?_ _)); exact BK153.out⟩, ⟨by repeat (first | (with_reducible first | exact HB.out | apply below_alloc | apply pw_below_drewN | apply below_drew1 | refine below_set ?_ GE148.out | refine below_set ?_ GE153.out) | exact HB.out)⟩⟩
      case rest =>
        clear HC10
        try clear c1
        try clear c2
        try clear p2
        try clear c5
        try clear c6
        try clear c8
        try clear c17
        try clear c21
        try clear c21b0
        try clear hcz14_0
        try clear hcz14_1
        try clear hcz18_0
        try clear hcz18_1
        try clear hcz18_2
        try clear hcz19_0
        try clear hcz19_1
        try clear hfz14_0
        try clear hfz14_1
        try clear hfz18_0
        try clear hfz18_1
        try clear hfz18_2
        try clear hfz19_0
        try clear hfz19_1
        obtain ⟨kq, x45_9, rfl, HA, HJ9, BK148, BK153, HB⟩ := hcut
        cases kq with
        | zero => exact absurd HA.out (by simp [narthexlaw08_PlanPlaces.j0])
        | succ kj9 =>
          have H := HA.out
          clear HA
          simp only [narthexlaw08_PlanPlaces.j0] at H
          have HC22 := Aside0.mk H
          clear H
          go_upto_if 45 with (fail)
          go_cut [] (fun wc => ∃ (kq : Nat), Aside0 (narthexlaw08_PlanPlaces.j1 kq a0 a2 t145 t146 t149 t150 t151 = some r) ∧ Aside0 (kq ≤ kj9) ∧ Aside0 (wc.heap[gb148]? = some (.cells #[.int .i64 t145, .int .i64 t146] 34 (0, 0))) ∧ Aside0 (wc.heap[gb153]? = some (.cells #[.int .i64 t149, .int .i64 t150, .int .i64 t151] 39 (0, 0))) ∧ Aside0 (Below w.heap.size w wc))
          case first =>
            have H := HC22.out
            clear HC22
            by_cases c23 : x45_9 = true
            · subst c23
              have H1 : (if t154 = 0 then (if t155 = 0 then (narthexlaw08_PlanPlaces.j1 kj9 a0 a2 t145 t146 t149 t150 t151) else (some false)) else (some false)) = some r := by rw [if_pos rfl] at H; exact H
              clear H
              have H := H1
              clear H1
              by_cases c24 : t154 = 0
              · rw [if_pos c24] at H
                have c24b0 : (t154 == 0) = true := beq_iff_eq.mpr c24
                have c24b1 : (t154 != 0) = false := bne_eq_false_iff_eq.mpr c24
                clear c24
                (first | rw [c24b0] | (simp only [i64_w, i32_w]; rw [c24b0]) | skip)
                by_cases c25 : t155 = 0
                · rw [if_pos c25] at H
                  have c25b0 : (t155 == 0) = true := beq_iff_eq.mpr c25
                  have c25b1 : (t155 != 0) = false := bne_eq_false_iff_eq.mpr c25
                  clear c25
                  have H' := Aside0.mk H
                  clear H
                  go_wp2
                  go_meet
                  case rel => exact ⟨_, H', ⟨by have := HJ9.out; first | omega | exact Nat.le_refl _⟩, ⟨by (with_reducible repeat (first | refine blk_drewN ?_ _ | refine blk_drew ?_ | refine blk_alloc ?_ _)); exact BK148.out⟩, ⟨by (with_reducible repeat (first | refine blk_drewN ?_ _ | refine blk_drew ?_ | refine blk_alloc ?_ _)); exact BK153.out⟩, ⟨by repeat (first | (with_reducible first | exact HB.out | apply below_alloc | apply pw_below_drewN | apply below_drew1 | refine below_set ?_ GE148.out | refine below_set ?_ GE153.out) | exact HB.out)⟩⟩
                · rw [if_neg c25] at H
                  have c25b0 : (t155 == 0) = false := beq_eq_false_iff_ne.mpr c25
                  have c25b1 : (t155 != 0) = true := bne_iff_ne.mpr c25
                  obtain rfl := Option.some.inj H
                  go_wp2
                  go_ret
                  exact ⟨by first | rfl | (simp [errW_none, errW_some] <;> rfl) | (simp [*, errW_none, errW_some] <;> rfl), by repeat (first | (with_reducible first | exact HB.out | apply below_alloc | apply pw_below_drewN | apply below_drew1 | refine below_set ?_ GE148.out | refine below_set ?_ GE153.out) | exact HB.out)⟩
              · rw [if_neg c24] at H
                have c24b0 : (t154 == 0) = false := beq_eq_false_iff_ne.mpr c24
                have c24b1 : (t154 != 0) = true := bne_iff_ne.mpr c24
                (first | rw [c24b0] | (simp only [i64_w, i32_w]; rw [c24b0]) | skip)
                obtain rfl := Option.some.inj H
                go_wp2
                go_ret
                exact ⟨by first | rfl | (simp [errW_none, errW_some] <;> rfl) | (simp [*, errW_none, errW_some] <;> rfl), by repeat (first | (with_reducible first | exact HB.out | apply below_alloc | apply pw_below_drewN | apply below_drew1 | refine below_set ?_ GE148.out | refine below_set ?_ GE153.out) | exact HB.out)⟩
            · replace c23 := Bool.eq_false_iff.mpr c23
              subst c23
              have H1 : (if t154 = (wrap64 (43 + (wrap64 (Int.tdiv (wrap64 (a2 - 1)) 2)))) then (if t155 = (Int.tmod (wrap64 (a2 - 1)) 2) then (if t154 ≥ t151 then (some false) else (narthexlaw08_PlanPlaces.j1 kj9 a0 a2 t145 t146 t149 t150 t151)) else (some false)) else (some false)) = some r := by rw [if_neg (show ¬ (false = true) by decide)] at H; exact H
              clear H
              have H := H1
              clear H1
              by_cases c26 : t154 = (wrap64 (43 + (wrap64 (Int.tdiv (wrap64 (a2 - 1)) 2))))
              · rw [if_pos c26] at H
                have c26b0 : (t154 == (wrap64 (43 + (wrap64 (Int.tdiv (wrap64 (a2 - 1)) 2))))) = true := beq_iff_eq.mpr c26
                have c26b1 : (t154 != (wrap64 (43 + (wrap64 (Int.tdiv (wrap64 (a2 - 1)) 2))))) = false := bne_eq_false_iff_eq.mpr c26
                clear c26
                by_cases c27 : t155 = (Int.tmod (wrap64 (a2 - 1)) 2)
                · rw [if_pos c27] at H
                  have c27b0 : (t155 == (Int.tmod (wrap64 (a2 - 1)) 2)) = true := beq_iff_eq.mpr c27
                  have c27b1 : (t155 != (Int.tmod (wrap64 (a2 - 1)) 2)) = false := bne_eq_false_iff_eq.mpr c27
                  clear c27
                  by_cases c28 : t154 ≥ t151
                  · rw [if_pos c28] at H
                    have c28b0 : decide (t151 ≤ t154) = true := decide_eq_true c28
                    clear c28
                    obtain rfl := Option.some.inj H
                    have hnb29 := NB153_148.out
                    have hnc29 := NB148_153.out
                    have hcz30_0 : wc.cell? ⟨gb153, 0, none⟩ = some (.int .i64 t149) := (blk_cell BK153.out 0).trans rfl
                    have hcz30_1 : wc.cell? ⟨gb153, 1, none⟩ = some (.int .i64 t150) := (blk_cell BK153.out 1).trans rfl
                    have hcz30_2 : wc.cell? ⟨gb153, 2, none⟩ = some (.int .i64 t151) := (blk_cell BK153.out 2).trans rfl
                    have hfz30_0 := blk_frozen BK153.out 0
                    have hfz30_1 := blk_frozen BK153.out 1
                    have hfz30_2 := blk_frozen BK153.out 2
                    go_wp2
                    go_ret
                    exact ⟨by first | rfl | (simp [errW_none, errW_some] <;> rfl) | (simp [*, errW_none, errW_some] <;> rfl), by repeat (first | (with_reducible first | exact HB.out | apply below_alloc | apply pw_below_drewN | apply below_drew1 | refine below_set ?_ GE148.out | refine below_set ?_ GE153.out) | exact HB.out)⟩
                  · rw [if_neg c28] at H
                    have c28b0 : decide (t151 ≤ t154) = false := decide_eq_false c28
                    clear c28
                    have H' := Aside0.mk H
                    clear H
                    have hnb31 := NB153_148.out
                    have hnc31 := NB148_153.out
                    have hcz32_0 : wc.cell? ⟨gb153, 0, none⟩ = some (.int .i64 t149) := (blk_cell BK153.out 0).trans rfl
                    have hcz32_1 : wc.cell? ⟨gb153, 1, none⟩ = some (.int .i64 t150) := (blk_cell BK153.out 1).trans rfl
                    have hcz32_2 : wc.cell? ⟨gb153, 2, none⟩ = some (.int .i64 t151) := (blk_cell BK153.out 2).trans rfl
                    have hfz32_0 := blk_frozen BK153.out 0
                    have hfz32_1 := blk_frozen BK153.out 1
                    have hfz32_2 := blk_frozen BK153.out 2
                    go_wp2
                    go_meet
                    case rel => exact ⟨_, H', ⟨by have := HJ9.out; first | omega | exact Nat.le_refl _⟩, ⟨by (with_reducible repeat (first | refine blk_drewN ?_ _ | refine blk_drew ?_ | refine blk_alloc ?_ _)); exact BK148.out⟩, ⟨by (with_reducible repeat (first | refine blk_drewN ?_ _ | refine blk_drew ?_ | refine blk_alloc ?_ _)); exact BK153.out⟩, ⟨by repeat (first | (with_reducible first | exact HB.out | apply below_alloc | apply pw_below_drewN | apply below_drew1 | refine below_set ?_ GE148.out | refine below_set ?_ GE153.out) | exact HB.out)⟩⟩
                · rw [if_neg c27] at H
                  have c27b0 : (t155 == (Int.tmod (wrap64 (a2 - 1)) 2)) = false := beq_eq_false_iff_ne.mpr c27
                  have c27b1 : (t155 != (Int.tmod (wrap64 (a2 - 1)) 2)) = true := bne_iff_ne.mpr c27
                  obtain rfl := Option.some.inj H
                  go_wp2
                  go_ret
                  exact ⟨by first | rfl | (simp [errW_none, errW_some] <;> rfl) | (simp [*, errW_none, errW_some] <;> rfl), by repeat (first | (with_reducible first | exact HB.out | apply below_alloc | apply pw_below_drewN | apply below_drew1 | refine below_set ?_ GE148.out | refine below_set ?_ GE153.out) | exact HB.out)⟩
              · rw [if_neg c26] at H
                have c26b0 : (t154 == (wrap64 (43 + (wrap64 (Int.tdiv (wrap64 (a2 - 1)) 2))))) = false := beq_eq_false_iff_ne.mpr c26
                have c26b1 : (t154 != (wrap64 (43 + (wrap64 (Int.tdiv (wrap64 (a2 - 1)) 2))))) = true := bne_iff_ne.mpr c26
                obtain rfl := Option.some.inj H
                go_wp2
                go_ret
                exact ⟨by first | rfl | (simp [errW_none, errW_some] <;> rfl) | (simp [*, errW_none, errW_some] <;> rfl), by repeat (first | (with_reducible first | exact HB.out | apply below_alloc | apply pw_below_drewN | apply below_drew1 | refine below_set ?_ GE148.out | refine below_set ?_ GE153.out) | exact HB.out)⟩
          case rest =>
            clear HC22
            try clear c1
            try clear c2
            try clear p2
            try clear c3
            try clear c5
            try clear c6
            try clear p6
            try clear c8
            try clear c17
            try clear c21
            try clear c21b0
            try clear c23
            try clear c24
            try clear c24b0
            try clear c24b1
            try clear c25
            try clear c25b0
            try clear c25b1
            try clear c26
            try clear c26b0
            try clear c26b1
            try clear c27
            try clear c27b0
            try clear c27b1
            try clear c28
            try clear c28b0
            try clear c29
            try clear c31
            try clear hcz14_0
            try clear hcz14_1
            try clear hcz18_0
            try clear hcz18_1
            try clear hcz18_2
            try clear hcz19_0
            try clear hcz19_1
            try clear hcz30_0
            try clear hcz30_1
            try clear hcz30_2
            try clear hcz32_0
            try clear hcz32_1
            try clear hcz32_2
            try clear hfz14_0
            try clear hfz14_1
            try clear hfz18_0
            try clear hfz18_1
            try clear hfz18_2
            try clear hfz19_0
            try clear hfz19_1
            try clear hfz30_0
            try clear hfz30_1
            try clear hfz30_2
            try clear hfz32_0
            try clear hfz32_1
            try clear hfz32_2
            try clear p2
            obtain ⟨kq, HA, HJ21, BK148, BK153, HB⟩ := hcut
            cases kq with
            | zero => exact absurd HA.out (by simp [narthexlaw08_PlanPlaces.j1])
            | succ kj21 =>
              have H := HA.out
              clear HA
              simp only [narthexlaw08_PlanPlaces.j1] at H
              have HC33 := Aside0.mk H
              clear H
              go_upto_region 14 with (fail)
              go_cut [79] (fun v79 wc => ∃ (kq : Nat) (x79_32 : Bool), v79 = .bool x79_32 ∧ Aside0 (narthexlaw08_PlanPlaces.j2 kq a0 a2 (-1) 0 x79_32 t145 t146 t149 t150 t151 = some r) ∧ Aside0 (kq ≤ kj21) ∧ Aside0 (wc.heap[gb148]? = some (.cells #[.int .i64 t145, .int .i64 t146] 34 (0, 0))) ∧ Aside0 (wc.heap[gb153]? = some (.cells #[.int .i64 t149, .int .i64 t150, .int .i64 t151] 39 (0, 0))) ∧ Aside0 (Below w.heap.size w wc))
              case first =>
                have H := HC33.out
                clear HC33
                by_cases c34 : a2 ≥ t151
                · rw [if_pos c34] at H
                  have c34b0 : decide (t151 ≤ a2) = true := decide_eq_true c34
                  clear c34
                  (first | rw [c34b0] | (simp only [i64_w, i32_w]; rw [c34b0]) | skip)
                  have H' := Aside0.mk H
                  clear H
                  have hnb35 := NB153_148.out
                  have hnc35 := NB148_153.out
                  have hcz36_0 : wc.cell? ⟨gb153, 0, none⟩ = some (.int .i64 t149) := (blk_cell BK153.out 0).trans rfl
                  have hcz36_1 : wc.cell? ⟨gb153, 1, none⟩ = some (.int .i64 t150) := (blk_cell BK153.out 1).trans rfl
                  have hcz36_2 : wc.cell? ⟨gb153, 2, none⟩ = some (.int .i64 t151) := (blk_cell BK153.out 2).trans rfl
                  have hfz36_0 := blk_frozen BK153.out 0
                  have hfz36_1 := blk_frozen BK153.out 1
                  have hfz36_2 := blk_frozen BK153.out 2
                  go_wp2
                  go_meet
                  case rel => exact ⟨_, (decide (a2 < a0)), (by first | rfl | (simp; done) | (simp [*]; done)), H', ⟨by have := HJ9.out; have := HJ21.out; first | omega | exact Nat.le_refl _⟩, ⟨by (with_reducible repeat (first | refine blk_drewN ?_ _ | refine blk_drew ?_ | refine blk_alloc ?_ _)); exact BK148.out⟩, ⟨by (with_reducible repeat (first | refine blk_drewN ?_ _ | refine blk_drew ?_ | refine blk_alloc ?_ _)); exact BK153.out⟩, ⟨by repeat (first | (with_reducible first | exact HB.out | apply below_alloc | apply pw_below_drewN | apply below_drew1 | refine below_set ?_ GE148.out | refine below_set ?_ GE153.out) | exact HB.out)⟩⟩
                · rw [if_neg c34] at H
                  have c34b0 : decide (t151 ≤ a2) = false := decide_eq_false c34
                  clear c34
                  (first | rw [c34b0] | (simp only [i64_w, i32_w]; rw [c34b0]) | skip)
                  have H' := Aside0.mk H
                  clear H
                  have hnb37 := NB153_148.out
                  have hnc37 := NB148_153.out
                  have hcz38_0 : wc.cell? ⟨gb153, 0, none⟩ = some (.int .i64 t149) := (blk_cell BK153.out 0).trans rfl
                  have hcz38_1 : wc.cell? ⟨gb153, 1, none⟩ = some (.int .i64 t150) := (blk_cell BK153.out 1).trans rfl
                  have hcz38_2 : wc.cell? ⟨gb153, 2, none⟩ = some (.int .i64 t151) := (blk_cell BK153.out 2).trans rfl
                  have hfz38_0 := blk_frozen BK153.out 0
                  have hfz38_1 := blk_frozen BK153.out 1
                  have hfz38_2 := blk_frozen BK153.out 2
                  go_wp2
                  go_meet
                  case rel => exact ⟨_, (false), (by first | rfl | (simp; done) | (simp [*]; done)), H', ⟨by have := HJ9.out; have := HJ21.out; first | omega | exact Nat.le_refl _⟩, ⟨by (with_reducible repeat (first | refine blk_drewN ?_ _ | refine blk_drew ?_ | refine blk_alloc ?_ _)); exact BK148.out⟩, ⟨by (with_reducible repeat (first | refine blk_drewN ?_ _ | refine blk_drew ?_ | refine blk_alloc ?_ _)); exact BK153.out⟩, ⟨by repeat (first | (with_reducible first | exact HB.out | apply below_alloc | apply pw_below_drewN | apply below_drew1 | refine below_set ?_ GE148.out | refine below_set ?_ GE153.out) | exact HB.out)⟩⟩
              case rest =>
                clear HC33
                try clear c1
                try clear c2
                try clear p2
                try clear c3
                try clear c5
                try clear c6
                try clear p6
                try clear c8
                try clear c17
                try clear c21
                try clear c21b0
                try clear c23
                try clear c24
                try clear c24b0
                try clear c24b1
                try clear c25
                try clear c25b0
                try clear c25b1
                try clear c26
                try clear c26b0
                try clear c26b1
                try clear c27
                try clear c27b0
                try clear c27b1
                try clear c28
                try clear c28b0
                try clear c29
                try clear c31
                try clear c34
                try clear c34b0
                try clear c35
                try clear c37
                try clear hcz14_0
                try clear hcz14_1
                try clear hcz18_0
                try clear hcz18_1
                try clear hcz18_2
                try clear hcz19_0
                try clear hcz19_1
                try clear hcz30_0
                try clear hcz30_1
                try clear hcz30_2
                try clear hcz32_0
                try clear hcz32_1
                try clear hcz32_2
                try clear hcz36_0
                try clear hcz36_1
                try clear hcz36_2
                try clear hcz38_0
                try clear hcz38_1
                try clear hcz38_2
                try clear hfz14_0
                try clear hfz14_1
                try clear hfz18_0
                try clear hfz18_1
                try clear hfz18_2
                try clear hfz19_0
                try clear hfz19_1
                try clear hfz30_0
                try clear hfz30_1
                try clear hfz30_2
                try clear hfz32_0
                try clear hfz32_1
                try clear hfz32_2
                try clear hfz36_0
                try clear hfz36_1
                try clear hfz36_2
                try clear hfz38_0
                try clear hfz38_1
                try clear hfz38_2
                try clear p2
                try clear p6
                obtain ⟨kq, x79_32, rfl, HA, HJ32, BK148, BK153, HB⟩ := hcut
                cases kq with
                | zero => exact absurd HA.out (by simp [narthexlaw08_PlanPlaces.j2])
                | succ kj32 =>
                  have H := HA.out
                  clear HA
                  simp only [narthexlaw08_PlanPlaces.j2] at H
                  have HC39 := Aside0.mk H
                  clear H
                  go_upto_if 79 with (fail)
                  go_cut [13] (fun v13 wc => ∃ (kq : Nat) (x13_38 : Int), v13 = .int .i64 x13_38 ∧ Aside0 (narthexlaw08_PlanPlaces.j3 kq a0 a2 x13_38 0 t145 t146 t149 t150 t151 = some r) ∧ Aside0 (kq ≤ kj32) ∧ Aside0 (wc.heap[gb148]? = some (.cells #[.int .i64 t145, .int .i64 t146] 34 (0, 0))) ∧ Aside0 (wc.heap[gb153]? = some (.cells #[.int .i64 t149, .int .i64 t150, .int .i64 t151] 39 (0, 0))) ∧ Aside0 (Below w.heap.size w wc))
                  case first =>
                    have H := HC39.out
                    clear HC39
                    by_cases c40 : x79_32 = true
                    · subst c40
                      have H1 : (narthexlaw08_PlanPlaces.j3 kj32 a0 a2 (wrap64 (a2 - t151)) 0 t145 t146 t149 t150 t151) = some r := by rw [if_pos rfl] at H; exact H
                      clear H
                      have H := H1
                      clear H1
                      have H' := Aside0.mk H
                      clear H
                      have hnb41 := NB153_148.out
                      have hnc41 := NB148_153.out
                      have hcz42_0 : wc.cell? ⟨gb153, 0, none⟩ = some (.int .i64 t149) := (blk_cell BK153.out 0).trans rfl
                      have hcz42_1 : wc.cell? ⟨gb153, 1, none⟩ = some (.int .i64 t150) := (blk_cell BK153.out 1).trans rfl
                      have hcz42_2 : wc.cell? ⟨gb153, 2, none⟩ = some (.int .i64 t151) := (blk_cell BK153.out 2).trans rfl
                      have hfz42_0 := blk_frozen BK153.out 0
                      have hfz42_1 := blk_frozen BK153.out 1
                      have hfz42_2 := blk_frozen BK153.out 2
                      go_wp2
                      go_meet
                      case rel => exact ⟨_, (wrap64 (a2 - t151)), (by first | rfl | (simp; done) | (simp [*]; done)), H', ⟨by have := HJ9.out; have := HJ21.out; have := HJ32.out; first | omega | exact Nat.le_refl _⟩, ⟨by (with_reducible repeat (first | refine blk_drewN ?_ _ | refine blk_drew ?_ | refine blk_alloc ?_ _)); exact BK148.out⟩, ⟨by (with_reducible repeat (first | refine blk_drewN ?_ _ | refine blk_drew ?_ | refine blk_alloc ?_ _)); exact BK153.out⟩, ⟨by repeat (first | (with_reducible first | exact HB.out | apply below_alloc | apply pw_below_drewN | apply below_drew1 | refine below_set ?_ GE148.out | refine below_set ?_ GE153.out) | exact HB.out)⟩⟩
                    · replace c40 := Bool.eq_false_iff.mpr c40
                      subst c40
                      have H1 : (narthexlaw08_PlanPlaces.j3 kj32 a0 a2 (-1) 0 t145 t146 t149 t150 t151) = some r := by rw [if_neg (show ¬ (false = true) by decide)] at H; exact H
                      clear H
                      have H := H1
                      clear H1
                      have H' := Aside0.mk H
                      clear H
                      go_wp2
                      go_meet
                      case rel => exact ⟨_, ((-1)), (by first | rfl | (simp; done) | (simp [*]; done)), H', ⟨by have := HJ9.out; have := HJ21.out; have := HJ32.out; first | omega | exact Nat.le_refl _⟩, ⟨by (with_reducible repeat (first | refine blk_drewN ?_ _ | refine blk_drew ?_ | refine blk_alloc ?_ _)); exact BK148.out⟩, ⟨by (with_reducible repeat (first | refine blk_drewN ?_ _ | refine blk_drew ?_ | refine blk_alloc ?_ _)); exact BK153.out⟩, ⟨by repeat (first | (with_reducible first | exact HB.out | apply below_alloc | apply pw_below_drewN | apply below_drew1 | refine below_set ?_ GE148.out | refine below_set ?_ GE153.out) | exact HB.out)⟩⟩
                  case rest =>
                    clear HC39
                    try clear c1
                    try clear c2
                    try clear p2
                    try clear c3
                    try clear c4
                    try clear c5
                    try clear c6
                    try clear p6
                    try clear c8
                    try clear c17
                    try clear c21
                    try clear c21b0
                    try clear c23
                    try clear c24
                    try clear c24b0
                    try clear c24b1
                    try clear c25
                    try clear c25b0
                    try clear c25b1
                    try clear c26
                    try clear c26b0
                    try clear c26b1
                    try clear c27
                    try clear c27b0
                    try clear c27b1
                    try clear c28
                    try clear c28b0
                    try clear c29
                    try clear c31
                    try clear c34
                    try clear c34b0
                    try clear c35
                    try clear c37
                    try clear c40
                    try clear c41
                    try clear hcz14_0
                    try clear hcz14_1
                    try clear hcz18_0
                    try clear hcz18_1
                    try clear hcz18_2
                    try clear hcz19_0
                    try clear hcz19_1
                    try clear hcz30_0
                    try clear hcz30_1
                    try clear hcz30_2
                    try clear hcz32_0
                    try clear hcz32_1
                    try clear hcz32_2
                    try clear hcz36_0
                    try clear hcz36_1
                    try clear hcz36_2
                    try clear hcz38_0
                    try clear hcz38_1
                    try clear hcz38_2
                    try clear hcz42_0
                    try clear hcz42_1
                    try clear hcz42_2
                    try clear hfz14_0
                    try clear hfz14_1
                    try clear hfz18_0
                    try clear hfz18_1
                    try clear hfz18_2
                    try clear hfz19_0
                    try clear hfz19_1
                    try clear hfz30_0
                    try clear hfz30_1
                    try clear hfz30_2
                    try clear hfz32_0
                    try clear hfz32_1
                    try clear hfz32_2
                    try clear hfz36_0
                    try clear hfz36_1
                    try clear hfz36_2
                    try clear hfz38_0
                    try clear hfz38_1
                    try clear hfz38_2
                    try clear hfz42_0
                    try clear hfz42_1
                    try clear hfz42_2
                    try clear p2
                    try clear p6
                    obtain ⟨kq, x13_38, rfl, HA, HJ38, BK148, BK153, HB⟩ := hcut
                    cases kq with
                    | zero => exact absurd HA.out (by simp [narthexlaw08_PlanPlaces.j3])
                    | succ kj38 =>
                      have H := HA.out
                      clear HA
                      simp only [narthexlaw08_PlanPlaces.j3] at H
                      have HC43 := Aside0.mk H
                      clear H
                      go_upto_region 16 with (fail)
                      go_cut [93] (fun v93 wc => ∃ (kq : Nat) (x93_42 : Bool), v93 = .bool x93_42 ∧ Aside0 (narthexlaw08_PlanPlaces.j4 kq a2 x13_38 0 x93_42 t145 t146 t149 t150 t151 = some r) ∧ Aside0 (kq ≤ kj38) ∧ Aside0 (wc.heap[gb148]? = some (.cells #[.int .i64 t145, .int .i64 t146] 34 (0, 0))) ∧ Aside0 (wc.heap[gb153]? = some (.cells #[.int .i64 t149, .int .i64 t150, .int .i64 t151] 39 (0, 0))) ∧ Aside0 (Below w.heap.size w wc))
                      case first =>
                        have H := HC43.out
                        clear HC43
                        by_cases c44 : a2 ≥ 0
                        · rw [if_pos c44] at H
                          have c44b0 : decide (0 ≤ a2) = true := decide_eq_true c44
                          clear c44
                          (first | rw [c44b0] | (simp only [i64_w, i32_w]; rw [c44b0]) | skip)
                          have H' := Aside0.mk H
                          clear H
                          have hnb45 := NB153_148.out
                          have hnc45 := NB148_153.out
                          have hcz46_0 : wc.cell? ⟨gb153, 0, none⟩ = some (.int .i64 t149) := (blk_cell BK153.out 0).trans rfl
                          have hcz46_1 : wc.cell? ⟨gb153, 1, none⟩ = some (.int .i64 t150) := (blk_cell BK153.out 1).trans rfl
                          have hcz46_2 : wc.cell? ⟨gb153, 2, none⟩ = some (.int .i64 t151) := (blk_cell BK153.out 2).trans rfl
                          have hfz46_0 := blk_frozen BK153.out 0
                          have hfz46_1 := blk_frozen BK153.out 1
                          have hfz46_2 := blk_frozen BK153.out 2
                          go_wp2
                          go_meet
                          case rel => exact ⟨_, (decide (a2 < (wrap64 (a0 - t151)))), (by first | rfl | (simp; done) | (simp [*]; done)), H', ⟨by have := HJ9.out; have := HJ21.out; have := HJ32.out; have := HJ38.out; first | omega | exact Nat.le_refl _⟩, ⟨by (with_reducible repeat (first | refine blk_drewN ?_ _ | refine blk_drew ?_ | refine blk_alloc ?_ _)); exact BK148.out⟩, ⟨by (with_reducible repeat (first | refine blk_drewN ?_ _ | refine blk_drew ?_ | refine blk_alloc ?_ _)); exact BK153.out⟩, ⟨by repeat (first | (with_reducible first | exact HB.out | apply below_alloc | apply pw_below_drewN | apply below_drew1 | refine below_set ?_ GE148.out | refine below_set ?_ GE153.out) | exact HB.out)⟩⟩
                        · rw [if_neg c44] at H
                          have c44b0 : decide (0 ≤ a2) = false := decide_eq_false c44
                          clear c44
                          (first | rw [c44b0] | (simp only [i64_w, i32_w]; rw [c44b0]) | skip)
                          have H' := Aside0.mk H
                          clear H
                          go_wp2
                          go_meet
                          case rel => exact ⟨_, (false), (by first | rfl | (simp; done) | (simp [*]; done)), H', ⟨by have := HJ9.out; have := HJ21.out; have := HJ32.out; have := HJ38.out; first | omega | exact Nat.le_refl _⟩, ⟨by (with_reducible repeat (first | refine blk_drewN ?_ _ | refine blk_drew ?_ | refine blk_alloc ?_ _)); exact BK148.out⟩, ⟨by (with_reducible repeat (first | refine blk_drewN ?_ _ | refine blk_drew ?_ | refine blk_alloc ?_ _)); exact BK153.out⟩, ⟨by repeat (first | (with_reducible first | exact HB.out | apply below_alloc | apply pw_below_drewN | apply below_drew1 | refine below_set ?_ GE148.out | refine below_set ?_ GE153.out) | exact HB.out)⟩⟩
                      case rest =>
                        clear HC43
                        try clear c1
                        try clear c2
                        try clear p2
                        try clear c3
                        try clear c4
                        try clear c5
                        try clear c6
                        try clear p6
                        try clear c8
                        try clear c17
                        try clear c21
                        try clear c21b0
                        try clear c23
                        try clear c24
                        try clear c24b0
                        try clear c24b1
                        try clear c25
                        try clear c25b0
                        try clear c25b1
                        try clear c26
                        try clear c26b0
                        try clear c26b1
                        try clear c27
                        try clear c27b0
                        try clear c27b1
                        try clear c28
                        try clear c28b0
                        try clear c29
                        try clear c31
                        try clear c34
                        try clear c34b0
                        try clear c35
                        try clear c37
                        try clear c40
                        try clear c41
                        try clear c44
                        try clear c44b0
                        try clear c45
                        try clear hcz14_0
                        try clear hcz14_1
                        try clear hcz18_0
                        try clear hcz18_1
                        try clear hcz18_2
                        try clear hcz19_0
                        try clear hcz19_1
                        try clear hcz30_0
                        try clear hcz30_1
                        try clear hcz30_2
                        try clear hcz32_0
                        try clear hcz32_1
                        try clear hcz32_2
                        try clear hcz36_0
                        try clear hcz36_1
                        try clear hcz36_2
                        try clear hcz38_0
                        try clear hcz38_1
                        try clear hcz38_2
                        try clear hcz42_0
                        try clear hcz42_1
                        try clear hcz42_2
                        try clear hcz46_0
                        try clear hcz46_1
                        try clear hcz46_2
                        try clear hfz14_0
                        try clear hfz14_1
                        try clear hfz18_0
                        try clear hfz18_1
                        try clear hfz18_2
                        try clear hfz19_0
                        try clear hfz19_1
                        try clear hfz30_0
                        try clear hfz30_1
                        try clear hfz30_2
                        try clear hfz32_0
                        try clear hfz32_1
                        try clear hfz32_2
                        try clear hfz36_0
                        try clear hfz36_1
                        try clear hfz36_2
                        try clear hfz38_0
                        try clear hfz38_1
                        try clear hfz38_2
                        try clear hfz42_0
                        try clear hfz42_1
                        try clear hfz42_2
                        try clear hfz46_0
                        try clear hfz46_1
                        try clear hfz46_2
                        try clear p2
                        try clear p6
                        obtain ⟨kq, x93_42, rfl, HA, HJ42, BK148, BK153, HB⟩ := hcut
                        cases kq with
                        | zero => exact absurd HA.out (by simp [narthexlaw08_PlanPlaces.j4])
                        | succ kj42 =>
                          have H := HA.out
                          clear HA
                          simp only [narthexlaw08_PlanPlaces.j4] at H
                          by_cases c47 : x93_42 = true
                          · subst c47
                            have H1 : ((plan_Plan_Bit.f t145 t146 a2).bind fun t156 => (if t156 = x13_38 then ((plan_Plan_At.f t145 t146 a2).bind fun t157 => (some (t157 == (wrap64 (t151 + a2))))) else (some false))) = some r := by rw [if_pos rfl] at H; exact H
                            clear H
                            have H := H1
                            clear H1
                            replace H := Option.bind_eq_some_iff.mp H
                            obtain ⟨t156, A480, H⟩ := H
                            replace H : (if t156 = x13_38 then ((plan_Plan_At.f t145 t146 a2).bind fun t157 => (some (t157 == (wrap64 (t151 + a2))))) else (some false)) = some r := H
                            have A48 := Aside0.mk A480
                            clear A480
                            by_cases c49 : t156 = x13_38
                            · rw [if_pos c49] at H
                              have c49b0 : (t156 == x13_38) = true := beq_iff_eq.mpr c49
                              have c49b1 : (t156 != x13_38) = false := bne_eq_false_iff_eq.mpr c49
                              clear c49
                              replace H := Option.bind_eq_some_iff.mp H
                              obtain ⟨t157, A500, H⟩ := H
                              replace H : (some (t157 == (wrap64 (t151 + a2)))) = some r := H
                              have A50 := Aside0.mk A500
                              clear A500
                              obtain rfl := Option.some.inj H
                              have hnb51 := NB153_148.out
                              have hnc51 := NB148_153.out
                              have hcz52_0 : wc.cell? ⟨gb153, 0, none⟩ = some (.int .i64 t149) := (blk_cell BK153.out 0).trans rfl
                              have hcz52_1 : wc.cell? ⟨gb153, 1, none⟩ = some (.int .i64 t150) := (blk_cell BK153.out 1).trans rfl
                              have hcz52_2 : wc.cell? ⟨gb153, 2, none⟩ = some (.int .i64 t151) := (blk_cell BK153.out 2).trans rfl
                              have hfz52_0 := blk_frozen BK153.out 0
                              have hfz52_1 := blk_frozen BK153.out 1
                              have hfz52_2 := blk_frozen BK153.out 2
                              have hcz53_0 : wc.cell? ⟨gb148, 0, none⟩ = some (.int .i64 t145) := (blk_cell BK148.out 0).trans rfl
                              have hcz53_1 : wc.cell? ⟨gb148, 1, none⟩ = some (.int .i64 t146) := (blk_cell BK148.out 1).trans rfl
                              have hfz53_0 := blk_frozen BK148.out 0
                              have hfz53_1 := blk_frozen BK148.out 1
                              go_wp2_with (first | ((with_reducible refine gate_callee (f := 27) rfl ?_); refine goesL_ (some 100) rfl rfl Try.func27 (by kernel_rfl) rfl #[.agg #[.int .i64 t145, .int .i64 t146], .int .i64 a2] rfl (by (try simp only [List.map_toArray, List.map_cons, List.map_nil]); first | done | rfl | (simp only [List.length_drop, List.length_take]; rfl)) ?_; (with_reducible refine (plan_Plan_Bit.calls t145 t146 a2 t156 _ A48.out).mono ?_); rintro e w54 ⟨rfl, hb⟩; refine ⟨_, rfl, ?_⟩; have n0_ := Aside0.mk (blk_below (g := gb148) (o := .cells #[.int .i64 t145, .int .i64 t146] 34 (0, 0)) (by (with_reducible repeat (first | refine blk_drewN ?_ _ | refine blk_drew ?_ | refine blk_alloc ?_ _)); exact BK148.out) hb); have n1_ := Aside0.mk (blk_below (g := gb153) (o := .cells #[.int .i64 t149, .int .i64 t150, .int .i64 t151] 39 (0, 0)) (by (with_reducible repeat (first | refine blk_drewN ?_ _ | refine blk_drew ?_ | refine blk_alloc ?_ _)); exact BK153.out) hb); have n2_ := Aside0.mk (below_step (by repeat (first | (with_reducible first | exact HB.out | apply below_alloc | apply pw_below_drewN | apply below_drew1 | refine below_set ?_ GE148.out | refine below_set ?_ GE153.out) | exact HB.out)) hb); clear BK148; clear BK153; clear HB; have BK148 := n0_; have BK153 := n1_; have HB := n2_; clear n0_ n1_ n2_; (try clear hb); (try clear hb2); (try clear hk); (try clear hi); have hcz55_0 : w54.cell? ⟨gb148, 0, none⟩ = some (.int .i64 t145) := (blk_cell BK148.out 0).trans rfl; have hcz55_1 : w54.cell? ⟨gb148, 1, none⟩ = some (.int .i64 t146) := (blk_cell BK148.out 1).trans rfl; have hfz55_0 := blk_frozen BK148.out 0; have hfz55_1 := blk_frozen BK148.out 1) | (go_at_call 28; (with_reducible refine (plan_Plan_At.calls t145 t146 a2 t157 _ A50.out).mono ?_); rintro e w56 ⟨rfl, hb⟩; have n0_ := Aside0.mk (blk_below (g := gb148) (o := .cells #[.int .i64 t145, .int .i64 t146] 34 (0, 0)) (by (with_reducible repeat (first | refine blk_drewN ?_ _ | refine blk_drew ?_ | refine blk_alloc ?_ _)); exact BK148.out) hb); have n1_ := Aside0.mk (blk_below (g := gb153) (o := .cells #[.int .i64 t149, .int .i64 t150, .int .i64 t151] 39 (0, 0)) (by (with_reducible repeat (first | refine blk_drewN ?_ _ | refine blk_drew ?_ | refine blk_alloc ?_ _)); exact BK153.out) hb); have n2_ := Aside0.mk (below_step (by repeat (first | (with_reducible first | exact HB.out | apply below_alloc | apply pw_below_drewN | apply below_drew1 | refine below_set ?_ GE148.out | refine below_set ?_ GE153.out) | exact HB.out)) hb); clear BK148; clear BK153; clear HB; have BK148 := n0_; have BK153 := n1_; have HB := n2_; clear n0_ n1_ n2_; (try clear hb); (try clear hb2); (try clear hk); (try clear hi)))
                              go_ret
                              exact ⟨by first | rfl | (simp [errW_none, errW_some] <;> rfl) | (simp [*, errW_none, errW_some] <;> rfl), by repeat (first | (with_reducible first | exact HB.out | apply below_alloc | apply pw_below_drewN | apply below_drew1 | refine below_set ?_ GE148.out | refine below_set ?_ GE153.out) | exact HB.out)⟩
                            · rw [if_neg c49] at H
                              have c49b0 : (t156 == x13_38) = false := beq_eq_false_iff_ne.mpr c49
                              have c49b1 : (t156 != x13_38) = true := bne_iff_ne.mpr c49
                              obtain rfl := Option.some.inj H
                              have hnb57 := NB153_148.out
                              have hnc57 := NB148_153.out
                              have hcz58_0 : wc.cell? ⟨gb153, 0, none⟩ = some (.int .i64 t149) := (blk_cell BK153.out 0).trans rfl
                              have hcz58_1 : wc.cell? ⟨gb153, 1, none⟩ = some (.int .i64 t150) := (blk_cell BK153.out 1).trans rfl
                              have hcz58_2 : wc.cell? ⟨gb153, 2, none⟩ = some (.int .i64 t151) := (blk_cell BK153.out 2).trans rfl
                              have hfz58_0 := blk_frozen BK153.out 0
                              have hfz58_1 := blk_frozen BK153.out 1
                              have hfz58_2 := blk_frozen BK153.out 2
                              have hcz59_0 : wc.cell? ⟨gb148, 0, none⟩ = some (.int .i64 t145) := (blk_cell BK148.out 0).trans rfl
                              have hcz59_1 : wc.cell? ⟨gb148, 1, none⟩ = some (.int .i64 t146) := (blk_cell BK148.out 1).trans rfl
                              have hfz59_0 := blk_frozen BK148.out 0
                              have hfz59_1 := blk_frozen BK148.out 1
                              go_wp2_with (first | ((with_reducible refine gate_callee (f := 27) rfl ?_); refine goesL_ (some 100) rfl rfl Try.func27 (by kernel_rfl) rfl #[.agg #[.int .i64 t145, .int .i64 t146], .int .i64 a2] rfl (by (try simp only [List.map_toArray, List.map_cons, List.map_nil]); first | done | rfl | (simp only [List.length_drop, List.length_take]; rfl)) ?_; (with_reducible refine (plan_Plan_Bit.calls t145 t146 a2 t156 _ A48.out).mono ?_); rintro e w60 ⟨rfl, hb⟩; refine ⟨_, rfl, ?_⟩; have n0_ := Aside0.mk (blk_below (g := gb148) (o := .cells #[.int .i64 t145, .int .i64 t146] 34 (0, 0)) (by (with_reducible repeat (first | refine blk_drewN ?_ _ | refine blk_drew ?_ | refine blk_alloc ?_ _)); exact BK148.out) hb); have n1_ := Aside0.mk (blk_below (g := gb153) (o := .cells #[.int .i64 t149, .int .i64 t150, .int .i64 t151] 39 (0, 0)) (by (with_reducible repeat (first | refine blk_drewN ?_ _ | refine blk_drew ?_ | refine blk_alloc ?_ _)); exact BK153.out) hb); have n2_ := Aside0.mk (below_step (by repeat (first | (with_reducible first | exact HB.out | apply below_alloc | apply pw_below_drewN | apply below_drew1 | refine below_set ?_ GE148.out | refine below_set ?_ GE153.out) | exact HB.out)) hb); clear BK148; clear BK153; clear HB; have BK148 := n0_; have BK153 := n1_; have HB := n2_; clear n0_ n1_ n2_; (try clear hb); (try clear hb2); (try clear hk); (try clear hi)))
                              go_ret
                              exact ⟨by first | rfl | (simp [errW_none, errW_some] <;> rfl) | (simp [*, errW_none, errW_some] <;> rfl), by repeat (first | (with_reducible first | exact HB.out | apply below_alloc | apply pw_below_drewN | apply below_drew1 | refine below_set ?_ GE148.out | refine below_set ?_ GE153.out) | exact HB.out)⟩
                          · replace c47 := Bool.eq_false_iff.mpr c47
                            subst c47
                            have H1 : ((plan_Plan_Bit.f t145 t146 a2).bind fun t158 => (if t158 = x13_38 then ((plan_Plan_At.f t145 t146 a2).bind fun t159 => (some (t159 == 0))) else (some false))) = some r := by rw [if_neg (show ¬ (false = true) by decide)] at H; exact H
                            clear H
                            have H := H1
                            clear H1
                            replace H := Option.bind_eq_some_iff.mp H
                            obtain ⟨t158, A610, H⟩ := H
                            replace H : (if t158 = x13_38 then ((plan_Plan_At.f t145 t146 a2).bind fun t159 => (some (t159 == 0))) else (some false)) = some r := H
                            have A61 := Aside0.mk A610
                            clear A610
                            by_cases c62 : t158 = x13_38
                            · rw [if_pos c62] at H
                              have c62b0 : (t158 == x13_38) = true := beq_iff_eq.mpr c62
                              have c62b1 : (t158 != x13_38) = false := bne_eq_false_iff_eq.mpr c62
                              clear c62
                              replace H := Option.bind_eq_some_iff.mp H
                              obtain ⟨t159, A630, H⟩ := H
                              replace H : (some (t159 == 0)) = some r := H
                              have A63 := Aside0.mk A630
                              clear A630
                              obtain rfl := Option.some.inj H
                              have hnb64 := NB148_153.out
                              have hnc64 := NB153_148.out
                              have hcz65_0 : wc.cell? ⟨gb148, 0, none⟩ = some (.int .i64 t145) := (blk_cell BK148.out 0).trans rfl
                              have hcz65_1 : wc.cell? ⟨gb148, 1, none⟩ = some (.int .i64 t146) := (blk_cell BK148.out 1).trans rfl
                              have hfz65_0 := blk_frozen BK148.out 0
                              have hfz65_1 := blk_frozen BK148.out 1
                              go_wp2_with (first | ((with_reducible refine gate_callee (f := 27) rfl ?_); refine goesL_ (some 100) rfl rfl Try.func27 (by kernel_rfl) rfl #[.agg #[.int .i64 t145, .int .i64 t146], .int .i64 a2] rfl (by (try simp only [List.map_toArray, List.map_cons, List.map_nil]); first | done | rfl | (simp only [List.length_drop, List.length_take]; rfl)) ?_; (with_reducible refine (plan_Plan_Bit.calls t145 t146 a2 t158 _ A61.out).mono ?_); rintro e w66 ⟨rfl, hb⟩; refine ⟨_, rfl, ?_⟩; have n0_ := Aside0.mk (blk_below (g := gb148) (o := .cells #[.int .i64 t145, .int .i64 t146] 34 (0, 0)) (by (with_reducible repeat (first | refine blk_drewN ?_ _ | refine blk_drew ?_ | refine blk_alloc ?_ _)); exact BK148.out) hb); have n1_ := Aside0.mk (blk_below (g := gb153) (o := .cells #[.int .i64 t149, .int .i64 t150, .int .i64 t151] 39 (0, 0)) (by (with_reducible repeat (first | refine blk_drewN ?_ _ | refine blk_drew ?_ | refine blk_alloc ?_ _)); exact BK153.out) hb); have n2_ := Aside0.mk (below_step (by repeat (first | (with_reducible first | exact HB.out | apply below_alloc | apply pw_below_drewN | apply below_drew1 | refine below_set ?_ GE148.out | refine below_set ?_ GE153.out) | exact HB.out)) hb); clear BK148; clear BK153; clear HB; have BK148 := n0_; have BK153 := n1_; have HB := n2_; clear n0_ n1_ n2_; (try clear hb); (try clear hb2); (try clear hk); (try clear hi); have hcz67_0 : w66.cell? ⟨gb148, 0, none⟩ = some (.int .i64 t145) := (blk_cell BK148.out 0).trans rfl; have hcz67_1 : w66.cell? ⟨gb148, 1, none⟩ = some (.int .i64 t146) := (blk_cell BK148.out 1).trans rfl; have hfz67_0 := blk_frozen BK148.out 0; have hfz67_1 := blk_frozen BK148.out 1) | (go_at_call 28; (with_reducible refine (plan_Plan_At.calls t145 t146 a2 t159 _ A63.out).mono ?_); rintro e w68 ⟨rfl, hb⟩; have n0_ := Aside0.mk (blk_below (g := gb148) (o := .cells #[.int .i64 t145, .int .i64 t146] 34 (0, 0)) (by (with_reducible repeat (first | refine blk_drewN ?_ _ | refine blk_drew ?_ | refine blk_alloc ?_ _)); exact BK148.out) hb); have n1_ := Aside0.mk (blk_below (g := gb153) (o := .cells #[.int .i64 t149, .int .i64 t150, .int .i64 t151] 39 (0, 0)) (by (with_reducible repeat (first | refine blk_drewN ?_ _ | refine blk_drew ?_ | refine blk_alloc ?_ _)); exact BK153.out) hb); have n2_ := Aside0.mk (below_step (by repeat (first | (with_reducible first | exact HB.out | apply below_alloc | apply pw_below_drewN | apply below_drew1 | refine below_set ?_ GE148.out | refine below_set ?_ GE153.out) | exact HB.out)) hb); clear BK148; clear BK153; clear HB; have BK148 := n0_; have BK153 := n1_; have HB := n2_; clear n0_ n1_ n2_; (try clear hb); (try clear hb2); (try clear hk); (try clear hi)))
                              go_ret
                              exact ⟨by first | rfl | (simp [errW_none, errW_some] <;> rfl) | (simp [*, errW_none, errW_some] <;> rfl), by repeat (first | (with_reducible first | exact HB.out | apply below_alloc | apply pw_below_drewN | apply below_drew1 | refine below_set ?_ GE148.out | refine below_set ?_ GE153.out) | exact HB.out)⟩
                            · rw [if_neg c62] at H
                              have c62b0 : (t158 == x13_38) = false := beq_eq_false_iff_ne.mpr c62
                              have c62b1 : (t158 != x13_38) = true := bne_iff_ne.mpr c62
                              obtain rfl := Option.some.inj H
                              have hnb69 := NB148_153.out
                              have hnc69 := NB153_148.out
                              have hcz70_0 : wc.cell? ⟨gb148, 0, none⟩ = some (.int .i64 t145) := (blk_cell BK148.out 0).trans rfl
                              have hcz70_1 : wc.cell? ⟨gb148, 1, none⟩ = some (.int .i64 t146) := (blk_cell BK148.out 1).trans rfl
                              have hfz70_0 := blk_frozen BK148.out 0
                              have hfz70_1 := blk_frozen BK148.out 1
                              go_wp2_with (first | ((with_reducible refine gate_callee (f := 27) rfl ?_); refine goesL_ (some 100) rfl rfl Try.func27 (by kernel_rfl) rfl #[.agg #[.int .i64 t145, .int .i64 t146], .int .i64 a2] rfl (by (try simp only [List.map_toArray, List.map_cons, List.map_nil]); first | done | rfl | (simp only [List.length_drop, List.length_take]; rfl)) ?_; (with_reducible refine (plan_Plan_Bit.calls t145 t146 a2 t158 _ A61.out).mono ?_); rintro e w71 ⟨rfl, hb⟩; refine ⟨_, rfl, ?_⟩; have n0_ := Aside0.mk (blk_below (g := gb148) (o := .cells #[.int .i64 t145, .int .i64 t146] 34 (0, 0)) (by (with_reducible repeat (first | refine blk_drewN ?_ _ | refine blk_drew ?_ | refine blk_alloc ?_ _)); exact BK148.out) hb); have n1_ := Aside0.mk (blk_below (g := gb153) (o := .cells #[.int .i64 t149, .int .i64 t150, .int .i64 t151] 39 (0, 0)) (by (with_reducible repeat (first | refine blk_drewN ?_ _ | refine blk_drew ?_ | refine blk_alloc ?_ _)); exact BK153.out) hb); have n2_ := Aside0.mk (below_step (by repeat (first | (with_reducible first | exact HB.out | apply below_alloc | apply pw_below_drewN | apply below_drew1 | refine below_set ?_ GE148.out | refine below_set ?_ GE153.out) | exact HB.out)) hb); clear BK148; clear BK153; clear HB; have BK148 := n0_; have BK153 := n1_; have HB := n2_; clear n0_ n1_ n2_; (try clear hb); (try clear hb2); (try clear hk); (try clear hi)))
                              go_ret
                              exact ⟨by first | rfl | (simp [errW_none, errW_some] <;> rfl) | (simp [*, errW_none, errW_some] <;> rfl), by repeat (first | (with_reducible first | exact HB.out | apply below_alloc | apply pw_below_drewN | apply below_drew1 | refine below_set ?_ GE148.out | refine below_set ?_ GE153.out) | exact HB.out)⟩
    · replace c8 := Bool.eq_false_iff.mpr c8
      subst c8
      have H1 : (some (t147 != 0)) = some r := by rw [if_neg (show ¬ (false = true) by decide)] at H; exact H
      clear H
      have H := H1
      clear H1
      obtain rfl := Option.some.inj H
      go_enter Try.func6, Try.ntmps6
      go_wp2_with (first | ((with_reducible refine gate_callee (f := 23) rfl ?_); refine goesL_ (some 15) rfl rfl Try.func23 (by kernel_rfl) rfl #[] rfl (by (try simp only [List.map_toArray, List.map_cons, List.map_nil]); first | done | rfl | (simp only [List.length_drop, List.length_take]; rfl)) ?_; (with_reducible refine (narthexlaw08_awake.calls  true _ A4.out).mono ?_); rintro e w72 ⟨rfl, hb⟩; refine ⟨_, rfl, ?_⟩; have n0_ := Aside0.mk (below_step (by repeat (first | (with_reducible first | exact HB.out | apply below_alloc | apply pw_below_drewN | apply below_drew1) | exact HB.out)) hb); clear HB; have HB := n0_; clear n0_; (try clear hb); (try clear hb2); (try clear hk); (try clear hi)) | ((with_reducible refine gate_callee (f := 24) rfl ?_); refine goesL_ (some 20) rfl rfl Try.func24 (by kernel_rfl) rfl #[.int .i64 a0, .int .i64 a1] rfl (by (try simp only [List.map_toArray, List.map_cons, List.map_nil]); first | done | rfl | (simp only [List.length_drop, List.length_take]; rfl)) ?_; (with_reducible refine (plan_New.calls a0 a1 t145 t146 t147 _ A6.out).mono ?_); rintro e w73 ⟨rfl, hb⟩; refine ⟨_, rfl, ?_⟩; have n0_ := Aside0.mk (below_step (by repeat (first | (with_reducible first | exact HB.out | apply below_alloc | apply pw_below_drewN | apply below_drew1) | exact HB.out)) hb); clear HB; have HB := n0_; clear n0_; (try clear hb); (try clear hb2); (try clear hk); (try clear hi)) | ((with_reducible refine gate_dst (N := 7) rfl ?_); refine box_event ?hg (N := 7) ?hd (cs := #[.int .i64 0, .int .i64 0]) (t := 34) ?hr ?_; (case hd => rfl); (case hg => rfl); (case hr => first | (go_simp; done) | (go_simp; rfl)); intro gb148 hg w74 hbox hb; have n0_ := Aside0.mk (below_step (by repeat (first | (with_reducible first | exact HB.out | apply below_alloc | apply pw_below_drewN | apply below_drew1) | exact HB.out)) hb); have n1_ := Aside0.mk (hbox); have n2_ := Aside0.mk ((by rw [hg]; exact (below_size (by repeat (first | (with_reducible first | exact HB.out | apply below_alloc | apply pw_below_drewN | apply below_drew1) | exact HB.out))) : w.heap.size ≤ gb148)); have n3_ := Aside0.mk ((by rw [hg]; exact (below_size (by repeat (first | (with_reducible first | exact HB.out | apply below_alloc | apply pw_below_drewN | apply below_drew1) | exact HB.out))) : w.heap.size ≤ gb148)); clear HB; have HB := n0_; have BK148 := n1_; have GW148 := n2_; have GE148 := n3_; clear n0_ n1_ n2_ n3_; clear hb hbox hg; have hcz75_0 : w74.cell? ⟨gb148, 0, none⟩ = some (.int .i64 0) := (blk_cell BK148.out 0).trans rfl; have hcz75_1 : w74.cell? ⟨gb148, 1, none⟩ = some (.int .i64 0) := (blk_cell BK148.out 1).trans rfl; have hfz75_0 := blk_frozen BK148.out 0; have hfz75_1 := blk_frozen BK148.out 1) | ((with_reducible refine gate_callee (f := 25) rfl ?_); refine goesL_ (some 26) rfl rfl Try.func25 (by kernel_rfl) rfl #[.int .i64 a0, .int .i64 a1] rfl (by (try simp only [List.map_toArray, List.map_cons, List.map_nil]); first | done | rfl | (simp only [List.length_drop, List.length_take]; rfl)) ?_; (with_reducible refine (narthexref08_New.calls k a0 a1 t149 t150 t151 false _ A7.out).mono ?_); rintro e w76 ⟨rfl, hb⟩; refine ⟨_, rfl, ?_⟩; have n0_ := Aside0.mk (blk_below (g := gb148) (o := .cells #[.int .i64 t145, .int .i64 t146] 34 (0, 0)) (by (with_reducible repeat (first | refine blk_drewN ?_ _ | refine blk_drew ?_ | refine blk_alloc ?_ _)); refine blk_put (cs := #[.int .i64 t145, .int .i64 0]) ?_ 1 _ rfl; (with_reducible repeat (first | refine blk_drewN ?_ _ | refine blk_drew ?_ | refine blk_alloc ?_ _)); refine blk_put (cs := #[.int .i64 0, .int .i64 0]) ?_ 0 _ rfl; (with_reducible repeat (first | refine blk_drewN ?_ _ | refine blk_drew ?_ | refine blk_alloc ?_ _)); exact BK148.out) hb); have n1_ := Aside0.mk (below_step (by repeat (first | (with_reducible first | exact HB.out | apply below_alloc | apply pw_below_drewN | apply below_drew1 | refine below_set ?_ GE148.out) | exact HB.out)) hb); clear BK148; clear HB; have BK148 := n0_; have HB := n1_; clear n0_ n1_; (try clear hb); (try clear hb2); (try clear hk); (try clear hi)) | ((with_reducible refine gate_dst (N := 9) rfl ?_); refine box_event ?hg (N := 9) ?hd (cs := #[.int .i64 0, .int .i64 0, .int .i64 0]) (t := 39) ?hr ?_; (case hd => rfl); (case hg => rfl); (case hr => first | (go_simp; done) | (go_simp; rfl)); intro gb153 hg w77 hbox hb; have n0_ := Aside0.mk (blk_below (g := gb148) (o := .cells #[.int .i64 t145, .int .i64 t146] 34 (0, 0)) (by (with_reducible repeat (first | refine blk_drewN ?_ _ | refine blk_drew ?_ | refine blk_alloc ?_ _)); exact BK148.out) hb); have n1_ := Aside0.mk (below_step (by repeat (first | (with_reducible first | exact HB.out | apply below_alloc | apply pw_below_drewN | apply below_drew1 | refine below_set ?_ GE148.out) | exact HB.out)) hb); have n2_ := Aside0.mk (hbox); have n3_ := Aside0.mk ((by rw [hg]; exact (below_size (by repeat (first | (with_reducible first | exact HB.out | apply below_alloc | apply pw_below_drewN | apply below_drew1 | refine below_set ?_ GE148.out) | exact HB.out))) : w.heap.size ≤ gb153)); have n4_ := Aside0.mk ((by rw [hg]; exact (below_size (by repeat (first | (with_reducible first | exact HB.out | apply below_alloc | apply pw_below_drewN | apply below_drew1 | refine below_set ?_ GE148.out) | exact HB.out))) : w.heap.size ≤ gb153)); have n5_ := Aside0.mk ((by rw [hg]; exact Nat.ne_of_lt (blk_lt (g := gb148) (o := .cells #[.int .i64 t145, .int .i64 t146] 34 (0, 0)) (by (with_reducible repeat (first | refine blk_drewN ?_ _ | refine blk_drew ?_ | refine blk_alloc ?_ _)); exact BK148.out)) : gb148 ≠ gb153)); have n6_ := Aside0.mk ((by rw [hg]; exact Nat.ne_of_gt (blk_lt (g := gb148) (o := .cells #[.int .i64 t145, .int .i64 t146] 34 (0, 0)) (by (with_reducible repeat (first | refine blk_drewN ?_ _ | refine blk_drew ?_ | refine blk_alloc ?_ _)); exact BK148.out)) : gb153 ≠ gb148)); clear BK148; clear HB; have BK148 := n0_; have HB := n1_; have BK153 := n2_; have GW153 := n3_; have GE153 := n4_; have NB148_153 := n5_; have NB153_148 := n6_; clear n0_ n1_ n2_ n3_ n4_ n5_ n6_; clear hb hbox hg; have hnb78 := NB153_148.out; have hnc78 := NB148_153.out; have hcz79_0 : w77.cell? ⟨gb153, 0, none⟩ = some (.int .i64 0) := (blk_cell BK153.out 0).trans rfl; have hcz79_1 : w77.cell? ⟨gb153, 1, none⟩ = some (.int .i64 0) := (blk_cell BK153.out 1).trans rfl; have hcz79_2 : w77.cell? ⟨gb153, 2, none⟩ = some (.int .i64 0) := (blk_cell BK153.out 2).trans rfl; have hfz79_0 := blk_frozen BK153.out 0; have hfz79_1 := blk_frozen BK153.out 1; have hfz79_2 := blk_frozen BK153.out 2))
      go_ret
      exact ⟨by first | rfl | (simp [errW_none, errW_some] <;> rfl) | (simp [*, errW_none, errW_some] <;> rfl), by repeat (first | (with_reducible first | exact HB.out | apply below_alloc | apply pw_below_drewN | apply below_drew1 | refine below_set ?_ GE148.out | refine below_set ?_ GE153.out) | exact HB.out)⟩
  · replace c5 := Bool.eq_false_iff.mpr c5
    subst c5
    have H1 : (some false) = some r := by rw [if_neg (show ¬ (false = true) by decide)] at H; exact H
    clear H
    have H := H1
    clear H1
    obtain rfl := Option.some.inj H
    go_enter Try.func6, Try.ntmps6
    go_wp2_with (first | ((with_reducible refine gate_callee (f := 23) rfl ?_); refine goesL_ (some 15) rfl rfl Try.func23 (by kernel_rfl) rfl #[] rfl (by (try simp only [List.map_toArray, List.map_cons, List.map_nil]); first | done | rfl | (simp only [List.length_drop, List.length_take]; rfl)) ?_; (with_reducible refine (narthexlaw08_awake.calls  false _ A4.out).mono ?_); rintro e w80 ⟨rfl, hb⟩; refine ⟨_, rfl, ?_⟩; have n0_ := Aside0.mk (below_step (by repeat (first | (with_reducible first | exact HB.out | apply below_alloc | apply pw_below_drewN | apply below_drew1) | exact HB.out)) hb); clear HB; have HB := n0_; clear n0_; (try clear hb); (try clear hb2); (try clear hk); (try clear hi)))
    go_ret
    exact ⟨by first | rfl | (simp [errW_none, errW_some] <;> rfl) | (simp [*, errW_none, errW_some] <;> rfl), by repeat (first | (with_reducible first | exact HB.out | apply below_alloc | apply pw_below_drewN | apply below_drew1) | exact HB.out)⟩

/-- THE ONE PURE STATEMENT of narthexlaw08_PlanPlaces: yours. -/
def narthexlaw08_PlanPlaces.Pure : Prop := ∀ (a0 : Int) (a1 : Int) (a2 : Int), (Lit.int .i64 a0).wf = true → (Lit.int .i64 a1).wf = true → (Lit.int .i64 a2).wf = true → ∃ k, narthexlaw08_PlanPlaces.f k a0 a1 a2 = some true
theorem narthexlaw08_PlanPlaces.walk (P : narthexlaw08_PlanPlaces.Pure) (a0 : Int) (a1 : Int) (a2 : Int) (w : World) (w0 : (Lit.int .i64 a0).wf = true) (w1 : (Lit.int .i64 a1).wf = true) (w2 : (Lit.int .i64 a2).wf = true) :
    Calls Try.prog 6 #[.int .i64 a0, .int .i64 a1, .int .i64 a2] w fun e w' => e = .returned (.bool true) ∧ Below w.heap.size w w' := by
  obtain ⟨k, h⟩ := P a0 a1 a2 w0 w1 w2
  refine (narthexlaw08_PlanPlaces.calls k a0 a1 a2 true w h).mono ?_
  rintro e w' ⟨rfl, hd⟩
  exact ⟨rfl, hd⟩

end Go.Proofs.Ytdikhbdcdpcfgaa.PPlanPlaces
