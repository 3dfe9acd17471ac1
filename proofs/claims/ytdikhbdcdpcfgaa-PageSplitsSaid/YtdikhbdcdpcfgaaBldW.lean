/- (*strings.Builder).Write of a block's bytes. -/
import Derived.Test.YtdikhbdcdpcfgaaBldC
namespace Go.Proofs.Ytdikhbdcdpcfgaa
open Go.RowKit
set_option linter.unusedSimpArgs false
set_option linter.unusedVariables false

set_option maxHeartbeats 1000000 in
set_option maxRecDepth 100000 in
theorem bldWrite (B b g : Nat) (bs news : List Value) (w : World) (h : Lib.IsBuilderF 82 5 B b bs w) (hc : ∀ j u, news[j]? = some u → w.cell? ((⟨g, 0, none⟩ : Addr).add j) = some u) (h1 : ∀ u ∈ news, u.oneCell' = true)
    (hg : ∀ w', Below B w w' → Lib.OthersKept 5 (some b) w w' → ∀ j u, news[j]? = some u → w'.cell? ((⟨g, 0, none⟩ : Addr).add j) = some u) (hn : bs.length + news.length ≤ 140737488355328) (hB : B ≤ w.heap.size) :
    Calls Try.prog 55 #[.pointer (some ⟨b, 0, none⟩), .slice (some ⟨g, 0, none⟩) news.length news.length] w fun e w' => ∃ x, e = .returned (.tuple #[x, .nilIface]) ∧ Lib.BuilderAtF 82 5 B b (.pointer (some ⟨b, 0, none⟩)) (bs ++ news) w' ∧ Below B w w' ∧ Lib.OthersKept 5 (some b) w w' := by
  obtain ⟨i0, hi, hz0, hz1, hz2⟩ := info_parts byteInfo
  go_enter Try.func55, Try.ntmps55
  go_wp2_with (first
    | (go_at_call 59; refine (copyCheck_b B b bs _ h).mono ?_; rintro e w1 ⟨rfl, hb1, hl1, hk1⟩
       obtain ⟨hBb, v, hbk, hown, hne⟩ := hb1
       have c0 : w1.cell? ⟨b, 0, none⟩ = some (.pointer (some ⟨b, 0, none⟩)) := by rw [Lib.cell_of_heap hbk]; rfl
       obtain ⟨ao, cap, rfl⟩ : ∃ ao cap, v = .slice ao bs.length cap := by
         rcases hown.2 with ⟨hv, h0⟩ | ⟨g, cap, cur, fz, hv, _⟩
         · exact ⟨none, 0, by rw [hv, h0]⟩
         · exact ⟨_, _, hv⟩
       have c1 : w1.cell? ⟨b, 1, none⟩ = some (.slice ao bs.length cap) := by rw [Lib.cell_of_heap hbk]; rfl)
    | (at_builtin; refine wpList_append_ownF _ rfl _ _ 57 rfl B 5 i0 (.int .u8 0) 1 1 Try.underlying57 hi hz0 hz1 hz2 rfl (by decide) _ _ _ rfl hown ⟨g, 0, none⟩ news.length news.length news rfl (by omega) (hg w1 hl1 hk1) h1 ?c3 ?c4 ?c5 ?_))
  case c3 => unfold maxLen; omega
  case c4 => omega
  case c5 => exact Nat.le_trans hB hl1.size
  intro v' w2 hown' hgrow _
  have hlt : b < w1.heap.size := (Array.getElem?_eq_some_iff.1 hbk).1
  have hbk2 := (hgrow.block b hlt (fun e => hne e.symm)).trans hbk
  have d0 : w2.cell? ⟨b, 0, none⟩ = some (.pointer (some ⟨b, 0, none⟩)) := by rw [Lib.cell_of_heap hbk2]; rfl
  have d1 : w2.cell? ⟨b, 1, none⟩ = some (.slice ao bs.length cap) := by rw [Lib.cell_of_heap hbk2]; rfl
  have f1 : w2.frozen? ⟨b, 1, none⟩ = false := Lib.frozen_of_heap hbk2 1
  have hk2 : Lib.OthersKept 5 (some b) w w2 := hk1.grown hgrow (Lib.ownsRowF_kind hown)
  have hl2 : Below B w w2 := hl1.grown hgrow (Nat.le_trans hB hl1.size) (fun k hk => (hown.lt k hk).1)
  obtain ⟨ao', cap', rfl⟩ : ∃ ao cap, v' = .slice ao (bs.length + news.length) cap := by
    rcases hown'.2 with ⟨hv, h0⟩ | ⟨g, cap, cur, fz, hv, _⟩
    · exact ⟨none, 0, by rw [hv, h0]⟩
    · exact ⟨_, _, hv⟩
  go_wp2
  go_ret2
  refine ⟨_, rfl, ?_, ?_, ?_⟩
  · exact Lib.BuilderAtF.put (T := 82) (e := 5) hBb hbk2 (bs' := bs ++ news) (by simpa using hown') (by decide)
  · exact hl2.setCell (p := ⟨b, 1, none⟩) hBb _
  · exact hk2.setCell ⟨b, 1, none⟩ rfl _
end Go.Proofs.Ytdikhbdcdpcfgaa
