/-
  No cell of these rows narrows 'for every input' (looked for: loops, veiled, ifaces, maps, wideKeys, modest, calm, conditions, laid).
  DERIVED. THE GIVEN ROWS OF THIS SEAT. 11 by the template 'for every input the law returns true; each argument reads behind the call as it read before'; 0 by the template 'total and deterministic' (their statements: YtdikhbdcdpcfgaaTotals.lean).
  GIVEN WITH THE SEED: the statements are not yours to turn. If you find one false, say at which input.
  Laid BY PROGRAM, IN A SANDBOX (cutbox-rows.mjs): the forced cells as the released guide's own fill.sh prints them over the translation 646d52a25153fc5a… (all of the seat's roots in one cut). By AI agents, Wed Nov 11 2026. No macro, syntax, notation, axiom, sorry.
-/
import Derived.Test.YtdikhbdcdpcfgaaChecked
import GoSem.Claim
import GoSem.ClaimJoined
import GoSem.ClaimMapViews
import Derived.JoinedTies
import Derived.KernelRfl
namespace Go.Proofs.Ytdikhbdcdpcfgaa
/- THE CELL 'sum', in the pinned program and in every row, IS THE sha256 OF THE DUMP (.gsa) THAT YtdikhbdcdpcfgaaProg.lean LOADS. Nothing in Lean hashes anything: it is a label: what it is worth is what the hold of that sum in a sandbox is worth. -/
noncomputable def Try.pinned : Pinned := { name := "ytdikhbdcdpcfgaa", sum := "646d52a25153fc5ae1b1693329d20c4ad9d84b7e83d218c1bab056afc86ed4ce", checked := Try.checked }
namespace Rows
def none {H : Type} : Left H := { results := [], args := [] }

/-- 'narthexlaw02.PageNumbers': WHATEVER THE INPUT: true; the input reads as it did. -/
def pageNumbersSpec : ChangeSpec := { name := "pageNumbers", fn := fun _ => fun
  | [d1, d2, d3] => { results := [.lit (.bool true)], args := [d1, d2, d3] }
  | _ => none }
def pageNumbersRow : OpenClaim := { program := "ytdikhbdcdpcfgaa", sum := "646d52a25153fc5ae1b1693329d20c4ad9d84b7e83d218c1bab056afc86ed4ce", func := "narthex/narthexlaw02.PageNumbers", spec := "pageNumbers", apart := false }
def PageNumbersSaid : Prop := pageNumbersRow.holds Try.pinned (OpenSpec.ofChange pageNumbersSpec)

/-- ITS FALSE NEIGHBOUR: 'it returns false'. Refute it at one input. -/
def pageNumbersWrong : ChangeSpec := { name := "pageNumbers", fn := fun _ => fun
  | [d1, d2, d3] => { results := [.lit (.bool false)], args := [d1, d2, d3] }
  | _ => none }
def PageNumbersWrongFalsely : Prop := pageNumbersRow.holds Try.pinned (OpenSpec.ofChange pageNumbersWrong)

/-- 'narthexlaw02.PageBack': WHATEVER THE INPUT: true; the input reads as it did. -/
def pageBackSpec : ChangeSpec := { name := "pageBack", fn := fun _ => fun
  | [d1, d2, d3] => { results := [.lit (.bool true)], args := [d1, d2, d3] }
  | _ => none }
def pageBackRow : OpenClaim := { program := "ytdikhbdcdpcfgaa", sum := "646d52a25153fc5ae1b1693329d20c4ad9d84b7e83d218c1bab056afc86ed4ce", func := "narthex/narthexlaw02.PageBack", spec := "pageBack", apart := false }
def PageBackSaid : Prop := pageBackRow.holds Try.pinned (OpenSpec.ofChange pageBackSpec)

/-- ITS FALSE NEIGHBOUR: 'it returns false'. Refute it at one input. -/
def pageBackWrong : ChangeSpec := { name := "pageBack", fn := fun _ => fun
  | [d1, d2, d3] => { results := [.lit (.bool false)], args := [d1, d2, d3] }
  | _ => none }
def PageBackWrongFalsely : Prop := pageBackRow.holds Try.pinned (OpenSpec.ofChange pageBackWrong)

/-- 'narthexlaw02.PageTexts': WHATEVER THE INPUT: true; the input reads as it did. -/
def pageTextsSpec : ChangeSpec := { name := "pageTexts", fn := fun _ => fun
  | [d1, d2, d3] => { results := [.lit (.bool true)], args := [d1, d2, d3] }
  | _ => none }
def pageTextsRow : OpenClaim := { program := "ytdikhbdcdpcfgaa", sum := "646d52a25153fc5ae1b1693329d20c4ad9d84b7e83d218c1bab056afc86ed4ce", func := "narthex/narthexlaw02.PageTexts", spec := "pageTexts", apart := false }
def PageTextsSaid : Prop := pageTextsRow.holds Try.pinned (OpenSpec.ofChange pageTextsSpec)

/-- ITS FALSE NEIGHBOUR: 'it returns false'. Refute it at one input. -/
def pageTextsWrong : ChangeSpec := { name := "pageTexts", fn := fun _ => fun
  | [d1, d2, d3] => { results := [.lit (.bool false)], args := [d1, d2, d3] }
  | _ => none }
def PageTextsWrongFalsely : Prop := pageTextsRow.holds Try.pinned (OpenSpec.ofChange pageTextsWrong)

/-- 'narthexlaw08.PlanPlaces': WHATEVER THE INPUT: true; the input reads as it did. -/
def planPlacesSpec : ChangeSpec := { name := "planPlaces", fn := fun _ => fun
  | [d1, d2, d3] => { results := [.lit (.bool true)], args := [d1, d2, d3] }
  | _ => none }
def planPlacesRow : OpenClaim := { program := "ytdikhbdcdpcfgaa", sum := "646d52a25153fc5ae1b1693329d20c4ad9d84b7e83d218c1bab056afc86ed4ce", func := "narthex/narthexlaw08.PlanPlaces", spec := "planPlaces", apart := false }
def PlanPlacesSaid : Prop := planPlacesRow.holds Try.pinned (OpenSpec.ofChange planPlacesSpec)

/-- ITS FALSE NEIGHBOUR: 'it returns false'. Refute it at one input. -/
def planPlacesWrong : ChangeSpec := { name := "planPlaces", fn := fun _ => fun
  | [d1, d2, d3] => { results := [.lit (.bool false)], args := [d1, d2, d3] }
  | _ => none }
def PlanPlacesWrongFalsely : Prop := planPlacesRow.holds Try.pinned (OpenSpec.ofChange planPlacesWrong)

/-- 'narthexlaw04.HeadPages': WHATEVER THE INPUT: true; the input reads as it did. -/
def headPagesSpec : ChangeSpec := { name := "headPages", fn := fun _ => fun
  | [d] => { results := [.lit (.bool true)], args := [d] }
  | _ => none }
def headPagesRow : OpenClaim := { program := "ytdikhbdcdpcfgaa", sum := "646d52a25153fc5ae1b1693329d20c4ad9d84b7e83d218c1bab056afc86ed4ce", func := "narthex/narthexlaw04.HeadPages", spec := "headPages", apart := false }
def HeadPagesSaid : Prop := headPagesRow.holds Try.pinned (OpenSpec.ofChange headPagesSpec)

/-- ITS FALSE NEIGHBOUR: 'it returns false'. Refute it at one input. -/
def headPagesWrong : ChangeSpec := { name := "headPages", fn := fun _ => fun
  | [d] => { results := [.lit (.bool false)], args := [d] }
  | _ => none }
def HeadPagesWrongFalsely : Prop := headPagesRow.holds Try.pinned (OpenSpec.ofChange headPagesWrong)

/-- 'narthexlaw04.HeadTorn': WHATEVER THE INPUT: true; the input reads as it did. -/
def headTornSpec : ChangeSpec := { name := "headTorn", fn := fun _ => fun
  | [d1, d2, d3] => { results := [.lit (.bool true)], args := [d1, d2, d3] }
  | _ => none }
def headTornRow : OpenClaim := { program := "ytdikhbdcdpcfgaa", sum := "646d52a25153fc5ae1b1693329d20c4ad9d84b7e83d218c1bab056afc86ed4ce", func := "narthex/narthexlaw04.HeadTorn", spec := "headTorn", apart := false }
def HeadTornSaid : Prop := headTornRow.holds Try.pinned (OpenSpec.ofChange headTornSpec)

/-- ITS FALSE NEIGHBOUR: 'it returns false'. Refute it at one input. -/
def headTornWrong : ChangeSpec := { name := "headTorn", fn := fun _ => fun
  | [d1, d2, d3] => { results := [.lit (.bool false)], args := [d1, d2, d3] }
  | _ => none }
def HeadTornWrongFalsely : Prop := headTornRow.holds Try.pinned (OpenSpec.ofChange headTornWrong)

/-- 'narthexlaw04.HeadReads': WHATEVER THE INPUT: true; the input reads as it did. -/
def headReadsSpec : ChangeSpec := { name := "headReads", fn := fun _ => fun
  | [d1, d2] => { results := [.lit (.bool true)], args := [d1, d2] }
  | _ => none }
def headReadsRow : OpenClaim := { program := "ytdikhbdcdpcfgaa", sum := "646d52a25153fc5ae1b1693329d20c4ad9d84b7e83d218c1bab056afc86ed4ce", func := "narthex/narthexlaw04.HeadReads", spec := "headReads", apart := false }
def HeadReadsSaid : Prop := headReadsRow.holds Try.pinned (OpenSpec.ofChange headReadsSpec)

/-- ITS FALSE NEIGHBOUR: 'it returns false'. Refute it at one input. -/
def headReadsWrong : ChangeSpec := { name := "headReads", fn := fun _ => fun
  | [d1, d2] => { results := [.lit (.bool false)], args := [d1, d2] }
  | _ => none }
def HeadReadsWrongFalsely : Prop := headReadsRow.holds Try.pinned (OpenSpec.ofChange headReadsWrong)

/-- 'narthexlaw04.HeadNext': WHATEVER THE INPUT: true; the input reads as it did. -/
def headNextSpec : ChangeSpec := { name := "headNext", fn := fun _ => fun
  | [d1, d2] => { results := [.lit (.bool true)], args := [d1, d2] }
  | _ => none }
def headNextRow : OpenClaim := { program := "ytdikhbdcdpcfgaa", sum := "646d52a25153fc5ae1b1693329d20c4ad9d84b7e83d218c1bab056afc86ed4ce", func := "narthex/narthexlaw04.HeadNext", spec := "headNext", apart := false }
def HeadNextSaid : Prop := headNextRow.holds Try.pinned (OpenSpec.ofChange headNextSpec)

/-- ITS FALSE NEIGHBOUR: 'it returns false'. Refute it at one input. -/
def headNextWrong : ChangeSpec := { name := "headNext", fn := fun _ => fun
  | [d1, d2] => { results := [.lit (.bool false)], args := [d1, d2] }
  | _ => none }
def HeadNextWrongFalsely : Prop := headNextRow.holds Try.pinned (OpenSpec.ofChange headNextWrong)

/-- 'narthexlaw02.PageSplits': WHATEVER THE INPUT: true; the input reads as it did. -/
def pageSplitsSpec : ChangeSpec := { name := "pageSplits", fn := fun _ => fun
  | [d1, d2] => { results := [.lit (.bool true)], args := [d1, d2] }
  | _ => none }
def pageSplitsRow : OpenClaim := { program := "ytdikhbdcdpcfgaa", sum := "646d52a25153fc5ae1b1693329d20c4ad9d84b7e83d218c1bab056afc86ed4ce", func := "narthex/narthexlaw02.PageSplits", spec := "pageSplits", inPlace := ["internal/abi.NoEscape"], apart := false }
def PageSplitsSaid : Prop := pageSplitsRow.holds Try.pinned (OpenSpec.ofChange pageSplitsSpec)

/-- ITS FALSE NEIGHBOUR: 'it returns false'. Refute it at one input. -/
def pageSplitsWrong : ChangeSpec := { name := "pageSplits", fn := fun _ => fun
  | [d1, d2] => { results := [.lit (.bool false)], args := [d1, d2] }
  | _ => none }
def PageSplitsWrongFalsely : Prop := pageSplitsRow.holds Try.pinned (OpenSpec.ofChange pageSplitsWrong)

/-- 'narthexlaw08.PlanReads': WHATEVER THE INPUT: true; the input reads as it did. -/
def planReadsSpec : ChangeSpec := { name := "planReads", fn := fun _ => fun
  | [d] => { results := [.lit (.bool true)], args := [d] }
  | _ => none }
def planReadsRow : OpenClaim := { program := "ytdikhbdcdpcfgaa", sum := "646d52a25153fc5ae1b1693329d20c4ad9d84b7e83d218c1bab056afc86ed4ce", func := "narthex/narthexlaw08.PlanReads", spec := "planReads", apart := false }
def PlanReadsSaid : Prop := planReadsRow.holds Try.pinned (OpenSpec.ofChange planReadsSpec)

/-- ITS FALSE NEIGHBOUR: 'it returns false'. Refute it at one input. -/
def planReadsWrong : ChangeSpec := { name := "planReads", fn := fun _ => fun
  | [d] => { results := [.lit (.bool false)], args := [d] }
  | _ => none }
def PlanReadsWrongFalsely : Prop := planReadsRow.holds Try.pinned (OpenSpec.ofChange planReadsWrong)

/-- 'narthexlaw08.PlanIs': WHATEVER THE INPUT: true; the input reads as it did. -/
def planIsSpec : ChangeSpec := { name := "planIs", fn := fun _ => fun
  | [d1, d2] => { results := [.lit (.bool true)], args := [d1, d2] }
  | _ => none }
def planIsRow : OpenClaim := { program := "ytdikhbdcdpcfgaa", sum := "646d52a25153fc5ae1b1693329d20c4ad9d84b7e83d218c1bab056afc86ed4ce", func := "narthex/narthexlaw08.PlanIs", spec := "planIs", apart := false }
def PlanIsSaid : Prop := planIsRow.holds Try.pinned (OpenSpec.ofChange planIsSpec)

/-- ITS FALSE NEIGHBOUR: 'it returns false'. Refute it at one input. -/
def planIsWrong : ChangeSpec := { name := "planIs", fn := fun _ => fun
  | [d1, d2] => { results := [.lit (.bool false)], args := [d1, d2] }
  | _ => none }
def PlanIsWrongFalsely : Prop := planIsRow.holds Try.pinned (OpenSpec.ofChange planIsWrong)

/- THE SECOND FORM. 'bulk': how many values and letters a reading holds, each counted each time it is reached (what is shared counts as often as it is met; a slice's spare places count too). A statement '..UptoSaid' is the law's where the arguments, and the package variables that the reading takes, are together of bulk at most 1048576: NARROWER than '..Said'. Prove '..Said' where nothing that the law and all that it calls make is longer than what came in: it says more and counts as full. Else prove '..UptoSaid'. A law counts once. -/
mutual
def uptoBulk {H : Type} : DataW H → Nat
  | .lit (.string bytes) => bytes.length + 1
  | .lit _ => 1
  | .nil => 1
  | .ptr d => uptoBulk d + 1
  | .slice elems spare => uptoBulkAll elems + uptoBulkAll spare + 1
  | .agg parts => uptoBulkAll parts + 1
  | .iface _ d => uptoBulk d + 1
  | .map entries => uptoBulkEntries entries + 1
  | .held _ => 1
def uptoBulkAll {H : Type} : List (DataW H) → Nat
  | [] => 0
  | d :: r => uptoBulk d + uptoBulkAll r
def uptoBulkEntries {H : Type} : List (Lit × DataW H) → Nat
  | [] => 0
  | x :: r => uptoBulkEntry x + uptoBulkEntries r
def uptoBulkEntry {H : Type} : Lit × DataW H → Nat
  | (.string bytes, d) => bytes.length + uptoBulk d + 1
  | (_, d) => uptoBulk d + 1
 end
def uptoSmall : (H : Type) → List (DataW H) → Bool := fun _ ds => decide (uptoBulkAll ds ≤ 1048576)
def OpenSpec.upto (s : _root_.Go.ChangeSpec) : _root_.Go.OpenSpec := { _root_.Go.OpenSpec.ofChange s with cond := some uptoSmall }

/-- 'narthexlaw02.PageNumbers', WHERE WHAT IT READS IS OF BULK AT MOST 1048576: true; the input reads as it did. -/
def pageNumbersUptoRow : OpenClaim := { program := "ytdikhbdcdpcfgaa", sum := "646d52a25153fc5ae1b1693329d20c4ad9d84b7e83d218c1bab056afc86ed4ce", func := "narthex/narthexlaw02.PageNumbers", spec := "pageNumbers", apart := false, narrowed := true }
def PageNumbersUptoSaid : Prop := pageNumbersUptoRow.holds Try.pinned (OpenSpec.upto pageNumbersSpec)

/-- 'narthexlaw02.PageBack', WHERE WHAT IT READS IS OF BULK AT MOST 1048576: true; the input reads as it did. -/
def pageBackUptoRow : OpenClaim := { program := "ytdikhbdcdpcfgaa", sum := "646d52a25153fc5ae1b1693329d20c4ad9d84b7e83d218c1bab056afc86ed4ce", func := "narthex/narthexlaw02.PageBack", spec := "pageBack", apart := false, narrowed := true }
def PageBackUptoSaid : Prop := pageBackUptoRow.holds Try.pinned (OpenSpec.upto pageBackSpec)

/-- 'narthexlaw02.PageTexts', WHERE WHAT IT READS IS OF BULK AT MOST 1048576: true; the input reads as it did. -/
def pageTextsUptoRow : OpenClaim := { program := "ytdikhbdcdpcfgaa", sum := "646d52a25153fc5ae1b1693329d20c4ad9d84b7e83d218c1bab056afc86ed4ce", func := "narthex/narthexlaw02.PageTexts", spec := "pageTexts", apart := false, narrowed := true }
def PageTextsUptoSaid : Prop := pageTextsUptoRow.holds Try.pinned (OpenSpec.upto pageTextsSpec)

/-- 'narthexlaw08.PlanPlaces', WHERE WHAT IT READS IS OF BULK AT MOST 1048576: true; the input reads as it did. -/
def planPlacesUptoRow : OpenClaim := { program := "ytdikhbdcdpcfgaa", sum := "646d52a25153fc5ae1b1693329d20c4ad9d84b7e83d218c1bab056afc86ed4ce", func := "narthex/narthexlaw08.PlanPlaces", spec := "planPlaces", apart := false, narrowed := true }
def PlanPlacesUptoSaid : Prop := planPlacesUptoRow.holds Try.pinned (OpenSpec.upto planPlacesSpec)

/-- 'narthexlaw04.HeadPages', WHERE WHAT IT READS IS OF BULK AT MOST 1048576: true; the input reads as it did. -/
def headPagesUptoRow : OpenClaim := { program := "ytdikhbdcdpcfgaa", sum := "646d52a25153fc5ae1b1693329d20c4ad9d84b7e83d218c1bab056afc86ed4ce", func := "narthex/narthexlaw04.HeadPages", spec := "headPages", apart := false, narrowed := true }
def HeadPagesUptoSaid : Prop := headPagesUptoRow.holds Try.pinned (OpenSpec.upto headPagesSpec)

/-- 'narthexlaw04.HeadTorn', WHERE WHAT IT READS IS OF BULK AT MOST 1048576: true; the input reads as it did. -/
def headTornUptoRow : OpenClaim := { program := "ytdikhbdcdpcfgaa", sum := "646d52a25153fc5ae1b1693329d20c4ad9d84b7e83d218c1bab056afc86ed4ce", func := "narthex/narthexlaw04.HeadTorn", spec := "headTorn", apart := false, narrowed := true }
def HeadTornUptoSaid : Prop := headTornUptoRow.holds Try.pinned (OpenSpec.upto headTornSpec)

/-- 'narthexlaw04.HeadReads', WHERE WHAT IT READS IS OF BULK AT MOST 1048576: true; the input reads as it did. -/
def headReadsUptoRow : OpenClaim := { program := "ytdikhbdcdpcfgaa", sum := "646d52a25153fc5ae1b1693329d20c4ad9d84b7e83d218c1bab056afc86ed4ce", func := "narthex/narthexlaw04.HeadReads", spec := "headReads", apart := false, narrowed := true }
def HeadReadsUptoSaid : Prop := headReadsUptoRow.holds Try.pinned (OpenSpec.upto headReadsSpec)

/-- 'narthexlaw04.HeadNext', WHERE WHAT IT READS IS OF BULK AT MOST 1048576: true; the input reads as it did. -/
def headNextUptoRow : OpenClaim := { program := "ytdikhbdcdpcfgaa", sum := "646d52a25153fc5ae1b1693329d20c4ad9d84b7e83d218c1bab056afc86ed4ce", func := "narthex/narthexlaw04.HeadNext", spec := "headNext", apart := false, narrowed := true }
def HeadNextUptoSaid : Prop := headNextUptoRow.holds Try.pinned (OpenSpec.upto headNextSpec)

/-- 'narthexlaw02.PageSplits', WHERE WHAT IT READS IS OF BULK AT MOST 1048576: true; the input reads as it did. -/
def pageSplitsUptoRow : OpenClaim := { program := "ytdikhbdcdpcfgaa", sum := "646d52a25153fc5ae1b1693329d20c4ad9d84b7e83d218c1bab056afc86ed4ce", func := "narthex/narthexlaw02.PageSplits", spec := "pageSplits", inPlace := ["internal/abi.NoEscape"], apart := false, narrowed := true }
def PageSplitsUptoSaid : Prop := pageSplitsUptoRow.holds Try.pinned (OpenSpec.upto pageSplitsSpec)

/-- 'narthexlaw08.PlanReads', WHERE WHAT IT READS IS OF BULK AT MOST 1048576: true; the input reads as it did. -/
def planReadsUptoRow : OpenClaim := { program := "ytdikhbdcdpcfgaa", sum := "646d52a25153fc5ae1b1693329d20c4ad9d84b7e83d218c1bab056afc86ed4ce", func := "narthex/narthexlaw08.PlanReads", spec := "planReads", apart := false, narrowed := true }
def PlanReadsUptoSaid : Prop := planReadsUptoRow.holds Try.pinned (OpenSpec.upto planReadsSpec)

/-- 'narthexlaw08.PlanIs', WHERE WHAT IT READS IS OF BULK AT MOST 1048576: true; the input reads as it did. -/
def planIsUptoRow : OpenClaim := { program := "ytdikhbdcdpcfgaa", sum := "646d52a25153fc5ae1b1693329d20c4ad9d84b7e83d218c1bab056afc86ed4ce", func := "narthex/narthexlaw08.PlanIs", spec := "planIs", apart := false, narrowed := true }
def PlanIsUptoSaid : Prop := planIsUptoRow.holds Try.pinned (OpenSpec.upto planIsSpec)

end Rows
end Go.Proofs.Ytdikhbdcdpcfgaa
