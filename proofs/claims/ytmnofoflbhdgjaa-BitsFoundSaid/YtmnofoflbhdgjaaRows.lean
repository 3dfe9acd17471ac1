/-
  No cell of these rows narrows 'for every input' (looked for: loops, veiled, ifaces, maps, wideKeys, modest, calm, conditions, laid).
  DERIVED. THE GIVEN ROWS OF THIS SEAT. 10 by the template 'for every input the law returns true; each argument reads behind the call as it read before'; 0 by the template 'total and deterministic' (their statements: YtmnofoflbhdgjaaTotals.lean).
  GIVEN WITH THE SEED: the statements are not yours to turn. If you find one false, say at which input.
  Laid BY PROGRAM, IN A SANDBOX (cutbox-rows.mjs): the forced cells as the released guide's own fill.sh prints them over the translation c1c18dee7f615685… (all of the seat's roots in one cut). By AI agents, Wed Nov 11 2026. No macro, syntax, notation, axiom, sorry.
-/
import Derived.Test.YtmnofoflbhdgjaaChecked
import GoSem.Claim
import GoSem.ClaimJoined
import GoSem.ClaimMapViews
import Derived.JoinedTies
import Derived.KernelRfl
namespace Go.Proofs.Ytmnofoflbhdgjaa
/- THE CELL 'sum', in the pinned program and in every row, IS THE sha256 OF THE DUMP (.gsa) THAT YtmnofoflbhdgjaaProg.lean LOADS. Nothing in Lean hashes anything: it is a label: what it is worth is what the hold of that sum in a sandbox is worth. -/
noncomputable def Try.pinned : Pinned := { name := "ytmnofoflbhdgjaa", sum := "c1c18dee7f6156856790f75eece574694fac78d206c927dbf6f3521778eb3d14", checked := Try.checked }
namespace Rows
def none {H : Type} : Left H := { results := [], args := [] }

/-- 'narthexlaw10.SpanMeta': WHATEVER THE INPUT: true; the input reads as it did. -/
def spanMetaSpec : ChangeSpec := { name := "spanMeta", fn := fun _ => fun
  | [d] => { results := [.lit (.bool true)], args := [d] }
  | _ => none }
def spanMetaRow : OpenClaim := { program := "ytmnofoflbhdgjaa", sum := "c1c18dee7f6156856790f75eece574694fac78d206c927dbf6f3521778eb3d14", func := "narthex/narthexlaw10.SpanMeta", spec := "spanMeta", plainKeys := false, apart := false }
def SpanMetaSaid : Prop := spanMetaRow.holds Try.pinned (OpenSpec.ofChange spanMetaSpec)

/-- ITS FALSE NEIGHBOUR: 'it returns false'. Refute it at one input. -/
def spanMetaWrong : ChangeSpec := { name := "spanMeta", fn := fun _ => fun
  | [d] => { results := [.lit (.bool false)], args := [d] }
  | _ => none }
def SpanMetaWrongFalsely : Prop := spanMetaRow.holds Try.pinned (OpenSpec.ofChange spanMetaWrong)

/-- 'narthexlaw10.SpanWays': WHATEVER THE INPUT: true; the input reads as it did. -/
def spanWaysSpec : ChangeSpec := { name := "spanWays", fn := fun _ => fun
  | [d] => { results := [.lit (.bool true)], args := [d] }
  | _ => none }
def spanWaysRow : OpenClaim := { program := "ytmnofoflbhdgjaa", sum := "c1c18dee7f6156856790f75eece574694fac78d206c927dbf6f3521778eb3d14", func := "narthex/narthexlaw10.SpanWays", spec := "spanWays", plainKeys := false, apart := false }
def SpanWaysSaid : Prop := spanWaysRow.holds Try.pinned (OpenSpec.ofChange spanWaysSpec)

/-- ITS FALSE NEIGHBOUR: 'it returns false'. Refute it at one input. -/
def spanWaysWrong : ChangeSpec := { name := "spanWays", fn := fun _ => fun
  | [d] => { results := [.lit (.bool false)], args := [d] }
  | _ => none }
def SpanWaysWrongFalsely : Prop := spanWaysRow.holds Try.pinned (OpenSpec.ofChange spanWaysWrong)

/-- 'narthexlaw10.SpanIndex': WHATEVER THE INPUT: true; the input reads as it did. -/
def spanIndexSpec : ChangeSpec := { name := "spanIndex", fn := fun _ => fun
  | [d] => { results := [.lit (.bool true)], args := [d] }
  | _ => none }
def spanIndexRow : OpenClaim := { program := "ytmnofoflbhdgjaa", sum := "c1c18dee7f6156856790f75eece574694fac78d206c927dbf6f3521778eb3d14", func := "narthex/narthexlaw10.SpanIndex", spec := "spanIndex", plainKeys := false, apart := false }
def SpanIndexSaid : Prop := spanIndexRow.holds Try.pinned (OpenSpec.ofChange spanIndexSpec)

/-- ITS FALSE NEIGHBOUR: 'it returns false'. Refute it at one input. -/
def spanIndexWrong : ChangeSpec := { name := "spanIndex", fn := fun _ => fun
  | [d] => { results := [.lit (.bool false)], args := [d] }
  | _ => none }
def SpanIndexWrongFalsely : Prop := spanIndexRow.holds Try.pinned (OpenSpec.ofChange spanIndexWrong)

/-- 'narthexlaw09.InodeHalves': WHATEVER THE INPUT: true; the input reads as it did. -/
def inodeHalvesSpec : ChangeSpec := { name := "inodeHalves", fn := fun _ => fun
  | [d1, d2, d3] => { results := [.lit (.bool true)], args := [d1, d2, d3] }
  | _ => none }
def inodeHalvesRow : OpenClaim := { program := "ytmnofoflbhdgjaa", sum := "c1c18dee7f6156856790f75eece574694fac78d206c927dbf6f3521778eb3d14", func := "narthex/narthexlaw09.InodeHalves", spec := "inodeHalves", plainKeys := false, apart := false }
def InodeHalvesSaid : Prop := inodeHalvesRow.holds Try.pinned (OpenSpec.ofChange inodeHalvesSpec)

/-- ITS FALSE NEIGHBOUR: 'it returns false'. Refute it at one input. -/
def inodeHalvesWrong : ChangeSpec := { name := "inodeHalves", fn := fun _ => fun
  | [d1, d2, d3] => { results := [.lit (.bool false)], args := [d1, d2, d3] }
  | _ => none }
def InodeHalvesWrongFalsely : Prop := inodeHalvesRow.holds Try.pinned (OpenSpec.ofChange inodeHalvesWrong)

/-- 'narthexlaw07.BitsAre': WHATEVER THE INPUT: true; the input reads as it did. -/
def bitsAreSpec : ChangeSpec := { name := "bitsAre", fn := fun _ => fun
  | [d1, d2, d3] => { results := [.lit (.bool true)], args := [d1, d2, d3] }
  | _ => none }
def bitsAreRow : OpenClaim := { program := "ytmnofoflbhdgjaa", sum := "c1c18dee7f6156856790f75eece574694fac78d206c927dbf6f3521778eb3d14", func := "narthex/narthexlaw07.BitsAre", spec := "bitsAre", unfollowed := true, recurses := true, plainKeys := false, apart := false }
def BitsAreSaid : Prop := bitsAreRow.holds Try.pinned (OpenSpec.ofChange bitsAreSpec)

/-- ITS FALSE NEIGHBOUR: 'it returns false'. Refute it at one input. -/
def bitsAreWrong : ChangeSpec := { name := "bitsAre", fn := fun _ => fun
  | [d1, d2, d3] => { results := [.lit (.bool false)], args := [d1, d2, d3] }
  | _ => none }
def BitsAreWrongFalsely : Prop := bitsAreRow.holds Try.pinned (OpenSpec.ofChange bitsAreWrong)

/-- 'narthexlaw07.BitsTakes': WHATEVER THE INPUT: true; the input reads as it did. -/
def bitsTakesSpec : ChangeSpec := { name := "bitsTakes", fn := fun _ => fun
  | [d] => { results := [.lit (.bool true)], args := [d] }
  | _ => none }
def bitsTakesRow : OpenClaim := { program := "ytmnofoflbhdgjaa", sum := "c1c18dee7f6156856790f75eece574694fac78d206c927dbf6f3521778eb3d14", func := "narthex/narthexlaw07.BitsTakes", spec := "bitsTakes", unfollowed := true, recurses := true, plainKeys := false, apart := false }
def BitsTakesSaid : Prop := bitsTakesRow.holds Try.pinned (OpenSpec.ofChange bitsTakesSpec)

/-- ITS FALSE NEIGHBOUR: 'it returns false'. Refute it at one input. -/
def bitsTakesWrong : ChangeSpec := { name := "bitsTakes", fn := fun _ => fun
  | [d] => { results := [.lit (.bool false)], args := [d] }
  | _ => none }
def BitsTakesWrongFalsely : Prop := bitsTakesRow.holds Try.pinned (OpenSpec.ofChange bitsTakesWrong)

/-- 'narthexlaw09.InodeAttr': WHATEVER THE INPUT: true; the input reads as it did. -/
def inodeAttrSpec : ChangeSpec := { name := "inodeAttr", fn := fun _ => fun
  | [d1, d2] => { results := [.lit (.bool true)], args := [d1, d2] }
  | _ => none }
def inodeAttrRow : OpenClaim := { program := "ytmnofoflbhdgjaa", sum := "c1c18dee7f6156856790f75eece574694fac78d206c927dbf6f3521778eb3d14", func := "narthex/narthexlaw09.InodeAttr", spec := "inodeAttr", plainKeys := false, apart := false }
def InodeAttrSaid : Prop := inodeAttrRow.holds Try.pinned (OpenSpec.ofChange inodeAttrSpec)

/-- ITS FALSE NEIGHBOUR: 'it returns false'. Refute it at one input. -/
def inodeAttrWrong : ChangeSpec := { name := "inodeAttr", fn := fun _ => fun
  | [d1, d2] => { results := [.lit (.bool false)], args := [d1, d2] }
  | _ => none }
def InodeAttrWrongFalsely : Prop := inodeAttrRow.holds Try.pinned (OpenSpec.ofChange inodeAttrWrong)

/-- 'narthexlaw07.BitsFound': WHATEVER THE INPUT: true; the input reads as it did. -/
def bitsFoundSpec : ChangeSpec := { name := "bitsFound", fn := fun _ => fun
  | [d1, d2, d3] => { results := [.lit (.bool true)], args := [d1, d2, d3] }
  | _ => none }
def bitsFoundRow : OpenClaim := { program := "ytmnofoflbhdgjaa", sum := "c1c18dee7f6156856790f75eece574694fac78d206c927dbf6f3521778eb3d14", func := "narthex/narthexlaw07.BitsFound", spec := "bitsFound", unfollowed := true, recurses := true, plainKeys := false, apart := false }
def BitsFoundSaid : Prop := bitsFoundRow.holds Try.pinned (OpenSpec.ofChange bitsFoundSpec)

/-- ITS FALSE NEIGHBOUR: 'it returns false'. Refute it at one input. -/
def bitsFoundWrong : ChangeSpec := { name := "bitsFound", fn := fun _ => fun
  | [d1, d2, d3] => { results := [.lit (.bool false)], args := [d1, d2, d3] }
  | _ => none }
def BitsFoundWrongFalsely : Prop := bitsFoundRow.holds Try.pinned (OpenSpec.ofChange bitsFoundWrong)

/-- 'narthexlaw10.SpanNumbers': WHATEVER THE INPUT: true; the input reads as it did. -/
def spanNumbersSpec : ChangeSpec := { name := "spanNumbers", fn := fun _ => fun
  | [d1, d2, d3] => { results := [.lit (.bool true)], args := [d1, d2, d3] }
  | _ => none }
def spanNumbersRow : OpenClaim := { program := "ytmnofoflbhdgjaa", sum := "c1c18dee7f6156856790f75eece574694fac78d206c927dbf6f3521778eb3d14", func := "narthex/narthexlaw10.SpanNumbers", spec := "spanNumbers", plainKeys := false, apart := false }
def SpanNumbersSaid : Prop := spanNumbersRow.holds Try.pinned (OpenSpec.ofChange spanNumbersSpec)

/-- ITS FALSE NEIGHBOUR: 'it returns false'. Refute it at one input. -/
def spanNumbersWrong : ChangeSpec := { name := "spanNumbers", fn := fun _ => fun
  | [d1, d2, d3] => { results := [.lit (.bool false)], args := [d1, d2, d3] }
  | _ => none }
def SpanNumbersWrongFalsely : Prop := spanNumbersRow.holds Try.pinned (OpenSpec.ofChange spanNumbersWrong)

/-- 'narthexlaw09.InodeRights': WHATEVER THE INPUT: true; the input reads as it did. -/
def inodeRightsSpec : ChangeSpec := { name := "inodeRights", fn := fun _ => fun
  | [d1, d2, d3] => { results := [.lit (.bool true)], args := [d1, d2, d3] }
  | _ => none }
def inodeRightsRow : OpenClaim := { program := "ytmnofoflbhdgjaa", sum := "c1c18dee7f6156856790f75eece574694fac78d206c927dbf6f3521778eb3d14", func := "narthex/narthexlaw09.InodeRights", spec := "inodeRights", plainKeys := false, apart := false }
def InodeRightsSaid : Prop := inodeRightsRow.holds Try.pinned (OpenSpec.ofChange inodeRightsSpec)

/-- ITS FALSE NEIGHBOUR: 'it returns false'. Refute it at one input. -/
def inodeRightsWrong : ChangeSpec := { name := "inodeRights", fn := fun _ => fun
  | [d1, d2, d3] => { results := [.lit (.bool false)], args := [d1, d2, d3] }
  | _ => none }
def InodeRightsWrongFalsely : Prop := inodeRightsRow.holds Try.pinned (OpenSpec.ofChange inodeRightsWrong)

/- THE SECOND FORM. 'bulk': how many values and letters a reading holds, each counted each time it is reached (what is shared counts as often as it is met; a slice's spare places count too). A statement '..UptoSaid' is the law's where the arguments, and the package variables that the reading takes, are together of bulk at most 1048576: NARROWER than '..Said'. Prove '..Said' where nothing that the law and all that it calls make is longer than what came in: it says more and counts as full. Else prove '..UptoSaid'. A law counts once. -/
mutual
def uptoBulk {H : Type} : DataW H → Nat
  | .lit (.string bytes) => bytes.length + 1
  | .lit _ => 1
  | .nil => 1
  | .ptr d => uptoBulk d + 1
  | .slice elems spare => uptoBulkAll elems + uptoBulkAll spare + 1
  | .agg parts => uptoBulkAll parts + 1
  | .iface _ d => uptoBulk d + 1
  | .map entries => uptoBulkEntries entries + 1
  | .held _ => 1
def uptoBulkAll {H : Type} : List (DataW H) → Nat
  | [] => 0
  | d :: r => uptoBulk d + uptoBulkAll r
def uptoBulkEntries {H : Type} : List (Lit × DataW H) → Nat
  | [] => 0
  | x :: r => uptoBulkEntry x + uptoBulkEntries r
def uptoBulkEntry {H : Type} : Lit × DataW H → Nat
  | (.string bytes, d) => bytes.length + uptoBulk d + 1
  | (_, d) => uptoBulk d + 1
 end
def uptoSmall : (H : Type) → List (DataW H) → Bool := fun _ ds => decide (uptoBulkAll ds ≤ 1048576)
def OpenSpec.upto (s : _root_.Go.ChangeSpec) : _root_.Go.OpenSpec := { _root_.Go.OpenSpec.ofChange s with cond := some uptoSmall }

/-- 'narthexlaw10.SpanMeta', WHERE WHAT IT READS IS OF BULK AT MOST 1048576: true; the input reads as it did. -/
def spanMetaUptoRow : OpenClaim := { program := "ytmnofoflbhdgjaa", sum := "c1c18dee7f6156856790f75eece574694fac78d206c927dbf6f3521778eb3d14", func := "narthex/narthexlaw10.SpanMeta", spec := "spanMeta", plainKeys := false, apart := false, narrowed := true }
def SpanMetaUptoSaid : Prop := spanMetaUptoRow.holds Try.pinned (OpenSpec.upto spanMetaSpec)

/-- 'narthexlaw10.SpanWays', WHERE WHAT IT READS IS OF BULK AT MOST 1048576: true; the input reads as it did. -/
def spanWaysUptoRow : OpenClaim := { program := "ytmnofoflbhdgjaa", sum := "c1c18dee7f6156856790f75eece574694fac78d206c927dbf6f3521778eb3d14", func := "narthex/narthexlaw10.SpanWays", spec := "spanWays", plainKeys := false, apart := false, narrowed := true }
def SpanWaysUptoSaid : Prop := spanWaysUptoRow.holds Try.pinned (OpenSpec.upto spanWaysSpec)

/-- 'narthexlaw10.SpanIndex', WHERE WHAT IT READS IS OF BULK AT MOST 1048576: true; the input reads as it did. -/
def spanIndexUptoRow : OpenClaim := { program := "ytmnofoflbhdgjaa", sum := "c1c18dee7f6156856790f75eece574694fac78d206c927dbf6f3521778eb3d14", func := "narthex/narthexlaw10.SpanIndex", spec := "spanIndex", plainKeys := false, apart := false, narrowed := true }
def SpanIndexUptoSaid : Prop := spanIndexUptoRow.holds Try.pinned (OpenSpec.upto spanIndexSpec)

/-- 'narthexlaw09.InodeHalves', WHERE WHAT IT READS IS OF BULK AT MOST 1048576: true; the input reads as it did. -/
def inodeHalvesUptoRow : OpenClaim := { program := "ytmnofoflbhdgjaa", sum := "c1c18dee7f6156856790f75eece574694fac78d206c927dbf6f3521778eb3d14", func := "narthex/narthexlaw09.InodeHalves", spec := "inodeHalves", plainKeys := false, apart := false, narrowed := true }
def InodeHalvesUptoSaid : Prop := inodeHalvesUptoRow.holds Try.pinned (OpenSpec.upto inodeHalvesSpec)

/-- 'narthexlaw07.BitsAre', WHERE WHAT IT READS IS OF BULK AT MOST 1048576: true; the input reads as it did. -/
def bitsAreUptoRow : OpenClaim := { program := "ytmnofoflbhdgjaa", sum := "c1c18dee7f6156856790f75eece574694fac78d206c927dbf6f3521778eb3d14", func := "narthex/narthexlaw07.BitsAre", spec := "bitsAre", unfollowed := true, recurses := true, plainKeys := false, apart := false, narrowed := true }
def BitsAreUptoSaid : Prop := bitsAreUptoRow.holds Try.pinned (OpenSpec.upto bitsAreSpec)

/-- 'narthexlaw07.BitsTakes', WHERE WHAT IT READS IS OF BULK AT MOST 1048576: true; the input reads as it did. -/
def bitsTakesUptoRow : OpenClaim := { program := "ytmnofoflbhdgjaa", sum := "c1c18dee7f6156856790f75eece574694fac78d206c927dbf6f3521778eb3d14", func := "narthex/narthexlaw07.BitsTakes", spec := "bitsTakes", unfollowed := true, recurses := true, plainKeys := false, apart := false, narrowed := true }
def BitsTakesUptoSaid : Prop := bitsTakesUptoRow.holds Try.pinned (OpenSpec.upto bitsTakesSpec)

/-- 'narthexlaw09.InodeAttr', WHERE WHAT IT READS IS OF BULK AT MOST 1048576: true; the input reads as it did. -/
def inodeAttrUptoRow : OpenClaim := { program := "ytmnofoflbhdgjaa", sum := "c1c18dee7f6156856790f75eece574694fac78d206c927dbf6f3521778eb3d14", func := "narthex/narthexlaw09.InodeAttr", spec := "inodeAttr", plainKeys := false, apart := false, narrowed := true }
def InodeAttrUptoSaid : Prop := inodeAttrUptoRow.holds Try.pinned (OpenSpec.upto inodeAttrSpec)

/-- 'narthexlaw07.BitsFound', WHERE WHAT IT READS IS OF BULK AT MOST 1048576: true; the input reads as it did. -/
def bitsFoundUptoRow : OpenClaim := { program := "ytmnofoflbhdgjaa", sum := "c1c18dee7f6156856790f75eece574694fac78d206c927dbf6f3521778eb3d14", func := "narthex/narthexlaw07.BitsFound", spec := "bitsFound", unfollowed := true, recurses := true, plainKeys := false, apart := false, narrowed := true }
def BitsFoundUptoSaid : Prop := bitsFoundUptoRow.holds Try.pinned (OpenSpec.upto bitsFoundSpec)

/-- 'narthexlaw10.SpanNumbers', WHERE WHAT IT READS IS OF BULK AT MOST 1048576: true; the input reads as it did. -/
def spanNumbersUptoRow : OpenClaim := { program := "ytmnofoflbhdgjaa", sum := "c1c18dee7f6156856790f75eece574694fac78d206c927dbf6f3521778eb3d14", func := "narthex/narthexlaw10.SpanNumbers", spec := "spanNumbers", plainKeys := false, apart := false, narrowed := true }
def SpanNumbersUptoSaid : Prop := spanNumbersUptoRow.holds Try.pinned (OpenSpec.upto spanNumbersSpec)

/-- 'narthexlaw09.InodeRights', WHERE WHAT IT READS IS OF BULK AT MOST 1048576: true; the input reads as it did. -/
def inodeRightsUptoRow : OpenClaim := { program := "ytmnofoflbhdgjaa", sum := "c1c18dee7f6156856790f75eece574694fac78d206c927dbf6f3521778eb3d14", func := "narthex/narthexlaw09.InodeRights", spec := "inodeRights", plainKeys := false, apart := false, narrowed := true }
def InodeRightsUptoSaid : Prop := inodeRightsUptoRow.holds Try.pinned (OpenSpec.upto inodeRightsSpec)

end Rows
end Go.Proofs.Ytmnofoflbhdgjaa
