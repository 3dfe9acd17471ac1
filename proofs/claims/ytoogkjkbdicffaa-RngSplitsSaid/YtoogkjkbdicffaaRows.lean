/-
  No cell of these rows narrows 'for every input' (looked for: loops, veiled, ifaces, maps, wideKeys, modest, calm, conditions, laid).
  DERIVED. THE GIVEN ROWS OF THIS SEAT. 6 by the template 'for every input the law returns true; each argument reads behind the call as it read before'; 0 by the template 'total and deterministic' (their statements: YtoogkjkbdicffaaTotals.lean).
  GIVEN WITH THE SEED: the statements are not yours to turn. If you find one false, say at which input.
  Laid BY PROGRAM, IN A SANDBOX (cutbox-rows.mjs): the forced cells as the released guide's own fill.sh prints them over the translation 5247433aaeddbdee… (all of the seat's roots in one cut). By AI agents, Wed Nov 11 2026. No macro, syntax, notation, axiom, sorry.
-/
import Derived.Test.YtoogkjkbdicffaaChecked
import GoSem.Claim
import GoSem.ClaimJoined
import GoSem.ClaimMapViews
import Derived.JoinedTies
import Derived.KernelRfl
namespace Go.Proofs.Ytoogkjkbdicffaa
/- THE CELL 'sum', in the pinned program and in every row, IS THE sha256 OF THE DUMP (.gsa) THAT YtoogkjkbdicffaaProg.lean LOADS. Nothing in Lean hashes anything: it is a label: what it is worth is what the hold of that sum in a sandbox is worth. -/
noncomputable def Try.pinned : Pinned := { name := "ytoogkjkbdicffaa", sum := "5247433aaeddbdee78725b5a08249659ed08feb7b556e09fb115f9048c77cbd9", checked := Try.checked }
namespace Rows
def none {H : Type} : Left H := { results := [], args := [] }

/-- 'narthexlaw21.RngWays': WHATEVER THE INPUT: true; the input reads as it did. -/
def rngWaysSpec : ChangeSpec := { name := "rngWays", fn := fun _ => fun
  | [d1, d2] => { results := [.lit (.bool true)], args := [d1, d2] }
  | _ => none }
def rngWaysRow : OpenClaim := { program := "ytoogkjkbdicffaa", sum := "5247433aaeddbdee78725b5a08249659ed08feb7b556e09fb115f9048c77cbd9", func := "narthex/narthexlaw21.RngWays", spec := "rngWays", apart := false }
def RngWaysSaid : Prop := rngWaysRow.holds Try.pinned (OpenSpec.ofChange rngWaysSpec)

/-- ITS FALSE NEIGHBOUR: 'it returns false'. Refute it at one input. -/
def rngWaysWrong : ChangeSpec := { name := "rngWays", fn := fun _ => fun
  | [d1, d2] => { results := [.lit (.bool false)], args := [d1, d2] }
  | _ => none }
def RngWaysWrongFalsely : Prop := rngWaysRow.holds Try.pinned (OpenSpec.ofChange rngWaysWrong)

/-- 'narthexlaw21.RngSets': WHATEVER THE INPUT: true; the input reads as it did. -/
def rngSetsSpec : ChangeSpec := { name := "rngSets", fn := fun _ => fun
  | [d1, d2] => { results := [.lit (.bool true)], args := [d1, d2] }
  | _ => none }
def rngSetsRow : OpenClaim := { program := "ytoogkjkbdicffaa", sum := "5247433aaeddbdee78725b5a08249659ed08feb7b556e09fb115f9048c77cbd9", func := "narthex/narthexlaw21.RngSets", spec := "rngSets", apart := false }
def RngSetsSaid : Prop := rngSetsRow.holds Try.pinned (OpenSpec.ofChange rngSetsSpec)

/-- ITS FALSE NEIGHBOUR: 'it returns false'. Refute it at one input. -/
def rngSetsWrong : ChangeSpec := { name := "rngSets", fn := fun _ => fun
  | [d1, d2] => { results := [.lit (.bool false)], args := [d1, d2] }
  | _ => none }
def RngSetsWrongFalsely : Prop := rngSetsRow.holds Try.pinned (OpenSpec.ofChange rngSetsWrong)

/-- 'narthexlaw21.RngHas': WHATEVER THE INPUT: true; the input reads as it did. -/
def rngHasSpec : ChangeSpec := { name := "rngHas", fn := fun _ => fun
  | [d1, d2] => { results := [.lit (.bool true)], args := [d1, d2] }
  | _ => none }
def rngHasRow : OpenClaim := { program := "ytoogkjkbdicffaa", sum := "5247433aaeddbdee78725b5a08249659ed08feb7b556e09fb115f9048c77cbd9", func := "narthex/narthexlaw21.RngHas", spec := "rngHas", apart := false }
def RngHasSaid : Prop := rngHasRow.holds Try.pinned (OpenSpec.ofChange rngHasSpec)

/-- ITS FALSE NEIGHBOUR: 'it returns false'. Refute it at one input. -/
def rngHasWrong : ChangeSpec := { name := "rngHas", fn := fun _ => fun
  | [d1, d2] => { results := [.lit (.bool false)], args := [d1, d2] }
  | _ => none }
def RngHasWrongFalsely : Prop := rngHasRow.holds Try.pinned (OpenSpec.ofChange rngHasWrong)

/-- 'narthexlaw21.RngDoes': WHATEVER THE INPUT: true; the input reads as it did. -/
def rngDoesSpec : ChangeSpec := { name := "rngDoes", fn := fun _ => fun
  | [d1, d2, d3] => { results := [.lit (.bool true)], args := [d1, d2, d3] }
  | _ => none }
def rngDoesRow : OpenClaim := { program := "ytoogkjkbdicffaa", sum := "5247433aaeddbdee78725b5a08249659ed08feb7b556e09fb115f9048c77cbd9", func := "narthex/narthexlaw21.RngDoes", spec := "rngDoes", apart := false }
def RngDoesSaid : Prop := rngDoesRow.holds Try.pinned (OpenSpec.ofChange rngDoesSpec)

/-- ITS FALSE NEIGHBOUR: 'it returns false'. Refute it at one input. -/
def rngDoesWrong : ChangeSpec := { name := "rngDoes", fn := fun _ => fun
  | [d1, d2, d3] => { results := [.lit (.bool false)], args := [d1, d2, d3] }
  | _ => none }
def RngDoesWrongFalsely : Prop := rngDoesRow.holds Try.pinned (OpenSpec.ofChange rngDoesWrong)

/-- 'narthexlaw21.RngSplits': WHATEVER THE INPUT: true; the input reads as it did. -/
def rngSplitsSpec : ChangeSpec := { name := "rngSplits", fn := fun _ => fun
  | [d1, d2, d3] => { results := [.lit (.bool true)], args := [d1, d2, d3] }
  | _ => none }
def rngSplitsRow : OpenClaim := { program := "ytoogkjkbdicffaa", sum := "5247433aaeddbdee78725b5a08249659ed08feb7b556e09fb115f9048c77cbd9", func := "narthex/narthexlaw21.RngSplits", spec := "rngSplits", apart := false }
def RngSplitsSaid : Prop := rngSplitsRow.holds Try.pinned (OpenSpec.ofChange rngSplitsSpec)

/-- ITS FALSE NEIGHBOUR: 'it returns false'. Refute it at one input. -/
def rngSplitsWrong : ChangeSpec := { name := "rngSplits", fn := fun _ => fun
  | [d1, d2, d3] => { results := [.lit (.bool false)], args := [d1, d2, d3] }
  | _ => none }
def RngSplitsWrongFalsely : Prop := rngSplitsRow.holds Try.pinned (OpenSpec.ofChange rngSplitsWrong)

/-- 'narthexlaw21.RngLess': WHATEVER THE INPUT: true; the input reads as it did. -/
def rngLessSpec : ChangeSpec := { name := "rngLess", fn := fun _ => fun
  | [d1, d2, d3] => { results := [.lit (.bool true)], args := [d1, d2, d3] }
  | _ => none }
def rngLessRow : OpenClaim := { program := "ytoogkjkbdicffaa", sum := "5247433aaeddbdee78725b5a08249659ed08feb7b556e09fb115f9048c77cbd9", func := "narthex/narthexlaw21.RngLess", spec := "rngLess", apart := false }
def RngLessSaid : Prop := rngLessRow.holds Try.pinned (OpenSpec.ofChange rngLessSpec)

/-- ITS FALSE NEIGHBOUR: 'it returns false'. Refute it at one input. -/
def rngLessWrong : ChangeSpec := { name := "rngLess", fn := fun _ => fun
  | [d1, d2, d3] => { results := [.lit (.bool false)], args := [d1, d2, d3] }
  | _ => none }
def RngLessWrongFalsely : Prop := rngLessRow.holds Try.pinned (OpenSpec.ofChange rngLessWrong)

/- THE SECOND FORM. 'bulk': how many values and letters a reading holds, each counted each time it is reached (what is shared counts as often as it is met; a slice's spare places count too). A statement '..UptoSaid' is the law's where the arguments, and the package variables that the reading takes, are together of bulk at most 1048576: NARROWER than '..Said'. Prove '..Said' where nothing that the law and all that it calls make is longer than what came in: it says more and counts as full. Else prove '..UptoSaid'. A law counts once. -/
mutual
def uptoBulk {H : Type} : DataW H → Nat
  | .lit (.string bytes) => bytes.length + 1
  | .lit _ => 1
  | .nil => 1
  | .ptr d => uptoBulk d + 1
  | .slice elems spare => uptoBulkAll elems + uptoBulkAll spare + 1
  | .agg parts => uptoBulkAll parts + 1
  | .iface _ d => uptoBulk d + 1
  | .map entries => uptoBulkEntries entries + 1
  | .held _ => 1
def uptoBulkAll {H : Type} : List (DataW H) → Nat
  | [] => 0
  | d :: r => uptoBulk d + uptoBulkAll r
def uptoBulkEntries {H : Type} : List (Lit × DataW H) → Nat
  | [] => 0
  | x :: r => uptoBulkEntry x + uptoBulkEntries r
def uptoBulkEntry {H : Type} : Lit × DataW H → Nat
  | (.string bytes, d) => bytes.length + uptoBulk d + 1
  | (_, d) => uptoBulk d + 1
 end
def uptoSmall : (H : Type) → List (DataW H) → Bool := fun _ ds => decide (uptoBulkAll ds ≤ 1048576)
def OpenSpec.upto (s : _root_.Go.ChangeSpec) : _root_.Go.OpenSpec := { _root_.Go.OpenSpec.ofChange s with cond := some uptoSmall }

/-- 'narthexlaw21.RngWays', WHERE WHAT IT READS IS OF BULK AT MOST 1048576: true; the input reads as it did. -/
def rngWaysUptoRow : OpenClaim := { program := "ytoogkjkbdicffaa", sum := "5247433aaeddbdee78725b5a08249659ed08feb7b556e09fb115f9048c77cbd9", func := "narthex/narthexlaw21.RngWays", spec := "rngWays", apart := false, narrowed := true }
def RngWaysUptoSaid : Prop := rngWaysUptoRow.holds Try.pinned (OpenSpec.upto rngWaysSpec)

/-- 'narthexlaw21.RngSets', WHERE WHAT IT READS IS OF BULK AT MOST 1048576: true; the input reads as it did. -/
def rngSetsUptoRow : OpenClaim := { program := "ytoogkjkbdicffaa", sum := "5247433aaeddbdee78725b5a08249659ed08feb7b556e09fb115f9048c77cbd9", func := "narthex/narthexlaw21.RngSets", spec := "rngSets", apart := false, narrowed := true }
def RngSetsUptoSaid : Prop := rngSetsUptoRow.holds Try.pinned (OpenSpec.upto rngSetsSpec)

/-- 'narthexlaw21.RngHas', WHERE WHAT IT READS IS OF BULK AT MOST 1048576: true; the input reads as it did. -/
def rngHasUptoRow : OpenClaim := { program := "ytoogkjkbdicffaa", sum := "5247433aaeddbdee78725b5a08249659ed08feb7b556e09fb115f9048c77cbd9", func := "narthex/narthexlaw21.RngHas", spec := "rngHas", apart := false, narrowed := true }
def RngHasUptoSaid : Prop := rngHasUptoRow.holds Try.pinned (OpenSpec.upto rngHasSpec)

/-- 'narthexlaw21.RngDoes', WHERE WHAT IT READS IS OF BULK AT MOST 1048576: true; the input reads as it did. -/
def rngDoesUptoRow : OpenClaim := { program := "ytoogkjkbdicffaa", sum := "5247433aaeddbdee78725b5a08249659ed08feb7b556e09fb115f9048c77cbd9", func := "narthex/narthexlaw21.RngDoes", spec := "rngDoes", apart := false, narrowed := true }
def RngDoesUptoSaid : Prop := rngDoesUptoRow.holds Try.pinned (OpenSpec.upto rngDoesSpec)

/-- 'narthexlaw21.RngSplits', WHERE WHAT IT READS IS OF BULK AT MOST 1048576: true; the input reads as it did. -/
def rngSplitsUptoRow : OpenClaim := { program := "ytoogkjkbdicffaa", sum := "5247433aaeddbdee78725b5a08249659ed08feb7b556e09fb115f9048c77cbd9", func := "narthex/narthexlaw21.RngSplits", spec := "rngSplits", apart := false, narrowed := true }
def RngSplitsUptoSaid : Prop := rngSplitsUptoRow.holds Try.pinned (OpenSpec.upto rngSplitsSpec)

/-- 'narthexlaw21.RngLess', WHERE WHAT IT READS IS OF BULK AT MOST 1048576: true; the input reads as it did. -/
def rngLessUptoRow : OpenClaim := { program := "ytoogkjkbdicffaa", sum := "5247433aaeddbdee78725b5a08249659ed08feb7b556e09fb115f9048c77cbd9", func := "narthex/narthexlaw21.RngLess", spec := "rngLess", apart := false, narrowed := true }
def RngLessUptoSaid : Prop := rngLessUptoRow.holds Try.pinned (OpenSpec.upto rngLessSpec)

end Rows
end Go.Proofs.Ytoogkjkbdicffaa
