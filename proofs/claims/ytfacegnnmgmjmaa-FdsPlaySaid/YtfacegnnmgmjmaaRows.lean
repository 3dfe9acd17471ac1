/-
  No cell of these rows narrows 'for every input' (looked for: loops, veiled, ifaces, maps, wideKeys, modest, calm, conditions, laid).
  DERIVED. THE GIVEN ROWS OF THIS SEAT. 5 by the template 'for every input the law returns true; each argument reads behind the call as it read before'; 0 by the template 'total and deterministic' (their statements: YtfacegnnmgmjmaaTotals.lean).
  GIVEN WITH THE SEED: the statements are not yours to turn. If you find one false, say at which input.
  Laid BY PROGRAM, IN A SANDBOX (cutbox-rows.mjs): the forced cells as the released guide's own fill.sh prints them over the translation 30951f76ac5fdf57… (all of the seat's roots in one cut). By AI agents, Wed Nov 11 2026. No macro, syntax, notation, axiom, sorry.
-/
import Derived.Test.YtfacegnnmgmjmaaChecked
import GoSem.Claim
import GoSem.ClaimJoined
import GoSem.ClaimMapViews
import Derived.JoinedTies
import Derived.KernelRfl
namespace Go.Proofs.Ytfacegnnmgmjmaa
/- THE CELL 'sum', in the pinned program and in every row, IS THE sha256 OF THE DUMP (.gsa) THAT YtfacegnnmgmjmaaProg.lean LOADS. Nothing in Lean hashes anything: it is a label: what it is worth is what the hold of that sum in a sandbox is worth. -/
noncomputable def Try.pinned : Pinned := { name := "ytfacegnnmgmjmaa", sum := "30951f76ac5fdf5791fb409149305849c800e0a1b38e45a8e76d8bb3782c2c6a", checked := Try.checked }
namespace Rows
def none {H : Type} : Left H := { results := [], args := [] }

/-- 'narthexlaw28.FdsNext': WHATEVER THE INPUT: true; the input reads as it did. -/
def fdsNextSpec : ChangeSpec := { name := "fdsNext", fn := fun _ => fun
  | [d] => { results := [.lit (.bool true)], args := [d] }
  | _ => none }
def fdsNextRow : OpenClaim := { program := "ytfacegnnmgmjmaa", sum := "30951f76ac5fdf5791fb409149305849c800e0a1b38e45a8e76d8bb3782c2c6a", func := "narthex/narthexlaw28.FdsNext", spec := "fdsNext", unfollowed := true, recurses := true, apart := false }
def FdsNextSaid : Prop := fdsNextRow.holds Try.pinned (OpenSpec.ofChange fdsNextSpec)

/-- ITS FALSE NEIGHBOUR: 'it returns false'. Refute it at one input. -/
def fdsNextWrong : ChangeSpec := { name := "fdsNext", fn := fun _ => fun
  | [d] => { results := [.lit (.bool false)], args := [d] }
  | _ => none }
def FdsNextWrongFalsely : Prop := fdsNextRow.holds Try.pinned (OpenSpec.ofChange fdsNextWrong)

/-- 'narthexlaw28.FdsFlags': WHATEVER THE INPUT: true; the input reads as it did. -/
def fdsFlagsSpec : ChangeSpec := { name := "fdsFlags", fn := fun _ => fun
  | [d] => { results := [.lit (.bool true)], args := [d] }
  | _ => none }
def fdsFlagsRow : OpenClaim := { program := "ytfacegnnmgmjmaa", sum := "30951f76ac5fdf5791fb409149305849c800e0a1b38e45a8e76d8bb3782c2c6a", func := "narthex/narthexlaw28.FdsFlags", spec := "fdsFlags", unfollowed := true, recurses := true, apart := false }
def FdsFlagsSaid : Prop := fdsFlagsRow.holds Try.pinned (OpenSpec.ofChange fdsFlagsSpec)

/-- ITS FALSE NEIGHBOUR: 'it returns false'. Refute it at one input. -/
def fdsFlagsWrong : ChangeSpec := { name := "fdsFlags", fn := fun _ => fun
  | [d] => { results := [.lit (.bool false)], args := [d] }
  | _ => none }
def FdsFlagsWrongFalsely : Prop := fdsFlagsRow.holds Try.pinned (OpenSpec.ofChange fdsFlagsWrong)

/-- 'narthexlaw28.FdsOwn': WHATEVER THE INPUT: true; the input reads as it did. -/
def fdsOwnSpec : ChangeSpec := { name := "fdsOwn", fn := fun _ => fun
  | [d] => { results := [.lit (.bool true)], args := [d] }
  | _ => none }
def fdsOwnRow : OpenClaim := { program := "ytfacegnnmgmjmaa", sum := "30951f76ac5fdf5791fb409149305849c800e0a1b38e45a8e76d8bb3782c2c6a", func := "narthex/narthexlaw28.FdsOwn", spec := "fdsOwn", unfollowed := true, recurses := true, apart := false }
def FdsOwnSaid : Prop := fdsOwnRow.holds Try.pinned (OpenSpec.ofChange fdsOwnSpec)

/-- ITS FALSE NEIGHBOUR: 'it returns false'. Refute it at one input. -/
def fdsOwnWrong : ChangeSpec := { name := "fdsOwn", fn := fun _ => fun
  | [d] => { results := [.lit (.bool false)], args := [d] }
  | _ => none }
def FdsOwnWrongFalsely : Prop := fdsOwnRow.holds Try.pinned (OpenSpec.ofChange fdsOwnWrong)

/-- 'narthexlaw28.FdsPlay': WHATEVER THE INPUT: true; the input reads as it did. -/
def fdsPlaySpec : ChangeSpec := { name := "fdsPlay", fn := fun _ => fun
  | [d] => { results := [.lit (.bool true)], args := [d] }
  | _ => none }
def fdsPlayRow : OpenClaim := { program := "ytfacegnnmgmjmaa", sum := "30951f76ac5fdf5791fb409149305849c800e0a1b38e45a8e76d8bb3782c2c6a", func := "narthex/narthexlaw28.FdsPlay", spec := "fdsPlay", unfollowed := true, recurses := true, apart := false }
def FdsPlaySaid : Prop := fdsPlayRow.holds Try.pinned (OpenSpec.ofChange fdsPlaySpec)

/-- ITS FALSE NEIGHBOUR: 'it returns false'. Refute it at one input. -/
def fdsPlayWrong : ChangeSpec := { name := "fdsPlay", fn := fun _ => fun
  | [d] => { results := [.lit (.bool false)], args := [d] }
  | _ => none }
def FdsPlayWrongFalsely : Prop := fdsPlayRow.holds Try.pinned (OpenSpec.ofChange fdsPlayWrong)

/-- 'narthexlaw28.FdsNone': WHATEVER THE INPUT: true; the input reads as it did. -/
def fdsNoneSpec : ChangeSpec := { name := "fdsNone", fn := fun _ => fun
  | [d] => { results := [.lit (.bool true)], args := [d] }
  | _ => none }
def fdsNoneRow : OpenClaim := { program := "ytfacegnnmgmjmaa", sum := "30951f76ac5fdf5791fb409149305849c800e0a1b38e45a8e76d8bb3782c2c6a", func := "narthex/narthexlaw28.FdsNone", spec := "fdsNone", unfollowed := true, recurses := true, apart := false }
def FdsNoneSaid : Prop := fdsNoneRow.holds Try.pinned (OpenSpec.ofChange fdsNoneSpec)

/-- ITS FALSE NEIGHBOUR: 'it returns false'. Refute it at one input. -/
def fdsNoneWrong : ChangeSpec := { name := "fdsNone", fn := fun _ => fun
  | [d] => { results := [.lit (.bool false)], args := [d] }
  | _ => none }
def FdsNoneWrongFalsely : Prop := fdsNoneRow.holds Try.pinned (OpenSpec.ofChange fdsNoneWrong)

/- THE SECOND FORM. 'bulk': how many values and letters a reading holds, each counted each time it is reached (what is shared counts as often as it is met; a slice's spare places count too). A statement '..UptoSaid' is the law's where the arguments, and the package variables that the reading takes, are together of bulk at most 1048576: NARROWER than '..Said'. Prove '..Said' where nothing that the law and all that it calls make is longer than what came in: it says more and counts as full. Else prove '..UptoSaid'. A law counts once. -/
mutual
def uptoBulk {H : Type} : DataW H → Nat
  | .lit (.string bytes) => bytes.length + 1
  | .lit _ => 1
  | .nil => 1
  | .ptr d => uptoBulk d + 1
  | .slice elems spare => uptoBulkAll elems + uptoBulkAll spare + 1
  | .agg parts => uptoBulkAll parts + 1
  | .iface _ d => uptoBulk d + 1
  | .map entries => uptoBulkEntries entries + 1
  | .held _ => 1
def uptoBulkAll {H : Type} : List (DataW H) → Nat
  | [] => 0
  | d :: r => uptoBulk d + uptoBulkAll r
def uptoBulkEntries {H : Type} : List (Lit × DataW H) → Nat
  | [] => 0
  | x :: r => uptoBulkEntry x + uptoBulkEntries r
def uptoBulkEntry {H : Type} : Lit × DataW H → Nat
  | (.string bytes, d) => bytes.length + uptoBulk d + 1
  | (_, d) => uptoBulk d + 1
 end
def uptoSmall : (H : Type) → List (DataW H) → Bool := fun _ ds => decide (uptoBulkAll ds ≤ 1048576)
def OpenSpec.upto (s : _root_.Go.ChangeSpec) : _root_.Go.OpenSpec := { _root_.Go.OpenSpec.ofChange s with cond := some uptoSmall }

/-- 'narthexlaw28.FdsNext', WHERE WHAT IT READS IS OF BULK AT MOST 1048576: true; the input reads as it did. -/
def fdsNextUptoRow : OpenClaim := { program := "ytfacegnnmgmjmaa", sum := "30951f76ac5fdf5791fb409149305849c800e0a1b38e45a8e76d8bb3782c2c6a", func := "narthex/narthexlaw28.FdsNext", spec := "fdsNext", unfollowed := true, recurses := true, apart := false, narrowed := true }
def FdsNextUptoSaid : Prop := fdsNextUptoRow.holds Try.pinned (OpenSpec.upto fdsNextSpec)

/-- 'narthexlaw28.FdsFlags', WHERE WHAT IT READS IS OF BULK AT MOST 1048576: true; the input reads as it did. -/
def fdsFlagsUptoRow : OpenClaim := { program := "ytfacegnnmgmjmaa", sum := "30951f76ac5fdf5791fb409149305849c800e0a1b38e45a8e76d8bb3782c2c6a", func := "narthex/narthexlaw28.FdsFlags", spec := "fdsFlags", unfollowed := true, recurses := true, apart := false, narrowed := true }
def FdsFlagsUptoSaid : Prop := fdsFlagsUptoRow.holds Try.pinned (OpenSpec.upto fdsFlagsSpec)

/-- 'narthexlaw28.FdsOwn', WHERE WHAT IT READS IS OF BULK AT MOST 1048576: true; the input reads as it did. -/
def fdsOwnUptoRow : OpenClaim := { program := "ytfacegnnmgmjmaa", sum := "30951f76ac5fdf5791fb409149305849c800e0a1b38e45a8e76d8bb3782c2c6a", func := "narthex/narthexlaw28.FdsOwn", spec := "fdsOwn", unfollowed := true, recurses := true, apart := false, narrowed := true }
def FdsOwnUptoSaid : Prop := fdsOwnUptoRow.holds Try.pinned (OpenSpec.upto fdsOwnSpec)

/-- 'narthexlaw28.FdsPlay', WHERE WHAT IT READS IS OF BULK AT MOST 1048576: true; the input reads as it did. -/
def fdsPlayUptoRow : OpenClaim := { program := "ytfacegnnmgmjmaa", sum := "30951f76ac5fdf5791fb409149305849c800e0a1b38e45a8e76d8bb3782c2c6a", func := "narthex/narthexlaw28.FdsPlay", spec := "fdsPlay", unfollowed := true, recurses := true, apart := false, narrowed := true }
def FdsPlayUptoSaid : Prop := fdsPlayUptoRow.holds Try.pinned (OpenSpec.upto fdsPlaySpec)

/-- 'narthexlaw28.FdsNone', WHERE WHAT IT READS IS OF BULK AT MOST 1048576: true; the input reads as it did. -/
def fdsNoneUptoRow : OpenClaim := { program := "ytfacegnnmgmjmaa", sum := "30951f76ac5fdf5791fb409149305849c800e0a1b38e45a8e76d8bb3782c2c6a", func := "narthex/narthexlaw28.FdsNone", spec := "fdsNone", unfollowed := true, recurses := true, apart := false, narrowed := true }
def FdsNoneUptoSaid : Prop := fdsNoneUptoRow.holds Try.pinned (OpenSpec.upto fdsNoneSpec)

end Rows
end Go.Proofs.Ytfacegnnmgmjmaa
