/-
  No cell of these rows narrows 'for every input' (looked for: loops, veiled, ifaces, maps, wideKeys, modest, calm, conditions, laid).
  DERIVED. THE GIVEN ROWS OF THIS SEAT. 3 by the template 'for every input the law returns true; each argument reads behind the call as it read before'; 0 by the template 'total and deterministic' (their statements: YtnmlonicfncpfaaTotals.lean).
  GIVEN WITH THE SEED: the statements are not yours to turn. If you find one false, say at which input.
  Laid BY PROGRAM, IN A SANDBOX (cutbox-rows.mjs): the forced cells as the released guide's own fill.sh prints them over the translation e859eabb2cba8e02… (all of the seat's roots in one cut). By AI agents, Wed Nov 11 2026. No macro, syntax, notation, axiom, sorry.
-/
import Derived.Test.YtnmlonicfncpfaaChecked
import GoSem.Claim
import GoSem.ClaimJoined
import GoSem.ClaimMapViews
import Derived.JoinedTies
import Derived.KernelRfl
namespace Go.Proofs.Ytnmlonicfncpfaa
/- THE CELL 'sum', in the pinned program and in every row, IS THE sha256 OF THE DUMP (.gsa) THAT YtnmlonicfncpfaaProg.lean LOADS. Nothing in Lean hashes anything: it is a label: what it is worth is what the hold of that sum in a sandbox is worth. -/
noncomputable def Try.pinned : Pinned := { name := "ytnmlonicfncpfaa", sum := "e859eabb2cba8e02a35a59e731bb28fca679613b1c40777803e63d80154e2c0e", checked := Try.checked }
namespace Rows
def none {H : Type} : Left H := { results := [], args := [] }

/-- 'chequerlaw15.DictWays': WHATEVER THE INPUT: true; the input reads as it did. -/
def dictWaysSpec : ChangeSpec := { name := "dictWays", fn := fun _ => fun
  | [d1, d2] => { results := [.lit (.bool true)], args := [d1, d2] }
  | _ => none }
def dictWaysRow : OpenClaim := { program := "ytnmlonicfncpfaa", sum := "e859eabb2cba8e02a35a59e731bb28fca679613b1c40777803e63d80154e2c0e", func := "chequer/chequerlaw15.DictWays", spec := "dictWays", unfollowed := true, recurses := true, apart := false }
def DictWaysSaid : Prop := dictWaysRow.holds Try.pinned (OpenSpec.ofChange dictWaysSpec)

/-- ITS FALSE NEIGHBOUR: 'it returns false'. Refute it at one input. -/
def dictWaysWrong : ChangeSpec := { name := "dictWays", fn := fun _ => fun
  | [d1, d2] => { results := [.lit (.bool false)], args := [d1, d2] }
  | _ => none }
def DictWaysWrongFalsely : Prop := dictWaysRow.holds Try.pinned (OpenSpec.ofChange dictWaysWrong)

/-- 'chequerlaw15.DictFull': WHATEVER THE INPUT: true; the input reads as it did. -/
def dictFullSpec : ChangeSpec := { name := "dictFull", fn := fun _ => fun
  | [d1, d2] => { results := [.lit (.bool true)], args := [d1, d2] }
  | _ => none }
def dictFullRow : OpenClaim := { program := "ytnmlonicfncpfaa", sum := "e859eabb2cba8e02a35a59e731bb28fca679613b1c40777803e63d80154e2c0e", func := "chequer/chequerlaw15.DictFull", spec := "dictFull", unfollowed := true, recurses := true, apart := false }
def DictFullSaid : Prop := dictFullRow.holds Try.pinned (OpenSpec.ofChange dictFullSpec)

/-- ITS FALSE NEIGHBOUR: 'it returns false'. Refute it at one input. -/
def dictFullWrong : ChangeSpec := { name := "dictFull", fn := fun _ => fun
  | [d1, d2] => { results := [.lit (.bool false)], args := [d1, d2] }
  | _ => none }
def DictFullWrongFalsely : Prop := dictFullRow.holds Try.pinned (OpenSpec.ofChange dictFullWrong)

/-- 'chequerlaw15.DictTall': WHATEVER THE INPUT: true; the input reads as it did. -/
def dictTallSpec : ChangeSpec := { name := "dictTall", fn := fun _ => fun
  | [d1, d2] => { results := [.lit (.bool true)], args := [d1, d2] }
  | _ => none }
def dictTallRow : OpenClaim := { program := "ytnmlonicfncpfaa", sum := "e859eabb2cba8e02a35a59e731bb28fca679613b1c40777803e63d80154e2c0e", func := "chequer/chequerlaw15.DictTall", spec := "dictTall", unfollowed := true, recurses := true, apart := false }
def DictTallSaid : Prop := dictTallRow.holds Try.pinned (OpenSpec.ofChange dictTallSpec)

/-- ITS FALSE NEIGHBOUR: 'it returns false'. Refute it at one input. -/
def dictTallWrong : ChangeSpec := { name := "dictTall", fn := fun _ => fun
  | [d1, d2] => { results := [.lit (.bool false)], args := [d1, d2] }
  | _ => none }
def DictTallWrongFalsely : Prop := dictTallRow.holds Try.pinned (OpenSpec.ofChange dictTallWrong)

/- THE SECOND FORM. 'bulk': how many values and letters a reading holds, each counted each time it is reached (what is shared counts as often as it is met; a slice's spare places count too). A statement '..UptoSaid' is the law's where the arguments, and the package variables that the reading takes, are together of bulk at most 1048576: NARROWER than '..Said'. Prove '..Said' where nothing that the law and all that it calls make is longer than what came in: it says more and counts as full. Else prove '..UptoSaid'. A law counts once. -/
mutual
def uptoBulk {H : Type} : DataW H → Nat
  | .lit (.string bytes) => bytes.length + 1
  | .lit _ => 1
  | .nil => 1
  | .ptr d => uptoBulk d + 1
  | .slice elems spare => uptoBulkAll elems + uptoBulkAll spare + 1
  | .agg parts => uptoBulkAll parts + 1
  | .iface _ d => uptoBulk d + 1
  | .map entries => uptoBulkEntries entries + 1
  | .held _ => 1
def uptoBulkAll {H : Type} : List (DataW H) → Nat
  | [] => 0
  | d :: r => uptoBulk d + uptoBulkAll r
def uptoBulkEntries {H : Type} : List (Lit × DataW H) → Nat
  | [] => 0
  | x :: r => uptoBulkEntry x + uptoBulkEntries r
def uptoBulkEntry {H : Type} : Lit × DataW H → Nat
  | (.string bytes, d) => bytes.length + uptoBulk d + 1
  | (_, d) => uptoBulk d + 1
 end
def uptoSmall : (H : Type) → List (DataW H) → Bool := fun _ ds => decide (uptoBulkAll ds ≤ 1048576)
def OpenSpec.upto (s : _root_.Go.ChangeSpec) : _root_.Go.OpenSpec := { _root_.Go.OpenSpec.ofChange s with cond := some uptoSmall }

/-- 'chequerlaw15.DictWays', WHERE WHAT IT READS IS OF BULK AT MOST 1048576: true; the input reads as it did. -/
def dictWaysUptoRow : OpenClaim := { program := "ytnmlonicfncpfaa", sum := "e859eabb2cba8e02a35a59e731bb28fca679613b1c40777803e63d80154e2c0e", func := "chequer/chequerlaw15.DictWays", spec := "dictWays", unfollowed := true, recurses := true, apart := false, narrowed := true }
def DictWaysUptoSaid : Prop := dictWaysUptoRow.holds Try.pinned (OpenSpec.upto dictWaysSpec)

/-- 'chequerlaw15.DictFull', WHERE WHAT IT READS IS OF BULK AT MOST 1048576: true; the input reads as it did. -/
def dictFullUptoRow : OpenClaim := { program := "ytnmlonicfncpfaa", sum := "e859eabb2cba8e02a35a59e731bb28fca679613b1c40777803e63d80154e2c0e", func := "chequer/chequerlaw15.DictFull", spec := "dictFull", unfollowed := true, recurses := true, apart := false, narrowed := true }
def DictFullUptoSaid : Prop := dictFullUptoRow.holds Try.pinned (OpenSpec.upto dictFullSpec)

/-- 'chequerlaw15.DictTall', WHERE WHAT IT READS IS OF BULK AT MOST 1048576: true; the input reads as it did. -/
def dictTallUptoRow : OpenClaim := { program := "ytnmlonicfncpfaa", sum := "e859eabb2cba8e02a35a59e731bb28fca679613b1c40777803e63d80154e2c0e", func := "chequer/chequerlaw15.DictTall", spec := "dictTall", unfollowed := true, recurses := true, apart := false, narrowed := true }
def DictTallUptoSaid : Prop := dictTallUptoRow.holds Try.pinned (OpenSpec.upto dictTallSpec)

end Rows
end Go.Proofs.Ytnmlonicfncpfaa
