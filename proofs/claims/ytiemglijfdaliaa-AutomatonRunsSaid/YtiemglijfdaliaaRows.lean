/-
  No cell of these rows narrows 'for every input' (looked for: loops, veiled, ifaces, maps, wideKeys, modest, calm, conditions, laid).
  DERIVED. THE GIVEN ROWS OF THIS SEAT. 6 by the template 'for every input the law returns true; each argument reads behind the call as it read before'; 0 by the template 'total and deterministic' (their statements: YtiemglijfdaliaaTotals.lean).
  GIVEN WITH THE SEED: the statements are not yours to turn. If you find one false, say at which input.
  Laid BY PROGRAM, IN A SANDBOX (cutbox-rows.mjs): the forced cells as the released guide's own fill.sh prints them over the translation 4c61c6d57cbda1dd… (all of the seat's roots in one cut). By AI agents, Wed Nov 11 2026. No macro, syntax, notation, axiom, sorry.
-/
import Derived.Test.YtiemglijfdaliaaChecked
import GoSem.Claim
import GoSem.ClaimJoined
import GoSem.ClaimMapViews
import Derived.JoinedTies
import Derived.KernelRfl
namespace Go.Proofs.Ytiemglijfdaliaa
/- THE CELL 'sum', in the pinned program and in every row, IS THE sha256 OF THE DUMP (.gsa) THAT YtiemglijfdaliaaProg.lean LOADS. Nothing in Lean hashes anything: it is a label: what it is worth is what the hold of that sum in a sandbox is worth. -/
noncomputable def Try.pinned : Pinned := { name := "ytiemglijfdaliaa", sum := "4c61c6d57cbda1dde42ef8f6d872f14ea230689d59ac49aa11db4f67822ac042", checked := Try.checked }
namespace Rows
def none {H : Type} : Left H := { results := [], args := [] }

/-- 'chequerlaw13.AutomatonSteps': WHATEVER THE INPUT: true; the input reads as it did. -/
def automatonStepsSpec : ChangeSpec := { name := "automatonSteps", fn := fun _ => fun
  | [d1, d2, d3, d4] => { results := [.lit (.bool true)], args := [d1, d2, d3, d4] }
  | _ => none }
def automatonStepsRow : OpenClaim := { program := "ytiemglijfdaliaa", sum := "4c61c6d57cbda1dde42ef8f6d872f14ea230689d59ac49aa11db4f67822ac042", func := "chequer/chequerlaw13.AutomatonSteps", spec := "automatonSteps", inPlace := ["slices.overlaps[chequer/trie.edge]"], unfollowed := true, recurses := true, apart := false }
def AutomatonStepsSaid : Prop := automatonStepsRow.holds Try.pinned (OpenSpec.ofChange automatonStepsSpec)

/-- ITS FALSE NEIGHBOUR: 'it returns false'. Refute it at one input. -/
def automatonStepsWrong : ChangeSpec := { name := "automatonSteps", fn := fun _ => fun
  | [d1, d2, d3, d4] => { results := [.lit (.bool false)], args := [d1, d2, d3, d4] }
  | _ => none }
def AutomatonStepsWrongFalsely : Prop := automatonStepsRow.holds Try.pinned (OpenSpec.ofChange automatonStepsWrong)

/-- 'chequerlaw13.AutomatonRuns': WHATEVER THE INPUT: true; the input reads as it did. -/
def automatonRunsSpec : ChangeSpec := { name := "automatonRuns", fn := fun _ => fun
  | [d1, d2, d3, d4] => { results := [.lit (.bool true)], args := [d1, d2, d3, d4] }
  | _ => none }
def automatonRunsRow : OpenClaim := { program := "ytiemglijfdaliaa", sum := "4c61c6d57cbda1dde42ef8f6d872f14ea230689d59ac49aa11db4f67822ac042", func := "chequer/chequerlaw13.AutomatonRuns", spec := "automatonRuns", inPlace := ["slices.overlaps[chequer/trie.edge]"], unfollowed := true, recurses := true, apart := false }
def AutomatonRunsSaid : Prop := automatonRunsRow.holds Try.pinned (OpenSpec.ofChange automatonRunsSpec)

/-- ITS FALSE NEIGHBOUR: 'it returns false'. Refute it at one input. -/
def automatonRunsWrong : ChangeSpec := { name := "automatonRuns", fn := fun _ => fun
  | [d1, d2, d3, d4] => { results := [.lit (.bool false)], args := [d1, d2, d3, d4] }
  | _ => none }
def AutomatonRunsWrongFalsely : Prop := automatonRunsRow.holds Try.pinned (OpenSpec.ofChange automatonRunsWrong)

/-- 'chequerlaw13.AutomatonOwn': WHATEVER THE INPUT: true; the input reads as it did. -/
def automatonOwnSpec : ChangeSpec := { name := "automatonOwn", fn := fun _ => fun
  | [d1, d2] => { results := [.lit (.bool true)], args := [d1, d2] }
  | _ => none }
def automatonOwnRow : OpenClaim := { program := "ytiemglijfdaliaa", sum := "4c61c6d57cbda1dde42ef8f6d872f14ea230689d59ac49aa11db4f67822ac042", func := "chequer/chequerlaw13.AutomatonOwn", spec := "automatonOwn", inPlace := ["slices.overlaps[chequer/trie.edge]"], unfollowed := true, recurses := true, apart := false }
def AutomatonOwnSaid : Prop := automatonOwnRow.holds Try.pinned (OpenSpec.ofChange automatonOwnSpec)

/-- ITS FALSE NEIGHBOUR: 'it returns false'. Refute it at one input. -/
def automatonOwnWrong : ChangeSpec := { name := "automatonOwn", fn := fun _ => fun
  | [d1, d2] => { results := [.lit (.bool false)], args := [d1, d2] }
  | _ => none }
def AutomatonOwnWrongFalsely : Prop := automatonOwnRow.holds Try.pinned (OpenSpec.ofChange automatonOwnWrong)

/-- 'chequerlaw13.AutomatonDepths': WHATEVER THE INPUT: true; the input reads as it did. -/
def automatonDepthsSpec : ChangeSpec := { name := "automatonDepths", fn := fun _ => fun
  | [d1, d2] => { results := [.lit (.bool true)], args := [d1, d2] }
  | _ => none }
def automatonDepthsRow : OpenClaim := { program := "ytiemglijfdaliaa", sum := "4c61c6d57cbda1dde42ef8f6d872f14ea230689d59ac49aa11db4f67822ac042", func := "chequer/chequerlaw13.AutomatonDepths", spec := "automatonDepths", inPlace := ["slices.overlaps[chequer/trie.edge]"], unfollowed := true, recurses := true, apart := false }
def AutomatonDepthsSaid : Prop := automatonDepthsRow.holds Try.pinned (OpenSpec.ofChange automatonDepthsSpec)

/-- ITS FALSE NEIGHBOUR: 'it returns false'. Refute it at one input. -/
def automatonDepthsWrong : ChangeSpec := { name := "automatonDepths", fn := fun _ => fun
  | [d1, d2] => { results := [.lit (.bool false)], args := [d1, d2] }
  | _ => none }
def AutomatonDepthsWrongFalsely : Prop := automatonDepthsRow.holds Try.pinned (OpenSpec.ofChange automatonDepthsWrong)

/-- 'chequerlaw13.AutomatonSame': WHATEVER THE INPUT: true; the input reads as it did. -/
def automatonSameSpec : ChangeSpec := { name := "automatonSame", fn := fun _ => fun
  | [d1, d2, d3] => { results := [.lit (.bool true)], args := [d1, d2, d3] }
  | _ => none }
def automatonSameRow : OpenClaim := { program := "ytiemglijfdaliaa", sum := "4c61c6d57cbda1dde42ef8f6d872f14ea230689d59ac49aa11db4f67822ac042", func := "chequer/chequerlaw13.AutomatonSame", spec := "automatonSame", inPlace := ["slices.overlaps[chequer/trie.edge]"], unfollowed := true, recurses := true, apart := false }
def AutomatonSameSaid : Prop := automatonSameRow.holds Try.pinned (OpenSpec.ofChange automatonSameSpec)

/-- ITS FALSE NEIGHBOUR: 'it returns false'. Refute it at one input. -/
def automatonSameWrong : ChangeSpec := { name := "automatonSame", fn := fun _ => fun
  | [d1, d2, d3] => { results := [.lit (.bool false)], args := [d1, d2, d3] }
  | _ => none }
def AutomatonSameWrongFalsely : Prop := automatonSameRow.holds Try.pinned (OpenSpec.ofChange automatonSameWrong)

/-- 'chequerlaw13.AutomatonFalls': WHATEVER THE INPUT: true; the input reads as it did. -/
def automatonFallsSpec : ChangeSpec := { name := "automatonFalls", fn := fun _ => fun
  | [d1, d2, d3] => { results := [.lit (.bool true)], args := [d1, d2, d3] }
  | _ => none }
def automatonFallsRow : OpenClaim := { program := "ytiemglijfdaliaa", sum := "4c61c6d57cbda1dde42ef8f6d872f14ea230689d59ac49aa11db4f67822ac042", func := "chequer/chequerlaw13.AutomatonFalls", spec := "automatonFalls", inPlace := ["slices.overlaps[chequer/trie.edge]"], unfollowed := true, recurses := true, apart := false }
def AutomatonFallsSaid : Prop := automatonFallsRow.holds Try.pinned (OpenSpec.ofChange automatonFallsSpec)

/-- ITS FALSE NEIGHBOUR: 'it returns false'. Refute it at one input. -/
def automatonFallsWrong : ChangeSpec := { name := "automatonFalls", fn := fun _ => fun
  | [d1, d2, d3] => { results := [.lit (.bool false)], args := [d1, d2, d3] }
  | _ => none }
def AutomatonFallsWrongFalsely : Prop := automatonFallsRow.holds Try.pinned (OpenSpec.ofChange automatonFallsWrong)

/- THE SECOND FORM. 'bulk': how many values and letters a reading holds, each counted each time it is reached (what is shared counts as often as it is met; a slice's spare places count too). A statement '..UptoSaid' is the law's where the arguments, and the package variables that the reading takes, are together of bulk at most 1048576: NARROWER than '..Said'. Prove '..Said' where nothing that the law and all that it calls make is longer than what came in: it says more and counts as full. Else prove '..UptoSaid'. A law counts once. -/
mutual
def uptoBulk {H : Type} : DataW H → Nat
  | .lit (.string bytes) => bytes.length + 1
  | .lit _ => 1
  | .nil => 1
  | .ptr d => uptoBulk d + 1
  | .slice elems spare => uptoBulkAll elems + uptoBulkAll spare + 1
  | .agg parts => uptoBulkAll parts + 1
  | .iface _ d => uptoBulk d + 1
  | .map entries => uptoBulkEntries entries + 1
  | .held _ => 1
def uptoBulkAll {H : Type} : List (DataW H) → Nat
  | [] => 0
  | d :: r => uptoBulk d + uptoBulkAll r
def uptoBulkEntries {H : Type} : List (Lit × DataW H) → Nat
  | [] => 0
  | x :: r => uptoBulkEntry x + uptoBulkEntries r
def uptoBulkEntry {H : Type} : Lit × DataW H → Nat
  | (.string bytes, d) => bytes.length + uptoBulk d + 1
  | (_, d) => uptoBulk d + 1
 end
def uptoSmall : (H : Type) → List (DataW H) → Bool := fun _ ds => decide (uptoBulkAll ds ≤ 1048576)
def OpenSpec.upto (s : _root_.Go.ChangeSpec) : _root_.Go.OpenSpec := { _root_.Go.OpenSpec.ofChange s with cond := some uptoSmall }

/-- 'chequerlaw13.AutomatonSteps', WHERE WHAT IT READS IS OF BULK AT MOST 1048576: true; the input reads as it did. -/
def automatonStepsUptoRow : OpenClaim := { program := "ytiemglijfdaliaa", sum := "4c61c6d57cbda1dde42ef8f6d872f14ea230689d59ac49aa11db4f67822ac042", func := "chequer/chequerlaw13.AutomatonSteps", spec := "automatonSteps", inPlace := ["slices.overlaps[chequer/trie.edge]"], unfollowed := true, recurses := true, apart := false, narrowed := true }
def AutomatonStepsUptoSaid : Prop := automatonStepsUptoRow.holds Try.pinned (OpenSpec.upto automatonStepsSpec)

/-- 'chequerlaw13.AutomatonRuns', WHERE WHAT IT READS IS OF BULK AT MOST 1048576: true; the input reads as it did. -/
def automatonRunsUptoRow : OpenClaim := { program := "ytiemglijfdaliaa", sum := "4c61c6d57cbda1dde42ef8f6d872f14ea230689d59ac49aa11db4f67822ac042", func := "chequer/chequerlaw13.AutomatonRuns", spec := "automatonRuns", inPlace := ["slices.overlaps[chequer/trie.edge]"], unfollowed := true, recurses := true, apart := false, narrowed := true }
def AutomatonRunsUptoSaid : Prop := automatonRunsUptoRow.holds Try.pinned (OpenSpec.upto automatonRunsSpec)

/-- 'chequerlaw13.AutomatonOwn', WHERE WHAT IT READS IS OF BULK AT MOST 1048576: true; the input reads as it did. -/
def automatonOwnUptoRow : OpenClaim := { program := "ytiemglijfdaliaa", sum := "4c61c6d57cbda1dde42ef8f6d872f14ea230689d59ac49aa11db4f67822ac042", func := "chequer/chequerlaw13.AutomatonOwn", spec := "automatonOwn", inPlace := ["slices.overlaps[chequer/trie.edge]"], unfollowed := true, recurses := true, apart := false, narrowed := true }
def AutomatonOwnUptoSaid : Prop := automatonOwnUptoRow.holds Try.pinned (OpenSpec.upto automatonOwnSpec)

/-- 'chequerlaw13.AutomatonDepths', WHERE WHAT IT READS IS OF BULK AT MOST 1048576: true; the input reads as it did. -/
def automatonDepthsUptoRow : OpenClaim := { program := "ytiemglijfdaliaa", sum := "4c61c6d57cbda1dde42ef8f6d872f14ea230689d59ac49aa11db4f67822ac042", func := "chequer/chequerlaw13.AutomatonDepths", spec := "automatonDepths", inPlace := ["slices.overlaps[chequer/trie.edge]"], unfollowed := true, recurses := true, apart := false, narrowed := true }
def AutomatonDepthsUptoSaid : Prop := automatonDepthsUptoRow.holds Try.pinned (OpenSpec.upto automatonDepthsSpec)

/-- 'chequerlaw13.AutomatonSame', WHERE WHAT IT READS IS OF BULK AT MOST 1048576: true; the input reads as it did. -/
def automatonSameUptoRow : OpenClaim := { program := "ytiemglijfdaliaa", sum := "4c61c6d57cbda1dde42ef8f6d872f14ea230689d59ac49aa11db4f67822ac042", func := "chequer/chequerlaw13.AutomatonSame", spec := "automatonSame", inPlace := ["slices.overlaps[chequer/trie.edge]"], unfollowed := true, recurses := true, apart := false, narrowed := true }
def AutomatonSameUptoSaid : Prop := automatonSameUptoRow.holds Try.pinned (OpenSpec.upto automatonSameSpec)

/-- 'chequerlaw13.AutomatonFalls', WHERE WHAT IT READS IS OF BULK AT MOST 1048576: true; the input reads as it did. -/
def automatonFallsUptoRow : OpenClaim := { program := "ytiemglijfdaliaa", sum := "4c61c6d57cbda1dde42ef8f6d872f14ea230689d59ac49aa11db4f67822ac042", func := "chequer/chequerlaw13.AutomatonFalls", spec := "automatonFalls", inPlace := ["slices.overlaps[chequer/trie.edge]"], unfollowed := true, recurses := true, apart := false, narrowed := true }
def AutomatonFallsUptoSaid : Prop := automatonFallsUptoRow.holds Try.pinned (OpenSpec.upto automatonFallsSpec)

end Rows
end Go.Proofs.Ytiemglijfdaliaa
