/-
  No cell of these rows narrows 'for every input' (looked for: loops, veiled, ifaces, maps, wideKeys, modest, calm, conditions, laid).
  DERIVED. THE GIVEN ROWS OF THIS SEAT. 6 by the template 'for every input the law returns true; each argument reads behind the call as it read before'; 0 by the template 'total and deterministic' (their statements: YthmcefalaieigaaTotals.lean).
  GIVEN WITH THE SEED: the statements are not yours to turn. If you find one false, say at which input.
  Laid BY PROGRAM, IN A SANDBOX (cutbox-rows.mjs): the forced cells as the released guide's own fill.sh prints them over the translation f3d1c6701345f017… (all of the seat's roots in one cut). By AI agents, Wed Nov 11 2026. No macro, syntax, notation, axiom, sorry.
-/
import Derived.Test.YthmcefalaieigaaChecked
import GoSem.Claim
import GoSem.ClaimJoined
import GoSem.ClaimMapViews
import Derived.JoinedTies
import Derived.KernelRfl
namespace Go.Proofs.Ythmcefalaieigaa
/- THE CELL 'sum', in the pinned program and in every row, IS THE sha256 OF THE DUMP (.gsa) THAT YthmcefalaieigaaProg.lean LOADS. Nothing in Lean hashes anything: it is a label: what it is worth is what the hold of that sum in a sandbox is worth. -/
noncomputable def Try.pinned : Pinned := { name := "ythmcefalaieigaa", sum := "f3d1c6701345f01705899b34566724291d476477928450a5297c96959c4d7f97", checked := Try.checked }
namespace Rows
def none {H : Type} : Left H := { results := [], args := [] }

/-- 'chequerlaw12.TrieChildren': WHATEVER THE INPUT: true; the input reads as it did. -/
def trieChildrenSpec : ChangeSpec := { name := "trieChildren", fn := fun _ => fun
  | [d1, d2, d3] => { results := [.lit (.bool true)], args := [d1, d2, d3] }
  | _ => none }
def trieChildrenRow : OpenClaim := { program := "ythmcefalaieigaa", sum := "f3d1c6701345f01705899b34566724291d476477928450a5297c96959c4d7f97", func := "chequer/chequerlaw12.TrieChildren", spec := "trieChildren", inPlace := ["slices.overlaps[chequer/trie.edge]"], unfollowed := true, recurses := true, apart := false }
def TrieChildrenSaid : Prop := trieChildrenRow.holds Try.pinned (OpenSpec.ofChange trieChildrenSpec)

/-- ITS FALSE NEIGHBOUR: 'it returns false'. Refute it at one input. -/
def trieChildrenWrong : ChangeSpec := { name := "trieChildren", fn := fun _ => fun
  | [d1, d2, d3] => { results := [.lit (.bool false)], args := [d1, d2, d3] }
  | _ => none }
def TrieChildrenWrongFalsely : Prop := trieChildrenRow.holds Try.pinned (OpenSpec.ofChange trieChildrenWrong)

/-- 'chequerlaw12.TrieTwice': WHATEVER THE INPUT: true; the input reads as it did. -/
def trieTwiceSpec : ChangeSpec := { name := "trieTwice", fn := fun _ => fun
  | [d] => { results := [.lit (.bool true)], args := [d] }
  | _ => none }
def trieTwiceRow : OpenClaim := { program := "ythmcefalaieigaa", sum := "f3d1c6701345f01705899b34566724291d476477928450a5297c96959c4d7f97", func := "chequer/chequerlaw12.TrieTwice", spec := "trieTwice", inPlace := ["slices.overlaps[chequer/trie.edge]"], unfollowed := true, recurses := true, apart := false }
def TrieTwiceSaid : Prop := trieTwiceRow.holds Try.pinned (OpenSpec.ofChange trieTwiceSpec)

/-- ITS FALSE NEIGHBOUR: 'it returns false'. Refute it at one input. -/
def trieTwiceWrong : ChangeSpec := { name := "trieTwice", fn := fun _ => fun
  | [d] => { results := [.lit (.bool false)], args := [d] }
  | _ => none }
def TrieTwiceWrongFalsely : Prop := trieTwiceRow.holds Try.pinned (OpenSpec.ofChange trieTwiceWrong)

/-- 'chequerlaw12.TrieWalks': WHATEVER THE INPUT: true; the input reads as it did. -/
def trieWalksSpec : ChangeSpec := { name := "trieWalks", fn := fun _ => fun
  | [d1, d2, d3] => { results := [.lit (.bool true)], args := [d1, d2, d3] }
  | _ => none }
def trieWalksRow : OpenClaim := { program := "ythmcefalaieigaa", sum := "f3d1c6701345f01705899b34566724291d476477928450a5297c96959c4d7f97", func := "chequer/chequerlaw12.TrieWalks", spec := "trieWalks", inPlace := ["slices.overlaps[chequer/trie.edge]"], unfollowed := true, recurses := true, apart := false }
def TrieWalksSaid : Prop := trieWalksRow.holds Try.pinned (OpenSpec.ofChange trieWalksSpec)

/-- ITS FALSE NEIGHBOUR: 'it returns false'. Refute it at one input. -/
def trieWalksWrong : ChangeSpec := { name := "trieWalks", fn := fun _ => fun
  | [d1, d2, d3] => { results := [.lit (.bool false)], args := [d1, d2, d3] }
  | _ => none }
def TrieWalksWrongFalsely : Prop := trieWalksRow.holds Try.pinned (OpenSpec.ofChange trieWalksWrong)

/-- 'chequerlaw12.TrieLevels': WHATEVER THE INPUT: true; the input reads as it did. -/
def trieLevelsSpec : ChangeSpec := { name := "trieLevels", fn := fun _ => fun
  | [d1, d2] => { results := [.lit (.bool true)], args := [d1, d2] }
  | _ => none }
def trieLevelsRow : OpenClaim := { program := "ythmcefalaieigaa", sum := "f3d1c6701345f01705899b34566724291d476477928450a5297c96959c4d7f97", func := "chequer/chequerlaw12.TrieLevels", spec := "trieLevels", inPlace := ["slices.overlaps[chequer/trie.edge]"], unfollowed := true, recurses := true, apart := false }
def TrieLevelsSaid : Prop := trieLevelsRow.holds Try.pinned (OpenSpec.ofChange trieLevelsSpec)

/-- ITS FALSE NEIGHBOUR: 'it returns false'. Refute it at one input. -/
def trieLevelsWrong : ChangeSpec := { name := "trieLevels", fn := fun _ => fun
  | [d1, d2] => { results := [.lit (.bool false)], args := [d1, d2] }
  | _ => none }
def TrieLevelsWrongFalsely : Prop := trieLevelsRow.holds Try.pinned (OpenSpec.ofChange trieLevelsWrong)

/-- 'chequerlaw12.TrieCounts': WHATEVER THE INPUT: true; the input reads as it did. -/
def trieCountsSpec : ChangeSpec := { name := "trieCounts", fn := fun _ => fun
  | [d] => { results := [.lit (.bool true)], args := [d] }
  | _ => none }
def trieCountsRow : OpenClaim := { program := "ythmcefalaieigaa", sum := "f3d1c6701345f01705899b34566724291d476477928450a5297c96959c4d7f97", func := "chequer/chequerlaw12.TrieCounts", spec := "trieCounts", inPlace := ["slices.overlaps[chequer/trie.edge]"], unfollowed := true, recurses := true, apart := false }
def TrieCountsSaid : Prop := trieCountsRow.holds Try.pinned (OpenSpec.ofChange trieCountsSpec)

/-- ITS FALSE NEIGHBOUR: 'it returns false'. Refute it at one input. -/
def trieCountsWrong : ChangeSpec := { name := "trieCounts", fn := fun _ => fun
  | [d] => { results := [.lit (.bool false)], args := [d] }
  | _ => none }
def TrieCountsWrongFalsely : Prop := trieCountsRow.holds Try.pinned (OpenSpec.ofChange trieCountsWrong)

/-- 'chequerlaw12.TriePuts': WHATEVER THE INPUT: true; the input reads as it did. -/
def triePutsSpec : ChangeSpec := { name := "triePuts", fn := fun _ => fun
  | [d1, d2, d3] => { results := [.lit (.bool true)], args := [d1, d2, d3] }
  | _ => none }
def triePutsRow : OpenClaim := { program := "ythmcefalaieigaa", sum := "f3d1c6701345f01705899b34566724291d476477928450a5297c96959c4d7f97", func := "chequer/chequerlaw12.TriePuts", spec := "triePuts", inPlace := ["slices.overlaps[chequer/trie.edge]"], unfollowed := true, recurses := true, apart := false }
def TriePutsSaid : Prop := triePutsRow.holds Try.pinned (OpenSpec.ofChange triePutsSpec)

/-- ITS FALSE NEIGHBOUR: 'it returns false'. Refute it at one input. -/
def triePutsWrong : ChangeSpec := { name := "triePuts", fn := fun _ => fun
  | [d1, d2, d3] => { results := [.lit (.bool false)], args := [d1, d2, d3] }
  | _ => none }
def TriePutsWrongFalsely : Prop := triePutsRow.holds Try.pinned (OpenSpec.ofChange triePutsWrong)

/- THE SECOND FORM. 'bulk': how many values and letters a reading holds, each counted each time it is reached (what is shared counts as often as it is met; a slice's spare places count too). A statement '..UptoSaid' is the law's where the arguments, and the package variables that the reading takes, are together of bulk at most 1048576: NARROWER than '..Said'. Prove '..Said' where nothing that the law and all that it calls make is longer than what came in: it says more and counts as full. Else prove '..UptoSaid'. A law counts once. -/
mutual
def uptoBulk {H : Type} : DataW H → Nat
  | .lit (.string bytes) => bytes.length + 1
  | .lit _ => 1
  | .nil => 1
  | .ptr d => uptoBulk d + 1
  | .slice elems spare => uptoBulkAll elems + uptoBulkAll spare + 1
  | .agg parts => uptoBulkAll parts + 1
  | .iface _ d => uptoBulk d + 1
  | .map entries => uptoBulkEntries entries + 1
  | .held _ => 1
def uptoBulkAll {H : Type} : List (DataW H) → Nat
  | [] => 0
  | d :: r => uptoBulk d + uptoBulkAll r
def uptoBulkEntries {H : Type} : List (Lit × DataW H) → Nat
  | [] => 0
  | x :: r => uptoBulkEntry x + uptoBulkEntries r
def uptoBulkEntry {H : Type} : Lit × DataW H → Nat
  | (.string bytes, d) => bytes.length + uptoBulk d + 1
  | (_, d) => uptoBulk d + 1
 end
def uptoSmall : (H : Type) → List (DataW H) → Bool := fun _ ds => decide (uptoBulkAll ds ≤ 1048576)
def OpenSpec.upto (s : _root_.Go.ChangeSpec) : _root_.Go.OpenSpec := { _root_.Go.OpenSpec.ofChange s with cond := some uptoSmall }

/-- 'chequerlaw12.TrieChildren', WHERE WHAT IT READS IS OF BULK AT MOST 1048576: true; the input reads as it did. -/
def trieChildrenUptoRow : OpenClaim := { program := "ythmcefalaieigaa", sum := "f3d1c6701345f01705899b34566724291d476477928450a5297c96959c4d7f97", func := "chequer/chequerlaw12.TrieChildren", spec := "trieChildren", inPlace := ["slices.overlaps[chequer/trie.edge]"], unfollowed := true, recurses := true, apart := false, narrowed := true }
def TrieChildrenUptoSaid : Prop := trieChildrenUptoRow.holds Try.pinned (OpenSpec.upto trieChildrenSpec)

/-- 'chequerlaw12.TrieTwice', WHERE WHAT IT READS IS OF BULK AT MOST 1048576: true; the input reads as it did. -/
def trieTwiceUptoRow : OpenClaim := { program := "ythmcefalaieigaa", sum := "f3d1c6701345f01705899b34566724291d476477928450a5297c96959c4d7f97", func := "chequer/chequerlaw12.TrieTwice", spec := "trieTwice", inPlace := ["slices.overlaps[chequer/trie.edge]"], unfollowed := true, recurses := true, apart := false, narrowed := true }
def TrieTwiceUptoSaid : Prop := trieTwiceUptoRow.holds Try.pinned (OpenSpec.upto trieTwiceSpec)

/-- 'chequerlaw12.TrieWalks', WHERE WHAT IT READS IS OF BULK AT MOST 1048576: true; the input reads as it did. -/
def trieWalksUptoRow : OpenClaim := { program := "ythmcefalaieigaa", sum := "f3d1c6701345f01705899b34566724291d476477928450a5297c96959c4d7f97", func := "chequer/chequerlaw12.TrieWalks", spec := "trieWalks", inPlace := ["slices.overlaps[chequer/trie.edge]"], unfollowed := true, recurses := true, apart := false, narrowed := true }
def TrieWalksUptoSaid : Prop := trieWalksUptoRow.holds Try.pinned (OpenSpec.upto trieWalksSpec)

/-- 'chequerlaw12.TrieLevels', WHERE WHAT IT READS IS OF BULK AT MOST 1048576: true; the input reads as it did. -/
def trieLevelsUptoRow : OpenClaim := { program := "ythmcefalaieigaa", sum := "f3d1c6701345f01705899b34566724291d476477928450a5297c96959c4d7f97", func := "chequer/chequerlaw12.TrieLevels", spec := "trieLevels", inPlace := ["slices.overlaps[chequer/trie.edge]"], unfollowed := true, recurses := true, apart := false, narrowed := true }
def TrieLevelsUptoSaid : Prop := trieLevelsUptoRow.holds Try.pinned (OpenSpec.upto trieLevelsSpec)

/-- 'chequerlaw12.TrieCounts', WHERE WHAT IT READS IS OF BULK AT MOST 1048576: true; the input reads as it did. -/
def trieCountsUptoRow : OpenClaim := { program := "ythmcefalaieigaa", sum := "f3d1c6701345f01705899b34566724291d476477928450a5297c96959c4d7f97", func := "chequer/chequerlaw12.TrieCounts", spec := "trieCounts", inPlace := ["slices.overlaps[chequer/trie.edge]"], unfollowed := true, recurses := true, apart := false, narrowed := true }
def TrieCountsUptoSaid : Prop := trieCountsUptoRow.holds Try.pinned (OpenSpec.upto trieCountsSpec)

/-- 'chequerlaw12.TriePuts', WHERE WHAT IT READS IS OF BULK AT MOST 1048576: true; the input reads as it did. -/
def triePutsUptoRow : OpenClaim := { program := "ythmcefalaieigaa", sum := "f3d1c6701345f01705899b34566724291d476477928450a5297c96959c4d7f97", func := "chequer/chequerlaw12.TriePuts", spec := "triePuts", inPlace := ["slices.overlaps[chequer/trie.edge]"], unfollowed := true, recurses := true, apart := false, narrowed := true }
def TriePutsUptoSaid : Prop := triePutsUptoRow.holds Try.pinned (OpenSpec.upto triePutsSpec)

end Rows
end Go.Proofs.Ythmcefalaieigaa
