/-
  No cell of these rows narrows 'for every input' (looked for: loops, veiled, ifaces, maps, wideKeys, modest, calm, conditions, laid).
  DERIVED. THE GIVEN ROWS OF THIS SEAT. 6 by the template 'for every input the law returns true; each argument reads behind the call as it read before'; 0 by the template 'total and deterministic' (their statements: YtooaelpfbamebaaTotals.lean).
  GIVEN WITH THE SEED: the statements are not yours to turn. If you find one false, say at which input.
  Laid BY PROGRAM, IN A SANDBOX (cutbox-rows.mjs): the forced cells as the released guide's own fill.sh prints them over the translation 91e4c5c887de73ed… (all of the seat's roots in one cut). By AI agents, Wed Nov 11 2026. No macro, syntax, notation, axiom, sorry.
-/
import Derived.Test.YtooaelpfbamebaaChecked
import GoSem.Claim
import GoSem.ClaimJoined
import GoSem.ClaimMapViews
import Derived.JoinedTies
import Derived.KernelRfl
namespace Go.Proofs.Ytooaelpfbamebaa
/- THE CELL 'sum', in the pinned program and in every row, IS THE sha256 OF THE DUMP (.gsa) THAT YtooaelpfbamebaaProg.lean LOADS. Nothing in Lean hashes anything: it is a label: what it is worth is what the hold of that sum in a sandbox is worth. -/
noncomputable def Try.pinned : Pinned := { name := "ytooaelpfbamebaa", sum := "91e4c5c887de73ed6da50680a51dd5d2f53ef3ac22f7d8b10b4ad223b9e268d7", checked := Try.checked }
namespace Rows
def none {H : Type} : Left H := { results := [], args := [] }

/-- 'chequerlaw14.WordsScans': WHATEVER THE INPUT: true; the input reads as it did. -/
def wordsScansSpec : ChangeSpec := { name := "wordsScans", fn := fun _ => fun
  | [d1, d2, d3] => { results := [.lit (.bool true)], args := [d1, d2, d3] }
  | _ => none }
def wordsScansRow : OpenClaim := { program := "ytooaelpfbamebaa", sum := "91e4c5c887de73ed6da50680a51dd5d2f53ef3ac22f7d8b10b4ad223b9e268d7", func := "chequer/chequerlaw14.WordsScans", spec := "wordsScans", inPlace := ["slices.overlaps[chequer/trie.edge]"], unfollowed := true, recurses := true, apart := false }
def WordsScansSaid : Prop := wordsScansRow.holds Try.pinned (OpenSpec.ofChange wordsScansSpec)

/-- ITS FALSE NEIGHBOUR: 'it returns false'. Refute it at one input. -/
def wordsScansWrong : ChangeSpec := { name := "wordsScans", fn := fun _ => fun
  | [d1, d2, d3] => { results := [.lit (.bool false)], args := [d1, d2, d3] }
  | _ => none }
def WordsScansWrongFalsely : Prop := wordsScansRow.holds Try.pinned (OpenSpec.ofChange wordsScansWrong)

/-- 'chequerlaw14.WordsTwo': WHATEVER THE INPUT: true; the input reads as it did. -/
def wordsTwoSpec : ChangeSpec := { name := "wordsTwo", fn := fun _ => fun
  | [d1, d2, d3] => { results := [.lit (.bool true)], args := [d1, d2, d3] }
  | _ => none }
def wordsTwoRow : OpenClaim := { program := "ytooaelpfbamebaa", sum := "91e4c5c887de73ed6da50680a51dd5d2f53ef3ac22f7d8b10b4ad223b9e268d7", func := "chequer/chequerlaw14.WordsTwo", spec := "wordsTwo", inPlace := ["slices.overlaps[chequer/trie.edge]"], unfollowed := true, recurses := true, apart := false }
def WordsTwoSaid : Prop := wordsTwoRow.holds Try.pinned (OpenSpec.ofChange wordsTwoSpec)

/-- ITS FALSE NEIGHBOUR: 'it returns false'. Refute it at one input. -/
def wordsTwoWrong : ChangeSpec := { name := "wordsTwo", fn := fun _ => fun
  | [d1, d2, d3] => { results := [.lit (.bool false)], args := [d1, d2, d3] }
  | _ => none }
def WordsTwoWrongFalsely : Prop := wordsTwoRow.holds Try.pinned (OpenSpec.ofChange wordsTwoWrong)

/-- 'chequerlaw14.WordsSteps': WHATEVER THE INPUT: true; the input reads as it did. -/
def wordsStepsSpec : ChangeSpec := { name := "wordsSteps", fn := fun _ => fun
  | [d1, d2, d3, d4] => { results := [.lit (.bool true)], args := [d1, d2, d3, d4] }
  | _ => none }
def wordsStepsRow : OpenClaim := { program := "ytooaelpfbamebaa", sum := "91e4c5c887de73ed6da50680a51dd5d2f53ef3ac22f7d8b10b4ad223b9e268d7", func := "chequer/chequerlaw14.WordsSteps", spec := "wordsSteps", inPlace := ["slices.overlaps[chequer/trie.edge]"], unfollowed := true, recurses := true, apart := false }
def WordsStepsSaid : Prop := wordsStepsRow.holds Try.pinned (OpenSpec.ofChange wordsStepsSpec)

/-- ITS FALSE NEIGHBOUR: 'it returns false'. Refute it at one input. -/
def wordsStepsWrong : ChangeSpec := { name := "wordsSteps", fn := fun _ => fun
  | [d1, d2, d3, d4] => { results := [.lit (.bool false)], args := [d1, d2, d3, d4] }
  | _ => none }
def WordsStepsWrongFalsely : Prop := wordsStepsRow.holds Try.pinned (OpenSpec.ofChange wordsStepsWrong)

/-- 'chequerlaw14.WordsAdds': WHATEVER THE INPUT: true; the input reads as it did. -/
def wordsAddsSpec : ChangeSpec := { name := "wordsAdds", fn := fun _ => fun
  | [d1, d2, d3] => { results := [.lit (.bool true)], args := [d1, d2, d3] }
  | _ => none }
def wordsAddsRow : OpenClaim := { program := "ytooaelpfbamebaa", sum := "91e4c5c887de73ed6da50680a51dd5d2f53ef3ac22f7d8b10b4ad223b9e268d7", func := "chequer/chequerlaw14.WordsAdds", spec := "wordsAdds", inPlace := ["slices.overlaps[chequer/trie.edge]"], unfollowed := true, recurses := true, apart := false }
def WordsAddsSaid : Prop := wordsAddsRow.holds Try.pinned (OpenSpec.ofChange wordsAddsSpec)

/-- ITS FALSE NEIGHBOUR: 'it returns false'. Refute it at one input. -/
def wordsAddsWrong : ChangeSpec := { name := "wordsAdds", fn := fun _ => fun
  | [d1, d2, d3] => { results := [.lit (.bool false)], args := [d1, d2, d3] }
  | _ => none }
def WordsAddsWrongFalsely : Prop := wordsAddsRow.holds Try.pinned (OpenSpec.ofChange wordsAddsWrong)

/-- 'chequerlaw14.WordsLabels': WHATEVER THE INPUT: true; the input reads as it did. -/
def wordsLabelsSpec : ChangeSpec := { name := "wordsLabels", fn := fun _ => fun
  | [d1, d2, d3, d4] => { results := [.lit (.bool true)], args := [d1, d2, d3, d4] }
  | _ => none }
def wordsLabelsRow : OpenClaim := { program := "ytooaelpfbamebaa", sum := "91e4c5c887de73ed6da50680a51dd5d2f53ef3ac22f7d8b10b4ad223b9e268d7", func := "chequer/chequerlaw14.WordsLabels", spec := "wordsLabels", inPlace := ["slices.overlaps[chequer/trie.edge]"], unfollowed := true, recurses := true, apart := false }
def WordsLabelsSaid : Prop := wordsLabelsRow.holds Try.pinned (OpenSpec.ofChange wordsLabelsSpec)

/-- ITS FALSE NEIGHBOUR: 'it returns false'. Refute it at one input. -/
def wordsLabelsWrong : ChangeSpec := { name := "wordsLabels", fn := fun _ => fun
  | [d1, d2, d3, d4] => { results := [.lit (.bool false)], args := [d1, d2, d3, d4] }
  | _ => none }
def WordsLabelsWrongFalsely : Prop := wordsLabelsRow.holds Try.pinned (OpenSpec.ofChange wordsLabelsWrong)

/-- 'chequerlaw14.WordsOwn': WHATEVER THE INPUT: true; the input reads as it did. -/
def wordsOwnSpec : ChangeSpec := { name := "wordsOwn", fn := fun _ => fun
  | [d1, d2, d3] => { results := [.lit (.bool true)], args := [d1, d2, d3] }
  | _ => none }
def wordsOwnRow : OpenClaim := { program := "ytooaelpfbamebaa", sum := "91e4c5c887de73ed6da50680a51dd5d2f53ef3ac22f7d8b10b4ad223b9e268d7", func := "chequer/chequerlaw14.WordsOwn", spec := "wordsOwn", inPlace := ["slices.overlaps[chequer/trie.edge]"], unfollowed := true, recurses := true, apart := false }
def WordsOwnSaid : Prop := wordsOwnRow.holds Try.pinned (OpenSpec.ofChange wordsOwnSpec)

/-- ITS FALSE NEIGHBOUR: 'it returns false'. Refute it at one input. -/
def wordsOwnWrong : ChangeSpec := { name := "wordsOwn", fn := fun _ => fun
  | [d1, d2, d3] => { results := [.lit (.bool false)], args := [d1, d2, d3] }
  | _ => none }
def WordsOwnWrongFalsely : Prop := wordsOwnRow.holds Try.pinned (OpenSpec.ofChange wordsOwnWrong)

/- THE SECOND FORM. 'bulk': how many values and letters a reading holds, each counted each time it is reached (what is shared counts as often as it is met; a slice's spare places count too). A statement '..UptoSaid' is the law's where the arguments, and the package variables that the reading takes, are together of bulk at most 1048576: NARROWER than '..Said'. Prove '..Said' where nothing that the law and all that it calls make is longer than what came in: it says more and counts as full. Else prove '..UptoSaid'. A law counts once. -/
mutual
def uptoBulk {H : Type} : DataW H → Nat
  | .lit (.string bytes) => bytes.length + 1
  | .lit _ => 1
  | .nil => 1
  | .ptr d => uptoBulk d + 1
  | .slice elems spare => uptoBulkAll elems + uptoBulkAll spare + 1
  | .agg parts => uptoBulkAll parts + 1
  | .iface _ d => uptoBulk d + 1
  | .map entries => uptoBulkEntries entries + 1
  | .held _ => 1
def uptoBulkAll {H : Type} : List (DataW H) → Nat
  | [] => 0
  | d :: r => uptoBulk d + uptoBulkAll r
def uptoBulkEntries {H : Type} : List (Lit × DataW H) → Nat
  | [] => 0
  | x :: r => uptoBulkEntry x + uptoBulkEntries r
def uptoBulkEntry {H : Type} : Lit × DataW H → Nat
  | (.string bytes, d) => bytes.length + uptoBulk d + 1
  | (_, d) => uptoBulk d + 1
 end
def uptoSmall : (H : Type) → List (DataW H) → Bool := fun _ ds => decide (uptoBulkAll ds ≤ 1048576)
def OpenSpec.upto (s : _root_.Go.ChangeSpec) : _root_.Go.OpenSpec := { _root_.Go.OpenSpec.ofChange s with cond := some uptoSmall }

/-- 'chequerlaw14.WordsScans', WHERE WHAT IT READS IS OF BULK AT MOST 1048576: true; the input reads as it did. -/
def wordsScansUptoRow : OpenClaim := { program := "ytooaelpfbamebaa", sum := "91e4c5c887de73ed6da50680a51dd5d2f53ef3ac22f7d8b10b4ad223b9e268d7", func := "chequer/chequerlaw14.WordsScans", spec := "wordsScans", inPlace := ["slices.overlaps[chequer/trie.edge]"], unfollowed := true, recurses := true, apart := false, narrowed := true }
def WordsScansUptoSaid : Prop := wordsScansUptoRow.holds Try.pinned (OpenSpec.upto wordsScansSpec)

/-- 'chequerlaw14.WordsTwo', WHERE WHAT IT READS IS OF BULK AT MOST 1048576: true; the input reads as it did. -/
def wordsTwoUptoRow : OpenClaim := { program := "ytooaelpfbamebaa", sum := "91e4c5c887de73ed6da50680a51dd5d2f53ef3ac22f7d8b10b4ad223b9e268d7", func := "chequer/chequerlaw14.WordsTwo", spec := "wordsTwo", inPlace := ["slices.overlaps[chequer/trie.edge]"], unfollowed := true, recurses := true, apart := false, narrowed := true }
def WordsTwoUptoSaid : Prop := wordsTwoUptoRow.holds Try.pinned (OpenSpec.upto wordsTwoSpec)

/-- 'chequerlaw14.WordsSteps', WHERE WHAT IT READS IS OF BULK AT MOST 1048576: true; the input reads as it did. -/
def wordsStepsUptoRow : OpenClaim := { program := "ytooaelpfbamebaa", sum := "91e4c5c887de73ed6da50680a51dd5d2f53ef3ac22f7d8b10b4ad223b9e268d7", func := "chequer/chequerlaw14.WordsSteps", spec := "wordsSteps", inPlace := ["slices.overlaps[chequer/trie.edge]"], unfollowed := true, recurses := true, apart := false, narrowed := true }
def WordsStepsUptoSaid : Prop := wordsStepsUptoRow.holds Try.pinned (OpenSpec.upto wordsStepsSpec)

/-- 'chequerlaw14.WordsAdds', WHERE WHAT IT READS IS OF BULK AT MOST 1048576: true; the input reads as it did. -/
def wordsAddsUptoRow : OpenClaim := { program := "ytooaelpfbamebaa", sum := "91e4c5c887de73ed6da50680a51dd5d2f53ef3ac22f7d8b10b4ad223b9e268d7", func := "chequer/chequerlaw14.WordsAdds", spec := "wordsAdds", inPlace := ["slices.overlaps[chequer/trie.edge]"], unfollowed := true, recurses := true, apart := false, narrowed := true }
def WordsAddsUptoSaid : Prop := wordsAddsUptoRow.holds Try.pinned (OpenSpec.upto wordsAddsSpec)

/-- 'chequerlaw14.WordsLabels', WHERE WHAT IT READS IS OF BULK AT MOST 1048576: true; the input reads as it did. -/
def wordsLabelsUptoRow : OpenClaim := { program := "ytooaelpfbamebaa", sum := "91e4c5c887de73ed6da50680a51dd5d2f53ef3ac22f7d8b10b4ad223b9e268d7", func := "chequer/chequerlaw14.WordsLabels", spec := "wordsLabels", inPlace := ["slices.overlaps[chequer/trie.edge]"], unfollowed := true, recurses := true, apart := false, narrowed := true }
def WordsLabelsUptoSaid : Prop := wordsLabelsUptoRow.holds Try.pinned (OpenSpec.upto wordsLabelsSpec)

/-- 'chequerlaw14.WordsOwn', WHERE WHAT IT READS IS OF BULK AT MOST 1048576: true; the input reads as it did. -/
def wordsOwnUptoRow : OpenClaim := { program := "ytooaelpfbamebaa", sum := "91e4c5c887de73ed6da50680a51dd5d2f53ef3ac22f7d8b10b4ad223b9e268d7", func := "chequer/chequerlaw14.WordsOwn", spec := "wordsOwn", inPlace := ["slices.overlaps[chequer/trie.edge]"], unfollowed := true, recurses := true, apart := false, narrowed := true }
def WordsOwnUptoSaid : Prop := wordsOwnUptoRow.holds Try.pinned (OpenSpec.upto wordsOwnSpec)

end Rows
end Go.Proofs.Ytooaelpfbamebaa
