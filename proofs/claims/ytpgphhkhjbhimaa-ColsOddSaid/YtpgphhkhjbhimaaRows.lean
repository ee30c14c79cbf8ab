/-
  No cell of these rows narrows 'for every input' (looked for: loops, veiled, ifaces, maps, wideKeys, modest, calm, conditions, laid).
  DERIVED. THE GIVEN ROWS OF THIS SEAT. 6 by the template 'for every input the law returns true; each argument reads behind the call as it read before'; 0 by the template 'total and deterministic' (their statements: YtpgphhkhjbhimaaTotals.lean).
  GIVEN WITH THE SEED: the statements are not yours to turn. If you find one false, say at which input.
  Laid BY PROGRAM, IN A SANDBOX (cutbox-rows.mjs): the forced cells as the released guide's own fill.sh prints them over the translation 16de2fb53ba78a50… (all of the seat's roots in one cut). By AI agents, Wed Nov 11 2026. No macro, syntax, notation, axiom, sorry.
-/
import Derived.Test.YtpgphhkhjbhimaaChecked
import GoSem.Claim
import GoSem.ClaimJoined
import GoSem.ClaimMapViews
import Derived.JoinedTies
import Derived.KernelRfl
namespace Go.Proofs.Ytpgphhkhjbhimaa
/- THE CELL 'sum', in the pinned program and in every row, IS THE sha256 OF THE DUMP (.gsa) THAT YtpgphhkhjbhimaaProg.lean LOADS. Nothing in Lean hashes anything: it is a label: what it is worth is what the hold of that sum in a sandbox is worth. -/
noncomputable def Try.pinned : Pinned := { name := "ytpgphhkhjbhimaa", sum := "16de2fb53ba78a5068b5e29340ce494dfa7244ec8bec2dd200e50a0d2cad3e81", checked := Try.checked }
namespace Rows
def none {H : Type} : Left H := { results := [], args := [] }

/-- 'chequerlaw17.ColsOwn': WHATEVER THE INPUT: true; the input reads as it did. -/
def colsOwnSpec : ChangeSpec := { name := "colsOwn", fn := fun _ => fun
  | [d1, d2] => { results := [.lit (.bool true)], args := [d1, d2] }
  | _ => none }
def colsOwnRow : OpenClaim := { program := "ytpgphhkhjbhimaa", sum := "16de2fb53ba78a5068b5e29340ce494dfa7244ec8bec2dd200e50a0d2cad3e81", func := "chequer/chequerlaw17.ColsOwn", spec := "colsOwn", inPlace := ["slices.overlaps[chequer/trie.edge]"], unfollowed := true, recurses := true, apart := false }
def ColsOwnSaid : Prop := colsOwnRow.holds Try.pinned (OpenSpec.ofChange colsOwnSpec)

/-- ITS FALSE NEIGHBOUR: 'it returns false'. Refute it at one input. -/
def colsOwnWrong : ChangeSpec := { name := "colsOwn", fn := fun _ => fun
  | [d1, d2] => { results := [.lit (.bool false)], args := [d1, d2] }
  | _ => none }
def ColsOwnWrongFalsely : Prop := colsOwnRow.holds Try.pinned (OpenSpec.ofChange colsOwnWrong)

/-- 'chequerlaw17.ColsOdd': WHATEVER THE INPUT: true; the input reads as it did. -/
def colsOddSpec : ChangeSpec := { name := "colsOdd", fn := fun _ => fun
  | [d1, d2, d3] => { results := [.lit (.bool true)], args := [d1, d2, d3] }
  | _ => none }
def colsOddRow : OpenClaim := { program := "ytpgphhkhjbhimaa", sum := "16de2fb53ba78a5068b5e29340ce494dfa7244ec8bec2dd200e50a0d2cad3e81", func := "chequer/chequerlaw17.ColsOdd", spec := "colsOdd", inPlace := ["slices.overlaps[chequer/trie.edge]"], unfollowed := true, recurses := true, apart := false }
def ColsOddSaid : Prop := colsOddRow.holds Try.pinned (OpenSpec.ofChange colsOddSpec)

/-- ITS FALSE NEIGHBOUR: 'it returns false'. Refute it at one input. -/
def colsOddWrong : ChangeSpec := { name := "colsOdd", fn := fun _ => fun
  | [d1, d2, d3] => { results := [.lit (.bool false)], args := [d1, d2, d3] }
  | _ => none }
def ColsOddWrongFalsely : Prop := colsOddRow.holds Try.pinned (OpenSpec.ofChange colsOddWrong)

/-- 'chequerlaw17.ColsBreaks': WHATEVER THE INPUT: true; the input reads as it did. -/
def colsBreaksSpec : ChangeSpec := { name := "colsBreaks", fn := fun _ => fun
  | [d1, d2, d3] => { results := [.lit (.bool true)], args := [d1, d2, d3] }
  | _ => none }
def colsBreaksRow : OpenClaim := { program := "ytpgphhkhjbhimaa", sum := "16de2fb53ba78a5068b5e29340ce494dfa7244ec8bec2dd200e50a0d2cad3e81", func := "chequer/chequerlaw17.ColsBreaks", spec := "colsBreaks", inPlace := ["slices.overlaps[chequer/trie.edge]"], unfollowed := true, recurses := true, apart := false }
def ColsBreaksSaid : Prop := colsBreaksRow.holds Try.pinned (OpenSpec.ofChange colsBreaksSpec)

/-- ITS FALSE NEIGHBOUR: 'it returns false'. Refute it at one input. -/
def colsBreaksWrong : ChangeSpec := { name := "colsBreaks", fn := fun _ => fun
  | [d1, d2, d3] => { results := [.lit (.bool false)], args := [d1, d2, d3] }
  | _ => none }
def ColsBreaksWrongFalsely : Prop := colsBreaksRow.holds Try.pinned (OpenSpec.ofChange colsBreaksWrong)

/-- 'chequerlaw17.ColsApart': WHATEVER THE INPUT: true; the input reads as it did. -/
def colsApartSpec : ChangeSpec := { name := "colsApart", fn := fun _ => fun
  | [d1, d2, d3] => { results := [.lit (.bool true)], args := [d1, d2, d3] }
  | _ => none }
def colsApartRow : OpenClaim := { program := "ytpgphhkhjbhimaa", sum := "16de2fb53ba78a5068b5e29340ce494dfa7244ec8bec2dd200e50a0d2cad3e81", func := "chequer/chequerlaw17.ColsApart", spec := "colsApart", inPlace := ["slices.overlaps[chequer/trie.edge]"], unfollowed := true, recurses := true, apart := false }
def ColsApartSaid : Prop := colsApartRow.holds Try.pinned (OpenSpec.ofChange colsApartSpec)

/-- ITS FALSE NEIGHBOUR: 'it returns false'. Refute it at one input. -/
def colsApartWrong : ChangeSpec := { name := "colsApart", fn := fun _ => fun
  | [d1, d2, d3] => { results := [.lit (.bool false)], args := [d1, d2, d3] }
  | _ => none }
def ColsApartWrongFalsely : Prop := colsApartRow.holds Try.pinned (OpenSpec.ofChange colsApartWrong)

/-- 'chequerlaw17.ColsPlays': WHATEVER THE INPUT: true; the input reads as it did. -/
def colsPlaysSpec : ChangeSpec := { name := "colsPlays", fn := fun _ => fun
  | [d1, d2, d3] => { results := [.lit (.bool true)], args := [d1, d2, d3] }
  | _ => none }
def colsPlaysRow : OpenClaim := { program := "ytpgphhkhjbhimaa", sum := "16de2fb53ba78a5068b5e29340ce494dfa7244ec8bec2dd200e50a0d2cad3e81", func := "chequer/chequerlaw17.ColsPlays", spec := "colsPlays", inPlace := ["slices.overlaps[chequer/trie.edge]"], unfollowed := true, recurses := true, apart := false }
def ColsPlaysSaid : Prop := colsPlaysRow.holds Try.pinned (OpenSpec.ofChange colsPlaysSpec)

/-- ITS FALSE NEIGHBOUR: 'it returns false'. Refute it at one input. -/
def colsPlaysWrong : ChangeSpec := { name := "colsPlays", fn := fun _ => fun
  | [d1, d2, d3] => { results := [.lit (.bool false)], args := [d1, d2, d3] }
  | _ => none }
def ColsPlaysWrongFalsely : Prop := colsPlaysRow.holds Try.pinned (OpenSpec.ofChange colsPlaysWrong)

/-- 'chequerlaw17.ColsResets': WHATEVER THE INPUT: true; the input reads as it did. -/
def colsResetsSpec : ChangeSpec := { name := "colsResets", fn := fun _ => fun
  | [d1, d2, d3, d4, d5, d6] => { results := [.lit (.bool true)], args := [d1, d2, d3, d4, d5, d6] }
  | _ => none }
def colsResetsRow : OpenClaim := { program := "ytpgphhkhjbhimaa", sum := "16de2fb53ba78a5068b5e29340ce494dfa7244ec8bec2dd200e50a0d2cad3e81", func := "chequer/chequerlaw17.ColsResets", spec := "colsResets", inPlace := ["slices.overlaps[chequer/trie.edge]"], unfollowed := true, recurses := true, apart := false }
def ColsResetsSaid : Prop := colsResetsRow.holds Try.pinned (OpenSpec.ofChange colsResetsSpec)

/-- ITS FALSE NEIGHBOUR: 'it returns false'. Refute it at one input. -/
def colsResetsWrong : ChangeSpec := { name := "colsResets", fn := fun _ => fun
  | [d1, d2, d3, d4, d5, d6] => { results := [.lit (.bool false)], args := [d1, d2, d3, d4, d5, d6] }
  | _ => none }
def ColsResetsWrongFalsely : Prop := colsResetsRow.holds Try.pinned (OpenSpec.ofChange colsResetsWrong)

/- THE SECOND FORM. 'bulk': how many values and letters a reading holds, each counted each time it is reached (what is shared counts as often as it is met; a slice's spare places count too). A statement '..UptoSaid' is the law's where the arguments, and the package variables that the reading takes, are together of bulk at most 1048576: NARROWER than '..Said'. Prove '..Said' where nothing that the law and all that it calls make is longer than what came in: it says more and counts as full. Else prove '..UptoSaid'. A law counts once. -/
mutual
def uptoBulk {H : Type} : DataW H → Nat
  | .lit (.string bytes) => bytes.length + 1
  | .lit _ => 1
  | .nil => 1
  | .ptr d => uptoBulk d + 1
  | .slice elems spare => uptoBulkAll elems + uptoBulkAll spare + 1
  | .agg parts => uptoBulkAll parts + 1
  | .iface _ d => uptoBulk d + 1
  | .map entries => uptoBulkEntries entries + 1
  | .held _ => 1
def uptoBulkAll {H : Type} : List (DataW H) → Nat
  | [] => 0
  | d :: r => uptoBulk d + uptoBulkAll r
def uptoBulkEntries {H : Type} : List (Lit × DataW H) → Nat
  | [] => 0
  | x :: r => uptoBulkEntry x + uptoBulkEntries r
def uptoBulkEntry {H : Type} : Lit × DataW H → Nat
  | (.string bytes, d) => bytes.length + uptoBulk d + 1
  | (_, d) => uptoBulk d + 1
 end
def uptoSmall : (H : Type) → List (DataW H) → Bool := fun _ ds => decide (uptoBulkAll ds ≤ 1048576)
def OpenSpec.upto (s : _root_.Go.ChangeSpec) : _root_.Go.OpenSpec := { _root_.Go.OpenSpec.ofChange s with cond := some uptoSmall }

/-- 'chequerlaw17.ColsOwn', WHERE WHAT IT READS IS OF BULK AT MOST 1048576: true; the input reads as it did. -/
def colsOwnUptoRow : OpenClaim := { program := "ytpgphhkhjbhimaa", sum := "16de2fb53ba78a5068b5e29340ce494dfa7244ec8bec2dd200e50a0d2cad3e81", func := "chequer/chequerlaw17.ColsOwn", spec := "colsOwn", inPlace := ["slices.overlaps[chequer/trie.edge]"], unfollowed := true, recurses := true, apart := false, narrowed := true }
def ColsOwnUptoSaid : Prop := colsOwnUptoRow.holds Try.pinned (OpenSpec.upto colsOwnSpec)

/-- 'chequerlaw17.ColsOdd', WHERE WHAT IT READS IS OF BULK AT MOST 1048576: true; the input reads as it did. -/
def colsOddUptoRow : OpenClaim := { program := "ytpgphhkhjbhimaa", sum := "16de2fb53ba78a5068b5e29340ce494dfa7244ec8bec2dd200e50a0d2cad3e81", func := "chequer/chequerlaw17.ColsOdd", spec := "colsOdd", inPlace := ["slices.overlaps[chequer/trie.edge]"], unfollowed := true, recurses := true, apart := false, narrowed := true }
def ColsOddUptoSaid : Prop := colsOddUptoRow.holds Try.pinned (OpenSpec.upto colsOddSpec)

/-- 'chequerlaw17.ColsBreaks', WHERE WHAT IT READS IS OF BULK AT MOST 1048576: true; the input reads as it did. -/
def colsBreaksUptoRow : OpenClaim := { program := "ytpgphhkhjbhimaa", sum := "16de2fb53ba78a5068b5e29340ce494dfa7244ec8bec2dd200e50a0d2cad3e81", func := "chequer/chequerlaw17.ColsBreaks", spec := "colsBreaks", inPlace := ["slices.overlaps[chequer/trie.edge]"], unfollowed := true, recurses := true, apart := false, narrowed := true }
def ColsBreaksUptoSaid : Prop := colsBreaksUptoRow.holds Try.pinned (OpenSpec.upto colsBreaksSpec)

/-- 'chequerlaw17.ColsApart', WHERE WHAT IT READS IS OF BULK AT MOST 1048576: true; the input reads as it did. -/
def colsApartUptoRow : OpenClaim := { program := "ytpgphhkhjbhimaa", sum := "16de2fb53ba78a5068b5e29340ce494dfa7244ec8bec2dd200e50a0d2cad3e81", func := "chequer/chequerlaw17.ColsApart", spec := "colsApart", inPlace := ["slices.overlaps[chequer/trie.edge]"], unfollowed := true, recurses := true, apart := false, narrowed := true }
def ColsApartUptoSaid : Prop := colsApartUptoRow.holds Try.pinned (OpenSpec.upto colsApartSpec)

/-- 'chequerlaw17.ColsPlays', WHERE WHAT IT READS IS OF BULK AT MOST 1048576: true; the input reads as it did. -/
def colsPlaysUptoRow : OpenClaim := { program := "ytpgphhkhjbhimaa", sum := "16de2fb53ba78a5068b5e29340ce494dfa7244ec8bec2dd200e50a0d2cad3e81", func := "chequer/chequerlaw17.ColsPlays", spec := "colsPlays", inPlace := ["slices.overlaps[chequer/trie.edge]"], unfollowed := true, recurses := true, apart := false, narrowed := true }
def ColsPlaysUptoSaid : Prop := colsPlaysUptoRow.holds Try.pinned (OpenSpec.upto colsPlaysSpec)

/-- 'chequerlaw17.ColsResets', WHERE WHAT IT READS IS OF BULK AT MOST 1048576: true; the input reads as it did. -/
def colsResetsUptoRow : OpenClaim := { program := "ytpgphhkhjbhimaa", sum := "16de2fb53ba78a5068b5e29340ce494dfa7244ec8bec2dd200e50a0d2cad3e81", func := "chequer/chequerlaw17.ColsResets", spec := "colsResets", inPlace := ["slices.overlaps[chequer/trie.edge]"], unfollowed := true, recurses := true, apart := false, narrowed := true }
def ColsResetsUptoSaid : Prop := colsResetsUptoRow.holds Try.pinned (OpenSpec.upto colsResetsSpec)

end Rows
end Go.Proofs.Ytpgphhkhjbhimaa
