/-
  No cell of these rows narrows 'for every input' (looked for: loops, veiled, ifaces, maps, wideKeys, modest, calm, conditions, laid).
  DERIVED. THE GIVEN ROWS OF THIS SEAT. 5 by the template 'for every input the law returns true; each argument reads behind the call as it read before'; 0 by the template 'total and deterministic' (their statements: YteaekpnmiicbhaaTotals.lean).
  GIVEN WITH THE SEED: the statements are not yours to turn. If you find one false, say at which input.
  Laid BY PROGRAM, IN A SANDBOX (cutbox-rows.mjs): the forced cells as the released guide's own fill.sh prints them over the translation 01e13715539f2977… (all of the seat's roots in one cut). By AI agents, Wed Nov 11 2026. No macro, syntax, notation, axiom, sorry.
-/
import Derived.Test.YteaekpnmiicbhaaChecked
import GoSem.Claim
import GoSem.ClaimJoined
import GoSem.ClaimMapViews
import Derived.JoinedTies
import Derived.KernelRfl
namespace Go.Proofs.Yteaekpnmiicbhaa
/- THE CELL 'sum', in the pinned program and in every row, IS THE sha256 OF THE DUMP (.gsa) THAT YteaekpnmiicbhaaProg.lean LOADS. Nothing in Lean hashes anything: it is a label: what it is worth is what the hold of that sum in a sandbox is worth. -/
noncomputable def Try.pinned : Pinned := { name := "yteaekpnmiicbhaa", sum := "01e13715539f2977a9b67f6d7c11adf65660c1815bd08b2beb7a56e78437e344", checked := Try.checked }
namespace Rows
def none {H : Type} : Left H := { results := [], args := [] }

/-- 'chequerlaw20.ReportReads': WHATEVER THE INPUT: true; the input reads as it did. -/
def reportReadsSpec : ChangeSpec := { name := "reportReads", fn := fun _ => fun
  | [d1, d2, d3, d4, d5] => { results := [.lit (.bool true)], args := [d1, d2, d3, d4, d5] }
  | _ => none }
def reportReadsRow : OpenClaim := { program := "yteaekpnmiicbhaa", sum := "01e13715539f2977a9b67f6d7c11adf65660c1815bd08b2beb7a56e78437e344", func := "chequer/chequerlaw20.ReportReads", spec := "reportReads", inPlace := ["internal/abi.NoEscape", "internal/bytealg.MakeNoZero"], unfollowed := true, recurses := true, plainKeys := false, apart := false }
def ReportReadsSaid : Prop := reportReadsRow.holds Try.pinned (OpenSpec.ofChange reportReadsSpec)

/-- ITS FALSE NEIGHBOUR: 'it returns false'. Refute it at one input. -/
def reportReadsWrong : ChangeSpec := { name := "reportReads", fn := fun _ => fun
  | [d1, d2, d3, d4, d5] => { results := [.lit (.bool false)], args := [d1, d2, d3, d4, d5] }
  | _ => none }
def ReportReadsWrongFalsely : Prop := reportReadsRow.holds Try.pinned (OpenSpec.ofChange reportReadsWrong)

/-- 'chequerlaw20.ReportBytes': WHATEVER THE INPUT: true; the input reads as it did. -/
def reportBytesSpec : ChangeSpec := { name := "reportBytes", fn := fun _ => fun
  | [d] => { results := [.lit (.bool true)], args := [d] }
  | _ => none }
def reportBytesRow : OpenClaim := { program := "yteaekpnmiicbhaa", sum := "01e13715539f2977a9b67f6d7c11adf65660c1815bd08b2beb7a56e78437e344", func := "chequer/chequerlaw20.ReportBytes", spec := "reportBytes", inPlace := ["internal/abi.NoEscape", "internal/bytealg.MakeNoZero"], unfollowed := true, recurses := true, plainKeys := false, apart := false }
def ReportBytesSaid : Prop := reportBytesRow.holds Try.pinned (OpenSpec.ofChange reportBytesSpec)

/-- ITS FALSE NEIGHBOUR: 'it returns false'. Refute it at one input. -/
def reportBytesWrong : ChangeSpec := { name := "reportBytes", fn := fun _ => fun
  | [d] => { results := [.lit (.bool false)], args := [d] }
  | _ => none }
def ReportBytesWrongFalsely : Prop := reportBytesRow.holds Try.pinned (OpenSpec.ofChange reportBytesWrong)

/-- 'chequerlaw20.ReportSums': WHATEVER THE INPUT: true; the input reads as it did. -/
def reportSumsSpec : ChangeSpec := { name := "reportSums", fn := fun _ => fun
  | [d1, d2] => { results := [.lit (.bool true)], args := [d1, d2] }
  | _ => none }
def reportSumsRow : OpenClaim := { program := "yteaekpnmiicbhaa", sum := "01e13715539f2977a9b67f6d7c11adf65660c1815bd08b2beb7a56e78437e344", func := "chequer/chequerlaw20.ReportSums", spec := "reportSums", inPlace := ["internal/abi.NoEscape", "internal/bytealg.MakeNoZero"], unfollowed := true, recurses := true, plainKeys := false, apart := false }
def ReportSumsSaid : Prop := reportSumsRow.holds Try.pinned (OpenSpec.ofChange reportSumsSpec)

/-- ITS FALSE NEIGHBOUR: 'it returns false'. Refute it at one input. -/
def reportSumsWrong : ChangeSpec := { name := "reportSums", fn := fun _ => fun
  | [d1, d2] => { results := [.lit (.bool false)], args := [d1, d2] }
  | _ => none }
def ReportSumsWrongFalsely : Prop := reportSumsRow.holds Try.pinned (OpenSpec.ofChange reportSumsWrong)

/-- 'chequerlaw20.ReportSorts': WHATEVER THE INPUT: true; the input reads as it did. -/
def reportSortsSpec : ChangeSpec := { name := "reportSorts", fn := fun _ => fun
  | [d] => { results := [.lit (.bool true)], args := [d] }
  | _ => none }
def reportSortsRow : OpenClaim := { program := "yteaekpnmiicbhaa", sum := "01e13715539f2977a9b67f6d7c11adf65660c1815bd08b2beb7a56e78437e344", func := "chequer/chequerlaw20.ReportSorts", spec := "reportSorts", inPlace := ["internal/abi.NoEscape", "internal/bytealg.MakeNoZero"], unfollowed := true, recurses := true, plainKeys := false, apart := false }
def ReportSortsSaid : Prop := reportSortsRow.holds Try.pinned (OpenSpec.ofChange reportSortsSpec)

/-- ITS FALSE NEIGHBOUR: 'it returns false'. Refute it at one input. -/
def reportSortsWrong : ChangeSpec := { name := "reportSorts", fn := fun _ => fun
  | [d] => { results := [.lit (.bool false)], args := [d] }
  | _ => none }
def ReportSortsWrongFalsely : Prop := reportSortsRow.holds Try.pinned (OpenSpec.ofChange reportSortsWrong)

/-- 'chequerlaw20.ReportMerges': WHATEVER THE INPUT: true; the input reads as it did. -/
def reportMergesSpec : ChangeSpec := { name := "reportMerges", fn := fun _ => fun
  | [d1, d2] => { results := [.lit (.bool true)], args := [d1, d2] }
  | _ => none }
def reportMergesRow : OpenClaim := { program := "yteaekpnmiicbhaa", sum := "01e13715539f2977a9b67f6d7c11adf65660c1815bd08b2beb7a56e78437e344", func := "chequer/chequerlaw20.ReportMerges", spec := "reportMerges", inPlace := ["internal/abi.NoEscape", "internal/bytealg.MakeNoZero"], unfollowed := true, recurses := true, plainKeys := false, apart := false }
def ReportMergesSaid : Prop := reportMergesRow.holds Try.pinned (OpenSpec.ofChange reportMergesSpec)

/-- ITS FALSE NEIGHBOUR: 'it returns false'. Refute it at one input. -/
def reportMergesWrong : ChangeSpec := { name := "reportMerges", fn := fun _ => fun
  | [d1, d2] => { results := [.lit (.bool false)], args := [d1, d2] }
  | _ => none }
def ReportMergesWrongFalsely : Prop := reportMergesRow.holds Try.pinned (OpenSpec.ofChange reportMergesWrong)

/- THE SECOND FORM. 'bulk': how many values and letters a reading holds, each counted each time it is reached (what is shared counts as often as it is met; a slice's spare places count too). A statement '..UptoSaid' is the law's where the arguments, and the package variables that the reading takes, are together of bulk at most 1048576: NARROWER than '..Said'. Prove '..Said' where nothing that the law and all that it calls make is longer than what came in: it says more and counts as full. Else prove '..UptoSaid'. A law counts once. -/
mutual
def uptoBulk {H : Type} : DataW H → Nat
  | .lit (.string bytes) => bytes.length + 1
  | .lit _ => 1
  | .nil => 1
  | .ptr d => uptoBulk d + 1
  | .slice elems spare => uptoBulkAll elems + uptoBulkAll spare + 1
  | .agg parts => uptoBulkAll parts + 1
  | .iface _ d => uptoBulk d + 1
  | .map entries => uptoBulkEntries entries + 1
  | .held _ => 1
def uptoBulkAll {H : Type} : List (DataW H) → Nat
  | [] => 0
  | d :: r => uptoBulk d + uptoBulkAll r
def uptoBulkEntries {H : Type} : List (Lit × DataW H) → Nat
  | [] => 0
  | x :: r => uptoBulkEntry x + uptoBulkEntries r
def uptoBulkEntry {H : Type} : Lit × DataW H → Nat
  | (.string bytes, d) => bytes.length + uptoBulk d + 1
  | (_, d) => uptoBulk d + 1
 end
def uptoSmall : (H : Type) → List (DataW H) → Bool := fun _ ds => decide (uptoBulkAll ds ≤ 1048576)
def OpenSpec.upto (s : _root_.Go.ChangeSpec) : _root_.Go.OpenSpec := { _root_.Go.OpenSpec.ofChange s with cond := some uptoSmall }

/-- 'chequerlaw20.ReportReads', WHERE WHAT IT READS IS OF BULK AT MOST 1048576: true; the input reads as it did. -/
def reportReadsUptoRow : OpenClaim := { program := "yteaekpnmiicbhaa", sum := "01e13715539f2977a9b67f6d7c11adf65660c1815bd08b2beb7a56e78437e344", func := "chequer/chequerlaw20.ReportReads", spec := "reportReads", inPlace := ["internal/abi.NoEscape", "internal/bytealg.MakeNoZero"], unfollowed := true, recurses := true, plainKeys := false, apart := false, narrowed := true }
def ReportReadsUptoSaid : Prop := reportReadsUptoRow.holds Try.pinned (OpenSpec.upto reportReadsSpec)

/-- 'chequerlaw20.ReportBytes', WHERE WHAT IT READS IS OF BULK AT MOST 1048576: true; the input reads as it did. -/
def reportBytesUptoRow : OpenClaim := { program := "yteaekpnmiicbhaa", sum := "01e13715539f2977a9b67f6d7c11adf65660c1815bd08b2beb7a56e78437e344", func := "chequer/chequerlaw20.ReportBytes", spec := "reportBytes", inPlace := ["internal/abi.NoEscape", "internal/bytealg.MakeNoZero"], unfollowed := true, recurses := true, plainKeys := false, apart := false, narrowed := true }
def ReportBytesUptoSaid : Prop := reportBytesUptoRow.holds Try.pinned (OpenSpec.upto reportBytesSpec)

/-- 'chequerlaw20.ReportSums', WHERE WHAT IT READS IS OF BULK AT MOST 1048576: true; the input reads as it did. -/
def reportSumsUptoRow : OpenClaim := { program := "yteaekpnmiicbhaa", sum := "01e13715539f2977a9b67f6d7c11adf65660c1815bd08b2beb7a56e78437e344", func := "chequer/chequerlaw20.ReportSums", spec := "reportSums", inPlace := ["internal/abi.NoEscape", "internal/bytealg.MakeNoZero"], unfollowed := true, recurses := true, plainKeys := false, apart := false, narrowed := true }
def ReportSumsUptoSaid : Prop := reportSumsUptoRow.holds Try.pinned (OpenSpec.upto reportSumsSpec)

/-- 'chequerlaw20.ReportSorts', WHERE WHAT IT READS IS OF BULK AT MOST 1048576: true; the input reads as it did. -/
def reportSortsUptoRow : OpenClaim := { program := "yteaekpnmiicbhaa", sum := "01e13715539f2977a9b67f6d7c11adf65660c1815bd08b2beb7a56e78437e344", func := "chequer/chequerlaw20.ReportSorts", spec := "reportSorts", inPlace := ["internal/abi.NoEscape", "internal/bytealg.MakeNoZero"], unfollowed := true, recurses := true, plainKeys := false, apart := false, narrowed := true }
def ReportSortsUptoSaid : Prop := reportSortsUptoRow.holds Try.pinned (OpenSpec.upto reportSortsSpec)

/-- 'chequerlaw20.ReportMerges', WHERE WHAT IT READS IS OF BULK AT MOST 1048576: true; the input reads as it did. -/
def reportMergesUptoRow : OpenClaim := { program := "yteaekpnmiicbhaa", sum := "01e13715539f2977a9b67f6d7c11adf65660c1815bd08b2beb7a56e78437e344", func := "chequer/chequerlaw20.ReportMerges", spec := "reportMerges", inPlace := ["internal/abi.NoEscape", "internal/bytealg.MakeNoZero"], unfollowed := true, recurses := true, plainKeys := false, apart := false, narrowed := true }
def ReportMergesUptoSaid : Prop := reportMergesUptoRow.holds Try.pinned (OpenSpec.upto reportMergesSpec)

end Rows
end Go.Proofs.Yteaekpnmiicbhaa
