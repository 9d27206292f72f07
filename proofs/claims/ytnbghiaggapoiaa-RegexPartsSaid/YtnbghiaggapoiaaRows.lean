/-
  No cell of these rows narrows 'for every input' (looked for: loops, veiled, ifaces, maps, wideKeys, modest, calm, conditions, laid).
  DERIVED. THE GIVEN ROWS OF THIS SEAT. 5 by the template 'for every input the law returns true; each argument reads behind the call as it read before'; 0 by the template 'total and deterministic' (their statements: YtnbghiaggapoiaaTotals.lean).
  GIVEN WITH THE SEED: the statements are not yours to turn. If you find one false, say at which input.
  Laid BY PROGRAM, IN A SANDBOX (cutbox-rows.mjs): the forced cells as the released guide's own fill.sh prints them over the translation 95265a00bfb7bcef… (all of the seat's roots in one cut). By AI agents, Wed Nov 11 2026. No macro, syntax, notation, axiom, sorry.
-/
import Derived.Test.YtnbghiaggapoiaaChecked
import GoSem.Claim
import GoSem.ClaimJoined
import GoSem.ClaimMapViews
import Derived.JoinedTies
import Derived.KernelRfl
namespace Go.Proofs.Ytnbghiaggapoiaa
/- THE CELL 'sum', in the pinned program and in every row, IS THE sha256 OF THE DUMP (.gsa) THAT YtnbghiaggapoiaaProg.lean LOADS. Nothing in Lean hashes anything: it is a label: what it is worth is what the hold of that sum in a sandbox is worth. -/
noncomputable def Try.pinned : Pinned := { name := "ytnbghiaggapoiaa", sum := "95265a00bfb7bcefbf81c073af5a5b6895d94c5579e74eecbb7e02b2d2b019e3", checked := Try.checked }
namespace Rows
def none {H : Type} : Left H := { results := [], args := [] }

/-- 'belfrylaw4.RegexAny': WHATEVER THE INPUT: true; the input reads as it did. -/
def regexAnySpec : ChangeSpec := { name := "regexAny", fn := fun _ => fun
  | [d1, d2] => { results := [.lit (.bool true)], args := [d1, d2] }
  | _ => none }
def regexAnyRow : OpenClaim := { program := "ytnbghiaggapoiaa", sum := "95265a00bfb7bcefbf81c073af5a5b6895d94c5579e74eecbb7e02b2d2b019e3", func := "belfry/belfrylaw4.RegexAny", spec := "regexAny", inPlace := ["internal/bytealg.IndexByteString"], unfollowed := true, recurses := true, apart := false }
def RegexAnySaid : Prop := regexAnyRow.holds Try.pinned (OpenSpec.ofChange regexAnySpec)

/-- ITS FALSE NEIGHBOUR: 'it returns false'. Refute it at one input. -/
def regexAnyWrong : ChangeSpec := { name := "regexAny", fn := fun _ => fun
  | [d1, d2] => { results := [.lit (.bool false)], args := [d1, d2] }
  | _ => none }
def RegexAnyWrongFalsely : Prop := regexAnyRow.holds Try.pinned (OpenSpec.ofChange regexAnyWrong)

/-- 'belfrylaw4.RegexQuote': WHATEVER THE INPUT: true; the input reads as it did. -/
def regexQuoteSpec : ChangeSpec := { name := "regexQuote", fn := fun _ => fun
  | [d1, d2] => { results := [.lit (.bool true)], args := [d1, d2] }
  | _ => none }
def regexQuoteRow : OpenClaim := { program := "ytnbghiaggapoiaa", sum := "95265a00bfb7bcefbf81c073af5a5b6895d94c5579e74eecbb7e02b2d2b019e3", func := "belfry/belfrylaw4.RegexQuote", spec := "regexQuote", inPlace := ["internal/bytealg.IndexByteString"], unfollowed := true, recurses := true, apart := false }
def RegexQuoteSaid : Prop := regexQuoteRow.holds Try.pinned (OpenSpec.ofChange regexQuoteSpec)

/-- ITS FALSE NEIGHBOUR: 'it returns false'. Refute it at one input. -/
def regexQuoteWrong : ChangeSpec := { name := "regexQuote", fn := fun _ => fun
  | [d1, d2] => { results := [.lit (.bool false)], args := [d1, d2] }
  | _ => none }
def RegexQuoteWrongFalsely : Prop := regexQuoteRow.holds Try.pinned (OpenSpec.ofChange regexQuoteWrong)

/-- 'belfrylaw4.RegexParts': WHATEVER THE INPUT: true; the input reads as it did. -/
def regexPartsSpec : ChangeSpec := { name := "regexParts", fn := fun _ => fun
  | [d1, d2, d3] => { results := [.lit (.bool true)], args := [d1, d2, d3] }
  | _ => none }
def regexPartsRow : OpenClaim := { program := "ytnbghiaggapoiaa", sum := "95265a00bfb7bcefbf81c073af5a5b6895d94c5579e74eecbb7e02b2d2b019e3", func := "belfry/belfrylaw4.RegexParts", spec := "regexParts", inPlace := ["internal/bytealg.IndexByteString"], unfollowed := true, recurses := true, apart := false }
def RegexPartsSaid : Prop := regexPartsRow.holds Try.pinned (OpenSpec.ofChange regexPartsSpec)

/-- ITS FALSE NEIGHBOUR: 'it returns false'. Refute it at one input. -/
def regexPartsWrong : ChangeSpec := { name := "regexParts", fn := fun _ => fun
  | [d1, d2, d3] => { results := [.lit (.bool false)], args := [d1, d2, d3] }
  | _ => none }
def RegexPartsWrongFalsely : Prop := regexPartsRow.holds Try.pinned (OpenSpec.ofChange regexPartsWrong)

/-- 'belfrylaw4.RegexTimes': WHATEVER THE INPUT: true; the input reads as it did. -/
def regexTimesSpec : ChangeSpec := { name := "regexTimes", fn := fun _ => fun
  | [d1, d2, d3] => { results := [.lit (.bool true)], args := [d1, d2, d3] }
  | _ => none }
def regexTimesRow : OpenClaim := { program := "ytnbghiaggapoiaa", sum := "95265a00bfb7bcefbf81c073af5a5b6895d94c5579e74eecbb7e02b2d2b019e3", func := "belfry/belfrylaw4.RegexTimes", spec := "regexTimes", inPlace := ["internal/bytealg.IndexByteString"], unfollowed := true, recurses := true, apart := false }
def RegexTimesSaid : Prop := regexTimesRow.holds Try.pinned (OpenSpec.ofChange regexTimesSpec)

/-- ITS FALSE NEIGHBOUR: 'it returns false'. Refute it at one input. -/
def regexTimesWrong : ChangeSpec := { name := "regexTimes", fn := fun _ => fun
  | [d1, d2, d3] => { results := [.lit (.bool false)], args := [d1, d2, d3] }
  | _ => none }
def RegexTimesWrongFalsely : Prop := regexTimesRow.holds Try.pinned (OpenSpec.ofChange regexTimesWrong)

/-- 'belfrylaw4.RegexSets': WHATEVER THE INPUT: true; the input reads as it did. -/
def regexSetsSpec : ChangeSpec := { name := "regexSets", fn := fun _ => fun
  | [d1, d2, d3] => { results := [.lit (.bool true)], args := [d1, d2, d3] }
  | _ => none }
def regexSetsRow : OpenClaim := { program := "ytnbghiaggapoiaa", sum := "95265a00bfb7bcefbf81c073af5a5b6895d94c5579e74eecbb7e02b2d2b019e3", func := "belfry/belfrylaw4.RegexSets", spec := "regexSets", inPlace := ["internal/bytealg.IndexByteString"], unfollowed := true, recurses := true, apart := false }
def RegexSetsSaid : Prop := regexSetsRow.holds Try.pinned (OpenSpec.ofChange regexSetsSpec)

/-- ITS FALSE NEIGHBOUR: 'it returns false'. Refute it at one input. -/
def regexSetsWrong : ChangeSpec := { name := "regexSets", fn := fun _ => fun
  | [d1, d2, d3] => { results := [.lit (.bool false)], args := [d1, d2, d3] }
  | _ => none }
def RegexSetsWrongFalsely : Prop := regexSetsRow.holds Try.pinned (OpenSpec.ofChange regexSetsWrong)

/- THE SECOND FORM. 'bulk': how many values and letters a reading holds, each counted each time it is reached (what is shared counts as often as it is met; a slice's spare places count too). A statement '..UptoSaid' is the law's where the arguments, and the package variables that the reading takes, are together of bulk at most 1048576: NARROWER than '..Said'. Prove '..Said' where nothing that the law and all that it calls make is longer than what came in: it says more and counts as full. Else prove '..UptoSaid'. A law counts once. -/
mutual
def uptoBulk {H : Type} : DataW H → Nat
  | .lit (.string bytes) => bytes.length + 1
  | .lit _ => 1
  | .nil => 1
  | .ptr d => uptoBulk d + 1
  | .slice elems spare => uptoBulkAll elems + uptoBulkAll spare + 1
  | .agg parts => uptoBulkAll parts + 1
  | .iface _ d => uptoBulk d + 1
  | .map entries => uptoBulkEntries entries + 1
  | .held _ => 1
def uptoBulkAll {H : Type} : List (DataW H) → Nat
  | [] => 0
  | d :: r => uptoBulk d + uptoBulkAll r
def uptoBulkEntries {H : Type} : List (Lit × DataW H) → Nat
  | [] => 0
  | x :: r => uptoBulkEntry x + uptoBulkEntries r
def uptoBulkEntry {H : Type} : Lit × DataW H → Nat
  | (.string bytes, d) => bytes.length + uptoBulk d + 1
  | (_, d) => uptoBulk d + 1
 end
def uptoSmall : (H : Type) → List (DataW H) → Bool := fun _ ds => decide (uptoBulkAll ds ≤ 1048576)
def OpenSpec.upto (s : _root_.Go.ChangeSpec) : _root_.Go.OpenSpec := { _root_.Go.OpenSpec.ofChange s with cond := some uptoSmall }

/-- 'belfrylaw4.RegexAny', WHERE WHAT IT READS IS OF BULK AT MOST 1048576: true; the input reads as it did. -/
def regexAnyUptoRow : OpenClaim := { program := "ytnbghiaggapoiaa", sum := "95265a00bfb7bcefbf81c073af5a5b6895d94c5579e74eecbb7e02b2d2b019e3", func := "belfry/belfrylaw4.RegexAny", spec := "regexAny", inPlace := ["internal/bytealg.IndexByteString"], unfollowed := true, recurses := true, apart := false, narrowed := true }
def RegexAnyUptoSaid : Prop := regexAnyUptoRow.holds Try.pinned (OpenSpec.upto regexAnySpec)

/-- 'belfrylaw4.RegexQuote', WHERE WHAT IT READS IS OF BULK AT MOST 1048576: true; the input reads as it did. -/
def regexQuoteUptoRow : OpenClaim := { program := "ytnbghiaggapoiaa", sum := "95265a00bfb7bcefbf81c073af5a5b6895d94c5579e74eecbb7e02b2d2b019e3", func := "belfry/belfrylaw4.RegexQuote", spec := "regexQuote", inPlace := ["internal/bytealg.IndexByteString"], unfollowed := true, recurses := true, apart := false, narrowed := true }
def RegexQuoteUptoSaid : Prop := regexQuoteUptoRow.holds Try.pinned (OpenSpec.upto regexQuoteSpec)

/-- 'belfrylaw4.RegexParts', WHERE WHAT IT READS IS OF BULK AT MOST 1048576: true; the input reads as it did. -/
def regexPartsUptoRow : OpenClaim := { program := "ytnbghiaggapoiaa", sum := "95265a00bfb7bcefbf81c073af5a5b6895d94c5579e74eecbb7e02b2d2b019e3", func := "belfry/belfrylaw4.RegexParts", spec := "regexParts", inPlace := ["internal/bytealg.IndexByteString"], unfollowed := true, recurses := true, apart := false, narrowed := true }
def RegexPartsUptoSaid : Prop := regexPartsUptoRow.holds Try.pinned (OpenSpec.upto regexPartsSpec)

/-- 'belfrylaw4.RegexTimes', WHERE WHAT IT READS IS OF BULK AT MOST 1048576: true; the input reads as it did. -/
def regexTimesUptoRow : OpenClaim := { program := "ytnbghiaggapoiaa", sum := "95265a00bfb7bcefbf81c073af5a5b6895d94c5579e74eecbb7e02b2d2b019e3", func := "belfry/belfrylaw4.RegexTimes", spec := "regexTimes", inPlace := ["internal/bytealg.IndexByteString"], unfollowed := true, recurses := true, apart := false, narrowed := true }
def RegexTimesUptoSaid : Prop := regexTimesUptoRow.holds Try.pinned (OpenSpec.upto regexTimesSpec)

/-- 'belfrylaw4.RegexSets', WHERE WHAT IT READS IS OF BULK AT MOST 1048576: true; the input reads as it did. -/
def regexSetsUptoRow : OpenClaim := { program := "ytnbghiaggapoiaa", sum := "95265a00bfb7bcefbf81c073af5a5b6895d94c5579e74eecbb7e02b2d2b019e3", func := "belfry/belfrylaw4.RegexSets", spec := "regexSets", inPlace := ["internal/bytealg.IndexByteString"], unfollowed := true, recurses := true, apart := false, narrowed := true }
def RegexSetsUptoSaid : Prop := regexSetsUptoRow.holds Try.pinned (OpenSpec.upto regexSetsSpec)

end Rows
end Go.Proofs.Ytnbghiaggapoiaa
