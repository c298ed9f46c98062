/-
  No cell of these rows narrows 'for every input' (looked for: loops, veiled, ifaces, maps, wideKeys, modest, calm, conditions, laid).
  DERIVED. THE GIVEN ROWS OF THIS SEAT. 7 by the template 'for every input the law returns true; each argument reads behind the call as it read before'; 0 by the template 'total and deterministic' (their statements: YtfoppclmjmpjiaaTotals.lean).
  GIVEN WITH THE SEED: the statements are not yours to turn. If you find one false, say at which input.
  Laid BY PROGRAM, IN A SANDBOX (cutbox-rows.mjs): the forced cells as the released guide's own fill.sh prints them over the translation 1a292e6d3ddfa50a… (all of the seat's roots in one cut). By AI agents, Wed Nov 11 2026. No macro, syntax, notation, axiom, sorry.
-/
import Derived.Test.YtfoppclmjmpjiaaChecked
import GoSem.Claim
import GoSem.ClaimJoined
import GoSem.ClaimMapViews
import Derived.JoinedTies
import Derived.KernelRfl
namespace Go.Proofs.Ytfoppclmjmpjiaa
/- THE CELL 'sum', in the pinned program and in every row, IS THE sha256 OF THE DUMP (.gsa) THAT YtfoppclmjmpjiaaProg.lean LOADS. Nothing in Lean hashes anything: it is a label: what it is worth is what the hold of that sum in a sandbox is worth. -/
noncomputable def Try.pinned : Pinned := { name := "ytfoppclmjmpjiaa", sum := "1a292e6d3ddfa50a399827203dca00756821dfb8afb6a2289389d97aa4f8f2da", checked := Try.checked }
namespace Rows
def none {H : Type} : Left H := { results := [], args := [] }

/-- 'ostiarylaw08.DigestParts': WHATEVER THE INPUT: true; the input reads as it did. -/
def digestPartsSpec : ChangeSpec := { name := "digestParts", fn := fun _ => fun
  | [d1, d2] => { results := [.lit (.bool true)], args := [d1, d2] }
  | _ => none }
def digestPartsRow : OpenClaim := { program := "ytfoppclmjmpjiaa", sum := "1a292e6d3ddfa50a399827203dca00756821dfb8afb6a2289389d97aa4f8f2da", func := "ostiary/ostiarylaw08.DigestParts", spec := "digestParts", inPlace := ["internal/abi.NoEscape", "internal/bytealg.IndexByteString"], unfollowed := true, recurses := true, apart := false }
def DigestPartsSaid : Prop := digestPartsRow.holds Try.pinned (OpenSpec.ofChange digestPartsSpec)

/-- ITS FALSE NEIGHBOUR: 'it returns false'. Refute it at one input. -/
def digestPartsWrong : ChangeSpec := { name := "digestParts", fn := fun _ => fun
  | [d1, d2] => { results := [.lit (.bool false)], args := [d1, d2] }
  | _ => none }
def DigestPartsWrongFalsely : Prop := digestPartsRow.holds Try.pinned (OpenSpec.ofChange digestPartsWrong)

/-- 'ostiarylaw08.DigestScans': WHATEVER THE INPUT: true; the input reads as it did. -/
def digestScansSpec : ChangeSpec := { name := "digestScans", fn := fun _ => fun
  | [d1, d2] => { results := [.lit (.bool true)], args := [d1, d2] }
  | _ => none }
def digestScansRow : OpenClaim := { program := "ytfoppclmjmpjiaa", sum := "1a292e6d3ddfa50a399827203dca00756821dfb8afb6a2289389d97aa4f8f2da", func := "ostiary/ostiarylaw08.DigestScans", spec := "digestScans", inPlace := ["internal/abi.NoEscape", "internal/bytealg.IndexByteString"], unfollowed := true, recurses := true, apart := false }
def DigestScansSaid : Prop := digestScansRow.holds Try.pinned (OpenSpec.ofChange digestScansSpec)

/-- ITS FALSE NEIGHBOUR: 'it returns false'. Refute it at one input. -/
def digestScansWrong : ChangeSpec := { name := "digestScans", fn := fun _ => fun
  | [d1, d2] => { results := [.lit (.bool false)], args := [d1, d2] }
  | _ => none }
def DigestScansWrongFalsely : Prop := digestScansRow.holds Try.pinned (OpenSpec.ofChange digestScansWrong)

/-- 'ostiarylaw08.DigestPrints': WHATEVER THE INPUT: true; the input reads as it did. -/
def digestPrintsSpec : ChangeSpec := { name := "digestPrints", fn := fun _ => fun
  | [d] => { results := [.lit (.bool true)], args := [d] }
  | _ => none }
def digestPrintsRow : OpenClaim := { program := "ytfoppclmjmpjiaa", sum := "1a292e6d3ddfa50a399827203dca00756821dfb8afb6a2289389d97aa4f8f2da", func := "ostiary/ostiarylaw08.DigestPrints", spec := "digestPrints", inPlace := ["internal/abi.NoEscape", "internal/bytealg.IndexByteString"], unfollowed := true, recurses := true, apart := false }
def DigestPrintsSaid : Prop := digestPrintsRow.holds Try.pinned (OpenSpec.ofChange digestPrintsSpec)

/-- ITS FALSE NEIGHBOUR: 'it returns false'. Refute it at one input. -/
def digestPrintsWrong : ChangeSpec := { name := "digestPrints", fn := fun _ => fun
  | [d] => { results := [.lit (.bool false)], args := [d] }
  | _ => none }
def DigestPrintsWrongFalsely : Prop := digestPrintsRow.holds Try.pinned (OpenSpec.ofChange digestPrintsWrong)

/-- 'ostiarylaw08.DigestSpaces': WHATEVER THE INPUT: true; the input reads as it did. -/
def digestSpacesSpec : ChangeSpec := { name := "digestSpaces", fn := fun _ => fun
  | [d1, d2] => { results := [.lit (.bool true)], args := [d1, d2] }
  | _ => none }
def digestSpacesRow : OpenClaim := { program := "ytfoppclmjmpjiaa", sum := "1a292e6d3ddfa50a399827203dca00756821dfb8afb6a2289389d97aa4f8f2da", func := "ostiary/ostiarylaw08.DigestSpaces", spec := "digestSpaces", inPlace := ["internal/abi.NoEscape", "internal/bytealg.IndexByteString"], unfollowed := true, recurses := true, apart := false }
def DigestSpacesSaid : Prop := digestSpacesRow.holds Try.pinned (OpenSpec.ofChange digestSpacesSpec)

/-- ITS FALSE NEIGHBOUR: 'it returns false'. Refute it at one input. -/
def digestSpacesWrong : ChangeSpec := { name := "digestSpaces", fn := fun _ => fun
  | [d1, d2] => { results := [.lit (.bool false)], args := [d1, d2] }
  | _ => none }
def DigestSpacesWrongFalsely : Prop := digestSpacesRow.holds Try.pinned (OpenSpec.ofChange digestSpacesWrong)

/-- 'ostiarylaw08.DigestChallenges': WHATEVER THE INPUT: true; the input reads as it did. -/
def digestChallengesSpec : ChangeSpec := { name := "digestChallenges", fn := fun _ => fun
  | [d] => { results := [.lit (.bool true)], args := [d] }
  | _ => none }
def digestChallengesRow : OpenClaim := { program := "ytfoppclmjmpjiaa", sum := "1a292e6d3ddfa50a399827203dca00756821dfb8afb6a2289389d97aa4f8f2da", func := "ostiary/ostiarylaw08.DigestChallenges", spec := "digestChallenges", inPlace := ["internal/abi.NoEscape", "internal/bytealg.IndexByteString"], unfollowed := true, recurses := true, apart := false }
def DigestChallengesSaid : Prop := digestChallengesRow.holds Try.pinned (OpenSpec.ofChange digestChallengesSpec)

/-- ITS FALSE NEIGHBOUR: 'it returns false'. Refute it at one input. -/
def digestChallengesWrong : ChangeSpec := { name := "digestChallenges", fn := fun _ => fun
  | [d] => { results := [.lit (.bool false)], args := [d] }
  | _ => none }
def DigestChallengesWrongFalsely : Prop := digestChallengesRow.holds Try.pinned (OpenSpec.ofChange digestChallengesWrong)

/-- 'ostiarylaw08.DigestAnswers': WHATEVER THE INPUT: true; the input reads as it did. -/
def digestAnswersSpec : ChangeSpec := { name := "digestAnswers", fn := fun _ => fun
  | [d] => { results := [.lit (.bool true)], args := [d] }
  | _ => none }
def digestAnswersRow : OpenClaim := { program := "ytfoppclmjmpjiaa", sum := "1a292e6d3ddfa50a399827203dca00756821dfb8afb6a2289389d97aa4f8f2da", func := "ostiary/ostiarylaw08.DigestAnswers", spec := "digestAnswers", inPlace := ["internal/abi.NoEscape", "internal/bytealg.IndexByteString"], unfollowed := true, recurses := true, apart := false }
def DigestAnswersSaid : Prop := digestAnswersRow.holds Try.pinned (OpenSpec.ofChange digestAnswersSpec)

/-- ITS FALSE NEIGHBOUR: 'it returns false'. Refute it at one input. -/
def digestAnswersWrong : ChangeSpec := { name := "digestAnswers", fn := fun _ => fun
  | [d] => { results := [.lit (.bool false)], args := [d] }
  | _ => none }
def DigestAnswersWrongFalsely : Prop := digestAnswersRow.holds Try.pinned (OpenSpec.ofChange digestAnswersWrong)

/-- 'ostiarylaw08.DigestParses': WHATEVER THE INPUT: true; the input reads as it did. -/
def digestParsesSpec : ChangeSpec := { name := "digestParses", fn := fun _ => fun
  | [d] => { results := [.lit (.bool true)], args := [d] }
  | _ => none }
def digestParsesRow : OpenClaim := { program := "ytfoppclmjmpjiaa", sum := "1a292e6d3ddfa50a399827203dca00756821dfb8afb6a2289389d97aa4f8f2da", func := "ostiary/ostiarylaw08.DigestParses", spec := "digestParses", inPlace := ["internal/abi.NoEscape", "internal/bytealg.IndexByteString"], unfollowed := true, recurses := true, apart := false }
def DigestParsesSaid : Prop := digestParsesRow.holds Try.pinned (OpenSpec.ofChange digestParsesSpec)

/-- ITS FALSE NEIGHBOUR: 'it returns false'. Refute it at one input. -/
def digestParsesWrong : ChangeSpec := { name := "digestParses", fn := fun _ => fun
  | [d] => { results := [.lit (.bool false)], args := [d] }
  | _ => none }
def DigestParsesWrongFalsely : Prop := digestParsesRow.holds Try.pinned (OpenSpec.ofChange digestParsesWrong)

/- THE SECOND FORM. 'bulk': how many values and letters a reading holds, each counted each time it is reached (what is shared counts as often as it is met; a slice's spare places count too). A statement '..UptoSaid' is the law's where the arguments, and the package variables that the reading takes, are together of bulk at most 1048576: NARROWER than '..Said'. Prove '..Said' where nothing that the law and all that it calls make is longer than what came in: it says more and counts as full. Else prove '..UptoSaid'. A law counts once. -/
mutual
def uptoBulk {H : Type} : DataW H → Nat
  | .lit (.string bytes) => bytes.length + 1
  | .lit _ => 1
  | .nil => 1
  | .ptr d => uptoBulk d + 1
  | .slice elems spare => uptoBulkAll elems + uptoBulkAll spare + 1
  | .agg parts => uptoBulkAll parts + 1
  | .iface _ d => uptoBulk d + 1
  | .map entries => uptoBulkEntries entries + 1
  | .held _ => 1
def uptoBulkAll {H : Type} : List (DataW H) → Nat
  | [] => 0
  | d :: r => uptoBulk d + uptoBulkAll r
def uptoBulkEntries {H : Type} : List (Lit × DataW H) → Nat
  | [] => 0
  | x :: r => uptoBulkEntry x + uptoBulkEntries r
def uptoBulkEntry {H : Type} : Lit × DataW H → Nat
  | (.string bytes, d) => bytes.length + uptoBulk d + 1
  | (_, d) => uptoBulk d + 1
 end
def uptoSmall : (H : Type) → List (DataW H) → Bool := fun _ ds => decide (uptoBulkAll ds ≤ 1048576)
def OpenSpec.upto (s : _root_.Go.ChangeSpec) : _root_.Go.OpenSpec := { _root_.Go.OpenSpec.ofChange s with cond := some uptoSmall }

/-- 'ostiarylaw08.DigestParts', WHERE WHAT IT READS IS OF BULK AT MOST 1048576: true; the input reads as it did. -/
def digestPartsUptoRow : OpenClaim := { program := "ytfoppclmjmpjiaa", sum := "1a292e6d3ddfa50a399827203dca00756821dfb8afb6a2289389d97aa4f8f2da", func := "ostiary/ostiarylaw08.DigestParts", spec := "digestParts", inPlace := ["internal/abi.NoEscape", "internal/bytealg.IndexByteString"], unfollowed := true, recurses := true, apart := false, narrowed := true }
def DigestPartsUptoSaid : Prop := digestPartsUptoRow.holds Try.pinned (OpenSpec.upto digestPartsSpec)

/-- 'ostiarylaw08.DigestScans', WHERE WHAT IT READS IS OF BULK AT MOST 1048576: true; the input reads as it did. -/
def digestScansUptoRow : OpenClaim := { program := "ytfoppclmjmpjiaa", sum := "1a292e6d3ddfa50a399827203dca00756821dfb8afb6a2289389d97aa4f8f2da", func := "ostiary/ostiarylaw08.DigestScans", spec := "digestScans", inPlace := ["internal/abi.NoEscape", "internal/bytealg.IndexByteString"], unfollowed := true, recurses := true, apart := false, narrowed := true }
def DigestScansUptoSaid : Prop := digestScansUptoRow.holds Try.pinned (OpenSpec.upto digestScansSpec)

/-- 'ostiarylaw08.DigestPrints', WHERE WHAT IT READS IS OF BULK AT MOST 1048576: true; the input reads as it did. -/
def digestPrintsUptoRow : OpenClaim := { program := "ytfoppclmjmpjiaa", sum := "1a292e6d3ddfa50a399827203dca00756821dfb8afb6a2289389d97aa4f8f2da", func := "ostiary/ostiarylaw08.DigestPrints", spec := "digestPrints", inPlace := ["internal/abi.NoEscape", "internal/bytealg.IndexByteString"], unfollowed := true, recurses := true, apart := false, narrowed := true }
def DigestPrintsUptoSaid : Prop := digestPrintsUptoRow.holds Try.pinned (OpenSpec.upto digestPrintsSpec)

/-- 'ostiarylaw08.DigestSpaces', WHERE WHAT IT READS IS OF BULK AT MOST 1048576: true; the input reads as it did. -/
def digestSpacesUptoRow : OpenClaim := { program := "ytfoppclmjmpjiaa", sum := "1a292e6d3ddfa50a399827203dca00756821dfb8afb6a2289389d97aa4f8f2da", func := "ostiary/ostiarylaw08.DigestSpaces", spec := "digestSpaces", inPlace := ["internal/abi.NoEscape", "internal/bytealg.IndexByteString"], unfollowed := true, recurses := true, apart := false, narrowed := true }
def DigestSpacesUptoSaid : Prop := digestSpacesUptoRow.holds Try.pinned (OpenSpec.upto digestSpacesSpec)

/-- 'ostiarylaw08.DigestChallenges', WHERE WHAT IT READS IS OF BULK AT MOST 1048576: true; the input reads as it did. -/
def digestChallengesUptoRow : OpenClaim := { program := "ytfoppclmjmpjiaa", sum := "1a292e6d3ddfa50a399827203dca00756821dfb8afb6a2289389d97aa4f8f2da", func := "ostiary/ostiarylaw08.DigestChallenges", spec := "digestChallenges", inPlace := ["internal/abi.NoEscape", "internal/bytealg.IndexByteString"], unfollowed := true, recurses := true, apart := false, narrowed := true }
def DigestChallengesUptoSaid : Prop := digestChallengesUptoRow.holds Try.pinned (OpenSpec.upto digestChallengesSpec)

/-- 'ostiarylaw08.DigestAnswers', WHERE WHAT IT READS IS OF BULK AT MOST 1048576: true; the input reads as it did. -/
def digestAnswersUptoRow : OpenClaim := { program := "ytfoppclmjmpjiaa", sum := "1a292e6d3ddfa50a399827203dca00756821dfb8afb6a2289389d97aa4f8f2da", func := "ostiary/ostiarylaw08.DigestAnswers", spec := "digestAnswers", inPlace := ["internal/abi.NoEscape", "internal/bytealg.IndexByteString"], unfollowed := true, recurses := true, apart := false, narrowed := true }
def DigestAnswersUptoSaid : Prop := digestAnswersUptoRow.holds Try.pinned (OpenSpec.upto digestAnswersSpec)

/-- 'ostiarylaw08.DigestParses', WHERE WHAT IT READS IS OF BULK AT MOST 1048576: true; the input reads as it did. -/
def digestParsesUptoRow : OpenClaim := { program := "ytfoppclmjmpjiaa", sum := "1a292e6d3ddfa50a399827203dca00756821dfb8afb6a2289389d97aa4f8f2da", func := "ostiary/ostiarylaw08.DigestParses", spec := "digestParses", inPlace := ["internal/abi.NoEscape", "internal/bytealg.IndexByteString"], unfollowed := true, recurses := true, apart := false, narrowed := true }
def DigestParsesUptoSaid : Prop := digestParsesUptoRow.holds Try.pinned (OpenSpec.upto digestParsesSpec)

end Rows
end Go.Proofs.Ytfoppclmjmpjiaa
