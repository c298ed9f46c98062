/-
  No cell of these rows narrows 'for every input' (looked for: loops, veiled, ifaces, maps, wideKeys, modest, calm, conditions, laid).
  DERIVED. THE GIVEN ROWS OF THIS SEAT. 5 by the template 'for every input the law returns true; each argument reads behind the call as it read before'; 0 by the template 'total and deterministic' (their statements: YtjagaagemgppcaaTotals.lean).
  GIVEN WITH THE SEED: the statements are not yours to turn. If you find one false, say at which input.
  Laid BY PROGRAM, IN A SANDBOX (cutbox-rows.mjs): the forced cells as the released guide's own fill.sh prints them over the translation 50e560a487a76388… (all of the seat's roots in one cut). By AI agents, Wed Nov 11 2026. No macro, syntax, notation, axiom, sorry.
-/
import Derived.Test.YtjagaagemgppcaaChecked
import GoSem.Claim
import GoSem.ClaimJoined
import GoSem.ClaimMapViews
import Derived.JoinedTies
import Derived.KernelRfl
namespace Go.Proofs.Ytjagaagemgppcaa
/- THE CELL 'sum', in the pinned program and in every row, IS THE sha256 OF THE DUMP (.gsa) THAT YtjagaagemgppcaaProg.lean LOADS. Nothing in Lean hashes anything: it is a label: what it is worth is what the hold of that sum in a sandbox is worth. -/
noncomputable def Try.pinned : Pinned := { name := "ytjagaagemgppcaa", sum := "50e560a487a763888af7b639c7b0ced8a41ba39ddfb29642020152f31f5c85c7", checked := Try.checked }
namespace Rows
def none {H : Type} : Left H := { results := [], args := [] }

/-- 'ostiarylaw13.GuardLocks': WHATEVER THE INPUT: true; the input reads as it did. -/
def guardLocksSpec : ChangeSpec := { name := "guardLocks", fn := fun _ => fun
  | [d1, d2, d3, d4] => { results := [.lit (.bool true)], args := [d1, d2, d3, d4] }
  | _ => none }
def guardLocksRow : OpenClaim := { program := "ytjagaagemgppcaa", sum := "50e560a487a763888af7b639c7b0ced8a41ba39ddfb29642020152f31f5c85c7", func := "ostiary/ostiarylaw13.GuardLocks", spec := "guardLocks", unfollowed := true, recurses := true, apart := false }
def GuardLocksSaid : Prop := guardLocksRow.holds Try.pinned (OpenSpec.ofChange guardLocksSpec)

/-- ITS FALSE NEIGHBOUR: 'it returns false'. Refute it at one input. -/
def guardLocksWrong : ChangeSpec := { name := "guardLocks", fn := fun _ => fun
  | [d1, d2, d3, d4] => { results := [.lit (.bool false)], args := [d1, d2, d3, d4] }
  | _ => none }
def GuardLocksWrongFalsely : Prop := guardLocksRow.holds Try.pinned (OpenSpec.ofChange guardLocksWrong)

/-- 'ostiarylaw13.GuardFull': WHATEVER THE INPUT: true; the input reads as it did. -/
def guardFullSpec : ChangeSpec := { name := "guardFull", fn := fun _ => fun
  | [d1, d2, d3] => { results := [.lit (.bool true)], args := [d1, d2, d3] }
  | _ => none }
def guardFullRow : OpenClaim := { program := "ytjagaagemgppcaa", sum := "50e560a487a763888af7b639c7b0ced8a41ba39ddfb29642020152f31f5c85c7", func := "ostiary/ostiarylaw13.GuardFull", spec := "guardFull", unfollowed := true, recurses := true, apart := false }
def GuardFullSaid : Prop := guardFullRow.holds Try.pinned (OpenSpec.ofChange guardFullSpec)

/-- ITS FALSE NEIGHBOUR: 'it returns false'. Refute it at one input. -/
def guardFullWrong : ChangeSpec := { name := "guardFull", fn := fun _ => fun
  | [d1, d2, d3] => { results := [.lit (.bool false)], args := [d1, d2, d3] }
  | _ => none }
def GuardFullWrongFalsely : Prop := guardFullRow.holds Try.pinned (OpenSpec.ofChange guardFullWrong)

/-- 'ostiarylaw13.GuardGood': WHATEVER THE INPUT: true; the input reads as it did. -/
def guardGoodSpec : ChangeSpec := { name := "guardGood", fn := fun _ => fun
  | [d1, d2] => { results := [.lit (.bool true)], args := [d1, d2] }
  | _ => none }
def guardGoodRow : OpenClaim := { program := "ytjagaagemgppcaa", sum := "50e560a487a763888af7b639c7b0ced8a41ba39ddfb29642020152f31f5c85c7", func := "ostiary/ostiarylaw13.GuardGood", spec := "guardGood", unfollowed := true, recurses := true, apart := false }
def GuardGoodSaid : Prop := guardGoodRow.holds Try.pinned (OpenSpec.ofChange guardGoodSpec)

/-- ITS FALSE NEIGHBOUR: 'it returns false'. Refute it at one input. -/
def guardGoodWrong : ChangeSpec := { name := "guardGood", fn := fun _ => fun
  | [d1, d2] => { results := [.lit (.bool false)], args := [d1, d2] }
  | _ => none }
def GuardGoodWrongFalsely : Prop := guardGoodRow.holds Try.pinned (OpenSpec.ofChange guardGoodWrong)

/-- 'ostiarylaw13.GuardBounds': WHATEVER THE INPUT: true; the input reads as it did. -/
def guardBoundsSpec : ChangeSpec := { name := "guardBounds", fn := fun _ => fun
  | [d1, d2, d3] => { results := [.lit (.bool true)], args := [d1, d2, d3] }
  | _ => none }
def guardBoundsRow : OpenClaim := { program := "ytjagaagemgppcaa", sum := "50e560a487a763888af7b639c7b0ced8a41ba39ddfb29642020152f31f5c85c7", func := "ostiary/ostiarylaw13.GuardBounds", spec := "guardBounds", unfollowed := true, recurses := true, apart := false }
def GuardBoundsSaid : Prop := guardBoundsRow.holds Try.pinned (OpenSpec.ofChange guardBoundsSpec)

/-- ITS FALSE NEIGHBOUR: 'it returns false'. Refute it at one input. -/
def guardBoundsWrong : ChangeSpec := { name := "guardBounds", fn := fun _ => fun
  | [d1, d2, d3] => { results := [.lit (.bool false)], args := [d1, d2, d3] }
  | _ => none }
def GuardBoundsWrongFalsely : Prop := guardBoundsRow.holds Try.pinned (OpenSpec.ofChange guardBoundsWrong)

/-- 'ostiarylaw13.GuardPlays': WHATEVER THE INPUT: true; the input reads as it did. -/
def guardPlaysSpec : ChangeSpec := { name := "guardPlays", fn := fun _ => fun
  | [d1, d2, d3] => { results := [.lit (.bool true)], args := [d1, d2, d3] }
  | _ => none }
def guardPlaysRow : OpenClaim := { program := "ytjagaagemgppcaa", sum := "50e560a487a763888af7b639c7b0ced8a41ba39ddfb29642020152f31f5c85c7", func := "ostiary/ostiarylaw13.GuardPlays", spec := "guardPlays", unfollowed := true, recurses := true, apart := false }
def GuardPlaysSaid : Prop := guardPlaysRow.holds Try.pinned (OpenSpec.ofChange guardPlaysSpec)

/-- ITS FALSE NEIGHBOUR: 'it returns false'. Refute it at one input. -/
def guardPlaysWrong : ChangeSpec := { name := "guardPlays", fn := fun _ => fun
  | [d1, d2, d3] => { results := [.lit (.bool false)], args := [d1, d2, d3] }
  | _ => none }
def GuardPlaysWrongFalsely : Prop := guardPlaysRow.holds Try.pinned (OpenSpec.ofChange guardPlaysWrong)

/- THE SECOND FORM. 'bulk': how many values and letters a reading holds, each counted each time it is reached (what is shared counts as often as it is met; a slice's spare places count too). A statement '..UptoSaid' is the law's where the arguments, and the package variables that the reading takes, are together of bulk at most 1048576: NARROWER than '..Said'. Prove '..Said' where nothing that the law and all that it calls make is longer than what came in: it says more and counts as full. Else prove '..UptoSaid'. A law counts once. -/
mutual
def uptoBulk {H : Type} : DataW H → Nat
  | .lit (.string bytes) => bytes.length + 1
  | .lit _ => 1
  | .nil => 1
  | .ptr d => uptoBulk d + 1
  | .slice elems spare => uptoBulkAll elems + uptoBulkAll spare + 1
  | .agg parts => uptoBulkAll parts + 1
  | .iface _ d => uptoBulk d + 1
  | .map entries => uptoBulkEntries entries + 1
  | .held _ => 1
def uptoBulkAll {H : Type} : List (DataW H) → Nat
  | [] => 0
  | d :: r => uptoBulk d + uptoBulkAll r
def uptoBulkEntries {H : Type} : List (Lit × DataW H) → Nat
  | [] => 0
  | x :: r => uptoBulkEntry x + uptoBulkEntries r
def uptoBulkEntry {H : Type} : Lit × DataW H → Nat
  | (.string bytes, d) => bytes.length + uptoBulk d + 1
  | (_, d) => uptoBulk d + 1
 end
def uptoSmall : (H : Type) → List (DataW H) → Bool := fun _ ds => decide (uptoBulkAll ds ≤ 1048576)
def OpenSpec.upto (s : _root_.Go.ChangeSpec) : _root_.Go.OpenSpec := { _root_.Go.OpenSpec.ofChange s with cond := some uptoSmall }

/-- 'ostiarylaw13.GuardLocks', WHERE WHAT IT READS IS OF BULK AT MOST 1048576: true; the input reads as it did. -/
def guardLocksUptoRow : OpenClaim := { program := "ytjagaagemgppcaa", sum := "50e560a487a763888af7b639c7b0ced8a41ba39ddfb29642020152f31f5c85c7", func := "ostiary/ostiarylaw13.GuardLocks", spec := "guardLocks", unfollowed := true, recurses := true, apart := false, narrowed := true }
def GuardLocksUptoSaid : Prop := guardLocksUptoRow.holds Try.pinned (OpenSpec.upto guardLocksSpec)

/-- 'ostiarylaw13.GuardFull', WHERE WHAT IT READS IS OF BULK AT MOST 1048576: true; the input reads as it did. -/
def guardFullUptoRow : OpenClaim := { program := "ytjagaagemgppcaa", sum := "50e560a487a763888af7b639c7b0ced8a41ba39ddfb29642020152f31f5c85c7", func := "ostiary/ostiarylaw13.GuardFull", spec := "guardFull", unfollowed := true, recurses := true, apart := false, narrowed := true }
def GuardFullUptoSaid : Prop := guardFullUptoRow.holds Try.pinned (OpenSpec.upto guardFullSpec)

/-- 'ostiarylaw13.GuardGood', WHERE WHAT IT READS IS OF BULK AT MOST 1048576: true; the input reads as it did. -/
def guardGoodUptoRow : OpenClaim := { program := "ytjagaagemgppcaa", sum := "50e560a487a763888af7b639c7b0ced8a41ba39ddfb29642020152f31f5c85c7", func := "ostiary/ostiarylaw13.GuardGood", spec := "guardGood", unfollowed := true, recurses := true, apart := false, narrowed := true }
def GuardGoodUptoSaid : Prop := guardGoodUptoRow.holds Try.pinned (OpenSpec.upto guardGoodSpec)

/-- 'ostiarylaw13.GuardBounds', WHERE WHAT IT READS IS OF BULK AT MOST 1048576: true; the input reads as it did. -/
def guardBoundsUptoRow : OpenClaim := { program := "ytjagaagemgppcaa", sum := "50e560a487a763888af7b639c7b0ced8a41ba39ddfb29642020152f31f5c85c7", func := "ostiary/ostiarylaw13.GuardBounds", spec := "guardBounds", unfollowed := true, recurses := true, apart := false, narrowed := true }
def GuardBoundsUptoSaid : Prop := guardBoundsUptoRow.holds Try.pinned (OpenSpec.upto guardBoundsSpec)

/-- 'ostiarylaw13.GuardPlays', WHERE WHAT IT READS IS OF BULK AT MOST 1048576: true; the input reads as it did. -/
def guardPlaysUptoRow : OpenClaim := { program := "ytjagaagemgppcaa", sum := "50e560a487a763888af7b639c7b0ced8a41ba39ddfb29642020152f31f5c85c7", func := "ostiary/ostiarylaw13.GuardPlays", spec := "guardPlays", unfollowed := true, recurses := true, apart := false, narrowed := true }
def GuardPlaysUptoSaid : Prop := guardPlaysUptoRow.holds Try.pinned (OpenSpec.upto guardPlaysSpec)

end Rows
end Go.Proofs.Ytjagaagemgppcaa
