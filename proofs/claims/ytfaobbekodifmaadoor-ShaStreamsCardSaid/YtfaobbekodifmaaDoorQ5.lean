/- The variables that the code and the document read. Conditions: none. -/
import Derived.Test.YtfaobbekodifmaaDoorQH
namespace Go.Proofs.YtfaobbekodifmaaDoor
open Go Go.Ost Go.Sha

/-- The variables, the document's too. -/
structure Globs3 (C : Chunk) : Prop extends Globs C where
  g2 : ∃ t m, (2, Obj.cells (rowW odd) t m) ∈ C

end Go.Proofs.YtfaobbekodifmaaDoor
