/- What the three listed variables hold, as chunks. Conditions: as each says. -/
import Derived.Test.YtfaobbekodifmaaDoorQX
import Derived.Test.YtfaobbekodifmaaDoorQ5
namespace Go.Proofs.YtfaobbekodifmaaDoor
open Go Go.Ost Go.Sha Go.ChangeShapes Go.WideShapes Go.ChangeAt Go.RowKit
set_option linter.unusedVariables false

theorem laid3 {W : World} (h : laidMetH Tryd.prog [("ostiary/ostiaryref01.words", Rows.laid_ostiary_ostiaryref01_words), ("ostiary/sha.first", Rows.laid_ostiary_sha_first), ("ostiary/sha.odd", Rows.laid_ostiary_sha_odd)] W) (C : Chunk) (hC : ∀ k o, W.heap[k]? = some o → (k, o) ∈ C) : Globs3 C := by
  have h' : laidMet Tryd.prog [("ostiary/ostiaryref01.words", Lib.tabData .u32 oddZ), ("ostiary/sha.first", Lib.tabData .u32 firstZ), ("ostiary/sha.odd", Lib.tabData .u32 oddZ)] W := h
  obtain ⟨ps, h0, _, _⟩ := h'
  obtain ⟨⟨t2, m2, hb2⟩, qs, h1⟩ := tab_head (g := 2) (t := 70) (e := 50) (n := 64) (by kernel_rfl) (by kernel_rfl) (by kernel_rfl) (by kernel_rfl) (by kernel_rfl) (by kernel_rfl) odd_z h0
  obtain ⟨⟨t0, m0, hb0⟩, qs, h2⟩ := tab_head (g := 0) (t := 51) (e := 50) (n := 8) (by kernel_rfl) (by kernel_rfl) (by kernel_rfl) (by kernel_rfl) (by kernel_rfl) (by kernel_rfl) first_z h1
  obtain ⟨⟨t1, m1, hb1⟩, _, _⟩ := tab_head (g := 1) (t := 70) (e := 50) (n := 64) (by kernel_rfl) (by kernel_rfl) (by kernel_rfl) (by kernel_rfl) (by kernel_rfl) (by kernel_rfl) odd_z h2
  exact ⟨⟨⟨t0, m0, hC _ _ hb0⟩, ⟨t1, m1, hC _ _ hb1⟩⟩, ⟨t2, m2, hC _ _ hb2⟩⟩

end Go.Proofs.YtfaobbekodifmaaDoor
