/- What the listed variables hold, as chunks; a world that holds them. Conditions: as each says. -/
import Derived.Test.YtfaobbekodifmaaDoorQH
import Derived.Test.YtfaobbekodifmaaDoorCards
import Derived.Test.YtfaobbekodifmaaDoorTie
import Derived.WalkKit
import Derived.ProofKit
import Derived.OpenShut
import Derived.Deep.DeepHandedRow
import Derived.Lib.LaidTab
namespace Go.Proofs.YtfaobbekodifmaaDoor
open Go Go.Ost Go.Sha Go.ChangeShapes Go.WideShapes Go.ChangeAt Go.RowKit
set_option linter.unusedVariables false

/-- A listed table: its block holds its numbers; and the rest of the list. -/
theorem tab_head {P : Program} {W : World} {name : String} {zs : List Int} {rest : List (String × DataW Unit)} {ps : List MemPlace} {g : Nat} {t e : TypeId} {n : Nat} {l : List W32}
    (hg : P.globalNamed name = some g) (hty : (P.globals[g]?).map (·.type) = some t) (ht : P.underlying t = some (.array n e)) (he : P.underlying e = some (.int .u32)) (hce : P.cellsOf e = 1) (hct : P.cellsOf t = n)
    (hz : zs = l.map fun x => (x.toNat : Int)) (h : DataW.LaidVars P W ((name, Lib.tabData .u32 zs) :: rest) ps) : (∃ ty m, W.heap[g]? = some (.cells (rowW l) ty m)) ∧ ∃ qs, DataW.LaidVars P W rest qs := by
  obtain ⟨g', t', cs, fuel, p, q, hg', ht', hvar, hd, hr, _⟩ := h
  obtain rfl := Option.some.inj (hg.symm.trans hg')
  obtain rfl := Option.some.inj (hty.symm.trans ht')
  refine ⟨?_, q, hr⟩
  have hcs := Lib.cells_of_tab ht he hce hct hd
  simp only [World.var?, hg, Option.bind_some] at hvar
  split at hvar
  · rename_i c ty fr hb
    cases hvar
    refine ⟨ty, fr, ?_⟩
    rw [hb]
    have : cs = rowW l := by
      apply Array.ext'
      rw [hcs, hz, List.map_map]; rfl
    rw [this]
  · cases hvar

def firstZ : List Int := [1779033703, 3144134277, 1013904242, 2773480762, 1359893119, 2600822924, 528734635, 1541459225]
def oddZ : List Int := [1116352408, 1899447441, 3049323471, 3921009573, 961987163, 1508970993, 2453635748, 2870763221, 3624381080, 310598401, 607225278, 1426881987, 1925078388, 2162078206, 2614888103, 3248222580, 3835390401, 4022224774, 264347078, 604807628, 770255983, 1249150122, 1555081692, 1996064986, 2554220882, 2821834349, 2952996808, 3210313671, 3336571891, 3584528711, 113926993, 338241895, 666307205, 773529912, 1294757372, 1396182291, 1695183700, 1986661051, 2177026350, 2456956037, 2730485921, 2820302411, 3259730800, 3345764771, 3516065817, 3600352804, 4094571909, 275423344, 430227734, 506948616, 659060556, 883997877, 958139571, 1322822218, 1537002063, 1747873779, 1955562222, 2024104815, 2227730452, 2361852424, 2428436474, 2756734187, 3204031479, 3329325298]
theorem first_z : firstZ = first.list.map fun x => (x.toNat : Int) := by decide +kernel
theorem odd_z : oddZ = odd.map fun x => (x.toNat : Int) := by decide +kernel

theorem laid2 {W : World} (h : laidMetH Tryd.prog [("ostiary/sha.first", Rows.laid_ostiary_sha_first), ("ostiary/sha.odd", Rows.laid_ostiary_sha_odd)] W) (C : Chunk) (hC : ∀ k o, W.heap[k]? = some o → (k, o) ∈ C) : Globs C := by
  have h' : laidMet Tryd.prog [("ostiary/sha.first", Lib.tabData .u32 firstZ), ("ostiary/sha.odd", Lib.tabData .u32 oddZ)] W := h
  obtain ⟨ps, h1, _, _⟩ := h'
  obtain ⟨⟨t0, m0, hb0⟩, qs, h2⟩ := tab_head (g := 0) (t := 51) (e := 50) (n := 8) (by kernel_rfl) (by kernel_rfl) (by kernel_rfl) (by kernel_rfl) (by kernel_rfl) (by kernel_rfl) first_z h1
  obtain ⟨⟨t1, m1, hb1⟩, _, _⟩ := tab_head (g := 1) (t := 70) (e := 50) (n := 64) (by kernel_rfl) (by kernel_rfl) (by kernel_rfl) (by kernel_rfl) (by kernel_rfl) (by kernel_rfl) odd_z h2
  exact ⟨⟨t0, m0, hC _ _ hb0⟩, ⟨t1, m1, hC _ _ hb1⟩⟩

def put (cs : Array Value) : Obj → Obj
  | .cells _ t fr => .cells cs t fr
  | o => o
/-- A world for the witnesses. -/
noncomputable def laidWorld (os : Os) : World :=
  { World.holding Tryd.prog os ⟨#[], #[], []⟩ with heap := (((World.holding Tryd.prog os ⟨#[], #[], []⟩).heap.modify 0 (put (firstZ.map fun z => Value.int .u32 z).toArray)).modify 1 (put (oddZ.map fun z => Value.int .u32 z).toArray)).modify 2 (put (oddZ.map fun z => Value.int .u32 z).toArray) }

end Go.Proofs.YtfaobbekodifmaaDoor
