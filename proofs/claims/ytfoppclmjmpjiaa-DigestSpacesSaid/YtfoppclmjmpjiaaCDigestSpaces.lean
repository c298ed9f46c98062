/- 'ostiary/ostiarylaw08.DigestSpaces' returns true whatever its input, and its input reads as it did. Conditions: none beyond the given statement's. -/
import Derived.Test.YtfoppclmjmpjiaaM8e9718d1
import Derived.Test.YtfoppclmjmpjiaaM8f6a7144
import Derived.Test.YtfoppclmjmpjiaaMf233527e
import Derived.Test.YtfoppclmjmpjiaaRows
import Derived.WalkKit
import Derived.ProofKit
import Derived.OpenShut
import Derived.ChangeMaps5
namespace Go.Proofs.Ytfoppclmjmpjiaa.digestSpaces
open Go.ChangeShapes Go.WideShapes Go.ChangeAt Go.RowKit Go.Ost
set_option linter.unusedVariables false

theorem own : ownKnob Try.prog.godebug = none := by kernel_rfl
theorem laid : laidOutB Try.prog = true := by kernel_rfl

set_option maxRecDepth 100000 in
theorem lifted (os : Os) (started : os.Started) (H : Type) (enc : TypeId × Value → H) :
    ReturnsInHanded {} Try.checked os 6 .any (Rows.digestSpacesSpec.pre6 enc Try.prog Try.f6 Rows.digestSpacesRow.domain false) (Rows.digestSpacesSpec.post enc Try.prog Try.f6 false true false false) := by
  refine returnsInHanded_of_change (C := Try.checked) own started (by kernel_rfl) Try.func6
    (ChangeSpec.witness6 (enc := enc) (C := Try.checked) false ⟨#[], #[.slice none 0 0, .slice none 0 0], []⟩ 8 (by kernel_rfl) (by kernel_rfl) (by kernel_rfl) (by kernel_rfl)) ?_
  intro W base args ds gs before hval0 hW hcnd _
  have hval : ∀ (j : Nat) t v, Try.f6.params[j]? = some t → args[j]? = some v → Value.okWide Try.prog W .any base t v := hval0
  have hW' := hW
  obtain ⟨p, q, hA0, hV, rfl, hfz, hnd⟩ := hW
  have hA : DataW.TrodAll enc Try.prog W 0 (fun _ => true) true Try.f6.params.toList args.toList ds p := hA0
  rw [Try.params6] at hA hval
  obtain ⟨v0, vs0, d0, ds0, p0, q0, hargs, rfl, rfl, h0, r0⟩ := trodAll_cons hA
  obtain ⟨v1, vs1, d1, ds1, p1, q1, rfl, rfl, rfl, h1, r1⟩ := trodAll_cons r0
  obtain ⟨rfl, rfl, rfl⟩ := trodAll_nil r1
  obtain rfl : args = #[v0, v1] := by cases args; simp_all
  obtain ⟨z0, g0⟩ := open_rows (ks := [.str, .str, .bool]) Try.underlying33 (by kernel_rfl) (hval 0 33 v0 rfl rfl) h0
  obtain ⟨z1, g1⟩ := open_slc Try.underlying30 Try.underlying5 (by kernel_rfl) (hval 1 30 v1 rfl rfl) h1
  refine (law_calls (P := Try.prog) (f := 6) W fun C hC => DigestSpaces_law C trivial v0 z0 (g0 C hC) v1 z1 (g1 C hC)).mono fun e W' ⟨he, hb⟩ => ?_
  subst he
  exact ⟨_, rfl, law_post laid (by kernel_rfl) rfl rfl Try.underlying4 hW' hb (fun h => by subst h; rfl)⟩

theorem over : Rows.digestSpacesRow.holds Try.pinned (OpenSpec.ofChange Rows.digestSpacesSpec) :=
  OpenClaim.holds_of_wide 6 Try.f6 rfl rfl rfl rfl rfl rfl rfl ⟨rfl, rfl, rfl, rfl, rfl⟩ rfl rfl rfl rfl rfl (by kernel_rfl) Try.func6 (by kernel_rfl)
    (of_decide_eq_true (by kernel_rfl)) (by unfold Func.isWrapper; first | (rw [if_pos (by decide +kernel)]; kernel_rfl) | (rw [if_neg (by decide +kernel)]; exact ⟨rfl, rfl⟩))
    (fun os started H enc _ => lifted os started H enc)

/-- The statement. -/
theorem proved : Rows.DigestSpacesSaid := over
#print axioms proved
end Go.Proofs.Ytfoppclmjmpjiaa.digestSpaces
