/- 'ostiary/ostiarylaw21.QuestPlays' returns true whatever its input, and its input reads as it did; the card. Conditions: the listed variables hold what the program's text lays. -/
import Derived.Test.YtebikhhoppiapaaGreatDoorM1e098568
import Derived.Test.YtebikhhoppiapaaGreatDoorMc263b430
import Derived.ChangeMaps5
import Derived.Test.YtebikhhoppiapaaGreatDoorM09790199
namespace Go.Proofs.YtebikhhoppiapaaGreatDoor.questPlays
open Go.ChangeShapes Go.WideShapes Go.ChangeAt Go.RowKit Go.Ost
set_option linter.unusedVariables false

theorem own : ownKnob Tryz.prog.godebug = none := by kernel_rfl
theorem laid : laidOutB Tryz.prog = true := by kernel_rfl

set_option maxRecDepth 100000 in
set_option maxHeartbeats 2000000 in
theorem contract (H : Type) (enc : TypeId × Value → H) (W : World) (base : Nat) (args : Array Value) (ds gs : List (DataW H)) (before : List MemPlace)
    (hval : ∀ (j : Nat) t v, Tryz.f5.params[j]? = some t → args[j]? = some v → Value.okWide Tryz.prog W .any base t v)
    (hW : DataW.Whole enc Tryz.prog Tryz.f5.params.toList Rows.questPlaysSpec.vars false W args.toList ds gs before) (hL : laidMetH Tryz.prog Rows.questPlaysRow.laid W) :
    Calls Tryz.prog 5 args W fun e W' => ∃ v, e = .returned v ∧ Rows.questPlaysSpec.post enc Tryz.prog Tryz.f5 false true false false W args v W' := by
  have hW' := hW
  obtain ⟨p, q, hA0, hV, rfl, hfz, hnd⟩ := hW
  have hA : DataW.TrodAll enc Tryz.prog W 0 (fun _ => true) true Tryz.f5.params.toList args.toList ds p := hA0
  rw [Tryz.params5] at hA hval
  obtain ⟨v0, vs0, d0, ds0, p0, q0, hargs, rfl, rfl, h0, r0⟩ := trodAll_cons hA
  obtain ⟨v1, vs1, d1, ds1, p1, q1, rfl, rfl, rfl, h1, r1⟩ := trodAll_cons r0
  obtain ⟨v2, vs2, d2, ds2, p2, q2, rfl, rfl, rfl, h2, r2⟩ := trodAll_cons r1
  obtain ⟨v3, vs3, d3, ds3, p3, q3, rfl, rfl, rfl, h3, r3⟩ := trodAll_cons r2
  obtain ⟨rfl, rfl, rfl⟩ := trodAll_nil r3
  obtain rfl : args = #[v0, v1, v2, v3] := by cases args; simp_all
  obtain ⟨a0, rfl, rfl, rfl⟩ := open_bool Tryz.underlying4 (hval 0 4 v0 rfl rfl) h0
  obtain ⟨a1, rfl, rfl, rfl, w1⟩ := open_int Tryz.underlying5 (hval 1 5 v1 rfl rfl) h1
  obtain ⟨a2, rfl, rfl, rfl, w2⟩ := open_int Tryz.underlying65 (hval 2 65 v2 rfl rfl) h2
  obtain ⟨z3, g3⟩ := eU (ks := [.int .u8, .str, .bool, .str, .str, .str, .str, .str, .int .u8, .int .u32, .bool, .int .u16]) Tryz.underlying66 (by kernel_rfl) (hval 3 66 v3 rfl rfl) h3
  refine (fL (P := Tryz.prog) (f := 5) W fun C hC => Qm C (laid7 hL C hC) a0 a1 w1 a2 w2 v3 z3 (g3 C hC)).mono fun e W' ⟨he, hb⟩ => ?_
  subst he
  exact ⟨_, rfl, law_post laid (by kernel_rfl) rfl rfl Tryz.underlying4 hW' hb (fun h => by subst h; rfl)⟩

theorem laid_met (os : Os) : laidMet Tryz.prog Rows.questPlaysRow.laid ((Xk os).forCall (fun _ _ => 0) ⟨#[], #[.bool false, .int .u8 0, .int .u16 0, .slice none 0 0], []⟩).memory :=
  laidMet_of_run' 100 (by kernel_rfl) (by kernel_rfl)
theorem reads (os : Os) {H : Type} (enc : TypeId × Value → H) : ∃ places, DataW.whole enc Tryz.prog ((Xk os).forCall (fun _ _ => 0) ⟨#[], #[.bool false, .int .u8 0, .int .u16 0, .slice none 0 0], []⟩).memory Tryz.f5.params.toList Rows.questPlaysSpec.vars false #[Value.bool false, Value.int .u8 0, Value.int .u16 0, Value.slice none 0 0].toList 8 = some ([.lit (.bool false), .lit (.int .u8 0), .lit (.int .u16 0), .nil], [], places) :=
  ⟨[], by kernel_rfl⟩

set_option maxRecDepth 100000 in
theorem lifted (os : Os) (started : os.Started) (H : Type) (enc : TypeId × Value → H) (F : Stop.Interp) :
    ReturnsInHanded {} Tryz.checked os 5 .any ((OpenSpec.ofChange Rows.questPlaysSpec).preRow enc Tryz.prog Tryz.f5 Rows.questPlaysRow.domain false Rows.questPlaysRow.laid) (((OpenSpec.ofChange Rows.questPlaysSpec).at F).post enc Tryz.prog Tryz.f5 false true false false) := by
  obtain ⟨places, hx⟩ := reads os enc
  refine returnsInHanded_of_row (C := Tryz.checked) (s := OpenSpec.ofChange Rows.questPlaysSpec) own started (by kernel_rfl) Tryz.func5
    (witness_row_at (enc := enc) (C := Tryz.checked) false (Xk os) #[.bool false, .int .u8 0, .int .u16 0, .slice none 0 0] rfl (by kernel_rfl) (by kernel_rfl) (by kernel_rfl)
      (OpenSpec.preRow_of_cond 8 hx (by kernel_rfl) (fun k hk => by cases hk) (by kernel_rfl) (laid_met os))) ?_
  intro W base args ds gs before hval hW _ _ _ hL _ _
  exact contract H enc W base args ds gs before hval hW hL

theorem said : Rows.QuestPlaysSaid :=
  OpenClaim.holds_of_cond 5 Tryz.f5 rfl rfl rfl rfl rfl rfl rfl ⟨rfl, rfl, rfl, rfl, rfl⟩ rfl rfl rfl rfl rfl (by kernel_rfl) Tryz.func5 (by kernel_rfl)
    (of_decide_eq_true (by kernel_rfl)) (by unfold Func.isWrapper; first | (rw [if_pos (by decide +kernel)]; kernel_rfl) | (rw [if_neg (by decide +kernel)]; exact ⟨rfl, rfl⟩))
    (fun os started H enc _ F => by rw [OpenClaim.pre_eq_preRow]; exact lifted os started H enc F)

theorem yg (f : FuncId) (fn : Func) (hf : Tryz.pinned.checked.prog.funcNamed "ostiary/ostiarylaw21.QuestPlays" = some f) (hfn : Tryz.pinned.checked.prog.funcs[f]? = some fn) :
    false = Tryz.pinned.checked.prog.looks [] ∧ ∀ (j : Nat) t, fn.params[j]? = some t → Tryz.pinned.checked.prog.wantsStandIn t = false := by
  obtain rfl : f = 5 := Option.some.inj ((show Tryz.prog.funcNamed "ostiary/ostiarylaw21.QuestPlays" = some 5 by kernel_rfl).symm.trans hf) |>.symm
  obtain rfl : fn = Tryz.f5 := (Option.some.inj (Tryz.func5.symm.trans hfn)).symm
  refine ⟨by kernel_rfl, fun j t ht => ?_⟩
  rw [Tryz.params5] at ht
  have hm : t = 4 ∨ t = 5 ∨ t = 65 ∨ t = 66 := by simpa using Array.mem_of_getElem? ht
  rcases hm with h | h | h | h
  · rw [h]; exact (show Tryz.prog.wantsStandIn 4 = false by kernel_rfl)
  · rw [h]; exact (show Tryz.prog.wantsStandIn 5 = false by kernel_rfl)
  · rw [h]; exact (show Tryz.prog.wantsStandIn 65 = false by kernel_rfl)
  · rw [h]; exact (show Tryz.prog.wantsStandIn 66 = false by kernel_rfl)

/-- The card. -/
theorem proved : Rows.QuestPlaysCardSaid :=
  Claim7.holds_tied_plain_at .later [] _ _ _ _ said (fun _ h => by cases h) (by kernel_rfl) (fun _ h => by cases h) questPlays_row_tie rfl ⟨rfl, rfl⟩ (by kernel_rfl) rfl yg (by kernel_rfl)
#print axioms proved
end Go.Proofs.YtebikhhoppiapaaGreatDoor.questPlays
