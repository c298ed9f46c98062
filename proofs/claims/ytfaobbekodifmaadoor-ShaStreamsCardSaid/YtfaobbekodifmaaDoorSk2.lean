/- More rules of 64 bits: shifting and putting together. Conditions: as each says. -/
import Derived.Test.YtfaobbekodifmaaDoorSk
set_option linter.unusedSimpArgs false
set_option linter.unusedVariables false
namespace Go.Ost
open Go

variable {P : Program}

theorem u64_shl32 {t : TypeId} {x y : Operand} {j : IntKind} {a : W32} {κ : Value → Prop} : PureW P (do eqGuard .shl t x y (.int .u64 a.toNat) (.int j 32); binOp .shl t (.int .u64 a.toNat) (.int j 32)) κ = κ (.int .u64 ((a.toNat * 4294967296 : Nat) : Int)) :=
  pureW_eq (fun w => by
    show (Op.shift .shl .u64 (a.toNat : Int) j 32).run P w = _
    show Result.ok (Value.int .u64 (IntKind.u64.wrap ((a.toNat : Int) * 2 ^ 32))) w = _
    have := a.isLt
    rw [show ((a.toNat : Int) * 2 ^ 32) = ((a.toNat * 4294967296 : Nat) : Int) from by simp, wrap_u64 (by omega) (by omega)]) κ
theorem u64_or {t : TypeId} {x y : Operand} {a b : W32} {κ : Value → Prop} : PureW P (do eqGuard .or t x y (.int .u64 ((a.toNat * 4294967296 : Nat) : Int)) (.int .u64 b.toNat); binOp .or t (.int .u64 ((a.toNat * 4294967296 : Nat) : Int)) (.int .u64 b.toNat)) κ = κ (.int .u64 ((a.toNat * 4294967296 + b.toNat : Nat) : Int)) :=
  pureW_eq (fun w => by
    show Result.ok (Value.int .u64 (IntKind.u64.wrap ((BitVec.ofInt 64 ((a.toNat * 4294967296 : Nat) : Int) ||| BitVec.ofInt 64 (b.toNat : Int)).toNat : Int))) w = _
    have h1 := a.isLt
    have h2 := b.isLt
    have e : (BitVec.ofInt 64 ((a.toNat * 4294967296 : Nat) : Int) ||| BitVec.ofInt 64 (b.toNat : Int)).toNat = a.toNat * 4294967296 + b.toNat := by
      rw [BitVec.ofInt_natCast, BitVec.ofInt_natCast, BitVec.toNat_or, BitVec.toNat_ofNat, BitVec.toNat_ofNat, Nat.mod_eq_of_lt (by omega), Nat.mod_eq_of_lt (by omega)]
      have := Nat.shiftLeft_add_eq_or_of_lt (i := 32) h2 a.toNat
      rw [Nat.shiftLeft_eq] at this
      exact this.symm
    rw [e, wrap_u64 (by omega) (by omega)]) κ

/-! ### Eight words, and two cells behind them -/

theorem rowX_8 {l : List W32} (h : l.length = 8) (v u : Value) : (rowX l [v, u])[8]? = some v ∧ (rowX l [v, u])[9]? = some u := by
  simp only [rowX, List.getElem?_toArray]
  constructor
  · rw [List.getElem?_append_right (by simp [h])]; simp [h]
  · rw [List.getElem?_append_right (by simp [h])]; simp [h]
theorem load_h8 {t e : TypeId} {S : State} {κ : Value → Prop} {b : Nat} {l : List W32} {v u : Value} {m : Nat × Nat} [hf : TFlat P t] (hl : Lies b (.cells (rowX l [v, u]) e m) S) (h : l.length = 8) (k : κ v) :
    ReadW P (Instr.loadAt t (.pointer (some ⟨b, 8, none⟩))) S κ := load_one hl (rowX_8 h v u).1 k
theorem load_h9 {t e : TypeId} {S : State} {κ : Value → Prop} {b : Nat} {l : List W32} {v u : Value} {m : Nat × Nat} [hf : TFlat P t] (hl : Lies b (.cells (rowX l [v, u]) e m) S) (h : l.length = 8) (k : κ u) :
    ReadW P (Instr.loadAt t (.pointer (some ⟨b, 9, none⟩))) S κ := load_one hl (rowX_8 h v u).2 k
theorem rowX_set8 {l : List W32} (h : l.length = 8) (v u x : Value) : (rowX l [v, u]).setIfInBounds 8 x = rowX l [x, u] ∧ (rowX l [v, u]).setIfInBounds 9 x = rowX l [v, x] := by
  simp only [rowX, List.setIfInBounds_toArray]
  constructor
  · rw [List.set_append_right _ _ (by simp [h])]; simp [h]
  · rw [List.set_append_right _ _ (by simp [h])]; simp [h]
theorem store_h8 {t e : TypeId} {z : Value} {by_ : Nat} {S S' : State} {κ : State → Prop} {b : Nat} {l : List W32} {v u x : Value} [hs : TSized P t z 1 by_] (hc : Value.cell1 x) (hu : Upd b (.cells (rowX l [v, u]) e (0, 0)) (.cells (rowX l [x, u]) e (0, 0)) S S')
    (h : l.length = 8) (k : κ S') : UnitW P (Instr.storeAt t (.pointer (some ⟨b, 8, none⟩)) x) S κ :=
  store_one (cs := rowX l [v, u]) hc (by rw [(rowX_set8 h v u x).1]; exact hu) (by rw [rowX_size]; simp; omega) k
theorem store_h9 {t e : TypeId} {z : Value} {by_ : Nat} {S S' : State} {κ : State → Prop} {b : Nat} {l : List W32} {v u x : Value} [hs : TSized P t z 1 by_] (hc : Value.cell1 x) (hu : Upd b (.cells (rowX l [v, u]) e (0, 0)) (.cells (rowX l [v, x]) e (0, 0)) S S')
    (h : l.length = 8) (k : κ S') : UnitW P (Instr.storeAt t (.pointer (some ⟨b, 9, none⟩)) x) S κ :=
  store_one (cs := rowX l [v, u]) hc (by rw [(rowX_set8 h v u x).2]; exact hu) (by rw [rowX_size]; simp; omega) k

end Go.Ost
