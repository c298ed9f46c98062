/- Whole blocks loaded and stored; what may be written over. Conditions: as each says. -/
import Derived.Test.YtfaobbekodifmaaDoorSk2
set_option linter.unusedSimpArgs false
set_option linter.unusedVariables false
namespace Go.Ost
open Go

variable {P : Program}

theorem load_rx {t e : TypeId} {z : Value} {s by_ : Nat} {S : State} {κ : Value → Prop} {b : Nat} {l : List W32} {r : List Value} {m : Nat × Nat} [hf : TDeep P t] [hs : TSized P t z s by_] (hl : Lies b (.cells (rowX l r) e m) S) (h : l.length = s) (k : κ (.agg (rowW l))) :
    ReadW P (Instr.loadAt t (.pointer (some ⟨b, 0, none⟩))) S κ := by
  refine load_agg hl (by rw [rowX_size]; omega) ?_
  have : (rowX l r).extract 0 (0 + s) = rowW l := by
    apply Array.ext'; simp [rowX, rowW, ← h, List.take_append_of_le_length, List.take_of_length_le]
  rw [this]; exact k
theorem load_ra {t e : TypeId} {z : Value} {s by_ : Nat} {S : State} {κ : Value → Prop} {b : Nat} {l : List W32} {r : List Value} {m : Nat × Nat} [hf : TDeep P t] [hs : TSized P t z s by_] (hl : Lies b (.cells (rowX l r) e m) S) (h : l.length + r.length = s) (k : κ (.agg (rowX l r))) :
    ReadW P (Instr.loadAt t (.pointer (some ⟨b, 0, none⟩))) S κ := by
  refine load_agg hl (by rw [rowX_size]; omega) ?_
  have : (rowX l r).extract 0 (0 + s) = rowX l r := by
    apply Array.ext'
    simp only [rowX, List.extract_toArray, List.extract_eq_take_drop, List.drop_zero]
    rw [List.take_of_length_le (by simp; omega)]
  rw [this]; exact k
theorem store_ra {t e : TypeId} {z : Value} {s by_ : Nat} {S S' : State} {κ : State → Prop} {b : Nat} {l l' : List W32} {r r' : List Value} [hs : TSized P t z s by_] (hc : ∀ v ∈ r', Value.cell1 v) (hu : Upd b (.cells (rowX l r) e (0, 0)) (.cells (rowX l' r') e (0, 0)) S S')
    (h : l.length + r.length = s) (h' : l'.length + r'.length = s) (k : κ S') : UnitW P (Instr.storeAt t (.pointer (some ⟨b, 0, none⟩)) (.agg (rowX l' r'))) S κ := by
  refine store_agg (e := e) (cs := rowX l r) (S' := S') (by rw [rowX_size]; exact h') (fun v hv => ?_) ?_ (by rw [rowX_size]; omega) k
  · simp only [rowX, List.mem_append, List.mem_map] at hv
    rcases hv with ⟨x, _, rfl⟩ | hv
    · exact b32_cell x
    · exact hc v hv
  · have q := setCells_all (l'.map b32 ++ r') [] (l.map b32 ++ r) [] (by simp; omega)
    simp only [List.nil_append, List.append_nil, List.length_nil] at q
    have e2 : setCells (rowX l r) 0 (rowX l' r').toList = rowX l' r' := q
    rw [e2]; exact hu

/-! ### What may be written over -/

def Wr (C : Chunk) (a : Option Addr) (bs : List UInt8) : Prop :=
  bs ≠ [] → ∃ b o cs e lo hi, a = some ⟨b, o, none⟩ ∧ C = [(b, .cells cs e (lo, hi))] ∧ (∀ i, i < bs.length → cs[o + i]? = some (b8 (bs.getD i 0))) ∧ ∀ i, i < bs.length → ¬ (lo ≤ o + i ∧ o + i < hi)
theorem Wr.rd {C : Chunk} {a : Option Addr} {bs : List UInt8} (h : Wr C a bs) : Rd 1 [C] a bs.length (bs.map b8) := by
  refine ⟨by simp, fun hne => ?_⟩
  obtain ⟨b, o, cs, e, lo, hi, rfl, rfl, hc, _⟩ := h (by intro h0; subst h0; simp at hne)
  exact ⟨b, o, cs, e, (lo, hi), rfl, Lies.one, fun i hi => by
    simp only [List.length_map] at hi
    rw [hc i hi]; simp [List.getD, hi]⟩
theorem wr_store {t : TypeId} {z : Value} {by_ : Nat} [hs : TSized P t z 1 by_] {S G : State} {κ : State → Prop} {C : Chunk} {a : Option Addr} {i : Nat} {bs : List UInt8} {x : UInt8}
    (ho : Wr C a bs) (hp : Pick C S G) (hi : i < bs.length) (k : ∀ C', Wr C' a (bs.set i x) → κ (C' :: G)) : UnitW P (Instr.storeAt t (.pointer (some (elA a i))) (b8 x)) S κ := by
  refine ⟨fun w hw => ?_⟩
  obtain ⟨b, o, cs, e, lo, hi', rfl, rfl, hc, hfr⟩ := ho (by intro h0; subst h0; simp at hi)
  have hCG := hw.perm hp.perm
  have hg := hCG.get b (.cells cs e (lo, hi')) (by simp)
  have hst := set_heap (o := o + i) hg (b8 x)
  have hci := hc i hi
  have hlt := (Array.getElem?_eq_some_iff.1 hci).1
  have hrun := run_store (P := P) (w := w) (a := ⟨b, o + i, none⟩) (v := b8 x) (u := b8 (bs.getD i 0)) (b8_cell x) (by rw [cell_of hg, hci]) (by
    rw [frozen_of hg]
    have := hfr i hi
    simp; omega)
  refine ⟨w.setCell ⟨b, o + i, none⟩ (b8 x), _, ?_, ext_set _ _ _, (Upd.one (S := G)).hold hCG hst.1 hst.2, k [(b, .cells (cs.setIfInBounds (o + i) (b8 x)) e (lo, hi'))] (fun _ => ⟨b, o, _, e, lo, hi', rfl, rfl, fun j hj => ?_, fun j hj => hfr j (by simpa using hj)⟩)⟩
  · have e1 : (Value.cells (b8 x)) = #[b8 x] := rfl
    simp only [elA, Option.getD_some, add_mk]
    simp [Instr.storeAt, Instr.sureAddr, storeVar, Sem.run_bind, run_size hs, Result.andThen, e1, storeCells, add_mk, hrun]
  · simp only [List.length_set] at hj
    by_cases e2 : j = i
    · subst e2
      rw [Array.getElem?_setIfInBounds_self, if_pos (by omega)]
      simp [List.getD, hj]
    · rw [Array.getElem?_setIfInBounds_ne (by omega), hc j hj]
      simp [List.getD, List.getElem?_set_ne (show i ≠ j by omega)]

end Go.Ost
