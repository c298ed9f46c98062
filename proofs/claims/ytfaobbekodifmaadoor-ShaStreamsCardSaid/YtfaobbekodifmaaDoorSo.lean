/- Slices of slices of bytes, as the reading ahead of the call has them. Conditions: as each says. -/
import Derived.Test.YtfaobbekodifmaaDoorSz
import Derived.Test.YtfaobbekodifmaaDoorSj
import Derived.Deep.Matrix
set_option linter.unusedSimpArgs false
set_option linter.unusedVariables false
namespace Go.Ost
open Go Go.ChangeShapes Go.WideShapes Go.ChangeAt Go.RowKit Go.Deep

variable {P : Program}

def RowS (C : Chunk) (v : Value) (ls : List (List UInt8)) : Prop := ∃ a cap, v = .slice a ls.length cap ∧ ls.length ≤ cap ∧ cap ≤ maxLen ∧ Parts [C] a ls.length ls

theorem cell_block {w : World} {a : Addr} {v : Value} (h : w.cell? a = some v) : ∃ b o cs e m, a = ⟨b, o, none⟩ ∧ w.heap[b]? = some (.cells cs e m) := by
  unfold World.cell? at h
  split at h
  · rename_i c t fr hb
    split at h
    · cases h
    · rename_i hs
      obtain ⟨b, o, sp⟩ := a
      cases sp with
      | none => exact ⟨b, o, c, t, fr, rfl, hb⟩
      | some s => simp at hs
  · cases h
/-- Cells of a world, one behind the other, as a chunk's. -/
theorem rd_cells {w : World} {a : Addr} {us : List Value} {C : Chunk} (hC : ∀ k o, w.heap[k]? = some o → (k, o) ∈ C) (h : ∀ i v, us[i]? = some v → w.cell? (a.add i) = some v) : Rd 1 [C] (some a) us.length us := by
  refine ⟨by simp, fun hne => ?_⟩
  obtain ⟨u, us', rfl⟩ := List.exists_cons_of_ne_nil hne
  have h0 := h 0 u rfl
  obtain ⟨b, o', cs, e, m, he, hb⟩ := cell_block h0
  obtain ⟨ba, o, sp⟩ := a
  cases sp with
  | some s =>
    exfalso
    have hx : (Addr.add ⟨ba, o, some s⟩ 0).spot.isSome = true := by simp [Addr.add]
    rw [he] at hx; cases hx
  | none =>
    rw [add_mk] at he
    obtain ⟨hb1, ho1⟩ : b = ba ∧ o' = o := by cases he; exact ⟨rfl, rfl⟩
    subst hb1 ho1
    refine ⟨_, _, cs, e, m, rfl, .here (hC _ _ hb), fun i hi => ?_⟩
    have hu := h i _ (List.getElem?_eq_getElem hi)
    rw [add_mk, cell_of hb] at hu
    rw [hu, List.getElem?_eq_getElem hi]

theorem open_slcs {H : Type} {enc : TypeId × Value → H} {W : World} {base : Nat} {t e q : TypeId} {v : Value} {d : DataW H} {ps : List MemPlace} (ht : P.underlying t = some (.slice e)) (he : P.underlying e = some (.slice q)) (hq : P.underlying q = some (.int .u8)) (ce : P.cellsOf e = 1) (cq : P.cellsOf q = 1)
    (hval : Value.okWide P W .any base t v) (h : DataW.Trod enc P W 0 (fun _ => true) true t v d ps) :
    ∃ ls, ∀ C : Chunk, (∀ k o, W.heap[k]? = some o → (k, o) ∈ C) → RowS C v ls := by
  obtain ⟨a0, len0, cap0, rfl⟩ := okWide_slice ht hval
  obtain ⟨fuel, hf⟩ := h
  rcases open_int_rows ht he hq ce cq hf with ⟨hcs, hx⟩ | ⟨a, len, cap, A, L, Cp, Z, hcs, _, hle, hmax, hx, hall⟩
  · simp [Value.cells] at hcs
    obtain ⟨rfl, rfl, rfl⟩ := hcs
    exact ⟨[], fun C hC => ⟨none, 0, rfl, Nat.le_refl _, Nat.zero_le _, rfl, [], Rd.nil, fun i v l hv => by simp at hv⟩⟩
  · simp [Value.cells] at hcs
    obtain ⟨rfl, rfl, rfl⟩ := hcs
    refine ⟨(List.range len0).map fun r => ((Z r).take (L r)).map fun z => UInt8.ofNat z.toNat, fun C hC => ⟨some a, cap0, by simp, by simpa using hle, hmax, rfl, (List.range len0).map fun r => .slice (A r) (L r) (Cp r), ?_, ?_⟩⟩
    · have q := rd_cells (w := W) (a := a) (us := (List.range len0).map fun r => Value.slice (A r) (L r) (Cp r)) hC (fun i v hv => by
        rw [List.getElem?_map] at hv
        by_cases hi : i < len0
        · rw [List.getElem?_range hi] at hv
          simp only [Option.map_some, Option.some.injEq] at hv
          rw [← hv]; exact (hall i (by omega)).1
        · rw [List.getElem?_eq_none (by simp; omega)] at hv; cases hv)
      simpa using q
    · intro i v l hv hl
      rw [List.getElem?_map] at hv hl
      by_cases hi : i < len0
      · rw [List.getElem?_range hi] at hv hl
        simp only [Option.map_some, Option.some.injEq] at hv hl
        obtain ⟨_, h2, _, h4, h5, h6, h7⟩ := hall i (by omega)
        subst hv hl
        have hlen : (((Z i).take (L i)).map fun z => UInt8.ofNat z.toNat).length = L i := by simp; omega
        refine ⟨A i, Cp i, by rw [hlen], by rw [hlen]; exact h2, ?_⟩
        cases hA : A i with
        | none =>
          have : L i = 0 := by have := h6 hA; omega
          have h0 : (((Z i).take (L i)).map fun z => UInt8.ofNat z.toNat) = [] := List.length_eq_zero_iff.1 (by rw [hlen, this])
          rw [h0]; exact Rd.nil
        | some a' =>
          have q := rd_cells (w := W) (a := a') (us := (((Z i).take (L i)).map fun z => UInt8.ofNat z.toNat).map b8) hC (fun c v hv => by
            simp only [List.getElem?_map, List.getElem?_take] at hv
            by_cases hc : c < L i
            · rw [if_pos hc, List.getElem?_eq_getElem (by omega)] at hv
              simp only [Option.map_some, Option.some.injEq] at hv
              rw [(h7 a' hA).2 c (by omega), ← hv]
              have hw := h5 (Z i)[c] (List.getElem_mem _)
              simp only [Lit.wf, Bool.and_eq_true, decide_eq_true_eq] at hw
              have hw2 : 0 ≤ (Z i)[c] ∧ (Z i)[c] ≤ 255 := ⟨hw.1, hw.2⟩
              rw [List.getD, List.getElem?_eq_getElem (by omega)]
              simp only [Option.getD_some, b8, UInt8.toNat_ofNat']
              congr 2; omega
            · rw [if_neg hc] at hv; simp at hv)
          rw [List.length_map] at q
          exact q
      · rw [List.getElem?_eq_none (by simp; omega)] at hv; cases hv

end Go.Ost
