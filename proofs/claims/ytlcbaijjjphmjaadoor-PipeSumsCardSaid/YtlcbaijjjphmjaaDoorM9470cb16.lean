/- Texts in a row: the walk's rules and contracts, as each says. Conditions: as each says. -/
import Derived.Test.YtlcbaijjjphmjaaDoorMfb942b17
import Derived.Deep.Matrix
import Derived.Test.YtlcbaijjjphmjaaDoorM367d4ba6
import Derived.Test.YtlcbaijjjphmjaaDoorMe0df7f36
import Derived.Test.YtlcbaijjjphmjaaDoorMabaaff41
import Derived.Test.YtlcbaijjjphmjaaDoorProg
import Derived.Test.YtlcbaijjjphmjaaDoorM2d272a24
/- Slices of slices of bytes, as the reading ahead of the call has them. Conditions: as each says. -/
set_option linter.unusedSimpArgs false
set_option linter.unusedVariables false
namespace Go.Ost
open Go Go.ChangeShapes Go.WideShapes Go.ChangeAt Go.RowKit Go.Deep

variable {P : Program}

def RowS (C : Chunk) (v : Value) (ls : List (List UInt8)) : Prop := ∃ a cap, v = .slice a ls.length cap ∧ ls.length ≤ cap ∧ cap ≤ maxLen ∧ Parts [C] a ls.length ls

theorem cell_block {w : World} {a : Addr} {v : Value} (h : w.cell? a = some v) : ∃ b o cs e m, a = ⟨b, o, none⟩ ∧ w.heap[b]? = some (.cells cs e m) := by
  unfold World.cell? at h
  split at h
  · rename_i c t fr hb
    split at h
    · cases h
    · rename_i hs
      obtain ⟨b, o, sp⟩ := a
      cases sp with
      | none => exact ⟨b, o, c, t, fr, rfl, hb⟩
      | some s => simp at hs
  · cases h
/-- Cells of a world, one behind the other, as a chunk's. -/
theorem rd_cells {w : World} {a : Addr} {us : List Value} {C : Chunk} (hC : ∀ k o, w.heap[k]? = some o → (k, o) ∈ C) (h : ∀ i v, us[i]? = some v → w.cell? (a.add i) = some v) : Rd 1 [C] (some a) us.length us := by
  refine ⟨by simp, fun hne => ?_⟩
  obtain ⟨u, us', rfl⟩ := List.exists_cons_of_ne_nil hne
  have h0 := h 0 u rfl
  obtain ⟨b, o', cs, e, m, he, hb⟩ := cell_block h0
  obtain ⟨ba, o, sp⟩ := a
  cases sp with
  | some s =>
    exfalso
    have hx : (Addr.add ⟨ba, o, some s⟩ 0).spot.isSome = true := by simp [Addr.add]
    rw [he] at hx; cases hx
  | none =>
    rw [add_mk] at he
    obtain ⟨hb1, ho1⟩ : b = ba ∧ o' = o := by cases he; exact ⟨rfl, rfl⟩
    subst hb1 ho1
    refine ⟨_, _, cs, e, m, rfl, .here (hC _ _ hb), fun i hi => ?_⟩
    have hu := h i _ (List.getElem?_eq_getElem hi)
    rw [add_mk, cell_of hb] at hu
    rw [hu, List.getElem?_eq_getElem hi]

theorem open_slcs {H : Type} {enc : TypeId × Value → H} {W : World} {base : Nat} {t e q : TypeId} {v : Value} {d : DataW H} {ps : List MemPlace} (ht : P.underlying t = some (.slice e)) (he : P.underlying e = some (.slice q)) (hq : P.underlying q = some (.int .u8)) (ce : P.cellsOf e = 1) (cq : P.cellsOf q = 1)
    (hval : Value.okWide P W .any base t v) (h : DataW.Trod enc P W 0 (fun _ => true) true t v d ps) :
    ∃ ls, ∀ C : Chunk, (∀ k o, W.heap[k]? = some o → (k, o) ∈ C) → RowS C v ls := by
  obtain ⟨a0, len0, cap0, rfl⟩ := okWide_slice ht hval
  obtain ⟨fuel, hf⟩ := h
  rcases open_int_rows ht he hq ce cq hf with ⟨hcs, hx⟩ | ⟨a, len, cap, A, L, Cp, Z, hcs, _, hle, hmax, hx, hall⟩
  · simp [Value.cells] at hcs
    obtain ⟨rfl, rfl, rfl⟩ := hcs
    exact ⟨[], fun C hC => ⟨none, 0, rfl, Nat.le_refl _, Nat.zero_le _, rfl, [], Rd.nil, fun i v l hv => by simp at hv⟩⟩
  · simp [Value.cells] at hcs
    obtain ⟨rfl, rfl, rfl⟩ := hcs
    refine ⟨(List.range len0).map fun r => ((Z r).take (L r)).map fun z => UInt8.ofNat z.toNat, fun C hC => ⟨some a, cap0, by simp, by simpa using hle, hmax, rfl, (List.range len0).map fun r => .slice (A r) (L r) (Cp r), ?_, ?_⟩⟩
    · have q := rd_cells (w := W) (a := a) (us := (List.range len0).map fun r => Value.slice (A r) (L r) (Cp r)) hC (fun i v hv => by
        rw [List.getElem?_map] at hv
        by_cases hi : i < len0
        · rw [List.getElem?_range hi] at hv
          simp only [Option.map_some, Option.some.injEq] at hv
          rw [← hv]; exact (hall i (by omega)).1
        · rw [List.getElem?_eq_none (by simp; omega)] at hv; cases hv)
      simpa using q
    · intro i v l hv hl
      rw [List.getElem?_map] at hv hl
      by_cases hi : i < len0
      · rw [List.getElem?_range hi] at hv hl
        simp only [Option.map_some, Option.some.injEq] at hv hl
        obtain ⟨_, h2, _, h4, h5, h6, h7⟩ := hall i (by omega)
        subst hv hl
        have hlen : (((Z i).take (L i)).map fun z => UInt8.ofNat z.toNat).length = L i := by simp; omega
        refine ⟨A i, Cp i, by rw [hlen], by rw [hlen]; exact h2, ?_⟩
        cases hA : A i with
        | none =>
          have : L i = 0 := by have := h6 hA; omega
          have h0 : (((Z i).take (L i)).map fun z => UInt8.ofNat z.toNat) = [] := List.length_eq_zero_iff.1 (by rw [hlen, this])
          rw [h0]; exact Rd.nil
        | some a' =>
          have q := rd_cells (w := W) (a := a') (us := (((Z i).take (L i)).map fun z => UInt8.ofNat z.toNat).map b8) hC (fun c v hv => by
            simp only [List.getElem?_map, List.getElem?_take] at hv
            by_cases hc : c < L i
            · rw [if_pos hc, List.getElem?_eq_getElem (by omega)] at hv
              simp only [Option.map_some, Option.some.injEq] at hv
              rw [(h7 a' hA).2 c (by omega), ← hv]
              have hw := h5 (Z i)[c] (List.getElem_mem _)
              simp only [Lit.wf, Bool.and_eq_true, decide_eq_true_eq] at hw
              have hw2 : 0 ≤ (Z i)[c] ∧ (Z i)[c] ≤ 255 := ⟨hw.1, hw.2⟩
              rw [List.getD, List.getElem?_eq_getElem (by omega)]
              simp only [Option.getD_some, b8, UInt8.toNat_ofNat']
              congr 2; omega
            · rw [if_neg hc] at hv; simp at hv)
          rw [List.length_map] at q
          exact q
      · rw [List.getElem?_eq_none (by simp; omega)] at hv; cases hv

end Go.Ost

/- Slices of structures, as the reading ahead of the call has them. Conditions: as each says. -/
set_option linter.unusedSimpArgs false
set_option linter.unusedVariables false
namespace Go.Ost
open Go Go.ChangeShapes Go.WideShapes Go.ChangeAt Go.RowKit Go.Deep

variable {P : Program}

inductive FK | int (k : IntKind) | str | bool | bytes
def FieldW (C : Chunk) : FK → Value → Prop
  | .int k, v => ∃ z, v = .int k z ∧ (Lit.int k z).wf = true
  | .str, v => ∃ l : List UInt8, v = .string (str l) ∧ l.length ≤ maxLen
  | .bool, v => ∃ b, v = .bool b
  | .bytes, v => ∃ (a : Option Addr) (c : Nat) (bs : List UInt8), v = .slice a bs.length c ∧ bs.length ≤ c ∧ c ≤ maxLen ∧ Rd 1 [C] a bs.length (bs.map b8)
def RowW (C : Chunk) : List FK → List Value → Prop
  | [], [] => True
  | k :: ks, v :: vs => FieldW C k v ∧ RowW C ks vs
  | _, _ => False
def RowsK (C : Chunk) (ks : List FK) (v : Value) (rows : List (List Value)) : Prop :=
  ∃ a cap, v = .slice a rows.length cap ∧ rows.length ≤ cap ∧ cap ≤ maxLen ∧ Rd ks.length [C] a rows.length rows.flatten ∧ ∀ r ∈ rows, RowW C ks r

def fkB (P : Program) (t : TypeId) : FK → Bool
  | .int k => match P.underlying t with | some (.int k') => k' == k && P.cellsOf t == 1 | _ => false
  | .str => match P.underlying t with | some .string => P.cellsOf t == 1 | _ => false
  | .bool => match P.underlying t with | some .bool => P.cellsOf t == 1 | _ => false
  | .bytes => match P.underlying t with | some (.slice e) => (match P.underlying e with | some (.int k) => k == .u8 && P.cellsOf e == 1 && P.cellsOf t == 1 | _ => false) | _ => false
def fieldsB (P : Program) : Nat → List Field → List FK → Bool
  | _, [], [] => true
  | i, f :: fs, k :: ks => f.offset == i && (fkB P f.type k && fieldsB P (i + 1) fs ks)
  | _, _, _ => false
def rowB (P : Program) (e : TypeId) (ks : List FK) : Bool :=
  match P.underlying e with
  | some (.struct fs) => fieldsB P 0 fs.toList ks && (P.cellsOf e == ks.length && decide (0 < ks.length))
  | _ => false

section
variable {H : Type} {enc : TypeId × Value → H} {W : World} {C : Chunk}

theorem bytes_field {t e : TypeId} {fuel : Nat} {cs : List Value} {x : DataW H × List MemPlace} (ht : P.underlying t = some (.slice e)) (he : P.underlying e = some (.int .u8)) (hc : P.cellsOf e = 1) (hC : ∀ k o, W.heap[k]? = some o → (k, o) ∈ C)
    (h : DataW.trod enc P W 0 (fun _ => true) true fuel t cs = some x) : ∃ v, cs = [v] ∧ FieldW C .bytes v := by
  rcases open_ints ht he hc h with ⟨hcs, _⟩ | ⟨a, len, cap, zs, hcs, _, hle, hmax, hall, hx, hcell, hwf⟩
  · exact ⟨_, hcs, none, 0, [], rfl, Nat.le_refl _, Nat.zero_le _, Rd.nil⟩
  · simp only [if_true] at hall
    have hl : ((zs.take len).map fun z => UInt8.ofNat z.toNat).length = len := by simp; omega
    refine ⟨_, hcs, some a, cap, (zs.take len).map fun z => UInt8.ofNat z.toNat, by rw [hl], by rw [hl]; exact hle, hmax, ?_⟩
    have q := rd_cells (w := W) (a := a) (us := ((zs.take len).map fun z => UInt8.ofNat z.toNat).map b8) hC (fun c v hv => by
      simp only [List.getElem?_map, List.getElem?_take] at hv
      by_cases hc : c < len
      · rw [if_pos hc, List.getElem?_eq_getElem (by omega)] at hv
        simp only [Option.map_some, Option.some.injEq] at hv
        rw [hcell c (by omega), ← hv]
        have hw := hwf zs[c] (List.getElem_mem _)
        simp only [Lit.wf, Bool.and_eq_true, decide_eq_true_eq] at hw
        have hw2 : 0 ≤ zs[c] ∧ zs[c] ≤ 255 := ⟨hw.1, hw.2⟩
        rw [List.getD, List.getElem?_eq_getElem (by omega)]
        simp only [Option.getD_some, b8, UInt8.toNat_ofNat']
        congr 2; omega
      · rw [if_neg hc] at hv; simp at hv)
    rw [List.length_map] at q
    exact q

theorem one_field {t : TypeId} {k : FK} {fuel : Nat} {cs : List Value} {x : DataW H × List MemPlace} (hk : fkB P t k = true) (hC : ∀ k o, W.heap[k]? = some o → (k, o) ∈ C) (h : DataW.trod enc P W 0 (fun _ => true) true fuel t cs = some x) :
    ∃ v, cs = [v] ∧ FieldW C k v ∧ P.cellsOf t = 1 := by
  cases k with
  | int k =>
    simp only [fkB] at hk
    split at hk
    · rename_i k' hu
      simp only [Bool.and_eq_true, beq_iff_eq] at hk
      obtain ⟨rfl, hc⟩ := hk
      obtain ⟨n, rfl, _, hw⟩ := DataW.trod_int hu h
      exact ⟨_, rfl, ⟨n, rfl, hw⟩, hc⟩
    · cases hk
  | str =>
    simp only [fkB] at hk
    split at hk
    · rename_i hu
      simp only [beq_iff_eq] at hk
      obtain ⟨s, rfl, _, hw⟩ := DataW.trod_string hu h
      exact ⟨_, rfl, ⟨s.data.toList, rfl, by simpa using hw⟩, hk⟩
    · cases hk
  | bool =>
    simp only [fkB] at hk
    split at hk
    · rename_i hu
      simp only [beq_iff_eq] at hk
      obtain ⟨b, rfl, _⟩ := DataW.trod_bool hu h
      exact ⟨_, rfl, ⟨b, rfl⟩, hk⟩
    · cases hk
  | bytes =>
    simp only [fkB] at hk
    split at hk
    · rename_i e hu
      split at hk
      · rename_i k' hu2
        simp only [Bool.and_eq_true, beq_iff_eq] at hk
        obtain ⟨⟨rfl, h1⟩, h2⟩ := hk
        obtain ⟨v, h3, h4⟩ := bytes_field hu hu2 h1 hC h
        exact ⟨v, h3, h4, h2⟩
      · cases hk
    · cases hk

theorem fields_row (hC : ∀ k o, W.heap[k]? = some o → (k, o) ∈ C) {cs : List Value} {n : Nat} : ∀ (fs : List Field) (ks : List FK) (i : Nat), fieldsB P i fs ks = true → cs.length = i + ks.length →
    (∀ (j : Nat) (f : Field), fs[j]? = some f → ∃ x, DataW.trod enc P W 0 (fun _ => true) true n f.type ((cs.drop f.offset).take (P.cellsOf f.type)) = some x) → RowW C ks (cs.drop i)
  | [], [], i, _, hl, _ => by rw [List.drop_of_length_le (by simpa using Nat.le_of_eq hl)]; trivial
  | [], _ :: _, _, h, _, _ => by cases h
  | _ :: _, [], _, h, _, _ => by cases h
  | f :: fs, k :: ks, i, h, hl, hf => by
    simp only [fieldsB, Bool.and_eq_true, beq_iff_eq] at h
    obtain ⟨ho, hk, hr⟩ := h
    obtain ⟨x, hx⟩ := hf 0 f rfl
    obtain ⟨v, h1, h2, h3⟩ := one_field hk hC hx
    rw [h3, ho] at h1
    have hi : i < cs.length := by rw [hl]; simp
    rw [List.drop_eq_getElem_cons hi] at h1 ⊢
    simp only [List.take_succ_cons, List.take_zero, List.cons.injEq, and_true] at h1
    rw [h1]
    exact ⟨h2, fields_row hC fs ks (i + 1) hr (by rw [hl, List.length_cons]; omega) fun j g hg => hf (j + 1) g hg⟩

theorem open_rows {base : Nat} {t e : TypeId} {ks : List FK} {v : Value} {d : DataW H} {ps : List MemPlace} (ht : P.underlying t = some (.slice e)) (hr : rowB P e ks = true) (hval : Value.okWide P W .any base t v)
    (h : DataW.Trod enc P W 0 (fun _ => true) true t v d ps) : ∃ rows, ∀ C : Chunk, (∀ k o, W.heap[k]? = some o → (k, o) ∈ C) → RowsK C ks v rows := by
  obtain ⟨a0, len0, cap0, rfl⟩ := okWide_slice ht hval
  obtain ⟨fuel, hf⟩ := h
  unfold rowB at hr
  split at hr
  · rename_i fs hu
    simp only [Bool.and_eq_true, beq_iff_eq, decide_eq_true_eq] at hr
    obtain ⟨hfs, hce, hpos⟩ := hr
    rcases DataW.trod_slice ht hf with ⟨hcs, _⟩ | ⟨a, len, cap, elems, rest, n, _, hcs, _, _, hle, hmax, hlen, hel, _⟩
    · simp [Value.cells] at hcs
      obtain ⟨rfl, rfl, rfl⟩ := hcs
      exact ⟨[], fun C hC => ⟨none, 0, rfl, Nat.le_refl _, Nat.zero_le _, ⟨by simp, by simp⟩, by simp⟩⟩
    · simp [Value.cells] at hcs
      obtain ⟨rfl, rfl, rfl⟩ := hcs
      have key : ∀ i, i < len0 → ∃ cs y, W.cells? 0 (a.add (i * ks.length)) ks.length = some cs ∧ DataW.trod enc P W 0 (fun _ => true) true n e cs = some y := by
        intro i hi
        have h1 := hel i hi
        rw [hce, List.getElem?_eq_getElem (by omega), Option.bind_eq_some_iff] at h1
        obtain ⟨cs, h2, h3⟩ := h1
        exact ⟨cs, _, h2, h3⟩
      let g : Nat → List Value := fun i => if i < len0 then (W.cells? 0 (a.add (i * ks.length)) ks.length).getD [] else List.replicate ks.length undef
      have hg : ∀ i, i < len0 → W.cells? 0 (a.add (i * ks.length)) ks.length = some (g i) := by
        intro i hi
        obtain ⟨cs, _, h1, _⟩ := key i hi
        simp only [g, if_pos hi, h1, Option.getD_some]
      have hgl : ∀ i, (g i).length = ks.length := by
        intro i
        by_cases hi : i < len0
        · exact (World.cells?_some (hg i hi)).2.1
        · simp only [g, if_neg hi, List.length_replicate]
      refine ⟨(List.range len0).map g, fun C hC => ⟨some a, cap0, by simp, by simpa using hle, hmax, ⟨?_, ?_⟩, ?_⟩⟩
      · rw [← List.flatMap_def, flat_len g ks.length hgl]; simp
      · intro hne
        refine (rd_cells (w := W) (a := a) (us := ((List.range len0).map g).flatten) hC (fun i v hv => ?_)).2 hne
        rw [← List.flatMap_def] at hv
        have hi := (List.getElem?_eq_some_iff.1 hv).1
        rw [flat_len g ks.length hgl, List.length_range] at hi
        have hq : i / ks.length < len0 := Nat.div_lt_of_lt_mul (by rw [Nat.mul_comm]; exact hi)
        have hm : i % ks.length < ks.length := Nat.mod_lt _ hpos
        have hdm : i / ks.length * ks.length + i % ks.length = i := by rw [Nat.mul_comm]; exact Nat.div_add_mod i ks.length
        have h1 := flat_get g ks.length hgl (List.range len0) (i / ks.length) (i % ks.length) (by simpa using hq) hm
        rw [hdm, hv, List.getElem_range] at h1
        have h2 := (World.cells?_some (hg _ hq)).2.2 _ hm
        rw [add_add, hdm] at h2
        rw [h2, h1]
      · intro r hr
        obtain ⟨i, hi, rfl⟩ := List.mem_map.1 hr
        have hi := List.mem_range.1 hi
        obtain ⟨cs, y, h1, h2⟩ := key i hi
        have e1 : cs = g i := by have := hg i hi; rw [h1] at this; exact Option.some.inj this
        subst e1
        obtain ⟨xs, m, rfl, _, _, hxl, hfld⟩ := DataW.trod_struct hu h2
        have := fields_row (enc := enc) (P := P) hC (cs := g i) (n := m) fs.toList ks 0 hfs (by rw [hgl]; omega) (fun j f hj => by
          have hj' : fs[j]? = some f := by simpa using hj
          have := hfld j f hj'
          have hjl : j < xs.length := by rw [hxl]; exact (Array.getElem?_eq_some_iff.1 hj').1
          rw [List.getElem?_eq_getElem hjl] at this
          exact ⟨_, this⟩)
        simpa using this
  · cases hr
end

end Go.Ost

/- What the types of this program are, each by the reckoning of its tables. Conditions: none. -/
namespace Go.Proofs.YtlcbaijjjphmjaaDoor
open Go.Ost
-- 3 int
instance : TInt Tryd.prog 3 .i64 := ⟨by kernel_rfl⟩
instance : TSized Tryd.prog 3 (.int .i64 0) 1 8 := ⟨by kernel_rfl⟩
instance : TFlat Tryd.prog 3 := ⟨by kernel_rfl⟩
-- 4 bool
instance : TBool Tryd.prog 4 := ⟨by kernel_rfl⟩
instance : TSized Tryd.prog 4 (.bool false) 1 1 := ⟨by kernel_rfl⟩
instance : TFlat Tryd.prog 4 := ⟨by kernel_rfl⟩
-- 5 uint8
instance : TInt Tryd.prog 5 .u8 := ⟨by kernel_rfl⟩
instance : TSized Tryd.prog 5 (.int .u8 0) 1 1 := ⟨by kernel_rfl⟩
instance : TFlat Tryd.prog 5 := ⟨by kernel_rfl⟩
-- 9 string
instance : TStr Tryd.prog 9 := ⟨by kernel_rfl⟩
instance : TSized Tryd.prog 9 (.string ⟨#[]⟩) 1 16 := ⟨by kernel_rfl⟩
instance : TFlat Tryd.prog 9 := ⟨by kernel_rfl⟩
-- 22 []uint8
instance : TSlice Tryd.prog 22 5 := ⟨by kernel_rfl⟩
instance : TSized Tryd.prog 22 (.slice none 0 0) 1 24 := ⟨by kernel_rfl⟩
instance : TFlat Tryd.prog 22 := ⟨by kernel_rfl⟩
-- 25 *pipe.Pipe
instance : TPtr Tryd.prog 25 62 := ⟨by kernel_rfl⟩
instance : TSized Tryd.prog 25 (.pointer none) 1 8 := ⟨by kernel_rfl⟩
instance : TFlat Tryd.prog 25 := ⟨by kernel_rfl⟩
-- 26 api.Errno
instance : TInt Tryd.prog 26 .i64 := ⟨by kernel_rfl⟩
instance : TSized Tryd.prog 26 (.int .i64 0) 1 8 := ⟨by kernel_rfl⟩
instance : TFlat Tryd.prog 26 := ⟨by kernel_rfl⟩
-- 37 uint16
instance : TInt Tryd.prog 37 .u16 := ⟨by kernel_rfl⟩
instance : TSized Tryd.prog 37 (.int .u16 0) 1 2 := ⟨by kernel_rfl⟩
instance : TFlat Tryd.prog 37 := ⟨by kernel_rfl⟩
-- 38 []ostiarylaw22.Op
instance : TSlice Tryd.prog 38 46 := ⟨by kernel_rfl⟩
instance : TSized Tryd.prog 38 (.slice none 0 0) 1 24 := ⟨by kernel_rfl⟩
instance : TFlat Tryd.prog 38 := ⟨by kernel_rfl⟩
-- 39 *ostiaryref22.Pipe
instance : TPtr Tryd.prog 39 44 := ⟨by kernel_rfl⟩
instance : TSized Tryd.prog 39 (.pointer none) 1 8 := ⟨by kernel_rfl⟩
instance : TFlat Tryd.prog 39 := ⟨by kernel_rfl⟩
-- 41 ostiaryref22.Way
instance : TSized Tryd.prog 41 (.agg #[.slice none 0 0, .int .i64 0, .bool false, .int .i64 0]) 4 48 := ⟨by kernel_rfl⟩
instance : TDeep Tryd.prog 41 := ⟨by kernel_rfl⟩
instance : TField Tryd.prog 41 0 0 22 := ⟨by kernel_rfl⟩ -- All
instance : TField Tryd.prog 41 1 1 3 := ⟨by kernel_rfl⟩ -- Read
instance : TField Tryd.prog 41 2 2 4 := ⟨by kernel_rfl⟩ -- Shut
instance : TField Tryd.prog 41 3 3 3 := ⟨by kernel_rfl⟩ -- Lost
-- 42 [2]ostiaryref22.Way
instance : TArr Tryd.prog 42 2 41 := ⟨by kernel_rfl⟩
instance : TSized Tryd.prog 42 (.agg #[.slice none 0 0, .int .i64 0, .bool false, .int .i64 0, .slice none 0 0, .int .i64 0, .bool false, .int .i64 0]) 8 96 := ⟨by kernel_rfl⟩
instance : TDeep Tryd.prog 42 := ⟨by kernel_rfl⟩
-- 44 ostiaryref22.Pipe
instance : TSized Tryd.prog 44 (.agg #[.int .i64 0, .slice none 0 0, .int .i64 0, .bool false, .int .i64 0, .slice none 0 0, .int .i64 0, .bool false, .int .i64 0]) 9 104 := ⟨by kernel_rfl⟩
instance : TDeep Tryd.prog 44 := ⟨by kernel_rfl⟩
instance : TField Tryd.prog 44 0 0 3 := ⟨by kernel_rfl⟩ -- Room
instance : TField Tryd.prog 44 1 1 42 := ⟨by kernel_rfl⟩ -- L
-- 46 ostiarylaw22.Op
instance : TSized Tryd.prog 46 (.agg #[.int .u8 0, .int .i64 0, .slice none 0 0, .int .i64 0, .int .u8 0]) 5 56 := ⟨by kernel_rfl⟩
instance : TDeep Tryd.prog 46 := ⟨by kernel_rfl⟩
instance : TField Tryd.prog 46 0 0 5 := ⟨by kernel_rfl⟩ -- Do
instance : TField Tryd.prog 46 1 1 3 := ⟨by kernel_rfl⟩ -- Way
instance : TField Tryd.prog 46 2 2 22 := ⟨by kernel_rfl⟩ -- B
instance : TField Tryd.prog 46 3 3 3 := ⟨by kernel_rfl⟩ -- Most
instance : TField Tryd.prog 46 4 4 5 := ⟨by kernel_rfl⟩ -- Stop
-- 48 uint64
instance : TInt Tryd.prog 48 .u64 := ⟨by kernel_rfl⟩
instance : TSized Tryd.prog 48 (.int .u64 0) 1 8 := ⟨by kernel_rfl⟩
instance : TFlat Tryd.prog 48 := ⟨by kernel_rfl⟩
-- 50 pipe.Way
instance : TSized Tryd.prog 50 (.agg #[.int .i64 0, .bool false, .int .u64 0, .int .u64 0, .slice none 0 0]) 5 56 := ⟨by kernel_rfl⟩
instance : TDeep Tryd.prog 50 := ⟨by kernel_rfl⟩
instance : TField Tryd.prog 50 0 0 3 := ⟨by kernel_rfl⟩ -- Waits
instance : TField Tryd.prog 50 1 1 4 := ⟨by kernel_rfl⟩ -- Shut
instance : TField Tryd.prog 50 2 2 48 := ⟨by kernel_rfl⟩ -- Wrote
instance : TField Tryd.prog 50 3 3 48 := ⟨by kernel_rfl⟩ -- Read
instance : TField Tryd.prog 50 4 4 22 := ⟨by kernel_rfl⟩ -- Sum
-- 57 *sha.Hash
instance : TPtr Tryd.prog 57 92 := ⟨by kernel_rfl⟩
instance : TSized Tryd.prog 57 (.pointer none) 1 8 := ⟨by kernel_rfl⟩
instance : TFlat Tryd.prog 57 := ⟨by kernel_rfl⟩
-- 59 pipe.way
instance : TSized Tryd.prog 59 (.agg #[.slice none 0 0, .int .i64 0, .int .i64 0, .bool false, .int .u64 0, .pointer none]) 6 64 := ⟨by kernel_rfl⟩
instance : TDeep Tryd.prog 59 := ⟨by kernel_rfl⟩
instance : TField Tryd.prog 59 0 0 22 := ⟨by kernel_rfl⟩ -- p
instance : TField Tryd.prog 59 1 1 3 := ⟨by kernel_rfl⟩ -- at
instance : TField Tryd.prog 59 2 2 3 := ⟨by kernel_rfl⟩ -- n
instance : TField Tryd.prog 59 3 3 4 := ⟨by kernel_rfl⟩ -- shut
instance : TField Tryd.prog 59 4 4 48 := ⟨by kernel_rfl⟩ -- wrote
instance : TField Tryd.prog 59 5 5 57 := ⟨by kernel_rfl⟩ -- read
-- 60 [2]pipe.way
instance : TArr Tryd.prog 60 2 59 := ⟨by kernel_rfl⟩
instance : TSized Tryd.prog 60 (.agg #[.slice none 0 0, .int .i64 0, .int .i64 0, .bool false, .int .u64 0, .pointer none, .slice none 0 0, .int .i64 0, .int .i64 0, .bool false, .int .u64 0, .pointer none]) 12 128 := ⟨by kernel_rfl⟩
instance : TDeep Tryd.prog 60 := ⟨by kernel_rfl⟩
-- 62 pipe.Pipe
instance : TSized Tryd.prog 62 (.agg #[.slice none 0 0, .int .i64 0, .int .i64 0, .bool false, .int .u64 0, .pointer none, .slice none 0 0, .int .i64 0, .int .i64 0, .bool false, .int .u64 0, .pointer none]) 12 128 := ⟨by kernel_rfl⟩
instance : TDeep Tryd.prog 62 := ⟨by kernel_rfl⟩
instance : TField Tryd.prog 62 0 0 60 := ⟨by kernel_rfl⟩ -- l
-- 74 [][]uint8
instance : TSlice Tryd.prog 74 22 := ⟨by kernel_rfl⟩
instance : TSized Tryd.prog 74 (.slice none 0 0) 1 24 := ⟨by kernel_rfl⟩
instance : TFlat Tryd.prog 74 := ⟨by kernel_rfl⟩
-- 80 uint32
instance : TInt Tryd.prog 80 .u32 := ⟨by kernel_rfl⟩
instance : TSized Tryd.prog 80 (.int .u32 0) 1 4 := ⟨by kernel_rfl⟩
instance : TFlat Tryd.prog 80 := ⟨by kernel_rfl⟩
-- 81 [8]uint32
instance : TArr Tryd.prog 81 8 80 := ⟨by kernel_rfl⟩
instance : TSized Tryd.prog 81 (.agg #[.int .u32 0, .int .u32 0, .int .u32 0, .int .u32 0, .int .u32 0, .int .u32 0, .int .u32 0, .int .u32 0]) 8 32 := ⟨by kernel_rfl⟩
instance : TDeep Tryd.prog 81 := ⟨by kernel_rfl⟩
-- 82 ostiaryref01.State
instance : TArr Tryd.prog 82 8 80 := ⟨by kernel_rfl⟩
instance : TSized Tryd.prog 82 (.agg #[.int .u32 0, .int .u32 0, .int .u32 0, .int .u32 0, .int .u32 0, .int .u32 0, .int .u32 0, .int .u32 0]) 8 32 := ⟨by kernel_rfl⟩
instance : TDeep Tryd.prog 82 := ⟨by kernel_rfl⟩
-- 90 sha.state
instance : TArr Tryd.prog 90 8 80 := ⟨by kernel_rfl⟩
instance : TSized Tryd.prog 90 (.agg #[.int .u32 0, .int .u32 0, .int .u32 0, .int .u32 0, .int .u32 0, .int .u32 0, .int .u32 0, .int .u32 0]) 8 32 := ⟨by kernel_rfl⟩
instance : TDeep Tryd.prog 90 := ⟨by kernel_rfl⟩
-- 92 sha.Hash
instance : TSized Tryd.prog 92 (.agg #[.int .u32 0, .int .u32 0, .int .u32 0, .int .u32 0, .int .u32 0, .int .u32 0, .int .u32 0, .int .u32 0, .slice none 0 0, .int .u64 0]) 10 64 := ⟨by kernel_rfl⟩
instance : TDeep Tryd.prog 92 := ⟨by kernel_rfl⟩
instance : TField Tryd.prog 92 0 0 90 := ⟨by kernel_rfl⟩ -- s
instance : TField Tryd.prog 92 1 8 22 := ⟨by kernel_rfl⟩ -- rest
instance : TField Tryd.prog 92 2 9 48 := ⟨by kernel_rfl⟩ -- n
-- 100 [64]uint32
instance : TArr Tryd.prog 100 64 80 := ⟨by kernel_rfl⟩
instance : TSized Tryd.prog 100 (.agg #[.int .u32 0, .int .u32 0, .int .u32 0, .int .u32 0, .int .u32 0, .int .u32 0, .int .u32 0, .int .u32 0, .int .u32 0, .int .u32 0, .int .u32 0, .int .u32 0, .int .u32 0, .int .u32 0, .int .u32 0, .int .u32 0, .int .u32 0, .int .u32 0, .int .u32 0, .int .u32 0, .int .u32 0, .int .u32 0, .int .u32 0, .int .u32 0, .int .u32 0, .int .u32 0, .int .u32 0, .int .u32 0, .int .u32 0, .int .u32 0, .int .u32 0, .int .u32 0, .int .u32 0, .int .u32 0, .int .u32 0, .int .u32 0, .int .u32 0, .int .u32 0, .int .u32 0, .int .u32 0, .int .u32 0, .int .u32 0, .int .u32 0, .int .u32 0, .int .u32 0, .int .u32 0, .int .u32 0, .int .u32 0, .int .u32 0, .int .u32 0, .int .u32 0, .int .u32 0, .int .u32 0, .int .u32 0, .int .u32 0, .int .u32 0, .int .u32 0, .int .u32 0, .int .u32 0, .int .u32 0, .int .u32 0, .int .u32 0, .int .u32 0, .int .u32 0]) 64 256 := ⟨by kernel_rfl⟩
instance : TDeep Tryd.prog 100 := ⟨by kernel_rfl⟩
-- 103 uint
instance : TInt Tryd.prog 103 .u64 := ⟨by kernel_rfl⟩
instance : TSized Tryd.prog 103 (.int .u64 0) 1 8 := ⟨by kernel_rfl⟩
instance : TFlat Tryd.prog 103 := ⟨by kernel_rfl⟩
end Go.Proofs.YtlcbaijjjphmjaaDoor

/- A pipe: a way of it; how much room; shut, over. Conditions: as each says. -/
set_option linter.unusedSimpArgs false
set_option linter.unusedVariables false
namespace Go.Proofs.YtlcbaijjjphmjaaDoor
open Go Go.Ost Go.Pip

abbrev pB (b : Nat) (s0 : Value) (a0 n0 : Int) (f0 : Bool) (w0 : Int) (h0 : Nat) (s1 : Value) (a1 n1 : Int) (f1 : Bool) (w1 : Int) (h1 : Nat) : Chunk :=
  [(b, .cells #[s0, .int .i64 a0, .int .i64 n0, .bool f0, .int .u64 w0, .pointer (some ⟨h0, 0, none⟩), s1, .int .i64 a1, .int .i64 n1, .bool f1, .int .u64 w1, .pointer (some ⟨h1, 0, none⟩)] 62 (0, 0))]

theorem way_nil (i : Int) : Meets Tryd.prog 21 [.pointer none, .int .i64 i] [] fun v A => v = .tuple #[.pointer none, .int .i64 6] ∧ A = [] := by
  refine spec_intro Tryd.func21 rfl (by kernel_rfl) (by rw [Tryd.ntmps21]; simp) fun F => ?_; rw [Tryd.ntmps21, Tryd.results21]
  (repeat (first | (with_reducible refine then_n ?_) | (with_reducible refine then_r ?_) | (with_reducible refine then_e ?_) | (with_reducible refine block_n ?_) | (with_reducible refine block_r ?_) | (with_reducible refine block_e ?_) | refine block_o ?_ | (with_reducible refine scope_n ?_) | (with_reducible refine scope_r ?_) | (with_reducible refine scope_e ?_) | (with_reducible refine code_seq ?_) | (with_reducible refine code_skip ?_) | (with_reducible refine code_label ?_) | (with_reducible refine code_block ?_) | (with_reducible refine code_scope ?_) | (with_reducible refine code_exit ?_) | (with_reducible refine code_ret ?_) | refine regq_to ?_ | (with_reducible refine run_nil ?_) | ((with_reducible refine run_probe ?_); refine runq_more ?_) | (with_reducible refine draw_nil ?_) | ((with_reducible refine draw_probe ?_); (first | refine drawq_more ?_ | refine drawq_as ?_)) | refine code_then ?_ | refine code_else ?_))
  exact back_cells (vs := [.pointer none, .int .i64 6]) [] ⟨rfl, rfl⟩
theorem way_odd (b : Nat) (i : Int) (h0 : i ≠ 0) (h1 : i ≠ 1) : Meets Tryd.prog 21 [.pointer (some ⟨b, 0, none⟩), .int .i64 i] [] fun v A => v = .tuple #[.pointer none, .int .i64 1] ∧ A = [] := by
  refine spec_intro Tryd.func21 rfl (by kernel_rfl) (by rw [Tryd.ntmps21]; simp) fun F => ?_; rw [Tryd.ntmps21, Tryd.results21]
  (repeat (first | (with_reducible refine then_n ?_) | (with_reducible refine then_r ?_) | (with_reducible refine then_e ?_) | (with_reducible refine block_n ?_) | (with_reducible refine block_r ?_) | (with_reducible refine block_e ?_) | refine block_o ?_ | (with_reducible refine scope_n ?_) | (with_reducible refine scope_r ?_) | (with_reducible refine scope_e ?_) | (with_reducible refine code_seq ?_) | (with_reducible refine code_skip ?_) | (with_reducible refine code_label ?_) | (with_reducible refine code_block ?_) | (with_reducible refine code_scope ?_) | (with_reducible refine code_exit ?_) | (with_reducible refine code_ret ?_) | refine regq_to ?_ | (with_reducible refine run_nil ?_) | ((with_reducible refine run_probe ?_); refine runq_more ?_) | (with_reducible refine draw_nil ?_) | ((with_reducible refine draw_probe ?_); (first | refine drawq_more ?_ | refine drawq_as ?_)) | refine code_then ?_ | refine code_else ?_))
  rw [bne_iff_ne.2 h0]
  (repeat (first | (with_reducible refine then_n ?_) | (with_reducible refine then_r ?_) | (with_reducible refine then_e ?_) | (with_reducible refine block_n ?_) | (with_reducible refine block_r ?_) | (with_reducible refine block_e ?_) | refine block_o ?_ | (with_reducible refine scope_n ?_) | (with_reducible refine scope_r ?_) | (with_reducible refine scope_e ?_) | (with_reducible refine code_seq ?_) | (with_reducible refine code_skip ?_) | (with_reducible refine code_label ?_) | (with_reducible refine code_block ?_) | (with_reducible refine code_scope ?_) | (with_reducible refine code_exit ?_) | (with_reducible refine code_ret ?_) | refine regq_to ?_ | (with_reducible refine run_nil ?_) | ((with_reducible refine run_probe ?_); refine runq_more ?_) | (with_reducible refine draw_nil ?_) | ((with_reducible refine draw_probe ?_); (first | refine drawq_more ?_ | refine drawq_as ?_)) | refine code_then ?_ | refine code_else ?_))
  rw [bne_iff_ne.2 h1]
  (repeat (first | (with_reducible refine then_n ?_) | (with_reducible refine then_r ?_) | (with_reducible refine then_e ?_) | (with_reducible refine block_n ?_) | (with_reducible refine block_r ?_) | (with_reducible refine block_e ?_) | refine block_o ?_ | (with_reducible refine scope_n ?_) | (with_reducible refine scope_r ?_) | (with_reducible refine scope_e ?_) | (with_reducible refine code_seq ?_) | (with_reducible refine code_skip ?_) | (with_reducible refine code_label ?_) | (with_reducible refine code_block ?_) | (with_reducible refine code_scope ?_) | (with_reducible refine code_exit ?_) | (with_reducible refine code_ret ?_) | refine regq_to ?_ | (with_reducible refine run_nil ?_) | ((with_reducible refine run_probe ?_); refine runq_more ?_) | (with_reducible refine draw_nil ?_) | ((with_reducible refine draw_probe ?_); (first | refine drawq_more ?_ | refine drawq_as ?_)) | refine code_then ?_ | refine code_else ?_))
  exact back_cells (vs := [.pointer none, .int .i64 1]) [] ⟨rfl, rfl⟩

theorem way_0 (b : Nat) : Meets Tryd.prog 21 [.pointer (some ⟨b, 0, none⟩), .int .i64 0] [] fun v A => v = .tuple #[.pointer (some ⟨b, 0, none⟩), .int .i64 0] ∧ A = [] := by
  refine spec_intro Tryd.func21 rfl (by kernel_rfl) (by rw [Tryd.ntmps21]; simp) fun F => ?_; rw [Tryd.ntmps21, Tryd.results21]
  (repeat (first | (with_reducible refine then_n ?_) | (with_reducible refine then_r ?_) | (with_reducible refine then_e ?_) | (with_reducible refine block_n ?_) | (with_reducible refine block_r ?_) | (with_reducible refine block_e ?_) | refine block_o ?_ | (with_reducible refine scope_n ?_) | (with_reducible refine scope_r ?_) | (with_reducible refine scope_e ?_) | (with_reducible refine code_seq ?_) | (with_reducible refine code_skip ?_) | (with_reducible refine code_label ?_) | (with_reducible refine code_block ?_) | (with_reducible refine code_scope ?_) | (with_reducible refine code_exit ?_) | (with_reducible refine code_ret ?_) | refine regq_to ?_ | (with_reducible refine run_nil ?_) | ((with_reducible refine run_probe ?_); refine runq_more ?_) | (with_reducible refine draw_nil ?_) | ((with_reducible refine draw_probe ?_); (first | refine drawq_more ?_ | refine drawq_as ?_)) | refine code_then ?_ | refine code_else ?_))
  exact back_cells (vs := [.pointer (some ⟨b, 0, none⟩), .int .i64 0]) [] ⟨rfl, rfl⟩
theorem shut_0 (b : Nat) (s0 : Value) (a0 n0 : Int) (f0 : Bool) (w0 : Int) (h0 : Nat) (s1 : Value) (a1 n1 : Int) (f1 : Bool) (w1 : Int) (h1 : Nat) : Meets Tryd.prog 10 [.pointer (some ⟨b, 0, none⟩), .int .i64 0] [pB b s0 a0 n0 f0 w0 h0 s1 a1 n1 f1 w1 h1]
    fun v A => v = .int .i64 (if f0 = true then 14 else 0) ∧ A = [pB b s0 a0 n0 true w0 h0 s1 a1 n1 f1 w1 h1] := by
  refine spec_intro Tryd.func10 rfl (by kernel_rfl) (by rw [Tryd.ntmps10]; simp) fun F => ?_; rw [Tryd.ntmps10, Tryd.results10]
  (repeat (first | (with_reducible refine then_n ?_) | (with_reducible refine then_r ?_) | (with_reducible refine then_e ?_) | (with_reducible refine block_n ?_) | (with_reducible refine block_r ?_) | (with_reducible refine block_e ?_) | refine block_o ?_ | (with_reducible refine scope_n ?_) | (with_reducible refine scope_r ?_) | (with_reducible refine scope_e ?_) | (with_reducible refine code_seq ?_) | (with_reducible refine code_skip ?_) | (with_reducible refine code_label ?_) | (with_reducible refine code_block ?_) | (with_reducible refine code_scope ?_) | (with_reducible refine code_exit ?_) | (with_reducible refine code_ret ?_) | refine regq_to ?_ | (with_reducible refine run_nil ?_) | ((with_reducible refine run_probe ?_); refine runq_more ?_) | (with_reducible refine draw_nil ?_) | ((with_reducible refine draw_probe ?_); (first | refine drawq_more ?_ | refine drawq_as ?_)) | refine code_then ?_ | refine code_else ?_))
  refine run_op fun K hK => ?_; refine calls_to (way_0 b) ?_; rintro v A ⟨rfl, rfl⟩; (try simp only [List.nil_append, List.cons_append]); refine hK _ _ ?_; clear hK K; (repeat (first | (with_reducible refine then_n ?_) | (with_reducible refine then_r ?_) | (with_reducible refine then_e ?_) | (with_reducible refine block_n ?_) | (with_reducible refine block_r ?_) | (with_reducible refine block_e ?_) | refine block_o ?_ | (with_reducible refine scope_n ?_) | (with_reducible refine scope_r ?_) | (with_reducible refine scope_e ?_) | (with_reducible refine code_seq ?_) | (with_reducible refine code_skip ?_) | (with_reducible refine code_label ?_) | (with_reducible refine code_block ?_) | (with_reducible refine code_scope ?_) | (with_reducible refine code_exit ?_) | (with_reducible refine code_ret ?_) | refine regq_to ?_ | (with_reducible refine run_nil ?_) | ((with_reducible refine run_probe ?_); refine runq_more ?_) | (with_reducible refine draw_nil ?_) | ((with_reducible refine draw_probe ?_); (first | refine drawq_more ?_ | refine drawq_as ?_)) | refine code_then ?_ | refine code_else ?_))
  cases f0 with
  | true =>
    (repeat (first | (with_reducible refine then_n ?_) | (with_reducible refine then_r ?_) | (with_reducible refine then_e ?_) | (with_reducible refine block_n ?_) | (with_reducible refine block_r ?_) | (with_reducible refine block_e ?_) | refine block_o ?_ | (with_reducible refine scope_n ?_) | (with_reducible refine scope_r ?_) | (with_reducible refine scope_e ?_) | (with_reducible refine code_seq ?_) | (with_reducible refine code_skip ?_) | (with_reducible refine code_label ?_) | (with_reducible refine code_block ?_) | (with_reducible refine code_scope ?_) | (with_reducible refine code_exit ?_) | (with_reducible refine code_ret ?_) | refine regq_to ?_ | (with_reducible refine run_nil ?_) | ((with_reducible refine run_probe ?_); refine runq_more ?_) | (with_reducible refine draw_nil ?_) | ((with_reducible refine draw_probe ?_); (first | refine drawq_more ?_ | refine drawq_as ?_)) | refine code_then ?_ | refine code_else ?_))
    refine back_tmp [pB b s0 a0 n0 true w0 h0 s1 a1 n1 f1 w1 h1] ?_; exact ⟨rfl, rfl⟩
  | false =>
    (repeat (first | (with_reducible refine then_n ?_) | (with_reducible refine then_r ?_) | (with_reducible refine then_e ?_) | (with_reducible refine block_n ?_) | (with_reducible refine block_r ?_) | (with_reducible refine block_e ?_) | refine block_o ?_ | (with_reducible refine scope_n ?_) | (with_reducible refine scope_r ?_) | (with_reducible refine scope_e ?_) | (with_reducible refine code_seq ?_) | (with_reducible refine code_skip ?_) | (with_reducible refine code_label ?_) | (with_reducible refine code_block ?_) | (with_reducible refine code_scope ?_) | (with_reducible refine code_exit ?_) | (with_reducible refine code_ret ?_) | refine regq_to ?_ | (with_reducible refine run_nil ?_) | ((with_reducible refine run_probe ?_); refine runq_more ?_) | (with_reducible refine draw_nil ?_) | ((with_reducible refine draw_probe ?_); (first | refine drawq_more ?_ | refine drawq_as ?_)) | refine code_then ?_ | refine code_else ?_))
    refine back_tmp [pB b s0 a0 n0 true w0 h0 s1 a1 n1 f1 w1 h1] ?_; exact ⟨rfl, rfl⟩
theorem room_0 (b : Nat) (pa : Option Addr) (room : Nat) (hr : room ≤ 1000000) (a0 : Int) (q0 : List UInt8) (hq : q0.length ≤ room) (f0 : Bool) (w0 : Int) (h0 : Nat) (s1 : Value) (a1 n1 : Int) (f1 : Bool) (w1 : Int) (h1 : Nat) :
    Meets Tryd.prog 12 [.pointer (some ⟨b, 0, none⟩), .int .i64 0] [pB b (.slice pa room room) a0 q0.length f0 w0 h0 s1 a1 n1 f1 w1 h1]
    fun v A => v = .int .i64 (if f0 = true then 0 else room - q0.length) ∧ A = [pB b (.slice pa room room) a0 q0.length f0 w0 h0 s1 a1 n1 f1 w1 h1] := by
  refine spec_intro Tryd.func12 rfl (by kernel_rfl) (by rw [Tryd.ntmps12]; simp) fun F => ?_; rw [Tryd.ntmps12, Tryd.results12]
  (repeat (first | (with_reducible refine then_n ?_) | (with_reducible refine then_r ?_) | (with_reducible refine then_e ?_) | (with_reducible refine block_n ?_) | (with_reducible refine block_r ?_) | (with_reducible refine block_e ?_) | refine block_o ?_ | (with_reducible refine scope_n ?_) | (with_reducible refine scope_r ?_) | (with_reducible refine scope_e ?_) | (with_reducible refine code_seq ?_) | (with_reducible refine code_skip ?_) | (with_reducible refine code_label ?_) | (with_reducible refine code_block ?_) | (with_reducible refine code_scope ?_) | (with_reducible refine code_exit ?_) | (with_reducible refine code_ret ?_) | refine regq_to ?_ | (with_reducible refine run_nil ?_) | ((with_reducible refine run_probe ?_); refine runq_more ?_) | (with_reducible refine draw_nil ?_) | ((with_reducible refine draw_probe ?_); (first | refine drawq_more ?_ | refine drawq_as ?_)) | refine code_then ?_ | refine code_else ?_))
  refine run_op fun K hK => ?_; refine calls_to (way_0 b) ?_; rintro v A ⟨rfl, rfl⟩; (try simp only [List.nil_append, List.cons_append]); refine hK _ _ ?_; clear hK K; (repeat (first | (with_reducible refine then_n ?_) | (with_reducible refine then_r ?_) | (with_reducible refine then_e ?_) | (with_reducible refine block_n ?_) | (with_reducible refine block_r ?_) | (with_reducible refine block_e ?_) | refine block_o ?_ | (with_reducible refine scope_n ?_) | (with_reducible refine scope_r ?_) | (with_reducible refine scope_e ?_) | (with_reducible refine code_seq ?_) | (with_reducible refine code_skip ?_) | (with_reducible refine code_label ?_) | (with_reducible refine code_block ?_) | (with_reducible refine code_scope ?_) | (with_reducible refine code_exit ?_) | (with_reducible refine code_ret ?_) | refine regq_to ?_ | (with_reducible refine run_nil ?_) | ((with_reducible refine run_probe ?_); refine runq_more ?_) | (with_reducible refine draw_nil ?_) | ((with_reducible refine draw_probe ?_); (first | refine drawq_more ?_ | refine drawq_as ?_)) | refine code_then ?_ | refine code_else ?_))
  cases f0 with
  | true =>
    (repeat (first | (with_reducible refine then_n ?_) | (with_reducible refine then_r ?_) | (with_reducible refine then_e ?_) | (with_reducible refine block_n ?_) | (with_reducible refine block_r ?_) | (with_reducible refine block_e ?_) | refine block_o ?_ | (with_reducible refine scope_n ?_) | (with_reducible refine scope_r ?_) | (with_reducible refine scope_e ?_) | (with_reducible refine code_seq ?_) | (with_reducible refine code_skip ?_) | (with_reducible refine code_label ?_) | (with_reducible refine code_block ?_) | (with_reducible refine code_scope ?_) | (with_reducible refine code_exit ?_) | (with_reducible refine code_ret ?_) | refine regq_to ?_ | (with_reducible refine run_nil ?_) | ((with_reducible refine run_probe ?_); refine runq_more ?_) | (with_reducible refine draw_nil ?_) | ((with_reducible refine draw_probe ?_); (first | refine drawq_more ?_ | refine drawq_as ?_)) | refine code_then ?_ | refine code_else ?_))
    refine back_tmp [pB b (.slice pa room room) a0 q0.length true w0 h0 s1 a1 n1 f1 w1 h1] ?_; exact ⟨rfl, rfl⟩
  | false =>
    (repeat (first | (with_reducible refine then_n ?_) | (with_reducible refine then_r ?_) | (with_reducible refine then_e ?_) | (with_reducible refine block_n ?_) | (with_reducible refine block_r ?_) | (with_reducible refine block_e ?_) | refine block_o ?_ | (with_reducible refine scope_n ?_) | (with_reducible refine scope_r ?_) | (with_reducible refine scope_e ?_) | (with_reducible refine code_seq ?_) | (with_reducible refine code_skip ?_) | (with_reducible refine code_label ?_) | (with_reducible refine code_block ?_) | (with_reducible refine code_scope ?_) | (with_reducible refine code_exit ?_) | (with_reducible refine code_ret ?_) | refine regq_to ?_ | (with_reducible refine run_nil ?_) | ((with_reducible refine run_probe ?_); refine runq_more ?_) | (with_reducible refine draw_nil ?_) | ((with_reducible refine draw_probe ?_); (first | refine drawq_more ?_ | refine drawq_as ?_)) | refine code_then ?_ | refine code_else ?_))
    refine code_dr [[], [0], [0, 1], [0, 1, 2], [0, 1, 2, 3], [], [5], [5, 6], [5, 6, 7], [0, 1, 2, 3, 4, 5, 6, 7, 8], [0, 1, 2, 3, 4, 5, 6, 7, 8, 9]] [(0, false, []), (1, false, []), (2, false, []), (3, false, []), (4, false, []), (5, false, []), (6, false, []), (7, false, []), (8, false, []), (9, false, []), (10, true, [])] ?_
    (repeat (first | (with_reducible refine then_n ?_) | (with_reducible refine then_r ?_) | (with_reducible refine then_e ?_) | (with_reducible refine block_n ?_) | (with_reducible refine block_r ?_) | (with_reducible refine block_e ?_) | refine block_o ?_ | (with_reducible refine scope_n ?_) | (with_reducible refine scope_r ?_) | (with_reducible refine scope_e ?_) | (with_reducible refine code_seq ?_) | (with_reducible refine code_skip ?_) | (with_reducible refine code_label ?_) | (with_reducible refine code_block ?_) | (with_reducible refine code_scope ?_) | (with_reducible refine code_exit ?_) | (with_reducible refine code_ret ?_) | refine regq_to ?_ | (with_reducible refine run_nil ?_) | ((with_reducible refine run_probe ?_); refine runq_more ?_) | (with_reducible refine draw_nil ?_) | ((with_reducible refine draw_probe ?_); (first | refine drawq_more ?_ | refine drawq_as ?_)) | refine code_then ?_ | refine code_else ?_))
    refine back_tmp [pB b (.slice pa room room) a0 q0.length false w0 h0 s1 a1 n1 f1 w1 h1] ?_; exact ⟨rfl, rfl⟩

theorem way_1 (b : Nat) : Meets Tryd.prog 21 [.pointer (some ⟨b, 0, none⟩), .int .i64 1] [] fun v A => v = .tuple #[.pointer (some ⟨b, 6, none⟩), .int .i64 0] ∧ A = [] := by
  refine spec_intro Tryd.func21 rfl (by kernel_rfl) (by rw [Tryd.ntmps21]; simp) fun F => ?_; rw [Tryd.ntmps21, Tryd.results21]
  (repeat (first | (with_reducible refine then_n ?_) | (with_reducible refine then_r ?_) | (with_reducible refine then_e ?_) | (with_reducible refine block_n ?_) | (with_reducible refine block_r ?_) | (with_reducible refine block_e ?_) | refine block_o ?_ | (with_reducible refine scope_n ?_) | (with_reducible refine scope_r ?_) | (with_reducible refine scope_e ?_) | (with_reducible refine code_seq ?_) | (with_reducible refine code_skip ?_) | (with_reducible refine code_label ?_) | (with_reducible refine code_block ?_) | (with_reducible refine code_scope ?_) | (with_reducible refine code_exit ?_) | (with_reducible refine code_ret ?_) | refine regq_to ?_ | (with_reducible refine run_nil ?_) | ((with_reducible refine run_probe ?_); refine runq_more ?_) | (with_reducible refine draw_nil ?_) | ((with_reducible refine draw_probe ?_); (first | refine drawq_more ?_ | refine drawq_as ?_)) | refine code_then ?_ | refine code_else ?_))
  exact back_cells (vs := [.pointer (some ⟨b, 6, none⟩), .int .i64 0]) [] ⟨rfl, rfl⟩
theorem shut_1 (b : Nat) (s0 : Value) (a0 n0 : Int) (f0 : Bool) (w0 : Int) (h0 : Nat) (s1 : Value) (a1 n1 : Int) (f1 : Bool) (w1 : Int) (h1 : Nat) : Meets Tryd.prog 10 [.pointer (some ⟨b, 0, none⟩), .int .i64 1] [pB b s0 a0 n0 f0 w0 h0 s1 a1 n1 f1 w1 h1]
    fun v A => v = .int .i64 (if f1 = true then 14 else 0) ∧ A = [pB b s0 a0 n0 f0 w0 h0 s1 a1 n1 true w1 h1] := by
  refine spec_intro Tryd.func10 rfl (by kernel_rfl) (by rw [Tryd.ntmps10]; simp) fun F => ?_; rw [Tryd.ntmps10, Tryd.results10]
  (repeat (first | (with_reducible refine then_n ?_) | (with_reducible refine then_r ?_) | (with_reducible refine then_e ?_) | (with_reducible refine block_n ?_) | (with_reducible refine block_r ?_) | (with_reducible refine block_e ?_) | refine block_o ?_ | (with_reducible refine scope_n ?_) | (with_reducible refine scope_r ?_) | (with_reducible refine scope_e ?_) | (with_reducible refine code_seq ?_) | (with_reducible refine code_skip ?_) | (with_reducible refine code_label ?_) | (with_reducible refine code_block ?_) | (with_reducible refine code_scope ?_) | (with_reducible refine code_exit ?_) | (with_reducible refine code_ret ?_) | refine regq_to ?_ | (with_reducible refine run_nil ?_) | ((with_reducible refine run_probe ?_); refine runq_more ?_) | (with_reducible refine draw_nil ?_) | ((with_reducible refine draw_probe ?_); (first | refine drawq_more ?_ | refine drawq_as ?_)) | refine code_then ?_ | refine code_else ?_))
  refine run_op fun K hK => ?_; refine calls_to (way_1 b) ?_; rintro v A ⟨rfl, rfl⟩; (try simp only [List.nil_append, List.cons_append]); refine hK _ _ ?_; clear hK K; (repeat (first | (with_reducible refine then_n ?_) | (with_reducible refine then_r ?_) | (with_reducible refine then_e ?_) | (with_reducible refine block_n ?_) | (with_reducible refine block_r ?_) | (with_reducible refine block_e ?_) | refine block_o ?_ | (with_reducible refine scope_n ?_) | (with_reducible refine scope_r ?_) | (with_reducible refine scope_e ?_) | (with_reducible refine code_seq ?_) | (with_reducible refine code_skip ?_) | (with_reducible refine code_label ?_) | (with_reducible refine code_block ?_) | (with_reducible refine code_scope ?_) | (with_reducible refine code_exit ?_) | (with_reducible refine code_ret ?_) | refine regq_to ?_ | (with_reducible refine run_nil ?_) | ((with_reducible refine run_probe ?_); refine runq_more ?_) | (with_reducible refine draw_nil ?_) | ((with_reducible refine draw_probe ?_); (first | refine drawq_more ?_ | refine drawq_as ?_)) | refine code_then ?_ | refine code_else ?_))
  cases f1 with
  | true =>
    (repeat (first | (with_reducible refine then_n ?_) | (with_reducible refine then_r ?_) | (with_reducible refine then_e ?_) | (with_reducible refine block_n ?_) | (with_reducible refine block_r ?_) | (with_reducible refine block_e ?_) | refine block_o ?_ | (with_reducible refine scope_n ?_) | (with_reducible refine scope_r ?_) | (with_reducible refine scope_e ?_) | (with_reducible refine code_seq ?_) | (with_reducible refine code_skip ?_) | (with_reducible refine code_label ?_) | (with_reducible refine code_block ?_) | (with_reducible refine code_scope ?_) | (with_reducible refine code_exit ?_) | (with_reducible refine code_ret ?_) | refine regq_to ?_ | (with_reducible refine run_nil ?_) | ((with_reducible refine run_probe ?_); refine runq_more ?_) | (with_reducible refine draw_nil ?_) | ((with_reducible refine draw_probe ?_); (first | refine drawq_more ?_ | refine drawq_as ?_)) | refine code_then ?_ | refine code_else ?_))
    refine back_tmp [pB b s0 a0 n0 f0 w0 h0 s1 a1 n1 true w1 h1] ?_; exact ⟨rfl, rfl⟩
  | false =>
    (repeat (first | (with_reducible refine then_n ?_) | (with_reducible refine then_r ?_) | (with_reducible refine then_e ?_) | (with_reducible refine block_n ?_) | (with_reducible refine block_r ?_) | (with_reducible refine block_e ?_) | refine block_o ?_ | (with_reducible refine scope_n ?_) | (with_reducible refine scope_r ?_) | (with_reducible refine scope_e ?_) | (with_reducible refine code_seq ?_) | (with_reducible refine code_skip ?_) | (with_reducible refine code_label ?_) | (with_reducible refine code_block ?_) | (with_reducible refine code_scope ?_) | (with_reducible refine code_exit ?_) | (with_reducible refine code_ret ?_) | refine regq_to ?_ | (with_reducible refine run_nil ?_) | ((with_reducible refine run_probe ?_); refine runq_more ?_) | (with_reducible refine draw_nil ?_) | ((with_reducible refine draw_probe ?_); (first | refine drawq_more ?_ | refine drawq_as ?_)) | refine code_then ?_ | refine code_else ?_))
    refine back_tmp [pB b s0 a0 n0 f0 w0 h0 s1 a1 n1 true w1 h1] ?_; exact ⟨rfl, rfl⟩
theorem room_1 (b : Nat) (pa : Option Addr) (room : Nat) (hr : room ≤ 1000000) (a1 : Int) (q1 : List UInt8) (hq : q1.length ≤ room) (f1 : Bool) (w1 : Int) (h1 : Nat) (s0 : Value) (a0 n0 : Int) (f0 : Bool) (w0 : Int) (h0 : Nat) :
    Meets Tryd.prog 12 [.pointer (some ⟨b, 0, none⟩), .int .i64 1] [pB b s0 a0 n0 f0 w0 h0 (.slice pa room room) a1 q1.length f1 w1 h1]
    fun v A => v = .int .i64 (if f1 = true then 0 else room - q1.length) ∧ A = [pB b s0 a0 n0 f0 w0 h0 (.slice pa room room) a1 q1.length f1 w1 h1] := by
  refine spec_intro Tryd.func12 rfl (by kernel_rfl) (by rw [Tryd.ntmps12]; simp) fun F => ?_; rw [Tryd.ntmps12, Tryd.results12]
  (repeat (first | (with_reducible refine then_n ?_) | (with_reducible refine then_r ?_) | (with_reducible refine then_e ?_) | (with_reducible refine block_n ?_) | (with_reducible refine block_r ?_) | (with_reducible refine block_e ?_) | refine block_o ?_ | (with_reducible refine scope_n ?_) | (with_reducible refine scope_r ?_) | (with_reducible refine scope_e ?_) | (with_reducible refine code_seq ?_) | (with_reducible refine code_skip ?_) | (with_reducible refine code_label ?_) | (with_reducible refine code_block ?_) | (with_reducible refine code_scope ?_) | (with_reducible refine code_exit ?_) | (with_reducible refine code_ret ?_) | refine regq_to ?_ | (with_reducible refine run_nil ?_) | ((with_reducible refine run_probe ?_); refine runq_more ?_) | (with_reducible refine draw_nil ?_) | ((with_reducible refine draw_probe ?_); (first | refine drawq_more ?_ | refine drawq_as ?_)) | refine code_then ?_ | refine code_else ?_))
  refine run_op fun K hK => ?_; refine calls_to (way_1 b) ?_; rintro v A ⟨rfl, rfl⟩; (try simp only [List.nil_append, List.cons_append]); refine hK _ _ ?_; clear hK K; (repeat (first | (with_reducible refine then_n ?_) | (with_reducible refine then_r ?_) | (with_reducible refine then_e ?_) | (with_reducible refine block_n ?_) | (with_reducible refine block_r ?_) | (with_reducible refine block_e ?_) | refine block_o ?_ | (with_reducible refine scope_n ?_) | (with_reducible refine scope_r ?_) | (with_reducible refine scope_e ?_) | (with_reducible refine code_seq ?_) | (with_reducible refine code_skip ?_) | (with_reducible refine code_label ?_) | (with_reducible refine code_block ?_) | (with_reducible refine code_scope ?_) | (with_reducible refine code_exit ?_) | (with_reducible refine code_ret ?_) | refine regq_to ?_ | (with_reducible refine run_nil ?_) | ((with_reducible refine run_probe ?_); refine runq_more ?_) | (with_reducible refine draw_nil ?_) | ((with_reducible refine draw_probe ?_); (first | refine drawq_more ?_ | refine drawq_as ?_)) | refine code_then ?_ | refine code_else ?_))
  cases f1 with
  | true =>
    (repeat (first | (with_reducible refine then_n ?_) | (with_reducible refine then_r ?_) | (with_reducible refine then_e ?_) | (with_reducible refine block_n ?_) | (with_reducible refine block_r ?_) | (with_reducible refine block_e ?_) | refine block_o ?_ | (with_reducible refine scope_n ?_) | (with_reducible refine scope_r ?_) | (with_reducible refine scope_e ?_) | (with_reducible refine code_seq ?_) | (with_reducible refine code_skip ?_) | (with_reducible refine code_label ?_) | (with_reducible refine code_block ?_) | (with_reducible refine code_scope ?_) | (with_reducible refine code_exit ?_) | (with_reducible refine code_ret ?_) | refine regq_to ?_ | (with_reducible refine run_nil ?_) | ((with_reducible refine run_probe ?_); refine runq_more ?_) | (with_reducible refine draw_nil ?_) | ((with_reducible refine draw_probe ?_); (first | refine drawq_more ?_ | refine drawq_as ?_)) | refine code_then ?_ | refine code_else ?_))
    refine back_tmp [pB b s0 a0 n0 f0 w0 h0 (.slice pa room room) a1 q1.length true w1 h1] ?_; exact ⟨rfl, rfl⟩
  | false =>
    (repeat (first | (with_reducible refine then_n ?_) | (with_reducible refine then_r ?_) | (with_reducible refine then_e ?_) | (with_reducible refine block_n ?_) | (with_reducible refine block_r ?_) | (with_reducible refine block_e ?_) | refine block_o ?_ | (with_reducible refine scope_n ?_) | (with_reducible refine scope_r ?_) | (with_reducible refine scope_e ?_) | (with_reducible refine code_seq ?_) | (with_reducible refine code_skip ?_) | (with_reducible refine code_label ?_) | (with_reducible refine code_block ?_) | (with_reducible refine code_scope ?_) | (with_reducible refine code_exit ?_) | (with_reducible refine code_ret ?_) | refine regq_to ?_ | (with_reducible refine run_nil ?_) | ((with_reducible refine run_probe ?_); refine runq_more ?_) | (with_reducible refine draw_nil ?_) | ((with_reducible refine draw_probe ?_); (first | refine drawq_more ?_ | refine drawq_as ?_)) | refine code_then ?_ | refine code_else ?_))
    refine code_dr [[], [0], [0, 1], [0, 1, 2], [0, 1, 2, 3], [], [5], [5, 6], [5, 6, 7], [0, 1, 2, 3, 4, 5, 6, 7, 8], [0, 1, 2, 3, 4, 5, 6, 7, 8, 9]] [(0, false, []), (1, false, []), (2, false, []), (3, false, []), (4, false, []), (5, false, []), (6, false, []), (7, false, []), (8, false, []), (9, false, []), (10, true, [])] ?_
    (repeat (first | (with_reducible refine then_n ?_) | (with_reducible refine then_r ?_) | (with_reducible refine then_e ?_) | (with_reducible refine block_n ?_) | (with_reducible refine block_r ?_) | (with_reducible refine block_e ?_) | refine block_o ?_ | (with_reducible refine scope_n ?_) | (with_reducible refine scope_r ?_) | (with_reducible refine scope_e ?_) | (with_reducible refine code_seq ?_) | (with_reducible refine code_skip ?_) | (with_reducible refine code_label ?_) | (with_reducible refine code_block ?_) | (with_reducible refine code_scope ?_) | (with_reducible refine code_exit ?_) | (with_reducible refine code_ret ?_) | refine regq_to ?_ | (with_reducible refine run_nil ?_) | ((with_reducible refine run_probe ?_); refine runq_more ?_) | (with_reducible refine draw_nil ?_) | ((with_reducible refine draw_probe ?_); (first | refine drawq_more ?_ | refine drawq_as ?_)) | refine code_then ?_ | refine code_else ?_))
    refine back_tmp [pB b s0 a0 n0 f0 w0 h0 (.slice pa room room) a1 q1.length false w1 h1] ?_; exact ⟨rfl, rfl⟩


/-- No way: a nil pipe, a number that is none. -/
def NoWay (p : Value) (i : Int) (E : Int) : Prop := (E = 1 ∨ E = 6) ∧ Meets Tryd.prog 21 [p, .int .i64 i] [] fun v A => v = .tuple #[.pointer none, .int .i64 E] ∧ A = []
theorem NoWay.ne {p : Value} {i E : Int} (h : NoWay p i E) : (E != 0) = true := by rcases h.1 with h | h <;> rw [h] <;> rfl
theorem noway_nil (i : Int) : NoWay (.pointer none) i 6 := ⟨.inr rfl, way_nil i⟩
theorem noway_odd (b : Nat) (i : Int) (h0 : i ≠ 0) (h1 : i ≠ 1) : NoWay (.pointer (some ⟨b, 0, none⟩)) i 1 := ⟨.inl rfl, way_odd b i h0 h1⟩
theorem shut_no {p : Value} {i E : Int} (h : NoWay p i E) : Meets Tryd.prog 10 [p, .int .i64 i] [] fun v A => v = .int .i64 E ∧ A = [] := by
  refine spec_intro Tryd.func10 rfl (by kernel_rfl) (by rw [Tryd.ntmps10]; simp) fun F => ?_; rw [Tryd.ntmps10, Tryd.results10]
  (repeat (first | (with_reducible refine then_n ?_) | (with_reducible refine then_r ?_) | (with_reducible refine then_e ?_) | (with_reducible refine block_n ?_) | (with_reducible refine block_r ?_) | (with_reducible refine block_e ?_) | refine block_o ?_ | (with_reducible refine scope_n ?_) | (with_reducible refine scope_r ?_) | (with_reducible refine scope_e ?_) | (with_reducible refine code_seq ?_) | (with_reducible refine code_skip ?_) | (with_reducible refine code_label ?_) | (with_reducible refine code_block ?_) | (with_reducible refine code_scope ?_) | (with_reducible refine code_exit ?_) | (with_reducible refine code_ret ?_) | refine regq_to ?_ | (with_reducible refine run_nil ?_) | ((with_reducible refine run_probe ?_); refine runq_more ?_) | (with_reducible refine draw_nil ?_) | ((with_reducible refine draw_probe ?_); (first | refine drawq_more ?_ | refine drawq_as ?_)) | refine code_then ?_ | refine code_else ?_))
  refine run_op fun K hK => ?_; refine calls_to (h.2) ?_; rintro v A ⟨rfl, rfl⟩; (try simp only [List.nil_append, List.cons_append]); refine hK _ _ ?_; clear hK K; (repeat (first | (with_reducible refine then_n ?_) | (with_reducible refine then_r ?_) | (with_reducible refine then_e ?_) | (with_reducible refine block_n ?_) | (with_reducible refine block_r ?_) | (with_reducible refine block_e ?_) | refine block_o ?_ | (with_reducible refine scope_n ?_) | (with_reducible refine scope_r ?_) | (with_reducible refine scope_e ?_) | (with_reducible refine code_seq ?_) | (with_reducible refine code_skip ?_) | (with_reducible refine code_label ?_) | (with_reducible refine code_block ?_) | (with_reducible refine code_scope ?_) | (with_reducible refine code_exit ?_) | (with_reducible refine code_ret ?_) | refine regq_to ?_ | (with_reducible refine run_nil ?_) | ((with_reducible refine run_probe ?_); refine runq_more ?_) | (with_reducible refine draw_nil ?_) | ((with_reducible refine draw_probe ?_); (first | refine drawq_more ?_ | refine drawq_as ?_)) | refine code_then ?_ | refine code_else ?_))
  rw [h.ne]
  (repeat (first | (with_reducible refine then_n ?_) | (with_reducible refine then_r ?_) | (with_reducible refine then_e ?_) | (with_reducible refine block_n ?_) | (with_reducible refine block_r ?_) | (with_reducible refine block_e ?_) | refine block_o ?_ | (with_reducible refine scope_n ?_) | (with_reducible refine scope_r ?_) | (with_reducible refine scope_e ?_) | (with_reducible refine code_seq ?_) | (with_reducible refine code_skip ?_) | (with_reducible refine code_label ?_) | (with_reducible refine code_block ?_) | (with_reducible refine code_scope ?_) | (with_reducible refine code_exit ?_) | (with_reducible refine code_ret ?_) | refine regq_to ?_ | (with_reducible refine run_nil ?_) | ((with_reducible refine run_probe ?_); refine runq_more ?_) | (with_reducible refine draw_nil ?_) | ((with_reducible refine draw_probe ?_); (first | refine drawq_more ?_ | refine drawq_as ?_)) | refine code_then ?_ | refine code_else ?_))
  refine back_tmp [] ?_; exact ⟨rfl, rfl⟩
theorem room_no {p : Value} {i E : Int} (h : NoWay p i E) : Meets Tryd.prog 12 [p, .int .i64 i] [] fun v A => v = .int .i64 0 ∧ A = [] := by
  refine spec_intro Tryd.func12 rfl (by kernel_rfl) (by rw [Tryd.ntmps12]; simp) fun F => ?_; rw [Tryd.ntmps12, Tryd.results12]
  (repeat (first | (with_reducible refine then_n ?_) | (with_reducible refine then_r ?_) | (with_reducible refine then_e ?_) | (with_reducible refine block_n ?_) | (with_reducible refine block_r ?_) | (with_reducible refine block_e ?_) | refine block_o ?_ | (with_reducible refine scope_n ?_) | (with_reducible refine scope_r ?_) | (with_reducible refine scope_e ?_) | (with_reducible refine code_seq ?_) | (with_reducible refine code_skip ?_) | (with_reducible refine code_label ?_) | (with_reducible refine code_block ?_) | (with_reducible refine code_scope ?_) | (with_reducible refine code_exit ?_) | (with_reducible refine code_ret ?_) | refine regq_to ?_ | (with_reducible refine run_nil ?_) | ((with_reducible refine run_probe ?_); refine runq_more ?_) | (with_reducible refine draw_nil ?_) | ((with_reducible refine draw_probe ?_); (first | refine drawq_more ?_ | refine drawq_as ?_)) | refine code_then ?_ | refine code_else ?_))
  refine run_op fun K hK => ?_; refine calls_to (h.2) ?_; rintro v A ⟨rfl, rfl⟩; (try simp only [List.nil_append, List.cons_append]); refine hK _ _ ?_; clear hK K; (repeat (first | (with_reducible refine then_n ?_) | (with_reducible refine then_r ?_) | (with_reducible refine then_e ?_) | (with_reducible refine block_n ?_) | (with_reducible refine block_r ?_) | (with_reducible refine block_e ?_) | refine block_o ?_ | (with_reducible refine scope_n ?_) | (with_reducible refine scope_r ?_) | (with_reducible refine scope_e ?_) | (with_reducible refine code_seq ?_) | (with_reducible refine code_skip ?_) | (with_reducible refine code_label ?_) | (with_reducible refine code_block ?_) | (with_reducible refine code_scope ?_) | (with_reducible refine code_exit ?_) | (with_reducible refine code_ret ?_) | refine regq_to ?_ | (with_reducible refine run_nil ?_) | ((with_reducible refine run_probe ?_); refine runq_more ?_) | (with_reducible refine draw_nil ?_) | ((with_reducible refine draw_probe ?_); (first | refine drawq_more ?_ | refine drawq_as ?_)) | refine code_then ?_ | refine code_else ?_))
  rw [h.ne]
  (repeat (first | (with_reducible refine then_n ?_) | (with_reducible refine then_r ?_) | (with_reducible refine then_e ?_) | (with_reducible refine block_n ?_) | (with_reducible refine block_r ?_) | (with_reducible refine block_e ?_) | refine block_o ?_ | (with_reducible refine scope_n ?_) | (with_reducible refine scope_r ?_) | (with_reducible refine scope_e ?_) | (with_reducible refine code_seq ?_) | (with_reducible refine code_skip ?_) | (with_reducible refine code_label ?_) | (with_reducible refine code_block ?_) | (with_reducible refine code_scope ?_) | (with_reducible refine code_exit ?_) | (with_reducible refine code_ret ?_) | refine regq_to ?_ | (with_reducible refine run_nil ?_) | ((with_reducible refine run_probe ?_); refine runq_more ?_) | (with_reducible refine draw_nil ?_) | ((with_reducible refine draw_probe ?_); (first | refine drawq_more ?_ | refine drawq_as ?_)) | refine code_then ?_ | refine code_else ?_))
  refine back_tmp [] ?_; exact ⟨rfl, rfl⟩
theorem read_no {p : Value} {i E : Int} (h : NoWay p i E) (m : Int) : Meets Tryd.prog 14 [p, .int .i64 i, .int .i64 m] [] fun v A => v = .tuple #[.slice none 0 0, .int .i64 E] ∧ A = [] := by
  refine spec_intro Tryd.func14 rfl (by kernel_rfl) (by rw [Tryd.ntmps14]; simp) fun F => ?_; rw [Tryd.ntmps14, Tryd.results14]
  (repeat (first | (with_reducible refine then_n ?_) | (with_reducible refine then_r ?_) | (with_reducible refine then_e ?_) | (with_reducible refine block_n ?_) | (with_reducible refine block_r ?_) | (with_reducible refine block_e ?_) | refine block_o ?_ | (with_reducible refine scope_n ?_) | (with_reducible refine scope_r ?_) | (with_reducible refine scope_e ?_) | (with_reducible refine code_seq ?_) | (with_reducible refine code_skip ?_) | (with_reducible refine code_label ?_) | (with_reducible refine code_block ?_) | (with_reducible refine code_scope ?_) | (with_reducible refine code_exit ?_) | (with_reducible refine code_ret ?_) | refine regq_to ?_ | (with_reducible refine run_nil ?_) | ((with_reducible refine run_probe ?_); refine runq_more ?_) | (with_reducible refine draw_nil ?_) | ((with_reducible refine draw_probe ?_); (first | refine drawq_more ?_ | refine drawq_as ?_)) | refine code_then ?_ | refine code_else ?_))
  refine run_op fun K hK => ?_; refine calls_to (h.2) ?_; rintro v A ⟨rfl, rfl⟩; (try simp only [List.nil_append, List.cons_append]); refine hK _ _ ?_; clear hK K; (repeat (first | (with_reducible refine then_n ?_) | (with_reducible refine then_r ?_) | (with_reducible refine then_e ?_) | (with_reducible refine block_n ?_) | (with_reducible refine block_r ?_) | (with_reducible refine block_e ?_) | refine block_o ?_ | (with_reducible refine scope_n ?_) | (with_reducible refine scope_r ?_) | (with_reducible refine scope_e ?_) | (with_reducible refine code_seq ?_) | (with_reducible refine code_skip ?_) | (with_reducible refine code_label ?_) | (with_reducible refine code_block ?_) | (with_reducible refine code_scope ?_) | (with_reducible refine code_exit ?_) | (with_reducible refine code_ret ?_) | refine regq_to ?_ | (with_reducible refine run_nil ?_) | ((with_reducible refine run_probe ?_); refine runq_more ?_) | (with_reducible refine draw_nil ?_) | ((with_reducible refine draw_probe ?_); (first | refine drawq_more ?_ | refine drawq_as ?_)) | refine code_then ?_ | refine code_else ?_))
  rw [h.ne]
  (repeat (first | (with_reducible refine then_n ?_) | (with_reducible refine then_r ?_) | (with_reducible refine then_e ?_) | (with_reducible refine block_n ?_) | (with_reducible refine block_r ?_) | (with_reducible refine block_e ?_) | refine block_o ?_ | (with_reducible refine scope_n ?_) | (with_reducible refine scope_r ?_) | (with_reducible refine scope_e ?_) | (with_reducible refine code_seq ?_) | (with_reducible refine code_skip ?_) | (with_reducible refine code_label ?_) | (with_reducible refine code_block ?_) | (with_reducible refine code_scope ?_) | (with_reducible refine code_exit ?_) | (with_reducible refine code_ret ?_) | refine regq_to ?_ | (with_reducible refine run_nil ?_) | ((with_reducible refine run_probe ?_); refine runq_more ?_) | (with_reducible refine draw_nil ?_) | ((with_reducible refine draw_probe ?_); (first | refine drawq_more ?_ | refine drawq_as ?_)) | refine code_then ?_ | refine code_else ?_))
  exact back_cells (vs := [.slice none 0 0, .int .i64 E]) [] ⟨rfl, rfl⟩
theorem write_no {p : Value} {i E : Int} (h : NoWay p i E) (s : Value) : Meets Tryd.prog 9 [p, .int .i64 i, s] [] fun v A => v = .tuple #[.int .i64 0, .int .i64 E] ∧ A = [] := by
  refine spec_intro Tryd.func9 rfl (by kernel_rfl) (by rw [Tryd.ntmps9]; simp) fun F => ?_; rw [Tryd.ntmps9, Tryd.results9]
  (repeat (first | (with_reducible refine then_n ?_) | (with_reducible refine then_r ?_) | (with_reducible refine then_e ?_) | (with_reducible refine block_n ?_) | (with_reducible refine block_r ?_) | (with_reducible refine block_e ?_) | refine block_o ?_ | (with_reducible refine scope_n ?_) | (with_reducible refine scope_r ?_) | (with_reducible refine scope_e ?_) | (with_reducible refine code_seq ?_) | (with_reducible refine code_skip ?_) | (with_reducible refine code_label ?_) | (with_reducible refine code_block ?_) | (with_reducible refine code_scope ?_) | (with_reducible refine code_exit ?_) | (with_reducible refine code_ret ?_) | refine regq_to ?_ | (with_reducible refine run_nil ?_) | ((with_reducible refine run_probe ?_); refine runq_more ?_) | (with_reducible refine draw_nil ?_) | ((with_reducible refine draw_probe ?_); (first | refine drawq_more ?_ | refine drawq_as ?_)) | refine code_then ?_ | refine code_else ?_))
  refine run_op fun K hK => ?_; refine calls_to (h.2) ?_; rintro v A ⟨rfl, rfl⟩; (try simp only [List.nil_append, List.cons_append]); refine hK _ _ ?_; clear hK K; (repeat (first | (with_reducible refine then_n ?_) | (with_reducible refine then_r ?_) | (with_reducible refine then_e ?_) | (with_reducible refine block_n ?_) | (with_reducible refine block_r ?_) | (with_reducible refine block_e ?_) | refine block_o ?_ | (with_reducible refine scope_n ?_) | (with_reducible refine scope_r ?_) | (with_reducible refine scope_e ?_) | (with_reducible refine code_seq ?_) | (with_reducible refine code_skip ?_) | (with_reducible refine code_label ?_) | (with_reducible refine code_block ?_) | (with_reducible refine code_scope ?_) | (with_reducible refine code_exit ?_) | (with_reducible refine code_ret ?_) | refine regq_to ?_ | (with_reducible refine run_nil ?_) | ((with_reducible refine run_probe ?_); refine runq_more ?_) | (with_reducible refine draw_nil ?_) | ((with_reducible refine draw_probe ?_); (first | refine drawq_more ?_ | refine drawq_as ?_)) | refine code_then ?_ | refine code_else ?_))
  rw [h.ne]
  (repeat (first | (with_reducible refine then_n ?_) | (with_reducible refine then_r ?_) | (with_reducible refine then_e ?_) | (with_reducible refine block_n ?_) | (with_reducible refine block_r ?_) | (with_reducible refine block_e ?_) | refine block_o ?_ | (with_reducible refine scope_n ?_) | (with_reducible refine scope_r ?_) | (with_reducible refine scope_e ?_) | (with_reducible refine code_seq ?_) | (with_reducible refine code_skip ?_) | (with_reducible refine code_label ?_) | (with_reducible refine code_block ?_) | (with_reducible refine code_scope ?_) | (with_reducible refine code_exit ?_) | (with_reducible refine code_ret ?_) | refine regq_to ?_ | (with_reducible refine run_nil ?_) | ((with_reducible refine run_probe ?_); refine runq_more ?_) | (with_reducible refine draw_nil ?_) | ((with_reducible refine draw_probe ?_); (first | refine drawq_more ?_ | refine drawq_as ?_)) | refine code_then ?_ | refine code_else ?_))
  exact back_cells (vs := [.int .i64 0, .int .i64 E]) [] ⟨rfl, rfl⟩
theorem over_nil : Meets Tryd.prog 11 [.pointer none] [] fun v A => v = .bool true ∧ A = [] := by
  refine spec_intro Tryd.func11 rfl (by kernel_rfl) (by rw [Tryd.ntmps11]; simp) fun F => ?_; rw [Tryd.ntmps11, Tryd.results11]
  (repeat (first | (with_reducible refine then_n ?_) | (with_reducible refine then_r ?_) | (with_reducible refine then_e ?_) | (with_reducible refine block_n ?_) | (with_reducible refine block_r ?_) | (with_reducible refine block_e ?_) | refine block_o ?_ | (with_reducible refine scope_n ?_) | (with_reducible refine scope_r ?_) | (with_reducible refine scope_e ?_) | (with_reducible refine code_seq ?_) | (with_reducible refine code_skip ?_) | (with_reducible refine code_label ?_) | (with_reducible refine code_block ?_) | (with_reducible refine code_scope ?_) | (with_reducible refine code_exit ?_) | (with_reducible refine code_ret ?_) | refine regq_to ?_ | (with_reducible refine run_nil ?_) | ((with_reducible refine run_probe ?_); refine runq_more ?_) | (with_reducible refine draw_nil ?_) | ((with_reducible refine draw_probe ?_); (first | refine drawq_more ?_ | refine drawq_as ?_)) | refine code_then ?_ | refine code_else ?_))
  refine back_tmp [] ?_; exact ⟨rfl, rfl⟩

end Go.Proofs.YtlcbaijjjphmjaaDoor

/- A slice of bytes as it came; the variables. Conditions: as each says. -/
set_option linter.unusedSimpArgs false
set_option linter.unusedVariables false
namespace Go.Proofs.YtlcbaijjjphmjaaDoor
open Go Go.Ost Go.Sha

/-- The variables that the code reads. -/
structure Globs (C : Chunk) : Prop where
  g0 : ∃ t m, (0, Obj.cells (rowW first.list) t m) ∈ C
  g1 : ∃ t m, (1, Obj.cells (rowW odd) t m) ∈ C

/-- A slice of bytes as it came. -/
theorem row_bytes {C : Chunk} {v : Value} {zs : List Int} (h : Ost.Row C .u8 v zs) : ∃ a cap, ∃ bs : List UInt8, v = .slice a bs.length cap ∧ bs.length ≤ cap ∧ cap ≤ maxLen ∧ Rd 1 [C] a bs.length (bs.map b8) := by
  obtain ⟨hwf, a, len, cap, rfl, hle, hmax, hl, hc⟩ := h
  refine ⟨a, cap, zs.map fun z => UInt8.ofNat z.toNat, by simp [hl], by simp [hl]; omega, hmax, by simp, fun hne => ?_⟩
  have hpos : 0 < len := by
    rw [← hl]; cases zs with
    | nil => simp at hne
    | cons z l => simp
  obtain ⟨b, o, cs, e, m, rfl, hm, hcs⟩ := hc hpos
  refine ⟨b, o, cs, e, m, rfl, .here hm, fun i hi => ?_⟩
  simp only [List.length_map] at hi
  rw [hcs i (by omega)]
  have hz := hwf (zs.getD i 0) (by
    rw [List.getD, List.getElem?_eq_getElem hi]; exact List.getElem_mem _)
  have hz2 : 0 ≤ zs.getD i 0 ∧ zs.getD i 0 ≤ 255 := by
    simp only [Lit.wf, Bool.and_eq_true, decide_eq_true_eq] at hz
    exact ⟨hz.1, hz.2⟩
  simp only [List.getElem?_map, List.getElem?_eq_getElem hi, Option.map_some]
  rw [List.getD, List.getElem?_eq_getElem hi] at hz2 ⊢
  simp only [Option.getD_some] at hz2 ⊢
  simp only [b8, UInt8.toNat_ofNat']
  congr 2; omega

end Go.Proofs.YtlcbaijjjphmjaaDoor

/- A Hash: its block, how many bytes it has had. Conditions: as each says. -/
set_option linter.unusedSimpArgs false
set_option linter.unusedVariables false
namespace Go.Proofs.YtlcbaijjjphmjaaDoor
open Go Go.Ost Go.Sha

instance : TPlaces Tryd.prog 92 [(0, 8), (8, 1), (9, 1)] := ⟨by kernel_rfl⟩

/-- A Hash's block. -/
abbrev hashO (l : List W) (v : Value) (n : Nat) : Obj := .cells (rowX l [v, .int .u64 n]) 92 (0, 0)

end Go.Proofs.YtlcbaijjjphmjaaDoor

/- The words of SHA-256: turning, loading. Conditions: as each says. -/
set_option linter.unusedSimpArgs false
set_option linter.unusedVariables false
namespace Go.Proofs.YtlcbaijjjphmjaaDoor
open Go Go.Ost Go.Sha

theorem turn_spec (x : W) (n : Nat) (h : n ≤ 32) : Meets Tryd.prog 52 [b32 x, .int .u64 n] [] fun v A => v = b32 (rot n x) ∧ A = [] := by
  refine spec_intro Tryd.func52 rfl (by kernel_rfl) (by rw [Tryd.ntmps52]; simp) fun F => ?_; rw [Tryd.ntmps52, Tryd.results52]
  refine code_seq_k fun N1 hN1 => ?_
  refine reg_to ?_; (try refine run_end ?_)
  refine hN1 _ _ _ ?_; clear hN1
  refine code_seq_k fun N2 hN2 => ?_
  refine reg_to ?_; (try refine run_end ?_)
  refine hN2 _ _ _ ?_; clear hN2
  refine code_back ?_
  refine back_tmp [] ?_; exact ⟨by rw [show ((32 : Int) - n).toNat = 32 - n from by omega]; rfl, rfl⟩

theorem and31 {P : Program} {t : TypeId} {x y : Operand} {κ : Value → Prop} (n : Nat) (h0 : 1 ≤ n) (h1 : n ≤ 31) :
    PureW P (do eqGuard .and t x y (.int .u64 (IntKind.u64.wrap (-(n : Int)))) (.int .u64 31); binOp .and t (.int .u64 (IntKind.u64.wrap (-(n : Int)))) (.int .u64 31)) κ = κ (.int .u64 (32 - n)) :=
  pureW_eq (fun w => by
    have key : ∀ n : Fin 32, 1 ≤ n.val → IntKind.u64.wrap ((BitVec.ofInt 64 (IntKind.u64.wrap (-(n.val : Int))) &&& BitVec.ofInt 64 31).toNat : Int) = 32 - n.val := by decide
    show Result.ok (Value.int .u64 (IntKind.u64.wrap ((BitVec.ofInt 64 (IntKind.u64.wrap (-(n : Int))) &&& BitVec.ofInt 64 31).toNat : Int))) w = _
    rw [key ⟨n, by omega⟩ h0]) κ

theorem rotl_spec (x : W) (n : Nat) (h0 : 1 ≤ n) (h1 : n ≤ 31) : Meets Tryd.prog 50 [b32 x, .int .i64 (-(n : Int))] [] fun v A => v = b32 (rot n x) ∧ A = [] := by
  refine spec_intro Tryd.func50 rfl (by kernel_rfl) (by rw [Tryd.ntmps50]; simp) fun F => ?_; rw [Tryd.ntmps50, Tryd.results50]
  refine code_seq_k fun N1 hN1 => ?_
  refine reg_to ?_; (try refine run_end ?_)
  refine hN1 _ _ _ ?_; clear hN1
  refine code_seq_k fun N2 hN2 => ?_
  refine reg_to ?_; (try refine run_end ?_)
  refine run_op fun K hK => ?_
  rw [and31 n h0 h1]
  refine hK _ _ ?_; clear hK K
  (try refine run_to ?_); (try refine run_end ?_)
  refine hN2 _ _ _ ?_; clear hN2
  refine code_seq_k fun N3 hN3 => ?_
  refine reg_to ?_; (try refine run_end ?_)
  refine hN3 _ _ _ ?_; clear hN3
  refine code_back ?_
  refine back_tmp [] ?_; exact ⟨by rw [show ((32 : Int) - n).toNat = 32 - n from by omega, show ((32 : Int) - (32 - n)).toNat = n from by omega, BitVec.or_comm]; rfl, rfl⟩

theorem word_spec (H : Chunk) (a : Option Addr) (len cap : Nat) (x0 x1 x2 x3 : UInt8) (l : List UInt8) (h : Rd 1 [H] a len ((x0 :: x1 :: x2 :: x3 :: l).map b8)) :
    Meets Tryd.prog 53 [.slice a len cap] [H] fun v A => v = b32 (word x0 x1 x2 x3) ∧ A = [H] := by
  refine spec_intro Tryd.func53 rfl (by kernel_rfl) (by rw [Tryd.ntmps53]; simp) fun F => ?_; rw [Tryd.ntmps53, Tryd.results53]
  have hr := h.next F
  have hlen : 4 ≤ len := by have := h.1; simp at this; omega
  refine code_seq_k fun N1 hN1 => ?_
  refine reg_to ?_; (try refine run_end ?_)
  refine hN1 _ _ _ ?_; clear hN1
  refine code_seq_k fun N2 hN2 => ?_
  refine code_draw [[], [0], [0, 1], [0, 1, 2], [0, 1, 2, 3], [], [5], [5, 6], [5, 6, 7], [5, 6, 7, 8], [0, 1, 2, 3, 4, 5, 6, 7, 8, 9], [], [11], [11, 12], [11, 12, 13], [11, 12, 13, 14], [0, 1, 2, 3, 4, 5, 6, 7, 8, 9, 10, 11, 12, 13, 14, 15], [], [17], [17, 18], [17, 18, 19], [0, 1, 2, 3, 4, 5, 6, 7, 8, 9, 10, 11, 12, 13, 14, 15, 16, 17, 18, 19, 20], [0, 1, 2, 3, 4, 5, 6, 7, 8, 9, 10, 11, 12, 13, 14, 15, 16, 17, 18, 19, 20, 21]] [(0, false, []), (1, false, []), (2, false, []), (3, false, []), (4, false, []), (5, false, []), (6, false, []), (7, false, []), (8, false, []), (9, false, []), (10, false, []), (11, false, []), (12, false, []), (13, false, []), (14, false, []), (15, false, []), (16, false, []), (17, false, []), (18, false, []), (19, false, []), (20, false, []), (21, false, []), (22, true, [])] (by kernel_rfl) (by kernel_rfl) ?_
  (repeat (refine draw_quiet (by simp only [List.getElem?_toArray, List.getElem?_cons_succ, List.getElem?_cons_zero]; rfl) fun K hK => ?_; (try simp only [gos, gob, Nat.reduceBEq, if_true, reduceIte, reduceCtorEq, Nat.reduceLT, Nat.reduceEqDiff, Nat.reduceAdd, Nat.reduceSub, Int.reduceLT, Int.reduceLE, Int.reduceBEq, Int.reduceBNe, Int.reduceToNat, Int.reduceAdd, Int.reduceSub, Int.reduceMul, Int.reduceDiv, Int.reduceMod, Int.reducePow, Int.toNat_natCast, Nat.sub_zero, goq]); (try (simp (disch := omega) only [gow, gobw, index_rd hr]; try simp only [gos, gob, Nat.reduceBEq, if_true, reduceIte, reduceCtorEq, Nat.reduceLT, Nat.reduceEqDiff, Nat.reduceAdd, Nat.reduceSub, Int.reduceLT, Int.reduceLE, Int.reduceBEq, Int.reduceBNe, Int.reduceToNat, Int.reduceAdd, Int.reduceSub, Int.reduceMul, Int.reduceDiv, Int.reduceMod, Int.reducePow, Int.toNat_natCast, Nat.sub_zero, goq])); (first | (with_reducible refine hK _ _ ?_) | (refine rd_load hr rfl ?_; (with_reducible refine hK _ _ ?_)) | ((with_reducible apply load_box); (· (repeat (first | with_reducible exact Lies.one | with_reducible apply Lies.next))); (with_reducible refine hK _ _ ?_)) | ((with_reducible apply load_one); (· (repeat (first | with_reducible exact Lies.one | with_reducible apply Lies.next))); (· exact rfl); (with_reducible refine hK _ _ ?_))); clear hK K)); try ((with_reducible refine draw_nil ?_); try simp only [Cont.then, Cont.block, Cont.noGoto, reduceIte, Nat.reduceEqDiff])
  refine draw_op fun K hK => ?_; (repeat refine pend ?_); refine hK _ _ ?_; clear hK K
  (try refine draw_to ?_); (try refine draw_end ?_)
  refine hN2 _ _ _ ?_; clear hN2
  refine code_back ?_
  refine back_tmp [H] ?_; exact ⟨by rw [word_eq], rfl⟩

end Go.Proofs.YtlcbaijjjphmjaaDoor

/- The words of a block, spread. Conditions: as each says. -/
set_option linter.unusedSimpArgs false
set_option linter.unusedVariables false
namespace Go.Proofs.YtlcbaijjjphmjaaDoor
open Go Go.Ost Go.Sha

theorem word_at (H : Chunk) (a : Option Addr) (len cap : Nat) (bs : List UInt8) (hb : 4 ≤ bs.length) (h : Rd 1 [H] a len (bs.map b8)) :
    Meets Tryd.prog 53 [.slice a len cap] [H] fun v A => v = b32 (wordAt bs 0) ∧ A = [H] := by
  match bs, hb, h with
  | x0 :: x1 :: x2 :: x3 :: l, _, h => exact word_spec H a len cap x0 x1 x2 x3 l h

theorem spread_spec (H : Chunk) (a : Option Addr) (cap : Nat) (hcap : 64 ≤ cap) (bs : List UInt8) (hb : bs.length = 64) (h : Rd 1 [H] a 64 (bs.map b8)) :
    Meets Tryd.prog 49 [.slice a 64 cap] [H] fun v A => v = .agg (rowW (spr bs 64)) ∧ A = [H] := by
  refine spec_intro Tryd.func49 rfl (by kernel_rfl) (by rw [Tryd.ntmps49]; simp) fun F => ?_; rw [Tryd.ntmps49, Tryd.results49]
  refine code_seq_k fun N1 hN1 => ?_
  refine reg_to ?_; (try refine run_end ?_)
  refine run_op fun K hK => ?_; refine alloc_new fun b2 => ?_; (try simp only [Value.cells]); refine hK _ _ ?_; clear hK K
  (try refine run_to ?_); (try refine run_end ?_)
  refine hN1 _ _ _ ?_; clear hN1
  refine code_seq_k fun N2 hN2 => ?_
  refine reg_to ?_; (try refine run_end ?_)
  refine run_op fun K hK => ?_; refine alloc_new fun b3 => ?_; (try simp only [Value.cells]); refine hK _ _ ?_; clear hK K
  (try refine run_to ?_); (try refine run_end ?_)
  refine hN2 _ _ _ ?_; clear hN2
  refine code_seq_k fun N3 hN3 => ?_
  refine code_seq_k fun N4 hN4 => ?_
  refine reg_to ?_; (try refine run_end ?_)
  refine hN4 _ _ _ ?_; clear hN4
  refine code_block ?_
  refine code_loop (fun q D L S => ∃ i : Nat, i ≤ 16 ∧ q = 16 - i ∧ D = [] ∧ L = [(10, .int .i64 i), (0, .slice a 64 cap), (2, .pointer (some ⟨b2, 0, none⟩)), (3, .pointer (some ⟨b3, 0, none⟩))] ∧
    S = [[(b3, .cells (rowW (spr bs i)) 100 (0, 0))], [(b2, .cells (rowW (spr bs 0)) 100 (0, 0))], F, H]) ?_ ?_
  · exact ⟨_, _, _, ⟨0, by omega, rfl, rfl, rfl, rfl⟩, by (repeat (first | exact True.intro | (refine And.intro ?_ ?_; (· (try simp only [evT, lookT_hit, lookT_miss, Nat.reduceBEq]); (first | done | exact rfl))))), by first | ((repeat (first | with_reducible exact Among.nil _ | with_reducible exact Pick.head _ _ | with_reducible apply Pick.tail | with_reducible apply Among.cons)); done) | ((repeat (first | exact Among.nil _ | exact Pick.head _ _ | apply Pick.tail | apply Among.cons)); done)⟩
  · rintro q D L S ⟨i, hi, rfl, rfl, rfl, rfl⟩
    refine code_seq_k fun N5 hN5 => ?_
    refine reg_to ?_; (try refine run_end ?_)
    refine hN5 _ _ _ ?_; clear hN5
    refine code_seq_k fun N6 hN6 => ?_
    refine code_if (fun hc => ?_) (fun hc => ?_)
    · have hc := of_decide_eq_true hc
      refine code_skip ?_
      refine hN6 _ _ _ ?_; clear hN6
      refine code_seq_k fun N7 hN7 => ?_
      refine code_block ?_
      refine code_seq_k fun N8 hN8 => ?_
      refine reg_to ?_; (try refine run_end ?_)
      refine hN8 _ _ _ ?_; clear hN8
      refine reg_to ?_; (try refine run_end ?_)
      refine run_op fun K hK => ?_; refine calls_to (word_at H _ _ _ _ (by simp; omega) (rd_cut1 h (l := (4 * (i : Int)).toNat) (h' := 64) (m := cap) (by omega) (by omega) (by omega))) ?_; rintro v A ⟨rfl, rfl⟩; refine hK _ _ ?_; clear hK K
      (try refine runv_to ?_); (try refine run_end ?_)
      have e : (spr bs i).set (0 + i * 1) (wordAt ((bs.drop (4 * (i : Int)).toNat).take (64 - (4 * (i : Int)).toNat)) 0) = spr bs (i + 1) := by
        rw [wordAt_cut _ _ _ (by omega), show (4 * (i : Int)).toNat = 4 * i from by omega]; rw [show 0 + i * 1 = i from by omega]
        simp only [spr]; rw [if_pos (by omega)]
      rw [e]
      refine hN7 _ _ _ ?_; clear hN7
      refine reg_to ?_; (try refine run_end ?_)
      exact again ⟨i + 1, by omega, rfl, rfl, rfl, rfl⟩
    · have hc := of_decide_eq_false hc
      refine code_exit ?_; try simp only [Cont.then, Cont.block, Cont.noGoto, reduceIte, Nat.reduceEqDiff]
      refine hN3 _ _ _ ?_; clear hN3
      obtain rfl : i = 16 := by omega
      refine code_seq_k fun N9 hN9 => ?_
      refine code_seq_k fun N10 hN10 => ?_
      refine reg_to ?_; (try refine run_end ?_)
      refine hN10 _ _ _ ?_; clear hN10
      refine code_block ?_
      refine code_loop (fun q D L S => ∃ i : Nat, 16 ≤ i ∧ i ≤ 64 ∧ q = 64 - i ∧ D = [] ∧ L = [(5, .int .i64 i), (2, .pointer (some ⟨b2, 0, none⟩)), (3, .pointer (some ⟨b3, 0, none⟩))] ∧
        S = [[(b3, .cells (rowW (spr bs i)) 100 (0, 0))], [(b2, .cells (rowW (spr bs 0)) 100 (0, 0))], F, H]) ?_ ?_
      · exact ⟨_, _, _, ⟨16, by omega, by omega, rfl, rfl, rfl, rfl⟩, by (repeat (first | exact True.intro | (refine And.intro ?_ ?_; (· (try simp only [evT, lookT_hit, lookT_miss, Nat.reduceBEq]); (first | done | exact rfl))))), by first | ((repeat (first | with_reducible exact Among.nil _ | with_reducible exact Pick.head _ _ | with_reducible apply Pick.tail | with_reducible apply Among.cons)); done) | ((repeat (first | exact Among.nil _ | exact Pick.head _ _ | apply Pick.tail | apply Among.cons)); done)⟩
      · rintro q D L S ⟨i, h16, hi, rfl, rfl, rfl, rfl⟩
        refine code_seq_k fun N11 hN11 => ?_
        refine code_seq_k fun N12 hN12 => ?_
        refine reg_to ?_; (try refine run_end ?_)
        refine hN12 _ _ _ ?_; clear hN12
        refine code_if (fun hc => ?_) (fun hc => ?_)
        · have hc := of_decide_eq_true hc
          refine code_skip ?_
          refine hN11 _ _ _ ?_; clear hN11
          refine code_seq_k fun N13 hN13 => ?_
          refine code_block ?_
          refine code_seq_k fun N14 hN14 => ?_
          refine code_draw [[], [0], [0, 1], [0, 1, 2], [], [4], [4, 5], [4, 5, 6], [0, 1, 2, 3], [0, 1, 2, 3, 4, 5, 6, 7, 8]] [(0, false, []), (1, false, []), (2, false, []), (3, false, []), (4, false, []), (5, false, []), (6, false, []), (7, false, []), (8, true, [7]), (9, true, [])] (by kernel_rfl) (by kernel_rfl) ?_
          (try refine drawv_to ?_); (try refine draw_end ?_)
          refine draw_op fun K hK => ?_; (repeat refine pendv ?_); refine hK _ _ ?_; clear hK K
          (try refine draw_to ?_); (try refine draw_end ?_)
          refine draw_op fun K hK => ?_; (repeat refine pendv ?_); refine hK _ _ ?_; clear hK K
          (try refine draw_to ?_); (try refine draw_end ?_)
          refine hN14 _ _ _ ?_; clear hN14
          refine code_seq_k fun N15 hN15 => ?_
          refine reg_to ?_; (try refine run_end ?_)
          refine run_op fun K hK => ?_; refine calls_to (rotl_spec _ 7 (by decide) (by decide)) ?_; rintro v A ⟨rfl, rfl⟩; refine hK _ _ ?_; clear hK K
          (try refine run_to ?_); (try refine run_end ?_)
          refine run_op fun K hK => ?_; refine calls_to (rotl_spec _ 18 (by decide) (by decide)) ?_; rintro v A ⟨rfl, rfl⟩; refine hK _ _ ?_; clear hK K
          (try refine run_to ?_); (try refine run_end ?_)
          refine hN15 _ _ _ ?_; clear hN15
          refine code_seq_k fun N16 hN16 => ?_
          refine reg_to ?_; (try refine run_end ?_)
          refine run_op fun K hK => ?_; refine calls_to (rotl_spec _ 17 (by decide) (by decide)) ?_; rintro v A ⟨rfl, rfl⟩; refine hK _ _ ?_; clear hK K
          (try refine run_to ?_); (try refine run_end ?_)
          refine run_op fun K hK => ?_; refine calls_to (rotl_spec _ 19 (by decide) (by decide)) ?_; rintro v A ⟨rfl, rfl⟩; refine hK _ _ ?_; clear hK K
          (try refine run_to ?_); (try refine run_end ?_)
          refine hN16 _ _ _ ?_; clear hN16
          refine code_draw [[], [], [1], [1, 2], [1, 2, 3], [], [1, 2, 3, 4, 5], [], [7], [7, 8], [7, 8, 9], [1, 2, 3, 4, 5, 6, 7, 8, 9, 10], [], [1, 2, 3, 4, 5, 6, 7, 8, 9, 10, 11, 12], [0, 1, 2, 3, 4, 5, 6, 7, 8, 9, 10, 11, 12, 13], [0, 1, 2, 3, 4, 5, 6, 7, 8, 9, 10, 11, 12, 13, 14]] [(0, false, []), (1, false, []), (2, false, []), (3, false, []), (4, false, []), (5, false, []), (6, false, []), (7, false, []), (8, false, []), (9, false, []), (10, false, []), (11, false, []), (12, false, []), (13, false, []), (14, false, []), (15, true, [])] (by kernel_rfl) (by kernel_rfl) ?_
          (try refine drawv_to ?_); (try refine draw_end ?_)
          refine draw_op fun K hK => ?_; (first | ((with_reducible apply store_x); (· (repeat (first | with_reducible exact Upd.one | with_reducible apply Upd.next))); (· (first | (rw [ld_len]; omega) | (rw [List.length_replicate]; omega) | (rw [St.list_len]; omega) | (rw [odd_len]; omega) | (rw [spr_len]; omega) | (rw [mix_len _ _ _ (by omega)]; omega)))) | ((with_reducible apply store_w); (· (repeat (first | with_reducible exact Upd.one | with_reducible apply Upd.next))); (· (first | (rw [ld_len]; omega) | (rw [List.length_replicate]; omega) | (rw [St.list_len]; omega) | (rw [odd_len]; omega) | (rw [spr_len]; omega) | (rw [mix_len _ _ _ (by omega)]; omega))))); (repeat refine pendv ?_); refine hK _ _ ?_; clear hK K
          (try refine draw_to ?_); (try refine draw_end ?_)
          refine hN13 _ _ _ ?_; clear hN13
          rw [show 0 + i * 1 = i from by omega, show 0 + ((i : Int) - 16).toNat * 1 = i - 16 from by omega, show 0 + ((i : Int) - 15).toNat * 1 = i - 15 from by omega, show 0 + ((i : Int) - 7).toNat * 1 = i - 7 from by omega, show 0 + ((i : Int) - 2).toNat * 1 = i - 2 from by omega]
          have e : (spr bs i).set i (nxt (spr bs i) i) = spr bs (i + 1) := by simp only [spr]; rw [if_neg (by omega)]
          refine code_less (L' := [(5, .int .i64 i), (2, .pointer (some ⟨b2, 0, none⟩)), (3, .pointer (some ⟨b3, 0, none⟩))])
            (S' := [[(b3, .cells (rowW ((spr bs i).set i (nxt (spr bs i) i))) 100 (0, 0))], [(b2, .cells (rowW (spr bs 0)) 100 (0, 0))], F, H]) (by (repeat (first | exact True.intro | (refine And.intro ?_ ?_; (· (try simp only [evT, lookT_hit, lookT_miss, Nat.reduceBEq]); (first | done | exact rfl)))))) (by first | ((repeat (first | with_reducible exact Among.nil _ | with_reducible exact Pick.head _ _ | with_reducible apply Pick.tail | with_reducible apply Among.cons)); done) | ((repeat (first | exact Among.nil _ | exact Pick.head _ _ | apply Pick.tail | apply Among.cons)); done)) ?_
          rw [e]
          refine reg_to ?_; (try refine run_end ?_)
          exact again ⟨i + 1, by omega, by omega, rfl, rfl, rfl, rfl⟩
        · have hc := of_decide_eq_false hc
          refine code_exit ?_; try simp only [Cont.then, Cont.block, Cont.noGoto, reduceIte, Nat.reduceEqDiff]
          refine hN9 _ _ _ ?_; clear hN9
          obtain rfl : i = 64 := by omega
          refine code_seq_k fun N17 hN17 => ?_
          refine code_reg ?_
          refine run_op fun K hK => ?_
          refine load_rw (by (repeat (first | with_reducible exact Lies.one | with_reducible apply Lies.next))) (spr_len _ _) ?_
          refine hK _ _ ?_; clear hK K
          refine run_op fun K hK => ?_
          refine store_rw (by (repeat (first | with_reducible exact Upd.one | with_reducible apply Upd.next))) (spr_len _ _) (spr_len _ _) ?_
          refine hK _ _ ?_; clear hK K
          (try refine run_to ?_); (try refine run_end ?_)
          refine hN17 _ _ _ ?_; clear hN17
          refine code_back ?_
          refine ⟨_, by simp only [marksOf, List.map_cons, List.map_nil]; (repeat (first | with_reducible exact Take.nil _ | with_reducible exact Pick.head _ _ | with_reducible apply Pick.tail | with_reducible apply Take.cons)), ?_⟩; simp only [resW, withV, lookT_hit, lookT_miss, Nat.reduceBEq]; refine load_rw (by (repeat (first | with_reducible exact Lies.one | with_reducible apply Lies.next))) (spr_len _ _) ?_; exact ⟨[H], ⟨rfl, rfl⟩, by first | ((repeat (first | with_reducible exact Among.nil _ | with_reducible exact Pick.head _ _ | with_reducible apply Pick.tail | with_reducible apply Among.cons)); done) | ((repeat (first | exact Among.nil _ | exact Pick.head _ _ | apply Pick.tail | apply Among.cons)); done)⟩

end Go.Proofs.YtlcbaijjjphmjaaDoor

/- The state behind a block. Conditions: as each says. -/
set_option linter.unusedSimpArgs false
set_option linter.unusedVariables false
namespace Go.Proofs.YtlcbaijjjphmjaaDoor
open Go Go.Ost Go.Sha

set_option maxHeartbeats 4000000 in
theorem step_spec {tg : TypeId} (G H : Chunk) (m : Nat × Nat) (hG : (1, Obj.cells (rowW odd) tg m) ∈ G) (b e : Nat) (s : St) (r : List Value) (a : Option Addr) (cap : Nat) (hcap : 64 ≤ cap) (bs : List UInt8) (hb : bs.length = 64) (h : Rd 1 [H] a 64 (bs.map b8)) :
    Meets Tryd.prog 43 [.pointer (some ⟨b, 0, none⟩), .slice a 64 cap] [G, H, [(b, .cells (rowX s.list r) e (0, 0))]]
      fun v A => v = .tuple #[] ∧ A = [G, H, [(b, .cells (rowX (Go.Sha.step odd s bs).list r) e (0, 0))]] := by
  refine spec_intro Tryd.func43 rfl (by kernel_rfl) (by rw [Tryd.ntmps43]; simp) fun F => ?_; rw [Tryd.ntmps43, Tryd.results43]
  refine code_seq_k fun N1 hN1 => ?_
  refine reg_to ?_; (try refine run_end ?_)
  refine run_op fun K hK => ?_; refine calls_to (spread_spec H a cap hcap bs hb h) ?_; rintro v A ⟨rfl, rfl⟩; refine hK _ _ ?_; clear hK K
  (try refine run_to ?_); (try refine run_end ?_)
  refine run_op fun K hK => ?_; refine alloc_new fun b4 => ?_; (try simp only [Value.cells]); refine hK _ _ ?_; clear hK K
  refine run_op fun K hK => ?_
  refine store_rw (l := spr bs 0) (l' := spr bs 64) (by (repeat (first | exact Upd.one | apply Upd.next))) (spr_len _ _) (spr_len _ _) ?_
  refine hK _ _ ?_; clear hK K
  (try refine run_to ?_); (try refine run_end ?_)
  refine hN1 _ _ _ ?_; clear hN1
  refine code_seq_k fun N2 hN2 => ?_
  refine code_draw [[], [0], [0, 1], [0, 1, 2], [], [4], [4, 5], [4, 5, 6], [], [8], [8, 9], [8, 9, 10], [], [12], [12, 13], [12, 13, 14], [], [16], [16, 17], [16, 17, 18], [], [20], [20, 21], [20, 21, 22], [], [24], [24, 25], [24, 25, 26], [], [28], [28, 29], [28, 29, 30], [0, 1, 2, 3], [0, 1, 2, 3, 4, 5, 6, 7, 32], [0, 1, 2, 3, 4, 5, 6, 7, 8, 9, 10, 11, 32, 33], [0, 1, 2, 3, 4, 5, 6, 7, 8, 9, 10, 11, 12, 13, 14, 15, 32, 33, 34], [0, 1, 2, 3, 4, 5, 6, 7, 8, 9, 10, 11, 12, 13, 14, 15, 16, 17, 18, 19, 32, 33, 34, 35], [0, 1, 2, 3, 4, 5, 6, 7, 8, 9, 10, 11, 12, 13, 14, 15, 16, 17, 18, 19, 20, 21, 22, 23, 32, 33, 34, 35, 36], [0, 1, 2, 3, 4, 5, 6, 7, 8, 9, 10, 11, 12, 13, 14, 15, 16, 17, 18, 19, 20, 21, 22, 23, 24, 25, 26, 27, 32, 33, 34, 35, 36, 37], [0, 1, 2, 3, 4, 5, 6, 7, 8, 9, 10, 11, 12, 13, 14, 15, 16, 17, 18, 19, 20, 21, 22, 23, 24, 25, 26, 27, 28, 29, 30, 31, 32, 33, 34, 35, 36, 37, 38]] [(0, false, []), (1, false, []), (2, false, []), (3, false, []), (4, false, []), (5, false, []), (6, false, []), (7, false, []), (8, false, []), (9, false, []), (10, false, []), (11, false, []), (12, false, []), (13, false, []), (14, false, []), (15, false, []), (16, false, []), (17, false, []), (18, false, []), (19, false, []), (20, false, []), (21, false, []), (22, false, []), (23, false, []), (24, false, []), (25, false, []), (26, false, []), (27, false, []), (28, false, []), (29, false, []), (30, false, []), (31, false, []), (32, true, [7, 11, 15, 19, 23, 27, 31]), (33, true, [11, 15, 19, 23, 27, 31]), (34, true, [15, 19, 23, 27, 31]), (35, true, [19, 23, 27, 31]), (36, true, [23, 27, 31]), (37, true, [27, 31]), (38, true, [31]), (39, true, [])] (by kernel_rfl) (by kernel_rfl) ?_
  (try refine drawv_to ?_); (try refine draw_end ?_)
  refine draw_op fun K hK => ?_; (repeat refine pendv ?_); refine hK _ _ ?_; clear hK K
  (try refine drawv_to ?_); (try refine draw_end ?_)
  refine draw_op fun K hK => ?_; (repeat refine pendv ?_); refine hK _ _ ?_; clear hK K
  (try refine drawv_to ?_); (try refine draw_end ?_)
  refine draw_op fun K hK => ?_; (repeat refine pendv ?_); refine hK _ _ ?_; clear hK K
  (try refine drawv_to ?_); (try refine draw_end ?_)
  refine draw_op fun K hK => ?_; (repeat refine pendv ?_); refine hK _ _ ?_; clear hK K
  (try refine drawv_to ?_); (try refine draw_end ?_)
  refine draw_op fun K hK => ?_; (repeat refine pendv ?_); refine hK _ _ ?_; clear hK K
  (try refine drawv_to ?_); (try refine draw_end ?_)
  refine draw_op fun K hK => ?_; (repeat refine pendv ?_); refine hK _ _ ?_; clear hK K
  (try refine drawv_to ?_); (try refine draw_end ?_)
  refine draw_op fun K hK => ?_; (repeat refine pendv ?_); refine hK _ _ ?_; clear hK K
  (try refine drawv_to ?_); (try refine draw_end ?_)
  refine draw_op fun K hK => ?_; (repeat refine pendv ?_); refine hK _ _ ?_; clear hK K
  (try refine drawv_to ?_); (try refine draw_end ?_)
  refine hN2 _ _ _ ?_; clear hN2
  refine code_seq_k fun N3 hN3 => ?_
  refine code_seq_k fun N4 hN4 => ?_
  refine reg_to ?_; (try refine run_end ?_)
  refine hN4 _ _ _ ?_; clear hN4
  refine code_block ?_
  refine code_loop (fun q D L S => ∃ i : Nat, i ≤ 64 ∧ q = 64 - i ∧ D = [] ∧ L = [(55, .int .i64 i), (5, b32 (turns odd (spr bs 64) i s).a), (6, b32 (turns odd (spr bs 64) i s).b), (7, b32 (turns odd (spr bs 64) i s).c), (8, b32 (turns odd (spr bs 64) i s).d), (9, b32 (turns odd (spr bs 64) i s).e), (10, b32 (turns odd (spr bs 64) i s).f), (11, b32 (turns odd (spr bs 64) i s).g), (12, b32 (turns odd (spr bs 64) i s).h), (0, .pointer (some ⟨b, 0, none⟩)), (4, .pointer (some ⟨b4, 0, none⟩))] ∧
    S = [F, [(b4, .cells (rowW (spr bs 64)) 100 (0, 0))], G, H, [(b, .cells (rowX s.list r) e (0, 0))]]) ?_ ?_
  · exact ⟨_, _, _, ⟨0, by omega, rfl, rfl, rfl, rfl⟩, by (repeat (first | exact True.intro | (refine And.intro ?_ ?_; (· (try simp only [evT, lookT_hit, lookT_miss, Nat.reduceBEq]); (first | done | exact rfl))))), by first | ((repeat (first | with_reducible exact Among.nil _ | with_reducible exact Pick.head _ _ | with_reducible apply Pick.tail | with_reducible apply Among.cons)); done) | ((repeat (first | exact Among.nil _ | exact Pick.head _ _ | apply Pick.tail | apply Among.cons)); done)⟩
  · rintro q D L S ⟨i, hi, rfl, rfl, rfl, rfl⟩
    refine code_seq_k fun N5 hN5 => ?_
    refine reg_to ?_; (try refine run_end ?_)
    refine hN5 _ _ _ ?_; clear hN5
    refine code_seq_k fun N6 hN6 => ?_
    refine code_if (fun hc => ?_) (fun hc => ?_)
    · have hc := of_decide_eq_true hc
      refine code_skip ?_
      refine hN6 _ _ _ ?_; clear hN6
      generalize hst : turns odd (spr bs 64) i s = st
      refine code_seq_k fun N7 hN7 => ?_
      refine code_block ?_
      refine code_seq_k fun N8 hN8 => ?_
      refine reg_to ?_; (try refine run_end ?_)
      refine hN8 _ _ _ ?_; clear hN8
      refine code_seq_k fun N9 hN9 => ?_
      refine reg_to ?_; (try refine run_end ?_)
      refine run_op fun K hK => ?_; refine calls_to (rotl_spec _ 6 (by decide) (by decide)) ?_; rintro v A ⟨rfl, rfl⟩; refine hK _ _ ?_; clear hK K
      (try refine run_to ?_); (try refine run_end ?_)
      refine run_op fun K hK => ?_; refine calls_to (rotl_spec _ 11 (by decide) (by decide)) ?_; rintro v A ⟨rfl, rfl⟩; refine hK _ _ ?_; clear hK K
      (try refine run_to ?_); (try refine run_end ?_)
      refine run_op fun K hK => ?_; refine calls_to (rotl_spec _ 25 (by decide) (by decide)) ?_; rintro v A ⟨rfl, rfl⟩; refine hK _ _ ?_; clear hK K
      (try refine run_to ?_); (try refine run_end ?_)
      refine hN9 _ _ _ ?_; clear hN9
      refine code_seq_k fun N10 hN10 => ?_
      refine reg_to ?_; (try refine run_end ?_)
      refine hN10 _ _ _ ?_; clear hN10
      refine code_seq_k fun N11 hN11 => ?_
      refine code_draw [[], [], [0, 1], [], [0, 1, 2, 3], [], [5], [5, 6], [0, 1, 2, 3, 4, 5, 6, 7], [], [9], [9, 10], [0, 1, 2, 3, 4, 5, 6, 7, 8, 9, 10, 11], [0, 1, 2, 3, 4, 5, 6, 7, 8, 9, 10, 11, 12]] [(0, false, []), (1, false, []), (2, false, []), (3, false, []), (4, false, []), (5, false, []), (6, false, []), (7, false, []), (8, false, []), (9, false, []), (10, false, []), (11, false, []), (12, false, []), (13, true, [])] (by kernel_rfl) (by kernel_rfl) ?_
      (try refine drawv_to ?_); (try refine draw_end ?_)
      refine draw_op fun K hK => ?_; (repeat refine pendv ?_); refine hK _ _ ?_; clear hK K
      (try refine drawv_to ?_); (try refine draw_end ?_)
      refine hN11 _ _ _ ?_; clear hN11
      refine code_seq_k fun N12 hN12 => ?_
      refine reg_to ?_; (try refine run_end ?_)
      refine run_op fun K hK => ?_; refine calls_to (rotl_spec _ 2 (by decide) (by decide)) ?_; rintro v A ⟨rfl, rfl⟩; refine hK _ _ ?_; clear hK K
      (try refine run_to ?_); (try refine run_end ?_)
      refine run_op fun K hK => ?_; refine calls_to (rotl_spec _ 13 (by decide) (by decide)) ?_; rintro v A ⟨rfl, rfl⟩; refine hK _ _ ?_; clear hK K
      (try refine run_to ?_); (try refine run_end ?_)
      refine run_op fun K hK => ?_; refine calls_to (rotl_spec _ 22 (by decide) (by decide)) ?_; rintro v A ⟨rfl, rfl⟩; refine hK _ _ ?_; clear hK K
      (try refine run_to ?_); (try refine run_end ?_)
      refine hN12 _ _ _ ?_; clear hN12
      refine code_seq_k fun N13 hN13 => ?_
      refine reg_to ?_; (try refine run_end ?_)
      refine hN13 _ _ _ ?_; clear hN13
      refine reg_to ?_; (try refine run_end ?_)
      rw [show 0 + i * 1 = i from by omega, BitVec.add_assoc _ (rot 2 st.a ^^^ rot 13 st.a ^^^ rot 22 st.a) _]
      subst hst
      refine hN7 _ _ _ ?_; clear hN7
      refine reg_to ?_; (try refine run_end ?_)
      exact again ⟨i + 1, by omega, rfl, rfl, rfl, rfl⟩
    · have hc := of_decide_eq_false hc
      refine code_exit ?_; try simp only [Cont.then, Cont.block, Cont.noGoto, reduceIte, Nat.reduceEqDiff]
      refine hN3 _ _ _ ?_; clear hN3
      obtain rfl : i = 64 := by omega
      generalize hv : turns odd (spr bs 64) 64 s = v
      refine code_seq_k fun N14 hN14 => ?_
      refine reg_to ?_; (try refine run_end ?_)
      refine run_op fun K hK => ?_
      rw [build_w8 rfl]
      refine hK _ _ ?_; clear hK K
      (try refine run_to ?_); (try refine run_end ?_)
      refine hN14 _ _ _ ?_; clear hN14
      refine code_block ?_
      refine code_loop (fun q D L S => ∃ i : Nat, i ≤ 8 ∧ q = 8 - i ∧ D = [] ∧ L = [(130, .int .i64 i), (129, .agg (rowW v.list)), (0, .pointer (some ⟨b, 0, none⟩))] ∧
        S = [F, G, H, [(b, .cells (rowX (mix s v i) r) e (0, 0))]]) ?_ ?_
      · exact ⟨_, _, _, ⟨0, by omega, rfl, rfl, rfl, rfl⟩, by (repeat (first | exact True.intro | (refine And.intro ?_ ?_; (· (try simp only [evT, lookT_hit, lookT_miss, Nat.reduceBEq]); (first | done | exact rfl))))), by first | ((repeat (first | with_reducible exact Among.nil _ | with_reducible exact Pick.head _ _ | with_reducible apply Pick.tail | with_reducible apply Among.cons)); done) | ((repeat (first | exact Among.nil _ | exact Pick.head _ _ | apply Pick.tail | apply Among.cons)); done)⟩
      · rintro q D L S ⟨i, hi, rfl, rfl, rfl, rfl⟩
        refine code_seq_k fun N15 hN15 => ?_
        refine reg_to ?_; (try refine run_end ?_)
        refine hN15 _ _ _ ?_; clear hN15
        refine code_seq_k fun N16 hN16 => ?_
        refine code_if (fun hc => ?_) (fun hc => ?_)
        · have hc := of_decide_eq_true hc
          refine code_skip ?_
          refine hN16 _ _ _ ?_; clear hN16
          refine code_seq_k fun N17 hN17 => ?_
          refine code_block ?_
          refine code_seq_k fun N18 hN18 => ?_
          refine reg_to ?_; (try refine run_end ?_)
          refine run_op fun K hK => ?_
          rw [index_w (by omega) (by omega) (St.list_len v)]
          refine hK _ _ ?_; clear hK K
          (try refine run_to ?_); (try refine run_end ?_)
          refine hN18 _ _ _ ?_; clear hN18
          refine code_draw [[], [], [0], [0, 1, 2], [0, 1, 2, 3], [], [0, 1, 2, 3, 4, 5], [0], [0, 1, 2, 3, 4, 5, 6, 7], [0, 1, 2, 3, 4, 5, 6, 7, 8]] [(0, false, []), (1, false, []), (2, false, []), (3, false, []), (4, false, []), (5, false, []), (6, false, []), (7, false, []), (8, false, []), (9, true, [])] (by kernel_rfl) (by kernel_rfl) ?_
          (try refine drawv_to ?_); (try refine draw_end ?_)
          refine draw_op fun K hK => ?_; (first | ((with_reducible apply store_x); (· (repeat (first | with_reducible exact Upd.one | with_reducible apply Upd.next))); (· (first | (rw [ld_len]; omega) | (rw [List.length_replicate]; omega) | (rw [St.list_len]; omega) | (rw [odd_len]; omega) | (rw [spr_len]; omega) | (rw [mix_len _ _ _ (by omega)]; omega)))) | ((with_reducible apply store_w); (· (repeat (first | with_reducible exact Upd.one | with_reducible apply Upd.next))); (· (first | (rw [ld_len]; omega) | (rw [List.length_replicate]; omega) | (rw [St.list_len]; omega) | (rw [odd_len]; omega) | (rw [spr_len]; omega) | (rw [mix_len _ _ _ (by omega)]; omega))))); (repeat refine pendv ?_); refine hK _ _ ?_; clear hK K
          (try refine drawv_to ?_); (try refine draw_end ?_)
          rw [show 0 + i * 1 = i from by omega, mix_next s v i (by omega)]
          refine hN17 _ _ _ ?_; clear hN17
          refine reg_to ?_; (try refine run_end ?_)
          exact again ⟨i + 1, by omega, rfl, rfl, rfl, rfl⟩
        · have hc := of_decide_eq_false hc
          refine code_exit ?_; try simp only [Cont.then, Cont.block, Cont.noGoto, reduceIte, Nat.reduceEqDiff]
          obtain rfl : i = 8 := by omega
          subst hv
          exact ret_none_n [G, H, [(b, .cells (rowX (mix s (turns odd (spr bs 64) 64 s) 8) r) e (0, 0))]] ⟨rfl, rfl⟩ (by first | ((repeat (first | with_reducible exact Among.nil _ | with_reducible exact Pick.head _ _ | with_reducible apply Pick.tail | with_reducible apply Among.cons)); done) | ((repeat (first | exact Among.nil _ | exact Pick.head _ _ | apply Pick.tail | apply Among.cons)); done))

end Go.Proofs.YtlcbaijjjphmjaaDoor
