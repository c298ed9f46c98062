/- Texts in a row: the walk's rules and contracts, as each says. Conditions: as each says. -/
import Derived.Test.YtkgnhhpgnkkigaaM1TablePlays
import Derived.Shelf.Bytes.SlJoin
import Derived.Test.YtkgnhhpgnkkigaaM2TablePlays
import Derived.Deep.Matrix
import Derived.Test.YtkgnhhpgnkkigaaProg
/- From a contract of the kit's shelf to one over chunks. Conditions: as each says. -/
set_option linter.unusedSimpArgs false
set_option linter.unusedVariables false
namespace Go.Ost
open Go Go.RowKit

variable {P : Program}

/-- The chunk is one block, that may be written over so many cells. -/
def Loose (C : Chunk) (a : Option Addr) (n : Nat) : Prop := 0 < n → ∃ b cs e lo hi, a = some ⟨b, 0, none⟩ ∧ C = [(b, .cells cs e (lo, hi))] ∧ ∀ i, i < n → ¬ (lo ≤ i ∧ i < hi)
/-- A slice of bytes that is new, beside R. -/
def Got8 (bs : List UInt8) (R : State) (v : Value) (A : State) : Prop := ∃ C a cap, v = .slice a bs.length cap ∧ bs.length ≤ cap ∧ Rd 1 [C] a bs.length (bs.map b8) ∧ Loose C a bs.length ∧ A = C :: R

theorem meets_of_calls {f : FuncId} {fn : Func} {args : List Value} {A : State} {R : Value → State → Prop} (hf : P.funcs[f]? = some fn) (hb : fn.body.isSome = true) (hn : (fn.name != "runtime.NumGoroutine") = true)
    (h : ∀ w, Hold w A → Calls P f args.toArray w fun e w' => ∃ v, e = .returned v ∧ Below w.heap.size w w' ∧ ∃ C : Chunk, (∀ k o, (k, o) ∈ C → w.heap.size ≤ k ∧ w'.heap[k]? = some o) ∧ (C.map (·.1)).Nodup ∧ R v (C :: A)) : Meets P f args A R := by
  refine ⟨?_, fun F w hw => ?_⟩
  · obtain ⟨c, hc⟩ := Option.isSome_iff_exists.1 hb
    simp [callable, hf, hc]; simpa using hn
  · have hA : Hold w A := hw.sub (by simp)
    refine (callsIn_wide.2 (h w hA)).mono ?_
    rintro e w' ⟨v, rfl, hbe, C, hC, hnd, hR⟩
    refine ⟨v, F :: C :: A, rfl, ⟨hbe.os, hbe.tape, hbe.output, hbe.size⟩, ?_, C :: A, rfl, hR⟩
    have hall : Hold w' (C :: F :: A) := by
      refine ⟨?_, fun k o hm => ?_⟩
      · simp only [List.flatten_cons, List.map_append]
        rw [List.nodup_append]
        refine ⟨hnd, by have := hw.nd; simpa only [List.flatten_cons, List.map_append] using this, ?_⟩
        intro x hx y hy hxy
        obtain ⟨⟨k, o⟩, hk, rfl⟩ := List.mem_map.1 hx
        have h1 := (hC k o hk).1
        have hy' : y ∈ ((F :: A).flatten.map (·.1)) := by simpa only [List.flatten_cons, List.map_append] using hy
        obtain ⟨⟨k2, o2⟩, hk2, e2⟩ := List.mem_map.1 hy'
        have h2 := hw.lt hk2
        simp only at e2 hxy
        omega
      · simp only [List.flatten_cons, List.mem_append] at hm
        rcases hm with hm | hm
        · exact (hC k o hm).2
        · have hm' : (k, o) ∈ (F :: A).flatten := by simpa only [List.flatten_cons, List.mem_append] using hm
          rw [hbe.block k (hw.lt hm')]
          exact hw.get k o hm'
    exact hall.perm (by
      simp only [List.flatten_cons]
      rw [← List.append_assoc, ← List.append_assoc]
      exact List.Perm.append_right _ List.perm_append_comm)

theorem fresh_chunk {B : Nat} {w' : World} {v : Value} {l : List UInt8} (h : Lib.FreshBytes B w' v l) :
    ∃ C a cap, v = .slice a l.length cap ∧ l.length ≤ cap ∧ (∀ k o, (k, o) ∈ C → B ≤ k ∧ w'.heap[k]? = some o) ∧ (C.map (·.1)).Nodup ∧ Rd 1 [C] a l.length (l.map b8) ∧ Loose C a l.length := by
  obtain ⟨g, cap, zs, rfl, hg, hle, _, hz, hr, hb, hc, hf⟩ := h
  by_cases h0 : l.length = 0
  · have : l = [] := List.length_eq_zero_iff.1 h0
    subst this
    exact ⟨[], _, cap, rfl, hle, fun k o hm => (by cases hm), by simp, Rd.nil, fun h => absurd h (by simp)⟩
  · have hc0 := hc 0 (by omega)
    unfold World.cell? at hc0
    cases hob : w'.heap[g]? with
    | none => simp [hob] at hc0
    | some ob =>
      cases ob with
      | cells cs e m =>
        obtain ⟨lo, hi⟩ := m
        refine ⟨[(g, .cells cs e (lo, hi))], _, cap, rfl, hle, fun k o hm => ?_, by simp, ⟨by simp, fun _ => ⟨g, 0, cs, e, (lo, hi), rfl, Lies.one, fun i hi' => ?_⟩⟩, fun _ => ⟨g, cs, e, lo, hi, rfl, rfl, fun i hi' => ?_⟩⟩
        · simp only [List.mem_singleton, Prod.mk.injEq] at hm
          obtain ⟨rfl, rfl⟩ := hm
          exact ⟨hg, hob⟩
        · simp only [List.length_map] at hi'
          have h1 := hc i (by omega)
          unfold World.cell? at h1
          simp only [hob, Option.isSome_none, Bool.false_eq_true, if_false] at h1
          rw [Nat.zero_add, h1]
          have h2 : l[i]? = some (UInt8.ofNat (zs.getD i 0).toNat) := by
            rw [← hb]
            simp only [Lib.bytesOf, List.getElem?_map, List.getElem?_take, if_pos hi']
            rw [List.getElem?_eq_getElem (by omega), List.getD, List.getElem?_eq_getElem (by omega)]; rfl
          have h3 := hr (zs.getD i 0) (by
            rw [List.getD, List.getElem?_eq_getElem (by omega)]
            exact List.getElem_mem _)
          rw [List.getElem?_map, h2]
          simp only [Option.map_some, b8, UInt8.toNat_ofNat']
          congr 2; omega
        · have h1 := hf i (by omega)
          unfold World.frozen? at h1
          simp only [hob] at h1
          intro hlt
          simp [hlt.1, hlt.2] at h1
      | _ => simp [hob] at hc0

/-- Slices of bytes in a row. -/
def Parts (A : State) (a : Option Addr) (n : Nat) (ls : List (List UInt8)) : Prop :=
  ls.length = n ∧ ∃ vs : List Value, Rd 1 A a n vs ∧ ∀ (i : Nat) (v : Value) (l : List UInt8), vs[i]? = some v → ls[i]? = some l → ∃ p c, v = .slice p l.length c ∧ l.length ≤ c ∧ Rd 1 A p l.length (l.map b8)

theorem rd_cell {S : State} {a : Option Addr} {len : Nat} {us : List Value} (h : Rd 1 S a len us) {w : World} (hw : Hold w S) {i : Nat} {v : Value} (hi : us[i]? = some v) : ∃ b o, a = some ⟨b, o, none⟩ ∧ w.cell? ⟨b, o + i, none⟩ = some v := by
  have hlt := (List.getElem?_eq_some_iff.1 hi).1
  obtain ⟨b, o, cs, e, m, rfl, hl, hc⟩ := h.2 (by intro e; subst e; simp at hi)
  exact ⟨b, o, rfl, by rw [cell_of (hl.get hw), hc i hlt, hi]⟩
theorem holds_of {S : State} {p : Option Addr} {c : Nat} {l : List UInt8} (h : Rd 1 S p l.length (l.map b8)) {w : World} (hw : Hold w S) : Lib.HoldsBytes w (.slice p l.length c) l := by
  refine ⟨p, c, rfl, fun hp => ?_, fun a ha i x hx => ?_⟩
  · subst hp
    cases l with
    | nil => rfl
    | cons x l => obtain ⟨_, _, _, _, _, h3, _⟩ := h.2 (by simp); cases h3
  · obtain ⟨b, o, e, hc⟩ := rd_cell h hw (i := i) (v := b8 x) (by simp [hx])
    subst ha
    cases e
    rw [add_mk]
    exact hc

/-- The same blocks, otherwise in chunks. -/
theorem Meets.perm {f : FuncId} {args : List Value} {A B : State} {R R' : Value → State → Prop} (h : Meets P f args A R) (hAB : B.flatten.Perm A.flatten) (hR : ∀ v A', R v A' → ∃ B', A'.flatten.Perm B'.flatten ∧ R' v B') : Meets P f args B R' := by
  refine ⟨h.1, fun F w hw => (h.2 F w (hw.perm (by simp only [List.flatten_cons]; exact hAB.append_left F))).mono ?_⟩
  rintro e w' ⟨v, S, rfl, he, hh, A', rfl, hr⟩
  obtain ⟨B', hp, hr'⟩ := hR v A' hr
  exact ⟨v, F :: B', rfl, he, hh.perm (by simp only [List.flatten_cons]; exact hp.append_left F), B', rfl, hr'⟩

end Go.Ost

/- Slices of slices of bytes, as the reading ahead of the call has them. Conditions: as each says. -/
set_option linter.unusedSimpArgs false
set_option linter.unusedVariables false
namespace Go.Ost
open Go Go.ChangeShapes Go.WideShapes Go.ChangeAt Go.RowKit Go.Deep

variable {P : Program}

def RowS (C : Chunk) (v : Value) (ls : List (List UInt8)) : Prop := ∃ a cap, v = .slice a ls.length cap ∧ ls.length ≤ cap ∧ cap ≤ maxLen ∧ Parts [C] a ls.length ls

theorem cell_block {w : World} {a : Addr} {v : Value} (h : w.cell? a = some v) : ∃ b o cs e m, a = ⟨b, o, none⟩ ∧ w.heap[b]? = some (.cells cs e m) := by
  unfold World.cell? at h
  split at h
  · rename_i c t fr hb
    split at h
    · cases h
    · rename_i hs
      obtain ⟨b, o, sp⟩ := a
      cases sp with
      | none => exact ⟨b, o, c, t, fr, rfl, hb⟩
      | some s => simp at hs
  · cases h
/-- Cells of a world, one behind the other, as a chunk's. -/
theorem rd_cells {w : World} {a : Addr} {us : List Value} {C : Chunk} (hC : ∀ k o, w.heap[k]? = some o → (k, o) ∈ C) (h : ∀ i v, us[i]? = some v → w.cell? (a.add i) = some v) : Rd 1 [C] (some a) us.length us := by
  refine ⟨by simp, fun hne => ?_⟩
  obtain ⟨u, us', rfl⟩ := List.exists_cons_of_ne_nil hne
  have h0 := h 0 u rfl
  obtain ⟨b, o', cs, e, m, he, hb⟩ := cell_block h0
  obtain ⟨ba, o, sp⟩ := a
  cases sp with
  | some s =>
    exfalso
    have hx : (Addr.add ⟨ba, o, some s⟩ 0).spot.isSome = true := by simp [Addr.add]
    rw [he] at hx; cases hx
  | none =>
    rw [add_mk] at he
    obtain ⟨hb1, ho1⟩ : b = ba ∧ o' = o := by cases he; exact ⟨rfl, rfl⟩
    subst hb1 ho1
    refine ⟨_, _, cs, e, m, rfl, .here (hC _ _ hb), fun i hi => ?_⟩
    have hu := h i _ (List.getElem?_eq_getElem hi)
    rw [add_mk, cell_of hb] at hu
    rw [hu, List.getElem?_eq_getElem hi]

theorem open_slcs {H : Type} {enc : TypeId × Value → H} {W : World} {base : Nat} {t e q : TypeId} {v : Value} {d : DataW H} {ps : List MemPlace} (ht : P.underlying t = some (.slice e)) (he : P.underlying e = some (.slice q)) (hq : P.underlying q = some (.int .u8)) (ce : P.cellsOf e = 1) (cq : P.cellsOf q = 1)
    (hval : Value.okWide P W .any base t v) (h : DataW.Trod enc P W 0 (fun _ => true) true t v d ps) :
    ∃ ls, ∀ C : Chunk, (∀ k o, W.heap[k]? = some o → (k, o) ∈ C) → RowS C v ls := by
  obtain ⟨a0, len0, cap0, rfl⟩ := okWide_slice ht hval
  obtain ⟨fuel, hf⟩ := h
  rcases open_int_rows ht he hq ce cq hf with ⟨hcs, hx⟩ | ⟨a, len, cap, A, L, Cp, Z, hcs, _, hle, hmax, hx, hall⟩
  · simp [Value.cells] at hcs
    obtain ⟨rfl, rfl, rfl⟩ := hcs
    exact ⟨[], fun C hC => ⟨none, 0, rfl, Nat.le_refl _, Nat.zero_le _, rfl, [], Rd.nil, fun i v l hv => by simp at hv⟩⟩
  · simp [Value.cells] at hcs
    obtain ⟨rfl, rfl, rfl⟩ := hcs
    refine ⟨(List.range len0).map fun r => ((Z r).take (L r)).map fun z => UInt8.ofNat z.toNat, fun C hC => ⟨some a, cap0, by simp, by simpa using hle, hmax, rfl, (List.range len0).map fun r => .slice (A r) (L r) (Cp r), ?_, ?_⟩⟩
    · have q := rd_cells (w := W) (a := a) (us := (List.range len0).map fun r => Value.slice (A r) (L r) (Cp r)) hC (fun i v hv => by
        rw [List.getElem?_map] at hv
        by_cases hi : i < len0
        · rw [List.getElem?_range hi] at hv
          simp only [Option.map_some, Option.some.injEq] at hv
          rw [← hv]; exact (hall i (by omega)).1
        · rw [List.getElem?_eq_none (by simp; omega)] at hv; cases hv)
      simpa using q
    · intro i v l hv hl
      rw [List.getElem?_map] at hv hl
      by_cases hi : i < len0
      · rw [List.getElem?_range hi] at hv hl
        simp only [Option.map_some, Option.some.injEq] at hv hl
        obtain ⟨_, h2, _, h4, h5, h6, h7⟩ := hall i (by omega)
        subst hv hl
        have hlen : (((Z i).take (L i)).map fun z => UInt8.ofNat z.toNat).length = L i := by simp; omega
        refine ⟨A i, Cp i, by rw [hlen], by rw [hlen]; exact h2, ?_⟩
        cases hA : A i with
        | none =>
          have : L i = 0 := by have := h6 hA; omega
          have h0 : (((Z i).take (L i)).map fun z => UInt8.ofNat z.toNat) = [] := List.length_eq_zero_iff.1 (by rw [hlen, this])
          rw [h0]; exact Rd.nil
        | some a' =>
          have q := rd_cells (w := W) (a := a') (us := (((Z i).take (L i)).map fun z => UInt8.ofNat z.toNat).map b8) hC (fun c v hv => by
            simp only [List.getElem?_map, List.getElem?_take] at hv
            by_cases hc : c < L i
            · rw [if_pos hc, List.getElem?_eq_getElem (by omega)] at hv
              simp only [Option.map_some, Option.some.injEq] at hv
              rw [(h7 a' hA).2 c (by omega), ← hv]
              have hw := h5 (Z i)[c] (List.getElem_mem _)
              simp only [Lit.wf, Bool.and_eq_true, decide_eq_true_eq] at hw
              have hw2 : 0 ≤ (Z i)[c] ∧ (Z i)[c] ≤ 255 := ⟨hw.1, hw.2⟩
              rw [List.getD, List.getElem?_eq_getElem (by omega)]
              simp only [Option.getD_some, b8, UInt8.toNat_ofNat']
              congr 2; omega
            · rw [if_neg hc] at hv; simp at hv)
          rw [List.length_map] at q
          exact q
      · rw [List.getElem?_eq_none (by simp; omega)] at hv; cases hv

end Go.Ost

/- Slices of structures, as the reading ahead of the call has them. Conditions: as each says. -/
set_option linter.unusedSimpArgs false
set_option linter.unusedVariables false
namespace Go.Ost
open Go Go.ChangeShapes Go.WideShapes Go.ChangeAt Go.RowKit Go.Deep

variable {P : Program}

inductive FK | int (k : IntKind) | str | bool | bytes
def FieldW (C : Chunk) : FK → Value → Prop
  | .int k, v => ∃ z, v = .int k z ∧ (Lit.int k z).wf = true
  | .str, v => ∃ l : List UInt8, v = .string (str l) ∧ l.length ≤ maxLen
  | .bool, v => ∃ b, v = .bool b
  | .bytes, v => ∃ (a : Option Addr) (c : Nat) (bs : List UInt8), v = .slice a bs.length c ∧ bs.length ≤ c ∧ c ≤ maxLen ∧ Rd 1 [C] a bs.length (bs.map b8)
def RowW (C : Chunk) : List FK → List Value → Prop
  | [], [] => True
  | k :: ks, v :: vs => FieldW C k v ∧ RowW C ks vs
  | _, _ => False
def RowsK (C : Chunk) (ks : List FK) (v : Value) (rows : List (List Value)) : Prop :=
  ∃ a cap, v = .slice a rows.length cap ∧ rows.length ≤ cap ∧ cap ≤ maxLen ∧ Rd ks.length [C] a rows.length rows.flatten ∧ ∀ r ∈ rows, RowW C ks r

def fkB (P : Program) (t : TypeId) : FK → Bool
  | .int k => match P.underlying t with | some (.int k') => k' == k && P.cellsOf t == 1 | _ => false
  | .str => match P.underlying t with | some .string => P.cellsOf t == 1 | _ => false
  | .bool => match P.underlying t with | some .bool => P.cellsOf t == 1 | _ => false
  | .bytes => match P.underlying t with | some (.slice e) => (match P.underlying e with | some (.int k) => k == .u8 && P.cellsOf e == 1 && P.cellsOf t == 1 | _ => false) | _ => false
def fieldsB (P : Program) : Nat → List Field → List FK → Bool
  | _, [], [] => true
  | i, f :: fs, k :: ks => f.offset == i && (fkB P f.type k && fieldsB P (i + 1) fs ks)
  | _, _, _ => false
def rowB (P : Program) (e : TypeId) (ks : List FK) : Bool :=
  match P.underlying e with
  | some (.struct fs) => fieldsB P 0 fs.toList ks && (P.cellsOf e == ks.length && decide (0 < ks.length))
  | _ => false

section
variable {H : Type} {enc : TypeId × Value → H} {W : World} {C : Chunk}

theorem bytes_field {t e : TypeId} {fuel : Nat} {cs : List Value} {x : DataW H × List MemPlace} (ht : P.underlying t = some (.slice e)) (he : P.underlying e = some (.int .u8)) (hc : P.cellsOf e = 1) (hC : ∀ k o, W.heap[k]? = some o → (k, o) ∈ C)
    (h : DataW.trod enc P W 0 (fun _ => true) true fuel t cs = some x) : ∃ v, cs = [v] ∧ FieldW C .bytes v := by
  rcases open_ints ht he hc h with ⟨hcs, _⟩ | ⟨a, len, cap, zs, hcs, _, hle, hmax, hall, hx, hcell, hwf⟩
  · exact ⟨_, hcs, none, 0, [], rfl, Nat.le_refl _, Nat.zero_le _, Rd.nil⟩
  · simp only [if_true] at hall
    have hl : ((zs.take len).map fun z => UInt8.ofNat z.toNat).length = len := by simp; omega
    refine ⟨_, hcs, some a, cap, (zs.take len).map fun z => UInt8.ofNat z.toNat, by rw [hl], by rw [hl]; exact hle, hmax, ?_⟩
    have q := rd_cells (w := W) (a := a) (us := ((zs.take len).map fun z => UInt8.ofNat z.toNat).map b8) hC (fun c v hv => by
      simp only [List.getElem?_map, List.getElem?_take] at hv
      by_cases hc : c < len
      · rw [if_pos hc, List.getElem?_eq_getElem (by omega)] at hv
        simp only [Option.map_some, Option.some.injEq] at hv
        rw [hcell c (by omega), ← hv]
        have hw := hwf zs[c] (List.getElem_mem _)
        simp only [Lit.wf, Bool.and_eq_true, decide_eq_true_eq] at hw
        have hw2 : 0 ≤ zs[c] ∧ zs[c] ≤ 255 := ⟨hw.1, hw.2⟩
        rw [List.getD, List.getElem?_eq_getElem (by omega)]
        simp only [Option.getD_some, b8, UInt8.toNat_ofNat']
        congr 2; omega
      · rw [if_neg hc] at hv; simp at hv)
    rw [List.length_map] at q
    exact q

theorem one_field {t : TypeId} {k : FK} {fuel : Nat} {cs : List Value} {x : DataW H × List MemPlace} (hk : fkB P t k = true) (hC : ∀ k o, W.heap[k]? = some o → (k, o) ∈ C) (h : DataW.trod enc P W 0 (fun _ => true) true fuel t cs = some x) :
    ∃ v, cs = [v] ∧ FieldW C k v ∧ P.cellsOf t = 1 := by
  cases k with
  | int k =>
    simp only [fkB] at hk
    split at hk
    · rename_i k' hu
      simp only [Bool.and_eq_true, beq_iff_eq] at hk
      obtain ⟨rfl, hc⟩ := hk
      obtain ⟨n, rfl, _, hw⟩ := DataW.trod_int hu h
      exact ⟨_, rfl, ⟨n, rfl, hw⟩, hc⟩
    · cases hk
  | str =>
    simp only [fkB] at hk
    split at hk
    · rename_i hu
      simp only [beq_iff_eq] at hk
      obtain ⟨s, rfl, _, hw⟩ := DataW.trod_string hu h
      exact ⟨_, rfl, ⟨s.data.toList, rfl, by simpa using hw⟩, hk⟩
    · cases hk
  | bool =>
    simp only [fkB] at hk
    split at hk
    · rename_i hu
      simp only [beq_iff_eq] at hk
      obtain ⟨b, rfl, _⟩ := DataW.trod_bool hu h
      exact ⟨_, rfl, ⟨b, rfl⟩, hk⟩
    · cases hk
  | bytes =>
    simp only [fkB] at hk
    split at hk
    · rename_i e hu
      split at hk
      · rename_i k' hu2
        simp only [Bool.and_eq_true, beq_iff_eq] at hk
        obtain ⟨⟨rfl, h1⟩, h2⟩ := hk
        obtain ⟨v, h3, h4⟩ := bytes_field hu hu2 h1 hC h
        exact ⟨v, h3, h4, h2⟩
      · cases hk
    · cases hk

theorem fields_row (hC : ∀ k o, W.heap[k]? = some o → (k, o) ∈ C) {cs : List Value} {n : Nat} : ∀ (fs : List Field) (ks : List FK) (i : Nat), fieldsB P i fs ks = true → cs.length = i + ks.length →
    (∀ (j : Nat) (f : Field), fs[j]? = some f → ∃ x, DataW.trod enc P W 0 (fun _ => true) true n f.type ((cs.drop f.offset).take (P.cellsOf f.type)) = some x) → RowW C ks (cs.drop i)
  | [], [], i, _, hl, _ => by rw [List.drop_of_length_le (by simpa using Nat.le_of_eq hl)]; trivial
  | [], _ :: _, _, h, _, _ => by cases h
  | _ :: _, [], _, h, _, _ => by cases h
  | f :: fs, k :: ks, i, h, hl, hf => by
    simp only [fieldsB, Bool.and_eq_true, beq_iff_eq] at h
    obtain ⟨ho, hk, hr⟩ := h
    obtain ⟨x, hx⟩ := hf 0 f rfl
    obtain ⟨v, h1, h2, h3⟩ := one_field hk hC hx
    rw [h3, ho] at h1
    have hi : i < cs.length := by rw [hl]; simp
    rw [List.drop_eq_getElem_cons hi] at h1 ⊢
    simp only [List.take_succ_cons, List.take_zero, List.cons.injEq, and_true] at h1
    rw [h1]
    exact ⟨h2, fields_row hC fs ks (i + 1) hr (by rw [hl, List.length_cons]; omega) fun j g hg => hf (j + 1) g hg⟩

theorem open_rows {base : Nat} {t e : TypeId} {ks : List FK} {v : Value} {d : DataW H} {ps : List MemPlace} (ht : P.underlying t = some (.slice e)) (hr : rowB P e ks = true) (hval : Value.okWide P W .any base t v)
    (h : DataW.Trod enc P W 0 (fun _ => true) true t v d ps) : ∃ rows, ∀ C : Chunk, (∀ k o, W.heap[k]? = some o → (k, o) ∈ C) → RowsK C ks v rows := by
  obtain ⟨a0, len0, cap0, rfl⟩ := okWide_slice ht hval
  obtain ⟨fuel, hf⟩ := h
  unfold rowB at hr
  split at hr
  · rename_i fs hu
    simp only [Bool.and_eq_true, beq_iff_eq, decide_eq_true_eq] at hr
    obtain ⟨hfs, hce, hpos⟩ := hr
    rcases DataW.trod_slice ht hf with ⟨hcs, _⟩ | ⟨a, len, cap, elems, rest, n, _, hcs, _, _, hle, hmax, hlen, hel, _⟩
    · simp [Value.cells] at hcs
      obtain ⟨rfl, rfl, rfl⟩ := hcs
      exact ⟨[], fun C hC => ⟨none, 0, rfl, Nat.le_refl _, Nat.zero_le _, ⟨by simp, by simp⟩, by simp⟩⟩
    · simp [Value.cells] at hcs
      obtain ⟨rfl, rfl, rfl⟩ := hcs
      have key : ∀ i, i < len0 → ∃ cs y, W.cells? 0 (a.add (i * ks.length)) ks.length = some cs ∧ DataW.trod enc P W 0 (fun _ => true) true n e cs = some y := by
        intro i hi
        have h1 := hel i hi
        rw [hce, List.getElem?_eq_getElem (by omega), Option.bind_eq_some_iff] at h1
        obtain ⟨cs, h2, h3⟩ := h1
        exact ⟨cs, _, h2, h3⟩
      let g : Nat → List Value := fun i => if i < len0 then (W.cells? 0 (a.add (i * ks.length)) ks.length).getD [] else List.replicate ks.length undef
      have hg : ∀ i, i < len0 → W.cells? 0 (a.add (i * ks.length)) ks.length = some (g i) := by
        intro i hi
        obtain ⟨cs, _, h1, _⟩ := key i hi
        simp only [g, if_pos hi, h1, Option.getD_some]
      have hgl : ∀ i, (g i).length = ks.length := by
        intro i
        by_cases hi : i < len0
        · exact (World.cells?_some (hg i hi)).2.1
        · simp only [g, if_neg hi, List.length_replicate]
      refine ⟨(List.range len0).map g, fun C hC => ⟨some a, cap0, by simp, by simpa using hle, hmax, ⟨?_, ?_⟩, ?_⟩⟩
      · rw [← List.flatMap_def, flat_len g ks.length hgl]; simp
      · intro hne
        refine (rd_cells (w := W) (a := a) (us := ((List.range len0).map g).flatten) hC (fun i v hv => ?_)).2 hne
        rw [← List.flatMap_def] at hv
        have hi := (List.getElem?_eq_some_iff.1 hv).1
        rw [flat_len g ks.length hgl, List.length_range] at hi
        have hq : i / ks.length < len0 := Nat.div_lt_of_lt_mul (by rw [Nat.mul_comm]; exact hi)
        have hm : i % ks.length < ks.length := Nat.mod_lt _ hpos
        have hdm : i / ks.length * ks.length + i % ks.length = i := by rw [Nat.mul_comm]; exact Nat.div_add_mod i ks.length
        have h1 := flat_get g ks.length hgl (List.range len0) (i / ks.length) (i % ks.length) (by simpa using hq) hm
        rw [hdm, hv, List.getElem_range] at h1
        have h2 := (World.cells?_some (hg _ hq)).2.2 _ hm
        rw [add_add, hdm] at h2
        rw [h2, h1]
      · intro r hr
        obtain ⟨i, hi, rfl⟩ := List.mem_map.1 hr
        have hi := List.mem_range.1 hi
        obtain ⟨cs, y, h1, h2⟩ := key i hi
        have e1 : cs = g i := by have := hg i hi; rw [h1] at this; exact Option.some.inj this
        subst e1
        obtain ⟨xs, m, rfl, _, _, hxl, hfld⟩ := DataW.trod_struct hu h2
        have := fields_row (enc := enc) (P := P) hC (cs := g i) (n := m) fs.toList ks 0 hfs (by rw [hgl]; omega) (fun j f hj => by
          have hj' : fs[j]? = some f := by simpa using hj
          have := hfld j f hj'
          have hjl : j < xs.length := by rw [hxl]; exact (Array.getElem?_eq_some_iff.1 hj').1
          rw [List.getElem?_eq_getElem hjl] at this
          exact ⟨_, this⟩)
        simpa using this
  · cases hr
end

end Go.Ost

/- Parts of elements: a structure within a structure. Conditions: as each says. -/
set_option linter.unusedSimpArgs false
set_option linter.unusedVariables false
namespace Go.Ost
open Go

variable {P : Program}

section rows
variable {α : Type} (enc : α → List Value) (s : Nat) (hs : ∀ x, (enc x).length = s)
include hs
theorem flat_parts (l : List α) (i : Nat) (h : i < l.length) : l.flatMap enc = (l.take i).flatMap enc ++ (enc l[i] ++ (l.drop (i + 1)).flatMap enc) ∧ ((l.take i).flatMap enc).length = i * s := by
  refine ⟨?_, ?_⟩
  · conv => lhs; rw [← List.take_append_drop i l, List.flatMap_append, List.drop_eq_getElem_cons h, List.flatMap_cons]
  · rw [flat_len enc s hs, List.length_take]; congr 1; omega
theorem flat_sub (l : List α) (i off n : Nat) (h : i < l.length) (hn : off + n ≤ s) : ((l.flatMap enc).drop (i * s + off)).take n = ((enc l[i]).drop off).take n := by
  obtain ⟨e1, e2⟩ := flat_parts enc s hs l i h
  rw [e1, ← e2, ← List.drop_drop, List.drop_left' rfl, List.drop_append_of_le_length (by rw [hs]; omega), List.take_append_of_le_length (by rw [List.length_drop, hs]; omega)]
theorem flat_setL_sub (l : List α) (i off : Nat) (vs : List Value) (h : i < l.length) (hn : off + vs.length ≤ s) (x' : α) (hx : (enc l[i]).take off ++ (vs ++ (enc l[i]).drop (off + vs.length)) = enc x') :
    setL (l.flatMap enc) (i * s + off) vs = (l.set i x').flatMap enc := by
  obtain ⟨e1, e2⟩ := flat_parts enc s hs l i h
  have e3 : enc l[i] = (enc l[i]).take off ++ (((enc l[i]).drop off).take vs.length ++ (enc l[i]).drop (off + vs.length)) := by
    conv => lhs; rw [← List.take_append_drop off (enc l[i]), ← List.take_append_drop vs.length ((enc l[i]).drop off), List.drop_drop]
  have e4 : l.flatMap enc = ((l.take i).flatMap enc ++ (enc l[i]).take off) ++ (((enc l[i]).drop off).take vs.length ++ ((enc l[i]).drop (off + vs.length) ++ (l.drop (i + 1)).flatMap enc)) := by
    rw [e1]; conv => lhs; rw [e3]
    simp only [List.append_assoc]
  have e5 : ((l.take i).flatMap enc ++ (enc l[i]).take off).length = i * s + off := by
    rw [List.length_append, e2, List.length_take, hs]; omega
  rw [e4, ← e5, setL_app vs _ _ _ (by rw [List.length_take, List.length_drop, hs]; omega), List.set_eq_take_append_cons_drop, if_pos h, List.flatMap_append, List.flatMap_cons, ← hx]
  simp only [List.append_assoc]
end rows

section facts
variable {a : Option Addr} {len cap : Nat} {H : Chunk} {κ : Value → Prop} {t e' : TypeId} {z : Value} {s n b2 : Nat} {α : Type} {enc : α → List Value} {l : List α} {x x' : α} {i off : Nat} {S G : State} {vs : List Value}
theorem load_el_sub [TDeep P t] [TSized P t z n b2] (ho : Own s e' H a len cap (l.flatMap enc)) (hs : ∀ x, (enc x).length = s) (hx : l[i]? = some x) (h0 : 0 < n) (hn : off + n ≤ s) (hw : ((enc x).drop off).take n = vs) (hH : H ∈ S) (q : κ (.agg vs.toArray)) :
    ReadW P (Instr.loadAt t (.pointer (some (elA a (i * s + off))))) S κ := by
  have hi := (List.getElem?_eq_some_iff.1 hx).1
  refine el_load_agg (ho.rd hH) h0 ?_ ?_
  · rw [flat_len enc s hs]
    have : (i + 1) * s ≤ l.length * s := Nat.mul_le_mul_right s hi
    rw [Nat.add_mul] at this; omega
  · rw [flat_sub enc s hs l i off n hi hn, List.getElem?_eq_some_iff.1 hx |>.2, hw]; exact q
theorem store_el_sub {κ : State → Prop} [TSized P t z n b2] (ho : Own s e' H a len cap (l.flatMap enc)) (hp : Pick H S G) (hs : ∀ x, (enc x).length = s) (hx : l[i]? = some x) (h0 : 0 < n) (hvs : vs.length = n) (hc : ∀ u ∈ vs, Value.cell1 u) (hn : off + n ≤ s)
    (hv : (enc x).take off ++ (vs ++ (enc x).drop (off + n)) = enc x') (q : ∀ C', Own s e' C' a len cap ((l.set i x').flatMap enc) → κ (C' :: G)) : UnitW P (Instr.storeAt t (.pointer (some (elA a (i * s + off)))) (.agg vs.toArray)) S κ := by
  have hi := (List.getElem?_eq_some_iff.1 hx).1
  refine own_store_agg ho hp h0 hvs hc ?_ (fun C' h => q C' ?_)
  · rw [flat_len enc s hs]
    have : (i + 1) * s ≤ l.length * s := Nat.mul_le_mul_right s hi
    rw [Nat.add_mul] at this; omega
  · rw [flat_setL_sub enc s hs l i off vs hi (by omega) x' (by rw [List.getElem?_eq_some_iff.1 hx |>.2, hvs]; exact hv)] at h
    exact h
theorem load_rd_agg [TDeep P t] [TSized P t z s b2]
    (hr : Rd s [H] a len (l.flatMap enc)) (hs : ∀ x, (enc x).length = s) (hx : l[i]? = some x) (hp : 0 < s) (hH : H ∈ S) (q : κ (.agg (enc x).toArray)) : ReadW P (Instr.loadAt t (.pointer (some (elA a (i * s))))) S κ := by
  have hi := (List.getElem?_eq_some_iff.1 hx).1
  refine el_load_agg (hr.mem hH) hp ?_ ?_
  · rw [flat_len enc s hs]
    have : (i + 1) * s ≤ l.length * s := Nat.mul_le_mul_right s hi
    rw [Nat.add_mul] at this; omega
  · rw [flat_el enc s hs l i hi, List.getElem?_eq_some_iff.1 hx |>.2]; exact q
theorem alloc_as {κ : Value → State → Prop} {by_ : Nat} [hs : TSized P t z s by_] (cs : Array Value) (hz : z.cells = cs) (k : ∀ b : Nat, κ (.pointer (some ⟨b, 0, none⟩)) ([(b, .cells cs t (0, 0))] :: S)) : ValW P (Instr.alloc t true (.tuple #[])) S κ :=
  alloc_new fun b => by rw [hz]; exact k b
end facts

end Go.Ost

/- What the types of this program are, each by the reckoning of its tables. Conditions: none. -/
namespace Go.Proofs.Ytkgnhhpgnkkigaa
open Go.Ost
-- 3 int
instance : TInt Try.prog 3 .i64 := ⟨by kernel_rfl⟩
instance : TSized Try.prog 3 (.int .i64 0) 1 8 := ⟨by kernel_rfl⟩
instance : TFlat Try.prog 3 := ⟨by kernel_rfl⟩
-- 4 bool
instance : TBool Try.prog 4 := ⟨by kernel_rfl⟩
instance : TSized Try.prog 4 (.bool false) 1 1 := ⟨by kernel_rfl⟩
instance : TFlat Try.prog 4 := ⟨by kernel_rfl⟩
-- 5 uint8
instance : TInt Try.prog 5 .u8 := ⟨by kernel_rfl⟩
instance : TSized Try.prog 5 (.int .u8 0) 1 1 := ⟨by kernel_rfl⟩
instance : TFlat Try.prog 5 := ⟨by kernel_rfl⟩
-- 9 string
instance : TStr Try.prog 9 := ⟨by kernel_rfl⟩
instance : TSized Try.prog 9 (.string ⟨#[]⟩) 1 16 := ⟨by kernel_rfl⟩
instance : TFlat Try.prog 9 := ⟨by kernel_rfl⟩
-- 23 *table.Table[int]
instance : TPtr Try.prog 23 55 := ⟨by kernel_rfl⟩
instance : TSized Try.prog 23 (.pointer none) 1 8 := ⟨by kernel_rfl⟩
instance : TFlat Try.prog 23 := ⟨by kernel_rfl⟩
-- 24 api.Errno
instance : TInt Try.prog 24 .i64 := ⟨by kernel_rfl⟩
instance : TSized Try.prog 24 (.int .i64 0) 1 8 := ⟨by kernel_rfl⟩
instance : TFlat Try.prog 24 := ⟨by kernel_rfl⟩
-- 27 []string
instance : TSlice Try.prog 27 9 := ⟨by kernel_rfl⟩
instance : TSized Try.prog 27 (.slice none 0 0) 1 24 := ⟨by kernel_rfl⟩
instance : TFlat Try.prog 27 := ⟨by kernel_rfl⟩
-- 34 []ostiarylaw11.Op
instance : TSlice Try.prog 34 40 := ⟨by kernel_rfl⟩
instance : TSized Try.prog 34 (.slice none 0 0) 1 24 := ⟨by kernel_rfl⟩
instance : TFlat Try.prog 34 := ⟨by kernel_rfl⟩
-- 35 *ostiaryref11.Table
instance : TPtr Try.prog 35 38 := ⟨by kernel_rfl⟩
instance : TSized Try.prog 35 (.pointer none) 1 8 := ⟨by kernel_rfl⟩
instance : TFlat Try.prog 35 := ⟨by kernel_rfl⟩
-- 36 []ostiaryref11.Entry
instance : TSlice Try.prog 36 49 := ⟨by kernel_rfl⟩
instance : TSized Try.prog 36 (.slice none 0 0) 1 24 := ⟨by kernel_rfl⟩
instance : TFlat Try.prog 36 := ⟨by kernel_rfl⟩
-- 38 ostiaryref11.Table
instance : TSized Try.prog 38 (.agg #[.int .i64 0, .slice none 0 0]) 2 32 := ⟨by kernel_rfl⟩
instance : TDeep Try.prog 38 := ⟨by kernel_rfl⟩
instance : TField Try.prog 38 0 0 3 := ⟨by kernel_rfl⟩ -- Room
instance : TField Try.prog 38 1 1 36 := ⟨by kernel_rfl⟩ -- L
-- 40 ostiarylaw11.Op
instance : TSized Try.prog 40 (.agg #[.int .u8 0, .string ⟨#[]⟩, .int .i64 0]) 3 32 := ⟨by kernel_rfl⟩
instance : TDeep Try.prog 40 := ⟨by kernel_rfl⟩
instance : TField Try.prog 40 0 0 5 := ⟨by kernel_rfl⟩ -- Do
instance : TField Try.prog 40 1 1 9 := ⟨by kernel_rfl⟩ -- Key
instance : TField Try.prog 40 2 2 3 := ⟨by kernel_rfl⟩ -- V
-- 49 ostiaryref11.Entry
instance : TSized Try.prog 49 (.agg #[.string ⟨#[]⟩, .int .i64 0]) 2 24 := ⟨by kernel_rfl⟩
instance : TDeep Try.prog 49 := ⟨by kernel_rfl⟩
instance : TField Try.prog 49 0 0 9 := ⟨by kernel_rfl⟩ -- Key
instance : TField Try.prog 49 1 1 3 := ⟨by kernel_rfl⟩ -- V
-- 51 map[string]int
instance : TMap Try.prog 51 9 3 := ⟨by kernel_rfl⟩
instance : TSized Try.prog 51 (.map none) 1 8 := ⟨by kernel_rfl⟩
instance : TFlat Try.prog 51 := ⟨by kernel_rfl⟩
-- 52 []table.entry[int]
instance : TSlice Try.prog 52 58 := ⟨by kernel_rfl⟩
instance : TSized Try.prog 52 (.slice none 0 0) 1 24 := ⟨by kernel_rfl⟩
instance : TFlat Try.prog 52 := ⟨by kernel_rfl⟩
-- 53 []int
instance : TSlice Try.prog 53 3 := ⟨by kernel_rfl⟩
instance : TSized Try.prog 53 (.slice none 0 0) 1 24 := ⟨by kernel_rfl⟩
instance : TFlat Try.prog 53 := ⟨by kernel_rfl⟩
-- 55 table.Table[int]
instance : TSized Try.prog 55 (.agg #[.int .i64 0, .slice none 0 0, .slice none 0 0, .map none, .int .i64 0, .int .i64 0]) 6 80 := ⟨by kernel_rfl⟩
instance : TDeep Try.prog 55 := ⟨by kernel_rfl⟩
instance : TField Try.prog 55 0 0 3 := ⟨by kernel_rfl⟩ -- room
instance : TField Try.prog 55 1 1 52 := ⟨by kernel_rfl⟩ -- l
instance : TField Try.prog 55 2 2 53 := ⟨by kernel_rfl⟩ -- free
instance : TField Try.prog 55 3 3 51 := ⟨by kernel_rfl⟩ -- at
instance : TField Try.prog 55 4 4 3 := ⟨by kernel_rfl⟩ -- first
instance : TField Try.prog 55 5 5 3 := ⟨by kernel_rfl⟩ -- last
-- 58 table.entry[int]
instance : TSized Try.prog 58 (.agg #[.string ⟨#[]⟩, .int .i64 0, .int .i64 0, .int .i64 0]) 4 40 := ⟨by kernel_rfl⟩
instance : TDeep Try.prog 58 := ⟨by kernel_rfl⟩
instance : TField Try.prog 58 0 0 9 := ⟨by kernel_rfl⟩ -- key
instance : TField Try.prog 58 1 1 3 := ⟨by kernel_rfl⟩ -- v
instance : TField Try.prog 58 2 2 3 := ⟨by kernel_rfl⟩ -- ahead
instance : TField Try.prog 58 3 3 3 := ⟨by kernel_rfl⟩ -- next
-- 63 func(string, int) bool
instance : TSized Try.prog 63 (.nilFunc) 1 8 := ⟨by kernel_rfl⟩
instance : TFlat Try.prog 63 := ⟨by kernel_rfl⟩
end Go.Proofs.Ytkgnhhpgnkkigaa

/- A table's places, its row. Conditions: as each says. -/
set_option linter.unusedSimpArgs false
set_option linter.unusedVariables false
namespace Go.Proofs.Ytkgnhhpgnkkigaa
open Go Go.Ost Go.Tab

/-- A table's block; an entry's cells. -/
abbrev tabO (room : Int) (la : Option Addr) (ll lc : Nat) (fa : Option Addr) (fl fc r : Nat) (first last : Int) : Obj :=
  .cells #[.int .i64 room, .slice la ll lc, .slice fa fl fc, .map (some r), .int .i64 first, .int .i64 last] 55 (0, 0)
def encE (e : En Int) : List Value := [.string (str e.key), .int .i64 e.v, .int .i64 e.ahead, .int .i64 e.next]
theorem encE_len (e : En Int) : (encE e).length = 4 := rfl
abbrev OwnE (C : Chunk) (a : Option Addr) (cap : Nat) (l : List (En Int)) : Prop := Ost.Own 4 58 C a l.length cap (l.flatMap encE)
abbrev nat64 (i : Nat) : Value := .int .i64 i
abbrev IsAt (C : Chunk) (r : Nat) (m : List (List UInt8 × Nat)) : Prop := IsMap C r (mval nat64 m)

theorem place_nil (k : List UInt8) : Meets Try.prog 19 [.pointer none, .string (str k)] [] fun v A => v = .int .i64 (-1) ∧ A = [] := by
  refine spec_intro Try.func19 rfl (by kernel_rfl) (by rw [Try.ntmps19]; simp) fun F => ?_; rw [Try.ntmps19, Try.results19]
  (repeat (first | (with_reducible refine then_n ?_) | (with_reducible refine then_r ?_) | (with_reducible refine then_e ?_) | (with_reducible refine block_n ?_) | (with_reducible refine block_r ?_) | (with_reducible refine block_e ?_) | refine block_o ?_ | (with_reducible refine scope_n ?_) | (with_reducible refine scope_r ?_) | (with_reducible refine scope_e ?_) | (with_reducible refine code_seq ?_) | (with_reducible refine code_skip ?_) | (with_reducible refine code_label ?_) | (with_reducible refine code_block ?_) | (with_reducible refine code_scope ?_) | (with_reducible refine code_exit ?_) | (with_reducible refine code_ret ?_) | refine regq_to ?_ | (with_reducible refine run_nil ?_) | ((with_reducible refine run_probe ?_); refine runq_more ?_) | (with_reducible refine draw_nil ?_) | ((with_reducible refine draw_probe ?_); (first | refine drawq_more ?_ | refine drawq_as ?_)) | refine code_then ?_ | refine code_else ?_))
  refine back_tmp [] ?_; exact ⟨rfl, rfl⟩

theorem place_spec (b : Nat) (room : Int) (la : Option Addr) (ll lc : Nat) (fa : Option Addr) (fl fc r : Nat) (first last : Int) (M : Chunk) (m : List (List UInt8 × Nat)) (hm : IsAt M r m) (k : List UInt8) :
    Meets Try.prog 19 [.pointer (some ⟨b, 0, none⟩), .string (str k)] [[(b, tabO room la ll lc fa fl fc r first last)], M]
      fun v A => v = .int .i64 (match mget m k with | some i => (i : Int) | none => -1) ∧ A = [[(b, tabO room la ll lc fa fl fc r first last)], M] := by
  refine spec_intro Try.func19 rfl (by kernel_rfl) (by rw [Try.ntmps19]; simp) fun F => ?_; rw [Try.ntmps19, Try.results19]
  (repeat (first | (with_reducible refine then_n ?_) | (with_reducible refine then_r ?_) | (with_reducible refine then_e ?_) | (with_reducible refine block_n ?_) | (with_reducible refine block_r ?_) | (with_reducible refine block_e ?_) | refine block_o ?_ | (with_reducible refine scope_n ?_) | (with_reducible refine scope_r ?_) | (with_reducible refine scope_e ?_) | (with_reducible refine code_seq ?_) | (with_reducible refine code_skip ?_) | (with_reducible refine code_label ?_) | (with_reducible refine code_block ?_) | (with_reducible refine code_scope ?_) | (with_reducible refine code_exit ?_) | (with_reducible refine code_ret ?_) | refine regq_to ?_ | (with_reducible refine run_nil ?_) | ((with_reducible refine run_probe ?_); refine runq_more ?_) | (with_reducible refine draw_nil ?_) | ((with_reducible refine draw_probe ?_); (first | refine drawq_more ?_ | refine drawq_as ?_)) | refine code_then ?_ | refine code_else ?_))
  rw [mget_val]
  cases hg : mget m k with
  | none =>
    (repeat (first | (with_reducible refine then_n ?_) | (with_reducible refine then_r ?_) | (with_reducible refine then_e ?_) | (with_reducible refine block_n ?_) | (with_reducible refine block_r ?_) | (with_reducible refine block_e ?_) | refine block_o ?_ | (with_reducible refine scope_n ?_) | (with_reducible refine scope_r ?_) | (with_reducible refine scope_e ?_) | (with_reducible refine code_seq ?_) | (with_reducible refine code_skip ?_) | (with_reducible refine code_label ?_) | (with_reducible refine code_block ?_) | (with_reducible refine code_scope ?_) | (with_reducible refine code_exit ?_) | (with_reducible refine code_ret ?_) | refine regq_to ?_ | (with_reducible refine run_nil ?_) | ((with_reducible refine run_probe ?_); refine runq_more ?_) | (with_reducible refine draw_nil ?_) | ((with_reducible refine draw_probe ?_); (first | refine drawq_more ?_ | refine drawq_as ?_)) | refine code_then ?_ | refine code_else ?_))
    refine back_tmp [[(b, tabO room la ll lc fa fl fc r first last)], M] ?_; exact ⟨rfl, rfl⟩
  | some i =>
    (repeat (first | (with_reducible refine then_n ?_) | (with_reducible refine then_r ?_) | (with_reducible refine then_e ?_) | (with_reducible refine block_n ?_) | (with_reducible refine block_r ?_) | (with_reducible refine block_e ?_) | refine block_o ?_ | (with_reducible refine scope_n ?_) | (with_reducible refine scope_r ?_) | (with_reducible refine scope_e ?_) | (with_reducible refine code_seq ?_) | (with_reducible refine code_skip ?_) | (with_reducible refine code_label ?_) | (with_reducible refine code_block ?_) | (with_reducible refine code_scope ?_) | (with_reducible refine code_exit ?_) | (with_reducible refine code_ret ?_) | refine regq_to ?_ | (with_reducible refine run_nil ?_) | ((with_reducible refine run_probe ?_); refine runq_more ?_) | (with_reducible refine draw_nil ?_) | ((with_reducible refine draw_probe ?_); (first | refine drawq_more ?_ | refine drawq_as ?_)) | refine code_then ?_ | refine code_else ?_))
    refine back_tmp [[(b, tabO room la ll lc fa fl fc r first last)], M] ?_; exact ⟨rfl, rfl⟩

theorem set_modify {α : Type} (l : List α) (i : Nat) (x : α) (f : α → α) (h : l[i]? = some x) : l.set i (f x) = l.modify i f := by
  apply List.ext_getElem?
  intro j
  rw [List.getElem?_set, List.getElem?_modify]
  have hi := (List.getElem?_eq_some_iff.1 h).1
  by_cases hj : i = j
  · subst hj
    rw [if_pos rfl, if_pos hi, h]; simp
  · simp [hj]
theorem setA_set {l : List (En Int)} {i : Nat} {e : En Int} (a : Int) (h : l[i]? = some e) : l.set i { e with ahead := a } = setA l i a := set_modify l i e (fun e => { e with ahead := a }) h
theorem setN_set {l : List (En Int)} {i : Nat} {e : En Int} (a : Int) (h : l[i]? = some e) : l.set i { e with next := a } = setN l i a := set_modify l i e (fun e => { e with next := a }) h
theorem setV_set {l : List (En Int)} {i : Nat} {e : En Int} (a : Int) (h : l[i]? = some e) : l.set i { e with v := a } = setV l i a := set_modify l i e (fun e => { e with v := a }) h

theorem hang_spec (b : Nat) (room : Int) (la : Option Addr) (lc : Nat) (fa : Option Addr) (fl fc r : Nat) (first last : Int) (C : Chunk) (l : List (En Int)) (ho : OwnE C la lc l) (i : Nat) (hi : i < l.length) (hl : last = -1 ∨ ∃ j : Nat, last = j ∧ j < l.length) :
    Meets Try.prog 20 [.pointer (some ⟨b, 0, none⟩), .int .i64 i] [[(b, tabO room la l.length lc fa fl fc r first last)], C]
      fun v A => ∃ C', OwnE C' la lc (haL l i last) ∧ A = [[(b, tabO room la l.length lc fa fl fc r (haF first last i) i)], C'] := by
  have hs := encE_len
  have hx : l[i]? = some l[i] := List.getElem?_eq_getElem hi
  refine spec_intro Try.func20 rfl (by kernel_rfl) (by rw [Try.ntmps20]; simp) fun F => ?_; rw [Try.ntmps20, Try.results20]
  (repeat (first | (with_reducible refine then_n ?_) | (with_reducible refine then_r ?_) | (with_reducible refine then_e ?_) | (with_reducible refine block_n ?_) | (with_reducible refine block_r ?_) | (with_reducible refine block_e ?_) | refine block_o ?_ | (with_reducible refine scope_n ?_) | (with_reducible refine scope_r ?_) | (with_reducible refine scope_e ?_) | (with_reducible refine code_seq ?_) | (with_reducible refine code_skip ?_) | (with_reducible refine code_label ?_) | (with_reducible refine code_block ?_) | (with_reducible refine code_scope ?_) | (with_reducible refine code_exit ?_) | (with_reducible refine code_ret ?_) | refine regq_to ?_ | (with_reducible refine run_nil ?_) | ((with_reducible refine run_probe ?_); refine runq_more ?_) | (with_reducible refine draw_nil ?_) | ((with_reducible refine draw_probe ?_); (first | refine drawq_more ?_ | refine drawq_as ?_)) | refine code_then ?_ | refine code_else ?_))
  refine code_dr [[], [0], [0, 1], [0, 1, 2], [], [], [5], [5, 6], [5, 6, 7], [], [], [10], [10, 11], [10, 11, 12], [0, 1, 2, 3, 4, 5, 6, 7, 8, 10, 11, 12, 13], [0, 1, 2, 3, 4, 5, 6, 7, 8, 10, 11, 12, 13, 14], [0, 1, 2, 3, 4, 5, 6, 7, 8, 10, 11, 12, 13, 14, 15], [0, 1, 2, 3, 4, 5, 6, 7, 8, 9, 10, 11, 12, 13, 14, 15, 16], [0, 1, 2, 3, 4, 5, 6, 7, 8, 9, 10, 11, 12, 13, 14, 15, 16, 17], [0, 1, 2, 3, 4, 5, 6, 7, 8, 9, 10, 11, 12, 13, 14, 15, 16, 17, 18]] [(0, false, []), (1, false, []), (2, false, []), (3, false, []), (4, false, []), (5, false, []), (6, false, []), (7, false, []), (8, false, []), (9, false, []), (10, false, []), (11, false, []), (12, false, []), (13, false, []), (14, false, []), (15, false, []), (16, true, []), (17, false, []), (18, false, []), (19, true, [])] ?_
  (repeat (first | (with_reducible refine then_n ?_) | (with_reducible refine then_r ?_) | (with_reducible refine then_e ?_) | (with_reducible refine block_n ?_) | (with_reducible refine block_r ?_) | (with_reducible refine block_e ?_) | refine block_o ?_ | (with_reducible refine scope_n ?_) | (with_reducible refine scope_r ?_) | (with_reducible refine scope_e ?_) | (with_reducible refine code_seq ?_) | (with_reducible refine code_skip ?_) | (with_reducible refine code_label ?_) | (with_reducible refine code_block ?_) | (with_reducible refine code_scope ?_) | (with_reducible refine code_exit ?_) | (with_reducible refine code_ret ?_) | refine regq_to ?_ | (with_reducible refine run_nil ?_) | ((with_reducible refine run_probe ?_); refine runq_more ?_) | (with_reducible refine draw_nil ?_) | ((with_reducible refine draw_probe ?_); (first | refine drawq_more ?_ | refine drawq_as ?_)) | refine code_then ?_ | refine code_else ?_))
  refine draw_op fun K hK => ?_; refine store_el ho (by (repeat (first | with_reducible exact Pick.head _ _ | with_reducible apply Pick.tail))) hs hx trivial (x' := { l[i] with ahead := last }) rfl (by decide) (fun C1 ho1 => ?_); (repeat refine pendq ?_); refine hK _ _ ?_; clear hK K
  rw [setA_set last hx] at ho1
  have ho1' : OwnE C1 la lc (setA l i last) := by unfold OwnE; rw [setA_length]; exact ho1
  have hx1 := setA_eq l last hx
  have hll := setA_length l i last
  (repeat (first | (with_reducible refine then_n ?_) | (with_reducible refine then_r ?_) | (with_reducible refine then_e ?_) | (with_reducible refine block_n ?_) | (with_reducible refine block_r ?_) | (with_reducible refine block_e ?_) | refine block_o ?_ | (with_reducible refine scope_n ?_) | (with_reducible refine scope_r ?_) | (with_reducible refine scope_e ?_) | (with_reducible refine code_seq ?_) | (with_reducible refine code_skip ?_) | (with_reducible refine code_label ?_) | (with_reducible refine code_block ?_) | (with_reducible refine code_scope ?_) | (with_reducible refine code_exit ?_) | (with_reducible refine code_ret ?_) | refine regq_to ?_ | (with_reducible refine run_nil ?_) | ((with_reducible refine run_probe ?_); refine runq_more ?_) | (with_reducible refine draw_nil ?_) | ((with_reducible refine draw_probe ?_); (first | refine drawq_more ?_ | refine drawq_as ?_)) | refine code_then ?_ | refine code_else ?_))
  refine draw_op fun K hK => ?_; refine store_el ho1 (by (repeat (first | with_reducible exact Pick.head _ _ | with_reducible apply Pick.tail))) hs hx1 trivial (x' := { l[i] with ahead := last, next := -1 }) rfl (by decide) (fun C2 ho2 => ?_); (repeat refine pendq ?_); refine hK _ _ ?_; clear hK K
  have e2 : (setA l i last).set i { l[i] with ahead := last, next := -1 } = setN (setA l i last) i (-1) := setN_set (-1) hx1
  rw [e2] at ho2
  (repeat (first | (with_reducible refine then_n ?_) | (with_reducible refine then_r ?_) | (with_reducible refine then_e ?_) | (with_reducible refine block_n ?_) | (with_reducible refine block_r ?_) | (with_reducible refine block_e ?_) | refine block_o ?_ | (with_reducible refine scope_n ?_) | (with_reducible refine scope_r ?_) | (with_reducible refine scope_e ?_) | (with_reducible refine code_seq ?_) | (with_reducible refine code_skip ?_) | (with_reducible refine code_label ?_) | (with_reducible refine code_block ?_) | (with_reducible refine code_scope ?_) | (with_reducible refine code_exit ?_) | (with_reducible refine code_ret ?_) | refine regq_to ?_ | (with_reducible refine run_nil ?_) | ((with_reducible refine run_probe ?_); refine runq_more ?_) | (with_reducible refine draw_nil ?_) | ((with_reducible refine draw_probe ?_); (first | refine drawq_more ?_ | refine drawq_as ?_)) | refine code_then ?_ | refine code_else ?_))
  rcases hl with rfl | ⟨j, rfl, hj⟩
  · (repeat (first | (with_reducible refine then_n ?_) | (with_reducible refine then_r ?_) | (with_reducible refine then_e ?_) | (with_reducible refine block_n ?_) | (with_reducible refine block_r ?_) | (with_reducible refine block_e ?_) | refine block_o ?_ | (with_reducible refine scope_n ?_) | (with_reducible refine scope_r ?_) | (with_reducible refine scope_e ?_) | (with_reducible refine code_seq ?_) | (with_reducible refine code_skip ?_) | (with_reducible refine code_label ?_) | (with_reducible refine code_block ?_) | (with_reducible refine code_scope ?_) | (with_reducible refine code_exit ?_) | (with_reducible refine code_ret ?_) | refine regq_to ?_ | (with_reducible refine run_nil ?_) | ((with_reducible refine run_probe ?_); refine runq_more ?_) | (with_reducible refine draw_nil ?_) | ((with_reducible refine draw_probe ?_); (first | refine drawq_more ?_ | refine drawq_as ?_)) | refine code_then ?_ | refine code_else ?_))
    refine back_none_n [[(b, tabO room la l.length lc fa fl fc r i i)], C2] ⟨C2, ?_, rfl⟩
    unfold OwnE; rw [haL_length]; exact ho2
  · (repeat (first | (with_reducible refine then_n ?_) | (with_reducible refine then_r ?_) | (with_reducible refine then_e ?_) | (with_reducible refine block_n ?_) | (with_reducible refine block_r ?_) | (with_reducible refine block_e ?_) | refine block_o ?_ | (with_reducible refine scope_n ?_) | (with_reducible refine scope_r ?_) | (with_reducible refine scope_e ?_) | (with_reducible refine code_seq ?_) | (with_reducible refine code_skip ?_) | (with_reducible refine code_label ?_) | (with_reducible refine code_block ?_) | (with_reducible refine code_scope ?_) | (with_reducible refine code_exit ?_) | (with_reducible refine code_ret ?_) | refine regq_to ?_ | (with_reducible refine run_nil ?_) | ((with_reducible refine run_probe ?_); refine runq_more ?_) | (with_reducible refine draw_nil ?_) | ((with_reducible refine draw_probe ?_); (first | refine drawq_more ?_ | refine drawq_as ?_)) | refine code_then ?_ | refine code_else ?_))
    refine code_dr [[], [0], [0, 1], [0, 1, 2], [], [4], [4, 5], [4, 5, 6], [], [0, 1, 2, 3, 4, 5, 6, 7, 8], [0, 1, 2, 3, 4, 5, 6, 7, 8, 9], [0, 1, 2, 3, 4, 5, 6, 7, 8, 9, 10]] [(0, false, []), (1, false, []), (2, false, []), (3, false, []), (4, false, []), (5, false, []), (6, false, []), (7, false, []), (8, false, []), (9, false, []), (10, false, []), (11, true, [])] ?_
    have hlj : j < (setN (setA l i j) i (-1)).length := by rw [setN_length, setA_length]; exact hj
    have hxj : (setN (setA l i j) i (-1))[j]? = some (setN (setA l i j) i (-1))[j] := List.getElem?_eq_getElem hlj
    (repeat (first | (with_reducible refine then_n ?_) | (with_reducible refine then_r ?_) | (with_reducible refine then_e ?_) | (with_reducible refine block_n ?_) | (with_reducible refine block_r ?_) | (with_reducible refine block_e ?_) | refine block_o ?_ | (with_reducible refine scope_n ?_) | (with_reducible refine scope_r ?_) | (with_reducible refine scope_e ?_) | (with_reducible refine code_seq ?_) | (with_reducible refine code_skip ?_) | (with_reducible refine code_label ?_) | (with_reducible refine code_block ?_) | (with_reducible refine code_scope ?_) | (with_reducible refine code_exit ?_) | (with_reducible refine code_ret ?_) | refine regq_to ?_ | (with_reducible refine run_nil ?_) | ((with_reducible refine run_probe ?_); refine runq_more ?_) | (with_reducible refine draw_nil ?_) | ((with_reducible refine draw_probe ?_); (first | refine drawq_more ?_ | refine drawq_as ?_)) | refine code_then ?_ | refine code_else ?_))
    refine draw_op fun K hK => ?_; refine store_el ho2 (by (repeat (first | with_reducible exact Pick.head _ _ | with_reducible apply Pick.tail))) hs hxj trivial (x' := { (setN (setA l i j) i (-1))[j] with next := i }) rfl (by decide) (fun C3 ho3 => ?_); (repeat refine pendq ?_); refine hK _ _ ?_; clear hK K
    rw [setN_set i hxj] at ho3
    (repeat (first | (with_reducible refine then_n ?_) | (with_reducible refine then_r ?_) | (with_reducible refine then_e ?_) | (with_reducible refine block_n ?_) | (with_reducible refine block_r ?_) | (with_reducible refine block_e ?_) | refine block_o ?_ | (with_reducible refine scope_n ?_) | (with_reducible refine scope_r ?_) | (with_reducible refine scope_e ?_) | (with_reducible refine code_seq ?_) | (with_reducible refine code_skip ?_) | (with_reducible refine code_label ?_) | (with_reducible refine code_block ?_) | (with_reducible refine code_scope ?_) | (with_reducible refine code_exit ?_) | (with_reducible refine code_ret ?_) | refine regq_to ?_ | (with_reducible refine run_nil ?_) | ((with_reducible refine run_probe ?_); refine runq_more ?_) | (with_reducible refine draw_nil ?_) | ((with_reducible refine draw_probe ?_); (first | refine drawq_more ?_ | refine drawq_as ?_)) | refine code_then ?_ | refine code_else ?_))
    refine back_none_n [[(b, tabO room la l.length lc fa fl fc r (haF first j i) i)], C3] ⟨C3, ?_, rfl⟩ (hs := ?_)
    · have e : haL l i j = setN (setN (setA l i j) i (-1)) j i := by
        unfold haL; rw [if_neg (by omega)]; simp
      unfold OwnE; rw [haL_length, e]; exact ho3
    · have e : haF first j i = first := by unfold haF; rw [if_neg (by omega)]
      rw [e]; first | ((repeat (first | with_reducible exact Among.nil _ | with_reducible exact Pick.head _ _ | with_reducible apply Pick.tail | with_reducible apply Among.cons)); done) | ((repeat (first | exact Among.nil _ | exact Pick.head _ _ | apply Pick.tail | apply Among.cons)); done)

end Go.Proofs.Ytkgnhhpgnkkigaa

/- A table: out of the row, how many, another value, a key's value. Conditions: as each says. -/
set_option linter.unusedSimpArgs false
set_option linter.unusedVariables false
namespace Go.Proofs.Ytkgnhhpgnkkigaa
open Go Go.Ost Go.Tab

theorem unhang_spec (b : Nat) (room : Int) (la : Option Addr) (lc : Nat) (fa : Option Addr) (fl fc r : Nat) (first last : Int) (C : Chunk) (l : List (En Int)) (ho : OwnE C la lc l) (i : Nat) (e : En Int) (hx : l[i]? = some e)
    (ha : e.ahead = -1 ∨ ∃ j : Nat, e.ahead = j ∧ j < l.length) (hn : e.next = -1 ∨ ∃ j : Nat, e.next = j ∧ j < l.length) :
    Meets Try.prog 21 [.pointer (some ⟨b, 0, none⟩), .int .i64 i] [[(b, tabO room la l.length lc fa fl fc r first last)], C]
      fun v A => ∃ C', OwnE C' la lc (unL l e.ahead e.next) ∧ A = [[(b, tabO room la l.length lc fa fl fc r (unF first e.ahead e.next) (unE last e.ahead e.next))], C'] := by
  have hs := encE_len
  have hi := (List.getElem?_eq_some_iff.1 hx).1
  obtain ⟨key, v, a, n⟩ := e
  simp only at ha hn ⊢
  refine spec_intro Try.func21 rfl (by kernel_rfl) (by rw [Try.ntmps21]; simp) fun F => ?_; rw [Try.ntmps21, Try.results21]
  (repeat (first | (with_reducible refine then_n ?_) | (with_reducible refine then_r ?_) | (with_reducible refine then_e ?_) | (with_reducible refine block_n ?_) | (with_reducible refine block_r ?_) | (with_reducible refine block_e ?_) | refine block_o ?_ | (with_reducible refine scope_n ?_) | (with_reducible refine scope_r ?_) | (with_reducible refine scope_e ?_) | (with_reducible refine code_seq ?_) | (with_reducible refine code_skip ?_) | (with_reducible refine code_label ?_) | (with_reducible refine code_block ?_) | (with_reducible refine code_scope ?_) | (with_reducible refine code_exit ?_) | (with_reducible refine code_ret ?_) | refine regq_to ?_ | (with_reducible refine run_nil ?_) | ((with_reducible refine run_probe ?_); refine runq_more ?_) | (with_reducible refine draw_nil ?_) | ((with_reducible refine draw_probe ?_); (first | refine drawq_more ?_ | refine drawq_as ?_)) | refine code_then ?_ | refine code_else ?_))
  refine code_dr [[], [0], [0, 1], [0, 1, 2], [], [0, 1, 2, 3, 4], [0, 1, 2, 3, 4, 5], [0, 1, 2, 3, 4, 5, 6], [], [8], [8, 9], [8, 9, 10], [], [8, 9, 10, 11, 12], [8, 9, 10, 11, 12, 13], [8, 9, 10, 11, 12, 13, 14], [0, 1, 2, 3, 4, 5, 6, 7], [0, 1, 2, 3, 4, 5, 6, 7, 8, 9, 10, 11, 12, 13, 14, 15, 16]] [(0, false, []), (1, false, []), (2, false, []), (3, false, []), (4, false, []), (5, false, []), (6, false, []), (7, false, []), (8, false, []), (9, false, []), (10, false, []), (11, false, []), (12, false, []), (13, false, []), (14, false, []), (15, false, []), (16, true, [11, 15]), (17, true, [])] ?_
  (repeat (first | (with_reducible refine then_n ?_) | (with_reducible refine then_r ?_) | (with_reducible refine then_e ?_) | (with_reducible refine block_n ?_) | (with_reducible refine block_r ?_) | (with_reducible refine block_e ?_) | refine block_o ?_ | (with_reducible refine scope_n ?_) | (with_reducible refine scope_r ?_) | (with_reducible refine scope_e ?_) | (with_reducible refine code_seq ?_) | (with_reducible refine code_skip ?_) | (with_reducible refine code_label ?_) | (with_reducible refine code_block ?_) | (with_reducible refine code_scope ?_) | (with_reducible refine code_exit ?_) | (with_reducible refine code_ret ?_) | refine regq_to ?_ | (with_reducible refine run_nil ?_) | ((with_reducible refine run_probe ?_); refine runq_more ?_) | (with_reducible refine draw_nil ?_) | ((with_reducible refine draw_probe ?_); (first | refine drawq_more ?_ | refine drawq_as ?_)) | refine code_then ?_ | refine code_else ?_))
  -- the one ahead
  refine then_mid (fun D L S => ∃ C1 l1, l1 = (if a = -1 then l else setN l a.toNat n) ∧ OwnE C1 la lc l1 ∧ l1.length = l.length ∧ D = [] ∧ L = [(0, .pointer (some ⟨b, 0, none⟩)), (4, .int .i64 a), (5, .int .i64 n)] ∧ S = [C1, [(b, tabO room la l.length lc fa fl fc r (unF first a n) last)], F]) ?_ ?_
  · rcases ha with rfl | ⟨j, rfl, hj⟩
    · (repeat (first | (with_reducible refine then_n ?_) | (with_reducible refine then_r ?_) | (with_reducible refine then_e ?_) | (with_reducible refine block_n ?_) | (with_reducible refine block_r ?_) | (with_reducible refine block_e ?_) | refine block_o ?_ | (with_reducible refine scope_n ?_) | (with_reducible refine scope_r ?_) | (with_reducible refine scope_e ?_) | (with_reducible refine code_seq ?_) | (with_reducible refine code_skip ?_) | (with_reducible refine code_label ?_) | (with_reducible refine code_block ?_) | (with_reducible refine code_scope ?_) | (with_reducible refine code_exit ?_) | (with_reducible refine code_ret ?_) | refine regq_to ?_ | (with_reducible refine run_nil ?_) | ((with_reducible refine run_probe ?_); refine runq_more ?_) | (with_reducible refine draw_nil ?_) | ((with_reducible refine draw_probe ?_); (first | refine drawq_more ?_ | refine drawq_as ?_)) | refine code_then ?_ | refine code_else ?_))
      exact mid ⟨C, l, rfl, ho, rfl, rfl, rfl, rfl⟩
    · have hxj : l[j]? = some l[j] := List.getElem?_eq_getElem hj
      (repeat (first | (with_reducible refine then_n ?_) | (with_reducible refine then_r ?_) | (with_reducible refine then_e ?_) | (with_reducible refine block_n ?_) | (with_reducible refine block_r ?_) | (with_reducible refine block_e ?_) | refine block_o ?_ | (with_reducible refine scope_n ?_) | (with_reducible refine scope_r ?_) | (with_reducible refine scope_e ?_) | (with_reducible refine code_seq ?_) | (with_reducible refine code_skip ?_) | (with_reducible refine code_label ?_) | (with_reducible refine code_block ?_) | (with_reducible refine code_scope ?_) | (with_reducible refine code_exit ?_) | (with_reducible refine code_ret ?_) | refine regq_to ?_ | (with_reducible refine run_nil ?_) | ((with_reducible refine run_probe ?_); refine runq_more ?_) | (with_reducible refine draw_nil ?_) | ((with_reducible refine draw_probe ?_); (first | refine drawq_more ?_ | refine drawq_as ?_)) | refine code_then ?_ | refine code_else ?_))
      refine run_op fun K hK => ?_; refine store_el ho (by (repeat (first | with_reducible exact Pick.head _ _ | with_reducible apply Pick.tail))) hs hxj trivial (x' := { l[j] with next := n }) rfl (by decide) (fun C3 ho3 => ?_); refine hK _ _ ?_; clear hK K
      rw [setN_set n hxj] at ho3
      (repeat (first | (with_reducible refine then_n ?_) | (with_reducible refine then_r ?_) | (with_reducible refine then_e ?_) | (with_reducible refine block_n ?_) | (with_reducible refine block_r ?_) | (with_reducible refine block_e ?_) | refine block_o ?_ | (with_reducible refine scope_n ?_) | (with_reducible refine scope_r ?_) | (with_reducible refine scope_e ?_) | (with_reducible refine code_seq ?_) | (with_reducible refine code_skip ?_) | (with_reducible refine code_label ?_) | (with_reducible refine code_block ?_) | (with_reducible refine code_scope ?_) | (with_reducible refine code_exit ?_) | (with_reducible refine code_ret ?_) | refine regq_to ?_ | (with_reducible refine run_nil ?_) | ((with_reducible refine run_probe ?_); refine runq_more ?_) | (with_reducible refine draw_nil ?_) | ((with_reducible refine draw_probe ?_); (first | refine drawq_more ?_ | refine drawq_as ?_)) | refine code_then ?_ | refine code_else ?_))
      have e1 : unF first (j : Int) n = first := by unfold unF; rw [if_neg (by omega)]
      rw [e1]
      exact mid ⟨C3, setN l j n, by rw [if_neg (by omega)]; simp, by unfold OwnE; rw [setN_length]; exact ho3, setN_length _ _ _, rfl, rfl, rfl⟩
  · rintro D L S ⟨C1, l1, hl1, ho1, hll, rfl, rfl, rfl⟩
    rw [← hll]
    rcases hn with rfl | ⟨j, rfl, hj⟩
    · (repeat (first | (with_reducible refine then_n ?_) | (with_reducible refine then_r ?_) | (with_reducible refine then_e ?_) | (with_reducible refine block_n ?_) | (with_reducible refine block_r ?_) | (with_reducible refine block_e ?_) | refine block_o ?_ | (with_reducible refine scope_n ?_) | (with_reducible refine scope_r ?_) | (with_reducible refine scope_e ?_) | (with_reducible refine code_seq ?_) | (with_reducible refine code_skip ?_) | (with_reducible refine code_label ?_) | (with_reducible refine code_block ?_) | (with_reducible refine code_scope ?_) | (with_reducible refine code_exit ?_) | (with_reducible refine code_ret ?_) | refine regq_to ?_ | (with_reducible refine run_nil ?_) | ((with_reducible refine run_probe ?_); refine runq_more ?_) | (with_reducible refine draw_nil ?_) | ((with_reducible refine draw_probe ?_); (first | refine drawq_more ?_ | refine drawq_as ?_)) | refine code_then ?_ | refine code_else ?_))
      refine back_none_n [[(b, tabO room la l1.length lc fa fl fc r (unF first a (-1)) a)], C1] ⟨C1, ?_, rfl⟩
      have : unL l a (-1) = l1 := by unfold unL; rw [if_pos rfl, ← hl1]
      rw [this]; exact ho1
    · have hxj : l1[j]? = some l1[j] := List.getElem?_eq_getElem (by omega)
      (repeat (first | (with_reducible refine then_n ?_) | (with_reducible refine then_r ?_) | (with_reducible refine then_e ?_) | (with_reducible refine block_n ?_) | (with_reducible refine block_r ?_) | (with_reducible refine block_e ?_) | refine block_o ?_ | (with_reducible refine scope_n ?_) | (with_reducible refine scope_r ?_) | (with_reducible refine scope_e ?_) | (with_reducible refine code_seq ?_) | (with_reducible refine code_skip ?_) | (with_reducible refine code_label ?_) | (with_reducible refine code_block ?_) | (with_reducible refine code_scope ?_) | (with_reducible refine code_exit ?_) | (with_reducible refine code_ret ?_) | refine regq_to ?_ | (with_reducible refine run_nil ?_) | ((with_reducible refine run_probe ?_); refine runq_more ?_) | (with_reducible refine draw_nil ?_) | ((with_reducible refine draw_probe ?_); (first | refine drawq_more ?_ | refine drawq_as ?_)) | refine code_then ?_ | refine code_else ?_))
      refine run_op fun K hK => ?_; refine store_el ho1 (by (repeat (first | with_reducible exact Pick.head _ _ | with_reducible apply Pick.tail))) hs hxj trivial (x' := { l1[j] with ahead := a }) rfl (by decide) (fun C3 ho3 => ?_); refine hK _ _ ?_; clear hK K
      rw [setA_set a hxj] at ho3
      (repeat (first | (with_reducible refine then_n ?_) | (with_reducible refine then_r ?_) | (with_reducible refine then_e ?_) | (with_reducible refine block_n ?_) | (with_reducible refine block_r ?_) | (with_reducible refine block_e ?_) | refine block_o ?_ | (with_reducible refine scope_n ?_) | (with_reducible refine scope_r ?_) | (with_reducible refine scope_e ?_) | (with_reducible refine code_seq ?_) | (with_reducible refine code_skip ?_) | (with_reducible refine code_label ?_) | (with_reducible refine code_block ?_) | (with_reducible refine code_scope ?_) | (with_reducible refine code_exit ?_) | (with_reducible refine code_ret ?_) | refine regq_to ?_ | (with_reducible refine run_nil ?_) | ((with_reducible refine run_probe ?_); refine runq_more ?_) | (with_reducible refine draw_nil ?_) | ((with_reducible refine draw_probe ?_); (first | refine drawq_more ?_ | refine drawq_as ?_)) | refine code_then ?_ | refine code_else ?_))
      have e1 : unE last a (j : Int) = last := by unfold unE; rw [if_neg (by omega)]
      rw [e1]
      refine back_none_n [[(b, tabO room la l1.length lc fa fl fc r (unF first a j) last)], C3] ⟨C3, ?_, rfl⟩
      have : unL l a j = setA l1 j a := by unfold unL; rw [if_neg (by omega), ← hl1]; simp
      rw [this]; unfold OwnE; rw [setA_length]; exact ho3

theorem len_nil : Meets Try.prog 11 [.pointer none] [] fun v A => v = .int .i64 0 ∧ A = [] := by
  refine spec_intro Try.func11 rfl (by kernel_rfl) (by rw [Try.ntmps11]; simp) fun F => ?_; rw [Try.ntmps11, Try.results11]
  (repeat (first | (with_reducible refine then_n ?_) | (with_reducible refine then_r ?_) | (with_reducible refine then_e ?_) | (with_reducible refine block_n ?_) | (with_reducible refine block_r ?_) | (with_reducible refine block_e ?_) | refine block_o ?_ | (with_reducible refine scope_n ?_) | (with_reducible refine scope_r ?_) | (with_reducible refine scope_e ?_) | (with_reducible refine code_seq ?_) | (with_reducible refine code_skip ?_) | (with_reducible refine code_label ?_) | (with_reducible refine code_block ?_) | (with_reducible refine code_scope ?_) | (with_reducible refine code_exit ?_) | (with_reducible refine code_ret ?_) | refine regq_to ?_ | (with_reducible refine run_nil ?_) | ((with_reducible refine run_probe ?_); refine runq_more ?_) | (with_reducible refine draw_nil ?_) | ((with_reducible refine draw_probe ?_); (first | refine drawq_more ?_ | refine drawq_as ?_)) | refine code_then ?_ | refine code_else ?_))
  refine back_tmp [] ?_; exact ⟨rfl, rfl⟩
theorem room_nil : Meets Try.prog 10 [.pointer none] [] fun v A => v = .int .i64 0 ∧ A = [] := by
  refine spec_intro Try.func10 rfl (by kernel_rfl) (by rw [Try.ntmps10]; simp) fun F => ?_; rw [Try.ntmps10, Try.results10]
  (repeat (first | (with_reducible refine then_n ?_) | (with_reducible refine then_r ?_) | (with_reducible refine then_e ?_) | (with_reducible refine block_n ?_) | (with_reducible refine block_r ?_) | (with_reducible refine block_e ?_) | refine block_o ?_ | (with_reducible refine scope_n ?_) | (with_reducible refine scope_r ?_) | (with_reducible refine scope_e ?_) | (with_reducible refine code_seq ?_) | (with_reducible refine code_skip ?_) | (with_reducible refine code_label ?_) | (with_reducible refine code_block ?_) | (with_reducible refine code_scope ?_) | (with_reducible refine code_exit ?_) | (with_reducible refine code_ret ?_) | refine regq_to ?_ | (with_reducible refine run_nil ?_) | ((with_reducible refine run_probe ?_); refine runq_more ?_) | (with_reducible refine draw_nil ?_) | ((with_reducible refine draw_probe ?_); (first | refine drawq_more ?_ | refine drawq_as ?_)) | refine code_then ?_ | refine code_else ?_))
  refine back_tmp [] ?_; exact ⟨rfl, rfl⟩
theorem full_nil : Meets Try.prog 9 [.pointer none] [] fun v A => v = .bool false ∧ A = [] := by
  refine spec_intro Try.func9 rfl (by kernel_rfl) (by rw [Try.ntmps9]; simp) fun F => ?_; rw [Try.ntmps9, Try.results9]
  (repeat (first | (with_reducible refine then_n ?_) | (with_reducible refine then_r ?_) | (with_reducible refine then_e ?_) | (with_reducible refine block_n ?_) | (with_reducible refine block_r ?_) | (with_reducible refine block_e ?_) | refine block_o ?_ | (with_reducible refine scope_n ?_) | (with_reducible refine scope_r ?_) | (with_reducible refine scope_e ?_) | (with_reducible refine code_seq ?_) | (with_reducible refine code_skip ?_) | (with_reducible refine code_label ?_) | (with_reducible refine code_block ?_) | (with_reducible refine code_scope ?_) | (with_reducible refine code_exit ?_) | (with_reducible refine code_ret ?_) | refine regq_to ?_ | (with_reducible refine run_nil ?_) | ((with_reducible refine run_probe ?_); refine runq_more ?_) | (with_reducible refine draw_nil ?_) | ((with_reducible refine draw_probe ?_); (first | refine drawq_more ?_ | refine drawq_as ?_)) | refine code_then ?_ | refine code_else ?_))
  refine back_tmp [] ?_; exact ⟨rfl, rfl⟩
theorem len_core (b : Nat) (room : Int) (la : Option Addr) (ll lc : Nat) (fa : Option Addr) (fl fc r : Nat) (first last : Int) (M : Chunk) (m : List (List UInt8 × Nat)) (hm : IsAt M r m) :
    Meets Try.prog 11 [.pointer (some ⟨b, 0, none⟩)] [[(b, tabO room la ll lc fa fl fc r first last)], M] fun v A => v = .int .i64 m.length ∧ A = [[(b, tabO room la ll lc fa fl fc r first last)], M] := by
  have hl : (mval nat64 m).length = m.length := by simp [mval]
  refine spec_intro Try.func11 rfl (by kernel_rfl) (by rw [Try.ntmps11]; simp) fun F => ?_; rw [Try.ntmps11, Try.results11]
  (repeat (first | (with_reducible refine then_n ?_) | (with_reducible refine then_r ?_) | (with_reducible refine then_e ?_) | (with_reducible refine block_n ?_) | (with_reducible refine block_r ?_) | (with_reducible refine block_e ?_) | refine block_o ?_ | (with_reducible refine scope_n ?_) | (with_reducible refine scope_r ?_) | (with_reducible refine scope_e ?_) | (with_reducible refine code_seq ?_) | (with_reducible refine code_skip ?_) | (with_reducible refine code_label ?_) | (with_reducible refine code_block ?_) | (with_reducible refine code_scope ?_) | (with_reducible refine code_exit ?_) | (with_reducible refine code_ret ?_) | refine regq_to ?_ | (with_reducible refine run_nil ?_) | ((with_reducible refine run_probe ?_); refine runq_more ?_) | (with_reducible refine draw_nil ?_) | ((with_reducible refine draw_probe ?_); (first | refine drawq_more ?_ | refine drawq_as ?_)) | refine code_then ?_ | refine code_else ?_))
  rw [hl]
  refine back_tmp [[(b, tabO room la ll lc fa fl fc r first last)], M] ?_; exact ⟨rfl, rfl⟩
theorem room_core (b : Nat) (room : Nat) (hr : room ≤ 4096) (la : Option Addr) (ll lc : Nat) (fa : Option Addr) (fl fc r : Nat) (first last : Int) (M : Chunk) (m : List (List UInt8 × Nat)) (hm : IsAt M r m) (hml : m.length ≤ room) :
    Meets Try.prog 10 [.pointer (some ⟨b, 0, none⟩)] [[(b, tabO room la ll lc fa fl fc r first last)], M] fun v A => v = .int .i64 (room - m.length : Nat) ∧ A = [[(b, tabO room la ll lc fa fl fc r first last)], M] := by
  have hl : (mval nat64 m).length = m.length := by simp [mval]
  refine spec_intro Try.func10 rfl (by kernel_rfl) (by rw [Try.ntmps10]; simp) fun F => ?_; rw [Try.ntmps10, Try.results10]
  (repeat (first | (with_reducible refine then_n ?_) | (with_reducible refine then_r ?_) | (with_reducible refine then_e ?_) | (with_reducible refine block_n ?_) | (with_reducible refine block_r ?_) | (with_reducible refine block_e ?_) | refine block_o ?_ | (with_reducible refine scope_n ?_) | (with_reducible refine scope_r ?_) | (with_reducible refine scope_e ?_) | (with_reducible refine code_seq ?_) | (with_reducible refine code_skip ?_) | (with_reducible refine code_label ?_) | (with_reducible refine code_block ?_) | (with_reducible refine code_scope ?_) | (with_reducible refine code_exit ?_) | (with_reducible refine code_ret ?_) | refine regq_to ?_ | (with_reducible refine run_nil ?_) | ((with_reducible refine run_probe ?_); refine runq_more ?_) | (with_reducible refine draw_nil ?_) | ((with_reducible refine draw_probe ?_); (first | refine drawq_more ?_ | refine drawq_as ?_)) | refine code_then ?_ | refine code_else ?_))
  refine code_dr [[], [0], [0, 1], [0, 1, 2], [], [4], [4, 5], [4, 5, 6], [4, 5, 6, 7], [0, 1, 2, 3, 4, 5, 6, 7, 8], [0, 1, 2, 3, 4, 5, 6, 7, 8, 9]] [(0, false, []), (1, false, []), (2, false, []), (3, false, []), (4, false, []), (5, false, []), (6, false, []), (7, false, []), (8, false, []), (9, false, []), (10, true, [])] ?_
  (repeat (first | (with_reducible refine then_n ?_) | (with_reducible refine then_r ?_) | (with_reducible refine then_e ?_) | (with_reducible refine block_n ?_) | (with_reducible refine block_r ?_) | (with_reducible refine block_e ?_) | refine block_o ?_ | (with_reducible refine scope_n ?_) | (with_reducible refine scope_r ?_) | (with_reducible refine scope_e ?_) | (with_reducible refine code_seq ?_) | (with_reducible refine code_skip ?_) | (with_reducible refine code_label ?_) | (with_reducible refine code_block ?_) | (with_reducible refine code_scope ?_) | (with_reducible refine code_exit ?_) | (with_reducible refine code_ret ?_) | refine regq_to ?_ | (with_reducible refine run_nil ?_) | ((with_reducible refine run_probe ?_); refine runq_more ?_) | (with_reducible refine draw_nil ?_) | ((with_reducible refine draw_probe ?_); (first | refine drawq_more ?_ | refine drawq_as ?_)) | refine code_then ?_ | refine code_else ?_))
  refine back_tmp [[(b, tabO room la ll lc fa fl fc r first last)], M] ?_
  exact ⟨by rw [hl]; congr 1; first | omega | (rw [wrap_i64 (by omega) (by omega)]; omega), rfl⟩
theorem full_core (b : Nat) (room : Nat) (hr : room ≤ 4096) (la : Option Addr) (ll lc : Nat) (fa : Option Addr) (fl fc r : Nat) (first last : Int) (M : Chunk) (m : List (List UInt8 × Nat)) (hm : IsAt M r m) (hml : m.length ≤ room) :
    Meets Try.prog 9 [.pointer (some ⟨b, 0, none⟩)] [[(b, tabO room la ll lc fa fl fc r first last)], M] fun v A => v = .bool (decide (m.length = room)) ∧ A = [[(b, tabO room la ll lc fa fl fc r first last)], M] := by
  refine spec_intro Try.func9 rfl (by kernel_rfl) (by rw [Try.ntmps9]; simp) fun F => ?_; rw [Try.ntmps9, Try.results9]
  (repeat (first | (with_reducible refine then_n ?_) | (with_reducible refine then_r ?_) | (with_reducible refine then_e ?_) | (with_reducible refine block_n ?_) | (with_reducible refine block_r ?_) | (with_reducible refine block_e ?_) | refine block_o ?_ | (with_reducible refine scope_n ?_) | (with_reducible refine scope_r ?_) | (with_reducible refine scope_e ?_) | (with_reducible refine code_seq ?_) | (with_reducible refine code_skip ?_) | (with_reducible refine code_label ?_) | (with_reducible refine code_block ?_) | (with_reducible refine code_scope ?_) | (with_reducible refine code_exit ?_) | (with_reducible refine code_ret ?_) | refine regq_to ?_ | (with_reducible refine run_nil ?_) | ((with_reducible refine run_probe ?_); refine runq_more ?_) | (with_reducible refine draw_nil ?_) | ((with_reducible refine draw_probe ?_); (first | refine drawq_more ?_ | refine drawq_as ?_)) | refine code_then ?_ | refine code_else ?_))
  refine run_op fun K hK => ?_; refine calls_to (room_core b room hr la ll lc fa fl fc r first last M m hm hml) ?_; rintro v A ⟨rfl, rfl⟩; (try simp only [List.nil_append, List.cons_append]); refine hK _ _ ?_; clear hK K; (repeat (first | (with_reducible refine then_n ?_) | (with_reducible refine then_r ?_) | (with_reducible refine then_e ?_) | (with_reducible refine block_n ?_) | (with_reducible refine block_r ?_) | (with_reducible refine block_e ?_) | refine block_o ?_ | (with_reducible refine scope_n ?_) | (with_reducible refine scope_r ?_) | (with_reducible refine scope_e ?_) | (with_reducible refine code_seq ?_) | (with_reducible refine code_skip ?_) | (with_reducible refine code_label ?_) | (with_reducible refine code_block ?_) | (with_reducible refine code_scope ?_) | (with_reducible refine code_exit ?_) | (with_reducible refine code_ret ?_) | refine regq_to ?_ | (with_reducible refine run_nil ?_) | ((with_reducible refine run_probe ?_); refine runq_more ?_) | (with_reducible refine draw_nil ?_) | ((with_reducible refine draw_probe ?_); (first | refine drawq_more ?_ | refine drawq_as ?_)) | refine code_then ?_ | refine code_else ?_))
  refine back_tmp [[(b, tabO room la ll lc fa fl fc r first last)], M] ?_
  refine ⟨?_, rfl⟩
  congr 1
  by_cases h : m.length = room
  · rw [decide_eq_true h, h]; simp
  · rw [decide_eq_false h, beq_eq_false_iff_ne]; omega

end Go.Proofs.Ytkgnhhpgnkkigaa

/- A table as one chunk; a new entry. Conditions: as each says. -/
set_option linter.unusedSimpArgs false
set_option linter.unusedVariables false
namespace Go.Proofs.Ytkgnhhpgnkkigaa
open Go Go.Ost Go.Tab

abbrev OwnF (C : Chunk) (a : Option Addr) (cap : Nat) (free : List Nat) : Prop := Ost.Own 1 3 C a free.length cap (free.map nat64)
/-- What lies in a table's blocks. -/
structure Lies4 (room : Nat) (la : Option Addr) (lc : Nat) (l : List (En Int)) (fa : Option Addr) (fc : Nat) (free : List Nat) (r : Nat) (m : List (List UInt8 × Nat)) (pl : List Nat) (es : List (List UInt8 × Int)) (Cl Cf Cm : Chunk) : Prop where
  ol : OwnE Cl la lc l
  ofr : OwnF Cf fa fc free
  im : IsAt Cm r m
  rep : Rep l free m pl es
  big : room ≤ 4096
  fits : es.length ≤ room
  all : l.length = es.length + free.length
  ll : l.length ≤ room
def IsTab (C : Chunk) (b room : Nat) (es : List (List UInt8 × Int)) : Prop := ∃ la lc l fa fc free r m pl Cl Cf Cm, Lies4 room la lc l fa fc free r m pl es Cl Cf Cm ∧
  C = [(b, tabO room la l.length lc fa free.length fc r (hd pl (-1)) (lst (-1) pl))] ++ (Cl ++ (Cf ++ Cm))

theorem IsTab.keys {C : Chunk} {b room : Nat} {es : List (List UInt8 × Int)} (h : IsTab C b room es) : (es.map (·.1)).Nodup := by
  obtain ⟨la, lc, l, fa, fc, free, r, m, pl, Cl, Cf, Cm, h, rfl⟩ := h; exact h.rep.keys
theorem IsTab.fits {C : Chunk} {b room : Nat} {es : List (List UInt8 × Int)} (h : IsTab C b room es) : es.length ≤ room := by
  obtain ⟨la, lc, l, fa, fc, free, r, m, pl, Cl, Cf, Cm, h, rfl⟩ := h; exact h.fits

instance : TPlaces Try.prog 58 [(0, 1), (1, 1), (2, 1), (3, 1)] := ⟨by kernel_rfl⟩

section put
variable {b room : Nat} {la : Option Addr} {lc : Nat} {l : List (En Int)} {fa : Option Addr} {fc : Nat} {free : List Nat} {r : Nat} {m : List (List UInt8 × Nat)} {pl : List Nat} {es : List (List UInt8 × Int)} {Cl Cf Cm : Chunk}

theorem put_nil (k : List UInt8) (v : Value) : Meets Try.prog 8 [.pointer none, .string (str k), v] [] fun v A => v = .int .i64 6 ∧ A = [] := by
  refine spec_intro Try.func8 rfl (by kernel_rfl) (by rw [Try.ntmps8]; simp) fun F => ?_; rw [Try.ntmps8, Try.results8]
  (repeat (first | (with_reducible refine then_n ?_) | (with_reducible refine then_r ?_) | (with_reducible refine then_e ?_) | (with_reducible refine block_n ?_) | (with_reducible refine block_r ?_) | (with_reducible refine block_e ?_) | refine block_o ?_ | (with_reducible refine scope_n ?_) | (with_reducible refine scope_r ?_) | (with_reducible refine scope_e ?_) | (with_reducible refine code_seq ?_) | (with_reducible refine code_skip ?_) | (with_reducible refine code_label ?_) | (with_reducible refine code_block ?_) | (with_reducible refine code_scope ?_) | (with_reducible refine code_exit ?_) | (with_reducible refine code_ret ?_) | refine regq_to ?_ | (with_reducible refine run_nil ?_) | ((with_reducible refine run_probe ?_); refine runq_more ?_) | (with_reducible refine draw_nil ?_) | ((with_reducible refine draw_probe ?_); (first | refine drawq_more ?_ | refine drawq_as ?_)) | refine code_then ?_ | refine code_else ?_))
  refine back_tmp [] ?_; exact ⟨rfl, rfl⟩

theorem put_exists (h : Lies4 room la lc l fa fc free r m pl es Cl Cf Cm) (k : List UInt8) (v : Value) (hk : mget es k ≠ none) :
    Meets Try.prog 8 [.pointer (some ⟨b, 0, none⟩), .string (str k), v] [[(b, tabO room la l.length lc fa free.length fc r (hd pl (-1)) (lst (-1) pl))], Cm]
      fun v A => v = .int .i64 7 ∧ A = [[(b, tabO room la l.length lc fa free.length fc r (hd pl (-1)) (lst (-1) pl))], Cm] := by
  cases hm : mget m k with
  | none => exact absurd (h.rep.miss.1 hm) hk
  | some i =>
    refine spec_intro Try.func8 rfl (by kernel_rfl) (by rw [Try.ntmps8]; simp) fun F => ?_; rw [Try.ntmps8, Try.results8]
    (repeat (first | (with_reducible refine then_n ?_) | (with_reducible refine then_r ?_) | (with_reducible refine then_e ?_) | (with_reducible refine block_n ?_) | (with_reducible refine block_r ?_) | (with_reducible refine block_e ?_) | refine block_o ?_ | (with_reducible refine scope_n ?_) | (with_reducible refine scope_r ?_) | (with_reducible refine scope_e ?_) | (with_reducible refine code_seq ?_) | (with_reducible refine code_skip ?_) | (with_reducible refine code_label ?_) | (with_reducible refine code_block ?_) | (with_reducible refine code_scope ?_) | (with_reducible refine code_exit ?_) | (with_reducible refine code_ret ?_) | refine regq_to ?_ | (with_reducible refine run_nil ?_) | ((with_reducible refine run_probe ?_); refine runq_more ?_) | (with_reducible refine draw_nil ?_) | ((with_reducible refine draw_probe ?_); (first | refine drawq_more ?_ | refine drawq_as ?_)) | refine code_then ?_ | refine code_else ?_))
    refine run_op fun K hK => ?_; refine calls_to (place_spec b room la l.length lc fa free.length fc r _ _ Cm m h.im k) ?_; rintro v A ⟨rfl, rfl⟩; (try simp only [List.nil_append, List.cons_append]); refine hK _ _ ?_; clear hK K; (repeat (first | (with_reducible refine then_n ?_) | (with_reducible refine then_r ?_) | (with_reducible refine then_e ?_) | (with_reducible refine block_n ?_) | (with_reducible refine block_r ?_) | (with_reducible refine block_e ?_) | refine block_o ?_ | (with_reducible refine scope_n ?_) | (with_reducible refine scope_r ?_) | (with_reducible refine scope_e ?_) | (with_reducible refine code_seq ?_) | (with_reducible refine code_skip ?_) | (with_reducible refine code_label ?_) | (with_reducible refine code_block ?_) | (with_reducible refine code_scope ?_) | (with_reducible refine code_exit ?_) | (with_reducible refine code_ret ?_) | refine regq_to ?_ | (with_reducible refine run_nil ?_) | ((with_reducible refine run_probe ?_); refine runq_more ?_) | (with_reducible refine draw_nil ?_) | ((with_reducible refine draw_probe ?_); (first | refine drawq_more ?_ | refine drawq_as ?_)) | refine code_then ?_ | refine code_else ?_))
    rw [hm]
    (repeat (first | (with_reducible refine then_n ?_) | (with_reducible refine then_r ?_) | (with_reducible refine then_e ?_) | (with_reducible refine block_n ?_) | (with_reducible refine block_r ?_) | (with_reducible refine block_e ?_) | refine block_o ?_ | (with_reducible refine scope_n ?_) | (with_reducible refine scope_r ?_) | (with_reducible refine scope_e ?_) | (with_reducible refine code_seq ?_) | (with_reducible refine code_skip ?_) | (with_reducible refine code_label ?_) | (with_reducible refine code_block ?_) | (with_reducible refine code_scope ?_) | (with_reducible refine code_exit ?_) | (with_reducible refine code_ret ?_) | refine regq_to ?_ | (with_reducible refine run_nil ?_) | ((with_reducible refine run_probe ?_); refine runq_more ?_) | (with_reducible refine draw_nil ?_) | ((with_reducible refine draw_probe ?_); (first | refine drawq_more ?_ | refine drawq_as ?_)) | refine code_then ?_ | refine code_else ?_))
    refine back_tmp [[(b, tabO room la l.length lc fa free.length fc r (hd pl (-1)) (lst (-1) pl))], Cm] ?_; exact ⟨rfl, rfl⟩

theorem put_full (h : Lies4 room la lc l fa fc free r m pl es Cl Cf Cm) (k : List UInt8) (v : Value) (hk : mget es k = none) (hf : es.length = room) :
    Meets Try.prog 8 [.pointer (some ⟨b, 0, none⟩), .string (str k), v] [[(b, tabO room la l.length lc fa free.length fc r (hd pl (-1)) (lst (-1) pl))], Cm]
      fun v A => v = .int .i64 8 ∧ A = [[(b, tabO room la l.length lc fa free.length fc r (hd pl (-1)) (lst (-1) pl))], Cm] := by
  have hm := h.rep.miss.2 hk
  have hml := h.rep.mlen
  refine spec_intro Try.func8 rfl (by kernel_rfl) (by rw [Try.ntmps8]; simp) fun F => ?_; rw [Try.ntmps8, Try.results8]
  (repeat (first | (with_reducible refine then_n ?_) | (with_reducible refine then_r ?_) | (with_reducible refine then_e ?_) | (with_reducible refine block_n ?_) | (with_reducible refine block_r ?_) | (with_reducible refine block_e ?_) | refine block_o ?_ | (with_reducible refine scope_n ?_) | (with_reducible refine scope_r ?_) | (with_reducible refine scope_e ?_) | (with_reducible refine code_seq ?_) | (with_reducible refine code_skip ?_) | (with_reducible refine code_label ?_) | (with_reducible refine code_block ?_) | (with_reducible refine code_scope ?_) | (with_reducible refine code_exit ?_) | (with_reducible refine code_ret ?_) | refine regq_to ?_ | (with_reducible refine run_nil ?_) | ((with_reducible refine run_probe ?_); refine runq_more ?_) | (with_reducible refine draw_nil ?_) | ((with_reducible refine draw_probe ?_); (first | refine drawq_more ?_ | refine drawq_as ?_)) | refine code_then ?_ | refine code_else ?_))
  refine run_op fun K hK => ?_; refine calls_to (place_spec b room la l.length lc fa free.length fc r _ _ Cm m h.im k) ?_; rintro v A ⟨rfl, rfl⟩; (try simp only [List.nil_append, List.cons_append]); refine hK _ _ ?_; clear hK K; (repeat (first | (with_reducible refine then_n ?_) | (with_reducible refine then_r ?_) | (with_reducible refine then_e ?_) | (with_reducible refine block_n ?_) | (with_reducible refine block_r ?_) | (with_reducible refine block_e ?_) | refine block_o ?_ | (with_reducible refine scope_n ?_) | (with_reducible refine scope_r ?_) | (with_reducible refine scope_e ?_) | (with_reducible refine code_seq ?_) | (with_reducible refine code_skip ?_) | (with_reducible refine code_label ?_) | (with_reducible refine code_block ?_) | (with_reducible refine code_scope ?_) | (with_reducible refine code_exit ?_) | (with_reducible refine code_ret ?_) | refine regq_to ?_ | (with_reducible refine run_nil ?_) | ((with_reducible refine run_probe ?_); refine runq_more ?_) | (with_reducible refine draw_nil ?_) | ((with_reducible refine draw_probe ?_); (first | refine drawq_more ?_ | refine drawq_as ?_)) | refine code_then ?_ | refine code_else ?_))
  rw [hm]
  (repeat (first | (with_reducible refine then_n ?_) | (with_reducible refine then_r ?_) | (with_reducible refine then_e ?_) | (with_reducible refine block_n ?_) | (with_reducible refine block_r ?_) | (with_reducible refine block_e ?_) | refine block_o ?_ | (with_reducible refine scope_n ?_) | (with_reducible refine scope_r ?_) | (with_reducible refine scope_e ?_) | (with_reducible refine code_seq ?_) | (with_reducible refine code_skip ?_) | (with_reducible refine code_label ?_) | (with_reducible refine code_block ?_) | (with_reducible refine code_scope ?_) | (with_reducible refine code_exit ?_) | (with_reducible refine code_ret ?_) | refine regq_to ?_ | (with_reducible refine run_nil ?_) | ((with_reducible refine run_probe ?_); refine runq_more ?_) | (with_reducible refine draw_nil ?_) | ((with_reducible refine draw_probe ?_); (first | refine drawq_more ?_ | refine drawq_as ?_)) | refine code_then ?_ | refine code_else ?_))
  refine run_op fun K hK => ?_; refine calls_to (full_core b room h.big la l.length lc fa free.length fc r _ _ Cm m h.im (by omega)) ?_; rintro v A ⟨rfl, rfl⟩; (try simp only [List.nil_append, List.cons_append]); refine hK _ _ ?_; clear hK K; (repeat (first | (with_reducible refine then_n ?_) | (with_reducible refine then_r ?_) | (with_reducible refine then_e ?_) | (with_reducible refine block_n ?_) | (with_reducible refine block_r ?_) | (with_reducible refine block_e ?_) | refine block_o ?_ | (with_reducible refine scope_n ?_) | (with_reducible refine scope_r ?_) | (with_reducible refine scope_e ?_) | (with_reducible refine code_seq ?_) | (with_reducible refine code_skip ?_) | (with_reducible refine code_label ?_) | (with_reducible refine code_block ?_) | (with_reducible refine code_scope ?_) | (with_reducible refine code_exit ?_) | (with_reducible refine code_ret ?_) | refine regq_to ?_ | (with_reducible refine run_nil ?_) | ((with_reducible refine run_probe ?_); refine runq_more ?_) | (with_reducible refine draw_nil ?_) | ((with_reducible refine draw_probe ?_); (first | refine drawq_more ?_ | refine drawq_as ?_)) | refine code_then ?_ | refine code_else ?_))
  rw [decide_eq_true (show m.length = room by omega)]
  (repeat (first | (with_reducible refine then_n ?_) | (with_reducible refine then_r ?_) | (with_reducible refine then_e ?_) | (with_reducible refine block_n ?_) | (with_reducible refine block_r ?_) | (with_reducible refine block_e ?_) | refine block_o ?_ | (with_reducible refine scope_n ?_) | (with_reducible refine scope_r ?_) | (with_reducible refine scope_e ?_) | (with_reducible refine code_seq ?_) | (with_reducible refine code_skip ?_) | (with_reducible refine code_label ?_) | (with_reducible refine code_block ?_) | (with_reducible refine code_scope ?_) | (with_reducible refine code_exit ?_) | (with_reducible refine code_ret ?_) | refine regq_to ?_ | (with_reducible refine run_nil ?_) | ((with_reducible refine run_probe ?_); refine runq_more ?_) | (with_reducible refine draw_nil ?_) | ((with_reducible refine draw_probe ?_); (first | refine drawq_more ?_ | refine drawq_as ?_)) | refine code_then ?_ | refine code_else ?_))
  refine back_tmp [[(b, tabO room la l.length lc fa free.length fc r (hd pl (-1)) (lst (-1) pl))], Cm] ?_; exact ⟨rfl, rfl⟩

theorem put_ok (h : Lies4 room la lc l fa fc free r m pl es Cl Cf Cm) (k : List UInt8) (v : Int) (hk : mget es k = none) (hf : es.length < room) :
    Meets Try.prog 8 [.pointer (some ⟨b, 0, none⟩), .string (str k), .int .i64 v] [[(b, tabO room la l.length lc fa free.length fc r (hd pl (-1)) (lst (-1) pl))], Cl, Cf, Cm]
      fun v' A => v' = .int .i64 0 ∧ ∃ la lc l fa fc free m pl Cl Cf Cm, Lies4 room la lc l fa fc free r m pl (es ++ [(k, v)]) Cl Cf Cm ∧ A = [[(b, tabO room la l.length lc fa free.length fc r (hd pl (-1)) (lst (-1) pl))], Cl, Cf, Cm] := by
  have hm := h.rep.miss.2 hk
  have hml := h.rep.mlen
  have hs := encE_len
  have hol := h.ol
  have hof := h.ofr
  have him := h.im
  have hll := h.ll
  have hbig := h.big
  refine spec_intro Try.func8 rfl (by kernel_rfl) (by rw [Try.ntmps8]; simp) fun F => ?_; rw [Try.ntmps8, Try.results8]
  (repeat (first | (with_reducible refine then_n ?_) | (with_reducible refine then_r ?_) | (with_reducible refine then_e ?_) | (with_reducible refine block_n ?_) | (with_reducible refine block_r ?_) | (with_reducible refine block_e ?_) | refine block_o ?_ | (with_reducible refine scope_n ?_) | (with_reducible refine scope_r ?_) | (with_reducible refine scope_e ?_) | (with_reducible refine code_seq ?_) | (with_reducible refine code_skip ?_) | (with_reducible refine code_label ?_) | (with_reducible refine code_block ?_) | (with_reducible refine code_scope ?_) | (with_reducible refine code_exit ?_) | (with_reducible refine code_ret ?_) | refine regq_to ?_ | (with_reducible refine run_nil ?_) | ((with_reducible refine run_probe ?_); refine runq_more ?_) | (with_reducible refine draw_nil ?_) | ((with_reducible refine draw_probe ?_); (first | refine drawq_more ?_ | refine drawq_as ?_)) | refine code_then ?_ | refine code_else ?_))
  refine run_op fun K hK => ?_; refine calls_to (place_spec b room la l.length lc fa free.length fc r _ _ Cm m h.im k) ?_; rintro v A ⟨rfl, rfl⟩; (try simp only [List.nil_append, List.cons_append]); refine hK _ _ ?_; clear hK K; (repeat (first | (with_reducible refine then_n ?_) | (with_reducible refine then_r ?_) | (with_reducible refine then_e ?_) | (with_reducible refine block_n ?_) | (with_reducible refine block_r ?_) | (with_reducible refine block_e ?_) | refine block_o ?_ | (with_reducible refine scope_n ?_) | (with_reducible refine scope_r ?_) | (with_reducible refine scope_e ?_) | (with_reducible refine code_seq ?_) | (with_reducible refine code_skip ?_) | (with_reducible refine code_label ?_) | (with_reducible refine code_block ?_) | (with_reducible refine code_scope ?_) | (with_reducible refine code_exit ?_) | (with_reducible refine code_ret ?_) | refine regq_to ?_ | (with_reducible refine run_nil ?_) | ((with_reducible refine run_probe ?_); refine runq_more ?_) | (with_reducible refine draw_nil ?_) | ((with_reducible refine draw_probe ?_); (first | refine drawq_more ?_ | refine drawq_as ?_)) | refine code_then ?_ | refine code_else ?_))
  rw [hm]
  (repeat (first | (with_reducible refine then_n ?_) | (with_reducible refine then_r ?_) | (with_reducible refine then_e ?_) | (with_reducible refine block_n ?_) | (with_reducible refine block_r ?_) | (with_reducible refine block_e ?_) | refine block_o ?_ | (with_reducible refine scope_n ?_) | (with_reducible refine scope_r ?_) | (with_reducible refine scope_e ?_) | (with_reducible refine code_seq ?_) | (with_reducible refine code_skip ?_) | (with_reducible refine code_label ?_) | (with_reducible refine code_block ?_) | (with_reducible refine code_scope ?_) | (with_reducible refine code_exit ?_) | (with_reducible refine code_ret ?_) | refine regq_to ?_ | (with_reducible refine run_nil ?_) | ((with_reducible refine run_probe ?_); refine runq_more ?_) | (with_reducible refine draw_nil ?_) | ((with_reducible refine draw_probe ?_); (first | refine drawq_more ?_ | refine drawq_as ?_)) | refine code_then ?_ | refine code_else ?_))
  refine run_op fun K hK => ?_; refine calls_to (full_core b room h.big la l.length lc fa free.length fc r _ _ Cm m h.im (by omega)) ?_; rintro v A ⟨rfl, rfl⟩; (try simp only [List.nil_append, List.cons_append]); refine hK _ _ ?_; clear hK K; (repeat (first | (with_reducible refine then_n ?_) | (with_reducible refine then_r ?_) | (with_reducible refine then_e ?_) | (with_reducible refine block_n ?_) | (with_reducible refine block_r ?_) | (with_reducible refine block_e ?_) | refine block_o ?_ | (with_reducible refine scope_n ?_) | (with_reducible refine scope_r ?_) | (with_reducible refine scope_e ?_) | (with_reducible refine code_seq ?_) | (with_reducible refine code_skip ?_) | (with_reducible refine code_label ?_) | (with_reducible refine code_block ?_) | (with_reducible refine code_scope ?_) | (with_reducible refine code_exit ?_) | (with_reducible refine code_ret ?_) | refine regq_to ?_ | (with_reducible refine run_nil ?_) | ((with_reducible refine run_probe ?_); refine runq_more ?_) | (with_reducible refine draw_nil ?_) | ((with_reducible refine draw_probe ?_); (first | refine drawq_more ?_ | refine drawq_as ?_)) | refine code_then ?_ | refine code_else ?_))
  rw [decide_eq_false (show ¬ m.length = room by omega)]
  (repeat (first | (with_reducible refine then_n ?_) | (with_reducible refine then_r ?_) | (with_reducible refine then_e ?_) | (with_reducible refine block_n ?_) | (with_reducible refine block_r ?_) | (with_reducible refine block_e ?_) | refine block_o ?_ | (with_reducible refine scope_n ?_) | (with_reducible refine scope_r ?_) | (with_reducible refine scope_e ?_) | (with_reducible refine code_seq ?_) | (with_reducible refine code_skip ?_) | (with_reducible refine code_label ?_) | (with_reducible refine code_block ?_) | (with_reducible refine code_scope ?_) | (with_reducible refine code_exit ?_) | (with_reducible refine code_ret ?_) | refine regq_to ?_ | (with_reducible refine run_nil ?_) | ((with_reducible refine run_probe ?_); refine runq_more ?_) | (with_reducible refine draw_nil ?_) | ((with_reducible refine draw_probe ?_); (first | refine drawq_more ?_ | refine drawq_as ?_)) | refine code_then ?_ | refine code_else ?_))
  refine then_mid (fun D L S => ∃ (i : Nat) (la' : Option Addr) (lc' : Nat) (l' : List (En Int)) (Cl' : Chunk) (fa' : Option Addr) (fc' : Nat) (free' : List Nat) (Cf' : Chunk), OwnE Cl' la' lc' l' ∧ OwnF Cf' fa' fc' free' ∧ (∀ j ∈ pl, l'[j]? = l[j]?) ∧ kv l' i = some (k, v) ∧
      (pl ++ i :: free').Nodup ∧ (∀ j ∈ free', j < l'.length) ∧ l'.length = es.length + 1 + free'.length ∧ l'.length ≤ room ∧ D = [] ∧ L = [(0, .pointer (some ⟨b, 0, none⟩)), (1, .string (str k)), (7, .int .i64 i)] ∧
      S = [[(b, tabO room la' l'.length lc' fa' free'.length fc' r (hd pl (-1)) (lst (-1) pl))], Cl', Cf', Cm, F]) ?_ ?_
  · rcases List.eq_nil_or_concat free with rfl | ⟨f, i, rfl⟩
    · (repeat (first | (with_reducible refine then_n ?_) | (with_reducible refine then_r ?_) | (with_reducible refine then_e ?_) | (with_reducible refine block_n ?_) | (with_reducible refine block_r ?_) | (with_reducible refine block_e ?_) | refine block_o ?_ | (with_reducible refine scope_n ?_) | (with_reducible refine scope_r ?_) | (with_reducible refine scope_e ?_) | (with_reducible refine code_seq ?_) | (with_reducible refine code_skip ?_) | (with_reducible refine code_label ?_) | (with_reducible refine code_block ?_) | (with_reducible refine code_scope ?_) | (with_reducible refine code_exit ?_) | (with_reducible refine code_ret ?_) | refine regq_to ?_ | (with_reducible refine run_nil ?_) | ((with_reducible refine run_probe ?_); refine runq_more ?_) | (with_reducible refine draw_nil ?_) | ((with_reducible refine draw_probe ?_); (first | refine drawq_more ?_ | refine drawq_as ?_)) | refine code_then ?_ | refine code_else ?_))
      have hall := h.all
      simp only [List.length_nil, Nat.add_zero] at hall
      refine run_op fun K hK => ?_; rw [build_struct (ps := [(0, .string (str k)), (1, .int .i64 v)]) (cs := #[.string (str k), .int .i64 v, .int .i64 0, .int .i64 0]) rfl]; refine hK _ _ ?_; clear hK K
      (repeat (first | (with_reducible refine then_n ?_) | (with_reducible refine then_r ?_) | (with_reducible refine then_e ?_) | (with_reducible refine block_n ?_) | (with_reducible refine block_r ?_) | (with_reducible refine block_e ?_) | refine block_o ?_ | (with_reducible refine scope_n ?_) | (with_reducible refine scope_r ?_) | (with_reducible refine scope_e ?_) | (with_reducible refine code_seq ?_) | (with_reducible refine code_skip ?_) | (with_reducible refine code_label ?_) | (with_reducible refine code_block ?_) | (with_reducible refine code_scope ?_) | (with_reducible refine code_exit ?_) | (with_reducible refine code_ret ?_) | refine regq_to ?_ | (with_reducible refine run_nil ?_) | ((with_reducible refine run_probe ?_); refine runq_more ?_) | (with_reducible refine draw_nil ?_) | ((with_reducible refine draw_probe ?_); (first | refine drawq_more ?_ | refine drawq_as ?_)) | refine code_then ?_ | refine code_else ?_))
      refine run_op fun K hK => ?_; refine build_el1 (e := 58) (s := 4) (hs := inferInstance) (vs := encE ⟨k, v, 0, 0⟩) (by rfl) (by decide) (by decide) rfl (fun b1 C1 ho1 => ?_); refine hK _ _ ?_; clear hK K
      (repeat (first | (with_reducible refine then_n ?_) | (with_reducible refine then_r ?_) | (with_reducible refine then_e ?_) | (with_reducible refine block_n ?_) | (with_reducible refine block_r ?_) | (with_reducible refine block_e ?_) | refine block_o ?_ | (with_reducible refine scope_n ?_) | (with_reducible refine scope_r ?_) | (with_reducible refine scope_e ?_) | (with_reducible refine code_seq ?_) | (with_reducible refine code_skip ?_) | (with_reducible refine code_label ?_) | (with_reducible refine code_block ?_) | (with_reducible refine code_scope ?_) | (with_reducible refine code_exit ?_) | (with_reducible refine code_ret ?_) | refine regq_to ?_ | (with_reducible refine run_nil ?_) | ((with_reducible refine run_probe ?_); refine runq_more ?_) | (with_reducible refine draw_nil ?_) | ((with_reducible refine draw_probe ?_); (first | refine drawq_more ?_ | refine drawq_as ?_)) | refine code_then ?_ | refine code_else ?_))
      refine run_op fun K hK => ?_; refine append_own (e := 58) (s := 4) (hs := inferInstance) (by rfl) (by decide) hol (.inr (by (repeat (first | with_reducible exact Pick.head _ _ | with_reducible apply Pick.tail)))) (ho1.rd (by (repeat (first | with_reducible assumption | with_reducible exact List.mem_cons_self .. | with_reducible apply List.mem_cons_of_mem)))) (by simp [encE, Value.cell1]) (by simp only [maxLen]; omega) (by omega) (fun C2 a2 cap2 ho2 => ?_); refine hK _ _ ?_; clear hK K
      have e2 : l.flatMap encE ++ encE ⟨k, v, 0, 0⟩ = (l ++ [(⟨k, v, 0, 0⟩ : En Int)]).flatMap encE := by simp
      have e3 : l.length + 1 = (l ++ [(⟨k, v, 0, 0⟩ : En Int)]).length := by simp
      rw [e2, e3] at ho2
      rw [e3]
      (repeat (first | (with_reducible refine then_n ?_) | (with_reducible refine then_r ?_) | (with_reducible refine then_e ?_) | (with_reducible refine block_n ?_) | (with_reducible refine block_r ?_) | (with_reducible refine block_e ?_) | refine block_o ?_ | (with_reducible refine scope_n ?_) | (with_reducible refine scope_r ?_) | (with_reducible refine scope_e ?_) | (with_reducible refine code_seq ?_) | (with_reducible refine code_skip ?_) | (with_reducible refine code_label ?_) | (with_reducible refine code_block ?_) | (with_reducible refine code_scope ?_) | (with_reducible refine code_exit ?_) | (with_reducible refine code_ret ?_) | refine regq_to ?_ | (with_reducible refine run_nil ?_) | ((with_reducible refine run_probe ?_); refine runq_more ?_) | (with_reducible refine draw_nil ?_) | ((with_reducible refine draw_probe ?_); (first | refine drawq_more ?_ | refine drawq_as ?_)) | refine code_then ?_ | refine code_else ?_))
      refine mid ⟨l.length, a2, cap2, l ++ [⟨k, v, 0, 0⟩], C2, fa, fc, [], Cf, ho2, hof, ?_, ?_, ?_, by simp, by simp; omega, by simp; omega, rfl, rfl, rfl⟩
      · intro j hj
        exact List.getElem?_append_left (lk_lt _ _ _ h.rep.lk j hj)
      · simp [kv]
      · have hnd := h.rep.nd
        rw [List.append_nil] at hnd
        rw [List.nodup_append]
        exact ⟨hnd, by simp, fun x hx y hy e => by
          simp at hy; subst hy; subst e
          exact absurd (lk_lt _ _ _ h.rep.lk _ hx) (by omega)⟩
    · rw [List.concat_eq_append] at *
      have hfl : (f ++ [i]).length = f.length + 1 := by simp
      have hall := h.all
      have hof' : Ost.Own 1 3 Cf fa (f.length + 1) fc ((f ++ [i]).map nat64) := by rw [← hfl]; exact hof
      have hfc := hof'.1
      have hge : ((f ++ [i]).map nat64)[(((f.length + 1 : Nat) : Int) - 1).toNat]? = some (nat64 i) := by
        rw [show (((f.length + 1 : Nat) : Int) - 1).toNat = f.length from by omega]; simp
      rw [hfl] at hall ⊢
      refine if_d (fun _ => ?_) (fun hc => absurd (show (0 : Int) < ((f.length + 1 : Nat) : Int) by omega) hc)
      (repeat (first | (with_reducible refine then_n ?_) | (with_reducible refine then_r ?_) | (with_reducible refine then_e ?_) | (with_reducible refine block_n ?_) | (with_reducible refine block_r ?_) | (with_reducible refine block_e ?_) | refine block_o ?_ | (with_reducible refine scope_n ?_) | (with_reducible refine scope_r ?_) | (with_reducible refine scope_e ?_) | (with_reducible refine code_seq ?_) | (with_reducible refine code_skip ?_) | (with_reducible refine code_label ?_) | (with_reducible refine code_block ?_) | (with_reducible refine code_scope ?_) | (with_reducible refine code_exit ?_) | (with_reducible refine code_ret ?_) | refine regq_to ?_ | (with_reducible refine run_nil ?_) | ((with_reducible refine run_probe ?_); refine runq_more ?_) | (with_reducible refine draw_nil ?_) | ((with_reducible refine draw_probe ?_); (first | refine drawq_more ?_ | refine drawq_as ?_)) | refine code_then ?_ | refine code_else ?_))
      refine code_dr [[], [], [1], [1, 2], [1, 2, 3], [], [5], [1, 2, 3, 4, 5, 6], [1, 2, 3, 4, 5, 6, 7], [], [9], [9, 10], [9, 10, 11], [], [13], [9, 10, 11, 12, 13, 14], [1, 2, 3, 4, 5, 6, 7, 8], [0, 1, 2, 3, 4, 5, 6, 7, 8, 9, 10, 11, 12, 13, 14, 15, 16], [0, 1, 2, 3, 4, 5, 6, 7, 8, 9, 10, 11, 12, 13, 14, 15, 16, 17], [0, 1, 2, 3, 4, 5, 6, 7, 8, 9, 10, 11, 12, 13, 14, 15, 16, 17, 18]] [(0, false, []), (1, false, []), (2, false, []), (3, false, []), (4, false, []), (5, false, []), (6, false, []), (7, false, []), (8, false, []), (9, false, []), (10, false, []), (11, false, []), (12, false, []), (13, false, []), (14, false, []), (15, false, []), (16, true, [12]), (17, false, []), (18, false, []), (19, true, [])] ?_
      (repeat (first | (with_reducible refine then_n ?_) | (with_reducible refine then_r ?_) | (with_reducible refine then_e ?_) | (with_reducible refine block_n ?_) | (with_reducible refine block_r ?_) | (with_reducible refine block_e ?_) | refine block_o ?_ | (with_reducible refine scope_n ?_) | (with_reducible refine scope_r ?_) | (with_reducible refine scope_e ?_) | (with_reducible refine code_seq ?_) | (with_reducible refine code_skip ?_) | (with_reducible refine code_label ?_) | (with_reducible refine code_block ?_) | (with_reducible refine code_scope ?_) | (with_reducible refine code_exit ?_) | (with_reducible refine code_ret ?_) | refine regq_to ?_ | (with_reducible refine run_nil ?_) | ((with_reducible refine run_probe ?_); refine runq_more ?_) | (with_reducible refine draw_nil ?_) | ((with_reducible refine draw_probe ?_); (first | refine drawq_more ?_ | refine drawq_as ?_)) | refine code_then ?_ | refine code_else ?_))
      (try simp only [List.setIfInBounds_toArray, List.set_cons_succ, List.set_cons_zero, List.getElem_toArray, List.getElem_cons_succ, List.getElem_cons_zero])
      have hif : i < l.length := h.rep.lt i (by simp)
      refine run_op fun K hK => ?_; rw [build_struct (ps := [(0, .string (str k)), (1, .int .i64 v)]) (cs := #[.string (str k), .int .i64 v, .int .i64 0, .int .i64 0]) rfl]; refine hK _ _ ?_; clear hK K
      (repeat (first | (with_reducible refine then_n ?_) | (with_reducible refine then_r ?_) | (with_reducible refine then_e ?_) | (with_reducible refine block_n ?_) | (with_reducible refine block_r ?_) | (with_reducible refine block_e ?_) | refine block_o ?_ | (with_reducible refine scope_n ?_) | (with_reducible refine scope_r ?_) | (with_reducible refine scope_e ?_) | (with_reducible refine code_seq ?_) | (with_reducible refine code_skip ?_) | (with_reducible refine code_label ?_) | (with_reducible refine code_block ?_) | (with_reducible refine code_scope ?_) | (with_reducible refine code_exit ?_) | (with_reducible refine code_ret ?_) | refine regq_to ?_ | (with_reducible refine run_nil ?_) | ((with_reducible refine run_probe ?_); refine runq_more ?_) | (with_reducible refine draw_nil ?_) | ((with_reducible refine draw_probe ?_); (first | refine drawq_more ?_ | refine drawq_as ?_)) | refine code_then ?_ | refine code_else ?_))
      refine run_op fun K hK => ?_; refine store_el_agg (x' := (⟨k, v, 0, 0⟩ : En Int)) hol (by (repeat (first | with_reducible exact Pick.head _ _ | with_reducible apply Pick.tail))) hs hif (by decide) (by simp [encE, Value.cell1]) (fun C2 ho2 => ?_); refine hK _ _ ?_; clear hK K
      (repeat (first | (with_reducible refine then_n ?_) | (with_reducible refine then_r ?_) | (with_reducible refine then_e ?_) | (with_reducible refine block_n ?_) | (with_reducible refine block_r ?_) | (with_reducible refine block_e ?_) | refine block_o ?_ | (with_reducible refine scope_n ?_) | (with_reducible refine scope_r ?_) | (with_reducible refine scope_e ?_) | (with_reducible refine code_seq ?_) | (with_reducible refine code_skip ?_) | (with_reducible refine code_label ?_) | (with_reducible refine code_block ?_) | (with_reducible refine code_scope ?_) | (with_reducible refine code_exit ?_) | (with_reducible refine code_ret ?_) | refine regq_to ?_ | (with_reducible refine run_nil ?_) | ((with_reducible refine run_probe ?_); refine runq_more ?_) | (with_reducible refine draw_nil ?_) | ((with_reducible refine draw_probe ?_); (first | refine drawq_more ?_ | refine drawq_as ?_)) | refine code_then ?_ | refine code_else ?_))
      have hcut := own_cut1 hof' (l := 0) (h' := f.length) (m := fc) (by omega) (by omega) (by omega) (Nat.le_refl _)
      rw [List.drop_zero, Nat.sub_zero, Nat.sub_zero, List.take_left' rfl] at hcut
      rw [show (((f.length + 1 : Nat) : Int) - 1).toNat = f.length from by omega]
      refine mid ⟨i, la, lc, l.set i ⟨k, v, 0, 0⟩, C2, cutA 1 fa 0 fc, fc, f, Cf, by unfold OwnE; rw [List.length_set]; exact ho2, hcut, ?_, ?_, ?_, ?_, by rw [List.length_set]; omega, by rw [List.length_set]; omega, rfl, rfl, by rw [List.length_set]⟩
      · intro j hj
        rw [List.getElem?_set_ne]
        rintro rfl
        exact (List.nodup_append.1 h.rep.nd).2.2 i hj i (by simp) rfl
      · simp [kv, hif]
      · have hnd := h.rep.nd
        refine (List.Perm.append_left pl ?_).nodup_iff.1 hnd
        exact List.perm_append_singleton i f
      · intro j hj; rw [List.length_set]; exact h.rep.lt j (by simp [hj])
  · rintro D L S ⟨i, la', lc', l', Cl', fa', fc', free', Cf', g1, g2, g3, g4, g5, g6, g7, g8, rfl, rfl, rfl⟩
    have hil : i < l'.length := by
      unfold kv at g4
      cases hl : l'[i]? with
      | none => rw [hl] at g4; cases g4
      | some e => exact (List.getElem?_eq_some_iff.1 hl).1
    (repeat (first | (with_reducible refine then_n ?_) | (with_reducible refine then_r ?_) | (with_reducible refine then_e ?_) | (with_reducible refine block_n ?_) | (with_reducible refine block_r ?_) | (with_reducible refine block_e ?_) | refine block_o ?_ | (with_reducible refine scope_n ?_) | (with_reducible refine scope_r ?_) | (with_reducible refine scope_e ?_) | (with_reducible refine code_seq ?_) | (with_reducible refine code_skip ?_) | (with_reducible refine code_label ?_) | (with_reducible refine code_block ?_) | (with_reducible refine code_scope ?_) | (with_reducible refine code_exit ?_) | (with_reducible refine code_ret ?_) | refine regq_to ?_ | (with_reducible refine run_nil ?_) | ((with_reducible refine run_probe ?_); refine runq_more ?_) | (with_reducible refine draw_nil ?_) | ((with_reducible refine draw_probe ?_); (first | refine drawq_more ?_ | refine drawq_as ?_)) | refine code_then ?_ | refine code_else ?_))
    refine run_op fun K hK => ?_; refine map_put him (by (repeat (first | with_reducible exact Pick.head _ _ | with_reducible apply Pick.tail))) (fun C9 him9 => ?_); refine hK _ _ ?_; clear hK K
    rw [mput_val nat64 m k i] at him9
    have hlast : lst (-1) pl = -1 ∨ ∃ j : Nat, lst (-1) pl = j ∧ j < l'.length := by
      rcases Classical.em (pl = []) with rfl | hne
      · exact .inl rfl
      · obtain ⟨j, hj, e⟩ := lst_neg pl (-1) hne
        have h1 := lk_lt _ _ _ h.rep.lk j hj
        have h2 := g3 j hj
        rw [List.getElem?_eq_getElem h1] at h2
        exact .inr ⟨j, e, (List.getElem?_eq_some_iff.1 h2).1⟩
    obtain ⟨q1, q2, q3⟩ := h.rep.put hk g3 g4 g5 g6
    (repeat (first | (with_reducible refine then_n ?_) | (with_reducible refine then_r ?_) | (with_reducible refine then_e ?_) | (with_reducible refine block_n ?_) | (with_reducible refine block_r ?_) | (with_reducible refine block_e ?_) | refine block_o ?_ | (with_reducible refine scope_n ?_) | (with_reducible refine scope_r ?_) | (with_reducible refine scope_e ?_) | (with_reducible refine code_seq ?_) | (with_reducible refine code_skip ?_) | (with_reducible refine code_label ?_) | (with_reducible refine code_block ?_) | (with_reducible refine code_scope ?_) | (with_reducible refine code_exit ?_) | (with_reducible refine code_ret ?_) | refine regq_to ?_ | (with_reducible refine run_nil ?_) | ((with_reducible refine run_probe ?_); refine runq_more ?_) | (with_reducible refine draw_nil ?_) | ((with_reducible refine draw_probe ?_); (first | refine drawq_more ?_ | refine drawq_as ?_)) | refine code_then ?_ | refine code_else ?_))
    refine run_op fun K hK => ?_; refine calls_to (hang_spec b room la' lc' fa' free'.length fc' r (hd pl (-1)) (lst (-1) pl) Cl' l' g1 i hil hlast) ?_; rintro v A ⟨C10, ho10, rfl⟩; (try simp only [List.nil_append, List.cons_append]); refine hK _ _ ?_; clear hK K; (repeat (first | (with_reducible refine then_n ?_) | (with_reducible refine then_r ?_) | (with_reducible refine then_e ?_) | (with_reducible refine block_n ?_) | (with_reducible refine block_r ?_) | (with_reducible refine block_e ?_) | refine block_o ?_ | (with_reducible refine scope_n ?_) | (with_reducible refine scope_r ?_) | (with_reducible refine scope_e ?_) | (with_reducible refine code_seq ?_) | (with_reducible refine code_skip ?_) | (with_reducible refine code_label ?_) | (with_reducible refine code_block ?_) | (with_reducible refine code_scope ?_) | (with_reducible refine code_exit ?_) | (with_reducible refine code_ret ?_) | refine regq_to ?_ | (with_reducible refine run_nil ?_) | ((with_reducible refine run_probe ?_); refine runq_more ?_) | (with_reducible refine draw_nil ?_) | ((with_reducible refine draw_probe ?_); (first | refine drawq_more ?_ | refine drawq_as ?_)) | refine code_then ?_ | refine code_else ?_))
    rw [q2, q3]
    refine back_tmp [[(b, tabO room la' l'.length lc' fa' free'.length fc' r (hd (pl ++ [i]) (-1)) (lst (-1) (pl ++ [i])))], C10, Cf', C9] ?_
    refine ⟨rfl, la', lc', haL l' i (lst (-1) pl), fa', fc', free', mput m k i, pl ++ [i], C10, Cf', C9, ⟨ho10, g2, him9, q1, hbig, by simp; omega, by rw [haL_length]; simp; omega, by rw [haL_length]; exact g8⟩, by rw [haL_length]⟩

end put
end Go.Proofs.Ytkgnhhpgnkkigaa

/- A table: another value, a key's value, no more, the last. Conditions: as each says. -/
set_option linter.unusedSimpArgs false
set_option linter.unusedVariables false
namespace Go.Proofs.Ytkgnhhpgnkkigaa
open Go Go.Ost Go.Tab

section ops
variable {b room : Nat} {la : Option Addr} {lc : Nat} {l : List (En Int)} {fa : Option Addr} {fc : Nat} {free : List Nat} {r : Nat} {m : List (List UInt8 × Nat)} {pl : List Nat} {es : List (List UInt8 × Int)} {Cl Cf Cm : Chunk}

theorem set_nil (k : List UInt8) (v : Value) : Meets Try.prog 22 [.pointer none, .string (str k), v] [] fun v A => v = .int .i64 6 ∧ A = [] := by
  refine spec_intro Try.func22 rfl (by kernel_rfl) (by rw [Try.ntmps22]; simp) fun F => ?_; rw [Try.ntmps22, Try.results22]
  (repeat (first | (with_reducible refine then_n ?_) | (with_reducible refine then_r ?_) | (with_reducible refine then_e ?_) | (with_reducible refine block_n ?_) | (with_reducible refine block_r ?_) | (with_reducible refine block_e ?_) | refine block_o ?_ | (with_reducible refine scope_n ?_) | (with_reducible refine scope_r ?_) | (with_reducible refine scope_e ?_) | (with_reducible refine code_seq ?_) | (with_reducible refine code_skip ?_) | (with_reducible refine code_label ?_) | (with_reducible refine code_block ?_) | (with_reducible refine code_scope ?_) | (with_reducible refine code_exit ?_) | (with_reducible refine code_ret ?_) | refine regq_to ?_ | (with_reducible refine run_nil ?_) | ((with_reducible refine run_probe ?_); refine runq_more ?_) | (with_reducible refine draw_nil ?_) | ((with_reducible refine draw_probe ?_); (first | refine drawq_more ?_ | refine drawq_as ?_)) | refine code_then ?_ | refine code_else ?_))
  refine run_op fun K hK => ?_; refine calls_to (place_nil k) ?_; rintro v A ⟨rfl, rfl⟩; (try simp only [List.nil_append, List.cons_append]); refine hK _ _ ?_; clear hK K; (repeat (first | (with_reducible refine then_n ?_) | (with_reducible refine then_r ?_) | (with_reducible refine then_e ?_) | (with_reducible refine block_n ?_) | (with_reducible refine block_r ?_) | (with_reducible refine block_e ?_) | refine block_o ?_ | (with_reducible refine scope_n ?_) | (with_reducible refine scope_r ?_) | (with_reducible refine scope_e ?_) | (with_reducible refine code_seq ?_) | (with_reducible refine code_skip ?_) | (with_reducible refine code_label ?_) | (with_reducible refine code_block ?_) | (with_reducible refine code_scope ?_) | (with_reducible refine code_exit ?_) | (with_reducible refine code_ret ?_) | refine regq_to ?_ | (with_reducible refine run_nil ?_) | ((with_reducible refine run_probe ?_); refine runq_more ?_) | (with_reducible refine draw_nil ?_) | ((with_reducible refine draw_probe ?_); (first | refine drawq_more ?_ | refine drawq_as ?_)) | refine code_then ?_ | refine code_else ?_))
  refine back_tmp [] ?_; exact ⟨rfl, rfl⟩
theorem get_nil (k : List UInt8) : Meets Try.prog 30 [.pointer none, .string (str k)] [] fun v A => v = .tuple #[.int .i64 0, .bool false] ∧ A = [] := by
  refine spec_intro Try.func30 rfl (by kernel_rfl) (by rw [Try.ntmps30]; simp) fun F => ?_; rw [Try.ntmps30, Try.results30]
  (repeat (first | (with_reducible refine then_n ?_) | (with_reducible refine then_r ?_) | (with_reducible refine then_e ?_) | (with_reducible refine block_n ?_) | (with_reducible refine block_r ?_) | (with_reducible refine block_e ?_) | refine block_o ?_ | (with_reducible refine scope_n ?_) | (with_reducible refine scope_r ?_) | (with_reducible refine scope_e ?_) | (with_reducible refine code_seq ?_) | (with_reducible refine code_skip ?_) | (with_reducible refine code_label ?_) | (with_reducible refine code_block ?_) | (with_reducible refine code_scope ?_) | (with_reducible refine code_exit ?_) | (with_reducible refine code_ret ?_) | refine regq_to ?_ | (with_reducible refine run_nil ?_) | ((with_reducible refine run_probe ?_); refine runq_more ?_) | (with_reducible refine draw_nil ?_) | ((with_reducible refine draw_probe ?_); (first | refine drawq_more ?_ | refine drawq_as ?_)) | refine code_then ?_ | refine code_else ?_))
  refine run_op fun K hK => ?_; refine calls_to (place_nil k) ?_; rintro v A ⟨rfl, rfl⟩; (try simp only [List.nil_append, List.cons_append]); refine hK _ _ ?_; clear hK K; (repeat (first | (with_reducible refine then_n ?_) | (with_reducible refine then_r ?_) | (with_reducible refine then_e ?_) | (with_reducible refine block_n ?_) | (with_reducible refine block_r ?_) | (with_reducible refine block_e ?_) | refine block_o ?_ | (with_reducible refine scope_n ?_) | (with_reducible refine scope_r ?_) | (with_reducible refine scope_e ?_) | (with_reducible refine code_seq ?_) | (with_reducible refine code_skip ?_) | (with_reducible refine code_label ?_) | (with_reducible refine code_block ?_) | (with_reducible refine code_scope ?_) | (with_reducible refine code_exit ?_) | (with_reducible refine code_ret ?_) | refine regq_to ?_ | (with_reducible refine run_nil ?_) | ((with_reducible refine run_probe ?_); refine runq_more ?_) | (with_reducible refine draw_nil ?_) | ((with_reducible refine draw_probe ?_); (first | refine drawq_more ?_ | refine drawq_as ?_)) | refine code_then ?_ | refine code_else ?_))
  refine back_cells [] ?_; exact ⟨rfl, rfl⟩
theorem drop_nil (k : List UInt8) : Meets Try.prog 13 [.pointer none, .string (str k)] [] fun v A => v = .int .i64 6 ∧ A = [] := by
  refine spec_intro Try.func13 rfl (by kernel_rfl) (by rw [Try.ntmps13]; simp) fun F => ?_; rw [Try.ntmps13, Try.results13]
  (repeat (first | (with_reducible refine then_n ?_) | (with_reducible refine then_r ?_) | (with_reducible refine then_e ?_) | (with_reducible refine block_n ?_) | (with_reducible refine block_r ?_) | (with_reducible refine block_e ?_) | refine block_o ?_ | (with_reducible refine scope_n ?_) | (with_reducible refine scope_r ?_) | (with_reducible refine scope_e ?_) | (with_reducible refine code_seq ?_) | (with_reducible refine code_skip ?_) | (with_reducible refine code_label ?_) | (with_reducible refine code_block ?_) | (with_reducible refine code_scope ?_) | (with_reducible refine code_exit ?_) | (with_reducible refine code_ret ?_) | refine regq_to ?_ | (with_reducible refine run_nil ?_) | ((with_reducible refine run_probe ?_); refine runq_more ?_) | (with_reducible refine draw_nil ?_) | ((with_reducible refine draw_probe ?_); (first | refine drawq_more ?_ | refine drawq_as ?_)) | refine code_then ?_ | refine code_else ?_))
  refine run_op fun K hK => ?_; refine calls_to (place_nil k) ?_; rintro v A ⟨rfl, rfl⟩; (try simp only [List.nil_append, List.cons_append]); refine hK _ _ ?_; clear hK K; (repeat (first | (with_reducible refine then_n ?_) | (with_reducible refine then_r ?_) | (with_reducible refine then_e ?_) | (with_reducible refine block_n ?_) | (with_reducible refine block_r ?_) | (with_reducible refine block_e ?_) | refine block_o ?_ | (with_reducible refine scope_n ?_) | (with_reducible refine scope_r ?_) | (with_reducible refine scope_e ?_) | (with_reducible refine code_seq ?_) | (with_reducible refine code_skip ?_) | (with_reducible refine code_label ?_) | (with_reducible refine code_block ?_) | (with_reducible refine code_scope ?_) | (with_reducible refine code_exit ?_) | (with_reducible refine code_ret ?_) | refine regq_to ?_ | (with_reducible refine run_nil ?_) | ((with_reducible refine run_probe ?_); refine runq_more ?_) | (with_reducible refine draw_nil ?_) | ((with_reducible refine draw_probe ?_); (first | refine drawq_more ?_ | refine drawq_as ?_)) | refine code_then ?_ | refine code_else ?_))
  refine back_tmp [] ?_; exact ⟨rfl, rfl⟩
theorem renew_nil (k : List UInt8) : Meets Try.prog 18 [.pointer none, .string (str k)] [] fun v A => v = .int .i64 6 ∧ A = [] := by
  refine spec_intro Try.func18 rfl (by kernel_rfl) (by rw [Try.ntmps18]; simp) fun F => ?_; rw [Try.ntmps18, Try.results18]
  (repeat (first | (with_reducible refine then_n ?_) | (with_reducible refine then_r ?_) | (with_reducible refine then_e ?_) | (with_reducible refine block_n ?_) | (with_reducible refine block_r ?_) | (with_reducible refine block_e ?_) | refine block_o ?_ | (with_reducible refine scope_n ?_) | (with_reducible refine scope_r ?_) | (with_reducible refine scope_e ?_) | (with_reducible refine code_seq ?_) | (with_reducible refine code_skip ?_) | (with_reducible refine code_label ?_) | (with_reducible refine code_block ?_) | (with_reducible refine code_scope ?_) | (with_reducible refine code_exit ?_) | (with_reducible refine code_ret ?_) | refine regq_to ?_ | (with_reducible refine run_nil ?_) | ((with_reducible refine run_probe ?_); refine runq_more ?_) | (with_reducible refine draw_nil ?_) | ((with_reducible refine draw_probe ?_); (first | refine drawq_more ?_ | refine drawq_as ?_)) | refine code_then ?_ | refine code_else ?_))
  refine run_op fun K hK => ?_; refine calls_to (place_nil k) ?_; rintro v A ⟨rfl, rfl⟩; (try simp only [List.nil_append, List.cons_append]); refine hK _ _ ?_; clear hK K; (repeat (first | (with_reducible refine then_n ?_) | (with_reducible refine then_r ?_) | (with_reducible refine then_e ?_) | (with_reducible refine block_n ?_) | (with_reducible refine block_r ?_) | (with_reducible refine block_e ?_) | refine block_o ?_ | (with_reducible refine scope_n ?_) | (with_reducible refine scope_r ?_) | (with_reducible refine scope_e ?_) | (with_reducible refine code_seq ?_) | (with_reducible refine code_skip ?_) | (with_reducible refine code_label ?_) | (with_reducible refine code_block ?_) | (with_reducible refine code_scope ?_) | (with_reducible refine code_exit ?_) | (with_reducible refine code_ret ?_) | refine regq_to ?_ | (with_reducible refine run_nil ?_) | ((with_reducible refine run_probe ?_); refine runq_more ?_) | (with_reducible refine draw_nil ?_) | ((with_reducible refine draw_probe ?_); (first | refine drawq_more ?_ | refine drawq_as ?_)) | refine code_then ?_ | refine code_else ?_))
  refine back_tmp [] ?_; exact ⟨rfl, rfl⟩

theorem set_miss (h : Lies4 room la lc l fa fc free r m pl es Cl Cf Cm) (k : List UInt8) (v : Value) (hk : mget es k = none) :
    Meets Try.prog 22 [.pointer (some ⟨b, 0, none⟩), .string (str k), v] [[(b, tabO room la l.length lc fa free.length fc r (hd pl (-1)) (lst (-1) pl))], Cm]
      fun v A => v = .int .i64 6 ∧ A = [[(b, tabO room la l.length lc fa free.length fc r (hd pl (-1)) (lst (-1) pl))], Cm] := by
  have hm := h.rep.miss.2 hk
  refine spec_intro Try.func22 rfl (by kernel_rfl) (by rw [Try.ntmps22]; simp) fun F => ?_; rw [Try.ntmps22, Try.results22]
  (repeat (first | (with_reducible refine then_n ?_) | (with_reducible refine then_r ?_) | (with_reducible refine then_e ?_) | (with_reducible refine block_n ?_) | (with_reducible refine block_r ?_) | (with_reducible refine block_e ?_) | refine block_o ?_ | (with_reducible refine scope_n ?_) | (with_reducible refine scope_r ?_) | (with_reducible refine scope_e ?_) | (with_reducible refine code_seq ?_) | (with_reducible refine code_skip ?_) | (with_reducible refine code_label ?_) | (with_reducible refine code_block ?_) | (with_reducible refine code_scope ?_) | (with_reducible refine code_exit ?_) | (with_reducible refine code_ret ?_) | refine regq_to ?_ | (with_reducible refine run_nil ?_) | ((with_reducible refine run_probe ?_); refine runq_more ?_) | (with_reducible refine draw_nil ?_) | ((with_reducible refine draw_probe ?_); (first | refine drawq_more ?_ | refine drawq_as ?_)) | refine code_then ?_ | refine code_else ?_))
  refine run_op fun K hK => ?_; refine calls_to (place_spec b room la l.length lc fa free.length fc r _ _ Cm m h.im k) ?_; rintro v A ⟨rfl, rfl⟩; (try simp only [List.nil_append, List.cons_append]); refine hK _ _ ?_; clear hK K; (repeat (first | (with_reducible refine then_n ?_) | (with_reducible refine then_r ?_) | (with_reducible refine then_e ?_) | (with_reducible refine block_n ?_) | (with_reducible refine block_r ?_) | (with_reducible refine block_e ?_) | refine block_o ?_ | (with_reducible refine scope_n ?_) | (with_reducible refine scope_r ?_) | (with_reducible refine scope_e ?_) | (with_reducible refine code_seq ?_) | (with_reducible refine code_skip ?_) | (with_reducible refine code_label ?_) | (with_reducible refine code_block ?_) | (with_reducible refine code_scope ?_) | (with_reducible refine code_exit ?_) | (with_reducible refine code_ret ?_) | refine regq_to ?_ | (with_reducible refine run_nil ?_) | ((with_reducible refine run_probe ?_); refine runq_more ?_) | (with_reducible refine draw_nil ?_) | ((with_reducible refine draw_probe ?_); (first | refine drawq_more ?_ | refine drawq_as ?_)) | refine code_then ?_ | refine code_else ?_))
  rw [hm]
  (repeat (first | (with_reducible refine then_n ?_) | (with_reducible refine then_r ?_) | (with_reducible refine then_e ?_) | (with_reducible refine block_n ?_) | (with_reducible refine block_r ?_) | (with_reducible refine block_e ?_) | refine block_o ?_ | (with_reducible refine scope_n ?_) | (with_reducible refine scope_r ?_) | (with_reducible refine scope_e ?_) | (with_reducible refine code_seq ?_) | (with_reducible refine code_skip ?_) | (with_reducible refine code_label ?_) | (with_reducible refine code_block ?_) | (with_reducible refine code_scope ?_) | (with_reducible refine code_exit ?_) | (with_reducible refine code_ret ?_) | refine regq_to ?_ | (with_reducible refine run_nil ?_) | ((with_reducible refine run_probe ?_); refine runq_more ?_) | (with_reducible refine draw_nil ?_) | ((with_reducible refine draw_probe ?_); (first | refine drawq_more ?_ | refine drawq_as ?_)) | refine code_then ?_ | refine code_else ?_))
  refine back_tmp [[(b, tabO room la l.length lc fa free.length fc r (hd pl (-1)) (lst (-1) pl))], Cm] ?_; exact ⟨rfl, rfl⟩
theorem get_miss (h : Lies4 room la lc l fa fc free r m pl es Cl Cf Cm) (k : List UInt8) (hk : mget es k = none) :
    Meets Try.prog 30 [.pointer (some ⟨b, 0, none⟩), .string (str k)] [[(b, tabO room la l.length lc fa free.length fc r (hd pl (-1)) (lst (-1) pl))], Cm]
      fun v A => v = .tuple #[.int .i64 0, .bool false] ∧ A = [[(b, tabO room la l.length lc fa free.length fc r (hd pl (-1)) (lst (-1) pl))], Cm] := by
  have hm := h.rep.miss.2 hk
  refine spec_intro Try.func30 rfl (by kernel_rfl) (by rw [Try.ntmps30]; simp) fun F => ?_; rw [Try.ntmps30, Try.results30]
  (repeat (first | (with_reducible refine then_n ?_) | (with_reducible refine then_r ?_) | (with_reducible refine then_e ?_) | (with_reducible refine block_n ?_) | (with_reducible refine block_r ?_) | (with_reducible refine block_e ?_) | refine block_o ?_ | (with_reducible refine scope_n ?_) | (with_reducible refine scope_r ?_) | (with_reducible refine scope_e ?_) | (with_reducible refine code_seq ?_) | (with_reducible refine code_skip ?_) | (with_reducible refine code_label ?_) | (with_reducible refine code_block ?_) | (with_reducible refine code_scope ?_) | (with_reducible refine code_exit ?_) | (with_reducible refine code_ret ?_) | refine regq_to ?_ | (with_reducible refine run_nil ?_) | ((with_reducible refine run_probe ?_); refine runq_more ?_) | (with_reducible refine draw_nil ?_) | ((with_reducible refine draw_probe ?_); (first | refine drawq_more ?_ | refine drawq_as ?_)) | refine code_then ?_ | refine code_else ?_))
  refine run_op fun K hK => ?_; refine calls_to (place_spec b room la l.length lc fa free.length fc r _ _ Cm m h.im k) ?_; rintro v A ⟨rfl, rfl⟩; (try simp only [List.nil_append, List.cons_append]); refine hK _ _ ?_; clear hK K; (repeat (first | (with_reducible refine then_n ?_) | (with_reducible refine then_r ?_) | (with_reducible refine then_e ?_) | (with_reducible refine block_n ?_) | (with_reducible refine block_r ?_) | (with_reducible refine block_e ?_) | refine block_o ?_ | (with_reducible refine scope_n ?_) | (with_reducible refine scope_r ?_) | (with_reducible refine scope_e ?_) | (with_reducible refine code_seq ?_) | (with_reducible refine code_skip ?_) | (with_reducible refine code_label ?_) | (with_reducible refine code_block ?_) | (with_reducible refine code_scope ?_) | (with_reducible refine code_exit ?_) | (with_reducible refine code_ret ?_) | refine regq_to ?_ | (with_reducible refine run_nil ?_) | ((with_reducible refine run_probe ?_); refine runq_more ?_) | (with_reducible refine draw_nil ?_) | ((with_reducible refine draw_probe ?_); (first | refine drawq_more ?_ | refine drawq_as ?_)) | refine code_then ?_ | refine code_else ?_))
  rw [hm]
  (repeat (first | (with_reducible refine then_n ?_) | (with_reducible refine then_r ?_) | (with_reducible refine then_e ?_) | (with_reducible refine block_n ?_) | (with_reducible refine block_r ?_) | (with_reducible refine block_e ?_) | refine block_o ?_ | (with_reducible refine scope_n ?_) | (with_reducible refine scope_r ?_) | (with_reducible refine scope_e ?_) | (with_reducible refine code_seq ?_) | (with_reducible refine code_skip ?_) | (with_reducible refine code_label ?_) | (with_reducible refine code_block ?_) | (with_reducible refine code_scope ?_) | (with_reducible refine code_exit ?_) | (with_reducible refine code_ret ?_) | refine regq_to ?_ | (with_reducible refine run_nil ?_) | ((with_reducible refine run_probe ?_); refine runq_more ?_) | (with_reducible refine draw_nil ?_) | ((with_reducible refine draw_probe ?_); (first | refine drawq_more ?_ | refine drawq_as ?_)) | refine code_then ?_ | refine code_else ?_))
  refine back_cells [[(b, tabO room la l.length lc fa free.length fc r (hd pl (-1)) (lst (-1) pl))], Cm] ?_; exact ⟨rfl, rfl⟩
theorem drop_miss (h : Lies4 room la lc l fa fc free r m pl es Cl Cf Cm) (k : List UInt8) (hk : mget es k = none) :
    Meets Try.prog 13 [.pointer (some ⟨b, 0, none⟩), .string (str k)] [[(b, tabO room la l.length lc fa free.length fc r (hd pl (-1)) (lst (-1) pl))], Cm]
      fun v A => v = .int .i64 6 ∧ A = [[(b, tabO room la l.length lc fa free.length fc r (hd pl (-1)) (lst (-1) pl))], Cm] := by
  have hm := h.rep.miss.2 hk
  refine spec_intro Try.func13 rfl (by kernel_rfl) (by rw [Try.ntmps13]; simp) fun F => ?_; rw [Try.ntmps13, Try.results13]
  (repeat (first | (with_reducible refine then_n ?_) | (with_reducible refine then_r ?_) | (with_reducible refine then_e ?_) | (with_reducible refine block_n ?_) | (with_reducible refine block_r ?_) | (with_reducible refine block_e ?_) | refine block_o ?_ | (with_reducible refine scope_n ?_) | (with_reducible refine scope_r ?_) | (with_reducible refine scope_e ?_) | (with_reducible refine code_seq ?_) | (with_reducible refine code_skip ?_) | (with_reducible refine code_label ?_) | (with_reducible refine code_block ?_) | (with_reducible refine code_scope ?_) | (with_reducible refine code_exit ?_) | (with_reducible refine code_ret ?_) | refine regq_to ?_ | (with_reducible refine run_nil ?_) | ((with_reducible refine run_probe ?_); refine runq_more ?_) | (with_reducible refine draw_nil ?_) | ((with_reducible refine draw_probe ?_); (first | refine drawq_more ?_ | refine drawq_as ?_)) | refine code_then ?_ | refine code_else ?_))
  refine run_op fun K hK => ?_; refine calls_to (place_spec b room la l.length lc fa free.length fc r _ _ Cm m h.im k) ?_; rintro v A ⟨rfl, rfl⟩; (try simp only [List.nil_append, List.cons_append]); refine hK _ _ ?_; clear hK K; (repeat (first | (with_reducible refine then_n ?_) | (with_reducible refine then_r ?_) | (with_reducible refine then_e ?_) | (with_reducible refine block_n ?_) | (with_reducible refine block_r ?_) | (with_reducible refine block_e ?_) | refine block_o ?_ | (with_reducible refine scope_n ?_) | (with_reducible refine scope_r ?_) | (with_reducible refine scope_e ?_) | (with_reducible refine code_seq ?_) | (with_reducible refine code_skip ?_) | (with_reducible refine code_label ?_) | (with_reducible refine code_block ?_) | (with_reducible refine code_scope ?_) | (with_reducible refine code_exit ?_) | (with_reducible refine code_ret ?_) | refine regq_to ?_ | (with_reducible refine run_nil ?_) | ((with_reducible refine run_probe ?_); refine runq_more ?_) | (with_reducible refine draw_nil ?_) | ((with_reducible refine draw_probe ?_); (first | refine drawq_more ?_ | refine drawq_as ?_)) | refine code_then ?_ | refine code_else ?_))
  rw [hm]
  (repeat (first | (with_reducible refine then_n ?_) | (with_reducible refine then_r ?_) | (with_reducible refine then_e ?_) | (with_reducible refine block_n ?_) | (with_reducible refine block_r ?_) | (with_reducible refine block_e ?_) | refine block_o ?_ | (with_reducible refine scope_n ?_) | (with_reducible refine scope_r ?_) | (with_reducible refine scope_e ?_) | (with_reducible refine code_seq ?_) | (with_reducible refine code_skip ?_) | (with_reducible refine code_label ?_) | (with_reducible refine code_block ?_) | (with_reducible refine code_scope ?_) | (with_reducible refine code_exit ?_) | (with_reducible refine code_ret ?_) | refine regq_to ?_ | (with_reducible refine run_nil ?_) | ((with_reducible refine run_probe ?_); refine runq_more ?_) | (with_reducible refine draw_nil ?_) | ((with_reducible refine draw_probe ?_); (first | refine drawq_more ?_ | refine drawq_as ?_)) | refine code_then ?_ | refine code_else ?_))
  refine back_tmp [[(b, tabO room la l.length lc fa free.length fc r (hd pl (-1)) (lst (-1) pl))], Cm] ?_; exact ⟨rfl, rfl⟩
theorem renew_miss (h : Lies4 room la lc l fa fc free r m pl es Cl Cf Cm) (k : List UInt8) (hk : mget es k = none) :
    Meets Try.prog 18 [.pointer (some ⟨b, 0, none⟩), .string (str k)] [[(b, tabO room la l.length lc fa free.length fc r (hd pl (-1)) (lst (-1) pl))], Cm]
      fun v A => v = .int .i64 6 ∧ A = [[(b, tabO room la l.length lc fa free.length fc r (hd pl (-1)) (lst (-1) pl))], Cm] := by
  have hm := h.rep.miss.2 hk
  refine spec_intro Try.func18 rfl (by kernel_rfl) (by rw [Try.ntmps18]; simp) fun F => ?_; rw [Try.ntmps18, Try.results18]
  (repeat (first | (with_reducible refine then_n ?_) | (with_reducible refine then_r ?_) | (with_reducible refine then_e ?_) | (with_reducible refine block_n ?_) | (with_reducible refine block_r ?_) | (with_reducible refine block_e ?_) | refine block_o ?_ | (with_reducible refine scope_n ?_) | (with_reducible refine scope_r ?_) | (with_reducible refine scope_e ?_) | (with_reducible refine code_seq ?_) | (with_reducible refine code_skip ?_) | (with_reducible refine code_label ?_) | (with_reducible refine code_block ?_) | (with_reducible refine code_scope ?_) | (with_reducible refine code_exit ?_) | (with_reducible refine code_ret ?_) | refine regq_to ?_ | (with_reducible refine run_nil ?_) | ((with_reducible refine run_probe ?_); refine runq_more ?_) | (with_reducible refine draw_nil ?_) | ((with_reducible refine draw_probe ?_); (first | refine drawq_more ?_ | refine drawq_as ?_)) | refine code_then ?_ | refine code_else ?_))
  refine run_op fun K hK => ?_; refine calls_to (place_spec b room la l.length lc fa free.length fc r _ _ Cm m h.im k) ?_; rintro v A ⟨rfl, rfl⟩; (try simp only [List.nil_append, List.cons_append]); refine hK _ _ ?_; clear hK K; (repeat (first | (with_reducible refine then_n ?_) | (with_reducible refine then_r ?_) | (with_reducible refine then_e ?_) | (with_reducible refine block_n ?_) | (with_reducible refine block_r ?_) | (with_reducible refine block_e ?_) | refine block_o ?_ | (with_reducible refine scope_n ?_) | (with_reducible refine scope_r ?_) | (with_reducible refine scope_e ?_) | (with_reducible refine code_seq ?_) | (with_reducible refine code_skip ?_) | (with_reducible refine code_label ?_) | (with_reducible refine code_block ?_) | (with_reducible refine code_scope ?_) | (with_reducible refine code_exit ?_) | (with_reducible refine code_ret ?_) | refine regq_to ?_ | (with_reducible refine run_nil ?_) | ((with_reducible refine run_probe ?_); refine runq_more ?_) | (with_reducible refine draw_nil ?_) | ((with_reducible refine draw_probe ?_); (first | refine drawq_more ?_ | refine drawq_as ?_)) | refine code_then ?_ | refine code_else ?_))
  rw [hm]
  (repeat (first | (with_reducible refine then_n ?_) | (with_reducible refine then_r ?_) | (with_reducible refine then_e ?_) | (with_reducible refine block_n ?_) | (with_reducible refine block_r ?_) | (with_reducible refine block_e ?_) | refine block_o ?_ | (with_reducible refine scope_n ?_) | (with_reducible refine scope_r ?_) | (with_reducible refine scope_e ?_) | (with_reducible refine code_seq ?_) | (with_reducible refine code_skip ?_) | (with_reducible refine code_label ?_) | (with_reducible refine code_block ?_) | (with_reducible refine code_scope ?_) | (with_reducible refine code_exit ?_) | (with_reducible refine code_ret ?_) | refine regq_to ?_ | (with_reducible refine run_nil ?_) | ((with_reducible refine run_probe ?_); refine runq_more ?_) | (with_reducible refine draw_nil ?_) | ((with_reducible refine draw_probe ?_); (first | refine drawq_more ?_ | refine drawq_as ?_)) | refine code_then ?_ | refine code_else ?_))
  refine back_tmp [[(b, tabO room la l.length lc fa free.length fc r (hd pl (-1)) (lst (-1) pl))], Cm] ?_; exact ⟨rfl, rfl⟩

theorem Lies4.place (h : Lies4 room la lc l fa fc free r m pl es Cl Cf Cm) {k : List UInt8} {v : Int} (hk : mget es k = some v) : ∃ i, mget m k = some i ∧ i < l.length ∧ kv l i = some (k, v) := by
  cases hm : mget m k with
  | none => rw [h.rep.miss.1 hm] at hk; cases hk
  | some i =>
    obtain ⟨v', p, q, pre, post, h1, h2, h3, h4, h5, _⟩ := h.rep.at hm
    rw [hk] at h5; cases h5
    refine ⟨i, rfl, ?_, h4⟩
    unfold kv at h4
    cases hl : l[i]? with
    | none => rw [hl] at h4; cases h4
    | some e => exact (List.getElem?_eq_some_iff.1 hl).1

theorem set_ok (h : Lies4 room la lc l fa fc free r m pl es Cl Cf Cm) (k : List UInt8) (v u : Int) (hk : mget es k = some u) :
    Meets Try.prog 22 [.pointer (some ⟨b, 0, none⟩), .string (str k), .int .i64 v] [[(b, tabO room la l.length lc fa free.length fc r (hd pl (-1)) (lst (-1) pl))], Cl, Cm]
      fun v' A => v' = .int .i64 0 ∧ ∃ l Cl', Lies4 room la lc l fa fc free r m pl (mput es k v) Cl' Cf Cm ∧ A = [[(b, tabO room la l.length lc fa free.length fc r (hd pl (-1)) (lst (-1) pl))], Cl', Cm] := by
  obtain ⟨i, hm, hi, hkv⟩ := h.place hk
  have hs := encE_len
  have hx : l[i]? = some l[i] := List.getElem?_eq_getElem hi
  have hol := h.ol
  have hlen : (mput es k v).length = es.length := by
    have := congrArg List.length (mput_keys_old k v es (by rw [hk]; simp)); simpa using this
  refine spec_intro Try.func22 rfl (by kernel_rfl) (by rw [Try.ntmps22]; simp) fun F => ?_; rw [Try.ntmps22, Try.results22]
  (repeat (first | (with_reducible refine then_n ?_) | (with_reducible refine then_r ?_) | (with_reducible refine then_e ?_) | (with_reducible refine block_n ?_) | (with_reducible refine block_r ?_) | (with_reducible refine block_e ?_) | refine block_o ?_ | (with_reducible refine scope_n ?_) | (with_reducible refine scope_r ?_) | (with_reducible refine scope_e ?_) | (with_reducible refine code_seq ?_) | (with_reducible refine code_skip ?_) | (with_reducible refine code_label ?_) | (with_reducible refine code_block ?_) | (with_reducible refine code_scope ?_) | (with_reducible refine code_exit ?_) | (with_reducible refine code_ret ?_) | refine regq_to ?_ | (with_reducible refine run_nil ?_) | ((with_reducible refine run_probe ?_); refine runq_more ?_) | (with_reducible refine draw_nil ?_) | ((with_reducible refine draw_probe ?_); (first | refine drawq_more ?_ | refine drawq_as ?_)) | refine code_then ?_ | refine code_else ?_))
  refine run_op fun K hK => ?_; refine calls_to (place_spec b room la l.length lc fa free.length fc r _ _ Cm m h.im k) ?_; rintro v A ⟨rfl, rfl⟩; (try simp only [List.nil_append, List.cons_append]); refine hK _ _ ?_; clear hK K; (repeat (first | (with_reducible refine then_n ?_) | (with_reducible refine then_r ?_) | (with_reducible refine then_e ?_) | (with_reducible refine block_n ?_) | (with_reducible refine block_r ?_) | (with_reducible refine block_e ?_) | refine block_o ?_ | (with_reducible refine scope_n ?_) | (with_reducible refine scope_r ?_) | (with_reducible refine scope_e ?_) | (with_reducible refine code_seq ?_) | (with_reducible refine code_skip ?_) | (with_reducible refine code_label ?_) | (with_reducible refine code_block ?_) | (with_reducible refine code_scope ?_) | (with_reducible refine code_exit ?_) | (with_reducible refine code_ret ?_) | refine regq_to ?_ | (with_reducible refine run_nil ?_) | ((with_reducible refine run_probe ?_); refine runq_more ?_) | (with_reducible refine draw_nil ?_) | ((with_reducible refine draw_probe ?_); (first | refine drawq_more ?_ | refine drawq_as ?_)) | refine code_then ?_ | refine code_else ?_))
  rw [hm]
  (repeat (first | (with_reducible refine then_n ?_) | (with_reducible refine then_r ?_) | (with_reducible refine then_e ?_) | (with_reducible refine block_n ?_) | (with_reducible refine block_r ?_) | (with_reducible refine block_e ?_) | refine block_o ?_ | (with_reducible refine scope_n ?_) | (with_reducible refine scope_r ?_) | (with_reducible refine scope_e ?_) | (with_reducible refine code_seq ?_) | (with_reducible refine code_skip ?_) | (with_reducible refine code_label ?_) | (with_reducible refine code_block ?_) | (with_reducible refine code_scope ?_) | (with_reducible refine code_exit ?_) | (with_reducible refine code_ret ?_) | refine regq_to ?_ | (with_reducible refine run_nil ?_) | ((with_reducible refine run_probe ?_); refine runq_more ?_) | (with_reducible refine draw_nil ?_) | ((with_reducible refine draw_probe ?_); (first | refine drawq_more ?_ | refine drawq_as ?_)) | refine code_then ?_ | refine code_else ?_))
  refine run_op fun K hK => ?_; refine store_el hol (by (repeat (first | with_reducible exact Pick.head _ _ | with_reducible apply Pick.tail))) hs hx trivial (x' := { l[i] with v := v }) rfl (by decide) (fun C2 ho2 => ?_); refine hK _ _ ?_; clear hK K
  rw [setV_set v hx] at ho2
  (repeat (first | (with_reducible refine then_n ?_) | (with_reducible refine then_r ?_) | (with_reducible refine then_e ?_) | (with_reducible refine block_n ?_) | (with_reducible refine block_r ?_) | (with_reducible refine block_e ?_) | refine block_o ?_ | (with_reducible refine scope_n ?_) | (with_reducible refine scope_r ?_) | (with_reducible refine scope_e ?_) | (with_reducible refine code_seq ?_) | (with_reducible refine code_skip ?_) | (with_reducible refine code_label ?_) | (with_reducible refine code_block ?_) | (with_reducible refine code_scope ?_) | (with_reducible refine code_exit ?_) | (with_reducible refine code_ret ?_) | refine regq_to ?_ | (with_reducible refine run_nil ?_) | ((with_reducible refine run_probe ?_); refine runq_more ?_) | (with_reducible refine draw_nil ?_) | ((with_reducible refine draw_probe ?_); (first | refine drawq_more ?_ | refine drawq_as ?_)) | refine code_then ?_ | refine code_else ?_))
  refine back_tmp [[(b, tabO room la l.length lc fa free.length fc r (hd pl (-1)) (lst (-1) pl))], C2, Cm] ?_
  exact ⟨rfl, setV l i v, C2, ⟨by unfold OwnE; rw [setV_length]; exact ho2, h.ofr, h.im, h.rep.set hm v, h.big, by rw [hlen]; exact h.fits, by rw [setV_length, hlen]; exact h.all, by rw [setV_length]; exact h.ll⟩, by rw [setV_length]⟩

theorem get_ok (h : Lies4 room la lc l fa fc free r m pl es Cl Cf Cm) (k : List UInt8) (v : Int) (hk : mget es k = some v) :
    Meets Try.prog 30 [.pointer (some ⟨b, 0, none⟩), .string (str k)] [[(b, tabO room la l.length lc fa free.length fc r (hd pl (-1)) (lst (-1) pl))], Cl, Cm]
      fun v' A => v' = .tuple #[.int .i64 v, .bool true] ∧ A = [[(b, tabO room la l.length lc fa free.length fc r (hd pl (-1)) (lst (-1) pl))], Cl, Cm] := by
  obtain ⟨i, hm, hi, hkv⟩ := h.place hk
  have hs := encE_len
  have hx : l[i]? = some l[i] := List.getElem?_eq_getElem hi
  have hol := h.ol
  have hv : l[i].v = v := by unfold kv at hkv; rw [hx] at hkv; simp at hkv; exact hkv.2
  refine spec_intro Try.func30 rfl (by kernel_rfl) (by rw [Try.ntmps30]; simp) fun F => ?_; rw [Try.ntmps30, Try.results30]
  (repeat (first | (with_reducible refine then_n ?_) | (with_reducible refine then_r ?_) | (with_reducible refine then_e ?_) | (with_reducible refine block_n ?_) | (with_reducible refine block_r ?_) | (with_reducible refine block_e ?_) | refine block_o ?_ | (with_reducible refine scope_n ?_) | (with_reducible refine scope_r ?_) | (with_reducible refine scope_e ?_) | (with_reducible refine code_seq ?_) | (with_reducible refine code_skip ?_) | (with_reducible refine code_label ?_) | (with_reducible refine code_block ?_) | (with_reducible refine code_scope ?_) | (with_reducible refine code_exit ?_) | (with_reducible refine code_ret ?_) | refine regq_to ?_ | (with_reducible refine run_nil ?_) | ((with_reducible refine run_probe ?_); refine runq_more ?_) | (with_reducible refine draw_nil ?_) | ((with_reducible refine draw_probe ?_); (first | refine drawq_more ?_ | refine drawq_as ?_)) | refine code_then ?_ | refine code_else ?_))
  refine run_op fun K hK => ?_; refine calls_to (place_spec b room la l.length lc fa free.length fc r _ _ Cm m h.im k) ?_; rintro v A ⟨rfl, rfl⟩; (try simp only [List.nil_append, List.cons_append]); refine hK _ _ ?_; clear hK K; (repeat (first | (with_reducible refine then_n ?_) | (with_reducible refine then_r ?_) | (with_reducible refine then_e ?_) | (with_reducible refine block_n ?_) | (with_reducible refine block_r ?_) | (with_reducible refine block_e ?_) | refine block_o ?_ | (with_reducible refine scope_n ?_) | (with_reducible refine scope_r ?_) | (with_reducible refine scope_e ?_) | (with_reducible refine code_seq ?_) | (with_reducible refine code_skip ?_) | (with_reducible refine code_label ?_) | (with_reducible refine code_block ?_) | (with_reducible refine code_scope ?_) | (with_reducible refine code_exit ?_) | (with_reducible refine code_ret ?_) | refine regq_to ?_ | (with_reducible refine run_nil ?_) | ((with_reducible refine run_probe ?_); refine runq_more ?_) | (with_reducible refine draw_nil ?_) | ((with_reducible refine draw_probe ?_); (first | refine drawq_more ?_ | refine drawq_as ?_)) | refine code_then ?_ | refine code_else ?_))
  rw [hm]
  (repeat (first | (with_reducible refine then_n ?_) | (with_reducible refine then_r ?_) | (with_reducible refine then_e ?_) | (with_reducible refine block_n ?_) | (with_reducible refine block_r ?_) | (with_reducible refine block_e ?_) | refine block_o ?_ | (with_reducible refine scope_n ?_) | (with_reducible refine scope_r ?_) | (with_reducible refine scope_e ?_) | (with_reducible refine code_seq ?_) | (with_reducible refine code_skip ?_) | (with_reducible refine code_label ?_) | (with_reducible refine code_block ?_) | (with_reducible refine code_scope ?_) | (with_reducible refine code_exit ?_) | (with_reducible refine code_ret ?_) | refine regq_to ?_ | (with_reducible refine run_nil ?_) | ((with_reducible refine run_probe ?_); refine runq_more ?_) | (with_reducible refine draw_nil ?_) | ((with_reducible refine draw_probe ?_); (first | refine drawq_more ?_ | refine drawq_as ?_)) | refine code_then ?_ | refine code_else ?_))
  refine back_cells [[(b, tabO room la l.length lc fa free.length fc r (hd pl (-1)) (lst (-1) pl))], Cl, Cm] ?_; exact ⟨by show Value.tuple #[.int .i64 l[i].v, .bool true] = _; rw [hv], rfl⟩

end ops
end Go.Proofs.Ytkgnhhpgnkkigaa

/- A table: an entry that is no more, one that is the last. Conditions: as each says. -/
set_option linter.unusedSimpArgs false
set_option linter.unusedVariables false
namespace Go.Proofs.Ytkgnhhpgnkkigaa
open Go Go.Ost Go.Tab

section ops
variable {b room : Nat} {la : Option Addr} {lc : Nat} {l : List (En Int)} {fa : Option Addr} {fc : Nat} {free : List Nat} {r : Nat} {m : List (List UInt8 × Nat)} {pl : List Nat} {es : List (List UInt8 × Int)} {Cl Cf Cm : Chunk}

theorem drop_ok (h : Lies4 room la lc l fa fc free r m pl es Cl Cf Cm) (k : List UInt8) (u : Int) (hk : mget es k = some u) :
    Meets Try.prog 13 [.pointer (some ⟨b, 0, none⟩), .string (str k)] [[(b, tabO room la l.length lc fa free.length fc r (hd pl (-1)) (lst (-1) pl))], Cl, Cf, Cm]
      fun v' A => v' = .int .i64 0 ∧ ∃ la lc l fa fc free m pl Cl Cf Cm, Lies4 room la lc l fa fc free r m pl (mdel es k) Cl Cf Cm ∧ A = [[(b, tabO room la l.length lc fa free.length fc r (hd pl (-1)) (lst (-1) pl))], Cl, Cf, Cm] := by
  obtain ⟨i, hm, hi, hkv⟩ := h.place hk
  obtain ⟨a, n, e, hx, rfl, rfl, ha, hn, pl', hrep, q1, q2⟩ := h.rep.drop hm ⟨[], 0, 0, 0⟩
  have hs := encE_len
  have hlu := unL_length l e.ahead e.next
  have hll := h.ll
  have hbig := h.big
  have hall := h.all
  have hml := h.rep.mlen
  have hml' := hrep.mlen
  have hofr := h.ofr
  have him := h.im
  have hfits := h.fits
  have hlen : (mdel es k).length + 1 = es.length := by
    obtain ⟨pre, post, c1, _, c3, _⟩ := mget_split hk
    rw [c3, c1]; simp; omega
  refine spec_intro Try.func13 rfl (by kernel_rfl) (by rw [Try.ntmps13]; simp) fun F => ?_; rw [Try.ntmps13, Try.results13]
  (repeat (first | (with_reducible refine then_n ?_) | (with_reducible refine then_r ?_) | (with_reducible refine then_e ?_) | (with_reducible refine block_n ?_) | (with_reducible refine block_r ?_) | (with_reducible refine block_e ?_) | refine block_o ?_ | (with_reducible refine scope_n ?_) | (with_reducible refine scope_r ?_) | (with_reducible refine scope_e ?_) | (with_reducible refine code_seq ?_) | (with_reducible refine code_skip ?_) | (with_reducible refine code_label ?_) | (with_reducible refine code_block ?_) | (with_reducible refine code_scope ?_) | (with_reducible refine code_exit ?_) | (with_reducible refine code_ret ?_) | refine regq_to ?_ | (with_reducible refine run_nil ?_) | ((with_reducible refine run_probe ?_); refine runq_more ?_) | (with_reducible refine draw_nil ?_) | ((with_reducible refine draw_probe ?_); (first | refine drawq_more ?_ | refine drawq_as ?_)) | refine code_then ?_ | refine code_else ?_))
  refine run_op fun K hK => ?_; refine calls_to (place_spec b room la l.length lc fa free.length fc r _ _ Cm m h.im k) ?_; rintro v A ⟨rfl, rfl⟩; (try simp only [List.nil_append, List.cons_append]); refine hK _ _ ?_; clear hK K; (repeat (first | (with_reducible refine then_n ?_) | (with_reducible refine then_r ?_) | (with_reducible refine then_e ?_) | (with_reducible refine block_n ?_) | (with_reducible refine block_r ?_) | (with_reducible refine block_e ?_) | refine block_o ?_ | (with_reducible refine scope_n ?_) | (with_reducible refine scope_r ?_) | (with_reducible refine scope_e ?_) | (with_reducible refine code_seq ?_) | (with_reducible refine code_skip ?_) | (with_reducible refine code_label ?_) | (with_reducible refine code_block ?_) | (with_reducible refine code_scope ?_) | (with_reducible refine code_exit ?_) | (with_reducible refine code_ret ?_) | refine regq_to ?_ | (with_reducible refine run_nil ?_) | ((with_reducible refine run_probe ?_); refine runq_more ?_) | (with_reducible refine draw_nil ?_) | ((with_reducible refine draw_probe ?_); (first | refine drawq_more ?_ | refine drawq_as ?_)) | refine code_then ?_ | refine code_else ?_))
  rw [hm]
  (repeat (first | (with_reducible refine then_n ?_) | (with_reducible refine then_r ?_) | (with_reducible refine then_e ?_) | (with_reducible refine block_n ?_) | (with_reducible refine block_r ?_) | (with_reducible refine block_e ?_) | refine block_o ?_ | (with_reducible refine scope_n ?_) | (with_reducible refine scope_r ?_) | (with_reducible refine scope_e ?_) | (with_reducible refine code_seq ?_) | (with_reducible refine code_skip ?_) | (with_reducible refine code_label ?_) | (with_reducible refine code_block ?_) | (with_reducible refine code_scope ?_) | (with_reducible refine code_exit ?_) | (with_reducible refine code_ret ?_) | refine regq_to ?_ | (with_reducible refine run_nil ?_) | ((with_reducible refine run_probe ?_); refine runq_more ?_) | (with_reducible refine draw_nil ?_) | ((with_reducible refine draw_probe ?_); (first | refine drawq_more ?_ | refine drawq_as ?_)) | refine code_then ?_ | refine code_else ?_))
  refine run_op fun K hK => ?_; refine calls_to (unhang_spec b room la lc fa free.length fc r _ _ Cl l h.ol i e hx ha hn) ?_; rintro v A ⟨C1, ho1, rfl⟩; (try simp only [List.nil_append, List.cons_append]); refine hK _ _ ?_; clear hK K; (repeat (first | (with_reducible refine then_n ?_) | (with_reducible refine then_r ?_) | (with_reducible refine then_e ?_) | (with_reducible refine block_n ?_) | (with_reducible refine block_r ?_) | (with_reducible refine block_e ?_) | refine block_o ?_ | (with_reducible refine scope_n ?_) | (with_reducible refine scope_r ?_) | (with_reducible refine scope_e ?_) | (with_reducible refine code_seq ?_) | (with_reducible refine code_skip ?_) | (with_reducible refine code_label ?_) | (with_reducible refine code_block ?_) | (with_reducible refine code_scope ?_) | (with_reducible refine code_exit ?_) | (with_reducible refine code_ret ?_) | refine regq_to ?_ | (with_reducible refine run_nil ?_) | ((with_reducible refine run_probe ?_); refine runq_more ?_) | (with_reducible refine draw_nil ?_) | ((with_reducible refine draw_probe ?_); (first | refine drawq_more ?_ | refine drawq_as ?_)) | refine code_then ?_ | refine code_else ?_))
  rw [q1, q2, ← hlu]
  refine run_op fun K hK => ?_; rw [build_struct (ps := []) (cs := #[.string (str []), .int .i64 0, .int .i64 0, .int .i64 0]) rfl]; refine hK _ _ ?_; clear hK K
  (repeat (first | (with_reducible refine then_n ?_) | (with_reducible refine then_r ?_) | (with_reducible refine then_e ?_) | (with_reducible refine block_n ?_) | (with_reducible refine block_r ?_) | (with_reducible refine block_e ?_) | refine block_o ?_ | (with_reducible refine scope_n ?_) | (with_reducible refine scope_r ?_) | (with_reducible refine scope_e ?_) | (with_reducible refine code_seq ?_) | (with_reducible refine code_skip ?_) | (with_reducible refine code_label ?_) | (with_reducible refine code_block ?_) | (with_reducible refine code_scope ?_) | (with_reducible refine code_exit ?_) | (with_reducible refine code_ret ?_) | refine regq_to ?_ | (with_reducible refine run_nil ?_) | ((with_reducible refine run_probe ?_); refine runq_more ?_) | (with_reducible refine draw_nil ?_) | ((with_reducible refine draw_probe ?_); (first | refine drawq_more ?_ | refine drawq_as ?_)) | refine code_then ?_ | refine code_else ?_))
  refine run_op fun K hK => ?_; refine store_el_agg (x' := (⟨[], 0, 0, 0⟩ : En Int)) ho1 (by (repeat (first | with_reducible exact Pick.head _ _ | with_reducible apply Pick.tail))) hs (by omega) (by decide) (by simp [encE, Value.cell1]) (fun C2 ho2 => ?_); refine hK _ _ ?_; clear hK K
  (repeat (first | (with_reducible refine then_n ?_) | (with_reducible refine then_r ?_) | (with_reducible refine then_e ?_) | (with_reducible refine block_n ?_) | (with_reducible refine block_r ?_) | (with_reducible refine block_e ?_) | refine block_o ?_ | (with_reducible refine scope_n ?_) | (with_reducible refine scope_r ?_) | (with_reducible refine scope_e ?_) | (with_reducible refine code_seq ?_) | (with_reducible refine code_skip ?_) | (with_reducible refine code_label ?_) | (with_reducible refine code_block ?_) | (with_reducible refine code_scope ?_) | (with_reducible refine code_exit ?_) | (with_reducible refine code_ret ?_) | refine regq_to ?_ | (with_reducible refine run_nil ?_) | ((with_reducible refine run_probe ?_); refine runq_more ?_) | (with_reducible refine draw_nil ?_) | ((with_reducible refine draw_probe ?_); (first | refine drawq_more ?_ | refine drawq_as ?_)) | refine code_then ?_ | refine code_else ?_))
  refine run_op fun K hK => ?_; refine build1 rfl [nat64 i] (by decide) rfl rfl (by simp [Value.cell1]) (fun b3 C3 ho3 => ?_); refine hK _ _ ?_; clear hK K
  refine run_op fun K hK => ?_; refine app1 rfl hofr (.inr (by (repeat (first | with_reducible exact Pick.head _ _ | with_reducible apply Pick.tail)))) (ho3.rd (by (repeat (first | with_reducible assumption | with_reducible exact List.mem_cons_self .. | with_reducible apply List.mem_cons_of_mem)))) (by simp [Value.cell1]) (by omega) (by decide) (fun C4 a4 cap4 ho4 => ?_); refine hK _ _ ?_; clear hK K
  have e4 : free.map nat64 ++ [nat64 i] = (free ++ [i]).map nat64 := by simp
  have e5 : free.length + 1 = (free ++ [i]).length := by simp
  rw [e4, e5] at ho4
  rw [e5]
  (repeat (first | (with_reducible refine then_n ?_) | (with_reducible refine then_r ?_) | (with_reducible refine then_e ?_) | (with_reducible refine block_n ?_) | (with_reducible refine block_r ?_) | (with_reducible refine block_e ?_) | refine block_o ?_ | (with_reducible refine scope_n ?_) | (with_reducible refine scope_r ?_) | (with_reducible refine scope_e ?_) | (with_reducible refine code_seq ?_) | (with_reducible refine code_skip ?_) | (with_reducible refine code_label ?_) | (with_reducible refine code_block ?_) | (with_reducible refine code_scope ?_) | (with_reducible refine code_exit ?_) | (with_reducible refine code_ret ?_) | refine regq_to ?_ | (with_reducible refine run_nil ?_) | ((with_reducible refine run_probe ?_); refine runq_more ?_) | (with_reducible refine draw_nil ?_) | ((with_reducible refine draw_probe ?_); (first | refine drawq_more ?_ | refine drawq_as ?_)) | refine code_then ?_ | refine code_else ?_))
  (try simp only [List.setIfInBounds_toArray, List.set_cons_succ, List.set_cons_zero, List.getElem_toArray, List.getElem_cons_succ, List.getElem_cons_zero])
  refine run_op fun K hK => ?_; refine map_del him (by (repeat (first | with_reducible exact Pick.head _ _ | with_reducible apply Pick.tail))) (fun C6 him6 => ?_); refine hK _ _ ?_; clear hK K
  rw [mdel_val nat64 m k] at him6
  (repeat (first | (with_reducible refine then_n ?_) | (with_reducible refine then_r ?_) | (with_reducible refine then_e ?_) | (with_reducible refine block_n ?_) | (with_reducible refine block_r ?_) | (with_reducible refine block_e ?_) | refine block_o ?_ | (with_reducible refine scope_n ?_) | (with_reducible refine scope_r ?_) | (with_reducible refine scope_e ?_) | (with_reducible refine code_seq ?_) | (with_reducible refine code_skip ?_) | (with_reducible refine code_label ?_) | (with_reducible refine code_block ?_) | (with_reducible refine code_scope ?_) | (with_reducible refine code_exit ?_) | (with_reducible refine code_ret ?_) | refine regq_to ?_ | (with_reducible refine run_nil ?_) | ((with_reducible refine run_probe ?_); refine runq_more ?_) | (with_reducible refine draw_nil ?_) | ((with_reducible refine draw_probe ?_); (first | refine drawq_more ?_ | refine drawq_as ?_)) | refine code_then ?_ | refine code_else ?_))
  refine back_tmp [[(b, tabO room la (unL l e.ahead e.next).length lc a4 (free ++ [i]).length cap4 r (hd pl' (-1)) (lst (-1) pl'))], C2, C4, C6] ?_
  exact ⟨rfl, la, lc, (unL l e.ahead e.next).set i ⟨[], 0, 0, 0⟩, a4, cap4, free ++ [i], mdel m k, pl', C2, C4, C6, ⟨by unfold OwnE; rw [List.length_set]; exact ho2, ho4, him6, hrep, hbig, by omega, by rw [List.length_set, hlu]; simp; omega, by rw [List.length_set, hlu]; exact hll⟩, by rw [List.length_set]⟩

theorem renew_ok (h : Lies4 room la lc l fa fc free r m pl es Cl Cf Cm) (k : List UInt8) (u : Int) (hk : mget es k = some u) :
    Meets Try.prog 18 [.pointer (some ⟨b, 0, none⟩), .string (str k)] [[(b, tabO room la l.length lc fa free.length fc r (hd pl (-1)) (lst (-1) pl))], Cl, Cm]
      fun v' A => v' = .int .i64 0 ∧ ∃ l pl Cl', Lies4 room la lc l fa fc free r m pl (mdel es k ++ [(k, u)]) Cl' Cf Cm ∧ A = [[(b, tabO room la l.length lc fa free.length fc r (hd pl (-1)) (lst (-1) pl))], Cl', Cm] := by
  obtain ⟨i, hm, hi, hkv⟩ := h.place hk
  obtain ⟨u', a, n, e, hk', hx, rfl, rfl, ha, hn, hlast, pl', hrep, q1, q2⟩ := h.rep.renew hm
  rw [hk] at hk'; cases hk'
  have hlu := unL_length l e.ahead e.next
  have hlen : (mdel es k).length + 1 = es.length := by
    obtain ⟨pre, post, c1, _, c3, _⟩ := mget_split hk
    rw [c3, c1]; simp; omega
  have hall := h.all
  have hfits := h.fits
  refine spec_intro Try.func18 rfl (by kernel_rfl) (by rw [Try.ntmps18]; simp) fun F => ?_; rw [Try.ntmps18, Try.results18]
  (repeat (first | (with_reducible refine then_n ?_) | (with_reducible refine then_r ?_) | (with_reducible refine then_e ?_) | (with_reducible refine block_n ?_) | (with_reducible refine block_r ?_) | (with_reducible refine block_e ?_) | refine block_o ?_ | (with_reducible refine scope_n ?_) | (with_reducible refine scope_r ?_) | (with_reducible refine scope_e ?_) | (with_reducible refine code_seq ?_) | (with_reducible refine code_skip ?_) | (with_reducible refine code_label ?_) | (with_reducible refine code_block ?_) | (with_reducible refine code_scope ?_) | (with_reducible refine code_exit ?_) | (with_reducible refine code_ret ?_) | refine regq_to ?_ | (with_reducible refine run_nil ?_) | ((with_reducible refine run_probe ?_); refine runq_more ?_) | (with_reducible refine draw_nil ?_) | ((with_reducible refine draw_probe ?_); (first | refine drawq_more ?_ | refine drawq_as ?_)) | refine code_then ?_ | refine code_else ?_))
  refine run_op fun K hK => ?_; refine calls_to (place_spec b room la l.length lc fa free.length fc r _ _ Cm m h.im k) ?_; rintro v A ⟨rfl, rfl⟩; (try simp only [List.nil_append, List.cons_append]); refine hK _ _ ?_; clear hK K; (repeat (first | (with_reducible refine then_n ?_) | (with_reducible refine then_r ?_) | (with_reducible refine then_e ?_) | (with_reducible refine block_n ?_) | (with_reducible refine block_r ?_) | (with_reducible refine block_e ?_) | refine block_o ?_ | (with_reducible refine scope_n ?_) | (with_reducible refine scope_r ?_) | (with_reducible refine scope_e ?_) | (with_reducible refine code_seq ?_) | (with_reducible refine code_skip ?_) | (with_reducible refine code_label ?_) | (with_reducible refine code_block ?_) | (with_reducible refine code_scope ?_) | (with_reducible refine code_exit ?_) | (with_reducible refine code_ret ?_) | refine regq_to ?_ | (with_reducible refine run_nil ?_) | ((with_reducible refine run_probe ?_); refine runq_more ?_) | (with_reducible refine draw_nil ?_) | ((with_reducible refine draw_probe ?_); (first | refine drawq_more ?_ | refine drawq_as ?_)) | refine code_then ?_ | refine code_else ?_))
  rw [hm]
  (repeat (first | (with_reducible refine then_n ?_) | (with_reducible refine then_r ?_) | (with_reducible refine then_e ?_) | (with_reducible refine block_n ?_) | (with_reducible refine block_r ?_) | (with_reducible refine block_e ?_) | refine block_o ?_ | (with_reducible refine scope_n ?_) | (with_reducible refine scope_r ?_) | (with_reducible refine scope_e ?_) | (with_reducible refine code_seq ?_) | (with_reducible refine code_skip ?_) | (with_reducible refine code_label ?_) | (with_reducible refine code_block ?_) | (with_reducible refine code_scope ?_) | (with_reducible refine code_exit ?_) | (with_reducible refine code_ret ?_) | refine regq_to ?_ | (with_reducible refine run_nil ?_) | ((with_reducible refine run_probe ?_); refine runq_more ?_) | (with_reducible refine draw_nil ?_) | ((with_reducible refine draw_probe ?_); (first | refine drawq_more ?_ | refine drawq_as ?_)) | refine code_then ?_ | refine code_else ?_))
  refine run_op fun K hK => ?_; refine calls_to (unhang_spec b room la lc fa free.length fc r _ _ Cl l h.ol i e hx ha hn) ?_; rintro v A ⟨C1, ho1, rfl⟩; (try simp only [List.nil_append, List.cons_append]); refine hK _ _ ?_; clear hK K; (repeat (first | (with_reducible refine then_n ?_) | (with_reducible refine then_r ?_) | (with_reducible refine then_e ?_) | (with_reducible refine block_n ?_) | (with_reducible refine block_r ?_) | (with_reducible refine block_e ?_) | refine block_o ?_ | (with_reducible refine scope_n ?_) | (with_reducible refine scope_r ?_) | (with_reducible refine scope_e ?_) | (with_reducible refine code_seq ?_) | (with_reducible refine code_skip ?_) | (with_reducible refine code_label ?_) | (with_reducible refine code_block ?_) | (with_reducible refine code_scope ?_) | (with_reducible refine code_exit ?_) | (with_reducible refine code_ret ?_) | refine regq_to ?_ | (with_reducible refine run_nil ?_) | ((with_reducible refine run_probe ?_); refine runq_more ?_) | (with_reducible refine draw_nil ?_) | ((with_reducible refine draw_probe ?_); (first | refine drawq_more ?_ | refine drawq_as ?_)) | refine code_then ?_ | refine code_else ?_))
  rw [← hlu]
  refine run_op fun K hK => ?_; refine calls_to (hang_spec b room la lc fa free.length fc r _ _ C1 (unL l e.ahead e.next) ho1 i (by omega) (by rw [hlu]; exact hlast)) ?_; rintro v A ⟨C2, ho2, rfl⟩; (try simp only [List.nil_append, List.cons_append]); refine hK _ _ ?_; clear hK K; (repeat (first | (with_reducible refine then_n ?_) | (with_reducible refine then_r ?_) | (with_reducible refine then_e ?_) | (with_reducible refine block_n ?_) | (with_reducible refine block_r ?_) | (with_reducible refine block_e ?_) | refine block_o ?_ | (with_reducible refine scope_n ?_) | (with_reducible refine scope_r ?_) | (with_reducible refine scope_e ?_) | (with_reducible refine code_seq ?_) | (with_reducible refine code_skip ?_) | (with_reducible refine code_label ?_) | (with_reducible refine code_block ?_) | (with_reducible refine code_scope ?_) | (with_reducible refine code_exit ?_) | (with_reducible refine code_ret ?_) | refine regq_to ?_ | (with_reducible refine run_nil ?_) | ((with_reducible refine run_probe ?_); refine runq_more ?_) | (with_reducible refine draw_nil ?_) | ((with_reducible refine draw_probe ?_); (first | refine drawq_more ?_ | refine drawq_as ?_)) | refine code_then ?_ | refine code_else ?_))
  rw [q1, q2]
  refine back_tmp [[(b, tabO room la (unL l e.ahead e.next).length lc fa free.length fc r (hd pl' (-1)) (lst (-1) pl'))], C2, Cm] ?_
  exact ⟨rfl, haL (unL l e.ahead e.next) i (unE (lst (-1) pl) e.ahead e.next), pl', C2, ⟨ho2, h.ofr, h.im, hrep, h.big, by simp; omega, by rw [haL_length, hlu]; simp; omega, by rw [haL_length, hlu]; exact h.ll⟩, by rw [haL_length]⟩

end ops
end Go.Proofs.Ytkgnhhpgnkkigaa

/- A table: its row, and all of it. Conditions: as each says. -/
set_option linter.unusedSimpArgs false
set_option linter.unusedVariables false
namespace Go.Proofs.Ytkgnhhpgnkkigaa
open Go Go.Ost Go.Tab

theorem lk_at {V : Type} {l : List (En V)} {pre suf : List Nat} {i : Nat} (h : Lk l (-1) (pre ++ i :: suf) (-1)) : ∃ e, l[i]? = some e ∧ e.next = hd suf (-1) := by
  obtain ⟨_, ⟨e, h1, _, h3⟩, _⟩ := (lk_app l pre (i :: suf) (-1) (-1)).1 h
  exact ⟨e, h1, h3⟩
theorem ents_of {V : Type} {l : List (En V)} : ∀ (pl : List Nat) (es : List (List UInt8 × V)), pl.map (kv l) = es.map some → ∃ ents : List (En V), ents.length = pl.length ∧ (∀ (j i : Nat), pl[j]? = some i → l[i]? = ents[j]?) ∧ ents.map (fun e => (e.key, e.v)) = es
  | [], [], _ => ⟨[], rfl, fun j i h => by simp at h, rfl⟩
  | [], _ :: _, h => by cases h
  | _ :: _, [], h => by cases h
  | i :: pl, x :: es, h => by
    simp only [List.map_cons, List.cons.injEq] at h
    obtain ⟨ents, h1, h2, h3⟩ := ents_of pl es h.2
    have hk := h.1
    unfold kv at hk
    cases hl : l[i]? with
    | none => rw [hl] at hk; cases hk
    | some e =>
      rw [hl] at hk
      simp only [Option.map_some, Option.some.injEq] at hk
      refine ⟨e :: ents, by simp [h1], fun j k hj => ?_, by rw [List.map_cons, hk, h3]⟩
      cases j with
      | zero => simp at hj; subst hj; simpa using hl
      | succ j => simp at hj ⊢; exact h2 j k hj
theorem ents_el {V : Type} {ents : List (En V)} {es : List (List UInt8 × V)} (h : ents.map (fun e => (e.key, e.v)) = es) {j : Nat} {e : En V} (he : ents[j]? = some e) : es[j]? = some (e.key, e.v) := by
  rw [← h, List.getElem?_map, he]; rfl

abbrev tabB (b room : Nat) (la : Option Addr) (l : List (En Int)) (lc : Nat) (fa : Option Addr) (free : List Nat) (fc r : Nat) (pl : List Nat) : Chunk :=
  [(b, tabO room la l.length lc fa free.length fc r (hd pl (-1)) (lst (-1) pl))]
abbrev entB (c : Nat) (e : En Int) : Chunk := [(c, .cells (encE e).toArray 58 (0, 0))]

section all
variable {b room : Nat} {la : Option Addr} {lc : Nat} {l : List (En Int)} {fa : Option Addr} {fc : Nat} {free : List Nat} {r : Nat} {m : List (List UInt8 × Nat)} {pl : List Nat} {es : List (List UInt8 × Int)} {Cl Cf Cm : Chunk}

theorem trow_nil : Meets Try.prog 35 [.pointer none] [] fun v A => v = .slice none 0 0 ∧ A = [] := by
  refine spec_intro Try.func35 rfl (by kernel_rfl) (by rw [Try.ntmps35]; simp) fun F => ?_; rw [Try.ntmps35, Try.results35]
  (repeat (first | (with_reducible refine then_n ?_) | (with_reducible refine then_r ?_) | (with_reducible refine then_e ?_) | (with_reducible refine block_n ?_) | (with_reducible refine block_r ?_) | (with_reducible refine block_e ?_) | refine block_o ?_ | (with_reducible refine scope_n ?_) | (with_reducible refine scope_r ?_) | (with_reducible refine scope_e ?_) | (with_reducible refine code_seq ?_) | (with_reducible refine code_skip ?_) | (with_reducible refine code_label ?_) | (with_reducible refine code_block ?_) | (with_reducible refine code_scope ?_) | (with_reducible refine code_exit ?_) | (with_reducible refine code_ret ?_) | refine regq_to ?_ | (with_reducible refine run_nil ?_) | ((with_reducible refine run_probe ?_); refine runq_more ?_) | (with_reducible refine draw_nil ?_) | ((with_reducible refine draw_probe ?_); (first | refine drawq_more ?_ | refine drawq_as ?_)) | refine code_then ?_ | refine code_else ?_))
  refine back_tmp [] ?_; exact ⟨rfl, rfl⟩

theorem trow_spec (h : Lies4 room la lc l fa fc free r m pl es Cl Cf Cm) :
    Meets Try.prog 35 [.pointer (some ⟨b, 0, none⟩)] [tabB b room la l lc fa free fc r pl, Cl]
      fun v A => ∃ D a c, v = .slice a pl.length c ∧ OwnF D a c pl ∧ A = [D, tabB b room la l lc fa free fc r pl, Cl] := by
  have hs := encE_len
  have hol := h.ol
  have hbig := h.big
  have hpl := h.rep.pl_len
  have hfit := h.fits
  refine spec_intro Try.func35 rfl (by kernel_rfl) (by rw [Try.ntmps35]; simp) fun F => ?_; rw [Try.ntmps35, Try.results35]
  (repeat (first | (with_reducible refine then_n ?_) | (with_reducible refine then_r ?_) | (with_reducible refine then_e ?_) | (with_reducible refine block_n ?_) | (with_reducible refine block_r ?_) | (with_reducible refine block_e ?_) | refine block_o ?_ | (with_reducible refine scope_n ?_) | (with_reducible refine scope_r ?_) | (with_reducible refine scope_e ?_) | (with_reducible refine code_seq ?_) | (with_reducible refine code_skip ?_) | (with_reducible refine code_label ?_) | (with_reducible refine code_block ?_) | (with_reducible refine code_scope ?_) | (with_reducible refine code_exit ?_) | (with_reducible refine code_ret ?_) | refine regq_to ?_ | (with_reducible refine run_nil ?_) | ((with_reducible refine run_probe ?_); refine runq_more ?_) | (with_reducible refine draw_nil ?_) | ((with_reducible refine draw_probe ?_); (first | refine drawq_more ?_ | refine drawq_as ?_)) | refine code_then ?_ | refine code_else ?_))
  refine code_nil ?_
  refine loop_i (fun q D L S => ∃ (pre suf : List Nat) (X : Chunk) (xa : Option Addr) (xc : Nat), pl = pre ++ suf ∧ OwnF X xa xc pre ∧ q = suf.length ∧ D = [] ∧
    L = [(4, .int .i64 (hd suf (-1))), (3, .slice xa pre.length xc), (0, .pointer (some ⟨b, 0, none⟩))] ∧ S = [X, tabB b room la l lc fa free fc r pl, Cl, F])
    ⟨[], pl, [], none, 0, rfl, own_nil, rfl, rfl, rfl, rfl⟩ ?_
  rintro q D L S ⟨pre, suf, X, xa, xc, e0, hX, rfl, rfl, rfl, rfl⟩
  cases suf with
  | nil =>
    rw [List.append_nil] at e0
    subst e0
    simp only [hd]
    (repeat (first | (with_reducible refine then_n ?_) | (with_reducible refine then_r ?_) | (with_reducible refine then_e ?_) | (with_reducible refine block_n ?_) | (with_reducible refine block_r ?_) | (with_reducible refine block_e ?_) | refine block_o ?_ | (with_reducible refine scope_n ?_) | (with_reducible refine scope_r ?_) | (with_reducible refine scope_e ?_) | (with_reducible refine code_seq ?_) | (with_reducible refine code_skip ?_) | (with_reducible refine code_label ?_) | (with_reducible refine code_block ?_) | (with_reducible refine code_scope ?_) | (with_reducible refine code_exit ?_) | (with_reducible refine code_ret ?_) | refine regq_to ?_ | (with_reducible refine run_nil ?_) | ((with_reducible refine run_probe ?_); refine runq_more ?_) | (with_reducible refine draw_nil ?_) | ((with_reducible refine draw_probe ?_); (first | refine drawq_more ?_ | refine drawq_as ?_)) | refine code_then ?_ | refine code_else ?_))
    refine back_tmp [X, tabB b room la l lc fa free fc r pl, Cl] ⟨X, xa, xc, rfl, hX, rfl⟩
  | cons i suf =>
    obtain ⟨e, hx, hnext⟩ := lk_at (e0 ▸ h.rep.lk)
    have hi : i < l.length := (List.getElem?_eq_some_iff.1 hx).1
    have hlen : pre.length + 1 ≤ 4096 := by
      have := congrArg List.length e0
      rw [List.length_append, List.length_cons] at this
      omega
    simp only [hd]
    (repeat (first | (with_reducible refine then_n ?_) | (with_reducible refine then_r ?_) | (with_reducible refine then_e ?_) | (with_reducible refine block_n ?_) | (with_reducible refine block_r ?_) | (with_reducible refine block_e ?_) | refine block_o ?_ | (with_reducible refine scope_n ?_) | (with_reducible refine scope_r ?_) | (with_reducible refine scope_e ?_) | (with_reducible refine code_seq ?_) | (with_reducible refine code_skip ?_) | (with_reducible refine code_label ?_) | (with_reducible refine code_block ?_) | (with_reducible refine code_scope ?_) | (with_reducible refine code_exit ?_) | (with_reducible refine code_ret ?_) | refine regq_to ?_ | (with_reducible refine run_nil ?_) | ((with_reducible refine run_probe ?_); refine runq_more ?_) | (with_reducible refine draw_nil ?_) | ((with_reducible refine draw_probe ?_); (first | refine drawq_more ?_ | refine drawq_as ?_)) | refine code_then ?_ | refine code_else ?_))
    refine run_op fun K hK => ?_; refine build1 rfl [nat64 i] (by decide) rfl rfl (by simp [Value.cell1]) (fun b3 C3 ho3 => ?_); refine hK _ _ ?_; clear hK K
    refine run_op fun K hK => ?_; refine app1 rfl hX (.inr (by (repeat (first | with_reducible exact Pick.head _ _ | with_reducible apply Pick.tail)))) (ho3.rd (by (repeat (first | with_reducible assumption | with_reducible exact List.mem_cons_self .. | with_reducible apply List.mem_cons_of_mem)))) (by simp [Value.cell1]) (by omega) (by decide) (fun C4 a4 cap4 ho4 => ?_); refine hK _ _ ?_; clear hK K
    have e4 : pre.map nat64 ++ [nat64 i] = (pre ++ [i]).map nat64 := by simp
    have e5 : pre.length + 1 = (pre ++ [i]).length := by simp
    rw [e4, e5] at ho4
    rw [e5]
    (repeat (first | (with_reducible refine then_n ?_) | (with_reducible refine then_r ?_) | (with_reducible refine then_e ?_) | (with_reducible refine block_n ?_) | (with_reducible refine block_r ?_) | (with_reducible refine block_e ?_) | refine block_o ?_ | (with_reducible refine scope_n ?_) | (with_reducible refine scope_r ?_) | (with_reducible refine scope_e ?_) | (with_reducible refine code_seq ?_) | (with_reducible refine code_skip ?_) | (with_reducible refine code_label ?_) | (with_reducible refine code_block ?_) | (with_reducible refine code_scope ?_) | (with_reducible refine code_exit ?_) | (with_reducible refine code_ret ?_) | refine regq_to ?_ | (with_reducible refine run_nil ?_) | ((with_reducible refine run_probe ?_); refine runq_more ?_) | (with_reducible refine draw_nil ?_) | ((with_reducible refine draw_probe ?_); (first | refine drawq_more ?_ | refine drawq_as ?_)) | refine code_then ?_ | refine code_else ?_))
    rw [hnext]
    exact again ⟨pre ++ [i], suf, C4, a4, cap4, by rw [e0]; simp, ho4, rfl, rfl, rfl, rfl⟩ (hm := by simp)

/-- What is told of all entries. -/
def encX (x : List UInt8 × Int) : List Value := [.string (str x.1), .int .i64 x.2]
abbrev NextX (es pre : List (List UInt8 × Int)) (x : List UInt8 × Int) : Prop := ∃ suf, es = pre ++ x :: suf

set_option maxHeartbeats 1000000 in
theorem all_iter (c : Nat) (b room : Nat) (es : List (List UInt8 × Int)) :
    IMeetsG Try.prog 34 [] [.pointer (some ⟨c, 0, none⟩)] encX [bx c (.pointer (some ⟨b, 0, none⟩)) 23]
      (fun T => IsTab T b room es) noH noH noH (NextX es) (fun pre => pre = es)
      (fun _ A => A = [bx c (.pointer (some ⟨b, 0, none⟩)) 23]) (fun _ A => A = [bx c (.pointer (some ⟨b, 0, none⟩)) 23]) false := by
  refine iter_introG (by kernel_rfl) fun l0 J Jx hN hT hY C hC => ?_
  obtain ⟨T, R, ⟨la, lc, l, fa, fc, free, r, m, pl, Cl, Cf, Cm, h, hTC⟩, hperm⟩ := hT C hC
  have hs := encE_len
  have hol := h.ol
  have hbig := h.big
  have hpl := h.rep.pl_len
  have hfit := h.fits
  obtain ⟨ents, en1, en2, en3⟩ := ents_of pl es h.rep.row
  refine spec_intro Try.func34 rfl (by kernel_rfl) (by rw [Try.ntmps34]; simp) fun F => ?_; rw [Try.ntmps34, Try.results34]
  have hp0 : [F, C, bx c (.pointer (some ⟨b, 0, none⟩)) 23].flatten.Perm [F, tabB b room la l lc fa free fc r pl, Cl, Cf, Cm, R, bx c (.pointer (some ⟨b, 0, none⟩)) 23].flatten := by
    simp only [List.flatten_cons, List.flatten_nil, List.append_nil]
    refine List.Perm.append_left F ?_
    have h2 := (hTC ▸ hperm).append_right (bx c (.pointer (some ⟨b, 0, none⟩)) 23)
    simpa only [List.append_assoc] using h2
  refine code_perm hp0 ?_
  (repeat (first | (with_reducible refine then_n ?_) | (with_reducible refine then_r ?_) | (with_reducible refine then_e ?_) | (with_reducible refine block_n ?_) | (with_reducible refine block_r ?_) | (with_reducible refine block_e ?_) | refine block_o ?_ | (with_reducible refine scope_n ?_) | (with_reducible refine scope_r ?_) | (with_reducible refine scope_e ?_) | (with_reducible refine code_seq ?_) | (with_reducible refine code_skip ?_) | (with_reducible refine code_label ?_) | (with_reducible refine code_block ?_) | (with_reducible refine code_scope ?_) | (with_reducible refine code_exit ?_) | (with_reducible refine code_ret ?_) | refine regq_to ?_ | (with_reducible refine run_nil ?_) | ((with_reducible refine run_probe ?_); refine runq_more ?_) | (with_reducible refine draw_nil ?_) | ((with_reducible refine draw_probe ?_); (first | refine drawq_more ?_ | refine drawq_as ?_)) | refine code_then ?_ | refine code_else ?_))
  refine run_op fun K hK => ?_; refine calls_to (trow_spec h) ?_; rintro v A ⟨D1, a1, c1, rfl, ho1, rfl⟩; (try simp only [List.nil_append, List.cons_append]); refine hK _ _ ?_; clear hK K; (repeat (first | (with_reducible refine then_n ?_) | (with_reducible refine then_r ?_) | (with_reducible refine then_e ?_) | (with_reducible refine block_n ?_) | (with_reducible refine block_r ?_) | (with_reducible refine block_e ?_) | refine block_o ?_ | (with_reducible refine scope_n ?_) | (with_reducible refine scope_r ?_) | (with_reducible refine scope_e ?_) | (with_reducible refine code_seq ?_) | (with_reducible refine code_skip ?_) | (with_reducible refine code_label ?_) | (with_reducible refine code_block ?_) | (with_reducible refine code_scope ?_) | (with_reducible refine code_exit ?_) | (with_reducible refine code_ret ?_) | refine regq_to ?_ | (with_reducible refine run_nil ?_) | ((with_reducible refine run_probe ?_); refine runq_more ?_) | (with_reducible refine draw_nil ?_) | ((with_reducible refine draw_probe ?_); (first | refine drawq_more ?_ | refine drawq_as ?_)) | refine code_then ?_ | refine code_else ?_))
  refine code_nil ?_
  refine loop_i (fun q D L S => ∃ (j : Nat) (X : Chunk) (xa : Option Addr) (xc : Nat), j ≤ pl.length ∧ Ost.Own 4 58 X xa j xc ((ents.take j).flatMap encE) ∧ q = pl.length - j ∧ D = [] ∧
    L = [(11, .int .i64 j), (10, .int .i64 pl.length), (9, .slice a1 pl.length c1), (3, .slice xa j xc), (0, .func (.yield l0) #[] #[]), (1, .pointer (some ⟨c, 0, none⟩))] ∧
    S = [X, D1, F, tabB b room la l lc fa free fc r pl, Cl, Cf, Cm, R, bx c (.pointer (some ⟨b, 0, none⟩)) 23])
    ⟨0, [], none, 0, by omega, own_nil, rfl, rfl, rfl, rfl⟩ ?_
  rintro q D L S ⟨j, X, xa, xc, hj, hX, rfl, rfl, rfl, rfl⟩
  (repeat (first | (with_reducible refine then_n ?_) | (with_reducible refine then_r ?_) | (with_reducible refine then_e ?_) | (with_reducible refine block_n ?_) | (with_reducible refine block_r ?_) | (with_reducible refine block_e ?_) | refine block_o ?_ | (with_reducible refine scope_n ?_) | (with_reducible refine scope_r ?_) | (with_reducible refine scope_e ?_) | (with_reducible refine code_seq ?_) | (with_reducible refine code_skip ?_) | (with_reducible refine code_label ?_) | (with_reducible refine code_block ?_) | (with_reducible refine code_scope ?_) | (with_reducible refine code_exit ?_) | (with_reducible refine code_ret ?_) | refine regq_to ?_ | (with_reducible refine run_nil ?_) | ((with_reducible refine run_probe ?_); refine runq_more ?_) | (with_reducible refine draw_nil ?_) | ((with_reducible refine draw_probe ?_); (first | refine drawq_more ?_ | refine drawq_as ?_)) | refine code_then ?_ | refine code_else ?_))
  refine if_d (fun hc => ?_) (fun hc => ?_)
  · have hjp : j < pl.length := by omega
    have hpj : pl[j]? = some pl[j] := List.getElem?_eq_getElem hjp
    have hus : (pl.map nat64)[j]? = some (nat64 pl[j]) := by rw [List.getElem?_map, hpj]; rfl
    have hx := en2 j _ hpj
    have hej : ents[j]? = some ents[j] := List.getElem?_eq_getElem (by omega)
    rw [hej] at hx
    have hi : pl[j] < l.length := (List.getElem?_eq_some_iff.1 hx).1
    generalize pl[j] = i at *
    (repeat (first | (with_reducible refine then_n ?_) | (with_reducible refine then_r ?_) | (with_reducible refine then_e ?_) | (with_reducible refine block_n ?_) | (with_reducible refine block_r ?_) | (with_reducible refine block_e ?_) | refine block_o ?_ | (with_reducible refine scope_n ?_) | (with_reducible refine scope_r ?_) | (with_reducible refine scope_e ?_) | (with_reducible refine code_seq ?_) | (with_reducible refine code_skip ?_) | (with_reducible refine code_label ?_) | (with_reducible refine code_block ?_) | (with_reducible refine code_scope ?_) | (with_reducible refine code_exit ?_) | (with_reducible refine code_ret ?_) | refine regq_to ?_ | (with_reducible refine run_nil ?_) | ((with_reducible refine run_probe ?_); refine runq_more ?_) | (with_reducible refine draw_nil ?_) | ((with_reducible refine draw_probe ?_); (first | refine drawq_more ?_ | refine drawq_as ?_)) | refine code_then ?_ | refine code_else ?_))
    refine run_op fun K hK => ?_; refine load_el_agg hol hs hx (by decide) (by (repeat (first | with_reducible assumption | with_reducible exact List.mem_cons_self .. | with_reducible apply List.mem_cons_of_mem))) ?_; refine hK _ _ ?_; clear hK K
    refine run_op fun K hK => ?_; refine build_el1 (e := 58) (s := 4) (hs := inferInstance) (vs := encE ents[j]) (by rfl) (by decide) (by decide) rfl (fun b2 C2 ho2 => ?_); refine hK _ _ ?_; clear hK K
    refine run_op fun K hK => ?_; refine append_own (e := 58) (s := 4) (hs := inferInstance) (by rfl) (by decide) hX (.inr (by (repeat (first | with_reducible exact Pick.head _ _ | with_reducible apply Pick.tail)))) (ho2.rd (by (repeat (first | with_reducible assumption | with_reducible exact List.mem_cons_self .. | with_reducible apply List.mem_cons_of_mem)))) (by simp [encE, Value.cell1]) (by simp only [maxLen]; omega) (by omega) (fun C3 a3 cap3 ho3 => ?_); refine hK _ _ ?_; clear hK K
    have e3 : (ents.take j).flatMap encE ++ encE ents[j] = (ents.take (j + 1)).flatMap encE := by
      rw [List.take_succ_eq_append_getElem (by omega), List.flatMap_append]; simp
    rw [e3] at ho3
    (repeat (first | (with_reducible refine then_n ?_) | (with_reducible refine then_r ?_) | (with_reducible refine then_e ?_) | (with_reducible refine block_n ?_) | (with_reducible refine block_r ?_) | (with_reducible refine block_e ?_) | refine block_o ?_ | (with_reducible refine scope_n ?_) | (with_reducible refine scope_r ?_) | (with_reducible refine scope_e ?_) | (with_reducible refine code_seq ?_) | (with_reducible refine code_skip ?_) | (with_reducible refine code_label ?_) | (with_reducible refine code_block ?_) | (with_reducible refine code_scope ?_) | (with_reducible refine code_exit ?_) | (with_reducible refine code_ret ?_) | refine regq_to ?_ | (with_reducible refine run_nil ?_) | ((with_reducible refine run_probe ?_); refine runq_more ?_) | (with_reducible refine draw_nil ?_) | ((with_reducible refine draw_probe ?_); (first | refine drawq_more ?_ | refine drawq_as ?_)) | refine code_then ?_ | refine code_else ?_))
    exact again ⟨j + 1, C3, a3, cap3, by omega, ho3, rfl, rfl, rfl, rfl⟩
  · obtain rfl : j = pl.length := by omega
    rw [List.take_of_length_le (by omega)] at hX
    have hX2 : OwnE X xa xc ents := by unfold OwnE; rw [en1]; exact hX
    rw [← en1]
    (repeat (first | (with_reducible refine then_n ?_) | (with_reducible refine then_r ?_) | (with_reducible refine then_e ?_) | (with_reducible refine block_n ?_) | (with_reducible refine block_r ?_) | (with_reducible refine block_e ?_) | refine block_o ?_ | (with_reducible refine scope_n ?_) | (with_reducible refine scope_r ?_) | (with_reducible refine scope_e ?_) | (with_reducible refine code_seq ?_) | (with_reducible refine code_skip ?_) | (with_reducible refine code_label ?_) | (with_reducible refine code_block ?_) | (with_reducible refine code_scope ?_) | (with_reducible refine code_exit ?_) | (with_reducible refine code_ret ?_) | refine regq_to ?_ | (with_reducible refine run_nil ?_) | ((with_reducible refine run_probe ?_); refine runq_more ?_) | (with_reducible refine draw_nil ?_) | ((with_reducible refine draw_probe ?_); (first | refine drawq_more ?_ | refine drawq_as ?_)) | refine code_then ?_ | refine code_else ?_))
    refine code_perm (S' := [X, C, F, bx c (.pointer (some ⟨b, 0, none⟩)) 23, D1]) ?_ ?_
    · simp only [List.flatten_cons, List.flatten_nil, List.append_nil] at hp0 ⊢
      have h2 : (D1 ++ (F ++ (tabB b room la l lc fa free fc r pl ++ (Cl ++ (Cf ++ (Cm ++ (R ++ bx c (.pointer (some ⟨b, 0, none⟩)) 23))))))).Perm (C ++ (F ++ (bx c (.pointer (some ⟨b, 0, none⟩)) 23 ++ D1))) := by
        refine (List.Perm.append_left D1 hp0.symm).trans ?_
        refine List.perm_append_comm.trans ?_
        rw [← List.append_assoc C, ← List.append_assoc, ← List.append_assoc]
        refine List.Perm.append_right _ ?_
        rw [List.append_assoc, List.append_assoc]
        have : (F ++ (C ++ bx c (.pointer (some ⟨b, 0, none⟩)) 23)).Perm (C ++ (F ++ bx c (.pointer (some ⟨b, 0, none⟩)) 23)) := by
          rw [← List.append_assoc, ← List.append_assoc]; exact List.Perm.append_right _ List.perm_append_comm
        simpa only [List.append_assoc] using this
      exact List.Perm.append_left X h2
    refine loop_i (fun q D L S => ∃ (j : Nat) (C : Chunk), j ≤ ents.length ∧ J (es.take j) C ∧ q = ents.length - j ∧ D = [] ∧
      L = [(28, .int .i64 j), (27, .int .i64 ents.length), (26, .slice xa ents.length xc), (0, .func (.yield l0) #[] #[]), (1, .pointer (some ⟨c, 0, none⟩))] ∧
      S = [X, C, F, bx c (.pointer (some ⟨b, 0, none⟩)) 23])
      ⟨0, C, by omega, hC, rfl, rfl, rfl, rfl⟩ ?_
    rintro q D L S ⟨j, C', hj, hJ, rfl, rfl, rfl, rfl⟩
    (repeat (first | (with_reducible refine then_n ?_) | (with_reducible refine then_r ?_) | (with_reducible refine then_e ?_) | (with_reducible refine block_n ?_) | (with_reducible refine block_r ?_) | (with_reducible refine block_e ?_) | refine block_o ?_ | (with_reducible refine scope_n ?_) | (with_reducible refine scope_r ?_) | (with_reducible refine scope_e ?_) | (with_reducible refine code_seq ?_) | (with_reducible refine code_skip ?_) | (with_reducible refine code_label ?_) | (with_reducible refine code_block ?_) | (with_reducible refine code_scope ?_) | (with_reducible refine code_exit ?_) | (with_reducible refine code_ret ?_) | refine regq_to ?_ | (with_reducible refine run_nil ?_) | ((with_reducible refine run_probe ?_); refine runq_more ?_) | (with_reducible refine draw_nil ?_) | ((with_reducible refine draw_probe ?_); (first | refine drawq_more ?_ | refine drawq_as ?_)) | refine code_then ?_ | refine code_else ?_))
    refine if_d (fun hc => ?_) (fun hc => ?_)
    · have hje : j < ents.length := by omega
      have hx : ents[j]? = some ents[j] := List.getElem?_eq_getElem hje
      have hjs : j < es.length := by omega
      have hee : es[j] = (ents[j].key, ents[j].v) := by
        have := ents_el en3 hx
        rw [List.getElem?_eq_getElem hjs] at this
        exact Option.some.inj this
      have hnx : NextX es (es.take j) (ents[j].key, ents[j].v) := ⟨es.drop (j + 1), by rw [← hee, ← List.drop_eq_getElem_cons, List.take_append_drop]⟩
      have htk : es.take j ++ [(ents[j].key, ents[j].v)] = es.take (j + 1) := by rw [List.take_succ_eq_append_getElem hjs, hee]
      have hY' := hY _ _ hnx
      rw [htk] at hY'
      (repeat (first | (with_reducible refine then_n ?_) | (with_reducible refine then_r ?_) | (with_reducible refine then_e ?_) | (with_reducible refine block_n ?_) | (with_reducible refine block_r ?_) | (with_reducible refine block_e ?_) | refine block_o ?_ | (with_reducible refine scope_n ?_) | (with_reducible refine scope_r ?_) | (with_reducible refine scope_e ?_) | (with_reducible refine code_seq ?_) | (with_reducible refine code_skip ?_) | (with_reducible refine code_label ?_) | (with_reducible refine code_block ?_) | (with_reducible refine code_scope ?_) | (with_reducible refine code_exit ?_) | (with_reducible refine code_ret ?_) | refine regq_to ?_ | (with_reducible refine run_nil ?_) | ((with_reducible refine run_probe ?_); refine runq_more ?_) | (with_reducible refine draw_nil ?_) | ((with_reducible refine draw_probe ?_); (first | refine drawq_more ?_ | refine drawq_as ?_)) | refine code_then ?_ | refine code_else ?_))
      refine run_op fun K hK => ?_; refine load_el_agg hX2 hs hx (by decide) (by (repeat (first | with_reducible assumption | with_reducible exact List.mem_cons_self .. | with_reducible apply List.mem_cons_of_mem))) ?_; refine hK _ _ ?_; clear hK K
      refine run_op fun K hK => ?_; refine alloc_new fun b7 => ?_; (try simp only [Value.cells]); refine hK _ _ ?_; clear hK K
      refine run_op fun K hK => ?_; refine store_all rfl (by simp [encE, Value.cell1]) (by (repeat (first | with_reducible exact Upd.one | with_reducible apply Upd.next))) (by rfl) ?_; refine hK _ _ ?_; clear hK K
      (repeat (first | (with_reducible refine then_n ?_) | (with_reducible refine then_r ?_) | (with_reducible refine then_e ?_) | (with_reducible refine block_n ?_) | (with_reducible refine block_r ?_) | (with_reducible refine block_e ?_) | refine block_o ?_ | (with_reducible refine scope_n ?_) | (with_reducible refine scope_r ?_) | (with_reducible refine scope_e ?_) | (with_reducible refine code_seq ?_) | (with_reducible refine code_skip ?_) | (with_reducible refine code_label ?_) | (with_reducible refine code_block ?_) | (with_reducible refine code_scope ?_) | (with_reducible refine code_exit ?_) | (with_reducible refine code_ret ?_) | refine regq_to ?_ | (with_reducible refine run_nil ?_) | ((with_reducible refine run_probe ?_); refine runq_more ?_) | (with_reducible refine draw_nil ?_) | ((with_reducible refine draw_probe ?_); (first | refine drawq_more ?_ | refine drawq_as ?_)) | refine code_then ?_ | refine code_else ?_))
      refine run_op fun K hK => ?_
      refine yield_meetsG hY' hJ rfl (by (repeat (first | with_reducible exact Take.nil _ | with_reducible exact Pick.head _ _ | with_reducible apply Pick.tail | with_reducible apply Take.cons))) (fun C4 H4 hJ4 hH4 => ?_) (fun C4 H4 hJ4 hH4 => ?_)
      · subst hH4
        (try simp only [List.nil_append])
        refine hK _ _ ?_; clear hK K
        (repeat (first | (with_reducible refine then_n ?_) | (with_reducible refine then_r ?_) | (with_reducible refine then_e ?_) | (with_reducible refine block_n ?_) | (with_reducible refine block_r ?_) | (with_reducible refine block_e ?_) | refine block_o ?_ | (with_reducible refine scope_n ?_) | (with_reducible refine scope_r ?_) | (with_reducible refine scope_e ?_) | (with_reducible refine code_seq ?_) | (with_reducible refine code_skip ?_) | (with_reducible refine code_label ?_) | (with_reducible refine code_block ?_) | (with_reducible refine code_scope ?_) | (with_reducible refine code_exit ?_) | (with_reducible refine code_ret ?_) | refine regq_to ?_ | (with_reducible refine run_nil ?_) | ((with_reducible refine run_probe ?_); refine runq_more ?_) | (with_reducible refine draw_nil ?_) | ((with_reducible refine draw_probe ?_); (first | refine drawq_more ?_ | refine drawq_as ?_)) | refine code_then ?_ | refine code_else ?_))
        exact again ⟨j + 1, C4, by omega, hJ4, rfl, rfl, rfl, rfl⟩
      · subst hH4
        (try simp only [List.nil_append])
        refine hK _ _ ?_; clear hK K
        (repeat (first | (with_reducible refine then_n ?_) | (with_reducible refine then_r ?_) | (with_reducible refine then_e ?_) | (with_reducible refine block_n ?_) | (with_reducible refine block_r ?_) | (with_reducible refine block_e ?_) | refine block_o ?_ | (with_reducible refine scope_n ?_) | (with_reducible refine scope_r ?_) | (with_reducible refine scope_e ?_) | (with_reducible refine code_seq ?_) | (with_reducible refine code_skip ?_) | (with_reducible refine code_label ?_) | (with_reducible refine code_block ?_) | (with_reducible refine code_scope ?_) | (with_reducible refine code_exit ?_) | (with_reducible refine code_ret ?_) | refine regq_to ?_ | (with_reducible refine run_nil ?_) | ((with_reducible refine run_probe ?_); refine runq_more ?_) | (with_reducible refine draw_nil ?_) | ((with_reducible refine draw_probe ?_); (first | refine drawq_more ?_ | refine drawq_as ?_)) | refine code_then ?_ | refine code_else ?_))
        exact back_none [C4, bx c (.pointer (some ⟨b, 0, none⟩)) 23] ⟨C4, [bx c (.pointer (some ⟨b, 0, none⟩)) 23], rfl, .inr ⟨_, _, hnx, by rw [htk]; exact hJ4, rfl⟩⟩
    · obtain rfl : j = ents.length := by omega
      rw [List.take_of_length_le (by omega)] at hJ
      (repeat (first | (with_reducible refine then_n ?_) | (with_reducible refine then_r ?_) | (with_reducible refine then_e ?_) | (with_reducible refine block_n ?_) | (with_reducible refine block_r ?_) | (with_reducible refine block_e ?_) | refine block_o ?_ | (with_reducible refine scope_n ?_) | (with_reducible refine scope_r ?_) | (with_reducible refine scope_e ?_) | (with_reducible refine code_seq ?_) | (with_reducible refine code_skip ?_) | (with_reducible refine code_label ?_) | (with_reducible refine code_block ?_) | (with_reducible refine code_scope ?_) | (with_reducible refine code_exit ?_) | (with_reducible refine code_ret ?_) | refine regq_to ?_ | (with_reducible refine run_nil ?_) | ((with_reducible refine run_probe ?_); refine runq_more ?_) | (with_reducible refine draw_nil ?_) | ((with_reducible refine draw_probe ?_); (first | refine drawq_more ?_ | refine drawq_as ?_)) | refine code_then ?_ | refine code_else ?_))
      exact back_none_n [C', bx c (.pointer (some ⟨b, 0, none⟩)) 23] ⟨C', [bx c (.pointer (some ⟨b, 0, none⟩)) 23], rfl, .inl ⟨es, rfl, hJ, rfl⟩⟩

theorem all_iter_nil (c : Nat) :
    IMeetsG Try.prog 34 [] [.pointer (some ⟨c, 0, none⟩)] encX [bx c (.pointer none) 23]
      (fun T => T = []) noH noH noH (fun _ _ => False) (fun pre => pre = [])
      (fun _ A => A = [bx c (.pointer none) 23]) (fun _ A => A = [bx c (.pointer none) 23]) false := by
  refine iter_introG (by kernel_rfl) fun l0 J Jx hN hT hY C hC => ?_
  refine spec_intro Try.func34 rfl (by kernel_rfl) (by rw [Try.ntmps34]; simp) fun F => ?_; rw [Try.ntmps34, Try.results34]
  (repeat (first | (with_reducible refine then_n ?_) | (with_reducible refine then_r ?_) | (with_reducible refine then_e ?_) | (with_reducible refine block_n ?_) | (with_reducible refine block_r ?_) | (with_reducible refine block_e ?_) | refine block_o ?_ | (with_reducible refine scope_n ?_) | (with_reducible refine scope_r ?_) | (with_reducible refine scope_e ?_) | (with_reducible refine code_seq ?_) | (with_reducible refine code_skip ?_) | (with_reducible refine code_label ?_) | (with_reducible refine code_block ?_) | (with_reducible refine code_scope ?_) | (with_reducible refine code_exit ?_) | (with_reducible refine code_ret ?_) | refine regq_to ?_ | (with_reducible refine run_nil ?_) | ((with_reducible refine run_probe ?_); refine runq_more ?_) | (with_reducible refine draw_nil ?_) | ((with_reducible refine draw_probe ?_); (first | refine drawq_more ?_ | refine drawq_as ?_)) | refine code_then ?_ | refine code_else ?_))
  refine run_op fun K hK => ?_; refine calls_to (trow_nil) ?_; rintro v A ⟨rfl, rfl⟩; (try simp only [List.nil_append, List.cons_append]); refine hK _ _ ?_; clear hK K; (repeat (first | (with_reducible refine then_n ?_) | (with_reducible refine then_r ?_) | (with_reducible refine then_e ?_) | (with_reducible refine block_n ?_) | (with_reducible refine block_r ?_) | (with_reducible refine block_e ?_) | refine block_o ?_ | (with_reducible refine scope_n ?_) | (with_reducible refine scope_r ?_) | (with_reducible refine scope_e ?_) | (with_reducible refine code_seq ?_) | (with_reducible refine code_skip ?_) | (with_reducible refine code_label ?_) | (with_reducible refine code_block ?_) | (with_reducible refine code_scope ?_) | (with_reducible refine code_exit ?_) | (with_reducible refine code_ret ?_) | refine regq_to ?_ | (with_reducible refine run_nil ?_) | ((with_reducible refine run_probe ?_); refine runq_more ?_) | (with_reducible refine draw_nil ?_) | ((with_reducible refine draw_probe ?_); (first | refine drawq_more ?_ | refine drawq_as ?_)) | refine code_then ?_ | refine code_else ?_))
  refine loop_i (fun q D L S => q = 0 ∧ D = [] ∧ L = [(11, .int .i64 0), (10, .int .i64 0), (3, .slice none 0 0)] ∧ S = [C, F, bx c (.pointer none) 23]) ⟨rfl, rfl, rfl, rfl⟩ ?_
  rintro q D L S ⟨rfl, rfl, rfl, rfl⟩
  (repeat (first | (with_reducible refine then_n ?_) | (with_reducible refine then_r ?_) | (with_reducible refine then_e ?_) | (with_reducible refine block_n ?_) | (with_reducible refine block_r ?_) | (with_reducible refine block_e ?_) | refine block_o ?_ | (with_reducible refine scope_n ?_) | (with_reducible refine scope_r ?_) | (with_reducible refine scope_e ?_) | (with_reducible refine code_seq ?_) | (with_reducible refine code_skip ?_) | (with_reducible refine code_label ?_) | (with_reducible refine code_block ?_) | (with_reducible refine code_scope ?_) | (with_reducible refine code_exit ?_) | (with_reducible refine code_ret ?_) | refine regq_to ?_ | (with_reducible refine run_nil ?_) | ((with_reducible refine run_probe ?_); refine runq_more ?_) | (with_reducible refine draw_nil ?_) | ((with_reducible refine draw_probe ?_); (first | refine drawq_more ?_ | refine drawq_as ?_)) | refine code_then ?_ | refine code_else ?_))
  refine loop_i (fun q D L S => q = 0 ∧ D = [] ∧ L = [(28, .int .i64 0), (27, .int .i64 0)] ∧ S = [C, F, bx c (.pointer none) 23]) ⟨rfl, rfl, rfl, rfl⟩ ?_
  rintro q D L S ⟨rfl, rfl, rfl, rfl⟩
  (repeat (first | (with_reducible refine then_n ?_) | (with_reducible refine then_r ?_) | (with_reducible refine then_e ?_) | (with_reducible refine block_n ?_) | (with_reducible refine block_r ?_) | (with_reducible refine block_e ?_) | refine block_o ?_ | (with_reducible refine scope_n ?_) | (with_reducible refine scope_r ?_) | (with_reducible refine scope_e ?_) | (with_reducible refine code_seq ?_) | (with_reducible refine code_skip ?_) | (with_reducible refine code_label ?_) | (with_reducible refine code_block ?_) | (with_reducible refine code_scope ?_) | (with_reducible refine code_exit ?_) | (with_reducible refine code_ret ?_) | refine regq_to ?_ | (with_reducible refine run_nil ?_) | ((with_reducible refine run_probe ?_); refine runq_more ?_) | (with_reducible refine draw_nil ?_) | ((with_reducible refine draw_probe ?_); (first | refine drawq_more ?_ | refine drawq_as ?_)) | refine code_then ?_ | refine code_else ?_))
  exact back_none_n [C, bx c (.pointer none) 23] ⟨C, [bx c (.pointer none) 23], rfl, .inl ⟨[], rfl, hC, rfl⟩⟩

theorem all_spec (p : Option Addr) : Meets Try.prog 17 [.pointer p] []
    fun u A => ∃ c, u = .func (.func 34) #[] #[.pointer (some ⟨c, 0, none⟩)] ∧ A = [bx c (.pointer p) 23] := by
  refine spec_intro Try.func17 rfl (by kernel_rfl) (by rw [Try.ntmps17]; simp) fun F => ?_; rw [Try.ntmps17, Try.results17]
  (repeat (first | (with_reducible refine then_n ?_) | (with_reducible refine then_r ?_) | (with_reducible refine then_e ?_) | (with_reducible refine block_n ?_) | (with_reducible refine block_r ?_) | (with_reducible refine block_e ?_) | refine block_o ?_ | (with_reducible refine scope_n ?_) | (with_reducible refine scope_r ?_) | (with_reducible refine scope_e ?_) | (with_reducible refine code_seq ?_) | (with_reducible refine code_skip ?_) | (with_reducible refine code_label ?_) | (with_reducible refine code_block ?_) | (with_reducible refine code_scope ?_) | (with_reducible refine code_exit ?_) | (with_reducible refine code_ret ?_) | refine regq_to ?_ | (with_reducible refine run_nil ?_) | ((with_reducible refine run_probe ?_); refine runq_more ?_) | (with_reducible refine draw_nil ?_) | ((with_reducible refine draw_probe ?_); (first | refine drawq_more ?_ | refine drawq_as ?_)) | refine code_then ?_ | refine code_else ?_))
  refine run_op fun K hK => ?_; refine box_new fun p1 => ?_; (try simp only [Value.cells]); refine hK _ _ ?_; clear hK K
  (repeat (first | (with_reducible refine then_n ?_) | (with_reducible refine then_r ?_) | (with_reducible refine then_e ?_) | (with_reducible refine block_n ?_) | (with_reducible refine block_r ?_) | (with_reducible refine block_e ?_) | refine block_o ?_ | (with_reducible refine scope_n ?_) | (with_reducible refine scope_r ?_) | (with_reducible refine scope_e ?_) | (with_reducible refine code_seq ?_) | (with_reducible refine code_skip ?_) | (with_reducible refine code_label ?_) | (with_reducible refine code_block ?_) | (with_reducible refine code_scope ?_) | (with_reducible refine code_exit ?_) | (with_reducible refine code_ret ?_) | refine regq_to ?_ | (with_reducible refine run_nil ?_) | ((with_reducible refine run_probe ?_); refine runq_more ?_) | (with_reducible refine draw_nil ?_) | ((with_reducible refine draw_probe ?_); (first | refine drawq_more ?_ | refine drawq_as ?_)) | refine code_then ?_ | refine code_else ?_))
  refine back_tmp [bx p1 (.pointer p) 23] ⟨p1, rfl, rfl⟩

end all
end Go.Proofs.Ytkgnhhpgnkkigaa

/- A table: the eldest, a new one, those that go. Conditions: as each says. -/
set_option linter.unusedSimpArgs false
set_option linter.unusedVariables false
namespace Go.Proofs.Ytkgnhhpgnkkigaa
open Go Go.Ost Go.Tab

section more
variable {b room : Nat} {es : List (List UInt8 × Int)}

theorem next_at {α : Type} {es pre : List α} {x : α} {suf : List α} (h : es = pre ++ x :: suf) : es[pre.length]? = some x := by subst h; simp

theorem oldest_nil : Meets Try.prog 12 [.pointer none] [] fun v A => v = .tuple #[.string (str []), .int .i64 0, .bool false] ∧ A = [] := by
  refine spec_intro Try.func12 rfl (by kernel_rfl) (by rw [Try.ntmps12]; simp) fun F => ?_; rw [Try.ntmps12, Try.results12]
  (repeat (first | (with_reducible refine then_n ?_) | (with_reducible refine then_r ?_) | (with_reducible refine then_e ?_) | (with_reducible refine block_n ?_) | (with_reducible refine block_r ?_) | (with_reducible refine block_e ?_) | refine block_o ?_ | (with_reducible refine scope_n ?_) | (with_reducible refine scope_r ?_) | (with_reducible refine scope_e ?_) | (with_reducible refine code_seq ?_) | (with_reducible refine code_skip ?_) | (with_reducible refine code_label ?_) | (with_reducible refine code_block ?_) | (with_reducible refine code_scope ?_) | (with_reducible refine code_exit ?_) | (with_reducible refine code_ret ?_) | refine regq_to ?_ | (with_reducible refine run_nil ?_) | ((with_reducible refine run_probe ?_); refine runq_more ?_) | (with_reducible refine draw_nil ?_) | ((with_reducible refine draw_probe ?_); (first | refine drawq_more ?_ | refine drawq_as ?_)) | refine code_then ?_ | refine code_else ?_))
  refine run_op fun K hK => ?_; refine alloc_new fun b2 => ?_; (try simp only [Value.cells]); refine hK _ _ ?_; clear hK K
  (repeat (first | (with_reducible refine then_n ?_) | (with_reducible refine then_r ?_) | (with_reducible refine then_e ?_) | (with_reducible refine block_n ?_) | (with_reducible refine block_r ?_) | (with_reducible refine block_e ?_) | refine block_o ?_ | (with_reducible refine scope_n ?_) | (with_reducible refine scope_r ?_) | (with_reducible refine scope_e ?_) | (with_reducible refine code_seq ?_) | (with_reducible refine code_skip ?_) | (with_reducible refine code_label ?_) | (with_reducible refine code_block ?_) | (with_reducible refine code_scope ?_) | (with_reducible refine code_exit ?_) | (with_reducible refine code_ret ?_) | refine regq_to ?_ | (with_reducible refine run_nil ?_) | ((with_reducible refine run_probe ?_); refine runq_more ?_) | (with_reducible refine draw_nil ?_) | ((with_reducible refine draw_probe ?_); (first | refine drawq_more ?_ | refine drawq_as ?_)) | refine code_then ?_ | refine code_else ?_))
  refine run_op fun K hK => ?_; refine alloc_new fun b3 => ?_; (try simp only [Value.cells]); refine hK _ _ ?_; clear hK K
  (repeat (first | (with_reducible refine then_n ?_) | (with_reducible refine then_r ?_) | (with_reducible refine then_e ?_) | (with_reducible refine block_n ?_) | (with_reducible refine block_r ?_) | (with_reducible refine block_e ?_) | refine block_o ?_ | (with_reducible refine scope_n ?_) | (with_reducible refine scope_r ?_) | (with_reducible refine scope_e ?_) | (with_reducible refine code_seq ?_) | (with_reducible refine code_skip ?_) | (with_reducible refine code_label ?_) | (with_reducible refine code_block ?_) | (with_reducible refine code_scope ?_) | (with_reducible refine code_exit ?_) | (with_reducible refine code_ret ?_) | refine regq_to ?_ | (with_reducible refine run_nil ?_) | ((with_reducible refine run_probe ?_); refine runq_more ?_) | (with_reducible refine draw_nil ?_) | ((with_reducible refine draw_probe ?_); (first | refine drawq_more ?_ | refine drawq_as ?_)) | refine code_then ?_ | refine code_else ?_))
  refine run_op fun K hK => ?_; refine alloc_new fun b4 => ?_; (try simp only [Value.cells]); refine hK _ _ ?_; clear hK K
  (repeat (first | (with_reducible refine then_n ?_) | (with_reducible refine then_r ?_) | (with_reducible refine then_e ?_) | (with_reducible refine block_n ?_) | (with_reducible refine block_r ?_) | (with_reducible refine block_e ?_) | refine block_o ?_ | (with_reducible refine scope_n ?_) | (with_reducible refine scope_r ?_) | (with_reducible refine scope_e ?_) | (with_reducible refine code_seq ?_) | (with_reducible refine code_skip ?_) | (with_reducible refine code_label ?_) | (with_reducible refine code_block ?_) | (with_reducible refine code_scope ?_) | (with_reducible refine code_exit ?_) | (with_reducible refine code_ret ?_) | refine regq_to ?_ | (with_reducible refine run_nil ?_) | ((with_reducible refine run_probe ?_); refine runq_more ?_) | (with_reducible refine draw_nil ?_) | ((with_reducible refine draw_probe ?_); (first | refine drawq_more ?_ | refine drawq_as ?_)) | refine code_then ?_ | refine code_else ?_))
  refine run_op fun K hK => ?_; refine calls_to (all_spec none) ?_; rintro v A ⟨c, rfl, rfl⟩; (try simp only [List.nil_append, List.cons_append]); refine hK _ _ ?_; clear hK K; (repeat (first | (with_reducible refine then_n ?_) | (with_reducible refine then_r ?_) | (with_reducible refine then_e ?_) | (with_reducible refine block_n ?_) | (with_reducible refine block_r ?_) | (with_reducible refine block_e ?_) | refine block_o ?_ | (with_reducible refine scope_n ?_) | (with_reducible refine scope_r ?_) | (with_reducible refine scope_e ?_) | (with_reducible refine code_seq ?_) | (with_reducible refine code_skip ?_) | (with_reducible refine code_label ?_) | (with_reducible refine code_block ?_) | (with_reducible refine code_scope ?_) | (with_reducible refine code_exit ?_) | (with_reducible refine code_ret ?_) | refine regq_to ?_ | (with_reducible refine run_nil ?_) | ((with_reducible refine run_probe ?_); refine runq_more ?_) | (with_reducible refine draw_nil ?_) | ((with_reducible refine draw_probe ?_); (first | refine drawq_more ?_ | refine drawq_as ?_)) | refine code_then ?_ | refine code_else ?_))
  refine code_rangeG (by (try simp only [evT, lookT_hit, lookT_miss, Nat.reduceBEq]); (first | done | exact rfl)) (all_iter_nil c) (by (repeat (first | exact Take.nil _ | with_reducible exact Pick.head _ _ | with_reducible apply Pick.tail | with_reducible apply Take.cons))) (fun pre C => C = [bx b4 (.bool false) 4, bx b3 (.int .i64 0) 3, bx b2 (.string (str [])) 9, F]) (fun c pre C => False) (fun h => by cases h) (fun C hC => ⟨[], C.flatten, rfl, by simp⟩) (fun _ => rfl) rfl ?_ ?_ ?_
  · rintro l F1 C H r pre x hx
    exact hx.elim
  · rintro d pre C A hd rfl rfl
    (try simp only [List.nil_append, List.cons_append])
    (repeat (first | (with_reducible refine then_n ?_) | (with_reducible refine then_r ?_) | (with_reducible refine then_e ?_) | (with_reducible refine block_n ?_) | (with_reducible refine block_r ?_) | (with_reducible refine block_e ?_) | refine block_o ?_ | (with_reducible refine scope_n ?_) | (with_reducible refine scope_r ?_) | (with_reducible refine scope_e ?_) | (with_reducible refine code_seq ?_) | (with_reducible refine code_skip ?_) | (with_reducible refine code_label ?_) | (with_reducible refine code_block ?_) | (with_reducible refine code_scope ?_) | (with_reducible refine code_exit ?_) | (with_reducible refine code_ret ?_) | refine regq_to ?_ | (with_reducible refine run_nil ?_) | ((with_reducible refine run_probe ?_); refine runq_more ?_) | (with_reducible refine draw_nil ?_) | ((with_reducible refine draw_probe ?_); (first | refine drawq_more ?_ | refine drawq_as ?_)) | refine code_then ?_ | refine code_else ?_))
    refine back_cells [] ?_; exact ⟨rfl, rfl⟩
  · rintro d c pre x C A hx
    exact hx.elim

def oldE (es : List (List UInt8 × Int)) : Value := match es with | [] => .tuple #[.string (str []), .int .i64 0, .bool false] | x :: _ => .tuple #[.string (str x.1), .int .i64 x.2, .bool true]
theorem oldest_spec (T : Chunk) (h : IsTab T b room es) : Meets Try.prog 12 [.pointer (some ⟨b, 0, none⟩)] [T]
    fun v A => v = oldE es ∧ A = [T] := by
  refine spec_intro Try.func12 rfl (by kernel_rfl) (by rw [Try.ntmps12]; simp) fun F => ?_; rw [Try.ntmps12, Try.results12]
  (repeat (first | (with_reducible refine then_n ?_) | (with_reducible refine then_r ?_) | (with_reducible refine then_e ?_) | (with_reducible refine block_n ?_) | (with_reducible refine block_r ?_) | (with_reducible refine block_e ?_) | refine block_o ?_ | (with_reducible refine scope_n ?_) | (with_reducible refine scope_r ?_) | (with_reducible refine scope_e ?_) | (with_reducible refine code_seq ?_) | (with_reducible refine code_skip ?_) | (with_reducible refine code_label ?_) | (with_reducible refine code_block ?_) | (with_reducible refine code_scope ?_) | (with_reducible refine code_exit ?_) | (with_reducible refine code_ret ?_) | refine regq_to ?_ | (with_reducible refine run_nil ?_) | ((with_reducible refine run_probe ?_); refine runq_more ?_) | (with_reducible refine draw_nil ?_) | ((with_reducible refine draw_probe ?_); (first | refine drawq_more ?_ | refine drawq_as ?_)) | refine code_then ?_ | refine code_else ?_))
  refine run_op fun K hK => ?_; refine alloc_new fun b2 => ?_; (try simp only [Value.cells]); refine hK _ _ ?_; clear hK K
  (repeat (first | (with_reducible refine then_n ?_) | (with_reducible refine then_r ?_) | (with_reducible refine then_e ?_) | (with_reducible refine block_n ?_) | (with_reducible refine block_r ?_) | (with_reducible refine block_e ?_) | refine block_o ?_ | (with_reducible refine scope_n ?_) | (with_reducible refine scope_r ?_) | (with_reducible refine scope_e ?_) | (with_reducible refine code_seq ?_) | (with_reducible refine code_skip ?_) | (with_reducible refine code_label ?_) | (with_reducible refine code_block ?_) | (with_reducible refine code_scope ?_) | (with_reducible refine code_exit ?_) | (with_reducible refine code_ret ?_) | refine regq_to ?_ | (with_reducible refine run_nil ?_) | ((with_reducible refine run_probe ?_); refine runq_more ?_) | (with_reducible refine draw_nil ?_) | ((with_reducible refine draw_probe ?_); (first | refine drawq_more ?_ | refine drawq_as ?_)) | refine code_then ?_ | refine code_else ?_))
  refine run_op fun K hK => ?_; refine alloc_new fun b3 => ?_; (try simp only [Value.cells]); refine hK _ _ ?_; clear hK K
  (repeat (first | (with_reducible refine then_n ?_) | (with_reducible refine then_r ?_) | (with_reducible refine then_e ?_) | (with_reducible refine block_n ?_) | (with_reducible refine block_r ?_) | (with_reducible refine block_e ?_) | refine block_o ?_ | (with_reducible refine scope_n ?_) | (with_reducible refine scope_r ?_) | (with_reducible refine scope_e ?_) | (with_reducible refine code_seq ?_) | (with_reducible refine code_skip ?_) | (with_reducible refine code_label ?_) | (with_reducible refine code_block ?_) | (with_reducible refine code_scope ?_) | (with_reducible refine code_exit ?_) | (with_reducible refine code_ret ?_) | refine regq_to ?_ | (with_reducible refine run_nil ?_) | ((with_reducible refine run_probe ?_); refine runq_more ?_) | (with_reducible refine draw_nil ?_) | ((with_reducible refine draw_probe ?_); (first | refine drawq_more ?_ | refine drawq_as ?_)) | refine code_then ?_ | refine code_else ?_))
  refine run_op fun K hK => ?_; refine alloc_new fun b4 => ?_; (try simp only [Value.cells]); refine hK _ _ ?_; clear hK K
  (repeat (first | (with_reducible refine then_n ?_) | (with_reducible refine then_r ?_) | (with_reducible refine then_e ?_) | (with_reducible refine block_n ?_) | (with_reducible refine block_r ?_) | (with_reducible refine block_e ?_) | refine block_o ?_ | (with_reducible refine scope_n ?_) | (with_reducible refine scope_r ?_) | (with_reducible refine scope_e ?_) | (with_reducible refine code_seq ?_) | (with_reducible refine code_skip ?_) | (with_reducible refine code_label ?_) | (with_reducible refine code_block ?_) | (with_reducible refine code_scope ?_) | (with_reducible refine code_exit ?_) | (with_reducible refine code_ret ?_) | refine regq_to ?_ | (with_reducible refine run_nil ?_) | ((with_reducible refine run_probe ?_); refine runq_more ?_) | (with_reducible refine draw_nil ?_) | ((with_reducible refine draw_probe ?_); (first | refine drawq_more ?_ | refine drawq_as ?_)) | refine code_then ?_ | refine code_else ?_))
  refine run_op fun K hK => ?_; refine calls_to (all_spec _) ?_; rintro v A ⟨c, rfl, rfl⟩; (try simp only [List.nil_append, List.cons_append]); refine hK _ _ ?_; clear hK K; (repeat (first | (with_reducible refine then_n ?_) | (with_reducible refine then_r ?_) | (with_reducible refine then_e ?_) | (with_reducible refine block_n ?_) | (with_reducible refine block_r ?_) | (with_reducible refine block_e ?_) | refine block_o ?_ | (with_reducible refine scope_n ?_) | (with_reducible refine scope_r ?_) | (with_reducible refine scope_e ?_) | (with_reducible refine code_seq ?_) | (with_reducible refine code_skip ?_) | (with_reducible refine code_label ?_) | (with_reducible refine code_block ?_) | (with_reducible refine code_scope ?_) | (with_reducible refine code_exit ?_) | (with_reducible refine code_ret ?_) | refine regq_to ?_ | (with_reducible refine run_nil ?_) | ((with_reducible refine run_probe ?_); refine runq_more ?_) | (with_reducible refine draw_nil ?_) | ((with_reducible refine draw_probe ?_); (first | refine drawq_more ?_ | refine drawq_as ?_)) | refine code_then ?_ | refine code_else ?_))
  refine code_rangeG (by (try simp only [evT, lookT_hit, lookT_miss, Nat.reduceBEq]); (first | done | exact rfl)) (all_iter c b room es) (by (repeat (first | exact Take.nil _ | with_reducible exact Pick.head _ _ | with_reducible apply Pick.tail | with_reducible apply Take.cons))) (fun pre C => pre = [] ∧ C = [bx b4 (.bool false) 4, bx b3 (.int .i64 0) 3, bx b2 (.string (str [])) 9, F, T])
    (fun c pre C => ∃ x suf, c = .ret ∧ es = x :: suf ∧ C = [bx b4 (.bool true) 4, bx b3 (.int .i64 x.2) 3, bx b2 (.string (str x.1)) 9, F, T]) (fun h => by cases h)
    (fun C hC => by obtain ⟨_, rfl⟩ := hC; exact T0_pick h (by (repeat (first | with_reducible exact Pick.head _ _ | with_reducible apply Pick.tail)))) (fun _ => rfl) ⟨rfl, rfl⟩ ?_ ?_ ?_
  · rintro l F1 C H r pre x ⟨suf, hx⟩ ⟨rfl, rfl⟩ rfl
    (try simp only [List.nil_append, List.cons_append, List.append_nil, encX])
    (try simp only [putAll, putT, Nat.reduceLT, if_true, reduceIte, Array.toList, List.toList_toArray])
    (repeat (first | (with_reducible refine then_n ?_) | (with_reducible refine then_r ?_) | (with_reducible refine then_e ?_) | (with_reducible refine block_n ?_) | (with_reducible refine block_r ?_) | (with_reducible refine block_e ?_) | refine block_o ?_ | (with_reducible refine scope_n ?_) | (with_reducible refine scope_r ?_) | (with_reducible refine scope_e ?_) | (with_reducible refine code_seq ?_) | (with_reducible refine code_skip ?_) | (with_reducible refine code_label ?_) | (with_reducible refine code_block ?_) | (with_reducible refine code_scope ?_) | (with_reducible refine code_exit ?_) | (with_reducible refine code_ret ?_) | refine regq_to ?_ | (with_reducible refine run_nil ?_) | ((with_reducible refine run_probe ?_); refine runq_more ?_) | (with_reducible refine draw_nil ?_) | ((with_reducible refine draw_probe ?_); (first | refine drawq_more ?_ | refine drawq_as ?_)) | refine code_then ?_ | refine code_else ?_))
    refine ⟨_, Among.refl _, fun r' _ => ?_⟩
    (repeat (first | (with_reducible refine then_n ?_) | (with_reducible refine then_r ?_) | (with_reducible refine then_e ?_) | (with_reducible refine block_n ?_) | (with_reducible refine block_r ?_) | (with_reducible refine block_e ?_) | refine block_o ?_ | (with_reducible refine scope_n ?_) | (with_reducible refine scope_r ?_) | (with_reducible refine scope_e ?_) | (with_reducible refine code_seq ?_) | (with_reducible refine code_skip ?_) | (with_reducible refine code_label ?_) | (with_reducible refine code_block ?_) | (with_reducible refine code_scope ?_) | (with_reducible refine code_exit ?_) | (with_reducible refine code_ret ?_) | refine regq_to ?_ | (with_reducible refine run_nil ?_) | ((with_reducible refine run_probe ?_); refine runq_more ?_) | (with_reducible refine draw_nil ?_) | ((with_reducible refine draw_probe ?_); (first | refine drawq_more ?_ | refine drawq_as ?_)) | refine code_then ?_ | refine code_else ?_))
    exact ⟨[bx b4 (.bool true) 4, bx b3 (.int .i64 x.2) 3, bx b2 (.string (str x.1)) 9, F, T], ⟨_, [], rfl, ⟨x, suf, rfl, hx, rfl⟩, rfl⟩, by first | ((repeat (first | with_reducible exact Among.nil _ | with_reducible exact Pick.head _ _ | with_reducible apply Pick.tail | with_reducible apply Among.cons)); done) | ((repeat (first | exact Among.nil _ | exact Pick.head _ _ | apply Pick.tail | apply Among.cons)); done)⟩
  · rintro d pre C A rfl ⟨rfl, rfl⟩ rfl
    (try simp only [List.nil_append, List.cons_append])
    (repeat (first | (with_reducible refine then_n ?_) | (with_reducible refine then_r ?_) | (with_reducible refine then_e ?_) | (with_reducible refine block_n ?_) | (with_reducible refine block_r ?_) | (with_reducible refine block_e ?_) | refine block_o ?_ | (with_reducible refine scope_n ?_) | (with_reducible refine scope_r ?_) | (with_reducible refine scope_e ?_) | (with_reducible refine code_seq ?_) | (with_reducible refine code_skip ?_) | (with_reducible refine code_label ?_) | (with_reducible refine code_block ?_) | (with_reducible refine code_scope ?_) | (with_reducible refine code_exit ?_) | (with_reducible refine code_ret ?_) | refine regq_to ?_ | (with_reducible refine run_nil ?_) | ((with_reducible refine run_probe ?_); refine runq_more ?_) | (with_reducible refine draw_nil ?_) | ((with_reducible refine draw_probe ?_); (first | refine drawq_more ?_ | refine drawq_as ?_)) | refine code_then ?_ | refine code_else ?_))
    refine back_cells [T] ?_; exact ⟨rfl, rfl⟩
  · rintro d c pre x C A hx ⟨y, suf, rfl, rfl, rfl⟩ rfl
    (try simp only [List.nil_append, List.cons_append])
    (repeat (first | (with_reducible refine then_n ?_) | (with_reducible refine then_r ?_) | (with_reducible refine then_e ?_) | (with_reducible refine block_n ?_) | (with_reducible refine block_r ?_) | (with_reducible refine block_e ?_) | refine block_o ?_ | (with_reducible refine scope_n ?_) | (with_reducible refine scope_r ?_) | (with_reducible refine scope_e ?_) | (with_reducible refine code_seq ?_) | (with_reducible refine code_skip ?_) | (with_reducible refine code_label ?_) | (with_reducible refine code_block ?_) | (with_reducible refine code_scope ?_) | (with_reducible refine code_exit ?_) | (with_reducible refine code_ret ?_) | refine regq_to ?_ | (with_reducible refine run_nil ?_) | ((with_reducible refine run_probe ?_); refine runq_more ?_) | (with_reducible refine draw_nil ?_) | ((with_reducible refine draw_probe ?_); (first | refine drawq_more ?_ | refine drawq_as ?_)) | refine code_then ?_ | refine code_else ?_))
    refine back_cells [T] ?_; exact ⟨rfl, rfl⟩

end more
end Go.Proofs.Ytkgnhhpgnkkigaa
