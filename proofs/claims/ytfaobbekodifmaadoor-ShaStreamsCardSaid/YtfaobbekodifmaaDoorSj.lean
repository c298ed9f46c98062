/- From a contract of the kit's shelf to one over chunks. Conditions: as each says. -/
import Derived.Test.YtfaobbekodifmaaDoorSk
import Derived.Shelf.Bytes.SlJoin
set_option linter.unusedSimpArgs false
set_option linter.unusedVariables false
namespace Go.Ost
open Go Go.RowKit

variable {P : Program}

/-- The chunk is one block, that may be written over so many cells. -/
def Loose (C : Chunk) (a : Option Addr) (n : Nat) : Prop := 0 < n → ∃ b cs e lo hi, a = some ⟨b, 0, none⟩ ∧ C = [(b, .cells cs e (lo, hi))] ∧ ∀ i, i < n → ¬ (lo ≤ i ∧ i < hi)
/-- A slice of bytes that is new, beside R. -/
def Got8 (bs : List UInt8) (R : State) (v : Value) (A : State) : Prop := ∃ C a cap, v = .slice a bs.length cap ∧ bs.length ≤ cap ∧ Rd 1 [C] a bs.length (bs.map b8) ∧ Loose C a bs.length ∧ A = C :: R

theorem meets_of_calls {f : FuncId} {fn : Func} {args : List Value} {A : State} {R : Value → State → Prop} (hf : P.funcs[f]? = some fn) (hb : fn.body.isSome = true) (hn : (fn.name != "runtime.NumGoroutine") = true)
    (h : ∀ w, Hold w A → Calls P f args.toArray w fun e w' => ∃ v, e = .returned v ∧ Below w.heap.size w w' ∧ ∃ C : Chunk, (∀ k o, (k, o) ∈ C → w.heap.size ≤ k ∧ w'.heap[k]? = some o) ∧ (C.map (·.1)).Nodup ∧ R v (C :: A)) : Meets P f args A R := by
  refine ⟨?_, fun F w hw => ?_⟩
  · obtain ⟨c, hc⟩ := Option.isSome_iff_exists.1 hb
    simp [callable, hf, hc]; simpa using hn
  · have hA : Hold w A := hw.sub (by simp)
    refine (callsIn_wide.2 (h w hA)).mono ?_
    rintro e w' ⟨v, rfl, hbe, C, hC, hnd, hR⟩
    refine ⟨v, F :: C :: A, rfl, ⟨hbe.os, hbe.tape, hbe.output, hbe.size⟩, ?_, C :: A, rfl, hR⟩
    have hall : Hold w' (C :: F :: A) := by
      refine ⟨?_, fun k o hm => ?_⟩
      · simp only [List.flatten_cons, List.map_append]
        rw [List.nodup_append]
        refine ⟨hnd, by have := hw.nd; simpa only [List.flatten_cons, List.map_append] using this, ?_⟩
        intro x hx y hy hxy
        obtain ⟨⟨k, o⟩, hk, rfl⟩ := List.mem_map.1 hx
        have h1 := (hC k o hk).1
        have hy' : y ∈ ((F :: A).flatten.map (·.1)) := by simpa only [List.flatten_cons, List.map_append] using hy
        obtain ⟨⟨k2, o2⟩, hk2, e2⟩ := List.mem_map.1 hy'
        have h2 := hw.lt hk2
        simp only at e2 hxy
        omega
      · simp only [List.flatten_cons, List.mem_append] at hm
        rcases hm with hm | hm
        · exact (hC k o hm).2
        · have hm' : (k, o) ∈ (F :: A).flatten := by simpa only [List.flatten_cons, List.mem_append] using hm
          rw [hbe.block k (hw.lt hm')]
          exact hw.get k o hm'
    exact hall.perm (by
      simp only [List.flatten_cons]
      rw [← List.append_assoc, ← List.append_assoc]
      exact List.Perm.append_right _ List.perm_append_comm)

theorem fresh_chunk {B : Nat} {w' : World} {v : Value} {l : List UInt8} (h : Lib.FreshBytes B w' v l) :
    ∃ C a cap, v = .slice a l.length cap ∧ l.length ≤ cap ∧ (∀ k o, (k, o) ∈ C → B ≤ k ∧ w'.heap[k]? = some o) ∧ (C.map (·.1)).Nodup ∧ Rd 1 [C] a l.length (l.map b8) ∧ Loose C a l.length := by
  obtain ⟨g, cap, zs, rfl, hg, hle, _, hz, hr, hb, hc, hf⟩ := h
  by_cases h0 : l.length = 0
  · have : l = [] := List.length_eq_zero_iff.1 h0
    subst this
    exact ⟨[], _, cap, rfl, hle, fun k o hm => (by cases hm), by simp, Rd.nil, fun h => absurd h (by simp)⟩
  · have hc0 := hc 0 (by omega)
    unfold World.cell? at hc0
    cases hob : w'.heap[g]? with
    | none => simp [hob] at hc0
    | some ob =>
      cases ob with
      | cells cs e m =>
        obtain ⟨lo, hi⟩ := m
        refine ⟨[(g, .cells cs e (lo, hi))], _, cap, rfl, hle, fun k o hm => ?_, by simp, ⟨by simp, fun _ => ⟨g, 0, cs, e, (lo, hi), rfl, Lies.one, fun i hi' => ?_⟩⟩, fun _ => ⟨g, cs, e, lo, hi, rfl, rfl, fun i hi' => ?_⟩⟩
        · simp only [List.mem_singleton, Prod.mk.injEq] at hm
          obtain ⟨rfl, rfl⟩ := hm
          exact ⟨hg, hob⟩
        · simp only [List.length_map] at hi'
          have h1 := hc i (by omega)
          unfold World.cell? at h1
          simp only [hob, Option.isSome_none, Bool.false_eq_true, if_false] at h1
          rw [Nat.zero_add, h1]
          have h2 : l[i]? = some (UInt8.ofNat (zs.getD i 0).toNat) := by
            rw [← hb]
            simp only [Lib.bytesOf, List.getElem?_map, List.getElem?_take, if_pos hi']
            rw [List.getElem?_eq_getElem (by omega), List.getD, List.getElem?_eq_getElem (by omega)]; rfl
          have h3 := hr (zs.getD i 0) (by
            rw [List.getD, List.getElem?_eq_getElem (by omega)]
            exact List.getElem_mem _)
          rw [List.getElem?_map, h2]
          simp only [Option.map_some, b8, UInt8.toNat_ofNat']
          congr 2; omega
        · have h1 := hf i (by omega)
          unfold World.frozen? at h1
          simp only [hob] at h1
          intro hlt
          simp [hlt.1, hlt.2] at h1
      | _ => simp [hob] at hc0

/-- Slices of bytes in a row. -/
def Parts (A : State) (a : Option Addr) (n : Nat) (ls : List (List UInt8)) : Prop :=
  ls.length = n ∧ ∃ vs : List Value, Rd 1 A a n vs ∧ ∀ (i : Nat) (v : Value) (l : List UInt8), vs[i]? = some v → ls[i]? = some l → ∃ p c, v = .slice p l.length c ∧ l.length ≤ c ∧ Rd 1 A p l.length (l.map b8)

theorem rd_cell {S : State} {a : Option Addr} {len : Nat} {us : List Value} (h : Rd 1 S a len us) {w : World} (hw : Hold w S) {i : Nat} {v : Value} (hi : us[i]? = some v) : ∃ b o, a = some ⟨b, o, none⟩ ∧ w.cell? ⟨b, o + i, none⟩ = some v := by
  have hlt := (List.getElem?_eq_some_iff.1 hi).1
  obtain ⟨b, o, cs, e, m, rfl, hl, hc⟩ := h.2 (by intro e; subst e; simp at hi)
  exact ⟨b, o, rfl, by rw [cell_of (hl.get hw), hc i hlt, hi]⟩
theorem holds_of {S : State} {p : Option Addr} {c : Nat} {l : List UInt8} (h : Rd 1 S p l.length (l.map b8)) {w : World} (hw : Hold w S) : Lib.HoldsBytes w (.slice p l.length c) l := by
  refine ⟨p, c, rfl, fun hp => ?_, fun a ha i x hx => ?_⟩
  · subst hp
    cases l with
    | nil => rfl
    | cons x l => obtain ⟨_, _, _, _, _, h3, _⟩ := h.2 (by simp); cases h3
  · obtain ⟨b, o, e, hc⟩ := rd_cell h hw (i := i) (v := b8 x) (by simp [hx])
    subst ha
    cases e
    rw [add_mk]
    exact hc

/-- The same blocks, otherwise in chunks. -/
theorem Meets.perm {f : FuncId} {args : List Value} {A B : State} {R R' : Value → State → Prop} (h : Meets P f args A R) (hAB : B.flatten.Perm A.flatten) (hR : ∀ v A', R v A' → ∃ B', A'.flatten.Perm B'.flatten ∧ R' v B') : Meets P f args B R' := by
  refine ⟨h.1, fun F w hw => (h.2 F w (hw.perm (by simp only [List.flatten_cons]; exact hAB.append_left F))).mono ?_⟩
  rintro e w' ⟨v, S, rfl, he, hh, A', rfl, hr⟩
  obtain ⟨B', hp, hr'⟩ := hR v A' hr
  exact ⟨v, F :: B', rfl, he, hh.perm (by simp only [List.flatten_cons]; exact hp.append_left F), B', rfl, hr'⟩

end Go.Ost
