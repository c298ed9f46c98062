/- bytes.Join, by the kit's shelf. Conditions: as each says. -/
import Derived.Test.YtfaobbekodifmaaDoorFa
import Derived.Test.YtfaobbekodifmaaDoorSg
import Derived.Test.YtfaobbekodifmaaDoorSj
set_option linter.unusedSimpArgs false
set_option linter.unusedVariables false
namespace Go.Proofs.YtfaobbekodifmaaDoor
open Go Go.Ost Go.Shelf Go.RowKit

def renJ : Ren := ⟨fun x => if x = 14 then 34 else if x = 15 then 43 else x, fun x => if x = 22 then 24 else if x = 26 then 22 else x, fun x => x⟩
instance : TSized Tryd.prog 0 (.tuple #[]) 1 0 := ⟨by kernel_rfl⟩
instance : TFlat Tryd.prog 0 := ⟨by kernel_rfl⟩
instance : TSized Tryd.prog 20 .nilIface 1 16 := ⟨by kernel_rfl⟩
instance : TFlat Tryd.prog 20 := ⟨by kernel_rfl⟩

theorem laysJ : SlLaysJ.n14 Tryd.prog renJ where
  mixed := by kernel_rfl
  f14 := by kernel_rfl
  f15 := by kernel_rfl
  t0 := by kernel_rfl
  a0 := run_isAgg_flat (t := 0) inferInstance
  z0 := run_size (t := 0) inferInstance
  v0 := run_zero (t := 0) inferInstance
  t3 := by kernel_rfl
  a3 := run_isAgg_flat (t := 3) inferInstance
  z3 := run_size (t := 3) inferInstance
  v3 := run_zero (t := 3) inferInstance
  t4 := by kernel_rfl
  a4 := run_isAgg_flat (t := 4) inferInstance
  z4 := run_size (t := 4) inferInstance
  v4 := run_zero (t := 4) inferInstance
  t9 := by kernel_rfl
  a9 := run_isAgg_flat (t := 9) inferInstance
  z9 := run_size (t := 9) inferInstance
  v9 := run_zero (t := 9) inferInstance
  t20 := by kernel_rfl
  a20 := run_isAgg_flat (t := 20) inferInstance
  z20 := run_size (t := 20) inferInstance
  v20 := run_zero (t := 20) inferInstance
  t22 := by kernel_rfl
  a22 := run_isAgg_flat (t := 24) inferInstance
  z22 := run_size (t := 24) inferInstance
  v22 := run_zero (t := 24) inferInstance
  t26 := by kernel_rfl
  a26 := run_isAgg_flat (t := 22) inferInstance
  z26 := run_size (t := 22) inferInstance
  v26 := run_zero (t := 22) inferInstance
  t5 := by kernel_rfl
  z5 := run_size (t := 5) inferInstance
  i5 := by kernel_rfl

theorem join_spec (A : State) (a : Option Addr) (n c : Nat) (ls : List (List UInt8)) (hp : Parts A a n ls) (hnc : n ≤ c) (hn : n ≤ 1000000) (hlen : ls.flatten.length ≤ 1000000000) :
    Meets Tryd.prog 34 [.slice a n c, .slice none 0 0] A (Got8 ls.flatten A) := by
  refine meets_of_calls rfl rfl (by kernel_rfl) fun w hw => ?_
  obtain ⟨hl, vs, hr, hv⟩ := hp
  have hvl : vs.length = n := by have := hr.1; omega
  match ls, hl, hlen, hv with
  | [], hl, _, _ =>
    have h0 : n = 0 := by simpa using hl.symm
    subst h0
    refine (Any.bytes_Join_none laysJ a c (.slice none 0 0) w).mono ?_
    rintro e w' ⟨rfl, rfl⟩
    refine ⟨_, rfl, ⟨rfl, rfl, rfl, by simp, fun k hk => ?_⟩, [], fun k o hm => (by cases hm), by simp, ⟨[], some ⟨w.heap.size, 0, none⟩, 0, rfl, Nat.le_refl _, Rd.nil, fun h => absurd h (by simp), rfl⟩⟩
    simp only [World.alloc]
    rw [Array.getElem?_push, if_neg (by omega)]
  | [l], hl, hlen, hv =>
    have h1 : n = 1 := by simpa using hl.symm
    subst h1
    obtain ⟨v, hv0⟩ : ∃ v, vs[0]? = some v := ⟨vs[0], List.getElem?_eq_getElem (by omega)⟩
    obtain ⟨p, c2, rfl, hlc, hrl⟩ := hv 0 v l hv0 rfl
    obtain ⟨b, o, rfl, hcell⟩ := rd_cell hr hw hv0
    simp only [List.flatten_cons, List.flatten_nil, List.append_nil] at hlen ⊢
    by_cases h0 : l.length = 0
    · have : l = [] := List.length_eq_zero_iff.1 h0
      subst this
      refine (Any.bytes_Join_one_empty laysJ b o c p c2 (.slice none 0 0) w hcell).mono ?_
      rintro e w' ⟨rfl, rfl⟩
      exact ⟨_, rfl, Below.refl _ _, [], fun k o hm => (by cases hm), by simp, ⟨[], none, 0, rfl, Nat.le_refl _, Rd.nil, fun h => absurd h (by simp), rfl⟩⟩
    · obtain ⟨b1, o1, cs, e, m, rfl, hb1, hc1⟩ := hrl.2 (by intro e; rw [List.map_eq_nil_iff] at e; subst e; simp at h0)
      refine (Any.bytes_Join_one laysJ b o c ⟨b1, o1, none⟩ c2 l (.slice none 0 0) w hcell (fun i x hx => ?_) (by omega) (by omega)).mono ?_
      · obtain ⟨b', o', e', hc'⟩ := rd_cell hrl hw (i := i) (v := b8 x) (by simp [hx])
        cases e'
        rw [add_mk]; exact hc'
      · rintro e w' ⟨v', rfl, hfb, hbe⟩
        obtain ⟨C, a2, cap, rfl, h1, h2, h3, h4, h5⟩ := fresh_chunk hfb
        exact ⟨_, rfl, hbe, C, h2, h3, C, a2, cap, rfl, h1, h4, h5, rfl⟩
  | l1 :: l2 :: ls', hl, hlen, hv =>
    have h2n : 2 ≤ n := by simp at hl; omega
    obtain ⟨v, hv0⟩ : ∃ v, vs[0]? = some v := ⟨vs[0], List.getElem?_eq_getElem (by omega)⟩
    obtain ⟨b, o, rfl, _⟩ := rd_cell hr hw hv0
    have hparts : Lib.PartsAt w ⟨b, o, none⟩ vs (l1 :: l2 :: ls') := by
      refine ⟨by omega, fun i v hi => ?_, fun i v l hi hi2 => ?_⟩
      · obtain ⟨b', o', e', hc'⟩ := rd_cell hr hw hi
        cases e'
        rw [add_mk]; exact hc'
      · obtain ⟨p, c2, rfl, _, hrl⟩ := hv i v l hi hi2
        exact holds_of hrl hw
    have hsep : Lib.HoldsBytes w (.slice none 0 0) [] := ⟨none, 0, rfl, fun _ => rfl, fun a ha => by cases ha⟩
    have hlens : ∀ xs : List (List UInt8), Lib.lens xs = xs.flatten.length := fun xs => by simp [Lib.lens, List.length_flatten]
    refine (Any.bytes_Join_many laysJ b o n c vs (l1 :: l2 :: ls') (.slice none 0 0) [] w hl h2n hparts hnc hsep (by omega) (by rw [hlens]; simp only [List.length_nil, Nat.zero_mul, Nat.add_zero]; omega)).mono ?_
    rintro e w' ⟨v', rfl, hfb, hbe⟩
    have hj : ∀ xs : List (List UInt8), Lib.join xs [] = xs.flatten := fun xs => by
      cases xs with
      | nil => rfl
      | cons x r => rw [Lib.join_cons]; simp [Lib.joinTail]
    rw [hj] at hfb
    obtain ⟨C, a2, cap, rfl, h1, h2, h3, h4, h5⟩ := fresh_chunk hfb
    exact ⟨_, rfl, hbe, C, h2, h3, C, a2, cap, rfl, h1, h4, h5, rfl⟩

end Go.Proofs.YtfaobbekodifmaaDoor
