/- Slices: what is read of one, what is one's own, and the operations on them. Conditions: as each says. -/
import Derived.Test.YtfaobbekodifmaaDoorSr
import Derived.Laws.AppendOwn
set_option linter.unusedSimpArgs false
set_option linter.unusedVariables false
namespace Go.Ost
open Go

variable {P : Program}

/-- The slice (a, len) of elements of s cells reads as these cells. -/
def Rd (s : Nat) (S : State) (a : Option Addr) (len : Nat) (us : List Value) : Prop :=
  us.length = len * s ∧ (us ≠ [] → ∃ b o cs e m, a = some ⟨b, o, none⟩ ∧ Lies b (.cells cs e m) S ∧ ∀ i, i < us.length → cs[o + i]? = us[i]?)
/-- No cell of so many is frozen. -/
def Soft (n : Nat) (m : Nat × Nat) : Prop := m.1 = m.2 ∨ n ≤ m.1
theorem Soft.or {n : Nat} {m : Nat × Nat} (h : Soft n m) : m.2 ≤ m.1 ∨ n ≤ m.1 := h.imp (fun e => Nat.le_of_eq e.symm) id
/-- The slice's block is the chunk C alone, and what lies behind its length is free. -/
def Own (s : Nat) (e : TypeId) (C : Chunk) (a : Option Addr) (len cap : Nat) (us : List Value) : Prop :=
  len ≤ cap ∧ cap ≤ maxLen ∧ us.length = len * s ∧ ((cap = 0 ∧ C = []) ∨ ∃ b o cs m, a = some ⟨b, o, none⟩ ∧ C = [(b, .cells cs e m)] ∧ Soft cs.size m ∧ o + cap * s ≤ cs.size ∧ ∀ i, i < us.length → cs[o + i]? = us[i]?)

theorem Lies.of_mem {b : Nat} {o : Obj} {C : Chunk} (h : (b, o) ∈ C) : ∀ {S : State}, C ∈ S → Lies b o S
  | [], hC => by cases hC
  | D :: S, hC => by
    rcases List.mem_cons.1 hC with rfl | hC
    · exact .here h
    · exact .next (Lies.of_mem h hC)
theorem Own.rd {s : Nat} {e : TypeId} {C : Chunk} {a : Option Addr} {len cap : Nat} {us : List Value} (h : Own s e C a len cap us) {S : State} (hC : C ∈ S) : Rd s S a len us := by
  obtain ⟨h1, _, h3, h4⟩ := h
  refine ⟨h3, fun hne => ?_⟩
  rcases h4 with ⟨h5, _⟩ | ⟨b, o, cs, m, rfl, rfl, _, _, h6⟩
  · have : len = 0 := by omega
    subst this
    rw [Nat.zero_mul] at h3
    exact absurd (List.length_eq_zero_iff.1 h3) hne
  · exact ⟨b, o, cs, e, _, rfl, Lies.of_mem (List.mem_singleton.2 rfl) hC, h6⟩
theorem Rd.next {s : Nat} {S : State} {a : Option Addr} {len : Nat} {us : List Value} (h : Rd s S a len us) (C : Chunk) : Rd s (C :: S) a len us :=
  ⟨h.1, fun hne => let ⟨b, o, cs, e, m, h1, h2, h3⟩ := h.2 hne; ⟨b, o, cs, e, m, h1, h2.next, h3⟩⟩
theorem Rd.nil {s : Nat} {S : State} {a : Option Addr} : Rd s S a 0 [] := ⟨by simp, fun h => absurd rfl h⟩

theorem rd_first {s : Nat} {S : State} {a : Option Addr} {len c : Nat} {us : List Value} (h : Rd s S a len us) {w : World} (hw : Hold w S) :
    (Builtin.firstCells s len (.slice a len c)).run P w = .ok us.toArray w := by
  obtain ⟨h1, h2⟩ := h
  by_cases hne : us = []
  · subst hne
    have : len * s = 0 := by simpa using h1.symm
    cases a with
    | none => rfl
    | some a => simp [Builtin.firstCells, this, loadCells, loadCellsFrom]
  · obtain ⟨b, o, cs, e, m, rfl, hl, hc⟩ := h2 hne
    have hb := hl.get hw
    have hsz : o + us.length ≤ cs.size := by
      have hpos : 0 < us.length := List.length_pos_iff.2 hne
      have := hc (us.length - 1) (by omega)
      rw [List.getElem?_eq_getElem (by omega)] at this
      have := (Array.getElem?_eq_some_iff.1 this).1
      omega
    simp only [Builtin.firstCells, loadCells]
    rw [run_loadCells (P := P) hb o (len * s) 0 #[] (by rw [← h1]; omega), ← h1]
    congr 1
    apply Array.ext_getElem?
    intro i
    simp only [Nat.add_zero, Array.empty_append]
    rw [Array.getElem?_extract]
    by_cases hi : i < us.length
    · rw [if_pos (by omega), hc i hi]; simp
    · rw [if_neg (by omega)]; simp; omega

theorem get_setCells : ∀ (l : List Value) (cs : Array Value) (o i : Nat), o + l.length ≤ cs.size → (setCells cs o l)[i]? = if o ≤ i ∧ i < o + l.length then l[i - o]? else cs[i]?
  | [], cs, o, i, _ => by rw [if_neg (by rintro ⟨h1, h2⟩; simp at h2; omega)]; rfl
  | v :: l, cs, o, i, h => by
    simp only [List.length_cons] at h ⊢
    rw [setCells, get_setCells l _ (o + 1) i (by simp; omega)]
    by_cases h1 : o + 1 ≤ i ∧ i < o + 1 + l.length
    · rw [if_pos h1, if_pos (by omega), show i - o = i - (o + 1) + 1 from by omega, List.getElem?_cons_succ]
    · rw [if_neg h1]
      by_cases h2 : i = o
      · subst h2
        rw [if_pos (by omega), Array.getElem?_setIfInBounds_self]
        rw [if_pos (by omega)]; simp
      · rw [if_neg (by omega), Array.getElem?_setIfInBounds_ne (by omega)]

/-- append, onto one's own. -/
theorem append_own {t t2 ty e e2 : TypeId} {z : Value} {s by_ : Nat} [ht : TSlice P t e] [ht2 : TSlice P t2 e2] [hs : TSized P e z s by_] (hz : z.cells.size = s) (h0 : 0 < s) {S G : State} {κ : Value → State → Prop} {C : Chunk}
    {a b : Option Addr} {len cap n c : Nat} {us vs : List Value} (ho : Own s e C a len cap us) (hC : C = [] ∧ G = S ∨ Pick C S G) (hr : Rd s S b n vs) (h1 : ∀ v ∈ vs, Value.cell1 v)
    (hm : len + n ≤ maxLen) (hb : (len + n) * by_ ≤ 140737488355328)
    (k : ∀ C' a' cap', Own s e C' a' (len + n) cap' (us ++ vs) → κ (.slice a' (len + n) cap') (C' :: G)) : ValW P (Builtin.append_ #[t, t2] ty #[.slice a len cap, .slice b n c]) S κ := by
  refine ⟨fun w hw => ?_⟩
  have hCG : Hold w (C :: G) := by
    rcases hC with ⟨rfl, rfl⟩ | hp
    · exact hw.perm (by simp)
    · exact hw.perm hp.perm
  have hrd : Rd s (C :: G) a len us := ho.rd (List.mem_cons_self ..)
  have f1 := fun (w : World) hw => rd_first (P := P) (c := cap) hrd (w := w) hw
  have f2 := fun (w : World) hw => rd_first (P := P) (c := c) hr (w := w) hw
  have hlv := hr.1
  obtain ⟨i, hi, hz1, hsz, hby⟩ := sized_parts hs.info
  obtain ⟨hle, hmax, hlen, hcase⟩ := ho
  by_cases hroom : len + n ≤ cap
  · rcases hcase with ⟨rfl, rfl⟩ | ⟨b', o, cs, m, rfl, rfl, hsoft, hbig, hcs⟩
    · obtain rfl : len = 0 := by omega
      obtain rfl : n = 0 := by omega
      obtain rfl : us = [] := List.length_eq_zero_iff.1 (by simpa using hlen)
      obtain rfl : vs = [] := List.length_eq_zero_iff.1 (by simpa using hlv)
      refine ⟨.slice a 0 0, w, _, ?_, Ext.refl w, hCG, k [] a 0 ⟨Nat.le_refl _, Nat.zero_le _, by simp, .inl ⟨rfl, rfl⟩⟩⟩
      cases a <;> simp [Builtin.append_, Sem.run_bind, run_und ht.und, run_und ht2.und, run_size hs, Result.andThen, Builtin.lenOf, f2 w hw, storeCells]
    · have hg : w.heap[b']? = some (.cells cs e m) := hCG.get _ _ (by simp)
      obtain ⟨w', q1, q2, q3, q4⟩ := run_storeCells (P := P) (b := b') (o := o + len * s) vs 0 w cs hg h1 (by
        have : (len + n) * s ≤ cap * s := Nat.mul_le_mul_right s hroom
        rw [Nat.add_mul] at this
        omega) hsoft.or
      refine ⟨.slice (some ⟨b', o, none⟩) (len + n) cap, w', _, ?_, q2, (Upd.one (S := G)).hold hCG q3 q4, k _ _ cap ⟨hroom, hmax, ?_, .inr ⟨b', o, _, m, rfl, rfl, by rw [setCells_size]; exact hsoft, ?_, ?_⟩⟩⟩
      · simp [Builtin.append_, Sem.run_bind, run_und ht.und, run_und ht2.und, run_size hs, Result.andThen, Builtin.lenOf, f2 w hw, hroom, add_mk, q1]
      · rw [List.length_append, hlen, hlv, Nat.add_mul]
      · rw [setCells_size]; exact hbig
      · intro j hj
        rw [List.length_append] at hj
        have hmul : (len + n) * s ≤ cap * s := Nat.mul_le_mul_right s hroom
        rw [Nat.add_mul] at hmul
        rw [get_setCells _ _ _ _ (by omega)]
        by_cases hlt : j < us.length
        · rw [if_neg (by omega), hcs j hlt, List.getElem?_append_left hlt]
        · rw [if_pos (by omega), List.getElem?_append_right (by omega)]
          congr 1; omega
  · have hge := grownCap_ge w (len + n) cap e
    have hcm := grownCap_le_maxLen w (len + n) cap e hm
    have hn : ¬ (len + n ≤ cap) := hroom
    have h63' : ¬ (9223372036854775807 < ((len : Int) + (n : Int))) := by simp only [maxLen] at hm; omega
    have h48' : ¬ (281474976710656 < Builtin.nextslicecap (len + n) cap * i.bytes) := by
      rw [hby]
      have := growslice_fits (by omega : cap < len + n) hb
      omega
    have f1' := f1 w.drew ⟨hCG.nd, hCG.get⟩
    have f2' := f2 w.drew ⟨hw.nd, hw.get⟩
    obtain ⟨cells, hcells⟩ : ∃ cells : Array Value, cells = us.toArray ++ vs.toArray ++ Builtin.zeroCells z.cells (grownCap w (len + n) cap e - (len + n)) := ⟨_, rfl⟩
    refine ⟨.slice (some ⟨w.heap.size, 0, none⟩) (len + n) (grownCap w (len + n) cap e), w.drew.alloc (.cells cells e), [(w.heap.size, .cells cells e (0, 0))] :: G, ?_, ⟨rfl, rfl, rfl, by simp⟩, ?_, k _ _ _ ⟨hge, hcm, ?_, .inr ⟨_, 0, cells, (0, 0), rfl, rfl, .inl rfl, ?_, ?_⟩⟩⟩
    · rw [hcells]
      simp [Builtin.append_, Sem.run_bind, run_und ht.und, run_und ht2.und, run_size hs, run_zero hs, Result.andThen, typeInfo, program, Sem.run, hi, hn, h63', h48', Question.forced, Builtin.lenOf, f1', f2', newRow, newObj, grownCap, choose]
      generalize Builtin.zeroCells _ _ = X
      rw [show us.toArray ++ (vs.toArray ++ X) = (us ++ vs).toArray ++ X from by apply Array.ext'; simp]
      rfl
    · refine Hold.new (w := w) (o := .cells cells e (0, 0)) ?_ rfl
      exact hCG.sub (by simp)
    · rw [List.length_append, hlen, hlv, Nat.add_mul]
    · rw [hcells]
      simp only [Array.size_append, List.size_toArray, size_zeroCells, hz, hlen, hlv, ← Nat.add_mul]
      rw [Nat.zero_add]
      exact Nat.mul_le_mul_right s (by omega)
    · intro j hj
      rw [hcells, Nat.zero_add, Array.getElem?_append_left (by simpa using hj)]
      simp

/-! ### Slices of slices -/

def cutA (s : Nat) (a : Option Addr) (l m : Nat) : Option Addr := if m = l then a else a.map (·.add (l * s))

theorem rd_cut {s : Nat} {S : State} {a : Option Addr} {len : Nat} {us : List Value} (h : Rd s S a len us) {l h' m : Nat} (h1 : l ≤ h') (h2 : h' ≤ len) (h3 : h' ≤ m) :
    Rd s S (cutA s a l m) (h' - l) ((us.drop (l * s)).take ((h' - l) * s)) := by
  obtain ⟨hl, hne⟩ := h
  have e1 : l * s + (h' - l) * s = h' * s := by rw [← Nat.add_mul]; congr 1; omega
  have e2 : h' * s ≤ len * s := Nat.mul_le_mul_right s h2
  have hlen : ((us.drop (l * s)).take ((h' - l) * s)).length = (h' - l) * s := by rw [List.length_take, List.length_drop]; omega
  refine ⟨hlen, fun hn => ?_⟩
  have hpos : 0 < (h' - l) * s := by rw [← hlen]; exact List.length_pos_iff.2 hn
  have hlt : l < h' := by
    rcases Nat.lt_or_ge l h' with h | h
    · exact h
    · rw [show h' - l = 0 from by omega, Nat.zero_mul] at hpos; omega
  obtain ⟨b, o, cs, e, mm, rfl, hb, hc⟩ := hne (by intro h0; subst h0; simp at hl; omega)
  refine ⟨b, o + l * s, cs, e, mm, ?_, hb, fun i hi => ?_⟩
  · unfold cutA; rw [if_neg (by omega)]; simp [add_mk]
  · rw [hlen] at hi
    rw [show o + l * s + i = o + (l * s + i) from by omega, hc _ (by omega), List.getElem?_take_of_lt hi, List.getElem?_drop]
theorem own_cut {s : Nat} {e : TypeId} {C : Chunk} {a : Option Addr} {len cap : Nat} {us : List Value} (h : Own s e C a len cap us) {l h' m : Nat} (h1 : l ≤ h') (h2 : h' ≤ len) (h3 : h' ≤ m) (h4 : m ≤ cap) :
    Own s e C (cutA s a l m) (h' - l) (m - l) ((us.drop (l * s)).take ((h' - l) * s)) := by
  obtain ⟨q1, q2, hl, hcase⟩ := h
  have e1 : l * s + (h' - l) * s = h' * s := by rw [← Nat.add_mul]; congr 1; omega
  have e2 : h' * s ≤ len * s := Nat.mul_le_mul_right s h2
  have hlen : ((us.drop (l * s)).take ((h' - l) * s)).length = (h' - l) * s := by rw [List.length_take, List.length_drop]; omega
  refine ⟨by omega, by omega, hlen, ?_⟩
  rcases hcase with ⟨rfl, rfl⟩ | ⟨b, o, cs, m0, rfl, rfl, hsoft, hbig, hc⟩
  · exact .inl ⟨by omega, rfl⟩
  · right
    by_cases hm : m = l
    · refine ⟨b, o, cs, m0, by unfold cutA; rw [if_pos hm], rfl, hsoft, by rw [hm]; simp; omega, fun i hi => ?_⟩
      rw [hlen, show h' - l = 0 from by omega, Nat.zero_mul] at hi
      omega
    · refine ⟨b, o + l * s, cs, m0, by unfold cutA; rw [if_neg hm]; simp [add_mk], rfl, hsoft, ?_, fun i hi => ?_⟩
      · have : l * s + (m - l) * s = m * s := by rw [← Nat.add_mul]; congr 1; omega
        have : m * s ≤ cap * s := Nat.mul_le_mul_right s h4
        omega
      · rw [hlen] at hi
        rw [show o + l * s + i = o + (l * s + i) from by omega, hc _ (by omega), List.getElem?_take_of_lt hi, List.getElem?_drop]

theorem rd_cut1 {α : Type} {f : α → Value} {S : State} {a : Option Addr} {len : Nat} {us : List α} (h : Rd 1 S a len (us.map f)) {l h' m : Nat} (h1 : l ≤ h') (h2 : h' ≤ len) (h3 : h' ≤ m) :
    Rd 1 S (cutA 1 a l m) (h' - l) (((us.drop l).take (h' - l)).map f) := by
  have q := rd_cut h h1 h2 h3
  simpa only [Nat.mul_one, List.map_take, List.map_drop] using q
theorem own_cut1 {α : Type} {f : α → Value} {e : TypeId} {C : Chunk} {a : Option Addr} {len cap : Nat} {us : List α} (h : Own 1 e C a len cap (us.map f)) {l h' m : Nat} (h1 : l ≤ h') (h2 : h' ≤ len) (h3 : h' ≤ m) (h4 : m ≤ cap) :
    Own 1 e C (cutA 1 a l m) (h' - l) (m - l) (((us.drop l).take (h' - l)).map f) := by
  have q := own_cut h h1 h2 h3 h4
  simpa only [Nat.mul_one, List.map_take, List.map_drop] using q

theorem cut_hi {t e : TypeId} {z : Value} {s by_ : Nat} {κ : Value → Prop} [ht : TSlice P t e] [hs : TSized P e z s by_] {a : Option Addr} {len cap : Nat} {k : IntKind} {h : Int} (h0 : 0 ≤ h) (h1 : h ≤ cap) :
    PureW P (Instr.sliceAt t (.slice a len cap) none (some (.int k h)) none) κ = κ (.slice (cutA s a 0 cap) (h.toNat - 0) (cap - 0)) :=
  pureW_eq (fun w => by
    simp only [Instr.sliceAt, Instr.slice, Sem.run_bind, run_und ht.und, Result.andThen, Instr.sliceBounds, Instr.sliceBound, asIntOf, Sem.run_pure]
    simp [run_size hs, Result.andThen, Sem.run_bind, cutA, h0, h1]) κ
theorem cut_lo {t e : TypeId} {z : Value} {s by_ : Nat} {κ : Value → Prop} [ht : TSlice P t e] [hs : TSized P e z s by_] {a : Option Addr} {len cap : Nat} {j : IntKind} {l : Int} (l0 : 0 ≤ l) (l1 : l ≤ len) :
    PureW P (Instr.sliceAt t (.slice a len cap) (some (.int j l)) none none) κ = κ (.slice (cutA s a l.toNat cap) (len - l.toNat) (cap - l.toNat)) :=
  pureW_eq (fun w => by
    simp only [Instr.sliceAt, Instr.slice, Sem.run_bind, run_und ht.und, Result.andThen, Instr.sliceBounds, Instr.sliceBound, asIntOf, Sem.run_pure]
    simp [run_size hs, Result.andThen, Sem.run_bind, cutA, l0, l1]) κ
theorem cut_lohi {t e : TypeId} {z : Value} {s by_ : Nat} {κ : Value → Prop} [ht : TSlice P t e] [hs : TSized P e z s by_] {a : Option Addr} {len cap : Nat} {j k : IntKind} {l h : Int} (h0 : 0 ≤ h) (h1 : h ≤ cap) (l0 : 0 ≤ l) (l1 : l ≤ h) :
    PureW P (Instr.sliceAt t (.slice a len cap) (some (.int j l)) (some (.int k h)) none) κ = κ (.slice (cutA s a l.toNat cap) (h.toNat - l.toNat) (cap - l.toNat)) :=
  pureW_eq (fun w => by
    have l1' : l ≤ max h 0 := by omega
    simp only [Instr.sliceAt, Instr.slice, Sem.run_bind, run_und ht.und, Result.andThen, Instr.sliceBounds, Instr.sliceBound, asIntOf, Sem.run_pure]
    simp [run_size hs, Result.andThen, Sem.run_bind, cutA, h0, h1, l0, l1, l1']) κ
theorem cut_all {t e : TypeId} {z : Value} {s by_ : Nat} {κ : Value → Prop} [ht : TSlice P t e] [hs : TSized P e z s by_] {a : Option Addr} {len cap : Nat}  :
    PureW P (Instr.sliceAt t (.slice a len cap) none none none) κ = κ (.slice (cutA s a 0 cap) (len - 0) (cap - 0)) :=
  pureW_eq (fun w => by
    simp only [Instr.sliceAt, Instr.slice, Sem.run_bind, run_und ht.und, Result.andThen, Instr.sliceBounds, Instr.sliceBound, asIntOf, Sem.run_pure]
    simp [run_size hs, Result.andThen, Sem.run_bind, cutA]) κ
theorem cut_himax {t e : TypeId} {z : Value} {s by_ : Nat} {κ : Value → Prop} [ht : TSlice P t e] [hs : TSized P e z s by_] {a : Option Addr} {len cap : Nat} {k q : IntKind} {h m : Int} (m0 : 0 ≤ m) (m1 : m ≤ cap) (h0 : 0 ≤ h) (h1 : h ≤ m) :
    PureW P (Instr.sliceAt t (.slice a len cap) none (some (.int k h)) (some (.int q m))) κ = κ (.slice (cutA s a 0 m.toNat) (h.toNat - 0) (m.toNat - 0)) :=
  pureW_eq (fun w => by
    have h1' : h ≤ max m 0 := by omega
    simp only [Instr.sliceAt, Instr.slice, Sem.run_bind, run_und ht.und, Result.andThen, Instr.sliceBounds, Instr.sliceBound, asIntOf, Sem.run_pure]
    simp [run_size hs, Result.andThen, Sem.run_bind, cutA, m0, m1, h0, h1, h1']) κ
theorem cut_lohimax {t e : TypeId} {z : Value} {s by_ : Nat} {κ : Value → Prop} [ht : TSlice P t e] [hs : TSized P e z s by_] {a : Option Addr} {len cap : Nat} {j k q : IntKind} {l h m : Int} (m0 : 0 ≤ m) (m1 : m ≤ cap) (h0 : 0 ≤ h) (h1 : h ≤ m) (l0 : 0 ≤ l) (l1 : l ≤ h) :
    PureW P (Instr.sliceAt t (.slice a len cap) (some (.int j l)) (some (.int k h)) (some (.int q m))) κ = κ (.slice (cutA s a l.toNat m.toNat) (h.toNat - l.toNat) (m.toNat - l.toNat)) :=
  pureW_eq (fun w => by
    have h1' : h ≤ max m 0 := by omega
    have l1' : l ≤ max h 0 := by omega
    simp only [Instr.sliceAt, Instr.slice, Sem.run_bind, run_und ht.und, Result.andThen, Instr.sliceBounds, Instr.sliceBound, asIntOf, Sem.run_pure]
    simp [run_size hs, Result.andThen, Sem.run_bind, cutA, m0, m1, h0, h1, l0, l1, h1', l1']) κ

/-! ### New slices -/

theorem fill_all : ∀ (vs done rest : List Value), (∀ v ∈ vs, Value.cell1 v) → rest.length = vs.length →
    Instr.fill (fun i => some (i, 1)) (done ++ rest).toArray ((vs.zipIdx done.length).map fun x => (x.2, x.1)) = some (done ++ vs).toArray
  | [], done, rest, hc, hr => by
    have : rest = [] := List.length_eq_zero_iff.1 hr
    subst this; simp [Instr.fill]
  | v :: vs, done, [], hc, hr => by simp at hr
  | v :: vs, done, r :: rest, hc, hr => by
    have hcv : v.cells = #[v] := by have := hc v (List.mem_cons_self ..); cases v <;> first | exact this.elim | rfl
    have ih := fill_all vs (done ++ [v]) rest (fun u hu => hc u (List.mem_cons_of_mem _ hu)) (by simpa using hr)
    simp only [List.zipIdx_cons, List.map_cons, Instr.fill, hcv]
    rw [if_neg (by simp)]
    simp only [List.length_append, List.length_cons, List.length_nil, List.append_assoc, List.cons_append, List.nil_append, Nat.zero_add] at ih
    rw [← ih]
    have e : (#[v].zipIdx.foldl (fun cs x => match x with | (c, j) => cs.setIfInBounds (done.length + j) c) (done ++ r :: rest).toArray) = (done ++ v :: rest).toArray := by
      apply Array.ext'
      simp
    rw [← e]

/-- A slice written out: every element. -/
theorem build_slice {t e : TypeId} {z : Value} {by_ : Nat} [ht : TSlice P t e] [hs : TSized P e z 1 by_] (hz : z.cells.size = 1) {n : Nat} {ps : List (Nat × Value)} {S : State} {κ : Value → State → Prop} (hn : n ≤ 16777216)
    (hi : ps.map (·.1) = List.range n) (hc : ∀ v ∈ ps.map (·.2), Value.cell1 v)
    (k : ∀ b : Nat, κ (.slice (some ⟨b, 0, none⟩) n n) ([(b, .cells (ps.map (·.2)).toArray e (0, 0))] :: S)) : ValW P (Instr.buildSlice t n ps.toArray) S κ := by
  refine ⟨fun w hw => ?_⟩
  have hlen : ps.length = n := by have := congrArg List.length hi; simpa using this
  have hps : ps = ((ps.map (·.2)).zipIdx 0).map fun x => (x.2, x.1) := by
    apply List.ext_getElem?
    intro i
    have h1 := congrArg (fun l => l[i]?) hi
    simp only [List.getElem?_map, List.getElem?_range] at h1
    simp only [List.getElem?_map, List.getElem?_zipIdx]
    cases hp : ps[i]? with
    | none => simp
    | some p =>
      rw [hp] at h1
      have hlt := (List.getElem?_eq_some_iff.1 hp).1
      rw [List.getElem?_range (by omega)] at h1
      simp at h1
      obtain ⟨p1, p2⟩ := p
      simp at h1 ⊢
      exact h1
  have hf := fill_all (ps.map (·.2)) [] (List.replicate n z.cells[0]!) hc (by simp [hlen])
  simp only [List.nil_append, List.length_nil] at hf
  rw [← hps] at hf
  refine ⟨_, { w with heap := w.heap.push (.cells (ps.map (·.2)).toArray e) }, _, ?_, ext_push rfl, hw.new rfl, k _⟩
  have hmod : (Array.range n).map (fun x => z.cells[x % z.cells.size]!) = (List.replicate n z.cells[0]!).toArray := by
    apply Array.ext'
    simp [hz, Nat.mod_one]
    rw [List.map_const', List.length_range]
  by_cases h0 : n = 0
  · subst h0
    have : ps = [] := List.length_eq_zero_iff.1 hlen
    subst this
    simp [Instr.buildSlice, Sem.run_bind, run_und ht.und, run_size hs, Result.andThen, Instr.fill, newRow, newObj, Sem.run, show Array.range 0 = #[] from rfl]
  · simp [Instr.buildSlice, Sem.run_bind, run_und ht.und, run_size hs, run_zero hs, Result.andThen, newRow, newObj, Sem.run, h0, show ¬ 16777216 < n from by omega]
    rw [hmod, hf]
    rfl

/-! ### Elements -/

def elA (a : Option Addr) (i : Nat) : Addr := (a.getD ⟨0, 0, none⟩).add i
theorem index_rd {t e : TypeId} {z : Value} {by_ : Nat} {S : State} {a : Option Addr} {len cap : Nat} {us : List Value} {k : IntKind} {i : Int} {κ : Value → Prop} [h : TSlice P t e] [hs : TSized P e z 1 by_]
    (hr : Rd 1 S a len us) (h0 : 0 ≤ i) (h1 : i < len) : PureW P (Instr.indexAt t (.slice a len cap) (.int k i)) κ = κ (.pointer (some (elA a i.toNat))) := by
  obtain ⟨hl, hne⟩ := hr
  obtain ⟨b, o, cs, et, m, rfl, _, _⟩ := hne (by intro e; subst e; simp at hl; omega)
  rw [index_addr h0 h1]
  simp [elA, add_mk]
theorem rd_load {t : TypeId} {S : State} {a : Option Addr} {len : Nat} {us : List Value} {i : Nat} {v : Value} {κ : Value → Prop} [hf : TFlat P t]
    (hr : Rd 1 S a len us) (hv : us[i]? = some v) (k : κ v) : ReadW P (Instr.loadAt t (.pointer (some (elA a i)))) S κ := by
  have hi := (List.getElem?_eq_some_iff.1 hv).1
  obtain ⟨hl, hne⟩ := hr
  obtain ⟨b, o, cs, et, m, rfl, hb, hc⟩ := hne (by intro e; subst e; simp at hi)
  simp only [elA, Option.getD_some, add_mk]
  exact load_one hb (by rw [hc i hi]; exact hv) k

end Go.Ost
