/- A logic of chunks of memory over the walk's calculus: what a piece of code does to the blocks that it is handed, whatever else there is. Conditions: none. -/
import Derived.RangeFuncRecord
import Derived.RangeFuncCalls
import Derived.TacticsIn
import Derived.WalkKit
set_option linter.unusedSimpArgs false
set_option linter.unusedVariables false
namespace Go.Ost
open Go

/-! ### States -/

abbrev Chunk := List (Nat × Obj)
abbrev State := List Chunk
abbrev Env := List (Nat × Value)

/-- The blocks of a state lie in the world, no two of one number. -/
structure Hold (w : World) (S : State) : Prop where
  nd : (S.flatten.map (·.1)).Nodup
  get : ∀ b o, (b, o) ∈ S.flatten → w.heap[b]? = some o

structure Ext (w w' : World) : Prop where
  os : w'.os = w.os
  tape : w'.tape = w.tape
  output : w'.output = w.output
  size : w.heap.size ≤ w'.heap.size

theorem Ext.refl (w : World) : Ext w w := ⟨rfl, rfl, rfl, Nat.le_refl _⟩
theorem Ext.trans {a b c : World} (h : Ext a b) (k : Ext b c) : Ext a c :=
  ⟨k.os.trans h.os, k.tape.trans h.tape, k.output.trans h.output, Nat.le_trans h.size k.size⟩

theorem Hold.perm {w : World} {S T : State} (h : Hold w S) (p : S.flatten.Perm T.flatten) : Hold w T :=
  ⟨(p.map _).nodup_iff.1 h.nd, fun b o hm => h.get b o (p.mem_iff.2 hm)⟩
theorem Hold.sub {w : World} {S T : State} (h : Hold w S) (p : T.flatten.Sublist S.flatten) : Hold w T :=
  ⟨(p.map _).nodup h.nd, fun b o hm => h.get b o (p.subset hm)⟩
theorem Hold.lt {w : World} {S : State} (h : Hold w S) {b : Nat} {o : Obj} (hm : (b, o) ∈ S.flatten) : b < w.heap.size :=
  (Array.getElem?_eq_some_iff.1 (h.get b o hm)).1

/-- A chunk is taken out of a state. -/
inductive Pick : Chunk → State → State → Prop
  | head (c : Chunk) (S : State) : Pick c (c :: S) S
  | tail {c : Chunk} {S T : State} (d : Chunk) (h : Pick c S T) : Pick c (d :: S) (d :: T)

theorem Pick.perm {c : Chunk} {S T : State} (h : Pick c S T) : S.flatten.Perm (c :: T).flatten := by
  induction h with
  | head => exact List.Perm.refl _
  | tail d h ih =>
    simp only [List.flatten_cons] at *
    refine (List.Perm.append_left d ih).trans ?_
    rw [← List.append_assoc, ← List.append_assoc]
    exact List.Perm.append_right _ List.perm_append_comm

/-- Some chunks are taken out of a state; what is left. -/
inductive Take : State → State → State → Prop
  | nil (S : State) : Take [] S S
  | cons {c : Chunk} {A S T F : State} (h : Pick c S T) (k : Take A T F) : Take (c :: A) S F

theorem Take.perm {A S F : State} (h : Take A S F) : S.flatten.Perm (A ++ F).flatten := by
  induction h with
  | nil => exact List.Perm.refl _
  | cons h k ih =>
    refine h.perm.trans ?_
    simp only [List.flatten_cons, List.cons_append]
    exact List.Perm.append_left _ ih

/-- The chunks T are among those of S. -/
inductive Among : State → State → Prop
  | nil (S : State) : Among [] S
  | cons {c : Chunk} {T S S' : State} (h : Pick c S S') (k : Among T S') : Among (c :: T) S

theorem Among.refl : ∀ S : State, Among S S
  | [] => .nil _
  | c :: S => .cons (.head c S) (Among.refl S)

theorem Among.hold {T S : State} (h : Among T S) {w : World} (hw : Hold w S) : Hold w T := by
  suffices hs : ∃ R : State, S.flatten.Perm (T ++ R).flatten by
    obtain ⟨R, hR⟩ := hs
    refine (hw.perm hR).sub ?_
    rw [List.flatten_append]
    exact List.sublist_append_left _ _
  induction h with
  | nil S => exact ⟨S, List.Perm.refl _⟩
  | cons h k ih =>
    obtain ⟨R, hR⟩ := ih (hw.perm h.perm |>.sub (by simp))
    refine ⟨R, h.perm.trans ?_⟩
    simp only [List.flatten_cons, List.cons_append]
    exact List.Perm.append_left _ hR

/-- A block lies in a state. -/
inductive Lies (b : Nat) (o : Obj) : State → Prop
  | here {C : Chunk} {S : State} (h : (b, o) ∈ C) : Lies b o (C :: S)
  | next {C : Chunk} {S : State} (h : Lies b o S) : Lies b o (C :: S)

theorem Lies.mem {b : Nat} {o : Obj} {S : State} (h : Lies b o S) : (b, o) ∈ S.flatten := by
  induction h with
  | here h => exact List.mem_append_left _ h
  | next _ ih => exact List.mem_append_right _ ih
theorem Lies.one {b : Nat} {o : Obj} {S : State} : Lies b o ([(b, o)] :: S) := .here (.head _)
theorem Lies.get {b : Nat} {o : Obj} {S : State} (h : Lies b o S) {w : World} (hw : Hold w S) : w.heap[b]? = some o := hw.get b o h.mem

/-- Block b of a state becomes o'. -/
inductive Upd (b : Nat) (o o' : Obj) : State → State → Prop
  | one {S : State} : Upd b o o' ([(b, o)] :: S) ([(b, o')] :: S)
  | many {C D : Chunk} {S : State} : Upd b o o' ((C ++ (b, o) :: D) :: S) ((C ++ (b, o') :: D) :: S)
  | next {C : Chunk} {S T : State} (h : Upd b o o' S T) : Upd b o o' (C :: S) (C :: T)

theorem Upd.split {b : Nat} {o o' : Obj} {S T : State} (h : Upd b o o' S T) : ∃ A B : Chunk, S.flatten = A ++ (b, o) :: B ∧ T.flatten = A ++ (b, o') :: B := by
  induction h with
  | @one S => exact ⟨[], S.flatten, by simp, by simp⟩
  | @many C D S => exact ⟨C, D ++ S.flatten, by simp, by simp⟩
  | @next C _ _ _ ih => obtain ⟨A, B, h1, h2⟩ := ih; exact ⟨C ++ A, B, by simp [h1], by simp [h2]⟩
theorem Upd.get {b : Nat} {o o' : Obj} {S T : State} (h : Upd b o o' S T) {w : World} (hw : Hold w S) : w.heap[b]? = some o := by
  obtain ⟨A, B, h1, _⟩ := h.split
  exact hw.get b o (by rw [h1]; simp)
theorem Upd.hold {b : Nat} {o o' : Obj} {S T : State} (h : Upd b o o' S T) {w w' : World} (hw : Hold w S)
    (h1 : w'.heap[b]? = some o') (h2 : ∀ k, k ≠ b → w'.heap[k]? = w.heap[k]?) : Hold w' T := by
  obtain ⟨A, B, e1, e2⟩ := h.split
  have nd := hw.nd
  rw [e1] at nd
  refine ⟨by rw [e2]; simpa using nd, fun c p hm => ?_⟩
  rw [e2] at hm
  have hne : ∀ q, (c, q) ∈ A ++ B → c ≠ b := by
    intro q hq hc
    subst hc
    simp only [List.map_append, List.map_cons] at nd
    have hn := (List.perm_middle.nodup_iff.1 nd)
    rw [List.nodup_cons] at hn
    refine hn.1 ?_
    rw [← List.map_append]
    exact List.mem_map.2 ⟨_, hq, rfl⟩
  rcases List.mem_append.1 hm with hA | hB
  · rw [h2 c (hne p (List.mem_append_left _ hA))]
    exact hw.get c p (by rw [e1]; exact List.mem_append_left _ hA)
  · rcases List.mem_cons.1 hB with he | hB
    · cases he; exact h1
    · rw [h2 c (hne p (List.mem_append_right _ hB))]
      exact hw.get c p (by rw [e1]; exact List.mem_append_right _ (List.mem_cons_of_mem _ hB))

/-- A new block. -/
theorem Hold.new {w w' : World} {S : State} (h : Hold w S) {o : Obj} (h1 : w'.heap = w.heap.push o) : Hold w' ([(w.heap.size, o)] :: S) := by
  refine ⟨?_, fun b p hm => ?_⟩
  · simp only [List.flatten_cons, List.map_append, List.map_cons, List.map_nil, List.cons_append, List.nil_append, List.nodup_cons]
    refine ⟨fun hm => ?_, h.nd⟩
    obtain ⟨⟨b, p⟩, hp, hb⟩ := List.mem_map.1 hm
    have := h.lt hp
    simp only at hb
    omega
  · rw [h1, Array.getElem?_push]
    rcases List.mem_cons.1 hm with he | hm
    · cases he; simp
    · have := h.lt hm
      rw [if_neg (by omega)]
      exact h.get b p hm

/-! ### What the temporaries hold -/

def lookT : Env → Nat → Option Value
  | [], _ => none
  | (d, v) :: l, t => if t = d then some v else lookT l t

theorem lookT_hit {d : Nat} {v : Value} {l : Env} : lookT ((d, v) :: l) d = some v := by simp [lookT]
theorem lookT_miss {d t : Nat} {v : Value} {l : Env} (h : (t == d) = false) : lookT ((d, v) :: l) t = lookT l t := by
  simp only [lookT]; rw [if_neg (by simpa using h)]

def markD (r : Nat) : Deferred := { target := .collected r, args := #[] }

structure Agree (n : Nat) (L : Env) (D : List Nat) (a : Act) : Prop where
  size : a.tmps.size = n
  get : ∀ t v, lookT L t = some v → a.tmps[t]? = some v
  marks : a.defers = D.map markD

def putT (n : Nat) (dst : Option Tmp) (v : Value) (L : Env) : Env :=
  match dst with
  | some d => if d < n then (d, v) :: L else L
  | none => L

theorem Agree.put {n : Nat} {L : Env} {D : List Nat} {a : Act} (h : Agree n L D a) (dst : Option Tmp) (v : Value) : Agree n (putT n dst v L) D (a.put dst v) := by
  cases dst with
  | none => exact h
  | some d =>
    simp only [Ost.putT, Act.put]
    split
    · rename_i hd
      refine ⟨by simp [h.size], fun t u ht => ?_, h.marks⟩
      simp only [lookT] at ht
      split at ht
      · cases ht; subst_vars; simp [h.size, hd]
      · rename_i hne
        rw [Array.getElem?_setIfInBounds_ne (Ne.symm hne)]
        exact h.get t u ht
    · rename_i hd
      refine ⟨by simp [h.size], fun t u ht => ?_, h.marks⟩
      rw [Array.getElem?_setIfInBounds_ne]
      · exact h.get t u ht
      · intro e; subst e
        have := (Array.getElem?_eq_some_iff.1 (h.get _ _ ht)).1
        rw [h.size] at this
        exact hd this

def evT (L : Env) : Operand → Option Value
  | .tmp t => lookT L t
  | .const v => some v
  | .global g => some (.pointer (some ⟨g, 0, none⟩))
  | .func f => some (.func (.func f) #[] #[])

theorem Agree.ev {n : Nat} {L : Env} {D : List Nat} {a : Act} (h : Agree n L D a) {x : Operand} {v : Value} (hx : evT L x = some v) : a.eval x = v := by
  cases x with
  | tmp t =>
    simp only [Ost.evT] at hx
    simp [Act.eval, h.get t v hx]
  | const u => cases hx; rfl
  | global g => cases hx; rfl
  | func f => cases hx; rfl

/-- Knows is known of the temporaries. -/
def Knows : Env → Env → Prop
  | [], _ => True
  | (d, v) :: l, L => lookT L d = some v ∧ Knows l L
theorem Knows.look {l L : Env} (h : Knows l L) : ∀ t v, lookT l t = some v → lookT L t = some v := by
  induction l with
  | nil => intro t v ht; simp [Ost.lookT] at ht
  | cons x l ih =>
    obtain ⟨d, u⟩ := x
    intro t v ht
    simp only [Ost.lookT] at ht
    split at ht
    · cases ht; subst_vars; exact h.1
    · exact ih h.2 t v ht
theorem Agree.less {n : Nat} {L l : Env} {D : List Nat} {a : Act} (h : Agree n L D a) (hl : Knows l L) : Agree n l D a :=
  ⟨h.size, fun t v ht => h.get t v (hl.look t v ht), h.marks⟩

end Go.Ost
