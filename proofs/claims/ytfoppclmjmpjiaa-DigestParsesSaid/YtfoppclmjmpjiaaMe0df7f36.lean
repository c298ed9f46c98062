/- Texts in a row: the walk's rules and contracts, as each says. Conditions: as each says. -/
import Derived.RangeFuncRecord
import Derived.RangeFuncCalls
import Derived.TacticsIn
import Derived.WalkKit
import Derived.RangeFuncNested
import Derived.Laws.AppendOwn
/- A logic of chunks of memory over the walk's calculus: what a piece of code does to the blocks that it is handed, whatever else there is. Conditions: none. -/
set_option linter.unusedSimpArgs false
set_option linter.unusedVariables false
namespace Go.Ost
open Go

/-! ### States -/

abbrev Chunk := List (Nat × Obj)
abbrev State := List Chunk
abbrev Env := List (Nat × Value)

/-- The blocks of a state lie in the world, no two of one number. -/
structure Hold (w : World) (S : State) : Prop where
  nd : (S.flatten.map (·.1)).Nodup
  get : ∀ b o, (b, o) ∈ S.flatten → w.heap[b]? = some o

structure Ext (w w' : World) : Prop where
  os : w'.os = w.os
  tape : w'.tape = w.tape
  output : w'.output = w.output
  size : w.heap.size ≤ w'.heap.size

theorem Ext.refl (w : World) : Ext w w := ⟨rfl, rfl, rfl, Nat.le_refl _⟩
theorem Ext.trans {a b c : World} (h : Ext a b) (k : Ext b c) : Ext a c :=
  ⟨k.os.trans h.os, k.tape.trans h.tape, k.output.trans h.output, Nat.le_trans h.size k.size⟩

theorem Hold.perm {w : World} {S T : State} (h : Hold w S) (p : S.flatten.Perm T.flatten) : Hold w T :=
  ⟨(p.map _).nodup_iff.1 h.nd, fun b o hm => h.get b o (p.mem_iff.2 hm)⟩
theorem Hold.sub {w : World} {S T : State} (h : Hold w S) (p : T.flatten.Sublist S.flatten) : Hold w T :=
  ⟨(p.map _).nodup h.nd, fun b o hm => h.get b o (p.subset hm)⟩
theorem Hold.lt {w : World} {S : State} (h : Hold w S) {b : Nat} {o : Obj} (hm : (b, o) ∈ S.flatten) : b < w.heap.size :=
  (Array.getElem?_eq_some_iff.1 (h.get b o hm)).1

/-- A chunk is taken out of a state. -/
inductive Pick : Chunk → State → State → Prop
  | head (c : Chunk) (S : State) : Pick c (c :: S) S
  | tail {c : Chunk} {S T : State} (d : Chunk) (h : Pick c S T) : Pick c (d :: S) (d :: T)

theorem Pick.perm {c : Chunk} {S T : State} (h : Pick c S T) : S.flatten.Perm (c :: T).flatten := by
  induction h with
  | head => exact List.Perm.refl _
  | tail d h ih =>
    simp only [List.flatten_cons] at *
    refine (List.Perm.append_left d ih).trans ?_
    rw [← List.append_assoc, ← List.append_assoc]
    exact List.Perm.append_right _ List.perm_append_comm

/-- Some chunks are taken out of a state; what is left. -/
inductive Take : State → State → State → Prop
  | nil (S : State) : Take [] S S
  | cons {c : Chunk} {A S T F : State} (h : Pick c S T) (k : Take A T F) : Take (c :: A) S F

theorem Take.perm {A S F : State} (h : Take A S F) : S.flatten.Perm (A ++ F).flatten := by
  induction h with
  | nil => exact List.Perm.refl _
  | cons h k ih =>
    refine h.perm.trans ?_
    simp only [List.flatten_cons, List.cons_append]
    exact List.Perm.append_left _ ih

/-- The chunks T are among those of S. -/
inductive Among : State → State → Prop
  | nil (S : State) : Among [] S
  | cons {c : Chunk} {T S S' : State} (h : Pick c S S') (k : Among T S') : Among (c :: T) S

theorem Among.refl : ∀ S : State, Among S S
  | [] => .nil _
  | c :: S => .cons (.head c S) (Among.refl S)

theorem Among.hold {T S : State} (h : Among T S) {w : World} (hw : Hold w S) : Hold w T := by
  suffices hs : ∃ R : State, S.flatten.Perm (T ++ R).flatten by
    obtain ⟨R, hR⟩ := hs
    refine (hw.perm hR).sub ?_
    rw [List.flatten_append]
    exact List.sublist_append_left _ _
  induction h with
  | nil S => exact ⟨S, List.Perm.refl _⟩
  | cons h k ih =>
    obtain ⟨R, hR⟩ := ih (hw.perm h.perm |>.sub (by simp))
    refine ⟨R, h.perm.trans ?_⟩
    simp only [List.flatten_cons, List.cons_append]
    exact List.Perm.append_left _ hR

/-- A block lies in a state. -/
inductive Lies (b : Nat) (o : Obj) : State → Prop
  | here {C : Chunk} {S : State} (h : (b, o) ∈ C) : Lies b o (C :: S)
  | next {C : Chunk} {S : State} (h : Lies b o S) : Lies b o (C :: S)

theorem Lies.mem {b : Nat} {o : Obj} {S : State} (h : Lies b o S) : (b, o) ∈ S.flatten := by
  induction h with
  | here h => exact List.mem_append_left _ h
  | next _ ih => exact List.mem_append_right _ ih
theorem Lies.one {b : Nat} {o : Obj} {S : State} : Lies b o ([(b, o)] :: S) := .here (.head _)
theorem Lies.get {b : Nat} {o : Obj} {S : State} (h : Lies b o S) {w : World} (hw : Hold w S) : w.heap[b]? = some o := hw.get b o h.mem

/-- Block b of a state becomes o'. -/
inductive Upd (b : Nat) (o o' : Obj) : State → State → Prop
  | one {S : State} : Upd b o o' ([(b, o)] :: S) ([(b, o')] :: S)
  | many {C D : Chunk} {S : State} : Upd b o o' ((C ++ (b, o) :: D) :: S) ((C ++ (b, o') :: D) :: S)
  | next {C : Chunk} {S T : State} (h : Upd b o o' S T) : Upd b o o' (C :: S) (C :: T)

theorem Upd.split {b : Nat} {o o' : Obj} {S T : State} (h : Upd b o o' S T) : ∃ A B : Chunk, S.flatten = A ++ (b, o) :: B ∧ T.flatten = A ++ (b, o') :: B := by
  induction h with
  | @one S => exact ⟨[], S.flatten, by simp, by simp⟩
  | @many C D S => exact ⟨C, D ++ S.flatten, by simp, by simp⟩
  | @next C _ _ _ ih => obtain ⟨A, B, h1, h2⟩ := ih; exact ⟨C ++ A, B, by simp [h1], by simp [h2]⟩
theorem Upd.get {b : Nat} {o o' : Obj} {S T : State} (h : Upd b o o' S T) {w : World} (hw : Hold w S) : w.heap[b]? = some o := by
  obtain ⟨A, B, h1, _⟩ := h.split
  exact hw.get b o (by rw [h1]; simp)
theorem Upd.hold {b : Nat} {o o' : Obj} {S T : State} (h : Upd b o o' S T) {w w' : World} (hw : Hold w S)
    (h1 : w'.heap[b]? = some o') (h2 : ∀ k, k ≠ b → w'.heap[k]? = w.heap[k]?) : Hold w' T := by
  obtain ⟨A, B, e1, e2⟩ := h.split
  have nd := hw.nd
  rw [e1] at nd
  refine ⟨by rw [e2]; simpa using nd, fun c p hm => ?_⟩
  rw [e2] at hm
  have hne : ∀ q, (c, q) ∈ A ++ B → c ≠ b := by
    intro q hq hc
    subst hc
    simp only [List.map_append, List.map_cons] at nd
    have hn := (List.perm_middle.nodup_iff.1 nd)
    rw [List.nodup_cons] at hn
    refine hn.1 ?_
    rw [← List.map_append]
    exact List.mem_map.2 ⟨_, hq, rfl⟩
  rcases List.mem_append.1 hm with hA | hB
  · rw [h2 c (hne p (List.mem_append_left _ hA))]
    exact hw.get c p (by rw [e1]; exact List.mem_append_left _ hA)
  · rcases List.mem_cons.1 hB with he | hB
    · cases he; exact h1
    · rw [h2 c (hne p (List.mem_append_right _ hB))]
      exact hw.get c p (by rw [e1]; exact List.mem_append_right _ (List.mem_cons_of_mem _ hB))

/-- A new block. -/
theorem Hold.new {w w' : World} {S : State} (h : Hold w S) {o : Obj} (h1 : w'.heap = w.heap.push o) : Hold w' ([(w.heap.size, o)] :: S) := by
  refine ⟨?_, fun b p hm => ?_⟩
  · simp only [List.flatten_cons, List.map_append, List.map_cons, List.map_nil, List.cons_append, List.nil_append, List.nodup_cons]
    refine ⟨fun hm => ?_, h.nd⟩
    obtain ⟨⟨b, p⟩, hp, hb⟩ := List.mem_map.1 hm
    have := h.lt hp
    simp only at hb
    omega
  · rw [h1, Array.getElem?_push]
    rcases List.mem_cons.1 hm with he | hm
    · cases he; simp
    · have := h.lt hm
      rw [if_neg (by omega)]
      exact h.get b p hm

/-! ### What the temporaries hold -/

def lookT : Env → Nat → Option Value
  | [], _ => none
  | (d, v) :: l, t => if t = d then some v else lookT l t

theorem lookT_hit {d : Nat} {v : Value} {l : Env} : lookT ((d, v) :: l) d = some v := by simp [lookT]
theorem lookT_miss {d t : Nat} {v : Value} {l : Env} (h : (t == d) = false) : lookT ((d, v) :: l) t = lookT l t := by
  simp only [lookT]; rw [if_neg (by simpa using h)]

def markD (r : Nat) : Deferred := { target := .collected r, args := #[] }

structure Agree (n : Nat) (L : Env) (D : List Nat) (a : Act) : Prop where
  size : a.tmps.size = n
  get : ∀ t v, lookT L t = some v → a.tmps[t]? = some v
  marks : a.defers = D.map markD

def putT (n : Nat) (dst : Option Tmp) (v : Value) (L : Env) : Env :=
  match dst with
  | some d => if d < n then (d, v) :: L else L
  | none => L

theorem Agree.put {n : Nat} {L : Env} {D : List Nat} {a : Act} (h : Agree n L D a) (dst : Option Tmp) (v : Value) : Agree n (putT n dst v L) D (a.put dst v) := by
  cases dst with
  | none => exact h
  | some d =>
    simp only [Ost.putT, Act.put]
    split
    · rename_i hd
      refine ⟨by simp [h.size], fun t u ht => ?_, h.marks⟩
      simp only [lookT] at ht
      split at ht
      · cases ht; subst_vars; simp [h.size, hd]
      · rename_i hne
        rw [Array.getElem?_setIfInBounds_ne (Ne.symm hne)]
        exact h.get t u ht
    · rename_i hd
      refine ⟨by simp [h.size], fun t u ht => ?_, h.marks⟩
      rw [Array.getElem?_setIfInBounds_ne]
      · exact h.get t u ht
      · intro e; subst e
        have := (Array.getElem?_eq_some_iff.1 (h.get _ _ ht)).1
        rw [h.size] at this
        exact hd this

def evT (L : Env) : Operand → Option Value
  | .tmp t => lookT L t
  | .const v => some v
  | .global g => some (.pointer (some ⟨g, 0, none⟩))
  | .func f => some (.func (.func f) #[] #[])

theorem Agree.ev {n : Nat} {L : Env} {D : List Nat} {a : Act} (h : Agree n L D a) {x : Operand} {v : Value} (hx : evT L x = some v) : a.eval x = v := by
  cases x with
  | tmp t =>
    simp only [Ost.evT] at hx
    simp [Act.eval, h.get t v hx]
  | const u => cases hx; rfl
  | global g => cases hx; rfl
  | func f => cases hx; rfl

/-- Knows is known of the temporaries. -/
def Knows : Env → Env → Prop
  | [], _ => True
  | (d, v) :: l, L => lookT L d = some v ∧ Knows l L
theorem Knows.look {l L : Env} (h : Knows l L) : ∀ t v, lookT l t = some v → lookT L t = some v := by
  induction l with
  | nil => intro t v ht; simp [Ost.lookT] at ht
  | cons x l ih =>
    obtain ⟨d, u⟩ := x
    intro t v ht
    simp only [Ost.lookT] at ht
    split at ht
    · cases ht; subst_vars; exact h.1
    · exact ih h.2 t v ht
theorem Agree.less {n : Nat} {L l : Env} {D : List Nat} {a : Act} (h : Agree n L D a) (hl : Knows l L) : Agree n l D a :=
  ⟨h.size, fun t v ht => h.get t v (hl.look t v ht), h.marks⟩

end Go.Ost

/- The steps of a piece of code over chunks of memory: what each operation, region, loop and function asks and gives. Conditions: none. -/
set_option linter.unusedSimpArgs false
set_option linter.unusedVariables false
namespace Go.Ost
open Go

variable {P : Program}

abbrev FW (ro : Option Nat) : Fence := { Fence.wide with round := ro }
theorem fw_fn (ro : Option Nat) (f : FuncId) : (FW ro).fn f := trivial
theorem fw_depth (ro : Option Nat) : (FW ro).depth = none := rfl
theorem fw_room (ro : Option Nat) (k : Nat) : (FW ro).room k := fun _ h => by cases h

/-! ### What an operation asks -/

/- (Structures, not definitions: nothing unfolds them by itself.) -/
structure PureW (P : Program) (m : Sem Value) (κ : Value → Prop) : Prop where
  out : ∃ v, (∀ w, m.run P w = .ok v w) ∧ κ v
structure ReadW (P : Program) (m : Sem Value) (S : State) (κ : Value → Prop) : Prop where
  out : ∃ v, (∀ w, Hold w S → m.run P w = .ok v w) ∧ κ v
structure ValW (P : Program) (m : Sem Value) (S : State) (κ : Value → State → Prop) : Prop where
  out : ∀ w, Hold w S → ∃ v w' S', m.run P w = .ok v w' ∧ Ext w w' ∧ Hold w' S' ∧ κ v S'
structure UnitW (P : Program) (m : Sem Unit) (S : State) (κ : State → Prop) : Prop where
  out : ∀ w, Hold w S → ∃ w' S', m.run P w = .ok () w' ∧ Ext w w' ∧ Hold w' S' ∧ κ S'
/-- How a call that was made ends. -/
def EndsW (w : World) (κ : Value → State → Prop) : Ending → World → Prop := fun e w' => ∃ v S', e = .returned v ∧ Ext w w' ∧ Hold w' S' ∧ κ v S'
def GoesW (P : Program) (w : World) (κ : Value → State → Prop) : Next → World → Prop
  | .value v, w' => ∃ S', Ext w w' ∧ Hold w' S' ∧ κ v S'
  | .skip, w' => ∃ S', Ext w w' ∧ Hold w' S' ∧ κ undef S'
  | .enter f args, w' => CallsIn (FW none) 0 P f args w' (EndsW w κ)
  | .round l f tmps assign body, w' => RoundIn (FW none) 0 P l f tmps assign body w' (EndsW w κ)
  | _, _ => False
def NextW (P : Program) (m : Sem Next) (S : State) (κ : Value → State → Prop) : Prop :=
  ∀ w, Hold w S → ∃ r w', m.run P w = .ok r w' ∧ GoesW P w κ r w'

theorem PureW.read {m : Sem Value} {κ : Value → Prop} (h : PureW P m κ) (S : State) : ReadW P m S κ := let ⟨v, a, b⟩ := h.out; ⟨v, fun w _ => a w, b⟩
theorem ReadW.val {m : Sem Value} {S : State} {κ : Value → State → Prop} (h : ReadW P m S fun v => κ v S) : ValW P m S κ :=
  let ⟨v, a, b⟩ := h.out; ⟨fun w hw => ⟨v, w, S, a w hw, Ext.refl w, hw, b⟩⟩
theorem ValW.next {m : Sem Value} {S : State} {κ : Value → State → Prop} (h : ValW P m S κ) : NextW P (do pure (.value (← m))) S κ := fun w hw => by
  obtain ⟨v, w', S', hr, he, hh, hk⟩ := h.out w hw
  refine ⟨.value v, w', ?_, S', he, hh, hk⟩
  simp [Sem.run_bind, hr, Result.andThen]
theorem UnitW.next {m : Sem Unit} {S : State} {κ : Value → State → Prop} (h : UnitW P m S (κ undef)) : NextW P (do m; pure .skip) S κ := fun w hw => by
  obtain ⟨w', S', hr, he, hh, hk⟩ := h.out w hw
  refine ⟨.skip, w', ?_, S', he, hh, hk⟩
  simp [Sem.run_bind, hr, Result.andThen]

/-- A function is called, by its number. -/
structure CallsW (P : Program) (f : FuncId) (args : Array Value) (S : State) (κ : Value → State → Prop) : Prop where
  out : NextW P (callFunc f args) S κ
/-- A loop's body is called, by the loop's record. -/
structure YieldW (P : Program) (l : Nat) (args : Array Value) (S : State) (κ : Value → State → Prop) : Prop where
  out : ∀ w, Hold w S → YieldAt (FW none) 0 P l args w (EndsW w κ)

theorem CallsW.next {f : FuncId} {args : Array Value} {S : State} {κ : Value → State → Prop} (h : CallsW P f args S κ) : NextW P (callFunc f args) S κ := h.out
theorem CallsW.mk' {f : FuncId} {args : Array Value} {S : State} {κ : Value → State → Prop}
    (h1 : (match P.funcs[f]? with | some fn => fn.name != "runtime.NumGoroutine" && fn.body.isSome | none => false) = true)
    (h2 : ∀ w, Hold w S → CallsIn (FW none) 0 P f args w (EndsW w κ)) : CallsW P f args S κ := ⟨fun w hw => by
  split at h1
  · rename_i fn hf
    simp only [Bool.and_eq_true, bne_iff_ne, ne_eq] at h1
    refine ⟨.enter f args, w, ?_, h2 w hw⟩
    obtain ⟨hn, hb⟩ := h1
    obtain ⟨c, hc⟩ := Option.isSome_iff_exists.1 hb
    simp [callFunc, program, Sem.run_bind, Sem.run, hf, hn, hc, Result.andThen]
  · cases h1⟩
theorem NextW.mono {m : Sem Next} {S : State} {κ κ' : Value → State → Prop} (h : NextW P m S κ) (hk : ∀ v S, κ v S → κ' v S) : NextW P m S κ' := fun w hw => by
  obtain ⟨r, w', h1, h2⟩ := h w hw
  refine ⟨r, w', h1, ?_⟩
  have em : ∀ (e : Ending) (w'' : World), EndsW w κ e w'' → EndsW w κ' e w'' := fun e w'' ⟨v, S', a, b, c, d⟩ => ⟨v, S', a, b, c, hk _ _ d⟩
  cases r <;> simp only [GoesW] at h2 ⊢ <;> first | exact CallsIn.mono h2 em | exact RoundIn.mono h2 em | (let ⟨S', a, b, c⟩ := h2; exact ⟨S', a, b, hk _ _ c⟩) | exact h2.elim
theorem YieldW.next {l : Nat} {args : Array Value} {S : State} {κ : Value → State → Prop} (h : YieldW P l args S κ) : NextW P (Instr.yield l args) S κ := fun w hw => by
  obtain ⟨fn, tmps, assign, body, hr, hR⟩ := h.out w hw
  exact ⟨_, w, hr, hR⟩

/-- A function's value is called. -/
def FnW (P : Program) (f : Value) (args : List Value) (S : State) (κ : Value → State → Prop) : Prop :=
  match f with
  | .func (.func g) first captured => CallsW P g (first.toList ++ args ++ captured.toList).toArray S κ
  | .func (.yield l) first _ => YieldW P l (first.toList ++ args).toArray S κ
  | _ => False

theorem FnW.next {f : Value} {args : List Value} {S : State} {κ : Value → State → Prop} (h : FnW P f args S κ) :
    NextW P (do let d ← Deferred.ofValue f args.toArray; invoke d.target d.args) S κ := by
  unfold FnW at h
  split at h
  · rename_i g first captured
    have e : (do let d ← Deferred.ofValue (.func (.func g) first captured) args.toArray; invoke d.target d.args : Sem Next) = callFunc g (first.toList ++ args ++ captured.toList).toArray := by
      simp only [Deferred.ofValue, invoke, bind, pure, Sem.bind]
      congr 1
      apply Array.ext'
      simp
    rw [e]; exact h.next
  · rename_i l first captured
    have e : (do let d ← Deferred.ofValue (.func (.yield l) first captured) args.toArray; invoke d.target d.args : Sem Next) = Instr.yield l (first.toList ++ args).toArray := by
      simp only [Deferred.ofValue, invoke, bind, pure, Sem.bind]
      congr 1
      apply Array.ext'
      simp
    rw [e]; exact h.next
  · exact h.elim

/-- A builtin is called. -/
def BuiltinW (P : Program) (b : Builtin) (ats : Array TypeId) (t : TypeId) (args : List Value) (S : State) (κ : Value → State → Prop) : Prop :=
  match b, args with
  | .min, _ => PureW P (Builtin.min_ ats t args.toArray) fun v => κ v S
  | .max, _ => PureW P (Builtin.max_ ats t args.toArray) fun v => κ v S
  | .len, [.slice a n c] => PureW P (Builtin.len_ ats t #[.slice a n c]) fun v => κ v S
  | .len, [.string s] => PureW P (Builtin.len_ ats t #[.string s]) fun v => κ v S
  | .len, [.map r] => ReadW P (Builtin.len_ ats t #[.map r]) S fun v => κ v S
  | .cap, _ => PureW P (Builtin.cap_ ats t args.toArray) fun v => κ v S
  | .append, _ => ValW P (Builtin.append_ ats t args.toArray) S κ
  | .copy, _ => ValW P (Builtin.copy_ ats t args.toArray) S κ
  | .clear, _ => ValW P (Builtin.clear_ ats t args.toArray) S κ
  | .delete, _ => ValW P (Builtin.delete_ ats t args.toArray) S κ
  | .unsafeSliceData, _ => ValW P (Builtin.unsafeSliceData_ ats t args.toArray) S κ
  | .unsafeString, _ => ValW P (Builtin.unsafeString_ ats t args.toArray) S κ
  | _, _ => False

theorem BuiltinW.next {b : Builtin} {ats : Array TypeId} {t : TypeId} {cs : Array Bool} {args : List Value} {S : State} {κ : Value → State → Prop}
    (h : BuiltinW P b ats t args S κ) : NextW P (builtin b ats t cs args.toArray) S κ := by
  unfold BuiltinW at h
  split at h
  · exact (h.read S).val.next
  · exact (h.read S).val.next
  · exact (h.read S).val.next
  · exact (h.read S).val.next
  · exact h.val.next
  · exact (h.read S).val.next
  · exact h.next
  · exact h.next
  · exact h.next
  · exact h.next
  · exact h.next
  · exact h.next
  · exact h.elim

def withV (x : Option Value) (κ : Value → Prop) : Prop :=
  match x with
  | some v => κ v
  | none => False
def evL (L : Env) : List Operand → Option (List Value)
  | [] => some []
  | x :: l =>
    match evT L x, evL L l with
    | some v, some vs => some (v :: vs)
    | _, _ => none
def withL (x : Option (List Value)) (κ : List Value → Prop) : Prop :=
  match x with
  | some v => κ v
  | none => False
def evO (L : Env) : Option Operand → Option (Option Value)
  | none => some none
  | some x =>
    match evT L x with
    | some v => some (some v)
    | none => none
def withO (x : Option (Option Value)) (κ : Option Value → Prop) : Prop :=
  match x with
  | some v => κ v
  | none => False
def withB (v : Value) (κ : Bool → Prop) : Prop :=
  match v with
  | .bool b => κ b
  | _ => False
def evP (L : Env) : List (Nat × Operand) → Option (List (Nat × Value))
  | [] => some []
  | (i, x) :: l =>
    match evT L x, evP L l with
    | some v, some vs => some ((i, v) :: vs)
    | _, _ => none
def withP (x : Option (List (Nat × Value))) (κ : List (Nat × Value) → Prop) : Prop :=
  match x with
  | some v => κ v
  | none => False

/-- 'x is no nil': a pointer, a function. -/
def NilW (v : Value) (κ : Value → Prop) : Prop :=
  match v with
  | .pointer (some a) => κ (.pointer (some a))
  | .func (.func f) a b => κ (.func (.func f) a b)
  | .func (.yield f) a b => κ (.func (.yield f) a b)
  | _ => False

def ConvW (P : Program) (s d : TypeId) (v : Value) (S : State) (κ : Value → State → Prop) : Prop :=
  match v with
  | .int k n => PureW P (convert s d (.int k n)) fun v => κ v S
  | v => ValW P (convert s d v) S κ

/-- ONE OPERATION. -/
def stepW (P : Program) (op : Op) (t : TypeId) (L : Env) (S : State) (κ : Value → State → Prop) : Prop :=
  match op with
  | .move x | .assign x => withV (evT L x) fun v => κ v S
  | .pick c a b => withV (evT L c) fun v => withB v fun g => withV (evT L (if g then a else b)) fun u => κ u S
  | .alloc e => ValW P (Instr.alloc e true (.tuple #[])) S κ
  | .box e x => withV (evT L x) fun v => ValW P (Instr.box e v) S κ
  | .build u ps => withP (evP L ps.toList) fun vs => PureW P (Instr.build u vs.toArray) fun v => κ v S
  | .buildSlice u n ps => withP (evP L ps.toList) fun vs => ValW P (Instr.buildSlice u n vs.toArray) S κ
  | .load u x => withV (evT L x) fun a => ReadW P (Instr.loadAt u a) S fun v => κ v S
  | .store u x y => withV (evT L x) fun a => withV (evT L y) fun v => UnitW P (Instr.storeAt u a v) S (κ undef)
  | .nilCheck x => withV (evT L x) fun v => NilW v fun v => κ v S
  | .binOp o u x y _ => withV (evT L x) fun a => withV (evT L y) fun b => PureW P (do eqGuard o u x y a b; binOp o u a b) fun v => κ v S
  | .unOp o _ x => withV (evT L x) fun a => PureW P (Op.unary o a) fun v => κ v S
  | .convert s d x => withV (evT L x) fun v => ConvW P s d v S κ
  | .makeInterface u x => withV (evT L x) fun v => PureW P (Instr.makeInterface u v) fun v => κ v S
  | .makeFunc fn a b => withL (evL L a.toList) fun va => withL (evL L b.toList) fun vb => κ (.func fn va.toArray vb.toArray) S
  | .makeMap u r => withO (evO L r) fun v => ValW P (Instr.makeMap u v) S κ
  | .makeSlice u x y => withV (evT L x) fun a => withV (evT L y) fun b => ValW P (Instr.makeSlice u a b) S κ
  | .slice u x lo hi mx => withV (evT L x) fun v => withO (evO L lo) fun a => withO (evO L hi) fun b => withO (evO L mx) fun c => PureW P (Instr.sliceAt u v a b c) fun v => κ v S
  | .sliceToArrayPointer u x => withV (evT L x) fun v => PureW P (Instr.arrayAt u v) fun v => κ v S
  | .fieldAddr u x f => withV (evT L x) fun v => PureW P (Instr.fieldAt u v f) fun v => κ v S
  | .field u x f => withV (evT L x) fun v => PureW P (Instr.field u v f) fun v => κ v S
  | .indexAddr u x i => withV (evT L x) fun v => withV (evT L i) fun j => PureW P (Instr.indexAt u v j) fun v => κ v S
  | .index u x i => withV (evT L x) fun v => withV (evT L i) fun j => PureW P (Instr.index u v j) fun v => κ v S
  | .lookup u x i ok => withV (evT L x) fun v => withV (evT L i) fun j => ReadW P (Instr.lookup u v j ok) S fun v => κ v S
  | .mapUpdate u m k x | .insert u m k x => withV (evT L m) fun a => withV (evT L k) fun b => withV (evT L x) fun c => UnitW P (Instr.mapUpdate u a b c) S (κ undef)
  | .mapEntry u m k => withV (evT L m) fun a => withV (evT L k) fun b => ValW P (Instr.mapEntry u a b) S κ
  | .entryStore u m s x => withV (evT L m) fun a => withV (evT L s) fun b => withV (evT L x) fun c => UnitW P (Instr.entryStore u a b c) S (κ undef)
  | .range u x => withV (evT L x) fun v => ValW P (Instr.range u v) S κ
  | .next it s => withV (evT L it) fun v => ValW P (Instr.next v s t) S κ
  | .entry it => withV (evT L it) fun v => ValW P (Instr.entry v) S κ
  | .typeAssert x u v ok => withV (evT L x) fun a => PureW P (Instr.typeAssert a u v ok) fun v => κ v S
  | .extract x i => withV (evT L x) fun a => PureW P (Instr.extract a i) fun v => κ v S
  | .call c => withL (evL L c.args.toList) fun vs =>
    match c.callee with
    | .value f => withV (evT L f) fun fv => FnW P fv vs S κ
    | .builtin b => BuiltinW P b c.argTypes t vs S κ
    | .invoke _ _ => False
  | _ => False

theorem withV_out {L : Env} {x : Operand} {κ : Value → Prop} (h : withV (evT L x) κ) : ∃ v, evT L x = some v ∧ κ v := by
  cases hx : evT L x with
  | none => rw [hx] at h; exact h.elim
  | some v => rw [hx] at h; exact ⟨v, rfl, h⟩
theorem withO_out {L : Env} {x : Option Operand} {ρ : Operand → Value} (hρ : ∀ x v, evT L x = some v → ρ x = v) {κ : Option Value → Prop} (h : withO (evO L x) κ) : κ (x.map ρ) := by
  cases x with
  | none => exact h
  | some x =>
    simp only [evO] at h
    cases hx : evT L x with
    | none => rw [hx] at h; exact h.elim
    | some v => rw [hx] at h; simp only [Option.map_some, hρ x v hx]; exact h
theorem evL_out {L : Env} {ρ : Operand → Value} (hρ : ∀ x v, evT L x = some v → ρ x = v) : ∀ (l : List Operand) (vs : List Value), evL L l = some vs → l.map ρ = vs
  | [], vs, h => by simp only [evL] at h; cases h; rfl
  | x :: l, vs, h => by
    simp only [evL] at h
    cases hx : evT L x with
    | none => simp [hx] at h
    | some v =>
      cases hl : evL L l with
      | none => simp [hx, hl] at h
      | some us =>
        simp only [hx, hl, Option.some.injEq] at h
        subst h
        simp [hρ x v hx, evL_out hρ l us hl]
theorem evP_out {L : Env} {ρ : Operand → Value} (hρ : ∀ x v, evT L x = some v → ρ x = v) : ∀ (l : List (Nat × Operand)) (vs : List (Nat × Value)), evP L l = some vs → (l.map fun (i, x) => (i, ρ x)) = vs
  | [], vs, h => by simp only [evP] at h; cases h; rfl
  | (i, x) :: l, vs, h => by
    simp only [evP] at h
    cases hx : evT L x with
    | none => simp [hx] at h
    | some v =>
      cases hl : evP L l with
      | none => simp [hx, hl] at h
      | some us =>
        simp only [hx, hl, Option.some.injEq] at h
        subst h
        simp [hρ x v hx, evP_out hρ l us hl]

theorem step_next {o : Oper} {L : Env} {S : State} {κ : Value → State → Prop} {ρ : Operand → Value} (hρ : ∀ x v, evT L x = some v → ρ x = v)
    (h : stepW P o.op o.type L S κ) : NextW P (execOp ρ o) S κ := by
  obtain ⟨dst, op, t, pos, after, guard⟩ := o
  have pureN : ∀ {v : Value} {S : State}, κ v S → NextW P (pure (.value v)) S κ := fun {v S} hk w hw => ⟨.value v, w, rfl, S, Ext.refl w, hw, hk⟩
  cases op <;> simp only [stepW] at h <;> simp only [execOp]
  case move x => obtain ⟨v, hx, h⟩ := withV_out h; rw [hρ x v hx]; exact pureN h
  case assign x => obtain ⟨v, hx, h⟩ := withV_out h; rw [hρ x v hx]; exact pureN h
  case pick c a b =>
    obtain ⟨v, hx, h⟩ := withV_out h
    cases v <;> first | exact h.elim | skip
    rename_i g
    simp only [withB] at h
    obtain ⟨u, hu, h⟩ := withV_out h
    have hu' := hρ _ _ hu
    rw [hρ c _ hx]
    intro w hw
    refine ⟨.value u, w, ?_, S, Ext.refl w, hw, h⟩
    cases g <;> simp_all [asBool, Sem.run_bind, Result.andThen]
  case alloc e => exact h.next
  case box e x => obtain ⟨v, hx, h⟩ := withV_out h; rw [hρ x v hx]; exact h.next
  case build u ps =>
    cases hp : evP L ps.toList with
    | none => rw [hp] at h; exact h.elim
    | some vs =>
      rw [hp] at h
      have e : (ps.map fun (i, x) => (i, ρ x)) = vs.toArray := Array.ext' (by simpa using evP_out hρ _ _ hp)
      rw [e]; exact (PureW.read h S).val.next
  case buildSlice u n ps =>
    cases hp : evP L ps.toList with
    | none => rw [hp] at h; exact h.elim
    | some vs =>
      rw [hp] at h
      have e : (ps.map fun (i, x) => (i, ρ x)) = vs.toArray := Array.ext' (by simpa using evP_out hρ _ _ hp)
      rw [e]; exact h.next
  case load u x => obtain ⟨v, hx, h⟩ := withV_out h; rw [hρ x v hx]; exact h.val.next
  case store u x y =>
    obtain ⟨v, hx, h⟩ := withV_out h; obtain ⟨v', hy, h⟩ := withV_out h
    rw [hρ x v hx, hρ y v' hy]; exact h.next
  case nilCheck x =>
    obtain ⟨v, hx, h⟩ := withV_out h; rw [hρ x v hx]
    unfold NilW at h
    split at h
    · exact pureN h
    · exact pureN h
    · exact pureN h
    · exact h.elim
  case binOp o u x y yt =>
    obtain ⟨v, hx, h⟩ := withV_out h; obtain ⟨v', hy, h⟩ := withV_out h
    rw [hρ x v hx, hρ y v' hy]; exact (PureW.read h S).val.next
  case unOp o u x => obtain ⟨v, hx, h⟩ := withV_out h; rw [hρ x v hx]; exact (PureW.read h S).val.next
  case convert s d x =>
    obtain ⟨v, hx, h⟩ := withV_out h; rw [hρ x v hx]
    unfold ConvW at h
    split at h
    · exact (PureW.read h S).val.next
    · exact h.next
  case sliceToArrayPointer u x => obtain ⟨v, hx, h⟩ := withV_out h; rw [hρ x v hx]; exact (PureW.read h S).val.next
  case makeInterface u x => obtain ⟨v, hx, h⟩ := withV_out h; rw [hρ x v hx]; exact (PureW.read h S).val.next
  case makeFunc fn a b =>
    cases ha : evL L a.toList with
    | none => rw [ha] at h; exact h.elim
    | some va =>
      rw [ha] at h
      simp only [withL] at h
      cases hb : evL L b.toList with
      | none => rw [hb] at h; exact h.elim
      | some vb =>
        rw [hb] at h
        have ea : a.map ρ = va.toArray := Array.ext' (by simpa using evL_out hρ _ _ ha)
        have eb : b.map ρ = vb.toArray := Array.ext' (by simpa using evL_out hρ _ _ hb)
        rw [ea, eb]
        exact ReadW.val (m := Instr.makeFunc fn va.toArray vb.toArray) ⟨_, fun w _ => rfl, h⟩ |>.next
  case makeMap u r => exact (withO_out (κ := fun v => ValW P (Instr.makeMap u v) S κ) hρ h).next
  case makeSlice u x y =>
    obtain ⟨v, hx, h⟩ := withV_out h; obtain ⟨v', hy, h⟩ := withV_out h
    rw [hρ x v hx, hρ y v' hy]; exact h.next
  case slice u x lo hi mx =>
    obtain ⟨v, hx, h⟩ := withV_out h; rw [hρ x v hx]
    have h := withO_out hρ h
    have h := withO_out hρ h
    have h := withO_out hρ h
    exact (PureW.read h S).val.next
  case fieldAddr u x f => obtain ⟨v, hx, h⟩ := withV_out h; rw [hρ x v hx]; exact (PureW.read h S).val.next
  case field u x f => obtain ⟨v, hx, h⟩ := withV_out h; rw [hρ x v hx]; exact (PureW.read h S).val.next
  case indexAddr u x y =>
    obtain ⟨v, hx, h⟩ := withV_out h; obtain ⟨v', hy, h⟩ := withV_out h
    rw [hρ x v hx, hρ y v' hy]; exact (PureW.read h S).val.next
  case index u x y =>
    obtain ⟨v, hx, h⟩ := withV_out h; obtain ⟨v', hy, h⟩ := withV_out h
    rw [hρ x v hx, hρ y v' hy]; exact (PureW.read h S).val.next
  case lookup u x y ok =>
    obtain ⟨v, hx, h⟩ := withV_out h; obtain ⟨v', hy, h⟩ := withV_out h
    rw [hρ x v hx, hρ y v' hy]; exact h.val.next
  case mapUpdate u m k x =>
    obtain ⟨v, hx, h⟩ := withV_out h; obtain ⟨v', hy, h⟩ := withV_out h; obtain ⟨v'', hz, h⟩ := withV_out h
    rw [hρ _ v hx, hρ _ v' hy, hρ _ v'' hz]; exact h.next
  case insert u m k x =>
    obtain ⟨v, hx, h⟩ := withV_out h; obtain ⟨v', hy, h⟩ := withV_out h; obtain ⟨v'', hz, h⟩ := withV_out h
    rw [hρ _ v hx, hρ _ v' hy, hρ _ v'' hz]; exact h.next
  case mapEntry u m k =>
    obtain ⟨v, hx, h⟩ := withV_out h; obtain ⟨v', hy, h⟩ := withV_out h
    rw [hρ _ v hx, hρ _ v' hy]; exact h.next
  case entryStore u m k x =>
    obtain ⟨v, hx, h⟩ := withV_out h; obtain ⟨v', hy, h⟩ := withV_out h; obtain ⟨v'', hz, h⟩ := withV_out h
    rw [hρ _ v hx, hρ _ v' hy, hρ _ v'' hz]; exact h.next
  case range u x => obtain ⟨v, hx, h⟩ := withV_out h; rw [hρ x v hx]; exact h.next
  case next it s => obtain ⟨v, hx, h⟩ := withV_out h; rw [hρ _ v hx]; exact h.next
  case entry it => obtain ⟨v, hx, h⟩ := withV_out h; rw [hρ _ v hx]; exact h.next
  case typeAssert x u v ok => obtain ⟨v, hx, h⟩ := withV_out h; rw [hρ _ v hx]; exact (PureW.read h S).val.next
  case extract x i => obtain ⟨v, hx, h⟩ := withV_out h; rw [hρ _ v hx]; exact (PureW.read h S).val.next
  case call c =>
    cases hp : evL L c.args.toList with
    | none => rw [hp] at h; exact h.elim
    | some vs =>
      rw [hp] at h
      simp only [withL] at h
      have e : c.args.map ρ = vs.toArray := Array.ext' (by simpa using evL_out hρ _ _ hp)
      unfold resolve
      rw [e]
      cases hc : c.callee with
      | value f =>
        rw [hc] at h
        obtain ⟨fv, hf, h⟩ := withV_out h
        simp only [hρ f fv hf]
        exact h.next
      | builtin b =>
        rw [hc] at h
        exact BuiltinW.next h
      | invoke r m => rw [hc] at h; exact h.elim
  all_goals exact h.elim

end Go.Ost

/- The rules of statements and of functions over chunks of memory. Conditions: none. -/
set_option linter.unusedSimpArgs false
set_option linter.unusedVariables false
namespace Go.Ost
open Go

variable {P : Program} {n : Nat} {ro : Option Nat}

abbrev Cont := Exit → List Nat → Env → State → Prop

def KQ (n : Nat) (K : Cont) (w : World) : Exit → Act → World → Prop :=
  fun e a' w' => ∃ D L S, K e D L S ∧ Agree n L D a' ∧ Ext w w' ∧ Hold w' S

/-- From these marks, this knowledge of the temporaries, these chunks the code comes to where K holds. -/
structure CodeW (P : Program) (n : Nat) (ro : Option Nat) (c : Code) (K : Cont) (D : List Nat) (L : Env) (S : State) : Prop where
  out : ∀ a w, Agree n L D a → Hold w S → c.wpIn (FW ro) 0 P (KQ n K w) a w

theorem KQ.ext {K : Cont} {w w' : World} (h : Ext w w') {e : Exit} {a : Act} {v : World} (hq : KQ n K w' e a v) : KQ n K w e a v :=
  let ⟨D, L, S, k, ag, ex, ho⟩ := hq; ⟨D, L, S, k, ag, h.trans ex, ho⟩

theorem code_less {c : Code} {K : Cont} {D : List Nat} {L L' : Env} {S S' : State} (hL : Knows L' L) (hS : Among S' S) (h : CodeW P n ro c K D L' S') : CodeW P n ro c K D L S :=
  ⟨fun a w ha hw => h.out a w (ha.less hL) (hS.hold hw)⟩

theorem code_mono {c : Code} {K K' : Cont} {D : List Nat} {L : Env} {S : State} (h : CodeW P n ro c K D L S) (hk : ∀ e D L S, K e D L S → K' e D L S) : CodeW P n ro c K' D L S :=
  ⟨fun a w ha hw => wpIn_mono (h.out a w ha hw) fun _ _ _ ⟨D, L, S, k, r⟩ => ⟨D, L, S, hk _ _ _ _ k, r⟩⟩

theorem code_skip {K : Cont} {D : List Nat} {L : Env} {S : State} (h : K .normal D L S) : CodeW P n ro .skip K D L S :=
  ⟨fun _ w ha hw => wpIn_skip ⟨D, L, S, h, ha, Ext.refl w, hw⟩⟩
theorem code_label {K : Cont} {D : List Nat} {L : Env} {S : State} {l : Nat} (h : K .normal D L S) : CodeW P n ro (.label l) K D L S :=
  ⟨fun _ w ha hw => wpIn_label ⟨D, L, S, h, ha, Ext.refl w, hw⟩⟩
theorem code_exit {K : Cont} {D : List Nat} {L : Env} {S : State} {id : Nat} (h : K (.exit id) D L S) : CodeW P n ro (.exit id) K D L S :=
  ⟨fun _ w ha hw => wpIn_exit ⟨D, L, S, h, ha, Ext.refl w, hw⟩⟩
theorem code_ret {K : Cont} {D : List Nat} {L : Env} {S : State} (h : K .ret D L S) : CodeW P n ro .ret K D L S :=
  ⟨fun _ w ha hw => wpIn_ret ⟨D, L, S, h, ha, Ext.refl w, hw⟩⟩

def Cont.then (next : List Nat → Env → State → Prop) (K : Cont) : Cont
  | .normal, D, L, S => next D L S
  | e, D, L, S => K e D L S

theorem code_seq {x y : Code} {K : Cont} {D : List Nat} {L : Env} {S : State} (h : CodeW P n ro x (Cont.then (CodeW P n ro y K) K) D L S) : CodeW P n ro (.seq x y) K D L S :=
  ⟨fun a w ha hw => wpIn_seq (wpIn_mono (h.out a w ha hw) fun e a' w' hq => by
    obtain ⟨D, L, S, k, ag, ex, ho⟩ := hq
    cases e <;> first | exact wpIn_mono (CodeW.out k a' w' ag ho) (fun _ _ _ h => h.ext ex) | exact ⟨D, L, S, k, ag, ex, ho⟩)⟩
/-- The same, what comes next under a name. -/
theorem code_seq_k {x y : Code} {K : Cont} {D : List Nat} {L : Env} {S : State}
    (h : ∀ N : List Nat → Env → State → Prop, (∀ D L S, CodeW P n ro y K D L S → N D L S) → CodeW P n ro x (Cont.then N K) D L S) : CodeW P n ro (.seq x y) K D L S :=
  code_seq (h _ fun _ _ _ h => h)

theorem code_cond {c : Operand} {x y : Code} {K : Cont} {D : List Nat} {L : Env} {S : State} {b : Bool} (hc : evT L c = some (.bool b))
    (ht : b = true → CodeW P n ro x K D L S) (hf : b = false → CodeW P n ro y K D L S) : CodeW P n ro (.cond c x y) K D L S :=
  ⟨fun a w ha hw => wpIn_cond_split (ha.ev hc) (fun h => (ht h).out a w ha hw) (fun h => (hf h).out a w ha hw)⟩
theorem code_true {c : Operand} {x y : Code} {K : Cont} {D : List Nat} {L : Env} {S : State} (hc : evT L c = some (.bool true))
    (ht : CodeW P n ro x K D L S) : CodeW P n ro (.cond c x y) K D L S := code_cond hc (fun _ => ht) (fun h => by cases h)
theorem code_false {c : Operand} {x y : Code} {K : Cont} {D : List Nat} {L : Env} {S : State} (hc : evT L c = some (.bool false))
    (hf : CodeW P n ro y K D L S) : CodeW P n ro (.cond c x y) K D L S := code_cond hc (fun h => by cases h) (fun _ => hf)

def Cont.block (id : Nat) (K : Cont) : Cont
  | .exit id', D, L, S => if id' = id then K .normal D L S else K (.exit id') D L S
  | e, D, L, S => K e D L S

theorem code_block {id : Nat} {c : Code} {K : Cont} {D : List Nat} {L : Env} {S : State} (h : CodeW P n ro c (K.block id) D L S) : CodeW P n ro (.block id c) K D L S :=
  ⟨fun a w ha hw => wpIn_block (wpIn_mono (h.out a w ha hw) fun e a' w' hq => by
    obtain ⟨D, L, S, k, r⟩ := hq
    cases e <;> simp only [Exit.inBlock] <;> first | exact ⟨D, L, S, k, r⟩ | skip
    simp only [Cont.block] at k
    split at k
    · rw [if_pos ‹_›]; exact ⟨D, L, S, k, r⟩
    · rw [if_neg ‹_›]; exact ⟨D, L, S, k, r⟩)⟩

def Cont.noGoto (K : Cont) : Cont
  | .goto _, _, _, _ => False
  | e, D, L, S => K e D L S

/-- A piece of code that holds labels, to none of which anything jumps. -/
theorem code_scope {c : Code} {K : Cont} {D : List Nat} {L : Env} {S : State} (h : CodeW P n ro c K.noGoto D L S) : CodeW P n ro (.scope c) K D L S := by
  refine ⟨fun a w ha hw b k cs hro hb hr => ?_⟩
  obtain ⟨e, a₁, w₁, hq, harr⟩ := h.out a w ha hw b (.inScope c :: k) cs hro hb hr
  have s0 : step P (lone (b.atR a (.code (.scope c) :: k)) cs w) = .next (lone (b.atR a (.code c :: .inScope c :: k)) cs w) :=
    step_lone_go (by simp [stepG, stepG.exec, Frame.atR])
  have s1 : ∀ (a : Act) (w : World), step P (lone (b.atR a (.inScope c :: k)) cs w) = .next (lone (b.atR a k) cs w) :=
    fun a w => step_lone_go (by simp [stepG, stepG.exec, Frame.atR])
  have f0 : (lone (b.atR a (.code (.scope c) :: k)) cs w).fenced P (FW ro) := fenced_calm hb hr rfl
  obtain ⟨D, L, S, hk, r⟩ := hq
  cases e with
  | normal => exact ⟨.normal, a₁, w₁, ⟨D, L, S, hk, r⟩, .head f0 s0 (StepsIn.trans harr (.one (fenced_calm (fr := b.atR a₁ (.inScope c :: k)) hb hr rfl) (s1 a₁ w₁)))⟩
  | exit id =>
    refine ⟨.exit id, a₁, w₁, ⟨D, L, S, hk, r⟩, ?_⟩
    have e2 : exitTo id (.inScope c :: k) = exitTo id k := by simp [exitTo]
    refine ArrivesIn.of_steps (.one f0 s0) ?_
    unfold ArrivesIn at harr ⊢
    simp only at harr ⊢
    rw [e2] at harr
    exact harr
  | goto l => exact hk.elim
  | ret => exact ⟨.ret, a₁, w₁, ⟨D, L, S, hk, r⟩, ArrivesIn.of_steps (.one f0 s0) harr⟩
  | panic ch => exact ⟨.panic ch, a₁, w₁, ⟨D, L, S, hk, r⟩, ArrivesIn.of_steps (.one f0 s0) harr⟩
  | outgrown => exact ⟨.outgrown, a₁, w₁, ⟨D, L, S, hk, r⟩, ArrivesIn.of_steps (e := .outgrown) (a := a₁) (w := w₁) (b := b) (k := k) (.one f0 s0) harr⟩

/-- The loop goes round once more. -/
structure Again (I : Nat → List Nat → Env → State → Prop) (m : Nat) (D : List Nat) (L : Env) (S : State) : Prop where
  out : ∃ m' L'' S'', m' < m ∧ I m' D L'' S'' ∧ Knows L'' L ∧ Among S'' S

/-- A loop: what holds at its head, by a number that each round lowers. -/
theorem code_loop {c : Code} {K : Cont} {D : List Nat} {L : Env} {S : State} (I : Nat → List Nat → Env → State → Prop) (h0 : ∃ m L0 S0, I m D L0 S0 ∧ Knows L0 L ∧ Among S0 S)
    (round : ∀ m D L S, I m D L S → CodeW P n ro c (Cont.then (Again I m) K) D L S) : CodeW P n ro (.loop c) K D L S := by
  refine ⟨fun a w ha hw b k cs hro hb hr => ?_⟩
  have key : ∀ m (a : Act) (w : World) D L S, I m D L S → Agree n L D a → Hold w S →
      ∃ e a' w', KQ n K w e a' w' ∧ ArrivesIn (Machine.fenced P (FW ro)) P (lone (b.atR a (.code c :: .inLoop c :: k)) cs w) b k cs e a' w' := by
    intro m
    induction m using Nat.strongRecOn with
    | _ m ih =>
      intro a w D L S hI ha hw
      obtain ⟨e, a₁, w₁, hq, harr⟩ := (round m D L S hI).out a w ha hw b (.inLoop c :: k) cs hro hb hr
      obtain ⟨D₁, L₁, S₁, hk, hag, hex, hho⟩ := hq
      cases e with
      | normal =>
        obtain ⟨m', L'', S'', hlt, hI', hL, hS⟩ := Again.out hk
        obtain ⟨e₂, a₂, w₂, hq₂, harr₂⟩ := ih m' hlt a₁ w₁ D₁ L'' S'' hI' (hag.less hL) (hS.hold hho)
        exact ⟨e₂, a₂, w₂, hq₂.ext hex, .of_steps (StepsIn.trans harr (.one (fenced_calm (fr := b.atR a₁ (.inLoop c :: k)) hb hr rfl) stepR_inLoop)) harr₂⟩
      | exit id => exact ⟨_, a₁, w₁, ⟨D₁, L₁, S₁, hk, hag, hex, hho⟩, .pass (x := .inLoop c) rfl (fun _ _ => .inl (by simp)) harr⟩
      | goto l => exact ⟨_, a₁, w₁, ⟨D₁, L₁, S₁, hk, hag, hex, hho⟩, .pass (x := .inLoop c) rfl (fun _ _ => .inl (by simp)) harr⟩
      | ret => exact ⟨_, a₁, w₁, ⟨D₁, L₁, S₁, hk, hag, hex, hho⟩, .pass (x := .inLoop c) rfl (fun _ _ => .inl (by simp)) harr⟩
      | panic ch => exact ⟨_, a₁, w₁, ⟨D₁, L₁, S₁, hk, hag, hex, hho⟩, .pass (x := .inLoop c) rfl (fun _ _ => .inl (by simp)) harr⟩
      | outgrown => exact ⟨_, a₁, w₁, ⟨D₁, L₁, S₁, hk, hag, hex, hho⟩, .pass (x := .inLoop c) rfl (fun _ _ => .inl (by simp)) harr⟩
  obtain ⟨m, L0, S0, h0, hL0, hS0⟩ := h0
  obtain ⟨e, a', w', hq, harr⟩ := key m a w D L0 S0 h0 (ha.less hL0) (hS0.hold hw)
  exact ⟨e, a', w', hq, .of_steps (.one (fenced_calm hb hr rfl) stepR_loop) harr⟩

/-! ### Regions -/

/-- What an operation's guard says: carried out or passed over. -/
def guardW (ops : Array Oper) (o : Oper) (L : Env) (A B : Prop) : Prop :=
  match o.guard with
  | none => A
  | some (j, want) =>
    match (ops[j]?).bind (·.dst) with
    | none => False
    | some d => withV (lookT L d) fun v => match v with | .bool b => if b = want then A else B | .tuple _ => B | _ => False

/-- The operations of a region, one behind the other. -/
def runW (P : Program) (n : Nat) (ops : Array Oper) (K : Env → State → Prop) : List Oper → Env → State → Prop
  | [], L, S => K L S
  | o :: l, L, S => guardW ops o L (stepW P o.op o.type L S fun v S' => runW P n ops K l (putT n o.dst v L) S') (runW P n ops K l (putT n o.dst undef L) S)

theorem stepW_mono {op : Op} {t : TypeId} {L : Env} {S : State} {κ κ' : Value → State → Prop} (hk : ∀ v S, κ v S → κ' v S) (h : stepW P op t L S κ) : stepW P op t L S κ' := by
  have withV_mono : ∀ {x : Option Value} {p q : Value → Prop}, (∀ v, p v → q v) → withV x p → withV x q := fun {x p q} hpq h => by cases x <;> first | exact h.elim | exact hpq _ h
  have withL_mono : ∀ {x : Option (List Value)} {p q : List Value → Prop}, (∀ v, p v → q v) → withL x p → withL x q := fun {x p q} hpq h => by cases x <;> first | exact h.elim | exact hpq _ h
  have withO_mono : ∀ {x : Option (Option Value)} {p q : Option Value → Prop}, (∀ v, p v → q v) → withO x p → withO x q := fun {x p q} hpq h => by cases x <;> first | exact h.elim | exact hpq _ h
  have withP_mono : ∀ {x : Option (List (Nat × Value))} {p q : List (Nat × Value) → Prop}, (∀ v, p v → q v) → withP x p → withP x q := fun {x p q} hpq h => by cases x <;> first | exact h.elim | exact hpq _ h
  have pure_mono : ∀ {m : Sem Value} {p q : Value → Prop}, (∀ v, p v → q v) → PureW P m p → PureW P m q := fun hpq ⟨v, a, b⟩ => ⟨v, a, hpq _ b⟩
  have read_mono : ∀ {m : Sem Value} {S : State} {p q : Value → Prop}, (∀ v, p v → q v) → ReadW P m S p → ReadW P m S q := fun hpq ⟨v, a, b⟩ => ⟨v, a, hpq _ b⟩
  have val_mono : ∀ {m : Sem Value} {S : State}, ValW P m S κ → ValW P m S κ' := fun h => ⟨fun w hw => let ⟨v, w', S', a, b, c, d⟩ := h.out w hw; ⟨v, w', S', a, b, c, hk _ _ d⟩⟩
  have unit_mono : ∀ {m : Sem Unit} {S : State}, UnitW P m S (κ undef) → UnitW P m S (κ' undef) := fun h => ⟨fun w hw => let ⟨w', S', a, b, c, d⟩ := h.out w hw; ⟨w', S', a, b, c, hk _ _ d⟩⟩
  have ends_mono : ∀ {w : World} (e : Ending) (w' : World), EndsW w κ e w' → EndsW w κ' e w' := fun e w' ⟨v, S', a, b, c, d⟩ => ⟨v, S', a, b, c, hk _ _ d⟩
  have nil_mono : ∀ {v : Value} {p q : Value → Prop}, (∀ v, p v → q v) → NilW v p → NilW v q := fun {v p q} hpq h => by
    unfold NilW at *; split at h <;> first | exact hpq _ h | exact h.elim
  have k1 : ∀ (S : State) v, κ v S → κ' v S := fun S v => hk v S
  cases op <;> simp only [stepW] at h ⊢
  case move x => exact withV_mono (k1 _) h
  case assign x => exact withV_mono (k1 _) h
  case pick c a b => exact withV_mono (fun v hv => by cases v <;> first | exact hv.elim | exact withV_mono (k1 _) hv) h
  case alloc e => exact val_mono h
  case box e x => exact withV_mono (fun v => val_mono) h
  case build u ps => exact withP_mono (fun v => pure_mono (k1 _)) h
  case buildSlice u n ps => exact withP_mono (fun v => val_mono) h
  case load u x => exact withV_mono (fun v => read_mono (k1 _)) h
  case store u x y => exact withV_mono (fun v => withV_mono fun v => unit_mono) h
  case nilCheck x => exact withV_mono (fun v => nil_mono (k1 _)) h
  case binOp o u x y yt => exact withV_mono (fun v => withV_mono fun v => pure_mono (k1 _)) h
  case unOp o u x => exact withV_mono (fun v => pure_mono (k1 _)) h
  case convert s d x =>
    refine withV_mono (fun v hv => ?_) h
    unfold ConvW at *
    split at hv
    · exact pure_mono (k1 _) hv
    · exact val_mono hv
  case sliceToArrayPointer u x => exact withV_mono (fun v => pure_mono (k1 _)) h
  case makeInterface u x => exact withV_mono (fun v => pure_mono (k1 _)) h
  case makeFunc fn a b => exact withL_mono (fun v => withL_mono fun v => hk _ _) h
  case makeMap u r => exact withO_mono (fun v => val_mono) h
  case makeSlice u x y => exact withV_mono (fun v => withV_mono fun v => val_mono) h
  case slice u x lo hi mx => exact withV_mono (fun v => withO_mono fun v => withO_mono fun v => withO_mono fun v => pure_mono (k1 _)) h
  case fieldAddr u x f => exact withV_mono (fun v => pure_mono (k1 _)) h
  case field u x f => exact withV_mono (fun v => pure_mono (k1 _)) h
  case indexAddr u x y => exact withV_mono (fun v => withV_mono fun v => pure_mono (k1 _)) h
  case index u x y => exact withV_mono (fun v => withV_mono fun v => pure_mono (k1 _)) h
  case lookup u x y ok => exact withV_mono (fun v => withV_mono fun v => read_mono (k1 _)) h
  case mapUpdate u m k x => exact withV_mono (fun v => withV_mono fun v => withV_mono fun v => unit_mono) h
  case insert u m k x => exact withV_mono (fun v => withV_mono fun v => withV_mono fun v => unit_mono) h
  case mapEntry u m k => exact withV_mono (fun v => withV_mono fun v => val_mono) h
  case entryStore u m k x => exact withV_mono (fun v => withV_mono fun v => withV_mono fun v => unit_mono) h
  case range u x => exact withV_mono (fun v => val_mono) h
  case next it s => exact withV_mono (fun v => val_mono) h
  case entry it => exact withV_mono (fun v => val_mono) h
  case typeAssert x u v ok => exact withV_mono (fun v => pure_mono (k1 _)) h
  case extract x i => exact withV_mono (fun v => pure_mono (k1 _)) h
  case call c =>
    refine withL_mono (fun vs hv => ?_) h
    cases hc : c.callee with
    | value f =>
      simp only [hc] at hv ⊢
      refine withV_mono (fun fv hf => ?_) hv
      unfold FnW at *
      split at hf
      · exact ⟨hf.out.mono hk⟩
      · refine ⟨fun w hw => ?_⟩
        obtain ⟨fn, tmps, asg, bd, hr, hR⟩ := hf.out w hw
        exact ⟨fn, tmps, asg, bd, hr, hR.mono ends_mono⟩
      · exact hf.elim
    | builtin b =>
      simp only [hc] at hv ⊢
      unfold BuiltinW at *
      split at hv <;> first | exact hv.elim | exact pure_mono (k1 _) hv | exact read_mono (k1 _) hv | exact val_mono hv
    | invoke r m => simp only [hc] at hv
  all_goals exact h.elim

theorem upon_next {o : Oper} {a : Act} {w : World} {nx : Act → World → Prop} {Q : Exit → Act → World → Prop} {S : State} {κ : Value → State → Prop} {m : Sem Next}
    (h : NextW P m S κ) (hw : Hold w S) (hk : ∀ v S' w', κ v S' → Ext w w' → Hold w' S' → nx (a.put o.dst v) w') : o.uponIn (FW ro) 0 P a nx Q (m.run P w) := by
  obtain ⟨r, w', hr, hg⟩ := h w hw
  rw [hr]
  cases r <;> simp only [GoesW] at hg
  case value v => obtain ⟨S', he, hh, k⟩ := hg; exact hk v S' w' k he hh
  case skip => obtain ⟨S', he, hh, k⟩ := hg; exact hk undef S' w' k he hh
  case enter f args =>
    refine ⟨fun h => (by cases h), hg.mono fun e w'' he => ?_⟩
    obtain ⟨v, S', rfl, he, hh, k⟩ := he
    exact hk v S' w'' k he hh
  case round l f tmps as bd =>
    refine ⟨fun h => (by cases h), hg.mono fun e w'' he => ?_⟩
    obtain ⟨v, S', rfl, he, hh, k⟩ := he
    exact hk v S' w'' k he hh

theorem step_not_defer {op : Op} {t : TypeId} {L : Env} {S : State} {κ : Value → State → Prop} (h : stepW P op t L S κ) : ∀ c, op ≠ .defer c := by
  intro c e; subst e; exact h

/-- One operation, as the walk has it. -/
theorem oper_in {o : Oper} {a : Act} {w : World} {nx : Act → World → Prop} {Q : Exit → Act → World → Prop} {L : Env} {D : List Nat} {S : State} {κ : Value → State → Prop}
    (h : stepW P o.op o.type L S κ) (ha : Agree n L D a) (hw : Hold w S) (hk : ∀ v S' w', κ v S' → Ext w w' → Hold w' S' → nx (a.put o.dst v) w') : o.wpIn (FW ro) 0 P a w nx Q := by
  refine ⟨fun _ _ => trivial, ?_⟩
  rw [Oper.semAt_eq _ _ _ (step_not_defer h)]
  exact upon_next (step_next (fun x v hx => ha.ev hx) h) hw hk

theorem guard_cases {ops : Array Oper} {o : Oper} {L : Env} {D : List Nat} {a : Act} {A B : Prop} (ha : Agree n L D a) (h : guardW ops o L A B) :
    (Region.wanted o (yielded ops a.tmps) = true ∧ A) ∨ (Region.wanted o (yielded ops a.tmps) = false ∧ B) := by
  unfold guardW at h
  cases hg : o.guard with
  | none => rw [hg] at h; exact .inl ⟨by simp [Region.wanted, hg], h⟩
  | some g =>
    obtain ⟨j, want⟩ := g
    rw [hg] at h
    simp only at h
    cases hd : (ops[j]?).bind (·.dst) with
    | none => rw [hd] at h; exact h.elim
    | some d =>
      rw [hd] at h
      simp only at h
      cases hv : lookT L d with
      | none => rw [hv] at h; exact h.elim
      | some v =>
        rw [hv] at h
        have ht := ha.get d v hv
        cases v <;> first | exact h.elim | skip
        case bool b =>
          simp only [withV] at h
          split at h
          · subst_vars; exact .inl ⟨by simp [Region.wanted, hg, yielded, hd, ht], h⟩
          · rename_i hne; exact .inr ⟨by simp [Region.wanted, hg, yielded, hd, ht, hne], h⟩
        case tuple vs => exact .inr ⟨by simp [Region.wanted, hg, yielded, hd, ht], h⟩

theorem run_in {ops : Array Oper} {K : Cont} {D : List Nat} : ∀ (l : List Oper) (L : Env) (S : State), runW P n ops (K .normal D) l L S →
    ∀ (a : Act) (w : World), Agree n L D a → Hold w S → wpListIn (FW ro) 0 P ops (KQ n K w) l a w := by
  intro l
  induction l with
  | nil => intro L S h a w ha hw; exact ⟨D, L, S, h, ha, Ext.refl w, hw⟩
  | cons o l ih =>
    intro L S h a w ha hw
    have mono : ∀ {w w' : World} {a : Act} {l : List Oper}, Ext w w' → wpListIn (FW ro) 0 P ops (KQ n K w') l a w' → wpListIn (FW ro) 0 P ops (KQ n K w) l a w' := by
      intro w w' a l he h
      have hq : ∀ e a v, KQ n K w' e a v → KQ n K w e a v := fun _ _ _ h => h.ext he
      clear ih
      have gen : ∀ (l : List Oper) (a : Act) (v : World), wpListIn (FW ro) 0 P ops (KQ n K w') l a v → wpListIn (FW ro) 0 P ops (KQ n K w) l a v := by
        intro l
        induction l with
        | nil => intro a v h; exact hq _ _ _ h
        | cons o l ih =>
          intro a v h
          simp only [wpListIn] at h ⊢
          split at h
          · rw [if_pos ‹_›]
            refine ⟨h.1, ?_⟩
            have h2 := h.2
            generalize (o.semAt (FW ro).round a.eval).run P v = r at *
            cases r with
            | ok x v' =>
              cases x <;> simp only [Oper.uponIn] at h2 ⊢ <;>
                first
                  | exact ih _ _ h2
                  | exact ⟨h2.1, CallsIn.mono h2.2 (fun e w'' he => by cases e <;> first | exact ih _ _ he | exact hq _ _ _ he | exact (let ⟨a, w, q⟩ := he; ⟨a, w, hq _ _ _ q⟩))⟩
                  | exact ⟨h2.1, RowsIn.mono h2.2 (fun _ _ he => ih _ _ he)⟩
                  | exact ⟨h2.1, RoundIn.mono h2.2 (fun e w'' he => by cases e <;> first | exact ih _ _ he | exact hq _ _ _ he | exact (let ⟨a, w, q⟩ := he; ⟨a, w, hq _ _ _ q⟩))⟩
            | halt x v' => cases x <;> simp only [Oper.uponIn] at h2 ⊢ <;> exact hq _ _ _ h2
          · rw [if_neg ‹_›]
            exact ⟨h.1, ih _ _ h.2⟩
      exact gen l a w' h
    simp only [runW] at h
    simp only [wpListIn]
    rcases guard_cases ha h with ⟨hw1, h⟩ | ⟨hw1, h⟩
    · rw [if_pos hw1]
      exact oper_in h ha hw fun v S' w' hk he hh => mono he (ih _ _ hk _ _ (ha.put _ _) hh)
    · rw [if_neg (by simp [hw1])]
      exact ⟨fun _ _ => trivial, ih _ _ h _ _ (ha.put _ _) hw⟩

theorem code_region {id : Nat} {ops : Array Oper} {K : Cont} {D : List Nat} {L : Env} {S : State} (h : runW P n ops (K .normal D) ops.toList L S) :
    CodeW P n ro (.region id ops false) K D L S :=
  ⟨fun a w ha hw => wpIn_region_list (run_in _ _ _ h a w ha hw)⟩

/-- One operation, what comes behind it under a name. -/
theorem run_cons {ops : Array Oper} {K : Env → State → Prop} {o : Oper} {l : List Oper} {L : Env} {S : State}
    (h : ∀ N : Env → State → Prop, (∀ L S, runW P n ops K l L S → N L S) → guardW ops o L (stepW P o.op o.type L S fun v S' => N (putT n o.dst v L) S') (N (putT n o.dst undef L) S)) :
    runW P n ops K (o :: l) L S := h _ fun _ _ h => h
theorem run_nil {ops : Array Oper} {K : Env → State → Prop} {L : Env} {S : State} (h : K L S) : runW P n ops K [] L S := h
theorem code_reg {id : Nat} {l : List Oper} {K : Cont} {D : List Nat} {L : Env} {S : State} (h : runW P n l.toArray (K .normal D) l L S) :
    CodeW P n ro (.region id l.toArray false) K D L S := code_region (by simpa using h)

end Go.Ost

/- Functions, their contracts, and ranges over functions, over chunks of memory. Conditions: none. -/
set_option linter.unusedSimpArgs false
set_option linter.unusedVariables false
namespace Go.Ost
open Go

variable {P : Program} {n : Nat} {ro : Option Nat}

def callable (P : Program) (f : FuncId) : Bool := match P.funcs[f]? with | some fn => fn.name != "runtime.NumGoroutine" && fn.body.isSome | none => false

/-- A function's contract: from the chunks A, whatever else there is, to a result and chunks of which R holds, and all else as it was. -/
structure Meets (P : Program) (f : FuncId) (args : List Value) (A : State) (R : Value → State → Prop) : Prop where
  able : callable P f = true
  out : ∀ (F : Chunk) (w : World), Hold w (F :: A) → CallsIn (FW none) 0 P f args.toArray w
    (EndsW w fun v S => ∃ A', S = F :: A' ∧ R v A')

theorem Meets.mono {f : FuncId} {args : List Value} {A : State} {R R' : Value → State → Prop} (h : Meets P f args A R) (hr : ∀ v A', R v A' → R' v A') : Meets P f args A R' :=
  ⟨h.1, fun F w hw => (h.2 F w hw).mono fun e w' ⟨v, S, a, b, c, A', d, r⟩ => ⟨v, S, a, b, c, A', d, hr _ _ r⟩⟩

theorem calls_spec {f : FuncId} {args : List Value} {S A G : State} {R κ : Value → State → Prop} (h : Meets P f args A R) (ht : Take A S G)
    (k : ∀ v A', R v A' → κ v (A' ++ G)) : CallsW P f args.toArray S κ := by
  refine CallsW.mk' h.1 fun w hw => (h.2 G.flatten w (hw.perm (ht.perm.trans ?_))).mono ?_
  · simp only [List.flatten_append, List.flatten_cons]; exact List.perm_append_comm
  · rintro e w' ⟨v, S', rfl, he, hh, A', rfl, r⟩
    refine ⟨v, A' ++ G, rfl, he, hh.perm ?_, k v A' r⟩
    simp only [List.flatten_append, List.flatten_cons]; exact List.perm_append_comm

/-- The blocks for the rounds' deferred calls. -/
def marksOf (D : List Nat) : State := D.map fun r => [(r, Obj.deferred (some []))]

def resW (P : Program) : List ResultVar → Env → State → (List Value → Prop) → Prop
  | [], _, _, κ => κ []
  | .tmp t :: r, L, S, κ => withV (lookT L t) fun v => resW P r L S fun vs => κ (v :: vs)
  | .cell a t :: r, L, S, κ => withV (lookT L a) fun p => ReadW P (Instr.loadAt t p) S fun v => resW P r L S fun vs => κ (v :: vs)

def tupled : List Value → Value
  | [v] => v
  | vs => .tuple vs.toArray

def RetK (P : Program) (rs : List ResultVar) (R : Value → State → Prop) (F : Chunk) : Cont
  | .normal, D, L, S | .ret, D, L, S => ∃ S1, Take (marksOf D) S S1 ∧ resW P rs L S1 fun vs => ∃ A', R (tupled vs) A' ∧ Among (F :: A') S1
  | _, _, _, _ => False

def argsL : Nat → List Value → Env
  | _, [] => []
  | i, v :: l => (i, v) :: argsL (i + 1) l

theorem ret_tmp {P : Program} {R : Value → State → Prop} {F : Chunk} {t : Nat} {L : Env} {S : State} {v : Value} (A' : State) (hv : lookT L t = some v) (hR : R v A') (hs : Among (F :: A') S) :
    RetK P [.tmp t] R F .ret [] L S := ⟨S, .nil S, by simp only [resW, hv, withV]; exact ⟨A', hR, hs⟩⟩
theorem ret_tmp_n {P : Program} {R : Value → State → Prop} {F : Chunk} {t : Nat} {L : Env} {S : State} {v : Value} (A' : State) (hv : lookT L t = some v) (hR : R v A') (hs : Among (F :: A') S) :
    RetK P [.tmp t] R F .normal [] L S := ⟨S, .nil S, by simp only [resW, hv, withV]; exact ⟨A', hR, hs⟩⟩
theorem ret_none {P : Program} {R : Value → State → Prop} {F : Chunk} {L : Env} {S : State} (A' : State) (hR : R (.tuple #[]) A') (hs : Among (F :: A') S) :
    RetK P [] R F .ret [] L S := ⟨S, .nil S, A', hR, hs⟩
theorem ret_none_n {P : Program} {R : Value → State → Prop} {F : Chunk} {L : Env} {S : State} (A' : State) (hR : R (.tuple #[]) A') (hs : Among (F :: A') S) :
    RetK P [] R F .normal [] L S := ⟨S, .nil S, A', hR, hs⟩

theorem look_argsL : ∀ (l : List Value) (i t : Nat) (v : Value), lookT (argsL i l) t = some v → i ≤ t ∧ l[t - i]? = some v
  | [], i, t, v, h => by simp [argsL, lookT] at h
  | u :: l, i, t, v, h => by
    simp only [argsL, lookT] at h
    split at h
    · subst_vars; cases h; simp
    · have := look_argsL l (i + 1) t v h
      refine ⟨by omega, ?_⟩
      rw [show t - i = (t - (i + 1)) + 1 from by omega, List.getElem?_cons_succ]
      exact this.2

def resOne (tmps : Array Value) : ResultVar → Sem Value
  | .tmp t => pure (tmps.getD t undef)
  | .cell b t => do loadVar t (← asAddr (tmps.getD b undef))

theorem resW_run {a : Act} {L : Env} {D : List Nat} {S : State} (ha : Agree n L D a) : ∀ (rs : List ResultVar) (κ : List Value → Prop), resW P rs L S κ →
    ∃ vs, (∀ w, Hold w S → (rs.mapM (resOne a.tmps)).run P w = .ok vs w) ∧ κ vs
  | [], κ, h => ⟨[], fun w _ => rfl, h⟩
  | .tmp t :: r, κ, h => by
    simp only [resW] at h
    cases hv : lookT L t with
    | none => rw [hv] at h; exact h.elim
    | some v =>
      rw [hv] at h
      obtain ⟨vs, h1, h2⟩ := resW_run ha r _ h
      refine ⟨v :: vs, fun w hw => ?_, h2⟩
      have h3 := ha.get t v hv
      have hg : a.tmps.getD t undef = v := by simp [h3]
      rw [List.mapM_cons]
      simp only [Sem.run_bind, resOne, hg, Sem.run_pure, Result.andThen, h1 w hw]
  | .cell b t :: r, κ, h => by
    simp only [resW] at h
    cases hp : lookT L b with
    | none => rw [hp] at h; exact h.elim
    | some p =>
      rw [hp] at h
      obtain ⟨v, h3, h⟩ := h.out
      obtain ⟨vs, h1, h2⟩ := resW_run ha r _ h
      refine ⟨v :: vs, fun w hw => ?_, h2⟩
      have hb := ha.get b p hp
      have h4 := h3 w hw
      have e : (asAddr p).run P w = (Instr.sureAddr p).run P w ∨ ∃ h w', (Instr.sureAddr p).run P w = .halt h w' := by
        unfold Instr.sureAddr asAddr
        cases p <;> first | exact .inr ⟨_, _, rfl⟩ | skip
        rename_i a; cases a <;> first | exact .inr ⟨_, _, rfl⟩ | exact .inl rfl
      have hg : a.tmps.getD b undef = p := by simp [hb]
      rw [List.mapM_cons]
      simp only [Sem.run_bind, resOne, hg]
      unfold Instr.loadAt at h4
      rw [Sem.run_bind] at h4
      rcases e with e | ⟨x, w', e⟩
      · rw [e]
        cases hs : (Instr.sureAddr p).run P w with
        | ok ad w1 =>
          rw [hs] at h4
          simp only [Result.andThen] at h4 ⊢
          rw [h4]
          simp only [Result.andThen, h1 w hw, Sem.run_pure]
        | halt x w1 => rw [hs] at h4; simp [Result.andThen] at h4
      · rw [e] at h4; simp [Result.andThen] at h4

theorem marks_shut {F : Fence} {m : Nat} {fn : Func} {tmps : Array Value} {R : Ending → World → Prop} : ∀ (D : List Nat) (T : State) (w0 w : World), Ext w0 w → Hold w (marksOf D ++ T) →
    (∀ w', Ext w0 w' → Hold w' T → ∃ v, (results fn tmps).run P w' = .ok v w' ∧ R (.returned v) w') → LeavesInM F m P fn tmps R (D.map markD) .returning w
  | [], T, w0, w, he, hw, h => by
    simp only [List.map_nil, LeavesInM, LeavesIn]
    exact h w he (by simpa [marksOf] using hw)
  | r :: D, T, w0, w, he, hw, h => by
    simp only [List.map_cons, LeavesInM]
    refine ⟨by simp, .inl ⟨r, w.putObj r (.deferred none), rfl, ?_, ?_⟩⟩
    · exact run_takeDeferred (hw.get r _ (by simp [marksOf]))
    · have hlt : r < w.heap.size := hw.lt (b := r) (o := .deferred (some [])) (by simp [marksOf])
      have hw' : Hold (w.putObj r (.deferred none)) ([(r, .deferred none)] :: (marksOf D ++ T)) :=
        (Upd.one (S := marksOf D ++ T)).hold (w := w) (by simpa [marksOf] using hw) (World.putObj_heap_same hlt) (fun k hk => World.putObj_heap_other hk)
      exact marks_shut D T w0 _ (he.trans ⟨rfl, rfl, rfl, by simp⟩) (hw'.sub (by simp)) h

theorem tupled_size (vs : List Value) : (if h : vs.toArray.size = 1 then vs.toArray[0] else .tuple vs.toArray) = tupled vs := by
  match vs with
  | [] => simp [tupled]
  | [v] => simp [tupled]
  | u :: v :: l => simp [tupled]

/-- A function's contract, from its body. -/
theorem spec_intro {f : FuncId} {fn : Func} {c : Code} {args : List Value} {A : State} {R : Value → State → Prop} (hf : P.funcs[f]? = some fn) (hb : fn.body = some c)
    (hn : (fn.name != "runtime.NumGoroutine") = true) (hl : args.length ≤ fn.ntmps) (h : ∀ F : Chunk, CodeW P fn.ntmps none c (RetK P fn.results.toList R F) [] (argsL 0 args) (F :: A)) : Meets P f args A R := by
  refine ⟨by simp [callable, hf, hb]; simpa using hn, fun F w hw => ?_⟩
  refine callsIn_of_wp_marks hf hb trivial (wpIn_mono ((h F).out { tmps := args.toArray ++ Array.replicate (fn.ntmps - args.toArray.size) undef, defers := [] } w ?_ hw) ?_)
  · refine ⟨by simp; omega, fun t v ht => ?_, rfl⟩
    have := look_argsL args 0 t v ht
    simp only [Nat.sub_zero] at this
    have hlt := (List.getElem?_eq_some_iff.1 this.2).1
    rw [Array.getElem?_append_left (by simpa using hlt)]
    simpa using this.2
  · intro e a w' hq
    obtain ⟨D, L, S, hk, hag, he, hh⟩ := hq
    have fin : (∃ S1, Take (marksOf D) S S1 ∧ resW P fn.results.toList L S1 fun vs => ∃ A', R (tupled vs) A' ∧ Among (F :: A') S1) →
        LeavesInM (FW none) 0 P fn a.tmps (EndsW w fun v S => ∃ A', S = F :: A' ∧ R v A') a.defers .returning w' := by
      rintro ⟨S1, ht, hr⟩
      rw [hag.marks]
      obtain ⟨vs, h1, A', hR, hs⟩ := resW_run hag _ _ hr
      refine marks_shut D S1 w w' he (hh.perm ht.perm) fun w'' he' hw'' => ⟨tupled vs, ?_, tupled vs, F :: A', rfl, he', hs.hold hw'', A', rfl, hR⟩
      have e0 : results fn a.tmps = (do let vs ← fn.results.mapM (resOne a.tmps); pure (if h : vs.size = 1 then vs[0] else .tuple vs)) := by
        unfold results
        have e : (fun (x : ResultVar) => (match x with | .tmp t => pure (a.tmps.getD t undef) | .cell b t => do loadVar t (← asAddr (a.tmps.getD b undef)) : Sem Value)) = resOne a.tmps := by
          funext x; cases x <;> rfl
        rw [← e]
        rfl
      rw [e0]
      have e1 : ∀ g : ResultVar → Sem Value, (fn.results.mapM g).run P w'' = ((fn.results.toList.mapM g).run P w'').andThen (fun l w => .ok l.toArray w) := by
        intro g
        rw [← Array.toArray_toList (xs := fn.results)]
        simp only [List.mapM_toArray]
        cases hx : (fn.results.toList.mapM g).run P w'' <;> simp_all [Result.andThen, Sem.run_map]
      simp only [Sem.run_bind]
      rw [e1, h1 w'' hw'']
      simp only [Result.andThen]
      rw [← tupled_size]
      rfl
    cases e with
    | normal => exact fin hk
    | ret => exact fin hk
    | exit id => exact hk.elim
    | goto l => exact hk.elim
    | panic ch => exact hk.elim
    | outgrown => exact hk.elim

end Go.Ost

/- The operations, one rule each: numbers, boxes, cells. Conditions: as each says. -/
set_option linter.unusedSimpArgs false
set_option linter.unusedVariables false
namespace Go.Ost
open Go

variable {P : Program}

/-! ### Pure operations -/

theorem pureW_eq {m : Sem Value} {v0 : Value} (h : ∀ w, m.run P w = .ok v0 w) (κ : Value → Prop) : PureW P m κ = κ v0 :=
  propext ⟨fun ⟨v, a, b⟩ => by have e := (a default).symm.trans (h default); cases e; exact b, fun k => ⟨v0, h, k⟩⟩

section ints
variable (t : TypeId) (x y : Operand) (k : IntKind) (a b : Int) (κ : Value → Prop)
theorem bin_add : PureW P (do eqGuard .add t x y (.int k a) (.int k b); binOp .add t (.int k a) (.int k b)) κ = κ (.int k (k.wrap (a + b))) :=
  pureW_eq (fun w => by simp [eqGuard, binOp, Op.intArith]) κ
theorem bin_sub : PureW P (do eqGuard .sub t x y (.int k a) (.int k b); binOp .sub t (.int k a) (.int k b)) κ = κ (.int k (k.wrap (a - b))) :=
  pureW_eq (fun w => by simp [eqGuard, binOp, Op.intArith]) κ
theorem bin_mul : PureW P (do eqGuard .mul t x y (.int k a) (.int k b); binOp .mul t (.int k a) (.int k b)) κ = κ (.int k (k.wrap (a * b))) :=
  pureW_eq (fun w => by simp [eqGuard, binOp, Op.intArith]) κ
theorem bin_quo (hb : b ≠ 0) : PureW P (do eqGuard .quo t x y (.int k a) (.int k b); binOp .quo t (.int k a) (.int k b)) κ = κ (.int k (k.wrap (a.tdiv b))) :=
  pureW_eq (fun w => by simp [eqGuard, binOp, Op.intDiv, hb]) κ
theorem bin_rem (hb : b ≠ 0) : PureW P (do eqGuard .rem t x y (.int k a) (.int k b); binOp .rem t (.int k a) (.int k b)) κ = κ (.int k (a.tmod b)) :=
  pureW_eq (fun w => by simp [eqGuard, binOp, Op.intDiv, hb]) κ
theorem bin_quo_pos (hb : b ≠ 0) (ha : 0 ≤ a) : PureW P (do eqGuard .quo t x y (.int k a) (.int k b); binOp .quo t (.int k a) (.int k b)) κ = κ (.int k (k.wrap (a / b))) := by
  rw [bin_quo t x y k a b κ hb, Int.tdiv_eq_ediv_of_nonneg ha]
theorem bin_rem_pos (hb : b ≠ 0) (ha : 0 ≤ a) : PureW P (do eqGuard .rem t x y (.int k a) (.int k b); binOp .rem t (.int k a) (.int k b)) κ = κ (.int k (a % b)) := by
  rw [bin_rem t x y k a b κ hb, Int.tmod_eq_emod_of_nonneg ha]
theorem bin_eql : PureW P (do eqGuard .eql t x y (.int k a) (.int k b); binOp .eql t (.int k a) (.int k b)) κ = κ (.bool (a == b)) :=
  pureW_eq (fun w => by simp [eqGuard, binOp, Op.intCmp]) κ
theorem bin_neq : PureW P (do eqGuard .neq t x y (.int k a) (.int k b); binOp .neq t (.int k a) (.int k b)) κ = κ (.bool (a != b)) :=
  pureW_eq (fun w => by simp [eqGuard, binOp, Op.intCmp]) κ
theorem bin_lss : PureW P (do eqGuard .lss t x y (.int k a) (.int k b); binOp .lss t (.int k a) (.int k b)) κ = κ (.bool (decide (a < b))) :=
  pureW_eq (fun w => by simp [eqGuard, binOp, Op.intCmp]) κ
theorem bin_leq : PureW P (do eqGuard .leq t x y (.int k a) (.int k b); binOp .leq t (.int k a) (.int k b)) κ = κ (.bool (decide (a ≤ b))) :=
  pureW_eq (fun w => by simp [eqGuard, binOp, Op.intCmp]) κ
theorem bin_gtr : PureW P (do eqGuard .gtr t x y (.int k a) (.int k b); binOp .gtr t (.int k a) (.int k b)) κ = κ (.bool (decide (b < a))) :=
  pureW_eq (fun w => by simp [eqGuard, binOp, Op.intCmp]) κ
theorem bin_geq : PureW P (do eqGuard .geq t x y (.int k a) (.int k b); binOp .geq t (.int k a) (.int k b)) κ = κ (.bool (decide (b ≤ a))) :=
  pureW_eq (fun w => by simp [eqGuard, binOp, Op.intCmp]) κ
end ints

theorem un_not (b : Bool) (κ : Value → Prop) : PureW P (Op.unary .not (.bool b)) κ = κ (.bool !b) := pureW_eq (fun w => by simp [Op.unary]) κ
theorem un_neg (k : IntKind) (a : Int) (κ : Value → Prop) : PureW P (Op.unary .neg (.int k a)) κ = κ (.int k (k.wrap (0 - a))) := pureW_eq (fun w => by simp [Op.unary, Op.intArith]) κ
theorem min_two (ats : Array TypeId) (t : TypeId) (k j : IntKind) (a b : Int) (κ : Value → Prop) :
    PureW P (Builtin.min_ ats t [.int k a, .int j b].toArray) κ = κ (.int k (if b < a then b else a)) := pureW_eq (fun w => by simp [Builtin.min_, Builtin.min2]) κ
theorem max_two (ats : Array TypeId) (t : TypeId) (k j : IntKind) (a b : Int) (κ : Value → Prop) :
    PureW P (Builtin.max_ ats t [.int k a, .int j b].toArray) κ = κ (.int k (if a < b then b else a)) := pureW_eq (fun w => by simp [Builtin.max_, Builtin.max2]) κ

/-! ### Wraps that do nothing -/

theorem wrap_i64 {n : Int} (h1 : -9223372036854775808 ≤ n) (h2 : n ≤ 9223372036854775807) : IntKind.i64.wrap n = n := by
  show (if (decide (n % (2 ^ 64 : Int) ≥ (2 ^ 63 : Int))) = true then n % (2 ^ 64 : Int) - (2 ^ 64 : Int) else n % (2 ^ 64 : Int)) = n
  simp only [decide_eq_true_eq]
  split <;> omega
theorem wrap_u64 {n : Int} (h1 : 0 ≤ n) (h2 : n ≤ 18446744073709551615) : IntKind.u64.wrap n = n := by
  show n % (2 ^ 64 : Int) = n
  omega
theorem wrap_i32 {n : Int} (h1 : -2147483648 ≤ n) (h2 : n ≤ 2147483647) : IntKind.i32.wrap n = n := by
  show (if (decide (n % (2 ^ 32 : Int) ≥ (2 ^ 31 : Int))) = true then n % (2 ^ 32 : Int) - (2 ^ 32 : Int) else n % (2 ^ 32 : Int)) = n
  simp only [decide_eq_true_eq]
  split <;> omega
theorem wrap_u32 {n : Int} (h1 : 0 ≤ n) (h2 : n ≤ 4294967295) : IntKind.u32.wrap n = n := by
  show n % (2 ^ 32 : Int) = n
  omega
theorem wrap_u16 {n : Int} (h1 : 0 ≤ n) (h2 : n ≤ 65535) : IntKind.u16.wrap n = n := by
  show n % (2 ^ 16 : Int) = n
  omega
theorem wrap_u8 {n : Int} (h1 : 0 ≤ n) (h2 : n ≤ 255) : IntKind.u8.wrap n = n := by
  show n % (2 ^ 8 : Int) = n
  omega

/-! ### What a type is -/

class TInt (P : Program) (t : TypeId) (k : outParam IntKind) : Prop where
  und : P.underlying t = some (.int k)
class TStr (P : Program) (t : TypeId) : Prop where
  und : P.underlying t = some .string
class TSlice (P : Program) (t : TypeId) (e : outParam TypeId) : Prop where
  und : P.underlying t = some (.slice e)
class TStruct (P : Program) (t : TypeId) (fs : outParam (Array Field)) : Prop where
  und : P.underlying t = some (.struct fs)
class TArr (P : Program) (t : TypeId) (n : outParam Nat) (e : outParam TypeId) : Prop where
  und : P.underlying t = some (.array n e)
class TPtr (P : Program) (t : TypeId) (e : outParam TypeId) : Prop where
  und : P.underlying t = some (.pointer e)
class TMap (P : Program) (t : TypeId) (k e : outParam TypeId) : Prop where
  und : P.underlying t = some (.map k e)
class TBool (P : Program) (t : TypeId) : Prop where
  und : P.underlying t = some .bool
/-- Field i of a struct type: where it lies, its type. (No field without cells.) -/
def fieldB (P : Program) (s i off ft : Nat) : Bool :=
  match P.underlying s with
  | some (.struct fs) =>
    match fs[i]? with
    | some f => f.offset == off && f.type == ft && (match P.info? ft with | some j => j.size != 0 | none => false)
    | none => false
  | _ => false
class TField (P : Program) (s i : Nat) (off ft : outParam Nat) : Prop where
  ok : fieldB P s i off ft = true
/-- The type's zero value, its cells, its bytes. -/
class TSized (P : Program) (t : TypeId) (z : outParam Value) (s by_ : outParam Nat) : Prop where
  info : (P.info? t).map (fun i => (i.zero, i.size, i.bytes)) = some (some z, s, by_)
class TFlat (P : Program) (t : TypeId) : Prop where
  und : (match P.underlying t with | some (.struct _) | some (.array _ _) | none => false | _ => true) = true
class TDeep (P : Program) (t : TypeId) : Prop where
  und : (match P.underlying t with | some (.struct _) | some (.array _ _) => true | _ => false) = true

variable {t e : TypeId} {z : Value} {s by_ : Nat}

theorem run_und {d : TypeDesc} (h : P.underlying t = some d) (w : World) : (underlying t).run P w = .ok d w := by
  simp [underlying, program, Sem.run_bind, Sem.run, h, Result.andThen]
theorem sized_parts (h : (P.info? t).map (fun i => (i.zero, i.size, i.bytes)) = some (some z, s, by_)) :
    ∃ i, P.info? t = some i ∧ i.zero = some z ∧ i.size = s ∧ i.bytes = by_ := by
  cases hi : P.info? t with
  | none => simp [hi] at h
  | some i => simp [hi] at h; exact ⟨i, rfl, h⟩
theorem run_size (h : TSized P t z s by_) (w : World) : (sizeOf t).run P w = .ok s w := by
  obtain ⟨i, hi, _, h2, _⟩ := sized_parts h.info
  simp [sizeOf, typeInfo, program, Sem.run_bind, Sem.run, hi, h2, Result.andThen]
theorem run_zero (h : TSized P t z s by_) (w : World) : (zeroValue t).run P w = .ok z w := by
  obtain ⟨i, hi, h1, _, _⟩ := sized_parts h.info
  simp [zeroValue, typeInfo, program, Sem.run_bind, Sem.run, hi, h1, Result.andThen]
theorem run_isAgg_flat (h : TFlat P t) (w : World) : (isAgg t).run P w = .ok false w := by
  have := h.und
  cases hu : P.underlying t with
  | none => simp [hu] at this
  | some d =>
    rw [isAgg, Sem.run_bind, run_und hu]
    rw [hu] at this
    cases d <;> simp_all [Result.andThen]
theorem run_isAgg_deep (h : TDeep P t) (w : World) : (isAgg t).run P w = .ok true w := by
  have := h.und
  cases hu : P.underlying t with
  | none => simp [hu] at this
  | some d =>
    rw [isAgg, Sem.run_bind, run_und hu]
    rw [hu] at this
    cases d <;> simp_all [Result.andThen]

theorem conv_int {src dst : TypeId} {j k : IntKind} {i : IntKind} [hs : TInt P src j] [hd : TInt P dst k] (n : Int) (κ : Value → Prop) :
    PureW P (convert src dst (.int i n)) κ = κ (.int k (k.wrap n)) :=
  pureW_eq (fun w => by simp [convert, Sem.run_bind, run_und hs.und, run_und hd.und, Result.andThen, Conv.intToInt]) κ

/-! ### Cells -/

theorem add_mk (b o n : Nat) : (Addr.mk b o none).add n = ⟨b, o + n, none⟩ := by
  unfold Addr.add; split
  · subst_vars; simp
  · rfl

theorem cell_of {w : World} {b o : Nat} {cs : Array Value} {m : Nat × Nat} (h : w.heap[b]? = some (.cells cs e m)) : w.cell? ⟨b, o, none⟩ = cs[o]? := by
  simp [World.cell?, h]
theorem frozen_of {w : World} {b o : Nat} {cs : Array Value} {lo hi : Nat} (h : w.heap[b]? = some (.cells cs e (lo, hi))) : w.frozen? ⟨b, o, none⟩ = (decide (lo ≤ o) && decide (o < hi)) := by
  simp [World.frozen?, h]
theorem set_heap {w : World} {b o : Nat} {cs : Array Value} {m : Nat × Nat} (h : w.heap[b]? = some (.cells cs e m)) (v : Value) :
    (w.setCell ⟨b, o, none⟩ v).heap[b]? = some (.cells (cs.setIfInBounds o v) e m) ∧ ∀ k, k ≠ b → (w.setCell ⟨b, o, none⟩ v).heap[k]? = w.heap[k]? := by
  simp only [World.setCell, Array.getElem?_modify]
  refine ⟨by simp [h], fun k hk => by rw [if_neg (Ne.symm hk)]⟩

theorem run_load {w : World} {a : Addr} {v : Value} (h : w.cell? a = some v) : (load a).run P w = .ok v w := by simp [load, Sem.run, h]

theorem run_loadCells {w : World} {b : Nat} {cs : Array Value} {m : Nat × Nat} (h : w.heap[b]? = some (.cells cs e m)) (o : Nat) : ∀ (n i : Nat) (acc : Array Value), o + i + n ≤ cs.size →
    (loadCellsFrom ⟨b, o, none⟩ i n acc).run P w = .ok (acc ++ cs.extract (o + i) (o + i + n)) w
  | 0, i, acc, _ => by simp [loadCellsFrom]; omega
  | n + 1, i, acc, hle => by
    have hlt : o + i < cs.size := by omega
    rw [loadCellsFrom, add_mk, Sem.run_bind, run_load (v := cs[o + i]) (by rw [cell_of h]; simp [hlt])]
    simp only [Result.andThen]
    rw [run_loadCells h o n (i + 1) _ (by omega)]
    congr 1
    rw [show o + (i + 1) = o + i + 1 from by omega, show o + i + 1 + n = o + i + (n + 1) from by omega]
    apply Array.ext'
    simp only [Array.toList_append, Array.toList_push, Array.toList_extract, List.append_assoc, List.extract_eq_take_drop]
    congr 1
    rw [show o + i + (n + 1) - (o + i) = n + 1 from by omega, show o + i + (n + 1) - (o + i + 1) = n from by omega]
    rw [List.drop_eq_getElem_cons (l := cs.toList) (i := o + i) (by simpa using hlt), List.take_succ_cons]
    simp

theorem load_one {S : State} {κ : Value → Prop} {b o : Nat} {cs : Array Value} {m : Nat × Nat} {v : Value} [hf : TFlat P t] (hl : Lies b (.cells cs e m) S) (hv : cs[o]? = some v) (k : κ v) :
    ReadW P (Instr.loadAt t (.pointer (some ⟨b, o, none⟩))) S κ := by
  refine ⟨v, fun w hw => ?_, k⟩
  have hc := hl.get hw
  simp [Instr.loadAt, Instr.sureAddr, loadVar, Sem.run_bind, run_isAgg_flat hf, Result.andThen, run_load (P := P) (w := w) (a := ⟨b, o, none⟩) (v := v) (by rw [cell_of hc]; exact hv)]
theorem load_box {S : State} {κ : Value → Prop} {b : Nat} {m : Nat × Nat} {v : Value} [hf : TFlat P t] (hl : Lies b (.cells #[v] e m) S) (k : κ v) :
    ReadW P (Instr.loadAt t (.pointer (some ⟨b, 0, none⟩))) S κ := load_one hl rfl k
theorem load_agg {S : State} {κ : Value → Prop} {b o : Nat} {cs : Array Value} {m : Nat × Nat} [hf : TDeep P t] [hs : TSized P t z s by_] (hl : Lies b (.cells cs e m) S) (hv : o + s ≤ cs.size)
    (k : κ (.agg (cs.extract o (o + s)))) : ReadW P (Instr.loadAt t (.pointer (some ⟨b, o, none⟩))) S κ := by
  refine ⟨_, fun w hw => ?_, k⟩
  have hc := hl.get hw
  simp [Instr.loadAt, Instr.sureAddr, loadVar, Sem.run_bind, run_isAgg_deep hf, run_size hs, Result.andThen, loadCells, run_loadCells (P := P) hc o s 0 #[] (by omega)]

def setCells (cs : Array Value) (o : Nat) : List Value → Array Value
  | [] => cs
  | v :: l => setCells (cs.setIfInBounds o v) (o + 1) l
theorem setCells_size : ∀ (l : List Value) (cs : Array Value) (o : Nat), (setCells cs o l).size = cs.size
  | [], _, _ => rfl
  | v :: l, cs, o => by simp [setCells, setCells_size l]

/-- A value that one cell holds. -/
def Value.cell1 : Value → Prop
  | .agg _ | .tuple _ => False
  | _ => True

theorem run_store {w : World} {a : Addr} {v u : Value} (hv : Value.cell1 v) (h : w.cell? a = some u) (hf : w.frozen? a = false) : (store a v).run P w = .ok () (w.setCell a v) := by
  cases v <;> first | exact hv.elim | simp [store, Sem.run, h, hf]

theorem ext_set (w : World) (a : Addr) (v : Value) : Ext w (w.setCell a v) := ⟨rfl, rfl, rfl, by simp [World.setCell]⟩

theorem run_storeCells {b o : Nat} {lo hi : Nat} : ∀ (l : List Value) (i : Nat) (w : World) (cs : Array Value), w.heap[b]? = some (.cells cs e (lo, hi)) → (∀ v ∈ l, Value.cell1 v) → o + i + l.length ≤ cs.size → (hi ≤ lo ∨ cs.size ≤ lo) →
    ∃ w', (storeCells ⟨b, o, none⟩ l i).run P w = .ok () w' ∧ Ext w w' ∧ w'.heap[b]? = some (.cells (setCells cs (o + i) l) e (lo, hi)) ∧ ∀ k, k ≠ b → w'.heap[k]? = w.heap[k]?
  | [], i, w, cs, h, _, _, _ => ⟨w, rfl, Ext.refl w, h, fun _ _ => rfl⟩
  | v :: l, i, w, cs, h, hv, hle, hm => by
    have hlt : o + i < cs.size := by simp at hle; omega
    have hs := set_heap (o := o + i) h v
    obtain ⟨w', h1, h2, h3, h4⟩ := run_storeCells (o := o) l (i + 1) (w.setCell ⟨b, o + i, none⟩ v) (cs.setIfInBounds (o + i) v) hs.1 (fun u hu => hv u (List.mem_cons_of_mem _ hu)) (by simp at hle ⊢; omega) (by simpa using hm)
    refine ⟨w', ?_, (ext_set _ _ _).trans h2, h3, fun k hk => (h4 k hk).trans (hs.2 k hk)⟩
    rw [storeCells, add_mk, Sem.run_bind, run_store (u := cs[o + i]) (hv v (List.mem_cons_self ..)) (by rw [cell_of h]; simp [hlt]) (by rw [frozen_of h]; simp; omega)]
    exact h1

theorem store_one {S S' : State} {κ : State → Prop} {b o : Nat} {cs : Array Value} {v : Value} [hs : TSized P t z 1 by_] (hc : Value.cell1 v) (hu : Upd b (.cells cs e (0, 0)) (.cells (cs.setIfInBounds o v) e (0, 0)) S S')
    (ho : o < cs.size) (k : κ S') : UnitW P (Instr.storeAt t (.pointer (some ⟨b, o, none⟩)) v) S κ := by
  refine ⟨fun w hw => ?_⟩
  have hg := hu.get hw
  obtain ⟨w', h1, h2, h3, h4⟩ := run_storeCells (P := P) (b := b) (o := o) [v] 0 w cs hg (fun u hm => by simp at hm; subst hm; exact hc) (by simp; omega) (.inl (Nat.le_refl _))
  refine ⟨w', S', ?_, h2, hu.hold hw h3 h4, k⟩
  have hcs : v.cells = #[v] := by cases v <;> first | exact hc.elim | rfl
  simp [Instr.storeAt, Instr.sureAddr, storeVar, Sem.run_bind, run_size hs, Result.andThen, hcs, h1]
theorem store_box {S S' : State} {κ : State → Prop} {b : Nat} {u v : Value} [hs : TSized P t z 1 by_] (hc : Value.cell1 v) (hu : Upd b (.cells #[u] e (0, 0)) (.cells #[v] e (0, 0)) S S')
    (k : κ S') : UnitW P (Instr.storeAt t (.pointer (some ⟨b, 0, none⟩)) v) S κ := store_one (cs := #[u]) hc hu (by simp) k
theorem store_agg {S S' : State} {κ : State → Prop} {b o : Nat} {cs : Array Value} {vs : Array Value} [hs : TSized P t z s by_] (hz : vs.size = s) (hc : ∀ v ∈ vs.toList, Value.cell1 v)
    (hu : Upd b (.cells cs e (0, 0)) (.cells (setCells cs o vs.toList) e (0, 0)) S S') (ho : o + s ≤ cs.size) (k : κ S') : UnitW P (Instr.storeAt t (.pointer (some ⟨b, o, none⟩)) (.agg vs)) S κ := by
  refine ⟨fun w hw => ?_⟩
  have hg := hu.get hw
  obtain ⟨w', h1, h2, h3, h4⟩ := run_storeCells (P := P) (b := b) (o := o) vs.toList 0 w cs hg hc (by simp [hz]; omega) (.inl (Nat.le_refl _))
  refine ⟨w', S', ?_, h2, hu.hold hw h3 h4, k⟩
  simp [Instr.storeAt, Instr.sureAddr, storeVar, Sem.run_bind, run_size hs, Result.andThen, Value.cells, h1, hz]

theorem ext_push {w w' : World} {o : Obj} (h : w' = { w with heap := w.heap.push o }) : Ext w w' := by subst h; exact ⟨rfl, rfl, rfl, by simp⟩

/-- A new variable. -/
theorem alloc_new {S : State} {κ : Value → State → Prop} [hs : TSized P t z s by_] (k : ∀ b : Nat, κ (.pointer (some ⟨b, 0, none⟩)) ([(b, .cells z.cells t (0, 0))] :: S)) :
    ValW P (Instr.alloc t true (.tuple #[])) S κ := by
  refine ⟨fun w hw => ?_⟩
  refine ⟨.pointer (some ⟨w.heap.size, 0, none⟩), { w with heap := w.heap.push (.cells z.cells t) }, _, ?_, ext_push rfl, hw.new rfl, k _⟩
  simp [Instr.alloc, Sem.run_bind, run_zero hs, Result.andThen, newVar, newRow, newObj, Sem.run]
theorem box_new {S : State} {κ : Value → State → Prop} {v : Value} (k : ∀ b : Nat, κ (.pointer (some ⟨b, 0, none⟩)) ([(b, .cells v.cells t (0, 0))] :: S)) :
    ValW P (Instr.box t v) S κ := by
  refine ⟨fun w hw => ?_⟩
  refine ⟨.pointer (some ⟨w.heap.size, 0, none⟩), { w with heap := w.heap.push (.cells v.cells t) }, _, ?_, ext_push rfl, hw.new rfl, k _⟩
  simp [Instr.box, Sem.run_bind, Result.andThen, newVar, newRow, newObj, Sem.run]


theorem field_parts {s i off ft : Nat} (h : fieldB P s i off ft = true) :
    ∃ fs f, P.underlying s = some (.struct fs) ∧ fs[i]? = some f ∧ f.offset = off ∧ f.type = ft ∧ ∃ j, P.info? ft = some j ∧ j.size ≠ 0 := by
  unfold fieldB at h
  split at h
  · rename_i fs hu
    split at h
    · rename_i f hf
      simp only [Bool.and_eq_true, beq_iff_eq] at h
      obtain ⟨⟨h1, h2⟩, h3⟩ := h
      split at h3
      · rename_i j hj
        exact ⟨fs, f, hu, hf, h1, h2, j, hj, by simpa using h3⟩
      · cases h3
    · cases h
  · cases h

theorem field_addr {s i off ft b o : Nat} {κ : Value → Prop} [h : TField P s i off ft] :
    PureW P (Instr.fieldAt s (.pointer (some ⟨b, o, none⟩)) i) κ = κ (.pointer (some ⟨b, o + off, none⟩)) :=
  pureW_eq (fun w => by
    obtain ⟨fs, f, hu, hf, h1, h2, j, hj, hz⟩ := field_parts h.ok
    have hs : (sizeOf f.type).run P w = .ok j.size w := by
      rw [h2]; simp [sizeOf, typeInfo, program, Sem.run_bind, Sem.run, hj, Result.andThen]
    simp only [Instr.fieldAt, Sem.run_bind, run_und hu, Result.andThen, hf, Instr.sureAddr, Sem.run_pure, fieldPlace, hs]
    rw [if_neg hz]
    simp [add_mk, h1, Result.andThen]) κ

theorem equal_ptr_nil {t e : TypeId} (h : TPtr P t e) (d : Nat) (a : Option Addr) (w : World) : (Op.equalIn (d + 1) t (.pointer a) (.pointer none)).run P w = .ok a.isNone w := by
  rw [Op.equalIn, Sem.run_bind, run_und h.und]
  cases a <;> rfl
theorem equal_bool {t : TypeId} (h : TBool P t) (d : Nat) (a b : Bool) (w : World) : (Op.equalIn (d + 1) t (.bool a) (.bool b)).run P w = .ok (a == b) w := by
  rw [Op.equalIn, Sem.run_bind, run_und h.und]
  rfl
theorem nil_eql {t e : TypeId} {x y : Operand} {κ : Value → Prop} [h : TPtr P t e] (a : Option Addr) :
    PureW P (do eqGuard .eql t x y (.pointer a) (.pointer none); binOp .eql t (.pointer a) (.pointer none)) κ = κ (.bool a.isNone) :=
  pureW_eq (fun w => by
    have e : (do eqGuard .eql t x y (.pointer a) (.pointer none); binOp .eql t (.pointer a) (.pointer none) : Sem Value) = (do pure (.bool (← Op.equalIn (9999 + 1) t (.pointer a) (.pointer none)))) := by
      cases a <;> rfl
    rw [e, Sem.run_bind, equal_ptr_nil h]; rfl) κ
theorem nil_neq {t e : TypeId} {x y : Operand} {κ : Value → Prop} [h : TPtr P t e] (a : Option Addr) :
    PureW P (do eqGuard .neq t x y (.pointer a) (.pointer none); binOp .neq t (.pointer a) (.pointer none)) κ = κ (.bool a.isSome) :=
  pureW_eq (fun w => by
    have e : (do eqGuard .neq t x y (.pointer a) (.pointer none); binOp .neq t (.pointer a) (.pointer none) : Sem Value) = (do pure (.bool (!(← Op.equalIn (9999 + 1) t (.pointer a) (.pointer none))))) := by
      cases a <;> rfl
    rw [e, Sem.run_bind, equal_ptr_nil h]; cases a <;> rfl) κ
theorem bool_eql {t : TypeId} {x y : Operand} {κ : Value → Prop} [h : TBool P t] (a b : Bool) :
    PureW P (do eqGuard .eql t x y (.bool a) (.bool b); binOp .eql t (.bool a) (.bool b)) κ = κ (.bool (a == b)) :=
  pureW_eq (fun w => by
    have e : (do eqGuard .eql t x y (.bool a) (.bool b); binOp .eql t (.bool a) (.bool b) : Sem Value) = (do pure (.bool (← Op.equalIn (9999 + 1) t (.bool a) (.bool b)))) := rfl
    rw [e, Sem.run_bind, equal_bool h]; rfl) κ
theorem bool_neq {t : TypeId} {x y : Operand} {κ : Value → Prop} [h : TBool P t] (a b : Bool) :
    PureW P (do eqGuard .neq t x y (.bool a) (.bool b); binOp .neq t (.bool a) (.bool b)) κ = κ (.bool (a != b)) :=
  pureW_eq (fun w => by
    have e : (do eqGuard .neq t x y (.bool a) (.bool b); binOp .neq t (.bool a) (.bool b) : Sem Value) = (do pure (.bool (!(← Op.equalIn (9999 + 1) t (.bool a) (.bool b))))) := rfl
    rw [e, Sem.run_bind, equal_bool h]; rfl) κ

theorem len_slice {ats : Array TypeId} {t u e : TypeId} {a : Option Addr} {n c : Nat} {κ : Value → Prop} (ha : ats[0]? = some t) [h : TSlice P t e] :
    PureW P (Builtin.len_ ats u #[.slice a n c]) κ = κ (.int .i64 n) :=
  pureW_eq (fun w => by simp [Builtin.len_, ha, Sem.run_bind, run_und h.und, Result.andThen, goInt]) κ
theorem len_string {ats : Array TypeId} {t u : TypeId} {s : ByteArray} {κ : Value → Prop} (ha : ats[0]? = some t) [h : TStr P t] :
    PureW P (Builtin.len_ ats u #[.string s]) κ = κ (.int .i64 s.size) :=
  pureW_eq (fun w => by simp [Builtin.len_, ha, Sem.run_bind, run_und h.und, Result.andThen, goInt]) κ

theorem len_slice1 {t u e : TypeId} {a : Option Addr} {n c : Nat} {κ : Value → Prop} [h : TSlice P t e] : PureW P (Builtin.len_ #[t] u #[.slice a n c]) κ = κ (.int .i64 n) := len_slice (h := h) rfl
theorem len_string1 {t u : TypeId} {s : ByteArray} {κ : Value → Prop} [h : TStr P t] : PureW P (Builtin.len_ #[t] u #[.string s]) κ = κ (.int .i64 s.size) := len_string (h := h) rfl

/-- An element's place. -/
theorem index_addr {t e : TypeId} {z : Value} {s by_ b o n c : Nat} {k : IntKind} {i : Int} {κ : Value → Prop} [h : TSlice P t e] [hs : TSized P e z s by_] (h0 : 0 ≤ i) (h1 : i < n) :
    PureW P (Instr.indexAt t (.slice (some ⟨b, o, none⟩) n c) (.int k i)) κ = κ (.pointer (some ⟨b, o + i.toNat * s, none⟩)) :=
  pureW_eq (fun w => by
    simp [Instr.indexAt, asIntOf, Sem.run_bind, run_und h.und, Result.andThen, run_size hs, h0, h1, add_mk]) κ

theorem arr_addr {t e n : Nat} {z : Value} {s by_ b o : Nat} {k : IntKind} {i : Int} {κ : Value → Prop} [h : TArr P t n e] [hs : TSized P e z s by_] (h0 : 0 ≤ i) (h1 : i < n) :
    PureW P (Instr.indexAt t (.pointer (some ⟨b, o, none⟩)) (.int k i)) κ = κ (.pointer (some ⟨b, o + i.toNat * s, none⟩)) :=
  pureW_eq (fun w => by
    simp [Instr.indexAt, asIntOf, Sem.run_bind, run_und h.und, Result.andThen, run_size hs, h0, h1, add_mk, Instr.sureAddr]) κ
theorem arr_index {t e n : Nat} {z : Value} {by_ : Nat} {k : IntKind} {i : Int} {cs : Array Value} {v : Value} {κ : Value → Prop} [h : TArr P t n e] [hs : TSized P e z 1 by_] [hf : TFlat P e] (h0 : 0 ≤ i) (h1 : i < n) (hv : cs[i.toNat]? = some v) :
    PureW P (Instr.index t (.agg cs) (.int k i)) κ = κ v :=
  pureW_eq (fun w => by
    simp [Instr.index, asIntOf, Sem.run_bind, run_und h.und, Result.andThen, run_size hs, h0, h1, part, run_isAgg_flat hf, hv]) κ

/-- An array written out. -/
theorem build_arr {t e n : Nat} {z z' : Value} {s by_ s' by' : Nat} {ps : List (Nat × Value)} {cs : Array Value} {κ : Value → Prop} [h : TArr P t n e] [hs : TSized P t z s by_] [he : TSized P e z' s' by']
    (hf : Instr.fill (fun i => some (i * s', s')) z.cells ps = some cs) : PureW P (Instr.build t ps.toArray) κ = κ (.agg cs) :=
  pureW_eq (fun w => by
    simp [Instr.build, Sem.run_bind, run_und h.und, run_zero hs, run_size he, Result.andThen, hf]) κ
/-- A structure written out. -/
def placesB (P : Program) (t : TypeId) (pl : List (Nat × Nat)) : Bool :=
  match P.underlying t with
  | some (.struct fs) => fs.toList.map (fun f => (f.offset, (P.info? f.type).map (·.size))) == pl.map fun p => (p.1, some p.2)
  | _ => false
class TPlaces (P : Program) (t : TypeId) (pl : outParam (List (Nat × Nat))) : Prop where
  ok : placesB P t pl = true
theorem build_struct {t : Nat} {z : Value} {s by_ : Nat} {pl : List (Nat × Nat)} {ps : List (Nat × Value)} {cs : Array Value} {κ : Value → Prop} [h : TPlaces P t pl] [hs : TSized P t z s by_]
    (hf : Instr.fill (pl[·]?) z.cells ps = some cs) : PureW P (Instr.build t ps.toArray) κ = κ (.agg cs) := by
  refine pureW_eq (fun w => ?_) κ
  have hk := h.ok
  unfold placesB at hk
  split at hk
  · rename_i fs hu
    have hk := eq_of_beq hk
    have key : ∀ (g : Field → Sem (Nat × Nat)), (∀ f s, (P.info? f.type).map (·.size) = some s → (g f).run P w = .ok (f.offset, s) w) → ∀ (l : List Field) (pl : List (Nat × Nat)),
        l.map (fun f => (f.offset, (P.info? f.type).map (·.size))) = pl.map (fun p => (p.1, some p.2)) → (l.mapM g).run P w = .ok pl w := by
      intro g hg l
      induction l with
      | nil => intro pl h; cases pl with
        | nil => rfl
        | cons p pl => simp at h
      | cons f l ih => intro pl h; cases pl with
        | nil => simp at h
        | cons p pl =>
          simp only [List.map_cons, List.cons.injEq, Prod.mk.injEq] at h
          obtain ⟨⟨h1, h2⟩, h3⟩ := h
          rw [List.mapM_cons, Sem.run_bind, hg f p.2 h2]
          simp only [Result.andThen]
          rw [Sem.run_bind, ih pl h3]
          simp only [Result.andThen]
          rw [h1]; rfl
    have hm : ∀ (g : Field → Sem (Nat × Nat)), (∀ f s, (P.info? f.type).map (·.size) = some s → (g f).run P w = .ok (f.offset, s) w) → (fs.mapM g).run P w = .ok pl.toArray w := by
      intro g hg
      rw [Array.mapM_eq_mapM_toList]
      show ((fs.toList.mapM g >>= fun x => pure x.toArray : Sem (Array (Nat × Nat)))).run P w = _
      rw [Sem.run_bind, key g hg fs.toList pl hk]
      rfl
    unfold Instr.build
    rw [Sem.run_bind, run_zero hs]
    simp only [Result.andThen]
    rw [Sem.run_bind, run_und hu]
    simp only [Result.andThen]
    rw [Sem.run_bind, hm _ (fun f s hfs => by
      rw [Option.map_eq_some_iff] at hfs
      obtain ⟨i, hi, hi2⟩ := hfs
      simp [sizeOf, typeInfo, program, Sem.run_bind, Sem.run, hi, hi2, Result.andThen])]
    simp only [Result.andThen]
    have e : (fun i : Nat => pl.toArray[i]?) = (fun i : Nat => pl[i]?) := by funext i; simp
    rw [e, hf]
    rfl
  · cases hk

end Go.Ost

/- Slices: what is read of one, what is one's own, and the operations on them. Conditions: as each says. -/
set_option linter.unusedSimpArgs false
set_option linter.unusedVariables false
namespace Go.Ost
open Go

variable {P : Program}

/-- The slice (a, len) of elements of s cells reads as these cells. -/
def Rd (s : Nat) (S : State) (a : Option Addr) (len : Nat) (us : List Value) : Prop :=
  us.length = len * s ∧ (us ≠ [] → ∃ b o cs e m, a = some ⟨b, o, none⟩ ∧ Lies b (.cells cs e m) S ∧ ∀ i, i < us.length → cs[o + i]? = us[i]?)
/-- No cell of so many is frozen. -/
def Soft (n : Nat) (m : Nat × Nat) : Prop := m.1 = m.2 ∨ n ≤ m.1
theorem Soft.or {n : Nat} {m : Nat × Nat} (h : Soft n m) : m.2 ≤ m.1 ∨ n ≤ m.1 := h.imp (fun e => Nat.le_of_eq e.symm) id
/-- The slice's block is the chunk C alone, and what lies behind its length is free. -/
def Own (s : Nat) (e : TypeId) (C : Chunk) (a : Option Addr) (len cap : Nat) (us : List Value) : Prop :=
  len ≤ cap ∧ cap ≤ maxLen ∧ us.length = len * s ∧ ((cap = 0 ∧ C = []) ∨ ∃ b o cs m, a = some ⟨b, o, none⟩ ∧ C = [(b, .cells cs e m)] ∧ Soft cs.size m ∧ o + cap * s ≤ cs.size ∧ ∀ i, i < us.length → cs[o + i]? = us[i]?)

theorem Lies.of_mem {b : Nat} {o : Obj} {C : Chunk} (h : (b, o) ∈ C) : ∀ {S : State}, C ∈ S → Lies b o S
  | [], hC => by cases hC
  | D :: S, hC => by
    rcases List.mem_cons.1 hC with rfl | hC
    · exact .here h
    · exact .next (Lies.of_mem h hC)
theorem Own.rd {s : Nat} {e : TypeId} {C : Chunk} {a : Option Addr} {len cap : Nat} {us : List Value} (h : Own s e C a len cap us) {S : State} (hC : C ∈ S) : Rd s S a len us := by
  obtain ⟨h1, _, h3, h4⟩ := h
  refine ⟨h3, fun hne => ?_⟩
  rcases h4 with ⟨h5, _⟩ | ⟨b, o, cs, m, rfl, rfl, _, _, h6⟩
  · have : len = 0 := by omega
    subst this
    rw [Nat.zero_mul] at h3
    exact absurd (List.length_eq_zero_iff.1 h3) hne
  · exact ⟨b, o, cs, e, _, rfl, Lies.of_mem (List.mem_singleton.2 rfl) hC, h6⟩
theorem Rd.next {s : Nat} {S : State} {a : Option Addr} {len : Nat} {us : List Value} (h : Rd s S a len us) (C : Chunk) : Rd s (C :: S) a len us :=
  ⟨h.1, fun hne => let ⟨b, o, cs, e, m, h1, h2, h3⟩ := h.2 hne; ⟨b, o, cs, e, m, h1, h2.next, h3⟩⟩
theorem Rd.nil {s : Nat} {S : State} {a : Option Addr} : Rd s S a 0 [] := ⟨by simp, fun h => absurd rfl h⟩

theorem rd_first {s : Nat} {S : State} {a : Option Addr} {len c : Nat} {us : List Value} (h : Rd s S a len us) {w : World} (hw : Hold w S) :
    (Builtin.firstCells s len (.slice a len c)).run P w = .ok us.toArray w := by
  obtain ⟨h1, h2⟩ := h
  by_cases hne : us = []
  · subst hne
    have : len * s = 0 := by simpa using h1.symm
    cases a with
    | none => rfl
    | some a => simp [Builtin.firstCells, this, loadCells, loadCellsFrom]
  · obtain ⟨b, o, cs, e, m, rfl, hl, hc⟩ := h2 hne
    have hb := hl.get hw
    have hsz : o + us.length ≤ cs.size := by
      have hpos : 0 < us.length := List.length_pos_iff.2 hne
      have := hc (us.length - 1) (by omega)
      rw [List.getElem?_eq_getElem (by omega)] at this
      have := (Array.getElem?_eq_some_iff.1 this).1
      omega
    simp only [Builtin.firstCells, loadCells]
    rw [run_loadCells (P := P) hb o (len * s) 0 #[] (by rw [← h1]; omega), ← h1]
    congr 1
    apply Array.ext_getElem?
    intro i
    simp only [Nat.add_zero, Array.empty_append]
    rw [Array.getElem?_extract]
    by_cases hi : i < us.length
    · rw [if_pos (by omega), hc i hi]; simp
    · rw [if_neg (by omega)]; simp; omega

theorem get_setCells : ∀ (l : List Value) (cs : Array Value) (o i : Nat), o + l.length ≤ cs.size → (setCells cs o l)[i]? = if o ≤ i ∧ i < o + l.length then l[i - o]? else cs[i]?
  | [], cs, o, i, _ => by rw [if_neg (by rintro ⟨h1, h2⟩; simp at h2; omega)]; rfl
  | v :: l, cs, o, i, h => by
    simp only [List.length_cons] at h ⊢
    rw [setCells, get_setCells l _ (o + 1) i (by simp; omega)]
    by_cases h1 : o + 1 ≤ i ∧ i < o + 1 + l.length
    · rw [if_pos h1, if_pos (by omega), show i - o = i - (o + 1) + 1 from by omega, List.getElem?_cons_succ]
    · rw [if_neg h1]
      by_cases h2 : i = o
      · subst h2
        rw [if_pos (by omega), Array.getElem?_setIfInBounds_self]
        rw [if_pos (by omega)]; simp
      · rw [if_neg (by omega), Array.getElem?_setIfInBounds_ne (by omega)]

/-- append, onto one's own. -/
theorem append_own {t t2 ty e e2 : TypeId} {z : Value} {s by_ : Nat} [ht : TSlice P t e] [ht2 : TSlice P t2 e2] [hs : TSized P e z s by_] (hz : z.cells.size = s) (h0 : 0 < s) {S G : State} {κ : Value → State → Prop} {C : Chunk}
    {a b : Option Addr} {len cap n c : Nat} {us vs : List Value} (ho : Own s e C a len cap us) (hC : C = [] ∧ G = S ∨ Pick C S G) (hr : Rd s S b n vs) (h1 : ∀ v ∈ vs, Value.cell1 v)
    (hm : len + n ≤ maxLen) (hb : (len + n) * by_ ≤ 140737488355328)
    (k : ∀ C' a' cap', Own s e C' a' (len + n) cap' (us ++ vs) → κ (.slice a' (len + n) cap') (C' :: G)) : ValW P (Builtin.append_ #[t, t2] ty #[.slice a len cap, .slice b n c]) S κ := by
  refine ⟨fun w hw => ?_⟩
  have hCG : Hold w (C :: G) := by
    rcases hC with ⟨rfl, rfl⟩ | hp
    · exact hw.perm (by simp)
    · exact hw.perm hp.perm
  have hrd : Rd s (C :: G) a len us := ho.rd (List.mem_cons_self ..)
  have f1 := fun (w : World) hw => rd_first (P := P) (c := cap) hrd (w := w) hw
  have f2 := fun (w : World) hw => rd_first (P := P) (c := c) hr (w := w) hw
  have hlv := hr.1
  obtain ⟨i, hi, hz1, hsz, hby⟩ := sized_parts hs.info
  obtain ⟨hle, hmax, hlen, hcase⟩ := ho
  by_cases hroom : len + n ≤ cap
  · rcases hcase with ⟨rfl, rfl⟩ | ⟨b', o, cs, m, rfl, rfl, hsoft, hbig, hcs⟩
    · obtain rfl : len = 0 := by omega
      obtain rfl : n = 0 := by omega
      obtain rfl : us = [] := List.length_eq_zero_iff.1 (by simpa using hlen)
      obtain rfl : vs = [] := List.length_eq_zero_iff.1 (by simpa using hlv)
      refine ⟨.slice a 0 0, w, _, ?_, Ext.refl w, hCG, k [] a 0 ⟨Nat.le_refl _, Nat.zero_le _, by simp, .inl ⟨rfl, rfl⟩⟩⟩
      cases a <;> simp [Builtin.append_, Sem.run_bind, run_und ht.und, run_und ht2.und, run_size hs, Result.andThen, Builtin.lenOf, f2 w hw, storeCells]
    · have hg : w.heap[b']? = some (.cells cs e m) := hCG.get _ _ (by simp)
      obtain ⟨w', q1, q2, q3, q4⟩ := run_storeCells (P := P) (b := b') (o := o + len * s) vs 0 w cs hg h1 (by
        have : (len + n) * s ≤ cap * s := Nat.mul_le_mul_right s hroom
        rw [Nat.add_mul] at this
        omega) hsoft.or
      refine ⟨.slice (some ⟨b', o, none⟩) (len + n) cap, w', _, ?_, q2, (Upd.one (S := G)).hold hCG q3 q4, k _ _ cap ⟨hroom, hmax, ?_, .inr ⟨b', o, _, m, rfl, rfl, by rw [setCells_size]; exact hsoft, ?_, ?_⟩⟩⟩
      · simp [Builtin.append_, Sem.run_bind, run_und ht.und, run_und ht2.und, run_size hs, Result.andThen, Builtin.lenOf, f2 w hw, hroom, add_mk, q1]
      · rw [List.length_append, hlen, hlv, Nat.add_mul]
      · rw [setCells_size]; exact hbig
      · intro j hj
        rw [List.length_append] at hj
        have hmul : (len + n) * s ≤ cap * s := Nat.mul_le_mul_right s hroom
        rw [Nat.add_mul] at hmul
        rw [get_setCells _ _ _ _ (by omega)]
        by_cases hlt : j < us.length
        · rw [if_neg (by omega), hcs j hlt, List.getElem?_append_left hlt]
        · rw [if_pos (by omega), List.getElem?_append_right (by omega)]
          congr 1; omega
  · have hge := grownCap_ge w (len + n) cap e
    have hcm := grownCap_le_maxLen w (len + n) cap e hm
    have hn : ¬ (len + n ≤ cap) := hroom
    have h63' : ¬ (9223372036854775807 < ((len : Int) + (n : Int))) := by simp only [maxLen] at hm; omega
    have h48' : ¬ (281474976710656 < Builtin.nextslicecap (len + n) cap * i.bytes) := by
      rw [hby]
      have := growslice_fits (by omega : cap < len + n) hb
      omega
    have f1' := f1 w.drew ⟨hCG.nd, hCG.get⟩
    have f2' := f2 w.drew ⟨hw.nd, hw.get⟩
    obtain ⟨cells, hcells⟩ : ∃ cells : Array Value, cells = us.toArray ++ vs.toArray ++ Builtin.zeroCells z.cells (grownCap w (len + n) cap e - (len + n)) := ⟨_, rfl⟩
    refine ⟨.slice (some ⟨w.heap.size, 0, none⟩) (len + n) (grownCap w (len + n) cap e), w.drew.alloc (.cells cells e), [(w.heap.size, .cells cells e (0, 0))] :: G, ?_, ⟨rfl, rfl, rfl, by simp⟩, ?_, k _ _ _ ⟨hge, hcm, ?_, .inr ⟨_, 0, cells, (0, 0), rfl, rfl, .inl rfl, ?_, ?_⟩⟩⟩
    · rw [hcells]
      simp [Builtin.append_, Sem.run_bind, run_und ht.und, run_und ht2.und, run_size hs, run_zero hs, Result.andThen, typeInfo, program, Sem.run, hi, hn, h63', h48', Question.forced, Builtin.lenOf, f1', f2', newRow, newObj, grownCap, choose]
      generalize Builtin.zeroCells _ _ = X
      rw [show us.toArray ++ (vs.toArray ++ X) = (us ++ vs).toArray ++ X from by apply Array.ext'; simp]
      rfl
    · refine Hold.new (w := w) (o := .cells cells e (0, 0)) ?_ rfl
      exact hCG.sub (by simp)
    · rw [List.length_append, hlen, hlv, Nat.add_mul]
    · rw [hcells]
      simp only [Array.size_append, List.size_toArray, size_zeroCells, hz, hlen, hlv, ← Nat.add_mul]
      rw [Nat.zero_add]
      exact Nat.mul_le_mul_right s (by omega)
    · intro j hj
      rw [hcells, Nat.zero_add, Array.getElem?_append_left (by simpa using hj)]
      simp

/-! ### Slices of slices -/

def cutA (s : Nat) (a : Option Addr) (l m : Nat) : Option Addr := if m = l then a else a.map (·.add (l * s))

theorem rd_cut {s : Nat} {S : State} {a : Option Addr} {len : Nat} {us : List Value} (h : Rd s S a len us) {l h' m : Nat} (h1 : l ≤ h') (h2 : h' ≤ len) (h3 : h' ≤ m) :
    Rd s S (cutA s a l m) (h' - l) ((us.drop (l * s)).take ((h' - l) * s)) := by
  obtain ⟨hl, hne⟩ := h
  have e1 : l * s + (h' - l) * s = h' * s := by rw [← Nat.add_mul]; congr 1; omega
  have e2 : h' * s ≤ len * s := Nat.mul_le_mul_right s h2
  have hlen : ((us.drop (l * s)).take ((h' - l) * s)).length = (h' - l) * s := by rw [List.length_take, List.length_drop]; omega
  refine ⟨hlen, fun hn => ?_⟩
  have hpos : 0 < (h' - l) * s := by rw [← hlen]; exact List.length_pos_iff.2 hn
  have hlt : l < h' := by
    rcases Nat.lt_or_ge l h' with h | h
    · exact h
    · rw [show h' - l = 0 from by omega, Nat.zero_mul] at hpos; omega
  obtain ⟨b, o, cs, e, mm, rfl, hb, hc⟩ := hne (by intro h0; subst h0; simp at hl; omega)
  refine ⟨b, o + l * s, cs, e, mm, ?_, hb, fun i hi => ?_⟩
  · unfold cutA; rw [if_neg (by omega)]; simp [add_mk]
  · rw [hlen] at hi
    rw [show o + l * s + i = o + (l * s + i) from by omega, hc _ (by omega), List.getElem?_take_of_lt hi, List.getElem?_drop]
theorem own_cut {s : Nat} {e : TypeId} {C : Chunk} {a : Option Addr} {len cap : Nat} {us : List Value} (h : Own s e C a len cap us) {l h' m : Nat} (h1 : l ≤ h') (h2 : h' ≤ len) (h3 : h' ≤ m) (h4 : m ≤ cap) :
    Own s e C (cutA s a l m) (h' - l) (m - l) ((us.drop (l * s)).take ((h' - l) * s)) := by
  obtain ⟨q1, q2, hl, hcase⟩ := h
  have e1 : l * s + (h' - l) * s = h' * s := by rw [← Nat.add_mul]; congr 1; omega
  have e2 : h' * s ≤ len * s := Nat.mul_le_mul_right s h2
  have hlen : ((us.drop (l * s)).take ((h' - l) * s)).length = (h' - l) * s := by rw [List.length_take, List.length_drop]; omega
  refine ⟨by omega, by omega, hlen, ?_⟩
  rcases hcase with ⟨rfl, rfl⟩ | ⟨b, o, cs, m0, rfl, rfl, hsoft, hbig, hc⟩
  · exact .inl ⟨by omega, rfl⟩
  · right
    by_cases hm : m = l
    · refine ⟨b, o, cs, m0, by unfold cutA; rw [if_pos hm], rfl, hsoft, by rw [hm]; simp; omega, fun i hi => ?_⟩
      rw [hlen, show h' - l = 0 from by omega, Nat.zero_mul] at hi
      omega
    · refine ⟨b, o + l * s, cs, m0, by unfold cutA; rw [if_neg hm]; simp [add_mk], rfl, hsoft, ?_, fun i hi => ?_⟩
      · have : l * s + (m - l) * s = m * s := by rw [← Nat.add_mul]; congr 1; omega
        have : m * s ≤ cap * s := Nat.mul_le_mul_right s h4
        omega
      · rw [hlen] at hi
        rw [show o + l * s + i = o + (l * s + i) from by omega, hc _ (by omega), List.getElem?_take_of_lt hi, List.getElem?_drop]

theorem rd_cut1 {α : Type} {f : α → Value} {S : State} {a : Option Addr} {len : Nat} {us : List α} (h : Rd 1 S a len (us.map f)) {l h' m : Nat} (h1 : l ≤ h') (h2 : h' ≤ len) (h3 : h' ≤ m) :
    Rd 1 S (cutA 1 a l m) (h' - l) (((us.drop l).take (h' - l)).map f) := by
  have q := rd_cut h h1 h2 h3
  simpa only [Nat.mul_one, List.map_take, List.map_drop] using q
theorem own_cut1 {α : Type} {f : α → Value} {e : TypeId} {C : Chunk} {a : Option Addr} {len cap : Nat} {us : List α} (h : Own 1 e C a len cap (us.map f)) {l h' m : Nat} (h1 : l ≤ h') (h2 : h' ≤ len) (h3 : h' ≤ m) (h4 : m ≤ cap) :
    Own 1 e C (cutA 1 a l m) (h' - l) (m - l) (((us.drop l).take (h' - l)).map f) := by
  have q := own_cut h h1 h2 h3 h4
  simpa only [Nat.mul_one, List.map_take, List.map_drop] using q

theorem cut_hi {t e : TypeId} {z : Value} {s by_ : Nat} {κ : Value → Prop} [ht : TSlice P t e] [hs : TSized P e z s by_] {a : Option Addr} {len cap : Nat} {k : IntKind} {h : Int} (h0 : 0 ≤ h) (h1 : h ≤ cap) :
    PureW P (Instr.sliceAt t (.slice a len cap) none (some (.int k h)) none) κ = κ (.slice (cutA s a 0 cap) (h.toNat - 0) (cap - 0)) :=
  pureW_eq (fun w => by
    simp only [Instr.sliceAt, Instr.slice, Sem.run_bind, run_und ht.und, Result.andThen, Instr.sliceBounds, Instr.sliceBound, asIntOf, Sem.run_pure]
    simp [run_size hs, Result.andThen, Sem.run_bind, cutA, h0, h1]) κ
theorem cut_lo {t e : TypeId} {z : Value} {s by_ : Nat} {κ : Value → Prop} [ht : TSlice P t e] [hs : TSized P e z s by_] {a : Option Addr} {len cap : Nat} {j : IntKind} {l : Int} (l0 : 0 ≤ l) (l1 : l ≤ len) :
    PureW P (Instr.sliceAt t (.slice a len cap) (some (.int j l)) none none) κ = κ (.slice (cutA s a l.toNat cap) (len - l.toNat) (cap - l.toNat)) :=
  pureW_eq (fun w => by
    simp only [Instr.sliceAt, Instr.slice, Sem.run_bind, run_und ht.und, Result.andThen, Instr.sliceBounds, Instr.sliceBound, asIntOf, Sem.run_pure]
    simp [run_size hs, Result.andThen, Sem.run_bind, cutA, l0, l1]) κ
theorem cut_lohi {t e : TypeId} {z : Value} {s by_ : Nat} {κ : Value → Prop} [ht : TSlice P t e] [hs : TSized P e z s by_] {a : Option Addr} {len cap : Nat} {j k : IntKind} {l h : Int} (h0 : 0 ≤ h) (h1 : h ≤ cap) (l0 : 0 ≤ l) (l1 : l ≤ h) :
    PureW P (Instr.sliceAt t (.slice a len cap) (some (.int j l)) (some (.int k h)) none) κ = κ (.slice (cutA s a l.toNat cap) (h.toNat - l.toNat) (cap - l.toNat)) :=
  pureW_eq (fun w => by
    have l1' : l ≤ max h 0 := by omega
    simp only [Instr.sliceAt, Instr.slice, Sem.run_bind, run_und ht.und, Result.andThen, Instr.sliceBounds, Instr.sliceBound, asIntOf, Sem.run_pure]
    simp [run_size hs, Result.andThen, Sem.run_bind, cutA, h0, h1, l0, l1, l1']) κ
theorem cut_all {t e : TypeId} {z : Value} {s by_ : Nat} {κ : Value → Prop} [ht : TSlice P t e] [hs : TSized P e z s by_] {a : Option Addr} {len cap : Nat}  :
    PureW P (Instr.sliceAt t (.slice a len cap) none none none) κ = κ (.slice (cutA s a 0 cap) (len - 0) (cap - 0)) :=
  pureW_eq (fun w => by
    simp only [Instr.sliceAt, Instr.slice, Sem.run_bind, run_und ht.und, Result.andThen, Instr.sliceBounds, Instr.sliceBound, asIntOf, Sem.run_pure]
    simp [run_size hs, Result.andThen, Sem.run_bind, cutA]) κ
theorem cut_himax {t e : TypeId} {z : Value} {s by_ : Nat} {κ : Value → Prop} [ht : TSlice P t e] [hs : TSized P e z s by_] {a : Option Addr} {len cap : Nat} {k q : IntKind} {h m : Int} (m0 : 0 ≤ m) (m1 : m ≤ cap) (h0 : 0 ≤ h) (h1 : h ≤ m) :
    PureW P (Instr.sliceAt t (.slice a len cap) none (some (.int k h)) (some (.int q m))) κ = κ (.slice (cutA s a 0 m.toNat) (h.toNat - 0) (m.toNat - 0)) :=
  pureW_eq (fun w => by
    have h1' : h ≤ max m 0 := by omega
    simp only [Instr.sliceAt, Instr.slice, Sem.run_bind, run_und ht.und, Result.andThen, Instr.sliceBounds, Instr.sliceBound, asIntOf, Sem.run_pure]
    simp [run_size hs, Result.andThen, Sem.run_bind, cutA, m0, m1, h0, h1, h1']) κ
theorem cut_lohimax {t e : TypeId} {z : Value} {s by_ : Nat} {κ : Value → Prop} [ht : TSlice P t e] [hs : TSized P e z s by_] {a : Option Addr} {len cap : Nat} {j k q : IntKind} {l h m : Int} (m0 : 0 ≤ m) (m1 : m ≤ cap) (h0 : 0 ≤ h) (h1 : h ≤ m) (l0 : 0 ≤ l) (l1 : l ≤ h) :
    PureW P (Instr.sliceAt t (.slice a len cap) (some (.int j l)) (some (.int k h)) (some (.int q m))) κ = κ (.slice (cutA s a l.toNat m.toNat) (h.toNat - l.toNat) (m.toNat - l.toNat)) :=
  pureW_eq (fun w => by
    have h1' : h ≤ max m 0 := by omega
    have l1' : l ≤ max h 0 := by omega
    simp only [Instr.sliceAt, Instr.slice, Sem.run_bind, run_und ht.und, Result.andThen, Instr.sliceBounds, Instr.sliceBound, asIntOf, Sem.run_pure]
    simp [run_size hs, Result.andThen, Sem.run_bind, cutA, m0, m1, h0, h1, l0, l1, h1', l1']) κ

/-! ### New slices -/

theorem fill_all : ∀ (vs done rest : List Value), (∀ v ∈ vs, Value.cell1 v) → rest.length = vs.length →
    Instr.fill (fun i => some (i, 1)) (done ++ rest).toArray ((vs.zipIdx done.length).map fun x => (x.2, x.1)) = some (done ++ vs).toArray
  | [], done, rest, hc, hr => by
    have : rest = [] := List.length_eq_zero_iff.1 hr
    subst this; simp [Instr.fill]
  | v :: vs, done, [], hc, hr => by simp at hr
  | v :: vs, done, r :: rest, hc, hr => by
    have hcv : v.cells = #[v] := by have := hc v (List.mem_cons_self ..); cases v <;> first | exact this.elim | rfl
    have ih := fill_all vs (done ++ [v]) rest (fun u hu => hc u (List.mem_cons_of_mem _ hu)) (by simpa using hr)
    simp only [List.zipIdx_cons, List.map_cons, Instr.fill, hcv]
    rw [if_neg (by simp)]
    simp only [List.length_append, List.length_cons, List.length_nil, List.append_assoc, List.cons_append, List.nil_append, Nat.zero_add] at ih
    rw [← ih]
    have e : (#[v].zipIdx.foldl (fun cs x => match x with | (c, j) => cs.setIfInBounds (done.length + j) c) (done ++ r :: rest).toArray) = (done ++ v :: rest).toArray := by
      apply Array.ext'
      simp
    rw [← e]

/-- A slice written out: every element. -/
theorem build_slice {t e : TypeId} {z : Value} {by_ : Nat} [ht : TSlice P t e] [hs : TSized P e z 1 by_] (hz : z.cells.size = 1) {n : Nat} {ps : List (Nat × Value)} {S : State} {κ : Value → State → Prop} (hn : n ≤ 16777216)
    (hi : ps.map (·.1) = List.range n) (hc : ∀ v ∈ ps.map (·.2), Value.cell1 v)
    (k : ∀ b : Nat, κ (.slice (some ⟨b, 0, none⟩) n n) ([(b, .cells (ps.map (·.2)).toArray e (0, 0))] :: S)) : ValW P (Instr.buildSlice t n ps.toArray) S κ := by
  refine ⟨fun w hw => ?_⟩
  have hlen : ps.length = n := by have := congrArg List.length hi; simpa using this
  have hps : ps = ((ps.map (·.2)).zipIdx 0).map fun x => (x.2, x.1) := by
    apply List.ext_getElem?
    intro i
    have h1 := congrArg (fun l => l[i]?) hi
    simp only [List.getElem?_map, List.getElem?_range] at h1
    simp only [List.getElem?_map, List.getElem?_zipIdx]
    cases hp : ps[i]? with
    | none => simp
    | some p =>
      rw [hp] at h1
      have hlt := (List.getElem?_eq_some_iff.1 hp).1
      rw [List.getElem?_range (by omega)] at h1
      simp at h1
      obtain ⟨p1, p2⟩ := p
      simp at h1 ⊢
      exact h1
  have hf := fill_all (ps.map (·.2)) [] (List.replicate n z.cells[0]!) hc (by simp [hlen])
  simp only [List.nil_append, List.length_nil] at hf
  rw [← hps] at hf
  refine ⟨_, { w with heap := w.heap.push (.cells (ps.map (·.2)).toArray e) }, _, ?_, ext_push rfl, hw.new rfl, k _⟩
  have hmod : (Array.range n).map (fun x => z.cells[x % z.cells.size]!) = (List.replicate n z.cells[0]!).toArray := by
    apply Array.ext'
    simp [hz, Nat.mod_one]
    rw [List.map_const', List.length_range]
  by_cases h0 : n = 0
  · subst h0
    have : ps = [] := List.length_eq_zero_iff.1 hlen
    subst this
    simp [Instr.buildSlice, Sem.run_bind, run_und ht.und, run_size hs, Result.andThen, Instr.fill, newRow, newObj, Sem.run, show Array.range 0 = #[] from rfl]
  · simp [Instr.buildSlice, Sem.run_bind, run_und ht.und, run_size hs, run_zero hs, Result.andThen, newRow, newObj, Sem.run, h0, show ¬ 16777216 < n from by omega]
    rw [hmod, hf]
    rfl

/-! ### Elements -/

def elA (a : Option Addr) (i : Nat) : Addr := (a.getD ⟨0, 0, none⟩).add i
theorem index_rd {t e : TypeId} {z : Value} {by_ : Nat} {S : State} {a : Option Addr} {len cap : Nat} {us : List Value} {k : IntKind} {i : Int} {κ : Value → Prop} [h : TSlice P t e] [hs : TSized P e z 1 by_]
    (hr : Rd 1 S a len us) (h0 : 0 ≤ i) (h1 : i < len) : PureW P (Instr.indexAt t (.slice a len cap) (.int k i)) κ = κ (.pointer (some (elA a i.toNat))) := by
  obtain ⟨hl, hne⟩ := hr
  obtain ⟨b, o, cs, et, m, rfl, _, _⟩ := hne (by intro e; subst e; simp at hl; omega)
  rw [index_addr h0 h1]
  simp [elA, add_mk]
theorem rd_load {t : TypeId} {S : State} {a : Option Addr} {len : Nat} {us : List Value} {i : Nat} {v : Value} {κ : Value → Prop} [hf : TFlat P t]
    (hr : Rd 1 S a len us) (hv : us[i]? = some v) (k : κ v) : ReadW P (Instr.loadAt t (.pointer (some (elA a i)))) S κ := by
  have hi := (List.getElem?_eq_some_iff.1 hv).1
  obtain ⟨hl, hne⟩ := hr
  obtain ⟨b, o, cs, et, m, rfl, hb, hc⟩ := hne (by intro e; subst e; simp at hi)
  simp only [elA, Option.getD_some, add_mk]
  exact load_one hb (by rw [hc i hi]; exact hv) k

end Go.Ost
