/- Texts in a row: the walk's rules and contracts, as each says. Conditions: as each says. -/
import Derived.RangeFuncRecord
import Derived.RangeFuncCalls
import Derived.TacticsIn
import Derived.WalkKit
import Derived.RangeFuncNested
import Derived.Laws.AppendOwn
import Derived.Laws.BytesString
import Derived.Laws.Strings
import Derived.Laws.MakeOwn
import Derived.OrdersIn
set_option linter.unusedSimpArgs false
set_option linter.defProp false
set_option linter.unusedVariables false
set_option maxRecDepth 100000
set_option maxHeartbeats 8000000
open List renaming length_append -> aA, mem_cons_self -> aB, cons_append -> aC, nil_append -> aD, getElem?_eq_getElem -> aF, length_singleton -> aI, length_cons -> aJ, mem_cons_of_mem -> aK, append_nil -> aL, append_assoc -> aM, flatten_cons -> aO, replicate -> aQ, getD_eq_getElem?_getD -> aS, length_drop -> aT, length_take -> aU, length_nil -> aV, length_replicate -> aW, not_mem_nil -> aX, map_cons -> aZ, mem_cons -> bA, range -> bC, mem_append_left -> bD, length_map -> bE, take_length -> bF, flatten_append -> bG, getElem?_cons_succ -> bJ, drop_eq_getElem_cons -> bK, flatten_nil -> bO, flatMap_cons -> bP, getElem?_append_right -> bR, take_of_length_le -> bS, take_add_one -> cC, getElem?_cons_zero -> cE, perm_append_comm -> cG, flatMap_append -> cH, map_append -> cL, getElem?_toArray -> cM, getElem?_map -> cN, dropWhile_cons -> cQ, take_append_drop -> cR, getElem?_append_left -> cT, length -> cV, getElem?_take_of_lt -> cX, getD -> cY, drop_eq_nil_of_le -> dA, getElem?_modify -> dC, getElem_mem -> dD, length_set -> dF, toList_toArray -> dG, mem_singleton -> dH, all_cons -> dI, drop_drop -> dL, drop_length -> dR, map_nil -> dS
open And renaming intro -> aE
open Nat renaming reduceBEq -> aG, reduceEqDiff -> aP, le_refl -> aR, reduceSub -> bH, sub_zero -> bI, reduceLT -> bM, reduceAdd -> bQ, zero_add -> cD, mul_le_mul_right -> cF, add_mul -> cP, mod_eq_of_lt -> cU, shiftLeft_eq -> dJ, add_sub_cancel -> dK, le_trans -> dN, add_zero -> dQ, sub_self -> dT
open UInt8 renaming ofNat -> aH, toNat_ofNat' -> bL
open Bool renaming and_eq_true -> aN, true_and -> dM, false_or -> dO, or_eq_true -> dP
open Int renaming toNat_natCast -> aY, reduceToNat -> bN, reduceBEq -> bT, reduceBNe -> bU, reduceAdd -> bV, reduceSub -> bW, reduceMul -> bX, reduceDiv -> bY, reduceMod -> bZ, reducePow -> cB, reduceLT -> cJ, reduceLE -> cK
open BitVec renaming ofInt -> bB, toNat_ofNat -> cW, ofNat -> cZ
open Option renaming getD_some -> cI, map_some -> dE
open Array renaming getElem?_setIfInBounds_ne -> cO, ext' -> cS
namespace Go.Ost
open Go
abbrev Chunk := List (Nat × Obj)
abbrev State := List Chunk
abbrev Env := List (Nat × Value)
structure Hold (w : World) (S : State) : Prop where
 nd : (S.flatten.map (·.1)).Nodup
 get : ∀ b o, (b, o) ∈ S.flatten -> w.heap[b]? = some o
structure Ext (w w' : World) : Prop where
 os : w'.os = w.os
 tape : w'.tape = w.tape
 output : w'.output = w.output
 size : w.heap.size <= w'.heap.size
theorem Ext.refl (w : World) : Ext w w := ⟨rfl, rfl, rfl, aR _⟩
theorem Ext.trans {a b c : World} (h : Ext a b) (k : Ext b c) : Ext a c :=
 ⟨k.os.trans h.os, k.tape.trans h.tape, k.output.trans h.output, dN h.size k.size⟩
theorem Hold.perm {w : World} {S T : State} (h : Hold w S) (p : S.flatten.Perm T.flatten) : Hold w T :=
 ⟨(p.map _).nodup_iff.1 h.nd, fun b o hm => h.get b o (p.mem_iff.2 hm)⟩
theorem Hold.sub {w : World} {S T : State} (h : Hold w S) (p : T.flatten.Sublist S.flatten) : Hold w T :=
 ⟨(p.map _).nodup h.nd, fun b o hm => h.get b o (p.subset hm)⟩
theorem Hold.lt {w : World} {S : State} (h : Hold w S) {b : Nat} {o : Obj} (hm : (b, o) ∈ S.flatten) : b < w.heap.size :=
 (Array.getElem?_eq_some_iff.1 (h.get b o hm)).1
inductive Pick : Chunk -> State -> State -> Prop
 | head (c : Chunk) (S : State) : Pick c (c :: S) S
 | tail {c : Chunk} {S T : State} (d : Chunk) (h : Pick c S T) : Pick c (d :: S) (d :: T)
theorem Pick.perm {c : Chunk} {S T : State} (h : Pick c S T) : S.flatten.Perm (c :: T).flatten := by
 induction h with
 | head => exact List.Perm.refl _
 | tail d h ih =>
  simp only [aO] at *;refine (List.Perm.append_left d ih).trans ?_;rw [<- aM, <- aM];exact List.Perm.append_right _ cG
inductive Take : State -> State -> State -> Prop
 | nil (S : State) : Take [] S S
 | cons {c : Chunk} {A S T F : State} (h : Pick c S T) (k : Take A T F) : Take (c :: A) S F
theorem Take.perm {A S F : State} (h : Take A S F) : S.flatten.Perm (A ++ F).flatten := by
 induction h with
 | nil => exact List.Perm.refl _
 | cons h k ih =>
  refine h.perm.trans ?_;simp only [aO, aC];exact List.Perm.append_left _ ih
inductive Among : State -> State -> Prop
 | nil (S : State) : Among [] S
 | cons {c : Chunk} {T S S' : State} (h : Pick c S S') (k : Among T S') : Among (c :: T) S
theorem Among.refl : ∀ S : State, Among S S
 | [] => .nil _
 | c :: S => .cons (.head c S) (Among.refl S)
theorem Among.hold {T S : State} (h : Among T S) {w : World} (hw : Hold w S) : Hold w T := by
 suffices hs : ∃ R : State, S.flatten.Perm (T ++ R).flatten by
  obtain ⟨R, hR⟩ := hs;refine (hw.perm hR).sub ?_;rw [bG];exact List.sublist_append_left _ _
 induction h with
 | nil S => exact ⟨S, List.Perm.refl _⟩
 | cons h k ih =>
  obtain ⟨R, hR⟩ := ih (hw.perm h.perm |>.sub (by simp));refine ⟨R, h.perm.trans ?_⟩;simp only [aO, aC];exact List.Perm.append_left _ hR
inductive Lies (b : Nat) (o : Obj) : State -> Prop
 | here {C : Chunk} {S : State} (h : (b, o) ∈ C) : Lies b o (C :: S)
 | next {C : Chunk} {S : State} (h : Lies b o S) : Lies b o (C :: S)
theorem Lies.mem {b : Nat} {o : Obj} {S : State} (h : Lies b o S) : (b, o) ∈ S.flatten := by
 induction h with
 | here h => exact bD _ h
 | next _ ih => exact List.mem_append_right _ ih
theorem Lies.one {b : Nat} {o : Obj} {S : State} : Lies b o ([(b, o)] :: S) := .here (.head _)
theorem Lies.get {b : Nat} {o : Obj} {S : State} (h : Lies b o S) {w : World} (hw : Hold w S) : w.heap[b]? = some o := hw.get b o h.mem
inductive Upd (b : Nat) (o o' : Obj) : State -> State -> Prop
 | one {S : State} : Upd b o o' ([(b, o)] :: S) ([(b, o')] :: S)
 | many {C D : Chunk} {S : State} : Upd b o o' ((C ++ (b, o) :: D) :: S) ((C ++ (b, o') :: D) :: S)
 | next {C : Chunk} {S T : State} (h : Upd b o o' S T) : Upd b o o' (C :: S) (C :: T)
theorem Upd.split {b : Nat} {o o' : Obj} {S T : State} (h : Upd b o o' S T) : ∃ A B : Chunk, S.flatten = A ++ (b, o) :: B /\ T.flatten = A ++ (b, o') :: B := by
 induction h with
 | @one S => exact ⟨[], S.flatten, by simp, by simp⟩
 | @many C D S => exact ⟨C, D ++ S.flatten, by simp, by simp⟩
 | @next C _ _ _ ih => obtain ⟨A, B, h1, h2⟩ := ih; exact ⟨C ++ A, B, by simp [h1], by simp [h2]⟩
theorem Upd.get {b : Nat} {o o' : Obj} {S T : State} (h : Upd b o o' S T) {w : World} (hw : Hold w S) : w.heap[b]? = some o := by
 obtain ⟨A, B, h1, _⟩ := h.split;exact hw.get b o (by rw [h1]; simp)
theorem Upd.hold {b : Nat} {o o' : Obj} {S T : State} (h : Upd b o o' S T) {w w' : World} (hw : Hold w S)
  (h1 : w'.heap[b]? = some o') (h2 : ∀ k, k ≠ b -> w'.heap[k]? = w.heap[k]?) : Hold w' T := by
 obtain ⟨A, B, e1, e2⟩ := h.split;have nd := hw.nd;rw [e1] at nd;refine ⟨by rw [e2]; simpa using nd, fun c p hm => ?_⟩;rw [e2] at hm
 have hne : ∀ q, (c, q) ∈ A ++ B -> c ≠ b := by
  intro q hq hc;subst hc;simp only [cL, aZ] at nd;have hn := (List.perm_middle.nodup_iff.1 nd);rw [List.nodup_cons] at hn;refine hn.1 ?_;rw [<- cL];exact List.mem_map.2 ⟨_, hq, rfl⟩
 rcases List.mem_append.1 hm with hA | hB
 ·rw [h2 c (hne p (bD _ hA))];exact hw.get c p (by rw [e1]; exact bD _ hA)
 ·rcases List.mem_cons.1 hB with he | hB
  ·cases he; exact h1
  ·rw [h2 c (hne p (List.mem_append_right _ hB))];exact hw.get c p (by rw [e1]; exact List.mem_append_right _ (aK _ hB))
theorem Hold.new {w w' : World} {S : State} (h : Hold w S) {o : Obj} (h1 : w'.heap = w.heap.push o) : Hold w' ([(w.heap.size, o)] :: S) := by
 refine ⟨?_, fun b p hm => ?_⟩
 ·simp only [aO, cL, aZ, dS, aC, aD, List.nodup_cons];refine ⟨fun hm => ?_, h.nd⟩;obtain ⟨⟨b, p⟩, hp, hb⟩ := List.mem_map.1 hm;have := h.lt hp;simp only at hb;omega
 ·rw [h1, Array.getElem?_push]
  rcases List.mem_cons.1 hm with he | hm
  ·cases he; simp
  ·have := h.lt hm;rw [if_neg (by omega)];exact h.get b p hm
def lookT : Env -> Nat -> Option Value
 | [], _ => none
 | (d, v) :: l, t => if t = d then some v else lookT l t
theorem lookT_hit {d : Nat} {v : Value} {l : Env} : lookT ((d, v) :: l) d = some v := by simp [lookT]
theorem lookT_miss {d t : Nat} {v : Value} {l : Env} (h : (t == d) = false) : lookT ((d, v) :: l) t = lookT l t := by
 simp only [lookT]; rw [if_neg (by simpa using h)]
def JK (r : Nat) : Deferred := { target := .collected r, args := #[] }
structure Agree (n : Nat) (L : Env) (D : List Nat) (a : Act) : Prop where
 size : a.tmps.size = n
 get : ∀ t v, lookT L t = some v -> a.tmps[t]? = some v
 marks : a.defers = D.map JK
def putT (n : Nat) (dst : Option Tmp) (v : Value) (L : Env) : Env :=
 match dst with
 | some d => if d < n then (d, v) :: L else L
 | none => L
theorem Agree.put {n : Nat} {L : Env} {D : List Nat} {a : Act} (h : Agree n L D a) (dst : Option Tmp) (v : Value) : Agree n (putT n dst v L) D (a.put dst v) := by
 cases dst with
 | none => exact h
 | some d =>
  simp only [Ost.putT, Act.put]
  split
  ·rename_i hd
   refine ⟨by simp [h.size], fun t u ht => ?_, h.marks⟩;simp only [lookT] at ht
   split at ht
   ·cases ht; subst_vars; simp [h.size, hd]
   ·rename_i hne
    rw [cO (Ne.symm hne)];exact h.get t u ht
  ·rename_i hd
   refine ⟨by simp [h.size], fun t u ht => ?_, h.marks⟩;rw [cO]
   ·exact h.get t u ht
   ·intro e; subst e;have := (Array.getElem?_eq_some_iff.1 (h.get _ _ ht)).1;rw [h.size] at this;exact hd this
def evT (L : Env) : Operand -> Option Value
 | .tmp t => lookT L t
 | .const v => some v
 | .global g => some (.pointer (some ⟨g, 0, none⟩))
 | .func f => some (.func (.func f) #[] #[])
theorem Agree.ev {n : Nat} {L : Env} {D : List Nat} {a : Act} (h : Agree n L D a) {x : Operand} {v : Value} (hx : evT L x = some v) : a.eval x = v := by
 cases x with
 | tmp t =>
  simp only [Ost.evT] at hx
  simp [Act.eval, h.get t v hx]
 | const u => cases hx; rfl
 | global g => cases hx; rfl
 | func f => cases hx; rfl
def Knows : Env -> Env -> Prop
 | [], _ => True
 | (d, v) :: l, L => lookT L d = some v /\ Knows l L
theorem Knows.look {l L : Env} (h : Knows l L) : ∀ t v, lookT l t = some v -> lookT L t = some v := by
 induction l with
 | nil => intro t v ht; simp [Ost.lookT] at ht
 | cons x l ih =>
  obtain ⟨d, u⟩ := x;intro t v ht;simp only [Ost.lookT] at ht
  split at ht
  ·cases ht; subst_vars; exact h.1
  ·exact ih h.2 t v ht
theorem Agree.less {n : Nat} {L l : Env} {D : List Nat} {a : Act} (h : Agree n L D a) (hl : Knows l L) : Agree n l D a :=
 ⟨h.size, fun t v ht => h.get t v (hl.look t v ht), h.marks⟩
variable {P : Program}
abbrev FW (ro : Option Nat) : Fence := { Fence.wide with round := ro }
structure PureW (P : Program) (m : Sem Value) (κ : Value -> Prop) : Prop where
 out : ∃ v, (∀ w, m.run P w = .ok v w) /\ κ v
structure ReadW (P : Program) (m : Sem Value) (S : State) (κ : Value -> Prop) : Prop where
 out : ∃ v, (∀ w, Hold w S -> m.run P w = .ok v w) /\ κ v
structure ValW (P : Program) (m : Sem Value) (S : State) (κ : Value -> State -> Prop) : Prop where
 out : ∀ w, Hold w S -> ∃ v w' S', m.run P w = .ok v w' /\ Ext w w' /\ Hold w' S' /\ κ v S'
structure UnitW (P : Program) (m : Sem Unit) (S : State) (κ : State -> Prop) : Prop where
 out : ∀ w, Hold w S -> ∃ w' S', m.run P w = .ok () w' /\ Ext w w' /\ Hold w' S' /\ κ S'
def wV (w : World) (κ : Value -> State -> Prop) : Ending -> World -> Prop := fun e w' => ∃ v S', e = .returned v /\ Ext w w' /\ Hold w' S' /\ κ v S'
def GoesW (P : Program) (w : World) (κ : Value -> State -> Prop) : Next -> World -> Prop
 | .value v, w' => ∃ S', Ext w w' /\ Hold w' S' /\ κ v S'
 | .skip, w' => ∃ S', Ext w w' /\ Hold w' S' /\ κ undef S'
 | .enter f args, w' => CallsIn (FW none) 0 P f args w' (wV w κ)
 | .round l f tmps assign body, w' => RoundIn (FW none) 0 P l f tmps assign body w' (wV w κ)
 | _, _ => False
def NextW (P : Program) (m : Sem Next) (S : State) (κ : Value -> State -> Prop) : Prop :=
 ∀ w, Hold w S -> ∃ r w', m.run P w = .ok r w' /\ GoesW P w κ r w'
theorem PureW.read {m : Sem Value} {κ : Value -> Prop} (h : PureW P m κ) (S : State) : ReadW P m S κ := let ⟨v, a, b⟩ := h.out; ⟨v, fun w _ => a w, b⟩
theorem ReadW.val {m : Sem Value} {S : State} {κ : Value -> State -> Prop} (h : ReadW P m S fun v => κ v S) : ValW P m S κ :=
 let ⟨v, a, b⟩ := h.out; ⟨fun w hw => ⟨v, w, S, a w hw, Ext.refl w, hw, b⟩⟩
theorem ValW.next {m : Sem Value} {S : State} {κ : Value -> State -> Prop} (h : ValW P m S κ) : NextW P (do pure (.value (<- m))) S κ := fun w hw => by
 obtain ⟨v, w', S', hr, he, hh, hk⟩ := h.out w hw;refine ⟨.value v, w', ?_, S', he, hh, hk⟩
 simp [Sem.run_bind, hr, Result.andThen]
theorem UnitW.next {m : Sem Unit} {S : State} {κ : Value -> State -> Prop} (h : UnitW P m S (κ undef)) : NextW P (do m; pure .skip) S κ := fun w hw => by
 obtain ⟨w', S', hr, he, hh, hk⟩ := h.out w hw;refine ⟨.skip, w', ?_, S', he, hh, hk⟩
 simp [Sem.run_bind, hr, Result.andThen]
structure CallsW (P : Program) (f : FuncId) (args : Array Value) (S : State) (κ : Value -> State -> Prop) : Prop where
 out : NextW P (callFunc f args) S κ
structure YieldW (P : Program) (l : Nat) (args : Array Value) (S : State) (κ : Value -> State -> Prop) : Prop where
 out : ∀ w, Hold w S -> YieldAt (FW none) 0 P l args w (wV w κ)
theorem CallsW.next {f : FuncId} {args : Array Value} {S : State} {κ : Value -> State -> Prop} (h : CallsW P f args S κ) : NextW P (callFunc f args) S κ := h.out
theorem CallsW.mk' {f : FuncId} {args : Array Value} {S : State} {κ : Value -> State -> Prop}
  (h1 : (match P.funcs[f]? with | some fn => fn.name != "runtime.NumGoroutine" && fn.body.isSome | none => false) = true)
  (h2 : ∀ w, Hold w S -> CallsIn (FW none) 0 P f args w (wV w κ)) : CallsW P f args S κ := ⟨fun w hw => by
 split at h1
 ·rename_i fn hf
  simp only [aN, bne_iff_ne, ne_eq] at h1;refine ⟨.enter f args, w, ?_, h2 w hw⟩;obtain ⟨hn, hb⟩ := h1;obtain ⟨c, hc⟩ := Option.isSome_iff_exists.1 hb
  simp [callFunc, program, Sem.run_bind, Sem.run, hf, hn, hc, Result.andThen]
 ·cases h1⟩
theorem NextW.mono {m : Sem Next} {S : State} {κ κ' : Value -> State -> Prop} (h : NextW P m S κ) (hk : ∀ v S, κ v S -> κ' v S) : NextW P m S κ' := fun w hw => by
 obtain ⟨r, w', h1, h2⟩ := h w hw;refine ⟨r, w', h1, ?_⟩;have em : ∀ (e : Ending) (w'' : World), wV w κ e w'' -> wV w κ' e w'' := fun e w'' ⟨v, S', a, b, c, d⟩ => ⟨v, S', a, b, c, hk _ _ d⟩
 cases r <;> simp only [GoesW] at h2 ⊢ <;> first | exact CallsIn.mono h2 em | exact RoundIn.mono h2 em | (let ⟨S', a, b, c⟩ := h2; exact ⟨S', a, b, hk _ _ c⟩) | exact h2.elim
theorem YieldW.next {l : Nat} {args : Array Value} {S : State} {κ : Value -> State -> Prop} (h : YieldW P l args S κ) : NextW P (Instr.yield l args) S κ := fun w hw => by
 obtain ⟨fn, tmps, assign, body, hr, hR⟩ := h.out w hw;exact ⟨_, w, hr, hR⟩
def FnW (P : Program) (f : Value) (args : List Value) (S : State) (κ : Value -> State -> Prop) : Prop :=
 match f with
 | .func (.func g) first captured => CallsW P g (first.toList ++ args ++ captured.toList).toArray S κ
 | .func (.yield l) first _ => YieldW P l (first.toList ++ args).toArray S κ
 | _ => False
theorem FnW.next {f : Value} {args : List Value} {S : State} {κ : Value -> State -> Prop} (h : FnW P f args S κ) :
  NextW P (do let d <- Deferred.ofValue f args.toArray; invoke d.target d.args) S κ := by
 unfold FnW at h
 split at h
 ·rename_i g first captured
  have e : (do let d <- Deferred.ofValue (.func (.func g) first captured) args.toArray; invoke d.target d.args : Sem Next) = callFunc g (first.toList ++ args ++ captured.toList).toArray := by
   simp only [Deferred.ofValue, invoke, bind, pure, Sem.bind]
   congr 1
   apply cS
   simp
  rw [e]; exact h.next
 ·rename_i l first captured
  have e : (do let d <- Deferred.ofValue (.func (.yield l) first captured) args.toArray; invoke d.target d.args : Sem Next) = Instr.yield l (first.toList ++ args).toArray := by
   simp only [Deferred.ofValue, invoke, bind, pure, Sem.bind]
   congr 1
   apply cS
   simp
  rw [e]; exact h.next
 ·exact h.elim
def BuiltinW (P : Program) (b : Builtin) (ats : Array TypeId) (t : TypeId) (args : List Value) (S : State) (κ : Value -> State -> Prop) : Prop :=
 match b, args with
 | .min, _ => PureW P (Builtin.min_ ats t args.toArray) fun v => κ v S
 | .max, _ => PureW P (Builtin.max_ ats t args.toArray) fun v => κ v S
 | .len, [.slice a n c] => PureW P (Builtin.len_ ats t #[.slice a n c]) fun v => κ v S
 | .len, [.string s] => PureW P (Builtin.len_ ats t #[.string s]) fun v => κ v S
 | .len, [.map r] => ReadW P (Builtin.len_ ats t #[.map r]) S fun v => κ v S
 | .cap, _ => PureW P (Builtin.cap_ ats t args.toArray) fun v => κ v S
 | .append, _ => ValW P (Builtin.append_ ats t args.toArray) S κ
 | .copy, _ => ValW P (Builtin.copy_ ats t args.toArray) S κ
 | .clear, _ => ValW P (Builtin.clear_ ats t args.toArray) S κ
 | .delete, _ => ValW P (Builtin.delete_ ats t args.toArray) S κ
 | .unsafeSliceData, _ => ValW P (Builtin.unsafeSliceData_ ats t args.toArray) S κ
 | .unsafeString, _ => ValW P (Builtin.unsafeString_ ats t args.toArray) S κ
 | _, _ => False
theorem BuiltinW.next {b : Builtin} {ats : Array TypeId} {t : TypeId} {cs : Array Bool} {args : List Value} {S : State} {κ : Value -> State -> Prop}
  (h : BuiltinW P b ats t args S κ) : NextW P (builtin b ats t cs args.toArray) S κ := by
 unfold BuiltinW at h
 split at h
 ·exact (h.read S).val.next
 ·exact (h.read S).val.next
 ·exact (h.read S).val.next
 ·exact (h.read S).val.next
 ·exact h.val.next
 ·exact (h.read S).val.next
 ·exact h.next
 ·exact h.next
 ·exact h.next
 ·exact h.next
 ·exact h.next
 ·exact h.next
 ·exact h.elim
def withV (x : Option Value) (κ : Value -> Prop) : Prop :=
 match x with
 | some v => κ v
 | none => False
def evL (L : Env) : List Operand -> Option (List Value)
 | [] => some []
 | x :: l =>
  match evT L x, evL L l with
  | some v, some vs => some (v :: vs)
  | _, _ => none
def withL (x : Option (List Value)) (κ : List Value -> Prop) : Prop :=
 match x with
 | some v => κ v
 | none => False
def evO (L : Env) : Option Operand -> Option (Option Value)
 | none => some none
 | some x =>
  match evT L x with
  | some v => some (some v)
  | none => none
def withO (x : Option (Option Value)) (κ : Option Value -> Prop) : Prop :=
 match x with
 | some v => κ v
 | none => False
def withB (v : Value) (κ : Bool -> Prop) : Prop :=
 match v with
 | .bool b => κ b
 | _ => False
def evP (L : Env) : List (Nat × Operand) -> Option (List (Nat × Value))
 | [] => some []
 | (i, x) :: l =>
  match evT L x, evP L l with
  | some v, some vs => some ((i, v) :: vs)
  | _, _ => none
def withP (x : Option (List (Nat × Value))) (κ : List (Nat × Value) -> Prop) : Prop :=
 match x with
 | some v => κ v
 | none => False
def NilW (v : Value) (κ : Value -> Prop) : Prop :=
 match v with
 | .pointer (some a) => κ (.pointer (some a))
 | .func (.func f) a b => κ (.func (.func f) a b)
 | .func (.yield f) a b => κ (.func (.yield f) a b)
 | _ => False
def ConvW (P : Program) (s d : TypeId) (v : Value) (S : State) (κ : Value -> State -> Prop) : Prop :=
 match v with
 | .int k n => PureW P (convert s d (.int k n)) fun v => κ v S
 | v => ValW P (convert s d v) S κ
def stepW (P : Program) (op : Op) (t : TypeId) (L : Env) (S : State) (κ : Value -> State -> Prop) : Prop :=
 match op with
 | .move x | .assign x => withV (evT L x) fun v => κ v S
 | .pick c a b => withV (evT L c) fun v => withB v fun g => withV (evT L (if g then a else b)) fun u => κ u S
 | .alloc e => ValW P (Instr.alloc e true (.tuple #[])) S κ
 | .box e x => withV (evT L x) fun v => ValW P (Instr.box e v) S κ
 | .build u ps => withP (evP L ps.toList) fun vs => PureW P (Instr.build u vs.toArray) fun v => κ v S
 | .buildSlice u n ps => withP (evP L ps.toList) fun vs => ValW P (Instr.buildSlice u n vs.toArray) S κ
 | .load u x => withV (evT L x) fun a => ReadW P (Instr.loadAt u a) S fun v => κ v S
 | .store u x y => withV (evT L x) fun a => withV (evT L y) fun v => UnitW P (Instr.storeAt u a v) S (κ undef)
 | .nilCheck x => withV (evT L x) fun v => NilW v fun v => κ v S
 | .binOp o u x y _ => withV (evT L x) fun a => withV (evT L y) fun b => PureW P (do eqGuard o u x y a b; binOp o u a b) fun v => κ v S
 | .unOp o _ x => withV (evT L x) fun a => PureW P (Op.unary o a) fun v => κ v S
 | .convert s d x => withV (evT L x) fun v => ConvW P s d v S κ
 | .makeInterface u x => withV (evT L x) fun v => PureW P (Instr.makeInterface u v) fun v => κ v S
 | .makeFunc fn a b => withL (evL L a.toList) fun va => withL (evL L b.toList) fun vb => κ (.func fn va.toArray vb.toArray) S
 | .makeMap u r => withO (evO L r) fun v => ValW P (Instr.makeMap u v) S κ
 | .makeSlice u x y => withV (evT L x) fun a => withV (evT L y) fun b => ValW P (Instr.makeSlice u a b) S κ
 | .slice u x lo hi mx => withV (evT L x) fun v => withO (evO L lo) fun a => withO (evO L hi) fun b => withO (evO L mx) fun c => PureW P (Instr.sliceAt u v a b c) fun v => κ v S
 | .sliceToArrayPointer u x => withV (evT L x) fun v => PureW P (Instr.arrayAt u v) fun v => κ v S
 | .fieldAddr u x f => withV (evT L x) fun v => PureW P (Instr.fieldAt u v f) fun v => κ v S
 | .field u x f => withV (evT L x) fun v => PureW P (Instr.field u v f) fun v => κ v S
 | .indexAddr u x i => withV (evT L x) fun v => withV (evT L i) fun j => PureW P (Instr.indexAt u v j) fun v => κ v S
 | .index u x i => withV (evT L x) fun v => withV (evT L i) fun j => PureW P (Instr.index u v j) fun v => κ v S
 | .lookup u x i ok => withV (evT L x) fun v => withV (evT L i) fun j => ReadW P (Instr.lookup u v j ok) S fun v => κ v S
 | .mapUpdate u m k x | .insert u m k x => withV (evT L m) fun a => withV (evT L k) fun b => withV (evT L x) fun c => UnitW P (Instr.mapUpdate u a b c) S (κ undef)
 | .mapEntry u m k => withV (evT L m) fun a => withV (evT L k) fun b => ValW P (Instr.mapEntry u a b) S κ
 | .entryStore u m s x => withV (evT L m) fun a => withV (evT L s) fun b => withV (evT L x) fun c => UnitW P (Instr.entryStore u a b c) S (κ undef)
 | .range u x => withV (evT L x) fun v => ValW P (Instr.range u v) S κ
 | .next it s => withV (evT L it) fun v => ValW P (Instr.next v s t) S κ
 | .entry it => withV (evT L it) fun v => ValW P (Instr.entry v) S κ
 | .typeAssert x u v ok => withV (evT L x) fun a => PureW P (Instr.typeAssert a u v ok) fun v => κ v S
 | .extract x i => withV (evT L x) fun a => PureW P (Instr.extract a i) fun v => κ v S
 | .call c => withL (evL L c.args.toList) fun vs =>
  match c.callee with
  | .value f => withV (evT L f) fun fv => FnW P fv vs S κ
  | .builtin b => BuiltinW P b c.argTypes t vs S κ
  | .invoke _ _ => False
 | _ => False
theorem zl {L : Env} {x : Operand} {κ : Value -> Prop} (h : withV (evT L x) κ) : ∃ v, evT L x = some v /\ κ v := by
 cases hx : evT L x with
 | none => rw [hx] at h; exact h.elim
 | some v => rw [hx] at h; exact ⟨v, rfl, h⟩
theorem vP {L : Env} {x : Option Operand} {ρ : Operand -> Value} (hρ : ∀ x v, evT L x = some v -> ρ x = v) {κ : Option Value -> Prop} (h : withO (evO L x) κ) : κ (x.map ρ) := by
 cases x with
 | none => exact h
 | some x =>
  simp only [evO] at h
  cases hx : evT L x with
  | none => rw [hx] at h; exact h.elim
  | some v => rw [hx] at h; simp only [dE, hρ x v hx]; exact h
theorem kZ {L : Env} {ρ : Operand -> Value} (hρ : ∀ x v, evT L x = some v -> ρ x = v) : ∀ (l : List Operand) (vs : List Value), evL L l = some vs -> l.map ρ = vs
 | [], vs, h => by simp only [evL] at h; cases h; rfl
 | x :: l, vs, h => by
  simp only [evL] at h
  cases hx : evT L x with
  | none => simp [hx] at h
  | some v =>
   cases hl : evL L l with
   | none => simp [hx, hl] at h
   | some us =>
    simp only [hx, hl, Option.some.injEq] at h;subst h
    simp [hρ x v hx, kZ hρ l us hl]
theorem JX {L : Env} {ρ : Operand -> Value} (hρ : ∀ x v, evT L x = some v -> ρ x = v) : ∀ (l : List (Nat × Operand)) (vs : List (Nat × Value)), evP L l = some vs -> (l.map fun (i, x) => (i, ρ x)) = vs
 | [], vs, h => by simp only [evP] at h; cases h; rfl
 | (i, x) :: l, vs, h => by
  simp only [evP] at h
  cases hx : evT L x with
  | none => simp [hx] at h
  | some v =>
   cases hl : evP L l with
   | none => simp [hx, hl] at h
   | some us =>
    simp only [hx, hl, Option.some.injEq] at h;subst h
    simp [hρ x v hx, JX hρ l us hl]
theorem wo {o : Oper} {L : Env} {S : State} {κ : Value -> State -> Prop} {ρ : Operand -> Value} (hρ : ∀ x v, evT L x = some v -> ρ x = v)
  (h : stepW P o.op o.type L S κ) : NextW P (execOp ρ o) S κ := by
 obtain ⟨dst, op, t, pos, after, guard⟩ := o;have pureN : ∀ {v : Value} {S : State}, κ v S -> NextW P (pure (.value v)) S κ := fun {v S} hk w hw => ⟨.value v, w, rfl, S, Ext.refl w, hw, hk⟩
 cases op <;> simp only [stepW] at h <;> simp only [execOp]
 case move x => obtain ⟨v, hx, h⟩ := zl h; rw [hρ x v hx]; exact pureN h
 case assign x => obtain ⟨v, hx, h⟩ := zl h; rw [hρ x v hx]; exact pureN h
 case pick c a b =>
  obtain ⟨v, hx, h⟩ := zl h
  cases v <;> first | exact h.elim | skip
  rename_i g
  simp only [withB] at h;obtain ⟨u, hu, h⟩ := zl h;have hu' := hρ _ _ hu;rw [hρ c _ hx];intro w hw;refine ⟨.value u, w, ?_, S, Ext.refl w, hw, h⟩
  cases g <;> simp_all [asBool, Sem.run_bind, Result.andThen]
 case alloc e => exact h.next
 case box e x => obtain ⟨v, hx, h⟩ := zl h; rw [hρ x v hx]; exact h.next
 case build u ps =>
  cases hp : evP L ps.toList with
  | none => rw [hp] at h; exact h.elim
  | some vs =>
   rw [hp] at h;have e : (ps.map fun (i, x) => (i, ρ x)) = vs.toArray := cS (by simpa using JX hρ _ _ hp);rw [e]; exact (PureW.read h S).val.next
 case buildSlice u n ps =>
  cases hp : evP L ps.toList with
  | none => rw [hp] at h; exact h.elim
  | some vs =>
   rw [hp] at h;have e : (ps.map fun (i, x) => (i, ρ x)) = vs.toArray := cS (by simpa using JX hρ _ _ hp);rw [e]; exact h.next
 case load u x => obtain ⟨v, hx, h⟩ := zl h; rw [hρ x v hx]; exact h.val.next
 case store u x y =>
  obtain ⟨v, hx, h⟩ := zl h; obtain ⟨v', hy, h⟩ := zl h;rw [hρ x v hx, hρ y v' hy]; exact h.next
 case nilCheck x =>
  obtain ⟨v, hx, h⟩ := zl h; rw [hρ x v hx];unfold NilW at h
  split at h
  ·exact pureN h
  ·exact pureN h
  ·exact pureN h
  ·exact h.elim
 case binOp o u x y yt =>
  obtain ⟨v, hx, h⟩ := zl h; obtain ⟨v', hy, h⟩ := zl h;rw [hρ x v hx, hρ y v' hy]; exact (PureW.read h S).val.next
 case unOp o u x => obtain ⟨v, hx, h⟩ := zl h; rw [hρ x v hx]; exact (PureW.read h S).val.next
 case convert s d x =>
  obtain ⟨v, hx, h⟩ := zl h; rw [hρ x v hx];unfold ConvW at h
  split at h
  ·exact (PureW.read h S).val.next
  ·exact h.next
 case sliceToArrayPointer u x => obtain ⟨v, hx, h⟩ := zl h; rw [hρ x v hx]; exact (PureW.read h S).val.next
 case makeInterface u x => obtain ⟨v, hx, h⟩ := zl h; rw [hρ x v hx]; exact (PureW.read h S).val.next
 case makeFunc fn a b =>
  cases ha : evL L a.toList with
  | none => rw [ha] at h; exact h.elim
  | some va =>
   rw [ha] at h;simp only [withL] at h
   cases hb : evL L b.toList with
   | none => rw [hb] at h; exact h.elim
   | some vb =>
    rw [hb] at h;have ea : a.map ρ = va.toArray := cS (by simpa using kZ hρ _ _ ha);have eb : b.map ρ = vb.toArray := cS (by simpa using kZ hρ _ _ hb);rw [ea, eb];exact ReadW.val (m := Instr.makeFunc fn va.toArray vb.toArray) ⟨_, fun w _ => rfl, h⟩ |>.next
 case makeMap u r => exact (vP (κ := fun v => ValW P (Instr.makeMap u v) S κ) hρ h).next
 case makeSlice u x y =>
  obtain ⟨v, hx, h⟩ := zl h; obtain ⟨v', hy, h⟩ := zl h;rw [hρ x v hx, hρ y v' hy]; exact h.next
 case slice u x lo hi mx =>
  obtain ⟨v, hx, h⟩ := zl h; rw [hρ x v hx];have h := vP hρ h;have h := vP hρ h;have h := vP hρ h;exact (PureW.read h S).val.next
 case fieldAddr u x f => obtain ⟨v, hx, h⟩ := zl h; rw [hρ x v hx]; exact (PureW.read h S).val.next
 case field u x f => obtain ⟨v, hx, h⟩ := zl h; rw [hρ x v hx]; exact (PureW.read h S).val.next
 case indexAddr u x y =>
  obtain ⟨v, hx, h⟩ := zl h; obtain ⟨v', hy, h⟩ := zl h;rw [hρ x v hx, hρ y v' hy]; exact (PureW.read h S).val.next
 case index u x y =>
  obtain ⟨v, hx, h⟩ := zl h; obtain ⟨v', hy, h⟩ := zl h;rw [hρ x v hx, hρ y v' hy]; exact (PureW.read h S).val.next
 case lookup u x y ok =>
  obtain ⟨v, hx, h⟩ := zl h; obtain ⟨v', hy, h⟩ := zl h;rw [hρ x v hx, hρ y v' hy]; exact h.val.next
 case mapUpdate u m k x =>
  obtain ⟨v, hx, h⟩ := zl h; obtain ⟨v', hy, h⟩ := zl h; obtain ⟨v'', hz, h⟩ := zl h;rw [hρ _ v hx, hρ _ v' hy, hρ _ v'' hz]; exact h.next
 case insert u m k x =>
  obtain ⟨v, hx, h⟩ := zl h; obtain ⟨v', hy, h⟩ := zl h; obtain ⟨v'', hz, h⟩ := zl h;rw [hρ _ v hx, hρ _ v' hy, hρ _ v'' hz]; exact h.next
 case mapEntry u m k =>
  obtain ⟨v, hx, h⟩ := zl h; obtain ⟨v', hy, h⟩ := zl h;rw [hρ _ v hx, hρ _ v' hy]; exact h.next
 case entryStore u m k x =>
  obtain ⟨v, hx, h⟩ := zl h; obtain ⟨v', hy, h⟩ := zl h; obtain ⟨v'', hz, h⟩ := zl h;rw [hρ _ v hx, hρ _ v' hy, hρ _ v'' hz]; exact h.next
 case range u x => obtain ⟨v, hx, h⟩ := zl h; rw [hρ x v hx]; exact h.next
 case next it s => obtain ⟨v, hx, h⟩ := zl h; rw [hρ _ v hx]; exact h.next
 case entry it => obtain ⟨v, hx, h⟩ := zl h; rw [hρ _ v hx]; exact h.next
 case typeAssert x u v ok => obtain ⟨v, hx, h⟩ := zl h; rw [hρ _ v hx]; exact (PureW.read h S).val.next
 case extract x i => obtain ⟨v, hx, h⟩ := zl h; rw [hρ _ v hx]; exact (PureW.read h S).val.next
 case call c =>
  cases hp : evL L c.args.toList with
  | none => rw [hp] at h; exact h.elim
  | some vs =>
   rw [hp] at h;simp only [withL] at h;have e : c.args.map ρ = vs.toArray := cS (by simpa using kZ hρ _ _ hp);unfold resolve;rw [e]
   cases hc : c.callee with
   | value f =>
    rw [hc] at h;obtain ⟨fv, hf, h⟩ := zl h;simp only [hρ f fv hf];exact h.next
   | builtin b =>
    rw [hc] at h;exact BuiltinW.next h
   | invoke r m => rw [hc] at h; exact h.elim
 all_goals exact h.elim
end Go.Ost
namespace Go.Ost
open Go
variable {P : Program} {n : Nat} {ro : Option Nat}
abbrev Cont := Exit -> List Nat -> Env -> State -> Prop
def KQ (n : Nat) (K : Cont) (w : World) : Exit -> Act -> World -> Prop :=
 fun e a' w' => ∃ D L S, K e D L S /\ Agree n L D a' /\ Ext w w' /\ Hold w' S
structure CodeW (P : Program) (n : Nat) (ro : Option Nat) (c : Code) (K : Cont) (D : List Nat) (L : Env) (S : State) : Prop where
 out : ∀ a w, Agree n L D a -> Hold w S -> c.wpIn (FW ro) 0 P (KQ n K w) a w
theorem KQ.ext {K : Cont} {w w' : World} (h : Ext w w') {e : Exit} {a : Act} {v : World} (hq : KQ n K w' e a v) : KQ n K w e a v :=
 let ⟨D, L, S, k, ag, ex, ho⟩ := hq; ⟨D, L, S, k, ag, h.trans ex, ho⟩
theorem qH {c : Code} {K : Cont} {D : List Nat} {L L' : Env} {S S' : State} (hL : Knows L' L) (hS : Among S' S) (h : CodeW P n ro c K D L' S') : CodeW P n ro c K D L S :=
 ⟨fun a w ha hw => h.out a w (ha.less hL) (hS.hold hw)⟩
theorem ZT {c : Code} {K K' : Cont} {D : List Nat} {L : Env} {S : State} (h : CodeW P n ro c K D L S) (hk : ∀ e D L S, K e D L S -> K' e D L S) : CodeW P n ro c K' D L S :=
 ⟨fun a w ha hw => wpIn_mono (h.out a w ha hw) fun _ _ _ ⟨D, L, S, k, r⟩ => ⟨D, L, S, hk _ _ _ _ k, r⟩⟩
theorem zI {K : Cont} {D : List Nat} {L : Env} {S : State} (h : K .normal D L S) : CodeW P n ro .skip K D L S :=
 ⟨fun _ w ha hw => wpIn_skip ⟨D, L, S, h, ha, Ext.refl w, hw⟩⟩
theorem XT {K : Cont} {D : List Nat} {L : Env} {S : State} {l : Nat} (h : K .normal D L S) : CodeW P n ro (.label l) K D L S :=
 ⟨fun _ w ha hw => wpIn_label ⟨D, L, S, h, ha, Ext.refl w, hw⟩⟩
theorem zU {K : Cont} {D : List Nat} {L : Env} {S : State} {id : Nat} (h : K (.exit id) D L S) : CodeW P n ro (.exit id) K D L S :=
 ⟨fun _ w ha hw => wpIn_exit ⟨D, L, S, h, ha, Ext.refl w, hw⟩⟩
theorem yV {K : Cont} {D : List Nat} {L : Env} {S : State} (h : K .ret D L S) : CodeW P n ro .ret K D L S :=
 ⟨fun _ w ha hw => wpIn_ret ⟨D, L, S, h, ha, Ext.refl w, hw⟩⟩
def Cont.then (next : List Nat -> Env -> State -> Prop) (K : Cont) : Cont
 | .normal, D, L, S => next D L S
 | e, D, L, S => K e D L S
theorem zY {x y : Code} {K : Cont} {D : List Nat} {L : Env} {S : State} (h : CodeW P n ro x (Cont.then (CodeW P n ro y K) K) D L S) : CodeW P n ro (.seq x y) K D L S :=
 ⟨fun a w ha hw => wpIn_seq (wpIn_mono (h.out a w ha hw) fun e a' w' hq => by
  obtain ⟨D, L, S, k, ag, ex, ho⟩ := hq
  cases e <;> first | exact wpIn_mono (CodeW.out k a' w' ag ho) (fun _ _ _ h => h.ext ex) | exact ⟨D, L, S, k, ag, ex, ho⟩)⟩
theorem zd {x y : Code} {K : Cont} {D : List Nat} {L : Env} {S : State}
  (h : ∀ N : List Nat -> Env -> State -> Prop, (∀ D L S, CodeW P n ro y K D L S -> N D L S) -> CodeW P n ro x (Cont.then N K) D L S) : CodeW P n ro (.seq x y) K D L S :=
 zY (h _ fun _ _ _ h => h)
theorem vq {c : Operand} {x y : Code} {K : Cont} {D : List Nat} {L : Env} {S : State} {b : Bool} (hc : evT L c = some (.bool b))
  (ht : b = true -> CodeW P n ro x K D L S) (hf : b = false -> CodeW P n ro y K D L S) : CodeW P n ro (.cond c x y) K D L S :=
 ⟨fun a w ha hw => wpIn_cond_split (ha.ev hc) (fun h => (ht h).out a w ha hw) (fun h => (hf h).out a w ha hw)⟩
theorem VA {c : Operand} {x y : Code} {K : Cont} {D : List Nat} {L : Env} {S : State} (hc : evT L c = some (.bool true))
  (ht : CodeW P n ro x K D L S) : CodeW P n ro (.cond c x y) K D L S := vq hc (fun _ => ht) (fun h => by cases h)
theorem vp {c : Operand} {x y : Code} {K : Cont} {D : List Nat} {L : Env} {S : State} (hc : evT L c = some (.bool false))
  (hf : CodeW P n ro y K D L S) : CodeW P n ro (.cond c x y) K D L S := vq hc (fun h => by cases h) (fun _ => hf)
def Cont.block (id : Nat) (K : Cont) : Cont
 | .exit id', D, L, S => if id' = id then K .normal D L S else K (.exit id') D L S
 | e, D, L, S => K e D L S
theorem zp {id : Nat} {c : Code} {K : Cont} {D : List Nat} {L : Env} {S : State} (h : CodeW P n ro c (K.block id) D L S) : CodeW P n ro (.block id c) K D L S :=
 ⟨fun a w ha hw => wpIn_block (wpIn_mono (h.out a w ha hw) fun e a' w' hq => by
  obtain ⟨D, L, S, k, r⟩ := hq
  cases e <;> simp only [Exit.inBlock] <;> first | exact ⟨D, L, S, k, r⟩ | skip
  simp only [Cont.block] at k
  split at k
  ·rw [if_pos ‹_›]; exact ⟨D, L, S, k, r⟩
  ·rw [if_neg ‹_›]; exact ⟨D, L, S, k, r⟩)⟩
def Cont.noGoto (K : Cont) : Cont
 | .goto _, _, _, _ => False
 | e, D, L, S => K e D L S
theorem XS {c : Code} {K : Cont} {D : List Nat} {L : Env} {S : State} (h : CodeW P n ro c K.noGoto D L S) : CodeW P n ro (.scope c) K D L S := by
 refine ⟨fun a w ha hw b k cs hro hb hr => ?_⟩;obtain ⟨e, a₁, w₁, hq, harr⟩ := h.out a w ha hw b (.inScope c :: k) cs hro hb hr
 have s0 : step P (lone (b.atR a (.code (.scope c) :: k)) cs w) = .next (lone (b.atR a (.code c :: .inScope c :: k)) cs w) :=
  step_lone_go (by simp [stepG, stepG.exec, Frame.atR])
 have s1 : ∀ (a : Act) (w : World), step P (lone (b.atR a (.inScope c :: k)) cs w) = .next (lone (b.atR a k) cs w) :=
  fun a w => step_lone_go (by simp [stepG, stepG.exec, Frame.atR])
 have f0 : (lone (b.atR a (.code (.scope c) :: k)) cs w).fenced P (FW ro) := fenced_calm hb hr rfl;obtain ⟨D, L, S, hk, r⟩ := hq
 cases e with
 | normal => exact ⟨.normal, a₁, w₁, ⟨D, L, S, hk, r⟩, .head f0 s0 (StepsIn.trans harr (.one (fenced_calm (fr := b.atR a₁ (.inScope c :: k)) hb hr rfl) (s1 a₁ w₁)))⟩
 | exit id =>
  refine ⟨.exit id, a₁, w₁, ⟨D, L, S, hk, r⟩, ?_⟩;have e2 : exitTo id (.inScope c :: k) = exitTo id k := by simp [exitTo]
  refine ArrivesIn.of_steps (.one f0 s0) ?_;unfold ArrivesIn at harr ⊢;simp only at harr ⊢;rw [e2] at harr;exact harr
 | goto l => exact hk.elim
 | ret => exact ⟨.ret, a₁, w₁, ⟨D, L, S, hk, r⟩, ArrivesIn.of_steps (.one f0 s0) harr⟩
 | panic ch => exact ⟨.panic ch, a₁, w₁, ⟨D, L, S, hk, r⟩, ArrivesIn.of_steps (.one f0 s0) harr⟩
 | outgrown => exact ⟨.outgrown, a₁, w₁, ⟨D, L, S, hk, r⟩, ArrivesIn.of_steps (e := .outgrown) (a := a₁) (w := w₁) (b := b) (k := k) (.one f0 s0) harr⟩
structure Again (I : Nat -> List Nat -> Env -> State -> Prop) (m : Nat) (D : List Nat) (L : Env) (S : State) : Prop where
 out : ∃ m' L'' S'', m' < m /\ I m' D L'' S'' /\ Knows L'' L /\ Among S'' S
theorem xd {c : Code} {K : Cont} {D : List Nat} {L : Env} {S : State} (I : Nat -> List Nat -> Env -> State -> Prop) (h0 : ∃ m L0 S0, I m D L0 S0 /\ Knows L0 L /\ Among S0 S)
  (round : ∀ m D L S, I m D L S -> CodeW P n ro c (Cont.then (Again I m) K) D L S) : CodeW P n ro (.loop c) K D L S := by
 refine ⟨fun a w ha hw b k cs hro hb hr => ?_⟩
 have key : ∀ m (a : Act) (w : World) D L S, I m D L S -> Agree n L D a -> Hold w S ->
   ∃ e a' w', KQ n K w e a' w' /\ ArrivesIn (Machine.fenced P (FW ro)) P (lone (b.atR a (.code c :: .inLoop c :: k)) cs w) b k cs e a' w' := by
  intro m
  induction m using Nat.strongRecOn with
  | _ m ih =>
   intro a w D L S hI ha hw;obtain ⟨e, a₁, w₁, hq, harr⟩ := (round m D L S hI).out a w ha hw b (.inLoop c :: k) cs hro hb hr;obtain ⟨D₁, L₁, S₁, hk, hag, hex, hho⟩ := hq
   cases e with
   | normal =>
    obtain ⟨m', L'', S'', hlt, hI', hL, hS⟩ := Again.out hk;obtain ⟨e₂, a₂, w₂, hq₂, harr₂⟩ := ih m' hlt a₁ w₁ D₁ L'' S'' hI' (hag.less hL) (hS.hold hho);exact ⟨e₂, a₂, w₂, hq₂.ext hex, .of_steps (StepsIn.trans harr (.one (fenced_calm (fr := b.atR a₁ (.inLoop c :: k)) hb hr rfl) stepR_inLoop)) harr₂⟩
   | exit id => exact ⟨_, a₁, w₁, ⟨D₁, L₁, S₁, hk, hag, hex, hho⟩, .pass (x := .inLoop c) rfl (fun _ _ => .inl (by simp)) harr⟩
   | goto l => exact ⟨_, a₁, w₁, ⟨D₁, L₁, S₁, hk, hag, hex, hho⟩, .pass (x := .inLoop c) rfl (fun _ _ => .inl (by simp)) harr⟩
   | ret => exact ⟨_, a₁, w₁, ⟨D₁, L₁, S₁, hk, hag, hex, hho⟩, .pass (x := .inLoop c) rfl (fun _ _ => .inl (by simp)) harr⟩
   | panic ch => exact ⟨_, a₁, w₁, ⟨D₁, L₁, S₁, hk, hag, hex, hho⟩, .pass (x := .inLoop c) rfl (fun _ _ => .inl (by simp)) harr⟩
   | outgrown => exact ⟨_, a₁, w₁, ⟨D₁, L₁, S₁, hk, hag, hex, hho⟩, .pass (x := .inLoop c) rfl (fun _ _ => .inl (by simp)) harr⟩
 obtain ⟨m, L0, S0, h0, hL0, hS0⟩ := h0;obtain ⟨e, a', w', hq, harr⟩ := key m a w D L0 S0 h0 (ha.less hL0) (hS0.hold hw);exact ⟨e, a', w', hq, .of_steps (.one (fenced_calm hb hr rfl) stepR_loop) harr⟩
def guardW (ops : Array Oper) (o : Oper) (L : Env) (A B : Prop) : Prop :=
 match o.guard with
 | none => A
 | some (j, want) =>
  match (ops[j]?).bind (·.dst) with
  | none => False
  | some d => withV (lookT L d) fun v => match v with | .bool b => if b = want then A else B | .tuple _ => B | _ => False
def runW (P : Program) (n : Nat) (ops : Array Oper) (K : Env -> State -> Prop) : List Oper -> Env -> State -> Prop
 | [], L, S => K L S
 | o :: l, L, S => guardW ops o L (stepW P o.op o.type L S fun v S' => runW P n ops K l (putT n o.dst v L) S') (runW P n ops K l (putT n o.dst undef L) S)
theorem UV {op : Op} {t : TypeId} {L : Env} {S : State} {κ κ' : Value -> State -> Prop} (hk : ∀ v S, κ v S -> κ' v S) (h : stepW P op t L S κ) : stepW P op t L S κ' := by
 have withV_mono : ∀ {x : Option Value} {p q : Value -> Prop}, (∀ v, p v -> q v) -> withV x p -> withV x q := fun {x p q} hpq h => by cases x <;> first | exact h.elim | exact hpq _ h
 have withL_mono : ∀ {x : Option (List Value)} {p q : List Value -> Prop}, (∀ v, p v -> q v) -> withL x p -> withL x q := fun {x p q} hpq h => by cases x <;> first | exact h.elim | exact hpq _ h
 have withO_mono : ∀ {x : Option (Option Value)} {p q : Option Value -> Prop}, (∀ v, p v -> q v) -> withO x p -> withO x q := fun {x p q} hpq h => by cases x <;> first | exact h.elim | exact hpq _ h
 have withP_mono : ∀ {x : Option (List (Nat × Value))} {p q : List (Nat × Value) -> Prop}, (∀ v, p v -> q v) -> withP x p -> withP x q := fun {x p q} hpq h => by cases x <;> first | exact h.elim | exact hpq _ h
 have pure_mono : ∀ {m : Sem Value} {p q : Value -> Prop}, (∀ v, p v -> q v) -> PureW P m p -> PureW P m q := fun hpq ⟨v, a, b⟩ => ⟨v, a, hpq _ b⟩
 have read_mono : ∀ {m : Sem Value} {S : State} {p q : Value -> Prop}, (∀ v, p v -> q v) -> ReadW P m S p -> ReadW P m S q := fun hpq ⟨v, a, b⟩ => ⟨v, a, hpq _ b⟩
 have val_mono : ∀ {m : Sem Value} {S : State}, ValW P m S κ -> ValW P m S κ' := fun h => ⟨fun w hw => let ⟨v, w', S', a, b, c, d⟩ := h.out w hw; ⟨v, w', S', a, b, c, hk _ _ d⟩⟩
 have unit_mono : ∀ {m : Sem Unit} {S : State}, UnitW P m S (κ undef) -> UnitW P m S (κ' undef) := fun h => ⟨fun w hw => let ⟨w', S', a, b, c, d⟩ := h.out w hw; ⟨w', S', a, b, c, hk _ _ d⟩⟩
 have ends_mono : ∀ {w : World} (e : Ending) (w' : World), wV w κ e w' -> wV w κ' e w' := fun e w' ⟨v, S', a, b, c, d⟩ => ⟨v, S', a, b, c, hk _ _ d⟩
 have nil_mono : ∀ {v : Value} {p q : Value -> Prop}, (∀ v, p v -> q v) -> NilW v p -> NilW v q := fun {v p q} hpq h => by
  unfold NilW at *; split at h <;> first | exact hpq _ h | exact h.elim
 have k1 : ∀ (S : State) v, κ v S -> κ' v S := fun S v => hk v S
 cases op <;> simp only [stepW] at h ⊢
 case move x => exact withV_mono (k1 _) h
 case assign x => exact withV_mono (k1 _) h
 case pick c a b => exact withV_mono (fun v hv => by cases v <;> first | exact hv.elim | exact withV_mono (k1 _) hv) h
 case alloc e => exact val_mono h
 case box e x => exact withV_mono (fun v => val_mono) h
 case build u ps => exact withP_mono (fun v => pure_mono (k1 _)) h
 case buildSlice u n ps => exact withP_mono (fun v => val_mono) h
 case load u x => exact withV_mono (fun v => read_mono (k1 _)) h
 case store u x y => exact withV_mono (fun v => withV_mono fun v => unit_mono) h
 case nilCheck x => exact withV_mono (fun v => nil_mono (k1 _)) h
 case binOp o u x y yt => exact withV_mono (fun v => withV_mono fun v => pure_mono (k1 _)) h
 case unOp o u x => exact withV_mono (fun v => pure_mono (k1 _)) h
 case convert s d x =>
  refine withV_mono (fun v hv => ?_) h;unfold ConvW at *
  split at hv
  ·exact pure_mono (k1 _) hv
  ·exact val_mono hv
 case sliceToArrayPointer u x => exact withV_mono (fun v => pure_mono (k1 _)) h
 case makeInterface u x => exact withV_mono (fun v => pure_mono (k1 _)) h
 case makeFunc fn a b => exact withL_mono (fun v => withL_mono fun v => hk _ _) h
 case makeMap u r => exact withO_mono (fun v => val_mono) h
 case makeSlice u x y => exact withV_mono (fun v => withV_mono fun v => val_mono) h
 case slice u x lo hi mx => exact withV_mono (fun v => withO_mono fun v => withO_mono fun v => withO_mono fun v => pure_mono (k1 _)) h
 case fieldAddr u x f => exact withV_mono (fun v => pure_mono (k1 _)) h
 case field u x f => exact withV_mono (fun v => pure_mono (k1 _)) h
 case indexAddr u x y => exact withV_mono (fun v => withV_mono fun v => pure_mono (k1 _)) h
 case index u x y => exact withV_mono (fun v => withV_mono fun v => pure_mono (k1 _)) h
 case lookup u x y ok => exact withV_mono (fun v => withV_mono fun v => read_mono (k1 _)) h
 case mapUpdate u m k x => exact withV_mono (fun v => withV_mono fun v => withV_mono fun v => unit_mono) h
 case insert u m k x => exact withV_mono (fun v => withV_mono fun v => withV_mono fun v => unit_mono) h
 case mapEntry u m k => exact withV_mono (fun v => withV_mono fun v => val_mono) h
 case entryStore u m k x => exact withV_mono (fun v => withV_mono fun v => withV_mono fun v => unit_mono) h
 case range u x => exact withV_mono (fun v => val_mono) h
 case next it s => exact withV_mono (fun v => val_mono) h
 case entry it => exact withV_mono (fun v => val_mono) h
 case typeAssert x u v ok => exact withV_mono (fun v => pure_mono (k1 _)) h
 case extract x i => exact withV_mono (fun v => pure_mono (k1 _)) h
 case call c =>
  refine withL_mono (fun vs hv => ?_) h
  cases hc : c.callee with
  | value f =>
   simp only [hc] at hv ⊢;refine withV_mono (fun fv hf => ?_) hv;unfold FnW at *
   split at hf
   ·exact ⟨hf.out.mono hk⟩
   ·refine ⟨fun w hw => ?_⟩;obtain ⟨fn, tmps, asg, bd, hr, hR⟩ := hf.out w hw;exact ⟨fn, tmps, asg, bd, hr, hR.mono ends_mono⟩
   ·exact hf.elim
  | builtin b =>
   simp only [hc] at hv ⊢;unfold BuiltinW at *
   split at hv <;> first | exact hv.elim | exact pure_mono (k1 _) hv | exact read_mono (k1 _) hv | exact val_mono hv
  | invoke r m => simp only [hc] at hv
 all_goals exact h.elim
theorem wi {o : Oper} {a : Act} {w : World} {nx : Act -> World -> Prop} {Q : Exit -> Act -> World -> Prop} {S : State} {κ : Value -> State -> Prop} {m : Sem Next}
  (h : NextW P m S κ) (hw : Hold w S) (hk : ∀ v S' w', κ v S' -> Ext w w' -> Hold w' S' -> nx (a.put o.dst v) w') : o.uponIn (FW ro) 0 P a nx Q (m.run P w) := by
 obtain ⟨r, w', hr, hg⟩ := h w hw;rw [hr]
 cases r <;> simp only [GoesW] at hg
 case value v => obtain ⟨S', he, hh, k⟩ := hg; exact hk v S' w' k he hh
 case skip => obtain ⟨S', he, hh, k⟩ := hg; exact hk undef S' w' k he hh
 case enter f args =>
  refine ⟨fun h => (by cases h), hg.mono fun e w'' he => ?_⟩;obtain ⟨v, S', rfl, he, hh, k⟩ := he;exact hk v S' w'' k he hh
 case round l f tmps as bd =>
  refine ⟨fun h => (by cases h), hg.mono fun e w'' he => ?_⟩;obtain ⟨v, S', rfl, he, hh, k⟩ := he;exact hk v S' w'' k he hh
theorem jS {op : Op} {t : TypeId} {L : Env} {S : State} {κ : Value -> State -> Prop} (h : stepW P op t L S κ) : ∀ c, op ≠ .defer c := by
 intro c e; subst e; exact h
theorem oper_in {o : Oper} {a : Act} {w : World} {nx : Act -> World -> Prop} {Q : Exit -> Act -> World -> Prop} {L : Env} {D : List Nat} {S : State} {κ : Value -> State -> Prop}
  (h : stepW P o.op o.type L S κ) (ha : Agree n L D a) (hw : Hold w S) (hk : ∀ v S' w', κ v S' -> Ext w w' -> Hold w' S' -> nx (a.put o.dst v) w') : o.wpIn (FW ro) 0 P a w nx Q := by
 refine ⟨fun _ _ => trivial, ?_⟩;rw [Oper.semAt_eq _ _ _ (jS h)];exact wi (wo (fun x v hx => ha.ev hx) h) hw hk
theorem ZI {ops : Array Oper} {o : Oper} {L : Env} {D : List Nat} {a : Act} {A B : Prop} (ha : Agree n L D a) (h : guardW ops o L A B) :
  (Region.wanted o (yielded ops a.tmps) = true /\ A) ∨ (Region.wanted o (yielded ops a.tmps) = false /\ B) := by
 unfold guardW at h
 cases hg : o.guard with
 | none => rw [hg] at h; exact .inl ⟨by simp [Region.wanted, hg], h⟩
 | some g =>
  obtain ⟨j, want⟩ := g;rw [hg] at h;simp only at h
  cases hd : (ops[j]?).bind (·.dst) with
  | none => rw [hd] at h; exact h.elim
  | some d =>
   rw [hd] at h;simp only at h
   cases hv : lookT L d with
   | none => rw [hv] at h; exact h.elim
   | some v =>
    rw [hv] at h;have ht := ha.get d v hv
    cases v <;> first | exact h.elim | skip
    case bool b =>
     simp only [withV] at h
     split at h
     ·subst_vars; exact .inl ⟨by simp [Region.wanted, hg, yielded, hd, ht], h⟩
     ·rename_i hne; exact .inr ⟨by simp [Region.wanted, hg, yielded, hd, ht, hne], h⟩
    case tuple vs => exact .inr ⟨by simp [Region.wanted, hg, yielded, hd, ht], h⟩
theorem run_in {ops : Array Oper} {K : Cont} {D : List Nat} : ∀ (l : List Oper) (L : Env) (S : State), runW P n ops (K .normal D) l L S ->
  ∀ (a : Act) (w : World), Agree n L D a -> Hold w S -> wpListIn (FW ro) 0 P ops (KQ n K w) l a w := by
 intro l
 induction l with
 | nil => intro L S h a w ha hw; exact ⟨D, L, S, h, ha, Ext.refl w, hw⟩
 | cons o l ih =>
  intro L S h a w ha hw
  have mono : ∀ {w w' : World} {a : Act} {l : List Oper}, Ext w w' -> wpListIn (FW ro) 0 P ops (KQ n K w') l a w' -> wpListIn (FW ro) 0 P ops (KQ n K w) l a w' := by
   intro w w' a l he h;have hq : ∀ e a v, KQ n K w' e a v -> KQ n K w e a v := fun _ _ _ h => h.ext he
   clear ih
   have gen : ∀ (l : List Oper) (a : Act) (v : World), wpListIn (FW ro) 0 P ops (KQ n K w') l a v -> wpListIn (FW ro) 0 P ops (KQ n K w) l a v := by
    intro l
    induction l with
    | nil => intro a v h; exact hq _ _ _ h
    | cons o l ih =>
     intro a v h;simp only [wpListIn] at h ⊢
     split at h
     ·rw [if_pos ‹_›];refine ⟨h.1, ?_⟩;have h2 := h.2;generalize (o.semAt (FW ro).round a.eval).run P v = r at *
      cases r with
      | ok x v' =>
       cases x <;> simp only [Oper.uponIn] at h2 ⊢ <;>
        first
         | exact ih _ _ h2
         | exact ⟨h2.1, CallsIn.mono h2.2 (fun e w'' he => by cases e <;> first | exact ih _ _ he | exact hq _ _ _ he | exact (let ⟨a, w, q⟩ := he; ⟨a, w, hq _ _ _ q⟩))⟩
         | exact ⟨h2.1, RowsIn.mono h2.2 (fun _ _ he => ih _ _ he)⟩
         | exact ⟨h2.1, RoundIn.mono h2.2 (fun e w'' he => by cases e <;> first | exact ih _ _ he | exact hq _ _ _ he | exact (let ⟨a, w, q⟩ := he; ⟨a, w, hq _ _ _ q⟩))⟩
      | halt x v' => cases x <;> simp only [Oper.uponIn] at h2 ⊢ <;> exact hq _ _ _ h2
     ·rw [if_neg ‹_›];exact ⟨h.1, ih _ _ h.2⟩
   exact gen l a w' h
  simp only [runW] at h;simp only [wpListIn]
  rcases ZI ha h with ⟨hw1, h⟩ | ⟨hw1, h⟩
  ·rw [if_pos hw1];exact oper_in h ha hw fun v S' w' hk he hh => mono he (ih _ _ hk _ _ (ha.put _ _) hh)
  ·rw [if_neg (by simp [hw1])];exact ⟨fun _ _ => trivial, ih _ _ h _ _ (ha.put _ _) hw⟩
theorem WT {id : Nat} {ops : Array Oper} {K : Cont} {D : List Nat} {L : Env} {S : State} (h : runW P n ops (K .normal D) ops.toList L S) :
  CodeW P n ro (.region id ops false) K D L S :=
 ⟨fun a w ha hw => wpIn_region_list (run_in _ _ _ h a w ha hw)⟩
theorem jm {ops : Array Oper} {K : Env -> State -> Prop} {o : Oper} {l : List Oper} {L : Env} {S : State}
  (h : ∀ N : Env -> State -> Prop, (∀ L S, runW P n ops K l L S -> N L S) -> guardW ops o L (stepW P o.op o.type L S fun v S' => N (putT n o.dst v L) S') (N (putT n o.dst undef L) S)) :
  runW P n ops K (o :: l) L S := h _ fun _ _ h => h
theorem vv {ops : Array Oper} {K : Env -> State -> Prop} {L : Env} {S : State} (h : K L S) : runW P n ops K [] L S := h
theorem xV {id : Nat} {l : List Oper} {K : Cont} {D : List Nat} {L : Env} {S : State} (h : runW P n l.toArray (K .normal D) l L S) :
  CodeW P n ro (.region id l.toArray false) K D L S := WT (by simpa using h)
end Go.Ost
namespace Go.Ost
open Go
variable {P : Program} {n : Nat} {ro : Option Nat}
def jW (P : Program) (f : FuncId) : Bool := match P.funcs[f]? with | some fn => fn.name != "runtime.NumGoroutine" && fn.body.isSome | none => false
structure Meets (P : Program) (f : FuncId) (args : List Value) (A : State) (R : Value -> State -> Prop) : Prop where
 able : jW P f = true
 out : ∀ (F : Chunk) (w : World), Hold w (F :: A) -> CallsIn (FW none) 0 P f args.toArray w
  (wV w fun v S => ∃ A', S = F :: A' /\ R v A')
theorem Meets.mono {f : FuncId} {args : List Value} {A : State} {R R' : Value -> State -> Prop} (h : Meets P f args A R) (hr : ∀ v A', R v A' -> R' v A') : Meets P f args A R' :=
 ⟨h.1, fun F w hw => (h.2 F w hw).mono fun e w' ⟨v, S, a, b, c, A', d, r⟩ => ⟨v, S, a, b, c, A', d, hr _ _ r⟩⟩
theorem xu {f : FuncId} {args : List Value} {S A G : State} {R κ : Value -> State -> Prop} (h : Meets P f args A R) (ht : Take A S G)
  (k : ∀ v A', R v A' -> κ v (A' ++ G)) : CallsW P f args.toArray S κ := by
 refine CallsW.mk' h.1 fun w hw => (h.2 G.flatten w (hw.perm (ht.perm.trans ?_))).mono ?_
 ·simp only [bG, aO]; exact cG
 ·rintro e w' ⟨v, S', rfl, he, hh, A', rfl, r⟩;refine ⟨v, A' ++ G, rfl, he, hh.perm ?_, k v A' r⟩;simp only [bG, aO]; exact cG
def ji (D : List Nat) : State := D.map fun r => [(r, Obj.deferred (some []))]
def resW (P : Program) : List ResultVar -> Env -> State -> (List Value -> Prop) -> Prop
 | [], _, _, κ => κ []
 | .tmp t :: r, L, S, κ => withV (lookT L t) fun v => resW P r L S fun vs => κ (v :: vs)
 | .cell a t :: r, L, S, κ => withV (lookT L a) fun p => ReadW P (Instr.loadAt t p) S fun v => resW P r L S fun vs => κ (v :: vs)
def vK : List Value -> Value
 | [v] => v
 | vs => .tuple vs.toArray
def RetK (P : Program) (rs : List ResultVar) (R : Value -> State -> Prop) (F : Chunk) : Cont
 | .normal, D, L, S | .ret, D, L, S => ∃ S1, Take (ji D) S S1 /\ resW P rs L S1 fun vs => ∃ A', R (vK vs) A' /\ Among (F :: A') S1
 | _, _, _, _ => False
def argsL : Nat -> List Value -> Env
 | _, [] => []
 | i, v :: l => (i, v) :: argsL (i + 1) l
theorem kO {P : Program} {R : Value -> State -> Prop} {F : Chunk} {t : Nat} {L : Env} {S : State} {v : Value} (A' : State) (hv : lookT L t = some v) (hR : R v A') (hs : Among (F :: A') S) :
  RetK P [.tmp t] R F .ret [] L S := ⟨S, .nil S, by simp only [resW, hv, withV]; exact ⟨A', hR, hs⟩⟩
theorem YR {P : Program} {R : Value -> State -> Prop} {F : Chunk} {L : Env} {S : State} (A' : State) (hR : R (.tuple #[]) A') (hs : Among (F :: A') S) :
  RetK P [] R F .ret [] L S := ⟨S, .nil S, A', hR, hs⟩
theorem yf {P : Program} {R : Value -> State -> Prop} {F : Chunk} {L : Env} {S : State} (A' : State) (hR : R (.tuple #[]) A') (hs : Among (F :: A') S) :
  RetK P [] R F .normal [] L S := ⟨S, .nil S, A', hR, hs⟩
theorem XG : ∀ (l : List Value) (i t : Nat) (v : Value), lookT (argsL i l) t = some v -> i <= t /\ l[t - i]? = some v
 | [], i, t, v, h => by simp [argsL, lookT] at h
 | u :: l, i, t, v, h => by
  simp only [argsL, lookT] at h
  split at h
  ·subst_vars; cases h; simp
  ·have := XG l (i + 1) t v h;refine ⟨by omega, ?_⟩;rw [show t - i = (t - (i + 1)) + 1 from by omega, bJ];exact this.2
def resOne (tmps : Array Value) : ResultVar -> Sem Value
 | .tmp t => pure (tmps.getD t undef)
 | .cell b t => do loadVar t (<- asAddr (tmps.getD b undef))
theorem Jw {a : Act} {L : Env} {D : List Nat} {S : State} (ha : Agree n L D a) : ∀ (rs : List ResultVar) (κ : List Value -> Prop), resW P rs L S κ ->
  ∃ vs, (∀ w, Hold w S -> (rs.mapM (resOne a.tmps)).run P w = .ok vs w) /\ κ vs
 | [], κ, h => ⟨[], fun w _ => rfl, h⟩
 | .tmp t :: r, κ, h => by
  simp only [resW] at h
  cases hv : lookT L t with
  | none => rw [hv] at h; exact h.elim
  | some v =>
   rw [hv] at h;obtain ⟨vs, h1, h2⟩ := Jw ha r _ h;refine ⟨v :: vs, fun w hw => ?_, h2⟩;have h3 := ha.get t v hv;have hg : a.tmps.getD t undef = v := by simp [h3]
   rw [List.mapM_cons];simp only [Sem.run_bind, resOne, hg, Sem.run_pure, Result.andThen, h1 w hw]
 | .cell b t :: r, κ, h => by
  simp only [resW] at h
  cases hp : lookT L b with
  | none => rw [hp] at h; exact h.elim
  | some p =>
   rw [hp] at h;obtain ⟨v, h3, h⟩ := h.out;obtain ⟨vs, h1, h2⟩ := Jw ha r _ h;refine ⟨v :: vs, fun w hw => ?_, h2⟩;have hb := ha.get b p hp;have h4 := h3 w hw
   have e : (asAddr p).run P w = (Instr.sureAddr p).run P w ∨ ∃ h w', (Instr.sureAddr p).run P w = .halt h w' := by
    unfold Instr.sureAddr asAddr
    cases p <;> first | exact .inr ⟨_, _, rfl⟩ | skip
    rename_i a; cases a <;> first | exact .inr ⟨_, _, rfl⟩ | exact .inl rfl
   have hg : a.tmps.getD b undef = p := by simp [hb]
   rw [List.mapM_cons];simp only [Sem.run_bind, resOne, hg];unfold Instr.loadAt at h4;rw [Sem.run_bind] at h4
   rcases e with e | ⟨x, w', e⟩
   ·rw [e]
    cases hs : (Instr.sureAddr p).run P w with
    | ok ad w1 =>
     rw [hs] at h4;simp only [Result.andThen] at h4 ⊢;rw [h4];simp only [Result.andThen, h1 w hw, Sem.run_pure]
    | halt x w1 => rw [hs] at h4; simp [Result.andThen] at h4
   ·rw [e] at h4; simp [Result.andThen] at h4
theorem XE {F : Fence} {m : Nat} {fn : Func} {tmps : Array Value} {R : Ending -> World -> Prop} : ∀ (D : List Nat) (T : State) (w0 w : World), Ext w0 w -> Hold w (ji D ++ T) ->
  (∀ w', Ext w0 w' -> Hold w' T -> ∃ v, (results fn tmps).run P w' = .ok v w' /\ R (.returned v) w') -> LeavesInM F m P fn tmps R (D.map JK) .returning w
 | [], T, w0, w, he, hw, h => by
  simp only [dS, LeavesInM, LeavesIn];exact h w he (by simpa [ji] using hw)
 | r :: D, T, w0, w, he, hw, h => by
  simp only [aZ, LeavesInM];refine ⟨by simp, .inl ⟨r, w.putObj r (.deferred none), rfl, ?_, ?_⟩⟩
  ·exact run_takeDeferred (hw.get r _ (by simp [ji]))
  ·have hlt : r < w.heap.size := hw.lt (b := r) (o := .deferred (some [])) (by simp [ji])
   have hw' : Hold (w.putObj r (.deferred none)) ([(r, .deferred none)] :: (ji D ++ T)) :=
    (Upd.one (S := ji D ++ T)).hold (w := w) (by simpa [ji] using hw) (World.putObj_heap_same hlt) (fun k hk => World.putObj_heap_other hk)
   exact XE D T w0 _ (he.trans ⟨rfl, rfl, rfl, by simp⟩) (hw'.sub (by simp)) h
theorem VW (vs : List Value) : (if h : vs.toArray.size = 1 then vs.toArray[0] else .tuple vs.toArray) = vK vs := by
 match vs with
 | [] => simp [vK]
 | [v] => simp [vK]
 | u :: v :: l => simp [vK]
theorem UW {f : FuncId} {fn : Func} {c : Code} {args : List Value} {A : State} {R : Value -> State -> Prop} (hf : P.funcs[f]? = some fn) (hb : fn.body = some c)
  (hn : (fn.name != "runtime.NumGoroutine") = true) (hl : args.length <= fn.ntmps) (h : ∀ F : Chunk, CodeW P fn.ntmps none c (RetK P fn.results.toList R F) [] (argsL 0 args) (F :: A)) : Meets P f args A R := by
 refine ⟨by simp [jW, hf, hb]; simpa using hn, fun F w hw => ?_⟩;refine callsIn_of_wp_marks hf hb trivial (wpIn_mono ((h F).out { tmps := args.toArray ++ Array.replicate (fn.ntmps - args.toArray.size) undef, defers := [] } w ?_ hw) ?_)
 ·refine ⟨by simp; omega, fun t v ht => ?_, rfl⟩;have := XG args 0 t v ht;simp only [bI] at this;have hlt := (List.getElem?_eq_some_iff.1 this.2).1;rw [Array.getElem?_append_left (by simpa using hlt)]
  simpa using this.2
 ·intro e a w' hq;obtain ⟨D, L, S, hk, hag, he, hh⟩ := hq
  have fin : (∃ S1, Take (ji D) S S1 /\ resW P fn.results.toList L S1 fun vs => ∃ A', R (vK vs) A' /\ Among (F :: A') S1) ->
    LeavesInM (FW none) 0 P fn a.tmps (wV w fun v S => ∃ A', S = F :: A' /\ R v A') a.defers .returning w' := by
   rintro ⟨S1, ht, hr⟩;rw [hag.marks];obtain ⟨vs, h1, A', hR, hs⟩ := Jw hag _ _ hr;refine XE D S1 w w' he (hh.perm ht.perm) fun w'' he' hw'' => ⟨vK vs, ?_, vK vs, F :: A', rfl, he', hs.hold hw'', A', rfl, hR⟩
   have e0 : results fn a.tmps = (do let vs <- fn.results.mapM (resOne a.tmps); pure (if h : vs.size = 1 then vs[0] else .tuple vs)) := by
    unfold results
    have e : (fun (x : ResultVar) => (match x with | .tmp t => pure (a.tmps.getD t undef) | .cell b t => do loadVar t (<- asAddr (a.tmps.getD b undef)) : Sem Value)) = resOne a.tmps := by
     funext x; cases x <;> rfl
    rw [<- e]
    rfl
   rw [e0]
   have e1 : ∀ g : ResultVar -> Sem Value, (fn.results.mapM g).run P w'' = ((fn.results.toList.mapM g).run P w'').andThen (fun l w => .ok l.toArray w) := by
    intro g;rw [<- Array.toArray_toList (xs := fn.results)];simp only [List.mapM_toArray]
    cases hx : (fn.results.toList.mapM g).run P w'' <;> simp_all [Result.andThen, Sem.run_map]
   simp only [Sem.run_bind];rw [e1, h1 w'' hw''];simp only [Result.andThen];rw [<- VW]
   rfl
  cases e with
  | normal => exact fin hk
  | ret => exact fin hk
  | exit id => exact hk.elim
  | goto l => exact hk.elim
  | panic ch => exact hk.elim
  | outgrown => exact hk.elim
end Go.Ost
namespace Go.Ost
open Go
variable {P : Program}
theorem zm {m : Sem Value} {v0 : Value} (h : ∀ w, m.run P w = .ok v0 w) (κ : Value -> Prop) : PureW P m κ = κ v0 :=
 propext ⟨fun ⟨v, a, b⟩ => by have e := (a default).symm.trans (h default); cases e; exact b, fun k => ⟨v0, h, k⟩⟩
section ints
variable (t : TypeId) (x y : Operand) (k : IntKind) (a b : Int) (κ : Value -> Prop)
theorem bin_add : PureW P (do eqGuard .add t x y (.int k a) (.int k b); binOp .add t (.int k a) (.int k b)) κ = κ (.int k (k.wrap (a + b))) :=
 zm (fun w => by simp [eqGuard, binOp, Op.intArith]) κ
theorem Yc : PureW P (do eqGuard .sub t x y (.int k a) (.int k b); binOp .sub t (.int k a) (.int k b)) κ = κ (.int k (k.wrap (a - b))) :=
 zm (fun w => by simp [eqGuard, binOp, Op.intArith]) κ
theorem bin_mul : PureW P (do eqGuard .mul t x y (.int k a) (.int k b); binOp .mul t (.int k a) (.int k b)) κ = κ (.int k (k.wrap (a * b))) :=
 zm (fun w => by simp [eqGuard, binOp, Op.intArith]) κ
theorem bin_quo (hb : b ≠ 0) : PureW P (do eqGuard .quo t x y (.int k a) (.int k b); binOp .quo t (.int k a) (.int k b)) κ = κ (.int k (k.wrap (a.tdiv b))) :=
 zm (fun w => by simp [eqGuard, binOp, Op.intDiv, hb]) κ
theorem bin_rem (hb : b ≠ 0) : PureW P (do eqGuard .rem t x y (.int k a) (.int k b); binOp .rem t (.int k a) (.int k b)) κ = κ (.int k (a.tmod b)) :=
 zm (fun w => by simp [eqGuard, binOp, Op.intDiv, hb]) κ
theorem Ye (hb : b ≠ 0) (ha : 0 <= a) : PureW P (do eqGuard .quo t x y (.int k a) (.int k b); binOp .quo t (.int k a) (.int k b)) κ = κ (.int k (k.wrap (a / b))) := by
 rw [bin_quo t x y k a b κ hb, Int.tdiv_eq_ediv_of_nonneg ha]
theorem Yd (hb : b ≠ 0) (ha : 0 <= a) : PureW P (do eqGuard .rem t x y (.int k a) (.int k b); binOp .rem t (.int k a) (.int k b)) κ = κ (.int k (a % b)) := by
 rw [bin_rem t x y k a b κ hb, Int.tmod_eq_emod_of_nonneg ha]
theorem Yg : PureW P (do eqGuard .eql t x y (.int k a) (.int k b); binOp .eql t (.int k a) (.int k b)) κ = κ (.bool (a == b)) :=
 zm (fun w => by simp [eqGuard, binOp, Op.intCmp]) κ
theorem Yf : PureW P (do eqGuard .neq t x y (.int k a) (.int k b); binOp .neq t (.int k a) (.int k b)) κ = κ (.bool (a != b)) :=
 zm (fun w => by simp [eqGuard, binOp, Op.intCmp]) κ
theorem bin_lss : PureW P (do eqGuard .lss t x y (.int k a) (.int k b); binOp .lss t (.int k a) (.int k b)) κ = κ (.bool (decide (a < b))) :=
 zm (fun w => by simp [eqGuard, binOp, Op.intCmp]) κ
theorem bin_leq : PureW P (do eqGuard .leq t x y (.int k a) (.int k b); binOp .leq t (.int k a) (.int k b)) κ = κ (.bool (decide (a <= b))) :=
 zm (fun w => by simp [eqGuard, binOp, Op.intCmp]) κ
theorem bin_gtr : PureW P (do eqGuard .gtr t x y (.int k a) (.int k b); binOp .gtr t (.int k a) (.int k b)) κ = κ (.bool (decide (b < a))) :=
 zm (fun w => by simp [eqGuard, binOp, Op.intCmp]) κ
theorem bin_geq : PureW P (do eqGuard .geq t x y (.int k a) (.int k b); binOp .geq t (.int k a) (.int k b)) κ = κ (.bool (decide (b <= a))) :=
 zm (fun w => by simp [eqGuard, binOp, Op.intCmp]) κ
end ints
theorem un_not (b : Bool) (κ : Value -> Prop) : PureW P (Op.unary .not (.bool b)) κ = κ (.bool !b) := zm (fun w => by simp [Op.unary]) κ
theorem un_neg (k : IntKind) (a : Int) (κ : Value -> Prop) : PureW P (Op.unary .neg (.int k a)) κ = κ (.int k (k.wrap (0 - a))) := zm (fun w => by simp [Op.unary, Op.intArith]) κ
theorem min_two (ats : Array TypeId) (t : TypeId) (k j : IntKind) (a b : Int) (κ : Value -> Prop) :
  PureW P (Builtin.min_ ats t [.int k a, .int j b].toArray) κ = κ (.int k (if b < a then b else a)) := zm (fun w => by simp [Builtin.min_, Builtin.min2]) κ
theorem max_two (ats : Array TypeId) (t : TypeId) (k j : IntKind) (a b : Int) (κ : Value -> Prop) :
  PureW P (Builtin.max_ ats t [.int k a, .int j b].toArray) κ = κ (.int k (if a < b then b else a)) := zm (fun w => by simp [Builtin.max_, Builtin.max2]) κ
theorem ko {n : Int} (h1 : -9223372036854775808 <= n) (h2 : n <= 9223372036854775807) : IntKind.i64.wrap n = n := by
 show (if (decide (n % (2 ^ 64 : Int) >= (2 ^ 63 : Int))) = true then n % (2 ^ 64 : Int) - (2 ^ 64 : Int) else n % (2 ^ 64 : Int)) = n
 simp only [decide_eq_true_eq]
 split <;> omega
theorem yI {n : Int} (h1 : 0 <= n) (h2 : n <= 18446744073709551615) : IntKind.u64.wrap n = n := by
 show n % (2 ^ 64 : Int) = n
 omega
theorem kq {n : Int} (h1 : -2147483648 <= n) (h2 : n <= 2147483647) : IntKind.i32.wrap n = n := by
 show (if (decide (n % (2 ^ 32 : Int) >= (2 ^ 31 : Int))) = true then n % (2 ^ 32 : Int) - (2 ^ 32 : Int) else n % (2 ^ 32 : Int)) = n
 simp only [decide_eq_true_eq]
 split <;> omega
theorem wrap_u32 {n : Int} (h1 : 0 <= n) (h2 : n <= 4294967295) : IntKind.u32.wrap n = n := by
 show n % (2 ^ 32 : Int) = n
 omega
theorem wrap_u16 {n : Int} (h1 : 0 <= n) (h2 : n <= 65535) : IntKind.u16.wrap n = n := by
 show n % (2 ^ 16 : Int) = n
 omega
theorem VP {n : Int} (h1 : 0 <= n) (h2 : n <= 255) : IntKind.u8.wrap n = n := by
 show n % (2 ^ 8 : Int) = n
 omega
class TInt (P : Program) (t : TypeId) (k : outParam IntKind) : Prop where
 und : P.underlying t = some (.int k)
class TStr (P : Program) (t : TypeId) : Prop where
 und : P.underlying t = some .string
class zR (P : Program) (t : TypeId) (e : outParam TypeId) : Prop where
 und : P.underlying t = some (.slice e)
class TStruct (P : Program) (t : TypeId) (fs : outParam (Array Field)) : Prop where
 und : P.underlying t = some (.struct fs)
class TArr (P : Program) (t : TypeId) (n : outParam Nat) (e : outParam TypeId) : Prop where
 und : P.underlying t = some (.array n e)
class TPtr (P : Program) (t : TypeId) (e : outParam TypeId) : Prop where
 und : P.underlying t = some (.pointer e)
class TMap (P : Program) (t : TypeId) (k e : outParam TypeId) : Prop where
 und : P.underlying t = some (.map k e)
class TBool (P : Program) (t : TypeId) : Prop where
 und : P.underlying t = some .bool
def fieldB (P : Program) (s i off ft : Nat) : Bool :=
 match P.underlying s with
 | some (.struct fs) =>
  match fs[i]? with
  | some f => f.offset == off && f.type == ft && (match P.info? ft with | some j => j.size != 0 | none => false)
  | none => false
 | _ => false
class zj (P : Program) (s i : Nat) (off ft : outParam Nat) : Prop where
 ok : fieldB P s i off ft = true
class zh (P : Program) (t : TypeId) (z : outParam Value) (s by_ : outParam Nat) : Prop where
 info : (P.info? t).map (fun i => (i.zero, i.size, i.bytes)) = some (some z, s, by_)
class xe (P : Program) (t : TypeId) : Prop where
 und : (match P.underlying t with | some (.struct _) | some (.array _ _) | none => false | _ => true) = true
class xQ (P : Program) (t : TypeId) : Prop where
 und : (match P.underlying t with | some (.struct _) | some (.array _ _) => true | _ => false) = true
variable {t e : TypeId} {z : Value} {s by_ : Nat}
theorem zx {d : TypeDesc} (h : P.underlying t = some d) (w : World) : (underlying t).run P w = .ok d w := by
 simp [underlying, program, Sem.run_bind, Sem.run, h, Result.andThen]
theorem jf (h : (P.info? t).map (fun i => (i.zero, i.size, i.bytes)) = some (some z, s, by_)) :
  ∃ i, P.info? t = some i /\ i.zero = some z /\ i.size = s /\ i.bytes = by_ := by
 cases hi : P.info? t with
 | none => simp [hi] at h
 | some i => simp [hi] at h; exact ⟨i, rfl, h⟩
theorem zt (h : zh P t z s by_) (w : World) : (sizeOf t).run P w = .ok s w := by
 obtain ⟨i, hi, _, h2, _⟩ := jf h.info
 simp [sizeOf, typeInfo, program, Sem.run_bind, Sem.run, hi, h2, Result.andThen]
theorem zD (h : zh P t z s by_) (w : World) : (zeroValue t).run P w = .ok z w := by
 obtain ⟨i, hi, h1, _, _⟩ := jf h.info
 simp [zeroValue, typeInfo, program, Sem.run_bind, Sem.run, hi, h1, Result.andThen]
theorem zr (h : xe P t) (w : World) : (isAgg t).run P w = .ok false w := by
 have := h.und
 cases hu : P.underlying t with
 | none => simp [hu] at this
 | some d =>
  rw [isAgg, Sem.run_bind, zx hu];rw [hu] at this
  cases d <;> simp_all [Result.andThen]
theorem qV (h : xQ P t) (w : World) : (isAgg t).run P w = .ok true w := by
 have := h.und
 cases hu : P.underlying t with
 | none => simp [hu] at this
 | some d =>
  rw [isAgg, Sem.run_bind, zx hu];rw [hu] at this
  cases d <;> simp_all [Result.andThen]
theorem jo {src dst : TypeId} {j k : IntKind} {i : IntKind} [hs : TInt P src j] [hd : TInt P dst k] (n : Int) (κ : Value -> Prop) :
  PureW P (convert src dst (.int i n)) κ = κ (.int k (k.wrap n)) :=
 zm (fun w => by simp [convert, Sem.run_bind, zx hs.und, zx hd.und, Result.andThen, Conv.intToInt]) κ
theorem add_mk (b o n : Nat) : (Addr.mk b o none).add n = ⟨b, o + n, none⟩ := by
 unfold Addr.add; split
 ·subst_vars; simp
 ·rfl
theorem ZV {w : World} {b o : Nat} {cs : Array Value} {m : Nat × Nat} (h : w.heap[b]? = some (.cells cs e m)) : w.cell? ⟨b, o, none⟩ = cs[o]? := by
 simp [World.cell?, h]
theorem frozen_of {w : World} {b o : Nat} {cs : Array Value} {lo hi : Nat} (h : w.heap[b]? = some (.cells cs e (lo, hi))) : w.frozen? ⟨b, o, none⟩ = (decide (lo <= o) && decide (o < hi)) := by
 simp [World.frozen?, h]
theorem set_heap {w : World} {b o : Nat} {cs : Array Value} {m : Nat × Nat} (h : w.heap[b]? = some (.cells cs e m)) (v : Value) :
  (w.setCell ⟨b, o, none⟩ v).heap[b]? = some (.cells (cs.setIfInBounds o v) e m) /\ ∀ k, k ≠ b -> (w.setCell ⟨b, o, none⟩ v).heap[k]? = w.heap[k]? := by
 simp only [World.setCell, Array.getElem?_modify];refine ⟨by simp [h], fun k hk => by rw [if_neg (Ne.symm hk)]⟩
theorem YM {w : World} {a : Addr} {v : Value} (h : w.cell? a = some v) : (load a).run P w = .ok v w := by simp [load, Sem.run, h]
theorem vw {w : World} {b : Nat} {cs : Array Value} {m : Nat × Nat} (h : w.heap[b]? = some (.cells cs e m)) (o : Nat) : ∀ (n i : Nat) (acc : Array Value), o + i + n <= cs.size ->
  (loadCellsFrom ⟨b, o, none⟩ i n acc).run P w = .ok (acc ++ cs.extract (o + i) (o + i + n)) w
 | 0, i, acc, _ => by simp [loadCellsFrom]; omega
 | n + 1, i, acc, hle => by
  have hlt : o + i < cs.size := by omega
  rw [loadCellsFrom, add_mk, Sem.run_bind, YM (v := cs[o + i]) (by rw [ZV h]; simp [hlt])];simp only [Result.andThen];rw [vw h o n (i + 1) _ (by omega)]
  congr 1
  rw [show o + (i + 1) = o + i + 1 from by omega, show o + i + 1 + n = o + i + (n + 1) from by omega]
  apply cS
  simp only [Array.toList_append, Array.toList_push, Array.toList_extract, aM, List.extract_eq_take_drop]
  congr 1
  rw [show o + i + (n + 1) - (o + i) = n + 1 from by omega, show o + i + (n + 1) - (o + i + 1) = n from by omega];rw [bK (l := cs.toList) (i := o + i) (by simpa using hlt), List.take_succ_cons]
  simp
theorem zE {S : State} {κ : Value -> Prop} {b o : Nat} {cs : Array Value} {m : Nat × Nat} {v : Value} [hf : xe P t] (hl : Lies b (.cells cs e m) S) (hv : cs[o]? = some v) (k : κ v) :
  ReadW P (Instr.loadAt t (.pointer (some ⟨b, o, none⟩))) S κ := by
 refine ⟨v, fun w hw => ?_, k⟩;have hc := hl.get hw
 simp [Instr.loadAt, Instr.sureAddr, loadVar, Sem.run_bind, zr hf, Result.andThen, YM (P := P) (w := w) (a := ⟨b, o, none⟩) (v := v) (by rw [ZV hc]; exact hv)]
theorem xx {S : State} {κ : Value -> Prop} {b : Nat} {m : Nat × Nat} {v : Value} [hf : xe P t] (hl : Lies b (.cells #[v] e m) S) (k : κ v) :
  ReadW P (Instr.loadAt t (.pointer (some ⟨b, 0, none⟩))) S κ := zE hl rfl k
theorem kz {S : State} {κ : Value -> Prop} {b o : Nat} {cs : Array Value} {m : Nat × Nat} [hf : xQ P t] [hs : zh P t z s by_] (hl : Lies b (.cells cs e m) S) (hv : o + s <= cs.size)
  (k : κ (.agg (cs.extract o (o + s)))) : ReadW P (Instr.loadAt t (.pointer (some ⟨b, o, none⟩))) S κ := by
 refine ⟨_, fun w hw => ?_, k⟩;have hc := hl.get hw
 simp [Instr.loadAt, Instr.sureAddr, loadVar, Sem.run_bind, qV hf, zt hs, Result.andThen, loadCells, vw (P := P) hc o s 0 #[] (by omega)]
def xC (cs : Array Value) (o : Nat) : List Value -> Array Value
 | [] => cs
 | v :: l => xC (cs.setIfInBounds o v) (o + 1) l
theorem xg : ∀ (l : List Value) (cs : Array Value) (o : Nat), (xC cs o l).size = cs.size
 | [], _, _ => rfl
 | v :: l, cs, o => by simp [xC, xg l]
def Value.cell1 : Value -> Prop
 | .agg _ | .tuple _ => False
 | _ => True
theorem run_store {w : World} {a : Addr} {v u : Value} (hv : Value.cell1 v) (h : w.cell? a = some u) (hf : w.frozen? a = false) : (store a v).run P w = .ok () (w.setCell a v) := by
 cases v <;> first | exact hv.elim | simp [store, Sem.run, h, hf]
theorem ext_set (w : World) (a : Addr) (v : Value) : Ext w (w.setCell a v) := ⟨rfl, rfl, rfl, by simp [World.setCell]⟩
theorem xz {b o : Nat} {lo hi : Nat} : ∀ (l : List Value) (i : Nat) (w : World) (cs : Array Value), w.heap[b]? = some (.cells cs e (lo, hi)) -> (∀ v ∈ l, Value.cell1 v) -> o + i + l.length <= cs.size -> (hi <= lo ∨ cs.size <= lo) ->
  ∃ w', (storeCells ⟨b, o, none⟩ l i).run P w = .ok () w' /\ Ext w w' /\ w'.heap[b]? = some (.cells (xC cs (o + i) l) e (lo, hi)) /\ ∀ k, k ≠ b -> w'.heap[k]? = w.heap[k]?
 | [], i, w, cs, h, _, _, _ => ⟨w, rfl, Ext.refl w, h, fun _ _ => rfl⟩
 | v :: l, i, w, cs, h, hv, hle, hm => by
  have hlt : o + i < cs.size := by simp at hle; omega
  have hs := set_heap (o := o + i) h v;obtain ⟨w', h1, h2, h3, h4⟩ := xz (o := o) l (i + 1) (w.setCell ⟨b, o + i, none⟩ v) (cs.setIfInBounds (o + i) v) hs.1 (fun u hu => hv u (aK _ hu)) (by simp at hle ⊢; omega) (by simpa using hm);refine ⟨w', ?_, (ext_set _ _ _).trans h2, h3, fun k hk => (h4 k hk).trans (hs.2 k hk)⟩;rw [storeCells, add_mk, Sem.run_bind, run_store (u := cs[o + i]) (hv v (aB ..)) (by rw [ZV h]; simp [hlt]) (by rw [frozen_of h]; simp; omega)];exact h1
theorem zJ {S S' : State} {κ : State -> Prop} {b o : Nat} {cs : Array Value} {v : Value} [hs : zh P t z 1 by_] (hc : Value.cell1 v) (hu : Upd b (.cells cs e (0, 0)) (.cells (cs.setIfInBounds o v) e (0, 0)) S S')
  (ho : o < cs.size) (k : κ S') : UnitW P (Instr.storeAt t (.pointer (some ⟨b, o, none⟩)) v) S κ := by
 refine ⟨fun w hw => ?_⟩;have hg := hu.get hw;obtain ⟨w', h1, h2, h3, h4⟩ := xz (P := P) (b := b) (o := o) [v] 0 w cs hg (fun u hm => by simp at hm; subst hm; exact hc) (by simp; omega) (.inl (aR _));refine ⟨w', S', ?_, h2, hu.hold hw h3 h4, k⟩;have hcs : v.cells = #[v] := by cases v <;> first | exact hc.elim | rfl
 simp [Instr.storeAt, Instr.sureAddr, storeVar, Sem.run_bind, zt hs, Result.andThen, hcs, h1]
theorem zZ {S S' : State} {κ : State -> Prop} {b : Nat} {u v : Value} [hs : zh P t z 1 by_] (hc : Value.cell1 v) (hu : Upd b (.cells #[u] e (0, 0)) (.cells #[v] e (0, 0)) S S')
  (k : κ S') : UnitW P (Instr.storeAt t (.pointer (some ⟨b, 0, none⟩)) v) S κ := zJ (cs := #[u]) hc hu (by simp) k
theorem wm {S S' : State} {κ : State -> Prop} {b o : Nat} {cs : Array Value} {vs : Array Value} [hs : zh P t z s by_] (hz : vs.size = s) (hc : ∀ v ∈ vs.toList, Value.cell1 v)
  (hu : Upd b (.cells cs e (0, 0)) (.cells (xC cs o vs.toList) e (0, 0)) S S') (ho : o + s <= cs.size) (k : κ S') : UnitW P (Instr.storeAt t (.pointer (some ⟨b, o, none⟩)) (.agg vs)) S κ := by
 refine ⟨fun w hw => ?_⟩;have hg := hu.get hw;obtain ⟨w', h1, h2, h3, h4⟩ := xz (P := P) (b := b) (o := o) vs.toList 0 w cs hg hc (by simp [hz]; omega) (.inl (aR _));refine ⟨w', S', ?_, h2, hu.hold hw h3 h4, k⟩
 simp [Instr.storeAt, Instr.sureAddr, storeVar, Sem.run_bind, zt hs, Result.andThen, Value.cells, h1, hz]
theorem vH {w w' : World} {o : Obj} (h : w' = { w with heap := w.heap.push o }) : Ext w w' := by subst h; exact ⟨rfl, rfl, rfl, by simp⟩
theorem zu {S : State} {κ : Value -> State -> Prop} [hs : zh P t z s by_] (k : ∀ b : Nat, κ (.pointer (some ⟨b, 0, none⟩)) ([(b, .cells z.cells t (0, 0))] :: S)) :
  ValW P (Instr.alloc t true (.tuple #[])) S κ := by
 refine ⟨fun w hw => ?_⟩;refine ⟨.pointer (some ⟨w.heap.size, 0, none⟩), { w with heap := w.heap.push (.cells z.cells t) }, _, ?_, vH rfl, hw.new rfl, k _⟩
 simp [Instr.alloc, Sem.run_bind, zD hs, Result.andThen, newVar, newRow, newObj, Sem.run]
theorem yr {S : State} {κ : Value -> State -> Prop} {v : Value} (k : ∀ b : Nat, κ (.pointer (some ⟨b, 0, none⟩)) ([(b, .cells v.cells t (0, 0))] :: S)) :
  ValW P (Instr.box t v) S κ := by
 refine ⟨fun w hw => ?_⟩;refine ⟨.pointer (some ⟨w.heap.size, 0, none⟩), { w with heap := w.heap.push (.cells v.cells t) }, _, ?_, vH rfl, hw.new rfl, k _⟩
 simp [Instr.box, Sem.run_bind, Result.andThen, newVar, newRow, newObj, Sem.run]
theorem ZO {s i off ft : Nat} (h : fieldB P s i off ft = true) :
  ∃ fs f, P.underlying s = some (.struct fs) /\ fs[i]? = some f /\ f.offset = off /\ f.type = ft /\ ∃ j, P.info? ft = some j /\ j.size ≠ 0 := by
 unfold fieldB at h
 split at h
 ·rename_i fs hu
  split at h
  ·rename_i f hf
   simp only [aN, beq_iff_eq] at h;obtain ⟨⟨h1, h2⟩, h3⟩ := h
   split at h3
   ·rename_i j hj
    exact ⟨fs, f, hu, hf, h1, h2, j, hj, by simpa using h3⟩
   ·cases h3
  ·cases h
 ·cases h
theorem OU {s i off ft b o : Nat} {κ : Value -> Prop} [h : zj P s i off ft] :
  PureW P (Instr.fieldAt s (.pointer (some ⟨b, o, none⟩)) i) κ = κ (.pointer (some ⟨b, o + off, none⟩)) :=
 zm (fun w => by
  obtain ⟨fs, f, hu, hf, h1, h2, j, hj, hz⟩ := ZO h.ok
  have hs : (sizeOf f.type).run P w = .ok j.size w := by
   rw [h2]; simp [sizeOf, typeInfo, program, Sem.run_bind, Sem.run, hj, Result.andThen]
  simp only [Instr.fieldAt, Sem.run_bind, zx hu, Result.andThen, hf, Instr.sureAddr, Sem.run_pure, fieldPlace, hs];rw [if_neg hz]
  simp [add_mk, h1, Result.andThen]) κ
theorem wL {t e : TypeId} (h : TPtr P t e) (d : Nat) (a : Option Addr) (w : World) : (Op.equalIn (d + 1) t (.pointer a) (.pointer none)).run P w = .ok a.isNone w := by
 rw [Op.equalIn, Sem.run_bind, zx h.und]
 cases a <;> rfl
theorem XN {t : TypeId} (h : TBool P t) (d : Nat) (a b : Bool) (w : World) : (Op.equalIn (d + 1) t (.bool a) (.bool b)).run P w = .ok (a == b) w := by
 rw [Op.equalIn, Sem.run_bind, zx h.und]
 rfl
theorem nil_eql {t e : TypeId} {x y : Operand} {κ : Value -> Prop} [h : TPtr P t e] (a : Option Addr) :
  PureW P (do eqGuard .eql t x y (.pointer a) (.pointer none); binOp .eql t (.pointer a) (.pointer none)) κ = κ (.bool a.isNone) :=
 zm (fun w => by
  have e : (do eqGuard .eql t x y (.pointer a) (.pointer none); binOp .eql t (.pointer a) (.pointer none) : Sem Value) = (do pure (.bool (<- Op.equalIn (9999 + 1) t (.pointer a) (.pointer none)))) := by
   cases a <;> rfl
  rw [e, Sem.run_bind, wL h]; rfl) κ
theorem nil_neq {t e : TypeId} {x y : Operand} {κ : Value -> Prop} [h : TPtr P t e] (a : Option Addr) :
  PureW P (do eqGuard .neq t x y (.pointer a) (.pointer none); binOp .neq t (.pointer a) (.pointer none)) κ = κ (.bool a.isSome) :=
 zm (fun w => by
  have e : (do eqGuard .neq t x y (.pointer a) (.pointer none); binOp .neq t (.pointer a) (.pointer none) : Sem Value) = (do pure (.bool (!(<- Op.equalIn (9999 + 1) t (.pointer a) (.pointer none))))) := by
   cases a <;> rfl
  rw [e, Sem.run_bind, wL h]; cases a <;> rfl) κ
theorem bool_eql {t : TypeId} {x y : Operand} {κ : Value -> Prop} [h : TBool P t] (a b : Bool) :
  PureW P (do eqGuard .eql t x y (.bool a) (.bool b); binOp .eql t (.bool a) (.bool b)) κ = κ (.bool (a == b)) :=
 zm (fun w => by
  have e : (do eqGuard .eql t x y (.bool a) (.bool b); binOp .eql t (.bool a) (.bool b) : Sem Value) = (do pure (.bool (<- Op.equalIn (9999 + 1) t (.bool a) (.bool b)))) := rfl;rw [e, Sem.run_bind, XN h]; rfl) κ
theorem bool_neq {t : TypeId} {x y : Operand} {κ : Value -> Prop} [h : TBool P t] (a b : Bool) :
  PureW P (do eqGuard .neq t x y (.bool a) (.bool b); binOp .neq t (.bool a) (.bool b)) κ = κ (.bool (a != b)) :=
 zm (fun w => by
  have e : (do eqGuard .neq t x y (.bool a) (.bool b); binOp .neq t (.bool a) (.bool b) : Sem Value) = (do pure (.bool (!(<- Op.equalIn (9999 + 1) t (.bool a) (.bool b))))) := rfl;rw [e, Sem.run_bind, XN h]; rfl) κ
theorem len_slice {ats : Array TypeId} {t u e : TypeId} {a : Option Addr} {n c : Nat} {κ : Value -> Prop} (ha : ats[0]? = some t) [h : zR P t e] :
  PureW P (Builtin.len_ ats u #[.slice a n c]) κ = κ (.int .i64 n) :=
 zm (fun w => by simp [Builtin.len_, ha, Sem.run_bind, zx h.und, Result.andThen, goInt]) κ
theorem OK {ats : Array TypeId} {t u : TypeId} {s : ByteArray} {κ : Value -> Prop} (ha : ats[0]? = some t) [h : TStr P t] :
  PureW P (Builtin.len_ ats u #[.string s]) κ = κ (.int .i64 s.size) :=
 zm (fun w => by simp [Builtin.len_, ha, Sem.run_bind, zx h.und, Result.andThen, goInt]) κ
theorem OL {t u e : TypeId} {a : Option Addr} {n c : Nat} {κ : Value -> Prop} [h : zR P t e] : PureW P (Builtin.len_ #[t] u #[.slice a n c]) κ = κ (.int .i64 n) := len_slice (h := h) rfl
theorem Wv {t u : TypeId} {s : ByteArray} {κ : Value -> Prop} [h : TStr P t] : PureW P (Builtin.len_ #[t] u #[.string s]) κ = κ (.int .i64 s.size) := OK (h := h) rfl
theorem yk {t e : TypeId} {z : Value} {s by_ b o n c : Nat} {k : IntKind} {i : Int} {κ : Value -> Prop} [h : zR P t e] [hs : zh P e z s by_] (h0 : 0 <= i) (h1 : i < n) :
  PureW P (Instr.indexAt t (.slice (some ⟨b, o, none⟩) n c) (.int k i)) κ = κ (.pointer (some ⟨b, o + i.toNat * s, none⟩)) :=
 zm (fun w => by
  simp [Instr.indexAt, asIntOf, Sem.run_bind, zx h.und, Result.andThen, zt hs, h0, h1, add_mk]) κ
theorem arr_addr {t e n : Nat} {z : Value} {s by_ b o : Nat} {k : IntKind} {i : Int} {κ : Value -> Prop} [h : TArr P t n e] [hs : zh P e z s by_] (h0 : 0 <= i) (h1 : i < n) :
  PureW P (Instr.indexAt t (.pointer (some ⟨b, o, none⟩)) (.int k i)) κ = κ (.pointer (some ⟨b, o + i.toNat * s, none⟩)) :=
 zm (fun w => by
  simp [Instr.indexAt, asIntOf, Sem.run_bind, zx h.und, Result.andThen, zt hs, h0, h1, add_mk, Instr.sureAddr]) κ
theorem arr_index {t e n : Nat} {z : Value} {by_ : Nat} {k : IntKind} {i : Int} {cs : Array Value} {v : Value} {κ : Value -> Prop} [h : TArr P t n e] [hs : zh P e z 1 by_] [hf : xe P e] (h0 : 0 <= i) (h1 : i < n) (hv : cs[i.toNat]? = some v) :
  PureW P (Instr.index t (.agg cs) (.int k i)) κ = κ v :=
 zm (fun w => by
  simp [Instr.index, asIntOf, Sem.run_bind, zx h.und, Result.andThen, zt hs, h0, h1, part, zr hf, hv]) κ
theorem ZY {t e n : Nat} {z z' : Value} {s by_ s' by' : Nat} {ps : List (Nat × Value)} {cs : Array Value} {κ : Value -> Prop} [h : TArr P t n e] [hs : zh P t z s by_] [he : zh P e z' s' by']
  (hf : Instr.fill (fun i => some (i * s', s')) z.cells ps = some cs) : PureW P (Instr.build t ps.toArray) κ = κ (.agg cs) :=
 zm (fun w => by
  simp [Instr.build, Sem.run_bind, zx h.und, zD hs, zt he, Result.andThen, hf]) κ
def placesB (P : Program) (t : TypeId) (pl : List (Nat × Nat)) : Bool :=
 match P.underlying t with
 | some (.struct fs) => fs.toList.map (fun f => (f.offset, (P.info? f.type).map (·.size))) == pl.map fun p => (p.1, some p.2)
 | _ => false
class zH (P : Program) (t : TypeId) (pl : outParam (List (Nat × Nat))) : Prop where
 ok : placesB P t pl = true
theorem zV {t : Nat} {z : Value} {s by_ : Nat} {pl : List (Nat × Nat)} {ps : List (Nat × Value)} {cs : Array Value} {κ : Value -> Prop} [h : zH P t pl] [hs : zh P t z s by_]
  (hf : Instr.fill (pl[·]?) z.cells ps = some cs) : PureW P (Instr.build t ps.toArray) κ = κ (.agg cs) := by
 refine zm (fun w => ?_) κ;have hk := h.ok;unfold placesB at hk
 split at hk
 ·rename_i fs hu
  have hk := eq_of_beq hk
  have key : ∀ (g : Field -> Sem (Nat × Nat)), (∀ f s, (P.info? f.type).map (·.size) = some s -> (g f).run P w = .ok (f.offset, s) w) -> ∀ (l : List Field) (pl : List (Nat × Nat)),
    l.map (fun f => (f.offset, (P.info? f.type).map (·.size))) = pl.map (fun p => (p.1, some p.2)) -> (l.mapM g).run P w = .ok pl w := by
   intro g hg l
   induction l with
   | nil => intro pl h; cases pl with
    | nil => rfl
    | cons p pl => simp at h
   | cons f l ih => intro pl h; cases pl with
    | nil => simp at h
    | cons p pl =>
     simp only [aZ, List.cons.injEq, Prod.mk.injEq] at h;obtain ⟨⟨h1, h2⟩, h3⟩ := h;rw [List.mapM_cons, Sem.run_bind, hg f p.2 h2];simp only [Result.andThen];rw [Sem.run_bind, ih pl h3];simp only [Result.andThen];rw [h1]; rfl
  have hm : ∀ (g : Field -> Sem (Nat × Nat)), (∀ f s, (P.info? f.type).map (·.size) = some s -> (g f).run P w = .ok (f.offset, s) w) -> (fs.mapM g).run P w = .ok pl.toArray w := by
   intro g hg;rw [Array.mapM_eq_mapM_toList]
   show ((fs.toList.mapM g >>= fun x => pure x.toArray : Sem (Array (Nat × Nat)))).run P w = _
   rw [Sem.run_bind, key g hg fs.toList pl hk]
   rfl
  unfold Instr.build;rw [Sem.run_bind, zD hs];simp only [Result.andThen];rw [Sem.run_bind, zx hu];simp only [Result.andThen]
  rw [Sem.run_bind, hm _ (fun f s hfs => by
   rw [Option.map_eq_some_iff] at hfs;obtain ⟨i, hi, hi2⟩ := hfs
   simp [sizeOf, typeInfo, program, Sem.run_bind, Sem.run, hi, hi2, Result.andThen])]
  simp only [Result.andThen];have e : (fun i : Nat => pl.toArray[i]?) = (fun i : Nat => pl[i]?) := by funext i; simp
  rw [e, hf]
  rfl
 ·cases hk
end Go.Ost
namespace Go.Ost
open Go
variable {P : Program}
def Rd (s : Nat) (S : State) (a : Option Addr) (len : Nat) (us : List Value) : Prop :=
 us.length = len * s /\ (us ≠ [] -> ∃ b o cs e m, a = some ⟨b, o, none⟩ /\ Lies b (.cells cs e m) S /\ ∀ i, i < us.length -> cs[o + i]? = us[i]?)
def Soft (n : Nat) (m : Nat × Nat) : Prop := m.1 = m.2 ∨ n <= m.1
theorem Soft.or {n : Nat} {m : Nat × Nat} (h : Soft n m) : m.2 <= m.1 ∨ n <= m.1 := h.imp (fun e => Nat.le_of_eq e.symm) id
def Own (s : Nat) (e : TypeId) (C : Chunk) (a : Option Addr) (len cap : Nat) (us : List Value) : Prop :=
 len <= cap /\ cap <= maxLen /\ us.length = len * s /\ ((cap = 0 /\ C = []) ∨ ∃ b o cs m, a = some ⟨b, o, none⟩ /\ C = [(b, .cells cs e m)] /\ Soft cs.size m /\ o + cap * s <= cs.size /\ ∀ i, i < us.length -> cs[o + i]? = us[i]?)
theorem Lies.of_mem {b : Nat} {o : Obj} {C : Chunk} (h : (b, o) ∈ C) : ∀ {S : State}, C ∈ S -> Lies b o S
 | [], hC => by cases hC
 | D :: S, hC => by
  rcases List.mem_cons.1 hC with rfl | hC
  ·exact .here h
  ·exact .next (Lies.of_mem h hC)
theorem Own.rd {s : Nat} {e : TypeId} {C : Chunk} {a : Option Addr} {len cap : Nat} {us : List Value} (h : Own s e C a len cap us) {S : State} (hC : C ∈ S) : Rd s S a len us := by
 obtain ⟨h1, _, h3, h4⟩ := h;refine ⟨h3, fun hne => ?_⟩
 rcases h4 with ⟨h5, _⟩ | ⟨b, o, cs, m, rfl, rfl, _, _, h6⟩
 ·have : len = 0 := by omega
  subst this;rw [Nat.zero_mul] at h3;exact absurd (List.length_eq_zero_iff.1 h3) hne
 ·exact ⟨b, o, cs, e, _, rfl, Lies.of_mem (List.mem_singleton.2 rfl) hC, h6⟩
theorem Rd.next {s : Nat} {S : State} {a : Option Addr} {len : Nat} {us : List Value} (h : Rd s S a len us) (C : Chunk) : Rd s (C :: S) a len us :=
 ⟨h.1, fun hne => let ⟨b, o, cs, e, m, h1, h2, h3⟩ := h.2 hne; ⟨b, o, cs, e, m, h1, h2.next, h3⟩⟩
theorem Rd.nil {s : Nat} {S : State} {a : Option Addr} : Rd s S a 0 [] := ⟨by simp, fun h => absurd rfl h⟩
theorem kw {s : Nat} {S : State} {a : Option Addr} {len c : Nat} {us : List Value} (h : Rd s S a len us) {w : World} (hw : Hold w S) :
  (Builtin.firstCells s len (.slice a len c)).run P w = .ok us.toArray w := by
 obtain ⟨h1, h2⟩ := h
 by_cases hne : us = []
 ·subst hne;have : len * s = 0 := by simpa using h1.symm
  cases a with
  | none => rfl
  | some a => simp [Builtin.firstCells, this, loadCells, loadCellsFrom]
 ·obtain ⟨b, o, cs, e, m, rfl, hl, hc⟩ := h2 hne;have hb := hl.get hw
  have hsz : o + us.length <= cs.size := by
   have hpos : 0 < us.length := List.length_pos_iff.2 hne;have := hc (us.length - 1) (by omega);rw [aF (by omega)] at this;have := (Array.getElem?_eq_some_iff.1 this).1;omega
  simp only [Builtin.firstCells, loadCells];rw [vw (P := P) hb o (len * s) 0 #[] (by rw [<- h1]; omega), <- h1]
  congr 1
  apply Array.ext_getElem?
  intro i;simp only [dQ, Array.empty_append];rw [Array.getElem?_extract]
  by_cases hi : i < us.length
  ·rw [if_pos (by omega), hc i hi]; simp
  ·rw [if_neg (by omega)]; simp; omega
theorem qQ : ∀ (l : List Value) (cs : Array Value) (o i : Nat), o + l.length <= cs.size -> (xC cs o l)[i]? = if o <= i /\ i < o + l.length then l[i - o]? else cs[i]?
 | [], cs, o, i, _ => by rw [if_neg (by rintro ⟨h1, h2⟩; simp at h2; omega)]; rfl
 | v :: l, cs, o, i, h => by
  simp only [aJ] at h ⊢;rw [xC, qQ l _ (o + 1) i (by simp; omega)]
  by_cases h1 : o + 1 <= i /\ i < o + 1 + l.length
  ·rw [if_pos h1, if_pos (by omega), show i - o = i - (o + 1) + 1 from by omega, bJ]
  ·rw [if_neg h1]
   by_cases h2 : i = o
   ·subst h2;rw [if_pos (by omega), Array.getElem?_setIfInBounds_self];rw [if_pos (by omega)]; simp
   ·rw [if_neg (by omega), cO (by omega)]
theorem zn {t t2 ty e e2 : TypeId} {z : Value} {s by_ : Nat} [ht : zR P t e] [ht2 : zR P t2 e2] [hs : zh P e z s by_] (hz : z.cells.size = s) (h0 : 0 < s) {S G : State} {κ : Value -> State -> Prop} {C : Chunk}
  {a b : Option Addr} {len cap n c : Nat} {us vs : List Value} (ho : Own s e C a len cap us) (hC : C = [] /\ G = S ∨ Pick C S G) (hr : Rd s S b n vs) (h1 : ∀ v ∈ vs, Value.cell1 v)
  (hm : len + n <= maxLen) (hb : (len + n) * by_ <= 140737488355328)
  (k : ∀ C' a' cap', Own s e C' a' (len + n) cap' (us ++ vs) -> κ (.slice a' (len + n) cap') (C' :: G)) : ValW P (Builtin.append_ #[t, t2] ty #[.slice a len cap, .slice b n c]) S κ := by
 refine ⟨fun w hw => ?_⟩
 have hCG : Hold w (C :: G) := by
  rcases hC with ⟨rfl, rfl⟩ | hp
  ·exact hw.perm (by simp)
  ·exact hw.perm hp.perm
 have hrd : Rd s (C :: G) a len us := ho.rd (aB ..);have f1 := fun (w : World) hw => kw (P := P) (c := cap) hrd (w := w) hw
 have f2 := fun (w : World) hw => kw (P := P) (c := c) hr (w := w) hw
 have hlv := hr.1;obtain ⟨i, hi, hz1, hsz, hby⟩ := jf hs.info;obtain ⟨hle, hmax, hlen, hcase⟩ := ho
 by_cases hroom : len + n <= cap
 ·rcases hcase with ⟨rfl, rfl⟩ | ⟨b', o, cs, m, rfl, rfl, hsoft, hbig, hcs⟩
  ·obtain rfl : len = 0 := by omega
   obtain rfl : n = 0 := by omega
   obtain rfl : us = [] := List.length_eq_zero_iff.1 (by simpa using hlen);obtain rfl : vs = [] := List.length_eq_zero_iff.1 (by simpa using hlv);refine ⟨.slice a 0 0, w, _, ?_, Ext.refl w, hCG, k [] a 0 ⟨aR _, Nat.zero_le _, by simp, .inl ⟨rfl, rfl⟩⟩⟩
   cases a <;> simp [Builtin.append_, Sem.run_bind, zx ht.und, zx ht2.und, zt hs, Result.andThen, Builtin.lenOf, f2 w hw, storeCells]
  ·have hg : w.heap[b']? = some (.cells cs e m) := hCG.get _ _ (by simp)
   obtain ⟨w', q1, q2, q3, q4⟩ := xz (P := P) (b := b') (o := o + len * s) vs 0 w cs hg h1 (by
    have : (len + n) * s <= cap * s := cF s hroom;rw [cP] at this;omega) hsoft.or
   refine ⟨.slice (some ⟨b', o, none⟩) (len + n) cap, w', _, ?_, q2, (Upd.one (S := G)).hold hCG q3 q4, k _ _ cap ⟨hroom, hmax, ?_, .inr ⟨b', o, _, m, rfl, rfl, by rw [xg]; exact hsoft, ?_, ?_⟩⟩⟩
   ·simp [Builtin.append_, Sem.run_bind, zx ht.und, zx ht2.und, zt hs, Result.andThen, Builtin.lenOf, f2 w hw, hroom, add_mk, q1]
   ·rw [aA, hlen, hlv, cP]
   ·rw [xg]; exact hbig
   ·intro j hj;rw [aA] at hj;have hmul : (len + n) * s <= cap * s := cF s hroom;rw [cP] at hmul;rw [qQ _ _ _ _ (by omega)]
    by_cases hlt : j < us.length
    ·rw [if_neg (by omega), hcs j hlt, cT hlt]
    ·rw [if_pos (by omega), bR (by omega)]
     congr 1; omega
 ·have hge := grownCap_ge w (len + n) cap e;have hcm := grownCap_le_maxLen w (len + n) cap e hm;have hn : ¬ (len + n <= cap) := hroom;have h63' : ¬ (9223372036854775807 < ((len : Int) + (n : Int))) := by simp only [maxLen] at hm; omega
  have h48' : ¬ (281474976710656 < Builtin.nextslicecap (len + n) cap * i.bytes) := by
   rw [hby];have := growslice_fits (by omega : cap < len + n) hb;omega
  have f1' := f1 w.drew ⟨hCG.nd, hCG.get⟩;have f2' := f2 w.drew ⟨hw.nd, hw.get⟩;obtain ⟨cells, hcells⟩ : ∃ cells : Array Value, cells = us.toArray ++ vs.toArray ++ Builtin.zeroCells z.cells (grownCap w (len + n) cap e - (len + n)) := ⟨_, rfl⟩;refine ⟨.slice (some ⟨w.heap.size, 0, none⟩) (len + n) (grownCap w (len + n) cap e), w.drew.alloc (.cells cells e), [(w.heap.size, .cells cells e (0, 0))] :: G, ?_, ⟨rfl, rfl, rfl, by simp⟩, ?_, k _ _ _ ⟨hge, hcm, ?_, .inr ⟨_, 0, cells, (0, 0), rfl, rfl, .inl rfl, ?_, ?_⟩⟩⟩
  ·rw [hcells]
   simp [Builtin.append_, Sem.run_bind, zx ht.und, zx ht2.und, zt hs, zD hs, Result.andThen, typeInfo, program, Sem.run, hi, hn, h63', h48', Question.forced, Builtin.lenOf, f1', f2', newRow, newObj, grownCap, choose]
   generalize Builtin.zeroCells _ _ = X;rw [show us.toArray ++ (vs.toArray ++ X) = (us ++ vs).toArray ++ X from by apply cS; simp]
   rfl
  ·refine Hold.new (w := w) (o := .cells cells e (0, 0)) ?_ rfl;exact hCG.sub (by simp)
  ·rw [aA, hlen, hlv, cP]
  ·rw [hcells];simp only [Array.size_append, List.size_toArray, size_zeroCells, hz, hlen, hlv, <- cP];rw [cD];exact cF s (by omega)
  ·intro j hj;rw [hcells, cD, Array.getElem?_append_left (by simpa using hj)]
   simp
def cutA (s : Nat) (a : Option Addr) (l m : Nat) : Option Addr := if m = l then a else a.map (·.add (l * s))
theorem YT {s : Nat} {S : State} {a : Option Addr} {len : Nat} {us : List Value} (h : Rd s S a len us) {l h' m : Nat} (h1 : l <= h') (h2 : h' <= len) (h3 : h' <= m) :
  Rd s S (cutA s a l m) (h' - l) ((us.drop (l * s)).take ((h' - l) * s)) := by
 obtain ⟨hl, hne⟩ := h;have e1 : l * s + (h' - l) * s = h' * s := by rw [<- cP]; congr 1; omega
 have e2 : h' * s <= len * s := cF s h2;have hlen : ((us.drop (l * s)).take ((h' - l) * s)).length = (h' - l) * s := by rw [aU, aT]; omega
 refine ⟨hlen, fun hn => ?_⟩;have hpos : 0 < (h' - l) * s := by rw [<- hlen]; exact List.length_pos_iff.2 hn
 have hlt : l < h' := by
  rcases Nat.lt_or_ge l h' with h | h
  ·exact h
  ·rw [show h' - l = 0 from by omega, Nat.zero_mul] at hpos; omega
 obtain ⟨b, o, cs, e, mm, rfl, hb, hc⟩ := hne (by intro h0; subst h0; simp at hl; omega);refine ⟨b, o + l * s, cs, e, mm, ?_, hb, fun i hi => ?_⟩
 ·unfold cutA; rw [if_neg (by omega)]; simp [add_mk]
 ·rw [hlen] at hi;rw [show o + l * s + i = o + (l * s + i) from by omega, hc _ (by omega), cX hi, List.getElem?_drop]
theorem Wd {s : Nat} {e : TypeId} {C : Chunk} {a : Option Addr} {len cap : Nat} {us : List Value} (h : Own s e C a len cap us) {l h' m : Nat} (h1 : l <= h') (h2 : h' <= len) (h3 : h' <= m) (h4 : m <= cap) :
  Own s e C (cutA s a l m) (h' - l) (m - l) ((us.drop (l * s)).take ((h' - l) * s)) := by
 obtain ⟨q1, q2, hl, hcase⟩ := h;have e1 : l * s + (h' - l) * s = h' * s := by rw [<- cP]; congr 1; omega
 have e2 : h' * s <= len * s := cF s h2;have hlen : ((us.drop (l * s)).take ((h' - l) * s)).length = (h' - l) * s := by rw [aU, aT]; omega
 refine ⟨by omega, by omega, hlen, ?_⟩
 rcases hcase with ⟨rfl, rfl⟩ | ⟨b, o, cs, m0, rfl, rfl, hsoft, hbig, hc⟩
 ·exact .inl ⟨by omega, rfl⟩
 ·right
  by_cases hm : m = l
  ·refine ⟨b, o, cs, m0, by unfold cutA; rw [if_pos hm], rfl, hsoft, by rw [hm]; simp; omega, fun i hi => ?_⟩;rw [hlen, show h' - l = 0 from by omega, Nat.zero_mul] at hi;omega
  ·refine ⟨b, o + l * s, cs, m0, by unfold cutA; rw [if_neg hm]; simp [add_mk], rfl, hsoft, ?_, fun i hi => ?_⟩
   ·have : l * s + (m - l) * s = m * s := by rw [<- cP]; congr 1; omega
    have : m * s <= cap * s := cF s h4;omega
   ·rw [hlen] at hi;rw [show o + l * s + i = o + (l * s + i) from by omega, hc _ (by omega), cX hi, List.getElem?_drop]
theorem qz {α : Type} {f : α -> Value} {S : State} {a : Option Addr} {len : Nat} {us : List α} (h : Rd 1 S a len (us.map f)) {l h' m : Nat} (h1 : l <= h') (h2 : h' <= len) (h3 : h' <= m) :
  Rd 1 S (cutA 1 a l m) (h' - l) (((us.drop l).take (h' - l)).map f) := by
 have q := YT h h1 h2 h3
 simpa only [Nat.mul_one, List.map_take, List.map_drop] using q
theorem YY {α : Type} {f : α -> Value} {e : TypeId} {C : Chunk} {a : Option Addr} {len cap : Nat} {us : List α} (h : Own 1 e C a len cap (us.map f)) {l h' m : Nat} (h1 : l <= h') (h2 : h' <= len) (h3 : h' <= m) (h4 : m <= cap) :
  Own 1 e C (cutA 1 a l m) (h' - l) (m - l) (((us.drop l).take (h' - l)).map f) := by
 have q := Wd h h1 h2 h3 h4
 simpa only [Nat.mul_one, List.map_take, List.map_drop] using q
theorem cut_hi {t e : TypeId} {z : Value} {s by_ : Nat} {κ : Value -> Prop} [ht : zR P t e] [hs : zh P e z s by_] {a : Option Addr} {len cap : Nat} {k : IntKind} {h : Int} (h0 : 0 <= h) (h1 : h <= cap) :
  PureW P (Instr.sliceAt t (.slice a len cap) none (some (.int k h)) none) κ = κ (.slice (cutA s a 0 cap) (h.toNat - 0) (cap - 0)) :=
 zm (fun w => by
  simp only [Instr.sliceAt, Instr.slice, Sem.run_bind, zx ht.und, Result.andThen, Instr.sliceBounds, Instr.sliceBound, asIntOf, Sem.run_pure]
  simp [zt hs, Result.andThen, Sem.run_bind, cutA, h0, h1]) κ
theorem cut_lo {t e : TypeId} {z : Value} {s by_ : Nat} {κ : Value -> Prop} [ht : zR P t e] [hs : zh P e z s by_] {a : Option Addr} {len cap : Nat} {j : IntKind} {l : Int} (l0 : 0 <= l) (l1 : l <= len) :
  PureW P (Instr.sliceAt t (.slice a len cap) (some (.int j l)) none none) κ = κ (.slice (cutA s a l.toNat cap) (len - l.toNat) (cap - l.toNat)) :=
 zm (fun w => by
  simp only [Instr.sliceAt, Instr.slice, Sem.run_bind, zx ht.und, Result.andThen, Instr.sliceBounds, Instr.sliceBound, asIntOf, Sem.run_pure]
  simp [zt hs, Result.andThen, Sem.run_bind, cutA, l0, l1]) κ
theorem cut_lohi {t e : TypeId} {z : Value} {s by_ : Nat} {κ : Value -> Prop} [ht : zR P t e] [hs : zh P e z s by_] {a : Option Addr} {len cap : Nat} {j k : IntKind} {l h : Int} (h0 : 0 <= h) (h1 : h <= cap) (l0 : 0 <= l) (l1 : l <= h) :
  PureW P (Instr.sliceAt t (.slice a len cap) (some (.int j l)) (some (.int k h)) none) κ = κ (.slice (cutA s a l.toNat cap) (h.toNat - l.toNat) (cap - l.toNat)) :=
 zm (fun w => by
  have l1' : l <= max h 0 := by omega
  simp only [Instr.sliceAt, Instr.slice, Sem.run_bind, zx ht.und, Result.andThen, Instr.sliceBounds, Instr.sliceBound, asIntOf, Sem.run_pure]
  simp [zt hs, Result.andThen, Sem.run_bind, cutA, h0, h1, l0, l1, l1']) κ
theorem cut_himax {t e : TypeId} {z : Value} {s by_ : Nat} {κ : Value -> Prop} [ht : zR P t e] [hs : zh P e z s by_] {a : Option Addr} {len cap : Nat} {k q : IntKind} {h m : Int} (m0 : 0 <= m) (m1 : m <= cap) (h0 : 0 <= h) (h1 : h <= m) :
  PureW P (Instr.sliceAt t (.slice a len cap) none (some (.int k h)) (some (.int q m))) κ = κ (.slice (cutA s a 0 m.toNat) (h.toNat - 0) (m.toNat - 0)) :=
 zm (fun w => by
  have h1' : h <= max m 0 := by omega
  simp only [Instr.sliceAt, Instr.slice, Sem.run_bind, zx ht.und, Result.andThen, Instr.sliceBounds, Instr.sliceBound, asIntOf, Sem.run_pure]
  simp [zt hs, Result.andThen, Sem.run_bind, cutA, m0, m1, h0, h1, h1']) κ
theorem WM {t e : TypeId} {z : Value} {s by_ : Nat} {κ : Value -> Prop} [ht : zR P t e] [hs : zh P e z s by_] {a : Option Addr} {len cap : Nat} {j k q : IntKind} {l h m : Int} (m0 : 0 <= m) (m1 : m <= cap) (h0 : 0 <= h) (h1 : h <= m) (l0 : 0 <= l) (l1 : l <= h) :
  PureW P (Instr.sliceAt t (.slice a len cap) (some (.int j l)) (some (.int k h)) (some (.int q m))) κ = κ (.slice (cutA s a l.toNat m.toNat) (h.toNat - l.toNat) (m.toNat - l.toNat)) :=
 zm (fun w => by
  have h1' : h <= max m 0 := by omega
  have l1' : l <= max h 0 := by omega
  simp only [Instr.sliceAt, Instr.slice, Sem.run_bind, zx ht.und, Result.andThen, Instr.sliceBounds, Instr.sliceBound, asIntOf, Sem.run_pure]
  simp [zt hs, Result.andThen, Sem.run_bind, cutA, m0, m1, h0, h1, l0, l1, h1', l1']) κ
theorem JW : ∀ (vs done rest : List Value), (∀ v ∈ vs, Value.cell1 v) -> rest.length = vs.length ->
  Instr.fill (fun i => some (i, 1)) (done ++ rest).toArray ((vs.zipIdx done.length).map fun x => (x.2, x.1)) = some (done ++ vs).toArray
 | [], done, rest, hc, hr => by
  have : rest = [] := List.length_eq_zero_iff.1 hr;subst this; simp [Instr.fill]
 | v :: vs, done, [], hc, hr => by simp at hr
 | v :: vs, done, r :: rest, hc, hr => by
  have hcv : v.cells = #[v] := by have := hc v (aB ..); cases v <;> first | exact this.elim | rfl
  have ih := JW vs (done ++ [v]) rest (fun u hu => hc u (aK _ hu)) (by simpa using hr);simp only [List.zipIdx_cons, aZ, Instr.fill, hcv];rw [if_neg (by simp)];simp only [aA, aJ, aV, aM, aC, aD, cD] at ih;rw [<- ih]
  have e : (#[v].zipIdx.foldl (fun cs x => match x with | (c, j) => cs.setIfInBounds (done.length + j) c) (done ++ r :: rest).toArray) = (done ++ v :: rest).toArray := by
   apply cS
   simp
  rw [<- e]
theorem ZX {t e : TypeId} {z : Value} {by_ : Nat} [ht : zR P t e] [hs : zh P e z 1 by_] (hz : z.cells.size = 1) {n : Nat} {ps : List (Nat × Value)} {S : State} {κ : Value -> State -> Prop} (hn : n <= 16777216)
  (hi : ps.map (·.1) = bC n) (hc : ∀ v ∈ ps.map (·.2), Value.cell1 v)
  (k : ∀ b : Nat, κ (.slice (some ⟨b, 0, none⟩) n n) ([(b, .cells (ps.map (·.2)).toArray e (0, 0))] :: S)) : ValW P (Instr.buildSlice t n ps.toArray) S κ := by
 refine ⟨fun w hw => ?_⟩;have hlen : ps.length = n := by have := congrArg cV hi; simpa using this
 have hps : ps = ((ps.map (·.2)).zipIdx 0).map fun x => (x.2, x.1) := by
  apply List.ext_getElem?
  intro i;have h1 := congrArg (fun l => l[i]?) hi;simp only [cN, List.getElem?_range] at h1;simp only [cN, List.getElem?_zipIdx]
  cases hp : ps[i]? with
  | none => simp
  | some p =>
   rw [hp] at h1;have hlt := (List.getElem?_eq_some_iff.1 hp).1;rw [List.getElem?_range (by omega)] at h1
   simp at h1
   obtain ⟨p1, p2⟩ := p
   simp at h1 ⊢
   exact h1
 have hf := JW (ps.map (·.2)) [] (aQ n z.cells[0]!) hc (by simp [hlen]);simp only [aD, aV] at hf;rw [<- hps] at hf;refine ⟨_, { w with heap := w.heap.push (.cells (ps.map (·.2)).toArray e) }, _, ?_, vH rfl, hw.new rfl, k _⟩
 have hmod : (Array.range n).map (fun x => z.cells[x % z.cells.size]!) = (aQ n z.cells[0]!).toArray := by
  apply cS
  simp [hz, Nat.mod_one]
  rw [List.map_const', List.length_range]
 by_cases h0 : n = 0
 ·subst h0;have : ps = [] := List.length_eq_zero_iff.1 hlen;subst this
  simp [Instr.buildSlice, Sem.run_bind, zx ht.und, zt hs, Result.andThen, Instr.fill, newRow, newObj, Sem.run, show Array.range 0 = #[] from rfl]
 ·simp [Instr.buildSlice, Sem.run_bind, zx ht.und, zt hs, zD hs, Result.andThen, newRow, newObj, Sem.run, h0, show ¬ 16777216 < n from by omega]
  rw [hmod, hf]
  rfl
def elA (a : Option Addr) (i : Nat) : Addr := (a.getD ⟨0, 0, none⟩).add i
theorem wH {t e : TypeId} {z : Value} {by_ : Nat} {S : State} {a : Option Addr} {len cap : Nat} {us : List Value} {k : IntKind} {i : Int} {κ : Value -> Prop} [h : zR P t e] [hs : zh P e z 1 by_]
  (hr : Rd 1 S a len us) (h0 : 0 <= i) (h1 : i < len) : PureW P (Instr.indexAt t (.slice a len cap) (.int k i)) κ = κ (.pointer (some (elA a i.toNat))) := by
 obtain ⟨hl, hne⟩ := hr;obtain ⟨b, o, cs, et, m, rfl, _, _⟩ := hne (by intro e; subst e; simp at hl; omega);rw [yk h0 h1]
 simp [elA, add_mk]
theorem JA {t : TypeId} {S : State} {a : Option Addr} {len : Nat} {us : List Value} {i : Nat} {v : Value} {κ : Value -> Prop} [hf : xe P t]
  (hr : Rd 1 S a len us) (hv : us[i]? = some v) (k : κ v) : ReadW P (Instr.loadAt t (.pointer (some (elA a i)))) S κ := by
 have hi := (List.getElem?_eq_some_iff.1 hv).1;obtain ⟨hl, hne⟩ := hr;obtain ⟨b, o, cs, et, m, rfl, hb, hc⟩ := hne (by intro e; subst e; simp at hi);simp only [elA, cI, add_mk];exact zE hb (by rw [hc i hi]; exact hv) k
end Go.Ost
namespace Go.Ost
open Go
variable {P : Program}
abbrev W32 := BitVec 32
def b32 (x : BitVec 32) : Value := .int .u32 x.toNat
def b8 (x : UInt8) : Value := .int .u8 x.toNat
theorem Yh (x : UInt8) : Value.cell1 (b8 x) := trivial
theorem wU (x : BitVec 32) : Value.cell1 (b32 x) := trivial
theorem wrap32_mod (n : Nat) : IntKind.u32.wrap (n : Int) = ((n % 4294967296 : Nat) : Int) := by
 show ((n : Int) % (2 ^ 32 : Int)) = _
 omega
theorem qC {k : Nat} (x : BitVec k) : bB k (x.toNat : Int) = x := by
 apply BitVec.eq_of_toNat_eq
 simp
section words
variable (t : TypeId) (x y : Operand) (a b : BitVec 32) (κ : Value -> Prop)
theorem w_add : PureW P (do eqGuard .add t x y (b32 a) (b32 b); binOp .add t (b32 a) (b32 b)) κ = κ (b32 (a + b)) := by
 refine (bin_add t x y .u32 _ _ κ).trans ?_;rw [<- Int.natCast_add, wrap32_mod]; rfl
theorem w_sub : PureW P (do eqGuard .sub t x y (b32 a) (b32 b); binOp .sub t (b32 a) (b32 b)) κ = κ (b32 (a - b)) := by
 refine (Yc t x y .u32 _ _ κ).trans ?_
 congr 2
 have h1 := a.isLt;have h2 := b.isLt;rw [show ((a.toNat : Int) - b.toNat) = ((4294967296 - b.toNat + a.toNat : Nat) : Int) - 4294967296 from by omega];rw [BitVec.toNat_sub]
 show ((_ : Int) % (2 ^ 32 : Int)) = _
 omega
theorem Iu {o : BinOp} {r : BitVec 32} (h : ∀ w, (Op.intBits o .u32 a.toNat b.toNat).run P w = .ok (.int .u32 (IntKind.u32.wrap r.toNat)) w) (hb : ∀ w, (do eqGuard o t x y (b32 a) (b32 b); binOp o t (b32 a) (b32 b) : Sem Value).run P w = (Op.intBits o .u32 a.toNat b.toNat).run P w) :
  PureW P (do eqGuard o t x y (b32 a) (b32 b); binOp o t (b32 a) (b32 b)) κ = κ (b32 r) :=
 zm (fun w => by
  rw [hb, h, wrap32_mod];have := r.isLt;rw [cU (by simpa using this)]; rfl) κ
theorem w_and : PureW P (do eqGuard .and t x y (b32 a) (b32 b); binOp .and t (b32 a) (b32 b)) κ = κ (b32 (a &&& b)) :=
 Iu t x y a b κ (fun w => by
  show Result.ok (Value.int .u32 (IntKind.u32.wrap ((bB 32 (a.toNat : Int) &&& bB 32 (b.toNat : Int)).toNat : Int))) w = _
  rw [qC, qC]) (fun w => by simp [eqGuard, binOp, b32])
theorem w_or : PureW P (do eqGuard .or t x y (b32 a) (b32 b); binOp .or t (b32 a) (b32 b)) κ = κ (b32 (a ||| b)) :=
 Iu t x y a b κ (fun w => by
  show Result.ok (Value.int .u32 (IntKind.u32.wrap ((bB 32 (a.toNat : Int) ||| bB 32 (b.toNat : Int)).toNat : Int))) w = _
  rw [qC, qC]) (fun w => by simp [eqGuard, binOp, b32])
theorem w_xor : PureW P (do eqGuard .xor t x y (b32 a) (b32 b); binOp .xor t (b32 a) (b32 b)) κ = κ (b32 (a ^^^ b)) :=
 Iu t x y a b κ (fun w => by
  show Result.ok (Value.int .u32 (IntKind.u32.wrap ((bB 32 (a.toNat : Int) ^^^ bB 32 (b.toNat : Int)).toNat : Int))) w = _
  rw [qC, qC]) (fun w => by simp [eqGuard, binOp, b32])
theorem w_not : PureW P (Op.unary .xor (b32 a)) κ = κ (b32 (~~~a)) :=
 zm (fun w => by
  have h : bB 32 4294967295 = BitVec.allOnes 32 := by decide
  show Result.ok (Value.int .u32 (IntKind.u32.wrap ((bB 32 4294967295 ^^^ bB 32 (a.toNat : Int)).toNat : Int))) w = _
  rw [qC, h, BitVec.allOnes_xor, wrap32_mod, cU (~~~a).isLt]
  rfl) κ
theorem w_shl {j : IntKind} {n : Int} (h0 : 0 <= n) (h1 : n <= 32) : PureW P (do eqGuard .shl t x y (b32 a) (.int j n); binOp .shl t (b32 a) (.int j n)) κ = κ (b32 (a <<< n.toNat)) :=
 zm (fun w => by
  have e : min n.toNat IntKind.u32.bits = n.toNat := by show min n.toNat 32 = n.toNat; omega
  have h3 : ¬ n < 0 := by omega
  show (Op.shift .shl .u32 (a.toNat : Int) j n).run P w = _
  rw [Op.shift, if_neg h3, e]
  show Result.ok (Value.int .u32 (IntKind.u32.wrap ((a.toNat : Int) * 2 ^ n.toNat))) w = _
  rw [show ((a.toNat : Int) * 2 ^ n.toNat) = ((a.toNat * 2 ^ n.toNat : Nat) : Int) from by simp, wrap32_mod, <- dJ]
  rfl) κ
theorem w_shr {j : IntKind} {n : Int} (h0 : 0 <= n) (h1 : n <= 32) : PureW P (do eqGuard .shr t x y (b32 a) (.int j n); binOp .shr t (b32 a) (.int j n)) κ = κ (b32 (a >>> n.toNat)) :=
 zm (fun w => by
  have e : min n.toNat IntKind.u32.bits = n.toNat := by show min n.toNat 32 = n.toNat; omega
  have h3 : ¬ n < 0 := by omega
  show (Op.shift .shr .u32 (a.toNat : Int) j n).run P w = _
  rw [Op.shift, if_neg h3, e]
  show Result.ok (Value.int .u32 (Int.fdiv (a.toNat : Int) (2 ^ n.toNat))) w = _
  rw [show Int.fdiv (a.toNat : Int) (2 ^ n.toNat) = ((a.toNat / 2 ^ n.toNat : Nat) : Int) from by
   rw [Int.fdiv_eq_ediv_of_nonneg _ (Int.le_of_lt (Int.pow_pos (by decide)))]
   simp, <- Nat.shiftRight_eq_div_pow]
  rfl) κ
end words
def str (bs : List UInt8) : ByteArray := ⟨bs.toArray⟩
theorem push_str (l : List UInt8) : ∀ (r : ByteArray), (l.map fun x => ((x.toNat : Nat) : Int)).foldl (fun r n => r.push (aH n.toNat)) r = ⟨r.data ++ l.toArray⟩ := by
 induction l with
 | nil => intro r; cases r; simp
 | cons x l ih =>
  intro r;simp only [aZ, List.foldl_cons];rw [ih]
  simp [ByteArray.push]
theorem xm {src dst e : TypeId} [hs : zR P src e] [he : TInt P e .u8] [hd : TStr P dst] {S : State} {κ : Value -> State -> Prop} {a : Option Addr} {len cap : Nat} {bs : List UInt8} (h : Rd 1 S a len (bs.map b8))
  (k : κ (.string (str bs)) S) : ConvW P src dst (.slice a len cap) S κ := by
 refine ⟨fun w hw => ⟨_, w, S, ?_, Ext.refl w, hw, k⟩⟩;rw [run_convert_bytes_string w src dst e a len cap hs.und he.und hd.und];have f := kw (P := P) (c := cap) h hw
 cases a with
 | none =>
  have : bs = [] := by
   have h2 := h.2
   cases bs with
   | nil => rfl
   | cons x l => obtain ⟨_, _, _, _, _, h3, _⟩ := h2 (by simp); cases h3
  subst this; rfl
 | some a =>
  simp only [Builtin.firstCells, Nat.mul_one] at f;rw [run_bytesToString w a len cap (bs.map fun x => ((x.toNat : Nat) : Int)) (by rw [f]; simp [b8, Function.comp_def])];rw [push_str]
  congr 2
  simp [str]
theorem YL {w : World} {b o : Nat} {cs : Array Value} {e : TypeId} {m : Nat × Nat} (h : w.heap[b]? = some (.cells cs e m)) (hm : Soft cs.size m) :
  ∃ w' m', (markStringish ⟨b, o, none⟩).run P w = .ok () w' /\ Ext w w' /\ Soft cs.size m' /\ w'.heap[b]? = some (.cells cs e m') /\ ∀ k, k ≠ b -> w'.heap[k]? = w.heap[k]? := by
 obtain ⟨lo, hi⟩ := m;refine ⟨w.freeze { block := b, off := cs.size } 1, if lo == hi then (cs.size, cs.size + 1) else (min lo cs.size, max hi (cs.size + 1)), ?_, ?_, ?_, ?_, ?_⟩
 ·have hsh : w.shape? b = some (e, cs.size) := by simp [World.shape?, h]
  simp [markStringish, shape, freeze, Sem.run_bind, Sem.run, hsh, Result.andThen]
 ·exact ⟨rfl, rfl, rfl, by simp [World.freeze]⟩
 ·unfold Soft at hm ⊢
  split
  ·exact .inr (aR _)
  ·rename_i hne
   rcases hm with hm | hm
   ·exact absurd hm (by simpa using hne)
   ·right; simp only at hm ⊢; omega
 ·simp only [World.freeze];rw [if_neg (by decide)];simp only [Array.getElem?_modify, if_true, h, dE]
 ·intro k hk;simp only [World.freeze];rw [if_neg (by decide)];simp only [Array.getElem?_modify];rw [if_neg (Ne.symm hk)]
theorem wN {t e : TypeId} [ht : zR P t e] [he : TInt P e .u8] {S G : State} {κ : Value -> State -> Prop} {C : Chunk} {ad : Addr} {len cap : Nat} {us : List Value} (ho : Own 1 e C (some ad) len cap us) (hp : Pick C S G)
  (hpos : 0 < cap) (k : ∀ C', Own 1 e C' (some ad) len cap us -> κ (.slice (some ad) len cap) (C' :: G)) : ConvW P t t (.slice (some ad) len cap) S κ := by
 refine ⟨fun w hw => ?_⟩;obtain ⟨h1, h2, h3, h4⟩ := ho
 rcases h4 with ⟨h5, _⟩ | ⟨b, o, cs, m, h5, rfl, hs, hbig, hc⟩
 ·omega
 ·cases h5
  have hCG := hw.perm hp.perm;obtain ⟨w', m', q1, q2, q3, q4, q5⟩ := YL (P := P) (o := o) (hCG.get b (.cells cs e m) (by simp)) hs;refine ⟨_, w', _, ?_, q2, (Upd.one (S := G)).hold hCG q4 q5, k [(b, .cells cs e m')] ⟨h1, h2, h3, .inr ⟨b, o, cs, m', rfl, rfl, q3, hbig, hc⟩⟩⟩
  simp [convert, Sem.run_bind, zx ht.und, zx he.und, Result.andThen, q1]
theorem zK {src dst e : TypeId} [hs : TStr P src] [hd : zR P dst e] [he : TInt P e .u8] {S : State} {κ : Value -> State -> Prop} {bs : List UInt8} (hm : bs.length <= maxLen)
  (k : ∀ C a cap, Own 1 e C (some a) bs.length cap (bs.map b8) -> κ (.slice (some a) bs.length cap) (C :: S)) : ConvW P src dst (.string (str bs)) S κ := by
 refine ⟨fun w hw => ?_⟩;have hge := grownCap_ge w bs.length 0 e;have hcm := grownCap_le_maxLen w bs.length 0 e hm;obtain ⟨cells, hcells⟩ : ∃ cells : Array Value, cells = (bs.map b8).toArray ++ Array.replicate (grownCap w bs.length 0 e - bs.length) (.int .u8 0) := ⟨_, rfl⟩;have hw1 : Hold (w.drew.alloc (.cells cells e)) ([(w.heap.size, .cells cells e (0, 0))] :: S) := Hold.new (w := w) hw rfl;obtain ⟨w', m', q1, q2, q3, q4, q5⟩ := YL (P := P) (o := 0) (hw1.get w.heap.size (.cells cells e (0, 0)) (by simp)) (.inl rfl);refine ⟨.slice (some ⟨w.heap.size, 0, none⟩) bs.length (grownCap w bs.length 0 e), w', _, ?_, Ext.trans (a := w) (b := w.drew.alloc (.cells cells e)) ⟨rfl, rfl, rfl, by simp⟩ q2, (Upd.one (S := S)).hold hw1 q4 q5, k [(w.heap.size, .cells cells e m')] _ _ ⟨hge, hcm, by simp, .inr ⟨_, 0, cells, m', rfl, rfl, q3, ?_, ?_⟩⟩⟩
 ·have e1 : (str bs).data.map (fun b => Value.int .u8 b.toNat) = (bs.map b8).toArray := by simp [str, b8, Function.comp_def]
  have e2 : (str bs).size = bs.length := by simp [str, ByteArray.size]
  have r : (convert src dst (.string (str bs))).run P w = (Conv.stringToBytes e (str bs)).run P w := by
   simp [convert, Sem.run_bind, zx hs.und, zx hd.und, zx he.und, Result.andThen]
  rw [r];unfold Conv.stringToBytes;simp only [Sem.run_bind, e1, e2];have c1 : (choose (Question.appendCap bs.length 0 e)).run P w = .ok (grownCap w bs.length 0 e) w.drew := by rw [run_choose_drew]; simp [Question.forced, grownCap]
  have c2 : (newRow e cells).run P w.drew = .ok ⟨w.heap.size, 0, none⟩ (w.drew.alloc (.cells cells e)) := rfl;rw [c1];simp only [Result.andThen];rw [<- hcells, c2];simp only [Result.andThen];rw [q1]
  rfl
 ·rw [hcells]; simp; omega
 ·intro i hi;rw [hcells, cD, Array.getElem?_append_left (by simpa using hi)]
  simp
theorem cq_b8_32 {s d : TypeId} [hs : TInt P s .u8] [hd : TInt P d .u32] {x : UInt8} {κ : Value -> Prop} : PureW P (convert s d (b8 x)) κ = κ (b32 (cZ 32 x.toNat)) := by
 show PureW P (convert s d (.int .u8 (x.toNat : Int))) κ = _
 rw [jo, wrap32_mod]
 rfl
theorem cq_b32_8 {s d : TypeId} [hs : TInt P s .u32] [hd : TInt P d .u8] {x : W32} {κ : Value -> Prop} : PureW P (convert s d (b32 x)) κ = κ (b8 (aH x.toNat)) := by
 show PureW P (convert s d (.int .u32 (x.toNat : Int))) κ = _
 rw [jo]
 have : IntKind.u8.wrap (x.toNat : Int) = ((aH x.toNat).toNat : Int) := by
  show ((x.toNat : Int) % (2 ^ 8 : Int)) = _
  rw [bL];omega
 rw [this]; rfl
theorem cq_b32_64 {s d : TypeId} [hs : TInt P s .u32] [hd : TInt P d .u64] {x : W32} {κ : Value -> Prop} : PureW P (convert s d (b32 x)) κ = κ (.int .u64 x.toNat) := by
 show PureW P (convert s d (.int .u32 (x.toNat : Int))) κ = _
 rw [jo, yI (by omega) (by have := x.isLt; omega)]
theorem Ic {s d : TypeId} [hs : TInt P s .u8] [hd : TInt P d .u32] {x : UInt8} {S : State} {κ : Value -> State -> Prop} : ConvW P s d (b8 x) S κ = κ (b32 (cZ 32 x.toNat)) S := by
 show PureW P (convert s d (.int .u8 (x.toNat : Int))) (fun v => κ v S) = _
 rw [jo, wrap32_mod]
 rfl
theorem WO {s d : TypeId} {k : IntKind} [hs : TInt P s .u8] [hd : TInt P d k] {x : UInt8} {S : State} {κ : Value -> State -> Prop} (h : k.wrap (x.toNat : Int) = x.toNat) : ConvW P s d (b8 x) S κ = κ (.int k x.toNat) S := by
 show PureW P (convert s d (.int .u8 (x.toNat : Int))) (fun v => κ v S) = _
 rw [jo, h]
theorem Id {s d : TypeId} [hs : TInt P s .u32] [hd : TInt P d .u8] {x : W32} {S : State} {κ : Value -> State -> Prop} : ConvW P s d (b32 x) S κ = κ (b8 (aH x.toNat)) S := by
 show PureW P (convert s d (.int .u32 (x.toNat : Int))) (fun v => κ v S) = _
 rw [jo]
 have : IntKind.u8.wrap (x.toNat : Int) = ((aH x.toNat).toNat : Int) := by
  show ((x.toNat : Int) % (2 ^ 8 : Int)) = _
  rw [bL];omega
 rw [this]; rfl
theorem WR {s d : TypeId} [hs : TInt P s .u32] [hd : TInt P d .u64] {x : W32} {S : State} {κ : Value -> State -> Prop} : ConvW P s d (b32 x) S κ = κ (.int .u64 x.toNat) S := by
 show PureW P (convert s d (.int .u32 (x.toNat : Int))) (fun v => κ v S) = _
 rw [jo, yI (by omega) (by have := x.isLt; omega)]
def rowW (l : List W32) : Array Value := (l.map b32).toArray
theorem wv (l : List W32) : (rowW l).size = l.length := by simp [rowW]
theorem YQ (l : List W32) (i : Nat) (h : i < l.length) : (rowW l)[i]? = some (b32 (l.getD i 0)) := by
 simp [rowW, cY, h]
theorem rowW_set (l : List W32) (i : Nat) (x : W32) : (rowW l).setIfInBounds i (b32 x) = rowW (l.set i x) := by
 simp [rowW, List.map_set]
theorem load_w {t e : TypeId} {S : State} {κ : Value -> Prop} {b o : Nat} {l : List W32} {m : Nat × Nat} [hf : xe P t] (hl : Lies b (.cells (rowW l) e m) S) (ho : o < l.length) (k : κ (b32 (l.getD o 0))) :
  ReadW P (Instr.loadAt t (.pointer (some ⟨b, o, none⟩))) S κ := zE hl (YQ l o ho) k
theorem wZ {t e : TypeId} {z : Value} {by_ : Nat} {S S' : State} {κ : State -> Prop} {b o : Nat} {l : List W32} {x : W32} [hs : zh P t z 1 by_] (hu : Upd b (.cells (rowW l) e (0, 0)) (.cells (rowW (l.set o x)) e (0, 0)) S S')
  (ho : o < l.length) (k : κ S') : UnitW P (Instr.storeAt t (.pointer (some ⟨b, o, none⟩)) (b32 x)) S κ :=
 zJ (cs := rowW l) (wU x) (by rw [rowW_set]; exact hu) (by rw [wv]; exact ho) k
theorem jO {t e : TypeId} {z : Value} {s by_ : Nat} {S : State} {κ : Value -> Prop} {b : Nat} {l : List W32} {m : Nat × Nat} [hf : xQ P t] [hs : zh P t z s by_] (hl : Lies b (.cells (rowW l) e m) S) (h : l.length = s) (k : κ (.agg (rowW l))) :
  ReadW P (Instr.loadAt t (.pointer (some ⟨b, 0, none⟩))) S κ := by
 refine kz hl (by rw [wv]; omega) ?_
 have : (rowW l).extract 0 (0 + s) = rowW l := by
  apply cS; simp [rowW, <- h, bS]
 rw [this]; exact k
theorem jZ : ∀ (vs : List Value) (p u r : List Value), u.length = vs.length -> xC (p ++ (u ++ r)).toArray p.length vs = (p ++ (vs ++ r)).toArray
 | [], p, [], r, _ => rfl
 | v :: vs, p, x :: u, r, h => by
  have ih := jZ vs (p ++ [v]) u r (by simpa using h);rw [xC]
  have e : (p ++ (x :: u ++ r)).toArray.setIfInBounds p.length v = (p ++ [v] ++ (u ++ r)).toArray := by
   apply cS; simp
  rw [e, show p.length + 1 = (p ++ [v]).length from by simp, ih]
  simp
theorem jE {t e : TypeId} {z : Value} {s by_ : Nat} {S S' : State} {κ : State -> Prop} {b : Nat} {l l' : List W32} [hs : zh P t z s by_] (hu : Upd b (.cells (rowW l) e (0, 0)) (.cells (rowW l') e (0, 0)) S S')
  (h : l.length = s) (h' : l'.length = s) (k : κ S') : UnitW P (Instr.storeAt t (.pointer (some ⟨b, 0, none⟩)) (.agg (rowW l'))) S κ := by
 refine wm (e := e) (cs := rowW l) (S' := S') (by rw [wv]; exact h') (fun v hv => ?_) ?_ (by rw [wv]; omega) k
 ·simp only [rowW, List.mem_map] at hv;obtain ⟨x, _, rfl⟩ := hv;exact wU x
 ·have e := jZ (l'.map b32) [] (l.map b32) [] (by simp; omega);simp only [aD, aL, aV] at e;have e2 : xC (rowW l) 0 (rowW l').toList = rowW l' := e;rw [e2]; exact hu
def rowX (l : List W32) (r : List Value) : Array Value := (l.map b32 ++ r).toArray
theorem qy (l : List W32) (r : List Value) : (rowX l r).size = l.length + r.length := by simp [rowX]
theorem rowX_get (l : List W32) (r : List Value) (i : Nat) (h : i < l.length) : (rowX l r)[i]? = some (b32 (l.getD i 0)) := by
 simp only [rowX, cM];rw [cT (by simpa using h)]
 simp [cY, h]
theorem rowX_set (l : List W32) (r : List Value) (i : Nat) (h : i < l.length) (x : W32) : (rowX l r).setIfInBounds i (b32 x) = rowX (l.set i x) r := by
 simp only [rowX, List.setIfInBounds_toArray];rw [List.set_append_left _ _ (by simpa using h), List.map_set]
theorem Vc {t e : TypeId} {S : State} {κ : Value -> Prop} {b o : Nat} {l : List W32} {r : List Value} {m : Nat × Nat} [hf : xe P t] (hl : Lies b (.cells (rowX l r) e m) S) (ho : o < l.length) (k : κ (b32 (l.getD o 0))) :
  ReadW P (Instr.loadAt t (.pointer (some ⟨b, o, none⟩))) S κ := zE hl (rowX_get l r o ho) k
theorem vS {t e : TypeId} {z : Value} {by_ : Nat} {S S' : State} {κ : State -> Prop} {b o : Nat} {l : List W32} {r : List Value} {x : W32} [hs : zh P t z 1 by_] (hu : Upd b (.cells (rowX l r) e (0, 0)) (.cells (rowX (l.set o x) r) e (0, 0)) S S')
  (ho : o < l.length) (k : κ S') : UnitW P (Instr.storeAt t (.pointer (some ⟨b, o, none⟩)) (b32 x)) S κ :=
 zJ (cs := rowX l r) (wU x) (by rw [rowX_set _ _ _ ho]; exact hu) (by rw [qy]; omega) k
theorem index_w {t e n : Nat} {z : Value} {by_ : Nat} {k : IntKind} {i : Int} {l : List W32} {κ : Value -> Prop} [h : TArr P t n e] [hs : zh P e z 1 by_] [hf : xe P e] (h0 : 0 <= i) (h1 : i < n) (hl : l.length = n) :
  PureW P (Instr.index t (.agg (rowW l)) (.int k i)) κ = κ (b32 (l.getD i.toNat 0)) := arr_index h0 h1 (YQ l _ (by omega))
theorem Qe {t e : Nat} {z z' : Value} {s by_ by' : Nat} {a b c d e' f g h' : W32} {κ : Value -> Prop} [h : TArr P t 8 e] [hs : zh P t z s by_] [he : zh P e z' 1 by'] (hz : z.cells.size = 8) :
  PureW P (Instr.build t #[(0, b32 a), (1, b32 b), (2, b32 c), (3, b32 d), (4, b32 e'), (5, b32 f), (6, b32 g), (7, b32 h')]) κ = κ (.agg (rowW [a, b, c, d, e', f, g, h'])) := by
 refine ZY (ps := [(0, b32 a), (1, b32 b), (2, b32 c), (3, b32 d), (4, b32 e'), (5, b32 f), (6, b32 g), (7, b32 h')]) ?_
 have q := JW [b32 a, b32 b, b32 c, b32 d, b32 e', b32 f, b32 g, b32 h'] [] z.cells.toList (fun v hv => by
  simp only [bA, aX, or_false] at hv
  rcases hv with rfl | rfl | rfl | rfl | rfl | rfl | rfl | rfl <;> exact wU _) (by simpa using hz)
 simp only [aD, aV, List.zipIdx_cons, List.zipIdx_nil, aZ, dS, cD, bQ, Array.toArray_toList] at q;simp only [Nat.mul_one];exact q
theorem yM {t : TypeId} {S : State} {a : Option Addr} {len : Nat} {bs : List UInt8} {i : Nat} {κ : Value -> Prop} [hf : xe P t]
  (hr : Rd 1 S a len (bs.map b8)) (hv : i < bs.length) (k : κ (b8 (bs.getD i 0))) : ReadW P (Instr.loadAt t (.pointer (some (elA a i)))) S κ :=
 JA hr (v := b8 (bs.getD i 0)) (by simp [cY, hv]) k
theorem wrap64_mod (n : Nat) : IntKind.u64.wrap (n : Int) = ((n % 18446744073709551616 : Nat) : Int) := by
 show ((n : Int) % (2 ^ 64 : Int)) = _
 omega
theorem UG (x : UInt8) : IntKind.u64.wrap (x.toNat : Int) = x.toNat := by
 have := x.toNat_lt;rw [yI (by omega) (by omega)]
theorem Vz (x : UInt8) : IntKind.i64.wrap (x.toNat : Int) = x.toNat := by
 have := x.toNat_lt;rw [ko (by omega) (by omega)]
theorem cq_b8_64 {s d : TypeId} [hs : TInt P s .u8] [hd : TInt P d .u64] {x : UInt8} {κ : Value -> Prop} : PureW P (convert s d (b8 x)) κ = κ (.int .u64 x.toNat) := by
 show PureW P (convert s d (.int .u8 (x.toNat : Int))) κ = _
 rw [jo, UG]
theorem cq_b8_i64 {s d : TypeId} [hs : TInt P s .u8] [hd : TInt P d .i64] {x : UInt8} {κ : Value -> Prop} : PureW P (convert s d (b8 x)) κ = κ (.int .i64 x.toNat) := by
 show PureW P (convert s d (.int .u8 (x.toNat : Int))) κ = _
 rw [jo, Vz]
theorem Ib {s d : TypeId} [hs : TInt P s .u8] [hd : TInt P d .u64] {x : UInt8} {S : State} {κ : Value -> State -> Prop} : ConvW P s d (b8 x) S κ = κ (.int .u64 x.toNat) S := by
 show PureW P (convert s d (.int .u8 (x.toNat : Int))) (fun v => κ v S) = _
 rw [jo, UG]
theorem WP {s d : TypeId} [hs : TInt P s .u8] [hd : TInt P d .i64] {x : UInt8} {S : State} {κ : Value -> State -> Prop} : ConvW P s d (b8 x) S κ = κ (.int .i64 x.toNat) S := by
 show PureW P (convert s d (.int .u8 (x.toNat : Int))) (fun v => κ v S) = _
 rw [jo, Vz]
end Go.Ost
namespace Go.Ost
open Go
variable {P : Program}
theorem Lies.sub {b : Nat} {o : Obj} {H : Chunk} {S : State} (h : Lies b o [H]) (hm : H ∈ S) : Lies b o S := by
 cases h with
 | here h => exact Lies.of_mem h hm
 | next h => cases h
theorem Lies.in {b : Nat} {o : Obj} {H : Chunk} (h : Lies b o [H]) : (b, o) ∈ H := by
 cases h with
 | here h => exact h
 | next h => cases h
theorem Rd.mem {s : Nat} {H : Chunk} {S : State} {a : Option Addr} {len : Nat} {us : List Value} (h : Rd s [H] a len us) (hm : H ∈ S) : Rd s S a len us :=
 ⟨h.1, fun hne => let ⟨b, o, cs, e, m, h1, h2, h3⟩ := h.2 hne; ⟨b, o, cs, e, m, h1, h2.sub hm, h3⟩⟩
theorem Rd.wide {s : Nat} {H D : Chunk} {a : Option Addr} {len : Nat} {us : List Value} (h : Rd s [H] a len us) (hm : ∀ x ∈ H, x ∈ D) : Rd s [D] a len us :=
 ⟨h.1, fun hne => let ⟨b, o, cs, e, m, h1, h2, h3⟩ := h.2 hne; ⟨b, o, cs, e, m, h1, .here (hm _ h2.in), h3⟩⟩
theorem VF (bs : List UInt8) : ∀ v ∈ bs.map b8, Value.cell1 v := fun v hv => by
 obtain ⟨x, _, rfl⟩ := List.mem_map.1 hv; exact Yh x
theorem app8 {t t2 ty e e2 : TypeId} [ht : zR P t e] [ht2 : zR P t2 e2] [hs : zh P e (.int .u8 0) 1 1] {S G : State} {κ : Value -> State -> Prop} {C : Chunk} {a b : Option Addr} {len cap n c : Nat} {us vs : List UInt8}
  (ho : Own 1 e C a len cap (us.map b8)) (hC : Pick C S G) (hr : Rd 1 S b n (vs.map b8)) (hm : len + n <= 140737488355328)
  (k : ∀ C' a' cap', Own 1 e C' a' (len + n) cap' ((us ++ vs).map b8) -> κ (.slice a' (len + n) cap') (C' :: G)) : ValW P (Builtin.append_ #[t, t2] ty #[.slice a len cap, .slice b n c]) S κ :=
 zn (hs := hs) rfl (by decide) ho (.inr hC) hr (VF vs) (by simp only [maxLen]; omega) (by omega) (fun C' a' cap' h => k C' a' cap' (by rw [cL]; exact h))
theorem own_nil {s : Nat} {e : TypeId} {a : Option Addr} : Own s e [] a 0 0 [] := ⟨aR _, Nat.zero_le _, by simp, .inl ⟨rfl, rfl⟩⟩
theorem app1 {t t2 ty e e2 : TypeId} {z : Value} {by_ : Nat} [ht : zR P t e] [ht2 : zR P t2 e2] [hs : zh P e z 1 by_] (hz : z.cells.size = 1) {S G : State} {κ : Value -> State -> Prop} {C : Chunk} {a b : Option Addr} {len cap n c : Nat} {us vs : List Value}
  (ho : Own 1 e C a len cap us) (hC : C = [] /\ G = S ∨ Pick C S G) (hr : Rd 1 S b n vs) (h1 : ∀ v ∈ vs, Value.cell1 v) (hm : len + n <= 1000000) (hb : by_ <= 1000)
  (k : ∀ C' a' cap', Own 1 e C' a' (len + n) cap' (us ++ vs) -> κ (.slice a' (len + n) cap') (C' :: G)) : ValW P (Builtin.append_ #[t, t2] ty #[.slice a len cap, .slice b n c]) S κ :=
 zn (hs := hs) hz (by decide) ho hC hr h1 (by simp only [maxLen]; omega) (by
  have : (len + n) * by_ <= 1000000 * 1000 := Nat.mul_le_mul hm hb;omega) k
theorem Zw {e : TypeId} {b : Nat} {vs : List Value} {n : Nat} (hn : vs.length = n) (hm : n <= 16777216) : Own 1 e [(b, .cells vs.toArray e (0, 0))] (some ⟨b, 0, none⟩) n n vs :=
 ⟨aR _, by simp only [maxLen]; omega, by simp [hn], .inr ⟨b, 0, _, _, rfl, rfl, .inl rfl, by simp [hn], fun i hi => by simp⟩⟩
theorem zX {t e : TypeId} {by_ : Nat} [ht : zR P t e] [hs : zh P e (.int .u8 0) 1 by_] {n : Nat} {ps : List (Nat × Value)} {S : State} {κ : Value -> State -> Prop} (bs : List UInt8) (hn : n <= 16777216)
  (hi : ps.map (·.1) = bC n) (hb : ps.map (·.2) = bs.map b8) (k : ∀ b C, Own 1 e C (some ⟨b, 0, none⟩) n n (bs.map b8) -> κ (.slice (some ⟨b, 0, none⟩) n n) (C :: S)) : ValW P (Instr.buildSlice t n ps.toArray) S κ :=
 ZX (hs := hs) rfl hn hi (by rw [hb]; exact VF bs) (fun b => k b _ (by
  rw [hb];exact Zw (by have := congrArg cV hi; have h2 := congrArg cV hb; simp only [bE, List.length_range] at this h2 ⊢; omega) hn))
theorem xZ {t e : TypeId} {z : Value} {by_ : Nat} [ht : zR P t e] [hs : zh P e z 1 by_] (hz : z.cells.size = 1) {n : Nat} {ps : List (Nat × Value)} {S : State} {κ : Value -> State -> Prop} (vs : List Value) (hn : n <= 16777216)
  (hi : ps.map (·.1) = bC n) (hb : ps.map (·.2) = vs) (hc : ∀ v ∈ vs, Value.cell1 v) (k : ∀ b C, Own 1 e C (some ⟨b, 0, none⟩) n n vs -> κ (.slice (some ⟨b, 0, none⟩) n n) (C :: S)) : ValW P (Instr.buildSlice t n ps.toArray) S κ :=
 ZX (hs := hs) hz hn hi (by rw [hb]; exact hc) (fun b => k b _ (by
  rw [hb];exact Zw (by have := congrArg cV hi; have h2 := congrArg cV hb; simp only [bE, List.length_range] at this h2; omega) hn))
theorem jA {t e : TypeId} {z : Value} {by_ : Nat} [hs : zh P t z 1 by_] {S G : State} {κ : State -> Prop} {C : Chunk} {a : Option Addr} {len cap i : Nat} {bs : List UInt8} {x : UInt8}
  (ho : Own 1 e C a len cap (bs.map b8)) (hp : Pick C S G) (hi : i < bs.length) (k : ∀ C', Own 1 e C' a len cap ((bs.set i x).map b8) -> κ (C' :: G)) : UnitW P (Instr.storeAt t (.pointer (some (elA a i))) (b8 x)) S κ := by
 refine ⟨fun w hw => ?_⟩;obtain ⟨h1, h2, h3, h4⟩ := ho;simp only [bE, Nat.mul_one] at h3
 rcases h4 with ⟨h5, _⟩ | ⟨b, o, cs, m, rfl, rfl, hsoft, hbig, hc⟩
 ·omega
 ·have hCG := hw.perm hp.perm;obtain ⟨lo, hi'⟩ := m;obtain ⟨w', q1, q2, q3, q4⟩ := xz (P := P) (b := b) (o := o + i) [b8 x] 0 w cs (hCG.get b (.cells cs e (lo, hi')) (by simp)) (fun u hm => by simp at hm; subst hm; exact Yh x) (by simp; omega) hsoft.or;refine ⟨w', _, ?_, q2, (Upd.one (S := G)).hold hCG q3 q4, k [(b, .cells (xC cs (o + i + 0) [b8 x]) e (lo, hi'))] ⟨h1, h2, by simp [h3], .inr ⟨b, o, _, (lo, hi'), rfl, rfl, by rw [xg]; exact hsoft, by rw [xg]; exact hbig, fun j hj => ?_⟩⟩⟩
  ·have e1 : (Value.cells (b8 x)) = #[b8 x] := rfl;simp only [elA, cI, add_mk]
   simp [Instr.storeAt, Instr.sureAddr, storeVar, Sem.run_bind, zt hs, Result.andThen, e1, q1]
  ·simp only [bE, dF] at hj;have hcj := hc j (by simpa using hj);simp only [xC, dQ]
   by_cases e2 : j = i
   ·subst e2;rw [Array.getElem?_setIfInBounds_self, if_pos (by omega)]
    simp [hj]
   ·rw [cO (by omega), hcj];simp only [cN];rw [List.getElem?_set_ne (by omega)]
theorem make8 {t e : TypeId} [ht : zR P t e] [hs : zh P e (.int .u8 0) 1 1] {n : Nat} {S : State} {κ : Value -> State -> Prop} (hn : n <= 1000000)
  (k : ∀ b C, Own 1 e C (some ⟨b, 0, none⟩) n n ((aQ n (0 : UInt8)).map b8) -> κ (.slice (some ⟨b, 0, none⟩) n n) (C :: S)) : ValW P (Instr.makeSlice t (.int .i64 n) (.int .i64 n)) S κ := by
 refine ⟨fun w hw => ?_⟩;obtain ⟨i, hi, hz1, hsz, hby⟩ := jf hs.info;have hr := run_makeSlice (P := P) w t e i (.int .u8 0) ht.und hi hz1 .i64 .i64 (n : Int) (n : Int) (by omega) (Int.le_refl _) (by rw [hsz]; omega) (by rw [hby]; omega) (by omega);simp only [aY, hsz, Nat.mul_one] at hr;generalize hcells : madeCells (Value.int .u8 0).cells n = cells at hr
 have hlist : cells = ((aQ n (0 : UInt8)).map b8).toArray := by
  rw [<- hcells]
  apply cS
  unfold madeCells
  apply List.ext_getElem
  ·simp
  ·intro j h1 h2
   simp [Nat.mod_one, b8, Value.cells]
 refine ⟨_, w.alloc (.cells cells e), [(w.heap.size, .cells cells e (0, 0))] :: S, hr, ⟨rfl, rfl, rfl, by simp⟩, Hold.new (w := w) hw rfl, k w.heap.size _ ?_⟩;rw [hlist];exact Zw (by simp) (by omega)
theorem bin_shr64 {t : TypeId} {x y : Operand} {j : IntKind} {a n : Int} {κ : Value -> Prop} (ha : 0 <= a) (h0 : 0 <= n) (h1 : n <= 64) : PureW P (do eqGuard .shr t x y (.int .u64 a) (.int j n); binOp .shr t (.int .u64 a) (.int j n)) κ = κ (.int .u64 (a / 2 ^ n.toNat)) :=
 zm (fun w => by
  have e : min n.toNat IntKind.u64.bits = n.toNat := by show min n.toNat 64 = n.toNat; omega
  have h3 : ¬ n < 0 := by omega
  show (Op.shift .shr .u64 a j n).run P w = _
  rw [Op.shift, if_neg h3, e]
  show Result.ok (Value.int .u64 (Int.fdiv a (2 ^ n.toNat))) w = _
  rw [Int.fdiv_eq_ediv_of_nonneg _ (Int.le_of_lt (Int.pow_pos (by decide)))]) κ
theorem b8_shr {t : TypeId} {x y : Operand} {j : IntKind} {b : UInt8} {κ : Value -> Prop} : PureW P (do eqGuard .shr t x y (b8 b) (.int j 4); binOp .shr t (b8 b) (.int j 4)) κ = κ (.int .u8 ((b.toNat / 16 : Nat) : Int)) :=
 zm (fun w => by
  show (Op.shift .shr .u8 (b.toNat : Int) j 4).run P w = _
  show Result.ok (Value.int .u8 (Int.fdiv (b.toNat : Int) (2 ^ 4))) w = _
  rw [Int.fdiv_eq_ediv_of_nonneg _ (by decide)]
  rfl) κ
theorem b8_and15 {t : TypeId} {x y : Operand} {b : UInt8} {κ : Value -> Prop} : PureW P (do eqGuard .and t x y (b8 b) (.int .u8 15); binOp .and t (b8 b) (.int .u8 15)) κ = κ (.int .u8 ((b.toNat % 16 : Nat) : Int)) :=
 zm (fun w => by
  show Result.ok (Value.int .u8 (IntKind.u8.wrap ((bB 8 (b.toNat : Int) &&& bB 8 15).toNat : Int))) w = _
  have h := b.toNat_lt;have key : ∀ n : Fin 256, IntKind.u8.wrap ((bB 8 (n.val : Int) &&& bB 8 15).toNat : Int) = ((n.val % 16 : Nat) : Int) := by decide +kernel
  rw [key ⟨b.toNat, h⟩]) κ
theorem qt (n : Nat) : IntKind.u8.wrap (n : Int) = ((aH n).toNat : Int) := by
 show ((n : Int) % (2 ^ 8 : Int)) = _
 rw [bL];omega
theorem str_eql {t : TypeId} {x y : Operand} {a b : ByteArray} {κ : Value -> Prop} [h : TStr P t] : PureW P (do eqGuard .eql t x y (.string a) (.string b); binOp .eql t (.string a) (.string b)) κ = κ (.bool (a.data.toList == b.data.toList)) :=
 zm (fun w => by rw [<- ByteArray.toList_eq, <- ByteArray.toList_eq]; rfl) κ
theorem str_neq {t : TypeId} {x y : Operand} {a b : ByteArray} {κ : Value -> Prop} [h : TStr P t] : PureW P (do eqGuard .neq t x y (.string a) (.string b); binOp .neq t (.string a) (.string b)) κ = κ (.bool (a.data.toList != b.data.toList)) :=
 zm (fun w => by rw [<- ByteArray.toList_eq, <- ByteArray.toList_eq]; rfl) κ
theorem str_data (a : List UInt8) : (str a).data.toList = a := rfl
theorem zF {t : TypeId} {x y : Operand} {a b : List UInt8} {κ : Value -> Prop} (hm : a.length + b.length <= 9223372036854775807) : PureW P (do eqGuard .add t x y (.string (str a)) (.string (str b)); binOp .add t (.string (str a)) (.string (str b))) κ = κ (.string (str (a ++ b))) :=
 zm (fun w => by
  have e : (do eqGuard .add t x y (.string (str a)) (.string (str b)); binOp .add t (.string (str a)) (.string (str b)) : Sem Value) = Op.stringOp .add (str a) (str b) := rfl
  have hsz : ¬ (((str a).size + (str b).size : Nat) : Int) > IntKind.i64.max := by
   show ¬ ((a.length + b.length : Nat) : Int) > 9223372036854775807
   omega
  rw [e];simp only [Op.stringOp];rw [if_neg hsz]
  have h2 : str a ++ str b = str (a ++ b) := by
   apply ByteArray.ext
   simp [str]
  rw [h2]
  rfl) κ
theorem Kf {t : TypeId} {j k : IntKind} {l h' : Int} {s : List UInt8} {κ : Value -> Prop} [h : TStr P t] (l0 : 0 <= l) (l1 : l <= h') (h1 : h' <= s.length) :
  PureW P (Instr.sliceAt t (.string (str s)) (some (.int j l)) (some (.int k h')) none) κ = κ (.string (str ((s.drop l.toNat).take (h'.toNat - l.toNat)))) :=
 zm (fun w => by
  have h0 : 0 <= h' := by omega
  have l1' : l <= max h' 0 := by omega
  have h1' : h' <= ((str s).size : Int) := h1
  have e : (str s).extract l.toNat h'.toNat = str ((s.drop l.toNat).take (h'.toNat - l.toNat)) := by
   apply ByteArray.ext
   simp [str, ByteArray.data_extract]
  simp only [Instr.sliceAt, Instr.slice, Sem.run_bind, zx h.und, Result.andThen, Instr.sliceBounds, Instr.sliceBound, asIntOf, Sem.run_pure]
  simp [Sem.run_bind, h0, h1', l0, l1, l1', e, Result.andThen]) κ
theorem Kl {t e : TypeId} {x y : Operand} {a : Option Addr} {n c : Nat} {κ : Value -> Prop} [h : zR P t e] : PureW P (do eqGuard .eql t x y (.slice a n c) (.slice none 0 0); binOp .eql t (.slice a n c) (.slice none 0 0)) κ = κ (.bool a.isNone) :=
 zm (fun w => by
  have e : (do eqGuard .eql t x y (.slice a n c) (.slice none 0 0); binOp .eql t (.slice a n c) (.slice none 0 0) : Sem Value) = (do pure (.bool (<- Op.equalIn (9999 + 1) t (.slice a n c) (.slice none 0 0)))) := by
   cases a <;> rfl
  rw [e, Sem.run_bind, Op.equalIn, Sem.run_bind, zx h.und]
  cases a <;> rfl) κ
theorem ext2_0 {a b : Value} {κ : Value -> Prop} : PureW P (Instr.extract (.tuple #[a, b]) 0) κ = κ a := zm (fun w => rfl) κ
theorem ext2_1 {a b : Value} {κ : Value -> Prop} : PureW P (Instr.extract (.tuple #[a, b]) 1) κ = κ b := zm (fun w => rfl) κ
theorem zB {n : Nat} {ro : Option Nat} {c : Code} {K : Cont} {D : List Nat} {L : Env} {S : State} (h : CodeW P n ro c K D L ([] :: S)) : CodeW P n ro c K D L S :=
 ⟨fun a w ha hw => h.out a w ha (hw.perm (by simp))⟩
abbrev Own8 (e : TypeId) (C : Chunk) (a : Option Addr) (n cap : Nat) (bs : List UInt8) : Prop := Own 1 e C a n cap (bs.map b8)
def New8 (e : TypeId) (bs : List UInt8) (R : State) (v : Value) (A : State) : Prop := ∃ C a cap, v = .slice a bs.length cap /\ Own8 e C a bs.length cap bs /\ A = C :: R
end Go.Ost
namespace Go.Ost
open Go
variable {P : Program}
section bytes
variable (t : TypeId) (x y : Operand) (a b : UInt8) (n : Int) (κ : Value -> Prop)
theorem beq8 : ((a.toNat : Int) == b.toNat) = (a == b) := by
 by_cases h : a = b
 ·subst h; rw [beq_self_eq_true, beq_self_eq_true]
 ·have h2 : ¬ ((a.toNat : Int) = b.toNat) := fun e => h (UInt8.toNat_inj.1 (by omega))
  rw [beq_eq_false_iff_ne.2 h, beq_eq_false_iff_ne.2 h2]
theorem u8_eql : PureW P (do eqGuard .eql t x y (b8 a) (b8 b); binOp .eql t (b8 a) (b8 b)) κ = κ (.bool (a == b)) := by
 refine (Yg t x y .u8 _ _ κ).trans ?_;rw [beq8]
theorem u8_neq : PureW P (do eqGuard .neq t x y (b8 a) (b8 b); binOp .neq t (b8 a) (b8 b)) κ = κ (.bool (a != b)) := by
 refine (Yf t x y .u8 _ _ κ).trans ?_;rw [bne, beq8, bne]
theorem u8n_eql : PureW P (do eqGuard .eql t x y (b8 a) (.int .u8 n); binOp .eql t (b8 a) (.int .u8 n)) κ = κ (.bool ((a.toNat : Int) == n)) := Yg t x y .u8 _ _ κ
theorem u8n_neq : PureW P (do eqGuard .neq t x y (b8 a) (.int .u8 n); binOp .neq t (b8 a) (.int .u8 n)) κ = κ (.bool ((a.toNat : Int) != n)) := Yf t x y .u8 _ _ κ
theorem u8n_lss : PureW P (do eqGuard .lss t x y (b8 a) (.int .u8 n); binOp .lss t (b8 a) (.int .u8 n)) κ = κ (.bool (decide ((a.toNat : Int) < n))) := bin_lss t x y .u8 _ _ κ
theorem u8n_leq : PureW P (do eqGuard .leq t x y (b8 a) (.int .u8 n); binOp .leq t (b8 a) (.int .u8 n)) κ = κ (.bool (decide ((a.toNat : Int) <= n))) := bin_leq t x y .u8 _ _ κ
theorem u8n_gtr : PureW P (do eqGuard .gtr t x y (b8 a) (.int .u8 n); binOp .gtr t (b8 a) (.int .u8 n)) κ = κ (.bool (decide (n < (a.toNat : Int)))) := bin_gtr t x y .u8 _ _ κ
theorem u8n_geq : PureW P (do eqGuard .geq t x y (b8 a) (.int .u8 n); binOp .geq t (b8 a) (.int .u8 n)) κ = κ (.bool (decide (n <= (a.toNat : Int)))) := bin_geq t x y .u8 _ _ κ
theorem kr : IntKind.u8.wrap (a.toNat : Int) = a.toNat := by
 have := a.toNat_lt;exact VP (by omega) (by omega)
theorem u8_xor : PureW P (do eqGuard .xor t x y (b8 a) (b8 b); binOp .xor t (b8 a) (b8 b)) κ = κ (b8 (a ^^^ b)) :=
 zm (fun w => by
  show Result.ok (Value.int .u8 (IntKind.u8.wrap ((bB 8 (a.toNat : Int) ^^^ bB 8 (b.toNat : Int)).toNat : Int))) w = _
  have e : (bB 8 (a.toNat : Int) ^^^ bB 8 (b.toNat : Int)).toNat = (a ^^^ b).toNat := by simp
  rw [e, kr]; rfl) κ
theorem u8_or : PureW P (do eqGuard .or t x y (b8 a) (b8 b); binOp .or t (b8 a) (b8 b)) κ = κ (b8 (a ||| b)) :=
 zm (fun w => by
  show Result.ok (Value.int .u8 (IntKind.u8.wrap ((bB 8 (a.toNat : Int) ||| bB 8 (b.toNat : Int)).toNat : Int))) w = _
  have e : (bB 8 (a.toNat : Int) ||| bB 8 (b.toNat : Int)).toNat = (a ||| b).toNat := by simp
  rw [e, kr]; rfl) κ
theorem u8_and : PureW P (do eqGuard .and t x y (b8 a) (b8 b); binOp .and t (b8 a) (b8 b)) κ = κ (b8 (a &&& b)) :=
 zm (fun w => by
  show Result.ok (Value.int .u8 (IntKind.u8.wrap ((bB 8 (a.toNat : Int) &&& bB 8 (b.toNat : Int)).toNat : Int))) w = _
  have e : (bB 8 (a.toNat : Int) &&& bB 8 (b.toNat : Int)).toNat = (a &&& b).toNat := by simp
  rw [e, kr]; rfl) κ
end bytes
end Go.Ost
namespace Go.Ost
open Go
variable {P : Program}
section strings
variable {t : TypeId} {bs : List UInt8} {j k : IntKind} {l h i : Int} {κ : Value -> Prop}
theorem Jk (bs : List UInt8) (l h : Nat) : (str bs).extract l h = str ((bs.take h).drop l) := by
 apply ByteArray.ext
 rw [ByteArray.data_extract]
 apply cS
 simp [str, List.extract_eq_take_drop, List.drop_take]
theorem sidx [ht : TStr P t] (h0 : 0 <= i) (h1 : i < bs.length) : PureW P (Instr.index t (.string (str bs)) (.int k i)) κ = κ (b8 (bs.getD i.toNat 0)) :=
 zm (fun w => by
  have e : (str bs)[i.toNat]? = some (bs.getD i.toNat 0) := by
   have h2 : i.toNat < bs.length := by omega
   have h3 : i.toNat < (str bs).size := h2;rw [getElem?_pos (str bs) i.toNat h3]
   congr 1
   show (bs.toArray)[i.toNat] = _
   rw [cY, aF h2, cI]
   rfl
  simp [Instr.index, asIntOf, Sem.run_bind, zx ht.und, Result.andThen, h0, e, b8]) κ
theorem scut_hi [ht : TStr P t] (h0 : 0 <= h) (h1 : h <= bs.length) : PureW P (Instr.sliceAt t (.string (str bs)) none (some (.int k h)) none) κ = κ (.string (str (bs.take h.toNat))) :=
 zm (fun w => by
  have hz : (str bs).size = bs.length := rfl;simp only [Instr.sliceAt, Instr.slice, Sem.run_bind, zx ht.und, Result.andThen, Instr.sliceBounds, Instr.sliceBound, asIntOf, Sem.run_pure]
  simp [Sem.run_bind, Result.andThen, hz, h0, h1, Jk]) κ
theorem scut_lo [ht : TStr P t] (l0 : 0 <= l) (l1 : l <= bs.length) : PureW P (Instr.sliceAt t (.string (str bs)) (some (.int j l)) none none) κ = κ (.string (str (bs.drop l.toNat))) :=
 zm (fun w => by
  have hz : (str bs).size = bs.length := rfl;simp only [Instr.sliceAt, Instr.slice, Sem.run_bind, zx ht.und, Result.andThen, Instr.sliceBounds, Instr.sliceBound, asIntOf, Sem.run_pure]
  simp [Sem.run_bind, Result.andThen, hz, l0, l1, Jk]) κ
theorem scut_lohi [ht : TStr P t] (h0 : 0 <= h) (h1 : h <= bs.length) (l0 : 0 <= l) (l1 : l <= h) : PureW P (Instr.sliceAt t (.string (str bs)) (some (.int j l)) (some (.int k h)) none) κ = κ (.string (str ((bs.take h.toNat).drop l.toNat))) :=
 zm (fun w => by
  have hz : (str bs).size = bs.length := rfl;have l1' : l <= max h 0 := by omega
  simp only [Instr.sliceAt, Instr.slice, Sem.run_bind, zx ht.und, Result.andThen, Instr.sliceBounds, Instr.sliceBound, asIntOf, Sem.run_pure]
  simp [Sem.run_bind, Result.andThen, hz, h0, h1, l0, l1, l1', Jk]) κ
theorem str_size (bs : List UInt8) : (str bs).size = bs.length := rfl
end strings
theorem ext3_0 {a b c : Value} {κ : Value -> Prop} : PureW P (Instr.extract (.tuple #[a, b, c]) 0) κ = κ a := zm (fun w => rfl) κ
theorem ext3_1 {a b c : Value} {κ : Value -> Prop} : PureW P (Instr.extract (.tuple #[a, b, c]) 1) κ = κ b := zm (fun w => rfl) κ
theorem ext3_2 {a b c : Value} {κ : Value -> Prop} : PureW P (Instr.extract (.tuple #[a, b, c]) 2) κ = κ c := zm (fun w => rfl) κ
section bits
variable (t : TypeId) (x y : Operand) (a b : UInt8) (n : Int) (κ : Value -> Prop)
theorem UI {n : Int} (h0 : 0 <= n) (h1 : n < 256) : Value.int .u8 n = b8 (aH n.toNat) := by
 unfold b8
 congr 1
 rw [bL];omega
theorem Ql : PureW P (do eqGuard .andNot t x y (b8 a) (b8 b); binOp .andNot t (b8 a) (b8 b)) κ = κ (b8 (a &&& ~~~b)) :=
 zm (fun w => by
  show Result.ok (Value.int .u8 (IntKind.u8.wrap ((bB 8 (a.toNat : Int) &&& ~~~(bB 8 (b.toNat : Int))).toNat : Int))) w = _
  have e0 : ∀ x : UInt8, bB 8 (x.toNat : Int) = x.toBitVec := fun x => by simp
  have e : (bB 8 (a.toNat : Int) &&& ~~~(bB 8 (b.toNat : Int))).toNat = (a &&& ~~~b).toNat := by
   rw [e0, e0]; rfl
  rw [e, kr]; rfl) κ
theorem u8n_and (h0 : 0 <= n) (h1 : n < 256) : PureW P (do eqGuard .and t x y (b8 a) (.int .u8 n); binOp .and t (b8 a) (.int .u8 n)) κ = κ (b8 (a &&& aH n.toNat)) := by
 rw [UI h0 h1]; exact u8_and t x y a _ κ
theorem UO (h0 : 0 <= n) (h1 : n < 256) : PureW P (do eqGuard .andNot t x y (b8 a) (.int .u8 n); binOp .andNot t (b8 a) (.int .u8 n)) κ = κ (b8 (a &&& ~~~(aH n.toNat))) := by
 rw [UI h0 h1]; exact Ql t x y a _ κ
theorem u8n_or (h0 : 0 <= n) (h1 : n < 256) : PureW P (do eqGuard .or t x y (.int .u8 n) (b8 a); binOp .or t (.int .u8 n) (b8 a)) κ = κ (b8 (aH n.toNat ||| a)) := by
 rw [UI h0 h1]; exact u8_or t x y _ a κ
end bits
end Go.Ost
namespace Go.Ost
open Go
variable {P : Program} {n : Nat} {α : Type}
structure YMeets (P : Program) (l : Nat) (args : List Value) (Jin Jout Jstop : Chunk -> Prop) : Prop where
 out : ∀ C, Jin C -> ∀ (F : Chunk) (w : World), Hold w [F, C] -> YieldAt (FW none) 0 P l args.toArray w
  (wV w fun v S => ∃ (b : Bool) (C' : Chunk), v = .bool b /\ S = [F, C'] /\ (b = true -> Jout C') /\ (b = false -> Jstop C'))
structure IMeets (P : Program) (f : FuncId) (first captured : List Value) (encs : α -> List Value) (A : State) (Next : List α -> α -> Prop) (Done : List α -> Prop) (inf : Bool) : Prop where
 able : jW P f = true
 out : ∀ (l : Nat) (J Jx : List α -> Chunk -> Prop), (inf = true -> ∃ N, ∀ pre C, J pre C -> pre.length <= N) ->
  (∀ pre x, Next pre x -> YMeets P l (encs x) (J pre) (J (pre ++ [x])) (Jx (pre ++ [x]))) ->
  ∀ C, J [] C -> ∀ (F : Chunk) (w : World), Hold w (F :: C :: A) -> CallsIn (FW none) 0 P f (first ++ [Value.func (.yield l) #[] #[]] ++ captured).toArray w
   (wV w fun _ S => ∃ C', S = F :: C' :: A /\ ((∃ pre, Done pre /\ J pre C') ∨ (∃ pre x, Next pre x /\ Jx (pre ++ [x]) C')))
def jz (n : Nat) : List Tmp -> List Value -> Env -> Env
 | p :: ps, v :: vs, L => jz n ps vs (putT n (some p) v L)
 | _, _, L => L
theorem VN {D : List Nat} : ∀ (ps : List Tmp) (vs : List Value) (L : Env) (t : Array Value), Agree n L D { tmps := t, defers := D.map JK } ->
  Agree n (jz n ps vs L) D { tmps := (ps.zip vs).foldl (fun t (p, v) => t.setIfInBounds p v) t, defers := D.map JK }
 | [], vs, L, t, h => by cases vs <;> exact h
 | p :: ps, [], L, t, h => h
 | p :: ps, v :: vs, L, t, h => by
  simp only [jz, List.zip_cons_cons, List.foldl_cons];exact VN ps vs _ _ (h.put (some p) v)
def bodyK (l : Nat) (r : Loop) (F : Chunk) (I : State -> Prop) (Ix : Code -> State -> Prop) : Cont
 | .normal, _, _, S => ∃ C', I C' /\ Among ([(l, .loop r)] :: F :: C') S
 | .exit id, _, _, S => ∃ C', Ix (.exit id) C' /\ Among ([(l, .loop r)] :: F :: C') S
 | .goto t, _, _, S => ∃ C', Ix (.goto t) C' /\ Among ([(l, .loop r)] :: F :: C') S
 | .ret, _, _, S => ∃ C', Ix .ret C' /\ Among ([(l, .loop r)] :: F :: C') S
 | _, _, _, _ => False
def ZZ (P : Program) (n : Nat) (l : Nat) (r : Loop) (body : Code) (F : Chunk) (I : State -> Prop) (Ix : Code -> State -> Prop) : Cont
 | .normal, D, L, S => ∃ T, Among ([(l, .loop r)] :: T) S /\ ∀ r', r'.defers = r.defers -> CodeW P n (some l) body (bodyK l r' F I Ix) D L ([(l, .loop r')] :: T)
 | _, _, _, _ => False
theorem jT {w : World} {l : Nat} {o o' : Obj} {T : State} (hw : Hold w ([(l, o)] :: T)) : Hold (w.putObj l o') ([(l, o')] :: T) :=
 (Upd.one (S := T)).hold hw (World.putObj_heap_same (hw.lt (b := l) (o := o) (by simp))) (fun k hk => World.putObj_heap_other hk)
theorem qW (w : World) (l : Nat) (o : Obj) : Ext w (w.putObj l o) := ⟨rfl, rfl, rfl, by simp⟩
theorem Zs {l : Nat} {fn : FuncId} {t : Array Value} {ps : Array Tmp} {assign body : Code} {dB : Nat} {L : Env} {vs : List Value} {I Iout : State -> Prop} {Ix : Code -> State -> Prop}
  (hag : Agree n L [] { tmps := t, defers := [] }) (hps : vs.length = ps.size)
  (h : ∀ (F : Chunk) (C : State) (r : Loop), r.defers = dB -> I C -> CodeW P n (some l) assign (ZZ P n l r body F Iout Ix) [] (jz n ps.toList vs L) ([(l, .loop r)] :: F :: C)) :
  YMeets P l vs (fun C => ∃ C0 : State, C = (l, .loop { state := .ready, pending := none, fn, tmps := t, params := ps, assign, body, defers := dB }) :: C0.flatten /\ I C0)
   (fun C => ∃ C0 : State, C = (l, .loop { state := .ready, pending := none, fn, tmps := t, params := ps, assign, body, defers := dB }) :: C0.flatten /\ Iout C0)
   (fun C => ∃ (c : Code) (C0 : State), C = (l, .loop { state := .done, pending := some c, fn, tmps := t, params := ps, assign, body, defers := dB }) :: C0.flatten /\ Ix c C0) := by
 refine ⟨?_⟩;rintro C ⟨C0, rfl, hI⟩ F w hw;obtain ⟨r0, hr0⟩ : ∃ r0 : Loop, r0 = { state := .ready, pending := none, fn, tmps := t, params := ps, assign, body, defers := dB } := ⟨_, rfl⟩;rw [<- hr0] at hw ⊢;have hw' : Hold w ([(l, .loop r0)] :: F :: C0) := hw.perm (by simp only [aO, bO, aL, aC, aD]; exact List.perm_middle);have hl : w.heap[l]? = some (.loop r0) := hw'.get l _ (by simp);have hy := run_yield (P := P) (args := vs.toArray) hl (by rw [hr0]; simpa using hps);refine ⟨_, _, _, _, hy, roundIn_of_wpIn trivial ?_⟩
 have hag' : Agree n (jz n ps.toList vs L) [] { tmps := (r0.params.zip vs.toArray).foldl (fun t (p, v) => t.setIfInBounds p v) r0.tmps, defers := [] } := by
  have := VN ps.toList vs L t hag;rw [hr0];simp only;rw [<- Array.foldl_toList, Array.toList_zip];exact this
 have ha := (h F C0 r0 (by rw [hr0]) hI).out _ w hag' hw';rw [show r0.assign = assign from by rw [hr0]];refine wpIn_mono ha ?_;rintro e a1 w1 ⟨D1, L1, S1, hk, hag1, he1, hh1⟩
 cases e <;> first | exact hk.elim | skip
 obtain ⟨T, hT, hbody⟩ := hk;have hw1 := hT.hold hh1;have hl1 : w1.heap[l]? = some (.loop r0) := hw1.get l _ (by simp);refine ⟨_, run_beginRound hl1 (by rw [hr0]), ?_⟩;obtain ⟨rb, hrb⟩ : ∃ rb : Loop, rb = { r0 with state := .busy } := ⟨_, rfl⟩;rw [<- hrb];have hb := (hbody rb (by rw [hrb])).out a1 _ hag1 (jT hw1);rw [show r0.body = body from by rw [hr0]];refine wpIn_mono hb ?_
 have fin : ∀ (jump : Option Code) (S2 : State) (w2 : World) (C' : State), Ext (w1.putObj l (.loop rb)) w2 -> Hold w2 S2 -> Among ([(l, .loop rb)] :: F :: C') S2 ->
   ∃ w3, (Instr.endRound l jump).run P w2 = .ok (.bool jump.isNone) w3 /\ Ext w w3 /\
    Hold w3 [F, (l, .loop { state := if jump.isNone then .ready else .done, pending := jump, fn, tmps := t, params := ps, assign, body, defers := dB }) :: C'.flatten] := by
  intro jump S2 w2 C' he hh hS;have hw2 := hS.hold hh;have hl2 : w2.heap[l]? = some (.loop rb) := hw2.get l _ (by simp);refine ⟨_, run_endRound (P := P) jump hl2, ((he1.trans (qW _ _ _)).trans he).trans (qW _ _ _), ?_⟩;have := jT (o' := .loop { rb with state := if jump.isNone then .ready else .done, pending := jump }) hw2;rw [hrb, hr0] at this;rw [hrb, hr0];exact this.perm (by simp only [aO, bO, aL, aC, aD]; exact List.perm_middle.symm)
 rintro e a2 w2 ⟨D2, L2, S2, hk, hag2, he2, hh2⟩
 cases e with
 | normal =>
  obtain ⟨C', hI', hS⟩ := hk;obtain ⟨w3, hr, he, hh⟩ := fin none S2 w2 C' he2 hh2 hS;exact ⟨_, w3, hr, _, _, rfl, he, hh, true, _, rfl, rfl, fun _ => ⟨C', by rw [hr0]; rfl, hI'⟩, fun h => by cases h⟩
 | ret =>
  obtain ⟨C', hI', hS⟩ := hk;obtain ⟨w3, hr, he, hh⟩ := fin (some .ret) S2 w2 C' he2 hh2 hS;exact ⟨_, w3, hr, _, _, rfl, he, hh, false, _, rfl, rfl, fun h => (by cases h), fun _ => ⟨.ret, C', by simp, hI'⟩⟩
 | exit id =>
  obtain ⟨C', hI', hS⟩ := hk;obtain ⟨w3, hr, he, hh⟩ := fin (some (.exit id)) S2 w2 C' he2 hh2 hS;exact ⟨_, w3, hr, _, _, rfl, he, hh, false, _, rfl, rfl, fun h => (by cases h), fun _ => ⟨.exit id, C', by simp, hI'⟩⟩
 | goto t =>
  obtain ⟨C', hI', hS⟩ := hk;obtain ⟨w3, hr, he, hh⟩ := fin (some (.goto t)) S2 w2 C' he2 hh2 hS;exact ⟨_, w3, hr, _, _, rfl, he, hh, false, _, rfl, rfl, fun h => (by cases h), fun _ => ⟨.goto t, C', by simp, hI'⟩⟩
 | panic ch => exact hk.elim
 | outgrown => exact hk.elim
theorem ZP {f : FuncId} (h : jW P f = true) (args : Array Value) (w : World) : (callFunc f args).run P w = .ok (.enter f args) w := by
 unfold jW at h
 split at h
 ·rename_i fn hf
  simp only [aN, bne_iff_ne, ne_eq] at h;obtain ⟨hn, hb⟩ := h;obtain ⟨c, hc⟩ := Option.isSome_iff_exists.1 hb
  simp [callFunc, program, Sem.run_bind, Sem.run, hf, hn, hc, Result.andThen]
 ·cases h
end Go.Ost
namespace Go.Ost
open Go
variable {P : Program} {n : Nat} {ro : Option Nat}
def yy : Op -> Bool
 | .load .. | .lookup .. => true
 | .call { callee := .builtin .len, .. } => true
 | _ => false
def stepQ (P : Program) (op : Op) (t : TypeId) (L : Env) (S : State) (κ : Value -> Prop) : Prop :=
 match op with
 | .move x | .assign x => withV (evT L x) fun v => κ v
 | .pick c a b => withV (evT L c) fun v => withB v fun g => withV (evT L (if g then a else b)) fun u => κ u
 | .build u ps => withP (evP L ps.toList) fun vs => PureW P (Instr.build u vs.toArray) fun v => κ v
 | .load u x => withV (evT L x) fun a => ReadW P (Instr.loadAt u a) S fun v => κ v
 | .nilCheck x => withV (evT L x) fun v => NilW v fun v => κ v
 | .binOp o u x y _ => withV (evT L x) fun a => withV (evT L y) fun b => PureW P (do eqGuard o u x y a b; binOp o u a b) fun v => κ v
 | .unOp o _ x => withV (evT L x) fun a => PureW P (Op.unary o a) fun v => κ v
 | .convert s d x => withV (evT L x) fun v => PureW P (convert s d v) fun v => κ v
 | .makeInterface u x => withV (evT L x) fun v => PureW P (Instr.makeInterface u v) fun v => κ v
 | .makeFunc fn a b => withL (evL L a.toList) fun va => withL (evL L b.toList) fun vb => κ (.func fn va.toArray vb.toArray)
 | .slice u x lo hi mx => withV (evT L x) fun v => withO (evO L lo) fun a => withO (evO L hi) fun b => withO (evO L mx) fun c => PureW P (Instr.sliceAt u v a b c) fun v => κ v
 | .sliceToArrayPointer u x => withV (evT L x) fun v => PureW P (Instr.arrayAt u v) fun v => κ v
 | .fieldAddr u x f => withV (evT L x) fun v => PureW P (Instr.fieldAt u v f) fun v => κ v
 | .field u x f => withV (evT L x) fun v => PureW P (Instr.field u v f) fun v => κ v
 | .indexAddr u x i => withV (evT L x) fun v => withV (evT L i) fun j => PureW P (Instr.indexAt u v j) fun v => κ v
 | .index u x i => withV (evT L x) fun v => withV (evT L i) fun j => PureW P (Instr.index u v j) fun v => κ v
 | .lookup u x i ok => withV (evT L x) fun v => withV (evT L i) fun j => ReadW P (Instr.lookup u v j ok) S fun v => κ v
 | .typeAssert x u v ok => withV (evT L x) fun a => PureW P (Instr.typeAssert a u v ok) fun v => κ v
 | .extract x i => withV (evT L x) fun a => PureW P (Instr.extract a i) fun v => κ v
 | .call c => withL (evL L c.args.toList) fun vs =>
  match c.callee, vs with
  | .builtin .min, _ => PureW P (Builtin.min_ c.argTypes t vs.toArray) fun v => κ v
  | .builtin .max, _ => PureW P (Builtin.max_ c.argTypes t vs.toArray) fun v => κ v
  | .builtin .cap, _ => PureW P (Builtin.cap_ c.argTypes t vs.toArray) fun v => κ v
  | .builtin .len, [.slice a n c'] => PureW P (Builtin.len_ c.argTypes t #[.slice a n c']) fun v => κ v
  | .builtin .len, [.string s] => PureW P (Builtin.len_ c.argTypes t #[.string s]) fun v => κ v
  | .builtin .len, [.map r] => ReadW P (Builtin.len_ c.argTypes t #[.map r]) S fun v => κ v
  | _, _ => False
 | _ => False
theorem pure_val {m : Sem Value} {κ : Value -> Prop} (h : PureW P m κ) : ∃ v, κ v /\ ∀ w, (do pure (.value (<- m)) : Sem Next).run P w = .ok (.value v) w := by
 obtain ⟨v, h1, h2⟩ := h.out;exact ⟨v, h2, fun w => by simp [Sem.run_bind, h1 w, Result.andThen]⟩
theorem read_val {m : Sem Value} {S : State} {κ : Value -> Prop} (h : ReadW P m S κ) : ∃ v, κ v /\ ∀ w, Hold w S -> (do pure (.value (<- m)) : Sem Next).run P w = .ok (.value v) w := by
 obtain ⟨v, h1, h2⟩ := h.out;exact ⟨v, h2, fun w hw => by simp [Sem.run_bind, h1 w hw, Result.andThen]⟩
theorem IT {o : Oper} {L : Env} {S : State} {κ : Value -> Prop} (h : stepQ P o.op o.type L S κ) :
  ∃ v, κ v /\ ∀ (ρ : Operand -> Value), (∀ x v, evT L x = some v -> ρ x = v) -> ∀ w, (yy o.op = true -> Hold w S) -> (execOp ρ o).run P w = .ok (.value v) w := by
 obtain ⟨dst, op, t, pos, after, guard⟩ := o
 have viaPure : ∀ {m : (Operand -> Value) -> Sem Value} {m0 : Sem Value}, PureW P m0 κ -> (∀ ρ : Operand -> Value, (∀ x v, evT L x = some v -> ρ x = v) -> m ρ = m0) ->
   ∃ v, κ v /\ ∀ (ρ : Operand -> Value), (∀ x v, evT L x = some v -> ρ x = v) -> ∀ w, (do pure (.value (<- m ρ)) : Sem Next).run P w = .ok (.value v) w := by
  intro m m0 hp he;obtain ⟨v, hk, hr⟩ := pure_val hp;exact ⟨v, hk, fun ρ hρ w => by rw [he ρ hρ]; exact hr w⟩
 have viaRead : ∀ {m : (Operand -> Value) -> Sem Value} {m0 : Sem Value}, ReadW P m0 S κ -> (∀ ρ : Operand -> Value, (∀ x v, evT L x = some v -> ρ x = v) -> m ρ = m0) ->
   ∃ v, κ v /\ ∀ (ρ : Operand -> Value), (∀ x v, evT L x = some v -> ρ x = v) -> ∀ w, Hold w S -> (do pure (.value (<- m ρ)) : Sem Next).run P w = .ok (.value v) w := by
  intro m m0 hp he;obtain ⟨v, hk, hr⟩ := read_val hp;exact ⟨v, hk, fun ρ hρ w hw => by rw [he ρ hρ]; exact hr w hw⟩
 cases op <;> simp only [stepQ] at h <;> simp only [execOp, yy]
 case move x => obtain ⟨v, hx, h⟩ := zl h; exact ⟨v, h, fun ρ hρ w _ => by rw [hρ x v hx]; rfl⟩
 case assign x => obtain ⟨v, hx, h⟩ := zl h; exact ⟨v, h, fun ρ hρ w _ => by rw [hρ x v hx]; rfl⟩
 case pick c a b =>
  obtain ⟨v, hx, h⟩ := zl h
  cases v <;> first | exact h.elim | skip
  rename_i g
  simp only [withB] at h;obtain ⟨u, hu, h⟩ := zl h;refine ⟨u, h, fun ρ hρ w _ => ?_⟩;have h1 := hρ _ _ hu;rw [hρ c _ hx]
  cases g <;> simp_all [asBool, Sem.run_bind, Result.andThen]
 case build u ps =>
  cases hp : evP L ps.toList with
  | none => rw [hp] at h; exact h.elim
  | some vs =>
   rw [hp] at h
   obtain ⟨v, hk, hr⟩ := viaPure (m := fun ρ => Instr.build u (ps.map fun (i, x) => (i, ρ x))) h (fun ρ hρ => by
    have e : (ps.map fun (i, x) => (i, ρ x)) = vs.toArray := cS (by simpa using JX hρ _ _ hp);rw [e])
   exact ⟨v, hk, fun ρ hρ w _ => hr ρ hρ w⟩
 case load u x =>
  obtain ⟨a, hx, h⟩ := zl h;obtain ⟨v, hk, hr⟩ := viaRead (m := fun ρ => Instr.loadAt u (ρ x)) h (fun ρ hρ => by simp only [hρ x a hx]);exact ⟨v, hk, fun ρ hρ w hw => hr ρ hρ w (hw trivial)⟩
 case nilCheck x =>
  obtain ⟨v, hx, h⟩ := zl h;unfold NilW at h
  split at h
  ·exact ⟨_, h, fun ρ hρ w _ => by rw [hρ x _ hx]; rfl⟩
  ·exact ⟨_, h, fun ρ hρ w _ => by rw [hρ x _ hx]; rfl⟩
  ·exact ⟨_, h, fun ρ hρ w _ => by rw [hρ x _ hx]; rfl⟩
  ·exact h.elim
 case binOp o u x y yt =>
  obtain ⟨a, hx, h⟩ := zl h; obtain ⟨b, hy, h⟩ := zl h;obtain ⟨v, hk, hr⟩ := viaPure (m := fun ρ => do eqGuard o u x y (ρ x) (ρ y); binOp o u (ρ x) (ρ y)) h (fun ρ hρ => by simp only [hρ x a hx, hρ y b hy]);exact ⟨v, hk, fun ρ hρ w _ => hr ρ hρ w⟩
 case unOp o u x =>
  obtain ⟨a, hx, h⟩ := zl h;obtain ⟨v, hk, hr⟩ := viaPure (m := fun ρ => Op.unary o (ρ x)) h (fun ρ hρ => by simp only [hρ x a hx]);exact ⟨v, hk, fun ρ hρ w _ => hr ρ hρ w⟩
 case convert s d x =>
  obtain ⟨a, hx, h⟩ := zl h;obtain ⟨v, hk, hr⟩ := viaPure (m := fun ρ => convert s d (ρ x)) h (fun ρ hρ => by simp only [hρ x _ hx]);exact ⟨v, hk, fun ρ hρ w _ => hr ρ hρ w⟩
 case sliceToArrayPointer u x =>
  obtain ⟨a, hx, h⟩ := zl h;obtain ⟨v, hk, hr⟩ := viaPure (m := fun ρ => Instr.arrayAt u (ρ x)) h (fun ρ hρ => by simp only [hρ x a hx]);exact ⟨v, hk, fun ρ hρ w _ => hr ρ hρ w⟩
 case makeInterface u x =>
  obtain ⟨a, hx, h⟩ := zl h;obtain ⟨v, hk, hr⟩ := viaPure (m := fun ρ => Instr.makeInterface u (ρ x)) h (fun ρ hρ => by simp only [hρ x a hx]);exact ⟨v, hk, fun ρ hρ w _ => hr ρ hρ w⟩
 case makeFunc fn a b =>
  cases ha : evL L a.toList with
  | none => rw [ha] at h; exact h.elim
  | some va =>
   rw [ha] at h;simp only [withL] at h
   cases hb : evL L b.toList with
   | none => rw [hb] at h; exact h.elim
   | some vb =>
    rw [hb] at h;refine ⟨_, h, fun ρ hρ w _ => ?_⟩;have ea : a.map ρ = va.toArray := cS (by simpa using kZ hρ _ _ ha);have eb : b.map ρ = vb.toArray := cS (by simpa using kZ hρ _ _ hb);rw [ea, eb]; rfl
 case slice u x lo hi mx =>
  obtain ⟨a, hx, h⟩ := zl h
  have h2 : ∃ v, κ v /\ ∀ (ρ : Operand -> Value), (∀ x v, evT L x = some v -> ρ x = v) -> ∀ w, (do pure (.value (<- Instr.sliceAt u (ρ x) (lo.map ρ) (hi.map ρ) (mx.map ρ))) : Sem Next).run P w = .ok (.value v) w := by
   cases h1 : evO L lo with
   | none => rw [h1] at h; exact h.elim
   | some lo' =>
    rw [h1] at h;simp only [withO] at h
    cases h2 : evO L hi with
    | none => rw [h2] at h; exact h.elim
    | some hi' =>
     rw [h2] at h;simp only at h
     cases h3 : evO L mx with
     | none => rw [h3] at h; exact h.elim
     | some mx' =>
      rw [h3] at h;simp only at h
      have out : ∀ {y : Option Operand} {y' : Option Value} {ρ : Operand -> Value}, (∀ x v, evT L x = some v -> ρ x = v) -> evO L y = some y' -> y.map ρ = y' := by
       intro y y' ρ hρ he;have := vP (κ := fun z => z = y') hρ (x := y) (by rw [he]; exact rfl);exact this
      exact viaPure (m := fun ρ => Instr.sliceAt u (ρ x) (lo.map ρ) (hi.map ρ) (mx.map ρ)) h (fun ρ hρ => by simp only [hρ x a hx, out hρ h1, out hρ h2, out hρ h3])
  obtain ⟨v, hk, hr⟩ := h2;exact ⟨v, hk, fun ρ hρ w _ => hr ρ hρ w⟩
 case fieldAddr u x f =>
  obtain ⟨a, hx, h⟩ := zl h;obtain ⟨v, hk, hr⟩ := viaPure (m := fun ρ => Instr.fieldAt u (ρ x) f) h (fun ρ hρ => by simp only [hρ x a hx]);exact ⟨v, hk, fun ρ hρ w _ => hr ρ hρ w⟩
 case field u x f =>
  obtain ⟨a, hx, h⟩ := zl h;obtain ⟨v, hk, hr⟩ := viaPure (m := fun ρ => Instr.field u (ρ x) f) h (fun ρ hρ => by simp only [hρ x a hx]);exact ⟨v, hk, fun ρ hρ w _ => hr ρ hρ w⟩
 case indexAddr u x y =>
  obtain ⟨a, hx, h⟩ := zl h; obtain ⟨b, hy, h⟩ := zl h;obtain ⟨v, hk, hr⟩ := viaPure (m := fun ρ => Instr.indexAt u (ρ x) (ρ y)) h (fun ρ hρ => by simp only [hρ x a hx, hρ y b hy]);exact ⟨v, hk, fun ρ hρ w _ => hr ρ hρ w⟩
 case index u x y =>
  obtain ⟨a, hx, h⟩ := zl h; obtain ⟨b, hy, h⟩ := zl h;obtain ⟨v, hk, hr⟩ := viaPure (m := fun ρ => Instr.index u (ρ x) (ρ y)) h (fun ρ hρ => by simp only [hρ x a hx, hρ y b hy]);exact ⟨v, hk, fun ρ hρ w _ => hr ρ hρ w⟩
 case lookup u x y ok =>
  obtain ⟨a, hx, h⟩ := zl h; obtain ⟨b, hy, h⟩ := zl h;obtain ⟨v, hk, hr⟩ := viaRead (m := fun ρ => Instr.lookup u (ρ x) (ρ y) ok) h (fun ρ hρ => by simp only [hρ x a hx, hρ y b hy]);exact ⟨v, hk, fun ρ hρ w hw => hr ρ hρ w (hw trivial)⟩
 case typeAssert x u v' ok =>
  obtain ⟨a, hx, h⟩ := zl h;obtain ⟨v, hk, hr⟩ := viaPure (m := fun ρ => Instr.typeAssert (ρ x) u v' ok) h (fun ρ hρ => by simp only [hρ x a hx]);exact ⟨v, hk, fun ρ hρ w _ => hr ρ hρ w⟩
 case extract x i =>
  obtain ⟨a, hx, h⟩ := zl h;obtain ⟨v, hk, hr⟩ := viaPure (m := fun ρ => Instr.extract (ρ x) i) h (fun ρ hρ => by simp only [hρ x a hx]);exact ⟨v, hk, fun ρ hρ w _ => hr ρ hρ w⟩
 case call c =>
  obtain ⟨callee, args, ats⟩ := c
  cases hp : evL L args.toList with
  | none => rw [hp] at h; exact h.elim
  | some vs =>
   rw [hp] at h;simp only [withL] at h;have e : ∀ ρ : Operand -> Value, (∀ x v, evT L x = some v -> ρ x = v) -> args.map ρ = vs.toArray := fun ρ hρ => cS (by simpa using kZ hρ _ _ hp)
   split at h
   ·subst_vars
    obtain ⟨v, hk, hr⟩ := viaPure (m := fun ρ => Builtin.min_ ats t (args.map ρ)) h (fun ρ hρ => by simp only [e ρ hρ]);exact ⟨v, hk, fun ρ hρ w _ => hr ρ hρ w⟩
   ·subst_vars
    obtain ⟨v, hk, hr⟩ := viaPure (m := fun ρ => Builtin.max_ ats t (args.map ρ)) h (fun ρ hρ => by simp only [e ρ hρ]);exact ⟨v, hk, fun ρ hρ w _ => hr ρ hρ w⟩
   ·subst_vars
    obtain ⟨v, hk, hr⟩ := viaPure (m := fun ρ => Builtin.cap_ ats t (args.map ρ)) h (fun ρ hρ => by simp only [e ρ hρ]);exact ⟨v, hk, fun ρ hρ w _ => hr ρ hρ w⟩
   ·subst_vars
    obtain ⟨v, hk, hr⟩ := viaPure (m := fun ρ => Builtin.len_ ats t (args.map ρ)) h (fun ρ hρ => by simp only [e ρ hρ]);exact ⟨v, hk, fun ρ hρ w _ => hr ρ hρ w⟩
   ·subst_vars
    obtain ⟨v, hk, hr⟩ := viaPure (m := fun ρ => Builtin.len_ ats t (args.map ρ)) h (fun ρ hρ => by simp only [e ρ hρ]);exact ⟨v, hk, fun ρ hρ w _ => hr ρ hρ w⟩
   ·subst_vars
    obtain ⟨v, hk, hr⟩ := viaRead (m := fun ρ => Builtin.len_ ats t (args.map ρ)) h (fun ρ hρ => by simp only [e ρ hρ]);exact ⟨v, hk, fun ρ hρ w hw => hr ρ hρ w (hw rfl)⟩
   ·exact h.elim
 all_goals exact h.elim
end Go.Ost
namespace Go.Ost
open Go
variable {P : Program} {n : Nat} {ro : Option Nat}
abbrev Entry := Nat × Bool × List Nat
def jp (ops : Array Oper) (j : Nat) : Option Tmp := (ops[j]?).bind (·.dst)
def xw (ops : Array Oper) (j : Nat) : List Tmp := match ops[j]? with | some o => o.looksAt ops | none => []
def Jz (ops : Array Oper) (j : Nat) : Bool := match ops[j]? with | some o => yy o.op | none => false
def xX (ops : Array Oper) (j : Nat) : List Nat := match ops[j]? with | some o => (o.after.toList.filter (Region.binds .any)).map (·.on) | none => []
def okAt (ops : Array Oper) (A : List (List Nat)) (n : Nat) (pre : List Entry) (x : Entry) : Bool :=
 (xX ops x.1).all (fun j => pre.any (·.1 == j)) &&
 pre.all (fun y => !y.2.1 || (A.getD x.1 []).contains y.1) &&
 !pre.any (·.1 == x.1) &&
 pre.all (fun y => y.2.1 ||
  ((match jp ops y.1 with | some d => !(xw ops x.1).contains d || (A.getD x.1 []).contains y.1 | none => true) &&
   (match jp ops x.1 with | some d => (!(xw ops y.1).contains d && jp ops y.1 != some d) || (x.2.1 && (A.getD x.1 []).contains y.1) | none => true) &&
   (!x.2.1 || !Jz ops y.1 || (A.getD x.1 []).contains y.1 || x.2.2.contains y.1))) &&
 (x.2.1 || (match jp ops x.1 with | some d => decide (d < n) && !(xw ops x.1).contains d | none => false)) &&
 decide (x.1 < ops.size)
def xi (ops : Array Oper) (A : List (List Nat)) (n : Nat) : List Entry -> List Entry -> Bool
 | _, [] => true
 | pre, x :: l => okAt ops A n pre x && xi ops A n (pre ++ [x]) l
def certB (ops : Array Oper) (A : List (List Nat)) : Bool :=
 (bC ops.size).all fun i => (A.getD i []).all fun j => (xX ops i).any fun e => e == j || (A.getD e []).contains j
def Ub (ops : Array Oper) (A : List (List Nat)) (n : Nat) (pl : List Entry) : Bool :=
 certB ops A && xi ops A n [] pl && (bC ops.size).all fun i => pl.any (·.1 == i)
def quietW (P : Program) (ops : Array Oper) (o : Oper) (L : Env) (S : State) (κ : Value -> Prop) : Prop :=
 guardW ops o L (stepQ P o.op o.type L S κ) (κ undef)
def stillAll (P : Program) (ops : Array Oper) : List Nat -> Env -> State -> Prop -> Prop
 | [], _, _, p => p
 | j :: js, L, S, p =>
  match ops[j]? with
  | some o => (match o.dst with | some d => withV (lookT L d) fun v => quietW P ops o L S fun u => u = v | none => False) /\ stillAll P ops js L S p
  | none => False
def xj (P : Program) (n : Nat) (ops : Array Oper) (K : Env -> State -> Prop) : List Entry -> Env -> State -> Prop
 | [], L, S => K L S
 | (i, false, _) :: l, L, S =>
  match ops[i]? with
  | some o => quietW P ops o L S fun v => xj P n ops K l (putT n o.dst v L) S
  | none => False
 | (i, true, pend) :: l, L, S =>
  match ops[i]? with
  | some o => guardW ops o L (stepW P o.op o.type L S fun v S' => stillAll P ops pend (putT n o.dst v L) S' (xj P n ops K l (putT n o.dst v L) S'))
    (stillAll P ops pend (putT n o.dst undef L) S (xj P n ops K l (putT n o.dst undef L) S))
  | none => False
def kF (P : Program) (ops : Array Oper) (o : Oper) (a : Act) (w : World) (v : Value) : Prop :=
 (Region.wanted o (yielded ops a.tmps) = true /\ (execOp a.eval o).run P w = .ok (.value v) w) ∨ (Region.wanted o (yielded ops a.tmps) = false /\ v = undef)
def qT (ts : List Tmp) (L : Env) (a : Act) : Prop := ∀ t ∈ ts, ∀ u, lookT L t = some u -> a.tmps[t]? = some u
theorem qP {ops : Array Oper} {o : Oper} {L : Env} {a : Act} {A B : Prop} (ha : qT (o.looksAt ops) L a) (h : guardW ops o L A B) :
  (Region.wanted o (yielded ops a.tmps) = true /\ A) ∨ (Region.wanted o (yielded ops a.tmps) = false /\ B) := by
 unfold guardW at h
 cases hg : o.guard with
 | none => rw [hg] at h; exact .inl ⟨by simp [Region.wanted, hg], h⟩
 | some g =>
  obtain ⟨j, want⟩ := g;rw [hg] at h;simp only at h
  cases hd : (ops[j]?).bind (·.dst) with
  | none => rw [hd] at h; exact h.elim
  | some d =>
   rw [hd] at h;simp only at h;have hmem : d ∈ o.looksAt ops := by simp [Oper.looksAt, hg, hd]
   cases hv : lookT L d with
   | none => rw [hv] at h; exact h.elim
   | some v =>
    rw [hv] at h;have ht := ha d hmem v hv
    cases v <;> first | exact h.elim | skip
    case bool b =>
     simp only [withV] at h
     split at h
     ·subst_vars; exact .inl ⟨by simp [Region.wanted, hg, yielded, hd, ht], h⟩
     ·rename_i hne; exact .inr ⟨by simp [Region.wanted, hg, yielded, hd, ht, hne], h⟩
    case tuple vs => exact .inr ⟨by simp [Region.wanted, hg, yielded, hd, ht], h⟩
theorem yR {ops : Array Oper} {o : Oper} {L : Env} {a : Act} (ha : qT (o.looksAt ops) L a) :
  ∃ ρ : Operand -> Value, (∀ x v, evT L x = some v -> ρ x = v) /\ ∀ x ∈ o.op.operands, ρ x = a.eval x := by
 refine ⟨fun x => (evT L x).getD (a.eval x), fun x v h => by simp [h], fun x hx => ?_⟩;simp only
 cases h : evT L x with
 | none => rfl
 | some v =>
  simp only [cI]
  cases x with
  | tmp t =>
   have hmem : t ∈ o.looksAt ops := bD _ (List.mem_filterMap.2 ⟨.tmp t, by simpa using hx, rfl⟩);have := ha t hmem v h
   simp [Act.eval, this]
  | const u => cases h; rfl
  | global g => cases h; rfl
  | func f => cases h; rfl
theorem yH {op : Op} {t : TypeId} {L : Env} {S : State} {κ : Value -> Prop} (h : stepQ P op t L S κ) : ∀ cs b, op ≠ .select cs b := by intro cs b e; subst e; exact h
theorem qv {op : Op} {t : TypeId} {L : Env} {S : State} {κ : Value -> Prop} (h : stepQ P op t L S κ) : ∀ c, op ≠ .defer c := by intro cs e; subst e; exact h
theorem qj {op : Op} {t : TypeId} {L : Env} {S : State} {κ : Value -> State -> Prop} (h : stepW P op t L S κ) : ∀ cs b, op ≠ .select cs b := by intro cs b e; subst e; exact h
theorem vX {ops : Array Oper} {o : Oper} {L : Env} {S : State} {κ : Value -> Prop} (h : quietW P ops o L S κ) :
  ∃ v, κ v /\ ((∀ c, o.op ≠ .defer c) ∨ o.guard ≠ none) /\ ∀ a w, qT (o.looksAt ops) L a -> (yy o.op = true -> Hold w S) -> kF P ops o a w v /\ ((∀ c, o.op ≠ .defer c) ∨ Region.wanted o (yielded ops a.tmps) = false) := by
 unfold quietW at h
 by_cases hd : ∃ a, qT (o.looksAt ops) L a /\ Region.wanted o (yielded ops a.tmps) = true
 ·obtain ⟨a0, h1, h2⟩ := hd
  rcases qP h1 h with ⟨_, hs⟩ | ⟨h3, _⟩
  ·obtain ⟨v, hk, hr⟩ := IT hs;refine ⟨v, hk, .inl (qv hs), fun a w ha hw => ⟨?_, .inl (qv hs)⟩⟩
   have hwn : Region.wanted o (yielded ops a.tmps) = true := by
    unfold guardW at h
    cases hg : o.guard with
    | none => simp [Region.wanted, hg]
    | some g =>
     obtain ⟨j, want⟩ := g;rw [hg] at h;simp only at h
     cases hdd : (ops[j]?).bind (·.dst) with
     | none => rw [hdd] at h; exact h.elim
     | some d =>
      rw [hdd] at h;simp only at h;have hmem : d ∈ o.looksAt ops := by simp [Oper.looksAt, hg, hdd]
      cases hv : lookT L d with
      | none => rw [hv] at h; exact h.elim
      | some v' =>
       have e1 := h1 d hmem v' hv;have e2 := ha d hmem v' hv;simp only [Region.wanted, hg, yielded, hdd, e1, e2, Option.bind_some] at h2 ⊢;exact h2
   obtain ⟨ρ, hρ, he⟩ := yR ha;refine .inl ⟨hwn, ?_⟩;rw [<- execOp_congr o (yH hs) he];exact hr ρ hρ w hw
  ·rw [h2] at h3; cases h3
 ·refine ⟨undef, ?_, ?_, fun a w ha _ => ?_⟩
  ·by_cases hg : o.guard = none
   ·exfalso
    exact hd ⟨{ tmps := Array.ofFn (n := (L.map (·.1)).foldr max 0 + 1) (fun i => (lookT L i).getD undef), defers := [] }, by
     intro t _ u hu
     have hb : ∀ (L : Env) t u, lookT L t = some u -> t <= (L.map (·.1)).foldr max 0 := by
      intro L
      induction L with
      | nil => intro t u h; simp [lookT] at h
      | cons x L ih =>
       obtain ⟨d, v⟩ := x;intro t u h;simp only [lookT] at h;simp only [aZ, List.foldr_cons]
       split at h
       ·subst_vars; exact Nat.le_max_left _ _
       ·exact dN (ih t u h) (Nat.le_max_right _ _)
     have := hb L t u hu;rw [Array.getElem?_ofFn];rw [dif_pos (by omega)]
     simp [hu], by simp [Region.wanted, hg]⟩
   ·
    unfold guardW at h
    cases hg' : o.guard with
    | none => exact absurd hg' hg
    | some g =>
     obtain ⟨j, want⟩ := g;rw [hg'] at h;simp only at h
     cases hdd : (ops[j]?).bind (·.dst) with
     | none => rw [hdd] at h; exact h.elim
     | some d =>
      rw [hdd] at h;simp only at h
      cases hv : lookT L d with
      | none => rw [hv] at h; exact h.elim
      | some v =>
       rw [hv] at h
       cases v <;> first | exact h.elim | skip
       case tuple vs => exact h
       case bool b =>
        simp only [withV] at h
        split at h
        ·rename_i hb
         exfalso
         exact hd ⟨{ tmps := Array.ofFn (n := (L.map (·.1)).foldr max 0 + 1) (fun i => (lookT L i).getD undef), defers := [] }, by
          intro t _ u hu
          have hb : ∀ (L : Env) t u, lookT L t = some u -> t <= (L.map (·.1)).foldr max 0 := by
           intro L
           induction L with
           | nil => intro t u h; simp [lookT] at h
           | cons x L ih =>
            obtain ⟨d, v⟩ := x;intro t u h;simp only [lookT] at h;simp only [aZ, List.foldr_cons]
            split at h
            ·subst_vars; exact Nat.le_max_left _ _
            ·exact dN (ih t u h) (Nat.le_max_right _ _)
          have := hb L t u hu;rw [Array.getElem?_ofFn];rw [dif_pos (by omega)]
          simp [hu], by
          have hb' : ∀ (L : Env) t u, lookT L t = some u -> t <= (L.map (·.1)).foldr max 0 := by
           intro L
           induction L with
           | nil => intro t u h; simp [lookT] at h
           | cons x L ih =>
            obtain ⟨d, v⟩ := x;intro t u h;simp only [lookT] at h;simp only [aZ, List.foldr_cons]
            split at h
            ·subst_vars; exact Nat.le_max_left _ _
            ·exact dN (ih t u h) (Nat.le_max_right _ _)
          have := hb' L d _ hv;simp only [Region.wanted, hg', yielded, hdd, Option.bind_some];rw [Array.getElem?_ofFn, dif_pos (by omega)]
          simp [hv, hb]⟩
        ·exact h
  ·by_cases hg : o.guard = none
   ·exact .inl (by
     unfold guardW at h;rw [hg] at h;exact qv h)
   ·exact .inr hg
  ·have hf : Region.wanted o (yielded ops a.tmps) = false := by
    cases hx : Region.wanted o (yielded ops a.tmps) with
    | false => rfl
    | true => exact absurd ⟨a, ha, hx⟩ hd
   exact ⟨.inr ⟨hf, rfl⟩, .inr hf⟩
theorem jL {ops : Array Oper} {i : Nat} {o : Oper} {a : Act} {w : World} {v : Value} {K : Act -> World -> Prop} {Q : Exit -> Act -> World -> Prop} (ho : ops[i]? = some o)
  (hy : kF P ops o a w v) (hd : (∀ c, o.op ≠ .defer c) ∨ Region.wanted o (yielded ops a.tmps) = false) (h : K (a.put o.dst v) w) : wpOpIn (FW ro) 0 P ops Q i K a w := by
 unfold wpOpIn;rw [ho];simp only
 rcases hy with ⟨hw, hr⟩ | ⟨hw, rfl⟩
 ·rw [if_pos hw];refine ⟨fun _ _ => trivial, ?_⟩;rw [Oper.semAt_eq _ _ _ (hd.resolve_right (by simp [hw])), hr];exact h
 ·rw [if_neg (by simp [hw])];exact ⟨fun _ _ => trivial, h⟩
theorem kX {p q : Nat -> Bool} {i : Nat} : ∀ (l : List Nat), (∀ x, q x = true -> p x = true) -> i ∈ l -> p i = true -> q i = false -> (l.filter q).length < (l.filter p).length
 | [], _, h, _, _ => by cases h
 | x :: l, hpq, hi, hp, hq => by
  have le : ∀ l : List Nat, (l.filter q).length <= (l.filter p).length := by
   intro l
   induction l with
   | nil => simp
   | cons y l ih =>
    simp only [List.filter_cons]
    by_cases h1 : q y = true
    ·rw [if_pos h1, if_pos (hpq y h1)]; simpa using ih
    ·rw [if_neg h1]
     split
     ·simp only [aJ]; omega
     ·exact ih
  simp only [List.filter_cons]
  rcases List.mem_cons.1 hi with rfl | hi
  ·rw [if_neg (by simp [hq]), if_pos hp];have := le l;simp only [aJ]; omega
  ·have ih := kX l hpq hi hp hq
   by_cases h1 : q x = true
   ·rw [if_pos h1, if_pos (hpq x h1)]; simp only [aJ]; omega
   ·rw [if_neg h1]
    split
    ·simp only [aJ]; omega
    ·exact ih
theorem ZB {m : Nat} {dst : Option Tmp} {v : Value} {L : Env} {t : Nat} {u : Value} (h : lookT (putT m dst v L) t = some u) : (dst = some t /\ t < m /\ u = v) ∨ (lookT L t = some u) := by
 cases dst with
 | none => exact .inr h
 | some d =>
  simp only [putT] at h
  split at h
  ·simp only [lookT] at h
   split at h
   ·cases h; subst_vars; exact .inl ⟨rfl, ‹_›, rfl⟩
   ·exact .inr h
  ·exact .inr h
theorem ke {m : Nat} {dst : Option Tmp} {v : Value} {L : Env} {t : Nat} (h : dst ≠ some t) : lookT (putT m dst v L) t = lookT L t := by
 cases dst with
 | none => rfl
 | some d =>
  simp only [putT]
  split
  ·simp only [lookT]; rw [if_neg (fun e => h (by rw [e]))]
  ·rfl
structure DInv (P : Program) (n : Nat) (ops : Array Oper) (A : List (List Nat)) (K : Env -> State -> Prop) (D : List Nat) (w0 : World) (pre l : List Entry) (listed : Array Bool) (L : Env) (S : State) (a : Act) (w : World) : Prop where
 size : listed.size = ops.size
 inPre : ∀ i, listed.getD i false = true -> ∃ x ∈ pre, x.1 = i
 effs : ∀ x ∈ pre, x.2.1 = true -> listed.getD x.1 false = true
 clos : ∀ i, listed.getD i false = true -> ∀ j ∈ A.getD i [], listed.getD j false = true
 tmps : ∀ t v, lookT L t = some v -> (∃ x ∈ pre, listed.getD x.1 false = false /\ jp ops x.1 = some t) ∨ a.tmps[t]? = some v
 facts : ∀ x ∈ pre, listed.getD x.1 false = false -> ∃ o v, ops[x.1]? = some o /\ (∃ d, o.dst = some d /\ d < n /\ lookT L d = some v) /\
  ∀ a' w', qT (o.looksAt ops) L a' -> (yy o.op = true -> Hold w' S) -> kF P ops o a' w' v /\ ((∀ c, o.op ≠ .defer c) ∨ Region.wanted o (yielded ops a'.tmps) = false)
 prs : ∀ x ∈ pre, ∀ y ∈ pre, x.2.1 = false -> y.2.1 = false -> ∀ d, jp ops y.1 = some d -> d ∈ xw ops x.1 -> y.1 ∈ A.getD x.1 []
 asz : a.tmps.size = n
 dfr : a.defers = D.map JK
 ext : Ext w0 w
 hold : Hold w S
 ok : xi ops A n pre l = true
 pres : xi ops A n [] pre = true
 all : ∀ i, i < ops.size -> (∃ x ∈ pre, x.1 = i) ∨ ∃ x ∈ l, x.1 = i
 rest : xj P n ops K l L S
theorem xb {ops : Array Oper} {A : List (List Nat)} {pre : List Entry} {x : Entry} (h : okAt ops A n pre x = true) :
  (∀ j ∈ xX ops x.1, ∃ y ∈ pre, y.1 = j) /\ (∀ y ∈ pre, y.2.1 = true -> y.1 ∈ A.getD x.1 []) /\ (∀ y ∈ pre, y.1 ≠ x.1) /\
  (∀ y ∈ pre, y.2.1 = false -> (∀ d, jp ops y.1 = some d -> d ∈ xw ops x.1 -> y.1 ∈ A.getD x.1 []) /\
   (∀ d, jp ops x.1 = some d -> (d ∉ xw ops y.1 /\ jp ops y.1 ≠ some d) ∨ (x.2.1 = true /\ y.1 ∈ A.getD x.1 [])) /\
   (x.2.1 = true -> Jz ops y.1 = true -> y.1 ∈ A.getD x.1 [] ∨ y.1 ∈ x.2.2)) /\
  (x.2.1 = false -> ∃ d, jp ops x.1 = some d /\ d < n /\ d ∉ xw ops x.1) /\ x.1 < ops.size := by
 simp only [okAt, aN, decide_eq_true_eq] at h;obtain ⟨⟨⟨⟨⟨h1, h2⟩, h3⟩, h4⟩, h5⟩, h6⟩ := h;refine ⟨fun j hj => ?_, fun y hy he => ?_, fun y hy he => ?_, fun y hy he => ⟨fun d hd hl => ?_, fun d hd => ?_, fun hx hr => ?_⟩, fun hx => ?_, h6⟩
 ·have := List.all_eq_true.1 h1 j hj;obtain ⟨y, hy, e⟩ := List.any_eq_true.1 this;exact ⟨y, hy, by simpa using e⟩
 ·have := List.all_eq_true.1 h2 y hy
  simpa [he] using this
 ·simp only [Bool.not_eq_true', List.any_eq_false] at h3;exact h3 y hy (by simpa using he)
 ·have := List.all_eq_true.1 h4 y hy;simp only [he, dO, aN, hd] at this
  simpa [hl] using this.1.1
 ·have := List.all_eq_true.1 h4 y hy;simp only [he, dO, aN, hd] at this;have := this.1.2;simp only [dP, aN, Bool.not_eq_true', List.contains_eq_mem, decide_eq_false_iff_not, bne_iff_ne, ne_eq, decide_eq_true_eq] at this;exact this
 ·have := List.all_eq_true.1 h4 y hy;simp only [he, dO, aN] at this;have := this.2
  simpa [hx, hr] using this
 ·simp only [hx, dO] at h5
  cases hd : jp ops x.1 with
  | none => rw [hd] at h5; cases h5
  | some d =>
   rw [hd] at h5;simp only [aN, decide_eq_true_eq, Bool.not_eq_true', List.contains_eq_mem, decide_eq_false_iff_not] at h5;exact ⟨d, rfl, h5.1, h5.2⟩
theorem jB {ops : Array Oper} {A : List (List Nat)} {x : Entry} : ∀ (l pre : List Entry), xi ops A n pre l = true -> okAt ops A n (pre ++ l) x = true -> xi ops A n pre (l ++ [x]) = true
 | [], pre, _, h => by simpa [xi] using h
 | y :: l, pre, h, hx => by
  simp only [xi, aN, aC] at h ⊢;exact ⟨h.1, jB l _ h.2 (by simpa using hx)⟩
theorem kS {ops : Array Oper} {A : List (List Nat)} {x : Entry} : ∀ (l pre : List Entry) (k : Nat), xi ops A n pre l = true -> l[k]? = some x -> okAt ops A n (pre ++ l.take k) x = true
 | [], _, _, _, h => by simp at h
 | y :: l, pre, 0, h, hx => by
  simp only [xi, aN] at h
  simp at hx; subst hx
  simpa using h.1
 | y :: l, pre, k + 1, h, hx => by
  simp only [xi, aN] at h;simp only [bJ] at hx;have := kS l (pre ++ [y]) k h.2 hx
  simpa using this
theorem qB {ops : Array Oper} {A : List (List Nat)} : ∀ (l pre : List Entry), xi ops A n pre l = true -> ∀ x ∈ l, ∃ q, okAt ops A n (pre ++ q) x = true
 | [], _, _, x, hx => by cases hx
 | y :: l, pre, h, x, hx => by
  simp only [xi, aN] at h
  rcases List.mem_cons.1 hx with rfl | hx
  ·exact ⟨[], by simpa using h.1⟩
  ·obtain ⟨q, hq⟩ := qB l (pre ++ [y]) h.2 x hx;exact ⟨y :: q, by simpa using hq⟩
theorem DInv.norm {ops : Array Oper} {A : List (List Nat)} {K : Env -> State -> Prop} {D : List Nat} {w0 : World} : ∀ (l pre : List Entry) (listed : Array Bool) (L : Env) (S : State) (a : Act) (w : World),
  DInv P n ops A K D w0 pre l listed L S a w -> ∃ pre' l' L', DInv P n ops A K D w0 pre' l' listed L' S a w /\ (l' = [] ∨ ∃ i pend l'', l' = (i, true, pend) :: l'')
 | [], pre, listed, L, S, a, w, h => ⟨pre, [], L, h, .inl rfl⟩
 | (i, true, pend) :: l, pre, listed, L, S, a, w, h => ⟨pre, _, L, h, .inr ⟨i, pend, l, rfl⟩⟩
 | (i, false, pend) :: l, pre, listed, L, S, a, w, h => by
  have hok := h.ok;simp only [xi, aN] at hok;obtain ⟨o1, o2, o3, o4, o5, o6⟩ := xb hok.1;obtain ⟨d, hd, hdn, hdl⟩ := o5 rfl;have hr := h.rest;simp only [xj] at hr
  cases ho : ops[i]? with
  | none => rw [ho] at hr; exact hr.elim
  | some o =>
   rw [ho] at hr;simp only at hr;obtain ⟨v, hk, _, hq⟩ := vX hr;have hdo : o.dst = some d := by simpa [jp, ho] using hd
   have hlo : xw ops i = o.looksAt ops := by simp [xw, ho]
   have hunl : listed.getD i false = false := by
    cases hx : listed.getD i false with
    | false => rfl
    | true => obtain ⟨y, hy, e⟩ := h.inPre i hx; exact absurd e (o3 y hy)
   have hL : putT n o.dst v L = (d, v) :: L := by simp [putT, hdo, hdn]
   rw [hL] at hk
   have keepA : ∀ (ts : List Tmp) (a' : Act), d ∉ ts -> qT ts ((d, v) :: L) a' -> qT ts L a' := by
    intro ts a' hn ha t ht u hu;refine ha t ht u ?_;simp only [lookT];rw [if_neg (fun e => hn (by rw [<- e]; exact ht))];exact hu
   refine DInv.norm l (pre ++ [(i, false, pend)]) listed ((d, v) :: L) S a w ⟨h.size, ?_, ?_, h.clos, ?_, ?_, ?_, h.asz, h.dfr, h.ext, h.hold, hok.2, jB _ _ h.pres (by simpa using hok.1), ?_, hk⟩
   ·intro j hj; obtain ⟨x, hx, e⟩ := h.inPre j hj; exact ⟨x, bD _ hx, e⟩
   ·intro x hx he
    rcases List.mem_append.1 hx with hx | hx
    ·exact h.effs x hx he
    ·simp at hx; subst hx; cases he
   ·intro t u hu;simp only [lookT] at hu
    split at hu
    ·subst_vars; exact .inl ⟨(i, false, pend), by simp, hunl, hd⟩
    ·rcases h.tmps t u hu with ⟨x, hx, h1, h2⟩ | h3
     ·exact .inl ⟨x, bD _ hx, h1, h2⟩
     ·exact .inr h3
   ·intro x hx hxl
    rcases List.mem_append.1 hx with hx | hx
    ·obtain ⟨o', v', h1, ⟨d', h2, h3, h4⟩, h5⟩ := h.facts x hx hxl
     have hxe : x.2.1 = false := by
      cases hh : x.2.1 with
      | false => rfl
      | true => rw [h.effs x hx hh] at hxl; cases hxl
     have hne := ((o4 x hx hxe).2.1 d hd).resolve_right (fun hh => by cases hh.1);have hd' : jp ops x.1 = some d' := by simp [jp, h1, h2]
     refine ⟨o', v', h1, ⟨d', h2, h3, ?_⟩, fun a' w' ha hw => h5 a' w' (keepA _ a' (by simpa [xw, h1] using hne.1) ha) hw⟩;simp only [lookT];rw [if_neg (fun e => hne.2 (by rw [hd', e]))];exact h4
    ·simp at hx; subst hx
     refine ⟨o, v, ho, ⟨d, hdo, hdn, by simp [lookT]⟩, fun a' w' ha hw => hq a' w' (keepA _ a' (by rw [<- hlo]; exact hdl) ha) hw⟩
   ·intro x hx y hy hxe hye d' hd' hl'
    rcases List.mem_append.1 hx with hx | hx
    ·rcases List.mem_append.1 hy with hy | hy
     ·exact h.prs x hx y hy hxe hye d' hd' hl'
     ·simp at hy; subst hy
      rw [hd] at hd'; cases hd'
      exact absurd hl' (((o4 x hx hxe).2.1 d hd).resolve_right (fun hh => by cases hh.1)).1
    ·simp at hx; subst hx
     rcases List.mem_append.1 hy with hy | hy
     ·exact (o4 y hy hye).1 d' hd' hl'
     ·simp at hy; subst hy
      rw [hd] at hd'; cases hd'
      exact absurd hl' hdl
   ·intro j hj
    rcases h.all j hj with ⟨x, hx, e⟩ | ⟨x, hx, e⟩
    ·exact .inl ⟨x, bD _ hx, e⟩
    ·rcases List.mem_cons.1 hx with rfl | hx
     ·exact .inl ⟨_, by simp, e⟩
     ·exact .inr ⟨x, hx, e⟩
theorem zy {listed : Array Bool} {i j : Nat} (hi : i < listed.size) : (listed.setIfInBounds i true).getD j false = (if j = i then true else listed.getD j false) := by
 simp only [Array.getD_eq_getD_getElem?, Array.getElem?_setIfInBounds]
 by_cases h : i = j
 ·subst h; simp [hi]
 ·rw [if_neg h, if_neg (Ne.symm h)]
theorem wn {ops : Array Oper} {L : Env} {S : State} {p : Prop} : ∀ (js : List Nat), stillAll P ops js L S p -> p /\ ∀ j ∈ js, ∃ o d v, ops[j]? = some o /\ o.dst = some d /\ lookT L d = some v /\ quietW P ops o L S fun u => u = v
 | [], h => ⟨h, fun j hj => by cases hj⟩
 | j :: js, h => by
  simp only [stillAll] at h
  cases ho : ops[j]? with
  | none => rw [ho] at h; exact h.elim
  | some o =>
   rw [ho] at h;obtain ⟨h1, h2⟩ := h;obtain ⟨hp, hr⟩ := wn js h2;refine ⟨hp, fun k hk => ?_⟩
   rcases List.mem_cons.1 hk with rfl | hk
   ·cases hd : o.dst with
    | none => rw [hd] at h1; exact h1.elim
    | some d =>
     rw [hd] at h1
     cases hv : lookT L d with
     | none => simp only [hv] at h1; exact h1.elim
     | some v => simp only [hv] at h1; exact ⟨o, d, v, ho, hd, hv, h1⟩
   ·exact hr k hk
theorem draw_core {ops : Array Oper} {A : List (List Nat)} {K : Cont} {D : List Nat} {w0 : World} (hc : certB ops A = true) : ∀ (fuel : Nat) (pre l : List Entry) (listed : Array Bool) (L : Env) (S : State) (a : Act) (w : World),
  DInv P n ops A (K .normal D) D w0 pre l listed L S a w -> ((bC ops.size).filter fun i => !listed.getD i false).length <= fuel ->
  wpAnyIn (FW ro) 0 P .any ops (KQ n K w0) fuel listed a w := by
 intro fuel
 have fin : ∀ (pre l : List Entry) (listed : Array Bool) (L : Env) (S : State) (a : Act) (w : World), DInv P n ops A (K .normal D) D w0 pre l listed L S a w -> Region.ready .any ops listed = [] -> KQ n K w0 .normal a w := by
  intro pre l listed L S a w h hr;obtain ⟨pre, l, L, h, hl⟩ := h.norm
  have ready : ∀ i, i < ops.size -> (∀ j ∈ xX ops i, listed.getD j false = true) -> listed.getD i false = true := by
   intro i hi hall
   cases hx : listed.getD i false with
   | true => rfl
   | false =>
    exfalso
    have : i ∈ Region.ready .any ops listed := by
     refine List.mem_filter.2 ⟨List.mem_range.2 hi, ?_⟩;have hsz : i < listed.size := by rw [h.size]; exact hi
     have h1 : listed.getD i true = false := by simpa [Array.getD_eq_getD_getElem?, hsz] using hx
     have ho : ops[i]? = some ops[i] := by simp [hi]
     rw [h1, ho];simp only [dE, cI, Bool.not_false, dM];rw [Array.all_eq_true'];intro e he
     by_cases hb : Region.binds .any e = true
     ·have := hall e.on (by simp only [xX, ho]; exact List.mem_map.2 ⟨e, List.mem_filter.2 ⟨by simpa using he, hb⟩, rfl⟩)
      simp [this]
     ·simp [hb]
    rw [hr] at this; cases this
  have pend : ∀ (k : Nat) (x : Entry), pre[k]? = some x -> listed.getD x.1 false = true := by
   intro k
   induction k using Nat.strongRecOn with
   | _ k ih =>
    intro x hx;obtain ⟨o1, _, _, _, _, o6⟩ := xb (kS pre [] k h.pres hx);refine ready x.1 o6 fun j hj => ?_
    obtain ⟨y, hy, e⟩ := o1 j hj;rw [aD] at hy;obtain ⟨k', hk'⟩ := List.mem_iff_getElem?.1 hy
    have hlt : k' < k := by
     have := (List.getElem?_eq_some_iff.1 hk').1
     simp at this; omega
    rw [<- e];refine ih k' hlt y ?_;rw [cX hlt] at hk';exact hk'
  rcases hl with rfl | ⟨i, pd, l'', rfl⟩
  ·refine ⟨D, L, S, h.rest, ⟨h.asz, fun t v ht => ?_, h.dfr⟩, h.ext, h.hold⟩
   rcases h.tmps t v ht with ⟨x, hx, h1, _⟩ | h3
   ·obtain ⟨k, hk⟩ := List.mem_iff_getElem?.1 hx;rw [pend k x hk] at h1; cases h1
   ·exact h3
  ·exfalso
   have hok := h.ok;simp only [xi, aN] at hok;obtain ⟨o1, _, o3, _, _, o6⟩ := xb hok.1
   have hi : listed.getD i false = true := by
    refine ready i o6 fun j hj => ?_
    obtain ⟨y, hy, e⟩ := o1 j hj;obtain ⟨k, hk⟩ := List.mem_iff_getElem?.1 hy;rw [<- e]; exact pend k y hk
   obtain ⟨y, hy, e⟩ := h.inPre i hi;exact o3 y hy e
 induction fuel with
 | zero =>
  intro pre l listed L S a w h hle
  have hr : Region.ready .any ops listed = [] := by
   have h0 : ((bC ops.size).filter fun i => !listed.getD i false) = [] := List.eq_nil_of_length_eq_zero (Nat.le_zero.1 hle);unfold Region.ready;rw [List.filter_eq_nil_iff] at h0 ⊢;intro i hi;have := h0 i hi;have hsz : i < listed.size := by rw [h.size]; exact List.mem_range.1 hi
   simp only [Array.getD_eq_getD_getElem?, hsz, Array.getElem?_eq_getElem, cI] at this ⊢;simp only [Bool.not_eq_true', Bool.not_eq_false] at this
   simp [this]
  exact ⟨hr, fin pre l listed L S a w h hr⟩
 | succ fuel ih =>
  intro pre l listed L S a w h hle;refine ⟨fun hr => fin pre l listed L S a w h hr, fun i hi => ?_⟩;obtain ⟨pre, l, L, h, hl⟩ := h.norm;obtain ⟨hi1, hi2⟩ := List.mem_filter.1 hi;have him := List.mem_range.1 hi1;have hsz : i < listed.size := by rw [h.size]; exact him
  have ho : ops[i]? = some ops[i] := by simp [him]
  rw [ho] at hi2;simp only [dE, cI, aN, Bool.not_eq_true'] at hi2
  have hun : listed.getD i false = false := by
   have := hi2.1
   simpa [Array.getD_eq_getD_getElem?, hsz] using this
  have hdep : ∀ j ∈ xX ops i, listed.getD j false = true := by
   intro j hj;simp only [xX, ho] at hj;obtain ⟨e, he, rfl⟩ := List.mem_map.1 hj;obtain ⟨he1, he2⟩ := List.mem_filter.1 he;have := hi2.2;rw [Array.all_eq_true'] at this;have := this e (by simpa using he1)
   simpa [he2] using this
  have hanc : ∀ j ∈ A.getD i [], listed.getD j false = true := by
   intro j hj;have h1 := List.all_eq_true.1 hc i (List.mem_range.2 him);have h2 := List.all_eq_true.1 h1 j hj;obtain ⟨e, he, h3⟩ := List.any_eq_true.1 h2;simp only [dP, beq_iff_eq, List.contains_eq_mem, decide_eq_true_eq] at h3
   rcases h3 with rfl | h3
   ·exact hdep _ he
   ·exact h.clos e (hdep e he) j h3
  have hsize' : (listed.setIfInBounds i true).size = ops.size := by simp [h.size]
  have hclos' : ∀ k, (listed.setIfInBounds i true).getD k false = true -> ∀ j ∈ A.getD k [], (listed.setIfInBounds i true).getD j false = true := by
   intro k hk j hj;rw [zy hsz] at hk ⊢
   split
   ·rfl
   ·split at hk
    ·subst_vars; exact hanc j hj
    ·exact h.clos k hk j hj
  have hcount : ((bC ops.size).filter fun k => !(listed.setIfInBounds i true).getD k false).length <= fuel := by
   have := kX (p := fun k => !listed.getD k false) (q := fun k => !(listed.setIfInBounds i true).getD k false) (i := i) (bC ops.size) (fun x hx => by
    simp only [zy hsz] at hx
    split at hx
    ·simp at hx
    ·exact hx) hi1 (by simp [hun]) (by simp [zy hsz])
   omega
  by_cases hin : ∃ x ∈ pre, x.1 = i
  ·
   obtain ⟨x, hx, rfl⟩ := hin
   have hxe : x.2.1 = false := by
    cases hh : x.2.1 with
    | false => rfl
    | true => rw [h.effs x hx hh] at hun; cases hun
   obtain ⟨o, v, ho', ⟨d, hd, hdn, hv⟩, hf⟩ := h.facts x hx hun
   have hag : qT (o.looksAt ops) L a := by
    intro t ht u hu
    rcases h.tmps t u hu with ⟨y, hy, h1, h2⟩ | h3
    ·exfalso
     have hye : y.2.1 = false := by
      cases hh : y.2.1 with
      | false => rfl
      | true => rw [h.effs y hy hh] at h1; cases h1
     have := hanc _ (h.prs x hx y hy hxe hye t h2 (by simpa [xw, ho'] using ht));rw [h1] at this; cases this
    ·exact h3
   obtain ⟨hy, hnd⟩ := hf a w hag (fun _ => h.hold);refine jL ho' hy hnd (ih pre l _ L S _ w ⟨hsize', ?_, ?_, hclos', ?_, ?_, h.prs, ?_, ?_, h.ext, h.hold, h.ok, h.pres, h.all, h.rest⟩ hcount)
   ·intro k hk;rw [zy hsz] at hk
    split at hk
    ·exact ⟨x, hx, by subst_vars; rfl⟩
    ·exact h.inPre k hk
   ·intro y hy he;rw [zy hsz]
    split
    ·rfl
    ·exact h.effs y hy he
   ·intro t u hu
    by_cases htd : d = t
    ·subst htd;rw [hv] at hu; cases hu
     right
     simp [hd, Act.put, h.asz, hdn]
    ·rcases h.tmps t u hu with ⟨y, hy, h1, h2⟩ | h3
     ·refine .inl ⟨y, hy, ?_, h2⟩;rw [zy hsz];rw [if_neg]
      ·exact h1
      ·intro e;have : jp ops x.1 = some t := by rw [<- e]; exact h2
       simp only [jp, ho', Option.bind_some, hd, Option.some.injEq] at this;exact htd this
     ·right
      simp only [hd, Act.put, cO htd];exact h3
   ·intro y hy hyl;refine h.facts y hy ?_;rw [zy hsz] at hyl
    split at hyl
    ·cases hyl
    ·exact hyl
   ·simp [hd, Act.put, h.asz]
   ·simp only [hd, Act.put]; exact h.dfr
  ·
   have hnx : ∃ pd l'', l = (i, true, pd) :: l'' := by
    rcases (h.all i him).resolve_left hin with ⟨x, hx, he⟩
    rcases hl with rfl | ⟨j, pd, l'', rfl⟩
    ·cases hx
    ·rcases List.mem_cons.1 hx with rfl | hx
     ·cases he; exact ⟨pd, l'', rfl⟩
     ·exfalso
      have hok := h.ok;simp only [xi, aN] at hok;obtain ⟨q, hq⟩ := qB l'' _ hok.2 x hx;obtain ⟨_, o2, _⟩ := xb hq;have := hanc j (by rw [<- he]; exact o2 (j, true, pd) (by simp) rfl);obtain ⟨y, hy, e⟩ := h.inPre j this;obtain ⟨_, _, o3, _⟩ := xb hok.1;exact o3 y hy e
   obtain ⟨pd, l'', rfl⟩ := hnx;have hok := h.ok;simp only [xi, aN] at hok;obtain ⟨o1, o2, o3, o4, o5, o6⟩ := xb hok.1
   have hag : qT (ops[i].looksAt ops) L a := by
    intro t ht u hu
    rcases h.tmps t u hu with ⟨y, hy, h1, h2⟩ | h3
    ·exfalso
     have hye : y.2.1 = false := by
      cases hh : y.2.1 with
      | false => rfl
      | true => rw [h.effs y hy hh] at h1; cases h1
     have := hanc _ ((o4 y hy hye).1 t h2 (by simpa [xw, ho] using ht));rw [h1] at this; cases this
    ·exact h3
   have hrest := h.rest;simp only [xj, ho] at hrest
   have next : ∀ (v : Value) (S' : State) (w' : World), Ext w w' -> Hold w' S' -> stillAll P ops pd (putT n (ops[i]).dst v L) S' (xj P n ops (K .normal D) l'' (putT n (ops[i]).dst v L) S') ->
     wpAnyIn (FW ro) 0 P .any ops (KQ n K w0) fuel (listed.setIfInBounds i true) (a.put (ops[i]).dst v) w' := by
    intro v S' w' he hh hst;obtain ⟨hdraw, hstill⟩ := wn pd hst;have hdi : jp ops i = (ops[i]).dst := by simp [jp, ho]
    have away : ∀ y ∈ pre, (listed.setIfInBounds i true).getD y.1 false = false -> y.2.1 = false /\ listed.getD y.1 false = false /\ y.1 ∉ A.getD i [] /\
      ∀ d, (ops[i]).dst = some d -> d ∉ xw ops y.1 /\ jp ops y.1 ≠ some d := by
     intro y hy hyl;rw [zy hsz] at hyl
     split at hyl
     ·cases hyl
     ·have hye : y.2.1 = false := by
       cases hh : y.2.1 with
       | false => rfl
       | true => rw [h.effs y hy hh] at hyl; cases hyl
      have hna : y.1 ∉ A.getD i [] := fun hm => by rw [hanc _ hm] at hyl; cases hyl
      exact ⟨hye, hyl, hna, fun d hd => ((o4 y hy hye).2.1 d (by rw [hdi]; exact hd)).resolve_right (fun hc => hna hc.2)⟩
    refine ih (pre ++ [(i, true, pd)]) l'' _ (putT n (ops[i]).dst v L) S' _ w' ⟨hsize', ?_, ?_, hclos', ?_, ?_, ?_, ?_, ?_, h.ext.trans he, hh, hok.2, jB _ _ h.pres (by simpa using hok.1), ?_, hdraw⟩ hcount
    ·intro k hk;rw [zy hsz] at hk
     split at hk
     ·exact ⟨(i, true, pd), by simp, by subst_vars; rfl⟩
     ·obtain ⟨y, hy, e⟩ := h.inPre k hk; exact ⟨y, bD _ hy, e⟩
    ·intro y hy hye;rw [zy hsz]
     split
     ·rfl
     ·rcases List.mem_append.1 hy with hy | hy
      ·exact h.effs y hy hye
      ·simp at hy; subst hy; exact absurd rfl ‹_›
    ·intro t u hu
     rcases ZB hu with ⟨h1, h2, rfl⟩ | h1
     ·right; simp [h1, Act.put, h.asz, h2]
     ·by_cases hdt : (ops[i]).dst = some t /\ t < n
      ·have : lookT (putT n (ops[i]).dst v L) t = some v := by simp [hdt.1, putT, hdt.2, lookT]
       rw [this] at hu; cases hu
       right; simp [hdt.1, Act.put, h.asz, hdt.2]
      ·have keep : a.tmps[t]? = some u -> (a.put (ops[i]).dst v).tmps[t]? = some u := by
        intro hat
        cases hd : (ops[i]).dst with
        | none => exact hat
        | some d =>
         simp only [Act.put]
         by_cases e : d = t
         ·subst e;have := (Array.getElem?_eq_some_iff.1 hat).1;rw [h.asz] at this;exact absurd ⟨hd, this⟩ hdt
         ·rw [cO e]; exact hat
       rcases h.tmps t u h1 with ⟨y, hy, h2, h3⟩ | h3
       ·by_cases hyi : (listed.setIfInBounds i true).getD y.1 false = false
        ·exact .inl ⟨y, bD _ hy, hyi, h3⟩
        ·exfalso
         rw [zy hsz] at hyi
         split at hyi
         ·exact hin ⟨y, hy, ‹_›⟩
         ·exact hyi h2
       ·exact .inr (keep h3)
    ·intro y hy hyl
     rcases List.mem_append.1 hy with hy | hy
     ·obtain ⟨hye, hyl', hna, hnd⟩ := away y hy hyl;obtain ⟨o, v', ho', ⟨d, hd, hdn, hv⟩, hf⟩ := h.facts y hy hyl'
      have hlk : ∀ t, t ∈ o.looksAt ops ∨ t = d -> lookT (putT n (ops[i]).dst v L) t = lookT L t := by
       intro t ht;refine ke fun e => ?_
       obtain ⟨n1, n2⟩ := hnd t e
       rcases ht with ht | rfl
       ·exact n1 (by simpa [xw, ho'] using ht)
       ·exact n2 (by simp [jp, ho', hd])
      by_cases hrd : yy o.op = true
      ·have hmem : y.1 ∈ pd := by
        have := (o4 y hy hye).2.2 rfl (by simp [Jz, ho', hrd]);exact this.resolve_left hna
       obtain ⟨o2, d2, v2, e1, e2, e3, hq⟩ := hstill y.1 hmem;rw [ho'] at e1; cases e1
       rw [hd] at e2; cases e2
       obtain ⟨v3, rfl, _, hq'⟩ := vX hq;refine ⟨o, v3, ho', ⟨d, hd, hdn, e3⟩, fun a' w'' ha hw => hq' a' w'' ha hw⟩
      ·refine ⟨o, v', ho', ⟨d, hd, hdn, by rw [hlk d (.inr rfl)]; exact hv⟩, fun a' w'' ha _ => hf a' w'' (fun t ht u hu => ha t ht u (by rw [hlk t (.inl ht)]; exact hu)) (fun hh => absurd hh hrd)⟩
     ·simp at hy; subst hy
      rw [zy hsz] at hyl; simp at hyl
    ·intro x hx y hy hxe hye d' hd' hl'
     rcases List.mem_append.1 hx with hx | hx
     ·rcases List.mem_append.1 hy with hy | hy
      ·exact h.prs x hx y hy hxe hye d' hd' hl'
      ·simp at hy; subst hy; cases hye
     ·simp at hx; subst hx; cases hxe
    ·cases (ops[i]).dst <;> simp [Act.put, h.asz]
    ·cases (ops[i]).dst <;> exact h.dfr
    ·intro j hj
     rcases h.all j hj with ⟨x, hx, e⟩ | ⟨x, hx, e⟩
     ·exact .inl ⟨x, bD _ hx, e⟩
     ·rcases List.mem_cons.1 hx with rfl | hx
      ·exact .inl ⟨_, by simp, e⟩
      ·exact .inr ⟨x, hx, e⟩
   unfold wpOpIn;rw [ho];simp only
   rcases qP hag hrest with ⟨hw1, hs⟩ | ⟨hw1, hs⟩
   ·rw [if_pos hw1];obtain ⟨ρ, hρ, hρe⟩ := yR hag;refine ⟨fun _ _ => trivial, ?_⟩;rw [Oper.semAt_eq _ _ _ (jS hs), <- execOp_congr _ (qj hs) hρe];exact wi (wo hρ hs) h.hold fun v S' w' hk he hh => next v S' w' he hh hk
   ·rw [if_neg (by simp [hw1])];exact ⟨fun _ _ => trivial, next undef S w (Ext.refl w) h.hold hs⟩
theorem VD {id : Nat} {ops : Array Oper} {K : Cont} {D : List Nat} {L : Env} {S : State} (A : List (List Nat)) (pl : List Entry) (hm : P.follows .mixedOrders = true)
  (hok : Ub ops A n pl = true) (h : xj P n ops (K .normal D) pl L S) : CodeW P n ro (.region id ops true) K D L S := by
 refine ⟨fun a w ha hw => ?_⟩;refine wpIn_region_any hm ?_;simp only [Ub, aN] at hok
 have h0 : ∀ i, (Array.replicate ops.size false).getD i false = false := by
  intro i; simp only [Array.getD_eq_getD_getElem?, Array.getElem?_replicate]; split <;> rfl
 have hw' : Hold { w with drawn := w.drawn + 1 } S := ⟨hw.nd, hw.get⟩;have he : Ext w { w with drawn := w.drawn + 1 } := ⟨rfl, rfl, rfl, aR _⟩;refine draw_core hok.1.1 ops.size [] pl _ L S a _ ⟨by simp, ?_, ?_, ?_, ?_, ?_, ?_, ha.size, ha.marks, he, hw', hok.1.2, rfl, ?_, h⟩ ?_
 ·intro i hi; rw [h0] at hi; cases hi
 ·intro x hx; cases hx
 ·intro i hi; rw [h0] at hi; cases hi
 ·intro t v ht; exact .inr (ha.get t v ht)
 ·intro x hx; cases hx
 ·intro x hx; cases hx
 ·intro i hi;have := List.all_eq_true.1 hok.2 i (List.mem_range.2 hi);obtain ⟨x, hx, e⟩ := List.any_eq_true.1 this;exact .inr ⟨x, hx, by simpa using e⟩
 ·refine dN (List.length_filter_le _ _) (by simp)
theorem kB {ops : Array Oper} {K : Env -> State -> Prop} {o : Oper} {i : Nat} {pd : List Nat} {l : List Entry} {L : Env} {S : State} (ho : ops[i]? = some o)
  (h : ∀ N : Env -> State -> Prop, (∀ L S, xj P n ops K l L S -> N L S) -> quietW P ops o L S fun v => N (putT n o.dst v L) S) : xj P n ops K ((i, false, pd) :: l) L S := by
 simp only [xj, ho]; exact h _ fun _ _ h => h
theorem jR {ops : Array Oper} {K : Env -> State -> Prop} {o : Oper} {i : Nat} {pd : List Nat} {l : List Entry} {L : Env} {S : State} (ho : ops[i]? = some o)
  (h : ∀ N : Env -> State -> Prop, (∀ L S, xj P n ops K l L S -> N L S) -> guardW ops o L (stepW P o.op o.type L S fun v S' => stillAll P ops pd (putT n o.dst v L) S' (N (putT n o.dst v L) S'))
   (stillAll P ops pd (putT n o.dst undef L) S (N (putT n o.dst undef L) S))) : xj P n ops K ((i, true, pd) :: l) L S := by
 simp only [xj, ho]; exact h _ fun _ _ h => h
theorem yT {ops : Array Oper} {K : Env -> State -> Prop} {L : Env} {S : State} (h : K L S) : xj P n ops K [] L S := h
end Go.Ost
namespace Go.Ost
open Go
def gos := aE (aE @Int.natCast_zero @Int.cast_ofNat_Int) <| aE (aE (@List.setIfInBounds_toArray.{0}) (aE (@List.set_cons_succ.{0}) (@List.set_cons_zero.{0}))) <| aE (aE @OL @Wv) <| aE (@bne_self_eq_false.{0}) <| aE (@beq_self_eq_true.{0}) <| aE (@decide_false) <| aE (@decide_true) <| aE (@Bool.true_eq_false) <| aE (@Bool.false_eq_true) <| aE (aE (aE (aE (aE (aE (@guardW.eq_1) (aE (@stepW.eq_1) (@stepW.eq_2))) (aE (aE (@stepW.eq_3) (@stepW.eq_4)) (aE (@stepW.eq_5) (@stepW.eq_6)))) (aE (aE (aE (@stepW.eq_7) (@stepW.eq_8)) (aE (@stepW.eq_9) (@stepW.eq_10))) (aE (aE (@stepW.eq_11) (@stepW.eq_12)) (aE (@stepW.eq_13) (@stepW.eq_14))))) (aE (aE (aE (@stepW.eq_15) (aE (@stepW.eq_16) (@stepW.eq_17))) (aE (aE (@stepW.eq_18) (@stepW.eq_19)) (aE (@stepW.eq_20) (@stepW.eq_21)))) (aE (aE (aE (@stepW.eq_22) (@stepW.eq_23)) (aE (@stepW.eq_24) (@stepW.eq_25))) (aE (aE (@stepW.eq_26) (@stepW.eq_27)) (aE (@stepW.eq_28) (@stepW.eq_29)))))) (aE (aE (aE (aE (@stepW.eq_30) (aE (@stepW.eq_31) (@stepW.eq_32))) (aE (aE (@stepW.eq_33) (@stepW.eq_34)) (aE (@stepW.eq_35) (@putT.eq_1)))) (aE (aE (aE (@putT.eq_2) (@evT.eq_1)) (aE (@evT.eq_2) (@evT.eq_3))) (aE (aE (@evT.eq_4) (@argsL.eq_1)) (aE (@argsL.eq_2) (@withV.eq_1))))) (aE (aE (aE (@withV.eq_2) (aE (@withB.eq_1) (@withB.eq_2))) (aE (aE (@evL.eq_1) (@evL.eq_2)) (aE (@withL.eq_1) (@withL.eq_2)))) (aE (aE (aE (@evO.eq_1) (@evO.eq_2)) (aE (@withO.eq_1) (@withO.eq_2))) (aE (aE (@evP.eq_1) (@evP.eq_2)) (aE (@withP.eq_1) (@withP.eq_2))))))) (aE (aE (aE (aE (aE (@NilW.eq_1) (aE (@NilW.eq_2) (@NilW.eq_3))) (aE (aE (@NilW.eq_4) (@ConvW.eq_1)) (aE (@ConvW.eq_2) (@FnW.eq_1)))) (aE (aE (aE (@FnW.eq_2) (@FnW.eq_3)) (aE (@BuiltinW.eq_1) (@BuiltinW.eq_2))) (aE (aE (@BuiltinW.eq_3) (@BuiltinW.eq_4)) (aE (@BuiltinW.eq_5) (@BuiltinW.eq_6))))) (aE (aE (aE (@BuiltinW.eq_7) (aE (@BuiltinW.eq_8) (@BuiltinW.eq_9))) (aE (aE (@BuiltinW.eq_10) (aE (@BuiltinW.eq_11) (aE (@BuiltinW.eq_12) (@BuiltinW.eq_13)))) (aE (@undef.eq_1) (@lookT_hit)))) (aE (aE (aE (@lookT_miss) (@bin_add)) (aE (@Yc) (@bin_mul))) (aE (aE (@Yg) (@Yf)) (aE (@bin_lss) (@bin_leq)))))) (aE (aE (aE (aE (@bin_gtr) (aE (@bin_geq) (@un_not))) (aE (aE (@un_neg) (@min_two)) (aE (@max_two) (@jo)))) (aE (aE (aE (@nil_eql) (@nil_neq)) (aE (@bool_eql) (@bool_neq))) (aE (aE (@OU) (@List.toList_toArray.{0})) (aE (@Array.toList_empty.{0}) (@List.nil_append.{0}))))) (aE (aE (aE (@List.cons_append.{0}) (aE (@List.append_nil.{0}) (@Option.bind_some.{0, 0}))) (aE (aE (@List.getElem?_toArray.{0}) (@List.getElem?_cons_succ.{0})) (aE (@List.getElem?_cons_zero.{0}) (@List.getElem_toArray.{0})))) (aE (aE (aE (@List.getElem_cons_zero.{0}) (@List.getElem_cons_succ.{0})) (aE (@Option.isNone_some.{0}) (@Option.isNone_none.{0}))) (aE (aE (@Option.isSome_some.{0}) (@Option.isSome_none.{0})) (aE (@Bool.not_true) (@Bool.not_false)))))))
def goq := aE (aE (aE (aE (@quietW.eq_1) (aE (@stepQ.eq_1) (@stepQ.eq_2))) (aE (@stepQ.eq_3) (aE (@stepQ.eq_4) (@stepQ.eq_5)))) (aE (aE (@stepQ.eq_6) (aE (@stepQ.eq_7) (@stepQ.eq_8))) (aE (@stepQ.eq_9) (aE (@stepQ.eq_10) (@stepQ.eq_11))))) (aE (aE (aE (@stepQ.eq_12) (aE (@stepQ.eq_13) (@stepQ.eq_14))) (aE (@stepQ.eq_15) (aE (@stepQ.eq_16) (@stepQ.eq_17)))) (aE (aE (@stepQ.eq_18) (aE (@stepQ.eq_19) (@stepQ.eq_20))) (aE (aE (@stepQ.eq_21) (@stepQ.eq_22)) (aE (@stillAll.eq_1) (@stillAll.eq_2)))))
def gow := aE @yk <| aE (aE (aE @Ye @Yd) (aE @ko @yI)) (aE (aE @wrap_u32 @VP) (aE @kq @wrap_u16))
def gob := aE (aE (aE @u8_eql @u8_neq) (aE @u8n_eql @u8n_neq)) <| aE (aE (aE @u8n_lss @u8n_leq) (aE @u8n_gtr @u8n_geq)) <| aE (aE @u8_xor (aE @u8_or @u8_and)) <| aE (aE (aE @ext2_0 @ext2_1) (aE @ext3_0 (aE @ext3_1 @ext3_2))) <| aE (aE @b8_shr @b8_and15) <| aE (aE @Kl (aE (aE @str_eql @str_neq) (aE @str_data (aE @str_size @Ql)))) <| aE (aE (aE @cq_b8_64 @cq_b8_i64) (aE @Ib @WP)) <| aE (aE @cq_b8_32 (aE @cq_b32_8 @cq_b32_64)) <| aE (aE (aE @w_add @w_sub) (aE @w_and @w_or)) (aE (aE @w_xor @w_not) (aE @Ic (aE @Id @WR)))
def gobw := aE (aE (aE @sidx @scut_hi) (aE @scut_lo @scut_lohi)) <| aE (aE @u8n_and (aE @UO @u8n_or)) <| aE @bin_shr64 <| aE @w_shl (aE @w_shr (aE @cut_hi (aE @cut_lo (aE @cut_lohi (aE @cut_himax (aE @WM @arr_addr))))))
variable {P : Program}
theorem add_add (a : Addr) (n m : Nat) : (a.add n).add m = a.add (n + m) := by
 unfold Addr.add
 by_cases h1 : n = 0
 ·subst h1; simp
 ·rw [if_neg h1, if_neg (show n + m ≠ 0 by omega)]
  by_cases h2 : m = 0
  ·subst h2; simp
  ·rw [if_neg h2]; simp [Nat.add_assoc]
theorem elA_add (a : Option Addr) (n m : Nat) : (elA a n).add m = elA a (n + m) := by unfold elA; exact add_add _ _ _
theorem field_at {s i off ft : Nat} {a : Addr} {κ : Value -> Prop} [h : zj P s i off ft] : PureW P (Instr.fieldAt s (.pointer (some a)) i) κ = κ (.pointer (some (a.add off))) :=
 zm (fun w => by
  obtain ⟨fs, f, hu, hf, h1, h2, j, hj, hz⟩ := ZO h.ok
  have hs : (sizeOf f.type).run P w = .ok j.size w := by
   rw [h2]; simp [sizeOf, typeInfo, program, Sem.run_bind, Sem.run, hj, Result.andThen]
  simp only [Instr.fieldAt, Sem.run_bind, zx hu, Result.andThen, hf, Instr.sureAddr, Sem.run_pure, fieldPlace, hs];rw [if_neg hz]
  simp [h1, Result.andThen]) κ
theorem field_el {s i off ft : Nat} {a : Option Addr} {n : Nat} {κ : Value -> Prop} [h : zj P s i off ft] : PureW P (Instr.fieldAt s (.pointer (some (elA a n))) i) κ = κ (.pointer (some (elA a (n + off)))) := by
 rw [field_at, elA_add]
section own
variable {s : Nat} {e : TypeId} {C : Chunk} {a : Option Addr} {len cap : Nat} {us : List Value} {S G : State}
theorem JH (h : Own s e C a len cap us) (hl : 0 < us.length) : ∃ b o cs m, a = some ⟨b, o, none⟩ /\ C = [(b, .cells cs e m)] /\ Soft cs.size m /\ o + cap * s <= cs.size /\ ∀ i, i < us.length -> cs[o + i]? = us[i]? := by
 obtain ⟨h1, h2, h3, h4 | h4⟩ := h
 ·obtain ⟨h5, _⟩ := h4;have : len = 0 := by omega
  subst this;rw [Nat.zero_mul] at h3;omega
 ·exact h4
theorem rd_some (h : Rd s S a len us) (hl : 0 < us.length) : ∃ b o, a = some ⟨b, o, none⟩ := by
 obtain ⟨b, o, _, _, _, h1, _⟩ := h.2 (List.length_pos_iff.1 hl);exact ⟨b, o, h1⟩
theorem el_at {t e : TypeId} {z : Value} {by_ : Nat} {k : IntKind} {i : Int} {κ : Value -> Prop} [h : zR P t e] [hs : zh P e z s by_] (hr : Rd s S a len us) (h0 : 0 <= i) (h1 : i < len) (hp : 0 < s) :
  PureW P (Instr.indexAt t (.slice a len cap) (.int k i)) κ = κ (.pointer (some (elA a (i.toNat * s)))) := by
 have hpos : 0 < us.length := by rw [hr.1]; exact Nat.mul_pos (by omega) hp
 obtain ⟨b, o, rfl⟩ := rd_some hr hpos;rw [yk h0 h1]
 simp [elA, add_mk]
theorem el_load {t : TypeId} {i : Nat} {v : Value} {κ : Value -> Prop} [hf : xe P t] (hr : Rd s S a len us) (hv : us[i]? = some v) (k : κ v) : ReadW P (Instr.loadAt t (.pointer (some (elA a i)))) S κ := by
 have hi := (List.getElem?_eq_some_iff.1 hv).1;obtain ⟨hl, hne⟩ := hr;obtain ⟨b, o, cs, et, m, rfl, hb, hc⟩ := hne (by intro e; subst e; simp at hi);simp only [elA, cI, add_mk];exact zE hb (by rw [hc i hi]; exact hv) k
theorem wb {t : TypeId} {z : Value} {n by_ i : Nat} {κ : Value -> Prop} [hf : xQ P t] [hs : zh P t z n by_] (hr : Rd s S a len us) (hn : 0 < n) (hi : i + n <= us.length) (k : κ (.agg ((us.drop i).take n).toArray)) :
  ReadW P (Instr.loadAt t (.pointer (some (elA a i)))) S κ := by
 obtain ⟨hl, hne⟩ := hr;obtain ⟨b, o, cs, et, m, rfl, hb, hc⟩ := hne (by intro e; subst e; simp at hi; omega);simp only [elA, cI, add_mk]
 have hsz : o + us.length <= cs.size := by
  have := hc (us.length - 1) (by omega);rw [aF (by omega)] at this;have := (Array.getElem?_eq_some_iff.1 this).1;omega
 refine kz hb (by omega) ?_
 have e : cs.extract (o + i) (o + i + n) = ((us.drop i).take n).toArray := by
  apply Array.ext_getElem?
  intro j;rw [Array.getElem?_extract];simp only [cM]
  by_cases hj : j < n
  ·rw [if_pos (by omega), show o + i + j = o + (i + j) from by omega, hc _ (by omega), cX hj, List.getElem?_drop]
  ·rw [if_neg (by omega), List.getElem?_eq_none (by rw [aU]; omega)]
 rw [e]; exact k
def setL (us : List Value) (i : Nat) : List Value -> List Value
 | [] => us
 | v :: l => setL (us.set i v) (i + 1) l
theorem kL : ∀ (vs us : List Value) (i : Nat), (setL us i vs).length = us.length
 | [], _, _ => rfl
 | v :: l, us, i => by simp [setL, kL l]
theorem Xu : ∀ (vs : List Value) (cs : Array Value) (us : List Value) (o i : Nat), o + us.length <= cs.size -> (∀ j, j < us.length -> cs[o + j]? = us[j]?) -> i + vs.length <= us.length ->
  ∀ j, j < us.length -> (xC cs (o + i) vs)[o + j]? = (setL us i vs)[j]?
 | [], cs, us, o, i, _, h, _, j, hj => h j hj
 | v :: vs, cs, us, o, i, hs, h, hi, j, hj => by
  simp only [aJ] at hi;rw [xC, setL];refine Xu vs _ _ o (i + 1) (by simpa using hs) (fun q hq => ?_) (by simp; omega) j (by simpa using hj);simp only [dF] at hq
  by_cases e : q = i
  ·subst e;rw [Array.getElem?_setIfInBounds_self, if_pos (by omega)]
   simp [hq]
  ·rw [cO (by omega), h q hq, List.getElem?_set_ne (by omega)]
theorem wC {t : TypeId} {z : Value} {n by_ i : Nat} {v : Value} {κ : State -> Prop} [hs : zh P t z n by_] (ho : Own s e C a len cap us) (hp : Pick C S G) (hn : 0 < n) (hvs : v.cells.size = n) (hc1 : ∀ u ∈ v.cells.toList, Value.cell1 u) (hi : i + n <= us.length)
  (k : ∀ C', Own s e C' a len cap (setL us i v.cells.toList) -> κ (C' :: G)) : UnitW P (Instr.storeAt t (.pointer (some (elA a i))) v) S κ := by
 refine ⟨fun w hw => ?_⟩;obtain ⟨b, o, cs, m, rfl, rfl, hsoft, hbig, hc⟩ := JH ho (by omega);have hCG := hw.perm hp.perm;obtain ⟨lo, hi'⟩ := m
 have hsz : o + us.length <= cs.size := by
  have := hc (us.length - 1) (by omega);rw [aF (by omega)] at this;have := (Array.getElem?_eq_some_iff.1 this).1;omega
 obtain ⟨w', q1, q2, q3, q4⟩ := xz (P := P) (b := b) (o := o + i) v.cells.toList 0 w cs (hCG.get b (.cells cs e (lo, hi')) (by simp)) hc1 (by simp [hvs]; omega) hsoft.or;refine ⟨w', _, ?_, q2, (Upd.one (S := G)).hold hCG q3 q4, k [(b, .cells (xC cs (o + i + 0) v.cells.toList) e (lo, hi'))] ⟨ho.1, ho.2.1, by rw [kL]; exact ho.2.2.1, .inr ⟨b, o, _, (lo, hi'), rfl, rfl, by rw [xg]; exact hsoft, by rw [xg]; exact hbig, fun j hj => ?_⟩⟩⟩
 ·simp only [elA, cI, add_mk]
  simp [Instr.storeAt, Instr.sureAddr, storeVar, Sem.run_bind, zt hs, Result.andThen, hvs, q1]
 ·rw [kL] at hj;rw [dQ];exact Xu _ cs us o i hsz hc (by simp [hvs]; omega) j hj
theorem OF {t : TypeId} {z : Value} {by_ i : Nat} {v : Value} {κ : State -> Prop} [hs : zh P t z 1 by_] (ho : Own s e C a len cap us) (hp : Pick C S G) (hc : Value.cell1 v) (hi : i < us.length)
  (k : ∀ C', Own s e C' a len cap (us.set i v) -> κ (C' :: G)) : UnitW P (Instr.storeAt t (.pointer (some (elA a i))) v) S κ := by
 have hcs : v.cells = #[v] := by cases v <;> first | exact hc.elim | rfl
 exact wC (n := 1) ho hp (by omega) (by rw [hcs]; rfl) (by rw [hcs]; simpa using hc) (by omega) (by rw [hcs]; exact k)
theorem wD {t : TypeId} {z : Value} {n by_ i : Nat} {vs : List Value} {κ : State -> Prop} [hs : zh P t z n by_] (ho : Own s e C a len cap us) (hp : Pick C S G) (hn : 0 < n) (hvs : vs.length = n) (hc : ∀ u ∈ vs, Value.cell1 u) (hi : i + n <= us.length)
  (k : ∀ C', Own s e C' a len cap (setL us i vs) -> κ (C' :: G)) : UnitW P (Instr.storeAt t (.pointer (some (elA a i))) (.agg vs.toArray)) S κ :=
 wC (v := .agg vs.toArray) ho hp hn (by simpa [Value.cells] using hvs) (by simpa [Value.cells] using hc) hi (by simpa [Value.cells] using k)
end own
theorem Jq : ∀ (vs p u r : List Value), u.length = vs.length -> setL (p ++ (u ++ r)) p.length vs = p ++ (vs ++ r)
 | [], p, [], r, _ => rfl
 | v :: vs, p, x :: u, r, h => by
  have ih := Jq vs (p ++ [v]) u r (by simpa using h);rw [setL];have e : (p ++ (x :: u ++ r)).set p.length v = p ++ [v] ++ (u ++ r) := by simp
  rw [e, show p.length + 1 = (p ++ [v]).length from by simp, ih]
  simp
section rows
variable {α : Type} (enc : α -> List Value) (s : Nat) (hs : ∀ x, (enc x).length = s)
include hs
theorem qo : ∀ l : List α, (l.flatMap enc).length = l.length * s
 | [] => by simp
 | x :: l => by rw [bP, aA, hs, qo l, aJ, cP]; omega
theorem ZM : ∀ (l : List α) (i : Nat), (l.flatMap enc).drop (i * s) = (l.drop i).flatMap enc
 | l, 0 => by simp
 | [], i + 1 => by simp
 | x :: l, i + 1 => by
  rw [bP, cP, Nat.one_mul, Nat.add_comm, <- dL, List.drop_left' (hs x), ZM l i, List.drop_succ_cons]
theorem WH (l : List α) (i : Nat) (h : i < l.length) : ((l.flatMap enc).drop (i * s)).take s = enc l[i] := by
 rw [ZM enc s hs, bK h, bP, List.take_left' (hs _)]
theorem flat_get (l : List α) (i j : Nat) (h : i < l.length) (hj : j < s) : (l.flatMap enc)[i * s + j]? = (enc l[i])[j]? := by
 rw [<- List.getElem?_drop, <- WH enc s hs l i h, cX hj]
theorem Ux : ∀ (l : List α) (i j : Nat) (v : Value) (h : i < l.length) (x : α), (enc l[i]).set j v = enc x -> j < s -> (l.flatMap enc).set (i * s + j) v = (l.set i x).flatMap enc
 | [], i, j, v, h, x, _, _ => by simp at h
 | y :: l, 0, j, v, h, x, hx, hj => by
  simp only [List.getElem_cons_zero] at hx;rw [Nat.zero_mul, cD, bP, List.set_append_left _ _ (by rw [hs]; exact hj), hx]; rfl
 | y :: l, i + 1, j, v, h, x, hx, hj => by
  have ih := Ux l i j v (by simpa using h) x (by simpa using hx) hj;rw [bP, List.set_append_right _ _ (by rw [hs, cP]; omega), hs, show (i + 1) * s + j - s = i * s + j from by rw [cP]; omega, ih]; rfl
theorem flat_setL (l : List α) (i : Nat) (h : i < l.length) (x : α) : setL (l.flatMap enc) (i * s) (enc x) = (l.set i x).flatMap enc := by
 have e1 : l.flatMap enc = (l.take i).flatMap enc ++ (enc l[i] ++ (l.drop (i + 1)).flatMap enc) := by
  conv => lhs; rw [<- cR i l, cH, bK h, bP]
 have e2 : ((l.take i).flatMap enc).length = i * s := by rw [qo enc s hs, aU]; congr 1; omega
 rw [e1, <- e2, Jq (enc x) _ (enc l[i]) _ (by rw [hs, hs]), List.set_eq_take_append_cons_drop, if_pos h, cH, bP]
end rows
end Go.Ost
namespace Go.Ost
open Go
variable {P : Program}
section vd
variable {α : Type} {β : Type}
def mget : List (List UInt8 × α) -> List UInt8 -> Option α
 | [], _ => none
 | (k, v) :: l, q => if q = k then some v else mget l q
def mput : List (List UInt8 × α) -> List UInt8 -> α -> List (List UInt8 × α)
 | [], q, v => [(q, v)]
 | (k, u) :: l, q, v => if q = k then (q, v) :: l else (k, u) :: mput l q v
def mdel : List (List UInt8 × α) -> List UInt8 -> List (List UInt8 × α)
 | [], _ => []
 | (k, u) :: l, q => if q = k then l else (k, u) :: mdel l q
def mfind : List (List UInt8 × α) -> List UInt8 -> Nat -> Option (Nat × α)
 | [], _, _ => none
 | (k, v) :: l, q, i => if q = k then some (i, v) else mfind l q (i + 1)
def mval (f : α -> β) (m : List (List UInt8 × α)) : List (List UInt8 × β) := m.map fun p => (p.1, f p.2)
theorem Ug (f : α -> β) : ∀ (m : List (List UInt8 × α)) (q : List UInt8), mget (mval f m) q = (mget m q).map f
 | [], q => rfl
 | (k, v) :: l, q => by
  have ih := Ug f l q;simp only [mval, aZ, mget] at ih ⊢
  split
  ·rfl
  ·exact ih
theorem Ue (f : α -> β) : ∀ (m : List (List UInt8 × α)) (q : List UInt8) (v : α), mput (mval f m) q (f v) = mval f (mput m q v)
 | [], q, v => rfl
 | (k, u) :: l, q, v => by
  have ih := Ue f l q v;simp only [mval, aZ, mput] at ih ⊢
  split
  ·simp
  ·simp [ih]
theorem Uk (f : α -> β) : ∀ (m : List (List UInt8 × α)) (q : List UInt8), mdel (mval f m) q = mval f (mdel m q)
 | [], q => rfl
 | (k, u) :: l, q => by
  have ih := Uk f l q;simp only [mval, aZ, mdel] at ih ⊢
  split
  ·rfl
  ·simp [ih]
theorem vf {q : List UInt8} {j : Nat} {v : α} : ∀ (m : List (List UInt8 × α)) (i : Nat), mfind m q i = some (j, v) ->
  ∃ pre post, m = pre ++ (q, v) :: post /\ j = i + pre.length /\ mget m q = some v /\ (∀ u, mput m q u = pre ++ (q, u) :: post) /\ mdel m q = pre ++ post
 | [], i, h => by cases h
 | (k, u) :: l, i, h => by
  simp only [mfind] at h
  split at h
  ·rename_i hk
   subst hk
   cases h
   exact ⟨[], l, rfl, by simp, by simp [mget], fun w => by simp [mput], by simp [mdel]⟩
  ·rename_i hk
   obtain ⟨pre, post, h1, h2, h3, h4, h5⟩ := vf l (i + 1) h;refine ⟨(k, u) :: pre, post, by rw [h1]; rfl, by simp; omega, ?_, fun w => ?_, ?_⟩
   ·simp only [mget]; rw [if_neg hk]; exact h3
   ·simp only [mput]; rw [if_neg hk, h4]; rfl
   ·simp only [mdel]; rw [if_neg hk, h5]; rfl
theorem vg {q : List UInt8} : ∀ (m : List (List UInt8 × α)) (i : Nat), mfind m q i = none -> mget m q = none /\ (∀ u, mput m q u = m ++ [(q, u)]) /\ mdel m q = m
 | [], i, h => ⟨rfl, fun u => rfl, rfl⟩
 | (k, u) :: l, i, h => by
  simp only [mfind] at h
  split at h
  ·cases h
  ·rename_i hk
   obtain ⟨h1, h2, h3⟩ := vg l (i + 1) h;refine ⟨?_, fun w => ?_, ?_⟩
   ·simp only [mget]; rw [if_neg hk]; exact h1
   ·simp only [mput]; rw [if_neg hk, h2]; rfl
   ·simp only [mdel]; rw [if_neg hk, h3]
end vd
theorem IS (a b : List UInt8) : (str a == str b) = decide (a = b) := by
 have e : (str a == str b) = (a == b) := by
  have h := ByteArray.toList_eq (str a);have h2 := ByteArray.toList_eq (str b)
  show ((str a).data == (str b).data) = _
  simp [str]
 rw [e]
 by_cases h : a = b <;> simp [h]
def xK (C : Chunk) (r : Nat) (m : List (List UInt8 × Value)) : Prop :=
 ∃ es clock, C = [(r, .map es clock)] /\ es.toList.map (fun e => (e.key, e.val)) = m.map fun p => (Value.string (str p.1), p.2)
theorem Uy (q : List UInt8) : ∀ (es : List MapEntry) (m : List (List UInt8 × Value)) (i : Nat), es.map (fun e => (e.key, e.val)) = m.map (fun p => (Value.string (str p.1), p.2)) ->
  Instr.findNow .string (.string (str q)) es i = some (mfind m q i)
 | [], [], i, _ => rfl
 | [], _ :: _, i, h => by simp at h
 | _ :: _, [], i, h => by simp at h
 | e :: es, (k, v) :: m, i, h => by
  simp only [aZ, List.cons.injEq, Prod.mk.injEq] at h;obtain ⟨⟨h1, h2⟩, h3⟩ := h;simp only [Instr.findNow, mfind, h1, Instr.sameNow, IS]
  by_cases hk : q = k
  ·simp [hk, h2]
  ·simp only [hk, decide_false, if_false];exact Uy q es m (i + 1) h3
theorem wt {kt : TypeId} (hk : P.underlying kt = some .string) (q : List UInt8) {es : List MapEntry} {m : List (List UInt8 × Value)} (h : es.map (fun e => (e.key, e.val)) = m.map (fun p => (Value.string (str p.1), p.2))) (w : World) :
  (Instr.findKey kt (.string (str q)) es).run P w = .ok (mfind m q 0) w := by
 unfold Instr.findKey;rw [Sem.run_bind, zx hk];simp only [Result.andThen, Uy q es m 0 h]
 rfl
theorem vV {kt : TypeId} (hk : P.underlying kt = some .string) (b : Bool) (q : List UInt8) (w : World) : (Instr.checkKey b 10000 kt (.string (str q))).run P w = .ok () w := by
 rw [Instr.checkKey, Sem.run_bind, zx hk]
 rfl
theorem yd {w : World} {r : Nat} {es : Array MapEntry} {c : Nat} (h : w.heap[r]? = some (.map es c)) : (getObj r).run P w = .ok (.map es c) w := by
 simp [getObj, Sem.run, h]
theorem Un {t kt et : TypeId} {z : Value} {s b : Nat} [ht : TMap P t kt et] [hk : TStr P kt] [hz : zh P et z s b] {C : Chunk} {r : Nat} {m : List (List UInt8 × Value)} (hm : xK C r m) (q : List UInt8) (ok : Bool) {w : World} {S : State} (hC : C ∈ S) (hw : Hold w S) :
  (Instr.lookup t (.map (some r)) (.string (str q)) ok).run P w = .ok (if ok then .tuple #[(mget m q).getD z, .bool (mget m q).isSome] else (mget m q).getD z) w := by
 obtain ⟨es, clock, rfl, he⟩ := hm;have hb := (Lies.of_mem (b := r) (o := .map es clock) (List.mem_singleton.2 rfl) hC).get hw;unfold Instr.lookup;rw [Sem.run_bind, zx ht.und];simp only [Result.andThen];simp only [Sem.run_bind, yd hb, Result.andThen, Sem.run_pure, vV hk.und, wt hk.und q he]
 cases hf : mfind m q 0 with
 | none =>
  have h1 := (vg m 0 hf).1;simp only [h1, Sem.run_bind, zD hz, Result.andThen, Sem.run_pure, Option.getD_none, Option.isSome_none]
 | some p =>
  obtain ⟨j, v⟩ := p;obtain ⟨_, _, _, _, h1, _⟩ := vf m 0 hf;simp only [h1, Sem.run_bind, Sem.run_pure, Result.andThen, cI, Option.isSome_some]
theorem QZ {t kt et : TypeId} {z : Value} {s b : Nat} [ht : TMap P t kt et] [hk : TStr P kt] [hz : zh P et z s b] {C : Chunk} {r : Nat} {m : List (List UInt8 × Value)} {q : List UInt8} {S : State} {κ : Value -> Prop} (hm : xK C r m) (hC : C ∈ S)
  (k : κ (.tuple #[(mget m q).getD z, .bool (mget m q).isSome])) : ReadW P (Instr.lookup t (.map (some r)) (.string (str q)) true) S κ :=
 ⟨_, fun w hw => Un hm q true hC hw, k⟩
theorem Va {t kt et : TypeId} {z : Value} {s b : Nat} [ht : TMap P t kt et] [hk : TStr P kt] [hz : zh P et z s b] {C : Chunk} {r : Nat} {m : List (List UInt8 × Value)} {q : List UInt8} {S : State} {κ : Value -> Prop} (hm : xK C r m) (hC : C ∈ S)
  (k : κ ((mget m q).getD z)) : ReadW P (Instr.lookup t (.map (some r)) (.string (str q)) false) S κ :=
 ⟨_, fun w hw => Un hm q false hC hw, k⟩
theorem ku {w : World} {r : Nat} {es : Array MapEntry} {c : Nat} {o' : Obj} (h : w.heap[r]? = some (.map es c)) : (setObj r o').run P w = .ok () (w.putObj r o') := by
 simp [setObj, Sem.run, h, World.putObj]
theorem stay_same (q : List UInt8) (w : World) : (Instr.keyThatStays (.string (str q)) (.string (str q))).run P w = .ok (.string (str q)) w := by
 unfold Instr.keyThatStays;have : Instr.sameBits 10000 (.string (str q)) (.string (str q)) = true := by simp [Instr.sameBits, IS]
 rw [if_pos this]; rfl
theorem JL {t kt et : TypeId} [ht : TMap P t kt et] [hk : TStr P kt] {C : Chunk} {r : Nat} {m : List (List UInt8 × Value)} {q : List UInt8} {v : Value} {S G : State} {κ : State -> Prop} (hm : xK C r m) (hp : Pick C S G)
  (k : ∀ C', xK C' r (mput m q v) -> κ (C' :: G)) : UnitW P (Instr.mapUpdate t (.map (some r)) (.string (str q)) v) S κ := by
 refine ⟨fun w hw => ?_⟩;obtain ⟨es, clock, rfl, he⟩ := hm;have hCG := hw.perm hp.perm;have hb := hCG.get r (.map es clock) (by simp);have hlen : es.size = m.length := by have := congrArg cV he; simpa using this
 cases hf : mfind m q 0 with
 | none =>
  obtain ⟨_, h2, _⟩ := vg m 0 hf;refine ⟨w.putObj r (.map (es.push { key := .string (str q), val := v, born := clock }) (clock + 1)), _, ?_, qW _ _ _, jT hCG, k [(r, .map (es.push { key := .string (str q), val := v, born := clock }) (clock + 1))] ⟨_, _, rfl, ?_⟩⟩
  ·unfold Instr.mapUpdate;rw [Sem.run_bind, zx ht.und];simp only [Result.andThen, Sem.run_bind, yd hb, vV hk.und, wt hk.und q he, hf, ku hb]
  ·rw [h2]; simp [he]
 | some p =>
  obtain ⟨j, u⟩ := p;obtain ⟨pre, post, h1, h2, h3, h4, h5⟩ := vf m 0 hf;have hj : j < es.size := by rw [hlen, h1]; simp; omega
  have hkey : es[j].key = .string (str q) := by
   have e := congrArg (fun l => l[j]?) he;simp only [cN, h1] at e;rw [bR (by omega), show j - pre.length = 0 from by omega] at e;have e2 : es.toList[j]? = some es[j] := by simp [hj]
   rw [e2] at e;simp only [dE, cE, Option.some.injEq, Prod.mk.injEq] at e;exact e.1
  refine ⟨w.putObj r (.map (es.modify j fun e => { e with key := .string (str q), val := v }) clock), _, ?_, qW _ _ _, jT hCG, k [(r, .map (es.modify j fun e => { e with key := .string (str q), val := v }) clock)] ⟨_, _, rfl, ?_⟩⟩
  ·unfold Instr.mapUpdate;rw [Sem.run_bind, zx ht.und];have hg : ((es[j]?).map (·.key)).getD (.string (str q)) = .string (str q) := by simp [hj, hkey]
   simp only [Result.andThen, Sem.run_bind, yd hb, vV hk.und, wt hk.und q he, hf, hg, stay_same, ku hb]
  ·rw [h4];have e := he;rw [h1] at e
   apply List.ext_getElem?
   intro i;have ei := congrArg (fun l => l[i]?) e;simp only [cN, Array.getElem?_toList, Array.getElem?_modify] at ei ⊢
   by_cases hij : j = i
   ·subst hij;rw [if_pos rfl, bR (by omega), h2, show 0 + pre.length - pre.length = 0 from by omega, Array.getElem?_eq_getElem (by rw [<- h2]; exact hj)]
    rfl
   ·rw [if_neg hij, ei]
    congr 1
    rcases Nat.lt_or_ge i pre.length with hlt | hge
    ·rw [cT hlt, cT hlt]
    ·rw [bR hge, bR hge];obtain ⟨n, hn⟩ : ∃ n, i - pre.length = n + 1 := ⟨i - pre.length - 1, by omega⟩;rw [hn]; rfl
theorem map_del {t kt et ty kt2 : TypeId} [ht : TMap P t kt et] [hk : TStr P kt] {C : Chunk} {r : Nat} {m : List (List UInt8 × Value)} {q : List UInt8} {S G : State} {κ : Value -> State -> Prop} (hm : xK C r m) (hp : Pick C S G)
  (k : ∀ C', xK C' r (mdel m q) -> κ (.tuple #[]) (C' :: G)) : ValW P (Builtin.delete_ #[t, kt2] ty #[.map (some r), .string (str q)]) S κ := by
 refine ⟨fun w hw => ?_⟩;obtain ⟨es, clock, rfl, he⟩ := hm;have hCG := hw.perm hp.perm;have hb := hCG.get r (.map es clock) (by simp);have hlen : es.size = m.length := by have := congrArg cV he; simpa using this
 cases hf : mfind m q 0 with
 | none =>
  obtain ⟨_, _, h2⟩ := vg m 0 hf;refine ⟨.tuple #[], w.putObj r (.map es clock), _, ?_, qW _ _ _, jT hCG, k [(r, .map es clock)] ⟨_, _, rfl, by rw [h2]; exact he⟩⟩;simp only [Builtin.delete_, cM, cE, bJ, Sem.run_bind, zx ht.und, Result.andThen, yd hb, vV hk.und, wt hk.und q he, hf, ku hb, Sem.run_pure]
 | some p =>
  obtain ⟨j, u⟩ := p;obtain ⟨pre, post, h1, h2, h3, h4, h5⟩ := vf m 0 hf;have hj : j < es.size := by rw [hlen, h1]; simp; omega
  refine ⟨.tuple #[], w.putObj r (.map (es.eraseIdxIfInBounds j) clock), _, ?_, qW _ _ _, jT hCG, k [(r, .map (es.eraseIdxIfInBounds j) clock)] ⟨_, _, rfl, ?_⟩⟩
  ·simp only [Builtin.delete_, cM, cE, bJ, Sem.run_bind, zx ht.und, Result.andThen, yd hb, vV hk.und, wt hk.und q he, hf, ku hb, Sem.run_pure]
  ·rw [h5];have e3 : j = 0 + pre.length := h2;have e4 : (es.eraseIdxIfInBounds j).toList = es.toList.eraseIdx j := by simp [Array.eraseIdxIfInBounds, hj]
   have e5 : ∀ (l : List MapEntry) (f : MapEntry -> Value × Value) (i : Nat), (l.eraseIdx i).map f = (l.map f).eraseIdx i := by
    intro l f
    induction l with
    | nil => intro i; simp
    | cons x l ih => intro i; cases i <;> simp [ih]
   rw [e4, e5, he, h1, e3]
   simp [List.eraseIdx_append_of_length_le]
theorem map_len {t kt et ty : TypeId} [ht : TMap P t kt et] {C : Chunk} {r : Nat} {m : List (List UInt8 × Value)} {S : State} {κ : Value -> Prop} (hm : xK C r m) (hC : C ∈ S) (k : κ (.int .i64 m.length)) :
  ReadW P (Builtin.len_ #[t] ty #[.map (some r)]) S κ := by
 obtain ⟨es, clock, rfl, he⟩ := hm;have hlen : es.size = m.length := by have := congrArg cV he; simpa using this
 refine ⟨_, fun w hw => ?_, k⟩;have hb := (Lies.of_mem (b := r) (o := .map es clock) (List.mem_singleton.2 rfl) hC).get hw
 simp [Builtin.len_, Sem.run_bind, zx ht.und, Result.andThen, yd hb, goInt, hlen]
theorem JM {t : TypeId} {S : State} {κ : Value -> State -> Prop} (k : ∀ r C, xK C r [] -> κ (.map (some r)) (C :: S)) : ValW P (Instr.makeMap t none) S κ := by
 refine ⟨fun w hw => ?_⟩;refine ⟨.map (some w.heap.size), { w with heap := w.heap.push (.map #[] 0) }, _, ?_, vH rfl, hw.new rfl, k _ _ ⟨#[], 0, rfl, rfl⟩⟩
 simp [Instr.makeMap, Sem.run_bind, Result.andThen, newObj, Sem.run]
end Go.Ost
namespace Go.Ost
open Go
theorem eqA0 {a b : Prop} (h : a = b := by ((try simp only [gos, gob, aG, if_true, reduceIte, reduceCtorEq, bM, aP, bQ, bH, cJ, cK, bT, bU, bN, bV, bW, bX, bY, bZ, cB, aY, bI]); (try (simp (disch := omega) only [gow, gobw]; try simp only [gos, gob, aG, if_true, reduceIte, reduceCtorEq, bM, aP, bQ, bH, cJ, cK, bT, bU, bN, bV, bW, bX, bY, bZ, cB, aY, bI])); (first | done | exact rfl))) : a = b := h
theorem eqQ0 {a b : Prop} (h : a = b := by ((try simp only [gos, gob, aG, if_true, reduceIte, reduceCtorEq, bM, aP, bQ, bH, cJ, cK, bT, bU, bN, bV, bW, bX, bY, bZ, cB, aY, bI, goq]); (try (simp (disch := omega) only [gow, gobw]; try simp only [gos, gob, aG, if_true, reduceIte, reduceCtorEq, bM, aP, bQ, bH, cJ, cK, bT, bU, bN, bV, bW, bX, bY, bZ, cB, aY, bI, goq])); (first | done | exact rfl))) : a = b := h
theorem omA {p : Prop} (h : p := by (first | omega | assumption | (simp only [aA, aU, aT, bE, aW, List.length_range, dF, aJ, aV]; omega))) : p := h
variable {P : Program} {n : Nat} {ro : Option Nat}
section facts
variable {S : State} {a : Option Addr} {len cap : Nat} {us : List Value} {bs : List UInt8} {H : Chunk} {κ : Value -> Prop} {t e : TypeId} {z : Value} {s by_ : Nat} {k : IntKind} {i : Int}
theorem wG [zR P t e] [zh P e z 1 by_] (hr : Rd 1 [H] a len us) (h0 : 0 <= i) (h1 : i < len) (q : κ (.pointer (some (elA a i.toNat)))) : PureW P (Instr.indexAt t (.slice a len cap) (.int k i)) κ := by rw [wH hr h0 h1]; exact q
theorem wI [zR P t e] [zh P e z 1 by_] {e' : TypeId} {cap' : Nat} (ho : Own 1 e' H a len cap' us) (h0 : 0 <= i) (h1 : i < len) (q : κ (.pointer (some (elA a i.toNat)))) : PureW P (Instr.indexAt t (.slice a len cap) (.int k i)) κ := by
 rw [wH (ho.rd (S := [H]) (aB ..)) h0 h1]; exact q
theorem vj {i : Nat} [xe P t] (hr : Rd 1 [H] a len (bs.map b8)) (hH : H ∈ S) (hi : i < bs.length) (q : κ (b8 (bs.getD i 0))) : ReadW P (Instr.loadAt t (.pointer (some (elA a i)))) S κ := yM (hr.mem hH) hi q
theorem vk {i : Nat} [xe P t] {e' : TypeId} (hr : Own 1 e' H a len cap (bs.map b8)) (hH : H ∈ S) (hi : i < bs.length) (q : κ (b8 (bs.getD i 0))) : ReadW P (Instr.loadAt t (.pointer (some (elA a i)))) S κ := yM (hr.rd hH) hi q
theorem ky {i : Nat} {v : Value} [xe P t] (hr : Rd 1 [H] a len us) (hv : us[i]? = some v) (hH : H ∈ S) (q : κ v) : ReadW P (Instr.loadAt t (.pointer (some (elA a i)))) S κ := JA (hr.mem hH) hv q
theorem qN {i : Nat} {v : Value} [xe P t] {e' : TypeId} (hr : Own 1 e' H a len cap us) (hv : us[i]? = some v) (hH : H ∈ S) (q : κ v) : ReadW P (Instr.loadAt t (.pointer (some (elA a i)))) S κ := JA (hr.rd hH) hv q
end facts
structure Runs (P : Program) (n : Nat) (ops : Array Oper) (l : List Oper) (L : Env) (S : State) (l' : List Oper) (L' : Env) (S' : State) : Prop where
 out : ∀ K : Env -> State -> Prop, runW P n ops K l' L' S' -> runW P n ops K l L S
structure Qj (P : Program) (n : Nat) (ops : Array Oper) (l : List Entry) (L : Env) (S : State) (l' : List Entry) (L' : Env) (S' : State) : Prop where
 out : ∀ K : Env -> State -> Prop, xj P n ops K l' L' S' -> xj P n ops K l L S
section steps
variable {ops : Array Oper} {K : Env -> State -> Prop} {o : Oper} {l l' : List Oper} {L L' : Env} {S S' : State}
theorem jy (k : runW P n ops K (o :: l) L S) : runW P n ops K (o :: l) L S := k
theorem run_one {l1 : List Oper} (k : runW P n ops K l1 L' S') (h : Runs P n ops (o :: l) L S l1 L' S' := by exact ⟨fun K0 hK0 => by ((with_reducible refine jm fun K hK => ?_); (try simp only [gos, gob, aG, if_true, reduceIte, reduceCtorEq, bM, aP, bQ, bH, cJ, cK, bT, bU, bN, bV, bW, bX, bY, bZ, cB, aY, bI]); (try (simp (disch := omega) only [gow, gobw]; try simp only [gos, gob, aG, if_true, reduceIte, reduceCtorEq, bM, aP, bQ, bH, cJ, cK, bT, bU, bN, bV, bW, bX, bY, bZ, cB, aY, bI])); (first | (with_reducible refine hK _ _ ?_) | ((with_reducible apply xx); (· (repeat (first | with_reducible exact Lies.one | with_reducible apply Lies.next))); (with_reducible refine hK _ _ ?_)) | ((with_reducible apply zE); (· (repeat (first | with_reducible exact Lies.one | with_reducible apply Lies.next))); (· exact rfl); (with_reducible refine hK _ _ ?_)) | ((with_reducible apply zZ); (· exact trivial); (· (repeat (first | with_reducible exact Upd.one | with_reducible apply Upd.next))); (with_reducible refine hK _ _ ?_)) | ((with_reducible apply zJ); (· exact trivial); (· (repeat (first | with_reducible exact Upd.one | with_reducible apply Upd.next))); (· simp); (with_reducible refine hK _ _ ?_)) | (first | ((with_reducible apply wG); (· assumption); (· exact omA); (· exact omA); (with_reducible refine hK _ _ ?_)) | ((with_reducible apply wI); (· assumption); (· exact omA); (· exact omA); (with_reducible refine hK _ _ ?_)) | ((with_reducible apply vj); (· assumption); (· (repeat (first | with_reducible assumption | with_reducible exact aB .. | with_reducible apply aK))); (· exact omA); (with_reducible refine hK _ _ ?_)) | ((with_reducible apply vk); (· assumption); (· (repeat (first | with_reducible assumption | with_reducible exact aB .. | with_reducible apply aK))); (· exact omA); (with_reducible refine hK _ _ ?_)) | ((with_reducible apply ky); (· assumption); (· assumption); (· (repeat (first | with_reducible assumption | with_reducible exact aB .. | with_reducible apply aK))); (with_reducible refine hK _ _ ?_)) | ((with_reducible apply qN); (· assumption); (· assumption); (· (repeat (first | with_reducible assumption | with_reducible exact aB .. | with_reducible apply aK))); (with_reducible refine hK _ _ ?_)))); clear hK K); exact hK0⟩) : runW P n ops K (o :: l) L S := h.out K k
theorem run_to (k : runW P n ops K l' L' S') (h : Runs P n ops l L S l' L' S' := by exact ⟨fun K0 hK0 => by (repeat ((with_reducible refine jy ?_); refine run_one ?_)); exact hK0⟩) : runW P n ops K l L S := h.out K k
theorem jg {q : Prop} (k : q) (e : K L S = q := by ((try simp only [Cont.then, Cont.block, Cont.noGoto, reduceIte, aP]); (first | done | exact rfl))) : runW P n ops K [] L S := vv (e ▸ k)
theorem zf {X : (Env -> State -> Prop) -> Prop} (h : ∀ N : Env -> State -> Prop, (∀ L S, runW P n ops K l L S -> N L S) -> X N)
  (e : ∀ N : Env -> State -> Prop, guardW ops o L (stepW P o.op o.type L S fun v S' => N (putT n o.dst v L) S') (N (putT n o.dst undef L) S) = X N := by exact fun N => eqA0) : runW P n ops K (o :: l) L S :=
 jm fun N hN => (e N) ▸ h N hN
variable {i : Nat} {pd : List Nat} {p p' : List Entry}
theorem qF {p0 : Entry} (k : xj P n ops K (p0 :: p) L S) : xj P n ops K (p0 :: p) L S := k
theorem draw_one {p0 : Entry} (k : xj P n ops K p' L' S') (h : Qj P n ops (p0 :: p) L S p' L' S' := by exact ⟨fun K0 hK0 => by refine kB (by simp only [cM, bJ, cE]; rfl) fun K hK => ?_; (try simp only [gos, gob, aG, if_true, reduceIte, reduceCtorEq, bM, aP, bQ, bH, cJ, cK, bT, bU, bN, bV, bW, bX, bY, bZ, cB, aY, bI, goq]); (try (simp (disch := omega) only [gow, gobw]; try simp only [gos, gob, aG, if_true, reduceIte, reduceCtorEq, bM, aP, bQ, bH, cJ, cK, bT, bU, bN, bV, bW, bX, bY, bZ, cB, aY, bI, goq])); (first | (with_reducible refine hK _ _ ?_) | ((with_reducible apply xx); (· (repeat (first | with_reducible exact Lies.one | with_reducible apply Lies.next))); (with_reducible refine hK _ _ ?_)) | ((with_reducible apply zE); (· (repeat (first | with_reducible exact Lies.one | with_reducible apply Lies.next))); (· exact rfl); (with_reducible refine hK _ _ ?_)) | ((with_reducible apply zZ); (· exact trivial); (· (repeat (first | with_reducible exact Upd.one | with_reducible apply Upd.next))); (with_reducible refine hK _ _ ?_)) | ((with_reducible apply zJ); (· exact trivial); (· (repeat (first | with_reducible exact Upd.one | with_reducible apply Upd.next))); (· simp); (with_reducible refine hK _ _ ?_)) | (first | ((with_reducible apply wG); (· assumption); (· exact omA); (· exact omA); (with_reducible refine hK _ _ ?_)) | ((with_reducible apply wI); (· assumption); (· exact omA); (· exact omA); (with_reducible refine hK _ _ ?_)) | ((with_reducible apply vj); (· assumption); (· (repeat (first | with_reducible assumption | with_reducible exact aB .. | with_reducible apply aK))); (· exact omA); (with_reducible refine hK _ _ ?_)) | ((with_reducible apply vk); (· assumption); (· (repeat (first | with_reducible assumption | with_reducible exact aB .. | with_reducible apply aK))); (· exact omA); (with_reducible refine hK _ _ ?_)) | ((with_reducible apply ky); (· assumption); (· assumption); (· (repeat (first | with_reducible assumption | with_reducible exact aB .. | with_reducible apply aK))); (with_reducible refine hK _ _ ?_)) | ((with_reducible apply qN); (· assumption); (· assumption); (· (repeat (first | with_reducible assumption | with_reducible exact aB .. | with_reducible apply aK))); (with_reducible refine hK _ _ ?_)))); clear hK K; exact hK0⟩) : xj P n ops K (p0 :: p) L S := h.out K k
theorem xy (k : xj P n ops K p' L' S') (h : Qj P n ops p L S p' L' S' := by exact ⟨fun K0 hK0 => by (repeat ((with_reducible refine qF ?_); refine draw_one ?_)); exact hK0⟩) : xj P n ops K p L S := h.out K k
theorem zq {q : Prop} (k : q) (e : K L S = q := by ((try simp only [Cont.then, Cont.block, Cont.noGoto, reduceIte, aP]); (first | done | exact rfl))) : xj P n ops K [] L S := yT (e ▸ k)
theorem zg {X : (Env -> State -> Prop) -> Prop} (h : ∀ N : Env -> State -> Prop, (∀ L S, xj P n ops K p L S -> N L S) -> X N)
  (ho : ops[i]? = some o := by (simp only [cM, bJ, cE]; exact rfl))
  (e : ∀ N : Env -> State -> Prop, guardW ops o L (stepW P o.op o.type L S fun v S' => stillAll P ops pd (putT n o.dst v L) S' (N (putT n o.dst v L) S')) (stillAll P ops pd (putT n o.dst undef L) S (N (putT n o.dst undef L) S)) = X N := by exact fun N => eqQ0) :
  xj P n ops K ((i, true, pd) :: p) L S := jR ho fun N hN => (e N) ▸ h N hN
variable {K : Cont} {D : List Nat} {id : Nat}
theorem reg_to (k : runW P n l.toArray (K .normal D) l' L' S') (h : Runs P n l.toArray l L S l' L' S' := by exact ⟨fun K0 hK0 => by (repeat ((with_reducible refine jy ?_); refine run_one ?_)); exact hK0⟩) : CodeW P n ro (.region id l.toArray false) K D L S :=
 xV (h.out _ k)
end steps
section control
variable {K : Cont} {D : List Nat} {L : Env} {S : State}
theorem xJ {c : Operand} {x y : Code} {b : Bool} (ht : b = true -> CodeW P n ro x K D L S) (hf : b = false -> CodeW P n ro y K D L S) (hc : evT L c = some (.bool b) := by (try simp only [evT, lookT_hit, lookT_miss, aG]); (first | done | exact rfl)) : CodeW P n ro (.cond c x y) K D L S := vq hc ht hf
theorem VB {c : Operand} {x y : Code} (k : CodeW P n ro x K D L S) (hc : evT L c = some (.bool true) := by (try simp only [evT, lookT_hit, lookT_miss, aG]); (first | done | exact rfl)) : CodeW P n ro (.cond c x y) K D L S := VA hc k
theorem VC {c : Operand} {x y : Code} (k : CodeW P n ro y K D L S) (hc : evT L c = some (.bool false) := by (try simp only [evT, lookT_hit, lookT_miss, aG]); (first | done | exact rfl)) : CodeW P n ro (.cond c x y) K D L S := vp hc k
theorem zM {q : Prop} (k : q) (e : K .ret D L S = q := by ((try simp -implicitDefEqProofs only [Cont.then, Cont.block, Cont.noGoto, reduceIte]); (first | done | exact rfl))) : CodeW P n ro .ret K D L S := yV (e ▸ k)
theorem zo {f : FuncId} {args : List Value} {A G : State} {R κ : Value -> State -> Prop} (h : Meets P f args A R) (k : ∀ v A', R v A' -> κ v (A' ++ G)) (ht : Take A S G := by (repeat (first | with_reducible exact Take.nil _ | with_reducible exact Pick.head _ _ | with_reducible apply Pick.tail | with_reducible apply Take.cons))) : CallsW P f args.toArray S κ := xu h ht k
theorem zb {R : Value -> State -> Prop} {F : Chunk} {t : Nat} {v : Value} (A' : State) (hR : R v A') (hv : lookT L t = some v := by (try simp only [evT, lookT_hit, lookT_miss, aG]); (first | done | exact rfl)) (hs : Among (F :: A') S := by first | ((repeat (first | with_reducible exact Among.nil _ | with_reducible exact Pick.head _ _ | with_reducible apply Pick.tail | with_reducible apply Among.cons)); done) | ((repeat (first | exact Among.nil _ | exact Pick.head _ _ | apply Pick.tail | apply Among.cons)); done)) : RetK P [.tmp t] R F .ret [] L S := kO A' hv hR hs
theorem xP {R : Value -> State -> Prop} {F : Chunk} (A' : State) (hR : R (.tuple #[]) A') (hs : Among (F :: A') S := by first | ((repeat (first | with_reducible exact Among.nil _ | with_reducible exact Pick.head _ _ | with_reducible apply Pick.tail | with_reducible apply Among.cons)); done) | ((repeat (first | exact Among.nil _ | exact Pick.head _ _ | apply Pick.tail | apply Among.cons)); done)) : RetK P [] R F .ret [] L S := YR A' hR hs
theorem zL {R : Value -> State -> Prop} {F : Chunk} (A' : State) (hR : R (.tuple #[]) A') (hs : Among (F :: A') S := by first | ((repeat (first | with_reducible exact Among.nil _ | with_reducible exact Pick.head _ _ | with_reducible apply Pick.tail | with_reducible apply Among.cons)); done) | ((repeat (first | exact Among.nil _ | exact Pick.head _ _ | apply Pick.tail | apply Among.cons)); done)) : RetK P [] R F .normal [] L S := yf A' hR hs
theorem zv {I : Nat -> List Nat -> Env -> State -> Prop} {m m' : Nat} {L'' : Env} {S'' : State} (hI : I m' D L'' S'') (hm : m' < m := by omega) (hL : Knows L'' L := by (repeat (first | exact True.intro | (refine aE ?_ ?_; (· (try simp only [evT, lookT_hit, lookT_miss, aG]); (first | done | exact rfl)))))) (hS : Among S'' S := by first | ((repeat (first | with_reducible exact Among.nil _ | with_reducible exact Pick.head _ _ | with_reducible apply Pick.tail | with_reducible apply Among.cons)); done) | ((repeat (first | exact Among.nil _ | exact Pick.head _ _ | apply Pick.tail | apply Among.cons)); done)) : Again I m D L S := ⟨m', L'', S'', hm, hI, hL, hS⟩
theorem pend {a b : Prop} (k : b) (h : a := by (first | exact trivial | ((with_reducible apply xx); (· (repeat (first | with_reducible exact Lies.one | with_reducible apply Lies.next))); (· exact rfl)) | ((with_reducible apply zE); (· (repeat (first | with_reducible exact Lies.one | with_reducible apply Lies.next))); (· exact rfl); (· exact rfl)) | (first | ((with_reducible apply vj); (· assumption); (· (repeat (first | with_reducible assumption | with_reducible exact aB .. | with_reducible apply aK))); (· exact omA); exact rfl) | ((with_reducible apply vk); (· assumption); (· (repeat (first | with_reducible assumption | with_reducible exact aB .. | with_reducible apply aK))); (· exact omA); exact rfl) | ((with_reducible apply ky); (· assumption); (· assumption); (· (repeat (first | with_reducible assumption | with_reducible exact aB .. | with_reducible apply aK))); exact rfl) | ((with_reducible apply qN); (· assumption); (· assumption); (· (repeat (first | with_reducible assumption | with_reducible exact aB .. | with_reducible apply aK))); exact rfl)))) : a /\ b := ⟨h, k⟩
theorem less {c : Code} {L' : Env} {S' : State} (h : CodeW P n ro c K D L' S') (hL : Knows L' L := by (repeat (first | exact True.intro | (refine aE ?_ ?_; (· (try simp only [evT, lookT_hit, lookT_miss, aG]); (first | done | exact rfl)))))) (hS : Among S' S := by first | ((repeat (first | with_reducible exact Among.nil _ | with_reducible exact Pick.head _ _ | with_reducible apply Pick.tail | with_reducible apply Among.cons)); done) | ((repeat (first | exact Among.nil _ | exact Pick.head _ _ | apply Pick.tail | apply Among.cons)); done)) : CodeW P n ro c K D L S := qH hL hS h
end control
theorem ze {rs : List ResultVar} {R : Value -> State -> Prop} {F : Chunk} {D : List Nat} {L : Env} {S S1 : State} {vs : List Value} (A' : State) (hR : R (vK vs) A')
  (ht : Take (ji D) S S1 := by (simp only [ji, aZ, dS]; (repeat (first | with_reducible exact Take.nil _ | with_reducible exact Pick.head _ _ | with_reducible apply Pick.tail | with_reducible apply Take.cons))))
  (hr : ∀ κ : List Value -> Prop, κ vs -> resW P rs L S1 κ := by (intro κ hκ; simp only [resW, withV, lookT_hit, lookT_miss, aG]; (repeat (first | refine xx (by (repeat (first | with_reducible exact Lies.one | with_reducible apply Lies.next))) ?_ | refine zE (by (repeat (first | with_reducible exact Lies.one | with_reducible apply Lies.next))) rfl ?_)); exact hκ))
  (hs : Among (F :: A') S1 := by first | ((repeat (first | with_reducible exact Among.nil _ | with_reducible exact Pick.head _ _ | with_reducible apply Pick.tail | with_reducible apply Among.cons)); done) | ((repeat (first | exact Among.nil _ | exact Pick.head _ _ | apply Pick.tail | apply Among.cons)); done)) : RetK P rs R F .ret D L S := ⟨S1, ht, hr _ ⟨A', hR, hs⟩⟩
theorem yF {rs : List ResultVar} {R : Value -> State -> Prop} {F : Chunk} {D : List Nat} {L : Env} {S S1 : State} {vs : List Value} (A' : State) (hR : R (vK vs) A')
  (ht : Take (ji D) S S1 := by (simp only [ji, aZ, dS]; (repeat (first | with_reducible exact Take.nil _ | with_reducible exact Pick.head _ _ | with_reducible apply Pick.tail | with_reducible apply Take.cons))))
  (hr : ∀ κ : List Value -> Prop, κ vs -> resW P rs L S1 κ := by (intro κ hκ; simp only [resW, withV, lookT_hit, lookT_miss, aG]; (repeat (first | refine xx (by (repeat (first | with_reducible exact Lies.one | with_reducible apply Lies.next))) ?_ | refine zE (by (repeat (first | with_reducible exact Lies.one | with_reducible apply Lies.next))) rfl ?_)); exact hκ))
  (hs : Among (F :: A') S1 := by first | ((repeat (first | with_reducible exact Among.nil _ | with_reducible exact Pick.head _ _ | with_reducible apply Pick.tail | with_reducible apply Among.cons)); done) | ((repeat (first | exact Among.nil _ | exact Pick.head _ _ | apply Pick.tail | apply Among.cons)); done)) : RetK P rs R F .normal D L S := ⟨S1, ht, hr _ ⟨A', hR, hs⟩⟩
end Go.Ost
namespace Go.Ost
open Go
variable {P : Program} {n : Nat} {ro : Option Nat} {K : Cont} {N : List Nat -> Env -> State -> Prop} {D : List Nat} {L : Env} {S : State}
theorem Zb (k : N D L S) : Cont.then N K .normal D L S := k
theorem IK (k : K .ret D L S) : Cont.then N K .ret D L S := k
theorem IL {i : Nat} (k : K (.exit i) D L S) : Cont.then N K (.exit i) D L S := k
theorem Ya {b : Nat} (k : K .normal D L S) : Cont.block b K .normal D L S := k
theorem WY {b : Nat} (k : K .ret D L S) : Cont.block b K .ret D L S := k
theorem Yb {b : Nat} (k : K .normal D L S) : Cont.block b K (.exit b) D L S := by simp only [Cont.block, if_true]; exact k
theorem WZ {b i : Nat} (k : K (.exit i) D L S) (h : i ≠ b := by decide) : Cont.block b K (.exit i) D L S := by simp only [Cont.block]; rw [if_neg h]; exact k
theorem Kv (k : K .normal D L S) : Cont.noGoto K .normal D L S := k
theorem Ku (k : K .ret D L S) : Cont.noGoto K .ret D L S := k
theorem Kw {i : Nat} (k : K (.exit i) D L S) : Cont.noGoto K (.exit i) D L S := k
variable {l l' : List Oper} {L' : Env} {S' : State} {id : Nat} {x y : Code}
theorem code_dr {ops : Array Oper} (A : List (List Nat)) (pl : List Entry) (h : xj P n ops (K .normal D) pl L S) (hm : P.follows .mixedOrders = true := by kernel_rfl)
  (hok : Ub ops A n pl = true := by kernel_rfl) : CodeW P n ro (.region id ops true) K D L S := VD A pl hm hok h
theorem if_d {c : Operand} {p : Prop} [Decidable p] (ht : p -> CodeW P n ro x K D L S) (hf : ¬ p -> CodeW P n ro y K D L S) (hc : evT L c = some (.bool (decide p)) := by (try simp only [evT, lookT_hit, lookT_miss, aG]); (first | done | exact rfl)) : CodeW P n ro (.cond c x y) K D L S :=
 vq hc (fun h => ht (of_decide_eq_true h)) (fun h => hf (of_decide_eq_false h))
theorem if_b {c : Operand} {α : Type} [BEq α] [LawfulBEq α] {a b : α} (ht : a = b -> CodeW P n ro x K D L S) (hf : a ≠ b -> CodeW P n ro y K D L S) (hc : evT L c = some (.bool (a == b)) := by (try simp only [evT, lookT_hit, lookT_miss, aG]); (first | done | exact rfl)) : CodeW P n ro (.cond c x y) K D L S :=
 vq hc (fun h => ht (eq_of_beq h)) (fun h => hf (fun e => by subst e; simp at h))
theorem if_nb {c : Operand} {α : Type} [BEq α] [LawfulBEq α] {a b : α} (ht : a ≠ b -> CodeW P n ro x K D L S) (hf : a = b -> CodeW P n ro y K D L S) (hc : evT L c = some (.bool (a != b)) := by (try simp only [evT, lookT_hit, lookT_miss, aG]); (first | done | exact rfl)) : CodeW P n ro (.cond c x y) K D L S :=
 vq hc (fun h => ht (fun e => by subst e; simp at h)) (fun h => hf (by simpa using h))
theorem wq {ops : Array Oper} {KK : Env -> State -> Prop} {o : Oper} {l : List Oper} (k : runW P n ops KK (o :: l) L S) : runW P n ops KK (o :: l) L S := k
theorem XQ {ops : Array Oper} {KK : Env -> State -> Prop} {p0 : Entry} {p : List Entry} (k : xj P n ops KK (p0 :: p) L S) : xj P n ops KK (p0 :: p) L S := k
theorem QI {id : Nat} {ops : Array Oper} {K : Cont} {D : List Nat} {L : Env} {S : State} {ro : Option Nat} (k : CodeW P n ro (.region id ops false) K D L S) : CodeW P n ro (.region id ops false) K D L S := k
theorem wd {b i : Nat} {K : Cont} {D : List Nat} {L : Env} {S : State} (k : Cont.block b K (.exit i) D L S) : Cont.block b K (.exit i) D L S := k
theorem XR {c : Operand} {x y : Code} {K : Cont} {D : List Nat} {L : Env} {S : State} {ro : Option Nat} (k : CodeW P n ro (.cond c x y) K D L S) : CodeW P n ro (.cond c x y) K D L S := k
structure Mid (Q : List Nat -> Env -> State -> Prop) (D : List Nat) (L : Env) (S : State) : Prop where
 out : ∃ L' S', Q D L' S' /\ Knows L' L /\ Among S' S
theorem mid {Q : List Nat -> Env -> State -> Prop} {L' : Env} {S' : State} (h : Q D L' S') (hL : Knows L' L := by (repeat (first | exact True.intro | (refine aE ?_ ?_; (· (try simp only [evT, lookT_hit, lookT_miss, aG]); (first | done | exact rfl)))))) (hS : Among S' S := by first | ((repeat (first | with_reducible exact Among.nil _ | with_reducible exact Pick.head _ _ | with_reducible apply Pick.tail | with_reducible apply Among.cons)); done) | ((repeat (first | exact Among.nil _ | exact Pick.head _ _ | apply Pick.tail | apply Among.cons)); done)) : Mid Q D L S := ⟨L', S', h, hL, hS⟩
theorem IZ {c d : Code} (Q : List Nat -> Env -> State -> Prop) (h1 : CodeW P n ro c (Cont.then (Mid Q) K) D L S) (h2 : ∀ D L S, Q D L S -> CodeW P n ro d K D L S) : CodeW P n ro (.seq c d) K D L S :=
 zY (ZT h1 fun e D L S h => by
  cases e <;> first | exact h | skip
  obtain ⟨L', S', hq, hL, hS⟩ := h;exact qH hL hS (h2 D L' S' hq))
theorem zz {c : Code} (I : Nat -> List Nat -> Env -> State -> Prop) {m : Nat} {L0 : Env} {S0 : State} (h0 : I m D L0 S0) (round : ∀ m D L S, I m D L S -> CodeW P n ro c (Cont.then (Again I m) K) D L S)
  (hL : Knows L0 L := by (repeat (first | exact True.intro | (refine aE ?_ ?_; (· (try simp only [evT, lookT_hit, lookT_miss, aG]); (first | done | exact rfl)))))) (hS : Among S0 S := by first | ((repeat (first | with_reducible exact Among.nil _ | with_reducible exact Pick.head _ _ | with_reducible apply Pick.tail | with_reducible apply Among.cons)); done) | ((repeat (first | exact Among.nil _ | exact Pick.head _ _ | apply Pick.tail | apply Among.cons)); done)) : CodeW P n ro (.loop c) K D L S := xd I ⟨m, L0, S0, h0, hL, hS⟩ round
theorem code_sub {c : Code} {S' : State} (h : CodeW P n ro c K D L S') (hs : Among S' S := by first | ((repeat (first | with_reducible exact Among.nil _ | with_reducible exact Pick.head _ _ | with_reducible apply Pick.tail | with_reducible apply Among.cons)); done) | ((repeat (first | exact Among.nil _ | exact Pick.head _ _ | apply Pick.tail | apply Among.cons)); done)) : CodeW P n ro c K D L S := ⟨fun a w ha hw => h.out a w ha (hs.hold hw)⟩
end Go.Ost
namespace Go.Ost
open Go
variable {P : Program} {n : Nat} {ro : Option Nat} {K : Cont} {D : List Nat} {L : Env} {S : State}
section facts
variable {a : Option Addr} {len cap : Nat} {us : List Value} {H : Chunk} {κ : Value -> Prop} {t e e' : TypeId} {z : Value} {s by_ : Nat} {k : IntKind} {α : Type} {enc : α -> List Value} {l : List α} {x x' : α} {v : Value}
theorem Vq {si i off ft : Nat} {m : Nat} [h : zj P si i off ft] (q : κ (.pointer (some (elA a (m + off))))) : PureW P (Instr.fieldAt si (.pointer (some (elA a m))) i) κ := by rw [field_el]; exact q
theorem el_ato {i : Int} [zR P t e] [zh P e z s by_] {cap' : Nat} (ho : Own s e' H a len cap' us) (h0 : 0 <= i) (h1 : i < len) (hp : 0 < s) (q : κ (.pointer (some (elA a (i.toNat * s))))) : PureW P (Instr.indexAt t (.slice a len cap) (.int k i)) κ := by
 rw [el_at (ho.rd (S := [H]) (aB ..)) h0 h1 hp]; exact q
theorem ZC {i off : Nat} [xe P t] (ho : Own s e' H a len cap (l.flatMap enc)) (hs : ∀ x, (enc x).length = s) (hx : l[i]? = some x) (hv : (enc x)[off]? = some v) (hH : H ∈ S) (q : κ v) : ReadW P (Instr.loadAt t (.pointer (some (elA a (i * s + off))))) S κ := by
 have hi := (List.getElem?_eq_some_iff.1 hx).1;have ho' := (List.getElem?_eq_some_iff.1 hv).1;refine el_load (ho.rd hH) ?_ q;rw [flat_get enc s hs l i off hi (by rw [<- hs x]; exact ho'), List.getElem?_eq_some_iff.1 hx |>.2];exact hv
theorem zT {i : Nat} {b2 : Nat} [xQ P t] [zh P t z s b2] (ho : Own s e' H a len cap (l.flatMap enc)) (hs : ∀ x, (enc x).length = s) (hx : l[i]? = some x) (hp : 0 < s) (hH : H ∈ S) (q : κ (.agg (enc x).toArray)) : ReadW P (Instr.loadAt t (.pointer (some (elA a (i * s))))) S κ := by
 have hi := (List.getElem?_eq_some_iff.1 hx).1;refine wb (ho.rd hH) hp ?_ ?_
 ·rw [qo enc s hs];have : (i + 1) * s <= l.length * s := cF s hi;rw [cP] at this; omega
 ·rw [WH enc s hs l i hi, List.getElem?_eq_some_iff.1 hx |>.2]; exact q
theorem wl {i off : Nat} {b2 : Nat} {G : State} {κ : State -> Prop} [zh P t z 1 b2] (ho : Own s e' H a len cap (l.flatMap enc)) (hp : Pick H S G) (hs : ∀ x, (enc x).length = s) (hx : l[i]? = some x) (hc : Value.cell1 v) (hv : (enc x).set off v = enc x') (hoff : off < s)
  (q : ∀ C', Own s e' C' a len cap ((l.set i x').flatMap enc) -> κ (C' :: G)) : UnitW P (Instr.storeAt t (.pointer (some (elA a (i * s + off)))) v) S κ := by
 have hi := (List.getElem?_eq_some_iff.1 hx).1;refine OF ho hp hc ?_ (fun C' h => q C' ?_)
 ·rw [qo enc s hs];have : (i + 1) * s <= l.length * s := cF s hi;rw [cP] at this; omega
 ·rw [Ux enc s hs l i off v hi x' (by rw [List.getElem?_eq_some_iff.1 hx |>.2]; exact hv) hoff] at h;exact h
theorem yw {i : Nat} {b2 : Nat} {G : State} {κ : State -> Prop} [zh P t z s b2] (ho : Own s e' H a len cap (l.flatMap enc)) (hp : Pick H S G) (hs : ∀ x, (enc x).length = s) (hi : i < l.length) (h0 : 0 < s) (hc : ∀ u ∈ enc x', Value.cell1 u)
  (q : ∀ C', Own s e' C' a len cap ((l.set i x').flatMap enc) -> κ (C' :: G)) : UnitW P (Instr.storeAt t (.pointer (some (elA a (i * s)))) (.agg (enc x').toArray)) S κ := by
 refine wD ho hp h0 (hs x') hc ?_ (fun C' h => q C' ?_)
 ·rw [qo enc s hs];have : (i + 1) * s <= l.length * s := cF s hi;rw [cP] at this; omega
 ·rw [flat_setL enc s hs l i hi] at h;exact h
end facts
variable {l l' : List Oper} {L' : Env} {S' : State} {id : Nat} {ops : Array Oper} {KK : Env -> State -> Prop}
theorem Xf {a b : Prop} (k : b) (h : a := by (first | ((with_reducible apply ZC); (· assumption); (· assumption); (· assumption); (· exact rfl); (· (repeat (first | with_reducible assumption | with_reducible exact aB .. | with_reducible apply aK))); exact rfl) | (first | exact trivial | ((with_reducible apply xx); (· (repeat (first | with_reducible exact Lies.one | with_reducible apply Lies.next))); (· exact rfl)) | ((with_reducible apply zE); (· (repeat (first | with_reducible exact Lies.one | with_reducible apply Lies.next))); (· exact rfl); (· exact rfl)) | (first | ((with_reducible apply vj); (· assumption); (· (repeat (first | with_reducible assumption | with_reducible exact aB .. | with_reducible apply aK))); (· exact omA); exact rfl) | ((with_reducible apply vk); (· assumption); (· (repeat (first | with_reducible assumption | with_reducible exact aB .. | with_reducible apply aK))); (· exact omA); exact rfl) | ((with_reducible apply ky); (· assumption); (· assumption); (· (repeat (first | with_reducible assumption | with_reducible exact aB .. | with_reducible apply aK))); exact rfl) | ((with_reducible apply qN); (· assumption); (· assumption); (· (repeat (first | with_reducible assumption | with_reducible exact aB .. | with_reducible apply aK))); exact rfl))))) : a /\ b := ⟨h, k⟩
theorem Jr {o : Oper} {l : List Oper} (k : runW P n ops KK l' L' S') (h : Runs P n ops (o :: l) L S l' L' S' := by exact ⟨fun K0 hK0 => by ((with_reducible refine jm fun K hK => ?_); (try simp only [gos, gob, aG, if_true, reduceIte, reduceCtorEq, bM, aP, bQ, bH, cJ, cK, bT, bU, bN, bV, bW, bX, bY, bZ, cB, aY, bI]); (try (simp (disch := omega) only [gow, gobw]; try simp only [gos, gob, aG, if_true, reduceIte, reduceCtorEq, bM, aP, bQ, bH, cJ, cK, bT, bU, bN, bV, bW, bX, bY, bZ, cB, aY, bI])); (first | (first | (with_reducible refine hK _ _ ?_) | ((with_reducible apply xx); (· (repeat (first | with_reducible exact Lies.one | with_reducible apply Lies.next))); (with_reducible refine hK _ _ ?_)) | ((with_reducible apply zE); (· (repeat (first | with_reducible exact Lies.one | with_reducible apply Lies.next))); (· exact rfl); (with_reducible refine hK _ _ ?_)) | ((with_reducible apply zZ); (· exact trivial); (· (repeat (first | with_reducible exact Upd.one | with_reducible apply Upd.next))); (with_reducible refine hK _ _ ?_)) | ((with_reducible apply zJ); (· exact trivial); (· (repeat (first | with_reducible exact Upd.one | with_reducible apply Upd.next))); (· simp); (with_reducible refine hK _ _ ?_)) | (first | ((with_reducible apply wG); (· assumption); (· exact omA); (· exact omA); (with_reducible refine hK _ _ ?_)) | ((with_reducible apply wI); (· assumption); (· exact omA); (· exact omA); (with_reducible refine hK _ _ ?_)) | ((with_reducible apply vj); (· assumption); (· (repeat (first | with_reducible assumption | with_reducible exact aB .. | with_reducible apply aK))); (· exact omA); (with_reducible refine hK _ _ ?_)) | ((with_reducible apply vk); (· assumption); (· (repeat (first | with_reducible assumption | with_reducible exact aB .. | with_reducible apply aK))); (· exact omA); (with_reducible refine hK _ _ ?_)) | ((with_reducible apply ky); (· assumption); (· assumption); (· (repeat (first | with_reducible assumption | with_reducible exact aB .. | with_reducible apply aK))); (with_reducible refine hK _ _ ?_)) | ((with_reducible apply qN); (· assumption); (· assumption); (· (repeat (first | with_reducible assumption | with_reducible exact aB .. | with_reducible apply aK))); (with_reducible refine hK _ _ ?_)))) | (first | ((with_reducible apply Vq); (with_reducible refine hK _ _ ?_)) | ((with_reducible apply el_ato); (· assumption); (· exact omA); (· exact omA); (· exact Nat.succ_pos _); (with_reducible refine hK _ _ ?_)) | ((with_reducible apply ZC); (· assumption); (· assumption); (· assumption); (· exact rfl); (· (repeat (first | with_reducible assumption | with_reducible exact aB .. | with_reducible apply aK))); (with_reducible refine hK _ _ ?_)) | ((with_reducible apply map_len); (· assumption); (· (repeat (first | with_reducible assumption | with_reducible exact aB .. | with_reducible apply aK))); (with_reducible refine hK _ _ ?_)) | ((with_reducible apply QZ); (· assumption); (· (repeat (first | with_reducible assumption | with_reducible exact aB .. | with_reducible apply aK))); (with_reducible refine hK _ _ ?_)) | ((with_reducible apply Va); (· assumption); (· (repeat (first | with_reducible assumption | with_reducible exact aB .. | with_reducible apply aK))); (with_reducible refine hK _ _ ?_)))); clear hK K); exact hK0⟩) : runW P n ops KK (o :: l) L S := h.out _ k
theorem Vw {p0 : Entry} {p p' : List Entry} (k : xj P n ops KK p' L' S') (h : Qj P n ops (p0 :: p) L S p' L' S' := by exact ⟨fun K0 hK0 => by refine kB (by simp only [cM, bJ, cE]; rfl) fun K hK => ?_; (try simp only [gos, gob, aG, if_true, reduceIte, reduceCtorEq, bM, aP, bQ, bH, cJ, cK, bT, bU, bN, bV, bW, bX, bY, bZ, cB, aY, bI, goq]); (try (simp (disch := omega) only [gow, gobw]; try simp only [gos, gob, aG, if_true, reduceIte, reduceCtorEq, bM, aP, bQ, bH, cJ, cK, bT, bU, bN, bV, bW, bX, bY, bZ, cB, aY, bI, goq])); (first | (first | (with_reducible refine hK _ _ ?_) | ((with_reducible apply xx); (· (repeat (first | with_reducible exact Lies.one | with_reducible apply Lies.next))); (with_reducible refine hK _ _ ?_)) | ((with_reducible apply zE); (· (repeat (first | with_reducible exact Lies.one | with_reducible apply Lies.next))); (· exact rfl); (with_reducible refine hK _ _ ?_)) | ((with_reducible apply zZ); (· exact trivial); (· (repeat (first | with_reducible exact Upd.one | with_reducible apply Upd.next))); (with_reducible refine hK _ _ ?_)) | ((with_reducible apply zJ); (· exact trivial); (· (repeat (first | with_reducible exact Upd.one | with_reducible apply Upd.next))); (· simp); (with_reducible refine hK _ _ ?_)) | (first | ((with_reducible apply wG); (· assumption); (· exact omA); (· exact omA); (with_reducible refine hK _ _ ?_)) | ((with_reducible apply wI); (· assumption); (· exact omA); (· exact omA); (with_reducible refine hK _ _ ?_)) | ((with_reducible apply vj); (· assumption); (· (repeat (first | with_reducible assumption | with_reducible exact aB .. | with_reducible apply aK))); (· exact omA); (with_reducible refine hK _ _ ?_)) | ((with_reducible apply vk); (· assumption); (· (repeat (first | with_reducible assumption | with_reducible exact aB .. | with_reducible apply aK))); (· exact omA); (with_reducible refine hK _ _ ?_)) | ((with_reducible apply ky); (· assumption); (· assumption); (· (repeat (first | with_reducible assumption | with_reducible exact aB .. | with_reducible apply aK))); (with_reducible refine hK _ _ ?_)) | ((with_reducible apply qN); (· assumption); (· assumption); (· (repeat (first | with_reducible assumption | with_reducible exact aB .. | with_reducible apply aK))); (with_reducible refine hK _ _ ?_)))) | (first | ((with_reducible apply Vq); (with_reducible refine hK _ _ ?_)) | ((with_reducible apply el_ato); (· assumption); (· exact omA); (· exact omA); (· exact Nat.succ_pos _); (with_reducible refine hK _ _ ?_)) | ((with_reducible apply ZC); (· assumption); (· assumption); (· assumption); (· exact rfl); (· (repeat (first | with_reducible assumption | with_reducible exact aB .. | with_reducible apply aK))); (with_reducible refine hK _ _ ?_)) | ((with_reducible apply map_len); (· assumption); (· (repeat (first | with_reducible assumption | with_reducible exact aB .. | with_reducible apply aK))); (with_reducible refine hK _ _ ?_)) | ((with_reducible apply QZ); (· assumption); (· (repeat (first | with_reducible assumption | with_reducible exact aB .. | with_reducible apply aK))); (with_reducible refine hK _ _ ?_)) | ((with_reducible apply Va); (· assumption); (· (repeat (first | with_reducible assumption | with_reducible exact aB .. | with_reducible apply aK))); (with_reducible refine hK _ _ ?_)))); clear hK K; exact hK0⟩) : xj P n ops KK (p0 :: p) L S := h.out _ k
theorem regq_to (k : runW P n l.toArray (K .normal D) l' L' S') (h : Runs P n l.toArray l L S l' L' S' := by exact ⟨fun K0 hK0 => by (repeat ((with_reducible refine jy ?_); refine Jr ?_)); exact hK0⟩) : CodeW P n ro (.region id l.toArray false) K D L S := xV (h.out _ k)
theorem wp {o : Oper} {l : List Oper} (k : runW P n ops KK l' L' S') (h : Runs P n ops (o :: l) L S l' L' S' := by exact ⟨fun K0 hK0 => by refine Jr ?_; (repeat ((with_reducible refine jy ?_); refine Jr ?_)); exact hK0⟩) : runW P n ops KK (o :: l) L S := h.out _ k
theorem UB {p0 : Entry} {p p' : List Entry} (k : xj P n ops KK p' L' S') (h : Qj P n ops (p0 :: p) L S p' L' S' := by exact ⟨fun K0 hK0 => by refine jR (by simp only [cM, bJ, cE]; rfl) fun K hK => ?_; (try simp only [gos, gob, aG, if_true, reduceIte, reduceCtorEq, bM, aP, bQ, bH, cJ, cK, bT, bU, bN, bV, bW, bX, bY, bZ, cB, aY, bI, goq]); (try (simp (disch := omega) only [gow, gobw]; try simp only [gos, gob, aG, if_true, reduceIte, reduceCtorEq, bM, aP, bQ, bH, cJ, cK, bT, bU, bN, bV, bW, bX, bY, bZ, cB, aY, bI, goq])); (first | ((repeat refine Xf ?_); (with_reducible refine hK _ _ ?_)) | ((with_reducible apply zZ); (· exact trivial); (· (repeat (first | with_reducible exact Upd.one | with_reducible apply Upd.next))); (repeat refine Xf ?_); (with_reducible refine hK _ _ ?_)) | ((with_reducible apply zJ); (· exact trivial); (· (repeat (first | with_reducible exact Upd.one | with_reducible apply Upd.next))); (· simp); (repeat refine Xf ?_); (with_reducible refine hK _ _ ?_))); clear hK K; exact hK0⟩) : xj P n ops KK (p0 :: p) L S := h.out _ k
theorem XP {p0 : Entry} {p p' : List Entry} (k : xj P n ops KK p' L' S') (h : Qj P n ops (p0 :: p) L S p' L' S' := by exact ⟨fun K0 hK0 => by (with_reducible refine qF ?_); refine Vw ?_; (repeat ((with_reducible refine qF ?_); refine Vw ?_)); exact hK0⟩) : xj P n ops KK (p0 :: p) L S := h.out _ k
theorem zQ {c d : Code} {K' : Cont} (Q : List Nat -> Env -> State -> Prop) (h1 : CodeW P n ro c (Cont.then (Mid Q) K) D L S) (h2 : ∀ D L S, Q D L S -> CodeW P n ro d K' D L S) : CodeW P n ro c (Cont.then (CodeW P n ro d K') K) D L S :=
 ZT h1 fun e D L S h => by
  cases e <;> first | exact h | skip
  obtain ⟨L', S', hq, hL, hS⟩ := h;exact qH hL hS (h2 D L' S' hq)
end Go.Ost
namespace Go.Ost
open Go
structure Impl (a b : Prop) : Prop where out : a -> b
structure Hid (a : Prop) : Prop where out : a
variable {P : Program}
theorem Vl (vs : List Value) : ∀ (l p r : List Value), r.length = l.length -> vs = p ++ l ->
  (l.zipIdx p.length).foldl (fun (cs : Array Value) (x : Value × Nat) => cs.setIfInBounds x.2 x.1) (p ++ r).toArray = vs.toArray
 | [], p, [], _, h => by simp at h; simp [h]
 | v :: l, p, x :: r, hl, h => by
  rw [List.zipIdx_cons, List.foldl_cons];have ih := Vl vs l (p ++ [v]) r (by simpa using hl) (by rw [h]; simp);rw [aA, aJ, aV] at ih
  have e : (p ++ x :: r).toArray.setIfInBounds p.length v = (p ++ [v] ++ r).toArray := by
   apply cS; simp
  rw [e]; exact ih
theorem zN {t e : TypeId} {z : Value} {s by_ : Nat} [ht : zR P t e] [hs : zh P e z s by_] (hz : z.cells.size = s) (h0 : 0 < s) (hs2 : s <= 1000) {vs : List Value} (hv : vs.length = s) {S : State} {κ : Value -> State -> Prop}
  (k : ∀ b C, Own s e C (some ⟨b, 0, none⟩) 1 1 vs -> κ (.slice (some ⟨b, 0, none⟩) 1 1) (C :: S)) : ValW P (Instr.buildSlice t 1 #[(0, .agg vs.toArray)]) S κ := by
 refine ⟨fun w hw => ?_⟩;refine ⟨_, { w with heap := w.heap.push (.cells vs.toArray e) }, _, ?_, vH rfl, hw.new rfl, k _ _ ⟨aR _, by simp [maxLen], by omega, .inr ⟨_, 0, _, (0, 0), rfl, rfl, .inl rfl, by simp [hv], fun i hi => by simp⟩⟩⟩
 have hfill : ∀ cells : Array Value, cells.size = s -> Instr.fill (fun i => some (i * s, s)) cells [(0, .agg vs.toArray)] = some vs.toArray := by
  intro cells hc;have e1 : (Value.agg vs.toArray).cells = vs.toArray := rfl;simp only [Instr.fill, e1];rw [if_neg (by simp [hv, hc])]
  congr 1
  have := Vl vs vs [] cells.toList (by simp [hc, hv]) rfl;simp only [aD, aV, Array.toArray_toList] at this;refine Eq.trans ?_ this
  simp
 have hne : ¬ (1 * s = 0) := by omega
 have hle : ¬ 16777216 < 1 * s := by omega
 simp only [Instr.buildSlice, Sem.run_bind, zx ht.und, zt hs, zD hs, Result.andThen];rw [show (2 : Nat) ^ 24 = 16777216 from rfl, if_neg hle, if_neg hne];simp only [Sem.run_bind, Sem.run_pure, Result.andThen, zD hs];rw [hfill _ (by simp)]
 simp [newRow, newObj, Sem.run_bind, Sem.run, Result.andThen]
theorem xY {t e : TypeId} {z : Value} {s by_ : Nat} [ht : zR P t e] [hs : zh P e z s by_] {S : State} {κ : Value -> State -> Prop}
  (k : ∀ b C, Own s e C (some ⟨b, 0, none⟩) 0 0 [] -> κ (.slice (some ⟨b, 0, none⟩) 0 0) (C :: S)) : ValW P (Instr.buildSlice t 0 #[]) S κ := by
 refine ⟨fun w hw => ?_⟩;refine ⟨_, { w with heap := w.heap.push (.cells #[] e) }, _, ?_, vH rfl, hw.new rfl, k _ _ ⟨aR _, by simp [maxLen], by simp, .inr ⟨_, 0, _, (0, 0), rfl, rfl, .inl rfl, by simp, fun i hi => by simp at hi⟩⟩⟩
 simp [Instr.buildSlice, Sem.run_bind, zx ht.und, zt hs, Result.andThen, Instr.fill, newRow, newObj, Sem.run, show Array.range 0 = #[] from rfl]
theorem ZL {α : Type} (enc : α -> List Value) (s : Nat) (hs : ∀ x, (enc x).length = s) : ∀ (l : List α) (i : Nat), (l.flatMap enc).take (i * s) = (l.take i).flatMap enc
 | l, 0 => by simp
 | [], i + 1 => by simp
 | x :: l, i + 1 => by
  rw [bP, cP, Nat.one_mul, Nat.add_comm, List.take_add, List.take_left' (hs x), List.drop_left' (hs x), ZL enc s hs l i, List.take_succ_cons, bP]
theorem rd_cutF {α : Type} {enc : α -> List Value} {s : Nat} (hs : ∀ x, (enc x).length = s) {S : State} {a : Option Addr} {len : Nat} {us : List α} (h : Rd s S a len (us.flatMap enc)) {l h' m : Nat} (h1 : l <= h') (h2 : h' <= len) (h3 : h' <= m) :
  Rd s S (cutA s a l m) (h' - l) (((us.drop l).take (h' - l)).flatMap enc) := by
 have q := YT h h1 h2 h3
 rwa [ZM enc s hs, ZL enc s hs] at q
end Go.Ost
namespace Go.Ost
open Go
variable {P : Program} {n : Nat} {α : Type}
def Sh (H : Chunk) (J : Chunk -> Prop) (C : Chunk) : Prop := ∃ C0, C = C0 ++ H /\ J C0
def ShS (H : Chunk) (I : State -> Prop) (C : State) : Prop := ∃ C0, C = C0 ++ [H] /\ I C0
structure yv (P : Program) (f : FuncId) (first captured : List Value) (encs : α -> List Value) (sh : α -> Chunk) (A : State) (Next : List α -> α -> Prop) (Done : List α -> Prop) (inf : Bool) : Prop where
 able : jW P f = true
 out : ∀ (l : Nat) (J Jx : List α -> Chunk -> Prop), (inf = true -> ∃ N, N <= 4611686018427387904 /\ ∀ pre C, J pre C -> pre.length <= N) ->
  (∀ pre x, Next pre x -> YMeets P l (encs x) (Sh (sh x) (J pre)) (Sh (sh x) (J (pre ++ [x]))) (Sh (sh x) (Jx (pre ++ [x])))) ->
  ∀ C, J [] C -> ∀ (F : Chunk) (w : World), Hold w (F :: C :: A) -> CallsIn (FW none) 0 P f (first ++ [Value.func (.yield l) #[] #[]] ++ captured).toArray w
   (wV w fun _ S => ∃ C', S = F :: C' :: A /\ ((∃ pre, Done pre /\ J pre C') ∨ (∃ pre x, Next pre x /\ Jx (pre ++ [x]) C')))
theorem ZG {f : FuncId} {first captured : List Value} {encs : α -> List Value} {sh : α -> Chunk} {A : State} {Next : List α -> α -> Prop} {Done : List α -> Prop} {inf : Bool} (ha : jW P f = true)
  (h : ∀ (l : Nat) (J Jx : List α -> Chunk -> Prop), (inf = true -> ∃ N, N <= 4611686018427387904 /\ ∀ pre C, J pre C -> pre.length <= N) -> (∀ pre x, Next pre x -> YMeets P l (encs x) (Sh (sh x) (J pre)) (Sh (sh x) (J (pre ++ [x]))) (Sh (sh x) (Jx (pre ++ [x])))) ->
   ∀ C, J [] C -> Meets P f (first ++ [Value.func (.yield l) #[] #[]] ++ captured) (C :: A) fun _ S => ∃ C', S = C' :: A /\ ((∃ pre, Done pre /\ J pre C') ∨ (∃ pre x, Next pre x /\ Jx (pre ++ [x]) C'))) :
  yv P f first captured encs sh A Next Done inf :=
 ⟨ha, fun l J Jx hN hY C hC F w hw => ((h l J Jx hN hY C hC).out F w hw).mono fun e w' ⟨v, S, a, b, c, A', d, C', e', r⟩ => ⟨v, S, a, b, c, C', by rw [d, e'], r⟩⟩
theorem vN {l : Nat} {args : List Value} {Jin Jout Jstop : Chunk -> Prop} {S G : State} {C H : Chunk} {κ : Value -> State -> Prop} (h : YMeets P l args (Sh H Jin) (Sh H Jout) (Sh H Jstop)) (hC : Jin C) (ht : Take [C, H] S G)
  (k1 : ∀ C', Jout C' -> κ (.bool true) (C' :: H :: G)) (k2 : ∀ C', Jstop C' -> κ (.bool false) (C' :: H :: G)) : YieldW P l args.toArray S κ := by
 refine ⟨fun w hw => ?_⟩;have h1 := h.out (C ++ H) ⟨C, rfl, hC⟩ G.flatten w (hw.perm (ht.perm.trans (by simp only [bG, aO, bO, aL]; exact cG)));obtain ⟨fn, tm, asg, bd, hr, hR⟩ := h1;refine ⟨fn, tm, asg, bd, hr, hR.mono ?_⟩;rintro e w' ⟨v, S', rfl, he, hh, b, C', rfl, rfl, j1, j2⟩
 cases b
 ·obtain ⟨C0, rfl, hJ⟩ := j2 rfl;exact ⟨.bool false, C0 :: H :: G, rfl, he, hh.perm (by simp only [aO, bO, aL]; rw [<- aM C0 H]; exact cG), k2 C0 hJ⟩
 ·obtain ⟨C0, rfl, hJ⟩ := j1 rfl;exact ⟨.bool true, C0 :: H :: G, rfl, he, hh.perm (by simp only [aO, bO, aL]; rw [<- aM C0 H]; exact cG), k1 C0 hJ⟩
theorem YMeets.swap {l : Nat} {args : List Value} {Ji Jo Jx Ki Ko Kx : Chunk -> Prop} (h : YMeets P l args Ji Jo Jx) (h1 : ∀ C, Ki C -> Ji C) (h2 : ∀ C, Jo C -> Ko C) (h3 : ∀ C, Jx C -> Kx C) : YMeets P l args Ki Ko Kx := by
 refine ⟨fun C hC F w hw => ?_⟩;obtain ⟨fn, tm, asg, bd, hr, hR⟩ := h.out C (h1 C hC) F w hw;refine ⟨fn, tm, asg, bd, hr, hR.mono ?_⟩;rintro e w' ⟨v, S', rfl, he, hh, b, C', hv, hS, j1, j2⟩;exact ⟨_, _, rfl, he, hh, b, C', hv, hS, fun hb => h2 _ (j1 hb), fun hb => h3 _ (j2 hb)⟩
theorem KR {ro : Option Nat} {fn : FuncId} {t : Array Value} {ps : Array Tmp} {assign body : Code} {dB l : Nat} {L : Env} {f : FuncId} {first captured : List Value} {encs : α -> List Value} {sh : α -> Chunk} {A C0 M : State}
  {Next : List α -> α -> Prop} {Done : List α -> Prop} {inf : Bool} {Q : Exit -> Act -> World -> Prop} {a' : Act} {w w1 : World}
  (hit : yv P f first captured encs sh A Next Done inf) (I : List α -> State -> Prop) (Ix : Code -> List α -> State -> Prop)
  (hinf : inf = true -> ∃ N, N <= 4611686018427387904 /\ ∀ pre C, I pre C -> pre.length <= N) (hag : Agree n L [] { tmps := t, defers := [] }) (hps : ∀ x, (encs x).length = ps.size) (h0 : I [] C0) (he : Ext w w1)
  (hw1 : Hold w1 ([(l, .loop { state := .ready, pending := none, fn, tmps := t, params := ps, assign, body, defers := dB })] :: M ++ C0 ++ A))
  (hround : ∀ (F : Chunk) (C : State) (r : Loop) (pre : List α) (x : α), Next pre x -> I pre C -> CodeW P n (some l) assign (ZZ P n l r body F (ShS (sh x) (I (pre ++ [x]))) (fun c => ShS (sh x) (Ix c (pre ++ [x])))) [] (jz n ps.toList (encs x) L) ([(l, .loop r)] :: F :: (C ++ [sh x])))
  (hdone : ∀ (pre : List α) (C : State) (w2 : World), Done pre -> I pre C -> Ext w w2 -> Hold w2 (M ++ C ++ A) -> Q .normal a' w2)
  (hstop : ∀ (c : Code) (pre : List α) (x : α) (C : State) (w2 : World), Next pre x -> Ix c (pre ++ [x]) C -> Ext w w2 -> Hold w2 (M ++ C ++ A) -> c.wpIn (FW ro) 0 P Q a' w2) :
  CallsIn (FW none) 0 P f (first ++ [Value.func (.yield l) #[] #[]] ++ captured).toArray w1 (rangePost (FW ro) 0 P l Q a') := by
 have h1 := hit.out l (fun pre C => ∃ C1 : State, C = (l, .loop { state := .ready, pending := none, fn, tmps := t, params := ps, assign, body, defers := dB }) :: C1.flatten /\ I pre C1)
  (fun pre C => ∃ (c : Code) (C1 : State), C = (l, .loop { state := .done, pending := some c, fn, tmps := t, params := ps, assign, body, defers := dB }) :: C1.flatten /\ Ix c pre C1)
  (fun h => let ⟨N, hN0, hN⟩ := hinf h; ⟨N, hN0, fun pre C ⟨C1, _, hI⟩ => hN pre C1 hI⟩)
  (fun pre x hx => (Zs (fn := fn) (t := t) (ps := ps) (assign := assign) (body := body) (dB := dB) (I := ShS (sh x) (I pre)) (Iout := ShS (sh x) (I (pre ++ [x]))) (Ix := fun c => ShS (sh x) (Ix c (pre ++ [x]))) hag (hps x) fun F C r _ ⟨C0, hC0, hI⟩ => by rw [hC0]; exact hround F C0 r pre x hx hI).swap
   (fun C hC => by obtain ⟨C0, h1, C1, h2, h3⟩ := hC; exact ⟨C1 ++ [sh x], by rw [h1, h2]; simp, C1, rfl, h3⟩)
   (fun C hC => by obtain ⟨C0, h1, C1, h2, h3⟩ := hC; exact ⟨_, by rw [h1, h2, bG, <- aC]; simp only [aO, bO, aL], C1, rfl, h3⟩)
   (fun C hC => by obtain ⟨c, C0, h1, C1, h2, h3⟩ := hC; exact ⟨_, by rw [h1, h2, bG, <- aC]; simp only [aO, bO, aL], c, C1, rfl, h3⟩)) _ ⟨C0, rfl, h0⟩ M.flatten w1
  (hw1.perm (by
   simp only [bG, aO, aC, aM, aD];exact List.perm_middle.symm))
 refine h1.mono ?_;rintro e w2 ⟨v, S, rfl, he2, hh, C', rfl, (⟨pre, hd, C1, rfl, hI⟩ | ⟨pre, x, hx, c, C1, rfl, hI⟩)⟩
 ·have hw2 : Hold w2 ([(l, .loop { state := .ready, pending := none, fn, tmps := t, params := ps, assign, body, defers := dB })] :: (M ++ C1 ++ A)) := hh.perm (by
   simp only [bG, aO, aC, aM, aD];exact List.perm_middle)
  have hl2 : w2.heap[l]? = some (.loop { state := .ready, pending := none, fn, tmps := t, params := ps, assign, body, defers := dB }) := hw2.get l _ (by simp);refine ⟨none, _, run_endLoop (P := P) hl2 (by simp), hdone pre C1 _ hd hI ((he.trans he2).trans (qW _ _ _)) ?_⟩;exact (jT hw2).sub (by simp)
 ·have hw2 : Hold w2 ([(l, .loop { state := .done, pending := some c, fn, tmps := t, params := ps, assign, body, defers := dB })] :: (M ++ C1 ++ A)) := hh.perm (by
   simp only [bG, aO, aC, aM, aD];exact List.perm_middle)
  have hl2 : w2.heap[l]? = some (.loop { state := .done, pending := some c, fn, tmps := t, params := ps, assign, body, defers := dB }) := hw2.get l _ (by simp);refine ⟨some c, _, run_endLoop (P := P) hl2 (by simp), hstop c pre x C1 _ hx hI ((he.trans he2).trans (qW _ _ _)) ?_⟩;exact (jT hw2).sub (by simp)
theorem ZS {g : Operand} {ps : Array Tmp} {assign body : Code} {K : Cont} {D : List Nat} {L : Env} {S A C0 : State} {f : FuncId} {first captured : Array Value} {encs : α -> List Value} {sh : α -> Chunk}
  {Next : List α -> α -> Prop} {Done : List α -> Prop} {inf : Bool} (hg : evT L g = some (.func (.func f) first captured)) (hit : yv P f first.toList captured.toList encs sh A Next Done inf)
  (ht : Take A S C0) (I : List α -> State -> Prop) (Ix : Code -> List α -> State -> Prop) (hinf : inf = true -> ∃ N, N <= 4611686018427387904 /\ ∀ pre C, I pre C -> pre.length <= N) (hps : ∀ x, (encs x).length = ps.size) (h0 : I [] C0)
  (hround : ∀ (l : Nat) (F : Chunk) (C : State) (r : Loop) (pre : List α) (x : α), Next pre x -> I pre C -> CodeW P n (some l) assign (ZZ P n l r body F (ShS (sh x) (I (pre ++ [x]))) (fun c => ShS (sh x) (Ix c (pre ++ [x])))) [] (jz n ps.toList (encs x) L) ([(l, .loop r)] :: F :: (C ++ [sh x])))
  (hdone : ∀ (d : Nat) (pre : List α) (C : State), Done pre -> I pre C -> K .normal (d :: D) L ([(d, .deferred (some []))] :: (C ++ A)))
  (hstop : ∀ (d : Nat) (c : Code) (pre : List α) (x : α) (C : State), Next pre x -> Ix c (pre ++ [x]) C -> CodeW P n none c K (d :: D) L ([(d, .deferred (some []))] :: (C ++ A))) :
  CodeW P n none (.rangeFunc g ps assign body) K D L S := by
 refine ⟨fun a w ha hw => wpIn_rangeFunc fun fn _ => ?_⟩;obtain ⟨W1, hW1⟩ : ∃ W1 : World, W1 = (w.alloc (.deferred (some []))).alloc (.loop { state := .ready, pending := none, fn, tmps := a.tmps, params := ps, assign, body, defers := w.heap.size }) := ⟨_, rfl⟩
 refine ⟨w.heap.size + 1, [JK w.heap.size], W1,
  { target := .fn (.func f) captured, args := first ++ #[.func (.yield (w.heap.size + 1)) #[] #[]] }, W1, f, (first.toList ++ [Value.func (.yield (w.heap.size + 1)) #[] #[]] ++ captured.toList).toArray, W1,
  by rw [hW1]; exact run_enterLoop_outer fn a.tmps ps assign body, ?_, fun _ _ => trivial, ?_, fun h => (by cases h), ?_⟩
 ·simp only [resolve, ha.ev hg]
  simp [Deferred.ofValue, Act.eval]
 ·simp only [invoke];rw [ZP hit.able]
  congr 2
  apply cS; simp
 ·have e1 : (w.alloc (.deferred (some []))).heap = w.heap.push (.deferred (some [])) := rfl;have hw1 := hw.new (w' := w.alloc (.deferred (some []))) (o := .deferred (some [])) rfl;have hw2 := hw1.new (w' := (w.alloc (.deferred (some []))).alloc (.loop { state := .ready, pending := none, fn, tmps := a.tmps, params := ps, assign, body, defers := w.heap.size })) rfl;rw [World.size_alloc, <- hW1] at hw2
  refine KR (n := n) (L := L) (dB := w.heap.size) (t := a.tmps) (fn := fn) (C0 := C0) (M := [[(w.heap.size, .deferred (some []))]]) (w := w) hit I Ix hinf ⟨ha.size, ha.get, rfl⟩ hps h0
   (by rw [hW1]; exact ⟨rfl, rfl, rfl, by simp only [World.size_alloc]; omega⟩) ?_ (fun F C r pre x hx hI => hround _ F C r pre x hx hI) ?_ ?_
  ·refine hw2.perm ?_;simp only [bG, aO, aC, aM, aD, bO];refine List.Perm.cons _ (List.Perm.cons _ ?_);have := ht.perm;rw [bG] at this;exact this.trans cG
  ·intro pre C w2 hd hI he hh;exact ⟨_, L, _, hdone w.heap.size pre C hd hI, ⟨ha.size, ha.get, by simp [ha.marks]⟩, he, hh.perm (by simp)⟩
  ·intro c pre x C w2 hx hI he hh;refine wpIn_mono ((hstop w.heap.size c pre x C hx hI).out { a with defers := [JK w.heap.size] ++ a.defers } w2 ⟨ha.size, ha.get, by simp [ha.marks]⟩ (hh.perm (by simp))) fun _ _ _ hq => hq.ext he
end Go.Ost
