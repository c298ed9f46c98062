/- Texts in a row: the walk's rules and contracts, as each says. Conditions: as each says. -/
import Derived.RangeFuncRecord
import Derived.RangeFuncCalls
import Derived.TacticsIn
import Derived.WalkKit
import Derived.RangeFuncNested
import Derived.Laws.AppendOwn
import Derived.Laws.BytesString
import Derived.Laws.Strings
import Derived.Laws.MakeOwn
import Derived.OrdersIn
set_option linter.unusedSimpArgs false
set_option linter.defProp false
set_option linter.unusedVariables false
set_option maxRecDepth 100000
set_option maxHeartbeats 8000000
open List renaming mem_cons_self -> aA, length_append -> aB, cons_append -> aC, nil_append -> aD, getElem?_eq_getElem -> aE, length_cons -> aH, length_singleton -> aI, mem_cons_of_mem -> aK, append_nil -> aL, append_assoc -> aN, flatten_cons -> aO, length_nil -> aQ, getD_eq_getElem?_getD -> aS, not_mem_nil -> aT, replicate -> aU, length_drop -> aV, length_take -> aX, mem_cons -> aY, length_replicate -> aZ, length_map -> iA, map_cons -> iB, range -> iC, getElem?_cons_succ -> iD, mem_append_left -> iG, drop_eq_getElem_cons -> iH, getElem?_cons_zero -> iJ, take_length -> iK, flatten_append -> iL, getElem?_toArray -> iP, flatten_nil -> iS, flatMap_cons -> iU, getElem?_append_right -> lD, take_of_length_le -> lE, getElem?_map -> lF, take_add_one -> lG, perm_append_comm -> lH, flatMap_append -> lI, map_append -> lL, getElem?_append_left -> lP, dropWhile_cons -> lQ, take_append_drop -> lR, getElem_mem -> lT, getElem?_take_of_lt -> lY, length -> mA, getD -> mB, length_set -> mC, drop_eq_nil_of_le -> mE, getElem?_modify -> mF, toList_toArray -> mG, mem_map_of_mem -> mH, mem_singleton -> mJ, all_cons -> mK, drop_drop -> mQ, drop_length -> mR, map_nil -> mV
open And renaming intro -> aF
open UInt8 renaming ofNat -> aG, toNat_ofNat' -> iO
open Nat renaming reduceBEq -> aJ, reduceEqDiff -> aP, le_refl -> aR, reduceSub -> iF, sub_zero -> iI, reduceLT -> iN, reduceAdd -> iQ, zero_add -> iT, mul_le_mul_right -> lM, add_mul -> lO, mod_eq_of_lt -> lV, zero_le -> lW, shiftLeft_eq -> mL, le_trans -> mN, add_sub_cancel -> mO, add_zero -> mT
open Bool renaming and_eq_true -> aM, not_eq_true' -> mI, true_and -> mM, or_eq_true -> mP, false_or -> mS
open Int renaming toNat_natCast -> aW, reduceToNat -> iM, reduceBEq -> iV, reduceBNe -> iW, reduceAdd -> iX, reduceSub -> iY, reduceMul -> iZ, reduceDiv -> lA, reduceMod -> lB, reducePow -> lC, reduceLT -> lJ, reduceLE -> lK
open BitVec renaming ofInt -> iE, toNat_ofNat -> lU, ofNat -> lZ
open Option renaming getD_some -> iR, map_some -> lX
open Array renaming getElem?_setIfInBounds_ne -> lN, ext' -> lS, getElem?_eq_getElem -> mD
theorem oM {p : Prop} (h : p := by omega) : p := h
theorem dM {p : Prop} (h : p := by decide) : p := h
theorem kM {p : Prop} (h : p := by kernel_rfl) : p := h
theorem sM {p : Prop} (h : p := by simp) : p := h
theorem dF {p : Prop} [Decidable p] (h : ¬p) : decide p = false := decide_eq_false h
theorem dT {p : Prop} [Decidable p] (h : p) : decide p = true := decide_eq_true h
abbrev L8 := List UInt8
abbrev LV := List Go.Value
abbrev OA := Option Go.Addr
abbrev pT (b : Nat) : Go.Value := .pointer (some ⟨b, 0, none⟩)
abbrev nS : Go.Value := .slice none 0 0
namespace Go.Ost
open Go
abbrev zd := List (Nat × Obj)
abbrev zb := List zd
abbrev Env := List (Nat × Value)
structure Hold (w : World) (S : zb) : Prop where
 nd : (S.flatten.map (·.1)).Nodup
 get : ∀ b o,(b,o) ∈ S.flatten -> w.heap[b]? = some o
structure Ext (w w' : World) : Prop where
 os : w'.os = w.os
 tape : w'.tape = w.tape
 output : w'.output = w.output
 size : w.heap.size <= w'.heap.size
theorem Ext.refl (w : World) : Ext w w := ⟨rfl,rfl,rfl,aR _⟩
theorem Ext.trans {a b c : World} (h : Ext a b) (k : Ext b c) : Ext a c :=
 ⟨k.os.trans h.os,k.tape.trans h.tape,k.output.trans h.output,mN h.size k.size⟩
theorem Hold.perm {w : World} {S T : zb} (h : Hold w S) (p : S.flatten.Perm T.flatten) : Hold w T :=
 ⟨(p.map _).nodup_iff.1 h.nd,fun b o hm => h.get b o (p.mem_iff.2 hm)⟩
theorem Hold.sub {w : World} {S T : zb} (h : Hold w S) (p : T.flatten.Sublist S.flatten) : Hold w T :=
 ⟨(p.map _).nodup h.nd,fun b o hm => h.get b o (p.subset hm)⟩
theorem Hold.lt {w : World} {S : zb} (h : Hold w S) {b : Nat} {o : Obj} (hm : (b,o) ∈ S.flatten) : b < w.heap.size :=
 (Array.getElem?_eq_some_iff.1 (h.get b o hm)).1
inductive Pick : zd -> zb -> zb -> Prop
 | head (c : zd) (S : zb) : Pick c (c :: S) S
 | tail {c : zd} {S T : zb} (d : zd) (h : Pick c S T) : Pick c (d :: S) (d :: T)
theorem Pick.perm {c : zd} {S T : zb} (h : Pick c S T) : S.flatten.Perm (c :: T).flatten := by
 induction h with
 | head => exact List.Perm.refl _
 | tail d h ih =>
  simp only [aO] at *;refine (List.Perm.append_left d ih).trans ?_;rw [<- aN,<- aN];exact List.Perm.append_right _ lH
inductive Take : zb -> zb -> zb -> Prop
 | nil (S : zb) : Take [] S S
 | cons {c : zd} {A S T F : zb} (h : Pick c S T) (k : Take A T F) : Take (c :: A) S F
theorem Take.perm {A S F : zb} (h : Take A S F) : S.flatten.Perm (A ++ F).flatten := by
 induction h with
 | nil => exact List.Perm.refl _
 | cons h k ih =>
  refine h.perm.trans ?_;simp only [aO,aC];exact List.Perm.append_left _ ih
inductive zn : zb -> zb -> Prop
 | nil (S : zb) : zn [] S
 | cons {c : zd} {T S S' : zb} (h : Pick c S S') (k : zn T S') : zn (c :: T) S
theorem zn.refl : ∀ S : zb,zn S S
 | [] => .nil _
 | c :: S => .cons (.head c S) (zn.refl S)
theorem zn.hold {T S : zb} (h : zn T S) {w : World} (hw : Hold w S) : Hold w T := by
 suffices hs : ∃ R : zb,S.flatten.Perm (T ++ R).flatten by
  obtain ⟨R,hR⟩ := hs;refine (hw.perm hR).sub ?_;rw [iL];exact List.sublist_append_left _ _
 induction h with
 | nil S => exact ⟨S,List.Perm.refl _⟩
 | cons h k ih =>
  obtain ⟨R,hR⟩ := ih (hw.perm h.perm |>.sub sM);refine ⟨R,h.perm.trans ?_⟩;simp only [aO,aC];exact List.Perm.append_left _ hR
inductive Lies (b : Nat) (o : Obj) : zb -> Prop
 | here {C : zd} {S : zb} (h : (b,o) ∈ C) : Lies b o (C :: S)
 | next {C : zd} {S : zb} (h : Lies b o S) : Lies b o (C :: S)
theorem Lies.mem {b : Nat} {o : Obj} {S : zb} (h : Lies b o S) : (b,o) ∈ S.flatten := by
 induction h with
 | here h => exact iG _ h
 | next _ ih => exact List.mem_append_right _ ih
theorem Lies.one {b : Nat} {o : Obj} {S : zb} : Lies b o ([(b,o)] :: S) := .here (.head _)
theorem Lies.get {b : Nat} {o : Obj} {S : zb} (h : Lies b o S) {w : World} (hw : Hold w S) : w.heap[b]? = some o := hw.get b o h.mem
inductive Upd (b : Nat) (o o' : Obj) : zb -> zb -> Prop
 | one {S : zb} : Upd b o o' ([(b,o)] :: S) ([(b,o')] :: S)
 | many {C D : zd} {S : zb} : Upd b o o' ((C ++ (b,o) :: D) :: S) ((C ++ (b,o') :: D) :: S)
 | next {C : zd} {S T : zb} (h : Upd b o o' S T) : Upd b o o' (C :: S) (C :: T)
theorem Upd.split {b : Nat} {o o' : Obj} {S T : zb} (h : Upd b o o' S T) : ∃ A B : zd,S.flatten = A ++ (b,o) :: B /\ T.flatten = A ++ (b,o') :: B := by
 induction h with
 | @one S => exact ⟨[],S.flatten,sM,sM⟩
 | @many C D S => exact ⟨C,D ++ S.flatten,sM,sM⟩
 | @next C _ _ _ ih => obtain ⟨A,B,h1,h2⟩ := ih;exact ⟨C ++ A,B,by simp [h1],by simp [h2]⟩
theorem Upd.get {b : Nat} {o o' : Obj} {S T : zb} (h : Upd b o o' S T) {w : World} (hw : Hold w S) : w.heap[b]? = some o := by
 obtain ⟨A,B,h1,_⟩ := h.split;exact hw.get b o (by rw [h1];simp)
theorem Upd.hold {b : Nat} {o o' : Obj} {S T : zb} (h : Upd b o o' S T) {w w' : World} (hw : Hold w S)
  (h1 : w'.heap[b]? = some o') (h2 : ∀ k,k ≠ b -> w'.heap[k]? = w.heap[k]?) : Hold w' T := by
 obtain ⟨A,B,e1,e2⟩ := h.split;have nd := hw.nd;rw [e1] at nd;refine ⟨by rw [e2];simpa using nd,fun c p hm => ?_⟩;rw [e2] at hm
 have hne : ∀ q,(c,q) ∈ A ++ B -> c ≠ b := by
  intro q hq hc;subst hc;simp only [lL,iB] at nd;have hn := (List.perm_middle.nodup_iff.1 nd);rw [List.nodup_cons] at hn;refine hn.1 ?_;rw [<- lL];exact List.mem_map.2 ⟨_,hq,rfl⟩
 rcases List.mem_append.1 hm with hA | hB
 ·rw [h2 c (hne p (iG _ hA))];exact hw.get c p (by rw [e1];exact iG _ hA)
 ·rcases List.mem_cons.1 hB with he | hB
  ·cases he;exact h1
  ·rw [h2 c (hne p (List.mem_append_right _ hB))];exact hw.get c p (by rw [e1];exact List.mem_append_right _ (aK _ hB))
theorem Hold.new {w w' : World} {S : zb} (h : Hold w S) {o : Obj} (h1 : w'.heap = w.heap.push o) : Hold w' ([(w.heap.size,o)] :: S) := by
 refine ⟨?_,fun b p hm => ?_⟩
 ·simp only [aO,lL,iB,mV,aC,aD,List.nodup_cons];refine ⟨fun hm => ?_,h.nd⟩;obtain ⟨⟨b,p⟩,hp,hb⟩ := List.mem_map.1 hm;have := h.lt hp;simp only at hb;omega
 ·rw [h1,Array.getElem?_push]
  rcases List.mem_cons.1 hm with he | hm
  ·cases he;simp
  ·have := h.lt hm;rw [if_neg oM];exact h.get b p hm
def lookT : Env -> Nat -> Option Value
 | [],_ => none
 | (d,v) :: l,t => if t = d then some v else lookT l t
theorem zj {d : Nat} {v : Value} {l : Env} : lookT ((d,v) :: l) d = some v := by simp [lookT]
theorem zi {d t : Nat} {v : Value} {l : Env} (h : (t == d) = false) : lookT ((d,v) :: l) t = lookT l t := by
 simp only [lookT];rw [if_neg (by simpa using h)]
def VL (r : Nat) : Deferred := { target := .collected r,args := #[] }
structure jR (n : Nat) (L : Env) (D : List Nat) (a : Act) : Prop where
 size : a.tmps.size = n
 get : ∀ t v,lookT L t = some v -> a.tmps[t]? = some v
 marks : a.defers = D.map VL
def putT (n : Nat) (dst : Option Tmp) (v : Value) (L : Env) : Env :=
 match dst with
 | some d => if d < n then (d,v) :: L else L
 | none => L
theorem jR.put {n : Nat} {L : Env} {D : List Nat} {a : Act} (h : jR n L D a) (dst : Option Tmp) (v : Value) : jR n (putT n dst v L) D (a.put dst v) := by
 cases dst with
 | none => exact h
 | some d =>
  simp only [Ost.putT,Act.put]
  split
  ·rename_i hd
   refine ⟨by simp [h.size],fun t u ht => ?_,h.marks⟩;simp only [lookT] at ht
   split at ht
   ·cases ht;subst_vars;simp [h.size,hd]
   ·rename_i hne
    rw [lN (Ne.symm hne)];exact h.get t u ht
  ·rename_i hd
   refine ⟨by simp [h.size],fun t u ht => ?_,h.marks⟩;rw [lN]
   ·exact h.get t u ht
   ·intro e;subst e;have := (Array.getElem?_eq_some_iff.1 (h.get _ _ ht)).1;rw [h.size] at this;exact hd this
def evT (L : Env) : Operand -> Option Value
 | .tmp t => lookT L t
 | .const v => some v
 | .global g => some (.pointer (some ⟨g,0,none⟩))
 | .func f => some (.func (.func f) #[] #[])
theorem jR.ev {n : Nat} {L : Env} {D : List Nat} {a : Act} (h : jR n L D a) {x : Operand} {v : Value} (hx : evT L x = some v) : a.eval x = v := by
 cases x with
 | tmp t =>
  simp only [Ost.evT] at hx
  simp [Act.eval,h.get t v hx]
 | const u => cases hx;rfl
 | global g => cases hx;rfl
 | func f => cases hx;rfl
def ke : Env -> Env -> Prop
 | [],_ => True
 | (d,v) :: l,L => lookT L d = some v /\ ke l L
theorem ke.look {l L : Env} (h : ke l L) : ∀ t v,lookT l t = some v -> lookT L t = some v := by
 induction l with
 | nil => intro t v ht;simp [Ost.lookT] at ht
 | cons x l ih =>
  obtain ⟨d,u⟩ := x;intro t v ht;simp only [Ost.lookT] at ht
  split at ht
  ·cases ht;subst_vars;exact h.1
  ·exact ih h.2 t v ht
theorem jR.less {n : Nat} {L l : Env} {D : List Nat} {a : Act} (h : jR n L D a) (hl : ke l L) : jR n l D a :=
 ⟨h.size,fun t v ht => h.get t v (hl.look t v ht),h.marks⟩
theorem lkA {b : Nat} {o : Obj} {S : zb} (h : Lies b o S := by ((repeat (first | with_reducible exact Lies.one | with_reducible apply Lies.next));done)) : Lies b o S := h
theorem upA {b : Nat} {o o' : Obj} {S S' : zb} (h : Upd b o o' S S' := by ((repeat (first | with_reducible exact Upd.one | with_reducible apply Upd.next));done)) : Upd b o o' S S' := h
theorem pkA {C : zd} {S G : zb} (h : Pick C S G := by ((repeat (first | with_reducible exact Pick.head _ _ | with_reducible apply Pick.tail));done)) : Pick C S G := h
theorem mmA {α : Type} {x : α} {l : List α} (h : x ∈ l := by ((repeat (first | with_reducible assumption | with_reducible exact aA .. | with_reducible apply aK));done)) : x ∈ l := h
theorem amA {S' S : zb} (h : zn S' S := by first | ((repeat (first | with_reducible exact zn.nil _ | with_reducible exact Pick.head _ _ | with_reducible apply Pick.tail | with_reducible apply zn.cons));done) | ((repeat (first | exact zn.nil _ | exact Pick.head _ _ | apply Pick.tail | apply zn.cons));done)) : zn S' S := h
theorem tkA {A S G : zb} (h : Take A S G := by ((repeat (first | with_reducible exact Take.nil _ | with_reducible exact Pick.head _ _ | with_reducible apply Pick.tail | with_reducible apply Take.cons));done)) : Take A S G := h
theorem flA {a b : zd} (h : a = b := by simp only [aO,iS,aN,aL]) : a = b := h
variable {P : Program}
abbrev FW (ro : Option Nat) : Fence := { Fence.wide with round := ro }
structure zk (P : Program) (m : Sem Value) (κ : Value -> Prop) : Prop where
 out : ∃ v,(∀ w,m.run P w = .ok v w) /\ κ v
structure xG (P : Program) (m : Sem Value) (S : zb) (κ : Value -> Prop) : Prop where
 out : ∃ v,(∀ w,Hold w S -> m.run P w = .ok v w) /\ κ v
structure ValW (P : Program) (m : Sem Value) (S : zb) (κ : Value -> zb -> Prop) : Prop where
 out : ∀ w,Hold w S -> ∃ v w' S',m.run P w = .ok v w' /\ Ext w w' /\ Hold w' S' /\ κ v S'
structure jI (P : Program) (m : Sem Unit) (S : zb) (κ : zb -> Prop) : Prop where
 out : ∀ w,Hold w S -> ∃ w' S',m.run P w = .ok () w' /\ Ext w w' /\ Hold w' S' /\ κ S'
def ZX (w : World) (κ : Value -> zb -> Prop) : Ending -> World -> Prop := fun e w' => ∃ v S',e = .returned v /\ Ext w w' /\ Hold w' S' /\ κ v S'
def GoesW (P : Program) (w : World) (κ : Value -> zb -> Prop) : Next -> World -> Prop
 | .value v,w' => ∃ S',Ext w w' /\ Hold w' S' /\ κ v S'
 | .skip,w' => ∃ S',Ext w w' /\ Hold w' S' /\ κ undef S'
 | .enter f args,w' => CallsIn (FW none) 0 P f args w' (ZX w κ)
 | .round l f tmps assign body,w' => RoundIn (FW none) 0 P l f tmps assign body w' (ZX w κ)
 | _,_ => False
def wv (P : Program) (m : Sem Next) (S : zb) (κ : Value -> zb -> Prop) : Prop :=
 ∀ w,Hold w S -> ∃ r w',m.run P w = .ok r w' /\ GoesW P w κ r w'
theorem zk.read {m : Sem Value} {κ : Value -> Prop} (h : zk P m κ) (S : zb) : xG P m S κ := let ⟨v,a,b⟩ := h.out;⟨v,fun w _ => a w,b⟩
theorem xG.val {m : Sem Value} {S : zb} {κ : Value -> zb -> Prop} (h : xG P m S fun v => κ v S) : ValW P m S κ :=
 let ⟨v,a,b⟩ := h.out;⟨fun w hw => ⟨v,w,S,a w hw,Ext.refl w,hw,b⟩⟩
theorem ValW.next {m : Sem Value} {S : zb} {κ : Value -> zb -> Prop} (h : ValW P m S κ) : wv P (do pure (.value (<- m))) S κ := fun w hw => by
 obtain ⟨v,w',S',hr,he,hh,hk⟩ := h.out w hw;refine ⟨.value v,w',?_,S',he,hh,hk⟩
 simp [Sem.run_bind,hr,Result.andThen]
theorem jI.next {m : Sem Unit} {S : zb} {κ : Value -> zb -> Prop} (h : jI P m S (κ undef)) : wv P (do m;pure .skip) S κ := fun w hw => by
 obtain ⟨w',S',hr,he,hh,hk⟩ := h.out w hw;refine ⟨.skip,w',?_,S',he,hh,hk⟩
 simp [Sem.run_bind,hr,Result.andThen]
structure vf (P : Program) (f : FuncId) (args : Array Value) (S : zb) (κ : Value -> zb -> Prop) : Prop where
 out : wv P (callFunc f args) S κ
structure YieldW (P : Program) (l : Nat) (args : Array Value) (S : zb) (κ : Value -> zb -> Prop) : Prop where
 out : ∀ w,Hold w S -> YieldAt (FW none) 0 P l args w (ZX w κ)
theorem vf.next {f : FuncId} {args : Array Value} {S : zb} {κ : Value -> zb -> Prop} (h : vf P f args S κ) : wv P (callFunc f args) S κ := h.out
theorem vf.mk' {f : FuncId} {args : Array Value} {S : zb} {κ : Value -> zb -> Prop}
  (h1 : (match P.funcs[f]? with | some fn => fn.name != "runtime.NumGoroutine" && fn.body.isSome | none => false) = true)
  (h2 : ∀ w,Hold w S -> CallsIn (FW none) 0 P f args w (ZX w κ)) : vf P f args S κ := ⟨fun w hw => by
 split at h1
 ·rename_i fn hf
  simp only [aM,bne_iff_ne,ne_eq] at h1;refine ⟨.enter f args,w,?_,h2 w hw⟩;obtain ⟨hn,hb⟩ := h1;obtain ⟨c,hc⟩ := Option.isSome_iff_exists.1 hb
  simp [callFunc,program,Sem.run_bind,Sem.run,hf,hn,hc,Result.andThen]
 ·cases h1⟩
theorem wv.mono {m : Sem Next} {S : zb} {κ κ' : Value -> zb -> Prop} (h : wv P m S κ) (hk : ∀ v S,κ v S -> κ' v S) : wv P m S κ' := fun w hw => by
 obtain ⟨r,w',h1,h2⟩ := h w hw;refine ⟨r,w',h1,?_⟩;have em : ∀ (e : Ending) (w'' : World),ZX w κ e w'' -> ZX w κ' e w'' := fun e w'' ⟨v,S',a,b,c,d⟩ => ⟨v,S',a,b,c,hk _ _ d⟩
 cases r <;> simp only [GoesW] at h2 ⊢ <;> first | exact CallsIn.mono h2 em | exact RoundIn.mono h2 em | (let ⟨S',a,b,c⟩ := h2;exact ⟨S',a,b,hk _ _ c⟩) | exact h2.elim
theorem YieldW.next {l : Nat} {args : Array Value} {S : zb} {κ : Value -> zb -> Prop} (h : YieldW P l args S κ) : wv P (Instr.yield l args) S κ := fun w hw => by
 obtain ⟨fn,tmps,assign,body,hr,hR⟩ := h.out w hw;exact ⟨_,w,hr,hR⟩
def FnW (P : Program) (f : Value) (args : LV) (S : zb) (κ : Value -> zb -> Prop) : Prop :=
 match f with
 | .func (.func g) first captured => vf P g (first.toList ++ args ++ captured.toList).toArray S κ
 | .func (.yield l) first _ => YieldW P l (first.toList ++ args).toArray S κ
 | _ => False
theorem FnW.next {f : Value} {args : LV} {S : zb} {κ : Value -> zb -> Prop} (h : FnW P f args S κ) :
  wv P (do let d <- Deferred.ofValue f args.toArray;invoke d.target d.args) S κ := by
 unfold FnW at h
 split at h
 ·rename_i g first captured
  have e : (do let d <- Deferred.ofValue (.func (.func g) first captured) args.toArray;invoke d.target d.args : Sem Next) = callFunc g (first.toList ++ args ++ captured.toList).toArray := by
   simp only [Deferred.ofValue,invoke,bind,pure,Sem.bind]
   congr 1
   apply lS
   simp
  rw [e];exact h.next
 ·rename_i l first captured
  have e : (do let d <- Deferred.ofValue (.func (.yield l) first captured) args.toArray;invoke d.target d.args : Sem Next) = Instr.yield l (first.toList ++ args).toArray := by
   simp only [Deferred.ofValue,invoke,bind,pure,Sem.bind]
   congr 1
   apply lS
   simp
  rw [e];exact h.next
 ·exact h.elim
def xR (P : Program) (b : Builtin) (ats : Array TypeId) (t : TypeId) (args : LV) (S : zb) (κ : Value -> zb -> Prop) : Prop :=
 match b,args with
 | .min,_ => zk P (Builtin.min_ ats t args.toArray) fun v => κ v S
 | .max,_ => zk P (Builtin.max_ ats t args.toArray) fun v => κ v S
 | .len,[.slice a n c] => zk P (Builtin.len_ ats t #[.slice a n c]) fun v => κ v S
 | .len,[.string s] => zk P (Builtin.len_ ats t #[.string s]) fun v => κ v S
 | .len,[.map r] => xG P (Builtin.len_ ats t #[.map r]) S fun v => κ v S
 | .cap,_ => zk P (Builtin.cap_ ats t args.toArray) fun v => κ v S
 | .append,_ => ValW P (Builtin.append_ ats t args.toArray) S κ
 | .copy,_ => ValW P (Builtin.copy_ ats t args.toArray) S κ
 | .clear,_ => ValW P (Builtin.clear_ ats t args.toArray) S κ
 | .delete,_ => ValW P (Builtin.delete_ ats t args.toArray) S κ
 | .unsafeSliceData,_ => ValW P (Builtin.unsafeSliceData_ ats t args.toArray) S κ
 | .unsafeString,_ => ValW P (Builtin.unsafeString_ ats t args.toArray) S κ
 | _,_ => False
theorem xR.next {b : Builtin} {ats : Array TypeId} {t : TypeId} {cs : Array Bool} {args : LV} {S : zb} {κ : Value -> zb -> Prop}
  (h : xR P b ats t args S κ) : wv P (builtin b ats t cs args.toArray) S κ := by
 unfold xR at h
 split at h
 ·exact (h.read S).val.next
 ·exact (h.read S).val.next
 ·exact (h.read S).val.next
 ·exact (h.read S).val.next
 ·exact h.val.next
 ·exact (h.read S).val.next
 ·exact h.next
 ·exact h.next
 ·exact h.next
 ·exact h.next
 ·exact h.next
 ·exact h.next
 ·exact h.elim
def zy (x : Option Value) (κ : Value -> Prop) : Prop :=
 match x with
 | some v => κ v
 | none => False
def evL (L : Env) : List Operand -> Option (LV)
 | [] => some []
 | x :: l =>
  match evT L x,evL L l with
  | some v,some vs => some (v :: vs)
  | _,_ => none
def kK (x : Option (LV)) (κ : LV -> Prop) : Prop :=
 match x with
 | some v => κ v
 | none => False
def evO (L : Env) : Option Operand -> Option (Option Value)
 | none => some none
 | some x =>
  match evT L x with
  | some v => some (some v)
  | none => none
def kY (x : Option (Option Value)) (κ : Option Value -> Prop) : Prop :=
 match x with
 | some v => κ v
 | none => False
def withB (v : Value) (κ : Bool -> Prop) : Prop :=
 match v with
 | .bool b => κ b
 | _ => False
def evP (L : Env) : List (Nat × Operand) -> Option (List (Nat × Value))
 | [] => some []
 | (i,x) :: l =>
  match evT L x,evP L l with
  | some v,some vs => some ((i,v) :: vs)
  | _,_ => none
def withP (x : Option (List (Nat × Value))) (κ : List (Nat × Value) -> Prop) : Prop :=
 match x with
 | some v => κ v
 | none => False
def NilW (v : Value) (κ : Value -> Prop) : Prop :=
 match v with
 | .pointer (some a) => κ (.pointer (some a))
 | .func (.func f) a b => κ (.func (.func f) a b)
 | .func (.yield f) a b => κ (.func (.yield f) a b)
 | _ => False
def vS (P : Program) (s d : TypeId) (v : Value) (S : zb) (κ : Value -> zb -> Prop) : Prop :=
 match v with
 | .int k n => zk P (convert s d (.int k n)) fun v => κ v S
 | v => ValW P (convert s d v) S κ
def zY (P : Program) (op : Op) (t : TypeId) (L : Env) (S : zb) (κ : Value -> zb -> Prop) : Prop :=
 match op with
 | .move x | .assign x => zy (evT L x) fun v => κ v S
 | .pick c a b => zy (evT L c) fun v => withB v fun g => zy (evT L (if g then a else b)) fun u => κ u S
 | .alloc e => ValW P (Instr.alloc e true (.tuple #[])) S κ
 | .box e x => zy (evT L x) fun v => ValW P (Instr.box e v) S κ
 | .build u ps => withP (evP L ps.toList) fun vs => zk P (Instr.build u vs.toArray) fun v => κ v S
 | .buildSlice u n ps => withP (evP L ps.toList) fun vs => ValW P (Instr.buildSlice u n vs.toArray) S κ
 | .load u x => zy (evT L x) fun a => xG P (Instr.loadAt u a) S fun v => κ v S
 | .store u x y => zy (evT L x) fun a => zy (evT L y) fun v => jI P (Instr.storeAt u a v) S (κ undef)
 | .nilCheck x => zy (evT L x) fun v => NilW v fun v => κ v S
 | .binOp o u x y _ => zy (evT L x) fun a => zy (evT L y) fun b => zk P (do eqGuard o u x y a b;binOp o u a b) fun v => κ v S
 | .unOp o _ x => zy (evT L x) fun a => zk P (Op.unary o a) fun v => κ v S
 | .convert s d x => zy (evT L x) fun v => vS P s d v S κ
 | .makeInterface u x => zy (evT L x) fun v => zk P (Instr.makeInterface u v) fun v => κ v S
 | .makeFunc fn a b => kK (evL L a.toList) fun va => kK (evL L b.toList) fun vb => κ (.func fn va.toArray vb.toArray) S
 | .makeMap u r => kY (evO L r) fun v => ValW P (Instr.makeMap u v) S κ
 | .makeSlice u x y => zy (evT L x) fun a => zy (evT L y) fun b => ValW P (Instr.makeSlice u a b) S κ
 | .slice u x lo hi mx => zy (evT L x) fun v => kY (evO L lo) fun a => kY (evO L hi) fun b => kY (evO L mx) fun c => zk P (Instr.sliceAt u v a b c) fun v => κ v S
 | .sliceToArrayPointer u x => zy (evT L x) fun v => zk P (Instr.arrayAt u v) fun v => κ v S
 | .fieldAddr u x f => zy (evT L x) fun v => zk P (Instr.fieldAt u v f) fun v => κ v S
 | .field u x f => zy (evT L x) fun v => zk P (Instr.field u v f) fun v => κ v S
 | .indexAddr u x i => zy (evT L x) fun v => zy (evT L i) fun j => zk P (Instr.indexAt u v j) fun v => κ v S
 | .index u x i => zy (evT L x) fun v => zy (evT L i) fun j => zk P (Instr.index u v j) fun v => κ v S
 | .lookup u x i ok => zy (evT L x) fun v => zy (evT L i) fun j => xG P (Instr.lookup u v j ok) S fun v => κ v S
 | .mapUpdate u m k x | .insert u m k x => zy (evT L m) fun a => zy (evT L k) fun b => zy (evT L x) fun c => jI P (Instr.mapUpdate u a b c) S (κ undef)
 | .mapEntry u m k => zy (evT L m) fun a => zy (evT L k) fun b => ValW P (Instr.mapEntry u a b) S κ
 | .entryStore u m s x => zy (evT L m) fun a => zy (evT L s) fun b => zy (evT L x) fun c => jI P (Instr.entryStore u a b c) S (κ undef)
 | .range u x => zy (evT L x) fun v => ValW P (Instr.range u v) S κ
 | .next it s => zy (evT L it) fun v => ValW P (Instr.next v s t) S κ
 | .entry it => zy (evT L it) fun v => ValW P (Instr.entry v) S κ
 | .typeAssert x u v ok => zy (evT L x) fun a => zk P (Instr.typeAssert a u v ok) fun v => κ v S
 | .extract x i => zy (evT L x) fun a => zk P (Instr.extract a i) fun v => κ v S
 | .call c => kK (evL L c.args.toList) fun vs =>
  match c.callee with
  | .value f => zy (evT L f) fun fv => FnW P fv vs S κ
  | .builtin b => xR P b c.argTypes t vs S κ
  | .invoke _ _ => False
 | _ => False
theorem zp {L : Env} {x : Operand} {κ : Value -> Prop} (h : zy (evT L x) κ) : ∃ v,evT L x = some v /\ κ v := by
 cases hx : evT L x with
 | none => rw [hx] at h;exact h.elim
 | some v => rw [hx] at h;exact ⟨v,rfl,h⟩
theorem wT {L : Env} {x : Option Operand} {ρ : Operand -> Value} (hρ : ∀ x v,evT L x = some v -> ρ x = v) {κ : Option Value -> Prop} (h : kY (evO L x) κ) : κ (x.map ρ) := by
 cases x with
 | none => exact h
 | some x =>
  simp only [evO] at h
  cases hx : evT L x with
  | none => rw [hx] at h;exact h.elim
  | some v => rw [hx] at h;simp only [lX,hρ x v hx];exact h
theorem Ze {L : Env} {ρ : Operand -> Value} (hρ : ∀ x v,evT L x = some v -> ρ x = v) : ∀ (l : List Operand) (vs : LV),evL L l = some vs -> l.map ρ = vs
 | [],vs,h => by simp only [evL] at h;cases h;rfl
 | x :: l,vs,h => by
  simp only [evL] at h
  cases hx : evT L x with
  | none => simp [hx] at h
  | some v =>
   cases hl : evL L l with
   | none => simp [hx,hl] at h
   | some us =>
    simp only [hx,hl,Option.some.injEq] at h;subst h
    simp [hρ x v hx,Ze hρ l us hl]
theorem VY {L : Env} {ρ : Operand -> Value} (hρ : ∀ x v,evT L x = some v -> ρ x = v) : ∀ (l : List (Nat × Operand)) (vs : List (Nat × Value)),evP L l = some vs -> (l.map fun (i,x) => (i,ρ x)) = vs
 | [],vs,h => by simp only [evP] at h;cases h;rfl
 | (i,x) :: l,vs,h => by
  simp only [evP] at h
  cases hx : evT L x with
  | none => simp [hx] at h
  | some v =>
   cases hl : evP L l with
   | none => simp [hx,hl] at h
   | some us =>
    simp only [hx,hl,Option.some.injEq] at h;subst h
    simp [hρ x v hx,VY hρ l us hl]
theorem Zo {o : Oper} {L : Env} {S : zb} {κ : Value -> zb -> Prop} {ρ : Operand -> Value} (hρ : ∀ x v,evT L x = some v -> ρ x = v)
  (h : zY P o.op o.type L S κ) : wv P (execOp ρ o) S κ := by
 obtain ⟨dst,op,t,pos,after,guard⟩ := o;have pureN : ∀ {v : Value} {S : zb},κ v S -> wv P (pure (.value v)) S κ := fun {v S} hk w hw => ⟨.value v,w,rfl,S,Ext.refl w,hw,hk⟩
 cases op <;> simp only [zY] at h <;> simp only [execOp]
 case move x => obtain ⟨v,hx,h⟩ := zp h;rw [hρ x v hx];exact pureN h
 case assign x => obtain ⟨v,hx,h⟩ := zp h;rw [hρ x v hx];exact pureN h
 case pick c a b =>
  obtain ⟨v,hx,h⟩ := zp h
  cases v <;> first | exact h.elim | skip
  rename_i g
  simp only [withB] at h;obtain ⟨u,hu,h⟩ := zp h;have hu' := hρ _ _ hu;rw [hρ c _ hx];intro w hw;refine ⟨.value u,w,?_,S,Ext.refl w,hw,h⟩
  cases g <;> simp_all [asBool,Sem.run_bind,Result.andThen]
 case alloc e => exact h.next
 case box e x => obtain ⟨v,hx,h⟩ := zp h;rw [hρ x v hx];exact h.next
 case build u ps =>
  cases hp : evP L ps.toList with
  | none => rw [hp] at h;exact h.elim
  | some vs =>
   rw [hp] at h;have e : (ps.map fun (i,x) => (i,ρ x)) = vs.toArray := lS (by simpa using VY hρ _ _ hp);rw [e];exact (zk.read h S).val.next
 case buildSlice u n ps =>
  cases hp : evP L ps.toList with
  | none => rw [hp] at h;exact h.elim
  | some vs =>
   rw [hp] at h;have e : (ps.map fun (i,x) => (i,ρ x)) = vs.toArray := lS (by simpa using VY hρ _ _ hp);rw [e];exact h.next
 case load u x => obtain ⟨v,hx,h⟩ := zp h;rw [hρ x v hx];exact h.val.next
 case store u x y =>
  obtain ⟨v,hx,h⟩ := zp h;obtain ⟨v',hy,h⟩ := zp h;rw [hρ x v hx,hρ y v' hy];exact h.next
 case nilCheck x =>
  obtain ⟨v,hx,h⟩ := zp h;rw [hρ x v hx];unfold NilW at h
  split at h
  ·exact pureN h
  ·exact pureN h
  ·exact pureN h
  ·exact h.elim
 case binOp o u x y yt =>
  obtain ⟨v,hx,h⟩ := zp h;obtain ⟨v',hy,h⟩ := zp h;rw [hρ x v hx,hρ y v' hy];exact (zk.read h S).val.next
 case unOp o u x => obtain ⟨v,hx,h⟩ := zp h;rw [hρ x v hx];exact (zk.read h S).val.next
 case convert s d x =>
  obtain ⟨v,hx,h⟩ := zp h;rw [hρ x v hx];unfold vS at h
  split at h
  ·exact (zk.read h S).val.next
  ·exact h.next
 case sliceToArrayPointer u x => obtain ⟨v,hx,h⟩ := zp h;rw [hρ x v hx];exact (zk.read h S).val.next
 case makeInterface u x => obtain ⟨v,hx,h⟩ := zp h;rw [hρ x v hx];exact (zk.read h S).val.next
 case makeFunc fn a b =>
  cases ha : evL L a.toList with
  | none => rw [ha] at h;exact h.elim
  | some va =>
   rw [ha] at h;simp only [kK] at h
   cases hb : evL L b.toList with
   | none => rw [hb] at h;exact h.elim
   | some vb =>
    rw [hb] at h;have ea : a.map ρ = va.toArray := lS (by simpa using Ze hρ _ _ ha);have eb : b.map ρ = vb.toArray := lS (by simpa using Ze hρ _ _ hb);rw [ea,eb];exact xG.val (m := Instr.makeFunc fn va.toArray vb.toArray) ⟨_,fun w _ => rfl,h⟩ |>.next
 case makeMap u r => exact (wT (κ := fun v => ValW P (Instr.makeMap u v) S κ) hρ h).next
 case makeSlice u x y =>
  obtain ⟨v,hx,h⟩ := zp h;obtain ⟨v',hy,h⟩ := zp h;rw [hρ x v hx,hρ y v' hy];exact h.next
 case slice u x lo hi mx =>
  obtain ⟨v,hx,h⟩ := zp h;rw [hρ x v hx];have h := wT hρ h;have h := wT hρ h;have h := wT hρ h;exact (zk.read h S).val.next
 case fieldAddr u x f => obtain ⟨v,hx,h⟩ := zp h;rw [hρ x v hx];exact (zk.read h S).val.next
 case field u x f => obtain ⟨v,hx,h⟩ := zp h;rw [hρ x v hx];exact (zk.read h S).val.next
 case indexAddr u x y =>
  obtain ⟨v,hx,h⟩ := zp h;obtain ⟨v',hy,h⟩ := zp h;rw [hρ x v hx,hρ y v' hy];exact (zk.read h S).val.next
 case index u x y =>
  obtain ⟨v,hx,h⟩ := zp h;obtain ⟨v',hy,h⟩ := zp h;rw [hρ x v hx,hρ y v' hy];exact (zk.read h S).val.next
 case lookup u x y ok =>
  obtain ⟨v,hx,h⟩ := zp h;obtain ⟨v',hy,h⟩ := zp h;rw [hρ x v hx,hρ y v' hy];exact h.val.next
 case mapUpdate u m k x =>
  obtain ⟨v,hx,h⟩ := zp h;obtain ⟨v',hy,h⟩ := zp h;obtain ⟨v'',hz,h⟩ := zp h;rw [hρ _ v hx,hρ _ v' hy,hρ _ v'' hz];exact h.next
 case insert u m k x =>
  obtain ⟨v,hx,h⟩ := zp h;obtain ⟨v',hy,h⟩ := zp h;obtain ⟨v'',hz,h⟩ := zp h;rw [hρ _ v hx,hρ _ v' hy,hρ _ v'' hz];exact h.next
 case mapEntry u m k =>
  obtain ⟨v,hx,h⟩ := zp h;obtain ⟨v',hy,h⟩ := zp h;rw [hρ _ v hx,hρ _ v' hy];exact h.next
 case entryStore u m k x =>
  obtain ⟨v,hx,h⟩ := zp h;obtain ⟨v',hy,h⟩ := zp h;obtain ⟨v'',hz,h⟩ := zp h;rw [hρ _ v hx,hρ _ v' hy,hρ _ v'' hz];exact h.next
 case range u x => obtain ⟨v,hx,h⟩ := zp h;rw [hρ x v hx];exact h.next
 case next it s => obtain ⟨v,hx,h⟩ := zp h;rw [hρ _ v hx];exact h.next
 case entry it => obtain ⟨v,hx,h⟩ := zp h;rw [hρ _ v hx];exact h.next
 case typeAssert x u v ok => obtain ⟨v,hx,h⟩ := zp h;rw [hρ _ v hx];exact (zk.read h S).val.next
 case extract x i => obtain ⟨v,hx,h⟩ := zp h;rw [hρ _ v hx];exact (zk.read h S).val.next
 case call c =>
  cases hp : evL L c.args.toList with
  | none => rw [hp] at h;exact h.elim
  | some vs =>
   rw [hp] at h;simp only [kK] at h;have e : c.args.map ρ = vs.toArray := lS (by simpa using Ze hρ _ _ hp);unfold resolve;rw [e]
   cases hc : c.callee with
   | value f =>
    rw [hc] at h;obtain ⟨fv,hf,h⟩ := zp h;simp only [hρ f fv hf];exact h.next
   | builtin b =>
    rw [hc] at h;exact xR.next h
   | invoke r m => rw [hc] at h;exact h.elim
 all_goals exact h.elim
end Go.Ost
namespace Go.Ost
open Go
variable {P : Program} {n : Nat} {ro : Option Nat}
abbrev Cont := Exit -> List Nat -> Env -> zb -> Prop
def KQ (n : Nat) (K : Cont) (w : World) : Exit -> Act -> World -> Prop :=
 fun e a' w' => ∃ D L S,K e D L S /\ jR n L D a' /\ Ext w w' /\ Hold w' S
structure zB (P : Program) (n : Nat) (ro : Option Nat) (c : Code) (K : Cont) (D : List Nat) (L : Env) (S : zb) : Prop where
 out : ∀ a w,jR n L D a -> Hold w S -> c.wpIn (FW ro) 0 P (KQ n K w) a w
theorem KQ.ext {K : Cont} {w w' : World} (h : Ext w w') {e : Exit} {a : Act} {v : World} (hq : KQ n K w' e a v) : KQ n K w e a v :=
 let ⟨D,L,S,k,ag,ex,ho⟩ := hq;⟨D,L,S,k,ag,h.trans ex,ho⟩
theorem vR {c : Code} {K : Cont} {D : List Nat} {L L' : Env} {S S' : zb} (hL : ke L' L) (hS : zn S' S) (h : zB P n ro c K D L' S') : zB P n ro c K D L S :=
 ⟨fun a w ha hw => h.out a w (ha.less hL) (hS.hold hw)⟩
theorem JY {c : Code} {K K' : Cont} {D : List Nat} {L : Env} {S : zb} (h : zB P n ro c K D L S) (hk : ∀ e D L S,K e D L S -> K' e D L S) : zB P n ro c K' D L S :=
 ⟨fun a w ha hw => wpIn_mono (h.out a w ha hw) fun _ _ _ ⟨D,L,S,k,r⟩ => ⟨D,L,S,hk _ _ _ _ k,r⟩⟩
theorem zP {K : Cont} {D : List Nat} {L : Env} {S : zb} (h : K .normal D L S) : zB P n ro .skip K D L S :=
 ⟨fun _ w ha hw => wpIn_skip ⟨D,L,S,h,ha,Ext.refl w,hw⟩⟩
theorem jy {K : Cont} {D : List Nat} {L : Env} {S : zb} {l : Nat} (h : K .normal D L S) : zB P n ro (.label l) K D L S :=
 ⟨fun _ w ha hw => wpIn_label ⟨D,L,S,h,ha,Ext.refl w,hw⟩⟩
theorem zZ {K : Cont} {D : List Nat} {L : Env} {S : zb} {id : Nat} (h : K (.exit id) D L S) : zB P n ro (.exit id) K D L S :=
 ⟨fun _ w ha hw => wpIn_exit ⟨D,L,S,h,ha,Ext.refl w,hw⟩⟩
theorem qe {K : Cont} {D : List Nat} {L : Env} {S : zb} (h : K .ret D L S) : zB P n ro .ret K D L S :=
 ⟨fun _ w ha hw => wpIn_ret ⟨D,L,S,h,ha,Ext.refl w,hw⟩⟩
def Cont.then (next : List Nat -> Env -> zb -> Prop) (K : Cont) : Cont
 | .normal,D,L,S => next D L S
 | e,D,L,S => K e D L S
theorem zS {x y : Code} {K : Cont} {D : List Nat} {L : Env} {S : zb} (h : zB P n ro x (Cont.then (zB P n ro y K) K) D L S) : zB P n ro (.seq x y) K D L S :=
 ⟨fun a w ha hw => wpIn_seq (wpIn_mono (h.out a w ha hw) fun e a' w' hq => by
  obtain ⟨D,L,S,k,ag,ex,ho⟩ := hq
  cases e <;> first | exact wpIn_mono (zB.out k a' w' ag ho) (fun _ _ _ h => h.ext ex) | exact ⟨D,L,S,k,ag,ex,ho⟩)⟩
theorem zg {x y : Code} {K : Cont} {D : List Nat} {L : Env} {S : zb}
  (h : ∀ N : List Nat -> Env -> zb -> Prop,(∀ D L S,zB P n ro y K D L S -> N D L S) -> zB P n ro x (Cont.then N K) D L S) : zB P n ro (.seq x y) K D L S :=
 zS (h _ fun _ _ _ h => h)
theorem wr {c : Operand} {x y : Code} {K : Cont} {D : List Nat} {L : Env} {S : zb} {b : Bool} (hc : evT L c = some (.bool b))
  (ht : b = true -> zB P n ro x K D L S) (hf : b = false -> zB P n ro y K D L S) : zB P n ro (.cond c x y) K D L S :=
 ⟨fun a w ha hw => wpIn_cond_split (ha.ev hc) (fun h => (ht h).out a w ha hw) (fun h => (hf h).out a w ha hw)⟩
theorem WK {c : Operand} {x y : Code} {K : Cont} {D : List Nat} {L : Env} {S : zb} (hc : evT L c = some (.bool true))
  (ht : zB P n ro x K D L S) : zB P n ro (.cond c x y) K D L S := wr hc (fun _ => ht) (fun h => by cases h)
theorem wq {c : Operand} {x y : Code} {K : Cont} {D : List Nat} {L : Env} {S : zb} (hc : evT L c = some (.bool false))
  (hf : zB P n ro y K D L S) : zB P n ro (.cond c x y) K D L S := wr hc (fun h => by cases h) (fun _ => hf)
def Cont.block (id : Nat) (K : Cont) : Cont
 | .exit id',D,L,S => if id' = id then K .normal D L S else K (.exit id') D L S
 | e,D,L,S => K e D L S
theorem zr {id : Nat} {c : Code} {K : Cont} {D : List Nat} {L : Env} {S : zb} (h : zB P n ro c (K.block id) D L S) : zB P n ro (.block id c) K D L S :=
 ⟨fun a w ha hw => wpIn_block (wpIn_mono (h.out a w ha hw) fun e a' w' hq => by
  obtain ⟨D,L,S,k,r⟩ := hq
  cases e <;> simp only [Exit.inBlock] <;> first | exact ⟨D,L,S,k,r⟩ | skip
  simp only [Cont.block] at k
  split at k
  ·rw [if_pos ‹_›];exact ⟨D,L,S,k,r⟩
  ·rw [if_neg ‹_›];exact ⟨D,L,S,k,r⟩)⟩
def Cont.noGoto (K : Cont) : Cont
 | .goto _,_,_,_ => False
 | e,D,L,S => K e D L S
theorem jx {c : Code} {K : Cont} {D : List Nat} {L : Env} {S : zb} (h : zB P n ro c K.noGoto D L S) : zB P n ro (.scope c) K D L S := by
 refine ⟨fun a w ha hw b k cs hro hb hr => ?_⟩;obtain ⟨e,a₁,w₁,hq,harr⟩ := h.out a w ha hw b (.inScope c :: k) cs hro hb hr
 have s0 : step P (lone (b.atR a (.code (.scope c) :: k)) cs w) = .next (lone (b.atR a (.code c :: .inScope c :: k)) cs w) :=
  step_lone_go (by simp [stepG,stepG.exec,Frame.atR])
 have s1 : ∀ (a : Act) (w : World),step P (lone (b.atR a (.inScope c :: k)) cs w) = .next (lone (b.atR a k) cs w) :=
  fun a w => step_lone_go (by simp [stepG,stepG.exec,Frame.atR])
 have f0 : (lone (b.atR a (.code (.scope c) :: k)) cs w).fenced P (FW ro) := fenced_calm hb hr rfl;obtain ⟨D,L,S,hk,r⟩ := hq
 cases e with
 | normal => exact ⟨.normal,a₁,w₁,⟨D,L,S,hk,r⟩,.head f0 s0 (StepsIn.trans harr (.one (fenced_calm (fr := b.atR a₁ (.inScope c :: k)) hb hr rfl) (s1 a₁ w₁)))⟩
 | exit id =>
  refine ⟨.exit id,a₁,w₁,⟨D,L,S,hk,r⟩,?_⟩;have e2 : exitTo id (.inScope c :: k) = exitTo id k := by simp [exitTo]
  refine ArrivesIn.of_steps (.one f0 s0) ?_;unfold ArrivesIn at harr ⊢;simp only at harr ⊢;rw [e2] at harr;exact harr
 | goto l => exact hk.elim
 | ret => exact ⟨.ret,a₁,w₁,⟨D,L,S,hk,r⟩,ArrivesIn.of_steps (.one f0 s0) harr⟩
 | panic ch => exact ⟨.panic ch,a₁,w₁,⟨D,L,S,hk,r⟩,ArrivesIn.of_steps (.one f0 s0) harr⟩
 | outgrown => exact ⟨.outgrown,a₁,w₁,⟨D,L,S,hk,r⟩,ArrivesIn.of_steps (e := .outgrown) (a := a₁) (w := w₁) (b := b) (k := k) (.one f0 s0) harr⟩
structure Again (I : Nat -> List Nat -> Env -> zb -> Prop) (m : Nat) (D : List Nat) (L : Env) (S : zb) : Prop where
 out : ∃ m' L'' S'',m' < m /\ I m' D L'' S'' /\ ke L'' L /\ zn S'' S
theorem xL {c : Code} {K : Cont} {D : List Nat} {L : Env} {S : zb} (I : Nat -> List Nat -> Env -> zb -> Prop) (h0 : ∃ m L0 S0,I m D L0 S0 /\ ke L0 L /\ zn S0 S)
  (round : ∀ m D L S,I m D L S -> zB P n ro c (Cont.then (Again I m) K) D L S) : zB P n ro (.loop c) K D L S := by
 refine ⟨fun a w ha hw b k cs hro hb hr => ?_⟩
 have key : ∀ m (a : Act) (w : World) D L S,I m D L S -> jR n L D a -> Hold w S ->
   ∃ e a' w',KQ n K w e a' w' /\ ArrivesIn (Machine.fenced P (FW ro)) P (lone (b.atR a (.code c :: .inLoop c :: k)) cs w) b k cs e a' w' := by
  intro m
  induction m using Nat.strongRecOn with
  | _ m ih =>
   intro a w D L S hI ha hw;obtain ⟨e,a₁,w₁,hq,harr⟩ := (round m D L S hI).out a w ha hw b (.inLoop c :: k) cs hro hb hr;obtain ⟨D₁,L₁,S₁,hk,hag,hex,hho⟩ := hq
   cases e with
   | normal =>
    obtain ⟨m',L'',S'',hlt,hI',hL,hS⟩ := Again.out hk;obtain ⟨e₂,a₂,w₂,hq₂,harr₂⟩ := ih m' hlt a₁ w₁ D₁ L'' S'' hI' (hag.less hL) (hS.hold hho);exact ⟨e₂,a₂,w₂,hq₂.ext hex,.of_steps (StepsIn.trans harr (.one (fenced_calm (fr := b.atR a₁ (.inLoop c :: k)) hb hr rfl) stepR_inLoop)) harr₂⟩
   | exit id => exact ⟨_,a₁,w₁,⟨D₁,L₁,S₁,hk,hag,hex,hho⟩,.pass (x := .inLoop c) rfl (fun _ _ => .inl sM) harr⟩
   | goto l => exact ⟨_,a₁,w₁,⟨D₁,L₁,S₁,hk,hag,hex,hho⟩,.pass (x := .inLoop c) rfl (fun _ _ => .inl sM) harr⟩
   | ret => exact ⟨_,a₁,w₁,⟨D₁,L₁,S₁,hk,hag,hex,hho⟩,.pass (x := .inLoop c) rfl (fun _ _ => .inl sM) harr⟩
   | panic ch => exact ⟨_,a₁,w₁,⟨D₁,L₁,S₁,hk,hag,hex,hho⟩,.pass (x := .inLoop c) rfl (fun _ _ => .inl sM) harr⟩
   | outgrown => exact ⟨_,a₁,w₁,⟨D₁,L₁,S₁,hk,hag,hex,hho⟩,.pass (x := .inLoop c) rfl (fun _ _ => .inl sM) harr⟩
 obtain ⟨m,L0,S0,h0,hL0,hS0⟩ := h0;obtain ⟨e,a',w',hq,harr⟩ := key m a w D L0 S0 h0 (ha.less hL0) (hS0.hold hw);exact ⟨e,a',w',hq,.of_steps (.one (fenced_calm hb hr rfl) stepR_loop) harr⟩
def xA (ops : Array Oper) (o : Oper) (L : Env) (A B : Prop) : Prop :=
 match o.guard with
 | none => A
 | some (j,want) =>
  match (ops[j]?).bind (·.dst) with
  | none => False
  | some d => zy (lookT L d) fun v => match v with | .bool b => if b = want then A else B | .tuple _ => B | _ => False
def runW (P : Program) (n : Nat) (ops : Array Oper) (K : Env -> zb -> Prop) : List Oper -> Env -> zb -> Prop
 | [],L,S => K L S
 | o :: l,L,S => xA ops o L (zY P o.op o.type L S fun v S' => runW P n ops K l (putT n o.dst v L) S') (runW P n ops K l (putT n o.dst undef L) S)
theorem bc {op : Op} {t : TypeId} {L : Env} {S : zb} {κ κ' : Value -> zb -> Prop} (hk : ∀ v S,κ v S -> κ' v S) (h : zY P op t L S κ) : zY P op t L S κ' := by
 have withV_mono : ∀ {x : Option Value} {p q : Value -> Prop},(∀ v,p v -> q v) -> zy x p -> zy x q := fun {x p q} hpq h => by cases x <;> first | exact h.elim | exact hpq _ h
 have withL_mono : ∀ {x : Option (LV)} {p q : LV -> Prop},(∀ v,p v -> q v) -> kK x p -> kK x q := fun {x p q} hpq h => by cases x <;> first | exact h.elim | exact hpq _ h
 have withO_mono : ∀ {x : Option (Option Value)} {p q : Option Value -> Prop},(∀ v,p v -> q v) -> kY x p -> kY x q := fun {x p q} hpq h => by cases x <;> first | exact h.elim | exact hpq _ h
 have withP_mono : ∀ {x : Option (List (Nat × Value))} {p q : List (Nat × Value) -> Prop},(∀ v,p v -> q v) -> withP x p -> withP x q := fun {x p q} hpq h => by cases x <;> first | exact h.elim | exact hpq _ h
 have pure_mono : ∀ {m : Sem Value} {p q : Value -> Prop},(∀ v,p v -> q v) -> zk P m p -> zk P m q := fun hpq ⟨v,a,b⟩ => ⟨v,a,hpq _ b⟩
 have read_mono : ∀ {m : Sem Value} {S : zb} {p q : Value -> Prop},(∀ v,p v -> q v) -> xG P m S p -> xG P m S q := fun hpq ⟨v,a,b⟩ => ⟨v,a,hpq _ b⟩
 have val_mono : ∀ {m : Sem Value} {S : zb},ValW P m S κ -> ValW P m S κ' := fun h => ⟨fun w hw => let ⟨v,w',S',a,b,c,d⟩ := h.out w hw;⟨v,w',S',a,b,c,hk _ _ d⟩⟩
 have unit_mono : ∀ {m : Sem Unit} {S : zb},jI P m S (κ undef) -> jI P m S (κ' undef) := fun h => ⟨fun w hw => let ⟨w',S',a,b,c,d⟩ := h.out w hw;⟨w',S',a,b,c,hk _ _ d⟩⟩
 have ends_mono : ∀ {w : World} (e : Ending) (w' : World),ZX w κ e w' -> ZX w κ' e w' := fun e w' ⟨v,S',a,b,c,d⟩ => ⟨v,S',a,b,c,hk _ _ d⟩
 have nil_mono : ∀ {v : Value} {p q : Value -> Prop},(∀ v,p v -> q v) -> NilW v p -> NilW v q := fun {v p q} hpq h => by
  unfold NilW at *;split at h <;> first | exact hpq _ h | exact h.elim
 have k1 : ∀ (S : zb) v,κ v S -> κ' v S := fun S v => hk v S
 cases op <;> simp only [zY] at h ⊢
 case move x => exact withV_mono (k1 _) h
 case assign x => exact withV_mono (k1 _) h
 case pick c a b => exact withV_mono (fun v hv => by cases v <;> first | exact hv.elim | exact withV_mono (k1 _) hv) h
 case alloc e => exact val_mono h
 case box e x => exact withV_mono (fun v => val_mono) h
 case build u ps => exact withP_mono (fun v => pure_mono (k1 _)) h
 case buildSlice u n ps => exact withP_mono (fun v => val_mono) h
 case load u x => exact withV_mono (fun v => read_mono (k1 _)) h
 case store u x y => exact withV_mono (fun v => withV_mono fun v => unit_mono) h
 case nilCheck x => exact withV_mono (fun v => nil_mono (k1 _)) h
 case binOp o u x y yt => exact withV_mono (fun v => withV_mono fun v => pure_mono (k1 _)) h
 case unOp o u x => exact withV_mono (fun v => pure_mono (k1 _)) h
 case convert s d x =>
  refine withV_mono (fun v hv => ?_) h;unfold vS at *
  split at hv
  ·exact pure_mono (k1 _) hv
  ·exact val_mono hv
 case sliceToArrayPointer u x => exact withV_mono (fun v => pure_mono (k1 _)) h
 case makeInterface u x => exact withV_mono (fun v => pure_mono (k1 _)) h
 case makeFunc fn a b => exact withL_mono (fun v => withL_mono fun v => hk _ _) h
 case makeMap u r => exact withO_mono (fun v => val_mono) h
 case makeSlice u x y => exact withV_mono (fun v => withV_mono fun v => val_mono) h
 case slice u x lo hi mx => exact withV_mono (fun v => withO_mono fun v => withO_mono fun v => withO_mono fun v => pure_mono (k1 _)) h
 case fieldAddr u x f => exact withV_mono (fun v => pure_mono (k1 _)) h
 case field u x f => exact withV_mono (fun v => pure_mono (k1 _)) h
 case indexAddr u x y => exact withV_mono (fun v => withV_mono fun v => pure_mono (k1 _)) h
 case index u x y => exact withV_mono (fun v => withV_mono fun v => pure_mono (k1 _)) h
 case lookup u x y ok => exact withV_mono (fun v => withV_mono fun v => read_mono (k1 _)) h
 case mapUpdate u m k x => exact withV_mono (fun v => withV_mono fun v => withV_mono fun v => unit_mono) h
 case insert u m k x => exact withV_mono (fun v => withV_mono fun v => withV_mono fun v => unit_mono) h
 case mapEntry u m k => exact withV_mono (fun v => withV_mono fun v => val_mono) h
 case entryStore u m k x => exact withV_mono (fun v => withV_mono fun v => withV_mono fun v => unit_mono) h
 case range u x => exact withV_mono (fun v => val_mono) h
 case next it s => exact withV_mono (fun v => val_mono) h
 case entry it => exact withV_mono (fun v => val_mono) h
 case typeAssert x u v ok => exact withV_mono (fun v => pure_mono (k1 _)) h
 case extract x i => exact withV_mono (fun v => pure_mono (k1 _)) h
 case call c =>
  refine withL_mono (fun vs hv => ?_) h
  cases hc : c.callee with
  | value f =>
   simp only [hc] at hv ⊢;refine withV_mono (fun fv hf => ?_) hv;unfold FnW at *
   split at hf
   ·exact ⟨hf.out.mono hk⟩
   ·refine ⟨fun w hw => ?_⟩;obtain ⟨fn,tmps,asg,bd,hr,hR⟩ := hf.out w hw;exact ⟨fn,tmps,asg,bd,hr,hR.mono ends_mono⟩
   ·exact hf.elim
  | builtin b =>
   simp only [hc] at hv ⊢;unfold xR at *
   split at hv <;> first | exact hv.elim | exact pure_mono (k1 _) hv | exact read_mono (k1 _) hv | exact val_mono hv
  | invoke r m => simp only [hc] at hv
 all_goals exact h.elim
theorem Zi {o : Oper} {a : Act} {w : World} {nx : Act -> World -> Prop} {Q : Exit -> Act -> World -> Prop} {S : zb} {κ : Value -> zb -> Prop} {m : Sem Next}
  (h : wv P m S κ) (hw : Hold w S) (hk : ∀ v S' w',κ v S' -> Ext w w' -> Hold w' S' -> nx (a.put o.dst v) w') : o.uponIn (FW ro) 0 P a nx Q (m.run P w) := by
 obtain ⟨r,w',hr,hg⟩ := h w hw;rw [hr]
 cases r <;> simp only [GoesW] at hg
 case value v => obtain ⟨S',he,hh,k⟩ := hg;exact hk v S' w' k he hh
 case skip => obtain ⟨S',he,hh,k⟩ := hg;exact hk undef S' w' k he hh
 case enter f args =>
  refine ⟨fun h => (by cases h),hg.mono fun e w'' he => ?_⟩;obtain ⟨v,S',rfl,he,hh,k⟩ := he;exact hk v S' w'' k he hh
 case round l f tmps sx bd =>
  refine ⟨fun h => (by cases h),hg.mono fun e w'' he => ?_⟩;obtain ⟨v,S',rfl,he,hh,k⟩ := he;exact hk v S' w'' k he hh
theorem vD {op : Op} {t : TypeId} {L : Env} {S : zb} {κ : Value -> zb -> Prop} (h : zY P op t L S κ) : ∀ c,op ≠ .defer c := by
 intro c e;subst e;exact h
theorem Ua {o : Oper} {a : Act} {w : World} {nx : Act -> World -> Prop} {Q : Exit -> Act -> World -> Prop} {L : Env} {D : List Nat} {S : zb} {κ : Value -> zb -> Prop}
  (h : zY P o.op o.type L S κ) (ha : jR n L D a) (hw : Hold w S) (hk : ∀ v S' w',κ v S' -> Ext w w' -> Hold w' S' -> nx (a.put o.dst v) w') : o.wpIn (FW ro) 0 P a w nx Q := by
 refine ⟨fun _ _ => trivial,?_⟩;rw [Oper.semAt_eq _ _ _ (vD h)];exact Zi (Zo (fun x v hx => ha.ev hx) h) hw hk
theorem Zd {ops : Array Oper} {o : Oper} {L : Env} {D : List Nat} {a : Act} {A B : Prop} (ha : jR n L D a) (h : xA ops o L A B) :
  (Region.wanted o (yielded ops a.tmps) = true /\ A) ∨ (Region.wanted o (yielded ops a.tmps) = false /\ B) := by
 unfold xA at h
 cases hg : o.guard with
 | none => rw [hg] at h;exact .inl ⟨by simp [Region.wanted,hg],h⟩
 | some g =>
  obtain ⟨j,want⟩ := g;rw [hg] at h;simp only at h
  cases hd : (ops[j]?).bind (·.dst) with
  | none => rw [hd] at h;exact h.elim
  | some d =>
   rw [hd] at h;simp only at h
   cases hv : lookT L d with
   | none => rw [hv] at h;exact h.elim
   | some v =>
    rw [hv] at h;have ht := ha.get d v hv
    cases v <;> first | exact h.elim | skip
    case bool b =>
     simp only [zy] at h
     split at h
     ·subst_vars;exact .inl ⟨by simp [Region.wanted,hg,yielded,hd,ht],h⟩
     ·rename_i hne;exact .inr ⟨by simp [Region.wanted,hg,yielded,hd,ht,hne],h⟩
    case tuple vs => exact .inr ⟨by simp [Region.wanted,hg,yielded,hd,ht],h⟩
theorem run_in {ops : Array Oper} {K : Cont} {D : List Nat} : ∀ (l : List Oper) (L : Env) (S : zb),runW P n ops (K .normal D) l L S ->
  ∀ (a : Act) (w : World),jR n L D a -> Hold w S -> wpListIn (FW ro) 0 P ops (KQ n K w) l a w := by
 intro l
 induction l with
 | nil => intro L S h a w ha hw;exact ⟨D,L,S,h,ha,Ext.refl w,hw⟩
 | cons o l ih =>
  intro L S h a w ha hw
  have mono : ∀ {w w' : World} {a : Act} {l : List Oper},Ext w w' -> wpListIn (FW ro) 0 P ops (KQ n K w') l a w' -> wpListIn (FW ro) 0 P ops (KQ n K w) l a w' := by
   intro w w' a l he h;have hq : ∀ e a v,KQ n K w' e a v -> KQ n K w e a v := fun _ _ _ h => h.ext he
   clear ih
   have gen : ∀ (l : List Oper) (a : Act) (v : World),wpListIn (FW ro) 0 P ops (KQ n K w') l a v -> wpListIn (FW ro) 0 P ops (KQ n K w) l a v := by
    intro l
    induction l with
    | nil => intro a v h;exact hq _ _ _ h
    | cons o l ih =>
     intro a v h;simp only [wpListIn] at h ⊢
     split at h
     ·rw [if_pos ‹_›];refine ⟨h.1,?_⟩;have h2 := h.2;generalize (o.semAt (FW ro).round a.eval).run P v = r at *
      cases r with
      | ok x v' =>
       cases x <;> simp only [Oper.uponIn] at h2 ⊢ <;>
        first
         | exact ih _ _ h2
         | exact ⟨h2.1,CallsIn.mono h2.2 (fun e w'' he => by cases e <;> first | exact ih _ _ he | exact hq _ _ _ he | exact (let ⟨a,w,q⟩ := he;⟨a,w,hq _ _ _ q⟩))⟩
         | exact ⟨h2.1,RowsIn.mono h2.2 (fun _ _ he => ih _ _ he)⟩
         | exact ⟨h2.1,RoundIn.mono h2.2 (fun e w'' he => by cases e <;> first | exact ih _ _ he | exact hq _ _ _ he | exact (let ⟨a,w,q⟩ := he;⟨a,w,hq _ _ _ q⟩))⟩
      | halt x v' => cases x <;> simp only [Oper.uponIn] at h2 ⊢ <;> exact hq _ _ _ h2
     ·rw [if_neg ‹_›];exact ⟨h.1,ih _ _ h.2⟩
   exact gen l a w' h
  simp only [runW] at h;simp only [wpListIn]
  rcases Zd ha h with ⟨hw1,h⟩ | ⟨hw1,h⟩
  ·rw [if_pos hw1];exact Ua h ha hw fun v S' w' hk he hh => mono he (ih _ _ hk _ _ (ha.put _ _) hh)
  ·rw [if_neg (by simp [hw1])];exact ⟨fun _ _ => trivial,ih _ _ h _ _ (ha.put _ _) hw⟩
theorem UN {id : Nat} {ops : Array Oper} {K : Cont} {D : List Nat} {L : Env} {S : zb} (h : runW P n ops (K .normal D) ops.toList L S) :
  zB P n ro (.region id ops false) K D L S :=
 ⟨fun a w ha hw => wpIn_region_list (run_in _ _ _ h a w ha hw)⟩
theorem qt {ops : Array Oper} {K : Env -> zb -> Prop} {o : Oper} {l : List Oper} {L : Env} {S : zb}
  (h : ∀ N : Env -> zb -> Prop,(∀ L S,runW P n ops K l L S -> N L S) -> xA ops o L (zY P o.op o.type L S fun v S' => N (putT n o.dst v L) S') (N (putT n o.dst undef L) S)) :
  runW P n ops K (o :: l) L S := h _ fun _ _ h => h
theorem jN {ops : Array Oper} {K : Env -> zb -> Prop} {L : Env} {S : zb} (h : K L S) : runW P n ops K [] L S := h
theorem jU {id : Nat} {l : List Oper} {K : Cont} {D : List Nat} {L : Env} {S : zb} (h : runW P n l.toArray (K .normal D) l L S) :
  zB P n ro (.region id l.toArray false) K D L S := UN (by simpa using h)
end Go.Ost
namespace Go.Ost
open Go
variable {P : Program} {n : Nat} {ro : Option Nat}
def vH (P : Program) (f : FuncId) : Bool := match P.funcs[f]? with | some fn => fn.name != "runtime.NumGoroutine" && fn.body.isSome | none => false
structure zh (P : Program) (f : FuncId) (args : LV) (A : zb) (R : Value -> zb -> Prop) : Prop where
 able : vH P f = true
 out : ∀ (F : zd) (w : World),Hold w (F :: A) -> CallsIn (FW none) 0 P f args.toArray w
  (ZX w fun v S => ∃ A',S = F :: A' /\ R v A')
theorem zh.mono {f : FuncId} {args : LV} {A : zb} {R R' : Value -> zb -> Prop} (h : zh P f args A R) (hr : ∀ v A',R v A' -> R' v A') : zh P f args A R' :=
 ⟨h.1,fun F w hw => (h.2 F w hw).mono fun e w' ⟨v,S,a,b,c,A',d,r⟩ => ⟨v,S,a,b,c,A',d,hr _ _ r⟩⟩
theorem xX {f : FuncId} {args : LV} {S A G : zb} {R κ : Value -> zb -> Prop} (h : zh P f args A R) (ht : Take A S G)
  (k : ∀ v A',R v A' -> κ v (A' ++ G)) : vf P f args.toArray S κ := by
 refine vf.mk' h.1 fun w hw => (h.2 G.flatten w (hw.perm (ht.perm.trans ?_))).mono ?_
 ·simp only [iL,aO];exact lH
 ·rintro e w' ⟨v,S',rfl,he,hh,A',rfl,r⟩;refine ⟨v,A' ++ G,rfl,he,hh.perm ?_,k v A' r⟩;simp only [iL,aO];exact lH
def qo (D : List Nat) : zb := D.map fun r => [(r,Obj.deferred (some []))]
def resW (P : Program) : List ResultVar -> Env -> zb -> (LV -> Prop) -> Prop
 | [],_,_,κ => κ []
 | .tmp t :: r,L,S,κ => zy (lookT L t) fun v => resW P r L S fun vs => κ (v :: vs)
 | .cell a t :: r,L,S,κ => zy (lookT L a) fun p => xG P (Instr.loadAt t p) S fun v => resW P r L S fun vs => κ (v :: vs)
def wO : LV -> Value
 | [v] => v
 | vs => .tuple vs.toArray
def RetK (P : Program) (rs : List ResultVar) (R : Value -> zb -> Prop) (F : zd) : Cont
 | .normal,D,L,S | .ret,D,L,S => ∃ S1,Take (qo D) S S1 /\ resW P rs L S1 fun vs => ∃ A',R (wO vs) A' /\ zn (F :: A') S1
 | _,_,_,_ => False
def argsL : Nat -> LV -> Env
 | _,[] => []
 | i,v :: l => (i,v) :: argsL (i + 1) l
theorem yV {P : Program} {R : Value -> zb -> Prop} {F : zd} {t : Nat} {L : Env} {S : zb} {v : Value} (A' : zb) (hv : lookT L t = some v) (hR : R v A') (hs : zn (F :: A') S) :
  RetK P [.tmp t] R F .ret [] L S := ⟨S,.nil S,by simp only [resW,hv,zy];exact ⟨A',hR,hs⟩⟩
theorem OO {P : Program} {R : Value -> zb -> Prop} {F : zd} {L : Env} {S : zb} (A' : zb) (hR : R (.tuple #[]) A') (hs : zn (F :: A') S) :
  RetK P [] R F .ret [] L S := ⟨S,.nil S,A',hR,hs⟩
theorem Xf {P : Program} {R : Value -> zb -> Prop} {F : zd} {L : Env} {S : zb} (A' : zb) (hR : R (.tuple #[]) A') (hs : zn (F :: A') S) :
  RetK P [] R F .normal [] L S := ⟨S,.nil S,A',hR,hs⟩
theorem QL : ∀ (l : LV) (i t : Nat) (v : Value),lookT (argsL i l) t = some v -> i <= t /\ l[t - i]? = some v
 | [],i,t,v,h => by simp [argsL,lookT] at h
 | u :: l,i,t,v,h => by
  simp only [argsL,lookT] at h
  split at h
  ·subst_vars;cases h;simp
  ·have := QL l (i + 1) t v h;refine ⟨oM,?_⟩;rw [show t - i = (t - (i + 1)) + 1 from oM,iD];exact this.2
def resOne (tmps : Array Value) : ResultVar -> Sem Value
 | .tmp t => pure (tmps.getD t undef)
 | .cell b t => do loadVar t (<- asAddr (tmps.getD b undef))
theorem Vx {a : Act} {L : Env} {D : List Nat} {S : zb} (ha : jR n L D a) : ∀ (rs : List ResultVar) (κ : LV -> Prop),resW P rs L S κ ->
  ∃ vs,(∀ w,Hold w S -> (rs.mapM (resOne a.tmps)).run P w = .ok vs w) /\ κ vs
 | [],κ,h => ⟨[],fun w _ => rfl,h⟩
 | .tmp t :: r,κ,h => by
  simp only [resW] at h
  cases hv : lookT L t with
  | none => rw [hv] at h;exact h.elim
  | some v =>
   rw [hv] at h;obtain ⟨vs,h1,h2⟩ := Vx ha r _ h;refine ⟨v :: vs,fun w hw => ?_,h2⟩;have h3 := ha.get t v hv;have hg : a.tmps.getD t undef = v := by simp [h3]
   rw [List.mapM_cons];simp only [Sem.run_bind,resOne,hg,Sem.run_pure,Result.andThen,h1 w hw]
 | .cell b t :: r,κ,h => by
  simp only [resW] at h
  cases hp : lookT L b with
  | none => rw [hp] at h;exact h.elim
  | some p =>
   rw [hp] at h;obtain ⟨v,h3,h⟩ := h.out;obtain ⟨vs,h1,h2⟩ := Vx ha r _ h;refine ⟨v :: vs,fun w hw => ?_,h2⟩;have hb := ha.get b p hp;have h4 := h3 w hw
   have e : (asAddr p).run P w = (Instr.sureAddr p).run P w ∨ ∃ h w',(Instr.sureAddr p).run P w = .halt h w' := by
    unfold Instr.sureAddr asAddr
    cases p <;> first | exact .inr ⟨_,_,rfl⟩ | skip
    rename_i a;cases a <;> first | exact .inr ⟨_,_,rfl⟩ | exact .inl rfl
   have hg : a.tmps.getD b undef = p := by simp [hb]
   rw [List.mapM_cons];simp only [Sem.run_bind,resOne,hg];unfold Instr.loadAt at h4;rw [Sem.run_bind] at h4
   rcases e with e | ⟨x,w',e⟩
   ·rw [e]
    cases hs : (Instr.sureAddr p).run P w with
    | ok ad w1 =>
     rw [hs] at h4;simp only [Result.andThen] at h4 ⊢;rw [h4];simp only [Result.andThen,h1 w hw,Sem.run_pure]
    | halt x w1 => rw [hs] at h4;simp [Result.andThen] at h4
   ·rw [e] at h4;simp [Result.andThen] at h4
theorem QJ {F : Fence} {m : Nat} {fn : Func} {tmps : Array Value} {R : Ending -> World -> Prop} : ∀ (D : List Nat) (T : zb) (w0 w : World),Ext w0 w -> Hold w (qo D ++ T) ->
  (∀ w',Ext w0 w' -> Hold w' T -> ∃ v,(results fn tmps).run P w' = .ok v w' /\ R (.returned v) w') -> LeavesInM F m P fn tmps R (D.map VL) .returning w
 | [],T,w0,w,he,hw,h => by
  simp only [mV,LeavesInM,LeavesIn];exact h w he (by simpa [qo] using hw)
 | r :: D,T,w0,w,he,hw,h => by
  simp only [iB,LeavesInM];refine ⟨sM,.inl ⟨r,w.putObj r (.deferred none),rfl,?_,?_⟩⟩
  ·exact run_takeDeferred (hw.get r _ (by simp [qo]))
  ·have hlt : r < w.heap.size := hw.lt (b := r) (o := .deferred (some [])) (by simp [qo])
   have hw' : Hold (w.putObj r (.deferred none)) ([(r,.deferred none)] :: (qo D ++ T)) :=
    (Upd.one (S := qo D ++ T)).hold (w := w) (by simpa [qo] using hw) (World.putObj_heap_same hlt) (fun k hk => World.putObj_heap_other hk)
   exact QJ D T w0 _ (he.trans ⟨rfl,rfl,rfl,sM⟩) (hw'.sub sM) h
theorem Yf (vs : LV) : (if h : vs.toArray.size = 1 then vs.toArray[0] else .tuple vs.toArray) = wO vs := by
 match vs with
 | [] => simp [wO]
 | [v] => simp [wO]
 | u :: v :: l => simp [wO]
theorem bg {f : FuncId} {fn : Func} {c : Code} {args : LV} {A : zb} {R : Value -> zb -> Prop} (hf : P.funcs[f]? = some fn) (hb : fn.body = some c)
  (hn : (fn.name != "runtime.NumGoroutine") = true) (hl : args.length <= fn.ntmps) (h : ∀ F : zd, zB P fn.ntmps none c (RetK P fn.results.toList R F) [] (argsL 0 args) (F :: A)) : zh P f args A R := by
 refine ⟨by simp [vH,hf,hb];simpa using hn,fun F w hw => ?_⟩;refine callsIn_of_wp_marks hf hb trivial (wpIn_mono ((h F).out { tmps := args.toArray ++ Array.replicate (fn.ntmps - args.toArray.size) undef,defers := [] } w ?_ hw) ?_)
 ·refine ⟨by simp;omega,fun t v ht => ?_,rfl⟩;have := QL args 0 t v ht;simp only [iI] at this;have hlt := (List.getElem?_eq_some_iff.1 this.2).1;rw [Array.getElem?_append_left (by simpa using hlt)]
  simpa using this.2
 ·intro e a w' hq;obtain ⟨D,L,S,hk,hag,he,hh⟩ := hq
  have fin : (∃ S1,Take (qo D) S S1 /\ resW P fn.results.toList L S1 fun vs => ∃ A',R (wO vs) A' /\ zn (F :: A') S1) ->
    LeavesInM (FW none) 0 P fn a.tmps (ZX w fun v S => ∃ A',S = F :: A' /\ R v A') a.defers .returning w' := by
   rintro ⟨S1,ht,hr⟩;rw [hag.marks];obtain ⟨vs,h1,A',hR,hs⟩ := Vx hag _ _ hr;refine QJ D S1 w w' he (hh.perm ht.perm) fun w'' he' hw'' => ⟨wO vs,?_,wO vs,F :: A',rfl,he',hs.hold hw'',A',rfl,hR⟩
   have e0 : results fn a.tmps = (do let vs <- fn.results.mapM (resOne a.tmps);pure (if h : vs.size = 1 then vs[0] else .tuple vs)) := by
    unfold results
    have e : (fun (x : ResultVar) => (match x with | .tmp t => pure (a.tmps.getD t undef) | .cell b t => do loadVar t (<- asAddr (a.tmps.getD b undef)) : Sem Value)) = resOne a.tmps := by
     funext x;cases x <;> rfl
    rw [<- e]
    rfl
   rw [e0]
   have e1 : ∀ g : ResultVar -> Sem Value,(fn.results.mapM g).run P w'' = ((fn.results.toList.mapM g).run P w'').andThen (fun l w => .ok l.toArray w) := by
    intro g;rw [<- Array.toArray_toList (xs := fn.results)];simp only [List.mapM_toArray]
    cases hx : (fn.results.toList.mapM g).run P w'' <;> simp_all [Result.andThen,Sem.run_map]
   simp only [Sem.run_bind];rw [e1,h1 w'' hw''];simp only [Result.andThen];rw [<- Yf]
   rfl
  cases e with
  | normal => exact fin hk
  | ret => exact fin hk
  | exit id => exact hk.elim
  | goto l => exact hk.elim
  | panic ch => exact hk.elim
  | outgrown => exact hk.elim
end Go.Ost
namespace Go.Ost
open Go
variable {P : Program}
theorem zq {m : Sem Value} {v0 : Value} (h : ∀ w,m.run P w = .ok v0 w) (κ : Value -> Prop) : zk P m κ = κ v0 :=
 propext ⟨fun ⟨v,a,b⟩ => by have e := (a default).symm.trans (h default);cases e;exact b,fun k => ⟨v0,h,k⟩⟩
section ints
variable (t : TypeId) (x y : Operand) (k : IntKind) (a b : Int) (κ : Value -> Prop)
theorem gV : zk P (do eqGuard .add t x y (.int k a) (.int k b);binOp .add t (.int k a) (.int k b)) κ = κ (.int k (k.wrap (a + b))) :=
 zq (fun w => by simp [eqGuard,binOp,Op.intArith]) κ
theorem UT : zk P (do eqGuard .sub t x y (.int k a) (.int k b);binOp .sub t (.int k a) (.int k b)) κ = κ (.int k (k.wrap (a - b))) :=
 zq (fun w => by simp [eqGuard,binOp,Op.intArith]) κ
theorem bin_mul : zk P (do eqGuard .mul t x y (.int k a) (.int k b);binOp .mul t (.int k a) (.int k b)) κ = κ (.int k (k.wrap (a * b))) :=
 zq (fun w => by simp [eqGuard,binOp,Op.intArith]) κ
theorem bin_quo (hb : b ≠ 0) : zk P (do eqGuard .quo t x y (.int k a) (.int k b);binOp .quo t (.int k a) (.int k b)) κ = κ (.int k (k.wrap (a.tdiv b))) :=
 zq (fun w => by simp [eqGuard,binOp,Op.intDiv,hb]) κ
theorem bin_rem (hb : b ≠ 0) : zk P (do eqGuard .rem t x y (.int k a) (.int k b);binOp .rem t (.int k a) (.int k b)) κ = κ (.int k (a.tmod b)) :=
 zq (fun w => by simp [eqGuard,binOp,Op.intDiv,hb]) κ
theorem UV (hb : b ≠ 0) (ha : 0 <= a) : zk P (do eqGuard .quo t x y (.int k a) (.int k b);binOp .quo t (.int k a) (.int k b)) κ = κ (.int k (k.wrap (a / b))) := by
 rw [bin_quo t x y k a b κ hb,Int.tdiv_eq_ediv_of_nonneg ha]
theorem UU (hb : b ≠ 0) (ha : 0 <= a) : zk P (do eqGuard .rem t x y (.int k a) (.int k b);binOp .rem t (.int k a) (.int k b)) κ = κ (.int k (a % b)) := by
 rw [bin_rem t x y k a b κ hb,Int.tmod_eq_emod_of_nonneg ha]
theorem UX : zk P (do eqGuard .eql t x y (.int k a) (.int k b);binOp .eql t (.int k a) (.int k b)) κ = κ (.bool (a == b)) :=
 zq (fun w => by simp [eqGuard,binOp,Op.intCmp]) κ
theorem UW : zk P (do eqGuard .neq t x y (.int k a) (.int k b);binOp .neq t (.int k a) (.int k b)) κ = κ (.bool (a != b)) :=
 zq (fun w => by simp [eqGuard,binOp,Op.intCmp]) κ
theorem gR : zk P (do eqGuard .lss t x y (.int k a) (.int k b);binOp .lss t (.int k a) (.int k b)) κ = κ (.bool (decide (a < b))) :=
 zq (fun w => by simp [eqGuard,binOp,Op.intCmp]) κ
theorem gS : zk P (do eqGuard .leq t x y (.int k a) (.int k b);binOp .leq t (.int k a) (.int k b)) κ = κ (.bool (decide (a <= b))) :=
 zq (fun w => by simp [eqGuard,binOp,Op.intCmp]) κ
theorem gT : zk P (do eqGuard .gtr t x y (.int k a) (.int k b);binOp .gtr t (.int k a) (.int k b)) κ = κ (.bool (decide (b < a))) :=
 zq (fun w => by simp [eqGuard,binOp,Op.intCmp]) κ
theorem gU : zk P (do eqGuard .geq t x y (.int k a) (.int k b);binOp .geq t (.int k a) (.int k b)) κ = κ (.bool (decide (b <= a))) :=
 zq (fun w => by simp [eqGuard,binOp,Op.intCmp]) κ
end ints
theorem un_not (b : Bool) (κ : Value -> Prop) : zk P (Op.unary .not (.bool b)) κ = κ (.bool !b) := zq (fun w => by simp [Op.unary]) κ
theorem un_neg (k : IntKind) (a : Int) (κ : Value -> Prop) : zk P (Op.unary .neg (.int k a)) κ = κ (.int k (k.wrap (0 - a))) := zq (fun w => by simp [Op.unary,Op.intArith]) κ
theorem min_two (ats : Array TypeId) (t : TypeId) (k j : IntKind) (a b : Int) (κ : Value -> Prop) :
  zk P (Builtin.min_ ats t [.int k a,.int j b].toArray) κ = κ (.int k (if b < a then b else a)) := zq (fun w => by simp [Builtin.min_,Builtin.min2]) κ
theorem max_two (ats : Array TypeId) (t : TypeId) (k j : IntKind) (a b : Int) (κ : Value -> Prop) :
  zk P (Builtin.max_ ats t [.int k a,.int j b].toArray) κ = κ (.int k (if a < b then b else a)) := zq (fun w => by simp [Builtin.max_,Builtin.max2]) κ
theorem yv {n : Int} (h1 : -9223372036854775808 <= n) (h2 : n <= 9223372036854775807) : IntKind.i64.wrap n = n := by
 show (if (decide (n % (2 ^ 64 : Int) >= (2 ^ 63 : Int))) = true then n % (2 ^ 64 : Int) - (2 ^ 64 : Int) else n % (2 ^ 64 : Int)) = n
 simp only [decide_eq_true_eq]
 split <;> omega
theorem XF {n : Int} (h1 : 0 <= n) (h2 : n <= 18446744073709551615) : IntKind.u64.wrap n = n := by
 show n % (2 ^ 64 : Int) = n
 omega
theorem yw {n : Int} (h1 : -2147483648 <= n) (h2 : n <= 2147483647) : IntKind.i32.wrap n = n := by
 show (if (decide (n % (2 ^ 32 : Int) >= (2 ^ 31 : Int))) = true then n % (2 ^ 32 : Int) - (2 ^ 32 : Int) else n % (2 ^ 32 : Int)) = n
 simp only [decide_eq_true_eq]
 split <;> omega
theorem wrap_u32 {n : Int} (h1 : 0 <= n) (h2 : n <= 4294967295) : IntKind.u32.wrap n = n := by
 show n % (2 ^ 32 : Int) = n
 omega
theorem wrap_u16 {n : Int} (h1 : 0 <= n) (h2 : n <= 65535) : IntKind.u16.wrap n = n := by
 show n % (2 ^ 16 : Int) = n
 omega
theorem WY {n : Int} (h1 : 0 <= n) (h2 : n <= 255) : IntKind.u8.wrap n = n := by
 show n % (2 ^ 8 : Int) = n
 omega
class TInt (P : Program) (t : TypeId) (k : outParam IntKind) : Prop where
 und : P.underlying t = some (.int k)
class TStr (P : Program) (t : TypeId) : Prop where
 und : P.underlying t = some .string
class xz (P : Program) (t : TypeId) (e : outParam TypeId) : Prop where
 und : P.underlying t = some (.slice e)
class TStruct (P : Program) (t : TypeId) (fs : outParam (Array Field)) : Prop where
 und : P.underlying t = some (.struct fs)
class TArr (P : Program) (t : TypeId) (n : outParam Nat) (e : outParam TypeId) : Prop where
 und : P.underlying t = some (.array n e)
class TPtr (P : Program) (t : TypeId) (e : outParam TypeId) : Prop where
 und : P.underlying t = some (.pointer e)
class TMap (P : Program) (t : TypeId) (k e : outParam TypeId) : Prop where
 und : P.underlying t = some (.map k e)
class TBool (P : Program) (t : TypeId) : Prop where
 und : P.underlying t = some .bool
def gl (P : Program) (s i off ft : Nat) : Bool :=
 match P.underlying s with
 | some (.struct fs) =>
  match fs[i]? with
  | some f => f.offset == off && f.type == ft && (match P.info? ft with | some j => j.size != 0 | none => false)
  | none => false
 | _ => false
class zl (P : Program) (s i : Nat) (off ft : outParam Nat) : Prop where
 ok : gl P s i off ft = true
class zm (P : Program) (t : TypeId) (z : outParam Value) (s by_ : outParam Nat) : Prop where
 info : (P.info? t).map (fun i => (i.zero,i.size,i.bytes)) = some (some z,s,by_)
class xM (P : Program) (t : TypeId) : Prop where
 und : (match P.underlying t with | some (.struct _) | some (.array _ _) | none => false | _ => true) = true
class jG (P : Program) (t : TypeId) : Prop where
 und : (match P.underlying t with | some (.struct _) | some (.array _ _) => true | _ => false) = true
variable {t e : TypeId} {z : Value} {s by_ : Nat}
theorem zL {d : TypeDesc} (h : P.underlying t = some d) (w : World) : (underlying t).run P w = .ok d w := by
 simp [underlying,program,Sem.run_bind,Sem.run,h,Result.andThen]
theorem qi (h : (P.info? t).map (fun i => (i.zero,i.size,i.bytes)) = some (some z,s,by_)) :
  ∃ i,P.info? t = some i /\ i.zero = some z /\ i.size = s /\ i.bytes = by_ := by
 cases hi : P.info? t with
 | none => simp [hi] at h
 | some i => simp [hi] at h;exact ⟨i,rfl,h⟩
theorem zE (h : zm P t z s by_) (w : World) : (sizeOf t).run P w = .ok s w := by
 obtain ⟨i,hi,_,h2,_⟩ := qi h.info
 simp [sizeOf,typeInfo,program,Sem.run_bind,Sem.run,hi,h2,Result.andThen]
theorem xe (h : zm P t z s by_) (w : World) : (zeroValue t).run P w = .ok z w := by
 obtain ⟨i,hi,h1,_,_⟩ := qi h.info
 simp [zeroValue,typeInfo,program,Sem.run_bind,Sem.run,hi,h1,Result.andThen]
theorem zD (h : xM P t) (w : World) : (isAgg t).run P w = .ok false w := by
 have := h.und
 cases hu : P.underlying t with
 | none => simp [hu] at this
 | some d =>
  rw [isAgg,Sem.run_bind,zL hu];rw [hu] at this
  cases d <;> simp_all [Result.andThen]
theorem kW (h : jG P t) (w : World) : (isAgg t).run P w = .ok true w := by
 have := h.und
 cases hu : P.underlying t with
 | none => simp [hu] at this
 | some d =>
  rw [isAgg,Sem.run_bind,zL hu];rw [hu] at this
  cases d <;> simp_all [Result.andThen]
theorem qv {src dst : TypeId} {j k : IntKind} {i : IntKind} [hs : TInt P src j] [hd : TInt P dst k] (n : Int) (κ : Value -> Prop) :
  zk P (convert src dst (.int i n)) κ = κ (.int k (k.wrap n)) :=
 zq (fun w => by simp [convert,Sem.run_bind,zL hs.und,zL hd.und,Result.andThen,Conv.intToInt]) κ
theorem xZ (b o n : Nat) : (Addr.mk b o none).add n = ⟨b,o + n,none⟩ := by
 unfold Addr.add;split
 ·subst_vars;simp
 ·rfl
theorem Xq {w : World} {b o : Nat} {cs : Array Value} {m : Nat × Nat} (h : w.heap[b]? = some (.cells cs e m)) : w.cell? ⟨b,o,none⟩ = cs[o]? := by
 simp [World.cell?,h]
theorem gc {w : World} {b o : Nat} {cs : Array Value} {lo hi : Nat} (h : w.heap[b]? = some (.cells cs e (lo,hi))) : w.frozen? ⟨b,o,none⟩ = (decide (lo <= o) && decide (o < hi)) := by
 simp [World.frozen?,h]
theorem set_heap {w : World} {b o : Nat} {cs : Array Value} {m : Nat × Nat} (h : w.heap[b]? = some (.cells cs e m)) (v : Value) :
  (w.setCell ⟨b,o,none⟩ v).heap[b]? = some (.cells (cs.setIfInBounds o v) e m) /\ ∀ k,k ≠ b -> (w.setCell ⟨b,o,none⟩ v).heap[k]? = w.heap[k]? := by
 simp only [World.setCell,Array.getElem?_modify];refine ⟨by simp [h],fun k hk => by rw [if_neg (Ne.symm hk)]⟩
theorem OI {w : World} {a : Addr} {v : Value} (h : w.cell? a = some v) : (load a).run P w = .ok v w := by simp [load,Sem.run,h]
theorem wy {w : World} {b : Nat} {cs : Array Value} {m : Nat × Nat} (h : w.heap[b]? = some (.cells cs e m)) (o : Nat) : ∀ (n i : Nat) (acc : Array Value),o + i + n <= cs.size ->
  (loadCellsFrom ⟨b,o,none⟩ i n acc).run P w = .ok (acc ++ cs.extract (o + i) (o + i + n)) w
 | 0,i,acc,_ => by simp [loadCellsFrom];omega
 | n + 1,i,acc,hle => by
  have hlt : o + i < cs.size := oM;rw [loadCellsFrom,xZ,Sem.run_bind,OI (v := cs[o + i]) (by rw [Xq h];simp [hlt])];simp only [Result.andThen];rw [wy h o n (i + 1) _ oM]
  congr 1
  rw [show o + (i + 1) = o + i + 1 from oM,show o + i + 1 + n = o + i + (n + 1) from oM]
  apply lS
  simp only [Array.toList_append,Array.toList_push,Array.toList_extract,aN,List.extract_eq_take_drop]
  congr 1
  rw [show o + i + (n + 1) - (o + i) = n + 1 from oM,show o + i + (n + 1) - (o + i + 1) = n from oM];rw [iH (l := cs.toList) (i := o + i) (by simpa using hlt),List.take_succ_cons]
  simp
theorem xf {S : zb} {κ : Value -> Prop} {b o : Nat} {cs : Array Value} {m : Nat × Nat} {v : Value} [hf : xM P t] (hl : Lies b (.cells cs e m) S) (hv : cs[o]? = some v) (k : κ v) :
  xG P (Instr.loadAt t (.pointer (some ⟨b,o,none⟩))) S κ := by
 refine ⟨v,fun w hw => ?_,k⟩;have hc := hl.get hw
 simp [Instr.loadAt,Instr.sureAddr,loadVar,Sem.run_bind,zD hf,Result.andThen,OI (P := P) (w := w) (a := ⟨b,o,none⟩) (v := v) (by rw [Xq hc];exact hv)]
theorem ji {S : zb} {κ : Value -> Prop} {b : Nat} {m : Nat × Nat} {v : Value} [hf : xM P t] (hl : Lies b (.cells #[v] e m) S) (k : κ v) :
  xG P (Instr.loadAt t (pT b)) S κ := xf hl rfl k
theorem yD {S : zb} {κ : Value -> Prop} {b o : Nat} {cs : Array Value} {m : Nat × Nat} [hf : jG P t] [hs : zm P t z s by_] (hl : Lies b (.cells cs e m) S) (hv : o + s <= cs.size)
  (k : κ (.agg (cs.extract o (o + s)))) : xG P (Instr.loadAt t (.pointer (some ⟨b,o,none⟩))) S κ := by
 refine ⟨_,fun w hw => ?_,k⟩;have hc := hl.get hw
 simp [Instr.loadAt,Instr.sureAddr,loadVar,Sem.run_bind,kW hf,zE hs,Result.andThen,loadCells,wy (P := P) hc o s 0 #[] oM]
def jp (cs : Array Value) (o : Nat) : LV -> Array Value
 | [] => cs
 | v :: l => jp (cs.setIfInBounds o v) (o + 1) l
theorem xP : ∀ (l : LV) (cs : Array Value) (o : Nat),(jp cs o l).size = cs.size
 | [],_,_ => rfl
 | v :: l,cs,o => by simp [jp,xP l]
def Value.cell1 : Value -> Prop
 | .agg _ | .tuple _ => False
 | _ => True
theorem dV {w : World} {a : Addr} {v u : Value} (hv : Value.cell1 v) (h : w.cell? a = some u) (hf : w.frozen? a = false) : (store a v).run P w = .ok () (w.setCell a v) := by
 cases v <;> first | exact hv.elim | simp [store,Sem.run,h,hf]
theorem ext_set (w : World) (a : Addr) (v : Value) : Ext w (w.setCell a v) := ⟨rfl,rfl,rfl,by simp [World.setCell]⟩
theorem jk {b o : Nat} {lo hi : Nat} : ∀ (l : LV) (i : Nat) (w : World) (cs : Array Value),w.heap[b]? = some (.cells cs e (lo,hi)) -> (∀ v ∈ l,Value.cell1 v) -> o + i + l.length <= cs.size -> (hi <= lo ∨ cs.size <= lo) ->
  ∃ w',(storeCells ⟨b,o,none⟩ l i).run P w = .ok () w' /\ Ext w w' /\ w'.heap[b]? = some (.cells (jp cs (o + i) l) e (lo,hi)) /\ ∀ k,k ≠ b -> w'.heap[k]? = w.heap[k]?
 | [],i,w,cs,h,_,_,_ => ⟨w,rfl,Ext.refl w,h,fun _ _ => rfl⟩
 | v :: l,i,w,cs,h,hv,hle,hm => by
  have hlt : o + i < cs.size := by simp at hle;omega
  have hs := set_heap (o := o + i) h v;obtain ⟨w',h1,h2,h3,h4⟩ := jk (o := o) l (i + 1) (w.setCell ⟨b,o + i,none⟩ v) (cs.setIfInBounds (o + i) v) hs.1 (fun u hu => hv u (aK _ hu)) (by simp at hle ⊢;omega) (by simpa using hm);refine ⟨w',?_,(ext_set _ _ _).trans h2,h3,fun k hk => (h4 k hk).trans (hs.2 k hk)⟩;rw [storeCells,xZ,Sem.run_bind,dV (u := cs[o + i]) (hv v (aA ..)) (by rw [Xq h];simp [hlt]) (by rw [gc h];simp;omega)];exact h1
theorem xq {S S' : zb} {κ : zb -> Prop} {b o : Nat} {cs : Array Value} {v : Value} [hs : zm P t z 1 by_] (hc : Value.cell1 v) (hu : Upd b (.cells cs e (0,0)) (.cells (cs.setIfInBounds o v) e (0,0)) S S')
  (ho : o < cs.size) (k : κ S') : jI P (Instr.storeAt t (.pointer (some ⟨b,o,none⟩)) v) S κ := by
 refine ⟨fun w hw => ?_⟩;have hg := hu.get hw;obtain ⟨w',h1,h2,h3,h4⟩ := jk (P := P) (b := b) (o := o) [v] 0 w cs hg (fun u hm => by simp at hm;subst hm;exact hc) (by simp;omega) (.inl (aR _));refine ⟨w',S',?_,h2,hu.hold hw h3 h4,k⟩;have hcs : v.cells = #[v] := by cases v <;> first | exact hc.elim | rfl
 simp [Instr.storeAt,Instr.sureAddr,storeVar,Sem.run_bind,zE hs,Result.andThen,hcs,h1]
theorem xJ {S S' : zb} {κ : zb -> Prop} {b : Nat} {u v : Value} [hs : zm P t z 1 by_] (hc : Value.cell1 v) (hu : Upd b (.cells #[u] e (0,0)) (.cells #[v] e (0,0)) S S')
  (k : κ S') : jI P (Instr.storeAt t (pT b) v) S κ := xq (cs := #[u]) hc hu sM k
theorem Zm {S S' : zb} {κ : zb -> Prop} {b o : Nat} {cs : Array Value} {vs : Array Value} [hs : zm P t z s by_] (hz : vs.size = s) (hc : ∀ v ∈ vs.toList,Value.cell1 v)
  (hu : Upd b (.cells cs e (0,0)) (.cells (jp cs o vs.toList) e (0,0)) S S') (ho : o + s <= cs.size) (k : κ S') : jI P (Instr.storeAt t (.pointer (some ⟨b,o,none⟩)) (.agg vs)) S κ := by
 refine ⟨fun w hw => ?_⟩;have hg := hu.get hw;obtain ⟨w',h1,h2,h3,h4⟩ := jk (P := P) (b := b) (o := o) vs.toList 0 w cs hg hc (by simp [hz];omega) (.inl (aR _));refine ⟨w',S',?_,h2,hu.hold hw h3 h4,k⟩
 simp [Instr.storeAt,Instr.sureAddr,storeVar,Sem.run_bind,zE hs,Result.andThen,Value.cells,h1,hz]
theorem wJ {w w' : World} {o : Obj} (h : w' = { w with heap := w.heap.push o }) : Ext w w' := by subst h;exact ⟨rfl,rfl,rfl,sM⟩
theorem zC {S : zb} {κ : Value -> zb -> Prop} [hs : zm P t z s by_] (k : ∀ b : Nat,κ (pT b) ([(b,.cells z.cells t (0,0))] :: S)) :
  ValW P (Instr.alloc t true (.tuple #[])) S κ := by
 refine ⟨fun w hw => ?_⟩;refine ⟨.pointer (some ⟨w.heap.size,0,none⟩),{ w with heap := w.heap.push (.cells z.cells t) },_,?_,wJ rfl,hw.new rfl,k _⟩
 simp [Instr.alloc,Sem.run_bind,xe hs,Result.andThen,newVar,newRow,newObj,Sem.run]
theorem Xr {S : zb} {κ : Value -> zb -> Prop} {v : Value} (k : ∀ b : Nat,κ (pT b) ([(b,.cells v.cells t (0,0))] :: S)) :
  ValW P (Instr.box t v) S κ := by
 refine ⟨fun w hw => ?_⟩;refine ⟨.pointer (some ⟨w.heap.size,0,none⟩),{ w with heap := w.heap.push (.cells v.cells t) },_,?_,wJ rfl,hw.new rfl,k _⟩
 simp [Instr.box,Sem.run_bind,Result.andThen,newVar,newRow,newObj,Sem.run]
theorem JT {s i off ft : Nat} (h : gl P s i off ft = true) :
  ∃ fs f,P.underlying s = some (.struct fs) /\ fs[i]? = some f /\ f.offset = off /\ f.type = ft /\ ∃ j,P.info? ft = some j /\ j.size ≠ 0 := by
 unfold gl at h
 split at h
 ·rename_i fs hu
  split at h
  ·rename_i f hf
   simp only [aM,beq_iff_eq] at h;obtain ⟨⟨h1,h2⟩,h3⟩ := h
   split at h3
   ·rename_i j hj
    exact ⟨fs,f,hu,hf,h1,h2,j,hj,by simpa using h3⟩
   ·cases h3
  ·cases h
 ·cases h
theorem cx {s i off ft b o : Nat} {κ : Value -> Prop} [h : zl P s i off ft] :
  zk P (Instr.fieldAt s (.pointer (some ⟨b,o,none⟩)) i) κ = κ (.pointer (some ⟨b,o + off,none⟩)) :=
 zq (fun w => by
  obtain ⟨fs,f,hu,hf,h1,h2,j,hj,hz⟩ := JT h.ok
  have hs : (sizeOf f.type).run P w = .ok j.size w := by
   rw [h2];simp [sizeOf,typeInfo,program,Sem.run_bind,Sem.run,hj,Result.andThen]
  simp only [Instr.fieldAt,Sem.run_bind,zL hu,Result.andThen,hf,Instr.sureAddr,Sem.run_pure,fieldPlace,hs];rw [if_neg hz]
  simp [xZ,h1,Result.andThen]) κ
theorem ZM {t e : TypeId} (h : TPtr P t e) (d : Nat) (a : OA) (w : World) : (Op.equalIn (d + 1) t (.pointer a) (.pointer none)).run P w = .ok a.isNone w := by
 rw [Op.equalIn,Sem.run_bind,zL h.und]
 cases a <;> rfl
theorem QT {t : TypeId} (h : TBool P t) (d : Nat) (a b : Bool) (w : World) : (Op.equalIn (d + 1) t (.bool a) (.bool b)).run P w = .ok (a == b) w := by
 rw [Op.equalIn,Sem.run_bind,zL h.und]
 rfl
theorem nil_eql {t e : TypeId} {x y : Operand} {κ : Value -> Prop} [h : TPtr P t e] (a : OA) :
  zk P (do eqGuard .eql t x y (.pointer a) (.pointer none);binOp .eql t (.pointer a) (.pointer none)) κ = κ (.bool a.isNone) :=
 zq (fun w => by
  have e : (do eqGuard .eql t x y (.pointer a) (.pointer none);binOp .eql t (.pointer a) (.pointer none) : Sem Value) = (do pure (.bool (<- Op.equalIn (9999 + 1) t (.pointer a) (.pointer none)))) := by
   cases a <;> rfl
  rw [e,Sem.run_bind,ZM h];rfl) κ
theorem nil_neq {t e : TypeId} {x y : Operand} {κ : Value -> Prop} [h : TPtr P t e] (a : OA) :
  zk P (do eqGuard .neq t x y (.pointer a) (.pointer none);binOp .neq t (.pointer a) (.pointer none)) κ = κ (.bool a.isSome) :=
 zq (fun w => by
  have e : (do eqGuard .neq t x y (.pointer a) (.pointer none);binOp .neq t (.pointer a) (.pointer none) : Sem Value) = (do pure (.bool (!(<- Op.equalIn (9999 + 1) t (.pointer a) (.pointer none))))) := by
   cases a <;> rfl
  rw [e,Sem.run_bind,ZM h];cases a <;> rfl) κ
theorem bool_eql {t : TypeId} {x y : Operand} {κ : Value -> Prop} [h : TBool P t] (a b : Bool) :
  zk P (do eqGuard .eql t x y (.bool a) (.bool b);binOp .eql t (.bool a) (.bool b)) κ = κ (.bool (a == b)) :=
 zq (fun w => by
  have e : (do eqGuard .eql t x y (.bool a) (.bool b);binOp .eql t (.bool a) (.bool b) : Sem Value) = (do pure (.bool (<- Op.equalIn (9999 + 1) t (.bool a) (.bool b)))) := rfl;rw [e,Sem.run_bind,QT h];rfl) κ
theorem bool_neq {t : TypeId} {x y : Operand} {κ : Value -> Prop} [h : TBool P t] (a b : Bool) :
  zk P (do eqGuard .neq t x y (.bool a) (.bool b);binOp .neq t (.bool a) (.bool b)) κ = κ (.bool (a != b)) :=
 zq (fun w => by
  have e : (do eqGuard .neq t x y (.bool a) (.bool b);binOp .neq t (.bool a) (.bool b) : Sem Value) = (do pure (.bool (!(<- Op.equalIn (9999 + 1) t (.bool a) (.bool b))))) := rfl;rw [e,Sem.run_bind,QT h];rfl) κ
theorem fK {ats : Array TypeId} {t u e : TypeId} {a : OA} {n c : Nat} {κ : Value -> Prop} (ha : ats[0]? = some t) [h : xz P t e] :
  zk P (Builtin.len_ ats u #[.slice a n c]) κ = κ (.int .i64 n) :=
 zq (fun w => by simp [Builtin.len_,ha,Sem.run_bind,zL h.und,Result.andThen,goInt]) κ
theorem bZ {ats : Array TypeId} {t u : TypeId} {s : ByteArray} {κ : Value -> Prop} (ha : ats[0]? = some t) [h : TStr P t] :
  zk P (Builtin.len_ ats u #[.string s]) κ = κ (.int .i64 s.size) :=
 zq (fun w => by simp [Builtin.len_,ha,Sem.run_bind,zL h.und,Result.andThen,goInt]) κ
theorem ce {t u e : TypeId} {a : OA} {n c : Nat} {κ : Value -> Prop} [h : xz P t e] : zk P (Builtin.len_ #[t] u #[.slice a n c]) κ = κ (.int .i64 n) := fK (h := h) rfl
theorem Ur {t u : TypeId} {s : ByteArray} {κ : Value -> Prop} [h : TStr P t] : zk P (Builtin.len_ #[t] u #[.string s]) κ = κ (.int .i64 s.size) := bZ (h := h) rfl
theorem Xl {t e : TypeId} {z : Value} {s by_ b o n c : Nat} {k : IntKind} {i : Int} {κ : Value -> Prop} [h : xz P t e] [hs : zm P e z s by_] (h0 : 0 <= i) (h1 : i < n) :
  zk P (Instr.indexAt t (.slice (some ⟨b,o,none⟩) n c) (.int k i)) κ = κ (.pointer (some ⟨b,o + i.toNat * s,none⟩)) :=
 zq (fun w => by
  simp [Instr.indexAt,asIntOf,Sem.run_bind,zL h.und,Result.andThen,zE hs,h0,h1,xZ]) κ
theorem arr_addr {t e n : Nat} {z : Value} {s by_ b o : Nat} {k : IntKind} {i : Int} {κ : Value -> Prop} [h : TArr P t n e] [hs : zm P e z s by_] (h0 : 0 <= i) (h1 : i < n) :
  zk P (Instr.indexAt t (.pointer (some ⟨b,o,none⟩)) (.int k i)) κ = κ (.pointer (some ⟨b,o + i.toNat * s,none⟩)) :=
 zq (fun w => by
  simp [Instr.indexAt,asIntOf,Sem.run_bind,zL h.und,Result.andThen,zE hs,h0,h1,xZ,Instr.sureAddr]) κ
theorem gX {t e n : Nat} {z : Value} {by_ : Nat} {k : IntKind} {i : Int} {cs : Array Value} {v : Value} {κ : Value -> Prop} [h : TArr P t n e] [hs : zm P e z 1 by_] [hf : xM P e] (h0 : 0 <= i) (h1 : i < n) (hv : cs[i.toNat]? = some v) :
  zk P (Instr.index t (.agg cs) (.int k i)) κ = κ v :=
 zq (fun w => by
  simp [Instr.index,asIntOf,Sem.run_bind,zL h.und,Result.andThen,zE hs,h0,h1,part,zD hf,hv]) κ
theorem Qd {t e n : Nat} {z z' : Value} {s by_ s' by' : Nat} {ps : List (Nat × Value)} {cs : Array Value} {κ : Value -> Prop} [h : TArr P t n e] [hs : zm P t z s by_] [he : zm P e z' s' by']
  (hf : Instr.fill (fun i => some (i * s',s')) z.cells ps = some cs) : zk P (Instr.build t ps.toArray) κ = κ (.agg cs) :=
 zq (fun w => by
  simp [Instr.build,Sem.run_bind,zL h.und,xe hs,zE he,Result.andThen,hf]) κ
def eR (P : Program) (t : TypeId) (pl : List (Nat × Nat)) : Bool :=
 match P.underlying t with
 | some (.struct fs) => fs.toList.map (fun f => (f.offset,(P.info? f.type).map (·.size))) == pl.map fun p => (p.1,some p.2)
 | _ => false
class xi (P : Program) (t : TypeId) (pl : outParam (List (Nat × Nat))) : Prop where
 ok : eR P t pl = true
theorem zX {t : Nat} {z : Value} {s by_ : Nat} {pl : List (Nat × Nat)} {ps : List (Nat × Value)} {cs : Array Value} {κ : Value -> Prop} [h : xi P t pl] [hs : zm P t z s by_]
  (hf : Instr.fill (pl[·]?) z.cells ps = some cs) : zk P (Instr.build t ps.toArray) κ = κ (.agg cs) := by
 refine zq (fun w => ?_) κ;have hk := h.ok;unfold eR at hk
 split at hk
 ·rename_i fs hu
  have hk := eq_of_beq hk
  have key : ∀ (g : Field -> Sem (Nat × Nat)),(∀ f s,(P.info? f.type).map (·.size) = some s -> (g f).run P w = .ok (f.offset,s) w) -> ∀ (l : List Field) (pl : List (Nat × Nat)),
    l.map (fun f => (f.offset,(P.info? f.type).map (·.size))) = pl.map (fun p => (p.1,some p.2)) -> (l.mapM g).run P w = .ok pl w := by
   intro g hg l
   induction l with
   | nil => intro pl h;cases pl with
    | nil => rfl
    | cons p pl => simp at h
   | cons f l ih => intro pl h;cases pl with
    | nil => simp at h
    | cons p pl =>
     simp only [iB,List.cons.injEq,Prod.mk.injEq] at h;obtain ⟨⟨h1,h2⟩,h3⟩ := h;rw [List.mapM_cons,Sem.run_bind,hg f p.2 h2];simp only [Result.andThen];rw [Sem.run_bind,ih pl h3];simp only [Result.andThen];rw [h1];rfl
  have hm : ∀ (g : Field -> Sem (Nat × Nat)),(∀ f s,(P.info? f.type).map (·.size) = some s -> (g f).run P w = .ok (f.offset,s) w) -> (fs.mapM g).run P w = .ok pl.toArray w := by
   intro g hg;rw [Array.mapM_eq_mapM_toList]
   show ((fs.toList.mapM g >>= fun x => pure x.toArray : Sem (Array (Nat × Nat)))).run P w = _
   rw [Sem.run_bind,key g hg fs.toList pl hk]
   rfl
  unfold Instr.build;rw [Sem.run_bind,xe hs];simp only [Result.andThen];rw [Sem.run_bind,zL hu];simp only [Result.andThen]
  rw [Sem.run_bind,hm _ (fun f s hfs => by
   rw [Option.map_eq_some_iff] at hfs;obtain ⟨i,hi,hi2⟩ := hfs
   simp [sizeOf,typeInfo,program,Sem.run_bind,Sem.run,hi,hi2,Result.andThen])]
  simp only [Result.andThen];have e : (fun i : Nat => pl.toArray[i]?) = (fun i : Nat => pl[i]?) := by funext i;simp
  rw [e,hf]
  rfl
 ·cases hk
end Go.Ost
namespace Go.Ost
open Go
variable {P : Program}
def Rd (s : Nat) (S : zb) (a : OA) (len : Nat) (us : LV) : Prop :=
 us.length = len * s /\ (us ≠ [] -> ∃ b o cs e m,a = some ⟨b,o,none⟩ /\ Lies b (.cells cs e m) S /\ ∀ i,i < us.length -> cs[o + i]? = us[i]?)
def Soft (n : Nat) (m : Nat × Nat) : Prop := m.1 = m.2 ∨ n <= m.1
theorem Soft.or {n : Nat} {m : Nat × Nat} (h : Soft n m) : m.2 <= m.1 ∨ n <= m.1 := h.imp (fun e => Nat.le_of_eq e.symm) id
def Own (s : Nat) (e : TypeId) (C : zd) (a : OA) (len cap : Nat) (us : LV) : Prop :=
 len <= cap /\ cap <= maxLen /\ us.length = len * s /\ ((cap = 0 /\ C = []) ∨ ∃ b o cs m,a = some ⟨b,o,none⟩ /\ C = [(b,.cells cs e m)] /\ Soft cs.size m /\ o + cap * s <= cs.size /\ ∀ i,i < us.length -> cs[o + i]? = us[i]?)
theorem Lies.of_mem {b : Nat} {o : Obj} {C : zd} (h : (b,o) ∈ C) : ∀ {S : zb},C ∈ S -> Lies b o S
 | [],hC => by cases hC
 | D :: S,hC => by
  rcases List.mem_cons.1 hC with rfl | hC
  ·exact .here h
  ·exact .next (Lies.of_mem h hC)
theorem Own.rd {s : Nat} {e : TypeId} {C : zd} {a : OA} {len cap : Nat} {us : LV} (h : Own s e C a len cap us) {S : zb} (hC : C ∈ S) : Rd s S a len us := by
 obtain ⟨h1,_,h3,h4⟩ := h;refine ⟨h3,fun hne => ?_⟩
 rcases h4 with ⟨h5,_⟩ | ⟨b,o,cs,m,rfl,rfl,_,_,h6⟩
 ·have : len = 0 := oM;subst this;rw [Nat.zero_mul] at h3;exact absurd (List.length_eq_zero_iff.1 h3) hne
 ·exact ⟨b,o,cs,e,_,rfl,Lies.of_mem (List.mem_singleton.2 rfl) hC,h6⟩
theorem Rd.next {s : Nat} {S : zb} {a : OA} {len : Nat} {us : LV} (h : Rd s S a len us) (C : zd) : Rd s (C :: S) a len us :=
 ⟨h.1,fun hne => let ⟨b,o,cs,e,m,h1,h2,h3⟩ := h.2 hne;⟨b,o,cs,e,m,h1,h2.next,h3⟩⟩
theorem Rd.nil {s : Nat} {S : zb} {a : OA} : Rd s S a 0 [] := ⟨sM,fun h => absurd rfl h⟩
theorem yB {s : Nat} {S : zb} {a : OA} {len c : Nat} {us : LV} (h : Rd s S a len us) {w : World} (hw : Hold w S) :
  (Builtin.firstCells s len (.slice a len c)).run P w = .ok us.toArray w := by
 obtain ⟨h1,h2⟩ := h
 by_cases hne : us = []
 ·subst hne;have : len * s = 0 := by simpa using h1.symm
  cases a with
  | none => rfl
  | some a => simp [Builtin.firstCells,this,loadCells,loadCellsFrom]
 ·obtain ⟨b,o,cs,e,m,rfl,hl,hc⟩ := h2 hne;have hb := hl.get hw
  have hsz : o + us.length <= cs.size := by
   have hpos : 0 < us.length := List.length_pos_iff.2 hne;have := hc (us.length - 1) oM;rw [aE oM] at this;have := (Array.getElem?_eq_some_iff.1 this).1;omega
  simp only [Builtin.firstCells,loadCells];rw [wy (P := P) hb o (len * s) 0 #[] (by rw [<- h1];omega),<- h1]
  congr 1
  apply Array.ext_getElem?
  intro i;simp only [mT,Array.empty_append];rw [Array.getElem?_extract]
  by_cases hi : i < us.length
  ·rw [if_pos oM,hc i hi];simp
  ·rw [if_neg oM];simp;omega
theorem kR : ∀ (l : LV) (cs : Array Value) (o i : Nat),o + l.length <= cs.size -> (jp cs o l)[i]? = if o <= i /\ i < o + l.length then l[i - o]? else cs[i]?
 | [],cs,o,i,_ => by rw [if_neg (by rintro ⟨h1,h2⟩;simp at h2;omega)];rfl
 | v :: l,cs,o,i,h => by
  simp only [aH] at h ⊢;rw [jp,kR l _ (o + 1) i (by simp;omega)]
  by_cases h1 : o + 1 <= i /\ i < o + 1 + l.length
  ·rw [if_pos h1,if_pos oM,show i - o = i - (o + 1) + 1 from oM,iD]
  ·rw [if_neg h1]
   by_cases h2 : i = o
   ·subst h2;rw [if_pos oM,Array.getElem?_setIfInBounds_self];rw [if_pos oM];simp
   ·rw [if_neg oM,lN oM]
theorem zu {t t2 ty e e2 : TypeId} {z : Value} {s by_ : Nat} [ht : xz P t e] [ht2 : xz P t2 e2] [hs : zm P e z s by_] (hz : z.cells.size = s) (h0 : 0 < s) {S G : zb} {κ : Value -> zb -> Prop} {C : zd}
  {a b : OA} {len cap n c : Nat} {us vs : LV} (ho : Own s e C a len cap us) (hC : C = [] /\ G = S ∨ Pick C S G) (hr : Rd s S b n vs) (h1 : ∀ v ∈ vs,Value.cell1 v)
  (hm : len + n <= maxLen) (hb : (len + n) * by_ <= 140737488355328)
  (k : ∀ C' a' cap',Own s e C' a' (len + n) cap' (us ++ vs) -> κ (.slice a' (len + n) cap') (C' :: G)) : ValW P (Builtin.append_ #[t,t2] ty #[.slice a len cap,.slice b n c]) S κ := by
 refine ⟨fun w hw => ?_⟩
 have hCG : Hold w (C :: G) := by
  rcases hC with ⟨rfl,rfl⟩ | hp
  ·exact hw.perm sM
  ·exact hw.perm hp.perm
 have hrd : Rd s (C :: G) a len us := ho.rd (aA ..);have f1 := fun (w : World) hw => yB (P := P) (c := cap) hrd (w := w) hw
 have f2 := fun (w : World) hw => yB (P := P) (c := c) hr (w := w) hw
 have hlv := hr.1;obtain ⟨i,hi,hz1,hsz,hby⟩ := qi hs.info;obtain ⟨hle,hmax,hlen,hcase⟩ := ho
 by_cases hroom : len + n <= cap
 ·rcases hcase with ⟨rfl,rfl⟩ | ⟨b',o,cs,m,rfl,rfl,hsoft,hbig,hcs⟩
  ·obtain rfl : len = 0 := oM;obtain rfl : n = 0 := oM;obtain rfl : us = [] := List.length_eq_zero_iff.1 (by simpa using hlen);obtain rfl : vs = [] := List.length_eq_zero_iff.1 (by simpa using hlv);refine ⟨.slice a 0 0,w,_,?_,Ext.refl w,hCG,k [] a 0 ⟨aR _,lW _,sM,.inl ⟨rfl,rfl⟩⟩⟩
   cases a <;> simp [Builtin.append_,Sem.run_bind,zL ht.und,zL ht2.und,zE hs,Result.andThen,Builtin.lenOf,f2 w hw,storeCells]
  ·have hg : w.heap[b']? = some (.cells cs e m) := hCG.get _ _ sM
   obtain ⟨w',q1,q2,q3,q4⟩ := jk (P := P) (b := b') (o := o + len * s) vs 0 w cs hg h1 (by
    have : (len + n) * s <= cap * s := lM s hroom;rw [lO] at this;omega) hsoft.or
   refine ⟨.slice (some ⟨b',o,none⟩) (len + n) cap,w',_,?_,q2,(Upd.one (S := G)).hold hCG q3 q4,k _ _ cap ⟨hroom,hmax,?_,.inr ⟨b',o,_,m,rfl,rfl,by rw [xP];exact hsoft,?_,?_⟩⟩⟩
   ·simp [Builtin.append_,Sem.run_bind,zL ht.und,zL ht2.und,zE hs,Result.andThen,Builtin.lenOf,f2 w hw,hroom,xZ,q1]
   ·rw [aB,hlen,hlv,lO]
   ·rw [xP];exact hbig
   ·intro j hj;rw [aB] at hj;have hmul : (len + n) * s <= cap * s := lM s hroom;rw [lO] at hmul;rw [kR _ _ _ _ oM]
    by_cases hlt : j < us.length
    ·rw [if_neg oM,hcs j hlt,lP hlt]
    ·rw [if_pos oM,lD oM]
     congr 1;omega
 ·have hge := grownCap_ge w (len + n) cap e;have hcm := grownCap_le_maxLen w (len + n) cap e hm;have hn : ¬ (len + n <= cap) := hroom;have h63' : ¬ (9223372036854775807 < ((len : Int) + (n : Int))) := by simp only [maxLen] at hm;omega
  have h48' : ¬ (281474976710656 < Builtin.nextslicecap (len + n) cap * i.bytes) := by
   rw [hby];have := growslice_fits (by omega : cap < len + n) hb;omega
  have f1' := f1 w.drew ⟨hCG.nd,hCG.get⟩;have f2' := f2 w.drew ⟨hw.nd,hw.get⟩;obtain ⟨cells,hcells⟩ : ∃ cells : Array Value,cells = us.toArray ++ vs.toArray ++ Builtin.zeroCells z.cells (grownCap w (len + n) cap e - (len + n)) := ⟨_,rfl⟩;refine ⟨.slice (some ⟨w.heap.size,0,none⟩) (len + n) (grownCap w (len + n) cap e),w.drew.alloc (.cells cells e),[(w.heap.size,.cells cells e (0,0))] :: G,?_,⟨rfl,rfl,rfl,sM⟩,?_,k _ _ _ ⟨hge,hcm,?_,.inr ⟨_,0,cells,(0,0),rfl,rfl,.inl rfl,?_,?_⟩⟩⟩
  ·rw [hcells]
   simp [Builtin.append_,Sem.run_bind,zL ht.und,zL ht2.und,zE hs,xe hs,Result.andThen,typeInfo,program,Sem.run,hi,hn,h63',h48',Question.forced,Builtin.lenOf,f1',f2',newRow,newObj,grownCap,choose]
   generalize Builtin.zeroCells _ _ = X;rw [show us.toArray ++ (vs.toArray ++ X) = (us ++ vs).toArray ++ X from by apply lS;simp]
   rfl
  ·refine Hold.new (w := w) (o := .cells cells e (0,0)) ?_ rfl;exact hCG.sub sM
  ·rw [aB,hlen,hlv,lO]
  ·rw [hcells];simp only [Array.size_append,List.size_toArray,size_zeroCells,hz,hlen,hlv,<- lO];rw [iT];exact lM s oM
  ·intro j hj;rw [hcells,iT,Array.getElem?_append_left (by simpa using hj)]
   simp
def cutA (s : Nat) (a : OA) (l m : Nat) : OA := if m = l then a else a.map (·.add (l * s))
theorem OQ {s : Nat} {S : zb} {a : OA} {len : Nat} {us : LV} (h : Rd s S a len us) {l h' m : Nat} (h1 : l <= h') (h2 : h' <= len) (h3 : h' <= m) :
  Rd s S (cutA s a l m) (h' - l) ((us.drop (l * s)).take ((h' - l) * s)) := by
 obtain ⟨hl,hne⟩ := h;have e1 : l * s + (h' - l) * s = h' * s := by rw [<- lO];congr 1;omega
 have e2 : h' * s <= len * s := lM s h2;have hlen : ((us.drop (l * s)).take ((h' - l) * s)).length = (h' - l) * s := by rw [aX,aV];omega
 refine ⟨hlen,fun hn => ?_⟩;have hpos : 0 < (h' - l) * s := by rw [<- hlen];exact List.length_pos_iff.2 hn
 have hlt : l < h' := by
  rcases Nat.lt_or_ge l h' with h | h
  ·exact h
  ·rw [show h' - l = 0 from oM,Nat.zero_mul] at hpos;omega
 obtain ⟨b,o,cs,e,mm,rfl,hb,hc⟩ := hne (by intro h0;subst h0;simp at hl;omega);refine ⟨b,o + l * s,cs,e,mm,?_,hb,fun i hi => ?_⟩
 ·unfold cutA;rw [if_neg oM];simp [xZ]
 ·rw [hlen] at hi;rw [show o + l * s + i = o + (l * s + i) from oM,hc _ oM,lY hi,List.getElem?_drop]
theorem YZ {s : Nat} {e : TypeId} {C : zd} {a : OA} {len cap : Nat} {us : LV} (h : Own s e C a len cap us) {l h' m : Nat} (h1 : l <= h') (h2 : h' <= len) (h3 : h' <= m) (h4 : m <= cap) :
  Own s e C (cutA s a l m) (h' - l) (m - l) ((us.drop (l * s)).take ((h' - l) * s)) := by
 obtain ⟨q1,q2,hl,hcase⟩ := h;have e1 : l * s + (h' - l) * s = h' * s := by rw [<- lO];congr 1;omega
 have e2 : h' * s <= len * s := lM s h2;have hlen : ((us.drop (l * s)).take ((h' - l) * s)).length = (h' - l) * s := by rw [aX,aV];omega
 refine ⟨oM,oM,hlen,?_⟩
 rcases hcase with ⟨rfl,rfl⟩ | ⟨b,o,cs,m0,rfl,rfl,hsoft,hbig,hc⟩
 ·exact .inl ⟨oM,rfl⟩
 ·right
  by_cases hm : m = l
  ·refine ⟨b,o,cs,m0,by unfold cutA;rw [if_pos hm],rfl,hsoft,by rw [hm];simp;omega,fun i hi => ?_⟩;rw [hlen,show h' - l = 0 from oM,Nat.zero_mul] at hi;omega
  ·refine ⟨b,o + l * s,cs,m0,by unfold cutA;rw [if_neg hm];simp [xZ],rfl,hsoft,?_,fun i hi => ?_⟩
   ·have : l * s + (m - l) * s = m * s := by rw [<- lO];congr 1;omega
    have : m * s <= cap * s := lM s h4;omega
   ·rw [hlen] at hi;rw [show o + l * s + i = o + (l * s + i) from oM,hc _ oM,lY hi,List.getElem?_drop]
theorem kz {α : Type} {f : α -> Value} {S : zb} {a : OA} {len : Nat} {us : List α} (h : Rd 1 S a len (us.map f)) {l h' m : Nat} (h1 : l <= h') (h2 : h' <= len) (h3 : h' <= m) :
  Rd 1 S (cutA 1 a l m) (h' - l) (((us.drop l).take (h' - l)).map f) := by
 have q := OQ h h1 h2 h3
 simpa only [Nat.mul_one,List.map_take,List.map_drop] using q
theorem OW {α : Type} {f : α -> Value} {e : TypeId} {C : zd} {a : OA} {len cap : Nat} {us : List α} (h : Own 1 e C a len cap (us.map f)) {l h' m : Nat} (h1 : l <= h') (h2 : h' <= len) (h3 : h' <= m) (h4 : m <= cap) :
  Own 1 e C (cutA 1 a l m) (h' - l) (m - l) (((us.drop l).take (h' - l)).map f) := by
 have q := YZ h h1 h2 h3 h4
 simpa only [Nat.mul_one,List.map_take,List.map_drop] using q
theorem cut_hi {t e : TypeId} {z : Value} {s by_ : Nat} {κ : Value -> Prop} [ht : xz P t e] [hs : zm P e z s by_] {a : OA} {len cap : Nat} {k : IntKind} {h : Int} (h0 : 0 <= h) (h1 : h <= cap) :
  zk P (Instr.sliceAt t (.slice a len cap) none (some (.int k h)) none) κ = κ (.slice (cutA s a 0 cap) (h.toNat - 0) (cap - 0)) :=
 zq (fun w => by
  simp only [Instr.sliceAt,Instr.slice,Sem.run_bind,zL ht.und,Result.andThen,Instr.sliceBounds,Instr.sliceBound,asIntOf,Sem.run_pure]
  simp [zE hs,Result.andThen,Sem.run_bind,cutA,h0,h1]) κ
theorem cut_lo {t e : TypeId} {z : Value} {s by_ : Nat} {κ : Value -> Prop} [ht : xz P t e] [hs : zm P e z s by_] {a : OA} {len cap : Nat} {j : IntKind} {l : Int} (l0 : 0 <= l) (l1 : l <= len) :
  zk P (Instr.sliceAt t (.slice a len cap) (some (.int j l)) none none) κ = κ (.slice (cutA s a l.toNat cap) (len - l.toNat) (cap - l.toNat)) :=
 zq (fun w => by
  simp only [Instr.sliceAt,Instr.slice,Sem.run_bind,zL ht.und,Result.andThen,Instr.sliceBounds,Instr.sliceBound,asIntOf,Sem.run_pure]
  simp [zE hs,Result.andThen,Sem.run_bind,cutA,l0,l1]) κ
theorem cut_lohi {t e : TypeId} {z : Value} {s by_ : Nat} {κ : Value -> Prop} [ht : xz P t e] [hs : zm P e z s by_] {a : OA} {len cap : Nat} {j k : IntKind} {l h : Int} (h0 : 0 <= h) (h1 : h <= cap) (l0 : 0 <= l) (l1 : l <= h) :
  zk P (Instr.sliceAt t (.slice a len cap) (some (.int j l)) (some (.int k h)) none) κ = κ (.slice (cutA s a l.toNat cap) (h.toNat - l.toNat) (cap - l.toNat)) :=
 zq (fun w => by
  have l1' : l <= max h 0 := oM;simp only [Instr.sliceAt,Instr.slice,Sem.run_bind,zL ht.und,Result.andThen,Instr.sliceBounds,Instr.sliceBound,asIntOf,Sem.run_pure]
  simp [zE hs,Result.andThen,Sem.run_bind,cutA,h0,h1,l0,l1,l1']) κ
theorem gE {t e : TypeId} {z : Value} {s by_ : Nat} {κ : Value -> Prop} [ht : xz P t e] [hs : zm P e z s by_] {a : OA} {len cap : Nat} {k q : IntKind} {h m : Int} (m0 : 0 <= m) (m1 : m <= cap) (h0 : 0 <= h) (h1 : h <= m) :
  zk P (Instr.sliceAt t (.slice a len cap) none (some (.int k h)) (some (.int q m))) κ = κ (.slice (cutA s a 0 m.toNat) (h.toNat - 0) (m.toNat - 0)) :=
 zq (fun w => by
  have h1' : h <= max m 0 := oM;simp only [Instr.sliceAt,Instr.slice,Sem.run_bind,zL ht.und,Result.andThen,Instr.sliceBounds,Instr.sliceBound,asIntOf,Sem.run_pure]
  simp [zE hs,Result.andThen,Sem.run_bind,cutA,m0,m1,h0,h1,h1']) κ
theorem UF {t e : TypeId} {z : Value} {s by_ : Nat} {κ : Value -> Prop} [ht : xz P t e] [hs : zm P e z s by_] {a : OA} {len cap : Nat} {j k q : IntKind} {l h m : Int} (m0 : 0 <= m) (m1 : m <= cap) (h0 : 0 <= h) (h1 : h <= m) (l0 : 0 <= l) (l1 : l <= h) :
  zk P (Instr.sliceAt t (.slice a len cap) (some (.int j l)) (some (.int k h)) (some (.int q m))) κ = κ (.slice (cutA s a l.toNat m.toNat) (h.toNat - l.toNat) (m.toNat - l.toNat)) :=
 zq (fun w => by
  have h1' : h <= max m 0 := oM;have l1' : l <= max h 0 := oM;simp only [Instr.sliceAt,Instr.slice,Sem.run_bind,zL ht.und,Result.andThen,Instr.sliceBounds,Instr.sliceBound,asIntOf,Sem.run_pure]
  simp [zE hs,Result.andThen,Sem.run_bind,cutA,m0,m1,h0,h1,l0,l1,h1',l1']) κ
theorem VX : ∀ (vs done rest : LV),(∀ v ∈ vs,Value.cell1 v) -> rest.length = vs.length ->
  Instr.fill (fun i => some (i,1)) (done ++ rest).toArray ((vs.zipIdx done.length).map fun x => (x.2,x.1)) = some (done ++ vs).toArray
 | [],done,rest,hc,hr => by
  have : rest = [] := List.length_eq_zero_iff.1 hr;subst this;simp [Instr.fill]
 | v :: vs,done,[],hc,hr => by simp at hr
 | v :: vs,done,r :: rest,hc,hr => by
  have hcv : v.cells = #[v] := by have := hc v (aA ..);cases v <;> first | exact this.elim | rfl
  have ih := VX vs (done ++ [v]) rest (fun u hu => hc u (aK _ hu)) (by simpa using hr);simp only [List.zipIdx_cons,iB,Instr.fill,hcv];rw [if_neg sM];simp only [aB,aH,aQ,aN,aC,aD,iT] at ih;rw [<- ih]
  have e : (#[v].zipIdx.foldl (fun cs x => match x with | (c,j) => cs.setIfInBounds (done.length + j) c) (done ++ r :: rest).toArray) = (done ++ v :: rest).toArray := by
   apply lS
   simp
  rw [<- e]
theorem Qc {t e : TypeId} {z : Value} {by_ : Nat} [ht : xz P t e] [hs : zm P e z 1 by_] (hz : z.cells.size = 1) {n : Nat} {ps : List (Nat × Value)} {S : zb} {κ : Value -> zb -> Prop} (hn : n <= 16777216)
  (hi : ps.map (·.1) = iC n) (hc : ∀ v ∈ ps.map (·.2),Value.cell1 v)
  (k : ∀ b : Nat,κ (.slice (some ⟨b,0,none⟩) n n) ([(b,.cells (ps.map (·.2)).toArray e (0,0))] :: S)) : ValW P (Instr.buildSlice t n ps.toArray) S κ := by
 refine ⟨fun w hw => ?_⟩;have hlen : ps.length = n := by have := congrArg mA hi;simpa using this
 have hps : ps = ((ps.map (·.2)).zipIdx 0).map fun x => (x.2,x.1) := by
  apply List.ext_getElem?
  intro i;have h1 := congrArg (fun l => l[i]?) hi;simp only [lF,List.getElem?_range] at h1;simp only [lF,List.getElem?_zipIdx]
  cases hp : ps[i]? with
  | none => simp
  | some p =>
   rw [hp] at h1;have hlt := (List.getElem?_eq_some_iff.1 hp).1;rw [List.getElem?_range oM] at h1
   simp at h1
   obtain ⟨p1,p2⟩ := p
   simp at h1 ⊢
   exact h1
 have hf := VX (ps.map (·.2)) [] (aU n z.cells[0]!) hc (by simp [hlen]);simp only [aD,aQ] at hf;rw [<- hps] at hf;refine ⟨_,{ w with heap := w.heap.push (.cells (ps.map (·.2)).toArray e) },_,?_,wJ rfl,hw.new rfl,k _⟩
 have hmod : (Array.range n).map (fun x => z.cells[x % z.cells.size]!) = (aU n z.cells[0]!).toArray := by
  apply lS
  simp [hz,Nat.mod_one]
  rw [List.map_const',List.length_range]
 by_cases h0 : n = 0
 ·subst h0;have : ps = [] := List.length_eq_zero_iff.1 hlen;subst this
  simp [Instr.buildSlice,Sem.run_bind,zL ht.und,zE hs,Result.andThen,Instr.fill,newRow,newObj,Sem.run,show Array.range 0 = #[] from rfl]
 ·simp [Instr.buildSlice,Sem.run_bind,zL ht.und,zE hs,xe hs,Result.andThen,newRow,newObj,Sem.run,h0,show ¬ 16777216 < n from oM]
  rw [hmod,hf]
  rfl
def elA (a : OA) (i : Nat) : Addr := (a.getD ⟨0,0,none⟩).add i
theorem ZG {t e : TypeId} {z : Value} {by_ : Nat} {S : zb} {a : OA} {len cap : Nat} {us : LV} {k : IntKind} {i : Int} {κ : Value -> Prop} [h : xz P t e] [hs : zm P e z 1 by_]
  (hr : Rd 1 S a len us) (h0 : 0 <= i) (h1 : i < len) : zk P (Instr.indexAt t (.slice a len cap) (.int k i)) κ = κ (.pointer (some (elA a i.toNat))) := by
 obtain ⟨hl,hne⟩ := hr;obtain ⟨b,o,cs,et,m,rfl,_,_⟩ := hne (by intro e;subst e;simp at hl;omega);rw [Xl h0 h1]
 simp [elA,xZ]
theorem VA {t : TypeId} {S : zb} {a : OA} {len : Nat} {us : LV} {i : Nat} {v : Value} {κ : Value -> Prop} [hf : xM P t]
  (hr : Rd 1 S a len us) (hv : us[i]? = some v) (k : κ v) : xG P (Instr.loadAt t (.pointer (some (elA a i)))) S κ := by
 have hi := (List.getElem?_eq_some_iff.1 hv).1;obtain ⟨hl,hne⟩ := hr;obtain ⟨b,o,cs,et,m,rfl,hb,hc⟩ := hne (by intro e;subst e;simp at hi);simp only [elA,iR,xZ];exact xf hb (by rw [hc i hi];exact hv) k
end Go.Ost
namespace Go.Ost
open Go
variable {P : Program}
abbrev W32 := BitVec 32
def b32 (x : BitVec 32) : Value := .int .u32 x.toNat
def b8 (x : UInt8) : Value := .int .u8 x.toNat
theorem UY (x : UInt8) : Value.cell1 (b8 x) := trivial
theorem ZV (x : BitVec 32) : Value.cell1 (b32 x) := trivial
theorem wrap32_mod (n : Nat) : IntKind.u32.wrap (n : Int) = ((n % 4294967296 : Nat) : Int) := by
 show ((n : Int) % (2 ^ 32 : Int)) = _
 omega
theorem kC {k : Nat} (x : BitVec k) : iE k (x.toNat : Int) = x := by
 apply BitVec.eq_of_toNat_eq
 simp
section words
variable (t : TypeId) (x y : Operand) (a b : BitVec 32) (κ : Value -> Prop)
theorem w_add : zk P (do eqGuard .add t x y (b32 a) (b32 b);binOp .add t (b32 a) (b32 b)) κ = κ (b32 (a + b)) := by
 refine (gV t x y .u32 _ _ κ).trans ?_;rw [<- Int.natCast_add,wrap32_mod];rfl
theorem w_sub : zk P (do eqGuard .sub t x y (b32 a) (b32 b);binOp .sub t (b32 a) (b32 b)) κ = κ (b32 (a - b)) := by
 refine (UT t x y .u32 _ _ κ).trans ?_
 congr 2
 have h1 := a.isLt;have h2 := b.isLt;rw [show ((a.toNat : Int) - b.toNat) = ((4294967296 - b.toNat + a.toNat : Nat) : Int) - 4294967296 from oM];rw [BitVec.toNat_sub]
 show ((_ : Int) % (2 ^ 32 : Int)) = _
 omega
theorem cX {o : BinOp} {r : BitVec 32} (h : ∀ w,(Op.intBits o .u32 a.toNat b.toNat).run P w = .ok (.int .u32 (IntKind.u32.wrap r.toNat)) w) (hb : ∀ w,(do eqGuard o t x y (b32 a) (b32 b);binOp o t (b32 a) (b32 b) : Sem Value).run P w = (Op.intBits o .u32 a.toNat b.toNat).run P w) :
  zk P (do eqGuard o t x y (b32 a) (b32 b);binOp o t (b32 a) (b32 b)) κ = κ (b32 r) :=
 zq (fun w => by
  rw [hb,h,wrap32_mod];have := r.isLt;rw [lV (by simpa using this)];rfl) κ
theorem w_and : zk P (do eqGuard .and t x y (b32 a) (b32 b);binOp .and t (b32 a) (b32 b)) κ = κ (b32 (a &&& b)) :=
 cX t x y a b κ (fun w => by
  show Result.ok (Value.int .u32 (IntKind.u32.wrap ((iE 32 (a.toNat : Int) &&& iE 32 (b.toNat : Int)).toNat : Int))) w = _
  rw [kC,kC]) (fun w => by simp [eqGuard,binOp,b32])
theorem w_or : zk P (do eqGuard .or t x y (b32 a) (b32 b);binOp .or t (b32 a) (b32 b)) κ = κ (b32 (a ||| b)) :=
 cX t x y a b κ (fun w => by
  show Result.ok (Value.int .u32 (IntKind.u32.wrap ((iE 32 (a.toNat : Int) ||| iE 32 (b.toNat : Int)).toNat : Int))) w = _
  rw [kC,kC]) (fun w => by simp [eqGuard,binOp,b32])
theorem w_xor : zk P (do eqGuard .xor t x y (b32 a) (b32 b);binOp .xor t (b32 a) (b32 b)) κ = κ (b32 (a ^^^ b)) :=
 cX t x y a b κ (fun w => by
  show Result.ok (Value.int .u32 (IntKind.u32.wrap ((iE 32 (a.toNat : Int) ^^^ iE 32 (b.toNat : Int)).toNat : Int))) w = _
  rw [kC,kC]) (fun w => by simp [eqGuard,binOp,b32])
theorem w_not : zk P (Op.unary .xor (b32 a)) κ = κ (b32 (~~~a)) :=
 zq (fun w => by
  have h : iE 32 4294967295 = BitVec.allOnes 32 := dM
  show Result.ok (Value.int .u32 (IntKind.u32.wrap ((iE 32 4294967295 ^^^ iE 32 (a.toNat : Int)).toNat : Int))) w = _
  rw [kC,h,BitVec.allOnes_xor,wrap32_mod,lV (~~~a).isLt]
  rfl) κ
theorem w_shl {j : IntKind} {n : Int} (h0 : 0 <= n) (h1 : n <= 32) : zk P (do eqGuard .shl t x y (b32 a) (.int j n);binOp .shl t (b32 a) (.int j n)) κ = κ (b32 (a <<< n.toNat)) :=
 zq (fun w => by
  have e : min n.toNat IntKind.u32.bits = n.toNat := by show min n.toNat 32 = n.toNat;omega
  have h3 : ¬ n < 0 := oM
  show (Op.shift .shl .u32 (a.toNat : Int) j n).run P w = _
  rw [Op.shift,if_neg h3,e]
  show Result.ok (Value.int .u32 (IntKind.u32.wrap ((a.toNat : Int) * 2 ^ n.toNat))) w = _
  rw [show ((a.toNat : Int) * 2 ^ n.toNat) = ((a.toNat * 2 ^ n.toNat : Nat) : Int) from sM,wrap32_mod,<- mL]
  rfl) κ
theorem w_shr {j : IntKind} {n : Int} (h0 : 0 <= n) (h1 : n <= 32) : zk P (do eqGuard .shr t x y (b32 a) (.int j n);binOp .shr t (b32 a) (.int j n)) κ = κ (b32 (a >>> n.toNat)) :=
 zq (fun w => by
  have e : min n.toNat IntKind.u32.bits = n.toNat := by show min n.toNat 32 = n.toNat;omega
  have h3 : ¬ n < 0 := oM
  show (Op.shift .shr .u32 (a.toNat : Int) j n).run P w = _
  rw [Op.shift,if_neg h3,e]
  show Result.ok (Value.int .u32 (Int.fdiv (a.toNat : Int) (2 ^ n.toNat))) w = _
  rw [show Int.fdiv (a.toNat : Int) (2 ^ n.toNat) = ((a.toNat / 2 ^ n.toNat : Nat) : Int) from by
   rw [Int.fdiv_eq_ediv_of_nonneg _ (Int.le_of_lt (Int.pow_pos dM))]
   simp,<- Nat.shiftRight_eq_div_pow]
  rfl) κ
end words
def str (bs : L8) : ByteArray := ⟨bs.toArray⟩
abbrev sT (l : L8) : Value := .string (str l)
theorem push_str (l : L8) : ∀ (r : ByteArray),(l.map fun x => ((x.toNat : Nat) : Int)).foldl (fun r n => r.push (aG n.toNat)) r = ⟨r.data ++ l.toArray⟩ := by
 induction l with
 | nil => intro r;cases r;simp
 | cons x l ih =>
  intro r;simp only [iB,List.foldl_cons];rw [ih]
  simp [ByteArray.push]
theorem xW {src dst e : TypeId} [hs : xz P src e] [he : TInt P e .u8] [hd : TStr P dst] {S : zb} {κ : Value -> zb -> Prop} {a : OA} {len cap : Nat} {bs : L8} (h : Rd 1 S a len (bs.map b8))
  (k : κ (sT bs) S) : vS P src dst (.slice a len cap) S κ := by
 refine ⟨fun w hw => ⟨_,w,S,?_,Ext.refl w,hw,k⟩⟩;rw [run_convert_bytes_string w src dst e a len cap hs.und he.und hd.und];have f := yB (P := P) (c := cap) h hw
 cases a with
 | none =>
  have : bs = [] := by
   have h2 := h.2
   cases bs with
   | nil => rfl
   | cons x l => obtain ⟨_,_,_,_,_,h3,_⟩ := h2 sM;cases h3
  subst this;rfl
 | some a =>
  simp only [Builtin.firstCells,Nat.mul_one] at f;rw [run_bytesToString w a len cap (bs.map fun x => ((x.toNat : Nat) : Int)) (by rw [f];simp [b8,Function.comp_def])];rw [push_str]
  congr 2
  simp [str]
theorem OH {w : World} {b o : Nat} {cs : Array Value} {e : TypeId} {m : Nat × Nat} (h : w.heap[b]? = some (.cells cs e m)) (hm : Soft cs.size m) :
  ∃ w' m',(markStringish ⟨b,o,none⟩).run P w = .ok () w' /\ Ext w w' /\ Soft cs.size m' /\ w'.heap[b]? = some (.cells cs e m') /\ ∀ k,k ≠ b -> w'.heap[k]? = w.heap[k]? := by
 obtain ⟨lo,hi⟩ := m;refine ⟨w.freeze { block := b,off := cs.size } 1,if lo == hi then (cs.size,cs.size + 1) else (min lo cs.size,max hi (cs.size + 1)),?_,?_,?_,?_,?_⟩
 ·have hsh : w.shape? b = some (e,cs.size) := by simp [World.shape?,h]
  simp [markStringish,shape,freeze,Sem.run_bind,Sem.run,hsh,Result.andThen]
 ·exact ⟨rfl,rfl,rfl,by simp [World.freeze]⟩
 ·unfold Soft at hm ⊢
  split
  ·exact .inr (aR _)
  ·rename_i hne
   rcases hm with hm | hm
   ·exact absurd hm (by simpa using hne)
   ·right;simp only at hm ⊢;omega
 ·simp only [World.freeze];rw [if_neg dM];simp only [Array.getElem?_modify,if_true,h,lX]
 ·intro k hk;simp only [World.freeze];rw [if_neg dM];simp only [Array.getElem?_modify];rw [if_neg (Ne.symm hk)]
theorem ZP {t e : TypeId} [ht : xz P t e] [he : TInt P e .u8] {S G : zb} {κ : Value -> zb -> Prop} {C : zd} {ad : Addr} {len cap : Nat} {us : LV} (ho : Own 1 e C (some ad) len cap us) (hp : Pick C S G)
  (hpos : 0 < cap) (k : ∀ C',Own 1 e C' (some ad) len cap us -> κ (.slice (some ad) len cap) (C' :: G)) : vS P t t (.slice (some ad) len cap) S κ := by
 refine ⟨fun w hw => ?_⟩;obtain ⟨h1,h2,h3,h4⟩ := ho
 rcases h4 with ⟨h5,_⟩ | ⟨b,o,cs,m,h5,rfl,hs,hbig,hc⟩
 ·omega
 ·cases h5
  have hCG := hw.perm hp.perm;obtain ⟨w',m',q1,q2,q3,q4,q5⟩ := OH (P := P) (o := o) (hCG.get b (.cells cs e m) sM) hs;refine ⟨_,w',_,?_,q2,(Upd.one (S := G)).hold hCG q4 q5,k [(b,.cells cs e m')] ⟨h1,h2,h3,.inr ⟨b,o,cs,m',rfl,rfl,q3,hbig,hc⟩⟩⟩
  simp [convert,Sem.run_bind,zL ht.und,zL he.und,Result.andThen,q1]
theorem xb {src dst e : TypeId} [hs : TStr P src] [hd : xz P dst e] [he : TInt P e .u8] {S : zb} {κ : Value -> zb -> Prop} {bs : L8} (hm : bs.length <= maxLen)
  (k : ∀ C a cap,Own 1 e C (some a) bs.length cap (bs.map b8) -> κ (.slice (some a) bs.length cap) (C :: S)) : vS P src dst (sT bs) S κ := by
 refine ⟨fun w hw => ?_⟩;have hge := grownCap_ge w bs.length 0 e;have hcm := grownCap_le_maxLen w bs.length 0 e hm;obtain ⟨cells,hcells⟩ : ∃ cells : Array Value,cells = (bs.map b8).toArray ++ Array.replicate (grownCap w bs.length 0 e - bs.length) (.int .u8 0) := ⟨_,rfl⟩;have hw1 : Hold (w.drew.alloc (.cells cells e)) ([(w.heap.size,.cells cells e (0,0))] :: S) := Hold.new (w := w) hw rfl;obtain ⟨w',m',q1,q2,q3,q4,q5⟩ := OH (P := P) (o := 0) (hw1.get w.heap.size (.cells cells e (0,0)) sM) (.inl rfl);refine ⟨.slice (some ⟨w.heap.size,0,none⟩) bs.length (grownCap w bs.length 0 e),w',_,?_,Ext.trans (a := w) (b := w.drew.alloc (.cells cells e)) ⟨rfl,rfl,rfl,sM⟩ q2,(Upd.one (S := S)).hold hw1 q4 q5,k [(w.heap.size,.cells cells e m')] _ _ ⟨hge,hcm,sM,.inr ⟨_,0,cells,m',rfl,rfl,q3,?_,?_⟩⟩⟩
 ·have e1 : (str bs).data.map (fun b => Value.int .u8 b.toNat) = (bs.map b8).toArray := by simp [str,b8,Function.comp_def]
  have e2 : (str bs).size = bs.length := by simp [str,ByteArray.size]
  have r : (convert src dst (sT bs)).run P w = (Conv.stringToBytes e (str bs)).run P w := by
   simp [convert,Sem.run_bind,zL hs.und,zL hd.und,zL he.und,Result.andThen]
  rw [r];unfold Conv.stringToBytes;simp only [Sem.run_bind,e1,e2];have c1 : (choose (Question.appendCap bs.length 0 e)).run P w = .ok (grownCap w bs.length 0 e) w.drew := by rw [run_choose_drew];simp [Question.forced,grownCap]
  have c2 : (newRow e cells).run P w.drew = .ok ⟨w.heap.size,0,none⟩ (w.drew.alloc (.cells cells e)) := rfl;rw [c1];simp only [Result.andThen];rw [<- hcells,c2];simp only [Result.andThen];rw [q1]
  rfl
 ·rw [hcells];simp;omega
 ·intro i hi;rw [hcells,iT,Array.getElem?_append_left (by simpa using hi)]
  simp
theorem cq_b8_32 {s d : TypeId} [hs : TInt P s .u8] [hd : TInt P d .u32] {x : UInt8} {κ : Value -> Prop} : zk P (convert s d (b8 x)) κ = κ (b32 (lZ 32 x.toNat)) := by
 show zk P (convert s d (.int .u8 (x.toNat : Int))) κ = _
 rw [qv,wrap32_mod]
 rfl
theorem cq_b32_8 {s d : TypeId} [hs : TInt P s .u32] [hd : TInt P d .u8] {x : W32} {κ : Value -> Prop} : zk P (convert s d (b32 x)) κ = κ (b8 (aG x.toNat)) := by
 show zk P (convert s d (.int .u32 (x.toNat : Int))) κ = _
 rw [qv]
 have : IntKind.u8.wrap (x.toNat : Int) = ((aG x.toNat).toNat : Int) := by
  show ((x.toNat : Int) % (2 ^ 8 : Int)) = _
  rw [iO];omega
 rw [this];rfl
theorem gI {s d : TypeId} [hs : TInt P s .u32] [hd : TInt P d .u64] {x : W32} {κ : Value -> Prop} : zk P (convert s d (b32 x)) κ = κ (.int .u64 x.toNat) := by
 show zk P (convert s d (.int .u32 (x.toNat : Int))) κ = _
 rw [qv,XF oM (by have := x.isLt;omega)]
theorem cG {s d : TypeId} [hs : TInt P s .u8] [hd : TInt P d .u32] {x : UInt8} {S : zb} {κ : Value -> zb -> Prop} : vS P s d (b8 x) S κ = κ (b32 (lZ 32 x.toNat)) S := by
 show zk P (convert s d (.int .u8 (x.toNat : Int))) (fun v => κ v S) = _
 rw [qv,wrap32_mod]
 rfl
theorem UI {s d : TypeId} {k : IntKind} [hs : TInt P s .u8] [hd : TInt P d k] {x : UInt8} {S : zb} {κ : Value -> zb -> Prop} (h : k.wrap (x.toNat : Int) = x.toNat) : vS P s d (b8 x) S κ = κ (.int k x.toNat) S := by
 show zk P (convert s d (.int .u8 (x.toNat : Int))) (fun v => κ v S) = _
 rw [qv,h]
theorem cH {s d : TypeId} [hs : TInt P s .u32] [hd : TInt P d .u8] {x : W32} {S : zb} {κ : Value -> zb -> Prop} : vS P s d (b32 x) S κ = κ (b8 (aG x.toNat)) S := by
 show zk P (convert s d (.int .u32 (x.toNat : Int))) (fun v => κ v S) = _
 rw [qv]
 have : IntKind.u8.wrap (x.toNat : Int) = ((aG x.toNat).toNat : Int) := by
  show ((x.toNat : Int) % (2 ^ 8 : Int)) = _
  rw [iO];omega
 rw [this];rfl
theorem UL {s d : TypeId} [hs : TInt P s .u32] [hd : TInt P d .u64] {x : W32} {S : zb} {κ : Value -> zb -> Prop} : vS P s d (b32 x) S κ = κ (.int .u64 x.toNat) S := by
 show zk P (convert s d (.int .u32 (x.toNat : Int))) (fun v => κ v S) = _
 rw [qv,XF oM (by have := x.isLt;omega)]
def rowW (l : List W32) : Array Value := (l.map b32).toArray
theorem Zu (l : List W32) : (rowW l).size = l.length := by simp [rowW]
theorem ON (l : List W32) (i : Nat) (h : i < l.length) : (rowW l)[i]? = some (b32 (l.getD i 0)) := by
 simp [rowW,mB,h]
theorem rowW_set (l : List W32) (i : Nat) (x : W32) : (rowW l).setIfInBounds i (b32 x) = rowW (l.set i x) := by
 simp [rowW,List.map_set]
theorem fH {t e : TypeId} {S : zb} {κ : Value -> Prop} {b o : Nat} {l : List W32} {m : Nat × Nat} [hf : xM P t] (hl : Lies b (.cells (rowW l) e m) S) (ho : o < l.length) (k : κ (b32 (l.getD o 0))) :
  xG P (Instr.loadAt t (.pointer (some ⟨b,o,none⟩))) S κ := xf hl (ON l o ho) k
theorem Xb {t e : TypeId} {z : Value} {by_ : Nat} {S S' : zb} {κ : zb -> Prop} {b o : Nat} {l : List W32} {x : W32} [hs : zm P t z 1 by_] (hu : Upd b (.cells (rowW l) e (0,0)) (.cells (rowW (l.set o x)) e (0,0)) S S')
  (ho : o < l.length) (k : κ S') : jI P (Instr.storeAt t (.pointer (some ⟨b,o,none⟩)) (b32 x)) S κ :=
 xq (cs := rowW l) (ZV x) (by rw [rowW_set];exact hu) (by rw [Zu];exact ho) k
theorem vt {t e : TypeId} {z : Value} {s by_ : Nat} {S : zb} {κ : Value -> Prop} {b : Nat} {l : List W32} {m : Nat × Nat} [hf : jG P t] [hs : zm P t z s by_] (hl : Lies b (.cells (rowW l) e m) S) (h : l.length = s) (k : κ (.agg (rowW l))) :
  xG P (Instr.loadAt t (pT b)) S κ := by
 refine yD hl (by rw [Zu];omega) ?_
 have : (rowW l).extract 0 (0 + s) = rowW l := by
  apply lS;simp [rowW,<- h,lE]
 rw [this];exact k
theorem vK : ∀ (vs : LV) (p u r : LV),u.length = vs.length -> jp (p ++ (u ++ r)).toArray p.length vs = (p ++ (vs ++ r)).toArray
 | [],p,[],r,_ => rfl
 | v :: vs,p,x :: u,r,h => by
  have ih := vK vs (p ++ [v]) u r (by simpa using h);rw [jp]
  have e : (p ++ (x :: u ++ r)).toArray.setIfInBounds p.length v = (p ++ [v] ++ (u ++ r)).toArray := by
   apply lS;simp
  rw [e,show p.length + 1 = (p ++ [v]).length from sM,ih]
  simp
theorem qU {t e : TypeId} {z : Value} {s by_ : Nat} {S S' : zb} {κ : zb -> Prop} {b : Nat} {l l' : List W32} [hs : zm P t z s by_] (hu : Upd b (.cells (rowW l) e (0,0)) (.cells (rowW l') e (0,0)) S S')
  (h : l.length = s) (h' : l'.length = s) (k : κ S') : jI P (Instr.storeAt t (pT b) (.agg (rowW l'))) S κ := by
 refine Zm (e := e) (cs := rowW l) (S' := S') (by rw [Zu];exact h') (fun v hv => ?_) ?_ (by rw [Zu];omega) k
 ·simp only [rowW,List.mem_map] at hv;obtain ⟨x,_,rfl⟩ := hv;exact ZV x
 ·have e := vK (l'.map b32) [] (l.map b32) [] (by simp;omega);simp only [aD,aL,aQ] at e;have e2 : jp (rowW l) 0 (rowW l').toList = rowW l' := e;rw [e2];exact hu
def rowX (l : List W32) (r : LV) : Array Value := (l.map b32 ++ r).toArray
theorem ky (l : List W32) (r : LV) : (rowX l r).size = l.length + r.length := by simp [rowX]
theorem rowX_get (l : List W32) (r : LV) (i : Nat) (h : i < l.length) : (rowX l r)[i]? = some (b32 (l.getD i 0)) := by
 simp only [rowX,iP];rw [lP (by simpa using h)]
 simp [mB,h]
theorem rowX_set (l : List W32) (r : LV) (i : Nat) (h : i < l.length) (x : W32) : (rowX l r).setIfInBounds i (b32 x) = rowX (l.set i x) r := by
 simp only [rowX,List.setIfInBounds_toArray];rw [List.set_append_left _ _ (by simpa using h),List.map_set]
theorem Wi {t e : TypeId} {S : zb} {κ : Value -> Prop} {b o : Nat} {l : List W32} {r : LV} {m : Nat × Nat} [hf : xM P t] (hl : Lies b (.cells (rowX l r) e m) S) (ho : o < l.length) (k : κ (b32 (l.getD o 0))) :
  xG P (Instr.loadAt t (.pointer (some ⟨b,o,none⟩))) S κ := xf hl (rowX_get l r o ho) k
theorem wW {t e : TypeId} {z : Value} {by_ : Nat} {S S' : zb} {κ : zb -> Prop} {b o : Nat} {l : List W32} {r : LV} {x : W32} [hs : zm P t z 1 by_] (hu : Upd b (.cells (rowX l r) e (0,0)) (.cells (rowX (l.set o x) r) e (0,0)) S S')
  (ho : o < l.length) (k : κ S') : jI P (Instr.storeAt t (.pointer (some ⟨b,o,none⟩)) (b32 x)) S κ :=
 xq (cs := rowX l r) (ZV x) (by rw [rowX_set _ _ _ ho];exact hu) (by rw [ky];omega) k
theorem fS {t e n : Nat} {z : Value} {by_ : Nat} {k : IntKind} {i : Int} {l : List W32} {κ : Value -> Prop} [h : TArr P t n e] [hs : zm P e z 1 by_] [hf : xM P e] (h0 : 0 <= i) (h1 : i < n) (hl : l.length = n) :
  zk P (Instr.index t (.agg (rowW l)) (.int k i)) κ = κ (b32 (l.getD i.toNat 0)) := gX h0 h1 (ON l _ oM)
theorem Kh {t e : Nat} {z z' : Value} {s by_ by' : Nat} {a b c d e' f g h' : W32} {κ : Value -> Prop} [h : TArr P t 8 e] [hs : zm P t z s by_] [he : zm P e z' 1 by'] (hz : z.cells.size = 8) :
  zk P (Instr.build t #[(0,b32 a),(1,b32 b),(2,b32 c),(3,b32 d),(4,b32 e'),(5,b32 f),(6,b32 g),(7,b32 h')]) κ = κ (.agg (rowW [a,b,c,d,e',f,g,h'])) := by
 refine Qd (ps := [(0,b32 a),(1,b32 b),(2,b32 c),(3,b32 d),(4,b32 e'),(5,b32 f),(6,b32 g),(7,b32 h')]) ?_
 have q := VX [b32 a,b32 b,b32 c,b32 d,b32 e',b32 f,b32 g,b32 h'] [] z.cells.toList (fun v hv => by
  simp only [aY,aT,or_false] at hv
  rcases hv with rfl | rfl | rfl | rfl | rfl | rfl | rfl | rfl <;> exact ZV _) (by simpa using hz)
 simp only [aD,aQ,List.zipIdx_cons,List.zipIdx_nil,iB,mV,iT,iQ,Array.toArray_toList] at q;simp only [Nat.mul_one];exact q
theorem XL {t : TypeId} {S : zb} {a : OA} {len : Nat} {bs : L8} {i : Nat} {κ : Value -> Prop} [hf : xM P t]
  (hr : Rd 1 S a len (bs.map b8)) (hv : i < bs.length) (k : κ (b8 (bs.getD i 0))) : xG P (Instr.loadAt t (.pointer (some (elA a i)))) S κ :=
 VA hr (v := b8 (bs.getD i 0)) (by simp [mB,hv]) k
theorem wrap64_mod (n : Nat) : IntKind.u64.wrap (n : Int) = ((n % 18446744073709551616 : Nat) : Int) := by
 show ((n : Int) % (2 ^ 64 : Int)) = _
 omega
theorem IK (x : UInt8) : IntKind.u64.wrap (x.toNat : Int) = x.toNat := by
 have := x.toNat_lt;rw [XF oM oM]
theorem WJ (x : UInt8) : IntKind.i64.wrap (x.toNat : Int) = x.toNat := by
 have := x.toNat_lt;rw [yv oM oM]
theorem cq_b8_64 {s d : TypeId} [hs : TInt P s .u8] [hd : TInt P d .u64] {x : UInt8} {κ : Value -> Prop} : zk P (convert s d (b8 x)) κ = κ (.int .u64 x.toNat) := by
 show zk P (convert s d (.int .u8 (x.toNat : Int))) κ = _
 rw [qv,IK]
theorem gG {s d : TypeId} [hs : TInt P s .u8] [hd : TInt P d .i64] {x : UInt8} {κ : Value -> Prop} : zk P (convert s d (b8 x)) κ = κ (.int .i64 x.toNat) := by
 show zk P (convert s d (.int .u8 (x.toNat : Int))) κ = _
 rw [qv,WJ]
theorem cF {s d : TypeId} [hs : TInt P s .u8] [hd : TInt P d .u64] {x : UInt8} {S : zb} {κ : Value -> zb -> Prop} : vS P s d (b8 x) S κ = κ (.int .u64 x.toNat) S := by
 show zk P (convert s d (.int .u8 (x.toNat : Int))) (fun v => κ v S) = _
 rw [qv,IK]
theorem UJ {s d : TypeId} [hs : TInt P s .u8] [hd : TInt P d .i64] {x : UInt8} {S : zb} {κ : Value -> zb -> Prop} : vS P s d (b8 x) S κ = κ (.int .i64 x.toNat) S := by
 show zk P (convert s d (.int .u8 (x.toNat : Int))) (fun v => κ v S) = _
 rw [qv,WJ]
end Go.Ost
namespace Go.Ost
open Go
variable {P : Program}
theorem Lies.sub {b : Nat} {o : Obj} {H : zd} {S : zb} (h : Lies b o [H]) (hm : H ∈ S) : Lies b o S := by
 cases h with
 | here h => exact Lies.of_mem h hm
 | next h => cases h
theorem Lies.in {b : Nat} {o : Obj} {H : zd} (h : Lies b o [H]) : (b,o) ∈ H := by
 cases h with
 | here h => exact h
 | next h => cases h
theorem Rd.mem {s : Nat} {H : zd} {S : zb} {a : OA} {len : Nat} {us : LV} (h : Rd s [H] a len us) (hm : H ∈ S) : Rd s S a len us :=
 ⟨h.1,fun hne => let ⟨b,o,cs,e,m,h1,h2,h3⟩ := h.2 hne;⟨b,o,cs,e,m,h1,h2.sub hm,h3⟩⟩
theorem Rd.wide {s : Nat} {H D : zd} {a : OA} {len : Nat} {us : LV} (h : Rd s [H] a len us) (hm : ∀ x ∈ H,x ∈ D) : Rd s [D] a len us :=
 ⟨h.1,fun hne => let ⟨b,o,cs,e,m,h1,h2,h3⟩ := h.2 hne;⟨b,o,cs,e,m,h1,.here (hm _ h2.in),h3⟩⟩
theorem WN (bs : L8) : ∀ v ∈ bs.map b8,Value.cell1 v := fun v hv => by
 obtain ⟨x,_,rfl⟩ := List.mem_map.1 hv;exact UY x
theorem app8 {t t2 ty e e2 : TypeId} [ht : xz P t e] [ht2 : xz P t2 e2] [hs : zm P e (.int .u8 0) 1 1] {S G : zb} {κ : Value -> zb -> Prop} {C : zd} {a b : OA} {len cap n c : Nat} {us vs : L8}
  (ho : Own 1 e C a len cap (us.map b8)) (hC : Pick C S G) (hr : Rd 1 S b n (vs.map b8)) (hm : len + n <= 140737488355328)
  (k : ∀ C' a' cap',Own 1 e C' a' (len + n) cap' ((us ++ vs).map b8) -> κ (.slice a' (len + n) cap') (C' :: G)) : ValW P (Builtin.append_ #[t,t2] ty #[.slice a len cap,.slice b n c]) S κ :=
 zu (hs := hs) rfl dM ho (.inr hC) hr (WN vs) (by simp only [maxLen];omega) oM (fun C' a' cap' h => k C' a' cap' (by rw [lL];exact h))
theorem zJ {s : Nat} {e : TypeId} {a : OA} : Own s e [] a 0 0 [] := ⟨aR _,lW _,sM,.inl ⟨rfl,rfl⟩⟩
theorem app1 {t t2 ty e e2 : TypeId} {z : Value} {by_ : Nat} [ht : xz P t e] [ht2 : xz P t2 e2] [hs : zm P e z 1 by_] (hz : z.cells.size = 1) {S G : zb} {κ : Value -> zb -> Prop} {C : zd} {a b : OA} {len cap n c : Nat} {us vs : LV}
  (ho : Own 1 e C a len cap us) (hC : C = [] /\ G = S ∨ Pick C S G) (hr : Rd 1 S b n vs) (h1 : ∀ v ∈ vs,Value.cell1 v) (hm : len + n <= 1000000) (hb : by_ <= 1000)
  (k : ∀ C' a' cap',Own 1 e C' a' (len + n) cap' (us ++ vs) -> κ (.slice a' (len + n) cap') (C' :: G)) : ValW P (Builtin.append_ #[t,t2] ty #[.slice a len cap,.slice b n c]) S κ :=
 zu (hs := hs) hz dM ho hC hr h1 (by simp only [maxLen];omega) (by
  have : (len + n) * by_ <= 1000000 * 1000 := Nat.mul_le_mul hm hb;omega) k
theorem Jz {e : TypeId} {b : Nat} {vs : LV} {n : Nat} (hn : vs.length = n) (hm : n <= 16777216) : Own 1 e [(b,.cells vs.toArray e (0,0))] (some ⟨b,0,none⟩) n n vs :=
 ⟨aR _,by simp only [maxLen];omega,by simp [hn],.inr ⟨b,0,_,_,rfl,rfl,.inl rfl,by simp [hn],fun i hi => sM⟩⟩
theorem xI {t e : TypeId} {by_ : Nat} [ht : xz P t e] [hs : zm P e (.int .u8 0) 1 by_] {n : Nat} {ps : List (Nat × Value)} {S : zb} {κ : Value -> zb -> Prop} (bs : L8) (hn : n <= 16777216)
  (hi : ps.map (·.1) = iC n) (hb : ps.map (·.2) = bs.map b8) (k : ∀ b C,Own 1 e C (some ⟨b,0,none⟩) n n (bs.map b8) -> κ (.slice (some ⟨b,0,none⟩) n n) (C :: S)) : ValW P (Instr.buildSlice t n ps.toArray) S κ :=
 Qc (hs := hs) rfl hn hi (by rw [hb];exact WN bs) (fun b => k b _ (by
  rw [hb];exact Jz (by have := congrArg mA hi;have h2 := congrArg mA hb;simp only [iA,List.length_range] at this h2 ⊢;omega) hn))
theorem jE {t e : TypeId} {z : Value} {by_ : Nat} [ht : xz P t e] [hs : zm P e z 1 by_] (hz : z.cells.size = 1) {n : Nat} {ps : List (Nat × Value)} {S : zb} {κ : Value -> zb -> Prop} (vs : LV) (hn : n <= 16777216)
  (hi : ps.map (·.1) = iC n) (hb : ps.map (·.2) = vs) (hc : ∀ v ∈ vs,Value.cell1 v) (k : ∀ b C,Own 1 e C (some ⟨b,0,none⟩) n n vs -> κ (.slice (some ⟨b,0,none⟩) n n) (C :: S)) : ValW P (Instr.buildSlice t n ps.toArray) S κ :=
 Qc (hs := hs) hz hn hi (by rw [hb];exact hc) (fun b => k b _ (by
  rw [hb];exact Jz (by have := congrArg mA hi;have h2 := congrArg mA hb;simp only [iA,List.length_range] at this h2;omega) hn))
theorem vr {t e : TypeId} {z : Value} {by_ : Nat} [hs : zm P t z 1 by_] {S G : zb} {κ : zb -> Prop} {C : zd} {a : OA} {len cap i : Nat} {bs : L8} {x : UInt8}
  (ho : Own 1 e C a len cap (bs.map b8)) (hp : Pick C S G) (hi : i < bs.length) (k : ∀ C',Own 1 e C' a len cap ((bs.set i x).map b8) -> κ (C' :: G)) : jI P (Instr.storeAt t (.pointer (some (elA a i))) (b8 x)) S κ := by
 refine ⟨fun w hw => ?_⟩;obtain ⟨h1,h2,h3,h4⟩ := ho;simp only [iA,Nat.mul_one] at h3
 rcases h4 with ⟨h5,_⟩ | ⟨b,o,cs,m,rfl,rfl,hsoft,hbig,hc⟩
 ·omega
 ·have hCG := hw.perm hp.perm;obtain ⟨lo,hi'⟩ := m;obtain ⟨w',q1,q2,q3,q4⟩ := jk (P := P) (b := b) (o := o + i) [b8 x] 0 w cs (hCG.get b (.cells cs e (lo,hi')) sM) (fun u hm => by simp at hm;subst hm;exact UY x) (by simp;omega) hsoft.or;refine ⟨w',_,?_,q2,(Upd.one (S := G)).hold hCG q3 q4,k [(b,.cells (jp cs (o + i + 0) [b8 x]) e (lo,hi'))] ⟨h1,h2,by simp [h3],.inr ⟨b,o,_,(lo,hi'),rfl,rfl,by rw [xP];exact hsoft,by rw [xP];exact hbig,fun j hj => ?_⟩⟩⟩
  ·have e1 : (Value.cells (b8 x)) = #[b8 x] := rfl;simp only [elA,iR,xZ]
   simp [Instr.storeAt,Instr.sureAddr,storeVar,Sem.run_bind,zE hs,Result.andThen,e1,q1]
  ·simp only [iA,mC] at hj;have hcj := hc j (by simpa using hj);simp only [jp,mT]
   by_cases e2 : j = i
   ·subst e2;rw [Array.getElem?_setIfInBounds_self,if_pos oM]
    simp [hj]
   ·rw [lN oM,hcj];simp only [lF];rw [List.getElem?_set_ne oM]
theorem fE {t e : TypeId} [ht : xz P t e] [hs : zm P e (.int .u8 0) 1 1] {n : Nat} {S : zb} {κ : Value -> zb -> Prop} (hn : n <= 1000000)
  (k : ∀ b C,Own 1 e C (some ⟨b,0,none⟩) n n ((aU n (0 : UInt8)).map b8) -> κ (.slice (some ⟨b,0,none⟩) n n) (C :: S)) : ValW P (Instr.makeSlice t (.int .i64 n) (.int .i64 n)) S κ := by
 refine ⟨fun w hw => ?_⟩;obtain ⟨i,hi,hz1,hsz,hby⟩ := qi hs.info;have hr := run_makeSlice (P := P) w t e i (.int .u8 0) ht.und hi hz1 .i64 .i64 (n : Int) (n : Int) oM (Int.le_refl _) (by rw [hsz];omega) (by rw [hby];omega) oM;simp only [aW,hsz,Nat.mul_one] at hr;generalize hcells : madeCells (Value.int .u8 0).cells n = cells at hr
 have hlist : cells = ((aU n (0 : UInt8)).map b8).toArray := by
  rw [<- hcells]
  apply lS
  unfold madeCells
  apply List.ext_getElem
  ·simp
  ·intro j h1 h2
   simp [Nat.mod_one,b8,Value.cells]
 refine ⟨_,w.alloc (.cells cells e),[(w.heap.size,.cells cells e (0,0))] :: S,hr,⟨rfl,rfl,rfl,sM⟩,Hold.new (w := w) hw rfl,k w.heap.size _ ?_⟩;rw [hlist];exact Jz sM oM
theorem gQ {t : TypeId} {x y : Operand} {j : IntKind} {a n : Int} {κ : Value -> Prop} (ha : 0 <= a) (h0 : 0 <= n) (h1 : n <= 64) : zk P (do eqGuard .shr t x y (.int .u64 a) (.int j n);binOp .shr t (.int .u64 a) (.int j n)) κ = κ (.int .u64 (a / 2 ^ n.toNat)) :=
 zq (fun w => by
  have e : min n.toNat IntKind.u64.bits = n.toNat := by show min n.toNat 64 = n.toNat;omega
  have h3 : ¬ n < 0 := oM
  show (Op.shift .shr .u64 a j n).run P w = _
  rw [Op.shift,if_neg h3,e]
  show Result.ok (Value.int .u64 (Int.fdiv a (2 ^ n.toNat))) w = _
  rw [Int.fdiv_eq_ediv_of_nonneg _ (Int.le_of_lt (Int.pow_pos dM))]) κ
theorem b8_shr {t : TypeId} {x y : Operand} {j : IntKind} {b : UInt8} {κ : Value -> Prop} : zk P (do eqGuard .shr t x y (b8 b) (.int j 4);binOp .shr t (b8 b) (.int j 4)) κ = κ (.int .u8 ((b.toNat / 16 : Nat) : Int)) :=
 zq (fun w => by
  show (Op.shift .shr .u8 (b.toNat : Int) j 4).run P w = _
  show Result.ok (Value.int .u8 (Int.fdiv (b.toNat : Int) (2 ^ 4))) w = _
  rw [Int.fdiv_eq_ediv_of_nonneg _ dM]
  rfl) κ
theorem b8_and15 {t : TypeId} {x y : Operand} {b : UInt8} {κ : Value -> Prop} : zk P (do eqGuard .and t x y (b8 b) (.int .u8 15);binOp .and t (b8 b) (.int .u8 15)) κ = κ (.int .u8 ((b.toNat % 16 : Nat) : Int)) :=
 zq (fun w => by
  show Result.ok (Value.int .u8 (IntKind.u8.wrap ((iE 8 (b.toNat : Int) &&& iE 8 15).toNat : Int))) w = _
  have h := b.toNat_lt;have key : ∀ n : Fin 256,IntKind.u8.wrap ((iE 8 (n.val : Int) &&& iE 8 15).toNat : Int) = ((n.val % 16 : Nat) : Int) := by decide +kernel
  rw [key ⟨b.toNat,h⟩]) κ
theorem ko (n : Nat) : IntKind.u8.wrap (n : Int) = ((aG n).toNat : Int) := by
 show ((n : Int) % (2 ^ 8 : Int)) = _
 rw [iO];omega
theorem str_eql {t : TypeId} {x y : Operand} {a b : ByteArray} {κ : Value -> Prop} [h : TStr P t] : zk P (do eqGuard .eql t x y (.string a) (.string b);binOp .eql t (.string a) (.string b)) κ = κ (.bool (a.data.toList == b.data.toList)) :=
 zq (fun w => by rw [<- ByteArray.toList_eq,<- ByteArray.toList_eq];rfl) κ
theorem str_neq {t : TypeId} {x y : Operand} {a b : ByteArray} {κ : Value -> Prop} [h : TStr P t] : zk P (do eqGuard .neq t x y (.string a) (.string b);binOp .neq t (.string a) (.string b)) κ = κ (.bool (a.data.toList != b.data.toList)) :=
 zq (fun w => by rw [<- ByteArray.toList_eq,<- ByteArray.toList_eq];rfl) κ
theorem str_data (a : L8) : (str a).data.toList = a := rfl
theorem zV {t : TypeId} {x y : Operand} {a b : L8} {κ : Value -> Prop} (hm : a.length + b.length <= 9223372036854775807) : zk P (do eqGuard .add t x y (sT a) (sT b);binOp .add t (sT a) (sT b)) κ = κ (sT (a ++ b)) :=
 zq (fun w => by
  have e : (do eqGuard .add t x y (sT a) (sT b);binOp .add t (sT a) (sT b) : Sem Value) = Op.stringOp .add (str a) (str b) := rfl
  have hsz : ¬ (((str a).size + (str b).size : Nat) : Int) > IntKind.i64.max := by
   show ¬ ((a.length + b.length : Nat) : Int) > 9223372036854775807
   omega
  rw [e];simp only [Op.stringOp];rw [if_neg hsz]
  have h2 : str a ++ str b = str (a ++ b) := by
   apply ByteArray.ext
   simp [str]
  rw [h2]
  rfl) κ
theorem Ym {t : TypeId} {j k : IntKind} {l h' : Int} {s : L8} {κ : Value -> Prop} [h : TStr P t] (l0 : 0 <= l) (l1 : l <= h') (h1 : h' <= s.length) :
  zk P (Instr.sliceAt t (sT s) (some (.int j l)) (some (.int k h')) none) κ = κ (sT ((s.drop l.toNat).take (h'.toNat - l.toNat))) :=
 zq (fun w => by
  have h0 : 0 <= h' := oM;have l1' : l <= max h' 0 := oM;have h1' : h' <= ((str s).size : Int) := h1
  have e : (str s).extract l.toNat h'.toNat = str ((s.drop l.toNat).take (h'.toNat - l.toNat)) := by
   apply ByteArray.ext
   simp [str,ByteArray.data_extract]
  simp only [Instr.sliceAt,Instr.slice,Sem.run_bind,zL h.und,Result.andThen,Instr.sliceBounds,Instr.sliceBound,asIntOf,Sem.run_pure]
  simp [Sem.run_bind,h0,h1',l0,l1,l1',e,Result.andThen]) κ
theorem Yq {t e : TypeId} {x y : Operand} {a : OA} {n c : Nat} {κ : Value -> Prop} [h : xz P t e] : zk P (do eqGuard .eql t x y (.slice a n c) nS;binOp .eql t (.slice a n c) nS) κ = κ (.bool a.isNone) :=
 zq (fun w => by
  have e : (do eqGuard .eql t x y (.slice a n c) nS;binOp .eql t (.slice a n c) nS : Sem Value) = (do pure (.bool (<- Op.equalIn (9999 + 1) t (.slice a n c) nS))) := by
   cases a <;> rfl
  rw [e,Sem.run_bind,Op.equalIn,Sem.run_bind,zL h.und]
  cases a <;> rfl) κ
theorem ext2_0 {a b : Value} {κ : Value -> Prop} : zk P (Instr.extract (.tuple #[a,b]) 0) κ = κ a := zq (fun w => rfl) κ
theorem ext2_1 {a b : Value} {κ : Value -> Prop} : zk P (Instr.extract (.tuple #[a,b]) 1) κ = κ b := zq (fun w => rfl) κ
theorem zU {n : Nat} {ro : Option Nat} {c : Code} {K : Cont} {D : List Nat} {L : Env} {S : zb} (h : zB P n ro c K D L ([] :: S)) : zB P n ro c K D L S :=
 ⟨fun a w ha hw => h.out a w ha (hw.perm sM)⟩
abbrev Own8 (e : TypeId) (C : zd) (a : OA) (n cap : Nat) (bs : L8) : Prop := Own 1 e C a n cap (bs.map b8)
def New8 (e : TypeId) (bs : L8) (R : zb) (v : Value) (A : zb) : Prop := ∃ C a cap,v = .slice a bs.length cap /\ Own8 e C a bs.length cap bs /\ A = C :: R
end Go.Ost
namespace Go.Ost
open Go
variable {P : Program}
section bytes
variable (t : TypeId) (x y : Operand) (a b : UInt8) (n : Int) (κ : Value -> Prop)
theorem beq8 : ((a.toNat : Int) == b.toNat) = (a == b) := by
 by_cases h : a = b
 ·subst h;rw [beq_self_eq_true,beq_self_eq_true]
 ·have h2 : ¬ ((a.toNat : Int) = b.toNat) := fun e => h (UInt8.toNat_inj.1 oM)
  rw [beq_eq_false_iff_ne.2 h,beq_eq_false_iff_ne.2 h2]
theorem u8_eql : zk P (do eqGuard .eql t x y (b8 a) (b8 b);binOp .eql t (b8 a) (b8 b)) κ = κ (.bool (a == b)) := by
 refine (UX t x y .u8 _ _ κ).trans ?_;rw [beq8]
theorem u8_neq : zk P (do eqGuard .neq t x y (b8 a) (b8 b);binOp .neq t (b8 a) (b8 b)) κ = κ (.bool (a != b)) := by
 refine (UW t x y .u8 _ _ κ).trans ?_;rw [bne,beq8,bne]
theorem u8n_eql : zk P (do eqGuard .eql t x y (b8 a) (.int .u8 n);binOp .eql t (b8 a) (.int .u8 n)) κ = κ (.bool ((a.toNat : Int) == n)) := UX t x y .u8 _ _ κ
theorem u8n_neq : zk P (do eqGuard .neq t x y (b8 a) (.int .u8 n);binOp .neq t (b8 a) (.int .u8 n)) κ = κ (.bool ((a.toNat : Int) != n)) := UW t x y .u8 _ _ κ
theorem u8n_lss : zk P (do eqGuard .lss t x y (b8 a) (.int .u8 n);binOp .lss t (b8 a) (.int .u8 n)) κ = κ (.bool (decide ((a.toNat : Int) < n))) := gR t x y .u8 _ _ κ
theorem u8n_leq : zk P (do eqGuard .leq t x y (b8 a) (.int .u8 n);binOp .leq t (b8 a) (.int .u8 n)) κ = κ (.bool (decide ((a.toNat : Int) <= n))) := gS t x y .u8 _ _ κ
theorem u8n_gtr : zk P (do eqGuard .gtr t x y (b8 a) (.int .u8 n);binOp .gtr t (b8 a) (.int .u8 n)) κ = κ (.bool (decide (n < (a.toNat : Int)))) := gT t x y .u8 _ _ κ
theorem u8n_geq : zk P (do eqGuard .geq t x y (b8 a) (.int .u8 n);binOp .geq t (b8 a) (.int .u8 n)) κ = κ (.bool (decide (n <= (a.toNat : Int)))) := gU t x y .u8 _ _ κ
theorem yx : IntKind.u8.wrap (a.toNat : Int) = a.toNat := by
 have := a.toNat_lt;exact WY oM oM
theorem u8_xor : zk P (do eqGuard .xor t x y (b8 a) (b8 b);binOp .xor t (b8 a) (b8 b)) κ = κ (b8 (a ^^^ b)) :=
 zq (fun w => by
  show Result.ok (Value.int .u8 (IntKind.u8.wrap ((iE 8 (a.toNat : Int) ^^^ iE 8 (b.toNat : Int)).toNat : Int))) w = _
  have e : (iE 8 (a.toNat : Int) ^^^ iE 8 (b.toNat : Int)).toNat = (a ^^^ b).toNat := sM;rw [e,yx];rfl) κ
theorem u8_or : zk P (do eqGuard .or t x y (b8 a) (b8 b);binOp .or t (b8 a) (b8 b)) κ = κ (b8 (a ||| b)) :=
 zq (fun w => by
  show Result.ok (Value.int .u8 (IntKind.u8.wrap ((iE 8 (a.toNat : Int) ||| iE 8 (b.toNat : Int)).toNat : Int))) w = _
  have e : (iE 8 (a.toNat : Int) ||| iE 8 (b.toNat : Int)).toNat = (a ||| b).toNat := sM;rw [e,yx];rfl) κ
theorem u8_and : zk P (do eqGuard .and t x y (b8 a) (b8 b);binOp .and t (b8 a) (b8 b)) κ = κ (b8 (a &&& b)) :=
 zq (fun w => by
  show Result.ok (Value.int .u8 (IntKind.u8.wrap ((iE 8 (a.toNat : Int) &&& iE 8 (b.toNat : Int)).toNat : Int))) w = _
  have e : (iE 8 (a.toNat : Int) &&& iE 8 (b.toNat : Int)).toNat = (a &&& b).toNat := sM;rw [e,yx];rfl) κ
end bytes
end Go.Ost
namespace Go.Ost
open Go
variable {P : Program}
section strings
variable {t : TypeId} {bs : L8} {j k : IntKind} {l h i : Int} {κ : Value -> Prop}
theorem Vo (bs : L8) (l h : Nat) : (str bs).extract l h = str ((bs.take h).drop l) := by
 apply ByteArray.ext
 rw [ByteArray.data_extract]
 apply lS
 simp [str,List.extract_eq_take_drop,List.drop_take]
theorem sidx [ht : TStr P t] (h0 : 0 <= i) (h1 : i < bs.length) : zk P (Instr.index t (sT bs) (.int k i)) κ = κ (b8 (bs.getD i.toNat 0)) :=
 zq (fun w => by
  have e : (str bs)[i.toNat]? = some (bs.getD i.toNat 0) := by
   have h2 : i.toNat < bs.length := oM;have h3 : i.toNat < (str bs).size := h2;rw [getElem?_pos (str bs) i.toNat h3]
   congr 1
   show (bs.toArray)[i.toNat] = _
   rw [mB,aE h2,iR]
   rfl
  simp [Instr.index,asIntOf,Sem.run_bind,zL ht.und,Result.andThen,h0,e,b8]) κ
theorem scut_hi [ht : TStr P t] (h0 : 0 <= h) (h1 : h <= bs.length) : zk P (Instr.sliceAt t (sT bs) none (some (.int k h)) none) κ = κ (sT (bs.take h.toNat)) :=
 zq (fun w => by
  have hz : (str bs).size = bs.length := rfl;simp only [Instr.sliceAt,Instr.slice,Sem.run_bind,zL ht.und,Result.andThen,Instr.sliceBounds,Instr.sliceBound,asIntOf,Sem.run_pure]
  simp [Sem.run_bind,Result.andThen,hz,h0,h1,Vo]) κ
theorem scut_lo [ht : TStr P t] (l0 : 0 <= l) (l1 : l <= bs.length) : zk P (Instr.sliceAt t (sT bs) (some (.int j l)) none none) κ = κ (sT (bs.drop l.toNat)) :=
 zq (fun w => by
  have hz : (str bs).size = bs.length := rfl;simp only [Instr.sliceAt,Instr.slice,Sem.run_bind,zL ht.und,Result.andThen,Instr.sliceBounds,Instr.sliceBound,asIntOf,Sem.run_pure]
  simp [Sem.run_bind,Result.andThen,hz,l0,l1,Vo]) κ
theorem dK [ht : TStr P t] (h0 : 0 <= h) (h1 : h <= bs.length) (l0 : 0 <= l) (l1 : l <= h) : zk P (Instr.sliceAt t (sT bs) (some (.int j l)) (some (.int k h)) none) κ = κ (sT ((bs.take h.toNat).drop l.toNat)) :=
 zq (fun w => by
  have hz : (str bs).size = bs.length := rfl;have l1' : l <= max h 0 := oM;simp only [Instr.sliceAt,Instr.slice,Sem.run_bind,zL ht.und,Result.andThen,Instr.sliceBounds,Instr.sliceBound,asIntOf,Sem.run_pure]
  simp [Sem.run_bind,Result.andThen,hz,h0,h1,l0,l1,l1',Vo]) κ
theorem str_size (bs : L8) : (str bs).size = bs.length := rfl
end strings
theorem ext3_0 {a b c : Value} {κ : Value -> Prop} : zk P (Instr.extract (.tuple #[a,b,c]) 0) κ = κ a := zq (fun w => rfl) κ
theorem ext3_1 {a b c : Value} {κ : Value -> Prop} : zk P (Instr.extract (.tuple #[a,b,c]) 1) κ = κ b := zq (fun w => rfl) κ
theorem ext3_2 {a b c : Value} {κ : Value -> Prop} : zk P (Instr.extract (.tuple #[a,b,c]) 2) κ = κ c := zq (fun w => rfl) κ
section bits
variable (t : TypeId) (x y : Operand) (a b : UInt8) (n : Int) (κ : Value -> Prop)
theorem IN {n : Int} (h0 : 0 <= n) (h1 : n < 256) : Value.int .u8 n = b8 (aG n.toNat) := by
 unfold b8
 congr 1
 rw [iO];omega
theorem Kq : zk P (do eqGuard .andNot t x y (b8 a) (b8 b);binOp .andNot t (b8 a) (b8 b)) κ = κ (b8 (a &&& ~~~b)) :=
 zq (fun w => by
  show Result.ok (Value.int .u8 (IntKind.u8.wrap ((iE 8 (a.toNat : Int) &&& ~~~(iE 8 (b.toNat : Int))).toNat : Int))) w = _
  have e0 : ∀ x : UInt8,iE 8 (x.toNat : Int) = x.toBitVec := fun x => sM
  have e : (iE 8 (a.toNat : Int) &&& ~~~(iE 8 (b.toNat : Int))).toNat = (a &&& ~~~b).toNat := by
   rw [e0,e0];rfl
  rw [e,yx];rfl) κ
theorem u8n_and (h0 : 0 <= n) (h1 : n < 256) : zk P (do eqGuard .and t x y (b8 a) (.int .u8 n);binOp .and t (b8 a) (.int .u8 n)) κ = κ (b8 (a &&& aG n.toNat)) := by
 rw [IN h0 h1];exact u8_and t x y a _ κ
theorem IT (h0 : 0 <= n) (h1 : n < 256) : zk P (do eqGuard .andNot t x y (b8 a) (.int .u8 n);binOp .andNot t (b8 a) (.int .u8 n)) κ = κ (b8 (a &&& ~~~(aG n.toNat))) := by
 rw [IN h0 h1];exact Kq t x y a _ κ
theorem u8n_or (h0 : 0 <= n) (h1 : n < 256) : zk P (do eqGuard .or t x y (.int .u8 n) (b8 a);binOp .or t (.int .u8 n) (b8 a)) κ = κ (b8 (aG n.toNat ||| a)) := by
 rw [IN h0 h1];exact u8_or t x y _ a κ
end bits
end Go.Ost
namespace Go.Ost
open Go
variable {P : Program} {n : Nat} {α : Type}
structure kI (P : Program) (l : Nat) (args : LV) (Jin Jout Jstop : zd -> Prop) : Prop where
 out : ∀ C,Jin C -> ∀ (F : zd) (w : World),Hold w [F,C] -> YieldAt (FW none) 0 P l args.toArray w
  (ZX w fun v S => ∃ (b : Bool) (C' : zd),v = .bool b /\ S = [F,C'] /\ (b = true -> Jout C') /\ (b = false -> Jstop C'))
structure IMeets (P : Program) (f : FuncId) (first captured : LV) (encs : α -> LV) (A : zb) (Next : List α -> α -> Prop) (Done : List α -> Prop) (inf : Bool) : Prop where
 able : vH P f = true
 out : ∀ (l : Nat) (J Jx : List α -> zd -> Prop),(inf = true -> ∃ N,∀ pre C,J pre C -> pre.length <= N) ->
  (∀ pre x,Next pre x -> kI P l (encs x) (J pre) (J (pre ++ [x])) (Jx (pre ++ [x]))) ->
  ∀ C,J [] C -> ∀ (F : zd) (w : World),Hold w (F :: C :: A) -> CallsIn (FW none) 0 P f (first ++ [Value.func (.yield l) #[] #[]] ++ captured).toArray w
   (ZX w fun _ S => ∃ C',S = F :: C' :: A /\ ((∃ pre,Done pre /\ J pre C') ∨ (∃ pre x,Next pre x /\ Jx (pre ++ [x]) C')))
def qP (n : Nat) : List Tmp -> LV -> Env -> Env
 | p :: ps,v :: vs,L => qP n ps vs (putT n (some p) v L)
 | _,_,L => L
theorem WW {D : List Nat} : ∀ (ps : List Tmp) (vs : LV) (L : Env) (t : Array Value),jR n L D { tmps := t,defers := D.map VL } ->
  jR n (qP n ps vs L) D { tmps := (ps.zip vs).foldl (fun t (p,v) => t.setIfInBounds p v) t,defers := D.map VL }
 | [],vs,L,t,h => by cases vs <;> exact h
 | p :: ps,[],L,t,h => h
 | p :: ps,v :: vs,L,t,h => by
  simp only [qP,List.zip_cons_cons,List.foldl_cons];exact WW ps vs _ _ (h.put (some p) v)
def bodyK (l : Nat) (r : Loop) (F : zd) (I : zb -> Prop) (Ix : Code -> zb -> Prop) : Cont
 | .normal,_,_,S => ∃ C',I C' /\ zn ([(l,.loop r)] :: F :: C') S
 | .exit id,_,_,S => ∃ C',Ix (.exit id) C' /\ zn ([(l,.loop r)] :: F :: C') S
 | .goto t,_,_,S => ∃ C',Ix (.goto t) C' /\ zn ([(l,.loop r)] :: F :: C') S
 | .ret,_,_,S => ∃ C',Ix .ret C' /\ zn ([(l,.loop r)] :: F :: C') S
 | _,_,_,_ => False
def Qe (P : Program) (n : Nat) (l : Nat) (r : Loop) (body : Code) (F : zd) (I : zb -> Prop) (Ix : Code -> zb -> Prop) : Cont
 | .normal,D,L,S => ∃ T,zn ([(l,.loop r)] :: T) S /\ ∀ r',r'.defers = r.defers -> zB P n (some l) body (bodyK l r' F I Ix) D L ([(l,.loop r')] :: T)
 | _,_,_,_ => False
theorem vE {w : World} {l : Nat} {o o' : Obj} {T : zb} (hw : Hold w ([(l,o)] :: T)) : Hold (w.putObj l o') ([(l,o')] :: T) :=
 (Upd.one (S := T)).hold hw (World.putObj_heap_same (hw.lt (b := l) (o := o) sM)) (fun k hk => World.putObj_heap_other hk)
theorem kX (w : World) (l : Nat) (o : Obj) : Ext w (w.putObj l o) := ⟨rfl,rfl,rfl,sM⟩
theorem Js {l : Nat} {fn : FuncId} {t : Array Value} {ps : Array Tmp} {assign body : Code} {dB : Nat} {L : Env} {vs : LV} {I Iout : zb -> Prop} {Ix : Code -> zb -> Prop}
  (hag : jR n L [] { tmps := t,defers := [] }) (hps : vs.length = ps.size)
  (h : ∀ (F : zd) (C : zb) (r : Loop),r.defers = dB -> I C -> zB P n (some l) assign (Qe P n l r body F Iout Ix) [] (qP n ps.toList vs L) ([(l,.loop r)] :: F :: C)) :
  kI P l vs (fun C => ∃ C0 : zb,C = (l,.loop { state := .ready,pending := none,fn,tmps := t,params := ps,assign,body,defers := dB }) :: C0.flatten /\ I C0)
   (fun C => ∃ C0 : zb,C = (l,.loop { state := .ready,pending := none,fn,tmps := t,params := ps,assign,body,defers := dB }) :: C0.flatten /\ Iout C0)
   (fun C => ∃ (c : Code) (C0 : zb),C = (l,.loop { state := .done,pending := some c,fn,tmps := t,params := ps,assign,body,defers := dB }) :: C0.flatten /\ Ix c C0) := by
 refine ⟨?_⟩;rintro C ⟨C0,rfl,hI⟩ F w hw;obtain ⟨r0,hr0⟩ : ∃ r0 : Loop,r0 = { state := .ready,pending := none,fn,tmps := t,params := ps,assign,body,defers := dB } := ⟨_,rfl⟩;rw [<- hr0] at hw ⊢;have hw' : Hold w ([(l,.loop r0)] :: F :: C0) := hw.perm (by simp only [aO,iS,aL,aC,aD];exact List.perm_middle);have hl : w.heap[l]? = some (.loop r0) := hw'.get l _ sM;have hy := run_yield (P := P) (args := vs.toArray) hl (by rw [hr0];simpa using hps);refine ⟨_,_,_,_,hy,roundIn_of_wpIn trivial ?_⟩
 have hag' : jR n (qP n ps.toList vs L) [] { tmps := (r0.params.zip vs.toArray).foldl (fun t (p,v) => t.setIfInBounds p v) r0.tmps,defers := [] } := by
  have := WW ps.toList vs L t hag;rw [hr0];simp only;rw [<- Array.foldl_toList,Array.toList_zip];exact this
 have ha := (h F C0 r0 (by rw [hr0]) hI).out _ w hag' hw';rw [show r0.assign = assign from by rw [hr0]];refine wpIn_mono ha ?_;rintro e a1 w1 ⟨D1,L1,S1,hk,hag1,he1,hh1⟩
 cases e <;> first | exact hk.elim | skip
 obtain ⟨T,hT,hbody⟩ := hk;have hw1 := hT.hold hh1;have hl1 : w1.heap[l]? = some (.loop r0) := hw1.get l _ sM;refine ⟨_,run_beginRound hl1 (by rw [hr0]),?_⟩;obtain ⟨rb,hrb⟩ : ∃ rb : Loop,rb = { r0 with state := .busy } := ⟨_,rfl⟩;rw [<- hrb];have hb := (hbody rb (by rw [hrb])).out a1 _ hag1 (vE hw1);rw [show r0.body = body from by rw [hr0]];refine wpIn_mono hb ?_
 have fin : ∀ (jump : Option Code) (S2 : zb) (w2 : World) (C' : zb),Ext (w1.putObj l (.loop rb)) w2 -> Hold w2 S2 -> zn ([(l,.loop rb)] :: F :: C') S2 ->
   ∃ w3,(Instr.endRound l jump).run P w2 = .ok (.bool jump.isNone) w3 /\ Ext w w3 /\
    Hold w3 [F,(l,.loop { state := if jump.isNone then .ready else .done,pending := jump,fn,tmps := t,params := ps,assign,body,defers := dB }) :: C'.flatten] := by
  intro jump S2 w2 C' he hh hS;have hw2 := hS.hold hh;have hl2 : w2.heap[l]? = some (.loop rb) := hw2.get l _ sM;refine ⟨_,run_endRound (P := P) jump hl2,((he1.trans (kX _ _ _)).trans he).trans (kX _ _ _),?_⟩;have := vE (o' := .loop { rb with state := if jump.isNone then .ready else .done,pending := jump }) hw2;rw [hrb,hr0] at this;rw [hrb,hr0];exact this.perm (by simp only [aO,iS,aL,aC,aD];exact List.perm_middle.symm)
 rintro e a2 w2 ⟨D2,L2,S2,hk,hag2,he2,hh2⟩
 cases e with
 | normal =>
  obtain ⟨C',hI',hS⟩ := hk;obtain ⟨w3,hr,he,hh⟩ := fin none S2 w2 C' he2 hh2 hS;exact ⟨_,w3,hr,_,_,rfl,he,hh,true,_,rfl,rfl,fun _ => ⟨C',by rw [hr0];rfl,hI'⟩,fun h => by cases h⟩
 | ret =>
  obtain ⟨C',hI',hS⟩ := hk;obtain ⟨w3,hr,he,hh⟩ := fin (some .ret) S2 w2 C' he2 hh2 hS;exact ⟨_,w3,hr,_,_,rfl,he,hh,false,_,rfl,rfl,fun h => (by cases h),fun _ => ⟨.ret,C',sM,hI'⟩⟩
 | exit id =>
  obtain ⟨C',hI',hS⟩ := hk;obtain ⟨w3,hr,he,hh⟩ := fin (some (.exit id)) S2 w2 C' he2 hh2 hS;exact ⟨_,w3,hr,_,_,rfl,he,hh,false,_,rfl,rfl,fun h => (by cases h),fun _ => ⟨.exit id,C',sM,hI'⟩⟩
 | goto t =>
  obtain ⟨C',hI',hS⟩ := hk;obtain ⟨w3,hr,he,hh⟩ := fin (some (.goto t)) S2 w2 C' he2 hh2 hS;exact ⟨_,w3,hr,_,_,rfl,he,hh,false,_,rfl,rfl,fun h => (by cases h),fun _ => ⟨.goto t,C',sM,hI'⟩⟩
 | panic ch => exact hk.elim
 | outgrown => exact hk.elim
theorem JU {f : FuncId} (h : vH P f = true) (args : Array Value) (w : World) : (callFunc f args).run P w = .ok (.enter f args) w := by
 unfold vH at h
 split at h
 ·rename_i fn hf
  simp only [aM,bne_iff_ne,ne_eq] at h;obtain ⟨hn,hb⟩ := h;obtain ⟨c,hc⟩ := Option.isSome_iff_exists.1 hb
  simp [callFunc,program,Sem.run_bind,Sem.run,hf,hn,hc,Result.andThen]
 ·cases h
end Go.Ost
namespace Go.Ost
open Go
variable {P : Program} {n : Nat} {ro : Option Nat}
def Xw : Op -> Bool
 | .load .. | .lookup .. => true
 | .call { callee := .builtin .len,.. } => true
 | _ => false
def jL (P : Program) (op : Op) (t : TypeId) (L : Env) (S : zb) (κ : Value -> Prop) : Prop :=
 match op with
 | .move x | .assign x => zy (evT L x) fun v => κ v
 | .pick c a b => zy (evT L c) fun v => withB v fun g => zy (evT L (if g then a else b)) fun u => κ u
 | .build u ps => withP (evP L ps.toList) fun vs => zk P (Instr.build u vs.toArray) fun v => κ v
 | .load u x => zy (evT L x) fun a => xG P (Instr.loadAt u a) S fun v => κ v
 | .nilCheck x => zy (evT L x) fun v => NilW v fun v => κ v
 | .binOp o u x y _ => zy (evT L x) fun a => zy (evT L y) fun b => zk P (do eqGuard o u x y a b;binOp o u a b) fun v => κ v
 | .unOp o _ x => zy (evT L x) fun a => zk P (Op.unary o a) fun v => κ v
 | .convert s d x => zy (evT L x) fun v => zk P (convert s d v) fun v => κ v
 | .makeInterface u x => zy (evT L x) fun v => zk P (Instr.makeInterface u v) fun v => κ v
 | .makeFunc fn a b => kK (evL L a.toList) fun va => kK (evL L b.toList) fun vb => κ (.func fn va.toArray vb.toArray)
 | .slice u x lo hi mx => zy (evT L x) fun v => kY (evO L lo) fun a => kY (evO L hi) fun b => kY (evO L mx) fun c => zk P (Instr.sliceAt u v a b c) fun v => κ v
 | .sliceToArrayPointer u x => zy (evT L x) fun v => zk P (Instr.arrayAt u v) fun v => κ v
 | .fieldAddr u x f => zy (evT L x) fun v => zk P (Instr.fieldAt u v f) fun v => κ v
 | .field u x f => zy (evT L x) fun v => zk P (Instr.field u v f) fun v => κ v
 | .indexAddr u x i => zy (evT L x) fun v => zy (evT L i) fun j => zk P (Instr.indexAt u v j) fun v => κ v
 | .index u x i => zy (evT L x) fun v => zy (evT L i) fun j => zk P (Instr.index u v j) fun v => κ v
 | .lookup u x i ok => zy (evT L x) fun v => zy (evT L i) fun j => xG P (Instr.lookup u v j ok) S fun v => κ v
 | .typeAssert x u v ok => zy (evT L x) fun a => zk P (Instr.typeAssert a u v ok) fun v => κ v
 | .extract x i => zy (evT L x) fun a => zk P (Instr.extract a i) fun v => κ v
 | .call c => kK (evL L c.args.toList) fun vs =>
  match c.callee,vs with
  | .builtin .min,_ => zk P (Builtin.min_ c.argTypes t vs.toArray) fun v => κ v
  | .builtin .max,_ => zk P (Builtin.max_ c.argTypes t vs.toArray) fun v => κ v
  | .builtin .cap,_ => zk P (Builtin.cap_ c.argTypes t vs.toArray) fun v => κ v
  | .builtin .len,[.slice a n c'] => zk P (Builtin.len_ c.argTypes t #[.slice a n c']) fun v => κ v
  | .builtin .len,[.string s] => zk P (Builtin.len_ c.argTypes t #[.string s]) fun v => κ v
  | .builtin .len,[.map r] => xG P (Builtin.len_ c.argTypes t #[.map r]) S fun v => κ v
  | _,_ => False
 | _ => False
theorem pure_val {m : Sem Value} {κ : Value -> Prop} (h : zk P m κ) : ∃ v,κ v /\ ∀ w,(do pure (.value (<- m)) : Sem Next).run P w = .ok (.value v) w := by
 obtain ⟨v,h1,h2⟩ := h.out;exact ⟨v,h2,fun w => by simp [Sem.run_bind,h1 w,Result.andThen]⟩
theorem read_val {m : Sem Value} {S : zb} {κ : Value -> Prop} (h : xG P m S κ) : ∃ v,κ v /\ ∀ w,Hold w S -> (do pure (.value (<- m)) : Sem Next).run P w = .ok (.value v) w := by
 obtain ⟨v,h1,h2⟩ := h.out;exact ⟨v,h2,fun w hw => by simp [Sem.run_bind,h1 w hw,Result.andThen]⟩
theorem dy {o : Oper} {L : Env} {S : zb} {κ : Value -> Prop} (h : jL P o.op o.type L S κ) :
  ∃ v,κ v /\ ∀ (ρ : Operand -> Value),(∀ x v,evT L x = some v -> ρ x = v) -> ∀ w,(Xw o.op = true -> Hold w S) -> (execOp ρ o).run P w = .ok (.value v) w := by
 obtain ⟨dst,op,t,pos,after,guard⟩ := o
 have viaPure : ∀ {m : (Operand -> Value) -> Sem Value} {m0 : Sem Value},zk P m0 κ -> (∀ ρ : Operand -> Value,(∀ x v,evT L x = some v -> ρ x = v) -> m ρ = m0) ->
   ∃ v,κ v /\ ∀ (ρ : Operand -> Value),(∀ x v,evT L x = some v -> ρ x = v) -> ∀ w,(do pure (.value (<- m ρ)) : Sem Next).run P w = .ok (.value v) w := by
  intro m m0 hp he;obtain ⟨v,hk,hr⟩ := pure_val hp;exact ⟨v,hk,fun ρ hρ w => by rw [he ρ hρ];exact hr w⟩
 have viaRead : ∀ {m : (Operand -> Value) -> Sem Value} {m0 : Sem Value},xG P m0 S κ -> (∀ ρ : Operand -> Value,(∀ x v,evT L x = some v -> ρ x = v) -> m ρ = m0) ->
   ∃ v,κ v /\ ∀ (ρ : Operand -> Value),(∀ x v,evT L x = some v -> ρ x = v) -> ∀ w,Hold w S -> (do pure (.value (<- m ρ)) : Sem Next).run P w = .ok (.value v) w := by
  intro m m0 hp he;obtain ⟨v,hk,hr⟩ := read_val hp;exact ⟨v,hk,fun ρ hρ w hw => by rw [he ρ hρ];exact hr w hw⟩
 cases op <;> simp only [jL] at h <;> simp only [execOp,Xw]
 case move x => obtain ⟨v,hx,h⟩ := zp h;exact ⟨v,h,fun ρ hρ w _ => by rw [hρ x v hx];rfl⟩
 case assign x => obtain ⟨v,hx,h⟩ := zp h;exact ⟨v,h,fun ρ hρ w _ => by rw [hρ x v hx];rfl⟩
 case pick c a b =>
  obtain ⟨v,hx,h⟩ := zp h
  cases v <;> first | exact h.elim | skip
  rename_i g
  simp only [withB] at h;obtain ⟨u,hu,h⟩ := zp h;refine ⟨u,h,fun ρ hρ w _ => ?_⟩;have h1 := hρ _ _ hu;rw [hρ c _ hx]
  cases g <;> simp_all [asBool,Sem.run_bind,Result.andThen]
 case build u ps =>
  cases hp : evP L ps.toList with
  | none => rw [hp] at h;exact h.elim
  | some vs =>
   rw [hp] at h
   obtain ⟨v,hk,hr⟩ := viaPure (m := fun ρ => Instr.build u (ps.map fun (i,x) => (i,ρ x))) h (fun ρ hρ => by
    have e : (ps.map fun (i,x) => (i,ρ x)) = vs.toArray := lS (by simpa using VY hρ _ _ hp);rw [e])
   exact ⟨v,hk,fun ρ hρ w _ => hr ρ hρ w⟩
 case load u x =>
  obtain ⟨a,hx,h⟩ := zp h;obtain ⟨v,hk,hr⟩ := viaRead (m := fun ρ => Instr.loadAt u (ρ x)) h (fun ρ hρ => by simp only [hρ x a hx]);exact ⟨v,hk,fun ρ hρ w hw => hr ρ hρ w (hw trivial)⟩
 case nilCheck x =>
  obtain ⟨v,hx,h⟩ := zp h;unfold NilW at h
  split at h
  ·exact ⟨_,h,fun ρ hρ w _ => by rw [hρ x _ hx];rfl⟩
  ·exact ⟨_,h,fun ρ hρ w _ => by rw [hρ x _ hx];rfl⟩
  ·exact ⟨_,h,fun ρ hρ w _ => by rw [hρ x _ hx];rfl⟩
  ·exact h.elim
 case binOp o u x y yt =>
  obtain ⟨a,hx,h⟩ := zp h;obtain ⟨b,hy,h⟩ := zp h;obtain ⟨v,hk,hr⟩ := viaPure (m := fun ρ => do eqGuard o u x y (ρ x) (ρ y);binOp o u (ρ x) (ρ y)) h (fun ρ hρ => by simp only [hρ x a hx,hρ y b hy]);exact ⟨v,hk,fun ρ hρ w _ => hr ρ hρ w⟩
 case unOp o u x =>
  obtain ⟨a,hx,h⟩ := zp h;obtain ⟨v,hk,hr⟩ := viaPure (m := fun ρ => Op.unary o (ρ x)) h (fun ρ hρ => by simp only [hρ x a hx]);exact ⟨v,hk,fun ρ hρ w _ => hr ρ hρ w⟩
 case convert s d x =>
  obtain ⟨a,hx,h⟩ := zp h;obtain ⟨v,hk,hr⟩ := viaPure (m := fun ρ => convert s d (ρ x)) h (fun ρ hρ => by simp only [hρ x _ hx]);exact ⟨v,hk,fun ρ hρ w _ => hr ρ hρ w⟩
 case sliceToArrayPointer u x =>
  obtain ⟨a,hx,h⟩ := zp h;obtain ⟨v,hk,hr⟩ := viaPure (m := fun ρ => Instr.arrayAt u (ρ x)) h (fun ρ hρ => by simp only [hρ x a hx]);exact ⟨v,hk,fun ρ hρ w _ => hr ρ hρ w⟩
 case makeInterface u x =>
  obtain ⟨a,hx,h⟩ := zp h;obtain ⟨v,hk,hr⟩ := viaPure (m := fun ρ => Instr.makeInterface u (ρ x)) h (fun ρ hρ => by simp only [hρ x a hx]);exact ⟨v,hk,fun ρ hρ w _ => hr ρ hρ w⟩
 case makeFunc fn a b =>
  cases ha : evL L a.toList with
  | none => rw [ha] at h;exact h.elim
  | some va =>
   rw [ha] at h;simp only [kK] at h
   cases hb : evL L b.toList with
   | none => rw [hb] at h;exact h.elim
   | some vb =>
    rw [hb] at h;refine ⟨_,h,fun ρ hρ w _ => ?_⟩;have ea : a.map ρ = va.toArray := lS (by simpa using Ze hρ _ _ ha);have eb : b.map ρ = vb.toArray := lS (by simpa using Ze hρ _ _ hb);rw [ea,eb];rfl
 case slice u x lo hi mx =>
  obtain ⟨a,hx,h⟩ := zp h
  have h2 : ∃ v,κ v /\ ∀ (ρ : Operand -> Value),(∀ x v,evT L x = some v -> ρ x = v) -> ∀ w,(do pure (.value (<- Instr.sliceAt u (ρ x) (lo.map ρ) (hi.map ρ) (mx.map ρ))) : Sem Next).run P w = .ok (.value v) w := by
   cases h1 : evO L lo with
   | none => rw [h1] at h;exact h.elim
   | some lo' =>
    rw [h1] at h;simp only [kY] at h
    cases h2 : evO L hi with
    | none => rw [h2] at h;exact h.elim
    | some hi' =>
     rw [h2] at h;simp only at h
     cases h3 : evO L mx with
     | none => rw [h3] at h;exact h.elim
     | some mx' =>
      rw [h3] at h;simp only at h
      have out : ∀ {y : Option Operand} {y' : Option Value} {ρ : Operand -> Value},(∀ x v,evT L x = some v -> ρ x = v) -> evO L y = some y' -> y.map ρ = y' := by
       intro y y' ρ hρ he;have := wT (κ := fun z => z = y') hρ (x := y) (by rw [he];exact rfl);exact this
      exact viaPure (m := fun ρ => Instr.sliceAt u (ρ x) (lo.map ρ) (hi.map ρ) (mx.map ρ)) h (fun ρ hρ => by simp only [hρ x a hx,out hρ h1,out hρ h2,out hρ h3])
  obtain ⟨v,hk,hr⟩ := h2;exact ⟨v,hk,fun ρ hρ w _ => hr ρ hρ w⟩
 case fieldAddr u x f =>
  obtain ⟨a,hx,h⟩ := zp h;obtain ⟨v,hk,hr⟩ := viaPure (m := fun ρ => Instr.fieldAt u (ρ x) f) h (fun ρ hρ => by simp only [hρ x a hx]);exact ⟨v,hk,fun ρ hρ w _ => hr ρ hρ w⟩
 case field u x f =>
  obtain ⟨a,hx,h⟩ := zp h;obtain ⟨v,hk,hr⟩ := viaPure (m := fun ρ => Instr.field u (ρ x) f) h (fun ρ hρ => by simp only [hρ x a hx]);exact ⟨v,hk,fun ρ hρ w _ => hr ρ hρ w⟩
 case indexAddr u x y =>
  obtain ⟨a,hx,h⟩ := zp h;obtain ⟨b,hy,h⟩ := zp h;obtain ⟨v,hk,hr⟩ := viaPure (m := fun ρ => Instr.indexAt u (ρ x) (ρ y)) h (fun ρ hρ => by simp only [hρ x a hx,hρ y b hy]);exact ⟨v,hk,fun ρ hρ w _ => hr ρ hρ w⟩
 case index u x y =>
  obtain ⟨a,hx,h⟩ := zp h;obtain ⟨b,hy,h⟩ := zp h;obtain ⟨v,hk,hr⟩ := viaPure (m := fun ρ => Instr.index u (ρ x) (ρ y)) h (fun ρ hρ => by simp only [hρ x a hx,hρ y b hy]);exact ⟨v,hk,fun ρ hρ w _ => hr ρ hρ w⟩
 case lookup u x y ok =>
  obtain ⟨a,hx,h⟩ := zp h;obtain ⟨b,hy,h⟩ := zp h;obtain ⟨v,hk,hr⟩ := viaRead (m := fun ρ => Instr.lookup u (ρ x) (ρ y) ok) h (fun ρ hρ => by simp only [hρ x a hx,hρ y b hy]);exact ⟨v,hk,fun ρ hρ w hw => hr ρ hρ w (hw trivial)⟩
 case typeAssert x u v' ok =>
  obtain ⟨a,hx,h⟩ := zp h;obtain ⟨v,hk,hr⟩ := viaPure (m := fun ρ => Instr.typeAssert (ρ x) u v' ok) h (fun ρ hρ => by simp only [hρ x a hx]);exact ⟨v,hk,fun ρ hρ w _ => hr ρ hρ w⟩
 case extract x i =>
  obtain ⟨a,hx,h⟩ := zp h;obtain ⟨v,hk,hr⟩ := viaPure (m := fun ρ => Instr.extract (ρ x) i) h (fun ρ hρ => by simp only [hρ x a hx]);exact ⟨v,hk,fun ρ hρ w _ => hr ρ hρ w⟩
 case call c =>
  obtain ⟨callee,args,ats⟩ := c
  cases hp : evL L args.toList with
  | none => rw [hp] at h;exact h.elim
  | some vs =>
   rw [hp] at h;simp only [kK] at h;have e : ∀ ρ : Operand -> Value,(∀ x v,evT L x = some v -> ρ x = v) -> args.map ρ = vs.toArray := fun ρ hρ => lS (by simpa using Ze hρ _ _ hp)
   split at h
   ·subst_vars
    obtain ⟨v,hk,hr⟩ := viaPure (m := fun ρ => Builtin.min_ ats t (args.map ρ)) h (fun ρ hρ => by simp only [e ρ hρ]);exact ⟨v,hk,fun ρ hρ w _ => hr ρ hρ w⟩
   ·subst_vars
    obtain ⟨v,hk,hr⟩ := viaPure (m := fun ρ => Builtin.max_ ats t (args.map ρ)) h (fun ρ hρ => by simp only [e ρ hρ]);exact ⟨v,hk,fun ρ hρ w _ => hr ρ hρ w⟩
   ·subst_vars
    obtain ⟨v,hk,hr⟩ := viaPure (m := fun ρ => Builtin.cap_ ats t (args.map ρ)) h (fun ρ hρ => by simp only [e ρ hρ]);exact ⟨v,hk,fun ρ hρ w _ => hr ρ hρ w⟩
   ·subst_vars
    obtain ⟨v,hk,hr⟩ := viaPure (m := fun ρ => Builtin.len_ ats t (args.map ρ)) h (fun ρ hρ => by simp only [e ρ hρ]);exact ⟨v,hk,fun ρ hρ w _ => hr ρ hρ w⟩
   ·subst_vars
    obtain ⟨v,hk,hr⟩ := viaPure (m := fun ρ => Builtin.len_ ats t (args.map ρ)) h (fun ρ hρ => by simp only [e ρ hρ]);exact ⟨v,hk,fun ρ hρ w _ => hr ρ hρ w⟩
   ·subst_vars
    obtain ⟨v,hk,hr⟩ := viaRead (m := fun ρ => Builtin.len_ ats t (args.map ρ)) h (fun ρ hρ => by simp only [e ρ hρ]);exact ⟨v,hk,fun ρ hρ w hw => hr ρ hρ w (hw rfl)⟩
   ·exact h.elim
 all_goals exact h.elim
end Go.Ost
namespace Go.Ost
open Go
variable {P : Program} {n : Nat} {ro : Option Nat}
abbrev zW := Nat × Bool × List Nat
def qw (ops : Array Oper) (j : Nat) : Option Tmp := (ops[j]?).bind (·.dst)
def jh (ops : Array Oper) (j : Nat) : List Tmp := match ops[j]? with | some o => o.looksAt ops | none => []
def Vz (ops : Array Oper) (j : Nat) : Bool := match ops[j]? with | some o => Xw o.op | none => false
def jd (ops : Array Oper) (j : Nat) : List Nat := match ops[j]? with | some o => (o.after.toList.filter (Region.binds .any)).map (·.on) | none => []
def okAt (ops : Array Oper) (A : List (List Nat)) (n : Nat) (pre : List zW) (x : zW) : Bool :=
 (jd ops x.1).all (fun j => pre.any (·.1 == j)) &&
 pre.all (fun y => !y.2.1 || (A.getD x.1 []).contains y.1) &&
 !pre.any (·.1 == x.1) &&
 pre.all (fun y => y.2.1 ||
  ((match qw ops y.1 with | some d => !(jh ops x.1).contains d || (A.getD x.1 []).contains y.1 | none => true) &&
   (match qw ops x.1 with | some d => (!(jh ops y.1).contains d && qw ops y.1 != some d) || (x.2.1 && (A.getD x.1 []).contains y.1) | none => true) &&
   (!x.2.1 || !Vz ops y.1 || (A.getD x.1 []).contains y.1 || x.2.2.contains y.1))) &&
 (x.2.1 || (match qw ops x.1 with | some d => decide (d < n) && !(jh ops x.1).contains d | none => false)) &&
 decide (x.1 < ops.size)
def xQ (ops : Array Oper) (A : List (List Nat)) (n : Nat) : List zW -> List zW -> Bool
 | _,[] => true
 | pre,x :: l => okAt ops A n pre x && xQ ops A n (pre ++ [x]) l
def certB (ops : Array Oper) (A : List (List Nat)) : Bool :=
 (iC ops.size).all fun i => (A.getD i []).all fun j => (jd ops i).any fun e => e == j || (A.getD e []).contains j
def Wa (ops : Array Oper) (A : List (List Nat)) (n : Nat) (pl : List zW) : Bool :=
 certB ops A && xQ ops A n [] pl && (iC ops.size).all fun i => pl.any (·.1 == i)
def quietW (P : Program) (ops : Array Oper) (o : Oper) (L : Env) (S : zb) (κ : Value -> Prop) : Prop :=
 xA ops o L (jL P o.op o.type L S κ) (κ undef)
def xF (P : Program) (ops : Array Oper) : List Nat -> Env -> zb -> Prop -> Prop
 | [],_,_,p => p
 | j :: js,L,S,p =>
  match ops[j]? with
  | some o => (match o.dst with | some d => zy (lookT L d) fun v => quietW P ops o L S fun u => u = v | none => False) /\ xF P ops js L S p
  | none => False
def xD (P : Program) (n : Nat) (ops : Array Oper) (K : Env -> zb -> Prop) : List zW -> Env -> zb -> Prop
 | [],L,S => K L S
 | (i,false,_) :: l,L,S =>
  match ops[i]? with
  | some o => quietW P ops o L S fun v => xD P n ops K l (putT n o.dst v L) S
  | none => False
 | (i,true,pend) :: l,L,S =>
  match ops[i]? with
  | some o => xA ops o L (zY P o.op o.type L S fun v S' => xF P ops pend (putT n o.dst v L) S' (xD P n ops K l (putT n o.dst v L) S'))
    (xF P ops pend (putT n o.dst undef L) S (xD P n ops K l (putT n o.dst undef L) S))
  | none => False
def yL (P : Program) (ops : Array Oper) (o : Oper) (a : Act) (w : World) (v : Value) : Prop :=
 (Region.wanted o (yielded ops a.tmps) = true /\ (execOp a.eval o).run P w = .ok (.value v) w) ∨ (Region.wanted o (yielded ops a.tmps) = false /\ v = undef)
def kU (ts : List Tmp) (L : Env) (a : Act) : Prop := ∀ t ∈ ts,∀ u,lookT L t = some u -> a.tmps[t]? = some u
theorem kQ {ops : Array Oper} {o : Oper} {L : Env} {a : Act} {A B : Prop} (ha : kU (o.looksAt ops) L a) (h : xA ops o L A B) :
  (Region.wanted o (yielded ops a.tmps) = true /\ A) ∨ (Region.wanted o (yielded ops a.tmps) = false /\ B) := by
 unfold xA at h
 cases hg : o.guard with
 | none => rw [hg] at h;exact .inl ⟨by simp [Region.wanted,hg],h⟩
 | some g =>
  obtain ⟨j,want⟩ := g;rw [hg] at h;simp only at h
  cases hd : (ops[j]?).bind (·.dst) with
  | none => rw [hd] at h;exact h.elim
  | some d =>
   rw [hd] at h;simp only at h;have hmem : d ∈ o.looksAt ops := by simp [Oper.looksAt,hg,hd]
   cases hv : lookT L d with
   | none => rw [hv] at h;exact h.elim
   | some v =>
    rw [hv] at h;have ht := ha d hmem v hv
    cases v <;> first | exact h.elim | skip
    case bool b =>
     simp only [zy] at h
     split at h
     ·subst_vars;exact .inl ⟨by simp [Region.wanted,hg,yielded,hd,ht],h⟩
     ·rename_i hne;exact .inr ⟨by simp [Region.wanted,hg,yielded,hd,ht,hne],h⟩
    case tuple vs => exact .inr ⟨by simp [Region.wanted,hg,yielded,hd,ht],h⟩
theorem XR {ops : Array Oper} {o : Oper} {L : Env} {a : Act} (ha : kU (o.looksAt ops) L a) :
  ∃ ρ : Operand -> Value,(∀ x v,evT L x = some v -> ρ x = v) /\ ∀ x ∈ o.op.operands,ρ x = a.eval x := by
 refine ⟨fun x => (evT L x).getD (a.eval x),fun x v h => by simp [h],fun x hx => ?_⟩;simp only
 cases h : evT L x with
 | none => rfl
 | some v =>
  simp only [iR]
  cases x with
  | tmp t =>
   have hmem : t ∈ o.looksAt ops := iG _ (List.mem_filterMap.2 ⟨.tmp t,by simpa using hx,rfl⟩);have := ha t hmem v h
   simp [Act.eval,this]
  | const u => cases h;rfl
  | global g => cases h;rfl
  | func f => cases h;rfl
theorem XD {op : Op} {t : TypeId} {L : Env} {S : zb} {κ : Value -> Prop} (h : jL P op t L S κ) : ∀ cs b,op ≠ .select cs b := by intro cs b e;subst e;exact h
theorem kr {op : Op} {t : TypeId} {L : Env} {S : zb} {κ : Value -> Prop} (h : jL P op t L S κ) : ∀ c,op ≠ .defer c := by intro cs e;subst e;exact h
theorem vU {op : Op} {t : TypeId} {L : Env} {S : zb} {κ : Value -> zb -> Prop} (h : zY P op t L S κ) : ∀ cs b,op ≠ .select cs b := by intro cs b e;subst e;exact h
theorem yf {ops : Array Oper} {o : Oper} {L : Env} {S : zb} {κ : Value -> Prop} (h : quietW P ops o L S κ) :
  ∃ v,κ v /\ ((∀ c,o.op ≠ .defer c) ∨ o.guard ≠ none) /\ ∀ a w,kU (o.looksAt ops) L a -> (Xw o.op = true -> Hold w S) -> yL P ops o a w v /\ ((∀ c,o.op ≠ .defer c) ∨ Region.wanted o (yielded ops a.tmps) = false) := by
 unfold quietW at h
 by_cases hd : ∃ a,kU (o.looksAt ops) L a /\ Region.wanted o (yielded ops a.tmps) = true
 ·obtain ⟨a0,h1,h2⟩ := hd
  rcases kQ h1 h with ⟨_,hs⟩ | ⟨h3,_⟩
  ·obtain ⟨v,hk,hr⟩ := dy hs;refine ⟨v,hk,.inl (kr hs),fun a w ha hw => ⟨?_,.inl (kr hs)⟩⟩
   have hwn : Region.wanted o (yielded ops a.tmps) = true := by
    unfold xA at h
    cases hg : o.guard with
    | none => simp [Region.wanted,hg]
    | some g =>
     obtain ⟨j,want⟩ := g;rw [hg] at h;simp only at h
     cases hdd : (ops[j]?).bind (·.dst) with
     | none => rw [hdd] at h;exact h.elim
     | some d =>
      rw [hdd] at h;simp only at h;have hmem : d ∈ o.looksAt ops := by simp [Oper.looksAt,hg,hdd]
      cases hv : lookT L d with
      | none => rw [hv] at h;exact h.elim
      | some v' =>
       have e1 := h1 d hmem v' hv;have e2 := ha d hmem v' hv;simp only [Region.wanted,hg,yielded,hdd,e1,e2,Option.bind_some] at h2 ⊢;exact h2
   obtain ⟨ρ,hρ,he⟩ := XR ha;refine .inl ⟨hwn,?_⟩;rw [<- execOp_congr o (XD hs) he];exact hr ρ hρ w hw
  ·rw [h2] at h3;cases h3
 ·refine ⟨undef,?_,?_,fun a w ha _ => ?_⟩
  ·by_cases hg : o.guard = none
   ·exfalso
    exact hd ⟨{ tmps := Array.ofFn (n := (L.map (·.1)).foldr max 0 + 1) (fun i => (lookT L i).getD undef),defers := [] },by
     intro t _ u hu
     have hb : ∀ (L : Env) t u,lookT L t = some u -> t <= (L.map (·.1)).foldr max 0 := by
      intro L
      induction L with
      | nil => intro t u h;simp [lookT] at h
      | cons x L ih =>
       obtain ⟨d,v⟩ := x;intro t u h;simp only [lookT] at h;simp only [iB,List.foldr_cons]
       split at h
       ·subst_vars;exact Nat.le_max_left _ _
       ·exact mN (ih t u h) (Nat.le_max_right _ _)
     have := hb L t u hu;rw [Array.getElem?_ofFn];rw [dif_pos oM]
     simp [hu],by simp [Region.wanted,hg]⟩
   ·
    unfold xA at h
    cases hg' : o.guard with
    | none => exact absurd hg' hg
    | some g =>
     obtain ⟨j,want⟩ := g;rw [hg'] at h;simp only at h
     cases hdd : (ops[j]?).bind (·.dst) with
     | none => rw [hdd] at h;exact h.elim
     | some d =>
      rw [hdd] at h;simp only at h
      cases hv : lookT L d with
      | none => rw [hv] at h;exact h.elim
      | some v =>
       rw [hv] at h
       cases v <;> first | exact h.elim | skip
       case tuple vs => exact h
       case bool b =>
        simp only [zy] at h
        split at h
        ·rename_i hb
         exfalso
         exact hd ⟨{ tmps := Array.ofFn (n := (L.map (·.1)).foldr max 0 + 1) (fun i => (lookT L i).getD undef),defers := [] },by
          intro t _ u hu
          have hb : ∀ (L : Env) t u,lookT L t = some u -> t <= (L.map (·.1)).foldr max 0 := by
           intro L
           induction L with
           | nil => intro t u h;simp [lookT] at h
           | cons x L ih =>
            obtain ⟨d,v⟩ := x;intro t u h;simp only [lookT] at h;simp only [iB,List.foldr_cons]
            split at h
            ·subst_vars;exact Nat.le_max_left _ _
            ·exact mN (ih t u h) (Nat.le_max_right _ _)
          have := hb L t u hu;rw [Array.getElem?_ofFn];rw [dif_pos oM]
          simp [hu],by
          have hb' : ∀ (L : Env) t u,lookT L t = some u -> t <= (L.map (·.1)).foldr max 0 := by
           intro L
           induction L with
           | nil => intro t u h;simp [lookT] at h
           | cons x L ih =>
            obtain ⟨d,v⟩ := x;intro t u h;simp only [lookT] at h;simp only [iB,List.foldr_cons]
            split at h
            ·subst_vars;exact Nat.le_max_left _ _
            ·exact mN (ih t u h) (Nat.le_max_right _ _)
          have := hb' L d _ hv;simp only [Region.wanted,hg',yielded,hdd,Option.bind_some];rw [Array.getElem?_ofFn,dif_pos oM]
          simp [hv,hb]⟩
        ·exact h
  ·by_cases hg : o.guard = none
   ·exact .inl (by
     unfold xA at h;rw [hg] at h;exact kr h)
   ·exact .inr hg
  ·have hf : Region.wanted o (yielded ops a.tmps) = false := by
    cases hx : Region.wanted o (yielded ops a.tmps) with
    | false => rfl
    | true => exact absurd ⟨a,ha,hx⟩ hd
   exact ⟨.inr ⟨hf,rfl⟩,.inr hf⟩
theorem vk {ops : Array Oper} {i : Nat} {o : Oper} {a : Act} {w : World} {v : Value} {K : Act -> World -> Prop} {Q : Exit -> Act -> World -> Prop} (ho : ops[i]? = some o)
  (hy : yL P ops o a w v) (hd : (∀ c,o.op ≠ .defer c) ∨ Region.wanted o (yielded ops a.tmps) = false) (h : K (a.put o.dst v) w) : wpOpIn (FW ro) 0 P ops Q i K a w := by
 unfold wpOpIn;rw [ho];simp only
 rcases hy with ⟨hw,hr⟩ | ⟨hw,rfl⟩
 ·rw [if_pos hw];refine ⟨fun _ _ => trivial,?_⟩;rw [Oper.semAt_eq _ _ _ (hd.resolve_right (by simp [hw])),hr];exact h
 ·rw [if_neg (by simp [hw])];exact ⟨fun _ _ => trivial,h⟩
theorem wH {p q : Nat -> Bool} {i : Nat} : ∀ (l : List Nat),(∀ x,q x = true -> p x = true) -> i ∈ l -> p i = true -> q i = false -> (l.filter q).length < (l.filter p).length
 | [],_,h,_,_ => by cases h
 | x :: l,hpq,hi,hp,hq => by
  have le : ∀ l : List Nat,(l.filter q).length <= (l.filter p).length := by
   intro l
   induction l with
   | nil => simp
   | cons y l ih =>
    simp only [List.filter_cons]
    by_cases h1 : q y = true
    ·rw [if_pos h1,if_pos (hpq y h1)];simpa using ih
    ·rw [if_neg h1]
     split
     ·simp only [aH];omega
     ·exact ih
  simp only [List.filter_cons]
  rcases List.mem_cons.1 hi with rfl | hi
  ·rw [if_neg (by simp [hq]),if_pos hp];have := le l;simp only [aH];omega
  ·have ih := wH l hpq hi hp hq
   by_cases h1 : q x = true
   ·rw [if_pos h1,if_pos (hpq x h1)];simp only [aH];omega
   ·rw [if_neg h1]
    split
    ·simp only [aH];omega
    ·exact ih
theorem JF {m : Nat} {dst : Option Tmp} {v : Value} {L : Env} {t : Nat} {u : Value} (h : lookT (putT m dst v L) t = some u) : (dst = some t /\ t < m /\ u = v) ∨ (lookT L t = some u) := by
 cases dst with
 | none => exact .inr h
 | some d =>
  simp only [putT] at h
  split at h
  ·simp only [lookT] at h
   split at h
   ·cases h;subst_vars;exact .inl ⟨rfl,‹_›,rfl⟩
   ·exact .inr h
  ·exact .inr h
theorem yk {m : Nat} {dst : Option Tmp} {v : Value} {L : Env} {t : Nat} (h : dst ≠ some t) : lookT (putT m dst v L) t = lookT L t := by
 cases dst with
 | none => rfl
 | some d =>
  simp only [putT]
  split
  ·simp only [lookT];rw [if_neg (fun e => h (by rw [e]))]
  ·rfl
structure DInv (P : Program) (n : Nat) (ops : Array Oper) (A : List (List Nat)) (K : Env -> zb -> Prop) (D : List Nat) (w0 : World) (pre l : List zW) (listed : Array Bool) (L : Env) (S : zb) (a : Act) (w : World) : Prop where
 size : listed.size = ops.size
 inPre : ∀ i,listed.getD i false = true -> ∃ x ∈ pre,x.1 = i
 effs : ∀ x ∈ pre,x.2.1 = true -> listed.getD x.1 false = true
 clos : ∀ i,listed.getD i false = true -> ∀ j ∈ A.getD i [],listed.getD j false = true
 tmps : ∀ t v,lookT L t = some v -> (∃ x ∈ pre,listed.getD x.1 false = false /\ qw ops x.1 = some t) ∨ a.tmps[t]? = some v
 facts : ∀ x ∈ pre,listed.getD x.1 false = false -> ∃ o v,ops[x.1]? = some o /\ (∃ d,o.dst = some d /\ d < n /\ lookT L d = some v) /\
  ∀ a' w',kU (o.looksAt ops) L a' -> (Xw o.op = true -> Hold w' S) -> yL P ops o a' w' v /\ ((∀ c,o.op ≠ .defer c) ∨ Region.wanted o (yielded ops a'.tmps) = false)
 prs : ∀ x ∈ pre,∀ y ∈ pre,x.2.1 = false -> y.2.1 = false -> ∀ d,qw ops y.1 = some d -> d ∈ jh ops x.1 -> y.1 ∈ A.getD x.1 []
 asz : a.tmps.size = n
 dfr : a.defers = D.map VL
 ext : Ext w0 w
 hold : Hold w S
 ok : xQ ops A n pre l = true
 pres : xQ ops A n [] pre = true
 all : ∀ i,i < ops.size -> (∃ x ∈ pre,x.1 = i) ∨ ∃ x ∈ l,x.1 = i
 rest : xD P n ops K l L S
theorem xK {ops : Array Oper} {A : List (List Nat)} {pre : List zW} {x : zW} (h : okAt ops A n pre x = true) :
  (∀ j ∈ jd ops x.1,∃ y ∈ pre,y.1 = j) /\ (∀ y ∈ pre,y.2.1 = true -> y.1 ∈ A.getD x.1 []) /\ (∀ y ∈ pre,y.1 ≠ x.1) /\
  (∀ y ∈ pre,y.2.1 = false -> (∀ d,qw ops y.1 = some d -> d ∈ jh ops x.1 -> y.1 ∈ A.getD x.1 []) /\
   (∀ d,qw ops x.1 = some d -> (d ∉ jh ops y.1 /\ qw ops y.1 ≠ some d) ∨ (x.2.1 = true /\ y.1 ∈ A.getD x.1 [])) /\
   (x.2.1 = true -> Vz ops y.1 = true -> y.1 ∈ A.getD x.1 [] ∨ y.1 ∈ x.2.2)) /\
  (x.2.1 = false -> ∃ d,qw ops x.1 = some d /\ d < n /\ d ∉ jh ops x.1) /\ x.1 < ops.size := by
 simp only [okAt,aM,decide_eq_true_eq] at h;obtain ⟨⟨⟨⟨⟨h1,h2⟩,h3⟩,h4⟩,h5⟩,h6⟩ := h;refine ⟨fun j hj => ?_,fun y hy he => ?_,fun y hy he => ?_,fun y hy he => ⟨fun d hd hl => ?_,fun d hd => ?_,fun hx hr => ?_⟩,fun hx => ?_,h6⟩
 ·have := List.all_eq_true.1 h1 j hj;obtain ⟨y,hy,e⟩ := List.any_eq_true.1 this;exact ⟨y,hy,by simpa using e⟩
 ·have := List.all_eq_true.1 h2 y hy
  simpa [he] using this
 ·simp only [mI,List.any_eq_false] at h3;exact h3 y hy (by simpa using he)
 ·have := List.all_eq_true.1 h4 y hy;simp only [he,mS,aM,hd] at this
  simpa [hl] using this.1.1
 ·have := List.all_eq_true.1 h4 y hy;simp only [he,mS,aM,hd] at this;have := this.1.2;simp only [mP,aM,mI,List.contains_eq_mem,decide_eq_false_iff_not,bne_iff_ne,ne_eq,decide_eq_true_eq] at this;exact this
 ·have := List.all_eq_true.1 h4 y hy;simp only [he,mS,aM] at this;have := this.2
  simpa [hx,hr] using this
 ·simp only [hx,mS] at h5
  cases hd : qw ops x.1 with
  | none => rw [hd] at h5;cases h5
  | some d =>
   rw [hd] at h5;simp only [aM,decide_eq_true_eq,mI,List.contains_eq_mem,decide_eq_false_iff_not] at h5;exact ⟨d,rfl,h5.1,h5.2⟩
theorem qQ {ops : Array Oper} {A : List (List Nat)} {x : zW} : ∀ (l pre : List zW),xQ ops A n pre l = true -> okAt ops A n (pre ++ l) x = true -> xQ ops A n pre (l ++ [x]) = true
 | [],pre,_,h => by simpa [xQ] using h
 | y :: l,pre,h,hx => by
  simp only [xQ,aM,aC] at h ⊢;exact ⟨h.1,qQ l _ h.2 (by simpa using hx)⟩
theorem yY {ops : Array Oper} {A : List (List Nat)} {x : zW} : ∀ (l pre : List zW) (k : Nat),xQ ops A n pre l = true -> l[k]? = some x -> okAt ops A n (pre ++ l.take k) x = true
 | [],_,_,_,h => by simp at h
 | y :: l,pre,0,h,hx => by
  simp only [xQ,aM] at h
  simp at hx;subst hx
  simpa using h.1
 | y :: l,pre,k + 1,h,hx => by
  simp only [xQ,aM] at h;simp only [iD] at hx;have := yY l (pre ++ [y]) k h.2 hx
  simpa using this
theorem kB {ops : Array Oper} {A : List (List Nat)} : ∀ (l pre : List zW),xQ ops A n pre l = true -> ∀ x ∈ l,∃ q,okAt ops A n (pre ++ q) x = true
 | [],_,_,x,hx => by cases hx
 | y :: l,pre,h,x,hx => by
  simp only [xQ,aM] at h
  rcases List.mem_cons.1 hx with rfl | hx
  ·exact ⟨[],by simpa using h.1⟩
  ·obtain ⟨q,hq⟩ := kB l (pre ++ [y]) h.2 x hx;exact ⟨y :: q,by simpa using hq⟩
theorem DInv.norm {ops : Array Oper} {A : List (List Nat)} {K : Env -> zb -> Prop} {D : List Nat} {w0 : World} : ∀ (l pre : List zW) (listed : Array Bool) (L : Env) (S : zb) (a : Act) (w : World),
  DInv P n ops A K D w0 pre l listed L S a w -> ∃ pre' l' L',DInv P n ops A K D w0 pre' l' listed L' S a w /\ (l' = [] ∨ ∃ i pend l'',l' = (i,true,pend) :: l'')
 | [],pre,listed,L,S,a,w,h => ⟨pre,[],L,h,.inl rfl⟩
 | (i,true,pend) :: l,pre,listed,L,S,a,w,h => ⟨pre,_,L,h,.inr ⟨i,pend,l,rfl⟩⟩
 | (i,false,pend) :: l,pre,listed,L,S,a,w,h => by
  have hok := h.ok;simp only [xQ,aM] at hok;obtain ⟨o1,o2,o3,o4,o5,o6⟩ := xK hok.1;obtain ⟨d,hd,hdn,hdl⟩ := o5 rfl;have hr := h.rest;simp only [xD] at hr
  cases ho : ops[i]? with
  | none => rw [ho] at hr;exact hr.elim
  | some o =>
   rw [ho] at hr;simp only at hr;obtain ⟨v,hk,_,hq⟩ := yf hr;have hdo : o.dst = some d := by simpa [qw,ho] using hd
   have hlo : jh ops i = o.looksAt ops := by simp [jh,ho]
   have hunl : listed.getD i false = false := by
    cases hx : listed.getD i false with
    | false => rfl
    | true => obtain ⟨y,hy,e⟩ := h.inPre i hx;exact absurd e (o3 y hy)
   have hL : putT n o.dst v L = (d,v) :: L := by simp [putT,hdo,hdn]
   rw [hL] at hk
   have keepA : ∀ (ts : List Tmp) (a' : Act),d ∉ ts -> kU ts ((d,v) :: L) a' -> kU ts L a' := by
    intro ts a' hn ha t ht u hu;refine ha t ht u ?_;simp only [lookT];rw [if_neg (fun e => hn (by rw [<- e];exact ht))];exact hu
   refine DInv.norm l (pre ++ [(i,false,pend)]) listed ((d,v) :: L) S a w ⟨h.size,?_,?_,h.clos,?_,?_,?_,h.asz,h.dfr,h.ext,h.hold,hok.2,qQ _ _ h.pres (by simpa using hok.1),?_,hk⟩
   ·intro j hj;obtain ⟨x,hx,e⟩ := h.inPre j hj;exact ⟨x,iG _ hx,e⟩
   ·intro x hx he
    rcases List.mem_append.1 hx with hx | hx
    ·exact h.effs x hx he
    ·simp at hx;subst hx;cases he
   ·intro t u hu;simp only [lookT] at hu
    split at hu
    ·subst_vars;exact .inl ⟨(i,false,pend),sM,hunl,hd⟩
    ·rcases h.tmps t u hu with ⟨x,hx,h1,h2⟩ | h3
     ·exact .inl ⟨x,iG _ hx,h1,h2⟩
     ·exact .inr h3
   ·intro x hx hxl
    rcases List.mem_append.1 hx with hx | hx
    ·obtain ⟨o',v',h1,⟨d',h2,h3,h4⟩,h5⟩ := h.facts x hx hxl
     have hxe : x.2.1 = false := by
      cases hh : x.2.1 with
      | false => rfl
      | true => rw [h.effs x hx hh] at hxl;cases hxl
     have hne := ((o4 x hx hxe).2.1 d hd).resolve_right (fun hh => by cases hh.1);have hd' : qw ops x.1 = some d' := by simp [qw,h1,h2]
     refine ⟨o',v',h1,⟨d',h2,h3,?_⟩,fun a' w' ha hw => h5 a' w' (keepA _ a' (by simpa [jh,h1] using hne.1) ha) hw⟩;simp only [lookT];rw [if_neg (fun e => hne.2 (by rw [hd',e]))];exact h4
    ·simp at hx;subst hx
     refine ⟨o,v,ho,⟨d,hdo,hdn,by simp [lookT]⟩,fun a' w' ha hw => hq a' w' (keepA _ a' (by rw [<- hlo];exact hdl) ha) hw⟩
   ·intro x hx y hy hxe hye d' hd' hl'
    rcases List.mem_append.1 hx with hx | hx
    ·rcases List.mem_append.1 hy with hy | hy
     ·exact h.prs x hx y hy hxe hye d' hd' hl'
     ·simp at hy;subst hy
      rw [hd] at hd';cases hd'
      exact absurd hl' (((o4 x hx hxe).2.1 d hd).resolve_right (fun hh => by cases hh.1)).1
    ·simp at hx;subst hx
     rcases List.mem_append.1 hy with hy | hy
     ·exact (o4 y hy hye).1 d' hd' hl'
     ·simp at hy;subst hy
      rw [hd] at hd';cases hd'
      exact absurd hl' hdl
   ·intro j hj
    rcases h.all j hj with ⟨x,hx,e⟩ | ⟨x,hx,e⟩
    ·exact .inl ⟨x,iG _ hx,e⟩
    ·rcases List.mem_cons.1 hx with rfl | hx
     ·exact .inl ⟨_,sM,e⟩
     ·exact .inr ⟨x,hx,e⟩
theorem zK {listed : Array Bool} {i j : Nat} (hi : i < listed.size) : (listed.setIfInBounds i true).getD j false = (if j = i then true else listed.getD j false) := by
 simp only [Array.getD_eq_getD_getElem?,Array.getElem?_setIfInBounds]
 by_cases h : i = j
 ·subst h;simp [hi]
 ·rw [if_neg h,if_neg (Ne.symm h)]
theorem Zn {ops : Array Oper} {L : Env} {S : zb} {p : Prop} : ∀ (js : List Nat),xF P ops js L S p -> p /\ ∀ j ∈ js,∃ o d v,ops[j]? = some o /\ o.dst = some d /\ lookT L d = some v /\ quietW P ops o L S fun u => u = v
 | [],h => ⟨h,fun j hj => by cases hj⟩
 | j :: js,h => by
  simp only [xF] at h
  cases ho : ops[j]? with
  | none => rw [ho] at h;exact h.elim
  | some o =>
   rw [ho] at h;obtain ⟨h1,h2⟩ := h;obtain ⟨hp,hr⟩ := Zn js h2;refine ⟨hp,fun k hk => ?_⟩
   rcases List.mem_cons.1 hk with rfl | hk
   ·cases hd : o.dst with
    | none => rw [hd] at h1;exact h1.elim
    | some d =>
     rw [hd] at h1
     cases hv : lookT L d with
     | none => simp only [hv] at h1;exact h1.elim
     | some v => simp only [hv] at h1;exact ⟨o,d,v,ho,hd,hv,h1⟩
   ·exact hr k hk
theorem gy {ops : Array Oper} {A : List (List Nat)} {K : Cont} {D : List Nat} {w0 : World} (hc : certB ops A = true) : ∀ (fuel : Nat) (pre l : List zW) (listed : Array Bool) (L : Env) (S : zb) (a : Act) (w : World),
  DInv P n ops A (K .normal D) D w0 pre l listed L S a w -> ((iC ops.size).filter fun i => !listed.getD i false).length <= fuel ->
  wpAnyIn (FW ro) 0 P .any ops (KQ n K w0) fuel listed a w := by
 intro fuel
 have fin : ∀ (pre l : List zW) (listed : Array Bool) (L : Env) (S : zb) (a : Act) (w : World),DInv P n ops A (K .normal D) D w0 pre l listed L S a w -> Region.ready .any ops listed = [] -> KQ n K w0 .normal a w := by
  intro pre l listed L S a w h hr;obtain ⟨pre,l,L,h,hl⟩ := h.norm
  have ready : ∀ i,i < ops.size -> (∀ j ∈ jd ops i,listed.getD j false = true) -> listed.getD i false = true := by
   intro i hi hall
   cases hx : listed.getD i false with
   | true => rfl
   | false =>
    exfalso
    have : i ∈ Region.ready .any ops listed := by
     refine List.mem_filter.2 ⟨List.mem_range.2 hi,?_⟩;have hsz : i < listed.size := by rw [h.size];exact hi
     have h1 : listed.getD i true = false := by simpa [Array.getD_eq_getD_getElem?,hsz] using hx
     have ho : ops[i]? = some ops[i] := by simp [hi]
     rw [h1,ho];simp only [lX,iR,Bool.not_false,mM];rw [Array.all_eq_true'];intro e he
     by_cases hb : Region.binds .any e = true
     ·have := hall e.on (by simp only [jd,ho];exact List.mem_map.2 ⟨e,List.mem_filter.2 ⟨by simpa using he,hb⟩,rfl⟩)
      simp [this]
     ·simp [hb]
    rw [hr] at this;cases this
  have pend : ∀ (k : Nat) (x : zW),pre[k]? = some x -> listed.getD x.1 false = true := by
   intro k
   induction k using Nat.strongRecOn with
   | _ k ih =>
    intro x hx;obtain ⟨o1,_,_,_,_,o6⟩ := xK (yY pre [] k h.pres hx);refine ready x.1 o6 fun j hj => ?_
    obtain ⟨y,hy,e⟩ := o1 j hj;rw [aD] at hy;obtain ⟨k',hk'⟩ := List.mem_iff_getElem?.1 hy
    have hlt : k' < k := by
     have := (List.getElem?_eq_some_iff.1 hk').1
     simp at this;omega
    rw [<- e];refine ih k' hlt y ?_;rw [lY hlt] at hk';exact hk'
  rcases hl with rfl | ⟨i,pd,l'',rfl⟩
  ·refine ⟨D,L,S,h.rest,⟨h.asz,fun t v ht => ?_,h.dfr⟩,h.ext,h.hold⟩
   rcases h.tmps t v ht with ⟨x,hx,h1,_⟩ | h3
   ·obtain ⟨k,hk⟩ := List.mem_iff_getElem?.1 hx;rw [pend k x hk] at h1;cases h1
   ·exact h3
  ·exfalso
   have hok := h.ok;simp only [xQ,aM] at hok;obtain ⟨o1,_,o3,_,_,o6⟩ := xK hok.1
   have hi : listed.getD i false = true := by
    refine ready i o6 fun j hj => ?_
    obtain ⟨y,hy,e⟩ := o1 j hj;obtain ⟨k,hk⟩ := List.mem_iff_getElem?.1 hy;rw [<- e];exact pend k y hk
   obtain ⟨y,hy,e⟩ := h.inPre i hi;exact o3 y hy e
 induction fuel with
 | zero =>
  intro pre l listed L S a w h hle
  have hr : Region.ready .any ops listed = [] := by
   have h0 : ((iC ops.size).filter fun i => !listed.getD i false) = [] := List.eq_nil_of_length_eq_zero (Nat.le_zero.1 hle);unfold Region.ready;rw [List.filter_eq_nil_iff] at h0 ⊢;intro i hi;have := h0 i hi;have hsz : i < listed.size := by rw [h.size];exact List.mem_range.1 hi
   simp only [Array.getD_eq_getD_getElem?,hsz,mD,iR] at this ⊢;simp only [mI,Bool.not_eq_false] at this
   simp [this]
  exact ⟨hr,fin pre l listed L S a w h hr⟩
 | succ fuel ih =>
  intro pre l listed L S a w h hle;refine ⟨fun hr => fin pre l listed L S a w h hr,fun i hi => ?_⟩;obtain ⟨pre,l,L,h,hl⟩ := h.norm;obtain ⟨hi1,hi2⟩ := List.mem_filter.1 hi;have him := List.mem_range.1 hi1;have hsz : i < listed.size := by rw [h.size];exact him
  have ho : ops[i]? = some ops[i] := by simp [him]
  rw [ho] at hi2;simp only [lX,iR,aM,mI] at hi2
  have hun : listed.getD i false = false := by
   have := hi2.1
   simpa [Array.getD_eq_getD_getElem?,hsz] using this
  have hdep : ∀ j ∈ jd ops i,listed.getD j false = true := by
   intro j hj;simp only [jd,ho] at hj;obtain ⟨e,he,rfl⟩ := List.mem_map.1 hj;obtain ⟨he1,he2⟩ := List.mem_filter.1 he;have := hi2.2;rw [Array.all_eq_true'] at this;have := this e (by simpa using he1)
   simpa [he2] using this
  have hanc : ∀ j ∈ A.getD i [],listed.getD j false = true := by
   intro j hj;have h1 := List.all_eq_true.1 hc i (List.mem_range.2 him);have h2 := List.all_eq_true.1 h1 j hj;obtain ⟨e,he,h3⟩ := List.any_eq_true.1 h2;simp only [mP,beq_iff_eq,List.contains_eq_mem,decide_eq_true_eq] at h3
   rcases h3 with rfl | h3
   ·exact hdep _ he
   ·exact h.clos e (hdep e he) j h3
  have hsize' : (listed.setIfInBounds i true).size = ops.size := by simp [h.size]
  have hclos' : ∀ k,(listed.setIfInBounds i true).getD k false = true -> ∀ j ∈ A.getD k [],(listed.setIfInBounds i true).getD j false = true := by
   intro k hk j hj;rw [zK hsz] at hk ⊢
   split
   ·rfl
   ·split at hk
    ·subst_vars;exact hanc j hj
    ·exact h.clos k hk j hj
  have hcount : ((iC ops.size).filter fun k => !(listed.setIfInBounds i true).getD k false).length <= fuel := by
   have := wH (p := fun k => !listed.getD k false) (q := fun k => !(listed.setIfInBounds i true).getD k false) (i := i) (iC ops.size) (fun x hx => by
    simp only [zK hsz] at hx
    split at hx
    ·simp at hx
    ·exact hx) hi1 (by simp [hun]) (by simp [zK hsz])
   omega
  by_cases hin : ∃ x ∈ pre,x.1 = i
  ·
   obtain ⟨x,hx,rfl⟩ := hin
   have hxe : x.2.1 = false := by
    cases hh : x.2.1 with
    | false => rfl
    | true => rw [h.effs x hx hh] at hun;cases hun
   obtain ⟨o,v,ho',⟨d,hd,hdn,hv⟩,hf⟩ := h.facts x hx hun
   have hag : kU (o.looksAt ops) L a := by
    intro t ht u hu
    rcases h.tmps t u hu with ⟨y,hy,h1,h2⟩ | h3
    ·exfalso
     have hye : y.2.1 = false := by
      cases hh : y.2.1 with
      | false => rfl
      | true => rw [h.effs y hy hh] at h1;cases h1
     have := hanc _ (h.prs x hx y hy hxe hye t h2 (by simpa [jh,ho'] using ht));rw [h1] at this;cases this
    ·exact h3
   obtain ⟨hy,hnd⟩ := hf a w hag (fun _ => h.hold);refine vk ho' hy hnd (ih pre l _ L S _ w ⟨hsize',?_,?_,hclos',?_,?_,h.prs,?_,?_,h.ext,h.hold,h.ok,h.pres,h.all,h.rest⟩ hcount)
   ·intro k hk;rw [zK hsz] at hk
    split at hk
    ·exact ⟨x,hx,by subst_vars;rfl⟩
    ·exact h.inPre k hk
   ·intro y hy he;rw [zK hsz]
    split
    ·rfl
    ·exact h.effs y hy he
   ·intro t u hu
    by_cases htd : d = t
    ·subst htd;rw [hv] at hu;cases hu
     right
     simp [hd,Act.put,h.asz,hdn]
    ·rcases h.tmps t u hu with ⟨y,hy,h1,h2⟩ | h3
     ·refine .inl ⟨y,hy,?_,h2⟩;rw [zK hsz];rw [if_neg]
      ·exact h1
      ·intro e;have : qw ops x.1 = some t := by rw [<- e];exact h2
       simp only [qw,ho',Option.bind_some,hd,Option.some.injEq] at this;exact htd this
     ·right
      simp only [hd,Act.put,lN htd];exact h3
   ·intro y hy hyl;refine h.facts y hy ?_;rw [zK hsz] at hyl
    split at hyl
    ·cases hyl
    ·exact hyl
   ·simp [hd,Act.put,h.asz]
   ·simp only [hd,Act.put];exact h.dfr
  ·
   have hnx : ∃ pd l'',l = (i,true,pd) :: l'' := by
    rcases (h.all i him).resolve_left hin with ⟨x,hx,he⟩
    rcases hl with rfl | ⟨j,pd,l'',rfl⟩
    ·cases hx
    ·rcases List.mem_cons.1 hx with rfl | hx
     ·cases he;exact ⟨pd,l'',rfl⟩
     ·exfalso
      have hok := h.ok;simp only [xQ,aM] at hok;obtain ⟨q,hq⟩ := kB l'' _ hok.2 x hx;obtain ⟨_,o2,_⟩ := xK hq;have := hanc j (by rw [<- he];exact o2 (j,true,pd) sM rfl);obtain ⟨y,hy,e⟩ := h.inPre j this;obtain ⟨_,_,o3,_⟩ := xK hok.1;exact o3 y hy e
   obtain ⟨pd,l'',rfl⟩ := hnx;have hok := h.ok;simp only [xQ,aM] at hok;obtain ⟨o1,o2,o3,o4,o5,o6⟩ := xK hok.1
   have hag : kU (ops[i].looksAt ops) L a := by
    intro t ht u hu
    rcases h.tmps t u hu with ⟨y,hy,h1,h2⟩ | h3
    ·exfalso
     have hye : y.2.1 = false := by
      cases hh : y.2.1 with
      | false => rfl
      | true => rw [h.effs y hy hh] at h1;cases h1
     have := hanc _ ((o4 y hy hye).1 t h2 (by simpa [jh,ho] using ht));rw [h1] at this;cases this
    ·exact h3
   have hrest := h.rest;simp only [xD,ho] at hrest
   have next : ∀ (v : Value) (S' : zb) (w' : World),Ext w w' -> Hold w' S' -> xF P ops pd (putT n (ops[i]).dst v L) S' (xD P n ops (K .normal D) l'' (putT n (ops[i]).dst v L) S') ->
     wpAnyIn (FW ro) 0 P .any ops (KQ n K w0) fuel (listed.setIfInBounds i true) (a.put (ops[i]).dst v) w' := by
    intro v S' w' he hh hst;obtain ⟨hdraw,hstill⟩ := Zn pd hst;have hdi : qw ops i = (ops[i]).dst := by simp [qw,ho]
    have away : ∀ y ∈ pre,(listed.setIfInBounds i true).getD y.1 false = false -> y.2.1 = false /\ listed.getD y.1 false = false /\ y.1 ∉ A.getD i [] /\
      ∀ d,(ops[i]).dst = some d -> d ∉ jh ops y.1 /\ qw ops y.1 ≠ some d := by
     intro y hy hyl;rw [zK hsz] at hyl
     split at hyl
     ·cases hyl
     ·have hye : y.2.1 = false := by
       cases hh : y.2.1 with
       | false => rfl
       | true => rw [h.effs y hy hh] at hyl;cases hyl
      have hna : y.1 ∉ A.getD i [] := fun hm => by rw [hanc _ hm] at hyl;cases hyl
      exact ⟨hye,hyl,hna,fun d hd => ((o4 y hy hye).2.1 d (by rw [hdi];exact hd)).resolve_right (fun hc => hna hc.2)⟩
    refine ih (pre ++ [(i,true,pd)]) l'' _ (putT n (ops[i]).dst v L) S' _ w' ⟨hsize',?_,?_,hclos',?_,?_,?_,?_,?_,h.ext.trans he,hh,hok.2,qQ _ _ h.pres (by simpa using hok.1),?_,hdraw⟩ hcount
    ·intro k hk;rw [zK hsz] at hk
     split at hk
     ·exact ⟨(i,true,pd),sM,by subst_vars;rfl⟩
     ·obtain ⟨y,hy,e⟩ := h.inPre k hk;exact ⟨y,iG _ hy,e⟩
    ·intro y hy hye;rw [zK hsz]
     split
     ·rfl
     ·rcases List.mem_append.1 hy with hy | hy
      ·exact h.effs y hy hye
      ·simp at hy;subst hy;exact absurd rfl ‹_›
    ·intro t u hu
     rcases JF hu with ⟨h1,h2,rfl⟩ | h1
     ·right;simp [h1,Act.put,h.asz,h2]
     ·by_cases hdt : (ops[i]).dst = some t /\ t < n
      ·have : lookT (putT n (ops[i]).dst v L) t = some v := by simp [hdt.1,putT,hdt.2,lookT]
       rw [this] at hu;cases hu
       right;simp [hdt.1,Act.put,h.asz,hdt.2]
      ·have keep : a.tmps[t]? = some u -> (a.put (ops[i]).dst v).tmps[t]? = some u := by
        intro hat
        cases hd : (ops[i]).dst with
        | none => exact hat
        | some d =>
         simp only [Act.put]
         by_cases e : d = t
         ·subst e;have := (Array.getElem?_eq_some_iff.1 hat).1;rw [h.asz] at this;exact absurd ⟨hd,this⟩ hdt
         ·rw [lN e];exact hat
       rcases h.tmps t u h1 with ⟨y,hy,h2,h3⟩ | h3
       ·by_cases hyi : (listed.setIfInBounds i true).getD y.1 false = false
        ·exact .inl ⟨y,iG _ hy,hyi,h3⟩
        ·exfalso
         rw [zK hsz] at hyi
         split at hyi
         ·exact hin ⟨y,hy,‹_›⟩
         ·exact hyi h2
       ·exact .inr (keep h3)
    ·intro y hy hyl
     rcases List.mem_append.1 hy with hy | hy
     ·obtain ⟨hye,hyl',hna,hnd⟩ := away y hy hyl;obtain ⟨o,v',ho',⟨d,hd,hdn,hv⟩,hf⟩ := h.facts y hy hyl'
      have hlk : ∀ t,t ∈ o.looksAt ops ∨ t = d -> lookT (putT n (ops[i]).dst v L) t = lookT L t := by
       intro t ht;refine yk fun e => ?_
       obtain ⟨n1,n2⟩ := hnd t e
       rcases ht with ht | rfl
       ·exact n1 (by simpa [jh,ho'] using ht)
       ·exact n2 (by simp [qw,ho',hd])
      by_cases hrd : Xw o.op = true
      ·have hmem : y.1 ∈ pd := by
        have := (o4 y hy hye).2.2 rfl (by simp [Vz,ho',hrd]);exact this.resolve_left hna
       obtain ⟨o2,d2,v2,e1,e2,e3,hq⟩ := hstill y.1 hmem;rw [ho'] at e1;cases e1
       rw [hd] at e2;cases e2
       obtain ⟨v3,rfl,_,hq'⟩ := yf hq;refine ⟨o,v3,ho',⟨d,hd,hdn,e3⟩,fun a' w'' ha hw => hq' a' w'' ha hw⟩
      ·refine ⟨o,v',ho',⟨d,hd,hdn,by rw [hlk d (.inr rfl)];exact hv⟩,fun a' w'' ha _ => hf a' w'' (fun t ht u hu => ha t ht u (by rw [hlk t (.inl ht)];exact hu)) (fun hh => absurd hh hrd)⟩
     ·simp at hy;subst hy
      rw [zK hsz] at hyl;simp at hyl
    ·intro x hx y hy hxe hye d' hd' hl'
     rcases List.mem_append.1 hx with hx | hx
     ·rcases List.mem_append.1 hy with hy | hy
      ·exact h.prs x hx y hy hxe hye d' hd' hl'
      ·simp at hy;subst hy;cases hye
     ·simp at hx;subst hx;cases hxe
    ·cases (ops[i]).dst <;> simp [Act.put,h.asz]
    ·cases (ops[i]).dst <;> exact h.dfr
    ·intro j hj
     rcases h.all j hj with ⟨x,hx,e⟩ | ⟨x,hx,e⟩
     ·exact .inl ⟨x,iG _ hx,e⟩
     ·rcases List.mem_cons.1 hx with rfl | hx
      ·exact .inl ⟨_,sM,e⟩
      ·exact .inr ⟨x,hx,e⟩
   unfold wpOpIn;rw [ho];simp only
   rcases kQ hag hrest with ⟨hw1,hs⟩ | ⟨hw1,hs⟩
   ·rw [if_pos hw1];obtain ⟨ρ,hρ,hρe⟩ := XR hag;refine ⟨fun _ _ => trivial,?_⟩;rw [Oper.semAt_eq _ _ _ (vD hs),<- execOp_congr _ (vU hs) hρe];exact Zi (Zo hρ hs) h.hold fun v S' w' hk he hh => next v S' w' he hh hk
   ·rw [if_neg (by simp [hw1])];exact ⟨fun _ _ => trivial,next undef S w (Ext.refl w) h.hold hs⟩
theorem WM {id : Nat} {ops : Array Oper} {K : Cont} {D : List Nat} {L : Env} {S : zb} (A : List (List Nat)) (pl : List zW) (hm : P.follows .mixedOrders = true)
  (hok : Wa ops A n pl = true) (h : xD P n ops (K .normal D) pl L S) : zB P n ro (.region id ops true) K D L S := by
 refine ⟨fun a w ha hw => ?_⟩;refine wpIn_region_any hm ?_;simp only [Wa,aM] at hok
 have h0 : ∀ i,(Array.replicate ops.size false).getD i false = false := by
  intro i;simp only [Array.getD_eq_getD_getElem?,Array.getElem?_replicate];split <;> rfl
 have hw' : Hold { w with drawn := w.drawn + 1 } S := ⟨hw.nd,hw.get⟩;have he : Ext w { w with drawn := w.drawn + 1 } := ⟨rfl,rfl,rfl,aR _⟩;refine gy hok.1.1 ops.size [] pl _ L S a _ ⟨sM,?_,?_,?_,?_,?_,?_,ha.size,ha.marks,he,hw',hok.1.2,rfl,?_,h⟩ ?_
 ·intro i hi;rw [h0] at hi;cases hi
 ·intro x hx;cases hx
 ·intro i hi;rw [h0] at hi;cases hi
 ·intro t v ht;exact .inr (ha.get t v ht)
 ·intro x hx;cases hx
 ·intro x hx;cases hx
 ·intro i hi;have := List.all_eq_true.1 hok.2 i (List.mem_range.2 hi);obtain ⟨x,hx,e⟩ := List.any_eq_true.1 this;exact .inr ⟨x,hx,by simpa using e⟩
 ·refine mN (List.length_filter_le _ _) sM
theorem yH {ops : Array Oper} {K : Env -> zb -> Prop} {o : Oper} {i : Nat} {pd : List Nat} {l : List zW} {L : Env} {S : zb} (ho : ops[i]? = some o)
  (h : ∀ N : Env -> zb -> Prop,(∀ L S,xD P n ops K l L S -> N L S) -> quietW P ops o L S fun v => N (putT n o.dst v L) S) : xD P n ops K ((i,false,pd) :: l) L S := by
 simp only [xD,ho];exact h _ fun _ _ h => h
theorem vx {ops : Array Oper} {K : Env -> zb -> Prop} {o : Oper} {i : Nat} {pd : List Nat} {l : List zW} {L : Env} {S : zb} (ho : ops[i]? = some o)
  (h : ∀ N : Env -> zb -> Prop,(∀ L S,xD P n ops K l L S -> N L S) -> xA ops o L (zY P o.op o.type L S fun v S' => xF P ops pd (putT n o.dst v L) S' (N (putT n o.dst v L) S'))
   (xF P ops pd (putT n o.dst undef L) S (N (putT n o.dst undef L) S))) : xD P n ops K ((i,true,pd) :: l) L S := by
 simp only [xD,ho];exact h _ fun _ _ h => h
theorem qd {ops : Array Oper} {K : Env -> zb -> Prop} {L : Env} {S : zb} (h : K L S) : xD P n ops K [] L S := h
end Go.Ost
namespace Go.Ost
open Go
def gos := aF (aF @Int.natCast_zero @Int.cast_ofNat_Int) <| aF (aF (@List.setIfInBounds_toArray.{0}) (aF (@List.set_cons_succ.{0}) (@List.set_cons_zero.{0}))) <| aF (aF @ce @Ur) <| aF (@bne_self_eq_false.{0}) <| aF (@beq_self_eq_true.{0}) <| aF (@decide_false) <| aF (@decide_true) <| aF (@Bool.true_eq_false) <| aF (@Bool.false_eq_true) <| aF (aF (aF (aF (aF (aF (@xA.eq_1) (aF (@zY.eq_1) (@zY.eq_2))) (aF (aF (@zY.eq_3) (@zY.eq_4)) (aF (@zY.eq_5) (@zY.eq_6)))) (aF (aF (aF (@zY.eq_7) (@zY.eq_8)) (aF (@zY.eq_9) (@zY.eq_10))) (aF (aF (@zY.eq_11) (@zY.eq_12)) (aF (@zY.eq_13) (@zY.eq_14))))) (aF (aF (aF (@zY.eq_15) (aF (@zY.eq_16) (@zY.eq_17))) (aF (aF (@zY.eq_18) (@zY.eq_19)) (aF (@zY.eq_20) (@zY.eq_21)))) (aF (aF (aF (@zY.eq_22) (@zY.eq_23)) (aF (@zY.eq_24) (@zY.eq_25))) (aF (aF (@zY.eq_26) (@zY.eq_27)) (aF (@zY.eq_28) (@zY.eq_29)))))) (aF (aF (aF (aF (@zY.eq_30) (aF (@zY.eq_31) (@zY.eq_32))) (aF (aF (@zY.eq_33) (@zY.eq_34)) (aF (@zY.eq_35) (@putT.eq_1)))) (aF (aF (aF (@putT.eq_2) (@evT.eq_1)) (aF (@evT.eq_2) (@evT.eq_3))) (aF (aF (@evT.eq_4) (@argsL.eq_1)) (aF (@argsL.eq_2) (@zy.eq_1))))) (aF (aF (aF (@zy.eq_2) (aF (@withB.eq_1) (@withB.eq_2))) (aF (aF (@evL.eq_1) (@evL.eq_2)) (aF (@kK.eq_1) (@kK.eq_2)))) (aF (aF (aF (@evO.eq_1) (@evO.eq_2)) (aF (@kY.eq_1) (@kY.eq_2))) (aF (aF (@evP.eq_1) (@evP.eq_2)) (aF (@withP.eq_1) (@withP.eq_2))))))) (aF (aF (aF (aF (aF (@NilW.eq_1) (aF (@NilW.eq_2) (@NilW.eq_3))) (aF (aF (@NilW.eq_4) (@vS.eq_1)) (aF (@vS.eq_2) (@FnW.eq_1)))) (aF (aF (aF (@FnW.eq_2) (@FnW.eq_3)) (aF (@xR.eq_1) (@xR.eq_2))) (aF (aF (@xR.eq_3) (@xR.eq_4)) (aF (@xR.eq_5) (@xR.eq_6))))) (aF (aF (aF (@xR.eq_7) (aF (@xR.eq_8) (@xR.eq_9))) (aF (aF (@xR.eq_10) (aF (@xR.eq_11) (aF (@xR.eq_12) (@xR.eq_13)))) (aF (@undef.eq_1) (@zj)))) (aF (aF (aF (@zi) (@gV)) (aF (@UT) (@bin_mul))) (aF (aF (@UX) (@UW)) (aF (@gR) (@gS)))))) (aF (aF (aF (aF (@gT) (aF (@gU) (@un_not))) (aF (aF (@un_neg) (@min_two)) (aF (@max_two) (@qv)))) (aF (aF (aF (@nil_eql) (@nil_neq)) (aF (@bool_eql) (@bool_neq))) (aF (aF (@cx) (@List.toList_toArray.{0})) (aF (@Array.toList_empty.{0}) (@List.nil_append.{0}))))) (aF (aF (aF (@List.cons_append.{0}) (aF (@List.append_nil.{0}) (@Option.bind_some.{0,0}))) (aF (aF (@List.getElem?_toArray.{0}) (@List.getElem?_cons_succ.{0})) (aF (@List.getElem?_cons_zero.{0}) (@List.getElem_toArray.{0})))) (aF (aF (aF (@List.getElem_cons_zero.{0}) (@List.getElem_cons_succ.{0})) (aF (@Option.isNone_some.{0}) (@Option.isNone_none.{0}))) (aF (aF (@Option.isSome_some.{0}) (@Option.isSome_none.{0})) (aF (@Bool.not_true) (@Bool.not_false)))))))
def goq := aF (aF (aF (aF (@quietW.eq_1) (aF (@jL.eq_1) (@jL.eq_2))) (aF (@jL.eq_3) (aF (@jL.eq_4) (@jL.eq_5)))) (aF (aF (@jL.eq_6) (aF (@jL.eq_7) (@jL.eq_8))) (aF (@jL.eq_9) (aF (@jL.eq_10) (@jL.eq_11))))) (aF (aF (aF (@jL.eq_12) (aF (@jL.eq_13) (@jL.eq_14))) (aF (@jL.eq_15) (aF (@jL.eq_16) (@jL.eq_17)))) (aF (aF (@jL.eq_18) (aF (@jL.eq_19) (@jL.eq_20))) (aF (aF (@jL.eq_21) (@jL.eq_22)) (aF (@xF.eq_1) (@xF.eq_2)))))
def gow := aF @Xl <| aF (aF (aF @UV @UU) (aF @yv @XF)) (aF (aF @wrap_u32 @WY) (aF @yw @wrap_u16))
def gob := aF (aF (aF @u8_eql @u8_neq) (aF @u8n_eql @u8n_neq)) <| aF (aF (aF @u8n_lss @u8n_leq) (aF @u8n_gtr @u8n_geq)) <| aF (aF @u8_xor (aF @u8_or @u8_and)) <| aF (aF (aF @ext2_0 @ext2_1) (aF @ext3_0 (aF @ext3_1 @ext3_2))) <| aF (aF @b8_shr @b8_and15) <| aF (aF @Yq (aF (aF @str_eql @str_neq) (aF @str_data (aF @str_size @Kq)))) <| aF (aF (aF @cq_b8_64 @gG) (aF @cF @UJ)) <| aF (aF @cq_b8_32 (aF @cq_b32_8 @gI)) <| aF (aF (aF @w_add @w_sub) (aF @w_and @w_or)) (aF (aF @w_xor @w_not) (aF @cG (aF @cH @UL)))
def gobw := aF (aF (aF @sidx @scut_hi) (aF @scut_lo @dK)) <| aF (aF @u8n_and (aF @IT @u8n_or)) <| aF @gQ <| aF @w_shl (aF @w_shr (aF @cut_hi (aF @cut_lo (aF @cut_lohi (aF @gE (aF @UF @arr_addr))))))
variable {P : Program}
theorem gZ (a : Addr) (n m : Nat) : (a.add n).add m = a.add (n + m) := by
 unfold Addr.add
 by_cases h1 : n = 0
 ·subst h1;simp
 ·rw [if_neg h1,if_neg (oM : n + m ≠ 0)]
  by_cases h2 : m = 0
  ·subst h2;simp
  ·rw [if_neg h2];simp [Nat.add_assoc]
theorem elA_add (a : OA) (n m : Nat) : (elA a n).add m = elA a (n + m) := by unfold elA;exact gZ _ _ _
theorem field_at {s i off ft : Nat} {a : Addr} {κ : Value -> Prop} [h : zl P s i off ft] : zk P (Instr.fieldAt s (.pointer (some a)) i) κ = κ (.pointer (some (a.add off))) :=
 zq (fun w => by
  obtain ⟨fs,f,hu,hf,h1,h2,j,hj,hz⟩ := JT h.ok
  have hs : (sizeOf f.type).run P w = .ok j.size w := by
   rw [h2];simp [sizeOf,typeInfo,program,Sem.run_bind,Sem.run,hj,Result.andThen]
  simp only [Instr.fieldAt,Sem.run_bind,zL hu,Result.andThen,hf,Instr.sureAddr,Sem.run_pure,fieldPlace,hs];rw [if_neg hz]
  simp [h1,Result.andThen]) κ
theorem field_el {s i off ft : Nat} {a : OA} {n : Nat} {κ : Value -> Prop} [h : zl P s i off ft] : zk P (Instr.fieldAt s (.pointer (some (elA a n))) i) κ = κ (.pointer (some (elA a (n + off)))) := by
 rw [field_at,elA_add]
section own
variable {s : Nat} {e : TypeId} {C : zd} {a : OA} {len cap : Nat} {us : LV} {S G : zb}
theorem VI (h : Own s e C a len cap us) (hl : 0 < us.length) : ∃ b o cs m,a = some ⟨b,o,none⟩ /\ C = [(b,.cells cs e m)] /\ Soft cs.size m /\ o + cap * s <= cs.size /\ ∀ i,i < us.length -> cs[o + i]? = us[i]? := by
 obtain ⟨h1,h2,h3,h4 | h4⟩ := h
 ·obtain ⟨h5,_⟩ := h4;have : len = 0 := oM;subst this;rw [Nat.zero_mul] at h3;omega
 ·exact h4
theorem rd_some (h : Rd s S a len us) (hl : 0 < us.length) : ∃ b o,a = some ⟨b,o,none⟩ := by
 obtain ⟨b,o,_,_,_,h1,_⟩ := h.2 (List.length_pos_iff.1 hl);exact ⟨b,o,h1⟩
theorem el_at {t e : TypeId} {z : Value} {by_ : Nat} {k : IntKind} {i : Int} {κ : Value -> Prop} [h : xz P t e] [hs : zm P e z s by_] (hr : Rd s S a len us) (h0 : 0 <= i) (h1 : i < len) (hp : 0 < s) :
  zk P (Instr.indexAt t (.slice a len cap) (.int k i)) κ = κ (.pointer (some (elA a (i.toNat * s)))) := by
 have hpos : 0 < us.length := by rw [hr.1];exact Nat.mul_pos oM hp
 obtain ⟨b,o,rfl⟩ := rd_some hr hpos;rw [Xl h0 h1]
 simp [elA,xZ]
theorem el_load {t : TypeId} {i : Nat} {v : Value} {κ : Value -> Prop} [hf : xM P t] (hr : Rd s S a len us) (hv : us[i]? = some v) (k : κ v) : xG P (Instr.loadAt t (.pointer (some (elA a i)))) S κ := by
 have hi := (List.getElem?_eq_some_iff.1 hv).1;obtain ⟨hl,hne⟩ := hr;obtain ⟨b,o,cs,et,m,rfl,hb,hc⟩ := hne (by intro e;subst e;simp at hi);simp only [elA,iR,xZ];exact xf hb (by rw [hc i hi];exact hv) k
theorem Zf {t : TypeId} {z : Value} {n by_ i : Nat} {κ : Value -> Prop} [hf : jG P t] [hs : zm P t z n by_] (hr : Rd s S a len us) (hn : 0 < n) (hi : i + n <= us.length) (k : κ (.agg ((us.drop i).take n).toArray)) :
  xG P (Instr.loadAt t (.pointer (some (elA a i)))) S κ := by
 obtain ⟨hl,hne⟩ := hr;obtain ⟨b,o,cs,et,m,rfl,hb,hc⟩ := hne (by intro e;subst e;simp at hi;omega);simp only [elA,iR,xZ]
 have hsz : o + us.length <= cs.size := by
  have := hc (us.length - 1) oM;rw [aE oM] at this;have := (Array.getElem?_eq_some_iff.1 this).1;omega
 refine yD hb oM ?_
 have e : cs.extract (o + i) (o + i + n) = ((us.drop i).take n).toArray := by
  apply Array.ext_getElem?
  intro j;rw [Array.getElem?_extract];simp only [iP]
  by_cases hj : j < n
  ·rw [if_pos oM,show o + i + j = o + (i + j) from oM,hc _ oM,lY hj,List.getElem?_drop]
  ·rw [if_neg oM,List.getElem?_eq_none (by rw [aX];omega)]
 rw [e];exact k
def setL (us : LV) (i : Nat) : LV -> LV
 | [] => us
 | v :: l => setL (us.set i v) (i + 1) l
theorem yS : ∀ (vs us : LV) (i : Nat),(setL us i vs).length = us.length
 | [],_,_ => rfl
 | v :: l,us,i => by simp [setL,yS l]
theorem Qw : ∀ (vs : LV) (cs : Array Value) (us : LV) (o i : Nat),o + us.length <= cs.size -> (∀ j,j < us.length -> cs[o + j]? = us[j]?) -> i + vs.length <= us.length ->
  ∀ j,j < us.length -> (jp cs (o + i) vs)[o + j]? = (setL us i vs)[j]?
 | [],cs,us,o,i,_,h,_,j,hj => h j hj
 | v :: vs,cs,us,o,i,hs,h,hi,j,hj => by
  simp only [aH] at hi;rw [jp,setL];refine Qw vs _ _ o (i + 1) (by simpa using hs) (fun q hq => ?_) (by simp;omega) j (by simpa using hj);simp only [mC] at hq
  by_cases e : q = i
  ·subst e;rw [Array.getElem?_setIfInBounds_self,if_pos oM]
   simp [hq]
  ·rw [lN oM,h q hq,List.getElem?_set_ne oM]
theorem ZB {t : TypeId} {z : Value} {n by_ i : Nat} {v : Value} {κ : zb -> Prop} [hs : zm P t z n by_] (ho : Own s e C a len cap us) (hp : Pick C S G) (hn : 0 < n) (hvs : v.cells.size = n) (hc1 : ∀ u ∈ v.cells.toList,Value.cell1 u) (hi : i + n <= us.length)
  (k : ∀ C',Own s e C' a len cap (setL us i v.cells.toList) -> κ (C' :: G)) : jI P (Instr.storeAt t (.pointer (some (elA a i))) v) S κ := by
 refine ⟨fun w hw => ?_⟩;obtain ⟨b,o,cs,m,rfl,rfl,hsoft,hbig,hc⟩ := VI ho oM;have hCG := hw.perm hp.perm;obtain ⟨lo,hi'⟩ := m
 have hsz : o + us.length <= cs.size := by
  have := hc (us.length - 1) oM;rw [aE oM] at this;have := (Array.getElem?_eq_some_iff.1 this).1;omega
 obtain ⟨w',q1,q2,q3,q4⟩ := jk (P := P) (b := b) (o := o + i) v.cells.toList 0 w cs (hCG.get b (.cells cs e (lo,hi')) sM) hc1 (by simp [hvs];omega) hsoft.or;refine ⟨w',_,?_,q2,(Upd.one (S := G)).hold hCG q3 q4,k [(b,.cells (jp cs (o + i + 0) v.cells.toList) e (lo,hi'))] ⟨ho.1,ho.2.1,by rw [yS];exact ho.2.2.1,.inr ⟨b,o,_,(lo,hi'),rfl,rfl,by rw [xP];exact hsoft,by rw [xP];exact hbig,fun j hj => ?_⟩⟩⟩
 ·simp only [elA,iR,xZ]
  simp [Instr.storeAt,Instr.sureAddr,storeVar,Sem.run_bind,zE hs,Result.andThen,hvs,q1]
 ·rw [yS] at hj;rw [mT];exact Qw _ cs us o i hsz hc (by simp [hvs];omega) j hj
theorem bU {t : TypeId} {z : Value} {by_ i : Nat} {v : Value} {κ : zb -> Prop} [hs : zm P t z 1 by_] (ho : Own s e C a len cap us) (hp : Pick C S G) (hc : Value.cell1 v) (hi : i < us.length)
  (k : ∀ C',Own s e C' a len cap (us.set i v) -> κ (C' :: G)) : jI P (Instr.storeAt t (.pointer (some (elA a i))) v) S κ := by
 have hcs : v.cells = #[v] := by cases v <;> first | exact hc.elim | rfl
 exact ZB (n := 1) ho hp oM (by rw [hcs];rfl) (by rw [hcs];simpa using hc) oM (by rw [hcs];exact k)
theorem ZC {t : TypeId} {z : Value} {n by_ i : Nat} {vs : LV} {κ : zb -> Prop} [hs : zm P t z n by_] (ho : Own s e C a len cap us) (hp : Pick C S G) (hn : 0 < n) (hvs : vs.length = n) (hc : ∀ u ∈ vs,Value.cell1 u) (hi : i + n <= us.length)
  (k : ∀ C',Own s e C' a len cap (setL us i vs) -> κ (C' :: G)) : jI P (Instr.storeAt t (.pointer (some (elA a i))) (.agg vs.toArray)) S κ :=
 ZB (v := .agg vs.toArray) ho hp hn (by simpa [Value.cells] using hvs) (by simpa [Value.cells] using hc) hi (by simpa [Value.cells] using k)
end own
theorem Vt : ∀ (vs p u r : LV),u.length = vs.length -> setL (p ++ (u ++ r)) p.length vs = p ++ (vs ++ r)
 | [],p,[],r,_ => rfl
 | v :: vs,p,x :: u,r,h => by
  have ih := Vt vs (p ++ [v]) u r (by simpa using h);rw [setL];have e : (p ++ (x :: u ++ r)).set p.length v = p ++ [v] ++ (u ++ r) := sM;rw [e,show p.length + 1 = (p ++ [v]).length from sM,ih]
  simp
section rows
variable {α : Type} (enc : α -> LV) (s : Nat) (hs : ∀ x,(enc x).length = s)
include hs
theorem qY : ∀ l : List α,(l.flatMap enc).length = l.length * s
 | [] => sM
 | x :: l => by rw [iU,aB,hs,qY l,aH,lO];omega
theorem JR : ∀ (l : List α) (i : Nat),(l.flatMap enc).drop (i * s) = (l.drop i).flatMap enc
 | l,0 => sM
 | [],i + 1 => sM
 | x :: l,i + 1 => by
  rw [iU,lO,Nat.one_mul,Nat.add_comm,<- mQ,List.drop_left' (hs x),JR l i,List.drop_succ_cons]
theorem UB (l : List α) (i : Nat) (h : i < l.length) : ((l.flatMap enc).drop (i * s)).take s = enc l[i] := by
 rw [JR enc s hs,iH h,iU,List.take_left' (hs _)]
theorem IC (l : List α) (i j : Nat) (h : i < l.length) (hj : j < s) : (l.flatMap enc)[i * s + j]? = (enc l[i])[j]? := by
 rw [<- List.getElem?_drop,<- UB enc s hs l i h,lY hj]
theorem IB : ∀ (l : List α) (i j : Nat) (v : Value) (h : i < l.length) (x : α),(enc l[i]).set j v = enc x -> j < s -> (l.flatMap enc).set (i * s + j) v = (l.set i x).flatMap enc
 | [],i,j,v,h,x,_,_ => by simp at h
 | y :: l,0,j,v,h,x,hx,hj => by
  simp only [List.getElem_cons_zero] at hx;rw [Nat.zero_mul,iT,iU,List.set_append_left _ _ (by rw [hs];exact hj),hx];rfl
 | y :: l,i + 1,j,v,h,x,hx,hj => by
  have ih := IB l i j v (by simpa using h) x (by simpa using hx) hj;rw [iU,List.set_append_right _ _ (by rw [hs,lO];omega),hs,show (i + 1) * s + j - s = i * s + j from by rw [lO];omega,ih];rfl
theorem gh (l : List α) (i : Nat) (h : i < l.length) (x : α) : setL (l.flatMap enc) (i * s) (enc x) = (l.set i x).flatMap enc := by
 have e1 : l.flatMap enc = (l.take i).flatMap enc ++ (enc l[i] ++ (l.drop (i + 1)).flatMap enc) := by
  conv => lhs;rw [<- lR i l,lI,iH h,iU]
 have e2 : ((l.take i).flatMap enc).length = i * s := by rw [qY enc s hs,aX];congr 1;omega
 rw [e1,<- e2,Vt (enc x) _ (enc l[i]) _ (by rw [hs,hs]),List.set_eq_take_append_cons_drop,if_pos h,lI,iU]
end rows
end Go.Ost
namespace Go.Ost
open Go
variable {P : Program}
section yg
variable {α : Type} {β : Type}
def mget : List (L8 × α) -> L8 -> Option α
 | [],_ => none
 | (k,v) :: l,q => if q = k then some v else mget l q
def mput : List (L8 × α) -> L8 -> α -> List (L8 × α)
 | [],q,v => [(q,v)]
 | (k,u) :: l,q,v => if q = k then (q,v) :: l else (k,u) :: mput l q v
def mdel : List (L8 × α) -> L8 -> List (L8 × α)
 | [],_ => []
 | (k,u) :: l,q => if q = k then l else (k,u) :: mdel l q
def vN : List (L8 × α) -> L8 -> Nat -> Option (Nat × α)
 | [],_,_ => none
 | (k,v) :: l,q,i => if q = k then some (i,v) else vN l q (i + 1)
def mval (f : α -> β) (m : List (L8 × α)) : List (L8 × β) := m.map fun p => (p.1,f p.2)
theorem Ig (f : α -> β) : ∀ (m : List (L8 × α)) (q : L8),mget (mval f m) q = (mget m q).map f
 | [],q => rfl
 | (k,v) :: l,q => by
  have ih := Ig f l q;simp only [mval,iB,mget] at ih ⊢
  split
  ·rfl
  ·exact ih
theorem Ie (f : α -> β) : ∀ (m : List (L8 × α)) (q : L8) (v : α),mput (mval f m) q (f v) = mval f (mput m q v)
 | [],q,v => rfl
 | (k,u) :: l,q,v => by
  have ih := Ie f l q v;simp only [mval,iB,mput] at ih ⊢
  split
  ·simp
  ·simp [ih]
theorem Ik (f : α -> β) : ∀ (m : List (L8 × α)) (q : L8),mdel (mval f m) q = mval f (mdel m q)
 | [],q => rfl
 | (k,u) :: l,q => by
  have ih := Ik f l q;simp only [mval,iB,mdel] at ih ⊢
  split
  ·rfl
  ·simp [ih]
theorem kj {q : L8} {j : Nat} {v : α} : ∀ (m : List (L8 × α)) (i : Nat),vN m q i = some (j,v) ->
  ∃ pre post,m = pre ++ (q,v) :: post /\ j = i + pre.length /\ mget m q = some v /\ (∀ u,mput m q u = pre ++ (q,u) :: post) /\ mdel m q = pre ++ post
 | [],i,h => by cases h
 | (k,u) :: l,i,h => by
  simp only [vN] at h
  split at h
  ·rename_i hk
   subst hk
   cases h
   exact ⟨[],l,rfl,sM,by simp [mget],fun w => by simp [mput],by simp [mdel]⟩
  ·rename_i hk
   obtain ⟨pre,post,h1,h2,h3,h4,h5⟩ := kj l (i + 1) h;refine ⟨(k,u) :: pre,post,by rw [h1];rfl,by simp;omega,?_,fun w => ?_,?_⟩
   ·simp only [mget];rw [if_neg hk];exact h3
   ·simp only [mput];rw [if_neg hk,h4];rfl
   ·simp only [mdel];rw [if_neg hk,h5];rfl
theorem km {q : L8} : ∀ (m : List (L8 × α)) (i : Nat),vN m q i = none -> mget m q = none /\ (∀ u,mput m q u = m ++ [(q,u)]) /\ mdel m q = m
 | [],i,h => ⟨rfl,fun u => rfl,rfl⟩
 | (k,u) :: l,i,h => by
  simp only [vN] at h
  split at h
  ·cases h
  ·rename_i hk
   obtain ⟨h1,h2,h3⟩ := km l (i + 1) h;refine ⟨?_,fun w => ?_,?_⟩
   ·simp only [mget];rw [if_neg hk];exact h1
   ·simp only [mput];rw [if_neg hk,h2];rfl
   ·simp only [mdel];rw [if_neg hk,h3]
end yg
theorem dx (a b : L8) : (str a == str b) = decide (a = b) := by
 have e : (str a == str b) = (a == b) := by
  have h := ByteArray.toList_eq (str a);have h2 := ByteArray.toList_eq (str b)
  show ((str a).data == (str b).data) = _
  simp [str]
 rw [e]
 by_cases h : a = b <;> simp [h]
def jg (C : zd) (r : Nat) (m : List (L8 × Value)) : Prop :=
 ∃ es clock,C = [(r,.map es clock)] /\ es.toList.map (fun e => (e.key,e.val)) = m.map fun p => (sT p.1,p.2)
theorem ID (q : L8) : ∀ (es : List MapEntry) (m : List (L8 × Value)) (i : Nat),es.map (fun e => (e.key,e.val)) = m.map (fun p => (sT p.1,p.2)) ->
  Instr.findNow .string (sT q) es i = some (vN m q i)
 | [],[],i,_ => rfl
 | [],_ :: _,i,h => by simp at h
 | _ :: _,[],i,h => by simp at h
 | e :: es,(k,v) :: m,i,h => by
  simp only [iB,List.cons.injEq,Prod.mk.injEq] at h;obtain ⟨⟨h1,h2⟩,h3⟩ := h;simp only [Instr.findNow,vN,h1,Instr.sameNow,dx]
  by_cases hk : q = k
  ·simp [hk,h2]
  ·simp only [hk,decide_false,if_false];exact ID q es m (i + 1) h3
theorem Zs {kt : TypeId} (hk : P.underlying kt = some .string) (q : L8) {es : List MapEntry} {m : List (L8 × Value)} (h : es.map (fun e => (e.key,e.val)) = m.map (fun p => (sT p.1,p.2))) (w : World) :
  (Instr.findKey kt (sT q) es).run P w = .ok (vN m q 0) w := by
 unfold Instr.findKey;rw [Sem.run_bind,zL hk];simp only [Result.andThen,ID q es m 0 h]
 rfl
theorem wZ {kt : TypeId} (hk : P.underlying kt = some .string) (b : Bool) (q : L8) (w : World) : (Instr.checkKey b 10000 kt (sT q)).run P w = .ok () w := by
 rw [Instr.checkKey,Sem.run_bind,zL hk]
 rfl
theorem Xd {w : World} {r : Nat} {es : Array MapEntry} {c : Nat} (h : w.heap[r]? = some (.map es c)) : (getObj r).run P w = .ok (.map es c) w := by
 simp [getObj,Sem.run,h]
theorem In {t kt et : TypeId} {z : Value} {s b : Nat} [ht : TMap P t kt et] [hk : TStr P kt] [hz : zm P et z s b] {C : zd} {r : Nat} {m : List (L8 × Value)} (hm : jg C r m) (q : L8) (ok : Bool) {w : World} {S : zb} (hC : C ∈ S) (hw : Hold w S) :
  (Instr.lookup t (.map (some r)) (sT q) ok).run P w = .ok (if ok then .tuple #[(mget m q).getD z,.bool (mget m q).isSome] else (mget m q).getD z) w := by
 obtain ⟨es,clock,rfl,he⟩ := hm;have hb := (Lies.of_mem (b := r) (o := .map es clock) (List.mem_singleton.2 rfl) hC).get hw;unfold Instr.lookup;rw [Sem.run_bind,zL ht.und];simp only [Result.andThen];simp only [Sem.run_bind,Xd hb,Result.andThen,Sem.run_pure,wZ hk.und,Zs hk.und q he]
 cases hf : vN m q 0 with
 | none =>
  have h1 := (km m 0 hf).1;simp only [h1,Sem.run_bind,xe hz,Result.andThen,Sem.run_pure,Option.getD_none,Option.isSome_none]
 | some p =>
  obtain ⟨j,v⟩ := p;obtain ⟨_,_,_,_,h1,_⟩ := kj m 0 hf;simp only [h1,Sem.run_bind,Sem.run_pure,Result.andThen,iR,Option.isSome_some]
theorem Wg {t kt et : TypeId} {z : Value} {s b : Nat} [ht : TMap P t kt et] [hk : TStr P kt] [hz : zm P et z s b] {C : zd} {r : Nat} {m : List (L8 × Value)} {q : L8} {S : zb} {κ : Value -> Prop} (hm : jg C r m) (hC : C ∈ S)
  (k : κ (.tuple #[(mget m q).getD z,.bool (mget m q).isSome])) : xG P (Instr.lookup t (.map (some r)) (sT q) true) S κ :=
 ⟨_,fun w hw => In hm q true hC hw,k⟩
theorem Wh {t kt et : TypeId} {z : Value} {s b : Nat} [ht : TMap P t kt et] [hk : TStr P kt] [hz : zm P et z s b] {C : zd} {r : Nat} {m : List (L8 × Value)} {q : L8} {S : zb} {κ : Value -> Prop} (hm : jg C r m) (hC : C ∈ S)
  (k : κ ((mget m q).getD z)) : xG P (Instr.lookup t (.map (some r)) (sT q) false) S κ :=
 ⟨_,fun w hw => In hm q false hC hw,k⟩
theorem yz {w : World} {r : Nat} {es : Array MapEntry} {c : Nat} {o' : Obj} (h : w.heap[r]? = some (.map es c)) : (setObj r o').run P w = .ok () (w.putObj r o') := by
 simp [setObj,Sem.run,h,World.putObj]
theorem stay_same (q : L8) (w : World) : (Instr.keyThatStays (sT q) (sT q)).run P w = .ok (sT q) w := by
 unfold Instr.keyThatStays;have : Instr.sameBits 10000 (sT q) (sT q) = true := by simp [Instr.sameBits,dx]
 rw [if_pos this];rfl
theorem VM {t kt et : TypeId} [ht : TMap P t kt et] [hk : TStr P kt] {C : zd} {r : Nat} {m : List (L8 × Value)} {q : L8} {v : Value} {S G : zb} {κ : zb -> Prop} (hm : jg C r m) (hp : Pick C S G)
  (k : ∀ C',jg C' r (mput m q v) -> κ (C' :: G)) : jI P (Instr.mapUpdate t (.map (some r)) (sT q) v) S κ := by
 refine ⟨fun w hw => ?_⟩;obtain ⟨es,clock,rfl,he⟩ := hm;have hCG := hw.perm hp.perm;have hb := hCG.get r (.map es clock) sM;have hlen : es.size = m.length := by have := congrArg mA he;simpa using this
 cases hf : vN m q 0 with
 | none =>
  obtain ⟨_,h2,_⟩ := km m 0 hf;refine ⟨w.putObj r (.map (es.push { key := sT q,val := v,born := clock }) (clock + 1)),_,?_,kX _ _ _,vE hCG,k [(r,.map (es.push { key := sT q,val := v,born := clock }) (clock + 1))] ⟨_,_,rfl,?_⟩⟩
  ·unfold Instr.mapUpdate;rw [Sem.run_bind,zL ht.und];simp only [Result.andThen,Sem.run_bind,Xd hb,wZ hk.und,Zs hk.und q he,hf,yz hb]
  ·rw [h2];simp [he]
 | some p =>
  obtain ⟨j,u⟩ := p;obtain ⟨pre,post,h1,h2,h3,h4,h5⟩ := kj m 0 hf;have hj : j < es.size := by rw [hlen,h1];simp;omega
  have hkey : es[j].key = sT q := by
   have e := congrArg (fun l => l[j]?) he;simp only [lF,h1] at e;rw [lD oM,show j - pre.length = 0 from oM] at e;have e2 : es.toList[j]? = some es[j] := by simp [hj]
   rw [e2] at e;simp only [lX,iJ,Option.some.injEq,Prod.mk.injEq] at e;exact e.1
  refine ⟨w.putObj r (.map (es.modify j fun e => { e with key := sT q,val := v }) clock),_,?_,kX _ _ _,vE hCG,k [(r,.map (es.modify j fun e => { e with key := sT q,val := v }) clock)] ⟨_,_,rfl,?_⟩⟩
  ·unfold Instr.mapUpdate;rw [Sem.run_bind,zL ht.und];have hg : ((es[j]?).map (·.key)).getD (sT q) = sT q := by simp [hj,hkey]
   simp only [Result.andThen,Sem.run_bind,Xd hb,wZ hk.und,Zs hk.und q he,hf,hg,stay_same,yz hb]
  ·rw [h4];have e := he;rw [h1] at e
   apply List.ext_getElem?
   intro i;have ei := congrArg (fun l => l[i]?) e;simp only [lF,Array.getElem?_toList,Array.getElem?_modify] at ei ⊢
   by_cases hij : j = i
   ·subst hij;rw [if_pos rfl,lD oM,h2,show 0 + pre.length - pre.length = 0 from oM,mD (by rw [<- h2];exact hj)]
    rfl
   ·rw [if_neg hij,ei]
    congr 1
    rcases Nat.lt_or_ge i pre.length with hlt | hge
    ·rw [lP hlt,lP hlt]
    ·rw [lD hge,lD hge];obtain ⟨n,hn⟩ : ∃ n,i - pre.length = n + 1 := ⟨i - pre.length - 1,oM⟩;rw [hn];rfl
theorem map_del {t kt et ty kt2 : TypeId} [ht : TMap P t kt et] [hk : TStr P kt] {C : zd} {r : Nat} {m : List (L8 × Value)} {q : L8} {S G : zb} {κ : Value -> zb -> Prop} (hm : jg C r m) (hp : Pick C S G)
  (k : ∀ C',jg C' r (mdel m q) -> κ (.tuple #[]) (C' :: G)) : ValW P (Builtin.delete_ #[t,kt2] ty #[.map (some r),sT q]) S κ := by
 refine ⟨fun w hw => ?_⟩;obtain ⟨es,clock,rfl,he⟩ := hm;have hCG := hw.perm hp.perm;have hb := hCG.get r (.map es clock) sM;have hlen : es.size = m.length := by have := congrArg mA he;simpa using this
 cases hf : vN m q 0 with
 | none =>
  obtain ⟨_,_,h2⟩ := km m 0 hf;refine ⟨.tuple #[],w.putObj r (.map es clock),_,?_,kX _ _ _,vE hCG,k [(r,.map es clock)] ⟨_,_,rfl,by rw [h2];exact he⟩⟩;simp only [Builtin.delete_,iP,iJ,iD,Sem.run_bind,zL ht.und,Result.andThen,Xd hb,wZ hk.und,Zs hk.und q he,hf,yz hb,Sem.run_pure]
 | some p =>
  obtain ⟨j,u⟩ := p;obtain ⟨pre,post,h1,h2,h3,h4,h5⟩ := kj m 0 hf;have hj : j < es.size := by rw [hlen,h1];simp;omega
  refine ⟨.tuple #[],w.putObj r (.map (es.eraseIdxIfInBounds j) clock),_,?_,kX _ _ _,vE hCG,k [(r,.map (es.eraseIdxIfInBounds j) clock)] ⟨_,_,rfl,?_⟩⟩
  ·simp only [Builtin.delete_,iP,iJ,iD,Sem.run_bind,zL ht.und,Result.andThen,Xd hb,wZ hk.und,Zs hk.und q he,hf,yz hb,Sem.run_pure]
  ·rw [h5];have e3 : j = 0 + pre.length := h2;have e4 : (es.eraseIdxIfInBounds j).toList = es.toList.eraseIdx j := by simp [Array.eraseIdxIfInBounds,hj]
   have e5 : ∀ (l : List MapEntry) (f : MapEntry -> Value × Value) (i : Nat),(l.eraseIdx i).map f = (l.map f).eraseIdx i := by
    intro l f
    induction l with
    | nil => intro i;simp
    | cons x l ih => intro i;cases i <;> simp [ih]
   rw [e4,e5,he,h1,e3]
   simp [List.eraseIdx_append_of_length_le]
theorem fA {t kt et ty : TypeId} [ht : TMap P t kt et] {C : zd} {r : Nat} {m : List (L8 × Value)} {S : zb} {κ : Value -> Prop} (hm : jg C r m) (hC : C ∈ S) (k : κ (.int .i64 m.length)) :
  xG P (Builtin.len_ #[t] ty #[.map (some r)]) S κ := by
 obtain ⟨es,clock,rfl,he⟩ := hm;have hlen : es.size = m.length := by have := congrArg mA he;simpa using this
 refine ⟨_,fun w hw => ?_,k⟩;have hb := (Lies.of_mem (b := r) (o := .map es clock) (List.mem_singleton.2 rfl) hC).get hw
 simp [Builtin.len_,Sem.run_bind,zL ht.und,Result.andThen,Xd hb,goInt,hlen]
theorem VN {t : TypeId} {S : zb} {κ : Value -> zb -> Prop} (k : ∀ r C,jg C r [] -> κ (.map (some r)) (C :: S)) : ValW P (Instr.makeMap t none) S κ := by
 refine ⟨fun w hw => ?_⟩;refine ⟨.map (some w.heap.size),{ w with heap := w.heap.push (.map #[] 0) },_,?_,wJ rfl,hw.new rfl,k _ _ ⟨#[],0,rfl,rfl⟩⟩
 simp [Instr.makeMap,Sem.run_bind,Result.andThen,newObj,Sem.run]
end Go.Ost
namespace Go.Ost
open Go
theorem eqA0 {a b : Prop} (h : a = b := by ((try simp only [gos,gob,aJ,if_true,reduceIte,reduceCtorEq,iN,aP,iQ,iF,lJ,lK,iV,iW,iM,iX,iY,iZ,lA,lB,lC,aW,iI]);(try (simp (disch := omega) only [gow,gobw];try simp only [gos,gob,aJ,if_true,reduceIte,reduceCtorEq,iN,aP,iQ,iF,lJ,lK,iV,iW,iM,iX,iY,iZ,lA,lB,lC,aW,iI]));(first | done | exact rfl))) : a = b := h
theorem eqQ0 {a b : Prop} (h : a = b := by ((try simp only [gos,gob,aJ,if_true,reduceIte,reduceCtorEq,iN,aP,iQ,iF,lJ,lK,iV,iW,iM,iX,iY,iZ,lA,lB,lC,aW,iI,goq]);(try (simp (disch := omega) only [gow,gobw];try simp only [gos,gob,aJ,if_true,reduceIte,reduceCtorEq,iN,aP,iQ,iF,lJ,lK,iV,iW,iM,iX,iY,iZ,lA,lB,lC,aW,iI,goq]));(first | done | exact rfl))) : a = b := h
theorem omA {p : Prop} (h : p := by (first | omega | assumption | (simp only [aB,aX,aV,iA,aZ,List.length_range,mC,aH,aQ];omega))) : p := h
variable {P : Program} {n : Nat} {ro : Option Nat}
section facts
variable {S : zb} {a : OA} {len cap : Nat} {us : LV} {bs : L8} {H : zd} {κ : Value -> Prop} {t e : TypeId} {z : Value} {s by_ : Nat} {k : IntKind} {i : Int}
theorem ZF [xz P t e] [zm P e z 1 by_] (hr : Rd 1 [H] a len us) (h0 : 0 <= i) (h1 : i < len) (q : κ (.pointer (some (elA a i.toNat)))) : zk P (Instr.indexAt t (.slice a len cap) (.int k i)) κ := by rw [ZG hr h0 h1];exact q
theorem ZH [xz P t e] [zm P e z 1 by_] {e' : TypeId} {cap' : Nat} (ho : Own 1 e' H a len cap' us) (h0 : 0 <= i) (h1 : i < len) (q : κ (.pointer (some (elA a i.toNat)))) : zk P (Instr.indexAt t (.slice a len cap) (.int k i)) κ := by
 rw [ZG (ho.rd (S := [H]) (aA ..)) h0 h1];exact q
theorem wl {i : Nat} [xM P t] (hr : Rd 1 [H] a len (bs.map b8)) (hH : H ∈ S) (hi : i < bs.length) (q : κ (b8 (bs.getD i 0))) : xG P (Instr.loadAt t (.pointer (some (elA a i)))) S κ := XL (hr.mem hH) hi q
theorem wm {i : Nat} [xM P t] {e' : TypeId} (hr : Own 1 e' H a len cap (bs.map b8)) (hH : H ∈ S) (hi : i < bs.length) (q : κ (b8 (bs.getD i 0))) : xG P (Instr.loadAt t (.pointer (some (elA a i)))) S κ := XL (hr.rd hH) hi q
theorem yC {i : Nat} {v : Value} [xM P t] (hr : Rd 1 [H] a len us) (hv : us[i]? = some v) (hH : H ∈ S) (q : κ v) : xG P (Instr.loadAt t (.pointer (some (elA a i)))) S κ := VA (hr.mem hH) hv q
theorem kP {i : Nat} {v : Value} [xM P t] {e' : TypeId} (hr : Own 1 e' H a len cap us) (hv : us[i]? = some v) (hH : H ∈ S) (q : κ v) : xG P (Instr.loadAt t (.pointer (some (elA a i)))) S κ := VA (hr.rd hH) hv q
end facts
structure Runs (P : Program) (n : Nat) (ops : Array Oper) (l : List Oper) (L : Env) (S : zb) (l' : List Oper) (L' : Env) (S' : zb) : Prop where
 out : ∀ K : Env -> zb -> Prop,runW P n ops K l' L' S' -> runW P n ops K l L S
structure Km (P : Program) (n : Nat) (ops : Array Oper) (l : List zW) (L : Env) (S : zb) (l' : List zW) (L' : Env) (S' : zb) : Prop where
 out : ∀ K : Env -> zb -> Prop,xD P n ops K l' L' S' -> xD P n ops K l L S
section steps
variable {ops : Array Oper} {K : Env -> zb -> Prop} {o : Oper} {l l' : List Oper} {L L' : Env} {S S' : zb}
theorem qN (k : runW P n ops K (o :: l) L S) : runW P n ops K (o :: l) L S := k
theorem dW {l1 : List Oper} (k : runW P n ops K l1 L' S') (h : Runs P n ops (o :: l) L S l1 L' S' := by exact ⟨fun K0 hK0 => by ((with_reducible refine qt fun K hK => ?_);(try simp only [gos,gob,aJ,if_true,reduceIte,reduceCtorEq,iN,aP,iQ,iF,lJ,lK,iV,iW,iM,iX,iY,iZ,lA,lB,lC,aW,iI]);(try (simp (disch := omega) only [gow,gobw];try simp only [gos,gob,aJ,if_true,reduceIte,reduceCtorEq,iN,aP,iQ,iF,lJ,lK,iV,iW,iM,iX,iY,iZ,lA,lB,lC,aW,iI]));(first | (with_reducible refine hK _ _ ?_) | ((with_reducible apply ji);(· (repeat (first | with_reducible exact Lies.one | with_reducible apply Lies.next)));(with_reducible refine hK _ _ ?_)) | ((with_reducible apply xf);(· (repeat (first | with_reducible exact Lies.one | with_reducible apply Lies.next)));(· exact rfl);(with_reducible refine hK _ _ ?_)) | ((with_reducible apply xJ);(· exact trivial);(· (repeat (first | with_reducible exact Upd.one | with_reducible apply Upd.next)));(with_reducible refine hK _ _ ?_)) | ((with_reducible apply xq);(· exact trivial);(· (repeat (first | with_reducible exact Upd.one | with_reducible apply Upd.next)));(· simp);(with_reducible refine hK _ _ ?_)) | (first | ((with_reducible apply ZF);(· assumption);(· exact omA);(· exact omA);(with_reducible refine hK _ _ ?_)) | ((with_reducible apply ZH);(· assumption);(· exact omA);(· exact omA);(with_reducible refine hK _ _ ?_)) | ((with_reducible apply wl);(· assumption);(· (repeat (first | with_reducible assumption | with_reducible exact aA .. | with_reducible apply aK)));(· exact omA);(with_reducible refine hK _ _ ?_)) | ((with_reducible apply wm);(· assumption);(· (repeat (first | with_reducible assumption | with_reducible exact aA .. | with_reducible apply aK)));(· exact omA);(with_reducible refine hK _ _ ?_)) | ((with_reducible apply yC);(· assumption);(· assumption);(· (repeat (first | with_reducible assumption | with_reducible exact aA .. | with_reducible apply aK)));(with_reducible refine hK _ _ ?_)) | ((with_reducible apply kP);(· assumption);(· assumption);(· (repeat (first | with_reducible assumption | with_reducible exact aA .. | with_reducible apply aK)));(with_reducible refine hK _ _ ?_))));clear hK K);exact hK0⟩) : runW P n ops K (o :: l) L S := h.out K k
theorem run_to (k : runW P n ops K l' L' S') (h : Runs P n ops l L S l' L' S' := by exact ⟨fun K0 hK0 => by (repeat ((with_reducible refine qN ?_);refine dW ?_));exact hK0⟩) : runW P n ops K l L S := h.out K k
theorem qj {q : Prop} (k : q) (e : K L S = q := by ((try simp only [Cont.then,Cont.block,Cont.noGoto,reduceIte,aP]);(first | done | exact rfl))) : runW P n ops K [] L S := jN (e ▸ k)
theorem xd {X : (Env -> zb -> Prop) -> Prop} (h : ∀ N : Env -> zb -> Prop,(∀ L S,runW P n ops K l L S -> N L S) -> X N)
  (e : ∀ N : Env -> zb -> Prop,xA ops o L (zY P o.op o.type L S fun v S' => N (putT n o.dst v L) S') (N (putT n o.dst undef L) S) = X N := by exact fun N => eqA0) : runW P n ops K (o :: l) L S :=
 qt fun N hN => (e N) ▸ h N hN
variable {i : Nat} {pd : List Nat} {p p' : List zW}
theorem kF {p0 : zW} (k : xD P n ops K (p0 :: p) L S) : xD P n ops K (p0 :: p) L S := k
theorem draw_one {p0 : zW} (k : xD P n ops K p' L' S') (h : Km P n ops (p0 :: p) L S p' L' S' := by exact ⟨fun K0 hK0 => by refine yH (by simp only [iP,iD,iJ];rfl) fun K hK => ?_;(try simp only [gos,gob,aJ,if_true,reduceIte,reduceCtorEq,iN,aP,iQ,iF,lJ,lK,iV,iW,iM,iX,iY,iZ,lA,lB,lC,aW,iI,goq]);(try (simp (disch := omega) only [gow,gobw];try simp only [gos,gob,aJ,if_true,reduceIte,reduceCtorEq,iN,aP,iQ,iF,lJ,lK,iV,iW,iM,iX,iY,iZ,lA,lB,lC,aW,iI,goq]));(first | (with_reducible refine hK _ _ ?_) | ((with_reducible apply ji);(· (repeat (first | with_reducible exact Lies.one | with_reducible apply Lies.next)));(with_reducible refine hK _ _ ?_)) | ((with_reducible apply xf);(· (repeat (first | with_reducible exact Lies.one | with_reducible apply Lies.next)));(· exact rfl);(with_reducible refine hK _ _ ?_)) | ((with_reducible apply xJ);(· exact trivial);(· (repeat (first | with_reducible exact Upd.one | with_reducible apply Upd.next)));(with_reducible refine hK _ _ ?_)) | ((with_reducible apply xq);(· exact trivial);(· (repeat (first | with_reducible exact Upd.one | with_reducible apply Upd.next)));(· simp);(with_reducible refine hK _ _ ?_)) | (first | ((with_reducible apply ZF);(· assumption);(· exact omA);(· exact omA);(with_reducible refine hK _ _ ?_)) | ((with_reducible apply ZH);(· assumption);(· exact omA);(· exact omA);(with_reducible refine hK _ _ ?_)) | ((with_reducible apply wl);(· assumption);(· (repeat (first | with_reducible assumption | with_reducible exact aA .. | with_reducible apply aK)));(· exact omA);(with_reducible refine hK _ _ ?_)) | ((with_reducible apply wm);(· assumption);(· (repeat (first | with_reducible assumption | with_reducible exact aA .. | with_reducible apply aK)));(· exact omA);(with_reducible refine hK _ _ ?_)) | ((with_reducible apply yC);(· assumption);(· assumption);(· (repeat (first | with_reducible assumption | with_reducible exact aA .. | with_reducible apply aK)));(with_reducible refine hK _ _ ?_)) | ((with_reducible apply kP);(· assumption);(· assumption);(· (repeat (first | with_reducible assumption | with_reducible exact aA .. | with_reducible apply aK)));(with_reducible refine hK _ _ ?_))));clear hK K;exact hK0⟩) : xD P n ops K (p0 :: p) L S := h.out K k
theorem jj (k : xD P n ops K p' L' S') (h : Km P n ops p L S p' L' S' := by exact ⟨fun K0 hK0 => by (repeat ((with_reducible refine kF ?_);refine draw_one ?_));exact hK0⟩) : xD P n ops K p L S := h.out K k
theorem zx {q : Prop} (k : q) (e : K L S = q := by ((try simp only [Cont.then,Cont.block,Cont.noGoto,reduceIte,aP]);(first | done | exact rfl))) : xD P n ops K [] L S := qd (e ▸ k)
theorem wL {X : (Env -> zb -> Prop) -> Prop} (h : ∀ N : Env -> zb -> Prop,(∀ L S,xD P n ops K p L S -> N L S) -> X N)
  (ho : ops[i]? = some o := by (simp only [iP,iD,iJ];exact rfl))
  (e : ∀ N : Env -> zb -> Prop,xA ops o L (zY P o.op o.type L S fun v S' => xF P ops pd (putT n o.dst v L) S' (N (putT n o.dst v L) S')) (xF P ops pd (putT n o.dst undef L) S (N (putT n o.dst undef L) S)) = X N := by exact fun N => eqQ0) :
  xD P n ops K ((i,true,pd) :: p) L S := vx ho fun N hN => (e N) ▸ h N hN
variable {K : Cont} {D : List Nat} {id : Nat}
theorem ez (k : runW P n l.toArray (K .normal D) l' L' S') (h : Runs P n l.toArray l L S l' L' S' := by exact ⟨fun K0 hK0 => by (repeat ((with_reducible refine qN ?_);refine dW ?_));exact hK0⟩) : zB P n ro (.region id l.toArray false) K D L S :=
 jU (h.out _ k)
end steps
section control
variable {K : Cont} {D : List Nat} {L : Env} {S : zb}
theorem jH {c : Operand} {x y : Code} {b : Bool} (ht : b = true -> zB P n ro x K D L S) (hf : b = false -> zB P n ro y K D L S) (hc : evT L c = some (.bool b) := by (try simp only [evT,zj,zi,aJ]);(first | done | exact rfl)) : zB P n ro (.cond c x y) K D L S := wr hc ht hf
theorem jX {c : Operand} {x y : Code} (k : zB P n ro x K D L S) (hc : evT L c = some (.bool true) := by (try simp only [evT,zj,zi,aJ]);(first | done | exact rfl)) : zB P n ro (.cond c x y) K D L S := WK hc k
theorem jZ {c : Operand} {x y : Code} (k : zB P n ro y K D L S) (hc : evT L c = some (.bool false) := by (try simp only [evT,zj,zi,aJ]);(first | done | exact rfl)) : zB P n ro (.cond c x y) K D L S := wq hc k
theorem xr {q : Prop} (k : q) (e : K .ret D L S = q := by ((try simp -implicitDefEqProofs only [Cont.then,Cont.block,Cont.noGoto,reduceIte]);(first | done | exact rfl))) : zB P n ro .ret K D L S := qe (e ▸ k)
theorem jq {f : FuncId} {args : LV} {A G : zb} {R κ : Value -> zb -> Prop} (h : zh P f args A R) (k : ∀ v A',R v A' -> κ v (A' ++ G)) (ht : Take A S G := by exact tkA) : vf P f args.toArray S κ := xX h ht k
theorem ze {R : Value -> zb -> Prop} {F : zd} {t : Nat} {v : Value} (A' : zb) (hR : R v A') (hv : lookT L t = some v := by (try simp only [evT,zj,zi,aJ]);(first | done | exact rfl)) (hs : zn (F :: A') S := by exact amA) : RetK P [.tmp t] R F .ret [] L S := yV A' hv hR hs
theorem jO {R : Value -> zb -> Prop} {F : zd} (A' : zb) (hR : R (.tuple #[]) A') (hs : zn (F :: A') S := by exact amA) : RetK P [] R F .ret [] L S := OO A' hR hs
theorem xm {R : Value -> zb -> Prop} {F : zd} (A' : zb) (hR : R (.tuple #[]) A') (hs : zn (F :: A') S := by exact amA) : RetK P [] R F .normal [] L S := Xf A' hR hs
theorem zI {I : Nat -> List Nat -> Env -> zb -> Prop} {m m' : Nat} {L'' : Env} {S'' : zb} (hI : I m' D L'' S'') (hm : m' < m := by omega) (hL : ke L'' L := by (repeat (first | exact True.intro | (refine aF ?_ ?_;(· (try simp only [evT,zj,zi,aJ]);(first | done | exact rfl)))))) (hS : zn S'' S := by exact amA) : Again I m D L S := ⟨m',L'',S'',hm,hI,hL,hS⟩
theorem pend {a b : Prop} (k : b) (h : a := by (first | exact trivial | ((with_reducible apply ji);(· (repeat (first | with_reducible exact Lies.one | with_reducible apply Lies.next)));(· exact rfl)) | ((with_reducible apply xf);(· (repeat (first | with_reducible exact Lies.one | with_reducible apply Lies.next)));(· exact rfl);(· exact rfl)) | (first | ((with_reducible apply wl);(· assumption);(· (repeat (first | with_reducible assumption | with_reducible exact aA .. | with_reducible apply aK)));(· exact omA);exact rfl) | ((with_reducible apply wm);(· assumption);(· (repeat (first | with_reducible assumption | with_reducible exact aA .. | with_reducible apply aK)));(· exact omA);exact rfl) | ((with_reducible apply yC);(· assumption);(· assumption);(· (repeat (first | with_reducible assumption | with_reducible exact aA .. | with_reducible apply aK)));exact rfl) | ((with_reducible apply kP);(· assumption);(· assumption);(· (repeat (first | with_reducible assumption | with_reducible exact aA .. | with_reducible apply aK)));exact rfl)))) : a /\ b := ⟨h,k⟩
theorem less {c : Code} {L' : Env} {S' : zb} (h : zB P n ro c K D L' S') (hL : ke L' L := by (repeat (first | exact True.intro | (refine aF ?_ ?_;(· (try simp only [evT,zj,zi,aJ]);(first | done | exact rfl)))))) (hS : zn S' S := by exact amA) : zB P n ro c K D L S := vR hL hS h
end control
theorem zf {rs : List ResultVar} {R : Value -> zb -> Prop} {F : zd} {D : List Nat} {L : Env} {S S1 : zb} {vs : LV} (A' : zb) (hR : R (wO vs) A')
  (ht : Take (qo D) S S1 := by (simp only [qo,iB,mV];(repeat (first | with_reducible exact Take.nil _ | with_reducible exact Pick.head _ _ | with_reducible apply Pick.tail | with_reducible apply Take.cons))))
  (hr : ∀ κ : LV -> Prop,κ vs -> resW P rs L S1 κ := by (intro κ hκ;simp only [resW,zy,zj,zi,aJ];(repeat (first | refine ji (by (repeat (first | with_reducible exact Lies.one | with_reducible apply Lies.next))) ?_ | refine xf (by (repeat (first | with_reducible exact Lies.one | with_reducible apply Lies.next))) rfl ?_));exact hκ))
  (hs : zn (F :: A') S1 := by exact amA) : RetK P rs R F .ret D L S := ⟨S1,ht,hr _ ⟨A',hR,hs⟩⟩
theorem XC {rs : List ResultVar} {R : Value -> zb -> Prop} {F : zd} {D : List Nat} {L : Env} {S S1 : zb} {vs : LV} (A' : zb) (hR : R (wO vs) A')
  (ht : Take (qo D) S S1 := by (simp only [qo,iB,mV];(repeat (first | with_reducible exact Take.nil _ | with_reducible exact Pick.head _ _ | with_reducible apply Pick.tail | with_reducible apply Take.cons))))
  (hr : ∀ κ : LV -> Prop,κ vs -> resW P rs L S1 κ := by (intro κ hκ;simp only [resW,zy,zj,zi,aJ];(repeat (first | refine ji (by (repeat (first | with_reducible exact Lies.one | with_reducible apply Lies.next))) ?_ | refine xf (by (repeat (first | with_reducible exact Lies.one | with_reducible apply Lies.next))) rfl ?_));exact hκ))
  (hs : zn (F :: A') S1 := by exact amA) : RetK P rs R F .normal D L S := ⟨S1,ht,hr _ ⟨A',hR,hs⟩⟩
end Go.Ost
namespace Go.Ost
open Go
variable {P : Program} {n : Nat} {ro : Option Nat} {K : Cont} {N : List Nat -> Env -> zb -> Prop} {D : List Nat} {L : Env} {S : zb}
theorem qL (k : N D L S) : Cont.then N K .normal D L S := k
theorem wb (k : K .ret D L S) : Cont.then N K .ret D L S := k
theorem wd {i : Nat} (k : K (.exit i) D L S) : Cont.then N K (.exit i) D L S := k
theorem vA {b : Nat} (k : K .normal D L S) : Cont.block b K .normal D L S := k
theorem vy {b : Nat} (k : K .ret D L S) : Cont.block b K .ret D L S := k
theorem vC {b : Nat} (k : K .normal D L S) : Cont.block b K (.exit b) D L S := by simp only [Cont.block,if_true];exact k
theorem vz {b i : Nat} (k : K (.exit i) D L S) (h : i ≠ b := by decide) : Cont.block b K (.exit i) D L S := by simp only [Cont.block];rw [if_neg h];exact k
theorem vo (k : K .normal D L S) : Cont.noGoto K .normal D L S := k
theorem vm (k : K .ret D L S) : Cont.noGoto K .ret D L S := k
theorem vp {i : Nat} (k : K (.exit i) D L S) : Cont.noGoto K (.exit i) D L S := k
variable {l l' : List Oper} {L' : Env} {S' : zb} {id : Nat} {x y : Code}
theorem code_dr {ops : Array Oper} (A : List (List Nat)) (pl : List zW) (h : xD P n ops (K .normal D) pl L S) (hm : P.follows .mixedOrders = true := by kernel_rfl)
  (hok : Wa ops A n pl = true := by kernel_rfl) : zB P n ro (.region id ops true) K D L S := WM A pl hm hok h
theorem if_d {c : Operand} {p : Prop} [Decidable p] (ht : p -> zB P n ro x K D L S) (hf : ¬ p -> zB P n ro y K D L S) (hc : evT L c = some (.bool (decide p)) := by (try simp only [evT,zj,zi,aJ]);(first | done | exact rfl)) : zB P n ro (.cond c x y) K D L S :=
 wr hc (fun h => ht (of_decide_eq_true h)) (fun h => hf (of_decide_eq_false h))
theorem if_b {c : Operand} {α : Type} [BEq α] [LawfulBEq α] {a b : α} (ht : a = b -> zB P n ro x K D L S) (hf : a ≠ b -> zB P n ro y K D L S) (hc : evT L c = some (.bool (a == b)) := by (try simp only [evT,zj,zi,aJ]);(first | done | exact rfl)) : zB P n ro (.cond c x y) K D L S :=
 wr hc (fun h => ht (eq_of_beq h)) (fun h => hf (fun e => by subst e;simp at h))
theorem if_nb {c : Operand} {α : Type} [BEq α] [LawfulBEq α] {a b : α} (ht : a ≠ b -> zB P n ro x K D L S) (hf : a = b -> zB P n ro y K D L S) (hc : evT L c = some (.bool (a != b)) := by (try simp only [evT,zj,zi,aJ]);(first | done | exact rfl)) : zB P n ro (.cond c x y) K D L S :=
 wr hc (fun h => ht (fun e => by subst e;simp at h)) (fun h => hf (by simpa using h))
theorem jn {ops : Array Oper} {KK : Env -> zb -> Prop} {o : Oper} {l : List Oper} (k : runW P n ops KK (o :: l) L S) : runW P n ops KK (o :: l) L S := k
theorem jv {ops : Array Oper} {KK : Env -> zb -> Prop} {p0 : zW} {p : List zW} (k : xD P n ops KK (p0 :: p) L S) : xD P n ops KK (p0 :: p) L S := k
theorem jW {id : Nat} {ops : Array Oper} {K : Cont} {D : List Nat} {L : Env} {S : zb} {ro : Option Nat} (k : zB P n ro (.region id ops false) K D L S) : zB P n ro (.region id ops false) K D L S := k
theorem xY {b i : Nat} {K : Cont} {D : List Nat} {L : Env} {S : zb} (k : Cont.block b K (.exit i) D L S) : Cont.block b K (.exit i) D L S := k
theorem jw {c : Operand} {x y : Code} {K : Cont} {D : List Nat} {L : Env} {S : zb} {ro : Option Nat} (k : zB P n ro (.cond c x y) K D L S) : zB P n ro (.cond c x y) K D L S := k
structure Mid (Q : List Nat -> Env -> zb -> Prop) (D : List Nat) (L : Env) (S : zb) : Prop where
 out : ∃ L' S',Q D L' S' /\ ke L' L /\ zn S' S
theorem mid {Q : List Nat -> Env -> zb -> Prop} {L' : Env} {S' : zb} (h : Q D L' S') (hL : ke L' L := by (repeat (first | exact True.intro | (refine aF ?_ ?_;(· (try simp only [evT,zj,zi,aJ]);(first | done | exact rfl)))))) (hS : zn S' S := by exact amA) : Mid Q D L S := ⟨L',S',h,hL,hS⟩
theorem dJ {c d : Code} (Q : List Nat -> Env -> zb -> Prop) (h1 : zB P n ro c (Cont.then (Mid Q) K) D L S) (h2 : ∀ D L S,Q D L S -> zB P n ro d K D L S) : zB P n ro (.seq c d) K D L S :=
 zS (JY h1 fun e D L S h => by
  cases e <;> first | exact h | skip
  obtain ⟨L',S',hq,hL,hS⟩ := h;exact vR hL hS (h2 D L' S' hq))
theorem zM {c : Code} (I : Nat -> List Nat -> Env -> zb -> Prop) {m : Nat} {L0 : Env} {S0 : zb} (h0 : I m D L0 S0) (round : ∀ m D L S,I m D L S -> zB P n ro c (Cont.then (Again I m) K) D L S)
  (hL : ke L0 L := by (repeat (first | exact True.intro | (refine aF ?_ ?_;(· (try simp only [evT,zj,zi,aJ]);(first | done | exact rfl)))))) (hS : zn S0 S := by exact amA) : zB P n ro (.loop c) K D L S := xL I ⟨m,L0,S0,h0,hL,hS⟩ round
theorem code_sub {c : Code} {S' : zb} (h : zB P n ro c K D L S') (hs : zn S' S := by exact amA) : zB P n ro c K D L S := ⟨fun a w ha hw => h.out a w ha (hs.hold hw)⟩
end Go.Ost
namespace Go.Ost
open Go
variable {P : Program} {n : Nat} {ro : Option Nat} {K : Cont} {D : List Nat} {L : Env} {S : zb}
section facts
variable {a : OA} {len cap : Nat} {us : LV} {H : zd} {κ : Value -> Prop} {t e e' : TypeId} {z : Value} {s by_ : Nat} {k : IntKind} {α : Type} {enc : α -> LV} {l : List α} {x x' : α} {v : Value}
theorem Wy {si i off ft : Nat} {m : Nat} [h : zl P si i off ft] (q : κ (.pointer (some (elA a (m + off))))) : zk P (Instr.fieldAt si (.pointer (some (elA a m))) i) κ := by rw [field_el];exact q
theorem el_ato {i : Int} [xz P t e] [zm P e z s by_] {cap' : Nat} (ho : Own s e' H a len cap' us) (h0 : 0 <= i) (h1 : i < len) (hp : 0 < s) (q : κ (.pointer (some (elA a (i.toNat * s))))) : zk P (Instr.indexAt t (.slice a len cap) (.int k i)) κ := by
 rw [el_at (ho.rd (S := [H]) (aA ..)) h0 h1 hp];exact q
theorem JI {i off : Nat} [xM P t] (ho : Own s e' H a len cap (l.flatMap enc)) (hs : ∀ x,(enc x).length = s) (hx : l[i]? = some x) (hv : (enc x)[off]? = some v) (hH : H ∈ S) (q : κ v) : xG P (Instr.loadAt t (.pointer (some (elA a (i * s + off))))) S κ := by
 have hi := (List.getElem?_eq_some_iff.1 hx).1;have ho' := (List.getElem?_eq_some_iff.1 hv).1;refine el_load (ho.rd hH) ?_ q;rw [IC enc s hs l i off hi (by rw [<- hs x];exact ho'),List.getElem?_eq_some_iff.1 hx |>.2];exact hv
theorem xh {i : Nat} {b2 : Nat} [jG P t] [zm P t z s b2] (ho : Own s e' H a len cap (l.flatMap enc)) (hs : ∀ x,(enc x).length = s) (hx : l[i]? = some x) (hp : 0 < s) (hH : H ∈ S) (q : κ (.agg (enc x).toArray)) : xG P (Instr.loadAt t (.pointer (some (elA a (i * s))))) S κ := by
 have hi := (List.getElem?_eq_some_iff.1 hx).1;refine Zf (ho.rd hH) hp ?_ ?_
 ·rw [qY enc s hs];have : (i + 1) * s <= l.length * s := lM s hi;rw [lO] at this;omega
 ·rw [UB enc s hs l i hi,List.getElem?_eq_some_iff.1 hx |>.2];exact q
theorem Zl {i off : Nat} {b2 : Nat} {G : zb} {κ : zb -> Prop} [zm P t z 1 b2] (ho : Own s e' H a len cap (l.flatMap enc)) (hp : Pick H S G) (hs : ∀ x,(enc x).length = s) (hx : l[i]? = some x) (hc : Value.cell1 v) (hv : (enc x).set off v = enc x') (hoff : off < s)
  (q : ∀ C',Own s e' C' a len cap ((l.set i x').flatMap enc) -> κ (C' :: G)) : jI P (Instr.storeAt t (.pointer (some (elA a (i * s + off)))) v) S κ := by
 have hi := (List.getElem?_eq_some_iff.1 hx).1;refine bU ho hp hc ?_ (fun C' h => q C' ?_)
 ·rw [qY enc s hs];have : (i + 1) * s <= l.length * s := lM s hi;rw [lO] at this;omega
 ·rw [IB enc s hs l i off v hi x' (by rw [List.getElem?_eq_some_iff.1 hx |>.2];exact hv) hoff] at h;exact h
theorem kL {i : Nat} {b2 : Nat} {G : zb} {κ : zb -> Prop} [zm P t z s b2] (ho : Own s e' H a len cap (l.flatMap enc)) (hp : Pick H S G) (hs : ∀ x,(enc x).length = s) (hi : i < l.length) (h0 : 0 < s) (hc : ∀ u ∈ enc x',Value.cell1 u)
  (q : ∀ C',Own s e' C' a len cap ((l.set i x').flatMap enc) -> κ (C' :: G)) : jI P (Instr.storeAt t (.pointer (some (elA a (i * s)))) (.agg (enc x').toArray)) S κ := by
 refine ZC ho hp h0 (hs x') hc ?_ (fun C' h => q C' ?_)
 ·rw [qY enc s hs];have : (i + 1) * s <= l.length * s := lM s hi;rw [lO] at this;omega
 ·rw [gh enc s hs l i hi] at h;exact h
end facts
variable {l l' : List Oper} {L' : Env} {S' : zb} {id : Nat} {ops : Array Oper} {KK : Env -> zb -> Prop}
theorem Jy {a b : Prop} (k : b) (h : a := by (first | ((with_reducible apply JI);(· assumption);(· assumption);(· assumption);(· exact rfl);(· (repeat (first | with_reducible assumption | with_reducible exact aA .. | with_reducible apply aK)));exact rfl) | (first | exact trivial | ((with_reducible apply ji);(· (repeat (first | with_reducible exact Lies.one | with_reducible apply Lies.next)));(· exact rfl)) | ((with_reducible apply xf);(· (repeat (first | with_reducible exact Lies.one | with_reducible apply Lies.next)));(· exact rfl);(· exact rfl)) | (first | ((with_reducible apply wl);(· assumption);(· (repeat (first | with_reducible assumption | with_reducible exact aA .. | with_reducible apply aK)));(· exact omA);exact rfl) | ((with_reducible apply wm);(· assumption);(· (repeat (first | with_reducible assumption | with_reducible exact aA .. | with_reducible apply aK)));(· exact omA);exact rfl) | ((with_reducible apply yC);(· assumption);(· assumption);(· (repeat (first | with_reducible assumption | with_reducible exact aA .. | with_reducible apply aK)));exact rfl) | ((with_reducible apply kP);(· assumption);(· assumption);(· (repeat (first | with_reducible assumption | with_reducible exact aA .. | with_reducible apply aK)));exact rfl))))) : a /\ b := ⟨h,k⟩
theorem Vu {o : Oper} {l : List Oper} (k : runW P n ops KK l' L' S') (h : Runs P n ops (o :: l) L S l' L' S' := by exact ⟨fun K0 hK0 => by ((with_reducible refine qt fun K hK => ?_);(try simp only [gos,gob,aJ,if_true,reduceIte,reduceCtorEq,iN,aP,iQ,iF,lJ,lK,iV,iW,iM,iX,iY,iZ,lA,lB,lC,aW,iI]);(try (simp (disch := omega) only [gow,gobw];try simp only [gos,gob,aJ,if_true,reduceIte,reduceCtorEq,iN,aP,iQ,iF,lJ,lK,iV,iW,iM,iX,iY,iZ,lA,lB,lC,aW,iI]));(first | (first | (with_reducible refine hK _ _ ?_) | ((with_reducible apply ji);(· (repeat (first | with_reducible exact Lies.one | with_reducible apply Lies.next)));(with_reducible refine hK _ _ ?_)) | ((with_reducible apply xf);(· (repeat (first | with_reducible exact Lies.one | with_reducible apply Lies.next)));(· exact rfl);(with_reducible refine hK _ _ ?_)) | ((with_reducible apply xJ);(· exact trivial);(· (repeat (first | with_reducible exact Upd.one | with_reducible apply Upd.next)));(with_reducible refine hK _ _ ?_)) | ((with_reducible apply xq);(· exact trivial);(· (repeat (first | with_reducible exact Upd.one | with_reducible apply Upd.next)));(· simp);(with_reducible refine hK _ _ ?_)) | (first | ((with_reducible apply ZF);(· assumption);(· exact omA);(· exact omA);(with_reducible refine hK _ _ ?_)) | ((with_reducible apply ZH);(· assumption);(· exact omA);(· exact omA);(with_reducible refine hK _ _ ?_)) | ((with_reducible apply wl);(· assumption);(· (repeat (first | with_reducible assumption | with_reducible exact aA .. | with_reducible apply aK)));(· exact omA);(with_reducible refine hK _ _ ?_)) | ((with_reducible apply wm);(· assumption);(· (repeat (first | with_reducible assumption | with_reducible exact aA .. | with_reducible apply aK)));(· exact omA);(with_reducible refine hK _ _ ?_)) | ((with_reducible apply yC);(· assumption);(· assumption);(· (repeat (first | with_reducible assumption | with_reducible exact aA .. | with_reducible apply aK)));(with_reducible refine hK _ _ ?_)) | ((with_reducible apply kP);(· assumption);(· assumption);(· (repeat (first | with_reducible assumption | with_reducible exact aA .. | with_reducible apply aK)));(with_reducible refine hK _ _ ?_)))) | (first | ((with_reducible apply Wy);(with_reducible refine hK _ _ ?_)) | ((with_reducible apply el_ato);(· assumption);(· exact omA);(· exact omA);(· exact Nat.succ_pos _);(with_reducible refine hK _ _ ?_)) | ((with_reducible apply JI);(· assumption);(· assumption);(· assumption);(· exact rfl);(· (repeat (first | with_reducible assumption | with_reducible exact aA .. | with_reducible apply aK)));(with_reducible refine hK _ _ ?_)) | ((with_reducible apply fA);(· assumption);(· (repeat (first | with_reducible assumption | with_reducible exact aA .. | with_reducible apply aK)));(with_reducible refine hK _ _ ?_)) | ((with_reducible apply Wg);(· assumption);(· (repeat (first | with_reducible assumption | with_reducible exact aA .. | with_reducible apply aK)));(with_reducible refine hK _ _ ?_)) | ((with_reducible apply Wh);(· assumption);(· (repeat (first | with_reducible assumption | with_reducible exact aA .. | with_reducible apply aK)));(with_reducible refine hK _ _ ?_))));clear hK K);exact hK0⟩) : runW P n ops KK (o :: l) L S := h.out _ k
theorem WF {p0 : zW} {p p' : List zW} (k : xD P n ops KK p' L' S') (h : Km P n ops (p0 :: p) L S p' L' S' := by exact ⟨fun K0 hK0 => by refine yH (by simp only [iP,iD,iJ];rfl) fun K hK => ?_;(try simp only [gos,gob,aJ,if_true,reduceIte,reduceCtorEq,iN,aP,iQ,iF,lJ,lK,iV,iW,iM,iX,iY,iZ,lA,lB,lC,aW,iI,goq]);(try (simp (disch := omega) only [gow,gobw];try simp only [gos,gob,aJ,if_true,reduceIte,reduceCtorEq,iN,aP,iQ,iF,lJ,lK,iV,iW,iM,iX,iY,iZ,lA,lB,lC,aW,iI,goq]));(first | (first | (with_reducible refine hK _ _ ?_) | ((with_reducible apply ji);(· (repeat (first | with_reducible exact Lies.one | with_reducible apply Lies.next)));(with_reducible refine hK _ _ ?_)) | ((with_reducible apply xf);(· (repeat (first | with_reducible exact Lies.one | with_reducible apply Lies.next)));(· exact rfl);(with_reducible refine hK _ _ ?_)) | ((with_reducible apply xJ);(· exact trivial);(· (repeat (first | with_reducible exact Upd.one | with_reducible apply Upd.next)));(with_reducible refine hK _ _ ?_)) | ((with_reducible apply xq);(· exact trivial);(· (repeat (first | with_reducible exact Upd.one | with_reducible apply Upd.next)));(· simp);(with_reducible refine hK _ _ ?_)) | (first | ((with_reducible apply ZF);(· assumption);(· exact omA);(· exact omA);(with_reducible refine hK _ _ ?_)) | ((with_reducible apply ZH);(· assumption);(· exact omA);(· exact omA);(with_reducible refine hK _ _ ?_)) | ((with_reducible apply wl);(· assumption);(· (repeat (first | with_reducible assumption | with_reducible exact aA .. | with_reducible apply aK)));(· exact omA);(with_reducible refine hK _ _ ?_)) | ((with_reducible apply wm);(· assumption);(· (repeat (first | with_reducible assumption | with_reducible exact aA .. | with_reducible apply aK)));(· exact omA);(with_reducible refine hK _ _ ?_)) | ((with_reducible apply yC);(· assumption);(· assumption);(· (repeat (first | with_reducible assumption | with_reducible exact aA .. | with_reducible apply aK)));(with_reducible refine hK _ _ ?_)) | ((with_reducible apply kP);(· assumption);(· assumption);(· (repeat (first | with_reducible assumption | with_reducible exact aA .. | with_reducible apply aK)));(with_reducible refine hK _ _ ?_)))) | (first | ((with_reducible apply Wy);(with_reducible refine hK _ _ ?_)) | ((with_reducible apply el_ato);(· assumption);(· exact omA);(· exact omA);(· exact Nat.succ_pos _);(with_reducible refine hK _ _ ?_)) | ((with_reducible apply JI);(· assumption);(· assumption);(· assumption);(· exact rfl);(· (repeat (first | with_reducible assumption | with_reducible exact aA .. | with_reducible apply aK)));(with_reducible refine hK _ _ ?_)) | ((with_reducible apply fA);(· assumption);(· (repeat (first | with_reducible assumption | with_reducible exact aA .. | with_reducible apply aK)));(with_reducible refine hK _ _ ?_)) | ((with_reducible apply Wg);(· assumption);(· (repeat (first | with_reducible assumption | with_reducible exact aA .. | with_reducible apply aK)));(with_reducible refine hK _ _ ?_)) | ((with_reducible apply Wh);(· assumption);(· (repeat (first | with_reducible assumption | with_reducible exact aA .. | with_reducible apply aK)));(with_reducible refine hK _ _ ?_))));clear hK K;exact hK0⟩) : xD P n ops KK (p0 :: p) L S := h.out _ k
theorem vW (k : runW P n l.toArray (K .normal D) l' L' S') (h : Runs P n l.toArray l L S l' L' S' := by exact ⟨fun K0 hK0 => by (repeat ((with_reducible refine qN ?_);refine Vu ?_));exact hK0⟩) : zB P n ro (.region id l.toArray false) K D L S := jU (h.out _ k)
theorem jm {o : Oper} {l : List Oper} (k : runW P n ops KK l' L' S') (h : Runs P n ops (o :: l) L S l' L' S' := by exact ⟨fun K0 hK0 => by refine Vu ?_;(repeat ((with_reducible refine qN ?_);refine Vu ?_));exact hK0⟩) : runW P n ops KK (o :: l) L S := h.out _ k
theorem qD {p0 : zW} {p p' : List zW} (k : xD P n ops KK p' L' S') (h : Km P n ops (p0 :: p) L S p' L' S' := by exact ⟨fun K0 hK0 => by refine vx (by simp only [iP,iD,iJ];rfl) fun K hK => ?_;(try simp only [gos,gob,aJ,if_true,reduceIte,reduceCtorEq,iN,aP,iQ,iF,lJ,lK,iV,iW,iM,iX,iY,iZ,lA,lB,lC,aW,iI,goq]);(try (simp (disch := omega) only [gow,gobw];try simp only [gos,gob,aJ,if_true,reduceIte,reduceCtorEq,iN,aP,iQ,iF,lJ,lK,iV,iW,iM,iX,iY,iZ,lA,lB,lC,aW,iI,goq]));(first | ((repeat refine Jy ?_);(with_reducible refine hK _ _ ?_)) | ((with_reducible apply xJ);(· exact trivial);(· (repeat (first | with_reducible exact Upd.one | with_reducible apply Upd.next)));(repeat refine Jy ?_);(with_reducible refine hK _ _ ?_)) | ((with_reducible apply xq);(· exact trivial);(· (repeat (first | with_reducible exact Upd.one | with_reducible apply Upd.next)));(· simp);(repeat refine Jy ?_);(with_reducible refine hK _ _ ?_)));clear hK K;exact hK0⟩) : xD P n ops KK (p0 :: p) L S := h.out _ k
theorem ju {p0 : zW} {p p' : List zW} (k : xD P n ops KK p' L' S') (h : Km P n ops (p0 :: p) L S p' L' S' := by exact ⟨fun K0 hK0 => by (with_reducible refine kF ?_);refine WF ?_;(repeat ((with_reducible refine kF ?_);refine WF ?_));exact hK0⟩) : xD P n ops KK (p0 :: p) L S := h.out _ k
theorem zO {c d : Code} {K' : Cont} (Q : List Nat -> Env -> zb -> Prop) (h1 : zB P n ro c (Cont.then (Mid Q) K) D L S) (h2 : ∀ D L S,Q D L S -> zB P n ro d K' D L S) : zB P n ro c (Cont.then (zB P n ro d K') K) D L S :=
 JY h1 fun e D L S h => by
  cases e <;> first | exact h | skip
  obtain ⟨L',S',hq,hL,hS⟩ := h;exact vR hL hS (h2 D L' S' hq)
end Go.Ost
namespace Go.Ost
open Go
structure Impl (a b : Prop) : Prop where out : a -> b
structure Hid (a : Prop) : Prop where out : a
variable {P : Program}
theorem Ws (vs : LV) : ∀ (l p r : LV),r.length = l.length -> vs = p ++ l ->
  (l.zipIdx p.length).foldl (fun (cs : Array Value) (x : Value × Nat) => cs.setIfInBounds x.2 x.1) (p ++ r).toArray = vs.toArray
 | [],p,[],_,h => by simp at h;simp [h]
 | v :: l,p,x :: r,hl,h => by
  rw [List.zipIdx_cons,List.foldl_cons];have ih := Ws vs l (p ++ [v]) r (by simpa using hl) (by rw [h];simp);rw [aB,aH,aQ] at ih
  have e : (p ++ x :: r).toArray.setIfInBounds p.length v = (p ++ [v] ++ r).toArray := by
   apply lS;simp
  rw [e];exact ih
theorem xt {t e : TypeId} {z : Value} {s by_ : Nat} [ht : xz P t e] [hs : zm P e z s by_] (hz : z.cells.size = s) (h0 : 0 < s) (hs2 : s <= 1000) {vs : LV} (hv : vs.length = s) {S : zb} {κ : Value -> zb -> Prop}
  (k : ∀ b C,Own s e C (some ⟨b,0,none⟩) 1 1 vs -> κ (.slice (some ⟨b,0,none⟩) 1 1) (C :: S)) : ValW P (Instr.buildSlice t 1 #[(0,.agg vs.toArray)]) S κ := by
 refine ⟨fun w hw => ?_⟩;refine ⟨_,{ w with heap := w.heap.push (.cells vs.toArray e) },_,?_,wJ rfl,hw.new rfl,k _ _ ⟨aR _,by simp [maxLen],oM,.inr ⟨_,0,_,(0,0),rfl,rfl,.inl rfl,by simp [hv],fun i hi => sM⟩⟩⟩
 have hfill : ∀ cells : Array Value,cells.size = s -> Instr.fill (fun i => some (i * s,s)) cells [(0,.agg vs.toArray)] = some vs.toArray := by
  intro cells hc;have e1 : (Value.agg vs.toArray).cells = vs.toArray := rfl;simp only [Instr.fill,e1];rw [if_neg (by simp [hv,hc])]
  congr 1
  have := Ws vs vs [] cells.toList (by simp [hc,hv]) rfl;simp only [aD,aQ,Array.toArray_toList] at this;refine Eq.trans ?_ this
  simp
 have hne : ¬ (1 * s = 0) := oM;have hle : ¬ 16777216 < 1 * s := oM;simp only [Instr.buildSlice,Sem.run_bind,zL ht.und,zE hs,xe hs,Result.andThen];rw [show (2 : Nat) ^ 24 = 16777216 from rfl,if_neg hle,if_neg hne];simp only [Sem.run_bind,Sem.run_pure,Result.andThen,xe hs];rw [hfill _ sM]
 simp [newRow,newObj,Sem.run_bind,Sem.run,Result.andThen]
theorem jD {t e : TypeId} {z : Value} {s by_ : Nat} [ht : xz P t e] [hs : zm P e z s by_] {S : zb} {κ : Value -> zb -> Prop}
  (k : ∀ b C,Own s e C (some ⟨b,0,none⟩) 0 0 [] -> κ (.slice (some ⟨b,0,none⟩) 0 0) (C :: S)) : ValW P (Instr.buildSlice t 0 #[]) S κ := by
 refine ⟨fun w hw => ?_⟩;refine ⟨_,{ w with heap := w.heap.push (.cells #[] e) },_,?_,wJ rfl,hw.new rfl,k _ _ ⟨aR _,by simp [maxLen],sM,.inr ⟨_,0,_,(0,0),rfl,rfl,.inl rfl,sM,fun i hi => by simp at hi⟩⟩⟩
 simp [Instr.buildSlice,Sem.run_bind,zL ht.und,zE hs,Result.andThen,Instr.fill,newRow,newObj,Sem.run,show Array.range 0 = #[] from rfl]
theorem JP {α : Type} (enc : α -> LV) (s : Nat) (hs : ∀ x,(enc x).length = s) : ∀ (l : List α) (i : Nat),(l.flatMap enc).take (i * s) = (l.take i).flatMap enc
 | l,0 => sM
 | [],i + 1 => sM
 | x :: l,i + 1 => by
  rw [iU,lO,Nat.one_mul,Nat.add_comm,List.take_add,List.take_left' (hs x),List.drop_left' (hs x),JP enc s hs l i,List.take_succ_cons,iU]
theorem rd_cutF {α : Type} {enc : α -> LV} {s : Nat} (hs : ∀ x,(enc x).length = s) {S : zb} {a : OA} {len : Nat} {us : List α} (h : Rd s S a len (us.flatMap enc)) {l h' m : Nat} (h1 : l <= h') (h2 : h' <= len) (h3 : h' <= m) :
  Rd s S (cutA s a l m) (h' - l) (((us.drop l).take (h' - l)).flatMap enc) := by
 have q := OQ h h1 h2 h3
 rwa [JR enc s hs,JP enc s hs] at q
end Go.Ost
namespace Go.Ost
open Go
variable {P : Program} {n : Nat} {α : Type}
def Sh (H : zd) (J : zd -> Prop) (C : zd) : Prop := ∃ C0,C = C0 ++ H /\ J C0
def ShS (H : zd) (I : zb -> Prop) (C : zb) : Prop := ∃ C0,C = C0 ++ [H] /\ I C0
structure Xt (P : Program) (f : FuncId) (first captured : LV) (encs : α -> LV) (sh : α -> zd) (A : zb) (Next : List α -> α -> Prop) (Done : List α -> Prop) (inf : Bool) : Prop where
 able : vH P f = true
 out : ∀ (l : Nat) (J Jx : List α -> zd -> Prop),(inf = true -> ∃ N,N <= 4611686018427387904 /\ ∀ pre C,J pre C -> pre.length <= N) ->
  (∀ pre x,Next pre x -> kI P l (encs x) (Sh (sh x) (J pre)) (Sh (sh x) (J (pre ++ [x]))) (Sh (sh x) (Jx (pre ++ [x])))) ->
  ∀ C,J [] C -> ∀ (F : zd) (w : World),Hold w (F :: C :: A) -> CallsIn (FW none) 0 P f (first ++ [Value.func (.yield l) #[] #[]] ++ captured).toArray w
   (ZX w fun _ S => ∃ C',S = F :: C' :: A /\ ((∃ pre,Done pre /\ J pre C') ∨ (∃ pre x,Next pre x /\ Jx (pre ++ [x]) C')))
theorem JL {f : FuncId} {first captured : LV} {encs : α -> LV} {sh : α -> zd} {A : zb} {Next : List α -> α -> Prop} {Done : List α -> Prop} {inf : Bool} (ha : vH P f = true)
  (h : ∀ (l : Nat) (J Jx : List α -> zd -> Prop),(inf = true -> ∃ N,N <= 4611686018427387904 /\ ∀ pre C,J pre C -> pre.length <= N) -> (∀ pre x,Next pre x -> kI P l (encs x) (Sh (sh x) (J pre)) (Sh (sh x) (J (pre ++ [x]))) (Sh (sh x) (Jx (pre ++ [x])))) ->
   ∀ C,J [] C -> zh P f (first ++ [Value.func (.yield l) #[] #[]] ++ captured) (C :: A) fun _ S => ∃ C',S = C' :: A /\ ((∃ pre,Done pre /\ J pre C') ∨ (∃ pre x,Next pre x /\ Jx (pre ++ [x]) C'))) :
  Xt P f first captured encs sh A Next Done inf :=
 ⟨ha,fun l J Jx hN hY C hC F w hw => ((h l J Jx hN hY C hC).out F w hw).mono fun e w' ⟨v,S,a,b,c,A',d,C',e',r⟩ => ⟨v,S,a,b,c,C',by rw [d,e'],r⟩⟩
theorem wR {l : Nat} {args : LV} {Jin Jout Jstop : zd -> Prop} {S G : zb} {C H : zd} {κ : Value -> zb -> Prop} (h : kI P l args (Sh H Jin) (Sh H Jout) (Sh H Jstop)) (hC : Jin C) (ht : Take [C,H] S G)
  (k1 : ∀ C',Jout C' -> κ (.bool true) (C' :: H :: G)) (k2 : ∀ C',Jstop C' -> κ (.bool false) (C' :: H :: G)) : YieldW P l args.toArray S κ := by
 refine ⟨fun w hw => ?_⟩;have h1 := h.out (C ++ H) ⟨C,rfl,hC⟩ G.flatten w (hw.perm (ht.perm.trans (by simp only [iL,aO,iS,aL];exact lH)));obtain ⟨fn,tm,asg,bd,hr,hR⟩ := h1;refine ⟨fn,tm,asg,bd,hr,hR.mono ?_⟩;rintro e w' ⟨v,S',rfl,he,hh,b,C',rfl,rfl,j1,j2⟩
 cases b
 ·obtain ⟨C0,rfl,hJ⟩ := j2 rfl;exact ⟨.bool false,C0 :: H :: G,rfl,he,hh.perm (by simp only [aO,iS,aL];rw [<- aN C0 H];exact lH),k2 C0 hJ⟩
 ·obtain ⟨C0,rfl,hJ⟩ := j1 rfl;exact ⟨.bool true,C0 :: H :: G,rfl,he,hh.perm (by simp only [aO,iS,aL];rw [<- aN C0 H];exact lH),k1 C0 hJ⟩
theorem kI.swap {l : Nat} {args : LV} {Ji Jo Jx Ki Ko Kx : zd -> Prop} (h : kI P l args Ji Jo Jx) (h1 : ∀ C,Ki C -> Ji C) (h2 : ∀ C,Jo C -> Ko C) (h3 : ∀ C,Jx C -> Kx C) : kI P l args Ki Ko Kx := by
 refine ⟨fun C hC F w hw => ?_⟩;obtain ⟨fn,tm,asg,bd,hr,hR⟩ := h.out C (h1 C hC) F w hw;refine ⟨fn,tm,asg,bd,hr,hR.mono ?_⟩;rintro e w' ⟨v,S',rfl,he,hh,b,C',hv,hS,j1,j2⟩;exact ⟨_,_,rfl,he,hh,b,C',hv,hS,fun hb => h2 _ (j1 hb),fun hb => h3 _ (j2 hb)⟩
theorem YQ {ro : Option Nat} {fn : FuncId} {t : Array Value} {ps : Array Tmp} {assign body : Code} {dB l : Nat} {L : Env} {f : FuncId} {first captured : LV} {encs : α -> LV} {sh : α -> zd} {A C0 M : zb}
  {Next : List α -> α -> Prop} {Done : List α -> Prop} {inf : Bool} {Q : Exit -> Act -> World -> Prop} {a' : Act} {w w1 : World}
  (hit : Xt P f first captured encs sh A Next Done inf) (I : List α -> zb -> Prop) (Ix : Code -> List α -> zb -> Prop)
  (hinf : inf = true -> ∃ N,N <= 4611686018427387904 /\ ∀ pre C,I pre C -> pre.length <= N) (hag : jR n L [] { tmps := t,defers := [] }) (hps : ∀ x,(encs x).length = ps.size) (h0 : I [] C0) (he : Ext w w1)
  (hw1 : Hold w1 ([(l,.loop { state := .ready,pending := none,fn,tmps := t,params := ps,assign,body,defers := dB })] :: M ++ C0 ++ A))
  (hround : ∀ (F : zd) (C : zb) (r : Loop) (pre : List α) (x : α),Next pre x -> I pre C -> zB P n (some l) assign (Qe P n l r body F (ShS (sh x) (I (pre ++ [x]))) (fun c => ShS (sh x) (Ix c (pre ++ [x])))) [] (qP n ps.toList (encs x) L) ([(l,.loop r)] :: F :: (C ++ [sh x])))
  (hdone : ∀ (pre : List α) (C : zb) (w2 : World),Done pre -> I pre C -> Ext w w2 -> Hold w2 (M ++ C ++ A) -> Q .normal a' w2)
  (hstop : ∀ (c : Code) (pre : List α) (x : α) (C : zb) (w2 : World),Next pre x -> Ix c (pre ++ [x]) C -> Ext w w2 -> Hold w2 (M ++ C ++ A) -> c.wpIn (FW ro) 0 P Q a' w2) :
  CallsIn (FW none) 0 P f (first ++ [Value.func (.yield l) #[] #[]] ++ captured).toArray w1 (rangePost (FW ro) 0 P l Q a') := by
 have h1 := hit.out l (fun pre C => ∃ C1 : zb,C = (l,.loop { state := .ready,pending := none,fn,tmps := t,params := ps,assign,body,defers := dB }) :: C1.flatten /\ I pre C1)
  (fun pre C => ∃ (c : Code) (C1 : zb),C = (l,.loop { state := .done,pending := some c,fn,tmps := t,params := ps,assign,body,defers := dB }) :: C1.flatten /\ Ix c pre C1)
  (fun h => let ⟨N,hN0,hN⟩ := hinf h;⟨N,hN0,fun pre C ⟨C1,_,hI⟩ => hN pre C1 hI⟩)
  (fun pre x hx => (Js (fn := fn) (t := t) (ps := ps) (assign := assign) (body := body) (dB := dB) (I := ShS (sh x) (I pre)) (Iout := ShS (sh x) (I (pre ++ [x]))) (Ix := fun c => ShS (sh x) (Ix c (pre ++ [x]))) hag (hps x) fun F C r _ ⟨C0,hC0,hI⟩ => by rw [hC0];exact hround F C0 r pre x hx hI).swap
   (fun C hC => by obtain ⟨C0,h1,C1,h2,h3⟩ := hC;exact ⟨C1 ++ [sh x],by rw [h1,h2];simp,C1,rfl,h3⟩)
   (fun C hC => by obtain ⟨C0,h1,C1,h2,h3⟩ := hC;exact ⟨_,by rw [h1,h2,iL,<- aC];simp only [aO,iS,aL],C1,rfl,h3⟩)
   (fun C hC => by obtain ⟨c,C0,h1,C1,h2,h3⟩ := hC;exact ⟨_,by rw [h1,h2,iL,<- aC];simp only [aO,iS,aL],c,C1,rfl,h3⟩)) _ ⟨C0,rfl,h0⟩ M.flatten w1
  (hw1.perm (by
   simp only [iL,aO,aC,aN,aD];exact List.perm_middle.symm))
 refine h1.mono ?_;rintro e w2 ⟨v,S,rfl,he2,hh,C',rfl,(⟨pre,hd,C1,rfl,hI⟩ | ⟨pre,x,hx,c,C1,rfl,hI⟩)⟩
 ·have hw2 : Hold w2 ([(l,.loop { state := .ready,pending := none,fn,tmps := t,params := ps,assign,body,defers := dB })] :: (M ++ C1 ++ A)) := hh.perm (by
   simp only [iL,aO,aC,aN,aD];exact List.perm_middle)
  have hl2 : w2.heap[l]? = some (.loop { state := .ready,pending := none,fn,tmps := t,params := ps,assign,body,defers := dB }) := hw2.get l _ sM;refine ⟨none,_,run_endLoop (P := P) hl2 sM,hdone pre C1 _ hd hI ((he.trans he2).trans (kX _ _ _)) ?_⟩;exact (vE hw2).sub sM
 ·have hw2 : Hold w2 ([(l,.loop { state := .done,pending := some c,fn,tmps := t,params := ps,assign,body,defers := dB })] :: (M ++ C1 ++ A)) := hh.perm (by
   simp only [iL,aO,aC,aN,aD];exact List.perm_middle)
  have hl2 : w2.heap[l]? = some (.loop { state := .done,pending := some c,fn,tmps := t,params := ps,assign,body,defers := dB }) := hw2.get l _ sM;refine ⟨some c,_,run_endLoop (P := P) hl2 sM,hstop c pre x C1 _ hx hI ((he.trans he2).trans (kX _ _ _)) ?_⟩;exact (vE hw2).sub sM
theorem JX {g : Operand} {ps : Array Tmp} {assign body : Code} {K : Cont} {D : List Nat} {L : Env} {S A C0 : zb} {f : FuncId} {first captured : Array Value} {encs : α -> LV} {sh : α -> zd}
  {Next : List α -> α -> Prop} {Done : List α -> Prop} {inf : Bool} (hg : evT L g = some (.func (.func f) first captured)) (hit : Xt P f first.toList captured.toList encs sh A Next Done inf)
  (ht : Take A S C0) (I : List α -> zb -> Prop) (Ix : Code -> List α -> zb -> Prop) (hinf : inf = true -> ∃ N,N <= 4611686018427387904 /\ ∀ pre C,I pre C -> pre.length <= N) (hps : ∀ x,(encs x).length = ps.size) (h0 : I [] C0)
  (hround : ∀ (l : Nat) (F : zd) (C : zb) (r : Loop) (pre : List α) (x : α),Next pre x -> I pre C -> zB P n (some l) assign (Qe P n l r body F (ShS (sh x) (I (pre ++ [x]))) (fun c => ShS (sh x) (Ix c (pre ++ [x])))) [] (qP n ps.toList (encs x) L) ([(l,.loop r)] :: F :: (C ++ [sh x])))
  (hdone : ∀ (d : Nat) (pre : List α) (C : zb),Done pre -> I pre C -> K .normal (d :: D) L ([(d,.deferred (some []))] :: (C ++ A)))
  (hstop : ∀ (d : Nat) (c : Code) (pre : List α) (x : α) (C : zb),Next pre x -> Ix c (pre ++ [x]) C -> zB P n none c K (d :: D) L ([(d,.deferred (some []))] :: (C ++ A))) :
  zB P n none (.rangeFunc g ps assign body) K D L S := by
 refine ⟨fun a w ha hw => wpIn_rangeFunc fun fn _ => ?_⟩;obtain ⟨W1,hW1⟩ : ∃ W1 : World,W1 = (w.alloc (.deferred (some []))).alloc (.loop { state := .ready,pending := none,fn,tmps := a.tmps,params := ps,assign,body,defers := w.heap.size }) := ⟨_,rfl⟩
 refine ⟨w.heap.size + 1,[VL w.heap.size],W1,
  { target := .fn (.func f) captured,args := first ++ #[.func (.yield (w.heap.size + 1)) #[] #[]] },W1,f,(first.toList ++ [Value.func (.yield (w.heap.size + 1)) #[] #[]] ++ captured.toList).toArray,W1,
  by rw [hW1];exact run_enterLoop_outer fn a.tmps ps assign body,?_,fun _ _ => trivial,?_,fun h => (by cases h),?_⟩
 ·simp only [resolve,ha.ev hg]
  simp [Deferred.ofValue,Act.eval]
 ·simp only [invoke];rw [JU hit.able]
  congr 2
  apply lS;simp
 ·have e1 : (w.alloc (.deferred (some []))).heap = w.heap.push (.deferred (some [])) := rfl;have hw1 := hw.new (w' := w.alloc (.deferred (some []))) (o := .deferred (some [])) rfl;have hw2 := hw1.new (w' := (w.alloc (.deferred (some []))).alloc (.loop { state := .ready,pending := none,fn,tmps := a.tmps,params := ps,assign,body,defers := w.heap.size })) rfl;rw [World.size_alloc,<- hW1] at hw2
  refine YQ (n := n) (L := L) (dB := w.heap.size) (t := a.tmps) (fn := fn) (C0 := C0) (M := [[(w.heap.size,.deferred (some []))]]) (w := w) hit I Ix hinf ⟨ha.size,ha.get,rfl⟩ hps h0
   (by rw [hW1];exact ⟨rfl,rfl,rfl,by simp only [World.size_alloc];omega⟩) ?_ (fun F C r pre x hx hI => hround _ F C r pre x hx hI) ?_ ?_
  ·refine hw2.perm ?_;simp only [iL,aO,aC,aN,aD,iS];refine List.Perm.cons _ (List.Perm.cons _ ?_);have := ht.perm;rw [iL] at this;exact this.trans lH
  ·intro pre C w2 hd hI he hh;exact ⟨_,L,_,hdone w.heap.size pre C hd hI,⟨ha.size,ha.get,by simp [ha.marks]⟩,he,hh.perm sM⟩
  ·intro c pre x C w2 hx hI he hh;refine wpIn_mono ((hstop w.heap.size c pre x C hx hI).out { a with defers := [VL w.heap.size] ++ a.defers } w2 ⟨ha.size,ha.get,by simp [ha.marks]⟩ (hh.perm sM)) fun _ _ _ hq => hq.ext he
end Go.Ost
namespace Go.Ost
open Go
variable {P : Program} {n : Nat} {α : Type}
def Gv (H : zb -> Prop) (J : zd -> Prop) (C : zd) : Prop := ∃ (C0 : zd) (H0 : zb),C = C0 ++ H0.flatten /\ J C0 /\ H H0
def GvS (H : zb -> Prop) (I : zb -> Prop) (C : zb) : Prop := ∃ C0 H0 : zb,C = C0 ++ H0 /\ I C0 /\ H H0
structure wN (P : Program) (f : FuncId) (first captured : LV) (encs : α -> LV) (A : zb) (T0 : zd -> Prop) (Hin Hout Hst : List α -> α -> zb -> Prop) (Next : List α -> α -> Prop) (Done : List α -> Prop) (E Es : List α -> zb -> Prop) (inf : Bool) : Prop where
 able : vH P f = true
 out : ∀ (l : Nat) (J Jx : List α -> zd -> Prop),(inf = true -> ∃ N,N <= 4611686018427387904 /\ ∀ pre C,J pre C -> pre.length <= N) -> (∀ C,J [] C -> ∃ T R,T0 T /\ C.Perm (T ++ R)) ->
  (∀ pre x,Next pre x -> kI P l (encs x) (Gv (Hin pre x) (J pre)) (Gv (Hout pre x) (J (pre ++ [x]))) (Gv (Hst pre x) (Jx (pre ++ [x])))) ->
  ∀ C,J [] C -> ∀ (F : zd) (w : World),Hold w (F :: C :: A) -> CallsIn (FW none) 0 P f (first ++ [Value.func (.yield l) #[] #[]] ++ captured).toArray w
   (ZX w fun _ S => ∃ C' A',S = F :: C' :: A' /\ ((∃ pre,Done pre /\ J pre C' /\ E pre A') ∨ (∃ pre x,Next pre x /\ Jx (pre ++ [x]) C' /\ Es (pre ++ [x]) A')))
theorem vv {f : FuncId} {first captured : LV} {encs : α -> LV} {A : zb} {T0 : zd -> Prop} {Hin Hout Hst : List α -> α -> zb -> Prop} {Next : List α -> α -> Prop} {Done : List α -> Prop} {E Es : List α -> zb -> Prop} {inf : Bool} (ha : vH P f = true)
  (h : ∀ (l : Nat) (J Jx : List α -> zd -> Prop),(inf = true -> ∃ N,N <= 4611686018427387904 /\ ∀ pre C,J pre C -> pre.length <= N) -> (∀ C,J [] C -> ∃ T R,T0 T /\ C.Perm (T ++ R)) ->
   (∀ pre x,Next pre x -> kI P l (encs x) (Gv (Hin pre x) (J pre)) (Gv (Hout pre x) (J (pre ++ [x]))) (Gv (Hst pre x) (Jx (pre ++ [x])))) ->
   ∀ C,J [] C -> zh P f (first ++ [Value.func (.yield l) #[] #[]] ++ captured) (C :: A) fun _ S => ∃ C' A',S = C' :: A' /\ ((∃ pre,Done pre /\ J pre C' /\ E pre A') ∨ (∃ pre x,Next pre x /\ Jx (pre ++ [x]) C' /\ Es (pre ++ [x]) A'))) :
  wN P f first captured encs A T0 Hin Hout Hst Next Done E Es inf :=
 ⟨ha,fun l J Jx hN hT hY C hC F w hw => ((h l J Jx hN hT hY C hC).out F w hw).mono fun e w' ⟨v,S,a,b,c,A',d,C',A'',e',r⟩ => ⟨v,S,a,b,c,C',A'',by rw [d,e'],r⟩⟩
theorem jz {l : Nat} {args : LV} {Jin Jout Jstop : zd -> Prop} {Hi Ho Hs : zb -> Prop} {S G H : zb} {C : zd} {κ : Value -> zb -> Prop} (h : kI P l args (Gv Hi Jin) (Gv Ho Jout) (Gv Hs Jstop)) (hC : Jin C) (hH : Hi H) (ht : Take (C :: H) S G)
  (k1 : ∀ C' H',Jout C' -> Ho H' -> κ (.bool true) (C' :: (H' ++ G))) (k2 : ∀ C' H',Jstop C' -> Hs H' -> κ (.bool false) (C' :: (H' ++ G))) : YieldW P l args.toArray S κ := by
 refine ⟨fun w hw => ?_⟩;have h1 := h.out (C ++ H.flatten) ⟨C,H,rfl,hC,hH⟩ G.flatten w (hw.perm (ht.perm.trans (by simp only [aC,iL,aO,iS,aL];rw [<- aN];exact lH)));obtain ⟨fn,tm,asg,bd,hr,hR⟩ := h1;refine ⟨fn,tm,asg,bd,hr,hR.mono ?_⟩;rintro e w' ⟨v,S',rfl,he,hh,b,C',rfl,rfl,j1,j2⟩
 cases b
 ·obtain ⟨C0,H0,rfl,hJ,hH0⟩ := j2 rfl;exact ⟨.bool false,C0 :: (H0 ++ G),rfl,he,hh.perm (by simp only [iL,aO,iS,aL];rw [<- aN C0];exact lH),k2 C0 H0 hJ hH0⟩
 ·obtain ⟨C0,H0,rfl,hJ,hH0⟩ := j1 rfl;exact ⟨.bool true,C0 :: (H0 ++ G),rfl,he,hh.perm (by simp only [iL,aO,iS,aL];rw [<- aN C0];exact lH),k1 C0 H0 hJ hH0⟩
theorem YR {ro : Option Nat} {fn : FuncId} {t : Array Value} {ps : Array Tmp} {assign body : Code} {dB l : Nat} {L : Env} {f : FuncId} {first captured : LV} {encs : α -> LV} {A C0 M : zb}
  {T0 : zd -> Prop} {Hin Hout Hst : List α -> α -> zb -> Prop} {Next : List α -> α -> Prop} {Done : List α -> Prop} {E Es : List α -> zb -> Prop} {inf : Bool} {Q : Exit -> Act -> World -> Prop} {a' : Act} {w w1 : World}
  (hit : wN P f first captured encs A T0 Hin Hout Hst Next Done E Es inf) (I : List α -> zb -> Prop) (Ix : Code -> List α -> zb -> Prop)
  (hinf : inf = true -> ∃ N,N <= 4611686018427387904 /\ ∀ pre C,I pre C -> pre.length <= N) (hT : ∀ C,I [] C -> ∃ T R,T0 T /\ C.flatten.Perm (T ++ R)) (hag : jR n L [] { tmps := t,defers := [] }) (hps : ∀ x,(encs x).length = ps.size) (h0 : I [] C0) (he : Ext w w1)
  (hw1 : Hold w1 ([(l,.loop { state := .ready,pending := none,fn,tmps := t,params := ps,assign,body,defers := dB })] :: M ++ C0 ++ A))
  (hround : ∀ (F : zd) (C H : zb) (r : Loop) (pre : List α) (x : α),Next pre x -> I pre C -> Hin pre x H -> zB P n (some l) assign (Qe P n l r body F (GvS (Hout pre x) (I (pre ++ [x]))) (fun c => GvS (Hst pre x) (Ix c (pre ++ [x])))) [] (qP n ps.toList (encs x) L) ([(l,.loop r)] :: F :: (C ++ H)))
  (hdone : ∀ (pre : List α) (C A : zb) (w2 : World),Done pre -> I pre C -> E pre A -> Ext w w2 -> Hold w2 (M ++ C ++ A) -> Q .normal a' w2)
  (hstop : ∀ (c : Code) (pre : List α) (x : α) (C A : zb) (w2 : World),Next pre x -> Ix c (pre ++ [x]) C -> Es (pre ++ [x]) A -> Ext w w2 -> Hold w2 (M ++ C ++ A) -> c.wpIn (FW ro) 0 P Q a' w2) :
  CallsIn (FW none) 0 P f (first ++ [Value.func (.yield l) #[] #[]] ++ captured).toArray w1 (rangePost (FW ro) 0 P l Q a') := by
 have h1 := hit.out l (fun pre C => ∃ C1 : zb,C = (l,.loop { state := .ready,pending := none,fn,tmps := t,params := ps,assign,body,defers := dB }) :: C1.flatten /\ I pre C1)
  (fun pre C => ∃ (c : Code) (C1 : zb),C = (l,.loop { state := .done,pending := some c,fn,tmps := t,params := ps,assign,body,defers := dB }) :: C1.flatten /\ Ix c pre C1)
  (fun h => let ⟨N,hN0,hN⟩ := hinf h;⟨N,hN0,fun pre C ⟨C1,_,hI⟩ => hN pre C1 hI⟩)
  (fun C ⟨C1,hC,hI⟩ => by
   obtain ⟨T,R,h1,h2⟩ := hT C1 hI;exact ⟨T,_ :: R,h1,by rw [hC];exact (List.Perm.cons _ h2).trans List.perm_middle.symm⟩)
  (fun pre x hx => (Js (fn := fn) (t := t) (ps := ps) (assign := assign) (body := body) (dB := dB) (I := GvS (Hin pre x) (I pre)) (Iout := GvS (Hout pre x) (I (pre ++ [x]))) (Ix := fun c => GvS (Hst pre x) (Ix c (pre ++ [x]))) hag (hps x) fun F C r _ ⟨C0,H0,hC0,hI,hH⟩ => by rw [hC0];exact hround F C0 H0 r pre x hx hI hH).swap
   (fun C hC => by obtain ⟨C0,H0,h1,⟨C1,h2,h3⟩,h4⟩ := hC;exact ⟨C1 ++ H0,by rw [h1,h2];simp,C1,H0,rfl,h3,h4⟩)
   (fun C hC => by obtain ⟨C0,h1,C1,H0,h2,h3,h4⟩ := hC;exact ⟨_,H0,by rw [h1,h2,iL,<- aC],⟨C1,rfl,h3⟩,h4⟩)
   (fun C hC => by obtain ⟨c,C0,h1,C1,H0,h2,h3,h4⟩ := hC;exact ⟨_,H0,by rw [h1,h2,iL,<- aC],⟨c,C1,rfl,h3⟩,h4⟩)) _ ⟨C0,rfl,h0⟩ M.flatten w1
  (hw1.perm (by
   simp only [iL,aO,aC,aN,aD];exact List.perm_middle.symm))
 refine h1.mono ?_;rintro e w2 ⟨v,S,rfl,he2,hh,C',A,rfl,(⟨pre,hd,⟨C1,rfl,hI⟩,hE⟩ | ⟨pre,x,hx,⟨c,C1,rfl,hI⟩,hE⟩)⟩
 ·have hw2 : Hold w2 ([(l,.loop { state := .ready,pending := none,fn,tmps := t,params := ps,assign,body,defers := dB })] :: (M ++ C1 ++ A)) := hh.perm (by
   simp only [iL,aO,aC,aN,aD];exact List.perm_middle)
  have hl2 : w2.heap[l]? = some (.loop { state := .ready,pending := none,fn,tmps := t,params := ps,assign,body,defers := dB }) := hw2.get l _ sM;refine ⟨none,_,run_endLoop (P := P) hl2 sM,hdone pre C1 A _ hd hI hE ((he.trans he2).trans (kX _ _ _)) ?_⟩;exact (vE hw2).sub sM
 ·have hw2 : Hold w2 ([(l,.loop { state := .done,pending := some c,fn,tmps := t,params := ps,assign,body,defers := dB })] :: (M ++ C1 ++ A)) := hh.perm (by
   simp only [iL,aO,aC,aN,aD];exact List.perm_middle)
  have hl2 : w2.heap[l]? = some (.loop { state := .done,pending := some c,fn,tmps := t,params := ps,assign,body,defers := dB }) := hw2.get l _ sM;refine ⟨some c,_,run_endLoop (P := P) hl2 sM,hstop c pre x C1 A _ hx hI hE ((he.trans he2).trans (kX _ _ _)) ?_⟩;exact (vE hw2).sub sM
theorem jV {g : Operand} {ps : Array Tmp} {assign body : Code} {K : Cont} {D : List Nat} {L : Env} {S A C0 : zb} {f : FuncId} {first captured : Array Value} {encs : α -> LV}
  {T0 : zd -> Prop} {Hin Hout Hst : List α -> α -> zb -> Prop} {Next : List α -> α -> Prop} {Done : List α -> Prop} {E Es : List α -> zb -> Prop} {inf : Bool} (hg : evT L g = some (.func (.func f) first captured)) (hit : wN P f first.toList captured.toList encs A T0 Hin Hout Hst Next Done E Es inf)
  (ht : Take A S C0) (I : List α -> zb -> Prop) (Ix : Code -> List α -> zb -> Prop) (hinf : inf = true -> ∃ N,N <= 4611686018427387904 /\ ∀ pre C,I pre C -> pre.length <= N) (hT : ∀ C,I [] C -> ∃ T R,T0 T /\ C.flatten.Perm (T ++ R)) (hps : ∀ x,(encs x).length = ps.size) (h0 : I [] C0)
  (hround : ∀ (l : Nat) (F : zd) (C H : zb) (r : Loop) (pre : List α) (x : α),Next pre x -> I pre C -> Hin pre x H -> zB P n (some l) assign (Qe P n l r body F (GvS (Hout pre x) (I (pre ++ [x]))) (fun c => GvS (Hst pre x) (Ix c (pre ++ [x])))) [] (qP n ps.toList (encs x) L) ([(l,.loop r)] :: F :: (C ++ H)))
  (hdone : ∀ (d : Nat) (pre : List α) (C A : zb),Done pre -> I pre C -> E pre A -> K .normal (d :: D) L ([(d,.deferred (some []))] :: (C ++ A)))
  (hstop : ∀ (d : Nat) (c : Code) (pre : List α) (x : α) (C A : zb),Next pre x -> Ix c (pre ++ [x]) C -> Es (pre ++ [x]) A -> zB P n none c K (d :: D) L ([(d,.deferred (some []))] :: (C ++ A))) :
  zB P n none (.rangeFunc g ps assign body) K D L S := by
 refine ⟨fun a w ha hw => wpIn_rangeFunc fun fn _ => ?_⟩;obtain ⟨W1,hW1⟩ : ∃ W1 : World,W1 = (w.alloc (.deferred (some []))).alloc (.loop { state := .ready,pending := none,fn,tmps := a.tmps,params := ps,assign,body,defers := w.heap.size }) := ⟨_,rfl⟩
 refine ⟨w.heap.size + 1,[VL w.heap.size],W1,
  { target := .fn (.func f) captured,args := first ++ #[.func (.yield (w.heap.size + 1)) #[] #[]] },W1,f,(first.toList ++ [Value.func (.yield (w.heap.size + 1)) #[] #[]] ++ captured.toList).toArray,W1,
  by rw [hW1];exact run_enterLoop_outer fn a.tmps ps assign body,?_,fun _ _ => trivial,?_,fun h => (by cases h),?_⟩
 ·simp only [resolve,ha.ev hg]
  simp [Deferred.ofValue,Act.eval]
 ·simp only [invoke];rw [JU hit.able]
  congr 2
  apply lS;simp
 ·have e1 : (w.alloc (.deferred (some []))).heap = w.heap.push (.deferred (some [])) := rfl;have hw1 := hw.new (w' := w.alloc (.deferred (some []))) (o := .deferred (some [])) rfl;have hw2 := hw1.new (w' := (w.alloc (.deferred (some []))).alloc (.loop { state := .ready,pending := none,fn,tmps := a.tmps,params := ps,assign,body,defers := w.heap.size })) rfl;rw [World.size_alloc,<- hW1] at hw2
  refine YR (n := n) (L := L) (dB := w.heap.size) (t := a.tmps) (fn := fn) (C0 := C0) (M := [[(w.heap.size,.deferred (some []))]]) (w := w) hit I Ix hinf hT ⟨ha.size,ha.get,rfl⟩ hps h0
   (by rw [hW1];exact ⟨rfl,rfl,rfl,by simp only [World.size_alloc];omega⟩) ?_ (fun F C H r pre x hx hI hH => hround _ F C H r pre x hx hI hH) ?_ ?_
  ·refine hw2.perm ?_;simp only [iL,aO,aC,aN,aD,iS];refine List.Perm.cons _ (List.Perm.cons _ ?_);have := ht.perm;rw [iL] at this;exact this.trans lH
  ·intro pre C A w2 hd hI hE he hh;exact ⟨_,L,_,hdone w.heap.size pre C A hd hI hE,⟨ha.size,ha.get,by simp [ha.marks]⟩,he,hh.perm sM⟩
  ·intro c pre x C A w2 hx hI hE he hh;refine wpIn_mono ((hstop w.heap.size c pre x C A hx hI hE).out { a with defers := [VL w.heap.size] ++ a.defers } w2 ⟨ha.size,ha.get,by simp [ha.marks]⟩ (hh.perm sM)) fun _ _ _ hq => hq.ext he
theorem jY {ro : Option Nat} {c : Code} {K : Cont} {D : List Nat} {L : Env} {S S' : zb} (hp : S.flatten.Perm S'.flatten) (h : zB P n ro c K D L S') : zB P n ro c K D L S :=
 ⟨fun a w ha hw => h.out a w ha (hw.perm hp)⟩
theorem T0_in {T R Cj : zd} {T0 : zd -> Prop} {S G : zb} (h : T0 T) (hp : Pick Cj S G) (hc : Cj.Perm (T ++ R)) : ∃ T R,T0 T /\ S.flatten.Perm (T ++ R) :=
 ⟨T,R ++ G.flatten,h,hp.perm.trans (by rw [aO,<- aN];exact List.Perm.append_right _ hc)⟩
theorem Od {T : zd} {T0 : zd -> Prop} {S G : zb} (h : T0 T) (hp : Pick T S G) : ∃ T R,T0 T /\ S.flatten.Perm (T ++ R) := ⟨T,G.flatten,h,hp.perm⟩
theorem xo {b : Nat} {e t : TypeId} {z : Value} {s by_ : Nat} {cs : Array Value} {vs : LV} {S S' : zb} {κ : zb -> Prop} [hs : zm P t z s by_] (hz : vs.length = s) (hc : ∀ v ∈ vs,Value.cell1 v)
  (hu : Upd b (.cells cs e (0,0)) (.cells vs.toArray e (0,0)) S S') (hcs : cs.size = s) (k : κ S') : jI P (Instr.storeAt t (pT b) (.agg vs.toArray)) S κ := by
 have e1 : jp cs 0 vs = vs.toArray := by
  have := vK vs [] cs.toList [] (by simp [hcs,hz])
  simpa using this
 have e2 : vs.toArray.toList = vs := sM;exact Zm (e := e) (cs := cs) (by simpa using hz) (by simpa using hc) (by rw [e2,e1];exact hu) oM k
theorem zz {b : Nat} {e t : TypeId} {z : Value} {s by_ : Nat} {vs : LV} {m : Nat × Nat} {S : zb} {κ : Value -> Prop} [hf : jG P t] [hs : zm P t z s by_] (hl : Lies b (.cells vs.toArray e m) S) (hz : vs.length = s) (k : κ (.agg vs.toArray)) :
  xG P (Instr.loadAt t (pT b)) S κ := by
 refine yD hl (by simp [hz]) ?_
 have e1 : vs.toArray.extract 0 (0 + s) = vs.toArray := by
  apply lS
  simp [List.extract_eq_take_drop,<- hz]
 rw [e1];exact k
theorem XP {b : Nat} {e t : TypeId} {z : Value} {s by_ : Nat} {vs ws : LV} {o : Nat} {m : Nat × Nat} {S : zb} {κ : Value -> Prop} [hf : jG P t] [hs : zm P t z s by_] (hl : Lies b (.cells vs.toArray e m) S) (ho : o + s <= vs.length) (hw : (vs.drop o).take s = ws) (k : κ (.agg ws.toArray)) :
  xG P (Instr.loadAt t (.pointer (some ⟨b,o,none⟩))) S κ := by
 refine yD hl (by simpa using ho) ?_
 have e1 : vs.toArray.extract o (o + s) = ws.toArray := by
  apply lS
  simp [List.extract_eq_take_drop,<- hw]
 rw [e1];exact k
abbrev bx (p : Nat) (v : Value) (t : TypeId) : zd := [(p,.cells #[v] t (0,0))]
abbrev noH {α : Type} (_ : List α) (_ : α) (H : zb) : Prop := H = []
end Go.Ost
namespace Go.Ost
open Go
variable {P : Program}
section rows
variable {α : Type} (enc : α -> LV) (s : Nat) (hs : ∀ x,(enc x).length = s)
include hs
theorem QP (l : List α) (i : Nat) (h : i < l.length) : l.flatMap enc = (l.take i).flatMap enc ++ (enc l[i] ++ (l.drop (i + 1)).flatMap enc) /\ ((l.take i).flatMap enc).length = i * s := by
 refine ⟨?_,?_⟩
 ·conv => lhs;rw [<- lR i l,lI,iH h,iU]
 ·rw [qY enc s hs,aX];congr 1;omega
theorem flat_sub (l : List α) (i off n : Nat) (h : i < l.length) (hn : off + n <= s) : ((l.flatMap enc).drop (i * s + off)).take n = ((enc l[i]).drop off).take n := by
 obtain ⟨e1,e2⟩ := QP enc s hs l i h;rw [e1,<- e2,<- mQ,List.drop_left' rfl,List.drop_append_of_le_length (by rw [hs];omega),List.take_append_of_le_length (by rw [aV,hs];omega)]
theorem VT (l : List α) (i off : Nat) (vs : LV) (h : i < l.length) (hn : off + vs.length <= s) (x' : α) (hx : (enc l[i]).take off ++ (vs ++ (enc l[i]).drop (off + vs.length)) = enc x') :
  setL (l.flatMap enc) (i * s + off) vs = (l.set i x').flatMap enc := by
 obtain ⟨e1,e2⟩ := QP enc s hs l i h
 have e3 : enc l[i] = (enc l[i]).take off ++ (((enc l[i]).drop off).take vs.length ++ (enc l[i]).drop (off + vs.length)) := by
  conv => lhs;rw [<- lR off (enc l[i]),<- lR vs.length ((enc l[i]).drop off),mQ]
 have e4 : l.flatMap enc = ((l.take i).flatMap enc ++ (enc l[i]).take off) ++ (((enc l[i]).drop off).take vs.length ++ ((enc l[i]).drop (off + vs.length) ++ (l.drop (i + 1)).flatMap enc)) := by
  rw [e1];conv => lhs;rw [e3]
  simp only [aN]
 have e5 : ((l.take i).flatMap enc ++ (enc l[i]).take off).length = i * s + off := by
  rw [aB,e2,aX,hs];omega
 rw [e4,<- e5,Vt vs _ _ _ (by rw [aX,aV,hs];omega),List.set_eq_take_append_cons_drop,if_pos h,lI,iU,<- hx];simp only [aN]
end rows
section facts
variable {a : OA} {len cap : Nat} {H : zd} {κ : Value -> Prop} {t e' : TypeId} {z : Value} {s n b2 : Nat} {α : Type} {enc : α -> LV} {l : List α} {x x' : α} {i off : Nat} {S G : zb} {vs : LV}
theorem Uq [jG P t] [zm P t z n b2] (ho : Own s e' H a len cap (l.flatMap enc)) (hs : ∀ x,(enc x).length = s) (hx : l[i]? = some x) (h0 : 0 < n) (hn : off + n <= s) (hw : ((enc x).drop off).take n = vs) (hH : H ∈ S) (q : κ (.agg vs.toArray)) :
  xG P (Instr.loadAt t (.pointer (some (elA a (i * s + off))))) S κ := by
 have hi := (List.getElem?_eq_some_iff.1 hx).1;refine Zf (ho.rd hH) h0 ?_ ?_
 ·rw [qY enc s hs];have : (i + 1) * s <= l.length * s := lM s hi;rw [lO] at this;omega
 ·rw [flat_sub enc s hs l i off n hi hn,List.getElem?_eq_some_iff.1 hx |>.2,hw];exact q
theorem Ky {κ : zb -> Prop} [zm P t z n b2] (ho : Own s e' H a len cap (l.flatMap enc)) (hp : Pick H S G) (hs : ∀ x,(enc x).length = s) (hx : l[i]? = some x) (h0 : 0 < n) (hvs : vs.length = n) (hc : ∀ u ∈ vs,Value.cell1 u) (hn : off + n <= s)
  (hv : (enc x).take off ++ (vs ++ (enc x).drop (off + n)) = enc x') (q : ∀ C',Own s e' C' a len cap ((l.set i x').flatMap enc) -> κ (C' :: G)) : jI P (Instr.storeAt t (.pointer (some (elA a (i * s + off)))) (.agg vs.toArray)) S κ := by
 have hi := (List.getElem?_eq_some_iff.1 hx).1;refine ZC ho hp h0 hvs hc ?_ (fun C' h => q C' ?_)
 ·rw [qY enc s hs];have : (i + 1) * s <= l.length * s := lM s hi;rw [lO] at this;omega
 ·rw [VT enc s hs l i off vs hi oM x' (by rw [List.getElem?_eq_some_iff.1 hx |>.2,hvs];exact hv)] at h;exact h
theorem JH [jG P t] [zm P t z s b2]
  (hr : Rd s [H] a len (l.flatMap enc)) (hs : ∀ x,(enc x).length = s) (hx : l[i]? = some x) (hp : 0 < s) (hH : H ∈ S) (q : κ (.agg (enc x).toArray)) : xG P (Instr.loadAt t (.pointer (some (elA a (i * s))))) S κ := by
 have hi := (List.getElem?_eq_some_iff.1 hx).1;refine Zf (hr.mem hH) hp ?_ ?_
 ·rw [qY enc s hs];have : (i + 1) * s <= l.length * s := lM s hi;rw [lO] at this;omega
 ·rw [UB enc s hs l i hi,List.getElem?_eq_some_iff.1 hx |>.2];exact q
theorem qE {κ : Value -> zb -> Prop} {by_ : Nat} [hs : zm P t z s by_] (cs : Array Value) (hz : z.cells = cs) (k : ∀ b : Nat,κ (pT b) ([(b,.cells cs t (0,0))] :: S)) : ValW P (Instr.alloc t true (.tuple #[])) S κ :=
 zC fun b => by rw [hz];exact k b
end facts
end Go.Ost
