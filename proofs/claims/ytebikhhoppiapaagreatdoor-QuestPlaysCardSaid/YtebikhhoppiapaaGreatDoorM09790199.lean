/- Texts in a row: the walk's rules and contracts, as each says. Conditions: as each says. -/
import Derived.Test.YtebikhhoppiapaaGreatDoorMa22cf9b8
import Derived.Shelf.Bytes.SlJoin
import Derived.Lib.MakeNoZero
import Derived.Laws.Externs
import Derived.Carry
import Derived.ProofKit
import Derived.OpenShut
import Derived.Deep.Matrix
import Derived.Lib.Builder
import Derived.Lib.UnsafeStr
import Derived.Laws.StructEq
import Derived.Lib.LaidTab
import Derived.Test.YtebikhhoppiapaaGreatDoorProg
import Derived.Test.YtebikhhoppiapaaGreatDoorMa22cf9b8
set_option linter.unusedSimpArgs false
set_option linter.defProp false
set_option linter.unusedVariables false
set_option maxRecDepth 100000
set_option maxHeartbeats 8000000
open List renaming mem_cons_self -> aA, length_append -> aB, cons_append -> aC, nil_append -> aD, getElem?_eq_getElem -> aE, length_cons -> aH, length_singleton -> aI, mem_cons_of_mem -> aK, append_nil -> aL, append_assoc -> aN, flatten_cons -> aO, length_nil -> aQ, getD_eq_getElem?_getD -> aS, not_mem_nil -> aT, replicate -> aU, length_drop -> aV, length_take -> aX, mem_cons -> aY, length_replicate -> aZ, length_map -> iA, map_cons -> iB, range -> iC, getElem?_cons_succ -> iD, mem_append_left -> iG, drop_eq_getElem_cons -> iH, getElem?_cons_zero -> iJ, take_length -> iK, flatten_append -> iL, getElem?_toArray -> iP, flatten_nil -> iS, flatMap_cons -> iU, getElem?_append_right -> lD, take_of_length_le -> lE, getElem?_map -> lF, take_add_one -> lG, perm_append_comm -> lH, flatMap_append -> lI, map_append -> lL, getElem?_append_left -> lP, dropWhile_cons -> lQ, take_append_drop -> lR, getElem_mem -> lT, getElem?_take_of_lt -> lY, length -> mA, getD -> mB, length_set -> mC, drop_eq_nil_of_le -> mE, getElem?_modify -> mF, toList_toArray -> mG, mem_map_of_mem -> mH, mem_singleton -> mJ, all_cons -> mK, drop_drop -> mQ, drop_length -> mR, map_nil -> mV
open And renaming intro -> aF
open UInt8 renaming ofNat -> aG, toNat_ofNat' -> iO
open Nat renaming reduceBEq -> aJ, reduceEqDiff -> aP, le_refl -> aR, reduceSub -> iF, sub_zero -> iI, reduceLT -> iN, reduceAdd -> iQ, zero_add -> iT, mul_le_mul_right -> lM, add_mul -> lO, mod_eq_of_lt -> lV, zero_le -> lW, shiftLeft_eq -> mL, le_trans -> mN, add_sub_cancel -> mO, add_zero -> mT
open Bool renaming and_eq_true -> aM, not_eq_true' -> mI, true_and -> mM, or_eq_true -> mP, false_or -> mS
open Int renaming toNat_natCast -> aW, reduceToNat -> iM, reduceBEq -> iV, reduceBNe -> iW, reduceAdd -> iX, reduceSub -> iY, reduceMul -> iZ, reduceDiv -> lA, reduceMod -> lB, reducePow -> lC, reduceLT -> lJ, reduceLE -> lK
open BitVec renaming ofInt -> iE, toNat_ofNat -> lU, ofNat -> lZ
open Option renaming getD_some -> iR, map_some -> lX
open Array renaming getElem?_setIfInBounds_ne -> lN, ext' -> lS, getElem?_eq_getElem -> mD
namespace Go.Ost
open Go
variable {P : Program}
theorem gg {G G' : Prop} (k : G') (h : Impl (Hid G') G := by exact ⟨fun k0 => by (repeat (first | (with_reducible refine jN ?_) | ((with_reducible refine jn ?_);refine jm ?_) | (with_reducible refine qL ?_) | (with_reducible refine wb ?_) | (with_reducible refine wd ?_) | (with_reducible refine vA ?_) | (with_reducible refine vy ?_) | (with_reducible refine vC ?_) | ((with_reducible refine xY ?_);refine vz ?_) | (with_reducible refine vo ?_) | (with_reducible refine vm ?_) | (with_reducible refine vp ?_) | (with_reducible refine zS ?_) | (with_reducible refine zP ?_) | (with_reducible refine jy ?_) | (with_reducible refine zr ?_) | (with_reducible refine jx ?_) | (with_reducible refine zZ ?_) | (with_reducible refine qe ?_) | ((with_reducible refine jW ?_);refine vW ?_) | (with_reducible refine qd ?_) | ((with_reducible refine jv ?_);(first | refine ju ?_ | refine qD ?_)) | ((with_reducible refine jw ?_);(first | refine jX ?_ | refine jZ ?_))));exact k0.out⟩) : G := h.out ⟨k⟩
theorem gA {G G' : Prop} (k : G') (h : Impl (Hid G') G := by exact ⟨fun k0 => by (try simp only [aD,aC]);(repeat (first | (with_reducible refine jN ?_) | ((with_reducible refine jn ?_);refine jm ?_) | (with_reducible refine qL ?_) | (with_reducible refine wb ?_) | (with_reducible refine wd ?_) | (with_reducible refine vA ?_) | (with_reducible refine vy ?_) | (with_reducible refine vC ?_) | ((with_reducible refine xY ?_);refine vz ?_) | (with_reducible refine vo ?_) | (with_reducible refine vm ?_) | (with_reducible refine vp ?_) | (with_reducible refine zS ?_) | (with_reducible refine zP ?_) | (with_reducible refine jy ?_) | (with_reducible refine zr ?_) | (with_reducible refine jx ?_) | (with_reducible refine zZ ?_) | (with_reducible refine qe ?_) | ((with_reducible refine jW ?_);refine vW ?_) | (with_reducible refine qd ?_) | ((with_reducible refine jv ?_);(first | refine ju ?_ | refine qD ?_)) | ((with_reducible refine jw ?_);(first | refine jX ?_ | refine jZ ?_))));exact k0.out⟩) : G := h.out ⟨k⟩
theorem gM {G G' : Prop} (k : G') (h : Impl (Hid G') G := by exact ⟨fun k0 => by (try simp only [List.setIfInBounds_toArray,List.set_cons_succ,List.set_cons_zero,List.getElem_toArray,List.getElem_cons_succ,List.getElem_cons_zero]);exact k0.out⟩) : G := h.out ⟨k⟩
theorem pA {A N : Env -> zb -> Prop} {L' : Env} {S' : zb} {G : Prop} (hK : ∀ L S,A L S -> N L S) (k : A L' S') (h : Impl (Hid (N L' S')) G := by exact ⟨fun k0 => by (try simp only [aD,aC]);(repeat refine pend ?_);exact k0.out⟩) : G := h.out ⟨hK _ _ k⟩
theorem pBk {A N : Env -> zb -> Prop} {L' : Env} {S' : zb} {G : Prop} (hK : ∀ L S,A L S -> N L S) (k : A L' S') (h : Impl (Hid (N L' S')) G := by exact ⟨fun k0 => by (repeat refine pend ?_);exact k0.out⟩) : G := h.out ⟨hK _ _ k⟩
theorem pC {G G' : Prop} (k : G') (h : Impl (Hid G') G := by exact ⟨fun k0 => by (try simp only [aD,aC]);(repeat refine pend ?_);(repeat (first | (with_reducible refine jN ?_) | ((with_reducible refine jn ?_);refine jm ?_) | (with_reducible refine qL ?_) | (with_reducible refine wb ?_) | (with_reducible refine wd ?_) | (with_reducible refine vA ?_) | (with_reducible refine vy ?_) | (with_reducible refine vC ?_) | ((with_reducible refine xY ?_);refine vz ?_) | (with_reducible refine vo ?_) | (with_reducible refine vm ?_) | (with_reducible refine vp ?_) | (with_reducible refine zS ?_) | (with_reducible refine zP ?_) | (with_reducible refine jy ?_) | (with_reducible refine zr ?_) | (with_reducible refine jx ?_) | (with_reducible refine zZ ?_) | (with_reducible refine qe ?_) | ((with_reducible refine jW ?_);refine vW ?_) | (with_reducible refine qd ?_) | ((with_reducible refine jv ?_);(first | refine ju ?_ | refine qD ?_)) | ((with_reducible refine jw ?_);(first | refine jX ?_ | refine jZ ?_))));exact k0.out⟩) : G := h.out ⟨k⟩
theorem pD {G G' : Prop} (k : G') (h : Impl (Hid G') G := by exact ⟨fun k0 => by (try simp only [aD,aC]);(repeat refine pend ?_);exact k0.out⟩) : G := h.out ⟨k⟩
theorem hrA {P : Program} {rs : List ResultVar} {vs : LV} {L : Env} {S : zb} (h : ∀ κ : LV -> Prop,κ vs -> resW P rs L S κ := by (intro κ hκ;simp only [resW,zy,zj,zi,aJ];exact zz (by (repeat (first | with_reducible exact Lies.one | with_reducible apply Lies.next))) rfl hκ)) : ∀ κ : LV -> Prop,κ vs -> resW P rs L S κ := h
def ancs (ops : Array Oper) : List (List Nat) := (iC ops.size).foldl (fun acc i => acc ++ [((jd ops i).flatMap fun e => e :: acc.getD e []).eraseDups]) []
section
variable {n : Nat} {ro : Option Nat} {id : Nat} {ops : Array Oper} {K : Cont} {D : List Nat} {L : Env} {S : zb}
end
def decP : List (List Nat) -> List zW
 | [] => []
 | [] :: l => decP l
 | [k] :: l => (k,false,[]) :: decP l
 | (k :: _ :: pd) :: l => (k,true,pd) :: decP l
section
variable {n : Nat} {ro : Option Nat} {id : Nat} {ops : Array Oper} {K : Cont} {D : List Nat} {L : Env} {S : zb}
theorem cdL (c : List (List Nat)) {pl : List zW} (h : xD P n ops (K .normal D) pl L S) (hd : decP c = pl := by ((try simp only [decP]);(first | done | exact rfl))) (hm : P.follows .mixedOrders = true := by kernel_rfl) (hok : Wa ops (ancs ops) n (decP c) = true := by kernel_rfl) : zB P n ro (.region id ops true) K D L S := by
 subst hd;exact WM (ancs ops) (decP c) hm hok h
theorem cdLg (c : List (List Nat)) {pl : List zW} {G' : Prop} (k : G') (hd : decP c = pl := by ((try simp only [decP]);(first | done | exact rfl))) (hm : P.follows .mixedOrders = true := by kernel_rfl) (hok : Wa ops (ancs ops) n (decP c) = true := by kernel_rfl)
  (g : Impl (Hid G') (xD P n ops (K .normal D) pl L S) := by exact ⟨fun k0 => by (repeat (first | (with_reducible refine jN ?_) | ((with_reducible refine jn ?_);refine jm ?_) | (with_reducible refine qL ?_) | (with_reducible refine wb ?_) | (with_reducible refine wd ?_) | (with_reducible refine vA ?_) | (with_reducible refine vy ?_) | (with_reducible refine vC ?_) | ((with_reducible refine xY ?_);refine vz ?_) | (with_reducible refine vo ?_) | (with_reducible refine vm ?_) | (with_reducible refine vp ?_) | (with_reducible refine zS ?_) | (with_reducible refine zP ?_) | (with_reducible refine jy ?_) | (with_reducible refine zr ?_) | (with_reducible refine jx ?_) | (with_reducible refine zZ ?_) | (with_reducible refine qe ?_) | ((with_reducible refine jW ?_);refine vW ?_) | (with_reducible refine qd ?_) | ((with_reducible refine jv ?_);(first | refine ju ?_ | refine qD ?_)) | ((with_reducible refine jw ?_);(first | refine jX ?_ | refine jZ ?_))));exact k0.out⟩) : zB P n ro (.region id ops true) K D L S := cdL c (g.out ⟨k⟩) hd hm hok
end
theorem rgE {G G' : Prop} (k : G') (h : Impl (Hid G') G := by exact ⟨fun k0 => by refine ez ?_;(try refine qj ?_);exact k0.out⟩) : G := h.out ⟨k⟩
theorem rnE {G G' : Prop} (k : G') (h : Impl (Hid G') G := by exact ⟨fun k0 => by (try refine run_to ?_);(try refine qj ?_);exact k0.out⟩) : G := h.out ⟨k⟩
section
variable {n : Nat} {ro : Option Nat} {f : FuncId} {fn : Func} {c : Code} {args : LV} {A : zb} {R : Value -> zb -> Prop} {rs : Array ResultVar}
theorem eN (hf : P.funcs[f]? = some fn) (hn : fn.ntmps = n) (hr : fn.results = rs) (h : ∀ F : zd,zB P n none c (RetK P rs.toList R F) [] (argsL 0 args) (F :: A)) (hb : fn.body = some c := by rfl)
  (hm : (fn.name != "runtime.NumGoroutine") = true := by kernel_rfl) (hl : args.length <= n := by simp) : zh P f args A R := by
 subst hn hr;exact bg hf hb hm hl h
theorem eNg {G' : zd -> Prop} (hf : P.funcs[f]? = some fn) (hn : fn.ntmps = n) (hr : fn.results = rs) (k : ∀ F : zd,G' F) (hb : fn.body = some c := by rfl)
  (hm : (fn.name != "runtime.NumGoroutine") = true := by kernel_rfl) (hl : args.length <= n := by simp) (g : ∀ F : zd, Impl (Hid (G' F)) (zB P n none c (RetK P rs.toList R F) [] (argsL 0 args) (F :: A)) := by exact fun F => ⟨fun k0 => by (repeat (first | (with_reducible refine jN ?_) | ((with_reducible refine jn ?_); refine jm ?_) | (with_reducible refine qL ?_) | (with_reducible refine wb ?_) | (with_reducible refine wd ?_) | (with_reducible refine vA ?_) | (with_reducible refine vy ?_) | (with_reducible refine vC ?_) | ((with_reducible refine xY ?_); refine vz ?_) | (with_reducible refine vo ?_) | (with_reducible refine vm ?_) | (with_reducible refine vp ?_) | (with_reducible refine zS ?_) | (with_reducible refine zP ?_) | (with_reducible refine jy ?_) | (with_reducible refine zr ?_) | (with_reducible refine jx ?_) | (with_reducible refine zZ ?_) | (with_reducible refine qe ?_) | ((with_reducible refine jW ?_); refine vW ?_) | (with_reducible refine qd ?_) | ((with_reducible refine jv ?_); (first | refine ju ?_ | refine qD ?_)) | ((with_reducible refine jw ?_); (first | refine jX ?_ | refine jZ ?_)))); exact k0.out⟩) : zh P f args A R := eN hf hn hr (fun F => (g F).out ⟨k F⟩) hb hm hl
end
section
variable {n : Nat} {ops : Array Oper} {K : Env -> zb -> Prop} {o : Oper} {l : List Oper} {L : Env} {S S' G : zb}
theorem cA {f : FuncId} {args : LV} {A : zb} {R : Value -> zb -> Prop} {C : Value -> Env} (h : zh P f args A R) (k : ∀ v A',R v A' -> runW P n ops K l (C v) (A' ++ G))
  (e : ∀ N : Env -> zb -> Prop,xA ops o L (zY P o.op o.type L S fun v S' => N (putT n o.dst v L) S') (N (putT n o.dst undef L) S) = vf P f args.toArray S fun v S' => N (C v) S' := by exact fun N => eqA0)
  (ht : Take A S G := by exact tkA) : runW P n ops K (o :: l) L S :=
 qt fun N hN => (e N) ▸ xX h ht fun v A' r => hN _ _ (k v A' r)
theorem oL {t e : TypeId} {s b : Nat} {m : Nat × Nat} {C : Value -> Env} (vs : LV) (hz : vs.length = s) (k : runW P n ops K l (C (.agg vs.toArray)) S)
  (e1 : ∀ N : Env -> zb -> Prop,xA ops o L (zY P o.op o.type L S fun v S' => N (putT n o.dst v L) S') (N (putT n o.dst undef L) S) = xG P (Instr.loadAt t (pT b)) S fun v => N (C v) S := by exact fun N => eqA0)
  (hh : ∃ z by_,jG P t /\ zm P t z s by_ := by exact ⟨_,_,inferInstance,inferInstance⟩) (hl : Lies b (.cells vs.toArray e m) S := by exact lkA) : runW P n ops K (o :: l) L S := by
 obtain ⟨z,by_,h1,h2⟩ := hh;exact qt fun N hN => (e1 N) ▸ zz hl hz (hN _ _ k)
theorem oS {t e : TypeId} {s b : Nat} {cs : Array Value} {C : Env} (vs : LV) (hz : vs.length = s) (hc : ∀ v ∈ vs,Value.cell1 v) (k : runW P n ops K l C S')
  (e1 : ∀ N : Env -> zb -> Prop,xA ops o L (zY P o.op o.type L S fun v S' => N (putT n o.dst v L) S') (N (putT n o.dst undef L) S) = jI P (Instr.storeAt t (pT b) (.agg vs.toArray)) S fun S' => N C S' := by exact fun N => eqA0)
  (hu : Upd b (.cells cs e (0,0)) (.cells vs.toArray e (0,0)) S S' := by exact upA) (hcs : ∃ z by_,zm P t z s by_ /\ cs.size = s := by exact ⟨_,_,inferInstance,rfl⟩) : runW P n ops K (o :: l) L S := by
 obtain ⟨z,by_,h1,h2⟩ := hcs;exact qt fun N hN => (e1 N) ▸ xo hz hc hu h2 (hN _ _ k)
theorem oA {t : TypeId} {C : Value -> Env} (cs : Array Value) (k : ∀ b : Nat,runW P n ops K l (C (pT b)) ([(b,.cells cs t (0,0))] :: S))
  (e1 : ∀ N : Env -> zb -> Prop,xA ops o L (zY P o.op o.type L S fun v S' => N (putT n o.dst v L) S') (N (putT n o.dst undef L) S) = ValW P (Instr.alloc t true (.tuple #[])) S fun v S' => N (C v) S' := by exact fun N => eqA0)
  (hz : ∃ z s by_,zm P t z s by_ /\ z.cells = cs := by exact ⟨_,_,_,inferInstance,rfl⟩) : runW P n ops K (o :: l) L S := by
 obtain ⟨z,s,by_,h1,h2⟩ := hz;exact qt fun N hN => (e1 N) ▸ qE cs h2 fun b => hN _ _ (k b)
theorem oB {t : TypeId} {v : Value} {cs : Array Value} {C : Value -> Env} (k : ∀ b : Nat,runW P n ops K l (C (pT b)) ([(b,.cells cs t (0,0))] :: S))
  (e1 : ∀ N : Env -> zb -> Prop,xA ops o L (zY P o.op o.type L S fun v S' => N (putT n o.dst v L) S') (N (putT n o.dst undef L) S) = ValW P (Instr.box t v) S fun v S' => N (C v) S' := by exact fun N => eqA0)
  (hz : v.cells = cs := by ((try simp only [Value.cells]);(first | done | exact rfl))) : runW P n ops K (o :: l) L S :=
 qt fun N hN => (e1 N) ▸ Xr fun b => hz.symm ▸ hN _ _ (k b)
theorem oT {t : TypeId} {C : Value -> Env} (ps : List (Nat × Value)) (cs : Array Value) (k : runW P n ops K l (C (.agg cs)) S)
  (e1 : ∀ N : Env -> zb -> Prop,xA ops o L (zY P o.op o.type L S fun v S' => N (putT n o.dst v L) S') (N (putT n o.dst undef L) S) = zk P (Instr.build t ps.toArray) fun v => N (C v) S := by exact fun N => eqA0)
  (hz : ∃ (z : Value) (s by_ : Nat) (pl : List (Nat × Nat)),xi P t pl /\ zm P t z s by_ /\ Instr.fill (pl[·]?) z.cells ps = some cs := by exact ⟨_,_,_,_,inferInstance,inferInstance,kM⟩) : runW P n ops K (o :: l) L S := by
 obtain ⟨z,s,by_,pl,h1,h2,h3⟩ := hz
 exact qt fun N hN => by
  rw [e1 N,zX h3];exact hN _ _ k
theorem zF {X : (Env -> zb -> Prop) -> Prop} (h : X (runW P n ops K l)) (e : ∀ N : Env -> zb -> Prop,(xA ops o L (zY P o.op o.type L S fun v S' => N (putT n o.dst v L) S') (N (putT n o.dst undef L) S)) = X N := by exact fun N => eqA0) : runW P n ops K (o :: l) L S := Eq.mpr (e (runW P n ops K l)) h
theorem cR {f : FuncId} {args : LV} {A B : zb} {x : Value} {C : Value -> Env} {G' : Prop} (h : zh P f args A fun v A' => v = x /\ A' = B) (k : G')
  (e : ∀ N : Env -> zb -> Prop,xA ops o L (zY P o.op o.type L S fun v S' => N (putT n o.dst v L) S') (N (putT n o.dst undef L) S) = vf P f args.toArray S fun v S' => N (C v) S' := by exact fun N => eqA0)
  (ht : Take A S G := by exact tkA) (g : Impl (Hid G') (runW P n ops K l (C x) (B ++ G)) := by exact ⟨fun k0 => by (try simp only [aD,aC]);(repeat (first | (with_reducible refine jN ?_) | ((with_reducible refine jn ?_);refine jm ?_) | (with_reducible refine qL ?_) | (with_reducible refine wb ?_) | (with_reducible refine wd ?_) | (with_reducible refine vA ?_) | (with_reducible refine vy ?_) | (with_reducible refine vC ?_) | ((with_reducible refine xY ?_);refine vz ?_) | (with_reducible refine vo ?_) | (with_reducible refine vm ?_) | (with_reducible refine vp ?_) | (with_reducible refine zS ?_) | (with_reducible refine zP ?_) | (with_reducible refine jy ?_) | (with_reducible refine zr ?_) | (with_reducible refine jx ?_) | (with_reducible refine zZ ?_) | (with_reducible refine qe ?_) | ((with_reducible refine jW ?_);refine vW ?_) | (with_reducible refine qd ?_) | ((with_reducible refine jv ?_);(first | refine ju ?_ | refine qD ?_)) | ((with_reducible refine jw ?_);(first | refine jX ?_ | refine jZ ?_))));exact k0.out⟩) : runW P n ops K (o :: l) L S :=
 cA h (fun v A' ⟨hv,hA⟩ => by subst hv hA;exact g.out ⟨k⟩) e ht
theorem oLg {t e : TypeId} {s b : Nat} {m : Nat × Nat} {C : Value -> Env} {G' : Prop} (vs : LV) (hz : vs.length = s) (k : G')
  (e1 : ∀ N : Env -> zb -> Prop,xA ops o L (zY P o.op o.type L S fun v S' => N (putT n o.dst v L) S') (N (putT n o.dst undef L) S) = xG P (Instr.loadAt t (pT b)) S fun v => N (C v) S := by exact fun N => eqA0)
  (hh : ∃ z by_,jG P t /\ zm P t z s by_ := by exact ⟨_,_,inferInstance,inferInstance⟩) (hl : Lies b (.cells vs.toArray e m) S := by exact lkA) (g : Impl (Hid G') (runW P n ops K l (C (.agg vs.toArray)) S) := by exact ⟨fun k0 => by (repeat (first | (with_reducible refine jN ?_) | ((with_reducible refine jn ?_);refine jm ?_) | (with_reducible refine qL ?_) | (with_reducible refine wb ?_) | (with_reducible refine wd ?_) | (with_reducible refine vA ?_) | (with_reducible refine vy ?_) | (with_reducible refine vC ?_) | ((with_reducible refine xY ?_);refine vz ?_) | (with_reducible refine vo ?_) | (with_reducible refine vm ?_) | (with_reducible refine vp ?_) | (with_reducible refine zS ?_) | (with_reducible refine zP ?_) | (with_reducible refine jy ?_) | (with_reducible refine zr ?_) | (with_reducible refine jx ?_) | (with_reducible refine zZ ?_) | (with_reducible refine qe ?_) | ((with_reducible refine jW ?_);refine vW ?_) | (with_reducible refine qd ?_) | ((with_reducible refine jv ?_);(first | refine ju ?_ | refine qD ?_)) | ((with_reducible refine jw ?_);(first | refine jX ?_ | refine jZ ?_))));exact k0.out⟩) : runW P n ops K (o :: l) L S :=
 oL vs hz (g.out ⟨k⟩) e1 hh hl
theorem oSg {t e : TypeId} {s b : Nat} {cs : Array Value} {C : Env} {G' : Prop} (vs : LV) (hz : vs.length = s) (hc : ∀ v ∈ vs,Value.cell1 v) (k : G')
  (e1 : ∀ N : Env -> zb -> Prop,xA ops o L (zY P o.op o.type L S fun v S' => N (putT n o.dst v L) S') (N (putT n o.dst undef L) S) = jI P (Instr.storeAt t (pT b) (.agg vs.toArray)) S fun S' => N C S' := by exact fun N => eqA0)
  (hu : Upd b (.cells cs e (0,0)) (.cells vs.toArray e (0,0)) S S' := by exact upA) (hcs : ∃ z by_,zm P t z s by_ /\ cs.size = s := by exact ⟨_,_,inferInstance,rfl⟩) (g : Impl (Hid G') (runW P n ops K l C S') := by exact ⟨fun k0 => by (repeat (first | (with_reducible refine jN ?_) | ((with_reducible refine jn ?_);refine jm ?_) | (with_reducible refine qL ?_) | (with_reducible refine wb ?_) | (with_reducible refine wd ?_) | (with_reducible refine vA ?_) | (with_reducible refine vy ?_) | (with_reducible refine vC ?_) | ((with_reducible refine xY ?_);refine vz ?_) | (with_reducible refine vo ?_) | (with_reducible refine vm ?_) | (with_reducible refine vp ?_) | (with_reducible refine zS ?_) | (with_reducible refine zP ?_) | (with_reducible refine jy ?_) | (with_reducible refine zr ?_) | (with_reducible refine jx ?_) | (with_reducible refine zZ ?_) | (with_reducible refine qe ?_) | ((with_reducible refine jW ?_);refine vW ?_) | (with_reducible refine qd ?_) | ((with_reducible refine jv ?_);(first | refine ju ?_ | refine qD ?_)) | ((with_reducible refine jw ?_);(first | refine jX ?_ | refine jZ ?_))));exact k0.out⟩) : runW P n ops K (o :: l) L S :=
 oS vs hz hc (g.out ⟨k⟩) e1 hu hcs
theorem oAg {t : TypeId} {C : Value -> Env} {G' : Nat -> Prop} (cs : Array Value) (k : ∀ b : Nat,G' b)
  (e1 : ∀ N : Env -> zb -> Prop,xA ops o L (zY P o.op o.type L S fun v S' => N (putT n o.dst v L) S') (N (putT n o.dst undef L) S) = ValW P (Instr.alloc t true (.tuple #[])) S fun v S' => N (C v) S' := by exact fun N => eqA0)
  (hz : ∃ z s by_,zm P t z s by_ /\ z.cells = cs := by exact ⟨_,_,_,inferInstance,rfl⟩) (g : ∀ b : Nat,Impl (Hid (G' b)) (runW P n ops K l (C (pT b)) ([(b,.cells cs t (0,0))] :: S)) := by exact fun b => ⟨fun k0 => by (repeat (first | (with_reducible refine jN ?_) | ((with_reducible refine jn ?_);refine jm ?_) | (with_reducible refine qL ?_) | (with_reducible refine wb ?_) | (with_reducible refine wd ?_) | (with_reducible refine vA ?_) | (with_reducible refine vy ?_) | (with_reducible refine vC ?_) | ((with_reducible refine xY ?_);refine vz ?_) | (with_reducible refine vo ?_) | (with_reducible refine vm ?_) | (with_reducible refine vp ?_) | (with_reducible refine zS ?_) | (with_reducible refine zP ?_) | (with_reducible refine jy ?_) | (with_reducible refine zr ?_) | (with_reducible refine jx ?_) | (with_reducible refine zZ ?_) | (with_reducible refine qe ?_) | ((with_reducible refine jW ?_);refine vW ?_) | (with_reducible refine qd ?_) | ((with_reducible refine jv ?_);(first | refine ju ?_ | refine qD ?_)) | ((with_reducible refine jw ?_);(first | refine jX ?_ | refine jZ ?_))));exact k0.out⟩) : runW P n ops K (o :: l) L S :=
 oA cs (fun b => (g b).out ⟨k b⟩) e1 hz
theorem oBg {t : TypeId} {v : Value} {cs : Array Value} {C : Value -> Env} {G' : Nat -> Prop} (k : ∀ b : Nat,G' b)
  (e1 : ∀ N : Env -> zb -> Prop,xA ops o L (zY P o.op o.type L S fun v S' => N (putT n o.dst v L) S') (N (putT n o.dst undef L) S) = ValW P (Instr.box t v) S fun v S' => N (C v) S' := by exact fun N => eqA0)
  (hz : v.cells = cs := by ((try simp only [Value.cells]);(first | done | exact rfl))) (g : ∀ b : Nat,Impl (Hid (G' b)) (runW P n ops K l (C (pT b)) ([(b,.cells cs t (0,0))] :: S)) := by exact fun b => ⟨fun k0 => by (repeat (first | (with_reducible refine jN ?_) | ((with_reducible refine jn ?_);refine jm ?_) | (with_reducible refine qL ?_) | (with_reducible refine wb ?_) | (with_reducible refine wd ?_) | (with_reducible refine vA ?_) | (with_reducible refine vy ?_) | (with_reducible refine vC ?_) | ((with_reducible refine xY ?_);refine vz ?_) | (with_reducible refine vo ?_) | (with_reducible refine vm ?_) | (with_reducible refine vp ?_) | (with_reducible refine zS ?_) | (with_reducible refine zP ?_) | (with_reducible refine jy ?_) | (with_reducible refine zr ?_) | (with_reducible refine jx ?_) | (with_reducible refine zZ ?_) | (with_reducible refine qe ?_) | ((with_reducible refine jW ?_);refine vW ?_) | (with_reducible refine qd ?_) | ((with_reducible refine jv ?_);(first | refine ju ?_ | refine qD ?_)) | ((with_reducible refine jw ?_);(first | refine jX ?_ | refine jZ ?_))));exact k0.out⟩) : runW P n ops K (o :: l) L S :=
 oB (fun b => (g b).out ⟨k b⟩) e1 hz
theorem oTg {t : TypeId} {C : Value -> Env} {G' : Prop} (ps : List (Nat × Value)) (cs : Array Value) (k : G')
  (e1 : ∀ N : Env -> zb -> Prop,xA ops o L (zY P o.op o.type L S fun v S' => N (putT n o.dst v L) S') (N (putT n o.dst undef L) S) = zk P (Instr.build t ps.toArray) fun v => N (C v) S := by exact fun N => eqA0)
  (hz : ∃ (z : Value) (s by_ : Nat) (pl : List (Nat × Nat)),xi P t pl /\ zm P t z s by_ /\ Instr.fill (pl[·]?) z.cells ps = some cs := by exact ⟨_,_,_,_,inferInstance,inferInstance,kM⟩) (g : Impl (Hid G') (runW P n ops K l (C (.agg cs)) S) := by exact ⟨fun k0 => by (repeat (first | (with_reducible refine jN ?_) | ((with_reducible refine jn ?_);refine jm ?_) | (with_reducible refine qL ?_) | (with_reducible refine wb ?_) | (with_reducible refine wd ?_) | (with_reducible refine vA ?_) | (with_reducible refine vy ?_) | (with_reducible refine vC ?_) | ((with_reducible refine xY ?_);refine vz ?_) | (with_reducible refine vo ?_) | (with_reducible refine vm ?_) | (with_reducible refine vp ?_) | (with_reducible refine zS ?_) | (with_reducible refine zP ?_) | (with_reducible refine jy ?_) | (with_reducible refine zr ?_) | (with_reducible refine jx ?_) | (with_reducible refine zZ ?_) | (with_reducible refine qe ?_) | ((with_reducible refine jW ?_);refine vW ?_) | (with_reducible refine qd ?_) | ((with_reducible refine jv ?_);(first | refine ju ?_ | refine qD ?_)) | ((with_reducible refine jw ?_);(first | refine jX ?_ | refine jZ ?_))));exact k0.out⟩) : runW P n ops K (o :: l) L S :=
 oT ps cs (g.out ⟨k⟩) e1 hz
variable {i : Nat} {pd : List Nat} {p p' : List zW}
theorem qO {X : (Env -> zb -> Prop) -> Prop} (h : ∀ N : Env -> zb -> Prop,(∀ L S,xD P n ops K p L S -> N L S) -> X N)
  (ho : ops[i]? = some o := by (simp only [iP,iD,iJ];exact rfl))
  (e : ∀ N : Env -> zb -> Prop,(quietW P ops o L S fun v => N (putT n o.dst v L) S) = X N := by exact fun N => eqQ0) :
  xD P n ops K ((i,false,pd) :: p) L S := yH ho fun N hN => (e N) ▸ h N hN
theorem qF {X : (Env -> zb -> Prop) -> Prop} (h : X (xD P n ops K p))
  (ho : ops[i]? = some o := by (simp only [iP,iD,iJ];exact rfl))
  (e : ∀ N : Env -> zb -> Prop,(quietW P ops o L S fun v => N (putT n o.dst v L) S) = X N := by exact fun N => eqQ0) :
  xD P n ops K ((i,false,pd) :: p) L S := by simp only [xD,ho];exact Eq.mpr (e (xD P n ops K p)) h
theorem zG {X : (Env -> zb -> Prop) -> Prop} (h : X (xD P n ops K p))
  (ho : ops[i]? = some o := by (simp only [iP,iD,iJ];exact rfl))
  (e : ∀ N : Env -> zb -> Prop,(xA ops o L (zY P o.op o.type L S fun v S' => xF P ops pd (putT n o.dst v L) S' (N (putT n o.dst v L) S')) (xF P ops pd (putT n o.dst undef L) S (N (putT n o.dst undef L) S))) = X N := by exact fun N => eqQ0) : xD P n ops K ((i,true,pd) :: p) L S := by simp only [xD,ho];exact Eq.mpr (e (xD P n ops K p)) h
theorem dS {L' : Env} {S' : zb} (h : xD P n ops K p L' S')
  (ho : ops[i]? = some o := by (simp only [iP,iD,iJ];exact rfl))
  (e : ∀ N : Env -> zb -> Prop,(xA ops o L (zY P o.op o.type L S fun v S' => xF P ops pd (putT n o.dst v L) S' (N (putT n o.dst v L) S')) (xF P ops pd (putT n o.dst undef L) S (N (putT n o.dst undef L) S))) = N L' S' := by exact fun N => eqQ0) : xD P n ops K ((i,true,pd) :: p) L S := zG (X := fun N => N L' S') h ho e
theorem dA {f : FuncId} {args : LV} {A : zb} {R : Value -> zb -> Prop} {Y : (Env -> zb -> Prop) -> Value -> zb -> Prop} (h : zh P f args A R) (k : ∀ v A',R v A' -> Y (xD P n ops K p) v (A' ++ G))
  (ho : ops[i]? = some o := by (simp only [iP,iD,iJ];exact rfl))
  (e : ∀ N : Env -> zb -> Prop,(xA ops o L (zY P o.op o.type L S fun v S' => xF P ops pd (putT n o.dst v L) S' (N (putT n o.dst v L) S')) (xF P ops pd (putT n o.dst undef L) S (N (putT n o.dst undef L) S))) = vf P f args.toArray S fun v S' => Y N v S' := by exact fun N => eqQ0)
  (ht : Take A S G := by exact tkA) : xD P n ops K ((i,true,pd) :: p) L S := zG (X := fun N => vf P f args.toArray S fun v S' => Y N v S') (xX h ht k) ho e
theorem dR {f : FuncId} {args : LV} {A B : zb} {x : Value} {Y : (Env -> zb -> Prop) -> Value -> zb -> Prop} {G' : Prop} (h : zh P f args A fun v A' => v = x /\ A' = B) (k : G')
  (ho : ops[i]? = some o := by (simp only [iP,iD,iJ];exact rfl))
  (e : ∀ N : Env -> zb -> Prop,(xA ops o L (zY P o.op o.type L S fun v S' => xF P ops pd (putT n o.dst v L) S' (N (putT n o.dst v L) S')) (xF P ops pd (putT n o.dst undef L) S (N (putT n o.dst undef L) S))) = vf P f args.toArray S fun v S' => Y N v S' := by exact fun N => eqQ0)
  (ht : Take A S G := by exact tkA) (g : Impl (Hid G') (Y (xD P n ops K p) x (B ++ G)) := by exact ⟨fun k0 => by (try simp only [aD,aC]);(repeat refine pend ?_);(repeat (first | (with_reducible refine jN ?_) | ((with_reducible refine jn ?_);refine jm ?_) | (with_reducible refine qL ?_) | (with_reducible refine wb ?_) | (with_reducible refine wd ?_) | (with_reducible refine vA ?_) | (with_reducible refine vy ?_) | (with_reducible refine vC ?_) | ((with_reducible refine xY ?_);refine vz ?_) | (with_reducible refine vo ?_) | (with_reducible refine vm ?_) | (with_reducible refine vp ?_) | (with_reducible refine zS ?_) | (with_reducible refine zP ?_) | (with_reducible refine jy ?_) | (with_reducible refine zr ?_) | (with_reducible refine jx ?_) | (with_reducible refine zZ ?_) | (with_reducible refine qe ?_) | ((with_reducible refine jW ?_);refine vW ?_) | (with_reducible refine qd ?_) | ((with_reducible refine jv ?_);(first | refine ju ?_ | refine qD ?_)) | ((with_reducible refine jw ?_);(first | refine jX ?_ | refine jZ ?_))));exact k0.out⟩) : xD P n ops K ((i,true,pd) :: p) L S :=
 dA h (fun v A' ⟨hv,hA⟩ => by subst hv hA;exact g.out ⟨k⟩) ho e ht
end
end Go.Ost
namespace Go.Sha
abbrev W := BitVec 32
def rot (n : Nat) (x : W) : W := (x >>> n) ||| (x <<< (32 - n))
def s0 (x : W) : W := rot 7 x ^^^ rot 18 x ^^^ (x >>> 3)
def s1 (x : W) : W := rot 17 x ^^^ rot 19 x ^^^ (x >>> 10)
def S0 (x : W) : W := rot 2 x ^^^ rot 13 x ^^^ rot 22 x
def S1 (x : W) : W := rot 6 x ^^^ rot 11 x ^^^ rot 25 x
def ch (e f g : W) : W := (e &&& f) ^^^ (~~~e &&& g)
def maj (a b c : W) : W := (a &&& b) ^^^ (a &&& c) ^^^ (b &&& c)
def word (a b c d : UInt8) : W := lZ 32 (a.toNat * 16777216 + b.toNat * 65536 + c.toNat * 256 + d.toNat)
def xH (x : W) : L8 := [aG (x.toNat / 16777216),aG (x.toNat / 65536),aG (x.toNat / 256),aG x.toNat]
def vT (bs : L8) (j : Nat) : W := word (bs.getD j 0) (bs.getD (j + 1) 0) (bs.getD (j + 2) 0) (bs.getD (j + 3) 0)
theorem XQ (bs : L8) (l k j : Nat) (h : j < k) : ((bs.drop l).take k).getD j 0 = bs.getD (l + j) 0 := by
 simp [mB,List.getElem?_take,h]
theorem IQ (bs : L8) (l k : Nat) (h : 4 <= k) : vT ((bs.drop l).take k) 0 = vT bs l := by
 simp only [vT];rw [XQ _ _ _ _ oM,XQ _ _ _ _ oM,XQ _ _ _ _ oM,XQ _ _ _ _ oM]
 rfl
def nxt (l : List W) (i : Nat) : W := l.getD (i - 16) 0 + s0 (l.getD (i - 15) 0) + l.getD (i - 7) 0 + s1 (l.getD (i - 2) 0)
def spr (bs : L8) : Nat -> List W
 | 0 => aU 64 0
 | i + 1 => (spr bs i).set i (if i < 16 then vT bs (4 * i) else nxt (spr bs i) i)
theorem xO (bs : L8) : ∀ i,(spr bs i).length = 64
 | 0 => by simp [spr]
 | i + 1 => by simp [spr,xO bs i]
structure St where
 a : W
 b : W
 c : W
 d : W
 e : W
 f : W
 g : W
 h : W
deriving DecidableEq
def turn (k w : W) (s : St) : St :=
 let t1 := s.h + S1 s.e + ch s.e s.f s.g + k + w
 let t2 := S0 s.a + maj s.a s.b s.c
 ⟨t1 + t2,s.a,s.b,s.c,s.d + t1,s.e,s.f,s.g⟩
def kZ (ks ws : List W) : Nat -> St -> St
 | 0,s => s
 | i + 1,s => turn (ks.getD i 0) (ws.getD i 0) (kZ ks ws i s)
def St.add (x y : St) : St := ⟨x.a + y.a,x.b + y.b,x.c + y.c,x.d + y.d,x.e + y.e,x.f + y.f,x.g + y.g,x.h + y.h⟩
def step (ks : List W) (s : St) (block : L8) : St := s.add (kZ ks (spr block 64) 64 s)
def St.list (s : St) : List W := [s.a,s.b,s.c,s.d,s.e,s.f,s.g,s.h]
def St.bytes (s : St) : L8 := s.list.flatMap xH
def odd : List W := [0x428a2f98,0x71374491,0xb5c0fbcf,0xe9b5dba5,0x3956c25b,0x59f111f1,0x923f82a4,0xab1c5ed5,0xd807aa98,0x12835b01,0x243185be,0x550c7dc3,0x72be5d74,0x80deb1fe,0x9bdc06a7,0xc19bf174,0xe49b69c1,0xefbe4786,0x0fc19dc6,0x240ca1cc,0x2de92c6f,0x4a7484aa,0x5cb0a9dc,0x76f988da,0x983e5152,0xa831c66d,0xb00327c8,0xbf597fc7,0xc6e00bf3,0xd5a79147,0x06ca6351,0x14292967,0x27b70a85,0x2e1b2138,0x4d2c6dfc,0x53380d13,0x650a7354,0x766a0abb,0x81c2c92e,0x92722c85,0xa2bfe8a1,0xa81a664b,0xc24b8b70,0xc76c51a3,0xd192e819,0xd6990624,0xf40e3585,0x106aa070,0x19a4c116,0x1e376c08,0x2748774c,0x34b0bcb5,0x391c0cb3,0x4ed8aa4a,0x5b9cca4f,0x682e6ff3,0x748f82ee,0x78a5636f,0x84c87814,0x8cc70208,0x90befffa,0xa4506ceb,0xbef9a3f7,0xc67178f2]
theorem jt : odd.length = 64 := rfl
def first : St := ⟨0x6a09e667,0xbb67ae85,0x3c6ef372,0xa54ff53a,0x510e527f,0x9b05688c,0x1f83d9ab,0x5be0cd19⟩
theorem St.list_len (s : St) : s.list.length = 8 := rfl
def mix (s v : St) (i : Nat) : List W := (s.add v).list.take i ++ s.list.drop i
theorem xE (s v : St) (i : Nat) (h : i <= 8) : (mix s v i).length = 8 := by
 simp only [mix,aB,aX,aV,St.list_len];omega
theorem If (s v : St) (i : Nat) (h : i < 8) : (mix s v i).set i ((mix s v i).getD i 0 + v.list.getD i 0) = mix s v (i + 1) := by
 match i,h with
 | 0,_ => rfl
 | 1,_ => rfl
 | 2,_ => rfl
 | 3,_ => rfl
 | 4,_ => rfl
 | 5,_ => rfl
 | 6,_ => rfl
 | 7,_ => rfl
theorem nat_word (a b c d : Nat) (hb : b < 256) (hc : c < 256) (hd : d < 256) : (((a <<< 24 ||| b <<< 16) ||| c <<< 8) ||| d) = a * 16777216 + b * 65536 + c * 256 + d := by
 have e1 : a <<< 24 = (a * 256) <<< 16 := by simp [mL];omega
 have h1 : a <<< 24 ||| b <<< 16 = (a * 256 + b) <<< 16 := by
  have : a <<< 8 + b = a <<< 8 ||| b := Nat.shiftLeft_add_eq_or_of_lt hb a
  rw [show a * 256 + b = a <<< 8 ||| b from by rw [<- this,mL],Nat.shiftLeft_or_distrib,<- Nat.shiftLeft_add]
 have h2 : (a * 256 + b) <<< 16 ||| c <<< 8 = ((a * 256 + b) * 256 + c) <<< 8 := by
  have : (a * 256 + b) <<< 8 + c = (a * 256 + b) <<< 8 ||| c := Nat.shiftLeft_add_eq_or_of_lt hc _
  rw [show (a * 256 + b) * 256 + c = (a * 256 + b) <<< 8 ||| c from by rw [<- this,mL],Nat.shiftLeft_or_distrib,<- Nat.shiftLeft_add]
 have h3 : ((a * 256 + b) * 256 + c) <<< 8 ||| d = ((a * 256 + b) * 256 + c) <<< 8 + d := (Nat.shiftLeft_add_eq_or_of_lt hd _).symm
 rw [h1,h2,h3,mL];omega
theorem word_eq (a b c d : UInt8) : ((lZ 32 a.toNat <<< 24 ||| lZ 32 b.toNat <<< 16) ||| lZ 32 c.toNat <<< 8) ||| lZ 32 d.toNat = word a b c d := by
 have ha := a.toNat_lt;have hb := b.toNat_lt;have hc := c.toNat_lt;have hd := d.toNat_lt
 apply BitVec.eq_of_toNat_eq
 have s1 : a.toNat <<< 24 < 2 ^ 32 := by rw [mL];omega
 have s2 : b.toNat <<< 16 < 2 ^ 32 := by rw [mL];omega
 have s3 : c.toNat <<< 8 < 2 ^ 32 := by rw [mL];omega
 show (((lZ 32 a.toNat <<< 24 ||| lZ 32 b.toNat <<< 16) ||| lZ 32 c.toNat <<< 8) ||| lZ 32 d.toNat).toNat = _
 simp only [word,BitVec.toNat_or,BitVec.toNat_shiftLeft,lU]
 rw [lV (oM : a.toNat < 2 ^ 32),lV (oM : b.toNat < 2 ^ 32),lV (oM : c.toNat < 2 ^ 32),lV (oM : d.toNat < 2 ^ 32),
  lV s1,lV s2,lV s3,nat_word _ _ _ _ oM oM oM,lV oM]
def num (bs : L8) : Nat := bs.foldl (fun n b => (n * 256 + b.toNat) % 18446744073709551616) 0
theorem num_snoc (bs : L8) (b : UInt8) : num (bs ++ [b]) = (num bs * 256 + b.toNat) % 18446744073709551616 := by simp [num]
theorem wV (bs : L8) (i : Nat) (h : i < bs.length) : bs.take (i + 1) = bs.take i ++ [bs.getD i 0] := by
 rw [lG,mB,aE h];rfl
theorem num4 (bs : L8) (l : Nat) (h : l + 4 <= bs.length) : lZ 32 (num ((bs.drop l).take 4)) = vT bs l := by
 have e : (bs.drop l).take 4 = [bs.getD l 0,bs.getD (l + 1) 0,bs.getD (l + 2) 0,bs.getD (l + 3) 0] := by
  apply List.ext_getElem?
  intro i;rw [List.getElem?_take]
  match i with
  | 0 => simp [mB,aE (oM : l < bs.length)]
  | 1 => simp [mB,aE (oM : l + 1 < bs.length)]
  | 2 => simp [mB,aE (oM : l + 2 < bs.length)]
  | 3 => simp [mB,aE (oM : l + 3 < bs.length)]
  | i + 4 => rw [if_neg oM];simp
 rw [e];simp only [num,List.foldl,vT,word];generalize bs.getD l 0 = a;generalize bs.getD (l + 1) 0 = b;generalize bs.getD (l + 2) 0 = c;generalize bs.getD (l + 3) 0 = d;have ha := a.toNat_lt;have hb := b.toNat_lt;have hc := c.toNat_lt;have hd := d.toNat_lt
 congr 1
 omega
theorem St.get0 (s : St) : s.list.getD (0 + 0 * 1) 0 = s.a := rfl
theorem St.get1 (s : St) : s.list.getD (0 + 1 * 1) 0 = s.b := rfl
theorem St.get2 (s : St) : s.list.getD (0 + 2 * 1) 0 = s.c := rfl
theorem St.get3 (s : St) : s.list.getD (0 + 3 * 1) 0 = s.d := rfl
theorem St.get4 (s : St) : s.list.getD (0 + 4 * 1) 0 = s.e := rfl
theorem St.get5 (s : St) : s.list.getD (0 + 5 * 1) 0 = s.f := rfl
theorem St.get6 (s : St) : s.list.getD (0 + 6 * 1) 0 = s.g := rfl
theorem St.get7 (s : St) : s.list.getD (0 + 7 * 1) 0 = s.h := rfl
theorem di (k w : W) (s : St) : [s.h + (rot 6 s.e ^^^ rot 11 s.e ^^^ rot 25 s.e) + (s.e &&& s.f ^^^ ~~~s.e &&& s.g) + k + w + ((rot 2 s.a ^^^ rot 13 s.a ^^^ rot 22 s.a) + (s.a &&& s.b ^^^ s.a &&& s.c ^^^ s.b &&& s.c)),s.a,s.b,s.c,
  s.d + (s.h + (rot 6 s.e ^^^ rot 11 s.e ^^^ rot 25 s.e) + (s.e &&& s.f ^^^ ~~~s.e &&& s.g) + k + w),s.e,s.f,s.g] = (turn k w s).list := by
 simp only [turn,St.list,S0,S1,ch,maj]
theorem WP (x : W) : [aG (x >>> 24).toNat,aG (x >>> 16).toNat,aG (x >>> 8).toNat,aG x.toNat] = xH x := by
 have h : ∀ k : Nat,(x >>> k).toNat = x.toNat / 2 ^ k := fun k => by rw [BitVec.toNat_ushiftRight,Nat.shiftRight_eq_div_pow]
 show [aG (x >>> 24).toNat,aG (x >>> 16).toNat,aG (x >>> 8).toNat,aG x.toNat] = _
 rw [h,h,h];rfl
theorem Vb (s : St) (i : Nat) (h : i < 8) : (s.list.take (i + 1)).flatMap xH = (s.list.take i).flatMap xH ++ xH (s.list.getD i 0) := by
 match i,h with
 | 0,_ => rfl
 | 1,_ => rfl
 | 2,_ => rfl
 | 3,_ => rfl
 | 4,_ => rfl
 | 5,_ => rfl
 | 6,_ => rfl
 | 7,_ => rfl
def be (k n : Nat) : L8 := (iC k).map fun i => aG (n / 256 ^ (k - 1 - i))
theorem qf (k n : Nat) : (be k n).length = k := by simp [be]
theorem Vc (k n i : Nat) (h : i < k) : (be k n).getD i 0 = aG (n / 256 ^ (k - 1 - i)) := by simp [be,mB,h]
theorem gW (k n i : Nat) (h : i < k) : (be k n).take (i + 1) = (be k n).take i ++ [aG (n / 256 ^ (k - 1 - i))] := by
 rw [wV _ _ (by rw [qf];exact h),Vc k n i h]
theorem shift8 (n j : Nat) : ((n : Int) / 2 ^ (8 * j)) = ((n / 256 ^ j : Nat) : Int) := by
 rw [show (256 : Nat) = 2 ^ 8 from rfl,<- Nat.pow_mul];simp
def kf (n : Nat) : Nat := (119 - n % 64) % 64
def pad (n : Nat) : L8 := 128 :: aU (kf n) 0 ++ be 8 (8 * n)
theorem OP (z : Nat) : (128 :: aU (z + 1) 0 : L8) = (128 :: aU z 0) ++ [0] := by
 rw [List.replicate_succ'];rfl
theorem Xi (n : Nat) : (pad n).length = 9 + kf n := by simp [pad,qf];omega
theorem KY (n : Nat) : (n + (pad n).length) % 64 = 0 := by
 rw [Xi,kf];omega
theorem gk (B : L8) (j : Nat) (h : j < B.length) : (aU (j + 1) 0 ++ B.drop (j + 1)).set j (B.getD j 0) = aU j 0 ++ B.drop j := by
 rw [List.replicate_succ',aN,List.set_append_right _ _ sM];simp only [aZ,Nat.sub_self,aC,aD,List.set_cons_zero];rw [iH h,mB,aE h];rfl
theorem ofNat_mod (v : Nat) : aG (v % 256) = aG v := by
 apply UInt8.toNat_inj.1
 rw [iO,iO];omega
theorem be_back (k n i : Nat) (h : i < k) : (aU (k - i) 0 ++ (be k n).drop (k - i)).set (k - 1 - i) (aG (n / 256 ^ i % 256)) = aU (k - (i + 1)) 0 ++ (be k n).drop (k - (i + 1)) := by
 have q := gk (be k n) (k - 1 - i) (by rw [qf];omega);rw [Vc _ _ _ oM,show k - 1 - (k - 1 - i) = i from oM,show k - 1 - i + 1 = k - i from oM] at q;rw [ofNat_mod,q,show k - 1 - i = k - (i + 1) from oM]
theorem ZQ (x : W) : be 4 x.toNat = xH x := by
 show [aG (x.toNat / 256 ^ 3),aG (x.toNat / 256 ^ 2),aG (x.toNat / 256 ^ 1),aG (x.toNat / 256 ^ 0)] = _
 simp [xH]
def run : Nat -> St -> L8 -> St
 | 0,s,_ => s
 | k + 1,s,bs => run k (step odd s (bs.take 64)) (bs.drop 64)
theorem Zr : ∀ (i : Nat) (s : St) (bs : L8),run (i + 1) s bs = step odd (run i s bs) ((bs.drop (64 * i)).take 64)
 | 0,s,bs => rfl
 | i + 1,s,bs => by
  rw [run,Zr i,run];rw [mQ,show 64 + 64 * i = 64 * (i + 1) from oM]
def whole (s : St) (bs : L8) : St := run (bs.length / 64) s bs
def xx (m : L8) : L8 := (whole first (m ++ pad m.length)).bytes
theorem qS (m : L8) : (xx m).length = 32 := rfl
def xB : L8 := [48,49,50,51,52,53,54,55,56,57,97,98,99,100,101,102]
theorem dig1 (k : Nat) (h : k < 16) : (xB.drop k).take 1 = [xB.getD k 0] := by
 have hl : k < xB.length := h;rw [iH hl,mB,aE hl];rfl
def hex2 (x : UInt8) : L8 := [xB.getD (x.toNat / 16) 0,xB.getD (x.toNat % 16) 0]
def hex (bs : L8) : L8 := bs.flatMap hex2
theorem Iv (bs : L8) (i : Nat) (h : i < bs.length) : hex (bs.take (i + 1)) = hex (bs.take i) ++ hex2 (bs.getD i 0) := by
 rw [wV bs i h];simp [hex]
theorem jK (bs : L8) : (hex bs).length = 2 * bs.length := by
 induction bs with
 | nil => rfl
 | cons x l ih => simp only [hex,iU,aB,aH] at ih ⊢;rw [ih];simp [hex2];omega
def qr (key : L8) : L8 := if 64 < key.length then xx key else key
theorem KB (key : L8) : (qr key).length <= 64 := by
 unfold qr;split
 ·rw [qS];decide
 ·omega
def padK (key : L8) (x : UInt8) : L8 := (iC 64).map fun i => (qr key).getD i 0 ^^^ x
theorem qC (key : L8) (x : UInt8) : (padK key x).length = 64 := by simp [padK]
def mac (key text : L8) : L8 := xx (padK key 92 ++ xx (padK key 54 ++ text))
theorem yi (key text : L8) : (mac key text).length = 32 := rfl
def xorB : L8 -> L8 -> L8
 | a :: l,b :: m => (a ^^^ b) :: xorB l m
 | _,_ => []
theorem yu : ∀ (a b : L8),(xorB a b).length = min a.length b.length
 | [],_ => by simp [xorB]
 | _ :: _,[] => by simp [xorB]
 | a :: l,b :: m => by rw [xorB,aH,yu l m,aH,aH];omega
theorem Ve : ∀ (a b : L8) (i : Nat),i < min a.length b.length -> (xorB a b)[i]? = some (a.getD i 0 ^^^ b.getD i 0)
 | [],_,i,h => absurd h (by rw [aQ,Nat.zero_min];omega)
 | _ :: _,[],i,h => absurd h (by rw [aQ,Nat.min_zero];omega)
 | a :: l,b :: m,0,h => by simp [xorB]
 | a :: l,b :: m,i + 1,h => by
  have := Ve l m i (by simp only [aH] at h;omega)
  simpa [xorB] using this
theorem cU (a b : L8) (i : Nat) (h : i < min a.length b.length) : (xorB a b).take (i + 1) = (xorB a b).take i ++ [a.getD i 0 ^^^ b.getD i 0] := by
 rw [lG,Ve a b i h];rfl
theorem Vr {α : Type} (n : Nat) (f g : Nat -> α) (j : Nat) (hj : j < n) : ((iC n).map fun i => if i < j then g i else f i).set j (g j) = (iC n).map fun i => if i < j + 1 then g i else f i := by
 apply List.ext_getElem
 ·simp
 ·intro i h1 h2;simp only [mC,iA,List.length_range] at h1;rw [List.getElem_set];simp only [List.getElem_map,List.getElem_range]
  by_cases h : j = i
  ·subst h;simp
  ·rw [if_neg h]
   by_cases h3 : i < j
   ·rw [if_pos h3,if_pos oM]
   ·rw [if_neg h3,if_neg oM]
theorem Wp {α : Type} (n : Nat) (f g : Nat -> α) (j : Nat) (d : α) (hj : j < n) : ((iC n).map fun i => if i < j then g i else f i).getD j d = f j := by
 simp [mB,hj]
theorem eT (x : UInt8) (key : L8) : aU 64 x = (iC 64).map fun i => if i < 0 then x ^^^ key.getD i 0 else x := by
 apply List.ext_getElem
 ·simp
 ·intro i h1 h2;rw [List.getElem_replicate,List.getElem_map,if_neg (Nat.not_lt_zero _)]
theorem pad_end (key : L8) (x : UInt8) (h : key.length <= 64) : ((iC 64).map fun i => if i < key.length then x ^^^ key.getD i 0 else x) = (iC 64).map fun i => key.getD i 0 ^^^ x := by
 apply List.map_congr_left
 intro i hi
 split
 ·exact UInt8.xor_comm _ _
 ·rename_i hn
  have : key.getD i 0 = 0 := by simp [mB,List.getElem?_eq_none (Nat.le_of_not_lt hn)]
  rw [this];simp
theorem IU (key : L8) (x : UInt8) (h : key.length <= 64) : key ++ aU (64 - key.length) 0 = (iC 64).map fun i => if i < 0 then key.getD i 0 ^^^ x else key.getD i 0 := by
 apply List.ext_getElem
 ·simp;omega
 ·intro i h1 h2;simp only [List.getElem_map,List.getElem_range,Nat.not_lt_zero,if_false]
  by_cases hi : i < key.length
  ·rw [List.getElem_append_left hi];simp [mB,hi]
  ·rw [List.getElem_append_right oM];simp [mB,List.getElem?_eq_none (Nat.le_of_not_lt hi)]
theorem turn_end (key : L8) (x : UInt8) : ((iC 64).map fun i => if i < 64 then key.getD i 0 ^^^ x else key.getD i 0) = (iC 64).map fun i => key.getD i 0 ^^^ x := by
 apply List.map_congr_left
 intro i hi;rw [if_pos (List.mem_range.1 hi)]
def strT (pass : L8) : L8 -> L8 -> Nat -> L8
 | _,t,0 => t
 | u,t,k + 1 => strT pass (mac pass u) (xorB t (mac pass u)) k
def kA (pass salt : L8) (rounds n : Nat) : L8 := strT pass (mac pass (salt ++ be 4 n)) (mac pass (salt ++ be 4 n)) (rounds - 1)
theorem Ov (pass : L8) : ∀ (k : Nat) (u t : L8),t.length = 32 -> (strT pass u t k).length = 32
 | 0,_,_,h => h
 | k + 1,u,t,h => Ov pass k _ _ (by rw [yu,h,yi];decide)
theorem KX (pass salt : L8) (rounds n : Nat) : (kA pass salt rounds n).length = 32 := Ov _ _ _ _ (yi _ _)
def cat (blk : Nat -> L8) : Nat -> L8
 | 0 => []
 | n + 1 => cat blk n ++ blk n
theorem Kg (blk : Nat -> L8) (h : ∀ k,(blk k).length = 32) : ∀ n,(cat blk n).length = 32 * n
 | 0 => rfl
 | n + 1 => by rw [cat,aB,h,Kg blk h n];omega
def many (size : Nat) : Nat := (size + 31) / 32
def kV (pass salt : L8) (rounds size : Nat) : L8 := (cat (fun k => kA pass salt rounds (k + 1)) (many size)).take size
def last (key info : L8) : Nat -> L8
 | 0 => []
 | n + 1 => mac key (last key info n ++ info ++ [aG (n + 1)])
end Go.Sha
namespace Go.Proofs.YtebikhhoppiapaaGreatDoor
open Go Go.Ost Go.Sha
structure Tm where
 k : Nat
 key : L8
 txt : L8
 rnd : Nat
deriving DecidableEq
structure BX where
 sym : Bool
 ts : List Tm
def vi (n : Nat) : L8 := if n < 128 then [aG n] else (aG n ||| 128) :: vi (n / 128)
termination_by n
decreasing_by omega
theorem Qo {n : Nat} (h : n < 128) : vi n = [aG n] := by rw [vi,if_pos h]
theorem ZY {n : Nat} (h : ¬ n < 128) : vi n = (aG n ||| 128) :: vi (n / 128) := by rw [vi,if_neg h]
theorem or_high : ∀ k < 256,(aG k ||| 128).toNat = k % 128 + 128 := by decide +kernel
theorem ofNat_mod (n : Nat) : aG n = aG (n % 256) := by
 apply UInt8.toNat_inj.1
 simp only [iO];omega
theorem ZI (n : Nat) : (aG n ||| 128).toNat = n % 128 + 128 := by
 rw [ofNat_mod,or_high _ oM];omega
theorem Kp : ∀ (n m : Nat) (a b : L8),vi n ++ a = vi m ++ b -> n = m /\ a = b := by
 intro n
 induction n using Nat.strongRecOn with
 | _ n ih =>
  intro m a b h
  by_cases hn : n < 128
  ·by_cases hm : m < 128
   ·rw [Qo hn,Qo hm] at h;simp only [aC,aD,List.cons.injEq] at h;have := congrArg UInt8.toNat h.1;simp only [iO] at this;exact ⟨oM,h.2⟩
   ·rw [Qo hn,ZY hm] at h;simp only [aC,aD,List.cons.injEq] at h;have := congrArg UInt8.toNat h.1;rw [ZI] at this;simp only [iO] at this;omega
  ·by_cases hm : m < 128
   ·rw [ZY hn,Qo hm] at h;simp only [aC,aD,List.cons.injEq] at h;have := congrArg UInt8.toNat h.1;rw [ZI] at this;simp only [iO] at this;omega
   ·rw [ZY hn,ZY hm] at h;simp only [aC,List.cons.injEq] at h;have h1 := congrArg UInt8.toNat h.1;rw [ZI,ZI] at h1;obtain ⟨h2,h3⟩ := ih (n / 128) oM (m / 128) a b h.2;exact ⟨oM,h3⟩
theorem cY : ∀ (k n : Nat),n < 128 ^ k -> 0 < k -> (vi n).length <= k
 | 0,_,_,h => absurd h oM
 | k + 1,n,h,_ => by
  by_cases hn : n < 128
  ·rw [Qo hn,aI];omega
  ·rw [ZY hn,aH]
   have hk : 0 < k := by
    cases k with
    | zero => rw [iT,Nat.pow_one] at h;omega
    | succ k => omega
   have := cY k (n / 128) (by rw [Nat.pow_succ] at h;omega) hk;omega
def prT (t : Tm) : L8 := vi t.k ++ (vi t.rnd ++ (vi t.key.length ++ (vi t.txt.length ++ (vi 0 ++ (t.key ++ t.txt)))))
theorem eP {t u : Tm} (h : prT t = prT u) : t = u := by
 obtain ⟨k,key,txt,rnd⟩ := t;obtain ⟨k',key',txt',rnd'⟩ := u;unfold prT at h;obtain ⟨h1,h⟩ := Kp _ _ _ _ h;obtain ⟨h2,h⟩ := Kp _ _ _ _ h;obtain ⟨h3,h⟩ := Kp _ _ _ _ h;obtain ⟨h4,h⟩ := Kp _ _ _ _ h;obtain ⟨_,h⟩ := Kp _ _ _ _ h;simp only at h1 h2 h3 h4 h;obtain ⟨h5,h6⟩ := List.append_inj h h3;rw [h1,h2,h5,h6]
def tix (t : Tm) : List Tm -> Nat -> Option Nat
 | [],_ => none
 | u :: l,i => if u = t then some i else tix t l (i + 1)
theorem tix_ge {t : Tm} : ∀ (l : List Tm) (i j : Nat),tix t l i = some j -> i <= j /\ j < i + l.length
 | [],_,_,h => by cases h
 | u :: l,i,j,h => by
  unfold tix at h
  split at h
  ·cases h;exact ⟨aR _,by rw [aH];omega⟩
  ·have := tix_ge l (i + 1) j h;rw [aH];omega
def mapT : List Tm -> Nat -> List (L8 × Value)
 | [],_ => []
 | t :: l,i => (prT t,.int .i64 ((i + 1 : Nat) : Int)) :: mapT l (i + 1)
theorem Wf (t : Tm) : ∀ (l : List Tm) (i : Nat),mget (mapT l i) (prT t) = (tix t l i).map fun j => Value.int .i64 ((j + 1 : Nat) : Int)
 | [],_ => rfl
 | u :: l,i => by
  simp only [mapT,mget,tix]
  by_cases h : u = t
  ·subst h;simp
  ·rw [if_neg h,if_neg (fun e => h (eP e).symm)];exact Wf t l (i + 1)
theorem Wd (t : Tm) : ∀ (l : List Tm) (i : Nat),tix t l i = none -> mput (mapT l i) (prT t) (.int .i64 ((i + l.length + 1 : Nat) : Int)) = mapT (l ++ [t]) i
 | [],_,_ => rfl
 | u :: l,i,h => by
  unfold tix at h
  by_cases e : u = t
  ·rw [if_pos e] at h;cases h
  ·rw [if_neg e] at h;have := Wd t l (i + 1) h;simp only [mapT,mput,aC];rw [if_neg (fun e' => e (eP e').symm),<- this,aH,show i + (l.length + 1) + 1 = i + 1 + l.length + 1 from oM]
def frontB : L8 := [241,84,82,77] ++ aU 24 0
def hdl (n : Nat) : L8 := frontB ++ be 4 n
theorem hdl_len (n : Nat) : (hdl n).length = 32 := by simp [hdl,frontB,qf]
def tagX (x : BX) (t : Tm) : L8 × BX := match tix t x.ts 0 with
 | some i => (hdl (i + 1),x)
 | none => (hdl (x.ts.length + 1),⟨x.sym,x.ts ++ [t]⟩)
def jo (x : BX) (m : L8) : L8 × BX := if x.sym = true then tagX x ⟨1,[],m,0⟩ else (xx m,x)
def macX (x : BX) (k m : L8) : L8 × BX := if x.sym = true then tagX x ⟨2,k,m,0⟩ else (mac k m,x)
def strX (x : BX) (p s : L8) (r : Nat) : L8 × BX := if x.sym = true then tagX x ⟨3,p,s,r⟩ else (kV p s r 32,x)
theorem Vm (x : BX) (t : Tm) : (tagX x t).1.length = 32 := by
 unfold tagX;split <;> exact hdl_len _
theorem Yi (x : BX) (t : Tm) : (tagX x t).2.ts.length <= x.ts.length + 1 /\ (tagX x t).2.sym = x.sym := by
 unfold tagX;split
 ·exact ⟨by show x.ts.length <= _;omega,rfl⟩
 ·exact ⟨sM,rfl⟩
theorem jT (x : BX) (m : L8) : (jo x m).2.ts.length <= x.ts.length + 1 /\ (jo x m).2.sym = x.sym := by
 unfold jo;split
 ·exact Yi _ _
 ·exact ⟨by show x.ts.length <= _;omega,rfl⟩
theorem yj (x : BX) (k m : L8) : (macX x k m).2.ts.length <= x.ts.length + 1 /\ (macX x k m).2.sym = x.sym := by
 unfold macX;split
 ·exact Yi _ _
 ·exact ⟨by show x.ts.length <= _;omega,rfl⟩
theorem Ja (x : BX) (p s : L8) (r : Nat) : (strX x p s r).2.ts.length <= x.ts.length + 1 /\ (strX x p s r).2.sym = x.sym := by
 unfold strX;split
 ·exact Yi _ _
 ·exact ⟨by show x.ts.length <= _;omega,rfl⟩
end Go.Proofs.YtebikhhoppiapaaGreatDoor
namespace Go.Ost
open Go Go.RowKit
variable {P : Program}
def Loose (C : zd) (a : OA) (n : Nat) : Prop := 0 < n -> ∃ b cs e lo hi,a = some ⟨b,0,none⟩ /\ C = [(b,.cells cs e (lo,hi))] /\ ∀ i,i < n -> ¬ (lo <= i /\ i < hi)
def Got8 (bs : L8) (R : zb) (v : Value) (A : zb) : Prop := ∃ C a cap,v = .slice a bs.length cap /\ bs.length <= cap /\ Rd 1 [C] a bs.length (bs.map b8) /\ Loose C a bs.length /\ A = C :: R
theorem vF {f : FuncId} {fn : Func} {args : LV} {A : zb} {R : Value -> zb -> Prop} (hf : P.funcs[f]? = some fn) (hb : fn.body.isSome = true) (hn : (fn.name != "runtime.NumGoroutine") = true)
  (h : ∀ w,Hold w A -> Calls P f args.toArray w fun e w' => ∃ v,e = .returned v /\ Below w.heap.size w w' /\ ∃ C : zd,(∀ k o,(k,o) ∈ C -> w.heap.size <= k /\ w'.heap[k]? = some o) /\ (C.map (·.1)).Nodup /\ R v (C :: A)) : zh P f args A R := by
 refine ⟨?_,fun F w hw => ?_⟩
 ·obtain ⟨c,hc⟩ := Option.isSome_iff_exists.1 hb
  simp [vH,hf,hc];simpa using hn
 ·have hA : Hold w A := hw.sub sM;refine (callsIn_wide.2 (h w hA)).mono ?_;rintro e w' ⟨v,rfl,hbe,C,hC,hnd,hR⟩;refine ⟨v,F :: C :: A,rfl,⟨hbe.os,hbe.tape,hbe.output,hbe.size⟩,?_,C :: A,rfl,hR⟩
  have hall : Hold w' (C :: F :: A) := by
   refine ⟨?_,fun k o hm => ?_⟩
   ·simp only [aO,lL];rw [List.nodup_append];refine ⟨hnd,by have := hw.nd;simpa only [aO,lL] using this,?_⟩;intro x hx y hy hxy;obtain ⟨⟨k,o⟩,hk,rfl⟩ := List.mem_map.1 hx;have h1 := (hC k o hk).1;have hy' : y ∈ ((F :: A).flatten.map (·.1)) := by simpa only [aO,lL] using hy
    obtain ⟨⟨k2,o2⟩,hk2,e2⟩ := List.mem_map.1 hy';have h2 := hw.lt hk2;simp only at e2 hxy;omega
   ·simp only [aO,List.mem_append] at hm
    rcases hm with hm | hm
    ·exact (hC k o hm).2
    ·have hm' : (k,o) ∈ (F :: A).flatten := by simpa only [aO,List.mem_append] using hm
     rw [hbe.block k (hw.lt hm')];exact hw.get k o hm'
  exact hall.perm (by
   simp only [aO];rw [<- aN,<- aN];exact List.Perm.append_right _ lH)
theorem JO {B : Nat} {w' : World} {v : Value} {l : L8} (h : Lib.FreshBytes B w' v l) :
  ∃ C a cap,v = .slice a l.length cap /\ l.length <= cap /\ (∀ k o,(k,o) ∈ C -> B <= k /\ w'.heap[k]? = some o) /\ (C.map (·.1)).Nodup /\ Rd 1 [C] a l.length (l.map b8) /\ Loose C a l.length := by
 obtain ⟨g,cap,zs,rfl,hg,hle,_,hz,hr,hb,hc,hf⟩ := h
 by_cases h0 : l.length = 0
 ·have : l = [] := List.length_eq_zero_iff.1 h0;subst this;exact ⟨[],_,cap,rfl,hle,fun k o hm => (by cases hm),sM,Rd.nil,fun h => absurd h sM⟩
 ·have hc0 := hc 0 oM;unfold World.cell? at hc0
  cases hob : w'.heap[g]? with
  | none => simp [hob] at hc0
  | some ob =>
   cases ob with
   | cells cs e m =>
    obtain ⟨lo,hi⟩ := m;refine ⟨[(g,.cells cs e (lo,hi))],_,cap,rfl,hle,fun k o hm => ?_,sM,⟨sM,fun _ => ⟨g,0,cs,e,(lo,hi),rfl,Lies.one,fun i hi' => ?_⟩⟩,fun _ => ⟨g,cs,e,lo,hi,rfl,rfl,fun i hi' => ?_⟩⟩
    ·simp only [mJ,Prod.mk.injEq] at hm;obtain ⟨rfl,rfl⟩ := hm;exact ⟨hg,hob⟩
    ·simp only [iA] at hi';have h1 := hc i oM;unfold World.cell? at h1;simp only [hob,Option.isSome_none,Bool.false_eq_true,if_false] at h1;rw [iT,h1]
     have h2 : l[i]? = some (aG (zs.getD i 0).toNat) := by
      rw [<- hb];simp only [Lib.bytesOf,lF,List.getElem?_take,if_pos hi'];rw [aE oM,mB,aE oM];rfl
     have h3 := hr (zs.getD i 0) (by
      rw [mB,aE oM];exact lT _)
     rw [lF,h2];simp only [lX,b8,iO]
     congr 2;omega
    ·have h1 := hf i oM;unfold World.frozen? at h1;simp only [hob] at h1;intro hlt
     simp [hlt.1,hlt.2] at h1
   | _ => simp [hob] at hc0
def Zg (A : zb) (a : OA) (n : Nat) (ls : List L8) : Prop :=
 ls.length = n /\ ∃ vs : LV,Rd 1 A a n vs /\ ∀ (i : Nat) (v : Value) (l : L8),vs[i]? = some v -> ls[i]? = some l -> ∃ p c,v = .slice p l.length c /\ l.length <= c /\ Rd 1 A p l.length (l.map b8)
theorem yX {S : zb} {a : OA} {len : Nat} {us : LV} (h : Rd 1 S a len us) {w : World} (hw : Hold w S) {i : Nat} {v : Value} (hi : us[i]? = some v) : ∃ b o,a = some ⟨b,o,none⟩ /\ w.cell? ⟨b,o + i,none⟩ = some v := by
 have hlt := (List.getElem?_eq_some_iff.1 hi).1;obtain ⟨b,o,cs,e,m,rfl,hl,hc⟩ := h.2 (by intro e;subst e;simp at hi);exact ⟨b,o,rfl,by rw [Xq (hl.get hw),hc i hlt,hi]⟩
theorem holds_of {S : zb} {p : OA} {c : Nat} {l : L8} (h : Rd 1 S p l.length (l.map b8)) {w : World} (hw : Hold w S) : Lib.HoldsBytes w (.slice p l.length c) l := by
 refine ⟨p,c,rfl,fun hp => ?_,fun a ha i x hx => ?_⟩
 ·subst hp
  cases l with
  | nil => rfl
  | cons x l => obtain ⟨_,_,_,_,_,h3,_⟩ := h.2 sM;cases h3
 ·obtain ⟨b,o,e,hc⟩ := yX h hw (i := i) (v := b8 x) (by simp [hx]);subst ha
  cases e
  rw [xZ];exact hc
theorem zh.perm {f : FuncId} {args : LV} {A B : zb} {R R' : Value -> zb -> Prop} (h : zh P f args A R) (hAB : B.flatten.Perm A.flatten) (hR : ∀ v A',R v A' -> ∃ B',A'.flatten.Perm B'.flatten /\ R' v B') : zh P f args B R' := by
 refine ⟨h.1,fun F w hw => (h.2 F w (hw.perm (by simp only [aO];exact hAB.append_left F))).mono ?_⟩;rintro e w' ⟨v,S,rfl,he,hh,A',rfl,hr⟩;obtain ⟨B',hp,hr'⟩ := hR v A' hr;exact ⟨v,F :: B',rfl,he,hh.perm (by simp only [aO];exact hp.append_left F),B',rfl,hr'⟩
end Go.Ost
namespace Go.Ost
open Go
variable {P : Program}
theorem rowX_8 {l : List W32} (h : l.length = 8) (v u : Value) : (rowX l [v,u])[8]? = some v /\ (rowX l [v,u])[9]? = some u := by
 simp only [rowX,iP]
 constructor
 ·rw [lD (by simp [h])];simp [h]
 ·rw [lD (by simp [h])];simp [h]
theorem Up {t e : TypeId} {S : zb} {κ : Value -> Prop} {b : Nat} {l : List W32} {v u : Value} {m : Nat × Nat} [hf : xM P t] (hl : Lies b (.cells (rowX l [v,u]) e m) S) (h : l.length = 8) (k : κ v) :
  xG P (Instr.loadAt t (.pointer (some ⟨b,8,none⟩))) S κ := xf hl (rowX_8 h v u).1 k
theorem Uo {t e : TypeId} {S : zb} {κ : Value -> Prop} {b : Nat} {l : List W32} {v u : Value} {m : Nat × Nat} [hf : xM P t] (hl : Lies b (.cells (rowX l [v,u]) e m) S) (h : l.length = 8) (k : κ u) :
  xG P (Instr.loadAt t (.pointer (some ⟨b,9,none⟩))) S κ := xf hl (rowX_8 h v u).2 k
theorem KH {l : List W32} (h : l.length = 8) (v u x : Value) : (rowX l [v,u]).setIfInBounds 8 x = rowX l [x,u] /\ (rowX l [v,u]).setIfInBounds 9 x = rowX l [v,x] := by
 simp only [rowX,List.setIfInBounds_toArray]
 constructor
 ·rw [List.set_append_right _ _ (by simp [h])];simp [h]
 ·rw [List.set_append_right _ _ (by simp [h])];simp [h]
theorem Ox {t e : TypeId} {z : Value} {by_ : Nat} {S S' : zb} {κ : zb -> Prop} {b : Nat} {l : List W32} {v u x : Value} [hs : zm P t z 1 by_] (hc : Value.cell1 x) (hu : Upd b (.cells (rowX l [v,u]) e (0,0)) (.cells (rowX l [x,u]) e (0,0)) S S')
  (h : l.length = 8) (k : κ S') : jI P (Instr.storeAt t (.pointer (some ⟨b,8,none⟩)) x) S κ :=
 xq (cs := rowX l [v,u]) hc (by rw [(KH h v u x).1];exact hu) (by rw [ky];simp;omega) k
theorem Ow {t e : TypeId} {z : Value} {by_ : Nat} {S S' : zb} {κ : zb -> Prop} {b : Nat} {l : List W32} {v u x : Value} [hs : zm P t z 1 by_] (hc : Value.cell1 x) (hu : Upd b (.cells (rowX l [v,u]) e (0,0)) (.cells (rowX l [v,x]) e (0,0)) S S')
  (h : l.length = 8) (k : κ S') : jI P (Instr.storeAt t (.pointer (some ⟨b,9,none⟩)) x) S κ :=
 xq (cs := rowX l [v,u]) hc (by rw [(KH h v u x).2];exact hu) (by rw [ky];simp;omega) k
end Go.Ost
namespace Go.Ost
open Go
variable {P : Program}
theorem load_rx {t e : TypeId} {z : Value} {s by_ : Nat} {S : zb} {κ : Value -> Prop} {b : Nat} {l : List W32} {r : LV} {m : Nat × Nat} [hf : jG P t] [hs : zm P t z s by_] (hl : Lies b (.cells (rowX l r) e m) S) (h : l.length = s) (k : κ (.agg (rowW l))) :
  xG P (Instr.loadAt t (pT b)) S κ := by
 refine yD hl (by rw [ky];omega) ?_
 have : (rowX l r).extract 0 (0 + s) = rowW l := by
  apply lS;simp [rowX,rowW,<- h,List.take_append_of_le_length,lE]
 rw [this];exact k
theorem load_ra {t e : TypeId} {z : Value} {s by_ : Nat} {S : zb} {κ : Value -> Prop} {b : Nat} {l : List W32} {r : LV} {m : Nat × Nat} [hf : jG P t] [hs : zm P t z s by_] (hl : Lies b (.cells (rowX l r) e m) S) (h : l.length + r.length = s) (k : κ (.agg (rowX l r))) :
  xG P (Instr.loadAt t (pT b)) S κ := by
 refine yD hl (by rw [ky];omega) ?_
 have : (rowX l r).extract 0 (0 + s) = rowX l r := by
  apply lS
  simp only [rowX,List.extract_toArray,List.extract_eq_take_drop,List.drop_zero];rw [lE (by simp;omega)]
 rw [this];exact k
theorem store_ra {t e : TypeId} {z : Value} {s by_ : Nat} {S S' : zb} {κ : zb -> Prop} {b : Nat} {l l' : List W32} {r r' : LV} [hs : zm P t z s by_] (hc : ∀ v ∈ r',Value.cell1 v) (hu : Upd b (.cells (rowX l r) e (0,0)) (.cells (rowX l' r') e (0,0)) S S')
  (h : l.length + r.length = s) (h' : l'.length + r'.length = s) (k : κ S') : jI P (Instr.storeAt t (pT b) (.agg (rowX l' r'))) S κ := by
 refine Zm (e := e) (cs := rowX l r) (S' := S') (by rw [ky];exact h') (fun v hv => ?_) ?_ (by rw [ky];omega) k
 ·simp only [rowX,List.mem_append,List.mem_map] at hv
  rcases hv with ⟨x,_,rfl⟩ | hv
  ·exact ZV x
  ·exact hc v hv
 ·have q := vK (l'.map b32 ++ r') [] (l.map b32 ++ r) [] (by simp;omega);simp only [aD,aL,aQ] at q;have e2 : jp (rowX l r) 0 (rowX l' r').toList = rowX l' r' := q;rw [e2];exact hu
def Wr (C : zd) (a : OA) (bs : L8) : Prop :=
 bs ≠ [] -> ∃ b o cs e lo hi,a = some ⟨b,o,none⟩ /\ C = [(b,.cells cs e (lo,hi))] /\ (∀ i,i < bs.length -> cs[o + i]? = some (b8 (bs.getD i 0))) /\ ∀ i,i < bs.length -> ¬ (lo <= o + i /\ o + i < hi)
theorem Wr.rd {C : zd} {a : OA} {bs : L8} (h : Wr C a bs) : Rd 1 [C] a bs.length (bs.map b8) := by
 refine ⟨sM,fun hne => ?_⟩;obtain ⟨b,o,cs,e,lo,hi,rfl,rfl,hc,_⟩ := h (by intro h0;subst h0;simp at hne)
 exact ⟨b,o,cs,e,(lo,hi),rfl,Lies.one,fun i hi => by
  simp only [iA] at hi;rw [hc i hi];simp [mB,hi]⟩
end Go.Ost
namespace Go.Sha
open Go Go.Ost
variable {P : Program} {n : Nat} {ro : Option Nat}
section steps
variable {ops : Array Oper} {K : Env -> zb -> Prop} {o : Oper} {l l' : List Oper} {L L' : Env} {S S' : zb}
theorem OE (k : runW P n ops K l' L' S') (h : Runs P n ops (o :: l) L S l' L' S' := by exact ⟨fun K0 hK0 => by ((with_reducible refine qt fun K hK => ?_);(try simp only [gos,gob,aJ,if_true,reduceIte,reduceCtorEq,iN,aP,iQ,iF,lJ,lK,iV,iW,iM,iX,iY,iZ,lA,lB,lC,aW,iI]);(try (simp (disch := omega) only [gow,gobw];try simp only [gos,gob,aJ,if_true,reduceIte,reduceCtorEq,iN,aP,iQ,iF,lJ,lK,iV,iW,iM,iX,iY,iZ,lA,lB,lC,aW,iI]));(first | (with_reducible refine hK _ _ ?_) | ((with_reducible apply fH);(· (repeat (first | with_reducible exact Lies.one | with_reducible exact Lies.here (by assumption) | with_reducible apply Lies.next)));(· (first | (rw [ld_len];omega) | (rw [aZ];omega) | (rw [St.list_len];omega) | (rw [jt];omega) | (rw [xO];omega) | (rw [xE _ _ _ oM];omega)));(with_reducible refine hK _ _ ?_)) | ((with_reducible apply Wi);(· (repeat (first | with_reducible exact Lies.one | with_reducible exact Lies.here (by assumption) | with_reducible apply Lies.next)));(· (first | (rw [ld_len];omega) | (rw [aZ];omega) | (rw [St.list_len];omega) | (rw [jt];omega) | (rw [xO];omega) | (rw [xE _ _ _ oM];omega)));(with_reducible refine hK _ _ ?_)) | ((with_reducible apply wW);(· (repeat (first | with_reducible exact Upd.one | with_reducible apply Upd.next)));(· (first | (rw [ld_len];omega) | (rw [aZ];omega) | (rw [St.list_len];omega) | (rw [jt];omega) | (rw [xO];omega) | (rw [xE _ _ _ oM];omega)));(with_reducible refine hK _ _ ?_)) | ((with_reducible apply Xb);(· (repeat (first | with_reducible exact Upd.one | with_reducible apply Upd.next)));(· (first | (rw [ld_len];omega) | (rw [aZ];omega) | (rw [St.list_len];omega) | (rw [jt];omega) | (rw [xO];omega) | (rw [xE _ _ _ oM];omega)));(with_reducible refine hK _ _ ?_)) | ((with_reducible apply ji);(· (repeat (first | with_reducible exact Lies.one | with_reducible apply Lies.next)));(with_reducible refine hK _ _ ?_)) | ((with_reducible apply xf);(· (repeat (first | with_reducible exact Lies.one | with_reducible apply Lies.next)));(· exact rfl);(with_reducible refine hK _ _ ?_)) | ((with_reducible apply xJ);(· exact trivial);(· (repeat (first | with_reducible exact Upd.one | with_reducible apply Upd.next)));(with_reducible refine hK _ _ ?_)));clear hK K);exact hK0⟩) : runW P n ops K (o :: l) L S := h.out K k
theorem OF (k : runW P n ops K l' L' S') (h : Runs P n ops (o :: l) L S l' L' S' := by exact ⟨fun K0 hK0 => by ((with_reducible refine qt fun K hK => ?_);(try simp only [gos,gob,aJ,if_true,reduceIte,reduceCtorEq,iN,aP,iQ,iF,lJ,lK,iV,iW,iM,iX,iY,iZ,lA,lB,lC,aW,iI]);(try (simp (disch := omega) only [gow,gobw];try simp only [gos,gob,aJ,if_true,reduceIte,reduceCtorEq,iN,aP,iQ,iF,lJ,lK,iV,iW,iM,iX,iY,iZ,lA,lB,lC,aW,iI]));(first | (with_reducible refine hK _ _ ?_) | ((with_reducible apply Up);(· (repeat (first | with_reducible exact Lies.one | with_reducible apply Lies.next)));(· (first | exact St.list_len _ | exact ld_len _ _ | exact xE _ _ _ oM | assumption));(with_reducible refine hK _ _ ?_)) | ((with_reducible apply Uo);(· (repeat (first | with_reducible exact Lies.one | with_reducible apply Lies.next)));(· (first | exact St.list_len _ | exact ld_len _ _ | exact xE _ _ _ oM | assumption));(with_reducible refine hK _ _ ?_)) | ((with_reducible apply Wi);(· (repeat (first | with_reducible exact Lies.one | with_reducible exact Lies.here (by assumption) | with_reducible apply Lies.next)));(· (first | (rw [ld_len];omega) | (rw [aZ];omega) | (rw [St.list_len];omega) | (rw [jt];omega) | (rw [xO];omega) | (rw [xE _ _ _ oM];omega)));(with_reducible refine hK _ _ ?_)) | ((with_reducible apply Ox);(· exact trivial);(· (repeat (first | with_reducible exact Upd.one | with_reducible apply Upd.next)));(· (first | exact St.list_len _ | exact ld_len _ _ | exact xE _ _ _ oM | assumption));(with_reducible refine hK _ _ ?_)) | ((with_reducible apply Ow);(· exact trivial);(· (repeat (first | with_reducible exact Upd.one | with_reducible apply Upd.next)));(· (first | exact St.list_len _ | exact ld_len _ _ | exact xE _ _ _ oM | assumption));(with_reducible refine hK _ _ ?_)) | ((with_reducible apply wW);(· (repeat (first | with_reducible exact Upd.one | with_reducible apply Upd.next)));(· (first | (rw [ld_len];omega) | (rw [aZ];omega) | (rw [St.list_len];omega) | (rw [jt];omega) | (rw [xO];omega) | (rw [xE _ _ _ oM];omega)));(with_reducible refine hK _ _ ?_)) | ((with_reducible apply ji);(· (repeat (first | with_reducible exact Lies.one | with_reducible apply Lies.next)));(with_reducible refine hK _ _ ?_)) | ((with_reducible apply xf);(· (repeat (first | with_reducible exact Lies.one | with_reducible apply Lies.next)));(· exact rfl);(with_reducible refine hK _ _ ?_)) | ((with_reducible apply xJ);(· exact trivial);(· (repeat (first | with_reducible exact Upd.one | with_reducible apply Upd.next)));(with_reducible refine hK _ _ ?_)) | ((with_reducible apply xq);(· exact trivial);(· (repeat (first | with_reducible exact Upd.one | with_reducible apply Upd.next)));(· simp);(with_reducible refine hK _ _ ?_)));clear hK K);exact hK0⟩) : runW P n ops K (o :: l) L S := h.out K k
theorem dO (k : runW P n ops K l' L' S') (h : Runs P n ops l L S l' L' S' := by exact ⟨fun K0 hK0 => by (repeat ((with_reducible refine qN ?_);refine OE ?_));exact hK0⟩) : runW P n ops K l L S := h.out K k
theorem Yz (k : runW P n ops K l' L' S') (h : Runs P n ops l L S l' L' S' := by exact ⟨fun K0 hK0 => by (repeat ((with_reducible refine qN ?_);refine OF ?_));exact hK0⟩) : runW P n ops K l L S := h.out K k
variable {p p' : List zW}
theorem gw {p0 : zW} (k : xD P n ops K p' L' S') (h : Km P n ops (p0 :: p) L S p' L' S' := by exact ⟨fun K0 hK0 => by refine qO fun K hK => ?_;(first | (with_reducible refine hK _ _ ?_) | ((with_reducible apply fH);(· (repeat (first | with_reducible exact Lies.one | with_reducible exact Lies.here (by assumption) | with_reducible apply Lies.next)));(· (first | (rw [ld_len];omega) | (rw [aZ];omega) | (rw [St.list_len];omega) | (rw [jt];omega) | (rw [xO];omega) | (rw [xE _ _ _ oM];omega)));(with_reducible refine hK _ _ ?_)) | ((with_reducible apply Wi);(· (repeat (first | with_reducible exact Lies.one | with_reducible exact Lies.here (by assumption) | with_reducible apply Lies.next)));(· (first | (rw [ld_len];omega) | (rw [aZ];omega) | (rw [St.list_len];omega) | (rw [jt];omega) | (rw [xO];omega) | (rw [xE _ _ _ oM];omega)));(with_reducible refine hK _ _ ?_)) | ((with_reducible apply wW);(· (repeat (first | with_reducible exact Upd.one | with_reducible apply Upd.next)));(· (first | (rw [ld_len];omega) | (rw [aZ];omega) | (rw [St.list_len];omega) | (rw [jt];omega) | (rw [xO];omega) | (rw [xE _ _ _ oM];omega)));(with_reducible refine hK _ _ ?_)) | ((with_reducible apply Xb);(· (repeat (first | with_reducible exact Upd.one | with_reducible apply Upd.next)));(· (first | (rw [ld_len];omega) | (rw [aZ];omega) | (rw [St.list_len];omega) | (rw [jt];omega) | (rw [xO];omega) | (rw [xE _ _ _ oM];omega)));(with_reducible refine hK _ _ ?_)) | ((with_reducible apply ji);(· (repeat (first | with_reducible exact Lies.one | with_reducible apply Lies.next)));(with_reducible refine hK _ _ ?_)) | ((with_reducible apply xf);(· (repeat (first | with_reducible exact Lies.one | with_reducible apply Lies.next)));(· exact rfl);(with_reducible refine hK _ _ ?_)) | ((with_reducible apply xJ);(· exact trivial);(· (repeat (first | with_reducible exact Upd.one | with_reducible apply Upd.next)));(with_reducible refine hK _ _ ?_)));clear hK K;exact hK0⟩) : xD P n ops K (p0 :: p) L S := h.out K k
theorem gx {p0 : zW} (k : xD P n ops K p' L' S') (h : Km P n ops (p0 :: p) L S p' L' S' := by exact ⟨fun K0 hK0 => by refine qO fun K hK => ?_;(first | (with_reducible refine hK _ _ ?_) | ((with_reducible apply Up);(· (repeat (first | with_reducible exact Lies.one | with_reducible apply Lies.next)));(· (first | exact St.list_len _ | exact ld_len _ _ | exact xE _ _ _ oM | assumption));(with_reducible refine hK _ _ ?_)) | ((with_reducible apply Uo);(· (repeat (first | with_reducible exact Lies.one | with_reducible apply Lies.next)));(· (first | exact St.list_len _ | exact ld_len _ _ | exact xE _ _ _ oM | assumption));(with_reducible refine hK _ _ ?_)) | ((with_reducible apply Wi);(· (repeat (first | with_reducible exact Lies.one | with_reducible exact Lies.here (by assumption) | with_reducible apply Lies.next)));(· (first | (rw [ld_len];omega) | (rw [aZ];omega) | (rw [St.list_len];omega) | (rw [jt];omega) | (rw [xO];omega) | (rw [xE _ _ _ oM];omega)));(with_reducible refine hK _ _ ?_)) | ((with_reducible apply Ox);(· exact trivial);(· (repeat (first | with_reducible exact Upd.one | with_reducible apply Upd.next)));(· (first | exact St.list_len _ | exact ld_len _ _ | exact xE _ _ _ oM | assumption));(with_reducible refine hK _ _ ?_)) | ((with_reducible apply Ow);(· exact trivial);(· (repeat (first | with_reducible exact Upd.one | with_reducible apply Upd.next)));(· (first | exact St.list_len _ | exact ld_len _ _ | exact xE _ _ _ oM | assumption));(with_reducible refine hK _ _ ?_)) | ((with_reducible apply wW);(· (repeat (first | with_reducible exact Upd.one | with_reducible apply Upd.next)));(· (first | (rw [ld_len];omega) | (rw [aZ];omega) | (rw [St.list_len];omega) | (rw [jt];omega) | (rw [xO];omega) | (rw [xE _ _ _ oM];omega)));(with_reducible refine hK _ _ ?_)) | ((with_reducible apply ji);(· (repeat (first | with_reducible exact Lies.one | with_reducible apply Lies.next)));(with_reducible refine hK _ _ ?_)) | ((with_reducible apply xf);(· (repeat (first | with_reducible exact Lies.one | with_reducible apply Lies.next)));(· exact rfl);(with_reducible refine hK _ _ ?_)) | ((with_reducible apply xJ);(· exact trivial);(· (repeat (first | with_reducible exact Upd.one | with_reducible apply Upd.next)));(with_reducible refine hK _ _ ?_)) | ((with_reducible apply xq);(· exact trivial);(· (repeat (first | with_reducible exact Upd.one | with_reducible apply Upd.next)));(· simp);(with_reducible refine hK _ _ ?_)));clear hK K;exact hK0⟩) : xD P n ops K (p0 :: p) L S := h.out K k
theorem xu (k : xD P n ops K p' L' S') (h : Km P n ops p L S p' L' S' := by exact ⟨fun K0 hK0 => by (repeat ((with_reducible refine kF ?_);refine gw ?_));exact hK0⟩) : xD P n ops K p L S := h.out K k
theorem yG (k : xD P n ops K p' L' S') (h : Km P n ops p L S p' L' S' := by exact ⟨fun K0 hK0 => by (repeat ((with_reducible refine kF ?_);refine gx ?_));exact hK0⟩) : xD P n ops K p L S := h.out K k
variable {K : Cont} {D : List Nat} {id : Nat}
theorem Vy (k : runW P n l.toArray (K .normal D) l' L' S') (h : Runs P n l.toArray l L S l' L' S' := by exact ⟨fun K0 hK0 => by (repeat ((with_reducible refine qN ?_);refine OE ?_));exact hK0⟩) : zB P n ro (.region id l.toArray false) K D L S := jU (h.out _ k)
theorem Xg (k : runW P n l.toArray (K .normal D) l' L' S') (h : Runs P n l.toArray l L S l' L' S' := by exact ⟨fun K0 hK0 => by (repeat ((with_reducible refine qN ?_);refine OF ?_));exact hK0⟩) : zB P n ro (.region id l.toArray false) K D L S := jU (h.out _ k)
theorem qV {a b : Prop} (k : b) (h : a := by (first | exact trivial | ((with_reducible apply fH);(· (repeat (first | with_reducible exact Lies.one | with_reducible exact Lies.here (by assumption) | with_reducible apply Lies.next)));(· (first | (rw [ld_len];omega) | (rw [aZ];omega) | (rw [St.list_len];omega) | (rw [jt];omega) | (rw [xO];omega) | (rw [xE _ _ _ oM];omega)));(· exact rfl)) | ((with_reducible apply Wi);(· (repeat (first | with_reducible exact Lies.one | with_reducible exact Lies.here (by assumption) | with_reducible apply Lies.next)));(· (first | (rw [ld_len];omega) | (rw [aZ];omega) | (rw [St.list_len];omega) | (rw [jt];omega) | (rw [xO];omega) | (rw [xE _ _ _ oM];omega)));(· exact rfl)) | ((with_reducible apply ji);(· (repeat (first | with_reducible exact Lies.one | with_reducible apply Lies.next)));(· exact rfl)) | ((with_reducible apply xf);(· (repeat (first | with_reducible exact Lies.one | with_reducible apply Lies.next)));(· exact rfl);(· exact rfl)))) : a /\ b := ⟨h,k⟩
theorem pendh {a b : Prop} (k : b) (h : a := by (first | ((with_reducible apply Up);(· (repeat (first | with_reducible exact Lies.one | with_reducible apply Lies.next)));(· (first | exact St.list_len _ | exact ld_len _ _ | exact xE _ _ _ oM | assumption));(· exact rfl)) | ((with_reducible apply Uo);(· (repeat (first | with_reducible exact Lies.one | with_reducible apply Lies.next)));(· (first | exact St.list_len _ | exact ld_len _ _ | exact xE _ _ _ oM | assumption));(· exact rfl)) | ((with_reducible apply ji);(· (repeat (first | with_reducible exact Lies.one | with_reducible apply Lies.next)));(· exact rfl)) | exact trivial)) : a /\ b := ⟨h,k⟩
end steps
end Go.Sha
namespace Go.Ost
open Go
theorem yr {P : Program} {n : Nat} {ro : Option Nat} {K : Cont} {D : List Nat} {L : Env} {S : zb} {c d : Code} {l : Nat} {K' : Cont} (Q : List Nat -> Env -> zb -> Prop) (h1 : zB P n ro c ((Cont.then (Mid Q) K).block l) D L S) (h2 : ∀ D L S,Q D L S -> zB P n ro d K' D L S) : zB P n ro c ((Cont.then (zB P n ro d K') K).block l) D L S :=
 JY h1 fun e D L S h => by
  have go : Mid Q D L S -> zB P n ro d K' D L S := fun ⟨L',S',hq,hL,hS⟩ => vR hL hS (h2 D L' S' hq)
  cases e with
  | exit l' =>
   by_cases hl : l' = l
   ·simp only [Cont.block,if_pos hl,Cont.then] at h ⊢;exact go h
   ·simp only [Cont.block,if_neg hl,Cont.then] at h ⊢;exact h
  | normal => exact go h
  | _ => exact h
variable {P : Program} {n : Nat} {ro : Option Nat}
structure RunC (P : Program) (n : Nat) (ro : Option Nat) (ops : Array Oper) (K : Cont) (D : List Nat) (l : List Oper) (L : Env) (S : zb) : Prop where
 out : ∀ a w,jR n L D a -> Hold w S -> wpListIn (FW ro) 0 P ops (KQ n K w) l a w
theorem runc_in {ops : Array Oper} {K : Cont} {D : List Nat} {l2 : List Oper} : ∀ (l : List Oper) (L : Env) (S : zb),runW P n ops (fun L S => RunC P n ro ops K D l2 L S) l L S ->
  ∀ (a : Act) (w : World),jR n L D a -> Hold w S -> wpListIn (FW ro) 0 P ops (KQ n K w) (l ++ l2) a w := by
 intro l
 induction l with
 | nil => intro L S h a w ha hw;exact h.out a w ha hw
 | cons o l ih =>
  intro L S h a w ha hw
  have mono : ∀ {w w' : World} {a : Act} {l : List Oper},Ext w w' -> wpListIn (FW ro) 0 P ops (KQ n K w') l a w' -> wpListIn (FW ro) 0 P ops (KQ n K w) l a w' := by
   intro w w' a l he h;have hq : ∀ e a v,KQ n K w' e a v -> KQ n K w e a v := fun _ _ _ h => h.ext he
   clear ih
   have gen : ∀ (l : List Oper) (a : Act) (v : World),wpListIn (FW ro) 0 P ops (KQ n K w') l a v -> wpListIn (FW ro) 0 P ops (KQ n K w) l a v := by
    intro l
    induction l with
    | nil => intro a v h;exact hq _ _ _ h
    | cons o l ih =>
     intro a v h;simp only [wpListIn] at h ⊢
     split at h
     ·rw [if_pos ‹_›];refine ⟨h.1,?_⟩;have h2 := h.2;generalize (o.semAt (FW ro).round a.eval).run P v = r at *
      cases r with
      | ok x v' =>
       cases x <;> simp only [Oper.uponIn] at h2 ⊢ <;>
        first
         | exact ih _ _ h2
         | exact ⟨h2.1,CallsIn.mono h2.2 (fun e w'' he => by cases e <;> first | exact ih _ _ he | exact hq _ _ _ he | exact (let ⟨a,w,q⟩ := he;⟨a,w,hq _ _ _ q⟩))⟩
         | exact ⟨h2.1,RowsIn.mono h2.2 (fun _ _ he => ih _ _ he)⟩
         | exact ⟨h2.1,RoundIn.mono h2.2 (fun e w'' he => by cases e <;> first | exact ih _ _ he | exact hq _ _ _ he | exact (let ⟨a,w,q⟩ := he;⟨a,w,hq _ _ _ q⟩))⟩
      | halt x v' => cases x <;> simp only [Oper.uponIn] at h2 ⊢ <;> exact hq _ _ _ h2
     ·rw [if_neg ‹_›];exact ⟨h.1,ih _ _ h.2⟩
   exact gen l a w' h
  simp only [runW] at h;simp only [aC,wpListIn]
  rcases Zd ha h with ⟨hw1,h⟩ | ⟨hw1,h⟩
  ·rw [if_pos hw1];exact Ua h ha hw fun v S' w' hk he hh => mono he (ih _ _ hk _ _ (ha.put _ _) hh)
  ·rw [if_neg (by simp [hw1])];exact ⟨fun _ _ => trivial,ih _ _ h _ _ (ha.put _ _) hw⟩
variable {K : Cont} {D : List Nat} {L L' : Env} {S S' : zb} {ops : Array Oper} {l l1 l2 : List Oper}
theorem dU (hL : ke L' L) (hS : zn S' S) (h : RunC P n ro ops K D l L' S') : RunC P n ro ops K D l L S :=
 ⟨fun a w ha hw => h.out a w (ha.less hL) (hS.hold hw)⟩
theorem OG (h : runW P n ops (K .normal D) l L S) : RunC P n ro ops K D l L S := ⟨run_in _ _ _ h⟩
theorem WL {id : Nat} (h : RunC P n ro l.toArray K D l L S) : zB P n ro (.region id l.toArray false) K D L S :=
 ⟨fun a w ha hw => wpIn_region_list (by simpa using h.out a w ha hw)⟩
def MidR (Q : Env -> zb -> Prop) (L : Env) (S : zb) : Prop := ∃ L' S',Q L' S' /\ ke L' L /\ zn S' S
theorem midr {Q : Env -> zb -> Prop} {L' : Env} {S' : zb} (h : Q L' S') (hL : ke L' L := by (repeat (first | exact True.intro | (refine aF ?_ ?_;(· (try simp only [evT,zj,zi,aJ]);(first | done | exact rfl)))))) (hS : zn S' S := by exact amA) : MidR Q L S := ⟨L',S',h,hL,hS⟩
theorem Je {KK KK' : Env -> zb -> Prop} (hk : ∀ L S,KK L S -> KK' L S) : ∀ (l : List Oper) (L : Env) (S : zb),runW P n ops KK l L S -> runW P n ops KK' l L S
 | [],L,S,h => hk L S h
 | o :: l,L,S,h => by
  have key : ∀ (A A' B B' : Prop),(A -> A') -> (B -> B') -> xA ops o L A B -> xA ops o L A' B' := by
   intro A A' B B' ha hb h;unfold xA at *
   cases hg : o.guard with
   | none => rw [hg] at h;exact ha h
   | some g =>
    rw [hg] at h;obtain ⟨j,want⟩ := g;simp only at h ⊢
    cases hd : (ops[j]?).bind (·.dst) with
    | none => rw [hd] at h;exact h.elim
    | some d =>
     rw [hd] at h;simp only at h ⊢
     cases hv : lookT L d with
     | none => rw [hv] at h;exact h.elim
     | some v =>
      rw [hv] at h
      cases v <;> first | exact h.elim | skip
      case bool b =>
       simp only [zy] at h ⊢
       split at h
       ·rw [if_pos ‹_›];exact ha h
       ·rw [if_neg ‹_›];exact hb h
      case tuple vs => exact hb h
  simp only [runW] at h ⊢;exact key _ _ _ _ (fun h => bc (fun v S' => Je hk l _ _) h) (fun h => Je hk l _ _ h) h
theorem Zq (Q : Env -> zb -> Prop) (h1 : runW P n ops (MidR Q) l1 L S) (h2 : ∀ L S,Q L S -> RunC P n ro ops K D l2 L S) : RunC P n ro ops K D (l1 ++ l2) L S :=
 ⟨runc_in l1 L S (Je (fun _ _ ⟨L',S',hq,hL,hS⟩ => dU hL hS (h2 L' S' hq)) l1 L S h1)⟩
theorem dQ {o0 o1 o2 : Oper} (Q : Env -> zb -> Prop) (h1 : runW P n ops (MidR Q) [o0,o1,o2] L S) (h2 : ∀ L S,Q L S -> RunC P n ro ops K D l2 L S) : RunC P n ro ops K D (o0 :: o1 :: o2 :: l2) L S := Zq (l1 := [o0,o1,o2]) Q h1 h2
theorem Jh {o0 o1 o2 o3 : Oper} (Q : Env -> zb -> Prop) (h1 : runW P n ops (MidR Q) [o0,o1,o2,o3] L S) (h2 : ∀ L S,Q L S -> RunC P n ro ops K D l2 L S) : RunC P n ro ops K D (o0 :: o1 :: o2 :: o3 :: l2) L S := Zq (l1 := [o0,o1,o2,o3]) Q h1 h2
theorem wY {o0 o1 o2 o3 o4 : Oper} (Q : Env -> zb -> Prop) (h1 : runW P n ops (MidR Q) [o0,o1,o2,o3,o4] L S) (h2 : ∀ L S,Q L S -> RunC P n ro ops K D l2 L S) : RunC P n ro ops K D (o0 :: o1 :: o2 :: o3 :: o4 :: l2) L S := Zq (l1 := [o0,o1,o2,o3,o4]) Q h1 h2
theorem Jg {o0 o1 o2 o3 o4 o5 : Oper} (Q : Env -> zb -> Prop) (h1 : runW P n ops (MidR Q) [o0,o1,o2,o3,o4,o5] L S) (h2 : ∀ L S,Q L S -> RunC P n ro ops K D l2 L S) : RunC P n ro ops K D (o0 :: o1 :: o2 :: o3 :: o4 :: o5 :: l2) L S := Zq (l1 := [o0,o1,o2,o3,o4,o5]) Q h1 h2
theorem dP {o0 o1 o2 o3 o4 o5 o6 : Oper} (Q : Env -> zb -> Prop) (h1 : runW P n ops (MidR Q) [o0,o1,o2,o3,o4,o5,o6] L S) (h2 : ∀ L S,Q L S -> RunC P n ro ops K D l2 L S) : RunC P n ro ops K D (o0 :: o1 :: o2 :: o3 :: o4 :: o5 :: o6 :: l2) L S := Zq (l1 := [o0,o1,o2,o3,o4,o5,o6]) Q h1 h2
end Go.Ost
namespace Go.Ost
open Go
variable {P : Program}
theorem XA {f : FuncId} {fn : Func} {e : Array Value -> Sem Value} {args : LV} {S : zb} {κ : Value -> zb -> Prop} (hf : P.funcs[f]? = some fn) (hname : (fn.name == "runtime.NumGoroutine") = false) (hb : fn.body.isNone = true)
  (hn : Extern.findNext fn = none) (he : Extern.find fn = some e) (h : ValW P (e args.toArray) S κ) : vf P f args.toArray S κ := by
 refine ⟨fun w hw => ?_⟩;obtain ⟨v,w',S',h1,h2,h3,h4⟩ := h.out w hw;refine ⟨.value v,w',?_,S',h2,h3,h4⟩;rw [run_callFunc_extern hf hname hb hn he,h1];rfl
theorem Ul {ps : Array TypeId} {t e : TypeId} [ht : xz P t e] {n : Nat} {S : zb} {κ : Value -> zb -> Prop} (hn : n <= 1000000)
  (k : ∀ b cap us C,Own 1 e C (some ⟨b,0,none⟩) n cap us -> κ (.slice (some ⟨b,0,none⟩) n cap) (C :: S)) : ValW P (Extern.BytealgMakeNoZero.makeNoZero ps #[t] #[.int .i64 n]) S κ := by
 refine ⟨fun w hw => ?_⟩;obtain ⟨cs,h1,h2,h3⟩ := Lib.run_makeNoZero (P := P) w ps t e ht.und n oM;refine ⟨_,_,[(w.heap.size,.cells cs e (0,0))] :: S,h1,⟨rfl,rfl,rfl,sM⟩,Hold.new (w := w) hw rfl,k _ _ (cs.toList.take n) [(w.heap.size,.cells cs e (0,0))] ⟨h2,h3 (by simp [maxLen];omega),by simp;omega,.inr ⟨_,0,cs,(0,0),rfl,rfl,.inl rfl,sM,fun i hi => ?_⟩⟩⟩;simp only [aX] at hi;rw [iT,lY oM,Array.getElem?_toList]
theorem XT {t t2 ty e : TypeId} {z : Value} {by_ : Nat} [ht : xz P t e] [hs : zm P e z 1 by_] {S G : zb} {κ : Value -> zb -> Prop} {C : zd} {a b : OA} {len cap l d dc n c : Nat} {us vs : LV}
  (ho : Own 1 e C a len cap us) (hp : Pick C S G) (hr : Rd 1 S b n vs) (h1 : ∀ v ∈ vs,Value.cell1 v) (hl : l + d <= len) {a' : OA} (ha : 0 < min n d -> a' = a.map (·.add l))
  (k : ∀ C',Own 1 e C' a len cap (us.take l ++ (vs.take (min n d) ++ us.drop (l + min n d))) -> κ (.int .i64 (min n d : Nat)) (C' :: G)) :
  ValW P (Builtin.copy_ #[t,t2] ty #[.slice a' d dc,.slice b n c]) S κ := by
 refine ⟨fun w hw => ?_⟩;have hCG := hw.perm hp.perm;have hful : us.length = len := by have := ho.2.2.1;omega
 have hvl : vs.length = n := by have := hr.1;omega
 have hcut : Rd 1 S b (min n d) (vs.take (min n d)) := by
  have := OQ hr (l := 0) (h' := min n d) (m := 0) (lW _) (Nat.min_le_left _ _);refine ⟨by simp;omega,fun hne => ?_⟩;obtain ⟨b',o,cs,e',m,h2,h3,h4⟩ := hr.2 (by intro e0;subst e0;simp at hne);refine ⟨b',o,cs,e',m,h2,h3,fun i hi => ?_⟩;simp only [aX] at hi;rw [lY oM,h4 i oM]
 have f := yB (P := P) (c := c) hcut hw
 have f' : (Builtin.firstCells 1 (min n d) (.slice b n c)).run P w = .ok (vs.take (min n d)).toArray w := by
  have e : Builtin.firstCells 1 (min n d) (.slice b n c) = Builtin.firstCells 1 (min n d) (.slice b (min n d) c) := by
   cases b <;> rfl
  rw [e];exact f
 by_cases h0 : min n d = 0
 ·refine ⟨.int .i64 (min n d : Nat),w,C :: G,?_,Ext.refl w,hCG,k C ?_⟩
  ·have f2 := f';rw [h0] at f2
   cases a' <;> simp [Builtin.copy_,Sem.run_bind,zL ht.und,zE hs,Result.andThen,Builtin.lenOf,h0,goInt,storeCells,f2,show n.min d = 0 from h0]
  ·rw [h0];simpa using ho
 ·obtain ⟨b0,o,cs,m,rfl,rfl,hsoft,hbig,hc⟩ := VI ho oM;obtain rfl := ha oM;obtain ⟨lo,hi'⟩ := m
  have hsz : o + us.length <= cs.size := by
   have := hc (us.length - 1) oM;rw [aE oM] at this;have := (Array.getElem?_eq_some_iff.1 this).1;omega
  obtain ⟨w',q1,q2,q3,q4⟩ := jk (P := P) (b := b0) (o := o + l) (vs.take (min n d)) 0 w cs (hCG.get b0 (.cells cs e (lo,hi')) sM) (fun u hu => h1 u (List.mem_of_mem_take hu)) (by simp;omega) hsoft.or;refine ⟨_,w',_,?_,q2,(Upd.one (S := G)).hold hCG q3 q4,k [(b0,.cells (jp cs (o + l + 0) (vs.take (min n d))) e (lo,hi'))] ⟨ho.1,ho.2.1,by simp;omega,.inr ⟨b0,o,_,(lo,hi'),rfl,rfl,by rw [xP];exact hsoft,by rw [xP];exact hbig,fun j hj => ?_⟩⟩⟩
  ·simp only [lX,xZ]
   simp [Builtin.copy_,Sem.run_bind,zL ht.und,zE hs,Result.andThen,Builtin.lenOf,goInt,f',q1,show n.min d = min n d from rfl]
  ·simp only [aB,aX,aV] at hj;rw [mT,kR _ _ _ _ (by simp;omega)];simp only [aX]
   by_cases h2 : o + l <= o + j /\ o + j < o + l + min (min n d) vs.length
   ·rw [if_pos h2,lD (by simp;omega),lP (by simp;omega)]
    congr 1;simp;omega
   ·rw [if_neg h2,hc j oM]
    by_cases h3 : j < l
    ·rw [lP (by simp;omega),lY h3]
    ·rw [lD (by simp;omega),lD (by simp;omega),List.getElem?_drop]
     congr 1;simp;omega
end Go.Ost
namespace Go.Ost
open Go Go.ChangeShapes Go.WideShapes Go.ChangeAt Go.RowKit
variable {P : Program}
def yK (w : World) : zd := (iC w.heap.size).map fun b => (b,(w.heap[b]?).getD (.deferred (some [])))
theorem WR {w : World} {b : Nat} {o : Obj} (h : w.heap[b]? = some o) : (b,o) ∈ yK w :=
 List.mem_map.2 ⟨b,List.mem_range.2 (Array.getElem?_eq_some_iff.1 h).1,by rw [h];rfl⟩
theorem cP {w : World} {b : Nat} {o : Obj} (h : (b,o) ∈ yK w) : w.heap[b]? = some o := by
 obtain ⟨c,hc,he⟩ := List.mem_map.1 h;have hlt := List.mem_range.1 hc
 cases he
 rw [mD hlt];rfl
theorem Uu (w : World) : Hold w [yK w] := by
 refine ⟨?_,fun b o hm => cP (by simpa using hm)⟩
 have e : (yK w).map (·.1) = iC w.heap.size := by
  unfold yK;rw [List.map_map];exact (List.map_congr_left fun a _ => rfl).trans (List.map_id _)
 simp only [aO,iS,aL,e];exact List.nodup_range
theorem fL {f : FuncId} {args : Array Value} (w : World) (h : ∀ C : zd,(∀ k o,w.heap[k]? = some o -> (k,o) ∈ C) -> zh P f args.toList [C] fun v A => v = .bool true /\ A = [C]) :
  Calls P f args w fun e w' => e = .returned (.bool true) /\ Below w.heap.size w w' := by
 have h1 := (h (yK w) fun k o => WR).out [] w (by simpa [List.flatten] using (Uu w).perm sM);refine callsIn_wide.1 (h1.mono ?_);rintro e w' ⟨v,S,rfl,he,hh,A,rfl,rfl,rfl⟩;refine ⟨rfl,he.os,he.tape,he.output,he.size,fun k hk => ?_⟩;rw [mD hk];exact hh.get _ _ (by simpa using WR (mD hk))
def rowed (P : Program) (ts : List TypeId) : Bool := ts.all fun t => P.readableRec t && decide (t < P.types.size)
theorem Zk {H : Type} {enc : TypeId × Value -> H} (hl : laidOutB P = true) {W W' : World} (hb : Below W.heap.size W W') {sp : Nat -> Bool} :
  ∀ {ts : List TypeId} {vs : LV} {ds : List (DataW H)} {ps : List MemPlace},rowed P ts = true -> (∀ p ∈ ps,p.block < W.heap.size /\ sp p.block = true) ->
   DataW.TrodAll enc P W 0 (fun _ => true) true ts vs ds ps -> DataW.TrodAll enc P W' 0 sp true ts vs ds ps
 | [],vs,ds,ps,_,_,h => by
  obtain ⟨rfl,rfl,rfl⟩ := trodAll_nil h;exact trodAll_mk0
 | t :: ts,vs,ds,ps,hr,hp,h => by
  obtain ⟨v,vs,d,ds,p,q,rfl,rfl,rfl,h1,h2⟩ := trodAll_cons h;simp only [rowed,mK,aM,decide_eq_true_eq] at hr
  exact trodAll_cons_mk (WideElems.Trod_stays hl hr.1.1 hr.1.2 h1 (fun x hx => hb.same (hp x (iG _ hx)).1) (fun x hx => (hp x (iG _ hx)).2))
   (Zk hl hb hr.2 (fun x hx => hp x (List.mem_append_right _ hx)) h2)
theorem cQ {W W' : World} (hb : Below W.heap.size W W') (may : MemPlace -> Prop) : W.keptBut W' may := by
 refine ⟨hb.os,hb.output,fun i hi => ?_⟩;rw [hb.block i hi]
 cases h : W.heap[i]? with
 | none => trivial
 | some o => cases o <;> first | exact ⟨rfl,rfl,rfl,fun _ _ => rfl⟩ | exact .inr ⟨rfl,rfl⟩ | rfl
theorem law_post {H : Type} {enc : TypeId × Value -> H} {f : Func} {s : ChangeSpec} {fresh handsOn zI : Bool} {W W' : World} {args : Array Value} {ds gs : List (DataW H)} {before : List MemPlace} {tb : TypeId}
  (hl : laidOutB P = true) (hr : rowed P f.params.toList = true) (hv : s.vars = []) (ht : f.resultTypes = #[tb]) (hu : P.underlying tb = some .bool)
  (hW : DataW.Whole enc P f.params.toList s.vars false W args.toList ds gs before) (hb : Below W.heap.size W W')
  (hs : gs = [] -> (s.fn H ds) = { results := [.lit (.bool true)],args := ds }) :
  s.post enc P f false fresh handsOn zI W args (.bool true) W' := by
 have hlt := hW.lt;have hW' := hW;obtain ⟨p,q,hA,hV,rfl,hz,hn⟩ := hW;rw [hv] at hV;obtain ⟨rfl,rfl⟩ := trodVars_none hV;have e := hs rfl;simp only [aL] at hlt hW' hz hn
 have hT : ∀ sp : Nat -> Bool,(∀ x ∈ p,sp x.block = true) -> DataW.TrodAll enc P W' 0 sp true f.params.toList args.toList ds p := fun sp h =>
  Zk hl hb hr (fun x hx => ⟨hlt x hx,h x hx⟩) hA
 have hR : ∀ (b : Nat) (sp : Nat -> Bool) (hd : Bool),DataW.TrodAll enc P W' b sp hd f.resultTypes.toList ((Value.bool true).resultList f.resultTypes.size) [.lit (.bool true)] [] := by
  intro b sp hd;rw [ht];exact trodAll_cons_mk (shut_bool hu _) trodAll_mk0
 have hvv : ∀ sp : Nat -> Bool,DataW.TrodVars enc P W' sp s.vars [] [] := by
  intro sp;rw [hv];rfl
 refine ⟨ds,[],p,[],p,[],hW',?_,?_,?_,World.keptBut_mono (fun x hx => ⟨hx,.inr (.inl hx)⟩) (cQ hb (· ∈ p)),fun _ => ⟨?_,?_⟩⟩
 ·simp only [aL,e];exact hR _ _ _
 ·simp only [aL,e];exact hT _ (fun x hx => by simpa using hlt x hx)
 ·simp only [aL,e];exact hvv _
 ·intro j t r h1 h2;rw [ht] at h1 h2;exact ok_one (f := f) ht rfl (okWide_bool_mk hu true) j t r (by rw [ht];exact h1) (by rw [ht];exact h2)
 ·refine ⟨_,_,([] ++ p) ++ [],⟨[] ++ p,[],trodAll_append (hT _ (fun _ _ => rfl)) (hR _ _ _),hvv _,rfl,?_,fun h => by cases h⟩,fun x hx _ => by simpa using hx⟩;intro b off hx;have hx : MemPlace.cell b off ∈ p := by simpa using hx
  have hz' := hz b off hx;unfold World.frozen? at hz' ⊢;rw [hb.block b (hlt _ hx)];exact hz'
end Go.Ost
namespace Go.Ost
open Go Go.ChangeShapes Go.WideShapes Go.ChangeAt Go.RowKit Go.Deep
variable {P : Program}
theorem QY {w : World} {a : Addr} {v : Value} (h : w.cell? a = some v) : ∃ b o cs e m,a = ⟨b,o,none⟩ /\ w.heap[b]? = some (.cells cs e m) := by
 unfold World.cell? at h
 split at h
 ·rename_i c t fr hb
  split at h
  ·cases h
  ·rename_i hs
   obtain ⟨b,o,sp⟩ := a
   cases sp with
   | none => exact ⟨b,o,c,t,fr,rfl,hb⟩
   | some s => simp at hs
 ·cases h
theorem OR {w : World} {a : Addr} {us : LV} {C : zd} (hC : ∀ k o,w.heap[k]? = some o -> (k,o) ∈ C) (h : ∀ i v,us[i]? = some v -> w.cell? (a.add i) = some v) : Rd 1 [C] (some a) us.length us := by
 refine ⟨sM,fun hne => ?_⟩;obtain ⟨u,us',rfl⟩ := List.exists_cons_of_ne_nil hne;have h0 := h 0 u rfl;obtain ⟨b,o',cs,e,m,he,hb⟩ := QY h0;obtain ⟨ba,o,sp⟩ := a
 cases sp with
 | some s =>
  exfalso
  have hx : (Addr.add ⟨ba,o,some s⟩ 0).spot.isSome = true := by simp [Addr.add]
  rw [he] at hx;cases hx
 | none =>
  rw [xZ] at he;obtain ⟨hb1,ho1⟩ : b = ba /\ o' = o := by cases he;exact ⟨rfl,rfl⟩
  subst hb1 ho1;refine ⟨_,_,cs,e,m,rfl,.here (hC _ _ hb),fun i hi => ?_⟩;have hu := h i _ (aE hi);rw [xZ,Xq hb] at hu;rw [hu,aE hi]
end Go.Ost
namespace Go.Ost
open Go Go.ChangeShapes Go.WideShapes Go.ChangeAt Go.RowKit Go.Deep
variable {P : Program}
inductive FK | int (k : IntKind) | str | bool | bytes
def lb (C : zd) : FK -> Value -> Prop
 | .int k,v => ∃ z,v = .int k z /\ (Lit.int k z).wf = true
 | .str,v => ∃ l : L8,v = .string (str l) /\ l.length <= maxLen
 | .bool,v => ∃ b,v = .bool b
 | .bytes,v => ∃ (a : OA) (c : Nat) (bs : L8),v = .slice a bs.length c /\ bs.length <= c /\ c <= maxLen /\ Rd 1 [C] a bs.length (bs.map b8)
def RowW (C : zd) : List FK -> LV -> Prop
 | [],[] => True
 | k :: ks,v :: vs => lb C k v /\ RowW C ks vs
 | _,_ => False
def RowsK (C : zd) (ks : List FK) (v : Value) (rows : List (LV)) : Prop :=
 ∃ a cap,v = .slice a rows.length cap /\ rows.length <= cap /\ cap <= maxLen /\ Rd ks.length [C] a rows.length rows.flatten /\ ∀ r ∈ rows,RowW C ks r
def fkB (P : Program) (t : TypeId) : FK -> Bool
 | .int k => match P.underlying t with | some (.int k') => k' == k && P.cellsOf t == 1 | _ => false
 | .str => match P.underlying t with | some .string => P.cellsOf t == 1 | _ => false
 | .bool => match P.underlying t with | some .bool => P.cellsOf t == 1 | _ => false
 | .bytes => match P.underlying t with | some (.slice e) => (match P.underlying e with | some (.int k) => k == .u8 && P.cellsOf e == 1 && P.cellsOf t == 1 | _ => false) | _ => false
def wI (P : Program) : Nat -> List Field -> List FK -> Bool
 | _,[],[] => true
 | i,f :: fs,k :: ks => f.offset == i && (fkB P f.type k && wI P (i + 1) fs ks)
 | _,_,_ => false
def rowB (P : Program) (e : TypeId) (ks : List FK) : Bool :=
 match P.underlying e with
 | some (.struct fs) => wI P 0 fs.toList ks && (P.cellsOf e == ks.length && decide (0 < ks.length))
 | _ => false
section
variable {H : Type} {enc : TypeId × Value -> H} {W : World} {C : zd}
theorem UQ {t e : TypeId} {fuel : Nat} {cs : LV} {x : DataW H × List MemPlace} (ht : P.underlying t = some (.slice e)) (he : P.underlying e = some (.int .u8)) (hc : P.cellsOf e = 1) (hC : ∀ k o,W.heap[k]? = some o -> (k,o) ∈ C)
  (h : DataW.trod enc P W 0 (fun _ => true) true fuel t cs = some x) : ∃ v,cs = [v] /\ lb C .bytes v := by
 rcases open_ints ht he hc h with ⟨hcs,_⟩ | ⟨a,len,cap,zs,hcs,_,hle,hmax,hall,hx,hcell,hwf⟩
 ·exact ⟨_,hcs,none,0,[],rfl,aR _,lW _,Rd.nil⟩
 ·simp only [if_true] at hall;have hl : ((zs.take len).map fun z => aG z.toNat).length = len := by simp;omega
  refine ⟨_,hcs,some a,cap,(zs.take len).map fun z => aG z.toNat,by rw [hl],by rw [hl];exact hle,hmax,?_⟩
  have q := OR (w := W) (a := a) (us := ((zs.take len).map fun z => aG z.toNat).map b8) hC (fun c v hv => by
   simp only [lF,List.getElem?_take] at hv
   by_cases hc : c < len
   ·rw [if_pos hc,aE oM] at hv;simp only [lX,Option.some.injEq] at hv;rw [hcell c oM,<- hv];have hw := hwf zs[c] (lT _);simp only [Lit.wf,aM,decide_eq_true_eq] at hw;have hw2 : 0 <= zs[c] /\ zs[c] <= 255 := ⟨hw.1,hw.2⟩;rw [mB,aE oM];simp only [iR,b8,iO]
    congr 2;omega
   ·rw [if_neg hc] at hv;simp at hv)
  rw [iA] at q;exact q
theorem eW {t : TypeId} {k : FK} {fuel : Nat} {cs : LV} {x : DataW H × List MemPlace} (hk : fkB P t k = true) (hC : ∀ k o,W.heap[k]? = some o -> (k,o) ∈ C) (h : DataW.trod enc P W 0 (fun _ => true) true fuel t cs = some x) :
  ∃ v,cs = [v] /\ lb C k v /\ P.cellsOf t = 1 := by
 cases k with
 | int k =>
  simp only [fkB] at hk
  split at hk
  ·rename_i k' hu
   simp only [aM,beq_iff_eq] at hk;obtain ⟨rfl,hc⟩ := hk;obtain ⟨n,rfl,_,hw⟩ := DataW.trod_int hu h;exact ⟨_,rfl,⟨n,rfl,hw⟩,hc⟩
  ·cases hk
 | str =>
  simp only [fkB] at hk
  split at hk
  ·rename_i hu
   simp only [beq_iff_eq] at hk;obtain ⟨s,rfl,_,hw⟩ := DataW.trod_string hu h;exact ⟨_,rfl,⟨s.data.toList,rfl,by simpa using hw⟩,hk⟩
  ·cases hk
 | bool =>
  simp only [fkB] at hk
  split at hk
  ·rename_i hu
   simp only [beq_iff_eq] at hk;obtain ⟨b,rfl,_⟩ := DataW.trod_bool hu h;exact ⟨_,rfl,⟨b,rfl⟩,hk⟩
  ·cases hk
 | bytes =>
  simp only [fkB] at hk
  split at hk
  ·rename_i e hu
   split at hk
   ·rename_i k' hu2
    simp only [aM,beq_iff_eq] at hk;obtain ⟨⟨rfl,h1⟩,h2⟩ := hk;obtain ⟨v,h3,h4⟩ := UQ hu hu2 h1 hC h;exact ⟨v,h3,h4,h2⟩
   ·cases hk
  ·cases hk
theorem QQ (hC : ∀ k o,W.heap[k]? = some o -> (k,o) ∈ C) {cs : LV} {n : Nat} : ∀ (fs : List Field) (ks : List FK) (i : Nat),wI P i fs ks = true -> cs.length = i + ks.length ->
  (∀ (j : Nat) (f : Field),fs[j]? = some f -> ∃ x,DataW.trod enc P W 0 (fun _ => true) true n f.type ((cs.drop f.offset).take (P.cellsOf f.type)) = some x) -> RowW C ks (cs.drop i)
 | [],[],i,_,hl,_ => by rw [List.drop_of_length_le (by simpa using Nat.le_of_eq hl)];trivial
 | [],_ :: _,_,h,_,_ => by cases h
 | _ :: _,[],_,h,_,_ => by cases h
 | f :: fs,k :: ks,i,h,hl,hf => by
  simp only [wI,aM,beq_iff_eq] at h;obtain ⟨ho,hk,hr⟩ := h;obtain ⟨x,hx⟩ := hf 0 f rfl;obtain ⟨v,h1,h2,h3⟩ := eW hk hC hx;rw [h3,ho] at h1;have hi : i < cs.length := by rw [hl];simp
  rw [iH hi] at h1 ⊢;simp only [List.take_succ_cons,List.take_zero,List.cons.injEq,and_true] at h1;rw [h1];exact ⟨h2,QQ hC fs ks (i + 1) hr (by rw [hl,aH];omega) fun j g hg => hf (j + 1) g hg⟩
theorem eU {base : Nat} {t e : TypeId} {ks : List FK} {v : Value} {d : DataW H} {ps : List MemPlace} (ht : P.underlying t = some (.slice e)) (hr : rowB P e ks = true) (hval : Value.okWide P W .any base t v)
  (h : DataW.Trod enc P W 0 (fun _ => true) true t v d ps) : ∃ rows,∀ C : zd,(∀ k o,W.heap[k]? = some o -> (k,o) ∈ C) -> RowsK C ks v rows := by
 obtain ⟨a0,len0,cap0,rfl⟩ := okWide_slice ht hval;obtain ⟨fuel,hf⟩ := h;unfold rowB at hr
 split at hr
 ·rename_i fs hu
  simp only [aM,beq_iff_eq,decide_eq_true_eq] at hr;obtain ⟨hfs,hce,hpos⟩ := hr
  rcases DataW.trod_slice ht hf with ⟨hcs,_⟩ | ⟨a,len,cap,elems,rest,n,_,hcs,_,_,hle,hmax,hlen,hel,_⟩
  ·simp [Value.cells] at hcs
   obtain ⟨rfl,rfl,rfl⟩ := hcs;exact ⟨[],fun C hC => ⟨none,0,rfl,aR _,lW _,⟨sM,sM⟩,sM⟩⟩
  ·simp [Value.cells] at hcs
   obtain ⟨rfl,rfl,rfl⟩ := hcs
   have key : ∀ i,i < len0 -> ∃ cs y,W.cells? 0 (a.add (i * ks.length)) ks.length = some cs /\ DataW.trod enc P W 0 (fun _ => true) true n e cs = some y := by
    intro i hi;have h1 := hel i hi;rw [hce,aE oM,Option.bind_eq_some_iff] at h1;obtain ⟨cs,h2,h3⟩ := h1;exact ⟨cs,_,h2,h3⟩
   let g : Nat -> LV := fun i => if i < len0 then (W.cells? 0 (a.add (i * ks.length)) ks.length).getD [] else aU ks.length undef
   have hg : ∀ i,i < len0 -> W.cells? 0 (a.add (i * ks.length)) ks.length = some (g i) := by
    intro i hi;obtain ⟨cs,_,h1,_⟩ := key i hi;simp only [g,if_pos hi,h1,iR]
   have hgl : ∀ i,(g i).length = ks.length := by
    intro i
    by_cases hi : i < len0
    ·exact (World.cells?_some (hg i hi)).2.1
    ·simp only [g,if_neg hi,aZ]
   refine ⟨(iC len0).map g,fun C hC => ⟨some a,cap0,sM,by simpa using hle,hmax,⟨?_,?_⟩,?_⟩⟩
   ·rw [<- List.flatMap_def,qY g ks.length hgl];simp
   ·intro hne;refine (OR (w := W) (a := a) (us := ((iC len0).map g).flatten) hC (fun i v hv => ?_)).2 hne;rw [<- List.flatMap_def] at hv;have hi := (List.getElem?_eq_some_iff.1 hv).1;rw [qY g ks.length hgl,List.length_range] at hi;have hq : i / ks.length < len0 := Nat.div_lt_of_lt_mul (by rw [Nat.mul_comm];exact hi);have hm : i % ks.length < ks.length := Nat.mod_lt _ hpos;have hdm : i / ks.length * ks.length + i % ks.length = i := by rw [Nat.mul_comm];exact Nat.div_add_mod i ks.length
    have h1 := IC g ks.length hgl (iC len0) (i / ks.length) (i % ks.length) (by simpa using hq) hm;rw [hdm,hv,List.getElem_range] at h1;have h2 := (World.cells?_some (hg _ hq)).2.2 _ hm;rw [gZ,hdm] at h2;rw [h2,h1]
   ·intro r hr;obtain ⟨i,hi,rfl⟩ := List.mem_map.1 hr;have hi := List.mem_range.1 hi;obtain ⟨cs,y,h1,h2⟩ := key i hi;have e1 : cs = g i := by have := hg i hi;rw [h1] at this;exact Option.some.inj this
    subst e1;obtain ⟨xs,m,rfl,_,_,hxl,hfld⟩ := DataW.trod_struct hu h2
    have := QQ (enc := enc) (P := P) hC (cs := g i) (n := m) fs.toList ks 0 hfs (by rw [hgl];omega) (fun j f hj => by
     have hj' : fs[j]? = some f := by simpa using hj
     have := hfld j f hj';have hjl : j < xs.length := by rw [hxl];exact (Array.getElem?_eq_some_iff.1 hj').1
     rw [aE hjl] at this;exact ⟨_,this⟩)
    simpa using this
 ·cases hr
end
end Go.Ost
namespace Go.Ost
open Go
variable {P : Program}
section bits
variable {t : TypeId} {x y : Operand} {a b n : Int} {j : IntKind} {κ : Value -> Prop}
theorem i32_and (a0 : 0 <= a) (a1 : a <= 2147483647) (b0 : 0 <= b) (b1 : b <= 2147483647) : zk P (do eqGuard .and t x y (.int .i32 a) (.int .i32 b);binOp .and t (.int .i32 a) (.int .i32 b)) κ = κ (.int .i32 ((a.toNat &&& b.toNat : Nat) : Int)) :=
 zq (fun w => by
  obtain ⟨m,rfl⟩ : ∃ m : Nat,a = m := ⟨a.toNat,oM⟩;obtain ⟨k,rfl⟩ : ∃ k : Nat,b = k := ⟨b.toNat,oM⟩;have hle : m &&& k <= m := Nat.and_le_left
  show Result.ok (Value.int .i32 (IntKind.i32.wrap ((iE 32 (m : Int) &&& iE 32 (k : Int)).toNat : Int))) w = _
  rw [BitVec.ofInt_natCast,BitVec.ofInt_natCast,BitVec.toNat_and,lU,lU,lV oM,lV oM,yw oM oM]
  rfl) κ
theorem i32_or (a0 : 0 <= a) (a1 : a <= 2147483647) (b0 : 0 <= b) (b1 : b <= 2147483647) : zk P (do eqGuard .or t x y (.int .i32 a) (.int .i32 b);binOp .or t (.int .i32 a) (.int .i32 b)) κ = κ (.int .i32 ((a.toNat ||| b.toNat : Nat) : Int)) :=
 zq (fun w => by
  obtain ⟨m,rfl⟩ : ∃ m : Nat,a = m := ⟨a.toNat,oM⟩;obtain ⟨k,rfl⟩ : ∃ k : Nat,b = k := ⟨b.toNat,oM⟩;have hle : m ||| k < 2 ^ 31 := Nat.or_lt_two_pow oM oM
  show Result.ok (Value.int .i32 (IntKind.i32.wrap ((iE 32 (m : Int) ||| iE 32 (k : Int)).toNat : Int))) w = _
  rw [BitVec.ofInt_natCast,BitVec.ofInt_natCast,BitVec.toNat_or,lU,lU,lV oM,lV oM,yw oM oM]
  rfl) κ
theorem i32_shl6 (a0 : 0 <= a) (a1 : a <= 33554431) : zk P (do eqGuard .shl t x y (.int .i32 a) (.int j 6);binOp .shl t (.int .i32 a) (.int j 6)) κ = κ (.int .i32 (a * 64)) :=
 zq (fun w => by
  have e : min (6 : Int).toNat IntKind.i32.bits = 6 := rfl
  show (Op.shift .shl .i32 a j 6).run P w = _
  rw [Op.shift,if_neg dM,e]
  show Result.ok (Value.int .i32 (IntKind.i32.wrap (a * 2 ^ 6))) w = _
  rw [show (2 : Int) ^ 6 = 64 from rfl,yw oM oM]) κ
theorem i32_shr (a0 : 0 <= a) (h0 : 0 <= n) (h1 : n <= 32) : zk P (do eqGuard .shr t x y (.int .i32 a) (.int j n);binOp .shr t (.int .i32 a) (.int j n)) κ = κ (.int .i32 ((a.toNat / 2 ^ n.toNat : Nat) : Int)) :=
 zq (fun w => by
  obtain ⟨m,rfl⟩ : ∃ m : Nat,a = m := ⟨a.toNat,oM⟩;have e : min n.toNat IntKind.i32.bits = n.toNat := by show min n.toNat 32 = n.toNat;omega
  have h3 : ¬ n < 0 := oM
  show (Op.shift .shr .i32 m j n).run P w = _
  rw [Op.shift,if_neg h3,e]
  show Result.ok (Value.int .i32 (Int.fdiv m (2 ^ n.toNat))) w = _
  rw [Int.fdiv_eq_ediv_of_nonneg _ (Int.le_of_lt (Int.pow_pos dM))]
  simp) κ
theorem dg (m : Nat) : Value.int .u8 (IntKind.u8.wrap (m : Int)) = b8 (aG m) := by rw [ko];rfl
theorem gH {s d : TypeId} [hs : TInt P s .u8] [hd : TInt P d .i32] {x : UInt8} {κ : Value -> Prop} : zk P (convert s d (b8 x)) κ = κ (.int .i32 x.toNat) := by
 have hx := x.toNat_lt
 show zk P (convert s d (.int .u8 (x.toNat : Int))) κ = _
 rw [qv,yw oM oM]
theorem UK {s d : TypeId} [hs : TInt P s .u8] [hd : TInt P d .i32] {x : UInt8} {S : zb} {κ : Value -> zb -> Prop} : vS P s d (b8 x) S κ = κ (.int .i32 x.toNat) S := by
 have hx := x.toNat_lt;exact UI (yw oM oM)
theorem dh {c : UInt8} {m : Nat} (h : c.toNat = m) (h1 : 128 <= m) (h2 : m <= 255) : zk P (do eqGuard .sub t x y (b8 c) (.int .u8 128);binOp .sub t (b8 c) (.int .u8 128)) κ = κ (.int .u8 ((m - 128 : Nat) : Int)) := by
 show zk P (do eqGuard .sub t x y (.int .u8 (c.toNat : Int)) (.int .u8 128);binOp .sub t (.int .u8 (c.toNat : Int)) (.int .u8 128)) κ = _
 rw [UT,WY oM oM,h]
 congr 2;omega
end bits
theorem arr_el {t e n s by_ : Nat} {z : Value} {cs : Array Value} {k : IntKind} {i : Int} {κ : Value -> Prop} [h : TArr P t n e] [hs : zm P e z s by_] [hd : jG P e] (h0 : 0 <= i) (h1 : i < n) :
  zk P (Instr.index t (.agg cs) (.int k i)) κ = κ (.agg (cs.extract (i.toNat * s) (i.toNat * s + s))) :=
 zq (fun w => by
  simp [Instr.index,asIntOf,Sem.run_bind,zL h.und,Result.andThen,zE hs,h0,h1,part,kW hd]) κ
theorem UZ {t e n s by_ : Nat} {z : Value} {b o : Nat} {κ : Value -> Prop} [h : TArr P t n e] [hs : zm P e z s by_] :
  zk P (Instr.sliceAt t (.pointer (some ⟨b,o,none⟩)) none none none) κ = κ (.slice (some ⟨b,o,none⟩) n n) :=
 zq (fun w => by
  simp only [Instr.sliceAt,Sem.run_bind,zL h.und,Result.andThen,Instr.sureAddr,Instr.sliceBounds,Sem.run_pure,zE hs]
  by_cases hn : n = 0 <;> simp [hn,xZ]) κ
theorem VB {C : zd} {b : Nat} {vs : LV} {t : TypeId} {m : Nat × Nat} {s len : Nat} (h : (b,Obj.cells vs.toArray t m) ∈ C) (hl : vs.length = len * s) : Rd s [C] (some ⟨b,0,none⟩) len vs :=
 ⟨hl,fun _ => ⟨b,0,vs.toArray,t,m,rfl,.here h,fun i hi => sM⟩⟩
theorem VP {b : Nat} {o : Obj} {C : zd} {S : zb} (h : (b,o) ∈ C) (hm : C ∈ S) : Lies b o S := Lies.sub (.here h) hm
def cT {α : Type} (L pre : List α) (x : α) : Prop := ∃ post,L = pre ++ x :: post
end Go.Ost
namespace Go.Ost
open Go
variable {P : Program}
class TUns (P : Program) (t : TypeId) : Prop where
 und : P.underlying t = some .unsafePointer
class TLies (P : Program) (u : TypeId) : Prop where
 lies : ∃ j,P.info? u = some j /\ j.size = 2 /\ liesAt P P.depth u (2 / P.cellsOf u) 0 u 1 = true
theorem Vq {w : World} {b : Nat} {cs : Array Value} {e : TypeId} {m : Nat × Nat} (h : w.heap[b]? = some (.cells cs e m)) : w.shape? b = some (e,cs.size) := by
 simp [World.shape?,h]
theorem dl {s d u : TypeId} {S : zb} {κ : Value -> zb -> Prop} {b : Nat} {v1 v2 : Value} {m : Nat × Nat} [hs : TPtr P s u] [hd : TUns P d] [hu : TLies P u] (hl : Lies b (.cells #[v1,v2] u m) S) (k : κ (pT b) S) :
  vS P s d (pT b) S κ := by
 obtain ⟨j,h1,h2,h3⟩ := hu.lies;exact ⟨fun w hw => ⟨_,w,S,Lib.run_to_unsafe w ⟨b,0,none⟩ hs.und hd.und h1 (by rw [h2];decide) (Vq (hl.get hw)) (dM : 0 < 2),Ext.refl w,hw,k⟩⟩
theorem UA {s d u : TypeId} {S : zb} {κ : Value -> zb -> Prop} {b : Nat} {v1 v2 : Value} {m : Nat × Nat} [hs : TUns P s] [hd : TPtr P d u] [hu : TLies P u] (hl : Lies b (.cells #[v1,v2] u m) S) (k : κ (pT b) S) :
  vS P s d (pT b) S κ := by
 obtain ⟨j,h1,h2,h3⟩ := hu.lies;exact ⟨fun w hw => ⟨_,w,S,Lib.run_from_unsafe w ⟨b,0,none⟩ hs.und hd.und h1 (Vq (hl.get hw)) h3,Ext.refl w,hw,k⟩⟩
theorem KU {t e : TypeId} {x y : Operand} {a : Addr} {κ : Value -> Prop} {z : Value} {s by_ : Nat} [h : TPtr P t e] [hs : zm P e z s by_] :
  zk P (do eqGuard .neq t x y (.pointer (some a)) (.pointer (some a));binOp .neq t (.pointer (some a)) (.pointer (some a))) κ = κ (.bool false) :=
 zq (fun w => by
  obtain ⟨j,hj,_⟩ := qi hs.info;have h1 := Lib.run_neq_ptr_same (P := P) w a h.und hj
  show (binOp .neq t (.pointer (some a)) (.pointer (some a))).run P w = _
  exact h1) κ
theorem bh {ats : Array TypeId} {ty : TypeId} {S : zb} {κ : Value -> zb -> Prop} {a : OA} {n c : Nat} (hc : c ≠ 0 ∨ a = none) (k : κ (.pointer a) S) : ValW P (Builtin.unsafeSliceData_ ats ty #[.slice a n c]) S κ :=
 ⟨fun w hw => by
  cases a with
  | none => exact ⟨_,w,S,Lib.run_unsafeSliceData_nil w ats ty n c,Ext.refl w,hw,k⟩
  | some a => exact ⟨_,w,S,Lib.run_unsafeSliceData_row w ats ty a n c (by rcases hc with h | h;exact h;cases h),Ext.refl w,hw,k⟩⟩
theorem Yc {pt it ty : TypeId} {S : zb} {κ : Value -> zb -> Prop} {p : OA} (k : κ (sT []) S) : ValW P (Builtin.unsafeString_ #[pt,it] ty #[.pointer p,.int .i64 0]) S κ :=
 ⟨fun w hw => ⟨_,w,S,Lib.run_unsafeString_none w pt it ty p,Ext.refl w,hw,k⟩⟩
theorem Qi {w : World} {pt it ty e : TypeId} (hp : P.underlying pt = some (.pointer e)) (hc : P.cellsOf e = 1) {g o cells : Nat} (hsh : w.shape? g = some (e,cells)) {l : L8} (h0 : l ≠ []) (hn : o + l.length <= cells) (h63 : l.length <= 9223372036854775807)
  (hcell : ∀ j x,l[j]? = some x -> w.cell? ((⟨g,o,none⟩ : Addr).add j) = some (.int .u8 x.toNat)) :
  (Builtin.unsafeString_ #[pt,it] ty #[.pointer (some ⟨g,o,none⟩),.int .i64 l.length]).run P w = .ok (sT l) (w.freeze ⟨g,o,none⟩ l.length) := by
 have hl : l.length ≠ 0 := by simpa using h0
 have hlb := Lib.run_loadBytes (P := P) w l ⟨g,o,none⟩ .empty hcell
 have hlies : liesAt P P.depth e (cells / P.cellsOf e) o e l.length = true := by
  have hd : P.depth = (2 * (P.types.size + Made.depth) + 1) + 1 := rfl;have hn2 : o + l.length <= cells / P.cellsOf e := by rw [hc,Nat.div_one];exact hn
  rw [hd];simp only [liesAt,mP]
  left
  rw [hd];have hn3 : o + l.length <= cells := hn
  simp [rowAt,hc,Nat.div_one,Nat.mod_one,hn3,sameLayout]
 have h63' : ¬ (9223372036854775807 : Int) < (l.length : Int) := oM
 have hdef : Builtin.unsafeString_ #[pt,it] ty #[.pointer (some ⟨g,o,none⟩),.int .i64 l.length] =
   (do
    let n <- asInt (.int .i64 l.length)
    if n < 0 then runtimePanic (.error "unsafe.String: len out of range")
    if n > IntKind.i64.max then unsupported (.unsafePointer "String: a length above the largest int")
    if n = 0 then pure (.string .empty)
    else if <- variablesAt ⟨g,o,none⟩ (<- elemOf pt) n.toNat then do
     let s <- loadBytes ⟨g,o,none⟩ .empty n.toNat
     freeze ⟨g,o,none⟩ n.toNat
     pure (.string s)
    else unsupported (.unsafePointer "String: not so many bytes at ptr")) := rfl
 rw [hdef];have hmax : IntKind.i64.max = 9223372036854775807 := rfl;have hneg : ¬ (l.length : Int) < 0 := oM
 simp [asInt,asIntOf,hmax,h63',hneg,hl,variablesAt,hsh,elemOf,run_underlying hp,hlies,hlb,str]
theorem IS {pt it ty e : TypeId} {z : Value} {by_ : Nat} {S G : zb} {κ : Value -> zb -> Prop} {C : zd} {a : OA} {cap : Nat} {l : L8} [hp : TPtr P pt e] [he : zm P e z 1 by_]
  (ho : Own 1 e C a l.length cap (l.map b8)) (hpk : Pick C S G) (h0 : l ≠ []) (h63 : l.length <= 9223372036854775807) (k : κ (sT l) G) : ValW P (Builtin.unsafeString_ #[pt,it] ty #[.pointer a,.int .i64 l.length]) S κ := by
 have hpos : 0 < l.length := List.length_pos_iff.2 h0;obtain ⟨b,o,cs,m,rfl,rfl,hsoft,hsz,hc⟩ := VI ho (by rw [iA];exact hpos);obtain ⟨hle,_,_,_⟩ := ho;obtain ⟨j,hj,_,hj2,_⟩ := qi he.info;have hce : P.cellsOf e = 1 := by simp [Program.cellsOf,hj,hj2]
 refine ⟨fun w hw => ?_⟩;have hw2 := hw.perm hpk.perm;have hb : w.heap[b]? = some (.cells cs e m) := hw2.get b _ sM;obtain ⟨sz,hsz2⟩ : ∃ n,cs.size = n := ⟨_,rfl⟩
 have hcell : ∀ j x,l[j]? = some x -> w.cell? ((⟨b,o,none⟩ : Addr).add j) = some (.int .u8 x.toNat) := fun j x hx => by
  rw [xZ,Xq hb,hc j (by rw [iA];exact (List.getElem?_eq_some_iff.1 hx).1),lF,hx];rfl
 refine ⟨sT l,w.freeze ⟨b,o,none⟩ l.length,G,?_,?_,?_,k⟩
 ·exact Qi hp.und hce (Vq hb) h0 oM h63 hcell
 ·unfold World.freeze
  split
  ·exact Ext.refl w
  ·exact ⟨rfl,rfl,rfl,sM⟩
 ·refine (Hold.sub (S := [(b,.cells cs e m)] :: G) (T := G) hw2 sM) |> fun hG => ⟨hG.nd,fun c p hm => ?_⟩
  have hne : c ≠ b := by
   intro hcb;subst hcb;have nd := hw2.nd;simp only [aO,lL,iB,mV,aC,aD,List.nodup_cons] at nd;exact nd.1 (List.mem_map.2 ⟨(c,p),hm,rfl⟩)
  unfold World.freeze
  split
  ·exact hG.get c p hm
  ·show (w.heap.modify b _)[c]? = some p
   rw [Array.getElem?_modify,if_neg (Ne.symm hne)];exact hG.get c p hm
theorem app_str {t t2 ty e : TypeId} [ht : xz P t e] [ht2 : TStr P t2] [hs : zm P e (.int .u8 0) 1 1] {S G : zb} {κ : Value -> zb -> Prop} {C : zd}
  {a : OA} {len cap : Nat} {bs xs : L8} (ho : Own 1 e C a len cap (bs.map b8)) (hC : C = [] /\ G = S ∨ Pick C S G) (hm : len + xs.length <= 1000000)
  (k : ∀ C' a' cap',Own 1 e C' a' (len + xs.length) cap' ((bs ++ xs).map b8) -> κ (.slice a' (len + xs.length) cap') (C' :: G)) : ValW P (Builtin.append_ #[t,t2] ty #[.slice a len cap,sT xs]) S κ := by
 have k : ∀ C' a' cap',Own 1 e C' a' (len + xs.length) cap' (bs.map b8 ++ xs.map b8) -> κ (.slice a' (len + xs.length) cap') (C' :: G) := fun C' a' cap' h => k C' a' cap' (by rw [lL];exact h)
 have hlv : (xs.map b8).length = xs.length * 1 := sM;have h1 := WN xs
 have f2 : ∀ (w : World),(Builtin.firstCells 1 xs.length (sT xs)).run P w = .ok (xs.map b8).toArray w := fun w => by
  show Result.ok (((str xs).extract 0 xs.length).data.map fun b => Value.int .u8 b.toNat) w = _
  rw [Vo,iK,List.drop_zero]
  congr 1
  apply lS
  simp [str,b8]
 have hsz0 : (str xs).size = xs.length := rfl;have hz : (Value.int .u8 0).cells.size = 1 := rfl;have h0 : 0 < 1 := Nat.one_pos;obtain ⟨us,hus⟩ : ∃ us,bs.map b8 = us := ⟨_,rfl⟩;rw [hus] at ho k;obtain ⟨vs,hvs⟩ : ∃ vs,xs.map b8 = vs := ⟨_,rfl⟩;rw [hvs] at k hlv h1;have f2 : ∀ (w : World),(Builtin.firstCells 1 xs.length (sT xs)).run P w = .ok vs.toArray w := fun w => by rw [f2 w,hvs]
 obtain ⟨n,hn0⟩ : ∃ n,xs.length = n := ⟨_,rfl⟩;rw [hn0] at hm k hlv f2 hsz0;have hm0 : len + n <= maxLen := by simp only [maxLen];omega
 have hb : (len + n) * 1 <= 140737488355328 := oM;refine ⟨fun w hw => ?_⟩
 have hCG : Hold w (C :: G) := by
  rcases hC with ⟨rfl,rfl⟩ | hp
  ·exact hw.perm sM
  ·exact hw.perm hp.perm
 have hrd : Rd 1 (C :: G) a len us := ho.rd (aA ..);have f1 := fun (w : World) hw => yB (P := P) (s := 1) (c := cap) hrd (w := w) hw
 obtain ⟨i,hi,hz1,hsz,hby⟩ := qi hs.info;obtain ⟨hle,hmax,hlen,hcase⟩ := ho
 by_cases hroom : len + n <= cap
 ·rcases hcase with ⟨rfl,rfl⟩ | ⟨b',o,cs,m,rfl,rfl,hsoft,hbig,hcs⟩
  ·obtain rfl : len = 0 := oM;obtain rfl : n = 0 := oM;obtain rfl : us = [] := List.length_eq_zero_iff.1 (by simpa using hlen);obtain rfl : vs = [] := List.length_eq_zero_iff.1 (by simpa using hlv);refine ⟨.slice a 0 0,w,_,?_,Ext.refl w,hCG,k [] a 0 ⟨aR _,lW _,sM,.inl ⟨rfl,rfl⟩⟩⟩
   cases a <;> simp [Builtin.append_,Sem.run_bind,zL ht.und,zL ht2.und,zE hs,Result.andThen,Builtin.lenOf,f2 w,hsz0,storeCells]
  ·have hg : w.heap[b']? = some (.cells cs e m) := hCG.get _ _ sM
   obtain ⟨w',q1,q2,q3,q4⟩ := jk (P := P) (b := b') (o := o + len * 1) vs 0 w cs hg h1 (by
    have : (len + n) * 1 <= cap * 1 := lM 1 hroom;rw [lO] at this;omega) hsoft.or
   rw [Nat.mul_one] at q1;refine ⟨.slice (some ⟨b',o,none⟩) (len + n) cap,w',_,?_,q2,(Upd.one (S := G)).hold hCG q3 q4,k _ _ cap ⟨hroom,hmax,?_,.inr ⟨b',o,_,m,rfl,rfl,by rw [xP];exact hsoft,?_,?_⟩⟩⟩
   ·simp [Builtin.append_,Sem.run_bind,zL ht.und,zL ht2.und,zE hs,Result.andThen,Builtin.lenOf,f2 w,hsz0,hroom,xZ,q1]
   ·rw [aB,hlen,hlv,lO]
   ·rw [xP];exact hbig
   ·intro j hj;rw [aB] at hj;have hmul : (len + n) * 1 <= cap * 1 := lM 1 hroom;rw [lO] at hmul;rw [kR _ _ _ _ oM]
    by_cases hlt : j < us.length
    ·rw [if_neg oM,hcs j hlt,lP hlt]
    ·rw [if_pos oM,lD oM]
     congr 1;omega
 ·have hge := grownCap_ge w (len + n) cap e;have hcm := grownCap_le_maxLen w (len + n) cap e hm0;have hn : ¬ (len + n <= cap) := hroom;have h63' : ¬ (9223372036854775807 < ((len : Int) + (n : Int))) := by simp only [maxLen] at hm0;omega
  have h48' : ¬ (281474976710656 < Builtin.nextslicecap (len + n) cap * i.bytes) := by
   rw [hby];have := growslice_fits (by omega : cap < len + n) hb;omega
  have f1' := f1 w.drew ⟨hCG.nd,hCG.get⟩;have f2' := f2 w.drew;obtain ⟨cells,hcells⟩ : ∃ cells : Array Value,cells = us.toArray ++ vs.toArray ++ Builtin.zeroCells (Value.int .u8 0).cells (grownCap w (len + n) cap e - (len + n)) := ⟨_,rfl⟩;refine ⟨.slice (some ⟨w.heap.size,0,none⟩) (len + n) (grownCap w (len + n) cap e),w.drew.alloc (.cells cells e),[(w.heap.size,.cells cells e (0,0))] :: G,?_,⟨rfl,rfl,rfl,sM⟩,?_,k _ _ _ ⟨hge,hcm,?_,.inr ⟨_,0,cells,(0,0),rfl,rfl,.inl rfl,?_,?_⟩⟩⟩
  ·rw [hcells]
   simp [Builtin.append_,Sem.run_bind,zL ht.und,zL ht2.und,zE hs,xe hs,Result.andThen,typeInfo,program,Sem.run,hi,hn,h63',h48',Question.forced,Builtin.lenOf,f1',f2',hsz0,newRow,newObj,grownCap,choose]
   generalize Builtin.zeroCells _ _ = X;rw [show us.toArray ++ (vs.toArray ++ X) = (us ++ vs).toArray ++ X from by apply lS;simp]
   rfl
  ·refine Hold.new (w := w) (o := .cells cells e (0,0)) ?_ rfl;exact hCG.sub sM
  ·rw [aB,hlen,hlv,lO]
  ·rw [hcells];simp only [Array.size_append,List.size_toArray,size_zeroCells,hz,hlen,hlv,<- lO];rw [iT];exact lM 1 oM
  ·intro j hj;rw [hcells,iT,Array.getElem?_append_left (by simpa using hj)]
   simp
end Go.Ost
namespace Go.Ost
open Go
def Vals (B : zd) (vs : LV) (ls : List L8) : Prop := vs.length = ls.length /\ ∀ (i : Nat) (v : Value) (l : L8),vs[i]? = some v -> ls[i]? = some l -> ∃ p c,v = .slice p l.length c /\ l.length <= c /\ Rd 1 [B] p l.length (l.map b8)
theorem Vals.wide {B D : zd} {vs : LV} {ls : List L8} (h : Vals B vs ls) (hm : ∀ x ∈ B,x ∈ D) : Vals D vs ls :=
 ⟨h.1,fun i v l hv hl => let ⟨p,c,h1,h2,h3⟩ := h.2 i v l hv hl;⟨p,c,h1,h2,h3.wide hm⟩⟩
theorem Vals.snoc {B : zd} {vs : LV} {ls : List L8} (h : Vals B vs ls) {p : OA} {c : Nat} {l : L8} (hc : l.length <= c) (hr : Rd 1 [B] p l.length (l.map b8)) : Vals B (vs ++ [.slice p l.length c]) (ls ++ [l]) := by
 refine ⟨by simp [h.1],fun i v l' hv hl => ?_⟩;have hl1 := h.1
 by_cases hi : i < vs.length
 ·rw [lP hi] at hv;rw [lP oM] at hl;exact h.2 i v l' hv hl
 ·rw [lD oM] at hv hl;rw [hl1] at hv;generalize i - ls.length = j at hv hl
  match j,hv,hl with
  | 0,hv,hl => cases hv;cases hl;exact ⟨p,c,rfl,hc,hr⟩
  | j + 1,hv,hl => simp at hv
theorem vals_nil {B : zd} : Vals B [] [] := ⟨rfl,fun i v l hv => by simp at hv⟩
theorem XM {e : TypeId} {D B : zd} {a : OA} {n cap : Nat} {vs : LV} {ls : List L8} (ho : Own 1 e D a n cap vs) (hv : Vals B vs ls) : Zg [D ++ B] a n ls := by
 have h1 := hv.1;have h2 : vs.length = n := by have := ho.2.2.1;omega
 exact ⟨oM,vs,(ho.rd (S := [D]) sM).wide (fun x hx => by simp [hx]),fun i v l h3 h4 => let ⟨p,c,e1,e2,e3⟩ := hv.2 i v l h3 h4;⟨p,c,e1,e2,e3.wide (fun x hx => by simp [hx])⟩⟩
theorem Rd.wide1 {H : zd} {a : OA} {n : Nat} {us : LV} (D : zd) (h : Rd 1 [H] a n us) : Rd 1 [H ++ D] a n us := h.wide (fun x hx => by simp [hx])
theorem Rd.wide2 {H : zd} {a : OA} {n : Nat} {us : LV} (D : zd) (h : Rd 1 [H] a n us) : Rd 1 [D ++ H] a n us := h.wide (fun x hx => by simp [hx])
end Go.Ost
namespace Go.Sha
theorem four (bs : L8) (l : Nat) (h : l + 4 <= bs.length) : (bs.drop l).take 4 = [bs.getD l 0,bs.getD (l + 1) 0,bs.getD (l + 2) 0,bs.getD (l + 3) 0] := by
 apply List.ext_getElem?
 intro i;rw [List.getElem?_take]
 match i with
 | 0 => simp [mB,aE (oM : l < bs.length)]
 | 1 => simp [mB,aE (oM : l + 1 < bs.length)]
 | 2 => simp [mB,aE (oM : l + 2 < bs.length)]
 | 3 => simp [mB,aE (oM : l + 3 < bs.length)]
 | i + 4 => rw [if_neg oM];simp
theorem Zx (T : L8) : (T.drop (64 * (T.length / 64))).length = T.length % 64 := by rw [aV];omega
theorem Qn (x y : L8) (hx : x.length % 64 = 0) (s : St) : Go.Sha.whole s (x ++ y) = Go.Sha.whole (Go.Sha.whole s x) y := by
 have key : ∀ (k : Nat) (s : St) (x y : L8),x.length = 64 * k -> ∀ j,run (k + j) s (x ++ y) = run j (run k s x) y := by
  intro k
  induction k with
  | zero =>
   intro s x y hx j;have h0 : x = [] := List.length_eq_zero_iff.1 (by simpa using hx);subst h0;simp [run]
  | succ k ih =>
   intro s x y hx j;rw [show k + 1 + j = (k + j) + 1 from oM]
   show run (k + j) (Go.Sha.step odd s ((x ++ y).take 64)) ((x ++ y).drop 64) = run j (run k (Go.Sha.step odd s (x.take 64)) (x.drop 64)) y
   rw [List.take_append_of_le_length oM,List.drop_append_of_le_length oM];exact ih _ _ _ (by rw [aV];omega) j
 have h1 : (x ++ y).length / 64 = x.length / 64 + y.length / 64 := by rw [aB];omega
 unfold Go.Sha.whole;rw [h1];exact key (x.length / 64) s x y oM _
theorem Oe (x y : L8) (s : St) : Go.Sha.whole s (x ++ y) = Go.Sha.whole (Go.Sha.whole s x) (x.drop (64 * (x.length / 64)) ++ y) := by
 have e : x = x.take (64 * (x.length / 64)) ++ x.drop (64 * (x.length / 64)) := (lR _ _).symm;have hl : (x.take (64 * (x.length / 64))).length = 64 * (x.length / 64) := by rw [aX];omega
 have hw : Go.Sha.whole s x = Go.Sha.whole s (x.take (64 * (x.length / 64))) := by
  have h2 : Go.Sha.whole s (x.take (64 * (x.length / 64)) ++ x.drop (64 * (x.length / 64))) = Go.Sha.whole (Go.Sha.whole s (x.take (64 * (x.length / 64)))) (x.drop (64 * (x.length / 64))) := Qn _ _ (by rw [hl];omega) s;rw [<- e] at h2;rw [h2];unfold Go.Sha.whole;rw [Zx,show x.length % 64 / 64 = 0 from oM];rfl
 rw [hw]
 conv => lhs;rw [e,aN]
 exact Qn _ _ (by rw [hl];omega) s
theorem rest_on (x y : L8) : (x.drop (64 * (x.length / 64)) ++ y).drop (64 * ((x.drop (64 * (x.length / 64)) ++ y).length / 64)) = (x ++ y).drop (64 * ((x ++ y).length / 64)) := by
 have e : x.drop (64 * (x.length / 64)) ++ y = (x ++ y).drop (64 * (x.length / 64)) := (List.drop_append_of_le_length oM).symm;rw [e,mQ]
 congr 1
 rw [aV,aB];omega
end Go.Sha
namespace Go.Ost
open Go
variable {P : Program}
theorem zn.perm {T S : zb} (h : zn T S) : ∃ R : zb,S.flatten.Perm (T ++ R).flatten := by
 induction h with
 | nil S => exact ⟨S,List.Perm.refl _⟩
 | cons h k ih =>
  obtain ⟨R,hR⟩ := ih;refine ⟨R,h.perm.trans ?_⟩;simp only [aO,aC];exact List.Perm.append_left _ hR
theorem VH (c : zd) : ∀ (X A : zb),Pick c (X ++ c :: A) (X ++ A)
 | [],A => .head c A
 | d :: X,A => .tail d (VH c X A)
theorem Kt : ∀ (A X : zb),Take A (X ++ A) X
 | [],X => by rw [aL];exact .nil X
 | c :: A,X => .cons (VH c X A) (Kt A X)
theorem Vd : ∀ (A X : zb),zn A (X ++ A)
 | [],X => .nil _
 | c :: A,X => .cons (VH c X A) (Vd A X)
theorem zh.conv {f : FuncId} {args : LV} {A B : zb} {R R' : Value -> zb -> Prop} (SA : zb) {E : zb} (h : zh P f args A R) (hB : B.flatten = SA.flatten) (hT : Take A SA E)
  (hR : ∀ v A',R v A' -> ∃ (B' SB : zb),B'.flatten = SB.flatten /\ zn SB (A' ++ E) /\ R' v B') : zh P f args B R' := by
 refine ⟨h.1,fun F w hw => (h.2 (F ++ E.flatten) w (hw.perm ?_)).mono ?_⟩
 ·simp only [aO,aN];refine List.Perm.append_left F ?_;rw [hB];refine hT.perm.trans ?_;rw [iL];exact lH
 ·rintro e w' ⟨v,S,rfl,he,hh,A',rfl,hr⟩;obtain ⟨B',SB,e1,hA,hr'⟩ := hR v A' hr;refine ⟨v,F :: B',rfl,he,?_,B',rfl,hr'⟩;obtain ⟨X,hX⟩ := hA.perm
  have hh2 : Hold w' (F :: (A' ++ E)) := hh.perm (by
   simp only [aO,iL,aN];exact List.Perm.append_left F lH)
  have hh3 : Hold w' (F :: (SB ++ X)) := hh2.perm (by
   simp only [aO];exact List.Perm.append_left F hX)
  refine hh3.sub ?_;simp only [aO,iL,e1];exact (List.Sublist.refl F).append (List.sublist_append_left _ _)
end Go.Ost
namespace Go.Nam
def sgn (r : Int) : Bool := decide (0 <= r) && decide (r <= 1114111) && (decide (r < 55296) || decide (57343 < r))
def vw (c : UInt8) : Bool := decide (128 <= c.toNat) && decide (c.toNat <= 191)
def qh : Nat -> Nat -> L8 -> Option Nat
 | 0,r,_ => some r
 | _ + 1,_,[] => none
 | k + 1,r,c :: l => if vw c then qh k (r * 64 + (c.toNat - 128)) l else none
def qI (c : Nat) : Nat := if c < 128 then 1 else if 194 <= c /\ c <= 223 then 2 else if 224 <= c /\ c <= 239 then 3 else if 240 <= c /\ c <= 244 then 4 else 0
def fval (c : Nat) : Nat := if c < 128 then c else if c <= 223 then c - 192 else if c <= 239 then c - 224 else c - 240
def okR (n r : Nat) : Bool := !(decide (n = 3) && decide (r < 2048) || decide (n = 4) && decide (r < 65536) || decide (55296 <= r) && decide (r <= 57343) || decide (1114111 < r))
def dec : L8 -> Int × Nat
 | [] => (-1,1)
 | c :: l => if qI c.toNat = 0 then (-1,1) else
  match qh (qI c.toNat - 1) (fval c.toNat) l with
  | none => (-1,1)
  | some r => if okR (qI c.toNat) r then ((r : Int),qI c.toNat) else (-1,1)
theorem ww : ∀ (k r : Nat) (l : L8) (q : Nat),qh k r l = some q -> r * 64 ^ k <= q /\ q < (r + 1) * 64 ^ k
 | 0,r,l,q,h => by simp only [qh,Option.some.injEq] at h;omega
 | k + 1,r,[],q,h => by cases h
 | k + 1,r,c :: l,q,h => by
  simp only [qh] at h
  split at h
  ·rename_i hc
   simp only [vw,aM,decide_eq_true_eq] at hc;have ih := ww k _ l q h;have e : (64 : Nat) ^ (k + 1) = 64 * 64 ^ k := by rw [Nat.pow_succ,Nat.mul_comm]
   generalize (64 : Nat) ^ k = w at *;rw [e];have h1 : r * (64 * w) = (r * 64) * w := by rw [Nat.mul_assoc]
   have h2 : (r + 1) * (64 * w) = ((r + 1) * 64) * w := by rw [Nat.mul_assoc]
   rw [h1,h2]
   constructor
   ·exact mN (lM w oM) ih.1
   ·exact Nat.lt_of_lt_of_le ih.2 (lM w oM)
  ·cases h
theorem XZ : ∀ (k r : Nat) (l : L8) (q : Nat),qh k r l = some q -> k <= l.length
 | 0,r,l,q,h => lW _
 | k + 1,r,[],q,h => by cases h
 | k + 1,r,c :: l,q,h => by
  simp only [qh] at h
  split at h
  ·have := XZ k _ l q h;simp only [aH];omega
  ·cases h
theorem XY : ∀ (k r : Nat) (l : L8),l.length < k -> qh k r l = none := fun k r l h => by
 cases hq : qh k r l with
 | none => rfl
 | some q => have := XZ k r l q hq;omega
theorem JW (s : L8) : 1 <= (dec s).2 := by
 unfold dec
 split
 ·exact aR _
 ·split
  ·exact aR _
  ·split
   ·exact aR _
   ·split
    ·simp only;omega
    ·exact aR _
theorem dec_len (c : UInt8) (l : L8) : (dec (c :: l)).2 <= l.length + 1 := by
 simp only [dec]
 split
 ·simp
 ·split
  ·simp
  ·rename_i r hr
   split
   ·have := XZ _ _ _ _ hr;simp only;omega
   ·simp
theorem dec_rng (s : L8) : -1 <= (dec s).1 /\ (dec s).1 <= 1114111 := by
 unfold dec
 split
 ·decide
 ·split
  ·decide
  ·split
   ·decide
   ·split
    ·rename_i h
     simp only [okR,mI,Bool.or_eq_false_iff,decide_eq_false_iff_not] at h;simp only;omega
    ·decide
def lo (i : Nat) : Nat := match i with | 0 => 0 | 1 => 192 | 2 => 224 | _ => 240
def hi (i : Nat) : Nat := match i with | 0 => 127 | 1 => 223 | 2 => 239 | _ => 247
def mk (i : Nat) : UInt8 := match i with | 0 => 128 | 1 => 224 | 2 => 240 | _ => 248
def ld (i : Nat) : UInt8 := match i with | 0 => 0 | 1 => 192 | 2 => 224 | _ => 240
def ls (i : Nat) : Int := match i with | 0 => 0 | 1 => 128 | 2 => 2048 | _ => 65536
def inr (i : Nat) (c : UInt8) : Bool := decide (lo i <= c.toNat) && decide (c.toNat <= hi i)
theorem all8 (p : UInt8 -> Bool) (h : (iC 256).all (fun n => p (aG n)) = true) (c : UInt8) : p c = true := by
 have := List.all_eq_true.1 h c.toNat (by have := c.toNat_lt;simp;exact this)
 rwa [UInt8.ofNat_toNat] at this
theorem cq (i : Nat) (h : i < 4) (c : UInt8) : (c &&& mk i != ld i) = !inr i c := by
 match i,h with
 | 0,_ => exact eq_of_beq (all8 (fun c => (c &&& mk 0 != ld 0) == !inr 0 c) (by decide +kernel) c)
 | 1,_ => exact eq_of_beq (all8 (fun c => (c &&& mk 1 != ld 1) == !inr 1 c) (by decide +kernel) c)
 | 2,_ => exact eq_of_beq (all8 (fun c => (c &&& mk 2 != ld 2) == !inr 2 c) (by decide +kernel) c)
 | 3,_ => exact eq_of_beq (all8 (fun c => (c &&& mk 3 != ld 3) == !inr 3 c) (by decide +kernel) c)
 | i + 4,h => omega
theorem form_val (i : Nat) (h : i < 4) (c : UInt8) (hc : inr i c = true) : (c &&& ~~~(mk i)).toNat = c.toNat - lo i := by
 match i,h with
 | 0,_ => have := all8 (fun c => !inr 0 c || (c &&& ~~~(mk 0)).toNat == c.toNat - lo 0) (by decide +kernel) c;rw [hc] at this;simpa using this
 | 1,_ => have := all8 (fun c => !inr 1 c || (c &&& ~~~(mk 1)).toNat == c.toNat - lo 1) (by decide +kernel) c;rw [hc] at this;simpa using this
 | 2,_ => have := all8 (fun c => !inr 2 c || (c &&& ~~~(mk 2)).toNat == c.toNat - lo 2) (by decide +kernel) c;rw [hc] at this;simpa using this
 | 3,_ => have := all8 (fun c => !inr 3 c || (c &&& ~~~(mk 3)).toNat == c.toNat - lo 3) (by decide +kernel) c;rw [hc] at this;simpa using this
 | i + 4,h => omega
theorem tail_val (c : UInt8) (hc : vw c = true) : (c &&& 63).toNat = c.toNat - 128 := by
 have := all8 (fun c => !vw c || (c &&& 63).toNat == c.toNat - 128) (by decide +kernel) c;rw [hc] at this;simpa using this
theorem wF (i : Nat) (h : i < 4) (c : UInt8) (l : L8) (hc : inr i c = true) :
  dec (c :: l) = match qh i (c.toNat - lo i) l with | none => (-1,1) | some r => if decide (ls i <= (r : Int)) && sgn r then ((r : Int),i + 1) else (-1,1) := by
 simp only [inr,aM,decide_eq_true_eq] at hc
 match i,h with
 | 0,_ =>
  simp only [lo,hi,lW,true_and,iI] at hc ⊢;have e1 : qI c.toNat = 1 := by unfold qI;rw [if_pos oM]
  have e2 : fval c.toNat = c.toNat := by unfold fval;rw [if_pos oM]
  have e3 : okR 1 c.toNat = true := by simp [okR];omega
  have e4 : (decide (ls 0 <= (c.toNat : Int)) && sgn c.toNat) = true := by simp [ls,sgn];omega
  simp only [dec,e1,e2];rw [if_neg oM];rw [show (1 - 1 : Nat) = 0 from rfl];simp only [qh,e3,e4,if_true]
 | 1,_ =>
  simp only [lo,hi] at hc ⊢
  by_cases h2 : 194 <= c.toNat
  ·have e1 : qI c.toNat = 2 := by unfold qI;rw [if_neg oM,if_pos oM]
   have e2 : fval c.toNat = c.toNat - 192 := by unfold fval;rw [if_neg oM,if_pos oM]
   simp only [dec,e1,e2];rw [if_neg oM]
   cases hr : qh (2 - 1) (c.toNat - 192) l with
   | none => rfl
   | some r =>
    have hb := ww _ _ _ _ hr;simp only [iF,Nat.pow_one] at hb;simp only;rw [if_pos (by simp [okR];omega),if_pos (by simp [ls,sgn];omega)]
  ·have e1 : qI c.toNat = 0 := by unfold qI;rw [if_neg oM,if_neg oM,if_neg oM,if_neg oM]
   simp only [dec,e1,if_true]
   cases hr : qh 1 (c.toNat - 192) l with
   | none => rfl
   | some r =>
    have hb := ww _ _ _ _ hr;simp only [Nat.pow_one] at hb;simp only;rw [if_neg (by simp [ls];omega)]
 | 2,_ =>
  simp only [lo,hi] at hc ⊢;have e1 : qI c.toNat = 3 := by unfold qI;rw [if_neg oM,if_neg oM,if_pos oM]
  have e2 : fval c.toNat = c.toNat - 224 := by unfold fval;rw [if_neg oM,if_neg oM,if_pos oM]
  simp only [dec,e1,e2];rw [if_neg oM]
  cases hr : qh (3 - 1) (c.toNat - 224) l with
  | none => rfl
  | some r =>
   have hb := ww _ _ _ _ hr;simp only [iF,Nat.reducePow] at hb;simp only
   have e3 : okR 3 r = (decide (ls 2 <= (r : Int)) && sgn r) := by
    rw [Bool.eq_iff_iff]
    simp [okR,ls,sgn];omega
   rw [e3]
 | 3,_ =>
  simp only [lo,hi] at hc ⊢
  by_cases h2 : c.toNat <= 244
  ·have e1 : qI c.toNat = 4 := by unfold qI;rw [if_neg oM,if_neg oM,if_neg oM,if_pos oM]
   have e2 : fval c.toNat = c.toNat - 240 := by unfold fval;rw [if_neg oM,if_neg oM,if_neg oM]
   simp only [dec,e1,e2];rw [if_neg oM]
   cases hr : qh (4 - 1) (c.toNat - 240) l with
   | none => rfl
   | some r =>
    have hb := ww _ _ _ _ hr;simp only [iF,Nat.reducePow] at hb;simp only
    have e3 : okR 4 r = (decide (ls 3 <= (r : Int)) && sgn r) := by
     rw [Bool.eq_iff_iff]
     simp [okR,ls,sgn];omega
    rw [e3]
  ·have e1 : qI c.toNat = 0 := by unfold qI;rw [if_neg oM,if_neg oM,if_neg oM,if_neg oM]
   simp only [dec,e1,if_true]
   cases hr : qh 3 (c.toNat - 240) l with
   | none => rfl
   | some r =>
    have hb := ww _ _ _ _ hr;simp only [Nat.reducePow] at hb;simp only;rw [if_neg (by simp [ls,sgn];omega)]
 | i + 4,h => omega
theorem ge (c : UInt8) (l : L8) (h : ∀ i,i < 4 -> inr i c = true -> l.length < i) : dec (c :: l) = (-1,1) := by
 have key : ∀ i,i < 4 -> inr i c = true -> dec (c :: l) = (-1,1) := fun i hi hc => by
  rw [wF i hi c l hc,XY _ _ _ (h i hi hc)]
 by_cases h0 : inr 0 c = true
 ·exact key 0 oM h0
 by_cases h1 : inr 1 c = true
 ·exact key 1 oM h1
 by_cases h2 : inr 2 c = true
 ·exact key 2 oM h2
 by_cases h3 : inr 3 c = true
 ·exact key 3 oM h3
 have e1 : qI c.toNat = 0 := by
  simp [inr,lo,hi] at h0 h1 h2 h3
  have := c.toNat_lt;unfold qI;rw [if_neg oM,if_neg oM,if_neg oM,if_neg oM]
 simp only [dec,e1,if_true]
def enc (r : Int) : L8 :=
 if sgn r = false then [239,191,189]
 else if r < 128 then [aG r.toNat]
 else if r < 2048 then [aG (192 + r.toNat / 64),aG (128 + r.toNat % 64)]
 else if r < 65536 then [aG (224 + r.toNat / 4096),aG (128 + r.toNat / 64 % 64),aG (128 + r.toNat % 64)]
 else [aG (240 + r.toNat / 262144),aG (128 + r.toNat / 4096 % 64),aG (128 + r.toNat / 64 % 64),aG (128 + r.toNat % 64)]
theorem Ka (r : Int) : 1 <= (enc r).length /\ (enc r).length <= 4 := by
 unfold enc
 split
 ·constructor <;> simp only [aH,aQ] <;> omega
 ·split
  ·constructor <;> simp only [aH,aQ] <;> omega
  ·split
   ·constructor <;> simp only [aH,aQ] <;> omega
   ·split
    ·constructor <;> simp only [aH,aQ] <;> omega
    ·constructor <;> simp only [aH,aQ] <;> omega
theorem IV (n r k : Nat) (l : L8) (h : n < 64) : qh (k + 1) r (aG (128 + n) :: l) = qh k (r * 64 + n) l := by
 have e : (aG (128 + n)).toNat = 128 + n := by rw [iO];omega
 simp only [qh,vw,e];rw [if_pos (by simp;omega),show 128 + n - 128 = n from oM]
theorem dec_enc {r : Int} (h : sgn r = true) (l : L8) : dec (enc r ++ l) = (r,(enc r).length) := by
 have h' := h;simp only [sgn,aM,mP,decide_eq_true_eq] at h';obtain ⟨n,rfl⟩ : ∃ n : Nat,r = n := ⟨r.toNat,oM⟩;unfold enc;rw [if_neg (by rw [h];simp)];simp only [aW]
 by_cases h1 : (n : Int) < 128
 ·rw [if_pos h1];have e : (aG n).toNat = n := by rw [iO];omega
  rw [aC,aD,wF 0 oM _ l (by simp [inr,lo,hi,e];omega),e];simp only [qh,lo,iI];rw [if_pos (by rw [h];simp [ls])]
  rfl
 ·rw [if_neg h1]
  by_cases h2 : (n : Int) < 2048
  ·rw [if_pos h2];have e : (aG (192 + n / 64)).toNat = 192 + n / 64 := by rw [iO];omega
   rw [aC,aC,aD,wF 1 oM _ _ (by simp [inr,lo,hi,e];omega),e,IV _ _ _ _ oM];simp only [qh,lo];rw [show (192 + n / 64 - 192) * 64 + n % 64 = n from oM,if_pos (by rw [h];simp [ls];omega)]
   rfl
  ·rw [if_neg h2]
   by_cases h3 : (n : Int) < 65536
   ·rw [if_pos h3];have e : (aG (224 + n / 4096)).toNat = 224 + n / 4096 := by rw [iO];omega
    rw [aC,aC,aC,aD,wF 2 oM _ _ (by simp [inr,lo,hi,e];omega),e,IV _ _ _ _ oM,IV _ _ _ _ oM];simp only [qh,lo];rw [show ((224 + n / 4096 - 224) * 64 + n / 64 % 64) * 64 + n % 64 = n from oM,if_pos (by rw [h];simp [ls];omega)]
    rfl
   ·rw [if_neg h3];have e : (aG (240 + n / 262144)).toNat = 240 + n / 262144 := by rw [iO];omega
    rw [aC,aC,aC,aC,aD,wF 3 oM _ _ (by simp [inr,lo,hi,e];omega),e,IV _ _ _ _ oM,IV _ _ _ _ oM,IV _ _ _ _ oM];simp only [qh,lo];rw [show (((240 + n / 262144 - 240) * 64 + n / 4096 % 64) * 64 + n / 64 % 64) * 64 + n % 64 = n from oM,if_pos (by rw [h];simp [ls];omega)]
    rfl
theorem dec_sgn {s : L8} (h : 0 <= (dec s).1) : sgn (dec s).1 = true := by
 unfold dec at h ⊢
 split at h
 ·exact absurd h dM
 ·split at h
  ·exact absurd h dM
  ·rename_i hz
   rw [if_neg hz]
   split at h
   ·exact absurd h dM
   ·split at h
    ·rename_i ho
     rw [if_pos ho];simp only [okR,mI,Bool.or_eq_false_iff,Bool.and_eq_false_iff,decide_eq_false_iff_not] at ho;simp only [sgn,aM,mP,decide_eq_true_eq];omega
    ·exact absurd h dM
def rs : L8 -> List Int
 | [] => []
 | c :: l => (dec (c :: l)).1 :: rs ((c :: l).drop (dec (c :: l)).2)
termination_by s => s.length
decreasing_by
 have := JW (c :: l);simp only [aV,aH];omega
def sg : Nat -> L8 -> List (Nat × Int)
 | _,[] => []
 | a,c :: l => (a,(dec (c :: l)).1) :: sg (a + (dec (c :: l)).2) ((c :: l).drop (dec (c :: l)).2)
termination_by _ s => s.length
decreasing_by
 have := JW (c :: l);simp only [aV,aH];omega
theorem yO : rs [] = [] := by rw [rs]
theorem Jm {s : L8} (h : s ≠ []) : rs s = (dec s).1 :: rs (s.drop (dec s).2) := by
 cases s with
 | nil => exact absurd rfl h
 | cons c l => rw [rs]
theorem sg_nil (a : Nat) : sg a [] = [] := by rw [sg]
theorem Ys {s : L8} (a : Nat) (h : s ≠ []) : sg a s = (a,(dec s).1) :: sg (a + (dec s).2) (s.drop (dec s).2) := by
 cases s with
 | nil => exact absurd rfl h
 | cons c l => rw [sg]
theorem Kb {s : L8} (h : s ≠ []) : (s.drop (dec s).2).length < s.length := by
 have := JW s;have : 0 < s.length := List.length_pos_iff.2 h;rw [aV];omega
theorem II {s : L8} (h : s ≠ []) : (dec s).2 <= s.length := by
 cases s with
 | nil => exact absurd rfl h
 | cons c l => exact dec_len c l
theorem KC : ∀ (n a : Nat) (s : L8),s.length <= n -> (sg a s).map (·.2) = rs s
 | 0,a,s,h => by
  have : s = [] := List.length_eq_zero_iff.1 oM;subst this;rw [sg_nil,yO];rfl
 | n + 1,a,s,h => by
  by_cases hs : s = []
  ·subst hs;rw [sg_nil,yO];rfl
  ·have := Kb hs;rw [Ys a hs,Jm hs,iB,KC n _ _ oM]
theorem sg_len (a : Nat) (s : L8) : (sg a s).length = (rs s).length := by rw [<- KC _ a s (aR _),iA]
theorem OM : ∀ (n : Nat) (s : L8),s.length <= n -> (rs s).length <= s.length
 | 0,s,h => by
  have : s = [] := List.length_eq_zero_iff.1 oM;subst this;rw [yO];exact aR _
 | n + 1,s,h => by
  by_cases hs : s = []
  ·subst hs;rw [yO];exact aR _
  ·have := Kb hs;rw [Jm hs,aH];have := OM n (s.drop (dec s).2) oM;omega
theorem rs_enc {r : Int} (h : sgn r = true) (t : L8) : rs (enc r ++ t) = r :: rs t := by
 have hl := Ka r;rw [Jm (by intro e;have := congrArg mA e;rw [aB,aQ] at this;omega),dec_enc h]
 simp
theorem dZ : ∀ L : List Int,(∀ r ∈ L,sgn r = true) -> rs (L.flatMap enc) = L
 | [],_ => yO
 | r :: L,h => by
  rw [iU,rs_enc (h r (aA ..)),dZ L fun x hx => h x (aK _ hx)]
theorem OL : ∀ (n : Nat) (s : L8),s.length <= n -> ∀ r ∈ rs s,0 <= r -> sgn r = true
 | 0,s,h,r,hr,_ => by
  have : s = [] := List.length_eq_zero_iff.1 oM;subst this;rw [yO] at hr;cases hr
 | n + 1,s,h,r,hr,h0 => by
  by_cases hs : s = []
  ·subst hs;rw [yO] at hr;cases hr
  ·have hd := Kb hs;rw [Jm hs] at hr
   rcases List.mem_cons.1 hr with rfl | hr
   ·exact dec_sgn h0
   ·exact OL n _ oM r hr h0
theorem dY : ∀ (n : Nat) (s : L8),s.length <= n -> ∀ r ∈ rs s,-1 <= r /\ r <= 1114111
 | 0,s,h,r,hr => by
  have : s = [] := List.length_eq_zero_iff.1 oM;subst this;rw [yO] at hr;cases hr
 | n + 1,s,h,r,hr => by
  by_cases hs : s = []
  ·subst hs;rw [yO] at hr;cases hr
  ·have hd := Kb hs;rw [Jm hs] at hr
   rcases List.mem_cons.1 hr with rfl | hr
   ·exact dec_rng s
   ·exact dY n _ oM r hr
def within (r : Int) : List (Int × Int) -> Bool
 | [] => false
 | p :: l => (decide (p.1 <= r) && decide (r <= p.2)) || within r l
def blanks : List (Int × Int) := [(160,160),(5760,5760),(8192,8202),(8239,8239),(8287,8287),(12288,12288)]
def nothing : List (Int × Int) := [(173,173),(8203,8205),(8288,8288),(65024,65039),(65279,65279)]
def barred : List (Int × Int) := [(0,31),(127,159),(8232,8233),(8234,8238),(8294,8297),(57344,63743),(983040,1114111),(65529,65533),(64976,65007)]
def jr (r : Int) : Bool := within r blanks
def qg (r : Int) : Bool := within r nothing
def kH (r : Int) : Bool := within r barred || decide (65534 <= r % 65536)
def kD (r : Int) : List Int := if jr r then [32] else if qg r then [] else [r]
def keep (l : List Int) : List Int := l.flatMap kD
def prep (s : L8) : L8 × Int := if (rs s).any (fun r => decide (r < 0)) then ([],4) else if (keep (rs s)).any kH then ([],5) else ((keep (rs s)).flatMap enc,0)
def prepL : List Int -> Option L8
 | [] => some []
 | r :: l => if jr r then (prepL l).map (32 :: ·) else if qg r then prepL l else if kH r then none else (prepL l).map (enc r ++ ·)
theorem enc32 : enc 32 = [32] := dM
theorem QF : ∀ l : List Int,prepL l = if (keep l).any kH then none else some ((keep l).flatMap enc)
 | [] => rfl
 | r :: l => by
  have ih := QF l;have e : keep (r :: l) = kD r ++ keep l := rfl;rw [e,prepL,List.any_append,lI,ih];unfold kD
  cases jr r with
  | true =>
   simp only [if_true];rw [show List.any [(32 : Int)] kH = false from dM,mS]
   cases (keep l).any kH with
   | true => rfl
   | false => simp only [iU,List.flatMap_nil,enc32];rfl
  | false =>
   cases qg r with
   | true => simp
   | false =>
    simp only [List.any_cons,List.any_nil,Bool.or_false,Bool.false_eq_true,if_false]
    cases kH r with
    | true => rfl
    | false =>
     cases (keep l).any kH with
     | true => rfl
     | false => simp
theorem keep_app (a b : List Int) : keep (a ++ b) = keep a ++ keep b := lI ..
theorem QN (r : Int) : ∀ x ∈ kD r,kD x = [x] /\ (x = r ∨ x = 32) := by
 intro x hx;unfold kD at hx
 cases hb : jr r with
 | true => rw [hb] at hx;simp at hx;subst hx;exact ⟨dM,.inr rfl⟩
 | false =>
  rw [hb] at hx
  cases hg : qg r with
  | true => rw [hg] at hx;simp at hx
  | false =>
   rw [hg] at hx;simp at hx;subst hx;refine ⟨?_,.inl rfl⟩;unfold kD;rw [hb,hg];rfl
theorem keep_keep : ∀ l : List Int,keep (keep l) = keep l := by
 have key : ∀ m : List Int,(∀ x ∈ m,kD x = [x]) -> keep m = m := by
  intro m
  induction m with
  | nil => intro _;rfl
  | cons x m ih =>
   intro h
   show kD x ++ keep m = x :: m
   rw [h x (aA ..),ih fun y hy => h y (aK _ hy)];rfl
 intro l;refine key _ fun x hx => ?_
 obtain ⟨r,_,hr⟩ := List.mem_flatMap.1 hx;exact (QN r x hr).1
theorem Ip {l : List Int} (h : ∀ r ∈ l,sgn r = true) : ∀ r ∈ keep l,sgn r = true := by
 intro x hx;obtain ⟨r,hr1,hr2⟩ := List.mem_flatMap.1 hx
 rcases (QN r x hr2).2 with rfl | rfl
 ·exact h _ hr1
 ·decide
theorem Qf {l : List Int} : l.any (fun r => decide (r < 0)) = false ↔ ∀ r ∈ l,0 <= r := by
 rw [List.any_eq_false]
 constructor
 ·intro h r hr;have := h r hr;simpa using this
 ·intro h r hr;have := h r hr;simpa using this
theorem bm {r : Int} (h : sgn r = true) : 0 <= r := by
 simp only [sgn,aM,decide_eq_true_eq] at h;exact h.1.1
theorem eO (s : L8) : prep (prep s).1 = ((prep s).1,0) /\ ((prep s).2 = 0 ∨ (prep s).1 = []) := by
 have hnil : prep [] = ([],0) := by unfold prep;rw [yO];rfl
 by_cases h1 : (rs s).any (fun r => decide (r < 0)) = true
 ·have e : prep s = ([],4) := by unfold prep;rw [if_pos h1]
  rw [e];exact ⟨hnil,.inr rfl⟩
 ·have h1' : (rs s).any (fun r => decide (r < 0)) = false := by simpa using h1
  by_cases h2 : (keep (rs s)).any kH = true
  ·have e : prep s = ([],5) := by unfold prep;rw [if_neg h1,if_pos h2]
   rw [e];exact ⟨hnil,.inr rfl⟩
  ·have e : prep s = ((keep (rs s)).flatMap enc,0) := by unfold prep;rw [if_neg h1,if_neg h2]
   rw [e];refine ⟨?_,.inl rfl⟩;have hs : ∀ r ∈ keep (rs s),sgn r = true := Ip fun r hr => OL _ s (aR _) r hr (Qf.1 h1' r hr)
   show prep ((keep (rs s)).flatMap enc) = ((keep (rs s)).flatMap enc,0)
   unfold prep;rw [dZ _ hs,keep_keep,if_neg,if_neg h2];rw [Qf.2 fun r hr => bm (hs r hr)];simp
def xg (s : L8) (most : Nat) : L8 × Int := if (prep s).2 ≠ 0 then ([],(prep s).2) else if (prep s).1 = [] then ([],2) else if most < (prep s).1.length then ([],3) else ((prep s).1,0)
def yP (c : UInt8) : Bool := (decide (97 <= c.toNat) && decide (c.toNat <= 122)) || (decide (48 <= c.toNat) && decide (c.toNat <= 57)) || c == 45 || c == 95
def yg (s : L8) : Bool := s.all yP && (decide (1 <= s.length) && decide (s.length <= 32))
theorem eQ (c : UInt8) (l : L8) (h : c.toNat < 128) : dec (c :: l) = ((c.toNat : Int),1) := by
 rw [wF 0 oM c l (by simp [inr,lo,hi];omega)];simp only [qh,lo,iI];rw [if_pos (by simp [ls,sgn];omega)]
end Go.Nam
namespace Go.Ost
open Go
variable {P : Program}
inductive EK | i | s | b
def ekB (P : Program) (t : TypeId) : EK -> Bool
 | .i => match P.underlying t with | some (.int _) => true | _ => false
 | .s => match P.underlying t with | some .string => true | _ => false
 | .b => match P.underlying t with | some .bool => true | _ => false
def WA (P : Program) : Nat -> List Field -> List EK -> Bool
 | _,[],[] => true
 | i, f :: fs, k :: ks => f.name != "_" && (f.offset == i && (ekB P f.type k && WA P (i + 1) fs ks))
 | _,_,_ => false
def eqB (P : Program) (t : TypeId) (ks : List EK) : Bool :=
 match P.underlying t with
 | some (.struct fs) => WA P 0 fs.toList ks && (!P.stoodInHeld t && !P.eqGuardType P.depth t)
 | _ => false
class TEq (P : Program) (t : TypeId) (ks : outParam (List EK)) : Prop where
 ok : eqB P t ks = true
section rules
variable {t : TypeId} {ks : List EK} {x y : Operand} {xs ys : LV} {r : Bool} {κ : Value -> Prop}
end rules
end Go.Ost
namespace Go.Sha
end Go.Sha
namespace Go.Ost
open Go
variable {P : Program} {n : Nat} {ro : Option Nat}
def afterX (ops : Array Oper) (e1 e2 i : Nat) : List Nat := if i = e2 then e1 :: jd ops i else jd ops i
def cL (ops : Array Oper) (e1 e2 : Nat) (A : List (List Nat)) : Bool :=
 (iC ops.size).all fun i => (A.getD i []).all fun j => (afterX ops e1 e2 i).any fun e => e == j || (A.getD e []).contains j
theorem vG {ops : Array Oper} {A : List (List Nat)} {K : Cont} {D : List Nat} {w0 : World} {pre l : List zW} {listed : Array Bool} {L : Env} {S : zb} {a : Act} {w : World} (h : DInv P n ops A (K .normal D) D w0 pre l listed L S a w) (hr : Region.ready .any ops listed = []) : KQ n K w0 .normal a w := by
 obtain ⟨pre,l,L,h,hl⟩ := h.norm
 have ready : ∀ i,i < ops.size -> (∀ j ∈ jd ops i,listed.getD j false = true) -> listed.getD i false = true := by
  intro i hi hall
  cases hx : listed.getD i false with
  | true => rfl
  | false =>
   exfalso
   have : i ∈ Region.ready .any ops listed := by
    refine List.mem_filter.2 ⟨List.mem_range.2 hi,?_⟩;have hsz : i < listed.size := by rw [h.size];exact hi
    have h1 : listed.getD i true = false := by simpa [Array.getD_eq_getD_getElem?,hsz] using hx
    have ho : ops[i]? = some ops[i] := by simp [hi]
    rw [h1,ho];simp only [lX,iR,Bool.not_false,mM];rw [Array.all_eq_true'];intro e he
    by_cases hb : Region.binds .any e = true
    ·have := hall e.on (by simp only [jd,ho];exact List.mem_map.2 ⟨e,List.mem_filter.2 ⟨by simpa using he,hb⟩,rfl⟩)
     simp [this]
    ·simp [hb]
   rw [hr] at this;cases this
 have pend : ∀ (k : Nat) (x : zW),pre[k]? = some x -> listed.getD x.1 false = true := by
  intro k
  induction k using Nat.strongRecOn with
  | _ k ih =>
   intro x hx;obtain ⟨o1,_,_,_,_,o6⟩ := xK (yY pre [] k h.pres hx);refine ready x.1 o6 fun j hj => ?_
   obtain ⟨y,hy,e⟩ := o1 j hj;rw [aD] at hy;obtain ⟨k',hk'⟩ := List.mem_iff_getElem?.1 hy
   have hlt : k' < k := by
    have := (List.getElem?_eq_some_iff.1 hk').1
    simp at this;omega
   rw [<- e];refine ih k' hlt y ?_;rw [lY hlt] at hk';exact hk'
 rcases hl with rfl | ⟨i,pd,l'',rfl⟩
 ·refine ⟨D,L,S,h.rest,⟨h.asz,fun t v ht => ?_,h.dfr⟩,h.ext,h.hold⟩
  rcases h.tmps t v ht with ⟨x,hx,h1,_⟩ | h3
  ·obtain ⟨k,hk⟩ := List.mem_iff_getElem?.1 hx;rw [pend k x hk] at h1;cases h1
  ·exact h3
 ·exfalso
  have hok := h.ok;simp only [xQ,aM] at hok;obtain ⟨o1,_,o3,_,_,o6⟩ := xK hok.1
  have hi : listed.getD i false = true := by
   refine ready i o6 fun j hj => ?_
   obtain ⟨y,hy,e⟩ := o1 j hj;obtain ⟨k,hk⟩ := List.mem_iff_getElem?.1 hy;rw [<- e];exact pend k y hk
  obtain ⟨y,hy,e⟩ := h.inPre i hi;exact o3 y hy e
theorem wi {ops : Array Oper} {listed : Array Bool} {i : Nat} (hs : listed.size = ops.size) (hi : i ∈ Region.ready .any ops listed) :
  ∃ him : i < ops.size,listed.getD i false = false /\ ∀ j ∈ jd ops i,listed.getD j false = true := by
 obtain ⟨hi1,hi2⟩ := List.mem_filter.1 hi;have him := List.mem_range.1 hi1;have hsz : i < listed.size := by rw [hs];exact him
 have ho : ops[i]? = some ops[i] := by simp [him]
 rw [ho] at hi2;simp only [lX,iR,aM,mI] at hi2;refine ⟨him,?_,?_⟩
 ·have := hi2.1
  simpa [Array.getD_eq_getD_getElem?,hsz] using this
 ·intro j hj;simp only [jd,ho] at hj;obtain ⟨e,he,rfl⟩ := List.mem_map.1 hj;obtain ⟨he1,he2⟩ := List.mem_filter.1 he;have := hi2.2;rw [Array.all_eq_true'] at this;have := this e (by simpa using he1)
  simpa [he2] using this
theorem Qg {ops : Array Oper} {A : List (List Nat)} {e1 e2 i : Nat} {listed : Array Bool} (hc : cL ops e1 e2 A = true) (him : i < ops.size) (clos : ∀ i,listed.getD i false = true -> ∀ j ∈ A.getD i [],listed.getD j false = true)
  (hdep : ∀ j ∈ jd ops i,listed.getD j false = true) (hx : i = e2 -> listed.getD e1 false = true) : ∀ j ∈ A.getD i [],listed.getD j false = true := by
 intro j hj;have h1 := List.all_eq_true.1 hc i (List.mem_range.2 him);have h2 := List.all_eq_true.1 h1 j hj;obtain ⟨e,he,h3⟩ := List.any_eq_true.1 h2
 have hel : listed.getD e false = true := by
  unfold afterX at he
  split at he
  ·rcases List.mem_cons.1 he with rfl | he
   ·exact hx ‹_›
   ·exact hdep e he
  ·exact hdep e he
 simp only [mP,beq_iff_eq,List.contains_eq_mem,decide_eq_true_eq] at h3
 rcases h3 with rfl | h3
 ·exact hel
 ·exact clos e hel j h3
theorem DInv.reckon {ops : Array Oper} {A : List (List Nat)} {K : Env -> zb -> Prop} {D : List Nat} {w0 : World} {pre l : List zW} {listed : Array Bool} {L : Env} {S : zb} {a : Act} {w : World} {i : Nat}
  (h : DInv P n ops A K D w0 pre l listed L S a w) (hsz : i < listed.size) (hun : listed.getD i false = false) (hanc : ∀ j ∈ A.getD i [],listed.getD j false = true) (hin : ∃ x ∈ pre,x.1 = i) :
  ∃ o v,ops[i]? = some o /\ yL P ops o a w v /\ ((∀ c,o.op ≠ .defer c) ∨ Region.wanted o (yielded ops a.tmps) = false) /\ DInv P n ops A K D w0 pre l (listed.setIfInBounds i true) L S (a.put o.dst v) w := by
 have hsize' : (listed.setIfInBounds i true).size = ops.size := by simp [h.size]
 have hclos' : ∀ k,(listed.setIfInBounds i true).getD k false = true -> ∀ j ∈ A.getD k [],(listed.setIfInBounds i true).getD j false = true := by
  intro k hk j hj;rw [zK hsz] at hk ⊢
  split
  ·rfl
  ·split at hk
   ·subst_vars;exact hanc j hj
   ·exact h.clos k hk j hj
 obtain ⟨x,hx,rfl⟩ := hin
 have hxe : x.2.1 = false := by
  cases hh : x.2.1 with
  | false => rfl
  | true => rw [h.effs x hx hh] at hun;cases hun
 obtain ⟨o,v,ho',⟨d,hd,hdn,hv⟩,hf⟩ := h.facts x hx hun
 have hag : kU (o.looksAt ops) L a := by
  intro t ht u hu
  rcases h.tmps t u hu with ⟨y,hy,h1,h2⟩ | h3
  ·exfalso
   have hye : y.2.1 = false := by
    cases hh : y.2.1 with
    | false => rfl
    | true => rw [h.effs y hy hh] at h1;cases h1
   have := hanc _ (h.prs x hx y hy hxe hye t h2 (by simpa [jh,ho'] using ht));rw [h1] at this;cases this
  ·exact h3
 obtain ⟨hy,hnd⟩ := hf a w hag (fun _ => h.hold);refine ⟨o,v,ho',hy,hnd,⟨hsize',?_,?_,hclos',?_,?_,h.prs,?_,?_,h.ext,h.hold,h.ok,h.pres,h.all,h.rest⟩⟩
 ·intro k hk;rw [zK hsz] at hk
  split at hk
  ·exact ⟨x,hx,by subst_vars;rfl⟩
  ·exact h.inPre k hk
 ·intro y hy he;rw [zK hsz]
  split
  ·rfl
  ·exact h.effs y hy he
 ·intro t u hu
  by_cases htd : d = t
  ·subst htd;rw [hv] at hu;cases hu
   right
   simp [hd,Act.put,h.asz,hdn]
  ·rcases h.tmps t u hu with ⟨y,hy,h1,h2⟩ | h3
   ·refine .inl ⟨y,hy,?_,h2⟩;rw [zK hsz];rw [if_neg]
    ·exact h1
    ·intro e;have : qw ops x.1 = some t := by rw [<- e];exact h2
     simp only [qw,ho',Option.bind_some,hd,Option.some.injEq] at this;exact htd this
   ·right
    simp only [hd,Act.put,lN htd];exact h3
 ·intro y hy hyl;refine h.facts y hy ?_;rw [zK hsz] at hyl
  split at hyl
  ·cases hyl
  ·exact hyl
 ·simp [hd,Act.put,h.asz]
 ·simp only [hd,Act.put];exact h.dfr
theorem DInv.effect {ops : Array Oper} {A : List (List Nat)} {K : Cont} {D : List Nat} {w0 : World} {pre l'' : List zW} {listed : Array Bool} {L : Env} {S : zb} {a : Act} {w : World} {i : Nat} {pd : List Nat} {fuel : Nat}
  (h : DInv P n ops A (K .normal D) D w0 pre ((i,true,pd) :: l'') listed L S a w) (him : i < ops.size) (hun : listed.getD i false = false) (hanc : ∀ j ∈ A.getD i [],listed.getD j false = true) (hin : ¬ ∃ x ∈ pre,x.1 = i)
  (ih : ∀ (pre l : List zW) (L : Env) (S : zb) (a : Act) (w : World),DInv P n ops A (K .normal D) D w0 pre l (listed.setIfInBounds i true) L S a w -> wpAnyIn (FW ro) 0 P .any ops (KQ n K w0) fuel (listed.setIfInBounds i true) a w) :
  wpOpIn (FW ro) 0 P ops (KQ n K w0) i (fun a' w' => wpAnyIn (FW ro) 0 P .any ops (KQ n K w0) fuel (listed.setIfInBounds i true) a' w') a w := by
 have hsz : i < listed.size := by rw [h.size];exact him
 have ho : ops[i]? = some ops[i] := by simp [him]
 have hsize' : (listed.setIfInBounds i true).size = ops.size := by simp [h.size]
 have hclos' : ∀ k,(listed.setIfInBounds i true).getD k false = true -> ∀ j ∈ A.getD k [],(listed.setIfInBounds i true).getD j false = true := by
  intro k hk j hj;rw [zK hsz] at hk ⊢
  split
  ·rfl
  ·split at hk
   ·subst_vars;exact hanc j hj
   ·exact h.clos k hk j hj
 have hok := h.ok;simp only [xQ,aM] at hok;obtain ⟨o1,o2,o3,o4,o5,o6⟩ := xK hok.1
 have hag : kU (ops[i].looksAt ops) L a := by
  intro t ht u hu
  rcases h.tmps t u hu with ⟨y,hy,h1,h2⟩ | h3
  ·exfalso
   have hye : y.2.1 = false := by
    cases hh : y.2.1 with
    | false => rfl
    | true => rw [h.effs y hy hh] at h1;cases h1
   have := hanc _ ((o4 y hy hye).1 t h2 (by simpa [jh,ho] using ht));rw [h1] at this;cases this
  ·exact h3
 have hrest := h.rest;simp only [xD,ho] at hrest
 have next : ∀ (v : Value) (S' : zb) (w' : World),Ext w w' -> Hold w' S' -> xF P ops pd (putT n (ops[i]).dst v L) S' (xD P n ops (K .normal D) l'' (putT n (ops[i]).dst v L) S') ->
   wpAnyIn (FW ro) 0 P .any ops (KQ n K w0) fuel (listed.setIfInBounds i true) (a.put (ops[i]).dst v) w' := by
  intro v S' w' he hh hst;obtain ⟨hdraw,hstill⟩ := Zn pd hst;have hdi : qw ops i = (ops[i]).dst := by simp [qw,ho]
  have away : ∀ y ∈ pre,(listed.setIfInBounds i true).getD y.1 false = false -> y.2.1 = false /\ listed.getD y.1 false = false /\ y.1 ∉ A.getD i [] /\
    ∀ d,(ops[i]).dst = some d -> d ∉ jh ops y.1 /\ qw ops y.1 ≠ some d := by
   intro y hy hyl;rw [zK hsz] at hyl
   split at hyl
   ·cases hyl
   ·have hye : y.2.1 = false := by
     cases hh : y.2.1 with
     | false => rfl
     | true => rw [h.effs y hy hh] at hyl;cases hyl
    have hna : y.1 ∉ A.getD i [] := fun hm => by rw [hanc _ hm] at hyl;cases hyl
    exact ⟨hye,hyl,hna,fun d hd => ((o4 y hy hye).2.1 d (by rw [hdi];exact hd)).resolve_right (fun hc => hna hc.2)⟩
  refine ih (pre ++ [(i,true,pd)]) l'' (putT n (ops[i]).dst v L) S' _ w' ⟨hsize',?_,?_,hclos',?_,?_,?_,?_,?_,h.ext.trans he,hh,hok.2,qQ _ _ h.pres (by simpa using hok.1),?_,hdraw⟩
  ·intro k hk;rw [zK hsz] at hk
   split at hk
   ·exact ⟨(i,true,pd),sM,by subst_vars;rfl⟩
   ·obtain ⟨y,hy,e⟩ := h.inPre k hk;exact ⟨y,iG _ hy,e⟩
  ·intro y hy hye;rw [zK hsz]
   split
   ·rfl
   ·rcases List.mem_append.1 hy with hy | hy
    ·exact h.effs y hy hye
    ·simp at hy;subst hy;exact absurd rfl ‹_›
  ·intro t u hu
   rcases JF hu with ⟨h1,h2,rfl⟩ | h1
   ·right;simp [h1,Act.put,h.asz,h2]
   ·by_cases hdt : (ops[i]).dst = some t /\ t < n
    ·have : lookT (putT n (ops[i]).dst v L) t = some v := by simp [hdt.1,putT,hdt.2,lookT]
     rw [this] at hu;cases hu
     right;simp [hdt.1,Act.put,h.asz,hdt.2]
    ·have keep : a.tmps[t]? = some u -> (a.put (ops[i]).dst v).tmps[t]? = some u := by
      intro hat
      cases hd : (ops[i]).dst with
      | none => exact hat
      | some d =>
       simp only [Act.put]
       by_cases e : d = t
       ·subst e;have := (Array.getElem?_eq_some_iff.1 hat).1;rw [h.asz] at this;exact absurd ⟨hd,this⟩ hdt
       ·rw [lN e];exact hat
     rcases h.tmps t u h1 with ⟨y,hy,h2,h3⟩ | h3
     ·by_cases hyi : (listed.setIfInBounds i true).getD y.1 false = false
      ·exact .inl ⟨y,iG _ hy,hyi,h3⟩
      ·exfalso
       rw [zK hsz] at hyi
       split at hyi
       ·exact hin ⟨y,hy,‹_›⟩
       ·exact hyi h2
     ·exact .inr (keep h3)
  ·intro y hy hyl
   rcases List.mem_append.1 hy with hy | hy
   ·obtain ⟨hye,hyl',hna,hnd⟩ := away y hy hyl;obtain ⟨o,v',ho',⟨d,hd,hdn,hv⟩,hf⟩ := h.facts y hy hyl'
    have hlk : ∀ t,t ∈ o.looksAt ops ∨ t = d -> lookT (putT n (ops[i]).dst v L) t = lookT L t := by
     intro t ht;refine yk fun e => ?_
     obtain ⟨n1,n2⟩ := hnd t e
     rcases ht with ht | rfl
     ·exact n1 (by simpa [jh,ho'] using ht)
     ·exact n2 (by simp [qw,ho',hd])
    by_cases hrd : Xw o.op = true
    ·have hmem : y.1 ∈ pd := by
      have := (o4 y hy hye).2.2 rfl (by simp [Vz,ho',hrd]);exact this.resolve_left hna
     obtain ⟨o2,d2,v2,e1,e2,e3,hq⟩ := hstill y.1 hmem;rw [ho'] at e1;cases e1
     rw [hd] at e2;cases e2
     obtain ⟨v3,rfl,_,hq'⟩ := yf hq;refine ⟨o,v3,ho',⟨d,hd,hdn,e3⟩,fun a' w'' ha hw => hq' a' w'' ha hw⟩
    ·refine ⟨o,v',ho',⟨d,hd,hdn,by rw [hlk d (.inr rfl)];exact hv⟩,fun a' w'' ha _ => hf a' w'' (fun t ht u hu => ha t ht u (by rw [hlk t (.inl ht)];exact hu)) (fun hh => absurd hh hrd)⟩
   ·simp at hy;subst hy
    rw [zK hsz] at hyl;simp at hyl
  ·intro x hx y hy hxe hye d' hd' hl'
   rcases List.mem_append.1 hx with hx | hx
   ·rcases List.mem_append.1 hy with hy | hy
    ·exact h.prs x hx y hy hxe hye d' hd' hl'
    ·simp at hy;subst hy;cases hye
   ·simp at hx;subst hx;cases hxe
  ·cases (ops[i]).dst <;> simp [Act.put,h.asz]
  ·cases (ops[i]).dst <;> exact h.dfr
  ·intro j hj
   rcases h.all j hj with ⟨x,hx,e⟩ | ⟨x,hx,e⟩
   ·exact .inl ⟨x,iG _ hx,e⟩
   ·rcases List.mem_cons.1 hx with rfl | hx
    ·exact .inl ⟨_,sM,e⟩
    ·exact .inr ⟨x,hx,e⟩
 unfold wpOpIn;rw [ho];simp only
 rcases kQ hag hrest with ⟨hw1,hs⟩ | ⟨hw1,hs⟩
 ·rw [if_pos hw1];obtain ⟨ρ,hρ,hρe⟩ := XR hag;refine ⟨fun _ _ => trivial,?_⟩;rw [Oper.semAt_eq _ _ _ (vD hs),<- execOp_congr _ (vU hs) hρe];exact Zi (Zo hρ hs) h.hold fun v S' w' hk he hh => next v S' w' he hh hk
 ·rw [if_neg (by simp [hw1])];exact ⟨fun _ _ => trivial,next undef S w (Ext.refl w) h.hold hs⟩
theorem DInv.norm2 {ops : Array Oper} {A : List (List Nat)} {K : Env -> zb -> Prop} {D : List Nat} {w0 : World} : ∀ (l pre : List zW) (listed : Array Bool) (L : Env) (S : zb) (a : Act) (w : World),
  DInv P n ops A K D w0 pre l listed L S a w -> ∃ pre' l' L',DInv P n ops A K D w0 pre' l' listed L' S a w /\ (l' = [] ∨ ∃ i pend l'',l' = (i,true,pend) :: l'') /\ ∃ q,l = q ++ l' /\ ∀ x ∈ q,x.2.1 = false
 | [],pre,listed,L,S,a,w,h => ⟨pre,[],L,h,.inl rfl,[],rfl,sM⟩
 | (i,true,pend) :: l,pre,listed,L,S,a,w,h => ⟨pre,_,L,h,.inr ⟨i,pend,l,rfl⟩,[],rfl,sM⟩
 | (i,false,pend) :: l,pre,listed,L,S,a,w,h => by
  have hok := h.ok;simp only [xQ,aM] at hok;obtain ⟨o1,o2,o3,o4,o5,o6⟩ := xK hok.1;obtain ⟨d,hd,hdn,hdl⟩ := o5 rfl;have hr := h.rest;simp only [xD] at hr
  cases ho : ops[i]? with
  | none => rw [ho] at hr;exact hr.elim
  | some o =>
   rw [ho] at hr;simp only at hr;obtain ⟨v,hk,_,hq⟩ := yf hr;have hdo : o.dst = some d := by simpa [qw,ho] using hd
   have hlo : jh ops i = o.looksAt ops := by simp [jh,ho]
   have hunl : listed.getD i false = false := by
    cases hx : listed.getD i false with
    | false => rfl
    | true => obtain ⟨y,hy,e⟩ := h.inPre i hx;exact absurd e (o3 y hy)
   have hL : putT n o.dst v L = (d,v) :: L := by simp [putT,hdo,hdn]
   rw [hL] at hk
   have keepA : ∀ (ts : List Tmp) (a' : Act),d ∉ ts -> kU ts ((d,v) :: L) a' -> kU ts L a' := by
    intro ts a' hn ha t ht u hu;refine ha t ht u ?_;simp only [lookT];rw [if_neg (fun e => hn (by rw [<- e];exact ht))];exact hu
   have wrap : (∃ pre' l' L',DInv P n ops A K D w0 pre' l' listed L' S a w /\ (l' = [] ∨ ∃ i pend l'',l' = (i,true,pend) :: l'') /\ ∃ q,l = q ++ l' /\ ∀ x ∈ q,x.2.1 = false) ->
     ∃ pre' l' L',DInv P n ops A K D w0 pre' l' listed L' S a w /\ (l' = [] ∨ ∃ i pend l'',l' = (i,true,pend) :: l'') /\ ∃ q,(i,false,pend) :: l = q ++ l' /\ ∀ x ∈ q,x.2.1 = false := by
    rintro ⟨pre',l',L',h1,h2,q,h3,h4⟩;refine ⟨pre',l',L',h1,h2,(i,false,pend) :: q,by rw [h3];rfl,fun x hx => ?_⟩
    rcases List.mem_cons.1 hx with rfl | hx
    ·rfl
    ·exact h4 x hx
   refine wrap (DInv.norm2 l (pre ++ [(i,false,pend)]) listed ((d,v) :: L) S a w ⟨h.size,?_,?_,h.clos,?_,?_,?_,h.asz,h.dfr,h.ext,h.hold,hok.2,qQ _ _ h.pres (by simpa using hok.1),?_,hk⟩)
   ·intro j hj;obtain ⟨x,hx,e⟩ := h.inPre j hj;exact ⟨x,iG _ hx,e⟩
   ·intro x hx he
    rcases List.mem_append.1 hx with hx | hx
    ·exact h.effs x hx he
    ·simp at hx;subst hx;cases he
   ·intro t u hu;simp only [lookT] at hu
    split at hu
    ·subst_vars;exact .inl ⟨(i,false,pend),sM,hunl,hd⟩
    ·rcases h.tmps t u hu with ⟨x,hx,h1,h2⟩ | h3
     ·exact .inl ⟨x,iG _ hx,h1,h2⟩
     ·exact .inr h3
   ·intro x hx hxl
    rcases List.mem_append.1 hx with hx | hx
    ·obtain ⟨o',v',h1,⟨d',h2,h3,h4⟩,h5⟩ := h.facts x hx hxl
     have hxe : x.2.1 = false := by
      cases hh : x.2.1 with
      | false => rfl
      | true => rw [h.effs x hx hh] at hxl;cases hxl
     have hne := ((o4 x hx hxe).2.1 d hd).resolve_right (fun hh => by cases hh.1);have hd' : qw ops x.1 = some d' := by simp [qw,h1,h2]
     refine ⟨o',v',h1,⟨d',h2,h3,?_⟩,fun a' w' ha hw => h5 a' w' (keepA _ a' (by simpa [jh,h1] using hne.1) ha) hw⟩;simp only [lookT];rw [if_neg (fun e => hne.2 (by rw [hd',e]))];exact h4
    ·simp at hx;subst hx
     refine ⟨o,v,ho,⟨d,hdo,hdn,by simp [lookT]⟩,fun a' w' ha hw => hq a' w' (keepA _ a' (by rw [<- hlo];exact hdl) ha) hw⟩
   ·intro x hx y hy hxe hye d' hd' hl'
    rcases List.mem_append.1 hx with hx | hx
    ·rcases List.mem_append.1 hy with hy | hy
     ·exact h.prs x hx y hy hxe hye d' hd' hl'
     ·simp at hy;subst hy
      rw [hd] at hd';cases hd'
      exact absurd hl' (((o4 x hx hxe).2.1 d hd).resolve_right (fun hh => by cases hh.1)).1
    ·simp at hx;subst hx
     rcases List.mem_append.1 hy with hy | hy
     ·exact (o4 y hy hye).1 d' hd' hl'
     ·simp at hy;subst hy
      rw [hd] at hd';cases hd'
      exact absurd hl' hdl
   ·intro j hj
    rcases h.all j hj with ⟨x,hx,e⟩ | ⟨x,hx,e⟩
    ·exact .inl ⟨x,iG _ hx,e⟩
    ·rcases List.mem_cons.1 hx with rfl | hx
     ·exact .inl ⟨_,sM,e⟩
     ·exact .inr ⟨x,hx,e⟩
theorem vM {ops : Array Oper} {listed : Array Bool} (hs : listed.size = ops.size) (hle : ((iC ops.size).filter fun i => !listed.getD i false).length <= 0) : Region.ready .any ops listed = [] := by
 have h0 : ((iC ops.size).filter fun i => !listed.getD i false) = [] := List.eq_nil_of_length_eq_zero (Nat.le_zero.1 hle);unfold Region.ready;rw [List.filter_eq_nil_iff] at h0 ⊢;intro i hi;have := h0 i hi;have hsz : i < listed.size := by rw [hs];exact List.mem_range.1 hi
 simp only [Array.getD_eq_getD_getElem?,hsz,mD,iR] at this ⊢;simp only [mI,Bool.not_eq_false] at this
 simp [this]
theorem wp {ops : Array Oper} {listed : Array Bool} {i fuel : Nat} (him : i < ops.size) (hsz : i < listed.size) (hun : listed.getD i false = false) (hle : ((iC ops.size).filter fun i => !listed.getD i false).length <= fuel + 1) :
  ((iC ops.size).filter fun k => !(listed.setIfInBounds i true).getD k false).length <= fuel := by
 have := wH (p := fun k => !listed.getD k false) (q := fun k => !(listed.setIfInBounds i true).getD k false) (i := i) (iC ops.size) (fun x hx => by
  simp only [zK hsz] at hx
  split at hx
  ·simp at hx
  ·exact hx) (List.mem_range.2 him) (by simp [hun]) (by simp [zK hsz])
 omega
theorem WG {ops : Array Oper} {A : List (List Nat)} {K : Cont} {D : List Nat} {w0 : World} {e1 e2 : Nat} (hc : cL ops e1 e2 A = true) : ∀ (fuel : Nat) (pre l : List zW) (listed : Array Bool) (L : Env) (S : zb) (a : Act) (w : World),
  DInv P n ops A (K .normal D) D w0 pre l listed L S a w -> listed.getD e1 false = true -> ((iC ops.size).filter fun i => !listed.getD i false).length <= fuel ->
  wpAnyIn (FW ro) 0 P .any ops (KQ n K w0) fuel listed a w := by
 intro fuel
 induction fuel with
 | zero =>
  intro pre l listed L S a w h _ hle;have hr := vM h.size hle;exact ⟨hr,vG h hr⟩
 | succ fuel ih =>
  intro pre l listed L S a w h h1 hle;refine ⟨fun hr => vG h hr,fun i hi => ?_⟩;obtain ⟨pre,l,L,h,hl⟩ := h.norm;obtain ⟨him,hun,hdep⟩ := wi h.size hi;have hsz : i < listed.size := by rw [h.size];exact him
  have hanc := Qg hc him h.clos hdep (fun _ => h1);have hcount := wp him hsz hun hle;have h1' : (listed.setIfInBounds i true).getD e1 false = true := by rw [zK hsz];split <;> first | rfl | exact h1
  by_cases hin : ∃ x ∈ pre,x.1 = i
  ·obtain ⟨o,v,ho,hy,hnd,h'⟩ := h.reckon hsz hun hanc hin;exact vk ho hy hnd (ih pre l _ L S _ w h' h1' hcount)
  ·have hnx : ∃ pd l'',l = (i,true,pd) :: l'' := by
    rcases (h.all i him).resolve_left hin with ⟨x,hx,he⟩
    rcases hl with rfl | ⟨j,pd,l'',rfl⟩
    ·cases hx
    ·rcases List.mem_cons.1 hx with rfl | hx
     ·cases he;exact ⟨pd,l'',rfl⟩
     ·exfalso
      have hok := h.ok;simp only [xQ,aM] at hok;obtain ⟨q,hq⟩ := kB l'' _ hok.2 x hx;obtain ⟨_,o2,_⟩ := xK hq;have := hanc j (by rw [<- he];exact o2 (j,true,pd) sM rfl);obtain ⟨y,hy,e⟩ := h.inPre j this;obtain ⟨_,_,o3,_⟩ := xK hok.1;exact o3 y hy e
   obtain ⟨pd,l'',rfl⟩ := hnx;exact h.effect him hun hanc hin fun pre l L S a w h' => ih pre l _ L S a w h' h1' hcount
theorem qG {ops : Array Oper} {A : List (List Nat)} {K : Env -> zb -> Prop} {D : List Nat} {w0 : World} {pre l : List zW} {listed : Array Bool} {L : Env} {S : zb} {a : Act} {w : World} {e i : Nat} {pd : List Nat}
  (h : DInv P n ops A K D w0 pre ((e,true,pd) :: l) listed L S a w) (him : i < ops.size) (hne : i ≠ e) (hun : listed.getD e false = false) (hanc : ∀ j ∈ A.getD i [],listed.getD j false = true) : ∃ x ∈ pre,x.1 = i := by
 rcases h.all i him with hx | ⟨x,hx,he⟩
 ·exact hx
 ·exfalso
  rcases List.mem_cons.1 hx with rfl | hx
  ·exact hne he.symm
  ·have hok := h.ok;simp only [xQ,aM] at hok;obtain ⟨q,hq⟩ := kB l _ hok.2 x hx;obtain ⟨_,o2,_⟩ := xK hq;have := hanc e (by rw [<- he];exact o2 (e,true,pd) sM rfl);rw [hun] at this;cases this
theorem yZ {ops : Array Oper} {A : List (List Nat)} {K : Env -> zb -> Prop} {D : List Nat} {w0 : World} {pre l : List zW} {listed : Array Bool} {L : Env} {S : zb} {a : Act} {w : World} {e : Nat} {pd : List Nat}
  (h : DInv P n ops A K D w0 pre ((e,true,pd) :: l) listed L S a w) : ¬ ∃ x ∈ pre,x.1 = e := by
 have hok := h.ok;simp only [xQ,aM] at hok;obtain ⟨_,_,o3,_⟩ := xK hok.1;rintro ⟨x,hx,e⟩;exact o3 x hx e
theorem gz {ops : Array Oper} {A1 A2 : List (List Nat)} {K : Cont} {D : List Nat} {w0 : World} {e1 e2 : Nat} {pre1 pre2 l1 l2 : List zW} {pd1 pd2 : List Nat} {L1 L2 : Env} {S1 S2 : zb} (hc1 : cL ops e1 e2 A1 = true) (hc2 : cL ops e2 e1 A2 = true) (hne : e1 ≠ e2) :
  ∀ (fuel : Nat) (listed : Array Bool) (a : Act) (w : World),DInv P n ops A1 (K .normal D) D w0 pre1 ((e1,true,pd1) :: l1) listed L1 S1 a w -> DInv P n ops A2 (K .normal D) D w0 pre2 ((e2,true,pd2) :: l2) listed L2 S2 a w ->
  listed.getD e1 false = false -> listed.getD e2 false = false -> ((iC ops.size).filter fun i => !listed.getD i false).length <= fuel -> wpAnyIn (FW ro) 0 P .any ops (KQ n K w0) fuel listed a w := by
 intro fuel
 induction fuel with
 | zero =>
  intro listed a w h _ _ _ hle;have hr := vM h.size hle;exact ⟨hr,vG h hr⟩
 | succ fuel ih =>
  intro listed a w h1 h2 u1 u2 hle;refine ⟨fun hr => vG h1 hr,fun i hi => ?_⟩;obtain ⟨him,hun,hdep⟩ := wi h1.size hi;have hsz : i < listed.size := by rw [h1.size];exact him
  have hcount := wp him hsz hun hle
  by_cases i1 : i = e1
  ·subst i1;exact h1.effect him hun (Qg hc1 him h1.clos hdep (fun e => absurd e hne)) (yZ h1) fun pre l L S a w h' => WG hc1 fuel pre l _ L S a w h' (by rw [zK hsz,if_pos rfl]) hcount
  by_cases i2 : i = e2
  ·subst i2;exact h2.effect him hun (Qg hc2 him h2.clos hdep (fun e => absurd e.symm hne)) (yZ h2) fun pre l L S a w h' => WG hc2 fuel pre l _ L S a w h' (by rw [zK hsz,if_pos rfl]) hcount
  have a1 := Qg hc1 him h1.clos hdep (fun e => absurd e i2);have a2 := Qg hc2 him h2.clos hdep (fun e => absurd e i1);obtain ⟨o,v,ho,hy,hnd,h1'⟩ := h1.reckon hsz hun a1 (qG h1 him i1 u1 a1);obtain ⟨o',v',ho',hy',hnd',h2'⟩ := h2.reckon hsz hun a2 (qG h2 him i2 u2 a2);rw [ho] at ho'
  cases ho'
  have hv : v = v' := by
   rcases hy with ⟨x1,x2⟩ | ⟨x1,x2⟩ <;> rcases hy' with ⟨y1,y2⟩ | ⟨y1,y2⟩
   ·rw [x2] at y2
    cases y2;rfl
   ·rw [x1] at y1;cases y1
   ·rw [x1] at y1;cases y1
   ·rw [x2,y2]
  subst hv;exact vk ho hy hnd (ih _ _ w h1' h2' (by rw [zK hsz,if_neg (Ne.symm i1)];exact u1) (by rw [zK hsz,if_neg (Ne.symm i2)];exact u2) hcount)
def vY : List zW -> Option Nat
 | [] => none
 | (i,true,_) :: _ => some i
 | (_,false,_) :: l => vY l
theorem wG : ∀ (q l : List zW),(∀ x ∈ q,x.2.1 = false) -> vY (q ++ l) = vY l
 | [],_,_ => rfl
 | (i,true,pd) :: q,l,h => by have := h (i,true,pd) sM;cases this
 | (i,false,pd) :: q,l,h => by
  rw [aC,vY];exact wG q l fun x hx => h x (aK _ hx)
def okTwo (ops : Array Oper) (e1 e2 : Nat) (A1 A2 : List (List Nat)) (n : Nat) (pl1 pl2 : List zW) : Bool :=
 cL ops e1 e2 A1 && (cL ops e2 e1 A2 && (e1 != e2 && (xQ ops A1 n [] pl1 && (xQ ops A2 n [] pl2 && (((iC ops.size).all fun i => pl1.any (·.1 == i)) && (((iC ops.size).all fun i => pl2.any (·.1 == i)) && (vY pl1 == some e1 && vY pl2 == some e2)))))))
theorem DInv.start {ops : Array Oper} {A : List (List Nat)} {K : Cont} {D : List Nat} {L : Env} {S : zb} {a : Act} {w : World} {pl : List zW} (ha : jR n L D a) (hw : Hold w S) (hok : xQ ops A n [] pl = true)
  (hall : (iC ops.size).all (fun i => pl.any (·.1 == i)) = true) (h : xD P n ops (K .normal D) pl L S) : DInv P n ops A (K .normal D) D w [] pl (Array.replicate ops.size false) L S a { w with drawn := w.drawn + 1 } := by
 have h0 : ∀ i,(Array.replicate ops.size false).getD i false = false := by
  intro i;simp only [Array.getD_eq_getD_getElem?,Array.getElem?_replicate];split <;> rfl
 have hw' : Hold { w with drawn := w.drawn + 1 } S := ⟨hw.nd,hw.get⟩;have he : Ext w { w with drawn := w.drawn + 1 } := ⟨rfl,rfl,rfl,aR _⟩;refine ⟨sM,?_,?_,?_,?_,?_,?_,ha.size,ha.marks,he,hw',hok,rfl,?_,h⟩
 ·intro i hi;rw [h0] at hi;cases hi
 ·intro x hx;cases hx
 ·intro i hi;rw [h0] at hi;cases hi
 ·intro t v ht;exact .inr (ha.get t v ht)
 ·intro x hx;cases hx
 ·intro x hx;cases hx
 ·intro i hi;have := List.all_eq_true.1 hall i (List.mem_range.2 hi);obtain ⟨x,hx,e⟩ := List.any_eq_true.1 this;exact .inr ⟨x,hx,by simpa using e⟩
theorem yJ {id : Nat} {ops : Array Oper} {K : Cont} {D : List Nat} {L : Env} {S : zb} (e1 e2 : Nat) (A1 : List (List Nat)) (pl1 : List zW) (A2 : List (List Nat)) (pl2 : List zW)
  (h1 : xD P n ops (K .normal D) pl1 L S) (h2 : xD P n ops (K .normal D) pl2 L S) (hm : P.follows .mixedOrders = true := by kernel_rfl)
  (hok : okTwo ops e1 e2 A1 A2 n pl1 pl2 = true := by kernel_rfl) : zB P n ro (.region id ops true) K D L S := by
 refine ⟨fun a w ha hw => ?_⟩;refine wpIn_region_any hm ?_;simp only [okTwo,aM,beq_iff_eq,bne_iff_ne,ne_eq] at hok;obtain ⟨c1,c2,hne,p1,p2,all1,all2,f1,f2⟩ := hok;obtain ⟨pre1,l1,L1,d1,g1,q1,k1,z1⟩ := (DInv.start (K := K) ha hw p1 all1 h1).norm2;obtain ⟨pre2,l2,L2,d2,g2,q2,k2,z2⟩ := (DInv.start (K := K) ha hw p2 all2 h2).norm2;rw [k1,wG q1 l1 z1] at f1;rw [k2,wG q2 l2 z2] at f2
 rcases g1 with rfl | ⟨i1,pd1,l1,rfl⟩
 ·cases f1
 rcases g2 with rfl | ⟨i2,pd2,l2,rfl⟩
 ·cases f2
 simp only [vY,Option.some.injEq] at f1 f2;subst f1 f2
 have h0 : ∀ i,(Array.replicate ops.size false).getD i false = false := by
  intro i;simp only [Array.getD_eq_getD_getElem?,Array.getElem?_replicate];split <;> rfl
 exact gz c1 c2 hne ops.size _ a _ d1 d2 (h0 _) (h0 _) (mN (List.length_filter_le _ _) sM)
end Go.Ost
namespace Go.Ost
open Go
variable {P : Program} {n : Nat} {ro : Option Nat}
def afterE (ops : Array Oper) (E : List (Nat × Nat)) (i : Nat) : List Nat := ((E.filter fun e => e.2 == i).map (·.1)) ++ jd ops i
def Ql (ops : Array Oper) (E : List (Nat × Nat)) (A : List (List Nat)) : Bool :=
 (iC ops.size).all fun i => (A.getD i []).all fun j => (afterE ops E i).any fun e => e == j || (A.getD e []).contains j
theorem qZ {ops : Array Oper} {A : List (List Nat)} {E : List (Nat × Nat)} {i : Nat} {listed : Array Bool} (hc : Ql ops E A = true) (him : i < ops.size) (clos : ∀ i,listed.getD i false = true -> ∀ j ∈ A.getD i [],listed.getD j false = true)
  (hdep : ∀ j ∈ jd ops i,listed.getD j false = true) (hx : ∀ e ∈ E,e.2 = i -> listed.getD e.1 false = true) : ∀ j ∈ A.getD i [],listed.getD j false = true := by
 intro j hj;have h1 := List.all_eq_true.1 hc i (List.mem_range.2 him);have h2 := List.all_eq_true.1 h1 j hj;obtain ⟨e,he,h3⟩ := List.any_eq_true.1 h2
 have hel : listed.getD e false = true := by
  rcases List.mem_append.1 he with he | he
  ·obtain ⟨x,hx1,rfl⟩ := List.mem_map.1 he;obtain ⟨hx2,hx3⟩ := List.mem_filter.1 hx1;exact hx x hx2 (by simpa using hx3)
  ·exact hdep e he
 simp only [mP,beq_iff_eq,List.contains_eq_mem,decide_eq_true_eq] at h3
 rcases h3 with rfl | h3
 ·exact hel
 ·exact clos e hel j h3
theorem DInv.effectX {ops : Array Oper} {A : List (List Nat)} {K : Cont} {D : List Nat} {w0 : World} {pre l'' : List zW} {listed : Array Bool} {L : Env} {S : zb} {a : Act} {w : World} {i : Nat} {pd : List Nat} {X : Act -> World -> Prop}
  (h : DInv P n ops A (K .normal D) D w0 pre ((i,true,pd) :: l'') listed L S a w) (him : i < ops.size) (hun : listed.getD i false = false) (hanc : ∀ j ∈ A.getD i [],listed.getD j false = true) (hin : ¬ ∃ x ∈ pre,x.1 = i)
  (ih : ∀ (pre : List zW) (L : Env) (S : zb) (a : Act) (w : World),DInv P n ops A (K .normal D) D w0 pre l'' (listed.setIfInBounds i true) L S a w -> X a w) :
  wpOpIn (FW ro) 0 P ops (KQ n K w0) i X a w := by
 have hsz : i < listed.size := by rw [h.size];exact him
 have ho : ops[i]? = some ops[i] := by simp [him]
 have hsize' : (listed.setIfInBounds i true).size = ops.size := by simp [h.size]
 have hclos' : ∀ k,(listed.setIfInBounds i true).getD k false = true -> ∀ j ∈ A.getD k [],(listed.setIfInBounds i true).getD j false = true := by
  intro k hk j hj;rw [zK hsz] at hk ⊢
  split
  ·rfl
  ·split at hk
   ·subst_vars;exact hanc j hj
   ·exact h.clos k hk j hj
 have hok := h.ok;simp only [xQ,aM] at hok;obtain ⟨o1,o2,o3,o4,o5,o6⟩ := xK hok.1
 have hag : kU (ops[i].looksAt ops) L a := by
  intro t ht u hu
  rcases h.tmps t u hu with ⟨y,hy,h1,h2⟩ | h3
  ·exfalso
   have hye : y.2.1 = false := by
    cases hh : y.2.1 with
    | false => rfl
    | true => rw [h.effs y hy hh] at h1;cases h1
   have := hanc _ ((o4 y hy hye).1 t h2 (by simpa [jh,ho] using ht));rw [h1] at this;cases this
  ·exact h3
 have hrest := h.rest;simp only [xD,ho] at hrest
 have next : ∀ (v : Value) (S' : zb) (w' : World),Ext w w' -> Hold w' S' -> xF P ops pd (putT n (ops[i]).dst v L) S' (xD P n ops (K .normal D) l'' (putT n (ops[i]).dst v L) S') ->
   X (a.put (ops[i]).dst v) w' := by
  intro v S' w' he hh hst;obtain ⟨hdraw,hstill⟩ := Zn pd hst;have hdi : qw ops i = (ops[i]).dst := by simp [qw,ho]
  have away : ∀ y ∈ pre,(listed.setIfInBounds i true).getD y.1 false = false -> y.2.1 = false /\ listed.getD y.1 false = false /\ y.1 ∉ A.getD i [] /\
    ∀ d,(ops[i]).dst = some d -> d ∉ jh ops y.1 /\ qw ops y.1 ≠ some d := by
   intro y hy hyl;rw [zK hsz] at hyl
   split at hyl
   ·cases hyl
   ·have hye : y.2.1 = false := by
     cases hh : y.2.1 with
     | false => rfl
     | true => rw [h.effs y hy hh] at hyl;cases hyl
    have hna : y.1 ∉ A.getD i [] := fun hm => by rw [hanc _ hm] at hyl;cases hyl
    exact ⟨hye,hyl,hna,fun d hd => ((o4 y hy hye).2.1 d (by rw [hdi];exact hd)).resolve_right (fun hc => hna hc.2)⟩
  refine ih (pre ++ [(i,true,pd)]) (putT n (ops[i]).dst v L) S' _ w' ⟨hsize',?_,?_,hclos',?_,?_,?_,?_,?_,h.ext.trans he,hh,hok.2,qQ _ _ h.pres (by simpa using hok.1),?_,hdraw⟩
  ·intro k hk;rw [zK hsz] at hk
   split at hk
   ·exact ⟨(i,true,pd),sM,by subst_vars;rfl⟩
   ·obtain ⟨y,hy,e⟩ := h.inPre k hk;exact ⟨y,iG _ hy,e⟩
  ·intro y hy hye;rw [zK hsz]
   split
   ·rfl
   ·rcases List.mem_append.1 hy with hy | hy
    ·exact h.effs y hy hye
    ·simp at hy;subst hy;exact absurd rfl ‹_›
  ·intro t u hu
   rcases JF hu with ⟨h1,h2,rfl⟩ | h1
   ·right;simp [h1,Act.put,h.asz,h2]
   ·by_cases hdt : (ops[i]).dst = some t /\ t < n
    ·have : lookT (putT n (ops[i]).dst v L) t = some v := by simp [hdt.1,putT,hdt.2,lookT]
     rw [this] at hu;cases hu
     right;simp [hdt.1,Act.put,h.asz,hdt.2]
    ·have keep : a.tmps[t]? = some u -> (a.put (ops[i]).dst v).tmps[t]? = some u := by
      intro hat
      cases hd : (ops[i]).dst with
      | none => exact hat
      | some d =>
       simp only [Act.put]
       by_cases e : d = t
       ·subst e;have := (Array.getElem?_eq_some_iff.1 hat).1;rw [h.asz] at this;exact absurd ⟨hd,this⟩ hdt
       ·rw [lN e];exact hat
     rcases h.tmps t u h1 with ⟨y,hy,h2,h3⟩ | h3
     ·by_cases hyi : (listed.setIfInBounds i true).getD y.1 false = false
      ·exact .inl ⟨y,iG _ hy,hyi,h3⟩
      ·exfalso
       rw [zK hsz] at hyi
       split at hyi
       ·exact hin ⟨y,hy,‹_›⟩
       ·exact hyi h2
     ·exact .inr (keep h3)
  ·intro y hy hyl
   rcases List.mem_append.1 hy with hy | hy
   ·obtain ⟨hye,hyl',hna,hnd⟩ := away y hy hyl;obtain ⟨o,v',ho',⟨d,hd,hdn,hv⟩,hf⟩ := h.facts y hy hyl'
    have hlk : ∀ t,t ∈ o.looksAt ops ∨ t = d -> lookT (putT n (ops[i]).dst v L) t = lookT L t := by
     intro t ht;refine yk fun e => ?_
     obtain ⟨n1,n2⟩ := hnd t e
     rcases ht with ht | rfl
     ·exact n1 (by simpa [jh,ho'] using ht)
     ·exact n2 (by simp [qw,ho',hd])
    by_cases hrd : Xw o.op = true
    ·have hmem : y.1 ∈ pd := by
      have := (o4 y hy hye).2.2 rfl (by simp [Vz,ho',hrd]);exact this.resolve_left hna
     obtain ⟨o2,d2,v2,e1,e2,e3,hq⟩ := hstill y.1 hmem;rw [ho'] at e1;cases e1
     rw [hd] at e2;cases e2
     obtain ⟨v3,rfl,_,hq'⟩ := yf hq;refine ⟨o,v3,ho',⟨d,hd,hdn,e3⟩,fun a' w'' ha hw => hq' a' w'' ha hw⟩
    ·refine ⟨o,v',ho',⟨d,hd,hdn,by rw [hlk d (.inr rfl)];exact hv⟩,fun a' w'' ha _ => hf a' w'' (fun t ht u hu => ha t ht u (by rw [hlk t (.inl ht)];exact hu)) (fun hh => absurd hh hrd)⟩
   ·simp at hy;subst hy
    rw [zK hsz] at hyl;simp at hyl
  ·intro x hx y hy hxe hye d' hd' hl'
   rcases List.mem_append.1 hx with hx | hx
   ·rcases List.mem_append.1 hy with hy | hy
    ·exact h.prs x hx y hy hxe hye d' hd' hl'
    ·simp at hy;subst hy;cases hye
   ·simp at hx;subst hx;cases hxe
  ·cases (ops[i]).dst <;> simp [Act.put,h.asz]
  ·cases (ops[i]).dst <;> exact h.dfr
  ·intro j hj
   rcases h.all j hj with ⟨x,hx,e⟩ | ⟨x,hx,e⟩
   ·exact .inl ⟨x,iG _ hx,e⟩
   ·rcases List.mem_cons.1 hx with rfl | hx
    ·exact .inl ⟨_,sM,e⟩
    ·exact .inr ⟨x,hx,e⟩
 unfold wpOpIn;rw [ho];simp only
 rcases kQ hag hrest with ⟨hw1,hs⟩ | ⟨hw1,hs⟩
 ·rw [if_pos hw1];obtain ⟨ρ,hρ,hρe⟩ := XR hag;refine ⟨fun _ _ => trivial,?_⟩;rw [Oper.semAt_eq _ _ _ (vD hs),<- execOp_congr _ (vU hs) hρe];exact Zi (Zo hρ hs) h.hold fun v S' w' hk he hh => next v S' w' he hh hk
 ·rw [if_neg (by simp [hw1])];exact ⟨fun _ _ => trivial,next undef S w (Ext.refl w) h.hold hs⟩
theorem Xo {ops : Array Oper} {A : List (List Nat)} {K : Cont} {D : List Nat} {w0 : World} {E : List (Nat × Nat)} (hc : Ql ops E A = true) : ∀ (fuel : Nat) (pre l : List zW) (listed : Array Bool) (L : Env) (S : zb) (a : Act) (w : World),
  DInv P n ops A (K .normal D) D w0 pre l listed L S a w -> (∀ e ∈ E,listed.getD e.1 false = true) -> ((iC ops.size).filter fun i => !listed.getD i false).length <= fuel ->
  wpAnyIn (FW ro) 0 P .any ops (KQ n K w0) fuel listed a w := by
 intro fuel
 induction fuel with
 | zero =>
  intro pre l listed L S a w h _ hle;have hr := vM h.size hle;exact ⟨hr,vG h hr⟩
 | succ fuel ih =>
  intro pre l listed L S a w h h1 hle;refine ⟨fun hr => vG h hr,fun i hi => ?_⟩;obtain ⟨pre,l,L,h,hl⟩ := h.norm;obtain ⟨him,hun,hdep⟩ := wi h.size hi;have hsz : i < listed.size := by rw [h.size];exact him
  have hanc := qZ hc him h.clos hdep (fun e he _ => h1 e he);have hcount := wp him hsz hun hle;have h1' : ∀ e ∈ E,(listed.setIfInBounds i true).getD e.1 false = true := fun e he => by rw [zK hsz];split <;> first | rfl | exact h1 e he
  by_cases hin : ∃ x ∈ pre,x.1 = i
  ·obtain ⟨o,v,ho,hy,hnd,h'⟩ := h.reckon hsz hun hanc hin;exact vk ho hy hnd (ih pre l _ L S _ w h' h1' hcount)
  ·have hnx : ∃ pd l'',l = (i,true,pd) :: l'' := by
    rcases (h.all i him).resolve_left hin with ⟨x,hx,he⟩
    rcases hl with rfl | ⟨j,pd,l'',rfl⟩
    ·cases hx
    ·rcases List.mem_cons.1 hx with rfl | hx
     ·cases he;exact ⟨pd,l'',rfl⟩
     ·exfalso
      have hok := h.ok;simp only [xQ,aM] at hok;obtain ⟨q,hq⟩ := kB l'' _ hok.2 x hx;obtain ⟨_,o2,_⟩ := xK hq;have := hanc j (by rw [<- he];exact o2 (j,true,pd) sM rfl);obtain ⟨y,hy,e⟩ := h.inPre j this;obtain ⟨_,_,o3,_⟩ := xK hok.1;exact o3 y hy e
   obtain ⟨pd,l'',rfl⟩ := hnx;exact h.effectX him hun hanc hin fun pre L S a w h' => ih pre _ _ L S a w h' h1' hcount
theorem XU {o o' : Oper} {ops : Array Oper} {i : Nat} {a : Act} {w : World} {v v' : Value} (ho : ops[i]? = some o) (ho' : ops[i]? = some o') (hy : yL P ops o a w v) (hy' : yL P ops o' a w v') : v = v' := by
 rw [ho] at ho'
 cases ho'
 rcases hy with ⟨x1,x2⟩ | ⟨x1,x2⟩ <;> rcases hy' with ⟨y1,y2⟩ | ⟨y1,y2⟩
 ·rw [x2] at y2
  cases y2;rfl
 ·rw [x1] at y1;cases y1
 ·rw [x1] at y1;cases y1
 ·rw [x2,y2]
theorem cD {ops : Array Oper} {A1 A2 : List (List Nat)} {K : Cont} {D : List Nat} {w0 : World} {e1 e2 : Nat} {E1 E2 : List (Nat × Nat)} {pd1 pd2 : List Nat} {L1 L2 : Env} {S1 S2 : zb} {pre1 pre2 l1 l2 : List zW} (hc1 : Ql ops E1 A1 = true) (hc2 : Ql ops E2 A2 = true) (hne : e1 ≠ e2)
  (t1 : ∀ e ∈ E1,e.2 = e2 /\ e.1 = e1) (listed0 : Array Bool) (t2 : ∀ e ∈ E2,(e.2 = e1 /\ e.1 = e2) ∨ (e.2 = e2 /\ listed0.getD e.1 false = true)) :
  ∀ (fuel : Nat) (listed : Array Bool) (a : Act) (w : World),(∀ j,listed0.getD j false = true -> listed.getD j false = true) -> DInv P n ops A1 (K .normal D) D w0 pre1 ((e1,true,pd1) :: l1) listed L1 S1 a w -> DInv P n ops A2 (K .normal D) D w0 pre2 ((e2,true,pd2) :: l2) listed L2 S2 a w ->
  listed.getD e1 false = false -> listed.getD e2 false = false -> ((iC ops.size).filter fun i => !listed.getD i false).length <= fuel -> wpAnyIn (FW ro) 0 P .any ops (KQ n K w0) fuel listed a w := by
 intro fuel
 induction fuel with
 | zero =>
  intro listed a w _ h _ _ _ hle;have hr := vM h.size hle;exact ⟨hr,vG h hr⟩
 | succ fuel ih =>
  intro listed a w hmon h1 h2 u1 u2 hle;refine ⟨fun hr => vG h1 hr,fun i hi => ?_⟩;obtain ⟨him,hun,hdep⟩ := wi h1.size hi;have hsz : i < listed.size := by rw [h1.size];exact him
  have hcount := wp him hsz hun hle
  by_cases i1 : i = e1
  ·subst i1;exact h1.effectX him hun (qZ hc1 him h1.clos hdep (fun e he h => absurd ((t1 e he).1.symm.trans h) hne.symm)) (yZ h1) fun pre L S a w h' => Xo hc1 fuel pre _ _ L S a w h' (fun e he => by rw [(t1 e he).2,zK hsz,if_pos rfl]) hcount
  by_cases i2 : i = e2
  ·subst i2;refine h2.effectX him hun (qZ hc2 him h2.clos hdep (fun e he h => ?_)) (yZ h2) fun pre L S a w h' => Xo hc2 fuel pre _ _ L S a w h' (fun e he => ?_) hcount
   ·rcases t2 e he with ⟨q,_⟩ | ⟨_,q⟩
    ·exact absurd (q.symm.trans h) hne
    ·exact hmon _ q
   ·rw [zK hsz]
    rcases t2 e he with ⟨_,q⟩ | ⟨_,q⟩
    ·rw [if_pos q]
    ·split
     ·rfl
     ·exact hmon _ q
  have a1 := qZ hc1 him h1.clos hdep (fun e he h => absurd (h.symm.trans (t1 e he).1) i2)
  have a2 := qZ hc2 him h2.clos hdep (fun e he h => by
   rcases t2 e he with ⟨q,_⟩ | ⟨q,_⟩
   ·exact absurd (h.symm.trans q) i1
   ·exact absurd (h.symm.trans q) i2)
  obtain ⟨o,v,ho,hy,hnd,h1'⟩ := h1.reckon hsz hun a1 (qG h1 him i1 u1 a1);obtain ⟨o',v',ho',hy',hnd',h2'⟩ := h2.reckon hsz hun a2 (qG h2 him i2 u2 a2);obtain rfl := XU ho ho' hy hy';rw [ho] at ho'
  cases ho'
  exact vk ho hy hnd (ih _ _ w (fun j hj => by rw [zK hsz];split <;> first | rfl | exact hmon j hj) h1' h2' (by rw [zK hsz,if_neg (Ne.symm i1)];exact u1) (by rw [zK hsz,if_neg (Ne.symm i2)];exact u2) hcount)
def Vf (o : Oper) : Bool := match o.op with
 | .buildSlice .. => true
 | _ => false
theorem wp_and {ops : Array Oper} {Q : Exit -> Act -> World -> Prop} {i : Nat} {X1 X2 : Act -> World -> Prop} {a : Act} {w : World} (hb : (match ops[i]? with | some o => Vf o | none => false) = true) (h1 : wpOpIn (FW ro) 0 P ops Q i X1 a w) (h2 : wpOpIn (FW ro) 0 P ops Q i X2 a w) :
  wpOpIn (FW ro) 0 P ops Q i (fun a w => X1 a w /\ X2 a w) a w := by
 unfold wpOpIn at *
 cases ho : ops[i]? with
 | none => rw [ho] at hb;cases hb
 | some o =>
  rw [ho] at h1 h2 hb;simp only at h1 h2 hb ⊢
  split
  ·rename_i hw
   rw [if_pos hw] at h1 h2;refine ⟨h1.1,?_⟩;have k1 := h1.2;have k2 := h2.2
   have hv : ∀ x w',(o.semAt (FW ro).round a.eval).run P w = .ok x w' -> ∃ v,x = .value v := by
    intro x w' hr;unfold Vf at hb
    split at hb
    ·rename_i hop
     rw [Oper.semAt_eq _ _ _ (by rw [hop];intro c h;cases h)] at hr;unfold execOp at hr;rw [hop] at hr;simp only [Sem.run_bind,Sem.run_pure] at hr;generalize hq : Sem.run P _ w = q at hr
     cases q with
     | ok v w'' => simp only [Result.andThen] at hr;cases hr;exact ⟨v,rfl⟩
     | halt z w'' => simp only [Result.andThen] at hr;cases hr
    ·cases hb
   cases hr : (o.semAt (FW ro).round a.eval).run P w with
   | ok x w' =>
    rw [hr] at k1 k2;obtain ⟨v,rfl⟩ := hv x w' hr;exact ⟨k1,k2⟩
   | halt x w' =>
    rw [hr] at k1 k2
    cases x <;> first | exact k1 | exact k1.elim
  ·rename_i hw
   rw [if_neg hw] at h1 h2;exact ⟨h1.1,h1.2,h2.2⟩
def yT : List zW -> Option Nat
 | [] => none
 | (_,true,_) :: l => vY l
 | (_,false,_) :: l => yT l
theorem Xv : ∀ (q l : List zW),(∀ x ∈ q,x.2.1 = false) -> yT (q ++ l) = yT l
 | [],_,_ => rfl
 | (i,true,pd) :: q,l,h => by have := h (i,true,pd) sM;cases this
 | (i,false,pd) :: q,l,h => by
  rw [aC,yT];exact Xv q l fun x hx => h x (aK _ hx)
theorem DInv.first {ops : Array Oper} {A : List (List Nat)} {K : Env -> zb -> Prop} {D : List Nat} {w0 : World} {pre l : List zW} {listed : Array Bool} {L : Env} {S : zb} {a : Act} {w : World} {e : Nat}
  (h : DInv P n ops A K D w0 pre l listed L S a w) (he : vY l = some e) : ∃ pre' pd l' L',DInv P n ops A K D w0 pre' ((e,true,pd) :: l') listed L' S a w /\ yT l = vY l' := by
 obtain ⟨pre',l',L',h',g,q,k,z⟩ := h.norm2;rw [k,wG q l' z] at he
 rcases g with rfl | ⟨i,pd,l'',rfl⟩
 ·cases he
 ·simp only [vY,Option.some.injEq] at he;subst he;exact ⟨pre',pd,l'',L',h',by rw [k,Xv q _ z];rfl⟩
theorem UD {ops : Array Oper} {A1 A2 A3 : List (List Nat)} {K : Cont} {D : List Nat} {w0 : World} {x y z : Nat} {pd1 pd2 pd3 : List Nat} {L1 L2 L3 : Env} {S1 S2 S3 : zb} {pre1 pre2 pre3 l1 l2 l3 : List zW}
  (hc1 : Ql ops [(y,z)] A1 = true) (hc2 : Ql ops [(z,y),(x,z)] A2 = true) (hc3 : Ql ops [(z,x)] A3 = true) (nxz : x ≠ z) (nyz : y ≠ z) (nxy : x ≠ y) (hyx : x ∈ jd ops y) (hb : (match ops[x]? with | some o => Vf o | none => false) = true)
  (f1 : vY l1 = some y) (f2 : vY l2 = some z) :
  ∀ (fuel : Nat) (listed : Array Bool) (a : Act) (w : World),DInv P n ops A1 (K .normal D) D w0 pre1 ((x,true,pd1) :: l1) listed L1 S1 a w -> DInv P n ops A2 (K .normal D) D w0 pre2 ((x,true,pd2) :: l2) listed L2 S2 a w -> DInv P n ops A3 (K .normal D) D w0 pre3 ((z,true,pd3) :: l3) listed L3 S3 a w ->
  listed.getD x false = false -> listed.getD y false = false -> listed.getD z false = false -> ((iC ops.size).filter fun i => !listed.getD i false).length <= fuel -> wpAnyIn (FW ro) 0 P .any ops (KQ n K w0) fuel listed a w := by
 intro fuel
 induction fuel with
 | zero =>
  intro listed a w h _ _ _ _ _ hle;have hr := vM h.size hle;exact ⟨hr,vG h hr⟩
 | succ fuel ih =>
  intro listed a w h1 h2 h3 u1 u2 u3 hle;refine ⟨fun hr => vG h1 hr,fun i hi => ?_⟩;obtain ⟨him,hun,hdep⟩ := wi h1.size hi;have hsz : i < listed.size := by rw [h1.size];exact him
  have hcount := wp him hsz hun hle
  by_cases ix : i = x
  ·subst ix
   have k1 := h1.effectX (ro := ro) (X := fun a w => ∃ pre L S,DInv P n ops A1 (K .normal D) D w0 pre l1 (listed.setIfInBounds i true) L S a w) him hun
    (qZ hc1 him h1.clos hdep (fun e he h => by simp only [mJ] at he;subst he;exact absurd h nxz.symm)) (yZ h1) fun pre L S a w h' => ⟨pre,L,S,h'⟩
   have k2 := h2.effectX (ro := ro) (X := fun a w => ∃ pre L S,DInv P n ops A2 (K .normal D) D w0 pre l2 (listed.setIfInBounds i true) L S a w) him hun
    (qZ hc2 him h2.clos hdep (fun e he h => by
     simp only [aY,aT,or_false] at he
     rcases he with rfl | rfl
     ·exact absurd h nxy.symm
     ·exact absurd h nxz.symm)) (yZ h2) fun pre L S a w h' => ⟨pre,L,S,h'⟩
   refine wpOpIn_mono (fun a w hh => ?_) (wp_and hb k1 k2);obtain ⟨⟨q1,M1,T1,d1⟩,⟨q2,M2,T2,d2⟩⟩ := hh;obtain ⟨r1,p1,m1,N1,d1,_⟩ := d1.first f1;obtain ⟨r2,p2,m2,N2,d2,_⟩ := d2.first f2;have hx : (listed.setIfInBounds i true).getD i false = true := by rw [zK hsz,if_pos rfl]
   refine cD hc1 hc2 nyz (fun e he => ?_) (listed.setIfInBounds i true) (fun e he => ?_) fuel _ a w (fun j hj => hj) d1 d2 (by rw [zK hsz,if_neg nxy.symm];exact u2) (by rw [zK hsz,if_neg nxz.symm];exact u3) hcount
   ·simp only [mJ] at he;subst he;exact ⟨rfl,rfl⟩
   ·simp only [aY,aT,or_false] at he
    rcases he with rfl | rfl
    ·exact .inl ⟨rfl,rfl⟩
    ·exact .inr ⟨rfl,hx⟩
  by_cases iz : i = z
  ·subst iz;exact h3.effectX him hun (qZ hc3 him h3.clos hdep (fun e he h => by simp only [mJ] at he;subst he;exact absurd h nxz)) (yZ h3) fun pre L S a w h' => Xo hc3 fuel pre _ _ L S a w h' (fun e he => by simp only [mJ] at he;subst he;rw [zK hsz,if_pos rfl]) hcount
  have iy : i ≠ y := fun e => by
   subst e;have := hdep x hyx;rw [u1] at this;cases this
  have a1 := qZ hc1 him h1.clos hdep (fun e he h => by simp only [mJ] at he;subst he;exact absurd h.symm iz)
  have a2 := qZ hc2 him h2.clos hdep (fun e he h => by
   simp only [aY,aT,or_false] at he
   rcases he with rfl | rfl
   ·exact absurd h.symm iy
   ·exact absurd h.symm iz)
  have a3 := qZ hc3 him h3.clos hdep (fun e he h => by simp only [mJ] at he;subst he;exact absurd h.symm ix);obtain ⟨o,v,ho,hy,hnd,h1'⟩ := h1.reckon hsz hun a1 (qG h1 him ix u1 a1);obtain ⟨o',v',ho',hy',hnd',h2'⟩ := h2.reckon hsz hun a2 (qG h2 him ix u1 a2);obtain ⟨o'',v'',ho'',hy'',hnd'',h3'⟩ := h3.reckon hsz hun a3 (qG h3 him iz u3 a3);obtain rfl := XU ho ho' hy hy';obtain rfl := XU ho ho'' hy hy'';rw [ho] at ho' ho''
  cases ho'
  cases ho''
  exact vk ho hy hnd (ih _ _ w h1' h2' h3' (by rw [zK hsz,if_neg (Ne.symm ix)];exact u1) (by rw [zK hsz,if_neg (Ne.symm iy)];exact u2) (by rw [zK hsz,if_neg (Ne.symm iz)];exact u3) hcount)
def planB (ops : Array Oper) (A : List (List Nat)) (n : Nat) (pl : List zW) : Bool := xQ ops A n [] pl && ((iC ops.size).all fun i => pl.any (·.1 == i))
def eX (ops : Array Oper) (x y z : Nat) (A1 A2 A3 : List (List Nat)) (n : Nat) (pl1 pl2 pl3 : List zW) : Bool :=
 Ql ops [(y,z)] A1 && (Ql ops [(z,y),(x,z)] A2 && (Ql ops [(z,x)] A3 && (x != z && (y != z && (x != y && ((jd ops y).contains x && ((match ops[x]? with | some o => Vf o | none => false) &&
  (planB ops A1 n pl1 && (planB ops A2 n pl2 && (planB ops A3 n pl3 && (vY pl1 == some x && (vY pl2 == some x && (vY pl3 == some z && (yT pl1 == some y && yT pl2 == some z))))))))))))))
theorem yI {id : Nat} {ops : Array Oper} {K : Cont} {D : List Nat} {L : Env} {S : zb} (x y z : Nat) (A1 : List (List Nat)) (pl1 : List zW) (A2 : List (List Nat)) (pl2 : List zW) (A3 : List (List Nat)) (pl3 : List zW)
  (h1 : xD P n ops (K .normal D) pl1 L S) (h2 : xD P n ops (K .normal D) pl2 L S) (h3 : xD P n ops (K .normal D) pl3 L S) (hm : P.follows .mixedOrders = true := by kernel_rfl)
  (hok : eX ops x y z A1 A2 A3 n pl1 pl2 pl3 = true := by kernel_rfl) : zB P n ro (.region id ops true) K D L S := by
 refine ⟨fun a w ha hw => ?_⟩;refine wpIn_region_any hm ?_;simp only [eX,planB,aM,beq_iff_eq,bne_iff_ne,ne_eq,List.contains_eq_mem,decide_eq_true_eq] at hok;obtain ⟨c1,c2,c3,nxz,nyz,nxy,hyx,hb,⟨p1,g1⟩,⟨p2,g2⟩,⟨p3,g3⟩,f1,f2,f3,s1,s2⟩ := hok;obtain ⟨q1,d1,m1,M1,k1,t1⟩ := (DInv.start (K := K) ha hw p1 g1 h1).first f1;obtain ⟨q2,d2,m2,M2,k2,t2⟩ := (DInv.start (K := K) ha hw p2 g2 h2).first f2;obtain ⟨q3,d3,m3,M3,k3,t3⟩ := (DInv.start (K := K) ha hw p3 g3 h3).first f3
 have h0 : ∀ i,(Array.replicate ops.size false).getD i false = false := by
  intro i;simp only [Array.getD_eq_getD_getElem?,Array.getElem?_replicate];split <;> rfl
 exact UD c1 c2 c3 nxz nyz nxy hyx hb (t1.symm.trans s1) (t2.symm.trans s2) ops.size _ a _ k1 k2 k3 (h0 _) (h0 _) (h0 _) (mN (List.length_filter_le _ _) sM)
end Go.Ost
namespace Go.Tab
open Go.Ost
structure En (V : Type) where
 key : L8
 v : V
 ahead : Int
 next : Int
variable {V : Type}
def hd : List Nat -> Int -> Int
 | [],n => n
 | i :: _,_ => i
def lst : Int -> List Nat -> Int
 | a,[] => a
 | _,i :: r => lst i r
def Lk (l : List (En V)) : Int -> List Nat -> Int -> Prop
 | _,[],_ => True
 | a,i :: r,n => (∃ e,l[i]? = some e /\ e.ahead = a /\ e.next = hd r n) /\ Lk l i r n
theorem hd_app (p q : List Nat) (n : Int) : hd (p ++ q) n = hd p (hd q n) := by cases p <;> rfl
theorem Xj : ∀ (p q : List Nat) (a : Int),lst a (p ++ q) = lst (lst a p) q
 | [],q,a => rfl
 | i :: r,q,a => Xj r q i
theorem yQ (l : List (En V)) : ∀ (p q : List Nat) (a n : Int),Lk l a (p ++ q) n ↔ Lk l a p (hd q n) /\ Lk l (lst a p) q n
 | [],q,a,n => by simp [Lk,lst]
 | i :: r,q,a,n => by
  simp only [aC,Lk,lst,hd_app,yQ l r q i n,and_assoc]
theorem JE : ∀ (p : List Nat) (a : Int),p ≠ [] -> ∃ i ∈ p,lst a p = (i : Int)
 | [],a,h => absurd rfl h
 | [i],a,_ => ⟨i,sM,rfl⟩
 | i :: j :: r,a,_ => by
  obtain ⟨k,hk,e⟩ := JE (j :: r) i sM;exact ⟨k,aK _ hk,e⟩
theorem kg {l l' : List (En V)} : ∀ (p : List Nat) (a n : Int),(∀ i ∈ p,∀ e,l[i]? = some e -> ∃ e',l'[i]? = some e' /\ e'.ahead = e.ahead /\ e'.next = e.next) -> Lk l a p n -> Lk l' a p n
 | [],a,n,_,_ => trivial
 | i :: r,a,n,h,hl => by
  obtain ⟨⟨e,h1,h2,h3⟩,h4⟩ := hl;obtain ⟨e',g1,g2,g3⟩ := h i (aA ..) e h1;exact ⟨⟨e',g1,by rw [g2,h2],by rw [g3,h3]⟩,kg r i n (fun j hj => h j (aK _ hj)) h4⟩
theorem fI {l : List (En V)} : ∀ (p : List Nat) (a n : Int),Lk l a p n -> ∀ i ∈ p,i < l.length
 | [],_,_,_,i,hi => by cases hi
 | j :: r,a,n,h,i,hi => by
  obtain ⟨⟨e,h1,_⟩,h4⟩ := h
  rcases List.mem_cons.1 hi with rfl | hi
  ·exact (List.getElem?_eq_some_iff.1 h1).1
  ·exact fI r j n h4 i hi
def setA (l : List (En V)) (i : Nat) (a : Int) : List (En V) := l.modify i fun e => { e with ahead := a }
def setN (l : List (En V)) (i : Nat) (n : Int) : List (En V) := l.modify i fun e => { e with next := n }
theorem vl (l : List (En V)) (i : Nat) (a : Int) : (setA l i a).length = l.length := by simp [setA]
theorem kw (l : List (En V)) (i : Nat) (n : Int) : (setN l i n).length = l.length := by simp [setN]
theorem Yu (l : List (En V)) {i j : Nat} (a : Int) (h : i ≠ j) : (setA l i a)[j]? = l[j]? := by simp [setA,mF,h]
theorem Jd (l : List (En V)) {i j : Nat} (a : Int) (h : i ≠ j) : (setN l i a)[j]? = l[j]? := by simp [setN,mF,h]
theorem Yv (l : List (En V)) {i : Nat} (a : Int) {e : En V} (h : l[i]? = some e) : (setA l i a)[i]? = some { e with ahead := a } := by simp [setA,mF,h]
theorem Yt (l : List (En V)) {i : Nat} (a : Int) {e : En V} (h : l[i]? = some e) : (setN l i a)[i]? = some { e with next := a } := by simp [setN,mF,h]
def kv (l : List (En V)) (i : Nat) : Option (L8 × V) := (l[i]?).map fun e => (e.key,e.v)
theorem dI (l : List (En V)) (i j : Nat) (a : Int) : kv (setA l i a) j = kv l j := by
 simp only [kv,setA,mF]
 by_cases h : i = j
 ·subst h;cases l[i]? <;> simp
 ·cases l[j]? <;> simp [h]
theorem dH (l : List (En V)) (i j : Nat) (a : Int) : kv (setN l i a) j = kv l j := by
 simp only [kv,setN,mF]
 by_cases h : i = j
 ·subst h;cases l[i]? <;> simp
 ·cases l[j]? <;> simp [h]
def unL (l : List (En V)) (a n : Int) : List (En V) :=
 let l1 := if a = -1 then l else setN l a.toNat n
 if n = -1 then l1 else setA l1 n.toNat a
def unF (first a n : Int) : Int := if a = -1 then n else first
def unE (last a n : Int) : Int := if n = -1 then a else last
theorem Qr (l : List (En V)) (a n : Int) : (unL l a n).length = l.length := by
 unfold unL;split <;> split <;> simp [vl,kw]
theorem unL_kv (l : List (En V)) (a n : Int) (j : Nat) : kv (unL l a n) j = kv l j := by
 unfold unL;split <;> split <;> simp [dI,dH]
theorem cZ {l : List (En V)} {p q : List Nat} {i : Nat} (hn : (p ++ i :: q).Nodup) (h : Lk l (-1) (p ++ i :: q) (-1)) :
  Lk (unL l (lst (-1) p) (hd q (-1))) (-1) (p ++ q) (-1) /\ unF (hd (p ++ i :: q) (-1)) (lst (-1) p) (hd q (-1)) = hd (p ++ q) (-1) /\ unE (lst (-1) (p ++ i :: q)) (lst (-1) p) (hd q (-1)) = lst (-1) (p ++ q) := by
 obtain ⟨hp,⟨⟨e,h1,h2,h3⟩,hq⟩⟩ := (yQ l p (i :: q) (-1) (-1)).1 h;have hp' : Lk l (-1) p i := hp
 have key1 : ∃ l1,l1 = (if lst (-1) p = -1 then l else setN l (lst (-1) p).toNat (hd q (-1))) /\ Lk l1 (-1) p (hd q (-1)) /\ ∀ j ∉ p,l1[j]? = l[j]? := by
  refine ⟨_,rfl,?_⟩
  rcases List.eq_nil_or_concat p with rfl | ⟨p0,x,rfl⟩
  ·exact ⟨trivial,fun j _ => rfl⟩
  ·rw [List.concat_eq_append] at *;have hl : lst (-1) (p0 ++ [x]) = (x : Int) := by rw [Xj];rfl
   rw [hl,if_neg oM]
   have hx : x ∉ p0 := by
    have := (List.nodup_append.1 hn).1;rw [List.nodup_append] at this;intro hm;exact this.2.2 x hm x sM rfl
   obtain ⟨g1,⟨⟨e1,k1,k2,k3⟩,_⟩⟩ := (yQ l p0 [x] (-1) i).1 hp';refine ⟨(yQ _ p0 [x] (-1) _).2 ⟨?_,⟨⟨_,Yt l _ k1,k2,rfl⟩,trivial⟩⟩,fun j hj => ?_⟩
   ·refine kg p0 (-1) _ (fun j hj e' he' => ⟨e',?_,rfl,rfl⟩) g1;rw [show ((x : Int)).toNat = x from oM,Jd _ _ (fun e : x = j => hx (by rw [e];exact hj))];exact he'
   ·rw [show ((x : Int)).toNat = x from oM];exact Jd _ _ (fun e => hj (by simp [e]))
 obtain ⟨l1,e1,hL1,hsame⟩ := key1
 have hq1 : Lk l1 i q (-1) := kg q i _ (fun j hj e' he' => ⟨e',by
  rw [hsame j (fun hm => (List.nodup_append.1 hn).2.2 j hm j (aK _ hj) rfl)];exact he',rfl,rfl⟩) hq
 refine ⟨?_,?_,?_⟩
 ·unfold unL;simp only [<- e1]
  cases q with
  | nil =>
   simp only [hd,if_true,aL];exact hL1
  | cons x q0 =>
   have hx1 : ¬ (hd (x :: q0) (-1) = -1) := by show ¬ ((x : Int) = -1);omega
   rw [if_neg hx1,show (hd (x :: q0) (-1)).toNat = x from by show ((x : Int)).toNat = x;omega];have hxp : x ∉ p := fun hm => (List.nodup_append.1 hn).2.2 x hm x sM rfl
   have hxq : x ∉ q0 := by
    have := (List.nodup_append.1 hn).2.1;rw [List.nodup_cons,List.nodup_cons] at this;exact this.2.1
   obtain ⟨⟨e2,m1,m2,m3⟩,hq2⟩ := hq1;refine (yQ _ p (x :: q0) (-1) _).2 ⟨kg p (-1) _ (fun j hj e' he' => ⟨e',by rw [Yu _ _ (fun e : x = j => hxp (by rw [e];exact hj))];exact he',rfl,rfl⟩) hL1,⟨⟨_,Yv l1 _ m1,rfl,m3⟩,?_⟩⟩;exact kg q0 x _ (fun j hj e' he' => ⟨e',by rw [Yu _ _ (fun e : x = j => hxq (by rw [e];exact hj))];exact he',rfl,rfl⟩) hq2
 ·unfold unF
  cases p with
  | nil => simp [lst,hd]
  | cons x p0 =>
   obtain ⟨k,_,hk⟩ := JE (x :: p0) (-1) sM;rw [hk,if_neg oM];rfl
 ·unfold unE;rw [Xj,Xj]
  cases q with
  | nil => simp [lst,hd]
  | cons x q0 =>
   have hx1 : ¬ (hd (x :: q0) (-1) = -1) := by show ¬ ((x : Int) = -1);omega
   rw [if_neg hx1];rfl
def haL (l : List (En V)) (i : Nat) (last : Int) : List (En V) :=
 let l1 := setN (setA l i last) i (-1)
 if last = -1 then l1 else setN l1 last.toNat i
def haF (first last : Int) (i : Nat) : Int := if last = -1 then i else first
theorem kn (l : List (En V)) (i : Nat) (last : Int) : (haL l i last).length = l.length := by
 unfold haL;split <;> simp [vl,kw]
theorem fY (l : List (En V)) (i : Nat) (last : Int) (j : Nat) : kv (haL l i last) j = kv l j := by
 unfold haL;split <;> simp [dI,dH]
theorem hang_ok {l : List (En V)} {p : List Nat} {i : Nat} (hn : p.Nodup) (hi : i ∉ p) (hlt : i < l.length) (h : Lk l (-1) p (-1)) :
  Lk (haL l i (lst (-1) p)) (-1) (p ++ [i]) (-1) /\ haF (hd p (-1)) (lst (-1) p) i = hd (p ++ [i]) (-1) /\ (i : Int) = lst (-1) (p ++ [i]) := by
 have hge : l[i]? = some l[i] := aE hlt
 have hi1 : ∀ a,(setN (setA l i a) i (-1))[i]? = some { l[i] with ahead := a,next := -1 } := fun a => by
  rw [Yt _ _ (Yv l a hge)]
 have hne : ∀ a j,j ≠ i -> (setN (setA l i a) i (-1))[j]? = l[j]? := fun a j hj => by
  rw [Jd _ _ (Ne.symm hj),Yu _ _ (Ne.symm hj)]
 refine ⟨?_,?_,by rw [Xj];rfl⟩
 ·unfold haL
  rcases List.eq_nil_or_concat p with rfl | ⟨p0,x,rfl⟩
  ·simp only [lst,if_true,aD];exact ⟨⟨_,hi1 _,rfl,rfl⟩,trivial⟩
  ·rw [List.concat_eq_append] at *;have hl : lst (-1) (p0 ++ [x]) = (x : Int) := by rw [Xj];rfl
   have hxi : x ≠ i := fun e => hi (by simp [e])
   have hx : x ∉ p0 := by
    rw [List.nodup_append] at hn;intro hm;exact hn.2.2 x hm x sM rfl
   simp only [hl];rw [if_neg oM,show ((x : Int)).toNat = x from oM];obtain ⟨g1,⟨⟨e1,k1,k2,k3⟩,_⟩⟩ := (yQ l p0 [x] (-1) (-1)).1 h;refine (yQ _ (p0 ++ [x]) [i] (-1) (-1)).2 ⟨(yQ _ p0 [x] (-1) _).2 ⟨?_,⟨⟨_,Yt _ _ (by rw [hne _ _ hxi];exact k1),k2,rfl⟩,trivial⟩⟩,⟨⟨_,by rw [Jd _ _ hxi];exact hi1 _,by rw [hl],rfl⟩,trivial⟩⟩;refine kg p0 (-1) _ (fun j hj e' he' => ⟨e',?_,rfl,rfl⟩) g1;rw [Jd _ _ (fun e : x = j => hx (by rw [e];exact hj)),hne _ _ (fun e => hi (by simp [<- e,hj]))];exact he'
 ·unfold haF
  cases p with
  | nil => simp [lst,hd]
  | cons x p0 =>
   obtain ⟨k,_,hk⟩ := JE (x :: p0) (-1) sM;rw [hk,if_neg oM];rfl
end Go.Tab
namespace Go.Tab
open Go.Ost
variable {V : Type}
section maps
variable {α : Type}
theorem Ih (q k : L8) (v : α) : ∀ m : List (L8 × α),mget (mput m k v) q = if q = k then some v else mget m q
 | [] => by simp only [mput,mget]
 | (k',u) :: l => by
  have ih := Ih q k v l;simp only [mput]
  by_cases h1 : k = k'
  ·subst h1;rw [if_pos rfl];simp only [mget]
   by_cases h2 : q = k
   ·rw [if_pos h2,if_pos h2]
   ·rw [if_neg h2,if_neg h2,if_neg h2]
  ·rw [if_neg h1];simp only [mget,ih]
   by_cases h2 : q = k'
   ·rw [if_pos h2,if_pos h2,if_neg (by rw [h2];exact fun e => h1 e.symm)]
   ·rw [if_neg h2,if_neg h2]
theorem yh {q : L8} : ∀ {m : List (L8 × α)},mget m q = none ↔ q ∉ m.map (·.1)
 | [] => by simp [mget]
 | (k,u) :: l => by
  simp only [mget,iB,aY,not_or]
  by_cases h : q = k
  ·rw [if_pos h];simp [h]
  ·rw [if_neg h,yh];simp [h]
theorem Ij (q k : L8) : ∀ m : List (L8 × α),(m.map (·.1)).Nodup -> mget (mdel m k) q = if q = k then none else mget m q
 | [],_ => by simp [mdel,mget]
 | (k',u) :: l,hn => by
  rw [iB,List.nodup_cons] at hn;have ih := Ij q k l hn.2;simp only [mdel]
  by_cases h1 : k = k'
  ·subst h1;rw [if_pos rfl]
   by_cases h2 : q = k
   ·subst h2;rw [if_pos rfl];exact yh.2 hn.1
   ·rw [if_neg h2];simp only [mget];rw [if_neg h2]
  ·rw [if_neg h1];simp only [mget,ih]
   by_cases h2 : q = k'
   ·rw [if_pos h2,if_pos h2,if_neg (by rw [h2];exact fun e => h1 e.symm)]
   ·rw [if_neg h2,if_neg h2]
theorem JC (k : L8) : ∀ m : List (L8 × α),(mdel m k).map (·.1) = (m.map (·.1)).erase k
 | [] => rfl
 | (k',u) :: l => by
  simp only [mdel,iB,List.erase_cons]
  by_cases h : k = k'
  ·subst h;simp
  ·rw [if_neg h,if_neg (by simpa using fun e => h e.symm),iB,JC k l]
theorem wC (k : L8) (v : α) : ∀ m : List (L8 × α),mget m k ≠ none -> (mput m k v).map (·.1) = m.map (·.1)
 | [],h => absurd rfl h
 | (k',u) :: l,h => by
  simp only [mput]
  by_cases h1 : k = k'
  ·subst h1;simp
  ·rw [if_neg h1,iB,iB,wC k v l (by simpa [mget,h1] using h)]
theorem XN (k : L8) (v : α) : ∀ m : List (L8 × α),mget m k = none -> mput m k v = m ++ [(k,v)]
 | [],_ => rfl
 | (k',u) :: l,h => by
  simp only [mget] at h;simp only [mput]
  by_cases h1 : k = k'
  ·rw [if_pos h1] at h;cases h
  ·rw [if_neg h1] at h ⊢;rw [XN k v l h];rfl
theorem ki {k : L8} {v : α} {m : List (L8 × α)} (h : mget m k = some v) : ∃ pre post,m = pre ++ (k,v) :: post /\ (∀ u,mput m k u = pre ++ (k,u) :: post) /\ mdel m k = pre ++ post /\ vN m k 0 = some (pre.length,v) := by
 cases hf : vN m k 0 with
 | none => rw [(km m 0 hf).1] at h;cases h
 | some p =>
  obtain ⟨pre,post,h1,h2,h3,h4,h5⟩ := kj (j := p.1) (v := p.2) m 0 hf;rw [h3] at h;cases h
  refine ⟨pre,post,h1,h4,h5,?_⟩;have : p.1 = pre.length := oM;rw [<- this]
theorem Ii {k : L8} {v : α} : ∀ {m : List (L8 × α)},(m.map (·.1)).Nodup -> (mget m k = some v ↔ (k,v) ∈ m)
 | [],_ => by simp [mget]
 | (k',u) :: l,hn => by
  rw [iB,List.nodup_cons] at hn;simp only [mget,aY,Prod.mk.injEq]
  by_cases h : k = k'
  ·subst h;rw [if_pos rfl]
   constructor
   ·intro e;cases e;exact .inl ⟨rfl,rfl⟩
   ·rintro (⟨_,rfl⟩ | hm)
    ·rfl
    ·exact absurd (List.mem_map.2 ⟨_,hm,rfl⟩) hn.1
  ·rw [if_neg h,Ii hn.2]
   simp [h]
end maps
structure Rep (l : List (En V)) (free : List Nat) (m : List (L8 × Nat)) (pl : List Nat) (es : List (L8 × V)) : Prop where
 nd : (pl ++ free).Nodup
 lt : ∀ i ∈ free,i < l.length
 lk : Lk l (-1) pl (-1)
 row : pl.map (kv l) = es.map some
 keys : (es.map (·.1)).Nodup
 mp : ∀ k i,mget m k = some i ↔ i ∈ pl /\ (kv l i).map (·.1) = some k
 mnd : (m.map (·.1)).Nodup
 mlen : m.length = es.length
theorem Rep.pl_len {l : List (En V)} {free : List Nat} {m : List (L8 × Nat)} {pl : List Nat} {es : List (L8 × V)} (h : Rep l free m pl es) : pl.length = es.length := by
 have := congrArg mA h.row;simpa using this
theorem Rep.at {l : List (En V)} {free : List Nat} {m : List (L8 × Nat)} {pl : List Nat} {es : List (L8 × V)} (h : Rep l free m pl es) {k : L8} {i : Nat} (hi : mget m k = some i) :
  ∃ v p q pre post,pl = p ++ i :: q /\ es = pre ++ (k,v) :: post /\ p.length = pre.length /\ kv l i = some (k,v) /\ mget es k = some v /\ mdel es k = pre ++ post /\ (∀ u,mput es k u = pre ++ (k,u) :: post) /\ p.map (kv l) = pre.map some /\ q.map (kv l) = post.map some := by
 obtain ⟨hm,hk⟩ := (h.mp k i).1 hi;obtain ⟨p,q,rfl⟩ := List.append_of_mem hm;have he := h.row;rw [lL,iB] at he;have hlen : p.length + (q.length + 1) = es.length := by have := h.pl_len;simpa using this
 obtain ⟨pre,x,post,rfl,hpl⟩ : ∃ pre x post,es = pre ++ x :: post /\ pre.length = p.length := by
  have hlt : p.length < es.length := oM;exact ⟨es.take p.length,es[p.length],es.drop (p.length + 1),by rw [<- iH,lR],by simp;omega⟩
 rw [lL,iB] at he;obtain ⟨e1,e2⟩ := List.append_inj he (by simp [hpl]);obtain ⟨e3,e4⟩ := List.cons.inj e2;obtain ⟨k',v⟩ := x;rw [e3] at hk;simp only [lX,Option.some.injEq] at hk;subst hk;have hg : mget (pre ++ (k',v) :: post) k' = some v := (Ii h.keys).2 sM;obtain ⟨pre',post',g1,g2,g3,g4⟩ := ki hg
 have hpp : pre' = pre /\ post' = post := by
  have hk2 := h.keys
  have : ∀ (a a' b b' : List (L8 × V)),a ++ (k',v) :: b = a' ++ (k',v) :: b' -> ((a ++ (k',v) :: b).map (·.1)).Nodup -> a = a' /\ b = b' := by
   intro a
   induction a with
   | nil =>
    intro a' b b' e hn
    cases a' with
    | nil => simp at e;exact ⟨rfl,e⟩
    | cons y a' =>
     simp only [aD,aC,List.cons.injEq] at e;obtain ⟨rfl,rfl⟩ := e
     simp at hn
   | cons x a ih =>
    intro a' b b' e hn
    cases a' with
    | nil =>
     simp only [aD,aC,List.cons.injEq] at e;obtain ⟨rfl,rfl⟩ := e
     simp at hn
    | cons y a' =>
     simp only [aC,List.cons.injEq] at e;obtain ⟨rfl,e⟩ := e;obtain ⟨h1,h2⟩ := ih a' b b' e (by simp only [aC,iB,List.nodup_cons] at hn;exact hn.2);exact ⟨by rw [h1],h2⟩
  obtain ⟨h1,h2⟩ := this pre pre' post post' g1 hk2;exact ⟨h1.symm,h2.symm⟩
 obtain ⟨rfl,rfl⟩ := hpp;exact ⟨v,p,q,pre',post',rfl,rfl,hpl.symm,e3,hg,g3,g2,e1,e4⟩
theorem Rep.miss {l : List (En V)} {free : List Nat} {m : List (L8 × Nat)} {pl : List Nat} {es : List (L8 × V)} (h : Rep l free m pl es) {k : L8} : mget m k = none ↔ mget es k = none := by
 constructor
 ·intro hm;rw [yh];intro hk;obtain ⟨⟨k',v⟩,hkv,rfl⟩ := List.mem_map.1 hk;have : some (k',v) ∈ pl.map (kv l) := by rw [h.row];exact List.mem_map.2 ⟨_,hkv,rfl⟩
  obtain ⟨i,hi,e⟩ := List.mem_map.1 this;have := (h.mp k' i).2 ⟨hi,by rw [e];rfl⟩;rw [hm] at this;cases this
 ·intro he
  cases hm : mget m k with
  | none => rfl
  | some i =>
   obtain ⟨v,_,_,_,_,_,_,_,_,h5,_⟩ := h.at hm;rw [h5] at he;cases he
theorem vO {l l' : List (En V)} {pl : List Nat} (h : ∀ j ∈ pl,kv l' j = kv l j) : pl.map (kv l') = pl.map (kv l) := List.map_congr_left h
theorem Rep.put {l l' : List (En V)} {free free' : List Nat} {m : List (L8 × Nat)} {pl : List Nat} {es : List (L8 × V)} (h : Rep l free m pl es) {k : L8} {v : V} {i : Nat}
  (hk : mget es k = none) (hs : ∀ j ∈ pl,l'[j]? = l[j]?) (hi : kv l' i = some (k,v)) (hn : (pl ++ i :: free').Nodup) (hf : ∀ j ∈ free',j < l'.length) :
  Rep (haL l' i (lst (-1) pl)) free' (mput m k i) (pl ++ [i]) (es ++ [(k,v)]) /\ haF (hd pl (-1)) (lst (-1) pl) i = hd (pl ++ [i]) (-1) /\ (i : Int) = lst (-1) (pl ++ [i]) := by
 have hlt : i < l'.length := by
  unfold kv at hi
  cases hl : l'[i]? with
  | none => rw [hl] at hi;cases hi
  | some e => exact (List.getElem?_eq_some_iff.1 hl).1
 have hn1 := List.nodup_append.1 hn;have hip : i ∉ pl := fun hm => hn1.2.2 i hm i sM rfl
 have hk' : ∀ j ∈ pl,kv l' j = kv l j := fun j hj => by simp only [kv,hs j hj]
 obtain ⟨g1,g2,g3⟩ := hang_ok hn1.1 hip hlt (kg pl (-1) (-1) (fun j hj e he => ⟨e,by rw [hs j hj];exact he,rfl,rfl⟩) h.lk);have hmk : mget m k = none := h.miss.2 hk;refine ⟨⟨by simpa using hn,fun j hj => by rw [kn];exact hf j hj,g1,?_,?_,?_,?_,?_⟩,g2,g3⟩
 ·rw [lL,lL,vO (fun j hj => (fY _ _ _ j).trans (hk' j hj)),h.row]
  simp [fY,hi]
 ·rw [lL,List.nodup_append];refine ⟨h.keys,sM,fun x hx y hy e => ?_⟩
  simp at hy;subst hy;subst e
  exact yh.1 hk hx
 ·intro k1 i1;rw [Ih,fY]
  by_cases hkk : k1 = k
  ·subst hkk;rw [if_pos rfl]
   constructor
   ·intro e;cases e;exact ⟨sM,by rw [hi];rfl⟩
   ·rintro ⟨hm,he⟩
    rcases List.mem_append.1 hm with hm | hm
    ·rw [hk' i1 hm] at he;have := (h.mp k1 i1).2 ⟨hm,he⟩;rw [hmk] at this;cases this
    ·simp at hm;rw [hm]
  ·rw [if_neg hkk,h.mp]
   constructor
   ·rintro ⟨hm,he⟩;exact ⟨iG _ hm,by rw [hk' i1 hm];exact he⟩
   ·rintro ⟨hm,he⟩
    rcases List.mem_append.1 hm with hm | hm
    ·exact ⟨hm,by rw [<- hk' i1 hm];exact he⟩
    ·simp at hm;subst hm
     rw [hi] at he
     simp at he
     exact absurd he.symm hkk
 ·rw [XN _ _ _ hmk,lL,List.nodup_append];refine ⟨h.mnd,sM,fun x hx y hy e => ?_⟩
  simp at hy;subst hy;subst e
  exact yh.1 hmk hx
 ·rw [XN _ _ _ hmk];simp [h.mlen]
def setV (l : List (En V)) (i : Nat) (v : V) : List (En V) := l.modify i fun e => { e with v := v }
theorem ku (l : List (En V)) (i : Nat) (v : V) : (setV l i v).length = l.length := by simp [setV]
theorem Rep.set {l : List (En V)} {free : List Nat} {m : List (L8 × Nat)} {pl : List Nat} {es : List (L8 × V)} (h : Rep l free m pl es) {k : L8} {i : Nat} (hi : mget m k = some i) (v : V) :
  Rep (setV l i v) free m pl (mput es k v) := by
 obtain ⟨u,p,q,pre,post,rfl,rfl,hlen,hkv,hg,hd,hp,e1,e2⟩ := h.at hi;have hn := List.nodup_append.1 (List.nodup_append.1 h.nd).1;have hother : ∀ j,j ≠ i -> (setV l i v)[j]? = l[j]? := fun j hj => by simp [setV,mF,Ne.symm hj]
 have hkey : ∀ j,(kv (setV l i v) j).map (·.1) = (kv l j).map (·.1) := fun j => by
  simp only [kv,setV,mF]
  by_cases hj : i = j
  ·subst hj;cases l[i]? <;> simp
  ·cases l[j]? <;> simp [hj]
 have hip : i ∉ p := fun hm => hn.2.2 i hm i sM rfl
 have hiq : i ∉ q := (List.nodup_cons.1 hn.2.1).1;refine ⟨h.nd,fun j hj => by rw [ku];exact h.lt j hj,?_,?_,?_,?_,h.mnd,?_⟩
 ·refine kg _ _ _ (fun j hj e he => ?_) h.lk
  by_cases hji : j = i
  ·subst hji;exact ⟨{ e with v := v },by simp [setV,mF,he],rfl,rfl⟩
  ·exact ⟨e,by rw [hother j hji];exact he,rfl,rfl⟩
 ·rw [hp v,lL,iB,lL,iB,<- e1,<- e2]
  congr 1
  ·exact vO fun j hj => by simp only [kv,hother j (fun e : j = i => hip (by rw [<- e];exact hj))]
  ·congr 1
   ·simp only [kv] at hkv ⊢
    cases hl : l[i]? with
    | none => rw [hl] at hkv;cases hkv
    | some e => rw [hl] at hkv;simp at hkv;simp [setV,mF,hl,hkv.1]
   ·exact vO fun j hj => by simp only [kv,hother j (fun e : j = i => hiq (by rw [<- e];exact hj))]
 ·rw [wC _ _ _ (by rw [hg];simp)];exact h.keys
 ·intro k1 i1;rw [hkey];exact h.mp k1 i1
 ·rw [hp v];have := h.mlen;simpa using this
theorem Rep.drop {l : List (En V)} {free : List Nat} {m : List (L8 × Nat)} {pl : List Nat} {es : List (L8 × V)} (h : Rep l free m pl es) {k : L8} {i : Nat} (hi : mget m k = some i) (z : En V) :
  ∃ a n e,l[i]? = some e /\ e.ahead = a /\ e.next = n /\ (a = -1 ∨ ∃ j : Nat,a = j /\ j < l.length) /\ (n = -1 ∨ ∃ j : Nat,n = j /\ j < l.length) /\
   ∃ pl',Rep ((unL l a n).set i z) (free ++ [i]) (mdel m k) pl' (mdel es k) /\ unF (hd pl (-1)) a n = hd pl' (-1) /\ unE (lst (-1) pl) a n = lst (-1) pl' := by
 obtain ⟨v,p,q,pre,post,rfl,rfl,hlen,hkv,hg,hdel,hp,e1,e2⟩ := h.at hi;have hn0 := List.nodup_append.1 h.nd;have hn := List.nodup_append.1 hn0.1;have hip : i ∉ p := fun hm => hn.2.2 i hm i sM rfl
 have hiq : i ∉ q := (List.nodup_cons.1 hn.2.1).1;have hif : i ∉ free := fun hm => hn0.2.2 i sM i hm rfl
 have hlt := fI _ _ _ h.lk;obtain ⟨_,⟨⟨e,h1,h2,h3⟩,_⟩⟩ := (yQ l p (i :: q) (-1) (-1)).1 h.lk;obtain ⟨g1,g2,g3⟩ := cZ hn0.1 h.lk;refine ⟨lst (-1) p,Tab.hd q (-1),e,h1,h2,h3,?_,?_,p ++ q,?_,g2,g3⟩
 ·cases p with
  | nil => exact .inl rfl
  | cons x p0 =>
   obtain ⟨j,hj,ej⟩ := JE (x :: p0) (-1) sM;exact .inr ⟨j,ej,hlt j (iG _ hj)⟩
 ·cases q with
  | nil => exact .inl rfl
  | cons x q0 => exact .inr ⟨x,rfl,hlt x sM⟩
 ·have hne : ∀ j,j ≠ i -> ((unL l (lst (-1) p) (Tab.hd q (-1))).set i z)[j]? = (unL l (lst (-1) p) (Tab.hd q (-1)))[j]? := fun j hj => List.getElem?_set_ne (Ne.symm hj)
  have hkvne : ∀ j,j ≠ i -> kv ((unL l (lst (-1) p) (Tab.hd q (-1))).set i z) j = kv l j := fun j hj => by
   rw [<- unL_kv l (lst (-1) p) (Tab.hd q (-1)) j];simp only [kv,hne j hj]
  refine ⟨?_,?_,?_,?_,?_,?_,?_,?_⟩
  ·have hperm : (p ++ i :: q ++ free).Perm (p ++ q ++ (free ++ [i])) := by
    rw [aN,aN,aC];refine List.Perm.append_left p ?_;rw [<- aN];exact (List.perm_append_singleton i (q ++ free)).symm
   exact hperm.nodup_iff.1 h.nd
  ·intro j hj;rw [mC,Qr]
   rcases List.mem_append.1 hj with hj | hj
   ·exact h.lt j hj
   ·simp at hj;subst hj;exact hlt j sM
  ·refine kg _ _ _ (fun j hj e' he' => ⟨e',?_,rfl,rfl⟩) g1
   rw [hne j (fun e => by
    subst e
    rcases List.mem_append.1 hj with hj | hj
    ·exact hip hj
    ·exact hiq hj)]
   exact he'
  ·rw [hdel,lL,lL,<- e1,<- e2]
   congr 1
   ·exact vO fun j hj => hkvne j (fun e : j = i => hip (by rw [<- e];exact hj))
   ·exact vO fun j hj => hkvne j (fun e : j = i => hiq (by rw [<- e];exact hj))
  ·rw [JC];exact h.keys.erase _
  ·intro k1 i1;rw [Ij _ _ _ h.mnd]
   by_cases hkk : k1 = k
   ·subst hkk;rw [if_pos rfl]
    constructor
    ·intro e;cases e
    ·rintro ⟨hm,he⟩
     have hm' : i1 ∈ p ++ i :: q := by
      rcases List.mem_append.1 hm with hm | hm
      ·exact iG _ hm
      ·exact List.mem_append_right _ (aK _ hm)
     have hne1 : i1 ≠ i := fun e => by
      subst e
      rcases List.mem_append.1 hm with hm | hm
      ·exact hip hm
      ·exact hiq hm
     rw [hkvne i1 hne1] at he;have := (h.mp k1 i1).2 ⟨hm',he⟩;rw [hi] at this
     cases this
     exact absurd rfl hne1
   ·rw [if_neg hkk,h.mp]
    constructor
    ·rintro ⟨hm,he⟩
     have hne1 : i1 ≠ i := fun e => by
      subst e;rw [hkv] at he
      simp at he
      exact hkk he.symm
     refine ⟨?_,by rw [hkvne i1 hne1];exact he⟩
     rcases List.mem_append.1 hm with hm | hm
     ·exact iG _ hm
     ·rcases List.mem_cons.1 hm with rfl | hm
      ·exact absurd rfl hne1
      ·exact List.mem_append_right _ hm
    ·rintro ⟨hm,he⟩
     have hne1 : i1 ≠ i := fun e => by
      subst e
      rcases List.mem_append.1 hm with hm | hm
      ·exact hip hm
      ·exact hiq hm
     refine ⟨?_,by rw [<- hkvne i1 hne1];exact he⟩
     rcases List.mem_append.1 hm with hm | hm
     ·exact iG _ hm
     ·exact List.mem_append_right _ (aK _ hm)
  ·rw [JC];exact h.mnd.erase _
  ·have h5 := h.mlen
   have h6 : (mdel m k).length = m.length - 1 := by
    obtain ⟨a,b,c1,c2,c3,c4⟩ := ki hi;rw [c3,c1];simp
   rw [h6,hdel,h5];simp
theorem Rep.new : Rep ([] : List (En V)) [] [] [] [] :=
 ⟨sM,sM,trivial,rfl,sM,fun k i => by simp [mget],sM,rfl⟩
end Go.Tab
namespace Go.Ost
open Go
variable {P : Program}
theorem dG (o : Nat) (tl : LV) : ∀ (l p r : LV) (j : Nat),r.length = l.length -> p.length = o + j ->
  (l.zipIdx j).foldl (fun (cs : Array Value) (x : Value × Nat) => cs.setIfInBounds (o + x.2) x.1) (p ++ (r ++ tl)).toArray = (p ++ (l ++ tl)).toArray
 | [],p,[],j,_,_ => sM
 | v :: l,p,x :: r,j,hl,hp => by
  rw [List.zipIdx_cons,List.foldl_cons];have ih := dG o tl l (p ++ [v]) r (j + 1) (by simpa using hl) (by rw [aB,aI];omega)
  have e : (p ++ (x :: r ++ tl)).toArray.setIfInBounds (o + j) v = (p ++ [v] ++ (r ++ tl)).toArray := by
   apply lS;rw [<- hp];simp
  rw [e,ih];simp
theorem Ww {s : Nat} : ∀ (rows : List (LV)) (done rest : LV) (j : Nat),(∀ r ∈ rows,r.length = s) -> done.length = j * s -> rest.length = rows.length * s ->
  Instr.fill (fun i => some (i * s,s)) (done ++ rest).toArray ((rows.zipIdx j).map fun x => (x.2,Value.agg x.1.toArray)) = some (done ++ rows.flatten).toArray
 | [],done,rest,j,_,_,hr => by
  have : rest = [] := List.length_eq_zero_iff.1 (by simpa using hr);subst this;simp [Instr.fill]
 | r :: rows,done,rest,j,hl,hd,hr => by
  have hrs := hl r (aA ..);rw [aH,lO,Nat.one_mul] at hr;have hu : (rest.take s).length = s := by rw [aX];omega
  have hut : rest = rest.take s ++ rest.drop s := (lR s rest).symm;have hdl : (rest.drop s).length = rows.length * s := by rw [aV];omega
  generalize rest.take s = u at *;generalize rest.drop s = tl at *;subst hut;simp only [List.zipIdx_cons,iB,Instr.fill];have e1 : (Value.agg r.toArray).cells = r.toArray := rfl;rw [e1,if_neg (by simp [hrs];omega)];have h1 := dG (j * s) tl r done u 0 oM oM;have h2 := Ww rows (done ++ r) tl (j + 1) (fun x hx => hl x (aK _ hx)) (by rw [aB,lO];omega) hdl;rw [show done ++ (r ++ tl) = done ++ r ++ tl from sM] at h1;rw [aO,show done ++ (r ++ rows.flatten) = done ++ r ++ rows.flatten from sM,<- h2,<- h1]
  simp
theorem ZR {t e : TypeId} {z : Value} {s by_ : Nat} [ht : xz P t e] [hs : zm P e z s by_] (rows : List (LV)) {n : Nat} {ps : List (Nat × Value)} (hps : ps = (rows.zipIdx 0).map fun x => (x.2,Value.agg x.1.toArray)) (hn : rows.length = n) (h0 : 0 < s) (hn0 : 0 < n) (hs2 : n * s <= 100000) (hv : ∀ r ∈ rows,r.length = s) {S : zb} {κ : Value -> zb -> Prop}
  (k : ∀ b C,Own s e C (some ⟨b,0,none⟩) n n rows.flatten -> κ (.slice (some ⟨b,0,none⟩) n n) (C :: S)) : ValW P (Instr.buildSlice t n ps.toArray) S κ := by
 subst hps
 have hfl : ∀ rows : List (LV),(∀ r ∈ rows,r.length = s) -> rows.flatten.length = rows.length * s := by
  intro rows
  induction rows with
  | nil => intro _;simp
  | cons r rows ih =>
   intro h;rw [aO,aB,aH,lO,ih fun x hx => h x (aK _ hx),h r (aA ..)];omega
 have hlen := hfl rows hv;rw [hn] at hlen;have hnle : n <= n * s := Nat.le_mul_of_pos_right n h0;refine ⟨fun w hw => ?_⟩;refine ⟨_,{ w with heap := w.heap.push (.cells rows.flatten.toArray e) },_,?_,wJ rfl,hw.new rfl,k _ _ ⟨aR _,by simp only [maxLen];omega,oM,.inr ⟨_,0,_,(0,0),rfl,rfl,.inl rfl,by simp [hlen],fun i hi => sM⟩⟩⟩
 have hfill : ∀ cells : Array Value,cells.size = n * s -> Instr.fill (fun i => some (i * s,s)) cells ((rows.zipIdx 0).map fun x => (x.2,Value.agg x.1.toArray)) = some rows.flatten.toArray := by
  intro cells hc;have := Ww rows [] cells.toList 0 hv sM (by rw [hn];simpa using hc)
  simpa using this
 have hne : ¬ (n * s = 0) := by have := Nat.mul_pos hn0 h0;omega
 have hle : ¬ 16777216 < n * s := oM;simp only [Instr.buildSlice,Sem.run_bind,zL ht.und,zE hs,xe hs,Result.andThen];rw [show (2 : Nat) ^ 24 = 16777216 from rfl,if_neg hle,if_neg hne];simp only [Sem.run_bind,Sem.run_pure,Result.andThen,xe hs];rw [hfill _ sM]
 simp [newRow,newObj,Sem.run_bind,Sem.run,Result.andThen]
end Go.Ost
namespace Go.Ost
open Go
variable {P : Program} {n : Nat} {ro : Option Nat}
def opV (P : Program) (n : Nat) (ops : Array Oper) (i : Nat) (L : Env) (S : zb) (N : Option Tmp -> Value -> zb -> Prop) : Prop :=
 match ops[i]? with
 | some o => xA ops o L (zY P o.op o.type L S fun v S' => N o.dst v S') (N o.dst undef S)
 | none => False
theorem opE {G G' : Prop} (k : G') (h : Impl (Hid G') G := by exact ⟨fun k0 => by (simp only [opV,iP,iD,iJ];(try simp only [gos,gob,aJ,if_true,reduceIte,reduceCtorEq,iN,aP,iQ,iF,lJ,lK,iV,iW,iM,iX,iY,iZ,lA,lB,lC,aW,iI]);(try (simp (disch := omega) only [gow,gobw];try simp only [gos,gob,aJ,if_true,reduceIte,reduceCtorEq,iN,aP,iQ,iF,lJ,lK,iV,iW,iM,iX,iY,iZ,lA,lB,lC,aW,iI]));exact k0.out)⟩) : G := h.out ⟨k⟩
def backB (ops : Array Oper) : Bool := (iC ops.size).all fun i => (jd ops i).all fun j => decide (j < i)
theorem gJ {id : Nat} {ops : Array Oper} {K : Cont} {D : List Nat} {L : Env} {S : zb} (J : List Nat -> Env -> zb -> Prop) (h0 : J [] L S)
  (hs : ∀ d L S i,i < ops.size -> i ∉ d -> (∀ j ∈ jd ops i,j ∈ d) -> (∀ k ∈ d,∀ j ∈ jd ops k,j ∈ d) -> J d L S -> ∃ L0 S0,ke L0 L /\ S.flatten.Perm S0.flatten /\ opV P n ops i L0 S0 fun dst v S' => J (i :: d) (putT n dst v L) S')
  (he : ∀ d L S,(∀ i,i < ops.size -> i ∈ d) -> J d L S -> K .normal D L S) (hm : P.follows .mixedOrders = true := by kernel_rfl) (hb : backB ops = true := by kernel_rfl) : zB P n ro (.region id ops true) K D L S := by
 refine ⟨fun a w ha hw => ?_⟩;refine wpIn_region_any hm ?_
 have fin : ∀ (d : List Nat) (listed : Array Bool),listed.size = ops.size -> (∀ i,listed.getD i false = true ↔ i ∈ d) -> Region.ready .any ops listed = [] -> ∀ i,i < ops.size -> i ∈ d := by
  intro d listed hsz hl hr i
  induction i using Nat.strongRecOn with
  | _ i ih =>
   intro hi
   have hall : ∀ j ∈ jd ops i,listed.getD j false = true := by
    intro j hj;have h1 := List.all_eq_true.1 hb i (List.mem_range.2 hi);have h2 := List.all_eq_true.1 h1 j hj;have hji : j < i := by simpa using h2
    exact (hl j).2 (ih j hji oM)
   rw [<- hl]
   cases hx : listed.getD i false with
   | true => rfl
   | false =>
    exfalso
    have : i ∈ Region.ready .any ops listed := by
     refine List.mem_filter.2 ⟨List.mem_range.2 hi,?_⟩;have hsz2 : i < listed.size := by rw [hsz];exact hi
     have h1 : listed.getD i true = false := by simpa [Array.getD_eq_getD_getElem?,hsz2] using hx
     have ho : ops[i]? = some ops[i] := by simp [hi]
     rw [h1,ho];simp only [lX,iR,Bool.not_false,mM];rw [Array.all_eq_true'];intro e he
     by_cases hb : Region.binds .any e = true
     ·have := hall e.on (by simp only [jd,ho];exact List.mem_map.2 ⟨e,List.mem_filter.2 ⟨by simpa using he,hb⟩,rfl⟩)
      simp [this]
     ·simp [hb]
    rw [hr] at this;cases this
 have core : ∀ (fuel : Nat) (d : List Nat) (listed : Array Bool) (L : Env) (S : zb) (a : Act) (v : World),listed.size = ops.size -> (∀ i,listed.getD i false = true ↔ i ∈ d) -> (∀ k ∈ d,∀ j ∈ jd ops k,j ∈ d) -> J d L S -> jR n L D a -> Hold v S -> Ext w v ->
   ((iC ops.size).filter fun i => !listed.getD i false).length <= fuel -> wpAnyIn (FW ro) 0 P .any ops (KQ n K w) fuel listed a v := by
  intro fuel
  induction fuel with
  | zero =>
   intro d listed L S a v hsz hl hcl hj ha hv hx hle
   have hr : Region.ready .any ops listed = [] := by
    have h0 : ((iC ops.size).filter fun i => !listed.getD i false) = [] := List.eq_nil_of_length_eq_zero (Nat.le_zero.1 hle);unfold Region.ready;rw [List.filter_eq_nil_iff] at h0 ⊢;intro i hi;have := h0 i hi;have hsz2 : i < listed.size := by rw [hsz];exact List.mem_range.1 hi
    simp only [Array.getD_eq_getD_getElem?,hsz2,mD,iR] at this ⊢;simp only [mI,Bool.not_eq_false] at this
    simp [this]
   exact ⟨hr,D,L,S,he d L S (fin d listed hsz hl hr) hj,ha,hx,hv⟩
  | succ fuel ih =>
   intro d listed L S a v hsz hl hcl hj ha hv hx hle;refine ⟨fun hr => ⟨D,L,S,he d L S (fin d listed hsz hl hr) hj,ha,hx,hv⟩,fun i hi => ?_⟩;obtain ⟨him,hun,hdep⟩ := wi hsz hi;have hsz2 : i < listed.size := by rw [hsz];exact him
   obtain ⟨L0,S0,hkn,hpm,hop⟩ := hs d L S i him (fun h => by rw [(hl i).2 h] at hun;cases hun) (fun j hj' => (hl j).1 (hdep j hj')) hcl hj
   have hl' : ∀ k,(listed.setIfInBounds i true).getD k false = true ↔ k ∈ i :: d := by
    intro k;rw [zK hsz2]
    split
    ·subst_vars;simp
    ·rw [hl k,aY];exact ⟨.inr,fun h => h.resolve_left (fun e => by subst e;contradiction)⟩
   have hcnt : ((iC ops.size).filter fun k => !(listed.setIfInBounds i true).getD k false).length <= fuel := by
    have := wH (p := fun k => !listed.getD k false) (q := fun k => !(listed.setIfInBounds i true).getD k false) (i := i) (iC ops.size) (by
     intro k hk;simp only [mI] at hk ⊢;rw [zK hsz2] at hk
     split at hk
     ·cases hk
     ·exact hk) (List.mem_range.2 him) (by simp [hun]) (by rw [zK hsz2];simp)
    omega
   have hcl' : ∀ k ∈ i :: d,∀ j ∈ jd ops k,j ∈ i :: d := by
    intro k hk j hj'
    rcases List.mem_cons.1 hk with rfl | hk
    ·exact aK _ ((hl j).1 (hdep j hj'))
    ·exact aK _ (hcl k hk j hj')
   have nxt : ∀ (L' : Env) (S' : zb) (a' : Act) (v' : World),J (i :: d) L' S' -> jR n L' D a' -> Hold v' S' -> Ext w v' -> wpAnyIn (FW ro) 0 P .any ops (KQ n K w) fuel (listed.setIfInBounds i true) a' v' :=
    fun L' S' a' v' hj' ha' hv' hx' => ih (i :: d) _ L' S' a' v' (by simp [hsz]) hl' hcl' hj' ha' hv' hx' hcnt
   have ho : ops[i]? = some ops[i] := by simp [him]
   unfold opV at hop;unfold wpOpIn;rw [ho] at hop ⊢;simp only at hop ⊢;have hv0 : Hold v S0 := hv.perm hpm
   rcases Zd (ha.less hkn) hop with ⟨hw1,h⟩ | ⟨hw1,h⟩
   ·rw [if_pos hw1];exact Ua h (ha.less hkn) hv0 fun u S' w' hk hee hh => nxt _ _ _ _ hk (ha.put _ _) hh (hx.trans hee)
   ·rw [if_neg (by simp [hw1])];exact ⟨fun _ _ => trivial,nxt _ _ _ _ h (ha.put _ _) hv0 hx⟩
 have hw' : Hold { w with drawn := w.drawn + 1 } S := ⟨hw.nd,hw.get⟩;have hee : Ext w { w with drawn := w.drawn + 1 } := ⟨rfl,rfl,rfl,aR _⟩;refine core ops.size [] _ L S a _ sM ?_ (fun _ h => nomatch h) h0 ha hw' hee (mN (List.length_filter_le _ _) sM);intro i
 have : (Array.replicate ops.size false).getD i false = false := by
  simp only [Array.getD_eq_getD_getElem?,Array.getElem?_replicate];split <;> rfl
 rw [this];simp
end Go.Ost
namespace Go.Ost
open Go Go.ChangeShapes Go.WideShapes Go.ChangeAt Go.RowKit Go.Deep
variable {P : Program} {H : Type} {enc : TypeId × Value -> H} {W : World}
def litV : Lit -> Value
 | .int k n => .int k n
 | _ => undef
theorem Wx : ∀ (fs : List Field) (ks : List FK) (i j : Nat) (f : Field),wI P i fs ks = true -> fs[j]? = some f -> ∃ k,ks[j]? = some k /\ f.offset = i + j /\ fkB P f.type k = true
 | [],ks,i,j,f,h,hf => by simp at hf
 | g :: fs,[],i,j,f,h,hf => by cases h
 | g :: fs,k :: ks,i,0,f,h,hf => by
  simp only [wI,aM,beq_iff_eq] at h;simp only [iJ,Option.some.injEq] at hf;subst hf;exact ⟨k,rfl,h.1,h.2.1⟩
 | g :: fs,k :: ks,i,j + 1,f,h,hf => by
  simp only [wI,aM,beq_iff_eq] at h;obtain ⟨k',h1,h2,h3⟩ := Wx fs ks (i + 1) j f h.2.2 (by simpa using hf);exact ⟨k',by simpa using h1,oM,h3⟩
theorem QR : ∀ (fs : List Field) (ks : List FK) (i : Nat),wI P i fs ks = true -> fs.length = ks.length
 | [],[],_,_ => rfl
 | [],_ :: _,_,h => by cases h
 | _ :: _,[],_,h => by cases h
 | f :: fs,k :: ks,i,h => by
  simp only [wI,aM,beq_iff_eq] at h
  simp [QR fs ks (i + 1) h.2.2]
theorem Yk {base : Nat} {sp : Nat -> Bool} {held : Bool} {fuel : Nat} {e : TypeId} {ks : List IntKind} {ch : LV} {r : List Lit} {q : List MemPlace} (hr : rowB P e (ks.map FK.int) = true)
  (h : DataW.trod enc P W base sp held fuel e ch = some (.agg (r.map DataW.lit),q)) : ch = r.map litV /\ ch.length = ks.length := by
 unfold rowB at hr
 split at hr
 ·rename_i fs hu
  simp only [aM,beq_iff_eq,decide_eq_true_eq,iA] at hr;obtain ⟨hfs,hce,hpos⟩ := hr;have hfl := QR _ _ _ hfs;rw [iA,Array.length_toList] at hfl;obtain ⟨xs,m,_,hx,hl,hxl,hf⟩ := DataW.trod_struct hu h
  have hx1 : r.map (DataW.lit (H := H)) = xs.map (·.1) := by
   have := congrArg Prod.fst hx
   simpa using this
  have hrl : r.length = ks.length := by
   have := congrArg mA hx1;rw [iA,iA] at this;omega
  refine ⟨?_,by rw [hl,hce]⟩
  apply List.ext_getElem?
  intro j
  by_cases hj : j < ks.length
  ·have hfj : fs.toList[j]? = some fs[j] := by rw [Array.getElem?_toList];exact mD oM
   obtain ⟨k,hk,ho,hkb⟩ := Wx _ _ _ _ _ hfs hfj;rw [lF] at hk;obtain ⟨k0,_,rfl⟩ := Option.map_eq_some_iff.1 hk;have h1 := hf j fs[j] (mD oM);rw [aE oM] at h1;simp only [fkB] at hkb
   split at hkb
   ·rename_i k' hu2
    simp only [aM,beq_iff_eq] at hkb;obtain ⟨rfl,hc1⟩ := hkb;obtain ⟨n,hcs,hxn,_⟩ := DataW.trod_int hu2 h1;rw [hc1,ho,iT] at hcs
    have hch : ch[j]? = some (.int k' n) := by
     have := congrArg (·[0]?) hcs
     simpa [List.getElem?_take,List.getElem?_drop] using this
    have hrj : (r.map (DataW.lit (H := H)))[j]? = some (.lit (.int k' n)) := by
     rw [hx1,lF,aE oM,hxn];rfl
    rw [lF] at hrj;obtain ⟨y,hy,he⟩ := Option.map_eq_some_iff.1 hrj;simp only [DataW.lit.injEq] at he;rw [hch,lF,hy,he];rfl
   ·cases hkb
  ·rw [List.getElem?_eq_none (by rw [hl,hce];omega),List.getElem?_eq_none (by rw [iA];omega)]
 ·cases hr
theorem ec {base : Nat} {sp : Nat -> Bool} {held : Bool} {fuel : Nat} {t e : TypeId} {n : Nat} {ks : List IntKind} {cs : LV} {rows : List (List Lit)} {q : List MemPlace} (ht : P.underlying t = some (.array n e)) (hr : rowB P e (ks.map FK.int) = true) (hce : P.cellsOf e = ks.length) (hpos : 0 < ks.length) (hct : P.cellsOf t = n * ks.length)
  (h : DataW.trod enc P W base sp held fuel t cs = some (.agg (rows.map fun r => .agg (r.map DataW.lit)),q)) : cs = rows.flatMap fun r => r.map litV := by
 cases fuel with
 | zero => simp [DataW.trod] at h
 | succ fuel =>
  simp only [DataW.trod,ht,hce,hct] at h
  split at h
  ·rename_i hl
   obtain ⟨xs,hm,hx⟩ := Option.map_eq_some_iff.1 h
   have hxs : xs.map (·.1) = rows.map fun r => (DataW.agg (r.map DataW.lit) : DataW H) := by
    have := congrArg Prod.fst hx
    simpa using this
   have hxl : xs.length = n := by simpa using Lib.mapM_length hm
   have hrl : rows.length = n := by
    have := congrArg mA hxs;rw [iA,iA] at this;omega
   have key : ∀ i,(hi : i < n) -> (cs.drop (i * ks.length)).take ks.length = (rows[i]'oM).map litV := by
    intro i hi;obtain ⟨b,hb,hf⟩ := Lib.mapM_at hm i i (by simp [hi])
    have hb1 : b.1 = .agg ((rows[i]'oM).map DataW.lit) := by
     have h2 : (xs.map (·.1))[i]? = some b.1 := by simp [hb]
     rw [hxs,lF,aE oM] at h2;exact (Option.some.inj h2).symm
    obtain ⟨b1,b2⟩ := b;simp only at hb1;subst hb1;exact (Yk hr hf).1
   have hkl : ∀ i,(hi : i < n) -> ((rows[i]'oM).map litV).length = ks.length := by
    intro i hi;rw [<- key i hi,aX,aV,hl];have : (i + 1) * ks.length <= n * ks.length := lM _ hi;rw [lO] at this;omega
   have all : ∀ (m i : Nat),i + m = n -> cs.drop (i * ks.length) = (rows.drop i).flatMap fun r => r.map litV := by
    intro m
    induction m with
    | zero =>
     intro i hi;have : i = n := oM;subst this;rw [List.drop_of_length_le oM,List.drop_of_length_le oM];rfl
    | succ m ih =>
     intro i hi;have hin : i < n := oM;rw [iH (l := rows) oM,iU,<- key i hin,<- ih (i + 1) oM];rw [lO,Nat.one_mul,<- mQ,lR]
   have := all n 0 oM
   simpa using this
  ·cases h
theorem Zt {name : String} {rows : List (List Lit)} {rest : List (String × DataW Unit)} {ps : List MemPlace} {g : Nat} {t e : TypeId} {n : Nat} {ks : List IntKind}
  (hg : P.globalNamed name = some g) (hty : (P.globals[g]?).map (·.type) = some t) (ht : P.underlying t = some (.array n e)) (hr : rowB P e (ks.map FK.int) = true) (hce : P.cellsOf e = ks.length) (hpos : 0 < ks.length) (hct : P.cellsOf t = n * ks.length)
  (h : DataW.LaidVars P W ((name,.agg (rows.map fun r => .agg (r.map DataW.lit))) :: rest) ps) : (∃ ty m,W.heap[g]? = some (.cells (rows.flatMap fun r => r.map litV).toArray ty m)) /\ ∃ qs,DataW.LaidVars P W rest qs := by
 obtain ⟨g',t',cs,fuel,p,q,hg',ht',hvar,hd,hrest,_⟩ := h;obtain rfl := Option.some.inj (hg.symm.trans hg');obtain rfl := Option.some.inj (hty.symm.trans ht');refine ⟨?_,q,hrest⟩;have hcs := ec ht hr hce hpos hct hd;simp only [World.var?,hg,Option.bind_some] at hvar
 split at hvar
 ·rename_i c ty fr hb
  cases hvar
  refine ⟨ty,fr,?_⟩;rw [hb,<- hcs]
 ·cases hvar
end Go.Ost
namespace Go.Proofs.YtebikhhoppiapaaGreatDoor
open Go.Ost Tryz
instance : TInt prog 3 .i64 := ⟨kM⟩
instance : zm prog 3 (.int .i64 0) 1 8 := ⟨kM⟩
instance : xM prog 3 := ⟨kM⟩
instance : TBool prog 4 := ⟨kM⟩
instance : zm prog 4 (.bool false) 1 1 := ⟨kM⟩
instance : xM prog 4 := ⟨kM⟩
instance : TInt prog 5 .u8 := ⟨kM⟩
instance : zm prog 5 (.int .u8 0) 1 1 := ⟨kM⟩
instance : xM prog 5 := ⟨kM⟩
instance : TStr prog 9 := ⟨kM⟩
instance : zm prog 9 (.string ⟨#[]⟩) 1 16 := ⟨kM⟩
instance : xM prog 9 := ⟨kM⟩
instance : TInt prog 21 .i32 := ⟨kM⟩
instance : xM prog 21 := ⟨kM⟩
instance : TPtr prog 23 182 := ⟨kM⟩
instance : xM prog 23 := ⟨kM⟩
instance : TPtr prog 24 158 := ⟨kM⟩
instance : xM prog 24 := ⟨kM⟩
instance : TPtr prog 25 168 := ⟨kM⟩
instance : xM prog 25 := ⟨kM⟩
instance : zm prog 27 (.agg #[.pointer none,.pointer none,.pointer none,.int .i64 0]) 4 32 := ⟨kM⟩
instance : jG prog 27 := ⟨kM⟩
instance : zl prog 27 0 0 23 := ⟨kM⟩
instance : zl prog 27 1 1 24 := ⟨kM⟩
instance : zl prog 27 2 2 25 := ⟨kM⟩
instance : zl prog 27 3 3 3 := ⟨kM⟩
instance : xM prog 28 := ⟨kM⟩
instance : TPtr prog 29 117 := ⟨kM⟩
instance : zm prog 29 (.pointer none) 1 8 := ⟨kM⟩
instance : xM prog 29 := ⟨kM⟩
instance : zm prog 30 (.pointer none) 1 8 := ⟨kM⟩
instance : xM prog 30 := ⟨kM⟩
instance : zm prog 32 (.agg #[.pointer none,.pointer none,.pointer none,.int .i64 0,.pointer none,.pointer none,.pointer none]) 7 56 := ⟨kM⟩
instance : jG prog 32 := ⟨kM⟩
instance : zl prog 32 0 0 27 := ⟨kM⟩
instance : zl prog 32 1 4 28 := ⟨kM⟩
instance : zl prog 32 2 5 29 := ⟨kM⟩
instance : zl prog 32 3 6 30 := ⟨kM⟩
instance : TInt prog 34 .u64 := ⟨kM⟩
instance : zm prog 34 (.int .u64 0) 1 8 := ⟨kM⟩
instance : xM prog 34 := ⟨kM⟩
instance : zm prog 35 (.int .i64 0) 1 8 := ⟨kM⟩
instance : xM prog 35 := ⟨kM⟩
instance : TInt prog 42 .u32 := ⟨kM⟩
instance : zm prog 42 (.int .u32 0) 1 4 := ⟨kM⟩
instance : xM prog 42 := ⟨kM⟩
instance : xz prog 43 5 := ⟨kM⟩
instance : zm prog 43 nS 1 24 := ⟨kM⟩
instance : xM prog 43 := ⟨kM⟩
instance : zm prog 45 (.agg #[nS,.int .i64 0,nS,nS,nS]) 5 104 := ⟨kM⟩
instance : jG prog 45 := ⟨kM⟩
instance : zl prog 45 0 0 43 := ⟨kM⟩
instance : zl prog 45 1 1 3 := ⟨kM⟩
instance : zl prog 45 2 2 43 := ⟨kM⟩
instance : zl prog 45 3 3 43 := ⟨kM⟩
instance : zl prog 45 4 4 43 := ⟨kM⟩
instance : xz prog 46 9 := ⟨kM⟩
instance : zm prog 46 nS 1 24 := ⟨kM⟩
instance : xM prog 46 := ⟨kM⟩
instance : zm prog 48 (.agg #[.string ⟨#[]⟩,.string ⟨#[]⟩,nS,.int .i64 0,nS,nS,nS,.int .u64 0,nS,.bool false]) 10 176 := ⟨kM⟩
instance : jG prog 48 := ⟨kM⟩
instance : zl prog 48 1 1 9 := ⟨kM⟩
instance : zl prog 48 2 2 45 := ⟨kM⟩
instance : zl prog 48 3 7 34 := ⟨kM⟩
instance : zl prog 48 4 8 46 := ⟨kM⟩
instance : zl prog 48 5 9 4 := ⟨kM⟩
instance : zm prog 50 (.agg #[.string ⟨#[]⟩,.string ⟨#[]⟩,nS,.int .i64 0,nS,nS,nS,.int .u64 0,nS,.bool false,.string ⟨#[]⟩,.int .u32 0]) 12 200 := ⟨kM⟩
instance : jG prog 50 := ⟨kM⟩
instance : zl prog 50 0 0 48 := ⟨kM⟩
instance : zl prog 50 1 10 9 := ⟨kM⟩
instance : zl prog 50 2 11 42 := ⟨kM⟩
instance : zm prog 54 (.agg #[.string ⟨#[]⟩,.string ⟨#[]⟩,.string ⟨#[]⟩]) 3 48 := ⟨kM⟩
instance : zl prog 54 0 0 9 := ⟨kM⟩
instance : zl prog 54 1 1 9 := ⟨kM⟩
instance : zl prog 54 2 2 9 := ⟨kM⟩
instance : zm prog 56 (.agg #[.string ⟨#[]⟩,.string ⟨#[]⟩,.string ⟨#[]⟩,.string ⟨#[]⟩,.string ⟨#[]⟩,.string ⟨#[]⟩,.int .u32 0,nS]) 8 128 := ⟨kM⟩
instance : jG prog 56 := ⟨kM⟩
instance : zl prog 56 0 0 9 := ⟨kM⟩
instance : zl prog 56 1 1 9 := ⟨kM⟩
instance : zl prog 56 2 2 9 := ⟨kM⟩
instance : zl prog 56 3 3 9 := ⟨kM⟩
instance : zl prog 56 4 4 9 := ⟨kM⟩
instance : zl prog 56 5 5 9 := ⟨kM⟩
instance : zl prog 56 6 6 42 := ⟨kM⟩
instance : zl prog 56 7 7 43 := ⟨kM⟩
instance : TInt prog 65 .u16 := ⟨kM⟩
instance : xM prog 65 := ⟨kM⟩
instance : xz prog 66 68 := ⟨kM⟩
instance : zm prog 68 (.agg #[.int .u8 0,.string ⟨#[]⟩,.bool false,.string ⟨#[]⟩,.string ⟨#[]⟩,.string ⟨#[]⟩,.string ⟨#[]⟩,.string ⟨#[]⟩,.int .u8 0,.int .u32 0,.bool false,.int .u16 0]) 12 128 := ⟨kM⟩
instance : jG prog 68 := ⟨kM⟩
instance : zl prog 68 0 0 5 := ⟨kM⟩
instance : zl prog 68 1 1 9 := ⟨kM⟩
instance : zl prog 68 2 2 4 := ⟨kM⟩
instance : zl prog 68 3 3 9 := ⟨kM⟩
instance : zl prog 68 4 4 9 := ⟨kM⟩
instance : zl prog 68 5 5 9 := ⟨kM⟩
instance : zl prog 68 6 6 9 := ⟨kM⟩
instance : zl prog 68 7 7 9 := ⟨kM⟩
instance : zl prog 68 8 8 5 := ⟨kM⟩
instance : zl prog 68 9 9 42 := ⟨kM⟩
instance : zl prog 68 10 10 4 := ⟨kM⟩
instance : zl prog 68 11 11 65 := ⟨kM⟩
instance : zm prog 70 (.agg #[.string ⟨#[]⟩,.string ⟨#[]⟩,.string ⟨#[]⟩,.bool false]) 4 56 := ⟨kM⟩
instance : jG prog 70 := ⟨kM⟩
instance : zl prog 70 0 0 9 := ⟨kM⟩
instance : zl prog 70 1 1 9 := ⟨kM⟩
instance : zl prog 70 2 2 9 := ⟨kM⟩
instance : zl prog 70 3 3 4 := ⟨kM⟩
instance : xM prog 75 := ⟨kM⟩
instance : TPtr prog 76 95 := ⟨kM⟩
instance : xM prog 76 := ⟨kM⟩
instance : TPtr prog 77 105 := ⟨kM⟩
instance : xM prog 77 := ⟨kM⟩
instance : zm prog 79 (.agg #[.pointer none,.pointer none,.pointer none,.int .i64 0]) 4 32 := ⟨kM⟩
instance : zl prog 79 0 0 75 := ⟨kM⟩
instance : zl prog 79 1 1 76 := ⟨kM⟩
instance : zl prog 79 2 2 77 := ⟨kM⟩
instance : zl prog 79 3 3 3 := ⟨kM⟩
instance : zm prog 82 (.agg #[nS,.int .i64 0,nS,nS,nS]) 5 104 := ⟨kM⟩
instance : jG prog 82 := ⟨kM⟩
instance : zl prog 82 0 0 43 := ⟨kM⟩
instance : zl prog 82 1 1 3 := ⟨kM⟩
instance : zl prog 82 2 2 43 := ⟨kM⟩
instance : zl prog 82 3 3 43 := ⟨kM⟩
instance : zl prog 82 4 4 43 := ⟨kM⟩
instance : zm prog 84 (.agg #[.string ⟨#[]⟩,.string ⟨#[]⟩,nS,.int .i64 0,nS,nS,nS,.int .u64 0,nS,.bool false]) 10 176 := ⟨kM⟩
instance : jG prog 84 := ⟨kM⟩
instance : zl prog 84 0 0 9 := ⟨kM⟩
instance : zl prog 84 1 1 9 := ⟨kM⟩
instance : zl prog 84 2 2 82 := ⟨kM⟩
instance : zl prog 84 3 7 34 := ⟨kM⟩
instance : zl prog 84 5 9 4 := ⟨kM⟩
instance : zm prog 88 (.agg #[.pointer none,.string ⟨#[]⟩,.int .u64 0]) 3 32 := ⟨kM⟩
instance : zl prog 88 0 0 28 := ⟨kM⟩
instance : zl prog 88 1 1 9 := ⟨kM⟩
instance : zl prog 88 2 2 34 := ⟨kM⟩
instance : xz prog 90 258 := ⟨kM⟩
instance : zm prog 90 nS 1 24 := ⟨kM⟩
instance : xM prog 90 := ⟨kM⟩
instance : zm prog 92 (.agg #[.bool false,nS,.bool false]) 3 40 := ⟨kM⟩
instance : zl prog 92 0 0 4 := ⟨kM⟩
instance : zl prog 92 1 1 90 := ⟨kM⟩
instance : xz prog 93 84 := ⟨kM⟩
instance : zm prog 93 nS 1 24 := ⟨kM⟩
instance : xM prog 93 := ⟨kM⟩
instance : zm prog 95 (.agg #[nS,nS,.int .u64 0,.int .u64 0]) 4 64 := ⟨kM⟩
instance : zl prog 95 0 0 46 := ⟨kM⟩
instance : zl prog 95 1 1 93 := ⟨kM⟩
instance : zl prog 95 2 2 34 := ⟨kM⟩
instance : zl prog 95 3 3 34 := ⟨kM⟩
instance : zm prog 100 (.agg #[.int .i64 0,.int .u64 0]) 2 16 := ⟨kM⟩
instance : jG prog 100 := ⟨kM⟩
instance : zl prog 100 0 0 3 := ⟨kM⟩
instance : zl prog 100 1 1 34 := ⟨kM⟩
instance : xz prog 103 173 := ⟨kM⟩
instance : zm prog 103 nS 1 24 := ⟨kM⟩
instance : xM prog 103 := ⟨kM⟩
instance : zm prog 105 (.agg #[.int .i64 0,.int .u64 0,nS,.int .u64 0,.int .u64 0,.int .u64 0,.bool false]) 7 72 := ⟨kM⟩
instance : zl prog 105 0 0 3 := ⟨kM⟩
instance : zl prog 105 1 1 34 := ⟨kM⟩
instance : zl prog 105 2 2 103 := ⟨kM⟩
instance : zl prog 105 3 3 34 := ⟨kM⟩
instance : zl prog 105 4 4 34 := ⟨kM⟩
instance : zl prog 105 5 5 34 := ⟨kM⟩
instance : zl prog 105 6 6 4 := ⟨kM⟩
instance : TArr prog 108 2 9 := ⟨kM⟩
instance : zm prog 108 (.agg #[.string ⟨#[]⟩,.string ⟨#[]⟩]) 2 32 := ⟨kM⟩
instance : jG prog 108 := ⟨kM⟩
instance : xz prog 109 108 := ⟨kM⟩
instance : zm prog 117 (.agg #[.pointer none,.pointer none,.pointer none,.int .i64 0,.string ⟨#[]⟩,.int .u64 0]) 6 56 := ⟨kM⟩
instance : zl prog 117 0 0 27 := ⟨kM⟩
instance : zl prog 117 1 4 9 := ⟨kM⟩
instance : zl prog 117 2 5 34 := ⟨kM⟩
instance : zm prog 119 (.agg #[.string ⟨#[]⟩,.string ⟨#[]⟩,.string ⟨#[]⟩,.bool false]) 4 56 := ⟨kM⟩
instance : zl prog 119 0 0 9 := ⟨kM⟩
instance : zl prog 119 1 1 9 := ⟨kM⟩
instance : zl prog 119 2 2 9 := ⟨kM⟩
instance : zl prog 119 3 3 4 := ⟨kM⟩
instance : zm prog 126 (.agg #[.string ⟨#[]⟩,.string ⟨#[]⟩,.string ⟨#[]⟩,.string ⟨#[]⟩,.string ⟨#[]⟩,.string ⟨#[]⟩,.int .u32 0,nS]) 8 128 := ⟨kM⟩
instance : jG prog 126 := ⟨kM⟩
instance : zl prog 126 0 0 9 := ⟨kM⟩
instance : zl prog 126 1 1 9 := ⟨kM⟩
instance : zl prog 126 2 2 9 := ⟨kM⟩
instance : zl prog 126 3 3 9 := ⟨kM⟩
instance : zl prog 126 4 4 9 := ⟨kM⟩
instance : zl prog 126 6 6 42 := ⟨kM⟩
instance : zl prog 126 7 7 43 := ⟨kM⟩
instance : xz prog 133 137 := ⟨kM⟩
instance : zm prog 137 (.agg #[.string ⟨#[]⟩,.string ⟨#[]⟩,.bool false]) 3 40 := ⟨kM⟩
instance : jG prog 137 := ⟨kM⟩
instance : zl prog 137 0 0 9 := ⟨kM⟩
instance : zl prog 137 1 1 9 := ⟨kM⟩
instance : zl prog 137 2 2 4 := ⟨kM⟩
instance : TPtr prog 154 48 := ⟨kM⟩
instance : zm prog 154 (.pointer none) 1 8 := ⟨kM⟩
instance : TMap prog 156 9 185 := ⟨kM⟩
instance : xM prog 156 := ⟨kM⟩
instance : zm prog 158 (.agg #[.map none,.int .u64 0,.int .u64 0]) 3 24 := ⟨kM⟩
instance : zl prog 158 0 0 156 := ⟨kM⟩
instance : zl prog 158 1 1 34 := ⟨kM⟩
instance : zl prog 158 2 2 34 := ⟨kM⟩
instance : zm prog 163 (.agg #[.string ⟨#[]⟩,.int .u64 0,.bool false,.int .u32 0]) 4 32 := ⟨kM⟩
instance : jG prog 163 := ⟨kM⟩
instance : zl prog 163 0 0 9 := ⟨kM⟩
instance : zl prog 163 1 1 34 := ⟨kM⟩
instance : zl prog 163 2 2 4 := ⟨kM⟩
instance : zl prog 163 3 3 42 := ⟨kM⟩
instance : TPtr prog 166 248 := ⟨kM⟩
instance : xM prog 166 := ⟨kM⟩
instance : zm prog 168 (.agg #[.int .i64 0,.int .u64 0,.pointer none,.int .u64 0,.int .u64 0,.int .u64 0,.bool false]) 7 56 := ⟨kM⟩
instance : zl prog 168 0 0 100 := ⟨kM⟩
instance : zl prog 168 1 2 166 := ⟨kM⟩
instance : zl prog 168 2 3 34 := ⟨kM⟩
instance : zl prog 168 3 4 34 := ⟨kM⟩
instance : zl prog 168 4 5 34 := ⟨kM⟩
instance : zl prog 168 5 6 4 := ⟨kM⟩
instance : zm prog 173 (.agg #[.string ⟨#[]⟩,.string ⟨#[]⟩,.int .u64 0,.bool false,.int .u32 0]) 5 48 := ⟨kM⟩
instance : jG prog 173 := ⟨kM⟩
instance : zl prog 173 0 0 9 := ⟨kM⟩
instance : zl prog 173 1 1 9 := ⟨kM⟩
instance : zl prog 173 2 2 34 := ⟨kM⟩
instance : zl prog 173 3 3 4 := ⟨kM⟩
instance : zl prog 173 4 4 42 := ⟨kM⟩
instance : xz prog 179 253 := ⟨kM⟩
instance : zm prog 179 nS 1 24 := ⟨kM⟩
instance : xM prog 179 := ⟨kM⟩
instance : TMap prog 180 9 3 := ⟨kM⟩
instance : xM prog 180 := ⟨kM⟩
instance : zm prog 182 (.agg #[.bool false,.bool false,nS,.map none]) 4 40 := ⟨kM⟩
instance : zl prog 182 0 0 4 := ⟨kM⟩
instance : zl prog 182 2 2 179 := ⟨kM⟩
instance : zl prog 182 3 3 180 := ⟨kM⟩
instance : TMap prog 185 9 154 := ⟨kM⟩
instance : zm prog 185 (.map none) 1 8 := ⟨kM⟩
instance : xz prog 208 210 := ⟨kM⟩
instance : zm prog 208 nS 1 24 := ⟨kM⟩
instance : xM prog 208 := ⟨kM⟩
instance : zm prog 210 (.agg #[.string ⟨#[]⟩,.string ⟨#[]⟩,.bool false]) 3 40 := ⟨kM⟩
instance : jG prog 210 := ⟨kM⟩
instance : zl prog 210 0 0 9 := ⟨kM⟩
instance : zl prog 210 1 1 9 := ⟨kM⟩
instance : zl prog 210 2 2 4 := ⟨kM⟩
instance : zm prog 219 (.agg #[nS,.bool false,.bool false]) 3 32 := ⟨kM⟩
instance : zl prog 219 0 0 208 := ⟨kM⟩
instance : zl prog 219 1 1 4 := ⟨kM⟩
instance : zl prog 219 2 2 4 := ⟨kM⟩
instance : zm prog 238 (.agg #[.pointer none,.pointer none,.pointer none,.int .i64 0,.string ⟨#[]⟩,.int .i64 0,.string ⟨#[]⟩,.string ⟨#[]⟩,.string ⟨#[]⟩,.string ⟨#[]⟩,nS,.string ⟨#[]⟩,.string ⟨#[]⟩,.string ⟨#[]⟩,.string ⟨#[]⟩,.string ⟨#[]⟩,.string ⟨#[]⟩,nS,.int .i64 0,nS,nS,nS,.int .u64 0,nS,.bool false,.bool false,.bool false]) 27 392 := ⟨kM⟩
instance : zm prog 244 (.agg #[.string ⟨#[]⟩,.string ⟨#[]⟩,.int .u64 0,.bool false,.int .u32 0,.int .i64 0,.int .i64 0]) 7 64 := ⟨kM⟩
instance : jG prog 244 := ⟨kM⟩
instance : zl prog 244 0 0 9 := ⟨kM⟩
instance : zl prog 244 1 1 163 := ⟨kM⟩
instance : zl prog 244 2 5 3 := ⟨kM⟩
instance : zl prog 244 3 6 3 := ⟨kM⟩
instance : xz prog 245 244 := ⟨kM⟩
instance : zm prog 245 nS 1 24 := ⟨kM⟩
instance : xM prog 245 := ⟨kM⟩
instance : xz prog 246 3 := ⟨kM⟩
instance : zm prog 246 nS 1 24 := ⟨kM⟩
instance : xM prog 246 := ⟨kM⟩
instance : zm prog 248 (.agg #[.int .i64 0,nS,nS,.map none,.int .i64 0,.int .i64 0]) 6 80 := ⟨kM⟩
instance : zl prog 248 0 0 3 := ⟨kM⟩
instance : zl prog 248 1 1 245 := ⟨kM⟩
instance : zl prog 248 2 2 246 := ⟨kM⟩
instance : zl prog 248 3 3 180 := ⟨kM⟩
instance : zl prog 248 4 4 3 := ⟨kM⟩
instance : zl prog 248 5 5 3 := ⟨kM⟩
instance : zm prog 253 (.agg #[.int .i64 0,nS,nS,.int .i64 0,nS,nS]) 6 112 := ⟨kM⟩
instance : jG prog 253 := ⟨kM⟩
instance : zl prog 253 0 0 3 := ⟨kM⟩
instance : zl prog 253 1 1 43 := ⟨kM⟩
instance : zl prog 253 2 2 43 := ⟨kM⟩
instance : zl prog 253 3 3 3 := ⟨kM⟩
instance : zl prog 253 4 4 246 := ⟨kM⟩
instance : zl prog 253 5 5 43 := ⟨kM⟩
instance : xz prog 255 43 := ⟨kM⟩
instance : zm prog 255 nS 1 24 := ⟨kM⟩
instance : xM prog 255 := ⟨kM⟩
instance : zm prog 258 (.agg #[.int .i64 0,nS,nS,.int .i64 0,nS,nS]) 6 112 := ⟨kM⟩
instance : jG prog 258 := ⟨kM⟩
instance : zl prog 258 0 0 3 := ⟨kM⟩
instance : zl prog 258 1 1 43 := ⟨kM⟩
instance : zl prog 258 2 2 43 := ⟨kM⟩
instance : zl prog 258 3 3 3 := ⟨kM⟩
instance : zl prog 258 4 4 246 := ⟨kM⟩
instance : zl prog 258 5 5 43 := ⟨kM⟩
instance : xM prog 261 := ⟨kM⟩
instance : TPtr prog 270 272 := ⟨kM⟩
instance : zm prog 270 (.pointer none) 1 8 := ⟨kM⟩
instance : xM prog 270 := ⟨kM⟩
instance : zm prog 272 (.agg #[.pointer none,nS]) 2 32 := ⟨kM⟩
instance : jG prog 272 := ⟨kM⟩
instance : zl prog 272 0 0 270 := ⟨kM⟩
instance : zl prog 272 1 1 43 := ⟨kM⟩
instance : TInt prog 282 .u64 := ⟨kM⟩
instance : zm prog 285 (.agg #[.string ⟨#[]⟩]) 1 16 := ⟨kM⟩
instance : zl prog 285 0 0 9 := ⟨kM⟩
instance : TArr prog 302 8 42 := ⟨kM⟩
instance : zm prog 302 (.agg #[.int .u32 0,.int .u32 0,.int .u32 0,.int .u32 0,.int .u32 0,.int .u32 0,.int .u32 0,.int .u32 0]) 8 32 := ⟨kM⟩
instance : jG prog 302 := ⟨kM⟩
instance : TArr prog 303 8 42 := ⟨kM⟩
instance : zm prog 303 (.agg #[.int .u32 0,.int .u32 0,.int .u32 0,.int .u32 0,.int .u32 0,.int .u32 0,.int .u32 0,.int .u32 0]) 8 32 := ⟨kM⟩
instance : jG prog 303 := ⟨kM⟩
instance : xz prog 309 312 := ⟨kM⟩
instance : zm prog 312 (.agg #[.int .i64 0,.int .i64 0]) 2 16 := ⟨kM⟩
instance : jG prog 312 := ⟨kM⟩
instance : zl prog 312 1 1 3 := ⟨kM⟩
instance : TArr prog 321 8 42 := ⟨kM⟩
instance : zm prog 321 (.agg #[.int .u32 0,.int .u32 0,.int .u32 0,.int .u32 0,.int .u32 0,.int .u32 0,.int .u32 0,.int .u32 0]) 8 32 := ⟨kM⟩
instance : jG prog 321 := ⟨kM⟩
instance : xM prog 326 := ⟨kM⟩
instance : TPtr prog 330 5 := ⟨kM⟩
instance : zm prog 330 (.pointer none) 1 8 := ⟨kM⟩
instance : xM prog 330 := ⟨kM⟩
instance : xz prog 340 342 := ⟨kM⟩
instance : zm prog 342 (.agg #[.int .i32 0,.int .i32 0]) 2 8 := ⟨kM⟩
instance : jG prog 342 := ⟨kM⟩
instance : zl prog 342 0 0 21 := ⟨kM⟩
instance : zl prog 342 1 1 21 := ⟨kM⟩
instance : TArr prog 343 9 342 := ⟨kM⟩
instance : TPtr prog 347 374 := ⟨kM⟩
instance : zm prog 347 (.pointer none) 1 8 := ⟨kM⟩
instance : xM prog 347 := ⟨kM⟩
instance : TArr prog 352 64 42 := ⟨kM⟩
instance : zm prog 352 (.agg #[.int .u32 0,.int .u32 0,.int .u32 0,.int .u32 0,.int .u32 0,.int .u32 0,.int .u32 0,.int .u32 0,.int .u32 0,.int .u32 0,.int .u32 0,.int .u32 0,.int .u32 0,.int .u32 0,.int .u32 0,.int .u32 0,.int .u32 0,.int .u32 0,.int .u32 0,.int .u32 0,.int .u32 0,.int .u32 0,.int .u32 0,.int .u32 0,.int .u32 0,.int .u32 0,.int .u32 0,.int .u32 0,.int .u32 0,.int .u32 0,.int .u32 0,.int .u32 0,.int .u32 0,.int .u32 0,.int .u32 0,.int .u32 0,.int .u32 0,.int .u32 0,.int .u32 0,.int .u32 0,.int .u32 0,.int .u32 0,.int .u32 0,.int .u32 0,.int .u32 0,.int .u32 0,.int .u32 0,.int .u32 0,.int .u32 0,.int .u32 0,.int .u32 0,.int .u32 0,.int .u32 0,.int .u32 0,.int .u32 0,.int .u32 0,.int .u32 0,.int .u32 0,.int .u32 0,.int .u32 0,.int .u32 0,.int .u32 0,.int .u32 0,.int .u32 0]) 64 256 := ⟨kM⟩
instance : jG prog 352 := ⟨kM⟩
instance : zm prog 358 (.pointer none) 1 8 := ⟨kM⟩
instance : xM prog 358 := ⟨kM⟩
instance : xM prog 365 := ⟨kM⟩
instance : TArr prog 366 6 342 := ⟨kM⟩
instance : TArr prog 367 5 342 := ⟨kM⟩
instance : zm prog 369 (.agg #[.int .i64 0,.int .u8 0,.int .u8 0,.int .i32 0]) 4 16 := ⟨kM⟩
instance : jG prog 369 := ⟨kM⟩
instance : zl prog 369 0 0 3 := ⟨kM⟩
instance : zl prog 369 1 1 5 := ⟨kM⟩
instance : zl prog 369 2 2 5 := ⟨kM⟩
instance : zl prog 369 3 3 21 := ⟨kM⟩
instance : TArr prog 370 4 369 := ⟨kM⟩
instance : zm prog 370 (.agg #[.int .i64 0,.int .u8 0,.int .u8 0,.int .i32 0,.int .i64 0,.int .u8 0,.int .u8 0,.int .i32 0,.int .i64 0,.int .u8 0,.int .u8 0,.int .i32 0,.int .i64 0,.int .u8 0,.int .u8 0,.int .i32 0]) 16 64 := ⟨kM⟩
instance : jG prog 370 := ⟨kM⟩
instance : TPtr prog 371 383 := ⟨kM⟩
instance : zm prog 371 (.pointer none) 1 8 := ⟨kM⟩
instance : xM prog 371 := ⟨kM⟩
instance : zm prog 374 (.agg #[.pointer none,.pointer none,.pointer none]) 3 24 := ⟨kM⟩
instance : zl prog 374 0 0 371 := ⟨kM⟩
instance : zl prog 374 1 1 371 := ⟨kM⟩
instance : zl prog 374 2 2 371 := ⟨kM⟩
instance : zm prog 383 (.agg #[.int .u32 0,.int .u32 0,.int .u32 0,.int .u32 0,.int .u32 0,.int .u32 0,.int .u32 0,.int .u32 0,nS,.int .u64 0]) 10 64 := ⟨kM⟩
instance : jG prog 383 := ⟨kM⟩
instance : zl prog 383 0 0 321 := ⟨kM⟩
instance : zl prog 383 1 8 43 := ⟨kM⟩
instance : zl prog 383 2 9 34 := ⟨kM⟩
open Go Go.RowKit Go.Shelf
def renJ : Ren := ⟨fun x => if x = 14 then 131 else if x = 15 then 183 else x,fun x => if x = 22 then 43 else if x = 26 then 255 else x,fun x => x⟩
instance iQJ_1 : zm prog 0 (.tuple #[]) 1 0 := ⟨kM⟩
instance iQJ_2 : xM prog 0 := ⟨kM⟩
instance iQJ_3 : zm prog 20 .nilIface 1 16 := ⟨kM⟩
instance iQJ_4 : xM prog 20 := ⟨kM⟩
theorem laysJ : SlLaysJ.n14 prog renJ where
 mixed := kM
 f14 := kM
 f15 := kM
 t0 := kM
 a0 := zD (t := 0) inferInstance
 z0 := zE (t := 0) inferInstance
 v0 := xe (t := 0) inferInstance
 t3 := kM
 a3 := zD (t := 3) inferInstance
 z3 := zE (t := 3) inferInstance
 v3 := xe (t := 3) inferInstance
 t4 := kM
 a4 := zD (t := 4) inferInstance
 z4 := zE (t := 4) inferInstance
 v4 := xe (t := 4) inferInstance
 t9 := kM
 a9 := zD (t := 9) inferInstance
 z9 := zE (t := 9) inferInstance
 v9 := xe (t := 9) inferInstance
 t20 := kM
 a20 := zD (t := 20) inferInstance
 z20 := zE (t := 20) inferInstance
 v20 := xe (t := 20) inferInstance
 t22 := kM
 a22 := zD (t := 43) inferInstance
 z22 := zE (t := 43) inferInstance
 v22 := xe (t := 43) inferInstance
 t26 := kM
 a26 := zD (t := 255) inferInstance
 z26 := zE (t := 255) inferInstance
 v26 := xe (t := 255) inferInstance
 t5 := kM
 z5 := zE (t := 5) inferInstance
 i5 := kM
theorem yo (A : zb) (a : OA) (n c : Nat) (ls : List L8) (hp : Zg A a n ls) (hnc : n <= c) (hn : n <= 1000000) (hlen : ls.flatten.length <= 1000000000) :
  zh prog 131 [.slice a n c,nS] A (Got8 ls.flatten A) := by
 refine vF rfl rfl kM fun w hw => ?_
 obtain ⟨hl,vs,hr,hv⟩ := hp;have hvl : vs.length = n := by have := hr.1;omega
 match ls,hl,hlen,hv with
 | [],hl,_,_ =>
  have h0 : n = 0 := by simpa using hl.symm
  subst h0;refine (Any.bytes_Join_none laysJ a c nS w).mono ?_;rintro e w' ⟨rfl,rfl⟩;refine ⟨_,rfl,⟨rfl,rfl,rfl,sM,fun k hk => ?_⟩,[],fun k o hm => (by cases hm),sM,⟨[],some ⟨w.heap.size,0,none⟩,0,rfl,aR _,Rd.nil,fun h => absurd h sM,rfl⟩⟩;simp only [World.alloc];rw [Array.getElem?_push,if_neg oM]
 | [l],hl,hlen,hv =>
  have h1 : n = 1 := by simpa using hl.symm
  subst h1;obtain ⟨v,hv0⟩ : ∃ v,vs[0]? = some v := ⟨vs[0],aE oM⟩;obtain ⟨p,c2,rfl,hlc,hrl⟩ := hv 0 v l hv0 rfl;obtain ⟨b,o,rfl,hcell⟩ := yX hr hw hv0;simp only [aO,iS,aL] at hlen ⊢
  by_cases h0 : l.length = 0
  ·have : l = [] := List.length_eq_zero_iff.1 h0;subst this;refine (Any.bytes_Join_one_empty laysJ b o c p c2 nS w hcell).mono ?_;rintro e w' ⟨rfl,rfl⟩;exact ⟨_,rfl,Below.refl _ _,[],fun k o hm => (by cases hm),sM,⟨[],none,0,rfl,aR _,Rd.nil,fun h => absurd h sM,rfl⟩⟩
  ·obtain ⟨b1,o1,cs,e,m,rfl,hb1,hc1⟩ := hrl.2 (by intro e;rw [List.map_eq_nil_iff] at e;subst e;simp at h0);refine (Any.bytes_Join_one laysJ b o c ⟨b1,o1,none⟩ c2 l nS w hcell (fun i x hx => ?_) oM oM).mono ?_
   ·obtain ⟨b',o',e',hc'⟩ := yX hrl hw (i := i) (v := b8 x) (by simp [hx])
    cases e'
    rw [xZ];exact hc'
   ·rintro e w' ⟨v',rfl,hfb,hbe⟩;obtain ⟨C,a2,cap,rfl,h1,h2,h3,h4,h5⟩ := JO hfb;exact ⟨_,rfl,hbe,C,h2,h3,C,a2,cap,rfl,h1,h4,h5,rfl⟩
 | l1 :: l2 :: ls',hl,hlen,hv =>
  have h2n : 2 <= n := by simp at hl;omega
  obtain ⟨v,hv0⟩ : ∃ v,vs[0]? = some v := ⟨vs[0],aE oM⟩;obtain ⟨b,o,rfl,_⟩ := yX hr hw hv0
  have hparts : Lib.PartsAt w ⟨b,o,none⟩ vs (l1 :: l2 :: ls') := by
   refine ⟨oM,fun i v hi => ?_,fun i v l hi hi2 => ?_⟩
   ·obtain ⟨b',o',e',hc'⟩ := yX hr hw hi
    cases e'
    rw [xZ];exact hc'
   ·obtain ⟨p,c2,rfl,_,hrl⟩ := hv i v l hi hi2;exact holds_of hrl hw
  have hsep : Lib.HoldsBytes w nS [] := ⟨none,0,rfl,fun _ => rfl,fun a ha => by cases ha⟩;have hlens : ∀ xs : List L8,Lib.lens xs = xs.flatten.length := fun xs => by simp [Lib.lens,List.length_flatten]
  refine (Any.bytes_Join_many laysJ b o n c vs (l1 :: l2 :: ls') nS [] w hl h2n hparts hnc hsep oM (by rw [hlens];simp only [aQ,Nat.zero_mul,mT];omega)).mono ?_;rintro e w' ⟨v',rfl,hfb,hbe⟩
  have hj : ∀ xs : List L8,Lib.join xs [] = xs.flatten := fun xs => by
   cases xs with
   | nil => rfl
   | cons x r => rw [Lib.join_cons];simp [Lib.joinTail]
  rw [hj] at hfb;obtain ⟨C,a2,cap,rfl,h1,h2,h3,h4,h5⟩ := JO hfb;exact ⟨_,rfl,hbe,C,h2,h3,C,a2,cap,rfl,h1,h4,h5,rfl⟩
end Go.Proofs.YtebikhhoppiapaaGreatDoor
namespace Go.Proofs.YtebikhhoppiapaaGreatDoor
open Go Go.Ost Go.Sha Tryz
theorem qx (x : W) (n : Nat) (h : n <= 32) : zh prog 241 [b32 x,.int .u64 n] [] fun v A => v = b32 (rot n x) /\ A = [] := by
 refine eN func241 ntmps241 results241 fun F => ?_
 refine zg fun N1 hN1 => ?_
 refine rgE ?_;refine hN1 _ _ _ ?_;clear hN1;refine zg fun N2 hN2 => ?_
 refine rgE ?_;refine hN2 _ _ _ ?_;clear hN2;refine xr ?_;refine ze [] ?_;exact ⟨by rw [show ((32 : Int) - n).toNat = 32 - n from oM];rfl,rfl⟩
theorem and31 {P : Program} {t : TypeId} {x y : Operand} {κ : Value -> Prop} (n : Nat) (h0 : 1 <= n) (h1 : n <= 31) :
  zk P (do eqGuard .and t x y (.int .u64 (IntKind.u64.wrap (-(n : Int)))) (.int .u64 31);binOp .and t (.int .u64 (IntKind.u64.wrap (-(n : Int)))) (.int .u64 31)) κ = κ (.int .u64 (32 - n)) :=
 zq (fun w => by
  have key : ∀ n : Fin 32,1 <= n.val -> IntKind.u64.wrap ((iE 64 (IntKind.u64.wrap (-(n.val : Int))) &&& iE 64 31).toNat : Int) = 32 - n.val := dM
  show Result.ok (Value.int .u64 (IntKind.u64.wrap ((iE 64 (IntKind.u64.wrap (-(n : Int))) &&& iE 64 31).toNat : Int))) w = _
  rw [key ⟨n,oM⟩ h0]) κ
theorem qy (x : W) (n : Nat) (h0 : 1 <= n) (h1 : n <= 31) : zh prog 233 [b32 x,.int .i64 (-(n : Int))] [] fun v A => v = b32 (rot n x) /\ A = [] := by
 refine eN func233 ntmps233 results233 fun F => ?_
 refine zg fun N1 hN1 => ?_
 refine rgE ?_;refine hN1 _ _ _ ?_;clear hN1;refine zg fun N2 hN2 => ?_
 refine rgE ?_;refine xd fun K hK => ?_
 rw [and31 n h0 h1];refine hK _ _ ?_;clear hK K;refine rnE ?_;refine hN2 _ _ _ ?_;clear hN2;refine zg fun N3 hN3 => ?_
 refine rgE ?_;refine hN3 _ _ _ ?_;clear hN3;refine xr ?_;refine ze [] ?_;exact ⟨by rw [show ((32 : Int) - n).toNat = 32 - n from oM,show ((32 : Int) - (32 - n)).toNat = n from oM,BitVec.or_comm];rfl,rfl⟩
theorem cW (H : zd) (a : OA) (len cap : Nat) (x0 x1 x2 x3 : UInt8) (l : L8) (h : Rd 1 [H] a len ((x0 :: x1 :: x2 :: x3 :: l).map b8)) :
  zh prog 252 [.slice a len cap] [H] fun v A => v = b32 (word x0 x1 x2 x3) /\ A = [H] := by
 refine eN func252 ntmps252 results252 fun F => ?_
 have hr := h.next F;have hlen : 4 <= len := by have := h.1;simp at this;omega
 refine zg fun N1 hN1 => ?_
 refine rgE ?_;refine hN1 _ _ _ ?_;clear hN1;refine zg fun N2 hN2 => ?_
 refine cdL [[0],[1],[2],[3],[4],[5],[6],[7],[8],[9],[10],[11],[12],[13],[14],[15],[16],[17],[18],[19],[20],[21],[22,0]] ?_
 (repeat (refine yH (by simp only [iP,iD,iJ];rfl) fun K hK => ?_;(try simp only [gos,gob,aJ,if_true,reduceIte,reduceCtorEq,iN,aP,iQ,iF,lJ,lK,iV,iW,iM,iX,iY,iZ,lA,lB,lC,aW,iI,goq]);(try (simp (disch := omega) only [gow,gobw,ZG hr];try simp only [gos,gob,aJ,if_true,reduceIte,reduceCtorEq,iN,aP,iQ,iF,lJ,lK,iV,iW,iM,iX,iY,iZ,lA,lB,lC,aW,iI,goq]));(first | (with_reducible refine hK _ _ ?_) | (refine VA hr rfl ?_;(with_reducible refine hK _ _ ?_)) | ((with_reducible apply ji);(· (repeat (first | with_reducible exact Lies.one | with_reducible apply Lies.next)));(with_reducible refine hK _ _ ?_)) | ((with_reducible apply xf);(· (repeat (first | with_reducible exact Lies.one | with_reducible apply Lies.next)));(· exact rfl);(with_reducible refine hK _ _ ?_)));clear hK K));try ((with_reducible refine qd ?_);try simp only [Cont.then,Cont.block,Cont.noGoto,reduceIte,aP])
 refine wL fun K hK => ?_;refine pBk hK ?_;clear hK K
 (try refine jj ?_);(try refine zx ?_)
 refine hN2 _ _ _ ?_;clear hN2;refine xr ?_;refine ze [H] ?_;exact ⟨by rw [word_eq],rfl⟩
theorem word_at (H : zd) (a : OA) (len cap : Nat) (bs : L8) (hb : 4 <= bs.length) (h : Rd 1 [H] a len (bs.map b8)) :
  zh prog 252 [.slice a len cap] [H] fun v A => v = b32 (vT bs 0) /\ A = [H] := by
 match bs,hb,h with
 | x0 :: x1 :: x2 :: x3 :: l,_,h => exact cW H a len cap x0 x1 x2 x3 l h
theorem Yo (H : zd) (a : OA) (cap : Nat) (hcap : 64 <= cap) (bs : L8) (hb : bs.length = 64) (h : Rd 1 [H] a 64 (bs.map b8)) :
  zh prog 232 [.slice a 64 cap] [H] fun v A => v = .agg (rowW (spr bs 64)) /\ A = [H] := by
 refine eN func232 ntmps232 results232 fun F => ?_
 refine zg fun N1 hN1 => ?_
 refine rgE ?_;refine zF ?_;refine zC fun b2 => ?_;(try simp only [Value.cells])
 refine rnE ?_;refine hN1 _ _ _ ?_;clear hN1;refine zg fun N2 hN2 => ?_
 refine rgE ?_;refine zF ?_;refine zC fun b3 => ?_;(try simp only [Value.cells])
 refine rnE ?_;refine hN2 _ _ _ ?_;clear hN2;refine zg fun N3 hN3 => ?_
 refine zg fun N4 hN4 => ?_
 refine rgE ?_;refine hN4 _ _ _ ?_;clear hN4;refine zr ?_
 refine xL (fun q D L S => ∃ i : Nat,i <= 16 /\ q = 16 - i /\ D = [] /\ L = [(10,.int .i64 i),(0,.slice a 64 cap),(2,pT b2),(3,pT b3)] /\
  S = [[(b3,.cells (rowW (spr bs i)) 352 (0,0))],[(b2,.cells (rowW (spr bs 0)) 352 (0,0))],F,H]) ?_ ?_
 ·exact ⟨_,_,_,⟨0,oM,rfl,rfl,rfl,rfl⟩,by (repeat (first | exact True.intro | (refine aF ?_ ?_;(· (try simp only [evT,zj,zi,aJ]);(first | done | exact rfl))))),amA⟩
 ·rintro q D L S ⟨i,hi,rfl,rfl,rfl,rfl⟩;refine zg fun N5 hN5 => ?_
  refine rgE ?_;refine hN5 _ _ _ ?_;clear hN5;refine zg fun N6 hN6 => ?_
  refine jH (fun hc => ?_) (fun hc => ?_)
  ·have hc := of_decide_eq_true hc;refine zP ?_;refine hN6 _ _ _ ?_;clear hN6;refine zg fun N7 hN7 => ?_
   refine zr ?_;refine zg fun N8 hN8 => ?_
   refine rgE ?_;refine hN8 _ _ _ ?_;clear hN8;refine rgE ?_;refine cA (word_at H _ _ _ _ (by simp;omega) (kz h (l := (4 * (i : Int)).toNat) (h' := 64) (m := cap) oM oM oM)) ?_;rintro v A ⟨rfl,rfl⟩
   (try refine dO ?_);(try refine qj ?_)
   have e : (spr bs i).set (0 + i * 1) (vT ((bs.drop (4 * (i : Int)).toNat).take (64 - (4 * (i : Int)).toNat)) 0) = spr bs (i + 1) := by
    rw [IQ _ _ _ oM,show (4 * (i : Int)).toNat = 4 * i from oM];rw [show 0 + i * 1 = i from oM];simp only [spr];rw [if_pos oM]
   rw [e];refine hN7 _ _ _ ?_;clear hN7;refine rgE ?_;exact zI ⟨i + 1,oM,rfl,rfl,rfl,rfl⟩
  ·have hc := of_decide_eq_false hc;refine zZ ?_;try simp only [Cont.then,Cont.block,Cont.noGoto,reduceIte,aP];refine hN3 _ _ _ ?_;clear hN3;obtain rfl : i = 16 := oM;refine zg fun N9 hN9 => ?_
   refine zg fun N10 hN10 => ?_
   refine rgE ?_;refine hN10 _ _ _ ?_;clear hN10;refine zr ?_
   refine xL (fun q D L S => ∃ i : Nat,16 <= i /\ i <= 64 /\ q = 64 - i /\ D = [] /\ L = [(5,.int .i64 i),(2,pT b2),(3,pT b3)] /\
    S = [[(b3,.cells (rowW (spr bs i)) 352 (0,0))],[(b2,.cells (rowW (spr bs 0)) 352 (0,0))],F,H]) ?_ ?_
   ·exact ⟨_,_,_,⟨16,oM,oM,rfl,rfl,rfl,rfl⟩,by (repeat (first | exact True.intro | (refine aF ?_ ?_;(· (try simp only [evT,zj,zi,aJ]);(first | done | exact rfl))))),amA⟩
   ·rintro q D L S ⟨i,h16,hi,rfl,rfl,rfl,rfl⟩;refine zg fun N11 hN11 => ?_
    refine zg fun N12 hN12 => ?_
    refine rgE ?_;refine hN12 _ _ _ ?_;clear hN12;refine jH (fun hc => ?_) (fun hc => ?_)
    ·have hc := of_decide_eq_true hc;refine zP ?_;refine hN11 _ _ _ ?_;clear hN11;refine zg fun N13 hN13 => ?_
     refine zr ?_;refine zg fun N14 hN14 => ?_
     refine cdL [[0],[1],[2],[3],[4],[5],[6],[7],[8,0,7],[9,0]] ?_
     (try refine xu ?_);(try refine zx ?_)
     refine zG ?_;(repeat refine qV ?_)
     (try refine jj ?_);(try refine zx ?_)
     refine zG ?_;(repeat refine qV ?_)
     (try refine jj ?_);(try refine zx ?_)
     refine hN14 _ _ _ ?_;clear hN14;refine zg fun N15 hN15 => ?_
     refine rgE ?_;refine cA (qy _ 7 dM dM) ?_;rintro v A ⟨rfl,rfl⟩;refine rnE ?_;refine cA (qy _ 18 dM dM) ?_;rintro v A ⟨rfl,rfl⟩;refine rnE ?_;refine hN15 _ _ _ ?_;clear hN15;refine zg fun N16 hN16 => ?_
     refine rgE ?_;refine cA (qy _ 17 dM dM) ?_;rintro v A ⟨rfl,rfl⟩;refine rnE ?_;refine cA (qy _ 19 dM dM) ?_;rintro v A ⟨rfl,rfl⟩;refine rnE ?_;refine hN16 _ _ _ ?_;clear hN16;refine cdL [[0],[1],[2],[3],[4],[5],[6],[7],[8],[9],[10],[11],[12],[13],[14],[15,0]] ?_
     (try refine xu ?_);(try refine zx ?_)
     refine zG ?_;(first | ((with_reducible apply wW);(· (repeat (first | with_reducible exact Upd.one | with_reducible apply Upd.next)));(· (first | (rw [ld_len];omega) | (rw [aZ];omega) | (rw [St.list_len];omega) | (rw [jt];omega) | (rw [xO];omega) | (rw [xE _ _ _ oM];omega)))) | ((with_reducible apply Xb);(· (repeat (first | with_reducible exact Upd.one | with_reducible apply Upd.next)));(· (first | (rw [ld_len];omega) | (rw [aZ];omega) | (rw [St.list_len];omega) | (rw [jt];omega) | (rw [xO];omega) | (rw [xE _ _ _ oM];omega)))));(repeat refine qV ?_)
     (try refine jj ?_);(try refine zx ?_)
     refine hN13 _ _ _ ?_;clear hN13;rw [show 0 + i * 1 = i from oM,show 0 + ((i : Int) - 16).toNat * 1 = i - 16 from oM,show 0 + ((i : Int) - 15).toNat * 1 = i - 15 from oM,show 0 + ((i : Int) - 7).toNat * 1 = i - 7 from oM,show 0 + ((i : Int) - 2).toNat * 1 = i - 2 from oM];have e : (spr bs i).set i (nxt (spr bs i) i) = spr bs (i + 1) := by simp only [spr];rw [if_neg oM]
     refine vR (L' := [(5,.int .i64 i),(2,pT b2),(3,pT b3)])
      (S' := [[(b3,.cells (rowW ((spr bs i).set i (nxt (spr bs i) i))) 352 (0,0))],[(b2,.cells (rowW (spr bs 0)) 352 (0,0))],F,H]) (by (repeat (first | exact True.intro | (refine aF ?_ ?_;(· (try simp only [evT,zj,zi,aJ]);(first | done | exact rfl)))))) amA ?_
     rw [e];refine rgE ?_;exact zI ⟨i + 1,oM,oM,rfl,rfl,rfl,rfl⟩
    ·have hc := of_decide_eq_false hc;refine zZ ?_;try simp only [Cont.then,Cont.block,Cont.noGoto,reduceIte,aP];refine hN9 _ _ _ ?_;clear hN9;obtain rfl : i = 64 := oM;refine zg fun N17 hN17 => ?_
     refine jU ?_;refine xd fun K hK => ?_
     refine vt lkA (xO _ _) ?_;refine hK _ _ ?_;clear hK K;refine xd fun K hK => ?_
     refine qU upA (xO _ _) (xO _ _) ?_;refine hK _ _ ?_;clear hK K;refine rnE ?_;refine hN17 _ _ _ ?_;clear hN17;refine xr ?_;refine ⟨_,by simp only [qo,iB,mV];(repeat (first | with_reducible exact Take.nil _ | with_reducible exact Pick.head _ _ | with_reducible apply Pick.tail | with_reducible apply Take.cons)),?_⟩;simp only [resW,zy,zj,zi,aJ];refine vt lkA (xO _ _) ?_;exact ⟨[H],⟨rfl,rfl⟩,amA⟩
theorem Va (b e : Nat) (m : Nat × Nat) (s : St) (r : LV) :
  zh prog 187 [pT b] [[(b,.cells (rowX s.list r) e m)]] (New8 5 s.bytes [[(b,.cells (rowX s.list r) e m)]]) := by
 refine eN func187 ntmps187 results187 fun F => ?_
 refine zg fun N1 hN1 => ?_
 refine rgE ?_;refine hN1 _ _ _ ?_;clear hN1;refine zg fun N2 hN2 => ?_
 refine rgE ?_;refine hN2 _ _ _ ?_;clear hN2;refine zg fun N3 hN3 => ?_
 refine zg fun N4 hN4 => ?_
 refine rgE ?_;refine hN4 _ _ _ ?_;clear hN4;refine zr ?_;refine zU ?_;refine xL (fun q D L S => ∃ (i : Nat) (C : zd) (a : OA) (cap : Nat),i <= 8 /\ Own8 5 C a (4 * i) cap ((s.list.take i).flatMap xH) /\ q = 8 - i /\ D = [] /\ L = [(7,.int .i64 i),(6,pT b),(3,.slice a (4 * i) cap)] /\ S = [C,F,[(b,.cells (rowX s.list r) e m)]]) ?_ ?_
 ·exact ⟨_,_,_,⟨0,[],none,0,oM,zJ,rfl,rfl,rfl,rfl⟩,by (repeat (first | exact True.intro | (refine aF ?_ ?_;(· (try simp only [evT,zj,zi,aJ]);(first | done | exact rfl))))),amA⟩
 ·rintro q D L S ⟨i,C,a,cap,hi,ho,rfl,rfl,rfl,rfl⟩;refine zg fun N5 hN5 => ?_
  refine rgE ?_;refine hN5 _ _ _ ?_;clear hN5;refine zg fun N6 hN6 => ?_
  refine jH (fun hc => ?_) (fun hc => ?_)
  ·have hc := of_decide_eq_true hc;refine zP ?_;refine hN6 _ _ _ ?_;clear hN6;refine zg fun N7 hN7 => ?_
   refine zr ?_;refine zg fun N8 hN8 => ?_
   refine Vy ?_;(try refine qj ?_);refine hN8 _ _ _ ?_;clear hN8;refine rgE ?_;refine zF ?_;refine xI ([_,_,_,_]) dM rfl (rfl) (fun b1 C1 ho1 => ?_);refine zF ?_;refine app8 (ho) pkA (ho1.rd mmA) oM (fun C2 a2 cap2 ho2 => ?_);rw [WP,show 0 + i * 1 = i from oM,<- Vb s i oM] at ho2;refine rnE ?_;refine hN7 _ _ _ ?_;clear hN7;refine rgE ?_;exact zI ⟨i + 1,C2,a2,cap2,oM,ho2,rfl,rfl,rfl,rfl⟩
  ·have hc := of_decide_eq_false hc;refine zZ ?_;try simp only [Cont.then,Cont.block,Cont.noGoto,reduceIte,aP];refine hN3 _ _ _ ?_;clear hN3;obtain rfl : i = 8 := oM;refine zg fun N9 hN9 => ?_
   refine rgE ?_;refine hN9 _ _ _ ?_;clear hN9;refine xr ?_;refine ze ([C,[(b,.cells (rowX s.list r) e m)]]) ?_;exact ⟨_,_,_,rfl,ho,rfl⟩
theorem fG (n : Nat) : zh prog 251 [.int .u64 n] [] (New8 5 (be 8 n) []) := by
 refine eN func251 ntmps251 results251 fun F => ?_
 refine zg fun N1 hN1 => ?_
 refine rgE ?_;refine hN1 _ _ _ ?_;clear hN1;refine zg fun N2 hN2 => ?_
 refine rgE ?_;refine hN2 _ _ _ ?_;clear hN2;refine zg fun N3 hN3 => ?_
 refine zg fun N4 hN4 => ?_
 refine rgE ?_;refine hN4 _ _ _ ?_;clear hN4;refine zr ?_;refine zU ?_;refine xL (fun q D L S => ∃ (i : Nat) (C : zd) (a : OA) (cap : Nat),i <= 8 /\ Own8 5 C a i cap ((be 8 n).take i) /\ q = 8 - i /\ D = [] /\ L = [(5,.int .i64 i),(0,.int .u64 n),(3,.slice a i cap)] /\ S = [C,F]) ?_ ?_
 ·exact ⟨_,_,_,⟨0,[],none,0,oM,zJ,rfl,rfl,rfl,rfl⟩,by (repeat (first | exact True.intro | (refine aF ?_ ?_;(· (try simp only [evT,zj,zi,aJ]);(first | done | exact rfl))))),amA⟩
 ·rintro q D L S ⟨i,C,a,cap,hi,ho,rfl,rfl,rfl,rfl⟩;refine zg fun N5 hN5 => ?_
  refine rgE ?_;refine hN5 _ _ _ ?_;clear hN5;refine zg fun N6 hN6 => ?_
  refine jH (fun hc => ?_) (fun hc => ?_)
  ·have hc := of_decide_eq_true hc;refine zP ?_;refine hN6 _ _ _ ?_;clear hN6;refine zg fun N7 hN7 => ?_
   refine zr ?_;refine zg fun N8 hN8 => ?_
   refine rgE ?_;refine hN8 _ _ _ ?_;clear hN8;refine rgE ?_
   have e : Value.int .u8 (IntKind.u8.wrap ((n : Int) / 2 ^ (8 * (7 - (i : Int))).toNat)) = b8 (aG (n / 256 ^ (8 - 1 - i))) := by
    rw [show (8 * (7 - (i : Int))).toNat = 8 * (8 - 1 - i) from oM,shift8,ko];rfl
   rw [e];refine zF ?_;refine xI ([_]) dM rfl (rfl) (fun b1 C1 ho1 => ?_);refine zF ?_;refine app8 (ho) pkA (ho1.rd mmA) oM (fun C2 a2 cap2 ho2 => ?_);rw [<- gW 8 n i oM] at ho2;refine rnE ?_;refine hN7 _ _ _ ?_;clear hN7;refine rgE ?_;exact zI ⟨i + 1,C2,a2,cap2,oM,ho2,rfl,rfl,rfl,rfl⟩
  ·have hc := of_decide_eq_false hc;refine zZ ?_;try simp only [Cont.then,Cont.block,Cont.noGoto,reduceIte,aP];refine hN3 _ _ _ ?_;clear hN3;obtain rfl : i = 8 := oM;refine zg fun N9 hN9 => ?_
   refine rgE ?_;refine hN9 _ _ _ ?_;clear hN9;refine xr ?_;refine ze ([C]) ?_;exact ⟨_,_,_,rfl,ho,rfl⟩
theorem WC (n : Nat) (hn : n < 2305843009213693952) : zh prog 231 [.int .u64 n] [] (New8 5 (pad n) []) := by
 refine eN func231 ntmps231 results231 fun F => ?_
 refine zg fun N1 hN1 => ?_
 refine rgE ?_;refine hN1 _ _ _ ?_;clear hN1;refine zg fun N2 hN2 => ?_
 refine rgE ?_;refine zF ?_;refine xI ([128]) dM rfl (rfl) (fun b1 C1 ho1 => ?_);refine rnE ?_;refine hN2 _ _ _ ?_;clear hN2;refine zg fun N3 hN3 => ?_
 refine zr ?_;refine xL (fun q D L S => ∃ (i : Nat) (C : zd) (a : OA) (cap : Nat),i <= kf n /\ Own8 5 C a (1 + i) cap (128 :: aU i 0) /\ q = kf n - i /\ D = [] /\ L = [(0,.int .u64 n),(3,.slice a (1 + i) cap)] /\ S = [C,F]) ?_ ?_
 ·exact ⟨_,_,_,⟨0,C1,_,_,oM,ho1,rfl,rfl,rfl,rfl⟩,by (repeat (first | exact True.intro | (refine aF ?_ ?_;(· (try simp only [evT,zj,zi,aJ]);(first | done | exact rfl))))),amA⟩
 ·rintro q D L S ⟨i,C,a,cap,hi,ho,rfl,rfl,rfl,rfl⟩;have hz : kf n <= 63 := by unfold kf;omega
  refine zg fun N4 hN4 => ?_
  refine zg fun N5 hN5 => ?_
  refine rgE ?_;refine hN5 _ _ _ ?_;clear hN5;refine jH (fun hc => ?_) (fun hc => ?_)
  ·have hc := bne_iff_ne.1 hc;have hlt : i < kf n := by simp only [kf] at hi ⊢;omega
   refine zP ?_;refine hN4 _ _ _ ?_;clear hN4;refine zr ?_;refine rgE ?_;refine zF ?_;refine xI ([0]) dM rfl (rfl) (fun b1 C1 ho1 => ?_);refine zF ?_;refine app8 (ho) pkA (ho1.rd mmA) oM (fun C2 a2 cap2 ho2 => ?_);rw [<- OP] at ho2;refine rnE ?_;exact zI ⟨i + 1,C2,a2,cap2,oM,ho2,rfl,rfl,rfl,rfl⟩
  ·have hc := bne_eq_false_iff_eq.1 hc;refine zZ ?_;try simp only [Cont.then,Cont.block,Cont.noGoto,reduceIte,aP];refine hN3 _ _ _ ?_;clear hN3;obtain rfl : i = kf n := by unfold kf at *;omega
   refine zg fun N6 hN6 => ?_
   refine rgE ?_;rw [show (8 * (n : Int)) = ((8 * n : Nat) : Int) from oM];refine cA (fG (8 * n)) ?_;rintro v A ⟨C2,a2,cap2,rfl,ho2,rfl⟩;(try simp only [aD,aC]);refine rnE ?_;refine zF ?_;refine app8 (ho) pkA (ho2.rd mmA) (by rw [qf];omega) (fun C3 a3 cap3 ho3 => ?_);refine rnE ?_;refine hN6 _ _ _ ?_;clear hN6;refine xr ?_;have e : 1 + kf n + (be 8 (8 * n)).length = (pad n).length := by rw [Xi,qf];omega
   rw [e] at ho3 ⊢;refine ze ([C3]) ?_;exact ⟨_,_,_,rfl,ho3,rfl⟩
theorem jl (H : zd) (a : OA) (cap : Nat) (bs : L8) (hb : bs.length <= 70368744177664) (h : Rd 1 [H] a bs.length (bs.map b8)) :
  zh prog 81 [.slice a bs.length cap] [H] (New8 5 bs [H]) := by
 refine eN func81 ntmps81 results81 fun F => ?_
 refine zg fun N1 hN1 => ?_
 refine rgE ?_;refine hN1 _ _ _ ?_;clear hN1;refine zg fun N2 hN2 => ?_
 refine zg fun N3 hN3 => ?_
 refine rgE ?_;refine hN3 _ _ _ ?_;clear hN3;refine jH (fun hc => ?_) (fun hc => ?_)
 ·have hbs : bs = [] := by
   cases bs with
   | nil => rfl
   | cons x l =>
    obtain ⟨_,_,_,_,_,h3,_⟩ := h.2 sM;subst h3;cases hc
  subst hbs;refine zg fun N4 hN4 => ?_
  refine rgE ?_;refine hN4 _ _ _ ?_;clear hN4;refine zU ?_;refine xr ?_;refine ze ([[],H]) ?_;exact ⟨_,_,_,rfl,zJ,rfl⟩
 ·refine zP ?_;refine hN2 _ _ _ ?_;clear hN2;refine zg fun N5 hN5 => ?_
  refine rgE ?_;refine zF ?_;refine xI ([]) dM rfl (rfl) (fun b1 C1 ho1 => ?_);refine rnE ?_;refine zF ?_;refine app8 (ho1) pkA (h.mem mmA) oM (fun C2 a2 cap2 ho2 => ?_);rw [iT] at ho2 ⊢;refine rnE ?_;refine hN5 _ _ _ ?_;clear hN5;refine xr ?_;refine ze ([C2,H]) ?_;exact ⟨_,_,_,rfl,ho2,rfl⟩
theorem kG (H : zd) (a : OA) (cap : Nat) (bs : L8) (hb : bs.length <= 70368744177664) (h : Rd 1 [H] a bs.length (bs.map b8)) :
  zh prog 86 [.slice a bs.length cap] [H] (New8 5 bs [H]) := by
 refine eN func86 ntmps86 results86 fun F => ?_
 refine zg fun N1 hN1 => ?_
 refine rgE ?_;refine hN1 _ _ _ ?_;clear hN1;refine zg fun N2 hN2 => ?_
 refine rgE ?_;refine zF ?_;refine xI ([]) dM rfl (rfl) (fun b1 C1 ho1 => ?_);refine rnE ?_;refine zF ?_;refine app8 (ho1) pkA (h.mem mmA) oM (fun C2 a2 cap2 ho2 => ?_);rw [iT] at ho2 ⊢;refine rnE ?_;refine hN2 _ _ _ ?_;clear hN2;refine xr ?_;refine ze ([C2,H]) ?_;exact ⟨_,_,_,rfl,ho2,rfl⟩
theorem Zp (A : zb) (a b : OA) (n m c d : Nat) (xs ys : L8) (h1 : Rd 1 A a n (xs.map b8)) (h2 : Rd 1 A b m (ys.map b8)) :
  zh prog 68 [.slice a n c,.slice b m d] A fun v A' => v = .bool (xs == ys) /\ A' = A := by
 refine eN func68 ntmps68 results68 fun F => ?_
 refine zg fun N1 hN1 => ?_
 refine rgE ?_;refine hN1 _ _ _ ?_;clear hN1;refine zg fun N2 hN2 => ?_
 refine rgE ?_;refine xd fun K hK => ?_
 refine xW (h1.next F) ?_;refine hK _ _ ?_;clear hK K;refine rnE ?_;refine xd fun K hK => ?_
 refine xW (h2.next F) ?_;refine hK _ _ ?_;clear hK K;refine rnE ?_;refine hN2 _ _ _ ?_;clear hN2;refine xr ?_;exact yV A (by (try simp only [evT,zj,zi,aJ]);(first | done | exact rfl)) ⟨rfl,rfl⟩ (zn.refl _)
abbrev zCr : LV := [.string ⟨#[]⟩,.string ⟨#[]⟩,nS,.int .i64 0,nS,nS,nS,.int .u64 0,nS,.bool false]
abbrev zRes : LV := [.string ⟨#[]⟩,.string ⟨#[]⟩,nS,.int .i64 0,nS,nS,nS,.int .u64 0,nS,.bool false,.string ⟨#[]⟩,.int .u32 0]
theorem IJ (m : Nat) : Value.int .u8 ((m : Int) % 256) = b8 (aG m) := by
 simp only [b8,iO];congr 1
theorem ZT {P : Program} {t : TypeId} {x y : Operand} {j : IntKind} {a n : Int} {κ : Value -> Prop} (h0 : 0 <= n) (h1 : n <= 64) : zk P (do eqGuard .shr t x y (.int .i64 a) (.int j n);binOp .shr t (.int .i64 a) (.int j n)) κ = κ (.int .i64 (a / 2 ^ n.toNat)) :=
 zq (fun w => by
  have e : min n.toNat IntKind.i64.bits = n.toNat := by show min n.toNat 64 = n.toNat;omega
  have h3 : ¬ n < 0 := oM
  show (Op.shift .shr .i64 a j n).run P w = _
  rw [Op.shift,if_neg h3,e]
  show Result.ok (Value.int .i64 (Int.fdiv a (2 ^ n.toNat))) w = _
  rw [Int.fdiv_eq_ediv_of_nonneg _ (Int.le_of_lt (Int.pow_pos dM))]) κ
abbrev hib (m : Nat) : UInt8 := aG m ||| 128
theorem bP (b3 : Nat) {C : zd} {a : OA} {cap : Nat} {out : L8} (ho : Own8 5 C a out.length cap out) (hol : out.length <= 1000) (n : Nat) (hn : n < 1000000) :
  zh prog 218 [.int .i64 n,pT b3] [bx b3 (.slice a out.length cap) 43,C]
  fun v A => ∃ C' a' c',Own8 5 C' a' (out ++ vi n).length c' (out ++ vi n) /\ A = [bx b3 (.slice a' (out ++ vi n).length c') 43,C'] := by
 refine eNg func218 ntmps218 results218 fun F => ?_
 refine yr (fun D L S => ∃ (m : Nat) (pre : L8) (C : zd) (a : OA) (cap : Nat),m < 128 /\ vi n = pre ++ vi m /\ pre.length <= 10 /\ Own8 5 C a (out ++ pre).length cap (out ++ pre) /\ D = [] /\
  L = [(0,.int .i64 m),(1,pT b3)] /\ S = [C,bx b3 (.slice a (out ++ pre).length cap) 43,F]) ?_ ?_
 ·refine zM (fun q D L S => ∃ (m : Nat) (pre : L8) (C : zd) (a : OA) (cap : Nat),m = q /\ m < 1000000 /\ vi n = pre ++ vi m /\ Own8 5 C a (out ++ pre).length cap (out ++ pre) /\ D = [] /\
   L = [(0,.int .i64 m),(1,pT b3)] /\ S = [C,bx b3 (.slice a (out ++ pre).length cap) 43,F])
   ⟨n,[],C,a,cap,rfl,hn,rfl,by rw [aL];exact ho,rfl,rfl,by rw [aL]⟩ ?_
  rintro q D L S ⟨m,pre,C,a,cap,rfl,hm,hv,ho,rfl,rfl,rfl⟩
  have hpl : pre.length <= 4 := by
   have h1 := congrArg mA hv;have h2 := cY 4 n oM oM;rw [aB] at h1;omega
  refine gg ?_
  by_cases h1 : (128 : Int) <= m
  ·rw [dT h1];have hs := ZY (n := m) oM;refine gg ?_;rw [show Value.int .u8 (IntKind.u8.wrap (m : Int)) = b8 (aG m) from by rw [ko];rfl];refine zF ?_;rw [show Value.int .u8 128 = b8 128 from rfl,Go.Ost.u8_or];refine gg ?_;refine zF ?_;refine xI ([hib m]) dM rfl (rfl) (fun b5 C5 ho5 => ?_);refine gg ?_;refine zF ?_;refine app8 (ho) pkA (ho5.rd mmA) (by rw [aB];omega) (fun C6 a6 cap6 ho6 => ?_);refine gg ?_;have e1 : (out ++ pre).length + 1 = (out ++ (pre ++ [hib m])).length := by simp;omega
   rw [aN,e1] at ho6;rw [e1];refine zF ?_;rw [ZT dM dM,show (m : Int) / 2 ^ (7 : Int).toNat = ((m / 128 : Nat) : Int) from by show (m : Int) / 128 = _;omega];refine gg ?_;exact zI ⟨m / 128,pre ++ [hib m],C6,a6,cap6,rfl,oM,by rw [hv,hs,aN];rfl,ho6,rfl,rfl,rfl⟩
  ·rw [dF h1];refine gg ?_;exact mid ⟨m,pre,C,a,cap,oM,hv,oM,ho,rfl,rfl,rfl⟩
 rintro D L S ⟨m,pre,C,a,cap,hm,hv,hpl,ho,rfl,rfl,rfl⟩;rw [hv,Qo hm];refine gg ?_;rw [show Value.int .u8 (m : Int) = b8 (aG m) from by rw [<- IJ];congr 1;omega];refine zF ?_;refine xI ([aG m]) dM rfl (rfl) (fun b5 C5 ho5 => ?_);refine gg ?_;refine zF ?_;refine app8 (ho) pkA (ho5.rd mmA) (by rw [aB];omega) (fun C6 a6 cap6 ho6 => ?_);refine gg ?_;have e1 : (out ++ pre).length + 1 = (out ++ (pre ++ [aG m])).length := by simp;omega
 rw [aN,e1] at ho6;rw [e1];exact xm [bx b3 (.slice a6 (out ++ (pre ++ [aG m])).length cap6) 43,C6] ⟨C6,a6,cap6,ho6,rfl⟩
theorem fy : zh prog 219 [] [] (New8 5 frontB []) := by
 refine eNg func219 ntmps219 results219 fun F => ?_
 refine zF ?_;refine fE (n := 28) dM (fun b1 C1 ho1 => ?_);refine gg ?_;refine zF ?_;refine xI ([241,84,82,77]) dM rfl (rfl) (fun b2 C2 ho2 => ?_);refine gg ?_;refine xd fun K hK => ?_
 refine XT (l := 0) ho1 pkA (ho2.rd mmA) (WN _) dM (fun _ => by simp [Addr.add]) (fun C3 ho3 => ?_);refine hK _ _ ?_;clear hK K;refine gg ?_;have e3 : ((aU 28 (0 : UInt8)).map b8).take 0 ++ ((([241,84,82,77] : L8).map b8).take (min 4 28) ++ ((aU 28 (0 : UInt8)).map b8).drop (0 + min 4 28)) = frontB.map b8 := rfl;rw [e3] at ho3;refine ze ([C3]) ?_;exact ⟨_,_,_,rfl,ho3,rfl⟩
theorem Vg (k : Nat) : Value.int .u8 (IntKind.u8.wrap (k : Int)) = b8 (aG k) := by rw [ko];rfl
theorem OB {k : Nat} (h : k < 256) : Value.int .u8 (k : Int) = b8 (aG k) := by rw [<- IJ];congr 1;omega
theorem be4 (n : Nat) : be 4 n = [aG (n / 16777216),aG (n / 65536),aG (n / 256),aG n] := by
 simp [be,iC,List.range.loop]
theorem JM (n : Nat) (hn : n < 1000000) : zh prog 178 [.int .i64 n] [] (New8 5 (hdl n) []) := by
 refine eNg func178 ntmps178 results178 fun F => ?_
 refine cA (fy) ?_;rintro v A ⟨C3,a3,c3,rfl,ho3,rfl⟩;refine gA ?_;refine zF ?_;rw [ZT dM dM,show (n : Int) / 2 ^ (24 : Int).toNat = ((n / 16777216 : Nat) : Int) from by show (n : Int) / 16777216 = _;omega];refine gg ?_;refine zF ?_;rw [ZT dM dM,show (n : Int) / 2 ^ (16 : Int).toNat = ((n / 65536 : Nat) : Int) from by show (n : Int) / 65536 = _;omega];refine gg ?_;refine zF ?_;rw [ZT dM dM,show (n : Int) / 2 ^ (8 : Int).toNat = ((n / 256 : Nat) : Int) from by show (n : Int) / 256 = _;omega];refine gg ?_
 (try rw [OB (oM : n / 16777216 < 256)])
 (try rw [OB (oM : n / 65536 < 256)])
 (try rw [Vg (n / 16777216)])
 (try rw [Vg (n / 65536)])
 rw [Vg (n / 256),Vg n];refine zF ?_;refine xI ([aG (n / 16777216),aG (n / 65536),aG (n / 256),aG n]) dM rfl (rfl) (fun b5 C5 ho5 => ?_);refine gg ?_;refine zF ?_;refine app8 (ho3) pkA (ho5.rd mmA) dM (fun C6 a6 cap6 ho6 => ?_);rw [<- be4] at ho6;refine gg ?_;refine ze ([C6]) ?_;exact ⟨_,_,_,rfl,ho6,rfl⟩
def vL (t : Tm) : List Nat := [t.k,t.rnd,t.key.length,t.txt.length,0]
theorem nums_lt {t : Tm} (h1 : t.k <= 10) (h2 : t.rnd <= 1000) (h3 : t.key.length <= 100000) (h4 : t.txt.length <= 100000) : ∀ n ∈ vL t,n < 1000000 := by
 intro n hn;simp only [vL,aY,aT,or_false] at hn;omega
theorem Ya : ∀ l : List Nat,(∀ n ∈ l,n < 1000000) -> (l.flatMap vi).length <= 4 * l.length
 | [],_ => sM
 | n :: l,h => by
  have h1 := cY 4 n (by have := h n (aA ..);omega) oM;have h2 := Ya l fun m hm => h m (aK _ hm)
  rw [iU,aB,aH];omega
theorem prT_nums (t : Tm) : prT t = ([(vL t).flatMap vi,t.key,t.txt,[]] : List L8).flatten := by
 simp [prT,vL]
theorem Yg (t : Tm) (h1 : t.k <= 10) (h2 : t.rnd <= 1000) (h3 : t.key.length <= 100000) (h4 : t.txt.length <= 100000) {H : zd} {ka xa : OA} {kc xc : Nat}
  (hk0 : t.key.length <= kc) (hx0 : t.txt.length <= xc) (hk : Rd 1 [H] ka t.key.length (t.key.map b8)) (hx : Rd 1 [H] xa t.txt.length (t.txt.map b8)) :
  zh prog 177 [.agg #[.int .i64 t.k,.slice ka t.key.length kc,.slice xa t.txt.length xc,.int .i64 t.rnd,nS,nS]] [H]
  fun v A => v = sT (prT t) /\ A = [H] := by
 have hnl := nums_lt h1 h2 h3 h4;rw [prT_nums];refine eNg func177 ntmps177 results177 fun F => ?_
 refine oBg fun b1 => ?_
 refine zF ?_;refine zC fun b3 => ?_;(try simp only [Value.cells])
 refine gg ?_;refine zF ?_;refine jE rfl [.int .i64 t.k,.int .i64 t.rnd,.int .i64 t.key.length,.int .i64 t.txt.length,.int .i64 0] dM rfl rfl (by simp [Value.cell1]) (fun b23 C23 ho23 => ?_);refine gg ?_;have hn5 : (vL t).length = 5 := rfl;have hbl := Ya (vL t) hnl;rw [hn5] at hbl;refine zU ?_
 refine yr (fun D L S => ∃ (C : zd) (a : OA) (cap : Nat),Own8 5 C a ((vL t).flatMap vi).length cap ((vL t).flatMap vi) /\ D = [] /\
  L = [(4,.func (.func 218) #[] #[pT b3]),(3,pT b3),(1,pT b1)] /\ S = [C,bx b3 (.slice a ((vL t).flatMap vi).length cap) 43,[(b1,.cells #[.int .i64 t.k,.slice ka t.key.length kc,.slice xa t.txt.length xc,.int .i64 t.rnd,nS,nS] 253 (0,0))],F,H]) ?_ ?_
 ·refine zM (fun q D L S => ∃ (i : Nat) (C : zd) (a : OA) (cap : Nat),i <= 5 /\ q = 5 - i /\ Own8 5 C a (((vL t).take i).flatMap vi).length cap (((vL t).take i).flatMap vi) /\ D = [] /\
   L = [(25,.int .i64 i),(24,.int .i64 5),(23,.slice (some ⟨b23,0,none⟩) 5 5),(4,.func (.func 218) #[] #[pT b3]),(3,pT b3),(1,pT b1)] /\
   S = [C,bx b3 (.slice a (((vL t).take i).flatMap vi).length cap) 43,C23,[(b1,.cells #[.int .i64 t.k,.slice ka t.key.length kc,.slice xa t.txt.length xc,.int .i64 t.rnd,nS,nS] 253 (0,0))],F,H])
   ⟨0,[],none,0,oM,rfl,zJ,rfl,rfl,rfl⟩ ?_
  rintro q D L S ⟨i,C,a,cap,hi,rfl,ho,rfl,rfl,rfl⟩;refine gg ?_;refine if_d (fun hc => ?_) (fun hc => ?_)
  ·have hi5 : i < 5 := oM;have hx : (vL t)[i]? = some (vL t)[i] := aE (by rw [hn5];exact hi5)
   have hnx : ((vL t).take (i + 1)).flatMap vi = ((vL t).take i).flatMap vi ++ vi (vL t)[i] := by
    rw [lG,hx,lI];simp
   have hv : ([.int .i64 t.k,.int .i64 t.rnd,.int .i64 t.key.length,.int .i64 t.txt.length,.int .i64 0] : LV)[i]? = some (.int .i64 ((vL t)[i] : Nat)) := by
    match i,hi5 with
    | 0,_ => rfl
    | 1,_ => rfl
    | 2,_ => rfl
    | 3,_ => rfl
    | 4,_ => rfl
   have hb := hnl _ (lT (l := vL t) (n := i) (by rw [hn5];exact hi5))
   have hol : (((vL t).take i).flatMap vi).length <= 1000 := by
    have := Ya ((vL t).take i) fun n hn => hnl n (List.mem_of_mem_take hn)
    rw [aX] at this;omega
   generalize (vL t)[i] = n at *;generalize ((vL t).take i).flatMap vi = out at *;refine gg ?_;rw [show (⟨b23,0 + i * 1,none⟩ : Addr) = elA (some ⟨b23,0,none⟩) i from by simp only [elA,iR,xZ];congr 1;omega];refine zF ?_;refine kP ho23 hv mmA ?_;refine gg ?_;refine cA (bP b3 ho hol n hb) ?_;rintro v A ⟨C2,a2,c2,ho2,rfl⟩;refine gA ?_;exact zI ⟨i + 1,C2,a2,c2,oM,rfl,by rw [hnx];exact ho2,rfl,rfl,by rw [hnx]⟩
  ·obtain rfl : i = 5 := oM;rw [show (vL t).take 5 = vL t from rfl] at ho ⊢;refine gg ?_;exact mid ⟨C,a,cap,ho,rfl,rfl,rfl⟩
 rintro D L S ⟨C,a,cap,ho,rfl,rfl,rfl⟩;generalize (vL t).flatMap vi = out at *;refine gg ?_;refine zM (fun q D L S => q = 0 /\ D = [] /\ L = [(36,.int .i64 0),(35,.int .i64 0),(3,pT b3),(1,pT b1)] /\ S = [C,bx b3 (.slice a out.length cap) 43,[(b1,.cells #[.int .i64 t.k,.slice ka t.key.length kc,.slice xa t.txt.length xc,.int .i64 t.rnd,nS,nS] 253 (0,0))],F,H]) ⟨rfl,rfl,rfl,rfl⟩ ?_;rintro q D L S ⟨rfl,rfl,rfl,rfl⟩;refine gg ?_;refine zF ?_;refine jE rfl [.slice a out.length cap,.slice ka t.key.length kc,.slice xa t.txt.length xc,nS] dM rfl rfl (by simp [Value.cell1]) (fun b51 C51 ho51 => ?_);refine gg ?_
 have hp : Zg [C51,C,H] (some ⟨b51,0,none⟩) 4 [out,t.key,t.txt,[]] := by
  refine ⟨rfl,_,ho51.rd (aA ..),fun i v l hv hl => ?_⟩
  match i,hv,hl with
  | 0,hv,hl => cases hv;cases hl;exact ⟨a,cap,rfl,ho.1,ho.rd sM⟩
  | 1,hv,hl => cases hv;cases hl;exact ⟨ka,kc,rfl,hk0,hk.mem sM⟩
  | 2,hv,hl => cases hv;cases hl;exact ⟨xa,xc,rfl,hx0,hx.mem sM⟩
  | 3,hv,hl => cases hv;cases hl;exact ⟨none,0,rfl,aR _,Rd.nil⟩
 refine cA (yo [C51,C,H] (some ⟨b51,0,none⟩) 4 4 [out,t.key,t.txt,[]] hp dM dM (by simp only [aO,iS,aB,aQ];omega)) ?_;rintro v A ⟨C6,a6,c6,rfl,hc6,hr6,hlo,rfl⟩;refine gA ?_;refine zF ?_;refine xW (hr6.mem mmA) ?_;refine gg ?_;refine ze [H] ?_;exact ⟨rfl,rfl⟩
theorem Ut : zh prog 220 [nS] [] fun v A => v = nS /\ A = [] := by
 refine eNg func220 ntmps220 results220 fun F => ?_
 refine ze [] ?_;exact ⟨rfl,rfl⟩
abbrev tmV (t : Tm) (ka : OA) (kc : Nat) (xa : OA) (xc : Nat) : LV := [.int .i64 t.k,.slice ka t.key.length kc,.slice xa t.txt.length xc,.int .i64 t.rnd,nS,nS]
instance tpTm : xi prog 253 [(0,1),(1,1),(2,1),(3,1),(4,1),(5,1)] := ⟨kM⟩
theorem UH (t : Tm) (h3 : t.key.length <= 100000) (h4 : t.txt.length <= 100000) {H : zd} {ka xa : OA} {kc xc : Nat} (hk : Rd 1 [H] ka t.key.length (t.key.map b8)) (hx : Rd 1 [H] xa t.txt.length (t.txt.map b8)) :
  zh prog 179 [.agg (tmV t ka kc xa xc).toArray] [H] fun v A => ∃ us : LV,us.length = 6 /\ (∀ u ∈ us,Value.cell1 u) /\ v = .agg us.toArray /\ A = [H] := by
 refine eNg func179 ntmps179 results179 fun F => ?_
 refine oBg fun b1 => ?_
 refine oA ([.int .i64 0,nS,nS,.int .i64 0,nS,nS] : LV).toArray fun b2 => ?_
 (repeat (first | (with_reducible refine jN ?_) | ((with_reducible refine jn ?_);refine jm ?_)))
 (with_reducible refine qL ?_)
 refine zU ?_;refine gg ?_;refine cdLg [[0],[1],[3],[4],[6],[7],[9],[10],[2,0,4,7,10],[12],[5,0,7,10],[8,0,10],[11,0],[13,0],[14],[15,0],[16],[17,0],[18],[19,0]] ?_;refine dA (jl H ka kc t.key oM hk) ?_;rintro v A ⟨C3,a3,c3,rfl,ho3,rfl⟩;refine pC ?_;refine dA (jl H xa xc t.txt oM hx) ?_;rintro v A ⟨C4,a4,c4,rfl,ho4,rfl⟩;refine pC ?_;refine dR (Ut) ?_;refine dA (jl [] none 0 [] dM Rd.nil) ?_;rintro v A ⟨C5,a5,c5,rfl,ho5,rfl⟩;refine pC ?_
 (try (refine zG ?_;(first | refine xJ trivial upA ?_ | refine xq trivial upA sM ?_);refine pD ?_;refine gg ?_))
 (try (refine zG ?_;(first | refine xJ trivial upA ?_ | refine xq trivial upA sM ?_);refine pD ?_;refine gg ?_))
 (try (refine zG ?_;(first | refine xJ trivial upA ?_ | refine xq trivial upA sM ?_);refine pD ?_;refine gg ?_))
 (try (refine zG ?_;(first | refine xJ trivial upA ?_ | refine xq trivial upA sM ?_);refine pD ?_;refine gg ?_))
 refine gM ?_
 have hc1 : ∀ u ∈ ([.int .i64 t.k,.slice a3 t.key.length c3,.slice a4 t.txt.length c4,.int .i64 t.rnd,nS,.slice a5 ([] : L8).length c5] : LV),Value.cell1 u := by
  intro u hu;simp only [aY,aT,or_false] at hu
  rcases hu with rfl | rfl | rfl | rfl | rfl | rfl <;> simp [Value.cell1]
 refine oL [.int .i64 t.k,.slice a3 t.key.length c3,.slice a4 t.txt.length c4,.int .i64 t.rnd,nS,.slice a5 ([] : L8).length c5] rfl ?_;generalize hus : ([.int .i64 t.k,.slice a3 t.key.length c3,.slice a4 t.txt.length c4,.int .i64 t.rnd,nS,.slice a5 ([] : L8).length c5] : LV) = us at *;have hul : us.length = 6 := by rw [<- hus];rfl
 obtain ⟨u0,u1,u2,u3,u4,u5,rfl⟩ : ∃ u0 u1 u2 u3 u4 u5,us = [u0,u1,u2,u3,u4,u5] := ⟨_,_,_,_,_,_,hus.symm⟩;clear hus;refine oSg [u0,u1,u2,u3,u4,u5] rfl hc1 ?_;refine zf (vs := [.agg ([u0,u1,u2,u3,u4,u5] : LV).toArray]) [H] ⟨[u0,u1,u2,u3,u4,u5],rfl,hc1,rfl,rfl⟩ (hr := hrA)
abbrev bxB (b : Nat) (sym : Bool) (la : OA) (n lc r : Nat) : zd := [(b,.cells #[.bool sym,.bool false,.slice la n lc,.map (some r)] 182 (0,0))]
theorem Or (t : Tm) (h1 : t.k <= 10) (h2 : t.rnd <= 1000) (h3 : t.key.length <= 100000) (h4 : t.txt.length <= 100000) {H : zd} {ka xa : OA} {kc xc : Nat}
  (hk0 : t.key.length <= kc) (hx0 : t.txt.length <= xc) (hk : Rd 1 [H] ka t.key.length (t.key.map b8)) (hx : Rd 1 [H] xa t.txt.length (t.txt.map b8))
  (b : Nat) (x : BX) (hts : x.ts.length <= 1000) {la : OA} {lc r : Nat} {CL CM : zd} {us : LV} (hL : Ost.Own 6 253 CL la x.ts.length lc us) (hM : jg CM r (mapT x.ts 0)) :
  zh prog 129 [pT b,.agg (tmV t ka kc xa xc).toArray] [bxB b x.sym la x.ts.length lc r,CL,CM,H]
  fun v A => ∃ (O : zd) (oa : OA) (oc : Nat) (la' : OA) (lc' : Nat) (CL' CM' : zd) (us' : LV),v = .slice oa (tagX x t).1.length oc /\ Own8 5 O oa (tagX x t).1.length oc (tagX x t).1 /\
   Ost.Own 6 253 CL' la' (tagX x t).2.ts.length lc' us' /\ jg CM' r (mapT (tagX x t).2.ts 0) /\ A = [O,bxB b x.sym la' (tagX x t).2.ts.length lc' r,CL',CM',H] := by
 have hmg := Wf t x.ts 0;refine eNg func129 ntmps129 results129 fun F => ?_
 refine oBg fun b3 => ?_
 refine oLg (tmV t ka kc xa xc) rfl ?_;refine cR (Yg t h1 h2 h3 h4 hk0 hx0 hk hx) ?_;rw [hmg];unfold tagX
 cases hi : tix t x.ts 0 with
 | some i =>
  have hil := (tix_ge x.ts 0 i hi).2;simp only [lX,iR,Option.isSome_some];refine gg ?_;refine cA (JM (i + 1) oM) ?_;rintro v A ⟨O,oa,oc,rfl,hO,rfl⟩;refine gA ?_;refine ze [O,bxB b x.sym la x.ts.length lc r,CL,CM,H] ?_;exact ⟨O,oa,oc,la,lc,CL,CM,us,rfl,hO,hL,hM,rfl⟩
 | none =>
  simp only [Option.map_none,Option.getD_none,Option.isSome_none];refine gg ?_;rw [dF (oM : ¬ (4096 : Int) <= x.ts.length)];refine gg ?_;refine cdLg [[0],[1],[2],[3],[4],[5],[6,0,4],[7,0,4],[8,0],[9],[10],[11,0]] ?_;refine qF ?_;refine zz (vs := tmV t ka kc xa xc) lkA rfl ?_;refine gg ?_;refine dA (UH t h3 h4 hk hx) ?_;rintro v A ⟨us2,hul,huc,rfl,rfl⟩;refine pC ?_;refine zG ?_;refine xt (e := 253) (s := 6) (hs := inferInstance) (vs := us2) (by rfl) dM dM hul (fun b1 C1 ho1 => ?_);refine pC ?_;refine zG ?_;refine zu (e := 253) (s := 6) (hs := inferInstance) (by rfl) dM hL (.inr pkA) (ho1.rd mmA) huc (by simp only [maxLen];omega) oM (fun C3 a3 k3 ho3 => ?_);refine pC ?_
  (try (refine zG ?_;(first | refine xJ trivial upA ?_ | refine xq trivial upA sM ?_);refine pD ?_;refine gg ?_))
  refine gM ?_;refine cdLg [[0],[1],[2],[3],[4],[5],[6],[7],[8],[9],[10,0]] ?_;refine zG ?_;refine VM hM pkA (fun C9 hM9 => ?_);refine pC ?_;have hmp := Wd t x.ts 0 hi;rw [iT] at hmp;rw [hmp] at hM9;refine cA (JM (x.ts.length + 1) oM) ?_;rintro v A ⟨O,oa,oc,rfl,hO,rfl⟩;refine gA ?_;have hl1 : x.ts.length + 1 = (x.ts ++ [t]).length := sM;rw [hl1] at ho3 hO ⊢;refine ze [O,bxB b x.sym a3 (x.ts ++ [t]).length k3 r,C3,C9,H] ?_;exact ⟨O,oa,oc,a3,k3,C3,C9,us ++ us2,rfl,hO,ho3,hM9,rfl⟩
end Go.Proofs.YtebikhhoppiapaaGreatDoor
