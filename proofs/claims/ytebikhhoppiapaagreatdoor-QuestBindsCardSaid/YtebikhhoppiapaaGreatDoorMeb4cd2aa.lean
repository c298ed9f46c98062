/- Texts in a row: the walk's rules and contracts, as each says. Conditions: as each says. -/
import Derived.Test.YtebikhhoppiapaaGreatDoorMabaad0e2
import Derived.Shelf.Bytes.SlJoin
import Derived.Lib.MakeNoZero
import Derived.Laws.Externs
import Derived.Carry
import Derived.ProofKit
import Derived.OpenShut
import Derived.Deep.Matrix
import Derived.Lib.Builder
import Derived.Lib.UnsafeStr
import Derived.Laws.StructEq
import Derived.Lib.LaidTab
import Derived.Test.YtebikhhoppiapaaGreatDoorProg
set_option linter.unusedSimpArgs false
set_option linter.defProp false
set_option linter.unusedVariables false
set_option maxRecDepth 100000
set_option maxHeartbeats 8000000
open List renaming length_append -> aA, mem_cons_self -> aB, cons_append -> aC, nil_append -> aD, getElem?_eq_getElem -> aF, length_singleton -> aI, length_cons -> aJ, mem_cons_of_mem -> aK, append_nil -> aL, append_assoc -> aM, flatten_cons -> aO, replicate -> aQ, getD_eq_getElem?_getD -> aS, length_drop -> aT, length_take -> aU, length_nil -> aV, length_replicate -> aW, not_mem_nil -> aX, map_cons -> aZ, mem_cons -> bA, range -> bC, mem_append_left -> bD, length_map -> bE, take_length -> bF, flatten_append -> bG, getElem?_cons_succ -> bJ, drop_eq_getElem_cons -> bK, flatten_nil -> bO, flatMap_cons -> bP, getElem?_append_right -> bR, take_of_length_le -> bS, take_add_one -> cC, getElem?_cons_zero -> cE, perm_append_comm -> cG, flatMap_append -> cH, map_append -> cL, getElem?_toArray -> cM, getElem?_map -> cN, dropWhile_cons -> cQ, take_append_drop -> cR, getElem?_append_left -> cT, length -> cV, getElem?_take_of_lt -> cX, getD -> cY, drop_eq_nil_of_le -> dA, getElem?_modify -> dC, getElem_mem -> dD, length_set -> dF, toList_toArray -> dG, mem_singleton -> dH, all_cons -> dI, drop_drop -> dL, drop_length -> dR, map_nil -> dS
open And renaming intro -> aE
open Nat renaming reduceBEq -> aG, reduceEqDiff -> aP, le_refl -> aR, reduceSub -> bH, sub_zero -> bI, reduceLT -> bM, reduceAdd -> bQ, zero_add -> cD, mul_le_mul_right -> cF, add_mul -> cP, mod_eq_of_lt -> cU, shiftLeft_eq -> dJ, add_sub_cancel -> dK, le_trans -> dN, add_zero -> dQ, sub_self -> dT
open UInt8 renaming ofNat -> aH, toNat_ofNat' -> bL
open Bool renaming and_eq_true -> aN, true_and -> dM, false_or -> dO, or_eq_true -> dP
open Int renaming toNat_natCast -> aY, reduceToNat -> bN, reduceBEq -> bT, reduceBNe -> bU, reduceAdd -> bV, reduceSub -> bW, reduceMul -> bX, reduceDiv -> bY, reduceMod -> bZ, reducePow -> cB, reduceLT -> cJ, reduceLE -> cK
open BitVec renaming ofInt -> bB, toNat_ofNat -> cW, ofNat -> cZ
open Option renaming getD_some -> cI, map_some -> dE
open Array renaming getElem?_setIfInBounds_ne -> cO, ext' -> cS
namespace Go.Ost
open Go
variable {P : Program} {n : Nat} {α : Type}
def Gv (H : State -> Prop) (J : Chunk -> Prop) (C : Chunk) : Prop := ∃ (C0 : Chunk) (H0 : State), C = C0 ++ H0.flatten /\ J C0 /\ H H0
def GvS (H : State -> Prop) (I : State -> Prop) (C : State) : Prop := ∃ C0 H0 : State, C = C0 ++ H0 /\ I C0 /\ H H0
structure vJ (P : Program) (f : FuncId) (first captured : List Value) (encs : α -> List Value) (A : State) (T0 : Chunk -> Prop) (Hin Hout Hst : List α -> α -> State -> Prop) (Next : List α -> α -> Prop) (Done : List α -> Prop) (E Es : List α -> State -> Prop) (inf : Bool) : Prop where
 able : jW P f = true
 out : ∀ (l : Nat) (J Jx : List α -> Chunk -> Prop), (inf = true -> ∃ N, N <= 4611686018427387904 /\ ∀ pre C, J pre C -> pre.length <= N) -> (∀ C, J [] C -> ∃ T R, T0 T /\ C.Perm (T ++ R)) ->
  (∀ pre x, Next pre x -> YMeets P l (encs x) (Gv (Hin pre x) (J pre)) (Gv (Hout pre x) (J (pre ++ [x]))) (Gv (Hst pre x) (Jx (pre ++ [x])))) ->
  ∀ C, J [] C -> ∀ (F : Chunk) (w : World), Hold w (F :: C :: A) -> CallsIn (FW none) 0 P f (first ++ [Value.func (.yield l) #[] #[]] ++ captured).toArray w
   (wV w fun _ S => ∃ C' A', S = F :: C' :: A' /\ ((∃ pre, Done pre /\ J pre C' /\ E pre A') ∨ (∃ pre x, Next pre x /\ Jx (pre ++ [x]) C' /\ Es (pre ++ [x]) A')))
theorem jQ {f : FuncId} {first captured : List Value} {encs : α -> List Value} {A : State} {T0 : Chunk -> Prop} {Hin Hout Hst : List α -> α -> State -> Prop} {Next : List α -> α -> Prop} {Done : List α -> Prop} {E Es : List α -> State -> Prop} {inf : Bool} (ha : jW P f = true)
  (h : ∀ (l : Nat) (J Jx : List α -> Chunk -> Prop), (inf = true -> ∃ N, N <= 4611686018427387904 /\ ∀ pre C, J pre C -> pre.length <= N) -> (∀ C, J [] C -> ∃ T R, T0 T /\ C.Perm (T ++ R)) ->
   (∀ pre x, Next pre x -> YMeets P l (encs x) (Gv (Hin pre x) (J pre)) (Gv (Hout pre x) (J (pre ++ [x]))) (Gv (Hst pre x) (Jx (pre ++ [x])))) ->
   ∀ C, J [] C -> Meets P f (first ++ [Value.func (.yield l) #[] #[]] ++ captured) (C :: A) fun _ S => ∃ C' A', S = C' :: A' /\ ((∃ pre, Done pre /\ J pre C' /\ E pre A') ∨ (∃ pre x, Next pre x /\ Jx (pre ++ [x]) C' /\ Es (pre ++ [x]) A'))) :
  vJ P f first captured encs A T0 Hin Hout Hst Next Done E Es inf :=
 ⟨ha, fun l J Jx hN hT hY C hC F w hw => ((h l J Jx hN hT hY C hC).out F w hw).mono fun e w' ⟨v, S, a, b, c, A', d, C', A'', e', r⟩ => ⟨v, S, a, b, c, C', A'', by rw [d, e'], r⟩⟩
theorem xF {l : Nat} {args : List Value} {Jin Jout Jstop : Chunk -> Prop} {Hi Ho Hs : State -> Prop} {S G H : State} {C : Chunk} {κ : Value -> State -> Prop} (h : YMeets P l args (Gv Hi Jin) (Gv Ho Jout) (Gv Hs Jstop)) (hC : Jin C) (hH : Hi H) (ht : Take (C :: H) S G)
  (k1 : ∀ C' H', Jout C' -> Ho H' -> κ (.bool true) (C' :: (H' ++ G))) (k2 : ∀ C' H', Jstop C' -> Hs H' -> κ (.bool false) (C' :: (H' ++ G))) : YieldW P l args.toArray S κ := by
 refine ⟨fun w hw => ?_⟩;have h1 := h.out (C ++ H.flatten) ⟨C, H, rfl, hC, hH⟩ G.flatten w (hw.perm (ht.perm.trans (by simp only [aC, bG, aO, bO, aL]; rw [<- aM]; exact cG)));obtain ⟨fn, tm, asg, bd, hr, hR⟩ := h1;refine ⟨fn, tm, asg, bd, hr, hR.mono ?_⟩;rintro e w' ⟨v, S', rfl, he, hh, b, C', rfl, rfl, j1, j2⟩
 cases b
 ·obtain ⟨C0, H0, rfl, hJ, hH0⟩ := j2 rfl;exact ⟨.bool false, C0 :: (H0 ++ G), rfl, he, hh.perm (by simp only [bG, aO, bO, aL]; rw [<- aM C0]; exact cG), k2 C0 H0 hJ hH0⟩
 ·obtain ⟨C0, H0, rfl, hJ, hH0⟩ := j1 rfl;exact ⟨.bool true, C0 :: (H0 ++ G), rfl, he, hh.perm (by simp only [bG, aO, bO, aL]; rw [<- aM C0]; exact cG), k1 C0 H0 hJ hH0⟩
theorem KS {ro : Option Nat} {fn : FuncId} {t : Array Value} {ps : Array Tmp} {assign body : Code} {dB l : Nat} {L : Env} {f : FuncId} {first captured : List Value} {encs : α -> List Value} {A C0 M : State}
  {T0 : Chunk -> Prop} {Hin Hout Hst : List α -> α -> State -> Prop} {Next : List α -> α -> Prop} {Done : List α -> Prop} {E Es : List α -> State -> Prop} {inf : Bool} {Q : Exit -> Act -> World -> Prop} {a' : Act} {w w1 : World}
  (hit : vJ P f first captured encs A T0 Hin Hout Hst Next Done E Es inf) (I : List α -> State -> Prop) (Ix : Code -> List α -> State -> Prop)
  (hinf : inf = true -> ∃ N, N <= 4611686018427387904 /\ ∀ pre C, I pre C -> pre.length <= N) (hT : ∀ C, I [] C -> ∃ T R, T0 T /\ C.flatten.Perm (T ++ R)) (hag : Agree n L [] { tmps := t, defers := [] }) (hps : ∀ x, (encs x).length = ps.size) (h0 : I [] C0) (he : Ext w w1)
  (hw1 : Hold w1 ([(l, .loop { state := .ready, pending := none, fn, tmps := t, params := ps, assign, body, defers := dB })] :: M ++ C0 ++ A))
  (hround : ∀ (F : Chunk) (C H : State) (r : Loop) (pre : List α) (x : α), Next pre x -> I pre C -> Hin pre x H -> CodeW P n (some l) assign (ZZ P n l r body F (GvS (Hout pre x) (I (pre ++ [x]))) (fun c => GvS (Hst pre x) (Ix c (pre ++ [x])))) [] (jz n ps.toList (encs x) L) ([(l, .loop r)] :: F :: (C ++ H)))
  (hdone : ∀ (pre : List α) (C A : State) (w2 : World), Done pre -> I pre C -> E pre A -> Ext w w2 -> Hold w2 (M ++ C ++ A) -> Q .normal a' w2)
  (hstop : ∀ (c : Code) (pre : List α) (x : α) (C A : State) (w2 : World), Next pre x -> Ix c (pre ++ [x]) C -> Es (pre ++ [x]) A -> Ext w w2 -> Hold w2 (M ++ C ++ A) -> c.wpIn (FW ro) 0 P Q a' w2) :
  CallsIn (FW none) 0 P f (first ++ [Value.func (.yield l) #[] #[]] ++ captured).toArray w1 (rangePost (FW ro) 0 P l Q a') := by
 have h1 := hit.out l (fun pre C => ∃ C1 : State, C = (l, .loop { state := .ready, pending := none, fn, tmps := t, params := ps, assign, body, defers := dB }) :: C1.flatten /\ I pre C1)
  (fun pre C => ∃ (c : Code) (C1 : State), C = (l, .loop { state := .done, pending := some c, fn, tmps := t, params := ps, assign, body, defers := dB }) :: C1.flatten /\ Ix c pre C1)
  (fun h => let ⟨N, hN0, hN⟩ := hinf h; ⟨N, hN0, fun pre C ⟨C1, _, hI⟩ => hN pre C1 hI⟩)
  (fun C ⟨C1, hC, hI⟩ => by
   obtain ⟨T, R, h1, h2⟩ := hT C1 hI;exact ⟨T, _ :: R, h1, by rw [hC]; exact (List.Perm.cons _ h2).trans List.perm_middle.symm⟩)
  (fun pre x hx => (Zs (fn := fn) (t := t) (ps := ps) (assign := assign) (body := body) (dB := dB) (I := GvS (Hin pre x) (I pre)) (Iout := GvS (Hout pre x) (I (pre ++ [x]))) (Ix := fun c => GvS (Hst pre x) (Ix c (pre ++ [x]))) hag (hps x) fun F C r _ ⟨C0, H0, hC0, hI, hH⟩ => by rw [hC0]; exact hround F C0 H0 r pre x hx hI hH).swap
   (fun C hC => by obtain ⟨C0, H0, h1, ⟨C1, h2, h3⟩, h4⟩ := hC; exact ⟨C1 ++ H0, by rw [h1, h2]; simp, C1, H0, rfl, h3, h4⟩)
   (fun C hC => by obtain ⟨C0, h1, C1, H0, h2, h3, h4⟩ := hC; exact ⟨_, H0, by rw [h1, h2, bG, <- aC], ⟨C1, rfl, h3⟩, h4⟩)
   (fun C hC => by obtain ⟨c, C0, h1, C1, H0, h2, h3, h4⟩ := hC; exact ⟨_, H0, by rw [h1, h2, bG, <- aC], ⟨c, C1, rfl, h3⟩, h4⟩)) _ ⟨C0, rfl, h0⟩ M.flatten w1
  (hw1.perm (by
   simp only [bG, aO, aC, aM, aD];exact List.perm_middle.symm))
 refine h1.mono ?_;rintro e w2 ⟨v, S, rfl, he2, hh, C', A, rfl, (⟨pre, hd, ⟨C1, rfl, hI⟩, hE⟩ | ⟨pre, x, hx, ⟨c, C1, rfl, hI⟩, hE⟩)⟩
 ·have hw2 : Hold w2 ([(l, .loop { state := .ready, pending := none, fn, tmps := t, params := ps, assign, body, defers := dB })] :: (M ++ C1 ++ A)) := hh.perm (by
   simp only [bG, aO, aC, aM, aD];exact List.perm_middle)
  have hl2 : w2.heap[l]? = some (.loop { state := .ready, pending := none, fn, tmps := t, params := ps, assign, body, defers := dB }) := hw2.get l _ (by simp);refine ⟨none, _, run_endLoop (P := P) hl2 (by simp), hdone pre C1 A _ hd hI hE ((he.trans he2).trans (qW _ _ _)) ?_⟩;exact (jT hw2).sub (by simp)
 ·have hw2 : Hold w2 ([(l, .loop { state := .done, pending := some c, fn, tmps := t, params := ps, assign, body, defers := dB })] :: (M ++ C1 ++ A)) := hh.perm (by
   simp only [bG, aO, aC, aM, aD];exact List.perm_middle)
  have hl2 : w2.heap[l]? = some (.loop { state := .done, pending := some c, fn, tmps := t, params := ps, assign, body, defers := dB }) := hw2.get l _ (by simp);refine ⟨some c, _, run_endLoop (P := P) hl2 (by simp), hstop c pre x C1 A _ hx hI hE ((he.trans he2).trans (qW _ _ _)) ?_⟩;exact (jT hw2).sub (by simp)
theorem xW {g : Operand} {ps : Array Tmp} {assign body : Code} {K : Cont} {D : List Nat} {L : Env} {S A C0 : State} {f : FuncId} {first captured : Array Value} {encs : α -> List Value}
  {T0 : Chunk -> Prop} {Hin Hout Hst : List α -> α -> State -> Prop} {Next : List α -> α -> Prop} {Done : List α -> Prop} {E Es : List α -> State -> Prop} {inf : Bool} (hg : evT L g = some (.func (.func f) first captured)) (hit : vJ P f first.toList captured.toList encs A T0 Hin Hout Hst Next Done E Es inf)
  (ht : Take A S C0) (I : List α -> State -> Prop) (Ix : Code -> List α -> State -> Prop) (hinf : inf = true -> ∃ N, N <= 4611686018427387904 /\ ∀ pre C, I pre C -> pre.length <= N) (hT : ∀ C, I [] C -> ∃ T R, T0 T /\ C.flatten.Perm (T ++ R)) (hps : ∀ x, (encs x).length = ps.size) (h0 : I [] C0)
  (hround : ∀ (l : Nat) (F : Chunk) (C H : State) (r : Loop) (pre : List α) (x : α), Next pre x -> I pre C -> Hin pre x H -> CodeW P n (some l) assign (ZZ P n l r body F (GvS (Hout pre x) (I (pre ++ [x]))) (fun c => GvS (Hst pre x) (Ix c (pre ++ [x])))) [] (jz n ps.toList (encs x) L) ([(l, .loop r)] :: F :: (C ++ H)))
  (hdone : ∀ (d : Nat) (pre : List α) (C A : State), Done pre -> I pre C -> E pre A -> K .normal (d :: D) L ([(d, .deferred (some []))] :: (C ++ A)))
  (hstop : ∀ (d : Nat) (c : Code) (pre : List α) (x : α) (C A : State), Next pre x -> Ix c (pre ++ [x]) C -> Es (pre ++ [x]) A -> CodeW P n none c K (d :: D) L ([(d, .deferred (some []))] :: (C ++ A))) :
  CodeW P n none (.rangeFunc g ps assign body) K D L S := by
 refine ⟨fun a w ha hw => wpIn_rangeFunc fun fn _ => ?_⟩;obtain ⟨W1, hW1⟩ : ∃ W1 : World, W1 = (w.alloc (.deferred (some []))).alloc (.loop { state := .ready, pending := none, fn, tmps := a.tmps, params := ps, assign, body, defers := w.heap.size }) := ⟨_, rfl⟩
 refine ⟨w.heap.size + 1, [JK w.heap.size], W1,
  { target := .fn (.func f) captured, args := first ++ #[.func (.yield (w.heap.size + 1)) #[] #[]] }, W1, f, (first.toList ++ [Value.func (.yield (w.heap.size + 1)) #[] #[]] ++ captured.toList).toArray, W1,
  by rw [hW1]; exact run_enterLoop_outer fn a.tmps ps assign body, ?_, fun _ _ => trivial, ?_, fun h => (by cases h), ?_⟩
 ·simp only [resolve, ha.ev hg]
  simp [Deferred.ofValue, Act.eval]
 ·simp only [invoke];rw [ZP hit.able]
  congr 2
  apply cS; simp
 ·have e1 : (w.alloc (.deferred (some []))).heap = w.heap.push (.deferred (some [])) := rfl;have hw1 := hw.new (w' := w.alloc (.deferred (some []))) (o := .deferred (some [])) rfl;have hw2 := hw1.new (w' := (w.alloc (.deferred (some []))).alloc (.loop { state := .ready, pending := none, fn, tmps := a.tmps, params := ps, assign, body, defers := w.heap.size })) rfl;rw [World.size_alloc, <- hW1] at hw2
  refine KS (n := n) (L := L) (dB := w.heap.size) (t := a.tmps) (fn := fn) (C0 := C0) (M := [[(w.heap.size, .deferred (some []))]]) (w := w) hit I Ix hinf hT ⟨ha.size, ha.get, rfl⟩ hps h0
   (by rw [hW1]; exact ⟨rfl, rfl, rfl, by simp only [World.size_alloc]; omega⟩) ?_ (fun F C H r pre x hx hI hH => hround _ F C H r pre x hx hI hH) ?_ ?_
  ·refine hw2.perm ?_;simp only [bG, aO, aC, aM, aD, bO];refine List.Perm.cons _ (List.Perm.cons _ ?_);have := ht.perm;rw [bG] at this;exact this.trans cG
  ·intro pre C A w2 hd hI hE he hh;exact ⟨_, L, _, hdone w.heap.size pre C A hd hI hE, ⟨ha.size, ha.get, by simp [ha.marks]⟩, he, hh.perm (by simp)⟩
  ·intro c pre x C A w2 hx hI hE he hh;refine wpIn_mono ((hstop w.heap.size c pre x C A hx hI hE).out { a with defers := [JK w.heap.size] ++ a.defers } w2 ⟨ha.size, ha.get, by simp [ha.marks]⟩ (hh.perm (by simp))) fun _ _ _ hq => hq.ext he
theorem qg {ro : Option Nat} {c : Code} {K : Cont} {D : List Nat} {L : Env} {S S' : State} (hp : S.flatten.Perm S'.flatten) (h : CodeW P n ro c K D L S') : CodeW P n ro c K D L S :=
 ⟨fun a w ha hw => h.out a w ha (hw.perm hp)⟩
theorem T0_in {T R Cj : Chunk} {T0 : Chunk -> Prop} {S G : State} (h : T0 T) (hp : Pick Cj S G) (hc : Cj.Perm (T ++ R)) : ∃ T R, T0 T /\ S.flatten.Perm (T ++ R) :=
 ⟨T, R ++ G.flatten, h, hp.perm.trans (by rw [aO, <- aM]; exact List.Perm.append_right _ hc)⟩
theorem Yn {T : Chunk} {T0 : Chunk -> Prop} {S G : State} (h : T0 T) (hp : Pick T S G) : ∃ T R, T0 T /\ S.flatten.Perm (T ++ R) := ⟨T, G.flatten, h, hp.perm⟩
theorem xG {b : Nat} {e t : TypeId} {z : Value} {s by_ : Nat} {cs : Array Value} {vs : List Value} {S S' : State} {κ : State -> Prop} [hs : zh P t z s by_] (hz : vs.length = s) (hc : ∀ v ∈ vs, Value.cell1 v)
  (hu : Upd b (.cells cs e (0, 0)) (.cells vs.toArray e (0, 0)) S S') (hcs : cs.size = s) (k : κ S') : UnitW P (Instr.storeAt t (.pointer (some ⟨b, 0, none⟩)) (.agg vs.toArray)) S κ := by
 have e1 : xC cs 0 vs = vs.toArray := by
  have := jZ vs [] cs.toList [] (by simp [hcs, hz])
  simpa using this
 have e2 : vs.toArray.toList = vs := by simp
 exact wm (e := e) (cs := cs) (by simpa using hz) (by simpa using hc) (by rw [e2, e1]; exact hu) (by omega) k
theorem zi {b : Nat} {e t : TypeId} {z : Value} {s by_ : Nat} {vs : List Value} {m : Nat × Nat} {S : State} {κ : Value -> Prop} [hf : xQ P t] [hs : zh P t z s by_] (hl : Lies b (.cells vs.toArray e m) S) (hz : vs.length = s) (k : κ (.agg vs.toArray)) :
  ReadW P (Instr.loadAt t (.pointer (some ⟨b, 0, none⟩))) S κ := by
 refine kz hl (by simp [hz]) ?_
 have e1 : vs.toArray.extract 0 (0 + s) = vs.toArray := by
  apply cS
  simp [List.extract_eq_take_drop, <- hz]
 rw [e1]; exact k
theorem vD {b : Nat} {e t : TypeId} {z : Value} {s by_ : Nat} {vs ws : List Value} {o : Nat} {m : Nat × Nat} {S : State} {κ : Value -> Prop} [hf : xQ P t] [hs : zh P t z s by_] (hl : Lies b (.cells vs.toArray e m) S) (ho : o + s <= vs.length) (hw : (vs.drop o).take s = ws) (k : κ (.agg ws.toArray)) :
  ReadW P (Instr.loadAt t (.pointer (some ⟨b, o, none⟩))) S κ := by
 refine kz hl (by simpa using ho) ?_
 have e1 : vs.toArray.extract o (o + s) = ws.toArray := by
  apply cS
  simp [List.extract_eq_take_drop, <- hw]
 rw [e1]; exact k
abbrev bx (p : Nat) (v : Value) (t : TypeId) : Chunk := [(p, .cells #[v] t (0, 0))]
abbrev noH {α : Type} (_ : List α) (_ : α) (H : State) : Prop := H = []
end Go.Ost
namespace Go.Ost
open Go
variable {P : Program}
section rows
variable {α : Type} (enc : α -> List Value) (s : Nat) (hs : ∀ x, (enc x).length = s)
include hs
theorem XK (l : List α) (i : Nat) (h : i < l.length) : l.flatMap enc = (l.take i).flatMap enc ++ (enc l[i] ++ (l.drop (i + 1)).flatMap enc) /\ ((l.take i).flatMap enc).length = i * s := by
 refine ⟨?_, ?_⟩
 ·conv => lhs; rw [<- cR i l, cH, bK h, bP]
 ·rw [qo enc s hs, aU]; congr 1; omega
theorem flat_sub (l : List α) (i off n : Nat) (h : i < l.length) (hn : off + n <= s) : ((l.flatMap enc).drop (i * s + off)).take n = ((enc l[i]).drop off).take n := by
 obtain ⟨e1, e2⟩ := XK enc s hs l i h;rw [e1, <- e2, <- dL, List.drop_left' rfl, List.drop_append_of_le_length (by rw [hs]; omega), List.take_append_of_le_length (by rw [aT, hs]; omega)]
theorem JU (l : List α) (i off : Nat) (vs : List Value) (h : i < l.length) (hn : off + vs.length <= s) (x' : α) (hx : (enc l[i]).take off ++ (vs ++ (enc l[i]).drop (off + vs.length)) = enc x') :
  setL (l.flatMap enc) (i * s + off) vs = (l.set i x').flatMap enc := by
 obtain ⟨e1, e2⟩ := XK enc s hs l i h
 have e3 : enc l[i] = (enc l[i]).take off ++ (((enc l[i]).drop off).take vs.length ++ (enc l[i]).drop (off + vs.length)) := by
  conv => lhs; rw [<- cR off (enc l[i]), <- cR vs.length ((enc l[i]).drop off), dL]
 have e4 : l.flatMap enc = ((l.take i).flatMap enc ++ (enc l[i]).take off) ++ (((enc l[i]).drop off).take vs.length ++ ((enc l[i]).drop (off + vs.length) ++ (l.drop (i + 1)).flatMap enc)) := by
  rw [e1]; conv => lhs; rw [e3]
  simp only [aM]
 have e5 : ((l.take i).flatMap enc ++ (enc l[i]).take off).length = i * s + off := by
  rw [aA, e2, aU, hs]; omega
 rw [e4, <- e5, Jq vs _ _ _ (by rw [aU, aT, hs]; omega), List.set_eq_take_append_cons_drop, if_pos h, cH, bP, <- hx];simp only [aM]
end rows
section facts
variable {a : Option Addr} {len cap : Nat} {H : Chunk} {κ : Value -> Prop} {t e' : TypeId} {z : Value} {s n b2 : Nat} {α : Type} {enc : α -> List Value} {l : List α} {x x' : α} {i off : Nat} {S G : State} {vs : List Value}
theorem Wu [xQ P t] [zh P t z n b2] (ho : Own s e' H a len cap (l.flatMap enc)) (hs : ∀ x, (enc x).length = s) (hx : l[i]? = some x) (h0 : 0 < n) (hn : off + n <= s) (hw : ((enc x).drop off).take n = vs) (hH : H ∈ S) (q : κ (.agg vs.toArray)) :
  ReadW P (Instr.loadAt t (.pointer (some (elA a (i * s + off))))) S κ := by
 have hi := (List.getElem?_eq_some_iff.1 hx).1;refine wb (ho.rd hH) h0 ?_ ?_
 ·rw [qo enc s hs];have : (i + 1) * s <= l.length * s := cF s hi;rw [cP] at this; omega
 ·rw [flat_sub enc s hs l i off n hi hn, List.getElem?_eq_some_iff.1 hx |>.2, hw]; exact q
theorem Qt {κ : State -> Prop} [zh P t z n b2] (ho : Own s e' H a len cap (l.flatMap enc)) (hp : Pick H S G) (hs : ∀ x, (enc x).length = s) (hx : l[i]? = some x) (h0 : 0 < n) (hvs : vs.length = n) (hc : ∀ u ∈ vs, Value.cell1 u) (hn : off + n <= s)
  (hv : (enc x).take off ++ (vs ++ (enc x).drop (off + n)) = enc x') (q : ∀ C', Own s e' C' a len cap ((l.set i x').flatMap enc) -> κ (C' :: G)) : UnitW P (Instr.storeAt t (.pointer (some (elA a (i * s + off)))) (.agg vs.toArray)) S κ := by
 have hi := (List.getElem?_eq_some_iff.1 hx).1;refine wD ho hp h0 hvs hc ?_ (fun C' h => q C' ?_)
 ·rw [qo enc s hs];have : (i + 1) * s <= l.length * s := cF s hi;rw [cP] at this; omega
 ·rw [JU enc s hs l i off vs hi (by omega) x' (by rw [List.getElem?_eq_some_iff.1 hx |>.2, hvs]; exact hv)] at h;exact h
theorem Wq [xQ P t] [zh P t z s b2]
  (hr : Rd s [H] a len (l.flatMap enc)) (hs : ∀ x, (enc x).length = s) (hx : l[i]? = some x) (hp : 0 < s) (hH : H ∈ S) (q : κ (.agg (enc x).toArray)) : ReadW P (Instr.loadAt t (.pointer (some (elA a (i * s))))) S κ := by
 have hi := (List.getElem?_eq_some_iff.1 hx).1;refine wb (hr.mem hH) hp ?_ ?_
 ·rw [qo enc s hs];have : (i + 1) * s <= l.length * s := cF s hi;rw [cP] at this; omega
 ·rw [WH enc s hs l i hi, List.getElem?_eq_some_iff.1 hx |>.2]; exact q
theorem kE {κ : Value -> State -> Prop} {by_ : Nat} [hs : zh P t z s by_] (cs : Array Value) (hz : z.cells = cs) (k : ∀ b : Nat, κ (.pointer (some ⟨b, 0, none⟩)) ([(b, .cells cs t (0, 0))] :: S)) : ValW P (Instr.alloc t true (.tuple #[])) S κ :=
 zu fun b => by rw [hz]; exact k b
end facts
end Go.Ost
namespace Go.Ost
open Go
variable {P : Program}
theorem lkA {b : Nat} {o : Obj} {S : State} (h : Lies b o S := by (repeat (first | with_reducible exact Lies.one | with_reducible apply Lies.next))) : Lies b o S := h
theorem upA {b : Nat} {o o' : Obj} {S S' : State} (h : Upd b o o' S S' := by (repeat (first | with_reducible exact Upd.one | with_reducible apply Upd.next))) : Upd b o o' S S' := h
theorem pkA {C : Chunk} {S G : State} (h : Pick C S G := by (repeat (first | with_reducible exact Pick.head _ _ | with_reducible apply Pick.tail))) : Pick C S G := h
theorem mmA {α : Type} {x : α} {l : List α} (h : x ∈ l := by (repeat (first | with_reducible assumption | with_reducible exact aB .. | with_reducible apply aK))) : x ∈ l := h
theorem amA {S' S : State} (h : Among S' S := by first | ((repeat (first | with_reducible exact Among.nil _ | with_reducible exact Pick.head _ _ | with_reducible apply Pick.tail | with_reducible apply Among.cons)); done) | ((repeat (first | exact Among.nil _ | exact Pick.head _ _ | apply Pick.tail | apply Among.cons)); done)) : Among S' S := h
theorem tkA {A S G : State} (h : Take A S G := by (repeat (first | with_reducible exact Take.nil _ | with_reducible exact Pick.head _ _ | with_reducible apply Pick.tail | with_reducible apply Take.cons))) : Take A S G := h
theorem flA {a b : Chunk} (h : a = b := by simp only [aO, bO, aM, aL]) : a = b := h
theorem gg {G G' : Prop} (k : G') (h : Impl (Hid G') G := by exact ⟨fun k0 => by (repeat (first | (with_reducible refine vv ?_) | ((with_reducible refine wq ?_); refine wp ?_) | (with_reducible refine Zb ?_) | (with_reducible refine IK ?_) | (with_reducible refine IL ?_) | (with_reducible refine Ya ?_) | (with_reducible refine WY ?_) | (with_reducible refine Yb ?_) | ((with_reducible refine wd ?_); refine WZ ?_) | (with_reducible refine Kv ?_) | (with_reducible refine Ku ?_) | (with_reducible refine Kw ?_) | (with_reducible refine zY ?_) | (with_reducible refine zI ?_) | (with_reducible refine XT ?_) | (with_reducible refine zp ?_) | (with_reducible refine XS ?_) | (with_reducible refine zU ?_) | (with_reducible refine yV ?_) | ((with_reducible refine QI ?_); refine regq_to ?_) | (with_reducible refine yT ?_) | ((with_reducible refine XQ ?_); (first | refine XP ?_ | refine UB ?_)) | ((with_reducible refine XR ?_); (first | refine VB ?_ | refine VC ?_)))); exact k0.out⟩) : G := h.out ⟨k⟩
theorem gA {G G' : Prop} (k : G') (h : Impl (Hid G') G := by exact ⟨fun k0 => by (try simp only [aD, aC]); (repeat (first | (with_reducible refine vv ?_) | ((with_reducible refine wq ?_); refine wp ?_) | (with_reducible refine Zb ?_) | (with_reducible refine IK ?_) | (with_reducible refine IL ?_) | (with_reducible refine Ya ?_) | (with_reducible refine WY ?_) | (with_reducible refine Yb ?_) | ((with_reducible refine wd ?_); refine WZ ?_) | (with_reducible refine Kv ?_) | (with_reducible refine Ku ?_) | (with_reducible refine Kw ?_) | (with_reducible refine zY ?_) | (with_reducible refine zI ?_) | (with_reducible refine XT ?_) | (with_reducible refine zp ?_) | (with_reducible refine XS ?_) | (with_reducible refine zU ?_) | (with_reducible refine yV ?_) | ((with_reducible refine QI ?_); refine regq_to ?_) | (with_reducible refine yT ?_) | ((with_reducible refine XQ ?_); (first | refine XP ?_ | refine UB ?_)) | ((with_reducible refine XR ?_); (first | refine VB ?_ | refine VC ?_)))); exact k0.out⟩) : G := h.out ⟨k⟩
theorem gM {G G' : Prop} (k : G') (h : Impl (Hid G') G := by exact ⟨fun k0 => by (try simp only [List.setIfInBounds_toArray, List.set_cons_succ, List.set_cons_zero, List.getElem_toArray, List.getElem_cons_succ, List.getElem_cons_zero]); exact k0.out⟩) : G := h.out ⟨k⟩
theorem pA {A N : Env -> State -> Prop} {L' : Env} {S' : State} {G : Prop} (hK : ∀ L S, A L S -> N L S) (k : A L' S') (h : Impl (Hid (N L' S')) G := by exact ⟨fun k0 => by (try simp only [aD, aC]); (repeat refine pend ?_); exact k0.out⟩) : G := h.out ⟨hK _ _ k⟩
theorem pBk {A N : Env -> State -> Prop} {L' : Env} {S' : State} {G : Prop} (hK : ∀ L S, A L S -> N L S) (k : A L' S') (h : Impl (Hid (N L' S')) G := by exact ⟨fun k0 => by (repeat refine pend ?_); exact k0.out⟩) : G := h.out ⟨hK _ _ k⟩
def ancs (ops : Array Oper) : List (List Nat) := (bC ops.size).foldl (fun acc i => acc ++ [((xX ops i).flatMap fun e => e :: acc.getD e []).eraseDups]) []
section
variable {n : Nat} {ro : Option Nat} {id : Nat} {ops : Array Oper} {K : Cont} {D : List Nat} {L : Env} {S : State}
end
def decP : List (List Nat) -> List Entry
 | [] => []
 | [] :: l => decP l
 | [k] :: l => (k, false, []) :: decP l
 | (k :: _ :: pd) :: l => (k, true, pd) :: decP l
section
variable {n : Nat} {ro : Option Nat} {id : Nat} {ops : Array Oper} {K : Cont} {D : List Nat} {L : Env} {S : State}
theorem cdL (c : List (List Nat)) {pl : List Entry} (h : xj P n ops (K .normal D) pl L S) (hd : decP c = pl := by ((try simp only [decP]); (first | done | exact rfl))) (hm : P.follows .mixedOrders = true := by kernel_rfl) (hok : Ub ops (ancs ops) n (decP c) = true := by kernel_rfl) : CodeW P n ro (.region id ops true) K D L S := by
 subst hd;exact VD (ancs ops) (decP c) hm hok h
end
theorem rgE {G G' : Prop} (k : G') (h : Impl (Hid G') G := by exact ⟨fun k0 => by refine reg_to ?_; (try refine jg ?_); exact k0.out⟩) : G := h.out ⟨k⟩
theorem rnE {G G' : Prop} (k : G') (h : Impl (Hid G') G := by exact ⟨fun k0 => by (try refine run_to ?_); (try refine jg ?_); exact k0.out⟩) : G := h.out ⟨k⟩
section
variable {n : Nat} {ro : Option Nat} {f : FuncId} {fn : Func} {c : Code} {args : List Value} {A : State} {R : Value -> State -> Prop} {rs : Array ResultVar}
theorem eN (hf : P.funcs[f]? = some fn) (hn : fn.ntmps = n) (hr : fn.results = rs) (h : ∀ F : Chunk, CodeW P n none c (RetK P rs.toList R F) [] (argsL 0 args) (F :: A)) (hb : fn.body = some c := by rfl)
  (hm : (fn.name != "runtime.NumGoroutine") = true := by kernel_rfl) (hl : args.length <= n := by simp) : Meets P f args A R := by
 subst hn hr;exact UW hf hb hm hl h
end
section
variable {n : Nat} {ops : Array Oper} {K : Env -> State -> Prop} {o : Oper} {l : List Oper} {L : Env} {S S' G : State}
theorem cA {f : FuncId} {args : List Value} {A : State} {R : Value -> State -> Prop} {C : Value -> Env} (h : Meets P f args A R) (k : ∀ v A', R v A' -> runW P n ops K l (C v) (A' ++ G))
  (e : ∀ N : Env -> State -> Prop, guardW ops o L (stepW P o.op o.type L S fun v S' => N (putT n o.dst v L) S') (N (putT n o.dst undef L) S) = CallsW P f args.toArray S fun v S' => N (C v) S' := by exact fun N => eqA0)
  (ht : Take A S G := by (repeat (first | with_reducible exact Take.nil _ | with_reducible exact Pick.head _ _ | with_reducible apply Pick.tail | with_reducible apply Take.cons))) : runW P n ops K (o :: l) L S :=
 jm fun N hN => (e N) ▸ xu h ht fun v A' r => hN _ _ (k v A' r)
theorem oL {t e : TypeId} {s b : Nat} {m : Nat × Nat} {C : Value -> Env} (vs : List Value) (hz : vs.length = s) (k : runW P n ops K l (C (.agg vs.toArray)) S)
  (e1 : ∀ N : Env -> State -> Prop, guardW ops o L (stepW P o.op o.type L S fun v S' => N (putT n o.dst v L) S') (N (putT n o.dst undef L) S) = ReadW P (Instr.loadAt t (.pointer (some ⟨b, 0, none⟩))) S fun v => N (C v) S := by exact fun N => eqA0)
  (hh : ∃ z by_, xQ P t /\ zh P t z s by_ := by exact ⟨_, _, inferInstance, inferInstance⟩) (hl : Lies b (.cells vs.toArray e m) S := by (repeat (first | with_reducible exact Lies.one | with_reducible apply Lies.next))) : runW P n ops K (o :: l) L S := by
 obtain ⟨z, by_, h1, h2⟩ := hh;exact jm fun N hN => (e1 N) ▸ zi hl hz (hN _ _ k)
theorem oS {t e : TypeId} {s b : Nat} {cs : Array Value} {C : Env} (vs : List Value) (hz : vs.length = s) (hc : ∀ v ∈ vs, Value.cell1 v) (k : runW P n ops K l C S')
  (e1 : ∀ N : Env -> State -> Prop, guardW ops o L (stepW P o.op o.type L S fun v S' => N (putT n o.dst v L) S') (N (putT n o.dst undef L) S) = UnitW P (Instr.storeAt t (.pointer (some ⟨b, 0, none⟩)) (.agg vs.toArray)) S fun S' => N C S' := by exact fun N => eqA0)
  (hu : Upd b (.cells cs e (0, 0)) (.cells vs.toArray e (0, 0)) S S' := by (repeat (first | with_reducible exact Upd.one | with_reducible apply Upd.next))) (hcs : ∃ z by_, zh P t z s by_ /\ cs.size = s := by exact ⟨_, _, inferInstance, rfl⟩) : runW P n ops K (o :: l) L S := by
 obtain ⟨z, by_, h1, h2⟩ := hcs;exact jm fun N hN => (e1 N) ▸ xG hz hc hu h2 (hN _ _ k)
theorem oA {t : TypeId} {C : Value -> Env} (cs : Array Value) (k : ∀ b : Nat, runW P n ops K l (C (.pointer (some ⟨b, 0, none⟩))) ([(b, .cells cs t (0, 0))] :: S))
  (e1 : ∀ N : Env -> State -> Prop, guardW ops o L (stepW P o.op o.type L S fun v S' => N (putT n o.dst v L) S') (N (putT n o.dst undef L) S) = ValW P (Instr.alloc t true (.tuple #[])) S fun v S' => N (C v) S' := by exact fun N => eqA0)
  (hz : ∃ z s by_, zh P t z s by_ /\ z.cells = cs := by exact ⟨_, _, _, inferInstance, rfl⟩) : runW P n ops K (o :: l) L S := by
 obtain ⟨z, s, by_, h1, h2⟩ := hz;exact jm fun N hN => (e1 N) ▸ kE cs h2 fun b => hN _ _ (k b)
theorem oB {t : TypeId} {v : Value} {cs : Array Value} {C : Value -> Env} (k : ∀ b : Nat, runW P n ops K l (C (.pointer (some ⟨b, 0, none⟩))) ([(b, .cells cs t (0, 0))] :: S))
  (e1 : ∀ N : Env -> State -> Prop, guardW ops o L (stepW P o.op o.type L S fun v S' => N (putT n o.dst v L) S') (N (putT n o.dst undef L) S) = ValW P (Instr.box t v) S fun v S' => N (C v) S' := by exact fun N => eqA0)
  (hz : v.cells = cs := by ((try simp only [Value.cells]); (first | done | exact rfl))) : runW P n ops K (o :: l) L S :=
 jm fun N hN => (e1 N) ▸ yr fun b => hz.symm ▸ hN _ _ (k b)
theorem oT {t : TypeId} {C : Value -> Env} (ps : List (Nat × Value)) (cs : Array Value) (k : runW P n ops K l (C (.agg cs)) S)
  (e1 : ∀ N : Env -> State -> Prop, guardW ops o L (stepW P o.op o.type L S fun v S' => N (putT n o.dst v L) S') (N (putT n o.dst undef L) S) = PureW P (Instr.build t ps.toArray) fun v => N (C v) S := by exact fun N => eqA0)
  (hz : ∃ (z : Value) (s by_ : Nat) (pl : List (Nat × Nat)), zH P t pl /\ zh P t z s by_ /\ Instr.fill (pl[·]?) z.cells ps = some cs := by exact ⟨_, _, _, _, inferInstance, inferInstance, by kernel_rfl⟩) : runW P n ops K (o :: l) L S := by
 obtain ⟨z, s, by_, pl, h1, h2, h3⟩ := hz
 exact jm fun N hN => by
  rw [e1 N, zV h3];exact hN _ _ k
variable {i : Nat} {pd : List Nat} {p p' : List Entry}
theorem qO {X : (Env -> State -> Prop) -> Prop} (h : ∀ N : Env -> State -> Prop, (∀ L S, xj P n ops K p L S -> N L S) -> X N)
  (ho : ops[i]? = some o := by (simp only [cM, bJ, cE]; exact rfl))
  (e : ∀ N : Env -> State -> Prop, (quietW P ops o L S fun v => N (putT n o.dst v L) S) = X N := by exact fun N => eqQ0) :
  xj P n ops K ((i, false, pd) :: p) L S := kB ho fun N hN => (e N) ▸ h N hN
end
end Go.Ost
namespace Go.Sha
abbrev W := BitVec 32
def rot (n : Nat) (x : W) : W := (x >>> n) ||| (x <<< (32 - n))
def s0 (x : W) : W := rot 7 x ^^^ rot 18 x ^^^ (x >>> 3)
def s1 (x : W) : W := rot 17 x ^^^ rot 19 x ^^^ (x >>> 10)
def S0 (x : W) : W := rot 2 x ^^^ rot 13 x ^^^ rot 22 x
def S1 (x : W) : W := rot 6 x ^^^ rot 11 x ^^^ rot 25 x
def ch (e f g : W) : W := (e &&& f) ^^^ (~~~e &&& g)
def maj (a b c : W) : W := (a &&& b) ^^^ (a &&& c) ^^^ (b &&& c)
def word (a b c d : UInt8) : W := cZ 32 (a.toNat * 16777216 + b.toNat * 65536 + c.toNat * 256 + d.toNat)
def zW (x : W) : List UInt8 := [aH (x.toNat / 16777216), aH (x.toNat / 65536), aH (x.toNat / 256), aH x.toNat]
def wordAt (bs : List UInt8) (j : Nat) : W := word (bs.getD j 0) (bs.getD (j + 1) 0) (bs.getD (j + 2) 0) (bs.getD (j + 3) 0)
theorem yQ (bs : List UInt8) (l k j : Nat) (h : j < k) : ((bs.drop l).take k).getD j 0 = bs.getD (l + j) 0 := by
 simp [cY, List.getElem?_take, h]
theorem UL (bs : List UInt8) (l k : Nat) (h : 4 <= k) : wordAt ((bs.drop l).take k) 0 = wordAt bs l := by
 simp only [wordAt];rw [yQ _ _ _ _ (by omega), yQ _ _ _ _ (by omega), yQ _ _ _ _ (by omega), yQ _ _ _ _ (by omega)]
 rfl
def nxt (l : List W) (i : Nat) : W := l.getD (i - 16) 0 + s0 (l.getD (i - 15) 0) + l.getD (i - 7) 0 + s1 (l.getD (i - 2) 0)
def spr (bs : List UInt8) : Nat -> List W
 | 0 => aQ 64 0
 | i + 1 => (spr bs i).set i (if i < 16 then wordAt bs (4 * i) else nxt (spr bs i) i)
theorem xf (bs : List UInt8) : ∀ i, (spr bs i).length = 64
 | 0 => by simp [spr]
 | i + 1 => by simp [spr, xf bs i]
structure St where
 a : W
 b : W
 c : W
 d : W
 e : W
 f : W
 g : W
 h : W
deriving DecidableEq
def turn (k w : W) (s : St) : St :=
 let t1 := s.h + S1 s.e + ch s.e s.f s.g + k + w
 let t2 := S0 s.a + maj s.a s.b s.c
 ⟨t1 + t2, s.a, s.b, s.c, s.d + t1, s.e, s.f, s.g⟩
def qY (ks ws : List W) : Nat -> St -> St
 | 0, s => s
 | i + 1, s => turn (ks.getD i 0) (ws.getD i 0) (qY ks ws i s)
def St.add (x y : St) : St := ⟨x.a + y.a, x.b + y.b, x.c + y.c, x.d + y.d, x.e + y.e, x.f + y.f, x.g + y.g, x.h + y.h⟩
def step (ks : List W) (s : St) (block : List UInt8) : St := s.add (qY ks (spr block 64) 64 s)
def St.list (s : St) : List W := [s.a, s.b, s.c, s.d, s.e, s.f, s.g, s.h]
def St.bytes (s : St) : List UInt8 := s.list.flatMap zW
def odd : List W := [0x428a2f98, 0x71374491, 0xb5c0fbcf, 0xe9b5dba5, 0x3956c25b, 0x59f111f1, 0x923f82a4, 0xab1c5ed5, 0xd807aa98, 0x12835b01, 0x243185be, 0x550c7dc3, 0x72be5d74, 0x80deb1fe, 0x9bdc06a7, 0xc19bf174, 0xe49b69c1, 0xefbe4786, 0x0fc19dc6, 0x240ca1cc, 0x2de92c6f, 0x4a7484aa, 0x5cb0a9dc, 0x76f988da, 0x983e5152, 0xa831c66d, 0xb00327c8, 0xbf597fc7, 0xc6e00bf3, 0xd5a79147, 0x06ca6351, 0x14292967, 0x27b70a85, 0x2e1b2138, 0x4d2c6dfc, 0x53380d13, 0x650a7354, 0x766a0abb, 0x81c2c92e, 0x92722c85, 0xa2bfe8a1, 0xa81a664b, 0xc24b8b70, 0xc76c51a3, 0xd192e819, 0xd6990624, 0xf40e3585, 0x106aa070, 0x19a4c116, 0x1e376c08, 0x2748774c, 0x34b0bcb5, 0x391c0cb3, 0x4ed8aa4a, 0x5b9cca4f, 0x682e6ff3, 0x748f82ee, 0x78a5636f, 0x84c87814, 0x8cc70208, 0x90befffa, 0xa4506ceb, 0xbef9a3f7, 0xc67178f2]
theorem xE : odd.length = 64 := rfl
def first : St := ⟨0x6a09e667, 0xbb67ae85, 0x3c6ef372, 0xa54ff53a, 0x510e527f, 0x9b05688c, 0x1f83d9ab, 0x5be0cd19⟩
theorem St.list_len (s : St) : s.list.length = 8 := rfl
def mix (s v : St) (i : Nat) : List W := (s.add v).list.take i ++ s.list.drop i
theorem zS (s v : St) (i : Nat) (h : i <= 8) : (mix s v i).length = 8 := by
 simp only [mix, aA, aU, aT, St.list_len]; omega
theorem Uf (s v : St) (i : Nat) (h : i < 8) : (mix s v i).set i ((mix s v i).getD i 0 + v.list.getD i 0) = mix s v (i + 1) := by
 match i, h with
 | 0, _ => rfl
 | 1, _ => rfl
 | 2, _ => rfl
 | 3, _ => rfl
 | 4, _ => rfl
 | 5, _ => rfl
 | 6, _ => rfl
 | 7, _ => rfl
theorem nat_word (a b c d : Nat) (hb : b < 256) (hc : c < 256) (hd : d < 256) : (((a <<< 24 ||| b <<< 16) ||| c <<< 8) ||| d) = a * 16777216 + b * 65536 + c * 256 + d := by
 have e1 : a <<< 24 = (a * 256) <<< 16 := by simp [dJ]; omega
 have h1 : a <<< 24 ||| b <<< 16 = (a * 256 + b) <<< 16 := by
  have : a <<< 8 + b = a <<< 8 ||| b := Nat.shiftLeft_add_eq_or_of_lt hb a
  rw [show a * 256 + b = a <<< 8 ||| b from by rw [<- this, dJ], Nat.shiftLeft_or_distrib, <- Nat.shiftLeft_add]
 have h2 : (a * 256 + b) <<< 16 ||| c <<< 8 = ((a * 256 + b) * 256 + c) <<< 8 := by
  have : (a * 256 + b) <<< 8 + c = (a * 256 + b) <<< 8 ||| c := Nat.shiftLeft_add_eq_or_of_lt hc _
  rw [show (a * 256 + b) * 256 + c = (a * 256 + b) <<< 8 ||| c from by rw [<- this, dJ], Nat.shiftLeft_or_distrib, <- Nat.shiftLeft_add]
 have h3 : ((a * 256 + b) * 256 + c) <<< 8 ||| d = ((a * 256 + b) * 256 + c) <<< 8 + d := (Nat.shiftLeft_add_eq_or_of_lt hd _).symm
 rw [h1, h2, h3, dJ];omega
theorem word_eq (a b c d : UInt8) : ((cZ 32 a.toNat <<< 24 ||| cZ 32 b.toNat <<< 16) ||| cZ 32 c.toNat <<< 8) ||| cZ 32 d.toNat = word a b c d := by
 have ha := a.toNat_lt; have hb := b.toNat_lt; have hc := c.toNat_lt; have hd := d.toNat_lt
 apply BitVec.eq_of_toNat_eq
 have s1 : a.toNat <<< 24 < 2 ^ 32 := by rw [dJ]; omega
 have s2 : b.toNat <<< 16 < 2 ^ 32 := by rw [dJ]; omega
 have s3 : c.toNat <<< 8 < 2 ^ 32 := by rw [dJ]; omega
 show (((cZ 32 a.toNat <<< 24 ||| cZ 32 b.toNat <<< 16) ||| cZ 32 c.toNat <<< 8) ||| cZ 32 d.toNat).toNat = _
 simp only [word, BitVec.toNat_or, BitVec.toNat_shiftLeft, cW]
 rw [cU (show a.toNat < 2 ^ 32 by omega), cU (show b.toNat < 2 ^ 32 by omega), cU (show c.toNat < 2 ^ 32 by omega), cU (show d.toNat < 2 ^ 32 by omega),
  cU s1, cU s2, cU s3, nat_word _ _ _ _ (by omega) (by omega) (by omega), cU (by omega)]
def num (bs : List UInt8) : Nat := bs.foldl (fun n b => (n * 256 + b.toNat) % 18446744073709551616) 0
theorem num_snoc (bs : List UInt8) (b : UInt8) : num (bs ++ [b]) = (num bs * 256 + b.toNat) % 18446744073709551616 := by simp [num]
theorem vR (bs : List UInt8) (i : Nat) (h : i < bs.length) : bs.take (i + 1) = bs.take i ++ [bs.getD i 0] := by
 rw [cC, cY, aF h]; rfl
theorem num4 (bs : List UInt8) (l : Nat) (h : l + 4 <= bs.length) : cZ 32 (num ((bs.drop l).take 4)) = wordAt bs l := by
 have e : (bs.drop l).take 4 = [bs.getD l 0, bs.getD (l + 1) 0, bs.getD (l + 2) 0, bs.getD (l + 3) 0] := by
  apply List.ext_getElem?
  intro i;rw [List.getElem?_take]
  match i with
  | 0 => simp [cY, aF (show l < bs.length by omega)]
  | 1 => simp [cY, aF (show l + 1 < bs.length by omega)]
  | 2 => simp [cY, aF (show l + 2 < bs.length by omega)]
  | 3 => simp [cY, aF (show l + 3 < bs.length by omega)]
  | i + 4 => rw [if_neg (by omega)]; simp
 rw [e];simp only [num, List.foldl, wordAt, word];generalize bs.getD l 0 = a;generalize bs.getD (l + 1) 0 = b;generalize bs.getD (l + 2) 0 = c;generalize bs.getD (l + 3) 0 = d;have ha := a.toNat_lt; have hb := b.toNat_lt; have hc := c.toNat_lt; have hd := d.toNat_lt
 congr 1
 omega
theorem St.get0 (s : St) : s.list.getD (0 + 0 * 1) 0 = s.a := rfl
theorem St.get1 (s : St) : s.list.getD (0 + 1 * 1) 0 = s.b := rfl
theorem St.get2 (s : St) : s.list.getD (0 + 2 * 1) 0 = s.c := rfl
theorem St.get3 (s : St) : s.list.getD (0 + 3 * 1) 0 = s.d := rfl
theorem St.get4 (s : St) : s.list.getD (0 + 4 * 1) 0 = s.e := rfl
theorem St.get5 (s : St) : s.list.getD (0 + 5 * 1) 0 = s.f := rfl
theorem St.get6 (s : St) : s.list.getD (0 + 6 * 1) 0 = s.g := rfl
theorem St.get7 (s : St) : s.list.getD (0 + 7 * 1) 0 = s.h := rfl
theorem ID (k w : W) (s : St) : [s.h + (rot 6 s.e ^^^ rot 11 s.e ^^^ rot 25 s.e) + (s.e &&& s.f ^^^ ~~~s.e &&& s.g) + k + w + ((rot 2 s.a ^^^ rot 13 s.a ^^^ rot 22 s.a) + (s.a &&& s.b ^^^ s.a &&& s.c ^^^ s.b &&& s.c)), s.a, s.b, s.c,
  s.d + (s.h + (rot 6 s.e ^^^ rot 11 s.e ^^^ rot 25 s.e) + (s.e &&& s.f ^^^ ~~~s.e &&& s.g) + k + w), s.e, s.f, s.g] = (turn k w s).list := by
 simp only [turn, St.list, S0, S1, ch, maj]
theorem VH (x : W) : [aH (x >>> 24).toNat, aH (x >>> 16).toNat, aH (x >>> 8).toNat, aH x.toNat] = zW x := by
 have h : ∀ k : Nat, (x >>> k).toNat = x.toNat / 2 ^ k := fun k => by rw [BitVec.toNat_ushiftRight, Nat.shiftRight_eq_div_pow]
 show [aH (x >>> 24).toNat, aH (x >>> 16).toNat, aH (x >>> 8).toNat, aH x.toNat] = _
 rw [h, h, h]; rfl
theorem XX (s : St) (i : Nat) (h : i < 8) : (s.list.take (i + 1)).flatMap zW = (s.list.take i).flatMap zW ++ zW (s.list.getD i 0) := by
 match i, h with
 | 0, _ => rfl
 | 1, _ => rfl
 | 2, _ => rfl
 | 3, _ => rfl
 | 4, _ => rfl
 | 5, _ => rfl
 | 6, _ => rfl
 | 7, _ => rfl
def be (k n : Nat) : List UInt8 := (bC k).map fun i => aH (n / 256 ^ (k - 1 - i))
theorem jb (k n : Nat) : (be k n).length = k := by simp [be]
theorem XY (k n i : Nat) (h : i < k) : (be k n).getD i 0 = aH (n / 256 ^ (k - 1 - i)) := by simp [be, cY, h]
theorem be_next (k n i : Nat) (h : i < k) : (be k n).take (i + 1) = (be k n).take i ++ [aH (n / 256 ^ (k - 1 - i))] := by
 rw [vR _ _ (by rw [jb]; exact h), XY k n i h]
theorem shift8 (n j : Nat) : ((n : Int) / 2 ^ (8 * j)) = ((n / 256 ^ j : Nat) : Int) := by
 rw [show (256 : Nat) = 2 ^ 8 from rfl, <- Nat.pow_mul]; simp
def qm (n : Nat) : Nat := (119 - n % 64) % 64
def pad (n : Nat) : List UInt8 := 128 :: aQ (qm n) 0 ++ be 8 (8 * n)
theorem YS (z : Nat) : (128 :: aQ (z + 1) 0 : List UInt8) = (128 :: aQ z 0) ++ [0] := by
 rw [List.replicate_succ']; rfl
theorem yh (n : Nat) : (pad n).length = 9 + qm n := by simp [pad, jb]; omega
theorem QT (n : Nat) : (n + (pad n).length) % 64 = 0 := by
 rw [yh, qm]; omega
theorem fill_back (B : List UInt8) (j : Nat) (h : j < B.length) : (aQ (j + 1) 0 ++ B.drop (j + 1)).set j (B.getD j 0) = aQ j 0 ++ B.drop j := by
 rw [List.replicate_succ', aM, List.set_append_right _ _ (by simp)];simp only [aW, dT, aC, aD, List.set_cons_zero];rw [bK h, cY, aF h]; rfl
theorem ofNat_mod (v : Nat) : aH (v % 256) = aH v := by
 apply UInt8.toNat_inj.1
 rw [bL, bL]; omega
theorem be_back (k n i : Nat) (h : i < k) : (aQ (k - i) 0 ++ (be k n).drop (k - i)).set (k - 1 - i) (aH (n / 256 ^ i % 256)) = aQ (k - (i + 1)) 0 ++ (be k n).drop (k - (i + 1)) := by
 have q := fill_back (be k n) (k - 1 - i) (by rw [jb]; omega);rw [XY _ _ _ (by omega), show k - 1 - (k - 1 - i) = i from by omega, show k - 1 - i + 1 = k - i from by omega] at q;rw [ofNat_mod, q, show k - 1 - i = k - (i + 1) from by omega]
theorem wP (x : W) : be 4 x.toNat = zW x := by
 show [aH (x.toNat / 256 ^ 3), aH (x.toNat / 256 ^ 2), aH (x.toNat / 256 ^ 1), aH (x.toNat / 256 ^ 0)] = _
 simp [zW]
def run : Nat -> St -> List UInt8 -> St
 | 0, s, _ => s
 | k + 1, s, bs => run k (step odd s (bs.take 64)) (bs.drop 64)
theorem wr : ∀ (i : Nat) (s : St) (bs : List UInt8), run (i + 1) s bs = step odd (run i s bs) ((bs.drop (64 * i)).take 64)
 | 0, s, bs => rfl
 | i + 1, s, bs => by
  rw [run, wr i, run];rw [dL, show 64 + 64 * i = 64 * (i + 1) from by omega]
def whole (s : St) (bs : List UInt8) : St := run (bs.length / 64) s bs
def xL (m : List UInt8) : List UInt8 := (whole first (m ++ pad m.length)).bytes
theorem vm (m : List UInt8) : (xL m).length = 32 := rfl
def digits : List UInt8 := [48, 49, 50, 51, 52, 53, 54, 55, 56, 57, 97, 98, 99, 100, 101, 102]
theorem dig1 (k : Nat) (h : k < 16) : (digits.drop k).take 1 = [digits.getD k 0] := by
 have hl : k < digits.length := h;rw [bK hl, cY, aF hl]; rfl
def hex2 (x : UInt8) : List UInt8 := [digits.getD (x.toNat / 16) 0, digits.getD (x.toNat % 16) 0]
def hex (bs : List UInt8) : List UInt8 := bs.flatMap hex2
theorem Us (bs : List UInt8) (i : Nat) (h : i < bs.length) : hex (bs.take (i + 1)) = hex (bs.take i) ++ hex2 (bs.getD i 0) := by
 rw [vR bs i h]; simp [hex]
theorem hex_len (bs : List UInt8) : (hex bs).length = 2 * bs.length := by
 induction bs with
 | nil => rfl
 | cons x l ih => simp only [hex, bP, aA, aJ] at ih ⊢; rw [ih]; simp [hex2]; omega
def jl (key : List UInt8) : List UInt8 := if 64 < key.length then xL key else key
theorem Qv (key : List UInt8) : (jl key).length <= 64 := by
 unfold jl; split
 ·rw [vm]; decide
 ·omega
def padK (key : List UInt8) (x : UInt8) : List UInt8 := (bC 64).map fun i => (jl key).getD i 0 ^^^ x
theorem ju (key : List UInt8) (x : UInt8) : (padK key x).length = 64 := by simp [padK]
def mac (key text : List UInt8) : List UInt8 := xL (padK key 92 ++ xL (padK key 54 ++ text))
theorem vZ (key text : List UInt8) : (mac key text).length = 32 := rfl
def xorB : List UInt8 -> List UInt8 -> List UInt8
 | a :: l, b :: m => (a ^^^ b) :: xorB l m
 | _, _ => []
theorem kn : ∀ (a b : List UInt8), (xorB a b).length = min a.length b.length
 | [], _ => by simp [xorB]
 | _ :: _, [] => by simp [xorB]
 | a :: l, b :: m => by rw [xorB, aJ, kn l m, aJ, aJ]; omega
theorem Ja : ∀ (a b : List UInt8) (i : Nat), i < min a.length b.length -> (xorB a b)[i]? = some (a.getD i 0 ^^^ b.getD i 0)
 | [], _, i, h => absurd h (by rw [aV, Nat.zero_min]; omega)
 | _ :: _, [], i, h => absurd h (by rw [aV, Nat.min_zero]; omega)
 | a :: l, b :: m, 0, h => by simp [xorB]
 | a :: l, b :: m, i + 1, h => by
  have := Ja l m i (by simp only [aJ] at h; omega)
  simpa [xorB] using this
theorem Iq (a b : List UInt8) (i : Nat) (h : i < min a.length b.length) : (xorB a b).take (i + 1) = (xorB a b).take i ++ [a.getD i 0 ^^^ b.getD i 0] := by
 rw [cC, Ja a b i h]; rfl
theorem Jn {α : Type} (n : Nat) (f g : Nat -> α) (j : Nat) (hj : j < n) : ((bC n).map fun i => if i < j then g i else f i).set j (g j) = (bC n).map fun i => if i < j + 1 then g i else f i := by
 apply List.ext_getElem
 ·simp
 ·intro i h1 h2;simp only [dF, bE, List.length_range] at h1;rw [List.getElem_set];simp only [List.getElem_map, List.getElem_range]
  by_cases h : j = i
  ·subst h; simp
  ·rw [if_neg h]
   by_cases h3 : i < j
   ·rw [if_pos h3, if_pos (by omega)]
   ·rw [if_neg h3, if_neg (by omega)]
theorem Vj {α : Type} (n : Nat) (f g : Nat -> α) (j : Nat) (d : α) (hj : j < n) : ((bC n).map fun i => if i < j then g i else f i).getD j d = f j := by
 simp [cY, hj]
theorem pad_begin (x : UInt8) (key : List UInt8) : aQ 64 x = (bC 64).map fun i => if i < 0 then x ^^^ key.getD i 0 else x := by
 apply List.ext_getElem
 ·simp
 ·intro i h1 h2;rw [List.getElem_replicate, List.getElem_map, if_neg (Nat.not_lt_zero _)]
theorem pad_end (key : List UInt8) (x : UInt8) (h : key.length <= 64) : ((bC 64).map fun i => if i < key.length then x ^^^ key.getD i 0 else x) = (bC 64).map fun i => key.getD i 0 ^^^ x := by
 apply List.map_congr_left
 intro i hi
 split
 ·exact UInt8.xor_comm _ _
 ·rename_i hn
  have : key.getD i 0 = 0 := by simp [cY, List.getElem?_eq_none (Nat.le_of_not_lt hn)]
  rw [this]; simp
theorem UP (key : List UInt8) (x : UInt8) (h : key.length <= 64) : key ++ aQ (64 - key.length) 0 = (bC 64).map fun i => if i < 0 then key.getD i 0 ^^^ x else key.getD i 0 := by
 apply List.ext_getElem
 ·simp; omega
 ·intro i h1 h2;simp only [List.getElem_map, List.getElem_range, Nat.not_lt_zero, if_false]
  by_cases hi : i < key.length
  ·rw [List.getElem_append_left hi]; simp [cY, hi]
  ·rw [List.getElem_append_right (by omega)]; simp [cY, List.getElem?_eq_none (Nat.le_of_not_lt hi)]
theorem turn_end (key : List UInt8) (x : UInt8) : ((bC 64).map fun i => if i < 64 then key.getD i 0 ^^^ x else key.getD i 0) = (bC 64).map fun i => key.getD i 0 ^^^ x := by
 apply List.map_congr_left
 intro i hi;rw [if_pos (List.mem_range.1 hi)]
def strT (pass : List UInt8) : List UInt8 -> List UInt8 -> Nat -> List UInt8
 | _, t, 0 => t
 | u, t, k + 1 => strT pass (mac pass u) (xorB t (mac pass u)) k
def qA (pass salt : List UInt8) (rounds n : Nat) : List UInt8 := strT pass (mac pass (salt ++ be 4 n)) (mac pass (salt ++ be 4 n)) (rounds - 1)
theorem YC (pass : List UInt8) : ∀ (k : Nat) (u t : List UInt8), t.length = 32 -> (strT pass u t k).length = 32
 | 0, _, _, h => h
 | k + 1, u, t, h => YC pass k _ _ (by rw [kn, h, vZ]; decide)
theorem QR (pass salt : List UInt8) (rounds n : Nat) : (qA pass salt rounds n).length = 32 := YC _ _ _ _ (vZ _ _)
def cat (blk : Nat -> List UInt8) : Nat -> List UInt8
 | 0 => []
 | n + 1 => cat blk n ++ blk n
theorem Qd (blk : Nat -> List UInt8) (h : ∀ k, (blk k).length = 32) : ∀ n, (cat blk n).length = 32 * n
 | 0 => rfl
 | n + 1 => by rw [cat, aA, h, Qd blk h n]; omega
def many (size : Nat) : Nat := (size + 31) / 32
def qU (pass salt : List UInt8) (rounds size : Nat) : List UInt8 := (cat (fun k => qA pass salt rounds (k + 1)) (many size)).take size
def last (key info : List UInt8) : Nat -> List UInt8
 | 0 => []
 | n + 1 => mac key (last key info n ++ info ++ [aH (n + 1)])
end Go.Sha
namespace Go.Proofs.YtebikhhoppiapaaGreatDoor
open Go Go.Ost Go.Sha
structure Tm where
 k : Nat
 key : List UInt8
 txt : List UInt8
 rnd : Nat
deriving DecidableEq
structure BX where
 sym : Bool
 ts : List Tm
def vi (n : Nat) : List UInt8 := if n < 128 then [aH n] else (aH n ||| 128) :: vi (n / 128)
termination_by n
decreasing_by omega
theorem Xk {n : Nat} (h : n < 128) : vi n = [aH n] := by rw [vi, if_pos h]
theorem wW {n : Nat} (h : ¬ n < 128) : vi n = (aH n ||| 128) :: vi (n / 128) := by rw [vi, if_neg h]
theorem or_high : ∀ k < 256, (aH k ||| 128).toNat = k % 128 + 128 := by decide +kernel
theorem ofNat_mod (n : Nat) : aH n = aH (n % 256) := by
 apply UInt8.toNat_inj.1
 simp only [bL]; omega
theorem wJ (n : Nat) : (aH n ||| 128).toNat = n % 128 + 128 := by
 rw [ofNat_mod, or_high _ (by omega)]; omega
theorem Qk : ∀ (n m : Nat) (a b : List UInt8), vi n ++ a = vi m ++ b -> n = m /\ a = b := by
 intro n
 induction n using Nat.strongRecOn with
 | _ n ih =>
  intro m a b h
  by_cases hn : n < 128
  ·by_cases hm : m < 128
   ·rw [Xk hn, Xk hm] at h;simp only [aC, aD, List.cons.injEq] at h;have := congrArg UInt8.toNat h.1;simp only [bL] at this;exact ⟨by omega, h.2⟩
   ·rw [Xk hn, wW hm] at h;simp only [aC, aD, List.cons.injEq] at h;have := congrArg UInt8.toNat h.1;rw [wJ] at this;simp only [bL] at this;omega
  ·by_cases hm : m < 128
   ·rw [wW hn, Xk hm] at h;simp only [aC, aD, List.cons.injEq] at h;have := congrArg UInt8.toNat h.1;rw [wJ] at this;simp only [bL] at this;omega
   ·rw [wW hn, wW hm] at h;simp only [aC, List.cons.injEq] at h;have h1 := congrArg UInt8.toNat h.1;rw [wJ, wJ] at h1;obtain ⟨h2, h3⟩ := ih (n / 128) (by omega) (m / 128) a b h.2;exact ⟨by omega, h3⟩
theorem Iv : ∀ (k n : Nat), n < 128 ^ k -> 0 < k -> (vi n).length <= k
 | 0, _, _, h => absurd h (by omega)
 | k + 1, n, h, _ => by
  by_cases hn : n < 128
  ·rw [Xk hn, aI]; omega
  ·rw [wW hn, aJ]
   have hk : 0 < k := by
    cases k with
    | zero => rw [cD, Nat.pow_one] at h; omega
    | succ k => omega
   have := Iv k (n / 128) (by rw [Nat.pow_succ] at h; omega) hk;omega
def prT (t : Tm) : List UInt8 := vi t.k ++ (vi t.rnd ++ (vi t.key.length ++ (vi t.txt.length ++ (vi 0 ++ (t.key ++ t.txt)))))
theorem prT_inj {t u : Tm} (h : prT t = prT u) : t = u := by
 obtain ⟨k, key, txt, rnd⟩ := t;obtain ⟨k', key', txt', rnd'⟩ := u;unfold prT at h;obtain ⟨h1, h⟩ := Qk _ _ _ _ h;obtain ⟨h2, h⟩ := Qk _ _ _ _ h;obtain ⟨h3, h⟩ := Qk _ _ _ _ h;obtain ⟨h4, h⟩ := Qk _ _ _ _ h;obtain ⟨_, h⟩ := Qk _ _ _ _ h;simp only at h1 h2 h3 h4 h;obtain ⟨h5, h6⟩ := List.append_inj h h3;rw [h1, h2, h5, h6]
def tix (t : Tm) : List Tm -> Nat -> Option Nat
 | [], _ => none
 | u :: l, i => if u = t then some i else tix t l (i + 1)
theorem Qn {t : Tm} : ∀ (l : List Tm) (i j : Nat), tix t l i = some j -> i <= j /\ j < i + l.length
 | [], _, _, h => by cases h
 | u :: l, i, j, h => by
  unfold tix at h
  split at h
  ·cases h; exact ⟨aR _, by rw [aJ]; omega⟩
  ·have := Qn l (i + 1) j h;rw [aJ]; omega
theorem VZ {t : Tm} : ∀ (l : List Tm) (i j : Nat), tix t l i = some j -> l[j - i]? = some t
 | [], _, _, h => by cases h
 | u :: l, i, j, h => by
  unfold tix at h
  split at h
  ·rename_i e; cases h; rw [dT, e]; rfl
  ·have h1 := Qn l (i + 1) j h;have := VZ l (i + 1) j h;rw [show j - i = (j - (i + 1)) + 1 from by omega, bJ]; exact this
def mapT : List Tm -> Nat -> List (List UInt8 × Value)
 | [], _ => []
 | t :: l, i => (prT t, .int .i64 ((i + 1 : Nat) : Int)) :: mapT l (i + 1)
theorem QY (t : Tm) : ∀ (l : List Tm) (i : Nat), mget (mapT l i) (prT t) = (tix t l i).map fun j => Value.int .i64 ((j + 1 : Nat) : Int)
 | [], _ => rfl
 | u :: l, i => by
  simp only [mapT, mget, tix]
  by_cases h : u = t
  ·subst h; simp
  ·rw [if_neg h, if_neg (fun e => h (prT_inj e).symm)];exact QY t l (i + 1)
theorem QW (t : Tm) : ∀ (l : List Tm) (i : Nat), tix t l i = none -> mput (mapT l i) (prT t) (.int .i64 ((i + l.length + 1 : Nat) : Int)) = mapT (l ++ [t]) i
 | [], _, _ => rfl
 | u :: l, i, h => by
  unfold tix at h
  by_cases e : u = t
  ·rw [if_pos e] at h; cases h
  ·rw [if_neg e] at h;have := QW t l (i + 1) h;simp only [mapT, mput, aC];rw [if_neg (fun e' => e (prT_inj e').symm), <- this, aJ, show i + (l.length + 1) + 1 = i + 1 + l.length + 1 from by omega]
def frontB : List UInt8 := [241, 84, 82, 77] ++ aQ 24 0
def hdl (n : Nat) : List UInt8 := frontB ++ be 4 n
theorem hdl_len (n : Nat) : (hdl n).length = 32 := by simp [hdl, frontB, jb]
def tagX (x : BX) (t : Tm) : List UInt8 × BX := match tix t x.ts 0 with
 | some i => (hdl (i + 1), x)
 | none => (hdl (x.ts.length + 1), ⟨x.sym, x.ts ++ [t]⟩)
def xl (x : BX) (m : List UInt8) : List UInt8 × BX := if x.sym = true then tagX x ⟨1, [], m, 0⟩ else (xL m, x)
def macX (x : BX) (k m : List UInt8) : List UInt8 × BX := if x.sym = true then tagX x ⟨2, k, m, 0⟩ else (mac k m, x)
def strX (x : BX) (p s : List UInt8) (r : Nat) : List UInt8 × BX := if x.sym = true then tagX x ⟨3, p, s, r⟩ else (qU p s r 32, x)
theorem Jh (x : BX) (t : Tm) : (tagX x t).1.length = 32 := by
 unfold tagX; split <;> exact hdl_len _
theorem Ka (x : BX) (t : Tm) : (tagX x t).2.ts.length <= x.ts.length + 1 /\ (tagX x t).2.sym = x.sym := by
 unfold tagX; split
 ·exact ⟨by show x.ts.length <= _; omega, rfl⟩
 ·exact ⟨by simp, rfl⟩
theorem xU (x : BX) (m : List UInt8) : (xl x m).2.ts.length <= x.ts.length + 1 /\ (xl x m).2.sym = x.sym := by
 unfold xl; split
 ·exact Ka _ _
 ·exact ⟨by show x.ts.length <= _; omega, rfl⟩
theorem kd (x : BX) (k m : List UInt8) : (macX x k m).2.ts.length <= x.ts.length + 1 /\ (macX x k m).2.sym = x.sym := by
 unfold macX; split
 ·exact Ka _ _
 ·exact ⟨by show x.ts.length <= _; omega, rfl⟩
theorem Ze (x : BX) (p s : List UInt8) (r : Nat) : (strX x p s r).2.ts.length <= x.ts.length + 1 /\ (strX x p s r).2.sym = x.sym := by
 unfold strX; split
 ·exact Ka _ _
 ·exact ⟨by show x.ts.length <= _; omega, rfl⟩
end Go.Proofs.YtebikhhoppiapaaGreatDoor
namespace Go.Ost
open Go Go.RowKit
variable {P : Program}
def Loose (C : Chunk) (a : Option Addr) (n : Nat) : Prop := 0 < n -> ∃ b cs e lo hi, a = some ⟨b, 0, none⟩ /\ C = [(b, .cells cs e (lo, hi))] /\ ∀ i, i < n -> ¬ (lo <= i /\ i < hi)
def Got8 (bs : List UInt8) (R : State) (v : Value) (A : State) : Prop := ∃ C a cap, v = .slice a bs.length cap /\ bs.length <= cap /\ Rd 1 [C] a bs.length (bs.map b8) /\ Loose C a bs.length /\ A = C :: R
theorem jU {f : FuncId} {fn : Func} {args : List Value} {A : State} {R : Value -> State -> Prop} (hf : P.funcs[f]? = some fn) (hb : fn.body.isSome = true) (hn : (fn.name != "runtime.NumGoroutine") = true)
  (h : ∀ w, Hold w A -> Calls P f args.toArray w fun e w' => ∃ v, e = .returned v /\ Below w.heap.size w w' /\ ∃ C : Chunk, (∀ k o, (k, o) ∈ C -> w.heap.size <= k /\ w'.heap[k]? = some o) /\ (C.map (·.1)).Nodup /\ R v (C :: A)) : Meets P f args A R := by
 refine ⟨?_, fun F w hw => ?_⟩
 ·obtain ⟨c, hc⟩ := Option.isSome_iff_exists.1 hb
  simp [jW, hf, hc]; simpa using hn
 ·have hA : Hold w A := hw.sub (by simp);refine (callsIn_wide.2 (h w hA)).mono ?_;rintro e w' ⟨v, rfl, hbe, C, hC, hnd, hR⟩;refine ⟨v, F :: C :: A, rfl, ⟨hbe.os, hbe.tape, hbe.output, hbe.size⟩, ?_, C :: A, rfl, hR⟩
  have hall : Hold w' (C :: F :: A) := by
   refine ⟨?_, fun k o hm => ?_⟩
   ·simp only [aO, cL];rw [List.nodup_append];refine ⟨hnd, by have := hw.nd; simpa only [aO, cL] using this, ?_⟩;intro x hx y hy hxy;obtain ⟨⟨k, o⟩, hk, rfl⟩ := List.mem_map.1 hx;have h1 := (hC k o hk).1;have hy' : y ∈ ((F :: A).flatten.map (·.1)) := by simpa only [aO, cL] using hy
    obtain ⟨⟨k2, o2⟩, hk2, e2⟩ := List.mem_map.1 hy';have h2 := hw.lt hk2;simp only at e2 hxy;omega
   ·simp only [aO, List.mem_append] at hm
    rcases hm with hm | hm
    ·exact (hC k o hm).2
    ·have hm' : (k, o) ∈ (F :: A).flatten := by simpa only [aO, List.mem_append] using hm
     rw [hbe.block k (hw.lt hm')];exact hw.get k o hm'
  exact hall.perm (by
   simp only [aO];rw [<- aM, <- aM];exact List.Perm.append_right _ cG)
theorem ZK {B : Nat} {w' : World} {v : Value} {l : List UInt8} (h : Lib.FreshBytes B w' v l) :
  ∃ C a cap, v = .slice a l.length cap /\ l.length <= cap /\ (∀ k o, (k, o) ∈ C -> B <= k /\ w'.heap[k]? = some o) /\ (C.map (·.1)).Nodup /\ Rd 1 [C] a l.length (l.map b8) /\ Loose C a l.length := by
 obtain ⟨g, cap, zs, rfl, hg, hle, _, hz, hr, hb, hc, hf⟩ := h
 by_cases h0 : l.length = 0
 ·have : l = [] := List.length_eq_zero_iff.1 h0;subst this;exact ⟨[], _, cap, rfl, hle, fun k o hm => (by cases hm), by simp, Rd.nil, fun h => absurd h (by simp)⟩
 ·have hc0 := hc 0 (by omega);unfold World.cell? at hc0
  cases hob : w'.heap[g]? with
  | none => simp [hob] at hc0
  | some ob =>
   cases ob with
   | cells cs e m =>
    obtain ⟨lo, hi⟩ := m;refine ⟨[(g, .cells cs e (lo, hi))], _, cap, rfl, hle, fun k o hm => ?_, by simp, ⟨by simp, fun _ => ⟨g, 0, cs, e, (lo, hi), rfl, Lies.one, fun i hi' => ?_⟩⟩, fun _ => ⟨g, cs, e, lo, hi, rfl, rfl, fun i hi' => ?_⟩⟩
    ·simp only [dH, Prod.mk.injEq] at hm;obtain ⟨rfl, rfl⟩ := hm;exact ⟨hg, hob⟩
    ·simp only [bE] at hi';have h1 := hc i (by omega);unfold World.cell? at h1;simp only [hob, Option.isSome_none, Bool.false_eq_true, if_false] at h1;rw [cD, h1]
     have h2 : l[i]? = some (aH (zs.getD i 0).toNat) := by
      rw [<- hb];simp only [Lib.bytesOf, cN, List.getElem?_take, if_pos hi'];rw [aF (by omega), cY, aF (by omega)]; rfl
     have h3 := hr (zs.getD i 0) (by
      rw [cY, aF (by omega)];exact dD _)
     rw [cN, h2];simp only [dE, b8, bL]
     congr 2; omega
    ·have h1 := hf i (by omega);unfold World.frozen? at h1;simp only [hob] at h1;intro hlt
     simp [hlt.1, hlt.2] at h1
   | _ => simp [hob] at hc0
def we (A : State) (a : Option Addr) (n : Nat) (ls : List (List UInt8)) : Prop :=
 ls.length = n /\ ∃ vs : List Value, Rd 1 A a n vs /\ ∀ (i : Nat) (v : Value) (l : List UInt8), vs[i]? = some v -> ls[i]? = some l -> ∃ p c, v = .slice p l.length c /\ l.length <= c /\ Rd 1 A p l.length (l.map b8)
theorem kQ {S : State} {a : Option Addr} {len : Nat} {us : List Value} (h : Rd 1 S a len us) {w : World} (hw : Hold w S) {i : Nat} {v : Value} (hi : us[i]? = some v) : ∃ b o, a = some ⟨b, o, none⟩ /\ w.cell? ⟨b, o + i, none⟩ = some v := by
 have hlt := (List.getElem?_eq_some_iff.1 hi).1;obtain ⟨b, o, cs, e, m, rfl, hl, hc⟩ := h.2 (by intro e; subst e; simp at hi);exact ⟨b, o, rfl, by rw [ZV (hl.get hw), hc i hlt, hi]⟩
theorem holds_of {S : State} {p : Option Addr} {c : Nat} {l : List UInt8} (h : Rd 1 S p l.length (l.map b8)) {w : World} (hw : Hold w S) : Lib.HoldsBytes w (.slice p l.length c) l := by
 refine ⟨p, c, rfl, fun hp => ?_, fun a ha i x hx => ?_⟩
 ·subst hp
  cases l with
  | nil => rfl
  | cons x l => obtain ⟨_, _, _, _, _, h3, _⟩ := h.2 (by simp); cases h3
 ·obtain ⟨b, o, e, hc⟩ := kQ h hw (i := i) (v := b8 x) (by simp [hx]);subst ha
  cases e
  rw [add_mk];exact hc
theorem Meets.perm {f : FuncId} {args : List Value} {A B : State} {R R' : Value -> State -> Prop} (h : Meets P f args A R) (hAB : B.flatten.Perm A.flatten) (hR : ∀ v A', R v A' -> ∃ B', A'.flatten.Perm B'.flatten /\ R' v B') : Meets P f args B R' := by
 refine ⟨h.1, fun F w hw => (h.2 F w (hw.perm (by simp only [aO]; exact hAB.append_left F))).mono ?_⟩;rintro e w' ⟨v, S, rfl, he, hh, A', rfl, hr⟩;obtain ⟨B', hp, hr'⟩ := hR v A' hr;exact ⟨v, F :: B', rfl, he, hh.perm (by simp only [aO]; exact hp.append_left F), B', rfl, hr'⟩
end Go.Ost
namespace Go.Ost
open Go
variable {P : Program}
theorem rowX_8 {l : List W32} (h : l.length = 8) (v u : Value) : (rowX l [v, u])[8]? = some v /\ (rowX l [v, u])[9]? = some u := by
 simp only [rowX, cM]
 constructor
 ·rw [bR (by simp [h])]; simp [h]
 ·rw [bR (by simp [h])]; simp [h]
theorem Wt {t e : TypeId} {S : State} {κ : Value -> Prop} {b : Nat} {l : List W32} {v u : Value} {m : Nat × Nat} [hf : xe P t] (hl : Lies b (.cells (rowX l [v, u]) e m) S) (h : l.length = 8) (k : κ v) :
  ReadW P (Instr.loadAt t (.pointer (some ⟨b, 8, none⟩))) S κ := zE hl (rowX_8 h v u).1 k
theorem Ws {t e : TypeId} {S : State} {κ : Value -> Prop} {b : Nat} {l : List W32} {v u : Value} {m : Nat × Nat} [hf : xe P t] (hl : Lies b (.cells (rowX l [v, u]) e m) S) (h : l.length = 8) (k : κ u) :
  ReadW P (Instr.loadAt t (.pointer (some ⟨b, 9, none⟩))) S κ := zE hl (rowX_8 h v u).2 k
theorem QD {l : List W32} (h : l.length = 8) (v u x : Value) : (rowX l [v, u]).setIfInBounds 8 x = rowX l [x, u] /\ (rowX l [v, u]).setIfInBounds 9 x = rowX l [v, x] := by
 simp only [rowX, List.setIfInBounds_toArray]
 constructor
 ·rw [List.set_append_right _ _ (by simp [h])]; simp [h]
 ·rw [List.set_append_right _ _ (by simp [h])]; simp [h]
theorem YE {t e : TypeId} {z : Value} {by_ : Nat} {S S' : State} {κ : State -> Prop} {b : Nat} {l : List W32} {v u x : Value} [hs : zh P t z 1 by_] (hc : Value.cell1 x) (hu : Upd b (.cells (rowX l [v, u]) e (0, 0)) (.cells (rowX l [x, u]) e (0, 0)) S S')
  (h : l.length = 8) (k : κ S') : UnitW P (Instr.storeAt t (.pointer (some ⟨b, 8, none⟩)) x) S κ :=
 zJ (cs := rowX l [v, u]) hc (by rw [(QD h v u x).1]; exact hu) (by rw [qy]; simp; omega) k
theorem YD {t e : TypeId} {z : Value} {by_ : Nat} {S S' : State} {κ : State -> Prop} {b : Nat} {l : List W32} {v u x : Value} [hs : zh P t z 1 by_] (hc : Value.cell1 x) (hu : Upd b (.cells (rowX l [v, u]) e (0, 0)) (.cells (rowX l [v, x]) e (0, 0)) S S')
  (h : l.length = 8) (k : κ S') : UnitW P (Instr.storeAt t (.pointer (some ⟨b, 9, none⟩)) x) S κ :=
 zJ (cs := rowX l [v, u]) hc (by rw [(QD h v u x).2]; exact hu) (by rw [qy]; simp; omega) k
end Go.Ost
namespace Go.Ost
open Go
variable {P : Program}
theorem load_rx {t e : TypeId} {z : Value} {s by_ : Nat} {S : State} {κ : Value -> Prop} {b : Nat} {l : List W32} {r : List Value} {m : Nat × Nat} [hf : xQ P t] [hs : zh P t z s by_] (hl : Lies b (.cells (rowX l r) e m) S) (h : l.length = s) (k : κ (.agg (rowW l))) :
  ReadW P (Instr.loadAt t (.pointer (some ⟨b, 0, none⟩))) S κ := by
 refine kz hl (by rw [qy]; omega) ?_
 have : (rowX l r).extract 0 (0 + s) = rowW l := by
  apply cS; simp [rowX, rowW, <- h, List.take_append_of_le_length, bS]
 rw [this]; exact k
theorem load_ra {t e : TypeId} {z : Value} {s by_ : Nat} {S : State} {κ : Value -> Prop} {b : Nat} {l : List W32} {r : List Value} {m : Nat × Nat} [hf : xQ P t] [hs : zh P t z s by_] (hl : Lies b (.cells (rowX l r) e m) S) (h : l.length + r.length = s) (k : κ (.agg (rowX l r))) :
  ReadW P (Instr.loadAt t (.pointer (some ⟨b, 0, none⟩))) S κ := by
 refine kz hl (by rw [qy]; omega) ?_
 have : (rowX l r).extract 0 (0 + s) = rowX l r := by
  apply cS
  simp only [rowX, List.extract_toArray, List.extract_eq_take_drop, List.drop_zero];rw [bS (by simp; omega)]
 rw [this]; exact k
theorem store_ra {t e : TypeId} {z : Value} {s by_ : Nat} {S S' : State} {κ : State -> Prop} {b : Nat} {l l' : List W32} {r r' : List Value} [hs : zh P t z s by_] (hc : ∀ v ∈ r', Value.cell1 v) (hu : Upd b (.cells (rowX l r) e (0, 0)) (.cells (rowX l' r') e (0, 0)) S S')
  (h : l.length + r.length = s) (h' : l'.length + r'.length = s) (k : κ S') : UnitW P (Instr.storeAt t (.pointer (some ⟨b, 0, none⟩)) (.agg (rowX l' r'))) S κ := by
 refine wm (e := e) (cs := rowX l r) (S' := S') (by rw [qy]; exact h') (fun v hv => ?_) ?_ (by rw [qy]; omega) k
 ·simp only [rowX, List.mem_append, List.mem_map] at hv
  rcases hv with ⟨x, _, rfl⟩ | hv
  ·exact wU x
  ·exact hc v hv
 ·have q := jZ (l'.map b32 ++ r') [] (l.map b32 ++ r) [] (by simp; omega);simp only [aD, aL, aV] at q;have e2 : xC (rowX l r) 0 (rowX l' r').toList = rowX l' r' := q;rw [e2]; exact hu
def Wr (C : Chunk) (a : Option Addr) (bs : List UInt8) : Prop :=
 bs ≠ [] -> ∃ b o cs e lo hi, a = some ⟨b, o, none⟩ /\ C = [(b, .cells cs e (lo, hi))] /\ (∀ i, i < bs.length -> cs[o + i]? = some (b8 (bs.getD i 0))) /\ ∀ i, i < bs.length -> ¬ (lo <= o + i /\ o + i < hi)
theorem Wr.rd {C : Chunk} {a : Option Addr} {bs : List UInt8} (h : Wr C a bs) : Rd 1 [C] a bs.length (bs.map b8) := by
 refine ⟨by simp, fun hne => ?_⟩;obtain ⟨b, o, cs, e, lo, hi, rfl, rfl, hc, _⟩ := h (by intro h0; subst h0; simp at hne)
 exact ⟨b, o, cs, e, (lo, hi), rfl, Lies.one, fun i hi => by
  simp only [bE] at hi;rw [hc i hi]; simp [cY, hi]⟩
end Go.Ost
namespace Go.Sha
open Go Go.Ost
variable {P : Program} {n : Nat} {ro : Option Nat}
section steps
variable {ops : Array Oper} {K : Env -> State -> Prop} {o : Oper} {l l' : List Oper} {L L' : Env} {S S' : State}
theorem YJ (k : runW P n ops K l' L' S') (h : Runs P n ops (o :: l) L S l' L' S' := by exact ⟨fun K0 hK0 => by ((with_reducible refine jm fun K hK => ?_); (try simp only [gos, gob, aG, if_true, reduceIte, reduceCtorEq, bM, aP, bQ, bH, cJ, cK, bT, bU, bN, bV, bW, bX, bY, bZ, cB, aY, bI]); (try (simp (disch := omega) only [gow, gobw]; try simp only [gos, gob, aG, if_true, reduceIte, reduceCtorEq, bM, aP, bQ, bH, cJ, cK, bT, bU, bN, bV, bW, bX, bY, bZ, cB, aY, bI])); (first | (with_reducible refine hK _ _ ?_) | ((with_reducible apply load_w); (· (repeat (first | with_reducible exact Lies.one | with_reducible exact Lies.here (by assumption) | with_reducible apply Lies.next))); (· (first | (rw [ld_len]; omega) | (rw [aW]; omega) | (rw [St.list_len]; omega) | (rw [xE]; omega) | (rw [xf]; omega) | (rw [zS _ _ _ (by omega)]; omega))); (with_reducible refine hK _ _ ?_)) | ((with_reducible apply Vc); (· (repeat (first | with_reducible exact Lies.one | with_reducible exact Lies.here (by assumption) | with_reducible apply Lies.next))); (· (first | (rw [ld_len]; omega) | (rw [aW]; omega) | (rw [St.list_len]; omega) | (rw [xE]; omega) | (rw [xf]; omega) | (rw [zS _ _ _ (by omega)]; omega))); (with_reducible refine hK _ _ ?_)) | ((with_reducible apply vS); (· (repeat (first | with_reducible exact Upd.one | with_reducible apply Upd.next))); (· (first | (rw [ld_len]; omega) | (rw [aW]; omega) | (rw [St.list_len]; omega) | (rw [xE]; omega) | (rw [xf]; omega) | (rw [zS _ _ _ (by omega)]; omega))); (with_reducible refine hK _ _ ?_)) | ((with_reducible apply wZ); (· (repeat (first | with_reducible exact Upd.one | with_reducible apply Upd.next))); (· (first | (rw [ld_len]; omega) | (rw [aW]; omega) | (rw [St.list_len]; omega) | (rw [xE]; omega) | (rw [xf]; omega) | (rw [zS _ _ _ (by omega)]; omega))); (with_reducible refine hK _ _ ?_)) | ((with_reducible apply xx); (· (repeat (first | with_reducible exact Lies.one | with_reducible apply Lies.next))); (with_reducible refine hK _ _ ?_)) | ((with_reducible apply zE); (· (repeat (first | with_reducible exact Lies.one | with_reducible apply Lies.next))); (· exact rfl); (with_reducible refine hK _ _ ?_)) | ((with_reducible apply zZ); (· exact trivial); (· (repeat (first | with_reducible exact Upd.one | with_reducible apply Upd.next))); (with_reducible refine hK _ _ ?_))); clear hK K); exact hK0⟩) : runW P n ops K (o :: l) L S := h.out K k
theorem YK (k : runW P n ops K l' L' S') (h : Runs P n ops (o :: l) L S l' L' S' := by exact ⟨fun K0 hK0 => by ((with_reducible refine jm fun K hK => ?_); (try simp only [gos, gob, aG, if_true, reduceIte, reduceCtorEq, bM, aP, bQ, bH, cJ, cK, bT, bU, bN, bV, bW, bX, bY, bZ, cB, aY, bI]); (try (simp (disch := omega) only [gow, gobw]; try simp only [gos, gob, aG, if_true, reduceIte, reduceCtorEq, bM, aP, bQ, bH, cJ, cK, bT, bU, bN, bV, bW, bX, bY, bZ, cB, aY, bI])); (first | (with_reducible refine hK _ _ ?_) | ((with_reducible apply Wt); (· (repeat (first | with_reducible exact Lies.one | with_reducible apply Lies.next))); (· (first | exact St.list_len _ | exact ld_len _ _ | exact zS _ _ _ (by omega) | assumption)); (with_reducible refine hK _ _ ?_)) | ((with_reducible apply Ws); (· (repeat (first | with_reducible exact Lies.one | with_reducible apply Lies.next))); (· (first | exact St.list_len _ | exact ld_len _ _ | exact zS _ _ _ (by omega) | assumption)); (with_reducible refine hK _ _ ?_)) | ((with_reducible apply Vc); (· (repeat (first | with_reducible exact Lies.one | with_reducible exact Lies.here (by assumption) | with_reducible apply Lies.next))); (· (first | (rw [ld_len]; omega) | (rw [aW]; omega) | (rw [St.list_len]; omega) | (rw [xE]; omega) | (rw [xf]; omega) | (rw [zS _ _ _ (by omega)]; omega))); (with_reducible refine hK _ _ ?_)) | ((with_reducible apply YE); (· exact trivial); (· (repeat (first | with_reducible exact Upd.one | with_reducible apply Upd.next))); (· (first | exact St.list_len _ | exact ld_len _ _ | exact zS _ _ _ (by omega) | assumption)); (with_reducible refine hK _ _ ?_)) | ((with_reducible apply YD); (· exact trivial); (· (repeat (first | with_reducible exact Upd.one | with_reducible apply Upd.next))); (· (first | exact St.list_len _ | exact ld_len _ _ | exact zS _ _ _ (by omega) | assumption)); (with_reducible refine hK _ _ ?_)) | ((with_reducible apply vS); (· (repeat (first | with_reducible exact Upd.one | with_reducible apply Upd.next))); (· (first | (rw [ld_len]; omega) | (rw [aW]; omega) | (rw [St.list_len]; omega) | (rw [xE]; omega) | (rw [xf]; omega) | (rw [zS _ _ _ (by omega)]; omega))); (with_reducible refine hK _ _ ?_)) | ((with_reducible apply xx); (· (repeat (first | with_reducible exact Lies.one | with_reducible apply Lies.next))); (with_reducible refine hK _ _ ?_)) | ((with_reducible apply zE); (· (repeat (first | with_reducible exact Lies.one | with_reducible apply Lies.next))); (· exact rfl); (with_reducible refine hK _ _ ?_)) | ((with_reducible apply zZ); (· exact trivial); (· (repeat (first | with_reducible exact Upd.one | with_reducible apply Upd.next))); (with_reducible refine hK _ _ ?_)) | ((with_reducible apply zJ); (· exact trivial); (· (repeat (first | with_reducible exact Upd.one | with_reducible apply Upd.next))); (· simp); (with_reducible refine hK _ _ ?_))); clear hK K); exact hK0⟩) : runW P n ops K (o :: l) L S := h.out K k
theorem runv_to (k : runW P n ops K l' L' S') (h : Runs P n ops l L S l' L' S' := by exact ⟨fun K0 hK0 => by (repeat ((with_reducible refine jy ?_); refine YJ ?_)); exact hK0⟩) : runW P n ops K l L S := h.out K k
theorem Kz (k : runW P n ops K l' L' S') (h : Runs P n ops l L S l' L' S' := by exact ⟨fun K0 hK0 => by (repeat ((with_reducible refine jy ?_); refine YK ?_)); exact hK0⟩) : runW P n ops K l L S := h.out K k
variable {p p' : List Entry}
theorem drawv_one {p0 : Entry} (k : xj P n ops K p' L' S') (h : Qj P n ops (p0 :: p) L S p' L' S' := by exact ⟨fun K0 hK0 => by refine qO fun K hK => ?_; (first | (with_reducible refine hK _ _ ?_) | ((with_reducible apply load_w); (· (repeat (first | with_reducible exact Lies.one | with_reducible exact Lies.here (by assumption) | with_reducible apply Lies.next))); (· (first | (rw [ld_len]; omega) | (rw [aW]; omega) | (rw [St.list_len]; omega) | (rw [xE]; omega) | (rw [xf]; omega) | (rw [zS _ _ _ (by omega)]; omega))); (with_reducible refine hK _ _ ?_)) | ((with_reducible apply Vc); (· (repeat (first | with_reducible exact Lies.one | with_reducible exact Lies.here (by assumption) | with_reducible apply Lies.next))); (· (first | (rw [ld_len]; omega) | (rw [aW]; omega) | (rw [St.list_len]; omega) | (rw [xE]; omega) | (rw [xf]; omega) | (rw [zS _ _ _ (by omega)]; omega))); (with_reducible refine hK _ _ ?_)) | ((with_reducible apply vS); (· (repeat (first | with_reducible exact Upd.one | with_reducible apply Upd.next))); (· (first | (rw [ld_len]; omega) | (rw [aW]; omega) | (rw [St.list_len]; omega) | (rw [xE]; omega) | (rw [xf]; omega) | (rw [zS _ _ _ (by omega)]; omega))); (with_reducible refine hK _ _ ?_)) | ((with_reducible apply wZ); (· (repeat (first | with_reducible exact Upd.one | with_reducible apply Upd.next))); (· (first | (rw [ld_len]; omega) | (rw [aW]; omega) | (rw [St.list_len]; omega) | (rw [xE]; omega) | (rw [xf]; omega) | (rw [zS _ _ _ (by omega)]; omega))); (with_reducible refine hK _ _ ?_)) | ((with_reducible apply xx); (· (repeat (first | with_reducible exact Lies.one | with_reducible apply Lies.next))); (with_reducible refine hK _ _ ?_)) | ((with_reducible apply zE); (· (repeat (first | with_reducible exact Lies.one | with_reducible apply Lies.next))); (· exact rfl); (with_reducible refine hK _ _ ?_)) | ((with_reducible apply zZ); (· exact trivial); (· (repeat (first | with_reducible exact Upd.one | with_reducible apply Upd.next))); (with_reducible refine hK _ _ ?_))); clear hK K; exact hK0⟩) : xj P n ops K (p0 :: p) L S := h.out K k
theorem drawh_one {p0 : Entry} (k : xj P n ops K p' L' S') (h : Qj P n ops (p0 :: p) L S p' L' S' := by exact ⟨fun K0 hK0 => by refine qO fun K hK => ?_; (first | (with_reducible refine hK _ _ ?_) | ((with_reducible apply Wt); (· (repeat (first | with_reducible exact Lies.one | with_reducible apply Lies.next))); (· (first | exact St.list_len _ | exact ld_len _ _ | exact zS _ _ _ (by omega) | assumption)); (with_reducible refine hK _ _ ?_)) | ((with_reducible apply Ws); (· (repeat (first | with_reducible exact Lies.one | with_reducible apply Lies.next))); (· (first | exact St.list_len _ | exact ld_len _ _ | exact zS _ _ _ (by omega) | assumption)); (with_reducible refine hK _ _ ?_)) | ((with_reducible apply Vc); (· (repeat (first | with_reducible exact Lies.one | with_reducible exact Lies.here (by assumption) | with_reducible apply Lies.next))); (· (first | (rw [ld_len]; omega) | (rw [aW]; omega) | (rw [St.list_len]; omega) | (rw [xE]; omega) | (rw [xf]; omega) | (rw [zS _ _ _ (by omega)]; omega))); (with_reducible refine hK _ _ ?_)) | ((with_reducible apply YE); (· exact trivial); (· (repeat (first | with_reducible exact Upd.one | with_reducible apply Upd.next))); (· (first | exact St.list_len _ | exact ld_len _ _ | exact zS _ _ _ (by omega) | assumption)); (with_reducible refine hK _ _ ?_)) | ((with_reducible apply YD); (· exact trivial); (· (repeat (first | with_reducible exact Upd.one | with_reducible apply Upd.next))); (· (first | exact St.list_len _ | exact ld_len _ _ | exact zS _ _ _ (by omega) | assumption)); (with_reducible refine hK _ _ ?_)) | ((with_reducible apply vS); (· (repeat (first | with_reducible exact Upd.one | with_reducible apply Upd.next))); (· (first | (rw [ld_len]; omega) | (rw [aW]; omega) | (rw [St.list_len]; omega) | (rw [xE]; omega) | (rw [xf]; omega) | (rw [zS _ _ _ (by omega)]; omega))); (with_reducible refine hK _ _ ?_)) | ((with_reducible apply xx); (· (repeat (first | with_reducible exact Lies.one | with_reducible apply Lies.next))); (with_reducible refine hK _ _ ?_)) | ((with_reducible apply zE); (· (repeat (first | with_reducible exact Lies.one | with_reducible apply Lies.next))); (· exact rfl); (with_reducible refine hK _ _ ?_)) | ((with_reducible apply zZ); (· exact trivial); (· (repeat (first | with_reducible exact Upd.one | with_reducible apply Upd.next))); (with_reducible refine hK _ _ ?_)) | ((with_reducible apply zJ); (· exact trivial); (· (repeat (first | with_reducible exact Upd.one | with_reducible apply Upd.next))); (· simp); (with_reducible refine hK _ _ ?_))); clear hK K; exact hK0⟩) : xj P n ops K (p0 :: p) L S := h.out K k
theorem zO (k : xj P n ops K p' L' S') (h : Qj P n ops p L S p' L' S' := by exact ⟨fun K0 hK0 => by (repeat ((with_reducible refine qF ?_); refine drawv_one ?_)); exact hK0⟩) : xj P n ops K p L S := h.out K k
theorem kA (k : xj P n ops K p' L' S') (h : Qj P n ops p L S p' L' S' := by exact ⟨fun K0 hK0 => by (repeat ((with_reducible refine qF ?_); refine drawh_one ?_)); exact hK0⟩) : xj P n ops K p L S := h.out K k
variable {K : Cont} {D : List Nat} {id : Nat}
theorem Jy (k : runW P n l.toArray (K .normal D) l' L' S') (h : Runs P n l.toArray l L S l' L' S' := by exact ⟨fun K0 hK0 => by (repeat ((with_reducible refine jy ?_); refine YJ ?_)); exact hK0⟩) : CodeW P n ro (.region id l.toArray false) K D L S := xV (h.out _ k)
theorem yg (k : runW P n l.toArray (K .normal D) l' L' S') (h : Runs P n l.toArray l L S l' L' S' := by exact ⟨fun K0 hK0 => by (repeat ((with_reducible refine jy ?_); refine YK ?_)); exact hK0⟩) : CodeW P n ro (.region id l.toArray false) K D L S := xV (h.out _ k)
theorem jG {a b : Prop} (k : b) (h : a := by (first | exact trivial | ((with_reducible apply load_w); (· (repeat (first | with_reducible exact Lies.one | with_reducible exact Lies.here (by assumption) | with_reducible apply Lies.next))); (· (first | (rw [ld_len]; omega) | (rw [aW]; omega) | (rw [St.list_len]; omega) | (rw [xE]; omega) | (rw [xf]; omega) | (rw [zS _ _ _ (by omega)]; omega))); (· exact rfl)) | ((with_reducible apply Vc); (· (repeat (first | with_reducible exact Lies.one | with_reducible exact Lies.here (by assumption) | with_reducible apply Lies.next))); (· (first | (rw [ld_len]; omega) | (rw [aW]; omega) | (rw [St.list_len]; omega) | (rw [xE]; omega) | (rw [xf]; omega) | (rw [zS _ _ _ (by omega)]; omega))); (· exact rfl)) | ((with_reducible apply xx); (· (repeat (first | with_reducible exact Lies.one | with_reducible apply Lies.next))); (· exact rfl)) | ((with_reducible apply zE); (· (repeat (first | with_reducible exact Lies.one | with_reducible apply Lies.next))); (· exact rfl); (· exact rfl)))) : a /\ b := ⟨h, k⟩
theorem pendh {a b : Prop} (k : b) (h : a := by (first | ((with_reducible apply Wt); (· (repeat (first | with_reducible exact Lies.one | with_reducible apply Lies.next))); (· (first | exact St.list_len _ | exact ld_len _ _ | exact zS _ _ _ (by omega) | assumption)); (· exact rfl)) | ((with_reducible apply Ws); (· (repeat (first | with_reducible exact Lies.one | with_reducible apply Lies.next))); (· (first | exact St.list_len _ | exact ld_len _ _ | exact zS _ _ _ (by omega) | assumption)); (· exact rfl)) | ((with_reducible apply xx); (· (repeat (first | with_reducible exact Lies.one | with_reducible apply Lies.next))); (· exact rfl)) | exact trivial)) : a /\ b := ⟨h, k⟩
end steps
end Go.Sha
namespace Go.Ost
open Go
theorem km {P : Program} {n : Nat} {ro : Option Nat} {K : Cont} {D : List Nat} {L : Env} {S : State} {c d : Code} {l : Nat} {K' : Cont} (Q : List Nat -> Env -> State -> Prop) (h1 : CodeW P n ro c ((Cont.then (Mid Q) K).block l) D L S) (h2 : ∀ D L S, Q D L S -> CodeW P n ro d K' D L S) : CodeW P n ro c ((Cont.then (CodeW P n ro d K') K).block l) D L S :=
 ZT h1 fun e D L S h => by
  have go : Mid Q D L S -> CodeW P n ro d K' D L S := fun ⟨L', S', hq, hL, hS⟩ => qH hL hS (h2 D L' S' hq)
  cases e with
  | exit l' =>
   by_cases hl : l' = l
   ·simp only [Cont.block, if_pos hl, Cont.then] at h ⊢; exact go h
   ·simp only [Cont.block, if_neg hl, Cont.then] at h ⊢; exact h
  | normal => exact go h
  | _ => exact h
variable {P : Program} {n : Nat} {ro : Option Nat}
structure RunC (P : Program) (n : Nat) (ro : Option Nat) (ops : Array Oper) (K : Cont) (D : List Nat) (l : List Oper) (L : Env) (S : State) : Prop where
 out : ∀ a w, Agree n L D a -> Hold w S -> wpListIn (FW ro) 0 P ops (KQ n K w) l a w
theorem runc_in {ops : Array Oper} {K : Cont} {D : List Nat} {l2 : List Oper} : ∀ (l : List Oper) (L : Env) (S : State), runW P n ops (fun L S => RunC P n ro ops K D l2 L S) l L S ->
  ∀ (a : Act) (w : World), Agree n L D a -> Hold w S -> wpListIn (FW ro) 0 P ops (KQ n K w) (l ++ l2) a w := by
 intro l
 induction l with
 | nil => intro L S h a w ha hw; exact h.out a w ha hw
 | cons o l ih =>
  intro L S h a w ha hw
  have mono : ∀ {w w' : World} {a : Act} {l : List Oper}, Ext w w' -> wpListIn (FW ro) 0 P ops (KQ n K w') l a w' -> wpListIn (FW ro) 0 P ops (KQ n K w) l a w' := by
   intro w w' a l he h;have hq : ∀ e a v, KQ n K w' e a v -> KQ n K w e a v := fun _ _ _ h => h.ext he
   clear ih
   have gen : ∀ (l : List Oper) (a : Act) (v : World), wpListIn (FW ro) 0 P ops (KQ n K w') l a v -> wpListIn (FW ro) 0 P ops (KQ n K w) l a v := by
    intro l
    induction l with
    | nil => intro a v h; exact hq _ _ _ h
    | cons o l ih =>
     intro a v h;simp only [wpListIn] at h ⊢
     split at h
     ·rw [if_pos ‹_›];refine ⟨h.1, ?_⟩;have h2 := h.2;generalize (o.semAt (FW ro).round a.eval).run P v = r at *
      cases r with
      | ok x v' =>
       cases x <;> simp only [Oper.uponIn] at h2 ⊢ <;>
        first
         | exact ih _ _ h2
         | exact ⟨h2.1, CallsIn.mono h2.2 (fun e w'' he => by cases e <;> first | exact ih _ _ he | exact hq _ _ _ he | exact (let ⟨a, w, q⟩ := he; ⟨a, w, hq _ _ _ q⟩))⟩
         | exact ⟨h2.1, RowsIn.mono h2.2 (fun _ _ he => ih _ _ he)⟩
         | exact ⟨h2.1, RoundIn.mono h2.2 (fun e w'' he => by cases e <;> first | exact ih _ _ he | exact hq _ _ _ he | exact (let ⟨a, w, q⟩ := he; ⟨a, w, hq _ _ _ q⟩))⟩
      | halt x v' => cases x <;> simp only [Oper.uponIn] at h2 ⊢ <;> exact hq _ _ _ h2
     ·rw [if_neg ‹_›];exact ⟨h.1, ih _ _ h.2⟩
   exact gen l a w' h
  simp only [runW] at h;simp only [aC, wpListIn]
  rcases ZI ha h with ⟨hw1, h⟩ | ⟨hw1, h⟩
  ·rw [if_pos hw1];exact oper_in h ha hw fun v S' w' hk he hh => mono he (ih _ _ hk _ _ (ha.put _ _) hh)
  ·rw [if_neg (by simp [hw1])];exact ⟨fun _ _ => trivial, ih _ _ h _ _ (ha.put _ _) hw⟩
variable {K : Cont} {D : List Nat} {L L' : Env} {S S' : State} {ops : Array Oper} {l l1 l2 : List Oper}
theorem runc_less (hL : Knows L' L) (hS : Among S' S) (h : RunC P n ro ops K D l L' S') : RunC P n ro ops K D l L S :=
 ⟨fun a w ha hw => h.out a w (ha.less hL) (hS.hold hw)⟩
theorem runc_run (h : runW P n ops (K .normal D) l L S) : RunC P n ro ops K D l L S := ⟨run_in _ _ _ h⟩
theorem code_runc {id : Nat} (h : RunC P n ro l.toArray K D l L S) : CodeW P n ro (.region id l.toArray false) K D L S :=
 ⟨fun a w ha hw => wpIn_region_list (by simpa using h.out a w ha hw)⟩
def MidR (Q : Env -> State -> Prop) (L : Env) (S : State) : Prop := ∃ L' S', Q L' S' /\ Knows L' L /\ Among S' S
theorem midr {Q : Env -> State -> Prop} {L' : Env} {S' : State} (h : Q L' S') (hL : Knows L' L := by (repeat (first | exact True.intro | (refine aE ?_ ?_; (· (try simp only [evT, lookT_hit, lookT_miss, aG]); (first | done | exact rfl)))))) (hS : Among S' S := by first | ((repeat (first | with_reducible exact Among.nil _ | with_reducible exact Pick.head _ _ | with_reducible apply Pick.tail | with_reducible apply Among.cons)); done) | ((repeat (first | exact Among.nil _ | exact Pick.head _ _ | apply Pick.tail | apply Among.cons)); done)) : MidR Q L S := ⟨L', S', h, hL, hS⟩
theorem Zj {KK KK' : Env -> State -> Prop} (hk : ∀ L S, KK L S -> KK' L S) : ∀ (l : List Oper) (L : Env) (S : State), runW P n ops KK l L S -> runW P n ops KK' l L S
 | [], L, S, h => hk L S h
 | o :: l, L, S, h => by
  have key : ∀ (A A' B B' : Prop), (A -> A') -> (B -> B') -> guardW ops o L A B -> guardW ops o L A' B' := by
   intro A A' B B' ha hb h;unfold guardW at *
   cases hg : o.guard with
   | none => rw [hg] at h; exact ha h
   | some g =>
    rw [hg] at h;obtain ⟨j, want⟩ := g;simp only at h ⊢
    cases hd : (ops[j]?).bind (·.dst) with
    | none => rw [hd] at h; exact h.elim
    | some d =>
     rw [hd] at h;simp only at h ⊢
     cases hv : lookT L d with
     | none => rw [hv] at h; exact h.elim
     | some v =>
      rw [hv] at h
      cases v <;> first | exact h.elim | skip
      case bool b =>
       simp only [withV] at h ⊢
       split at h
       ·rw [if_pos ‹_›]; exact ha h
       ·rw [if_neg ‹_›]; exact hb h
      case tuple vs => exact hb h
  simp only [runW] at h ⊢;exact key _ _ _ _ (fun h => UV (fun v S' => Zj hk l _ _) h) (fun h => Zj hk l _ _ h) h
theorem yL (Q : Env -> State -> Prop) (h1 : runW P n ops (MidR Q) l1 L S) (h2 : ∀ L S, Q L S -> RunC P n ro ops K D l2 L S) : RunC P n ro ops K D (l1 ++ l2) L S :=
 ⟨runc_in l1 L S (Zj (fun _ _ ⟨L', S', hq, hL, hS⟩ => runc_less hL hS (h2 L' S' hq)) l1 L S h1)⟩
theorem runc_mid3 {o0 o1 o2 : Oper} (Q : Env -> State -> Prop) (h1 : runW P n ops (MidR Q) [o0, o1, o2] L S) (h2 : ∀ L S, Q L S -> RunC P n ro ops K D l2 L S) : RunC P n ro ops K D (o0 :: o1 :: o2 :: l2) L S := yL (l1 := [o0, o1, o2]) Q h1 h2
theorem QA {o0 o1 o2 o3 : Oper} (Q : Env -> State -> Prop) (h1 : runW P n ops (MidR Q) [o0, o1, o2, o3] L S) (h2 : ∀ L S, Q L S -> RunC P n ro ops K D l2 L S) : RunC P n ro ops K D (o0 :: o1 :: o2 :: o3 :: l2) L S := yL (l1 := [o0, o1, o2, o3]) Q h1 h2
theorem Zl {o0 o1 o2 o3 o4 : Oper} (Q : Env -> State -> Prop) (h1 : runW P n ops (MidR Q) [o0, o1, o2, o3, o4] L S) (h2 : ∀ L S, Q L S -> RunC P n ro ops K D l2 L S) : RunC P n ro ops K D (o0 :: o1 :: o2 :: o3 :: o4 :: l2) L S := yL (l1 := [o0, o1, o2, o3, o4]) Q h1 h2
theorem Qz {o0 o1 o2 o3 o4 o5 : Oper} (Q : Env -> State -> Prop) (h1 : runW P n ops (MidR Q) [o0, o1, o2, o3, o4, o5] L S) (h2 : ∀ L S, Q L S -> RunC P n ro ops K D l2 L S) : RunC P n ro ops K D (o0 :: o1 :: o2 :: o3 :: o4 :: o5 :: l2) L S := yL (l1 := [o0, o1, o2, o3, o4, o5]) Q h1 h2
end Go.Ost
namespace Go.Ost
open Go
variable {P : Program}
theorem yD {f : FuncId} {fn : Func} {e : Array Value -> Sem Value} {args : List Value} {S : State} {κ : Value -> State -> Prop} (hf : P.funcs[f]? = some fn) (hname : (fn.name == "runtime.NumGoroutine") = false) (hb : fn.body.isNone = true)
  (hn : Extern.findNext fn = none) (he : Extern.find fn = some e) (h : ValW P (e args.toArray) S κ) : CallsW P f args.toArray S κ := by
 refine ⟨fun w hw => ?_⟩;obtain ⟨v, w', S', h1, h2, h3, h4⟩ := h.out w hw;refine ⟨.value v, w', ?_, S', h2, h3, h4⟩;rw [run_callFunc_extern hf hname hb hn he, h1]; rfl
theorem Wn {ps : Array TypeId} {t e : TypeId} [ht : zR P t e] {n : Nat} {S : State} {κ : Value -> State -> Prop} (hn : n <= 1000000)
  (k : ∀ b cap us C, Own 1 e C (some ⟨b, 0, none⟩) n cap us -> κ (.slice (some ⟨b, 0, none⟩) n cap) (C :: S)) : ValW P (Extern.BytealgMakeNoZero.makeNoZero ps #[t] #[.int .i64 n]) S κ := by
 refine ⟨fun w hw => ?_⟩;obtain ⟨cs, h1, h2, h3⟩ := Lib.run_makeNoZero (P := P) w ps t e ht.und n (by omega);refine ⟨_, _, [(w.heap.size, .cells cs e (0, 0))] :: S, h1, ⟨rfl, rfl, rfl, by simp⟩, Hold.new (w := w) hw rfl, k _ _ (cs.toList.take n) [(w.heap.size, .cells cs e (0, 0))] ⟨h2, h3 (by simp [maxLen]; omega), by simp; omega, .inr ⟨_, 0, cs, (0, 0), rfl, rfl, .inl rfl, by simp, fun i hi => ?_⟩⟩⟩;simp only [aU] at hi;rw [cD, cX (by omega), Array.getElem?_toList]
theorem yU {t t2 ty e : TypeId} {z : Value} {by_ : Nat} [ht : zR P t e] [hs : zh P e z 1 by_] {S G : State} {κ : Value -> State -> Prop} {C : Chunk} {a b : Option Addr} {len cap l d dc n c : Nat} {us vs : List Value}
  (ho : Own 1 e C a len cap us) (hp : Pick C S G) (hr : Rd 1 S b n vs) (h1 : ∀ v ∈ vs, Value.cell1 v) (hl : l + d <= len) {a' : Option Addr} (ha : 0 < min n d -> a' = a.map (·.add l))
  (k : ∀ C', Own 1 e C' a len cap (us.take l ++ (vs.take (min n d) ++ us.drop (l + min n d))) -> κ (.int .i64 (min n d : Nat)) (C' :: G)) :
  ValW P (Builtin.copy_ #[t, t2] ty #[.slice a' d dc, .slice b n c]) S κ := by
 refine ⟨fun w hw => ?_⟩;have hCG := hw.perm hp.perm;have hful : us.length = len := by have := ho.2.2.1; omega
 have hvl : vs.length = n := by have := hr.1; omega
 have hcut : Rd 1 S b (min n d) (vs.take (min n d)) := by
  have := YT hr (l := 0) (h' := min n d) (m := 0) (Nat.zero_le _) (Nat.min_le_left _ _);refine ⟨by simp; omega, fun hne => ?_⟩;obtain ⟨b', o, cs, e', m, h2, h3, h4⟩ := hr.2 (by intro e0; subst e0; simp at hne);refine ⟨b', o, cs, e', m, h2, h3, fun i hi => ?_⟩;simp only [aU] at hi;rw [cX (by omega), h4 i (by omega)]
 have f := kw (P := P) (c := c) hcut hw
 have f' : (Builtin.firstCells 1 (min n d) (.slice b n c)).run P w = .ok (vs.take (min n d)).toArray w := by
  have e : Builtin.firstCells 1 (min n d) (.slice b n c) = Builtin.firstCells 1 (min n d) (.slice b (min n d) c) := by
   cases b <;> rfl
  rw [e]; exact f
 by_cases h0 : min n d = 0
 ·refine ⟨.int .i64 (min n d : Nat), w, C :: G, ?_, Ext.refl w, hCG, k C ?_⟩
  ·have f2 := f';rw [h0] at f2
   cases a' <;> simp [Builtin.copy_, Sem.run_bind, zx ht.und, zt hs, Result.andThen, Builtin.lenOf, h0, goInt, storeCells, f2, show n.min d = 0 from h0]
  ·rw [h0]; simpa using ho
 ·obtain ⟨b0, o, cs, m, rfl, rfl, hsoft, hbig, hc⟩ := JH ho (by omega);obtain rfl := ha (by omega);obtain ⟨lo, hi'⟩ := m
  have hsz : o + us.length <= cs.size := by
   have := hc (us.length - 1) (by omega);rw [aF (by omega)] at this;have := (Array.getElem?_eq_some_iff.1 this).1;omega
  obtain ⟨w', q1, q2, q3, q4⟩ := xz (P := P) (b := b0) (o := o + l) (vs.take (min n d)) 0 w cs (hCG.get b0 (.cells cs e (lo, hi')) (by simp)) (fun u hu => h1 u (List.mem_of_mem_take hu)) (by simp; omega) hsoft.or;refine ⟨_, w', _, ?_, q2, (Upd.one (S := G)).hold hCG q3 q4, k [(b0, .cells (xC cs (o + l + 0) (vs.take (min n d))) e (lo, hi'))] ⟨ho.1, ho.2.1, by simp; omega, .inr ⟨b0, o, _, (lo, hi'), rfl, rfl, by rw [xg]; exact hsoft, by rw [xg]; exact hbig, fun j hj => ?_⟩⟩⟩
  ·simp only [dE, add_mk]
   simp [Builtin.copy_, Sem.run_bind, zx ht.und, zt hs, Result.andThen, Builtin.lenOf, goInt, f', q1, show n.min d = min n d from rfl]
  ·simp only [aA, aU, aT] at hj;rw [dQ, qQ _ _ _ _ (by simp; omega)];simp only [aU]
   by_cases h2 : o + l <= o + j /\ o + j < o + l + min (min n d) vs.length
   ·rw [if_pos h2, bR (by simp; omega), cT (by simp; omega)]
    congr 1; simp; omega
   ·rw [if_neg h2, hc j (by omega)]
    by_cases h3 : j < l
    ·rw [cT (by simp; omega), cX h3]
    ·rw [bR (by simp; omega), bR (by simp; omega), List.getElem?_drop]
     congr 1; simp; omega
end Go.Ost
namespace Go.Ost
open Go Go.ChangeShapes Go.WideShapes Go.ChangeAt Go.RowKit
variable {P : Program}
def kD (w : World) : Chunk := (bC w.heap.size).map fun b => (b, (w.heap[b]?).getD (.deferred (some [])))
theorem VJ {w : World} {b : Nat} {o : Obj} (h : w.heap[b]? = some o) : (b, o) ∈ kD w :=
 List.mem_map.2 ⟨b, List.mem_range.2 (Array.getElem?_eq_some_iff.1 h).1, by rw [h]; rfl⟩
theorem Ik {w : World} {b : Nat} {o : Obj} (h : (b, o) ∈ kD w) : w.heap[b]? = some o := by
 obtain ⟨c, hc, he⟩ := List.mem_map.1 h;have hlt := List.mem_range.1 hc
 cases he
 rw [Array.getElem?_eq_getElem hlt]; rfl
theorem Wy (w : World) : Hold w [kD w] := by
 refine ⟨?_, fun b o hm => Ik (by simpa using hm)⟩
 have e : (kD w).map (·.1) = bC w.heap.size := by
  unfold kD;rw [List.map_map];exact (List.map_congr_left fun a _ => rfl).trans (List.map_id _)
 simp only [aO, bO, aL, e];exact List.nodup_range
theorem law_calls {f : FuncId} {args : Array Value} (w : World) (h : ∀ C : Chunk, (∀ k o, w.heap[k]? = some o -> (k, o) ∈ C) -> Meets P f args.toList [C] fun v A => v = .bool true /\ A = [C]) :
  Calls P f args w fun e w' => e = .returned (.bool true) /\ Below w.heap.size w w' := by
 have h1 := (h (kD w) fun k o => VJ).out [] w (by simpa [List.flatten] using (Wy w).perm (by simp));refine callsIn_wide.1 (h1.mono ?_);rintro e w' ⟨v, S, rfl, he, hh, A, rfl, rfl, rfl⟩;refine ⟨rfl, he.os, he.tape, he.output, he.size, fun k hk => ?_⟩;rw [Array.getElem?_eq_getElem hk];exact hh.get _ _ (by simpa using VJ (Array.getElem?_eq_getElem hk))
def rowed (P : Program) (ts : List TypeId) : Bool := ts.all fun t => P.readableRec t && decide (t < P.types.size)
theorem wk {H : Type} {enc : TypeId × Value -> H} (hl : laidOutB P = true) {W W' : World} (hb : Below W.heap.size W W') {sp : Nat -> Bool} :
  ∀ {ts : List TypeId} {vs : List Value} {ds : List (DataW H)} {ps : List MemPlace}, rowed P ts = true -> (∀ p ∈ ps, p.block < W.heap.size /\ sp p.block = true) ->
   DataW.TrodAll enc P W 0 (fun _ => true) true ts vs ds ps -> DataW.TrodAll enc P W' 0 sp true ts vs ds ps
 | [], vs, ds, ps, _, _, h => by
  obtain ⟨rfl, rfl, rfl⟩ := trodAll_nil h;exact trodAll_mk0
 | t :: ts, vs, ds, ps, hr, hp, h => by
  obtain ⟨v, vs, d, ds, p, q, rfl, rfl, rfl, h1, h2⟩ := trodAll_cons h;simp only [rowed, dI, aN, decide_eq_true_eq] at hr
  exact trodAll_cons_mk (WideElems.Trod_stays hl hr.1.1 hr.1.2 h1 (fun x hx => hb.same (hp x (bD _ hx)).1) (fun x hx => (hp x (bD _ hx)).2))
   (wk hl hb hr.2 (fun x hx => hp x (List.mem_append_right _ hx)) h2)
theorem Il {W W' : World} (hb : Below W.heap.size W W') (may : MemPlace -> Prop) : W.keptBut W' may := by
 refine ⟨hb.os, hb.output, fun i hi => ?_⟩;rw [hb.block i hi]
 cases h : W.heap[i]? with
 | none => trivial
 | some o => cases o <;> first | exact ⟨rfl, rfl, rfl, fun _ _ => rfl⟩ | exact .inr ⟨rfl, rfl⟩ | rfl
theorem law_post {H : Type} {enc : TypeId × Value -> H} {f : Func} {s : ChangeSpec} {fresh handsOn zv : Bool} {W W' : World} {args : Array Value} {ds gs : List (DataW H)} {before : List MemPlace} {tb : TypeId}
  (hl : laidOutB P = true) (hr : rowed P f.params.toList = true) (hv : s.vars = []) (ht : f.resultTypes = #[tb]) (hu : P.underlying tb = some .bool)
  (hW : DataW.Whole enc P f.params.toList s.vars false W args.toList ds gs before) (hb : Below W.heap.size W W')
  (hs : gs = [] -> (s.fn H ds) = { results := [.lit (.bool true)], args := ds }) :
  s.post enc P f false fresh handsOn zv W args (.bool true) W' := by
 have hlt := hW.lt;have hW' := hW;obtain ⟨p, q, hA, hV, rfl, hz, hn⟩ := hW;rw [hv] at hV;obtain ⟨rfl, rfl⟩ := trodVars_none hV;have e := hs rfl;simp only [aL] at hlt hW' hz hn
 have hT : ∀ sp : Nat -> Bool, (∀ x ∈ p, sp x.block = true) -> DataW.TrodAll enc P W' 0 sp true f.params.toList args.toList ds p := fun sp h =>
  wk hl hb hr (fun x hx => ⟨hlt x hx, h x hx⟩) hA
 have hR : ∀ (b : Nat) (sp : Nat -> Bool) (hd : Bool), DataW.TrodAll enc P W' b sp hd f.resultTypes.toList ((Value.bool true).resultList f.resultTypes.size) [.lit (.bool true)] [] := by
  intro b sp hd;rw [ht];exact trodAll_cons_mk (shut_bool hu _) trodAll_mk0
 have hvv : ∀ sp : Nat -> Bool, DataW.TrodVars enc P W' sp s.vars [] [] := by
  intro sp; rw [hv]; rfl
 refine ⟨ds, [], p, [], p, [], hW', ?_, ?_, ?_, World.keptBut_mono (fun x hx => ⟨hx, .inr (.inl hx)⟩) (Il hb (· ∈ p)), fun _ => ⟨?_, ?_⟩⟩
 ·simp only [aL, e]; exact hR _ _ _
 ·simp only [aL, e]; exact hT _ (fun x hx => by simpa using hlt x hx)
 ·simp only [aL, e]; exact hvv _
 ·intro j t r h1 h2;rw [ht] at h1 h2;exact ok_one (f := f) ht rfl (okWide_bool_mk hu true) j t r (by rw [ht]; exact h1) (by rw [ht]; exact h2)
 ·refine ⟨_, _, ([] ++ p) ++ [], ⟨[] ++ p, [], trodAll_append (hT _ (fun _ _ => rfl)) (hR _ _ _), hvv _, rfl, ?_, fun h => by cases h⟩, fun x hx _ => by simpa using hx⟩;intro b off hx;have hx : MemPlace.cell b off ∈ p := by simpa using hx
  have hz' := hz b off hx;unfold World.frozen? at hz' ⊢;rw [hb.block b (hlt _ hx)];exact hz'
end Go.Ost
namespace Go.Ost
open Go Go.ChangeShapes Go.WideShapes Go.ChangeAt Go.RowKit Go.Deep
variable {P : Program}
theorem Ih {w : World} {a : Addr} {v : Value} (h : w.cell? a = some v) : ∃ b o cs e m, a = ⟨b, o, none⟩ /\ w.heap[b]? = some (.cells cs e m) := by
 unfold World.cell? at h
 split at h
 ·rename_i c t fr hb
  split at h
  ·cases h
  ·rename_i hs
   obtain ⟨b, o, sp⟩ := a
   cases sp with
   | none => exact ⟨b, o, c, t, fr, rfl, hb⟩
   | some s => simp at hs
 ·cases h
end Go.Ost
namespace Go.Ost
open Go Go.ChangeShapes Go.WideShapes Go.ChangeAt Go.RowKit Go.Deep
variable {P : Program}
inductive FK | int (k : IntKind) | str | bool | bytes
def fkB (P : Program) (t : TypeId) : FK -> Bool
 | .int k => match P.underlying t with | some (.int k') => k' == k && P.cellsOf t == 1 | _ => false
 | .str => match P.underlying t with | some .string => P.cellsOf t == 1 | _ => false
 | .bool => match P.underlying t with | some .bool => P.cellsOf t == 1 | _ => false
 | .bytes => match P.underlying t with | some (.slice e) => (match P.underlying e with | some (.int k) => k == .u8 && P.cellsOf e == 1 && P.cellsOf t == 1 | _ => false) | _ => false
def kY (P : Program) : Nat -> List Field -> List FK -> Bool
 | _, [], [] => true
 | i, f :: fs, k :: ks => f.offset == i && (fkB P f.type k && kY P (i + 1) fs ks)
 | _, _, _ => false
def rowB (P : Program) (e : TypeId) (ks : List FK) : Bool :=
 match P.underlying e with
 | some (.struct fs) => kY P 0 fs.toList ks && (P.cellsOf e == ks.length && decide (0 < ks.length))
 | _ => false
section
variable {H : Type} {enc : TypeId × Value -> H} {W : World} {C : Chunk}
end
end Go.Ost
namespace Go.Ost
open Go
variable {P : Program}
section bits
variable {t : TypeId} {x y : Operand} {a b n : Int} {j : IntKind} {κ : Value -> Prop}
theorem i32_and (a0 : 0 <= a) (a1 : a <= 2147483647) (b0 : 0 <= b) (b1 : b <= 2147483647) : PureW P (do eqGuard .and t x y (.int .i32 a) (.int .i32 b); binOp .and t (.int .i32 a) (.int .i32 b)) κ = κ (.int .i32 ((a.toNat &&& b.toNat : Nat) : Int)) :=
 zm (fun w => by
  obtain ⟨m, rfl⟩ : ∃ m : Nat, a = m := ⟨a.toNat, by omega⟩;obtain ⟨k, rfl⟩ : ∃ k : Nat, b = k := ⟨b.toNat, by omega⟩;have hle : m &&& k <= m := Nat.and_le_left
  show Result.ok (Value.int .i32 (IntKind.i32.wrap ((bB 32 (m : Int) &&& bB 32 (k : Int)).toNat : Int))) w = _
  rw [BitVec.ofInt_natCast, BitVec.ofInt_natCast, BitVec.toNat_and, cW, cW, cU (by omega), cU (by omega), kq (by omega) (by omega)]
  rfl) κ
theorem i32_or (a0 : 0 <= a) (a1 : a <= 2147483647) (b0 : 0 <= b) (b1 : b <= 2147483647) : PureW P (do eqGuard .or t x y (.int .i32 a) (.int .i32 b); binOp .or t (.int .i32 a) (.int .i32 b)) κ = κ (.int .i32 ((a.toNat ||| b.toNat : Nat) : Int)) :=
 zm (fun w => by
  obtain ⟨m, rfl⟩ : ∃ m : Nat, a = m := ⟨a.toNat, by omega⟩;obtain ⟨k, rfl⟩ : ∃ k : Nat, b = k := ⟨b.toNat, by omega⟩;have hle : m ||| k < 2 ^ 31 := Nat.or_lt_two_pow (by omega) (by omega)
  show Result.ok (Value.int .i32 (IntKind.i32.wrap ((bB 32 (m : Int) ||| bB 32 (k : Int)).toNat : Int))) w = _
  rw [BitVec.ofInt_natCast, BitVec.ofInt_natCast, BitVec.toNat_or, cW, cW, cU (by omega), cU (by omega), kq (by omega) (by omega)]
  rfl) κ
theorem i32_shl6 (a0 : 0 <= a) (a1 : a <= 33554431) : PureW P (do eqGuard .shl t x y (.int .i32 a) (.int j 6); binOp .shl t (.int .i32 a) (.int j 6)) κ = κ (.int .i32 (a * 64)) :=
 zm (fun w => by
  have e : min (6 : Int).toNat IntKind.i32.bits = 6 := rfl
  show (Op.shift .shl .i32 a j 6).run P w = _
  rw [Op.shift, if_neg (by decide), e]
  show Result.ok (Value.int .i32 (IntKind.i32.wrap (a * 2 ^ 6))) w = _
  rw [show (2 : Int) ^ 6 = 64 from rfl, kq (by omega) (by omega)]) κ
theorem i32_shr (a0 : 0 <= a) (h0 : 0 <= n) (h1 : n <= 32) : PureW P (do eqGuard .shr t x y (.int .i32 a) (.int j n); binOp .shr t (.int .i32 a) (.int j n)) κ = κ (.int .i32 ((a.toNat / 2 ^ n.toNat : Nat) : Int)) :=
 zm (fun w => by
  obtain ⟨m, rfl⟩ : ∃ m : Nat, a = m := ⟨a.toNat, by omega⟩;have e : min n.toNat IntKind.i32.bits = n.toNat := by show min n.toNat 32 = n.toNat; omega
  have h3 : ¬ n < 0 := by omega
  show (Op.shift .shr .i32 m j n).run P w = _
  rw [Op.shift, if_neg h3, e]
  show Result.ok (Value.int .i32 (Int.fdiv m (2 ^ n.toNat))) w = _
  rw [Int.fdiv_eq_ediv_of_nonneg _ (Int.le_of_lt (Int.pow_pos (by decide)))]
  simp) κ
theorem IB (m : Nat) : Value.int .u8 (IntKind.u8.wrap (m : Int)) = b8 (aH m) := by rw [qt]; rfl
theorem cq_b8_i32 {s d : TypeId} [hs : TInt P s .u8] [hd : TInt P d .i32] {x : UInt8} {κ : Value -> Prop} : PureW P (convert s d (b8 x)) κ = κ (.int .i32 x.toNat) := by
 have hx := x.toNat_lt
 show PureW P (convert s d (.int .u8 (x.toNat : Int))) κ = _
 rw [jo, kq (by omega) (by omega)]
theorem WQ {s d : TypeId} [hs : TInt P s .u8] [hd : TInt P d .i32] {x : UInt8} {S : State} {κ : Value -> State -> Prop} : ConvW P s d (b8 x) S κ = κ (.int .i32 x.toNat) S := by
 have hx := x.toNat_lt;exact WO (kq (by omega) (by omega))
theorem IC {c : UInt8} {m : Nat} (h : c.toNat = m) (h1 : 128 <= m) (h2 : m <= 255) : PureW P (do eqGuard .sub t x y (b8 c) (.int .u8 128); binOp .sub t (b8 c) (.int .u8 128)) κ = κ (.int .u8 ((m - 128 : Nat) : Int)) := by
 show PureW P (do eqGuard .sub t x y (.int .u8 (c.toNat : Int)) (.int .u8 128); binOp .sub t (.int .u8 (c.toNat : Int)) (.int .u8 128)) κ = _
 rw [Yc, VP (by omega) (by omega), h]
 congr 2; omega
end bits
theorem arr_el {t e n s by_ : Nat} {z : Value} {cs : Array Value} {k : IntKind} {i : Int} {κ : Value -> Prop} [h : TArr P t n e] [hs : zh P e z s by_] [hd : xQ P e] (h0 : 0 <= i) (h1 : i < n) :
  PureW P (Instr.index t (.agg cs) (.int k i)) κ = κ (.agg (cs.extract (i.toNat * s) (i.toNat * s + s))) :=
 zm (fun w => by
  simp [Instr.index, asIntOf, Sem.run_bind, zx h.und, Result.andThen, zt hs, h0, h1, part, qV hd]) κ
theorem Yi {t e n s by_ : Nat} {z : Value} {b o : Nat} {κ : Value -> Prop} [h : TArr P t n e] [hs : zh P e z s by_] :
  PureW P (Instr.sliceAt t (.pointer (some ⟨b, o, none⟩)) none none none) κ = κ (.slice (some ⟨b, o, none⟩) n n) :=
 zm (fun w => by
  simp only [Instr.sliceAt, Sem.run_bind, zx h.und, Result.andThen, Instr.sureAddr, Instr.sliceBounds, Sem.run_pure, zt hs]
  by_cases hn : n = 0 <;> simp [hn, add_mk]) κ
theorem JB {C : Chunk} {b : Nat} {vs : List Value} {t : TypeId} {m : Nat × Nat} {s len : Nat} (h : (b, Obj.cells vs.toArray t m) ∈ C) (hl : vs.length = len * s) : Rd s [C] (some ⟨b, 0, none⟩) len vs :=
 ⟨hl, fun _ => ⟨b, 0, vs.toArray, t, m, rfl, .here h, fun i hi => by simp⟩⟩
theorem JO {b : Nat} {o : Obj} {C : Chunk} {S : State} (h : (b, o) ∈ C) (hm : C ∈ S) : Lies b o S := Lies.sub (.here h) hm
def Io {α : Type} (L pre : List α) (x : α) : Prop := ∃ post, L = pre ++ x :: post
end Go.Ost
namespace Go.Ost
open Go
variable {P : Program}
class TUns (P : Program) (t : TypeId) : Prop where
 und : P.underlying t = some .unsafePointer
class TLies (P : Program) (u : TypeId) : Prop where
 lies : ∃ j, P.info? u = some j /\ j.size = 2 /\ liesAt P P.depth u (2 / P.cellsOf u) 0 u 1 = true
theorem Jm {w : World} {b : Nat} {cs : Array Value} {e : TypeId} {m : Nat × Nat} (h : w.heap[b]? = some (.cells cs e m)) : w.shape? b = some (e, cs.size) := by
 simp [World.shape?, h]
theorem IF {s d u : TypeId} {S : State} {κ : Value -> State -> Prop} {b : Nat} {v1 v2 : Value} {m : Nat × Nat} [hs : TPtr P s u] [hd : TUns P d] [hu : TLies P u] (hl : Lies b (.cells #[v1, v2] u m) S) (k : κ (.pointer (some ⟨b, 0, none⟩)) S) :
  ConvW P s d (.pointer (some ⟨b, 0, none⟩)) S κ := by
 obtain ⟨j, h1, h2, h3⟩ := hu.lies;exact ⟨fun w hw => ⟨_, w, S, Lib.run_to_unsafe w ⟨b, 0, none⟩ hs.und hd.und h1 (by rw [h2]; decide) (Jm (hl.get hw)) (show 0 < 2 by decide), Ext.refl w, hw, k⟩⟩
theorem WG {s d u : TypeId} {S : State} {κ : Value -> State -> Prop} {b : Nat} {v1 v2 : Value} {m : Nat × Nat} [hs : TUns P s] [hd : TPtr P d u] [hu : TLies P u] (hl : Lies b (.cells #[v1, v2] u m) S) (k : κ (.pointer (some ⟨b, 0, none⟩)) S) :
  ConvW P s d (.pointer (some ⟨b, 0, none⟩)) S κ := by
 obtain ⟨j, h1, h2, h3⟩ := hu.lies;exact ⟨fun w hw => ⟨_, w, S, Lib.run_from_unsafe w ⟨b, 0, none⟩ hs.und hd.und h1 (Jm (hl.get hw)) h3, Ext.refl w, hw, k⟩⟩
theorem QO {t e : TypeId} {x y : Operand} {a : Addr} {κ : Value -> Prop} {z : Value} {s by_ : Nat} [h : TPtr P t e] [hs : zh P e z s by_] :
  PureW P (do eqGuard .neq t x y (.pointer (some a)) (.pointer (some a)); binOp .neq t (.pointer (some a)) (.pointer (some a))) κ = κ (.bool false) :=
 zm (fun w => by
  obtain ⟨j, hj, _⟩ := jf hs.info;have h1 := Lib.run_neq_ptr_same (P := P) w a h.und hj
  show (binOp .neq t (.pointer (some a)) (.pointer (some a))).run P w = _
  exact h1) κ
theorem UX {ats : Array TypeId} {ty : TypeId} {S : State} {κ : Value -> State -> Prop} {a : Option Addr} {n c : Nat} (hc : c ≠ 0 ∨ a = none) (k : κ (.pointer a) S) : ValW P (Builtin.unsafeSliceData_ ats ty #[.slice a n c]) S κ :=
 ⟨fun w hw => by
  cases a with
  | none => exact ⟨_, w, S, Lib.run_unsafeSliceData_nil w ats ty n c, Ext.refl w, hw, k⟩
  | some a => exact ⟨_, w, S, Lib.run_unsafeSliceData_row w ats ty a n c (by rcases hc with h | h; exact h; cases h), Ext.refl w, hw, k⟩⟩
theorem VT {pt it ty : TypeId} {S : State} {κ : Value -> State -> Prop} {p : Option Addr} (k : κ (.string (str [])) S) : ValW P (Builtin.unsafeString_ #[pt, it] ty #[.pointer p, .int .i64 0]) S κ :=
 ⟨fun w hw => ⟨_, w, S, Lib.run_unsafeString_none w pt it ty p, Ext.refl w, hw, k⟩⟩
theorem Xd {w : World} {pt it ty e : TypeId} (hp : P.underlying pt = some (.pointer e)) (hc : P.cellsOf e = 1) {g o cells : Nat} (hsh : w.shape? g = some (e, cells)) {l : List UInt8} (h0 : l ≠ []) (hn : o + l.length <= cells) (h63 : l.length <= 9223372036854775807)
  (hcell : ∀ j x, l[j]? = some x -> w.cell? ((⟨g, o, none⟩ : Addr).add j) = some (.int .u8 x.toNat)) :
  (Builtin.unsafeString_ #[pt, it] ty #[.pointer (some ⟨g, o, none⟩), .int .i64 l.length]).run P w = .ok (.string (str l)) (w.freeze ⟨g, o, none⟩ l.length) := by
 have hl : l.length ≠ 0 := by simpa using h0
 have hlb := Lib.run_loadBytes (P := P) w l ⟨g, o, none⟩ .empty hcell
 have hlies : liesAt P P.depth e (cells / P.cellsOf e) o e l.length = true := by
  have hd : P.depth = (2 * (P.types.size + Made.depth) + 1) + 1 := rfl;have hn2 : o + l.length <= cells / P.cellsOf e := by rw [hc, Nat.div_one]; exact hn
  rw [hd];simp only [liesAt, dP]
  left
  rw [hd];have hn3 : o + l.length <= cells := hn
  simp [rowAt, hc, Nat.div_one, Nat.mod_one, hn3, sameLayout]
 have h63' : ¬ (9223372036854775807 : Int) < (l.length : Int) := by omega
 have hdef : Builtin.unsafeString_ #[pt, it] ty #[.pointer (some ⟨g, o, none⟩), .int .i64 l.length] =
   (do
    let n <- asInt (.int .i64 l.length)
    if n < 0 then runtimePanic (.error "unsafe.String: len out of range")
    if n > IntKind.i64.max then unsupported (.unsafePointer "String: a length above the largest int")
    if n = 0 then pure (.string .empty)
    else if <- variablesAt ⟨g, o, none⟩ (<- elemOf pt) n.toNat then do
     let s <- loadBytes ⟨g, o, none⟩ .empty n.toNat
     freeze ⟨g, o, none⟩ n.toNat
     pure (.string s)
    else unsupported (.unsafePointer "String: not so many bytes at ptr")) := rfl
 rw [hdef];have hmax : IntKind.i64.max = 9223372036854775807 := rfl;have hneg : ¬ (l.length : Int) < 0 := by omega
 simp [asInt, asIntOf, hmax, h63', hneg, hl, variablesAt, hsh, elemOf, run_underlying hp, hlies, hlb, str]
theorem UN {pt it ty e : TypeId} {z : Value} {by_ : Nat} {S G : State} {κ : Value -> State -> Prop} {C : Chunk} {a : Option Addr} {cap : Nat} {l : List UInt8} [hp : TPtr P pt e] [he : zh P e z 1 by_]
  (ho : Own 1 e C a l.length cap (l.map b8)) (hpk : Pick C S G) (h0 : l ≠ []) (h63 : l.length <= 9223372036854775807) (k : κ (.string (str l)) G) : ValW P (Builtin.unsafeString_ #[pt, it] ty #[.pointer a, .int .i64 l.length]) S κ := by
 have hpos : 0 < l.length := List.length_pos_iff.2 h0;obtain ⟨b, o, cs, m, rfl, rfl, hsoft, hsz, hc⟩ := JH ho (by rw [bE]; exact hpos);obtain ⟨hle, _, _, _⟩ := ho;obtain ⟨j, hj, _, hj2, _⟩ := jf he.info;have hce : P.cellsOf e = 1 := by simp [Program.cellsOf, hj, hj2]
 refine ⟨fun w hw => ?_⟩;have hw2 := hw.perm hpk.perm;have hb : w.heap[b]? = some (.cells cs e m) := hw2.get b _ (by simp);obtain ⟨sz, hsz2⟩ : ∃ n, cs.size = n := ⟨_, rfl⟩
 have hcell : ∀ j x, l[j]? = some x -> w.cell? ((⟨b, o, none⟩ : Addr).add j) = some (.int .u8 x.toNat) := fun j x hx => by
  rw [add_mk, ZV hb, hc j (by rw [bE]; exact (List.getElem?_eq_some_iff.1 hx).1), cN, hx]; rfl
 refine ⟨.string (str l), w.freeze ⟨b, o, none⟩ l.length, G, ?_, ?_, ?_, k⟩
 ·exact Xd hp.und hce (Jm hb) h0 (by omega) h63 hcell
 ·unfold World.freeze
  split
  ·exact Ext.refl w
  ·exact ⟨rfl, rfl, rfl, by simp⟩
 ·refine (Hold.sub (S := [(b, .cells cs e m)] :: G) (T := G) hw2 (by simp)) |> fun hG => ⟨hG.nd, fun c p hm => ?_⟩
  have hne : c ≠ b := by
   intro hcb; subst hcb;have nd := hw2.nd;simp only [aO, cL, aZ, dS, aC, aD, List.nodup_cons] at nd;exact nd.1 (List.mem_map.2 ⟨(c, p), hm, rfl⟩)
  unfold World.freeze
  split
  ·exact hG.get c p hm
  ·show (w.heap.modify b _)[c]? = some p
   rw [Array.getElem?_modify, if_neg (Ne.symm hne)];exact hG.get c p hm
theorem app_str {t t2 ty e : TypeId} [ht : zR P t e] [ht2 : TStr P t2] [hs : zh P e (.int .u8 0) 1 1] {S G : State} {κ : Value -> State -> Prop} {C : Chunk}
  {a : Option Addr} {len cap : Nat} {bs xs : List UInt8} (ho : Own 1 e C a len cap (bs.map b8)) (hC : C = [] /\ G = S ∨ Pick C S G) (hm : len + xs.length <= 1000000)
  (k : ∀ C' a' cap', Own 1 e C' a' (len + xs.length) cap' ((bs ++ xs).map b8) -> κ (.slice a' (len + xs.length) cap') (C' :: G)) : ValW P (Builtin.append_ #[t, t2] ty #[.slice a len cap, .string (str xs)]) S κ := by
 have k : ∀ C' a' cap', Own 1 e C' a' (len + xs.length) cap' (bs.map b8 ++ xs.map b8) -> κ (.slice a' (len + xs.length) cap') (C' :: G) := fun C' a' cap' h => k C' a' cap' (by rw [cL]; exact h)
 have hlv : (xs.map b8).length = xs.length * 1 := by simp
 have h1 := VF xs
 have f2 : ∀ (w : World), (Builtin.firstCells 1 xs.length (.string (str xs))).run P w = .ok (xs.map b8).toArray w := fun w => by
  show Result.ok (((str xs).extract 0 xs.length).data.map fun b => Value.int .u8 b.toNat) w = _
  rw [Jk, bF, List.drop_zero]
  congr 1
  apply cS
  simp [str, b8]
 have hsz0 : (str xs).size = xs.length := rfl;have hz : (Value.int .u8 0).cells.size = 1 := rfl;have h0 : 0 < 1 := Nat.one_pos;obtain ⟨us, hus⟩ : ∃ us, bs.map b8 = us := ⟨_, rfl⟩;rw [hus] at ho k;obtain ⟨vs, hvs⟩ : ∃ vs, xs.map b8 = vs := ⟨_, rfl⟩;rw [hvs] at k hlv h1;have f2 : ∀ (w : World), (Builtin.firstCells 1 xs.length (.string (str xs))).run P w = .ok vs.toArray w := fun w => by rw [f2 w, hvs]
 obtain ⟨n, hn0⟩ : ∃ n, xs.length = n := ⟨_, rfl⟩;rw [hn0] at hm k hlv f2 hsz0;have hm0 : len + n <= maxLen := by simp only [maxLen]; omega
 have hb : (len + n) * 1 <= 140737488355328 := by omega
 refine ⟨fun w hw => ?_⟩
 have hCG : Hold w (C :: G) := by
  rcases hC with ⟨rfl, rfl⟩ | hp
  ·exact hw.perm (by simp)
  ·exact hw.perm hp.perm
 have hrd : Rd 1 (C :: G) a len us := ho.rd (aB ..);have f1 := fun (w : World) hw => kw (P := P) (s := 1) (c := cap) hrd (w := w) hw
 obtain ⟨i, hi, hz1, hsz, hby⟩ := jf hs.info;obtain ⟨hle, hmax, hlen, hcase⟩ := ho
 by_cases hroom : len + n <= cap
 ·rcases hcase with ⟨rfl, rfl⟩ | ⟨b', o, cs, m, rfl, rfl, hsoft, hbig, hcs⟩
  ·obtain rfl : len = 0 := by omega
   obtain rfl : n = 0 := by omega
   obtain rfl : us = [] := List.length_eq_zero_iff.1 (by simpa using hlen);obtain rfl : vs = [] := List.length_eq_zero_iff.1 (by simpa using hlv);refine ⟨.slice a 0 0, w, _, ?_, Ext.refl w, hCG, k [] a 0 ⟨aR _, Nat.zero_le _, by simp, .inl ⟨rfl, rfl⟩⟩⟩
   cases a <;> simp [Builtin.append_, Sem.run_bind, zx ht.und, zx ht2.und, zt hs, Result.andThen, Builtin.lenOf, f2 w, hsz0, storeCells]
  ·have hg : w.heap[b']? = some (.cells cs e m) := hCG.get _ _ (by simp)
   obtain ⟨w', q1, q2, q3, q4⟩ := xz (P := P) (b := b') (o := o + len * 1) vs 0 w cs hg h1 (by
    have : (len + n) * 1 <= cap * 1 := cF 1 hroom;rw [cP] at this;omega) hsoft.or
   rw [Nat.mul_one] at q1;refine ⟨.slice (some ⟨b', o, none⟩) (len + n) cap, w', _, ?_, q2, (Upd.one (S := G)).hold hCG q3 q4, k _ _ cap ⟨hroom, hmax, ?_, .inr ⟨b', o, _, m, rfl, rfl, by rw [xg]; exact hsoft, ?_, ?_⟩⟩⟩
   ·simp [Builtin.append_, Sem.run_bind, zx ht.und, zx ht2.und, zt hs, Result.andThen, Builtin.lenOf, f2 w, hsz0, hroom, add_mk, q1]
   ·rw [aA, hlen, hlv, cP]
   ·rw [xg]; exact hbig
   ·intro j hj;rw [aA] at hj;have hmul : (len + n) * 1 <= cap * 1 := cF 1 hroom;rw [cP] at hmul;rw [qQ _ _ _ _ (by omega)]
    by_cases hlt : j < us.length
    ·rw [if_neg (by omega), hcs j hlt, cT hlt]
    ·rw [if_pos (by omega), bR (by omega)]
     congr 1; omega
 ·have hge := grownCap_ge w (len + n) cap e;have hcm := grownCap_le_maxLen w (len + n) cap e hm0;have hn : ¬ (len + n <= cap) := hroom;have h63' : ¬ (9223372036854775807 < ((len : Int) + (n : Int))) := by simp only [maxLen] at hm0; omega
  have h48' : ¬ (281474976710656 < Builtin.nextslicecap (len + n) cap * i.bytes) := by
   rw [hby];have := growslice_fits (by omega : cap < len + n) hb;omega
  have f1' := f1 w.drew ⟨hCG.nd, hCG.get⟩;have f2' := f2 w.drew;obtain ⟨cells, hcells⟩ : ∃ cells : Array Value, cells = us.toArray ++ vs.toArray ++ Builtin.zeroCells (Value.int .u8 0).cells (grownCap w (len + n) cap e - (len + n)) := ⟨_, rfl⟩;refine ⟨.slice (some ⟨w.heap.size, 0, none⟩) (len + n) (grownCap w (len + n) cap e), w.drew.alloc (.cells cells e), [(w.heap.size, .cells cells e (0, 0))] :: G, ?_, ⟨rfl, rfl, rfl, by simp⟩, ?_, k _ _ _ ⟨hge, hcm, ?_, .inr ⟨_, 0, cells, (0, 0), rfl, rfl, .inl rfl, ?_, ?_⟩⟩⟩
  ·rw [hcells]
   simp [Builtin.append_, Sem.run_bind, zx ht.und, zx ht2.und, zt hs, zD hs, Result.andThen, typeInfo, program, Sem.run, hi, hn, h63', h48', Question.forced, Builtin.lenOf, f1', f2', hsz0, newRow, newObj, grownCap, choose]
   generalize Builtin.zeroCells _ _ = X;rw [show us.toArray ++ (vs.toArray ++ X) = (us ++ vs).toArray ++ X from by apply cS; simp]
   rfl
  ·refine Hold.new (w := w) (o := .cells cells e (0, 0)) ?_ rfl;exact hCG.sub (by simp)
  ·rw [aA, hlen, hlv, cP]
  ·rw [hcells];simp only [Array.size_append, List.size_toArray, size_zeroCells, hz, hlen, hlv, <- cP];rw [cD];exact cF 1 (by omega)
  ·intro j hj;rw [hcells, cD, Array.getElem?_append_left (by simpa using hj)]
   simp
end Go.Ost
namespace Go.Ost
open Go
def Vals (B : Chunk) (vs : List Value) (ls : List (List UInt8)) : Prop := vs.length = ls.length /\ ∀ (i : Nat) (v : Value) (l : List UInt8), vs[i]? = some v -> ls[i]? = some l -> ∃ p c, v = .slice p l.length c /\ l.length <= c /\ Rd 1 [B] p l.length (l.map b8)
theorem Vals.wide {B D : Chunk} {vs : List Value} {ls : List (List UInt8)} (h : Vals B vs ls) (hm : ∀ x ∈ B, x ∈ D) : Vals D vs ls :=
 ⟨h.1, fun i v l hv hl => let ⟨p, c, h1, h2, h3⟩ := h.2 i v l hv hl; ⟨p, c, h1, h2, h3.wide hm⟩⟩
theorem Vals.snoc {B : Chunk} {vs : List Value} {ls : List (List UInt8)} (h : Vals B vs ls) {p : Option Addr} {c : Nat} {l : List UInt8} (hc : l.length <= c) (hr : Rd 1 [B] p l.length (l.map b8)) : Vals B (vs ++ [.slice p l.length c]) (ls ++ [l]) := by
 refine ⟨by simp [h.1], fun i v l' hv hl => ?_⟩;have hl1 := h.1
 by_cases hi : i < vs.length
 ·rw [cT hi] at hv;rw [cT (by omega)] at hl;exact h.2 i v l' hv hl
 ·rw [bR (by omega)] at hv hl;rw [hl1] at hv;generalize i - ls.length = j at hv hl
  match j, hv, hl with
  | 0, hv, hl => cases hv; cases hl; exact ⟨p, c, rfl, hc, hr⟩
  | j + 1, hv, hl => simp at hv
theorem vals_nil {B : Chunk} : Vals B [] [] := ⟨rfl, fun i v l hv => by simp at hv⟩
theorem yN {e : TypeId} {D B : Chunk} {a : Option Addr} {n cap : Nat} {vs : List Value} {ls : List (List UInt8)} (ho : Own 1 e D a n cap vs) (hv : Vals B vs ls) : we [D ++ B] a n ls := by
 have h1 := hv.1;have h2 : vs.length = n := by have := ho.2.2.1; omega
 exact ⟨by omega, vs, (ho.rd (S := [D]) (by simp)).wide (fun x hx => by simp [hx]), fun i v l h3 h4 => let ⟨p, c, e1, e2, e3⟩ := hv.2 i v l h3 h4; ⟨p, c, e1, e2, e3.wide (fun x hx => by simp [hx])⟩⟩
theorem Rd.wide1 {H : Chunk} {a : Option Addr} {n : Nat} {us : List Value} (D : Chunk) (h : Rd 1 [H] a n us) : Rd 1 [H ++ D] a n us := h.wide (fun x hx => by simp [hx])
theorem Rd.wide2 {H : Chunk} {a : Option Addr} {n : Nat} {us : List Value} (D : Chunk) (h : Rd 1 [H] a n us) : Rd 1 [D ++ H] a n us := h.wide (fun x hx => by simp [hx])
end Go.Ost
namespace Go.Sha
theorem four (bs : List UInt8) (l : Nat) (h : l + 4 <= bs.length) : (bs.drop l).take 4 = [bs.getD l 0, bs.getD (l + 1) 0, bs.getD (l + 2) 0, bs.getD (l + 3) 0] := by
 apply List.ext_getElem?
 intro i;rw [List.getElem?_take]
 match i with
 | 0 => simp [cY, aF (show l < bs.length by omega)]
 | 1 => simp [cY, aF (show l + 1 < bs.length by omega)]
 | 2 => simp [cY, aF (show l + 2 < bs.length by omega)]
 | 3 => simp [cY, aF (show l + 3 < bs.length by omega)]
 | i + 4 => rw [if_neg (by omega)]; simp
theorem wy (T : List UInt8) : (T.drop (64 * (T.length / 64))).length = T.length % 64 := by rw [aT]; omega
theorem Xj (x y : List UInt8) (hx : x.length % 64 = 0) (s : St) : Go.Sha.whole s (x ++ y) = Go.Sha.whole (Go.Sha.whole s x) y := by
 have key : ∀ (k : Nat) (s : St) (x y : List UInt8), x.length = 64 * k -> ∀ j, run (k + j) s (x ++ y) = run j (run k s x) y := by
  intro k
  induction k with
  | zero =>
   intro s x y hx j;have h0 : x = [] := List.length_eq_zero_iff.1 (by simpa using hx);subst h0; simp [run]
  | succ k ih =>
   intro s x y hx j;rw [show k + 1 + j = (k + j) + 1 from by omega]
   show run (k + j) (Go.Sha.step odd s ((x ++ y).take 64)) ((x ++ y).drop 64) = run j (run k (Go.Sha.step odd s (x.take 64)) (x.drop 64)) y
   rw [List.take_append_of_le_length (by omega), List.drop_append_of_le_length (by omega)];exact ih _ _ _ (by rw [aT]; omega) j
 have h1 : (x ++ y).length / 64 = x.length / 64 + y.length / 64 := by rw [aA]; omega
 unfold Go.Sha.whole;rw [h1];exact key (x.length / 64) s x y (by omega) _
theorem Yo (x y : List UInt8) (s : St) : Go.Sha.whole s (x ++ y) = Go.Sha.whole (Go.Sha.whole s x) (x.drop (64 * (x.length / 64)) ++ y) := by
 have e : x = x.take (64 * (x.length / 64)) ++ x.drop (64 * (x.length / 64)) := (cR _ _).symm;have hl : (x.take (64 * (x.length / 64))).length = 64 * (x.length / 64) := by rw [aU]; omega
 have hw : Go.Sha.whole s x = Go.Sha.whole s (x.take (64 * (x.length / 64))) := by
  have h2 : Go.Sha.whole s (x.take (64 * (x.length / 64)) ++ x.drop (64 * (x.length / 64))) = Go.Sha.whole (Go.Sha.whole s (x.take (64 * (x.length / 64)))) (x.drop (64 * (x.length / 64))) := Xj _ _ (by rw [hl]; omega) s;rw [<- e] at h2;rw [h2];unfold Go.Sha.whole;rw [wy, show x.length % 64 / 64 = 0 from by omega]; rfl
 rw [hw]
 conv => lhs; rw [e, aM]
 exact Xj _ _ (by rw [hl]; omega) s
theorem rest_on (x y : List UInt8) : (x.drop (64 * (x.length / 64)) ++ y).drop (64 * ((x.drop (64 * (x.length / 64)) ++ y).length / 64)) = (x ++ y).drop (64 * ((x ++ y).length / 64)) := by
 have e : x.drop (64 * (x.length / 64)) ++ y = (x ++ y).drop (64 * (x.length / 64)) := (List.drop_append_of_le_length (by omega)).symm;rw [e, dL]
 congr 1
 rw [aT, aA];omega
end Go.Sha
namespace Go.Ost
open Go
variable {P : Program}
theorem Among.perm {T S : State} (h : Among T S) : ∃ R : State, S.flatten.Perm (T ++ R).flatten := by
 induction h with
 | nil S => exact ⟨S, List.Perm.refl _⟩
 | cons h k ih =>
  obtain ⟨R, hR⟩ := ih;refine ⟨R, h.perm.trans ?_⟩;simp only [aO, aC];exact List.Perm.append_left _ hR
theorem JG (c : Chunk) : ∀ (X A : State), Pick c (X ++ c :: A) (X ++ A)
 | [], A => .head c A
 | d :: X, A => .tail d (JG c X A)
theorem Qp : ∀ (A X : State), Take A (X ++ A) X
 | [], X => by rw [aL]; exact .nil X
 | c :: A, X => .cons (JG c X A) (Qp A X)
theorem XZ : ∀ (A X : State), Among A (X ++ A)
 | [], X => .nil _
 | c :: A, X => .cons (JG c X A) (XZ A X)
theorem Meets.conv {f : FuncId} {args : List Value} {A B : State} {R R' : Value -> State -> Prop} (SA : State) {E : State} (h : Meets P f args A R) (hB : B.flatten = SA.flatten) (hT : Take A SA E)
  (hR : ∀ v A', R v A' -> ∃ (B' SB : State), B'.flatten = SB.flatten /\ Among SB (A' ++ E) /\ R' v B') : Meets P f args B R' := by
 refine ⟨h.1, fun F w hw => (h.2 (F ++ E.flatten) w (hw.perm ?_)).mono ?_⟩
 ·simp only [aO, aM];refine List.Perm.append_left F ?_;rw [hB];refine hT.perm.trans ?_;rw [bG];exact cG
 ·rintro e w' ⟨v, S, rfl, he, hh, A', rfl, hr⟩;obtain ⟨B', SB, e1, hA, hr'⟩ := hR v A' hr;refine ⟨v, F :: B', rfl, he, ?_, B', rfl, hr'⟩;obtain ⟨X, hX⟩ := hA.perm
  have hh2 : Hold w' (F :: (A' ++ E)) := hh.perm (by
   simp only [aO, bG, aM];exact List.Perm.append_left F cG)
  have hh3 : Hold w' (F :: (SB ++ X)) := hh2.perm (by
   simp only [aO];exact List.Perm.append_left F hX)
  refine hh3.sub ?_;simp only [aO, bG, e1];exact (List.Sublist.refl F).append (List.sublist_append_left _ _)
end Go.Ost
namespace Go.Nam
def sgn (r : Int) : Bool := decide (0 <= r) && decide (r <= 1114111) && (decide (r < 55296) || decide (57343 < r))
def isTail (c : UInt8) : Bool := decide (128 <= c.toNat) && decide (c.toNat <= 191)
def je : Nat -> Nat -> List UInt8 -> Option Nat
 | 0, r, _ => some r
 | _ + 1, _, [] => none
 | k + 1, r, c :: l => if isTail c then je k (r * 64 + (c.toNat - 128)) l else none
def jw (c : Nat) : Nat := if c < 128 then 1 else if 194 <= c /\ c <= 223 then 2 else if 224 <= c /\ c <= 239 then 3 else if 240 <= c /\ c <= 244 then 4 else 0
def fval (c : Nat) : Nat := if c < 128 then c else if c <= 223 then c - 192 else if c <= 239 then c - 224 else c - 240
def okR (n r : Nat) : Bool := !(decide (n = 3) && decide (r < 2048) || decide (n = 4) && decide (r < 65536) || decide (55296 <= r) && decide (r <= 57343) || decide (1114111 < r))
def dec : List UInt8 -> Int × Nat
 | [] => (-1, 1)
 | c :: l => if jw c.toNat = 0 then (-1, 1) else
  match je (jw c.toNat - 1) (fval c.toNat) l with
  | none => (-1, 1)
  | some r => if okR (jw c.toNat) r then ((r : Int), jw c.toNat) else (-1, 1)
theorem vt : ∀ (k r : Nat) (l : List UInt8) (q : Nat), je k r l = some q -> r * 64 ^ k <= q /\ q < (r + 1) * 64 ^ k
 | 0, r, l, q, h => by simp only [je, Option.some.injEq] at h; omega
 | k + 1, r, [], q, h => by cases h
 | k + 1, r, c :: l, q, h => by
  simp only [je] at h
  split at h
  ·rename_i hc
   simp only [isTail, aN, decide_eq_true_eq] at hc;have ih := vt k _ l q h;have e : (64 : Nat) ^ (k + 1) = 64 * 64 ^ k := by rw [Nat.pow_succ, Nat.mul_comm]
   generalize (64 : Nat) ^ k = w at *;rw [e];have h1 : r * (64 * w) = (r * 64) * w := by rw [Nat.mul_assoc]
   have h2 : (r + 1) * (64 * w) = ((r + 1) * 64) * w := by rw [Nat.mul_assoc]
   rw [h1, h2]
   constructor
   ·exact dN (cF w (by omega)) ih.1
   ·exact Nat.lt_of_lt_of_le ih.2 (cF w (by omega))
  ·cases h
theorem Zd : ∀ (k r : Nat) (l : List UInt8) (q : Nat), je k r l = some q -> k <= l.length
 | 0, r, l, q, h => Nat.zero_le _
 | k + 1, r, [], q, h => by cases h
 | k + 1, r, c :: l, q, h => by
  simp only [je] at h
  split at h
  ·have := Zd k _ l q h;simp only [aJ]; omega
  ·cases h
theorem Zc : ∀ (k r : Nat) (l : List UInt8), l.length < k -> je k r l = none := fun k r l h => by
 cases hq : je k r l with
 | none => rfl
 | some q => have := Zd k r l q hq; omega
theorem ZR (s : List UInt8) : 1 <= (dec s).2 := by
 unfold dec
 split
 ·exact aR _
 ·split
  ·exact aR _
  ·split
   ·exact aR _
   ·split
    ·simp only; omega
    ·exact aR _
theorem dec_len (c : UInt8) (l : List UInt8) : (dec (c :: l)).2 <= l.length + 1 := by
 simp only [dec]
 split
 ·simp
 ·split
  ·simp
  ·rename_i r hr
   split
   ·have := Zd _ _ _ _ hr; simp only; omega
   ·simp
theorem dec_rng (s : List UInt8) : -1 <= (dec s).1 /\ (dec s).1 <= 1114111 := by
 unfold dec
 split
 ·decide
 ·split
  ·decide
  ·split
   ·decide
   ·split
    ·rename_i h
     simp only [okR, Bool.not_eq_true', Bool.or_eq_false_iff, decide_eq_false_iff_not] at h;simp only; omega
    ·decide
def lo (i : Nat) : Nat := match i with | 0 => 0 | 1 => 192 | 2 => 224 | _ => 240
def hi (i : Nat) : Nat := match i with | 0 => 127 | 1 => 223 | 2 => 239 | _ => 247
def mk (i : Nat) : UInt8 := match i with | 0 => 128 | 1 => 224 | 2 => 240 | _ => 248
def ld (i : Nat) : UInt8 := match i with | 0 => 0 | 1 => 192 | 2 => 224 | _ => 240
def ls (i : Nat) : Int := match i with | 0 => 0 | 1 => 128 | 2 => 2048 | _ => 65536
def inr (i : Nat) (c : UInt8) : Bool := decide (lo i <= c.toNat) && decide (c.toNat <= hi i)
theorem all8 (p : UInt8 -> Bool) (h : (bC 256).all (fun n => p (aH n)) = true) (c : UInt8) : p c = true := by
 have := List.all_eq_true.1 h c.toNat (by have := c.toNat_lt; simp; exact this)
 rwa [UInt8.ofNat_toNat] at this
theorem OR (i : Nat) (h : i < 4) (c : UInt8) : (c &&& mk i != ld i) = !inr i c := by
 match i, h with
 | 0, _ => exact eq_of_beq (all8 (fun c => (c &&& mk 0 != ld 0) == !inr 0 c) (by decide +kernel) c)
 | 1, _ => exact eq_of_beq (all8 (fun c => (c &&& mk 1 != ld 1) == !inr 1 c) (by decide +kernel) c)
 | 2, _ => exact eq_of_beq (all8 (fun c => (c &&& mk 2 != ld 2) == !inr 2 c) (by decide +kernel) c)
 | 3, _ => exact eq_of_beq (all8 (fun c => (c &&& mk 3 != ld 3) == !inr 3 c) (by decide +kernel) c)
 | i + 4, h => omega
theorem form_val (i : Nat) (h : i < 4) (c : UInt8) (hc : inr i c = true) : (c &&& ~~~(mk i)).toNat = c.toNat - lo i := by
 match i, h with
 | 0, _ => have := all8 (fun c => !inr 0 c || (c &&& ~~~(mk 0)).toNat == c.toNat - lo 0) (by decide +kernel) c; rw [hc] at this; simpa using this
 | 1, _ => have := all8 (fun c => !inr 1 c || (c &&& ~~~(mk 1)).toNat == c.toNat - lo 1) (by decide +kernel) c; rw [hc] at this; simpa using this
 | 2, _ => have := all8 (fun c => !inr 2 c || (c &&& ~~~(mk 2)).toNat == c.toNat - lo 2) (by decide +kernel) c; rw [hc] at this; simpa using this
 | 3, _ => have := all8 (fun c => !inr 3 c || (c &&& ~~~(mk 3)).toNat == c.toNat - lo 3) (by decide +kernel) c; rw [hc] at this; simpa using this
 | i + 4, h => omega
theorem tail_val (c : UInt8) (hc : isTail c = true) : (c &&& 63).toNat = c.toNat - 128 := by
 have := all8 (fun c => !isTail c || (c &&& 63).toNat == c.toNat - 128) (by decide +kernel) c;rw [hc] at this; simpa using this
theorem vF (i : Nat) (h : i < 4) (c : UInt8) (l : List UInt8) (hc : inr i c = true) :
  dec (c :: l) = match je i (c.toNat - lo i) l with | none => (-1, 1) | some r => if decide (ls i <= (r : Int)) && sgn r then ((r : Int), i + 1) else (-1, 1) := by
 simp only [inr, aN, decide_eq_true_eq] at hc
 match i, h with
 | 0, _ =>
  simp only [lo, hi, Nat.zero_le, true_and, bI] at hc ⊢;have e1 : jw c.toNat = 1 := by unfold jw; rw [if_pos (by omega)]
  have e2 : fval c.toNat = c.toNat := by unfold fval; rw [if_pos (by omega)]
  have e3 : okR 1 c.toNat = true := by simp [okR]; omega
  have e4 : (decide (ls 0 <= (c.toNat : Int)) && sgn c.toNat) = true := by simp [ls, sgn]; omega
  simp only [dec, e1, e2];rw [if_neg (by omega)];rw [show (1 - 1 : Nat) = 0 from rfl];simp only [je, e3, e4, if_true]
 | 1, _ =>
  simp only [lo, hi] at hc ⊢
  by_cases h2 : 194 <= c.toNat
  ·have e1 : jw c.toNat = 2 := by unfold jw; rw [if_neg (by omega), if_pos (by omega)]
   have e2 : fval c.toNat = c.toNat - 192 := by unfold fval; rw [if_neg (by omega), if_pos (by omega)]
   simp only [dec, e1, e2];rw [if_neg (by omega)]
   cases hr : je (2 - 1) (c.toNat - 192) l with
   | none => rfl
   | some r =>
    have hb := vt _ _ _ _ hr;simp only [bH, Nat.pow_one] at hb;simp only;rw [if_pos (by simp [okR]; omega), if_pos (by simp [ls, sgn]; omega)]
  ·have e1 : jw c.toNat = 0 := by unfold jw; rw [if_neg (by omega), if_neg (by omega), if_neg (by omega), if_neg (by omega)]
   simp only [dec, e1, if_true]
   cases hr : je 1 (c.toNat - 192) l with
   | none => rfl
   | some r =>
    have hb := vt _ _ _ _ hr;simp only [Nat.pow_one] at hb;simp only;rw [if_neg (by simp [ls]; omega)]
 | 2, _ =>
  simp only [lo, hi] at hc ⊢;have e1 : jw c.toNat = 3 := by unfold jw; rw [if_neg (by omega), if_neg (by omega), if_pos (by omega)]
  have e2 : fval c.toNat = c.toNat - 224 := by unfold fval; rw [if_neg (by omega), if_neg (by omega), if_pos (by omega)]
  simp only [dec, e1, e2];rw [if_neg (by omega)]
  cases hr : je (3 - 1) (c.toNat - 224) l with
  | none => rfl
  | some r =>
   have hb := vt _ _ _ _ hr;simp only [bH, Nat.reducePow] at hb;simp only
   have e3 : okR 3 r = (decide (ls 2 <= (r : Int)) && sgn r) := by
    rw [Bool.eq_iff_iff]
    simp [okR, ls, sgn]; omega
   rw [e3]
 | 3, _ =>
  simp only [lo, hi] at hc ⊢
  by_cases h2 : c.toNat <= 244
  ·have e1 : jw c.toNat = 4 := by unfold jw; rw [if_neg (by omega), if_neg (by omega), if_neg (by omega), if_pos (by omega)]
   have e2 : fval c.toNat = c.toNat - 240 := by unfold fval; rw [if_neg (by omega), if_neg (by omega), if_neg (by omega)]
   simp only [dec, e1, e2];rw [if_neg (by omega)]
   cases hr : je (4 - 1) (c.toNat - 240) l with
   | none => rfl
   | some r =>
    have hb := vt _ _ _ _ hr;simp only [bH, Nat.reducePow] at hb;simp only
    have e3 : okR 4 r = (decide (ls 3 <= (r : Int)) && sgn r) := by
     rw [Bool.eq_iff_iff]
     simp [okR, ls, sgn]; omega
    rw [e3]
  ·have e1 : jw c.toNat = 0 := by unfold jw; rw [if_neg (by omega), if_neg (by omega), if_neg (by omega), if_neg (by omega)]
   simp only [dec, e1, if_true]
   cases hr : je 3 (c.toNat - 240) l with
   | none => rfl
   | some r =>
    have hb := vt _ _ _ _ hr;simp only [Nat.reducePow] at hb;simp only;rw [if_neg (by simp [ls, sgn]; omega)]
 | i + 4, h => omega
theorem form_none (c : UInt8) (l : List UInt8) (h : ∀ i, i < 4 -> inr i c = true -> l.length < i) : dec (c :: l) = (-1, 1) := by
 have key : ∀ i, i < 4 -> inr i c = true -> dec (c :: l) = (-1, 1) := fun i hi hc => by
  rw [vF i hi c l hc, Zc _ _ _ (h i hi hc)]
 by_cases h0 : inr 0 c = true
 ·exact key 0 (by omega) h0
 by_cases h1 : inr 1 c = true
 ·exact key 1 (by omega) h1
 by_cases h2 : inr 2 c = true
 ·exact key 2 (by omega) h2
 by_cases h3 : inr 3 c = true
 ·exact key 3 (by omega) h3
 have e1 : jw c.toNat = 0 := by
  simp [inr, lo, hi] at h0 h1 h2 h3
  have := c.toNat_lt;unfold jw; rw [if_neg (by omega), if_neg (by omega), if_neg (by omega), if_neg (by omega)]
 simp only [dec, e1, if_true]
def enc (r : Int) : List UInt8 :=
 if sgn r = false then [239, 191, 189]
 else if r < 128 then [aH r.toNat]
 else if r < 2048 then [aH (192 + r.toNat / 64), aH (128 + r.toNat % 64)]
 else if r < 65536 then [aH (224 + r.toNat / 4096), aH (128 + r.toNat / 64 % 64), aH (128 + r.toNat % 64)]
 else [aH (240 + r.toNat / 262144), aH (128 + r.toNat / 4096 % 64), aH (128 + r.toNat / 64 % 64), aH (128 + r.toNat % 64)]
theorem JZ (r : Int) : 1 <= (enc r).length /\ (enc r).length <= 4 := by
 unfold enc
 split
 ·constructor <;> simp only [aJ, aV] <;> omega
 ·split
  ·constructor <;> simp only [aJ, aV] <;> omega
  ·split
   ·constructor <;> simp only [aJ, aV] <;> omega
   ·split
    ·constructor <;> simp only [aJ, aV] <;> omega
    ·constructor <;> simp only [aJ, aV] <;> omega
theorem UQ (n r k : Nat) (l : List UInt8) (h : n < 64) : je (k + 1) r (aH (128 + n) :: l) = je k (r * 64 + n) l := by
 have e : (aH (128 + n)).toNat = 128 + n := by rw [bL]; omega
 simp only [je, isTail, e];rw [if_pos (by simp; omega), show 128 + n - 128 = n from by omega]
theorem dec_enc {r : Int} (h : sgn r = true) (l : List UInt8) : dec (enc r ++ l) = (r, (enc r).length) := by
 have h' := h;simp only [sgn, aN, dP, decide_eq_true_eq] at h';obtain ⟨n, rfl⟩ : ∃ n : Nat, r = n := ⟨r.toNat, by omega⟩;unfold enc;rw [if_neg (by rw [h]; simp)];simp only [aY]
 by_cases h1 : (n : Int) < 128
 ·rw [if_pos h1];have e : (aH n).toNat = n := by rw [bL]; omega
  rw [aC, aD, vF 0 (by omega) _ l (by simp [inr, lo, hi, e]; omega), e];simp only [je, lo, bI];rw [if_pos (by rw [h]; simp [ls])]
  rfl
 ·rw [if_neg h1]
  by_cases h2 : (n : Int) < 2048
  ·rw [if_pos h2];have e : (aH (192 + n / 64)).toNat = 192 + n / 64 := by rw [bL]; omega
   rw [aC, aC, aD, vF 1 (by omega) _ _ (by simp [inr, lo, hi, e]; omega), e, UQ _ _ _ _ (by omega)];simp only [je, lo];rw [show (192 + n / 64 - 192) * 64 + n % 64 = n from by omega, if_pos (by rw [h]; simp [ls]; omega)]
   rfl
  ·rw [if_neg h2]
   by_cases h3 : (n : Int) < 65536
   ·rw [if_pos h3];have e : (aH (224 + n / 4096)).toNat = 224 + n / 4096 := by rw [bL]; omega
    rw [aC, aC, aC, aD, vF 2 (by omega) _ _ (by simp [inr, lo, hi, e]; omega), e, UQ _ _ _ _ (by omega), UQ _ _ _ _ (by omega)];simp only [je, lo];rw [show ((224 + n / 4096 - 224) * 64 + n / 64 % 64) * 64 + n % 64 = n from by omega, if_pos (by rw [h]; simp [ls]; omega)]
    rfl
   ·rw [if_neg h3];have e : (aH (240 + n / 262144)).toNat = 240 + n / 262144 := by rw [bL]; omega
    rw [aC, aC, aC, aC, aD, vF 3 (by omega) _ _ (by simp [inr, lo, hi, e]; omega), e, UQ _ _ _ _ (by omega), UQ _ _ _ _ (by omega), UQ _ _ _ _ (by omega)];simp only [je, lo];rw [show (((240 + n / 262144 - 240) * 64 + n / 4096 % 64) * 64 + n / 64 % 64) * 64 + n % 64 = n from by omega, if_pos (by rw [h]; simp [ls]; omega)]
    rfl
theorem dec_sgn {s : List UInt8} (h : 0 <= (dec s).1) : sgn (dec s).1 = true := by
 unfold dec at h ⊢
 split at h
 ·exact absurd h (by decide)
 ·split at h
  ·exact absurd h (by decide)
  ·rename_i hz
   rw [if_neg hz]
   split at h
   ·exact absurd h (by decide)
   ·split at h
    ·rename_i ho
     rw [if_pos ho];simp only [okR, Bool.not_eq_true', Bool.or_eq_false_iff, Bool.and_eq_false_iff, decide_eq_false_iff_not] at ho;simp only [sgn, aN, dP, decide_eq_true_eq];omega
    ·exact absurd h (by decide)
def rs : List UInt8 -> List Int
 | [] => []
 | c :: l => (dec (c :: l)).1 :: rs ((c :: l).drop (dec (c :: l)).2)
termination_by s => s.length
decreasing_by
 have := ZR (c :: l);simp only [aT, aJ]; omega
def sg : Nat -> List UInt8 -> List (Nat × Int)
 | _, [] => []
 | a, c :: l => (a, (dec (c :: l)).1) :: sg (a + (dec (c :: l)).2) ((c :: l).drop (dec (c :: l)).2)
termination_by _ s => s.length
decreasing_by
 have := ZR (c :: l);simp only [aT, aJ]; omega
theorem kH : rs [] = [] := by rw [rs]
theorem Zp {s : List UInt8} (h : s ≠ []) : rs s = (dec s).1 :: rs (s.drop (dec s).2) := by
 cases s with
 | nil => exact absurd rfl h
 | cons c l => rw [rs]
theorem sg_nil (a : Nat) : sg a [] = [] := by rw [sg]
theorem Kn {s : List UInt8} (a : Nat) (h : s ≠ []) : sg a s = (a, (dec s).1) :: sg (a + (dec s).2) (s.drop (dec s).2) := by
 cases s with
 | nil => exact absurd rfl h
 | cons c l => rw [sg]
theorem Qa {s : List UInt8} (h : s ≠ []) : (s.drop (dec s).2).length < s.length := by
 have := ZR s;have : 0 < s.length := List.length_pos_iff.2 h;rw [aT]; omega
theorem UE {s : List UInt8} (h : s ≠ []) : (dec s).2 <= s.length := by
 cases s with
 | nil => exact absurd rfl h
 | cons c l => exact dec_len c l
theorem Qw : ∀ (n a : Nat) (s : List UInt8), s.length <= n -> (sg a s).map (·.2) = rs s
 | 0, a, s, h => by
  have : s = [] := List.length_eq_zero_iff.1 (by omega);subst this; rw [sg_nil, kH]; rfl
 | n + 1, a, s, h => by
  by_cases hs : s = []
  ·subst hs; rw [sg_nil, kH]; rfl
  ·have := Qa hs;rw [Kn a hs, Zp hs, aZ, Qw n _ _ (by omega)]
theorem sg_len (a : Nat) (s : List UInt8) : (sg a s).length = (rs s).length := by rw [<- Qw _ a s (aR _), bE]
theorem YP : ∀ (n : Nat) (s : List UInt8), s.length <= n -> (rs s).length <= s.length
 | 0, s, h => by
  have : s = [] := List.length_eq_zero_iff.1 (by omega);subst this; rw [kH]; exact aR _
 | n + 1, s, h => by
  by_cases hs : s = []
  ·subst hs; rw [kH]; exact aR _
  ·have := Qa hs;rw [Zp hs, aJ];have := YP n (s.drop (dec s).2) (by omega);omega
theorem rs_enc {r : Int} (h : sgn r = true) (t : List UInt8) : rs (enc r ++ t) = r :: rs t := by
 have hl := JZ r;rw [Zp (by intro e; have := congrArg cV e; rw [aA, aV] at this; omega), dec_enc h]
 simp
theorem rs_flat : ∀ L : List Int, (∀ r ∈ L, sgn r = true) -> rs (L.flatMap enc) = L
 | [], _ => kH
 | r :: L, h => by
  rw [bP, rs_enc (h r (aB ..)), rs_flat L fun x hx => h x (aK _ hx)]
theorem YO : ∀ (n : Nat) (s : List UInt8), s.length <= n -> ∀ r ∈ rs s, 0 <= r -> sgn r = true
 | 0, s, h, r, hr, _ => by
  have : s = [] := List.length_eq_zero_iff.1 (by omega);subst this; rw [kH] at hr; cases hr
 | n + 1, s, h, r, hr, h0 => by
  by_cases hs : s = []
  ·subst hs; rw [kH] at hr; cases hr
  ·have hd := Qa hs;rw [Zp hs] at hr
   rcases List.mem_cons.1 hr with rfl | hr
   ·exact dec_sgn h0
   ·exact YO n _ (by omega) r hr h0
theorem rs_rng : ∀ (n : Nat) (s : List UInt8), s.length <= n -> ∀ r ∈ rs s, -1 <= r /\ r <= 1114111
 | 0, s, h, r, hr => by
  have : s = [] := List.length_eq_zero_iff.1 (by omega);subst this; rw [kH] at hr; cases hr
 | n + 1, s, h, r, hr => by
  by_cases hs : s = []
  ·subst hs; rw [kH] at hr; cases hr
  ·have hd := Qa hs;rw [Zp hs] at hr
   rcases List.mem_cons.1 hr with rfl | hr
   ·exact dec_rng s
   ·exact rs_rng n _ (by omega) r hr
def within (r : Int) : List (Int × Int) -> Bool
 | [] => false
 | p :: l => (decide (p.1 <= r) && decide (r <= p.2)) || within r l
def blanks : List (Int × Int) := [(160, 160), (5760, 5760), (8192, 8202), (8239, 8239), (8287, 8287), (12288, 12288)]
def nothing : List (Int × Int) := [(173, 173), (8203, 8205), (8288, 8288), (65024, 65039), (65279, 65279)]
def barred : List (Int × Int) := [(0, 31), (127, 159), (8232, 8233), (8234, 8238), (8294, 8297), (57344, 63743), (983040, 1114111), (65529, 65533), (64976, 65007)]
def xD (r : Int) : Bool := within r blanks
def jd (r : Int) : Bool := within r nothing
def qI (r : Int) : Bool := within r barred || decide (65534 <= r % 65536)
def qD (r : Int) : List Int := if xD r then [32] else if jd r then [] else [r]
def keep (l : List Int) : List Int := l.flatMap qD
def prep (s : List UInt8) : List UInt8 × Int := if (rs s).any (fun r => decide (r < 0)) then ([], 4) else if (keep (rs s)).any qI then ([], 5) else ((keep (rs s)).flatMap enc, 0)
def prepL : List Int -> Option (List UInt8)
 | [] => some []
 | r :: l => if xD r then (prepL l).map (32 :: ·) else if jd r then prepL l else if qI r then none else (prepL l).map (enc r ++ ·)
theorem enc32 : enc 32 = [32] := by decide
theorem XB : ∀ l : List Int, prepL l = if (keep l).any qI then none else some ((keep l).flatMap enc)
 | [] => rfl
 | r :: l => by
  have ih := XB l;have e : keep (r :: l) = qD r ++ keep l := rfl;rw [e, prepL, List.any_append, cH, ih];unfold qD
  cases xD r with
  | true =>
   simp only [if_true];rw [show List.any [(32 : Int)] qI = false from by decide, dO]
   cases (keep l).any qI with
   | true => rfl
   | false => simp only [bP, List.flatMap_nil, enc32]; rfl
  | false =>
   cases jd r with
   | true => simp
   | false =>
    simp only [List.any_cons, List.any_nil, Bool.or_false, Bool.false_eq_true, if_false]
    cases qI r with
    | true => rfl
    | false =>
     cases (keep l).any qI with
     | true => rfl
     | false => simp
theorem keep_app (a b : List Int) : keep (a ++ b) = keep a ++ keep b := cH ..
theorem XI (r : Int) : ∀ x ∈ qD r, qD x = [x] /\ (x = r ∨ x = 32) := by
 intro x hx;unfold qD at hx
 cases hb : xD r with
 | true => rw [hb] at hx; simp at hx; subst hx; exact ⟨by decide, .inr rfl⟩
 | false =>
  rw [hb] at hx
  cases hg : jd r with
  | true => rw [hg] at hx; simp at hx
  | false =>
   rw [hg] at hx; simp at hx; subst hx;refine ⟨?_, .inl rfl⟩;unfold qD; rw [hb, hg]; rfl
theorem keep_keep : ∀ l : List Int, keep (keep l) = keep l := by
 have key : ∀ m : List Int, (∀ x ∈ m, qD x = [x]) -> keep m = m := by
  intro m
  induction m with
  | nil => intro _; rfl
  | cons x m ih =>
   intro h
   show qD x ++ keep m = x :: m
   rw [h x (aB ..), ih fun y hy => h y (aK _ hy)]; rfl
 intro l;refine key _ fun x hx => ?_
 obtain ⟨r, _, hr⟩ := List.mem_flatMap.1 hx;exact (XI r x hr).1
theorem Uo {l : List Int} (h : ∀ r ∈ l, sgn r = true) : ∀ r ∈ keep l, sgn r = true := by
 intro x hx;obtain ⟨r, hr1, hr2⟩ := List.mem_flatMap.1 hx
 rcases (XI r x hr2).2 with rfl | rfl
 ·exact h _ hr1
 ·decide
theorem Xa {l : List Int} : l.any (fun r => decide (r < 0)) = false ↔ ∀ r ∈ l, 0 <= r := by
 rw [List.any_eq_false]
 constructor
 ·intro h r hr; have := h r hr; simpa using this
 ·intro h r hr; have := h r hr; simpa using this
theorem Oa {r : Int} (h : sgn r = true) : 0 <= r := by
 simp only [sgn, aN, decide_eq_true_eq] at h; exact h.1.1
theorem prep_prep (s : List UInt8) : prep (prep s).1 = ((prep s).1, 0) /\ ((prep s).2 = 0 ∨ (prep s).1 = []) := by
 have hnil : prep [] = ([], 0) := by unfold prep; rw [kH]; rfl
 by_cases h1 : (rs s).any (fun r => decide (r < 0)) = true
 ·have e : prep s = ([], 4) := by unfold prep; rw [if_pos h1]
  rw [e]; exact ⟨hnil, .inr rfl⟩
 ·have h1' : (rs s).any (fun r => decide (r < 0)) = false := by simpa using h1
  by_cases h2 : (keep (rs s)).any qI = true
  ·have e : prep s = ([], 5) := by unfold prep; rw [if_neg h1, if_pos h2]
   rw [e]; exact ⟨hnil, .inr rfl⟩
  ·have e : prep s = ((keep (rs s)).flatMap enc, 0) := by unfold prep; rw [if_neg h1, if_neg h2]
   rw [e];refine ⟨?_, .inl rfl⟩;have hs : ∀ r ∈ keep (rs s), sgn r = true := Uo fun r hr => YO _ s (aR _) r hr (Xa.1 h1' r hr)
   show prep ((keep (rs s)).flatMap enc) = ((keep (rs s)).flatMap enc, 0)
   unfold prep;rw [rs_flat _ hs, keep_keep, if_neg, if_neg h2];rw [Xa.2 fun r hr => Oa (hs r hr)]; simp
def xR (s : List UInt8) (most : Nat) : List UInt8 × Int := if (prep s).2 ≠ 0 then ([], (prep s).2) else if (prep s).1 = [] then ([], 2) else if most < (prep s).1.length then ([], 3) else ((prep s).1, 0)
def kI (c : UInt8) : Bool := (decide (97 <= c.toNat) && decide (c.toNat <= 122)) || (decide (48 <= c.toNat) && decide (c.toNat <= 57)) || c == 45 || c == 95
def vd (s : List UInt8) : Bool := s.all kI && (decide (1 <= s.length) && decide (s.length <= 32))
theorem plain_dec (c : UInt8) (l : List UInt8) (h : c.toNat < 128) : dec (c :: l) = ((c.toNat : Int), 1) := by
 rw [vF 0 (by omega) c l (by simp [inr, lo, hi]; omega)];simp only [je, lo, bI];rw [if_pos (by simp [ls, sgn]; omega)]
end Go.Nam
namespace Go.Ost
open Go
variable {P : Program}
inductive EK | i | s | b
def ekB (P : Program) (t : TypeId) : EK -> Bool
 | .i => match P.underlying t with | some (.int _) => true | _ => false
 | .s => match P.underlying t with | some .string => true | _ => false
 | .b => match P.underlying t with | some .bool => true | _ => false
def Vr (P : Program) : Nat -> List Field -> List EK -> Bool
 | _, [], [] => true
 | i, f :: fs, k :: ks => f.name != "_" && (f.offset == i && (ekB P f.type k && Vr P (i + 1) fs ks))
 | _, _, _ => false
def eqB (P : Program) (t : TypeId) (ks : List EK) : Bool :=
 match P.underlying t with
 | some (.struct fs) => Vr P 0 fs.toList ks && (!P.stoodInHeld t && !P.eqGuardType P.depth t)
 | _ => false
class TEq (P : Program) (t : TypeId) (ks : outParam (List EK)) : Prop where
 ok : eqB P t ks = true
section rules
variable {t : TypeId} {ks : List EK} {x y : Operand} {xs ys : List Value} {r : Bool} {κ : Value -> Prop}
end rules
end Go.Ost
namespace Go.Sha
end Go.Sha
namespace Go.Ost
open Go
variable {P : Program} {n : Nat} {ro : Option Nat}
def afterX (ops : Array Oper) (e1 e2 i : Nat) : List Nat := if i = e2 then e1 :: xX ops i else xX ops i
def Ig (ops : Array Oper) (e1 e2 : Nat) (A : List (List Nat)) : Bool :=
 (bC ops.size).all fun i => (A.getD i []).all fun j => (afterX ops e1 e2 i).any fun e => e == j || (A.getD e []).contains j
theorem jV {ops : Array Oper} {A : List (List Nat)} {K : Cont} {D : List Nat} {w0 : World} {pre l : List Entry} {listed : Array Bool} {L : Env} {S : State} {a : Act} {w : World} (h : DInv P n ops A (K .normal D) D w0 pre l listed L S a w) (hr : Region.ready .any ops listed = []) : KQ n K w0 .normal a w := by
 obtain ⟨pre, l, L, h, hl⟩ := h.norm
 have ready : ∀ i, i < ops.size -> (∀ j ∈ xX ops i, listed.getD j false = true) -> listed.getD i false = true := by
  intro i hi hall
  cases hx : listed.getD i false with
  | true => rfl
  | false =>
   exfalso
   have : i ∈ Region.ready .any ops listed := by
    refine List.mem_filter.2 ⟨List.mem_range.2 hi, ?_⟩;have hsz : i < listed.size := by rw [h.size]; exact hi
    have h1 : listed.getD i true = false := by simpa [Array.getD_eq_getD_getElem?, hsz] using hx
    have ho : ops[i]? = some ops[i] := by simp [hi]
    rw [h1, ho];simp only [dE, cI, Bool.not_false, dM];rw [Array.all_eq_true'];intro e he
    by_cases hb : Region.binds .any e = true
    ·have := hall e.on (by simp only [xX, ho]; exact List.mem_map.2 ⟨e, List.mem_filter.2 ⟨by simpa using he, hb⟩, rfl⟩)
     simp [this]
    ·simp [hb]
   rw [hr] at this; cases this
 have pend : ∀ (k : Nat) (x : Entry), pre[k]? = some x -> listed.getD x.1 false = true := by
  intro k
  induction k using Nat.strongRecOn with
  | _ k ih =>
   intro x hx;obtain ⟨o1, _, _, _, _, o6⟩ := xb (kS pre [] k h.pres hx);refine ready x.1 o6 fun j hj => ?_
   obtain ⟨y, hy, e⟩ := o1 j hj;rw [aD] at hy;obtain ⟨k', hk'⟩ := List.mem_iff_getElem?.1 hy
   have hlt : k' < k := by
    have := (List.getElem?_eq_some_iff.1 hk').1
    simp at this; omega
   rw [<- e];refine ih k' hlt y ?_;rw [cX hlt] at hk';exact hk'
 rcases hl with rfl | ⟨i, pd, l'', rfl⟩
 ·refine ⟨D, L, S, h.rest, ⟨h.asz, fun t v ht => ?_, h.dfr⟩, h.ext, h.hold⟩
  rcases h.tmps t v ht with ⟨x, hx, h1, _⟩ | h3
  ·obtain ⟨k, hk⟩ := List.mem_iff_getElem?.1 hx;rw [pend k x hk] at h1; cases h1
  ·exact h3
 ·exfalso
  have hok := h.ok;simp only [xi, aN] at hok;obtain ⟨o1, _, o3, _, _, o6⟩ := xb hok.1
  have hi : listed.getD i false = true := by
   refine ready i o6 fun j hj => ?_
   obtain ⟨y, hy, e⟩ := o1 j hj;obtain ⟨k, hk⟩ := List.mem_iff_getElem?.1 hy;rw [<- e]; exact pend k y hk
  obtain ⟨y, hy, e⟩ := h.inPre i hi;exact o3 y hy e
theorem vW {ops : Array Oper} {listed : Array Bool} {i : Nat} (hs : listed.size = ops.size) (hi : i ∈ Region.ready .any ops listed) :
  ∃ him : i < ops.size, listed.getD i false = false /\ ∀ j ∈ xX ops i, listed.getD j false = true := by
 obtain ⟨hi1, hi2⟩ := List.mem_filter.1 hi;have him := List.mem_range.1 hi1;have hsz : i < listed.size := by rw [hs]; exact him
 have ho : ops[i]? = some ops[i] := by simp [him]
 rw [ho] at hi2;simp only [dE, cI, aN, Bool.not_eq_true'] at hi2;refine ⟨him, ?_, ?_⟩
 ·have := hi2.1
  simpa [Array.getD_eq_getD_getElem?, hsz] using this
 ·intro j hj;simp only [xX, ho] at hj;obtain ⟨e, he, rfl⟩ := List.mem_map.1 hj;obtain ⟨he1, he2⟩ := List.mem_filter.1 he;have := hi2.2;rw [Array.all_eq_true'] at this;have := this e (by simpa using he1)
  simpa [he2] using this
theorem Xb {ops : Array Oper} {A : List (List Nat)} {e1 e2 i : Nat} {listed : Array Bool} (hc : Ig ops e1 e2 A = true) (him : i < ops.size) (clos : ∀ i, listed.getD i false = true -> ∀ j ∈ A.getD i [], listed.getD j false = true)
  (hdep : ∀ j ∈ xX ops i, listed.getD j false = true) (hx : i = e2 -> listed.getD e1 false = true) : ∀ j ∈ A.getD i [], listed.getD j false = true := by
 intro j hj;have h1 := List.all_eq_true.1 hc i (List.mem_range.2 him);have h2 := List.all_eq_true.1 h1 j hj;obtain ⟨e, he, h3⟩ := List.any_eq_true.1 h2
 have hel : listed.getD e false = true := by
  unfold afterX at he
  split at he
  ·rcases List.mem_cons.1 he with rfl | he
   ·exact hx ‹_›
   ·exact hdep e he
  ·exact hdep e he
 simp only [dP, beq_iff_eq, List.contains_eq_mem, decide_eq_true_eq] at h3
 rcases h3 with rfl | h3
 ·exact hel
 ·exact clos e hel j h3
theorem DInv.reckon {ops : Array Oper} {A : List (List Nat)} {K : Env -> State -> Prop} {D : List Nat} {w0 : World} {pre l : List Entry} {listed : Array Bool} {L : Env} {S : State} {a : Act} {w : World} {i : Nat}
  (h : DInv P n ops A K D w0 pre l listed L S a w) (hsz : i < listed.size) (hun : listed.getD i false = false) (hanc : ∀ j ∈ A.getD i [], listed.getD j false = true) (hin : ∃ x ∈ pre, x.1 = i) :
  ∃ o v, ops[i]? = some o /\ kF P ops o a w v /\ ((∀ c, o.op ≠ .defer c) ∨ Region.wanted o (yielded ops a.tmps) = false) /\ DInv P n ops A K D w0 pre l (listed.setIfInBounds i true) L S (a.put o.dst v) w := by
 have hsize' : (listed.setIfInBounds i true).size = ops.size := by simp [h.size]
 have hclos' : ∀ k, (listed.setIfInBounds i true).getD k false = true -> ∀ j ∈ A.getD k [], (listed.setIfInBounds i true).getD j false = true := by
  intro k hk j hj;rw [zy hsz] at hk ⊢
  split
  ·rfl
  ·split at hk
   ·subst_vars; exact hanc j hj
   ·exact h.clos k hk j hj
 obtain ⟨x, hx, rfl⟩ := hin
 have hxe : x.2.1 = false := by
  cases hh : x.2.1 with
  | false => rfl
  | true => rw [h.effs x hx hh] at hun; cases hun
 obtain ⟨o, v, ho', ⟨d, hd, hdn, hv⟩, hf⟩ := h.facts x hx hun
 have hag : qT (o.looksAt ops) L a := by
  intro t ht u hu
  rcases h.tmps t u hu with ⟨y, hy, h1, h2⟩ | h3
  ·exfalso
   have hye : y.2.1 = false := by
    cases hh : y.2.1 with
    | false => rfl
    | true => rw [h.effs y hy hh] at h1; cases h1
   have := hanc _ (h.prs x hx y hy hxe hye t h2 (by simpa [xw, ho'] using ht));rw [h1] at this; cases this
  ·exact h3
 obtain ⟨hy, hnd⟩ := hf a w hag (fun _ => h.hold);refine ⟨o, v, ho', hy, hnd, ⟨hsize', ?_, ?_, hclos', ?_, ?_, h.prs, ?_, ?_, h.ext, h.hold, h.ok, h.pres, h.all, h.rest⟩⟩
 ·intro k hk;rw [zy hsz] at hk
  split at hk
  ·exact ⟨x, hx, by subst_vars; rfl⟩
  ·exact h.inPre k hk
 ·intro y hy he;rw [zy hsz]
  split
  ·rfl
  ·exact h.effs y hy he
 ·intro t u hu
  by_cases htd : d = t
  ·subst htd;rw [hv] at hu; cases hu
   right
   simp [hd, Act.put, h.asz, hdn]
  ·rcases h.tmps t u hu with ⟨y, hy, h1, h2⟩ | h3
   ·refine .inl ⟨y, hy, ?_, h2⟩;rw [zy hsz];rw [if_neg]
    ·exact h1
    ·intro e;have : jp ops x.1 = some t := by rw [<- e]; exact h2
     simp only [jp, ho', Option.bind_some, hd, Option.some.injEq] at this;exact htd this
   ·right
    simp only [hd, Act.put, cO htd];exact h3
 ·intro y hy hyl;refine h.facts y hy ?_;rw [zy hsz] at hyl
  split at hyl
  ·cases hyl
  ·exact hyl
 ·simp [hd, Act.put, h.asz]
 ·simp only [hd, Act.put]; exact h.dfr
theorem DInv.effect {ops : Array Oper} {A : List (List Nat)} {K : Cont} {D : List Nat} {w0 : World} {pre l'' : List Entry} {listed : Array Bool} {L : Env} {S : State} {a : Act} {w : World} {i : Nat} {pd : List Nat} {fuel : Nat}
  (h : DInv P n ops A (K .normal D) D w0 pre ((i, true, pd) :: l'') listed L S a w) (him : i < ops.size) (hun : listed.getD i false = false) (hanc : ∀ j ∈ A.getD i [], listed.getD j false = true) (hin : ¬ ∃ x ∈ pre, x.1 = i)
  (ih : ∀ (pre l : List Entry) (L : Env) (S : State) (a : Act) (w : World), DInv P n ops A (K .normal D) D w0 pre l (listed.setIfInBounds i true) L S a w -> wpAnyIn (FW ro) 0 P .any ops (KQ n K w0) fuel (listed.setIfInBounds i true) a w) :
  wpOpIn (FW ro) 0 P ops (KQ n K w0) i (fun a' w' => wpAnyIn (FW ro) 0 P .any ops (KQ n K w0) fuel (listed.setIfInBounds i true) a' w') a w := by
 have hsz : i < listed.size := by rw [h.size]; exact him
 have ho : ops[i]? = some ops[i] := by simp [him]
 have hsize' : (listed.setIfInBounds i true).size = ops.size := by simp [h.size]
 have hclos' : ∀ k, (listed.setIfInBounds i true).getD k false = true -> ∀ j ∈ A.getD k [], (listed.setIfInBounds i true).getD j false = true := by
  intro k hk j hj;rw [zy hsz] at hk ⊢
  split
  ·rfl
  ·split at hk
   ·subst_vars; exact hanc j hj
   ·exact h.clos k hk j hj
 have hok := h.ok;simp only [xi, aN] at hok;obtain ⟨o1, o2, o3, o4, o5, o6⟩ := xb hok.1
 have hag : qT (ops[i].looksAt ops) L a := by
  intro t ht u hu
  rcases h.tmps t u hu with ⟨y, hy, h1, h2⟩ | h3
  ·exfalso
   have hye : y.2.1 = false := by
    cases hh : y.2.1 with
    | false => rfl
    | true => rw [h.effs y hy hh] at h1; cases h1
   have := hanc _ ((o4 y hy hye).1 t h2 (by simpa [xw, ho] using ht));rw [h1] at this; cases this
  ·exact h3
 have hrest := h.rest;simp only [xj, ho] at hrest
 have next : ∀ (v : Value) (S' : State) (w' : World), Ext w w' -> Hold w' S' -> stillAll P ops pd (putT n (ops[i]).dst v L) S' (xj P n ops (K .normal D) l'' (putT n (ops[i]).dst v L) S') ->
   wpAnyIn (FW ro) 0 P .any ops (KQ n K w0) fuel (listed.setIfInBounds i true) (a.put (ops[i]).dst v) w' := by
  intro v S' w' he hh hst;obtain ⟨hdraw, hstill⟩ := wn pd hst;have hdi : jp ops i = (ops[i]).dst := by simp [jp, ho]
  have away : ∀ y ∈ pre, (listed.setIfInBounds i true).getD y.1 false = false -> y.2.1 = false /\ listed.getD y.1 false = false /\ y.1 ∉ A.getD i [] /\
    ∀ d, (ops[i]).dst = some d -> d ∉ xw ops y.1 /\ jp ops y.1 ≠ some d := by
   intro y hy hyl;rw [zy hsz] at hyl
   split at hyl
   ·cases hyl
   ·have hye : y.2.1 = false := by
     cases hh : y.2.1 with
     | false => rfl
     | true => rw [h.effs y hy hh] at hyl; cases hyl
    have hna : y.1 ∉ A.getD i [] := fun hm => by rw [hanc _ hm] at hyl; cases hyl
    exact ⟨hye, hyl, hna, fun d hd => ((o4 y hy hye).2.1 d (by rw [hdi]; exact hd)).resolve_right (fun hc => hna hc.2)⟩
  refine ih (pre ++ [(i, true, pd)]) l'' (putT n (ops[i]).dst v L) S' _ w' ⟨hsize', ?_, ?_, hclos', ?_, ?_, ?_, ?_, ?_, h.ext.trans he, hh, hok.2, jB _ _ h.pres (by simpa using hok.1), ?_, hdraw⟩
  ·intro k hk;rw [zy hsz] at hk
   split at hk
   ·exact ⟨(i, true, pd), by simp, by subst_vars; rfl⟩
   ·obtain ⟨y, hy, e⟩ := h.inPre k hk; exact ⟨y, bD _ hy, e⟩
  ·intro y hy hye;rw [zy hsz]
   split
   ·rfl
   ·rcases List.mem_append.1 hy with hy | hy
    ·exact h.effs y hy hye
    ·simp at hy; subst hy; exact absurd rfl ‹_›
  ·intro t u hu
   rcases ZB hu with ⟨h1, h2, rfl⟩ | h1
   ·right; simp [h1, Act.put, h.asz, h2]
   ·by_cases hdt : (ops[i]).dst = some t /\ t < n
    ·have : lookT (putT n (ops[i]).dst v L) t = some v := by simp [hdt.1, putT, hdt.2, lookT]
     rw [this] at hu; cases hu
     right; simp [hdt.1, Act.put, h.asz, hdt.2]
    ·have keep : a.tmps[t]? = some u -> (a.put (ops[i]).dst v).tmps[t]? = some u := by
      intro hat
      cases hd : (ops[i]).dst with
      | none => exact hat
      | some d =>
       simp only [Act.put]
       by_cases e : d = t
       ·subst e;have := (Array.getElem?_eq_some_iff.1 hat).1;rw [h.asz] at this;exact absurd ⟨hd, this⟩ hdt
       ·rw [cO e]; exact hat
     rcases h.tmps t u h1 with ⟨y, hy, h2, h3⟩ | h3
     ·by_cases hyi : (listed.setIfInBounds i true).getD y.1 false = false
      ·exact .inl ⟨y, bD _ hy, hyi, h3⟩
      ·exfalso
       rw [zy hsz] at hyi
       split at hyi
       ·exact hin ⟨y, hy, ‹_›⟩
       ·exact hyi h2
     ·exact .inr (keep h3)
  ·intro y hy hyl
   rcases List.mem_append.1 hy with hy | hy
   ·obtain ⟨hye, hyl', hna, hnd⟩ := away y hy hyl;obtain ⟨o, v', ho', ⟨d, hd, hdn, hv⟩, hf⟩ := h.facts y hy hyl'
    have hlk : ∀ t, t ∈ o.looksAt ops ∨ t = d -> lookT (putT n (ops[i]).dst v L) t = lookT L t := by
     intro t ht;refine ke fun e => ?_
     obtain ⟨n1, n2⟩ := hnd t e
     rcases ht with ht | rfl
     ·exact n1 (by simpa [xw, ho'] using ht)
     ·exact n2 (by simp [jp, ho', hd])
    by_cases hrd : yy o.op = true
    ·have hmem : y.1 ∈ pd := by
      have := (o4 y hy hye).2.2 rfl (by simp [Jz, ho', hrd]);exact this.resolve_left hna
     obtain ⟨o2, d2, v2, e1, e2, e3, hq⟩ := hstill y.1 hmem;rw [ho'] at e1; cases e1
     rw [hd] at e2; cases e2
     obtain ⟨v3, rfl, _, hq'⟩ := vX hq;refine ⟨o, v3, ho', ⟨d, hd, hdn, e3⟩, fun a' w'' ha hw => hq' a' w'' ha hw⟩
    ·refine ⟨o, v', ho', ⟨d, hd, hdn, by rw [hlk d (.inr rfl)]; exact hv⟩, fun a' w'' ha _ => hf a' w'' (fun t ht u hu => ha t ht u (by rw [hlk t (.inl ht)]; exact hu)) (fun hh => absurd hh hrd)⟩
   ·simp at hy; subst hy
    rw [zy hsz] at hyl; simp at hyl
  ·intro x hx y hy hxe hye d' hd' hl'
   rcases List.mem_append.1 hx with hx | hx
   ·rcases List.mem_append.1 hy with hy | hy
    ·exact h.prs x hx y hy hxe hye d' hd' hl'
    ·simp at hy; subst hy; cases hye
   ·simp at hx; subst hx; cases hxe
  ·cases (ops[i]).dst <;> simp [Act.put, h.asz]
  ·cases (ops[i]).dst <;> exact h.dfr
  ·intro j hj
   rcases h.all j hj with ⟨x, hx, e⟩ | ⟨x, hx, e⟩
   ·exact .inl ⟨x, bD _ hx, e⟩
   ·rcases List.mem_cons.1 hx with rfl | hx
    ·exact .inl ⟨_, by simp, e⟩
    ·exact .inr ⟨x, hx, e⟩
 unfold wpOpIn;rw [ho];simp only
 rcases qP hag hrest with ⟨hw1, hs⟩ | ⟨hw1, hs⟩
 ·rw [if_pos hw1];obtain ⟨ρ, hρ, hρe⟩ := yR hag;refine ⟨fun _ _ => trivial, ?_⟩;rw [Oper.semAt_eq _ _ _ (jS hs), <- execOp_congr _ (qj hs) hρe];exact wi (wo hρ hs) h.hold fun v S' w' hk he hh => next v S' w' he hh hk
 ·rw [if_neg (by simp [hw1])];exact ⟨fun _ _ => trivial, next undef S w (Ext.refl w) h.hold hs⟩
theorem DInv.norm2 {ops : Array Oper} {A : List (List Nat)} {K : Env -> State -> Prop} {D : List Nat} {w0 : World} : ∀ (l pre : List Entry) (listed : Array Bool) (L : Env) (S : State) (a : Act) (w : World),
  DInv P n ops A K D w0 pre l listed L S a w -> ∃ pre' l' L', DInv P n ops A K D w0 pre' l' listed L' S a w /\ (l' = [] ∨ ∃ i pend l'', l' = (i, true, pend) :: l'') /\ ∃ q, l = q ++ l' /\ ∀ x ∈ q, x.2.1 = false
 | [], pre, listed, L, S, a, w, h => ⟨pre, [], L, h, .inl rfl, [], rfl, by simp⟩
 | (i, true, pend) :: l, pre, listed, L, S, a, w, h => ⟨pre, _, L, h, .inr ⟨i, pend, l, rfl⟩, [], rfl, by simp⟩
 | (i, false, pend) :: l, pre, listed, L, S, a, w, h => by
  have hok := h.ok;simp only [xi, aN] at hok;obtain ⟨o1, o2, o3, o4, o5, o6⟩ := xb hok.1;obtain ⟨d, hd, hdn, hdl⟩ := o5 rfl;have hr := h.rest;simp only [xj] at hr
  cases ho : ops[i]? with
  | none => rw [ho] at hr; exact hr.elim
  | some o =>
   rw [ho] at hr;simp only at hr;obtain ⟨v, hk, _, hq⟩ := vX hr;have hdo : o.dst = some d := by simpa [jp, ho] using hd
   have hlo : xw ops i = o.looksAt ops := by simp [xw, ho]
   have hunl : listed.getD i false = false := by
    cases hx : listed.getD i false with
    | false => rfl
    | true => obtain ⟨y, hy, e⟩ := h.inPre i hx; exact absurd e (o3 y hy)
   have hL : putT n o.dst v L = (d, v) :: L := by simp [putT, hdo, hdn]
   rw [hL] at hk
   have keepA : ∀ (ts : List Tmp) (a' : Act), d ∉ ts -> qT ts ((d, v) :: L) a' -> qT ts L a' := by
    intro ts a' hn ha t ht u hu;refine ha t ht u ?_;simp only [lookT];rw [if_neg (fun e => hn (by rw [<- e]; exact ht))];exact hu
   have wrap : (∃ pre' l' L', DInv P n ops A K D w0 pre' l' listed L' S a w /\ (l' = [] ∨ ∃ i pend l'', l' = (i, true, pend) :: l'') /\ ∃ q, l = q ++ l' /\ ∀ x ∈ q, x.2.1 = false) ->
     ∃ pre' l' L', DInv P n ops A K D w0 pre' l' listed L' S a w /\ (l' = [] ∨ ∃ i pend l'', l' = (i, true, pend) :: l'') /\ ∃ q, (i, false, pend) :: l = q ++ l' /\ ∀ x ∈ q, x.2.1 = false := by
    rintro ⟨pre', l', L', h1, h2, q, h3, h4⟩;refine ⟨pre', l', L', h1, h2, (i, false, pend) :: q, by rw [h3]; rfl, fun x hx => ?_⟩
    rcases List.mem_cons.1 hx with rfl | hx
    ·rfl
    ·exact h4 x hx
   refine wrap (DInv.norm2 l (pre ++ [(i, false, pend)]) listed ((d, v) :: L) S a w ⟨h.size, ?_, ?_, h.clos, ?_, ?_, ?_, h.asz, h.dfr, h.ext, h.hold, hok.2, jB _ _ h.pres (by simpa using hok.1), ?_, hk⟩)
   ·intro j hj; obtain ⟨x, hx, e⟩ := h.inPre j hj; exact ⟨x, bD _ hx, e⟩
   ·intro x hx he
    rcases List.mem_append.1 hx with hx | hx
    ·exact h.effs x hx he
    ·simp at hx; subst hx; cases he
   ·intro t u hu;simp only [lookT] at hu
    split at hu
    ·subst_vars; exact .inl ⟨(i, false, pend), by simp, hunl, hd⟩
    ·rcases h.tmps t u hu with ⟨x, hx, h1, h2⟩ | h3
     ·exact .inl ⟨x, bD _ hx, h1, h2⟩
     ·exact .inr h3
   ·intro x hx hxl
    rcases List.mem_append.1 hx with hx | hx
    ·obtain ⟨o', v', h1, ⟨d', h2, h3, h4⟩, h5⟩ := h.facts x hx hxl
     have hxe : x.2.1 = false := by
      cases hh : x.2.1 with
      | false => rfl
      | true => rw [h.effs x hx hh] at hxl; cases hxl
     have hne := ((o4 x hx hxe).2.1 d hd).resolve_right (fun hh => by cases hh.1);have hd' : jp ops x.1 = some d' := by simp [jp, h1, h2]
     refine ⟨o', v', h1, ⟨d', h2, h3, ?_⟩, fun a' w' ha hw => h5 a' w' (keepA _ a' (by simpa [xw, h1] using hne.1) ha) hw⟩;simp only [lookT];rw [if_neg (fun e => hne.2 (by rw [hd', e]))];exact h4
    ·simp at hx; subst hx
     refine ⟨o, v, ho, ⟨d, hdo, hdn, by simp [lookT]⟩, fun a' w' ha hw => hq a' w' (keepA _ a' (by rw [<- hlo]; exact hdl) ha) hw⟩
   ·intro x hx y hy hxe hye d' hd' hl'
    rcases List.mem_append.1 hx with hx | hx
    ·rcases List.mem_append.1 hy with hy | hy
     ·exact h.prs x hx y hy hxe hye d' hd' hl'
     ·simp at hy; subst hy
      rw [hd] at hd'; cases hd'
      exact absurd hl' (((o4 x hx hxe).2.1 d hd).resolve_right (fun hh => by cases hh.1)).1
    ·simp at hx; subst hx
     rcases List.mem_append.1 hy with hy | hy
     ·exact (o4 y hy hye).1 d' hd' hl'
     ·simp at hy; subst hy
      rw [hd] at hd'; cases hd'
      exact absurd hl' hdl
   ·intro j hj
    rcases h.all j hj with ⟨x, hx, e⟩ | ⟨x, hx, e⟩
    ·exact .inl ⟨x, bD _ hx, e⟩
    ·rcases List.mem_cons.1 hx with rfl | hx
     ·exact .inl ⟨_, by simp, e⟩
     ·exact .inr ⟨x, hx, e⟩
theorem qd {ops : Array Oper} {listed : Array Bool} (hs : listed.size = ops.size) (hle : ((bC ops.size).filter fun i => !listed.getD i false).length <= 0) : Region.ready .any ops listed = [] := by
 have h0 : ((bC ops.size).filter fun i => !listed.getD i false) = [] := List.eq_nil_of_length_eq_zero (Nat.le_zero.1 hle);unfold Region.ready;rw [List.filter_eq_nil_iff] at h0 ⊢;intro i hi;have := h0 i hi;have hsz : i < listed.size := by rw [hs]; exact List.mem_range.1 hi
 simp only [Array.getD_eq_getD_getElem?, hsz, Array.getElem?_eq_getElem, cI] at this ⊢;simp only [Bool.not_eq_true', Bool.not_eq_false] at this
 simp [this]
theorem vo {ops : Array Oper} {listed : Array Bool} {i fuel : Nat} (him : i < ops.size) (hsz : i < listed.size) (hun : listed.getD i false = false) (hle : ((bC ops.size).filter fun i => !listed.getD i false).length <= fuel + 1) :
  ((bC ops.size).filter fun k => !(listed.setIfInBounds i true).getD k false).length <= fuel := by
 have := kX (p := fun k => !listed.getD k false) (q := fun k => !(listed.setIfInBounds i true).getD k false) (i := i) (bC ops.size) (fun x hx => by
  simp only [zy hsz] at hx
  split at hx
  ·simp at hx
  ·exact hx) (List.mem_range.2 him) (by simp [hun]) (by simp [zy hsz])
 omega
theorem Vx {ops : Array Oper} {A : List (List Nat)} {K : Cont} {D : List Nat} {w0 : World} {e1 e2 : Nat} (hc : Ig ops e1 e2 A = true) : ∀ (fuel : Nat) (pre l : List Entry) (listed : Array Bool) (L : Env) (S : State) (a : Act) (w : World),
  DInv P n ops A (K .normal D) D w0 pre l listed L S a w -> listed.getD e1 false = true -> ((bC ops.size).filter fun i => !listed.getD i false).length <= fuel ->
  wpAnyIn (FW ro) 0 P .any ops (KQ n K w0) fuel listed a w := by
 intro fuel
 induction fuel with
 | zero =>
  intro pre l listed L S a w h _ hle;have hr := qd h.size hle;exact ⟨hr, jV h hr⟩
 | succ fuel ih =>
  intro pre l listed L S a w h h1 hle;refine ⟨fun hr => jV h hr, fun i hi => ?_⟩;obtain ⟨pre, l, L, h, hl⟩ := h.norm;obtain ⟨him, hun, hdep⟩ := vW h.size hi;have hsz : i < listed.size := by rw [h.size]; exact him
  have hanc := Xb hc him h.clos hdep (fun _ => h1);have hcount := vo him hsz hun hle;have h1' : (listed.setIfInBounds i true).getD e1 false = true := by rw [zy hsz]; split <;> first | rfl | exact h1
  by_cases hin : ∃ x ∈ pre, x.1 = i
  ·obtain ⟨o, v, ho, hy, hnd, h'⟩ := h.reckon hsz hun hanc hin;exact jL ho hy hnd (ih pre l _ L S _ w h' h1' hcount)
  ·have hnx : ∃ pd l'', l = (i, true, pd) :: l'' := by
    rcases (h.all i him).resolve_left hin with ⟨x, hx, he⟩
    rcases hl with rfl | ⟨j, pd, l'', rfl⟩
    ·cases hx
    ·rcases List.mem_cons.1 hx with rfl | hx
     ·cases he; exact ⟨pd, l'', rfl⟩
     ·exfalso
      have hok := h.ok;simp only [xi, aN] at hok;obtain ⟨q, hq⟩ := qB l'' _ hok.2 x hx;obtain ⟨_, o2, _⟩ := xb hq;have := hanc j (by rw [<- he]; exact o2 (j, true, pd) (by simp) rfl);obtain ⟨y, hy, e⟩ := h.inPre j this;obtain ⟨_, _, o3, _⟩ := xb hok.1;exact o3 y hy e
   obtain ⟨pd, l'', rfl⟩ := hnx;exact h.effect him hun hanc hin fun pre l L S a w h' => ih pre l _ L S a w h' h1' hcount
theorem jv {ops : Array Oper} {A : List (List Nat)} {K : Env -> State -> Prop} {D : List Nat} {w0 : World} {pre l : List Entry} {listed : Array Bool} {L : Env} {S : State} {a : Act} {w : World} {e i : Nat} {pd : List Nat}
  (h : DInv P n ops A K D w0 pre ((e, true, pd) :: l) listed L S a w) (him : i < ops.size) (hne : i ≠ e) (hun : listed.getD e false = false) (hanc : ∀ j ∈ A.getD i [], listed.getD j false = true) : ∃ x ∈ pre, x.1 = i := by
 rcases h.all i him with hx | ⟨x, hx, he⟩
 ·exact hx
 ·exfalso
  rcases List.mem_cons.1 hx with rfl | hx
  ·exact hne he.symm
  ·have hok := h.ok;simp only [xi, aN] at hok;obtain ⟨q, hq⟩ := qB l _ hok.2 x hx;obtain ⟨_, o2, _⟩ := xb hq;have := hanc e (by rw [<- he]; exact o2 (e, true, pd) (by simp) rfl);rw [hun] at this; cases this
theorem kT {ops : Array Oper} {A : List (List Nat)} {K : Env -> State -> Prop} {D : List Nat} {w0 : World} {pre l : List Entry} {listed : Array Bool} {L : Env} {S : State} {a : Act} {w : World} {e : Nat} {pd : List Nat}
  (h : DInv P n ops A K D w0 pre ((e, true, pd) :: l) listed L S a w) : ¬ ∃ x ∈ pre, x.1 = e := by
 have hok := h.ok;simp only [xi, aN] at hok;obtain ⟨_, _, o3, _⟩ := xb hok.1;rintro ⟨x, hx, e⟩;exact o3 x hx e
theorem draw_both {ops : Array Oper} {A1 A2 : List (List Nat)} {K : Cont} {D : List Nat} {w0 : World} {e1 e2 : Nat} {pre1 pre2 l1 l2 : List Entry} {pd1 pd2 : List Nat} {L1 L2 : Env} {S1 S2 : State} (hc1 : Ig ops e1 e2 A1 = true) (hc2 : Ig ops e2 e1 A2 = true) (hne : e1 ≠ e2) :
  ∀ (fuel : Nat) (listed : Array Bool) (a : Act) (w : World), DInv P n ops A1 (K .normal D) D w0 pre1 ((e1, true, pd1) :: l1) listed L1 S1 a w -> DInv P n ops A2 (K .normal D) D w0 pre2 ((e2, true, pd2) :: l2) listed L2 S2 a w ->
  listed.getD e1 false = false -> listed.getD e2 false = false -> ((bC ops.size).filter fun i => !listed.getD i false).length <= fuel -> wpAnyIn (FW ro) 0 P .any ops (KQ n K w0) fuel listed a w := by
 intro fuel
 induction fuel with
 | zero =>
  intro listed a w h _ _ _ hle;have hr := qd h.size hle;exact ⟨hr, jV h hr⟩
 | succ fuel ih =>
  intro listed a w h1 h2 u1 u2 hle;refine ⟨fun hr => jV h1 hr, fun i hi => ?_⟩;obtain ⟨him, hun, hdep⟩ := vW h1.size hi;have hsz : i < listed.size := by rw [h1.size]; exact him
  have hcount := vo him hsz hun hle
  by_cases i1 : i = e1
  ·subst i1;exact h1.effect him hun (Xb hc1 him h1.clos hdep (fun e => absurd e hne)) (kT h1) fun pre l L S a w h' => Vx hc1 fuel pre l _ L S a w h' (by rw [zy hsz, if_pos rfl]) hcount
  by_cases i2 : i = e2
  ·subst i2;exact h2.effect him hun (Xb hc2 him h2.clos hdep (fun e => absurd e.symm hne)) (kT h2) fun pre l L S a w h' => Vx hc2 fuel pre l _ L S a w h' (by rw [zy hsz, if_pos rfl]) hcount
  have a1 := Xb hc1 him h1.clos hdep (fun e => absurd e i2);have a2 := Xb hc2 him h2.clos hdep (fun e => absurd e i1);obtain ⟨o, v, ho, hy, hnd, h1'⟩ := h1.reckon hsz hun a1 (jv h1 him i1 u1 a1);obtain ⟨o', v', ho', hy', hnd', h2'⟩ := h2.reckon hsz hun a2 (jv h2 him i2 u2 a2);rw [ho] at ho'
  cases ho'
  have hv : v = v' := by
   rcases hy with ⟨x1, x2⟩ | ⟨x1, x2⟩ <;> rcases hy' with ⟨y1, y2⟩ | ⟨y1, y2⟩
   ·rw [x2] at y2
    cases y2; rfl
   ·rw [x1] at y1; cases y1
   ·rw [x1] at y1; cases y1
   ·rw [x2, y2]
  subst hv;exact jL ho hy hnd (ih _ _ w h1' h2' (by rw [zy hsz, if_neg (Ne.symm i1)]; exact u1) (by rw [zy hsz, if_neg (Ne.symm i2)]; exact u2) hcount)
def ql : List Entry -> Option Nat
 | [] => none
 | (i, true, _) :: _ => some i
 | (_, false, _) :: l => ql l
theorem vG : ∀ (q l : List Entry), (∀ x ∈ q, x.2.1 = false) -> ql (q ++ l) = ql l
 | [], _, _ => rfl
 | (i, true, pd) :: q, l, h => by have := h (i, true, pd) (by simp); cases this
 | (i, false, pd) :: q, l, h => by
  rw [aC, ql];exact vG q l fun x hx => h x (aK _ hx)
def okTwo (ops : Array Oper) (e1 e2 : Nat) (A1 A2 : List (List Nat)) (n : Nat) (pl1 pl2 : List Entry) : Bool :=
 Ig ops e1 e2 A1 && (Ig ops e2 e1 A2 && (e1 != e2 && (xi ops A1 n [] pl1 && (xi ops A2 n [] pl2 && (((bC ops.size).all fun i => pl1.any (·.1 == i)) && (((bC ops.size).all fun i => pl2.any (·.1 == i)) && (ql pl1 == some e1 && ql pl2 == some e2)))))))
theorem DInv.start {ops : Array Oper} {A : List (List Nat)} {K : Cont} {D : List Nat} {L : Env} {S : State} {a : Act} {w : World} {pl : List Entry} (ha : Agree n L D a) (hw : Hold w S) (hok : xi ops A n [] pl = true)
  (hall : (bC ops.size).all (fun i => pl.any (·.1 == i)) = true) (h : xj P n ops (K .normal D) pl L S) : DInv P n ops A (K .normal D) D w [] pl (Array.replicate ops.size false) L S a { w with drawn := w.drawn + 1 } := by
 have h0 : ∀ i, (Array.replicate ops.size false).getD i false = false := by
  intro i; simp only [Array.getD_eq_getD_getElem?, Array.getElem?_replicate]; split <;> rfl
 have hw' : Hold { w with drawn := w.drawn + 1 } S := ⟨hw.nd, hw.get⟩;have he : Ext w { w with drawn := w.drawn + 1 } := ⟨rfl, rfl, rfl, aR _⟩;refine ⟨by simp, ?_, ?_, ?_, ?_, ?_, ?_, ha.size, ha.marks, he, hw', hok, rfl, ?_, h⟩
 ·intro i hi; rw [h0] at hi; cases hi
 ·intro x hx; cases hx
 ·intro i hi; rw [h0] at hi; cases hi
 ·intro t v ht; exact .inr (ha.get t v ht)
 ·intro x hx; cases hx
 ·intro x hx; cases hx
 ·intro i hi;have := List.all_eq_true.1 hall i (List.mem_range.2 hi);obtain ⟨x, hx, e⟩ := List.any_eq_true.1 this;exact .inr ⟨x, hx, by simpa using e⟩
theorem Ie {id : Nat} {ops : Array Oper} {K : Cont} {D : List Nat} {L : Env} {S : State} (e1 e2 : Nat) (A1 : List (List Nat)) (pl1 : List Entry) (A2 : List (List Nat)) (pl2 : List Entry)
  (h1 : xj P n ops (K .normal D) pl1 L S) (h2 : xj P n ops (K .normal D) pl2 L S) (hm : P.follows .mixedOrders = true := by kernel_rfl)
  (hok : okTwo ops e1 e2 A1 A2 n pl1 pl2 = true := by kernel_rfl) : CodeW P n ro (.region id ops true) K D L S := by
 refine ⟨fun a w ha hw => ?_⟩;refine wpIn_region_any hm ?_;simp only [okTwo, aN, beq_iff_eq, bne_iff_ne, ne_eq] at hok;obtain ⟨c1, c2, hne, p1, p2, all1, all2, f1, f2⟩ := hok;obtain ⟨pre1, l1, L1, d1, g1, q1, k1, z1⟩ := (DInv.start (K := K) ha hw p1 all1 h1).norm2;obtain ⟨pre2, l2, L2, d2, g2, q2, k2, z2⟩ := (DInv.start (K := K) ha hw p2 all2 h2).norm2;rw [k1, vG q1 l1 z1] at f1;rw [k2, vG q2 l2 z2] at f2
 rcases g1 with rfl | ⟨i1, pd1, l1, rfl⟩
 ·cases f1
 rcases g2 with rfl | ⟨i2, pd2, l2, rfl⟩
 ·cases f2
 simp only [ql, Option.some.injEq] at f1 f2;subst f1 f2
 have h0 : ∀ i, (Array.replicate ops.size false).getD i false = false := by
  intro i; simp only [Array.getD_eq_getD_getElem?, Array.getElem?_replicate]; split <;> rfl
 exact draw_both c1 c2 hne ops.size _ a _ d1 d2 (h0 _) (h0 _) (dN (List.length_filter_le _ _) (by simp))
end Go.Ost
namespace Go.Ost
open Go
variable {P : Program} {n : Nat} {ro : Option Nat}
def afterE (ops : Array Oper) (E : List (Nat × Nat)) (i : Nat) : List Nat := ((E.filter fun e => e.2 == i).map (·.1)) ++ xX ops i
def Xh (ops : Array Oper) (E : List (Nat × Nat)) (A : List (List Nat)) : Bool :=
 (bC ops.size).all fun i => (A.getD i []).all fun j => (afterE ops E i).any fun e => e == j || (A.getD e []).contains j
theorem jJ {ops : Array Oper} {A : List (List Nat)} {E : List (Nat × Nat)} {i : Nat} {listed : Array Bool} (hc : Xh ops E A = true) (him : i < ops.size) (clos : ∀ i, listed.getD i false = true -> ∀ j ∈ A.getD i [], listed.getD j false = true)
  (hdep : ∀ j ∈ xX ops i, listed.getD j false = true) (hx : ∀ e ∈ E, e.2 = i -> listed.getD e.1 false = true) : ∀ j ∈ A.getD i [], listed.getD j false = true := by
 intro j hj;have h1 := List.all_eq_true.1 hc i (List.mem_range.2 him);have h2 := List.all_eq_true.1 h1 j hj;obtain ⟨e, he, h3⟩ := List.any_eq_true.1 h2
 have hel : listed.getD e false = true := by
  rcases List.mem_append.1 he with he | he
  ·obtain ⟨x, hx1, rfl⟩ := List.mem_map.1 he;obtain ⟨hx2, hx3⟩ := List.mem_filter.1 hx1;exact hx x hx2 (by simpa using hx3)
  ·exact hdep e he
 simp only [dP, beq_iff_eq, List.contains_eq_mem, decide_eq_true_eq] at h3
 rcases h3 with rfl | h3
 ·exact hel
 ·exact clos e hel j h3
theorem DInv.effectX {ops : Array Oper} {A : List (List Nat)} {K : Cont} {D : List Nat} {w0 : World} {pre l'' : List Entry} {listed : Array Bool} {L : Env} {S : State} {a : Act} {w : World} {i : Nat} {pd : List Nat} {X : Act -> World -> Prop}
  (h : DInv P n ops A (K .normal D) D w0 pre ((i, true, pd) :: l'') listed L S a w) (him : i < ops.size) (hun : listed.getD i false = false) (hanc : ∀ j ∈ A.getD i [], listed.getD j false = true) (hin : ¬ ∃ x ∈ pre, x.1 = i)
  (ih : ∀ (pre : List Entry) (L : Env) (S : State) (a : Act) (w : World), DInv P n ops A (K .normal D) D w0 pre l'' (listed.setIfInBounds i true) L S a w -> X a w) :
  wpOpIn (FW ro) 0 P ops (KQ n K w0) i X a w := by
 have hsz : i < listed.size := by rw [h.size]; exact him
 have ho : ops[i]? = some ops[i] := by simp [him]
 have hsize' : (listed.setIfInBounds i true).size = ops.size := by simp [h.size]
 have hclos' : ∀ k, (listed.setIfInBounds i true).getD k false = true -> ∀ j ∈ A.getD k [], (listed.setIfInBounds i true).getD j false = true := by
  intro k hk j hj;rw [zy hsz] at hk ⊢
  split
  ·rfl
  ·split at hk
   ·subst_vars; exact hanc j hj
   ·exact h.clos k hk j hj
 have hok := h.ok;simp only [xi, aN] at hok;obtain ⟨o1, o2, o3, o4, o5, o6⟩ := xb hok.1
 have hag : qT (ops[i].looksAt ops) L a := by
  intro t ht u hu
  rcases h.tmps t u hu with ⟨y, hy, h1, h2⟩ | h3
  ·exfalso
   have hye : y.2.1 = false := by
    cases hh : y.2.1 with
    | false => rfl
    | true => rw [h.effs y hy hh] at h1; cases h1
   have := hanc _ ((o4 y hy hye).1 t h2 (by simpa [xw, ho] using ht));rw [h1] at this; cases this
  ·exact h3
 have hrest := h.rest;simp only [xj, ho] at hrest
 have next : ∀ (v : Value) (S' : State) (w' : World), Ext w w' -> Hold w' S' -> stillAll P ops pd (putT n (ops[i]).dst v L) S' (xj P n ops (K .normal D) l'' (putT n (ops[i]).dst v L) S') ->
   X (a.put (ops[i]).dst v) w' := by
  intro v S' w' he hh hst;obtain ⟨hdraw, hstill⟩ := wn pd hst;have hdi : jp ops i = (ops[i]).dst := by simp [jp, ho]
  have away : ∀ y ∈ pre, (listed.setIfInBounds i true).getD y.1 false = false -> y.2.1 = false /\ listed.getD y.1 false = false /\ y.1 ∉ A.getD i [] /\
    ∀ d, (ops[i]).dst = some d -> d ∉ xw ops y.1 /\ jp ops y.1 ≠ some d := by
   intro y hy hyl;rw [zy hsz] at hyl
   split at hyl
   ·cases hyl
   ·have hye : y.2.1 = false := by
     cases hh : y.2.1 with
     | false => rfl
     | true => rw [h.effs y hy hh] at hyl; cases hyl
    have hna : y.1 ∉ A.getD i [] := fun hm => by rw [hanc _ hm] at hyl; cases hyl
    exact ⟨hye, hyl, hna, fun d hd => ((o4 y hy hye).2.1 d (by rw [hdi]; exact hd)).resolve_right (fun hc => hna hc.2)⟩
  refine ih (pre ++ [(i, true, pd)]) (putT n (ops[i]).dst v L) S' _ w' ⟨hsize', ?_, ?_, hclos', ?_, ?_, ?_, ?_, ?_, h.ext.trans he, hh, hok.2, jB _ _ h.pres (by simpa using hok.1), ?_, hdraw⟩
  ·intro k hk;rw [zy hsz] at hk
   split at hk
   ·exact ⟨(i, true, pd), by simp, by subst_vars; rfl⟩
   ·obtain ⟨y, hy, e⟩ := h.inPre k hk; exact ⟨y, bD _ hy, e⟩
  ·intro y hy hye;rw [zy hsz]
   split
   ·rfl
   ·rcases List.mem_append.1 hy with hy | hy
    ·exact h.effs y hy hye
    ·simp at hy; subst hy; exact absurd rfl ‹_›
  ·intro t u hu
   rcases ZB hu with ⟨h1, h2, rfl⟩ | h1
   ·right; simp [h1, Act.put, h.asz, h2]
   ·by_cases hdt : (ops[i]).dst = some t /\ t < n
    ·have : lookT (putT n (ops[i]).dst v L) t = some v := by simp [hdt.1, putT, hdt.2, lookT]
     rw [this] at hu; cases hu
     right; simp [hdt.1, Act.put, h.asz, hdt.2]
    ·have keep : a.tmps[t]? = some u -> (a.put (ops[i]).dst v).tmps[t]? = some u := by
      intro hat
      cases hd : (ops[i]).dst with
      | none => exact hat
      | some d =>
       simp only [Act.put]
       by_cases e : d = t
       ·subst e;have := (Array.getElem?_eq_some_iff.1 hat).1;rw [h.asz] at this;exact absurd ⟨hd, this⟩ hdt
       ·rw [cO e]; exact hat
     rcases h.tmps t u h1 with ⟨y, hy, h2, h3⟩ | h3
     ·by_cases hyi : (listed.setIfInBounds i true).getD y.1 false = false
      ·exact .inl ⟨y, bD _ hy, hyi, h3⟩
      ·exfalso
       rw [zy hsz] at hyi
       split at hyi
       ·exact hin ⟨y, hy, ‹_›⟩
       ·exact hyi h2
     ·exact .inr (keep h3)
  ·intro y hy hyl
   rcases List.mem_append.1 hy with hy | hy
   ·obtain ⟨hye, hyl', hna, hnd⟩ := away y hy hyl;obtain ⟨o, v', ho', ⟨d, hd, hdn, hv⟩, hf⟩ := h.facts y hy hyl'
    have hlk : ∀ t, t ∈ o.looksAt ops ∨ t = d -> lookT (putT n (ops[i]).dst v L) t = lookT L t := by
     intro t ht;refine ke fun e => ?_
     obtain ⟨n1, n2⟩ := hnd t e
     rcases ht with ht | rfl
     ·exact n1 (by simpa [xw, ho'] using ht)
     ·exact n2 (by simp [jp, ho', hd])
    by_cases hrd : yy o.op = true
    ·have hmem : y.1 ∈ pd := by
      have := (o4 y hy hye).2.2 rfl (by simp [Jz, ho', hrd]);exact this.resolve_left hna
     obtain ⟨o2, d2, v2, e1, e2, e3, hq⟩ := hstill y.1 hmem;rw [ho'] at e1; cases e1
     rw [hd] at e2; cases e2
     obtain ⟨v3, rfl, _, hq'⟩ := vX hq;refine ⟨o, v3, ho', ⟨d, hd, hdn, e3⟩, fun a' w'' ha hw => hq' a' w'' ha hw⟩
    ·refine ⟨o, v', ho', ⟨d, hd, hdn, by rw [hlk d (.inr rfl)]; exact hv⟩, fun a' w'' ha _ => hf a' w'' (fun t ht u hu => ha t ht u (by rw [hlk t (.inl ht)]; exact hu)) (fun hh => absurd hh hrd)⟩
   ·simp at hy; subst hy
    rw [zy hsz] at hyl; simp at hyl
  ·intro x hx y hy hxe hye d' hd' hl'
   rcases List.mem_append.1 hx with hx | hx
   ·rcases List.mem_append.1 hy with hy | hy
    ·exact h.prs x hx y hy hxe hye d' hd' hl'
    ·simp at hy; subst hy; cases hye
   ·simp at hx; subst hx; cases hxe
  ·cases (ops[i]).dst <;> simp [Act.put, h.asz]
  ·cases (ops[i]).dst <;> exact h.dfr
  ·intro j hj
   rcases h.all j hj with ⟨x, hx, e⟩ | ⟨x, hx, e⟩
   ·exact .inl ⟨x, bD _ hx, e⟩
   ·rcases List.mem_cons.1 hx with rfl | hx
    ·exact .inl ⟨_, by simp, e⟩
    ·exact .inr ⟨x, hx, e⟩
 unfold wpOpIn;rw [ho];simp only
 rcases qP hag hrest with ⟨hw1, hs⟩ | ⟨hw1, hs⟩
 ·rw [if_pos hw1];obtain ⟨ρ, hρ, hρe⟩ := yR hag;refine ⟨fun _ _ => trivial, ?_⟩;rw [Oper.semAt_eq _ _ _ (jS hs), <- execOp_congr _ (qj hs) hρe];exact wi (wo hρ hs) h.hold fun v S' w' hk he hh => next v S' w' he hh hk
 ·rw [if_neg (by simp [hw1])];exact ⟨fun _ _ => trivial, next undef S w (Ext.refl w) h.hold hs⟩
theorem yp {ops : Array Oper} {A : List (List Nat)} {K : Cont} {D : List Nat} {w0 : World} {E : List (Nat × Nat)} (hc : Xh ops E A = true) : ∀ (fuel : Nat) (pre l : List Entry) (listed : Array Bool) (L : Env) (S : State) (a : Act) (w : World),
  DInv P n ops A (K .normal D) D w0 pre l listed L S a w -> (∀ e ∈ E, listed.getD e.1 false = true) -> ((bC ops.size).filter fun i => !listed.getD i false).length <= fuel ->
  wpAnyIn (FW ro) 0 P .any ops (KQ n K w0) fuel listed a w := by
 intro fuel
 induction fuel with
 | zero =>
  intro pre l listed L S a w h _ hle;have hr := qd h.size hle;exact ⟨hr, jV h hr⟩
 | succ fuel ih =>
  intro pre l listed L S a w h h1 hle;refine ⟨fun hr => jV h hr, fun i hi => ?_⟩;obtain ⟨pre, l, L, h, hl⟩ := h.norm;obtain ⟨him, hun, hdep⟩ := vW h.size hi;have hsz : i < listed.size := by rw [h.size]; exact him
  have hanc := jJ hc him h.clos hdep (fun e he _ => h1 e he);have hcount := vo him hsz hun hle;have h1' : ∀ e ∈ E, (listed.setIfInBounds i true).getD e.1 false = true := fun e he => by rw [zy hsz]; split <;> first | rfl | exact h1 e he
  by_cases hin : ∃ x ∈ pre, x.1 = i
  ·obtain ⟨o, v, ho, hy, hnd, h'⟩ := h.reckon hsz hun hanc hin;exact jL ho hy hnd (ih pre l _ L S _ w h' h1' hcount)
  ·have hnx : ∃ pd l'', l = (i, true, pd) :: l'' := by
    rcases (h.all i him).resolve_left hin with ⟨x, hx, he⟩
    rcases hl with rfl | ⟨j, pd, l'', rfl⟩
    ·cases hx
    ·rcases List.mem_cons.1 hx with rfl | hx
     ·cases he; exact ⟨pd, l'', rfl⟩
     ·exfalso
      have hok := h.ok;simp only [xi, aN] at hok;obtain ⟨q, hq⟩ := qB l'' _ hok.2 x hx;obtain ⟨_, o2, _⟩ := xb hq;have := hanc j (by rw [<- he]; exact o2 (j, true, pd) (by simp) rfl);obtain ⟨y, hy, e⟩ := h.inPre j this;obtain ⟨_, _, o3, _⟩ := xb hok.1;exact o3 y hy e
   obtain ⟨pd, l'', rfl⟩ := hnx;exact h.effectX him hun hanc hin fun pre L S a w h' => ih pre _ _ L S a w h' h1' hcount
theorem yW {o o' : Oper} {ops : Array Oper} {i : Nat} {a : Act} {w : World} {v v' : Value} (ho : ops[i]? = some o) (ho' : ops[i]? = some o') (hy : kF P ops o a w v) (hy' : kF P ops o' a w v') : v = v' := by
 rw [ho] at ho'
 cases ho'
 rcases hy with ⟨x1, x2⟩ | ⟨x1, x2⟩ <;> rcases hy' with ⟨y1, y2⟩ | ⟨y1, y2⟩
 ·rw [x2] at y2
  cases y2; rfl
 ·rw [x1] at y1; cases y1
 ·rw [x1] at y1; cases y1
 ·rw [x2, y2]
theorem OZ {ops : Array Oper} {A1 A2 : List (List Nat)} {K : Cont} {D : List Nat} {w0 : World} {e1 e2 : Nat} {E1 E2 : List (Nat × Nat)} {pd1 pd2 : List Nat} {L1 L2 : Env} {S1 S2 : State} {pre1 pre2 l1 l2 : List Entry} (hc1 : Xh ops E1 A1 = true) (hc2 : Xh ops E2 A2 = true) (hne : e1 ≠ e2)
  (t1 : ∀ e ∈ E1, e.2 = e2 /\ e.1 = e1) (listed0 : Array Bool) (t2 : ∀ e ∈ E2, (e.2 = e1 /\ e.1 = e2) ∨ (e.2 = e2 /\ listed0.getD e.1 false = true)) :
  ∀ (fuel : Nat) (listed : Array Bool) (a : Act) (w : World), (∀ j, listed0.getD j false = true -> listed.getD j false = true) -> DInv P n ops A1 (K .normal D) D w0 pre1 ((e1, true, pd1) :: l1) listed L1 S1 a w -> DInv P n ops A2 (K .normal D) D w0 pre2 ((e2, true, pd2) :: l2) listed L2 S2 a w ->
  listed.getD e1 false = false -> listed.getD e2 false = false -> ((bC ops.size).filter fun i => !listed.getD i false).length <= fuel -> wpAnyIn (FW ro) 0 P .any ops (KQ n K w0) fuel listed a w := by
 intro fuel
 induction fuel with
 | zero =>
  intro listed a w _ h _ _ _ hle;have hr := qd h.size hle;exact ⟨hr, jV h hr⟩
 | succ fuel ih =>
  intro listed a w hmon h1 h2 u1 u2 hle;refine ⟨fun hr => jV h1 hr, fun i hi => ?_⟩;obtain ⟨him, hun, hdep⟩ := vW h1.size hi;have hsz : i < listed.size := by rw [h1.size]; exact him
  have hcount := vo him hsz hun hle
  by_cases i1 : i = e1
  ·subst i1;exact h1.effectX him hun (jJ hc1 him h1.clos hdep (fun e he h => absurd ((t1 e he).1.symm.trans h) hne.symm)) (kT h1) fun pre L S a w h' => yp hc1 fuel pre _ _ L S a w h' (fun e he => by rw [(t1 e he).2, zy hsz, if_pos rfl]) hcount
  by_cases i2 : i = e2
  ·subst i2;refine h2.effectX him hun (jJ hc2 him h2.clos hdep (fun e he h => ?_)) (kT h2) fun pre L S a w h' => yp hc2 fuel pre _ _ L S a w h' (fun e he => ?_) hcount
   ·rcases t2 e he with ⟨q, _⟩ | ⟨_, q⟩
    ·exact absurd (q.symm.trans h) hne
    ·exact hmon _ q
   ·rw [zy hsz]
    rcases t2 e he with ⟨_, q⟩ | ⟨_, q⟩
    ·rw [if_pos q]
    ·split
     ·rfl
     ·exact hmon _ q
  have a1 := jJ hc1 him h1.clos hdep (fun e he h => absurd (h.symm.trans (t1 e he).1) i2)
  have a2 := jJ hc2 him h2.clos hdep (fun e he h => by
   rcases t2 e he with ⟨q, _⟩ | ⟨q, _⟩
   ·exact absurd (h.symm.trans q) i1
   ·exact absurd (h.symm.trans q) i2)
  obtain ⟨o, v, ho, hy, hnd, h1'⟩ := h1.reckon hsz hun a1 (jv h1 him i1 u1 a1);obtain ⟨o', v', ho', hy', hnd', h2'⟩ := h2.reckon hsz hun a2 (jv h2 him i2 u2 a2);obtain rfl := yW ho ho' hy hy';rw [ho] at ho'
  cases ho'
  exact jL ho hy hnd (ih _ _ w (fun j hj => by rw [zy hsz]; split <;> first | rfl | exact hmon j hj) h1' h2' (by rw [zy hsz, if_neg (Ne.symm i1)]; exact u1) (by rw [zy hsz, if_neg (Ne.symm i2)]; exact u2) hcount)
def Jb (o : Oper) : Bool := match o.op with
 | .buildSlice .. => true
 | _ => false
theorem wp_and {ops : Array Oper} {Q : Exit -> Act -> World -> Prop} {i : Nat} {X1 X2 : Act -> World -> Prop} {a : Act} {w : World} (hb : (match ops[i]? with | some o => Jb o | none => false) = true) (h1 : wpOpIn (FW ro) 0 P ops Q i X1 a w) (h2 : wpOpIn (FW ro) 0 P ops Q i X2 a w) :
  wpOpIn (FW ro) 0 P ops Q i (fun a w => X1 a w /\ X2 a w) a w := by
 unfold wpOpIn at *
 cases ho : ops[i]? with
 | none => rw [ho] at hb; cases hb
 | some o =>
  rw [ho] at h1 h2 hb;simp only at h1 h2 hb ⊢
  split
  ·rename_i hw
   rw [if_pos hw] at h1 h2;refine ⟨h1.1, ?_⟩;have k1 := h1.2;have k2 := h2.2
   have hv : ∀ x w', (o.semAt (FW ro).round a.eval).run P w = .ok x w' -> ∃ v, x = .value v := by
    intro x w' hr;unfold Jb at hb
    split at hb
    ·rename_i hop
     rw [Oper.semAt_eq _ _ _ (by rw [hop]; intro c h; cases h)] at hr;unfold execOp at hr;rw [hop] at hr;simp only [Sem.run_bind, Sem.run_pure] at hr;generalize hq : Sem.run P _ w = q at hr
     cases q with
     | ok v w'' => simp only [Result.andThen] at hr; cases hr; exact ⟨v, rfl⟩
     | halt z w'' => simp only [Result.andThen] at hr; cases hr
    ·cases hb
   cases hr : (o.semAt (FW ro).round a.eval).run P w with
   | ok x w' =>
    rw [hr] at k1 k2;obtain ⟨v, rfl⟩ := hv x w' hr;exact ⟨k1, k2⟩
   | halt x w' =>
    rw [hr] at k1 k2
    cases x <;> first | exact k1 | exact k1.elim
  ·rename_i hw
   rw [if_neg hw] at h1 h2;exact ⟨h1.1, h1.2, h2.2⟩
def kM : List Entry -> Option Nat
 | [] => none
 | (_, true, _) :: l => ql l
 | (_, false, _) :: l => kM l
theorem yx : ∀ (q l : List Entry), (∀ x ∈ q, x.2.1 = false) -> kM (q ++ l) = kM l
 | [], _, _ => rfl
 | (i, true, pd) :: q, l, h => by have := h (i, true, pd) (by simp); cases this
 | (i, false, pd) :: q, l, h => by
  rw [aC, kM];exact yx q l fun x hx => h x (aK _ hx)
theorem DInv.first {ops : Array Oper} {A : List (List Nat)} {K : Env -> State -> Prop} {D : List Nat} {w0 : World} {pre l : List Entry} {listed : Array Bool} {L : Env} {S : State} {a : Act} {w : World} {e : Nat}
  (h : DInv P n ops A K D w0 pre l listed L S a w) (he : ql l = some e) : ∃ pre' pd l' L', DInv P n ops A K D w0 pre' ((e, true, pd) :: l') listed L' S a w /\ kM l = ql l' := by
 obtain ⟨pre', l', L', h', g, q, k, z⟩ := h.norm2;rw [k, vG q l' z] at he
 rcases g with rfl | ⟨i, pd, l'', rfl⟩
 ·cases he
 ·simp only [ql, Option.some.injEq] at he;subst he;exact ⟨pre', pd, l'', L', h', by rw [k, yx q _ z]; rfl⟩
theorem WK {ops : Array Oper} {A1 A2 A3 : List (List Nat)} {K : Cont} {D : List Nat} {w0 : World} {x y z : Nat} {pd1 pd2 pd3 : List Nat} {L1 L2 L3 : Env} {S1 S2 S3 : State} {pre1 pre2 pre3 l1 l2 l3 : List Entry}
  (hc1 : Xh ops [(y, z)] A1 = true) (hc2 : Xh ops [(z, y), (x, z)] A2 = true) (hc3 : Xh ops [(z, x)] A3 = true) (nxz : x ≠ z) (nyz : y ≠ z) (nxy : x ≠ y) (hyx : x ∈ xX ops y) (hb : (match ops[x]? with | some o => Jb o | none => false) = true)
  (f1 : ql l1 = some y) (f2 : ql l2 = some z) :
  ∀ (fuel : Nat) (listed : Array Bool) (a : Act) (w : World), DInv P n ops A1 (K .normal D) D w0 pre1 ((x, true, pd1) :: l1) listed L1 S1 a w -> DInv P n ops A2 (K .normal D) D w0 pre2 ((x, true, pd2) :: l2) listed L2 S2 a w -> DInv P n ops A3 (K .normal D) D w0 pre3 ((z, true, pd3) :: l3) listed L3 S3 a w ->
  listed.getD x false = false -> listed.getD y false = false -> listed.getD z false = false -> ((bC ops.size).filter fun i => !listed.getD i false).length <= fuel -> wpAnyIn (FW ro) 0 P .any ops (KQ n K w0) fuel listed a w := by
 intro fuel
 induction fuel with
 | zero =>
  intro listed a w h _ _ _ _ _ hle;have hr := qd h.size hle;exact ⟨hr, jV h hr⟩
 | succ fuel ih =>
  intro listed a w h1 h2 h3 u1 u2 u3 hle;refine ⟨fun hr => jV h1 hr, fun i hi => ?_⟩;obtain ⟨him, hun, hdep⟩ := vW h1.size hi;have hsz : i < listed.size := by rw [h1.size]; exact him
  have hcount := vo him hsz hun hle
  by_cases ix : i = x
  ·subst ix
   have k1 := h1.effectX (ro := ro) (X := fun a w => ∃ pre L S, DInv P n ops A1 (K .normal D) D w0 pre l1 (listed.setIfInBounds i true) L S a w) him hun
    (jJ hc1 him h1.clos hdep (fun e he h => by simp only [dH] at he; subst he; exact absurd h nxz.symm)) (kT h1) fun pre L S a w h' => ⟨pre, L, S, h'⟩
   have k2 := h2.effectX (ro := ro) (X := fun a w => ∃ pre L S, DInv P n ops A2 (K .normal D) D w0 pre l2 (listed.setIfInBounds i true) L S a w) him hun
    (jJ hc2 him h2.clos hdep (fun e he h => by
     simp only [bA, aX, or_false] at he
     rcases he with rfl | rfl
     ·exact absurd h nxy.symm
     ·exact absurd h nxz.symm)) (kT h2) fun pre L S a w h' => ⟨pre, L, S, h'⟩
   refine wpOpIn_mono (fun a w hh => ?_) (wp_and hb k1 k2);obtain ⟨⟨q1, M1, T1, d1⟩, ⟨q2, M2, T2, d2⟩⟩ := hh;obtain ⟨r1, p1, m1, N1, d1, _⟩ := d1.first f1;obtain ⟨r2, p2, m2, N2, d2, _⟩ := d2.first f2;have hx : (listed.setIfInBounds i true).getD i false = true := by rw [zy hsz, if_pos rfl]
   refine OZ hc1 hc2 nyz (fun e he => ?_) (listed.setIfInBounds i true) (fun e he => ?_) fuel _ a w (fun j hj => hj) d1 d2 (by rw [zy hsz, if_neg nxy.symm]; exact u2) (by rw [zy hsz, if_neg nxz.symm]; exact u3) hcount
   ·simp only [dH] at he; subst he; exact ⟨rfl, rfl⟩
   ·simp only [bA, aX, or_false] at he
    rcases he with rfl | rfl
    ·exact .inl ⟨rfl, rfl⟩
    ·exact .inr ⟨rfl, hx⟩
  by_cases iz : i = z
  ·subst iz;exact h3.effectX him hun (jJ hc3 him h3.clos hdep (fun e he h => by simp only [dH] at he; subst he; exact absurd h nxz)) (kT h3) fun pre L S a w h' => yp hc3 fuel pre _ _ L S a w h' (fun e he => by simp only [dH] at he; subst he; rw [zy hsz, if_pos rfl]) hcount
  have iy : i ≠ y := fun e => by
   subst e;have := hdep x hyx;rw [u1] at this; cases this
  have a1 := jJ hc1 him h1.clos hdep (fun e he h => by simp only [dH] at he; subst he; exact absurd h.symm iz)
  have a2 := jJ hc2 him h2.clos hdep (fun e he h => by
   simp only [bA, aX, or_false] at he
   rcases he with rfl | rfl
   ·exact absurd h.symm iy
   ·exact absurd h.symm iz)
  have a3 := jJ hc3 him h3.clos hdep (fun e he h => by simp only [dH] at he; subst he; exact absurd h.symm ix);obtain ⟨o, v, ho, hy, hnd, h1'⟩ := h1.reckon hsz hun a1 (jv h1 him ix u1 a1);obtain ⟨o', v', ho', hy', hnd', h2'⟩ := h2.reckon hsz hun a2 (jv h2 him ix u1 a2);obtain ⟨o'', v'', ho'', hy'', hnd'', h3'⟩ := h3.reckon hsz hun a3 (jv h3 him iz u3 a3);obtain rfl := yW ho ho' hy hy';obtain rfl := yW ho ho'' hy hy'';rw [ho] at ho' ho''
  cases ho'
  cases ho''
  exact jL ho hy hnd (ih _ _ w h1' h2' h3' (by rw [zy hsz, if_neg (Ne.symm ix)]; exact u1) (by rw [zy hsz, if_neg (Ne.symm iy)]; exact u2) (by rw [zy hsz, if_neg (Ne.symm iz)]; exact u3) hcount)
def planB (ops : Array Oper) (A : List (List Nat)) (n : Nat) (pl : List Entry) : Bool := xi ops A n [] pl && ((bC ops.size).all fun i => pl.any (·.1 == i))
def okThree (ops : Array Oper) (x y z : Nat) (A1 A2 A3 : List (List Nat)) (n : Nat) (pl1 pl2 pl3 : List Entry) : Bool :=
 Xh ops [(y, z)] A1 && (Xh ops [(z, y), (x, z)] A2 && (Xh ops [(z, x)] A3 && (x != z && (y != z && (x != y && ((xX ops y).contains x && ((match ops[x]? with | some o => Jb o | none => false) &&
  (planB ops A1 n pl1 && (planB ops A2 n pl2 && (planB ops A3 n pl3 && (ql pl1 == some x && (ql pl2 == some x && (ql pl3 == some z && (kM pl1 == some y && kM pl2 == some z))))))))))))))
theorem kC {id : Nat} {ops : Array Oper} {K : Cont} {D : List Nat} {L : Env} {S : State} (x y z : Nat) (A1 : List (List Nat)) (pl1 : List Entry) (A2 : List (List Nat)) (pl2 : List Entry) (A3 : List (List Nat)) (pl3 : List Entry)
  (h1 : xj P n ops (K .normal D) pl1 L S) (h2 : xj P n ops (K .normal D) pl2 L S) (h3 : xj P n ops (K .normal D) pl3 L S) (hm : P.follows .mixedOrders = true := by kernel_rfl)
  (hok : okThree ops x y z A1 A2 A3 n pl1 pl2 pl3 = true := by kernel_rfl) : CodeW P n ro (.region id ops true) K D L S := by
 refine ⟨fun a w ha hw => ?_⟩;refine wpIn_region_any hm ?_;simp only [okThree, planB, aN, beq_iff_eq, bne_iff_ne, ne_eq, List.contains_eq_mem, decide_eq_true_eq] at hok;obtain ⟨c1, c2, c3, nxz, nyz, nxy, hyx, hb, ⟨p1, g1⟩, ⟨p2, g2⟩, ⟨p3, g3⟩, f1, f2, f3, s1, s2⟩ := hok;obtain ⟨q1, d1, m1, M1, k1, t1⟩ := (DInv.start (K := K) ha hw p1 g1 h1).first f1;obtain ⟨q2, d2, m2, M2, k2, t2⟩ := (DInv.start (K := K) ha hw p2 g2 h2).first f2;obtain ⟨q3, d3, m3, M3, k3, t3⟩ := (DInv.start (K := K) ha hw p3 g3 h3).first f3
 have h0 : ∀ i, (Array.replicate ops.size false).getD i false = false := by
  intro i; simp only [Array.getD_eq_getD_getElem?, Array.getElem?_replicate]; split <;> rfl
 exact WK c1 c2 c3 nxz nyz nxy hyx hb (t1.symm.trans s1) (t2.symm.trans s2) ops.size _ a _ k1 k2 k3 (h0 _) (h0 _) (h0 _) (dN (List.length_filter_le _ _) (by simp))
end Go.Ost
namespace Go.Tab
open Go.Ost
structure En (V : Type) where
 key : List UInt8
 v : V
 ahead : Int
 next : Int
variable {V : Type}
def hd : List Nat -> Int -> Int
 | [], n => n
 | i :: _, _ => i
def lst : Int -> List Nat -> Int
 | a, [] => a
 | _, i :: r => lst i r
def Lk (l : List (En V)) : Int -> List Nat -> Int -> Prop
 | _, [], _ => True
 | a, i :: r, n => (∃ e, l[i]? = some e /\ e.ahead = a /\ e.next = hd r n) /\ Lk l i r n
theorem hd_app (p q : List Nat) (n : Int) : hd (p ++ q) n = hd p (hd q n) := by cases p <;> rfl
theorem yi : ∀ (p q : List Nat) (a : Int), lst a (p ++ q) = lst (lst a p) q
 | [], q, a => rfl
 | i :: r, q, a => yi r q i
theorem kJ (l : List (En V)) : ∀ (p q : List Nat) (a n : Int), Lk l a (p ++ q) n ↔ Lk l a p (hd q n) /\ Lk l (lst a p) q n
 | [], q, a, n => by simp [Lk, lst]
 | i :: r, q, a, n => by
  simp only [aC, Lk, lst, hd_app, kJ l r q i n, and_assoc]
theorem ZA : ∀ (p : List Nat) (a : Int), p ≠ [] -> ∃ i ∈ p, lst a p = (i : Int)
 | [], a, h => absurd rfl h
 | [i], a, _ => ⟨i, by simp, rfl⟩
 | i :: j :: r, a, _ => by
  obtain ⟨k, hk, e⟩ := ZA (j :: r) i (by simp);exact ⟨k, aK _ hk, e⟩
theorem qn {l l' : List (En V)} : ∀ (p : List Nat) (a n : Int), (∀ i ∈ p, ∀ e, l[i]? = some e -> ∃ e', l'[i]? = some e' /\ e'.ahead = e.ahead /\ e'.next = e.next) -> Lk l a p n -> Lk l' a p n
 | [], a, n, _, _ => trivial
 | i :: r, a, n, h, hl => by
  obtain ⟨⟨e, h1, h2, h3⟩, h4⟩ := hl;obtain ⟨e', g1, g2, g3⟩ := h i (aB ..) e h1;exact ⟨⟨e', g1, by rw [g2, h2], by rw [g3, h3]⟩, qn r i n (fun j hj => h j (aK _ hj)) h4⟩
theorem lk_lt {l : List (En V)} : ∀ (p : List Nat) (a n : Int), Lk l a p n -> ∀ i ∈ p, i < l.length
 | [], _, _, _, i, hi => by cases hi
 | j :: r, a, n, h, i, hi => by
  obtain ⟨⟨e, h1, _⟩, h4⟩ := h
  rcases List.mem_cons.1 hi with rfl | hi
  ·exact (List.getElem?_eq_some_iff.1 h1).1
  ·exact lk_lt r j n h4 i hi
def setA (l : List (En V)) (i : Nat) (a : Int) : List (En V) := l.modify i fun e => { e with ahead := a }
def setN (l : List (En V)) (i : Nat) (n : Int) : List (En V) := l.modify i fun e => { e with next := n }
theorem jM (l : List (En V)) (i : Nat) (a : Int) : (setA l i a).length = l.length := by simp [setA]
theorem qx (l : List (En V)) (i : Nat) (n : Int) : (setN l i n).length = l.length := by simp [setN]
theorem Kq (l : List (En V)) {i j : Nat} (a : Int) (h : i ≠ j) : (setA l i a)[j]? = l[j]? := by simp [setA, dC, h]
theorem Zh (l : List (En V)) {i j : Nat} (a : Int) (h : i ≠ j) : (setN l i a)[j]? = l[j]? := by simp [setN, dC, h]
theorem Kr (l : List (En V)) {i : Nat} (a : Int) {e : En V} (h : l[i]? = some e) : (setA l i a)[i]? = some { e with ahead := a } := by simp [setA, dC, h]
theorem Kp (l : List (En V)) {i : Nat} (a : Int) {e : En V} (h : l[i]? = some e) : (setN l i a)[i]? = some { e with next := a } := by simp [setN, dC, h]
def kv (l : List (En V)) (i : Nat) : Option (List UInt8 × V) := (l[i]?).map fun e => (e.key, e.v)
theorem IY (l : List (En V)) (i j : Nat) (a : Int) : kv (setA l i a) j = kv l j := by
 simp only [kv, setA, dC]
 by_cases h : i = j
 ·subst h; cases l[i]? <;> simp
 ·cases l[j]? <;> simp [h]
theorem IX (l : List (En V)) (i j : Nat) (a : Int) : kv (setN l i a) j = kv l j := by
 simp only [kv, setN, dC]
 by_cases h : i = j
 ·subst h; cases l[i]? <;> simp
 ·cases l[j]? <;> simp [h]
def unL (l : List (En V)) (a n : Int) : List (En V) :=
 let l1 := if a = -1 then l else setN l a.toNat n
 if n = -1 then l1 else setA l1 n.toNat a
def unF (first a n : Int) : Int := if a = -1 then n else first
def unE (last a n : Int) : Int := if n = -1 then a else last
theorem Xn (l : List (En V)) (a n : Int) : (unL l a n).length = l.length := by
 unfold unL; split <;> split <;> simp [jM, qx]
theorem unL_kv (l : List (En V)) (a n : Int) (j : Nat) : kv (unL l a n) j = kv l j := by
 unfold unL; split <;> split <;> simp [IY, IX]
theorem Iw {l : List (En V)} {p q : List Nat} {i : Nat} (hn : (p ++ i :: q).Nodup) (h : Lk l (-1) (p ++ i :: q) (-1)) :
  Lk (unL l (lst (-1) p) (hd q (-1))) (-1) (p ++ q) (-1) /\ unF (hd (p ++ i :: q) (-1)) (lst (-1) p) (hd q (-1)) = hd (p ++ q) (-1) /\ unE (lst (-1) (p ++ i :: q)) (lst (-1) p) (hd q (-1)) = lst (-1) (p ++ q) := by
 obtain ⟨hp, ⟨⟨e, h1, h2, h3⟩, hq⟩⟩ := (kJ l p (i :: q) (-1) (-1)).1 h;have hp' : Lk l (-1) p i := hp
 have key1 : ∃ l1, l1 = (if lst (-1) p = -1 then l else setN l (lst (-1) p).toNat (hd q (-1))) /\ Lk l1 (-1) p (hd q (-1)) /\ ∀ j ∉ p, l1[j]? = l[j]? := by
  refine ⟨_, rfl, ?_⟩
  rcases List.eq_nil_or_concat p with rfl | ⟨p0, x, rfl⟩
  ·exact ⟨trivial, fun j _ => rfl⟩
  ·rw [List.concat_eq_append] at *;have hl : lst (-1) (p0 ++ [x]) = (x : Int) := by rw [yi]; rfl
   rw [hl, if_neg (by omega)]
   have hx : x ∉ p0 := by
    have := (List.nodup_append.1 hn).1;rw [List.nodup_append] at this;intro hm; exact this.2.2 x hm x (by simp) rfl
   obtain ⟨g1, ⟨⟨e1, k1, k2, k3⟩, _⟩⟩ := (kJ l p0 [x] (-1) i).1 hp';refine ⟨(kJ _ p0 [x] (-1) _).2 ⟨?_, ⟨⟨_, Kp l _ k1, k2, rfl⟩, trivial⟩⟩, fun j hj => ?_⟩
   ·refine qn p0 (-1) _ (fun j hj e' he' => ⟨e', ?_, rfl, rfl⟩) g1;rw [show ((x : Int)).toNat = x from by omega, Zh _ _ (fun e : x = j => hx (by rw [e]; exact hj))]; exact he'
   ·rw [show ((x : Int)).toNat = x from by omega];exact Zh _ _ (fun e => hj (by simp [e]))
 obtain ⟨l1, e1, hL1, hsame⟩ := key1
 have hq1 : Lk l1 i q (-1) := qn q i _ (fun j hj e' he' => ⟨e', by
  rw [hsame j (fun hm => (List.nodup_append.1 hn).2.2 j hm j (aK _ hj) rfl)]; exact he', rfl, rfl⟩) hq
 refine ⟨?_, ?_, ?_⟩
 ·unfold unL;simp only [<- e1]
  cases q with
  | nil =>
   simp only [hd, if_true, aL];exact hL1
  | cons x q0 =>
   have hx1 : ¬ (hd (x :: q0) (-1) = -1) := by show ¬ ((x : Int) = -1); omega
   rw [if_neg hx1, show (hd (x :: q0) (-1)).toNat = x from by show ((x : Int)).toNat = x; omega];have hxp : x ∉ p := fun hm => (List.nodup_append.1 hn).2.2 x hm x (by simp) rfl
   have hxq : x ∉ q0 := by
    have := (List.nodup_append.1 hn).2.1;rw [List.nodup_cons, List.nodup_cons] at this;exact this.2.1
   obtain ⟨⟨e2, m1, m2, m3⟩, hq2⟩ := hq1;refine (kJ _ p (x :: q0) (-1) _).2 ⟨qn p (-1) _ (fun j hj e' he' => ⟨e', by rw [Kq _ _ (fun e : x = j => hxp (by rw [e]; exact hj))]; exact he', rfl, rfl⟩) hL1, ⟨⟨_, Kr l1 _ m1, rfl, m3⟩, ?_⟩⟩;exact qn q0 x _ (fun j hj e' he' => ⟨e', by rw [Kq _ _ (fun e : x = j => hxq (by rw [e]; exact hj))]; exact he', rfl, rfl⟩) hq2
 ·unfold unF
  cases p with
  | nil => simp [lst, hd]
  | cons x p0 =>
   obtain ⟨k, _, hk⟩ := ZA (x :: p0) (-1) (by simp);rw [hk, if_neg (by omega)]; rfl
 ·unfold unE;rw [yi, yi]
  cases q with
  | nil => simp [lst, hd]
  | cons x q0 =>
   have hx1 : ¬ (hd (x :: q0) (-1) = -1) := by show ¬ ((x : Int) = -1); omega
   rw [if_neg hx1]; rfl
def haL (l : List (En V)) (i : Nat) (last : Int) : List (En V) :=
 let l1 := setN (setA l i last) i (-1)
 if last = -1 then l1 else setN l1 last.toNat i
def haF (first last : Int) (i : Nat) : Int := if last = -1 then i else first
theorem qr (l : List (En V)) (i : Nat) (last : Int) : (haL l i last).length = l.length := by
 unfold haL; split <;> simp [jM, qx]
theorem haL_kv (l : List (En V)) (i : Nat) (last : Int) (j : Nat) : kv (haL l i last) j = kv l j := by
 unfold haL; split <;> simp [IY, IX]
theorem hang_ok {l : List (En V)} {p : List Nat} {i : Nat} (hn : p.Nodup) (hi : i ∉ p) (hlt : i < l.length) (h : Lk l (-1) p (-1)) :
  Lk (haL l i (lst (-1) p)) (-1) (p ++ [i]) (-1) /\ haF (hd p (-1)) (lst (-1) p) i = hd (p ++ [i]) (-1) /\ (i : Int) = lst (-1) (p ++ [i]) := by
 have hge : l[i]? = some l[i] := aF hlt
 have hi1 : ∀ a, (setN (setA l i a) i (-1))[i]? = some { l[i] with ahead := a, next := -1 } := fun a => by
  rw [Kp _ _ (Kr l a hge)]
 have hne : ∀ a j, j ≠ i -> (setN (setA l i a) i (-1))[j]? = l[j]? := fun a j hj => by
  rw [Zh _ _ (Ne.symm hj), Kq _ _ (Ne.symm hj)]
 refine ⟨?_, ?_, by rw [yi]; rfl⟩
 ·unfold haL
  rcases List.eq_nil_or_concat p with rfl | ⟨p0, x, rfl⟩
  ·simp only [lst, if_true, aD];exact ⟨⟨_, hi1 _, rfl, rfl⟩, trivial⟩
  ·rw [List.concat_eq_append] at *;have hl : lst (-1) (p0 ++ [x]) = (x : Int) := by rw [yi]; rfl
   have hxi : x ≠ i := fun e => hi (by simp [e])
   have hx : x ∉ p0 := by
    rw [List.nodup_append] at hn;intro hm; exact hn.2.2 x hm x (by simp) rfl
   simp only [hl];rw [if_neg (by omega), show ((x : Int)).toNat = x from by omega];obtain ⟨g1, ⟨⟨e1, k1, k2, k3⟩, _⟩⟩ := (kJ l p0 [x] (-1) (-1)).1 h;refine (kJ _ (p0 ++ [x]) [i] (-1) (-1)).2 ⟨(kJ _ p0 [x] (-1) _).2 ⟨?_, ⟨⟨_, Kp _ _ (by rw [hne _ _ hxi]; exact k1), k2, rfl⟩, trivial⟩⟩, ⟨⟨_, by rw [Zh _ _ hxi]; exact hi1 _, by rw [hl], rfl⟩, trivial⟩⟩;refine qn p0 (-1) _ (fun j hj e' he' => ⟨e', ?_, rfl, rfl⟩) g1;rw [Zh _ _ (fun e : x = j => hx (by rw [e]; exact hj)), hne _ _ (fun e => hi (by simp [<- e, hj]))]; exact he'
 ·unfold haF
  cases p with
  | nil => simp [lst, hd]
  | cons x p0 =>
   obtain ⟨k, _, hk⟩ := ZA (x :: p0) (-1) (by simp);rw [hk, if_neg (by omega)]; rfl
end Go.Tab
namespace Go.Tab
open Go.Ost
variable {V : Type}
section maps
variable {α : Type}
theorem Uh (q k : List UInt8) (v : α) : ∀ m : List (List UInt8 × α), mget (mput m k v) q = if q = k then some v else mget m q
 | [] => by simp only [mput, mget]
 | (k', u) :: l => by
  have ih := Uh q k v l;simp only [mput]
  by_cases h1 : k = k'
  ·subst h1;rw [if_pos rfl];simp only [mget]
   by_cases h2 : q = k
   ·rw [if_pos h2, if_pos h2]
   ·rw [if_neg h2, if_neg h2, if_neg h2]
  ·rw [if_neg h1];simp only [mget, ih]
   by_cases h2 : q = k'
   ·rw [if_pos h2, if_pos h2, if_neg (by rw [h2]; exact fun e => h1 e.symm)]
   ·rw [if_neg h2, if_neg h2]
theorem vY {q : List UInt8} : ∀ {m : List (List UInt8 × α)}, mget m q = none ↔ q ∉ m.map (·.1)
 | [] => by simp [mget]
 | (k, u) :: l => by
  simp only [mget, aZ, bA, not_or]
  by_cases h : q = k
  ·rw [if_pos h]; simp [h]
  ·rw [if_neg h, vY]; simp [h]
theorem Uj (q k : List UInt8) : ∀ m : List (List UInt8 × α), (m.map (·.1)).Nodup -> mget (mdel m k) q = if q = k then none else mget m q
 | [], _ => by simp [mdel, mget]
 | (k', u) :: l, hn => by
  rw [aZ, List.nodup_cons] at hn;have ih := Uj q k l hn.2;simp only [mdel]
  by_cases h1 : k = k'
  ·subst h1;rw [if_pos rfl]
   by_cases h2 : q = k
   ·subst h2; rw [if_pos rfl]; exact vY.2 hn.1
   ·rw [if_neg h2]; simp only [mget]; rw [if_neg h2]
  ·rw [if_neg h1];simp only [mget, ih]
   by_cases h2 : q = k'
   ·rw [if_pos h2, if_pos h2, if_neg (by rw [h2]; exact fun e => h1 e.symm)]
   ·rw [if_neg h2, if_neg h2]
theorem Zz (k : List UInt8) : ∀ m : List (List UInt8 × α), (mdel m k).map (·.1) = (m.map (·.1)).erase k
 | [] => rfl
 | (k', u) :: l => by
  simp only [mdel, aZ, List.erase_cons]
  by_cases h : k = k'
  ·subst h; simp
  ·rw [if_neg h, if_neg (by simpa using fun e => h e.symm), aZ, Zz k l]
theorem vC (k : List UInt8) (v : α) : ∀ m : List (List UInt8 × α), mget m k ≠ none -> (mput m k v).map (·.1) = m.map (·.1)
 | [], h => absurd rfl h
 | (k', u) :: l, h => by
  simp only [mput]
  by_cases h1 : k = k'
  ·subst h1; simp
  ·rw [if_neg h1, aZ, aZ, vC k v l (by simpa [mget, h1] using h)]
theorem yO (k : List UInt8) (v : α) : ∀ m : List (List UInt8 × α), mget m k = none -> mput m k v = m ++ [(k, v)]
 | [], _ => rfl
 | (k', u) :: l, h => by
  simp only [mget] at h;simp only [mput]
  by_cases h1 : k = k'
  ·rw [if_pos h1] at h; cases h
  ·rw [if_neg h1] at h ⊢; rw [yO k v l h]; rfl
theorem ve {k : List UInt8} {v : α} {m : List (List UInt8 × α)} (h : mget m k = some v) : ∃ pre post, m = pre ++ (k, v) :: post /\ (∀ u, mput m k u = pre ++ (k, u) :: post) /\ mdel m k = pre ++ post /\ mfind m k 0 = some (pre.length, v) := by
 cases hf : mfind m k 0 with
 | none => rw [(vg m 0 hf).1] at h; cases h
 | some p =>
  obtain ⟨pre, post, h1, h2, h3, h4, h5⟩ := vf (j := p.1) (v := p.2) m 0 hf;rw [h3] at h; cases h
  refine ⟨pre, post, h1, h4, h5, ?_⟩;have : p.1 = pre.length := by omega
  rw [<- this]
theorem Ui {k : List UInt8} {v : α} : ∀ {m : List (List UInt8 × α)}, (m.map (·.1)).Nodup -> (mget m k = some v ↔ (k, v) ∈ m)
 | [], _ => by simp [mget]
 | (k', u) :: l, hn => by
  rw [aZ, List.nodup_cons] at hn;simp only [mget, bA, Prod.mk.injEq]
  by_cases h : k = k'
  ·subst h;rw [if_pos rfl]
   constructor
   ·intro e; cases e; exact .inl ⟨rfl, rfl⟩
   ·rintro (⟨_, rfl⟩ | hm)
    ·rfl
    ·exact absurd (List.mem_map.2 ⟨_, hm, rfl⟩) hn.1
  ·rw [if_neg h, Ui hn.2]
   simp [h]
end maps
structure Rep (l : List (En V)) (free : List Nat) (m : List (List UInt8 × Nat)) (pl : List Nat) (es : List (List UInt8 × V)) : Prop where
 nd : (pl ++ free).Nodup
 lt : ∀ i ∈ free, i < l.length
 lk : Lk l (-1) pl (-1)
 row : pl.map (kv l) = es.map some
 keys : (es.map (·.1)).Nodup
 mp : ∀ k i, mget m k = some i ↔ i ∈ pl /\ (kv l i).map (·.1) = some k
 mnd : (m.map (·.1)).Nodup
 mlen : m.length = es.length
theorem Rep.pl_len {l : List (En V)} {free : List Nat} {m : List (List UInt8 × Nat)} {pl : List Nat} {es : List (List UInt8 × V)} (h : Rep l free m pl es) : pl.length = es.length := by
 have := congrArg cV h.row; simpa using this
theorem Rep.at {l : List (En V)} {free : List Nat} {m : List (List UInt8 × Nat)} {pl : List Nat} {es : List (List UInt8 × V)} (h : Rep l free m pl es) {k : List UInt8} {i : Nat} (hi : mget m k = some i) :
  ∃ v p q pre post, pl = p ++ i :: q /\ es = pre ++ (k, v) :: post /\ p.length = pre.length /\ kv l i = some (k, v) /\ mget es k = some v /\ mdel es k = pre ++ post /\ (∀ u, mput es k u = pre ++ (k, u) :: post) /\ p.map (kv l) = pre.map some /\ q.map (kv l) = post.map some := by
 obtain ⟨hm, hk⟩ := (h.mp k i).1 hi;obtain ⟨p, q, rfl⟩ := List.append_of_mem hm;have he := h.row;rw [cL, aZ] at he;have hlen : p.length + (q.length + 1) = es.length := by have := h.pl_len; simpa using this
 obtain ⟨pre, x, post, rfl, hpl⟩ : ∃ pre x post, es = pre ++ x :: post /\ pre.length = p.length := by
  have hlt : p.length < es.length := by omega
  exact ⟨es.take p.length, es[p.length], es.drop (p.length + 1), by rw [<- bK, cR], by simp; omega⟩
 rw [cL, aZ] at he;obtain ⟨e1, e2⟩ := List.append_inj he (by simp [hpl]);obtain ⟨e3, e4⟩ := List.cons.inj e2;obtain ⟨k', v⟩ := x;rw [e3] at hk;simp only [dE, Option.some.injEq] at hk;subst hk;have hg : mget (pre ++ (k', v) :: post) k' = some v := (Ui h.keys).2 (by simp);obtain ⟨pre', post', g1, g2, g3, g4⟩ := ve hg
 have hpp : pre' = pre /\ post' = post := by
  have hk2 := h.keys
  have : ∀ (a a' b b' : List (List UInt8 × V)), a ++ (k', v) :: b = a' ++ (k', v) :: b' -> ((a ++ (k', v) :: b).map (·.1)).Nodup -> a = a' /\ b = b' := by
   intro a
   induction a with
   | nil =>
    intro a' b b' e hn
    cases a' with
    | nil => simp at e; exact ⟨rfl, e⟩
    | cons y a' =>
     simp only [aD, aC, List.cons.injEq] at e;obtain ⟨rfl, rfl⟩ := e
     simp at hn
   | cons x a ih =>
    intro a' b b' e hn
    cases a' with
    | nil =>
     simp only [aD, aC, List.cons.injEq] at e;obtain ⟨rfl, rfl⟩ := e
     simp at hn
    | cons y a' =>
     simp only [aC, List.cons.injEq] at e;obtain ⟨rfl, e⟩ := e;obtain ⟨h1, h2⟩ := ih a' b b' e (by simp only [aC, aZ, List.nodup_cons] at hn; exact hn.2);exact ⟨by rw [h1], h2⟩
  obtain ⟨h1, h2⟩ := this pre pre' post post' g1 hk2;exact ⟨h1.symm, h2.symm⟩
 obtain ⟨rfl, rfl⟩ := hpp;exact ⟨v, p, q, pre', post', rfl, rfl, hpl.symm, e3, hg, g3, g2, e1, e4⟩
theorem Rep.miss {l : List (En V)} {free : List Nat} {m : List (List UInt8 × Nat)} {pl : List Nat} {es : List (List UInt8 × V)} (h : Rep l free m pl es) {k : List UInt8} : mget m k = none ↔ mget es k = none := by
 constructor
 ·intro hm;rw [vY];intro hk;obtain ⟨⟨k', v⟩, hkv, rfl⟩ := List.mem_map.1 hk;have : some (k', v) ∈ pl.map (kv l) := by rw [h.row]; exact List.mem_map.2 ⟨_, hkv, rfl⟩
  obtain ⟨i, hi, e⟩ := List.mem_map.1 this;have := (h.mp k' i).2 ⟨hi, by rw [e]; rfl⟩;rw [hm] at this; cases this
 ·intro he
  cases hm : mget m k with
  | none => rfl
  | some i =>
   obtain ⟨v, _, _, _, _, _, _, _, _, h5, _⟩ := h.at hm;rw [h5] at he; cases he
theorem qe {l l' : List (En V)} {pl : List Nat} (h : ∀ j ∈ pl, kv l' j = kv l j) : pl.map (kv l') = pl.map (kv l) := List.map_congr_left h
theorem Rep.put {l l' : List (En V)} {free free' : List Nat} {m : List (List UInt8 × Nat)} {pl : List Nat} {es : List (List UInt8 × V)} (h : Rep l free m pl es) {k : List UInt8} {v : V} {i : Nat}
  (hk : mget es k = none) (hs : ∀ j ∈ pl, l'[j]? = l[j]?) (hi : kv l' i = some (k, v)) (hn : (pl ++ i :: free').Nodup) (hf : ∀ j ∈ free', j < l'.length) :
  Rep (haL l' i (lst (-1) pl)) free' (mput m k i) (pl ++ [i]) (es ++ [(k, v)]) /\ haF (hd pl (-1)) (lst (-1) pl) i = hd (pl ++ [i]) (-1) /\ (i : Int) = lst (-1) (pl ++ [i]) := by
 have hlt : i < l'.length := by
  unfold kv at hi
  cases hl : l'[i]? with
  | none => rw [hl] at hi; cases hi
  | some e => exact (List.getElem?_eq_some_iff.1 hl).1
 have hn1 := List.nodup_append.1 hn;have hip : i ∉ pl := fun hm => hn1.2.2 i hm i (by simp) rfl
 have hk' : ∀ j ∈ pl, kv l' j = kv l j := fun j hj => by simp only [kv, hs j hj]
 obtain ⟨g1, g2, g3⟩ := hang_ok hn1.1 hip hlt (qn pl (-1) (-1) (fun j hj e he => ⟨e, by rw [hs j hj]; exact he, rfl, rfl⟩) h.lk);have hmk : mget m k = none := h.miss.2 hk;refine ⟨⟨by simpa using hn, fun j hj => by rw [qr]; exact hf j hj, g1, ?_, ?_, ?_, ?_, ?_⟩, g2, g3⟩
 ·rw [cL, cL, qe (fun j hj => (haL_kv _ _ _ j).trans (hk' j hj)), h.row]
  simp [haL_kv, hi]
 ·rw [cL, List.nodup_append];refine ⟨h.keys, by simp, fun x hx y hy e => ?_⟩
  simp at hy; subst hy; subst e
  exact vY.1 hk hx
 ·intro k1 i1;rw [Uh, haL_kv]
  by_cases hkk : k1 = k
  ·subst hkk;rw [if_pos rfl]
   constructor
   ·intro e; cases e; exact ⟨by simp, by rw [hi]; rfl⟩
   ·rintro ⟨hm, he⟩
    rcases List.mem_append.1 hm with hm | hm
    ·rw [hk' i1 hm] at he;have := (h.mp k1 i1).2 ⟨hm, he⟩;rw [hmk] at this; cases this
    ·simp at hm; rw [hm]
  ·rw [if_neg hkk, h.mp]
   constructor
   ·rintro ⟨hm, he⟩; exact ⟨bD _ hm, by rw [hk' i1 hm]; exact he⟩
   ·rintro ⟨hm, he⟩
    rcases List.mem_append.1 hm with hm | hm
    ·exact ⟨hm, by rw [<- hk' i1 hm]; exact he⟩
    ·simp at hm; subst hm
     rw [hi] at he
     simp at he
     exact absurd he.symm hkk
 ·rw [yO _ _ _ hmk, cL, List.nodup_append];refine ⟨h.mnd, by simp, fun x hx y hy e => ?_⟩
  simp at hy; subst hy; subst e
  exact vY.1 hmk hx
 ·rw [yO _ _ _ hmk]; simp [h.mlen]
def setV (l : List (En V)) (i : Nat) (v : V) : List (En V) := l.modify i fun e => { e with v := v }
theorem qw (l : List (En V)) (i : Nat) (v : V) : (setV l i v).length = l.length := by simp [setV]
theorem Rep.set {l : List (En V)} {free : List Nat} {m : List (List UInt8 × Nat)} {pl : List Nat} {es : List (List UInt8 × V)} (h : Rep l free m pl es) {k : List UInt8} {i : Nat} (hi : mget m k = some i) (v : V) :
  Rep (setV l i v) free m pl (mput es k v) := by
 obtain ⟨u, p, q, pre, post, rfl, rfl, hlen, hkv, hg, hd, hp, e1, e2⟩ := h.at hi;have hn := List.nodup_append.1 (List.nodup_append.1 h.nd).1;have hother : ∀ j, j ≠ i -> (setV l i v)[j]? = l[j]? := fun j hj => by simp [setV, dC, Ne.symm hj]
 have hkey : ∀ j, (kv (setV l i v) j).map (·.1) = (kv l j).map (·.1) := fun j => by
  simp only [kv, setV, dC]
  by_cases hj : i = j
  ·subst hj; cases l[i]? <;> simp
  ·cases l[j]? <;> simp [hj]
 have hip : i ∉ p := fun hm => hn.2.2 i hm i (by simp) rfl
 have hiq : i ∉ q := (List.nodup_cons.1 hn.2.1).1;refine ⟨h.nd, fun j hj => by rw [qw]; exact h.lt j hj, ?_, ?_, ?_, ?_, h.mnd, ?_⟩
 ·refine qn _ _ _ (fun j hj e he => ?_) h.lk
  by_cases hji : j = i
  ·subst hji; exact ⟨{ e with v := v }, by simp [setV, dC, he], rfl, rfl⟩
  ·exact ⟨e, by rw [hother j hji]; exact he, rfl, rfl⟩
 ·rw [hp v, cL, aZ, cL, aZ, <- e1, <- e2]
  congr 1
  ·exact qe fun j hj => by simp only [kv, hother j (fun e : j = i => hip (by rw [<- e]; exact hj))]
  ·congr 1
   ·simp only [kv] at hkv ⊢
    cases hl : l[i]? with
    | none => rw [hl] at hkv; cases hkv
    | some e => rw [hl] at hkv; simp at hkv; simp [setV, dC, hl, hkv.1]
   ·exact qe fun j hj => by simp only [kv, hother j (fun e : j = i => hiq (by rw [<- e]; exact hj))]
 ·rw [vC _ _ _ (by rw [hg]; simp)]; exact h.keys
 ·intro k1 i1; rw [hkey]; exact h.mp k1 i1
 ·rw [hp v]; have := h.mlen; simpa using this
theorem Rep.drop {l : List (En V)} {free : List Nat} {m : List (List UInt8 × Nat)} {pl : List Nat} {es : List (List UInt8 × V)} (h : Rep l free m pl es) {k : List UInt8} {i : Nat} (hi : mget m k = some i) (z : En V) :
  ∃ a n e, l[i]? = some e /\ e.ahead = a /\ e.next = n /\ (a = -1 ∨ ∃ j : Nat, a = j /\ j < l.length) /\ (n = -1 ∨ ∃ j : Nat, n = j /\ j < l.length) /\
   ∃ pl', Rep ((unL l a n).set i z) (free ++ [i]) (mdel m k) pl' (mdel es k) /\ unF (hd pl (-1)) a n = hd pl' (-1) /\ unE (lst (-1) pl) a n = lst (-1) pl' := by
 obtain ⟨v, p, q, pre, post, rfl, rfl, hlen, hkv, hg, hdel, hp, e1, e2⟩ := h.at hi;have hn0 := List.nodup_append.1 h.nd;have hn := List.nodup_append.1 hn0.1;have hip : i ∉ p := fun hm => hn.2.2 i hm i (by simp) rfl
 have hiq : i ∉ q := (List.nodup_cons.1 hn.2.1).1;have hif : i ∉ free := fun hm => hn0.2.2 i (by simp) i hm rfl
 have hlt := lk_lt _ _ _ h.lk;obtain ⟨_, ⟨⟨e, h1, h2, h3⟩, _⟩⟩ := (kJ l p (i :: q) (-1) (-1)).1 h.lk;obtain ⟨g1, g2, g3⟩ := Iw hn0.1 h.lk;refine ⟨lst (-1) p, Tab.hd q (-1), e, h1, h2, h3, ?_, ?_, p ++ q, ?_, g2, g3⟩
 ·cases p with
  | nil => exact .inl rfl
  | cons x p0 =>
   obtain ⟨j, hj, ej⟩ := ZA (x :: p0) (-1) (by simp);exact .inr ⟨j, ej, hlt j (bD _ hj)⟩
 ·cases q with
  | nil => exact .inl rfl
  | cons x q0 => exact .inr ⟨x, rfl, hlt x (by simp)⟩
 ·have hne : ∀ j, j ≠ i -> ((unL l (lst (-1) p) (Tab.hd q (-1))).set i z)[j]? = (unL l (lst (-1) p) (Tab.hd q (-1)))[j]? := fun j hj => List.getElem?_set_ne (Ne.symm hj)
  have hkvne : ∀ j, j ≠ i -> kv ((unL l (lst (-1) p) (Tab.hd q (-1))).set i z) j = kv l j := fun j hj => by
   rw [<- unL_kv l (lst (-1) p) (Tab.hd q (-1)) j]; simp only [kv, hne j hj]
  refine ⟨?_, ?_, ?_, ?_, ?_, ?_, ?_, ?_⟩
  ·have hperm : (p ++ i :: q ++ free).Perm (p ++ q ++ (free ++ [i])) := by
    rw [aM, aM, aC];refine List.Perm.append_left p ?_;rw [<- aM];exact (List.perm_append_singleton i (q ++ free)).symm
   exact hperm.nodup_iff.1 h.nd
  ·intro j hj;rw [dF, Xn]
   rcases List.mem_append.1 hj with hj | hj
   ·exact h.lt j hj
   ·simp at hj; subst hj; exact hlt j (by simp)
  ·refine qn _ _ _ (fun j hj e' he' => ⟨e', ?_, rfl, rfl⟩) g1
   rw [hne j (fun e => by
    subst e
    rcases List.mem_append.1 hj with hj | hj
    ·exact hip hj
    ·exact hiq hj)]
   exact he'
  ·rw [hdel, cL, cL, <- e1, <- e2]
   congr 1
   ·exact qe fun j hj => hkvne j (fun e : j = i => hip (by rw [<- e]; exact hj))
   ·exact qe fun j hj => hkvne j (fun e : j = i => hiq (by rw [<- e]; exact hj))
  ·rw [Zz]; exact h.keys.erase _
  ·intro k1 i1;rw [Uj _ _ _ h.mnd]
   by_cases hkk : k1 = k
   ·subst hkk;rw [if_pos rfl]
    constructor
    ·intro e; cases e
    ·rintro ⟨hm, he⟩
     have hm' : i1 ∈ p ++ i :: q := by
      rcases List.mem_append.1 hm with hm | hm
      ·exact bD _ hm
      ·exact List.mem_append_right _ (aK _ hm)
     have hne1 : i1 ≠ i := fun e => by
      subst e
      rcases List.mem_append.1 hm with hm | hm
      ·exact hip hm
      ·exact hiq hm
     rw [hkvne i1 hne1] at he;have := (h.mp k1 i1).2 ⟨hm', he⟩;rw [hi] at this
     cases this
     exact absurd rfl hne1
   ·rw [if_neg hkk, h.mp]
    constructor
    ·rintro ⟨hm, he⟩
     have hne1 : i1 ≠ i := fun e => by
      subst e;rw [hkv] at he
      simp at he
      exact hkk he.symm
     refine ⟨?_, by rw [hkvne i1 hne1]; exact he⟩
     rcases List.mem_append.1 hm with hm | hm
     ·exact bD _ hm
     ·rcases List.mem_cons.1 hm with rfl | hm
      ·exact absurd rfl hne1
      ·exact List.mem_append_right _ hm
    ·rintro ⟨hm, he⟩
     have hne1 : i1 ≠ i := fun e => by
      subst e
      rcases List.mem_append.1 hm with hm | hm
      ·exact hip hm
      ·exact hiq hm
     refine ⟨?_, by rw [<- hkvne i1 hne1]; exact he⟩
     rcases List.mem_append.1 hm with hm | hm
     ·exact bD _ hm
     ·exact List.mem_append_right _ (aK _ hm)
  ·rw [Zz]; exact h.mnd.erase _
  ·have h5 := h.mlen
   have h6 : (mdel m k).length = m.length - 1 := by
    obtain ⟨a, b, c1, c2, c3, c4⟩ := ve hi;rw [c3, c1]; simp
   rw [h6, hdel, h5]; simp
theorem Rep.new : Rep ([] : List (En V)) [] [] [] [] :=
 ⟨by simp, by simp, trivial, rfl, by simp, fun k i => by simp [mget], by simp, rfl⟩
end Go.Tab
namespace Go.Ost
open Go
variable {P : Program}
theorem IV (o : Nat) (tl : List Value) : ∀ (l p r : List Value) (j : Nat), r.length = l.length -> p.length = o + j ->
  (l.zipIdx j).foldl (fun (cs : Array Value) (x : Value × Nat) => cs.setIfInBounds (o + x.2) x.1) (p ++ (r ++ tl)).toArray = (p ++ (l ++ tl)).toArray
 | [], p, [], j, _, _ => by simp
 | v :: l, p, x :: r, j, hl, hp => by
  rw [List.zipIdx_cons, List.foldl_cons];have ih := IV o tl l (p ++ [v]) r (j + 1) (by simpa using hl) (by rw [aA, aI]; omega)
  have e : (p ++ (x :: r ++ tl)).toArray.setIfInBounds (o + j) v = (p ++ [v] ++ (r ++ tl)).toArray := by
   apply cS; rw [<- hp]; simp
  rw [e, ih]; simp
theorem Vo {s : Nat} : ∀ (rows : List (List Value)) (done rest : List Value) (j : Nat), (∀ r ∈ rows, r.length = s) -> done.length = j * s -> rest.length = rows.length * s ->
  Instr.fill (fun i => some (i * s, s)) (done ++ rest).toArray ((rows.zipIdx j).map fun x => (x.2, Value.agg x.1.toArray)) = some (done ++ rows.flatten).toArray
 | [], done, rest, j, _, _, hr => by
  have : rest = [] := List.length_eq_zero_iff.1 (by simpa using hr);subst this; simp [Instr.fill]
 | r :: rows, done, rest, j, hl, hd, hr => by
  have hrs := hl r (aB ..);rw [aJ, cP, Nat.one_mul] at hr;have hu : (rest.take s).length = s := by rw [aU]; omega
  have hut : rest = rest.take s ++ rest.drop s := (cR s rest).symm;have hdl : (rest.drop s).length = rows.length * s := by rw [aT]; omega
  generalize rest.take s = u at *;generalize rest.drop s = tl at *;subst hut;simp only [List.zipIdx_cons, aZ, Instr.fill];have e1 : (Value.agg r.toArray).cells = r.toArray := rfl;rw [e1, if_neg (by simp [hrs]; omega)];have h1 := IV (j * s) tl r done u 0 (by omega) (by omega);have h2 := Vo rows (done ++ r) tl (j + 1) (fun x hx => hl x (aK _ hx)) (by rw [aA, cP]; omega) hdl;rw [show done ++ (r ++ tl) = done ++ r ++ tl from by simp] at h1;rw [aO, show done ++ (r ++ rows.flatten) = done ++ r ++ rows.flatten from by simp, <- h2, <- h1]
  simp
theorem wQ {t e : TypeId} {z : Value} {s by_ : Nat} [ht : zR P t e] [hs : zh P e z s by_] (rows : List (List Value)) {n : Nat} {ps : List (Nat × Value)} (hps : ps = (rows.zipIdx 0).map fun x => (x.2, Value.agg x.1.toArray)) (hn : rows.length = n) (h0 : 0 < s) (hn0 : 0 < n) (hs2 : n * s <= 100000) (hv : ∀ r ∈ rows, r.length = s) {S : State} {κ : Value -> State -> Prop}
  (k : ∀ b C, Own s e C (some ⟨b, 0, none⟩) n n rows.flatten -> κ (.slice (some ⟨b, 0, none⟩) n n) (C :: S)) : ValW P (Instr.buildSlice t n ps.toArray) S κ := by
 subst hps
 have hfl : ∀ rows : List (List Value), (∀ r ∈ rows, r.length = s) -> rows.flatten.length = rows.length * s := by
  intro rows
  induction rows with
  | nil => intro _; simp
  | cons r rows ih =>
   intro h;rw [aO, aA, aJ, cP, ih fun x hx => h x (aK _ hx), h r (aB ..)]; omega
 have hlen := hfl rows hv;rw [hn] at hlen;have hnle : n <= n * s := Nat.le_mul_of_pos_right n h0;refine ⟨fun w hw => ?_⟩;refine ⟨_, { w with heap := w.heap.push (.cells rows.flatten.toArray e) }, _, ?_, vH rfl, hw.new rfl, k _ _ ⟨aR _, by simp only [maxLen]; omega, by omega, .inr ⟨_, 0, _, (0, 0), rfl, rfl, .inl rfl, by simp [hlen], fun i hi => by simp⟩⟩⟩
 have hfill : ∀ cells : Array Value, cells.size = n * s -> Instr.fill (fun i => some (i * s, s)) cells ((rows.zipIdx 0).map fun x => (x.2, Value.agg x.1.toArray)) = some rows.flatten.toArray := by
  intro cells hc;have := Vo rows [] cells.toList 0 hv (by simp) (by rw [hn]; simpa using hc)
  simpa using this
 have hne : ¬ (n * s = 0) := by have := Nat.mul_pos hn0 h0; omega
 have hle : ¬ 16777216 < n * s := by omega
 simp only [Instr.buildSlice, Sem.run_bind, zx ht.und, zt hs, zD hs, Result.andThen];rw [show (2 : Nat) ^ 24 = 16777216 from rfl, if_neg hle, if_neg hne];simp only [Sem.run_bind, Sem.run_pure, Result.andThen, zD hs];rw [hfill _ (by simp)]
 simp [newRow, newObj, Sem.run_bind, Sem.run, Result.andThen]
end Go.Ost
namespace Go.Ost
open Go Go.ChangeShapes Go.WideShapes Go.ChangeAt Go.RowKit Go.Deep
variable {P : Program} {H : Type} {enc : TypeId × Value -> H} {W : World}
def litV : Lit -> Value
 | .int k n => .int k n
 | _ => undef
theorem Vp : ∀ (fs : List Field) (ks : List FK) (i j : Nat) (f : Field), kY P i fs ks = true -> fs[j]? = some f -> ∃ k, ks[j]? = some k /\ f.offset = i + j /\ fkB P f.type k = true
 | [], ks, i, j, f, h, hf => by simp at hf
 | g :: fs, [], i, j, f, h, hf => by cases h
 | g :: fs, k :: ks, i, 0, f, h, hf => by
  simp only [kY, aN, beq_iff_eq] at h;simp only [cE, Option.some.injEq] at hf;subst hf;exact ⟨k, rfl, h.1, h.2.1⟩
 | g :: fs, k :: ks, i, j + 1, f, h, hf => by
  simp only [kY, aN, beq_iff_eq] at h;obtain ⟨k', h1, h2, h3⟩ := Vp fs ks (i + 1) j f h.2.2 (by simpa using hf);exact ⟨k', by simpa using h1, by omega, h3⟩
theorem XL : ∀ (fs : List Field) (ks : List FK) (i : Nat), kY P i fs ks = true -> fs.length = ks.length
 | [], [], _, _ => rfl
 | [], _ :: _, _, h => by cases h
 | _ :: _, [], _, h => by cases h
 | f :: fs, k :: ks, i, h => by
  simp only [kY, aN, beq_iff_eq] at h
  simp [XL fs ks (i + 1) h.2.2]
theorem Kd {base : Nat} {sp : Nat -> Bool} {held : Bool} {fuel : Nat} {e : TypeId} {ks : List IntKind} {ch : List Value} {r : List Lit} {q : List MemPlace} (hr : rowB P e (ks.map FK.int) = true)
  (h : DataW.trod enc P W base sp held fuel e ch = some (.agg (r.map DataW.lit), q)) : ch = r.map litV /\ ch.length = ks.length := by
 unfold rowB at hr
 split at hr
 ·rename_i fs hu
  simp only [aN, beq_iff_eq, decide_eq_true_eq, bE] at hr;obtain ⟨hfs, hce, hpos⟩ := hr;have hfl := XL _ _ _ hfs;rw [bE, Array.length_toList] at hfl;obtain ⟨xs, m, _, hx, hl, hxl, hf⟩ := DataW.trod_struct hu h
  have hx1 : r.map (DataW.lit (H := H)) = xs.map (·.1) := by
   have := congrArg Prod.fst hx
   simpa using this
  have hrl : r.length = ks.length := by
   have := congrArg cV hx1;rw [bE, bE] at this; omega
  refine ⟨?_, by rw [hl, hce]⟩
  apply List.ext_getElem?
  intro j
  by_cases hj : j < ks.length
  ·have hfj : fs.toList[j]? = some fs[j] := by rw [Array.getElem?_toList]; exact Array.getElem?_eq_getElem (by omega)
   obtain ⟨k, hk, ho, hkb⟩ := Vp _ _ _ _ _ hfs hfj;rw [cN] at hk;obtain ⟨k0, _, rfl⟩ := Option.map_eq_some_iff.1 hk;have h1 := hf j fs[j] (Array.getElem?_eq_getElem (by omega));rw [aF (by omega)] at h1;simp only [fkB] at hkb
   split at hkb
   ·rename_i k' hu2
    simp only [aN, beq_iff_eq] at hkb;obtain ⟨rfl, hc1⟩ := hkb;obtain ⟨n, hcs, hxn, _⟩ := DataW.trod_int hu2 h1;rw [hc1, ho, cD] at hcs
    have hch : ch[j]? = some (.int k' n) := by
     have := congrArg (·[0]?) hcs
     simpa [List.getElem?_take, List.getElem?_drop] using this
    have hrj : (r.map (DataW.lit (H := H)))[j]? = some (.lit (.int k' n)) := by
     rw [hx1, cN, aF (by omega), hxn]; rfl
    rw [cN] at hrj;obtain ⟨y, hy, he⟩ := Option.map_eq_some_iff.1 hrj;simp only [DataW.lit.injEq] at he;rw [hch, cN, hy, he]; rfl
   ·cases hkb
  ·rw [List.getElem?_eq_none (by rw [hl, hce]; omega), List.getElem?_eq_none (by rw [bE]; omega)]
 ·cases hr
theorem rows_lits {base : Nat} {sp : Nat -> Bool} {held : Bool} {fuel : Nat} {t e : TypeId} {n : Nat} {ks : List IntKind} {cs : List Value} {rows : List (List Lit)} {q : List MemPlace} (ht : P.underlying t = some (.array n e)) (hr : rowB P e (ks.map FK.int) = true) (hce : P.cellsOf e = ks.length) (hpos : 0 < ks.length) (hct : P.cellsOf t = n * ks.length)
  (h : DataW.trod enc P W base sp held fuel t cs = some (.agg (rows.map fun r => .agg (r.map DataW.lit)), q)) : cs = rows.flatMap fun r => r.map litV := by
 cases fuel with
 | zero => simp [DataW.trod] at h
 | succ fuel =>
  simp only [DataW.trod, ht, hce, hct] at h
  split at h
  ·rename_i hl
   obtain ⟨xs, hm, hx⟩ := Option.map_eq_some_iff.1 h
   have hxs : xs.map (·.1) = rows.map fun r => (DataW.agg (r.map DataW.lit) : DataW H) := by
    have := congrArg Prod.fst hx
    simpa using this
   have hxl : xs.length = n := by simpa using Lib.mapM_length hm
   have hrl : rows.length = n := by
    have := congrArg cV hxs;rw [bE, bE] at this; omega
   have key : ∀ i, (hi : i < n) -> (cs.drop (i * ks.length)).take ks.length = (rows[i]'(by omega)).map litV := by
    intro i hi;obtain ⟨b, hb, hf⟩ := Lib.mapM_at hm i i (by simp [hi])
    have hb1 : b.1 = .agg ((rows[i]'(by omega)).map DataW.lit) := by
     have h2 : (xs.map (·.1))[i]? = some b.1 := by simp [hb]
     rw [hxs, cN, aF (by omega)] at h2;exact (Option.some.inj h2).symm
    obtain ⟨b1, b2⟩ := b;simp only at hb1;subst hb1;exact (Kd hr hf).1
   have hkl : ∀ i, (hi : i < n) -> ((rows[i]'(by omega)).map litV).length = ks.length := by
    intro i hi;rw [<- key i hi, aU, aT, hl];have : (i + 1) * ks.length <= n * ks.length := cF _ hi;rw [cP] at this; omega
   have all : ∀ (m i : Nat), i + m = n -> cs.drop (i * ks.length) = (rows.drop i).flatMap fun r => r.map litV := by
    intro m
    induction m with
    | zero =>
     intro i hi;have : i = n := by omega
     subst this;rw [List.drop_of_length_le (by omega), List.drop_of_length_le (by omega)]; rfl
    | succ m ih =>
     intro i hi;have hin : i < n := by omega
     rw [bK (l := rows) (by omega), bP, <- key i hin, <- ih (i + 1) (by omega)];rw [cP, Nat.one_mul, <- dL, cR]
   have := all n 0 (by omega)
   simpa using this
  ·cases h
theorem wu {name : String} {rows : List (List Lit)} {rest : List (String × DataW Unit)} {ps : List MemPlace} {g : Nat} {t e : TypeId} {n : Nat} {ks : List IntKind}
  (hg : P.globalNamed name = some g) (hty : (P.globals[g]?).map (·.type) = some t) (ht : P.underlying t = some (.array n e)) (hr : rowB P e (ks.map FK.int) = true) (hce : P.cellsOf e = ks.length) (hpos : 0 < ks.length) (hct : P.cellsOf t = n * ks.length)
  (h : DataW.LaidVars P W ((name, .agg (rows.map fun r => .agg (r.map DataW.lit))) :: rest) ps) : (∃ ty m, W.heap[g]? = some (.cells (rows.flatMap fun r => r.map litV).toArray ty m)) /\ ∃ qs, DataW.LaidVars P W rest qs := by
 obtain ⟨g', t', cs, fuel, p, q, hg', ht', hvar, hd, hrest, _⟩ := h;obtain rfl := Option.some.inj (hg.symm.trans hg');obtain rfl := Option.some.inj (hty.symm.trans ht');refine ⟨?_, q, hrest⟩;have hcs := rows_lits ht hr hce hpos hct hd;simp only [World.var?, hg, Option.bind_some] at hvar
 split at hvar
 ·rename_i c ty fr hb
  cases hvar
  refine ⟨ty, fr, ?_⟩;rw [hb, <- hcs]
 ·cases hvar
end Go.Ost
namespace Go.Proofs.YtebikhhoppiapaaGreatDoor
open Go.Ost Tryz
instance : TInt prog 3 .i64 := ⟨by kernel_rfl⟩
instance : zh prog 3 (.int .i64 0) 1 8 := ⟨by kernel_rfl⟩
instance : xe prog 3 := ⟨by kernel_rfl⟩
instance : TBool prog 4 := ⟨by kernel_rfl⟩
instance : zh prog 4 (.bool false) 1 1 := ⟨by kernel_rfl⟩
instance : xe prog 4 := ⟨by kernel_rfl⟩
instance : TInt prog 5 .u8 := ⟨by kernel_rfl⟩
instance : zh prog 5 (.int .u8 0) 1 1 := ⟨by kernel_rfl⟩
instance : xe prog 5 := ⟨by kernel_rfl⟩
instance : TStr prog 9 := ⟨by kernel_rfl⟩
instance : zh prog 9 (.string ⟨#[]⟩) 1 16 := ⟨by kernel_rfl⟩
instance : xe prog 9 := ⟨by kernel_rfl⟩
instance : TInt prog 21 .i32 := ⟨by kernel_rfl⟩
instance : xe prog 21 := ⟨by kernel_rfl⟩
instance : TPtr prog 23 182 := ⟨by kernel_rfl⟩
instance : xe prog 23 := ⟨by kernel_rfl⟩
instance : TPtr prog 24 158 := ⟨by kernel_rfl⟩
instance : zh prog 24 (.pointer none) 1 8 := ⟨by kernel_rfl⟩
instance : xe prog 24 := ⟨by kernel_rfl⟩
instance : TPtr prog 25 168 := ⟨by kernel_rfl⟩
instance : xe prog 25 := ⟨by kernel_rfl⟩
instance : zh prog 27 (.agg #[.pointer none, .pointer none, .pointer none, .int .i64 0]) 4 32 := ⟨by kernel_rfl⟩
instance : xQ prog 27 := ⟨by kernel_rfl⟩
instance : zj prog 27 0 0 23 := ⟨by kernel_rfl⟩
instance : zj prog 27 1 1 24 := ⟨by kernel_rfl⟩
instance : zj prog 27 2 2 25 := ⟨by kernel_rfl⟩
instance : zj prog 27 3 3 3 := ⟨by kernel_rfl⟩
instance : xe prog 28 := ⟨by kernel_rfl⟩
instance : TPtr prog 29 117 := ⟨by kernel_rfl⟩
instance : zh prog 29 (.pointer none) 1 8 := ⟨by kernel_rfl⟩
instance : xe prog 29 := ⟨by kernel_rfl⟩
instance : zh prog 30 (.pointer none) 1 8 := ⟨by kernel_rfl⟩
instance : xe prog 30 := ⟨by kernel_rfl⟩
instance : zh prog 32 (.agg #[.pointer none, .pointer none, .pointer none, .int .i64 0, .pointer none, .pointer none, .pointer none]) 7 56 := ⟨by kernel_rfl⟩
instance : xQ prog 32 := ⟨by kernel_rfl⟩
instance : zj prog 32 0 0 27 := ⟨by kernel_rfl⟩
instance : zj prog 32 1 4 28 := ⟨by kernel_rfl⟩
instance : zj prog 32 2 5 29 := ⟨by kernel_rfl⟩
instance : zj prog 32 3 6 30 := ⟨by kernel_rfl⟩
instance : TInt prog 34 .u64 := ⟨by kernel_rfl⟩
instance : zh prog 34 (.int .u64 0) 1 8 := ⟨by kernel_rfl⟩
instance : xe prog 34 := ⟨by kernel_rfl⟩
instance : zh prog 35 (.int .i64 0) 1 8 := ⟨by kernel_rfl⟩
instance : xe prog 35 := ⟨by kernel_rfl⟩
instance : TInt prog 42 .u32 := ⟨by kernel_rfl⟩
instance : zh prog 42 (.int .u32 0) 1 4 := ⟨by kernel_rfl⟩
instance : xe prog 42 := ⟨by kernel_rfl⟩
instance : zR prog 43 5 := ⟨by kernel_rfl⟩
instance : zh prog 43 (.slice none 0 0) 1 24 := ⟨by kernel_rfl⟩
instance : xe prog 43 := ⟨by kernel_rfl⟩
instance : zh prog 45 (.agg #[.slice none 0 0, .int .i64 0, .slice none 0 0, .slice none 0 0, .slice none 0 0]) 5 104 := ⟨by kernel_rfl⟩
instance : xQ prog 45 := ⟨by kernel_rfl⟩
instance : zj prog 45 0 0 43 := ⟨by kernel_rfl⟩
instance : zj prog 45 1 1 3 := ⟨by kernel_rfl⟩
instance : zj prog 45 2 2 43 := ⟨by kernel_rfl⟩
instance : zj prog 45 3 3 43 := ⟨by kernel_rfl⟩
instance : zj prog 45 4 4 43 := ⟨by kernel_rfl⟩
instance : zR prog 46 9 := ⟨by kernel_rfl⟩
instance : zh prog 46 (.slice none 0 0) 1 24 := ⟨by kernel_rfl⟩
instance : xe prog 46 := ⟨by kernel_rfl⟩
instance : zh prog 48 (.agg #[.string ⟨#[]⟩, .string ⟨#[]⟩, .slice none 0 0, .int .i64 0, .slice none 0 0, .slice none 0 0, .slice none 0 0, .int .u64 0, .slice none 0 0, .bool false]) 10 176 := ⟨by kernel_rfl⟩
instance : xQ prog 48 := ⟨by kernel_rfl⟩
instance : zj prog 48 1 1 9 := ⟨by kernel_rfl⟩
instance : zj prog 48 2 2 45 := ⟨by kernel_rfl⟩
instance : zj prog 48 3 7 34 := ⟨by kernel_rfl⟩
instance : zj prog 48 4 8 46 := ⟨by kernel_rfl⟩
instance : zj prog 48 5 9 4 := ⟨by kernel_rfl⟩
instance : zh prog 50 (.agg #[.string ⟨#[]⟩, .string ⟨#[]⟩, .slice none 0 0, .int .i64 0, .slice none 0 0, .slice none 0 0, .slice none 0 0, .int .u64 0, .slice none 0 0, .bool false, .string ⟨#[]⟩, .int .u32 0]) 12 200 := ⟨by kernel_rfl⟩
instance : xQ prog 50 := ⟨by kernel_rfl⟩
instance : zj prog 50 0 0 48 := ⟨by kernel_rfl⟩
instance : zj prog 50 2 11 42 := ⟨by kernel_rfl⟩
instance : zh prog 54 (.agg #[.string ⟨#[]⟩, .string ⟨#[]⟩, .string ⟨#[]⟩]) 3 48 := ⟨by kernel_rfl⟩
instance : zj prog 54 0 0 9 := ⟨by kernel_rfl⟩
instance : zj prog 54 1 1 9 := ⟨by kernel_rfl⟩
instance : zj prog 54 2 2 9 := ⟨by kernel_rfl⟩
instance : zh prog 56 (.agg #[.string ⟨#[]⟩, .string ⟨#[]⟩, .string ⟨#[]⟩, .string ⟨#[]⟩, .string ⟨#[]⟩, .string ⟨#[]⟩, .int .u32 0, .slice none 0 0]) 8 128 := ⟨by kernel_rfl⟩
instance : xQ prog 56 := ⟨by kernel_rfl⟩
instance : zj prog 56 0 0 9 := ⟨by kernel_rfl⟩
instance : zj prog 56 1 1 9 := ⟨by kernel_rfl⟩
instance : zj prog 56 2 2 9 := ⟨by kernel_rfl⟩
instance : zj prog 56 3 3 9 := ⟨by kernel_rfl⟩
instance : zj prog 56 4 4 9 := ⟨by kernel_rfl⟩
instance : zj prog 56 5 5 9 := ⟨by kernel_rfl⟩
instance : zj prog 56 6 6 42 := ⟨by kernel_rfl⟩
instance : zj prog 56 7 7 43 := ⟨by kernel_rfl⟩
instance : zh prog 70 (.agg #[.string ⟨#[]⟩, .string ⟨#[]⟩, .string ⟨#[]⟩, .bool false]) 4 56 := ⟨by kernel_rfl⟩
instance : zj prog 70 0 0 9 := ⟨by kernel_rfl⟩
instance : zj prog 70 1 1 9 := ⟨by kernel_rfl⟩
instance : zj prog 70 2 2 9 := ⟨by kernel_rfl⟩
instance : zj prog 70 3 3 4 := ⟨by kernel_rfl⟩
instance : xe prog 75 := ⟨by kernel_rfl⟩
instance : TPtr prog 76 95 := ⟨by kernel_rfl⟩
instance : xe prog 76 := ⟨by kernel_rfl⟩
instance : TPtr prog 77 105 := ⟨by kernel_rfl⟩
instance : xe prog 77 := ⟨by kernel_rfl⟩
instance : zh prog 79 (.agg #[.pointer none, .pointer none, .pointer none, .int .i64 0]) 4 32 := ⟨by kernel_rfl⟩
instance : zj prog 79 0 0 75 := ⟨by kernel_rfl⟩
instance : zj prog 79 1 1 76 := ⟨by kernel_rfl⟩
instance : zj prog 79 2 2 77 := ⟨by kernel_rfl⟩
instance : zh prog 82 (.agg #[.slice none 0 0, .int .i64 0, .slice none 0 0, .slice none 0 0, .slice none 0 0]) 5 104 := ⟨by kernel_rfl⟩
instance : xQ prog 82 := ⟨by kernel_rfl⟩
instance : zj prog 82 0 0 43 := ⟨by kernel_rfl⟩
instance : zj prog 82 1 1 3 := ⟨by kernel_rfl⟩
instance : zj prog 82 2 2 43 := ⟨by kernel_rfl⟩
instance : zj prog 82 3 3 43 := ⟨by kernel_rfl⟩
instance : zj prog 82 4 4 43 := ⟨by kernel_rfl⟩
instance : zh prog 84 (.agg #[.string ⟨#[]⟩, .string ⟨#[]⟩, .slice none 0 0, .int .i64 0, .slice none 0 0, .slice none 0 0, .slice none 0 0, .int .u64 0, .slice none 0 0, .bool false]) 10 176 := ⟨by kernel_rfl⟩
instance : xQ prog 84 := ⟨by kernel_rfl⟩
instance : zj prog 84 0 0 9 := ⟨by kernel_rfl⟩
instance : zj prog 84 1 1 9 := ⟨by kernel_rfl⟩
instance : zh prog 88 (.agg #[.pointer none, .string ⟨#[]⟩, .int .u64 0]) 3 32 := ⟨by kernel_rfl⟩
instance : zj prog 88 0 0 28 := ⟨by kernel_rfl⟩
instance : zj prog 88 1 1 9 := ⟨by kernel_rfl⟩
instance : zR prog 90 258 := ⟨by kernel_rfl⟩
instance : zh prog 90 (.slice none 0 0) 1 24 := ⟨by kernel_rfl⟩
instance : xe prog 90 := ⟨by kernel_rfl⟩
instance : zh prog 92 (.agg #[.bool false, .slice none 0 0, .bool false]) 3 40 := ⟨by kernel_rfl⟩
instance : zj prog 92 0 0 4 := ⟨by kernel_rfl⟩
instance : zj prog 92 1 1 90 := ⟨by kernel_rfl⟩
instance : zR prog 93 84 := ⟨by kernel_rfl⟩
instance : zh prog 93 (.slice none 0 0) 1 24 := ⟨by kernel_rfl⟩
instance : xe prog 93 := ⟨by kernel_rfl⟩
instance : zh prog 95 (.agg #[.slice none 0 0, .slice none 0 0, .int .u64 0, .int .u64 0]) 4 64 := ⟨by kernel_rfl⟩
instance : zj prog 95 0 0 46 := ⟨by kernel_rfl⟩
instance : zj prog 95 1 1 93 := ⟨by kernel_rfl⟩
instance : zj prog 95 2 2 34 := ⟨by kernel_rfl⟩
instance : zh prog 100 (.agg #[.int .i64 0, .int .u64 0]) 2 16 := ⟨by kernel_rfl⟩
instance : xQ prog 100 := ⟨by kernel_rfl⟩
instance : zj prog 100 0 0 3 := ⟨by kernel_rfl⟩
instance : zj prog 100 1 1 34 := ⟨by kernel_rfl⟩
instance : zR prog 103 173 := ⟨by kernel_rfl⟩
instance : zh prog 103 (.slice none 0 0) 1 24 := ⟨by kernel_rfl⟩
instance : xe prog 103 := ⟨by kernel_rfl⟩
instance : zh prog 105 (.agg #[.int .i64 0, .int .u64 0, .slice none 0 0, .int .u64 0, .int .u64 0, .int .u64 0, .bool false]) 7 72 := ⟨by kernel_rfl⟩
instance : zj prog 105 0 0 3 := ⟨by kernel_rfl⟩
instance : zj prog 105 1 1 34 := ⟨by kernel_rfl⟩
instance : zj prog 105 2 2 103 := ⟨by kernel_rfl⟩
instance : zj prog 105 3 3 34 := ⟨by kernel_rfl⟩
instance : zj prog 105 4 4 34 := ⟨by kernel_rfl⟩
instance : zj prog 105 5 5 34 := ⟨by kernel_rfl⟩
instance : zj prog 105 6 6 4 := ⟨by kernel_rfl⟩
instance : TArr prog 108 2 9 := ⟨by kernel_rfl⟩
instance : zh prog 108 (.agg #[.string ⟨#[]⟩, .string ⟨#[]⟩]) 2 32 := ⟨by kernel_rfl⟩
instance : xQ prog 108 := ⟨by kernel_rfl⟩
instance : zR prog 109 108 := ⟨by kernel_rfl⟩
instance : zh prog 117 (.agg #[.pointer none, .pointer none, .pointer none, .int .i64 0, .string ⟨#[]⟩, .int .u64 0]) 6 56 := ⟨by kernel_rfl⟩
instance : zj prog 117 0 0 27 := ⟨by kernel_rfl⟩
instance : zj prog 117 1 4 9 := ⟨by kernel_rfl⟩
instance : zj prog 117 2 5 34 := ⟨by kernel_rfl⟩
instance : zh prog 119 (.agg #[.string ⟨#[]⟩, .string ⟨#[]⟩, .string ⟨#[]⟩, .bool false]) 4 56 := ⟨by kernel_rfl⟩
instance : zj prog 119 0 0 9 := ⟨by kernel_rfl⟩
instance : zj prog 119 1 1 9 := ⟨by kernel_rfl⟩
instance : zj prog 119 2 2 9 := ⟨by kernel_rfl⟩
instance : zj prog 119 3 3 4 := ⟨by kernel_rfl⟩
instance : zh prog 126 (.agg #[.string ⟨#[]⟩, .string ⟨#[]⟩, .string ⟨#[]⟩, .string ⟨#[]⟩, .string ⟨#[]⟩, .string ⟨#[]⟩, .int .u32 0, .slice none 0 0]) 8 128 := ⟨by kernel_rfl⟩
instance : xQ prog 126 := ⟨by kernel_rfl⟩
instance : zj prog 126 0 0 9 := ⟨by kernel_rfl⟩
instance : zj prog 126 1 1 9 := ⟨by kernel_rfl⟩
instance : zj prog 126 2 2 9 := ⟨by kernel_rfl⟩
instance : zj prog 126 3 3 9 := ⟨by kernel_rfl⟩
instance : zj prog 126 4 4 9 := ⟨by kernel_rfl⟩
instance : zj prog 126 6 6 42 := ⟨by kernel_rfl⟩
instance : zj prog 126 7 7 43 := ⟨by kernel_rfl⟩
instance : zR prog 133 137 := ⟨by kernel_rfl⟩
instance : zh prog 137 (.agg #[.string ⟨#[]⟩, .string ⟨#[]⟩, .bool false]) 3 40 := ⟨by kernel_rfl⟩
instance : xQ prog 137 := ⟨by kernel_rfl⟩
instance : zj prog 137 0 0 9 := ⟨by kernel_rfl⟩
instance : zj prog 137 1 1 9 := ⟨by kernel_rfl⟩
instance : zj prog 137 2 2 4 := ⟨by kernel_rfl⟩
instance : TPtr prog 154 48 := ⟨by kernel_rfl⟩
instance : zh prog 154 (.pointer none) 1 8 := ⟨by kernel_rfl⟩
instance : TMap prog 156 9 185 := ⟨by kernel_rfl⟩
instance : xe prog 156 := ⟨by kernel_rfl⟩
instance : zh prog 158 (.agg #[.map none, .int .u64 0, .int .u64 0]) 3 24 := ⟨by kernel_rfl⟩
instance : zj prog 158 0 0 156 := ⟨by kernel_rfl⟩
instance : zj prog 158 1 1 34 := ⟨by kernel_rfl⟩
instance : zj prog 158 2 2 34 := ⟨by kernel_rfl⟩
instance : zh prog 163 (.agg #[.string ⟨#[]⟩, .int .u64 0, .bool false, .int .u32 0]) 4 32 := ⟨by kernel_rfl⟩
instance : xQ prog 163 := ⟨by kernel_rfl⟩
instance : zj prog 163 0 0 9 := ⟨by kernel_rfl⟩
instance : zj prog 163 1 1 34 := ⟨by kernel_rfl⟩
instance : zj prog 163 2 2 4 := ⟨by kernel_rfl⟩
instance : zj prog 163 3 3 42 := ⟨by kernel_rfl⟩
instance : TPtr prog 166 248 := ⟨by kernel_rfl⟩
instance : xe prog 166 := ⟨by kernel_rfl⟩
instance : zh prog 168 (.agg #[.int .i64 0, .int .u64 0, .pointer none, .int .u64 0, .int .u64 0, .int .u64 0, .bool false]) 7 56 := ⟨by kernel_rfl⟩
instance : zj prog 168 0 0 100 := ⟨by kernel_rfl⟩
instance : zj prog 168 1 2 166 := ⟨by kernel_rfl⟩
instance : zj prog 168 2 3 34 := ⟨by kernel_rfl⟩
instance : zj prog 168 3 4 34 := ⟨by kernel_rfl⟩
instance : zj prog 168 4 5 34 := ⟨by kernel_rfl⟩
instance : zj prog 168 5 6 4 := ⟨by kernel_rfl⟩
instance : zh prog 173 (.agg #[.string ⟨#[]⟩, .string ⟨#[]⟩, .int .u64 0, .bool false, .int .u32 0]) 5 48 := ⟨by kernel_rfl⟩
instance : xQ prog 173 := ⟨by kernel_rfl⟩
instance : zj prog 173 1 1 9 := ⟨by kernel_rfl⟩
instance : zj prog 173 2 2 34 := ⟨by kernel_rfl⟩
instance : zR prog 179 253 := ⟨by kernel_rfl⟩
instance : zh prog 179 (.slice none 0 0) 1 24 := ⟨by kernel_rfl⟩
instance : xe prog 179 := ⟨by kernel_rfl⟩
instance : TMap prog 180 9 3 := ⟨by kernel_rfl⟩
instance : xe prog 180 := ⟨by kernel_rfl⟩
instance : zh prog 182 (.agg #[.bool false, .bool false, .slice none 0 0, .map none]) 4 40 := ⟨by kernel_rfl⟩
instance : zj prog 182 0 0 4 := ⟨by kernel_rfl⟩
instance : zj prog 182 2 2 179 := ⟨by kernel_rfl⟩
instance : zj prog 182 3 3 180 := ⟨by kernel_rfl⟩
instance : TMap prog 185 9 154 := ⟨by kernel_rfl⟩
instance : zh prog 185 (.map none) 1 8 := ⟨by kernel_rfl⟩
instance : zR prog 208 210 := ⟨by kernel_rfl⟩
instance : zh prog 208 (.slice none 0 0) 1 24 := ⟨by kernel_rfl⟩
instance : xe prog 208 := ⟨by kernel_rfl⟩
instance : zh prog 210 (.agg #[.string ⟨#[]⟩, .string ⟨#[]⟩, .bool false]) 3 40 := ⟨by kernel_rfl⟩
instance : xQ prog 210 := ⟨by kernel_rfl⟩
instance : zj prog 210 0 0 9 := ⟨by kernel_rfl⟩
instance : zj prog 210 1 1 9 := ⟨by kernel_rfl⟩
instance : zj prog 210 2 2 4 := ⟨by kernel_rfl⟩
instance : zh prog 219 (.agg #[.slice none 0 0, .bool false, .bool false]) 3 32 := ⟨by kernel_rfl⟩
instance : zj prog 219 0 0 208 := ⟨by kernel_rfl⟩
instance : zj prog 219 1 1 4 := ⟨by kernel_rfl⟩
instance : zj prog 219 2 2 4 := ⟨by kernel_rfl⟩
instance : zh prog 238 (.agg #[.pointer none, .pointer none, .pointer none, .int .i64 0, .string ⟨#[]⟩, .int .i64 0, .string ⟨#[]⟩, .string ⟨#[]⟩, .string ⟨#[]⟩, .string ⟨#[]⟩, .slice none 0 0, .string ⟨#[]⟩, .string ⟨#[]⟩, .string ⟨#[]⟩, .string ⟨#[]⟩, .string ⟨#[]⟩, .string ⟨#[]⟩, .slice none 0 0, .int .i64 0, .slice none 0 0, .slice none 0 0, .slice none 0 0, .int .u64 0, .slice none 0 0, .bool false, .bool false, .bool false]) 27 392 := ⟨by kernel_rfl⟩
instance : zh prog 244 (.agg #[.string ⟨#[]⟩, .string ⟨#[]⟩, .int .u64 0, .bool false, .int .u32 0, .int .i64 0, .int .i64 0]) 7 64 := ⟨by kernel_rfl⟩
instance : xQ prog 244 := ⟨by kernel_rfl⟩
instance : zj prog 244 0 0 9 := ⟨by kernel_rfl⟩
instance : zj prog 244 1 1 163 := ⟨by kernel_rfl⟩
instance : zj prog 244 2 5 3 := ⟨by kernel_rfl⟩
instance : zj prog 244 3 6 3 := ⟨by kernel_rfl⟩
instance : zR prog 245 244 := ⟨by kernel_rfl⟩
instance : zh prog 245 (.slice none 0 0) 1 24 := ⟨by kernel_rfl⟩
instance : xe prog 245 := ⟨by kernel_rfl⟩
instance : zR prog 246 3 := ⟨by kernel_rfl⟩
instance : zh prog 246 (.slice none 0 0) 1 24 := ⟨by kernel_rfl⟩
instance : xe prog 246 := ⟨by kernel_rfl⟩
instance : zh prog 248 (.agg #[.int .i64 0, .slice none 0 0, .slice none 0 0, .map none, .int .i64 0, .int .i64 0]) 6 80 := ⟨by kernel_rfl⟩
instance : zj prog 248 0 0 3 := ⟨by kernel_rfl⟩
instance : zj prog 248 1 1 245 := ⟨by kernel_rfl⟩
instance : zj prog 248 2 2 246 := ⟨by kernel_rfl⟩
instance : zj prog 248 3 3 180 := ⟨by kernel_rfl⟩
instance : zj prog 248 4 4 3 := ⟨by kernel_rfl⟩
instance : zj prog 248 5 5 3 := ⟨by kernel_rfl⟩
instance : zh prog 253 (.agg #[.int .i64 0, .slice none 0 0, .slice none 0 0, .int .i64 0, .slice none 0 0, .slice none 0 0]) 6 112 := ⟨by kernel_rfl⟩
instance : xQ prog 253 := ⟨by kernel_rfl⟩
instance : zj prog 253 0 0 3 := ⟨by kernel_rfl⟩
instance : zj prog 253 1 1 43 := ⟨by kernel_rfl⟩
instance : zj prog 253 2 2 43 := ⟨by kernel_rfl⟩
instance : zj prog 253 3 3 3 := ⟨by kernel_rfl⟩
instance : zj prog 253 4 4 246 := ⟨by kernel_rfl⟩
instance : zj prog 253 5 5 43 := ⟨by kernel_rfl⟩
instance : zR prog 255 43 := ⟨by kernel_rfl⟩
instance : zh prog 255 (.slice none 0 0) 1 24 := ⟨by kernel_rfl⟩
instance : xe prog 255 := ⟨by kernel_rfl⟩
instance : zh prog 258 (.agg #[.int .i64 0, .slice none 0 0, .slice none 0 0, .int .i64 0, .slice none 0 0, .slice none 0 0]) 6 112 := ⟨by kernel_rfl⟩
instance : xQ prog 258 := ⟨by kernel_rfl⟩
instance : zj prog 258 0 0 3 := ⟨by kernel_rfl⟩
instance : zj prog 258 1 1 43 := ⟨by kernel_rfl⟩
instance : zj prog 258 2 2 43 := ⟨by kernel_rfl⟩
instance : zj prog 258 3 3 3 := ⟨by kernel_rfl⟩
instance : zj prog 258 4 4 246 := ⟨by kernel_rfl⟩
instance : zj prog 258 5 5 43 := ⟨by kernel_rfl⟩
instance : xe prog 261 := ⟨by kernel_rfl⟩
instance : TPtr prog 270 272 := ⟨by kernel_rfl⟩
instance : zh prog 270 (.pointer none) 1 8 := ⟨by kernel_rfl⟩
instance : xe prog 270 := ⟨by kernel_rfl⟩
instance : zh prog 272 (.agg #[.pointer none, .slice none 0 0]) 2 32 := ⟨by kernel_rfl⟩
instance : xQ prog 272 := ⟨by kernel_rfl⟩
instance : zj prog 272 0 0 270 := ⟨by kernel_rfl⟩
instance : zj prog 272 1 1 43 := ⟨by kernel_rfl⟩
instance : TInt prog 282 .u64 := ⟨by kernel_rfl⟩
instance : zh prog 285 (.agg #[.string ⟨#[]⟩]) 1 16 := ⟨by kernel_rfl⟩
instance : zj prog 285 0 0 9 := ⟨by kernel_rfl⟩
instance : TArr prog 302 8 42 := ⟨by kernel_rfl⟩
instance : zh prog 302 (.agg #[.int .u32 0, .int .u32 0, .int .u32 0, .int .u32 0, .int .u32 0, .int .u32 0, .int .u32 0, .int .u32 0]) 8 32 := ⟨by kernel_rfl⟩
instance : xQ prog 302 := ⟨by kernel_rfl⟩
instance : TArr prog 303 8 42 := ⟨by kernel_rfl⟩
instance : zh prog 303 (.agg #[.int .u32 0, .int .u32 0, .int .u32 0, .int .u32 0, .int .u32 0, .int .u32 0, .int .u32 0, .int .u32 0]) 8 32 := ⟨by kernel_rfl⟩
instance : xQ prog 303 := ⟨by kernel_rfl⟩
instance : zR prog 309 312 := ⟨by kernel_rfl⟩
instance : zh prog 312 (.agg #[.int .i64 0, .int .i64 0]) 2 16 := ⟨by kernel_rfl⟩
instance : xQ prog 312 := ⟨by kernel_rfl⟩
instance : zj prog 312 1 1 3 := ⟨by kernel_rfl⟩
instance : TArr prog 321 8 42 := ⟨by kernel_rfl⟩
instance : zh prog 321 (.agg #[.int .u32 0, .int .u32 0, .int .u32 0, .int .u32 0, .int .u32 0, .int .u32 0, .int .u32 0, .int .u32 0]) 8 32 := ⟨by kernel_rfl⟩
instance : xQ prog 321 := ⟨by kernel_rfl⟩
instance : xe prog 326 := ⟨by kernel_rfl⟩
instance : TPtr prog 330 5 := ⟨by kernel_rfl⟩
instance : zh prog 330 (.pointer none) 1 8 := ⟨by kernel_rfl⟩
instance : xe prog 330 := ⟨by kernel_rfl⟩
instance : zR prog 340 342 := ⟨by kernel_rfl⟩
instance : zh prog 342 (.agg #[.int .i32 0, .int .i32 0]) 2 8 := ⟨by kernel_rfl⟩
instance : xQ prog 342 := ⟨by kernel_rfl⟩
instance : zj prog 342 0 0 21 := ⟨by kernel_rfl⟩
instance : zj prog 342 1 1 21 := ⟨by kernel_rfl⟩
instance : TArr prog 343 9 342 := ⟨by kernel_rfl⟩
instance : TPtr prog 347 374 := ⟨by kernel_rfl⟩
instance : zh prog 347 (.pointer none) 1 8 := ⟨by kernel_rfl⟩
instance : xe prog 347 := ⟨by kernel_rfl⟩
instance : TArr prog 352 64 42 := ⟨by kernel_rfl⟩
instance : zh prog 352 (.agg #[.int .u32 0, .int .u32 0, .int .u32 0, .int .u32 0, .int .u32 0, .int .u32 0, .int .u32 0, .int .u32 0, .int .u32 0, .int .u32 0, .int .u32 0, .int .u32 0, .int .u32 0, .int .u32 0, .int .u32 0, .int .u32 0, .int .u32 0, .int .u32 0, .int .u32 0, .int .u32 0, .int .u32 0, .int .u32 0, .int .u32 0, .int .u32 0, .int .u32 0, .int .u32 0, .int .u32 0, .int .u32 0, .int .u32 0, .int .u32 0, .int .u32 0, .int .u32 0, .int .u32 0, .int .u32 0, .int .u32 0, .int .u32 0, .int .u32 0, .int .u32 0, .int .u32 0, .int .u32 0, .int .u32 0, .int .u32 0, .int .u32 0, .int .u32 0, .int .u32 0, .int .u32 0, .int .u32 0, .int .u32 0, .int .u32 0, .int .u32 0, .int .u32 0, .int .u32 0, .int .u32 0, .int .u32 0, .int .u32 0, .int .u32 0, .int .u32 0, .int .u32 0, .int .u32 0, .int .u32 0, .int .u32 0, .int .u32 0, .int .u32 0, .int .u32 0]) 64 256 := ⟨by kernel_rfl⟩
instance : xQ prog 352 := ⟨by kernel_rfl⟩
instance : zh prog 358 (.pointer none) 1 8 := ⟨by kernel_rfl⟩
instance : xe prog 358 := ⟨by kernel_rfl⟩
instance : xe prog 365 := ⟨by kernel_rfl⟩
instance : TArr prog 366 6 342 := ⟨by kernel_rfl⟩
instance : TArr prog 367 5 342 := ⟨by kernel_rfl⟩
instance : zh prog 369 (.agg #[.int .i64 0, .int .u8 0, .int .u8 0, .int .i32 0]) 4 16 := ⟨by kernel_rfl⟩
instance : xQ prog 369 := ⟨by kernel_rfl⟩
instance : zj prog 369 0 0 3 := ⟨by kernel_rfl⟩
instance : zj prog 369 1 1 5 := ⟨by kernel_rfl⟩
instance : zj prog 369 2 2 5 := ⟨by kernel_rfl⟩
instance : zj prog 369 3 3 21 := ⟨by kernel_rfl⟩
instance : TArr prog 370 4 369 := ⟨by kernel_rfl⟩
instance : zh prog 370 (.agg #[.int .i64 0, .int .u8 0, .int .u8 0, .int .i32 0, .int .i64 0, .int .u8 0, .int .u8 0, .int .i32 0, .int .i64 0, .int .u8 0, .int .u8 0, .int .i32 0, .int .i64 0, .int .u8 0, .int .u8 0, .int .i32 0]) 16 64 := ⟨by kernel_rfl⟩
instance : xQ prog 370 := ⟨by kernel_rfl⟩
instance : TPtr prog 371 383 := ⟨by kernel_rfl⟩
instance : zh prog 371 (.pointer none) 1 8 := ⟨by kernel_rfl⟩
instance : xe prog 371 := ⟨by kernel_rfl⟩
instance : zh prog 374 (.agg #[.pointer none, .pointer none, .pointer none]) 3 24 := ⟨by kernel_rfl⟩
instance : zj prog 374 0 0 371 := ⟨by kernel_rfl⟩
instance : zj prog 374 1 1 371 := ⟨by kernel_rfl⟩
instance : zj prog 374 2 2 371 := ⟨by kernel_rfl⟩
instance : zh prog 383 (.agg #[.int .u32 0, .int .u32 0, .int .u32 0, .int .u32 0, .int .u32 0, .int .u32 0, .int .u32 0, .int .u32 0, .slice none 0 0, .int .u64 0]) 10 64 := ⟨by kernel_rfl⟩
instance : xQ prog 383 := ⟨by kernel_rfl⟩
instance : zj prog 383 0 0 321 := ⟨by kernel_rfl⟩
instance : zj prog 383 1 8 43 := ⟨by kernel_rfl⟩
instance : zj prog 383 2 9 34 := ⟨by kernel_rfl⟩
open Go Go.RowKit Go.Shelf
def renJ : Ren := ⟨fun x => if x = 14 then 131 else if x = 15 then 183 else x, fun x => if x = 22 then 43 else if x = 26 then 255 else x, fun x => x⟩
instance iQJ_1 : zh prog 0 (.tuple #[]) 1 0 := ⟨by kernel_rfl⟩
instance iQJ_2 : xe prog 0 := ⟨by kernel_rfl⟩
instance iQJ_3 : zh prog 20 .nilIface 1 16 := ⟨by kernel_rfl⟩
instance iQJ_4 : xe prog 20 := ⟨by kernel_rfl⟩
theorem laysJ : SlLaysJ.n14 prog renJ where
 mixed := by kernel_rfl
 f14 := by kernel_rfl
 f15 := by kernel_rfl
 t0 := by kernel_rfl
 a0 := zr (t := 0) inferInstance
 z0 := zt (t := 0) inferInstance
 v0 := zD (t := 0) inferInstance
 t3 := by kernel_rfl
 a3 := zr (t := 3) inferInstance
 z3 := zt (t := 3) inferInstance
 v3 := zD (t := 3) inferInstance
 t4 := by kernel_rfl
 a4 := zr (t := 4) inferInstance
 z4 := zt (t := 4) inferInstance
 v4 := zD (t := 4) inferInstance
 t9 := by kernel_rfl
 a9 := zr (t := 9) inferInstance
 z9 := zt (t := 9) inferInstance
 v9 := zD (t := 9) inferInstance
 t20 := by kernel_rfl
 a20 := zr (t := 20) inferInstance
 z20 := zt (t := 20) inferInstance
 v20 := zD (t := 20) inferInstance
 t22 := by kernel_rfl
 a22 := zr (t := 43) inferInstance
 z22 := zt (t := 43) inferInstance
 v22 := zD (t := 43) inferInstance
 t26 := by kernel_rfl
 a26 := zr (t := 255) inferInstance
 z26 := zt (t := 255) inferInstance
 v26 := zD (t := 255) inferInstance
 t5 := by kernel_rfl
 z5 := zt (t := 5) inferInstance
 i5 := by kernel_rfl
theorem kh (A : State) (a : Option Addr) (n c : Nat) (ls : List (List UInt8)) (hp : we A a n ls) (hnc : n <= c) (hn : n <= 1000000) (hlen : ls.flatten.length <= 1000000000) :
  Meets prog 131 [.slice a n c, .slice none 0 0] A (Got8 ls.flatten A) := by
 refine jU rfl rfl (by kernel_rfl) fun w hw => ?_
 obtain ⟨hl, vs, hr, hv⟩ := hp;have hvl : vs.length = n := by have := hr.1; omega
 match ls, hl, hlen, hv with
 | [], hl, _, _ =>
  have h0 : n = 0 := by simpa using hl.symm
  subst h0;refine (Any.bytes_Join_none laysJ a c (.slice none 0 0) w).mono ?_;rintro e w' ⟨rfl, rfl⟩;refine ⟨_, rfl, ⟨rfl, rfl, rfl, by simp, fun k hk => ?_⟩, [], fun k o hm => (by cases hm), by simp, ⟨[], some ⟨w.heap.size, 0, none⟩, 0, rfl, aR _, Rd.nil, fun h => absurd h (by simp), rfl⟩⟩;simp only [World.alloc];rw [Array.getElem?_push, if_neg (by omega)]
 | [l], hl, hlen, hv =>
  have h1 : n = 1 := by simpa using hl.symm
  subst h1;obtain ⟨v, hv0⟩ : ∃ v, vs[0]? = some v := ⟨vs[0], aF (by omega)⟩;obtain ⟨p, c2, rfl, hlc, hrl⟩ := hv 0 v l hv0 rfl;obtain ⟨b, o, rfl, hcell⟩ := kQ hr hw hv0;simp only [aO, bO, aL] at hlen ⊢
  by_cases h0 : l.length = 0
  ·have : l = [] := List.length_eq_zero_iff.1 h0;subst this;refine (Any.bytes_Join_one_empty laysJ b o c p c2 (.slice none 0 0) w hcell).mono ?_;rintro e w' ⟨rfl, rfl⟩;exact ⟨_, rfl, Below.refl _ _, [], fun k o hm => (by cases hm), by simp, ⟨[], none, 0, rfl, aR _, Rd.nil, fun h => absurd h (by simp), rfl⟩⟩
  ·obtain ⟨b1, o1, cs, e, m, rfl, hb1, hc1⟩ := hrl.2 (by intro e; rw [List.map_eq_nil_iff] at e; subst e; simp at h0);refine (Any.bytes_Join_one laysJ b o c ⟨b1, o1, none⟩ c2 l (.slice none 0 0) w hcell (fun i x hx => ?_) (by omega) (by omega)).mono ?_
   ·obtain ⟨b', o', e', hc'⟩ := kQ hrl hw (i := i) (v := b8 x) (by simp [hx])
    cases e'
    rw [add_mk]; exact hc'
   ·rintro e w' ⟨v', rfl, hfb, hbe⟩;obtain ⟨C, a2, cap, rfl, h1, h2, h3, h4, h5⟩ := ZK hfb;exact ⟨_, rfl, hbe, C, h2, h3, C, a2, cap, rfl, h1, h4, h5, rfl⟩
 | l1 :: l2 :: ls', hl, hlen, hv =>
  have h2n : 2 <= n := by simp at hl; omega
  obtain ⟨v, hv0⟩ : ∃ v, vs[0]? = some v := ⟨vs[0], aF (by omega)⟩;obtain ⟨b, o, rfl, _⟩ := kQ hr hw hv0
  have hparts : Lib.PartsAt w ⟨b, o, none⟩ vs (l1 :: l2 :: ls') := by
   refine ⟨by omega, fun i v hi => ?_, fun i v l hi hi2 => ?_⟩
   ·obtain ⟨b', o', e', hc'⟩ := kQ hr hw hi
    cases e'
    rw [add_mk]; exact hc'
   ·obtain ⟨p, c2, rfl, _, hrl⟩ := hv i v l hi hi2;exact holds_of hrl hw
  have hsep : Lib.HoldsBytes w (.slice none 0 0) [] := ⟨none, 0, rfl, fun _ => rfl, fun a ha => by cases ha⟩;have hlens : ∀ xs : List (List UInt8), Lib.lens xs = xs.flatten.length := fun xs => by simp [Lib.lens, List.length_flatten]
  refine (Any.bytes_Join_many laysJ b o n c vs (l1 :: l2 :: ls') (.slice none 0 0) [] w hl h2n hparts hnc hsep (by omega) (by rw [hlens]; simp only [aV, Nat.zero_mul, dQ]; omega)).mono ?_;rintro e w' ⟨v', rfl, hfb, hbe⟩
  have hj : ∀ xs : List (List UInt8), Lib.join xs [] = xs.flatten := fun xs => by
   cases xs with
   | nil => rfl
   | cons x r => rw [Lib.join_cons]; simp [Lib.joinTail]
  rw [hj] at hfb;obtain ⟨C, a2, cap, rfl, h1, h2, h3, h4, h5⟩ := ZK hfb;exact ⟨_, rfl, hbe, C, h2, h3, C, a2, cap, rfl, h1, h4, h5, rfl⟩
end Go.Proofs.YtebikhhoppiapaaGreatDoor
namespace Go.Proofs.YtebikhhoppiapaaGreatDoor
open Go Go.Ost Go.Sha Tryz
theorem jq (x : W) (n : Nat) (h : n <= 32) : Meets prog 241 [b32 x, .int .u64 n] [] fun v A => v = b32 (rot n x) /\ A = [] := by
 refine eN func241 ntmps241 results241 fun F => ?_
 refine zd fun N1 hN1 => ?_
 refine rgE ?_;refine hN1 _ _ _ ?_; clear hN1;refine zd fun N2 hN2 => ?_
 refine rgE ?_;refine hN2 _ _ _ ?_; clear hN2;refine zM ?_;refine zb [] ?_; exact ⟨by rw [show ((32 : Int) - n).toNat = 32 - n from by omega]; rfl, rfl⟩
theorem and31 {P : Program} {t : TypeId} {x y : Operand} {κ : Value -> Prop} (n : Nat) (h0 : 1 <= n) (h1 : n <= 31) :
  PureW P (do eqGuard .and t x y (.int .u64 (IntKind.u64.wrap (-(n : Int)))) (.int .u64 31); binOp .and t (.int .u64 (IntKind.u64.wrap (-(n : Int)))) (.int .u64 31)) κ = κ (.int .u64 (32 - n)) :=
 zm (fun w => by
  have key : ∀ n : Fin 32, 1 <= n.val -> IntKind.u64.wrap ((bB 64 (IntKind.u64.wrap (-(n.val : Int))) &&& bB 64 31).toNat : Int) = 32 - n.val := by decide
  show Result.ok (Value.int .u64 (IntKind.u64.wrap ((bB 64 (IntKind.u64.wrap (-(n : Int))) &&& bB 64 31).toNat : Int))) w = _
  rw [key ⟨n, by omega⟩ h0]) κ
theorem jr (x : W) (n : Nat) (h0 : 1 <= n) (h1 : n <= 31) : Meets prog 233 [b32 x, .int .i64 (-(n : Int))] [] fun v A => v = b32 (rot n x) /\ A = [] := by
 refine eN func233 ntmps233 results233 fun F => ?_
 refine zd fun N1 hN1 => ?_
 refine rgE ?_;refine hN1 _ _ _ ?_; clear hN1;refine zd fun N2 hN2 => ?_
 refine rgE ?_;refine zf fun K hK => ?_
 rw [and31 n h0 h1];refine hK _ _ ?_; clear hK K;refine rnE ?_;refine hN2 _ _ _ ?_; clear hN2;refine zd fun N3 hN3 => ?_
 refine rgE ?_;refine hN3 _ _ _ ?_; clear hN3;refine zM ?_;refine zb [] ?_; exact ⟨by rw [show ((32 : Int) - n).toNat = 32 - n from by omega, show ((32 : Int) - (32 - n)).toNat = n from by omega, BitVec.or_comm]; rfl, rfl⟩
theorem Is (H : Chunk) (a : Option Addr) (len cap : Nat) (x0 x1 x2 x3 : UInt8) (l : List UInt8) (h : Rd 1 [H] a len ((x0 :: x1 :: x2 :: x3 :: l).map b8)) :
  Meets prog 252 [.slice a len cap] [H] fun v A => v = b32 (word x0 x1 x2 x3) /\ A = [H] := by
 refine eN func252 ntmps252 results252 fun F => ?_
 have hr := h.next F;have hlen : 4 <= len := by have := h.1; simp at this; omega
 refine zd fun N1 hN1 => ?_
 refine rgE ?_;refine hN1 _ _ _ ?_; clear hN1;refine zd fun N2 hN2 => ?_
 refine cdL [[0], [1], [2], [3], [4], [5], [6], [7], [8], [9], [10], [11], [12], [13], [14], [15], [16], [17], [18], [19], [20], [21], [22, 0]] ?_
 (repeat (refine kB (by simp only [cM, bJ, cE]; rfl) fun K hK => ?_; (try simp only [gos, gob, aG, if_true, reduceIte, reduceCtorEq, bM, aP, bQ, bH, cJ, cK, bT, bU, bN, bV, bW, bX, bY, bZ, cB, aY, bI, goq]); (try (simp (disch := omega) only [gow, gobw, wH hr]; try simp only [gos, gob, aG, if_true, reduceIte, reduceCtorEq, bM, aP, bQ, bH, cJ, cK, bT, bU, bN, bV, bW, bX, bY, bZ, cB, aY, bI, goq])); (first | (with_reducible refine hK _ _ ?_) | (refine JA hr rfl ?_; (with_reducible refine hK _ _ ?_)) | ((with_reducible apply xx); (· (repeat (first | with_reducible exact Lies.one | with_reducible apply Lies.next))); (with_reducible refine hK _ _ ?_)) | ((with_reducible apply zE); (· (repeat (first | with_reducible exact Lies.one | with_reducible apply Lies.next))); (· exact rfl); (with_reducible refine hK _ _ ?_))); clear hK K)); try ((with_reducible refine yT ?_); try simp only [Cont.then, Cont.block, Cont.noGoto, reduceIte, aP])
 refine zg fun K hK => ?_; refine pBk hK ?_; clear hK K
 (try refine xy ?_); (try refine zq ?_)
 refine hN2 _ _ _ ?_; clear hN2;refine zM ?_;refine zb [H] ?_; exact ⟨by rw [word_eq], rfl⟩
theorem word_at (H : Chunk) (a : Option Addr) (len cap : Nat) (bs : List UInt8) (hb : 4 <= bs.length) (h : Rd 1 [H] a len (bs.map b8)) :
  Meets prog 252 [.slice a len cap] [H] fun v A => v = b32 (wordAt bs 0) /\ A = [H] := by
 match bs, hb, h with
 | x0 :: x1 :: x2 :: x3 :: l, _, h => exact Is H a len cap x0 x1 x2 x3 l h
theorem Kh (H : Chunk) (a : Option Addr) (cap : Nat) (hcap : 64 <= cap) (bs : List UInt8) (hb : bs.length = 64) (h : Rd 1 [H] a 64 (bs.map b8)) :
  Meets prog 232 [.slice a 64 cap] [H] fun v A => v = .agg (rowW (spr bs 64)) /\ A = [H] := by
 refine eN func232 ntmps232 results232 fun F => ?_
 refine zd fun N1 hN1 => ?_
 refine rgE ?_;refine zf fun K hK => ?_; refine zu fun b2 => ?_; (try simp only [Value.cells]); refine hK _ _ ?_; clear hK K
 refine rnE ?_;refine hN1 _ _ _ ?_; clear hN1;refine zd fun N2 hN2 => ?_
 refine rgE ?_;refine zf fun K hK => ?_; refine zu fun b3 => ?_; (try simp only [Value.cells]); refine hK _ _ ?_; clear hK K
 refine rnE ?_;refine hN2 _ _ _ ?_; clear hN2;refine zd fun N3 hN3 => ?_
 refine zd fun N4 hN4 => ?_
 refine rgE ?_;refine hN4 _ _ _ ?_; clear hN4;refine zp ?_
 refine xd (fun q D L S => ∃ i : Nat, i <= 16 /\ q = 16 - i /\ D = [] /\ L = [(10, .int .i64 i), (0, .slice a 64 cap), (2, .pointer (some ⟨b2, 0, none⟩)), (3, .pointer (some ⟨b3, 0, none⟩))] /\
  S = [[(b3, .cells (rowW (spr bs i)) 352 (0, 0))], [(b2, .cells (rowW (spr bs 0)) 352 (0, 0))], F, H]) ?_ ?_
 ·exact ⟨_, _, _, ⟨0, by omega, rfl, rfl, rfl, rfl⟩, by (repeat (first | exact True.intro | (refine aE ?_ ?_; (· (try simp only [evT, lookT_hit, lookT_miss, aG]); (first | done | exact rfl))))), amA⟩
 ·rintro q D L S ⟨i, hi, rfl, rfl, rfl, rfl⟩;refine zd fun N5 hN5 => ?_
  refine rgE ?_;refine hN5 _ _ _ ?_; clear hN5;refine zd fun N6 hN6 => ?_
  refine xJ (fun hc => ?_) (fun hc => ?_)
  ·have hc := of_decide_eq_true hc;refine zI ?_;refine hN6 _ _ _ ?_; clear hN6;refine zd fun N7 hN7 => ?_
   refine zp ?_;refine zd fun N8 hN8 => ?_
   refine rgE ?_;refine hN8 _ _ _ ?_; clear hN8;refine rgE ?_;refine cA (word_at H _ _ _ _ (by simp; omega) (qz h (l := (4 * (i : Int)).toNat) (h' := 64) (m := cap) (by omega) (by omega) (by omega))) ?_; rintro v A ⟨rfl, rfl⟩
   (try refine runv_to ?_); (try refine jg ?_)
   have e : (spr bs i).set (0 + i * 1) (wordAt ((bs.drop (4 * (i : Int)).toNat).take (64 - (4 * (i : Int)).toNat)) 0) = spr bs (i + 1) := by
    rw [UL _ _ _ (by omega), show (4 * (i : Int)).toNat = 4 * i from by omega]; rw [show 0 + i * 1 = i from by omega];simp only [spr]; rw [if_pos (by omega)]
   rw [e];refine hN7 _ _ _ ?_; clear hN7;refine rgE ?_;exact zv ⟨i + 1, by omega, rfl, rfl, rfl, rfl⟩
  ·have hc := of_decide_eq_false hc;refine zU ?_; try simp only [Cont.then, Cont.block, Cont.noGoto, reduceIte, aP];refine hN3 _ _ _ ?_; clear hN3;obtain rfl : i = 16 := by omega
   refine zd fun N9 hN9 => ?_
   refine zd fun N10 hN10 => ?_
   refine rgE ?_;refine hN10 _ _ _ ?_; clear hN10;refine zp ?_
   refine xd (fun q D L S => ∃ i : Nat, 16 <= i /\ i <= 64 /\ q = 64 - i /\ D = [] /\ L = [(5, .int .i64 i), (2, .pointer (some ⟨b2, 0, none⟩)), (3, .pointer (some ⟨b3, 0, none⟩))] /\
    S = [[(b3, .cells (rowW (spr bs i)) 352 (0, 0))], [(b2, .cells (rowW (spr bs 0)) 352 (0, 0))], F, H]) ?_ ?_
   ·exact ⟨_, _, _, ⟨16, by omega, by omega, rfl, rfl, rfl, rfl⟩, by (repeat (first | exact True.intro | (refine aE ?_ ?_; (· (try simp only [evT, lookT_hit, lookT_miss, aG]); (first | done | exact rfl))))), amA⟩
   ·rintro q D L S ⟨i, h16, hi, rfl, rfl, rfl, rfl⟩;refine zd fun N11 hN11 => ?_
    refine zd fun N12 hN12 => ?_
    refine rgE ?_;refine hN12 _ _ _ ?_; clear hN12;refine xJ (fun hc => ?_) (fun hc => ?_)
    ·have hc := of_decide_eq_true hc;refine zI ?_;refine hN11 _ _ _ ?_; clear hN11;refine zd fun N13 hN13 => ?_
     refine zp ?_;refine zd fun N14 hN14 => ?_
     refine cdL [[0], [1], [2], [3], [4], [5], [6], [7], [8, 0, 7], [9, 0]] ?_
     (try refine zO ?_); (try refine zq ?_)
     refine zg fun K hK => ?_; (repeat refine jG ?_); refine hK _ _ ?_; clear hK K
     (try refine xy ?_); (try refine zq ?_)
     refine zg fun K hK => ?_; (repeat refine jG ?_); refine hK _ _ ?_; clear hK K
     (try refine xy ?_); (try refine zq ?_)
     refine hN14 _ _ _ ?_; clear hN14;refine zd fun N15 hN15 => ?_
     refine rgE ?_;refine cA (jr _ 7 (by decide) (by decide)) ?_; rintro v A ⟨rfl, rfl⟩;refine rnE ?_;refine cA (jr _ 18 (by decide) (by decide)) ?_; rintro v A ⟨rfl, rfl⟩;refine rnE ?_;refine hN15 _ _ _ ?_; clear hN15;refine zd fun N16 hN16 => ?_
     refine rgE ?_;refine cA (jr _ 17 (by decide) (by decide)) ?_; rintro v A ⟨rfl, rfl⟩;refine rnE ?_;refine cA (jr _ 19 (by decide) (by decide)) ?_; rintro v A ⟨rfl, rfl⟩;refine rnE ?_;refine hN16 _ _ _ ?_; clear hN16;refine cdL [[0], [1], [2], [3], [4], [5], [6], [7], [8], [9], [10], [11], [12], [13], [14], [15, 0]] ?_
     (try refine zO ?_); (try refine zq ?_)
     refine zg fun K hK => ?_; (first | ((with_reducible apply vS); (· (repeat (first | with_reducible exact Upd.one | with_reducible apply Upd.next))); (· (first | (rw [ld_len]; omega) | (rw [aW]; omega) | (rw [St.list_len]; omega) | (rw [xE]; omega) | (rw [xf]; omega) | (rw [zS _ _ _ (by omega)]; omega)))) | ((with_reducible apply wZ); (· (repeat (first | with_reducible exact Upd.one | with_reducible apply Upd.next))); (· (first | (rw [ld_len]; omega) | (rw [aW]; omega) | (rw [St.list_len]; omega) | (rw [xE]; omega) | (rw [xf]; omega) | (rw [zS _ _ _ (by omega)]; omega))))); (repeat refine jG ?_); refine hK _ _ ?_; clear hK K
     (try refine xy ?_); (try refine zq ?_)
     refine hN13 _ _ _ ?_; clear hN13;rw [show 0 + i * 1 = i from by omega, show 0 + ((i : Int) - 16).toNat * 1 = i - 16 from by omega, show 0 + ((i : Int) - 15).toNat * 1 = i - 15 from by omega, show 0 + ((i : Int) - 7).toNat * 1 = i - 7 from by omega, show 0 + ((i : Int) - 2).toNat * 1 = i - 2 from by omega];have e : (spr bs i).set i (nxt (spr bs i) i) = spr bs (i + 1) := by simp only [spr]; rw [if_neg (by omega)]
     refine qH (L' := [(5, .int .i64 i), (2, .pointer (some ⟨b2, 0, none⟩)), (3, .pointer (some ⟨b3, 0, none⟩))])
      (S' := [[(b3, .cells (rowW ((spr bs i).set i (nxt (spr bs i) i))) 352 (0, 0))], [(b2, .cells (rowW (spr bs 0)) 352 (0, 0))], F, H]) (by (repeat (first | exact True.intro | (refine aE ?_ ?_; (· (try simp only [evT, lookT_hit, lookT_miss, aG]); (first | done | exact rfl)))))) amA ?_
     rw [e];refine rgE ?_;exact zv ⟨i + 1, by omega, by omega, rfl, rfl, rfl, rfl⟩
    ·have hc := of_decide_eq_false hc;refine zU ?_; try simp only [Cont.then, Cont.block, Cont.noGoto, reduceIte, aP];refine hN9 _ _ _ ?_; clear hN9;obtain rfl : i = 64 := by omega
     refine zd fun N17 hN17 => ?_
     refine xV ?_;refine zf fun K hK => ?_
     refine jO lkA (xf _ _) ?_;refine hK _ _ ?_; clear hK K;refine zf fun K hK => ?_
     refine jE upA (xf _ _) (xf _ _) ?_;refine hK _ _ ?_; clear hK K;refine rnE ?_;refine hN17 _ _ _ ?_; clear hN17;refine zM ?_;refine ⟨_, by simp only [ji, aZ, dS]; (repeat (first | with_reducible exact Take.nil _ | with_reducible exact Pick.head _ _ | with_reducible apply Pick.tail | with_reducible apply Take.cons)), ?_⟩; simp only [resW, withV, lookT_hit, lookT_miss, aG]; refine jO lkA (xf _ _) ?_; exact ⟨[H], ⟨rfl, rfl⟩, amA⟩
theorem XW (b e : Nat) (m : Nat × Nat) (s : St) (r : List Value) :
  Meets prog 187 [.pointer (some ⟨b, 0, none⟩)] [[(b, .cells (rowX s.list r) e m)]] (New8 5 s.bytes [[(b, .cells (rowX s.list r) e m)]]) := by
 refine eN func187 ntmps187 results187 fun F => ?_
 refine zd fun N1 hN1 => ?_
 refine rgE ?_;refine hN1 _ _ _ ?_; clear hN1;refine zd fun N2 hN2 => ?_
 refine rgE ?_;refine hN2 _ _ _ ?_; clear hN2;refine zd fun N3 hN3 => ?_
 refine zd fun N4 hN4 => ?_
 refine rgE ?_;refine hN4 _ _ _ ?_; clear hN4;refine zp ?_;refine zB ?_;refine xd (fun q D L S => ∃ (i : Nat) (C : Chunk) (a : Option Addr) (cap : Nat), i <= 8 /\ Own8 5 C a (4 * i) cap ((s.list.take i).flatMap zW) /\ q = 8 - i /\ D = [] /\ L = [(7, .int .i64 i), (6, .pointer (some ⟨b, 0, none⟩)), (3, .slice a (4 * i) cap)] /\ S = [C, F, [(b, .cells (rowX s.list r) e m)]]) ?_ ?_
 ·exact ⟨_, _, _, ⟨0, [], none, 0, by omega, own_nil, rfl, rfl, rfl, rfl⟩, by (repeat (first | exact True.intro | (refine aE ?_ ?_; (· (try simp only [evT, lookT_hit, lookT_miss, aG]); (first | done | exact rfl))))), amA⟩
 ·rintro q D L S ⟨i, C, a, cap, hi, ho, rfl, rfl, rfl, rfl⟩;refine zd fun N5 hN5 => ?_
  refine rgE ?_;refine hN5 _ _ _ ?_; clear hN5;refine zd fun N6 hN6 => ?_
  refine xJ (fun hc => ?_) (fun hc => ?_)
  ·have hc := of_decide_eq_true hc;refine zI ?_;refine hN6 _ _ _ ?_; clear hN6;refine zd fun N7 hN7 => ?_
   refine zp ?_;refine zd fun N8 hN8 => ?_
   refine Jy ?_; (try refine jg ?_);refine hN8 _ _ _ ?_; clear hN8;refine rgE ?_;refine zf fun K hK => ?_; refine zX ([_, _, _, _]) (by decide) rfl (rfl) (fun b1 C1 ho1 => ?_); refine hK _ _ ?_; clear hK K
   refine zf fun K hK => ?_; refine app8 (ho) pkA (ho1.rd mmA) (by omega) (fun C2 a2 cap2 ho2 => ?_); refine hK _ _ ?_; clear hK K
   rw [VH, show 0 + i * 1 = i from by omega, <- XX s i (by omega)] at ho2;refine rnE ?_;refine hN7 _ _ _ ?_; clear hN7;refine rgE ?_;exact zv ⟨i + 1, C2, a2, cap2, by omega, ho2, rfl, rfl, rfl, rfl⟩
  ·have hc := of_decide_eq_false hc;refine zU ?_; try simp only [Cont.then, Cont.block, Cont.noGoto, reduceIte, aP];refine hN3 _ _ _ ?_; clear hN3;obtain rfl : i = 8 := by omega
   refine zd fun N9 hN9 => ?_
   refine rgE ?_;refine hN9 _ _ _ ?_; clear hN9;refine zM ?_;refine zb ([C, [(b, .cells (rowX s.list r) e m)]]) ?_; exact ⟨_, _, _, rfl, ho, rfl⟩
theorem long_spec (n : Nat) : Meets prog 251 [.int .u64 n] [] (New8 5 (be 8 n) []) := by
 refine eN func251 ntmps251 results251 fun F => ?_
 refine zd fun N1 hN1 => ?_
 refine rgE ?_;refine hN1 _ _ _ ?_; clear hN1;refine zd fun N2 hN2 => ?_
 refine rgE ?_;refine hN2 _ _ _ ?_; clear hN2;refine zd fun N3 hN3 => ?_
 refine zd fun N4 hN4 => ?_
 refine rgE ?_;refine hN4 _ _ _ ?_; clear hN4;refine zp ?_;refine zB ?_;refine xd (fun q D L S => ∃ (i : Nat) (C : Chunk) (a : Option Addr) (cap : Nat), i <= 8 /\ Own8 5 C a i cap ((be 8 n).take i) /\ q = 8 - i /\ D = [] /\ L = [(5, .int .i64 i), (0, .int .u64 n), (3, .slice a i cap)] /\ S = [C, F]) ?_ ?_
 ·exact ⟨_, _, _, ⟨0, [], none, 0, by omega, own_nil, rfl, rfl, rfl, rfl⟩, by (repeat (first | exact True.intro | (refine aE ?_ ?_; (· (try simp only [evT, lookT_hit, lookT_miss, aG]); (first | done | exact rfl))))), amA⟩
 ·rintro q D L S ⟨i, C, a, cap, hi, ho, rfl, rfl, rfl, rfl⟩;refine zd fun N5 hN5 => ?_
  refine rgE ?_;refine hN5 _ _ _ ?_; clear hN5;refine zd fun N6 hN6 => ?_
  refine xJ (fun hc => ?_) (fun hc => ?_)
  ·have hc := of_decide_eq_true hc;refine zI ?_;refine hN6 _ _ _ ?_; clear hN6;refine zd fun N7 hN7 => ?_
   refine zp ?_;refine zd fun N8 hN8 => ?_
   refine rgE ?_;refine hN8 _ _ _ ?_; clear hN8;refine rgE ?_
   have e : Value.int .u8 (IntKind.u8.wrap ((n : Int) / 2 ^ (8 * (7 - (i : Int))).toNat)) = b8 (aH (n / 256 ^ (8 - 1 - i))) := by
    rw [show (8 * (7 - (i : Int))).toNat = 8 * (8 - 1 - i) from by omega, shift8, qt]; rfl
   rw [e];refine zf fun K hK => ?_; refine zX ([_]) (by decide) rfl (rfl) (fun b1 C1 ho1 => ?_); refine hK _ _ ?_; clear hK K
   refine zf fun K hK => ?_; refine app8 (ho) pkA (ho1.rd mmA) (by omega) (fun C2 a2 cap2 ho2 => ?_); refine hK _ _ ?_; clear hK K
   rw [<- be_next 8 n i (by omega)] at ho2;refine rnE ?_;refine hN7 _ _ _ ?_; clear hN7;refine rgE ?_;exact zv ⟨i + 1, C2, a2, cap2, by omega, ho2, rfl, rfl, rfl, rfl⟩
  ·have hc := of_decide_eq_false hc;refine zU ?_; try simp only [Cont.then, Cont.block, Cont.noGoto, reduceIte, aP];refine hN3 _ _ _ ?_; clear hN3;obtain rfl : i = 8 := by omega
   refine zd fun N9 hN9 => ?_
   refine rgE ?_;refine hN9 _ _ _ ?_; clear hN9;refine zM ?_;refine zb ([C]) ?_; exact ⟨_, _, _, rfl, ho, rfl⟩
theorem Vt (n : Nat) (hn : n < 2305843009213693952) : Meets prog 231 [.int .u64 n] [] (New8 5 (pad n) []) := by
 refine eN func231 ntmps231 results231 fun F => ?_
 refine zd fun N1 hN1 => ?_
 refine rgE ?_;refine hN1 _ _ _ ?_; clear hN1;refine zd fun N2 hN2 => ?_
 refine rgE ?_;refine zf fun K hK => ?_; refine zX ([128]) (by decide) rfl (rfl) (fun b1 C1 ho1 => ?_); refine hK _ _ ?_; clear hK K
 refine rnE ?_;refine hN2 _ _ _ ?_; clear hN2;refine zd fun N3 hN3 => ?_
 refine zp ?_;refine xd (fun q D L S => ∃ (i : Nat) (C : Chunk) (a : Option Addr) (cap : Nat), i <= qm n /\ Own8 5 C a (1 + i) cap (128 :: aQ i 0) /\ q = qm n - i /\ D = [] /\ L = [(0, .int .u64 n), (3, .slice a (1 + i) cap)] /\ S = [C, F]) ?_ ?_
 ·exact ⟨_, _, _, ⟨0, C1, _, _, by omega, ho1, rfl, rfl, rfl, rfl⟩, by (repeat (first | exact True.intro | (refine aE ?_ ?_; (· (try simp only [evT, lookT_hit, lookT_miss, aG]); (first | done | exact rfl))))), amA⟩
 ·rintro q D L S ⟨i, C, a, cap, hi, ho, rfl, rfl, rfl, rfl⟩;have hz : qm n <= 63 := by unfold qm; omega
  refine zd fun N4 hN4 => ?_
  refine zd fun N5 hN5 => ?_
  refine rgE ?_;refine hN5 _ _ _ ?_; clear hN5;refine xJ (fun hc => ?_) (fun hc => ?_)
  ·have hc := bne_iff_ne.1 hc;have hlt : i < qm n := by simp only [qm] at hi ⊢; omega
   refine zI ?_;refine hN4 _ _ _ ?_; clear hN4;refine zp ?_;refine rgE ?_;refine zf fun K hK => ?_; refine zX ([0]) (by decide) rfl (rfl) (fun b1 C1 ho1 => ?_); refine hK _ _ ?_; clear hK K
   refine zf fun K hK => ?_; refine app8 (ho) pkA (ho1.rd mmA) (by omega) (fun C2 a2 cap2 ho2 => ?_); refine hK _ _ ?_; clear hK K
   rw [<- YS] at ho2;refine rnE ?_;exact zv ⟨i + 1, C2, a2, cap2, by omega, ho2, rfl, rfl, rfl, rfl⟩
  ·have hc := bne_eq_false_iff_eq.1 hc;refine zU ?_; try simp only [Cont.then, Cont.block, Cont.noGoto, reduceIte, aP];refine hN3 _ _ _ ?_; clear hN3;obtain rfl : i = qm n := by unfold qm at *; omega
   refine zd fun N6 hN6 => ?_
   refine rgE ?_;rw [show (8 * (n : Int)) = ((8 * n : Nat) : Int) from by omega];refine cA (long_spec (8 * n)) ?_; rintro v A ⟨C2, a2, cap2, rfl, ho2, rfl⟩; (try simp only [aD, aC]);refine rnE ?_;refine zf fun K hK => ?_; refine app8 (ho) pkA (ho2.rd mmA) (by rw [jb]; omega) (fun C3 a3 cap3 ho3 => ?_); refine hK _ _ ?_; clear hK K
   refine rnE ?_;refine hN6 _ _ _ ?_; clear hN6;refine zM ?_;have e : 1 + qm n + (be 8 (8 * n)).length = (pad n).length := by rw [yh, jb]; omega
   rw [e] at ho3 ⊢;refine zb ([C3]) ?_; exact ⟨_, _, _, rfl, ho3, rfl⟩
theorem xA (H : Chunk) (a : Option Addr) (cap : Nat) (bs : List UInt8) (hb : bs.length <= 70368744177664) (h : Rd 1 [H] a bs.length (bs.map b8)) :
  Meets prog 81 [.slice a bs.length cap] [H] (New8 5 bs [H]) := by
 refine eN func81 ntmps81 results81 fun F => ?_
 refine zd fun N1 hN1 => ?_
 refine rgE ?_;refine hN1 _ _ _ ?_; clear hN1;refine zd fun N2 hN2 => ?_
 refine zd fun N3 hN3 => ?_
 refine rgE ?_;refine hN3 _ _ _ ?_; clear hN3;refine xJ (fun hc => ?_) (fun hc => ?_)
 ·have hbs : bs = [] := by
   cases bs with
   | nil => rfl
   | cons x l =>
    obtain ⟨_, _, _, _, _, h3, _⟩ := h.2 (by simp);subst h3; cases hc
  subst hbs;refine zd fun N4 hN4 => ?_
  refine rgE ?_;refine hN4 _ _ _ ?_; clear hN4;refine zB ?_;refine zM ?_;refine zb ([[], H]) ?_; exact ⟨_, _, _, rfl, own_nil, rfl⟩
 ·refine zI ?_;refine hN2 _ _ _ ?_; clear hN2;refine zd fun N5 hN5 => ?_
  refine rgE ?_;refine zf fun K hK => ?_; refine zX ([]) (by decide) rfl (rfl) (fun b1 C1 ho1 => ?_); refine hK _ _ ?_; clear hK K
  refine rnE ?_;refine zf fun K hK => ?_; refine app8 (ho1) pkA (h.mem mmA) (by omega) (fun C2 a2 cap2 ho2 => ?_); refine hK _ _ ?_; clear hK K
  rw [cD] at ho2 ⊢;refine rnE ?_;refine hN5 _ _ _ ?_; clear hN5;refine zM ?_;refine zb ([C2, H]) ?_; exact ⟨_, _, _, rfl, ho2, rfl⟩
theorem qG (H : Chunk) (a : Option Addr) (cap : Nat) (bs : List UInt8) (hb : bs.length <= 70368744177664) (h : Rd 1 [H] a bs.length (bs.map b8)) :
  Meets prog 86 [.slice a bs.length cap] [H] (New8 5 bs [H]) := by
 refine eN func86 ntmps86 results86 fun F => ?_
 refine zd fun N1 hN1 => ?_
 refine rgE ?_;refine hN1 _ _ _ ?_; clear hN1;refine zd fun N2 hN2 => ?_
 refine rgE ?_;refine zf fun K hK => ?_; refine zX ([]) (by decide) rfl (rfl) (fun b1 C1 ho1 => ?_); refine hK _ _ ?_; clear hK K
 refine rnE ?_;refine zf fun K hK => ?_; refine app8 (ho1) pkA (h.mem mmA) (by omega) (fun C2 a2 cap2 ho2 => ?_); refine hK _ _ ?_; clear hK K
 rw [cD] at ho2 ⊢;refine rnE ?_;refine hN2 _ _ _ ?_; clear hN2;refine zM ?_;refine zb ([C2, H]) ?_; exact ⟨_, _, _, rfl, ho2, rfl⟩
theorem Zi (A : State) (a b : Option Addr) (n m c d : Nat) (xs ys : List UInt8) (h1 : Rd 1 A a n (xs.map b8)) (h2 : Rd 1 A b m (ys.map b8)) :
  Meets prog 68 [.slice a n c, .slice b m d] A fun v A' => v = .bool (xs == ys) /\ A' = A := by
 refine eN func68 ntmps68 results68 fun F => ?_
 refine zd fun N1 hN1 => ?_
 refine rgE ?_;refine hN1 _ _ _ ?_; clear hN1;refine zd fun N2 hN2 => ?_
 refine rgE ?_;refine zf fun K hK => ?_
 refine xm (h1.next F) ?_;refine hK _ _ ?_; clear hK K;refine rnE ?_;refine zf fun K hK => ?_
 refine xm (h2.next F) ?_;refine hK _ _ ?_; clear hK K;refine rnE ?_;refine hN2 _ _ _ ?_; clear hN2;refine zM ?_;exact kO A (by (try simp only [evT, lookT_hit, lookT_miss, aG]); (first | done | exact rfl)) ⟨rfl, rfl⟩ (Among.refl _)
end Go.Proofs.YtebikhhoppiapaaGreatDoor
