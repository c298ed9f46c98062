/- Texts in a row: the walk's rules and contracts, as each says. Conditions: as each says. -/
import Derived.Test.YtebikhhoppiapaaGreatDoorM09790199
import Derived.Test.YtebikhhoppiapaaGreatDoorMa22cf9b8
import Derived.Test.YtebikhhoppiapaaGreatDoorM3585969a
import Derived.Shelf.Strings.OnBuilder
import Derived.Shelf.Small.Strs
import Derived.Test.YtebikhhoppiapaaGreatDoorMa22cf9b8
set_option linter.unusedSimpArgs false
set_option linter.defProp false
set_option linter.unusedVariables false
set_option maxRecDepth 100000
set_option maxHeartbeats 8000000
open List renaming mem_cons_self -> aA, length_append -> aB, cons_append -> aC, nil_append -> aD, getElem?_eq_getElem -> aE, length_cons -> aH, length_singleton -> aI, mem_cons_of_mem -> aK, append_nil -> aL, append_assoc -> aN, flatten_cons -> aO, length_nil -> aQ, getD_eq_getElem?_getD -> aS, not_mem_nil -> aT, replicate -> aU, length_drop -> aV, length_take -> aX, mem_cons -> aY, length_replicate -> aZ, length_map -> iA, map_cons -> iB, range -> iC, getElem?_cons_succ -> iD, mem_append_left -> iG, drop_eq_getElem_cons -> iH, getElem?_cons_zero -> iJ, take_length -> iK, flatten_append -> iL, getElem?_toArray -> iP, flatten_nil -> iS, flatMap_cons -> iU, getElem?_append_right -> lD, take_of_length_le -> lE, getElem?_map -> lF, take_add_one -> lG, perm_append_comm -> lH, flatMap_append -> lI, map_append -> lL, getElem?_append_left -> lP, dropWhile_cons -> lQ, take_append_drop -> lR, getElem_mem -> lT, getElem?_take_of_lt -> lY, length -> mA, getD -> mB, length_set -> mC, drop_eq_nil_of_le -> mE, getElem?_modify -> mF, toList_toArray -> mG, mem_map_of_mem -> mH, mem_singleton -> mJ, all_cons -> mK, drop_drop -> mQ, drop_length -> mR, map_nil -> mV
open And renaming intro -> aF
open UInt8 renaming ofNat -> aG, toNat_ofNat' -> iO
open Nat renaming reduceBEq -> aJ, reduceEqDiff -> aP, le_refl -> aR, reduceSub -> iF, sub_zero -> iI, reduceLT -> iN, reduceAdd -> iQ, zero_add -> iT, mul_le_mul_right -> lM, add_mul -> lO, mod_eq_of_lt -> lV, zero_le -> lW, shiftLeft_eq -> mL, le_trans -> mN, add_sub_cancel -> mO, add_zero -> mT
open Bool renaming and_eq_true -> aM, not_eq_true' -> mI, true_and -> mM, or_eq_true -> mP, false_or -> mS
open Int renaming toNat_natCast -> aW, reduceToNat -> iM, reduceBEq -> iV, reduceBNe -> iW, reduceAdd -> iX, reduceSub -> iY, reduceMul -> iZ, reduceDiv -> lA, reduceMod -> lB, reducePow -> lC, reduceLT -> lJ, reduceLE -> lK
open BitVec renaming ofInt -> iE, toNat_ofNat -> lU, ofNat -> lZ
open Option renaming getD_some -> iR, map_some -> lX
open Array renaming getElem?_setIfInBounds_ne -> lN, ext' -> lS, getElem?_eq_getElem -> mD
namespace Go.Proofs.YtebikhhoppiapaaGreatDoor
open Go Go.Ost Go.Sha Go.Nam Tryz
def cix (n : L8) : List CD -> Nat -> Int
 | [],_ => -1
 | d :: l,i => if d.n = n then (i : Int) else cix n l (i + 1)
theorem Qa {n : L8} : ∀ (l : List CD) (k i : Nat),(∀ j,j < i -> ∀ d,l[j]? = some d -> d.n ≠ n) -> (∃ d,l[i]? = some d /\ d.n = n) -> cix n l k = ((k + i : Nat) : Int)
 | [],_,i,_,⟨d,h,_⟩ => by simp at h
 | u :: l,k,0,_,⟨d,h,e⟩ => by
  rw [iJ,Option.some.injEq] at h;subst h;unfold cix;rw [if_pos e];rfl
 | u :: l,k,i + 1,hn,⟨d,h,e⟩ => by
  have h0 := hn 0 oM u rfl;unfold cix;rw [if_neg h0,Qa l (k + 1) i (fun j hj v hv => hn (j + 1) oM v (by rw [iD];exact hv)) ⟨d,by rw [iD] at h;exact h,e⟩]
  congr 1;omega
theorem Qb {n : L8} : ∀ (l : List CD) (k : Nat),(∀ d ∈ l,d.n ≠ n) -> cix n l k = -1
 | [],_,_ => rfl
 | u :: l,k,h => by
  unfold cix;rw [if_neg (h u (aA ..))];exact Qb l (k + 1) fun v hv => h v (aK _ hv)
theorem wB {s : Nat} {ta la : OA} {tn tc lc : Nat} {last reads : Int} {CL : zd} {ds : List CD} (hds : ds.length <= 100) (hok : ∀ d ∈ ds,d.ok) (hL : OwnC CL la lc ds) (u : L8) (hu : u.length <= 100000) :
  zh prog 60 [pT s,sT [116],sT u] [rsB s ta tn tc la ds.length lc last reads,CL] fun v A => v = .int .i64 (if (xg u 32).2 = 0 then cix (xg u 32).1 ds 0 else -1) /\ A = [rsB s ta tn tc la ds.length lc last reads,CL] := by
 have hs := QZ;refine eNg func60 ntmps60 results60 fun F => ?_
 refine cR (kx u hu 32 dM) ?_
 by_cases h0 : (xg u 32).2 = 0
 ·rw [if_pos h0,h0];refine gg ?_;generalize (xg u 32).1 = n at *
  refine zM (fun q D L S => ∃ i : Nat,i <= ds.length /\ (∀ j,j < i -> ∀ d,ds[j]? = some d -> d.n ≠ n) /\ q = ds.length - i /\ D = [] /\
   L = [(27,.int .i64 i),(26,.int .i64 ds.length),(25,.slice la ds.length lc),(7,sT n),(1,sT [116])] /\ S = [F,rsB s ta tn tc la ds.length lc last reads,CL])
   ⟨0,oM,(fun j hj => absurd hj oM),rfl,rfl,rfl,rfl⟩ ?_
  rintro q D L S ⟨i,hi,hno,rfl,rfl,rfl,rfl⟩;refine gg ?_;refine if_d (fun hc => ?_) (fun hc => ?_)
  ·have hil : i < ds.length := oM;have hx0 : ds[i]? = some ds[i] := aE hil;have hdo := hok _ (lT hil);generalize ds[i] = d at *;refine gg ?_;refine zF ?_;refine xh hL hs hx0 dM mmA ?_;refine oAg zcd.toArray fun b7 => ?_
   refine oSg d.v rfl hdo ?_
   cases hb : (d.n == n) with
   | true =>
    refine gg ?_;refine ze [rsB s ta tn tc la ds.length lc last reads,CL] ?_;refine ⟨?_,rfl⟩;rw [Qa ds 0 i hno ⟨d,hx0,by simpa using hb⟩,iT]
   | false =>
    refine gg ?_;refine zI ⟨i + 1,oM,fun j hj u hu => ?_,rfl,rfl,rfl,rfl⟩
    by_cases hji : j = i
    ·subst hji;rw [hx0,Option.some.injEq] at hu;rw [<- hu];simpa using hb
    ·exact hno j oM u hu
  ·obtain rfl : i = ds.length := oM;refine gg ?_;refine ze [rsB s ta tn tc la ds.length lc last reads,CL] ?_;refine ⟨?_,rfl⟩
   rw [Qb ds 0 fun d hd => by
    obtain ⟨j,hj,rfl⟩ := List.mem_iff_getElem.1 hd;exact hno j hj _ (aE hj)]
 ·rw [if_neg h0,beq_eq_false_iff_ne.2 h0];refine gg ?_;refine ze [rsB s ta tn tc la ds.length lc last reads,CL] ?_;exact ⟨rfl,rfl⟩
theorem dw {P : Program} {t : TypeId} {x y : Operand} {a b : L8} {κ : Value -> Prop} [h : TStr P t] : zk P (do eqGuard .lss t x y (sT a) (sT b);binOp .lss t (sT a) (sT b)) κ = κ (.bool (Op.bytesLess a b)) :=
 zq (fun w => by
  have e : Op.bytesLess a b = Op.bytesLess (str a).toList (str b).toList := by rw [ByteArray.toList_eq,ByteArray.toList_eq];rfl
  rw [e];rfl) κ
theorem Us {s : Nat} {ta la : OA} {tn tc lc : Nat} {last reads : Int} {CL : zd} {ds : List CD} (hds : ds.length <= 100) (hok : ∀ d ∈ ds,d.ok) (hL : OwnC CL la lc ds) (c : CD) (hc : c.ok) (hlt : ∀ d ∈ ds,Op.bytesLess d.n c.n = true) :
  zh prog 92 [pT s,.agg c.v.toArray] [rsB s ta tn tc la ds.length lc last reads,CL] fun v A => ∃ la' lc' CL',OwnC CL' la' lc' (ds ++ [c]) /\ A = [rsB s ta tn tc la' (ds ++ [c]).length lc' last reads,CL'] := by
 have hs := QZ;have hcap := hL.1;refine eNg func92 ntmps92 results92 fun F => ?_
 refine oBg fun b3 => ?_
 refine zM (fun q D L S => ∃ i : Nat,i <= ds.length /\ q = ds.length - i /\ D = [] /\ L = [(4,.int .i64 i),(3,pT b3),(0,pT s)] /\
  S = [[(b3,.cells c.v.toArray 84 (0,0))],F,rsB s ta tn tc la ds.length lc last reads,CL]) ⟨0,oM,rfl,rfl,rfl,rfl⟩ ?_
 rintro q D L S ⟨i,hi,rfl,rfl,rfl,rfl⟩;refine gg ?_;refine cdL [[0],[1],[2],[3],[4],[5],[6],[7],[8],[9],[10],[11],[12],[13],[14],[15],[16],[17],[18],[19],[20],[21],[22],[23],[24],[25],[26],[27],[28],[29],[30],[31],[32],[33],[34],[35],[36],[37],[38],[39],[40],[41],[42],[43],[44],[45]] ?_
 dsimp only
 refine gg ?_
 by_cases h1 : (i : Int) < ds.length
 ·rw [dT h1];have hil : i < ds.length := oM;have hx0 : ds[i]? = some ds[i] := aE hil;have hdn := hlt _ (lT hil);generalize ds[i] = d at *;refine gg ?_;refine qF ?_;(try rw [show c.v.toArray[0] = sT [116] from rfl]);rw [dw,show Op.bytesLess [116] [116] = false from rfl];refine gg ?_;refine qF ?_;(try rw [show c.v.toArray[1] = sT c.n from rfl]);rw [dw,hdn];refine gg ?_;exact zI ⟨i + 1,oM,rfl,rfl,rfl,rfl⟩
 ·rw [dF h1];obtain rfl : i = ds.length := oM;refine gg ?_
  have hr0 : Rd 10 [CL] (cutA 10 la 0 lc) ds.length (ds.flatMap CD.v) := by
   have e : cutA 10 la 0 lc = la := by
    unfold cutA
    split
    ·rfl
    ·cases la <;> simp [Addr.add]
   rw [e];exact hL.rd (aA ..)
  refine yI 1 8 10 [[],[],[],[2],[2,3],[2,3,4],[],[2,3,4,5,6],[1,2,3,4,5,6,7],[],[1,2,3,4,5,6,7,8,9],[1,2,3,4,5,6,7,8,9,10],[],[12],[12,13],[12,13,14],[],[12,13,14,15,16],[1,2,3,4,5,6,7,8,9,10,11,12,13,14,15,16,17],[0,1,2,3,4,5,6,7,8,9,10,11,12,13,14,15,16,17,18],[0,1,2,3,4,5,6,7,8,9,10,11,12,13,14,15,16,17,18,19],[0,1,2,3,4,5,6,7,8,9,10,11,12,13,14,15,16,17,18,19,20]] [(0,false,[]),(2,false,[]),(3,false,[]),(4,false,[]),(5,false,[]),(6,false,[]),(7,false,[]),(9,false,[]),(12,false,[]),(13,false,[]),(14,false,[]),(15,false,[]),(16,false,[]),(17,false,[]),(1,true,[5,9,15]),(8,true,[9,15]),(10,true,[15]),(11,true,[15]),(18,true,[]),(19,false,[]),(20,false,[]),(21,true,[])] [[],[],[],[2],[2,3],[2,3,4],[],[2,3,4,5,6],[1,2,3,4,5,6,7,9,10],[],[1,9],[1,2,3,4,5,6,7,8,9,10],[],[12],[12,13],[12,13,14],[],[12,13,14,15,16],[1,2,3,4,5,6,7,8,9,10,11,12,13,14,15,16,17],[0,1,2,3,4,5,6,7,8,9,10,11,12,13,14,15,16,17,18],[0,1,2,3,4,5,6,7,8,9,10,11,12,13,14,15,16,17,18,19],[0,1,2,3,4,5,6,7,8,9,10,11,12,13,14,15,16,17,18,19,20]] [(0,false,[]),(2,false,[]),(3,false,[]),(4,false,[]),(5,false,[]),(6,false,[]),(7,false,[]),(9,false,[]),(12,false,[]),(13,false,[]),(14,false,[]),(15,false,[]),(16,false,[]),(17,false,[]),(1,true,[5,9,15]),(10,true,[5,15]),(8,true,[15]),(11,true,[15]),(18,true,[]),(19,false,[]),(20,false,[]),(21,true,[])] [[],[9,10],[],[2],[2,3],[2,3,4],[],[2,3,4,5,6],[1,2,3,4,5,6,7,9,10],[],[9],[1,2,3,4,5,6,7,8,9,10],[],[12],[12,13],[12,13,14],[],[12,13,14,15,16],[1,2,3,4,5,6,7,8,9,10,11,12,13,14,15,16,17],[0,1,2,3,4,5,6,7,8,9,10,11,12,13,14,15,16,17,18],[0,1,2,3,4,5,6,7,8,9,10,11,12,13,14,15,16,17,18,19],[0,1,2,3,4,5,6,7,8,9,10,11,12,13,14,15,16,17,18,19,20]] [(0,false,[]),(2,false,[]),(3,false,[]),(4,false,[]),(5,false,[]),(6,false,[]),(7,false,[]),(9,false,[]),(12,false,[]),(13,false,[]),(14,false,[]),(15,false,[]),(16,false,[]),(17,false,[]),(10,true,[5,15]),(1,true,[5,15]),(8,true,[15]),(11,true,[15]),(18,true,[]),(19,false,[]),(20,false,[]),(21,true,[])] ?_ ?_ ?_
  ·refine gg ?_;refine qF ?_;refine zz (vs := c.v) lkA rfl ?_;refine gg ?_
   (try rw [Nat.sub_self])
   refine zG ?_;refine jD fun b0 C0 ho0 => ?_;refine pend ?_;refine pend ?_ (zz (vs := c.v) lkA rfl rfl);refine pend ?_
   refine gg ?_;refine zG ?_;refine zu (e := 84) (s := 10) (hs := inferInstance) (by rfl) dM ho0 (.inr pkA) (hr0.mem mmA) (VU hok) (by simp only [maxLen];omega) oM (fun C2 a2 c2 ho2 => ?_);refine pend ?_ (zz (vs := c.v) lkA rfl rfl);refine pend ?_;refine gg ?_
   (try rw [aD,iT] at ho2)
   (try rw [iT])
   refine zG ?_;refine xt (e := 84) (s := 10) (hs := inferInstance) (vs := c.v) (by rfl) dM dM rfl (fun b1 C1 ho1 => ?_);refine pend ?_;refine gg ?_;refine zG ?_;refine zu (e := 84) (s := 10) (hs := inferInstance) (by rfl) dM ho2 (.inr pkA) (ho1.rd mmA) hc (by simp only [maxLen];omega) oM (fun C3 a3 c3 ho3 => ?_);refine pend ?_;refine gg ?_;refine zG ?_;refine zu (e := 84) (s := 10) (hs := inferInstance) (by rfl) dM ho3 (.inr pkA) (vs := []) Rd.nil sM (by simp only [maxLen];omega) oM (fun C4 a4 c4 ho4 => ?_);refine gg ?_
   (try rw [aL,mT] at ho4)
   (try rw [mT])
   refine gM ?_;have e1 : ds.length + 1 = (ds ++ [c]).length := sM;have e2 : ds.flatMap CD.v ++ c.v = (ds ++ [c]).flatMap CD.v := by rw [lI];congr 1
   rw [e1,e2] at ho4;rw [e1];exact xm [rsB s ta tn tc a4 (ds ++ [c]).length c4 last reads,C4] ⟨a4,c4,C4,ho4,rfl⟩
  ·refine gg ?_;refine qF ?_;refine zz (vs := c.v) lkA rfl ?_;refine gg ?_
   (try rw [Nat.sub_self])
   refine zG ?_;refine jD fun b0 C0 ho0 => ?_;refine pend ?_;refine pend ?_ (zz (vs := c.v) lkA rfl rfl);refine pend ?_
   refine gg ?_;refine zG ?_;refine xt (e := 84) (s := 10) (hs := inferInstance) (vs := c.v) (by rfl) dM dM rfl (fun b1 C1 ho1 => ?_);refine pend ?_;refine pend ?_;refine gg ?_;refine zG ?_;refine zu (e := 84) (s := 10) (hs := inferInstance) (by rfl) dM ho0 (.inr pkA) (hr0.mem mmA) (VU hok) (by simp only [maxLen];omega) oM (fun C2 a2 c2 ho2 => ?_);refine pend ?_;refine gg ?_
   (try rw [aD,iT] at ho2)
   (try rw [iT])
   refine zG ?_;refine zu (e := 84) (s := 10) (hs := inferInstance) (by rfl) dM ho2 (.inr pkA) (ho1.rd mmA) hc (by simp only [maxLen];omega) oM (fun C3 a3 c3 ho3 => ?_);refine pend ?_;refine gg ?_;refine zG ?_;refine zu (e := 84) (s := 10) (hs := inferInstance) (by rfl) dM ho3 (.inr pkA) (vs := []) Rd.nil sM (by simp only [maxLen];omega) oM (fun C4 a4 c4 ho4 => ?_);refine gg ?_
   (try rw [aL,mT] at ho4)
   (try rw [mT])
   refine gM ?_;have e1 : ds.length + 1 = (ds ++ [c]).length := sM;have e2 : ds.flatMap CD.v ++ c.v = (ds ++ [c]).flatMap CD.v := by rw [lI];congr 1
   rw [e1,e2] at ho4;rw [e1];exact xm [rsB s ta tn tc a4 (ds ++ [c]).length c4 last reads,C4] ⟨a4,c4,C4,ho4,rfl⟩
  ·refine gg ?_;refine qF ?_;refine zz (vs := c.v) lkA rfl ?_;refine gg ?_
   (try rw [Nat.sub_self])
   refine zG ?_;refine xt (e := 84) (s := 10) (hs := inferInstance) (vs := c.v) (by rfl) dM dM rfl (fun b1 C1 ho1 => ?_);refine pend ?_;refine pend ?_;refine gg ?_;refine zG ?_;refine jD fun b0 C0 ho0 => ?_;refine pend ?_;refine pend ?_
   refine gg ?_;refine zG ?_;refine zu (e := 84) (s := 10) (hs := inferInstance) (by rfl) dM ho0 (.inr pkA) (hr0.mem mmA) (VU hok) (by simp only [maxLen];omega) oM (fun C2 a2 c2 ho2 => ?_);refine pend ?_;refine gg ?_
   (try rw [aD,iT] at ho2)
   (try rw [iT])
   refine zG ?_;refine zu (e := 84) (s := 10) (hs := inferInstance) (by rfl) dM ho2 (.inr pkA) (ho1.rd mmA) hc (by simp only [maxLen];omega) oM (fun C3 a3 c3 ho3 => ?_);refine pend ?_;refine gg ?_;refine zG ?_;refine zu (e := 84) (s := 10) (hs := inferInstance) (by rfl) dM ho3 (.inr pkA) (vs := []) Rd.nil sM (by simp only [maxLen];omega) oM (fun C4 a4 c4 ho4 => ?_);refine gg ?_
   (try rw [aL,mT] at ho4)
   (try rw [mT])
   refine gM ?_;have e1 : ds.length + 1 = (ds ++ [c]).length := sM;have e2 : ds.flatMap CD.v ++ c.v = (ds ++ [c]).flatMap CD.v := by rw [lI];congr 1
   rw [e1,e2] at ho4;rw [e1];exact xm [rsB s ta tn tc a4 (ds ++ [c]).length c4 last reads,C4] ⟨a4,c4,C4,ho4,rfl⟩
theorem yy {u n : L8} (h : xg u 32 = (n,0)) : xg n 32 = (n,0) /\ n.length <= 32 := by
 have hp := (eO u).1;unfold xg at h ⊢
 split at h
 ·rename_i h1;simp only [Prod.mk.injEq] at h;exact absurd h.2 h1
 split at h
 ·simp at h
 split at h
 ·simp at h
 ·rename_i h1 h2 h3
  simp only [Prod.mk.injEq,and_true] at h;rw [h] at hp h2 h3;refine ⟨?_,oM⟩;rw [hp,if_neg sM,if_neg h2,if_neg h3]
theorem eE {s : Nat} {ta la : OA} {tc lc : Nat} {last reads : Int} {T CL W : zd} {ds : List CD} (hT : cS T ta tc) (hds : ds.length <= 20) (hok : ∀ d ∈ ds,d.ok) (hL : OwnC CL la lc ds) (hl0 : 0 <= last) (hl1 : last < 1000) (u n : L8) (hu : u.length <= 1000) (hun : xg u 32 = (n,0)) (hno : ∀ d ∈ ds,d.n ≠ n) (hlt : ∀ d ∈ ds,Op.bytesLess d.n n = true) {vs : LV} {sec : Sec} (hW : SecW W vs sec) :
  zh prog 33 [pT s,sT [116],sT u,.agg vs.toArray] [rsB s ta 1 tc la ds.length lc last reads,T,CL,W]
  fun v A => ∃ (la' : OA) (lc' : Nat) (CL' : zd) (c : CD),v = .int .i64 0 /\ c.n = n /\ c.vs = vs /\ c.gen = last + 1 /\ c.rev = false /\ c.ok /\ OwnC CL' la' lc' (ds ++ [c]) /\ A = [rsB s ta 1 tc la' (ds ++ [c]).length lc' (last + 1) reads,T,CL',W] := by
 obtain ⟨hst,hnl⟩ := yy hun;have hnm := kx u oM 32 dM;rw [hun] at hnm;have hfd := wB (s := s) (ta := ta) (tn := 1) (tc := tc) (last := last) (reads := reads) oM hok hL n oM;rw [hst,if_pos rfl,Qb ds 0 hno] at hfd;obtain ⟨hvl,hvc⟩ := qB hW;have hr := hW;obtain ⟨a0,a1,a2,a3,c0,c1,c2,c3,rfl,_,l1,l2,l3,_⟩ := hr;refine eNg func33 ntmps33 results33 fun F => ?_
 refine oBg fun b7 => ?_
 refine cR (in_one hT) ?_;refine cR (hnm) ?_;refine oLg [.slice a0 1 c0,.int .i64 1,.slice a1 sec.st.length c1,.slice a2 sec.sv.length c2,.slice a3 sec.ha.length c3] rfl ?_;refine cR (YD a0 a1 a2 a3 c0 c1 c2 c3 _ _ _ l1 l2 l3) ?_;refine cR (hfd) ?_;refine cA (Yy (s := s) (ta := ta) (tn := 1) (tc := tc) (last := last) (reads := reads) oM hok hL) ?_;rintro v A ⟨ua,uc,rfl,rfl⟩;refine gA ?_;rw [dF (oM : ¬ (32 : Int) <= ds.length)];refine gg ?_;rw [dF (oM : ¬ (9007199254740992 : Int) <= last)];refine gg ?_;refine gM ?_
 have hcok : (⟨n,.slice a0 1 c0,.int .i64 1,.slice a1 sec.st.length c1,.slice a2 sec.sv.length c2,.slice a3 sec.ha.length c3,last + 1,false⟩ : CD).ok := by
  intro v hv;simp only [CD.v,aY,aT,or_false] at hv
  rcases hv with rfl | rfl | rfl | rfl | rfl | rfl | rfl | rfl | rfl | rfl <;> simp [Value.cell1]
 have hins := Us (s := s) (ta := ta) (tn := 1) (tc := tc) (last := last + 1) (reads := reads) oM hok hL (⟨n,.slice a0 1 c0,.int .i64 1,.slice a1 sec.st.length c1,.slice a2 sec.sv.length c2,.slice a3 sec.ha.length c3,last + 1,false⟩ : CD) hcok hlt;refine cdLg [[0],[1],[2],[3],[4],[5],[6],[7],[8],[9,0]] ?_;refine qF ?_;refine zz (vs := [.slice a0 1 c0,.int .i64 1,.slice a1 sec.st.length c1,.slice a2 sec.sv.length c2,.slice a3 sec.ha.length c3]) lkA rfl ?_;refine gg ?_;refine qF ?_;rw [zX (ps := [(0,sT [116]),(1,sT n),(2,.agg ([.slice a0 1 c0,.int .i64 1,.slice a1 sec.st.length c1,.slice a2 sec.sv.length c2,.slice a3 sec.ha.length c3] : LV).toArray),(3,.int .u64 (last + 1))]) (cs := (⟨n,.slice a0 1 c0,.int .i64 1,.slice a1 sec.st.length c1,.slice a2 sec.sv.length c2,.slice a3 sec.ha.length c3,last + 1,false⟩ : CD).v.toArray) rfl];refine gg ?_;refine dA (hins) ?_;rintro v A ⟨la',lc',CL',hL',rfl⟩;refine pC ?_;refine ze [rsB s ta 1 tc la' (ds ++ [(⟨n,.slice a0 1 c0,.int .i64 1,.slice a1 sec.st.length c1,.slice a2 sec.sv.length c2,.slice a3 sec.ha.length c3,last + 1,false⟩ : CD)]).length lc' (last + 1) reads,T,CL',W] ?_;exact ⟨la',lc',CL',(⟨n,.slice a0 1 c0,.int .i64 1,.slice a1 sec.st.length c1,.slice a2 sec.sv.length c2,.slice a3 sec.ha.length c3,last + 1,false⟩ : CD),rfl,rfl,rfl,rfl,rfl,hcok,hL',rfl⟩
open Go.Tab
structure PU where
 n : L8
 sec : Sec
 gen : Int
 rev : Bool
structure CU where
 u : PU
 p : Nat
 vs : LV
 W : zd
def CU.C (c : CU) : zd := crB c.p c.u.n c.vs c.u.gen c.u.rev ++ c.W
def mU (cs : List CU) : List (L8 × Value) := cs.map fun c => (c.u.n,.pointer (some ⟨c.p,0,none⟩))
theorem VO {n : L8} : ∀ cs : List CU,(∀ c ∈ cs,c.u.n ≠ n) -> mget (mU cs) n = none
 | [],_ => rfl
 | c :: l,h => by
  simp only [mU,iB,mget];rw [if_neg (fun e => h c (aA ..) e.symm)];exact VO l fun d hd => h d (aK _ hd)
def IsSt (K : zd) (s : Nat) (us : List PU) (last reads : Int) : Prop := ∃ (r1 r2 : Nat) (M1 M2 : zd) (cs : List CU),cs.map CU.u = us /\ jg M1 r1 (tenM r2) /\ jg M2 r2 (mU cs) /\ (∀ c ∈ cs,SecW c.W c.vs c.u.sec) /\ K = stB s r1 last reads ++ (M1 ++ (M2 ++ cs.flatMap CU.C))
theorem gL {K G W : zd} {s : Nat} {us : List PU} {last reads : Int} (hn : GNam G) (hK : IsSt K s us last reads) (hul : us.length < 32) (hl0 : 0 <= last) (hl1 : last < 1000) (u n : L8) (hu : u.length <= 1000) (hun : xg u 32 = (n,0)) (hno : ∀ x ∈ us,x.n ≠ n) {vs : LV} {sec : Sec} (hW : SecW W vs sec) :
  zh prog 32 [pT s,sT [116],sT u,.agg vs.toArray] [K,G,W]
  fun v A => ∃ K',v = .int .i64 0 /\ IsSt K' s (us ++ [⟨n,sec,last + 1,false⟩]) (last + 1) reads /\ A = [K',G,W] := by
 obtain ⟨r1,r2,M1,M2,cs,rfl,h1,h2,hs,rfl⟩ := hK;have hm : mget (mU cs) n = none := VO cs fun c hc => hno c.u (mH hc)
 have hml : (mU cs).length < 32 := by rw [mU,iA];rwa [iA] at hul
 refine zh.conv [stB s r1 last reads,M1,M2,cs.flatMap CU.C,G,W] (add_spec hn h1 h2 hml hl0 hl1 u n hu hun hm hW) flA tkA ?_;rintro v A ⟨p,M2',W',vs',rfl,hM,hW',rfl⟩;refine ⟨[stB s r1 (last + 1) reads ++ (M1 ++ (M2' ++ (cs.flatMap CU.C ++ (crB p n vs' (last + 1) false ++ W')))),G,W],[stB s r1 (last + 1) reads,M1,M2',cs.flatMap CU.C,crB p n vs' (last + 1) false,W',G,W],flA,amA,_,rfl,⟨r1,r2,M1,M2',cs ++ [⟨⟨n,sec,last + 1,false⟩,p,vs',W'⟩],sM,h1,?_,?_,?_⟩,rfl⟩
 ·rw [XN _ _ _ hm] at hM
  simpa [mU] using hM
 ·intro c hc
  rcases List.mem_append.1 hc with hc | hc
  ·exact hs c hc
  ·obtain rfl := List.mem_singleton.1 hc;exact hW'
 ·simp [lI,CU.C]
structure RD where
 u : PU
 v0 : Value
 v1 : Value
 v2 : Value
 v3 : Value
 v4 : Value
def RD.cd (d : RD) : CD := ⟨d.u.n,d.v0,d.v1,d.v2,d.v3,d.v4,d.u.gen,d.u.rev⟩
def IsRs (K : zd) (s : Nat) (us : List PU) (last reads : Int) : Prop := ∃ (ta la : OA) (tc lc : Nat) (T CL V : zd) (ds : List RD),ds.map RD.u = us /\ cS T ta tc /\ OwnC CL la lc (ds.map RD.cd) /\ (∀ d ∈ ds,d.cd.ok) /\ (∀ d ∈ ds,SecW V d.cd.vs d.u.sec) /\ K = rsB s ta 1 tc la (ds.map RD.cd).length lc last reads ++ (T ++ (CL ++ V))
theorem secw_l {A B : zd} {vs : LV} {s : Sec} (h : SecW A vs s) : SecW (A ++ B) vs s := by
 obtain ⟨a0,a1,a2,a3,c0,c1,c2,c3,e,l0,l1,l2,l3,r0,r1,r2,r3⟩ := h;exact ⟨a0,a1,a2,a3,c0,c1,c2,c3,e,l0,l1,l2,l3,rd_l r0,rd_l r1,rd_l r2,rd_l r3⟩
theorem secw_r {A B : zd} {vs : LV} {s : Sec} (h : SecW B vs s) : SecW (A ++ B) vs s := by
 obtain ⟨a0,a1,a2,a3,c0,c1,c2,c3,e,l0,l1,l2,l3,r0,r1,r2,r3⟩ := h;exact ⟨a0,a1,a2,a3,c0,c1,c2,c3,e,l0,l1,l2,l3,rd_r r0,rd_r r1,rd_r r2,rd_r r3⟩
theorem is_rs0 {s : Nat} {T : zd} {a : OA} {c : Nat} {last reads : Int} (hT : cS T a c) : IsRs (rsB s a 1 c none 0 0 last reads ++ T) s [] last reads :=
 ⟨a,none,c,0,T,[],[],[],rfl,hT,zJ,(fun _ h => nomatch h),(fun _ h => nomatch h),sM⟩
theorem cN {K W : zd} {s : Nat} {us : List PU} {last reads : Int} (hK : IsRs K s us last reads) (hul : us.length <= 20) (hl0 : 0 <= last) (hl1 : last < 1000) (u n : L8) (hu : u.length <= 1000) (hun : xg u 32 = (n,0)) (hno : ∀ x ∈ us,x.n ≠ n) (hlt : ∀ x ∈ us,Op.bytesLess x.n n = true) {vs : LV} {sec : Sec} (hW : SecW W vs sec) :
  zh prog 33 [pT s,sT [116],sT u,.agg vs.toArray] [K,W]
  fun v A => ∃ K',v = .int .i64 0 /\ IsRs K' s (us ++ [⟨n,sec,last + 1,false⟩]) (last + 1) reads /\ A = [K'] := by
 obtain ⟨ta,la,tc,lc,T,CL,V,ds,rfl,hT,hL,hok,hs,rfl⟩ := hK;rw [iA] at hul;have hh := eE (s := s) (reads := reads) hT (by rw [iA];exact hul) (by intro d hd;obtain ⟨x,hx,rfl⟩ := List.mem_map.1 hd;exact hok x hx) hL hl0 hl1 u n hu hun (by intro d hd;obtain ⟨x,hx,rfl⟩ := List.mem_map.1 hd;exact hno x.u (mH hx)) (by intro d hd;obtain ⟨x,hx,rfl⟩ := List.mem_map.1 hd;exact hlt x.u (mH hx)) hW;refine zh.conv [rsB s ta 1 tc la (ds.map RD.cd).length lc last reads,T,CL,V,W] (hh) flA tkA ?_;rintro v A ⟨la',lc',CL',⟨cn,v0,v1,v2,v3,v4,cg,cr⟩,rfl,hc1,hc2,hc3,hc4,hcok,hL',rfl⟩;simp only at hc1 hc2 hc3 hc4;subst hc1 hc2 hc3 hc4;refine ⟨[rsB s ta 1 tc la' (ds.map RD.cd ++ [(⟨cn,v0,v1,v2,v3,v4,last + 1,false⟩ : CD)]).length lc' (last + 1) reads ++ (T ++ (CL' ++ (V ++ W)))],[rsB s ta 1 tc la' (ds.map RD.cd ++ [(⟨cn,v0,v1,v2,v3,v4,last + 1,false⟩ : CD)]).length lc' (last + 1) reads,T,CL',V,W],flA,amA,_,rfl,⟨ta,la',tc,lc',T,CL',V ++ W,ds ++ [⟨⟨cn,sec,last + 1,false⟩,v0,v1,v2,v3,v4⟩],sM,hT,?_,?_,?_,?_⟩,rfl⟩
 ·simpa [RD.cd] using hL'
 ·intro c hc
  rcases List.mem_append.1 hc with hc | hc
  ·exact hok c hc
  ·obtain rfl := List.mem_singleton.1 hc;exact hcok
 ·intro c hc
  rcases List.mem_append.1 hc with hc | hc
  ·exact secw_l (hs c hc)
  ·obtain rfl := List.mem_singleton.1 hc;exact secw_r hW
 ·simp [RD.cd]
end Go.Proofs.YtebikhhoppiapaaGreatDoor
namespace Go.Proofs.YtebikhhoppiapaaGreatDoor
open Go Go.Ost Go.Sha Go.Nam Tryz
section
variable {P : Program}
theorem IZ {b o : Nat} {e t : TypeId} {z : Value} {s by_ : Nat} {cs cs' : Array Value} {ws : LV} (p u r : LV) {S S' : zb} {κ : zb -> Prop} [hs : zm P t z s by_] (hz : ws.length = s) (hu0 : u.length = s) (hc : ∀ v ∈ ws,Value.cell1 v) (ho : p.length = o)
  (h1 : cs = (p ++ (u ++ r)).toArray) (h2 : cs' = (p ++ (ws ++ r)).toArray) (hu : Upd b (.cells cs e (0,0)) (.cells cs' e (0,0)) S S') (k : κ S') : jI P (Instr.storeAt t (.pointer (some ⟨b,o,none⟩)) (.agg ws.toArray)) S κ := by
 subst ho h1 h2;have e2 : ws.toArray.toList = ws := sM;refine Zm (e := e) (cs := (p ++ (u ++ r)).toArray) (by simpa using hz) (by simpa using hc) ?_ (by simp;omega) k;rw [e2,vK ws p u r oM];exact hu
end
theorem bq : zh prog 210 [nS] [] fun v A => v = nS /\ A = [] := by
 refine eNg func210 ntmps210 results210 fun F => ?_
 refine ze [] ?_;exact ⟨rfl,rfl⟩
theorem cM {W : zd} {vs : LV} {s : Sec} (n : L8) (gen : Int) (rev : Bool) (hW : SecW W vs s) : zh prog 161 [.agg (kT n vs gen rev).toArray] [W]
  fun v A => ∃ (W' : zd) (vs' : LV),v = .agg (kT n vs' gen rev).toArray /\ SecW W' vs' s /\ A = [W',W] := by
 have hsc := Qx hW;obtain ⟨a0,a1,a2,a3,c0,c1,c2,c3,rfl,_⟩ := hW;simp only [kT,aC,aD];refine eNg func161 ntmps161 results161 fun F => ?_
 refine oBg fun b1 => ?_
 refine oAg zCr.toArray fun b2 => ?_
 refine cdLg [[0],[1],[3],[4],[2,0,4],[6],[5,0],[7,0],[8],[9,0]] ?_;refine qF ?_;refine XP (vs := [sT [116],sT n,.slice a0 1 c0,.int .i64 1,.slice a1 s.st.length c1,.slice a2 s.sv.length c2,.slice a3 s.ha.length c3,.int .u64 gen,nS,.bool rev]) (o := 2) (ws := [.slice a0 1 c0,.int .i64 1,.slice a1 s.st.length c1,.slice a2 s.sv.length c2,.slice a3 s.ha.length c3]) lkA (by show 2 + 5 <= 10;decide) rfl ?_;refine gg ?_;refine dA (hsc) ?_;rintro v A ⟨W',vs',rfl,hW',rfl⟩;refine pC ?_;refine dR (bq) ?_;obtain ⟨hvl,hvc⟩ := qB hW';have hW2 := hW';obtain ⟨e0,e1,e2,e3,f0,f1,f2,f3,rfl,_⟩ := hW2;refine zG ?_;refine IZ [sT [116],sT n] [.slice a0 1 c0,.int .i64 1,.slice a1 s.st.length c1,.slice a2 s.sv.length c2,.slice a3 s.ha.length c3] [.int .u64 gen,nS,.bool rev] (cs := ([sT [116],sT n,.slice a0 1 c0,.int .i64 1,.slice a1 s.st.length c1,.slice a2 s.sv.length c2,.slice a3 s.ha.length c3,.int .u64 gen,nS,.bool rev] : LV).toArray) (cs' := ([sT [116],sT n,.slice e0 1 f0,.int .i64 1,.slice e1 s.st.length f1,.slice e2 s.sv.length f2,.slice e3 s.ha.length f3,.int .u64 gen,nS,.bool rev] : LV).toArray) rfl rfl hvc rfl rfl rfl upA ?_;refine gg ?_
 (try (refine zG ?_;(first | refine xJ trivial upA ?_ | refine xq trivial upA sM ?_);refine pD ?_;refine gg ?_))
 refine gM ?_
 have hc1 : ∀ u ∈ ([sT [116],sT n,.slice e0 1 f0,.int .i64 1,.slice e1 s.st.length f1,.slice e2 s.sv.length f2,.slice e3 s.ha.length f3,.int .u64 gen,nS,.bool rev] : LV),Value.cell1 u := by
  intro u hu;simp only [aY,aT,or_false] at hu
  rcases hu with rfl | rfl | rfl | rfl | rfl | rfl | rfl | rfl | rfl | rfl <;> simp [Value.cell1]
 refine oL [sT [116],sT n,.slice e0 1 f0,.int .i64 1,.slice e1 s.st.length f1,.slice e2 s.sv.length f2,.slice e3 s.ha.length f3,.int .u64 gen,nS,.bool rev] rfl ?_;refine oSg [sT [116],sT n,.slice e0 1 f0,.int .i64 1,.slice e1 s.st.length f1,.slice e2 s.sv.length f2,.slice e3 s.ha.length f3,.int .u64 gen,nS,.bool rev] rfl hc1 ?_;refine zf (vs := [.agg ([sT [116],sT n,.slice e0 1 f0,.int .i64 1,.slice e1 s.st.length f1,.slice e2 s.sv.length f2,.slice e3 s.ha.length f3,.int .u64 gen,nS,.bool rev] : LV).toArray]) [W',W] ?_ (hr := hrA);exact ⟨W',_,rfl,hW',rfl⟩
theorem QX {s r1 r2 p : Nat} {last reads gen : Int} {M1 M2 G B : zd} {m : List (L8 × Value)} (hn : GNam G) (h1 : jg M1 r1 (tenM r2)) (h2 : jg M2 r2 m) (hr0 : 0 <= reads) (hr1 : reads < 1000000) (u n : L8) (hu : u.length <= 100000) (hun : xg u 32 = (n,0)) (hm : mget m n = some (pT p)) (k : L8) {vs : LV} {rev : Bool} {sec : Sec} (hW : SecW B vs sec) :
  zh prog 116 [pT s,sT [116],sT u] [stB s r1 last reads,M1,M2,G,crB p k vs gen rev,B]
  fun v A => ∃ B' vs',v = .tuple #[.agg (kT k vs' gen rev).toArray,.bool true] /\ SecW B' vs' sec /\ A = [stB s r1 last (reads + 1),M1,M2,G,crB p k vs gen rev,B',B] := by
 have hg := ZK (s := s) (last := last) (reads := reads + 1) hn h1 h2 u hu;rw [hun,if_pos rfl,hm,iR] at hg;have hcc := cM k gen rev hW;obtain ⟨a0,a1,a2,a3,c0,c1,c2,c3,rfl,_⟩ := hW;simp only [kT,crB,aC,aD] at hcc ⊢;refine eNg func116 ntmps116 results116 fun F => ?_
 refine oAg zCr.toArray fun b6 => ?_
 refine cR (hg) ?_;refine oLg [sT [116],sT k,.slice a0 1 c0,.int .i64 1,.slice a1 sec.st.length c1,.slice a2 sec.sv.length c2,.slice a3 sec.ha.length c3,.int .u64 gen,nS,.bool rev] rfl ?_;refine cA (hcc) ?_;rintro v A ⟨B',vs',rfl,hB',rfl⟩;refine gA ?_;obtain ⟨hvl,hvc⟩ := qB hB';have hW2 := hB';obtain ⟨e0,e1,e2,e3,f0,f1,f2,f3,rfl,_⟩ := hW2
 have hc1 : ∀ u ∈ ([sT [116],sT k,.slice e0 1 f0,.int .i64 1,.slice e1 sec.st.length f1,.slice e2 sec.sv.length f2,.slice e3 sec.ha.length f3,.int .u64 gen,nS,.bool rev] : LV),Value.cell1 u := by
  intro u hu;simp only [aY,aT,or_false] at hu
  rcases hu with rfl | rfl | rfl | rfl | rfl | rfl | rfl | rfl | rfl | rfl <;> simp [Value.cell1]
 refine oSg [sT [116],sT k,.slice e0 1 f0,.int .i64 1,.slice e1 sec.st.length f1,.slice e2 sec.sv.length f2,.slice e3 sec.ha.length f3,.int .u64 gen,nS,.bool rev] rfl hc1 ?_;refine zf (vs := [.agg ([sT [116],sT k,.slice e0 1 f0,.int .i64 1,.slice e1 sec.st.length f1,.slice e2 sec.sv.length f2,.slice e3 sec.ha.length f3,.int .u64 gen,nS,.bool rev] : LV).toArray,.bool true]) [stB s r1 last (reads + 1),M1,M2,G,[(p,.cells ([sT [116],sT k,.slice a0 1 c0,.int .i64 1,.slice a1 sec.st.length c1,.slice a2 sec.sv.length c2,.slice a3 sec.ha.length c3,.int .u64 gen,nS,.bool rev] : LV).toArray 48 (0,0))],B',B] ?_ (hr := hrA);exact ⟨B',_,rfl,hB',rfl⟩
theorem bI {qk bx_ s q r1 r2 p : Nat} {iter ch last reads gen : Int} {M1 M2 G B : zd} {m : List (L8 × Value)} (hn : GNam G) (h1 : jg M1 r1 (tenM r2)) (h2 : jg M2 r2 m) (hr0 : 0 <= reads) (hr1 : reads < 1000000) (u n : L8) (hu : u.length <= 100000) (hun : xg u 32 = (n,0)) (hst : xg n 32 = (n,0)) (hnl : n.length <= 32) (hm : mget m n = some (pT p)) {vs : LV} {sec : Sec} (hW : SecW B vs sec) :
  zh prog 42 [pT qk,sT u] [[(qk,.cells #[pT bx_,pT s,pT q,.int .i64 iter,sT [116],.int .u64 ch] 117 (0,0))],stB s r1 last reads,M1,M2,G,crB p n vs gen false,B]
  fun v A => ∃ B' vs',v = .tuple #[.agg (kT n vs' gen false).toArray,.bool true] /\ SecW B' vs' sec /\ A = [[(qk,.cells #[pT bx_,pT s,pT q,.int .i64 iter,sT [116],.int .u64 ch] 117 (0,0))],stB s r1 last (reads + 1),M1,M2,G,crB p n vs gen false,B',B] := by
 have hnm := wj hn u hu;rw [hun] at hnm;have hcf := QX (s := s) (last := last) (gen := gen) hn h1 h2 hr0 hr1 n n oM hst hm n (rev := false) hW;refine eNg func42 ntmps42 results42 fun F => ?_
 refine oAg zCr.toArray fun b4 => ?_
 refine cR (hnm) ?_;refine yJ 10 14 [[],[0],[0,1],[0,1,2],[0,1,2,3],[],[5],[5,6],[5,6,7],[],[0,1,2,3,4,5,6,7,8,9],[0,1,2,3,4,5,6,7,8,9,10],[0,1,2,3,4,5,6,7,8,9,10,11],[0,1,2,3,4,5,6,7,8,9,10,11],[0,1,2,3,4,5,6,7,8,9,10],[0,1,2,3,4,5,6,7,8,9,10,11,12,14],[0,1,2,3,4,5,6,7,8,9,10,11,12,13,14,15]] [(0,false,[]),(1,false,[]),(2,false,[]),(3,false,[]),(4,false,[]),(5,false,[]),(6,false,[]),(7,false,[]),(8,false,[]),(9,false,[]),(10,true,[]),(11,false,[]),(12,false,[]),(13,false,[]),(14,true,[]),(15,true,[]),(16,true,[])] [[],[0],[0,1],[0,1,2],[0,1,2,3],[],[5],[5,6],[5,6,7],[],[0,1,2,3,4,5,6,7,8,9,14],[0,1,2,3,4,5,6,7,8,9,10,14],[0,1,2,3,4,5,6,7,8,9,10,11,14],[0,1,2,3,4,5,6,7,8,9,10,11,14],[],[0,1,2,3,4,5,6,7,8,9,10,11,12,14],[0,1,2,3,4,5,6,7,8,9,10,11,12,13,14,15]] [(0,false,[]),(1,false,[]),(2,false,[]),(3,false,[]),(4,false,[]),(5,false,[]),(6,false,[]),(7,false,[]),(8,false,[]),(9,false,[]),(14,true,[4,8]),(10,true,[]),(11,false,[]),(12,false,[]),(13,false,[]),(15,true,[]),(16,true,[])] ?_ ?_
 ·refine gg ?_;refine dA (hcf) ?_;rintro v A ⟨B',vs',rfl,hB',rfl⟩;refine pC ?_;refine zG ?_;refine qE zCr.toArray rfl fun b8 => ?_;refine pC ?_
  obtain ⟨hvl,hvc⟩ := qB hB';have hW2 := hB';obtain ⟨e0,e1,e2,e3,f0,f1,f2,f3,rfl,_⟩ := hW2
  have hc1 : ∀ u ∈ ([sT [116],sT n,.slice e0 1 f0,.int .i64 1,.slice e1 sec.st.length f1,.slice e2 sec.sv.length f2,.slice e3 sec.ha.length f3,.int .u64 gen,nS,.bool false] : LV),Value.cell1 u := by
   intro u hu;simp only [aY,aT,or_false] at hu
   rcases hu with rfl | rfl | rfl | rfl | rfl | rfl | rfl | rfl | rfl | rfl <;> simp [Value.cell1]
  refine zG ?_;refine xo (vs := [sT [116],sT n,.slice e0 1 f0,.int .i64 1,.slice e1 sec.st.length f1,.slice e2 sec.sv.length f2,.slice e3 sec.ha.length f3,.int .u64 gen,nS,.bool false]) rfl hc1 upA (by rfl) ?_;refine gg ?_
  (try (try refine dS ?_))
  (try refine gg ?_)
  refine gM ?_;refine oL [sT [116],sT n,.slice e0 1 f0,.int .i64 1,.slice e1 sec.st.length f1,.slice e2 sec.sv.length f2,.slice e3 sec.ha.length f3,.int .u64 gen,nS,.bool false] rfl ?_;refine oSg [sT [116],sT n,.slice e0 1 f0,.int .i64 1,.slice e1 sec.st.length f1,.slice e2 sec.sv.length f2,.slice e3 sec.ha.length f3,.int .u64 gen,nS,.bool false] rfl hc1 ?_;refine zf (vs := [.agg ([sT [116],sT n,.slice e0 1 f0,.int .i64 1,.slice e1 sec.st.length f1,.slice e2 sec.sv.length f2,.slice e3 sec.ha.length f3,.int .u64 gen,nS,.bool false] : LV).toArray,.bool true]) [[(qk,.cells #[pT bx_,pT s,pT q,.int .i64 iter,sT [116],.int .u64 ch] 117 (0,0))],stB s r1 last (reads + 1),M1,M2,G,crB p n vs gen false,B',B] ?_ (hr := hrA);exact ⟨B',_,rfl,hB',rfl⟩
 ·refine gg ?_;refine zG ?_;refine qE zCr.toArray rfl fun b8 => ?_;refine pC ?_
  refine dA (hcf) ?_;rintro v A ⟨B',vs',rfl,hB',rfl⟩;refine pC ?_;obtain ⟨hvl,hvc⟩ := qB hB';have hW2 := hB';obtain ⟨e0,e1,e2,e3,f0,f1,f2,f3,rfl,_⟩ := hW2
  have hc1 : ∀ u ∈ ([sT [116],sT n,.slice e0 1 f0,.int .i64 1,.slice e1 sec.st.length f1,.slice e2 sec.sv.length f2,.slice e3 sec.ha.length f3,.int .u64 gen,nS,.bool false] : LV),Value.cell1 u := by
   intro u hu;simp only [aY,aT,or_false] at hu
   rcases hu with rfl | rfl | rfl | rfl | rfl | rfl | rfl | rfl | rfl | rfl <;> simp [Value.cell1]
  refine zG ?_;refine xo (vs := [sT [116],sT n,.slice e0 1 f0,.int .i64 1,.slice e1 sec.st.length f1,.slice e2 sec.sv.length f2,.slice e3 sec.ha.length f3,.int .u64 gen,nS,.bool false]) rfl hc1 upA (by rfl) ?_;refine gg ?_
  (try (try refine dS ?_))
  (try refine gg ?_)
  refine gM ?_;refine oL [sT [116],sT n,.slice e0 1 f0,.int .i64 1,.slice e1 sec.st.length f1,.slice e2 sec.sv.length f2,.slice e3 sec.ha.length f3,.int .u64 gen,nS,.bool false] rfl ?_;refine oSg [sT [116],sT n,.slice e0 1 f0,.int .i64 1,.slice e1 sec.st.length f1,.slice e2 sec.sv.length f2,.slice e3 sec.ha.length f3,.int .u64 gen,nS,.bool false] rfl hc1 ?_;refine zf (vs := [.agg ([sT [116],sT n,.slice e0 1 f0,.int .i64 1,.slice e1 sec.st.length f1,.slice e2 sec.sv.length f2,.slice e3 sec.ha.length f3,.int .u64 gen,nS,.bool false] : LV).toArray,.bool true]) [[(qk,.cells #[pT bx_,pT s,pT q,.int .i64 iter,sT [116],.int .u64 ch] 117 (0,0))],stB s r1 last (reads + 1),M1,M2,G,crB p n vs gen false,B',B] ?_ (hr := hrA);exact ⟨B',_,rfl,hB',rfl⟩
end Go.Proofs.YtebikhhoppiapaaGreatDoor
namespace Go.Proofs.YtebikhhoppiapaaGreatDoor
open Go Go.Ost Go.Shelf Go.RowKit Tryz
def renS : Ren := ⟨fun x => if x = 156 then 153 else if x = 165 then 204 else if x = 166 then 146 else if x = 169 then 150 else if x = 240 then 201 else if x = 241 then 238 else if x = 276 then 237 else if x = 277 then 183 else x,fun x => if x = 31 then 46 else if x = 37 then 43 else if x = 70 then 270 else if x = 72 then 272 else if x = 75 then 274 else if x = 76 then 275 else if x = 80 then 277 else if x = 127 then 330 else if x = 164 then 358 else x,fun x => x⟩
instance iOJ_1 : zm prog 0 (.tuple #[]) 1 0 := ⟨kM⟩
instance iOJ_2 : xM prog 0 := ⟨kM⟩
instance iOJ_3 : zm prog 20 .nilIface 1 16 := ⟨kM⟩
instance iOJ_4 : xM prog 20 := ⟨kM⟩
instance iOJ_5 : zm prog 274 .nilIface 1 16 := ⟨kM⟩
instance iOJ_6 : xM prog 274 := ⟨kM⟩
instance iOJ_7 : zm prog 275 (.tuple #[.int .i64 0,.nilIface]) 1 0 := ⟨kM⟩
instance iOJ_8 : xM prog 275 := ⟨kM⟩
theorem laysS : Lays.n156 prog renS where
 mixed := kM
 f156 := kM
 f165 := kM
 f166 := kM
 f169 := kM
 f240 := kM
 f241 := kM
 f276 := kM
 f277 := kM
 t0 := kM
 a0 := zD (t := 0) inferInstance
 z0 := zE (t := 0) inferInstance
 v0 := xe (t := 0) inferInstance
 t3 := kM
 a3 := zD (t := 3) inferInstance
 z3 := zE (t := 3) inferInstance
 v3 := xe (t := 3) inferInstance
 t4 := kM
 a4 := zD (t := 4) inferInstance
 z4 := zE (t := 4) inferInstance
 v4 := xe (t := 4) inferInstance
 t9 := kM
 a9 := zD (t := 9) inferInstance
 z9 := zE (t := 9) inferInstance
 v9 := xe (t := 9) inferInstance
 t20 := kM
 a20 := zD (t := 20) inferInstance
 z20 := zE (t := 20) inferInstance
 v20 := xe (t := 20) inferInstance
 t31 := kM
 a31 := zD (t := 46) inferInstance
 z31 := zE (t := 46) inferInstance
 v31 := xe (t := 46) inferInstance
 t37 := kM
 a37 := zD (t := 43) inferInstance
 z37 := zE (t := 43) inferInstance
 v37 := xe (t := 43) inferInstance
 t70 := kM
 a70 := zD (t := 270) inferInstance
 z70 := zE (t := 270) inferInstance
 v70 := xe (t := 270) inferInstance
 t72 := kM
 a72 := kW (t := 272) inferInstance
 z72 := zE (t := 272) inferInstance
 v72 := xe (t := 272) inferInstance
 t75 := kM
 a75 := zD (t := 274) inferInstance
 z75 := zE (t := 274) inferInstance
 v75 := xe (t := 274) inferInstance
 t76 := kM
 a76 := zD (t := 275) inferInstance
 z76 := zE (t := 275) inferInstance
 v76 := xe (t := 275) inferInstance
 t127 := kM
 a127 := zD (t := 330) inferInstance
 z127 := zE (t := 330) inferInstance
 v127 := xe (t := 330) inferInstance
 t164 := kM
 a164 := zD (t := 358) inferInstance
 z164 := zE (t := 358) inferInstance
 v164 := xe (t := 358) inferInstance
theorem extraS : Builder.Extra prog renS where
 sizeBuilder := kM
 liesBuilder := kM
 t5 := kM
 a5 := zD (t := 5) inferInstance
 z5 := zE (t := 5) inferInstance
 v5 := xe (t := 5) inferInstance
 infoByte := kM
 cellsByte := kM
 sizeByte := kM
 neB5 := dM
theorem bj (A : zb) (a : OA) (c : Nat) (ls : List L8) (sep : L8) (h : Rd 1 A a ls.length (ls.map fun l => sT l)) (hne : ls ≠ []) (hnc : ls.length <= c) (hn : ls.length <= 1000000) (hlen : (sep.intercalate ls).length <= 1000000000) :
  zh prog 153 [.slice a ls.length c,sT sep] A fun v A' => v = sT (sep.intercalate ls) /\ A' = [] :: A := by
 refine vF rfl rfl kM fun w hw => ?_
 obtain ⟨l0,r,rfl⟩ := List.exists_cons_of_ne_nil hne;obtain ⟨b,o,rfl,h0⟩ := yX h hw (i := 0) (v := sT l0) rfl
 have hx : ((l0 :: r).map str).map (fun s => s.data.toList) = l0 :: r := by
  rw [List.map_map];exact List.map_id _
 have hl : ((l0 :: r).map str).length = (l0 :: r).length := iA ..
 have key := Any.strings_Join laysS extraS b o c ((l0 :: r).map str) (str sep) w (fun j x hj => by
   rw [lF,Option.map_eq_some_iff] at hj;obtain ⟨l,hl,rfl⟩ := hj;obtain ⟨b',o',e',hc'⟩ := yX h hw (i := j) (v := sT l) (by rw [lF,hl];rfl)
   cases e'
   exact hc') (by
   obtain ⟨b',o',cs,e,m,e1,e2⟩ := QY h0
   cases e1
   exact (Array.getElem?_eq_some_iff.1 e2).1) (by rw [hl];omega) (by rw [hl];exact hnc) (by rw [hx];show (sep.intercalate (l0 :: r)).length <= _;omega)
 rw [hl,hx] at key;refine key.mono ?_;rintro e w' ⟨rfl,hb⟩;exact ⟨_,rfl,hb,[],fun k o hm => (by cases hm),sM,rfl,rfl⟩
def renI : Ren := ⟨fun x => if x = 137 then 160 else if x = 217 then 209 else if x = 266 then 240 else x,fun x => x,fun x => x⟩
theorem laysI : Lays.n137 prog renI where
 mixed := kM
 f137 := kM
 f217 := kM
 f266 := kM
 t3 := kM
 a3 := zD (t := 3) inferInstance
 z3 := zE (t := 3) inferInstance
 v3 := xe (t := 3) inferInstance
 t5 := kM
 a5 := zD (t := 5) inferInstance
 z5 := zE (t := 5) inferInstance
 v5 := xe (t := 5) inferInstance
 t9 := kM
 a9 := zD (t := 9) inferInstance
 z9 := zE (t := 9) inferInstance
 v9 := xe (t := 9) inferInstance
def vV : L8 := [33,35,36,37,38,39,42,43,45,46,94,95,124,126,96]
theorem cj (c : UInt8) : zh prog 160 [sT vV,b8 c] [] fun v A => v = .int .i64 (Lib.indexByte vV c) /\ A = [] := by
 have h : zh prog 160 [sT vV,b8 c] [] fun v A => v = .int .i64 (Lib.indexByte vV c) /\ A = [[]] := by
  refine vF rfl rfl kM fun w hw => ?_
  refine (Any.strings_IndexByte laysI ⟨vV.toArray⟩ c.toNat w).mono ?_;rintro e w' ⟨rfl,rfl⟩;refine ⟨_,rfl,Below.refl _ _,[],fun k o hm => (by cases hm),sM,?_,rfl⟩;rw [show ((c.toNat : Int).toNat.toUInt8) = c from sM]
 refine zh.conv [] h rfl (.nil _) ?_;rintro v A ⟨rfl,rfl⟩;exact ⟨[],[[]],rfl,zn.refl _,rfl,rfl⟩
def tcB (c : UInt8) : Bool := decide (97 <= c.toNat /\ c.toNat <= 122) || (decide (65 <= c.toNat /\ c.toNat <= 90) || (decide (48 <= c.toNat /\ c.toNat <= 57) || vV.contains c))
theorem index_ge (c : UInt8) : ∀ l : L8,0 <= Lib.indexByte l c ↔ c ∈ l
 | [] => by simp [Lib.indexByte]
 | b :: l => by
  have ih := index_ge c l;have hg := Lib.indexByte_ge l c
  by_cases hb : b = c
  ·subst hb;simp [Lib.indexByte]
  ·have h1 : (b == c) = false := beq_eq_false_iff_ne.2 hb
   have e : Lib.indexByte (b :: l) c = if (Lib.indexByte l c == -1) = true then -1 else Lib.indexByte l c + 1 := by
    show (if (b == c) = true then (0 : Int) else _) = _
    rw [h1];rfl
   rw [e,aY,<- ih]
   by_cases h3 : Lib.indexByte l c = -1
   ·rw [if_pos (by rw [h3];rfl)]
    constructor
    ·intro h;omega
    ·rintro (h | h)
     ·exact (hb h.symm).elim
     ·omega
   ·rw [if_neg (by simp [h3])]
    constructor
    ·intro _;exact .inr oM
    ·intro _;omega
theorem ibyte_ge (c : UInt8) : decide (0 <= Lib.indexByte vV c) = vV.contains c := by
 rw [Bool.eq_iff_iff,decide_eq_true_eq,index_ge,List.contains_iff_mem]
theorem Qu (c : UInt8) : zh prog 202 [b8 c] [] fun v A => v = .bool (tcB c) /\ A = [] := by
 have hlt := c.toNat_lt;have hi := cj c;have hge := ibyte_ge c;have key : tcB c = (decide (97 <= c.toNat /\ c.toNat <= 122) || (decide (65 <= c.toNat /\ c.toNat <= 90) || (decide (48 <= c.toNat /\ c.toNat <= 57) || vV.contains c))) := rfl;rw [key,<- hge];rw [show b8 c = .int .u8 (c.toNat : Int) from rfl] at hi ⊢;obtain ⟨n,hn⟩ : ∃ n : Int,(c.toNat : Int) = n := ⟨_,rfl⟩
 rw [show decide (97 <= c.toNat /\ c.toNat <= 122) = decide (97 <= n /\ n <= 122) from by rw [decide_eq_decide];omega,
  show decide (65 <= c.toNat /\ c.toNat <= 90) = decide (65 <= n /\ n <= 90) from by rw [decide_eq_decide];omega,
  show decide (48 <= c.toNat /\ c.toNat <= 57) = decide (48 <= n /\ n <= 57) from by rw [decide_eq_decide];omega]
 rw [hn] at hi ⊢;refine eNg func202 ntmps202 results202 fun F => ?_
 have sgs : Value.string ⟨#[33,35,36,37,38,39,42,43,45,46,94,95,124,126,96]⟩ = sT vV := rfl
 by_cases b1 : 97 <= n
 ·rw [dT b1];refine gg ?_
  by_cases d1 : n <= 122
  ·rw [dT d1,dT (show 97 <= n /\ n <= 122 from ⟨b1,d1⟩)];refine gg ?_;refine ze [] ?_;exact ⟨sM,rfl⟩
  ·rw [dF d1,dF (oM : ¬ (97 <= n /\ n <= 122))];refine gg ?_
   by_cases b2 : 65 <= n
   ·rw [dT b2];refine gg ?_
    by_cases d2 : n <= 90
    ·rw [dT d2,dT (show 65 <= n /\ n <= 90 from ⟨b2,d2⟩)];refine gg ?_;refine ze [] ?_;exact ⟨sM,rfl⟩
    ·rw [dF d2,dF (oM : ¬ (65 <= n /\ n <= 90))];refine gg ?_
     by_cases b3 : 48 <= n
     ·rw [dT b3];refine gg ?_
      by_cases d3 : n <= 57
      ·rw [dT d3,dT (show 48 <= n /\ n <= 57 from ⟨b3,d3⟩)];refine gg ?_;refine ze [] ?_;exact ⟨sM,rfl⟩
      ·rw [dF d3,dF (oM : ¬ (48 <= n /\ n <= 57))];refine gg ?_
       (try rw [sgs])
       refine cR (hi) ?_;refine ze [] ?_;exact ⟨sM,rfl⟩
     ·rw [dF b3,dF (oM : ¬ (48 <= n /\ n <= 57))];refine gg ?_
      (try rw [sgs])
      refine cR (hi) ?_;refine ze [] ?_;exact ⟨sM,rfl⟩
   ·rw [dF b2,dF (oM : ¬ (65 <= n /\ n <= 90))];refine gg ?_
    by_cases b3 : 48 <= n
    ·rw [dT b3];refine gg ?_
     by_cases d3 : n <= 57
     ·rw [dT d3,dT (show 48 <= n /\ n <= 57 from ⟨b3,d3⟩)];refine gg ?_;refine ze [] ?_;exact ⟨sM,rfl⟩
     ·rw [dF d3,dF (oM : ¬ (48 <= n /\ n <= 57))];refine gg ?_
      (try rw [sgs])
      refine cR (hi) ?_;refine ze [] ?_;exact ⟨sM,rfl⟩
    ·rw [dF b3,dF (oM : ¬ (48 <= n /\ n <= 57))];refine gg ?_
     (try rw [sgs])
     refine cR (hi) ?_;refine ze [] ?_;exact ⟨sM,rfl⟩
 ·rw [dF b1,dF (oM : ¬ (97 <= n /\ n <= 122))];refine gg ?_
  by_cases b2 : 65 <= n
  ·rw [dT b2];refine gg ?_
   by_cases d2 : n <= 90
   ·rw [dT d2,dT (show 65 <= n /\ n <= 90 from ⟨b2,d2⟩)];refine gg ?_;refine ze [] ?_;exact ⟨sM,rfl⟩
   ·rw [dF d2,dF (oM : ¬ (65 <= n /\ n <= 90))];refine gg ?_
    by_cases b3 : 48 <= n
    ·rw [dT b3];refine gg ?_
     by_cases d3 : n <= 57
     ·rw [dT d3,dT (show 48 <= n /\ n <= 57 from ⟨b3,d3⟩)];refine gg ?_;refine ze [] ?_;exact ⟨sM,rfl⟩
     ·rw [dF d3,dF (oM : ¬ (48 <= n /\ n <= 57))];refine gg ?_
      (try rw [sgs])
      refine cR (hi) ?_;refine ze [] ?_;exact ⟨sM,rfl⟩
    ·rw [dF b3,dF (oM : ¬ (48 <= n /\ n <= 57))];refine gg ?_
     (try rw [sgs])
     refine cR (hi) ?_;refine ze [] ?_;exact ⟨sM,rfl⟩
  ·rw [dF b2,dF (oM : ¬ (65 <= n /\ n <= 90))];refine gg ?_
   by_cases b3 : 48 <= n
   ·rw [dT b3];refine gg ?_
    by_cases d3 : n <= 57
    ·rw [dT d3,dT (show 48 <= n /\ n <= 57 from ⟨b3,d3⟩)];refine gg ?_;refine ze [] ?_;exact ⟨sM,rfl⟩
    ·rw [dF d3,dF (oM : ¬ (48 <= n /\ n <= 57))];refine gg ?_
     (try rw [sgs])
     refine cR (hi) ?_;refine ze [] ?_;exact ⟨sM,rfl⟩
   ·rw [dF b3,dF (oM : ¬ (48 <= n /\ n <= 57))];refine gg ?_
    (try rw [sgs])
    refine cR (hi) ?_;refine ze [] ?_;exact ⟨sM,rfl⟩
end Go.Proofs.YtebikhhoppiapaaGreatDoor
namespace Go.Proofs.YtebikhhoppiapaaGreatDoor
open Go Go.Ost Go.Sha Tryz
def nonB (c : UInt8) : Bool := !(decide ((c.toNat : Int) < 33) || (decide ((126 : Int) < (c.toNat : Int)) || ((c.toNat : Int) == 44)))
def Xp (s : L8) : Bool := s.all nonB && (decide (1 <= s.length) && decide (s.length <= 40))
theorem jF {p : UInt8 -> Bool} (s : L8) (i : Nat) (h : i < s.length) : (s.take (i + 1)).all p = ((s.take i).all p && p (s.getD i 0)) := by
 rw [lG,List.all_append,aS,aE h]
 simp
theorem Xs {p : UInt8 -> Bool} {s : L8} {i : Nat} (h : i < s.length) (hp : p (s.getD i 0) = false) : s.all p = false := by
 rw [List.all_eq_false];refine ⟨s.getD i 0,?_,by rw [hp];simp⟩;rw [aS,aE h];exact lT h
theorem Yp (s : L8) (hs : s.length <= 1000000) : zh prog 137 [sT s] [] fun v A => v = .bool (s.all nonB && (decide (1 <= s.length) && decide (s.length <= 64))) /\ A = [] := by
 refine eNg func137 ntmps137 results137 fun F => ?_
 refine zM (fun q D L S => ∃ i : Nat,i <= s.length /\ (s.take i).all nonB = true /\ q = s.length - i /\ D = [] /\ L = [(6,.int .i64 i),(5,.int .i64 s.length),(0,sT s)] /\ S = [F])
  ⟨0,oM,sM,rfl,rfl,rfl,rfl⟩ ?_
 rintro q D L S ⟨i,hi,hall,rfl,rfl,rfl,rfl⟩;refine gg ?_;refine if_d (fun hc => ?_) (fun hc => ?_)
 ·have hil : i < s.length := oM;have hnx := jF (p := nonB) s i hil;have hct := Xs (p := nonB) hil;have hx := (s.getD i 0).toNat_lt;refine gg ?_
  cases h1 : decide (((s.getD i 0).toNat : Int) < 33) with
  | true =>
   rw [hct (by simp only [nonB,h1];rfl)];refine gg ?_;refine ze [] ?_;exact ⟨rfl,rfl⟩
  | false =>
   refine gg ?_
   cases h2 : decide ((126 : Int) < ((s.getD i 0).toNat : Int)) with
   | true =>
    rw [hct (by simp only [nonB,h1,h2];rfl)];refine gg ?_;refine ze [] ?_;exact ⟨rfl,rfl⟩
   | false =>
    refine gg ?_
    cases h3 : (((s.getD i 0).toNat : Int) == 44) with
    | true =>
     rw [hct (by simp only [nonB,h1,h2,h3];rfl)];refine gg ?_;refine ze [] ?_;exact ⟨rfl,rfl⟩
    | false =>
     refine gg ?_;exact zI ⟨i + 1,oM,by rw [hnx,hall];simp only [nonB,h1,h2,h3];rfl,rfl,rfl,rfl,rfl⟩
 ·obtain rfl : i = s.length := oM;rw [iK] at hall;rw [hall];refine gg ?_
  have e : decide ((s.length : Int) <= 64) = decide (s.length <= 64) := by
   by_cases h : s.length <= 64
   ·rw [dT h,dT oM]
   ·rw [dF h,dF oM]
  by_cases h : s = []
  ·subst h;rw [bne_self_eq_false];refine gg ?_;refine ze [] ?_;exact ⟨rfl,rfl⟩
  ·have hp : 0 < s.length := List.length_pos_iff.2 h;rw [bne_iff_ne.2 h];refine gg ?_;rw [dT (oM : 1 <= s.length),<- e];refine ze [] ?_;exact ⟨rfl,rfl⟩
theorem YI (s : L8) (hs : s.length <= 1000000) : zh prog 102 [sT s] [] fun v A => v = .bool (s.all nonB && (decide (1 <= s.length) && decide (s.length <= 64))) /\ A = [] := by
 refine eNg func102 ntmps102 results102 fun F => ?_
 refine zM (fun q D L S => ∃ i : Nat,i <= s.length /\ (s.take i).all nonB = true /\ q = s.length - i /\ D = [] /\ L = [(3,.int .i64 i),(0,sT s)] /\ S = [F])
  ⟨0,oM,sM,rfl,rfl,rfl,rfl⟩ ?_
 rintro q D L S ⟨i,hi,hall,rfl,rfl,rfl,rfl⟩;refine gg ?_;refine if_d (fun hc => ?_) (fun hc => ?_)
 ·have hil : i < s.length := oM;have hnx := jF (p := nonB) s i hil;have hct := Xs (p := nonB) hil;have hx := (s.getD i 0).toNat_lt;refine gg ?_
  cases h1 : decide (((s.getD i 0).toNat : Int) < 33) with
  | true =>
   rw [hct (by simp only [nonB,h1];rfl)];refine gg ?_;refine ze [] ?_;exact ⟨rfl,rfl⟩
  | false =>
   refine gg ?_
   cases h2 : decide ((126 : Int) < ((s.getD i 0).toNat : Int)) with
   | true =>
    rw [hct (by simp only [nonB,h1,h2];rfl)];refine gg ?_;refine ze [] ?_;exact ⟨rfl,rfl⟩
   | false =>
    refine gg ?_
    cases h3 : (((s.getD i 0).toNat : Int) == 44) with
    | true =>
     rw [hct (by simp only [nonB,h1,h2,h3];rfl)];refine gg ?_;refine ze [] ?_;exact ⟨rfl,rfl⟩
    | false =>
     refine gg ?_;exact zI ⟨i + 1,oM,by rw [hnx,hall];simp only [nonB,h1,h2,h3];rfl,rfl,rfl,rfl,rfl⟩
 ·obtain rfl : i = s.length := oM;rw [iK] at hall;rw [hall];refine gg ?_
  have e : decide ((s.length : Int) <= 64) = decide (s.length <= 64) := by
   by_cases h : s.length <= 64
   ·rw [dT h,dT oM]
   ·rw [dF h,dF oM]
  by_cases h : 1 <= s.length
  ·rw [dT h,dT (oM : (1 : Int) <= s.length),<- e];refine gg ?_;refine ze [] ?_;exact ⟨rfl,rfl⟩
  ·rw [dF h,dF (oM : ¬ (1 : Int) <= s.length)];refine gg ?_;refine ze [] ?_;exact ⟨rfl,rfl⟩
theorem cB (s : L8) (hs : s.length <= 1000000) : zh prog 93 [sT s] [] fun v A => v = .bool (Xp s) /\ A = [] := by
 have key : Xp s = ((s.all nonB && (decide (1 <= s.length) && decide (s.length <= 64))) && decide ((s.length : Int) <= 40)) := by
  unfold Xp
  by_cases h : s.length <= 40
  ·rw [dT h,dT (oM : s.length <= 64),dT (oM : (s.length : Int) <= 40),Bool.and_true,Bool.and_true]
  ·rw [dF h,dF (oM : ¬ (s.length : Int) <= 40),Bool.and_false,Bool.and_false,Bool.and_false]
 have hn := Yp s hs;rw [key]
 cases hB : (s.all nonB && (decide (1 <= s.length) && decide (s.length <= 64))) with
 | false =>
  rw [hB] at hn;refine eNg func93 ntmps93 results93 fun F => ?_
  refine cR (hn) ?_;refine ze [] ?_;exact ⟨rfl,rfl⟩
 | true =>
  rw [hB] at hn;refine eNg func93 ntmps93 results93 fun F => ?_
  refine cR (hn) ?_;refine ze [] ?_;exact ⟨rfl,rfl⟩
theorem getD_mid (d h : L8) (k : Nat) : (d ++ (46 : UInt8) :: h).getD k 0 = if k < d.length then d.getD k 0 else if k = d.length then 46 else h.getD (k - d.length - 1) 0 := by
 simp only [aS]
 by_cases h1 : k < d.length
 ·rw [if_pos h1,lP h1]
 ·rw [if_neg h1,lD oM]
  by_cases h2 : k = d.length
  ·rw [if_pos h2,h2];simp
  ·rw [if_neg h2,show k - d.length = (k - d.length - 1) + 1 from oM];simp
theorem VR (d h : L8) (hd : d.length <= 1000000) (hl : h.length <= 1000000) (hh : ∀ c ∈ h,c ≠ 46) : zh prog 194 [sT (d ++ 46 :: h),.int .u8 46] [] fun v A => v = .int .i64 d.length /\ A = [] := by
 obtain ⟨s,hs⟩ : ∃ s,d ++ (46 : UInt8) :: h = s := ⟨_,rfl⟩;have hsl : s.length = d.length + h.length + 1 := by rw [<- hs];simp;omega
 have hg := getD_mid d h;rw [hs] at hg ⊢;refine eNg func194 ntmps194 results194 fun F => ?_
 rw [show ((s.length : Int) - 1) = ((s.length - 1 : Nat) : Int) from oM]
 refine zM (fun q D L S => ∃ k : Nat,d.length <= k /\ k < s.length /\ q = k + 1 /\ D = [] /\ L = [(5,.int .i64 k),(0,sT s),(1,.int .u8 46)] /\ S = [F])
  ⟨s.length - 1,oM,oM,rfl,rfl,rfl,rfl⟩ ?_
 rintro q D L S ⟨k,hk1,hk2,rfl,rfl,rfl,rfl⟩;refine gg ?_;rw [dT (oM : (0 : Int) <= k)];refine gg ?_;rw [show (b8 (s.getD k 0)) = .int .u8 (s.getD k 0).toNat from rfl]
 by_cases h2 : k = d.length
 ·have e : s.getD k 0 = 46 := by rw [hg,if_neg oM,if_pos h2]
  rw [e];refine gg ?_;subst h2;refine ze [] ?_;exact ⟨rfl,rfl⟩
 ·have e : s.getD k 0 ≠ 46 := by
   rw [hg,if_neg oM,if_neg h2];refine hh _ ?_;rw [aS,aE oM];exact lT _
  have e2 : (((s.getD k 0).toNat : Int) == 46) = false := beq_eq_false_iff_ne.2 (fun h => e (UInt8.toNat_inj.1 (by rw [show (46 : UInt8).toNat = 46 from rfl];omega)));refine gg ?_;rw [e2];refine gg ?_;rw [show ((k : Int) - 1) = ((k - 1 : Nat) : Int) from oM];exact zI ⟨k - 1,oM,oM,rfl,rfl,rfl,rfl⟩
theorem Wl (d h : L8) (hd : d.length <= 1000000) (hl : h.length <= 1000000) (hh : ∀ c ∈ h,c ≠ 46) : zh prog 140 [sT (d ++ 46 :: h),sT [46]] [] fun v A => v = .int .i64 d.length /\ A = [] := by
 refine eNg func140 ntmps140 results140 fun F => ?_
 refine zF ?_;rw [sidx dM dM];refine gg ?_;refine cR (VR d h hd hl hh) ?_;refine ze [] ?_;exact ⟨rfl,rfl⟩
theorem cC (d h : L8) (hd : d.length <= 1000000) (hl : h.length <= 1000000) (hh : ∀ c ∈ h,c ≠ 46) : zh prog 95 [sT (d ++ 46 :: h)] [] fun v A => v = sT d /\ A = [] := by
 have hz : (d ++ (46 : UInt8) :: h).length = d.length + h.length + 1 := by simp;omega
 refine eNg func95 ntmps95 results95 fun F => ?_
 refine cR (Wl d h hd hl hh) ?_;rw [List.take_left' rfl];refine ze [] ?_;exact ⟨rfl,rfl⟩
def hx (n : Nat) : L8 := hex (be 8 n)
theorem Iu (n : Nat) : (hx n).length = 16 := by unfold hx;rw [jK,qf]
theorem Yw (n : Nat) (hn : n < 18446744073709551616) : zh prog 97 [.int .u64 n] [] fun v A => v = sT (hx n) /\ A = [] := by
 refine eNg func97 ntmps97 results97 fun F => ?_
 refine zF ?_;refine fE (n := 8) dM (fun b1 C1 ho1 => ?_);refine gg ?_
 refine zM (fun q D L S => ∃ (i : Nat) (C : zd),i <= 8 /\ Own8 5 C (some ⟨b1,0,none⟩) 8 8 ((be 8 n).take i ++ aU (8 - i) 0) /\ q = 8 - i /\ D = [] /\
  L = [(8,.int .i64 i),(7,.int .i64 8),(3,.slice (some ⟨b1,0,none⟩) 8 8),(0,.int .u64 n)] /\ S = [C,F])
  ⟨0,C1,oM,ho1,rfl,rfl,rfl,rfl⟩ ?_
 rintro q D L S ⟨i,C,hi,ho,rfl,rfl,rfl,rfl⟩;refine gg ?_;refine if_d (fun hc => ?_) (fun hc => ?_)
 ·have hi8 : i < 8 := oM;have hl : ((be 8 n).take i).length = i := by rw [aX,qf];omega
  have hset : ((be 8 n).take i ++ aU (8 - i) 0).set i (aG (n / 256 ^ (8 - 1 - i))) = (be 8 n).take (i + 1) ++ aU (8 - (i + 1)) 0 := by
   rw [gW 8 n i hi8,show 8 - i = (8 - (i + 1)) + 1 from oM,List.replicate_succ,List.set_append_right _ _ oM,hl,Nat.sub_self,List.set_cons_zero,aN];rfl
  have e1 : Value.int .u8 (IntKind.u8.wrap ((n : Int) / 2 ^ (8 * ((7 : Int) - i)).toNat)) = b8 (aG (n / 256 ^ (8 - 1 - i))) := by
   rw [show (8 * ((7 : Int) - i)).toNat = 8 * (8 - 1 - i) from oM,shift8,ko];rfl
  have e2 : (⟨b1,0 + i * 1,none⟩ : Addr) = elA (some ⟨b1,0,none⟩) i := by
   simp only [elA,iR,xZ];congr 1;omega
  refine gg ?_;refine zF ?_;rw [e1,e2];refine vr ho pkA (by simp [qf];omega) (fun C2 ho2 => ?_);rw [hset] at ho2;refine gg ?_;exact zI ⟨i + 1,C2,oM,ho2,rfl,rfl,rfl,rfl⟩
 ·obtain rfl : i = 8 := oM;rw [show (be 8 n).take 8 ++ aU (8 - 8) 0 = be 8 n from by rw [lE (by rw [qf];omega)];simp] at ho;have hb := ZU C (some ⟨b1,0,none⟩) 8 (be 8 n) (by rw [qf];decide) (by rw [qf];exact ho.rd sM);rw [qf] at hb;refine gg ?_;refine cR (hb) ?_;refine ze [] ?_;exact ⟨rfl,rfl⟩
end Go.Proofs.YtebikhhoppiapaaGreatDoor
namespace Go.Proofs.YtebikhhoppiapaaGreatDoor
open Go Go.Ost Tryz
theorem beq_n (c k : UInt8) : (c == k) = decide ((c.toNat : Int) = (k.toNat : Int)) := by
 rw [Bool.eq_iff_iff,beq_iff_eq,decide_eq_true_eq]
 constructor
 ·rintro rfl;rfl
 ·intro h;exact UInt8.toNat_inj.1 oM
def sgN (n : Int) : Bool := decide (n = 33) || (decide (n = 35) || (decide (n = 36) || (decide (n = 37) || (decide (n = 38) || (decide (n = 39) || (decide (n = 42) || (decide (n = 43) || (decide (n = 45) || (decide (n = 46) || (decide (n = 94) || (decide (n = 95) || (decide (n = 124) || (decide (n = 126) || (decide (n = 96)))))))))))))))
theorem sgn_has (c : UInt8) : vV.contains c = sgN c.toNat := by
 simp only [vV,List.contains_cons,List.contains_nil,Bool.or_false,beq_n];rfl
def tcN (n : Int) : Bool := decide (97 <= n /\ n <= 122) || (decide (65 <= n /\ n <= 90) || (decide (48 <= n /\ n <= 57) || sgN n))
theorem tc_n (c : UInt8) : tcB c = tcN c.toNat := by
 unfold tcB tcN;rw [sgn_has]
 rw [show decide (97 <= c.toNat /\ c.toNat <= 122) = decide (97 <= (c.toNat : Int) /\ (c.toNat : Int) <= 122) from by rw [decide_eq_decide];omega,
  show decide (65 <= c.toNat /\ c.toNat <= 90) = decide (65 <= (c.toNat : Int) /\ (c.toNat : Int) <= 90) from by rw [decide_eq_decide];omega,
  show decide (48 <= c.toNat /\ c.toNat <= 57) = decide (48 <= (c.toNat : Int) /\ (c.toNat : Int) <= 57) from by rw [decide_eq_decide];omega]
theorem rtchar_n (n : Int) (h0 : 0 <= n) (h1 : n < 256) : zh prog 166 [.int .u8 n] [] fun v A => v = .bool (tcN n) /\ A = [] := by
 unfold tcN;refine eN func166 ntmps166 results166 fun F => ?_
 (with_reducible refine zS ?_);refine zO (fun D L S => D = [] /\ L = [(0,.int .u8 n)] /\ S = [F]) ?_ ?_
 ·refine gg ?_;exact mid ⟨rfl,rfl,rfl⟩
 rintro D L S ⟨rfl,rfl,rfl⟩
 (with_reducible refine zS ?_);refine zO (fun D L S => ¬ (97 <= n /\ n <= 122) /\ ¬ (65 <= n /\ n <= 90) /\ ¬ (48 <= n /\ n <= 57) /\ D = [] /\ L = [(0,.int .u8 n)] /\ S = [F]) ?_ ?_
 ·refine gg ?_
  by_cases b1 : 97 <= n
  ·rw [dT b1];refine gg ?_
   by_cases d1 : n <= 122
   ·rw [dT d1,dT (show 97 <= n /\ n <= 122 from ⟨b1,d1⟩)];refine gg ?_;refine ze [] ?_;exact ⟨sM,rfl⟩
   ·rw [dF d1];refine gg ?_;rw [dT (oM : 65 <= n)];refine gg ?_;rw [dF (oM : ¬ n <= 90)];refine gg ?_;rw [dT (oM : 48 <= n)];refine gg ?_;rw [dF (oM : ¬ n <= 57)];refine gg ?_;exact mid ⟨oM,oM,oM,rfl,rfl,rfl⟩
  ·rw [dF b1];refine gg ?_
   by_cases b2 : 65 <= n
   ·rw [dT b2];refine gg ?_
    by_cases d2 : n <= 90
    ·rw [dT d2,dT (show 65 <= n /\ n <= 90 from ⟨b2,d2⟩)];refine gg ?_;refine ze [] ?_;exact ⟨sM,rfl⟩
    ·rw [dF d2];refine gg ?_;rw [dT (oM : 48 <= n)];refine gg ?_;rw [dF (oM : ¬ n <= 57)];refine gg ?_;exact mid ⟨oM,oM,oM,rfl,rfl,rfl⟩
   ·rw [dF b2];refine gg ?_
    by_cases b3 : 48 <= n
    ·rw [dT b3];refine gg ?_
     by_cases d3 : n <= 57
     ·rw [dT d3,dT (show 48 <= n /\ n <= 57 from ⟨b3,d3⟩)];refine gg ?_;refine ze [] ?_;exact ⟨sM,rfl⟩
     ·rw [dF d3];refine gg ?_;exact mid ⟨oM,oM,oM,rfl,rfl,rfl⟩
    ·rw [dF b3];refine gg ?_;exact mid ⟨oM,oM,oM,rfl,rfl,rfl⟩
 rintro D L S ⟨a1,a2,a3,rfl,rfl,rfl⟩;rw [dF a1,dF a2,dF a3];unfold sgN;refine gg ?_;refine if_b (fun hc => ?_) (fun hc => ?_)
 ·refine gg ?_
  (try rw [beq_iff_eq.2 hc])
  (try refine gg ?_)
  refine ze [] ?_;exact ⟨by simp [hc],rfl⟩
 ·have hc0 := hc;refine gg ?_;refine if_b (fun hc => ?_) (fun hc => ?_)
  ·refine gg ?_
   (try rw [beq_iff_eq.2 hc])
   (try refine gg ?_)
   refine ze [] ?_;exact ⟨by simp [hc],rfl⟩
  ·have hc1 := hc;refine gg ?_;refine if_b (fun hc => ?_) (fun hc => ?_)
   ·refine gg ?_
    (try rw [beq_iff_eq.2 hc])
    (try refine gg ?_)
    refine ze [] ?_;exact ⟨by simp [hc],rfl⟩
   ·have hc2 := hc;refine gg ?_;refine if_b (fun hc => ?_) (fun hc => ?_)
    ·refine gg ?_
     (try rw [beq_iff_eq.2 hc])
     (try refine gg ?_)
     refine ze [] ?_;exact ⟨by simp [hc],rfl⟩
    ·have hc3 := hc;refine gg ?_;refine if_b (fun hc => ?_) (fun hc => ?_)
     ·refine gg ?_
      (try rw [beq_iff_eq.2 hc])
      (try refine gg ?_)
      refine ze [] ?_;exact ⟨by simp [hc],rfl⟩
     ·have hc4 := hc;refine gg ?_;refine if_b (fun hc => ?_) (fun hc => ?_)
      ·refine gg ?_
       (try rw [beq_iff_eq.2 hc])
       (try refine gg ?_)
       refine ze [] ?_;exact ⟨by simp [hc],rfl⟩
      ·have hc5 := hc;refine gg ?_;refine if_b (fun hc => ?_) (fun hc => ?_)
       ·refine gg ?_
        (try rw [beq_iff_eq.2 hc])
        (try refine gg ?_)
        refine ze [] ?_;exact ⟨by simp [hc],rfl⟩
       ·have hc6 := hc;refine gg ?_;refine if_b (fun hc => ?_) (fun hc => ?_)
        ·refine gg ?_
         (try rw [beq_iff_eq.2 hc])
         (try refine gg ?_)
         refine ze [] ?_;exact ⟨by simp [hc],rfl⟩
        ·have hc7 := hc;refine gg ?_;refine if_b (fun hc => ?_) (fun hc => ?_)
         ·refine gg ?_
          (try rw [beq_iff_eq.2 hc])
          (try refine gg ?_)
          refine ze [] ?_;exact ⟨by simp [hc],rfl⟩
         ·have hc8 := hc;refine gg ?_;refine if_b (fun hc => ?_) (fun hc => ?_)
          ·refine gg ?_
           (try rw [beq_iff_eq.2 hc])
           (try refine gg ?_)
           refine ze [] ?_;exact ⟨by simp [hc],rfl⟩
          ·have hc9 := hc;refine gg ?_;refine if_b (fun hc => ?_) (fun hc => ?_)
           ·refine gg ?_
            (try rw [beq_iff_eq.2 hc])
            (try refine gg ?_)
            refine ze [] ?_;exact ⟨by simp [hc],rfl⟩
           ·have hc10 := hc;refine gg ?_;refine if_b (fun hc => ?_) (fun hc => ?_)
            ·refine gg ?_
             (try rw [beq_iff_eq.2 hc])
             (try refine gg ?_)
             refine ze [] ?_;exact ⟨by simp [hc],rfl⟩
            ·have hc11 := hc;refine gg ?_;refine if_b (fun hc => ?_) (fun hc => ?_)
             ·refine gg ?_
              (try rw [beq_iff_eq.2 hc])
              (try refine gg ?_)
              refine ze [] ?_;exact ⟨by simp [hc],rfl⟩
             ·have hc12 := hc;refine gg ?_;refine if_b (fun hc => ?_) (fun hc => ?_)
              ·refine gg ?_
               (try rw [beq_iff_eq.2 hc])
               (try refine gg ?_)
               refine ze [] ?_;exact ⟨by simp [hc],rfl⟩
              ·have hc13 := hc;refine gg ?_;refine if_b (fun hc => ?_) (fun hc => ?_)
               ·refine gg ?_
                (try rw [beq_iff_eq.2 hc])
                (try refine gg ?_)
                refine ze [] ?_;exact ⟨by simp [hc],rfl⟩
               ·have hc14 := hc;refine gg ?_;refine ze [] ?_;exact ⟨by simp [hc0,hc1,hc2,hc3,hc4,hc5,hc6,hc7,hc8,hc9,hc10,hc11,hc12,hc13,hc14],rfl⟩
theorem Jk (c : UInt8) : zh prog 166 [b8 c] [] fun v A => v = .bool (tcB c) /\ A = [] := by
 have := c.toNat_lt;have h := rtchar_n c.toNat oM oM;rw [<- tc_n] at h;exact h
def tokB (s : L8) : Bool := s.all tcB && decide (1 <= s.length)
theorem Qt (s : L8) (hs : s.length <= 1000000) : zh prog 147 [sT s] [] fun v A => v = .bool (tokB s) /\ A = [] := by
 unfold tokB;refine eNg func147 ntmps147 results147 fun F => ?_
 refine zM (fun q D L S => ∃ i : Nat,i <= s.length /\ (s.take i).all tcB = true /\ q = s.length - i /\ D = [] /\ L = [(6,.int .i64 i),(5,.int .i64 s.length),(0,sT s)] /\ S = [F])
  ⟨0,oM,sM,rfl,rfl,rfl,rfl⟩ ?_
 rintro q D L S ⟨i,hi,hall,rfl,rfl,rfl,rfl⟩;refine gg ?_;refine if_d (fun hc => ?_) (fun hc => ?_)
 ·have hil : i < s.length := oM;have hnx := jF (p := tcB) s i hil;have hct := Xs (p := tcB) hil;refine gg ?_;refine cR (Qu (s.getD i 0)) ?_
  cases h1 : tcB (s.getD i 0) with
  | false =>
   rw [hct h1];refine gg ?_;refine ze [] ?_;exact ⟨rfl,rfl⟩
  | true =>
   refine gg ?_;exact zI ⟨i + 1,oM,by rw [hnx,hall,h1];rfl,rfl,rfl,rfl,rfl⟩
 ·obtain rfl : i = s.length := oM;rw [iK] at hall;rw [hall];refine gg ?_
  by_cases h : s = []
  ·subst h;rw [bne_self_eq_false];refine gg ?_;refine ze [] ?_;exact ⟨rfl,rfl⟩
  ·have hp : 0 < s.length := List.length_pos_iff.2 h;rw [bne_iff_ne.2 h,dT (oM : 1 <= s.length)];refine gg ?_;refine ze [] ?_;exact ⟨rfl,rfl⟩
theorem Jj (s : L8) (hs : s.length <= 1000000) : zh prog 122 [sT s] [] fun v A => v = .bool (tokB s) /\ A = [] := by
 unfold tokB;refine eNg func122 ntmps122 results122 fun F => ?_
 refine zM (fun q D L S => ∃ i : Nat,i <= s.length /\ (s.take i).all tcB = true /\ q = s.length - i /\ D = [] /\ L = [(3,.int .i64 i),(0,sT s)] /\ S = [F])
  ⟨0,oM,sM,rfl,rfl,rfl,rfl⟩ ?_
 rintro q D L S ⟨i,hi,hall,rfl,rfl,rfl,rfl⟩;refine gg ?_;refine if_d (fun hc => ?_) (fun hc => ?_)
 ·have hil : i < s.length := oM;have hnx := jF (p := tcB) s i hil;have hct := Xs (p := tcB) hil;refine gg ?_;refine cR (Jk (s.getD i 0)) ?_
  cases h1 : tcB (s.getD i 0) with
  | false =>
   rw [hct h1];refine gg ?_;refine ze [] ?_;exact ⟨rfl,rfl⟩
  | true =>
   refine gg ?_;exact zI ⟨i + 1,oM,by rw [hnx,hall,h1];rfl,rfl,rfl,rfl,rfl⟩
 ·obtain rfl : i = s.length := oM;rw [iK] at hall;rw [hall];refine gg ?_;have e : decide ((0 : Int) < s.length) = decide (1 <= s.length) := by rw [decide_eq_decide];omega
  rw [e];refine ze [] ?_;exact ⟨rfl,rfl⟩
def inB (c : UInt8) : Bool := decide ((c.toNat : Int) = 9) || (decide (32 <= (c.toNat : Int)) && decide ((c.toNat : Int) ≠ 127))
theorem Zb (c : UInt8) : zh prog 203 [b8 c] [] fun v A => v = .bool (inB c) /\ A = [] := by
 have hlt := c.toNat_lt;unfold inB;rw [show b8 c = .int .u8 (c.toNat : Int) from rfl];obtain ⟨n,hn⟩ : ∃ n : Int,(c.toNat : Int) = n := ⟨_,rfl⟩;have h1 : n < 256 := oM;rw [hn];refine eNg func203 ntmps203 results203 fun F => ?_
 by_cases h9 : n = 9
 ·subst h9;refine gg ?_;refine ze [] ?_;exact ⟨sM,rfl⟩
 ·rw [beq_eq_false_iff_ne.2 h9];refine gg ?_
  by_cases h32 : 32 <= n
  ·rw [dT h32];refine gg ?_
   by_cases h126 : n <= 126
   ·rw [dT h126];refine gg ?_;refine ze [] ?_;exact ⟨by simp [h9,h32];omega,rfl⟩
   ·rw [dF h126];refine gg ?_
    by_cases h127 : n = 127
    ·subst h127;refine gg ?_;refine ze [] ?_;exact ⟨sM,rfl⟩
    ·rw [dT (oM : 128 <= n)];refine gg ?_;refine ze [] ?_;exact ⟨by simp [h9,h32,h127],rfl⟩
  ·rw [dF h32];refine gg ?_;rw [dF (oM : ¬ 128 <= n)];refine gg ?_;refine ze [] ?_;exact ⟨by simp [h9,h32],rfl⟩
theorem VK (c : UInt8) : zh prog 165 [b8 c] [] fun v A => v = .bool (inB c) /\ A = [] := by
 have hlt := c.toNat_lt;unfold inB;rw [show b8 c = .int .u8 (c.toNat : Int) from rfl];obtain ⟨n,hn⟩ : ∃ n : Int,(c.toNat : Int) = n := ⟨_,rfl⟩;have h1 : n < 256 := oM;rw [hn];refine eNg func165 ntmps165 results165 fun F => ?_
 by_cases h9 : n = 9
 ·subst h9;refine gg ?_;refine ze [] ?_;exact ⟨sM,rfl⟩
 ·rw [beq_eq_false_iff_ne.2 h9];refine gg ?_
  by_cases h32 : 32 <= n
  ·rw [dT h32];refine gg ?_
   by_cases h127 : n = 127
   ·subst h127;refine gg ?_;refine ze [] ?_;exact ⟨sM,rfl⟩
   ·rw [bne_iff_ne.2 h127];refine gg ?_;refine ze [] ?_;exact ⟨by simp [h9,h32,h127],rfl⟩
  ·rw [dF h32];refine gg ?_;refine ze [] ?_;exact ⟨by simp [h9,h32],rfl⟩
def jf (c : UInt8) : L8 := if c = 34 ∨ c = 92 then [92,c] else [c]
def quo (s : L8) : L8 := 34 :: (s.flatMap jf ++ [34])
def quoE (s : L8) : L8 × Bool := if s.all inB then (quo s,true) else ([],false)
theorem IE (s : L8) (i : Nat) (h : i < s.length) : (s.take (i + 1)).flatMap jf = (s.take i).flatMap jf ++ jf (s.getD i 0) := by
 rw [lG,lI,aS,aE h]
 simp
theorem Xn (s : L8) : (s.flatMap jf).length <= 2 * s.length := by
 induction s with
 | nil => simp
 | cons c s ih =>
  rw [iU,aB,aH];have : (jf c).length <= 2 := by unfold jf;split <;> simp
  omega
theorem bH (s : L8) (hs : s.length <= 100000) : zh prog 148 [sT s] [] fun v A => v = .tuple #[sT (quoE s).1,.bool (quoE s).2] /\ A = [] := by
 have h34 : Value.int .u8 34 = b8 34 := rfl;have h92 : Value.int .u8 92 = b8 92 := rfl;unfold quoE;refine eNg func148 ntmps148 results148 fun F => ?_
 refine zF ?_;refine zC fun b4 => ?_;(try simp only [Value.cells])
 refine zU ?_;refine gg ?_;have hw := qp (Bd.new b4) sM 34;rw [aQ] at hw;rw [h34];refine cA (hw) ?_;rintro v A ⟨rfl,p1,a1,cap1,X1,hB1,rfl⟩;refine gA ?_
 refine zM (fun q D L S => ∃ (i : Nat) (p a' : OA) (cap' : Nat) (X : zd),i <= s.length /\ (s.take i).all inB = true /\ Bd b4 (34 :: (s.take i).flatMap jf) p a' cap' X /\ q = s.length - i /\ D = [] /\
  L = [(9,.int .i64 i),(8,.int .i64 s.length),(4,pT b4),(0,sT s)] /\ S = [bdB b4 p a' (34 :: (s.take i).flatMap jf).length cap',X,F])
  ⟨0,p1,a1,cap1,X1,oM,sM,hB1,rfl,rfl,rfl,rfl⟩ ?_
 rintro q D L S ⟨i,p,a',cap',X,hi,hall,hB,rfl,rfl,rfl,rfl⟩;have hel := Xn (s.take i);rw [aX] at hel;refine gg ?_;refine if_d (fun hc => ?_) (fun hc => ?_)
 ·have hil : i < s.length := oM;have hnx := jF (p := inB) s i hil;have hct := Xs (p := inB) hil;have hen := IE s i hil;have hlt := (s.getD i 0).toNat_lt;refine gg ?_;refine cR (Zb (s.getD i 0)) ?_
  cases h1 : inB (s.getD i 0) with
  | false =>
   rw [hct h1];refine gg ?_;refine zf (vs := [sT [],.bool false]) [] ⟨rfl,rfl⟩
  | true =>
   refine gg ?_
   by_cases e1 : s.getD i 0 = 34
   ·have hes : jf (s.getD i 0) = [92,s.getD i 0] := if_pos (.inl e1);rw [beq_iff_eq.2 e1];refine gg ?_;rw [h92];refine cA (qp hB (by rw [aH];omega) 92) ?_;rintro v A ⟨rfl,p2,a2,cap2,X2,hB2,rfl⟩;refine gA ?_;rw [aC] at hB2;refine cA (qp hB2 (by rw [aH,aB,aI];omega) (s.getD i 0)) ?_;rintro v A ⟨rfl,p3,a3,cap3,X3,hB3,rfl⟩;refine gA ?_;rw [aC] at hB3;rw [show 34 :: ((s.take i).flatMap jf ++ [92] ++ [s.getD i 0]) = 34 :: (s.take (i + 1)).flatMap jf from by rw [hen,hes];simp] at hB3 ⊢;exact zI ⟨i + 1,p3,a3,cap3,X3,oM,by rw [hnx,hall,h1];rfl,hB3,rfl,rfl,rfl,rfl⟩
   ·rw [beq_eq_false_iff_ne.2 e1];refine gg ?_
    by_cases e2 : s.getD i 0 = 92
    ·have hes : jf (s.getD i 0) = [92,s.getD i 0] := if_pos (.inr e2);rw [beq_iff_eq.2 (show ((s.getD i 0).toNat : Int) = 92 by rw [e2];rfl)];refine gg ?_;rw [h92];refine cA (qp hB (by rw [aH];omega) 92) ?_;rintro v A ⟨rfl,p2,a2,cap2,X2,hB2,rfl⟩;refine gA ?_;rw [aC] at hB2;refine cA (qp hB2 (by rw [aH,aB,aI];omega) (s.getD i 0)) ?_;rintro v A ⟨rfl,p3,a3,cap3,X3,hB3,rfl⟩;refine gA ?_;rw [aC] at hB3;rw [show 34 :: ((s.take i).flatMap jf ++ [92] ++ [s.getD i 0]) = 34 :: (s.take (i + 1)).flatMap jf from by rw [hen,hes];simp] at hB3 ⊢;exact zI ⟨i + 1,p3,a3,cap3,X3,oM,by rw [hnx,hall,h1];rfl,hB3,rfl,rfl,rfl,rfl⟩
    ·have hes : jf (s.getD i 0) = [s.getD i 0] := if_neg (fun h => by
      rcases h with h | h
      ·exact e1 h
      ·exact e2 h)
     rw [beq_eq_false_iff_ne.2 (show ((s.getD i 0).toNat : Int) ≠ 92 from fun h => e2 (UInt8.toNat_inj.1 (oM : (s.getD i 0).toNat = 92)))];refine gg ?_;refine cA (qp hB (by rw [aH];omega) (s.getD i 0)) ?_;rintro v A ⟨rfl,p3,a3,cap3,X3,hB3,rfl⟩;refine gA ?_;rw [aC] at hB3;rw [show 34 :: ((s.take i).flatMap jf ++ [s.getD i 0]) = 34 :: (s.take (i + 1)).flatMap jf from by rw [hen,hes]] at hB3 ⊢;exact zI ⟨i + 1,p3,a3,cap3,X3,oM,by rw [hnx,hall,h1];rfl,hB3,rfl,rfl,rfl,rfl⟩
 ·obtain rfl : i = s.length := oM;rw [iK] at hall hB hel ⊢;rw [hall,if_pos rfl];refine gg ?_;have hw3 := qp hB (by rw [aH];omega) 34;rw [<- h34] at hw3;refine cA (hw3) ?_;rintro v A ⟨rfl,p3,a3,cap3,X3,hB3,rfl⟩;refine gA ?_;rw [aC] at hB3;rw [show 34 :: (s.flatMap jf ++ [34]) = quo s from rfl] at hB3 ⊢;refine cR (yq hB3 (by unfold quo;rw [aH,aB,aI];omega)) ?_;refine zf (vs := [sT (quo s),.bool true]) [] ⟨rfl,rfl⟩
theorem Kd (s : L8) (i : Nat) (h : i < s.length) : (s.take ((i : Int) + 1).toNat).drop i = [s.getD i 0] := by
 rw [show ((i : Int) + 1).toNat = i + 1 from oM,List.drop_take,show i + 1 - i = 1 from oM];rw [iH h,aS,aE h];rfl
theorem YE (s : L8) (hs : s.length <= 100000) : zh prog 121 [sT s] [] fun v A => v = .tuple #[sT (quoE s).1,.bool (quoE s).2] /\ A = [] := by
 have s34 : Value.string ⟨#[34]⟩ = sT [34] := rfl;have s92 : Value.string ⟨#[92]⟩ = sT [92] := rfl;unfold quoE;refine eNg func121 ntmps121 results121 fun F => ?_
 rw [s34]
 refine zM (fun q D L S => ∃ i : Nat,i <= s.length /\ (s.take i).all inB = true /\ q = s.length - i /\ D = [] /\ L = [(5,.int .i64 i),(4,sT (34 :: (s.take i).flatMap jf)),(0,sT s)] /\ S = [F])
  ⟨0,oM,sM,rfl,rfl,rfl,rfl⟩ ?_
 rintro q D L S ⟨i,hi,hall,rfl,rfl,rfl,rfl⟩;have hel := Xn (s.take i);rw [aX] at hel;refine gg ?_;refine if_d (fun hc => ?_) (fun hc => ?_)
 ·have hil : i < s.length := oM;have hnx := jF (p := inB) s i hil;have hct := Xs (p := inB) hil;have hen := IE s i hil;have hc1 := Kd s i hil;refine gg ?_;refine cR (VK (s.getD i 0)) ?_
  cases h1 : inB (s.getD i 0) with
  | false =>
   rw [hct h1];refine gg ?_;refine zf (vs := [sT [],.bool false]) [] ⟨rfl,rfl⟩
  | true =>
   refine gg ?_
   by_cases e1 : s.getD i 0 = 34
   ·have hes : jf (s.getD i 0) = [92,s.getD i 0] := if_pos (.inl e1);rw [beq_iff_eq.2 (show ((s.getD i 0).toNat : Int) = 34 by rw [e1];rfl)];refine gg ?_;refine zF ?_;rw [s92,zV (by simp only [aH,aB,aQ,aI];omega)];refine gg ?_;rw [hc1];refine zF ?_;rw [zV (by simp only [aH,aB,aQ,aI];omega)];rw [show 34 :: ((s.take i).flatMap jf ++ [92]) ++ [s.getD i 0] = 34 :: (s.take (i + 1)).flatMap jf from by rw [hen,hes];simp];refine gg ?_;exact zI ⟨i + 1,oM,by rw [hnx,hall,h1];rfl,rfl,rfl,rfl,rfl⟩
   ·rw [beq_eq_false_iff_ne.2 (show ((s.getD i 0).toNat : Int) ≠ 34 from fun h => e1 (UInt8.toNat_inj.1 (oM : (s.getD i 0).toNat = 34)))];refine gg ?_
    by_cases e2 : s.getD i 0 = 92
    ·have hes : jf (s.getD i 0) = [92,s.getD i 0] := if_pos (.inr e2);rw [beq_iff_eq.2 (show ((s.getD i 0).toNat : Int) = 92 by rw [e2];rfl)];refine gg ?_;refine zF ?_;rw [s92,zV (by simp only [aH,aB,aQ,aI];omega)];refine gg ?_;rw [hc1];refine zF ?_;rw [zV (by simp only [aH,aB,aQ,aI];omega)];rw [show 34 :: ((s.take i).flatMap jf ++ [92]) ++ [s.getD i 0] = 34 :: (s.take (i + 1)).flatMap jf from by rw [hen,hes];simp];refine gg ?_;exact zI ⟨i + 1,oM,by rw [hnx,hall,h1];rfl,rfl,rfl,rfl,rfl⟩
    ·have hes : jf (s.getD i 0) = [s.getD i 0] := if_neg (fun h => by
      rcases h with h | h
      ·exact e1 h
      ·exact e2 h)
     rw [beq_eq_false_iff_ne.2 (show ((s.getD i 0).toNat : Int) ≠ 92 from fun h => e2 (UInt8.toNat_inj.1 (oM : (s.getD i 0).toNat = 92)))];refine gg ?_;rw [hc1];refine zF ?_;rw [zV (by simp only [aH,aB,aQ,aI];omega)];rw [show 34 :: (s.take i).flatMap jf ++ [s.getD i 0] = 34 :: (s.take (i + 1)).flatMap jf from by rw [hen,hes];simp];refine gg ?_;exact zI ⟨i + 1,oM,by rw [hnx,hall,h1];rfl,rfl,rfl,rfl,rfl⟩
 ·obtain rfl : i = s.length := oM;rw [iK] at hall hel ⊢;rw [hall,if_pos rfl];refine gg ?_;refine zF ?_;rw [zV (by simp only [aH,aB,aQ,aI];omega)];rw [show 34 :: s.flatMap jf ++ [34] = quo s from rfl];refine gg ?_;refine zf (vs := [sT (quo s),.bool true]) [] ⟨rfl,rfl⟩
def low1 (c : UInt8) : UInt8 := if 65 <= c.toNat /\ c.toNat <= 90 then aG (c.toNat + 32) else c
def lowL (s : L8) : L8 := s.map low1
theorem low_set (s : L8) (i : Nat) (h : i < s.length) : ((s.take i).map low1 ++ s.drop i).set i (low1 (s.getD i 0)) = (s.take (i + 1)).map low1 ++ s.drop (i + 1) := by
 have hl : ((s.take i).map low1).length = i := by simp;omega
 rw [List.set_append_right _ _ oM,hl,Nat.sub_self,iH h,List.set_cons_zero,lG,aS,aE h];simp only [iR,Option.toList_some,lL,iB,mV,aN,aC,aD]
theorem low_at (s : L8) (i : Nat) (h : i < s.length) : ((s.take i).map low1 ++ s.drop i).getD i 0 = s.getD i 0 := by
 have hl : ((s.take i).map low1).length = i := by simp;omega
 simp only [aS];rw [lD oM,hl,Nat.sub_self,List.getElem?_drop,mT]
theorem wk (s : L8) (hs : s.length <= 100000) : zh prog 149 [sT s] [] fun v A => v = sT (lowL s) /\ A = [] := by
 refine eNg func149 ntmps149 results149 fun F => ?_
 refine zF ?_;refine xb (by simp only [maxLen];omega) (fun X xa xc hX => ?_);refine gg ?_
 refine zM (fun q D L S => ∃ (i : Nat) (X : zd),i <= s.length /\ Own8 5 X (some xa) s.length xc ((s.take i).map low1 ++ s.drop i) /\ q = s.length - i /\ D = [] /\
  L = [(10,.int .i64 i),(9,.int .i64 s.length),(8,.slice (some xa) s.length xc),(3,.slice (some xa) s.length xc)] /\ S = [X,F])
  ⟨0,X,oM,hX,rfl,rfl,rfl,rfl⟩ ?_
 rintro q D L S ⟨i,X,hi,hX,rfl,rfl,rfl,rfl⟩;have hlen : ((s.take i).map low1 ++ s.drop i).length = s.length := by simp;omega
 refine gg ?_;refine if_d (fun hc => ?_) (fun hc => ?_)
 ·have hil : i < s.length := oM;have hst := low_set s i hil;have hat := low_at s i hil;have hlt := (s.getD i 0).toNat_lt;refine gg ?_;rw [hat]
  have keep : ¬ (65 <= (s.getD i 0).toNat /\ (s.getD i 0).toNat <= 90) -> (s.take i).map low1 ++ s.drop i = (s.take (i + 1)).map low1 ++ s.drop (i + 1) := fun hn => by
   rw [<- hst,show low1 (s.getD i 0) = s.getD i 0 from if_neg hn];refine (List.ext_getElem? fun j => ?_).symm;rw [List.getElem?_set]
   split
   ·rename_i hj
    subst hj;rw [hlen,if_pos hil,<- hat,aS,aE oM];rfl
   ·rfl
  by_cases h1 : (65 : Int) <= (s.getD i 0).toNat
  ·rw [dT h1];refine gg ?_
   by_cases h2 : ((s.getD i 0).toNat : Int) <= 90
   ·rw [dT h2]
    have e1 : Value.int .u8 (((s.getD i 0).toNat : Int) - 65 + 97) = b8 (low1 (s.getD i 0)) := by
     unfold low1;rw [if_pos ⟨oM,oM⟩];simp only [b8,iO]
     congr 1;omega
    refine gg ?_;rw [show b8 (s.getD i 0) = Value.int .u8 ((s.getD i 0).toNat : Int) from rfl];refine gg ?_;refine zF ?_;rw [e1];refine vr hX pkA oM (fun X2 hX2 => ?_);rw [hst] at hX2;refine gg ?_;exact zI ⟨i + 1,X2,oM,hX2,rfl,rfl,rfl,rfl⟩
   ·rw [dF h2];rw [keep oM] at hX;refine gg ?_;exact zI ⟨i + 1,X,oM,hX,rfl,rfl,rfl,rfl⟩
  ·rw [dF h1];rw [keep oM] at hX;refine gg ?_;exact zI ⟨i + 1,X,oM,hX,rfl,rfl,rfl,rfl⟩
 ·obtain rfl : i = s.length := oM;rw [iK,mR,aL] at hX;refine gg ?_;refine zF ?_;refine xW (hX.rd mmA) ?_;refine gg ?_;refine ze [] ?_;exact ⟨rfl,rfl⟩
def alph : L8 := [97,98,99,100,101,102,103,104,105,106,107,108,109,110,111,112,113,114,115,116,117,118,119,120,121,122]
theorem alph_at : ∀ k < 26,(alph.drop k).take 1 = [aG (k + 97)] := dM
theorem low_next (s : L8) (i : Nat) (h : i < s.length) : lowL (s.take (i + 1)) = lowL (s.take i) ++ [low1 (s.getD i 0)] := by
 unfold lowL;rw [lG,lL,aS,aE h]
 simp
theorem yd (s : L8) (hs : s.length <= 100000) : zh prog 49 [sT s] [] fun v A => v = sT (lowL s) /\ A = [] := by
 have sal : Value.string ⟨#[97,98,99,100,101,102,103,104,105,106,107,108,109,110,111,112,113,114,115,116,117,118,119,120,121,122]⟩ = sT alph := rfl;have snil : Value.string ⟨#[]⟩ = sT [] := rfl;refine eNg func49 ntmps49 results49 fun F => ?_
 refine zM (fun q D L S => ∃ i : Nat,i <= s.length /\ q = s.length - i /\ D = [] /\ L = [(4,.int .i64 i),(3,sT (lowL (s.take i))),(0,sT s)] /\ S = [F])
  ⟨0,oM,rfl,rfl,rfl,rfl⟩ ?_
 rintro q D L S ⟨i,hi,rfl,rfl,rfl,rfl⟩;have hll : (lowL (s.take i)).length <= s.length := by unfold lowL;rw [iA,aX];omega
 refine gg ?_;refine if_d (fun hc => ?_) (fun hc => ?_)
 ·have hil : i < s.length := oM;have hnx := low_next s i hil;have hc1 := Kd s i hil;have hlt := (s.getD i 0).toNat_lt;refine gg ?_
  by_cases h1 : (65 : Int) <= (s.getD i 0).toNat
  ·rw [dT h1];refine gg ?_
   by_cases h2 : ((s.getD i 0).toNat : Int) <= 90
   ·rw [dT h2];refine gg ?_;refine cdLg [[0],[1],[2],[3],[4],[5],[6],[7],[8],[9],[10],[11],[12,0]] ?_;rw [show b8 (s.getD i 0) = Value.int .u8 ((s.getD i 0).toNat : Int) from rfl];refine gg ?_;rw [show b8 (s.getD i 0) = Value.int .u8 ((s.getD i 0).toNat : Int) from rfl];refine gg ?_;obtain ⟨k,hk,hk2⟩ : ∃ k : Nat,((s.getD i 0).toNat : Int) - 65 = k /\ k < 26 := ⟨(s.getD i 0).toNat - 65,oM,oM⟩
    have hlw : low1 (s.getD i 0) = aG (k + 97) := by
     unfold low1;rw [if_pos ⟨oM,oM⟩]
     congr 1;omega
    rw [hk];refine qO fun K hK => ?_
    rw [sal,Ym oM oM (by show _ <= (26 : Int);omega),show ((k : Int) + 1).toNat - ((k : Int)).toNat = 1 from oM,show ((k : Int)).toNat = k from oM,alph_at k hk2];refine hK _ _ ?_;clear hK K;refine gg ?_;refine qO fun K hK => ?_
    rw [zV (by simp only [aI];omega)];refine hK _ _ ?_;clear hK K;rw [show lowL (s.take i) ++ [aG (k + 97)] = lowL (s.take (i + 1)) from by rw [hnx,hlw]];refine gg ?_;exact zI ⟨i + 1,oM,rfl,rfl,rfl,rfl⟩
   ·rw [dF h2];refine gg ?_;rw [hc1];refine zF ?_;rw [zV (by simp only [aI];omega)];rw [show lowL (s.take i) ++ [s.getD i 0] = lowL (s.take (i + 1)) from by rw [hnx,show low1 (s.getD i 0) = s.getD i 0 from if_neg oM]];refine gg ?_;exact zI ⟨i + 1,oM,rfl,rfl,rfl,rfl⟩
  ·rw [dF h1];refine gg ?_;rw [hc1];refine zF ?_;rw [zV (by simp only [aI];omega)];rw [show lowL (s.take i) ++ [s.getD i 0] = lowL (s.take (i + 1)) from by rw [hnx,show low1 (s.getD i 0) = s.getD i 0 from if_neg oM]];refine gg ?_;exact zI ⟨i + 1,oM,rfl,rfl,rfl,rfl⟩
 ·obtain rfl : i = s.length := oM;rw [iK];refine gg ?_;refine ze [] ?_;exact ⟨rfl,rfl⟩
abbrev scB (b : Nat) (s : L8) : zd := [(b,.cells #[sT s] 285 (0,0))]
def xj (s : L8) (c : UInt8) : Bool × L8 := match s with
 | [] => (false,[])
 | d :: r => if d = c then (true,r) else (false,d :: r)
theorem vJ (b : Nat) (s : L8) (c : UInt8) (hs : s.length <= 100000) : zh prog 156 [pT b,b8 c] [scB b s] fun v A => v = .bool (xj s c).1 /\ A = [scB b (xj s c).2] := by
 cases s with
 | nil =>
  refine eNg func156 ntmps156 results156 fun F => ?_
  (try rw [beq_self_eq_true])
  (try refine gg ?_)
  refine ze [scB b []] ?_;exact ⟨rfl,rfl⟩
 | cons d r =>
  rw [aH] at hs;have hl1 : 0 < (d :: r).length := sM;simp only [xj];refine eNg func156 ntmps156 results156 fun F => ?_
  rw [show ((d :: r : L8) == []) = false from rfl];refine gg ?_;rw [show (d :: r).getD 0 0 = d from rfl]
  by_cases hd : d = c
  ·subst hd;rw [if_pos rfl,bne_self_eq_false];refine gg ?_
   (try rw [show ((d :: r).take (d :: r).length).drop (1 : Int).toNat = r from sM])
   (try rw [show ((d :: r).drop (1 : Int).toNat).take ((d :: r).length - (1 : Int).toNat) = r from sM])
   (try refine gg ?_)
   refine ze [scB b r] ?_;exact ⟨rfl,rfl⟩
  ·rw [if_neg hd,bne_iff_ne.2 hd];refine gg ?_;refine ze [scB b (d :: r)] ?_;exact ⟨rfl,rfl⟩
def kJ (c : UInt8) : Bool := decide (c = 32) || decide (c = 9)
def zo (s : L8) : L8 := s.dropWhile kJ
theorem kh (b : Nat) (s : L8) (hs : s.length <= 100000) : zh prog 207 [pT b] [scB b s] fun v A => v = .tuple #[] /\ A = [scB b (zo s)] := by
 refine eNg func207 ntmps207 results207 fun F => ?_
 refine zM (fun q D L S => ∃ t : L8,t.length <= s.length /\ zo t = zo s /\ q = t.length /\ D = [] /\ L = [(0,pT b)] /\ S = [scB b t,F])
  ⟨s,aR _,rfl,rfl,rfl,rfl,rfl⟩ ?_
 rintro q D L S ⟨t,htl,ht,rfl,rfl,rfl,rfl⟩
 cases t with
 | nil =>
  rw [<- ht];refine gg ?_
  (try rw [bne_self_eq_false])
  (try refine gg ?_)
  refine xm [scB b []] ⟨rfl,rfl⟩
 | cons d r =>
  have hl1 : 0 < (d :: r).length := sM;have hl2 : (d :: r).length = r.length + 1 := rfl;refine gg ?_;rw [show ((d :: r : L8) != []) = true from rfl];refine gg ?_;rw [show (d :: r).getD 0 0 = d from rfl]
  by_cases e1 : d = 32
  ·have hb : kJ d = true := by rw [e1];rfl
   rw [beq_iff_eq.2 (show (d.toNat : Int) = 32 by rw [e1];rfl)];refine gg ?_
   (try rw [show ((d :: r).take (d :: r).length).drop (1 : Int).toNat = r from sM])
   (try rw [show ((d :: r).drop (1 : Int).toNat).take ((d :: r).length - (1 : Int).toNat) = r from sM])
   (try refine gg ?_)
   exact zI ⟨r,oM,by rw [<- ht];unfold zo;rw [lQ,if_pos hb],rfl,rfl,rfl,rfl⟩
  ·rw [beq_eq_false_iff_ne.2 (show (d.toNat : Int) ≠ 32 from fun h => e1 (UInt8.toNat_inj.1 (oM : d.toNat = 32)))];refine gg ?_
   (try rw [show (d :: r).getD 0 0 = d from rfl])
   by_cases e2 : d = 9
   ·have hb : kJ d = true := by rw [e2];rfl
    rw [beq_iff_eq.2 (show (d.toNat : Int) = 9 by rw [e2];rfl)];refine gg ?_
    (try rw [show ((d :: r).take (d :: r).length).drop (1 : Int).toNat = r from sM])
    (try rw [show ((d :: r).drop (1 : Int).toNat).take ((d :: r).length - (1 : Int).toNat) = r from sM])
    (try refine gg ?_)
    exact zI ⟨r,oM,by rw [<- ht];unfold zo;rw [lQ,if_pos hb],rfl,rfl,rfl,rfl⟩
   ·have hb : kJ d = false := by unfold kJ;simp [e1,e2]
    rw [beq_eq_false_iff_ne.2 (show (d.toNat : Int) ≠ 9 from fun h => e2 (UInt8.toNat_inj.1 (oM : d.toNat = 9)))];rw [<- ht,show zo (d :: r) = d :: r from by unfold zo;rw [lQ,if_neg (by rw [hb];simp)]];refine gg ?_;refine xm [scB b (d :: r)] ⟨rfl,rfl⟩
end Go.Proofs.YtebikhhoppiapaaGreatDoor
namespace Go.Proofs.YtebikhhoppiapaaGreatDoor
open Go Go.Ost
structure Par where
 n : L8
 v : L8
 q : Bool
def tokL (s : L8) : L8 := s.takeWhile tcB
def tokR (s : L8) : L8 := s.dropWhile tcB
def qgo : L8 -> Option (L8 × L8)
 | [] => none
 | [c] => if c = 34 then some ([],[]) else none
 | c :: d :: r => if c = 34 then some ([],d :: r) else if inB c = false then none else
  if c = 92 then (if inB d = true then (qgo r).map (fun x => (d :: x.1,x.2)) else none) else (qgo (d :: r)).map (fun x => (c :: x.1,x.2))
def oneE (s : L8) : Option (Par × L8) :=
 if tokL s = [] ∨ (xj (zo (tokR s)) 61).1 = false then none else
 if (xj (zo (xj (zo (tokR s)) 61).2) 34).1 = true then
  (qgo (xj (zo (xj (zo (tokR s)) 61).2) 34).2).map fun z => (⟨lowL (tokL s),z.1,true⟩,z.2)
 else if tokL (zo (xj (zo (tokR s)) 61).2) = [] then none
 else some (⟨lowL (tokL s),tokL (zo (xj (zo (tokR s)) 61).2),false⟩,tokR (zo (xj (zo (tokR s)) 61).2))
def Wk : Nat -> L8 -> List Par × Bool
 | 0,_ => ([],false)
 | n + 1,s => match oneE s with
  | none => ([],false)
  | some (p,r) => if r = [] then ([p],true) else
   if (xj (zo r) 44).1 = true then (p :: (Wk n (zo (xj (zo r) 44).2)).1,(Wk n (zo (xj (zo r) 44).2)).2) else ([p],false)
def je (s : L8) : List Par × Bool := Wk (s.length + 1) s
theorem jM (s : L8) : (zo s).length <= s.length := (List.dropWhile_sublist _).length_le
theorem Vk (s : L8) : (tokR s).length <= s.length := (List.dropWhile_sublist _).length_le
theorem Vl (s : L8) : (tokL s).length <= s.length := (List.takeWhile_sublist _).length_le
theorem Vi (s : L8) : tokL s ++ tokR s = s := List.takeWhile_append_dropWhile
theorem wx (s : L8) (c : UInt8) : (xj s c).2.length <= s.length := by
 unfold xj;split
 ·simp
 ·split
  ·simp
  ·simp
theorem dE (s : L8) (c : UInt8) (h : (xj s c).1 = false) : (xj s c).2 = s := by
 unfold xj at h ⊢;split
 ·rfl
 ·split
  ·rename_i hd;simp [hd] at h
  ·rfl
theorem jA (c : UInt8) (r : L8) : xj (c :: r) c = (true,r) := by simp [xj]
theorem XH {c d : UInt8} (r : L8) (h : d ≠ c) : xj (d :: r) c = (false,d :: r) := by simp [xj,h]
theorem vI (s : L8) (c : UInt8) (h : (xj s c).1 = true) : (xj s c).2.length + 1 = s.length := by
 unfold xj at h ⊢;split
 ·simp at h
 ·split
  ·simp
  ·rename_i hd;simp [hd] at h
theorem YT : ∀ (k : Nat) (s : L8),s.length <= k -> ∀ v r,qgo s = some (v,r) -> v.length + r.length < s.length
 | 0,s,hk,v,r,h => by
  obtain rfl : s = [] := List.length_eq_zero_iff.1 oM
  simp [qgo] at h
 | k + 1,[],hk,v,r,h => by simp [qgo] at h
 | k + 1,[c],hk,v,r,h => by
  simp only [qgo] at h
  split at h
  ·cases h;simp
  ·cases h
 | k + 1,c :: d :: t,hk,v,r,h => by
  simp only [qgo] at h;simp only [aH] at hk ⊢
  split at h
  ·cases h;simp
  ·split at h
   ·cases h
   ·split at h
    ·split at h
     ·cases hq : qgo t with
      | none => rw [hq] at h;cases h
      | some x =>
       rw [hq] at h;cases h
       have := YT k t oM x.1 x.2 hq;simp only [aH];omega
     ·cases h
    ·cases hq : qgo (d :: t) with
     | none => rw [hq] at h;cases h
     | some x =>
      rw [hq] at h;cases h
      have := YT k (d :: t) (by simp only [aH];omega) x.1 x.2 hq;simp only [aH] at this ⊢;omega
theorem JA {s : L8} {p : Par} {r : L8} (h : oneE s = some (p,r)) : p.n.length + p.v.length + r.length < s.length /\ r.length < s.length /\ 1 <= p.n.length := by
 unfold oneE at h
 split at h
 ·cases h
 rename_i hno
 rw [not_or] at hno;obtain ⟨h1,h2⟩ := hno;have h2' : (xj (zo (tokR s)) 61).1 = true := by simpa using h2
 have e1 := vI _ _ h2';have e2 := jM (tokR s);have e3 := congrArg mA (Vi s);rw [aB] at e3;have e4 := jM (xj (zo (tokR s)) 61).2;have e5 : 0 < (tokL s).length := List.length_pos_iff.2 h1;have e6 : (lowL (tokL s)).length = (tokL s).length := by unfold lowL;simp
 generalize (zo (xj (zo (tokR s)) 61).2) = y at *
 split at h
 ·rename_i h3
  have e7 := vI _ _ h3
  cases hq : qgo (xj y 34).2 with
  | none => rw [hq] at h;cases h
  | some x =>
   rw [hq] at h;cases h
   have := YT _ _ (aR _) _ _ hq;refine ⟨?_,oM,?_⟩
   ·show (lowL (tokL s)).length + x.1.length + x.2.length < _
    omega
   ·show 1 <= (lowL (tokL s)).length
    omega
 ·split at h
  ·cases h
  ·cases h
   have e8 := congrArg mA (Vi y);rw [aB] at e8;refine ⟨?_,oM,?_⟩
   ·show (lowL (tokL s)).length + (tokL y).length + (tokR y).length < _
    omega
   ·show 1 <= (lowL (tokL s)).length
    omega
theorem QM : ∀ (n m : Nat) (s : L8),s.length < n -> s.length < m -> Wk n s = Wk m s
 | 0,m,s,hn,hm => oM
 | n + 1,0,s,hn,hm => oM
 | n + 1,m + 1,s,hn,hm => by
  simp only [Wk]
  cases h : oneE s with
  | none => rfl
  | some x =>
   obtain ⟨p,r⟩ := x;have hl := (JA h).2.1;have e1 := jM r;have e2 := wx (zo r) 44;have e3 := jM (xj (zo r) 44).2;simp only;rw [QM n m _ oM oM]
theorem ZE {s : L8} : je s = match oneE s with
  | none => ([],false)
  | some (p,r) => if r = [] then ([p],true) else
   if (xj (zo r) 44).1 = true then (p :: (je (zo (xj (zo r) 44).2)).1,(je (zo (xj (zo r) 44).2)).2) else ([p],false) := by
 show Wk (s.length + 1) s = _
 rw [Wk]
 cases h : oneE s with
 | none => rfl
 | some x =>
  obtain ⟨p,r⟩ := x;have hl := (JA h).2.1;have e1 := jM r;have e2 := wx (zo r) 44;have e3 := jM (xj (zo r) 44).2;simp only;rw [QM s.length _ _ oM (Nat.lt_succ_self _)]
  rfl
theorem JK {s : L8} (h : oneE s = none) : je s = ([],false) := by rw [ZE,h]
theorem ym {s : L8} {p : Par} (h : oneE s = some (p,[])) : je s = ([p],true) := by rw [ZE,h];rfl
theorem yl {s r : L8} {p : Par} (h : oneE s = some (p,r)) (hr : r ≠ []) (hs : (xj (zo r) 44).1 = false) : je s = ([p],false) := by
 rw [ZE,h];simp only [if_neg hr,hs];rfl
theorem JJ {s r : L8} {p : Par} (h : oneE s = some (p,r)) (hr : r ≠ []) (hs : (xj (zo r) 44).1 = true) :
  je s = (p :: (je (zo (xj (zo r) 44).2)).1,(je (zo (xj (zo r) 44).2)).2) := by
 rw [ZE,h];simp only [if_neg hr,hs,if_true]
def wP : List Par -> Nat
 | [] => 0
 | p :: l => p.n.length + p.v.length + 1 + wP l
theorem list_len : ∀ (k : Nat) (s : L8),s.length <= k -> wP (je s).1 <= s.length
 | k,s,hk => by
  cases h : oneE s with
  | none => rw [JK h];exact lW _
  | some x =>
   obtain ⟨p,r⟩ := x;have hl := JA h
   by_cases hr : r = []
   ·subst hr;rw [ym h];show p.n.length + p.v.length + 1 + 0 <= _;omega
   ·cases hs : (xj (zo r) 44).1 with
    | false => rw [yl h hr hs];show p.n.length + p.v.length + 1 + 0 <= _;omega
    | true =>
     rw [JJ h hr hs];have e1 := jM r;have e2 := vI _ _ hs;have e3 := jM (xj (zo r) 44).2
     match k,hk with
     | 0,hk => omega
     | k + 1,hk =>
      have := list_len k (zo (xj (zo r) 44).2) oM
      show p.n.length + p.v.length + 1 + _ <= _
      omega
structure It where
 p : Par
 nm : L8
 ga : L8
 gb : L8
 g1 : L8
 g2 : L8
def valI (p : Par) : L8 := if p.q = true then quo p.v else p.v
def okP (p : Par) : Bool := (if p.q = true then p.v.all inB else tokB p.v) && (tokB p.n && decide (lowL p.n = p.n))
def ZS (x : It) : L8 := x.nm ++ (x.g1 ++ 61 :: (x.g2 ++ valI x.p))
def ZZ : List It -> L8
 | [] => []
 | x :: l => x.ga ++ 44 :: (x.gb ++ (ZS x ++ ZZ l))
structure It.ok (x : It) : Prop where
 p : okP x.p = true
 nm : tokB x.nm = true
 low : lowL x.nm = x.p.n
 ga : x.ga.all kJ = true
 gb : x.gb.all kJ = true
 g1 : x.g1.all kJ = true
 g2 : x.g2.all kJ = true
theorem IM {c : UInt8} (h : kJ c = true) : tcB c = false := by
 unfold kJ at h;simp only [mP,decide_eq_true_eq] at h
 rcases h with rfl | rfl <;> decide
theorem tc_blank {c : UInt8} (h : tcB c = true) : kJ c = false := by
 cases hb : kJ c with
 | false => rfl
 | true => rw [IM hb] at h;cases h
def bb (r : L8) : Bool := match r with | [] => true | c :: _ => !tcB c
theorem XX {a r : L8} (ha : a.all tcB = true) (hr : bb r = true) : tokL (a ++ r) = a /\ tokR (a ++ r) = r := by
 induction a with
 | nil =>
  cases r with
  | nil => exact ⟨rfl,rfl⟩
  | cons c r =>
   have hc : tcB c = false := by simpa [bb] using hr
   constructor
   ·show List.takeWhile tcB (c :: r) = []
    rw [List.takeWhile_cons,if_neg (by rw [hc];simp)]
   ·show List.dropWhile tcB (c :: r) = c :: r
    rw [lQ,if_neg (by rw [hc];simp)]
 | cons d a ih =>
  rw [mK,aM] at ha;obtain ⟨i1,i2⟩ := ih ha.2
  constructor
  ·show List.takeWhile tcB (d :: (a ++ r)) = d :: a
   rw [List.takeWhile_cons,if_pos ha.1];exact congrArg _ i1
  ·show List.dropWhile tcB (d :: (a ++ r)) = r
   rw [lQ,if_pos ha.1];exact i2
def hardB (r : L8) : Bool := match r with | [] => true | c :: _ => !kJ c
theorem wX {a r : L8} (ha : a.all kJ = true) (hr : hardB r = true) : zo (a ++ r) = r := by
 induction a with
 | nil =>
  cases r with
  | nil => rfl
  | cons c r =>
   have hc : kJ c = false := by simpa [hardB] using hr
   show List.dropWhile kJ (c :: r) = c :: r
   rw [lQ,if_neg (by rw [hc];simp)]
 | cons d a ih =>
  rw [mK,aM] at ha
  show List.dropWhile kJ (d :: (a ++ r)) = r
  rw [lQ,if_pos ha.1];exact ih ha.2
theorem Oy {a r : L8} (ha : a.all kJ = true) (hr : bb r = true) : bb (a ++ r) = true := by
 cases a with
 | nil => exact hr
 | cons d a =>
  rw [mK,aM] at ha
  show (!tcB d) = true
  rw [IM ha.1];rfl
theorem fW {a r : L8} (ha : a.all tcB = true) (h1 : a ≠ []) : hardB (a ++ r) = true := by
 cases a with
 | nil => exact (h1 rfl).elim
 | cons d a =>
  rw [mK,aM] at ha
  show (!kJ d) = true
  rw [tc_blank ha.1];rfl
theorem Vj {a : L8} (h : tokB a = true) : a.all tcB = true /\ a ≠ [] := by
 unfold tokB at h;rw [aM,decide_eq_true_eq] at h;refine ⟨h.1,fun e => ?_⟩;rw [e] at h;simp at h
theorem VE {c : UInt8} {s : L8} (h1 : c ≠ 34) (h2 : inB c = true) (h3 : c ≠ 92) : qgo (c :: s) = (qgo s).map fun x => (c :: x.1,x.2) := by
 cases s with
 | nil => simp [qgo,h1]
 | cons d s => rw [qgo,if_neg h1,if_neg (by rw [h2];simp),if_neg h3]
theorem YU {d : UInt8} {s : L8} (h : inB d = true) : qgo (92 :: d :: s) = (qgo s).map fun x => (d :: x.1,x.2) := by
 rw [qgo,if_neg dM,if_neg dM,if_pos rfl,if_pos h]
theorem qgo_end (s : L8) : qgo (34 :: s) = some ([],s) := by
 cases s <;> simp [qgo]
theorem OT : ∀ (v r : L8),v.all inB = true -> qgo (v.flatMap jf ++ 34 :: r) = some (v,r)
 | [],r,_ => qgo_end r
 | c :: v,r,h => by
  rw [mK,aM] at h;have ih := OT v r h.2;rw [iU,aN]
  by_cases hc : c = 34 ∨ c = 92
  ·rw [show jf c = [92,c] from if_pos hc];simp only [aC,aD];rw [YU h.1,ih];rfl
  ·rw [show jf c = [c] from if_neg hc];rw [not_or] at hc;simp only [aC,aD];rw [VE hc.1 h.1 hc.2,ih];rfl
theorem OY {x : It} (h : x.ok) {r : L8} (hr : bb r = true) : oneE (ZS x ++ r) = some (x.p,r) := by
 obtain ⟨p,nm,ga,gb,g1,g2⟩ := x;obtain ⟨hp,hn,hl,hga,hgb,hg1,hg2⟩ := h;obtain ⟨n,v,q⟩ := p;simp only at hp hn hl hga hgb hg1 hg2;obtain ⟨n1,n2⟩ := Vj hn;have e0 : ZS ⟨⟨n,v,q⟩,nm,ga,gb,g1,g2⟩ ++ r = nm ++ (g1 ++ (61 :: (g2 ++ (valI ⟨n,v,q⟩ ++ r)))) := by simp [ZS]
 have t1 := XX (r := g1 ++ (61 :: (g2 ++ (valI ⟨n,v,q⟩ ++ r)))) n1 (Oy hg1 (by rfl));have s1 := wX (r := 61 :: (g2 ++ (valI ⟨n,v,q⟩ ++ r))) hg1 (by rfl);rw [e0];unfold oneE;rw [t1.1,t1.2,s1,jA,if_neg (by simp [n2])];simp only;unfold okP at hp;rw [aM] at hp
 cases q with
 | true =>
  rw [if_pos rfl] at hp;have e1 : valI ⟨n,v,true⟩ ++ r = 34 :: (v.flatMap jf ++ 34 :: r) := by simp [valI,quo]
  rw [e1,wX hg2 (by rfl),jA,if_pos rfl];simp only;rw [OT v r hp.1,hl];rfl
 | false =>
  rw [if_neg sM] at hp;obtain ⟨v1,v2⟩ := Vj hp.1;have e1 : valI ⟨n,v,false⟩ ++ r = v ++ r := by simp [valI]
  have t2 := XX (r := r) v1 hr;rw [e1,wX hg2 (fW v1 v2)]
  have hs : (xj (v ++ r) 34).1 = false := by
   cases v with
   | nil => exact (v2 rfl).elim
   | cons d v =>
    rw [mK,aM] at v1;rw [aC,XH _ (fun e => by rw [e] at v1;exact absurd v1.1 dM)]
  rw [hs,if_neg sM,t2.1,t2.2,if_neg v2,hl]
theorem dq (l : List It) (h : ∀ x ∈ l,x.ok) : bb (ZZ l) = true := by
 cases l with
 | nil => rfl
 | cons x l => exact Oy (h x (aA ..)).ga (dM : (!tcB 44) = true)
theorem Wj : ∀ (l : List It) (x : It),x.ok -> (∀ y ∈ l,y.ok) -> je (ZS x ++ ZZ l) = (x.p :: l.map It.p,true)
 | [],x,hx,_ => ym (OY hx rfl)
 | y :: l,x,hx,h => by
  have hy := h y (aA ..);have ht : ∀ z ∈ l,z.ok := fun z hz => h z (aK _ hz)
  have e1 : ZZ (y :: l) = y.ga ++ 44 :: (y.gb ++ (ZS y ++ ZZ l)) := rfl;have s1 : zo (ZZ (y :: l)) = 44 :: (y.gb ++ (ZS y ++ ZZ l)) := by rw [e1];exact wX hy.ga (by rfl)
  have hn := Vj hy.nm
  have s2 : zo (y.gb ++ (ZS y ++ ZZ l)) = ZS y ++ ZZ l := wX hy.gb (by
   unfold ZS;rw [aN];exact fW hn.1 hn.2)
  have hne : ZZ (y :: l) ≠ [] := by rw [e1];simp
  rw [JJ (OY hx (dq _ h)) hne (by rw [s1,jA]),s1,jA];simp only;rw [s2,Wj l y hy ht]
  rfl
theorem eV {s : L8} (h : tokL s = []) : oneE s = none := by unfold oneE;rw [if_pos (.inl h)]
theorem Uc {s : L8} (h : (xj (zo (tokR s)) 61).1 = false) : oneE s = none := by unfold oneE;rw [if_pos (.inr h)]
theorem bV {s y z : L8} (h : tokL s ≠ []) (h1 : zo (tokR s) = 61 :: y) (h2 : zo y = 34 :: z) : oneE s = (qgo z).map fun x => (⟨lowL (tokL s),x.1,true⟩,x.2) := by
 unfold oneE;rw [h1,jA,if_neg (by simp [h])];simp only;rw [h2,jA,if_pos rfl]
theorem one_t {s y : L8} (h : tokL s ≠ []) (h1 : zo (tokR s) = 61 :: y) (h2 : (xj (zo y) 34).1 = false) :
  oneE s = if tokL (zo y) = [] then none else some (⟨lowL (tokL s),tokL (zo y),false⟩,tokR (zo y)) := by
 unfold oneE;rw [h1,jA,if_neg (by simp [h])];simp only;rw [h2,if_neg sM]
theorem XI {s : L8} {c : UInt8} (h : (xj s c).1 = true) : s = c :: (xj s c).2 := by
 unfold xj at h ⊢;split
 ·simp at h
 ·split
  ·rename_i hd;subst hd;rfl
  ·rename_i hd;simp [hd] at h
theorem gF (s : L8) (i j : Nat) : (s.take j).drop i = (s.drop i).take (j - i) := by rw [List.drop_take]
open Tryz
theorem jC (s : L8) (i : Nat) (h : i < s.length) : s.drop i = s.getD i 0 :: s.drop (i + 1) := by
 rw [iH h,aS,aE h];rfl
theorem Oj (s : L8) (i : Nat) (ha : (s.take i).all tcB = true) (hs : s.length <= i ∨ (i < s.length /\ tcB (s.getD i 0) = false)) : tokL s = s.take i /\ tokR s = s.drop i := by
 have := XX (r := s.drop i) ha (by
  rcases hs with h | ⟨h1,h2⟩
  ·rw [mE h];rfl
  ·rw [jC s i h1];show (!tcB _) = true;rw [h2];rfl)
 rwa [lR] at this
theorem kq (b : Nat) (s : L8) (hs : s.length <= 100000) : zh prog 155 [pT b] [scB b s] fun v A => v = sT (tokL s) /\ A = [scB b (tokR s)] := by
 refine eNg func155 ntmps155 results155 fun F => ?_
 refine zM (fun q D L S => ∃ i : Nat,i <= s.length /\ (s.take i).all tcB = true /\ q = s.length - i /\ D = [] /\ L = [(3,.int .i64 i),(0,pT b)] /\ S = [scB b s,F])
  ⟨0,oM,sM,rfl,rfl,rfl,rfl⟩ ?_
 rintro q D L S ⟨i,hi,hall,rfl,rfl,rfl,rfl⟩;refine gg ?_
 by_cases hil : i < s.length
 ·have hnx := jF (p := tcB) s i hil;rw [dT (oM : (i : Int) < s.length)];refine gg ?_;refine cR (Qu (s.getD i 0)) ?_
  cases h1 : tcB (s.getD i 0) with
  | true =>
   refine gg ?_;exact zI ⟨i + 1,oM,by rw [hnx,hall,h1];rfl,rfl,rfl,rfl,rfl⟩
  | false =>
   obtain ⟨e1,e2⟩ := Oj s i hall (.inr ⟨hil,h1⟩);rw [e1,e2];refine gg ?_;refine ze [scB b (s.drop i)] ?_;exact ⟨rfl,rfl⟩
 ·obtain ⟨e1,e2⟩ := Oj s i hall (.inl oM);rw [e1,e2];rw [dF (oM : ¬ (i : Int) < s.length)];refine gg ?_;refine ze [scB b (s.drop i)] ?_;exact ⟨rfl,rfl⟩
theorem eH {c : UInt8} {r : L8} (h1 : c ≠ 34) (h2 : inB c = false) : qgo (c :: r) = none := by
 cases r <;> simp [qgo,h1,h2]
theorem qgo_end1 : qgo [92] = none := by simp [qgo]
theorem OS {d : UInt8} {r : L8} (h2 : inB d = false) : qgo (92 :: d :: r) = none := by
 rw [qgo,if_neg dM,if_neg dM,if_pos rfl,if_neg (by rw [h2];simp)]
def qgoV (s : L8) : L8 × Bool × L8 := match qgo s with
 | some x => (x.1,true,x.2)
 | none => ([],false,s)
theorem Jv {s : L8} (h : qgo s = none) : qgoV s = ([],false,s) := by unfold qgoV;rw [h]
theorem eF {s : L8} {x : L8 × L8} (h : qgo s = some x) : qgoV s = (x.1,true,x.2) := by unfold qgoV;rw [h]
theorem YS (b : Nat) (s : L8) (hs : s.length <= 100000) : zh prog 239 [pT b] [scB b s]
  fun v A => v = .tuple #[sT (qgoV s).1,.bool (qgoV s).2.1] /\ A = [scB b (qgoV s).2.2] := by
 refine eNg func239 ntmps239 results239 fun F => ?_
 refine zU ?_
 refine zM (fun q D L S => ∃ (i : Nat) (out : L8) (X : zd) (xa : OA) (xc : Nat),i <= s.length /\ out.length <= i /\ qgo s = (qgo (s.drop i)).map (fun x => (out ++ x.1,x.2)) /\ Own8 5 X xa out.length xc out /\ q = s.length - i /\ D = [] /\
  L = [(5,.int .i64 i),(4,.slice xa out.length xc),(0,pT b)] /\ S = [X,scB b s,F])
  ⟨0,[],[],none,0,oM,sM,sM,zJ,rfl,rfl,rfl,rfl⟩ ?_
 rintro q D L S ⟨i,out,X,xa,xc,hi,hol,hq,hX,rfl,rfl,rfl,rfl⟩;refine gg ?_;refine if_d (fun hc => ?_) (fun hc => ?_)
 ·have hil : i < s.length := oM;have hdr := jC s i hil;have hlt := (s.getD i 0).toNat_lt;rw [hdr] at hq;refine gg ?_
  by_cases e1 : s.getD i 0 = 34
  ·rw [e1,qgo_end,lX] at hq;rw [beq_iff_eq.2 (show ((s.getD i 0).toNat : Int) = 34 by rw [e1];rfl),eF hq,aL];refine gg ?_;refine zF ?_;refine xW (hX.rd mmA) ?_;refine gg ?_;refine zf (vs := [sT out,.bool true]) [scB b (s.drop (i + 1))] ⟨rfl,rfl⟩
  ·rw [beq_eq_false_iff_ne.2 (show ((s.getD i 0).toNat : Int) ≠ 34 from fun h => e1 (UInt8.toNat_inj.1 (oM : (s.getD i 0).toNat = 34)))];refine gg ?_;refine cR (Zb (s.getD i 0)) ?_
   cases h1 : inB (s.getD i 0) with
   | false =>
    rw [eH e1 h1,Option.map_none] at hq;rw [Jv hq];refine gg ?_;refine zf (vs := [sT [],.bool false]) [scB b s] ⟨rfl,rfl⟩
   | true =>
    refine gg ?_
    by_cases e2 : s.getD i 0 = 92
    ·rw [beq_iff_eq.2 (show ((s.getD i 0).toNat : Int) = 92 by rw [e2];rfl)];refine gg ?_;rw [e2] at hq
     by_cases hi2 : i + 1 < s.length
     ·have hdr2 := jC s (i + 1) hi2;rw [hdr2] at hq;rw [beq_eq_false_iff_ne.2 (oM : (i : Int) + 1 ≠ s.length)];refine gg ?_;rw [show ((i : Int) + 1).toNat = i + 1 from oM];refine cR (Zb (s.getD (i + 1) 0)) ?_
      cases h2 : inB (s.getD (i + 1) 0) with
      | false =>
       rw [OS h2,Option.map_none] at hq;rw [Jv hq];refine gg ?_;refine zf (vs := [sT [],.bool false]) [scB b s] ⟨rfl,rfl⟩
      | true =>
       rw [YU h2,Option.map_map] at hq;refine gg ?_;rw [show ((i : Int) + 1).toNat = i + 1 from oM];refine zF ?_;refine xI ([s.getD (i + 1) 0]) dM rfl (rfl) (fun b7 C7 ho7 => ?_);refine gg ?_;refine zF ?_;refine app8 (hX) pkA ((ho7.rd (aA ..)).mem mmA) oM (fun C9 a9 cap9 ho9 => ?_);refine gg ?_;rw [show out.length + 1 = (out ++ [s.getD (i + 1) 0]).length from sM] at ho9 ⊢;exact zI ⟨i + 2,out ++ [s.getD (i + 1) 0],C9,a9,cap9,oM,by simp;omega,by rw [hq];congr 1;funext x;simp,ho9,rfl,rfl,rfl,rfl⟩
     ·have hnil : s.drop (i + 1) = [] := mE oM;rw [hnil,qgo_end1,Option.map_none] at hq;rw [Jv hq];rw [beq_iff_eq.2 (oM : (i : Int) + 1 = s.length)];refine gg ?_;refine zf (vs := [sT [],.bool false]) [scB b s] ⟨rfl,rfl⟩
    ·rw [beq_eq_false_iff_ne.2 (show ((s.getD i 0).toNat : Int) ≠ 92 from fun h => e2 (UInt8.toNat_inj.1 (oM : (s.getD i 0).toNat = 92)))];rw [VE e1 h1 e2,Option.map_map] at hq;refine gg ?_;refine zF ?_;refine xI ([s.getD i 0]) dM rfl (rfl) (fun b7 C7 ho7 => ?_);refine gg ?_;refine zF ?_;refine app8 (hX) pkA ((ho7.rd (aA ..)).mem mmA) oM (fun C9 a9 cap9 ho9 => ?_);refine gg ?_;rw [show out.length + 1 = (out ++ [s.getD i 0]).length from sM] at ho9 ⊢;exact zI ⟨i + 1,out ++ [s.getD i 0],C9,a9,cap9,oM,by simp;omega,by rw [hq];congr 1;funext x;simp,ho9,rfl,rfl,rfl,rfl⟩
 ·obtain rfl : i = s.length := oM;rw [mR] at hq;rw [Jv (by rw [hq];rfl)];refine gg ?_;refine zf (vs := [sT [],.bool false]) [scB b s] ⟨rfl,rfl⟩
abbrev encP (p : Par) : LV := [sT p.n,sT p.v,.bool p.q]
theorem wK (p : Par) : (encP p).length = 3 := rfl
theorem xw (p : Par) : ∀ v ∈ encP p,Value.cell1 v := by
 intro v hv;simp only [encP,aY,aT,or_false] at hv
 rcases hv with rfl | rfl | rfl <;> simp [Value.cell1]
def p0 : Par := ⟨[],[],false⟩
instance iDH_1 : xi prog 210 [(0,1),(1,1),(2,1)] := ⟨kM⟩
theorem bT (b : Nat) (s : L8) (hs : s.length <= 100000) : zh prog 206 [pT b] [scB b s]
  fun v A => ∃ (p : Par) (ok : Bool) (r : L8),v = .tuple #[.agg (encP p).toArray,.bool ok] /\ A = [scB b r] /\ oneE s = (if ok = true then some (p,r) else none) := by
 have l1 := Vk s;have l0 := Vl s;have l2 := jM (tokR s);have l3 := wx (zo (tokR s)) 61;have low0 : (lowL (tokL s) = []) ↔ tokL s = [] := by unfold lowL;exact List.map_eq_nil_iff
 refine eNg func206 ntmps206 results206 fun F => ?_
 refine oAg (encP p0).toArray fun b2 => ?_
 refine cR (kq b s hs) ?_;refine cR (wk (tokL s) oM) ?_;refine oTg [(0,sT (lowL (tokL s)))] (encP ⟨lowL (tokL s),[],false⟩).toArray ?_;refine oA (encP p0).toArray fun b4 => ?_
 refine oSg (encP ⟨lowL (tokL s),[],false⟩) rfl (xw _) ?_;refine cR (kh b (tokR s) oM) ?_
 by_cases ha : tokL s = []
 ·have hn : lowL (tokL s) = [] := low0.2 ha;have l4 := jM (zo (tokR s));rw [hn];refine gg ?_
  (try rw [bne_self_eq_false])
  refine gg ?_;refine cR (kh b (zo (tokR s)) oM) ?_;refine cR (kq b (zo (zo (tokR s))) oM) ?_;refine gM ?_;refine cdLg [[0],[1],[2],[3],[4],[5],[6],[7,0,4],[8,0]] ?_;refine qO fun K hK => ?_
  refine zz (vs := encP ⟨[],tokL (zo (zo (tokR s))),false⟩) lkA rfl ?_;refine hK _ _ ?_;clear hK K;refine gg ?_;refine zG ?_;refine xo (vs := encP ⟨[],tokL (zo (zo (tokR s))),false⟩) rfl (xw _) upA (by rfl) ?_;refine pC ?_;refine zf (vs := [.agg (encP ⟨[],tokL (zo (zo (tokR s))),false⟩).toArray,.bool false]) [scB b (tokR (zo (zo (tokR s))))] ⟨⟨[],tokL (zo (zo (tokR s))),false⟩,false,(tokR (zo (zo (tokR s)))),rfl,rfl,by rw [eV ha];rfl⟩ (hr := hrA)
 ·have hn : (lowL (tokL s) != []) = true := bne_iff_ne.2 (fun e => ha (low0.1 e));refine gg ?_;rw [hn];refine gg ?_
  (try rw [show Value.int .u8 61 = b8 61 from rfl])
  refine cR (vJ b (zo (tokR s)) 61 oM) ?_;have l4 := jM (xj (zo (tokR s)) 61).2
  cases h1 : (xj (zo (tokR s)) 61).1 with
  | false =>
   refine gg ?_;refine cR (kh b (xj (zo (tokR s)) 61).2 oM) ?_;refine cR (kq b (zo (xj (zo (tokR s)) 61).2) oM) ?_;refine gM ?_;refine cdLg [[0],[1],[2],[3],[4],[5],[6],[7,0,4],[8,0]] ?_;refine qO fun K hK => ?_
   refine zz (vs := encP ⟨lowL (tokL s),tokL (zo (xj (zo (tokR s)) 61).2),false⟩) lkA rfl ?_;refine hK _ _ ?_;clear hK K;refine gg ?_;refine zG ?_;refine xo (vs := encP ⟨lowL (tokL s),tokL (zo (xj (zo (tokR s)) 61).2),false⟩) rfl (xw _) upA (by rfl) ?_;refine pC ?_;refine zf (vs := [.agg (encP ⟨lowL (tokL s),tokL (zo (xj (zo (tokR s)) 61).2),false⟩).toArray,.bool false]) [scB b (tokR (zo (xj (zo (tokR s)) 61).2))] ⟨⟨lowL (tokL s),tokL (zo (xj (zo (tokR s)) 61).2),false⟩,false,(tokR (zo (xj (zo (tokR s)) 61).2)),rfl,rfl,by rw [Uc h1];rfl⟩ (hr := hrA)
  | true =>
   have hy := XI h1;obtain ⟨y,hy2⟩ : ∃ y,(xj (zo (tokR s)) 61).2 = y := ⟨_,rfl⟩;rw [hy2] at hy l4 l3 ⊢;refine gg ?_;refine cR (kh b y oM) ?_
   (try rw [show Value.int .u8 34 = b8 34 from rfl])
   refine cR (vJ b (zo y) 34 oM) ?_
   cases h2 : (xj (zo y) 34).1 with
   | true =>
    have hz := XI h2;have l5 := wx (zo y) 34;obtain ⟨z,hz2⟩ : ∃ z,(xj (zo y) 34).2 = z := ⟨_,rfl⟩;rw [hz2] at hz l5 ⊢;refine gg ?_;refine gM ?_;refine cR (YS b z oM) ?_;refine gM ?_;refine oLg (encP ⟨lowL (tokL s),(qgoV z).1,true⟩) rfl ?_;refine oSg (encP ⟨lowL (tokL s),(qgoV z).1,true⟩) rfl (xw _) ?_;refine zf (vs := [.agg (encP ⟨lowL (tokL s),(qgoV z).1,true⟩).toArray,.bool (qgoV z).2.1]) [scB b (qgoV z).2.2] ⟨⟨lowL (tokL s),(qgoV z).1,true⟩,(qgoV z).2.1,(qgoV z).2.2,rfl,rfl,?_⟩ (hr := hrA);rw [bV ha hy hz]
    cases hq : qgo z with
    | none => rw [Jv hq];rfl
    | some x => rw [eF hq];rfl
   | false =>
    have hs2 := dE _ _ h2;rw [hs2];refine gg ?_;refine cR (kq b (zo y) oM) ?_;refine gM ?_;have ho := one_t ha hy h2
    by_cases hv : tokL (zo y) = []
    ·rw [if_pos hv] at ho;rw [hv];refine cdLg [[0],[1],[2],[3],[4],[5],[6],[7,0,4],[8,0]] ?_;refine qO fun K hK => ?_
     refine zz (vs := encP ⟨lowL (tokL s),[],false⟩) lkA rfl ?_;refine hK _ _ ?_;clear hK K;refine gg ?_
     (try rw [bne_self_eq_false]);(try refine gg ?_)
     refine zG ?_;refine xo (vs := encP ⟨lowL (tokL s),[],false⟩) rfl (xw _) upA (by rfl) ?_;refine pC ?_;refine zf (vs := [.agg (encP ⟨lowL (tokL s),[],false⟩).toArray,.bool false]) [scB b (tokR (zo y))] ⟨⟨lowL (tokL s),[],false⟩,false,(tokR (zo y)),rfl,rfl,by rw [ho];rfl⟩ (hr := hrA)
    ·rw [if_neg hv] at ho;have hv2 : (tokL (zo y) != []) = true := bne_iff_ne.2 hv;refine cdLg [[0],[1],[2],[3],[4],[5],[6],[7,0,4],[8,0]] ?_;refine qO fun K hK => ?_
     refine zz (vs := encP ⟨lowL (tokL s),tokL (zo y),false⟩) lkA rfl ?_;refine hK _ _ ?_;clear hK K;refine gg ?_;rw [hv2];refine gg ?_;refine zG ?_;refine xo (vs := encP ⟨lowL (tokL s),tokL (zo y),false⟩) rfl (xw _) upA (by rfl) ?_;refine pC ?_;refine zf (vs := [.agg (encP ⟨lowL (tokL s),tokL (zo y),false⟩).toArray,.bool true]) [scB b (tokR (zo y))] ⟨⟨lowL (tokL s),tokL (zo y),false⟩,true,(tokR (zo y)),rfl,rfl,by rw [ho];rfl⟩ (hr := hrA)
abbrev OwnR (X : zd) (a : OA) (k : Nat) (l : List Par) : Prop := Ost.Own 3 137 X a l.length k (l.flatMap encP)
abbrev OwnP (X : zd) (a : OA) (k : Nat) (l : List Par) : Prop := Ost.Own 3 210 X a l.length k (l.flatMap encP)
abbrev rpB (b : Nat) (p : Par) : zd := [(b,.cells (encP p).toArray 137 (0,0))]
abbrev dpB (b : Nat) (p : Par) : zd := [(b,.cells (encP p).toArray 210 (0,0))]
instance tpRPar : xi prog 137 [(0,1),(1,1),(2,1)] := ⟨kM⟩
instance teqRPar : TEq prog 137 [.s,.s,.b] := ⟨kM⟩
def WD (l : List Par) (i : Nat) : Bool := (l.take i).any fun q => (l.getD i p0).n == q.n
def cntE (l : List Par) : Int := if 16 < l.length then 3 else if (iC l.length).any (WD l) = true then 7 else 0
theorem QE (f : Nat -> Bool) (i : Nat) : (iC (i + 1)).any f = ((iC i).any f || f i) := by
 rw [List.range_succ,List.any_append];simp
theorem KR (f : Nat -> Bool) {i n : Nat} (h : i < n) (hf : f i = true) : (iC n).any f = true := List.any_eq_true.2 ⟨i,List.mem_range.2 h,hf⟩
theorem Oq (l : List Par) (f : Par -> Bool) (j : Nat) (h : j < l.length) : (l.take (j + 1)).any f = ((l.take j).any f || f (l.getD j p0)) := by
 rw [lG,List.any_append,aS,aE h];simp
theorem qX (l : List Par) (i : Nat) (h : i < l.length) : l[i]? = some (l.getD i p0) := by
 rw [aS,aE h];rfl
theorem Oo (l : List Par) {i j : Nat} (hj : j < i) (hi : i <= l.length) : (l.take i)[j]? = some (l.getD j p0) := by
 rw [lY hj];exact qX l j oM
theorem gr {l : List Par} {i j : Nat} (hj : j < i) (hi : i <= l.length) (hb : ((l.getD i p0).n == (l.getD j p0).n) = true) : WD l i = true :=
 List.any_eq_true.2 ⟨_,List.mem_of_getElem? (Oo l hj hi),hb⟩
end Go.Proofs.YtebikhhoppiapaaGreatDoor
namespace Go.Proofs.YtebikhhoppiapaaGreatDoor
open Go Go.Ost
def hdr : L8 := [68,105,103,101,115,116,32]
def scheme : L8 := [100,105,103,101,115,116]
def valP (p : Par) : L8 := if p.q = true then (quoE p.v).1 else p.v
def Wu (p : Par) : Bool := if p.q = true then (quoE p.v).2 else tokB p.v
def wU (p : Par) : L8 := p.n ++ [61] ++ valP p
def qT (p : Par) : Bool := Wu p && (tokB p.n && (lowL p.n == p.n))
def xV (l : List Par) : L8 := (l.take 1).flatMap wU ++ (l.drop 1).flatMap (fun p => [44,32] ++ wU p)
def jB (l : List Par) : L8 × Int :=
 if (decide (0 < l.length) && l.all qT) = false then ([],4) else if 4096 < (hdr ++ xV l).length then ([],3) else
 if cntE l ≠ 0 then ([],cntE l) else (hdr ++ xV l,0)
theorem Wm (l : List Par) (i : Nat) (h : i < l.length) : xV (l.take (i + 1)) = xV (l.take i) ++ ((if 0 < i then [44,32] else []) ++ wU (l.getD i p0)) := by
 have htk : l.take (i + 1) = l.take i ++ [l.getD i p0] := by rw [lG,qX l i h];rfl
 rw [htk];unfold xV
 by_cases h0 : 0 < i
 ·have hl : (l.take i).length = i := by rw [aX];omega
  rw [if_pos h0,List.take_append_of_le_length oM,List.drop_append_of_le_length oM,lI]
  simp
 ·obtain rfl : i = 0 := oM
  simp
theorem eG (v : L8) : (quoE v).1.length <= 2 * v.length + 2 := by
 unfold quoE
 split
 ·show (quo v).length <= _
  unfold quo;have := Xn v;rw [aH,aB,aI];omega
 ·simp
theorem Yb (p : Par) : (valP p).length <= 2 * p.v.length + 2 := by
 unfold valP
 split
 ·exact eG p.v
 ·omega
theorem On (p : Par) : (wU p).length <= p.n.length + 2 * p.v.length + 3 := by
 unfold wU;have := Yb p;rw [aB,aB,aI];omega
theorem Iq (l : List Par) (h : ∀ p ∈ l,p.n.length + p.v.length <= 5000) : (xV l).length <= l.length * 12000 := by
 have key : ∀ (l : List Par) (f : Par -> L8),(∀ p ∈ l,(f p).length <= 12000) -> (l.flatMap f).length <= l.length * 12000 := by
  intro l f
  induction l with
  | nil => intro _;simp
  | cons p l ih =>
   intro h;rw [iU,aB,aH];have h1 := h p (aA ..);have h2 := ih fun q hq => h q (aK _ hq)
   rw [lO];omega
 have htx : ∀ p ∈ l,(wU p).length <= 11000 := fun p hp => by
  have := On p;have := h p hp;omega
 have a1 := key (l.take 1) wU fun p hp => mN (htx p (List.mem_of_mem_take hp)) dM
 have a2 := key (l.drop 1) (fun p => [44,32] ++ wU p) fun p hp => by
  have := htx p (List.mem_of_mem_drop hp);rw [aB]
  show 2 + _ <= _
  omega
 unfold xV;rw [aB];rw [aX] at a1;rw [aV] at a2;have : min 1 l.length * 12000 + (l.length - 1) * 12000 = (min 1 l.length + (l.length - 1)) * 12000 := by rw [lO]
 have h3 : min 1 l.length + (l.length - 1) = l.length := oM;rw [h3] at this;omega
theorem gY {f : Par -> Bool} (l : List Par) (j : Nat) (h : j < l.length) : (l.take (j + 1)).all f = ((l.take j).all f && f (l.getD j p0)) := by
 rw [lG,List.all_append,aS,aE h];simp
theorem Ob {f : Par -> Bool} {l : List Par} {j : Nat} (h : j < l.length) (hf : f (l.getD j p0) = false) : l.all f = false := by
 rw [List.all_eq_false];refine ⟨_,List.mem_of_getElem? (qX l j h),?_⟩;rw [hf];simp
def ql (s : L8) : L8 := (xj (tokR s) 32).2.dropWhile (fun c => c == 32)
def xC (s : L8) : List Par × Int :=
 if 4096 < s.length then ([],3) else
 if lowL (tokL s) ≠ scheme ∨ (xj (tokR s) 32).1 = false then ([],4) else
 if (je (ql s)).2 = false then ([],4) else
 if cntE (je (ql s)).1 ≠ 0 then ([],cntE (je (ql s)).1) else ((je (ql s)).1,0)
theorem wA (s : L8) : (ql s).length <= s.length := by
 have h1 := (List.dropWhile_sublist (fun c : UInt8 => c == 32) (l := (xj (tokR s) 32).2)).length_le;have h2 := wx (tokR s) 32;have h3 := Vk s;unfold ql;omega
def itP (p : Par) : It := ⟨p,p.n,[],[32],[],[]⟩
theorem Uz {p : Par} (h : qT p = true) : (itP p).ok := by
 unfold qT at h;rw [aM,aM,beq_iff_eq] at h;obtain ⟨h1,h2,h3⟩ := h;refine ⟨?_,h2,h3,rfl,rfl,rfl,rfl⟩
 show okP p = true
 unfold okP;rw [h2,h3];unfold Wu at h1
 cases hq : p.q with
 | true =>
  rw [hq,if_pos rfl] at h1;unfold quoE at h1
  split at h1
  ·rename_i ha;rw [if_pos rfl,ha];simp
  ·cases h1
 | false =>
  rw [hq,if_neg sM] at h1;rw [if_neg sM,h1];simp
theorem Iz {p : Par} (h : qT p = true) : valP p = valI p := by
 unfold qT at h;rw [aM] at h;unfold valP valI
 cases hq : p.q with
 | true =>
  have h1 := h.1;unfold Wu at h1;rw [hq,if_pos rfl] at h1;unfold quoE at h1 ⊢
  split at h1
  ·rename_i ha;rw [if_pos rfl,if_pos rfl,if_pos ha]
  ·cases h1
 | false => rw [if_neg sM,if_neg sM]
theorem join_it : ∀ (l : List Par) (p : Par),(∀ q ∈ p :: l,qT q = true) -> xV (p :: l) = ZS (itP p) ++ ZZ (l.map itP) := by
 intro l p h
 have key : ∀ l : List Par,(∀ q ∈ l,qT q = true) -> l.flatMap (fun p => [44,32] ++ wU p) = ZZ (l.map itP) := by
  intro l
  induction l with
  | nil => intro _;rfl
  | cons q l ih =>
   intro h;rw [iU,ih fun x hx => h x (aK _ hx),iB,ZZ];unfold wU;rw [Iz (h q (aA ..))]
   simp [itP,ZS]
 show List.flatMap wU [p] ++ l.flatMap _ = _
 rw [key l fun q hq => h q (aK _ hq)];have hp := Iz (h p (aA ..))
 simp [wU,hp,itP,ZS]
theorem YX {l : List Par} (h : (jB l).2 = 0) : xC (jB l).1 = (l,0) := by
 unfold jB at h ⊢
 split at h
 ·cases h
 rename_i h1
 split at h
 ·cases h
 rename_i h2
 split at h
 ·rename_i h3;exact (h3 h).elim
 rename_i h3
 rw [if_neg h1,if_neg h2,if_neg h3]
 show xC (hdr ++ xV l) = _
 have hc : cntE l = 0 := by simpa using h3
 have h1' : (decide (0 < l.length) && l.all qT) = true := by simpa using h1
 rw [aM,decide_eq_true_eq,List.all_eq_true] at h1';obtain ⟨hl,hg⟩ := h1'
 cases l with
 | nil => simp at hl
 | cons p l =>
  have hj := join_it l p hg
  have hok : ∀ y ∈ l.map itP,y.ok := fun y hy => by
   obtain ⟨q,hq,rfl⟩ := List.mem_map.1 hy;exact Uz (hg q (aK _ hq))
  have hb := Wj (l.map itP) (itP p) (Uz (hg p (aA ..))) hok;rw [<- hj] at hb
  have hmm : (itP p).p :: (l.map itP).map It.p = p :: l := by
   rw [List.map_map]
   show p :: l.map (fun x => x) = _
   rw [List.map_id']
  rw [hmm] at hb;have ht := XX (a := [68,105,103,101,115,116]) (r := 32 :: xV (p :: l)) dM (by show (!tcB 32) = true;decide);have e0 : hdr ++ xV (p :: l) = [68,105,103,101,115,116] ++ 32 :: xV (p :: l) := rfl
  have hr : ql (hdr ++ xV (p :: l)) = xV (p :: l) := by
   unfold ql;rw [e0,ht.2,jA];have hn := (Vj (Uz (hg p (aA ..))).nm);rw [hj];unfold ZS;rw [aN]
   cases hnm : (itP p).nm with
   | nil => exact (hn.2 hnm).elim
   | cons c r =>
    rw [hnm,mK,aM] at hn;have hc32 : c ≠ 32 := fun e => by rw [e] at hn;exact absurd hn.1.1 dM
    rw [aC,lQ,if_neg (by simpa using hc32)]
  unfold xC;rw [if_neg h2,if_neg (by rw [e0,ht.1,ht.2,jA];simp;decide),hr,hb];simp only;rw [if_neg sM,if_neg (by rw [hc];simp)]
def zA : L8 := [114,101,97,108,109]
def zv : L8 := [110,111,110,99,101]
def zt : L8 := [111,112,97,113,117,101]
def nAlg : L8 := [97,108,103,111,114,105,116,104,109]
def zH : L8 := [115,116,97,108,101]
def nQop : L8 := [113,111,112]
def jb : L8 := [97,117,116,104]
def qn : L8 := [116,114,117,101]
def Id : L8 := [102,97,108,115,101]
def nSum : L8 := [83,72,65,45,50,53,54]
def nSumL : L8 := [115,104,97,45,50,53,54]
def xS : L8 := [117,115,101,114,110,97,109,101]
def nUri : L8 := [117,114,105]
def nNc : L8 := [110,99]
def zN : L8 := [99,110,111,110,99,101]
def zR : L8 := [114,101,115,112,111,110,115,101]
def sizB (s : L8) : Bool := s != [] && decide ((s.length : Int) <= 64)
structure Ch where
 r : L8
 n : L8
 o : L8
 st : Bool
abbrev encC (c : Ch) : LV := [sT c.r,sT c.n,sT c.o,.bool c.st]
def c0 : Ch := ⟨[],[],[],false⟩
def opqP (o : L8) : List Par := if o = [] then [] else [⟨zt,o,true⟩]
def staP (b : Bool) : List Par := if b = true then [⟨zH,qn,false⟩] else []
def yp (c : Ch) : List Par := [⟨zA,c.r,true⟩,⟨zv,c.n,true⟩] ++ opqP c.o ++ [⟨nAlg,nSum,false⟩] ++ staP c.st ++ [⟨nQop,jb,true⟩]
def qA (c : Ch) : L8 × Int := if sizB c.n = false then ([],4) else jB (yp c)
def hasB (l : List Par) (n : L8) : Bool := (l.find? fun p => p.n == n).isSome
def gotP (l : List Par) (n : L8) : Par := (l.find? fun p => p.n == n).getD p0
theorem got_no {l : List Par} {n : L8} (h : hasB l n = false) : gotP l n = p0 := by
 unfold hasB at h;unfold gotP
 cases hf : l.find? fun p => p.n == n with
 | none => rfl
 | some p => rw [hf] at h;cases h
abbrev Fl := Bool × Bool
def getF (l : List Par) (n : L8) (q : Bool) (f : Fl) : Fl := (f.1 || !hasB l n,f.2 || (gotP l n).q != q)
def wo (b : Bool) (f : Fl) : Fl := (f.1,f.2 || !b)
def mayF (l : List Par) (n : L8) (q : Bool) (f : Fl) : Fl := if hasB l n = true then getF l n q f else f
def comF (l : List Par) (q : Bool) (f : Fl) : Fl := wo (lowL (gotP l nAlg).v == lowL nSum) (getF l nAlg false (wo ((gotP l nQop).v == jb) (getF l nQop q f)))
def endF (f : Fl) : Int := if f.1 = true then 6 else if f.2 = true then 4 else 0
def JG (l : List Par) (must q : List L8) : Bool × Bool :=
 (must.all (hasB l),(must ++ [zt,zH]).all fun n => !(hasB l n && (gotP l n).q != q.contains n))
def rpcB (l : List Par) : Bool :=
 (hasB l zH && ((gotP l zH).v != qn && (gotP l zH).v != Id)) || (!(JG l [zA,zv,nQop,nAlg] [zA,zv,nQop,zt]).2 || ((gotP l nQop).v != jb || (lowL (gotP l nAlg).v != nSumL || !sizB (gotP l zv).v)))
def rpcL (l : List Par) : Ch × Int :=
 if (JG l [zA,zv,nQop,nAlg] [zA,zv,nQop,zt]).1 = false then (c0,6) else if rpcB l = true then (c0,4) else
 (⟨(gotP l zA).v,(gotP l zv).v,(gotP l zt).v,(gotP l zH).v == qn⟩,0)
theorem fine_fst (b : Bool) (f : Fl) : (wo b f).1 = f.1 := rfl
theorem get_fst (l : List Par) (n : L8) (q : Bool) (f : Fl) : (getF l n q f).1 = (f.1 || !hasB l n) := rfl
theorem may_fst (l : List Par) (n : L8) (q : Bool) (f : Fl) : (mayF l n q f).1 = f.1 := by
 unfold mayF
 split
 ·rename_i h;rw [get_fst,h];simp
 ·rfl
open Go.Sha
def dv (c : UInt8) : Int := Lib.indexByte xB c
def uhF : L8 -> Option L8
 | [] => some []
 | [_] => none
 | a :: b :: r => if dv a < 0 ∨ dv b < 0 then none else (uhF r).map fun l => aG (16 * (dv a).toNat + (dv b).toNat) :: l
def uhE (s : L8) : L8 × Int := if s.length % 2 ≠ 0 then ([],2) else match uhF s with
 | some l => (l,0)
 | none => ([],5)
theorem XS (c : UInt8) : -1 <= dv c /\ dv c < 16 := by
 have key : ∀ l : L8,-1 <= Lib.indexByte l c /\ Lib.indexByte l c < l.length := by
  intro l
  induction l with
  | nil => exact ⟨by show (-1 : Int) <= -1;decide,by show (-1 : Int) < 0;decide⟩
  | cons b l ih =>
   have e : Lib.indexByte (b :: l) c = if (b == c) = true then (0 : Int) else if (Lib.indexByte l c == -1) = true then -1 else Lib.indexByte l c + 1 := rfl;rw [e,aH]
   split
   ·omega
   ·split
    ·omega
    ·rename_i h;simp at h;omega
 exact key xB
theorem dd : ∀ (k : Nat) (s : L8),s.length <= k -> ∀ l,uhF s = some l -> 2 * l.length = s.length
 | _,[],_,l,h => by simp [uhF] at h;subst h;rfl
 | _,[a],_,l,h => by simp [uhF] at h
 | 0,a :: b :: r,hk,l,h => by simp at hk
 | k + 1,a :: b :: r,hk,l,h => by
  simp only [uhF] at h
  split at h
  ·cases h
  ·cases hr : uhF r with
   | none => rw [hr] at h;cases h
   | some x =>
    rw [hr] at h;cases h
    have := dd k r (by simp only [aH] at hk;omega) x hr;simp only [aH];omega
theorem uh_len {s : L8} (h : (uhE s).2 = 0) : 2 * (uhE s).1.length = s.length := by
 unfold uhE at h ⊢
 split at h
 ·cases h
 ·rename_i hm
  rw [if_neg hm]
  cases hu : uhF s with
  | none => rw [hu] at h;cases h
  | some l => exact dd _ _ (aR _) l hu
theorem uh_le (s : L8) : 2 * (uhE s).1.length <= s.length := by
 by_cases h : (uhE s).2 = 0
 ·rw [uh_len h];exact aR _
 ·unfold uhE at h ⊢
  split
  ·simp
  ·rename_i hm
   rw [if_neg hm] at h
   cases hu : uhF s with
   | none => simp
   | some l => rw [hu] at h;exact (h rfl).elim
def numW (l : L8) : W := l.foldl (fun n b => (n <<< 8) ||| lZ 32 b.toNat) 0
def numE (s : L8) : W × Bool := (numW (uhE s).1,decide ((uhE s).2 = 0) && decide ((s.length : Int) = 8))
structure An where
 u : L8
 r : L8
 n : L8
 uri : L8
 cn : L8
 o : L8
 nc : W
 pf : L8
def a0 : An := ⟨[],[],[],[],[],[],0,[]⟩
abbrev encA (a : An) (pa : OA) (pk : Nat) : LV := [sT a.u,sT a.r,sT a.n,sT a.uri,sT a.cn,sT a.o,b32 a.nc,.slice pa a.pf.length pk]
def Zz (l : List Par) : Bool := decide ((uhE (gotP l zR).v).2 = 0) && decide (((uhE (gotP l zR).v).1.length : Int) = 32)
def paF (l : List Par) : Fl :=
 wo (Zz l) (getF l zR true (wo (numE (gotP l nNc).v).2 (getF l nNc false (comF l false (mayF l zt true (wo (sizB (gotP l zN).v) (getF l zN true (getF l nUri true (wo (sizB (gotP l zv).v) (getF l zv true (getF l zA true (getF l xS true (false,false)))))))))))))
def anL (l : List Par) : An := ⟨(gotP l xS).v,(gotP l zA).v,(gotP l zv).v,(gotP l nUri).v,(gotP l zN).v,(gotP l zt).v,(numE (gotP l nNc).v).1,(uhE (gotP l zR).v).1⟩
def paL (l : List Par) : An × Int := if endF (paF l) ≠ 0 then (a0,endF (paF l)) else (anL l,0)
def paE (s : L8) : An × Int := if (xC s).2 ≠ 0 then (a0,(xC s).2) else paL (xC s).1
def kO : List L8 := [xS,zA,zv,nUri,nQop,nNc,zN,zR,nAlg]
def quoA : List L8 := [xS,zA,zv,nUri,zN,zR,zt]
def vu (l : List Par) : List Par := l.filter fun p => p.n != zH
def rpaB (l : List Par) : Bool :=
 !(JG l kO quoA).2 || ((gotP l nQop).v != jb || (lowL (gotP l nAlg).v != nSumL || ((uhE (gotP l nNc).v).2 != 0 || (((uhE (gotP l nNc).v).1.length : Int) != 4 || ((uhE (gotP l zR).v).2 != 0 || (((uhE (gotP l zR).v).1.length : Int) != 32 || (!sizB (gotP l zv).v || !sizB (gotP l zN).v)))))))
def rpaL (l : List Par) : An × Int := if (JG l kO quoA).1 = false then (a0,6) else if rpaB l = true then (a0,4) else (anL l,0)
def rpaE (s : L8) : An × Int := if (xC s).2 ≠ 0 then (a0,(xC s).2) else rpaL (vu (xC s).1)
theorem zQ (l : List Par) {n : L8} (h : n ≠ zH) : hasB (vu l) n = hasB l n /\ gotP (vu l) n = gotP l n := by
 have e : (vu l).find? (fun p => p.n == n) = l.find? (fun p => p.n == n) := by
  unfold vu
  induction l with
  | nil => rfl
  | cons p l ih =>
   rw [List.filter_cons]
   split
   ·rw [List.find?_cons,List.find?_cons,ih]
   ·rename_i hp
    have hps : p.n = zH := by simpa using hp
    rw [ih,List.find?_cons];have : (p.n == n) = false := beq_eq_false_iff_ne.2 (by rw [hps];exact h.symm);rw [this]
 unfold hasB gotP;rw [e];exact ⟨rfl,rfl⟩
theorem keep_stale (l : List Par) : hasB (vu l) zH = false := by
 unfold hasB vu;rw [Option.isSome_eq_false_iff,Option.isNone_iff_eq_none,List.find?_eq_none];intro p hp;have := (List.mem_filter.1 hp).2
 simpa using this
theorem pa_lost (l : List Par) : (paF l).1 = !(kO.all (hasB l)) := by
 unfold paF comF kO;simp only [fine_fst,get_fst,may_fst,mK,List.all_nil];generalize hasB l xS = a1;generalize hasB l zA = a2;generalize hasB l zv = a3;generalize hasB l nUri = a4;generalize hasB l nQop = a5;generalize hasB l nNc = a6;generalize hasB l zN = a7;generalize hasB l zR = a8;generalize hasB l nAlg = a9
 cases a1 <;> simp <;> cases a2 <;> simp <;> cases a3 <;> simp <;> cases a4 <;> simp <;> cases a5 <;> simp <;> cases a6 <;> simp <;> cases a7 <;> simp <;> cases a8 <;> simp <;> cases a9 <;> simp
theorem num_ok (v : L8) : (numE v).2 = !((uhE v).2 != 0 || ((uhE v).1.length : Int) != 4) := by
 unfold numE
 by_cases h : (uhE v).2 = 0
 ·have hl := uh_len h;rw [h]
  by_cases h8 : (v.length : Int) = 8
  ·have : ((uhE v).1.length : Int) = 4 := oM;rw [this,dT h8];rfl
  ·have h4 : ((uhE v).1.length : Int) ≠ 4 := oM;rw [dF h8,bne_iff_ne.2 h4];rfl
 ·rw [dF h,bne_iff_ne.2 h];rfl
theorem proof_ok (l : List Par) : Zz l = !((uhE (gotP l zR).v).2 != 0 || ((uhE (gotP l zR).v).1.length : Int) != 32) := by
 unfold Zz;generalize (uhE (gotP l zR).v).2 = a;generalize ((uhE (gotP l zR).v).1.length : Int) = b
 by_cases h1 : a = 0 <;> by_cases h2 : b = 32 <;> simp [h1,h2]
theorem pa_same (l : List Par) : paL l = rpaL (vu l) := by
 have n1 : xS ≠ zH := dM;have n2 : zA ≠ zH := dM;have n3 : zv ≠ zH := dM;have n4 : nUri ≠ zH := dM;have n5 : nQop ≠ zH := dM;have n6 : nNc ≠ zH := dM;have n7 : zN ≠ zH := dM;have n8 : zR ≠ zH := dM;have n9 : nAlg ≠ zH := dM;have n10 : zt ≠ zH := dM;have hl := pa_lost l
 have hlk : (JG (vu l) kO quoA).1 = kO.all (hasB l) := by
  show kO.all (hasB (vu l)) = _
  unfold kO;simp only [mK,List.all_nil,(zQ l n1).1,(zQ l n2).1,(zQ l n3).1,(zQ l n4).1,(zQ l n5).1,(zQ l n6).1,(zQ l n7).1,(zQ l n8).1,(zQ l n9).1]
 unfold paL rpaL
 cases hall : kO.all (hasB l) with
 | false =>
  rw [hall] at hl hlk;rw [if_pos hlk];have he : endF (paF l) = 6 := by unfold endF;rw [hl];rfl
  rw [he,if_pos dM]
 | true =>
  rw [hall] at hl hlk;rw [hlk,if_neg (dM : ¬ (true = false))]
  have han : anL (vu l) = anL l := by
   unfold anL;rw [(zQ l n1).2,(zQ l n2).2,(zQ l n3).2,(zQ l n4).2,(zQ l n6).2,(zQ l n7).2,(zQ l n8).2,(zQ l n10).2]
  have hbad : (paF l).2 = rpaB (vu l) := by
   unfold kO at hall;simp only [mK,List.all_nil,Bool.and_true,aM] at hall;obtain ⟨h1,h2,h3,h4,h5,h6,h7,h8,h9⟩ := hall;have hsum : lowL nSum = nSumL := dM;have c1 : quoA.contains xS = true := dM;have c2 : quoA.contains zA = true := dM;have c3 : quoA.contains zv = true := dM;have c4 : quoA.contains nUri = true := dM;have c5 : quoA.contains nQop = false := dM;have c6 : quoA.contains nNc = false := dM;have c7 : quoA.contains zN = true := dM;have c8 : quoA.contains zR = true := dM;have c9 : quoA.contains nAlg = false := dM;have c10 : quoA.contains zt = true := dM;have hn3 : ((gotP l nQop).v != jb) = !((gotP l nQop).v == jb) := rfl;have hn4 : (lowL (gotP l nAlg).v != nSumL) = !(lowL (gotP l nAlg).v == nSumL) := rfl;have hx1 := num_ok (gotP l nNc).v;have hx2 := proof_ok l;unfold rpaB JG kO paF comF mayF getF wo
   simp only [aC,aD,mK,List.all_nil,c1,c2,c3,c4,c5,c6,c7,c8,c9,c10,keep_stale,(zQ l n1).1,(zQ l n2).1,(zQ l n3).1,(zQ l n4).1,(zQ l n5).1,(zQ l n6).1,(zQ l n7).1,(zQ l n8).1,(zQ l n9).1,(zQ l n10).1,
    (zQ l n1).2,(zQ l n2).2,(zQ l n3).2,(zQ l n4).2,(zQ l n5).2,(zQ l n6).2,(zQ l n7).2,(zQ l n8).2,(zQ l n9).2,(zQ l n10).2,h1,h2,h3,h4,h5,h6,h7,h8,h9,hsum,hx1,hx2,hn3,hn4]
   generalize ((uhE (gotP l nNc).v).2 != 0) = y1;generalize (((uhE (gotP l nNc).v).1.length : Int) != 4) = y2;generalize ((uhE (gotP l zR).v).2 != 0) = y3;generalize (((uhE (gotP l zR).v).1.length : Int) != 32) = y4;generalize sizB (gotP l zv).v = x1;generalize sizB (gotP l zN).v = x2;generalize ((gotP l nQop).v == jb) = x3;generalize (lowL (gotP l nAlg).v == nSumL) = x4;generalize (gotP l xS).q = q1;generalize (gotP l zA).q = q2;generalize (gotP l zv).q = q3;generalize (gotP l nUri).q = q4;generalize (gotP l nQop).q = q5;generalize (gotP l nNc).q = q6;generalize (gotP l zN).q = q7;generalize (gotP l zR).q = q8;generalize (gotP l nAlg).q = q9;generalize (gotP l zt).q = q10
   cases hasB l zt <;> simp only [if_true,if_false,reduceIte,Bool.false_eq_true,beq_self_eq_true,mS,Bool.true_or,Bool.or_true,Bool.or_false,mM,Bool.false_and,Bool.not_true,Bool.not_false,Bool.and_true] <;>
    cases q1 <;> (try simp) <;> cases q2 <;> (try simp) <;> cases q3 <;> (try simp) <;> cases q4 <;> (try simp) <;> cases q5 <;> (try simp) <;> cases q6 <;> (try simp) <;> cases q7 <;> (try simp) <;> cases q8 <;> (try simp) <;> cases q9 <;> (try simp) <;> cases x1 <;> (try simp) <;> cases x2 <;> (try simp) <;> cases x3 <;> (try simp) <;> cases x4 <;> (try simp) <;> cases y1 <;> (try simp) <;> cases y2 <;> (try simp) <;> cases y3 <;> (try simp) <;> cases y4 <;> (try simp) <;> cases q10 <;> (try simp)
  unfold endF;rw [hl,hbad,han]
  cases rpaB (vu l) with
  | true => simp
  | false => simp
def wQ (a : An) : List Par := [(⟨xS,a.u,true⟩ : Par),⟨zA,a.r,true⟩,⟨zv,a.n,true⟩,⟨nUri,a.uri,true⟩,⟨nQop,jb,false⟩,⟨nNc,hex (xH a.nc),false⟩,⟨zN,a.cn,true⟩,⟨zR,hex a.pf,true⟩] ++ opqP a.o ++ [⟨nAlg,nSum,false⟩]
def anOk (a : An) : Bool := sizB a.n && (sizB a.cn && decide ((a.pf.length : Int) = 32))
def vZ (a : An) : L8 × Int := if anOk a = false then ([],4) else jB (wQ a)
theorem an_len (a : An) : (wQ a).length <= 20 := by
 unfold wQ opqP;simp only [aB,aH,aQ]
 split <;> simp
theorem an_bound {a : An} (h1 : a.u.length <= 4000) (h2 : a.r.length <= 4000) (h3 : a.n.length <= 4000) (h4 : a.uri.length <= 4000) (h5 : a.cn.length <= 4000) (h6 : a.o.length <= 4000) (h7 : a.pf.length <= 1000) : ∀ p ∈ wQ a,p.n.length + p.v.length <= 5000 := by
 intro p hp;unfold wQ opqP at hp;simp only [List.mem_append,aY,aT,or_false] at hp
 rcases hp with ((rfl | rfl | rfl | rfl | rfl | rfl | rfl | rfl) | hp) | rfl
 ·show xS.length + a.u.length <= _;have : xS.length = 8 := rfl;omega
 ·show zA.length + a.r.length <= _;have : zA.length = 5 := rfl;omega
 ·show zv.length + a.n.length <= _;have : zv.length = 5 := rfl;omega
 ·show nUri.length + a.uri.length <= _;have : nUri.length = 3 := rfl;omega
 ·decide
 ·show nNc.length + (hex (xH a.nc)).length <= _;rw [jK];have : nNc.length = 2 := rfl;have : (xH a.nc).length = 4 := rfl;omega
 ·show zN.length + a.cn.length <= _;have : zN.length = 6 := rfl;omega
 ·show zR.length + (hex a.pf).length <= _;rw [jK];have : zR.length = 8 := rfl;omega
 ·split at hp
  ·cases hp
  ·simp only [aY,aT,or_false] at hp;subst hp
   show zt.length + a.o.length <= _;have : zt.length = 6 := rfl;omega
 ·decide
end Go.Proofs.YtebikhhoppiapaaGreatDoor
namespace Go.Proofs.YtebikhhoppiapaaGreatDoor
open Go Go.Ost Tryz
theorem WH {s : Nat} {a : OA} {m : Nat} : cutA s a 0 m = a := by
 unfold cutA
 split
 ·rfl
 ·cases a with
  | none => simp
  | some x => simp [Addr.add]
theorem Xz {X : zd} {xa : OA} {xc : Nat} {l : List Par} (hX : OwnP X xa xc l) (hl : l.length <= 100000) : zh prog 151 [.slice xa l.length xc] [X]
  fun v A => v = .int .i64 (cntE l) /\ A = [X] := by
 have hs := wK;have hle := hX.1;unfold cntE;refine eNg func151 ntmps151 results151 fun F => ?_
 by_cases h16 : 16 < l.length
 ·rw [if_pos h16,dT (oM : (16 : Int) < l.length)];refine gg ?_;refine ze [X] ⟨rfl,rfl⟩
 rw [if_neg h16,dF (oM : ¬ (16 : Int) < l.length)];refine gg ?_
 refine zM (fun q D L S => ∃ i : Nat,i <= l.length /\ (iC i).any (WD l) = false /\ q = l.length - i /\ D = [] /\
  L = [(12,.int .i64 i),(11,.int .i64 l.length),(10,.slice xa l.length xc),(0,.slice xa l.length xc)] /\ S = [X,F])
  ⟨0,oM,rfl,rfl,rfl,rfl,rfl⟩ ?_
 rintro q D L S ⟨i,hi,hno,rfl,rfl,rfl,rfl⟩;refine gg ?_;refine if_d (fun hc => ?_) (fun hc => ?_)
 ·have hil : i < l.length := oM;have hx := qX l i hil;have hrn := QE (WD l) i;refine gg ?_;refine zF ?_;refine xh hX hs hx dM mmA ?_;refine oAg (encP p0).toArray fun b4 => ?_
  refine oSg (encP (l.getD i p0)) rfl (xw _) ?_
  have hcut : Ost.Own 3 210 X xa i xc ((l.take i).flatMap encP) := by
   have q := YZ hX (l := 0) (h' := i) (m := xc) oM oM oM oM
   rwa [WH,iI,iI,Nat.zero_mul,List.drop_zero,JP encP 3 hs] at q
  (try (refine zF ?_;rw [cut_hi (e := 210) (s := 3) (hs := inferInstance) oM oM]))
  simp only [WH,iI,show ((i : Int)).toNat = i from oM];refine gg ?_
  refine zM (fun q D L S => ∃ j : Nat,j <= i /\ ((l.take j).any fun q => (l.getD i p0).n == q.n) = false /\ q = i - j /\ D = [] /\
   L = [(21,.int .i64 j),(20,.int .i64 i),(19,.slice xa i xc),(4,pT b4),(12,.int .i64 i),(11,.int .i64 l.length),(10,.slice xa l.length xc),(0,.slice xa l.length xc)] /\ S = [dpB b4 (l.getD i p0),X,F])
   ⟨0,oM,rfl,rfl,rfl,rfl,rfl⟩ ?_
  rintro q D L S ⟨j,hj,hnj,rfl,rfl,rfl,rfl⟩;refine gg ?_;refine if_d (fun hc => ?_) (fun hc => ?_)
  ·have hji : j < i := oM;have hx2 := Oo l hji hi;refine gg ?_;refine zF ?_;refine xh hcut hs hx2 dM mmA ?_;refine oAg (encP p0).toArray fun b6 => ?_
   refine oSg (encP (l.getD j p0)) rfl (xw _) ?_
   cases hb : ((l.getD i p0).n == (l.getD j p0).n) with
   | true =>
    refine gg ?_;rw [if_pos (KR (WD l) hil (gr hji hi hb))];refine ze [X] ⟨rfl,rfl⟩
   | false =>
    refine gg ?_;exact zI ⟨j + 1,oM,by rw [Oq l _ j oM,hnj,hb];rfl,rfl,rfl,rfl,rfl⟩
  ·obtain rfl : j = i := oM;refine gg ?_;exact zI ⟨j + 1,oM,by rw [hrn,hno];exact hnj,rfl,rfl,rfl,rfl⟩
 ·obtain rfl : i = l.length := oM;rw [hno];refine gg ?_;refine ze [X] ⟨rfl,rfl⟩
theorem Zy {X : zd} {xa : OA} {xc : Nat} {l : List Par} (hX : OwnR X xa xc l) (hl : l.length <= 100000) : zh prog 120 [.slice xa l.length xc] [X]
  fun v A => v = .int .i64 (cntE l) /\ A = [X] := by
 have hs := wK;have hle := hX.1;unfold cntE;refine eNg func120 ntmps120 results120 fun F => ?_
 by_cases h16 : 16 < l.length
 ·rw [if_pos h16,dT (oM : (16 : Int) < l.length)];refine gg ?_;refine ze [X] ⟨rfl,rfl⟩
 rw [if_neg h16,dF (oM : ¬ (16 : Int) < l.length)];refine gg ?_
 refine zM (fun q D L S => ∃ i : Nat,i <= l.length /\ (iC i).any (WD l) = false /\ q = l.length - i /\ D = [] /\
  L = [(10,.int .i64 i),(9,.int .i64 l.length),(0,.slice xa l.length xc)] /\ S = [X,F])
  ⟨0,oM,rfl,rfl,rfl,rfl,rfl⟩ ?_
 rintro q D L S ⟨i,hi,hno,rfl,rfl,rfl,rfl⟩;refine gg ?_;refine if_d (fun hc => ?_) (fun hc => ?_)
 ·have hil : i < l.length := oM;have hx := qX l i hil;have hrn := QE (WD l) i;refine gg ?_
  refine zM (fun q D L S => ∃ j : Nat,j <= i /\ ((l.take j).any fun q => (l.getD i p0).n == q.n) = false /\ q = i - j /\ D = [] /\
   L = [(4,.int .i64 j),(3,.int .i64 i),(10,.int .i64 i),(9,.int .i64 l.length),(0,.slice xa l.length xc)] /\ S = [X,F])
   ⟨0,oM,rfl,rfl,rfl,rfl,rfl⟩ ?_
  rintro q D L S ⟨j,hj,hnj,rfl,rfl,rfl,rfl⟩;refine gg ?_;refine if_d (fun hc => ?_) (fun hc => ?_)
  ·have hji : j < i := oM;have hx2 := qX l j oM;refine gg ?_;refine cdLg [[0],[1],[2],[3],[4],[5],[6],[7],[8],[9],[10]] ?_
   (try (refine qF ?_;refine JI (off := 0) hX hs hx rfl mmA ?_;refine gg ?_))
   (try (refine qF ?_;refine JI (off := 0) hX hs hx2 rfl mmA ?_;refine gg ?_))
   cases hb : ((l.getD i p0).n == (l.getD j p0).n) with
   | true =>
    refine gg ?_;rw [if_pos (KR (WD l) hil (gr hji hi hb))];refine ze [X] ⟨rfl,rfl⟩
   | false =>
    refine gg ?_;exact zI ⟨j + 1,oM,by rw [Oq l _ j oM,hnj,hb];rfl,rfl,rfl,rfl,rfl⟩
  ·obtain rfl : j = i := oM;refine gg ?_;exact zI ⟨j + 1,oM,by rw [hrn,hno];exact hnj,rfl,rfl,rfl,rfl⟩
 ·obtain rfl : i = l.length := oM;rw [hno];refine gg ?_;refine ze [X] ⟨rfl,rfl⟩
theorem bN {X : zd} {xa : OA} {xc : Nat} {l : List Par} (hX : OwnP X xa xc l) (hl : l.length <= 20) (hb : ∀ p ∈ l,p.n.length + p.v.length <= 5000) :
  zh prog 101 [.slice xa l.length xc] [X] fun v A => v = .tuple #[sT (jB l).1,.int .i64 (jB l).2] /\ A = [X] := by
 have hs := wK;have s7 : Value.string ⟨#[68,105,103,101,115,116,32]⟩ = sT hdr := rfl;have s2 : Value.string ⟨#[44,32]⟩ = sT [44,32] := rfl;have s1 : Value.string ⟨#[61]⟩ = sT [61] := rfl;refine eNg func101 ntmps101 results101 fun F => ?_
 refine zF ?_;refine zC fun b4 => ?_;(try simp only [Value.cells])
 refine zU ?_;refine gg ?_;have hw := XV (Bd.new b4) hdr dM dM;rw [aQ,aD] at hw;rw [s7];refine cA (hw) ?_;rintro v A ⟨⟨u,rfl⟩,p1,a1,cap1,X1,hB1,rfl⟩;refine gA ?_;have e0 : hdr = hdr ++ xV (l.take 0) := by simp [xV]
 rw [e0] at hB1;rw [show hdr.length = (hdr ++ xV (l.take 0)).length from congrArg mA e0,show decide ((0 : Int) < l.length) = (decide ((0 : Int) < l.length) && (l.take 0).all qT) from sM]
 refine zM (fun q D L S => ∃ (i : Nat) (p a' : OA) (cap' : Nat) (Y : zd),i <= l.length /\ Bd b4 (hdr ++ xV (l.take i)) p a' cap' Y /\ q = l.length - i /\ D = [] /\
  L = [(18,.int .i64 i),(17,.int .i64 l.length),(16,.slice xa l.length xc),(4,pT b4),(5,.bool (decide ((0 : Int) < l.length) && (l.take i).all qT)),(0,.slice xa l.length xc)] /\
  S = [bdB b4 p a' (hdr ++ xV (l.take i)).length cap',Y,X,F])
  ⟨0,p1,a1,cap1,X1,oM,hB1,rfl,rfl,rfl,rfl⟩ ?_
 rintro q D L S ⟨i,p,a',cap',Y,hi,hB,rfl,rfl,rfl,rfl⟩;have hjl := Iq (l.take i) fun p hp => hb p (List.mem_of_mem_take hp)
 have htl : (l.take i).length <= 20 := by rw [aX];omega
 have hh7 : hdr.length = 7 := rfl;have hjl2 : (xV (l.take i)).length <= 240000 := mN hjl oM;have hol : (hdr ++ xV (l.take i)).length <= 240007 := by rw [aB];omega
 clear hjl;refine gg ?_;refine if_d (fun hc => ?_) (fun hc => ?_)
 ·have hil : i < l.length := oM;have hx := qX l i hil;have hjn := Wm l i hil;have han := gY (f := qT) l i hil;have hpb := hb _ (List.mem_of_getElem? hx);have htx := On (l.getD i p0);have hvl := Yb (l.getD i p0);generalize l.getD i p0 = x at *;obtain ⟨n,v,qq⟩ := x;simp only at hpb htx hvl;generalize hokk : (decide ((0 : Int) < l.length) && (l.take i).all qT) = okk;refine gg ?_;refine zF ?_;refine xh hX hs hx dM mmA ?_;refine oAg (encP p0).toArray fun b7 => ?_
  refine oSg (encP ⟨n,v,qq⟩) rfl (xw _) ?_;refine cdLg [[0],[1],[2],[3],[4,0,1],[5,0],[6,0]] ?_;refine dR (Qt v oM) ?_
  refine zO (fun D L S => D = [] /\ L = [(8,sT (valP ⟨n,v,qq⟩)),(9,.bool (Wu ⟨n,v,qq⟩)),(7,pT b7),(6,.int .i64 i),(18,.int .i64 i),(17,.int .i64 l.length),(16,.slice xa l.length xc),(4,pT b4),(5,.bool okk),(0,.slice xa l.length xc)] /\
   S = [bdB b4 p a' (hdr ++ xV (l.take i)).length cap',Y,X,dpB b7 ⟨n,v,qq⟩,F]) ?_ ?_
  ·cases qq with
   | true =>
    refine gg ?_;refine cR (bH v oM) ?_;exact mid ⟨rfl,rfl,rfl⟩
   | false =>
    refine gg ?_;exact mid ⟨rfl,rfl,rfl⟩
  rintro D L S ⟨rfl,rfl,rfl⟩
  (with_reducible refine zS ?_);refine zO (fun D L S => D = [] /\ L = [(5,.bool (okk && qT ⟨n,v,qq⟩)),(8,sT (valP ⟨n,v,qq⟩)),(7,pT b7),(6,.int .i64 i),(18,.int .i64 i),(17,.int .i64 l.length),(16,.slice xa l.length xc),(4,pT b4),(0,.slice xa l.length xc)] /\
   S = [bdB b4 p a' (hdr ++ xV (l.take i)).length cap',Y,X,dpB b7 ⟨n,v,qq⟩,F]) ?_ ?_
  ·have hgd : qT ⟨n,v,qq⟩ = (Wu ⟨n,v,qq⟩ && (tokB n && (lowL n == n))) := rfl;rw [hgd];generalize Wu ⟨n,v,qq⟩ = ff;refine cdLg [[0],[1],[2],[3],[4],[5],[6],[7,0],[8],[9],[10],[11],[13],[14],[12,0,14],[15],[16],[17,0]] ?_
   cases okk with
   | false =>
    refine gg ?_;exact mid ⟨rfl,rfl,rfl⟩
   | true =>
    refine gg ?_
    cases ff with
    | false =>
     refine gg ?_;exact mid ⟨rfl,rfl,rfl⟩
    | true =>
     refine gg ?_;refine dR (Qt n oM) ?_
     cases tokB n with
     | false =>
      refine gg ?_;exact mid ⟨rfl,rfl,rfl⟩
     | true =>
      refine gg ?_;refine dR (wk n oM) ?_;exact mid ⟨rfl,rfl,rfl⟩
  rintro D L S ⟨rfl,rfl,rfl⟩;rw [<- hokk,Bool.and_assoc,<- han];clear hokk;generalize hokn : (decide ((0 : Int) < l.length) && (l.take (i + 1)).all qT) = okn
  (with_reducible refine zS ?_);refine zO (fun D L S => ∃ (p a' : OA) (cap' : Nat) (Y : zd),Bd b4 (hdr ++ (xV (l.take i) ++ (if 0 < i then [44,32] else []))) p a' cap' Y /\ D = [] /\ L = [(5,.bool okn),(8,sT (valP ⟨n,v,qq⟩)),(7,pT b7),(18,.int .i64 i),(17,.int .i64 l.length),(16,.slice xa l.length xc),(4,pT b4),(0,.slice xa l.length xc)] /\
   S = [bdB b4 p a' (hdr ++ (xV (l.take i) ++ (if 0 < i then [44,32] else []))).length cap',Y,X,dpB b7 ⟨n,v,qq⟩,F]) ?_ ?_
  ·refine gg ?_
   by_cases h0 : 0 < i
   ·rw [dT (oM : (0 : Int) < i),if_pos h0,<- aN];refine gg ?_;rw [s2];refine cA (XV hB [44,32] (by rw [show ([44,32] : L8).length = 2 from rfl];omega) dM) ?_;rintro v A ⟨⟨u,rfl⟩,p2,a2,cap2,X2,hB2,rfl⟩;refine gA ?_;exact mid ⟨p2,a2,cap2,X2,hB2,rfl,rfl,rfl⟩
   ·rw [dF (oM : ¬ (0 : Int) < i),if_neg h0,aL];refine gg ?_;exact mid ⟨p,a',cap',Y,hB,rfl,rfl,rfl⟩
  rintro D L S ⟨p,a',cap',Y,hB,rfl,rfl,rfl⟩
  have hol2 : (hdr ++ (xV (l.take i) ++ (if 0 < i then [44,32] else []))).length <= 240009 := by
   rw [aB,aB];have : (if 0 < i then [44,32] else [] : L8).length <= 2 := by split <;> simp
   omega
  have hfin : hdr ++ (xV (l.take i) ++ (if 0 < i then [44,32] else [])) ++ (n ++ [61] ++ valP ⟨n,v,qq⟩) = hdr ++ xV (l.take (i + 1)) := by
   rw [hjn];simp [wU]
  generalize valP ⟨n,v,qq⟩ = w at *;have hnl : (n ++ [61] ++ w).length <= 20000 /\ 1 <= (n ++ [61] ++ w).length := by rw [aB,aB,aI];omega
  refine gg ?_;rw [s1];refine zF ?_;rw [zV (by rw [aI];omega)];refine gg ?_;refine zF ?_;rw [zV (by rw [aB,aI];omega)];refine gg ?_;refine cA (XV hB (n ++ [61] ++ w) oM oM) ?_;rintro v A ⟨⟨u,rfl⟩,p3,a3,cap3,X3,hB3,rfl⟩;refine gA ?_;rw [hfin] at hB3 ⊢;subst hokn;exact zI ⟨i + 1,p3,a3,cap3,X3,oM,hB3,rfl,rfl,rfl,rfl⟩
 ·obtain rfl : i = l.length := oM;rw [iK] at hB hol ⊢
  have hpe : jB l = (if (decide ((0 : Int) < l.length) && l.all qT) = false then ([],4) else if 4096 < (hdr ++ xV l).length then ([],3) else if cntE l ≠ 0 then ([],cntE l) else (hdr ++ xV l,0)) := by
   unfold jB;rw [show decide ((0 : Int) < l.length) = decide (0 < l.length) from by rw [decide_eq_decide];omega]
  rw [hpe];generalize (decide ((0 : Int) < l.length) && l.all qT) = okk at *;refine gg ?_;refine cR (yq hB oM) ?_
  cases okk with
  | false =>
   rw [if_pos rfl];refine gg ?_;refine zf (vs := [sT [],.int .i64 4]) [X] ⟨rfl,rfl⟩
  | true =>
   rw [if_neg sM];refine gg ?_
   by_cases h2 : 4096 < (hdr ++ xV l).length
   ·rw [if_pos h2,dT (oM : (4096 : Int) < ((hdr ++ xV l).length : Nat))];refine gg ?_;refine zf (vs := [sT [],.int .i64 3]) [X] ⟨rfl,rfl⟩
   ·rw [if_neg h2,dF (oM : ¬ (4096 : Int) < ((hdr ++ xV l).length : Nat))];refine gg ?_;refine cR (Xz hX oM) ?_
    by_cases h3 : cntE l = 0
    ·rw [if_neg (by simp [h3]),h3];refine gg ?_;refine zf (vs := [sT (hdr ++ xV l),.int .i64 0]) [X] ⟨rfl,rfl⟩
    ·rw [if_pos h3,bne_iff_ne.2 h3];refine gg ?_;refine zf (vs := [sT [],.int .i64 (cntE l)]) [X] ⟨rfl,rfl⟩
instance tpChal : xi prog 119 [(0,1),(1,1),(2,1),(3,1)] := ⟨kM⟩
theorem ch_len (c : Ch) : (yp c).length <= 20 := by
 unfold yp opqP staP;simp only [aB,aH,aQ]
 split <;> split <;> simp
theorem ch_bound {c : Ch} (h1 : c.r.length <= 4000) (h2 : c.n.length <= 4000) (h3 : c.o.length <= 4000) : ∀ p ∈ yp c,p.n.length + p.v.length <= 5000 := by
 intro p hp;unfold yp opqP staP at hp;simp only [List.mem_append,aY,aT,or_false] at hp
 rcases hp with (((hp | hp) | rfl) | hp) | rfl
 ·rcases hp with rfl | rfl
  ·show zA.length + c.r.length <= _;have : zA.length = 5 := rfl;omega
  ·show zv.length + c.n.length <= _;have : zv.length = 5 := rfl;omega
 ·split at hp
  ·cases hp
  ·simp only [aY,aT,or_false] at hp;subst hp
   show zt.length + c.o.length <= _;have : zt.length = 6 := rfl;omega
 ·decide
 ·split at hp
  ·simp only [aY,aT,or_false] at hp;subst hp;decide
  ·cases hp
 ·decide
theorem bl (s : L8) : zh prog 100 [sT s] [] fun v A => v = .bool (sizB s) /\ A = [] := by
 unfold sizB;refine eNg func100 ntmps100 results100 fun F => ?_
 cases hb : (s != []) with
 | false =>
  refine gg ?_;refine ze [] ?_;exact ⟨rfl,rfl⟩
 | true =>
  refine gg ?_;refine ze [] ?_;exact ⟨rfl,rfl⟩
theorem Ub {X : zd} {xa : OA} {xc : Nat} {l : List Par} (hX : OwnP X xa xc l) (hl : l.length <= 100) (s : L8) : zh prog 99 [.slice xa l.length xc,sT s] [X]
  fun v A => ∃ X' a' k',v = .slice a' (l ++ opqP s).length k' /\ OwnP X' a' k' (l ++ opqP s) /\ A = [X'] := by
 unfold opqP;refine eNg func99 ntmps99 results99 fun F => ?_
 by_cases hs : s = []
 ·rw [if_pos hs,hs,aL];refine gg ?_
  (try rw [beq_self_eq_true])
  (try refine gg ?_)
  refine ze [X] ⟨X,xa,xc,rfl,hX,rfl⟩
 ·rw [if_neg hs,beq_eq_false_iff_ne.2 hs];refine gg ?_;refine oT [(0,.string ⟨#[111,112,97,113,117,101]⟩),(1,(sT s)),(2,.bool true)] (encP ⟨zt,s,true⟩).toArray ?_;refine zF ?_;refine xt (e := 210) (s := 3) (hs := inferInstance) (vs := encP (⟨zt,s,true⟩ : Par)) (by rfl) dM dM rfl (fun b5 C5 ho5 => ?_);refine zF ?_;refine zu (e := 210) (s := 3) (hs := inferInstance) (by rfl) dM hX (.inr pkA) (ho5.rd mmA) (xw _) (by simp only [maxLen];omega) oM (fun X5 a5 k5 hX5 => ?_);have e1 : (l).length + 1 = (l ++ [(⟨zt,s,true⟩ : Par)]).length := sM;have e2 : (l).flatMap encP ++ encP (⟨zt,s,true⟩ : Par) = (l ++ [(⟨zt,s,true⟩ : Par)]).flatMap encP := sM;rw [e1,e2] at hX5;rw [e1];clear e1 e2;refine gg ?_;refine ze [X5] ⟨X5,a5,k5,rfl,hX5,rfl⟩
theorem UP (c : Ch) (h1 : c.r.length <= 4000) (h2 : c.n.length <= 4000) (h3 : c.o.length <= 4000) : zh prog 35 [.agg (encC c).toArray] []
  fun v A => v = .tuple #[sT (qA c).1,.int .i64 (qA c).2] /\ A = [] := by
 have hcl := ch_len c;have hcb := ch_bound h1 h2 h3;obtain ⟨cr,cn,co,cs⟩ := c;simp only at h1 h2 h3;have hct : qA ⟨cr,cn,co,cs⟩ = if sizB cn = false then ([],4) else jB (yp ⟨cr,cn,co,cs⟩) := rfl;have hcp : yp ⟨cr,cn,co,cs⟩ = [⟨zA,cr,true⟩,⟨zv,cn,true⟩] ++ opqP co ++ [⟨nAlg,nSum,false⟩] ++ staP cs ++ [⟨nQop,jb,true⟩] := rfl;rw [hct];refine eNg func35 ntmps35 results35 fun F => ?_
 refine oBg fun b1 => ?_
 refine oTg [(0,.string ⟨#[114,101,97,108,109]⟩),(1,(sT cr)),(2,.bool true)] (encP ⟨zA,cr,true⟩).toArray ?_;refine oTg [(0,.string ⟨#[110,111,110,99,101]⟩),(1,(sT cn)),(2,.bool true)] (encP ⟨zv,cn,true⟩).toArray ?_;refine zF ?_;refine ZR (n := 2) (e := 210) (s := 3) (hs := inferInstance) [encP ⟨zA,cr,true⟩,encP ⟨zv,cn,true⟩] (by rfl) rfl dM dM dM (by intro r hr;simp only [aY,aT,or_false] at hr;rcases hr with rfl | rfl <;> rfl) (fun b2 C2 ho2 => ?_);have hX2 : OwnP C2 (some ⟨b2,0,none⟩) 2 [⟨zA,cr,true⟩,⟨zv,cn,true⟩] := ho2;clear ho2;rw [show Value.slice (some ⟨b2,0,none⟩) 2 2 = .slice (some ⟨b2,0,none⟩) ([⟨zA,cr,true⟩,⟨zv,cn,true⟩] : List Par).length 2 from rfl];have hl0 : ([⟨zA,cr,true⟩,⟨zv,cn,true⟩] : List Par).length = 2 := rfl;generalize ([⟨zA,cr,true⟩,⟨zv,cn,true⟩] : List Par) = l0 at *;generalize (some ⟨b2,0,none⟩ : OA) = a2 at *;refine gg ?_;refine cA (Ub hX2 oM co) ?_;rintro v A ⟨X3,a3,k3,rfl,hX3,rfl⟩;refine gA ?_;have hl3 : (l0 ++ opqP co).length <= 3 := by rw [aB];unfold opqP;split <;> simp <;> omega
 generalize l0 ++ opqP co = l1 at *;refine gg ?_;refine oT [(0,.string ⟨#[97,108,103,111,114,105,116,104,109]⟩),(1,(.string ⟨#[83,72,65,45,50,53,54]⟩)),(2,.bool false)] (encP ⟨nAlg,nSum,false⟩).toArray ?_;refine zF ?_;refine xt (e := 210) (s := 3) (hs := inferInstance) (vs := encP (⟨nAlg,nSum,false⟩ : Par)) (by rfl) dM dM rfl (fun b6 C6 ho6 => ?_);refine zF ?_;refine zu (e := 210) (s := 3) (hs := inferInstance) (by rfl) dM hX3 (.inr pkA) (ho6.rd mmA) (xw _) (by simp only [maxLen];omega) oM (fun X6 a6 k6 hX6 => ?_);have e1 : (l1).length + 1 = (l1 ++ [(⟨nAlg,nSum,false⟩ : Par)]).length := sM;have e2 : (l1).flatMap encP ++ encP (⟨nAlg,nSum,false⟩ : Par) = (l1 ++ [(⟨nAlg,nSum,false⟩ : Par)]).flatMap encP := sM;rw [e1,e2] at hX6;rw [e1];clear e1 e2;have hl6 : (l1 ++ [(⟨nAlg,nSum,false⟩ : Par)]).length <= 4 := by rw [aB,aI];omega
 generalize l1 ++ [(⟨nAlg,nSum,false⟩ : Par)] = l2 at *;refine gg ?_;refine zO (fun D L S => ∃ (X7 : zd) (a7 : OA) (k7 : Nat),OwnP X7 a7 k7 (l2 ++ staP cs) /\ D = [] /\ L = [(4,.slice a7 (l2 ++ staP cs).length k7),(1,pT b1)] /\ S = [X7,[(b1,.cells (encC ⟨cr,cn,co,cs⟩).toArray 119 (0,0))],F]) ?_ ?_
 ·cases cs with
  | false =>
   rw [show staP false = [] from rfl,aL];refine gg ?_;exact mid ⟨X6,a6,k6,hX6,rfl,rfl,rfl⟩
  | true =>
   rw [show staP true = [⟨zH,qn,false⟩] from rfl];refine gg ?_;refine oT [(0,.string ⟨#[115,116,97,108,101]⟩),(1,(.string ⟨#[116,114,117,101]⟩)),(2,.bool false)] (encP ⟨zH,qn,false⟩).toArray ?_;refine zF ?_;refine xt (e := 210) (s := 3) (hs := inferInstance) (vs := encP (⟨zH,qn,false⟩ : Par)) (by rfl) dM dM rfl (fun b7 C7 ho7 => ?_);refine zF ?_;refine zu (e := 210) (s := 3) (hs := inferInstance) (by rfl) dM hX6 (.inr pkA) (ho7.rd mmA) (xw _) (by simp only [maxLen];omega) oM (fun X7 a7 k7 hX7 => ?_);have e1 : (l2).length + 1 = (l2 ++ [(⟨zH,qn,false⟩ : Par)]).length := sM;have e2 : (l2).flatMap encP ++ encP (⟨zH,qn,false⟩ : Par) = (l2 ++ [(⟨zH,qn,false⟩ : Par)]).flatMap encP := sM;rw [e1,e2] at hX7;rw [e1];clear e1 e2;refine gg ?_;exact mid ⟨X7,a7,k7,hX7,rfl,rfl,rfl⟩
 rintro D L S ⟨X7,a7,k7,hX7,rfl,rfl,rfl⟩;have hl7 : (l2 ++ staP cs).length <= 5 := by rw [aB];unfold staP;split <;> simp <;> omega
 generalize l2 ++ staP cs = l3 at *;refine gg ?_;refine cR (bl cn) ?_
 cases hz : sizB cn with
 | false =>
  rw [if_pos rfl];refine gg ?_;refine zf (vs := [sT [],.int .i64 4]) [] ⟨rfl,rfl⟩
 | true =>
  rw [if_neg sM];refine gg ?_;refine oT [(0,.string ⟨#[113,111,112]⟩),(1,(.string ⟨#[97,117,116,104]⟩)),(2,.bool true)] (encP ⟨nQop,jb,true⟩).toArray ?_;refine zF ?_;refine xt (e := 210) (s := 3) (hs := inferInstance) (vs := encP (⟨nQop,jb,true⟩ : Par)) (by rfl) dM dM rfl (fun b8 C8 ho8 => ?_);refine zF ?_;refine zu (e := 210) (s := 3) (hs := inferInstance) (by rfl) dM hX7 (.inr pkA) (ho8.rd mmA) (xw _) (by simp only [maxLen];omega) oM (fun X8 a8 k8 hX8 => ?_);have e1 : (l3).length + 1 = (l3 ++ [(⟨nQop,jb,true⟩ : Par)]).length := sM;have e2 : (l3).flatMap encP ++ encP (⟨nQop,jb,true⟩ : Par) = (l3 ++ [(⟨nQop,jb,true⟩ : Par)]).flatMap encP := sM;rw [e1,e2] at hX8;rw [e1];clear e1 e2;rw [<- hcp] at hX8 ⊢;refine cR (bN hX8 hcl hcb) ?_;refine zf (vs := [sT (jB (yp ⟨cr,cn,co,cs⟩)).1,.int .i64 (jB (yp ⟨cr,cn,co,cs⟩)).2]) [] ⟨rfl,rfl⟩
open Go.Sha
theorem cE (x : W) : zh prog 106 [b32 x] [] fun v A => v = sT (hex (xH x)) /\ A = [] := by
 refine eNg func106 ntmps106 results106 fun F => ?_
 refine zF ?_;refine xI ([aG (x >>> 24).toNat,aG (x >>> 16).toNat,aG (x >>> 8).toNat,aG x.toNat]) dM rfl (rfl) (fun b7 C7 ho7 => ?_);rw [WP] at ho7;have hb := ZU C7 (some ⟨b7,0,none⟩) 4 (xH x) (by rw [show (xH x).length = 4 from rfl];decide) (ho7.rd sM);rw [show (xH x).length = 4 from rfl] at hb;refine gg ?_;refine cR (hb) ?_;refine ze [] ?_;exact ⟨rfl,rfl⟩
theorem Za (A : zd) (a : OA) (c : Nat) (ls : List L8) (h : Rd 1 [A] a ls.length (ls.map fun l => sT l)) (hne : ls ≠ []) (hnc : ls.length <= c) (hn : ls.length <= 1000000) (hlen : ((([58] : L8)).intercalate ls).length <= 100000) :
  zh prog 104 [.slice a ls.length c] [A] (New8 5 ((([58] : L8)).intercalate ls) [A]) := by
 have s58 : Value.string ⟨#[58]⟩ = sT [58] := rfl;refine eNg func104 ntmps104 results104 fun F => ?_
 rw [s58];refine cR (bj [A] a c ls [58] h hne hnc hn oM) ?_;refine zF ?_;refine xb (by simp only [maxLen];omega) (fun X xa xc hX => ?_);refine gg ?_;refine ze ([X,A]) ?_;exact ⟨_,_,_,rfl,hX,rfl⟩
theorem ha1_spec {G : zd} (hg : jJ G) {C : zd} {b : Nat} {x : BX} (hC : vg C b x) (hts : x.ts.length <= 1000) (u r p : L8) (hu : u.length <= 1000) (hr : r.length <= 1000) (hp : p.length <= 1000) :
  zh prog 40 [pT b,sT u,sT r,sT p] [C,G] (Out b (jo x (xT u r p)) [G]) := by
 have e : (([58] : L8)).intercalate [u,r,p] = xT u r p := by simp [List.intercalate,xT]
 have hl : (xT u r p).length <= 4000 := by unfold xT;simp only [aB,aI];omega
 refine eNg func40 ntmps40 results40 fun F => ?_
 refine zF ?_;refine jE rfl [sT u,sT r,sT p] dM rfl rfl (by simp [Value.cell1]) (fun b13 C13 ho13 => ?_);refine gg ?_;have hj := Za C13 (some ⟨b13,0,none⟩) 3 [u,r,p] (ho13.rd (aA ..)) sM (aR _) (by show 3 <= 1000000;decide) (by rw [e];omega);rw [e] at hj;refine cA (hj) ?_;rintro v A ⟨J,ja,jc,rfl,hJ,rfl⟩;refine gA ?_;refine zF ?_;refine jE rfl [.slice ja (xT u r p).length jc] dM rfl rfl (by simp [Value.cell1]) (fun b15 C15 ho15 => ?_);refine gg ?_;have hp4 : vh C15 J (some ⟨b15,0,none⟩) ja jc (xT u r p) := ⟨ho15.rd (aA ..),hJ.1,hJ.rd (aA ..),oM⟩;refine cA (wu hg hp4 hC hts) ?_;rintro v A ⟨O,C',oa,oc,rfl,hO,hC',rfl⟩;refine gA ?_;refine ze [O,C',G] ?_;exact ⟨O,C',oa,oc,rfl,hO,hC',rfl⟩
def ha2T (m uri : L8) : L8 := m ++ [58] ++ uri
def resT (h1 n : L8) (nc : W) (cn h2 : L8) : L8 := hex h1 ++ [58] ++ n ++ [58] ++ hex (xH nc) ++ [58] ++ cn ++ [58,97,117,116,104,58] ++ hex h2
def qm (x : BX) (h1 m : L8) (a : An) : L8 × BX :=
 let k := jo x (ha2T m a.uri)
 jo k.2 (resT h1 a.n a.nc a.cn k.1)
theorem XK (x : BX) (h1 m : L8) (a : An) : (qm x h1 m a).2.ts.length <= x.ts.length + 2 /\ (qm x h1 m a).2.sym = x.sym := by
 unfold qm;simp only;have k1 := jT x (ha2T m a.uri);generalize jo x (ha2T m a.uri) = k at *;have k2 := jT k.2 (resT h1 a.n a.nc a.cn k.1);exact ⟨oM,by rw [k2.2,k1.2]⟩
theorem ye (x : BX) (h1 m : L8) (a : An) : (qm x h1 m a).1.length = 32 := qW _ _
theorem Jt {G : zd} (hg : jJ G) {C H : zd} {b : Nat} {x : BX} (hC : vg C b x) (hts : x.ts.length <= 900) {ha : OA} {hc : Nat} (h1 m : L8) (hl1 : h1.length <= 1000) (hm : m.length <= 1000) (hH : Rd 1 [H] ha h1.length (h1.map b8)) (a : An) (hn : a.n.length <= 4096) (huri : a.uri.length <= 4096) (hcn : a.cn.length <= 4096) (pa : OA) (pk : Nat) :
  zh prog 39 [pT b,.slice ha h1.length hc,sT m,.agg (encA a pa pk).toArray] [C,G,H] (Out b (qm x h1 m a) [G,H]) := by
 obtain ⟨au,ar,an,ai,ak,ao,ac,ap⟩ := a;simp only at hn huri hcn;have e2 : (([58] : L8)).intercalate [m,ai] = ha2T m ai := by simp [List.intercalate,ha2T]
 have l2 : (ha2T m ai).length <= 6000 := by unfold ha2T;simp only [aB,aI];omega
 refine eNg func39 ntmps39 results39 fun F => ?_
 refine oBg fun b7 => ?_
 refine zF ?_;refine jE rfl [sT m,sT ai] dM rfl rfl (by simp [Value.cell1]) (fun b14 C14 ho14 => ?_);refine gg ?_;have hj := Za C14 (some ⟨b14,0,none⟩) 2 [m,ai] (ho14.rd (aA ..)) sM (aR _) (by show 2 <= 1000000;decide) (by rw [e2];omega);rw [e2] at hj;refine cA (hj) ?_;rintro v A ⟨J,ja,jc,rfl,hJ,rfl⟩;refine gA ?_;refine zF ?_;refine jE rfl [.slice ja (ha2T m ai).length jc] dM rfl rfl (by simp [Value.cell1]) (fun b16 C16 ho16 => ?_);refine gg ?_;have hp4 : vh C16 J (some ⟨b16,0,none⟩) ja jc (ha2T m ai) := ⟨ho16.rd (aA ..),hJ.1,hJ.rd (aA ..),oM⟩;have kl := qW x (ha2T m ai);have kt := jT x (ha2T m ai);refine cA (wu hg hp4 hC oM) ?_;rintro v A ⟨K1,C1,ka,kc,rfl,hK1,hC1,rfl⟩;refine gA ?_;unfold qm;simp only;generalize jo x (ha2T m ai) = k at *;have hx1 : (hex h1).length <= 3000 := by rw [jK];omega
 have hx2 : (hex k.1).length <= 3000 := by rw [jK];omega
 have hx3 : (hex (xH ac)).length <= 8 := by rw [jK];exact aR _
 have e6 : (([58] : L8)).intercalate [hex h1,an,hex (xH ac),ak,[97,117,116,104],hex k.1] = resT h1 an ac ak k.1 := by simp [List.intercalate,resT]
 have l6 : (resT h1 an ac ak k.1).length <= 20000 := by unfold resT;simp only [aB,aI,aH,aQ];omega
 refine cdLg [[0],[1],[3],[4],[5],[6],[8],[9],[10],[2,0,4,6,9],[7,0,4,9],[11,0,4,9],[12,0],[13,0],[14,0],[15,0],[16,0]] ?_;refine dR (ZU H ha hc h1 oM hH) ?_;refine dR (cE ac) ?_;refine wL fun K hK => ?_;refine jq (ZU K1 ka kc k.1 oM (hK1.rd (aA ..))) ?_;rintro v A ⟨rfl,rfl⟩;refine pA hK ?_;clear hK K
 refine gg ?_;refine zG ?_;refine jE rfl [sT (hex h1),sT an,sT (hex (xH ac)),sT ak,sT [97,117,116,104],sT (hex k.1)] dM rfl rfl (by simp [Value.cell1]) (fun b30 C30 ho30 => ?_);refine gg ?_;have hj6 := Za C30 (some ⟨b30,0,none⟩) 6 [hex h1,an,hex (xH ac),ak,[97,117,116,104],hex k.1] (ho30.rd (aA ..)) sM (aR _) (by show 6 <= 1000000;decide) (by rw [e6];omega);rw [e6] at hj6;refine dA (hj6) ?_;rintro v A ⟨J6,j6,q6,rfl,hJ6,rfl⟩;refine pC ?_;refine zG ?_;refine jE rfl [.slice j6 (resT h1 an ac ak k.1).length q6] dM rfl rfl (by simp [Value.cell1]) (fun b32 C32 ho32 => ?_);refine gg ?_;have hp6 : vh C32 J6 (some ⟨b32,0,none⟩) j6 q6 (resT h1 an ac ak k.1) := ⟨ho32.rd (aA ..),hJ6.1,hJ6.rd (aA ..),oM⟩;refine dA (wu hg hp6 hC1 oM) ?_;rintro v A ⟨O,C',oa,oc,rfl,hO,hC',rfl⟩;refine pC ?_
 (try (try refine dS ?_))
 (try refine gg ?_)
 refine ze [O,C',G,H] ?_;exact ⟨O,C',oa,oc,rfl,hO,hC',rfl⟩
end Go.Proofs.YtebikhhoppiapaaGreatDoor
namespace Go.Proofs.YtebikhhoppiapaaGreatDoor
open Go Go.Ost Go.Tab Tryz
structure V where
 non : L8
 draw : L8
 at_ : Int
 sp : Bool
 cnt : Int
def encV (v : V) : LV := [sT v.non,.int .u64 v.at_,.bool v.sp,.int .u32 v.cnt]
abbrev valV (v : V) : Value := .agg (encV v).toArray
def v0 : V := ⟨[],[],0,false,0⟩
theorem qb (v : V) : ∀ u ∈ encV v,Value.cell1 u := by simp [encV,Value.cell1]
instance iWV_1 : xi prog 244 [(0,1),(1,4),(5,1),(6,1)] := ⟨kM⟩
abbrev tabO (room : Int) (la : OA) (ll lc : Nat) (fa : OA) (fl fc r : Nat) (first last : Int) : Obj :=
 .cells #[.int .i64 room,.slice la ll lc,.slice fa fl fc,.map (some r),.int .i64 first,.int .i64 last] 248 (0,0)
def encE (e : En V) : LV := sT e.key :: (encV e.v ++ [.int .i64 e.ahead,.int .i64 e.next])
theorem kS (e : En V) : (encE e).length = 7 := rfl
abbrev OwnE (C : zd) (a : OA) (cap : Nat) (l : List (En V)) : Prop := Ost.Own 7 244 C a l.length cap (l.flatMap encE)
abbrev nat64 (i : Nat) : Value := .int .i64 i
abbrev IsAt (C : zd) (r : Nat) (m : List (L8 × Nat)) : Prop := jg C r (mval nat64 m)
theorem qu (b : Nat) (room : Int) (la : OA) (ll lc : Nat) (fa : OA) (fl fc r : Nat) (first last : Int) (M : zd) (m : List (L8 × Nat)) (hm : IsAt M r m) (k : L8) :
  zh prog 125 [pT b,sT k] [[(b,tabO room la ll lc fa fl fc r first last)],M]
   fun v A => v = .int .i64 (match mget m k with | some i => (i : Int) | none => -1) /\ A = [[(b,tabO room la ll lc fa fl fc r first last)],M] := by
 refine eNg func125 ntmps125 results125 fun F => ?_
 rw [Ig]
 cases hg : mget m k with
 | none =>
  refine gg ?_;refine ze [[(b,tabO room la ll lc fa fl fc r first last)],M] ?_;exact ⟨rfl,rfl⟩
 | some i =>
  refine gg ?_;refine ze [[(b,tabO room la ll lc fa fl fc r first last)],M] ?_;exact ⟨rfl,rfl⟩
theorem Xc {α : Type} (l : List α) (i : Nat) (x : α) (f : α -> α) (h : l[i]? = some x) : l.set i (f x) = l.modify i f := by
 apply List.ext_getElem?
 intro j;rw [List.getElem?_set,mF];have hi := (List.getElem?_eq_some_iff.1 h).1
 by_cases hj : i = j
 ·subst hj;rw [if_pos rfl,if_pos hi,h];simp
 ·simp [hj]
theorem OC {l : List (En V)} {i : Nat} {e : En V} (a : Int) (h : l[i]? = some e) : l.set i { e with ahead := a } = setA l i a := Xc l i e (fun e => { e with ahead := a }) h
theorem Vs {l : List (En V)} {i : Nat} {e : En V} (a : Int) (h : l[i]? = some e) : l.set i { e with next := a } = setN l i a := Xc l i e (fun e => { e with next := a }) h
theorem setV_set {l : List (En V)} {i : Nat} {e : En V} (a : V) (h : l[i]? = some e) : l.set i { e with v := a } = setV l i a := Xc l i e (fun e => { e with v := a }) h
theorem fX (b : Nat) (room : Int) (la : OA) (lc : Nat) (fa : OA) (fl fc r : Nat) (first last : Int) (C : zd) (l : List (En V)) (ho : OwnE C la lc l) (i : Nat) (hi : i < l.length) (hl : last = -1 ∨ ∃ j : Nat,last = j /\ j < l.length) :
  zh prog 145 [pT b,.int .i64 i] [[(b,tabO room la l.length lc fa fl fc r first last)],C]
   fun v A => ∃ C',OwnE C' la lc (haL l i last) /\ A = [[(b,tabO room la l.length lc fa fl fc r (haF first last i) i)],C'] := by
 have hs := kS;have hx : l[i]? = some l[i] := aE hi;refine eNg func145 ntmps145 results145 fun F => ?_
 refine cdLg [[0],[1],[2],[3],[4],[5],[6],[7],[8],[9],[10],[11],[12],[13],[14],[15],[16,0],[17],[18],[19,0]] ?_;refine zG ?_;refine Zl ho pkA hs hx trivial (x' := { l[i] with ahead := last }) rfl dM (fun C1 ho1 => ?_);(repeat refine Jy ?_);rw [OC last hx] at ho1;have ho1' : OwnE C1 la lc (setA l i last) := by unfold OwnE;rw [vl];exact ho1
 have hx1 := Yv l last hx;have hll := vl l i last;refine gg ?_;refine zG ?_;refine Zl ho1 pkA hs hx1 trivial (x' := { l[i] with ahead := last,next := -1 }) rfl dM (fun C2 ho2 => ?_);(repeat refine Jy ?_);have e2 : (setA l i last).set i { l[i] with ahead := last,next := -1 } = setN (setA l i last) i (-1) := Vs (-1) hx1;rw [e2] at ho2;refine gg ?_
 rcases hl with rfl | ⟨j,rfl,hj⟩
 ·refine gg ?_;refine xm [[(b,tabO room la l.length lc fa fl fc r i i)],C2] ⟨C2,?_,rfl⟩;unfold OwnE;rw [kn];exact ho2
 ·refine gg ?_;refine cdL [[0],[1],[2],[3],[4],[5],[6],[7],[8],[9],[10],[11,0]] ?_;have hlj : j < (setN (setA l i j) i (-1)).length := by rw [kw,vl];exact hj
  have hxj : (setN (setA l i j) i (-1))[j]? = some (setN (setA l i j) i (-1))[j] := aE hlj;refine gg ?_;refine zG ?_;refine Zl ho2 pkA hs hxj trivial (x' := { (setN (setA l i j) i (-1))[j] with next := i }) rfl dM (fun C3 ho3 => ?_);(repeat refine Jy ?_);rw [Vs i hxj] at ho3;refine gg ?_;refine xm [[(b,tabO room la l.length lc fa fl fc r (haF first j i) i)],C3] ⟨C3,?_,rfl⟩ (hs := ?_)
  ·have e : haL l i j = setN (setN (setA l i j) i (-1)) j i := by
    unfold haL;rw [if_neg oM];simp
   unfold OwnE;rw [kn,e];exact ho3
  ·have e : haF first j i = first := by unfold haF;rw [if_neg oM]
   rw [e];first | ((repeat (first | with_reducible exact zn.nil _ | with_reducible exact Pick.head _ _ | with_reducible apply Pick.tail | with_reducible apply zn.cons));done) | ((repeat (first | exact zn.nil _ | exact Pick.head _ _ | apply Pick.tail | apply zn.cons));done)
theorem Yd (b : Nat) (room : Int) (la : OA) (lc : Nat) (fa : OA) (fl fc r : Nat) (first last : Int) (C : zd) (l : List (En V)) (ho : OwnE C la lc l) (i : Nat) (e : En V) (hx : l[i]? = some e)
  (ha : e.ahead = -1 ∨ ∃ j : Nat,e.ahead = j /\ j < l.length) (hn : e.next = -1 ∨ ∃ j : Nat,e.next = j /\ j < l.length) :
  zh prog 200 [pT b,.int .i64 i] [[(b,tabO room la l.length lc fa fl fc r first last)],C]
   fun v A => ∃ C',OwnE C' la lc (unL l e.ahead e.next) /\ A = [[(b,tabO room la l.length lc fa fl fc r (unF first e.ahead e.next) (unE last e.ahead e.next))],C'] := by
 have hs := kS;have hi := (List.getElem?_eq_some_iff.1 hx).1;obtain ⟨key,v,a,n⟩ := e;simp only at ha hn ⊢;refine eNg func200 ntmps200 results200 fun F => ?_
 refine cdLg [[0],[1],[2],[3],[4],[5],[6],[7],[8],[9],[10],[11],[12],[13],[14],[15],[16,0,11,15],[17,0]] ?_;refine zO (fun D L S => ∃ C1 l1,l1 = (if a = -1 then l else setN l a.toNat n) /\ OwnE C1 la lc l1 /\ l1.length = l.length /\ D = [] /\ L = [(0,pT b),(4,.int .i64 a),(5,.int .i64 n)] /\ S = [C1,[(b,tabO room la l.length lc fa fl fc r (unF first a n) last)],F]) ?_ ?_
 ·rcases ha with rfl | ⟨j,rfl,hj⟩
  ·refine gg ?_;exact mid ⟨C,l,rfl,ho,rfl,rfl,rfl,rfl⟩
  ·have hxj : l[j]? = some l[j] := aE hj;refine gg ?_;refine zF ?_;refine Zl ho pkA hs hxj trivial (x' := { l[j] with next := n }) rfl dM (fun C3 ho3 => ?_);rw [Vs n hxj] at ho3;refine gg ?_;have e1 : unF first (j : Int) n = first := by unfold unF;rw [if_neg oM]
   rw [e1];exact mid ⟨C3,setN l j n,by rw [if_neg oM];simp,by unfold OwnE;rw [kw];exact ho3,kw _ _ _,rfl,rfl,rfl⟩
 ·rintro D L S ⟨C1,l1,hl1,ho1,hll,rfl,rfl,rfl⟩;rw [<- hll]
  rcases hn with rfl | ⟨j,rfl,hj⟩
  ·refine gg ?_;refine xm [[(b,tabO room la l1.length lc fa fl fc r (unF first a (-1)) a)],C1] ⟨C1,?_,rfl⟩;have : unL l a (-1) = l1 := by unfold unL;rw [if_pos rfl,<- hl1]
   rw [this];exact ho1
  ·have hxj : l1[j]? = some l1[j] := aE oM;refine gg ?_;refine zF ?_;refine Zl ho1 pkA hs hxj trivial (x' := { l1[j] with ahead := a }) rfl dM (fun C3 ho3 => ?_);rw [OC a hxj] at ho3;refine gg ?_;have e1 : unE last a (j : Int) = last := by unfold unE;rw [if_neg oM]
   rw [e1];refine xm [[(b,tabO room la l1.length lc fa fl fc r (unF first a j) last)],C3] ⟨C3,?_,rfl⟩;have : unL l a j = setA l1 j a := by unfold unL;rw [if_neg oM,<- hl1];simp
   rw [this];unfold OwnE;rw [vl];exact ho3
theorem eh (b : Nat) (room : Nat) (hr : room <= 4096) (la : OA) (ll lc : Nat) (fa : OA) (fl fc r : Nat) (first last : Int) (M : zd) (m : List (L8 × Nat)) (hm : IsAt M r m) (hml : m.length <= room) :
  zh prog 196 [pT b] [[(b,tabO room la ll lc fa fl fc r first last)],M] fun v A => v = .int .i64 (room - m.length : Nat) /\ A = [[(b,tabO room la ll lc fa fl fc r first last)],M] := by
 have hl : (mval nat64 m).length = m.length := by simp [mval]
 refine eNg func196 ntmps196 results196 fun F => ?_
 refine cdLg [[0],[1],[2],[3],[4],[5],[6],[7],[8],[9],[10,0]] ?_;refine ze [[(b,tabO room la ll lc fa fl fc r first last)],M] ?_;exact ⟨by rw [hl];congr 1;first | omega | (rw [yv oM oM];omega),rfl⟩
theorem JN (b : Nat) (room : Nat) (hr : room <= 4096) (la : OA) (ll lc : Nat) (fa : OA) (fl fc r : Nat) (first last : Int) (M : zd) (m : List (L8 × Nat)) (hm : IsAt M r m) (hml : m.length <= room) :
  zh prog 141 [pT b] [[(b,tabO room la ll lc fa fl fc r first last)],M] fun v A => v = .bool (decide (m.length = room)) /\ A = [[(b,tabO room la ll lc fa fl fc r first last)],M] := by
 refine eNg func141 ntmps141 results141 fun F => ?_
 refine cR (eh b room hr la ll lc fa fl fc r first last M m hm hml) ?_;refine ze [[(b,tabO room la ll lc fa fl fc r first last)],M] ?_;refine ⟨?_,rfl⟩
 congr 1
 by_cases h : m.length = room
 ·rw [dT h,h];simp
 ·rw [dF h,beq_eq_false_iff_ne];omega
abbrev OwnF (C : zd) (a : OA) (cap : Nat) (free : List Nat) : Prop := Ost.Own 1 3 C a free.length cap (free.map nat64)
structure kd (room : Nat) (la : OA) (lc : Nat) (l : List (En V)) (fa : OA) (fc : Nat) (free : List Nat) (r : Nat) (m : List (L8 × Nat)) (pl : List Nat) (es : List (L8 × V)) (Cl Cf Cm : zd) : Prop where
 ol : OwnE Cl la lc l
 ofr : OwnF Cf fa fc free
 im : IsAt Cm r m
 rep : Rep l free m pl es
 big : room <= 4096
 fits : es.length <= room
 all : l.length = es.length + free.length
 ll : l.length <= room
def xU (C : zd) (b room : Nat) (es : List (L8 × V)) : Prop := ∃ la lc l fa fc free r m pl Cl Cf Cm,kd room la lc l fa fc free r m pl es Cl Cf Cm /\
 C = [(b,tabO room la l.length lc fa free.length fc r (hd pl (-1)) (lst (-1) pl))] ++ (Cl ++ (Cf ++ Cm))
theorem xU.keys {C : zd} {b room : Nat} {es : List (L8 × V)} (h : xU C b room es) : (es.map (·.1)).Nodup := by
 obtain ⟨la,lc,l,fa,fc,free,r,m,pl,Cl,Cf,Cm,h,rfl⟩ := h;exact h.rep.keys
theorem xU.fits {C : zd} {b room : Nat} {es : List (L8 × V)} (h : xU C b room es) : es.length <= room := by
 obtain ⟨la,lc,l,fa,fc,free,r,m,pl,Cl,Cf,Cm,h,rfl⟩ := h;exact h.fits
theorem WO (e : En V) : ∀ u ∈ encE e,Value.cell1 u := by simp [encE,encV,Value.cell1]
section put
variable {b room : Nat} {la : OA} {lc : Nat} {l : List (En V)} {fa : OA} {fc : Nat} {free : List Nat} {r : Nat} {m : List (L8 × Nat)} {pl : List Nat} {es : List (L8 × V)} {Cl Cf Cm : zd}
theorem bL (h : kd room la lc l fa fc free r m pl es Cl Cf Cm) (k : L8) (v : V) (hk : mget es k ≠ none) :
  zh prog 98 [pT b,  sT k,valV v] [[(b,tabO room la l.length lc fa free.length fc r (hd pl (-1)) (lst (-1) pl))],Cm]
   fun v A => v = .int .i64 7 /\ A = [[(b,tabO room la l.length lc fa free.length fc r (hd pl (-1)) (lst (-1) pl))],Cm] := by
 cases hm : mget m k with
 | none => exact absurd (h.rep.miss.1 hm) hk
 | some i =>
  refine eNg func98 ntmps98 results98 fun F => ?_
  refine oBg fun b5 => ?_
  refine cR (qu b room la l.length lc fa free.length fc r _ _ Cm m h.im k) ?_;rw [hm];refine gg ?_;refine ze [[(b,tabO room la l.length lc fa free.length fc r (hd pl (-1)) (lst (-1) pl))],Cm] ?_;exact ⟨rfl,rfl⟩
theorem put_full (h : kd room la lc l fa fc free r m pl es Cl Cf Cm) (k : L8) (v : V) (hk : mget es k = none) (hf : es.length = room) :
  zh prog 98 [pT b,  sT k,valV v] [[(b,tabO room la l.length lc fa free.length fc r (hd pl (-1)) (lst (-1) pl))],Cm]
   fun v A => v = .int .i64 8 /\ A = [[(b,tabO room la l.length lc fa free.length fc r (hd pl (-1)) (lst (-1) pl))],Cm] := by
 have hm := h.rep.miss.2 hk;have hml := h.rep.mlen;refine eNg func98 ntmps98 results98 fun F => ?_
 refine oBg fun b5 => ?_
 refine cR (qu b room la l.length lc fa free.length fc r _ _ Cm m h.im k) ?_;rw [hm];refine gg ?_;refine cR (JN b room h.big la l.length lc fa free.length fc r _ _ Cm m h.im oM) ?_;rw [dT (oM : m.length = room)];refine gg ?_;refine ze [[(b,tabO room la l.length lc fa free.length fc r (hd pl (-1)) (lst (-1) pl))],Cm] ?_;exact ⟨rfl,rfl⟩
theorem put_ok (h : kd room la lc l fa fc free r m pl es Cl Cf Cm) (k : L8) (v : V) (hk : mget es k = none) (hf : es.length < room) :
  zh prog 98 [pT b,sT k,valV v] [[(b,tabO room la l.length lc fa free.length fc r (hd pl (-1)) (lst (-1) pl))],Cl,Cf,Cm]
   fun v' A => v' = .int .i64 0 /\ ∃ la lc l fa fc free m pl Cl Cf Cm,kd room la lc l fa fc free r m pl (es ++ [(k,v)]) Cl Cf Cm /\ A = [[(b,tabO room la l.length lc fa free.length fc r (hd pl (-1)) (lst (-1) pl))],Cl,Cf,Cm] := by
 have hm := h.rep.miss.2 hk;have hml := h.rep.mlen;have hs := kS;have hol := h.ol;have hof := h.ofr;have him := h.im;have hll := h.ll;have hbig := h.big;refine eNg func98 ntmps98 results98 fun F => ?_
 refine oBg fun b5 => ?_
 refine cR (qu b room la l.length lc fa free.length fc r _ _ Cm m h.im k) ?_;rw [hm];refine gg ?_;refine cR (JN b room h.big la l.length lc fa free.length fc r _ _ Cm m h.im oM) ?_;rw [dF (oM : ¬ m.length = room)];refine gg ?_
 refine zO (fun D L S => ∃ (i : Nat) (la' : OA) (lc' : Nat) (l' : List (En V)) (Cl' : zd) (fa' : OA) (fc' : Nat) (free' : List Nat) (Cf' : zd),OwnE Cl' la' lc' l' /\ OwnF Cf' fa' fc' free' /\ (∀ j ∈ pl,l'[j]? = l[j]?) /\ kv l' i = some (k,v) /\
   (pl ++ i :: free').Nodup /\ (∀ j ∈ free',j < l'.length) /\ l'.length = es.length + 1 + free'.length /\ l'.length <= room /\ D = [] /\ L = [(0,pT b),(1,sT k),(7,.int .i64 i)] /\
   S = [[(b,tabO room la' l'.length lc' fa' free'.length fc' r (hd pl (-1)) (lst (-1) pl))],Cl',Cf',Cm,F]) ?_ ?_
 ·rcases List.eq_nil_or_concat free with rfl | ⟨f,i,rfl⟩
  ·refine gg ?_;have hall := h.all;simp only [aQ,mT] at hall;refine cdLg [[0],[1],[2],[3],[4],[5],[6],[7],[8,0,4],[9,0],[10],[11],[12,0]] ?_;refine qF ?_;refine zz (vs := encV v) lkA rfl ?_;refine qF ?_;rw [zX (ps := [(0,sT k),(1,valV v)]) (cs := (encE ⟨k,v,0,0⟩).toArray) rfl];refine zG ?_;refine xt (e := 244) (s := 7) (hs := inferInstance) (vs := encE ⟨k,v,0,0⟩) (by rfl) dM dM rfl (fun b1 C1 ho1 => ?_);(repeat refine Jy ?_);refine gg ?_;refine zG ?_;refine zu (e := 244) (s := 7) (hs := inferInstance) (by rfl) dM hol (.inr pkA) (ho1.rd mmA) (WO _) (by simp only [maxLen];omega) oM (fun C2 a2 cap2 ho2 => ?_);(repeat refine Jy ?_);have e2 : l.flatMap encE ++ encE ⟨k,v,0,0⟩ = (l ++ [(⟨k,v,0,0⟩ : En V)]).flatMap encE := sM;have e3 : l.length + 1 = (l ++ [(⟨k,v,0,0⟩ : En V)]).length := sM;rw [e2,e3] at ho2;rw [e3];refine gg ?_;refine mid ⟨l.length,a2,cap2,l ++ [⟨k,v,0,0⟩],C2,fa,fc,[],Cf,ho2,hof,?_,?_,?_,sM,by simp;omega,by simp;omega,rfl,rfl,rfl⟩
   ·intro j hj;exact lP (fI _ _ _ h.rep.lk j hj)
   ·simp [kv]
   ·have hnd := h.rep.nd;rw [aL] at hnd;rw [List.nodup_append]
    exact ⟨hnd,sM,fun x hx y hy e => by
     simp at hy;subst hy;subst e
     exact absurd (fI _ _ _ h.rep.lk _ hx) oM⟩
  ·rw [List.concat_eq_append] at *;have hfl : (f ++ [i]).length = f.length + 1 := sM;have hall := h.all;have hof' : Ost.Own 1 3 Cf fa (f.length + 1) fc ((f ++ [i]).map nat64) := by rw [<- hfl];exact hof
   have hfc := hof'.1
   have hge : ((f ++ [i]).map nat64)[(((f.length + 1 : Nat) : Int) - 1).toNat]? = some (nat64 i) := by
    rw [show (((f.length + 1 : Nat) : Int) - 1).toNat = f.length from oM];simp
   rw [hfl] at hall ⊢;refine if_d (fun _ => ?_) (fun hc => absurd (oM : (0 : Int) < ((f.length + 1 : Nat) : Int)) hc);refine gg ?_;refine cdLg [[0],[1],[2],[3],[4],[5],[6],[7],[8],[9],[10],[11],[12],[13],[14],[15],[16,0,12],[17],[18],[19,0]] ?_;refine gM ?_;have hif : i < l.length := h.rep.lt i sM;refine cdLg [[0],[1],[2],[3],[4],[5],[6],[7],[8],[9,0]] ?_;refine qF ?_;refine zz (vs := encV v) lkA rfl ?_;refine qF ?_;rw [zX (ps := [(0,sT k),(1,valV v)]) (cs := (encE ⟨k,v,0,0⟩).toArray) rfl];refine gg ?_;refine zG ?_;refine kL (x' := (⟨k,v,0,0⟩ : En V)) hol pkA hs hif dM (WO _) (fun C2 ho2 => ?_);(repeat refine Jy ?_);refine gg ?_;have hcut := OW hof' (l := 0) (h' := f.length) (m := fc) oM oM oM (aR _);rw [List.drop_zero,iI,iI,List.take_left' rfl] at hcut;rw [show (((f.length + 1 : Nat) : Int) - 1).toNat = f.length from oM];refine mid ⟨i,la,lc,l.set i ⟨k,v,0,0⟩,C2,cutA 1 fa 0 fc,fc,f,Cf,by unfold OwnE;rw [mC];exact ho2,hcut,?_,?_,?_,?_,by rw [mC];omega,by rw [mC];omega,rfl,rfl,by rw [mC]⟩
   ·intro j hj;rw [List.getElem?_set_ne];rintro rfl;exact (List.nodup_append.1 h.rep.nd).2.2 i hj i sM rfl
   ·simp [kv,hif]
   ·have hnd := h.rep.nd;refine (List.Perm.append_left pl ?_).nodup_iff.1 hnd;exact List.perm_append_singleton i f
   ·intro j hj;rw [mC];exact h.rep.lt j (by simp [hj])
 ·rintro D L S ⟨i,la',lc',l',Cl',fa',fc',free',Cf',g1,g2,g3,g4,g5,g6,g7,g8,rfl,rfl,rfl⟩
  have hil : i < l'.length := by
   unfold kv at g4
   cases hl : l'[i]? with
   | none => rw [hl] at g4;cases g4
   | some e => exact (List.getElem?_eq_some_iff.1 hl).1
  refine gg ?_;refine zF ?_;refine VM him pkA (fun C9 him9 => ?_);rw [Ie nat64 m k i] at him9
  have hlast : lst (-1) pl = -1 ∨ ∃ j : Nat,lst (-1) pl = j /\ j < l'.length := by
   rcases Classical.em (pl = []) with rfl | hne
   ·exact .inl rfl
   ·obtain ⟨j,hj,e⟩ := JE pl (-1) hne;have h1 := fI _ _ _ h.rep.lk j hj;have h2 := g3 j hj;rw [aE h1] at h2;exact .inr ⟨j,e,(List.getElem?_eq_some_iff.1 h2).1⟩
  obtain ⟨q1,q2,q3⟩ := h.rep.put hk g3 g4 g5 g6;refine gg ?_;refine cA (fX b room la' lc' fa' free'.length fc' r (hd pl (-1)) (lst (-1) pl) Cl' l' g1 i hil hlast) ?_;rintro v A ⟨C10,ho10,rfl⟩;refine gA ?_;rw [q2,q3];refine ze [[(b,tabO room la' l'.length lc' fa' free'.length fc' r (hd (pl ++ [i]) (-1)) (lst (-1) (pl ++ [i])))],C10,Cf',C9] ?_;refine ⟨rfl,la',lc',haL l' i (lst (-1) pl),fa',fc',free',mput m k i,pl ++ [i],C10,Cf',C9,⟨ho10,g2,him9,q1,hbig,by simp;omega,by rw [kn];simp;omega,by rw [kn];exact g8⟩,by rw [kn]⟩
end put
section ops
variable {b room : Nat} {la : OA} {lc : Nat} {l : List (En V)} {fa : OA} {fc : Nat} {free : List Nat} {r : Nat} {m : List (L8 × Nat)} {pl : List Nat} {es : List (L8 × V)} {Cl Cf Cm : zd}
theorem set_miss (h : kd room la lc l fa fc free r m pl es Cl Cf Cm) (k : L8) (v : V) (hk : mget es k = none) :
  zh prog 63 [pT b,sT k,valV v] [[(b,tabO room la l.length lc fa free.length fc r (hd pl (-1)) (lst (-1) pl))],Cm]
   fun v A => v = .int .i64 6 /\ A = [[(b,tabO room la l.length lc fa free.length fc r (hd pl (-1)) (lst (-1) pl))],Cm] := by
 have hm := h.rep.miss.2 hk;refine eNg func63 ntmps63 results63 fun F => ?_
 refine oBg fun b5 => ?_
 refine cR (qu b room la l.length lc fa free.length fc r _ _ Cm m h.im k) ?_;rw [hm];refine gg ?_;refine ze [[(b,tabO room la l.length lc fa free.length fc r (hd pl (-1)) (lst (-1) pl))],Cm] ?_;exact ⟨rfl,rfl⟩
theorem get_miss (h : kd room la lc l fa fc free r m pl es Cl Cf Cm) (k : L8) (hk : mget es k = none) :
  zh prog 123 [pT b,sT k] [[(b,tabO room la l.length lc fa free.length fc r (hd pl (-1)) (lst (-1) pl))],Cm]
   fun v A => v = .tuple #[valV v0,.bool false] /\ A = [[(b,tabO room la l.length lc fa free.length fc r (hd pl (-1)) (lst (-1) pl))],Cm] := by
 have hm := h.rep.miss.2 hk;refine eNg func123 ntmps123 results123 fun F => ?_
 refine oAg (encV v0).toArray fun b4 => ?_
 refine cR (qu b room la l.length lc fa free.length fc r _ _ Cm m h.im k) ?_;rw [hm];refine gg ?_;refine oAg (encV v0).toArray fun b7 => ?_
 refine oL (encV v0) rfl ?_;refine oSg (encV v0) rfl (qb _) ?_;exact zf (vs := [valV v0,.bool false]) [[(b,tabO room la l.length lc fa free.length fc r (hd pl (-1)) (lst (-1) pl))],Cm] ⟨rfl,rfl⟩ (hr := by (intro κ hκ;simp only [resW,zy,zj,zi,aJ];exact zz (vs := encV v0) lkA rfl hκ))
theorem gu (h : kd room la lc l fa fc free r m pl es Cl Cf Cm) (k : L8) (hk : mget es k = none) :
  zh prog 144 [pT b,sT k] [[(b,tabO room la l.length lc fa free.length fc r (hd pl (-1)) (lst (-1) pl))],Cm]
   fun v A => v = .int .i64 6 /\ A = [[(b,tabO room la l.length lc fa free.length fc r (hd pl (-1)) (lst (-1) pl))],Cm] := by
 have hm := h.rep.miss.2 hk;refine eNg func144 ntmps144 results144 fun F => ?_
 refine cR (qu b room la l.length lc fa free.length fc r _ _ Cm m h.im k) ?_;rw [hm];refine gg ?_;refine ze [[(b,tabO room la l.length lc fa free.length fc r (hd pl (-1)) (lst (-1) pl))],Cm] ?_;exact ⟨rfl,rfl⟩
theorem kd.place (h : kd room la lc l fa fc free r m pl es Cl Cf Cm) {k : L8} {v : V} (hk : mget es k = some v) : ∃ i,mget m k = some i /\ i < l.length /\ kv l i = some (k,v) := by
 cases hm : mget m k with
 | none => rw [h.rep.miss.1 hm] at hk;cases hk
 | some i =>
  obtain ⟨v',p,q,pre,post,h1,h2,h3,h4,h5,_⟩ := h.rep.at hm;rw [hk] at h5;cases h5
  refine ⟨i,rfl,?_,h4⟩;unfold kv at h4
  cases hl : l[i]? with
  | none => rw [hl] at h4;cases h4
  | some e => exact (List.getElem?_eq_some_iff.1 hl).1
theorem set_ok (h : kd room la lc l fa fc free r m pl es Cl Cf Cm) (k : L8) (v u : V) (hk : mget es k = some u) :
  zh prog 63 [pT b,sT k,valV v] [[(b,tabO room la l.length lc fa free.length fc r (hd pl (-1)) (lst (-1) pl))],Cl,Cm]
   fun v' A => v' = .int .i64 0 /\ ∃ l Cl',kd room la lc l fa fc free r m pl (mput es k v) Cl' Cf Cm /\ A = [[(b,tabO room la l.length lc fa free.length fc r (hd pl (-1)) (lst (-1) pl))],Cl',Cm] := by
 obtain ⟨i,hm,hi,hkv⟩ := h.place hk;have hs := kS;have hx : l[i]? = some l[i] := aE hi;have hol := h.ol
 have hlen : (mput es k v).length = es.length := by
  have := congrArg mA (wC k v es (by rw [hk];simp));simpa using this
 refine eNg func63 ntmps63 results63 fun F => ?_
 refine oBg fun b5 => ?_
 refine cR (qu b room la l.length lc fa free.length fc r _ _ Cm m h.im k) ?_;rw [hm];refine gg ?_;refine cdLg [[0],[1],[2],[3],[4],[5],[6],[7],[8,0]] ?_;refine qF ?_;refine zz (vs := encV v) lkA rfl ?_;refine gg ?_;refine zG ?_;refine Ky (n := 4) (x' := { l[i] with v := v }) hol pkA hs hx dM rfl (qb v) dM rfl (fun C2 ho2 => ?_);(repeat refine Jy ?_);rw [setV_set v hx] at ho2;refine gg ?_;refine ze [[(b,tabO room la l.length lc fa free.length fc r (hd pl (-1)) (lst (-1) pl))],C2,Cm] ?_;exact ⟨rfl,setV l i v,C2,⟨by unfold OwnE;rw [ku];exact ho2,h.ofr,h.im,h.rep.set hm v,h.big,by rw [hlen];exact h.fits,by rw [ku,hlen];exact h.all,by rw [ku];exact h.ll⟩,by rw [ku]⟩
theorem get_ok (h : kd room la lc l fa fc free r m pl es Cl Cf Cm) (k : L8) (v : V) (hk : mget es k = some v) :
  zh prog 123 [pT b,sT k] [[(b,tabO room la l.length lc fa free.length fc r (hd pl (-1)) (lst (-1) pl))],Cl,Cm]
   fun v' A => v' = .tuple #[valV v,.bool true] /\ A = [[(b,tabO room la l.length lc fa free.length fc r (hd pl (-1)) (lst (-1) pl))],Cl,Cm] := by
 obtain ⟨i,hm,hi,hkv⟩ := h.place hk;have hs := kS;have hx : l[i]? = some l[i] := aE hi;have hol := h.ol;have hv : l[i].v = v := by unfold kv at hkv;rw [hx] at hkv;simp at hkv;exact hkv.2
 refine eNg func123 ntmps123 results123 fun F => ?_
 refine oAg (encV v0).toArray fun b4 => ?_
 refine cR (qu b room la l.length lc fa free.length fc r _ _ Cm m h.im k) ?_;rw [hm];refine gg ?_;refine zF ?_;refine Uq (n := 4) (vs := encV v) hol hs hx dM dM (by rw [<- hv];rfl) mmA ?_;refine oSg (encV v) rfl (qb _) ?_;exact zf (vs := [valV v,.bool true]) [[(b,tabO room la l.length lc fa free.length fc r (hd pl (-1)) (lst (-1) pl))],Cl,Cm] ⟨rfl,rfl⟩ (hr := by (intro κ hκ;simp only [resW,zy,zj,zi,aJ];exact zz (vs := encV v) lkA rfl hκ))
end ops
section ops
variable {b room : Nat} {la : OA} {lc : Nat} {l : List (En V)} {fa : OA} {fc : Nat} {free : List Nat} {r : Nat} {m : List (L8 × Nat)} {pl : List Nat} {es : List (L8 × V)} {Cl Cf Cm : zd}
theorem drop_ok (h : kd room la lc l fa fc free r m pl es Cl Cf Cm) (k : L8) (u : V) (hk : mget es k = some u) :
  zh prog 144 [pT b,sT k] [[(b,tabO room la l.length lc fa free.length fc r (hd pl (-1)) (lst (-1) pl))],Cl,Cf,Cm]
   fun v' A => v' = .int .i64 0 /\ ∃ la lc l fa fc free m pl Cl Cf Cm,kd room la lc l fa fc free r m pl (mdel es k) Cl Cf Cm /\ A = [[(b,tabO room la l.length lc fa free.length fc r (hd pl (-1)) (lst (-1) pl))],Cl,Cf,Cm] := by
 obtain ⟨i,hm,hi,hkv⟩ := h.place hk;obtain ⟨a,n,e,hx,rfl,rfl,ha,hn,pl',hrep,q1,q2⟩ := h.rep.drop hm ⟨[],v0,0,0⟩;have hs := kS;have hlu := Qr l e.ahead e.next;have hll := h.ll;have hbig := h.big;have hall := h.all;have hml := h.rep.mlen;have hml' := hrep.mlen;have hofr := h.ofr;have him := h.im;have hfits := h.fits
 have hlen : (mdel es k).length + 1 = es.length := by
  obtain ⟨pre,post,c1,_,c3,_⟩ := ki hk;rw [c3,c1];simp;omega
 refine eNg func144 ntmps144 results144 fun F => ?_
 refine cR (qu b room la l.length lc fa free.length fc r _ _ Cm m h.im k) ?_;rw [hm];refine gg ?_;refine cA (Yd b room la lc fa free.length fc r _ _ Cl l h.ol i e hx ha hn) ?_;rintro v A ⟨C1,ho1,rfl⟩;refine gA ?_;rw [q1,q2,<- hlu];refine oTg [] (encE ⟨[],v0,0,0⟩).toArray ?_;refine zF ?_;refine kL (x' := (⟨[],v0,0,0⟩ : En V)) ho1 pkA hs oM dM (WO _) (fun C2 ho2 => ?_);refine gg ?_;refine zF ?_;refine jE rfl [nat64 i] dM rfl rfl (by simp [Value.cell1]) (fun b3 C3 ho3 => ?_);refine zF ?_;refine app1 rfl hofr (.inr pkA) (ho3.rd mmA) (by simp [Value.cell1]) oM dM (fun C4 a4 cap4 ho4 => ?_);have e4 : free.map nat64 ++ [nat64 i] = (free ++ [i]).map nat64 := sM;have e5 : free.length + 1 = (free ++ [i]).length := sM;rw [e4,e5] at ho4;rw [e5];refine gg ?_;refine gM ?_;refine zF ?_;refine map_del him pkA (fun C6 him6 => ?_);rw [Ik nat64 m k] at him6;refine gg ?_;refine ze [[(b,tabO room la (unL l e.ahead e.next).length lc a4 (free ++ [i]).length cap4 r (hd pl' (-1)) (lst (-1) pl'))],C2,C4,C6] ?_;exact ⟨rfl,la,lc,(unL l e.ahead e.next).set i ⟨[],v0,0,0⟩,a4,cap4,free ++ [i],mdel m k,pl',C2,C4,C6,⟨by unfold OwnE;rw [mC];exact ho2,ho4,him6,hrep,hbig,oM,by rw [mC,hlu];simp;omega,by rw [mC,hlu];exact hll⟩,by rw [mC]⟩
end ops
theorem lk_at {V : Type} {l : List (En V)} {pre suf : List Nat} {i : Nat} (h : Lk l (-1) (pre ++ i :: suf) (-1)) : ∃ e,l[i]? = some e /\ e.next = hd suf (-1) := by
 obtain ⟨_,⟨e,h1,_,h3⟩,_⟩ := (yQ l pre (i :: suf) (-1) (-1)).1 h;exact ⟨e,h1,h3⟩
theorem gn {V : Type} {l : List (En V)} : ∀ (pl : List Nat) (es : List (L8 × V)),pl.map (kv l) = es.map some -> ∃ ents : List (En V),ents.length = pl.length /\ (∀ (j i : Nat),pl[j]? = some i -> l[i]? = ents[j]?) /\ ents.map (fun e => (e.key,e.v)) = es
 | [],[],_ => ⟨[],rfl,fun j i h => by simp at h,rfl⟩
 | [],_ :: _,h => by cases h
 | _ :: _,[],h => by cases h
 | i :: pl,x :: es,h => by
  simp only [iB,List.cons.injEq] at h;obtain ⟨ents,h1,h2,h3⟩ := gn pl es h.2;have hk := h.1;unfold kv at hk
  cases hl : l[i]? with
  | none => rw [hl] at hk;cases hk
  | some e =>
   rw [hl] at hk;simp only [lX,Option.some.injEq] at hk;refine ⟨e :: ents,by simp [h1],fun j k hj => ?_,by rw [iB,hk,h3]⟩
   cases j with
   | zero => simp at hj;subst hj;simpa using hl
   | succ j => simp at hj ⊢;exact h2 j k hj
theorem ents_el {V : Type} {ents : List (En V)} {es : List (L8 × V)} (h : ents.map (fun e => (e.key,e.v)) = es) {j : Nat} {e : En V} (he : ents[j]? = some e) : es[j]? = some (e.key,e.v) := by
 rw [<- h,lF,he];rfl
abbrev tabB (b room : Nat) (la : OA) (l : List (En V)) (lc : Nat) (fa : OA) (free : List Nat) (fc r : Nat) (pl : List Nat) : zd :=
 [(b,tabO room la l.length lc fa free.length fc r (hd pl (-1)) (lst (-1) pl))]
section all
variable {b room : Nat} {la : OA} {lc : Nat} {l : List (En V)} {fa : OA} {fc : Nat} {free : List Nat} {r : Nat} {m : List (L8 × Nat)} {pl : List Nat} {es : List (L8 × V)} {Cl Cf Cm : zd}
theorem dj (h : kd room la lc l fa fc free r m pl es Cl Cf Cm) :
  zh prog 193 [pT b] [tabB b room la l lc fa free fc r pl,Cl]
   fun v A => ∃ D a c,v = .slice a pl.length c /\ OwnF D a c pl /\ A = [D,tabB b room la l lc fa free fc r pl,Cl] := by
 have hs := kS;have hol := h.ol;have hbig := h.big;have hpl := h.rep.pl_len;have hfit := h.fits;refine eNg func193 ntmps193 results193 fun F => ?_
 refine zU ?_
 refine zM (fun q D L S => ∃ (pre suf : List Nat) (X : zd) (xa : OA) (xc : Nat),pl = pre ++ suf /\ OwnF X xa xc pre /\ q = suf.length /\ D = [] /\
  L = [(4,.int .i64 (hd suf (-1))),(3,.slice xa pre.length xc),(0,pT b)] /\ S = [X,tabB b room la l lc fa free fc r pl,Cl,F])
  ⟨[],pl,[],none,0,rfl,zJ,rfl,rfl,rfl,rfl⟩ ?_
 rintro q D L S ⟨pre,suf,X,xa,xc,e0,hX,rfl,rfl,rfl,rfl⟩
 cases suf with
 | nil =>
  rw [aL] at e0;subst e0;simp only [hd];refine gg ?_;refine ze [X,tabB b room la l lc fa free fc r pl,Cl] ⟨X,xa,xc,rfl,hX,rfl⟩
 | cons i suf =>
  obtain ⟨e,hx,hnext⟩ := lk_at (e0 ▸ h.rep.lk);have hi : i < l.length := (List.getElem?_eq_some_iff.1 hx).1
  have hlen : pre.length + 1 <= 4096 := by
   have := congrArg mA e0;rw [aB,aH] at this;omega
  simp only [hd];refine gg ?_;refine zF ?_;refine jE rfl [nat64 i] dM rfl rfl (by simp [Value.cell1]) (fun b3 C3 ho3 => ?_);refine zF ?_;refine app1 rfl hX (.inr pkA) (ho3.rd mmA) (by simp [Value.cell1]) oM dM (fun C4 a4 cap4 ho4 => ?_);have e4 : pre.map nat64 ++ [nat64 i] = (pre ++ [i]).map nat64 := sM;have e5 : pre.length + 1 = (pre ++ [i]).length := sM;rw [e4,e5] at ho4;rw [e5];refine gg ?_;rw [hnext];exact zI ⟨pre ++ [i],suf,C4,a4,cap4,by rw [e0];simp,ho4,rfl,rfl,rfl,rfl⟩ (hm := by simp)
def encX (x : L8 × V) : LV := [sT x.1,valV x.2]
abbrev NextX (es pre : List (L8 × V)) (x : L8 × V) : Prop := ∃ suf,es = pre ++ x :: suf
theorem Kl (c : Nat) (b room : Nat) (es : List (L8 × V)) :
  wN prog 192 [] [pT c] encX [bx c (pT b) 166]
   (fun T => xU T b room es) noH noH noH (NextX es) (fun pre => pre = es)
   (fun _ A => A = [bx c (pT b) 166]) (fun _ A => A = [bx c (pT b) 166]) false := by
 refine vv kM fun l0 J Jx hN hT hY C hC => ?_
 obtain ⟨T,R,⟨la,lc,l,fa,fc,free,r,m,pl,Cl,Cf,Cm,h,hTC⟩,hperm⟩ := hT C hC;have hs := kS;have hol := h.ol;have hbig := h.big;have hpl := h.rep.pl_len;have hfit := h.fits;obtain ⟨ents,en1,en2,en3⟩ := gn pl es h.rep.row;refine eN func192 ntmps192 results192 fun F => ?_
 have hp0 : [F,C,bx c (pT b) 166].flatten.Perm [F,tabB b room la l lc fa free fc r pl,Cl,Cf,Cm,R,bx c (pT b) 166].flatten := by
  simp only [aO,iS,aL];refine List.Perm.append_left F ?_;have h2 := (hTC ▸ hperm).append_right (bx c (pT b) 166)
  simpa only [aN] using h2
 refine jY hp0 ?_;refine gg ?_;refine cA (dj h) ?_;rintro v A ⟨D1,a1,c1,rfl,ho1,rfl⟩;refine gA ?_;refine zU ?_
 refine zM (fun q D L S => ∃ (j : Nat) (X : zd) (xa : OA) (xc : Nat),j <= pl.length /\ Ost.Own 7 244 X xa j xc ((ents.take j).flatMap encE) /\ q = pl.length - j /\ D = [] /\
  L = [(11,.int .i64 j),(10,.int .i64 pl.length),(9,.slice a1 pl.length c1),(3,.slice xa j xc),(0,.func (.yield l0) #[] #[]),(1,pT c)] /\
  S = [X,D1,F,tabB b room la l lc fa free fc r pl,Cl,Cf,Cm,R,bx c (pT b) 166])
  ⟨0,[],none,0,oM,zJ,rfl,rfl,rfl,rfl⟩ ?_
 rintro q D L S ⟨j,X,xa,xc,hj,hX,rfl,rfl,rfl,rfl⟩;refine gg ?_;refine if_d (fun hc => ?_) (fun hc => ?_)
 ·have hjp : j < pl.length := oM;have hpj : pl[j]? = some pl[j] := aE hjp;have hus : (pl.map nat64)[j]? = some (nat64 pl[j]) := by rw [lF,hpj];rfl
  have hx := en2 j _ hpj;have hej : ents[j]? = some ents[j] := aE oM;rw [hej] at hx;have hi : pl[j] < l.length := (List.getElem?_eq_some_iff.1 hx).1;generalize pl[j] = i at *;refine gg ?_;refine zF ?_;refine xh hol hs hx dM mmA ?_;refine zF ?_;refine xt (e := 244) (s := 7) (hs := inferInstance) (vs := encE ents[j]) (by rfl) dM dM rfl (fun b2 C2 ho2 => ?_);refine zF ?_;refine zu (e := 244) (s := 7) (hs := inferInstance) (by rfl) dM hX (.inr pkA) (ho2.rd mmA) (WO _) (by simp only [maxLen];omega) oM (fun C3 a3 cap3 ho3 => ?_)
  have e3 : (ents.take j).flatMap encE ++ encE ents[j] = (ents.take (j + 1)).flatMap encE := by
   rw [List.take_succ_eq_append_getElem oM,lI];simp
  rw [e3] at ho3;refine gg ?_;exact zI ⟨j + 1,C3,a3,cap3,oM,ho3,rfl,rfl,rfl,rfl⟩
 ·obtain rfl : j = pl.length := oM;rw [lE oM] at hX;have hX2 : OwnE X xa xc ents := by unfold OwnE;rw [en1];exact hX
  rw [<- en1];refine gg ?_;refine jY (S' := [X,C,F,bx c (pT b) 166,D1]) ?_ ?_
  ·simp only [aO,iS,aL] at hp0 ⊢
   have h2 : (D1 ++ (F ++ (tabB b room la l lc fa free fc r pl ++ (Cl ++ (Cf ++ (Cm ++ (R ++ bx c (pT b) 166))))))).Perm (C ++ (F ++ (bx c (pT b) 166 ++ D1))) := by
    refine (List.Perm.append_left D1 hp0.symm).trans ?_;refine List.perm_append_comm.trans ?_;rw [<- aN C,<- aN,<- aN];refine List.Perm.append_right _ ?_;rw [aN,aN]
    have : (F ++ (C ++ bx c (pT b) 166)).Perm (C ++ (F ++ bx c (pT b) 166)) := by
     rw [<- aN,<- aN];exact List.Perm.append_right _ lH
    simpa only [aN] using this
   exact List.Perm.append_left X h2
  refine zM (fun q D L S => ∃ (j : Nat) (C : zd),j <= ents.length /\ J (es.take j) C /\ q = ents.length - j /\ D = [] /\
   L = [(28,.int .i64 j),(27,.int .i64 ents.length),(26,.slice xa ents.length xc),(0,.func (.yield l0) #[] #[]),(1,pT c)] /\
   S = [X,C,F,bx c (pT b) 166])
   ⟨0,C,oM,hC,rfl,rfl,rfl,rfl⟩ ?_
  rintro q D L S ⟨j,C',hj,hJ,rfl,rfl,rfl,rfl⟩;refine gg ?_;refine if_d (fun hc => ?_) (fun hc => ?_)
  ·have hje : j < ents.length := oM;have hx : ents[j]? = some ents[j] := aE hje;have hjs : j < es.length := oM
   have hee : es[j] = (ents[j].key,ents[j].v) := by
    have := ents_el en3 hx;rw [aE hjs] at this;exact Option.some.inj this
   have hnx : NextX es (es.take j) (ents[j].key,ents[j].v) := ⟨es.drop (j + 1),by rw [<- hee,<- iH,lR]⟩;have htk : es.take j ++ [(ents[j].key,ents[j].v)] = es.take (j + 1) := by rw [List.take_succ_eq_append_getElem hjs,hee]
   have hY' := hY _ _ hnx;rw [htk] at hY';refine gg ?_;refine zF ?_;refine xh hX2 hs hx dM mmA ?_;refine zF ?_;refine zC fun b7 => ?_;(try simp only [Value.cells])
   refine zF ?_;refine xo rfl (WO _) upA (by rfl) ?_;refine gg ?_;refine zF ?_;refine XP (vs := encE ents[j]) (ws := encV ents[j].v) lkA (by simp [encE,encV]) rfl ?_;refine gg ?_;refine xd fun K hK => ?_
   refine jz hY' hJ rfl tkA (fun C4 H4 hJ4 hH4 => ?_) (fun C4 H4 hJ4 hH4 => ?_)
   ·subst hH4
    (try simp only [aD])
    refine hK _ _ ?_;clear hK K;refine gg ?_;exact zI ⟨j + 1,C4,oM,hJ4,rfl,rfl,rfl,rfl⟩
   ·subst hH4
    (try simp only [aD])
    refine hK _ _ ?_;clear hK K;refine gg ?_;exact jO [C4,bx c (pT b) 166] ⟨C4,[bx c (pT b) 166],rfl,.inr ⟨_,_,hnx,by rw [htk];exact hJ4,rfl⟩⟩
  ·obtain rfl : j = ents.length := oM;rw [lE oM] at hJ;refine gg ?_;exact xm [C',bx c (pT b) 166] ⟨C',[bx c (pT b) 166],rfl,.inl ⟨es,rfl,hJ,rfl⟩⟩
theorem Kj (p : OA) : zh prog 139 [.pointer p] []
  fun u A => ∃ c,u = .func (.func 192) #[] #[pT c] /\ A = [bx c (.pointer p) 166] := by
 refine eNg func139 ntmps139 results139 fun F => ?_
 refine oBg fun p1 => ?_
 refine ze [bx p1 (.pointer p) 166] ⟨p1,rfl,rfl⟩
end all
instance iWH_1 : xi prog 248 [(0,1),(1,1),(2,1),(3,1),(4,1),(5,1)] := ⟨kM⟩
theorem new_core (room : Nat) (h1 : 1 <= room) (h2 : room <= 4096) : zh prog 71 [.int .i64 room] [] fun v A => ∃ b r Cm,v = .tuple #[pT b,.int .i64 0] /\ jg Cm r [] /\ A = [[(b,tabO room none 0 0 none 0 0 r (-1) (-1))],Cm] := by
 refine eNg func71 ntmps71 results71 fun F => ?_
 rw [dF (oM : ¬ (room : Int) < 1)];refine gg ?_;rw [dF (oM : ¬ 4096 < (room : Int))];refine gg ?_;refine zF ?_;refine VN fun r Cm hm => ?_
 refine gg ?_;refine oTg [(0,.int .i64 room),(3,.map (some r)),(4,.int .i64 (-1)),(5,.int .i64 (-1))] #[.int .i64 room,nS,nS,.map (some r),.int .i64 (-1),.int .i64 (-1)] ?_;refine oBg fun b => ?_
 refine zf [[(b,tabO room none 0 0 none 0 0 r (-1) (-1))],Cm] ⟨b,r,Cm,rfl,hm,rfl⟩
theorem new_yes (room : Nat) (h1 : 1 <= room) (h2 : room <= 4096) : zh prog 71 [.int .i64 room] [] fun v A => ∃ b T,v = .tuple #[pT b,.int .i64 0] /\ xU T b room [] /\ A = [T] := by
 refine zh.conv [] (new_core room h1 h2) rfl (.nil _) ?_;rintro v A ⟨b,r,Cm,rfl,hm,rfl⟩;exact ⟨[[(b,tabO room none 0 0 none 0 0 r (-1) (-1))] ++ Cm],[[(b,tabO room none 0 0 none 0 0 r (-1) (-1))],Cm],sM,zn.refl _,b,_,rfl,⟨none,0,[],none,0,[],r,[],[],[],[],Cm,⟨zJ,zJ,hm,Rep.new,h2,sM,rfl,sM⟩,rfl⟩,rfl⟩
def putE (room : Nat) (es : List (L8 × V)) (k : L8) (v : V) : Int × List (L8 × V) := if mget es k ≠ none then (7,es) else if room <= es.length then (8,es) else (0,es ++ [(k,v)])
def setE (es : List (L8 × V)) (k : L8) (v : V) : Int × List (L8 × V) := match mget es k with | none => (6,es) | some _ => (0,mput es k v)
def Qk (es : List (L8 × V)) (k : L8) : Int × List (L8 × V) := match mget es k with | none => (6,es) | some _ => (0,mdel es k)
section one
variable {T : zd} {b room : Nat} {es : List (L8 × V)}
theorem tput (h : xU T b room es) (k : L8) (v : V) : zh prog 98 [pT b,sT k,valV v] [T]
  fun r A => r = .int .i64 (putE room es k v).1 /\ ∃ T',xU T' b room (putE room es k v).2 /\ A = [T'] := by
 have h0 := h;obtain ⟨la,lc,l,fa,fc,free,r,m,pl,Cl,Cf,Cm,h,rfl⟩ := h
 cases hm : mget es k with
 | some u =>
  have e : putE room es k v = (7,es) := by unfold putE;rw [hm];rfl
  rw [e];refine zh.conv [tabB b room la l lc fa free fc r pl,Cl,Cf,Cm] (bL h k v (by rw [hm];simp)) flA tkA ?_;rintro v A ⟨rfl,rfl⟩;exact ⟨[tabB b room la l lc fa free fc r pl ++ (Cl ++ (Cf ++ Cm))],[tabB b room la l lc fa free fc r pl,Cl,Cf,Cm],flA,amA,rfl,_,h0,rfl⟩
 | none =>
  by_cases hf : room <= es.length
  ·have e : putE room es k v = (8,es) := by unfold putE;rw [hm,if_neg sM,if_pos hf]
   have hfit := h.fits;rw [e];refine zh.conv [tabB b room la l lc fa free fc r pl,Cl,Cf,Cm] (put_full h k v hm oM) flA tkA ?_;rintro v A ⟨rfl,rfl⟩;exact ⟨[tabB b room la l lc fa free fc r pl ++ (Cl ++ (Cf ++ Cm))],[tabB b room la l lc fa free fc r pl,Cl,Cf,Cm],flA,amA,rfl,_,h0,rfl⟩
  ·have e : putE room es k v = (0,es ++ [(k,v)]) := by unfold putE;rw [hm,if_neg sM,if_neg hf]
   rw [e];refine zh.conv [tabB b room la l lc fa free fc r pl,Cl,Cf,Cm] (put_ok h k v hm oM) flA tkA ?_;rintro v A ⟨rfl,la',lc',l',fa',fc',free',m',pl',Cl',Cf',Cm',h',rfl⟩;exact ⟨[tabB b room la' l' lc' fa' free' fc' r pl' ++ (Cl' ++ (Cf' ++ Cm'))],[tabB b room la' l' lc' fa' free' fc' r pl',Cl',Cf',Cm'],flA,amA,rfl,_,⟨la',lc',l',fa',fc',free',r,m',pl',Cl',Cf',Cm',h',rfl⟩,rfl⟩
theorem tset (h : xU T b room es) (k : L8) (v : V) : zh prog 63 [pT b,sT k,valV v] [T]
  fun r A => r = .int .i64 (setE es k v).1 /\ ∃ T',xU T' b room (setE es k v).2 /\ A = [T'] := by
 have h0 := h;obtain ⟨la,lc,l,fa,fc,free,r,m,pl,Cl,Cf,Cm,h,rfl⟩ := h
 cases hm : mget es k with
 | none =>
  have e : setE es k v = (6,es) := by unfold setE;rw [hm]
  rw [e];refine zh.conv [tabB b room la l lc fa free fc r pl,Cl,Cf,Cm] (set_miss h k v hm) flA tkA ?_;rintro v A ⟨rfl,rfl⟩;exact ⟨[tabB b room la l lc fa free fc r pl ++ (Cl ++ (Cf ++ Cm))],[tabB b room la l lc fa free fc r pl,Cl,Cf,Cm],flA,amA,rfl,_,h0,rfl⟩
 | some u =>
  have e : setE es k v = (0,mput es k v) := by unfold setE;rw [hm]
  rw [e];refine zh.conv [tabB b room la l lc fa free fc r pl,Cl,Cf,Cm] (set_ok h k v u hm) flA tkA ?_;rintro v A ⟨rfl,l',Cl',h',rfl⟩;exact ⟨[tabB b room la l' lc fa free fc r pl ++ (Cl' ++ (Cf ++ Cm))],[tabB b room la l' lc fa free fc r pl,Cl',Cf,Cm],flA,amA,rfl,_,⟨la,lc,l',fa,fc,free,r,m,pl,Cl',Cf,Cm,h',rfl⟩,rfl⟩
theorem tdrop (h : xU T b room es) (k : L8) : zh prog 144 [pT b,sT k] [T]
  fun r A => r = .int .i64 (Qk es k).1 /\ ∃ T',xU T' b room (Qk es k).2 /\ A = [T'] := by
 have h0 := h;obtain ⟨la,lc,l,fa,fc,free,r,m,pl,Cl,Cf,Cm,h,rfl⟩ := h
 cases hm : mget es k with
 | none =>
  have e : Qk es k = (6,es) := by unfold Qk;rw [hm]
  rw [e];refine zh.conv [tabB b room la l lc fa free fc r pl,Cl,Cf,Cm] (gu h k hm) flA tkA ?_;rintro v A ⟨rfl,rfl⟩;exact ⟨[tabB b room la l lc fa free fc r pl ++ (Cl ++ (Cf ++ Cm))],[tabB b room la l lc fa free fc r pl,Cl,Cf,Cm],flA,amA,rfl,_,h0,rfl⟩
 | some u =>
  have e : Qk es k = (0,mdel es k) := by unfold Qk;rw [hm]
  rw [e];refine zh.conv [tabB b room la l lc fa free fc r pl,Cl,Cf,Cm] (drop_ok h k u hm) flA tkA ?_;rintro v A ⟨rfl,la',lc',l',fa',fc',free',m',pl',Cl',Cf',Cm',h',rfl⟩;exact ⟨[tabB b room la' l' lc' fa' free' fc' r pl' ++ (Cl' ++ (Cf' ++ Cm'))],[tabB b room la' l' lc' fa' free' fc' r pl',Cl',Cf',Cm'],flA,amA,rfl,_,⟨la',lc',l',fa',fc',free',r,m',pl',Cl',Cf',Cm',h',rfl⟩,rfl⟩
theorem tget (h : xU T b room es) (k : L8) : zh prog 123 [pT b,sT k] [T]
  fun r A => r = (match mget es k with | none => .tuple #[valV v0,.bool false] | some u => .tuple #[valV u,.bool true]) /\ A = [T] := by
 obtain ⟨la,lc,l,fa,fc,free,r,m,pl,Cl,Cf,Cm,h,rfl⟩ := h
 cases hm : mget es k with
 | none =>
  refine zh.conv [tabB b room la l lc fa free fc r pl,Cl,Cf,Cm] (get_miss h k hm) flA tkA ?_;rintro v A ⟨rfl,rfl⟩;exact ⟨[tabB b room la l lc fa free fc r pl ++ (Cl ++ (Cf ++ Cm))],[tabB b room la l lc fa free fc r pl,Cl,Cf,Cm],flA,amA,rfl,rfl⟩
 | some u =>
  refine zh.conv [tabB b room la l lc fa free fc r pl,Cl,Cf,Cm] (get_ok h k u hm) flA tkA ?_;rintro v A ⟨rfl,rfl⟩;exact ⟨[tabB b room la l lc fa free fc r pl ++ (Cl ++ (Cf ++ Cm))],[tabB b room la l lc fa free fc r pl,Cl,Cf,Cm],flA,amA,rfl,rfl⟩
theorem tfull (h : xU T b room es) : zh prog 141 [pT b] [T] fun v A => v = .bool (decide (es.length = room)) /\ A = [T] := by
 obtain ⟨la,lc,l,fa,fc,free,r,m,pl,Cl,Cf,Cm,h,rfl⟩ := h;have hml := h.rep.mlen;have hfit := h.fits;refine zh.conv [tabB b room la l lc fa free fc r pl,Cl,Cf,Cm] (JN b room h.big la l.length lc fa free.length fc r _ _ Cm m h.im oM) flA tkA ?_;rintro v A ⟨rfl,rfl⟩;rw [hml];exact ⟨[tabB b room la l lc fa free fc r pl ++ (Cl ++ (Cf ++ Cm))],[tabB b room la l lc fa free fc r pl,Cl,Cf,Cm],flA,amA,rfl,rfl⟩
end one
theorem Il {α : Type} {k : L8} {v : α} : ∀ (a b : List (L8 × α)),((a ++ (k,v) :: b).map (·.1)).Nodup -> mdel (a ++ (k,v) :: b) k = a ++ b /\ mget (a ++ (k,v) :: b) k = some v
 | [],b,_ => by simp [mdel,mget]
 | (k',u) :: a,b,h => by
  simp only [aC,iB,List.nodup_cons] at h;obtain ⟨h1,h2⟩ := Il a b h.2
  have hne : k ≠ k' := by
   rintro rfl;exact h.1 sM
  simp only [aC,mdel,mget];rw [if_neg hne,if_neg hne,h1];exact ⟨rfl,h2⟩
def KV (p : L8 × V -> Bool) (es : List (L8 × V)) : Int × List (L8 × V) := ((es.filter p).length,es.filter fun x => !p x)
theorem bM {T : zd} {b room : Nat} {es : List (L8 × V)} (h : xU T b room es) {f : FuncId} {captured : Array Value} {G : zd} (p : L8 × V -> Bool)
  (hg : ∀ x ∈ es,zh prog f (sT x.1 :: valV x.2 :: captured.toList) [G] fun v A => v = .bool (p x) /\ A = [G]) :
  zh prog 197 [pT b,.func (.func f) #[] captured] [T,G]
   fun v A => v = .int .i64 (KV p es).1 /\ ∃ T',xU T' b room (KV p es).2 /\ A = [T',G] := by
 have hlen := h.fits;have hbig : room <= 4096 := by obtain ⟨_,_,_,_,_,_,_,_,_,_,_,_,h,_⟩ := h;exact h.big
 refine eNg func197 ntmps197 results197 fun F => ?_
 refine oBg fun b2 => ?_
 refine oBg fun b3 => ?_
 refine zF ?_;refine zC fun b5 => ?_;(try simp only [Value.cells])
 refine gg ?_;refine cA (Kj _) ?_;rintro v A ⟨c,rfl,rfl⟩;refine gA ?_
 refine jV (by (try simp only [evT,zj,zi,aJ]);(first | done | exact rfl)) (Kl c b room es) (by (repeat (first | exact Take.nil _ | with_reducible exact Pick.head _ _ | with_reducible apply Pick.tail | with_reducible apply Take.cons))) (fun pre C => ∃ suf T',es = pre ++ suf /\ xU T' b room (pre.filter (fun x => !p x) ++ suf) /\
   C = [bx b5 (.int .i64 ((pre.filter p).length : Nat)) 3,bx b3 (.func (.func f) #[] captured) 326,bx b2 (pT b) 166,F,T',G])
  (fun c pre C => False) (fun h => by cases h) (fun C hC => ?_) (fun _ => rfl) ⟨es,T,rfl,h,rfl⟩ ?_ ?_ ?_
 ·obtain ⟨suf,T',e,hT',rfl⟩ := hC;rw [aD] at e;subst e;exact Od hT' pkA
 ·rintro l F1 C H r pre x ⟨suf1,hx⟩ ⟨suf,T',e,hT',rfl⟩ rfl
  obtain rfl : suf = x :: suf1 := by
   rw [e] at hx;exact List.append_cancel_left hx
  obtain ⟨k,v⟩ := x;have hnd := hT'.keys;have hplen : (pre.filter p).length <= pre.length := List.length_filter_le _ _;have hprl : pre.length <= es.length := by rw [e];simp
  (try simp only [aD,aC,aL,encX])
  (try simp only [qP,putT,iN,if_true,reduceIte,Array.toList,mG])
  refine gg ?_;refine zF ?_;refine zC fun b7 => ?_;(try simp only [Value.cells])
  refine oSg (encV v) rfl (qb v) ?_;refine ⟨_,.cons (.tail _ (.head _ _)) (zn.refl _),fun r' _ => ?_⟩;refine gg ?_;refine oL (encV v) rfl ?_;refine cR (hg (k,v) (by rw [hx];simp)) ?_
  cases hp : p (k,v) with
  | false =>
   refine gg ?_;have e1 : (pre ++ [(k,v)]).filter p = pre.filter p := by simp [hp]
   have e2 : (pre ++ [(k,v)]).filter (fun x => !p x) ++ suf1 = pre.filter (fun x => !p x) ++ (k,v) :: suf1 := by simp [hp]
   refine ⟨_,⟨_,[],rfl,⟨suf1,T',by simp [e],by rw [e2];exact hT',rfl⟩,rfl⟩,?_⟩;rw [e1]
   (try simp only [aL])
   first | ((repeat (first | with_reducible exact zn.nil _ | with_reducible exact Pick.head _ _ | with_reducible apply Pick.tail | with_reducible apply zn.cons));done) | ((repeat (first | exact zn.nil _ | exact Pick.head _ _ | apply Pick.tail | apply zn.cons));done)
  | true =>
   obtain ⟨d1,d2⟩ := Il _ _ hnd;have e0 : Qk (pre.filter (fun x => !p x) ++ (k,v) :: suf1) k = (0,pre.filter (fun x => !p x) ++ suf1) := by unfold Qk;rw [d2];simp only [d1]
   have hdr := tdrop hT' k;rw [e0] at hdr;refine gg ?_;refine cA (hdr) ?_;rintro v A ⟨rfl,T2,hT2,rfl⟩;refine gA ?_;have e1 : ((pre ++ [(k,v)]).filter p).length = (pre.filter p).length + 1 := by simp [hp]
   have e2 : (pre ++ [(k,v)]).filter (fun x => !p x) ++ suf1 = pre.filter (fun x => !p x) ++ suf1 := by simp [hp]
   refine ⟨_,⟨_,[],rfl,⟨suf1,T2,by simp [e],by rw [e2];exact hT2,rfl⟩,rfl⟩,?_⟩;rw [e1]
   (try simp only [aL,Int.natCast_add,Int.cast_ofNat_Int])
   first | ((repeat (first | with_reducible exact zn.nil _ | with_reducible exact Pick.head _ _ | with_reducible apply Pick.tail | with_reducible apply zn.cons));done) | ((repeat (first | exact zn.nil _ | exact Pick.head _ _ | apply Pick.tail | apply zn.cons));done)
 ·rintro d pre C A rfl ⟨suf,T',e,hT',rfl⟩ rfl
  obtain rfl : suf = [] := by
   have := congrArg mA e;rw [aB] at this;exact List.length_eq_zero_iff.1 oM
  rw [aL] at hT'
  (try simp only [aD,aC])
  refine gg ?_;refine zf [T',G] ⟨rfl,T',hT',rfl⟩
 ·rintro d c pre x C A hx hI;exact hI.elim
end Go.Proofs.YtebikhhoppiapaaGreatDoor
namespace Go.Proofs.YtebikhhoppiapaaGreatDoor
open Go Go.Ost Go.Tab Go.Sha
abbrev Es := List (L8 × V)
structure NS where
 room : Nat
 win : Int
 es : Es
 ser : Nat
 last : Int
 mark : Int
 mrk : Bool
def oldB (s : NS) (now : Int) (x : L8 × V) : Bool := (decide (x.2.at_ < now) && decide (s.win < now - x.2.at_)) || (s.mrk && decide (x.2.at_ <= s.mark))
def qM (s : NS) (now : Int) : Int × NS := ((KV (oldB s now) s.es).1,{ s with es := (KV (oldB s now) s.es).2 })
def maxI (a b : Int) : Int := if a < b then b else a
def UC (s : NS) : NS := match s.es with
 | [] => s
 | x :: es => { s with es := es,mark := maxI s.mark x.2.at_,mrk := true }
def wg (s : NS) (now : Int) : NS := if s.es.length = s.room then (if 0 < (qM s now).1 then (qM s now).2 else UC s) else s
def nonN (d : L8) (n : Nat) : L8 := d ++ 46 :: hx n
def addN (s : NS) (d : L8) (now : Int) : NS := { s with es := s.es ++ [(nonN d (s.ser + 1),⟨nonN d (s.ser + 1),d,now,false,0⟩)],ser := s.ser + 1,last := now }
def hasD (d : L8) (es : Es) : Bool := es.any fun x => decide (x.2.draw = d)
def zT (s : NS) (d : L8) (now : Int) : (L8 × Int) × NS :=
 if Xp d = false then (([],4),s) else if now < s.last then (([],9),s) else if hasD d s.es then (([],7),s) else ((nonN d (s.ser + 1),0),addN (wg s now) d now)
def yn (s : NS) (now : Int) (v : V) : Bool := !decide (v.at_ <= now /\ now - v.at_ <= s.win) || (s.mrk && decide (v.at_ <= s.mark))
def vX (s : NS) (n : L8) (now : Int) : Int × V := match mget s.es n with
 | none => (6,v0)
 | some v => if yn s now v then (9,v0) else (0,v)
def jP (s : NS) (n : L8) (now : Int) : Int × NS :=
 if (vX s n now).1 = 0 then (if (vX s n now).2.sp || decide (0 < (vX s n now).2.cnt) then (10,s) else (0,{ s with es := mput s.es n { (vX s n now).2 with sp := true } })) else ((vX s n now).1,s)
def useN (s : NS) (n : L8) (c now : Int) : Int × NS :=
 if (vX s n now).1 = 0 then (if c = 0 then (1,s) else if (vX s n now).2.sp || decide (c <= (vX s n now).2.cnt) then (10,s) else (0,{ s with es := mput s.es n { (vX s n now).2 with cnt := c } })) else ((vX s n now).1,s)
theorem qR (s : NS) (n : L8) (now : Int) : (vX s n now = (6,v0) /\ mget s.es n = none) ∨ ∃ v,mget s.es n = some v /\ ((vX s n now = (9,v0) /\ yn s now v = true) ∨ (vX s n now = (0,v) /\ yn s now v = false)) := by
 unfold vX
 cases mget s.es n with
 | none => exact .inl ⟨rfl,rfl⟩
 | some v =>
  refine .inr ⟨v,rfl,?_⟩
  cases h : yn s now v with
  | true => exact .inl ⟨by simp [h],rfl⟩
  | false => exact .inr ⟨by simp [h],rfl⟩
theorem gC : ∀ i < 16,∀ j < 16,xB.getD i 0 = xB.getD j 0 -> i = j := dM
theorem gD : ∀ i < 16,xB.getD i 0 ≠ 46 := dM
theorem hex2_inj {x y : UInt8} (h : hex2 x = hex2 y) : x = y := by
 simp only [hex2,List.cons.injEq,and_true] at h;have hx := x.toNat_lt;have hy := y.toNat_lt;have h1 := gC _ oM _ oM h.1;have h2 := gC _ oM _ oM h.2;exact UInt8.toNat_inj.1 oM
theorem fU : ∀ {a b : L8},hex a = hex b -> a = b
 | [],[],_ => rfl
 | [],y :: b,h => by simp [hex,hex2] at h
 | x :: a,[],h => by simp [hex,hex2] at h
 | x :: a,y :: b,h => by
  simp only [hex,iU] at h;obtain ⟨h1,h2⟩ := List.append_inj h (by simp [hex2]);rw [hex2_inj h1,fU (a := a) (b := b) h2]
theorem hx_inj {n m : Nat} (hn : n < 65536) (hm : m < 65536) (h : hx n = hx m) : n = m := by
 have h1 := fU h;have e6 := Vc 8 n 6 dM;have e7 := Vc 8 n 7 dM;have f6 := Vc 8 m 6 dM;have f7 := Vc 8 m 7 dM;rw [h1] at e6 e7;have g6 := congrArg UInt8.toNat (e6.symm.trans f6);have g7 := congrArg UInt8.toNat (e7.symm.trans f7);simp only [iO,show 8 - 1 - 6 = 1 from rfl,show 8 - 1 - 7 = 0 from rfl,Nat.pow_one,Nat.pow_zero,Nat.div_one] at g6 g7;omega
theorem hx_dot (n : Nat) : ∀ c ∈ hx n,c ≠ 46 := by
 intro c hc;unfold hx hex at hc;obtain ⟨x,_,hx⟩ := List.mem_flatMap.1 hc;have hlt := x.toNat_lt;simp only [hex2,aY,aT,or_false] at hx
 rcases hx with rfl | rfl
 ·exact gD _ oM
 ·exact gD _ oM
theorem non_inj {d e : L8} {n m : Nat} (hn : n < 65536) (hm : m < 65536) (h : nonN d n = nonN e m) : d = e /\ n = m := by
 unfold nonN at h;obtain ⟨h1,h2⟩ := List.append_inj' h (by simp [Iu]);exact ⟨h1,hx_inj hn hm (List.cons.inj h2).2⟩
theorem non_len (d : L8) (n : Nat) : (nonN d n).length = d.length + 17 := by simp [nonN,Iu]
structure EnOk (ser : Nat) (x : L8 × V) : Prop where
 key : x.1 = x.2.non
 draw : x.2.draw.length <= 40
 num : ∃ n,n <= ser /\ x.2.non = nonN x.2.draw n
 at0 : 0 <= x.2.at_
 c0 : 0 <= x.2.cnt
structure NOk (s : NS) : Prop where
 r1 : 1 <= s.room
 r2 : s.room <= 64
 w1 : 1 <= s.win
 w2 : s.win <= 1099511627776
 ser : s.ser <= 1000
 fit : s.es.length <= s.room
 mk0 : s.mrk = false -> s.mark = 0
 mark0 : 0 <= s.mark
 last0 : 0 <= s.last
 en : ∀ x ∈ s.es,EnOk s.ser x
theorem EnOk.le {a b : Nat} {x : L8 × V} (h : EnOk a x) (hab : a <= b) : EnOk b x := by
 obtain ⟨h1,h2,⟨n,hn,h3⟩,h4,h5⟩ := h;exact ⟨h1,h2,⟨n,oM,h3⟩,h4,h5⟩
theorem qH {es : Es} {s : L8} {v : V} (h : mget es s = some v) : (s,v) ∈ es := by
 obtain ⟨pre,post,h1,_⟩ := ki h;rw [h1];simp
theorem NOk.fresh {s : NS} (h : NOk s) (d : L8) : mget s.es (nonN d (s.ser + 1)) = none := by
 cases hm : mget s.es (nonN d (s.ser + 1)) with
 | none => rfl
 | some v =>
  exfalso
  obtain ⟨h1,_,⟨n,hn,h3⟩,_⟩ := h.en _ (qH hm);have := h.ser;simp only at h1 h3;rw [<- h1] at h3;have := (non_inj oM oM h3).2;omega
theorem Qv {s : NS} {now : Int} (h : ¬ 0 < (qM s now).1) : (KV (oldB s now) s.es).2 = s.es := by
 have h0 : (s.es.filter (oldB s now)).length = 0 := by
  have h1 : ¬ (0 : Int) < ((s.es.filter (oldB s now)).length : Nat) := h;omega
 show s.es.filter (fun x => !oldB s now x) = s.es
 rw [List.filter_eq_self];intro x hx
 cases ho : oldB s now x with
 | false => rfl
 | true =>
  have := List.mem_filter.2 ⟨hx,ho⟩;rw [List.length_eq_zero_iff.1 h0] at this
  cases this
theorem ok_sub {s : NS} (h : NOk s) {es : Es} (hs : ∀ x ∈ es,x ∈ s.es) (hl : es.length <= s.es.length) : NOk { s with es := es } := by
 obtain ⟨h1,h2,h3,h4,h5,h6,h7,h8,h9,h10⟩ := h;exact ⟨h1,h2,h3,h4,h5,mN hl h6,h7,h8,h9,fun x hx => h10 x (hs x hx)⟩
theorem ok_sweep {s : NS} (h : NOk s) (now : Int) : NOk (qM s now).2 :=
 ok_sub h (fun x hx => (List.mem_filter.1 hx).1) (List.length_filter_le _ _)
theorem max_ge (a b : Int) : a <= maxI a b /\ b <= maxI a b := by unfold maxI;split <;> omega
theorem ok_drop {s : NS} (h : NOk s) : NOk (UC s) := by
 obtain ⟨room,win,es,ser,last,mark,mk⟩ := s;obtain ⟨h1,h2,h3,h4,h5,h6,h7,h8,h9,h10⟩ := h
 cases es with
 | nil => exact ⟨h1,h2,h3,h4,h5,h6,h7,h8,h9,h10⟩
 | cons x es =>
  have h11 := max_ge mark x.2.at_;have h12 : 0 <= mark := h8;have h13 : es.length + 1 <= room := h6;exact ⟨h1,h2,h3,h4,h5,by show es.length <= room;omega,(fun h => by cases h),by show 0 <= maxI mark x.2.at_;omega,h9,fun y hy => h10 y (aK _ hy)⟩
theorem Ue {s : NS} (h : NOk s) (now : Int) : NOk (wg s now) := by
 unfold wg
 split
 ·split
  ·exact ok_sweep h now
  ·exact ok_drop h
 ·exact h
theorem XJ (s : NS) (now : Int) : (wg s now).ser = s.ser := by
 unfold wg
 split
 ·split
  ·rfl
  ·unfold UC;split <;> rfl
 ·rfl
theorem Zv (s : NS) (now : Int) : (wg s now).room = s.room := by
 unfold wg
 split
 ·split
  ·rfl
  ·unfold UC;split <;> rfl
 ·rfl
theorem cw {α : Type} (p : α -> Bool) (l : List α) : (l.filter p).length + (l.filter fun x => !p x).length = l.length := by
 induction l with
 | nil => rfl
 | cons x l ih =>
  simp only [List.filter_cons,aH]
  cases p x <;> simp <;> omega
theorem Vw {s : NS} (h : NOk s) (now : Int) : (wg s now).es.length < s.room := by
 have hr := h.r1;have hf := h.fit;unfold wg
 split
 ·rename_i he
  split
  ·rename_i hp
   have h1 : (0 : Int) < ((s.es.filter (oldB s now)).length : Nat) := hp;have h2 := cw (oldB s now) s.es
   show (s.es.filter fun x => !oldB s now x).length < s.room
   omega
  ·unfold UC
   split
   ·rename_i h0
    rw [h0] at he;simp at he;omega
   ·rename_i x es h0
    rw [h0] at he;simp at he ⊢;omega
 ·omega
theorem ok_add {s : NS} (h : NOk s) (hf : s.es.length < s.room) (hser : s.ser < 1000) (d : L8) (hd : d.length <= 40) (now : Int) (hn : 0 <= now) : NOk (addN s d now) := by
 obtain ⟨h1,h2,h3,h4,h5,h6,h7,h8,h9,h10⟩ := h;refine ⟨h1,h2,h3,h4,by show s.ser + 1 <= 1000;omega,by show (s.es ++ [_]).length <= s.room;simp;omega,h7,h8,hn,fun x hx => ?_⟩
 rcases List.mem_append.1 hx with hx | hx
 ·exact (h10 x hx).le (Nat.le_succ _)
 ·rw [List.mem_singleton.1 hx];exact ⟨rfl,hd,⟨s.ser + 1,aR _,rfl⟩,hn,by show (0 : Int) <= 0;omega⟩
theorem IG {d : L8} (h : ¬ Xp d = false) : d.length <= 40 := by
 have h' : Xp d = true := by cases hb : Xp d <;> simp_all
 simp only [Xp,aM,decide_eq_true_eq] at h';exact h'.2.2
theorem Ia {s : NS} (h : NOk s) (hser : s.ser < 1000) (d : L8) (now : Int) (hn : 0 <= now) : NOk (zT s d now).2 := by
 unfold zT
 split
 ·exact h
 ·rename_i hd
  split
  ·exact h
  ·split
   ·exact h
   ·exact ok_add (Ue h now) (by rw [Zv];exact Vw h now) (by rw [XJ];exact hser) d (IG hd) now hn
theorem fP (s : NS) (d : L8) (now : Int) : (zT s d now).2.ser <= s.ser + 1 := by
 unfold zT
 split
 ·exact Nat.le_succ _
 ·split
  ·exact Nat.le_succ _
  ·split
   ·exact Nat.le_succ _
   ·show (wg s now).ser + 1 <= _
    rw [XJ];exact aR _
theorem ok_put {s : NS} (h : NOk s) {n : L8} {v w : V} (hm : mget s.es n = some v) (h1 : w.non = v.non) (h2 : w.draw = v.draw) (h3 : w.at_ = v.at_) (h4 : 0 <= w.cnt) : NOk { s with es := mput s.es n w } := by
 obtain ⟨pre,post,e1,e2,_,_⟩ := ki hm;obtain ⟨k1,k2,k3,k4,k5,k6,k7,k8,k9,k10⟩ := h;refine ⟨k1,k2,k3,k4,k5,?_,k7,k8,k9,fun x hx => ?_⟩
 ·show (mput s.es n w).length <= s.room
  rw [e2];rw [e1] at k6;simpa using k6
 ·have hx' : x ∈ mput s.es n w := hx;rw [e2] at hx';rw [e1] at k10
  rcases List.mem_append.1 hx' with hx' | hx'
  ·exact k10 x (by simp [hx'])
  ·rcases List.mem_cons.1 hx' with rfl | hx'
   ·obtain ⟨q1,q2,⟨m,hm,q3⟩,q4,q5⟩ := k10 (n,v) sM;exact ⟨q1.trans h1.symm,by show w.draw.length <= 40;rw [h2];exact q2,⟨m,hm,by show w.non = nonN w.draw m;rw [h1,h2];exact q3⟩,by show 0 <= w.at_;rw [h3];exact q4,h4⟩
   ·exact k10 x (by simp [hx'])
theorem OZ {s : NS} (h : NOk s) (n : L8) (now : Int) : NOk (jP s n now).2 := by
 unfold jP
 rcases qR s n now with ⟨e,_⟩ | ⟨v,hm,⟨e,_⟩ | ⟨e,_⟩⟩
 ·rw [e];exact h
 ·rw [e];exact h
 ·rw [e,if_pos rfl]
  split
  ·exact h
  ·exact ok_put h hm rfl rfl rfl (h.en _ (qH hm)).c0
theorem ok_use {s : NS} (h : NOk s) (n : L8) (c : Int) (hc : 0 <= c) (now : Int) : NOk (useN s n c now).2 := by
 unfold useN
 rcases qR s n now with ⟨e,_⟩ | ⟨v,hm,⟨e,_⟩ | ⟨e,_⟩⟩
 ·rw [e];exact h
 ·rw [e];exact h
 ·rw [e,if_pos rfl]
  split
  ·exact h
  ·split
   ·exact h
   ·exact ok_put h hm rfl rfl rfl hc
theorem dz (s : NS) (n : L8) (now : Int) : (jP s n now).2.ser = s.ser := by
 unfold jP;split
 ·split <;> rfl
 ·rfl
theorem use_ser (s : NS) (n : L8) (c now : Int) : (useN s n c now).2.ser = s.ser := by
 unfold useN;split
 ·split
  ·rfl
  ·split <;> rfl
 ·rfl
open Tryz
abbrev nB (q b : Nat) (s : NS) : zd := [(q,.cells #[.int .i64 s.room,.int .u64 s.win,pT b,.int .u64 s.ser,.int .u64 s.last,.int .u64 s.mark,.bool s.mrk] 168 (0,0))]
abbrev XE (v : V) : LV := [sT v.non,.int .u64 v.at_,.bool v.sp,.int .u32 v.cnt]
instance iKA_1 : xi prog 163 [(0,1),(1,1),(2,1),(3,1)] := ⟨kM⟩
instance iKA_2 : xi prog 168 [(0,2),(2,1),(3,1),(4,1),(5,1),(6,1)] := ⟨kM⟩
theorem Oz {s : NS} {n : L8} {now : Int} {v : V} (e : vX s n now = (0,v)) : jP s n now = if (v.sp || decide (0 < v.cnt)) = true then (10,s) else (0,{ s with es := mput s.es n { v with sp := true } }) := by
 unfold jP;rw [e];rfl
theorem XG {s : NS} {n : L8} {now E : Int} {v : V} (e : vX s n now = (E,v)) (hE : E ≠ 0) : jP s n now = (E,s) := by
 unfold jP;rw [e,if_neg hE]
theorem use_of {s : NS} {n : L8} {c now : Int} {v : V} (e : vX s n now = (0,v)) : useN s n c now = if c = 0 then (1,s) else if (v.sp || decide (c <= v.cnt)) = true then (10,s) else (0,{ s with es := mput s.es n { v with cnt := c } }) := by
 unfold useN;rw [e];rfl
theorem Of {s : NS} {n : L8} {c now E : Int} {v : V} (e : vX s n now = (E,v)) (hE : E ≠ 0) : useN s n c now = (E,s) := by
 unfold useN;rw [e,if_neg hE]
theorem Qh (n f d : Int) (hf : 0 <= f) (hn2 : n < 18446744073709551616) :
  zh prog 124 [.int .u64 n,.int .u64 f,.int .u64 d] [] fun v A => v = .bool (decide (f <= n /\ n - f <= d)) /\ A = [] := by
 refine eNg func124 ntmps124 results124 fun F => ?_
 by_cases h : f <= n
 ·rw [dT h];refine gg ?_;refine ze [] ?_;exact ⟨by simp [h],rfl⟩
 ·rw [dF h];refine gg ?_;refine ze [] ?_;exact ⟨by simp [h],rfl⟩
theorem old_spec {q b : Nat} (s : NS) (v : V) (hv : 0 <= v.at_) (now : Int) (hn : now < 18446744073709551616) (k : L8) :
  zh prog 199 [pT q,valV v,.int .u64 now] [nB q b s] fun r A => r = .bool (oldB s now (k,v)) /\ A = [nB q b s] := by
 have hB : oldB s now (k,v) = (decide (v.at_ < now) && decide (s.win < now - v.at_) || (s.mrk && decide (v.at_ <= s.mark))) := rfl;rw [hB];refine eNg func199 ntmps199 results199 fun F => ?_
 refine oB fun b4 => ?_
 simp only [encV];refine gg ?_;refine cdLg [[0],[1],[2],[3],[4],[5],[6],[7],[8],[9],[10],[11],[12],[13],[14],[15],[16],[17],[18],[19],[20],[21],[22],[23],[24],[25],[26],[27],[28],[29],[30],[31,0]] ?_
 by_cases h1 : v.at_ < now
 ·rw [dT h1];refine gg ?_
  by_cases h2 : s.win < now - v.at_
  ·rw [dT h2];refine gg ?_;refine ze [nB q b s] ?_;exact ⟨rfl,rfl⟩
  ·rw [dF h2];refine gg ?_
   cases hm : s.mrk with
   | true =>
    refine gg ?_;refine ze [nB q b s] ?_;exact ⟨rfl,rfl⟩
   | false =>
    refine gg ?_;refine ze [nB q b s] ?_;exact ⟨rfl,rfl⟩
 ·rw [dF h1];refine gg ?_
  cases hm : s.mrk with
  | true =>
   refine gg ?_;refine ze [nB q b s] ?_;exact ⟨rfl,rfl⟩
  | false =>
   refine gg ?_;refine ze [nB q b s] ?_;exact ⟨rfl,rfl⟩
theorem fe (n now : Value) : zh prog 62 [.pointer none,n,now] [] fun v A => v = .tuple #[valV v0,.int .i64 6] /\ A = [] := by
 refine eNg func62 ntmps62 results62 fun F => ?_
 refine oAg (encV v0).toArray fun b4 => ?_
 refine oT [] (encV v0).toArray ?_;refine oSg (encV v0) rfl (qb _) ?_;exact zf (vs := [valV v0,.int .i64 6]) [] ⟨rfl,rfl⟩ (hr := by (intro κ hκ;simp only [resW,zy,zj,zi,aJ];exact zz (vs := encV v0) lkA rfl hκ))
theorem QI {T : zd} {b q : Nat} {s : NS} (hs : NOk s) (hT : xU T b s.room s.es) (n : L8) (now : Int) (hn : now < 18446744073709551616) :
  zh prog 62 [pT q,sT n,.int .u64 now] [nB q b s,T] fun v A => v = .tuple #[valV (vX s n now).2,.int .i64 (vX s n now).1] /\ A = [nB q b s,T] := by
 have htg := tget hT n;refine eNg func62 ntmps62 results62 fun F => ?_
 refine oAg (encV v0).toArray fun b4 => ?_
 rcases qR s n now with ⟨e,hm⟩ | ⟨v,hm,h⟩
 ·rw [hm] at htg;rw [e];refine cR (htg) ?_;refine oA (encV v0).toArray fun b6 => ?_
  refine oSg (encV v0) rfl (qb _) ?_;refine oT [] (encV v0).toArray ?_;refine oSg (encV v0) rfl (qb _) ?_;exact zf (vs := [valV v0,.int .i64 6]) [nB q b s,T] ⟨rfl,rfl⟩ (hr := by (intro κ hκ;simp only [resW,zy,zj,zi,aJ];exact zz (vs := encV v0) lkA rfl hκ))
 ·have hv0 := (hs.en _ (qH hm)).at0;rw [hm] at htg;have key : yn s now v = (!decide (v.at_ <= now /\ now - v.at_ <= s.win) || (s.mrk && decide (v.at_ <= s.mark))) := rfl;refine cR (htg) ?_;refine oA (encV v0).toArray fun b6 => ?_
  refine oSg (XE v) rfl (qb v) ?_;refine cdLg [[0],[1],[2],[3],[4],[5],[6],[7],[8,0],[9],[10],[11],[12],[13],[14],[15],[16],[17],[18],[19],[20],[21],[22],[23],[24],[25,0]] ?_;refine dR (Qh now v.at_ s.win hv0 hn) ?_
  by_cases h1 : v.at_ <= now /\ now - v.at_ <= s.win
  ·rw [dT h1] at key ⊢;refine gg ?_
   cases hm2 : s.mrk with
   | true =>
    rw [hm2] at key;refine gg ?_
    by_cases h3 : v.at_ <= s.mark
    ·rw [dT h3] at key ⊢;have hB : yn s now v = true := key;refine gg ?_;have e := h.elim (fun h => h.1) (fun h => by rw [hB] at h;cases h.2);refine oT [] (encV v0).toArray ?_;refine oSg (encV v0) rfl (qb _) ?_;exact zf (vs := [valV v0,.int .i64 9]) [nB q b s,T] ⟨by rw [e];rfl,rfl⟩ (hr := by (intro κ hκ;simp only [resW,zy,zj,zi,aJ];exact zz (vs := encV v0) lkA rfl hκ))
    ·rw [dF h3] at key ⊢;have hB : yn s now v = false := key;refine gg ?_;have e := h.elim (fun h => by rw [hB] at h;cases h.2) (fun h => h.1);refine oL (XE v) rfl ?_;refine oSg (XE v) rfl (qb v) ?_;exact zf (vs := [valV v,.int .i64 0]) [nB q b s,T] ⟨by rw [e];rfl,rfl⟩ (hr := by (intro κ hκ;simp only [resW,zy,zj,zi,aJ];exact zz (vs := XE v) lkA rfl hκ))
   | false =>
    rw [hm2] at key;have hB : yn s now v = false := key;refine gg ?_;have e := h.elim (fun h => by rw [hB] at h;cases h.2) (fun h => h.1);refine oL (XE v) rfl ?_;refine oSg (XE v) rfl (qb v) ?_;exact zf (vs := [valV v,.int .i64 0]) [nB q b s,T] ⟨by rw [e];rfl,rfl⟩ (hr := by (intro κ hκ;simp only [resW,zy,zj,zi,aJ];exact zz (vs := XE v) lkA rfl hκ))
  ·rw [dF h1] at key ⊢;have hB : yn s now v = true := key;refine gg ?_;have e := h.elim (fun h => h.1) (fun h => by rw [hB] at h;cases h.2);refine oT [] (encV v0).toArray ?_;refine oSg (encV v0) rfl (qb _) ?_;exact zf (vs := [valV v0,.int .i64 9]) [nB q b s,T] ⟨by rw [e];rfl,rfl⟩ (hr := by (intro κ hκ;simp only [resW,zy,zj,zi,aJ];exact zz (vs := encV v0) lkA rfl hκ))
theorem bW (n now : Value) : zh prog 20 [.pointer none,n,now] [] fun v A => v = .int .i64 6 /\ A = [] := by
 refine eNg func20 ntmps20 results20 fun F => ?_
 refine cR (fe n now) ?_;refine oA (encV v0).toArray fun b7 => ?_
 refine oSg (encV v0) rfl (qb _) ?_;refine ze [] ?_;exact ⟨rfl,rfl⟩
theorem Uh {T : zd} {b q : Nat} {s : NS} (hs : NOk s) (hT : xU T b s.room s.es) (n : L8) (now : Int) (hn : now < 18446744073709551616) :
  zh prog 20 [pT q,sT n,.int .u64 now] [nB q b s,T]
   fun v A => v = .int .i64 (jP s n now).1 /\ ∃ T',xU T' b s.room (jP s n now).2.es /\ A = [nB q b (jP s n now).2,T'] := by
 have hf := QI (q := q) hs hT n now hn;refine eNg func20 ntmps20 results20 fun F => ?_
 rcases qR s n now with ⟨e,hm⟩ | ⟨v,hm,⟨e,_⟩ | ⟨e,_⟩⟩
 ·rw [e] at hf;rw [XG e dM];refine cR (hf) ?_;refine oA (encV v0).toArray fun b7 => ?_
  refine oSg (encV v0) rfl (qb _) ?_;refine ze [nB q b s,T] ⟨rfl,T,hT,rfl⟩
 ·rw [e] at hf;rw [XG e dM];refine cR (hf) ?_;refine oA (encV v0).toArray fun b7 => ?_
  refine oSg (encV v0) rfl (qb _) ?_;refine ze [nB q b s,T] ⟨rfl,T,hT,rfl⟩
 ·have hc0 := (hs.en _ (qH hm)).c0;simp only at hc0;rw [e] at hf;rw [Oz e];refine cR (hf) ?_;refine oA (encV v0).toArray fun b7 => ?_
  refine oSg (XE v) rfl (qb v) ?_
  cases hsp : v.sp with
  | true =>
   refine gg ?_;refine ze [nB q b s,T] ⟨rfl,T,hT,rfl⟩
  | false =>
   refine gg ?_
   by_cases h0 : 0 < v.cnt
   ·rw [dT h0];refine gg ?_;refine ze [nB q b s,T] ⟨rfl,T,hT,rfl⟩
   ·rw [dF h0,Bool.or_false,if_neg sM];refine gg ?_;refine cdLg [[0],[1],[2],[3],[4],[5],[6,0],[7,0]] ?_;refine qF ?_;refine zz (vs := [sT v.non,.int .u64 v.at_,.bool true,.int .u32 v.cnt]) lkA rfl ?_;have hts := tset hT n { v with sp := true };rw [show setE s.es n { v with sp := true } = (0,mput s.es n { v with sp := true }) from by unfold setE;rw [hm]] at hts;refine dA (hts) ?_;rintro v A ⟨rfl,T',hT',rfl⟩;refine pC ?_;refine ze [nB q b s,T'] ⟨rfl,T',hT',rfl⟩
theorem eY {T : zd} {b q : Nat} {s : NS} (hs : NOk s) (hT : xU T b s.room s.es) (n : L8) (c now : Int) (hc : 0 <= c) (hn : now < 18446744073709551616) :
  zh prog 44 [pT q,sT n,.int .u32 c,.int .u64 now] [nB q b s,T]
   fun v A => v = .int .i64 (useN s n c now).1 /\ ∃ T',xU T' b s.room (useN s n c now).2.es /\ A = [nB q b (useN s n c now).2,T'] := by
 have hf := QI (q := q) hs hT n now hn;refine eNg func44 ntmps44 results44 fun F => ?_
 rcases qR s n now with ⟨e,hm⟩ | ⟨v,hm,⟨e,_⟩ | ⟨e,_⟩⟩
 ·rw [e] at hf;rw [Of e dM];refine cR (hf) ?_;refine oA (encV v0).toArray fun b7 => ?_
  refine oSg (encV v0) rfl (qb _) ?_;refine ze [nB q b s,T] ⟨rfl,T,hT,rfl⟩
 ·rw [e] at hf;rw [Of e dM];refine cR (hf) ?_;refine oA (encV v0).toArray fun b7 => ?_
  refine oSg (encV v0) rfl (qb _) ?_;refine ze [nB q b s,T] ⟨rfl,T,hT,rfl⟩
 ·have hc0 := (hs.en _ (qH hm)).c0;simp only at hc0;rw [e] at hf;rw [use_of e];refine cR (hf) ?_;refine oA (encV v0).toArray fun b7 => ?_
  refine oSg (XE v) rfl (qb v) ?_;refine if_b (fun hc => ?_) (fun hc => ?_)
  ·subst hc;rw [if_pos rfl];refine gg ?_;refine ze [nB q b s,T] ⟨rfl,T,hT,rfl⟩
  ·rw [if_neg hc];refine gg ?_
   cases hsp : v.sp with
   | true =>
    refine gg ?_;refine ze [nB q b s,T] ⟨rfl,T,hT,rfl⟩
   | false =>
    refine gg ?_
    by_cases h0 : c <= v.cnt
    ·rw [dT h0];refine gg ?_;refine ze [nB q b s,T] ⟨rfl,T,hT,rfl⟩
    ·rw [dF h0,Bool.or_false,if_neg sM];refine gg ?_;refine cdLg [[0],[1],[2],[3],[4],[5],[6,0],[7,0]] ?_;refine qF ?_;refine zz (vs := [sT v.non,.int .u64 v.at_,.bool v.sp,.int .u32 c]) lkA rfl ?_;have hts := tset hT n { v with cnt := c };rw [show setE s.es n { v with cnt := c } = (0,mput s.es n { v with cnt := c }) from by unfold setE;rw [hm]] at hts;refine dA (hts) ?_;rintro v A ⟨rfl,T',hT',rfl⟩;refine pC ?_;refine ze [nB q b s,T'] ⟨rfl,T',by rw [hsp] at hT';exact hT',rfl⟩
end Go.Proofs.YtebikhhoppiapaaGreatDoor
namespace Go.Proofs.YtebikhhoppiapaaGreatDoor
open Go Go.Ost Go.Tab Tryz
abbrev vB (b : Nat) (v : V) : zd := [(b,.cells (encV v).toArray 163 (0,0))]
def oldE (es : List (L8 × V)) : LV := match es with | [] => [sT [],valV v0,.bool false] | x :: _ => [sT x.1,valV x.2,.bool true]
theorem Ud {b room : Nat} {es : List (L8 × V)} (T : zd) (h : xU T b room es) : zh prog 143 [pT b] [T]
  fun v A => v = .tuple (oldE es).toArray /\ A = [T] := by
 refine eNg func143 ntmps143 results143 fun F => ?_
 refine zF ?_;refine zC fun b2 => ?_;(try simp only [Value.cells])
 refine gg ?_;refine oAg (encV v0).toArray fun b3 => ?_
 refine zF ?_;refine zC fun b4 => ?_;(try simp only [Value.cells])
 refine gg ?_;refine cA (Kj _) ?_;rintro v A ⟨c,rfl,rfl⟩;refine gA ?_
 refine jV (by (try simp only [evT,zj,zi,aJ]);(first | done | exact rfl)) (Kl c b room es) (by (repeat (first | exact Take.nil _ | with_reducible exact Pick.head _ _ | with_reducible apply Pick.tail | with_reducible apply Take.cons))) (fun pre C => pre = [] /\ C = [bx b4 (.bool false) 4,vB b3 v0,bx b2 (sT []) 9,F,T])
  (fun c pre C => ∃ x suf,c = .ret /\ es = x :: suf /\ C = [bx b4 (.bool true) 4,vB b3 x.2,bx b2 (sT x.1) 9,F,T]) (fun h => by cases h)
  (fun C hC => by obtain ⟨_,rfl⟩ := hC;exact Od h pkA) (fun _ => rfl) ⟨rfl,rfl⟩ ?_ ?_ ?_
 ·rintro l F1 C H r pre x ⟨suf,hx⟩ ⟨rfl,rfl⟩ rfl
  (try simp only [aD,aC,aL,encX])
  (try simp only [qP,putT,iN,if_true,reduceIte,Array.toList,mG])
  refine gg ?_;refine oA (encV v0).toArray fun b6 => ?_
  refine oSg (encV x.2) rfl (qb _) ?_;refine ⟨_,.cons (.tail _ (.head _ _)) (zn.refl _),fun r' _ => ?_⟩;refine gg ?_;refine cdLg [[0],[1],[2,0,1],[3,0],[4,0]] ?_;refine qF ?_;refine zz (vs := encV x.2) lkA rfl ?_;refine zG ?_;refine xq trivial upA sM ?_;refine pend ?_ (zz (vs := encV x.2) lkA rfl rfl);refine zG ?_;refine xo (vs := encV x.2) rfl (qb _) upA (by rfl) ?_;refine pD ?_;refine zG ?_;refine xq trivial upA sM ?_;refine pC ?_;exact ⟨[bx b4 (.bool true) 4,vB b3 x.2,bx b2 (sT x.1) 9,F,T],⟨_,[],rfl,⟨x,suf,rfl,hx,rfl⟩,rfl⟩,amA⟩
 ·rintro d pre C A rfl ⟨rfl,rfl⟩ rfl
  (try simp only [aD,aC])
  refine gg ?_;refine oAg (encV v0).toArray fun b7 => ?_
  refine cdLg [[0],[1,0,0],[2,0],[3,0]] ?_;refine qF ?_;refine zz (vs := encV v0) lkA rfl ?_;refine zG ?_;refine xq trivial upA sM ?_;refine pend ?_ (zz (vs := encV v0) lkA rfl rfl);refine zG ?_;refine xo (vs := encV v0) rfl (qb _) upA (by rfl) ?_;refine pD ?_;refine zG ?_;refine xq trivial upA sM ?_;refine pC ?_;exact zf (vs := oldE []) [T] ⟨rfl,rfl⟩ (hr := by (intro κ hκ;simp only [resW,zy,zj,zi,aJ];refine xf lkA rfl ?_;refine zz (vs := encV v0) lkA rfl ?_;refine xf lkA rfl ?_;exact hκ))
 ·rintro d c pre x C A hx ⟨y,suf,rfl,rfl,rfl⟩ rfl
  (try simp only [aD,aC])
  refine gg ?_;exact zf (vs := oldE (y :: suf)) [T] ⟨rfl,rfl⟩ (hr := by (intro κ hκ;simp only [resW,zy,zj,zi,aJ];refine xf lkA rfl ?_;refine zz (vs := encV y.2) lkA rfl ?_;refine xf lkA rfl ?_;exact hκ))
open Go.Sha
theorem IX {q b p p2 : Nat} (s : NS) (now : Int) (hn : now < 18446744073709551616) (x : L8 × V) (hx : 0 <= x.2.at_) :
  zh prog 198 [sT x.1,valV x.2,pT p,pT p2] [bx p (pT q) 25,bx p2 (.int .u64 now) 34,nB q b s]
   fun r A => r = .bool (oldB s now x) /\ A = [bx p (pT q) 25,bx p2 (.int .u64 now) 34,nB q b s] := by
 refine eNg func198 ntmps198 results198 fun F => ?_
 refine oBg fun b5 => ?_
 refine oLg (encV x.2) rfl ?_;refine cR (old_spec s x.2 hx now hn x.1) ?_;refine ze [bx p (pT q) 25,bx p2 (.int .u64 now) 34,nB q b s] ?_;exact ⟨rfl,rfl⟩
theorem Yj {q b p p2 : Nat} (s : NS) (now : Int) (hn : now < 18446744073709551616) (x : L8 × V) (hx : 0 <= x.2.at_) :
  zh prog 198 [sT x.1,valV x.2,pT p,pT p2] [bx p (pT q) 25 ++ (bx p2 (.int .u64 now) 34 ++ nB q b s)]
   fun r A => r = .bool (oldB s now x) /\ A = [bx p (pT q) 25 ++ (bx p2 (.int .u64 now) 34 ++ nB q b s)] := by
 refine zh.conv [bx p (pT q) 25,bx p2 (.int .u64 now) 34,nB q b s] (IX s now hn x hx) flA tkA ?_;rintro v A ⟨rfl,rfl⟩;exact ⟨[bx p (pT q) 25 ++ (bx p2 (.int .u64 now) 34 ++ nB q b s)],[bx p (pT q) 25,bx p2 (.int .u64 now) 34,nB q b s],flA,amA,rfl,rfl⟩
theorem Ug {T : zd} {b q : Nat} {s : NS} (hs : NOk s) (hT : xU T b s.room s.es) (now : Int) (hn : now < 18446744073709551616) :
  zh prog 142 [pT q,.int .u64 now] [nB q b s,T]
   fun v A => v = .int .i64 (qM s now).1 /\ ∃ T',xU T' b s.room (qM s now).2.es /\ A = [nB q b s,T'] := by
 refine eNg func142 ntmps142 results142 fun F => ?_
 refine oBg fun b2 => ?_
 refine oBg fun b3 => ?_
 refine xd fun K hK => ?_
 refine jq (?_ : zh prog 197 _ [T,bx b2 (pT q) 25,bx b3 (.int .u64 now) 34,nB q b s] fun v A => v = .int .i64 (qM s now).1 /\ ∃ T',xU T' b s.room (qM s now).2.es /\ A = [T',bx b2 (pT q) 25,bx b3 (.int .u64 now) 34,nB q b s]) ?_
 ·refine zh.conv [T,bx b2 (pT q) 25 ++ (bx b3 (.int .u64 now) 34 ++ nB q b s)] (bM hT (captured := #[pT b2,pT b3]) (oldB s now) (fun x hx => Yj s now hn x (hs.en x hx).at0)) flA tkA ?_;rintro v A ⟨rfl,T',hT',rfl⟩;exact ⟨[T',bx b2 (pT q) 25,bx b3 (.int .u64 now) 34,nB q b s],[T',bx b2 (pT q) 25 ++ (bx b3 (.int .u64 now) 34 ++ nB q b s)],flA,amA,rfl,T',hT',rfl⟩
 rintro v A ⟨rfl,T',hT',rfl⟩
 (try simp only [aD,aC])
 refine hK _ _ ?_;clear hK K;refine gg ?_;refine ze [nB q b s,T'] ⟨rfl,T',hT',rfl⟩
theorem bX {T : zd} {b q : Nat} {s : NS} (hs : NOk s) (hT : xU T b s.room s.es) (now : Int) (hn : now < 18446744073709551616) :
  zh prog 96 [pT q,.int .u64 now] [nB q b s,T]
   fun v A => v = .tuple #[] /\ ∃ T',xU T' b s.room (wg s now).es /\ A = [nB q b (wg s now),T'] := by
 have htf := tfull hT;have hr := hs.r1;unfold wg;refine eNg func96 ntmps96 results96 fun F => ?_
 by_cases hl : s.es.length = s.room
 ·rw [dT hl] at htf;rw [if_pos hl];refine cR (htf) ?_;have hsw := Ug (q := q) hs hT now hn
  by_cases h0 : 0 < (qM s now).1
  ·rw [if_pos h0];refine cA (hsw) ?_;rintro v A ⟨rfl,T1,hT1,rfl⟩;refine gA ?_;rw [dT h0];refine gg ?_;refine jO [nB q b (qM s now).2,T1] ⟨rfl,T1,hT1,rfl⟩
  ·rw [if_neg h0]
   have he : (qM s now).2 = s := by
    obtain ⟨room,win,es,ser,last,mark,mk⟩ := s
    show (NS.mk room win _ ser last mark mk) = _
    rw [Qv h0]
   rw [he] at hsw;refine cA (hsw) ?_;rintro v A ⟨rfl,T1,hT1,rfl⟩;refine gA ?_;rw [dF h0];refine gg ?_;obtain ⟨room,win,es,ser,last,mark,mk⟩ := s
   cases es with
   | nil => simp only [aQ] at hl hr;omega
   | cons x es =>
    have hdr := tdrop hT1 x.1;rw [show Qk (x :: es) x.1 = (0,es) from by obtain ⟨k,v⟩ := x;simp [Qk,mget,mdel]] at hdr;simp only at hdr;have hold := Ud T1 hT1;simp only [oldE] at hold;refine cR (hold) ?_;refine oAg (encV v0).toArray fun b5 => ?_
    refine oSg (XE x.2) rfl (qb x.2) ?_;refine cA (hdr) ?_;rintro v A ⟨rfl,T2,hT2,rfl⟩;refine gA ?_;refine cdLg [[0],[1],[2],[3],[4],[5],[6],[7],[8],[9],[10],[11,0],[12],[13],[14,0]] ?_;refine xm [nB q b (UC ⟨room,win,x :: es,ser,last,mark,mk⟩),T2] ⟨rfl,T2,hT2,rfl⟩
 ·rw [dF hl] at htf;rw [if_neg hl];refine cR (htf) ?_;refine jO [nB q b s,T] ⟨rfl,T,hT,rfl⟩
def ns0 (room : Nat) (win : Int) : NS := ⟨room,win,[],0,0,0,false⟩
theorem ok_new {room : Nat} {win : Int} (r1 : 1 <= room) (r2 : room <= 64) (w1 : 1 <= win) (w2 : win <= 1099511627776) : NOk (ns0 room win) :=
 ⟨r1,r2,w1,w2,lW _,lW _,fun _ => rfl,Int.le_refl _,Int.le_refl _,fun x hx => by cases hx⟩
theorem nnew_yes (room : Nat) (win : Int) (r1 : 1 <= room) (r2 : room <= 64) (w1 : 1 <= win) (w2 : win <= 1099511627776) : zh prog 25 [.agg #[.int .i64 room,.int .u64 win]] [] fun v A => ∃ q b T,v = .tuple #[pT q,.int .i64 0] /\ xU T b room [] /\ A = [nB q b (ns0 room win),T] := by
 refine eNg func25 ntmps25 results25 fun F => ?_
 refine zF ?_;refine Xr fun b1' => ?_;(try simp only [Value.cells])
 refine gg ?_;rw [dF (oM : ¬ (room : Int) < 1)];refine gg ?_;rw [dF (oM : ¬ 64 < (room : Int))];refine gg ?_;rw [dF (oM : ¬ win < 1)];refine gg ?_;rw [dF (oM : ¬ 1099511627776 < win)];refine gg ?_;refine cA (new_yes room r1 oM) ?_;rintro v A ⟨b,T,rfl,hT,rfl⟩;refine gA ?_;refine oLg [.int .i64 room,.int .u64 win] rfl ?_;refine oTg [(0,.agg #[.int .i64 room,.int .u64 win]),(1,pT b)] #[.int .i64 room,.int .u64 win,pT b,.int .u64 0,.int .u64 0,.int .u64 0,.bool false] ?_;refine oBg fun q => ?_
 refine zf [nB q b (ns0 room win),T] ⟨q,b,T,rfl,hT,rfl⟩
theorem VJ (p : OA) : zh prog 94 [.pointer p] []
  fun u A => ∃ c,u = .func (.func 138) #[] #[pT c] /\ A = [bx c (.pointer p) 25] := by
 refine eNg func94 ntmps94 results94 fun F => ?_
 refine oBg fun p1 => ?_
 refine ze [bx p1 (.pointer p) 25] ⟨p1,rfl,rfl⟩
def gq (x : L8 × V) : LV := [valV x.2]
theorem WB (c1 q b : Nat) (s : NS) :
  wN prog 138 [] [pT c1] gq [bx c1 (pT q) 25]
   (fun T => ∃ T1,xU T1 b s.room s.es /\ T = nB q b s ++ T1) noH noH noH (NextX s.es) (fun pre => pre = s.es)
   (fun _ A => A = [bx c1 (pT q) 25]) (fun _ A => A = [bx c1 (pT q) 25]) false := by
 refine vv kM fun l0 J Jx hN hT hY C hC => ?_
 obtain ⟨_,R,⟨T1,hT1,rfl⟩,hperm⟩ := hT C hC;refine eN func138 ntmps138 results138 fun F => ?_
 refine jY (S' := [F,nB q b s,T1,R,bx c1 (pT q) 25]) ?_ ?_
 ·simp only [aO,iS,aL];refine List.Perm.append_left F ?_;have := hperm.append_right (bx c1 (pT q) 25)
  simpa only [aN] using this
 refine gg ?_;refine oBg fun b2 => ?_
 refine cA (Kj _) ?_;rintro v A ⟨cc,rfl,rfl⟩;refine gA ?_;refine jY (S' := [bx cc (pT b) 166,bx b2 (.func (.yield l0) #[] #[]) 261,C,F,bx c1 (pT q) 25]) ?_ ?_
 ·simp only [aO,iS,aL];refine List.Perm.append_left _ (List.Perm.append_left _ ?_)
  have h1 : (F ++ (nB q b s ++ (T1 ++ (R ++ bx c1 (pT q) 25)))).Perm (F ++ (C ++ bx c1 (pT q) 25)) := by
   refine List.Perm.append_left F ?_;have := hperm.symm.append_right (bx c1 (pT q) 25)
   simpa only [aN] using this
  refine h1.trans ?_;rw [<- aN,<- aN];exact List.Perm.append_right _ lH
 refine jV (by (try simp only [evT,zj,zi,aJ]);(first | done | exact rfl)) (Kl cc b s.room s.es) (by (repeat (first | exact Take.nil _ | with_reducible exact Pick.head _ _ | with_reducible apply Pick.tail | with_reducible apply Take.cons))) (fun pre S => ∃ Cj,J pre Cj /\ S = [bx b2 (.func (.yield l0) #[] #[]) 261,Cj,F,bx c1 (pT q) 25])
  (fun k pre S => k = .ret /\ ∃ Cj,Jx pre Cj /\ S = [bx b2 (.func (.yield l0) #[] #[]) 261,Cj,F,bx c1 (pT q) 25]) (fun h => by cases h) (fun S hS => ?_) (fun _ => rfl) ⟨C,hC,rfl⟩ ?_ ?_ ?_
 ·obtain ⟨Cj,hJ,rfl⟩ := hS;obtain ⟨_,R',⟨T2,hT2,rfl⟩,hp⟩ := hT Cj hJ;refine T0_in (R := nB q b s ++ R') hT2 pkA (hp.trans ?_);rw [<- aN];exact List.Perm.append_right _ lH
 ·rintro l F1 S H r pre x hx ⟨Cj,hJ,rfl⟩ rfl;obtain ⟨k,v⟩ := x
  (try simp only [aD,aC,aL,encX])
  (try simp only [qP,putT,iN,if_true,reduceIte,Array.toList,mG])
  refine gg ?_;refine oA (encV v0).toArray fun b4 => ?_
  refine oSg (encV v) rfl (qb v) ?_;refine ⟨_,.cons (.tail _ (.head _ _)) (zn.refl _),fun r' _ => ?_⟩;refine gg ?_;refine oL (encV v) rfl ?_;refine xd fun K hK => ?_
  refine jz (hY pre (k,v) hx) hJ rfl tkA (fun C4 H4 hJ4 hH4 => ?_) (fun C4 H4 hJ4 hH4 => ?_)
  ·subst hH4
   (try simp only [aD])
   refine hK _ _ ?_;clear hK K;refine gg ?_;exact ⟨_,⟨_,[],rfl,⟨C4,hJ4,rfl⟩,rfl⟩,by (try simp only [aL]);first | ((repeat (first | with_reducible exact zn.nil _ | with_reducible exact Pick.head _ _ | with_reducible apply Pick.tail | with_reducible apply zn.cons));done) | ((repeat (first | exact zn.nil _ | exact Pick.head _ _ | apply Pick.tail | apply zn.cons));done)⟩
  ·subst hH4
   (try simp only [aD])
   refine hK _ _ ?_;clear hK K;refine gg ?_;exact ⟨_,⟨_,[],rfl,⟨rfl,C4,hJ4,rfl⟩,rfl⟩,by (try simp only [aL]);first | ((repeat (first | with_reducible exact zn.nil _ | with_reducible exact Pick.head _ _ | with_reducible apply Pick.tail | with_reducible apply zn.cons));done) | ((repeat (first | exact zn.nil _ | exact Pick.head _ _ | apply Pick.tail | apply zn.cons));done)⟩
 ·rintro d pre S A rfl ⟨Cj,hJ,rfl⟩ rfl
  (try simp only [aD,aC])
  refine gg ?_;refine XC (vs := []) [Cj,bx c1 (pT q) 25] ⟨Cj,_,rfl,.inl ⟨_,rfl,hJ,rfl⟩⟩
 ·rintro d k pre x S A hx ⟨rfl,Cj,hJ,rfl⟩ rfl
  (try simp only [aD,aC])
  refine gg ?_;refine zf (vs := []) [Cj,bx c1 (pT q) 25] ⟨Cj,_,rfl,.inr ⟨pre,x,hx,hJ,rfl⟩⟩
theorem Iy (d : L8) (a : Es) (x : L8 × V) : hasD d (a ++ [x]) = (hasD d a || decide (x.2.draw = d)) := by
 simp [hasD]
theorem Iw {d : L8} {es : Es} {x : L8 × V} (hx : x ∈ es) (hd : x.2.draw = d) : hasD d es = true := by
 unfold hasD;rw [List.any_eq_true];exact ⟨x,hx,by simp [hd]⟩
theorem put_new {s : NS} (h : NOk s) (hf : s.es.length < s.room) (d : L8) (v : V) : putE s.room s.es (nonN d (s.ser + 1)) v = (0,s.es ++ [(nonN d (s.ser + 1),v)]) := by
 unfold putE;rw [h.fresh d,if_neg sM,if_neg oM]
theorem gB : Value.string ⟨#[46]⟩ = sT [46] := rfl
theorem Ui {T : zd} {b q : Nat} {s : NS} (hs : NOk s) (hser : s.ser < 1000) (hT : xU T b s.room s.es) (d : L8) (hd : d.length <= 1000) (now : Int) (hn : now < 18446744073709551616) :
  zh prog 34 [pT q,sT d,.int .u64 now] [nB q b s,T]
   fun v A => v = .tuple #[sT (zT s d now).1.1,.int .i64 (zT s d now).1.2] /\ ∃ T',xU T' b s.room (zT s d now).2.es /\ A = [nB q b (zT s d now).2,T'] := by
 have hdr := cB d oM;have hrs := XJ s now;have hrr := Zv s now;have hrf := Vw hs now;have hro := Ue hs now;unfold zT;refine eNg func34 ntmps34 results34 fun F => ?_
 refine oBg fun b4 => ?_
 refine zF ?_;refine zC fun b6 => ?_;(try simp only [Value.cells])
 refine zF ?_;refine zC fun b7 => ?_;(try simp only [Value.cells])
 refine gg ?_;refine cR (hdr) ?_
 cases hB : Xp d with
 | false =>
  rw [if_pos rfl];refine gg ?_;exact zf (vs := [sT [],.int .i64 4]) [nB q b s,T] ⟨rfl,T,hT,rfl⟩ (hr := by (intro κ hκ;simp only [resW,zy,zj,zi,aJ];refine xf lkA rfl ?_;refine xf lkA rfl ?_;exact hκ))
 | true =>
  rw [if_neg sM];have hdl : d.length <= 40 := IG (by rw [hB];simp);refine gg ?_
  by_cases hl : now < s.last
  ·rw [dT hl,if_pos hl];refine gg ?_;exact zf (vs := [sT [],.int .i64 9]) [nB q b s,T] ⟨rfl,T,hT,rfl⟩ (hr := by (intro κ hκ;simp only [resW,zy,zj,zi,aJ];refine xf lkA rfl ?_;refine xf lkA rfl ?_;exact hκ))
  ·rw [dF hl,if_neg hl];refine gg ?_;refine cA (VJ _) ?_;rintro v A ⟨cc,rfl,rfl⟩;refine gA ?_
   refine jY (S' := [bx cc (pT q) 25,bx b7 (.int .i64 0) 35,bx b6 (.string ⟨#[]⟩) 9,bx b4 (sT d) 9,F,nB q b s ++ T]) (by
    classical
    refine List.perm_iff_count.2 fun z => ?_
    simp only [aO,iS,List.count_append,List.count_nil,Ost.bx,pT];omega) ?_
   refine jV (by (try simp only [evT,zj,zi,aJ]);(first | done | exact rfl)) (WB cc q b s) (by (repeat (first | exact Take.nil _ | with_reducible exact Pick.head _ _ | with_reducible apply Pick.tail | with_reducible apply Take.cons))) (fun pre C => hasD d pre = false /\ C = [bx b7 (.int .i64 0) 35,bx b6 (.string ⟨#[]⟩) 9,bx b4 (sT d) 9,F,nB q b s ++ T])
    (fun k pre C => k = .ret /\ hasD d s.es = true /\ C = [bx b7 (.int .i64 7) 35,bx b6 (.string ⟨#[]⟩) 9,bx b4 (sT d) 9,F,nB q b s ++ T]) (fun h => by cases h) (fun C hC => ?_) (fun _ => rfl) ⟨rfl,rfl⟩ ?_ ?_ ?_
   ·obtain ⟨_,rfl⟩ := hC;exact Od ⟨T,hT,rfl⟩ pkA
   ·rintro l F1 C H r pre x ⟨suf1,hxs⟩ ⟨hno,rfl⟩ rfl;have hxm : x ∈ s.es := by rw [hxs];simp
    obtain ⟨_,hxd,⟨m,_,hxn⟩,_,_⟩ := hs.en x hxm;have hap := Iy d pre x;rw [hno,mS] at hap;obtain ⟨k,v⟩ := x;simp only at hxd hxn hap;have hdw := cC v.draw (hx m) oM (by rw [Iu];omega) (hx_dot m);rw [show v.draw ++ 46 :: hx m = v.non from hxn.symm] at hdw
    (try simp only [aD,aC,aL,gq])
    (try simp only [qP,putT,iN,if_true,reduceIte,Array.toList,mG])
    refine gg ?_;refine oA (encV v0).toArray fun b8 => ?_
    refine oSg (XE v) rfl (qb v) ?_;refine ⟨_,.cons (.tail _ (.head _ _)) (zn.refl _),fun r' _ => ?_⟩;refine gg ?_;refine cdLg [[0],[1],[3],[2,0,3],[4]] ?_;refine dR (hdw) ?_;refine if_b (fun hc => ?_) (fun hc => ?_)
    ·refine gg ?_;exact ⟨_,⟨_,[],rfl,⟨rfl,Iw hxm hc,rfl⟩,rfl⟩,by (try simp only [aL]);first | ((repeat (first | with_reducible exact zn.nil _ | with_reducible exact Pick.head _ _ | with_reducible apply Pick.tail | with_reducible apply zn.cons));done) | ((repeat (first | exact zn.nil _ | exact Pick.head _ _ | apply Pick.tail | apply zn.cons));done)⟩
    ·refine gg ?_;exact ⟨_,⟨_,[],rfl,⟨by rw [hap];exact dF hc,rfl⟩,rfl⟩,by (try simp only [aL]);first | ((repeat (first | with_reducible exact zn.nil _ | with_reducible exact Pick.head _ _ | with_reducible apply Pick.tail | with_reducible apply zn.cons));done) | ((repeat (first | exact zn.nil _ | exact Pick.head _ _ | apply Pick.tail | apply zn.cons));done)⟩
   ·rintro l pre C A rfl ⟨hno,rfl⟩ rfl;rw [hno,if_neg sM]
    refine jY (S' := [bx b7 (.int .i64 0) 35,bx b6 (.string ⟨#[]⟩) 9,bx b4 (sT d) 9,F,nB q b s,T,bx cc (pT q) 25,[(l,.deferred (some []))]]) (by
     classical
     refine List.perm_iff_count.2 fun z => ?_
     simp only [iL,aO,iS,List.count_append,List.count_nil,Ost.bx,pT];omega) ?_
    have hroom := bX (q := q) hs hT now hn;generalize wg s now = s1 at *;refine gg ?_;refine cA (hroom) ?_;rintro v A ⟨rfl,T1,hT1,rfl⟩;refine gA ?_;rw [<- hrr] at hT1 hrf ⊢;rw [<- hrs];refine cdLg [[0],[1],[2],[3],[4],[5],[6,0,0],[7],[8,0]] ?_;refine qF ?_;rw [gB,zV (by simp;omega)];rw [show ((s1.ser : Int) + 1) = ((s1.ser + 1 : Nat) : Int) from oM];refine gg ?_;refine dR (Yw (s1.ser + 1) oM) ?_;refine qF ?_;rw [zV (by simp [Iu];omega)];rw [show d ++ [46] ++ hx (s1.ser + 1) = nonN d (s1.ser + 1) from by simp [nonN]];refine gg ?_;refine oTg [(0,sT (nonN d (s1.ser + 1))),(1,.int .u64 now)] (XE ⟨nonN d (s1.ser + 1),d,now,false,0⟩).toArray ?_;have htp := tput hT1 (nonN d (s1.ser + 1)) ⟨nonN d (s1.ser + 1),d,now,false,0⟩;rw [put_new hro hrf] at htp;refine cA (htp) ?_;rintro v A ⟨rfl,T2,hT2,rfl⟩;refine gA ?_;exact zf (vs := [sT (nonN d (s1.ser + 1)),.int .i64 0]) [nB q b (addN s1 d now),T2] ⟨rfl,T2,hT2,rfl⟩ (hr := by (intro κ hκ;simp only [resW,zy,zj,zi,aJ];refine xf lkA rfl ?_;refine xf lkA rfl ?_;exact hκ))
   ·rintro l k pre x C A hxs ⟨rfl,hyes,rfl⟩ rfl;rw [hyes,if_pos rfl]
    refine jY (S' := [bx b7 (.int .i64 7) 35,bx b6 (.string ⟨#[]⟩) 9,bx b4 (sT d) 9,F,nB q b s,T,bx cc (pT q) 25,[(l,.deferred (some []))]]) (by
     classical
     refine List.perm_iff_count.2 fun z => ?_
     simp only [iL,aO,iS,List.count_append,List.count_nil,Ost.bx,pT];omega) ?_
    refine gg ?_;exact zf (vs := [sT [],.int .i64 7]) [nB q b s,T] ⟨rfl,T,hT,rfl⟩ (hr := by (intro κ hκ;simp only [resW,zy,zj,zi,aJ];refine xf lkA rfl ?_;refine xf lkA rfl ?_;exact hκ))
open Go.Nam
abbrev offV (b s q : Nat) (iter : Int) : LV := [pT b,pT s,pT q,.int .i64 iter]
abbrev quB (k b s q : Nat) (iter : Int) (t : L8) (ch : Int) : zd := [(k,.cells #[pT b,pT s,pT q,.int .i64 iter,sT t,.int .u64 ch] 117 (0,0))]
instance tpOff : xi prog 27 [(0,1),(1,1),(2,1),(3,1)] := ⟨kM⟩
instance tpQu : xi prog 117 [(0,4),(4,1),(5,1)] := ⟨kM⟩
instance tpTalk : xi prog 238 [(0,4),(4,1),(5,1),(6,5),(11,1),(12,1),(13,1),(14,1),(15,10),(25,1),(26,1)] := ⟨kM⟩
abbrev talkV (b s q : Nat) (iter : Int) (t : L8) : LV := offV b s q iter ++ [sT t,.int .i64 0,.string ⟨#[]⟩,.string ⟨#[]⟩,.string ⟨#[]⟩,.string ⟨#[]⟩,nS,.string ⟨#[]⟩,.string ⟨#[]⟩,.string ⟨#[]⟩,.string ⟨#[]⟩,.string ⟨#[]⟩,.string ⟨#[]⟩,nS,.int .i64 0,nS,nS,nS,.int .u64 0,nS,.bool false,.bool false,.bool false]
theorem tnew_ok (b s q : Nat) (iter : Int) (hi : 1 <= iter /\ iter <= 64) (t : L8) : zh prog 55 [.agg (offV b s q iter).toArray,sT t] [] fun v A => ∃ p,v = .tuple #[.pointer (some p),.int .i64 0] /\ A = [] := by
 refine eNg func55 ntmps55 results55 fun F => ?_
 refine oBg fun b2 => ?_
 rw [dF (oM : ¬ iter < 1)];refine gg ?_;rw [dF (oM : ¬ (64 : Int) < iter)];refine gg ?_;refine oLg (offV b s q iter) rfl ?_;refine oTg [(0,.agg (offV b s q iter).toArray),(1,sT t)] (talkV b s q iter t).toArray ?_;refine oBg fun p => ?_
 refine zf (vs := [pT p,.int .i64 0]) [] ?_;exact ⟨_,rfl,rfl⟩
theorem qnew_ok (b s q : Nat) (iter : Int) (hi : 1 <= iter /\ iter <= 64) (t : L8) (hl : t.length <= 1000) (ht : yg t = true) : zh prog 15 [.agg (offV b s q iter).toArray,sT t] [] fun v A => ∃ k,v = .tuple #[pT k,.int .i64 0] /\ A = [quB k b s q iter t 0] := by
 refine eNg func15 ntmps15 results15 fun F => ?_
 refine oBg fun b2 => ?_
 refine oLg (offV b s q iter) rfl ?_;refine cA (tnew_ok b s q iter hi t) ?_;rintro v A ⟨p,rfl,rfl⟩;refine gA ?_;refine cR (Xh t oM) ?_;rw [ht];refine gg ?_;refine oLg (offV b s q iter) rfl ?_;refine oTg [(0,.agg (offV b s q iter).toArray),(1,sT t)] ([pT b,pT s,pT q,.int .i64 iter,sT t,.int .u64 0] : LV).toArray ?_;refine oBg fun k => ?_
 refine zf (vs := [pT k,.int .i64 0]) [quB k b s q iter t 0] ?_;exact ⟨k,rfl,rfl⟩
theorem bK {T : zd} {k b s q tb : Nat} {iter ch : Int} {n : NS} (hs : NOk n) (hser : n.ser < 1000) (hT : xU T tb n.room n.es) (d : L8) (hd : d.length <= 1000) (st : Bool) (now : Int) (hn : now < 18446744073709551616) (hn0 : 0 <= now) (hln : (zT n d now).1.1.length <= 4000) :
  zh prog 8 [pT k,sT d,.bool st,.int .u64 now] [quB k b s q iter [116] ch,nB q tb n,T]
  fun v A => ∃ T',v = (if (zT n d now).1.2 = 0 then .tuple #[sT (qA ⟨[116],(zT n d now).1.1,[],st⟩).1,.int .i64 (qA ⟨[116],(zT n d now).1.1,[],st⟩).2] else .tuple #[sT [],.int .i64 (zT n d now).1.2]) /\ xU T' tb n.room (zT n d now).2.es /\ A = [quB k b s q iter [116] ch,nB q tb (zT n d now).2,T'] := by
 refine eNg func8 ntmps8 results8 fun F => ?_
 refine cA (Ui hs hser hT d hd now hn) ?_;rintro v A ⟨rfl,T',hT',rfl⟩;refine gA ?_
 by_cases h0 : (zT n d now).1.2 = 0
 ·rw [if_pos h0,h0];refine gg ?_;refine oTg [(0,sT [116]),(1,sT (zT n d now).1.1),(3,.bool st)] (encC ⟨[116],(zT n d now).1.1,[],st⟩).toArray ?_;refine cR (UP ⟨[116],(zT n d now).1.1,[],st⟩ (by show 1 <= 4000;decide) hln (by show 0 <= 4000;decide)) ?_;refine zf (vs := [sT (qA ⟨[116],(zT n d now).1.1,[],st⟩).1,.int .i64 (qA ⟨[116],(zT n d now).1.1,[],st⟩).2]) [quB k b s q iter [116] ch,nB q tb (zT n d now).2,T'] ?_;exact ⟨T',rfl,hT',rfl⟩
 ·rw [if_neg h0,bne_iff_ne.2 h0];refine gg ?_;refine zf (vs := [sT [],.int .i64 (zT n d now).1.2]) [quB k b s q iter [116] ch,nB q tb (zT n d now).2,T'] ?_;exact ⟨T',rfl,hT',rfl⟩
end Go.Proofs.YtebikhhoppiapaaGreatDoor
namespace Go.Proofs.YtebikhhoppiapaaGreatDoor
open Go Go.Ost Tryz
def seqL (l : List Par) (ok : Bool) : List (Par × Int) := l.map (fun p => (p,0)) ++ (if ok = true then [] else [(p0,4)])
abbrev seqE (s : L8) : List (Par × Int) := seqL (je s).1 (je s).2
abbrev gp (x : Par × Int) : LV := [.agg (encP x.1).toArray,.int .i64 x.2]
abbrev NextQ (q pre : List (Par × Int)) (x : Par × Int) : Prop := ∃ suf,q = pre ++ x :: suf
abbrev okay (ps : List Par) : List (Par × Int) := ps.map fun p => (p,0)
theorem fJ {s r : L8} {p : Par} (h : oneE s = some (p,r)) : ∃ l,(je s).1 = p :: l := by
 by_cases hr : r = []
 ·subst hr;exact ⟨[],by rw [ym h]⟩
 ·cases hs : (xj (zo r) 44).1
  ·exact ⟨[],by rw [yl h hr hs]⟩
  ·exact ⟨_,by rw [JJ h hr hs]⟩
theorem KD : ∀ {l ps : List Par} {ok : Bool} {p : Par} {e : Int} {suf : List (Par × Int)},seqL l ok = okay ps ++ (p,e) :: suf -> (e = 0 /\ ∃ suf',l = ps ++ p :: suf') ∨ (e = 4 /\ ps = l /\ ok = false)
 | [],[],ok,p,e,suf,h => by
  cases ok with
  | true => simp [seqL] at h
  | false => simp [seqL] at h;exact .inr ⟨by rw [<- h.1.2],rfl,rfl⟩
 | [],a :: ps,ok,p,e,suf,h => by
  cases ok <;> simp [seqL] at h
 | q :: l,[],ok,p,e,suf,h => by
  simp [seqL] at h;exact .inl ⟨h.1.2.symm,l,by rw [h.1.1];rfl⟩
 | q :: l,a :: ps,ok,p,e,suf,h => by
  have h' : (q,(0 : Int)) :: seqL l ok = (a,0) :: (okay ps ++ (p,e) :: suf) := by simpa [seqL] using h
  rw [List.cons.injEq,Prod.mk.injEq] at h'
  rcases KD h'.2 with ⟨e0,s',hs'⟩ | ⟨e4,h1,h2⟩
  ·exact .inl ⟨e0,s',by rw [h'.1.1,hs'];rfl⟩
  ·exact .inr ⟨e4,by rw [h'.1.1,h1],h2⟩
theorem OD : ∀ {l ps : List Par} {ok : Bool},okay ps = seqL l ok -> ps = l /\ ok = true
 | [],[],ok,h => by cases ok with
  | true => exact ⟨rfl,rfl⟩
  | false => simp [seqL] at h
 | [],a :: ps,ok,h => by cases ok <;> simp [seqL] at h
 | q :: l,[],ok,h => by simp [seqL] at h
 | q :: l,a :: ps,ok,h => by
  have h' : (a,(0 : Int)) :: okay ps = (q,0) :: seqL l ok := by simpa [seqL] using h
  rw [List.cons.injEq,Prod.mk.injEq] at h';obtain ⟨h1,h2⟩ := OD h'.2;exact ⟨by rw [h'.1.1,h1],h2⟩
instance tpScanner : xi prog 285 [(0,1)] := ⟨kM⟩
theorem cy (s : L8) : zh prog 157 [sT s] []
  fun u A => ∃ c,u = .func (.func 205) #[] #[pT c] /\ A = [bx c (sT s) 9] := by
 refine eNg func157 ntmps157 results157 fun F => ?_
 refine oBg fun c1 => ?_
 refine ze [bx c1 (sT s) 9] ⟨c1,rfl,rfl⟩
theorem dL (c : Nat) (s : L8) (hs : s.length <= 100000) :
  wN prog 205 [] [pT c] gp [bx c (sT s) 9]
   (fun T => T = []) noH noH noH (NextQ (seqE s)) (fun pre => pre = seqE s)
   (fun _ A => A = [bx c (sT s) 9]) (fun _ A => A = [bx c (sT s) 9]) false := by
 refine vv kM fun l0 J Jx hN hT hY C hC => ?_
 refine eNg func205 ntmps205 results205 fun F => ?_
 refine oTg [(0,sT s)] #[sT s] ?_;refine oBg fun b3 => ?_
 refine zM (fun q D L S => ∃ (ps : List Par) (t : L8) (C' : zd),J (okay ps) C' /\ t.length <= s.length /\ je s = (ps ++ (je t).1,(je t).2) /\ q = t.length /\ D = [] /\
  L = [(3,pT b3),(0,.func (.yield l0) #[] #[]),(1,pT c)] /\ S = [C',scB b3 t,F,bx c (sT s) 9])
  ⟨[],s,C,hC,aR _,rfl,rfl,rfl,rfl,rfl⟩ ?_
 rintro q D L S ⟨ps,t,C',hJ,htl,hls,rfl,rfl,rfl,rfl⟩;refine gg ?_;refine cA (bT b3 t oM) ?_;rintro v A ⟨p,ok,r,rfl,rfl,ho⟩;refine gA ?_;refine oA (encP p0).toArray fun b4 => ?_
 refine oSg (encP p) rfl (xw _) ?_
 cases ok with
 | false =>
  rw [if_neg sM] at ho;rw [JK ho,aL] at hls;have hnx : NextQ (seqE s) (okay ps) (p0,4) := ⟨[],by unfold seqE;rw [hls];rfl⟩;refine gg ?_;refine oT [] (encP p0).toArray ?_;refine xd fun K hK => ?_
  refine jz (hY (okay ps) (p0,4) hnx) hJ rfl tkA (fun C4 H4 hJ4 hH4 => ?_) (fun C4 H4 hJ4 hH4 => ?_)
  ·subst hH4
   (try simp only [aD])
   refine hK _ _ ?_;clear hK K;refine gg ?_;refine jO [C4,bx c (sT s) 9] ⟨C4,_,rfl,.inl ⟨_,by unfold seqE;rw [hls];rfl,hJ4,rfl⟩⟩
  ·subst hH4
   (try simp only [aD])
   refine hK _ _ ?_;clear hK K;refine gg ?_;refine jO [C4,bx c (sT s) 9] ⟨C4,_,rfl,.inr ⟨_,_,hnx,hJ4,rfl⟩⟩
 | true =>
  rw [if_pos rfl] at ho;obtain ⟨l1,hl1⟩ := fJ ho;have h1l := (JA ho).2.1;have hnx : NextQ (seqE s) (okay ps) (p,0) := ⟨seqL l1 (je t).2,by unfold seqE;rw [hls,hl1];simp [seqL]⟩;refine gg ?_;refine oL (encP p) rfl ?_;refine xd fun K hK => ?_
  refine jz (hY (okay ps) (p,0) hnx) hJ rfl tkA (fun C4 H4 hJ4 hH4 => ?_) (fun C4 H4 hJ4 hH4 => ?_)
  ·subst hH4
   (try simp only [aD])
   refine hK _ _ ?_;clear hK K;have hJ5 : J (okay (ps ++ [p])) C4 := by rw [show okay (ps ++ [p]) = okay ps ++ [(p,0)] from sM];exact hJ4
   refine gg ?_
   cases hr : r with
   | nil =>
    subst hr;rw [ym ho] at hls
    (try rw [beq_self_eq_true])
    (try refine gg ?_)
    refine jO [C4,bx c (sT s) 9] ⟨C4,_,rfl,.inl ⟨_,by unfold seqE;rw [hls];simp [seqL],hJ5,rfl⟩⟩
   | cons d r2 =>
    rw [<- hr];have hr0 : r ≠ [] := by rw [hr];simp
    rw [beq_eq_false_iff_ne.2 hr0];refine gg ?_;have l2 := jM r;refine cR (kh b3 r oM) ?_
    (try rw [show Value.int .u8 44 = b8 44 from rfl])
    refine cR (vJ b3 (zo r) 44 oM) ?_;have l3 := wx (zo r) 44
    cases h1 : (xj (zo r) 44).1 with
    | false =>
     rw [yl ho hr0 h1] at hls;have hnx2 : NextQ (seqE s) (okay (ps ++ [p])) (p0,4) := ⟨[],by unfold seqE;rw [hls];rfl⟩;refine gg ?_;refine oT [] (encP p0).toArray ?_;refine xd fun K hK => ?_
     refine jz (hY (okay (ps ++ [p])) (p0,4) hnx2) hJ5 rfl tkA (fun C5 H5 hJ6 hH5 => ?_) (fun C5 H5 hJ6 hH5 => ?_)
     ·subst hH5
      (try simp only [aD])
      refine hK _ _ ?_;clear hK K;refine gg ?_;refine jO [C5,bx c (sT s) 9] ⟨C5,_,rfl,.inl ⟨_,by unfold seqE;rw [hls];rfl,hJ6,rfl⟩⟩
     ·subst hH5
      (try simp only [aD])
      refine hK _ _ ?_;clear hK K;refine gg ?_;refine jO [C5,bx c (sT s) 9] ⟨C5,_,rfl,.inr ⟨_,_,hnx2,hJ6,rfl⟩⟩
    | true =>
     rw [JJ ho hr0 h1] at hls;have l4 := jM (xj (zo r) 44).2;have l5 := vI _ _ h1;refine gg ?_;refine cR (kh b3 (xj (zo r) 44).2 oM) ?_;exact zI ⟨ps ++ [p],zo (xj (zo r) 44).2,C4,hJ5,oM,by rw [hls];simp,rfl,rfl,rfl,rfl⟩
  ·subst hH4
   (try simp only [aD])
   refine hK _ _ ?_;clear hK K;refine gg ?_;refine jO [C4,bx c (sT s) 9] ⟨C4,_,rfl,.inr ⟨_,_,hnx,hJ4,rfl⟩⟩
end Go.Proofs.YtebikhhoppiapaaGreatDoor
namespace Go.Proofs.YtebikhhoppiapaaGreatDoor
open Go Go.Ost
open Tryz
theorem cz {t : L8} (h : (xj t 32).1 = true) : t.dropWhile (fun c => c == 32) = (xj t 32).2.dropWhile (fun c => c == 32) := by
 have e := XI h;generalize (xj t 32).2 = r at *;rw [e,lQ,if_pos (beq_self_eq_true _)]
theorem gv {t : L8} (h : (xj t 32).1 = false) : t.dropWhile (fun c => c == 32) = t := by
 cases t with
 | nil => rfl
 | cons d r =>
  by_cases hd : d = 32
  ·rw [hd,jA] at h;cases h
  ·rw [lQ,if_neg (by simpa using hd)]
theorem WV (l : List Par) : l.length <= wP l := by
 induction l with
 | nil => exact aR _
 | cons p l ih => show l.length + 1 <= p.n.length + p.v.length + 1 + wP l;omega
theorem bR {s : L8} (h : 4096 < s.length) : xC s = ([],3) := by unfold xC;rw [if_pos h]
theorem QH {s : L8} (h : ¬ 4096 < s.length) (h2 : lowL (tokL s) ≠ scheme ∨ (xj (tokR s) 32).1 = false) : xC s = ([],4) := by unfold xC;rw [if_neg h,if_pos h2]
theorem bS {s : L8} (h : ¬ 4096 < s.length) (h2 : lowL (tokL s) = scheme) (h3 : (xj (tokR s) 32).1 = true) :
  xC s = if (je (ql s)).2 = false then ([],4) else if cntE (je (ql s)).1 ≠ 0 then ([],cntE (je (ql s)).1) else ((je (ql s)).1,0) := by
 unfold xC;rw [if_neg h,if_neg (by rw [not_or];exact ⟨fun e => e h2,by rw [h3];simp⟩)]
theorem bQ (s : L8) (hs : s.length <= 100000) : zh prog 107 [sT s] []
  fun v A => ∃ X a k,v = .tuple #[.slice a (xC s).1.length k,.int .i64 (xC s).2] /\ OwnP X a k (xC s).1 /\ A = [X] := by
 refine eN func107 ntmps107 results107 fun F => ?_
 refine zU ?_;refine gg ?_;refine zF ?_;refine zC fun b2 => ?_;(try simp only [Value.cells])
 refine zF ?_;refine zC fun b3 => ?_;(try simp only [Value.cells])
 refine gg ?_
 by_cases h1 : 4096 < s.length
 ·rw [bR h1,dT (oM : (4096 : Int) < s.length)];refine gg ?_;refine zf (vs := [nS,.int .i64 3]) [[]] ⟨[],none,0,rfl,zJ,rfl⟩
 rw [dF (oM : ¬ (4096 : Int) < s.length)];refine gg ?_;refine oTg [(0,sT s)] #[sT s] ?_;refine oBg fun b4 => ?_
 have l1 := Vl s;have l2 := Vk s;have l3 := wx (tokR s) 32;refine cR (kq b4 s hs) ?_;refine cR (wk (tokL s) oM) ?_
 by_cases h2 : lowL (tokL s) = scheme
 ·rw [bne_eq_false_iff_eq.2 (show lowL (tokL s) = [100,105,103,101,115,116] from h2)];refine gg ?_
  (try rw [show Value.int .u8 32 = b8 32 from rfl])
  refine cR (vJ b4 (tokR s) 32 oM) ?_
  cases h3 : (xj (tokR s) 32).1 with
  | false =>
   rw [QH h1 (.inr h3)];refine gg ?_;refine zf (vs := [nS,.int .i64 4]) [[]] ⟨[],none,0,rfl,zJ,rfl⟩
  | true =>
   rw [bS h1 h2 h3];have hre : ql s = (xj (tokR s) 32).2.dropWhile (fun c => c == 32) := rfl;have hrl := wA s;have hall := list_len _ (ql s) (aR _);have hcn := WV (je (ql s)).1;generalize ql s = r at *;refine gg ?_
   refine zM (fun q D L S => ∃ t : L8,t.length <= s.length /\ t.dropWhile (fun c => c == 32) = r /\ q = t.length /\ D = [] /\ L = [(4,pT b4),(2,pT b2),(3,pT b3)] /\
    S = [scB b4 t,bx b3 (.int .i64 0) 35,bx b2 nS 208,[],F])
    ⟨(xj (tokR s) 32).2,oM,hre.symm,rfl,rfl,rfl,rfl⟩ ?_
   rintro q D L S ⟨t,htl,htr,rfl,rfl,rfl,rfl⟩;refine gg ?_
   (try rw [show Value.int .u8 32 = b8 32 from rfl])
   refine cR (vJ b4 t 32 oM) ?_
   cases h4 : (xj t 32).1 with
   | true =>
    have l5 := vI _ _ h4;rw [cz h4] at htr;refine gg ?_;exact zI ⟨(xj t 32).2,oM,htr,rfl,rfl,rfl,rfl⟩
   | false =>
    rw [gv h4] at htr;rw [dE _ _ h4,htr];clear htr htl h4 hre l1 l2 l3;refine gg ?_;refine zF ?_;refine zC fun b5 => ?_;(try simp only [Value.cells])
    refine gg ?_;refine cA (cy r) ?_;rintro v A ⟨cc,rfl,rfl⟩;refine gA ?_;refine zU ?_
    refine jV (by (try simp only [evT,zj,zi,aJ]);(first | done | exact rfl)) (dL cc r oM) (by (repeat (first | exact Take.nil _ | with_reducible exact Pick.head _ _ | with_reducible apply Pick.tail | with_reducible apply Take.cons))) (fun pre C => ∃ (ps : List Par) (X : zd) (xa : OA) (xc : Nat),pre = okay ps /\ OwnP X xa xc ps /\
      C = [X,bx b5 (.slice xa ps.length xc) 208,scB b4 r,bx b3 (.int .i64 0) 35,bx b2 nS 208,[],F])
     (fun k pre C => k = .ret /\ (je r).2 = false /\ C = [bx b3 (.int .i64 4) 35,bx b2 nS 208,[],F]) (fun h => by cases h) (fun C hC => ⟨[],C.flatten,rfl,sM⟩) (fun _ => rfl)
     ⟨[],[],none,0,rfl,zJ,rfl⟩ ?_ ?_ ?_
    ·rintro l F1 C H r' pre x ⟨suf,hx⟩ ⟨ps,X,xa,xc,rfl,hX,rfl⟩ rfl;obtain ⟨p,e⟩ := x;have hsc := KD hx
     (try simp only [aD,aC,aL,gp])
     (try simp only [qP,putT,iN,if_true,reduceIte,Array.toList,mG])
     refine gg ?_;refine oA (encP p0).toArray fun b6 => ?_
     refine oSg (encP p) rfl (xw _) ?_;refine ⟨_,.cons (.tail _ (.head _ _)) (zn.refl _),fun r'' _ => ?_⟩;refine gg ?_
     rcases hsc with ⟨rfl,suf',hl⟩ | ⟨rfl,hl,hok⟩
     ·have hpl : ps.length < (je r).1.length := by rw [hl];simp
      refine gg ?_;refine oL (encP p) rfl ?_;refine zF ?_;refine xt (e := 210) (s := 3) (hs := inferInstance) (vs := encP p) (by rfl) dM dM rfl (fun b1 C1 ho1 => ?_);refine zF ?_;refine zu (e := 210) (s := 3) (hs := inferInstance) (by rfl) dM hX (.inr pkA) (ho1.rd mmA) (xw _) (by simp only [maxLen];omega) oM (fun C3 a3 cap3 ho3 => ?_);have e1 : ps.length + 1 = (ps ++ [p]).length := sM;have e2 : ps.flatMap encP ++ encP p = (ps ++ [p]).flatMap encP := sM;rw [e1,e2] at ho3;rw [e1];refine gg ?_;exact ⟨_,⟨_,[],rfl,⟨ps ++ [p],C3,a3,cap3,sM,ho3,rfl⟩,rfl⟩,by (try simp only [aL]);first | ((repeat (first | with_reducible exact zn.nil _ | with_reducible exact Pick.head _ _ | with_reducible apply Pick.tail | with_reducible apply zn.cons));done) | ((repeat (first | exact zn.nil _ | exact Pick.head _ _ | apply Pick.tail | apply zn.cons));done)⟩
     ·refine gg ?_;exact ⟨_,⟨_,[],rfl,⟨rfl,hok,rfl⟩,rfl⟩,by (try simp only [aL]);first | ((repeat (first | with_reducible exact zn.nil _ | with_reducible exact Pick.head _ _ | with_reducible apply Pick.tail | with_reducible apply zn.cons));done) | ((repeat (first | exact zn.nil _ | exact Pick.head _ _ | apply Pick.tail | apply zn.cons));done)⟩
    ·rintro d pre C A hd ⟨ps,X,xa,xc,rfl,hX,rfl⟩ rfl;obtain ⟨hps,hok⟩ := OD hd;rw [if_neg (by rw [hok];simp),<- hps];rw [<- hps] at hcn hall
     (try simp only [aD,aC])
     refine gg ?_;refine cR (Xz hX oM) ?_
     by_cases h5 : cntE ps = 0
     ·rw [if_neg (by simp [h5]),h5];refine gg ?_;refine zf (vs := [.slice xa ps.length xc,.int .i64 0]) [X] ⟨X,xa,xc,rfl,hX,rfl⟩
     ·rw [if_pos h5,bne_iff_ne.2 h5];refine gg ?_;refine zf (vs := [nS,.int .i64 (cntE ps)]) [[]] ⟨[],none,0,rfl,zJ,rfl⟩
    ·rintro d k pre x C A hx ⟨rfl,hok,rfl⟩ rfl;rw [if_pos hok]
     (try simp only [aD,aC])
     refine gg ?_;refine zf (vs := [nS,.int .i64 4]) [[]] ⟨[],none,0,rfl,zJ,rfl⟩
 ·rw [bne_iff_ne.2 (show lowL (tokL s) ≠ [100,105,103,101,115,116] from h2),QH h1 (.inl h2)];refine gg ?_;refine zf (vs := [nS,.int .i64 4]) [[]] ⟨[],none,0,rfl,zJ,rfl⟩
abbrev fB (b : Nat) (a : OA) (n k : Nat) (f : Fl) : zd := [(b,.cells #[.slice a n k,.bool f.1,.bool f.2] 219 (0,0))]
instance tpFields : xi prog 219 [(0,1),(1,1),(2,1)] := ⟨kM⟩
theorem find_at {l : List Par} {n : L8} {i : Nat} (h : i < l.length) (hno : ((l.take i).find? fun p => p.n == n) = none) (hf : ((l.getD i p0).n == n) = true) : hasB l n = true /\ gotP l n = l.getD i p0 := by
 have e : l = l.take i ++ l.getD i p0 :: l.drop (i + 1) := by
  have h2 : l.drop i = l.getD i p0 :: l.drop (i + 1) := by
   rw [iH h,aS,aE h];rfl
  rw [<- h2,lR]
 have hfi : (l.find? fun p => p.n == n) = some (l.getD i p0) := by
  generalize l.getD i p0 = x at *;generalize l.take i = a at *;rw [e,List.find?_append,hno,Option.none_or,List.find?_cons,hf]
 unfold hasB gotP;rw [hfi];exact ⟨rfl,rfl⟩
theorem gj {l : List Par} {n : L8} {i : Nat} (h : i < l.length) (hno : ((l.take i).find? fun p => p.n == n) = none) (hf : ((l.getD i p0).n == n) = false) : ((l.take (i + 1)).find? fun p => p.n == n) = none := by
 rw [lG,List.find?_append,hno,Option.none_or,qX l i h]
 show List.find? _ [l.getD i p0] = none
 rw [List.find?_cons,hf];rfl
theorem gi {l : List Par} {n : L8} (h : (l.find? fun p => p.n == n) = none) : hasB l n = false /\ gotP l n = p0 := by
 unfold hasB gotP;rw [h];exact ⟨rfl,rfl⟩
section f
variable {X : zd} {xa : OA} {xc : Nat} {l : List Par} {b : Nat}
theorem QS (hX : OwnP X xa xc l) (hl : l.length <= 100000) (f : Fl) (n : L8) : zh prog 158 [pT b,sT n] [fB b xa l.length xc f,X]
  fun v A => v = .tuple #[.agg (encP (gotP l n)).toArray,.bool (hasB l n)] /\ A = [fB b xa l.length xc f,X] := by
 have hs := wK;refine eNg func158 ntmps158 results158 fun F => ?_
 refine oAg (encP p0).toArray fun b4 => ?_
 refine zM (fun q D L S => ∃ i : Nat,i <= l.length /\ ((l.take i).find? fun p => p.n == n) = none /\ q = l.length - i /\ D = [] /\
  L = [(13,.int .i64 i),(12,.int .i64 l.length),(11,.slice xa l.length xc),(4,pT b4),(1,sT n)] /\ S = [dpB b4 p0,fB b xa l.length xc f,X,F])
  ⟨0,oM,rfl,rfl,rfl,rfl,rfl⟩ ?_
 rintro q D L S ⟨i,hi,hno,rfl,rfl,rfl,rfl⟩;refine gg ?_;refine if_d (fun hc => ?_) (fun hc => ?_)
 ·have hil : i < l.length := oM;have hx := qX l i hil;refine gg ?_;refine zF ?_;refine xh hX hs hx dM mmA ?_;refine oA (encP p0).toArray fun b7 => ?_
  refine oSg (encP (l.getD i p0)) rfl (xw _) ?_
  cases hb : ((l.getD i p0).n == n) with
  | true =>
   obtain ⟨e1,e2⟩ := find_at hil hno hb;rw [e1,e2];refine gg ?_;refine oL (encP (l.getD i p0)) rfl ?_;refine oSg (encP (l.getD i p0)) rfl (xw _) ?_;refine zf (vs := [.agg (encP (l.getD i p0)).toArray,.bool true]) [fB b xa l.length xc f,X] ⟨rfl,rfl⟩ (hr := hrA)
  | false =>
   refine gg ?_;exact zI ⟨i + 1,oM,gj hil hno hb,rfl,rfl,rfl,rfl⟩
 ·obtain rfl : i = l.length := oM;rw [iK] at hno;obtain ⟨e1,e2⟩ := gi hno;rw [e1,e2];refine gg ?_;refine oTg [] (encP p0).toArray ?_;refine oSg (encP p0) rfl (xw _) ?_;refine zf (vs := [.agg (encP p0).toArray,.bool false]) [fB b xa l.length xc f,X] ⟨rfl,rfl⟩ (hr := hrA)
theorem qz (hX : OwnP X xa xc l) (hl : l.length <= 100000) (f : Fl) (n : L8) (q : Bool) : zh prog 108 [pT b,sT n,.bool q] [fB b xa l.length xc f,X]
  fun v A => v = sT (gotP l n).v /\ A = [fB b xa l.length xc (getF l n q f),X] := by
 obtain ⟨lo,ba⟩ := f;refine eNg func108 ntmps108 results108 fun F => ?_
 refine cR (QS hX hl (lo,ba) n) ?_;refine oA (encP p0).toArray fun b7 => ?_
 refine oS (encP (gotP l n)) rfl (xw _) ?_;unfold getF;generalize gotP l n = p;generalize hasB l n = h;refine gg ?_
 cases lo with
 | true =>
  refine gg ?_;refine gM ?_;refine gg ?_
  cases ba with
  | true =>
   refine gg ?_;refine gM ?_;refine gg ?_;refine ze [fB b xa l.length xc (true,true),X] ?_;exact ⟨rfl,rfl⟩
  | false =>
   refine gg ?_;refine gM ?_;refine gg ?_;refine ze [fB b xa l.length xc (true,p.q != q),X] ?_;exact ⟨rfl,rfl⟩
 | false =>
  refine gg ?_;refine gM ?_;refine gg ?_
  cases ba with
  | true =>
   refine gg ?_;refine gM ?_;refine gg ?_;refine ze [fB b xa l.length xc (!h,true),X] ?_;exact ⟨rfl,rfl⟩
  | false =>
   refine gg ?_;refine gM ?_;refine gg ?_;refine ze [fB b xa l.length xc (!h,p.q != q),X] ?_;exact ⟨rfl,rfl⟩
theorem kE (f : Fl) (ok : Bool) : zh prog 113 [pT b,.bool ok] [fB b xa l.length xc f] fun v A => v = .tuple #[] /\ A = [fB b xa l.length xc (wo ok f)] := by
 obtain ⟨lo,ba⟩ := f;refine eNg func113 ntmps113 results113 fun F => ?_
 cases ba with
 | true =>
  refine gg ?_;refine gM ?_;refine xm [fB b xa l.length xc (lo,true)] ⟨rfl,rfl⟩
 | false =>
  refine gg ?_;refine gM ?_;refine xm [fB b xa l.length xc (lo,!ok)] ⟨rfl,rfl⟩
theorem QO (f : Fl) (s : L8) : zh prog 109 [pT b,sT s] [fB b xa l.length xc f] fun v A => v = sT s /\ A = [fB b xa l.length xc (wo (sizB s) f)] := by
 unfold sizB;refine eNg func109 ntmps109 results109 fun F => ?_
 cases hb : (s != []) with
 | false =>
  refine gg ?_;refine cR (kE f false) ?_;refine ze [fB b xa l.length xc (wo false f)] ?_;exact ⟨rfl,rfl⟩
 | true =>
  refine gg ?_;refine cR (kE f (decide ((s.length : Int) <= 64))) ?_;refine ze [fB b xa l.length xc (wo (decide ((s.length : Int) <= 64)) f)] ?_;exact ⟨rfl,rfl⟩
theorem gf (hX : OwnP X xa xc l) (hl : l.length <= 100000) (f : Fl) (n o : L8) (q : Bool) : zh prog 110 [pT b,sT n,.bool q,sT o] [fB b xa l.length xc f,X]
  fun v A => v = sT (if hasB l n = true then (gotP l n).v else o) /\ A = [fB b xa l.length xc (mayF l n q f),X] := by
 unfold mayF;refine eNg func110 ntmps110 results110 fun F => ?_
 refine cR (QS hX hl f n) ?_;refine oA (encP p0).toArray fun b7 => ?_
 refine oS (encP (gotP l n)) rfl (xw _) ?_
 cases hh : hasB l n with
 | false =>
  refine gg ?_;refine ze [fB b xa l.length xc f,X] ?_;exact ⟨rfl,rfl⟩
 | true =>
  refine gg ?_;refine cR (qz hX hl f n q) ?_;refine ze [fB b xa l.length xc (getF l n q f),X] ?_;exact ⟨rfl,rfl⟩
theorem QU (f : Fl) : zh prog 115 [pT b] [fB b xa l.length xc f] fun v A => v = .int .i64 (endF f) /\ A = [fB b xa l.length xc f] := by
 obtain ⟨lo,ba⟩ := f;refine eNg func115 ntmps115 results115 fun F => ?_
 cases lo with
 | true =>
  refine gg ?_;refine ze [fB b xa l.length xc (true,ba)] ?_;exact ⟨rfl,rfl⟩
 | false =>
  refine gg ?_
  cases ba with
  | true =>
   refine gg ?_;refine ze [fB b xa l.length xc (false,true)] ?_;exact ⟨rfl,rfl⟩
  | false =>
   refine gg ?_;refine ze [fB b xa l.length xc (false,false)] ?_;exact ⟨rfl,rfl⟩
theorem UM (hX : OwnP X xa xc l) (hl : l.length <= 100000) (hb : ∀ p ∈ l,p.v.length <= 100000) (f : Fl) (q : Bool) : zh prog 111 [pT b,.bool q] [fB b xa l.length xc f,X]
  fun v A => v = .tuple #[] /\ A = [fB b xa l.length xc (comF l q f),X] := by
 have e1 : Value.string ⟨#[113,111,112]⟩ = sT nQop := rfl;have e2 : Value.string ⟨#[97,108,103,111,114,105,116,104,109]⟩ = sT nAlg := rfl;have e3 : Value.string ⟨#[83,72,65,45,50,53,54]⟩ = sT nSum := rfl
 have hal : (gotP l nAlg).v.length <= 100000 := by
  unfold gotP
  cases hf : l.find? fun p => p.n == nAlg with
  | none => show (0 : Nat) <= _;omega
  | some p => exact hb p (List.mem_of_find?_eq_some hf)
 unfold comF;refine eNg func111 ntmps111 results111 fun F => ?_
 (try rw [e1])
 refine cR (qz hX hl f nQop q) ?_;refine cR (kE (getF l nQop q f) ((gotP l nQop).v == jb)) ?_
 (try rw [e2])
 refine cR (qz hX hl _ nAlg false) ?_;refine cR (wk (gotP l nAlg).v hal) ?_
 (try rw [e3])
 refine cR (wk nSum dM) ?_;refine cR (kE _ (lowL (gotP l nAlg).v == lowL nSum)) ?_;refine xm [fB b xa l.length xc (comF l q f),X] ⟨rfl,rfl⟩
end f
end Go.Proofs.YtebikhhoppiapaaGreatDoor
namespace Go.Proofs.YtebikhhoppiapaaGreatDoor
open Go Go.Ost
theorem all_in {l : List Par} {p : Par} (h : p ∈ l) : p.n.length + p.v.length + 1 <= wP l := by
 induction l with
 | nil => cases h
 | cons a l ih =>
  show _ <= a.n.length + a.v.length + 1 + wP l
  rcases List.mem_cons.1 h with rfl | h
  ·omega
  ·have := ih h;omega
theorem YY (s : L8) : (xC s).1.length <= s.length /\ ∀ p ∈ (xC s).1,p.n.length + p.v.length <= s.length := by
 have h1 := list_len _ (ql s) (aR _);have h2 := wA s;have h3 := WV (je (ql s)).1;unfold xC
 split
 ·exact ⟨sM,fun p hp => by cases hp⟩
 split
 ·exact ⟨sM,fun p hp => by cases hp⟩
 split
 ·exact ⟨sM,fun p hp => by cases hp⟩
 split
 ·exact ⟨sM,fun p hp => by cases hp⟩
 ·refine ⟨by show (je (ql s)).1.length <= _;omega,fun p hp => ?_⟩;have := all_in (l := (je (ql s)).1) hp;omega
open Go.RowKit Go.Sha Go.Shelf Tryz
theorem Wn (d : L8) (c : UInt8) : zh prog 160 [sT d,b8 c] [] fun v A => v = .int .i64 (Lib.indexByte d c) /\ A = [] := by
 have h : zh prog 160 [sT d,b8 c] [] fun v A => v = .int .i64 (Lib.indexByte d c) /\ A = [[]] := by
  refine vF rfl rfl kM fun w hw => ?_
  refine (Any.strings_IndexByte laysI ⟨d.toArray⟩ c.toNat w).mono ?_;rintro e w' ⟨rfl,rfl⟩;refine ⟨_,rfl,Below.refl _ _,[],fun k o hm => (by cases hm),sM,?_,rfl⟩;rw [show ((c.toNat : Int).toNat.toUInt8) = c from sM]
 refine zh.conv [] h rfl (.nil _) ?_;rintro v A ⟨rfl,rfl⟩;exact ⟨[],[[]],rfl,zn.refl _,rfl,rfl⟩
def prs : L8 -> List L8
 | [] => []
 | [a] => [[a]]
 | a :: b :: r => [a,b] :: prs r
theorem OU : ∀ (s : L8),s ≠ [] -> prs s = s.take 2 :: prs (s.drop 2)
 | [],h => (h rfl).elim
 | [a],_ => rfl
 | a :: b :: r,_ => rfl
abbrev encG (x : L8) : LV := [sT x]
abbrev sb (c : Nat) (s : L8) : zd := bx c (sT s) 9
abbrev ib (c : Nat) : zd := bx c (.int .i64 2) 3
abbrev NextG (q pre : List L8) (x : L8) : Prop := ∃ suf,q = pre ++ x :: suf
theorem Ux (s : L8) : zh prog 159 [sT s,.int .i64 2] []
  fun u A => ∃ c1 c2,u = .func (.func 208) #[] #[pT c1,pT c2] /\ A = [sb c1 s,ib c2] := by
 refine eNg func159 ntmps159 results159 fun F => ?_
 refine oB fun c1 => ?_
 refine oBg fun c2 => ?_
 refine ze [sb c1 s,ib c2] ⟨c1,c2,rfl,rfl⟩
theorem Uy (c1 c2 : Nat) (s : L8) (hs : s.length <= 100000) :
  wN prog 208 [] [pT c1,pT c2] encG [sb c1 s,ib c2]
   (fun T => T = []) noH noH noH (NextG (prs s)) (fun pre => pre = prs s)
   (fun _ A => ∃ r,A = [sb c1 r,ib c2]) (fun _ A => ∃ r,A = [sb c1 r,ib c2]) false := by
 refine vv kM fun l0 J Jx hN hT hY C hC => ?_
 refine eNg func208 ntmps208 results208 fun F => ?_
 refine zM (fun q D L S => ∃ (pre : List L8) (t : L8) (C' : zd),J pre C' /\ t.length <= s.length /\ prs s = pre ++ prs t /\ q = t.length /\ D = [] /\
  L = [(0,.func (.yield l0) #[] #[]),(1,pT c1),(2,pT c2)] /\ S = [C',sb c1 t,ib c2,F])
  ⟨[],s,C,hC,aR _,rfl,rfl,rfl,rfl,rfl⟩ ?_
 rintro q D L S ⟨pre,t,C',hJ,htl,hps,rfl,rfl,rfl,rfl⟩;refine gg ?_
 by_cases ht : t = []
 ·subst ht
  (try rw [dF (sM : ¬ (0 : Int) < (([] : L8).length : Nat))])
  refine gg ?_;refine xm [C',sb c1 [],ib c2] ⟨C',_,rfl,.inl ⟨pre,by rw [hps];simp [prs],hJ,[],rfl⟩⟩
 ·have hp : 0 < t.length := List.length_pos_iff.2 ht;rw [dT (oM : (0 : Int) < t.length)];refine gg ?_;have em : (if (2 : Int) < t.length then (2 : Int) else t.length) = ((t.take 2).length : Nat) := by rw [aX];split <;> omega
  have hl2 : (t.take 2).length <= t.length := by rw [aX];omega
  have et : t.take (t.take 2).length = t.take 2 := by
   rw [aX]
   rcases Nat.le_total 2 t.length with h | h
   ·rw [Nat.min_eq_left h]
   ·rw [Nat.min_eq_right h,iK,lE h]
  have ed : t.drop (t.take 2).length = t.drop 2 := by
   rw [aX]
   rcases Nat.le_total 2 t.length with h | h
   ·rw [Nat.min_eq_left h]
   ·rw [Nat.min_eq_right h,mR,mE h]
  (try rw [em])
  (try refine gg ?_)
  (try rw [show (((t.take 2).length : Nat) : Int).toNat = (t.take 2).length from oM])
  rw [et];have hnx : NextG (prs s) pre (t.take 2) := ⟨prs (t.drop 2),by rw [hps,OU t ht]⟩;refine xd fun K hK => ?_
  refine jz (hY pre (t.take 2) hnx) hJ rfl tkA (fun C4 H4 hJ4 hH4 => ?_) (fun C4 H4 hJ4 hH4 => ?_)
  ·subst hH4
   (try simp only [aD])
   refine hK _ _ ?_;clear hK K;refine gg ?_;rw [ed];refine gg ?_;exact zI ⟨pre ++ [t.take 2],t.drop 2,C4,hJ4,by rw [aV];omega,by rw [hps,OU t ht];simp,rfl,rfl,rfl,rfl⟩ (by rw [aV];omega)
  ·subst hH4
   (try simp only [aD])
   refine hK _ _ ?_;clear hK K;refine gg ?_;refine jO [C4,sb c1 t,ib c2] ⟨C4,_,rfl,.inr ⟨pre,_,hnx,hJ4,t,rfl⟩⟩
theorem Ir {P : Program} {t : TypeId} {x y : Operand} {j : IntKind} {a : Int} {κ : Value -> Prop} (a0 : 0 <= a) (a1 : a <= 1000000) : zk P (do eqGuard .shl t x y (.int .i64 a) (.int j 4);binOp .shl t (.int .i64 a) (.int j 4)) κ = κ (.int .i64 (a * 16)) :=
 zq (fun w => by
  have e : min (4 : Int).toNat IntKind.i64.bits = 4 := rfl
  show (Op.shift .shl .i64 a j 4).run P w = _
  rw [Op.shift,if_neg dM,e]
  show Result.ok (Value.int .i64 (IntKind.i64.wrap (a * 2 ^ 4))) w = _
  rw [show (2 : Int) ^ 4 = 16 from rfl,yv oM oM]) κ
theorem Is {P : Program} {t : TypeId} {x y : Operand} {a b : Int} {κ : Value -> Prop} (a0 : 0 <= a) (a1 : a <= 1000000) (b0 : 0 <= b) (b1 : b < 16) : zk P (do eqGuard .or t x y (.int .i64 (a * 16)) (.int .i64 b);binOp .or t (.int .i64 (a * 16)) (.int .i64 b)) κ = κ (.int .i64 (a * 16 + b)) :=
 zq (fun w => by
  obtain ⟨m,rfl⟩ : ∃ m : Nat,a = m := ⟨a.toNat,oM⟩;obtain ⟨k,rfl⟩ : ∃ k : Nat,b = k := ⟨b.toNat,oM⟩
  show Result.ok (Value.int .i64 (IntKind.i64.wrap ((iE 64 ((m : Int) * 16) ||| iE 64 (k : Int)).toNat : Int))) w = _
  have e : (iE 64 ((m : Int) * 16) ||| iE 64 (k : Int)).toNat = m * 16 + k := by
   rw [show ((m : Int) * 16) = ((m * 16 : Nat) : Int) from sM,BitVec.ofInt_natCast,BitVec.ofInt_natCast,BitVec.toNat_or,lU,lU,lV oM,lV oM];have := Nat.shiftLeft_add_eq_or_of_lt (i := 4) (oM : k < 2 ^ 4) m;rw [mL] at this;exact this.symm
  rw [e,yv oM oM]
  simp) κ
def VS (x : L8) : Bool := match x with
 | [a,b] => decide (0 <= dv a) && decide (0 <= dv b)
 | _ => false
def byteG (x : L8) : UInt8 := match x with
 | [a,b] => aG (16 * (dv a).toNat + (dv b).toNat)
 | _ => 0
theorem eK : ∀ (k : Nat) (s : L8),s.length <= k -> s.length % 2 = 0 -> ∀ x ∈ prs s,∃ a b,x = [a,b]
 | _,[],_,_,x,hx => by cases hx
 | _,[a],_,h,x,hx => by simp at h
 | 0,a :: b :: r,hk,h,x,hx => by simp at hk
 | k + 1,a :: b :: r,hk,h,x,hx => by
  simp only [aH] at hk h
  rcases List.mem_cons.1 (show x ∈ [a,b] :: prs r from hx) with rfl | hx
  ·exact ⟨a,b,rfl⟩
  ·exact eK k r oM oM x hx
theorem Ye : ∀ (k : Nat) (s : L8),s.length <= k -> s.length % 2 = 0 -> uhF s = if (prs s).all VS = true then some ((prs s).map byteG) else none
 | _,[],_,_ => rfl
 | _,[a],_,h => by simp at h
 | 0,a :: b :: r,hk,h => by simp at hk
 | k + 1,a :: b :: r,hk,h => by
  simp only [aH] at hk h;have ih := Ye k r oM oM;have e : prs (a :: b :: r) = [a,b] :: prs r := rfl;rw [e,mK,iB,uhF,ih];have hg : VS [a,b] = (decide (0 <= dv a) && decide (0 <= dv b)) := rfl;rw [hg]
  by_cases h1 : 0 <= dv a
  ·by_cases h2 : 0 <= dv b
   ·rw [if_neg oM,dT h1,dT h2];simp only [mM]
    split <;> rfl
   ·rw [if_pos (.inr oM),dF h2]
    simp
  ·rw [if_pos (.inl oM),dF h1]
   simp
theorem uh_odd {s : L8} (h : s.length % 2 ≠ 0) : uhE s = ([],2) := by unfold uhE;rw [if_pos h]
theorem uh_good {s : L8} (h : s.length % 2 = 0) (hg : (prs s).all VS = true) : uhE s = ((prs s).map byteG,0) := by
 unfold uhE;rw [if_neg oM,Ye _ s (aR _) h,if_pos hg]
theorem uh_bad {s : L8} (h : s.length % 2 = 0) (hg : (prs s).all VS = false) : uhE s = ([],5) := by
 unfold uhE;rw [if_neg oM,Ye _ s (aR _) h,if_neg (by rw [hg];simp)]
theorem eL : ∀ (k : Nat) (s : L8),s.length <= k -> (prs s).length <= s.length
 | _,[],_ => aR _
 | _,[a],_ => aR _
 | 0,a :: b :: r,hk => by simp at hk
 | k + 1,a :: b :: r,hk => by
  have := eL k r (by simp only [aH] at hk;omega)
  show (prs r).length + 1 <= r.length + 1 + 1;omega
theorem Qq (s : L8) (hs : s.length <= 100000) : zh prog 114 [sT s] []
  fun v A => ∃ X a k,v = .tuple #[.slice a (uhE s).1.length k,.int .i64 (uhE s).2] /\ Own8 5 X a (uhE s).1.length k (uhE s).1 /\ A = [X] := by
 have hpl := eL _ s (aR _);refine eN func114 ntmps114 results114 fun F => ?_
 refine zU ?_;refine gg ?_;refine zF ?_;refine zC fun b2 => ?_;(try simp only [Value.cells])
 refine zF ?_;refine zC fun b3 => ?_;(try simp only [Value.cells])
 refine gg ?_
 by_cases h2 : s.length % 2 = 0
 ·rw [bne_eq_false_iff_eq.2 (oM : (s.length : Int) % 2 = 0)];refine gg ?_;refine zF ?_;refine zC fun b4 => ?_;(try simp only [Value.cells])
  refine gg ?_;refine cA (Ux s) ?_;rintro v A ⟨c1,c2,rfl,rfl⟩;refine gA ?_;refine zU ?_
  refine jV (by (try simp only [evT,zj,zi,aJ]);(first | done | exact rfl)) (Uy c1 c2 s hs) (by (repeat (first | exact Take.nil _ | with_reducible exact Pick.head _ _ | with_reducible apply Pick.tail | with_reducible apply Take.cons))) (fun pre C => pre.all VS = true /\ ∃ (X : zd) (xa : OA) (xc : Nat),Own8 5 X xa pre.length xc (pre.map byteG) /\
    C = [X,bx b4 (.slice xa pre.length xc) 43,bx b3 (.int .i64 0) 35,bx b2 nS 43,[],F])
   (fun k pre C => k = .ret /\ (prs s).all VS = false /\ C = [bx b3 (.int .i64 5) 35,bx b2 nS 43,[],F]) (fun h => by cases h) (fun C hC => ⟨[],C.flatten,rfl,sM⟩) (fun _ => rfl)
   ⟨rfl,[],none,0,zJ,rfl⟩ ?_ ?_ ?_
  ·rintro l F1 C H r' pre x ⟨suf,hx⟩ ⟨hg,X,xa,xc,hX,rfl⟩ rfl;obtain ⟨a,b,rfl⟩ := eK _ s (aR _) h2 x (by rw [hx];simp);have hprl : pre.length < (prs s).length := by rw [hx];simp
   have ra := XS a;have rb := XS b;have hgx : VS [a,b] = (decide (0 <= dv a) && decide (0 <= dv b)) := rfl
   have hbad : VS [a,b] = false -> (prs s).all VS = false := fun h => by
    rw [hx,List.all_append,mK,h];simp
   have eD : Value.string ⟨#[48,49,50,51,52,53,54,55,56,57,97,98,99,100,101,102]⟩ = sT xB := rfl;have ia := Wn xB a;have ib' := Wn xB b;rw [show Lib.indexByte xB a = dv a from rfl] at ia;rw [show Lib.indexByte xB b = dv b from rfl] at ib';have hby : byteG [a,b] = aG (16 * (dv a).toNat + (dv b).toNat) := rfl;generalize dv a = va at *;generalize dv b = vb at *
   (try simp only [aD,aC,aL,encG])
   (try simp only [qP,putT,iN,if_true,reduceIte,Array.toList,mG])
   refine gg ?_;refine ⟨_,.cons (.head _ _) (zn.refl _),fun r'' _ => ?_⟩;refine gg ?_;refine zF ?_;refine xb (by simp [maxLen]) (fun Y ya yc hY => ?_);refine gg ?_;rw [show ([a,b] : L8).length = 2 from rfl] at *
   refine zM (fun q D L S => ∃ (k : Nat) (n : Int),((k = 0 /\ n = 0) ∨ (k = 1 /\ 0 <= va /\ n = va) ∨ (k = 2 /\ 0 <= va /\ 0 <= vb /\ n = va * 16 + vb)) /\ q = 2 - k /\ D = [] /\
    L = [(20,.int .i64 k),(19,.int .i64 2),(18,.slice (some ya) 2 yc),(6,.int .i64 n),(4,pT b4),(3,pT b3),(2,pT b2)] /\
    S = [Y,[(l,.loop r'')],F1,X,bx b4 (.slice xa pre.length xc) 43,bx b3 (.int .i64 0) 35,bx b2 nS 43,[],F])
    ⟨0,0,.inl ⟨rfl,rfl⟩,rfl,rfl,rfl,rfl⟩ ?_
   rintro q D L S ⟨k,n,hkn,rfl,rfl,rfl,rfl⟩
   rcases hkn with ⟨rfl,hn⟩ | ⟨rfl,ha,hn⟩ | ⟨rfl,ha,hb,hn⟩
   ·refine gg ?_
    (try rw [show ([a,b] : L8).getD 0 0 = a from rfl])
    (try rw [eD])
    refine cR (ia) ?_
    by_cases hv : 0 <= va
    ·rw [dF (oM : ¬ va < 0)];refine gg ?_;refine zF ?_;rw [Ir oM oM];refine gg ?_;refine zF ?_;rw [Is oM oM oM oM];refine gg ?_;exact zI ⟨1,n * 16 + va,.inr (.inl ⟨rfl,hv,oM⟩),rfl,rfl,rfl,rfl⟩
    ·rw [dT (oM : va < 0)];refine gg ?_;exact ⟨_,⟨_,[],rfl,⟨rfl,hbad (by rw [hgx,dF hv];rfl),rfl⟩,rfl⟩,by (try simp only [aL]);first | ((repeat (first | with_reducible exact zn.nil _ | with_reducible exact Pick.head _ _ | with_reducible apply Pick.tail | with_reducible apply zn.cons));done) | ((repeat (first | exact zn.nil _ | exact Pick.head _ _ | apply Pick.tail | apply zn.cons));done)⟩
   ·refine gg ?_
    (try rw [show ([a,b] : L8).getD 1 0 = b from rfl])
    (try rw [eD])
    refine cR (ib') ?_
    by_cases hv : 0 <= vb
    ·rw [dF (oM : ¬ vb < 0)];refine gg ?_;refine zF ?_;rw [Ir oM oM];refine gg ?_;refine zF ?_;rw [Is oM oM oM oM];refine gg ?_;exact zI ⟨2,n * 16 + vb,.inr (.inr ⟨rfl,ha,hv,oM⟩),rfl,rfl,rfl,rfl⟩
    ·rw [dT (oM : vb < 0)];refine gg ?_;exact ⟨_,⟨_,[],rfl,⟨rfl,hbad (by rw [hgx,dF hv];simp),rfl⟩,rfl⟩,by (try simp only [aL]);first | ((repeat (first | with_reducible exact zn.nil _ | with_reducible exact Pick.head _ _ | with_reducible apply Pick.tail | with_reducible apply zn.cons));done) | ((repeat (first | exact zn.nil _ | exact Pick.head _ _ | apply Pick.tail | apply zn.cons));done)⟩
   ·refine gg ?_
    have eb : Value.int .u8 n = b8 (byteG [a,b]) := by
     rw [hby];simp only [b8,iO]
     congr 1;omega
    rw [eb];refine zF ?_;refine xI ([byteG [a,b]]) dM rfl (rfl) (fun b7 C7 ho7 => ?_);refine gg ?_;refine zF ?_;refine app8 (hX) pkA ((ho7.rd (aA ..)).mem mmA) oM (fun C9 a9 cap9 ho9 => ?_);have e1 : pre.length + 1 = (pre ++ [[a,b]]).length := sM;have e2 : pre.map byteG ++ [byteG [a,b]] = (pre ++ [[a,b]]).map byteG := sM;rw [e1,e2] at ho9;rw [e1];refine gg ?_;exact ⟨_,⟨_,[],rfl,⟨by rw [List.all_append,hg,mK,hgx,dT ha,dT hb];rfl,C9,a9,cap9,ho9,rfl⟩,rfl⟩,by (try simp only [aL]);first | ((repeat (first | with_reducible exact zn.nil _ | with_reducible exact Pick.head _ _ | with_reducible apply Pick.tail | with_reducible apply zn.cons));done) | ((repeat (first | exact zn.nil _ | exact Pick.head _ _ | apply Pick.tail | apply zn.cons));done)⟩
  ·rintro d pre C A rfl ⟨hg,X,xa,xc,hX,rfl⟩ ⟨r,rfl⟩;rw [uh_good h2 hg]
   (try simp only [aD,aC])
   refine gg ?_;refine zf (vs := [.slice xa ((prs s).map byteG).length xc,.int .i64 0]) [X] ⟨X,xa,xc,rfl,by rw [iA];exact hX,rfl⟩ (hr := by (intro κ hκ;simp only [resW,zy,zj,zi,aJ,iA] at hκ ⊢;(repeat (first | refine ji lkA ?_ | refine xf lkA rfl ?_));exact hκ))
  ·rintro d k pre x C A hx ⟨rfl,hbad,rfl⟩ ⟨r,rfl⟩;rw [uh_bad h2 hbad]
   (try simp only [aD,aC])
   refine gg ?_;refine zf (vs := [nS,.int .i64 5]) [[]] ⟨[],none,0,rfl,zJ,rfl⟩
 ·rw [uh_odd h2,bne_iff_ne.2 (oM : (s.length : Int) % 2 ≠ 0)];refine gg ?_;refine zf (vs := [nS,.int .i64 2]) [[]] ⟨[],none,0,rfl,zJ,rfl⟩
end Go.Proofs.YtebikhhoppiapaaGreatDoor
namespace Go.Proofs.YtebikhhoppiapaaGreatDoor
open Go Go.Ost Go.Sha Tryz
theorem eZ (l : L8) (i : Nat) (h : i < l.length) : numW (l.take (i + 1)) = (numW (l.take i) <<< 8) ||| lZ 32 (l.getD i 0).toNat := by
 unfold numW;rw [lG,List.foldl_append,aS,aE h];rfl
theorem Uf (s : L8) (hs : s.length <= 100000) : zh prog 112 [sT s] []
  fun v A => v = .tuple #[b32 (numE s).1,.bool (numE s).2] /\ A = [] := by
 have hle := uh_le s;unfold numE;refine eNg func112 ntmps112 results112 fun F => ?_
 refine cA (Qq s hs) ?_;rintro v A ⟨X,xa,xk,rfl,hX,rfl⟩;refine gA ?_;rw [show Value.int .u32 0 = b32 (numW ((uhE s).1.take 0)) from rfl];generalize (uhE s).1 = p at *;generalize (uhE s).2 = e at *
 refine zM (fun q D L S => ∃ i : Nat,i <= p.length /\ q = p.length - i /\ D = [] /\
  L = [(16,.int .i64 i),(15,.int .i64 p.length),(14,.slice xa p.length xk),(6,b32 (numW (p.take i))),(5,.int .i64 e),(0,sT s)] /\ S = [X,F])
  ⟨0,oM,rfl,rfl,rfl,rfl⟩ ?_
 rintro q D L S ⟨i,hi,rfl,rfl,rfl,rfl⟩;refine gg ?_;refine if_d (fun hc => ?_) (fun hc => ?_)
 ·have hil : i < p.length := oM;have hnx := eZ p i hil;refine gg ?_;rw [<- hnx];exact zI ⟨i + 1,oM,rfl,rfl,rfl,rfl⟩
 ·obtain rfl : i = p.length := oM;rw [iK];refine gg ?_
  by_cases h0 : e = 0
  ·subst h0;refine gg ?_;refine zf (vs := [b32 (numW p),.bool (decide ((s.length : Int) = 8))]) [] ⟨by simp [wO],rfl⟩
  ·rw [beq_eq_false_iff_ne.2 h0];refine gg ?_;refine zf (vs := [b32 (numW p),.bool false]) [] ⟨by simp [wO,h0],rfl⟩
end Go.Proofs.YtebikhhoppiapaaGreatDoor
