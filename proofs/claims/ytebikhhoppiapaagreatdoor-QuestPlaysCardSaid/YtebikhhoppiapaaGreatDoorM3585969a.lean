/- Texts in a row: the walk's rules and contracts, as each says. Conditions: as each says. -/
import Derived.Test.YtebikhhoppiapaaGreatDoorM09790199
import Derived.Test.YtebikhhoppiapaaGreatDoorMa22cf9b8
import Derived.Test.YtebikhhoppiapaaGreatDoorMa22cf9b8
set_option linter.unusedSimpArgs false
set_option linter.defProp false
set_option linter.unusedVariables false
set_option maxRecDepth 100000
set_option maxHeartbeats 8000000
open List renaming mem_cons_self -> aA, length_append -> aB, cons_append -> aC, nil_append -> aD, getElem?_eq_getElem -> aE, length_cons -> aH, length_singleton -> aI, mem_cons_of_mem -> aK, append_nil -> aL, append_assoc -> aN, flatten_cons -> aO, length_nil -> aQ, getD_eq_getElem?_getD -> aS, not_mem_nil -> aT, replicate -> aU, length_drop -> aV, length_take -> aX, mem_cons -> aY, length_replicate -> aZ, length_map -> iA, map_cons -> iB, range -> iC, getElem?_cons_succ -> iD, mem_append_left -> iG, drop_eq_getElem_cons -> iH, getElem?_cons_zero -> iJ, take_length -> iK, flatten_append -> iL, getElem?_toArray -> iP, flatten_nil -> iS, flatMap_cons -> iU, getElem?_append_right -> lD, take_of_length_le -> lE, getElem?_map -> lF, take_add_one -> lG, perm_append_comm -> lH, flatMap_append -> lI, map_append -> lL, getElem?_append_left -> lP, dropWhile_cons -> lQ, take_append_drop -> lR, getElem_mem -> lT, getElem?_take_of_lt -> lY, length -> mA, getD -> mB, length_set -> mC, drop_eq_nil_of_le -> mE, getElem?_modify -> mF, toList_toArray -> mG, mem_map_of_mem -> mH, mem_singleton -> mJ, all_cons -> mK, drop_drop -> mQ, drop_length -> mR, map_nil -> mV
open And renaming intro -> aF
open UInt8 renaming ofNat -> aG, toNat_ofNat' -> iO
open Nat renaming reduceBEq -> aJ, reduceEqDiff -> aP, le_refl -> aR, reduceSub -> iF, sub_zero -> iI, reduceLT -> iN, reduceAdd -> iQ, zero_add -> iT, mul_le_mul_right -> lM, add_mul -> lO, mod_eq_of_lt -> lV, zero_le -> lW, shiftLeft_eq -> mL, le_trans -> mN, add_sub_cancel -> mO, add_zero -> mT
open Bool renaming and_eq_true -> aM, not_eq_true' -> mI, true_and -> mM, or_eq_true -> mP, false_or -> mS
open Int renaming toNat_natCast -> aW, reduceToNat -> iM, reduceBEq -> iV, reduceBNe -> iW, reduceAdd -> iX, reduceSub -> iY, reduceMul -> iZ, reduceDiv -> lA, reduceMod -> lB, reducePow -> lC, reduceLT -> lJ, reduceLE -> lK
open BitVec renaming ofInt -> iE, toNat_ofNat -> lU, ofNat -> lZ
open Option renaming getD_some -> iR, map_some -> lX
open Array renaming getElem?_setIfInBounds_ne -> lN, ext' -> lS, getElem?_eq_getElem -> mD
namespace Go.Proofs.YtebikhhoppiapaaGreatDoor
open Go Go.Ost Tryz
theorem and64 {P : Program} {t : TypeId} {x y : Operand} {a b : Int} {κ : Value -> Prop} : zk P (do eqGuard .and t x y (.int .u64 a) (.int .u64 b);binOp .and t (.int .u64 a) (.int .u64 b)) κ = κ (.int .u64 (IntKind.u64.wrap ((iE 64 a &&& iE 64 b).toNat : Int))) :=
 zq (fun w => by rfl) κ
theorem and64_1 : IntKind.u64.wrap ((iE 64 1 &&& iE 64 4294967295).toNat : Int) = 1 := rfl
theorem and64_2 : IntKind.u64.wrap ((iE 64 64 &&& iE 64 4294967295).toNat : Int) = 64 := rfl
theorem and64_3 : IntKind.u64.wrap ((iE 64 0 &&& iE 64 4294967295).toNat : Int) = 0 := rfl
theorem bY : zh prog 257 [.int .u64 1,.int .u64 64] [] fun v A => v = .tuple #[.int .u64 0,.int .u64 64] /\ A = [] := by
 refine eNg func257 ntmps257 results257 fun F => ?_
 refine zF ?_;rw [and64,and64_1];refine gg ?_;refine gg ?_;refine zF ?_;rw [and64,and64_2];refine gg ?_;refine zF ?_;rw [and64,and64_3];refine gg ?_;refine zf [] ?_;exact ⟨kM,rfl⟩
theorem mul_spec : zh prog 250 [.int .u64 1,.int .u64 64] [] fun v A => v = .tuple #[.int .u64 0,.int .u64 64] /\ A = [] := by
 refine eNg func250 ntmps250 results250 fun F => ?_
 refine cR (bY) ?_;refine zf [] ?_;exact ⟨rfl,rfl⟩
theorem take_rep {α : Type} (x : α) (k : Nat) (r : List α) : (aU k x ++ r).take k = aU k x := by rw [List.take_left' sM]
theorem YL (H : zd) (a : OA) (cap : Nat) (x : UInt8) (hcap : 1 <= cap) (h : Rd 1 [H] a 1 ([x].map b8)) :
  zh prog 229 [.slice a 1 cap,.int .i64 64] [H] (New8 5 (aU 64 x) [H]) := by
 refine eNg func229 ntmps229 results229 fun F => ?_
 refine cR (mul_spec) ?_;refine xd fun K hK => ?_;refine XA func183 kM kM kM (e := Extern.BytealgMakeNoZero.makeNoZero #[3] #[43]) kM ?_
 refine Ul (e := 5) (n := 64) dM (fun b1 cap1 us C1 ho1 => ?_);refine hK _ _ ?_;clear hK K;have hus : us.length = 64 := ho1.2.2.1;have ho2 := YZ ho1 (l := 0) (h' := 64) (m := 64) dM dM dM ho1.1;have e1 : (us.drop (0 * 1)).take ((64 - 0) * 1) = us := by rw [Nat.zero_mul,List.drop_zero];exact lE oM
 rw [e1] at ho2;have hcap1 := ho1.1;refine gg ?_;generalize cutA 1 (some (⟨b1,0,none⟩ : Addr)) 0 64 = p at *;refine xd fun K hK => ?_
 refine XT (l := 0) ho2 pkA (h.mem mmA) (by simp [Value.cell1,b8]) dM (fun _ => by cases p <;> simp [Addr.add]) (fun C2 ho3 => ?_);refine hK _ _ ?_;clear hK K;refine gg ?_
 refine zM (fun q D L S => ∃ (k : Nat) (C' : zd) (r : LV),1 <= k /\ k <= 64 /\ Ost.Own 1 5 C' p 64 64 (aU k (b8 x) ++ r) /\ q = 64 - k /\ D = [] /\
  L = [(10,.int .i64 k),(9,.slice p 64 64),(8,.int .i64 64),(7,.int .i64 64)] /\ S = [C',F,H])
  ⟨1,C2,us.drop 1,dM,dM,by simpa using ho3,rfl,rfl,rfl,rfl⟩ ?_
 ·rintro q D L S ⟨k,C',r,hk1,hk2,ho,rfl,rfl,rfl,rfl⟩;have hrl : (aU k (b8 x) ++ r).length = 64 := ho.2.2.1;have hr2 : k + r.length = 64 := by simpa using hrl
  refine gg ?_;refine if_d (fun hc => ?_) (fun hc => ?_)
  ·refine gg ?_;rw [if_neg (oM : ¬ ((64 : Int) < k))];refine cdL [[0],[1],[2],[3],[4],[5],[6],[7,0],[8],[9,0]] ?_
   have hsrc : Rd 1 [C'] (cutA 1 p 0 64) k ((aU k x).map b8) := by
    have := OQ (ho.rd (S := [C']) (aA ..)) (l := 0) (h' := k) (m := 64) oM oM oM
    simpa using this
   refine gg ?_;refine wL fun K hK => ?_
   refine XT (l := k) ho pkA (hsrc.mem mmA) (fun v hv => by simp at hv;rw [hv.2];exact UY x) oM (fun hpos => by unfold cutA;rw [if_neg oM,Nat.mul_one]) (fun C3 ho3 => ?_);refine hK _ _ ?_;clear hK K
   have e2 : (aU k (b8 x) ++ r).take k ++ (((aU k x).map b8).take (min k (64 - k)) ++ (aU k (b8 x) ++ r).drop (k + min k (64 - k))) = aU (k + min k (64 - k)) (b8 x) ++ r.drop (min k (64 - k)) := by
    rw [take_rep,List.map_replicate,List.take_replicate,<- aN,List.replicate_append_replicate,show min (min k (64 - k)) k = min k (64 - k) from oM]
    congr 1
    rw [List.drop_append];simp
   rw [e2] at ho3;refine gg ?_;refine gg ?_;exact zI ⟨k + min k (64 - k),C3,r.drop (min k (64 - k)),oM,oM,ho3,rfl,rfl,rfl,rfl⟩
  ·refine gg ?_;obtain rfl : k = 64 := oM;obtain rfl : r = [] := List.length_eq_zero_iff.1 oM;rw [aL] at ho;refine ze [C',H] ?_;exact ⟨C',p,64,sM,by simpa [Own8] using ho,rfl⟩
open Go.Sha
theorem Jb {tg : TypeId} (G H : zd) (m : Nat × Nat) (hG : (3,Obj.cells (rowW odd) tg m) ∈ G) (b e : Nat) (s : St) (r : LV) (a : OA) (cap : Nat) (hcap : 64 <= cap) (bs : L8) (hb : bs.length = 64) (h : Rd 1 [H] a 64 (bs.map b8)) :
  zh prog 186 [pT b,.slice a 64 cap] [G,H,[(b,.cells (rowX s.list r) e (0,0))]]
   fun v A => v = .tuple #[] /\ A = [G,H,[(b,.cells (rowX (Go.Sha.step odd s bs).list r) e (0,0))]] := by
 refine eN func186 ntmps186 results186 fun F => ?_
 refine zg fun N1 hN1 => ?_
 refine rgE ?_;refine cA (Yo H a cap hcap bs hb h) ?_;rintro v A ⟨rfl,rfl⟩;refine rnE ?_;refine zF ?_;refine zC fun b4 => ?_;(try simp only [Value.cells])
 refine xd fun K hK => ?_
 refine qU (l := spr bs 0) (l' := spr bs 64) (by (repeat (first | exact Upd.one | apply Upd.next))) (xO _ _) (xO _ _) ?_;refine hK _ _ ?_;clear hK K;refine rnE ?_;refine hN1 _ _ _ ?_;clear hN1;refine zg fun N2 hN2 => ?_
 refine cdL [[0],[1],[2],[3],[4],[5],[6],[7],[8],[9],[10],[11],[12],[13],[14],[15],[16],[17],[18],[19],[20],[21],[22],[23],[24],[25],[26],[27],[28],[29],[30],[31],[32,0,7,11,15,19,23,27,31],[33,0,11,15,19,23,27,31],[34,0,15,19,23,27,31],[35,0,19,23,27,31],[36,0,23,27,31],[37,0,27,31],[38,0,31],[39,0]] ?_
 (try refine xu ?_);(try refine zx ?_)
 refine zG ?_;(repeat refine qV ?_)
 (try refine xu ?_);(try refine zx ?_)
 refine zG ?_;(repeat refine qV ?_)
 (try refine xu ?_);(try refine zx ?_)
 refine zG ?_;(repeat refine qV ?_)
 (try refine xu ?_);(try refine zx ?_)
 refine zG ?_;(repeat refine qV ?_)
 (try refine xu ?_);(try refine zx ?_)
 refine zG ?_;(repeat refine qV ?_)
 (try refine xu ?_);(try refine zx ?_)
 refine zG ?_;(repeat refine qV ?_)
 (try refine xu ?_);(try refine zx ?_)
 refine zG ?_;(repeat refine qV ?_)
 (try refine xu ?_);(try refine zx ?_)
 refine zG ?_;(repeat refine qV ?_)
 (try refine xu ?_);(try refine zx ?_)
 refine hN2 _ _ _ ?_;clear hN2;refine zg fun N3 hN3 => ?_
 refine zg fun N4 hN4 => ?_
 refine rgE ?_;refine hN4 _ _ _ ?_;clear hN4;refine zr ?_
 refine xL (fun q D L S => ∃ i : Nat,i <= 64 /\ q = 64 - i /\ D = [] /\ L = [(55,.int .i64 i),(5,b32 (kZ odd (spr bs 64) i s).a),(6,b32 (kZ odd (spr bs 64) i s).b),(7,b32 (kZ odd (spr bs 64) i s).c),(8,b32 (kZ odd (spr bs 64) i s).d),(9,b32 (kZ odd (spr bs 64) i s).e),(10,b32 (kZ odd (spr bs 64) i s).f),(11,b32 (kZ odd (spr bs 64) i s).g),(12,b32 (kZ odd (spr bs 64) i s).h),(0,pT b),(4,pT b4)] /\
  S = [F,[(b4,.cells (rowW (spr bs 64)) 352 (0,0))],G,H,[(b,.cells (rowX s.list r) e (0,0))]]) ?_ ?_
 ·exact ⟨_,_,_,⟨0,oM,rfl,rfl,rfl,rfl⟩,by (repeat (first | exact True.intro | (refine aF ?_ ?_;(· (try simp only [evT,zj,zi,aJ]);(first | done | exact rfl))))),amA⟩
 ·rintro q D L S ⟨i,hi,rfl,rfl,rfl,rfl⟩;refine zg fun N5 hN5 => ?_
  refine rgE ?_;refine hN5 _ _ _ ?_;clear hN5;refine zg fun N6 hN6 => ?_
  refine jH (fun hc => ?_) (fun hc => ?_)
  ·have hc := of_decide_eq_true hc;refine zP ?_;refine hN6 _ _ _ ?_;clear hN6;generalize hst : kZ odd (spr bs 64) i s = st;refine zg fun N7 hN7 => ?_
   refine zr ?_;refine zg fun N8 hN8 => ?_
   refine rgE ?_;refine hN8 _ _ _ ?_;clear hN8;refine zg fun N9 hN9 => ?_
   refine rgE ?_;refine cA (qy _ 6 dM dM) ?_;rintro v A ⟨rfl,rfl⟩;refine rnE ?_;refine cA (qy _ 11 dM dM) ?_;rintro v A ⟨rfl,rfl⟩;refine rnE ?_;refine cA (qy _ 25 dM dM) ?_;rintro v A ⟨rfl,rfl⟩;refine rnE ?_;refine hN9 _ _ _ ?_;clear hN9;refine zg fun N10 hN10 => ?_
   refine rgE ?_;refine hN10 _ _ _ ?_;clear hN10;refine zg fun N11 hN11 => ?_
   refine cdL [[0],[1],[2],[3],[4],[5],[6],[7],[8],[9],[10],[11],[12],[13,0]] ?_
   (try refine xu ?_);(try refine zx ?_)
   refine zG ?_;(repeat refine qV ?_)
   (try refine xu ?_);(try refine zx ?_)
   refine hN11 _ _ _ ?_;clear hN11;refine zg fun N12 hN12 => ?_
   refine rgE ?_;refine cA (qy _ 2 dM dM) ?_;rintro v A ⟨rfl,rfl⟩;refine rnE ?_;refine cA (qy _ 13 dM dM) ?_;rintro v A ⟨rfl,rfl⟩;refine rnE ?_;refine cA (qy _ 22 dM dM) ?_;rintro v A ⟨rfl,rfl⟩;refine rnE ?_;refine hN12 _ _ _ ?_;clear hN12;refine zg fun N13 hN13 => ?_
   refine rgE ?_;refine hN13 _ _ _ ?_;clear hN13;refine rgE ?_;rw [show 0 + i * 1 = i from oM,BitVec.add_assoc _ (rot 2 st.a ^^^ rot 13 st.a ^^^ rot 22 st.a) _];subst hst;refine hN7 _ _ _ ?_;clear hN7;refine rgE ?_;exact zI ⟨i + 1,oM,rfl,rfl,rfl,rfl⟩
  ·have hc := of_decide_eq_false hc;refine zZ ?_;try simp only [Cont.then,Cont.block,Cont.noGoto,reduceIte,aP];refine hN3 _ _ _ ?_;clear hN3;obtain rfl : i = 64 := oM;generalize hv : kZ odd (spr bs 64) 64 s = v;refine zg fun N14 hN14 => ?_
   refine rgE ?_;refine xd fun K hK => ?_
   rw [Kh rfl];refine hK _ _ ?_;clear hK K;refine rnE ?_;refine hN14 _ _ _ ?_;clear hN14;refine zr ?_
   refine xL (fun q D L S => ∃ i : Nat,i <= 8 /\ q = 8 - i /\ D = [] /\ L = [(130,.int .i64 i),(129,.agg (rowW v.list)),(0,pT b)] /\
    S = [F,G,H,[(b,.cells (rowX (mix s v i) r) e (0,0))]]) ?_ ?_
   ·exact ⟨_,_,_,⟨0,oM,rfl,rfl,rfl,rfl⟩,by (repeat (first | exact True.intro | (refine aF ?_ ?_;(· (try simp only [evT,zj,zi,aJ]);(first | done | exact rfl))))),amA⟩
   ·rintro q D L S ⟨i,hi,rfl,rfl,rfl,rfl⟩;refine zg fun N15 hN15 => ?_
    refine rgE ?_;refine hN15 _ _ _ ?_;clear hN15;refine zg fun N16 hN16 => ?_
    refine jH (fun hc => ?_) (fun hc => ?_)
    ·have hc := of_decide_eq_true hc;refine zP ?_;refine hN16 _ _ _ ?_;clear hN16;refine zg fun N17 hN17 => ?_
     refine zr ?_;refine zg fun N18 hN18 => ?_
     refine rgE ?_;refine xd fun K hK => ?_
     rw [fS oM oM (St.list_len v)];refine hK _ _ ?_;clear hK K;refine rnE ?_;refine hN18 _ _ _ ?_;clear hN18;refine cdL [[0],[1],[2],[3],[4],[5],[6],[7],[8],[9,0]] ?_
     (try refine xu ?_);(try refine zx ?_)
     refine zG ?_;(first | ((with_reducible apply wW);(· (repeat (first | with_reducible exact Upd.one | with_reducible apply Upd.next)));(· (first | (rw [ld_len];omega) | (rw [aZ];omega) | (rw [St.list_len];omega) | (rw [jt];omega) | (rw [xO];omega) | (rw [xE _ _ _ oM];omega)))) | ((with_reducible apply Xb);(· (repeat (first | with_reducible exact Upd.one | with_reducible apply Upd.next)));(· (first | (rw [ld_len];omega) | (rw [aZ];omega) | (rw [St.list_len];omega) | (rw [jt];omega) | (rw [xO];omega) | (rw [xE _ _ _ oM];omega)))));(repeat refine qV ?_)
     (try refine xu ?_);(try refine zx ?_)
     rw [show 0 + i * 1 = i from oM,If s v i oM];refine hN17 _ _ _ ?_;clear hN17;refine rgE ?_;exact zI ⟨i + 1,oM,rfl,rfl,rfl,rfl⟩
    ·have hc := of_decide_eq_false hc;refine zZ ?_;try simp only [Cont.then,Cont.block,Cont.noGoto,reduceIte,aP];obtain rfl : i = 8 := oM;subst hv;exact Xf [G,H,[(b,.cells (rowX (mix s (kZ odd (spr bs 64) 64 s) 8) r) e (0,0))]] ⟨rfl,rfl⟩ amA
structure Blk where
 bs : L8
 a : OA
 H : zd
def text (m : L8) : L8 := m ++ pad m.length
theorem Om (m : L8) : (text m).length % 64 = 0 := by unfold text;rw [aB];exact KY _
def XB (m : L8) : Nat := (text m).length / 64
def isBlk (m : L8) (pre : List Blk) (x : Blk) : Prop := pre.length < XB m /\ x.bs = ((text m).drop (64 * pre.length)).take 64 /\ Rd 1 [x.H] x.a 64 (x.bs.map b8)
theorem US (p : Nat) (H : zd) (a : OA) (cap : Nat) (m : L8) (hm : m.length <= 1000000) (h : Rd 1 [H] a m.length (m.map b8)) :
  Xt prog 230 [] [pT p] (fun x : Blk => [.slice x.a 64 64]) (fun x => x.H)
  [[(p,.cells #[.slice a m.length cap] 43 (0,0))],H] (isBlk m) (fun pre => pre.length = XB m) false := by
 refine JL kM fun l J Jx hN hY C hC => ?_
 clear hN;refine eN func230 ntmps230 results230 fun F => ?_
 refine zg fun N1 hN1 => ?_
 refine cdL [[0],[2],[3],[4],[1,0,2,3],[5,0],[6,0],[7,0]] ?_
 (try refine jj ?_);(try refine zx ?_)
 refine zG ?_;refine xX (jl H a cap m oM h) tkA ?_;rintro v A ⟨C1,a1,cap1,rfl,ho1,rfl⟩;(try simp only [aD,aC]);refine ⟨ji lkA rfl,trivial,?_⟩
 (try refine jj ?_);(try refine zx ?_)
 refine zG ?_;refine xX (WC m.length oM) tkA ?_;rintro v A ⟨C2,a2,cap2,rfl,ho2,rfl⟩;(try simp only [aD,aC])
 (try refine jj ?_);(try refine zx ?_)
 have hpl : (pad m.length).length <= 72 := by rw [Xi,kf];omega
 refine vx (by simp only [iP,iD,iJ];rfl) fun K hK => ?_;(try simp only [gos,gob,aJ,if_true,reduceIte,reduceCtorEq,iN,aP,iQ,iF,lJ,lK,iV,iW,iM,iX,iY,iZ,lA,lB,lC,aW,iI,goq]);(try (simp (disch := omega) only [gow,gobw];try simp only [gos,gob,aJ,if_true,reduceIte,reduceCtorEq,iN,aP,iQ,iF,lJ,lK,iV,iW,iM,iX,iY,iZ,lA,lB,lC,aW,iI,goq]));refine app8 ho1 pkA (ho2.rd mmA) oM (fun C3 a3 cap3 ho3 => ?_);refine hK _ _ ?_;clear hK K
 (try refine jj ?_);(try refine zx ?_)
 refine wL fun K hK => ?_;refine pBk hK ?_;clear hK K
 (try refine jj ?_);(try refine zx ?_)
 refine hN1 _ _ _ ?_;clear hN1;have hT : m.length + (pad m.length).length = (text m).length := by unfold text;rw [aB]
 rw [hT] at ho3 ⊢;have hmod := Om m;refine zr ?_
 refine xL (fun q D L S => ∃ (pre : List Blk) (C' : zd) (a' : OA) (c' : Nat),pre.length <= XB m /\ J pre C' /\ ((text m).drop (64 * pre.length)).length <= c' /\ Rd 1 [C3] a' ((text m).drop (64 * pre.length)).length (((text m).drop (64 * pre.length)).map b8) /\ q = XB m - pre.length /\ D = [] /\
  L = [(3,.slice a' ((text m).drop (64 * pre.length)).length c'),(0,.func (.yield l) #[] #[])] /\ S = [F,C',C3,[(p,.cells #[.slice a m.length cap] 43 (0,0))],H]) ?_ ?_
 ·exact ⟨_,_,_,⟨[],C,a3,cap3,sM,hC,ho3.1,ho3.rd (aA ..),rfl,rfl,rfl,rfl⟩,by (repeat (first | exact True.intro | (refine aF ?_ ?_;(· (try simp only [evT,zj,zi,aJ]);(first | done | exact rfl))))),amA⟩
 ·rintro q D L S ⟨pre,C',a',c',hk,hJ,hc',hr,rfl,rfl,rfl,rfl⟩;have hdl : ((text m).drop (64 * pre.length)).length = (text m).length - 64 * pre.length := aV;have hbl : XB m = (text m).length / 64 := rfl;refine zg fun N2 hN2 => ?_
  refine zg fun N3 hN3 => ?_
  refine rgE ?_;refine hN3 _ _ _ ?_;clear hN3;refine jH (fun hc => ?_) (fun hc => ?_)
  ·have hc := of_decide_eq_true hc;have hlt : pre.length < XB m := oM;have hcut : Rd 1 [C3] (cutA 1 a' 0 64) 64 ((((text m).drop (64 * pre.length)).take 64).map b8) := kz hr (l := 0) (h' := 64) (m := 64) oM oM oM;have hx : isBlk m pre ⟨((text m).drop (64 * pre.length)).take 64,cutA 1 a' 0 64,C3⟩ := ⟨hlt,rfl,hcut⟩
   have e64 : ((text m).drop (64 * pre.length)).length - 64 = ((text m).drop (64 * (pre.length + 1))).length := by
    rw [aV,aV];show (text m).length - 64 * pre.length - 64 = _;omega
   have hr2 : Rd 1 [C3] (cutA 1 a' 64 c') ((text m).drop (64 * (pre.length + 1))).length (((text m).drop (64 * (pre.length + 1))).map b8) := by
    have q := kz hr (l := 64) (h' := ((text m).drop (64 * pre.length)).length) (m := c') oM (aR _) hc';rw [mQ,show 64 * pre.length + 64 = 64 * (pre.length + 1) from oM,lE (by rw [aV];omega)] at q;rw [<- e64];exact q
   have hc2 : ((text m).drop (64 * (pre.length + 1))).length <= c' - 64 := by
    rw [aV];show _ <= c' - 64;omega
   refine zP ?_;refine hN2 _ _ _ ?_;clear hN2;refine zr ?_;refine zg fun N4 hN4 => ?_
   refine zg fun N5 hN5 => ?_
   refine rgE ?_;refine xd fun K hK => ?_
   refine wR (hY pre ⟨((text m).drop (64 * pre.length)).take 64,cutA 1 a' 0 64,C3⟩ hx) hJ tkA (fun C4 hJ4 => ?_) (fun C4 hJ4 => ?_)
   ·refine hK _ _ ?_;clear hK K;refine rnE ?_;refine hN5 _ _ _ ?_;clear hN5;refine wq (by (try simp only [evT,zj,zi,aJ]);(first | done | exact rfl)) (zP ?_);refine hN4 _ _ _ ?_;clear hN4;refine rgE ?_;have el : (pre ++ [(⟨((text m).drop (64 * pre.length)).take 64,cutA 1 a' 0 64,C3⟩ : Blk)]).length = pre.length + 1 := sM;rw [e64];rw [<- el] at hr2 hc2 ⊢;exact ⟨⟨_,_,_,by rw [el];omega,⟨_,C4,_,_,by rw [el];omega,hJ4,hc2,hr2,rfl,rfl,rfl,rfl⟩,by (repeat (first | exact True.intro | (refine aF ?_ ?_;(· (try simp only [evT,zj,zi,aJ]);(first | done | exact rfl))))),amA⟩⟩
   ·refine hK _ _ ?_;clear hK K;refine rnE ?_;refine hN5 _ _ _ ?_;clear hN5;refine WK (by (try simp only [evT,zj,zi,aJ]);(first | done | exact rfl)) ?_;refine qe ?_;try simp -implicitDefEqProofs only [Cont.then,Cont.block,Cont.noGoto,reduceIte];exact OO [C4,[(p,.cells #[.slice a m.length cap] 43 (0,0))],H] ⟨C4,rfl,.inr ⟨pre,_,hx,hJ4⟩⟩ amA
  ·have hc := of_decide_eq_false hc;refine zZ ?_;try simp only [Cont.then,Cont.block,Cont.noGoto,reduceIte,aP];exact Xf [C',[(p,.cells #[.slice a m.length cap] 43 (0,0))],H] ⟨C',rfl,.inl ⟨pre,oM,hJ⟩⟩ amA
theorem UR (a : OA) (n cap : Nat) : zh prog 185 [.slice a n cap] []
  fun v A => ∃ p,v = .func (.func 230) #[] #[pT p] /\ A = [[(p,.cells #[.slice a n cap] 43 (0,0))]] := by
 refine eN func185 ntmps185 results185 fun F => ?_
 refine zg fun N1 hN1 => ?_
 refine rgE ?_;refine oB fun b1 => ?_
 refine rnE ?_;refine hN1 _ _ _ ?_;clear hN1;refine zg fun N2 hN2 => ?_
 refine rgE ?_;refine hN2 _ _ _ ?_;clear hN2;refine xr ?_;exact yV [[(b1,.cells #[.slice a n cap] 43 (0,0))]] (by (try simp only [evT,zj,zi,aJ]);(first | done | exact rfl)) ⟨b1,rfl,rfl⟩ amA
theorem Ot {t0 t1 : TypeId} (G H : zd) (m0 m1 : Nat × Nat) (hG0 : (0,Obj.cells (rowW first.list) t0 m0) ∈ G) (hG1 : (3,Obj.cells (rowW odd) t1 m1) ∈ G) (a : OA) (n c : Nat) (ls : List L8) (hp : Zg [H] a n ls) (hnc : n <= c) (hn : n <= 1000000) (hlen : ls.flatten.length <= 1000000) :
  zh prog 133 [.slice a n c] [G,H] (New8 5 (xx ls.flatten) [G,H]) := by
 refine eN func133 ntmps133 results133 fun F => ?_
 refine zg fun N1 hN1 => ?_
 refine rgE ?_;refine hN1 _ _ _ ?_;clear hN1;refine zg fun N2 hN2 => ?_
 refine jU ?_;refine xd fun K hK => ?_
 refine vt (l := first.list) (by (repeat (first | with_reducible exact Lies.one | with_reducible exact Lies.here (by assumption) | with_reducible apply Lies.next))) (St.list_len _) ?_;refine hK _ _ ?_;clear hK K;refine zF ?_;refine zC fun b3 => ?_;(try simp only [Value.cells])
 refine xd fun K hK => ?_
 refine qU (l := aU 8 0) (l' := first.list) (by (repeat (first | exact Upd.one | apply Upd.next))) aZ (St.list_len _) ?_;refine hK _ _ ?_;clear hK K;refine rnE ?_;refine hN2 _ _ _ ?_;clear hN2;refine zg fun N3 hN3 => ?_
 refine zg fun N4 hN4 => ?_
 refine rgE ?_;refine xd fun K hK => ?_
 refine xX (yo [H] a n c ls hp hnc hn oM) tkA ?_;rintro v A ⟨C5,a5,cap5,rfl,hle5,hr5,_,rfl⟩;(try simp only [aD,aC]);refine hK _ _ ?_;clear hK K;refine rnE ?_;refine xd fun K hK => ?_
 refine xX (UR _ _ _) tkA ?_;rintro v A ⟨p,rfl,rfl⟩;(try simp only [aD,aC]);refine hK _ _ ?_;clear hK K;refine rnE ?_;refine hN4 _ _ _ ?_;clear hN4;refine zr ?_;have hrun : run (XB ls.flatten) first (text ls.flatten) = whole first (text ls.flatten) := rfl;refine JX (by (try simp only [evT,zj,zi,aJ]);(first | done | exact rfl)) (US p C5 a5 cap5 ls.flatten oM hr5) (by (repeat (first | exact Take.nil _ | with_reducible exact Pick.head _ _ | with_reducible apply Pick.tail | with_reducible apply Take.cons))) (fun pre C => C = [H,[(b3,.cells (rowX (run pre.length first (text ls.flatten)).list []) 321 (0,0))],F,G]) (fun _ _ _ => False) (fun h => by cases h) (fun _ => rfl) rfl ?_ ?_ ?_
 ·rintro l F1 C r pre x hx rfl
  have hxl : x.bs.length = 64 := by
   have h1 := hx.1;have h2 := Om ls.flatten;have h3 : XB ls.flatten = (text ls.flatten).length / 64 := rfl;rw [hx.2.1,aX,aV];omega
  have el : (pre ++ [x]).length = pre.length + 1 := sM
  (try simp only [aD,aC])
  (try simp only [qP,putT,iN,if_true,reduceIte,Array.toList,mG])
  refine rgE ?_;refine ⟨_,zn.refl _,fun r' _ => ?_⟩;refine zr ?_;refine rgE ?_;refine xd fun K hK => ?_
  refine xX (Jb G x.H m1 hG1 b3 321 (run pre.length first (text ls.flatten)) [] x.a 64 oM x.bs hxl hx.2.2) tkA ?_;rintro v A ⟨rfl,rfl⟩;(try simp only [aD,aC]);refine hK _ _ ?_;clear hK K;rw [hx.2.1,<- Zr];refine rnE ?_;refine ⟨[H,[(b3,.cells (rowX (run (pre.length + 1) first (text ls.flatten)).list []) 321 (0,0))],F,G,x.H],⟨[H,[(b3,.cells (rowX (run (pre.length + 1) first (text ls.flatten)).list []) 321 (0,0))],F,G],rfl,by rw [el]⟩,amA⟩
 ·rintro d pre C hd rfl;rw [hd,hrun]
  (try simp only [aD,aC]);try simp only [Cont.then,Cont.block,Cont.noGoto,reduceIte,aP]
  refine hN3 _ _ _ ?_;clear hN3;refine zg fun N5 hN5 => ?_
  refine rgE ?_;refine cA (Va b3 _ _ _ _) ?_;rintro v A ⟨C7,a7,cap7,rfl,ho7,rfl⟩;(try simp only [aD,aC]);refine rnE ?_;refine hN5 _ _ _ ?_;clear hN5;refine xr ?_;refine zf ([C7,G,H]) ?_;exact ⟨_,_,_,rfl,ho7,rfl⟩
 ·rintro d c pre x C hx hf;exact hf.elim
theorem Kv {t0 t1 : TypeId} (G A B : zd) (m0 m1 : Nat × Nat) (hG0 : (0,Obj.cells (rowW first.list) t0 m0) ∈ G) (hG1 : (3,Obj.cells (rowW odd) t1 m1) ∈ G) (a : OA) (n c : Nat) (ls : List L8) (hp : Zg [A ++ B] a n ls) (hnc : n <= c) (hn : n <= 1000000) (hlen : ls.flatten.length <= 1000000) :
  zh prog 133 [.slice a n c] [G,A,B] (New8 5 (xx ls.flatten) [G,A,B]) :=
 (Ot G (A ++ B) m0 m1 hG0 hG1 a n c ls hp hnc hn hlen).perm sM (fun v A' ⟨C,a',cap',hv,ho,hA⟩ => ⟨[C,G,A,B],by rw [hA];simp,C,a',cap',hv,ho,rfl⟩)
theorem du {t0 t1 : TypeId} (G A B D : zd) (m0 m1 : Nat × Nat) (hG0 : (0,Obj.cells (rowW first.list) t0 m0) ∈ G) (hG1 : (3,Obj.cells (rowW odd) t1 m1) ∈ G) (a : OA) (n c : Nat) (ls : List L8) (hp : Zg [A ++ B ++ D] a n ls) (hnc : n <= c) (hn : n <= 1000000) (hlen : ls.flatten.length <= 1000000) :
  zh prog 133 [.slice a n c] [G,A,B,D] (New8 5 (xx ls.flatten) [G,A,B,D]) :=
 (Ot G (A ++ B ++ D) m0 m1 hG0 hG1 a n c ls hp hnc hn hlen).perm sM (fun v A' ⟨C,a',cap',hv,ho,hA⟩ => ⟨[C,G,A,B,D],by rw [hA];simp,C,a',cap',hv,ho,rfl⟩)
theorem num_spec (H : zd) (a : OA) (len cap : Nat) (bs : L8) (hm : len <= 4611686018427387904) (h : Rd 1 [H] a len (bs.map b8)) :
  zh prog 51 [.slice a len cap] [H] fun v A => v = .int .u64 (num bs) /\ A = [H] := by
 have hl : bs.length = len := by have := h.1;simpa using this
 have hr := h.next;refine eN func51 ntmps51 results51 fun F => ?_
 have hr := hr F;refine zg fun N1 hN1 => ?_
 refine rgE ?_;refine hN1 _ _ _ ?_;clear hN1;refine zg fun N2 hN2 => ?_
 refine rgE ?_;refine hN2 _ _ _ ?_;clear hN2;refine zg fun N3 hN3 => ?_
 refine zg fun N4 hN4 => ?_
 refine rgE ?_;refine hN4 _ _ _ ?_;clear hN4;refine zr ?_;refine xL (fun q D L S => ∃ i : Nat,i <= len /\ q = len - i /\ D = [] /\ L = [(8,.int .i64 i),(7,.int .i64 len),(6,.slice a len cap),(3,.int .u64 (num (bs.take i)))] /\ S = [F,H]) ?_ ?_
 ·exact ⟨_,_,_,⟨0,oM,rfl,rfl,rfl,rfl⟩,by (repeat (first | exact True.intro | (refine aF ?_ ?_;(· (try simp only [evT,zj,zi,aJ]);(first | done | exact rfl))))),amA⟩
 ·rintro q D L S ⟨i,hi,rfl,rfl,rfl,rfl⟩;refine zg fun N5 hN5 => ?_
  refine rgE ?_;refine hN5 _ _ _ ?_;clear hN5;refine zg fun N6 hN6 => ?_
  refine jH (fun hc => ?_) (fun hc => ?_)
  ·have hc := of_decide_eq_true hc;refine zP ?_;refine hN6 _ _ _ ?_;clear hN6;refine zg fun N7 hN7 => ?_
   refine zr ?_;refine zg fun N8 hN8 => ?_
   refine jU ?_;(repeat ((with_reducible refine qt fun K hK => ?_);(try simp only [gos,gob,aJ,if_true,reduceIte,reduceCtorEq,iN,aP,iQ,iF,lJ,lK,iV,iW,iM,iX,iY,iZ,lA,lB,lC,aW,iI]);(try (simp (disch := omega) only [gow,gobw,ZG hr];try simp only [gos,gob,aJ,if_true,reduceIte,reduceCtorEq,iN,aP,iQ,iF,lJ,lK,iV,iW,iM,iX,iY,iZ,lA,lB,lC,aW,iI]));(first | (with_reducible refine hK _ _ ?_) | (refine XL hr oM ?_;(with_reducible refine hK _ _ ?_)) | ((with_reducible apply ji);(· (repeat (first | with_reducible exact Lies.one | with_reducible apply Lies.next)));(with_reducible refine hK _ _ ?_)) | ((with_reducible apply xf);(· (repeat (first | with_reducible exact Lies.one | with_reducible apply Lies.next)));(· exact rfl);(with_reducible refine hK _ _ ?_)));clear hK K));try ((with_reducible refine jN ?_);try simp only [Cont.then,Cont.block,Cont.noGoto,reduceIte,aP]);refine hN8 _ _ _ ?_;clear hN8;refine rgE ?_
   have e : IntKind.u64.wrap (IntKind.u64.wrap (((num (bs.take i) : Nat) : Int) * 256) + ((bs.getD i 0).toNat : Int)) = (num (bs.take (i + 1)) : Int) := by
    rw [wV bs i oM,num_snoc,show ((num (bs.take i) : Nat) : Int) * 256 = ((num (bs.take i) * 256 : Nat) : Int) from oM,wrap64_mod,<- Int.natCast_add,wrap64_mod]
    congr 1
    omega
   rw [e];refine hN7 _ _ _ ?_;clear hN7;refine rgE ?_;exact zI ⟨i + 1,oM,rfl,rfl,rfl,rfl⟩
  ·have hc := of_decide_eq_false hc;refine zZ ?_;try simp only [Cont.then,Cont.block,Cont.noGoto,reduceIte,aP];refine hN3 _ _ _ ?_;clear hN3;obtain rfl : i = len := oM;rw [<- hl,iK];refine zg fun N9 hN9 => ?_
   refine rgE ?_;refine hN9 _ _ _ ?_;clear hN9;refine xr ?_;refine ze [H] ?_;exact ⟨rfl,rfl⟩
theorem KM {tg : TypeId} (G H : zd) (m : Nat × Nat) (hG : (4,Obj.cells (rowW odd) tg m) ∈ G) (s : St) (a : OA) (cap : Nat) (hcap : 64 <= cap) (bs : L8) (hb : bs.length = 64) (h : Rd 1 [H] a 64 (bs.map b8)) :
  zh prog 212 [.agg (rowW s.list),.slice a 64 cap] [G,H]
   fun v A => v = .agg (rowW (Go.Sha.step odd s bs).list) /\ A = [G,H] := by
 refine eN func212 ntmps212 results212 fun F => ?_
 refine zg fun N1 hN1 => ?_
 refine rgE ?_;refine xd fun K hK => ?_
 refine Xr fun b2 => ?_;rw [show (Value.agg (rowW s.list)).cells = rowW s.list from rfl];refine hK _ _ ?_;clear hK K
 refine rnE ?_;refine zF ?_;refine zC fun b4 => ?_;(try simp only [Value.cells])
 refine rnE ?_;refine hN1 _ _ _ ?_;clear hN1;refine zg fun N2 hN2 => ?_
 refine rgE ?_;refine zF ?_;refine zC fun b5 => ?_;(try simp only [Value.cells])
 refine rnE ?_;refine hN2 _ _ _ ?_;clear hN2;refine zg fun N3 hN3 => ?_
 refine zg fun N4 hN4 => ?_
 refine rgE ?_;refine hN4 _ _ _ ?_;clear hN4;refine zr ?_
 refine xL (fun q D L S => ∃ i : Nat,i <= 64 /\ q = 64 - i /\ D = [] /\ L = [(6,.int .i64 i),(1,.slice a 64 cap),(5,pT b5),(2,pT b2),(4,pT b4)] /\
  S = [[(b5,.cells (rowW (spr bs i)) 352 (0,0))],F,G,H,[(b2,.cells (rowW s.list) 303 (0,0))],[(b4,.cells (rowW (aU 8 0)) 303 (0,0))]]) ?_ ?_
 ·exact ⟨_,_,_,⟨0,oM,rfl,rfl,rfl,rfl⟩,by (repeat (first | exact True.intro | (refine aF ?_ ?_;(· (try simp only [evT,zj,zi,aJ]);(first | done | exact rfl))))),amA⟩
 ·rintro q D L S ⟨i,hi,rfl,rfl,rfl,rfl⟩;refine zg fun N5 hN5 => ?_
  refine zg fun N6 hN6 => ?_
  refine rgE ?_;refine hN6 _ _ _ ?_;clear hN6;refine jH (fun hc => ?_) (fun hc => ?_)
  ·have hc := of_decide_eq_true hc;refine zP ?_;refine hN5 _ _ _ ?_;clear hN5;refine zg fun N7 hN7 => ?_
   refine zr ?_;refine zg fun N8 hN8 => ?_
   refine zg fun N9 hN9 => ?_
   refine rgE ?_;refine hN9 _ _ _ ?_;clear hN9;refine jH (fun hc => ?_) (fun hc => ?_)
   ·have hc := of_decide_eq_true hc;refine zg fun N10 hN10 => ?_
    refine rgE ?_;refine cA (num_spec H _ _ _ _ oM (kz h (l := (4 * (i : Int)).toNat) (h' := (4 * (i : Int) + 4).toNat) (m := cap) oM oM oM)) ?_;rintro v A ⟨rfl,rfl⟩;refine xd fun K hK => ?_
    have e : IntKind.u32.wrap ((num ((bs.drop (4 * (i : Int)).toNat).take ((4 * (i : Int) + 4).toNat - (4 * (i : Int)).toNat)) : Nat) : Int) = (vT bs (4 * i)).toNat := by
     rw [show (4 * (i : Int) + 4).toNat - (4 * (i : Int)).toNat = 4 from oM,show (4 * (i : Int)).toNat = 4 * i from oM,wrap32_mod,<- num4 bs (4 * i) oM]
     rfl
    rw [e,show Value.int .u32 ((vT bs (4 * i)).toNat : Int) = b32 (vT bs (4 * i)) from rfl];refine hK _ _ ?_;clear hK K
    (try refine dO ?_);(try refine qj ?_)
    have e : (spr bs i).set (0 + i * 1) (vT bs (4 * i)) = spr bs (i + 1) := by
     rw [show 0 + i * 1 = i from oM];simp only [spr];rw [if_pos oM]
    rw [e];refine hN10 _ _ _ ?_;clear hN10;refine zZ ?_;try simp only [Cont.then,Cont.block,Cont.noGoto,reduceIte,aP];refine hN7 _ _ _ ?_;clear hN7;refine rgE ?_;exact zI ⟨i + 1,oM,rfl,rfl,rfl,rfl⟩
   ·have hc := of_decide_eq_false hc;refine zP ?_;refine hN8 _ _ _ ?_;clear hN8;refine zg fun N11 hN11 => ?_
    refine cdL [[0],[1],[2],[3],[5],[6],[7],[8],[11],[12],[13],[14],[15],[4,0,8,14],[9,0,14],[10],[16],[17,0]] ?_
    (try refine xu ?_);(try refine zx ?_)
    refine zG ?_;refine jq (qx _ 7 dM) ?_;rintro v A ⟨rfl,rfl⟩;(try simp only [aD,aC]);(repeat refine qV ?_)
    (try refine xu ?_);(try refine zx ?_)
    refine zG ?_;refine jq (qx _ 18 dM) ?_;rintro v A ⟨rfl,rfl⟩;(try simp only [aD,aC]);(repeat refine qV ?_)
    (try refine xu ?_);(try refine zx ?_)
    refine zG ?_;(repeat refine qV ?_)
    (try refine jj ?_);(try refine zx ?_)
    refine hN11 _ _ _ ?_;clear hN11;refine zg fun N12 hN12 => ?_
    refine cdL [[0],[1],[2],[3],[5],[6],[7],[8],[11],[12],[13],[14],[15],[4,0,8,14],[9,0,14],[10],[16],[17,0]] ?_
    (try refine xu ?_);(try refine zx ?_)
    refine zG ?_;refine jq (qx _ 17 dM) ?_;rintro v A ⟨rfl,rfl⟩;(try simp only [aD,aC]);(repeat refine qV ?_)
    (try refine xu ?_);(try refine zx ?_)
    refine zG ?_;refine jq (qx _ 19 dM) ?_;rintro v A ⟨rfl,rfl⟩;(try simp only [aD,aC]);(repeat refine qV ?_)
    (try refine xu ?_);(try refine zx ?_)
    refine zG ?_;(repeat refine qV ?_)
    (try refine jj ?_);(try refine zx ?_)
    refine hN12 _ _ _ ?_;clear hN12;refine cdL [[0],[1],[2],[3],[4],[5],[6],[7],[8],[9],[10],[11],[12],[13],[14],[15,0]] ?_
    (try refine xu ?_);(try refine zx ?_)
    refine zG ?_;(first | ((with_reducible apply wW);(· (repeat (first | with_reducible exact Upd.one | with_reducible apply Upd.next)));(· (first | (rw [ld_len];omega) | (rw [aZ];omega) | (rw [St.list_len];omega) | (rw [jt];omega) | (rw [xO];omega) | (rw [xE _ _ _ oM];omega)))) | ((with_reducible apply Xb);(· (repeat (first | with_reducible exact Upd.one | with_reducible apply Upd.next)));(· (first | (rw [ld_len];omega) | (rw [aZ];omega) | (rw [St.list_len];omega) | (rw [jt];omega) | (rw [xO];omega) | (rw [xE _ _ _ oM];omega)))));(repeat refine qV ?_)
    (try refine jj ?_);(try refine zx ?_)
    rw [show 0 + i * 1 = i from oM,show 0 + ((i : Int) - 16).toNat * 1 = i - 16 from oM,show 0 + ((i : Int) - 15).toNat * 1 = i - 15 from oM,show 0 + ((i : Int) - 7).toNat * 1 = i - 7 from oM,show 0 + ((i : Int) - 2).toNat * 1 = i - 2 from oM];refine hN7 _ _ _ ?_;clear hN7
    have e : (spr bs i).set i (s1 ((spr bs i).getD (i - 2) 0) + (spr bs i).getD (i - 7) 0 + s0 ((spr bs i).getD (i - 15) 0) + (spr bs i).getD (i - 16) 0) = spr bs (i + 1) := by
     simp only [spr];rw [if_neg oM]
     congr 1
     simp only [nxt];ac_rfl
    refine vR (L' := [(6,.int .i64 i),(1,.slice a 64 cap),(5,pT b5),(2,pT b2),(4,pT b4)])
     (S' := [[(b5,.cells (rowW ((spr bs i).set i (s1 ((spr bs i).getD (i - 2) 0) + (spr bs i).getD (i - 7) 0 + s0 ((spr bs i).getD (i - 15) 0) + (spr bs i).getD (i - 16) 0))) 352 (0,0))],F,G,H,[(b2,.cells (rowW s.list) 303 (0,0))],[(b4,.cells (rowW (aU 8 0)) 303 (0,0))]]) (by (repeat (first | exact True.intro | (refine aF ?_ ?_;(· (try simp only [evT,zj,zi,aJ]);(first | done | exact rfl)))))) amA ?_
    rw [e];refine rgE ?_;exact zI ⟨i + 1,oM,rfl,rfl,rfl,rfl⟩
  ·have hc := of_decide_eq_false hc;refine zZ ?_;try simp only [Cont.then,Cont.block,Cont.noGoto,reduceIte,aP];refine hN3 _ _ _ ?_;clear hN3;obtain rfl : i = 64 := oM;refine zg fun N13 hN13 => ?_
   refine jU ?_;refine xd fun K hK => ?_
   refine vt lkA (St.list_len _) ?_;refine hK _ _ ?_;clear hK K;refine zF ?_;refine zC fun b9 => ?_;(try simp only [Value.cells])
   refine xd fun K hK => ?_
   refine qU (l := aU 8 0) (l' := s.list) (by (repeat (first | exact Upd.one | apply Upd.next))) rfl rfl ?_;refine hK _ _ ?_;clear hK K;refine rnE ?_;refine hN13 _ _ _ ?_;clear hN13;refine zg fun N14 hN14 => ?_
   refine zg fun N15 hN15 => ?_
   refine rgE ?_;refine hN15 _ _ _ ?_;clear hN15;refine zr ?_
   refine xL (fun q D L S => ∃ i : Nat,i <= 64 /\ q = 64 - i /\ D = [] /\ L = [(10,.int .i64 i),(5,pT b5),(2,pT b2),(4,pT b4),(9,pT b9)] /\
    S = [[(b9,.cells (rowW (kZ odd (spr bs 64) i s).list) 303 (0,0))],[(b5,.cells (rowW (spr bs 64)) 352 (0,0))],F,G,H,[(b2,.cells (rowW s.list) 303 (0,0))],[(b4,.cells (rowW (aU 8 0)) 303 (0,0))]]) ?_ ?_
   ·exact ⟨_,_,_,⟨0,oM,rfl,rfl,rfl,rfl⟩,by (repeat (first | exact True.intro | (refine aF ?_ ?_;(· (try simp only [evT,zj,zi,aJ]);(first | done | exact rfl))))),amA⟩
   ·rintro q D L S ⟨i,hi,rfl,rfl,rfl,rfl⟩;refine zg fun N16 hN16 => ?_
    refine zg fun N17 hN17 => ?_
    refine rgE ?_;refine hN17 _ _ _ ?_;clear hN17;refine jH (fun hc => ?_) (fun hc => ?_)
    ·have hc := of_decide_eq_true hc;refine zP ?_;refine hN16 _ _ _ ?_;clear hN16;have hnext : kZ odd (spr bs 64) (i + 1) s = turn (odd.getD i 0) ((spr bs 64).getD i 0) (kZ odd (spr bs 64) i s) := rfl;generalize kZ odd (spr bs 64) i s = st at hnext ⊢;refine zg fun N18 hN18 => ?_
     refine zr ?_;refine zg fun N19 hN19 => ?_
     refine Vy ?_;(try refine qj ?_);refine hN19 _ _ _ ?_;clear hN19;refine zg fun N20 hN20 => ?_
     refine cdL [[0],[1],[2],[4],[7],[11],[12],[13],[14],[15],[16],[17],[18],[19],[20],[22],[23],[24],[26],[27],[28],[3,0,1,13,18,24,28],[5,0,1,13,18,24,28],[6],[8,0,1,13,18,24,28],[9],[10],[21],[25],[29],[30,0]] ?_
     (try refine xu ?_);(try refine zx ?_)
     refine zG ?_;refine jq (qx _ 6 dM) ?_;rintro v A ⟨rfl,rfl⟩;(try simp only [aD,aC]);(repeat refine qV ?_)
     (try refine xu ?_);(try refine zx ?_)
     refine zG ?_;refine jq (qx _ 11 dM) ?_;rintro v A ⟨rfl,rfl⟩;(try simp only [aD,aC]);(repeat refine qV ?_)
     (try refine xu ?_);(try refine zx ?_)
     refine zG ?_;refine jq (qx _ 25 dM) ?_;rintro v A ⟨rfl,rfl⟩;(try simp only [aD,aC]);(repeat refine qV ?_)
     (try refine xu ?_);(try refine zx ?_)
     refine zG ?_;(repeat refine qV ?_)
     (try refine jj ?_);(try refine zx ?_)
     refine hN20 _ _ _ ?_;clear hN20;refine zg fun N21 hN21 => ?_
     refine Vy ?_;(try refine qj ?_);refine hN21 _ _ _ ?_;clear hN21;refine zg fun N22 hN22 => ?_
     refine cdL [[0],[2],[5],[8],[9],[10],[11],[12],[13],[14],[15],[16],[17],[18],[19],[20],[21],[22],[1,0,10,14,18,20],[3,0,10,14,18,20],[4],[6,0,10,14,18,20],[7],[23],[24,0]] ?_
     (try refine xu ?_);(try refine zx ?_)
     refine zG ?_;refine jq (qx _ 2 dM) ?_;rintro v A ⟨rfl,rfl⟩;(try simp only [aD,aC]);(repeat refine qV ?_)
     (try refine xu ?_);(try refine zx ?_)
     refine zG ?_;refine jq (qx _ 13 dM) ?_;rintro v A ⟨rfl,rfl⟩;(try simp only [aD,aC]);(repeat refine qV ?_)
     (try refine xu ?_);(try refine zx ?_)
     refine zG ?_;refine jq (qx _ 22 dM) ?_;rintro v A ⟨rfl,rfl⟩;(try simp only [aD,aC]);(repeat refine qV ?_)
     (try refine xu ?_);(try refine zx ?_)
     refine zG ?_;(repeat refine qV ?_)
     (try refine jj ?_);(try refine zx ?_)
     refine hN22 _ _ _ ?_;clear hN22;refine Vy ?_;(try refine qj ?_);refine xd fun K hK => ?_
     rw [Kh rfl];refine hK _ _ ?_;clear hK K;refine xd fun K hK => ?_
     rw [show 0 + i * 1 = i from oM];simp only [St.get0,St.get1,St.get2,St.get3,St.get4,St.get5,St.get6,St.get7];rw [di];refine qU (l := st.list) (l' := (turn (odd.getD i 0) ((spr bs 64).getD i 0) st).list) upA (St.list_len _) (St.list_len _) ?_;refine hK _ _ ?_;clear hK K;refine rnE ?_;rw [<- hnext];refine hN18 _ _ _ ?_;clear hN18;refine vR (L' := [(10,.int .i64 i),(5,pT b5),(2,pT b2),(4,pT b4),(9,pT b9)]) (S' := [[(b9,.cells (rowW (kZ odd (spr bs 64) (i + 1) s).list) 303 (0,0))],[(b5,.cells (rowW (spr bs 64)) 352 (0,0))],F,G,H,[(b2,.cells (rowW s.list) 303 (0,0))],[(b4,.cells (rowW (aU 8 0)) 303 (0,0))]]) (by (repeat (first | exact True.intro | (refine aF ?_ ?_;(· (try simp only [evT,zj,zi,aJ]);(first | done | exact rfl)))))) (by (repeat (first | with_reducible exact zn.nil _ | with_reducible exact Pick.head _ _ | with_reducible apply Pick.tail | with_reducible apply zn.cons))) ?_;refine rgE ?_;exact zI ⟨i + 1,oM,rfl,rfl,rfl,rfl⟩
    ·have hc := of_decide_eq_false hc;refine zZ ?_;try simp only [Cont.then,Cont.block,Cont.noGoto,reduceIte,aP];refine hN14 _ _ _ ?_;clear hN14;obtain rfl : i = 64 := oM;generalize hv : kZ odd (spr bs 64) 64 s = v;refine zg fun N23 hN23 => ?_
     refine zg fun N24 hN24 => ?_
     refine rgE ?_;refine hN24 _ _ _ ?_;clear hN24;refine zr ?_
     refine xL (fun q D L S => ∃ i : Nat,i <= 8 /\ q = 8 - i /\ D = [] /\ L = [(165,.int .i64 i),(2,pT b2),(4,pT b4),(9,pT b9)] /\
      S = [[(b2,.cells (rowW (mix s v i)) 303 (0,0))],[(b9,.cells (rowW v.list) 303 (0,0))],F,G,H,[(b4,.cells (rowW (aU 8 0)) 303 (0,0))]]) ?_ ?_
     ·exact ⟨_,_,_,⟨0,oM,rfl,rfl,rfl,rfl⟩,by (repeat (first | exact True.intro | (refine aF ?_ ?_;(· (try simp only [evT,zj,zi,aJ]);(first | done | exact rfl))))),amA⟩
     ·rintro q D L S ⟨i,hi,rfl,rfl,rfl,rfl⟩;refine zg fun N25 hN25 => ?_
      refine rgE ?_;refine hN25 _ _ _ ?_;clear hN25;refine zg fun N26 hN26 => ?_
      refine jH (fun hc => ?_) (fun hc => ?_)
      ·have hc := of_decide_eq_true hc;refine zP ?_;refine hN26 _ _ _ ?_;clear hN26;refine zg fun N27 hN27 => ?_
       refine zr ?_;refine zg fun N28 hN28 => ?_
       refine rgE ?_;refine hN28 _ _ _ ?_;clear hN28;refine cdL [[0],[1],[2],[3],[4],[5],[6],[7],[8,0]] ?_
       (try refine xu ?_);(try refine zx ?_)
       refine zG ?_;(first | ((with_reducible apply wW);(· (repeat (first | with_reducible exact Upd.one | with_reducible apply Upd.next)));(· (first | (rw [ld_len];omega) | (rw [aZ];omega) | (rw [St.list_len];omega) | (rw [jt];omega) | (rw [xO];omega) | (rw [xE _ _ _ oM];omega)))) | ((with_reducible apply Xb);(· (repeat (first | with_reducible exact Upd.one | with_reducible apply Upd.next)));(· (first | (rw [ld_len];omega) | (rw [aZ];omega) | (rw [St.list_len];omega) | (rw [jt];omega) | (rw [xO];omega) | (rw [xE _ _ _ oM];omega)))));(repeat refine qV ?_)
       (try refine jj ?_);(try refine zx ?_)
       rw [show 0 + i * 1 = i from oM,If s v i oM];refine hN27 _ _ _ ?_;clear hN27;refine rgE ?_;exact zI ⟨i + 1,oM,rfl,rfl,rfl,rfl⟩
      ·have hc := of_decide_eq_false hc;refine zZ ?_;try simp only [Cont.then,Cont.block,Cont.noGoto,reduceIte,aP];refine hN23 _ _ _ ?_;clear hN23;obtain rfl : i = 8 := oM;subst hv;refine zg fun N29 hN29 => ?_
       refine jU ?_;refine xd fun K hK => ?_
       refine vt lkA (xE _ _ _ oM) ?_;refine hK _ _ ?_;clear hK K;refine xd fun K hK => ?_
       refine qU (l := aU 8 0) (l' := mix s (kZ odd (spr bs 64) 64 s) 8) upA aZ (xE _ _ _ oM) ?_;refine hK _ _ ?_;clear hK K;refine rnE ?_;refine hN29 _ _ _ ?_;clear hN29;refine xr ?_;refine ⟨_,by simp only [qo,iB,mV];(repeat (first | with_reducible exact Take.nil _ | with_reducible exact Pick.head _ _ | with_reducible apply Pick.tail | with_reducible apply Take.cons)),?_⟩;simp only [resW,zy,zj,zi,aJ];refine vt lkA (xE _ _ _ oM) ?_;exact ⟨[G,H],⟨rfl,rfl⟩,amA⟩
theorem VV : zh prog 168 [] [] fun v A => v = .agg (rowW first.list) /\ A = [] := by
 refine eN func168 ntmps168 results168 fun F => ?_
 refine zg fun N1 hN1 => ?_
 refine rgE ?_;refine zF ?_;refine zC fun b0 => ?_;(try simp only [Value.cells])
 refine rnE ?_;refine hN1 _ _ _ ?_;clear hN1;refine zg fun N2 hN2 => ?_
 refine rgE ?_;refine xd fun K hK => ?_
 refine (Kh (κ := _) (a := 1779033703) (b := 3144134277) (c := 1013904242) (d := 2773480762) (e' := 1359893119) (f := 2600822924) (g := 528734635) (h' := 1541459225) rfl).mpr ?_;refine hK _ _ ?_;clear hK K;refine xd fun K hK => ?_
 refine qU (l := aU 8 0) (l' := first.list) (by (repeat (first | exact Upd.one | apply Upd.next))) aZ (St.list_len _) ?_;refine hK _ _ ?_;clear hK K;refine rnE ?_;refine hN2 _ _ _ ?_;clear hN2;refine xr ?_;refine ⟨_,by simp only [qo,iB,mV];(repeat (first | with_reducible exact Take.nil _ | with_reducible exact Pick.head _ _ | with_reducible apply Pick.tail | with_reducible apply Take.cons)),?_⟩;simp only [resW,zy,zj,zi,aJ];refine vt lkA (St.list_len _) ?_;exact ⟨[],⟨rfl,rfl⟩,amA⟩
theorem go_spec {tg : TypeId} (G H : zd) (m : Nat × Nat) (hG : (4,Obj.cells (rowW odd) tg m) ∈ G) (s : St) (a : OA) (cap : Nat) (bs : L8) (hb : bs.length <= 70368744177664) (hcap : bs.length <= cap) (h : Rd 1 [H] a bs.length (bs.map b8)) :
  zh prog 167 [.agg (rowW s.list),.slice a bs.length cap] [G,H]
   fun v A => ∃ a' c',v = .tuple #[.agg (rowW (whole s bs).list),.slice a' (bs.drop (64 * (bs.length / 64))).length c'] /\ Rd 1 [H] a' (bs.drop (64 * (bs.length / 64))).length ((bs.drop (64 * (bs.length / 64))).map b8) /\ A = [G,H] := by
 refine eN func167 ntmps167 results167 fun F => ?_
 refine zg fun N1 hN1 => ?_
 refine rgE ?_;refine xd fun K hK => ?_
 refine Xr fun b2 => ?_;rw [show (Value.agg (rowW s.list)).cells = rowW s.list from rfl];refine hK _ _ ?_;clear hK K
 refine rnE ?_;refine zF ?_;refine zC fun b4 => ?_;(try simp only [Value.cells])
 refine rnE ?_;refine hN1 _ _ _ ?_;clear hN1;refine zg fun N2 hN2 => ?_
 refine zr ?_
 refine xL (fun q D L S => ∃ (i : Nat) (a' : OA) (c' : Nat),64 * i <= bs.length /\ (bs.drop (64 * i)).length <= c' /\ Rd 1 [H] a' (bs.drop (64 * i)).length ((bs.drop (64 * i)).map b8) /\ q = bs.length - 64 * i /\ D = [] /\ L = [(1,.slice a' (bs.drop (64 * i)).length c'),(2,pT b2),(4,pT b4)] /\
  S = [F,G,H,[(b2,.cells (rowW (run i s bs).list) 303 (0,0))],[(b4,.cells (rowW (aU 8 0)) 303 (0,0))]]) ?_ ?_
 ·exact ⟨_,_,_,⟨0,a,cap,oM,hcap,h,rfl,rfl,rfl,rfl⟩,by (repeat (first | exact True.intro | (refine aF ?_ ?_;(· (try simp only [evT,zj,zi,aJ]);(first | done | exact rfl))))),amA⟩
 ·rintro q D L S ⟨i,a',c',hi,hc',hr,rfl,rfl,rfl,rfl⟩;have hdl : (bs.drop (64 * i)).length = bs.length - 64 * i := aV;refine zg fun N3 hN3 => ?_
  refine zg fun N4 hN4 => ?_
  refine rgE ?_;refine hN4 _ _ _ ?_;clear hN4;refine jH (fun hc => ?_) (fun hc => ?_)
  ·have hc := of_decide_eq_true hc;refine zP ?_;refine hN3 _ _ _ ?_;clear hN3;refine zr ?_;have hcut : Rd 1 [H] (cutA 1 a' 0 c') 64 (((bs.drop (64 * i)).take 64).map b8) := kz hr (l := 0) (h' := 64) (m := c') oM oM oM
   have e64 : (bs.drop (64 * i)).length - 64 = (bs.drop (64 * (i + 1))).length := by
    rw [aV,aV];show bs.length - 64 * i - 64 = _;omega
   have hr2 : Rd 1 [H] (cutA 1 a' 64 c') (bs.drop (64 * (i + 1))).length ((bs.drop (64 * (i + 1))).map b8) := by
    have q := kz hr (l := 64) (h' := (bs.drop (64 * i)).length) (m := c') oM (aR _) hc';rw [mQ,show 64 * i + 64 = 64 * (i + 1) from oM,lE (by rw [aV];omega)] at q;rw [<- e64];exact q
   have hc2 : (bs.drop (64 * (i + 1))).length <= c' - 64 := by
    rw [aV];show _ <= c' - 64;omega
   refine cdL [[0],[1],[2],[4],[5],[3,0],[6,0],[7,0]] ?_;refine qO fun K hK => ?_;refine vt lkA (St.list_len _) ?_;(with_reducible refine hK _ _ ?_);clear hK K
   (try refine jj ?_);(try refine zx ?_)
   refine vx (by simp only [iP,iD,iJ];rfl) fun K hK => ?_;(try simp only [gos,gob,aJ,if_true,reduceIte,reduceCtorEq,iN,aP,iQ,iF,lJ,lK,iV,iW,iM,iX,iY,iZ,lA,lB,lC,aW,iI,goq]);(try (simp (disch := omega) only [gow,gobw];try simp only [gos,gob,aJ,if_true,reduceIte,reduceCtorEq,iN,aP,iQ,iF,lJ,lK,iV,iW,iM,iX,iY,iZ,lA,lB,lC,aW,iI,goq]));refine xX (KM G H m hG (run i s bs) (cutA 1 a' 0 c') (c' - 0) oM ((bs.drop (64 * i)).take 64) (by rw [aX];omega) hcut) tkA ?_;rintro v A ⟨rfl,rfl⟩;(try simp only [aD,aC]);refine hK _ _ ?_;clear hK K
   rw [<- Zr]
   (try refine jj ?_);(try refine zx ?_)
   refine vx (by simp only [iP,iD,iJ];rfl) fun K hK => ?_;(try simp only [gos,gob,aJ,if_true,reduceIte,reduceCtorEq,iN,aP,iQ,iF,lJ,lK,iV,iW,iM,iX,iY,iZ,lA,lB,lC,aW,iI,goq]);(try (simp (disch := omega) only [gow,gobw];try simp only [gos,gob,aJ,if_true,reduceIte,reduceCtorEq,iN,aP,iQ,iF,lJ,lK,iV,iW,iM,iX,iY,iZ,lA,lB,lC,aW,iI,goq]));refine qU (l := (run i s bs).list) (l' := (run (i + 1) s bs).list) upA (St.list_len _) (St.list_len _) ?_;refine hK _ _ ?_;clear hK K
   (try refine jj ?_);(try refine zx ?_)
   refine wL fun K hK => ?_;refine pBk hK ?_;clear hK K
   (try refine jj ?_);(try refine zx ?_)
   rw [e64];exact zI ⟨i + 1,_,_,oM,hc2,hr2,rfl,rfl,rfl,rfl⟩
  ·have hc := of_decide_eq_false hc;refine zZ ?_;try simp only [Cont.then,Cont.block,Cont.noGoto,reduceIte,aP];refine hN2 _ _ _ ?_;clear hN2;have hi2 : i = bs.length / 64 := oM;subst hi2;refine zg fun N5 hN5 => ?_
   refine jU ?_;refine xd fun K hK => ?_
   refine vt lkA (St.list_len _) ?_;refine hK _ _ ?_;clear hK K;refine rnE ?_;refine xd fun K hK => ?_
   refine qU (l := aU 8 0) (l' := (run (bs.length / 64) s bs).list) upA aZ (St.list_len _) ?_;refine hK _ _ ?_;clear hK K;refine rnE ?_;refine hN5 _ _ _ ?_;clear hN5;refine xr ?_;refine ⟨_,by simp only [qo,iB,mV];(repeat (first | with_reducible exact Take.nil _ | with_reducible exact Pick.head _ _ | with_reducible apply Pick.tail | with_reducible apply Take.cons)),?_⟩;simp only [resW,zy,zj,zi,aJ];refine vt lkA (St.list_len _) ?_;exact ⟨[G,H],⟨a',c',rfl,hr,rfl⟩,amA⟩
end Go.Proofs.YtebikhhoppiapaaGreatDoor
namespace Go.Proofs.YtebikhhoppiapaaGreatDoor
open Go Go.Ost Tryz
instance iBB_1 : TUns prog 358 := ⟨kM⟩
instance iBB_2 : TLies prog 272 := ⟨⟨_,rfl,kM,kM⟩⟩
abbrev bdB (b : Nat) (p : OA) (a : OA) (n cap : Nat) : zd := [(b,.cells #[.pointer p,.slice a n cap] 272 (0,0))]
structure Bd (b : Nat) (l : L8) (p a : OA) (cap : Nat) (X : zd) : Prop where
 ptr : p = none ∨ p = some ⟨b,0,none⟩
 row : cap ≠ 0 ∨ a = none
 own : Own8 5 X a l.length cap l
theorem Bd.new (b : Nat) : Bd b [] none none 0 [] := ⟨.inl rfl,.inr rfl,zJ⟩
theorem QW (b n cap : Nat) (p a : OA) (hp : p = none ∨ p = some ⟨b,0,none⟩) : zh prog 201 [pT b] [bdB b p a n cap] fun v A => v = .tuple #[] /\ A = [bdB b (some ⟨b,0,none⟩) a n cap] := by
 refine eNg func201 ntmps201 results201 fun F => ?_
 rcases hp with rfl | rfl
 ·refine gg ?_;refine zF ?_;refine dl (u := 272) lkA ?_;refine xd fun K hK => ?_;refine XA func237 kM kM kM (e := Extern.AbiNoEscape.same) kM ?_
  refine ⟨fun w hw => ⟨_,w,_,Lib.run_noEscape w _,Ext.refl w,hw,?_⟩⟩;refine hK _ _ ?_;clear hK K;refine zF ?_;refine UA (u := 272) lkA ?_;refine gg ?_;refine xm [bdB b (some ⟨b,0,none⟩) a n cap] ⟨rfl,rfl⟩
 ·refine gg ?_;refine zF ?_;rw [KU];refine gg ?_;refine xm [bdB b (some ⟨b,0,none⟩) a n cap] ⟨rfl,rfl⟩
theorem qp {b cap : Nat} {p a : OA} {X : zd} {l : L8} (h : Bd b l p a cap X) (hl : l.length <= 900000) (c : UInt8) :
  zh prog 154 [pT b,b8 c] [bdB b p a l.length cap,X] fun v A => v = .nilIface /\ ∃ p' a' cap' X',Bd b (l ++ [c]) p' a' cap' X' /\ A = [bdB b p' a' (l ++ [c]).length cap',X'] := by
 obtain ⟨hp,hr,hX⟩ := h;refine eNg func154 ntmps154 results154 fun F => ?_
 refine cR (QW b l.length cap p a hp) ?_;refine zF ?_;refine xI ([c]) dM rfl (rfl) (fun b7 C7 ho7 => ?_);refine gg ?_;refine zF ?_;refine app8 (hX) pkA ((ho7.rd (aA ..)).mem mmA) oM (fun C9 a9 cap9 ho9 => ?_);refine gg ?_;have e : l.length + 1 = (l ++ [c]).length := sM;rw [e] at ho9 ⊢;have hle := ho9.1;refine ze [bdB b (some ⟨b,0,none⟩) a9 (l ++ [c]).length cap9,C9] ⟨rfl,_,a9,cap9,C9,⟨.inr rfl,.inl (by rw [<- e] at hle;omega),ho9⟩,rfl⟩
theorem yq {b cap : Nat} {p a : OA} {X : zd} {l : L8} (h : Bd b l p a cap X) (hl : l.length <= 900000) :
  zh prog 150 [pT b] [bdB b p a l.length cap,X] fun v A => v = sT l /\ A = [] := by
 obtain ⟨hp,hr,hX⟩ := h;refine eNg func150 ntmps150 results150 fun F => ?_
 refine cdLg [[0],[1],[2],[3],[5],[6],[7],[8],[9],[4,0,8,9],[10,0],[11,0]] ?_;refine zG ?_;refine bh hr ?_;refine pC ?_
 by_cases h0 : l = []
 ·subst h0;refine zG ?_;refine Yc ?_;refine pC ?_;refine ze [] ?_;exact ⟨rfl,rfl⟩
 ·refine zG ?_;refine IS (e := 5) hX pkA h0 oM ?_;refine pC ?_;refine ze [] ?_;exact ⟨rfl,rfl⟩
open Go.Sha
theorem jS (n k : Nat) (hn : n < 18446744073709551616) (hk : k <= 1000) : zh prog 53 [.int .u64 n,.int .i64 k] [] (New8 5 (be k n) []) := by
 refine eN func53 ntmps53 results53 fun F => ?_
 refine zg fun N1 hN1 => ?_
 refine rgE ?_;refine hN1 _ _ _ ?_;clear hN1;refine zg fun N2 hN2 => ?_
 refine rgE ?_;refine xd fun K hK => ?_
 refine fE oM (fun b1 C1 ho1 => ?_);refine hK _ _ ?_;clear hK K;refine rnE ?_;refine hN2 _ _ _ ?_;clear hN2;refine zg fun N3 hN3 => ?_
 refine zg fun N4 hN4 => ?_
 refine rgE ?_;refine hN4 _ _ _ ?_;clear hN4;refine zr ?_;refine xL (fun q D L S => ∃ (i : Nat) (C : zd) (j : Int) (v : Nat),i <= k /\ j = (k : Int) - 1 - i /\ v = n / 256 ^ i /\ Own8 5 C (some ⟨b1,0,none⟩) k k (aU (k - i) 0 ++ (be k n).drop (k - i)) /\ q = k - i /\ D = [] /\ L = [(6,.int .i64 j),(0,.int .u64 (v : Int)),(5,.slice (some ⟨b1,0,none⟩) k k)] /\ S = [C,F]) ?_ ?_
 ·refine ⟨_,_,_,⟨0,C1,(k : Int) - 1,n,oM,oM,sM,?_,rfl,rfl,rfl,rfl⟩,by (repeat (first | exact True.intro | (refine aF ?_ ?_;(· (try simp only [evT,zj,zi,aJ]);(first | done | exact rfl))))),amA⟩;rw [iI,List.drop_of_length_le (by rw [qf];omega),aL];exact ho1
 ·rintro q D L S ⟨i,C,j,v,hi,hj,hv,ho,rfl,rfl,rfl,rfl⟩;have hvn : v <= n := by rw [hv];exact Nat.div_le_self _ _
  refine zg fun N5 hN5 => ?_
  refine zg fun N6 hN6 => ?_
  refine rgE ?_;refine hN6 _ _ _ ?_;clear hN6;refine jH (fun hc => ?_) (fun hc => ?_)
  ·have hc := of_decide_eq_true hc;refine zP ?_;refine hN5 _ _ _ ?_;clear hN5;refine zg fun N7 hN7 => ?_
   refine zr ?_;refine zg fun N8 hN8 => ?_
   refine rgE ?_
   have e1 : Value.int .u8 ((v : Int) % 256) = b8 (aG (n / 256 ^ i % 256)) := by
    simp only [b8,<- hv,iO];congr 1;omega
   have e2 : (⟨b1,0 + j.toNat * 1,none⟩ : Addr) = elA (some ⟨b1,0,none⟩) (k - 1 - i) := by
    simp only [elA,iR,xZ];congr 1;omega
   refine xd fun K hK => ?_
   rw [e1,e2];refine vr ho pkA (by simp [qf];omega) (fun C2 ho2 => ?_);rw [be_back k n i oM] at ho2;refine hK _ _ ?_;clear hK K;refine rnE ?_;refine hN8 _ _ _ ?_;clear hN8;refine rgE ?_;refine hN7 _ _ _ ?_;clear hN7;refine rgE ?_;have hv2 : v / 256 = n / 256 ^ (i + 1) := by rw [hv,Nat.div_div_eq_div_mul,Nat.pow_succ]
   rw [show ((v : Int) / 256) = ((v / 256 : Nat) : Int) from oM];exact zI ⟨i + 1,C2,j - 1,v / 256,oM,oM,hv2,ho2,rfl,rfl,rfl,rfl⟩
  ·have hc := of_decide_eq_false hc;refine zZ ?_;try simp only [Cont.then,Cont.block,Cont.noGoto,reduceIte,aP];refine hN3 _ _ _ ?_;clear hN3;have e : aU (k - i) 0 ++ (be k n).drop (k - i) = be k n := by rw [show k - i = 0 from oM];rfl
   rw [e] at ho;refine zg fun N9 hN9 => ?_
   refine rgE ?_;refine hN9 _ _ _ ?_;clear hN9;refine xr ?_;have e2 := qf k n;refine yV [C] (by (try simp only [evT,zj,zi,aJ]);(first | done | exact rfl)) ⟨C,some ⟨b1,0,none⟩,k,?_,?_,rfl⟩ amA
   ·rw [e2]
   ·rw [e2];exact ho
theorem vq (H : zd) (a : OA) (cap : Nat) (bs : L8) (hb : bs.length <= 1000000) (h : Rd 1 [H] a bs.length (bs.map b8)) :
  zh prog 52 [.slice a bs.length cap] [H] fun v A => v = sT (hex bs) /\ A = [H] := by
 refine eN func52 ntmps52 results52 fun F => ?_
 refine zg fun N1 hN1 => ?_
 refine rgE ?_;refine hN1 _ _ _ ?_;clear hN1;refine zg fun N2 hN2 => ?_
 refine rgE ?_;refine hN2 _ _ _ ?_;clear hN2;refine zg fun N3 hN3 => ?_
 refine zg fun N4 hN4 => ?_
 refine rgE ?_;refine hN4 _ _ _ ?_;clear hN4;refine zr ?_;refine xL (fun q D L S => ∃ i : Nat,i <= bs.length /\ q = bs.length - i /\ D = [] /\ L = [(8,.int .i64 i),(7,.int .i64 bs.length),(6,.slice a bs.length cap),(3,sT (hex (bs.take i)))] /\ S = [F,H]) ?_ ?_
 ·exact ⟨_,_,_,⟨0,oM,rfl,rfl,rfl,rfl⟩,by (repeat (first | exact True.intro | (refine aF ?_ ?_;(· (try simp only [evT,zj,zi,aJ]);(first | done | exact rfl))))),amA⟩
 ·rintro q D L S ⟨i,hi,rfl,rfl,rfl,rfl⟩;refine zg fun N5 hN5 => ?_
  refine rgE ?_;refine hN5 _ _ _ ?_;clear hN5;refine zg fun N6 hN6 => ?_
  refine jH (fun hc => ?_) (fun hc => ?_)
  ·have hc := of_decide_eq_true hc;refine zP ?_;refine hN6 _ _ _ ?_;clear hN6;refine zg fun N7 hN7 => ?_
   refine zr ?_;refine zg fun N8 hN8 => ?_
   refine jU ?_;(repeat ((with_reducible refine qt fun K hK => ?_);(try simp only [gos,gob,aJ,if_true,reduceIte,reduceCtorEq,iN,aP,iQ,iF,lJ,lK,iV,iW,iM,iX,iY,iZ,lA,lB,lC,aW,iI]);(try (simp (disch := omega) only [gow,gobw,ZG (h.next F)];try simp only [gos,gob,aJ,if_true,reduceIte,reduceCtorEq,iN,aP,iQ,iF,lJ,lK,iV,iW,iM,iX,iY,iZ,lA,lB,lC,aW,iI]));(first | (with_reducible refine hK _ _ ?_) | (refine XL (h.next F) oM ?_;(with_reducible refine hK _ _ ?_)) | ((with_reducible apply ji);(· (repeat (first | with_reducible exact Lies.one | with_reducible apply Lies.next)));(with_reducible refine hK _ _ ?_)) | ((with_reducible apply xf);(· (repeat (first | with_reducible exact Lies.one | with_reducible apply Lies.next)));(· exact rfl);(with_reducible refine hK _ _ ?_)));clear hK K));try ((with_reducible refine jN ?_);try simp only [Cont.then,Cont.block,Cont.noGoto,reduceIte,aP]);refine hN8 _ _ _ ?_;clear hN8;rw [show b8 (bs.getD i 0) = .int .u8 (bs.getD i 0).toNat from rfl];have hx := (bs.getD i 0).toNat_lt;refine cdL [[0],[1],[2],[3],[4],[5],[6],[7],[8],[9],[10],[11],[12],[13],[14],[15,0]] ?_
   (try refine jj ?_);(try refine zx ?_)
   refine qO fun K hK => ?_
   rw [show Value.string ⟨#[48,49,50,51,52,53,54,55,56,57,97,98,99,100,101,102]⟩ = sT xB from rfl];rw [Ym oM oM (by show _ <= (16 : Int);omega),show ((((bs.getD i 0).toNat : Int) / 16 + 1).toNat - (((bs.getD i 0).toNat : Int) / 16).toNat) = 1 from oM,show (((bs.getD i 0).toNat : Int) / 16).toNat = (bs.getD i 0).toNat / 16 from oM,dig1 _ oM]
   (with_reducible refine hK _ _ ?_);clear hK K
   (try refine jj ?_);(try refine zx ?_)
   refine qO fun K hK => ?_
   rw [show Value.string ⟨#[48,49,50,51,52,53,54,55,56,57,97,98,99,100,101,102]⟩ = sT xB from rfl];rw [Ym oM oM (by show _ <= (16 : Int);omega),show ((((bs.getD i 0).toNat : Int) % 16 + 1).toNat - (((bs.getD i 0).toNat : Int) % 16).toNat) = 1 from oM,show (((bs.getD i 0).toNat : Int) % 16).toNat = (bs.getD i 0).toNat % 16 from oM,dig1 _ oM]
   (with_reducible refine hK _ _ ?_);clear hK K
   refine qO fun K hK => ?_
   rw [zV sM]
   (with_reducible refine hK _ _ ?_);clear hK K
   refine qO fun K hK => ?_
   rw [zV (by rw [jK,aX];simp;omega)]
   (with_reducible refine hK _ _ ?_);clear hK K
   (try refine jj ?_);(try refine zx ?_)
   refine wL fun K hK => ?_;refine pBk hK ?_;clear hK K
   (try refine jj ?_);(try refine zx ?_)
   rw [show hex (bs.take i) ++ [xB.getD ((bs.getD i 0).toNat / 16) 0,xB.getD ((bs.getD i 0).toNat % 16) 0] = hex (bs.take (i + 1)) from by rw [Iv bs i oM];rfl];refine hN7 _ _ _ ?_;clear hN7;refine rgE ?_;exact zI ⟨i + 1,oM,rfl,rfl,rfl,rfl⟩
  ·have hc := of_decide_eq_false hc;refine zZ ?_;try simp only [Cont.then,Cont.block,Cont.noGoto,reduceIte,aP];refine hN3 _ _ _ ?_;clear hN3;obtain rfl : i = bs.length := oM;rw [iK];refine zg fun N9 hN9 => ?_
   refine rgE ?_;refine hN9 _ _ _ ?_;clear hN9;refine xr ?_;refine ze [H] ?_;exact ⟨rfl,rfl⟩
theorem ZU (H : zd) (a : OA) (cap : Nat) (bs : L8) (hb : bs.length <= 100000) (h : Rd 1 [H] a bs.length (bs.map b8)) :
  zh prog 105 [.slice a bs.length cap] [H] fun v A => v = sT (hex bs) /\ A = [H] := by
 refine eNg func105 ntmps105 results105 fun F => ?_
 refine zF ?_;refine zC fun b3 => ?_;(try simp only [Value.cells])
 refine gg ?_;refine zU ?_
 refine zM (fun q D L S => ∃ (i : Nat) (p a' : OA) (cap' : Nat) (X : zd),i <= bs.length /\ Bd b3 (hex (bs.take i)) p a' cap' X /\ q = bs.length - i /\ D = [] /\
  L = [(8,.int .i64 i),(7,.int .i64 bs.length),(6,.slice a bs.length cap),(3,pT b3)] /\ S = [bdB b3 p a' (hex (bs.take i)).length cap',X,F,H])
  ⟨0,none,none,0,[],oM,Bd.new b3,rfl,rfl,rfl,rfl⟩ ?_
 rintro q D L S ⟨i,p,a',cap',X,hi,hB,rfl,rfl,rfl,rfl⟩;have hel := jK (bs.take i);rw [aX] at hel;refine gg ?_;refine if_d (fun hc => ?_) (fun hc => ?_)
 ·have hil : i < bs.length := oM;have hnx := Iv bs i hil;have hx := (bs.getD i 0).toNat_lt;refine gg ?_;refine xd fun K hK => ?_
  rw [show Value.string ⟨#[48,49,50,51,52,53,54,55,56,57,97,98,99,100,101,102]⟩ = sT xB from rfl];rw [sidx oM (by show _ < (16 : Int);omega),show (((bs.getD i 0).toNat / 16 : Nat) : Int).toNat = (bs.getD i 0).toNat / 16 from oM];refine hK _ _ ?_;clear hK K;refine cA (qp hB oM (xB.getD ((bs.getD i 0).toNat / 16) 0)) ?_;rintro v A ⟨rfl,p1,a1,cap1,X1,hB1,rfl⟩;refine gA ?_;refine xd fun K hK => ?_
  rw [show Value.string ⟨#[48,49,50,51,52,53,54,55,56,57,97,98,99,100,101,102]⟩ = sT xB from rfl];rw [sidx oM (by show _ < (16 : Int);omega),show (((bs.getD i 0).toNat % 16 : Nat) : Int).toNat = (bs.getD i 0).toNat % 16 from oM];refine hK _ _ ?_;clear hK K;refine cA (qp hB1 (by rw [aB,aI];omega) (xB.getD ((bs.getD i 0).toNat % 16) 0)) ?_;rintro v A ⟨rfl,p2,a2,cap2,X2,hB2,rfl⟩;refine gA ?_;rw [show hex (bs.take i) ++ [xB.getD ((bs.getD i 0).toNat / 16) 0] ++ [xB.getD ((bs.getD i 0).toNat % 16) 0] = hex (bs.take (i + 1)) from by rw [hnx,aN];rfl] at hB2 ⊢;exact zI ⟨i + 1,p2,a2,cap2,X2,oM,hB2,rfl,rfl,rfl,rfl⟩
 ·obtain rfl : i = bs.length := oM;rw [iK] at hB hel ⊢;refine gg ?_;refine cR (yq hB oM) ?_;refine ze [H] ?_;exact ⟨rfl,rfl⟩
theorem Ku (n : Nat) (hn : n < 2305843009213693952) : zh prog 169 [.int .u64 n] [] (New8 5 (pad n) []) := by
 refine eN func169 ntmps169 results169 fun F => ?_
 refine zg fun N1 hN1 => ?_
 refine rgE ?_;refine hN1 _ _ _ ?_;clear hN1;refine zg fun N2 hN2 => ?_
 refine rgE ?_;refine zF ?_;refine xI ([128]) dM rfl (rfl) (fun b1 C1 ho1 => ?_);refine rnE ?_;refine hN2 _ _ _ ?_;clear hN2;refine zg fun N3 hN3 => ?_
 refine zg fun N4 hN4 => ?_
 refine rgE ?_;refine hN4 _ _ _ ?_;clear hN4;refine zr ?_;refine xL (fun q D L S => ∃ (i : Nat) (C : zd) (a : OA) (cap : Nat) (j : Int),i <= kf n /\ j = (n : Int) % 64 + 1 + i /\ Own8 5 C a (1 + i) cap (128 :: aU i 0) /\ q = kf n - i /\ D = [] /\ L = [(4,.int .u64 j),(0,.int .u64 n),(3,.slice a (1 + i) cap)] /\ S = [C,F]) ?_ ?_
 ·exact ⟨_,_,_,⟨0,C1,_,_,(n : Int) % 64 + 1,oM,sM,ho1,rfl,rfl,rfl,rfl⟩,by (repeat (first | exact True.intro | (refine aF ?_ ?_;(· (try simp only [evT,zj,zi,aJ]);(first | done | exact rfl))))),amA⟩
 ·rintro q D L S ⟨i,C,a,cap,j,hi,hj,ho,rfl,rfl,rfl,rfl⟩;have hz : kf n <= 63 := by unfold kf;omega
  refine zg fun N5 hN5 => ?_
  refine zg fun N6 hN6 => ?_
  refine rgE ?_;refine hN6 _ _ _ ?_;clear hN6;refine jH (fun hc => ?_) (fun hc => ?_)
  ·have hc := bne_iff_ne.1 hc;have hlt : i < kf n := by simp only [kf] at hi ⊢;omega
   refine zP ?_;refine hN5 _ _ _ ?_;clear hN5;refine zg fun N7 hN7 => ?_
   refine zr ?_;refine rgE ?_;refine zF ?_;refine xI ([0]) dM rfl (rfl) (fun b1 C1 ho1 => ?_);refine zF ?_;refine app8 (ho) pkA (ho1.rd mmA) oM (fun C2 a2 cap2 ho2 => ?_);rw [<- OP] at ho2;refine rnE ?_;refine hN7 _ _ _ ?_;clear hN7;refine rgE ?_;exact zI ⟨i + 1,C2,a2,cap2,j + 1,oM,oM,ho2,rfl,rfl,rfl,rfl⟩
  ·have hc := bne_eq_false_iff_eq.1 hc;refine zZ ?_;try simp only [Cont.then,Cont.block,Cont.noGoto,reduceIte,aP];refine hN3 _ _ _ ?_;clear hN3;obtain rfl : i = kf n := by unfold kf at *;omega
   refine zg fun N8 hN8 => ?_
   refine rgE ?_;rw [show ((n : Int) * 8) = ((8 * n : Nat) : Int) from oM];refine cA (jS (8 * n) 8 oM oM) ?_;rintro v A ⟨C2,a2,cap2,rfl,ho2,rfl⟩;(try simp only [aD,aC]);refine rnE ?_;refine zF ?_;refine app8 (ho) pkA (ho2.rd mmA) (by rw [qf];omega) (fun C3 a3 cap3 ho3 => ?_);refine rnE ?_;refine hN8 _ _ _ ?_;clear hN8;refine xr ?_;have e : 1 + kf n + (be 8 (8 * n)).length = (pad n).length := by rw [Xi,qf];omega
   rw [e] at ho3 ⊢;refine ze ([C3]) ?_;exact ⟨_,_,_,rfl,ho3,rfl⟩
theorem out_spec (s : St) : zh prog 170 [.agg (rowW s.list)] [] (New8 5 s.bytes []) := by
 refine eN func170 ntmps170 results170 fun F => ?_
 refine zg fun N1 hN1 => ?_
 refine rgE ?_;refine xd fun K hK => ?_
 refine Xr fun b1 => ?_;rw [show (Value.agg (rowW s.list)).cells = rowW s.list from rfl];refine hK _ _ ?_;clear hK K
 refine rnE ?_;refine hN1 _ _ _ ?_;clear hN1;refine zg fun N2 hN2 => ?_
 refine rgE ?_;refine hN2 _ _ _ ?_;clear hN2;refine zg fun N3 hN3 => ?_
 refine zg fun N4 hN4 => ?_
 refine jU ?_;refine xd fun K hK => ?_
 refine vt lkA (St.list_len _) ?_;refine hK _ _ ?_;clear hK K;refine rnE ?_;refine hN4 _ _ _ ?_;clear hN4;refine zr ?_;refine zU ?_;refine xL (fun q D L S => ∃ (i : Nat) (C : zd) (a : OA) (cap : Nat),i <= 8 /\ Own8 5 C a (4 * i) cap ((s.list.take i).flatMap xH) /\ q = 8 - i /\ D = [] /\ L = [(7,.int .i64 i),(6,.agg (rowW s.list)),(3,.slice a (4 * i) cap)] /\ S = [C,F]) ?_ ?_
 ·exact ⟨_,_,_,⟨0,[],none,0,oM,zJ,rfl,rfl,rfl,rfl⟩,by (repeat (first | exact True.intro | (refine aF ?_ ?_;(· (try simp only [evT,zj,zi,aJ]);(first | done | exact rfl))))),amA⟩
 ·rintro q D L S ⟨i,C,a,cap,hi,ho,rfl,rfl,rfl,rfl⟩;refine zg fun N5 hN5 => ?_
  refine rgE ?_;refine hN5 _ _ _ ?_;clear hN5;refine zg fun N6 hN6 => ?_
  refine jH (fun hc => ?_) (fun hc => ?_)
  ·have hc := of_decide_eq_true hc;refine zP ?_;refine hN6 _ _ _ ?_;clear hN6;refine zg fun N7 hN7 => ?_
   refine zr ?_;refine zg fun N8 hN8 => ?_
   refine jU ?_;refine xd fun K hK => ?_
   rw [fS oM oM (St.list_len s)];refine hK _ _ ?_;clear hK K;refine rnE ?_;refine hN8 _ _ _ ?_;clear hN8;refine rgE ?_;have hx := (s.list.getD i 0).isLt;refine cA (jS (s.list.getD i 0).toNat 4 oM oM) ?_;rintro v A ⟨C1,a1,cap1,rfl,ho1,rfl⟩;(try simp only [aD,aC]);refine rnE ?_;rw [ZQ] at ho1;rw [ZQ];refine zF ?_;refine app8 (ho) pkA (ho1.rd mmA) (by show 4 * i + 4 <= _;omega) (fun C2 a2 cap2 ho2 => ?_);rw [<- Vb s i oM] at ho2;refine rnE ?_;refine hN7 _ _ _ ?_;clear hN7;refine rgE ?_;exact zI ⟨i + 1,C2,a2,cap2,oM,ho2,rfl,rfl,rfl,rfl⟩
  ·have hc := of_decide_eq_false hc;refine zZ ?_;try simp only [Cont.then,Cont.block,Cont.noGoto,reduceIte,aP];refine hN3 _ _ _ ?_;clear hN3;obtain rfl : i = 8 := oM;refine zg fun N9 hN9 => ?_
   refine rgE ?_;refine hN9 _ _ _ ?_;clear hN9;refine xr ?_;refine ze ([C]) ?_;exact ⟨_,_,_,rfl,ho,rfl⟩
theorem Ju {tg : TypeId} (G H : zd) (m : Nat × Nat) (hG : (4,Obj.cells (rowW odd) tg m) ∈ G) (a : OA) (cap : Nat) (bs : L8) (hb : bs.length <= 1000000) (h : Rd 1 [H] a bs.length (bs.map b8)) :
  zh prog 126 [.slice a bs.length cap] [G,H] (New8 5 (xx bs) [G,H]) := by
 refine eN func126 ntmps126 results126 fun F => ?_
 refine zg fun N1 hN1 => ?_
 refine rgE ?_;refine hN1 _ _ _ ?_;clear hN1;refine zg fun N2 hN2 => ?_
 refine rgE ?_;refine cA (VV) ?_;rintro v A ⟨rfl,rfl⟩;refine rnE ?_;refine zF ?_;refine xI ([]) dM rfl (rfl) (fun b1 C1 ho1 => ?_);refine rnE ?_;refine zF ?_;refine app8 (ho1) pkA (h.mem mmA) oM (fun C2 a2 cap2 ho2 => ?_);refine rnE ?_;refine cA (Ku bs.length oM) ?_;rintro v A ⟨C3,a3,cap3,rfl,ho3,rfl⟩;(try simp only [aD,aC]);refine rnE ?_;have hpl : (pad bs.length).length <= 72 := by rw [Xi,kf];omega
 refine zF ?_;refine app8 (ho2) pkA (ho3.rd mmA) oM (fun C4 a4 cap4 ho4 => ?_);refine rnE ?_;rw [show 0 + bs.length + (pad bs.length).length = (bs ++ pad bs.length).length from by rw [aB];omega,aD] at ho4;rw [show 0 + bs.length + (pad bs.length).length = (bs ++ pad bs.length).length from by rw [aB];omega];refine xd fun K hK => ?_
 refine xX (go_spec G C4 m hG first a4 cap4 (bs ++ pad bs.length) (by rw [aB];omega) ho4.1 (ho4.rd mmA)) tkA ?_;rintro v A ⟨a5,c5,rfl,hr5,rfl⟩;(try simp only [aD,aC]);refine hK _ _ ?_;clear hK K;refine rnE ?_;refine zF ?_;refine zC fun b3 => ?_;(try simp only [Value.cells])
 refine xd fun K hK => ?_
 refine qU (l := aU 8 0) (l' := (whole first (bs ++ pad bs.length)).list) (by (repeat (first | exact Upd.one | apply Upd.next))) aZ (St.list_len _) ?_;refine hK _ _ ?_;clear hK K;refine rnE ?_;refine hN2 _ _ _ ?_;clear hN2;refine zg fun N3 hN3 => ?_
 refine jU ?_;refine xd fun K hK => ?_
 refine vt lkA (St.list_len _) ?_;refine hK _ _ ?_;clear hK K;refine cA (out_spec _) ?_;rintro v A ⟨C6,a6,cap6,rfl,ho6,rfl⟩;(try simp only [aD,aC]);refine rnE ?_;refine hN3 _ _ _ ?_;clear hN3;refine xr ?_;refine ze ([C6,G,H]) ?_;exact ⟨_,_,_,rfl,ho6,rfl⟩
theorem repeat8 (H : zd) (a : OA) (x : UInt8) (h : Ost.Own 1 5 H a 1 1 ([x].map b8)) :
  zh prog 229 [.slice a 1 1,.int .i64 64] [H] (New8 5 (aU 64 x) [H]) := YL H a 1 x dM (h.rd (S := [H]) sM)
theorem pad_spec {t0 t1 : TypeId} (G H : zd) (m0 m1 : Nat × Nat) (hG0 : (0,Obj.cells (rowW first.list) t0 m0) ∈ G) (hG1 : (3,Obj.cells (rowW odd) t1 m1) ∈ G)
  (a : OA) (cap : Nat) (key : L8) (hk : key.length <= 100000) (hcap : key.length <= cap) (h : Rd 1 [H] a key.length (key.map b8)) (x : UInt8) :
  zh prog 184 [.slice a key.length cap,b8 x] [G,H] (New8 5 (padK key x) [G,H]) := by
 refine eN func184 ntmps184 results184 fun F => ?_
 (with_reducible refine zS ?_);refine ez ?_;(with_reducible refine jN ?_);(with_reducible refine qL ?_)
 refine dJ (fun D L S => ∃ (X W : zd) (ka : OA) (kc : Nat),W ∈ [X,G,H] /\ Rd 1 [W] ka (qr key).length ((qr key).map b8) /\ D = [] /\ L = [(0,.slice ka (qr key).length kc),(1,b8 x)] /\ S = [F,X,G,H]) ?_ ?_
 ·refine gg ?_;refine if_d (fun hc => ?_) (fun hc => ?_)
  ·refine gg ?_;refine zF ?_;refine jE rfl [.slice a key.length cap] dM rfl rfl (by simp [Value.cell1]) (fun b1 C1 ho1 => ?_)
   have hp : Zg [C1 ++ H] (some ⟨b1,0,none⟩) 1 [key] := by
    refine ⟨rfl,_,(ho1.rd (S := [C1]) (aA ..)).wide (fun y hy => by simp [hy]),fun i v l hv hl => ?_⟩
    match i,hv,hl with
    | 0,hv,hl => cases hv;cases hl;exact ⟨_,_,rfl,hcap,h.wide (fun y hy => by simp [hy])⟩
    | i + 1,hv,hl => simp at hv
   refine cA (Kv G C1 H m0 m1 hG0 hG1 _ 1 1 [key] hp dM dM (by simp;omega)) ?_;rintro v A ⟨C2,a2,c2,rfl,ho2,rfl⟩;refine gA ?_;have e : qr key = xx [key].flatten := by unfold qr;rw [if_pos oM];simp
   rw [<- e] at ho2 ⊢;exact mid ⟨C2,C2,a2,c2,sM,ho2.rd sM,rfl,rfl,rfl⟩
  ·refine zU ?_;refine gg ?_;have e : qr key = key := by unfold qr;rw [if_neg oM]
   rw [<- e] at h;exact mid ⟨[],H,a,cap,sM,h,rfl,by rw [e],rfl⟩
 ·rintro D L S ⟨X,W,ka,kc,hW,hr,rfl,rfl,rfl⟩;have hsl := KB key;refine gg ?_;refine zF ?_;refine xI ([x]) dM rfl (rfl) (fun b2 C2 ho2 => ?_);refine cA (repeat8 C2 _ x ho2) ?_;rintro v A ⟨C3,p,cp,rfl,ho3,rfl⟩;refine gA ?_;rw [aZ] at ho3 ⊢;rw [eT x (qr key)] at ho3;refine gg ?_
  refine zM (fun q D L S => ∃ (i : Nat) (C' : zd),i <= (qr key).length /\ Own8 5 C' p 64 cp ((iC 64).map fun j => if j < i then x ^^^ (qr key).getD j 0 else x) /\ q = (qr key).length - i /\ D = [] /\
   L = [(19,.int .i64 i),(18,.int .i64 (qr key).length),(17,.slice ka (qr key).length kc),(5,.slice p 64 cp)] /\ S = [C',F,X,G,H]) ⟨0,C3,oM,ho3,rfl,rfl,rfl,rfl⟩ ?_
  rintro q D L S ⟨i,C',hi,ho,rfl,rfl,rfl,rfl⟩;refine gg ?_;refine if_d (fun hc => ?_) (fun hc => ?_)
  ·refine gg ?_;refine zF ?_;(apply vr ho);(· (repeat (first | with_reducible exact Pick.head _ _ | with_reducible apply Pick.tail)));(· simp;omega);(intro C4 ho4);rw [Wp 64 _ _ i 0 oM,Vr 64 (fun _ => x) (fun j => x ^^^ (qr key).getD j 0) i oM] at ho4;refine gg ?_;exact zI ⟨i + 1,C4,oM,ho4,rfl,rfl,rfl,rfl⟩
  ·refine gg ?_;obtain rfl : i = (qr key).length := oM;rw [pad_end _ _ hsl] at ho;refine ze [C',G,H] ?_;exact ⟨C',p,cp,by rw [qC],by rw [qC];exact ho,rfl⟩
end Go.Proofs.YtebikhhoppiapaaGreatDoor
namespace Go.Proofs.YtebikhhoppiapaaGreatDoor
open Go Go.Ost Go.Sha
structure jJ (C : zd) : Prop where
 g0 : ∃ t m,(0,Obj.cells (rowW first.list) t m) ∈ C
 g1 : ∃ t m,(3,Obj.cells (rowW odd) t m) ∈ C
structure vj (C : zd) : Prop extends jJ C where
 g2 : ∃ t m,(4,Obj.cells (rowW odd) t m) ∈ C
open Tryz
theorem sumS {G : zd} (hg : jJ G) (A B : zd) (a : OA) (n c : Nat) (ls : List L8) (hp : Zg [A ++ B] a n ls) (hnc : n <= c) (hn : n <= 1000000) (hlen : ls.flatten.length <= 1000000) :
  zh prog 133 [.slice a n c] [G,A,B] (New8 5 (xx ls.flatten) [G,A,B]) := by
 obtain ⟨⟨_,m0,h0⟩,⟨_,m1,h1⟩⟩ := hg;exact Kv G A B m0 m1 h0 h1 a n c ls hp hnc hn hlen
theorem refS {G : zd} (hg : vj G) (H : zd) (a : OA) (cap : Nat) (bs : L8) (hb : bs.length <= 1000000) (h : Rd 1 [H] a bs.length (bs.map b8)) :
  zh prog 126 [.slice a bs.length cap] [G,H] (New8 5 (xx bs) [G,H]) := by
 obtain ⟨⟨⟨_,m0,h0⟩,⟨_,m1,h1⟩⟩,⟨_,m2,h2⟩⟩ := hg;exact Ju G H m2 h2 a cap bs hb h
theorem padS {G : zd} (hg : jJ G) (H : zd) (a : OA) (cap : Nat) (key : L8) (hk : key.length <= 100000) (hcap : key.length <= cap) (h : Rd 1 [H] a key.length (key.map b8)) (x : UInt8) :
  zh prog 184 [.slice a key.length cap,b8 x] [G,H] (New8 5 (padK key x) [G,H]) := by
 obtain ⟨⟨_,m0,h0⟩,⟨_,m1,h1⟩⟩ := hg;exact pad_spec G H m0 m1 h0 h1 a cap key hk hcap h x
theorem XW {G : zd} (hg : vj G) (H : zd) (a : OA) (cap : Nat) (key : L8) (hk : key.length <= 100000) (hcap : key.length <= cap) (h : Rd 1 [H] a key.length (key.map b8)) (x : UInt8) :
  zh prog 191 [.slice a key.length cap,b8 x] [G,H] (New8 5 (padK key x) [G,H]) := by
 refine eN func191 ntmps191 results191 fun F => ?_
 (with_reducible refine zS ?_);refine ez ?_;(with_reducible refine jN ?_);(with_reducible refine qL ?_)
 refine dJ (fun D L S => ∃ (X W : zd) (ka : OA) (kc : Nat),W ∈ [X,G,H] /\ Rd 1 [W] ka (qr key).length ((qr key).map b8) /\ D = [] /\ L = [(0,.slice ka (qr key).length kc),(1,b8 x)] /\ S = [F,X,G,H]) ?_ ?_
 ·refine gg ?_;refine if_d (fun hc => ?_) (fun hc => ?_)
  ·refine gg ?_;refine cA (refS hg H a cap key oM h) ?_;rintro v A ⟨C2,a2,c2,rfl,ho2,rfl⟩;refine gA ?_;have e : qr key = xx key := by unfold qr;rw [if_pos oM]
   rw [<- e] at ho2 ⊢;exact mid ⟨C2,C2,a2,c2,sM,ho2.rd sM,rfl,rfl,rfl⟩
  ·refine zU ?_;refine gg ?_;have e : qr key = key := by unfold qr;rw [if_neg oM]
   rw [<- e] at h;exact mid ⟨[],H,a,cap,sM,h,rfl,by rw [e],rfl⟩
 ·rintro D L S ⟨X,W,ka,kc,hW,hr,rfl,rfl,rfl⟩;have hsl := KB key;refine gg ?_;refine zF ?_;refine fE (n := 64) dM (fun b2 C2 ho2 => ?_);refine gg ?_;refine xd fun K hK => ?_
  refine XT (l := 0) ho2 pkA (hr.mem mmA) (WN _) dM (fun _ => by simp [Addr.add]) (fun C3 ho3 => ?_);refine hK _ _ ?_;clear hK K
  have e3 : ((aU 64 (0 : UInt8)).map b8).take 0 ++ (((qr key).map b8).take (min (qr key).length 64) ++ ((aU 64 (0 : UInt8)).map b8).drop (0 + min (qr key).length 64)) =
    ((iC 64).map fun i => if i < 0 then (qr key).getD i 0 ^^^ x else (qr key).getD i 0).map b8 := by
   rw [<- IU _ _ hsl,Nat.min_eq_left hsl,List.take_zero,aD,lE sM,iT,<- List.map_drop,List.drop_replicate,lL]
  rw [e3] at ho3;refine gg ?_;generalize (some (⟨b2,0,none⟩ : Addr)) = p at *
  refine zM (fun q D L S => ∃ (i : Nat) (C' : zd),i <= 64 /\ Own8 5 C' p 64 64 ((iC 64).map fun j => if j < i then (qr key).getD j 0 ^^^ x else (qr key).getD j 0) /\ q = 64 - i /\ D = [] /\
   L = [(18,.int .i64 i),(17,.int .i64 64),(1,b8 x),(5,.slice p 64 64)] /\ S = [C',F,X,G,H]) ⟨0,C3,oM,ho3,rfl,rfl,rfl,rfl⟩ ?_
  rintro q D L S ⟨i,C',hi,ho,rfl,rfl,rfl,rfl⟩;refine gg ?_;refine if_d (fun hc => ?_) (fun hc => ?_)
  ·refine gg ?_;refine zF ?_;(apply vr ho);(· (repeat (first | with_reducible exact Pick.head _ _ | with_reducible apply Pick.tail)));(· simp;omega);(intro C4 ho4);rw [Wp 64 _ _ i 0 oM,Vr 64 (fun j => (qr key).getD j 0) (fun j => (qr key).getD j 0 ^^^ x) i oM] at ho4;refine gg ?_;exact zI ⟨i + 1,C4,oM,ho4,rfl,rfl,rfl,rfl⟩
  ·refine gg ?_;obtain rfl : i = 64 := oM;rw [turn_end] at ho;refine ze [C',G,H] ?_;exact ⟨C',p,64,by rw [qC],by rw [qC];exact ho,rfl⟩
theorem yW {G : zd} (hg : vj G) (H T : zd) (a ta : OA) (cap tc : Nat) (key text : L8) (hk : key.length <= 100000) (hcap : key.length <= cap) (h : Rd 1 [H] a key.length (key.map b8))
  (ht : text.length <= 100000) (hr : Rd 1 [T] ta text.length (text.map b8)) :
  zh prog 136 [.slice a key.length cap,.slice ta text.length tc] [G,H,T] (New8 5 (mac key text) [G,H,T]) := by
 have hl : ∀ x,(padK key x).length = 64 := qC key;have hd : ∀ m,(xx m).length = 32 := qS;refine eNg func136 ntmps136 results136 fun F => ?_
 refine cA (XW hg H a cap key hk hcap h 92) ?_;rintro v A ⟨C1,a1,c1,rfl,ho1,rfl⟩;refine gA ?_;refine cA (XW hg H a cap key hk hcap h 54) ?_;rintro v A ⟨C2,a2,c2,rfl,ho2,rfl⟩;refine gA ?_;refine zF ?_;refine app8 (ho2) pkA (hr.mem mmA) (by rw [hl];omega) (fun C3 a3 cap3 ho3 => ?_);refine gg ?_;rw [<- aB] at ho3 ⊢;refine cA (refS hg C3 a3 _ (padK key 54 ++ text) (by rw [aB,hl];omega) (ho3.rd sM)) ?_;rintro v A ⟨C4,a4,c4,rfl,ho4,rfl⟩;refine gA ?_;refine zF ?_;refine app8 (ho1) pkA (ho4.rd mmA) (by rw [hl,hd];omega) (fun C5 a5 cap5 ho5 => ?_);refine gg ?_;rw [<- aB] at ho5 ⊢;refine cA (refS hg C5 a5 _ (padK key 92 ++ xx (padK key 54 ++ text)) (by rw [aB,hl,hd];omega) (ho5.rd sM)) ?_;rintro v A ⟨C6,a6,c6,rfl,ho6,rfl⟩;refine gA ?_;refine ze [C6,G,H,T] ?_;exact ⟨C6,a6,c6,rfl,ho6,rfl⟩
theorem sumS3 {G : zd} (hg : jJ G) (A B D : zd) (a : OA) (n c : Nat) (ls : List L8) (hp : Zg [A ++ (B ++ D)] a n ls) (hnc : n <= c) (hn : n <= 1000000) (hlen : ls.flatten.length <= 1000000) :
  zh prog 133 [.slice a n c] [G,A,B,D] (New8 5 (xx ls.flatten) [G,A,B,D]) := by
 obtain ⟨⟨_,m0,h0⟩,⟨_,m1,h1⟩⟩ := hg;exact du G A B D m0 m1 h0 h1 a n c ls (by rw [aN];exact hp) hnc hn hlen
theorem Un {G : zd} (hg : jJ G) (H W : zd) (a ta : OA) (cap n tc : Nat) (key : L8) (ls : List L8) (hk : key.length <= 100000) (hcap : key.length <= cap) (h : Rd 1 [H] a key.length (key.map b8))
  (hp : Zg [W] ta n ls) (hnc : n <= tc) (hn : n <= 1000) (hl : ls.flatten.length <= 100000) :
  zh prog 132 [.slice a key.length cap,.slice ta n tc] [G,H,W] (New8 5 (mac key ls.flatten) [G,H,W]) := by
 have hpl : ∀ x,(padK key x).length = 64 := qC key;have hd : ∀ m,(xx m).length = 32 := qS;refine eNg func132 ntmps132 results132 fun F => ?_
 refine cA (padS hg H a cap key hk hcap h 54) ?_;rintro v A ⟨C1,a1,c1,rfl,ho1,rfl⟩;refine gA ?_;refine cA (yo [W] ta n tc ls hp hnc oM oM) ?_;rintro v A ⟨C2,a2,c2,rfl,hle2,hr2,_,rfl⟩;refine gA ?_;refine zF ?_;refine jE rfl [.slice a1 (padK key 54).length c1,.slice a2 ls.flatten.length c2] dM rfl rfl (by simp [Value.cell1]) (fun b3 C3 ho3 => ?_);refine cA (sumS3 hg C3 C1 C2 _ 2 2 [padK key 54,ls.flatten] (XM ho3 ((vals_nil.snoc ho1.1 ((ho1.rd (S := [C1]) sM).wide1 C2)).snoc hle2 (hr2.wide2 C1))) dM dM (by simp only [aO,iS,aL,aB,hpl];omega)) ?_;rintro v A ⟨C4,a4,c4,rfl,ho4,rfl⟩;refine gA ?_;have e4 : [padK key 54,ls.flatten].flatten = padK key 54 ++ ls.flatten := sM;rw [e4] at ho4 ⊢;refine cA (padS hg H a cap key hk hcap h 92) ?_;rintro v A ⟨C5,a5,c5,rfl,ho5,rfl⟩;refine gA ?_;refine zF ?_;refine jE rfl [.slice a5 (padK key 92).length c5,.slice a4 (xx (padK key 54 ++ ls.flatten)).length c4] dM rfl rfl (by simp [Value.cell1]) (fun b6 C6 ho6 => ?_);refine cA (sumS3 hg C6 C5 C4 _ 2 2 [padK key 92,xx (padK key 54 ++ ls.flatten)] (XM ho6 ((vals_nil.snoc ho5.1 ((ho5.rd (S := [C5]) sM).wide1 C4)).snoc ho4.1 ((ho4.rd (S := [C4]) sM).wide2 C5))) dM dM (by simp only [aO,iS,aL,aB,hpl,hd];omega)) ?_;rintro v A ⟨C7,a7,c7,rfl,ho7,rfl⟩;refine gA ?_;have e7 : xx [padK key 92,xx (padK key 54 ++ ls.flatten)].flatten = mac key ls.flatten := by simp [mac]
 rw [e7] at ho7 ⊢;refine ze [C7,G,H,W] ?_;exact ⟨C7,a7,c7,rfl,ho7,rfl⟩
theorem or_zero8 (a b : UInt8) : a ||| b = 0 ↔ a = 0 /\ b = 0 := by
 constructor
 ·intro h;have h1 : a.toBitVec ||| b.toBitVec = 0#8 := by rw [<- UInt8.toBitVec_or,h];rfl
  have key : ∀ x y : BitVec 8,x ||| y = 0#8 -> x = 0#8 /\ y = 0#8 := by
   intro x y e
   constructor
   ·apply BitVec.eq_of_getLsbD_eq;intro i hi
    have := congrArg (fun v => v.getLsbD i) e
    simp at this ⊢;exact this.1
   ·apply BitVec.eq_of_getLsbD_eq;intro i hi
    have := congrArg (fun v => v.getLsbD i) e
    simp at this ⊢;exact this.2
  obtain ⟨k1,k2⟩ := key _ _ h1;exact ⟨UInt8.toBitVec_inj.1 k1,UInt8.toBitVec_inj.1 k2⟩
 ·rintro ⟨rfl,rfl⟩;rfl
theorem xor_zero8 (a b : UInt8) : a ^^^ b = 0 ↔ a = b := by
 constructor
 ·intro h;have : (a ^^^ b) ^^^ b = 0 ^^^ b := by rw [h]
  rw [UInt8.xor_assoc,UInt8.xor_self,UInt8.xor_zero,UInt8.zero_xor] at this;exact this
 ·rintro rfl;exact UInt8.xor_self
theorem fw (n m : Nat) : (if (m : Int) < (n : Int) then (m : Int) else (n : Int)) = ((min n m : Nat) : Int) := by split <;> omega
theorem VZ (A B : zd) (a b : OA) (ca cb : Nat) (xs ys : L8) (hx : xs.length <= 100000) (hy : ys.length <= 100000) (h1 : Rd 1 [A] a xs.length (xs.map b8)) (h2 : Rd 1 [B] b ys.length (ys.map b8)) :
  zh prog 118 [.slice a xs.length ca,.slice b ys.length cb] [A,B] fun v S => v = .bool (xs == ys) /\ S = [A,B] := by
 refine eNg func118 ntmps118 results118 fun F => ?_
 refine if_nb (fun hc => ?_) (fun hc => ?_)
 ·refine gg ?_;refine ze [A,B] ?_;refine ⟨?_,rfl⟩;have : xs ≠ ys := fun e => hc (by rw [e])
  rw [beq_eq_false_iff_ne.2 this]
 ·refine gg ?_;have hl : xs.length = ys.length := oM
  refine zM (fun q D L S => ∃ (i : Nat) (z : UInt8),i <= xs.length /\ (z = 0 ↔ xs.take i = ys.take i) /\ q = xs.length - i /\ D = [] /\
   L = [(14,.int .i64 i),(13,.int .i64 xs.length),(0,.slice a xs.length ca),(1,.slice b ys.length cb),(5,b8 z)] /\ S = [F,A,B]) ⟨0,0,oM,sM,rfl,rfl,rfl,rfl⟩ ?_
  rintro q D L S ⟨i,z,hi,hz,rfl,rfl,rfl,rfl⟩;refine gg ?_;refine if_d (fun hc => ?_) (fun hc => ?_)
  ·refine gg ?_;refine cdLg [[0],[1],[2],[3],[4],[5],[6],[7],[8],[9],[10],[11,0]] ?_;refine gg ?_;refine zI ⟨i + 1,z ||| (xs.getD i 0 ^^^ ys.getD i 0),oM,?_,rfl,rfl,rfl,rfl⟩;rw [or_zero8,xor_zero8,hz,wV xs i oM,wV ys i oM]
   constructor
   ·rintro ⟨e1,e2⟩;rw [e1,e2]
   ·intro e;have e3 := List.append_inj e (by simp;omega);exact ⟨e3.1,by simpa using e3.2⟩
  ·refine gg ?_;obtain rfl : i = xs.length := oM;refine ze [A,B] ?_;refine ⟨?_,rfl⟩
   congr 1
   rw [iK,hl,iK] at hz
   by_cases e : xs = ys
   ·rw [hz.2 e,e];simp
   ·rw [beq_eq_false_iff_ne.2 e];have : z.toNat ≠ 0 := fun h0 => e (hz.1 (UInt8.toNat_inj.1 h0))
    rw [beq_eq_false_iff_ne];omega
theorem xor_spec (A B : zd) (a b : OA) (ca cb : Nat) (xs ys : L8) (hx : xs.length <= 100000) (hy : ys.length <= 100000) (h1 : Rd 1 [A] a xs.length (xs.map b8)) (h2 : Rd 1 [B] b ys.length (ys.map b8)) :
  zh prog 228 [.slice a xs.length ca,.slice b ys.length cb] [A,B] (New8 5 (xorB xs ys) [A,B]) := by
 refine eNg func228 ntmps228 results228 fun F => ?_
 rw [fw];refine zU ?_;have hm : min xs.length ys.length <= xs.length /\ min xs.length ys.length <= ys.length := ⟨Nat.min_le_left _ _,Nat.min_le_right _ _⟩;have hxl := yu xs ys
 refine zM (fun q D L S => ∃ (i : Nat) (C : zd) (p : OA) (cp : Nat),i <= min xs.length ys.length /\ Own8 5 C p ((xorB xs ys).take i).length cp ((xorB xs ys).take i) /\ q = min xs.length ys.length - i /\ D = [] /\
  L = [(12,.int .i64 i),(11,.int .i64 (min xs.length ys.length : Nat)),(0,.slice a xs.length ca),(1,.slice b ys.length cb),(5,.slice p ((xorB xs ys).take i).length cp)] /\ S = [C,F,A,B]) ⟨0,[],none,0,oM,zJ,rfl,rfl,rfl,rfl⟩ ?_
 rintro q D L S ⟨i,C,p,cp,hi,ho,rfl,rfl,rfl,rfl⟩;refine gg ?_;refine if_d (fun hc => ?_) (fun hc => ?_)
 ·refine gg ?_;refine cdLg [[0],[1],[2],[3],[4],[5],[6],[7],[8],[9],[10,0],[11,0],[12,0]] ?_;refine zG ?_;refine xI [xs.getD i 0 ^^^ ys.getD i 0] dM rfl rfl (fun b1 C1 ho1 => ?_);refine gg ?_;refine zG ?_;refine app8 ho pkA (ho1.rd mmA) (by simp;omega) (fun C2 a2 cap2 ho2 => ?_);rw [<- cU xs ys i oM] at ho2;have el : ((xorB xs ys).take i).length + 1 = ((xorB xs ys).take (i + 1)).length := by rw [aX,aX];omega
  rw [el] at ho2 ⊢;refine gg ?_;refine gg ?_;exact zI ⟨i + 1,C2,a2,cap2,oM,ho2,rfl,rfl,rfl,rfl⟩
 ·refine gg ?_;obtain rfl : i = min xs.length ys.length := oM;rw [lE oM] at ho ⊢;refine ze [C,A,B] ?_;exact ⟨C,p,cp,rfl,ho,rfl⟩
instance iQN0_1 : xi prog 383 [(0,8),(8,1),(9,1)] := ⟨kM⟩
abbrev yM (l : List W) (v : Value) (n : Nat) : Obj := .cells (rowX l [v,.int .u64 n]) 383 (0,0)
theorem new_spec {t0 : TypeId} (G : zd) (m0 : Nat × Nat) (hG0 : (0,Obj.cells (rowW first.list) t0 m0) ∈ G) : zh prog 255 [] [G] fun v A => ∃ b,v = pT b /\ A = [[(b,yM first.list nS 0)],G] := by
 refine eN func255 ntmps255 results255 fun F => ?_
 refine zg fun N1 hN1 => ?_
 refine rgE ?_;refine hN1 _ _ _ ?_;clear hN1;refine zg fun N2 hN2 => ?_
 refine jU ?_;refine xd fun K hK => ?_
 refine vt (l := first.list) (by (repeat (first | with_reducible exact Lies.one | with_reducible exact Lies.here (by assumption) | with_reducible apply Lies.next))) (St.list_len _) ?_;refine hK _ _ ?_;clear hK K;refine xd fun K hK => ?_
 rw [zX (ps := [(0,.agg (rowW first.list))]) (cs := rowX first.list [nS,.int .u64 0]) rfl];refine hK _ _ ?_;clear hK K;refine xd fun K hK => ?_
 refine Xr fun b => ?_
 rw [show (Value.agg (rowX first.list [nS,.int .u64 0])).cells = rowX first.list [nS,.int .u64 0] from rfl];refine hK _ _ ?_;clear hK K;refine rnE ?_;refine hN2 _ _ _ ?_;clear hN2;refine xr ?_;exact yV [[(b,yM first.list nS 0)],G] (by (try simp only [evT,zj,zi,aJ]);(first | done | exact rfl)) ⟨b,rfl,rfl⟩ amA
theorem IP {t1 : TypeId} (G C H : zd) (m1 : Nat × Nat) (hG1 : (3,Obj.cells (rowW odd) t1 m1) ∈ G) (b n : Nat) (s : St) (ar ap : OA) (cr cp : Nat) (rest p : L8) (hn : n <= 4611686018427387904) (hr : rest.length <= 1000000) (hp : p.length <= 1000000)
  (ho : Own8 5 C ar rest.length cr rest) (h : Rd 1 [H] ap p.length (p.map b8)) :
  zh prog 248 [pT b,.slice ap p.length cp] [G,[(b,yM s.list (.slice ar rest.length cr) n)],C,H]
   fun v A => v = .int .i64 p.length /\ ∃ C' a' c',Own8 5 C' a' ((rest ++ p).drop (64 * ((rest ++ p).length / 64))).length c' ((rest ++ p).drop (64 * ((rest ++ p).length / 64))) /\
    A = [G,[(b,yM (Go.Sha.whole s (rest ++ p)).list (.slice a' ((rest ++ p).drop (64 * ((rest ++ p).length / 64))).length c') (n + p.length))],C',H] := by
 refine eN func248 ntmps248 results248 fun F => ?_
 refine zg fun N1 hN1 => ?_
 refine rgE ?_;refine hN1 _ _ _ ?_;clear hN1;refine zg fun N2 hN2 => ?_
 refine zg fun N3 hN3 => ?_
 refine rgE ?_;refine hN3 _ _ _ ?_;clear hN3;refine wq (by (try simp only [evT,zj,zi,aJ]);(first | done | exact rfl)) (zP ?_);refine hN2 _ _ _ ?_;clear hN2;refine zg fun N5 hN5 => ?_
 refine Xg ?_;(try refine qj ?_);refine hN5 _ _ _ ?_;clear hN5;refine zg fun N6 hN6 => ?_
 refine Xg ?_;(try refine qj ?_);refine zF ?_;refine app8 (ho) pkA (h.mem mmA) oM (fun C1 a1 cap1 ho1 => ?_)
 (try refine Yz ?_);(try refine qj ?_)
 refine hN6 _ _ _ ?_;clear hN6;rw [show ((n : Int) + (p.length : Int)) = ((n + p.length : Nat) : Int) from oM,show rest.length + p.length = (rest ++ p).length from List.length_append.symm];rw [show rest.length + p.length = (rest ++ p).length from List.length_append.symm] at ho1;have hTl : (rest ++ p).length <= 2000000 := by rw [aB];omega
 generalize rest ++ p = T at ho1 hTl ⊢;generalize n + p.length = N;refine zg fun N7 hN7 => ?_
 refine zr ?_
 refine xL (fun q D L S => ∃ (i : Nat) (a' : OA) (c' : Nat),64 * i <= T.length /\ (T.drop (64 * i)).length <= c' /\ Rd 1 [C1] a' (T.drop (64 * i)).length ((T.drop (64 * i)).map b8) /\ q = T.length - 64 * i /\ D = [] /\ L = [(0,pT b),(1,.slice ap p.length cp)] /\
  S = [C1,F,G,[(b,yM (run i s T).list (.slice a' (T.drop (64 * i)).length c') N)],H]) ?_ ?_
 ·exact ⟨_,_,_,⟨0,a1,cap1,oM,ho1.1,ho1.rd (aA ..),rfl,rfl,rfl,rfl⟩,by (repeat (first | exact True.intro | (refine aF ?_ ?_;(· (try simp only [evT,zj,zi,aJ]);(first | done | exact rfl))))),amA⟩
 ·rintro q D L S ⟨i,a',c',hi,hc',hr',rfl,rfl,rfl,rfl⟩;have hdl : (T.drop (64 * i)).length = T.length - 64 * i := aV;refine zg fun N8 hN8 => ?_
  refine zg fun N9 hN9 => ?_
  refine Xg ?_;(try refine qj ?_);refine hN9 _ _ _ ?_;clear hN9;refine jH (fun hc => ?_) (fun hc => ?_)
  ·have hc := of_decide_eq_true hc;have hcut : Rd 1 [C1] (cutA 1 a' 0 c') 64 (((T.drop (64 * i)).take 64).map b8) := kz hr' (l := 0) (h' := 64) (m := c') oM oM oM
   have e64 : (T.drop (64 * i)).length - 64 = (T.drop (64 * (i + 1))).length := by
    rw [aV,aV];show T.length - 64 * i - 64 = _;omega
   have hr2 : Rd 1 [C1] (cutA 1 a' 64 c') (T.drop (64 * (i + 1))).length ((T.drop (64 * (i + 1))).map b8) := by
    have q := kz hr' (l := 64) (h' := (T.drop (64 * i)).length) (m := c') oM (aR _) hc';rw [mQ,show 64 * i + 64 = 64 * (i + 1) from oM,lE (by rw [aV];omega)] at q;rw [<- e64];exact q
   have hc2 : (T.drop (64 * (i + 1))).length <= c' - 64 := by
    rw [aV];show _ <= c' - 64;omega
   refine zP ?_;refine hN8 _ _ _ ?_;clear hN8;refine zr ?_;refine zg fun N10 hN10 => ?_
   refine cdL [[0],[1],[2],[3],[4],[5],[6],[7],[8,0]] ?_
   (try refine yG ?_);(try refine zx ?_)
   refine zG ?_;refine xX (Jb G C1 m1 hG1 b 383 (run i s T) _ (cutA 1 a' 0 c') (c' - 0) oM ((T.drop (64 * i)).take 64) (by rw [aX];omega) hcut) tkA ?_;rintro v A ⟨rfl,rfl⟩;(try simp only [aD,aC]);rw [<- Zr]
   (try refine jj ?_);(try refine zx ?_)
   refine hN10 _ _ _ ?_;clear hN10;refine Xg ?_;(try refine qj ?_);rw [e64];exact zI ⟨i + 1,_,_,oM,hc2,hr2,rfl,rfl,rfl,rfl⟩
  ·have hc := of_decide_eq_false hc;refine zZ ?_;try simp only [Cont.then,Cont.block,Cont.noGoto,reduceIte,aP];refine hN7 _ _ _ ?_;clear hN7;have hi2 : i = T.length / 64 := oM;subst hi2;refine zg fun N11 hN11 => ?_
   refine Xg ?_;(try refine qj ?_);refine cA (jl C1 a' c' _ oM hr') ?_;rintro v A ⟨C2,a2,cap2,rfl,ho2,rfl⟩;(try simp only [aD,aC])
   (try refine Yz ?_);(try refine qj ?_)
   refine hN11 _ _ _ ?_;clear hN11;refine zg fun N12 hN12 => ?_
   refine rgE ?_;refine hN12 _ _ _ ?_;clear hN12;refine xr ?_;exact yV [G,[(b,yM (Go.Sha.whole s T).list (.slice a2 (T.drop (64 * (T.length / 64))).length cap2) N)],C2,H] (by (try simp only [evT,zj,zi,aJ]);(first | done | exact rfl)) ⟨rfl,C2,a2,cap2,ho2,rfl⟩ amA
theorem fT {t1 : TypeId} (G C : zd) (m1 : Nat × Nat) (hG1 : (3,Obj.cells (rowW odd) t1 m1) ∈ G) (b n : Nat) (s : St) (ar : OA) (cr : Nat) (rest : L8) (hn : n < 2305843009213693952) (hr : rest.length <= 1000000) (hmod : (rest.length + (pad n).length) % 64 = 0)
  (ho : Rd 1 [C] ar rest.length (rest.map b8)) :
  zh prog 249 [pT b] [G,[(b,yM s.list (.slice ar rest.length cr) n)],C]
   (New8 5 (Go.Sha.whole s (rest ++ pad n)).bytes [G,[(b,yM s.list (.slice ar rest.length cr) n)],C]) := by
 have hpl : (pad n).length <= 72 := by rw [Xi,kf];omega
 refine eN func249 ntmps249 results249 fun F => ?_
 refine zg fun N1 hN1 => ?_
 refine rgE ?_;refine hN1 _ _ _ ?_;clear hN1;refine zg fun N2 hN2 => ?_
 refine zg fun N3 hN3 => ?_
 refine rgE ?_;refine hN3 _ _ _ ?_;clear hN3;refine wq (by (try simp only [evT,zj,zi,aJ]);(first | done | exact rfl)) (zP ?_);refine hN2 _ _ _ ?_;clear hN2;refine zg fun N5 hN5 => ?_
 refine rgE ?_;refine xd fun K hK => ?_
 refine load_rx lkA (St.list_len _) ?_;refine hK _ _ ?_;clear hK K;refine zF ?_;refine zC fun b3 => ?_;(try simp only [Value.cells])
 refine xd fun K hK => ?_
 refine qU (l := aU 8 0) (l' := s.list) (by (repeat (first | exact Upd.one | apply Upd.next))) aZ (St.list_len _) ?_;refine hK _ _ ?_;clear hK K;refine rnE ?_;refine hN5 _ _ _ ?_;clear hN5;refine zg fun N6 hN6 => ?_
 refine cdL [[0],[1],[2],[3],[5],[6],[7],[8],[4,0,8],[9,0],[10,0],[11,0]] ?_
 (try refine yG ?_);(try refine zx ?_)
 refine zG ?_;refine xX (jl C ar cr rest oM ho) tkA ?_;rintro v A ⟨C4,a4,cap4,rfl,ho4,rfl⟩;(try simp only [aD,aC]);(repeat refine pendh ?_)
 (try refine yG ?_);(try refine zx ?_)
 refine zG ?_;refine xX (WC n hn) tkA ?_;rintro v A ⟨C5,a5,cap5,rfl,ho5,rfl⟩;(try simp only [aD,aC])
 (try refine yG ?_);(try refine zx ?_)
 refine vx (by simp only [iP,iD,iJ];rfl) fun K hK => ?_;(try simp only [gos,gob,aJ,if_true,reduceIte,reduceCtorEq,iN,aP,iQ,iF,lJ,lK,iV,iW,iM,iX,iY,iZ,lA,lB,lC,aW,iI,goq]);(try (simp (disch := omega) only [gow,gobw];try simp only [gos,gob,aJ,if_true,reduceIte,reduceCtorEq,iN,aP,iQ,iF,lJ,lK,iV,iW,iM,iX,iY,iZ,lA,lB,lC,aW,iI,goq]));refine app8 ho4 pkA (ho5.rd mmA) oM (fun C6 a6 cap6 ho6 => ?_);refine hK _ _ ?_;clear hK K
 (try refine yG ?_);(try refine zx ?_)
 refine wL fun K hK => ?_;refine pBk hK ?_;clear hK K
 (try refine yG ?_);(try refine zx ?_)
 refine hN6 _ _ _ ?_;clear hN6;rw [show rest.length + (pad n).length = (rest ++ pad n).length from List.length_append.symm];rw [show rest.length + (pad n).length = (rest ++ pad n).length from List.length_append.symm] at ho6 hmod;have hTl : (rest ++ pad n).length <= 2000000 := by rw [aB];omega
 generalize rest ++ pad n = T at ho6 hTl hmod ⊢;rw [show rowW s.list = rowX s.list [] from by simp [rowW,rowX]];refine zg fun N7 hN7 => ?_
 refine zr ?_
 refine xL (fun q D L S => ∃ (i : Nat) (a' : OA) (c' : Nat),64 * i <= T.length /\ (T.drop (64 * i)).length <= c' /\ Rd 1 [C6] a' (T.drop (64 * i)).length ((T.drop (64 * i)).map b8) /\ q = T.length - 64 * i /\ D = [] /\ L = [(4,.slice a' (T.drop (64 * i)).length c'),(3,pT b3)] /\
  S = [C6,C,[(b3,.cells (rowX (run i s T).list []) 321 (0,0))],F,G,[(b,yM s.list (.slice ar rest.length cr) n)]]) ?_ ?_
 ·exact ⟨_,_,_,⟨0,a6,cap6,oM,ho6.1,ho6.rd (aA ..),rfl,rfl,rfl,rfl⟩,by (repeat (first | exact True.intro | (refine aF ?_ ?_;(· (try simp only [evT,zj,zi,aJ]);(first | done | exact rfl))))),amA⟩
 ·rintro q D L S ⟨i,a',c',hi,hc',hr',rfl,rfl,rfl,rfl⟩;have hdl : (T.drop (64 * i)).length = T.length - 64 * i := aV;refine zg fun N8 hN8 => ?_
  refine zg fun N9 hN9 => ?_
  refine rgE ?_;refine hN9 _ _ _ ?_;clear hN9;refine jH (fun hc => ?_) (fun hc => ?_)
  ·have hc := of_decide_eq_true hc;have hcut : Rd 1 [C6] (cutA 1 a' 0 c') 64 (((T.drop (64 * i)).take 64).map b8) := kz hr' (l := 0) (h' := 64) (m := c') oM oM oM
   have e64 : (T.drop (64 * i)).length - 64 = (T.drop (64 * (i + 1))).length := by
    rw [aV,aV];show T.length - 64 * i - 64 = _;omega
   have hr2 : Rd 1 [C6] (cutA 1 a' 64 c') (T.drop (64 * (i + 1))).length ((T.drop (64 * (i + 1))).map b8) := by
    have q := kz hr' (l := 64) (h' := (T.drop (64 * i)).length) (m := c') oM oM hc';rw [mQ,show 64 * i + 64 = 64 * (i + 1) from oM,lE (by rw [aV];omega)] at q;rw [<- e64];exact q
   have hc2 : (T.drop (64 * (i + 1))).length <= c' - 64 := by
    rw [aV];show _ <= c' - 64;omega
   refine zP ?_;refine hN8 _ _ _ ?_;clear hN8;refine zg fun N10 hN10 => ?_
   refine zr ?_;refine rgE ?_;refine xd fun K hK => ?_
   refine xX (Jb G C6 m1 hG1 b3 321 (run i s T) [] (cutA 1 a' 0 c') (c' - 0) oM ((T.drop (64 * i)).take 64) (by rw [aX];omega) hcut) tkA ?_;rintro v A ⟨rfl,rfl⟩;(try simp only [aD,aC]);refine hK _ _ ?_;clear hK K;rw [<- Zr];refine rnE ?_;refine hN10 _ _ _ ?_;clear hN10;refine rgE ?_;rw [e64];exact zI ⟨i + 1,_,_,oM,hc2,hr2,rfl,rfl,rfl,rfl⟩
  ·have hc := of_decide_eq_false hc;refine zZ ?_;try simp only [Cont.then,Cont.block,Cont.noGoto,reduceIte,aP];refine hN7 _ _ _ ?_;clear hN7;have hi2 : i = T.length / 64 := oM;subst hi2;refine zg fun N11 hN11 => ?_
   refine rgE ?_;refine cA (Va b3 _ _ _ _) ?_;rintro v A ⟨C7,a7,cap7,rfl,ho7,rfl⟩;(try simp only [aD,aC]);refine rnE ?_;refine hN11 _ _ _ ?_;clear hN11;refine xr ?_;refine ze ([C7,G,[(b,yM s.list (.slice ar rest.length cr) n)],C]) ?_;exact ⟨_,_,_,rfl,ho7,rfl⟩
theorem cl (C : zd) (b n : Nat) (s : St) (ar : OA) (cr : Nat) (rest : L8) (hr : rest.length <= 1000000) (ho : Rd 1 [C] ar rest.length (rest.map b8)) :
  zh prog 247 [pT b] [[(b,yM s.list (.slice ar rest.length cr) n)],C]
   fun v A => ∃ b' C' a' c',v = pT b' /\ Own8 5 C' a' rest.length c' rest /\ A = [[(b',yM s.list (.slice a' rest.length c') n)],C',[(b,yM s.list (.slice ar rest.length cr) n)],C] := by
 refine eN func247 ntmps247 results247 fun F => ?_
 refine zg fun N1 hN1 => ?_
 refine rgE ?_;refine hN1 _ _ _ ?_;clear hN1;refine zg fun N2 hN2 => ?_
 refine zg fun N3 hN3 => ?_
 refine rgE ?_;refine hN3 _ _ _ ?_;clear hN3;refine wq (by (try simp only [evT,zj,zi,aJ]);(first | done | exact rfl)) (zP ?_);refine hN2 _ _ _ ?_;clear hN2;refine zg fun N5 hN5 => ?_
 refine rgE ?_;refine xd fun K hK => ?_
 refine load_ra (l := s.list) (r := [.slice ar rest.length cr,.int .u64 n]) lkA (show s.list.length + 2 = 10 from rfl) ?_;refine hK _ _ ?_;clear hK K;refine zF ?_;refine zC fun b3 => ?_;(try simp only [Value.cells])
 refine xd fun K hK => ?_
 refine store_ra (l := aU 8 0) (r := [nS,.int .u64 0]) (l' := s.list) (r' := [.slice ar rest.length cr,.int .u64 n]) (by simp [Value.cell1]) (by (repeat (first | exact Upd.one | apply Upd.next))) (show (aU 8 (0 : W)).length + 2 = 10 from rfl) (show s.list.length + 2 = 10 from rfl) ?_;refine hK _ _ ?_;clear hK K;refine rnE ?_;refine hN5 _ _ _ ?_;clear hN5;refine zg fun N6 hN6 => ?_
 refine Xg ?_;(try refine qj ?_);refine cA (jl C ar cr rest oM ho) ?_;rintro v A ⟨C4,a4,cap4,rfl,ho4,rfl⟩;(try simp only [aD,aC])
 (try refine Yz ?_);(try refine qj ?_)
 refine hN6 _ _ _ ?_;clear hN6;refine zg fun N7 hN7 => ?_
 refine rgE ?_;refine hN7 _ _ _ ?_;clear hN7;refine xr ?_;exact yV [[(b3,yM s.list (.slice a4 rest.length cap4) n)],C4,[(b,yM s.list (.slice ar rest.length cr) n)],C] (by (try simp only [evT,zj,zi,aJ]);(first | done | exact rfl)) ⟨b3,C4,a4,cap4,rfl,ho4,rfl⟩ amA
def ZJ (b : Nat) (all : L8) (a : OA) (c : Nat) : zd := [(b,yM (Go.Sha.whole first all).list (.slice a (all.drop (64 * (all.length / 64))).length c) all.length)]
def left (all : L8) : L8 := all.drop (64 * (all.length / 64))
theorem fi {t0 : TypeId} (G : zd) (m0 : Nat × Nat) (hG0 : (0,Obj.cells (rowW first.list) t0 m0) ∈ G) : zh prog 255 [] [G] fun v A => ∃ b,v = pT b /\ A = [ZJ b [] none 0,G] := new_spec G m0 hG0
theorem WX {t1 : TypeId} (G C H : zd) (m1 : Nat × Nat) (hG1 : (3,Obj.cells (rowW odd) t1 m1) ∈ G) (b : Nat) (all : L8) (ar ap : OA) (cr cp : Nat) (p : L8) (hn : all.length <= 1000000) (hp : p.length <= 1000000)
  (ho : Own8 5 C ar (left all).length cr (left all)) (h : Rd 1 [H] ap p.length (p.map b8)) :
  zh prog 248 [pT b,.slice ap p.length cp] [G,ZJ b all ar cr,C,H]
   fun v A => v = .int .i64 p.length /\ ∃ C' a' c',Own8 5 C' a' (left (all ++ p)).length c' (left (all ++ p)) /\ A = [G,ZJ b (all ++ p) a' c',C',H] := by
 have hW := IP G C H m1 hG1 b all.length (Go.Sha.whole first all) ar ap cr cp (left all) p oM (by unfold left;rw [Zx];omega) hp ho h;unfold left at hW;rw [rest_on,<- Oe,<- aB] at hW;exact hW
theorem ck {t1 : TypeId} (G C : zd) (m1 : Nat × Nat) (hG1 : (3,Obj.cells (rowW odd) t1 m1) ∈ G) (b : Nat) (all : L8) (ar : OA) (cr : Nat) (hn : all.length <= 1000000) (ho : Rd 1 [C] ar (left all).length ((left all).map b8)) :
  zh prog 249 [pT b] [G,ZJ b all ar cr,C] (New8 5 (xx all) [G,ZJ b all ar cr,C]) := by
 have h := fT G C m1 hG1 b all.length (Go.Sha.whole first all) ar cr (left all) oM (by unfold left;rw [Zx];omega) (by have := KY all.length;unfold left;rw [Zx];omega) ho;unfold left at h;rw [<- Oe] at h;exact h
theorem Uw (C : zd) (b : Nat) (all : L8) (ar : OA) (cr : Nat) (hn : all.length <= 1000000) (ho : Rd 1 [C] ar (left all).length ((left all).map b8)) :
  zh prog 247 [pT b] [ZJ b all ar cr,C]
   fun v A => ∃ b' C' a' c',v = pT b' /\ Own8 5 C' a' (left all).length c' (left all) /\ A = [ZJ b' all a' c',C',ZJ b all ar cr,C] :=
 cl C b all.length (Go.Sha.whole first all) ar cr (left all) (by unfold left;rw [Zx];omega) ho
def vd (C : zd) (b : Nat) (all : L8) : Prop := ∃ R a c,Own8 5 R a (left all).length c (left all) /\ C = ZJ b all a c ++ R
theorem newH {G : zd} (hg : jJ G) : zh prog 255 [] [G] fun v A => ∃ b C,v = pT b /\ vd C b [] /\ A = [C,G] := by
 obtain ⟨⟨_,m0,h0⟩,⟨_,m1,h1⟩⟩ := hg;refine (fi G m0 h0).perm sM ?_;rintro v A ⟨b,rfl,rfl⟩;exact ⟨[ZJ b [] none 0,G],List.Perm.refl _,b,_,rfl,⟨[],none,0,zJ,sM⟩,rfl⟩
theorem cV {G : zd} (hg : jJ G) (C H : zd) (b : Nat) (all : L8) (hC : vd C b all) (ap : OA) (cp : Nat) (p : L8) (hn : all.length <= 1000000) (hp : p.length <= 1000000) (h : Rd 1 [H] ap p.length (p.map b8)) :
  zh prog 248 [pT b,.slice ap p.length cp] [G,C,H]
   fun v A => v = .int .i64 p.length /\ ∃ C',vd C' b (all ++ p) /\ A = [G,C',H] := by
 obtain ⟨⟨_,m0,h0⟩,⟨_,m1,h1⟩⟩ := hg;obtain ⟨R,a,c,ho,rfl⟩ := hC;refine (WX G R H m1 h1 b all a ap c cp p hn hp ho h).perm sM ?_;rintro v A ⟨rfl,R',a',c',ho',rfl⟩;exact ⟨[G,ZJ b (all ++ p) a' c' ++ R',H],sM,rfl,_,⟨R',a',c',ho',rfl⟩,rfl⟩
theorem sumH {G : zd} (hg : jJ G) (C : zd) (b : Nat) (all : L8) (hC : vd C b all) (hn : all.length <= 1000000) :
  zh prog 249 [pT b] [G,C] (New8 5 (xx all) [G,C]) := by
 obtain ⟨⟨_,m0,h0⟩,⟨_,m1,h1⟩⟩ := hg;obtain ⟨R,a,c,ho,rfl⟩ := hC;refine (ck G R m1 h1 b all a c hn (ho.rd sM)).perm sM ?_;rintro v A ⟨D,a',c',rfl,ho',rfl⟩;exact ⟨[D,G,ZJ b all a c ++ R],sM,D,a',c',rfl,ho',rfl⟩
theorem copyH (C : zd) (b : Nat) (all : L8) (hC : vd C b all) (hn : all.length <= 1000000) :
  zh prog 247 [pT b] [C] fun v A => ∃ b' C',v = pT b' /\ vd C' b' all /\ A = [C',C] := by
 obtain ⟨R,a,c,ho,rfl⟩ := hC;refine (Uw R b all a c hn (ho.rd sM)).perm sM ?_;rintro v A ⟨b',R',a',c',rfl,ho',rfl⟩;exact ⟨[ZJ b' all a' c' ++ R',ZJ b all a c ++ R],sM,b',_,rfl,⟨R',a',c',ho',rfl⟩,rfl⟩
abbrev macO (bi bo bn : Nat) : Obj := .cells #[pT bi,pT bo,pT bn] 374 (0,0)
def Zh (C : zd) (m : Nat) (key all : L8) : Prop := ∃ bi bo bn Ci Co Cn,vd Ci bi (padK key 54) /\ vd Co bo (padK key 92) /\ vd Cn bn (padK key 54 ++ all) /\ C = [(m,macO bi bo bn)] ++ (Ci ++ (Co ++ Cn))
instance iHE_1 : xi prog 374 [(0,1),(1,1),(2,1)] := ⟨kM⟩
theorem begunH {G : zd} (hg : jJ G) (H : zd) (ap : OA) (cp : Nat) (p : L8) (hp : p.length <= 1000000) (h : Rd 1 [H] ap p.length (p.map b8)) :
  zh prog 246 [.slice ap p.length cp] [G,H] fun v A => ∃ b C,v = pT b /\ vd C b p /\ A = [C,G,H] := by
 refine eNg func246 ntmps246 results246 fun F => ?_
 refine cA (newH hg) ?_;rintro v A ⟨b,C,rfl,hC,rfl⟩;refine gA ?_;refine cA (cV hg C H b [] hC ap cp p sM hp h) ?_;rintro v A ⟨rfl,C',hC',rfl⟩;refine gA ?_;refine ze [C',G,H] ?_;exact ⟨b,C',rfl,hC',rfl⟩
theorem QD (m bi bo : Nat) (vn : Value) (Ci : zd) (key : L8) (hi : vd Ci bi (padK key 54)) :
  zh prog 224 [pT m] [[(m,.cells #[pT bi,pT bo,vn] 374 (0,0))],Ci] fun v A => ∃ b C,vd C b (padK key 54) /\ A = [[(m,macO bi bo b)],Ci,C] := by
 refine eNg func224 ntmps224 results224 fun F => ?_
 refine cA (copyH Ci bi _ hi (by rw [qC];decide)) ?_;rintro v A ⟨b',C',rfl,hC',rfl⟩;refine gA ?_;exact xm [[(m,.cells #[pT bi,pT bo,pT b'] 374 (0,0))],Ci,C'] ⟨b',C',hC',rfl⟩
theorem bD (C : zd) (m : Nat) (key all : L8) (hC : Zh C m key all) :
  zh prog 224 [pT m] [C] fun v A => ∃ C',Zh C' m key [] /\ A = [C'] := by
 obtain ⟨bi,bo,bn,Ci,Co,Cn,hi,ho,hn,rfl⟩ := hC;refine zh.conv [[(m,macO bi bo bn)],Ci,Co,Cn] (QD m bi bo (pT bn) Ci key hi) flA tkA ?_;rintro v A ⟨b,C',hC',rfl⟩;exact ⟨[[(m,macO bi bo b)] ++ (Ci ++ (Co ++ C'))],[[(m,macO bi bo b)],Ci,Co,C'],flA,amA,_,⟨bi,bo,b,Ci,Co,C',hi,ho,by rw [aL];exact hC',rfl⟩,rfl⟩
theorem Uk {G : zd} (hg : jJ G) (m bi bo bn : Nat) (Cn H : zd) (all : L8) (hn : vd Cn bn all) (ha : all.length <= 1000000) (ap : OA) (cp : Nat) (p : L8) (hp : p.length <= 1000000) (h : Rd 1 [H] ap p.length (p.map b8)) :
  zh prog 225 [pT m,.slice ap p.length cp] [G,[(m,macO bi bo bn)],Cn,H] fun v A => v = .int .i64 p.length /\ ∃ C,vd C bn (all ++ p) /\ A = [G,[(m,macO bi bo bn)],C,H] := by
 unfold macO;refine eNg func225 ntmps225 results225 fun F => ?_
 refine cA (cV hg Cn H bn all hn ap cp p ha hp h) ?_;rintro v A ⟨rfl,C',hC',rfl⟩;refine gA ?_;refine ze [G,[(m,.cells #[pT bi,pT bo,pT bn] 374 (0,0))],C',H] ?_;exact ⟨rfl,C',hC',rfl⟩
theorem Uj {G : zd} (hg : jJ G) (C H : zd) (m : Nat) (key all : L8) (hC : Zh C m key all) (ha : all.length <= 900000) (ap : OA) (cp : Nat) (p : L8) (hp : p.length <= 1000000) (h : Rd 1 [H] ap p.length (p.map b8)) :
  zh prog 225 [pT m,.slice ap p.length cp] [G,C,H] fun v A => v = .int .i64 p.length /\ ∃ C',Zh C' m key (all ++ p) /\ A = [G,C',H] := by
 obtain ⟨bi,bo,bn,Ci,Co,Cn,hi,ho,hn,rfl⟩ := hC;refine zh.conv [G,[(m,macO bi bo bn)],Ci,Co,Cn,H] (Uk hg m bi bo bn Cn H _ hn (by rw [aB,qC];omega) ap cp p hp h) flA tkA ?_;rintro v A ⟨rfl,C',hC',rfl⟩;exact ⟨[G,[(m,macO bi bo bn)] ++ (Ci ++ (Co ++ C')),H],[G,[(m,macO bi bo bn)],Ci,Co,C',H],flA,amA,rfl,_,⟨bi,bo,bn,Ci,Co,C',hi,ho,by rw [<- aN];exact hC',rfl⟩,rfl⟩
theorem fo {G : zd} (hg : jJ G) (m bi bo bn : Nat) (Co Cn : zd) (key all : L8) (ho : vd Co bo (padK key 92)) (hn : vd Cn bn all) (ha : all.length <= 1000000) :
  zh prog 226 [pT m] [G,[(m,macO bi bo bn)],Co,Cn] (New8 5 (xx (padK key 92 ++ xx all)) [G,[(m,macO bi bo bn)],Co,Cn]) := by
 have hpl : ∀ x,(padK key x).length = 64 := qC key;have hd : ∀ m,(xx m).length = 32 := qS;unfold macO;refine eNg func226 ntmps226 results226 fun F => ?_
 refine cA (copyH Co bo _ ho (by rw [qC];decide)) ?_;rintro v A ⟨b',C',rfl,hC',rfl⟩;refine gA ?_;refine cA (sumH hg Cn bn _ hn ha) ?_;rintro v A ⟨C2,a2,c2,rfl,ho2,rfl⟩;refine gA ?_;refine cA (cV hg C' C2 b' _ hC' a2 c2 (xx all) (by rw [hpl];decide) (by rw [hd];decide) (ho2.rd sM)) ?_;rintro v A ⟨rfl,C3,hC3,rfl⟩;refine gA ?_;refine cA (sumH hg C3 b' _ hC3 (by rw [aB,hpl,hd];decide)) ?_;rintro v A ⟨C4,a4,c4,rfl,ho4,rfl⟩;refine gA ?_;refine ze [C4,G,[(m,.cells #[pT bi,pT bo,pT bn] 374 (0,0))],Co,Cn] ?_;exact ⟨C4,a4,c4,rfl,ho4,rfl⟩
theorem fj {G : zd} (hg : jJ G) (C : zd) (m : Nat) (key all : L8) (hC : Zh C m key all) (ha : all.length <= 900000) :
  zh prog 226 [pT m] [G,C] (New8 5 (mac key all) [G,C]) := by
 obtain ⟨bi,bo,bn,Ci,Co,Cn,hi,ho,hn,rfl⟩ := hC;refine zh.conv [G,[(m,macO bi bo bn)],Ci,Co,Cn] (fo hg m bi bo bn Co Cn key _ ho hn (by rw [aB,qC];omega)) flA tkA ?_;rintro v A ⟨D,a,c,rfl,hD,rfl⟩;exact ⟨[D,G,[(m,macO bi bo bn)] ++ (Ci ++ (Co ++ Cn))],[D,G,[(m,macO bi bo bn)],Ci,Co,Cn],flA,amA,D,a,c,rfl,hD,rfl⟩
theorem fq {G : zd} (hg : jJ G) (H : zd) (a : OA) (cap : Nat) (key : L8) (hk : key.length <= 100000) (hcap : key.length <= cap) (h : Rd 1 [H] a key.length (key.map b8)) :
  zh prog 222 [.slice a key.length cap] [G,H] fun v A => ∃ m bi bo bn Ci Co Cn,v = pT m /\ vd Ci bi (padK key 54) /\ vd Co bo (padK key 92) /\ vd Cn bn (padK key 54) /\ A = [[(m,macO bi bo bn)],Ci,Co,Cn,G,H] := by
 have hpl : ∀ x,(padK key x).length = 64 := qC key;refine eNg func222 ntmps222 results222 fun F => ?_
 refine cA (padS hg H a cap key hk hcap h 54) ?_;rintro v A ⟨C1,a1,c1,rfl,ho1,rfl⟩;refine gA ?_;refine cA (begunH hg C1 a1 c1 _ (by rw [hpl];decide) (ho1.rd sM)) ?_;rintro v A ⟨bi,Ci,rfl,hi,rfl⟩;refine gA ?_;refine cA (padS hg H a cap key hk hcap h 92) ?_;rintro v A ⟨C2,a2,c2,rfl,ho2,rfl⟩;refine gA ?_;refine cA (begunH hg C2 a2 c2 _ (by rw [hpl];decide) (ho2.rd sM)) ?_;rintro v A ⟨bo,Co,rfl,ho,rfl⟩;refine gA ?_;refine oT [(0,pT bi),(1,pT bo)] #[pT bi,pT bo,.pointer none] ?_;refine oBg fun m => ?_
 refine cA (QD m bi bo (.pointer none) Ci key hi) ?_;rintro v A ⟨bn,Cn,hn,rfl⟩;refine gA ?_;refine ze [[(m,macO bi bo bn)],Ci,Co,Cn,G,H] ?_;exact ⟨m,bi,bo,bn,Ci,Co,Cn,rfl,hi,ho,hn,rfl⟩
theorem fp {G : zd} (hg : jJ G) (H : zd) (a : OA) (cap : Nat) (key : L8) (hk : key.length <= 100000) (hcap : key.length <= cap) (h : Rd 1 [H] a key.length (key.map b8)) :
  zh prog 222 [.slice a key.length cap] [G,H] fun v A => ∃ m C,v = pT m /\ Zh C m key [] /\ A = [C,G,H] := by
 refine zh.conv [G,H] (fq hg H a cap key hk hcap h) flA tkA ?_;rintro v A ⟨m,bi,bo,bn,Ci,Co,Cn,rfl,hi,ho,hn,rfl⟩;exact ⟨[[(m,macO bi bo bn)] ++ (Ci ++ (Co ++ Cn)),G,H],[[(m,macO bi bo bn)],Ci,Co,Cn,G,H],flA,amA,m,_,rfl,⟨bi,bo,bn,Ci,Co,Cn,hi,ho,by rw [aL];exact hn,rfl⟩,rfl⟩
structure Pc where
 bs : L8
 a : OA
 c : Nat
 H : zd
def isPc (blk : Nat -> L8) (pre : List Pc) (x : Pc) : Prop := x.bs = blk pre.length /\ 32 <= x.c /\ Rd 1 [x.H] x.a 32 (x.bs.map b8)
theorem Im (blk : Nat -> L8) (h : ∀ k,(blk k).length = 32) (size k : Nat) (h1 : size <= 32 * k) (h2 : 32 * k < size + 32) (h3 : 1 <= size) : (cat blk k).take size = (cat blk (many size)).take size := by
 have : many size = k := by unfold many;omega
 rw [this]
theorem Uv (blk : Nat -> L8) (hblk : ∀ k,(blk k).length = 32) (size : Nat) (h1 : 1 <= size) (h2 : size <= 128) {f : FuncId} {captured : Array Value} {A : zb}
  (it : Xt prog f [] captured.toList (fun x : Pc => [.slice x.a 32 x.c]) (fun x => x.H) A (isPc blk) (fun _ => False) true) :
  zh prog 181 [.int .i64 size,.func (.func f) #[] captured] A (New8 5 ((cat blk (many size)).take size) A) := by
 have hcl := Kg blk hblk;refine eNg func181 ntmps181 results181 fun F => ?_
 refine oBg fun b2 => ?_
 refine zF ?_;refine zC fun b5 => ?_;(try simp only [Value.cells])
 refine gg ?_;refine zU ?_
 refine JX (by (try simp only [evT,zj,zi,aJ]);(first | done | exact rfl)) it (Kt A [[],[(b5,.cells #[nS] 43 (0,0))],[(b2,.cells #[.int .i64 size] 3 (0,0))],F]) (fun pre C => 32 * pre.length < size /\ ∃ (O : zd) (oa : OA) (oc : Nat),Own8 5 O oa (cat blk pre.length).length oc (cat blk pre.length) /\ C = [O,[(b5,.cells #[.slice oa (cat blk pre.length).length oc] 43 (0,0))],[(b2,.cells #[.int .i64 size] 3 (0,0))],F])
  (fun c pre C => c = .exit 0 /\ size <= 32 * pre.length /\ 32 * pre.length < size + 32 /\ ∃ (O : zd) (oa : OA) (oc : Nat),Own8 5 O oa (cat blk pre.length).length oc (cat blk pre.length) /\ C = [O,[(b5,.cells #[.slice oa (cat blk pre.length).length oc] 43 (0,0))],[(b2,.cells #[.int .i64 size] 3 (0,0))],F])
  (fun _ => ⟨128,dM,fun pre C h => by obtain ⟨h,_⟩ := h;omega⟩) (fun _ => rfl) ⟨by simp;omega,[],none,0,zJ,rfl⟩ ?_ ?_ ?_
 ·rintro l F1 C r pre x ⟨hxb,hxc,hxr⟩ ⟨hlt,O,oa,oc,ho,rfl⟩;have el : (pre ++ [x]).length = pre.length + 1 := sM;have hbs : x.bs.length = 32 := by rw [hxb,hblk]
  (try simp only [aD,aC])
  (try simp only [qP,putT,iN,if_true,reduceIte,Array.toList,mG])
  refine gg ?_;refine ⟨_,zn.refl _,fun r' _ => ?_⟩;refine gg ?_;refine zF ?_;refine app8 ho pkA (hxr.mem mmA) (by rw [hcl];omega) (fun C3 a3 cap3 ho3 => ?_);have e3 : cat blk pre.length ++ x.bs = cat blk (pre ++ [x]).length := by rw [el,cat,hxb]
  have e4 : (cat blk pre.length).length + 32 = (cat blk (pre ++ [x]).length).length := by rw [<- e3,aB,hbs]
  rw [e3,e4] at ho3;rw [e4];refine gg ?_;have e5 := hcl (pre ++ [x]).length;refine if_d (fun hc => ?_) (fun hc => ?_)
  ·refine gg ?_;exact ⟨[C3,[(b5,.cells #[.slice a3 (cat blk (pre ++ [x]).length).length cap3] 43 (0,0))],[(b2,.cells #[.int .i64 size] 3 (0,0))],F,x.H],⟨[C3,[(b5,.cells #[.slice a3 (cat blk (pre ++ [x]).length).length cap3] 43 (0,0))],[(b2,.cells #[.int .i64 size] 3 (0,0))],F],rfl,rfl,oM,oM,C3,a3,cap3,ho3,rfl⟩,amA⟩
  ·refine gg ?_;exact ⟨[C3,[(b5,.cells #[.slice a3 (cat blk (pre ++ [x]).length).length cap3] 43 (0,0))],[(b2,.cells #[.int .i64 size] 3 (0,0))],F,x.H],⟨[C3,[(b5,.cells #[.slice a3 (cat blk (pre ++ [x]).length).length cap3] 43 (0,0))],[(b2,.cells #[.int .i64 size] 3 (0,0))],F],rfl,oM,C3,a3,cap3,ho3,rfl⟩,amA⟩
 ·rintro d pre C hd _;exact hd.elim
 ·rintro d c pre x C hx ⟨rfl,hge,hlt,O,oa,oc,ho,rfl⟩;have e5 := hcl (pre ++ [x]).length;have hoc := ho.1
  (try simp only [aD,aC])
  refine gg ?_
  have hcut : Rd 1 [O] (cutA 1 oa 0 oc) size (((cat blk (many size)).take size).map b8) := by
   have := kz (ho.rd (S := [O]) sM) (l := 0) (h' := size) (m := oc) oM oM oM;rw [List.drop_zero,iI,Im blk hblk size _ hge hlt h1] at this;exact this
  have es : ((cat blk (many size)).take size).length = size := by rw [aX,hcl];unfold many;omega
  have hcl2 := jl O (cutA 1 oa 0 oc) oc ((cat blk (many size)).take size) (by rw [es];omega) (by rw [es];exact hcut);rw [es] at hcl2;refine zF ?_;refine xX hcl2 (by (repeat (first | exact Take.nil _ | with_reducible exact Pick.head _ _ | with_reducible apply Pick.tail | with_reducible apply Take.cons))) ?_;rintro v A' ⟨D1,a1,c1,rfl,ho1,rfl⟩;(try simp only [aD,aC]);refine gg ?_;refine zf (D1 :: A) ?_ (hs := ?_)
  ·exact ⟨D1,a1,c1,rfl,ho1,rfl⟩
  ·refine .cons pkA (.cons (.head _ _) ?_);exact Vd A [O,[(b5,.cells #[.slice oa (cat blk (pre ++ [x]).length).length oc] 43 (0,0))],[(b2,.cells #[.int .i64 size] 3 (0,0))]]
theorem Yr {P : Program} {t : TypeId} {x y : Operand} {j : IntKind} {a n : Int} {κ : Value -> Prop} (h0 : 0 <= n) (h1 : n <= 64) : zk P (do eqGuard .shr t x y (.int .i64 a) (.int j n);binOp .shr t (.int .i64 a) (.int j n)) κ = κ (.int .i64 (a / 2 ^ n.toNat)) :=
 zq (fun w => by
  have e : min n.toNat IntKind.i64.bits = n.toNat := by show min n.toNat 64 = n.toNat;omega
  have h3 : ¬ n < 0 := oM
  show (Op.shift .shr .i64 a j n).run P w = _
  rw [Op.shift,if_neg h3,e]
  show Result.ok (Value.int .i64 (Int.fdiv a (2 ^ n.toNat))) w = _
  rw [Int.fdiv_eq_ediv_of_nonneg _ (Int.le_of_lt (Int.pow_pos dM))]) κ
theorem gd (n : Nat) (hn : n <= 4611686018427387905) : zh prog 227 [.int .i64 n] [] (New8 5 (be 4 n) []) := by
 refine eNg func227 ntmps227 results227 fun F => ?_
 refine zF ?_;rw [Yr dM dM];refine gg ?_;refine zF ?_;rw [Yr dM dM];refine gg ?_;refine zF ?_;rw [Yr dM dM];refine gg ?_;have e1 : ∀ k : Nat,IntKind.u8.wrap ((n : Int) / ((2 ^ k : Nat) : Int)) = ((aG (n / 2 ^ k)).toNat : Int) := fun k => by rw [<- Int.natCast_ediv,ko]
 have e2 : IntKind.u8.wrap (n : Int) = ((aG n).toNat : Int) := ko n;rw [show ((n : Int) / 16777216) = (n : Int) / ((2 ^ 24 : Nat) : Int) from rfl,show ((n : Int) / 65536) = (n : Int) / ((2 ^ 16 : Nat) : Int) from rfl,show ((n : Int) / 256) = (n : Int) / ((2 ^ 8 : Nat) : Int) from rfl,e1,e1,e1,e2];refine zF ?_;refine xI ([aG (n / 2 ^ 24),aG (n / 2 ^ 16),aG (n / 2 ^ 8),aG n]) dM rfl (rfl) (fun b1 C1 ho1 => ?_);refine gg ?_
 have e3 : be 4 n = [aG (n / 2 ^ 24),aG (n / 2 ^ 16),aG (n / 2 ^ 8),aG n] := by
  simp [be,iC,List.range.loop]
 rw [e3];refine ze [C1] ?_;exact ⟨C1,_,4,rfl,ho1,rfl⟩
theorem Xy : ∀ (ls : List L8) (i : Nat) (h : i < ls.length),(ls.take (i + 1)).flatten = (ls.take i).flatten ++ ls[i]
 | [],i,h => by simp at h
 | x :: l,0,h => sM
 | x :: l,i + 1,h => by
  have := Xy l i (by simpa using h);simp only [List.take_succ_cons,aO,List.getElem_cons_succ,aN];rw [<- this]
theorem Xx (ls : List L8) (i : Nat) : (ls.take i).flatten.length <= ls.flatten.length := by
 have := congrArg (fun l => l.flatten.length) (lR i ls);simp only [iL,aB] at this;omega
theorem KZ {G : zd} (hg : jJ G) (bx m : Nat) (Cm W : zd) (key all : L8) (hC : Zh Cm m key all) (pa : OA) (n pc : Nat) (ls : List L8) (hp : Zg [W] pa n ls) (hn : n <= 1000) (hl : ls.flatten.length <= 100000) :
  zh prog 223 [.slice pa n pc,pT bx] [G,[(bx,.cells #[pT m] 347 (0,0))],Cm,W]
   fun v A => ∃ D a c Cm',v = .slice a 32 c /\ Zh Cm' m key ls.flatten /\ Own8 5 D a 32 c (mac key ls.flatten) /\ A = [D,G,[(bx,.cells #[pT m] 347 (0,0))],Cm',W] := by
 obtain ⟨hll,us,hr,hu⟩ := hp;have hul : us.length = n := by have := hr.1;omega
 refine eNg func223 ntmps223 results223 fun F => ?_
 refine cA (bD Cm m key all hC) ?_;rintro v A ⟨C1,hC1,rfl⟩;refine gA ?_
 refine zM (fun q D L S => ∃ (i : Nat) (C' : zd),i <= n /\ Zh C' m key (ls.take i).flatten /\ q = n - i /\ D = [] /\
  L = [(10,.int .i64 i),(9,.int .i64 n),(8,.slice pa n pc),(1,pT bx)] /\ S = [C',F,G,[(bx,.cells #[pT m] 347 (0,0))],W]) ⟨0,C1,oM,hC1,rfl,rfl,rfl,rfl⟩ ?_
 rintro q D L S ⟨i,C',hi,hC',rfl,rfl,rfl,rfl⟩;refine gg ?_;refine if_d (fun hc => ?_) (fun hc => ?_)
 ·have hin : i < n := oM;obtain ⟨p,c,hv,hpc,hpr⟩ := hu i us[i] ls[i] (aE oM) (aE oM);have hui : us[i]? = some (.slice p ls[i].length c) := by rw [aE oM,hv]
  have hle := Xx ls i;have hst := Xy ls i oM;have hle2 := Xx ls (i + 1);rw [hst,aB] at hle2;refine gg ?_;refine cA (Uj hg C' W m key _ hC' oM p c ls[i] oM hpr) ?_;rintro v A ⟨rfl,C2,hC2,rfl⟩;refine gA ?_;rw [<- hst] at hC2;exact zI ⟨i + 1,C2,oM,hC2,rfl,rfl,rfl,rfl⟩
 ·refine gg ?_;obtain rfl : i = n := oM;rw [lE oM] at hC';refine cA (fj hg C' m key _ hC' oM) ?_;rintro v A ⟨D1,a1,c1,rfl,ho1,rfl⟩;refine gA ?_;refine ze [D1,G,[(bx,.cells #[pT m] 347 (0,0))],C',W] ?_;exact ⟨D1,a1,c1,C',rfl,hC',ho1,rfl⟩
theorem once3 {G : zd} (hg : jJ G) (bx m : Nat) (Cm X Y Z : zd) (key all : L8) (hC : Zh Cm m key all) (pa : OA) (n pc : Nat) (ls : List L8) (hp : Zg [X ++ (Y ++ Z)] pa n ls) (hn : n <= 1000) (hl : ls.flatten.length <= 100000) :
  zh prog 223 [.slice pa n pc,pT bx] [G,[(bx,.cells #[pT m] 347 (0,0))],Cm,X,Y,Z]
   fun v A => ∃ D a c Cm',v = .slice a 32 c /\ Zh Cm' m key ls.flatten /\ Own8 5 D a 32 c (mac key ls.flatten) /\ A = [D,G,[(bx,.cells #[pT m] 347 (0,0))],Cm',X,Y,Z] := by
 refine zh.conv [G,[(bx,.cells #[pT m] 347 (0,0))],Cm,X ++ (Y ++ Z)] (KZ hg bx m Cm (X ++ (Y ++ Z)) key all hC pa n pc ls hp hn hl) flA tkA ?_;rintro v A ⟨D,a,c,Cm',rfl,hC',ho,rfl⟩;exact ⟨[D,G,[(bx,.cells #[pT m] 347 (0,0))],Cm',X,Y,Z],[D,G,[(bx,.cells #[pT m] 347 (0,0))],Cm',X ++ (Y ++ Z)],flA,amA,D,a,c,Cm',rfl,hC',ho,rfl⟩
theorem once2 {G : zd} (hg : jJ G) (bx m : Nat) (Cm X Y : zd) (key all : L8) (hC : Zh Cm m key all) (pa : OA) (n pc : Nat) (ls : List L8) (hp : Zg [X ++ Y] pa n ls) (hn : n <= 1000) (hl : ls.flatten.length <= 100000) :
  zh prog 223 [.slice pa n pc,pT bx] [G,[(bx,.cells #[pT m] 347 (0,0))],Cm,X,Y]
   fun v A => ∃ D a c Cm',v = .slice a 32 c /\ Zh Cm' m key ls.flatten /\ Own8 5 D a 32 c (mac key ls.flatten) /\ A = [D,G,[(bx,.cells #[pT m] 347 (0,0))],Cm',X,Y] := by
 refine zh.conv [G,[(bx,.cells #[pT m] 347 (0,0))],Cm,X ++ Y] (KZ hg bx m Cm (X ++ Y) key all hC pa n pc ls hp hn hl) flA tkA ?_;rintro v A ⟨D,a,c,Cm',rfl,hC',ho,rfl⟩;exact ⟨[D,G,[(bx,.cells #[pT m] 347 (0,0))],Cm',X,Y],[D,G,[(bx,.cells #[pT m] 347 (0,0))],Cm',X ++ Y],flA,amA,D,a,c,Cm',rfl,hC',ho,rfl⟩
abbrev boxS (p : Nat) (v : Value) (t : TypeId) : zd := [(p,.cells #[v] t (0,0))]
theorem YW {G : zd} (hg : jJ G) (p1 p2 p3 : Nat) (Hp Hs : zd) (pa sa : OA) (pcap scap : Nat) (pass salt : L8) (rounds : Nat) (hr1 : 1 <= rounds) (hr2 : rounds <= 1000)
  (hp1 : pass.length <= 10000) (hp2 : pass.length <= pcap) (hp3 : Rd 1 [Hp] pa pass.length (pass.map b8)) (hs1 : salt.length <= 10000) (hs2 : salt.length <= scap) (hs3 : Rd 1 [Hs] sa salt.length (salt.map b8)) :
  Xt prog 221 [] [pT p1,pT p2,pT p3] (fun x : Pc => [.slice x.a 32 x.c]) (fun x => x.H)
   [boxS p1 (.slice pa pass.length pcap) 43,boxS p2 (.slice sa salt.length scap) 43,boxS p3 (.int .i64 rounds) 3,G,Hp,Hs]
   (isPc fun k => kA pass salt rounds (k + 1)) (fun _ => False) true := by
 refine JL kM fun l J Jx hN hY C hC => ?_
 obtain ⟨N,hN0,hN⟩ := hN rfl;refine eNg func221 ntmps221 results221 fun F => ?_
 refine cA (fp hg Hp pa pcap pass oM hp2 hp3) ?_;rintro v A ⟨m,C1,rfl,hC1,rfl⟩;refine gA ?_;refine zF ?_;refine zC fun bx => ?_;(try simp only [Value.cells])
 refine gg ?_
 refine zM (fun q D L S => ∃ (pre : List Pc) (C' Cm : zd) (all : L8),J pre C' /\ Zh Cm m pass all /\ q = N + 1 - pre.length /\ D = [] /\
  L = [(7,.int .i64 (pre.length + 1 : Nat)),(6,.func (.func 223) #[] #[pT bx]),(0,.func (.yield l) #[] #[]),(1,pT p1),(2,pT p2),(3,pT p3)] /\
  S = [Cm,C',boxS bx (pT m) 347,F,boxS p1 (.slice pa pass.length pcap) 43,boxS p2 (.slice sa salt.length scap) 43,boxS p3 (.int .i64 rounds) 3,G,Hp,Hs])
  ⟨[],C,C1,[],hC,hC1,rfl,rfl,rfl,rfl⟩ ?_
 rintro q D L S ⟨pre,C',Cm,all,hJ,hCm,rfl,rfl,rfl,rfl⟩;have hpN := hN pre C' hJ;refine gg ?_;refine cdLg [[0],[1],[2],[3,0,1],[4,0],[5,0],[6,0]] ?_;refine dA (gd (pre.length + 1) oM) ?_;rintro v A ⟨C2,a2,c2,rfl,ho2,rfl⟩;refine pD ?_;have hbl : (be 4 (pre.length + 1)).length = 4 := qf _ _;refine gg ?_;refine zG ?_;refine jE rfl [.slice sa salt.length scap,.slice a2 (be 4 (pre.length + 1)).length c2] dM rfl rfl (by simp [Value.cell1]) (fun b3 C3 ho3 => ?_);refine gg ?_;refine dA (once3 hg bx m Cm C3 C2 Hs pass all hCm _ 2 2 [salt,be 4 (pre.length + 1)] (XM ho3 ((vals_nil.snoc hs2 (hs3.wide2 C2)).snoc ho2.1 ((ho2.rd (S := [C2]) sM).wide1 Hs))) dM (by simp only [aO,iS,aL,aB,hbl];omega)) ?_;rintro v A ⟨D1,a1,c1,Cm1,rfl,hCm1,ho1,rfl⟩;refine pD ?_;have e1 : [salt,be 4 (pre.length + 1)].flatten = salt ++ be 4 (pre.length + 1) := sM;rw [e1] at ho1 hCm1;refine gg ?_;refine gg ?_;generalize hu0 : mac pass (salt ++ be 4 (pre.length + 1)) = u0 at *;have hpc : kA pass salt rounds (pre.length + 1) = strT pass u0 u0 (rounds - 1) := by unfold kA;rw [hu0]
 have hul : u0.length = 32 := by rw [<- hu0];exact yi _ _
 refine zU ?_
 refine zM (fun q D L S => ∃ (i : Nat) (X U T Cm' : zd) (all' u t : L8) (ua ta : OA) (uc tc : Nat),i <= rounds - 1 /\ Zh Cm' m pass all' /\ u.length = 32 /\ t.length = 32 /\ Own8 5 U ua 32 uc u /\ T ∈ [U,X] /\ 32 <= tc /\ Rd 1 [T] ta 32 (t.map b8) /\
   kA pass salt rounds (pre.length + 1) = strT pass u t (rounds - 1 - i) /\ q = rounds - 1 - i /\ D = [] /\
  L = [(24,.int .i64 i),(23,.int .i64 ((rounds : Int) - 1)),(8,.slice ua 32 uc),(9,.slice ta 32 tc),(7,.int .i64 (pre.length + 1 : Nat)),(6,.func (.func 223) #[] #[pT bx]),(0,.func (.yield l) #[] #[]),(1,pT p1),(2,pT p2),(3,pT p3)] /\
  S = [U,X,Cm',C',boxS bx (pT m) 347,F,boxS p1 (.slice pa pass.length pcap) 43,boxS p2 (.slice sa salt.length scap) 43,boxS p3 (.int .i64 rounds) 3,G,Hp,Hs])
  ⟨0,[],D1,D1,Cm1,_,u0,u0,a1,a1,c1,c1,oM,hCm1,hul,hul,ho1,sM,ho1.1,ho1.rd sM,hpc,rfl,rfl,rfl,rfl⟩ ?_
 rintro q D L S ⟨i,X,U,T,Cm',all',u,t,ua,ta,uc,tc,hi,hCm',hul,htl,hoU,hT,htc,hrt,hpi,rfl,rfl,rfl,rfl⟩;refine gg ?_;refine if_d (fun hc => ?_) (fun hc => ?_)
 ·refine gg ?_;refine zF ?_;refine jE rfl [.slice ua 32 uc] dM rfl rfl (by simp [Value.cell1]) (fun b4 C4 ho4 => ?_);have hrU := hoU.rd (S := [U]) sM;refine cA (once2 hg bx m Cm' C4 U pass all' hCm' _ 1 1 [u] (XM ho4 (by rw [<- hul];exact vals_nil.snoc (by rw [hul];exact hoU.1) (by rw [hul];exact hrU))) dM (by simp only [aO,iS,aL];omega)) ?_;rintro v A ⟨D5,a5,c5,Cm5,rfl,hCm5,ho5,rfl⟩;refine gA ?_;rw [show [u].flatten = u from sM] at hCm5 ho5;have hrD := ho5.rd (S := [D5]) sM;have hml : (mac pass u).length = 32 := yi _ _;have hxs := xor_spec T D5 ta a5 tc c5 t (mac pass u) oM oM (by rw [htl];exact hrt) (by rw [hml];exact hrD);rw [htl,hml] at hxs;have hxl : (xorB t (mac pass u)).length = 32 := by rw [yu,htl,hml];decide
  have hst : strT pass u t (rounds - 1 - i) = strT pass (mac pass u) (xorB t (mac pass u)) (rounds - 1 - (i + 1)) := by
   rw [show rounds - 1 - i = (rounds - 1 - (i + 1)) + 1 from oM];rfl
  rw [hst] at hpi;simp only [aY,aT,or_false] at hT
  rcases hT with rfl | rfl
  ·refine cA (hxs) ?_;rintro v A ⟨D6,a6,c6,rfl,ho6,rfl⟩;refine gA ?_;rw [hxl] at ho6 ⊢;exact zI ⟨i + 1,D6,D5,D6,Cm5,_,mac pass u,xorB t (mac pass u),a5,a6,c5,c6,oM,hCm5,hml,hxl,ho5,sM,ho6.1,ho6.rd sM,hpi,rfl,rfl,rfl,rfl⟩
  ·refine cA (hxs) ?_;rintro v A ⟨D6,a6,c6,rfl,ho6,rfl⟩;refine gA ?_;rw [hxl] at ho6 ⊢;exact zI ⟨i + 1,D6,D5,D6,Cm5,_,mac pass u,xorB t (mac pass u),a5,a6,c5,c6,oM,hCm5,hml,hxl,ho5,sM,ho6.1,ho6.rd sM,hpi,rfl,rfl,rfl,rfl⟩
 ·obtain rfl : i = rounds - 1 := oM;rw [Nat.sub_self] at hpi;have ht : kA pass salt rounds (pre.length + 1) = t := hpi;have hx : isPc (fun k => kA pass salt rounds (k + 1)) pre ⟨t,ta,tc,T⟩ := ⟨ht.symm,htc,hrt⟩;have el : (pre ++ [(⟨t,ta,tc,T⟩ : Pc)]).length = pre.length + 1 := sM;simp only [aY,aT,or_false] at hT
  rcases hT with rfl | rfl
  ·refine gg ?_;refine xd fun K hK => ?_
   refine wR (hY pre ⟨t,ta,tc,T⟩ hx) hJ tkA (fun C4 hJ4 => ?_) (fun C4 hJ4 => ?_)
   ·refine hK _ _ ?_;clear hK K;refine gg ?_;have hq := hN _ _ hJ4;rw [el] at hq;refine zI ⟨pre ++ [⟨t,ta,tc,T⟩],C4,Cm',all',hJ4,hCm',rfl,rfl,by rw [el],rfl⟩ (hm := by rw [el];omega)
   ·refine hK _ _ ?_;clear hK K;refine gg ?_;exact jO [C4,boxS p1 (.slice pa pass.length pcap) 43,boxS p2 (.slice sa salt.length scap) 43,boxS p3 (.int .i64 rounds) 3,G,Hp,Hs] ⟨C4,rfl,.inr ⟨pre,_,hx,hJ4⟩⟩
  ·refine gg ?_;refine xd fun K hK => ?_
   refine wR (hY pre ⟨t,ta,tc,T⟩ hx) hJ tkA (fun C4 hJ4 => ?_) (fun C4 hJ4 => ?_)
   ·refine hK _ _ ?_;clear hK K;refine gg ?_;have hq := hN _ _ hJ4;rw [el] at hq;refine zI ⟨pre ++ [⟨t,ta,tc,T⟩],C4,Cm',all',hJ4,hCm',rfl,rfl,by rw [el],rfl⟩ (hm := by rw [el];omega)
   ·refine hK _ _ ?_;clear hK K;refine gg ?_;exact jO [C4,boxS p1 (.slice pa pass.length pcap) 43,boxS p2 (.slice sa salt.length scap) 43,boxS p3 (.int .i64 rounds) 3,G,Hp,Hs] ⟨C4,rfl,.inr ⟨pre,_,hx,hJ4⟩⟩
theorem YV (pa sa : OA) (pn pc sn sc : Nat) (rounds : Int) : zh prog 182 [.slice pa pn pc,.slice sa sn sc,.int .i64 rounds] []
  fun v A => ∃ p1 p2 p3,v = .func (.func 221) #[] #[pT p1,pT p2,pT p3] /\
   A = [boxS p1 (.slice pa pn pc) 43,boxS p2 (.slice sa sn sc) 43,boxS p3 (.int .i64 rounds) 3] := by
 refine eNg func182 ntmps182 results182 fun F => ?_
 refine oBg fun p1 => ?_
 refine oBg fun p2 => ?_
 refine oBg fun p3 => ?_
 refine ze [boxS p1 (.slice pa pn pc) 43,boxS p2 (.slice sa sn sc) 43,boxS p3 (.int .i64 rounds) 3] ?_;exact ⟨p1,p2,p3,rfl,rfl⟩
theorem Vp (n : Int) : zh prog 180 [.int .i64 n] [] fun v A => v = .bool (decide (1 <= n /\ n <= 128)) /\ A = [] := by
 refine eN func180 ntmps180 results180 fun F => ?_
 by_cases h1 : 1 <= n
 ·have e : decide (1 <= n) = true := dT h1;refine gg ?_;rw [e];refine gg ?_;refine ze [] ?_;exact ⟨by simp [h1],rfl⟩
 ·have e : decide (1 <= n) = false := dF h1;refine gg ?_;rw [e];refine gg ?_;refine ze [] ?_;exact ⟨by simp [h1],rfl⟩
theorem Yl {G : zd} (hg : jJ G) (Hp Hs : zd) (pa sa : OA) (pcap scap : Nat) (pass salt : L8) (rounds size : Nat) (hr1 : 1 <= rounds) (hr2 : rounds <= 64) (hz1 : 1 <= size) (hz2 : size <= 128)
  (hp1 : pass.length <= 10000) (hp2 : pass.length <= pcap) (hp3 : Rd 1 [Hp] pa pass.length (pass.map b8)) (hs1 : salt.length <= 10000) (hs2 : salt.length <= scap) (hs3 : Rd 1 [Hs] sa salt.length (salt.map b8)) :
  zh prog 130 [.slice pa pass.length pcap,.slice sa salt.length scap,.int .i64 rounds,.int .i64 size] [G,Hp,Hs]
   fun v A => ∃ C a c,v = .tuple #[.slice a (kV pass salt rounds size).length c,.int .i64 0] /\ Own8 5 C a (kV pass salt rounds size).length c (kV pass salt rounds size) /\ A = [C,G,Hp,Hs] := by
 refine eNg func130 ntmps130 results130 fun F => ?_
 rw [dF (oM : ¬ (rounds : Int) < 1)];refine gg ?_;rw [dF (oM : ¬ (64 : Int) < rounds)];refine gg ?_;refine cA (Vp size) ?_;rintro v A ⟨rfl,rfl⟩;(try simp only [aD,aC]);rw [dT (oM : (1 : Int) <= size /\ (size : Int) <= 128)];refine gg ?_;refine cA (YV pa sa _ pcap _ scap rounds) ?_;rintro v A ⟨p1,p2,p3,rfl,rfl⟩;(try simp only [aD,aC]);refine gg ?_;refine xd fun K hK => ?_
 refine jq (Uv (fun k => kA pass salt rounds (k + 1)) (fun k => KX _ _ _ _) size hz1 hz2 (captured := #[pT p1,pT p2,pT p3]) (YW hg p1 p2 p3 Hp Hs pa sa pcap scap pass salt rounds hr1 oM hp1 hp2 hp3 hs1 hs2 hs3)) ?_;rintro v A ⟨C1,a1,c1,rfl,ho1,rfl⟩
 (try simp only [aD,aC])
 refine hK _ _ ?_;clear hK K;refine gg ?_;refine zf [C1,G,Hp,Hs] ?_;exact ⟨C1,a1,c1,rfl,ho1,rfl⟩
theorem rd_l {s : Nat} {A B : zd} {a : OA} {n : Nat} {us : LV} (h : Rd s [A] a n us) : Rd s [A ++ B] a n us :=
 ⟨h.1,fun hne => let ⟨b,o,cs,e,m,h1,h2,h3⟩ := h.2 hne;⟨b,o,cs,e,m,h1,.here (by have := h2.mem;simp at this;exact iG _ this),h3⟩⟩
theorem rd_r {s : Nat} {A B : zd} {a : OA} {n : Nat} {us : LV} (h : Rd s [B] a n us) : Rd s [A ++ B] a n us :=
 ⟨h.1,fun hne => let ⟨b,o,cs,e,m,h1,h2,h3⟩ := h.2 hne;⟨b,o,cs,e,m,h1,.here (by have := h2.mem;simp at this;exact List.mem_append_right _ this),h3⟩⟩
structure vh (A B : zd) (pa : OA) (ma : OA) (mc : Nat) (m : L8) : Prop where
 arr : Rd 1 [A] pa 1 [.slice ma m.length mc]
 cap : m.length <= mc
 rd : Rd 1 [B] ma m.length (m.map b8)
 len : m.length <= 100000
theorem vh.flat {A B : zd} {pa ma : OA} {mc : Nat} {m : L8} (h : vh A B pa ma mc m) : Zg [A ++ B] pa 1 [m] := by
 refine ⟨rfl,_,rd_l h.arr,fun i v l hv hl => ?_⟩
 match i,hv,hl with
 | 0,hv,hl => cases hv;cases hl;exact ⟨ma,mc,rfl,h.cap,rd_r h.rd⟩
theorem vh.two {A B : zd} {pa ma : OA} {mc : Nat} {m : L8} (h : vh A B pa ma mc m) : Zg [A,B] pa 1 [m] := by
 refine ⟨rfl,_,h.arr.mem sM,fun i v l hv hl => ?_⟩
 match i,hv,hl with
 | 0,hv,hl => cases hv;cases hl;exact ⟨ma,mc,rfl,h.cap,h.rd.mem sM⟩
theorem Wt (m : L8) : ([m] : List L8).flatten = m := sM
theorem mac1 {G : zd} (hg : jJ G) (H A B : zd) (a : OA) (cap : Nat) (key : L8) (hk : key.length <= 100000) (hcap : key.length <= cap) (h : Rd 1 [H] a key.length (key.map b8)) {pa ma : OA} {mc : Nat} {m : L8} (hp : vh A B pa ma mc m) :
  zh prog 132 [.slice a key.length cap,.slice pa 1 1] [G,H,A,B] (New8 5 (mac key m) [G,H,A,B]) := by
 have hl := hp.len;have k : zh prog 132 [.slice a key.length cap,.slice pa 1 1] [G,H,A,B] (New8 5 (mac key ([m] : List L8).flatten) [G,H,A,B]) := (Un hg H (A ++ B) a pa cap 1 1 key [m] hk hcap h hp.flat dM dM (by rw [Wt];omega)).perm sM (fun v A' ⟨C,a',cap',hv,ho,hA⟩ => ⟨[C,G,H,A,B],by rw [hA];simp,C,a',cap',hv,ho,rfl⟩);rw [Wt] at k;exact k
theorem sum1 {G : zd} (hg : jJ G) (A B : zd) {pa ma : OA} {mc : Nat} {m : L8} (hp : vh A B pa ma mc m) :
  zh prog 133 [.slice pa 1 1] [G,A,B] (New8 5 (xx m) [G,A,B]) := by
 have hl := hp.len;have k := sumS hg A B pa 1 1 [m] hp.flat dM dM (by rw [Wt];omega);rw [Wt] at k;exact k
def vg (C : zd) (b : Nat) (x : BX) : Prop := ∃ (la : OA) (lc r : Nat) (CL CM : zd) (us : LV),C = bxB b x.sym la x.ts.length lc r ++ (CL ++ CM) /\ Ost.Own 6 253 CL la x.ts.length lc us /\ jg CM r (mapT x.ts 0)
def Out (b : Nat) (y : L8 × BX) (R : zb) (v : Value) (A : zb) : Prop := ∃ (O C' : zd) (oa : OA) (oc : Nat),v = .slice oa y.1.length oc /\ Own8 5 O oa y.1.length oc y.1 /\ vg C' b y.2 /\ A = O :: C' :: R
theorem fV {G : zd} (hg : jJ G) {A B : zd} {pa ma : OA} {mc : Nat} {m : L8} (hp : vh A B pa ma mc m)
  (b : Nat) (x : BX) (hts : x.ts.length <= 1000) {la : OA} {lc r : Nat} {CL CM : zd} {us : LV} (hL : Ost.Own 6 253 CL la x.ts.length lc us) (hM : jg CM r (mapT x.ts 0)) :
  zh prog 82 [pT b,.slice pa 1 1] [bxB b x.sym la x.ts.length lc r,CL,CM,G,A,B]
  fun v A' => ∃ (O : zd) (oa : OA) (oc : Nat) (la' : OA) (lc' : Nat) (CL' CM' : zd) (us' : LV),v = .slice oa (jo x m).1.length oc /\ Own8 5 O oa (jo x m).1.length oc (jo x m).1 /\
   Ost.Own 6 253 CL' la' (jo x m).2.ts.length lc' us' /\ jg CM' r (mapT (jo x m).2.ts 0) /\ A' = [O,bxB b x.sym la' (jo x m).2.ts.length lc' r,CL',CM',G,A,B] := by
 have hml := hp.len;unfold jo;refine eNg func82 ntmps82 results82 fun F => ?_
 cases hs : x.sym with
 | true =>
  rw [if_pos rfl];refine gg ?_;refine cA (yo [A,B] pa 1 1 [m] hp.two dM dM (by rw [Wt];omega)) ?_;rintro v A ⟨J,ja,jc,rfl,hjc,hjr,hjl,rfl⟩;refine gA ?_;rw [Wt] at hjc hjr ⊢;refine oTg [(0,.int .i64 1),(2,.slice ja m.length jc)] (tmV ⟨1,[],m,0⟩ none 0 ja jc).toArray ?_;have ht := Or (ka := none) ⟨1,[],m,0⟩ (by show 1 <= 10;decide) (by show 0 <= 1000;decide) (by show 0 <= 100000;decide) hml (aR _) hjc Rd.nil hjr b x hts hL hM;rw [hs] at ht;refine cA (ht) ?_;rintro v A ⟨O,oa,oc,la',lc',CL',CM',us',rfl,hO,hL',hM',rfl⟩;refine gA ?_;refine ze [O,bxB b true la' (tagX x ⟨1,[],m,0⟩).2.ts.length lc' r,CL',CM',G,A,B] ?_;exact ⟨O,oa,oc,la',lc',CL',CM',us',rfl,hO,hL',hM',rfl⟩
 | false =>
  rw [if_neg sM];refine gg ?_;refine cA (sum1 hg A B hp) ?_;rintro v A ⟨O,oa,oc,rfl,hO,rfl⟩;refine gA ?_;refine ze [O,bxB b false la x.ts.length lc r,CL,CM,G,A,B] ?_;exact ⟨O,oa,oc,la,lc,CL,CM,us,rfl,hO,hL,hM,rfl⟩
theorem dt (t : Tm) (h1 : t.k <= 10) (h2 : t.rnd <= 1000) (h3 : t.key.length <= 100000) (h4 : t.txt.length <= 100000) {Kc J : zd} {ka xa : OA} {kc xc : Nat}
  (hk0 : t.key.length <= kc) (hx0 : t.txt.length <= xc) (hk : Rd 1 [Kc] ka t.key.length (t.key.map b8)) (hx : Rd 1 [J] xa t.txt.length (t.txt.map b8))
  (b : Nat) (x : BX) (hts : x.ts.length <= 1000) {la : OA} {lc r : Nat} {CL CM : zd} {us : LV} (hL : Ost.Own 6 253 CL la x.ts.length lc us) (hM : jg CM r (mapT x.ts 0)) :
  zh prog 129 [pT b,.agg (tmV t ka kc xa xc).toArray] [bxB b x.sym la x.ts.length lc r,CL,CM,Kc,J]
  fun v A => ∃ (O : zd) (oa : OA) (oc : Nat) (la' : OA) (lc' : Nat) (CL' CM' : zd) (us' : LV),v = .slice oa (tagX x t).1.length oc /\ Own8 5 O oa (tagX x t).1.length oc (tagX x t).1 /\
   Ost.Own 6 253 CL' la' (tagX x t).2.ts.length lc' us' /\ jg CM' r (mapT (tagX x t).2.ts 0) /\ A = [O,bxB b x.sym la' (tagX x t).2.ts.length lc' r,CL',CM',Kc,J] :=
 (Or t h1 h2 h3 h4 (H := Kc ++ J) hk0 hx0 (rd_l hk) (rd_r hx) b x hts hL hM).perm sM (fun v A' ⟨O,oa,oc,la',lc',CL',CM',us',hv,hO,hL',hM',hA⟩ =>
  ⟨[O,bxB b x.sym la' (tagX x t).2.ts.length lc' r,CL',CM',Kc,J],by rw [hA];simp,O,oa,oc,la',lc',CL',CM',us',hv,hO,hL',hM',rfl⟩)
theorem mac_open {G : zd} (hg : jJ G) {Kc A B : zd} {ka : OA} {kc : Nat} {key : L8} (hkl : key.length <= 100000) (hk0 : key.length <= kc) (hk : Rd 1 [Kc] ka key.length (key.map b8)) {pa ma : OA} {mc : Nat} {m : L8} (hp : vh A B pa ma mc m)
  (b : Nat) (x : BX) (hts : x.ts.length <= 1000) {la : OA} {lc r : Nat} {CL CM : zd} {us : LV} (hL : Ost.Own 6 253 CL la x.ts.length lc us) (hM : jg CM r (mapT x.ts 0)) :
  zh prog 80 [pT b,.slice ka key.length kc,.slice pa 1 1] [bxB b x.sym la x.ts.length lc r,CL,CM,G,Kc,A,B]
  fun v A' => ∃ (O : zd) (oa : OA) (oc : Nat) (la' : OA) (lc' : Nat) (CL' CM' : zd) (us' : LV),v = .slice oa (macX x key m).1.length oc /\ Own8 5 O oa (macX x key m).1.length oc (macX x key m).1 /\
   Ost.Own 6 253 CL' la' (macX x key m).2.ts.length lc' us' /\ jg CM' r (mapT (macX x key m).2.ts 0) /\ A' = [O,bxB b x.sym la' (macX x key m).2.ts.length lc' r,CL',CM',G,Kc,A,B] := by
 have hml := hp.len;unfold macX;refine eNg func80 ntmps80 results80 fun F => ?_
 cases hs : x.sym with
 | true =>
  rw [if_pos rfl];refine gg ?_;refine cA (yo [A,B] pa 1 1 [m] hp.two dM dM (by rw [Wt];omega)) ?_;rintro v A ⟨J,ja,jc,rfl,hjc,hjr,hjl,rfl⟩;refine gA ?_;rw [Wt] at hjc hjr ⊢;refine oTg [(0,.int .i64 2),(1,.slice ka key.length kc),(2,.slice ja m.length jc)] (tmV ⟨2,key,m,0⟩ ka kc ja jc).toArray ?_;have ht := dt ⟨2,key,m,0⟩ (by show 2 <= 10;decide) (by show 0 <= 1000;decide) hkl hml hk0 hjc hk hjr b x hts hL hM;rw [hs] at ht;refine cA (ht) ?_;rintro v A ⟨O,oa,oc,la',lc',CL',CM',us',rfl,hO,hL',hM',rfl⟩;refine gA ?_;refine ze [O,bxB b true la' (tagX x ⟨2,key,m,0⟩).2.ts.length lc' r,CL',CM',G,Kc,A,B] ?_;exact ⟨O,oa,oc,la',lc',CL',CM',us',rfl,hO,hL',hM',rfl⟩
 | false =>
  rw [if_neg sM];refine gg ?_;refine cA (mac1 hg Kc A B ka kc key hkl hk0 hk hp) ?_;rintro v A ⟨O,oa,oc,rfl,hO,rfl⟩;refine gA ?_;refine ze [O,bxB b false la x.ts.length lc r,CL,CM,G,Kc,A,B] ?_;exact ⟨O,oa,oc,la,lc,CL,CM,us,rfl,hO,hL,hM,rfl⟩
theorem str_open {G : zd} (hg : jJ G) {Pc Sc : zd} {pa sa : OA} {pc sc : Nat} {pass salt : L8} (hp1 : pass.length <= 10000) (hp2 : pass.length <= pc) (hp3 : Rd 1 [Pc] pa pass.length (pass.map b8)) (hs1 : salt.length <= 10000) (hs2 : salt.length <= sc) (hs3 : Rd 1 [Sc] sa salt.length (salt.map b8)) (rounds : Nat) (hr1 : 1 <= rounds) (hr2 : rounds <= 64)
  (b : Nat) (x : BX) (hts : x.ts.length <= 1000) {la : OA} {lc r : Nat} {CL CM : zd} {us : LV} (hL : Ost.Own 6 253 CL la x.ts.length lc us) (hM : jg CM r (mapT x.ts 0)) :
  zh prog 79 [pT b,.slice pa pass.length pc,.slice sa salt.length sc,.int .i64 rounds] [bxB b x.sym la x.ts.length lc r,CL,CM,G,Pc,Sc]
  fun v A' => ∃ (O : zd) (oa : OA) (oc : Nat) (la' : OA) (lc' : Nat) (CL' CM' : zd) (us' : LV),v = .tuple #[.slice oa (strX x pass salt rounds).1.length oc,.int .i64 0] /\ Own8 5 O oa (strX x pass salt rounds).1.length oc (strX x pass salt rounds).1 /\
   Ost.Own 6 253 CL' la' (strX x pass salt rounds).2.ts.length lc' us' /\ jg CM' r (mapT (strX x pass salt rounds).2.ts 0) /\ A' = [O,bxB b x.sym la' (strX x pass salt rounds).2.ts.length lc' r,CL',CM',G,Pc,Sc] := by
 unfold strX;refine eNg func79 ntmps79 results79 fun F => ?_
 rw [dF (oM : ¬ (rounds : Int) < 1)];refine gg ?_;rw [dF (oM : ¬ (64 : Int) < rounds)];refine gg ?_
 cases hs : x.sym with
 | true =>
  rw [if_pos rfl];refine gg ?_;refine oTg [(0,.int .i64 3),(1,.slice pa pass.length pc),(2,.slice sa salt.length sc),(3,.int .i64 rounds)] (tmV ⟨3,pass,salt,rounds⟩ pa pc sa sc).toArray ?_;have ht := dt ⟨3,pass,salt,rounds⟩ (by show 3 <= 10;decide) (by show rounds <= 1000;omega) (by show pass.length <= _;omega) (by show salt.length <= _;omega) hp2 hs2 hp3 hs3 b x hts hL hM;rw [hs] at ht;refine cA (ht) ?_;rintro v A ⟨O,oa,oc,la',lc',CL',CM',us',rfl,hO,hL',hM',rfl⟩;refine gA ?_;refine zf (vs := [.slice oa (tagX x ⟨3,pass,salt,rounds⟩).1.length oc,.int .i64 0]) [O,bxB b true la' (tagX x ⟨3,pass,salt,rounds⟩).2.ts.length lc' r,CL',CM',G,Pc,Sc] ?_;exact ⟨O,oa,oc,la',lc',CL',CM',us',rfl,hO,hL',hM',rfl⟩
 | false =>
  rw [if_neg sM];refine gg ?_;refine cA (Yl hg Pc Sc pa sa pc sc pass salt rounds 32 hr1 hr2 dM dM hp1 hp2 hp3 hs1 hs2 hs3) ?_;rintro v A ⟨O,oa,oc,rfl,hO,rfl⟩;refine gA ?_;refine zf (vs := [.slice oa (kV pass salt rounds 32).length oc,.int .i64 0]) [O,bxB b false la x.ts.length lc r,CL,CM,G,Pc,Sc] ?_;exact ⟨O,oa,oc,la,lc,CL,CM,us,rfl,hO,hL,hM,rfl⟩
theorem wu {G : zd} (hg : jJ G) {A B : zd} {pa ma : OA} {mc : Nat} {m : L8} (hp : vh A B pa ma mc m) {C : zd} {b : Nat} {x : BX} (hC : vg C b x) (hts : x.ts.length <= 1000) :
  zh prog 82 [pT b,.slice pa 1 1] [C,G,A,B] (Out b (jo x m) [G,A,B]) := by
 obtain ⟨la,lc,r,CL,CM,us,rfl,hL,hM⟩ := hC;refine zh.conv [bxB b x.sym la x.ts.length lc r,CL,CM,G,A,B] (fV hg hp b x hts hL hM) flA tkA ?_;rintro v A ⟨O,oa,oc,la',lc',CL',CM',us',rfl,hO,hL',hM',rfl⟩;exact ⟨[O,bxB b x.sym la' (jo x m).2.ts.length lc' r ++ (CL' ++ CM'),G,A,B],[O,bxB b x.sym la' (jo x m).2.ts.length lc' r,CL',CM',G,A,B],flA,amA,O,_,oa,oc,rfl,hO,⟨la',lc',r,CL',CM',us',by rw [(jT x m).2],hL',hM'⟩,rfl⟩
theorem WQ {G : zd} (hg : jJ G) {Kc A B : zd} {ka : OA} {kc : Nat} {key : L8} (hkl : key.length <= 100000) (hk0 : key.length <= kc) (hk : Rd 1 [Kc] ka key.length (key.map b8)) {pa ma : OA} {mc : Nat} {m : L8} (hp : vh A B pa ma mc m) {C : zd} {b : Nat} {x : BX} (hC : vg C b x) (hts : x.ts.length <= 1000) :
  zh prog 80 [pT b,.slice ka key.length kc,.slice pa 1 1] [C,G,Kc,A,B] (Out b (macX x key m) [G,Kc,A,B]) := by
 obtain ⟨la,lc,r,CL,CM,us,rfl,hL,hM⟩ := hC;refine zh.conv [bxB b x.sym la x.ts.length lc r,CL,CM,G,Kc,A,B] (mac_open hg hkl hk0 hk hp b x hts hL hM) flA tkA ?_;rintro v A ⟨O,oa,oc,la',lc',CL',CM',us',rfl,hO,hL',hM',rfl⟩;exact ⟨[O,bxB b x.sym la' (macX x key m).2.ts.length lc' r ++ (CL' ++ CM'),G,Kc,A,B],[O,bxB b x.sym la' (macX x key m).2.ts.length lc' r,CL',CM',G,Kc,A,B],flA,amA,O,_,oa,oc,rfl,hO,⟨la',lc',r,CL',CM',us',by rw [(yj x key m).2],hL',hM'⟩,rfl⟩
theorem gN {G : zd} (hg : jJ G) {Pc Sc : zd} {pa sa : OA} {pc sc : Nat} {pass salt : L8} (hp1 : pass.length <= 10000) (hp2 : pass.length <= pc) (hp3 : Rd 1 [Pc] pa pass.length (pass.map b8)) (hs1 : salt.length <= 10000) (hs2 : salt.length <= sc) (hs3 : Rd 1 [Sc] sa salt.length (salt.map b8)) (rounds : Nat) (hr1 : 1 <= rounds) (hr2 : rounds <= 64) {C : zd} {b : Nat} {x : BX} (hC : vg C b x) (hts : x.ts.length <= 1000) :
  zh prog 79 [pT b,.slice pa pass.length pc,.slice sa salt.length sc,.int .i64 rounds] [C,G,Pc,Sc]
  fun v A' => ∃ w,v = .tuple #[w,.int .i64 0] /\ Out b (strX x pass salt rounds) [G,Pc,Sc] w A' := by
 obtain ⟨la,lc,r,CL,CM,us,rfl,hL,hM⟩ := hC;refine zh.conv [bxB b x.sym la x.ts.length lc r,CL,CM,G,Pc,Sc] (str_open hg hp1 hp2 hp3 hs1 hs2 hs3 rounds hr1 hr2 b x hts hL hM) flA tkA ?_;rintro v A ⟨O,oa,oc,la',lc',CL',CM',us',rfl,hO,hL',hM',rfl⟩;exact ⟨[O,bxB b x.sym la' (strX x pass salt rounds).2.ts.length lc' r ++ (CL' ++ CM'),G,Pc,Sc],[O,bxB b x.sym la' (strX x pass salt rounds).2.ts.length lc' r,CL',CM',G,Pc,Sc],flA,amA,_,rfl,O,_,oa,oc,rfl,hO,⟨la',lc',r,CL',CM',us',by rw [(Ja x pass salt rounds).2],hL',hM'⟩,rfl⟩
instance tpBox : xi prog 182 [(0,1),(1,1),(2,1),(3,1)] := ⟨kM⟩
theorem gO (sym : Bool) : zh prog 26 [.bool sym] [] fun v A => ∃ b C,v = pT b /\ vg C b ⟨sym,[]⟩ /\ A = [C] := by
 have k : zh prog 26 [.bool sym] [] fun v A => ∃ b r CM,v = pT b /\ jg CM r [] /\ A = [bxB b sym none 0 0 r,CM] := by
  refine eNg func26 ntmps26 results26 fun F => ?_
  refine zF ?_;refine VN fun r CM hM => ?_
  refine gg ?_;refine oTg [(0,.bool sym),(3,.map (some r))] ([.bool sym,.bool false,nS,.map (some r)] : LV).toArray ?_;refine oBg fun b => ?_
  refine ze [bxB b sym none 0 0 r,CM] ?_;exact ⟨b,r,CM,rfl,hM,rfl⟩
 refine zh.conv [] (k) flA tkA ?_;rintro v A ⟨b,r,CM,rfl,hM,rfl⟩;exact ⟨[bxB b sym none 0 0 r ++ CM],[bxB b sym none 0 0 r,CM],flA,amA,b,_,rfl,⟨none,0,r,[],CM,[],rfl,zJ,hM⟩,rfl⟩
theorem gP {C : zd} {b : Nat} {x : BX} (hC : vg C b x) : zh prog 23 [pT b] [C] fun v A => v = .int .i64 x.ts.length /\ A = [C] := by
 obtain ⟨la,lc,r,CL,CM,us,rfl,hL,hM⟩ := hC
 have k : zh prog 23 [pT b] [bxB b x.sym la x.ts.length lc r] fun v A => v = .int .i64 x.ts.length /\ A = [bxB b x.sym la x.ts.length lc r] := by
  refine eNg func23 ntmps23 results23 fun F => ?_
  refine ze [bxB b x.sym la x.ts.length lc r] ?_;exact ⟨rfl,rfl⟩
 refine zh.conv [bxB b x.sym la x.ts.length lc r,CL,CM] (k) flA tkA ?_;rintro v A ⟨rfl,rfl⟩;exact ⟨[bxB b x.sym la x.ts.length lc r ++ (CL ++ CM)],[bxB b x.sym la x.ts.length lc r,CL,CM],flA,amA,rfl,rfl⟩
end Go.Proofs.YtebikhhoppiapaaGreatDoor
namespace Go.Proofs.YtebikhhoppiapaaGreatDoor
open Go Go.Ost Go.Nam Tryz
def Xm (i : Nat) : LV := [.int .i64 ((i : Int) + 1),b8 (mk i),b8 (ld i),.int .i32 (ls i)]
def formsV : LV := [0,1,2,3].flatMap Xm
def Jc (p : Int × Int) : LV := [.int .i32 p.1,.int .i32 p.2]
structure GNam (C : zd) : Prop where
 g0 : ∃ t m,(7,Obj.cells formsV.toArray t m) ∈ C
 g1 : ∃ t m,(1,Obj.cells (barred.flatMap Jc).toArray t m) ∈ C
 g2 : ∃ t m,(5,Obj.cells (blanks.flatMap Jc).toArray t m) ∈ C
 g3 : ∃ t m,(6,Obj.cells (nothing.flatMap Jc).toArray t m) ∈ C
theorem KA (r : Int) : zh prog 245 [.int .i32 r] [] fun v A => v = .bool (sgn r) /\ A = [] := by
 refine eNg func245 ntmps245 results245 fun F => ?_
 unfold sgn
 by_cases h1 : 0 <= r
 ·rw [dT h1];refine gg ?_
  by_cases h2 : r <= 1114111
  ·rw [dT h2];refine gg ?_
   by_cases h3 : r < 55296
   ·rw [dT h3];refine gg ?_;refine ze [] ?_;exact ⟨rfl,rfl⟩
   ·rw [dF h3];refine gg ?_;refine ze [] ?_;exact ⟨rfl,rfl⟩
  ·rw [dF h2];refine gg ?_;refine ze [] ?_;exact ⟨rfl,rfl⟩
 ·rw [dF h1];refine gg ?_;refine ze [] ?_;exact ⟨rfl,rfl⟩
theorem dr (c : UInt8) : zh prog 242 [b8 c] [] fun v A => v = .bool (vw c) /\ A = [] := by
 refine eNg func242 ntmps242 results242 fun F => ?_
 have hlt := c.toNat_lt
 by_cases h1 : (128 : Int) <= c.toNat
 ·rw [dT h1];refine gg ?_;rw [show decide ((c.toNat : Int) <= 191) = vw c from by unfold vw;rw [dT (oM : 128 <= c.toNat),mM];by_cases h : c.toNat <= 191;rw [dT h,dT oM];rw [dF h,dF oM]];refine ze [] ?_;exact ⟨rfl,rfl⟩
 ·rw [dF h1];refine gg ?_;rw [show vw c = false from by unfold vw;rw [dF (oM : ¬ 128 <= c.toNat),Bool.false_and]];refine ze [] ?_;exact ⟨rfl,rfl⟩
theorem yR {C : zd} {a : OA} {cap : Nat} (l : List (Int × Int)) (hl : l.length <= 100) (hr : Rd 2 [C] a l.length (l.flatMap Jc)) (r : Int) :
  zh prog 216 [.int .i32 r,.slice a l.length cap] [C] fun v A => v = .bool (Nam.within r l) /\ A = [C] := by
 have hs : ∀ p : Int × Int,(Jc p).length = 2 := fun _ => rfl
 refine eNg func216 ntmps216 results216 fun F => ?_
 refine zM (fun q D L S => ∃ i : Nat,i <= l.length /\ Nam.within r l = Nam.within r (l.drop i) /\ q = l.length - i /\ D = [] /\ L = [(9,.int .i64 i),(8,.int .i64 l.length),(7,.slice a l.length cap),(0,.int .i32 r)] /\ S = [C,F])
  ⟨0,oM,rfl,rfl,rfl,rfl,rfl⟩ ?_
 rintro q D L S ⟨i,hi,hw,rfl,rfl,rfl,rfl⟩;refine gg ?_;refine if_d (fun hc => ?_) (fun hc => ?_)
 ·have hil : i < l.length := oM;have hx : l[i]? = some l[i] := aE hil;rw [iH hil] at hw;generalize l[i] = p at *;obtain ⟨f,t⟩ := p;simp only [Nam.within] at hw;refine gg ?_;refine zF ?_;rw [el_at hr oM oM dM,aW];refine zF ?_;refine JH hr hs hx dM mmA ?_;refine zF ?_;refine zC fun b6 => ?_;(try simp only [Value.cells])
  refine gg ?_;refine oSg [.int .i32 f,.int .i32 t] rfl (by simp [Value.cell1]) ?_
  by_cases h1 : f <= r
  ·rw [dT h1] at hw ⊢;refine gg ?_;refine if_d (fun hc => ?_) (fun hc => ?_)
   ·rw [dT hc,mM,Bool.true_or] at hw;rw [hw];refine gg ?_;refine ze [C] ?_;exact ⟨rfl,rfl⟩
   ·rw [dF hc,Bool.and_false,mS] at hw;refine gg ?_;exact zI ⟨i + 1,oM,hw,rfl,rfl,rfl,rfl⟩
  ·rw [dF h1] at hw ⊢;rw [Bool.false_and,mS] at hw;refine gg ?_;exact zI ⟨i + 1,oM,hw,rfl,rfl,rfl,rfl⟩
 ·obtain rfl : i = l.length := oM;rw [mR] at hw;rw [hw];refine gg ?_;refine ze [C] ?_;exact ⟨rfl,rfl⟩
theorem IA (i : Nat) (h : i < 4) : formsV.toArray.extract (i * 4) (i * 4 + 4) = (Xm i).toArray := by
 match i,h with
 | 0,_ => rfl
 | 1,_ => rfl
 | 2,_ => rfl
 | 3,_ => rfl
 | i + 4,h => omega
theorem or_add (m k : Nat) (h : k < 64) : m * 64 ||| k = m * 64 + k := by
 have := Nat.two_pow_add_eq_or_of_lt (i := 6) (b := k) oM m;rw [Nat.mul_comm m 64];exact this.symm
theorem Wq (c : UInt8) (l : L8) (k : Nat) (h1 : 1 <= k) (h2 : k <= l.length) : l.drop (k - 1) = (c :: l).getD k 0 :: l.drop k := by
 obtain ⟨k,rfl⟩ : ∃ j,k = j + 1 := ⟨k - 1,oM⟩;rw [mO,iH oM]
 congr 1
 rw [mB,iD,aE oM,iR]
theorem tail_int (x : UInt8) : (((x &&& ~~~(aG 63)).toNat : Int) != 128) = !vw x :=
 eq_of_beq (all8 (fun x => (((x &&& ~~~(aG 63)).toNat : Int) != 128) == !vw x) (by decide +kernel) x)
theorem UE {C : zd} (hG : GNam C) (c : UInt8) (l : L8) (hlen : l.length <= 1000000) :
  zh prog 254 [sT (c :: l)] [C] fun v A => v = .tuple #[.int .i32 (dec (c :: l)).1,.int .i64 (dec (c :: l)).2] /\ A = [C] := by
 obtain ⟨tg,mg,hg0⟩ := hG.g0;have hz : (c :: l).length = l.length + 1 := rfl;refine eNg func254 ntmps254 results254 fun F => ?_
 refine zF ?_;refine zz (vs := formsV) (VP hg0 mmA) rfl ?_;refine gg ?_
 refine zM (fun q D L S => ∃ i : Nat,i <= 4 /\ (∀ j,j < i -> inr j c = true -> l.length < j) /\ q = 4 - i /\ D = [] /\ L = [(9,.int .i64 i),(8,.agg formsV.toArray),(0,sT (c :: l))] /\ S = [C,F])
  ⟨0,oM,oM,rfl,rfl,rfl,rfl⟩ ?_
 rintro q D L S ⟨i,hi,hno,rfl,rfl,rfl,rfl⟩;refine gg ?_;refine if_d (fun hc => ?_) (fun hc => ?_)
 ·have hi4 : i < 4 := oM;refine gg ?_;refine zF ?_;rw [arr_el oM oM,aW,IA i hi4];refine zF ?_;refine zC fun b5 => ?_;(try simp only [Value.cells])
  refine gg ?_;refine oS (Xm i) rfl (by simp [Xm,Value.cell1,b8]) ?_;simp only [Xm];refine gg ?_;refine cdLg [[0],[1],[2],[3],[4],[5],[6],[7],[8],[9],[10],[11],[12],[13],[14]] ?_;rw [show (c :: l).getD 0 0 = c from rfl,cq i hi4 c]
  cases hin : inr i c with
  | false =>
   refine gg ?_
   have hno' : ∀ j,j < i + 1 -> inr j c = true -> l.length < j := fun j hj hjc => by
    rcases Nat.lt_or_eq_of_le (Nat.le_of_lt_succ hj) with h | h
    ·exact hno j h hjc
    ·subst h;rw [hin] at hjc;cases hjc
   exact zI ⟨i + 1,oM,hno',rfl,rfl,rfl,rfl⟩
  | true =>
   refine gg ?_
   by_cases hlt : l.length < i
   ·rw [dT (show ((c :: l).length : Int) < (i : Int) + 1 by rw [hz];omega)];refine gg ?_
    have hno' : ∀ j,j < i + 1 -> inr j c = true -> l.length < j := fun j hj hjc => by
     rcases Nat.lt_or_eq_of_le (Nat.le_of_lt_succ hj) with h | h
     ·exact hno j h hjc
     ·subst h;exact hlt
    exact zI ⟨i + 1,oM,hno',rfl,rfl,rfl,rfl⟩
   ·rw [dF (show ¬ ((c :: l).length : Int) < (i : Int) + 1 by rw [hz];omega)];have hdec := wF i hi4 c l hin;have hval := form_val i hi4 c hin
    have hr0 : c.toNat - lo i < 128 := by
     have := c.toNat_lt;simp only [inr,aM,decide_eq_true_eq] at hin
     match i,hi4 with
     | 0,_ => simp [lo,Nam.hi] at *;omega
     | 1,_ => simp [lo,Nam.hi] at *;omega
     | 2,_ => simp [lo,Nam.hi] at *;omega
     | 3,_ => simp [lo,Nam.hi] at *;omega
     | i + 4,h => omega
    refine gg ?_;refine cdLg [[0],[1],[2],[3],[4],[5],[6,0]] ?_;refine qF ?_;rw [gH];refine gg ?_;rw [show (c :: l).getD 0 0 = c from rfl,hval];generalize c.toNat - lo i = r0 at *
    refine zM (fun q D L S => ∃ k r : Nat,1 <= k /\ k <= i + 1 /\ qh i r0 l = qh (i + 1 - k) r (l.drop (k - 1)) /\ r < 128 * 64 ^ (k - 1) /\ q = i + 1 - k /\ D = [] /\
     L = [(7,.int .i64 k),(6,.int .i32 r),(5,pT b5),(0,sT (c :: l))] /\ S = [[(b5,.cells #[.int .i64 ((i : Int) + 1),b8 (mk i),b8 (ld i),.int .i32 (ls i)] 369 (0,0))],C,F])
     ⟨1,r0,oM,oM,rfl,by simpa using hr0,rfl,rfl,rfl,rfl⟩ ?_
    rintro q D L S ⟨k,r,hk1,hk2,ht,hb,rfl,rfl,rfl,rfl⟩;refine gg ?_;refine if_d (fun hc => ?_) (fun hc => ?_)
    ·have hki : k <= i := oM;have hb2 : (64 : Nat) ^ (k - 1) <= 64 ^ 2 := Nat.pow_le_pow_right oM oM;obtain ⟨x,hx⟩ : ∃ x,(c :: l).getD k 0 = x := ⟨_,rfl⟩;have hd := Wq c l k hk1 oM;rw [hx] at hd;rw [hd,show i + 1 - k = (i - k) + 1 from oM,qh] at ht;refine gg ?_;rw [hx,tail_int x]
     cases htl : vw x with
     | false =>
      rw [htl] at ht;simp only [Bool.false_eq_true,if_false] at ht;rw [ht] at hdec;rw [hdec];refine gg ?_;refine zf [C] ?_;exact ⟨rfl,rfl⟩
     | true =>
      rw [htl] at ht;simp only [if_true] at ht;have hx64 := tail_val x htl
      have hx2 : x.toNat - 128 < 64 := by
       simp only [vw,aM,decide_eq_true_eq] at htl;omega
      refine gg ?_;refine zF ?_;rw [i32_shl6 oM oM];refine gg ?_;refine zF ?_;rw [UK,hx,show (x &&& aG 63).toNat = x.toNat - 128 from hx64];refine zF ?_;rw [i32_or oM oM oM oM,show ((r : Int) * 64).toNat = r * 64 from oM,aW,or_add _ _ hx2];refine gg ?_
      have e64 : (64 : Nat) ^ k = 64 * 64 ^ (k - 1) := by
       obtain ⟨j,rfl⟩ : ∃ j,k = j + 1 := ⟨k - 1,oM⟩;rw [mO,Nat.pow_succ,Nat.mul_comm]
      exact zI ⟨k + 1,r * 64 + (x.toNat - 128),oM,oM,by rw [ht,show i + 1 - (k + 1) = i - k from oM,mO],by rw [mO,e64];omega,rfl,rfl,rfl,rfl⟩
    ·have hki : k = i + 1 := oM;subst hki;rw [Nat.sub_self,qh] at ht;rw [ht] at hdec;simp only at hdec;rw [hdec];refine gg ?_
     by_cases hls : ls i <= (r : Int)
     ·rw [dT hls];refine gg ?_;refine cR (KA r) ?_
      cases hsg : sgn (r : Int) with
      | true =>
       refine gg ?_;refine cdLg [[0],[1],[2],[3,0,2],[4,0]] ?_;refine zf [C] ?_;exact ⟨rfl,rfl⟩
      | false =>
       refine gg ?_;refine zf [C] ?_;exact ⟨rfl,rfl⟩
     ·rw [dF hls];refine gg ?_;refine zf [C] ?_;exact ⟨rfl,rfl⟩
 ·have hnn : ∀ j,j < 4 -> inr j c = true -> l.length < j := fun j hj h => hno j oM h
  rw [ge c l hnn];refine gg ?_;refine zf [C] ?_;exact ⟨rfl,rfl⟩
theorem dec_size (c : UInt8) (l : L8) (h : qI c.toNat ≠ 0) : dec (c :: l) = match qh (qI c.toNat - 1) (fval c.toNat) l with
  | none => (-1,1)
  | some r => if okR (qI c.toNat) r then ((r : Int),qI c.toNat) else (-1,1) := by
 simp only [dec];rw [if_neg h]
 cases qh (qI c.toNat - 1) (fval c.toNat) l <;> rfl
theorem cu (c : UInt8) (l : L8) (hlen : l.length <= 1000000) :
  zh prog 213 [sT (c :: l)] [] fun v A => v = .tuple #[.int .i64 (dec (c :: l)).1,.int .i64 (dec (c :: l)).2] /\ A = [] := by
 have hz : (c :: l).length = l.length + 1 := rfl;have hc256 := c.toNat_lt;obtain ⟨cn,hcn⟩ : ∃ cn : Int,(c.toNat : Int) = cn := ⟨_,rfl⟩;refine eN func213 ntmps213 results213 fun F => ?_
 (with_reducible refine zS ?_);refine zO (fun D L S => D = [] /\ L = [(0,sT (c :: l))] /\ S = [F]) ?_ ?_
 ·refine gg ?_;exact mid ⟨rfl,rfl,rfl⟩
 rintro D L S ⟨rfl,rfl,rfl⟩
 (with_reducible refine zS ?_);refine zO (fun D L S => D = [] /\ L = [(4,.int .i64 cn),(0,sT (c :: l))] /\ S = [F]) ?_ ?_
 ·refine gg ?_
  (try rw [show (c :: l).getD 0 0 = c from rfl])
  rw [hcn];exact mid ⟨rfl,rfl,rfl⟩
 rintro D L S ⟨rfl,rfl,rfl⟩
 (with_reducible refine zS ?_);refine zO (fun D L S => D = [] /\ L = [(4,.int .i64 cn),(0,sT (c :: l))] /\ S = [F]) ?_ ?_
 ·refine gg ?_;exact mid ⟨rfl,rfl,rfl⟩
 rintro D L S ⟨rfl,rfl,rfl⟩
 (with_reducible refine zS ?_);refine zO (fun D L S => ∃ n r0 : Nat,qI c.toNat = n /\ fval c.toNat = r0 /\ 2 <= n /\ n <= 4 /\ r0 < 32 /\ D = [] /\ L = [(5,.int .i64 n),(6,.int .i64 r0),(0,sT (c :: l))] /\ S = [F]) ?_ ?_
 ·refine gg ?_
  by_cases h1 : cn < 128
  ·rw [dT (oM : cn < 128)];rw [eQ c l oM,hcn];refine gg ?_;refine zf [] ?_;exact ⟨rfl,rfl⟩
  ·rw [dF (oM : ¬ cn < 128)];refine gg ?_
   by_cases h2 : 194 <= cn
   ·rw [dT (oM : (194 : Int) <= cn)];refine gg ?_
    by_cases h3 : cn <= 223
    ·rw [dT (oM : cn <= 223)];refine gg ?_;rw [show cn - 192 = ((c.toNat - 192 : Nat) : Int) from oM];exact mid ⟨2,c.toNat - 192,by unfold qI;rw [if_neg oM,if_pos oM],by unfold fval;rw [if_neg oM,if_pos oM],oM,oM,oM,rfl,rfl,rfl⟩
    ·rw [dF (oM : ¬ cn <= 223)];refine gg ?_;rw [dT (oM : (224 : Int) <= cn)];refine gg ?_
     by_cases h4 : cn <= 239
     ·rw [dT (oM : cn <= 239)];refine gg ?_;rw [show cn - 224 = ((c.toNat - 224 : Nat) : Int) from oM];exact mid ⟨3,c.toNat - 224,by unfold qI;rw [if_neg oM,if_neg oM,if_pos oM],by unfold fval;rw [if_neg oM,if_neg oM,if_pos oM],oM,oM,oM,rfl,rfl,rfl⟩
     ·rw [dF (oM : ¬ cn <= 239)];refine gg ?_;rw [dT (oM : (240 : Int) <= cn)];refine gg ?_
      by_cases h5 : cn <= 244
      ·rw [dT (oM : cn <= 244)];refine gg ?_;rw [show cn - 240 = ((c.toNat - 240 : Nat) : Int) from oM];exact mid ⟨4,c.toNat - 240,by unfold qI;rw [if_neg oM,if_neg oM,if_neg oM,if_pos oM],by unfold fval;rw [if_neg oM,if_neg oM,if_neg oM],oM,oM,oM,rfl,rfl,rfl⟩
      ·rw [dF (oM : ¬ cn <= 244)];refine gg ?_;have e1 : qI c.toNat = 0 := by unfold qI;rw [if_neg oM,if_neg oM,if_neg oM,if_neg oM]
       rw [show dec (c :: l) = (-1,1) from by simp only [dec,e1,if_true]];refine zf [] ?_;exact ⟨rfl,rfl⟩
   ·rw [dF (oM : ¬ (194 : Int) <= cn)];refine gg ?_;rw [dF (oM : ¬ (224 : Int) <= cn)];refine gg ?_;rw [dF (oM : ¬ (240 : Int) <= cn)];refine gg ?_;have e1 : qI c.toNat = 0 := by unfold qI;rw [if_neg oM,if_neg oM,if_neg oM,if_neg oM]
    rw [show dec (c :: l) = (-1,1) from by simp only [dec,e1,if_true]];refine zf [] ?_;exact ⟨rfl,rfl⟩
 rintro D L S ⟨n,r0,hn,hr0,hn2,hn4,hr32,rfl,rfl,rfl⟩;have hdec := dec_size c l oM;rw [hn,hr0] at hdec;refine gg ?_;refine if_d (fun hc => ?_) (fun hc => ?_)
 ·rw [XY (n - 1) r0 l (by rw [hz] at hc;omega)] at hdec;rw [hdec];refine gg ?_;refine zf [] ?_;exact ⟨rfl,rfl⟩
 ·have hcn : n <= l.length + 1 := by rw [hz] at hc;omega
  refine gg ?_
  refine zM (fun q D L S => ∃ k r : Nat,1 <= k /\ k <= n /\ qh (n - 1) r0 l = qh (n - k) r (l.drop (k - 1)) /\ r < 128 * 64 ^ (k - 1) /\ q = n - k /\ D = [] /\
   L = [(7,.int .i64 k),(6,.int .i64 r),(5,.int .i64 n),(0,sT (c :: l))] /\ S = [F])
   ⟨1,r0,oM,oM,rfl,by simp;omega,rfl,rfl,rfl,rfl⟩ ?_
  rintro q D L S ⟨k,r,hk1,hk2,ht,hb,rfl,rfl,rfl,rfl⟩;refine gg ?_;refine if_d (fun hc => ?_) (fun hc => ?_)
  ·have hki : k < n := oM;have hb2 : (64 : Nat) ^ (k - 1) <= 64 ^ 2 := Nat.pow_le_pow_right oM oM;obtain ⟨x,hx⟩ : ∃ x,(c :: l).getD k 0 = x := ⟨_,rfl⟩;have hd := Wq c l k hk1 oM;rw [hx] at hd;rw [hd,show n - k = (n - k - 1) + 1 from oM,qh] at ht;have hx256 := x.toNat_lt;refine gg ?_;rw [hx];refine cR (dr x) ?_
   cases htl : vw x with
   | false =>
    rw [htl] at ht;simp only [Bool.false_eq_true,if_false] at ht;rw [ht] at hdec;rw [hdec];refine gg ?_;refine zf [] ?_;exact ⟨rfl,rfl⟩
   | true =>
    rw [htl] at ht;simp only [if_true] at ht;have htl' := htl;simp only [vw,aM,decide_eq_true_eq] at htl';refine gg ?_;rw [hx];obtain ⟨xn,hxn⟩ : ∃ xn,x.toNat = xn := ⟨_,rfl⟩;refine zF ?_;rw [dh hxn oM oM];refine gg ?_
    have e64 : (64 : Nat) ^ k = 64 * 64 ^ (k - 1) := by
     obtain ⟨j,rfl⟩ : ∃ j,k = j + 1 := ⟨k - 1,oM⟩;rw [mO,Nat.pow_succ,Nat.mul_comm]
    exact zI ⟨k + 1,r * 64 + (xn - 128),oM,oM,by rw [ht,hxn,show n - (k + 1) = n - k - 1 from oM,mO],by rw [mO,e64];omega,rfl,rfl,rfl,rfl⟩
  ·have hki : k = n := oM;subst hki;rw [Nat.sub_self,qh] at ht;rw [ht] at hdec;simp only at hdec;rw [hdec];have hbd := ww _ _ _ _ (show qh (k - 1) r0 l = some r from ht);have hk : k = 2 ∨ k = 3 ∨ k = 4 := oM;obtain ⟨ri,hri⟩ : ∃ ri : Int,(r : Int) = ri := ⟨_,rfl⟩;refine gg ?_;rw [hri]
   rcases hk with rfl | rfl | rfl
   ·simp only [iF,Nat.reducePow] at hbd;rw [if_pos (show okR 2 r = true by simp [okR];omega)];refine gg ?_;rw [dF (oM : ¬ 55296 <= ri)];refine gg ?_;rw [dF (oM : ¬ 1114111 < ri)];refine gg ?_
    (try rw [hri])
    refine zf [] ?_;exact ⟨rfl,rfl⟩
   ·simp only [iF,Nat.reducePow] at hbd;refine gg ?_
    by_cases g1 : ri < 2048
    ·rw [dT g1,if_neg (show ¬ okR 3 r = true by simp [okR];omega)];refine gg ?_;refine zf [] ?_;exact ⟨rfl,rfl⟩
    ·rw [dF g1];refine gg ?_
     by_cases g2 : 55296 <= ri
     ·rw [dT g2];refine gg ?_
      by_cases g3 : ri <= 57343
      ·rw [dT g3,if_neg (show ¬ okR 3 r = true by simp [okR];omega)];refine gg ?_;refine zf [] ?_;exact ⟨rfl,rfl⟩
      ·rw [dF g3];refine gg ?_;rw [dF (oM : ¬ 1114111 < ri),if_pos (show okR 3 r = true by simp [okR];omega)];refine gg ?_
       (try rw [hri])
       refine zf [] ?_;exact ⟨rfl,rfl⟩
     ·rw [dF g2];refine gg ?_;rw [dF (oM : ¬ 1114111 < ri),if_pos (show okR 3 r = true by simp [okR];omega)];refine gg ?_
      (try rw [hri])
      refine zf [] ?_;exact ⟨rfl,rfl⟩
   ·simp only [iF,Nat.reducePow] at hbd;refine gg ?_
    by_cases g1 : ri < 65536
    ·rw [dT g1,if_neg (show ¬ okR 4 r = true by simp [okR];omega)];refine gg ?_;refine zf [] ?_;exact ⟨rfl,rfl⟩
    ·rw [dF g1];refine gg ?_;rw [dT (oM : 55296 <= ri)];refine gg ?_;rw [dF (oM : ¬ ri <= 57343)];refine gg ?_
     by_cases g3 : 1114111 < ri
     ·rw [dT g3,if_neg (show ¬ okR 4 r = true by simp [okR];omega)];refine gg ?_;refine zf [] ?_;exact ⟨rfl,rfl⟩
     ·rw [dF g3,if_pos (show okR 4 r = true by simp [okR];omega)];refine gg ?_
      (try rw [hri])
      refine zf [] ?_;exact ⟨rfl,rfl⟩
def encS (p : Nat × Int) : LV := [.int .i64 p.1,.int .i64 p.2]
theorem encS_len (p : Nat × Int) : (encS p).length = 2 := rfl
theorem cell_S (p : Nat × Int) : ∀ v ∈ encS p,Value.cell1 v := fun v h => by
 simp only [encS,aY,aT,or_false] at h
 rcases h with rfl | rfl <;> trivial
abbrev OwnS (C : zd) (a : OA) (cap : Nat) (l : List (Nat × Int)) : Prop := Ost.Own 2 312 C a l.length cap (l.flatMap encS)
instance iNE_1 : xi prog 312 [(0,1),(1,1)] := ⟨kM⟩
instance iNE_2 : TEq prog 312 [.i,.i] := ⟨kM⟩
theorem JV {s : L8} {k : Nat} (h : k < s.length) : s.drop k ≠ [] := fun e => by
 have := congrArg mA e;rw [aV,aQ] at this;omega
theorem WE {s : L8} {k : Nat} (h : k < s.length) : ∃ c l,s.drop k = c :: l /\ l.length + 1 = s.length - k := by
 obtain ⟨c,l,e⟩ := List.exists_cons_of_ne_nil (JV h);refine ⟨c,l,e,?_⟩;have := congrArg mA e;rw [aV,aH] at this;omega
theorem YC (s : L8) (hlen : s.length <= 1000000) :
  zh prog 171 [sT s] [] fun v A => ∃ X a cap,v = .slice a (sg 0 s).length cap /\ OwnS X a cap (sg 0 s) /\ A = [X] := by
 refine eNg func171 ntmps171 results171 fun F => ?_
 refine zU ?_
 refine zM (fun q D L S => ∃ (k : Nat) (pre : List (Nat × Int)) (X : zd) (xa : OA) (xc : Nat),k <= s.length /\ sg 0 s = pre ++ sg k (s.drop k) /\ OwnS X xa xc pre /\ pre.length <= k /\ q = s.length - k /\ D = [] /\
  L = [(4,.int .i64 k),(3,.slice xa pre.length xc),(0,sT s)] /\ S = [X,F])
  ⟨0,[],[],none,0,oM,rfl,zJ,sM,rfl,rfl,rfl,rfl⟩ ?_
 rintro q D L S ⟨k,pre,X,xa,xc,hk,he,hX,hpl,rfl,rfl,rfl,rfl⟩;refine gg ?_;refine if_d (fun hc => ?_) (fun hc => ?_)
 ·have hlt : k < s.length := oM;obtain ⟨c,l,hcl,hl⟩ := WE hlt;have hstep := Ys k (JV hlt);have hpos := JW (s.drop k);have hln := II (JV hlt);rw [aV] at hln;rw [mQ] at hstep;have hf := cu c l oM;rw [<- hcl] at hf;refine gg ?_;refine cR (hf) ?_;generalize dec (s.drop k) = d at *;refine oT [(0,.int .i64 k),(1,.int .i64 d.1)] #[.int .i64 k,.int .i64 d.1] ?_;refine zF ?_;refine xt (e := 312) (s := 2) (hs := inferInstance) (vs := encS (k,d.1)) (by rfl) dM dM rfl (fun b1 C1 ho1 => ?_);refine zF ?_;refine zu (e := 312) (s := 2) (hs := inferInstance) (by rfl) dM hX (.inr pkA) (ho1.rd mmA) (cell_S _) (by simp only [maxLen];omega) oM (fun C3 a3 cap3 ho3 => ?_);have e1 : pre.length + 1 = (pre ++ [(k,d.1)]).length := sM;have e2 : pre.flatMap encS ++ encS (k,d.1) = (pre ++ [(k,d.1)]).flatMap encS := sM;rw [e1,e2] at ho3;rw [e1];refine gg ?_;exact zI ⟨k + d.2,pre ++ [(k,d.1)],C3,a3,cap3,oM,by rw [he,hstep];simp,ho3,by simp;omega,rfl,rfl,rfl,rfl⟩
 ·obtain rfl : k = s.length := oM;rw [mR,sg_nil,aL] at he;subst he;refine gg ?_;refine ze [X] ⟨X,xa,xc,rfl,hX,rfl⟩
theorem Qz (s : L8) : zh prog 243 [sT s] []
  fun u A => ∃ p,u = .func (.func 253) #[] #[pT p] /\ A = [bx p (sT s) 9] := by
 refine eNg func243 ntmps243 results243 fun F => ?_
 refine oBg fun p1 => ?_
 refine ze [bx p1 (sT s) 9] ⟨p1,rfl,rfl⟩
def encN (x : Nat × Int) : LV := [.int .i64 x.1,.int .i32 x.2]
abbrev withC (C : zd) (_ : List (Nat × Int)) (_ : Nat × Int) (H : zb) : Prop := H = [C]
theorem QA {C : zd} (hG : GNam C) (p : Nat) (s : L8) (hlen : s.length <= 1000000) :
  wN prog 253 [] [pT p] encN [bx p (sT s) 9,C]
   (fun T => T = []) (withC C) (withC C) (withC C) (cT (sg 0 s)) (fun pre => pre = sg 0 s)
   (fun _ A => A = [bx p (sT s) 9,C]) (fun _ A => A = [bx p (sT s) 9,C]) false := by
 refine vv kM fun l0 J Jx hN hT hY Cj hC => ?_
 refine eNg func253 ntmps253 results253 fun F => ?_
 refine zM (fun q D L S => ∃ (k : Nat) (pre : List (Nat × Int)) (Cj : zd),k <= s.length /\ sg 0 s = pre ++ sg k (s.drop k) /\ J pre Cj /\ q = s.length - k /\ D = [] /\
  L = [(3,.int .i64 k),(0,.func (.yield l0) #[] #[]),(1,pT p)] /\ S = [Cj,bx p (sT s) 9,C,F])
  ⟨0,[],Cj,oM,rfl,hC,rfl,rfl,rfl,rfl⟩ ?_
 rintro q D L S ⟨k,pre,Cj,hk,he,hJ,rfl,rfl,rfl,rfl⟩;refine gg ?_;refine if_d (fun hc => ?_) (fun hc => ?_)
 ·have hlt : k < s.length := oM;obtain ⟨c,l,hcl,hl⟩ := WE hlt;have hstep := Ys k (JV hlt);have hpos := JW (s.drop k);have hln := II (JV hlt);rw [aV] at hln;rw [mQ] at hstep;have hf := UE hG c l oM;rw [<- hcl] at hf;refine gg ?_;refine cR (hf) ?_;generalize dec (s.drop k) = d at *;rw [hstep] at he;refine xd fun K hK => ?_
  refine jz (hY pre (k,d.1) ⟨_,he⟩) hJ rfl tkA (fun C4 H4 hJ4 hH4 => ?_) (fun C4 H4 hJ4 hH4 => ?_)
  ·subst hH4
   (try simp only [aD,aC])
   refine hK _ _ ?_;clear hK K;refine gg ?_;exact zI ⟨k + d.2,pre ++ [(k,d.1)],C4,oM,by rw [he];simp,hJ4,rfl,rfl,rfl,rfl⟩
  ·subst hH4
   (try simp only [aD,aC])
   refine hK _ _ ?_;clear hK K;refine gg ?_;exact jO [C4,bx p (sT s) 9,C] ⟨C4,_,rfl,.inr ⟨pre,_,⟨_,he⟩,hJ4,rfl⟩⟩
 ·obtain rfl : k = s.length := oM;rw [mR,sg_nil,aL] at he;subst he;refine gg ?_;exact xm [Cj,bx p (sT s) 9,C] ⟨Cj,_,rfl,.inl ⟨_,rfl,hJ,rfl⟩⟩
theorem next_rng {s : L8} {pre : List (Nat × Int)} {x : Nat × Int} (h : cT (sg 0 s) pre x) : -1 <= x.2 /\ x.2 <= 1114111 /\ pre.length + 1 <= s.length /\ (0 <= x.2 -> sgn x.2 = true) := by
 obtain ⟨post,h⟩ := h;have hm : x.2 ∈ rs s := by rw [<- KC _ 0 s (aR _),h];simp
 have h1 := dY _ s (aR _) _ hm;have h2 := OM _ s (aR _);have h3 := sg_len 0 s;rw [h,aB,aH] at h3;exact ⟨h1.1,h1.2,oM,OL _ s (aR _) _ hm⟩
def badB (s : L8) : Bool := (rs s).any (fun r => decide (r < 0))
theorem IR {C : zd} (hG : GNam C) (s : L8) (hlen : s.length <= 1000000) :
  zh prog 214 [sT s] [C] fun v A => v = .bool (!badB s) /\ A = [C] := by
 refine eNg func214 ntmps214 results214 fun F => ?_
 refine zF ?_;refine zC fun b2 => ?_;(try simp only [Value.cells])
 refine gg ?_;refine cA (Qz s) ?_;rintro v A ⟨p,rfl,rfl⟩;refine gA ?_
 refine jV (by (try simp only [evT,zj,zi,aJ]);(first | done | exact rfl)) (QA hG p s hlen) (by (repeat (first | exact Take.nil _ | with_reducible exact Pick.head _ _ | with_reducible apply Pick.tail | with_reducible apply Take.cons))) (fun pre Cl => (∀ x ∈ pre,0 <= x.2) /\ Cl = [bx b2 (.bool false) 4,F])
  (fun k pre Cl => k = .ret /\ (∃ x ∈ sg 0 s,x.2 < 0) /\ Cl = [bx b2 (.bool false) 4,F]) (fun h => by cases h) (fun Cl hC => ?_) (fun _ => rfl) ⟨sM,rfl⟩ ?_ ?_ ?_
 ·exact ⟨[],_,rfl,.refl _⟩
 ·rintro l F1 Cl H r pre x hx ⟨hp,rfl⟩ rfl;obtain ⟨hr1,hr2,hr3,_⟩ := next_rng hx;have hmem : x ∈ sg 0 s := by obtain ⟨post,h⟩ := hx;rw [h];simp
  obtain ⟨k,v⟩ := x;simp only at hr1 hr2
  (try simp only [aD,aC,aL,encN])
  (try simp only [qP,putT,iN,if_true,reduceIte,Array.toList,mG])
  refine gg ?_;refine ⟨_,.cons (.head _ _) (zn.refl _),fun r' _ => ?_⟩;refine gg ?_;refine if_b (fun hc => ?_) (fun hc => ?_)
  ·refine gg ?_;exact ⟨_,⟨_,[C],rfl,⟨rfl,⟨_,hmem,by simp only;omega⟩,rfl⟩,rfl⟩,by (try simp only [aC,aD]);first | ((repeat (first | with_reducible exact zn.nil _ | with_reducible exact Pick.head _ _ | with_reducible apply Pick.tail | with_reducible apply zn.cons));done) | ((repeat (first | exact zn.nil _ | exact Pick.head _ _ | apply Pick.tail | apply zn.cons));done)⟩
  ·refine gg ?_
   exact ⟨_,⟨_,[C],rfl,⟨fun y hy => by
    rcases List.mem_append.1 hy with hy | hy
    ·exact hp y hy
    ·rw [List.mem_singleton.1 hy];simp only;omega,rfl⟩,rfl⟩,by (try simp only [aC,aD]);first | ((repeat (first | with_reducible exact zn.nil _ | with_reducible exact Pick.head _ _ | with_reducible apply Pick.tail | with_reducible apply zn.cons));done) | ((repeat (first | exact zn.nil _ | exact Pick.head _ _ | apply Pick.tail | apply zn.cons));done)⟩
 ·rintro d pre Cl A rfl ⟨hp,rfl⟩ rfl
  have hb : badB s = false := by
   unfold badB;rw [<- KC _ 0 s (aR _),Qf];intro r hr;obtain ⟨x,hx,rfl⟩ := List.mem_map.1 hr;exact hp x hx
  rw [hb]
  (try simp only [aD,aC])
  refine gg ?_;refine zf [C] ⟨rfl,rfl⟩
 ·rintro d k pre x Cl A hx ⟨rfl,⟨y,hy,hy0⟩,rfl⟩ rfl
  have hb : badB s = true := by
   unfold badB;rw [<- KC _ 0 s (aR _),List.any_eq_true];exact ⟨y.2,List.mem_map.2 ⟨y,hy,rfl⟩,dT hy0⟩
  rw [hb]
  (try simp only [aD,aC])
  refine gg ?_;refine zf [C] ⟨rfl,rfl⟩
theorem val8 {a : Int} {n : Nat} (h : a = (n : Int)) (hn : n < 256) : Value.int .u8 a = b8 (aG n) := by
 rw [IN (n := a) oM oM]
 congr 2;omega
theorem one8 {i : Nat} {x u : Value} (h : x = u) : ([(i,x)] : List (Nat × Value)).map (·.2) = [u] := by rw [h];rfl
theorem two8 {i j : Nat} {x y u v : Value} (h : x = u) (h2 : y = v) : ([(i,x),(j,y)] : List (Nat × Value)).map (·.2) = [u,v] := by rw [h,h2];rfl
theorem three8 {i j k : Nat} {x y z u v w : Value} (h : x = u) (h2 : y = v) (h3 : z = w) : ([(i,x),(j,y),(k,z)] : List (Nat × Value)).map (·.2) = [u,v,w] := by rw [h,h2,h3];rfl
theorem four8 {i j k l : Nat} {x y z t u v w s : Value} (h : x = u) (h2 : y = v) (h3 : z = w) (h4 : t = s) : ([(i,x),(j,y),(k,z),(l,t)] : List (Nat × Value)).map (·.2) = [u,v,w,s] := by rw [h,h2,h3,h4];rfl
theorem YO (r : Int) (hr : r <= 4294967296) : zh prog 175 [.int .i64 r] [] (New8 5 (enc r) []) := by
 have hodd : sgn r = false -> enc r = [239,191,189] := fun h => by unfold enc;rw [if_pos h]
 refine eNg func175 ntmps175 results175 fun F => ?_
 by_cases h1 : r < 0
 ·rw [dT h1,hodd (by simp [sgn];omega)];refine gg ?_;refine zF ?_;refine xI ([239,191,189]) dM rfl (rfl) (fun b9 C9 ho9 => ?_);refine gg ?_;refine ze ([C9]) ?_;exact ⟨_,_,_,rfl,ho9,rfl⟩
 rw [dF h1];refine gg ?_
 by_cases h2 : 1114111 < r
 ·rw [dT h2,hodd (by simp [sgn];omega)];refine gg ?_;refine zF ?_;refine xI ([239,191,189]) dM rfl (rfl) (fun b9 C9 ho9 => ?_);refine gg ?_;refine ze ([C9]) ?_;exact ⟨_,_,_,rfl,ho9,rfl⟩
 rw [dF h2];refine gg ?_;have hlow : r < 55296 ∨ 57343 < r -> ¬ sgn r = false := fun h => by simp [sgn];omega
 by_cases h3 : 55296 <= r
 ·rw [dT h3];refine gg ?_
  by_cases h4 : r <= 57343
  ·rw [dT h4,hodd (by simp [sgn];omega)];refine gg ?_;refine zF ?_;refine xI ([239,191,189]) dM rfl (rfl) (fun b9 C9 ho9 => ?_);refine gg ?_;refine ze ([C9]) ?_;exact ⟨_,_,_,rfl,ho9,rfl⟩
  ·rw [dF h4];refine gg ?_;rw [dF (oM : ¬ r < 128)];refine gg ?_;rw [dF (oM : ¬ r < 2048)];refine gg ?_
   by_cases h5 : r < 65536
   ·rw [dT h5]
    have he : enc r = [aG (224 + r.toNat / 4096),aG (128 + r.toNat / 64 % 64),aG (128 + r.toNat % 64)] := by
     unfold enc;rw [if_neg (hlow oM),if_neg oM,if_neg oM,if_pos h5]
    rw [he];refine gg ?_;refine zF ?_;refine xI ([aG (224 + r.toNat / 4096),aG (128 + r.toNat / 64 % 64),aG (128 + r.toNat % 64)]) dM rfl (three8 (val8 oM oM) (val8 oM oM) (val8 oM oM)) (fun b9 C9 ho9 => ?_);refine gg ?_;refine ze ([C9]) ?_;exact ⟨_,_,_,rfl,ho9,rfl⟩
   ·rw [dF h5]
    have he : enc r = [aG (240 + r.toNat / 262144),aG (128 + r.toNat / 4096 % 64),aG (128 + r.toNat / 64 % 64),aG (128 + r.toNat % 64)] := by
     unfold enc;rw [if_neg (hlow oM),if_neg oM,if_neg oM,if_neg h5]
    rw [he];refine gg ?_;refine zF ?_;refine xI ([aG (240 + r.toNat / 262144),aG (128 + r.toNat / 4096 % 64),aG (128 + r.toNat / 64 % 64),aG (128 + r.toNat % 64)]) dM rfl (four8 (val8 oM oM) (val8 oM oM) (val8 oM oM) (val8 oM oM)) (fun b9 C9 ho9 => ?_);refine gg ?_;refine ze ([C9]) ?_;exact ⟨_,_,_,rfl,ho9,rfl⟩
 ·rw [dF h3];refine gg ?_
  by_cases h4 : r < 128
  ·rw [dT h4]
   have he : enc r = [aG r.toNat] := by
    unfold enc;rw [if_neg (hlow oM),if_pos h4]
   rw [he];refine gg ?_;refine zF ?_;refine xI ([aG r.toNat]) dM rfl (one8 (val8 oM oM)) (fun b9 C9 ho9 => ?_);refine gg ?_;refine ze ([C9]) ?_;exact ⟨_,_,_,rfl,ho9,rfl⟩
  ·rw [dF h4];refine gg ?_
   by_cases h5 : r < 2048
   ·rw [dT h5]
    have he : enc r = [aG (192 + r.toNat / 64),aG (128 + r.toNat % 64)] := by
     unfold enc;rw [if_neg (hlow oM),if_neg h4,if_pos h5]
    rw [he];refine gg ?_;refine zF ?_;refine xI ([aG (192 + r.toNat / 64),aG (128 + r.toNat % 64)]) dM rfl (two8 (val8 oM oM) (val8 oM oM)) (fun b9 C9 ho9 => ?_);refine gg ?_;refine ze ([C9]) ?_;exact ⟨_,_,_,rfl,ho9,rfl⟩
   ·rw [dF h5];refine gg ?_;rw [dT (oM : r < 65536)]
    have he : enc r = [aG (224 + r.toNat / 4096),aG (128 + r.toNat / 64 % 64),aG (128 + r.toNat % 64)] := by
     unfold enc;rw [if_neg (hlow oM),if_neg h4,if_neg h5,if_pos oM]
    rw [he];refine gg ?_;refine zF ?_;refine xI ([aG (224 + r.toNat / 4096),aG (128 + r.toNat / 64 % 64),aG (128 + r.toNat % 64)]) dM rfl (three8 (val8 oM oM) (val8 oM oM) (val8 oM oM)) (fun b9 C9 ho9 => ?_);refine gg ?_;refine ze ([C9]) ?_;exact ⟨_,_,_,rfl,ho9,rfl⟩
theorem Kf {H : zd} {a : OA} {cap : Nat} (p : L8) (hp : p.length <= 1000000) (hr : Rd 1 [H] a p.length (p.map b8)) :
  zh prog 81 [.slice a p.length cap] [H] (New8 5 p [H]) := by
 refine eNg func81 ntmps81 results81 fun F => ?_
 cases a with
 | none =>
  have hz : p = [] := by
   rcases p with _ | ⟨x,p⟩
   ·rfl
   ·obtain ⟨_,_,_,_,_,h,_⟩ := hr.2 sM
    cases h
  subst hz;refine zU ?_;refine gg ?_;refine ze ([[],H]) ?_;exact ⟨_,_,_,rfl,zJ,rfl⟩
 | some a =>
  refine gg ?_;refine zF ?_;refine xI ([]) dM rfl (rfl) (fun b7 C7 ho7 => ?_);refine gg ?_;refine zF ?_;refine app8 (ho7) pkA (hr.mem mmA) oM (fun C9 a9 cap9 ho9 => ?_)
  (try simp only [aD,iT] at ho9 ⊢)
  refine gg ?_;refine ze ([C9,H]) ?_;exact ⟨_,_,_,rfl,ho9,rfl⟩
def kk : Nat -> Int -> Nat
 | 0,_ => 0
 | i + 1,r => if ls i <= r then i else kk i r
theorem kk4 (r : Int) : kk 4 r = if 65536 <= r then 3 else if 2048 <= r then 2 else if 128 <= r then 1 else 0 := by
 simp only [kk,ls]
 split
 ·rfl
 ·split
  ·rfl
  ·split
   ·rfl
   ·split <;> rfl
def bt (r k m : Nat) : UInt8 := if m = 0 then ld k ||| aG (r / 2 ^ (6 * k)) else aG 128 ||| (aG (r / 2 ^ (6 * (k - m))) &&& aG 63)
theorem low_or (m : Nat) : aG 128 ||| (aG m &&& aG 63) = aG (128 + m % 64) := by
 have := all8 (fun c => aG 128 ||| (c &&& aG 63) == aG (128 + c.toNat % 64)) (by decide +kernel) (aG m);rw [eq_of_beq this,iO,show m % 2 ^ 8 % 64 = m % 64 from oM]
theorem VQ (k m : Nat) (h : (k = 0 /\ m < 128) ∨ (k = 1 /\ m < 32) ∨ (k = 2 /\ m < 16) ∨ (k = 3 /\ m < 8)) : ld k ||| aG m = aG ((ld k).toNat + m) := by
 have h0 : ∀ (b : UInt8) (n : Nat),(iC n).all (fun m => b ||| aG m == aG (b.toNat + m)) = true -> m < n -> b ||| aG m = aG (b.toNat + m) := fun b n ha hm =>
  eq_of_beq (List.all_eq_true.1 ha m (by simpa using hm))
 rcases h with ⟨rfl,h⟩ | ⟨rfl,h⟩ | ⟨rfl,h⟩ | ⟨rfl,h⟩
 ·exact h0 (ld 0) 128 (by decide +kernel) h
 ·exact h0 (ld 1) 32 (by decide +kernel) h
 ·exact h0 (ld 2) 16 (by decide +kernel) h
 ·exact h0 (ld 3) 8 (by decide +kernel) h
theorem enc_bt (r : Nat) (h : sgn (r : Int) = true) : enc (r : Int) = (iC (kk 4 (r : Int) + 1)).map (bt r (kk 4 (r : Int))) := by
 have h' := h;simp only [sgn,aM,mP,decide_eq_true_eq] at h';unfold enc;rw [if_neg (by rw [h];simp),kk4];simp only [aW]
 by_cases h3 : (65536 : Int) <= r
 ·rw [if_neg oM,if_neg oM,if_neg oM,if_pos h3];have e : (iC (3 + 1)).map (bt r 3) = [bt r 3 0,bt r 3 1,bt r 3 2,bt r 3 3] := rfl;rw [e];simp only [bt,low_or,if_true,Nat.reduceMul,iF,Nat.reducePow,Nat.one_ne_zero,reduceIte,aP,if_false,Nat.div_one];rw [VQ 3 (r / 262144) (.inr (.inr (.inr ⟨rfl,oM⟩)))]
  rfl
 ·rw [if_neg h3]
  by_cases h2 : (2048 : Int) <= r
  ·rw [if_neg oM,if_neg oM,if_pos oM,if_pos h2];have e : (iC (2 + 1)).map (bt r 2) = [bt r 2 0,bt r 2 1,bt r 2 2] := rfl;rw [e];simp only [bt,low_or,if_true,Nat.reduceMul,iF,Nat.reducePow,Nat.one_ne_zero,reduceIte,aP,if_false,Nat.div_one];rw [VQ 2 (r / 4096) (.inr (.inr (.inl ⟨rfl,oM⟩)))]
   rfl
  ·rw [if_neg h2]
   by_cases h1 : (128 : Int) <= r
   ·rw [if_neg oM,if_pos oM,if_pos h1];have e : (iC (1 + 1)).map (bt r 1) = [bt r 1 0,bt r 1 1] := rfl;rw [e];simp only [bt,low_or,if_true,Nat.reduceMul,iF,Nat.reducePow,Nat.one_ne_zero,reduceIte,aP,if_false,Nat.div_one];rw [VQ 1 (r / 64) (.inr (.inl ⟨rfl,oM⟩))]
    rfl
   ·rw [if_pos oM,if_neg h1];have e : (iC (0 + 1)).map (bt r 0) = [bt r 0 0] := rfl;rw [e];simp only [bt,if_true,Nat.reduceMul,Nat.pow_zero,Nat.div_one,reduceIte];rw [VQ 0 r (.inl ⟨rfl,oM⟩)]
    simp [ld]
theorem Oa {C H : zd} (hG : GNam C) {a : OA} {cap : Nat} (p : L8) (hp : p.length <= 900000) (hr : Rd 1 [H] a p.length (p.map b8)) (r0 : Int) :
  zh prog 217 [.slice a p.length cap,.int .i32 r0] [H,C] (New8 5 (p ++ enc r0) [H,C]) := by
 obtain ⟨tg,mg,hg0⟩ := hG.g0;refine eN func217 ntmps217 results217 fun F => ?_
 (with_reducible refine zS ?_);refine zO (fun D L S => D = [] /\ L = [(0,.slice a p.length cap),(1,.int .i32 r0)] /\ S = [H,C,F]) ?_ ?_
 ·refine gg ?_;exact mid ⟨rfl,rfl,rfl⟩
 rintro D L S ⟨rfl,rfl,rfl⟩
 (with_reducible refine zS ?_);refine zO (fun D L S => ∃ r : Nat,sgn (r : Int) = true /\ enc r0 = enc (r : Int) /\ r <= 1114111 /\ D = [] /\ L = [(0,.slice a p.length cap),(1,.int .i32 r)] /\ S = [H,C,F]) ?_ ?_
 ·refine gg ?_;refine cR (KA r0) ?_
  cases hs : sgn r0 with
  | true =>
   have hs' := hs;simp only [sgn,aM,mP,decide_eq_true_eq] at hs';obtain ⟨n,rfl⟩ : ∃ n : Nat,r0 = n := ⟨r0.toNat,oM⟩;refine gg ?_;exact mid ⟨n,hs,rfl,oM,rfl,rfl,rfl⟩
  | false =>
   refine gg ?_;exact mid ⟨65533,dM,by unfold enc;rw [if_pos hs];decide,oM,rfl,rfl,rfl⟩
 rintro D L S ⟨r,hs,he,hr2,rfl,rfl,rfl⟩;rw [he];refine gg ?_;refine cA (Kf p oM hr) ?_;rintro v A ⟨X,xa,xc,rfl,hX,rfl⟩;refine gA ?_;refine zF ?_;refine XP (vs := formsV) (ws := Xm 0) (o := 0) (VP hg0 mmA) dM rfl ?_;refine zF ?_;refine zC fun b6 => ?_;(try simp only [Value.cells])
 refine gg ?_;refine oSg (Xm 0) rfl (by simp [Xm,Value.cell1,b8]) ?_;refine zF ?_;refine zz (vs := formsV) (VP hg0 mmA) rfl ?_;refine gg ?_;obtain ⟨ri,hri⟩ : ∃ ri : Int,(r : Int) = ri := ⟨_,rfl⟩
 refine zM (fun q D L S => ∃ i : Nat,i <= 4 /\ q = 4 - i /\ D = [] /\ L = [(19,.int .i64 i),(18,.agg formsV.toArray),(1,.int .i32 ri),(5,.slice xa p.length xc),(6,pT b6)] /\
  S = [[(b6,.cells (Xm (kk i ri)).toArray 369 (0,0))],X,H,C,F])
  ⟨0,oM,rfl,rfl,by rw [<- hri],rfl⟩ ?_
 ·rintro q D L S ⟨i,hi,rfl,rfl,rfl,rfl⟩;refine gg ?_;refine if_d (fun hc => ?_) (fun hc => ?_)
  ·have hi4 : i < 4 := oM;refine gg ?_;refine zF ?_;rw [arr_el oM oM,aW,IA i hi4];refine zF ?_;refine zC fun b8' => ?_;(try simp only [Value.cells])
   refine gg ?_;refine oS (Xm i) rfl (by simp [Xm,Value.cell1,b8]) ?_;simp only [Xm];refine gg ?_;have hk : kk (i + 1) ri = if ls i <= ri then i else kk i ri := rfl;refine if_d (fun hc => ?_) (fun hc => ?_)
   ·rw [if_pos hc] at hk;refine gg ?_;refine oL [.int .i64 ((i : Int) + 1),b8 (mk i),b8 (ld i),.int .i32 (ls i)] rfl ?_;refine oSg ([.int .i64 ((i : Int) + 1),b8 (mk i),b8 (ld i),.int .i32 (ls i)]) rfl (by simp [Value.cell1,b8]) ?_;exact zI ⟨i + 1,oM,rfl,rfl,rfl,by rw [hk]⟩
   ·rw [if_neg hc] at hk;refine gg ?_;exact zI ⟨i + 1,oM,rfl,rfl,rfl,by rw [hk]⟩
  ·obtain rfl : i = 4 := oM;have hen := enc_bt r hs;rw [hen];have hk4 : kk 4 ri < 4 := by rw [kk4];split <;> (try split) <;> (try split) <;> omega
   rw [hri];generalize kk 4 ri = k at *;have hrn : ri.toNat = r := oM;simp only [Xm];refine gg ?_;rw [show (k : Int) + 1 - 1 = (k : Int) - ((0 : Nat) : Int) from oM];have hll : ((iC (k + 1)).map (bt r k)).length = k + 1 := sM;obtain ⟨lst,hlst⟩ : ∃ lst,(iC (k + 1)).map (bt r k) = lst := ⟨_,rfl⟩
   have hbt : ∀ m,m <= k -> lst.take (m + 1) = lst.take m ++ [bt r k m] := fun m hm => by
    rw [<- hlst,lG,lF,List.getElem?_range oM];rfl
   rw [hlst] at hll ⊢
   refine zM (fun q D L S => ∃ (m : Nat) (Y : zd) (ya : OA) (yc : Nat),m <= k + 1 /\ Own8 5 Y ya (p.length + m) yc (p ++ lst.take m) /\ q = k + 1 - m /\ D = [] /\
    L = [(9,.int .i64 ((k : Int) - m)),(1,.int .i32 ri),(5,.slice ya (p.length + m) yc),(6,pT b6)] /\
    S = [Y,[(b6,.cells #[.int .i64 ((k : Int) + 1),b8 (mk k),b8 (ld k),.int .i32 (ls k)] 369 (0,0))],H,C,F])
    ⟨0,X,xa,xc,oM,by simpa using hX,rfl,rfl,rfl,rfl⟩ ?_
   rintro q D L S ⟨m,Y,ya,yc,hm,hY,rfl,rfl,rfl,rfl⟩;refine gg ?_;refine if_d (fun hc => ?_) (fun hc => ?_)
   ·have hmk : m <= k := oM;have hb := hbt m hmk;refine gg ?_;refine zF ?_;rw [i32_shr oM oM oM,hrn,show (6 * ((k : Int) - m)).toNat = 6 * (k - m) from oM];refine gg ?_;refine if_b (fun hc => ?_) (fun hc => ?_)
    ·obtain rfl : m = 0 := oM;have hbe : bt r k 0 = ld k ||| aG (r / 2 ^ (6 * k)) := by unfold bt;rw [if_pos rfl]
     refine gg ?_;refine zF ?_;rw [dg,Ost.u8_or,<- hbe];refine gg ?_;refine zF ?_;refine xI ([bt r k 0]) dM rfl (rfl) (fun b7 C7 ho7 => ?_);refine gg ?_;refine zF ?_;refine app8 (hY) pkA ((ho7.rd (aA ..)).mem mmA) oM (fun C9 a9 cap9 ho9 => ?_);refine gg ?_;rw [show (k : Int) - 0 - 1 = (k : Int) - ((0 + 1 : Nat) : Int) from oM];exact zI ⟨0 + 1,C9,a9,cap9,oM,by rw [hb,<- aN];exact ho9,rfl,rfl,rfl,rfl⟩
    ·have hm0 : m ≠ 0 := fun h => hc (by subst h;omega)
     have hbe : bt r k m = aG 128 ||| (aG (r / 2 ^ (6 * (k - m))) &&& aG 63) := by unfold bt;rw [if_neg hm0]
     refine gg ?_;refine zF ?_;rw [dg,Ost.u8n_and _ _ _ _ 63 _ dM dM];refine gg ?_
     (try simp only [iM])
     rw [<- hbe];refine zF ?_;refine xI ([bt r k m]) dM rfl (rfl) (fun b7 C7 ho7 => ?_);refine gg ?_;refine zF ?_;refine app8 (hY) pkA ((ho7.rd (aA ..)).mem mmA) oM (fun C9 a9 cap9 ho9 => ?_);refine gg ?_;rw [show (k : Int) - (m : Int) - 1 = (k : Int) - ((m + 1 : Nat) : Int) from oM];exact zI ⟨m + 1,C9,a9,cap9,oM,by rw [hb,<- aN];exact ho9,rfl,rfl,rfl,rfl⟩
   ·obtain rfl : m = k + 1 := oM;rw [lE oM] at hY;rw [show p.length + (k + 1) = (p ++ lst).length from by rw [aB,hll]] at hY ⊢;refine gg ?_;refine ze ([Y,H,C]) ?_;exact ⟨_,_,_,rfl,hY,rfl⟩
theorem rd2 {C : zd} (hG : GNam C) : Rd 2 [C] (some ⟨5,0,none⟩) blanks.length (blanks.flatMap Jc) := by
 obtain ⟨t,m,h⟩ := hG.g2;exact VB h rfl
theorem rd3 {C : zd} (hG : GNam C) : Rd 2 [C] (some ⟨6,0,none⟩) nothing.length (nothing.flatMap Jc) := by
 obtain ⟨t,m,h⟩ := hG.g3;exact VB h rfl
theorem rd1 {C : zd} (hG : GNam C) : Rd 2 [C] (some ⟨1,0,none⟩) barred.length (barred.flatMap Jc) := by
 obtain ⟨t,m,h⟩ := hG.g1;exact VB h rfl
theorem blank_in {C : zd} (hG : GNam C) (r : Int) : zh prog 216 [.int .i32 r,.slice (some ⟨5,0,none⟩) 6 6] [C] fun v A => v = .bool (jr r) /\ A = [C] := yR blanks dM (rd2 hG) r
theorem goes_in {C : zd} (hG : GNam C) (r : Int) : zh prog 216 [.int .i32 r,.slice (some ⟨6,0,none⟩) 5 5] [C] fun v A => v = .bool (qg r) /\ A = [C] := yR nothing dM (rd3 hG) r
theorem bars_in {C : zd} (hG : GNam C) (r : Int) : zh prog 216 [.int .i32 r,.slice (some ⟨1,0,none⟩) 9 9] [C] fun v A => v = .bool (Nam.within r barred) /\ A = [C] := yR barred dM (rd1 hG) r
theorem VF (s : L8) : zh prog 215 [sT s] []
  fun u A => ∃ p,u = .func (.func 244) #[] #[pT p] /\ A = [bx p (sT s) 9] := by
 refine eNg func215 ntmps215 results215 fun F => ?_
 refine oBg fun p1 => ?_
 refine ze [bx p1 (sT s) 9] ⟨p1,rfl,rfl⟩
def kp (pre : List (Nat × Int)) : List Int := keep (pre.map (·.2))
theorem kp_snoc (pre : List (Nat × Int)) (x : Nat × Int) : kp (pre ++ [x]) = kp pre ++ kD x.2 := by
 unfold kp;rw [lL,keep_app];simp [keep]
theorem kp_next {s : L8} {pre : List (Nat × Int)} {x : Nat × Int} {y : Int} (h : cT (sg 0 s) pre x) (hy : kD x.2 = [y]) : cT (keep (rs s)) (kp pre) y := by
 obtain ⟨post,h⟩ := h;refine ⟨kp post,?_⟩;rw [<- KC _ 0 s (aR _),h];unfold kp;rw [lL,iB,keep_app,show keep (x.2 :: post.map (·.2)) = kD x.2 ++ keep (post.map (·.2)) from rfl,hy];rfl
def encI (x : Int) : LV := [.int .i32 x]
abbrev withI (C : zd) (_ : List Int) (_ : Int) (H : zb) : Prop := H = [C]
theorem VG {C : zd} (hG : GNam C) (p : Nat) (s : L8) (hlen : s.length <= 1000000) :
  wN prog 244 [] [pT p] encI [bx p (sT s) 9,C]
   (fun T => T = []) (withI C) (withI C) (withI C) (cT (keep (rs s))) (fun pre => pre = keep (rs s))
   (fun _ A => A = [bx p (sT s) 9,C]) (fun _ A => A = [bx p (sT s) 9,C]) false := by
 refine vv kM fun l0 J Jx hN hT hY Cj hC => ?_
 refine eNg func244 ntmps244 results244 fun F => ?_
 refine oBg fun b2 => ?_
 refine cA (Qz s) ?_;rintro v A ⟨p2,rfl,rfl⟩;refine gA ?_
 refine jV (by (try simp only [evT,zj,zi,aJ]);(first | done | exact rfl)) (QA hG p2 s hlen) (by (repeat (first | exact Take.nil _ | with_reducible exact Pick.head _ _ | with_reducible apply Pick.tail | with_reducible apply Take.cons))) (fun pre S => ∃ Cj,J (kp pre) Cj /\ S = [bx b2 (.func (.yield l0) #[] #[]) 365,F,Cj,bx p (sT s) 9])
  (fun k pre S => k = .ret /\ ∃ kpre y Cj,cT (keep (rs s)) kpre y /\ Jx (kpre ++ [y]) Cj /\ S = [bx b2 (.func (.yield l0) #[] #[]) 365,F,Cj,bx p (sT s) 9]) (fun h => by cases h) (fun S hS => ?_) (fun _ => rfl) ⟨Cj,hC,rfl⟩ ?_ ?_ ?_
 ·exact ⟨[],_,rfl,.refl _⟩
 ·rintro l F1 S H r pre x hx ⟨Cj,hJ,rfl⟩ rfl;have hks := kp_snoc pre x;have hkn := fun y (hy : kD x.2 = [y]) => kp_next hx hy
  obtain ⟨k,v⟩ := x;simp only at hks hkn
  (try simp only [aD,aC,aL,encN])
  (try simp only [qP,putT,iN,if_true,reduceIte,Array.toList,mG])
  refine gg ?_;refine ⟨_,.cons (.head _ _) (zn.refl _),fun r' _ => ?_⟩;have fin : ∀ (y : Int),kD v = [y] -> ∀ (L : Env),True := fun _ _ _ => trivial
  refine gg ?_;refine zF ?_;rw [UZ];refine cR (blank_in hG v) ?_
  cases hb : jr v with
  | true =>
   have hk1 : kD v = [32] := by unfold kD;rw [hb];rfl
   rw [hk1] at hks;refine gg ?_;refine xd fun K hK => ?_
   refine jz (hY (kp pre) 32 (hkn 32 hk1)) hJ rfl tkA (fun C4 H4 hJ4 hH4 => ?_) (fun C4 H4 hJ4 hH4 => ?_)
   ·subst hH4
    (try simp only [aD,aC])
    refine hK _ _ ?_;clear hK K;refine gg ?_;exact ⟨_,⟨_,[C],rfl,⟨C4,by rw [hks];exact hJ4,rfl⟩,rfl⟩,by (try simp only [aC,aD]);first | ((repeat (first | with_reducible exact zn.nil _ | with_reducible exact Pick.head _ _ | with_reducible apply Pick.tail | with_reducible apply zn.cons));done) | ((repeat (first | exact zn.nil _ | exact Pick.head _ _ | apply Pick.tail | apply zn.cons));done)⟩
   ·subst hH4
    (try simp only [aD,aC])
    refine hK _ _ ?_;clear hK K;refine gg ?_;exact ⟨_,⟨_,[C],rfl,⟨rfl,_,_,C4,hkn 32 hk1,hJ4,rfl⟩,rfl⟩,by (try simp only [aC,aD]);first | ((repeat (first | with_reducible exact zn.nil _ | with_reducible exact Pick.head _ _ | with_reducible apply Pick.tail | with_reducible apply zn.cons));done) | ((repeat (first | exact zn.nil _ | exact Pick.head _ _ | apply Pick.tail | apply zn.cons));done)⟩
  | false =>
   refine gg ?_;refine zF ?_;rw [UZ];refine cR (goes_in hG v) ?_
   cases hg : qg v with
   | true =>
    have hk1 : kD v = [] := by unfold kD;rw [hb,hg];rfl
    rw [hk1,aL] at hks;refine gg ?_;exact ⟨_,⟨_,[C],rfl,⟨Cj,by rw [hks];exact hJ,rfl⟩,rfl⟩,by (try simp only [aC,aD]);first | ((repeat (first | with_reducible exact zn.nil _ | with_reducible exact Pick.head _ _ | with_reducible apply Pick.tail | with_reducible apply zn.cons));done) | ((repeat (first | exact zn.nil _ | exact Pick.head _ _ | apply Pick.tail | apply zn.cons));done)⟩
   | false =>
    have hk1 : kD v = [v] := by unfold kD;rw [hb,hg];rfl
    rw [hk1] at hks;refine gg ?_;refine xd fun K hK => ?_
    refine jz (hY (kp pre) v (hkn v hk1)) hJ rfl tkA (fun C4 H4 hJ4 hH4 => ?_) (fun C4 H4 hJ4 hH4 => ?_)
    ·subst hH4
     (try simp only [aD,aC])
     refine hK _ _ ?_;clear hK K;refine gg ?_;exact ⟨_,⟨_,[C],rfl,⟨C4,by rw [hks];exact hJ4,rfl⟩,rfl⟩,by (try simp only [aC,aD]);first | ((repeat (first | with_reducible exact zn.nil _ | with_reducible exact Pick.head _ _ | with_reducible apply Pick.tail | with_reducible apply zn.cons));done) | ((repeat (first | exact zn.nil _ | exact Pick.head _ _ | apply Pick.tail | apply zn.cons));done)⟩
    ·subst hH4
     (try simp only [aD,aC])
     refine hK _ _ ?_;clear hK K;refine gg ?_;exact ⟨_,⟨_,[C],rfl,⟨rfl,_,_,C4,hkn v hk1,hJ4,rfl⟩,rfl⟩,by (try simp only [aC,aD]);first | ((repeat (first | with_reducible exact zn.nil _ | with_reducible exact Pick.head _ _ | with_reducible apply Pick.tail | with_reducible apply zn.cons));done) | ((repeat (first | exact zn.nil _ | exact Pick.head _ _ | apply Pick.tail | apply zn.cons));done)⟩
 ·rintro d pre S A rfl ⟨Cj,hJ,rfl⟩ rfl;have he : kp (sg 0 s) = keep (rs s) := by unfold kp;rw [KC _ 0 s (aR _)]
  rw [he] at hJ
  (try simp only [aD,aC])
  refine gg ?_;refine XC (vs := []) [Cj,bx p (sT s) 9,C] ⟨Cj,_,rfl,.inl ⟨_,rfl,hJ,rfl⟩⟩
 ·rintro d k pre x S A hx ⟨rfl,kpre,y,Cj,hky,hJ,rfl⟩ rfl
  (try simp only [aD,aC])
  refine gg ?_;refine zf (vs := []) [Cj,bx p (sT s) 9,C] ⟨Cj,_,rfl,.inr ⟨kpre,y,hky,hJ,rfl⟩⟩
theorem and_odd (n : Nat) : (n &&& 65534 == 65534) = decide (65534 <= n % 65536) := by
 have h1 : (n &&& 65534) / 2 = n / 2 % 32768 := by
  have := Nat.and_div_two_pow (a := n) (b := 65534) (n := 1);simp only [Nat.pow_one,Nat.reduceDiv] at this;rw [this];exact Nat.and_two_pow_sub_one_eq_mod (n / 2) 15
 have h2 : (n &&& 65534) % 2 = 0 := by
  have := Nat.and_mod_two_pow (a := n) (b := 65534) (n := 1);simp only [Nat.pow_one,Nat.reduceMod,Nat.and_zero] at this;exact this
 rw [Bool.eq_iff_iff,beq_iff_eq,decide_eq_true_eq];omega
theorem fN (L : List Int) : (L.flatMap enc).length <= 4 * L.length := by
 induction L with
 | nil => simp
 | cons x L ih =>
  have := (Ka x).2;rw [iU,aB,aH];omega
theorem keep_le (l : List Int) : (keep l).length <= l.length := by
 induction l with
 | nil => simp [keep]
 | cons x l ih =>
  have h1 : (kD x).length <= 1 := by unfold kD;split;simp;split <;> simp
  rw [show keep (x :: l) = kD x ++ keep l from rfl,aB,aH];omega
theorem KW {C : zd} (hG : GNam C) (s : L8) (hlen : s.length <= 100000) :
  zh prog 176 [sT s] [C] fun v A => v = .tuple #[sT (prep s).1,.int .i64 (prep s).2] /\ A = [C] := by
 refine eNg func176 ntmps176 results176 fun F => ?_
 refine zF ?_;refine zC fun b2 => ?_;(try simp only [Value.cells])
 refine zF ?_;refine zC fun b3 => ?_;(try simp only [Value.cells])
 refine gg ?_;refine cR (IR hG s oM) ?_
 cases hb : badB s with
 | true =>
  have e : prep s = ([],4) := by unfold prep;unfold badB at hb;rw [if_pos hb]
  rw [e];refine gg ?_;refine zf (vs := [sT [],.int .i64 4]) [C] ⟨rfl,rfl⟩
 | false =>
  have e : prep s = if (keep (rs s)).any kH then ([],5) else ((keep (rs s)).flatMap enc,0) := by unfold prep;rw [if_neg (by unfold badB at hb;rw [hb];simp)]
  have hkl : (keep (rs s)).length <= s.length := mN (keep_le _) (OM _ s (aR _));have hsg : ∀ r ∈ keep (rs s),sgn r = true := Ip fun r hr => OL _ s (aR _) r hr (Qf.1 hb r hr)
  rw [e];refine gg ?_;refine zF ?_;refine zC fun b4 => ?_;(try simp only [Value.cells])
  refine gg ?_;refine cA (VF s) ?_;rintro v A ⟨p,rfl,rfl⟩;refine gA ?_;refine zU ?_
  refine jV (by (try simp only [evT,zj,zi,aJ]);(first | done | exact rfl)) (VG hG p s oM) (by (repeat (first | exact Take.nil _ | with_reducible exact Pick.head _ _ | with_reducible apply Pick.tail | with_reducible apply Take.cons))) (fun pre Cl => (∀ x ∈ pre,kH x = false) /\ ∃ X xa xc,Own8 5 X xa (pre.flatMap enc).length xc (pre.flatMap enc) /\
    Cl = [X,bx b4 (.slice xa (pre.flatMap enc).length xc) 43,bx b3 (.int .i64 0) 35,bx b2 (sT []) 9,F])
   (fun k pre Cl => k = .ret /\ (keep (rs s)).any kH = true /\ Cl = [bx b3 (.int .i64 5) 35,bx b2 (sT []) 9,F]) (fun h => by cases h) (fun Cl hC => ?_) (fun _ => rfl) ⟨sM,[],none,0,zJ,rfl⟩ ?_ ?_ ?_
  ·exact ⟨[],_,rfl,.refl _⟩
  ·rintro l F1 Cl H r pre x hx ⟨hbar,X,xa,xc,hX,rfl⟩ rfl;obtain ⟨post,hx⟩ := hx;have hmem : x ∈ keep (rs s) := by rw [hx];simp
   have hxs := hsg x hmem
   have hpl : pre.length + 1 <= s.length := by
    have := congrArg mA hx;rw [aB,aH] at this;omega
   have hol := fN pre;have hel := Ka x;have hxs' := hxs;simp only [sgn,aM,mP,decide_eq_true_eq] at hxs'
   (try simp only [aD,aC,aL,encI])
   (try simp only [qP,putT,iN,if_true,reduceIte,Array.toList,mG])
   refine gg ?_;refine ⟨_,.cons (.head _ _) (zn.refl _),fun r' _ => ?_⟩;refine gg ?_;refine zF ?_;rw [UZ];refine cR (bars_in hG x) ?_;have hbx : kH x = (Nam.within x barred || decide (65534 <= x % 65536)) := rfl
   have hodd : ((((x.toNat &&& (65534 : Int).toNat : Nat) : Int)) == 65534) = decide (65534 <= x % 65536) := by
    have h1 := and_odd x.toNat
    rw [show decide (65534 <= x % 65536) = decide (65534 <= x.toNat % 65536) from by
     by_cases h : 65534 <= x.toNat % 65536
     ·rw [dT h,dT oM]
     ·rw [dF h,dF oM],<- h1]
    rw [Bool.eq_iff_iff,beq_iff_eq,beq_iff_eq]
    show ((x.toNat &&& 65534 : Nat) : Int) = 65534 ↔ _
    omega
   cases hw : Nam.within x barred with
   | true =>
    rw [hw,Bool.true_or] at hbx;refine gg ?_;exact ⟨_,⟨_,[C],rfl,⟨rfl,by rw [List.any_eq_true];exact ⟨x,hmem,hbx⟩,rfl⟩,rfl⟩,by (try simp only [aC,aD]);first | ((repeat (first | with_reducible exact zn.nil _ | with_reducible exact Pick.head _ _ | with_reducible apply Pick.tail | with_reducible apply zn.cons));done) | ((repeat (first | exact zn.nil _ | exact Pick.head _ _ | apply Pick.tail | apply zn.cons));done)⟩
   | false =>
    rw [hw,mS] at hbx;refine gg ?_;refine zF ?_;rw [i32_and oM oM oM oM];refine gg ?_;rw [show (((x.toNat &&& 65534 : Nat) : Int) == 65534) = kH x from hodd.trans hbx.symm]
    cases hbb : kH x with
    | true =>
     refine gg ?_;exact ⟨_,⟨_,[C],rfl,⟨rfl,by rw [List.any_eq_true];exact ⟨x,hmem,hbb⟩,rfl⟩,rfl⟩,by (try simp only [aC,aD]);first | ((repeat (first | with_reducible exact zn.nil _ | with_reducible exact Pick.head _ _ | with_reducible apply Pick.tail | with_reducible apply zn.cons));done) | ((repeat (first | exact zn.nil _ | exact Pick.head _ _ | apply Pick.tail | apply zn.cons));done)⟩
    | false =>
     refine gg ?_;refine cA (Oa hG (pre.flatMap enc) oM (hX.rd (aA ..)) x) ?_;rintro v A ⟨C7,a7,cap7,rfl,ho7,rfl⟩;refine gA ?_;have e2 : pre.flatMap enc ++ enc x = (pre ++ [x]).flatMap enc := sM;rw [e2] at ho7 ⊢
     have hbar' : ∀ y ∈ pre ++ [x],kH y = false := fun y hy => by
      rcases List.mem_append.1 hy with hy | hy
      ·exact hbar y hy
      ·rw [List.mem_singleton.1 hy];exact hbb
     exact ⟨_,⟨_,[C],rfl,⟨hbar',C7,a7,cap7,ho7,rfl⟩,rfl⟩,by (try simp only [aC,aD]);first | ((repeat (first | with_reducible exact zn.nil _ | with_reducible exact Pick.head _ _ | with_reducible apply Pick.tail | with_reducible apply zn.cons));done) | ((repeat (first | exact zn.nil _ | exact Pick.head _ _ | apply Pick.tail | apply zn.cons));done)⟩
  ·rintro d pre Cl A rfl ⟨hbar,X,xa,xc,hX,rfl⟩ rfl;have ha : (keep (rs s)).any kH = false := by rw [List.any_eq_false];intro x hx;rw [hbar x hx];simp
   rw [ha,if_neg sM]
   (try simp only [aD,aC])
   refine gg ?_;refine zF ?_;refine xW (hX.rd mmA) ?_;refine gg ?_;refine zf (vs := [sT ((keep (rs s)).flatMap enc),.int .i64 0]) [C] ⟨rfl,rfl⟩
  ·rintro d k pre x Cl A hx ⟨rfl,ha,rfl⟩ rfl;rw [ha,if_pos rfl]
   (try simp only [aD,aC])
   refine gg ?_;refine zf (vs := [sT [],.int .i64 5]) [C] ⟨rfl,rfl⟩
end Go.Proofs.YtebikhhoppiapaaGreatDoor
namespace Go.Proofs.YtebikhhoppiapaaGreatDoor
open Go Go.Ost Tryz
theorem XV {b cap : Nat} {p a : OA} {X : zd} {l : L8} (h : Bd b l p a cap X) (xs : L8) (hl : l.length + xs.length <= 900000) (h1 : 1 <= xs.length) :
  zh prog 146 [pT b,sT xs] [bdB b p a l.length cap,X] fun v A => (∃ u,v = u) /\ ∃ p' a' cap' X',Bd b (l ++ xs) p' a' cap' X' /\ A = [bdB b p' a' (l ++ xs).length cap',X'] := by
 obtain ⟨hp,hr,hX⟩ := h;refine eNg func146 ntmps146 results146 fun F => ?_
 refine cR (QW b l.length cap p a hp) ?_;refine zF ?_;refine app_str hX (.inr pkA) oM (fun C9 a9 cap9 ho9 => ?_);refine gg ?_;have e : l.length + xs.length = (l ++ xs).length := sM;rw [e] at ho9 ⊢;have hle := ho9.1;refine zf [bdB b (some ⟨b,0,none⟩) a9 (l ++ xs).length cap9,C9] ⟨⟨_,rfl⟩,_,a9,cap9,C9,⟨.inr rfl,.inl (by rw [<- e] at hle;omega),ho9⟩,rfl⟩
open Go.Nam
instance iNK_1 : TUns prog 358 := ⟨kM⟩
instance iNK_2 : TLies prog 272 := ⟨⟨_,rfl,kM,kM⟩⟩
theorem dp {s : L8} {i : Nat} (h : i < s.length) : s.take (i + 1) = s.take i ++ [s.getD i 0] := by
 rw [lG,mB,aE h];rfl
theorem YP (r : Int) : zh prog 172 [.int .i64 r] [] fun v A => v = .bool (jr r) /\ A = [] := by
 refine eNg func172 ntmps172 results172 fun F => ?_
 by_cases h0 : r = 160
 ·rw [beq_iff_eq.2 h0];rw [show jr r = true from by simp [jr,Nam.within,blanks];omega];refine gg ?_;refine ze [] ?_;exact ⟨rfl,rfl⟩
 rw [beq_eq_false_iff_ne.2 h0];refine gg ?_
 by_cases h1 : r = 5760
 ·rw [beq_iff_eq.2 h1];rw [show jr r = true from by simp [jr,Nam.within,blanks];omega];refine gg ?_;refine ze [] ?_;exact ⟨rfl,rfl⟩
 rw [beq_eq_false_iff_ne.2 h1];refine gg ?_
 by_cases h2 : 8192 <= r
 ·rw [dT h2];refine gg ?_
  by_cases g2 : r <= 8202
  ·rw [dT g2];rw [show jr r = true from by simp [jr,Nam.within,blanks];omega];refine gg ?_;refine ze [] ?_;exact ⟨rfl,rfl⟩
  ·rw [dF g2];refine gg ?_
   by_cases h3 : r = 8239
   ·rw [beq_iff_eq.2 h3];rw [show jr r = true from by simp [jr,Nam.within,blanks];omega];refine gg ?_;refine ze [] ?_;exact ⟨rfl,rfl⟩
   rw [beq_eq_false_iff_ne.2 h3];refine gg ?_
   by_cases h4 : r = 8287
   ·rw [beq_iff_eq.2 h4];rw [show jr r = true from by simp [jr,Nam.within,blanks];omega];refine gg ?_;refine ze [] ?_;exact ⟨rfl,rfl⟩
   rw [beq_eq_false_iff_ne.2 h4];refine gg ?_
   by_cases h5 : r = 12288
   ·rw [beq_iff_eq.2 h5];rw [show jr r = true from by simp [jr,Nam.within,blanks];omega];refine gg ?_;refine ze [] ?_;exact ⟨rfl,rfl⟩
   rw [beq_eq_false_iff_ne.2 h5];rw [show jr r = false from by simp [jr,Nam.within,blanks];omega];refine gg ?_;refine ze [] ?_;exact ⟨rfl,rfl⟩
 ·rw [dF h2];refine gg ?_
  by_cases h3 : r = 8239
  ·rw [beq_iff_eq.2 h3];rw [show jr r = true from by simp [jr,Nam.within,blanks];omega];refine gg ?_;refine ze [] ?_;exact ⟨rfl,rfl⟩
  rw [beq_eq_false_iff_ne.2 h3];refine gg ?_
  by_cases h4 : r = 8287
  ·rw [beq_iff_eq.2 h4];rw [show jr r = true from by simp [jr,Nam.within,blanks];omega];refine gg ?_;refine ze [] ?_;exact ⟨rfl,rfl⟩
  rw [beq_eq_false_iff_ne.2 h4];refine gg ?_
  by_cases h5 : r = 12288
  ·rw [beq_iff_eq.2 h5];rw [show jr r = true from by simp [jr,Nam.within,blanks];omega];refine gg ?_;refine ze [] ?_;exact ⟨rfl,rfl⟩
  rw [beq_eq_false_iff_ne.2 h5];rw [show jr r = false from by simp [jr,Nam.within,blanks];omega];refine gg ?_;refine ze [] ?_;exact ⟨rfl,rfl⟩
theorem bA (r : Int) : zh prog 173 [.int .i64 r] [] fun v A => v = .bool (qg r) /\ A = [] := by
 refine eNg func173 ntmps173 results173 fun F => ?_
 by_cases h0 : r = 173
 ·rw [beq_iff_eq.2 h0];rw [show qg r = true from by simp [qg,Nam.within,nothing];omega];refine gg ?_;refine ze [] ?_;exact ⟨rfl,rfl⟩
 rw [beq_eq_false_iff_ne.2 h0];refine gg ?_
 by_cases h1 : 8203 <= r
 ·rw [dT h1];refine gg ?_
  by_cases g1 : r <= 8205
  ·rw [dT g1];rw [show qg r = true from by simp [qg,Nam.within,nothing];omega];refine gg ?_;refine ze [] ?_;exact ⟨rfl,rfl⟩
  ·rw [dF g1];refine gg ?_
   by_cases h2 : r = 8288
   ·rw [beq_iff_eq.2 h2];rw [show qg r = true from by simp [qg,Nam.within,nothing];omega];refine gg ?_;refine ze [] ?_;exact ⟨rfl,rfl⟩
   rw [beq_eq_false_iff_ne.2 h2];refine gg ?_
   by_cases h3 : 65024 <= r
   ·rw [dT h3];refine gg ?_
    by_cases g3 : r <= 65039
    ·rw [dT g3];rw [show qg r = true from by simp [qg,Nam.within,nothing];omega];refine gg ?_;refine ze [] ?_;exact ⟨rfl,rfl⟩
    ·rw [dF g3];refine gg ?_
     by_cases h4 : r = 65279
     ·rw [beq_iff_eq.2 h4];rw [show qg r = true from by simp [qg,Nam.within,nothing];omega];refine gg ?_;refine ze [] ?_;exact ⟨rfl,rfl⟩
     rw [beq_eq_false_iff_ne.2 h4];rw [show qg r = false from by simp [qg,Nam.within,nothing];omega];refine gg ?_;refine ze [] ?_;exact ⟨rfl,rfl⟩
   ·rw [dF h3];refine gg ?_
    by_cases h4 : r = 65279
    ·rw [beq_iff_eq.2 h4];rw [show qg r = true from by simp [qg,Nam.within,nothing];omega];refine gg ?_;refine ze [] ?_;exact ⟨rfl,rfl⟩
    rw [beq_eq_false_iff_ne.2 h4];rw [show qg r = false from by simp [qg,Nam.within,nothing];omega];refine gg ?_;refine ze [] ?_;exact ⟨rfl,rfl⟩
 ·rw [dF h1];refine gg ?_
  by_cases h2 : r = 8288
  ·rw [beq_iff_eq.2 h2];rw [show qg r = true from by simp [qg,Nam.within,nothing];omega];refine gg ?_;refine ze [] ?_;exact ⟨rfl,rfl⟩
  rw [beq_eq_false_iff_ne.2 h2];refine gg ?_
  by_cases h3 : 65024 <= r
  ·rw [dT h3];refine gg ?_
   by_cases g3 : r <= 65039
   ·rw [dT g3];rw [show qg r = true from by simp [qg,Nam.within,nothing];omega];refine gg ?_;refine ze [] ?_;exact ⟨rfl,rfl⟩
   ·rw [dF g3];refine gg ?_
    by_cases h4 : r = 65279
    ·rw [beq_iff_eq.2 h4];rw [show qg r = true from by simp [qg,Nam.within,nothing];omega];refine gg ?_;refine ze [] ?_;exact ⟨rfl,rfl⟩
    rw [beq_eq_false_iff_ne.2 h4];rw [show qg r = false from by simp [qg,Nam.within,nothing];omega];refine gg ?_;refine ze [] ?_;exact ⟨rfl,rfl⟩
  ·rw [dF h3];refine gg ?_
   by_cases h4 : r = 65279
   ·rw [beq_iff_eq.2 h4];rw [show qg r = true from by simp [qg,Nam.within,nothing];omega];refine gg ?_;refine ze [] ?_;exact ⟨rfl,rfl⟩
   rw [beq_eq_false_iff_ne.2 h4];rw [show qg r = false from by simp [qg,Nam.within,nothing];omega];refine gg ?_;refine ze [] ?_;exact ⟨rfl,rfl⟩
def bar1 (r : Int) : Bool := decide (r <= 31 ∨ (127 <= r /\ r <= 159) ∨ (8232 <= r /\ r <= 8238) ∨ (8294 <= r /\ r <= 8297) ∨ (57344 <= r /\ r <= 63743))
def bar2 (r : Int) : Prop := 983040 <= r ∨ (65529 <= r /\ r <= 65533) ∨ (64976 <= r /\ r <= 65007)
theorem WS {r : Int} (h : r <= 31 ∨ (127 <= r /\ r <= 159) ∨ (8232 <= r /\ r <= 8238) ∨ (8294 <= r /\ r <= 8297) ∨ (57344 <= r /\ r <= 63743)) : bar1 r = true := dT h
theorem WT {r : Int} (h : ¬ (r <= 31 ∨ (127 <= r /\ r <= 159) ∨ (8232 <= r /\ r <= 8238) ∨ (8294 <= r /\ r <= 8297) ∨ (57344 <= r /\ r <= 63743))) : bar1 r = false := dF h
theorem bF (r : Int) (h0 : 0 <= r) (hr : r <= 1114111) : zh prog 174 [.int .i64 r] [] fun v A => v = .bool (kH r) /\ A = [] := by
 have yes : (bar1 r = true ∨ (983040 <= r ∨ (65529 <= r /\ r <= 65533) ∨ (64976 <= r /\ r <= 65007))) -> kH r = true := fun h => by
  have : Nam.within r barred = true := by
   simp only [bar1,decide_eq_true_eq] at h
   simp [Nam.within,barred];omega
  unfold kH;rw [this,Bool.true_or]
 have no : ¬ bar2 r -> bar1 r = false -> kH r = decide (65534 <= r % 65536) := fun h h2 => by
  have : Nam.within r barred = false := by
   simp only [bar1,decide_eq_false_iff_not] at h2;unfold bar2 at h
   simp [Nam.within,barred];omega
  unfold kH;rw [this,mS]
 refine eN func174 ntmps174 results174 fun F => ?_
 (with_reducible refine zS ?_);refine zO (fun D L S => D = [] /\ L = [(0,.int .i64 r)] /\ S = [F]) ?_ ?_
 ·refine gg ?_;exact mid ⟨rfl,rfl,rfl⟩
 rintro D L S ⟨rfl,rfl,rfl⟩
 (with_reducible refine zS ?_);refine zO (fun D L S => ¬ bar2 r /\ bar1 r = false /\ D = [] /\ L = [(0,.int .i64 r)] /\ S = [F]) ?_ ?_
 ·refine zr ?_
  (with_reducible refine zS ?_);refine zO (fun D L S => ∃ w : Bool,w = bar1 r /\ D = [] /\ L = [(3,.bool w),(0,.int .i64 r)] /\ S = [F]) ?_ ?_
  ·refine gg ?_
   by_cases h : r <= 31
   ·rw [dT h];refine gg ?_;exact mid ⟨true,(WS oM).symm,rfl,rfl,rfl⟩
   rw [dF h];refine gg ?_
   by_cases h0 : 127 <= r
   ·rw [dT h0];refine gg ?_
    by_cases g0 : r <= 159
    ·rw [dT g0];refine gg ?_;exact mid ⟨true,(WS oM).symm,rfl,rfl,rfl⟩
    ·rw [dF g0];refine gg ?_
     by_cases h1 : 8232 <= r
     ·rw [dT h1];refine gg ?_
      by_cases g1 : r <= 8238
      ·rw [dT g1];refine gg ?_;exact mid ⟨true,(WS oM).symm,rfl,rfl,rfl⟩
      ·rw [dF g1];refine gg ?_
       by_cases h2 : 8294 <= r
       ·rw [dT h2];refine gg ?_
        by_cases g2 : r <= 8297
        ·rw [dT g2];refine gg ?_;exact mid ⟨true,(WS oM).symm,rfl,rfl,rfl⟩
        ·rw [dF g2];refine gg ?_
         by_cases h3 : 57344 <= r
         ·rw [dT h3];refine gg ?_
          by_cases g3 : r <= 63743
          ·rw [dT g3];refine gg ?_;exact mid ⟨true,(WS oM).symm,rfl,rfl,rfl⟩
          ·rw [dF g3];refine gg ?_;exact mid ⟨false,(WT oM).symm,rfl,rfl,rfl⟩
         ·rw [dF h3];refine gg ?_;exact mid ⟨false,(WT oM).symm,rfl,rfl,rfl⟩
       ·rw [dF h2];refine gg ?_;rw [dF (oM : ¬ 57344 <= r)];refine gg ?_;exact mid ⟨false,(WT oM).symm,rfl,rfl,rfl⟩
     ·rw [dF h1];refine gg ?_;rw [dF (oM : ¬ 8294 <= r)];refine gg ?_;rw [dF (oM : ¬ 57344 <= r)];refine gg ?_;exact mid ⟨false,(WT oM).symm,rfl,rfl,rfl⟩
   ·rw [dF h0];refine gg ?_;rw [dF (oM : ¬ 8232 <= r)];refine gg ?_;rw [dF (oM : ¬ 8294 <= r)];refine gg ?_;rw [dF (oM : ¬ 57344 <= r)];refine gg ?_;exact mid ⟨false,(WT oM).symm,rfl,rfl,rfl⟩
  rintro D L S ⟨w,hw,rfl,rfl,rfl⟩
  cases w with
  | true =>
   refine gg ?_;rw [yes (.inl hw.symm)];refine ze [] ?_;exact ⟨rfl,rfl⟩
  | false =>
   refine gg ?_
   by_cases k0 : 983040 <= r
   ·rw [dT k0];refine gg ?_;rw [yes (.inr oM)];refine ze [] ?_;exact ⟨rfl,rfl⟩
   rw [dF k0];refine gg ?_
   by_cases k1 : 65529 <= r
   ·rw [dT k1];refine gg ?_
    by_cases k2 : r <= 65533
    ·rw [dT k2];refine gg ?_;rw [yes (.inr oM)];refine ze [] ?_;exact ⟨rfl,rfl⟩
    ·rw [dF k2];refine gg ?_;rw [dT (oM : 64976 <= r)];refine gg ?_;rw [dF (oM : ¬ r <= 65007)];refine gg ?_;exact mid ⟨by unfold bar2;omega,hw.symm,rfl,rfl,rfl⟩
   ·rw [dF k1];refine gg ?_
    by_cases k3 : 64976 <= r
    ·rw [dT k3];refine gg ?_
     by_cases k4 : r <= 65007
     ·rw [dT k4];refine gg ?_;rw [yes (.inr oM)];refine ze [] ?_;exact ⟨rfl,rfl⟩
     ·rw [dF k4];refine gg ?_;exact mid ⟨by unfold bar2;omega,hw.symm,rfl,rfl,rfl⟩
    ·rw [dF k3];refine gg ?_;exact mid ⟨by unfold bar2;omega,hw.symm,rfl,rfl,rfl⟩
 rintro D L S ⟨hno,hno1,rfl,rfl,rfl⟩;refine gg ?_;rw [no hno hno1];refine ze [] ?_;exact ⟨rfl,rfl⟩
theorem bO {s : L8} (h : badB s = false) : prep s = match prepL (rs s) with | none => ([],5) | some b => (b,0) := by
 rw [QF];unfold badB at h;unfold prep;rw [if_neg (by rw [h];simp)]
 cases (keep (rs s)).any kH <;> rfl
theorem Vv (s : L8) (hs : s.length <= 100000) : zh prog 127 [sT s] [] fun v A => v = .tuple #[sT (prep s).1,.int .i64 (prep s).2] /\ A = [] := by
 have hsl := encS_len;have hgl : (sg 0 s).length <= s.length := by rw [sg_len];exact OM _ s (aR _)
 have hrs := KC _ 0 s (aR _);refine eNg func127 ntmps127 results127 fun F => ?_
 refine cA (YC s oM) ?_;rintro v A ⟨X,xa,xc,rfl,hX,rfl⟩;refine gA ?_;obtain ⟨sl,hsg⟩ : ∃ sl,sg 0 s = sl := ⟨_,rfl⟩;rw [hsg] at hX hgl hrs ⊢
 refine zM (fun q D L S => ∃ (i : Nat),i <= sl.length /\ (∀ x ∈ sl.take i,0 <= x.2) /\ q = sl.length - i /\ D = [] /\
  L = [(14,.int .i64 i),(13,.int .i64 sl.length),(12,.slice xa sl.length xc),(4,.slice xa sl.length xc)] /\ S = [X,F])
  ⟨0,oM,sM,rfl,rfl,rfl,rfl⟩ ?_
 rintro q D L S ⟨i,hi,hok,rfl,rfl,rfl,rfl⟩;refine gg ?_;refine if_d (fun hc => ?_) (fun hc => ?_)
 ·have hil : i < sl.length := oM;have hx : sl[i]? = some sl[i] := aE hil;have htk : sl.take (i + 1) = sl.take i ++ [sl[i]] := by rw [lG,hx];rfl
  have hm : sl[i] ∈ sl := lT hil;generalize sl[i] = x at *;obtain ⟨k,v⟩ := x;refine gg ?_;refine zF ?_;refine xh hX hsl hx dM mmA ?_;refine zF ?_;refine zC fun b6 => ?_;(try simp only [Value.cells])
  refine gg ?_;refine oSg [.int .i64 k,.int .i64 v] rfl (by simp [Value.cell1]) ?_;refine if_d (fun hc => ?_) (fun hc => ?_)
  ·have hb : (rs s).any (fun r => decide (r < 0)) = true := by
    rw [<- hrs,List.any_eq_true];exact ⟨v,List.mem_map.2 ⟨(k,v),hm,rfl⟩,dT hc⟩
   rw [show prep s = ([],4) from by unfold prep;rw [if_pos hb]];refine gg ?_;refine zf [] ?_;exact ⟨rfl,rfl⟩
  ·have hok' : ∀ x ∈ sl.take (i + 1),0 <= x.2 := fun x hx => by
    rw [htk] at hx
    rcases List.mem_append.1 hx with hx | hx
    ·exact hok x hx
    ·rw [List.mem_singleton.1 hx];simp only;omega
   refine gg ?_;exact zI ⟨i + 1,oM,hok',rfl,rfl,rfl,rfl⟩
 ·obtain rfl : i = sl.length := oM;rw [iK] at hok
  have hb : badB s = false := by
   unfold badB;rw [<- hrs,Qf];intro r hr;obtain ⟨x,hx,rfl⟩ := List.mem_map.1 hr;exact hok x hx
  rw [bO hb,<- hrs];refine gg ?_;refine zU ?_
  refine zM (fun q D L S => ∃ (i : Nat) (o : L8) (Y : zd) (ya : OA) (yc : Nat),i <= sl.length /\ o.length <= 4 * i /\ (prepL (sl.map (·.2)) = (prepL ((sl.drop i).map (·.2))).map (o ++ ·)) /\ Own8 5 Y ya o.length yc o /\ q = sl.length - i /\ D = [] /\
   L = [(24,.int .i64 i),(23,.int .i64 sl.length),(22,.slice xa sl.length xc),(7,.slice ya o.length yc)] /\ S = [Y,X,F])
   ⟨0,[],[],none,0,oM,sM,by rw [List.drop_zero];cases prepL (sl.map (·.2)) <;> rfl,zJ,rfl,rfl,rfl,rfl⟩ ?_
  rintro q D L S ⟨i,o,Y,ya,yc,hi,hol,hp,hY,rfl,rfl,rfl,rfl⟩;refine gg ?_;refine if_d (fun hc => ?_) (fun hc => ?_)
  ·have hil : i < sl.length := oM;have hx : sl[i]? = some sl[i] := aE hil;have hm : sl[i] ∈ sl := lT hil;have h0 := hok _ hm;have hrg : sl[i].2 <= 1114111 := (dY _ s (aR _) sl[i].2 (by rw [<- hrs];exact List.mem_map.2 ⟨_,hm,rfl⟩)).2;rw [iH hil,iB,prepL] at hp;generalize sl[i] = x at *;obtain ⟨k,v⟩ := x;simp only at h0 hrg hp;have hel := (Ka v).2;have mm : ∀ (c : L8) (z : Option L8),((z.map (c ++ ·)).map (o ++ ·)) = z.map ((o ++ c) ++ ·) := fun c z => by cases z <;> simp
   refine gg ?_
   (try rw [aW])
   refine zF ?_;refine xh hX hsl hx dM mmA ?_;refine zF ?_;refine zC fun b9 => ?_;(try simp only [Value.cells])
   refine gg ?_;refine oSg [.int .i64 k,.int .i64 v] rfl (by simp [Value.cell1]) ?_;refine cR (YP v) ?_
   cases hb1 : jr v with
   | true =>
    rw [hb1,if_pos rfl,show (fun x : L8 => 32 :: x) = fun x => [32] ++ x from rfl,mm] at hp;refine gg ?_;refine zF ?_;refine xI ([32]) dM rfl (rfl) (fun b6 C6 ho6 => ?_);refine gg ?_;refine zF ?_;refine app8 (hY) pkA ((ho6.rd (aA ..)).mem mmA) oM (fun C8 a8 cap8 ho8 => ?_);refine gg ?_;rw [show o.length + 1 = (o ++ [32]).length from sM] at ho8 ⊢;exact zI ⟨i + 1,o ++ [32],C8,a8,cap8,oM,by simp;omega,hp,ho8,rfl,rfl,rfl,rfl⟩
   | false =>
    rw [hb1] at hp;refine gg ?_;refine cR (bA v) ?_
    cases hb2 : qg v with
    | true =>
     rw [hb2] at hp;refine gg ?_;exact zI ⟨i + 1,o,Y,ya,yc,oM,oM,hp,hY,rfl,rfl,rfl,rfl⟩
    | false =>
     rw [hb2] at hp;refine gg ?_;refine cR (bF v h0 hrg) ?_
     cases hb3 : kH v with
     | true =>
      rw [hb3] at hp;simp only [Bool.false_eq_true,if_false,if_true,Option.map_none] at hp;rw [hp];refine gg ?_;refine zf [] ?_;exact ⟨rfl,rfl⟩
     | false =>
      rw [hb3] at hp;simp only [Bool.false_eq_true,if_false] at hp;rw [mm] at hp;refine gg ?_;refine cA (YO v oM) ?_;rintro v A ⟨Z,za,zc,rfl,hZ,rfl⟩;refine gA ?_;refine zF ?_;refine app8 (hY) pkA ((hZ.rd (aA ..)).mem mmA) oM (fun C8 a8 cap8 ho8 => ?_);refine gg ?_;rw [show o.length + (enc v).length = (o ++ enc v).length from sM] at ho8 ⊢;exact zI ⟨i + 1,o ++ enc v,C8,a8,cap8,oM,by simp;omega,hp,ho8,rfl,rfl,rfl,rfl⟩
  ·obtain rfl : i = sl.length := oM;rw [mR] at hp;rw [hp];simp only [mV,prepL,lX,aL];refine gg ?_;refine zF ?_;refine xW (hY.rd mmA) ?_;refine gg ?_;refine zf [] ?_;exact ⟨rfl,rfl⟩
theorem JB {C : zd} (hG : GNam C) (s : L8) (hs : s.length <= 100000) (most : Nat) (hm : most <= 1000) :
  zh prog 128 [sT s,.int .i64 most] [C] fun v A => v = .tuple #[sT (xg s most).1,.int .i64 (xg s most).2] /\ A = [C] := by
 refine eNg func128 ntmps128 results128 fun F => ?_
 refine cR (KW hG s hs) ?_;unfold xg;obtain ⟨p,e⟩ := prep s;simp only
 by_cases h1 : e = 0
 ·subst h1;rw [if_neg sM];refine gg ?_
  by_cases h2 : p = []
  ·subst h2;rw [if_pos rfl];refine gg ?_;refine zf [C] ?_;exact ⟨rfl,rfl⟩
  ·rw [if_neg h2];rw [show (p == []) = false from beq_eq_false_iff_ne.2 h2];refine gg ?_
   by_cases h3 : most < p.length
   ·rw [if_pos h3,dT (oM : (most : Int) < p.length)];refine gg ?_;refine zf [C] ?_;exact ⟨rfl,rfl⟩
   ·rw [if_neg h3,dF (oM : ¬ (most : Int) < p.length)];refine gg ?_;refine zf [C] ?_;exact ⟨rfl,rfl⟩
 ·rw [if_pos h1];refine gg ?_;rw [bne_iff_ne.2 h1];refine gg ?_;refine zf [C] ?_;exact ⟨rfl,rfl⟩
theorem wj {C : zd} (hG : GNam C) (s : L8) (hs : s.length <= 100000) :
  zh prog 76 [sT s] [C] fun v A => v = .tuple #[sT (xg s 32).1,.int .i64 (xg s 32).2] /\ A = [C] := by
 refine eNg func76 ntmps76 results76 fun F => ?_
 refine cR (JB hG s hs 32 dM) ?_;refine zf [C] ?_;exact ⟨rfl,rfl⟩
theorem eS {C : zd} (hG : GNam C) (s : L8) (hs : s.length <= 100000) :
  zh prog 77 [sT s] [C] fun v A => v = .tuple #[sT (xg s 64).1,.int .i64 (xg s 64).2] /\ A = [C] := by
 refine eNg func77 ntmps77 results77 fun F => ?_
 refine cR (JB hG s hs 64 dM) ?_;refine zf [C] ?_;exact ⟨rfl,rfl⟩
theorem kx (s : L8) (hs : s.length <= 100000) (most : Nat) (hm : most <= 1000) :
  zh prog 67 [sT s,.int .i64 most] [] fun v A => v = .tuple #[sT (xg s most).1,.int .i64 (xg s most).2] /\ A = [] := by
 refine eNg func67 ntmps67 results67 fun F => ?_
 refine cR (Vv s hs) ?_;unfold xg;obtain ⟨p,e⟩ := prep s;simp only
 by_cases h1 : e = 0
 ·subst h1;rw [if_neg sM];refine gg ?_
  by_cases h2 : p = []
  ·subst h2;rw [if_pos rfl];refine gg ?_
   (try simp only [aQ])
   (try refine gg ?_)
   refine zf [] ?_;exact ⟨rfl,rfl⟩
  ·have hp : p.length ≠ 0 := fun h => h2 (List.length_eq_zero_iff.1 h)
   rw [if_neg h2];rw [show ((p.length : Int) == 0) = false from beq_eq_false_iff_ne.2 oM];refine gg ?_
   by_cases h3 : most < p.length
   ·rw [if_pos h3,dT (oM : (most : Int) < p.length)];refine gg ?_;refine zf [] ?_;exact ⟨rfl,rfl⟩
   ·rw [if_neg h3,dF (oM : ¬ (most : Int) < p.length)];refine gg ?_;refine zf [] ?_;exact ⟨rfl,rfl⟩
 ·rw [if_pos h1];refine gg ?_;rw [bne_iff_ne.2 h1];refine gg ?_;refine zf [] ?_;exact ⟨rfl,rfl⟩
theorem QG (c : UInt8) (z : Int) (h : (c.toNat : Int) = z) : yP c = ((decide (97 <= z) && decide (z <= 122)) || ((decide (48 <= z) && decide (z <= 57)) || (z == 45 || z == 95))) := by
 subst h;exact eq_of_beq (all8 (fun c => yP c == ((decide (97 <= (c.toNat : Int)) && decide ((c.toNat : Int) <= 122)) || ((decide (48 <= (c.toNat : Int)) && decide ((c.toNat : Int) <= 57)) || ((c.toNat : Int) == 45 || (c.toNat : Int) == 95)))) (by decide +kernel) c)
theorem jQ (s : L8) (n : Nat) : zh prog 10 [sT s,.int .i64 n] [] fun v A => v = sT (s.take n) /\ A = [] := by
 refine eNg func10 ntmps10 results10 fun F => ?_
 have e : s.take (if (n : Int) < s.length then (n : Int) else s.length).toNat = s.take n := by
  split
  ·rw [show ((n : Int)).toNat = n from oM]
  ·rw [lE oM,lE oM]
 rw [e];refine ze [] ?_;exact ⟨rfl,rfl⟩
theorem notall {s : L8} {i : Nat} (h : i < s.length) (hp : yP (s.getD i 0) = false) : yg s = false := by
 unfold yg
 rw [show s.all yP = false from by
  rw [List.all_eq_false];exact ⟨s.getD i 0,by rw [mB,aE h];exact lT h,by rw [hp];simp⟩,Bool.false_and]
theorem IO {s : L8} {i : Nat} (h : i < s.length) (ha : (s.take i).all yP = true) (hp : yP (s.getD i 0) = true) : (s.take (i + 1)).all yP = true := by
 rw [dp h,List.all_append,ha,mK,hp];rfl
theorem Xh (s : L8) (hs : s.length <= 100000) : zh prog 56 [sT s] [] fun v A => v = .bool (yg s) /\ A = [] := by
 refine eNg func56 ntmps56 results56 fun F => ?_
 refine zF ?_;refine xb (by simp only [maxLen];omega) (fun X xa xc hX => ?_);refine gg ?_
 refine zM (fun q D L S => ∃ (i : Nat),i <= s.length /\ (s.take i).all yP = true /\ q = s.length - i /\ D = [] /\
  L = [(8,.int .i64 i),(7,.int .i64 s.length),(6,.slice (some xa) s.length xc),(0,sT s)] /\ S = [X,F])
  ⟨0,oM,rfl,rfl,rfl,rfl,rfl⟩ ?_
 rintro q D L S ⟨i,hi,hall,rfl,rfl,rfl,rfl⟩;refine gg ?_;refine if_d (fun hc => ?_) (fun hc => ?_)
 ·have hil : i < s.length := oM;obtain ⟨z,hz⟩ : ∃ z : Int,((s.getD i 0).toNat : Int) = z := ⟨_,rfl⟩;have hp1 := QG _ z hz;have yes := fun h => IO hil hall h
  have no := fun h => notall hil h
  refine gg ?_;rw [hz]
  by_cases h1 : 97 <= z
  ·rw [dT h1] at hp1 ⊢;refine gg ?_;rw [hz]
   by_cases h2 : z <= 122
   ·rw [dT h2] at hp1 ⊢;refine gg ?_;exact zI ⟨i + 1,oM,yes (by rw [hp1];rfl),rfl,rfl,rfl,rfl⟩
   ·rw [dF h2] at hp1 ⊢;refine gg ?_;rw [hz,dT (oM : 48 <= z)];refine gg ?_;rw [hz,dF (oM : ¬ z <= 57)];refine gg ?_;rw [hz,beq_eq_false_iff_ne.2 (oM : z ≠ 45)];refine gg ?_;rw [hz,beq_eq_false_iff_ne.2 (oM : z ≠ 95)];refine gg ?_;rw [no (by rw [hp1];simp;omega)];refine ze [] ?_;exact ⟨rfl,rfl⟩
  ·rw [dF h1] at hp1 ⊢;refine gg ?_;rw [hz]
   by_cases h3 : 48 <= z
   ·rw [dT h3] at hp1 ⊢;refine gg ?_;rw [hz]
    by_cases h4 : z <= 57
    ·rw [dT h4] at hp1 ⊢;refine gg ?_;exact zI ⟨i + 1,oM,yes (by rw [hp1];rfl),rfl,rfl,rfl,rfl⟩
    ·rw [dF h4] at hp1 ⊢;refine gg ?_;rw [hz,beq_eq_false_iff_ne.2 (oM : z ≠ 45)];refine gg ?_;rw [hz]
     by_cases h5 : z = 95
     ·rw [beq_iff_eq.2 h5] at hp1 ⊢;refine gg ?_;exact zI ⟨i + 1,oM,yes (by rw [hp1];simp),rfl,rfl,rfl,rfl⟩
     ·rw [beq_eq_false_iff_ne.2 h5] at hp1 ⊢;refine gg ?_;rw [no (by rw [hp1];simp;omega)];refine ze [] ?_;exact ⟨rfl,rfl⟩
   ·rw [dF h3] at hp1 ⊢;refine gg ?_;rw [hz]
    by_cases h4 : z = 45
    ·rw [beq_iff_eq.2 h4] at hp1 ⊢;refine gg ?_;exact zI ⟨i + 1,oM,yes (by rw [hp1];simp),rfl,rfl,rfl,rfl⟩
    ·rw [beq_eq_false_iff_ne.2 h4] at hp1 ⊢;refine gg ?_;rw [hz,beq_eq_false_iff_ne.2 (oM : z ≠ 95)];refine gg ?_;rw [no (by rw [hp1];simp;omega)];refine ze [] ?_;exact ⟨rfl,rfl⟩
 ·obtain rfl : i = s.length := oM;rw [iK] at hall;have hpl : yg s = (decide (1 <= s.length) && decide (s.length <= 32)) := by unfold yg;rw [hall,mM]
  rw [hpl];refine gg ?_
  by_cases h0 : s = []
  ·subst h0;refine gg ?_;refine ze [] ?_;exact ⟨rfl,rfl⟩
  ·have hpos : s.length ≠ 0 := fun h => h0 (List.length_eq_zero_iff.1 h)
   rw [bne_iff_ne.2 h0,dT (oM : 1 <= s.length),mM];refine gg ?_
   rw [show decide ((s.length : Int) <= 32) = decide (s.length <= 32) from by
    by_cases h : s.length <= 32
    ·rw [dT h,dT oM]
    ·rw [dF h,dF oM]]
   refine ze [] ?_;exact ⟨rfl,rfl⟩
theorem Jp (s : L8) (hs : s.length <= 100000) : zh prog 73 [sT s] [] fun v A => v = .bool (yg s) /\ A = [] := by
 refine eNg func73 ntmps73 results73 fun F => ?_
 refine zM (fun q D L S => ∃ (i : Nat),i <= s.length /\ (s.take i).all yP = true /\ q = s.length - i /\ D = [] /\
  L = [(3,.int .i64 i),(0,sT s)] /\ S = [F])
  ⟨0,oM,rfl,rfl,rfl,rfl,rfl⟩ ?_
 rintro q D L S ⟨i,hi,hall,rfl,rfl,rfl,rfl⟩;refine gg ?_;refine if_d (fun hc => ?_) (fun hc => ?_)
 ·have hil : i < s.length := oM;obtain ⟨z,hz⟩ : ∃ z : Int,((s.getD i 0).toNat : Int) = z := ⟨_,rfl⟩;have hp1 := QG _ z hz;have yes := fun h => IO hil hall h
  have no := fun h => notall hil h
  refine gg ?_;rw [hz]
  by_cases h1 : 97 <= z
  ·rw [dT h1] at hp1 ⊢;refine gg ?_;rw [hz]
   by_cases h2 : z <= 122
   ·rw [dT h2] at hp1 ⊢;refine gg ?_;exact zI ⟨i + 1,oM,yes (by rw [hp1];rfl),rfl,rfl,rfl,rfl⟩
   ·rw [dF h2] at hp1 ⊢;refine gg ?_;rw [hz,dT (oM : 48 <= z)];refine gg ?_;rw [hz,dF (oM : ¬ z <= 57)];refine gg ?_;rw [hz,beq_eq_false_iff_ne.2 (oM : z ≠ 45)];refine gg ?_;rw [hz,beq_eq_false_iff_ne.2 (oM : z ≠ 95)];refine gg ?_;rw [no (by rw [hp1];simp;omega)];refine ze [] ?_;exact ⟨rfl,rfl⟩
  ·rw [dF h1] at hp1 ⊢;refine gg ?_;rw [hz]
   by_cases h3 : 48 <= z
   ·rw [dT h3] at hp1 ⊢;refine gg ?_;rw [hz]
    by_cases h4 : z <= 57
    ·rw [dT h4] at hp1 ⊢;refine gg ?_;exact zI ⟨i + 1,oM,yes (by rw [hp1];rfl),rfl,rfl,rfl,rfl⟩
    ·rw [dF h4] at hp1 ⊢;refine gg ?_;rw [hz,beq_eq_false_iff_ne.2 (oM : z ≠ 45)];refine gg ?_;rw [hz]
     by_cases h5 : z = 95
     ·rw [beq_iff_eq.2 h5] at hp1 ⊢;refine gg ?_;exact zI ⟨i + 1,oM,yes (by rw [hp1];simp),rfl,rfl,rfl,rfl⟩
     ·rw [beq_eq_false_iff_ne.2 h5] at hp1 ⊢;refine gg ?_;rw [no (by rw [hp1];simp;omega)];refine ze [] ?_;exact ⟨rfl,rfl⟩
   ·rw [dF h3] at hp1 ⊢;refine gg ?_;rw [hz]
    by_cases h4 : z = 45
    ·rw [beq_iff_eq.2 h4] at hp1 ⊢;refine gg ?_;exact zI ⟨i + 1,oM,yes (by rw [hp1];simp),rfl,rfl,rfl,rfl⟩
    ·rw [beq_eq_false_iff_ne.2 h4] at hp1 ⊢;refine gg ?_;rw [hz,beq_eq_false_iff_ne.2 (oM : z ≠ 95)];refine gg ?_;rw [no (by rw [hp1];simp;omega)];refine ze [] ?_;exact ⟨rfl,rfl⟩
 ·obtain rfl : i = s.length := oM;rw [iK] at hall;have hpl : yg s = (decide (1 <= s.length) && decide (s.length <= 32)) := by unfold yg;rw [hall,mM]
  rw [hpl];refine gg ?_
  by_cases h0 : 1 <= s.length
  ·rw [dT h0,dT (oM : (1 : Int) <= s.length),mM];refine gg ?_
   rw [show decide ((s.length : Int) <= 32) = decide (s.length <= 32) from by
    by_cases h : s.length <= 32
    ·rw [dT h,dT oM]
    ·rw [dF h,dF oM]]
   refine ze [] ?_;exact ⟨rfl,rfl⟩
  ·rw [dF h0,dF (oM : ¬ (1 : Int) <= s.length),Bool.false_and];refine gg ?_;refine ze [] ?_;exact ⟨rfl,rfl⟩
open Go.Sha
def tagC : L8 := [67,108,105,101,110,116,32,75,101,121]
def tagS : L8 := [83,101,114,118,101,114,32,75,101,121]
structure Sec where
 st : L8
 sv : L8
 ha : L8
def xT (a b c : L8) : L8 := a ++ [58] ++ b ++ [58] ++ c
def vP (x : BX) (n q : L8) : Sec × BX :=
 let k := strX x q [1] 1
 let c := macX k.2 k.1 tagC
 let h := jo c.2 c.1
 let s := macX h.2 k.1 tagS
 let a := jo s.2 (xT n [116] q)
 (⟨h.1,s.1,a.1⟩,a.2)
theorem makeX_ts (x : BX) (n q : L8) : (vP x n q).2.ts.length <= x.ts.length + 5 /\ (vP x n q).2.sym = x.sym := by
 unfold vP;simp only;have h1 := Ja x q [1] 1;generalize strX x q [1] 1 = k at *;have h2 := yj k.2 k.1 tagC;generalize macX k.2 k.1 tagC = c at *;have h3 := jT c.2 c.1;generalize jo c.2 c.1 = h at *;have h4 := yj h.2 k.1 tagS;generalize macX h.2 k.1 tagS = s at *;have h5 := jT s.2 (xT n [116] q);generalize jo s.2 (xT n [116] q) = a at *;exact ⟨oM,by rw [h5.2,h4.2,h3.2,h2.2,h1.2]⟩
theorem Kw (p s : L8) (r : Nat) : (kV p s r 32).length <= 100000 := by
 unfold kV;rw [aX];omega
theorem Ou (x : BX) (p s : L8) (r : Nat) : (strX x p s r).1.length <= 100000 := by
 unfold strX;split
 ·rw [Vm];omega
 ·exact Kw _ _ _
theorem XO (x : BX) (k m : L8) : (macX x k m).1.length = 32 := by
 unfold macX;split
 ·exact Vm _ _
 ·exact yi _ _
theorem qW (x : BX) (m : L8) : (jo x m).1.length = 32 := by
 unfold jo;split
 ·exact Vm _ _
 ·exact qS _
theorem Qy (a : OA) (c : Nat) : zh prog 78 [.slice a 1 c,.int .i64 1] [] fun v A => v = .bool true /\ A = [] := by
 refine eNg func78 ntmps78 results78 fun F => ?_
 refine ze [] ?_;exact ⟨rfl,rfl⟩
def SecW (W : zd) (vs : LV) (s : Sec) : Prop := ∃ (sa ta ua ha : OA) (sc tc uc hc : Nat),vs = [.slice sa 1 sc,.int .i64 1,.slice ta s.st.length tc,.slice ua s.sv.length uc,.slice ha s.ha.length hc] /\
 (1 <= sc /\ s.st.length <= tc /\ s.sv.length <= uc /\ s.ha.length <= hc) /\ s.st.length = 32 /\ s.sv.length = 32 /\ s.ha.length = 32 /\
 Rd 1 [W] sa 1 (([1] : L8).map b8) /\ Rd 1 [W] ta s.st.length (s.st.map b8) /\ Rd 1 [W] ua s.sv.length (s.sv.map b8) /\ Rd 1 [W] ha s.ha.length (s.ha.map b8)
instance tpSec : xi prog 45 [(0,1),(1,1),(2,1),(3,1),(4,1)] := ⟨kM⟩
theorem fD {G : zd} (hg : jJ G) (hn : GNam G) {C S : zd} {b : Nat} {x : BX} (hC : vg C b x) (hts : x.ts.length <= 900) (u p n q : L8) (hu : u.length <= 1000) (hp : p.length <= 1000) (hnl : n.length <= 1000) (hql : q.length <= 1000) (hun : xg u 32 = (n,0)) (hpq : xg p 64 = (q,0)) {sa : OA} {sc : Nat} (hsc : 1 <= sc) (hS : Rd 1 [S] sa 1 (([1] : L8).map b8)) :
  zh prog 30 [pT b,sT [116],sT u,sT p,.slice sa 1 sc,.int .i64 1] [C,G,S]
  fun v A => ∃ (W0 W1 W2 W3 C' : zd) (vs : LV),v = .tuple #[.agg vs.toArray,.int .i64 0] /\ SecW (W0 ++ (W1 ++ (W2 ++ W3))) vs (vP x n q).1 /\ vg C' b (vP x n q).2 /\ A = [W0,W1,W2,W3,C',G,S] := by
 have hnm := wj hn u oM;have hpw := eS hn p oM;rw [hun] at hnm;rw [hpq] at hpw;refine eNg func30 ntmps30 results30 fun F => ?_
 refine oAg ([nS,.int .i64 0,nS,nS,nS] : LV).toArray fun b12 => ?_
 refine cR (Xh [116] dM) ?_;rw [show yg [116] = true from by decide +kernel];refine gg ?_;refine cR (hnm) ?_;refine cR (hpw) ?_;refine cR (Qy sa sc) ?_;refine zF ?_;refine xb (by simp only [maxLen];omega) (fun Q qa qc hQ => ?_);refine gg ?_;have kl1 := Ou x q [1] 1;have kt := Ja x q [1] 1;refine cA (gN hg oM hQ.1 (hQ.rd (aA ..)) dM hsc hS 1 dM dM hC oM) ?_;rintro v A ⟨w,rfl,Kk,C1,ka,kc,rfl,hKk,hC1,rfl⟩;refine gA ?_;unfold vP;simp only;generalize strX x q [1] 1 = k at *;refine zF ?_;refine xI ([67,108,105,101,110,116,32,75,101,121]) dM rfl (rfl) (fun b62 C62 ho62 => ?_);refine gg ?_;refine zF ?_;refine ZP ho62 pkA dM (fun C63 ho63 => ?_);refine gg ?_;refine zF ?_;refine jE rfl [.slice (some ⟨b62,0,none⟩) 10 10] dM rfl rfl (by simp [Value.cell1]) (fun b64 C64 ho64 => ?_);refine gg ?_;have hp1 : vh C64 C63 (some ⟨b64,0,none⟩) (some ⟨b62,0,none⟩) 10 tagC := ⟨ho64.rd (aA ..),aR _,ho63.rd (aA ..),dM⟩;have cl1 := XO k.2 k.1 tagC;have ct := yj k.2 k.1 tagC;refine cA (WQ hg kl1 hKk.1 (hKk.rd (aA ..)) hp1 hC1 oM) ?_;rintro v A ⟨M,C2,ma,mc,rfl,hM,hC2,rfl⟩;refine gA ?_;generalize macX k.2 k.1 tagC = c at *;refine cA (jl S sa sc [1] dM hS) ?_;rintro v A ⟨W0,wa,wc,rfl,hW0,rfl⟩;refine gA ?_;refine zF ?_;refine jE rfl [.slice ma c.1.length mc] dM rfl rfl (by simp [Value.cell1]) (fun b71 C71 ho71 => ?_);refine gg ?_;have hp2 : vh C71 M (some ⟨b71,0,none⟩) ma mc c.1 := ⟨ho71.rd (aA ..),hM.1,hM.rd (aA ..),oM⟩;have hl1 := qW c.2 c.1;have ht := jT c.2 c.1;refine cA (wu hg hp2 hC2 oM) ?_;rintro v A ⟨W1,C3,va,vc,rfl,hW1,hC3,rfl⟩;refine gA ?_;generalize jo c.2 c.1 = h at *;refine zF ?_;refine xI ([83,101,114,118,101,114,32,75,101,121]) dM rfl (rfl) (fun b75 C75 ho75 => ?_);refine gg ?_;refine zF ?_;refine ZP ho75 pkA dM (fun C76 ho76 => ?_);refine gg ?_;refine zF ?_;refine jE rfl [.slice (some ⟨b75,0,none⟩) 10 10] dM rfl rfl (by simp [Value.cell1]) (fun b77 C77 ho77 => ?_);refine gg ?_;have hp3 : vh C77 C76 (some ⟨b77,0,none⟩) (some ⟨b75,0,none⟩) 10 tagS := ⟨ho77.rd (aA ..),aR _,ho76.rd (aA ..),dM⟩
 have sl1 := XO h.2 k.1 tagS;have st := yj h.2 k.1 tagS;refine cA (WQ hg kl1 hKk.1 (hKk.rd (aA ..)) hp3 hC3 oM) ?_;rintro v A ⟨W2,C4,ua,uc,rfl,hW2,hC4,rfl⟩;refine gA ?_;generalize macX h.2 k.1 tagS = s at *;have s58 : Value.string ⟨#[58]⟩ = sT [58] := rfl;rw [s58];refine zF ?_;rw [zV (by rw [aI];omega)];refine gg ?_;refine zF ?_;rw [zV (by rw [aB,aI,aI];omega)];refine gg ?_
 (try rw [s58])
 refine zF ?_;rw [zV (by rw [aB,aB,aI,aI];omega)];refine gg ?_;refine zF ?_;rw [zV (by rw [aB,aB,aB,aI,aI];omega)];refine gg ?_;rw [show n ++ [58] ++ [116] ++ [58] ++ q = xT n [116] q from rfl];have hcl : (xT n [116] q).length <= 3000 := by unfold xT;simp only [aB,aI];omega
 refine zF ?_;refine xb (by simp only [maxLen];omega) (fun X xa xc hX => ?_);refine gg ?_;refine zF ?_;refine jE rfl [.slice (some xa) (xT n [116] q).length xc] dM rfl rfl (by simp [Value.cell1]) (fun b88 C88 ho88 => ?_);refine gg ?_;have hp4 : vh C88 X (some ⟨b88,0,none⟩) (some xa) xc (xT n [116] q) := ⟨ho88.rd (aA ..),hX.1,hX.rd (aA ..),oM⟩;have al1 := qW s.2 (xT n [116] q);have at_ := jT s.2 (xT n [116] q);refine cA (wu hg hp4 hC4 oM) ?_;rintro v A ⟨W3,C5,ya,yc,rfl,hW3,hC5,rfl⟩;refine gA ?_;generalize jo s.2 (xT n [116] q) = a at *
 have hvc : ∀ v ∈ ([.slice wa ([1] : L8).length wc,.int .i64 1,.slice va h.1.length vc,.slice ua s.1.length uc,.slice ya a.1.length yc] : LV),Value.cell1 v := by
  intro v hv;simp only [aY,aT,or_false] at hv
  rcases hv with rfl | rfl | rfl | rfl | rfl <;> simp [Value.cell1]
 refine oTg [(0,.slice wa ([1] : L8).length wc),(1,.int .i64 1),(2,.slice va h.1.length vc),(3,.slice ua s.1.length uc),(4,.slice ya a.1.length yc)] ([.slice wa ([1] : L8).length wc,.int .i64 1,.slice va h.1.length vc,.slice ua s.1.length uc,.slice ya a.1.length yc] : LV).toArray ?_;refine oSg [.slice wa ([1] : L8).length wc,.int .i64 1,.slice va h.1.length vc,.slice ua s.1.length uc,.slice ya a.1.length yc] rfl hvc ?_;refine zf (vs := [.agg ([.slice wa ([1] : L8).length wc,.int .i64 1,.slice va h.1.length vc,.slice ua s.1.length uc,.slice ya a.1.length yc] : LV).toArray,.int .i64 0]) [W0,W1,W2,W3,C5,G,S] ?_ (hr := hrA);exact ⟨W0,W1,W2,W3,C5,_,rfl,⟨wa,va,ua,ya,wc,vc,uc,yc,rfl,⟨hW0.1,hW1.1,hW2.1,hW3.1⟩,hl1,sl1,al1,rd_l (hW0.rd (aA ..)),rd_r (rd_l (hW1.rd (aA ..))),rd_r (rd_r (rd_l (hW2.rd (aA ..)))),rd_r (rd_r (rd_r (hW3.rd (aA ..))))⟩,hC5,rfl⟩
theorem fC {G : zd} (hg : jJ G) (hn : GNam G) {C S : zd} {b : Nat} {x : BX} (hC : vg C b x) (hts : x.ts.length <= 900) (u p n q : L8) (hu : u.length <= 1000) (hp : p.length <= 1000) (hnl : n.length <= 1000) (hql : q.length <= 1000) (hun : xg u 32 = (n,0)) (hpq : xg p 64 = (q,0)) {sa : OA} {sc : Nat} (hsc : 1 <= sc) (hS : Rd 1 [S] sa 1 (([1] : L8).map b8)) :
  zh prog 30 [pT b,sT [116],sT u,sT p,.slice sa 1 sc,.int .i64 1] [C,G,S]
  fun v A => ∃ (W C' : zd) (vs : LV),v = .tuple #[.agg vs.toArray,.int .i64 0] /\ SecW W vs (vP x n q).1 /\ vg C' b (vP x n q).2 /\ A = [W,C',G,S] :=
 (fD hg hn hC hts u p n q hu hp hnl hql hun hpq hsc hS).perm sM (fun v A' ⟨W0,W1,W2,W3,C',vs,hv,hW,hC',hA⟩ => ⟨[W0 ++ (W1 ++ (W2 ++ W3)),C',G,S],by rw [hA];simp,_,C',vs,hv,hW,hC',rfl⟩)
end Go.Proofs.YtebikhhoppiapaaGreatDoor
namespace Go.Proofs.YtebikhhoppiapaaGreatDoor
open Go Go.Ost Go.Sha Tryz
section
variable {P : Program}
theorem zeros_b8 (n : Nat) : Builtin.zeroCells (Value.int .u8 0).cells n = ((aU n (0 : UInt8)).map b8).toArray := by
 have hz : (Value.int .u8 0).cells = #[.int .u8 0] := rfl
 apply lS
 rw [hz];simp only [Builtin.zeroCells,Array.toList_map,Array.toList_range]
 apply List.ext_getElem?
 intro i
 by_cases h : i < n
 ·simp [List.getElem?_range,h,Nat.mod_one,b8]
 ·simp [h]
theorem app_zero {t t2 ty e : TypeId} [ht : xz P t e] [ht2 : TInt P t2 .i64] [hs : zm P e (.int .u8 0) 1 1] {S G : zb} {κ : Value -> zb -> Prop} {C : zd} {a : OA} {len cap n : Nat} {us : L8}
  (ho : Ost.Own 1 e C a len cap (us.map b8)) (hC : Pick C S G) (hroom : cap < len + n) (hn0 : 0 < n) (hm : len + n <= 1000)
  (k : ∀ C' a' cap',Ost.Own 1 e C' a' (len + n) cap' ((us ++ aU n 0).map b8) -> κ (.slice a' (len + n) cap') (C' :: G)) : ValW P (Builtin.append_ #[t,t2] ty #[.slice a len cap,.int .i64 n]) S κ := by
 refine ⟨fun w hw => ?_⟩;have hCG : Hold w (C :: G) := hw.perm hC.perm;have hrd : Rd 1 (C :: G) a len (us.map b8) := ho.rd (aA ..);have f1 := fun (w : World) hw => yB (P := P) (c := cap) hrd (w := w) hw
 obtain ⟨i,hi,hz1,hsz,hby⟩ := qi hs.info;obtain ⟨hle,hmax,hlen,hcase⟩ := ho;have hge := grownCap_ge w (len + n) cap e;have hcm := grownCap_le_maxLen w (len + n) cap e (by simp only [maxLen];omega);have hn : ¬ (len + n <= cap) := oM;have h63' : ¬ (9223372036854775807 < ((len : Int) + (n : Int))) := oM
 have h48' : ¬ (281474976710656 < Builtin.nextslicecap (len + n) cap * i.bytes) := by
  rw [hby];have := growslice_fits (bytes := 1) (by omega : cap < len + n) oM;omega
 have f1' := f1 w.drew ⟨hCG.nd,hCG.get⟩;have hw1 : IntKind.i64.wrap (n : Int) = n := yv oM oM;have hl0 : ¬ ((n : Int) < 0) := oM;have hl1 : ¬ (281474976710656 < (n : Int) * (i.bytes : Int)) := by rw [hby];omega
 have hn1 : ¬ (n = 0) := oM;obtain ⟨cells,hcells⟩ : ∃ cells : Array Value,cells = (us.map b8).toArray ++ ((aU n (0 : UInt8)).map b8).toArray ++ Builtin.zeroCells (Value.int .u8 0).cells (grownCap w (len + n) cap e - (len + n)) := ⟨_,rfl⟩;refine ⟨.slice (some ⟨w.heap.size,0,none⟩) (len + n) (grownCap w (len + n) cap e),w.drew.alloc (.cells cells e),[(w.heap.size,.cells cells e (0,0))] :: G,?_,⟨rfl,rfl,rfl,sM⟩,?_,k _ _ _ ⟨hge,hcm,?_,.inr ⟨_,0,cells,(0,0),rfl,rfl,.inl rfl,?_,?_⟩⟩⟩
 ·rw [hcells]
  simp [Builtin.append_,Sem.run_bind,zL ht.und,zL ht2.und,zE hs,xe hs,Result.andThen,typeInfo,program,Sem.run,hi,hn,h63',h48',Question.forced,asInt,asIntOf,hw1,hl0,hl1,hn1,hn0,zeros_b8,f1',newRow]
  exact ⟨rfl,rfl⟩
 ·refine Hold.new (w := w) (o := .cells cells e (0,0)) ?_ rfl;exact hCG.sub sM
 ·rw [iA] at hlen;rw [iA,aB,aZ];omega
 ·rw [iA] at hlen;have hz : (Value.int .u8 0).cells.size = 1 := rfl;rw [hcells];simp only [Array.size_append,List.size_toArray,size_zeroCells,iA,aZ,hz];omega
 ·intro j hj;rw [hcells,iT,Array.getElem?_append_left (by simp at hj ⊢;omega)];rw [show (us.map b8).toArray ++ ((aU n (0 : UInt8)).map b8).toArray = ((us ++ aU n 0).map b8).toArray from by apply lS;simp,iP]
end
theorem cm : zh prog 235 [] [] (New8 5 frontB []) := by
 refine eNg func235 ntmps235 results235 fun F => ?_
 refine zF ?_;refine xI ([241,84,82,77]) dM rfl (rfl) (fun b1 C1 ho1 => ?_);refine gg ?_;refine zF ?_;refine app_zero (len := 4) (n := 24) ho1 pkA dM dM dM (fun C2 a2 c2 ho2 => ?_);refine gg ?_;refine ze ([C2]) ?_;exact ⟨_,_,_,rfl,ho2,rfl⟩
theorem kN (n : Nat) (hn : n < 1000000) : zh prog 189 [.int .i64 n] [] (New8 5 (hdl n) []) := by
 refine eNg func189 ntmps189 results189 fun F => ?_
 refine cA (cm) ?_;rintro v A ⟨C3,a3,c3,rfl,ho3,rfl⟩;refine gA ?_;refine cA (jS n 4 oM dM) ?_;rintro v A ⟨C5,a5,c5,rfl,ho5,rfl⟩;refine gA ?_;rw [qf];rw [qf] at ho5;refine zF ?_;refine app8 (ho3) pkA (ho5.rd mmA) dM (fun C6 a6 cap6 ho6 => ?_);refine gg ?_;refine ze ([C6]) ?_;exact ⟨_,_,_,rfl,ho6,rfl⟩
theorem fR : zh prog 234 [nS,nS] [] fun v A => v = .bool true /\ A = [] := by
 refine eNg func234 ntmps234 results234 fun F => ?_
 refine zM (fun q D L S => q = 0 /\ D = [] /\ L = [(13,.int .i64 0),(12,.int .i64 0),(0,nS),(1,nS)] /\ S = [F]) ⟨rfl,rfl,rfl,rfl⟩ ?_;rintro q D L S ⟨rfl,rfl,rfl,rfl⟩;refine gg ?_;refine ze [] ?_;exact ⟨rfl,rfl⟩
theorem tm_eq (t u : Tm) : decide (t = u) = (((t.k : Int) == (u.k : Int)) && ((t.key == u.key) && ((t.txt == u.txt) && ((t.rnd : Int) == (u.rnd : Int))))) := by
 obtain ⟨a,b,c,d⟩ := t;obtain ⟨a',b',c',d'⟩ := u;simp only [Tm.mk.injEq]
 by_cases h1 : a = a' <;> by_cases h2 : b = b' <;> by_cases h3 : c = c' <;> by_cases h4 : d = d' <;> simp [h1,h2,h3,h4] <;> omega
theorem Yh (t u : Tm) {A B : zd} {ka xa la ya : OA} {kc xc lc yc : Nat} (hk : Rd 1 [A] ka t.key.length (t.key.map b8)) (hx : Rd 1 [A] xa t.txt.length (t.txt.map b8)) (hl : Rd 1 [B] la u.key.length (u.key.map b8)) (hy : Rd 1 [B] ya u.txt.length (u.txt.map b8)) :
  zh prog 188 [.agg #[.int .i64 t.k,.slice ka t.key.length kc,.slice xa t.txt.length xc,.int .i64 t.rnd,nS,nS],.agg #[.int .i64 u.k,.slice la u.key.length lc,.slice ya u.txt.length yc,.int .i64 u.rnd,nS,nS]] [A,B]
  fun v S => v = .bool (decide (t = u)) /\ S = [A,B] := by
 rw [tm_eq];refine eNg func188 ntmps188 results188 fun F => ?_
 refine oBg fun b1 => ?_
 refine oBg fun b2 => ?_
 cases h1 : ((t.k : Int) == (u.k : Int)) with
 | false =>
  refine gg ?_;refine ze [A,B] ?_;exact ⟨rfl,rfl⟩
 | true =>
  refine gg ?_;refine cR (Zp [A,B] ka la t.key.length u.key.length kc lc t.key u.key (hk.mem sM) (hl.mem sM)) ?_
  cases h2 : (t.key == u.key) with
  | false =>
   refine gg ?_;refine ze [A,B] ?_;exact ⟨rfl,rfl⟩
  | true =>
   refine gg ?_;refine cR (Zp [A,B] xa ya t.txt.length u.txt.length xc yc t.txt u.txt (hx.mem sM) (hy.mem sM)) ?_
   cases h3 : (t.txt == u.txt) with
   | false =>
    refine gg ?_;refine ze [A,B] ?_;exact ⟨rfl,rfl⟩
   | true =>
    refine gg ?_
    cases h4 : ((t.rnd : Int) == (u.rnd : Int)) with
    | false =>
     refine gg ?_;refine ze [A,B] ?_;exact ⟨rfl,rfl⟩
    | true =>
     refine gg ?_;refine cR (fR) ?_;refine cR (Zp [A,B] none none 0 0 0 0 [] [] Rd.nil Rd.nil) ?_;refine ze [A,B] ?_;exact ⟨rfl,rfl⟩
end Go.Proofs.YtebikhhoppiapaaGreatDoor
namespace Go.Proofs.YtebikhhoppiapaaGreatDoor
open Go Go.Ost Go.Sha
open Tryz
theorem YM (A B : zd) (a b : OA) (ca cb : Nat) (xs ys : L8) (hx : xs.length <= 100000) (hy : ys.length <= 100000) (h1 : Rd 1 [A] a xs.length (xs.map b8)) (h2 : Rd 1 [B] b ys.length (ys.map b8)) :
  zh prog 190 [.slice a xs.length ca,.slice b ys.length cb] [A,B] (New8 5 (xorB xs ys) [A,B]) := by
 have hm : min xs.length ys.length <= xs.length /\ min xs.length ys.length <= ys.length := ⟨Nat.min_le_left _ _,Nat.min_le_right _ _⟩;have hxl := yu xs ys;have hg : ∀ i,i < min xs.length ys.length -> (xorB xs ys).getD i 0 = xs.getD i 0 ^^^ ys.getD i 0 := fun i hi => by rw [mB,Ve xs ys i hi];rfl
 have hb : aU (min xs.length ys.length) (0 : UInt8) = (iC (min xs.length ys.length)).map fun j => if j < 0 then (xorB xs ys).getD j 0 else 0 := by
  apply List.ext_getElem
  ·simp
  ·intro i g1 g2;rw [List.getElem_replicate,List.getElem_map,if_neg (Nat.not_lt_zero _)]
 have he : ((iC (min xs.length ys.length)).map fun j => if j < min xs.length ys.length then (xorB xs ys).getD j 0 else 0) = xorB xs ys := by
  apply List.ext_getElem
  ·simp [hxl]
  ·intro i g1 g2;simp only [iA,List.length_range] at g1
   simp [mB,g1,hxl]
 refine eNg func190 ntmps190 results190 fun F => ?_
 rw [fw];refine gg ?_;generalize hn : min xs.length ys.length = n at *;refine zF ?_;refine fE (n := n) oM (fun b2 C2 ho2 => ?_);rw [hb] at ho2;refine gg ?_;generalize (some (⟨b2,0,none⟩ : Addr)) = p at *
 refine zM (fun q D L S => ∃ (i : Nat) (C' : zd),i <= n /\ Own8 5 C' p n n ((iC n).map fun j => if j < i then (xorB xs ys).getD j 0 else 0) /\ q = n - i /\ D = [] /\
  L = [(17,.int .i64 i),(16,.int .i64 n),(0,.slice a xs.length ca),(1,.slice b ys.length cb),(6,.slice p n n)] /\ S = [C',F,A,B]) ⟨0,C2,oM,ho2,rfl,rfl,rfl,rfl⟩ ?_
 rintro q D L S ⟨i,C',hi,ho,rfl,rfl,rfl,rfl⟩;refine gg ?_;refine if_d (fun hc => ?_) (fun hc => ?_)
 ·refine gg ?_;refine cdLg [[0],[1],[2],[3],[4],[5],[6],[7],[8],[9],[10],[11],[12,0]] ?_;refine zG ?_;(apply vr ho);(· (repeat (first | with_reducible exact Pick.head _ _ | with_reducible apply Pick.tail)));(· simp;omega);(intro C4 ho4);rw [<- hg i oM,Vr n (fun _ => (0 : UInt8)) (fun j => (xorB xs ys).getD j 0) i oM] at ho4;refine gg ?_;exact zI ⟨i + 1,C4,oM,ho4,rfl,rfl,rfl,rfl⟩
 ·refine gg ?_;obtain rfl : i = n := oM;rw [he] at ho;refine ze [C',A,B] ?_;exact ⟨C',p,i,by rw [hxl],by rw [hxl];exact ho,rfl⟩
theorem Qj {G : zd} (hg : vj G) (Hp Hs : zd) (pa sa : OA) (pcap scap : Nat) (pass salt : L8) (rounds size : Nat) (hr1 : 1 <= rounds) (hr2 : rounds <= 64) (hz1 : 1 <= size) (hz2 : size <= 128)
  (hp1 : pass.length <= 10000) (hp2 : pass.length <= pcap) (hp3 : Rd 1 [Hp] pa pass.length (pass.map b8)) (hs1 : salt.length <= 10000) (hs2 : salt.length <= scap) (hs3 : Rd 1 [Hs] sa salt.length (salt.map b8)) :
  zh prog 135 [.slice pa pass.length pcap,.slice sa salt.length scap,.int .i64 rounds,.int .i64 size] [G,Hp,Hs] (New8 5 (kV pass salt rounds size) [G,Hp,Hs]) := by
 have hpl := fun k => KX pass salt rounds k
 have hcl := Kg (fun k => kA pass salt rounds (k + 1)) (fun k => hpl _);refine eNg func135 ntmps135 results135 fun F => ?_
 rw [dF (oM : ¬ (rounds : Int) < 1)];refine gg ?_;rw [dF (oM : ¬ (64 : Int) < rounds)];refine gg ?_;rw [dF (oM : ¬ (size : Int) < 1)];refine gg ?_;rw [dF (oM : ¬ (128 : Int) < size)];refine gg ?_;refine zU ?_
 refine zM (fun q D L S => ∃ (k : Nat) (O : zd) (oa : OA) (oc : Nat),32 * k < size + 32 /\ Own8 5 O oa (cat (fun k => kA pass salt rounds (k + 1)) k).length oc (cat (fun k => kA pass salt rounds (k + 1)) k) /\ q = size + 32 - 32 * k /\ D = [] /\
  L = [(9,.slice oa (cat (fun k => kA pass salt rounds (k + 1)) k).length oc),(10,.int .u64 (k + 1 : Nat)),(0,.slice pa pass.length pcap),(1,.slice sa salt.length scap),(2,.int .i64 rounds),(3,.int .i64 size)] /\ S = [O,F,G,Hp,Hs])
  ⟨0,[],none,0,oM,zJ,rfl,rfl,rfl,rfl⟩ ?_
 rintro q D L S ⟨k,O,oa,oc,hk,ho,rfl,rfl,rfl,rfl⟩;have hck := hcl k;refine gg ?_;refine if_d (fun hc => ?_) (fun hc => ?_)
 ·refine gg ?_;refine cA (kG Hs sa scap salt oM hs3) ?_;rintro v A ⟨C1,a1,c1,rfl,ho1,rfl⟩;(try simp only [aD,aC]);refine gg ?_;refine cA (jS (k + 1) 4 oM dM) ?_;rintro v A ⟨C2,a2,c2,rfl,ho2,rfl⟩;(try simp only [aD,aC]);have hbl : (be 4 (k + 1)).length = 4 := qf _ _;rw [hbl] at ho2 ⊢;refine gg ?_;refine zF ?_;refine app8 (ho1) pkA (ho2.rd mmA) oM (fun C3 a3 cap3 ho3 => ?_);have e3 : salt.length + 4 = (salt ++ be 4 (k + 1)).length := by rw [aB,hbl]
  rw [e3] at ho3 ⊢;refine gg ?_;refine cA (yW hg Hp C3 pa a3 pcap _ pass (salt ++ be 4 (k + 1)) oM hp2 hp3 (by rw [aB,hbl];omega) (ho3.rd sM)) ?_;rintro v A ⟨D1,da,dc,rfl,hd1,rfl⟩;(try simp only [aD,aC]);rw [yi] at hd1 ⊢;generalize hu0 : mac pass (salt ++ be 4 (k + 1)) = u0 at *;have hpc : kA pass salt rounds (k + 1) = strT pass u0 u0 (rounds - 1) := by unfold kA;rw [hu0]
  have hul : u0.length = 32 := by rw [<- hu0];exact yi _ _
  refine gg ?_;refine zU ?_
  refine zM (fun q D L S => ∃ (i : Nat) (X U T : zd) (u t : L8) (ua ta : OA) (uc tc : Nat),1 <= i /\ i <= rounds /\ u.length = 32 /\ t.length = 32 /\ Own8 5 U ua 32 uc u /\ T ∈ [U,X] /\ 32 <= tc /\ Rd 1 [T] ta 32 (t.map b8) /\
    kA pass salt rounds (k + 1) = strT pass u t (rounds - i) /\ q = rounds - i /\ D = [] /\
   L = [(13,.int .i64 i),(11,.slice ua 32 uc),(12,.slice ta 32 tc),(9,.slice oa (cat (fun k => kA pass salt rounds (k + 1)) k).length oc),(10,.int .u64 (k + 1 : Nat)),(0,.slice pa pass.length pcap),(1,.slice sa salt.length scap),(2,.int .i64 rounds),(3,.int .i64 size)] /\
   S = [U,X,O,F,G,Hp,Hs])
   ⟨1,[],D1,D1,u0,u0,da,da,dc,dc,oM,hr1,hul,hul,hd1,sM,hd1.1,hd1.rd sM,hpc,rfl,rfl,rfl,rfl⟩ ?_
  rintro q D L S ⟨i,X,U,T,u,t,ua,ta,uc,tc,hi1,hi2,hul,htl,hoU,hT,htc,hrt,hpi,rfl,rfl,rfl,rfl⟩;have hrU := hoU.rd (S := [U]) sM;have hml : (mac pass u).length = 32 := yi _ _;have hT' := hT;simp only [aY,aT,or_false] at hT';refine gg ?_;refine if_d (fun hc => ?_) (fun hc => ?_)
  ·have hmc := yW hg Hp U pa ua pcap uc pass u oM hp2 hp3 oM (by rw [hul];exact hrU);rw [hul] at hmc;refine gg ?_;refine cA (hmc) ?_;rintro v A ⟨D2,a2,c2,rfl,ho2,rfl⟩;refine gA ?_;rw [hml] at ho2 ⊢;have hxs := YM T D2 ta a2 tc c2 t (mac pass u) oM oM (by rw [htl];exact hrt) (by rw [hml];exact ho2.rd sM);rw [htl,hml] at hxs;have hxl : (xorB t (mac pass u)).length = 32 := by rw [yu,htl,hml];decide
   have hst : strT pass u t (rounds - i) = strT pass (mac pass u) (xorB t (mac pass u)) (rounds - (i + 1)) := by
    rw [show rounds - i = (rounds - (i + 1)) + 1 from oM];rfl
   rw [hst] at hpi
   rcases hT' with rfl | rfl
   ·refine cA (hxs) ?_;rintro v A ⟨D6,a6,c6,rfl,ho6,rfl⟩;refine gA ?_;rw [hxl] at ho6 ⊢;exact zI ⟨i + 1,D6,D2,D6,mac pass u,xorB t (mac pass u),a2,a6,c2,c6,oM,oM,hml,hxl,ho2,sM,ho6.1,ho6.rd sM,hpi,rfl,rfl,rfl,rfl⟩
   ·refine cA (hxs) ?_;rintro v A ⟨D6,a6,c6,rfl,ho6,rfl⟩;refine gA ?_;rw [hxl] at ho6 ⊢;exact zI ⟨i + 1,D6,D2,D6,mac pass u,xorB t (mac pass u),a2,a6,c2,c6,oM,oM,hml,hxl,ho2,sM,ho6.1,ho6.rd sM,hpi,rfl,rfl,rfl,rfl⟩
  ·obtain rfl : i = rounds := oM;rw [Nat.sub_self] at hpi;have ht : kA pass salt i (k + 1) = t := hpi;refine gg ?_;refine zF ?_;refine app8 ho pkA (hrt.mem (by rcases hT' with rfl | rfl <;> simp)) oM (fun C7 a7 cap7 ho7 => ?_);have e7 : cat (fun k => kA pass salt i (k + 1)) k ++ t = cat (fun k => kA pass salt i (k + 1)) (k + 1) := by rw [cat,ht]
   have e8 : (cat (fun k => kA pass salt i (k + 1)) k).length + 32 = (cat (fun k => kA pass salt i (k + 1)) (k + 1)).length := by rw [<- e7,aB,htl]
   rw [e7,e8] at ho7;rw [e8];refine gg ?_;exact zI ⟨k + 1,C7,a7,cap7,oM,ho7,rfl,rfl,rfl,rfl⟩
 ·have hoc := ho.1;have hmc := Im (fun k => kA pass salt rounds (k + 1)) (fun k => hpl _) size k oM oM hz1;have hcut := OW ho (l := 0) (h' := size) (m := oc) oM oM oM (aR _);rw [List.drop_zero,iI,iI,hmc] at hcut;have es : (kV pass salt rounds size).length = size := by unfold kV;rw [aX,Kg _ (fun k => hpl _)];unfold many;omega
  refine gg ?_;refine ze [O,G,Hp,Hs] ?_;exact ⟨O,_,oc,by rw [es],by rw [es];exact hcut,rfl⟩
structure TD where
 t : Tm
 ka : OA
 kc : Nat
 xa : OA
 xc : Nat
def TD.vs (d : TD) : LV := tmV d.t d.ka d.kc d.xa d.xc
def TD.ok (B : zd) (d : TD) : Prop := Rd 1 [B] d.ka d.t.key.length (d.t.key.map b8) /\ Rd 1 [B] d.xa d.t.txt.length (d.t.txt.map b8)
abbrev rbB (b : Nat) (sym : Bool) (la : OA) (n lc : Nat) : zd := [(b,.cells #[.bool sym,.slice la n lc,.bool false] 92 (0,0))]
theorem vs_len (d : TD) : d.vs.length = 6 := rfl
theorem WZ (d : TD) : ∀ v ∈ d.vs,Value.cell1 v := by
 intro v hv;simp only [TD.vs,tmV,aY,aT,or_false] at hv
 rcases hv with rfl | rfl | rfl | rfl | rfl | rfl <;> simp [Value.cell1]
theorem JS (ds : List TD) : ∀ v ∈ ds.flatMap TD.vs,Value.cell1 v := by
 intro v hv;obtain ⟨d,_,h⟩ := List.mem_flatMap.1 hv;exact WZ d v h
instance tpRTm : xi prog 258 [(0,1),(1,1),(2,1),(3,1),(4,1),(5,1)] := ⟨kM⟩
theorem Kr {t : Tm} : ∀ (l : List Tm) (k i : Nat),(∀ j,j < i -> ∀ u,l[j]? = some u -> u ≠ t) -> l[i]? = some t -> tix t l k = some (k + i)
 | [],_,i,_,h => by simp at h
 | u :: l,k,0,_,h => by
  rw [iJ,Option.some.injEq] at h;unfold tix;rw [if_pos h];rfl
 | u :: l,k,i + 1,hn,h => by
  have h0 := hn 0 oM u rfl;unfold tix;rw [if_neg h0,Kr l (k + 1) i (fun j hj v hv => hn (j + 1) oM v (by rw [iD];exact hv)) (by rw [iD] at h;exact h)]
  congr 1;omega
theorem dn {t : Tm} : ∀ (l : List Tm) (k : Nat),(∀ u ∈ l,u ≠ t) -> tix t l k = none
 | [],_,_ => rfl
 | u :: l,k,h => by
  unfold tix;rw [if_neg (h u (aA ..))];exact dn l (k + 1) fun v hv => h v (aK _ hv)
theorem KF (t : Tm) {H : zd} {ka xa : OA} {kc xc : Nat} (hk : Rd 1 [H] ka t.key.length (t.key.map b8)) (hx : Rd 1 [H] xa t.txt.length (t.txt.map b8))
  (b : Nat) (sym : Bool) (ds : List TD) (hts : ds.length <= 1000) {la : OA} {lc : Nat} {CL B : zd} (hL : Ost.Own 6 258 CL la ds.length lc (ds.flatMap TD.vs)) (hB : ∀ d ∈ ds,d.ok B) :
  zh prog 134 [pT b,.agg (tmV t ka kc xa xc).toArray] [rbB b sym la ds.length lc,CL,B,H]
  fun v A => ∃ (O : zd) (oa : OA) (oc : Nat) (la' : OA) (lc' : Nat) (CL' : zd) (ds' : List TD),v = .slice oa (tagX ⟨sym,ds.map TD.t⟩ t).1.length oc /\ Own8 5 O oa (tagX ⟨sym,ds.map TD.t⟩ t).1.length oc (tagX ⟨sym,ds.map TD.t⟩ t).1 /\
   ds'.map TD.t = (tagX ⟨sym,ds.map TD.t⟩ t).2.ts /\ Ost.Own 6 258 CL' la' ds'.length lc' (ds'.flatMap TD.vs) /\ (∀ d ∈ ds',d.ok (B ++ H)) /\ A = [O,rbB b sym la' ds'.length lc',CL',B,H] := by
 have hs := vs_len;refine eNg func134 ntmps134 results134 fun F => ?_
 refine oBg fun b3 => ?_
 have hcv : ∀ v ∈ tmV t ka kc xa xc,Value.cell1 v := WZ ⟨t,ka,kc,xa,xc⟩
 refine zM (fun q D L S => ∃ i : Nat,i <= ds.length /\ (∀ j,j < i -> ∀ u,(ds.map TD.t)[j]? = some u -> u ≠ t) /\ q = ds.length - i /\ D = [] /\
  L = [(12,.int .i64 i),(11,.int .i64 ds.length),(10,.slice la ds.length lc),(3,pT b3),(0,pT b)] /\
  S = [[(b3,.cells (tmV t ka kc xa xc).toArray 258 (0,0))],F,rbB b sym la ds.length lc,CL,B,H])
  ⟨0,oM,(fun j hj => absurd hj oM),rfl,rfl,rfl,rfl⟩ ?_
 rintro q D L S ⟨i,hi,hno,rfl,rfl,rfl,rfl⟩;refine gg ?_;refine if_d (fun hc => ?_) (fun hc => ?_)
 ·have hil : i < ds.length := oM;have hx0 : ds[i]? = some ds[i] := aE hil;have hd := hB _ (lT hil);have hxt : (ds.map TD.t)[i]? = some ds[i].t := by rw [lF,hx0];rfl
  generalize ds[i] = d at *;refine gg ?_;refine zF ?_;refine xh hL hs hx0 dM mmA ?_;refine oAg ([.int .i64 0,nS,nS,.int .i64 0,nS,nS] : LV).toArray fun b6 => ?_
  refine oSg d.vs rfl (WZ d) ?_;refine oLg d.vs rfl ?_;refine oLg (tmV t ka kc xa xc) rfl ?_;refine cR (Yh d.t t hd.1 hd.2 hk hx) ?_
  by_cases he : d.t = t
  ·rw [dT he];refine gg ?_;refine cA (kN (i + 1) oM) ?_;rintro v A ⟨O,oa,oc,rfl,hO,rfl⟩;refine gA ?_
   have htag : tagX ⟨sym,ds.map TD.t⟩ t = (hdl (i + 1),⟨sym,ds.map TD.t⟩) := by
    unfold tagX;rw [Kr (ds.map TD.t) 0 i hno (by rw [hxt,he]),iT]
   rw [htag];refine ze [O,rbB b sym la ds.length lc,CL,B,H] ?_;exact ⟨O,oa,oc,la,lc,CL,ds,rfl,hO,rfl,hL,fun d hd => ⟨rd_l (hB d hd).1,rd_l (hB d hd).2⟩,rfl⟩
  ·rw [dF he];refine gg ?_;refine zI ⟨i + 1,oM,fun j hj u hu => ?_,rfl,rfl,rfl,rfl⟩
   by_cases hji : j = i
   ·subst hji;rw [hxt,Option.some.injEq] at hu;rw [<- hu];exact he
   ·exact hno j oM u hu
 ·obtain rfl : i = ds.length := oM
  have hnone : tix t (ds.map TD.t) 0 = none := dn _ 0 fun u hu => by
   obtain ⟨j,hj,rfl⟩ := List.mem_iff_getElem.1 hu;rw [iA] at hj;exact hno j hj _ (aE (by rw [iA];exact hj))
  have htag : tagX ⟨sym,ds.map TD.t⟩ t = (hdl ((ds.map TD.t).length + 1),⟨sym,ds.map TD.t ++ [t]⟩) := by
   unfold tagX;rw [hnone]
  rw [iA] at htag;rw [htag];refine gg ?_;rw [dF (oM : ¬ (4096 : Int) <= ds.length)];refine gg ?_;refine yI 1 6 8 [[],[],[],[2],[2,3],[2,3,4],[1,2,3,4,5],[],[1,2,3,4,5,6,7],[1,2,3,4,5,6,7,8],[0,1,2,3,4,5,6,7,8,9],[0,1,2,3,4,5,6,7,8,9,10],[0,1,2,3,4,5,6,7,8,9,10,11]] [(0,false,[]),(2,false,[]),(3,false,[]),(4,false,[]),(5,false,[]),(7,false,[]),(1,true,[5,7]),(6,true,[7]),(8,true,[]),(9,true,[]),(10,false,[]),(11,false,[]),(12,true,[])] [[],[],[],[2],[2,3],[2,3,4],[1,2,3,4,5,7,8],[],[1,7],[1,2,3,4,5,6,7,8],[0,1,2,3,4,5,6,7,8,9],[0,1,2,3,4,5,6,7,8,9,10],[0,1,2,3,4,5,6,7,8,9,10,11]] [(0,false,[]),(2,false,[]),(3,false,[]),(4,false,[]),(5,false,[]),(7,false,[]),(1,true,[5,7]),(8,true,[5]),(6,true,[]),(9,true,[]),(10,false,[]),(11,false,[]),(12,true,[])] [[],[7,8],[],[2],[2,3],[2,3,4],[1,2,3,4,5,7,8],[],[7],[1,2,3,4,5,6,7,8],[0,1,2,3,4,5,6,7,8,9],[0,1,2,3,4,5,6,7,8,9,10],[0,1,2,3,4,5,6,7,8,9,10,11]] [(0,false,[]),(2,false,[]),(3,false,[]),(4,false,[]),(5,false,[]),(7,false,[]),(8,true,[5]),(1,true,[5]),(6,true,[]),(9,true,[]),(10,false,[]),(11,false,[]),(12,true,[])] ?_ ?_ ?_
  ·refine gg ?_;refine qF ?_;refine zz (vs := tmV t ka kc xa xc) lkA rfl ?_;refine gg ?_;refine zG ?_;refine jD fun b0 C0 ho0 => ?_;refine pend ?_;refine pend ?_ (zz (vs := tmV t ka kc xa xc) lkA rfl rfl)
   refine gg ?_;refine zG ?_;refine zu (e := 258) (s := 6) (hs := inferInstance) (by rfl) dM ho0 (.inr pkA) (hL.rd mmA) (JS ds) (by simp only [maxLen];omega) oM (fun C2 a2 c2 ho2 => ?_);refine pend ?_ (zz (vs := tmV t ka kc xa xc) lkA rfl rfl);refine gg ?_
   (try rw [aD,iT] at ho2)
   (try rw [iT])
   refine zG ?_;refine xt (e := 258) (s := 6) (hs := inferInstance) (vs := tmV t ka kc xa xc) (by rfl) dM dM rfl (fun b1 C1 ho1 => ?_);refine gg ?_;refine zG ?_;refine zu (e := 258) (s := 6) (hs := inferInstance) (by rfl) dM ho2 (.inr pkA) (ho1.rd mmA) hcv (by simp only [maxLen];omega) oM (fun C3 a3 c3 ho3 => ?_);refine gg ?_;refine gM ?_;refine cA (kN (ds.length + 1) oM) ?_;rintro v A ⟨O,oa,oc,rfl,hO,rfl⟩;refine gA ?_;have hl1 : ds.length + 1 = (ds ++ [(⟨t,ka,kc,xa,xc⟩ : TD)]).length := sM;have e2 : ds.flatMap TD.vs ++ tmV t ka kc xa xc = (ds ++ [(⟨t,ka,kc,xa,xc⟩ : TD)]).flatMap TD.vs := by rw [lI];congr 1
   rw [hl1,e2] at ho3;refine ze [O,rbB b sym a3 (ds.length + 1) c3,C3,B,H] ?_;refine ⟨O,oa,oc,a3,c3,C3,ds ++ [(⟨t,ka,kc,xa,xc⟩ : TD)],rfl,hO,sM,ho3,fun d hd => ?_,by rw [hl1]⟩
   rcases List.mem_append.1 hd with hd | hd
   ·exact ⟨rd_l (hB d hd).1,rd_l (hB d hd).2⟩
   ·rw [mJ] at hd;subst hd;exact ⟨rd_r hk,rd_r hx⟩
  ·refine gg ?_;refine qF ?_;refine zz (vs := tmV t ka kc xa xc) lkA rfl ?_;refine gg ?_;refine zG ?_;refine jD fun b0 C0 ho0 => ?_;refine pend ?_;refine pend ?_ (zz (vs := tmV t ka kc xa xc) lkA rfl rfl)
   refine gg ?_;refine zG ?_;refine xt (e := 258) (s := 6) (hs := inferInstance) (vs := tmV t ka kc xa xc) (by rfl) dM dM rfl (fun b1 C1 ho1 => ?_);refine pend ?_;refine gg ?_;refine zG ?_;refine zu (e := 258) (s := 6) (hs := inferInstance) (by rfl) dM ho0 (.inr pkA) (hL.rd mmA) (JS ds) (by simp only [maxLen];omega) oM (fun C2 a2 c2 ho2 => ?_);refine gg ?_
   (try rw [aD,iT] at ho2)
   (try rw [iT])
   refine zG ?_;refine zu (e := 258) (s := 6) (hs := inferInstance) (by rfl) dM ho2 (.inr pkA) (ho1.rd mmA) hcv (by simp only [maxLen];omega) oM (fun C3 a3 c3 ho3 => ?_);refine gg ?_;refine gM ?_;refine cA (kN (ds.length + 1) oM) ?_;rintro v A ⟨O,oa,oc,rfl,hO,rfl⟩;refine gA ?_;have hl1 : ds.length + 1 = (ds ++ [(⟨t,ka,kc,xa,xc⟩ : TD)]).length := sM;have e2 : ds.flatMap TD.vs ++ tmV t ka kc xa xc = (ds ++ [(⟨t,ka,kc,xa,xc⟩ : TD)]).flatMap TD.vs := by rw [lI];congr 1
   rw [hl1,e2] at ho3;refine ze [O,rbB b sym a3 (ds.length + 1) c3,C3,B,H] ?_;refine ⟨O,oa,oc,a3,c3,C3,ds ++ [(⟨t,ka,kc,xa,xc⟩ : TD)],rfl,hO,sM,ho3,fun d hd => ?_,by rw [hl1]⟩
   rcases List.mem_append.1 hd with hd | hd
   ·exact ⟨rd_l (hB d hd).1,rd_l (hB d hd).2⟩
   ·rw [mJ] at hd;subst hd;exact ⟨rd_r hk,rd_r hx⟩
  ·refine gg ?_;refine qF ?_;refine zz (vs := tmV t ka kc xa xc) lkA rfl ?_;refine gg ?_;refine zG ?_;refine xt (e := 258) (s := 6) (hs := inferInstance) (vs := tmV t ka kc xa xc) (by rfl) dM dM rfl (fun b1 C1 ho1 => ?_);refine pend ?_;refine gg ?_;refine zG ?_;refine jD fun b0 C0 ho0 => ?_;refine pend ?_
   refine gg ?_;refine zG ?_;refine zu (e := 258) (s := 6) (hs := inferInstance) (by rfl) dM ho0 (.inr pkA) (hL.rd mmA) (JS ds) (by simp only [maxLen];omega) oM (fun C2 a2 c2 ho2 => ?_);refine gg ?_
   (try rw [aD,iT] at ho2)
   (try rw [iT])
   refine zG ?_;refine zu (e := 258) (s := 6) (hs := inferInstance) (by rfl) dM ho2 (.inr pkA) (ho1.rd mmA) hcv (by simp only [maxLen];omega) oM (fun C3 a3 c3 ho3 => ?_);refine gg ?_;refine gM ?_;refine cA (kN (ds.length + 1) oM) ?_;rintro v A ⟨O,oa,oc,rfl,hO,rfl⟩;refine gA ?_;have hl1 : ds.length + 1 = (ds ++ [(⟨t,ka,kc,xa,xc⟩ : TD)]).length := sM;have e2 : ds.flatMap TD.vs ++ tmV t ka kc xa xc = (ds ++ [(⟨t,ka,kc,xa,xc⟩ : TD)]).flatMap TD.vs := by rw [lI];congr 1
   rw [hl1,e2] at ho3;refine ze [O,rbB b sym a3 (ds.length + 1) c3,C3,B,H] ?_;refine ⟨O,oa,oc,a3,c3,C3,ds ++ [(⟨t,ka,kc,xa,xc⟩ : TD)],rfl,hO,sM,ho3,fun d hd => ?_,by rw [hl1]⟩
   rcases List.mem_append.1 hd with hd | hd
   ·exact ⟨rd_l (hB d hd).1,rd_l (hB d hd).2⟩
   ·rw [mJ] at hd;subst hd;exact ⟨rd_r hk,rd_r hx⟩
theorem OJ (t : Tm) {H J : zd} {ka xa : OA} {kc xc : Nat} (hk : Rd 1 [H] ka t.key.length (t.key.map b8)) (hx : Rd 1 [J] xa t.txt.length (t.txt.map b8))
  (b : Nat) (sym : Bool) (ds : List TD) (hts : ds.length <= 1000) {la : OA} {lc : Nat} {CL B : zd} (hL : Ost.Own 6 258 CL la ds.length lc (ds.flatMap TD.vs)) (hB : ∀ d ∈ ds,d.ok B) :
  zh prog 134 [pT b,.agg (tmV t ka kc xa xc).toArray] [rbB b sym la ds.length lc,CL,B,H,J]
  fun v A => ∃ (O : zd) (oa : OA) (oc : Nat) (la' : OA) (lc' : Nat) (CL' : zd) (ds' : List TD),v = .slice oa (tagX ⟨sym,ds.map TD.t⟩ t).1.length oc /\ Own8 5 O oa (tagX ⟨sym,ds.map TD.t⟩ t).1.length oc (tagX ⟨sym,ds.map TD.t⟩ t).1 /\
   ds'.map TD.t = (tagX ⟨sym,ds.map TD.t⟩ t).2.ts /\ Ost.Own 6 258 CL' la' ds'.length lc' (ds'.flatMap TD.vs) /\ (∀ d ∈ ds',d.ok (B ++ (H ++ J))) /\ A = [O,rbB b sym la' ds'.length lc',CL',B,H,J] :=
 (KF t (H := H ++ J) (rd_l hk) (rd_r hx) b sym ds hts hL hB).perm sM (fun v A' ⟨O,oa,oc,la',lc',CL',ds',hv,hO,hm,hL',hB',hA⟩ =>
  ⟨[O,rbB b sym la' ds'.length lc',CL',B,H,J],by rw [hA];simp,O,oa,oc,la',lc',CL',ds',hv,hO,hm,hL',hB',rfl⟩)
def RBox (C : zd) (b : Nat) (x : BX) : Prop := ∃ (la : OA) (lc : Nat) (CL B : zd) (ds : List TD),ds.map TD.t = x.ts /\ C = rbB b x.sym la ds.length lc ++ (CL ++ B) /\ Ost.Own 6 258 CL la ds.length lc (ds.flatMap TD.vs) /\ ∀ d ∈ ds,d.ok B
def ROut (b : Nat) (y : L8 × BX) (R : zb) (v : Value) (A : zb) : Prop := ∃ (O C' : zd) (oa : OA) (oc : Nat),v = .slice oa y.1.length oc /\ Own8 5 O oa y.1.length oc y.1 /\ RBox C' b y.2 /\ A = O :: C' :: R
theorem wh {G : zd} (hg : vj G) {H : zd} {ma : OA} {mc : Nat} {m : L8} (hml : m.length <= 100000) (hm : Rd 1 [H] ma m.length (m.map b8)) {C : zd} {b : Nat} {x : BX} (hC : RBox C b x) (hts : x.ts.length <= 1000) :
  zh prog 87 [pT b,.slice ma m.length mc] [C,G,H] (ROut b (jo x m) [G,H]) := by
 obtain ⟨la,lc,CL,B,ds,hds,rfl,hL,hB⟩ := hC;obtain ⟨sym,ts⟩ := x;simp only at hds hts;subst hds;rw [iA] at hts
 have k : zh prog 87 [pT b,.slice ma m.length mc] [rbB b sym la ds.length lc,CL,B,G,H]
   fun v A => ∃ (O J : zd) (oa : OA) (oc : Nat) (la' : OA) (lc' : Nat) (CL' : zd) (ds' : List TD),v = .slice oa (jo ⟨sym,ds.map TD.t⟩ m).1.length oc /\ Own8 5 O oa (jo ⟨sym,ds.map TD.t⟩ m).1.length oc (jo ⟨sym,ds.map TD.t⟩ m).1 /\
    ds'.map TD.t = (jo ⟨sym,ds.map TD.t⟩ m).2.ts /\ Ost.Own 6 258 CL' la' ds'.length lc' (ds'.flatMap TD.vs) /\ (∀ d ∈ ds',d.ok (B ++ J)) /\ A = [O,rbB b sym la' ds'.length lc',CL',B,J,G,H] := by
  unfold jo;refine eN func87 ntmps87 results87 fun F => ?_
  refine zU ?_;refine gg ?_
  cases sym with
  | true =>
   rw [if_pos rfl];refine gg ?_;refine cA (kG H ma mc m oM hm) ?_;rintro v A ⟨J,ja,jc,rfl,hJ,rfl⟩;refine gA ?_;refine oTg [(0,.int .i64 1),(2,.slice ja m.length jc)] (tmV ⟨1,[],m,0⟩ none 0 ja jc).toArray ?_;refine cA (KF (ka := none) (kc := 0) ⟨1,[],m,0⟩ Rd.nil (hJ.rd (aA ..)) b true ds hts hL hB) ?_;rintro v A ⟨O,oa,oc,la',lc',CL',ds',rfl,hO,hm',hL',hB',rfl⟩;refine gA ?_;refine ze [O,rbB b true la' ds'.length lc',CL',B,J,G,H] ?_;exact ⟨O,J,oa,oc,la',lc',CL',ds',rfl,hO,hm',hL',hB',rfl⟩
  | false =>
   rw [if_neg sM];refine gg ?_;refine cA (refS hg H ma mc m oM hm) ?_;rintro v A ⟨O,oa,oc,rfl,hO,rfl⟩;refine gA ?_;refine ze [O,rbB b false la ds.length lc,CL,B,[],G,H] ?_;exact ⟨O,[],oa,oc,la,lc,CL,ds,rfl,hO,rfl,hL,fun d hd => ⟨rd_l (hB d hd).1,rd_l (hB d hd).2⟩,rfl⟩
 refine zh.conv [rbB b sym la ds.length lc,CL,B,G,H] (k) flA tkA ?_;rintro v A ⟨O,J,oa,oc,la',lc',CL',ds',rfl,hO,hm',hL',hB',rfl⟩;exact ⟨[O,rbB b sym la' ds'.length lc' ++ (CL' ++ (B ++ J)),G,H],[O,rbB b sym la' ds'.length lc',CL',B,J,G,H],flA,amA,O,_,oa,oc,rfl,hO,⟨la',lc',CL',B ++ J,ds',hm',by rw [(jT ⟨sym,ds.map TD.t⟩ m).2],hL',hB'⟩,rfl⟩
theorem KI {G : zd} (hg : vj G) {Kc H : zd} {ka ma : OA} {kc mc : Nat} {key m : L8} (hkl : key.length <= 100000) (hk0 : key.length <= kc) (hk : Rd 1 [Kc] ka key.length (key.map b8)) (hml : m.length <= 100000) (hm : Rd 1 [H] ma m.length (m.map b8)) {C : zd} {b : Nat} {x : BX} (hC : RBox C b x) (hts : x.ts.length <= 1000) :
  zh prog 85 [pT b,.slice ka key.length kc,.slice ma m.length mc] [C,G,Kc,H] (ROut b (macX x key m) [G,Kc,H]) := by
 obtain ⟨la,lc,CL,B,ds,hds,rfl,hL,hB⟩ := hC;obtain ⟨sym,ts⟩ := x;simp only at hds hts;subst hds;rw [iA] at hts
 have k : zh prog 85 [pT b,.slice ka key.length kc,.slice ma m.length mc] [rbB b sym la ds.length lc,CL,B,G,Kc,H]
   fun v A => ∃ (O J J2 : zd) (oa : OA) (oc : Nat) (la' : OA) (lc' : Nat) (CL' : zd) (ds' : List TD),v = .slice oa (macX ⟨sym,ds.map TD.t⟩ key m).1.length oc /\ Own8 5 O oa (macX ⟨sym,ds.map TD.t⟩ key m).1.length oc (macX ⟨sym,ds.map TD.t⟩ key m).1 /\
    ds'.map TD.t = (macX ⟨sym,ds.map TD.t⟩ key m).2.ts /\ Ost.Own 6 258 CL' la' ds'.length lc' (ds'.flatMap TD.vs) /\ (∀ d ∈ ds',d.ok (B ++ (J ++ J2))) /\ A = [O,rbB b sym la' ds'.length lc',CL',B,J,J2,G,Kc,H] := by
  unfold macX;refine eN func85 ntmps85 results85 fun F => ?_
  refine zU ?_;refine zU ?_;refine gg ?_
  cases sym with
  | true =>
   rw [if_pos rfl];refine gg ?_;refine cA (kG Kc ka kc key oM hk) ?_;rintro v A ⟨J,ja,jc,rfl,hJ,rfl⟩;refine gA ?_;refine cA (kG H ma mc m oM hm) ?_;rintro v A ⟨J2,ia,ic,rfl,hJ2,rfl⟩;refine gA ?_;refine oTg [(0,.int .i64 2),(1,.slice ja key.length jc),(2,.slice ia m.length ic)] (tmV ⟨2,key,m,0⟩ ja jc ia ic).toArray ?_;refine cA (OJ ⟨2,key,m,0⟩ (hJ.rd (aA ..)) (hJ2.rd (aA ..)) b true ds hts hL hB) ?_;rintro v A ⟨O,oa,oc,la',lc',CL',ds',rfl,hO,hm',hL',hB',rfl⟩;refine gA ?_;refine ze [O,rbB b true la' ds'.length lc',CL',B,J,J2,G,Kc,H] ?_;exact ⟨O,J,J2,oa,oc,la',lc',CL',ds',rfl,hO,hm',hL',hB',rfl⟩
  | false =>
   rw [if_neg sM];refine gg ?_;refine cA (yW hg Kc H ka ma kc mc key m hkl hk0 hk hml hm) ?_;rintro v A ⟨O,oa,oc,rfl,hO,rfl⟩;refine gA ?_;refine ze [O,rbB b false la ds.length lc,CL,B,[],[],G,Kc,H] ?_;exact ⟨O,[],[],oa,oc,la,lc,CL,ds,rfl,hO,rfl,hL,fun d hd => ⟨rd_l (hB d hd).1,rd_l (hB d hd).2⟩,rfl⟩
 refine zh.conv [rbB b sym la ds.length lc,CL,B,G,Kc,H] (k) flA tkA ?_;rintro v A ⟨O,J,J2,oa,oc,la',lc',CL',ds',rfl,hO,hm',hL',hB',rfl⟩;exact ⟨[O,rbB b sym la' ds'.length lc' ++ (CL' ++ (B ++ (J ++ J2))),G,Kc,H],[O,rbB b sym la' ds'.length lc',CL',B,J,J2,G,Kc,H],flA,amA,O,_,oa,oc,rfl,hO,⟨la',lc',CL',B ++ (J ++ J2),ds',hm',by rw [(yj ⟨sym,ds.map TD.t⟩ key m).2],hL',hB'⟩,rfl⟩
theorem dX {G : zd} (hg : vj G) {Pc Sc : zd} {pa sa : OA} {pc sc : Nat} {pass salt : L8} (hp1 : pass.length <= 10000) (hp2 : pass.length <= pc) (hp3 : Rd 1 [Pc] pa pass.length (pass.map b8)) (hs1 : salt.length <= 10000) (hs2 : salt.length <= sc) (hs3 : Rd 1 [Sc] sa salt.length (salt.map b8)) (rounds : Nat) (hr1 : 1 <= rounds) (hr2 : rounds <= 64) {C : zd} {b : Nat} {x : BX} (hC : RBox C b x) (hts : x.ts.length <= 1000) :
  zh prog 84 [pT b,.slice pa pass.length pc,.slice sa salt.length sc,.int .i64 rounds] [C,G,Pc,Sc] (ROut b (strX x pass salt rounds) [G,Pc,Sc]) := by
 obtain ⟨la,lc,CL,B,ds,hds,rfl,hL,hB⟩ := hC;obtain ⟨sym,ts⟩ := x;simp only at hds hts;subst hds;rw [iA] at hts
 have k : zh prog 84 [pT b,.slice pa pass.length pc,.slice sa salt.length sc,.int .i64 rounds] [rbB b sym la ds.length lc,CL,B,G,Pc,Sc]
   fun v A => ∃ (O J J2 : zd) (oa : OA) (oc : Nat) (la' : OA) (lc' : Nat) (CL' : zd) (ds' : List TD),v = .slice oa (strX ⟨sym,ds.map TD.t⟩ pass salt rounds).1.length oc /\ Own8 5 O oa (strX ⟨sym,ds.map TD.t⟩ pass salt rounds).1.length oc (strX ⟨sym,ds.map TD.t⟩ pass salt rounds).1 /\
    ds'.map TD.t = (strX ⟨sym,ds.map TD.t⟩ pass salt rounds).2.ts /\ Ost.Own 6 258 CL' la' ds'.length lc' (ds'.flatMap TD.vs) /\ (∀ d ∈ ds',d.ok (B ++ (J ++ J2))) /\ A = [O,rbB b sym la' ds'.length lc',CL',B,J,J2,G,Pc,Sc] := by
  unfold strX;refine eN func84 ntmps84 results84 fun F => ?_
  refine zU ?_;refine zU ?_;refine gg ?_;rw [dF (oM : ¬ (rounds : Int) < 1)];refine gg ?_;rw [dF (oM : ¬ (64 : Int) < rounds)];refine gg ?_
  cases sym with
  | true =>
   rw [if_pos rfl];refine gg ?_;refine cA (kG Pc pa pc pass oM hp3) ?_;rintro v A ⟨J,ja,jc,rfl,hJ,rfl⟩;refine gA ?_;refine cA (kG Sc sa sc salt oM hs3) ?_;rintro v A ⟨J2,ia,ic,rfl,hJ2,rfl⟩;refine gA ?_;refine oTg [(0,.int .i64 3),(1,.slice ja pass.length jc),(2,.slice ia salt.length ic),(3,.int .i64 rounds)] (tmV ⟨3,pass,salt,rounds⟩ ja jc ia ic).toArray ?_;refine cA (OJ ⟨3,pass,salt,rounds⟩ (hJ.rd (aA ..)) (hJ2.rd (aA ..)) b true ds hts hL hB) ?_;rintro v A ⟨O,oa,oc,la',lc',CL',ds',rfl,hO,hm',hL',hB',rfl⟩;refine gA ?_;refine ze [O,rbB b true la' ds'.length lc',CL',B,J,J2,G,Pc,Sc] ?_;exact ⟨O,J,J2,oa,oc,la',lc',CL',ds',rfl,hO,hm',hL',hB',rfl⟩
  | false =>
   rw [if_neg sM];refine gg ?_;refine cA (Qj hg Pc Sc pa sa pc sc pass salt rounds 32 hr1 hr2 dM dM hp1 hp2 hp3 hs1 hs2 hs3) ?_;rintro v A ⟨O,oa,oc,rfl,hO,rfl⟩;refine gA ?_;refine ze [O,rbB b false la ds.length lc,CL,B,[],[],G,Pc,Sc] ?_;exact ⟨O,[],[],oa,oc,la,lc,CL,ds,rfl,hO,rfl,hL,fun d hd => ⟨rd_l (hB d hd).1,rd_l (hB d hd).2⟩,rfl⟩
 refine zh.conv [rbB b sym la ds.length lc,CL,B,G,Pc,Sc] (k) flA tkA ?_;rintro v A ⟨O,J,J2,oa,oc,la',lc',CL',ds',rfl,hO,hm',hL',hB',rfl⟩;exact ⟨[O,rbB b sym la' ds'.length lc' ++ (CL' ++ (B ++ (J ++ J2))),G,Pc,Sc],[O,rbB b sym la' ds'.length lc',CL',B,J,J2,G,Pc,Sc],flA,amA,O,_,oa,oc,rfl,hO,⟨la',lc',CL',B ++ (J ++ J2),ds',hm',by rw [(Ja ⟨sym,ds.map TD.t⟩ pass salt rounds).2],hL',hB'⟩,rfl⟩
open Go.Nam
theorem Jl (a : OA) (c : Nat) : zh prog 83 [.slice a 1 c,.int .i64 1] [] fun v A => v = .bool true /\ A = [] := by
 refine eNg func83 ntmps83 results83 fun F => ?_
 refine ze [] ?_;exact ⟨rfl,rfl⟩
instance tpRSec : xi prog 82 [(0,1),(1,1),(2,1),(3,1),(4,1)] := ⟨kM⟩
theorem bv {G : zd} (hg : vj G) {C S : zd} {b : Nat} {x : BX} (hC : RBox C b x) (hts : x.ts.length <= 900) (u p n q : L8) (hu : u.length <= 1000) (hp : p.length <= 1000) (hnl : n.length <= 1000) (hql : q.length <= 1000) (hun : xg u 32 = (n,0)) (hpq : xg p 64 = (q,0)) {sa : OA} {sc : Nat} (hsc : 1 <= sc) (hS : Rd 1 [S] sa 1 (([1] : L8).map b8)) :
  zh prog 31 [pT b,sT [116],sT u,sT p,.slice sa 1 sc,.int .i64 1] [C,G,S]
  fun v A => ∃ (W0 W1 W2 W3 C' : zd) (vs : LV),v = .tuple #[.agg vs.toArray,.int .i64 0] /\ SecW (W0 ++ (W1 ++ (W2 ++ W3))) vs (vP x n q).1 /\ RBox C' b (vP x n q).2 /\ A = [W0,W1,W2,W3,C',G,S] := by
 have hnm := kx u oM 32 dM;have hpw := kx p oM 64 dM;rw [hun] at hnm;rw [hpq] at hpw;refine eNg func31 ntmps31 results31 fun F => ?_
 refine oAg ([nS,.int .i64 0,nS,nS,nS] : LV).toArray fun b12 => ?_
 refine cR (Jp [116] dM) ?_;rw [show yg [116] = true from by decide +kernel];refine gg ?_;refine cR (hnm) ?_;refine cR (hpw) ?_;refine cR (Jl sa sc) ?_;refine zF ?_;refine xb (by simp only [maxLen];omega) (fun Q qa qc hQ => ?_);refine gg ?_;have kl1 := Ou x q [1] 1;have kt := Ja x q [1] 1;refine cA (dX hg oM hQ.1 (hQ.rd (aA ..)) dM hsc hS 1 dM dM hC oM) ?_;rintro v A ⟨Kk,C1,ka,kc,rfl,hKk,hC1,rfl⟩;refine gA ?_;unfold vP;simp only;generalize strX x q [1] 1 = k at *;refine zF ?_;refine xI ([67,108,105,101,110,116,32,75,101,121]) dM rfl (rfl) (fun b55 C55 ho55 => ?_);refine gg ?_;refine zF ?_;refine ZP ho55 pkA dM (fun C56 ho56 => ?_);refine gg ?_;have cl1 := XO k.2 k.1 tagC;have ct := yj k.2 k.1 tagC;refine cA (KI hg kl1 hKk.1 (hKk.rd (aA ..)) (m := tagC) dM (ho56.rd (aA ..)) hC1 oM) ?_;rintro v A ⟨M,C2,ma,mc,rfl,hM,hC2,rfl⟩;refine gA ?_;generalize macX k.2 k.1 tagC = c at *;refine cA (kG S sa sc [1] dM hS) ?_;rintro v A ⟨W0,wa,wc,rfl,hW0,rfl⟩;refine gA ?_;refine oTg [(0,.slice wa ([1] : L8).length wc),(1,.int .i64 1)] ([.slice wa ([1] : L8).length wc,.int .i64 1,nS,nS,nS] : LV).toArray ?_;refine oAg ([nS,.int .i64 0,nS,nS,nS] : LV).toArray fun b19 => ?_
 refine xd fun K hK => ?_;refine xo (vs := [.slice wa ([1] : L8).length wc,.int .i64 1,nS,nS,nS]) rfl (by
  intro v hv;simp only [aY,aT,or_false] at hv
  rcases hv with rfl | rfl | rfl | rfl | rfl <;> simp [Value.cell1]) upA (by rfl) ?_;refine hK _ _ ?_;clear hK K
 refine gg ?_;have hl1 := qW c.2 c.1;have ht := jT c.2 c.1;refine cA (wh hg oM (hM.rd (aA ..)) hC2 oM) ?_;rintro v A ⟨W1,C3,va,vc,rfl,hW1,hC3,rfl⟩;refine gA ?_;generalize jo c.2 c.1 = h at *;refine gM ?_;refine zF ?_;refine xI ([83,101,114,118,101,114,32,75,101,121]) dM rfl (rfl) (fun b68 C68 ho68 => ?_);refine gg ?_;refine zF ?_;refine ZP ho68 pkA dM (fun C69 ho69 => ?_);refine gg ?_;have sl1 := XO h.2 k.1 tagS;have st := yj h.2 k.1 tagS;refine cA (KI hg kl1 hKk.1 (hKk.rd (aA ..)) (m := tagS) dM (ho69.rd (aA ..)) hC3 oM) ?_;rintro v A ⟨W2,C4,ua,uc,rfl,hW2,hC4,rfl⟩;refine gA ?_;generalize macX h.2 k.1 tagS = s at *;refine gM ?_;have s58 : Value.string ⟨#[58]⟩ = sT [58] := rfl;rw [s58];refine zF ?_;rw [zV (by rw [aI];omega)];refine gg ?_;refine zF ?_;rw [zV (by rw [aB,aI,aI];omega)];refine gg ?_
 (try rw [s58])
 refine zF ?_;rw [zV (by rw [aB,aB,aI,aI];omega)];refine gg ?_;refine zF ?_;rw [zV (by rw [aB,aB,aB,aI,aI];omega)];refine gg ?_;rw [show n ++ [58] ++ [116] ++ [58] ++ q = xT n [116] q from rfl];have hcl : (xT n [116] q).length <= 3000 := by unfold xT;simp only [aB,aI];omega
 refine zF ?_;refine xb (by simp only [maxLen];omega) (fun X xa xc hX => ?_);refine gg ?_;have al1 := qW s.2 (xT n [116] q);have at_ := jT s.2 (xT n [116] q);refine cA (wh hg oM (hX.rd (aA ..)) hC4 oM) ?_;rintro v A ⟨W3,C5,ya,yc,rfl,hW3,hC5,rfl⟩;refine gA ?_;generalize jo s.2 (xT n [116] q) = a at *;refine gM ?_
 have hvc : ∀ v ∈ ([.slice wa ([1] : L8).length wc,.int .i64 1,.slice va h.1.length vc,.slice ua s.1.length uc,.slice ya a.1.length yc] : LV),Value.cell1 v := by
  intro v hv;simp only [aY,aT,or_false] at hv
  rcases hv with rfl | rfl | rfl | rfl | rfl <;> simp [Value.cell1]
 refine oLg [.slice wa ([1] : L8).length wc,.int .i64 1,.slice va h.1.length vc,.slice ua s.1.length uc,.slice ya a.1.length yc] rfl ?_;refine oSg [.slice wa ([1] : L8).length wc,.int .i64 1,.slice va h.1.length vc,.slice ua s.1.length uc,.slice ya a.1.length yc] rfl hvc ?_;refine zf (vs := [.agg ([.slice wa ([1] : L8).length wc,.int .i64 1,.slice va h.1.length vc,.slice ua s.1.length uc,.slice ya a.1.length yc] : LV).toArray,.int .i64 0]) [W0,W1,W2,W3,C5,G,S] ?_ (hr := hrA);exact ⟨W0,W1,W2,W3,C5,_,rfl,⟨wa,va,ua,ya,wc,vc,uc,yc,rfl,⟨hW0.1,hW1.1,hW2.1,hW3.1⟩,hl1,sl1,al1,rd_l (hW0.rd (aA ..)),rd_r (rd_l (hW1.rd (aA ..))),rd_r (rd_r (rd_l (hW2.rd (aA ..)))),rd_r (rd_r (rd_r (hW3.rd (aA ..))))⟩,hC5,rfl⟩
theorem bu {G : zd} (hg : vj G) {C S : zd} {b : Nat} {x : BX} (hC : RBox C b x) (hts : x.ts.length <= 900) (u p n q : L8) (hu : u.length <= 1000) (hp : p.length <= 1000) (hnl : n.length <= 1000) (hql : q.length <= 1000) (hun : xg u 32 = (n,0)) (hpq : xg p 64 = (q,0)) {sa : OA} {sc : Nat} (hsc : 1 <= sc) (hS : Rd 1 [S] sa 1 (([1] : L8).map b8)) :
  zh prog 31 [pT b,sT [116],sT u,sT p,.slice sa 1 sc,.int .i64 1] [C,G,S]
  fun v A => ∃ (W C' : zd) (vs : LV),v = .tuple #[.agg vs.toArray,.int .i64 0] /\ SecW W vs (vP x n q).1 /\ RBox C' b (vP x n q).2 /\ A = [W,C',G,S] :=
 (bv hg hC hts u p n q hu hp hnl hql hun hpq hsc hS).perm sM (fun v A' ⟨W0,W1,W2,W3,C',vs,hv,hW,hC',hA⟩ => ⟨[W0 ++ (W1 ++ (W2 ++ W3)),C',G,S],by rw [hA];simp,_,C',vs,hv,hW,hC',rfl⟩)
abbrev stB (s r1 : Nat) (last reads : Int) : zd := [(s,.cells #[.map (some r1),.int .u64 last,.int .u64 reads] 158 (0,0))]
abbrev kT (n : L8) (vs : LV) (gen : Int) (rev : Bool) : LV := sT [116] :: sT n :: (vs ++ [.int .u64 gen,nS,.bool rev])
abbrev crB (p : Nat) (n : L8) (vs : LV) (gen : Int) (rev : Bool) : zd := [(p,.cells (kT n vs gen rev).toArray 48 (0,0))]
abbrev tenM (r2 : Nat) : List (L8 × Value) := [([116],.map (some r2))]
instance tpSt : xi prog 158 [(0,1),(1,1),(2,1)] := ⟨kM⟩
section
variable {P : Program}
theorem ZN {t k e : TypeId} (h : TMap P t k e) (d : Nat) (a : Option Nat) (w : World) : (Op.equalIn (d + 1) t (.map a) (.map none)).run P w = .ok a.isNone w := by
 rw [Op.equalIn,Sem.run_bind,zL h.und]
 cases a <;> rfl
theorem map_eqlN {t k e : TypeId} {x y : Operand} {κ : Value -> Prop} [h : TMap P t k e] (a : Option Nat) :
  zk P (do eqGuard .eql t x y (.map a) (.map none);binOp .eql t (.map a) (.map none)) κ = κ (.bool a.isNone) :=
 zq (fun w => by
  have e : (do eqGuard .eql t x y (.map a) (.map none);binOp .eql t (.map a) (.map none) : Sem Value) = (do pure (.bool (<- Op.equalIn (9999 + 1) t (.map a) (.map none)))) := by
   cases a <;> rfl
  rw [e,Sem.run_bind,ZN h];rfl) κ
theorem map_neqN {t k e : TypeId} {x y : Operand} {κ : Value -> Prop} [h : TMap P t k e] (a : Option Nat) :
  zk P (do eqGuard .neq t x y (.map a) (.map none);binOp .neq t (.map a) (.map none)) κ = κ (.bool a.isSome) :=
 zq (fun w => by
  have e : (do eqGuard .neq t x y (.map a) (.map none);binOp .neq t (.map a) (.map none) : Sem Value) = (do pure (.bool (!(<- Op.equalIn (9999 + 1) t (.map a) (.map none))))) := by
   cases a <;> rfl
  rw [e,Sem.run_bind,ZN h];cases a <;> rfl) κ
end
theorem gK : zh prog 27 [] [] fun v A => ∃ s r1 M1,v = pT s /\ jg M1 r1 [] /\ A = [stB s r1 0 0,M1] := by
 refine eNg func27 ntmps27 results27 fun F => ?_
 refine zF ?_;refine VN fun r1 M1 hM => ?_
 refine gg ?_;refine oTg [(0,.map (some r1))] ([.map (some r1),.int .u64 0,.int .u64 0] : LV).toArray ?_;refine oBg fun s => ?_
 refine ze [stB s r1 0 0,M1] ?_;exact ⟨s,r1,M1,rfl,hM,rfl⟩
theorem Qp {s r1 r2 : Nat} {last reads : Int} {M1 : zd} (h1 : jg M1 r1 (tenM r2)) : zh prog 72 [pT s,sT [116]] [stB s r1 last reads,M1] fun v A => v = .map (some r2) /\ A = [stB s r1 last reads,M1] := by
 refine eNg func72 ntmps72 results72 fun F => ?_
 rw [show mget (tenM r2) [116] = some (.map (some r2)) from by simp [mget,tenM]];refine ze [stB s r1 last reads,M1] ?_;exact ⟨rfl,rfl⟩
theorem Oc {s r1 : Nat} {last reads : Int} {M1 : zd} (h1 : jg M1 r1 []) : zh prog 28 [pT s,sT [116]] [stB s r1 last reads,M1]
  fun v A => ∃ r2 M1' M2,v = .int .i64 0 /\ jg M1' r1 (tenM r2) /\ jg M2 r2 [] /\ A = [stB s r1 last reads,M1',M2] := by
 have hus : zh prog 72 [pT s,sT [116]] [stB s r1 last reads,M1] fun v A => v = .map none /\ A = [stB s r1 last reads,M1] := by
  refine eNg func72 ntmps72 results72 fun F => ?_
  rw [show mget ([] : List (L8 × Value)) [116] = none from rfl];refine ze [stB s r1 last reads,M1] ?_;exact ⟨rfl,rfl⟩
 refine eNg func28 ntmps28 results28 fun F => ?_
 refine cR (Xh [116] dM) ?_;rw [show yg [116] = true from by decide +kernel];refine gg ?_;refine cR (hus) ?_;refine zF ?_;rw [map_neqN];refine gg ?_;refine zF ?_;refine VN fun r2 M2 hM2 => ?_
 refine gg ?_;refine zF ?_;refine VM h1 pkA (fun M1' hM1 => ?_);refine gg ?_;refine ze [stB s r1 last reads,M1',M2] ?_;exact ⟨r2,M1',M2,rfl,hM1,hM2,rfl⟩
theorem Xu {s r1 p : Nat} {last reads gen : Int} {n : L8} {vs : LV} {rev : Bool} (hvl : vs.length = 5) (h0 : 0 <= last) (h1 : last < 1000000) : zh prog 59 [pT s,pT p] [stB s r1 last reads,crB p n vs gen rev]
  fun v A => v = .int .i64 0 /\ A = [stB s r1 (last + 1) reads,crB p n vs (last + 1) rev] := by
 obtain ⟨v0,v1,v2,v3,v4,rfl⟩ : ∃ v0 v1 v2 v3 v4,vs = [v0,v1,v2,v3,v4] := by
  match vs,hvl with
  | [a,b,c,d,e],_ => exact ⟨a,b,c,d,e,rfl⟩
 simp only [crB,kT,aC,aD];refine eNg func59 ntmps59 results59 fun F => ?_
 refine ze [stB s r1 (last + 1) reads,crB p n [v0,v1,v2,v3,v4] (last + 1) rev] ?_;exact ⟨rfl,rfl⟩
theorem ZK {s r1 r2 : Nat} {last reads : Int} {M1 M2 G : zd} {m : List (L8 × Value)} (hn : GNam G) (h1 : jg M1 r1 (tenM r2)) (h2 : jg M2 r2 m) (u : L8) (hu : u.length <= 100000) :
  zh prog 58 [pT s,sT [116],sT u] [stB s r1 last reads,M1,M2,G]
  fun v A => v = (if (xg u 32).2 = 0 then (mget m (xg u 32).1).getD (.pointer none) else .pointer none) /\ A = [stB s r1 last reads,M1,M2,G] := by
 refine eNg func58 ntmps58 results58 fun F => ?_
 refine cR (wj hn u hu) ?_
 by_cases h0 : (xg u 32).2 = 0
 ·rw [if_pos h0,h0];refine gg ?_;refine cR (Qp h1) ?_;refine ze [stB s r1 last reads,M1,M2,G] ?_;exact ⟨rfl,rfl⟩
 ·rw [if_neg h0,bne_iff_ne.2 h0];refine gg ?_;refine ze [stB s r1 last reads,M1,M2,G] ?_;exact ⟨rfl,rfl⟩
theorem Yn (a0 a1 a2 a3 : OA) (c0 c1 c2 c3 n1 n2 n3 : Nat) (h1 : n1 = 32) (h2 : n2 = 32) (h3 : n3 = 32) : zh prog 88 [.agg ([.slice a0 1 c0,.int .i64 1,.slice a1 n1 c1,.slice a2 n2 c2,.slice a3 n3 c3] : LV).toArray] [] fun v A => v = .bool true /\ A = [] := by
 subst h1 h2 h3;refine eNg func88 ntmps88 results88 fun F => ?_
 refine oBg fun b1 => ?_
 refine cR (Qy a0 c0) ?_;refine ze [] ?_;exact ⟨rfl,rfl⟩
theorem bp {W : zd} {vs : LV} {s : Sec} (hW : SecW W vs s) : zh prog 89 [.agg vs.toArray] [W]
  fun v A => ∃ (W0 W1 W2 W3 : zd) (vs' : LV),v = .agg vs'.toArray /\ SecW (W0 ++ (W1 ++ (W2 ++ W3))) vs' s /\ A = [W0,W1,W2,W3,W] := by
 obtain ⟨a0,a1,a2,a3,c0,c1,c2,c3,rfl,⟨k0,k1,k2,k3⟩,l1,l2,l3,r0,r1,r2,r3⟩ := hW;refine eNg func89 ntmps89 results89 fun F => ?_
 refine oBg fun b1 => ?_
 refine oAg ([nS,.int .i64 0,nS,nS,nS] : LV).toArray fun b2 => ?_
 refine cdLg [[0],[1],[3],[4],[6],[7],[9],[10],[2,0,4,7,10],[12],[5,0,7,10],[8,0,10],[11,0],[13,0],[14],[15,0],[16],[17,0],[18],[19,0]] ?_;refine dA (jl W a0 c0 [1] dM r0) ?_;rintro v A ⟨C3,d0,e0,rfl,ho3,rfl⟩;refine pC ?_;refine dA (jl W a1 c1 s.st oM r1) ?_;rintro v A ⟨C4,d1,e1,rfl,ho4,rfl⟩;refine pC ?_;refine dA (jl W a2 c2 s.sv oM r2) ?_;rintro v A ⟨C5,d2,e2,rfl,ho5,rfl⟩;refine pC ?_;refine dA (jl W a3 c3 s.ha oM r3) ?_;rintro v A ⟨C6,d3,e3,rfl,ho6,rfl⟩;refine pC ?_
 (try (refine zG ?_;(first | refine xJ trivial upA ?_ | refine xq trivial upA sM ?_);refine pD ?_;refine gg ?_))
 (try (refine zG ?_;(first | refine xJ trivial upA ?_ | refine xq trivial upA sM ?_);refine pD ?_;refine gg ?_))
 (try (refine zG ?_;(first | refine xJ trivial upA ?_ | refine xq trivial upA sM ?_);refine pD ?_;refine gg ?_))
 (try (refine zG ?_;(first | refine xJ trivial upA ?_ | refine xq trivial upA sM ?_);refine pD ?_;refine gg ?_))
 refine gM ?_
 have hc1 : ∀ u ∈ ([.slice d0 ([1] : L8).length e0,.int .i64 1,.slice d1 s.st.length e1,.slice d2 s.sv.length e2,.slice d3 s.ha.length e3] : LV),Value.cell1 u := by
  intro u hu;simp only [aY,aT,or_false] at hu
  rcases hu with rfl | rfl | rfl | rfl | rfl <;> simp [Value.cell1]
 refine oL [.slice d0 ([1] : L8).length e0,.int .i64 1,.slice d1 s.st.length e1,.slice d2 s.sv.length e2,.slice d3 s.ha.length e3] rfl ?_;refine oSg [.slice d0 ([1] : L8).length e0,.int .i64 1,.slice d1 s.st.length e1,.slice d2 s.sv.length e2,.slice d3 s.ha.length e3] rfl hc1 ?_;refine zf (vs := [.agg ([.slice d0 ([1] : L8).length e0,.int .i64 1,.slice d1 s.st.length e1,.slice d2 s.sv.length e2,.slice d3 s.ha.length e3] : LV).toArray]) [C3,C4,C5,C6,W] ?_ (hr := hrA);exact ⟨C3,C4,C5,C6,_,rfl,⟨d0,d1,d2,d3,e0,e1,e2,e3,rfl,⟨ho3.1,ho4.1,ho5.1,ho6.1⟩,l1,l2,l3,rd_l (ho3.rd (aA ..)),rd_r (rd_l (ho4.rd (aA ..))),rd_r (rd_r (rd_l (ho5.rd (aA ..)))),rd_r (rd_r (rd_r (ho6.rd (aA ..))))⟩,rfl⟩
theorem We {α : Type} (k : L8) (v : α) : ∀ m : List (L8 × α),mget (mput m k v) k = some v
 | [] => by simp [mput,mget]
 | (k',u) :: m => by
  simp only [mput]
  split
  ·simp [mget]
  ·rename_i h
   simp only [mget,if_neg h];exact We k v m
theorem Qx {W : zd} {vs : LV} {s : Sec} (hW : SecW W vs s) : zh prog 89 [.agg vs.toArray] [W]
  fun v A => ∃ (W' : zd) (vs' : LV),v = .agg vs'.toArray /\ SecW W' vs' s /\ A = [W',W] :=
 (bp hW).perm sM (fun v A' ⟨W0,W1,W2,W3,vs',hv,hW',hA⟩ => ⟨[W0 ++ (W1 ++ (W2 ++ W3)),W],by rw [hA];simp,_,vs',hv,hW',rfl⟩)
theorem qB {W : zd} {vs : LV} {s : Sec} (hW : SecW W vs s) : vs.length = 5 /\ ∀ v ∈ vs,Value.cell1 v := by
 obtain ⟨a0,a1,a2,a3,c0,c1,c2,c3,rfl,_⟩ := hW;refine ⟨rfl,fun v hv => ?_⟩;simp only [aY,aT,or_false] at hv
 rcases hv with rfl | rfl | rfl | rfl | rfl <;> simp [Value.cell1]
instance tpCr : xi prog 48 [(0,1),(1,1),(2,5),(7,1),(8,1),(9,1)] := ⟨kM⟩
theorem add_spec {s r1 r2 : Nat} {last reads : Int} {M1 M2 G W : zd} {m : List (L8 × Value)} (hn : GNam G) (h1 : jg M1 r1 (tenM r2)) (h2 : jg M2 r2 m) (hml : m.length < 32) (hl0 : 0 <= last) (hl1 : last < 1000) (u n : L8) (hu : u.length <= 1000) (hun : xg u 32 = (n,0)) (hno : mget m n = none) {vs : LV} {sec : Sec} (hW : SecW W vs sec) :
  zh prog 32 [pT s,sT [116],sT u,.agg vs.toArray] [stB s r1 last reads,M1,M2,G,W]
  fun v A => ∃ p M2' W' vs',v = .int .i64 0 /\ jg M2' r2 (mput m n (pT p)) /\ SecW W' vs' sec /\ A = [stB s r1 (last + 1) reads,M1,M2',crB p n vs' (last + 1) false,W',G,W] := by
 have hnm := wj hn u oM;rw [hun] at hnm;obtain ⟨hvl,hvc⟩ := qB hW;have hr := hW;obtain ⟨a0,a1,a2,a3,c0,c1,c2,c3,rfl,_,l1,l2,l3,_⟩ := hr;refine eNg func32 ntmps32 results32 fun F => ?_
 refine oBg fun b7 => ?_
 refine cR (Qp h1) ?_;refine zF ?_;rw [map_eqlN];refine gg ?_;refine cR (hnm) ?_;refine oLg [.slice a0 1 c0,.int .i64 1,.slice a1 sec.st.length c1,.slice a2 sec.sv.length c2,.slice a3 sec.ha.length c3] rfl ?_;refine cR (Yn a0 a1 a2 a3 c0 c1 c2 c3 _ _ _ l1 l2 l3) ?_;rw [hno];simp only [Option.getD_none];refine gg ?_;rw [dF (oM : ¬ (32 : Int) <= m.length)];refine gg ?_;rw [dF (oM : ¬ (9007199254740992 : Int) <= last)];refine gg ?_;refine oLg [.slice a0 1 c0,.int .i64 1,.slice a1 sec.st.length c1,.slice a2 sec.sv.length c2,.slice a3 sec.ha.length c3] rfl ?_;refine cA (Qx hW) ?_;rintro v A ⟨W',vs',rfl,hW',rfl⟩;refine gA ?_;have hW2 := hW';obtain ⟨e0,e1,e2,e3,f0,f1,f2,f3,rfl,_⟩ := hW2;refine oTg [(0,sT [116]),(1,sT n),(2,.agg ([.slice e0 1 f0,.int .i64 1,.slice e1 sec.st.length f1,.slice e2 sec.sv.length f2,.slice e3 sec.ha.length f3] : LV).toArray)] (kT n [.slice e0 1 f0,.int .i64 1,.slice e1 sec.st.length f1,.slice e2 sec.sv.length f2,.slice e3 sec.ha.length f3] 0 false).toArray ?_;refine oBg fun p => ?_
 refine zF ?_;refine VM h2 pkA (fun M2' hM2 => ?_);refine gg ?_;rw [We];simp only [iR];refine cR (Xu (s := s) (r1 := r1) (p := p) (reads := reads) (gen := 0) (n := n) (vs := [.slice e0 1 f0,.int .i64 1,.slice e1 sec.st.length f1,.slice e2 sec.sv.length f2,.slice e3 sec.ha.length f3]) (rev := false) rfl hl0 oM) ?_;refine ze [stB s r1 (last + 1) reads,M1,M2',crB p n [.slice e0 1 f0,.int .i64 1,.slice e1 sec.st.length f1,.slice e2 sec.sv.length f2,.slice e3 sec.ha.length f3] (last + 1) false,W',G,W] ?_;exact ⟨p,M2',W',_,rfl,hM2,hW',rfl⟩
abbrev rsB (s : Nat) (ta : OA) (tn tc : Nat) (la : OA) (ln lc : Nat) (last reads : Int) : zd := [(s,.cells #[.slice ta tn tc,.slice la ln lc,.int .u64 last,.int .u64 reads] 95 (0,0))]
abbrev cS (C : zd) (a : OA) (c : Nat) : Prop := Ost.Own 1 9 C a 1 c [sT [116]]
theorem in_none : zh prog 74 [nS,sT [116]] [] fun v A => v = .bool false /\ A = [] := by
 refine eNg func74 ntmps74 results74 fun F => ?_
 refine zM (fun q D L S => q = 0 /\ D = [] /\ L = [(9,.int .i64 0),(8,.int .i64 0)] /\ S = [F]) ⟨rfl,rfl,rfl,rfl⟩ ?_;rintro q D L S ⟨rfl,rfl,rfl,rfl⟩;refine gg ?_;refine ze [] ?_;exact ⟨rfl,rfl⟩
theorem in_one {T : zd} {a : OA} {c : Nat} (hT : cS T a c) : zh prog 74 [.slice a 1 c,sT [116]] [T] fun v A => v = .bool true /\ A = [T] := by
 refine eNg func74 ntmps74 results74 fun F => ?_
 refine zM (fun q D L S => q = 1 /\ D = [] /\ L = [(9,.int .i64 0),(8,.int .i64 1),(7,.slice a 1 c),(1,sT [116])] /\ S = [F,T]) ⟨rfl,rfl,rfl,rfl⟩ ?_;rintro q D L S ⟨rfl,rfl,rfl,rfl⟩;refine gg ?_
 (try rw [show Int.toNat 0 = 0 from rfl])
 refine zF ?_;refine kP (i := 0) hT rfl mmA ?_;refine gg ?_;refine ze [T] ?_;exact ⟨rfl,rfl⟩
theorem put_none : zh prog 75 [nS,sT [116]] [] fun v A => ∃ T a c,v = .slice a 1 c /\ cS T a c /\ A = [T] := by
 refine eN func75 ntmps75 results75 fun F => ?_
 refine zU ?_;refine gg ?_;refine zM (fun q D L S => q = 0 /\ D = [] /\ L = [(5,.int .i64 0),(0,nS),(1,sT [116])] /\ S = [[],F]) ⟨rfl,rfl,rfl,rfl⟩ ?_;rintro q D L S ⟨rfl,rfl,rfl,rfl⟩;refine gg ?_;refine yI 0 4 6 [[],[],[],[1,2],[0,1,2,3],[],[0,1,2,3,4,5],[0,1,2,3,4,5,6],[],[],[8,9],[0,1,2,3,4,5,6,7,8,9,10],[0,1,2,3,4,5,6,7,8,9,10,11]] [(1,false,[]),(2,false,[]),(3,false,[]),(5,false,[]),(8,false,[]),(9,false,[]),(10,false,[]),(0,true,[]),(4,true,[]),(6,true,[]),(7,true,[]),(11,true,[]),(12,true,[])] [[],[],[],[1,2],[0,1,2,3,5,6],[],[0,5],[0,1,2,3,4,5,6],[],[],[8,9],[0,1,2,3,4,5,6,7,8,9,10],[0,1,2,3,4,5,6,7,8,9,10,11]] [(1,false,[]),(2,false,[]),(3,false,[]),(5,false,[]),(8,false,[]),(9,false,[]),(10,false,[]),(0,true,[]),(6,true,[]),(4,true,[]),(7,true,[]),(11,true,[]),(12,true,[])] [[5,6],[],[],[1,2],[0,1,2,3,5,6],[],[5],[0,1,2,3,4,5,6],[],[],[8,9],[0,1,2,3,4,5,6,7,8,9,10],[0,1,2,3,4,5,6,7,8,9,10,11]] [(1,false,[]),(2,false,[]),(3,false,[]),(5,false,[]),(8,false,[]),(9,false,[]),(10,false,[]),(6,true,[]),(0,true,[]),(4,true,[]),(7,true,[]),(11,true,[]),(12,true,[])] ?_ ?_ ?_
 ·refine gg ?_;refine zG ?_;refine jD fun b0 C0 ho0 => ?_
  refine gg ?_;refine zG ?_;refine zu (e := 9) (s := 1) (hs := inferInstance) (by rfl) dM ho0 (.inr pkA) (vs := []) Rd.nil sM dM dM (fun C2 a2 c2 ho2 => ?_);refine gg ?_;refine zG ?_;refine jE rfl [sT [116]] dM rfl rfl (by simp [Value.cell1]) (fun b1 C1 ho1 => ?_);refine gg ?_;refine zG ?_;refine zu (e := 9) (s := 1) (hs := inferInstance) (by rfl) dM ho2 (.inr pkA) (ho1.rd mmA) (by simp [Value.cell1]) dM dM (fun C3 a3 c3 ho3 => ?_);refine gg ?_;refine zG ?_;refine zu (e := 9) (s := 1) (hs := inferInstance) (by rfl) dM ho3 (.inr pkA) (vs := []) Rd.nil sM dM dM (fun C4 a4 c4 ho4 => ?_);refine gg ?_
  (try (try refine dS ?_))
  (try refine gg ?_)
  exact ze [C4] ⟨C4,a4,c4,rfl,ho4,rfl⟩
 ·refine gg ?_;refine zG ?_;refine jD fun b0 C0 ho0 => ?_
  refine gg ?_;refine zG ?_;refine jE rfl [sT [116]] dM rfl rfl (by simp [Value.cell1]) (fun b1 C1 ho1 => ?_);refine gg ?_;refine zG ?_;refine zu (e := 9) (s := 1) (hs := inferInstance) (by rfl) dM ho0 (.inr pkA) (vs := []) Rd.nil sM dM dM (fun C2 a2 c2 ho2 => ?_);refine gg ?_;refine zG ?_;refine zu (e := 9) (s := 1) (hs := inferInstance) (by rfl) dM ho2 (.inr pkA) (ho1.rd mmA) (by simp [Value.cell1]) dM dM (fun C3 a3 c3 ho3 => ?_);refine gg ?_;refine zG ?_;refine zu (e := 9) (s := 1) (hs := inferInstance) (by rfl) dM ho3 (.inr pkA) (vs := []) Rd.nil sM dM dM (fun C4 a4 c4 ho4 => ?_);refine gg ?_
  (try (try refine dS ?_))
  (try refine gg ?_)
  exact ze [C4] ⟨C4,a4,c4,rfl,ho4,rfl⟩
 ·refine gg ?_;refine zG ?_;refine jE rfl [sT [116]] dM rfl rfl (by simp [Value.cell1]) (fun b1 C1 ho1 => ?_);refine gg ?_;refine zG ?_;refine jD fun b0 C0 ho0 => ?_
  refine gg ?_;refine zG ?_;refine zu (e := 9) (s := 1) (hs := inferInstance) (by rfl) dM ho0 (.inr pkA) (vs := []) Rd.nil sM dM dM (fun C2 a2 c2 ho2 => ?_);refine gg ?_;refine zG ?_;refine zu (e := 9) (s := 1) (hs := inferInstance) (by rfl) dM ho2 (.inr pkA) (ho1.rd mmA) (by simp [Value.cell1]) dM dM (fun C3 a3 c3 ho3 => ?_);refine gg ?_;refine zG ?_;refine zu (e := 9) (s := 1) (hs := inferInstance) (by rfl) dM ho3 (.inr pkA) (vs := []) Rd.nil sM dM dM (fun C4 a4 c4 ho4 => ?_);refine gg ?_
  (try (try refine dS ?_))
  (try refine gg ?_)
  exact ze [C4] ⟨C4,a4,c4,rfl,ho4,rfl⟩
theorem KS {s : Nat} {last reads : Int} : zh prog 29 [pT s,sT [116]] [rsB s none 0 0 none 0 0 last reads]
  fun v A => ∃ T a c,v = .int .i64 0 /\ cS T a c /\ A = [rsB s a 1 c none 0 0 last reads,T] := by
 refine eNg func29 ntmps29 results29 fun F => ?_
 refine cR (Jp [116] dM) ?_;rw [show yg [116] = true from by decide +kernel];refine gg ?_;refine cR (in_none) ?_;refine cA (put_none) ?_;rintro v A ⟨T,a,c,rfl,hT,rfl⟩;refine gA ?_;refine gM ?_;refine ze [rsB s a 1 c none 0 0 last reads,T] ?_;exact ⟨T,a,c,rfl,hT,rfl⟩
theorem YD (a0 a1 a2 a3 : OA) (c0 c1 c2 c3 n1 n2 n3 : Nat) (h1 : n1 = 32) (h2 : n2 = 32) (h3 : n3 = 32) : zh prog 90 [.agg ([.slice a0 1 c0,.int .i64 1,.slice a1 n1 c1,.slice a2 n2 c2,.slice a3 n3 c3] : LV).toArray] [] fun v A => v = .bool true /\ A = [] := by
 subst h1 h2 h3;refine eNg func90 ntmps90 results90 fun F => ?_
 refine oBg fun b1 => ?_
 refine cR (Jl a0 c0) ?_;refine ze [] ?_;exact ⟨rfl,rfl⟩
structure CD where
 n : L8
 v0 : Value
 v1 : Value
 v2 : Value
 v3 : Value
 v4 : Value
 gen : Int
 rev : Bool
abbrev CD.vs (d : CD) : LV := [d.v0,d.v1,d.v2,d.v3,d.v4]
abbrev CD.v (d : CD) : LV := [sT [116],sT d.n,d.v0,d.v1,d.v2,d.v3,d.v4,.int .u64 d.gen,nS,.bool d.rev]
def CD.ok (d : CD) : Prop := ∀ v ∈ d.v,Value.cell1 v
theorem QZ (d : CD) : d.v.length = 10 := rfl
abbrev OwnC (C : zd) (a : OA) (c : Nat) (ds : List CD) : Prop := Ost.Own 10 84 C a ds.length c (ds.flatMap CD.v)
theorem VU {ds : List CD} (h : ∀ d ∈ ds,d.ok) : ∀ v ∈ ds.flatMap CD.v,Value.cell1 v := by
 intro v hv;obtain ⟨d,hd,h1⟩ := List.mem_flatMap.1 hv;exact h d hd v h1
instance tpRCr : xi prog 84 [(0,1),(1,1),(2,5),(7,1),(8,1),(9,1)] := ⟨kM⟩
abbrev zcd : LV := [.string ⟨#[]⟩,.string ⟨#[]⟩,nS,.int .i64 0,nS,nS,nS,.int .u64 0,nS,.bool false]
theorem Yy {s : Nat} {ta la : OA} {tn tc lc : Nat} {last reads : Int} {CL : zd} {ds : List CD} (hds : ds.length <= 100) (hok : ∀ d ∈ ds,d.ok) (hL : OwnC CL la lc ds) :
  zh prog 91 [pT s,sT [116]] [rsB s ta tn tc la ds.length lc last reads,CL] fun v A => ∃ a c,v = .slice a ds.length c /\ A = [rsB s ta tn tc la ds.length lc last reads,CL] := by
 have hs := QZ;refine eNg func91 ntmps91 results91 fun F => ?_
 refine zU ?_
 refine zM (fun q D L S => ∃ (i : Nat) (U : zd) (ua : OA) (uc : Nat),i <= ds.length /\ OwnC U ua uc (ds.take i) /\ q = ds.length - i /\ D = [] /\
  L = [(15,.int .i64 i),(14,.int .i64 ds.length),(13,.slice la ds.length lc),(5,.slice ua (ds.take i).length uc),(1,sT [116])] /\
  S = [U,F,rsB s ta tn tc la ds.length lc last reads,CL]) ⟨0,[],none,0,oM,zJ,rfl,rfl,rfl,rfl⟩ ?_
 rintro q D L S ⟨i,U,ua,uc,hi,hU,rfl,rfl,rfl,rfl⟩;refine gg ?_;refine if_d (fun hc => ?_) (fun hc => ?_)
 ·have hil : i < ds.length := oM;have hx0 : ds[i]? = some ds[i] := aE hil;have hdo := hok _ (lT hil);have hnx : ds.take (i + 1) = ds.take i ++ [ds[i]] := by rw [lG,hx0];rfl
  have htl : (ds.take i).length <= 100 := by rw [aX];omega
  generalize ds[i] = d at *;refine gg ?_;refine zF ?_;refine xh hL hs hx0 dM mmA ?_;refine oA zcd.toArray fun b7 => ?_
  refine oSg d.v rfl hdo ?_;refine oL d.v rfl ?_;refine zF ?_;refine xt (e := 84) (s := 10) (hs := inferInstance) (vs := d.v) (by rfl) dM dM rfl (fun b1 C1 ho1 => ?_);refine zF ?_;refine zu (e := 84) (s := 10) (hs := inferInstance) (by rfl) dM hU (.inr pkA) (ho1.rd mmA) hdo (by simp only [maxLen];omega) oM (fun C3 a3 cap3 ho3 => ?_);have e1 : (ds.take i).length + 1 = (ds.take (i + 1)).length := by rw [hnx];simp
  have e2 : (ds.take i).flatMap CD.v ++ d.v = (ds.take (i + 1)).flatMap CD.v := by rw [hnx];simp
  rw [e1,e2] at ho3;rw [e1];refine gg ?_;exact zI ⟨i + 1,C3,a3,cap3,oM,ho3,rfl,rfl,rfl,rfl⟩
 ·refine gg ?_;refine ze [rsB s ta tn tc la ds.length lc last reads,CL] ?_;obtain rfl : i = ds.length := oM;rw [iK];exact ⟨ua,uc,rfl,rfl⟩
end Go.Proofs.YtebikhhoppiapaaGreatDoor
